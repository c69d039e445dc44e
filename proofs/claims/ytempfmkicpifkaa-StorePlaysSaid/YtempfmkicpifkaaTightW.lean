/- StoreTight answers true. -/
import Derived.Test.YtempfmkicpifkaaStoreN
import Derived.Test.YtempfmkicpifkaaAd5
import Derived.WideShapes4


set_option linter.unusedVariables false
set_option linter.unusedSectionVars false
set_option linter.unusedSimpArgs false
set_option linter.unnecessarySimpa false
namespace Go.Proofs.Ytempfmkicpifkaa
open Go.Ab
set_option maxRecDepth 10000

section
variable {h : HH} {c : Nat} {e : EE}
variable {call : Nat → Tgt → List V → M HH V} {W : V → HH → Nat → List Acc → Prop} {ds : Option Tmp} {ty : Nat} {pos : String} {af : Array Edge} {gd : Option (Nat × Bool)}
theorem op_convInt {s d : Nat} {x : Operand} {k k' : IntKind} {n : Int} {v : V} (hx : ev1 cx e x = some (.int k n)) (hs : cx.desc s = some (.int k)) (hd : cx.desc d = some (.int k')) (hv : V.int k' (k'.wrap n) = v) (q : W v h c []) :
    WpX (fun k => opM cx (call k) e ⟨ds, .convert s d x, ty, pos, af, gd⟩) h c W :=
  WpX.pure (fun k'' => by subst hv; simp only [opM, hx, lift, bnd, Ab.ret, convertM, hs, hd, List.nil_append, List.append_nil]) q
end
theorem set11 {X : EE} {k0 k1 k2 k3 k4 k5 k6 k7 k8 k9 ka : Nat} {v0 v1 v2 v3 v4 v5 v6 v7 v8 v9 va : V} (h0 : X k0 = some v0) (h1 : X k1 = some v1) (h2 : X k2 = some v2) (h3 : X k3 = some v3) (h4 : X k4 = some v4) (h5 : X k5 = some v5) (h6 : X k6 = some v6) (h7 : X k7 = some v7) (h8 : X k8 = some v8) (h9 : X k9 = some v9) (ha : X ka = some va) :
    ∃ b, X = MapI.set (MapI.set (MapI.set (MapI.set (MapI.set (MapI.set (MapI.set (MapI.set (MapI.set (MapI.set (MapI.set b k0 v0) k1 v1) k2 v2) k3 v3) k4 v4) k5 v5) k6 v6) k7 v7) k8 v8) k9 v9) ka va :=
  ⟨X, by rw [FM.add h0, FM.add h1, FM.add h2, FM.add h3, FM.add h4, FM.add h5, FM.add h6, FM.add h7, FM.add h8, FM.add h9, FM.add ha]⟩
theorem set9 {X : EE} {k0 k1 k2 k3 k4 k5 k6 k7 k8 : Nat} {v0 v1 v2 v3 v4 v5 v6 v7 v8 : V} (h0 : X k0 = some v0) (h1 : X k1 = some v1) (h2 : X k2 = some v2) (h3 : X k3 = some v3) (h4 : X k4 = some v4) (h5 : X k5 = some v5) (h6 : X k6 = some v6) (h7 : X k7 = some v7) (h8 : X k8 = some v8) : ∃ b, X = MapI.set (MapI.set (MapI.set (MapI.set (MapI.set (MapI.set (MapI.set (MapI.set (MapI.set b k0 v0) k1 v1) k2 v2) k3 v3) k4 v4) k5 v5) k6 v6) k7 v7) k8 v8 :=
  ⟨X, by rw [FM.add h0, FM.add h1, FM.add h2, FM.add h3, FM.add h4, FM.add h5, FM.add h6, FM.add h7, FM.add h8]⟩
theorem set7 {X : EE} {k0 k1 k2 k3 k4 k5 k6 : Nat} {v0 v1 v2 v3 v4 v5 v6 : V} (h0 : X k0 = some v0) (h1 : X k1 = some v1) (h2 : X k2 = some v2) (h3 : X k3 = some v3) (h4 : X k4 = some v4) (h5 : X k5 = some v5) (h6 : X k6 = some v6) : ∃ b, X = MapI.set (MapI.set (MapI.set (MapI.set (MapI.set (MapI.set (MapI.set b k0 v0) k1 v1) k2 v2) k3 v3) k4 v4) k5 v5) k6 v6 :=
  ⟨X, by rw [FM.add h0, FM.add h1, FM.add h2, FM.add h3, FM.add h4, FM.add h5, FM.add h6]⟩
theorem reps_flat : ∀ n : Nat, reps n [V.int .u8 0] = flat byteV (List.replicate n 0)
  | 0 => rfl
  | n + 1 => by rw [reps, reps_flat n, List.replicate_succ, flat_cons]; rfl
theorem set8 {X : EE} {k0 k1 k2 k3 k4 k5 k6 k7 : Nat} {v0 v1 v2 v3 v4 v5 v6 v7 : V} (h0 : X k0 = some v0) (h1 : X k1 = some v1) (h2 : X k2 = some v2) (h3 : X k3 = some v3) (h4 : X k4 = some v4) (h5 : X k5 = some v5) (h6 : X k6 = some v6) (h7 : X k7 = some v7) : ∃ b, X = MapI.set (MapI.set (MapI.set (MapI.set (MapI.set (MapI.set (MapI.set (MapI.set b k0 v0) k1 v1) k2 v2) k3 v3) k4 v4) k5 v5) k6 v6) k7 v7 :=
  ⟨X, by rw [FM.add h0, FM.add h1, FM.add h2, FM.add h3, FM.add h4, FM.add h5, FM.add h6, FM.add h7]⟩
theorem rowArg_keep {h h' : HH} {c c' : Nat} {v : V} {k len : Nat} {cs : List V} (r : RowArg h c v k len cs) (hc : c ≤ c') (e : ∀ n, n < c → MapI.get h' n = MapI.get h n) : RowArg h' c' v k len cs := by
  refine ⟨?_, r.size⟩
  rcases r.is with h1 | ⟨s, cap, h1, h2, h3, h4, h5⟩
  · exact .inl h1
  · exact .inr ⟨s, cap, h1, by omega, h3, h4, fun h0 => by rw [e s h2]; exact h5 h0⟩
theorem rowArg_slice {h : HH} {c : Nat} {v : V} {k len : Nat} {cs : List V} (r : RowArg h c v k len cs) : ∃ a cap, v = .slice a len (.known cap) ∧ (0 < len → ∃ s, a = some (s, 0) ∧ s < c ∧ MapI.get h s = some (.cells false false cs)) := by
  rcases r.is with ⟨rfl, rfl⟩ | ⟨s, cap, rfl, h2, h3, h4, h5⟩
  · exact ⟨none, 0, rfl, fun h => by omega⟩
  · exact ⟨_, cap, rfl, fun h => ⟨s, rfl, h2, h5 h⟩⟩
/-- A slice of bytes that was handed in: where it lies, how long, how much room; its bytes. -/
abbrev BV := (Option (Nat × Nat) × Nat × Nat) × List Int
def bv (a : BV) : V := .slice a.1.1 a.1.2.1 (.known a.1.2.2)
def heldV (a : BV) : List V := [bv a]
theorem held_all (a : BV) : (heldV a).all one1 = true := rfl
theorem held_len (a : BV) : (heldV a).length = 1 := rfl
theorem elH : ElT cx 92 22 0 := ⟨rfl, rfl, rfl, ⟨_, rfl, by decide⟩⟩
def bytesArg (h : HH) (c : Nat) (a : BV) : Prop := RowArg h c (bv a) 1 a.2.length (a.2.map (.int .u8)) ∧ ∀ z ∈ a.2, 0 ≤ z ∧ z < 256
theorem one_row {h : HH} {c : Nat} {v : V} {k len : Nat} {cs : List V} (r : RowArg h c v k len cs) : one1 v = true := by
  obtain ⟨a, cap, rfl, _⟩ := rowArg_slice r; rfl
theorem nth_held {l : List BV} {i : Nat} {a : BV} (h : l[i]? = some a) : nth (l.map heldV).flatten (0 + ((i : Nat) : Int).toNat * 1) = some (bv a) := by
  have := (nth_flat (cells := heldV) (k := 1) (xs := l) held_len h (Nat.lt_succ_self 0) []).trans (show nth (heldV a) 0 = some (bv a) from rfl)
  rw [List.append_nil] at this
  simpa [flat] using this
def boolV (b : Bool) : List V := [.bool b]
theorem nth_bool {l : List Bool} {i : Nat} {a : Bool} (h : l[i]? = some a) : nth (l.map boolV).flatten (0 + ((i : Nat) : Int).toNat * 1) = some (.bool a) := by
  have := (nth_flat (cells := boolV) (k := 1) (xs := l) (fun _ => rfl) h (Nat.lt_succ_self 0) []).trans (show nth (boolV a) 0 = some (.bool a) from rfl)
  rw [List.append_nil] at this
  simpa [flat] using this
def names (l : List BV) : List Nat := (l.map fun a => rowName (bv a)).flatten
theorem names_of {l : List BV} {a : BV} (h : a ∈ l) {n : Nat} (hn : n ∈ rowName (bv a)) : n ∈ names l := List.mem_flatten.2 ⟨_, List.mem_map.2 ⟨a, h, rfl⟩, hn⟩
def hdl (i : Nat) : Int := ((i + 1 : Nat) : Int)

/-- What the first loop keeps. -/
structure Kept (h0 : HH) (c0 : Nat) (bsl : List BV) (z p : Nat) (i : Nat) (h : HH) (c : Nat) (vb vr v10 v11 : V) (st : St) (held : List BV) (hs : List Nat) : Prop where
  at_ : StoreAt h c p vb vr st
  good : Good st
  most : st.most = z
  rows : st.rows.length ≤ i
  lh : ListOf 1 heldV h c v10 held
  lhs : ListOf 1 intV h c v11 (hs.map hdl)
  len : held.length = hs.length
  most_ : held.length ≤ i
  holds : ∀ (k : Nat) (a : BV) (j : Nat), held[k]? = some a → hs[k]? = some j → Holds st j a.2 1 ∧ a ∈ bsl
  new : ∀ n ∈ p :: (rowName vb ++ rowName vr), c0 ≤ n
  n10 : ∀ n ∈ rowName v10, c0 ≤ n ∧ n ∉ p :: (rowName vb ++ rowName vr)
  n11 : ∀ n ∈ rowName v11, c0 ≤ n ∧ n ∉ p :: (rowName vb ++ rowName vr) ∧ n ∉ rowName v10
  le : c0 ≤ c
  old : ∀ n, n < c0 → MapI.get h n = MapI.get h0 n

theorem Kept.keep {h0 : HH} {c0 : Nat} {bsl : List BV} {z p i : Nat} {h h' : HH} {c c' : Nat} {vb vr v10 v11 : V} {st : St} {held : List BV} {hs : List Nat} (k : Kept h0 c0 bsl z p i h c vb vr v10 v11 st held hs) (hc : c ≤ c') (e : ∀ n, n < c → MapI.get h' n = MapI.get h n) : Kept h0 c0 bsl z p i h' c' vb vr v10 v11 st held hs :=
  ⟨k.at_.keep hc e, k.good, k.most, k.rows, k.lh.keep hc fun n hn _ => e n hn, k.lhs.keep hc fun n hn _ => e n hn, k.len, k.most_, k.holds, k.new, k.n10, k.n11, by have := k.le; omega, fun n hn => by rw [e n (by have := k.le; omega)]; exact k.old n hn⟩
theorem get_split {α : Type} {l : List α} {x y : α} {k : Nat} (h : (l ++ [x])[k]? = some y) : (k < l.length ∧ l[k]? = some y) ∨ (k = l.length ∧ y = x) := by
  by_cases e : k < l.length
  · rw [List.getElem?_append_left e] at h; exact .inl ⟨e, h⟩
  · rw [List.getElem?_append_right (by omega)] at h
    obtain ⟨d, rfl⟩ : ∃ d, k = l.length + d := ⟨k - l.length, by omega⟩
    rw [Nat.add_sub_cancel_left] at h
    cases d with
    | zero => exact .inr ⟨rfl, by simpa using h.symm⟩
    | succ d => simp at h

set_option maxHeartbeats 16000000 in
theorem tight_law {h : HH} {c : Nat} {l d : V} {bsl : List BV} {ds : List Bool} {z : Nat} (hl : RowArg h c l 1 bsl.length (bsl.map heldV).flatten) (hgood : ∀ a ∈ bsl, bytesArg h c a) (hd : RowArg h c d 1 ds.length (ds.map boolV).flatten) (hz : z < 256) :
    Does 11 [l, d, .int .u8 z] h c (rowName l ++ (rowName d ++ names bsl)) fun v h' c' => v = .bool true := by
  refine does_of (enter (fn := Try.f11) Try.func11 rfl rfl (Nat.le_of_ble_eq_true rfl) ?_)
  repeat' (first
    | refine WpC.seq ?_
    | refine WpC.region ?_
    | refine WpC.drawn ?_
    | refine WpC.skip ?_
    | refine WpC.block ?_
    | refine WpC.exit ?_
    | refine WpC.ret ?_
    | refine WpO.nil ?_
    | refine WpO.cons rfl rfl (WpX.pure (fun _ => rfl) ⟨nolog, ?_⟩)
    | refine WpO.skip rfl rfl ?_
    | refine WpL.cons rfl rfl (WpX.pure (fun _ => rfl) ⟨nolog, ?_⟩)
    | refine WpL.skip rfl rfl ?_
    | refine seqQ_normal ?_
    | refine seqQ_ret ?_
    | refine seqQ_exit ?_
    | refine blkQ_normal ?_
    | refine blkQ_ret ?_
    | refine blkQ_out rfl ?_
    | refine blkQ_by rfl ?_)
  refine WpO.cons rfl rfl (call_at rfl sawake_ok (by simp) (Nat.le_refl _) fun v h1 c1 hc1 hfr1 hq => ?_)
  subst hq
  have hold1 : ∀ n, n < c → MapI.get h1 n = MapI.get h n := fun n hn => hfr1 n hn (by simp)
  obtain ⟨al, capl, rfl, hal⟩ := rowArg_slice hl
  obtain ⟨ad, capd, rfl, had⟩ := rowArg_slice hd
  repeat' (first
    | refine WpC.seq ?_
    | refine WpC.region ?_
    | refine WpC.drawn ?_
    | refine WpC.skip ?_
    | refine WpC.block ?_
    | refine WpC.exit ?_
    | refine WpC.ret ?_
    | refine WpO.nil ?_
    | refine WpO.cons rfl rfl (WpX.pure (fun _ => rfl) ⟨nolog, ?_⟩)
    | refine WpO.skip rfl rfl ?_
    | refine WpL.cons rfl rfl (WpX.pure (fun _ => rfl) ⟨nolog, ?_⟩)
    | refine WpL.skip rfl rfl ?_
    | refine seqQ_normal ?_
    | refine seqQ_ret ?_
    | refine seqQ_exit ?_
    | refine blkQ_normal ?_
    | refine blkQ_ret ?_
    | refine blkQ_out rfl ?_
    | refine blkQ_by rfl ?_)
  refine WpC.cond rfl (fun hb => by cases hb) (fun _ => ?_)
  repeat' (first
    | refine WpC.seq ?_
    | refine WpC.region ?_
    | refine WpC.drawn ?_
    | refine WpC.skip ?_
    | refine WpC.block ?_
    | refine WpC.exit ?_
    | refine WpC.ret ?_
    | refine WpO.nil ?_
    | refine WpO.cons rfl rfl (WpX.pure (fun _ => rfl) ⟨nolog, ?_⟩)
    | refine WpO.skip rfl rfl ?_
    | refine WpL.cons rfl rfl (WpX.pure (fun _ => rfl) ⟨nolog, ?_⟩)
    | refine WpL.skip rfl rfl ?_
    | refine seqQ_normal ?_
    | refine seqQ_ret ?_
    | refine seqQ_exit ?_
    | refine blkQ_normal ?_
    | refine blkQ_ret ?_
    | refine blkQ_out rfl ?_
    | refine blkQ_by rfl ?_
    | refine WpO.cons rfl rfl (op_len rfl rfl rfl ⟨(by simp [InL, Acc.name, rowName] <;> omega), ?_⟩)
    | refine WpL.cons rfl rfl (op_len rfl rfl rfl ⟨(by simp [InL, Acc.name, rowName] <;> omega), ?_⟩))
  refine WpC.cond rfl (fun hgt => ?_) (fun hle => ?_)
  ·
    repeat' (first
      | refine WpC.seq ?_
      | refine WpC.region ?_
      | refine WpC.drawn ?_
      | refine WpC.skip ?_
      | refine WpC.block ?_
      | refine WpC.exit ?_
      | refine WpC.ret ?_
      | refine WpO.nil ?_
      | refine WpO.cons rfl rfl (WpX.pure (fun _ => rfl) ⟨nolog, ?_⟩)
      | refine WpO.skip rfl rfl ?_
      | refine WpL.cons rfl rfl (WpX.pure (fun _ => rfl) ⟨nolog, ?_⟩)
      | refine WpL.skip rfl rfl ?_
      | refine seqQ_normal ?_
      | refine seqQ_ret ?_
      | refine seqQ_exit ?_
      | refine blkQ_normal ?_
      | refine blkQ_ret ?_
      | refine blkQ_out rfl ?_
      | refine blkQ_by rfl ?_)
    exact out_ret rfl rfl
  have hle : bsl.length ≤ 40 := by
    have : ¬ ((bsl.length : Nat) : Int) > 40 := by simpa using hle
    omega
  have hwz : IntKind.i64.wrap (z : Int) = (z : Int) := Go.IntWalk.i64_in _ (by omega)
  have hwv : V.int .i64 (IntKind.i64.wrap (z : Int)) = I z := congrArg _ hwz
  repeat' (first
    | refine WpO.cons rfl rfl (op_convInt rfl rfl rfl hwv ⟨nolog, ?_⟩)
    | refine WpC.seq ?_
    | refine WpC.region ?_
    | refine WpC.drawn ?_
    | refine WpC.skip ?_
    | refine WpC.block ?_
    | refine WpC.exit ?_
    | refine WpC.ret ?_
    | refine WpO.nil ?_
    | refine WpO.cons rfl rfl (WpX.pure (fun _ => rfl) ⟨nolog, ?_⟩)
    | refine WpO.skip rfl rfl ?_
    | refine WpL.cons rfl rfl (WpX.pure (fun _ => rfl) ⟨nolog, ?_⟩)
    | refine WpL.skip rfl rfl ?_
    | refine seqQ_normal ?_
    | refine seqQ_ret ?_
    | refine seqQ_exit ?_
    | refine blkQ_normal ?_
    | refine blkQ_ret ?_
    | refine blkQ_out rfl ?_
    | refine blkQ_by rfl ?_)
  refine WpO.cons rfl rfl (call_at rfl (snew_ok (by omega) (by omega)) (by simp) (by omega) fun v h2 c2 hc2 hfr2 hq => ?_)
  obtain ⟨rfl, rfl, r2⟩ := hq
  repeat' (first
    | refine WpC.seq ?_
    | refine WpC.region ?_
    | refine WpC.drawn ?_
    | refine WpC.skip ?_
    | refine WpC.block ?_
    | refine WpC.exit ?_
    | refine WpC.ret ?_
    | refine WpO.nil ?_
    | refine WpO.cons rfl rfl (WpX.pure (fun _ => rfl) ⟨nolog, ?_⟩)
    | refine WpO.skip rfl rfl ?_
    | refine WpL.cons rfl rfl (WpX.pure (fun _ => rfl) ⟨nolog, ?_⟩)
    | refine WpL.skip rfl rfl ?_
    | refine seqQ_normal ?_
    | refine seqQ_ret ?_
    | refine seqQ_exit ?_
    | refine blkQ_normal ?_
    | refine blkQ_ret ?_
    | refine blkQ_out rfl ?_
    | refine blkQ_by rfl ?_)
  refine WpC.cond rfl (fun hb => by cases hb) (fun _ => ?_)
  have K0 : Kept h c bsl z c1 0 h2 (c1 + 1) (.slice none 0 (.known 0)) (.slice none 0 (.known 0)) (.slice none 0 (.known 0)) (.slice none 0 (.known 0)) ⟨[], z, [], 0⟩ [] [] :=
    ⟨r2, good_new (by omega) (by omega), rfl, Nat.le_refl _, .nil, .nil, rfl, Nat.zero_le _, fun k a j h _ => by simp at h, fun n hn => by simp [rowName] at hn; omega, fun n hn => (by cases hn), fun n hn => (by cases hn), by omega, fun n hn => by rw [hfr2 n (by omega) (by simp)]; exact hold1 n hn⟩
  repeat' (first
    | refine WpC.seqI (a := Code.seq (Code.region 12 _ _) _) (fun e h' c' => ∃ st vb vr held hs v10 v11, (∃ b0, e = MapI.set (MapI.set (MapI.set (MapI.set (MapI.set (MapI.set b0 6 (.bool false)) 7 (I z)) 8 (.ptr (some (c1, 0)))) 9 (I st.live)) 10 v10) 11 v11) ∧ Kept h c bsl z c1 bsl.length h' c' vb vr v10 v11 st held hs) ?_ ?_
    | refine WpC.seq ?_
    | refine WpC.region ?_
    | refine WpC.drawn ?_
    | refine WpC.skip ?_
    | refine WpC.block ?_
    | refine WpC.exit ?_
    | refine WpC.ret ?_
    | refine WpO.nil ?_
    | refine WpO.cons rfl rfl (WpX.pure (fun _ => rfl) ⟨nolog, ?_⟩)
    | refine WpO.skip rfl rfl ?_
    | refine WpL.cons rfl rfl (WpX.pure (fun _ => rfl) ⟨nolog, ?_⟩)
    | refine WpL.skip rfl rfl ?_
    | refine seqQ_normal ?_
    | refine seqQ_ret ?_
    | refine seqQ_exit ?_
    | refine blkQ_normal ?_
    | refine blkQ_ret ?_
    | refine blkQ_out rfl ?_
    | refine blkQ_by rfl ?_)
  · refine WpC.loop ?_
    refine WpLoop.ind (X := Nat) (fun i e h' c' => ∃ st vb vr held hs v10 v11, (∃ b0, e = MapI.set (MapI.set (MapI.set (MapI.set (MapI.set (MapI.set (MapI.set (MapI.set (MapI.set b0 0 (.slice al bsl.length (.known capl))) 1 (.slice ad ds.length (.known capd))) 6 (.bool false)) 7 (I z)) 8 (.ptr (some (c1, 0)))) 9 (I st.live)) 10 v10) 11 v11) 12 (I i)) ∧ i ≤ bsl.length ∧ Kept h c bsl z c1 i h' c' vb vr v10 v11 st held hs)
      (fun i => bsl.length - i) ?_ 0 _ _ _ ⟨_, _, _, _, _, _, _, (set9 rfl rfl rfl rfl rfl rfl rfl rfl rfl), Nat.zero_le _, K0⟩
    rintro i e h' c' ⟨st, vb, vr, held, hs, v10, v11, ⟨b0, rfl⟩, hi, K⟩
    repeat' (first
      | refine WpC.seq ?_
      | refine WpC.region ?_
      | refine WpC.drawn ?_
      | refine WpC.skip ?_
      | refine WpC.block ?_
      | refine WpC.exit ?_
      | refine WpC.ret ?_
      | refine WpO.nil ?_
      | refine WpO.cons rfl rfl (WpX.pure (fun _ => rfl) ⟨nolog, ?_⟩)
      | refine WpO.skip rfl rfl ?_
      | refine WpL.cons rfl rfl (WpX.pure (fun _ => rfl) ⟨nolog, ?_⟩)
      | refine WpL.skip rfl rfl ?_
      | refine seqQ_normal ?_
      | refine seqQ_ret ?_
      | refine seqQ_exit ?_
      | refine blkQ_normal ?_
      | refine blkQ_ret ?_
      | refine blkQ_out rfl ?_
      | refine blkQ_by rfl ?_
      | refine WpO.cons rfl rfl (op_len rfl rfl rfl ⟨(by simp [InL, Acc.name, rowName] <;> omega), ?_⟩)
      | refine WpL.cons rfl rfl (op_len rfl rfl rfl ⟨(by simp [InL, Acc.name, rowName] <;> omega), ?_⟩))
    refine WpC.cond rfl (fun hlt => ?_) (fun hge => ?_)
    case refine_2 =>
      have hge : bsl.length ≤ i := by
        have : ¬ ((i : Nat) : Int) < (bsl.length : Nat) := by simpa using hge
        omega
      have e : i = bsl.length := by omega
      subst e
      repeat' (first
        | refine WpC.seq ?_
        | refine WpC.region ?_
        | refine WpC.drawn ?_
        | refine WpC.skip ?_
        | refine WpC.block ?_
        | refine WpC.exit ?_
        | refine WpC.ret ?_
        | refine WpO.nil ?_
        | refine WpO.cons rfl rfl (WpX.pure (fun _ => rfl) ⟨nolog, ?_⟩)
        | refine WpO.skip rfl rfl ?_
        | refine WpL.cons rfl rfl (WpX.pure (fun _ => rfl) ⟨nolog, ?_⟩)
        | refine WpL.skip rfl rfl ?_
        | refine seqQ_normal ?_
        | refine seqQ_ret ?_
        | refine seqQ_exit ?_
        | refine blkQ_normal ?_
        | refine blkQ_ret ?_
        | refine blkQ_out rfl ?_
        | refine blkQ_by rfl ?_)
      exact ⟨st, vb, vr, held, hs, v10, v11, set6 rfl rfl rfl rfl rfl rfl, K⟩
    have hlt : i < bsl.length := by
      have : ((i : Nat) : Int) < (bsl.length : Nat) := by simpa using hlt
      omega
    obtain ⟨sl, rfl, hsl, hgl⟩ := hal (by omega)
    obtain ⟨⟨⟨sa, an, ac⟩, ys⟩, ha⟩ : ∃ a, bsl[i]? = some a := ⟨_, List.getElem?_eq_getElem hlt⟩
    have ham := List.mem_of_getElem? ha
    have hgl' : MapI.get h' sl = some (.cells false false (bsl.map heldV).flatten) := by rw [K.old sl hsl]; exact hgl
    have hna := nth_held ha
    obtain ⟨hba, hbr⟩ := hgood _ ham
    have hlen : an = ys.length := by
      obtain ⟨x, cap, e1, _⟩ := rowArg_slice hba
      unfold bv at e1
      injection e1
    subst hlen
    have hbv : bv ((sa, ys.length, ac), ys) = .slice sa ys.length (.known ac) := rfl
    rw [hbv] at hna
    have hw1 : IntKind.i64.wrap ((i : Int) + 1) = ((i + 1 : Nat) : Int) := by rw [Go.IntWalk.i64_in _ (by omega)]; omega
    have hrow := K.rows
    have hgd := K.good
    have hlv := hgd.live0
    have hgf := hgd.fit
    have hgm := hgd.most
    have hkm := K.most
    have hle0 := K.le
    by_cases hbig : ys.length > 300
    · have e1 : decide (((ys.length : Nat) : Int) > 300) = true := by simp; omega
      repeat' (first
        | refine WpC.seq ?_
        | refine WpC.region ?_
        | refine WpC.drawn ?_
        | refine WpC.skip ?_
        | refine WpC.block ?_
        | refine WpC.exit ?_
        | refine WpC.ret ?_
        | refine WpO.nil ?_
        | refine WpO.cons rfl rfl (WpX.pure (fun _ => rfl) ⟨nolog, ?_⟩)
        | refine WpO.skip rfl rfl ?_
        | refine WpL.cons rfl rfl (WpX.pure (fun _ => rfl) ⟨nolog, ?_⟩)
        | refine WpL.skip rfl rfl ?_
        | refine seqQ_normal ?_
        | refine seqQ_ret ?_
        | refine seqQ_exit ?_
        | refine blkQ_normal ?_
        | refine blkQ_ret ?_
        | refine blkQ_out rfl ?_
        | refine blkQ_by rfl ?_
        | refine WpO.cons rfl rfl (op_indexAddr (k := 1) rfl rfl rfl rfl ⟨by omega, by omega⟩ ⟨(by simp [InL, Acc.name, rowName] <;> omega), ?_⟩)
        | refine WpL.cons rfl rfl (op_indexAddr (k := 1) rfl rfl rfl rfl ⟨by omega, by omega⟩ ⟨(by simp [InL, Acc.name, rowName] <;> omega), ?_⟩)
        | refine WpO.cons rfl rfl (op_load rfl rfl rfl hgl' hna ⟨(by simp [InL, Acc.name, rowName] <;> omega), ?_⟩)
        | refine WpL.cons rfl rfl (op_load rfl rfl rfl hgl' hna ⟨(by simp [InL, Acc.name, rowName] <;> omega), ?_⟩)
        | refine WpO.cons rfl rfl (op_len rfl rfl rfl ⟨(by simp [InL, Acc.name, rowName] <;> omega), ?_⟩)
        | refine WpL.cons rfl rfl (op_len rfl rfl rfl ⟨(by simp [InL, Acc.name, rowName] <;> omega), ?_⟩))
      simp only [e1]
      repeat' (first
        | refine WpC.seq ?_
        | refine WpC.region ?_
        | refine WpC.drawn ?_
        | refine WpC.skip ?_
        | refine WpC.block ?_
        | refine WpC.exit ?_
        | refine WpC.ret ?_
        | refine WpO.nil ?_
        | refine WpO.cons rfl rfl (WpX.pure (fun _ => rfl) ⟨nolog, ?_⟩)
        | refine WpO.skip rfl rfl ?_
        | refine WpL.cons rfl rfl (WpX.pure (fun _ => rfl) ⟨nolog, ?_⟩)
        | refine WpL.skip rfl rfl ?_
        | refine seqQ_normal ?_
        | refine seqQ_ret ?_
        | refine seqQ_exit ?_
        | refine blkQ_normal ?_
        | refine blkQ_ret ?_
        | refine blkQ_out rfl ?_
        | refine blkQ_by rfl ?_)
      refine WpC.cond rfl (fun _ => ?_) (fun hb => by cases hb)
      repeat' (first
        | refine WpC.seq ?_
        | refine WpC.region ?_
        | refine WpC.drawn ?_
        | refine WpC.skip ?_
        | refine WpC.block ?_
        | refine WpC.exit ?_
        | refine WpC.ret ?_
        | refine WpO.nil ?_
        | refine WpO.cons rfl rfl (WpX.pure (fun _ => rfl) ⟨nolog, ?_⟩)
        | refine WpO.skip rfl rfl ?_
        | refine WpL.cons rfl rfl (WpX.pure (fun _ => rfl) ⟨nolog, ?_⟩)
        | refine WpL.skip rfl rfl ?_
        | refine seqQ_normal ?_
        | refine seqQ_ret ?_
        | refine seqQ_exit ?_
        | refine blkQ_normal ?_
        | refine blkQ_ret ?_
        | refine blkQ_out rfl ?_
        | refine blkQ_by rfl ?_)
      exact out_ret rfl rfl
    have e1 : decide (((ys.length : Nat) : Int) > 300) = false := by simp; omega
    by_cases hzero : ys.length = 0
    · have e2 : (((ys.length : Nat) : Int) == 0) = true := by simp [hzero]
      repeat' (first
        | refine WpC.seq ?_
        | refine WpC.region ?_
        | refine WpC.drawn ?_
        | refine WpC.skip ?_
        | refine WpC.block ?_
        | refine WpC.exit ?_
        | refine WpC.ret ?_
        | refine WpO.nil ?_
        | refine WpO.cons rfl rfl (WpX.pure (fun _ => rfl) ⟨nolog, ?_⟩)
        | refine WpO.skip rfl rfl ?_
        | refine WpL.cons rfl rfl (WpX.pure (fun _ => rfl) ⟨nolog, ?_⟩)
        | refine WpL.skip rfl rfl ?_
        | refine seqQ_normal ?_
        | refine seqQ_ret ?_
        | refine seqQ_exit ?_
        | refine blkQ_normal ?_
        | refine blkQ_ret ?_
        | refine blkQ_out rfl ?_
        | refine blkQ_by rfl ?_
        | refine WpO.cons rfl rfl (op_indexAddr (k := 1) rfl rfl rfl rfl ⟨by omega, by omega⟩ ⟨(by simp [InL, Acc.name, rowName] <;> omega), ?_⟩)
        | refine WpL.cons rfl rfl (op_indexAddr (k := 1) rfl rfl rfl rfl ⟨by omega, by omega⟩ ⟨(by simp [InL, Acc.name, rowName] <;> omega), ?_⟩)
        | refine WpO.cons rfl rfl (op_load rfl rfl rfl hgl' hna ⟨(by simp [InL, Acc.name, rowName] <;> omega), ?_⟩)
        | refine WpL.cons rfl rfl (op_load rfl rfl rfl hgl' hna ⟨(by simp [InL, Acc.name, rowName] <;> omega), ?_⟩)
        | refine WpO.cons rfl rfl (op_len rfl rfl rfl ⟨(by simp [InL, Acc.name, rowName] <;> omega), ?_⟩)
        | refine WpL.cons rfl rfl (op_len rfl rfl rfl ⟨(by simp [InL, Acc.name, rowName] <;> omega), ?_⟩))
      simp only [e1]
      repeat' (first
        | refine WpC.seq ?_
        | refine WpC.region ?_
        | refine WpC.drawn ?_
        | refine WpC.skip ?_
        | refine WpC.block ?_
        | refine WpC.exit ?_
        | refine WpC.ret ?_
        | refine WpO.nil ?_
        | refine WpO.cons rfl rfl (WpX.pure (fun _ => rfl) ⟨nolog, ?_⟩)
        | refine WpO.skip rfl rfl ?_
        | refine WpL.cons rfl rfl (WpX.pure (fun _ => rfl) ⟨nolog, ?_⟩)
        | refine WpL.skip rfl rfl ?_
        | refine seqQ_normal ?_
        | refine seqQ_ret ?_
        | refine seqQ_exit ?_
        | refine blkQ_normal ?_
        | refine blkQ_ret ?_
        | refine blkQ_out rfl ?_
        | refine blkQ_by rfl ?_
        | refine WpO.cons rfl rfl (op_indexAddr (k := 1) rfl rfl rfl rfl ⟨by omega, by omega⟩ ⟨(by simp [InL, Acc.name, rowName] <;> omega), ?_⟩)
        | refine WpL.cons rfl rfl (op_indexAddr (k := 1) rfl rfl rfl rfl ⟨by omega, by omega⟩ ⟨(by simp [InL, Acc.name, rowName] <;> omega), ?_⟩)
        | refine WpO.cons rfl rfl (op_load rfl rfl rfl hgl' hna ⟨(by simp [InL, Acc.name, rowName] <;> omega), ?_⟩)
        | refine WpL.cons rfl rfl (op_load rfl rfl rfl hgl' hna ⟨(by simp [InL, Acc.name, rowName] <;> omega), ?_⟩)
        | refine WpO.cons rfl rfl (op_len rfl rfl rfl ⟨(by simp [InL, Acc.name, rowName] <;> omega), ?_⟩)
        | refine WpL.cons rfl rfl (op_len rfl rfl rfl ⟨(by simp [InL, Acc.name, rowName] <;> omega), ?_⟩))
      refine WpC.cond rfl (fun _ => ?_) (fun hb => by rw [e2] at hb; cases hb)
      repeat' (first
        | refine WpC.seq ?_
        | refine WpC.region ?_
        | refine WpC.drawn ?_
        | refine WpC.skip ?_
        | refine WpC.block ?_
        | refine WpC.exit ?_
        | refine WpC.ret ?_
        | refine WpO.nil ?_
        | refine WpO.cons rfl rfl (WpX.pure (fun _ => rfl) ⟨nolog, ?_⟩)
        | refine WpO.skip rfl rfl ?_
        | refine WpL.cons rfl rfl (WpX.pure (fun _ => rfl) ⟨nolog, ?_⟩)
        | refine WpL.skip rfl rfl ?_
        | refine seqQ_normal ?_
        | refine seqQ_ret ?_
        | refine seqQ_exit ?_
        | refine blkQ_normal ?_
        | refine blkQ_ret ?_
        | refine blkQ_out rfl ?_
        | refine blkQ_by rfl ?_)
      exact out_ret rfl rfl
    have e2 : (((ys.length : Nat) : Int) == 0) = false := beq_eq_false_iff_ne.2 (by omega)
    obtain ⟨m, rfl, hmc, hgm0⟩ : ∃ m, sa = some (m, 0) ∧ m < c ∧ MapI.get h m = some (.cells false false (ys.map (.int .u8))) := by
      obtain ⟨x, cap, q1, q2⟩ := rowArg_slice hba
      injection q1 with q3
      subst q3
      obtain ⟨s, q4, q5, q6⟩ := q2 (Nat.pos_of_ne_zero hzero)
      exact ⟨s, q4, q5, q6⟩
    have hgm' : MapI.get h' m = some (.cells false false (flat byteV ys)) := by rw [K.old m hmc, flat_byte]; exact hgm0
    have hcy : cut (flat byteV ys) 0 (ys.length * 1) = some (flat byteV ys) := by
      have := cut_all (cs := flat byteV ys)
      rw [flat_length byte_len] at this
      exact this
    have hmn : m ∉ c1 :: (rowName vb ++ rowName vr) := fun hm => by have := K.new m hm; omega
    have hmnames : m ∈ names bsl := names_of ham (by simp [bv, rowName])
    have hw2 : IntKind.i64.wrap (st.live + (ys.length : Int)) = st.live + ys.length := Go.IntWalk.i64_in _ (by omega)
    repeat' (first
      | refine WpC.seq ?_
      | refine WpC.region ?_
      | refine WpC.drawn ?_
      | refine WpC.skip ?_
      | refine WpC.block ?_
      | refine WpC.exit ?_
      | refine WpC.ret ?_
      | refine WpO.nil ?_
      | refine WpO.cons rfl rfl (WpX.pure (fun _ => rfl) ⟨nolog, ?_⟩)
      | refine WpO.skip rfl rfl ?_
      | refine WpL.cons rfl rfl (WpX.pure (fun _ => rfl) ⟨nolog, ?_⟩)
      | refine WpL.skip rfl rfl ?_
      | refine seqQ_normal ?_
      | refine seqQ_ret ?_
      | refine seqQ_exit ?_
      | refine blkQ_normal ?_
      | refine blkQ_ret ?_
      | refine blkQ_out rfl ?_
      | refine blkQ_by rfl ?_
      | refine WpO.cons rfl rfl (op_indexAddr (k := 1) rfl rfl rfl rfl ⟨by omega, by omega⟩ ⟨(by simp [InL, Acc.name, rowName] <;> omega), ?_⟩)
      | refine WpL.cons rfl rfl (op_indexAddr (k := 1) rfl rfl rfl rfl ⟨by omega, by omega⟩ ⟨(by simp [InL, Acc.name, rowName] <;> omega), ?_⟩)
      | refine WpO.cons rfl rfl (op_load rfl rfl rfl hgl' hna ⟨(by simp [InL, Acc.name, rowName] <;> omega), ?_⟩)
      | refine WpL.cons rfl rfl (op_load rfl rfl rfl hgl' hna ⟨(by simp [InL, Acc.name, rowName] <;> omega), ?_⟩)
      | refine WpO.cons rfl rfl (op_len rfl rfl rfl ⟨(by simp [InL, Acc.name, rowName] <;> omega), ?_⟩)
      | refine WpL.cons rfl rfl (op_len rfl rfl rfl ⟨(by simp [InL, Acc.name, rowName] <;> omega), ?_⟩))
    simp only [e1]
    repeat' (first
      | refine WpC.seq ?_
      | refine WpC.region ?_
      | refine WpC.drawn ?_
      | refine WpC.skip ?_
      | refine WpC.block ?_
      | refine WpC.exit ?_
      | refine WpC.ret ?_
      | refine WpO.nil ?_
      | refine WpO.cons rfl rfl (WpX.pure (fun _ => rfl) ⟨nolog, ?_⟩)
      | refine WpO.skip rfl rfl ?_
      | refine WpL.cons rfl rfl (WpX.pure (fun _ => rfl) ⟨nolog, ?_⟩)
      | refine WpL.skip rfl rfl ?_
      | refine seqQ_normal ?_
      | refine seqQ_ret ?_
      | refine seqQ_exit ?_
      | refine blkQ_normal ?_
      | refine blkQ_ret ?_
      | refine blkQ_out rfl ?_
      | refine blkQ_by rfl ?_
      | refine WpO.cons rfl rfl (op_indexAddr (k := 1) rfl rfl rfl rfl ⟨by omega, by omega⟩ ⟨(by simp [InL, Acc.name, rowName] <;> omega), ?_⟩)
      | refine WpL.cons rfl rfl (op_indexAddr (k := 1) rfl rfl rfl rfl ⟨by omega, by omega⟩ ⟨(by simp [InL, Acc.name, rowName] <;> omega), ?_⟩)
      | refine WpO.cons rfl rfl (op_load rfl rfl rfl hgl' hna ⟨(by simp [InL, Acc.name, rowName] <;> omega), ?_⟩)
      | refine WpL.cons rfl rfl (op_load rfl rfl rfl hgl' hna ⟨(by simp [InL, Acc.name, rowName] <;> omega), ?_⟩)
      | refine WpO.cons rfl rfl (op_len rfl rfl rfl ⟨(by simp [InL, Acc.name, rowName] <;> omega), ?_⟩)
      | refine WpL.cons rfl rfl (op_len rfl rfl rfl ⟨(by simp [InL, Acc.name, rowName] <;> omega), ?_⟩))
    refine WpC.cond rfl (fun hb => by rw [e2] at hb; cases hb) (fun _ => ?_)
    repeat' (first
      | refine WpC.seq ?_
      | refine WpC.region ?_
      | refine WpC.drawn ?_
      | refine WpC.skip ?_
      | refine WpC.block ?_
      | refine WpC.exit ?_
      | refine WpC.ret ?_
      | refine WpO.nil ?_
      | refine WpO.cons rfl rfl (WpX.pure (fun _ => rfl) ⟨nolog, ?_⟩)
      | refine WpO.skip rfl rfl ?_
      | refine WpL.cons rfl rfl (WpX.pure (fun _ => rfl) ⟨nolog, ?_⟩)
      | refine WpL.skip rfl rfl ?_
      | refine seqQ_normal ?_
      | refine seqQ_ret ?_
      | refine seqQ_exit ?_
      | refine blkQ_normal ?_
      | refine blkQ_ret ?_
      | refine blkQ_out rfl ?_
      | refine blkQ_by rfl ?_
      | refine WpO.cons rfl rfl (op_indexAddr (k := 1) rfl rfl rfl rfl ⟨by omega, by omega⟩ ⟨(by simp [InL, Acc.name, rowName] <;> omega), ?_⟩)
      | refine WpL.cons rfl rfl (op_indexAddr (k := 1) rfl rfl rfl rfl ⟨by omega, by omega⟩ ⟨(by simp [InL, Acc.name, rowName] <;> omega), ?_⟩)
      | refine WpO.cons rfl rfl (op_load rfl rfl rfl hgl' hna ⟨(by simp [InL, Acc.name, rowName] <;> omega), ?_⟩)
      | refine WpL.cons rfl rfl (op_load rfl rfl rfl hgl' hna ⟨(by simp [InL, Acc.name, rowName] <;> omega), ?_⟩))
    by_cases hroom : st.live ≤ st.most - ys.length
    case neg =>
      refine WpO.cons rfl rfl (call_at rfl (grant_no K.at_ (by omega) (by omega) hgm (by omega)) (fun n hn => .inr (by simp at hn; rw [hn]; exact K.new c1 (by simp))) hle0 fun v h4 c4 hc4 hfr4 hq => ?_)
      obtain ⟨rfl, rfl, rfl⟩ := hq
      repeat' (first
        | refine WpC.seq ?_
        | refine WpC.region ?_
        | refine WpC.drawn ?_
        | refine WpC.skip ?_
        | refine WpC.block ?_
        | refine WpC.exit ?_
        | refine WpC.ret ?_
        | refine WpO.nil ?_
        | refine WpO.cons rfl rfl (WpX.pure (fun _ => rfl) ⟨nolog, ?_⟩)
        | refine WpO.skip rfl rfl ?_
        | refine WpL.cons rfl rfl (WpX.pure (fun _ => rfl) ⟨nolog, ?_⟩)
        | refine WpL.skip rfl rfl ?_
        | refine seqQ_normal ?_
        | refine seqQ_ret ?_
        | refine seqQ_exit ?_
        | refine blkQ_normal ?_
        | refine blkQ_ret ?_
        | refine blkQ_out rfl ?_
        | refine blkQ_by rfl ?_
        | refine WpO.cons rfl rfl (op_indexAddr (k := 1) rfl rfl rfl rfl ⟨by omega, by omega⟩ ⟨(by simp [InL, Acc.name, rowName] <;> omega), ?_⟩)
        | refine WpL.cons rfl rfl (op_indexAddr (k := 1) rfl rfl rfl rfl ⟨by omega, by omega⟩ ⟨(by simp [InL, Acc.name, rowName] <;> omega), ?_⟩)
        | refine WpO.cons rfl rfl (op_load rfl rfl rfl hgl' hna ⟨(by simp [InL, Acc.name, rowName] <;> omega), ?_⟩)
        | refine WpL.cons rfl rfl (op_load rfl rfl rfl hgl' hna ⟨(by simp [InL, Acc.name, rowName] <;> omega), ?_⟩)
        | refine WpO.cons rfl rfl (op_len rfl rfl rfl ⟨(by simp [InL, Acc.name, rowName] <;> omega), ?_⟩)
        | refine WpL.cons rfl rfl (op_len rfl rfl rfl ⟨(by simp [InL, Acc.name, rowName] <;> omega), ?_⟩))
      refine WpC.cond rfl (fun hb => ?_) (fun _ => ?_)
      · rw [hw2] at hb
        simp at hb
        omega
      repeat' (first
        | refine WpC.seq ?_
        | refine WpC.region ?_
        | refine WpC.drawn ?_
        | refine WpC.skip ?_
        | refine WpC.block ?_
        | refine WpC.exit ?_
        | refine WpC.ret ?_
        | refine WpO.nil ?_
        | refine WpO.cons rfl rfl (WpX.pure (fun _ => rfl) ⟨nolog, ?_⟩)
        | refine WpO.skip rfl rfl ?_
        | refine WpL.cons rfl rfl (WpX.pure (fun _ => rfl) ⟨nolog, ?_⟩)
        | refine WpL.skip rfl rfl ?_
        | refine seqQ_normal ?_
        | refine seqQ_ret ?_
        | refine seqQ_exit ?_
        | refine blkQ_normal ?_
        | refine blkQ_ret ?_
        | refine blkQ_out rfl ?_
        | refine blkQ_by rfl ?_)
      refine WpC.cond rfl (fun _ => ?_) (fun hb => by cases hb)
      repeat' (first
        | refine WpC.seq ?_
        | refine WpC.region ?_
        | refine WpC.drawn ?_
        | refine WpC.skip ?_
        | refine WpC.block ?_
        | refine WpC.exit ?_
        | refine WpC.ret ?_
        | refine WpO.nil ?_
        | refine WpO.cons rfl rfl (WpX.pure (fun _ => rfl) ⟨nolog, ?_⟩)
        | refine WpO.skip rfl rfl ?_
        | refine WpL.cons rfl rfl (WpX.pure (fun _ => rfl) ⟨nolog, ?_⟩)
        | refine WpL.skip rfl rfl ?_
        | refine seqQ_normal ?_
        | refine seqQ_ret ?_
        | refine seqQ_exit ?_
        | refine blkQ_normal ?_
        | refine blkQ_ret ?_
        | refine blkQ_out rfl ?_
        | refine blkQ_by rfl ?_)
      refine ⟨i + 1, by omega, ⟨st, vb, vr, held, hs, v10, v11, ?_, by omega, ?_⟩⟩
      · rw [hw1]
        exact set9 rfl rfl rfl rfl rfl rfl rfl rfl rfl
      · exact ⟨K.at_, K.good, K.most, by omega, K.lh, K.lhs, K.len, by have := K.most_; omega, K.holds, K.new, K.n10, K.n11, K.le, K.old⟩
    refine WpO.cons rfl rfl (call_at rfl (grant_good (ys := ys) K.at_ hgd (by omega) (by omega) rfl hgm' hcy hroom (by omega) (by omega) hmn) (fun n hn => by
      rcases List.mem_cons.1 hn with rfl | hn
      · exact .inl (by simp [hmnames])
      · exact .inr (K.new n hn)) hle0 fun v h4 c4 hc4 hfr4 hq => ?_)
    obtain ⟨hx4, j, vb4, vr4, st4, rfl, r4, hnm4, g4, hlive4, hmost4, hrows4, hdead, hj4, hkeep4, _⟩ := hq
    have hold4 : ∀ n, n < c → MapI.get h4 n = MapI.get h n := fun n hn => by
      by_cases e : n = m
      · subst e; rw [hx4]; exact K.old n hn
      · rw [hfr4 n (by omega) (fun hm => by
          rcases List.mem_cons.1 hm with h | h
          · exact e h
          · have := K.new n h; omega)]
        exact K.old n hn
    have hgl4 : MapI.get h4 sl = some (.cells false false (bsl.map heldV).flatten) := by rw [hold4 sl hsl]; exact hgl
    have hnew4 : ∀ n ∈ c1 :: (rowName vb4 ++ rowName vr4), c ≤ n := fun n hn => by
      rcases List.mem_cons.1 hn with rfl | hn
      · exact K.new n (by simp)
      · rcases hnm4 n hn with h | h
        · exact K.new n (List.mem_cons_of_mem _ h)
        · omega
    repeat' (first
      | refine WpC.seq ?_
      | refine WpC.region ?_
      | refine WpC.drawn ?_
      | refine WpC.skip ?_
      | refine WpC.block ?_
      | refine WpC.exit ?_
      | refine WpC.ret ?_
      | refine WpO.nil ?_
      | refine WpO.cons rfl rfl (WpX.pure (fun _ => rfl) ⟨nolog, ?_⟩)
      | refine WpO.skip rfl rfl ?_
      | refine WpL.cons rfl rfl (WpX.pure (fun _ => rfl) ⟨nolog, ?_⟩)
      | refine WpL.skip rfl rfl ?_
      | refine seqQ_normal ?_
      | refine seqQ_ret ?_
      | refine seqQ_exit ?_
      | refine blkQ_normal ?_
      | refine blkQ_ret ?_
      | refine blkQ_out rfl ?_
      | refine blkQ_by rfl ?_
      | refine WpO.cons rfl rfl (op_indexAddr (k := 1) rfl rfl rfl rfl ⟨by omega, by omega⟩ ⟨(by simp [InL, Acc.name, rowName] <;> omega), ?_⟩)
      | refine WpL.cons rfl rfl (op_indexAddr (k := 1) rfl rfl rfl rfl ⟨by omega, by omega⟩ ⟨(by simp [InL, Acc.name, rowName] <;> omega), ?_⟩)
      | refine WpO.cons rfl rfl (op_load rfl rfl rfl hgl4 hna ⟨(by simp [InL, Acc.name, rowName] <;> omega), ?_⟩)
      | refine WpL.cons rfl rfl (op_load rfl rfl rfl hgl4 hna ⟨(by simp [InL, Acc.name, rowName] <;> omega), ?_⟩)
      | refine WpO.cons rfl rfl (op_len rfl rfl rfl ⟨(by simp [InL, Acc.name, rowName] <;> omega), ?_⟩)
      | refine WpL.cons rfl rfl (op_len rfl rfl rfl ⟨(by simp [InL, Acc.name, rowName] <;> omega), ?_⟩))
    refine WpC.cond rfl (fun hb => ?_) (fun _ => ?_)
    · rw [hw2] at hb
      simp at hb
      omega
    repeat' (first
      | refine WpC.seq ?_
      | refine WpC.region ?_
      | refine WpC.drawn ?_
      | refine WpC.skip ?_
      | refine WpC.block ?_
      | refine WpC.exit ?_
      | refine WpC.ret ?_
      | refine WpO.nil ?_
      | refine WpO.cons rfl rfl (WpX.pure (fun _ => rfl) ⟨nolog, ?_⟩)
      | refine WpO.skip rfl rfl ?_
      | refine WpL.cons rfl rfl (WpX.pure (fun _ => rfl) ⟨nolog, ?_⟩)
      | refine WpL.skip rfl rfl ?_
      | refine seqQ_normal ?_
      | refine seqQ_ret ?_
      | refine seqQ_exit ?_
      | refine blkQ_normal ?_
      | refine blkQ_ret ?_
      | refine blkQ_out rfl ?_
      | refine blkQ_by rfl ?_)
    refine WpC.cond rfl (fun hb => by cases hb) (fun _ => ?_)
    have hgm4 := g4.most
    have hlv4 := g4.live0
    have hgf4 := g4.fit
    have hw3 : IntKind.i64.wrap (st.live + (ys.length : Int)) = st4.live := by rw [hw2, hlive4]
    have lh4 : ListOf 1 heldV h4 c4 v10 held := K.lh.keep hc4 fun n hn hm => hfr4 n hn fun hx => by
      rcases List.mem_cons.1 hx with h | h
      · have := (K.n10 n hm).1; omega
      · exact (K.n10 n hm).2 h
    have lhs4 : ListOf 1 intV h4 c4 v11 (hs.map hdl) := K.lhs.keep hc4 fun n hn hm => hfr4 n hn fun hx => by
      rcases List.mem_cons.1 hx with h | h
      · have := (K.n11 n hm).1; omega
      · exact (K.n11 n hm).2.1 h
    have n104 : ∀ n ∈ rowName v10, c ≤ n ∧ n ∉ c1 :: (rowName vb4 ++ rowName vr4) := fun n hn => ⟨(K.n10 n hn).1, fun hx => by
      rcases List.mem_cons.1 hx with h | h
      · exact (K.n10 n hn).2 (by rw [h]; simp)
      · rcases hnm4 n h with h | h
        · exact (K.n10 n hn).2 (List.mem_cons_of_mem _ h)
        · have := K.lh.lt n hn; omega⟩
    have n114 : ∀ n ∈ rowName v11, c ≤ n ∧ n ∉ c1 :: (rowName vb4 ++ rowName vr4) ∧ n ∉ rowName v10 := fun n hn => ⟨(K.n11 n hn).1, fun hx => by
      rcases List.mem_cons.1 hx with h | h
      · exact (K.n11 n hn).2.1 (by rw [h]; simp)
      · rcases hnm4 n h with h | h
        · exact (K.n11 n hn).2.1 (List.mem_cons_of_mem _ h)
        · have := K.lhs.lt n hn; omega, (K.n11 n hn).2.2⟩
    have hjd : ∀ (k : Nat) (a : BV) (j' : Nat), held[k]? = some a → hs[k]? = some j' → j' ≠ j := fun k a j' e1 e2 e3 => by
      subst e3
      obtain ⟨⟨h0, b, q1, _⟩, _⟩ := K.holds k a j' e1 e2
      have := hdead _ _ _ q1
      omega
    have hwj : I ((j + 1 : Nat) : Int) = I ((j : Int) + 1) := by congr 1
    repeat' (first
      | refine WpC.seqI (a := Code.region 21 _ _) (fun e h5 c5 => ∃ b : Bool, (∃ b0, e = MapI.set (MapI.set (MapI.set (MapI.set (MapI.set (MapI.set (MapI.set (MapI.set (MapI.set (MapI.set (MapI.set b0 0 (.slice (some (sl, 0)) bsl.length (.known capl))) 1 (.slice ad ds.length (.known capd))) 6 (.bool false)) 7 (I z)) 8 (.ptr (some (c1, 0)))) 9 (I st.live)) 10 v10) 11 v11) 12 (I i)) 13 (I ((j + 1 : Nat) : Int))) 89 (.bool b)) ∧ h4 = h5 ∧ c4 = c5) ?_ ?_
      | refine WpC.seq ?_
      | refine WpC.region ?_
      | refine WpC.drawn ?_
      | refine WpC.skip ?_
      | refine WpC.block ?_
      | refine WpC.exit ?_
      | refine WpC.ret ?_
      | refine WpO.nil ?_
      | refine WpO.cons rfl rfl (WpX.pure (fun _ => rfl) ⟨nolog, ?_⟩)
      | refine WpO.skip rfl rfl ?_
      | refine WpL.cons rfl rfl (WpX.pure (fun _ => rfl) ⟨nolog, ?_⟩)
      | refine WpL.skip rfl rfl ?_
      | refine seqQ_normal ?_
      | refine seqQ_ret ?_
      | refine seqQ_exit ?_
      | refine blkQ_normal ?_
      | refine blkQ_ret ?_
      | refine blkQ_out rfl ?_
      | refine blkQ_by rfl ?_)
    · by_cases hid : i < ds.length
      · have e3 : decide (((i : Nat) : Int) < ((ds.length : Nat) : Int)) = true := by simpa using hid
        obtain ⟨sd, rfl, hsd, hgd0⟩ := had (by omega)
        obtain ⟨b, hb⟩ : ∃ b, ds[i]? = some b := ⟨_, List.getElem?_eq_getElem hid⟩
        have hgd4 : MapI.get h4 sd = some (.cells false false (ds.map boolV).flatten) := by rw [hold4 sd hsd]; exact hgd0
        have hnb := nth_bool hb
        repeat' (first
          | refine WpC.seq ?_
          | refine WpC.region ?_
          | refine WpC.drawn ?_
          | refine WpC.skip ?_
          | refine WpC.block ?_
          | refine WpC.exit ?_
          | refine WpC.ret ?_
          | refine WpO.nil ?_
          | refine WpO.cons rfl rfl (WpX.pure (fun _ => rfl) ⟨nolog, ?_⟩)
          | refine WpO.skip rfl rfl ?_
          | refine WpL.cons rfl rfl (WpX.pure (fun _ => rfl) ⟨nolog, ?_⟩)
          | refine WpL.skip rfl rfl ?_
          | refine seqQ_normal ?_
          | refine seqQ_ret ?_
          | refine seqQ_exit ?_
          | refine blkQ_normal ?_
          | refine blkQ_ret ?_
          | refine blkQ_out rfl ?_
          | refine blkQ_by rfl ?_
          | refine WpO.cons rfl rfl (op_len rfl rfl rfl ⟨(by simp [InL, Acc.name, rowName] <;> omega), ?_⟩)
          | refine WpL.cons rfl rfl (op_len rfl rfl rfl ⟨(by simp [InL, Acc.name, rowName] <;> omega), ?_⟩))
        simp only [e3]
        repeat' (first
          | refine WpC.seq ?_
          | refine WpC.region ?_
          | refine WpC.drawn ?_
          | refine WpC.skip ?_
          | refine WpC.block ?_
          | refine WpC.exit ?_
          | refine WpC.ret ?_
          | refine WpO.nil ?_
          | refine WpO.cons rfl rfl (WpX.pure (fun _ => rfl) ⟨nolog, ?_⟩)
          | refine WpO.skip rfl rfl ?_
          | refine WpL.cons rfl rfl (WpX.pure (fun _ => rfl) ⟨nolog, ?_⟩)
          | refine WpL.skip rfl rfl ?_
          | refine seqQ_normal ?_
          | refine seqQ_ret ?_
          | refine seqQ_exit ?_
          | refine blkQ_normal ?_
          | refine blkQ_ret ?_
          | refine blkQ_out rfl ?_
          | refine blkQ_by rfl ?_
          | refine WpO.cons rfl rfl (op_indexAddr (k := 1) rfl rfl rfl rfl ⟨by omega, by omega⟩ ⟨(by simp [InL, Acc.name, rowName] <;> omega), ?_⟩)
          | refine WpL.cons rfl rfl (op_indexAddr (k := 1) rfl rfl rfl rfl ⟨by omega, by omega⟩ ⟨(by simp [InL, Acc.name, rowName] <;> omega), ?_⟩)
          | refine WpO.cons rfl rfl (op_load rfl rfl rfl hgd4 hnb ⟨(by simp [InL, Acc.name, rowName] <;> omega), ?_⟩)
          | refine WpL.cons rfl rfl (op_load rfl rfl rfl hgd4 hnb ⟨(by simp [InL, Acc.name, rowName] <;> omega), ?_⟩))
        exact ⟨b, set11 rfl rfl rfl rfl rfl rfl rfl rfl rfl rfl rfl, rfl, rfl⟩
      · have e3 : decide (((i : Nat) : Int) < ((ds.length : Nat) : Int)) = false := by simpa using hid
        repeat' (first
          | refine WpC.seq ?_
          | refine WpC.region ?_
          | refine WpC.drawn ?_
          | refine WpC.skip ?_
          | refine WpC.block ?_
          | refine WpC.exit ?_
          | refine WpC.ret ?_
          | refine WpO.nil ?_
          | refine WpO.cons rfl rfl (WpX.pure (fun _ => rfl) ⟨nolog, ?_⟩)
          | refine WpO.skip rfl rfl ?_
          | refine WpL.cons rfl rfl (WpX.pure (fun _ => rfl) ⟨nolog, ?_⟩)
          | refine WpL.skip rfl rfl ?_
          | refine seqQ_normal ?_
          | refine seqQ_ret ?_
          | refine seqQ_exit ?_
          | refine blkQ_normal ?_
          | refine blkQ_ret ?_
          | refine blkQ_out rfl ?_
          | refine blkQ_by rfl ?_
          | refine WpO.cons rfl rfl (op_len rfl rfl rfl ⟨(by simp [InL, Acc.name, rowName] <;> omega), ?_⟩)
          | refine WpL.cons rfl rfl (op_len rfl rfl rfl ⟨(by simp [InL, Acc.name, rowName] <;> omega), ?_⟩))
        simp only [e3]
        repeat' (first
          | refine WpC.seq ?_
          | refine WpC.region ?_
          | refine WpC.drawn ?_
          | refine WpC.skip ?_
          | refine WpC.block ?_
          | refine WpC.exit ?_
          | refine WpC.ret ?_
          | refine WpO.nil ?_
          | refine WpO.cons rfl rfl (WpX.pure (fun _ => rfl) ⟨nolog, ?_⟩)
          | refine WpO.skip rfl rfl ?_
          | refine WpL.cons rfl rfl (WpX.pure (fun _ => rfl) ⟨nolog, ?_⟩)
          | refine WpL.skip rfl rfl ?_
          | refine seqQ_normal ?_
          | refine seqQ_ret ?_
          | refine seqQ_exit ?_
          | refine blkQ_normal ?_
          | refine blkQ_ret ?_
          | refine blkQ_out rfl ?_
          | refine blkQ_by rfl ?_)
        exact ⟨false, set11 rfl rfl rfl rfl rfl rfl rfl rfl rfl rfl rfl, rfl, rfl⟩
    rintro e5 h5 c5 ⟨b, ⟨b5, rfl⟩, rfl, rfl⟩
    repeat' (first
      | refine WpC.seq ?_
      | refine WpC.region ?_
      | refine WpC.drawn ?_
      | refine WpC.skip ?_
      | refine WpC.block ?_
      | refine WpC.exit ?_
      | refine WpC.ret ?_
      | refine WpO.nil ?_
      | refine WpO.cons rfl rfl (WpX.pure (fun _ => rfl) ⟨nolog, ?_⟩)
      | refine WpO.skip rfl rfl ?_
      | refine WpL.cons rfl rfl (WpX.pure (fun _ => rfl) ⟨nolog, ?_⟩)
      | refine WpL.skip rfl rfl ?_
      | refine seqQ_normal ?_
      | refine seqQ_ret ?_
      | refine seqQ_exit ?_
      | refine blkQ_normal ?_
      | refine blkQ_ret ?_
      | refine blkQ_out rfl ?_
      | refine blkQ_by rfl ?_)
    refine WpC.cond rfl (fun hb => ?_) (fun hb => ?_)
    · subst hb
      repeat' (first
        | refine WpC.seq ?_
        | refine WpC.region ?_
        | refine WpC.drawn ?_
        | refine WpC.skip ?_
        | refine WpC.block ?_
        | refine WpC.exit ?_
        | refine WpC.ret ?_
        | refine WpO.nil ?_
        | refine WpO.cons rfl rfl (WpX.pure (fun _ => rfl) ⟨nolog, ?_⟩)
        | refine WpO.skip rfl rfl ?_
        | refine WpL.cons rfl rfl (WpX.pure (fun _ => rfl) ⟨nolog, ?_⟩)
        | refine WpL.skip rfl rfl ?_
        | refine seqQ_normal ?_
        | refine seqQ_ret ?_
        | refine seqQ_exit ?_
        | refine blkQ_normal ?_
        | refine blkQ_ret ?_
        | refine blkQ_out rfl ?_
        | refine blkQ_by rfl ?_)
      rw [hwj]
      refine WpO.cons rfl rfl (call_at rfl (drop_good r4 g4 (by omega) hj4) (fun n hn => .inr (hnew4 n (by
        rcases List.mem_cons.1 hn with h | h
        · rw [h]; simp
        · simp [h]))) (by omega) fun v h6 c6 hc6 hfr6 hq => ?_)
      obtain ⟨rfl, rfl, st6, r6, g6, hlive6, hmost6, hrows6, hkeep6⟩ := hq
      have hlive : st6.live = st.live := by omega
      repeat' (first
        | refine WpC.seq ?_
        | refine WpC.region ?_
        | refine WpC.drawn ?_
        | refine WpC.skip ?_
        | refine WpC.block ?_
        | refine WpC.exit ?_
        | refine WpC.ret ?_
        | refine WpO.nil ?_
        | refine WpO.cons rfl rfl (WpX.pure (fun _ => rfl) ⟨nolog, ?_⟩)
        | refine WpO.skip rfl rfl ?_
        | refine WpL.cons rfl rfl (WpX.pure (fun _ => rfl) ⟨nolog, ?_⟩)
        | refine WpL.skip rfl rfl ?_
        | refine seqQ_normal ?_
        | refine seqQ_ret ?_
        | refine seqQ_exit ?_
        | refine blkQ_normal ?_
        | refine blkQ_ret ?_
        | refine blkQ_out rfl ?_
        | refine blkQ_by rfl ?_)
      refine ⟨i + 1, by omega, ⟨st6, vb4, vr4, held, hs, v10, v11, ?_, by omega, ?_⟩⟩
      · rw [hw1, hlive]
        exact set9 rfl rfl rfl rfl rfl rfl rfl rfl rfl
      · have hf6 := fun (n : Nat) (hn) (hx : n ∉ c1 :: (rowName vb4 ++ rowName vr4)) => hfr6 n hn fun hm => hx (by
          rcases List.mem_cons.1 hm with h | h
          · rw [h]; simp
          · simp [h])
        exact ⟨r6, g6, by omega, by omega, lh4.keep (Nat.le_refl _) fun n hn hm => hf6 n hn (n104 n hm).2, lhs4.keep (Nat.le_refl _) fun n hn hm => hf6 n hn (n114 n hm).2.1, K.len, by have := K.most_; omega, fun k a j' e1 e2 => ⟨hkeep6 _ _ _ (hjd k a j' e1 e2) (hkeep4 _ _ _ (K.holds k a j' e1 e2).1), (K.holds k a j' e1 e2).2⟩, hnew4, n104, n114, by omega,
          fun n hn => by rw [hf6 n (by omega) (fun hx => by have := hnew4 n hx; omega)]; exact hold4 n hn⟩
    subst hb
    repeat' (first
      | refine WpC.seq ?_
      | refine WpC.region ?_
      | refine WpC.drawn ?_
      | refine WpC.skip ?_
      | refine WpC.block ?_
      | refine WpC.exit ?_
      | refine WpC.ret ?_
      | refine WpO.nil ?_
      | refine WpO.cons rfl rfl (WpX.pure (fun _ => rfl) ⟨nolog, ?_⟩)
      | refine WpO.skip rfl rfl ?_
      | refine WpL.cons rfl rfl (WpX.pure (fun _ => rfl) ⟨nolog, ?_⟩)
      | refine WpL.skip rfl rfl ?_
      | refine seqQ_normal ?_
      | refine seqQ_ret ?_
      | refine seqQ_exit ?_
      | refine blkQ_normal ?_
      | refine blkQ_ret ?_
      | refine blkQ_out rfl ?_
      | refine blkQ_by rfl ?_
      | refine WpO.cons rfl rfl (op_indexAddr (k := 1) rfl rfl rfl rfl ⟨by omega, by omega⟩ ⟨(by simp [InL, Acc.name, rowName] <;> omega), ?_⟩)
      | refine WpL.cons rfl rfl (op_indexAddr (k := 1) rfl rfl rfl rfl ⟨by omega, by omega⟩ ⟨(by simp [InL, Acc.name, rowName] <;> omega), ?_⟩)
      | refine WpO.cons rfl rfl (op_load rfl rfl rfl hgl4 hna ⟨(by simp [InL, Acc.name, rowName] <;> omega), ?_⟩)
      | refine WpL.cons rfl rfl (op_load rfl rfl rfl hgl4 hna ⟨(by simp [InL, Acc.name, rowName] <;> omega), ?_⟩)
      | refine WpO.cons rfl rfl (op_len rfl rfl rfl ⟨(by simp [InL, Acc.name, rowName] <;> omega), ?_⟩)
      | refine WpL.cons rfl rfl (op_len rfl rfl rfl ⟨(by simp [InL, Acc.name, rowName] <;> omega), ?_⟩)
      | refine WpO.cons rfl rfl (op_buildSlice (k := 1) rfl rfl rfl rfl (by decide) rfl ⟨(by simp [InL, Acc.name, rowName] <;> omega), ?_⟩)
      | refine WpL.cons rfl rfl (op_buildSlice (k := 1) rfl rfl rfl rfl (by decide) rfl ⟨(by simp [InL, Acc.name, rowName] <;> omega), ?_⟩))
    have K4 : ListOf (0 + 1) heldV (MapI.set h4 c4 (.cells true true (heldV ((some (m, 0), ys.length, ac), ys)))) (c4 + 1) v10 held := lh4.keep (by omega) fun n hn _ => MapI.get_ne _ _ _ _ (by omega)
    have hcc4 : c ≤ c4 := by omega
    refine WpO.cons rfl rfl (append_at (cells := heldV) (xs := held) (ys := [((some (m, 0), ys.length, ac), ys)]) (cs := heldV ((some (m, 0), ys.length, ac), ys)) rfl rfl elH rfl held_len held_all K4 (MapI.get_same _ _ _) rfl rfl (by have := K.most_; omega) (.inr (by simp [acc_rd]; omega)) (fun a ha => ⟨.inr (n104 a ha).1, .inr (n104 a ha).1⟩) (.inr (by simp [acc_wr]; omega)) fun v7 h7 c7 hl7 hn7 hc7 hf7 => ?_)
    have hone7 := hl7.one
    have hf7' : ∀ n, n < c4 → n ∉ rowName v10 → MapI.get h7 n = MapI.get h4 n := fun n hn hx => by rw [hf7 n (by omega) hx, MapI.get_ne _ _ _ _ (by omega)]
    have lhs7 : ListOf (0 + 1) intV h7 c7 v11 (hs.map hdl) := lhs4.keep (by omega) fun n hn hm => hf7' n hn (n114 n hm).2.2
    repeat' (first
      | refine WpC.seq ?_
      | refine WpC.region ?_
      | refine WpC.drawn ?_
      | refine WpC.skip ?_
      | refine WpC.block ?_
      | refine WpC.exit ?_
      | refine WpC.ret ?_
      | refine WpO.nil ?_
      | refine WpO.cons rfl rfl (WpX.pure (fun _ => rfl) ⟨nolog, ?_⟩)
      | refine WpO.skip rfl rfl ?_
      | refine WpL.cons rfl rfl (WpX.pure (fun _ => rfl) ⟨nolog, ?_⟩)
      | refine WpL.skip rfl rfl ?_
      | refine seqQ_normal ?_
      | refine seqQ_ret ?_
      | refine seqQ_exit ?_
      | refine blkQ_normal ?_
      | refine blkQ_ret ?_
      | refine blkQ_out rfl ?_
      | refine blkQ_by rfl ?_
      | refine WpO.cons rfl rfl (op_buildSlice (k := 1) rfl rfl rfl rfl (by decide) rfl ⟨(by simp [InL, Acc.name, rowName] <;> omega), ?_⟩)
      | refine WpL.cons rfl rfl (op_buildSlice (k := 1) rfl rfl rfl rfl (by decide) rfl ⟨(by simp [InL, Acc.name, rowName] <;> omega), ?_⟩))
    have K7 : ListOf (0 + 1) intV (MapI.set h7 c7 (.cells true true (intV (hdl j)))) (c7 + 1) v11 (hs.map hdl) := lhs7.keep (by omega) fun n hn _ => MapI.get_ne _ _ _ _ (by omega)
    refine WpO.cons rfl rfl (append_at (cells := intV) (xs := hs.map hdl) (ys := [hdl j]) (cs := intV (hdl j)) rfl rfl elI rfl int_len int_all K7 (MapI.get_same _ _ _) rfl rfl (by have := K.most_; have := K.len; simp only [List.length_cons, List.length_nil, List.length_map]; omega) (.inr (by simp [acc_rd]; omega)) (fun a ha => ⟨.inr (n114 a ha).1, .inr (n114 a ha).1⟩) (.inr (by simp [acc_wr]; omega)) fun v8 h8 c8 hl8 hn8 hc8 hf8 => ?_)
    have hf8' : ∀ n, n < c7 → n ∉ rowName v11 → MapI.get h8 n = MapI.get h7 n := fun n hn hx => by rw [hf8 n (by omega) hx, MapI.get_ne _ _ _ _ (by omega)]
    repeat' (first
      | refine WpC.seq ?_
      | refine WpC.region ?_
      | refine WpC.drawn ?_
      | refine WpC.skip ?_
      | refine WpC.block ?_
      | refine WpC.exit ?_
      | refine WpC.ret ?_
      | refine WpO.nil ?_
      | refine WpO.cons rfl rfl (WpX.pure (fun _ => rfl) ⟨nolog, ?_⟩)
      | refine WpO.skip rfl rfl ?_
      | refine WpL.cons rfl rfl (WpX.pure (fun _ => rfl) ⟨nolog, ?_⟩)
      | refine WpL.skip rfl rfl ?_
      | refine seqQ_normal ?_
      | refine seqQ_ret ?_
      | refine seqQ_exit ?_
      | refine blkQ_normal ?_
      | refine blkQ_ret ?_
      | refine blkQ_out rfl ?_
      | refine blkQ_by rfl ?_)
    have l10 := K.lh.lt
    have l11 := K.lhs.lt
    have lnm : ∀ n ∈ c1 :: (rowName vb4 ++ rowName vr4), n < c4 := r4.names
    have hf48 : ∀ n, n < c4 → n ∉ rowName v10 → n ∉ rowName v11 → MapI.get h8 n = MapI.get h4 n := fun n hn hx hy => by rw [hf8' n (by omega) hy, hf7' n hn hx]
    have n10' : ∀ n ∈ rowName v7, (n ∈ rowName v10 ∨ c4 ≤ n) ∧ n < c7 := fun n hn => ⟨by
      rcases hn7 n hn with h | ⟨h, _⟩
      · exact .inl h
      · exact .inr (by omega), hl7.lt n hn⟩
    have n11' : ∀ n ∈ rowName v8, n ∈ rowName v11 ∨ c7 ≤ n := fun n hn => by
      rcases hn8 n hn with h | ⟨h, _⟩
      · exact .inl h
      · exact .inr (by omega)
    refine ⟨i + 1, by omega, ⟨st4, vb4, vr4, held ++ [((some (m, 0), ys.length, ac), ys)], hs ++ [j], v7, v8, ?_, by omega, ?_⟩⟩
    · rw [hw1, hw3]
      exact set9 rfl rfl rfl rfl rfl rfl rfl rfl rfl
    · have hfs : ∀ n ∈ c1 :: (rowName vb4 ++ rowName vr4), MapI.get h8 n = MapI.get h4 n := fun n hn => hf48 n (lnm n hn) (fun hx => (n104 n hx).2 hn) (fun hx => (n114 n hx).2.1 hn)
      refine ⟨⟨by rw [hfs c1 (by simp)]; exact r4.obj, r4.bytes.keep (by omega) fun n hn hm => hfs n (by simp [hm]), r4.rows.keep (by omega) fun n hn hm => hfs n (by simp [hm]), by have := r4.lp; omega, r4.nb, r4.nr, r4.br⟩, g4, by omega, by omega, ?_, ?_, by simp [K.len], by have := K.most_; simp; omega, ?_, hnew4, ?_, ?_, by omega, ?_⟩
      · refine hl7.keep (by omega) fun n hn hm => hf8' n hn fun hx => ?_
        rcases (n10' n hm).1 with h | h
        · exact (n114 n hx).2.2 h
        · have := l11 n hx; omega
      · rw [List.map_append]; exact hl8
      · intro k a j' e1 e2
        rcases get_split e1 with ⟨hk, e1⟩ | ⟨rfl, rfl⟩
        · rcases get_split e2 with ⟨_, e2⟩ | ⟨e2, _⟩
          · exact ⟨hkeep4 _ _ _ (K.holds k a j' e1 e2).1, (K.holds k a j' e1 e2).2⟩
          · have := K.len; omega
        · rcases get_split e2 with ⟨h, _⟩ | ⟨_, rfl⟩
          · have := K.len; omega
          · exact ⟨hj4, ham⟩
      · intro n hn
        rcases (n10' n hn).1 with h | h
        · exact n104 n h
        · exact ⟨by omega, fun hx => by have := lnm n hx; omega⟩
      · intro n hn
        rcases n11' n hn with h | h
        · refine ⟨(n114 n h).1, (n114 n h).2.1, fun hx => ?_⟩
          rcases (n10' n hx).1 with h2 | h2
          · exact (n114 n h).2.2 h2
          · have := l11 n h; omega
        · exact ⟨by omega, fun hx => by have := lnm n hx; omega, fun hx => by have := (n10' n hx).2; omega⟩
      · intro n hn
        rw [hf48 n (by omega) (fun hx => by have := (n104 n hx).1; omega) (fun hx => by have := (n114 n hx).1; omega)]
        exact hold4 n hn
  rintro e6 h6 c6 ⟨st, vb, vr, held, hs, v10, v11, ⟨b6, rfl⟩, K⟩
  have hgd := K.good
  have hgm := hgd.most
  have hkm := K.most
  have hrow := K.rows
  have hcc6 := K.le
  have hmo := K.most_
  have hlen := K.len
  repeat' (first
    | refine WpC.seq ?_
    | refine WpC.region ?_
    | refine WpC.drawn ?_
    | refine WpC.skip ?_
    | refine WpC.block ?_
    | refine WpC.exit ?_
    | refine WpC.ret ?_
    | refine WpO.nil ?_
    | refine WpO.cons rfl rfl (WpX.pure (fun _ => rfl) ⟨nolog, ?_⟩)
    | refine WpO.skip rfl rfl ?_
    | refine WpL.cons rfl rfl (WpX.pure (fun _ => rfl) ⟨nolog, ?_⟩)
    | refine WpL.skip rfl rfl ?_
    | refine seqQ_normal ?_
    | refine seqQ_ret ?_
    | refine seqQ_exit ?_
    | refine blkQ_normal ?_
    | refine blkQ_ret ?_
    | refine blkQ_out rfl ?_
    | refine blkQ_by rfl ?_)
  refine WpO.cons rfl rfl (call_at rfl (slide_good K.at_ hgd (by omega)) (fun n hn => .inr (K.new n hn)) hcc6 fun v h7 c7 hc7 hfr7 hq => ?_)
  obtain ⟨vb7, hvb7, r7⟩ := hq
  have g7 := good_slid hgd
  have hslen := slid_len hgd
  have hold7 : ∀ n, n < c → MapI.get h7 n = MapI.get h n := fun n hn => by rw [hfr7 n (by omega) (fun hx => by have := K.new n hx; omega)]; exact K.old n hn
  have hrow7 : (slidSt st).rows.length = st.rows.length := slid_length _ _
  have hlive7 : (slidSt st).live = st.live := rfl
  have hmost7 : (slidSt st).most = st.most := rfl
  have lh7 : ListOf 1 heldV h7 c7 v10 held := K.lh.keep hc7 fun n hn hm => hfr7 n hn (K.n10 n hm).2
  have lhs7 : ListOf 1 intV h7 c7 v11 (hs.map hdl) := K.lhs.keep hc7 fun n hn hm => hfr7 n hn (K.n11 n hm).2.1
  have hholds7 : ∀ (k : Nat) (a : BV) (j : Nat), held[k]? = some a → hs[k]? = some j → Holds (slidSt st) j a.2 1 ∧ a ∈ bsl := fun k a j e1 e2 => ⟨slid_holds hgd (K.holds k a j e1 e2).1, (K.holds k a j e1 e2).2⟩
  have hnew7 : ∀ n ∈ c1 :: (rowName vb7 ++ rowName vr), c ≤ n := fun n hn => by rw [hvb7] at hn; exact K.new n hn
  have hc1n : c ≤ c1 := hnew7 c1 (by simp)
  generalize slidSt st = s7 at *
  repeat' (first
    | refine WpC.seq ?_
    | refine WpC.region ?_
    | refine WpC.drawn ?_
    | refine WpC.skip ?_
    | refine WpC.block ?_
    | refine WpC.exit ?_
    | refine WpC.ret ?_
    | refine WpO.nil ?_
    | refine WpO.cons rfl rfl (WpX.pure (fun _ => rfl) ⟨nolog, ?_⟩)
    | refine WpO.skip rfl rfl ?_
    | refine WpL.cons rfl rfl (WpX.pure (fun _ => rfl) ⟨nolog, ?_⟩)
    | refine WpL.skip rfl rfl ?_
    | refine seqQ_normal ?_
    | refine seqQ_ret ?_
    | refine seqQ_exit ?_
    | refine blkQ_normal ?_
    | refine blkQ_ret ?_
    | refine blkQ_out rfl ?_
    | refine blkQ_by rfl ?_)
  refine WpO.cons rfl rfl (call_at rfl (used_ok r7) (fun n hn => .inr (by simp at hn; rw [hn]; exact hc1n)) (by omega) fun v h8 c8 hc8 hfr8 hq => ?_)
  obtain ⟨rfl, rfl, rfl⟩ := hq
  have e8 : ((s7.bs.length : Int) != st.live) = false := by rw [hslen]; simp
  repeat' (first
    | refine WpC.seq ?_
    | refine WpC.region ?_
    | refine WpC.drawn ?_
    | refine WpC.skip ?_
    | refine WpC.block ?_
    | refine WpC.exit ?_
    | refine WpC.ret ?_
    | refine WpO.nil ?_
    | refine WpO.cons rfl rfl (WpX.pure (fun _ => rfl) ⟨nolog, ?_⟩)
    | refine WpO.skip rfl rfl ?_
    | refine WpL.cons rfl rfl (WpX.pure (fun _ => rfl) ⟨nolog, ?_⟩)
    | refine WpL.skip rfl rfl ?_
    | refine seqQ_normal ?_
    | refine seqQ_ret ?_
    | refine seqQ_exit ?_
    | refine blkQ_normal ?_
    | refine blkQ_ret ?_
    | refine blkQ_out rfl ?_
    | refine blkQ_by rfl ?_)
  simp only [e8]
  repeat' (first
    | refine WpC.seq ?_
    | refine WpC.region ?_
    | refine WpC.drawn ?_
    | refine WpC.skip ?_
    | refine WpC.block ?_
    | refine WpC.exit ?_
    | refine WpC.ret ?_
    | refine WpO.nil ?_
    | refine WpO.cons rfl rfl (WpX.pure (fun _ => rfl) ⟨nolog, ?_⟩)
    | refine WpO.skip rfl rfl ?_
    | refine WpL.cons rfl rfl (WpX.pure (fun _ => rfl) ⟨nolog, ?_⟩)
    | refine WpL.skip rfl rfl ?_
    | refine seqQ_normal ?_
    | refine seqQ_ret ?_
    | refine seqQ_exit ?_
    | refine blkQ_normal ?_
    | refine blkQ_ret ?_
    | refine blkQ_out rfl ?_
    | refine blkQ_by rfl ?_)
  refine WpO.cons rfl rfl (call_at rfl (live_ok r7) (fun n hn => .inr (by simp at hn; rw [hn]; exact hc1n)) (by omega) fun v h9 c9 hc9 hfr9 hq => ?_)
  obtain ⟨rfl, rfl, rfl⟩ := hq
  repeat' (first
    | refine WpC.seq ?_
    | refine WpC.region ?_
    | refine WpC.drawn ?_
    | refine WpC.skip ?_
    | refine WpC.block ?_
    | refine WpC.exit ?_
    | refine WpC.ret ?_
    | refine WpO.nil ?_
    | refine WpO.cons rfl rfl (WpX.pure (fun _ => rfl) ⟨nolog, ?_⟩)
    | refine WpO.skip rfl rfl ?_
    | refine WpL.cons rfl rfl (WpX.pure (fun _ => rfl) ⟨nolog, ?_⟩)
    | refine WpL.skip rfl rfl ?_
    | refine seqQ_normal ?_
    | refine seqQ_ret ?_
    | refine seqQ_exit ?_
    | refine blkQ_normal ?_
    | refine blkQ_ret ?_
    | refine blkQ_out rfl ?_
    | refine blkQ_by rfl ?_)
  refine WpC.cond rfl (fun hb => by rw [hlive7] at hb; simp at hb) (fun _ => ?_)
  have lnm7 : ∀ n ∈ c1 :: (rowName vb7 ++ rowName vr), n < c9 := r7.names
  have n107 : ∀ n ∈ rowName v10, c ≤ n := fun n hn => (K.n10 n hn).1
  have n117 : ∀ n ∈ rowName v11, c ≤ n := fun n hn => (K.n11 n hn).1
  repeat' (first
    | refine WpC.seqI (a := Code.seq (Code.region 29 _ _) _) (fun e h' c' => (∃ b0, e = MapI.set (MapI.set (MapI.set (MapI.set b0 6 (.bool false)) 7 (I z)) 8 (.ptr (some (c1, 0)))) 9 (I st.live)) ∧ c9 ≤ c' ∧ StoreAt h' c' c1 vb7 vr s7) ?_ ?_
    | refine WpC.seq ?_
    | refine WpC.region ?_
    | refine WpC.drawn ?_
    | refine WpC.skip ?_
    | refine WpC.block ?_
    | refine WpC.exit ?_
    | refine WpC.ret ?_
    | refine WpO.nil ?_
    | refine WpO.cons rfl rfl (WpX.pure (fun _ => rfl) ⟨nolog, ?_⟩)
    | refine WpO.skip rfl rfl ?_
    | refine WpL.cons rfl rfl (WpX.pure (fun _ => rfl) ⟨nolog, ?_⟩)
    | refine WpL.skip rfl rfl ?_
    | refine seqQ_normal ?_
    | refine seqQ_ret ?_
    | refine seqQ_exit ?_
    | refine blkQ_normal ?_
    | refine blkQ_ret ?_
    | refine blkQ_out rfl ?_
    | refine blkQ_by rfl ?_)
  · refine WpC.loop ?_
    refine WpLoop.ind (X := Nat) (fun k e h' c' => (∃ b0, e = MapI.set (MapI.set (MapI.set (MapI.set (MapI.set (MapI.set (MapI.set b0 6 (.bool false)) 7 (I z)) 8 (.ptr (some (c1, 0)))) 9 (I st.live)) 10 v10) 11 v11) 15 (I k)) ∧ k ≤ held.length ∧ c9 ≤ c' ∧ (∀ n, n < c9 → MapI.get h' n = MapI.get h9 n))
      (fun k => held.length - k) ?_ 0 _ _ _ ⟨set7 rfl rfl rfl rfl rfl rfl rfl, Nat.zero_le _, Nat.le_refl _, fun n _ => rfl⟩
    rintro k e h' c' ⟨⟨b0, rfl⟩, hk, hc', hf'⟩
    have rk := r7.keep hc' hf'
    have lhk := lh7.keep hc' fun n hn _ => hf' n hn
    have lhsk := lhs7.keep hc' fun n hn _ => hf' n hn
    obtain ⟨s10, cap10, rfl, hs10⟩ := lhk.shape
    repeat' (first
      | refine WpC.seq ?_
      | refine WpC.region ?_
      | refine WpC.drawn ?_
      | refine WpC.skip ?_
      | refine WpC.block ?_
      | refine WpC.exit ?_
      | refine WpC.ret ?_
      | refine WpO.nil ?_
      | refine WpO.cons rfl rfl (WpX.pure (fun _ => rfl) ⟨nolog, ?_⟩)
      | refine WpO.skip rfl rfl ?_
      | refine WpL.cons rfl rfl (WpX.pure (fun _ => rfl) ⟨nolog, ?_⟩)
      | refine WpL.skip rfl rfl ?_
      | refine seqQ_normal ?_
      | refine seqQ_ret ?_
      | refine seqQ_exit ?_
      | refine blkQ_normal ?_
      | refine blkQ_ret ?_
      | refine blkQ_out rfl ?_
      | refine blkQ_by rfl ?_
      | refine WpO.cons rfl rfl (op_len rfl rfl rfl ⟨(by simp [InL, Acc.name, rowName] <;> omega), ?_⟩)
      | refine WpL.cons rfl rfl (op_len rfl rfl rfl ⟨(by simp [InL, Acc.name, rowName] <;> omega), ?_⟩))
    refine WpC.cond rfl (fun hlt => ?_) (fun hge => ?_)
    case refine_2 =>
      repeat' (first
        | refine WpC.seq ?_
        | refine WpC.region ?_
        | refine WpC.drawn ?_
        | refine WpC.skip ?_
        | refine WpC.block ?_
        | refine WpC.exit ?_
        | refine WpC.ret ?_
        | refine WpO.nil ?_
        | refine WpO.cons rfl rfl (WpX.pure (fun _ => rfl) ⟨nolog, ?_⟩)
        | refine WpO.skip rfl rfl ?_
        | refine WpL.cons rfl rfl (WpX.pure (fun _ => rfl) ⟨nolog, ?_⟩)
        | refine WpL.skip rfl rfl ?_
        | refine seqQ_normal ?_
        | refine seqQ_ret ?_
        | refine seqQ_exit ?_
        | refine blkQ_normal ?_
        | refine blkQ_ret ?_
        | refine blkQ_out rfl ?_
        | refine blkQ_by rfl ?_)
      exact ⟨set4 rfl rfl rfl rfl, hc', rk⟩
    have hlt : k < held.length := by
      have : ((k : Nat) : Int) < (held.length : Nat) := by simpa using hlt
      omega
    obtain ⟨rfl, n10, cl10, jk10, rfl, hn10, hg10, _⟩ := hs10 k hlt
    obtain ⟨s11, cap11, rfl, hs11⟩ := lhsk.shape
    obtain ⟨rfl, n11, cl11, jk11, rfl, hn11, hg11, _⟩ := hs11 k (by rw [List.length_map]; omega)
    obtain ⟨⟨⟨sa, an, ac⟩, ys⟩, ha⟩ : ∃ a, held[k]? = some a := ⟨_, List.getElem?_eq_getElem hlt⟩
    obtain ⟨j, hj⟩ : ∃ j, hs[k]? = some j := ⟨_, List.getElem?_eq_getElem (by omega)⟩
    obtain ⟨hhold, ham⟩ := hholds7 k _ j ha hj
    obtain ⟨hba, hbr⟩ := hgood _ ham
    have hlena : an = ys.length := by
      obtain ⟨x, cap, e1, _⟩ := rowArg_slice hba
      unfold bv at e1
      injection e1
    subst hlena
    have hna : nth (flat heldV held ++ jk10) (0 + ((k : Nat) : Int).toNat * 1) = some (.slice sa ys.length (.known ac)) := by
      have := (nth_flat (cells := heldV) (k := 1) held_len ha (Nat.lt_succ_self 0) jk10).trans (show nth (heldV ((sa, ys.length, ac), ys)) 0 = some (.slice sa ys.length (.known ac)) from rfl)
      simpa using this
    have hnj : nth (flat intV (hs.map hdl) ++ jk11) (0 + ((k : Nat) : Int).toNat * 1) = some (I ((j : Int) + 1)) := by
      have hjm : (hs.map hdl)[k]? = some (hdl j) := by rw [List.getElem?_map, hj]; rfl
      have := (nth_flat (cells := intV) (k := 1) int_len hjm (Nat.lt_succ_self 0) jk11).trans (show nth (intV (hdl j)) 0 = some (I ((j : Int) + 1)) from rfl)
      simpa using this
    have hil : (0 : Int) ≤ (k : Int) ∧ (k : Int) < ((hs.map hdl).length : Nat) := by rw [List.length_map]; omega
    have hw1 : IntKind.i64.wrap ((k : Int) + 1) = ((k + 1 : Nat) : Int) := by rw [Go.IntWalk.i64_in _ (by omega)]; omega
    have hL10 : c ≤ n10 := n107 n10 (by simp [rowName])
    have hL11 : c ≤ n11 := n117 n11 (by simp [rowName])
    repeat' (first
      | refine WpC.seq ?_
      | refine WpC.region ?_
      | refine WpC.drawn ?_
      | refine WpC.skip ?_
      | refine WpC.block ?_
      | refine WpC.exit ?_
      | refine WpC.ret ?_
      | refine WpO.nil ?_
      | refine WpO.cons rfl rfl (WpX.pure (fun _ => rfl) ⟨nolog, ?_⟩)
      | refine WpO.skip rfl rfl ?_
      | refine WpL.cons rfl rfl (WpX.pure (fun _ => rfl) ⟨nolog, ?_⟩)
      | refine WpL.skip rfl rfl ?_
      | refine seqQ_normal ?_
      | refine seqQ_ret ?_
      | refine seqQ_exit ?_
      | refine blkQ_normal ?_
      | refine blkQ_ret ?_
      | refine blkQ_out rfl ?_
      | refine blkQ_by rfl ?_
      | refine WpO.cons rfl rfl (op_indexAddr (k := 1) rfl rfl rfl rfl ⟨by omega, by omega⟩ ⟨(by simp [InL, Acc.name, rowName] <;> omega), ?_⟩)
      | refine WpL.cons rfl rfl (op_indexAddr (k := 1) rfl rfl rfl rfl ⟨by omega, by omega⟩ ⟨(by simp [InL, Acc.name, rowName] <;> omega), ?_⟩)
      | refine WpO.cons rfl rfl (op_indexAddr (k := 1) rfl rfl rfl rfl hil ⟨(by simp [InL, Acc.name, rowName] <;> omega), ?_⟩)
      | refine WpL.cons rfl rfl (op_indexAddr (k := 1) rfl rfl rfl rfl hil ⟨(by simp [InL, Acc.name, rowName] <;> omega), ?_⟩)
      | refine WpO.cons rfl rfl (op_load rfl rfl rfl hg11 hnj ⟨(by simp [InL, Acc.name, rowName] <;> omega), ?_⟩)
      | refine WpL.cons rfl rfl (op_load rfl rfl rfl hg11 hnj ⟨(by simp [InL, Acc.name, rowName] <;> omega), ?_⟩)
      | refine WpO.cons rfl rfl (op_load rfl rfl rfl hg10 hna ⟨(by simp [InL, Acc.name, rowName] <;> omega), ?_⟩)
      | refine WpL.cons rfl rfl (op_load rfl rfl rfl hg10 hna ⟨(by simp [InL, Acc.name, rowName] <;> omega), ?_⟩)
      | refine WpO.cons rfl rfl (op_len rfl rfl rfl ⟨(by simp [InL, Acc.name, rowName] <;> omega), ?_⟩)
      | refine WpL.cons rfl rfl (op_len rfl rfl rfl ⟨(by simp [InL, Acc.name, rowName] <;> omega), ?_⟩))
    refine WpL.cons rfl rfl (call_atL rfl (look_good rk g7 (by omega) hhold) (fun n hn => .inr (hnew7 n hn)) (by omega) fun v h5 c5 lg hlg hc5 hfr5 hq5 => ?_)
    obtain ⟨v5, rfl, hv5, hn5, hk5⟩ := hq5
    repeat' (first
      | refine WpC.seq ?_
      | refine WpC.region ?_
      | refine WpC.drawn ?_
      | refine WpC.skip ?_
      | refine WpC.block ?_
      | refine WpC.exit ?_
      | refine WpC.ret ?_
      | refine WpO.nil ?_
      | refine WpO.cons rfl rfl (WpX.pure (fun _ => rfl) ⟨nolog, ?_⟩)
      | refine WpO.skip rfl rfl ?_
      | refine WpL.cons rfl rfl (WpX.pure (fun _ => rfl) ⟨nolog, ?_⟩)
      | refine WpL.skip rfl rfl ?_
      | refine seqQ_normal ?_
      | refine seqQ_ret ?_
      | refine seqQ_exit ?_
      | refine blkQ_normal ?_
      | refine blkQ_ret ?_
      | refine blkQ_out rfl ?_
      | refine blkQ_by rfl ?_)
    have hlg2 : ∀ x ∈ lg, x.writes = true → True := fun _ _ _ => trivial
    refine WpL.nil (logsOk_of (cs := [0, 0, 0, 6, 14, 0, 0, 96, 224, 480, 1023, 2047, 4095, 4095, 8191, 32767]) (by decide +kernel) ?_) ?_
    · simp +contextual [allP, apP, Dis, acc_rd, acc_wr, accw_rd, accw_wr, Nat.testBit]
    have hg105 : MapI.get h5 n10 = some (.cells true cl10 (flat heldV held ++ jk10)) := by rw [hk5 n10 hn10]; exact hg10
    have hold5 : ∀ n, n < c → MapI.get h5 n = MapI.get h n := fun n hn => by rw [hk5 n (by omega), hf' n (by omega)]; exact hold7 n hn
    have hbs5 : ByteSl h5 (.slice sa ys.length (.known ac)) ys := by
      by_cases h0 : ys.length = 0
      · exact .inl ⟨sa, .known ac, by rw [h0], List.length_eq_zero_iff.1 h0⟩
      · obtain ⟨m, rfl, hmc, hgm0⟩ : ∃ m, sa = some (m, 0) ∧ m < c ∧ MapI.get h m = some (.cells false false (ys.map (.int .u8))) := by
          obtain ⟨x, cap, q1, q2⟩ := rowArg_slice hba
          injection q1 with q3
          subst q3
          obtain ⟨s, q4, q5, q6⟩ := q2 (Nat.pos_of_ne_zero h0)
          exact ⟨s, q4, q5, q6⟩
        refine .inr ⟨m, 0, ys.length, .known ac, false, false, _, rfl, rfl, by omega, by rw [hold5 m hmc]; exact hgm0, ?_⟩
        have := cut_all (cs := flat byteV ys)
        rw [flat_length byte_len, Nat.mul_one] at this
        rw [flat_byte] at this
        rw [flat_byte]; exact this
    have hLa : ∀ n ∈ rowName (V.slice sa ys.length (.known ac)), n ∈ names bsl := fun n hn => names_of ham hn
    repeat' (first
      | refine WpC.seq ?_
      | refine WpC.region ?_
      | refine WpC.drawn ?_
      | refine WpC.skip ?_
      | refine WpC.block ?_
      | refine WpC.exit ?_
      | refine WpC.ret ?_
      | refine WpO.nil ?_
      | refine WpO.cons rfl rfl (WpX.pure (fun _ => rfl) ⟨nolog, ?_⟩)
      | refine WpO.skip rfl rfl ?_
      | refine WpL.cons rfl rfl (WpX.pure (fun _ => rfl) ⟨nolog, ?_⟩)
      | refine WpL.skip rfl rfl ?_
      | refine seqQ_normal ?_
      | refine seqQ_ret ?_
      | refine seqQ_exit ?_
      | refine blkQ_normal ?_
      | refine blkQ_ret ?_
      | refine blkQ_out rfl ?_
      | refine blkQ_by rfl ?_
      | refine WpO.cons rfl rfl (op_indexAddr (k := 1) rfl rfl rfl rfl ⟨by omega, by omega⟩ ⟨(by simp [InL, Acc.name, rowName] <;> omega), ?_⟩)
      | refine WpL.cons rfl rfl (op_indexAddr (k := 1) rfl rfl rfl rfl ⟨by omega, by omega⟩ ⟨(by simp [InL, Acc.name, rowName] <;> omega), ?_⟩)
      | refine WpO.cons rfl rfl (op_load rfl rfl rfl hg105 hna ⟨(by simp [InL, Acc.name, rowName] <;> omega), ?_⟩)
      | refine WpL.cons rfl rfl (op_load rfl rfl rfl hg105 hna ⟨(by simp [InL, Acc.name, rowName] <;> omega), ?_⟩))
    refine WpO.cons rfl rfl (call_at rfl (same_ok hv5 hbs5 hbr) (fun n hn => by
      rcases List.mem_append.1 hn with h | h
      · exact .inr (by have := (hn5 n h).1; omega)
      · exact .inl (by simp [hLa n h])) (by omega) fun v h8 c8 hc8 hfr8 hq => ?_)
    obtain ⟨rfl, rfl, rfl⟩ := hq
    repeat' (first
      | refine WpC.seq ?_
      | refine WpC.region ?_
      | refine WpC.drawn ?_
      | refine WpC.skip ?_
      | refine WpC.block ?_
      | refine WpC.exit ?_
      | refine WpC.ret ?_
      | refine WpO.nil ?_
      | refine WpO.cons rfl rfl (WpX.pure (fun _ => rfl) ⟨nolog, ?_⟩)
      | refine WpO.skip rfl rfl ?_
      | refine WpL.cons rfl rfl (WpX.pure (fun _ => rfl) ⟨nolog, ?_⟩)
      | refine WpL.skip rfl rfl ?_
      | refine seqQ_normal ?_
      | refine seqQ_ret ?_
      | refine seqQ_exit ?_
      | refine blkQ_normal ?_
      | refine blkQ_ret ?_
      | refine blkQ_out rfl ?_
      | refine blkQ_by rfl ?_)
    refine WpC.cond rfl (fun hb => by cases hb) (fun _ => ?_)
    repeat' (first
      | refine WpC.seq ?_
      | refine WpC.region ?_
      | refine WpC.drawn ?_
      | refine WpC.skip ?_
      | refine WpC.block ?_
      | refine WpC.exit ?_
      | refine WpC.ret ?_
      | refine WpO.nil ?_
      | refine WpO.cons rfl rfl (WpX.pure (fun _ => rfl) ⟨nolog, ?_⟩)
      | refine WpO.skip rfl rfl ?_
      | refine WpL.cons rfl rfl (WpX.pure (fun _ => rfl) ⟨nolog, ?_⟩)
      | refine WpL.skip rfl rfl ?_
      | refine seqQ_normal ?_
      | refine seqQ_ret ?_
      | refine seqQ_exit ?_
      | refine blkQ_normal ?_
      | refine blkQ_ret ?_
      | refine blkQ_out rfl ?_
      | refine blkQ_by rfl ?_)
    refine ⟨k + 1, by omega, ?_, by omega, by omega, fun n hn => by rw [hk5 n (by omega)]; exact hf' n hn⟩
    rw [hw1]
    exact set7 rfl rfl rfl rfl rfl rfl rfl
  rintro e5 h5 c5 ⟨⟨b5, rfl⟩, hc5, r5⟩
  have hn5 : ∀ n ∈ c1 :: (rowName vb7 ++ rowName vr), n < c5 := r5.names
  by_cases hfull : st.live = z
  · have e5 : (st.live == (z : Int)) = true := by simp [hfull]
    repeat' (first
      | refine WpC.seq ?_
      | refine WpC.region ?_
      | refine WpC.drawn ?_
      | refine WpC.skip ?_
      | refine WpC.block ?_
      | refine WpC.exit ?_
      | refine WpC.ret ?_
      | refine WpO.nil ?_
      | refine WpO.cons rfl rfl (WpX.pure (fun _ => rfl) ⟨nolog, ?_⟩)
      | refine WpO.skip rfl rfl ?_
      | refine WpL.cons rfl rfl (WpX.pure (fun _ => rfl) ⟨nolog, ?_⟩)
      | refine WpL.skip rfl rfl ?_
      | refine seqQ_normal ?_
      | refine seqQ_ret ?_
      | refine seqQ_exit ?_
      | refine blkQ_normal ?_
      | refine blkQ_ret ?_
      | refine blkQ_out rfl ?_
      | refine blkQ_by rfl ?_)
    refine WpC.cond rfl (fun _ => ?_) (fun hb => by rw [e5] at hb; cases hb)
    repeat' (first
      | refine WpC.seq ?_
      | refine WpC.region ?_
      | refine WpC.drawn ?_
      | refine WpC.skip ?_
      | refine WpC.block ?_
      | refine WpC.exit ?_
      | refine WpC.ret ?_
      | refine WpO.nil ?_
      | refine WpO.cons rfl rfl (WpX.pure (fun _ => rfl) ⟨nolog, ?_⟩)
      | refine WpO.skip rfl rfl ?_
      | refine WpL.cons rfl rfl (WpX.pure (fun _ => rfl) ⟨nolog, ?_⟩)
      | refine WpL.skip rfl rfl ?_
      | refine seqQ_normal ?_
      | refine seqQ_ret ?_
      | refine seqQ_exit ?_
      | refine blkQ_normal ?_
      | refine blkQ_ret ?_
      | refine blkQ_out rfl ?_
      | refine blkQ_by rfl ?_
      | refine WpO.cons rfl rfl (op_buildSlice (k := 1) rfl rfl rfl rfl (by decide) rfl ⟨(by simp [InL, Acc.name, rowName] <;> omega), ?_⟩)
      | refine WpL.cons rfl rfl (op_buildSlice (k := 1) rfl rfl rfl rfl (by decide) rfl ⟨(by simp [InL, Acc.name, rowName] <;> omega), ?_⟩))
    have r6 : ∀ x : AObj, StoreAt (MapI.set h5 c5 x) (c5 + 1) c1 vb7 vr s7 := fun x => r5.keep (by omega) fun n hn => MapI.get_ne _ _ _ _ (by omega)
    refine WpO.cons rfl rfl (call_at rfl (grant_no (r6 _) (by omega) (by omega) (by omega) (by omega)) (fun n hn => .inr (by simp at hn; rw [hn]; exact hc1n)) (by omega) fun v h6 c6 hc6 hfr6 hq => ?_)
    obtain ⟨rfl, rfl, rfl⟩ := hq
    repeat' (first
      | refine WpC.seq ?_
      | refine WpC.region ?_
      | refine WpC.drawn ?_
      | refine WpC.skip ?_
      | refine WpC.block ?_
      | refine WpC.exit ?_
      | refine WpC.ret ?_
      | refine WpO.nil ?_
      | refine WpO.cons rfl rfl (WpX.pure (fun _ => rfl) ⟨nolog, ?_⟩)
      | refine WpO.skip rfl rfl ?_
      | refine WpL.cons rfl rfl (WpX.pure (fun _ => rfl) ⟨nolog, ?_⟩)
      | refine WpL.skip rfl rfl ?_
      | refine seqQ_normal ?_
      | refine seqQ_ret ?_
      | refine seqQ_exit ?_
      | refine blkQ_normal ?_
      | refine blkQ_ret ?_
      | refine blkQ_out rfl ?_
      | refine blkQ_by rfl ?_)
    exact out_ret rfl rfl
  have e5 : (st.live == (z : Int)) = false := beq_eq_false_iff_ne.2 hfull
  have hlv7 := g7.live0
  have hgf := hgd.fit
  obtain ⟨q, hq⟩ : ∃ q : Nat, (z : Int) - st.live = q := ⟨((z : Int) - st.live).toNat, by have := hgd.live0; omega⟩
  have hwq : IntKind.i64.wrap ((z : Int) - st.live) = (q : Int) := by rw [hq]; exact Go.IntWalk.i64_in _ (by omega)
  repeat' (first
    | refine WpC.seq ?_
    | refine WpC.region ?_
    | refine WpC.drawn ?_
    | refine WpC.skip ?_
    | refine WpC.block ?_
    | refine WpC.exit ?_
    | refine WpC.ret ?_
    | refine WpO.nil ?_
    | refine WpO.cons rfl rfl (WpX.pure (fun _ => rfl) ⟨nolog, ?_⟩)
    | refine WpO.skip rfl rfl ?_
    | refine WpL.cons rfl rfl (WpX.pure (fun _ => rfl) ⟨nolog, ?_⟩)
    | refine WpL.skip rfl rfl ?_
    | refine seqQ_normal ?_
    | refine seqQ_ret ?_
    | refine seqQ_exit ?_
    | refine blkQ_normal ?_
    | refine blkQ_ret ?_
    | refine blkQ_out rfl ?_
    | refine blkQ_by rfl ?_)
  refine WpC.cond rfl (fun hb => by rw [e5] at hb; cases hb) (fun _ => ?_)
  repeat' (first
    | simp only [hwq]
    | refine WpC.seq ?_
    | refine WpC.region ?_
    | refine WpC.drawn ?_
    | refine WpC.skip ?_
    | refine WpC.block ?_
    | refine WpC.exit ?_
    | refine WpC.ret ?_
    | refine WpO.nil ?_
    | refine WpO.cons rfl rfl (WpX.pure (fun _ => rfl) ⟨nolog, ?_⟩)
    | refine WpO.skip rfl rfl ?_
    | refine WpL.cons rfl rfl (WpX.pure (fun _ => rfl) ⟨nolog, ?_⟩)
    | refine WpL.skip rfl rfl ?_
    | refine seqQ_normal ?_
    | refine seqQ_ret ?_
    | refine seqQ_exit ?_
    | refine blkQ_normal ?_
    | refine blkQ_ret ?_
    | refine blkQ_out rfl ?_
    | refine blkQ_by rfl ?_
    | refine WpO.cons rfl rfl (op_makeSlice rfl rfl rfl rfl ⟨_, rfl, by decide⟩ ⟨Nat.le_refl _, by omega⟩ ⟨(by simp [InL, Acc.name, rowName] <;> omega), ?_⟩)
    | refine WpL.cons rfl rfl (op_makeSlice rfl rfl rfl rfl ⟨_, rfl, by decide⟩ ⟨Nat.le_refl _, by omega⟩ ⟨(by simp [InL, Acc.name, rowName] <;> omega), ?_⟩))
  have r6 : ∀ x : AObj, StoreAt (MapI.set h5 c5 x) (c5 + 1) c1 vb7 vr s7 := fun x => r5.keep (by omega) fun n hn => MapI.get_ne _ _ _ _ (by omega)
  have hca : cut (reps q (cellsV (V.int .u8 0))) 0 (q * 1) = some (flat byteV (List.replicate q 0)) := by
    have e : reps q (cellsV (V.int .u8 0)) = flat byteV (List.replicate q 0) := reps_flat q
    rw [e]
    have := cut_all (cs := flat byteV (List.replicate q 0))
    rw [flat_length byte_len, List.length_replicate] at this
    exact this
  have hnm5 : c5 ∉ c1 :: (rowName vb7 ++ rowName vr) := fun hm => by have := hn5 c5 hm; omega
  refine WpO.cons rfl rfl (call_at rfl (grant_good (n := q) (ys := List.replicate q 0) (m := c5) (r6 _) g7 (by omega) (by omega) (by simp) (MapI.get_same _ _ _) hca (by omega) (by omega) (by omega) hnm5) (fun n hn => by
    rcases List.mem_cons.1 hn with h | h
    · exact .inr (by omega)
    · exact .inr (hnew7 n h)) (by omega) fun v h8 c8 hc8 hfr8 hq8 => ?_)
  obtain ⟨_, j, vb8, vr8, s8, rfl, r8, hnm8, g8, hlive8, hmost8, hrows8, _, hold8, _, hat8⟩ := hq8
  obtain ⟨qr, hqr, hqa⟩ := hat8 (by omega)
  have hq0 : qr.2.2 ≠ 0 := by
    obtain ⟨h0, b, q1, _⟩ := hold8
    rw [hqr] at q1
    cases q1
    simp
  have hn8 : ∀ n ∈ c1 :: (rowName vb8 ++ rowName vr8), c ≤ n := fun n hn => by
    rcases List.mem_cons.1 hn with h | h
    · rw [h]; exact hc1n
    · rcases hnm8 n h with h | h
      · exact hnew7 n (List.mem_cons_of_mem _ h)
      · omega
  repeat' (first
    | refine WpC.seq ?_
    | refine WpC.region ?_
    | refine WpC.drawn ?_
    | refine WpC.skip ?_
    | refine WpC.block ?_
    | refine WpC.exit ?_
    | refine WpC.ret ?_
    | refine WpO.nil ?_
    | refine WpO.cons rfl rfl (WpX.pure (fun _ => rfl) ⟨nolog, ?_⟩)
    | refine WpO.skip rfl rfl ?_
    | refine WpL.cons rfl rfl (WpX.pure (fun _ => rfl) ⟨nolog, ?_⟩)
    | refine WpL.skip rfl rfl ?_
    | refine seqQ_normal ?_
    | refine seqQ_ret ?_
    | refine seqQ_exit ?_
    | refine blkQ_normal ?_
    | refine blkQ_ret ?_
    | refine blkQ_out rfl ?_
    | refine blkQ_by rfl ?_
    | refine WpO.cons rfl rfl (op_buildSlice (k := 1) rfl rfl rfl rfl (by decide) rfl ⟨(by simp [InL, Acc.name, rowName] <;> omega), ?_⟩)
    | refine WpL.cons rfl rfl (op_buildSlice (k := 1) rfl rfl rfl rfl (by decide) rfl ⟨(by simp [InL, Acc.name, rowName] <;> omega), ?_⟩))
  have r9 : ∀ x : AObj, StoreAt (MapI.set h8 c8 x) (c8 + 1) c1 vb8 vr8 s8 := fun x => r8.keep (by omega) fun n hn => MapI.get_ne _ _ _ _ (by omega)
  refine WpO.cons rfl rfl (call_at rfl (grant_no (r9 _) (by omega) (by omega) (by omega) (by omega)) (fun n hn => .inr (by simp at hn; rw [hn]; exact hc1n)) (by omega) fun v h9' c9' hc9 hfr9 hq9 => ?_)
  obtain ⟨rfl, rfl, rfl⟩ := hq9
  have hwj : I ((j + 1 : Nat) : Int) = I ((j : Int) + 1) := by congr 1
  repeat' (first
    | refine WpC.seq ?_
    | refine WpC.region ?_
    | refine WpC.drawn ?_
    | refine WpC.skip ?_
    | refine WpC.block ?_
    | refine WpC.exit ?_
    | refine WpC.ret ?_
    | refine WpO.nil ?_
    | refine WpO.cons rfl rfl (WpX.pure (fun _ => rfl) ⟨nolog, ?_⟩)
    | refine WpO.skip rfl rfl ?_
    | refine WpL.cons rfl rfl (WpX.pure (fun _ => rfl) ⟨nolog, ?_⟩)
    | refine WpL.skip rfl rfl ?_
    | refine seqQ_normal ?_
    | refine seqQ_ret ?_
    | refine seqQ_exit ?_
    | refine blkQ_normal ?_
    | refine blkQ_ret ?_
    | refine blkQ_out rfl ?_
    | refine blkQ_by rfl ?_)
  rw [hwj]
  refine WpO.cons rfl rfl (call_at rfl (place_ok (r9 _) (by omega) hqr hq0) (fun n hn => .inr (hn8 n (by
    rcases List.mem_cons.1 hn with h | h
    · rw [h]; simp
    · simp [h]))) (by omega) fun v h10 c10 hc10 hfr10 hq10 => ?_)
  obtain ⟨rfl, rfl, rfl⟩ := hq10
  have e9 : (qr.1 == st.live) = true := by rw [hqa, hslen]; simp
  have e10 : decide ((1048576 : Int) > (z : Int)) = true := by simp; omega
  repeat' (first
    | refine WpC.seq ?_
    | refine WpC.region ?_
    | refine WpC.drawn ?_
    | refine WpC.skip ?_
    | refine WpC.block ?_
    | refine WpC.exit ?_
    | refine WpC.ret ?_
    | refine WpO.nil ?_
    | refine WpO.cons rfl rfl (WpX.pure (fun _ => rfl) ⟨nolog, ?_⟩)
    | refine WpO.skip rfl rfl ?_
    | refine WpL.cons rfl rfl (WpX.pure (fun _ => rfl) ⟨nolog, ?_⟩)
    | refine WpL.skip rfl rfl ?_
    | refine seqQ_normal ?_
    | refine seqQ_ret ?_
    | refine seqQ_exit ?_
    | refine blkQ_normal ?_
    | refine blkQ_ret ?_
    | refine blkQ_out rfl ?_
    | refine blkQ_by rfl ?_)
  simp only [e9]
  repeat' (first
    | refine WpC.seq ?_
    | refine WpC.region ?_
    | refine WpC.drawn ?_
    | refine WpC.skip ?_
    | refine WpC.block ?_
    | refine WpC.exit ?_
    | refine WpC.ret ?_
    | refine WpO.nil ?_
    | refine WpO.cons rfl rfl (WpX.pure (fun _ => rfl) ⟨nolog, ?_⟩)
    | refine WpO.skip rfl rfl ?_
    | refine WpL.cons rfl rfl (WpX.pure (fun _ => rfl) ⟨nolog, ?_⟩)
    | refine WpL.skip rfl rfl ?_
    | refine seqQ_normal ?_
    | refine seqQ_ret ?_
    | refine seqQ_exit ?_
    | refine blkQ_normal ?_
    | refine blkQ_ret ?_
    | refine blkQ_out rfl ?_
    | refine blkQ_by rfl ?_)
  simp only [e10]
  repeat' (first
    | refine WpC.seq ?_
    | refine WpC.region ?_
    | refine WpC.drawn ?_
    | refine WpC.skip ?_
    | refine WpC.block ?_
    | refine WpC.exit ?_
    | refine WpC.ret ?_
    | refine WpO.nil ?_
    | refine WpO.cons rfl rfl (WpX.pure (fun _ => rfl) ⟨nolog, ?_⟩)
    | refine WpO.skip rfl rfl ?_
    | refine WpL.cons rfl rfl (WpX.pure (fun _ => rfl) ⟨nolog, ?_⟩)
    | refine WpL.skip rfl rfl ?_
    | refine seqQ_normal ?_
    | refine seqQ_ret ?_
    | refine seqQ_exit ?_
    | refine blkQ_normal ?_
    | refine blkQ_ret ?_
    | refine blkQ_out rfl ?_
    | refine blkQ_by rfl ?_)
  exact out_ret rfl rfl
end Go.Proofs.Ytempfmkicpifkaa
