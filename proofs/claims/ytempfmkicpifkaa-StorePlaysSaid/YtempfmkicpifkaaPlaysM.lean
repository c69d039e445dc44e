/- StorePlays: the law on what was handed in. -/
/- StorePlays: its arguments as data. -/
import Derived.Test.YtempfmkicpifkaaPlayM
import Derived.Test.YtempfmkicpifkaaTightW
import Derived.Test.YtempfmkicpifkaaTightV
import Derived.WideShapes4


set_option linter.unusedVariables false
set_option linter.unusedSectionVars false
set_option linter.unusedSimpArgs false
set_option linter.unnecessarySimpa false
namespace Go.Proofs.Ytempfmkicpifkaa
open Go.Ab
set_option maxRecDepth 10000

abbrev Deed := (Int × Int × Int × Int) × BV
def deedV (a : Deed) : List V := [I a.1.1, I a.1.2.1, I a.1.2.2.1, I a.1.2.2.2, bv a.2]
theorem deed_len (a : Deed) : (deedV a).length = 5 := rfl
def okZ (z : Int) : Prop := -9223372036854775808 ≤ z ∧ z ≤ 9223372036854775807
def deedArg (h : HH) (c : Nat) (a : Deed) : Prop := okZ a.1.1 ∧ okZ a.1.2.1 ∧ okZ a.1.2.2.1 ∧ okZ a.1.2.2.2 ∧ bytesArg h c a.2
abbrev bytesOf (ds : List Deed) : List BV := ds.map fun a => a.2

theorem rlook_no {h : HH} {c q : Nat} {vB vP vS vC : V} {st : St} {hd a n : Int} (r : RefAt h c q vB vP vS vC st) (hlen : st.rows.length ≤ 1000) (hno : ∀ (i : Nat) (x : R3), hd = i + 1 → st.rows[i]? = some x → ¬ x.2.2 > 0) :
    Does 76 [.ptr (some (q, 0)), I hd, I a, I n] h c (rn q vB vP vS vC) fun v h' c' => v = .tuple [.slice none 0 (.known 0), .bool false] ∧ h' = h ∧ c' = c := by
  refine does_of (enter (fn := Try.f76) Try.func76 rfl rfl (Nat.le_of_ble_eq_true rfl) ?_)
  repeat' (first
    | refine WpC.seq ?_
    | refine WpC.region ?_
    | refine WpC.drawn ?_
    | refine WpC.skip ?_
    | refine WpC.block ?_
    | refine WpC.exit ?_
    | refine WpC.ret ?_
    | refine WpO.nil ?_
    | refine WpO.cons rfl rfl (WpX.pure (fun _ => rfl) ⟨nolog, ?_⟩)
    | refine WpO.skip rfl rfl ?_
    | refine WpL.cons rfl rfl (WpX.pure (fun _ => rfl) ⟨nolog, ?_⟩)
    | refine WpL.skip rfl rfl ?_
    | refine seqQ_normal ?_
    | refine seqQ_ret ?_
    | refine seqQ_exit ?_
    | refine blkQ_normal ?_
    | refine blkQ_ret ?_
    | refine blkQ_out rfl ?_
    | refine blkQ_by rfl ?_)
  refine WpO.cons rfl rfl (call_at rfl (there_ok r hlen) (fun n hn => .inl hn) (Nat.le_refl _) fun v h4 c4 hc4 hfr4 hq4 => ?_)
  obtain ⟨rfl, rfl, hq4⟩ := hq4
  rcases hq4 with ⟨i, x, rfl, hx, h3, _⟩ | ⟨_, rfl⟩
  case inl => exact absurd h3 (hno i x rfl hx)
  repeat' (first
    | refine WpC.seq ?_
    | refine WpC.region ?_
    | refine WpC.drawn ?_
    | refine WpC.skip ?_
    | refine WpC.block ?_
    | refine WpC.exit ?_
    | refine WpC.ret ?_
    | refine WpO.nil ?_
    | refine WpO.cons rfl rfl (WpX.pure (fun _ => rfl) ⟨nolog, ?_⟩)
    | refine WpO.skip rfl rfl ?_
    | refine WpL.cons rfl rfl (WpX.pure (fun _ => rfl) ⟨nolog, ?_⟩)
    | refine WpL.skip rfl rfl ?_
    | refine seqQ_normal ?_
    | refine seqQ_ret ?_
    | refine seqQ_exit ?_
    | refine blkQ_normal ?_
    | refine blkQ_ret ?_
    | refine blkQ_out rfl ?_
    | refine blkQ_by rfl ?_)
  refine WpC.cond rfl (fun _ => ?_) (fun hb => by cases hb)
  repeat' (first
    | refine WpC.seq ?_
    | refine WpC.region ?_
    | refine WpC.drawn ?_
    | refine WpC.skip ?_
    | refine WpC.block ?_
    | refine WpC.exit ?_
    | refine WpC.ret ?_
    | refine WpO.nil ?_
    | refine WpO.cons rfl rfl (WpX.pure (fun _ => rfl) ⟨nolog, ?_⟩)
    | refine WpO.skip rfl rfl ?_
    | refine WpL.cons rfl rfl (WpX.pure (fun _ => rfl) ⟨nolog, ?_⟩)
    | refine WpL.skip rfl rfl ?_
    | refine seqQ_normal ?_
    | refine seqQ_ret ?_
    | refine seqQ_exit ?_
    | refine blkQ_normal ?_
    | refine blkQ_ret ?_
    | refine blkQ_out rfl ?_
    | refine blkQ_by rfl ?_)
  exact out_ret rfl ⟨rfl, rfl, rfl⟩

set_option maxHeartbeats 40000000 in
theorem plays_law {h : HH} {c : Nat} {most : Int} {l : V} {ds : List Deed} (hl : RowArg h c l 5 ds.length (ds.map deedV).flatten) (hgood : ∀ a ∈ ds, deedArg h c a) :
    Does 14 [I most, l] h c (rowName l ++ names (bytesOf ds)) fun v h' c' => v = .bool true := by
  refine does_of (enter (fn := Try.f14) Try.func14 rfl rfl (Nat.le_of_ble_eq_true rfl) ?_)
  repeat' (first
    | refine WpC.seq ?_
    | refine WpC.region ?_
    | refine WpC.drawn ?_
    | refine WpC.skip ?_
    | refine WpC.block ?_
    | refine WpC.exit ?_
    | refine WpC.ret ?_
    | refine WpO.nil ?_
    | refine WpO.cons rfl rfl (WpX.pure (fun _ => rfl) ⟨nolog, ?_⟩)
    | refine WpO.skip rfl rfl ?_
    | refine WpL.cons rfl rfl (WpX.pure (fun _ => rfl) ⟨nolog, ?_⟩)
    | refine WpL.skip rfl rfl ?_
    | refine seqQ_normal ?_
    | refine seqQ_ret ?_
    | refine seqQ_exit ?_
    | refine blkQ_normal ?_
    | refine blkQ_ret ?_
    | refine blkQ_out rfl ?_
    | refine blkQ_by rfl ?_)
  refine WpO.cons rfl rfl (call_at rfl sawake_ok (by simp) (Nat.le_refl _) fun v h1 c1 hc1 hfr1 hq => ?_)
  subst hq
  have hold1 : ∀ n, n < c → MapI.get h1 n = MapI.get h n := fun n hn => hfr1 n hn (by simp)
  obtain ⟨al, capl, rfl, hal⟩ := rowArg_slice hl
  repeat' (first
    | refine WpC.seq ?_
    | refine WpC.region ?_
    | refine WpC.drawn ?_
    | refine WpC.skip ?_
    | refine WpC.block ?_
    | refine WpC.exit ?_
    | refine WpC.ret ?_
    | refine WpO.nil ?_
    | refine WpO.cons rfl rfl (WpX.pure (fun _ => rfl) ⟨nolog, ?_⟩)
    | refine WpO.skip rfl rfl ?_
    | refine WpL.cons rfl rfl (WpX.pure (fun _ => rfl) ⟨nolog, ?_⟩)
    | refine WpL.skip rfl rfl ?_
    | refine seqQ_normal ?_
    | refine seqQ_ret ?_
    | refine seqQ_exit ?_
    | refine blkQ_normal ?_
    | refine blkQ_ret ?_
    | refine blkQ_out rfl ?_
    | refine blkQ_by rfl ?_)
  refine WpC.cond rfl (fun hb => by cases hb) (fun _ => ?_)
  repeat' (first
    | refine WpC.seq ?_
    | refine WpC.region ?_
    | refine WpC.drawn ?_
    | refine WpC.skip ?_
    | refine WpC.block ?_
    | refine WpC.exit ?_
    | refine WpC.ret ?_
    | refine WpO.nil ?_
    | refine WpO.cons rfl rfl (WpX.pure (fun _ => rfl) ⟨nolog, ?_⟩)
    | refine WpO.skip rfl rfl ?_
    | refine WpL.cons rfl rfl (WpX.pure (fun _ => rfl) ⟨nolog, ?_⟩)
    | refine WpL.skip rfl rfl ?_
    | refine seqQ_normal ?_
    | refine seqQ_ret ?_
    | refine seqQ_exit ?_
    | refine blkQ_normal ?_
    | refine blkQ_ret ?_
    | refine blkQ_out rfl ?_
    | refine blkQ_by rfl ?_
    | refine WpO.cons rfl rfl (op_len rfl rfl rfl ⟨(by simp [InL, Acc.name, rowName] <;> omega), ?_⟩)
    | refine WpL.cons rfl rfl (op_len rfl rfl rfl ⟨(by simp [InL, Acc.name, rowName] <;> omega), ?_⟩))
  refine WpC.cond rfl (fun hgt => ?_) (fun hle => ?_)
  ·
    repeat' (first
      | refine WpC.seq ?_
      | refine WpC.region ?_
      | refine WpC.drawn ?_
      | refine WpC.skip ?_
      | refine WpC.block ?_
      | refine WpC.exit ?_
      | refine WpC.ret ?_
      | refine WpO.nil ?_
      | refine WpO.cons rfl rfl (WpX.pure (fun _ => rfl) ⟨nolog, ?_⟩)
      | refine WpO.skip rfl rfl ?_
      | refine WpL.cons rfl rfl (WpX.pure (fun _ => rfl) ⟨nolog, ?_⟩)
      | refine WpL.skip rfl rfl ?_
      | refine seqQ_normal ?_
      | refine seqQ_ret ?_
      | refine seqQ_exit ?_
      | refine blkQ_normal ?_
      | refine blkQ_ret ?_
      | refine blkQ_out rfl ?_
      | refine blkQ_by rfl ?_)
    exact out_ret rfl rfl
  have hle : ds.length ≤ 60 := by
    have : ¬ ((ds.length : Nat) : Int) > 60 := by simpa using hle
    omega
  repeat' (first
    | refine WpC.seq ?_
    | refine WpC.region ?_
    | refine WpC.drawn ?_
    | refine WpC.skip ?_
    | refine WpC.block ?_
    | refine WpC.exit ?_
    | refine WpC.ret ?_
    | refine WpO.nil ?_
    | refine WpO.cons rfl rfl (WpX.pure (fun _ => rfl) ⟨nolog, ?_⟩)
    | refine WpO.skip rfl rfl ?_
    | refine WpL.cons rfl rfl (WpX.pure (fun _ => rfl) ⟨nolog, ?_⟩)
    | refine WpL.skip rfl rfl ?_
    | refine seqQ_normal ?_
    | refine seqQ_ret ?_
    | refine seqQ_exit ?_
    | refine blkQ_normal ?_
    | refine blkQ_ret ?_
    | refine blkQ_out rfl ?_
    | refine blkQ_by rfl ?_)
  refine WpO.cons rfl rfl (call_at rfl snew_any (by simp) (by omega) fun v h2 c2 hc2 hfr2 hq => ?_)
  obtain ⟨rfl, rfl, r2⟩ := hq
  repeat' (first
    | refine WpC.seq ?_
    | refine WpC.region ?_
    | refine WpC.drawn ?_
    | refine WpC.skip ?_
    | refine WpC.block ?_
    | refine WpC.exit ?_
    | refine WpC.ret ?_
    | refine WpO.nil ?_
    | refine WpO.cons rfl rfl (WpX.pure (fun _ => rfl) ⟨nolog, ?_⟩)
    | refine WpO.skip rfl rfl ?_
    | refine WpL.cons rfl rfl (WpX.pure (fun _ => rfl) ⟨nolog, ?_⟩)
    | refine WpL.skip rfl rfl ?_
    | refine seqQ_normal ?_
    | refine seqQ_ret ?_
    | refine seqQ_exit ?_
    | refine blkQ_normal ?_
    | refine blkQ_ret ?_
    | refine blkQ_out rfl ?_
    | refine blkQ_by rfl ?_)
  refine WpO.cons rfl rfl (call_at rfl rnew_ok (by simp) (by omega) fun v h3 c3 hc3 hfr3 hq => ?_)
  obtain ⟨rfl, rfl, r3⟩ := hq
  have K0 : ∃ z, Play h c c1 (c1 + 1) 0 h3 (c1 + 1 + 1) (.slice none 0 (.known 0)) (.slice none 0 (.known 0)) (.slice none 0 (.known 0)) (.slice none 0 (.known 0)) (.slice none 0 (.known 0)) (.slice none 0 (.known 0)) ⟨[], z, [], 0⟩ := by
    refine ⟨_, r2.keep (by omega) (fun n hn => hfr3 n hn (by simp)), r3, good_new (by split <;> omega) (by split <;> omega), Nat.le_refl _, fun j x hx => by simp at hx, fun z hz => (by cases hz), fun n hn => ?_, fun n hn => ?_, fun n hn => ?_, by omega, fun n hn => ?_⟩
    · simp [rowName] at hn ⊢; omega
    · simp [rowName] at hn; omega
    · simp [rowName] at hn; omega
    · rw [hfr3 n (by omega) (by simp), hfr2 n (by omega) (by simp)]; exact hold1 n hn
  obtain ⟨z0, K0⟩ := K0
  repeat' (first
    | refine WpC.seq ?_
    | refine WpC.region ?_
    | refine WpC.drawn ?_
    | refine WpC.skip ?_
    | refine WpC.block ?_
    | refine WpC.exit ?_
    | refine WpC.ret ?_
    | refine WpO.nil ?_
    | refine WpO.cons rfl rfl (WpX.pure (fun _ => rfl) ⟨nolog, ?_⟩)
    | refine WpO.skip rfl rfl ?_
    | refine WpL.cons rfl rfl (WpX.pure (fun _ => rfl) ⟨nolog, ?_⟩)
    | refine WpL.skip rfl rfl ?_
    | refine seqQ_normal ?_
    | refine seqQ_ret ?_
    | refine seqQ_exit ?_
    | refine blkQ_normal ?_
    | refine blkQ_ret ?_
    | refine blkQ_out rfl ?_
    | refine blkQ_by rfl ?_)
  refine WpC.cond rfl (fun hb => by cases hb) (fun _ => ?_)
  repeat' (first
    | refine WpC.seq ?_
    | refine WpC.region ?_
    | refine WpC.drawn ?_
    | refine WpC.skip ?_
    | refine WpC.block ?_
    | refine WpC.exit ?_
    | refine WpC.ret ?_
    | refine WpO.nil ?_
    | refine WpO.cons rfl rfl (WpX.pure (fun _ => rfl) ⟨nolog, ?_⟩)
    | refine WpO.skip rfl rfl ?_
    | refine WpL.cons rfl rfl (WpX.pure (fun _ => rfl) ⟨nolog, ?_⟩)
    | refine WpL.skip rfl rfl ?_
    | refine seqQ_normal ?_
    | refine seqQ_ret ?_
    | refine seqQ_exit ?_
    | refine blkQ_normal ?_
    | refine blkQ_ret ?_
    | refine blkQ_out rfl ?_
    | refine blkQ_by rfl ?_)
  refine WpC.loop ?_
  refine WpLoop.ind (X := Nat) (fun i e h' c' => ∃ vb vr vB vP vS vC st, (∃ b0, e = MapI.set (MapI.set (MapI.set (MapI.set b0 1 (.slice al ds.length (.known capl))) 5 (.ptr (some (c1, 0)))) 6 (.ptr (some (c1 + 1, 0)))) 7 (I i)) ∧ i ≤ ds.length ∧ Play h c c1 (c1 + 1) i h' c' vb vr vB vP vS vC st)
    (fun i => ds.length - i) ?_ 0 _ _ _ ⟨_, _, _, _, _, _, _, set4 rfl rfl rfl rfl, Nat.zero_le _, K0⟩
  rintro i e h' c' ⟨vb, vr, vB, vP, vS, vC, st, ⟨b0, rfl⟩, hi, K⟩
  repeat' (first
    | refine WpC.seq ?_
    | refine WpC.region ?_
    | refine WpC.drawn ?_
    | refine WpC.skip ?_
    | refine WpC.block ?_
    | refine WpC.exit ?_
    | refine WpC.ret ?_
    | refine WpO.nil ?_
    | refine WpO.cons rfl rfl (WpX.pure (fun _ => rfl) ⟨nolog, ?_⟩)
    | refine WpO.skip rfl rfl ?_
    | refine WpL.cons rfl rfl (WpX.pure (fun _ => rfl) ⟨nolog, ?_⟩)
    | refine WpL.skip rfl rfl ?_
    | refine seqQ_normal ?_
    | refine seqQ_ret ?_
    | refine seqQ_exit ?_
    | refine blkQ_normal ?_
    | refine blkQ_ret ?_
    | refine blkQ_out rfl ?_
    | refine blkQ_by rfl ?_
    | refine WpO.cons rfl rfl (op_len rfl rfl rfl ⟨(by simp [InL, Acc.name, rowName] <;> omega), ?_⟩)
    | refine WpL.cons rfl rfl (op_len rfl rfl rfl ⟨(by simp [InL, Acc.name, rowName] <;> omega), ?_⟩))
  refine WpC.cond rfl (fun hlt => ?_) (fun hge => ?_)
  case refine_2 =>
    repeat' (first
      | refine WpC.seq ?_
      | refine WpC.region ?_
      | refine WpC.drawn ?_
      | refine WpC.skip ?_
      | refine WpC.block ?_
      | refine WpC.exit ?_
      | refine WpC.ret ?_
      | refine WpO.nil ?_
      | refine WpO.cons rfl rfl (WpX.pure (fun _ => rfl) ⟨nolog, ?_⟩)
      | refine WpO.skip rfl rfl ?_
      | refine WpL.cons rfl rfl (WpX.pure (fun _ => rfl) ⟨nolog, ?_⟩)
      | refine WpL.skip rfl rfl ?_
      | refine seqQ_normal ?_
      | refine seqQ_ret ?_
      | refine seqQ_exit ?_
      | refine blkQ_normal ?_
      | refine blkQ_ret ?_
      | refine blkQ_out rfl ?_
      | refine blkQ_by rfl ?_)
    exact out_ret rfl rfl
  have hlt : i < ds.length := by
    have : ((i : Nat) : Int) < (ds.length : Nat) := by simpa using hlt
    omega
  obtain ⟨sl, rfl, hsl, hgl⟩ := hal (by omega)
  obtain ⟨⟨⟨d, hd, at', n⟩, ⟨⟨sa, an, ac⟩, ys⟩⟩, ha⟩ : ∃ a, ds[i]? = some a := ⟨_, List.getElem?_eq_getElem hlt⟩
  have ham := List.mem_of_getElem? ha
  obtain ⟨o1, o2, o3, o4, hba, hbr⟩ := hgood _ ham
  simp only at o1 o2 o3 o4 hba hbr
  have hlen : an = ys.length := by
    obtain ⟨x, cap, e1, _⟩ := rowArg_slice hba
    unfold bv at e1
    injection e1
  subst hlen
  have hgl' : MapI.get h' sl = some (.cells false false (flat deedV ds ++ [])) := by rw [K.old sl hsl, List.append_nil]; exact hgl
  have hct : cut (flat deedV ds ++ []) (0 + ((i : Nat) : Int).toNat * 5) 5 = some [I d, I hd, I at', I n, .slice sa ys.length (.known ac)] := by
    rw [show 0 + ((i : Nat) : Int).toNat * 5 = i * 5 from by simp]
    exact cut_flat deed_len ha []
  have hw1 : IntKind.i64.wrap ((i : Int) + 1) = ((i + 1 : Nat) : Int) := by rw [Go.IntWalk.i64_in _ (by omega)]; omega
  have hgc : ∀ x : AObj, MapI.get (MapI.set h' c' x) c' = some x := fun x => MapI.get_same _ _ _
  have hd5 : ∀ (x : AObj) (y : AObj), MapI.get (MapI.set (MapI.set h' c' x) c' y) c' = some y := fun x y => MapI.get_same _ _ _
  have K5 : ∀ (x : AObj) (y : AObj), Play h c c1 (c1 + 1) i (MapI.set (MapI.set h' c' x) c' y) (c' + 1) vb vr vB vP vS vC st := fun x y => K.keep (by omega) fun m hm => by rw [MapI.get_ne _ _ _ _ (by omega), MapI.get_ne _ _ _ _ (by omega)]
  have hle0 := K.le
  have hgd := K.good
  have hlv := hgd.live0
  have hgf := hgd.fit
  have hgm := hgd.most
  have hrl := K.rows
  have hlies := hgd.lies
  have hsz := K.sized
  have hc5 : c ≤ c' + 1 := by omega
  have hP : ∀ n ∈ c1 :: (rowName vb ++ rowName vr), n ∈ rowName (.slice (some (sl, 0)) ds.length (.known capl)) ++ names (bytesOf ds) ∨ c ≤ n := fun n hn => .inr (K.newp n hn)
  have hPr : ∀ n ∈ c1 :: rowName vr, n ∈ rowName (.slice (some (sl, 0)) ds.length (.known capl)) ++ names (bytesOf ds) ∨ c ≤ n := fun n hn => .inr (K.newp n (by simp at hn ⊢; rcases hn with h | h <;> simp [h]))
  have hQ : ∀ n ∈ rn (c1 + 1) vB vP vS vC, n ∈ rowName (.slice (some (sl, 0)) ds.length (.known capl)) ++ names (bytesOf ds) ∨ c ≤ n := fun n hn => .inr (K.newq n hn)
  have hPlt : ∀ n ∈ c1 :: (rowName vb ++ rowName vr), n < c' := K.at_.names
  have hQlt : ∀ n ∈ rn (c1 + 1) vB vP vS vC, n < c' := K.ref.names
  have hsP : ∀ n ∈ c1 :: rowName vr, n ∈ c1 :: (rowName vb ++ rowName vr) := fun n hn => by simp at hn ⊢; rcases hn with h | h <;> simp [h]
  by_cases hbig : ys.length > 5000
  · have e1 : decide (((ys.length : Nat) : Int) > 5000) = true := by simp; omega
    repeat' (first
      | refine WpC.seq ?_
      | refine WpC.region ?_
      | refine WpC.drawn ?_
      | refine WpC.skip ?_
      | refine WpC.block ?_
      | refine WpC.exit ?_
      | refine WpC.ret ?_
      | refine WpO.nil ?_
      | refine WpO.cons rfl rfl (WpX.pure (fun _ => rfl) ⟨nolog, ?_⟩)
      | refine WpO.skip rfl rfl ?_
      | refine WpL.cons rfl rfl (WpX.pure (fun _ => rfl) ⟨nolog, ?_⟩)
      | refine WpL.skip rfl rfl ?_
      | refine seqQ_normal ?_
      | refine seqQ_ret ?_
      | refine seqQ_exit ?_
      | refine blkQ_normal ?_
      | refine blkQ_ret ?_
      | refine blkQ_out rfl ?_
      | refine blkQ_by rfl ?_
      | refine WpO.cons rfl rfl (op_indexAddr (k := 5) rfl rfl rfl rfl ⟨by omega, by omega⟩ ⟨(by simp [InL, Acc.name, rowName] <;> omega), ?_⟩)
      | refine WpL.cons rfl rfl (op_indexAddr (k := 5) rfl rfl rfl rfl ⟨by omega, by omega⟩ ⟨(by simp [InL, Acc.name, rowName] <;> omega), ?_⟩)
      | refine WpO.cons rfl rfl (op_loadA rfl rfl rfl rfl hgl' hct ⟨(by simp [InL, Acc.name, rowName] <;> omega), ?_⟩)
      | refine WpL.cons rfl rfl (op_loadA rfl rfl rfl rfl hgl' hct ⟨(by simp [InL, Acc.name, rowName] <;> omega), ?_⟩)
      | refine WpO.cons rfl rfl (op_alloc rfl ⟨(by simp [InL, Acc.name, rowName] <;> omega), ?_⟩)
      | refine WpL.cons rfl rfl (op_alloc rfl ⟨(by simp [InL, Acc.name, rowName] <;> omega), ?_⟩)
      | refine WpO.cons rfl rfl (op_store rfl rfl rfl rfl (hgc _) (Nat.le_refl _) rfl ⟨(by simp [InL, Acc.name, rowName] <;> omega), ?_⟩)
      | refine WpL.cons rfl rfl (op_store rfl rfl rfl rfl (hgc _) (Nat.le_refl _) rfl ⟨(by simp [InL, Acc.name, rowName] <;> omega), ?_⟩)
      | refine WpO.cons rfl rfl (op_load rfl rfl rfl (hd5 _ _) rfl ⟨(by simp [InL, Acc.name, rowName] <;> omega), ?_⟩)
      | refine WpL.cons rfl rfl (op_load rfl rfl rfl (hd5 _ _) rfl ⟨(by simp [InL, Acc.name, rowName] <;> omega), ?_⟩)
      | refine WpO.cons rfl rfl (op_len rfl rfl rfl ⟨(by simp [InL, Acc.name, rowName] <;> omega), ?_⟩)
      | refine WpL.cons rfl rfl (op_len rfl rfl rfl ⟨(by simp [InL, Acc.name, rowName] <;> omega), ?_⟩))
    refine WpC.cond rfl (fun _ => ?_) (fun hb => by rw [e1] at hb; cases hb)
    repeat' (first
      | refine WpC.seq ?_
      | refine WpC.region ?_
      | refine WpC.drawn ?_
      | refine WpC.skip ?_
      | refine WpC.block ?_
      | refine WpC.exit ?_
      | refine WpC.ret ?_
      | refine WpO.nil ?_
      | refine WpO.cons rfl rfl (WpX.pure (fun _ => rfl) ⟨nolog, ?_⟩)
      | refine WpO.skip rfl rfl ?_
      | refine WpL.cons rfl rfl (WpX.pure (fun _ => rfl) ⟨nolog, ?_⟩)
      | refine WpL.skip rfl rfl ?_
      | refine seqQ_normal ?_
      | refine seqQ_ret ?_
      | refine seqQ_exit ?_
      | refine blkQ_normal ?_
      | refine blkQ_ret ?_
      | refine blkQ_out rfl ?_
      | refine blkQ_by rfl ?_)
    exact out_ret rfl rfl
  have e1 : decide (((ys.length : Nat) : Int) > 5000) = false := by simp; omega
  repeat' (first
    | refine WpC.seq ?_
    | refine WpC.region ?_
    | refine WpC.drawn ?_
    | refine WpC.skip ?_
    | refine WpC.block ?_
    | refine WpC.exit ?_
    | refine WpC.ret ?_
    | refine WpO.nil ?_
    | refine WpO.cons rfl rfl (WpX.pure (fun _ => rfl) ⟨nolog, ?_⟩)
    | refine WpO.skip rfl rfl ?_
    | refine WpL.cons rfl rfl (WpX.pure (fun _ => rfl) ⟨nolog, ?_⟩)
    | refine WpL.skip rfl rfl ?_
    | refine seqQ_normal ?_
    | refine seqQ_ret ?_
    | refine seqQ_exit ?_
    | refine blkQ_normal ?_
    | refine blkQ_ret ?_
    | refine blkQ_out rfl ?_
    | refine blkQ_by rfl ?_
    | refine WpO.cons rfl rfl (op_indexAddr (k := 5) rfl rfl rfl rfl ⟨by omega, by omega⟩ ⟨(by simp [InL, Acc.name, rowName] <;> omega), ?_⟩)
    | refine WpL.cons rfl rfl (op_indexAddr (k := 5) rfl rfl rfl rfl ⟨by omega, by omega⟩ ⟨(by simp [InL, Acc.name, rowName] <;> omega), ?_⟩)
    | refine WpO.cons rfl rfl (op_loadA rfl rfl rfl rfl hgl' hct ⟨(by simp [InL, Acc.name, rowName] <;> omega), ?_⟩)
    | refine WpL.cons rfl rfl (op_loadA rfl rfl rfl rfl hgl' hct ⟨(by simp [InL, Acc.name, rowName] <;> omega), ?_⟩)
    | refine WpO.cons rfl rfl (op_alloc rfl ⟨(by simp [InL, Acc.name, rowName] <;> omega), ?_⟩)
    | refine WpL.cons rfl rfl (op_alloc rfl ⟨(by simp [InL, Acc.name, rowName] <;> omega), ?_⟩)
    | refine WpO.cons rfl rfl (op_store rfl rfl rfl rfl (hgc _) (Nat.le_refl _) rfl ⟨(by simp [InL, Acc.name, rowName] <;> omega), ?_⟩)
    | refine WpL.cons rfl rfl (op_store rfl rfl rfl rfl (hgc _) (Nat.le_refl _) rfl ⟨(by simp [InL, Acc.name, rowName] <;> omega), ?_⟩)
    | refine WpO.cons rfl rfl (op_load rfl rfl rfl (hd5 _ _) rfl ⟨(by simp [InL, Acc.name, rowName] <;> omega), ?_⟩)
    | refine WpL.cons rfl rfl (op_load rfl rfl rfl (hd5 _ _) rfl ⟨(by simp [InL, Acc.name, rowName] <;> omega), ?_⟩)
    | refine WpO.cons rfl rfl (op_len rfl rfl rfl ⟨(by simp [InL, Acc.name, rowName] <;> omega), ?_⟩)
    | refine WpL.cons rfl rfl (op_len rfl rfl rfl ⟨(by simp [InL, Acc.name, rowName] <;> omega), ?_⟩))
  refine WpC.cond rfl (fun hb => by rw [e1] at hb; cases hb) (fun _ => ?_)
  repeat' (first
    | refine WpC.seqI (a := Code.block 2 _) (fun e h6 c6 => ∃ vb vr vB vP vS vC st, (∃ b0, e = MapI.set (MapI.set (MapI.set (MapI.set (MapI.set b0 1 (.slice (some (sl, 0)) ds.length (.known capl))) 5 (.ptr (some (c1, 0)))) 6 (.ptr (some (c1 + 1, 0)))) 7 (I i)) 9 (.bool true)) ∧ Play h c c1 (c1 + 1) (i + 1) h6 c6 vb vr vB vP vS vC st) ?_ ?_
    | refine WpC.seq ?_
    | refine WpC.region ?_
    | refine WpC.drawn ?_
    | refine WpC.skip ?_
    | refine WpC.block ?_
    | refine WpC.exit ?_
    | refine WpC.ret ?_
    | refine WpO.nil ?_
    | refine WpO.cons rfl rfl (WpX.pure (fun _ => rfl) ⟨nolog, ?_⟩)
    | refine WpO.skip rfl rfl ?_
    | refine WpL.cons rfl rfl (WpX.pure (fun _ => rfl) ⟨nolog, ?_⟩)
    | refine WpL.skip rfl rfl ?_
    | refine seqQ_normal ?_
    | refine seqQ_ret ?_
    | refine seqQ_exit ?_
    | refine blkQ_normal ?_
    | refine blkQ_ret ?_
    | refine blkQ_out rfl ?_
    | refine blkQ_by rfl ?_)
  ·
    repeat' (first
      | refine WpC.seq ?_
      | refine WpC.region ?_
      | refine WpC.drawn ?_
      | refine WpC.skip ?_
      | refine WpC.block ?_
      | refine WpC.exit ?_
      | refine WpC.ret ?_
      | refine WpO.nil ?_
      | refine WpO.cons rfl rfl (WpX.pure (fun _ => rfl) ⟨nolog, ?_⟩)
      | refine WpO.skip rfl rfl ?_
      | refine WpL.cons rfl rfl (WpX.pure (fun _ => rfl) ⟨nolog, ?_⟩)
      | refine WpL.skip rfl rfl ?_
      | refine seqQ_normal ?_
      | refine seqQ_ret ?_
      | refine seqQ_exit ?_
      | refine blkQ_normal ?_
      | refine blkQ_ret ?_
      | refine blkQ_out rfl ?_
      | refine blkQ_by rfl ?_
      | refine WpO.cons rfl rfl (op_load rfl rfl rfl (hd5 _ _) rfl ⟨(by simp [InL, Acc.name, rowName] <;> omega), ?_⟩)
      | refine WpL.cons rfl rfl (op_load rfl rfl rfl (hd5 _ _) rfl ⟨(by simp [InL, Acc.name, rowName] <;> omega), ?_⟩))
    refine WpC.cond rfl (fun _ => ?_) (fun _ => ?_)
    · -- Grant
      by_cases hzero : ys.length = 0
      · have hnil : ys = [] := List.length_eq_zero_iff.1 hzero
        subst hnil
        repeat' (first
          | refine WpC.seq ?_
          | refine WpC.region ?_
          | refine WpC.drawn ?_
          | refine WpC.skip ?_
          | refine WpC.block ?_
          | refine WpC.exit ?_
          | refine WpC.ret ?_
          | refine WpO.nil ?_
          | refine WpO.cons rfl rfl (WpX.pure (fun _ => rfl) ⟨nolog, ?_⟩)
          | refine WpO.skip rfl rfl ?_
          | refine WpL.cons rfl rfl (WpX.pure (fun _ => rfl) ⟨nolog, ?_⟩)
          | refine WpL.skip rfl rfl ?_
          | refine seqQ_normal ?_
          | refine seqQ_ret ?_
          | refine seqQ_exit ?_
          | refine blkQ_normal ?_
          | refine blkQ_ret ?_
          | refine blkQ_out rfl ?_
          | refine blkQ_by rfl ?_
          | refine WpO.cons rfl rfl (op_load rfl rfl rfl (hd5 _ _) rfl ⟨(by simp [InL, Acc.name, rowName] <;> omega), ?_⟩)
          | refine WpL.cons rfl rfl (op_load rfl rfl rfl (hd5 _ _) rfl ⟨(by simp [InL, Acc.name, rowName] <;> omega), ?_⟩))
        refine WpO.cons rfl rfl (call_at rfl grant_zero (by simp) hc5 fun v h6 c6 hc6 hfr6 hq => ?_)
        obtain ⟨rfl, rfl, rfl⟩ := hq
        repeat' (first
          | refine WpC.seq ?_
          | refine WpC.region ?_
          | refine WpC.drawn ?_
          | refine WpC.skip ?_
          | refine WpC.block ?_
          | refine WpC.exit ?_
          | refine WpC.ret ?_
          | refine WpO.nil ?_
          | refine WpO.cons rfl rfl (WpX.pure (fun _ => rfl) ⟨nolog, ?_⟩)
          | refine WpO.skip rfl rfl ?_
          | refine WpL.cons rfl rfl (WpX.pure (fun _ => rfl) ⟨nolog, ?_⟩)
          | refine WpL.skip rfl rfl ?_
          | refine seqQ_normal ?_
          | refine seqQ_ret ?_
          | refine seqQ_exit ?_
          | refine blkQ_normal ?_
          | refine blkQ_ret ?_
          | refine blkQ_out rfl ?_
          | refine blkQ_by rfl ?_
          | refine WpO.cons rfl rfl (op_load rfl rfl rfl (hd5 _ _) rfl ⟨(by simp [InL, Acc.name, rowName] <;> omega), ?_⟩)
          | refine WpL.cons rfl rfl (op_load rfl rfl rfl (hd5 _ _) rfl ⟨(by simp [InL, Acc.name, rowName] <;> omega), ?_⟩))
        refine WpO.cons rfl rfl (call_at rfl rgrant_zero (by simp) hc5 fun v h6 c6 hc6 hfr6 hq => ?_)
        obtain ⟨rfl, rfl, rfl⟩ := hq
        repeat' (first
          | refine WpC.seq ?_
          | refine WpC.region ?_
          | refine WpC.drawn ?_
          | refine WpC.skip ?_
          | refine WpC.block ?_
          | refine WpC.exit ?_
          | refine WpC.ret ?_
          | refine WpO.nil ?_
          | refine WpO.cons rfl rfl (WpX.pure (fun _ => rfl) ⟨nolog, ?_⟩)
          | refine WpO.skip rfl rfl ?_
          | refine WpL.cons rfl rfl (WpX.pure (fun _ => rfl) ⟨nolog, ?_⟩)
          | refine WpL.skip rfl rfl ?_
          | refine seqQ_normal ?_
          | refine seqQ_ret ?_
          | refine seqQ_exit ?_
          | refine blkQ_normal ?_
          | refine blkQ_ret ?_
          | refine blkQ_out rfl ?_
          | refine blkQ_by rfl ?_)
        exact ⟨vb, vr, vB, vP, vS, vC, st, set5 rfl rfl rfl rfl rfl, (K5 _ _).more⟩
      obtain ⟨m, rfl, hmc, hgm0⟩ : ∃ m, sa = some (m, 0) ∧ m < c ∧ MapI.get h m = some (.cells false false (ys.map (.int .u8))) := by
        obtain ⟨x, cap, q1, q2⟩ := rowArg_slice hba
        injection q1 with q3
        subst q3
        obtain ⟨s, q4, q5, q6⟩ := q2 (Nat.pos_of_ne_zero hzero)
        exact ⟨s, q4, q5, q6⟩
      have hgm' : ∀ (x : AObj) (y : AObj), MapI.get (MapI.set (MapI.set h' c' x) c' y) m = some (.cells false false (flat byteV ys)) := fun x y => by rw [(K5 x y).old m hmc, flat_byte]; exact hgm0
      have hcy : cut (flat byteV ys) 0 (ys.length * 1) = some (flat byteV ys) := by
        have := cut_all (cs := flat byteV ys)
        rw [flat_length byte_len] at this
        exact this
      have hmP : m ∉ c1 :: (rowName vb ++ rowName vr) := fun hm => by have := K.newp m hm; omega
      have hmQ : m ∉ rn (c1 + 1) vB vP vS vC := fun hm => by have := K.newq m hm; omega
      have hmnames : m ∈ names (bytesOf ds) := names_of (List.mem_map.2 ⟨_, ham, rfl⟩) (by simp [bv, rowName])
      by_cases hroom : st.live ≤ st.most - ys.length
      case neg =>
        repeat' (first
          | refine WpC.seq ?_
          | refine WpC.region ?_
          | refine WpC.drawn ?_
          | refine WpC.skip ?_
          | refine WpC.block ?_
          | refine WpC.exit ?_
          | refine WpC.ret ?_
          | refine WpO.nil ?_
          | refine WpO.cons rfl rfl (WpX.pure (fun _ => rfl) ⟨nolog, ?_⟩)
          | refine WpO.skip rfl rfl ?_
          | refine WpL.cons rfl rfl (WpX.pure (fun _ => rfl) ⟨nolog, ?_⟩)
          | refine WpL.skip rfl rfl ?_
          | refine seqQ_normal ?_
          | refine seqQ_ret ?_
          | refine seqQ_exit ?_
          | refine blkQ_normal ?_
          | refine blkQ_ret ?_
          | refine blkQ_out rfl ?_
          | refine blkQ_by rfl ?_
          | refine WpO.cons rfl rfl (op_load rfl rfl rfl (hd5 _ _) rfl ⟨(by simp [InL, Acc.name, rowName] <;> omega), ?_⟩)
          | refine WpL.cons rfl rfl (op_load rfl rfl rfl (hd5 _ _) rfl ⟨(by simp [InL, Acc.name, rowName] <;> omega), ?_⟩))
        refine WpO.cons rfl rfl (call_at rfl (grant_no (K5 _ _).at_ (by omega) (by omega) hgm (by omega)) (fun n hn => .inr (by simp at hn; rw [hn]; exact K.newp c1 (by simp))) hc5 fun v h6 c6 hc6 hfr6 hq => ?_)
        obtain ⟨rfl, rfl, rfl⟩ := hq
        repeat' (first
          | refine WpC.seq ?_
          | refine WpC.region ?_
          | refine WpC.drawn ?_
          | refine WpC.skip ?_
          | refine WpC.block ?_
          | refine WpC.exit ?_
          | refine WpC.ret ?_
          | refine WpO.nil ?_
          | refine WpO.cons rfl rfl (WpX.pure (fun _ => rfl) ⟨nolog, ?_⟩)
          | refine WpO.skip rfl rfl ?_
          | refine WpL.cons rfl rfl (WpX.pure (fun _ => rfl) ⟨nolog, ?_⟩)
          | refine WpL.skip rfl rfl ?_
          | refine seqQ_normal ?_
          | refine seqQ_ret ?_
          | refine seqQ_exit ?_
          | refine blkQ_normal ?_
          | refine blkQ_ret ?_
          | refine blkQ_out rfl ?_
          | refine blkQ_by rfl ?_
          | refine WpO.cons rfl rfl (op_load rfl rfl rfl (hd5 _ _) rfl ⟨(by simp [InL, Acc.name, rowName] <;> omega), ?_⟩)
          | refine WpL.cons rfl rfl (op_load rfl rfl rfl (hd5 _ _) rfl ⟨(by simp [InL, Acc.name, rowName] <;> omega), ?_⟩))
        refine WpO.cons rfl rfl (call_at rfl (rgrant_no (K5 _ _).ref (by omega) hsz (by omega) (by omega) hgm (by have := hgd.tot; omega)) hQ hc5 fun v h6 c6 hc6 hfr6 hq => ?_)
        obtain ⟨rfl, rfl, rfl⟩ := hq
        repeat' (first
          | refine WpC.seq ?_
          | refine WpC.region ?_
          | refine WpC.drawn ?_
          | refine WpC.skip ?_
          | refine WpC.block ?_
          | refine WpC.exit ?_
          | refine WpC.ret ?_
          | refine WpO.nil ?_
          | refine WpO.cons rfl rfl (WpX.pure (fun _ => rfl) ⟨nolog, ?_⟩)
          | refine WpO.skip rfl rfl ?_
          | refine WpL.cons rfl rfl (WpX.pure (fun _ => rfl) ⟨nolog, ?_⟩)
          | refine WpL.skip rfl rfl ?_
          | refine seqQ_normal ?_
          | refine seqQ_ret ?_
          | refine seqQ_exit ?_
          | refine blkQ_normal ?_
          | refine blkQ_ret ?_
          | refine blkQ_out rfl ?_
          | refine blkQ_by rfl ?_)
        exact ⟨vb, vr, vB, vP, vS, vC, st, set5 rfl rfl rfl rfl rfl, (K5 _ _).more⟩
      repeat' (first
        | refine WpC.seq ?_
        | refine WpC.region ?_
        | refine WpC.drawn ?_
        | refine WpC.skip ?_
        | refine WpC.block ?_
        | refine WpC.exit ?_
        | refine WpC.ret ?_
        | refine WpO.nil ?_
        | refine WpO.cons rfl rfl (WpX.pure (fun _ => rfl) ⟨nolog, ?_⟩)
        | refine WpO.skip rfl rfl ?_
        | refine WpL.cons rfl rfl (WpX.pure (fun _ => rfl) ⟨nolog, ?_⟩)
        | refine WpL.skip rfl rfl ?_
        | refine seqQ_normal ?_
        | refine seqQ_ret ?_
        | refine seqQ_exit ?_
        | refine blkQ_normal ?_
        | refine blkQ_ret ?_
        | refine blkQ_out rfl ?_
        | refine blkQ_by rfl ?_
        | refine WpO.cons rfl rfl (op_load rfl rfl rfl (hd5 _ _) rfl ⟨(by simp [InL, Acc.name, rowName] <;> omega), ?_⟩)
        | refine WpL.cons rfl rfl (op_load rfl rfl rfl (hd5 _ _) rfl ⟨(by simp [InL, Acc.name, rowName] <;> omega), ?_⟩))
      refine WpO.cons rfl rfl (call_at rfl (grant_full (ys := ys) (K5 _ _).at_ hlies hgd.tot hgf (by omega) (by omega) rfl (hgm' _ _) hcy hgm (by omega) hroom (by omega) (by omega) hmP) (fun n hn => by
        rcases List.mem_cons.1 hn with rfl | hn
        · exact .inl (by simp [hmnames])
        · exact hP n hn) hc5 fun v h6 c6 hc6 hfr6 hq => ?_)
      obtain ⟨hx6, j, vb6, vr6, rows6, rfl, r6, hnm6, hj6, hbef6, hrows6⟩ := hq
      have ref6 := ((K5 _ _).ref).keep hc6 fun n hn hm => hfr6 n hn fun hx => by
        rcases List.mem_cons.1 hx with rfl | hx
        · exact hmQ hm
        · exact K.refc n hm hx
      have hd6 := (hfr6 c' (Nat.lt_succ_self _) (fun hm => by
        rcases List.mem_cons.1 hm with e | hm
        · omega
        · have := hPlt c' hm; omega)).trans (hd5 _ _)
      have hgm6 := hx6.trans (hgm' _ _)
      repeat' (first
        | refine WpC.seq ?_
        | refine WpC.region ?_
        | refine WpC.drawn ?_
        | refine WpC.skip ?_
        | refine WpC.block ?_
        | refine WpC.exit ?_
        | refine WpC.ret ?_
        | refine WpO.nil ?_
        | refine WpO.cons rfl rfl (WpX.pure (fun _ => rfl) ⟨nolog, ?_⟩)
        | refine WpO.skip rfl rfl ?_
        | refine WpL.cons rfl rfl (WpX.pure (fun _ => rfl) ⟨nolog, ?_⟩)
        | refine WpL.skip rfl rfl ?_
        | refine seqQ_normal ?_
        | refine seqQ_ret ?_
        | refine seqQ_exit ?_
        | refine blkQ_normal ?_
        | refine blkQ_ret ?_
        | refine blkQ_out rfl ?_
        | refine blkQ_by rfl ?_
        | refine WpO.cons rfl rfl (op_load rfl rfl rfl hd6 rfl ⟨(by simp [InL, Acc.name, rowName] <;> omega), ?_⟩)
        | refine WpL.cons rfl rfl (op_load rfl rfl rfl hd6 rfl ⟨(by simp [InL, Acc.name, rowName] <;> omega), ?_⟩))
      refine WpO.cons rfl rfl (call_at rfl (rgrant_full (ys := ys) ref6 hlies hsz hgf (by omega) (by omega) rfl hgm6 hcy hgm (by have := hgd.tot; omega) (by omega) (by omega) hmQ) (fun n hn => by
        rcases List.mem_cons.1 hn with rfl | hn
        · exact .inl (by simp [hmnames])
        · exact hQ n hn) (by omega) fun v h7 c7 hc7 hfr7 hq => ?_)
      obtain ⟨hx7, j', vB7, vP7, vS7, vC7, rows7, rfl, r7, hnm7, hj7, hbef7, hrows7⟩ := hq
      have hsame : j' = j ∧ rows7 = rows6 := by
        have hr := room_rows st ys.length
        have hnn := (room_good hgd ys.length).lies.nn
        exact same_row hnn (by omega) (by omega) hbef6 hbef7 (by rw [hr]; exact hrows6) (by rw [hr]; exact hrows7)
      obtain ⟨rfl, rfl⟩ := hsame
      obtain ⟨G1, G2, G3, G4⟩ := granted (n := ys.length) (ys := ys) K (Nat.pos_of_ne_zero hzero) rfl hroom hbr hrows6
      have hnotP : ∀ n ∈ c1 :: (rowName vb6 ++ rowName vr6), n < c6 := r6.names
      have hP6 : ∀ n ∈ c1 :: (rowName vb6 ++ rowName vr6), n ∈ c1 :: (rowName vb ++ rowName vr) ∨ c' + 1 ≤ n := fun n hn => by
        rcases List.mem_cons.1 hn with rfl | hn
        · exact .inl (by simp)
        · rcases hnm6 n hn with h | h
          · exact .inl (List.mem_cons_of_mem _ h)
          · exact .inr h
      have hdisQ : ∀ n ∈ c1 :: (rowName vb6 ++ rowName vr6), n ∉ rn (c1 + 1) vB vP vS vC := fun n hn hm => by
        rcases hP6 n hn with h | h
        · exact K.dis n h hm
        · have := hQlt n hm; omega
      have hR7 : ∀ n ∈ rn (c1 + 1) vB7 vP7 vS7 vC7, n ∈ rn (c1 + 1) vB vP vS vC ∨ c6 ≤ n := hnm7
      have hpk : ∀ n, n < c6 → n ∈ c1 :: (rowName vb6 ++ rowName vr6) → MapI.get h7 n = MapI.get h6 n := fun n hn hm => hfr7 n hn fun hx => by
        rcases List.mem_cons.1 hx with rfl | hx
        · rcases hP6 n hm with h | h
          · exact hmP h
          · omega
        · exact hdisQ n hm hx
      repeat' (first
        | refine WpC.seq ?_
        | refine WpC.region ?_
        | refine WpC.drawn ?_
        | refine WpC.skip ?_
        | refine WpC.block ?_
        | refine WpC.exit ?_
        | refine WpC.ret ?_
        | refine WpO.nil ?_
        | refine WpO.cons rfl rfl (WpX.pure (fun _ => rfl) ⟨nolog, ?_⟩)
        | refine WpO.skip rfl rfl ?_
        | refine WpL.cons rfl rfl (WpX.pure (fun _ => rfl) ⟨nolog, ?_⟩)
        | refine WpL.skip rfl rfl ?_
        | refine seqQ_normal ?_
        | refine seqQ_ret ?_
        | refine seqQ_exit ?_
        | refine blkQ_normal ?_
        | refine blkQ_ret ?_
        | refine blkQ_out rfl ?_
        | refine blkQ_by rfl ?_)
      simp only [beq_self_eq_true]
      repeat' (first
        | refine WpC.seq ?_
        | refine WpC.region ?_
        | refine WpC.drawn ?_
        | refine WpC.skip ?_
        | refine WpC.block ?_
        | refine WpC.exit ?_
        | refine WpC.ret ?_
        | refine WpO.nil ?_
        | refine WpO.cons rfl rfl (WpX.pure (fun _ => rfl) ⟨nolog, ?_⟩)
        | refine WpO.skip rfl rfl ?_
        | refine WpL.cons rfl rfl (WpX.pure (fun _ => rfl) ⟨nolog, ?_⟩)
        | refine WpL.skip rfl rfl ?_
        | refine seqQ_normal ?_
        | refine seqQ_ret ?_
        | refine seqQ_exit ?_
        | refine blkQ_normal ?_
        | refine blkQ_ret ?_
        | refine blkQ_out rfl ?_
        | refine blkQ_by rfl ?_)
      refine ⟨vb6, vr6, vB7, vP7, vS7, vC7, ⟨(room st ys.length).bs ++ ys, st.most, rows7, st.live + ys.length⟩, set5 rfl rfl rfl rfl rfl, ⟨?_, r7, G1, G2, G3, G4, fun n hn hm => ?_, fun n hn => ?_, fun n hn => ?_, by omega, fun n hn => ?_⟩⟩
      · exact ⟨by rw [hpk c1 r6.lp (by simp)]; exact r6.obj, r6.bytes.keep hc7 fun n hn hm => hpk n hn (by simp [hm]), r6.rows.keep hc7 fun n hn hm => hpk n hn (by simp [hm]), Nat.lt_of_lt_of_le r6.lp hc7, r6.nb, r6.nr, r6.br⟩
      · rcases hR7 n hm with h | h
        · exact hdisQ n hn h
        · have := hnotP n hn; omega
      · rcases hP6 n hn with h | h
        · exact K.newp n h
        · omega
      · rcases hR7 n hn with h | h
        · exact K.newq n h
        · omega
      · have a1 : MapI.get h7 n = MapI.get h6 n := by
          by_cases e : n = m
          · subst e; exact hx7
          · exact hfr7 n (by omega) fun hx => by
              rcases List.mem_cons.1 hx with h | h
              · exact e h
              · have := K.newq n h; omega
        obtain ⟨x, y, a2⟩ : ∃ x y, MapI.get h6 n = MapI.get (MapI.set (MapI.set h' c' x) c' y) n := by
          by_cases e : n = m
          · subst e; exact ⟨_, _, hx6⟩
          · exact ⟨_, _, hfr6 n (by omega) fun hx => by
              rcases List.mem_cons.1 hx with h | h
              · exact e h
              · have := K.newp n h; omega⟩
        rw [a1, a2]
        exact (K5 _ _).old n hn
    repeat' (first
      | refine WpC.seq ?_
      | refine WpC.region ?_
      | refine WpC.drawn ?_
      | refine WpC.skip ?_
      | refine WpC.block ?_
      | refine WpC.exit ?_
      | refine WpC.ret ?_
      | refine WpO.nil ?_
      | refine WpO.cons rfl rfl (WpX.pure (fun _ => rfl) ⟨nolog, ?_⟩)
      | refine WpO.skip rfl rfl ?_
      | refine WpL.cons rfl rfl (WpX.pure (fun _ => rfl) ⟨nolog, ?_⟩)
      | refine WpL.skip rfl rfl ?_
      | refine seqQ_normal ?_
      | refine seqQ_ret ?_
      | refine seqQ_exit ?_
      | refine blkQ_normal ?_
      | refine blkQ_ret ?_
      | refine blkQ_out rfl ?_
      | refine blkQ_by rfl ?_
      | refine WpO.cons rfl rfl (op_load rfl rfl rfl (hd5 _ _) rfl ⟨(by simp [InL, Acc.name, rowName] <;> omega), ?_⟩)
      | refine WpL.cons rfl rfl (op_load rfl rfl rfl (hd5 _ _) rfl ⟨(by simp [InL, Acc.name, rowName] <;> omega), ?_⟩))
    refine WpC.cond rfl (fun _ => ?_) (fun _ => ?_)
    · -- Look
      by_cases hh : ∃ (j : Nat) (x : R3), hd = j + 1 ∧ st.rows[j]? = some x ∧ x.2.2 > 0
      case neg =>
        have hno : ∀ (j : Nat) (x : R3), hd = j + 1 → st.rows[j]? = some x → ¬ x.2.2 > 0 := fun j x h1 h2 h3 => hh ⟨j, x, h1, h2, h3⟩
        have hno0 : ∀ (j : Nat) (x : R3), hd = j + 1 → st.rows[j]? = some x → x.2.2 = 0 := fun j x h1 h2 => by
          have := hno j x h1 h2
          have := hlies.nn j x h2
          omega
        repeat' (first
          | refine WpC.seq ?_
          | refine WpC.region ?_
          | refine WpC.drawn ?_
          | refine WpC.skip ?_
          | refine WpC.block ?_
          | refine WpC.exit ?_
          | refine WpC.ret ?_
          | refine WpO.nil ?_
          | refine WpO.cons rfl rfl (WpX.pure (fun _ => rfl) ⟨nolog, ?_⟩)
          | refine WpO.skip rfl rfl ?_
          | refine WpL.cons rfl rfl (WpX.pure (fun _ => rfl) ⟨nolog, ?_⟩)
          | refine WpL.skip rfl rfl ?_
          | refine seqQ_normal ?_
          | refine seqQ_ret ?_
          | refine seqQ_exit ?_
          | refine blkQ_normal ?_
          | refine blkQ_ret ?_
          | refine blkQ_out rfl ?_
          | refine blkQ_by rfl ?_
          | refine WpO.cons rfl rfl (op_load rfl rfl rfl (hd5 _ _) rfl ⟨(by simp [InL, Acc.name, rowName] <;> omega), ?_⟩)
          | refine WpL.cons rfl rfl (op_load rfl rfl rfl (hd5 _ _) rfl ⟨(by simp [InL, Acc.name, rowName] <;> omega), ?_⟩))
        refine WpO.cons rfl rfl (call_at rfl (look_no (K5 _ _).at_ (by omega) hno0) hPr hc5 fun v h6 c6 hc6 hfr6 hq => ?_)
        obtain ⟨rfl, rfl, rfl⟩ := hq
        repeat' (first
          | refine WpC.seq ?_
          | refine WpC.region ?_
          | refine WpC.drawn ?_
          | refine WpC.skip ?_
          | refine WpC.block ?_
          | refine WpC.exit ?_
          | refine WpC.ret ?_
          | refine WpO.nil ?_
          | refine WpO.cons rfl rfl (WpX.pure (fun _ => rfl) ⟨nolog, ?_⟩)
          | refine WpO.skip rfl rfl ?_
          | refine WpL.cons rfl rfl (WpX.pure (fun _ => rfl) ⟨nolog, ?_⟩)
          | refine WpL.skip rfl rfl ?_
          | refine seqQ_normal ?_
          | refine seqQ_ret ?_
          | refine seqQ_exit ?_
          | refine blkQ_normal ?_
          | refine blkQ_ret ?_
          | refine blkQ_out rfl ?_
          | refine blkQ_by rfl ?_
          | refine WpO.cons rfl rfl (op_load rfl rfl rfl (hd5 _ _) rfl ⟨(by simp [InL, Acc.name, rowName] <;> omega), ?_⟩)
          | refine WpL.cons rfl rfl (op_load rfl rfl rfl (hd5 _ _) rfl ⟨(by simp [InL, Acc.name, rowName] <;> omega), ?_⟩))
        refine WpO.cons rfl rfl (call_at rfl (rlook_no (K5 _ _).ref (by omega) hno) hQ hc5 fun v h6 c6 hc6 hfr6 hq => ?_)
        obtain ⟨rfl, rfl, rfl⟩ := hq
        repeat' (first
          | refine WpC.seq ?_
          | refine WpC.region ?_
          | refine WpC.drawn ?_
          | refine WpC.skip ?_
          | refine WpC.block ?_
          | refine WpC.exit ?_
          | refine WpC.ret ?_
          | refine WpO.nil ?_
          | refine WpO.cons rfl rfl (WpX.pure (fun _ => rfl) ⟨nolog, ?_⟩)
          | refine WpO.skip rfl rfl ?_
          | refine WpL.cons rfl rfl (WpX.pure (fun _ => rfl) ⟨nolog, ?_⟩)
          | refine WpL.skip rfl rfl ?_
          | refine seqQ_normal ?_
          | refine seqQ_ret ?_
          | refine seqQ_exit ?_
          | refine blkQ_normal ?_
          | refine blkQ_ret ?_
          | refine blkQ_out rfl ?_
          | refine blkQ_by rfl ?_)
        refine WpO.cons rfl rfl (call_at rfl (same_ok (xs := []) (.inl ⟨_, _, rfl, rfl⟩) (.inl ⟨_, _, rfl, rfl⟩) (fun z hz => by cases hz)) (fun n hn => by simp [rowName] at hn) hc5 fun v h6 c6 hc6 hfr6 hq => ?_)
        obtain ⟨rfl, rfl, rfl⟩ := hq
        repeat' (first
          | refine WpC.seq ?_
          | refine WpC.region ?_
          | refine WpC.drawn ?_
          | refine WpC.skip ?_
          | refine WpC.block ?_
          | refine WpC.exit ?_
          | refine WpC.ret ?_
          | refine WpO.nil ?_
          | refine WpO.cons rfl rfl (WpX.pure (fun _ => rfl) ⟨nolog, ?_⟩)
          | refine WpO.skip rfl rfl ?_
          | refine WpL.cons rfl rfl (WpX.pure (fun _ => rfl) ⟨nolog, ?_⟩)
          | refine WpL.skip rfl rfl ?_
          | refine seqQ_normal ?_
          | refine seqQ_ret ?_
          | refine seqQ_exit ?_
          | refine blkQ_normal ?_
          | refine blkQ_ret ?_
          | refine blkQ_out rfl ?_
          | refine blkQ_by rfl ?_)
        exact ⟨vb, vr, vB, vP, vS, vC, st, set5 rfl rfl rfl rfl rfl, (K5 _ _).more⟩
      obtain ⟨j, ⟨a, ln, cnt⟩, rfl, hx, hx0⟩ := hh
      have hin := hlies.in_ j _ hx hx0
      simp only at hin hx0
      repeat' (first
        | refine WpC.seq ?_
        | refine WpC.region ?_
        | refine WpC.drawn ?_
        | refine WpC.skip ?_
        | refine WpC.block ?_
        | refine WpC.exit ?_
        | refine WpC.ret ?_
        | refine WpO.nil ?_
        | refine WpO.cons rfl rfl (WpX.pure (fun _ => rfl) ⟨nolog, ?_⟩)
        | refine WpO.skip rfl rfl ?_
        | refine WpL.cons rfl rfl (WpX.pure (fun _ => rfl) ⟨nolog, ?_⟩)
        | refine WpL.skip rfl rfl ?_
        | refine seqQ_normal ?_
        | refine seqQ_ret ?_
        | refine seqQ_exit ?_
        | refine blkQ_normal ?_
        | refine blkQ_ret ?_
        | refine blkQ_out rfl ?_
        | refine blkQ_by rfl ?_
        | refine WpO.cons rfl rfl (op_load rfl rfl rfl (hd5 _ _) rfl ⟨(by simp [InL, Acc.name, rowName] <;> omega), ?_⟩)
        | refine WpL.cons rfl rfl (op_load rfl rfl rfl (hd5 _ _) rfl ⟨(by simp [InL, Acc.name, rowName] <;> omega), ?_⟩))
      refine WpO.cons rfl rfl (call_at rfl (look_ok (K5 _ _).at_ (by omega) hx (by omega) hin.1 (by omega) hin.2.2 (by omega) (by omega) ⟨o3.1, o3.2, o4.1, o4.2⟩) hP hc5 fun v h6 c6 hc6 hfr6 hq => ?_)
      rcases hq with ⟨hyes, v1, rfl, hb1, hn1, ho1⟩ | ⟨hnot, rfl, rfl, rfl⟩
      · have K6 := (K5 _ _).keep hc6 ho1
        have hd6 := (ho1 c' (Nat.lt_succ_self _)).trans (hd5 _ _)
        repeat' (first
          | refine WpC.seq ?_
          | refine WpC.region ?_
          | refine WpC.drawn ?_
          | refine WpC.skip ?_
          | refine WpC.block ?_
          | refine WpC.exit ?_
          | refine WpC.ret ?_
          | refine WpO.nil ?_
          | refine WpO.cons rfl rfl (WpX.pure (fun _ => rfl) ⟨nolog, ?_⟩)
          | refine WpO.skip rfl rfl ?_
          | refine WpL.cons rfl rfl (WpX.pure (fun _ => rfl) ⟨nolog, ?_⟩)
          | refine WpL.skip rfl rfl ?_
          | refine seqQ_normal ?_
          | refine seqQ_ret ?_
          | refine seqQ_exit ?_
          | refine blkQ_normal ?_
          | refine blkQ_ret ?_
          | refine blkQ_out rfl ?_
          | refine blkQ_by rfl ?_
          | refine WpO.cons rfl rfl (op_load rfl rfl rfl hd6 rfl ⟨(by simp [InL, Acc.name, rowName] <;> omega), ?_⟩)
          | refine WpL.cons rfl rfl (op_load rfl rfl rfl hd6 rfl ⟨(by simp [InL, Acc.name, rowName] <;> omega), ?_⟩))
        refine WpO.cons rfl rfl (call_at rfl (rlook_ok K6.ref (by omega) hx hx0 hin.1 (by omega) hin.2.2 (by omega) (by omega) ⟨o3.1, o3.2, o4.1, o4.2⟩) hQ (by omega) fun v h7 c7 hc7 hfr7 hq => ?_)
        rcases hq with ⟨_, v2, rfl, hb2, hn2, ho2⟩ | ⟨hnot, _⟩
        case inr => exact absurd hyes hnot
        have K7 := K6.keep hc7 ho2
        have hb1' := hb1.keep (h' := h7) fun n hn => ho2 n (hn1 n hn).2
        repeat' (first
          | refine WpC.seq ?_
          | refine WpC.region ?_
          | refine WpC.drawn ?_
          | refine WpC.skip ?_
          | refine WpC.block ?_
          | refine WpC.exit ?_
          | refine WpC.ret ?_
          | refine WpO.nil ?_
          | refine WpO.cons rfl rfl (WpX.pure (fun _ => rfl) ⟨nolog, ?_⟩)
          | refine WpO.skip rfl rfl ?_
          | refine WpL.cons rfl rfl (WpX.pure (fun _ => rfl) ⟨nolog, ?_⟩)
          | refine WpL.skip rfl rfl ?_
          | refine seqQ_normal ?_
          | refine seqQ_ret ?_
          | refine seqQ_exit ?_
          | refine blkQ_normal ?_
          | refine blkQ_ret ?_
          | refine blkQ_out rfl ?_
          | refine blkQ_by rfl ?_)
        refine WpO.cons rfl rfl (call_at rfl (same_ok hb1' hb2 (fun z hz => K.byt z (List.mem_of_mem_drop (List.mem_of_mem_take hz)))) (fun n hn => .inr (by
          rcases List.mem_append.1 hn with h | h
          · have := (hn1 n h).1; omega
          · have := (hn2 n h).1; omega)) (by omega) fun v h8 c8 hc8 hfr8 hq => ?_)
        obtain ⟨rfl, rfl, rfl⟩ := hq
        repeat' (first
          | refine WpC.seq ?_
          | refine WpC.region ?_
          | refine WpC.drawn ?_
          | refine WpC.skip ?_
          | refine WpC.block ?_
          | refine WpC.exit ?_
          | refine WpC.ret ?_
          | refine WpO.nil ?_
          | refine WpO.cons rfl rfl (WpX.pure (fun _ => rfl) ⟨nolog, ?_⟩)
          | refine WpO.skip rfl rfl ?_
          | refine WpL.cons rfl rfl (WpX.pure (fun _ => rfl) ⟨nolog, ?_⟩)
          | refine WpL.skip rfl rfl ?_
          | refine seqQ_normal ?_
          | refine seqQ_ret ?_
          | refine seqQ_exit ?_
          | refine blkQ_normal ?_
          | refine blkQ_ret ?_
          | refine blkQ_out rfl ?_
          | refine blkQ_by rfl ?_)
        exact ⟨vb, vr, vB, vP, vS, vC, st, set5 rfl rfl rfl rfl rfl, K7.more⟩
      ·
        repeat' (first
          | refine WpC.seq ?_
          | refine WpC.region ?_
          | refine WpC.drawn ?_
          | refine WpC.skip ?_
          | refine WpC.block ?_
          | refine WpC.exit ?_
          | refine WpC.ret ?_
          | refine WpO.nil ?_
          | refine WpO.cons rfl rfl (WpX.pure (fun _ => rfl) ⟨nolog, ?_⟩)
          | refine WpO.skip rfl rfl ?_
          | refine WpL.cons rfl rfl (WpX.pure (fun _ => rfl) ⟨nolog, ?_⟩)
          | refine WpL.skip rfl rfl ?_
          | refine seqQ_normal ?_
          | refine seqQ_ret ?_
          | refine seqQ_exit ?_
          | refine blkQ_normal ?_
          | refine blkQ_ret ?_
          | refine blkQ_out rfl ?_
          | refine blkQ_by rfl ?_
          | refine WpO.cons rfl rfl (op_load rfl rfl rfl (hd5 _ _) rfl ⟨(by simp [InL, Acc.name, rowName] <;> omega), ?_⟩)
          | refine WpL.cons rfl rfl (op_load rfl rfl rfl (hd5 _ _) rfl ⟨(by simp [InL, Acc.name, rowName] <;> omega), ?_⟩))
        refine WpO.cons rfl rfl (call_at rfl (rlook_ok (K5 _ _).ref (by omega) hx hx0 hin.1 (by omega) hin.2.2 (by omega) (by omega) ⟨o3.1, o3.2, o4.1, o4.2⟩) hQ hc5 fun v h7 c7 hc7 hfr7 hq => ?_)
        rcases hq with ⟨hyes, _⟩ | ⟨_, rfl, rfl, rfl⟩
        case inl => exact absurd hyes hnot
        repeat' (first
          | refine WpC.seq ?_
          | refine WpC.region ?_
          | refine WpC.drawn ?_
          | refine WpC.skip ?_
          | refine WpC.block ?_
          | refine WpC.exit ?_
          | refine WpC.ret ?_
          | refine WpO.nil ?_
          | refine WpO.cons rfl rfl (WpX.pure (fun _ => rfl) ⟨nolog, ?_⟩)
          | refine WpO.skip rfl rfl ?_
          | refine WpL.cons rfl rfl (WpX.pure (fun _ => rfl) ⟨nolog, ?_⟩)
          | refine WpL.skip rfl rfl ?_
          | refine seqQ_normal ?_
          | refine seqQ_ret ?_
          | refine seqQ_exit ?_
          | refine blkQ_normal ?_
          | refine blkQ_ret ?_
          | refine blkQ_out rfl ?_
          | refine blkQ_by rfl ?_)
        refine WpO.cons rfl rfl (call_at rfl (same_ok (xs := []) (.inl ⟨_, _, rfl, rfl⟩) (.inl ⟨_, _, rfl, rfl⟩) (fun z hz => by cases hz)) (fun n hn => by simp [rowName] at hn) hc5 fun v h6 c6 hc6 hfr6 hq => ?_)
        obtain ⟨rfl, rfl, rfl⟩ := hq
        repeat' (first
          | refine WpC.seq ?_
          | refine WpC.region ?_
          | refine WpC.drawn ?_
          | refine WpC.skip ?_
          | refine WpC.block ?_
          | refine WpC.exit ?_
          | refine WpC.ret ?_
          | refine WpO.nil ?_
          | refine WpO.cons rfl rfl (WpX.pure (fun _ => rfl) ⟨nolog, ?_⟩)
          | refine WpO.skip rfl rfl ?_
          | refine WpL.cons rfl rfl (WpX.pure (fun _ => rfl) ⟨nolog, ?_⟩)
          | refine WpL.skip rfl rfl ?_
          | refine seqQ_normal ?_
          | refine seqQ_ret ?_
          | refine seqQ_exit ?_
          | refine blkQ_normal ?_
          | refine blkQ_ret ?_
          | refine blkQ_out rfl ?_
          | refine blkQ_by rfl ?_)
        exact ⟨vb, vr, vB, vP, vS, vC, st, set5 rfl rfl rfl rfl rfl, (K5 _ _).more⟩
    repeat' (first
      | refine WpC.seq ?_
      | refine WpC.region ?_
      | refine WpC.drawn ?_
      | refine WpC.skip ?_
      | refine WpC.block ?_
      | refine WpC.exit ?_
      | refine WpC.ret ?_
      | refine WpO.nil ?_
      | refine WpO.cons rfl rfl (WpX.pure (fun _ => rfl) ⟨nolog, ?_⟩)
      | refine WpO.skip rfl rfl ?_
      | refine WpL.cons rfl rfl (WpX.pure (fun _ => rfl) ⟨nolog, ?_⟩)
      | refine WpL.skip rfl rfl ?_
      | refine seqQ_normal ?_
      | refine seqQ_ret ?_
      | refine seqQ_exit ?_
      | refine blkQ_normal ?_
      | refine blkQ_ret ?_
      | refine blkQ_out rfl ?_
      | refine blkQ_by rfl ?_
      | refine WpO.cons rfl rfl (op_load rfl rfl rfl (hd5 _ _) rfl ⟨(by simp [InL, Acc.name, rowName] <;> omega), ?_⟩)
      | refine WpL.cons rfl rfl (op_load rfl rfl rfl (hd5 _ _) rfl ⟨(by simp [InL, Acc.name, rowName] <;> omega), ?_⟩))
    refine WpC.cond rfl (fun _ => ?_) (fun _ => ?_)
    · -- Hold
      repeat' (first
        | refine WpC.seq ?_
        | refine WpC.region ?_
        | refine WpC.drawn ?_
        | refine WpC.skip ?_
        | refine WpC.block ?_
        | refine WpC.exit ?_
        | refine WpC.ret ?_
        | refine WpO.nil ?_
        | refine WpO.cons rfl rfl (WpX.pure (fun _ => rfl) ⟨nolog, ?_⟩)
        | refine WpO.skip rfl rfl ?_
        | refine WpL.cons rfl rfl (WpX.pure (fun _ => rfl) ⟨nolog, ?_⟩)
        | refine WpL.skip rfl rfl ?_
        | refine seqQ_normal ?_
        | refine seqQ_ret ?_
        | refine seqQ_exit ?_
        | refine blkQ_normal ?_
        | refine blkQ_ret ?_
        | refine blkQ_out rfl ?_
        | refine blkQ_by rfl ?_
        | refine WpO.cons rfl rfl (op_load rfl rfl rfl (hd5 _ _) rfl ⟨(by simp [InL, Acc.name, rowName] <;> omega), ?_⟩)
        | refine WpL.cons rfl rfl (op_load rfl rfl rfl (hd5 _ _) rfl ⟨(by simp [InL, Acc.name, rowName] <;> omega), ?_⟩))
      refine WpL.cons rfl rfl (call_atL rfl (hold_ok (K5 _ _).at_ (by omega)) hPr hc5 fun v h6 c6 al6 hal6 hc6 hfr6 hq => ?_)
      obtain ⟨rfl, hq⟩ := hq
      have f6 : ∀ x ∈ al6, x.name ≠ c' := fun x hx e => by
        rcases hal6 x hx with h | h
        · have := hPlt _ (hsP _ h); omega
        · omega
      have f6' : ∀ x ∈ al6, c' ≠ x.name := fun x hx e => f6 x hx e.symm
      have ref6 := ((K5 _ _).ref).keep hc6 fun n hn hm => hfr6 n hn fun hx => K.refc n hm (hsP n hx)
      have hd6 := (hfr6 c' (Nat.lt_succ_self _) (fun hm => by have := hPlt c' (hsP c' hm); omega)).trans (hd5 _ _)
      repeat' (first
        | refine WpC.seq ?_
        | refine WpC.region ?_
        | refine WpC.drawn ?_
        | refine WpC.skip ?_
        | refine WpC.block ?_
        | refine WpC.exit ?_
        | refine WpC.ret ?_
        | refine WpO.nil ?_
        | refine WpO.cons rfl rfl (WpX.pure (fun _ => rfl) ⟨nolog, ?_⟩)
        | refine WpO.skip rfl rfl ?_
        | refine WpL.cons rfl rfl (WpX.pure (fun _ => rfl) ⟨nolog, ?_⟩)
        | refine WpL.skip rfl rfl ?_
        | refine seqQ_normal ?_
        | refine seqQ_ret ?_
        | refine seqQ_exit ?_
        | refine blkQ_normal ?_
        | refine blkQ_ret ?_
        | refine blkQ_out rfl ?_
        | refine blkQ_by rfl ?_
        | refine WpO.cons rfl rfl (op_load rfl rfl rfl hd6 rfl ⟨(by simp [InL, Acc.name, rowName] <;> omega), ?_⟩)
        | refine WpL.cons rfl rfl (op_load rfl rfl rfl hd6 rfl ⟨(by simp [InL, Acc.name, rowName] <;> omega), ?_⟩))
      refine WpL.cons rfl rfl (call_atL rfl (rhold_ok ref6 (by omega)) hQ hc5 fun v7 h7 c7 al7 hal7 hc7 hfr7 hq7 => ?_)
      obtain ⟨rfl, hq7⟩ := hq7
      have hpk : ∀ n, n < c' + 1 → n ∈ c1 :: (rowName vb ++ rowName vr) → MapI.get h7 n = MapI.get h6 n := fun n hn hm => hfr7 n hn fun hx => K.dis n hm hx
      have hold7 : ∀ n, n < c → MapI.get h7 n = MapI.get h n := fun n hn => by
        rw [hfr7 n (by omega) (fun hx => by have := K.newq n hx; omega), hfr6 n (by omega) (fun hx => by have := K.newp n (hsP n hx); omega)]
        exact (K5 _ _).old n hn
      rcases hq with ⟨j, x, rfl, hx, hx0, rfl, r6⟩ | ⟨hno, rfl, rfl⟩
      · rcases hq7 with ⟨j', x', he, hx', hx0', rfl, r7⟩ | ⟨hno', _⟩
        case inr =>
          have := hno' j x rfl hx
          have := hlies.nn j x hx
          omega
        have : j' = j := by omega
        subst this
        rw [hx] at hx'; cases hx'
        have hcn := K.cnt j' x hx
        have hw : IntKind.i64.wrap (x.2.2 + 1) = x.2.2 + 1 := Go.IntWalk.i64_in _ (by omega)
        rw [hw] at r6 r7
        repeat' (first
          | refine WpC.seq ?_
          | refine WpC.region ?_
          | refine WpC.drawn ?_
          | refine WpC.skip ?_
          | refine WpC.block ?_
          | refine WpC.exit ?_
          | refine WpC.ret ?_
          | refine WpO.nil ?_
          | refine WpO.cons rfl rfl (WpX.pure (fun _ => rfl) ⟨nolog, ?_⟩)
          | refine WpO.skip rfl rfl ?_
          | refine WpL.cons rfl rfl (WpX.pure (fun _ => rfl) ⟨nolog, ?_⟩)
          | refine WpL.skip rfl rfl ?_
          | refine seqQ_normal ?_
          | refine seqQ_ret ?_
          | refine seqQ_exit ?_
          | refine blkQ_normal ?_
          | refine blkQ_ret ?_
          | refine blkQ_out rfl ?_
          | refine blkQ_by rfl ?_)
        refine WpL.nil (logsOk_of (cs := [0, 0, 2, 7, 0, 0, 32, 127, 255, 511]) (by decide +kernel) ?_) ?_
        · simp +contextual [allP, apP, Dis, acc_rd, acc_wr, accw_rd, accw_wr, Nat.testBit, f6, f6']
        repeat' (first
          | refine WpC.seq ?_
          | refine WpC.region ?_
          | refine WpC.drawn ?_
          | refine WpC.skip ?_
          | refine WpC.block ?_
          | refine WpC.exit ?_
          | refine WpC.ret ?_
          | refine WpO.nil ?_
          | refine WpO.cons rfl rfl (WpX.pure (fun _ => rfl) ⟨nolog, ?_⟩)
          | refine WpO.skip rfl rfl ?_
          | refine WpL.cons rfl rfl (WpX.pure (fun _ => rfl) ⟨nolog, ?_⟩)
          | refine WpL.skip rfl rfl ?_
          | refine seqQ_normal ?_
          | refine seqQ_ret ?_
          | refine seqQ_exit ?_
          | refine blkQ_normal ?_
          | refine blkQ_ret ?_
          | refine blkQ_out rfl ?_
          | refine blkQ_by rfl ?_)
        refine ⟨vb, vr, vB, vP, vS, vC, _, set5 rfl rfl rfl rfl rfl, ⟨?_, r7, good_cnt (a := x.1) (n := x.2.1) (cnt := x.2.2) hgd hx hx0' (by omega), by simp only [List.length_set]; omega, fun m y hy => ?_, K.byt, K.dis, K.newp, K.newq, by omega, hold7⟩⟩
        · exact ⟨by rw [hpk c1 r6.lp (by simp)]; exact r6.obj, r6.bytes.keep (Nat.le_refl _) fun n hn hm => hpk n hn (by simp [hm]), r6.rows.keep (Nat.le_refl _) fun n hn hm => hpk n hn (by simp [hm]), r6.lp, r6.nb, r6.nr, r6.br⟩
        · have := cnt_set (st := st) (b := (i : Int) + 1) K.cnt (y := (x.1, x.2.1, x.2.2 + 1)) (by simp only; omega) m y hy
          omega
      · rcases hq7 with ⟨j', x', he, hx', hx0', _⟩ | ⟨_, rfl, rfl⟩
        case inl =>
          have := hno j' x' he hx'
          omega
        repeat' (first
          | refine WpC.seq ?_
          | refine WpC.region ?_
          | refine WpC.drawn ?_
          | refine WpC.skip ?_
          | refine WpC.block ?_
          | refine WpC.exit ?_
          | refine WpC.ret ?_
          | refine WpO.nil ?_
          | refine WpO.cons rfl rfl (WpX.pure (fun _ => rfl) ⟨nolog, ?_⟩)
          | refine WpO.skip rfl rfl ?_
          | refine WpL.cons rfl rfl (WpX.pure (fun _ => rfl) ⟨nolog, ?_⟩)
          | refine WpL.skip rfl rfl ?_
          | refine seqQ_normal ?_
          | refine seqQ_ret ?_
          | refine seqQ_exit ?_
          | refine blkQ_normal ?_
          | refine blkQ_ret ?_
          | refine blkQ_out rfl ?_
          | refine blkQ_by rfl ?_)
        refine WpL.nil (logsOk_of (cs := [0, 0, 2, 7, 0, 0, 32, 127, 255, 511]) (by decide +kernel) ?_) ?_
        · simp +contextual [allP, apP, Dis, acc_rd, acc_wr, accw_rd, accw_wr, Nat.testBit, f6, f6']
        repeat' (first
          | refine WpC.seq ?_
          | refine WpC.region ?_
          | refine WpC.drawn ?_
          | refine WpC.skip ?_
          | refine WpC.block ?_
          | refine WpC.exit ?_
          | refine WpC.ret ?_
          | refine WpO.nil ?_
          | refine WpO.cons rfl rfl (WpX.pure (fun _ => rfl) ⟨nolog, ?_⟩)
          | refine WpO.skip rfl rfl ?_
          | refine WpL.cons rfl rfl (WpX.pure (fun _ => rfl) ⟨nolog, ?_⟩)
          | refine WpL.skip rfl rfl ?_
          | refine seqQ_normal ?_
          | refine seqQ_ret ?_
          | refine seqQ_exit ?_
          | refine blkQ_normal ?_
          | refine blkQ_ret ?_
          | refine blkQ_out rfl ?_
          | refine blkQ_by rfl ?_)
        exact ⟨vb, vr, vB, vP, vS, vC, st, set5 rfl rfl rfl rfl rfl, (K5 _ _).more⟩
    repeat' (first
      | refine WpC.seq ?_
      | refine WpC.region ?_
      | refine WpC.drawn ?_
      | refine WpC.skip ?_
      | refine WpC.block ?_
      | refine WpC.exit ?_
      | refine WpC.ret ?_
      | refine WpO.nil ?_
      | refine WpO.cons rfl rfl (WpX.pure (fun _ => rfl) ⟨nolog, ?_⟩)
      | refine WpO.skip rfl rfl ?_
      | refine WpL.cons rfl rfl (WpX.pure (fun _ => rfl) ⟨nolog, ?_⟩)
      | refine WpL.skip rfl rfl ?_
      | refine seqQ_normal ?_
      | refine seqQ_ret ?_
      | refine seqQ_exit ?_
      | refine blkQ_normal ?_
      | refine blkQ_ret ?_
      | refine blkQ_out rfl ?_
      | refine blkQ_by rfl ?_
      | refine WpO.cons rfl rfl (op_load rfl rfl rfl (hd5 _ _) rfl ⟨(by simp [InL, Acc.name, rowName] <;> omega), ?_⟩)
      | refine WpL.cons rfl rfl (op_load rfl rfl rfl (hd5 _ _) rfl ⟨(by simp [InL, Acc.name, rowName] <;> omega), ?_⟩))
    refine WpC.cond rfl (fun _ => ?_) (fun _ => ?_)
    · -- Drop
      repeat' (first
        | refine WpC.seq ?_
        | refine WpC.region ?_
        | refine WpC.drawn ?_
        | refine WpC.skip ?_
        | refine WpC.block ?_
        | refine WpC.exit ?_
        | refine WpC.ret ?_
        | refine WpO.nil ?_
        | refine WpO.cons rfl rfl (WpX.pure (fun _ => rfl) ⟨nolog, ?_⟩)
        | refine WpO.skip rfl rfl ?_
        | refine WpL.cons rfl rfl (WpX.pure (fun _ => rfl) ⟨nolog, ?_⟩)
        | refine WpL.skip rfl rfl ?_
        | refine seqQ_normal ?_
        | refine seqQ_ret ?_
        | refine seqQ_exit ?_
        | refine blkQ_normal ?_
        | refine blkQ_ret ?_
        | refine blkQ_out rfl ?_
        | refine blkQ_by rfl ?_
        | refine WpO.cons rfl rfl (op_load rfl rfl rfl (hd5 _ _) rfl ⟨(by simp [InL, Acc.name, rowName] <;> omega), ?_⟩)
        | refine WpL.cons rfl rfl (op_load rfl rfl rfl (hd5 _ _) rfl ⟨(by simp [InL, Acc.name, rowName] <;> omega), ?_⟩))
      refine WpL.cons rfl rfl (call_atL rfl (drop_ok (K5 _ _).at_ (by omega)) hPr hc5 fun v h6 c6 al6 hal6 hc6 hfr6 hq => ?_)
      obtain ⟨rfl, hq⟩ := hq
      have f6 : ∀ x ∈ al6, x.name ≠ c' := fun x hx e => by
        rcases hal6 x hx with h | h
        · have := hPlt _ (hsP _ h); omega
        · omega
      have f6' : ∀ x ∈ al6, c' ≠ x.name := fun x hx e => f6 x hx e.symm
      have ref6 := ((K5 _ _).ref).keep hc6 fun n hn hm => hfr6 n hn fun hx => K.refc n hm (hsP n hx)
      have hd6 := (hfr6 c' (Nat.lt_succ_self _) (fun hm => by have := hPlt c' (hsP c' hm); omega)).trans (hd5 _ _)
      repeat' (first
        | refine WpC.seq ?_
        | refine WpC.region ?_
        | refine WpC.drawn ?_
        | refine WpC.skip ?_
        | refine WpC.block ?_
        | refine WpC.exit ?_
        | refine WpC.ret ?_
        | refine WpO.nil ?_
        | refine WpO.cons rfl rfl (WpX.pure (fun _ => rfl) ⟨nolog, ?_⟩)
        | refine WpO.skip rfl rfl ?_
        | refine WpL.cons rfl rfl (WpX.pure (fun _ => rfl) ⟨nolog, ?_⟩)
        | refine WpL.skip rfl rfl ?_
        | refine seqQ_normal ?_
        | refine seqQ_ret ?_
        | refine seqQ_exit ?_
        | refine blkQ_normal ?_
        | refine blkQ_ret ?_
        | refine blkQ_out rfl ?_
        | refine blkQ_by rfl ?_
        | refine WpO.cons rfl rfl (op_load rfl rfl rfl hd6 rfl ⟨(by simp [InL, Acc.name, rowName] <;> omega), ?_⟩)
        | refine WpL.cons rfl rfl (op_load rfl rfl rfl hd6 rfl ⟨(by simp [InL, Acc.name, rowName] <;> omega), ?_⟩))
      refine WpL.cons rfl rfl (call_atL rfl (rdrop_ok ref6 (by omega)) hQ hc5 fun v7 h7 c7 al7 hal7 hc7 hfr7 hq7 => ?_)
      obtain ⟨rfl, hq7⟩ := hq7
      have hpk : ∀ n, n < c' + 1 → n ∈ c1 :: (rowName vb ++ rowName vr) → MapI.get h7 n = MapI.get h6 n := fun n hn hm => hfr7 n hn fun hx => K.dis n hm hx
      have hold7 : ∀ n, n < c → MapI.get h7 n = MapI.get h n := fun n hn => by
        rw [hfr7 n (by omega) (fun hx => by have := K.newq n hx; omega), hfr6 n (by omega) (fun hx => by have := K.newp n (hsP n hx); omega)]
        exact (K5 _ _).old n hn
      rcases hq with ⟨j, x, rfl, hx, hx0, rfl, r6⟩ | ⟨hno, rfl, rfl⟩
      · rcases hq7 with ⟨j', x', he, hx', hx0', rfl, r7⟩ | ⟨hno', _⟩
        case inr =>
          have := hno' j x rfl hx
          have := hlies.nn j x hx
          omega
        have : j' = j := by omega
        subst this
        rw [hx] at hx'; cases hx'
        have hcn := K.cnt j' x hx
        have hin := hlies.in_ j' x hx hx0'
        have hw : IntKind.i64.wrap (x.2.2 - 1) = x.2.2 - 1 := Go.IntWalk.i64_in _ (by omega)
        have hw2 : IntKind.i64.wrap (st.live - x.2.1) = st.live - x.2.1 := Go.IntWalk.i64_in _ (by omega)
        rw [hw] at r6 r7
        rw [hw2] at r6
        have G : Good { st with rows := st.rows.set j' (x.1, x.2.1, x.2.2 - 1), live := if x.2.2 - 1 = 0 then st.live - x.2.1 else st.live } := by
          obtain ⟨a, ln, cnt⟩ := x
          simp only at hx0' hin ⊢
          by_cases e : cnt - 1 = 0
          · rw [if_pos e, e]
            have e1 : cnt = 1 := by omega
            subst e1
            obtain ⟨k, rfl⟩ : ∃ k : Nat, ln = k := ⟨ln.toNat, by omega⟩
            exact good_free hgd hx
          · rw [if_neg e]
            exact good_cnt hgd hx hx0' (by omega)
        repeat' (first
          | refine WpC.seq ?_
          | refine WpC.region ?_
          | refine WpC.drawn ?_
          | refine WpC.skip ?_
          | refine WpC.block ?_
          | refine WpC.exit ?_
          | refine WpC.ret ?_
          | refine WpO.nil ?_
          | refine WpO.cons rfl rfl (WpX.pure (fun _ => rfl) ⟨nolog, ?_⟩)
          | refine WpO.skip rfl rfl ?_
          | refine WpL.cons rfl rfl (WpX.pure (fun _ => rfl) ⟨nolog, ?_⟩)
          | refine WpL.skip rfl rfl ?_
          | refine seqQ_normal ?_
          | refine seqQ_ret ?_
          | refine seqQ_exit ?_
          | refine blkQ_normal ?_
          | refine blkQ_ret ?_
          | refine blkQ_out rfl ?_
          | refine blkQ_by rfl ?_)
        refine WpL.nil (logsOk_of (cs := [0, 0, 2, 7, 0, 0, 32, 127, 255, 511]) (by decide +kernel) ?_) ?_
        · simp +contextual [allP, apP, Dis, acc_rd, acc_wr, accw_rd, accw_wr, Nat.testBit, f6, f6']
        repeat' (first
          | refine WpC.seq ?_
          | refine WpC.region ?_
          | refine WpC.drawn ?_
          | refine WpC.skip ?_
          | refine WpC.block ?_
          | refine WpC.exit ?_
          | refine WpC.ret ?_
          | refine WpO.nil ?_
          | refine WpO.cons rfl rfl (WpX.pure (fun _ => rfl) ⟨nolog, ?_⟩)
          | refine WpO.skip rfl rfl ?_
          | refine WpL.cons rfl rfl (WpX.pure (fun _ => rfl) ⟨nolog, ?_⟩)
          | refine WpL.skip rfl rfl ?_
          | refine seqQ_normal ?_
          | refine seqQ_ret ?_
          | refine seqQ_exit ?_
          | refine blkQ_normal ?_
          | refine blkQ_ret ?_
          | refine blkQ_out rfl ?_
          | refine blkQ_by rfl ?_)
        refine ⟨vb, vr, vB, vP, vS, vC, _, set5 rfl rfl rfl rfl rfl, ⟨?_, r7.live _, G, by simp only [List.length_set]; omega, fun m y hy => ?_, K.byt, K.dis, K.newp, K.newq, by omega, hold7⟩⟩
        · exact ⟨by rw [hpk c1 r6.lp (by simp)]; exact r6.obj, r6.bytes.keep (Nat.le_refl _) fun n hn hm => hpk n hn (by simp [hm]), r6.rows.keep (Nat.le_refl _) fun n hn hm => hpk n hn (by simp [hm]), r6.lp, r6.nb, r6.nr, r6.br⟩
        · have := cnt_set (st := st) (b := (i : Int) + 1) K.cnt (y := (x.1, x.2.1, x.2.2 - 1)) (by simp only; omega) m y hy
          omega
      · rcases hq7 with ⟨j', x', he, hx', hx0', _⟩ | ⟨_, rfl, rfl⟩
        case inl =>
          have := hno j' x' he hx'
          omega
        repeat' (first
          | refine WpC.seq ?_
          | refine WpC.region ?_
          | refine WpC.drawn ?_
          | refine WpC.skip ?_
          | refine WpC.block ?_
          | refine WpC.exit ?_
          | refine WpC.ret ?_
          | refine WpO.nil ?_
          | refine WpO.cons rfl rfl (WpX.pure (fun _ => rfl) ⟨nolog, ?_⟩)
          | refine WpO.skip rfl rfl ?_
          | refine WpL.cons rfl rfl (WpX.pure (fun _ => rfl) ⟨nolog, ?_⟩)
          | refine WpL.skip rfl rfl ?_
          | refine seqQ_normal ?_
          | refine seqQ_ret ?_
          | refine seqQ_exit ?_
          | refine blkQ_normal ?_
          | refine blkQ_ret ?_
          | refine blkQ_out rfl ?_
          | refine blkQ_by rfl ?_)
        refine WpL.nil (logsOk_of (cs := [0, 0, 2, 7, 0, 0, 32, 127, 255, 511]) (by decide +kernel) ?_) ?_
        · simp +contextual [allP, apP, Dis, acc_rd, acc_wr, accw_rd, accw_wr, Nat.testBit, f6, f6']
        repeat' (first
          | refine WpC.seq ?_
          | refine WpC.region ?_
          | refine WpC.drawn ?_
          | refine WpC.skip ?_
          | refine WpC.block ?_
          | refine WpC.exit ?_
          | refine WpC.ret ?_
          | refine WpO.nil ?_
          | refine WpO.cons rfl rfl (WpX.pure (fun _ => rfl) ⟨nolog, ?_⟩)
          | refine WpO.skip rfl rfl ?_
          | refine WpL.cons rfl rfl (WpX.pure (fun _ => rfl) ⟨nolog, ?_⟩)
          | refine WpL.skip rfl rfl ?_
          | refine seqQ_normal ?_
          | refine seqQ_ret ?_
          | refine seqQ_exit ?_
          | refine blkQ_normal ?_
          | refine blkQ_ret ?_
          | refine blkQ_out rfl ?_
          | refine blkQ_by rfl ?_)
        exact ⟨vb, vr, vB, vP, vS, vC, st, set5 rfl rfl rfl rfl rfl, (K5 _ _).more⟩
    -- Slide
    repeat' (first
      | refine WpC.seq ?_
      | refine WpC.region ?_
      | refine WpC.drawn ?_
      | refine WpC.skip ?_
      | refine WpC.block ?_
      | refine WpC.exit ?_
      | refine WpC.ret ?_
      | refine WpO.nil ?_
      | refine WpO.cons rfl rfl (WpX.pure (fun _ => rfl) ⟨nolog, ?_⟩)
      | refine WpO.skip rfl rfl ?_
      | refine WpL.cons rfl rfl (WpX.pure (fun _ => rfl) ⟨nolog, ?_⟩)
      | refine WpL.skip rfl rfl ?_
      | refine seqQ_normal ?_
      | refine seqQ_ret ?_
      | refine seqQ_exit ?_
      | refine blkQ_normal ?_
      | refine blkQ_ret ?_
      | refine blkQ_out rfl ?_
      | refine blkQ_by rfl ?_)
    refine WpO.cons rfl rfl (call_at rfl (slide_ok (K5 _ _).at_ (by omega) (by omega) hlies) hP hc5 fun v h6 c6 hc6 hfr6 hq => ?_)
    obtain ⟨rfl, _, vb6, hvb6, r6⟩ := hq
    have ref6 := ((K5 _ _).ref).keep hc6 fun n hn hm => hfr6 n hn fun hx => K.refc n hm hx
    repeat' (first
      | refine WpC.seq ?_
      | refine WpC.region ?_
      | refine WpC.drawn ?_
      | refine WpC.skip ?_
      | refine WpC.block ?_
      | refine WpC.exit ?_
      | refine WpC.ret ?_
      | refine WpO.nil ?_
      | refine WpO.cons rfl rfl (WpX.pure (fun _ => rfl) ⟨nolog, ?_⟩)
      | refine WpO.skip rfl rfl ?_
      | refine WpL.cons rfl rfl (WpX.pure (fun _ => rfl) ⟨nolog, ?_⟩)
      | refine WpL.skip rfl rfl ?_
      | refine seqQ_normal ?_
      | refine seqQ_ret ?_
      | refine seqQ_exit ?_
      | refine blkQ_normal ?_
      | refine blkQ_ret ?_
      | refine blkQ_out rfl ?_
      | refine blkQ_by rfl ?_)
    refine WpO.cons rfl rfl (call_at rfl (rslide_ok ref6 (by omega) (by omega) hlies) hQ (by omega) fun v h7 c7 hc7 hfr7 hq => ?_)
    obtain ⟨rfl, _, vB7, hvB7, r7⟩ := hq
    have hP6 : ∀ n ∈ c1 :: (rowName vb6 ++ rowName vr), n ∈ c1 :: (rowName vb ++ rowName vr) := fun n hn => by rw [hvb6] at hn; exact hn
    have hQ7 : ∀ n ∈ rn (c1 + 1) vB7 vP vS vC, n ∈ rn (c1 + 1) vB vP vS vC ∨ c6 ≤ n := fun n hn => by
      simp only [List.mem_cons, List.mem_append] at hn ⊢
      rcases hn with h | h | h
      · exact .inl (.inl h)
      · exact .inr (hvB7 n h)
      · exact .inl (.inr (.inr h))
    have hpk : ∀ n, n < c6 → n ∈ c1 :: (rowName vb6 ++ rowName vr) → MapI.get h7 n = MapI.get h6 n := fun n hn hm => hfr7 n hn fun hx => K.dis n (hP6 n hm) hx
    repeat' (first
      | refine WpC.seq ?_
      | refine WpC.region ?_
      | refine WpC.drawn ?_
      | refine WpC.skip ?_
      | refine WpC.block ?_
      | refine WpC.exit ?_
      | refine WpC.ret ?_
      | refine WpO.nil ?_
      | refine WpO.cons rfl rfl (WpX.pure (fun _ => rfl) ⟨nolog, ?_⟩)
      | refine WpO.skip rfl rfl ?_
      | refine WpL.cons rfl rfl (WpX.pure (fun _ => rfl) ⟨nolog, ?_⟩)
      | refine WpL.skip rfl rfl ?_
      | refine seqQ_normal ?_
      | refine seqQ_ret ?_
      | refine seqQ_exit ?_
      | refine blkQ_normal ?_
      | refine blkQ_ret ?_
      | refine blkQ_out rfl ?_
      | refine blkQ_by rfl ?_)
    simp only [beq_self_eq_true]
    refine ⟨vb6, vr, vB7, vP, vS, vC, slidSt st, set5 rfl rfl rfl rfl rfl, ⟨?_, r7, good_slid hgd, ?_, fun m y hy => ?_, outs_byt K.byt _, fun n hn hm => ?_, fun n hn => K.newp n (hP6 n hn), fun n hn => ?_, by omega, fun n hn => ?_⟩⟩
    · exact ⟨by rw [hpk c1 r6.lp (by simp)]; exact r6.obj, r6.bytes.keep hc7 fun n hn hm => hpk n hn (by simp [hm]), r6.rows.keep hc7 fun n hn hm => hpk n hn (by simp [hm]), Nat.lt_of_lt_of_le r6.lp hc7, r6.nb, r6.nr, r6.br⟩
    · show (slid st.rows (order st.rows)).1.length ≤ i + 1
      rw [slid_length]; omega
    · obtain ⟨a, ha⟩ := slid_row hy
      have := K.cnt m (a, y.2.1, y.2.2) ha
      simp only at this
      omega
    · rcases hQ7 n hm with h | h
      · exact K.dis n (hP6 n hn) h
      · have := hPlt n (hP6 n hn); omega
    · rcases hQ7 n hn with h | h
      · exact K.newq n h
      · omega
    · rw [hfr7 n (by omega) (fun hx => by have := K.newq n hx; omega), hfr6 n (by omega) (fun hx => by have := K.newp n hx; omega)]
      exact (K5 _ _).old n hn
  clear K5 K hd5 hgc hP hPr hQ hPlt hQlt hsP hsz hlies hrl hgm hgf hlv hgd hgl' hle0 hc5
  rintro e6 h6 c6 ⟨vb, vr, vB, vP, vS, vC, st, ⟨b6, rfl⟩, K⟩
  have hle0 := K.le
  have hgd := K.good
  have hlies := hgd.lies
  have hlv := hgd.live0
  have hgf := hgd.fit
  have hgm := hgd.most
  have hrl := K.rows
  have hP : ∀ n ∈ c1 :: (rowName vb ++ rowName vr), n ∈ rowName (.slice (some (sl, 0)) ds.length (.known capl)) ++ names (bytesOf ds) ∨ c ≤ n := fun n hn => .inr (K.newp n hn)
  have hsP : ∀ n ∈ c1 :: rowName vr, n ∈ c1 :: (rowName vb ++ rowName vr) := fun n hn => by simp at hn ⊢; rcases hn with h | h <;> simp [h]
  have hPr : ∀ n ∈ c1 :: rowName vr, n ∈ rowName (.slice (some (sl, 0)) ds.length (.known capl)) ++ names (bytesOf ds) ∨ c ≤ n := fun n hn => hP n (hsP n hn)
  have hQ : ∀ n ∈ rn (c1 + 1) vB vP vS vC, n ∈ rowName (.slice (some (sl, 0)) ds.length (.known capl)) ++ names (bytesOf ds) ∨ c ≤ n := fun n hn => .inr (K.newq n hn)
  have hp1 : ∀ n ∈ [c1], n ∈ rowName (.slice (some (sl, 0)) ds.length (.known capl)) ++ names (bytesOf ds) ∨ c ≤ n := fun n hn => hP n (by simp at hn; simp [hn])
  have hobj := K.ref.obj
  obtain ⟨sB, cB, hvB, _⟩ := K.ref.b.shape
  obtain ⟨sC, cC, hvC, hsC⟩ := K.ref.ct.shapeN (List.length_map _)
  obtain ⟨sPp, cP, hvP, hsPp⟩ := K.ref.pl.shapeN (List.length_map _)
  obtain ⟨sS, cS, hvS, hsS⟩ := K.ref.sz.shapeN (List.length_map _)
  have hobjB := hobj
  rw [hvB] at hobjB
  repeat' (first
    | refine WpC.seq ?_
    | refine WpC.region ?_
    | refine WpC.drawn ?_
    | refine WpC.skip ?_
    | refine WpC.block ?_
    | refine WpC.exit ?_
    | refine WpC.ret ?_
    | refine WpO.nil ?_
    | refine WpO.cons rfl rfl (WpX.pure (fun _ => rfl) ⟨nolog, ?_⟩)
    | refine WpO.skip rfl rfl ?_
    | refine WpL.cons rfl rfl (WpX.pure (fun _ => rfl) ⟨nolog, ?_⟩)
    | refine WpL.skip rfl rfl ?_
    | refine seqQ_normal ?_
    | refine seqQ_ret ?_
    | refine seqQ_exit ?_
    | refine blkQ_normal ?_
    | refine blkQ_ret ?_
    | refine blkQ_out rfl ?_
    | refine blkQ_by rfl ?_)
  refine WpL.cons rfl rfl (call_atL rfl (live_ok K.at_) hp1 hle0 fun v h7 c7 al1 hal1 hc7 hfr7 hq => ?_)
  obtain ⟨rfl, rfl, rfl⟩ := hq
  repeat' (first
    | refine WpC.seq ?_
    | refine WpC.region ?_
    | refine WpC.drawn ?_
    | refine WpC.skip ?_
    | refine WpC.block ?_
    | refine WpC.exit ?_
    | refine WpC.ret ?_
    | refine WpO.nil ?_
    | refine WpO.cons rfl rfl (WpX.pure (fun _ => rfl) ⟨nolog, ?_⟩)
    | refine WpO.skip rfl rfl ?_
    | refine WpL.cons rfl rfl (WpX.pure (fun _ => rfl) ⟨nolog, ?_⟩)
    | refine WpL.skip rfl rfl ?_
    | refine seqQ_normal ?_
    | refine seqQ_ret ?_
    | refine seqQ_exit ?_
    | refine blkQ_normal ?_
    | refine blkQ_ret ?_
    | refine blkQ_out rfl ?_
    | refine blkQ_by rfl ?_)
  refine WpL.cons rfl rfl (call_atL rfl (rlive_ok K.ref (by omega) K.sized) hQ hle0 fun v h7 c7 al2 hal2 hc7 hfr7 hq => ?_)
  obtain ⟨rfl, rfl, rfl⟩ := hq
  repeat' (first
    | refine WpC.seq ?_
    | refine WpC.region ?_
    | refine WpC.drawn ?_
    | refine WpC.skip ?_
    | refine WpC.block ?_
    | refine WpC.exit ?_
    | refine WpC.ret ?_
    | refine WpO.nil ?_
    | refine WpO.cons rfl rfl (WpX.pure (fun _ => rfl) ⟨nolog, ?_⟩)
    | refine WpO.skip rfl rfl ?_
    | refine WpL.cons rfl rfl (WpX.pure (fun _ => rfl) ⟨nolog, ?_⟩)
    | refine WpL.skip rfl rfl ?_
    | refine seqQ_normal ?_
    | refine seqQ_ret ?_
    | refine seqQ_exit ?_
    | refine blkQ_normal ?_
    | refine blkQ_ret ?_
    | refine blkQ_out rfl ?_
    | refine blkQ_by rfl ?_)
  rw [hgd.tot]
  simp only [bne_self_eq_false]
  repeat' (first
    | refine WpC.seq ?_
    | refine WpC.region ?_
    | refine WpC.drawn ?_
    | refine WpC.skip ?_
    | refine WpC.block ?_
    | refine WpC.exit ?_
    | refine WpC.ret ?_
    | refine WpO.nil ?_
    | refine WpO.cons rfl rfl (WpX.pure (fun _ => rfl) ⟨nolog, ?_⟩)
    | refine WpO.skip rfl rfl ?_
    | refine WpL.cons rfl rfl (WpX.pure (fun _ => rfl) ⟨nolog, ?_⟩)
    | refine WpL.skip rfl rfl ?_
    | refine seqQ_normal ?_
    | refine seqQ_ret ?_
    | refine seqQ_exit ?_
    | refine blkQ_normal ?_
    | refine blkQ_ret ?_
    | refine blkQ_out rfl ?_
    | refine blkQ_by rfl ?_)
  refine WpL.cons rfl rfl (call_atL rfl (used_ok K.at_) hp1 hle0 fun v h7 c7 al3 hal3 hc7 hfr7 hq => ?_)
  obtain ⟨rfl, rfl, rfl⟩ := hq
  repeat' (first
    | refine WpC.seq ?_
    | refine WpC.region ?_
    | refine WpC.drawn ?_
    | refine WpC.skip ?_
    | refine WpC.block ?_
    | refine WpC.exit ?_
    | refine WpC.ret ?_
    | refine WpO.nil ?_
    | refine WpO.cons rfl rfl (WpX.pure (fun _ => rfl) ⟨nolog, ?_⟩)
    | refine WpO.skip rfl rfl ?_
    | refine WpL.cons rfl rfl (WpX.pure (fun _ => rfl) ⟨nolog, ?_⟩)
    | refine WpL.skip rfl rfl ?_
    | refine seqQ_normal ?_
    | refine seqQ_ret ?_
    | refine seqQ_exit ?_
    | refine blkQ_normal ?_
    | refine blkQ_ret ?_
    | refine blkQ_out rfl ?_
    | refine blkQ_by rfl ?_
    | refine WpO.cons rfl rfl (op_load rfl rfl rfl hobjB rfl ⟨(by simp [InL, Acc.name, rowName] <;> omega), ?_⟩)
    | refine WpL.cons rfl rfl (op_load rfl rfl rfl hobjB rfl ⟨(by simp [InL, Acc.name, rowName] <;> omega), ?_⟩)
    | refine WpO.cons rfl rfl (op_len rfl rfl rfl ⟨(by simp [InL, Acc.name, rowName] <;> omega), ?_⟩)
    | refine WpL.cons rfl rfl (op_len rfl rfl rfl ⟨(by simp [InL, Acc.name, rowName] <;> omega), ?_⟩))
  simp only [bne_self_eq_false]
  repeat' (first
    | refine WpC.seq ?_
    | refine WpC.region ?_
    | refine WpC.drawn ?_
    | refine WpC.skip ?_
    | refine WpC.block ?_
    | refine WpC.exit ?_
    | refine WpC.ret ?_
    | refine WpO.nil ?_
    | refine WpO.cons rfl rfl (WpX.pure (fun _ => rfl) ⟨nolog, ?_⟩)
    | refine WpO.skip rfl rfl ?_
    | refine WpL.cons rfl rfl (WpX.pure (fun _ => rfl) ⟨nolog, ?_⟩)
    | refine WpL.skip rfl rfl ?_
    | refine seqQ_normal ?_
    | refine seqQ_ret ?_
    | refine seqQ_exit ?_
    | refine blkQ_normal ?_
    | refine blkQ_ret ?_
    | refine blkQ_out rfl ?_
    | refine blkQ_by rfl ?_)
  refine WpL.cons rfl rfl (call_atL rfl (handles_ok K.at_ (by omega)) hPr hle0 fun v1 h7 c7 al4 hal4 hc7 hfr7 hq => ?_)
  obtain ⟨hl1, hn1, ho1⟩ := hq
  have K7 := K.keep hc7 ho1
  repeat' (first
    | refine WpC.seq ?_
    | refine WpC.region ?_
    | refine WpC.drawn ?_
    | refine WpC.skip ?_
    | refine WpC.block ?_
    | refine WpC.exit ?_
    | refine WpC.ret ?_
    | refine WpO.nil ?_
    | refine WpO.cons rfl rfl (WpX.pure (fun _ => rfl) ⟨nolog, ?_⟩)
    | refine WpO.skip rfl rfl ?_
    | refine WpL.cons rfl rfl (WpX.pure (fun _ => rfl) ⟨nolog, ?_⟩)
    | refine WpL.skip rfl rfl ?_
    | refine seqQ_normal ?_
    | refine seqQ_ret ?_
    | refine seqQ_exit ?_
    | refine blkQ_normal ?_
    | refine blkQ_ret ?_
    | refine blkQ_out rfl ?_
    | refine blkQ_by rfl ?_)
  refine WpL.cons rfl rfl (call_atL rfl (rhandles_ok K7.ref (by omega)) hQ (by omega) fun v2 h8 c8 al5 hal5 hc8 hfr8 hq => ?_)
  obtain ⟨hl2, hn2, ho2⟩ := hq
  have K8 := K7.keep hc8 ho2
  have hl1' := hl1.keep hc8 fun n hn _ => ho2 n hn
  repeat' (first
    | refine WpC.seq ?_
    | refine WpC.region ?_
    | refine WpC.drawn ?_
    | refine WpC.skip ?_
    | refine WpC.block ?_
    | refine WpC.exit ?_
    | refine WpC.ret ?_
    | refine WpO.nil ?_
    | refine WpO.cons rfl rfl (WpX.pure (fun _ => rfl) ⟨nolog, ?_⟩)
    | refine WpO.skip rfl rfl ?_
    | refine WpL.cons rfl rfl (WpX.pure (fun _ => rfl) ⟨nolog, ?_⟩)
    | refine WpL.skip rfl rfl ?_
    | refine seqQ_normal ?_
    | refine seqQ_ret ?_
    | refine seqQ_exit ?_
    | refine blkQ_normal ?_
    | refine blkQ_ret ?_
    | refine blkQ_out rfl ?_
    | refine blkQ_by rfl ?_)
  refine WpL.cons rfl rfl (call_atL rfl (ints_ok hl1' hl2 (by have := hnd_le st.rows 0; omega)) (fun n hn => .inr (by
    rcases List.mem_append.1 hn with h | h
    · have := hn1 n h; omega
    · have := hn2 n h; omega)) (by omega) fun v h9 c9 al6 hal6 hc9 hfr9 hq => ?_)
  obtain ⟨rfl, rfl, rfl⟩ := hq
  repeat' (first
    | refine WpC.seq ?_
    | refine WpC.region ?_
    | refine WpC.drawn ?_
    | refine WpC.skip ?_
    | refine WpC.block ?_
    | refine WpC.exit ?_
    | refine WpC.ret ?_
    | refine WpO.nil ?_
    | refine WpO.cons rfl rfl (WpX.pure (fun _ => rfl) ⟨nolog, ?_⟩)
    | refine WpO.skip rfl rfl ?_
    | refine WpL.cons rfl rfl (WpX.pure (fun _ => rfl) ⟨nolog, ?_⟩)
    | refine WpL.skip rfl rfl ?_
    | refine seqQ_normal ?_
    | refine seqQ_ret ?_
    | refine seqQ_exit ?_
    | refine blkQ_normal ?_
    | refine blkQ_ret ?_
    | refine blkQ_out rfl ?_
    | refine blkQ_by rfl ?_)
  refine WpL.cons rfl rfl (call_atL rfl (check_ok K8.at_ hgd (by omega)) hPr (by omega) fun v h10 c10 al7 hal7 hc10 hfr10 hq => ?_)
  obtain ⟨rfl, ho3⟩ := hq
  have K10 := K8.keep hc10 ho3
  have hpq : c1 ≠ c1 + 1 := by omega
  have w3 : ∀ x ∈ al3, x.name ≠ c1 + 1 := fun x hx e => by
    rcases hal3 x hx with h | h
    · simp at h; omega
    · have := K.ref.lq; omega
  have w3' : ∀ x ∈ al3, c1 + 1 ≠ x.name := fun x hx e => w3 x hx e.symm
  repeat' (first
    | refine WpC.seq ?_
    | refine WpC.region ?_
    | refine WpC.drawn ?_
    | refine WpC.skip ?_
    | refine WpC.block ?_
    | refine WpC.exit ?_
    | refine WpC.ret ?_
    | refine WpO.nil ?_
    | refine WpO.cons rfl rfl (WpX.pure (fun _ => rfl) ⟨nolog, ?_⟩)
    | refine WpO.skip rfl rfl ?_
    | refine WpL.cons rfl rfl (WpX.pure (fun _ => rfl) ⟨nolog, ?_⟩)
    | refine WpL.skip rfl rfl ?_
    | refine seqQ_normal ?_
    | refine seqQ_ret ?_
    | refine seqQ_exit ?_
    | refine blkQ_normal ?_
    | refine blkQ_ret ?_
    | refine blkQ_out rfl ?_
    | refine blkQ_by rfl ?_)
  refine WpL.nil (logsOk_of (cs := [0, 1, 3, 7, 15, 7, 63, 127, 255, 511, 1023, 2047, 1023, 5119, 13311, 29695, 62463, 131071, 262143, 524287, 1048575, 2097151, 1048575, 8388607, 16777215, 33554431, 67108863, 134217727, 268435455, 536870911, 1073741823, 2147483647]) (by decide +kernel) ?_) ?_
  · simp +contextual [allP, apP, Dis, acc_rd, acc_wr, accw_rd, accw_wr, Nat.testBit, w3, w3']
  refine WpC.cond rfl (fun hb => by cases hb) (fun _ => ?_)
  clear K K7 K8 hl1 hl1' hl2 hobj hobjB hsC hsPp hsS
  have hobj := K10.ref.obj
  obtain ⟨sC', cC', hvC', hsC⟩ := K10.ref.ct.shapeN (List.length_map _)
  obtain ⟨sP', cP', hvP', hsPp⟩ := K10.ref.pl.shapeN (List.length_map _)
  obtain ⟨sS', cS', hvS', hsS⟩ := K10.ref.sz.shapeN (List.length_map _)
  have hobjC := hobj
  rw [hvC'] at hobjC
  have hle10 := K10.le
  repeat' (first
    | refine WpC.seq ?_
    | refine WpC.region ?_
    | refine WpC.drawn ?_
    | refine WpC.skip ?_
    | refine WpC.block ?_
    | refine WpC.exit ?_
    | refine WpC.ret ?_
    | refine WpO.nil ?_
    | refine WpO.cons rfl rfl (WpX.pure (fun _ => rfl) ⟨nolog, ?_⟩)
    | refine WpO.skip rfl rfl ?_
    | refine WpL.cons rfl rfl (WpX.pure (fun _ => rfl) ⟨nolog, ?_⟩)
    | refine WpL.skip rfl rfl ?_
    | refine seqQ_normal ?_
    | refine seqQ_ret ?_
    | refine seqQ_exit ?_
    | refine blkQ_normal ?_
    | refine blkQ_ret ?_
    | refine blkQ_out rfl ?_
    | refine blkQ_by rfl ?_)
  refine WpC.loop ?_
  refine WpLoop.ind (X := Nat) (fun k e h' c' => (∃ b0, e = MapI.set (MapI.set (MapI.set (MapI.set (MapI.set b0 1 (.slice (some (sl, 0)) ds.length (.known capl))) 5 (.ptr (some (c1, 0)))) 6 (.ptr (some (c1 + 1, 0)))) 7 (I i)) 18 (I k)) ∧ k ≤ st.rows.length + 2 ∧ h' = h10 ∧ c' = c10)
    (fun k => st.rows.length + 2 - k) ?_ 0 _ _ _ ⟨set5 rfl rfl rfl rfl rfl, Nat.zero_le _, rfl, rfl⟩
  rintro k e h' c' ⟨⟨b8, rfl⟩, hk, rfl, rfl⟩
  have hwl : IntKind.i64.wrap ((st.rows.length : Int) + 1) = ((st.rows.length + 1 : Nat) : Int) := by rw [Go.IntWalk.i64_in _ (by omega)]; omega
  have hwk : IntKind.i64.wrap ((k : Int) + 1) = ((k + 1 : Nat) : Int) := by rw [Go.IntWalk.i64_in _ (by omega)]; omega
  repeat' (first
    | refine WpC.seq ?_
    | refine WpC.region ?_
    | refine WpC.drawn ?_
    | refine WpC.skip ?_
    | refine WpC.block ?_
    | refine WpC.exit ?_
    | refine WpC.ret ?_
    | refine WpO.nil ?_
    | refine WpO.cons rfl rfl (WpX.pure (fun _ => rfl) ⟨nolog, ?_⟩)
    | refine WpO.skip rfl rfl ?_
    | refine WpL.cons rfl rfl (WpX.pure (fun _ => rfl) ⟨nolog, ?_⟩)
    | refine WpL.skip rfl rfl ?_
    | refine seqQ_normal ?_
    | refine seqQ_ret ?_
    | refine seqQ_exit ?_
    | refine blkQ_normal ?_
    | refine blkQ_ret ?_
    | refine blkQ_out rfl ?_
    | refine blkQ_by rfl ?_
    | refine WpO.cons rfl rfl (op_load rfl rfl rfl hobjC rfl ⟨(by simp [InL, Acc.name, rowName] <;> omega), ?_⟩)
    | refine WpL.cons rfl rfl (op_load rfl rfl rfl hobjC rfl ⟨(by simp [InL, Acc.name, rowName] <;> omega), ?_⟩)
    | refine WpO.cons rfl rfl (op_len rfl rfl rfl ⟨(by simp [InL, Acc.name, rowName] <;> omega), ?_⟩)
    | refine WpL.cons rfl rfl (op_len rfl rfl rfl ⟨(by simp [InL, Acc.name, rowName] <;> omega), ?_⟩))
  refine WpC.cond rfl (fun hlt2 => ?_) (fun _ => ?_)
  case refine_2 =>
    repeat' (first
      | refine WpC.seq ?_
      | refine WpC.region ?_
      | refine WpC.drawn ?_
      | refine WpC.skip ?_
      | refine WpC.block ?_
      | refine WpC.exit ?_
      | refine WpC.ret ?_
      | refine WpO.nil ?_
      | refine WpO.cons rfl rfl (WpX.pure (fun _ => rfl) ⟨nolog, ?_⟩)
      | refine WpO.skip rfl rfl ?_
      | refine WpL.cons rfl rfl (WpX.pure (fun _ => rfl) ⟨nolog, ?_⟩)
      | refine WpL.skip rfl rfl ?_
      | refine seqQ_normal ?_
      | refine seqQ_ret ?_
      | refine seqQ_exit ?_
      | refine blkQ_normal ?_
      | refine blkQ_ret ?_
      | refine blkQ_out rfl ?_
      | refine blkQ_by rfl ?_)
    refine ⟨i + 1, by omega, vb, vr, vB, vP, vS, vC, st, ?_, by omega, K10⟩
    rw [hw1]
    exact set4 rfl rfl rfl rfl
  rw [hwl] at hlt2
  have hlt2 : k ≤ st.rows.length + 1 := by
    have : ((k : Nat) : Int) ≤ ((st.rows.length + 1 : Nat) : Int) := by simpa using hlt2
    omega
  repeat' (first
    | refine WpC.seq ?_
    | refine WpC.region ?_
    | refine WpC.drawn ?_
    | refine WpC.skip ?_
    | refine WpC.block ?_
    | refine WpC.exit ?_
    | refine WpC.ret ?_
    | refine WpO.nil ?_
    | refine WpO.cons rfl rfl (WpX.pure (fun _ => rfl) ⟨nolog, ?_⟩)
    | refine WpO.skip rfl rfl ?_
    | refine WpL.cons rfl rfl (WpX.pure (fun _ => rfl) ⟨nolog, ?_⟩)
    | refine WpL.skip rfl rfl ?_
    | refine seqQ_normal ?_
    | refine seqQ_ret ?_
    | refine seqQ_exit ?_
    | refine blkQ_normal ?_
    | refine blkQ_ret ?_
    | refine blkQ_out rfl ?_
    | refine blkQ_by rfl ?_)
  refine WpO.cons rfl rfl (call_at rfl (place_any K10.at_ (by omega)) hPr (by omega) fun v h7 c7 hc7 hfr7 hq => ?_)
  obtain ⟨rfl, rfl, hq⟩ := hq
  rcases hq with ⟨j, x, hkj, hx, hx0, rfl⟩ | ⟨hno, rfl⟩
  · have hnn := hlies.nn j x hx
    have hx1 : x.2.2 > 0 := by omega
    have hj := (List.getElem?_eq_some_iff.1 hx).1
    obtain ⟨rfl, pn, clp, jp, rfl, hpn, hgp, hjp⟩ := hsPp j hj
    obtain ⟨rfl, zn, clz, jz, rfl, hzn, hgz, hjz⟩ := hsS j hj
    have hobjP := hobj
    rw [hvP', hvS'] at hobjP
    have hwj : IntKind.i64.wrap ((k : Int) - 1) = (j : Int) := by rw [Go.IntWalk.i64_in _ (by omega)]; omega
    have hwo : 0 + (IntKind.i64.wrap ((k : Int) - 1)).toNat * 1 = j := by rw [hwj]; simp
    have hzp : nth (flat intV (st.rows.map fun r => r.1) ++ jp) (0 + (IntKind.i64.wrap ((k : Int) - 1)).toNat * 1) = some (I x.1) := by
      rw [hwo]; exact nthI (by rw [List.getElem?_map, hx]; rfl) jp
    have hzz : nth (flat intV (st.rows.map fun r => r.2.1) ++ jz) (0 + (IntKind.i64.wrap ((k : Int) - 1)).toNat * 1) = some (I x.2.1) := by
      rw [hwo]; exact nthI (by rw [List.getElem?_map, hx]; rfl) jz
    have hin := hlies.in_ j x hx hx1
    have Lp : pn ∈ rowName (.slice (some (sl, 0)) ds.length (.known capl)) ++ names (bytesOf ds) ∨ c ≤ pn := hQ pn (by rw [hvP']; simp [rowName])
    have Lz : zn ∈ rowName (.slice (some (sl, 0)) ds.length (.known capl)) ++ names (bytesOf ds) ∨ c ≤ zn := hQ zn (by rw [hvS']; simp [rowName])
    have hcnt0 : decide (x.2.2 > 0) = true := by simpa using hx1
    repeat' (first
      | refine WpC.seq ?_
      | refine WpC.region ?_
      | refine WpC.drawn ?_
      | refine WpC.skip ?_
      | refine WpC.block ?_
      | refine WpC.exit ?_
      | refine WpC.ret ?_
      | refine WpO.nil ?_
      | refine WpO.cons rfl rfl (WpX.pure (fun _ => rfl) ⟨nolog, ?_⟩)
      | refine WpO.skip rfl rfl ?_
      | refine WpL.cons rfl rfl (WpX.pure (fun _ => rfl) ⟨nolog, ?_⟩)
      | refine WpL.skip rfl rfl ?_
      | refine seqQ_normal ?_
      | refine seqQ_ret ?_
      | refine seqQ_exit ?_
      | refine blkQ_normal ?_
      | refine blkQ_ret ?_
      | refine blkQ_out rfl ?_
      | refine blkQ_by rfl ?_)
    refine WpO.cons rfl rfl (call_at rfl (count_ok K10.at_ (by omega)) hPr (by omega) fun v h7 c7 hc7 hfr7 hq => ?_)
    obtain ⟨rfl, rfl, hq⟩ := hq
    rcases hq with ⟨j2, x2, e2, hx2, rfl⟩ | ⟨hno, _⟩
    case inr => exact absurd (hno j x hkj hx) hx0
    have : j2 = j := by omega
    subst this
    rw [hx] at hx2; cases hx2
    repeat' (first
      | refine WpC.seq ?_
      | refine WpC.region ?_
      | refine WpC.drawn ?_
      | refine WpC.skip ?_
      | refine WpC.block ?_
      | refine WpC.exit ?_
      | refine WpC.ret ?_
      | refine WpO.nil ?_
      | refine WpO.cons rfl rfl (WpX.pure (fun _ => rfl) ⟨nolog, ?_⟩)
      | refine WpO.skip rfl rfl ?_
      | refine WpL.cons rfl rfl (WpX.pure (fun _ => rfl) ⟨nolog, ?_⟩)
      | refine WpL.skip rfl rfl ?_
      | refine seqQ_normal ?_
      | refine seqQ_ret ?_
      | refine seqQ_exit ?_
      | refine blkQ_normal ?_
      | refine blkQ_ret ?_
      | refine blkQ_out rfl ?_
      | refine blkQ_by rfl ?_)
    refine WpO.cons rfl rfl (call_at rfl (rcount_ok K10.ref (by omega)) hQ (by omega) fun v h7 c7 hc7 hfr7 hq => ?_)
    obtain ⟨rfl, rfl, hq⟩ := hq
    rcases hq with ⟨j3, x3, e3, hx3, _, rfl⟩ | ⟨hno, _⟩
    case inr => exact absurd hx1 (hno j2 x hkj hx)
    have : j3 = j2 := by omega
    subst this
    rw [hx] at hx3; cases hx3
    repeat' (first
      | refine WpC.seq ?_
      | refine WpC.region ?_
      | refine WpC.drawn ?_
      | refine WpC.skip ?_
      | refine WpC.block ?_
      | refine WpC.exit ?_
      | refine WpC.ret ?_
      | refine WpO.nil ?_
      | refine WpO.cons rfl rfl (WpX.pure (fun _ => rfl) ⟨nolog, ?_⟩)
      | refine WpO.skip rfl rfl ?_
      | refine WpL.cons rfl rfl (WpX.pure (fun _ => rfl) ⟨nolog, ?_⟩)
      | refine WpL.skip rfl rfl ?_
      | refine seqQ_normal ?_
      | refine seqQ_ret ?_
      | refine seqQ_exit ?_
      | refine blkQ_normal ?_
      | refine blkQ_ret ?_
      | refine blkQ_out rfl ?_
      | refine blkQ_by rfl ?_)
    simp only [bne_self_eq_false]
    repeat' (first
      | refine WpC.seq ?_
      | refine WpC.region ?_
      | refine WpC.drawn ?_
      | refine WpC.skip ?_
      | refine WpC.block ?_
      | refine WpC.exit ?_
      | refine WpC.ret ?_
      | refine WpO.nil ?_
      | refine WpO.cons rfl rfl (WpX.pure (fun _ => rfl) ⟨nolog, ?_⟩)
      | refine WpO.skip rfl rfl ?_
      | refine WpL.cons rfl rfl (WpX.pure (fun _ => rfl) ⟨nolog, ?_⟩)
      | refine WpL.skip rfl rfl ?_
      | refine seqQ_normal ?_
      | refine seqQ_ret ?_
      | refine seqQ_exit ?_
      | refine blkQ_normal ?_
      | refine blkQ_ret ?_
      | refine blkQ_out rfl ?_
      | refine blkQ_by rfl ?_)
    refine WpO.cons rfl rfl (call_at rfl (rcount_ok K10.ref (by omega)) hQ (by omega) fun v h7 c7 hc7 hfr7 hq => ?_)
    obtain ⟨rfl, rfl, hq⟩ := hq
    rcases hq with ⟨j4, x4, e4, hx4, _, rfl⟩ | ⟨hno, _⟩
    case inr => exact absurd hx1 (hno j3 x hkj hx)
    have : j4 = j3 := by omega
    subst this
    rw [hx] at hx4; cases hx4
    repeat' (first
      | refine WpC.seq ?_
      | refine WpC.region ?_
      | refine WpC.drawn ?_
      | refine WpC.skip ?_
      | refine WpC.block ?_
      | refine WpC.exit ?_
      | refine WpC.ret ?_
      | refine WpO.nil ?_
      | refine WpO.cons rfl rfl (WpX.pure (fun _ => rfl) ⟨nolog, ?_⟩)
      | refine WpO.skip rfl rfl ?_
      | refine WpL.cons rfl rfl (WpX.pure (fun _ => rfl) ⟨nolog, ?_⟩)
      | refine WpL.skip rfl rfl ?_
      | refine seqQ_normal ?_
      | refine seqQ_ret ?_
      | refine seqQ_exit ?_
      | refine blkQ_normal ?_
      | refine blkQ_ret ?_
      | refine blkQ_out rfl ?_
      | refine blkQ_by rfl ?_)
    simp only [hcnt0]
    repeat' (first
      | refine WpC.seq ?_
      | refine WpC.region ?_
      | refine WpC.drawn ?_
      | refine WpC.skip ?_
      | refine WpC.block ?_
      | refine WpC.exit ?_
      | refine WpC.ret ?_
      | refine WpO.nil ?_
      | refine WpO.cons rfl rfl (WpX.pure (fun _ => rfl) ⟨nolog, ?_⟩)
      | refine WpO.skip rfl rfl ?_
      | refine WpL.cons rfl rfl (WpX.pure (fun _ => rfl) ⟨nolog, ?_⟩)
      | refine WpL.skip rfl rfl ?_
      | refine seqQ_normal ?_
      | refine seqQ_ret ?_
      | refine seqQ_exit ?_
      | refine blkQ_normal ?_
      | refine blkQ_ret ?_
      | refine blkQ_out rfl ?_
      | refine blkQ_by rfl ?_
      | refine WpO.cons rfl rfl (op_load rfl rfl rfl hobjP rfl ⟨(by simp [InL, Acc.name, rowName] <;> omega), ?_⟩)
      | refine WpL.cons rfl rfl (op_load rfl rfl rfl hobjP rfl ⟨(by simp [InL, Acc.name, rowName] <;> omega), ?_⟩)
      | refine WpO.cons rfl rfl (op_indexAddr (k := 1) rfl rfl rfl rfl ⟨by omega, by omega⟩ ⟨(by simp [InL, Acc.name, rowName] <;> omega), ?_⟩)
      | refine WpL.cons rfl rfl (op_indexAddr (k := 1) rfl rfl rfl rfl ⟨by omega, by omega⟩ ⟨(by simp [InL, Acc.name, rowName] <;> omega), ?_⟩)
      | refine WpO.cons rfl rfl (op_load rfl rfl rfl hgp hzp ⟨fun x hx => by simp at hx; subst hx; exact Lp, ?_⟩))
    simp only [bne_self_eq_false]
    repeat' (first
      | refine WpC.seq ?_
      | refine WpC.region ?_
      | refine WpC.drawn ?_
      | refine WpC.skip ?_
      | refine WpC.block ?_
      | refine WpC.exit ?_
      | refine WpC.ret ?_
      | refine WpO.nil ?_
      | refine WpO.cons rfl rfl (WpX.pure (fun _ => rfl) ⟨nolog, ?_⟩)
      | refine WpO.skip rfl rfl ?_
      | refine WpL.cons rfl rfl (WpX.pure (fun _ => rfl) ⟨nolog, ?_⟩)
      | refine WpL.skip rfl rfl ?_
      | refine seqQ_normal ?_
      | refine seqQ_ret ?_
      | refine seqQ_exit ?_
      | refine blkQ_normal ?_
      | refine blkQ_ret ?_
      | refine blkQ_out rfl ?_
      | refine blkQ_by rfl ?_
      | refine WpO.cons rfl rfl (op_load rfl rfl rfl hobjP rfl ⟨(by simp [InL, Acc.name, rowName] <;> omega), ?_⟩)
      | refine WpL.cons rfl rfl (op_load rfl rfl rfl hobjP rfl ⟨(by simp [InL, Acc.name, rowName] <;> omega), ?_⟩)
      | refine WpO.cons rfl rfl (op_indexAddr (k := 1) rfl rfl rfl rfl ⟨by omega, by omega⟩ ⟨(by simp [InL, Acc.name, rowName] <;> omega), ?_⟩)
      | refine WpL.cons rfl rfl (op_indexAddr (k := 1) rfl rfl rfl rfl ⟨by omega, by omega⟩ ⟨(by simp [InL, Acc.name, rowName] <;> omega), ?_⟩)
      | refine WpO.cons rfl rfl (op_load rfl rfl rfl hgz hzz ⟨fun x hx => by simp at hx; subst hx; exact Lz, ?_⟩))
    simp only [bne_self_eq_false]
    repeat' (first
      | refine WpC.seq ?_
      | refine WpC.region ?_
      | refine WpC.drawn ?_
      | refine WpC.skip ?_
      | refine WpC.block ?_
      | refine WpC.exit ?_
      | refine WpC.ret ?_
      | refine WpO.nil ?_
      | refine WpO.cons rfl rfl (WpX.pure (fun _ => rfl) ⟨nolog, ?_⟩)
      | refine WpO.skip rfl rfl ?_
      | refine WpL.cons rfl rfl (WpX.pure (fun _ => rfl) ⟨nolog, ?_⟩)
      | refine WpL.skip rfl rfl ?_
      | refine seqQ_normal ?_
      | refine seqQ_ret ?_
      | refine seqQ_exit ?_
      | refine blkQ_normal ?_
      | refine blkQ_ret ?_
      | refine blkQ_out rfl ?_
      | refine blkQ_by rfl ?_)
    refine WpC.cond rfl (fun hb => by cases hb) (fun _ => ?_)
    repeat' (first
      | refine WpC.seq ?_
      | refine WpC.region ?_
      | refine WpC.drawn ?_
      | refine WpC.skip ?_
      | refine WpC.block ?_
      | refine WpC.exit ?_
      | refine WpC.ret ?_
      | refine WpO.nil ?_
      | refine WpO.cons rfl rfl (WpX.pure (fun _ => rfl) ⟨nolog, ?_⟩)
      | refine WpO.skip rfl rfl ?_
      | refine WpL.cons rfl rfl (WpX.pure (fun _ => rfl) ⟨nolog, ?_⟩)
      | refine WpL.skip rfl rfl ?_
      | refine seqQ_normal ?_
      | refine seqQ_ret ?_
      | refine seqQ_exit ?_
      | refine blkQ_normal ?_
      | refine blkQ_ret ?_
      | refine blkQ_out rfl ?_
      | refine blkQ_by rfl ?_)
    refine ⟨k + 1, by omega, ?_, by omega, rfl, rfl⟩
    rw [hwk]
    exact set5 rfl rfl rfl rfl rfl
  · have hno' : ∀ (j : Nat) (x : R3), (k : Int) = j + 1 → st.rows[j]? = some x → ¬ x.2.2 > 0 := fun j x h1 h2 => by have := hno j x h1 h2; omega
    repeat' (first
      | refine WpC.seq ?_
      | refine WpC.region ?_
      | refine WpC.drawn ?_
      | refine WpC.skip ?_
      | refine WpC.block ?_
      | refine WpC.exit ?_
      | refine WpC.ret ?_
      | refine WpO.nil ?_
      | refine WpO.cons rfl rfl (WpX.pure (fun _ => rfl) ⟨nolog, ?_⟩)
      | refine WpO.skip rfl rfl ?_
      | refine WpL.cons rfl rfl (WpX.pure (fun _ => rfl) ⟨nolog, ?_⟩)
      | refine WpL.skip rfl rfl ?_
      | refine seqQ_normal ?_
      | refine seqQ_ret ?_
      | refine seqQ_exit ?_
      | refine blkQ_normal ?_
      | refine blkQ_ret ?_
      | refine blkQ_out rfl ?_
      | refine blkQ_by rfl ?_)
    refine WpO.cons rfl rfl (call_at rfl (count_ok K10.at_ (by omega)) hPr (by omega) fun v h7 c7 hc7 hfr7 hq => ?_)
    obtain ⟨rfl, rfl, hq⟩ := hq
    have hv : v = I 0 := by
      rcases hq with ⟨j2, x2, e2, hx2, rfl⟩ | ⟨_, rfl⟩
      · rw [hno j2 x2 e2 hx2]
      · rfl
    subst hv
    repeat' (first
      | refine WpC.seq ?_
      | refine WpC.region ?_
      | refine WpC.drawn ?_
      | refine WpC.skip ?_
      | refine WpC.block ?_
      | refine WpC.exit ?_
      | refine WpC.ret ?_
      | refine WpO.nil ?_
      | refine WpO.cons rfl rfl (WpX.pure (fun _ => rfl) ⟨nolog, ?_⟩)
      | refine WpO.skip rfl rfl ?_
      | refine WpL.cons rfl rfl (WpX.pure (fun _ => rfl) ⟨nolog, ?_⟩)
      | refine WpL.skip rfl rfl ?_
      | refine seqQ_normal ?_
      | refine seqQ_ret ?_
      | refine seqQ_exit ?_
      | refine blkQ_normal ?_
      | refine blkQ_ret ?_
      | refine blkQ_out rfl ?_
      | refine blkQ_by rfl ?_)
    refine WpO.cons rfl rfl (call_at rfl (rcount_ok K10.ref (by omega)) hQ (by omega) fun v h7 c7 hc7 hfr7 hq => ?_)
    obtain ⟨rfl, rfl, hq⟩ := hq
    rcases hq with ⟨j3, x3, e3, hx3, h3, _⟩ | ⟨_, rfl⟩
    case inl => exact absurd h3 (hno' j3 x3 e3 hx3)
    repeat' (first
      | refine WpC.seq ?_
      | refine WpC.region ?_
      | refine WpC.drawn ?_
      | refine WpC.skip ?_
      | refine WpC.block ?_
      | refine WpC.exit ?_
      | refine WpC.ret ?_
      | refine WpO.nil ?_
      | refine WpO.cons rfl rfl (WpX.pure (fun _ => rfl) ⟨nolog, ?_⟩)
      | refine WpO.skip rfl rfl ?_
      | refine WpL.cons rfl rfl (WpX.pure (fun _ => rfl) ⟨nolog, ?_⟩)
      | refine WpL.skip rfl rfl ?_
      | refine seqQ_normal ?_
      | refine seqQ_ret ?_
      | refine seqQ_exit ?_
      | refine blkQ_normal ?_
      | refine blkQ_ret ?_
      | refine blkQ_out rfl ?_
      | refine blkQ_by rfl ?_)
    refine WpO.cons rfl rfl (call_at rfl (rcount_ok K10.ref (by omega)) hQ (by omega) fun v h7 c7 hc7 hfr7 hq => ?_)
    obtain ⟨rfl, rfl, hq⟩ := hq
    rcases hq with ⟨j3, x3, e3, hx3, h3, _⟩ | ⟨_, rfl⟩
    case inl => exact absurd h3 (hno' j3 x3 e3 hx3)
    repeat' (first
      | refine WpC.seq ?_
      | refine WpC.region ?_
      | refine WpC.drawn ?_
      | refine WpC.skip ?_
      | refine WpC.block ?_
      | refine WpC.exit ?_
      | refine WpC.ret ?_
      | refine WpO.nil ?_
      | refine WpO.cons rfl rfl (WpX.pure (fun _ => rfl) ⟨nolog, ?_⟩)
      | refine WpO.skip rfl rfl ?_
      | refine WpL.cons rfl rfl (WpX.pure (fun _ => rfl) ⟨nolog, ?_⟩)
      | refine WpL.skip rfl rfl ?_
      | refine seqQ_normal ?_
      | refine seqQ_ret ?_
      | refine seqQ_exit ?_
      | refine blkQ_normal ?_
      | refine blkQ_ret ?_
      | refine blkQ_out rfl ?_
      | refine blkQ_by rfl ?_)
    refine WpC.cond rfl (fun hb => by cases hb) (fun _ => ?_)
    repeat' (first
      | refine WpC.seq ?_
      | refine WpC.region ?_
      | refine WpC.drawn ?_
      | refine WpC.skip ?_
      | refine WpC.block ?_
      | refine WpC.exit ?_
      | refine WpC.ret ?_
      | refine WpO.nil ?_
      | refine WpO.cons rfl rfl (WpX.pure (fun _ => rfl) ⟨nolog, ?_⟩)
      | refine WpO.skip rfl rfl ?_
      | refine WpL.cons rfl rfl (WpX.pure (fun _ => rfl) ⟨nolog, ?_⟩)
      | refine WpL.skip rfl rfl ?_
      | refine seqQ_normal ?_
      | refine seqQ_ret ?_
      | refine seqQ_exit ?_
      | refine blkQ_normal ?_
      | refine blkQ_ret ?_
      | refine blkQ_out rfl ?_
      | refine blkQ_by rfl ?_)
    refine ⟨k + 1, by omega, ?_, by omega, rfl, rfl⟩
    rw [hwk]
    exact set5 rfl rfl rfl rfl rfl
end Go.Proofs.Ytempfmkicpifkaa


set_option linter.unusedVariables false
set_option linter.unusedSectionVars false
set_option linter.unusedSimpArgs false
set_option linter.unnecessarySimpa false
namespace Go.Proofs.Ytempfmkicpifkaa
open Go.Ab Go.ChangeShapes Go.WideShapes
set_option maxRecDepth 10000

theorem deeds_of {h : HH} {c : Nat} {T : Type} (vs : List V) (d : DataW T) (r : AR Try.prog h c 105 vs d) : ∃ a : Deed, vs = deedV a ∧ deedArg h c a := by
  obtain ⟨vss, ds', rfl, _, hr⟩ := r.inv_struct (fs := _) Try.underlying105
  have key : ∀ {z : Int}, (Lit.int .i64 z).wf = true → okZ z := fun {z} h => by
    have e := (Lit.wf_int_iff _ _).1 h
    have h1 : IntKind.min .i64 = -9223372036854775808 := rfl
    have h2 : IntKind.max .i64 = 9223372036854775807 := rfl
    unfold okZ; omega
  cases hr with
  | cons a1 _ hr =>
    cases hr with
    | cons a2 _ hr =>
      cases hr with
      | cons a3 _ hr =>
        cases hr with
        | cons a4 _ hr =>
          cases hr with
          | cons a5 _ hr =>
            cases hr
            obtain ⟨x, rfl, _, hx⟩ := a1.inv_int (k := .i64) Try.underlying3
            obtain ⟨y, rfl, _, hy⟩ := a2.inv_int (k := .i64) Try.underlying3
            obtain ⟨z, rfl, _, hz⟩ := a3.inv_int (k := .i64) Try.underlying3
            obtain ⟨w, rfl, _, hw⟩ := a4.inv_int (k := .i64) Try.underlying3
            obtain ⟨b, rfl, hb⟩ := bytes_of _ _ a5
            exact ⟨((x, y, z, w), b), rfl, key hx, key hy, key hz, key hw, hb⟩
theorem plays_walk {T : Type} {ds : List (DataW T)} : ∀ (h : HH) (c : Nat) (xs : List V), ArgsR Try.prog h c [3, 101] xs ds → Clear h c → WpX (cl 14 xs) h c fun v _ _ _ => v = .bool true := by
  intro h c xs r _
  cases r with
  | @cons _ _ x1 _ _ _ a ha r =>
    cases r with
    | @cons _ _ x2 _ _ _ b hb r =>
      cases r
      obtain ⟨z, hz, _, hzw⟩ := a.inv_int (k := .i64) rfl
      have e1 : x1 = I z := by
        have hd : isAggV x1 = false := ha.trans rfl
        cases x1 <;> first | (cases hd; done) | (simpa [cellsV] using hz)
      subst e1
      obtain ⟨dl, hl, hg⟩ := AR.rows (cells := deedV) (good := fun q => deedArg h c q) (k := 5) (e := 105) Try.underlying101 (hb.trans rfl) deed_len (fun vs d a => deeds_of vs d a) b
      exact WpX.mono (plays_law hl hg) fun v h' c' l q => q.2.2.2
end Go.Proofs.Ytempfmkicpifkaa
