/- StoreLooks: the row's own function. -/
import Derived.Test.YtempfmkicpifkaaStore9W
import Derived.Test.YtempfmkicpifkaaAd5
import Derived.WideShapes4
set_option linter.unusedVariables false
set_option linter.unusedSectionVars false
set_option linter.unusedSimpArgs false
set_option linter.unnecessarySimpa false
namespace Go.Proofs.Ytempfmkicpifkaa
open Go.Ab
set_option maxRecDepth 10000

section
variable {h : HH} {c : Nat} {e : EE}
variable {call : Nat → Tgt → List V → M HH V} {W : V → HH → Nat → List Acc → Prop} {ds : Option Tmp} {ty : Nat} {pos : String} {af : Array Edge} {gd : Option (Nat × Bool)}
theorem op_indexAddrA {t : Nat} {x y : Operand} {n o len el k : Nat} {ki : IntKind} {i : Int} (hx : ev1 cx e x = some (.ptr (some (n, o)))) (hy : ev1 cx e y = some (.int ki i)) (hd : cx.desc t = some (.array len el))
    (hk : cx.size el = some k) (hb : 0 ≤ i ∧ i < len) (q : W (.ptr (some (n, o + i.toNat * k))) h c []) : WpX (fun k => opM cx (call k) e ⟨ds, .indexAddr t x y, ty, pos, af, gd⟩) h c W :=
  WpX.pure (fun k' => by simp only [opM, hx, hy, lift, bnd, Ab.ret, indexAddrM, hd, if_pos hb, hk, List.nil_append, List.append_nil]) q
theorem op_convInt {s d : Nat} {x : Operand} {k k' : IntKind} {n : Int} {v : V} (hx : ev1 cx e x = some (.int k n)) (hs : cx.desc s = some (.int k)) (hd : cx.desc d = some (.int k')) (hv : V.int k' (k'.wrap n) = v) (q : W v h c []) :
    WpX (fun k => opM cx (call k) e ⟨ds, .convert s d x, ty, pos, af, gd⟩) h c W :=
  WpX.pure (fun k'' => by subst hv; simp only [opM, hx, lift, bnd, Ab.ret, convertM, hs, hd, List.nil_append, List.append_nil]) q
end
theorem rowArg_keep {h h' : HH} {c c' : Nat} {v : V} {k len : Nat} {cs : List V} (r : RowArg h c v k len cs) (hc : c ≤ c') (e : ∀ n, n < c → MapI.get h' n = MapI.get h n) : RowArg h' c' v k len cs := by
  refine ⟨?_, r.size⟩
  rcases r.is with h1 | ⟨s, cap, h1, h2, h3, h4, h5⟩
  · exact .inl h1
  · exact .inr ⟨s, cap, h1, by omega, h3, h4, fun h0 => by rw [e s h2]; exact h5 h0⟩

theorem looks_law {h : HH} {c : Nat} {l : V} {ys : List Int} {z a b : Int} (hl : RowArg h c l 1 ys.length (ys.map (.int .u8))) (hys : ∀ z ∈ ys, 0 ≤ z ∧ z < 256) (hz : 0 ≤ z ∧ z < 256)
    (h64 : -9223372036854775808 ≤ a ∧ a ≤ 9223372036854775807 ∧ -9223372036854775808 ≤ b ∧ b ≤ 9223372036854775807) :
    Does 10 [l, .int .u8 z, .agg [I a, I b]] h c (rowName l) fun v h' c' => v = .bool true := by
  obtain ⟨z, rfl⟩ : ∃ k : Nat, z = k := ⟨z.toNat, by omega⟩
  refine does_of (enter (fn := Try.f10) Try.func10 rfl rfl (Nat.le_of_ble_eq_true rfl) ?_)
  have hw : V.int .i64 (IntKind.i64.wrap (z : Int)) = I ((z : Nat) : Int) := by rw [Go.IntWalk.i64_in _ (by omega)]
  have hrem : ((z : Nat) : Int).tmod 50 = ((z % 50 : Nat) : Int) := by
    rw [Int.tmod_eq_emod_of_nonneg (by omega)]; omega
  repeat' (first
    | refine WpC.seq ?_
    | refine WpC.region ?_
    | refine WpC.drawn ?_
    | refine WpC.skip ?_
    | refine WpC.block ?_
    | refine WpC.exit ?_
    | refine WpC.ret ?_
    | refine WpO.nil ?_
    | refine WpO.cons rfl rfl (WpX.pure (fun _ => rfl) ⟨nolog, ?_⟩)
    | refine WpO.skip rfl rfl ?_
    | refine WpL.cons rfl rfl (WpX.pure (fun _ => rfl) ⟨nolog, ?_⟩)
    | refine WpL.skip rfl rfl ?_
    | refine seqQ_normal ?_
    | refine seqQ_ret ?_
    | refine seqQ_exit ?_
    | refine blkQ_normal ?_
    | refine blkQ_ret ?_
    | refine blkQ_out rfl ?_
    | refine blkQ_by rfl ?_
    | refine WpO.cons rfl rfl (op_box rfl ⟨(by simp [InL, Acc.name, rowName] <;> omega), ?_⟩)
    | refine WpL.cons rfl rfl (op_box rfl ⟨(by simp [InL, Acc.name, rowName] <;> omega), ?_⟩))
  refine WpO.cons rfl rfl (call_at rfl sawake_ok (by simp) (by omega) fun v h1 c1 hc1 hfr1 hq => ?_)
  subst hq
  have hg : MapI.get h1 c = some (.cells true true [I a, I b]) := by
    rw [hfr1 c (by omega) (by simp)]; exact MapI.get_same _ _ _
  repeat' (first
    | refine WpC.seq ?_
    | refine WpC.region ?_
    | refine WpC.drawn ?_
    | refine WpC.skip ?_
    | refine WpC.block ?_
    | refine WpC.exit ?_
    | refine WpC.ret ?_
    | refine WpO.nil ?_
    | refine WpO.cons rfl rfl (WpX.pure (fun _ => rfl) ⟨nolog, ?_⟩)
    | refine WpO.skip rfl rfl ?_
    | refine WpL.cons rfl rfl (WpX.pure (fun _ => rfl) ⟨nolog, ?_⟩)
    | refine WpL.skip rfl rfl ?_
    | refine seqQ_normal ?_
    | refine seqQ_ret ?_
    | refine seqQ_exit ?_
    | refine blkQ_normal ?_
    | refine blkQ_ret ?_
    | refine blkQ_out rfl ?_
    | refine blkQ_by rfl ?_)
  refine WpC.cond rfl (fun hb => by cases hb) (fun _ => ?_)
  repeat' (first
    | refine WpC.seq ?_
    | refine WpC.region ?_
    | refine WpC.drawn ?_
    | refine WpC.skip ?_
    | refine WpC.block ?_
    | refine WpC.exit ?_
    | refine WpC.ret ?_
    | refine WpO.nil ?_
    | refine WpO.cons rfl rfl (WpX.pure (fun _ => rfl) ⟨nolog, ?_⟩)
    | refine WpO.skip rfl rfl ?_
    | refine WpL.cons rfl rfl (WpX.pure (fun _ => rfl) ⟨nolog, ?_⟩)
    | refine WpL.skip rfl rfl ?_
    | refine seqQ_normal ?_
    | refine seqQ_ret ?_
    | refine seqQ_exit ?_
    | refine blkQ_normal ?_
    | refine blkQ_ret ?_
    | refine blkQ_out rfl ?_
    | refine blkQ_by rfl ?_
    | refine WpO.cons rfl rfl (op_indexAddrA (k := 1) rfl rfl rfl rfl ⟨by decide, by decide⟩ ⟨(by simp [InL, Acc.name, rowName] <;> omega), ?_⟩)
    | refine WpL.cons rfl rfl (op_indexAddrA (k := 1) rfl rfl rfl rfl ⟨by decide, by decide⟩ ⟨(by simp [InL, Acc.name, rowName] <;> omega), ?_⟩)
    | refine WpO.cons rfl rfl (op_load rfl rfl rfl hg rfl ⟨(by simp [InL, Acc.name, rowName] <;> omega), ?_⟩)
    | refine WpL.cons rfl rfl (op_load rfl rfl rfl hg rfl ⟨(by simp [InL, Acc.name, rowName] <;> omega), ?_⟩))
  have hl1 : RowArg h1 c1 l 1 ys.length (ys.map (.int .u8)) := rowArg_keep hl (by omega) fun n hn => by
    rw [hfr1 n (by omega) (by simp), MapI.get_ne _ _ _ _ (by omega)]
  have hd : Does 61 [l, V.int .i64 ((IntKind.i64.wrap ((z : Nat) : Int)).tmod 50), I a, I b] h1 c1 (rowName l) fun v h' c' => v = .bool true := by
    have e : V.int .i64 ((IntKind.i64.wrap ((z : Nat) : Int)).tmod 50) = I ((z % 50 : Nat) : Int) := by rw [Go.IntWalk.i64_in _ (by omega), hrem]
    rw [e]
    exact looks_ok hl1 hys (Nat.mod_lt _ (by omega)) h64
  refine WpO.cons rfl rfl (call_at rfl hd (fun n hn => .inl hn) (by omega) fun v h2 c2 hc2 hfr2 hq => ?_)
  subst hq
  repeat' (first
    | refine WpC.seq ?_
    | refine WpC.region ?_
    | refine WpC.drawn ?_
    | refine WpC.skip ?_
    | refine WpC.block ?_
    | refine WpC.exit ?_
    | refine WpC.ret ?_
    | refine WpO.nil ?_
    | refine WpO.cons rfl rfl (WpX.pure (fun _ => rfl) ⟨nolog, ?_⟩)
    | refine WpO.skip rfl rfl ?_
    | refine WpL.cons rfl rfl (WpX.pure (fun _ => rfl) ⟨nolog, ?_⟩)
    | refine WpL.skip rfl rfl ?_
    | refine seqQ_normal ?_
    | refine seqQ_ret ?_
    | refine seqQ_exit ?_
    | refine blkQ_normal ?_
    | refine blkQ_ret ?_
    | refine blkQ_out rfl ?_
    | refine blkQ_by rfl ?_)
  exact out_ret rfl rfl
theorem u8_of {z : Int} (h : (Lit.int .u8 z).wf = true) : 0 ≤ z ∧ z < 256 := by
  have e := (Lit.wf_int_iff _ _).1 h
  have h1 : IntKind.min .u8 = 0 := rfl
  have h2 : IntKind.max .u8 = 255 := rfl
  omega
theorem i64_of {z : Int} (h : (Lit.int .i64 z).wf = true) : -9223372036854775808 ≤ z ∧ z ≤ 9223372036854775807 := by
  have e := (Lit.wf_int_iff _ _).1 h
  have h1 : IntKind.min .i64 = -9223372036854775808 := rfl
  have h2 : IntKind.max .i64 = 9223372036854775807 := rfl
  omega
theorem looks_walk {T : Type} {ds : List (DataW T)} : ∀ (h : HH) (c : Nat) (xs : List V), ArgsR Try.prog h c [22, 5, 89] xs ds → WpX (cl 10 xs) h c fun v _ _ _ => v = .bool true := by
  intro h c xs r
  cases r with
  | @cons _ _ x1 _ _ _ a ha r =>
    cases r with
    | @cons _ _ x2 _ _ _ b hb r =>
      cases r with
      | @cons _ _ x3 _ _ _ d hd r =>
        cases r
        obtain ⟨ys, hl, hys⟩ := a.ints (e := 5) (k := .u8) rfl rfl (ha.trans rfl)
        obtain ⟨z, hz, _, hzw⟩ := b.inv_int (k := .u8) rfl
        obtain ⟨vss, ds', hv, _, hlen, hr⟩ := d.inv_array (n := 2) (e := 3) rfl
        obtain ⟨ks, h1, h2, h3⟩ := hr.each (cells := fun z => [I z]) (good := fun z => (Lit.int .i64 z).wf = true) (fun vs d a => by obtain ⟨n, e1, _, e2⟩ := a.inv_int (k := .i64) rfl; exact ⟨n, e1, e2⟩)
        have e1 : x2 = .int .u8 z := by
          have hb : isAggV x2 = false := hb.trans rfl
          cases x2 <;> first | (cases hb; done) | (simpa [cellsV] using hz)
        have e2 : x3 = .agg (ks.map I) := by
          have hd : isAggV x3 = true := hd.trans rfl
          cases x3 <;> first | (cases hd; done) | (rw [h1, flat_one] at hv; exact congrArg V.agg hv)
        subst e1
        subst e2
        rw [hlen] at h2
        match ks, h2, h3 with
        | [p, q], _, h3 =>
          have hp := i64_of (h3 p (by simp))
          have hq := i64_of (h3 q (by simp))
          exact WpX.mono (looks_law hl (fun z hz => u8_of (hys z hz)) (u8_of hzw) ⟨hp.1, hp.2, hq.1, hq.2⟩) fun v h' c' l q => q.2.2.2
end Go.Proofs.Ytempfmkicpifkaa
