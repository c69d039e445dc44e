/- ProcStack: Fresh. -/
import Derived.Test.YtempfmkicpifkaaPs10W
import Derived.Test.YtempfmkicpifkaaStoreW
set_option linter.unusedVariables false
set_option linter.unusedSectionVars false
set_option linter.unusedSimpArgs false
set_option linter.unnecessarySimpa false
namespace Go.Proofs.Ytempfmkicpifkaa.Ps
open Go.Ab
set_option maxRecDepth 10000
theorem fresh_ok {h : HH} {c st : Nat} (hst : 1 ≤ st ∧ st ≤ 256) (hcl : Clear h c) : Does 17 [I 1, .agg [I 400, I 200, I 9, I 6, I st]] h c [] fun v h' c' => ∃ p R cv v1 v2, v = .tuple [.ptr (some (p, 0)), v1, v2] ∧ c ≤ p ∧ (∀ n ∈ rowName cv, c ≤ n) ∧ ProcAt h' c' p R st cv [⟨0, none, []⟩] := by
  refine does_of (enter (fn := Try.f17) Try.func17 rfl rfl (Nat.le_of_ble_eq_true rfl) ?_)
  have hg : MapI.get (MapI.set h c (.cells true true [I 400, I 200, I 9, I 6, I st])) c = some (.cells true true [I 400, I 200, I 9, I 6, I st]) := MapI.get_same _ _ _
  have k0 : Clear (MapI.set h c (.cells true true [I 400, I 200, I 9, I 6, I st])) (c + 1) := Clear.new hcl
  repeat' (first
    | refine WpC.seq ?_
    | refine WpC.region ?_
    | refine WpC.drawn ?_
    | refine WpC.skip ?_
    | refine WpC.block ?_
    | refine WpC.exit ?_
    | refine WpC.ret ?_
    | refine WpO.nil ?_
    | refine WpO.cons rfl rfl (WpX.pure (fun _ => rfl) ⟨nolog, ?_⟩)
    | refine WpO.skip rfl rfl ?_
    | refine WpL.cons rfl rfl (WpX.pure (fun _ => rfl) ⟨nolog, ?_⟩)
    | refine WpL.skip rfl rfl ?_
    | refine seqQ_normal ?_
    | refine seqQ_ret ?_
    | refine seqQ_exit ?_
    | refine blkQ_normal ?_
    | refine blkQ_ret ?_
    | refine blkQ_out rfl ?_
    | refine blkQ_by rfl ?_
    | refine WpO.cons rfl rfl (op_box rfl ⟨(by simp [InL, Acc.name, rowName] <;> omega), ?_⟩)
    | refine WpL.cons rfl rfl (op_box rfl ⟨(by simp [InL, Acc.name, rowName] <;> omega), ?_⟩))
  refine WpL.cons rfl rfl (call_atT rfl atoms_ok k0 (by simp) (by omega) fun v h2 c2 al2 hal2 k2 hc2 hfr2 hq => ?_)
  obtain ⟨q2, rfl, hq2, hq2'⟩ := hq
  have hg2 := (hfr2 c (by omega) (by simp)).trans hg
  repeat' (first
    | refine WpC.seq ?_
    | refine WpC.region ?_
    | refine WpC.drawn ?_
    | refine WpC.skip ?_
    | refine WpC.block ?_
    | refine WpC.exit ?_
    | refine WpC.ret ?_
    | refine WpO.nil ?_
    | refine WpO.cons rfl rfl (WpX.pure (fun _ => rfl) ⟨nolog, ?_⟩)
    | refine WpO.skip rfl rfl ?_
    | refine WpL.cons rfl rfl (WpX.pure (fun _ => rfl) ⟨nolog, ?_⟩)
    | refine WpL.skip rfl rfl ?_
    | refine seqQ_normal ?_
    | refine seqQ_ret ?_
    | refine seqQ_exit ?_
    | refine blkQ_normal ?_
    | refine blkQ_ret ?_
    | refine blkQ_out rfl ?_
    | refine blkQ_by rfl ?_
    | refine WpO.cons rfl rfl (op_load rfl rfl rfl hg2 rfl ⟨(by simp [InL, Acc.name, rowName] <;> omega), ?_⟩)
    | refine WpL.cons rfl rfl (op_load rfl rfl rfl hg2 rfl ⟨(by simp [InL, Acc.name, rowName] <;> omega), ?_⟩))
  refine WpL.cons rfl rfl (call_atT rfl (snew_ok (most := 200) (by decide) (by decide)) k2 (by simp) (by omega) fun v h3 c3 al3 hal3 k3 hc3 hfr3 hq => ?_)
  obtain ⟨rfl, hq3, _⟩ := hq
  have hg3 := (hfr3 c (by omega) (by simp)).trans hg2
  have a2 : ∀ x ∈ al2, x.name ≠ c := fun x hx e => by
    rcases (hal2 x hx).1 with h | h
    · cases h
    · omega
  have a2' : ∀ x ∈ al2, c ≠ x.name := fun x hx e => a2 x hx e.symm
  have a3 : ∀ x ∈ al3, x.name ≠ c := fun x hx e => by
    rcases (hal3 x hx).1 with h | h
    · cases h
    · omega
  have a3' : ∀ x ∈ al3, c ≠ x.name := fun x hx e => a3 x hx e.symm
  repeat' (first
    | refine WpC.seq ?_
    | refine WpC.region ?_
    | refine WpC.drawn ?_
    | refine WpC.skip ?_
    | refine WpC.block ?_
    | refine WpC.exit ?_
    | refine WpC.ret ?_
    | refine WpO.nil ?_
    | refine WpO.cons rfl rfl (WpX.pure (fun _ => rfl) ⟨nolog, ?_⟩)
    | refine WpO.skip rfl rfl ?_
    | refine WpL.cons rfl rfl (WpX.pure (fun _ => rfl) ⟨nolog, ?_⟩)
    | refine WpL.skip rfl rfl ?_
    | refine seqQ_normal ?_
    | refine seqQ_ret ?_
    | refine seqQ_exit ?_
    | refine blkQ_normal ?_
    | refine blkQ_ret ?_
    | refine blkQ_out rfl ?_
    | refine blkQ_by rfl ?_)
  refine WpL.nil (logsOk_of (cs := [0, 0, 2, 7, 15, 31]) (by decide +kernel) ?_) ?_
  · simp +contextual [allP, apP, Dis, acc_rd, acc_wr, accw_rd, accw_wr, Nat.testBit, a2, a2', a3, a3']
  have hc2' : cut [I 400, I 200, I 9, I 6, I st] 0 5 = some [I 400, I 200, I 9, I 6, I st] := rfl
  repeat' (first
    | refine WpC.seq ?_
    | refine WpC.region ?_
    | refine WpC.drawn ?_
    | refine WpC.skip ?_
    | refine WpC.block ?_
    | refine WpC.exit ?_
    | refine WpC.ret ?_
    | refine WpO.nil ?_
    | refine WpO.cons rfl rfl (WpX.pure (fun _ => rfl) ⟨nolog, ?_⟩)
    | refine WpO.skip rfl rfl ?_
    | refine WpL.cons rfl rfl (WpX.pure (fun _ => rfl) ⟨nolog, ?_⟩)
    | refine WpL.skip rfl rfl ?_
    | refine seqQ_normal ?_
    | refine seqQ_ret ?_
    | refine seqQ_exit ?_
    | refine blkQ_normal ?_
    | refine blkQ_ret ?_
    | refine blkQ_out rfl ?_
    | refine blkQ_by rfl ?_
    | refine WpO.cons rfl rfl (op_loadA rfl rfl rfl rfl hg3 hc2' ⟨(by simp [InL, Acc.name, rowName] <;> omega), ?_⟩)
    | refine WpL.cons rfl rfl (op_loadA rfl rfl rfl rfl hg3 hc2' ⟨(by simp [InL, Acc.name, rowName] <;> omega), ?_⟩))
  refine WpO.cons rfl rfl (call_at rfl (new_ok hst k3) (by simp) (by omega) fun v h4 c4 hc4 hfr4 hq => ?_)
  obtain ⟨p, R, cv, rfl, hp, hnm, r⟩ := hq
  repeat' (first
    | refine WpC.seq ?_
    | refine WpC.region ?_
    | refine WpC.drawn ?_
    | refine WpC.skip ?_
    | refine WpC.block ?_
    | refine WpC.exit ?_
    | refine WpC.ret ?_
    | refine WpO.nil ?_
    | refine WpO.cons rfl rfl (WpX.pure (fun _ => rfl) ⟨nolog, ?_⟩)
    | refine WpO.skip rfl rfl ?_
    | refine WpL.cons rfl rfl (WpX.pure (fun _ => rfl) ⟨nolog, ?_⟩)
    | refine WpL.skip rfl rfl ?_
    | refine seqQ_normal ?_
    | refine seqQ_ret ?_
    | refine seqQ_exit ?_
    | refine blkQ_normal ?_
    | refine blkQ_ret ?_
    | refine blkQ_out rfl ?_
    | refine blkQ_by rfl ?_)
  exact out_ret rfl ⟨p, R, cv, _, _, rfl, by omega, fun n hn => Nat.le_trans (by omega) (hnm n hn), r⟩
end Go.Proofs.Ytempfmkicpifkaa.Ps
