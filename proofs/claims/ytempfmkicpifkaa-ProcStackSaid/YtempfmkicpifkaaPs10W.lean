/- ProcStack: proc.New. -/
import Derived.Test.YtempfmkicpifkaaPs9W
import Derived.Test.YtempfmkicpifkaaAdTS
set_option linter.unusedVariables false
set_option linter.unusedSectionVars false
set_option linter.unusedSimpArgs false
set_option linter.unnecessarySimpa false
namespace Go.Proofs.Ytempfmkicpifkaa.Ps
open Go.Ab
set_option maxRecDepth 10000
theorem new_ok {h : HH} {c s t st : Nat} (hst : 1 ≤ st ∧ st ≤ 256) (hcl : Clear h c) : Does 92 [I 1, .agg [I 400, I 200, I 9, I 6, I st], .ptr (some (s, 0)), .ptr (some (t, 0))] h c [] fun v h' c' => ∃ p R cv, v = .ptr (some (p, 0)) ∧ c ≤ p ∧ (∀ n ∈ rowName cv, c ≤ n) ∧ ProcAt h' c' p R st cv [⟨0, none, []⟩] := by
  refine does_of (enter (fn := Try.f92) Try.func92 rfl rfl (Nat.le_of_ble_eq_true rfl) ?_)
  repeat' (first
    | refine WpC.seq ?_
    | refine WpC.region ?_
    | refine WpC.drawn ?_
    | refine WpC.skip ?_
    | refine WpC.block ?_
    | refine WpC.exit ?_
    | refine WpC.ret ?_
    | refine WpO.nil ?_
    | refine WpO.cons rfl rfl (WpX.pure (fun _ => rfl) ⟨nolog, ?_⟩)
    | refine WpO.skip rfl rfl ?_
    | refine WpL.cons rfl rfl (WpX.pure (fun _ => rfl) ⟨nolog, ?_⟩)
    | refine WpL.skip rfl rfl ?_
    | refine seqQ_normal ?_
    | refine seqQ_ret ?_
    | refine seqQ_exit ?_
    | refine blkQ_normal ?_
    | refine blkQ_ret ?_
    | refine blkQ_out rfl ?_
    | refine blkQ_by rfl ?_
    | refine WpO.cons rfl rfl (op_box rfl ⟨(by simp [InL, Acc.name, rowName] <;> omega), ?_⟩)
    | refine WpL.cons rfl rfl (op_box rfl ⟨(by simp [InL, Acc.name, rowName] <;> omega), ?_⟩))
  refine WpC.cond rfl (fun hb => by cases hb) (fun _ => ?_)
  have hg : MapI.get (MapI.set h c (.cells true true [I 400, I 200, I 9, I 6, I st])) c = some (.cells true true [I 400, I 200, I 9, I 6, I st]) := MapI.get_same _ _ _
  repeat' (first
    | refine WpC.seq ?_
    | refine WpC.region ?_
    | refine WpC.drawn ?_
    | refine WpC.skip ?_
    | refine WpC.block ?_
    | refine WpC.exit ?_
    | refine WpC.ret ?_
    | refine WpO.nil ?_
    | refine WpO.cons rfl rfl (WpX.pure (fun _ => rfl) ⟨nolog, ?_⟩)
    | refine WpO.skip rfl rfl ?_
    | refine WpL.cons rfl rfl (WpX.pure (fun _ => rfl) ⟨nolog, ?_⟩)
    | refine WpL.skip rfl rfl ?_
    | refine seqQ_normal ?_
    | refine seqQ_ret ?_
    | refine seqQ_exit ?_
    | refine blkQ_normal ?_
    | refine blkQ_ret ?_
    | refine blkQ_out rfl ?_
    | refine blkQ_by rfl ?_
    | refine WpO.cons rfl rfl (op_load rfl rfl rfl hg rfl ⟨(by simp [InL, Acc.name, rowName] <;> omega), ?_⟩)
    | refine WpL.cons rfl rfl (op_load rfl rfl rfl hg rfl ⟨(by simp [InL, Acc.name, rowName] <;> omega), ?_⟩))
  refine WpO.cons rfl rfl (call_at rfl (bound_ok (by decide)) (by simp) (by omega) fun v h1 c1 hc1 hfr1 hq => ?_)
  obtain ⟨rfl, e1, e1c⟩ := hq
  subst e1
  subst e1c
  repeat' (first
    | refine WpC.seq ?_
    | refine WpC.region ?_
    | refine WpC.drawn ?_
    | refine WpC.skip ?_
    | refine WpC.block ?_
    | refine WpC.exit ?_
    | refine WpC.ret ?_
    | refine WpO.nil ?_
    | refine WpO.cons rfl rfl (WpX.pure (fun _ => rfl) ⟨nolog, ?_⟩)
    | refine WpO.skip rfl rfl ?_
    | refine WpL.cons rfl rfl (WpX.pure (fun _ => rfl) ⟨nolog, ?_⟩)
    | refine WpL.skip rfl rfl ?_
    | refine seqQ_normal ?_
    | refine seqQ_ret ?_
    | refine seqQ_exit ?_
    | refine blkQ_normal ?_
    | refine blkQ_ret ?_
    | refine blkQ_out rfl ?_
    | refine blkQ_by rfl ?_
    | refine WpO.cons rfl rfl (op_load rfl rfl rfl hg rfl ⟨(by simp [InL, Acc.name, rowName] <;> omega), ?_⟩)
    | refine WpL.cons rfl rfl (op_load rfl rfl rfl hg rfl ⟨(by simp [InL, Acc.name, rowName] <;> omega), ?_⟩))
  have k0 : Clear (MapI.set h c (.cells true true [I 400, I 200, I 9, I 6, I st])) (c + 1) := Clear.new hcl
  refine WpL.cons rfl rfl (call_atT rfl (bound_ok (n := st) (by omega)) k0 (by simp) (by omega) fun v h2 c2 al2 hal2 k2 hc2 hfr2 hq => ?_)
  obtain ⟨rfl, e2, e2c⟩ := hq
  subst e2
  subst e2c
  repeat' (first
    | refine WpC.seq ?_
    | refine WpC.region ?_
    | refine WpC.drawn ?_
    | refine WpC.skip ?_
    | refine WpC.block ?_
    | refine WpC.exit ?_
    | refine WpC.ret ?_
    | refine WpO.nil ?_
    | refine WpO.cons rfl rfl (WpX.pure (fun _ => rfl) ⟨nolog, ?_⟩)
    | refine WpO.skip rfl rfl ?_
    | refine WpL.cons rfl rfl (WpX.pure (fun _ => rfl) ⟨nolog, ?_⟩)
    | refine WpL.skip rfl rfl ?_
    | refine seqQ_normal ?_
    | refine seqQ_ret ?_
    | refine seqQ_exit ?_
    | refine blkQ_normal ?_
    | refine blkQ_ret ?_
    | refine blkQ_out rfl ?_
    | refine blkQ_by rfl ?_
    | refine WpO.cons rfl rfl (op_load rfl rfl rfl hg rfl ⟨(by simp [InL, Acc.name, rowName] <;> omega), ?_⟩)
    | refine WpL.cons rfl rfl (op_load rfl rfl rfl hg rfl ⟨(by simp [InL, Acc.name, rowName] <;> omega), ?_⟩))
  refine WpL.cons rfl rfl (call_atT rfl heap_ok k2 (by simp) (by omega) fun v h3 c3 al3 hal3 k3 hc3 hfr3 hq => ?_)
  obtain ⟨q3, rfl, hq3, hq3'⟩ := hq
  refine WpL.cons rfl rfl (call_atT rfl (nils_ok (n := 16) (by decide)) k3 (by simp) (by omega) fun v4 h4 c4 al4 hal4 k4 hc4 hfr4 hq => ?_)
  obtain ⟨ws, hwl, hl, hnm⟩ := hq
  have hl1 := hl.one
  rcases hl with ⟨_, e⟩ | ⟨s4, cl4, jk4, rfl, l1, l2, l3⟩
  · rw [e] at hwl; simp at hwl
  repeat' (first
    | refine WpC.seq ?_
    | refine WpC.region ?_
    | refine WpC.drawn ?_
    | refine WpC.skip ?_
    | refine WpC.block ?_
    | refine WpC.exit ?_
    | refine WpC.ret ?_
    | refine WpO.nil ?_
    | refine WpO.cons rfl rfl (WpX.pure (fun _ => rfl) ⟨nolog, ?_⟩)
    | refine WpO.skip rfl rfl ?_
    | refine WpL.cons rfl rfl (WpX.pure (fun _ => rfl) ⟨nolog, ?_⟩)
    | refine WpL.skip rfl rfl ?_
    | refine seqQ_normal ?_
    | refine seqQ_ret ?_
    | refine seqQ_exit ?_
    | refine blkQ_normal ?_
    | refine blkQ_ret ?_
    | refine blkQ_out rfl ?_
    | refine blkQ_by rfl ?_
    | refine WpO.cons rfl rfl (op_buildSlice (k := 3) rfl rfl rfl rfl (by decide) rfl ⟨(by simp [InL, Acc.name, rowName] <;> omega), ?_⟩)
    | refine WpL.cons rfl rfl (op_buildSlice (k := 3) rfl rfl rfl rfl (by decide) rfl ⟨(by simp [InL, Acc.name, rowName] <;> omega), ?_⟩))
  refine WpL.cons rfl rfl (call_atT rfl mail_ok (Clear.new k4) (by simp) (by omega) fun v h5 c5 al5 hal5 k5 hc5 hfr5 hq => ?_)
  obtain ⟨q5, rfl, hq5, hq5'⟩ := hq
  refine WpL.cons rfl rfl (call_atT rfl ties_ok k5 (by simp) (by omega) fun v h6 c6 al6 hal6 k6 hc6 hfr6 hq => ?_)
  obtain ⟨q6, rfl, hq6, hq6'⟩ := hq
  refine WpL.cons rfl rfl (call_atT rfl wheel_ok k6 (by simp) (by omega) fun v h7 c7 al7 hal7 k7 hc7 hfr7 hq => ?_)
  obtain ⟨q7, rfl, hq7, hq7'⟩ := hq
  repeat' (first
    | refine WpC.seq ?_
    | refine WpC.region ?_
    | refine WpC.drawn ?_
    | refine WpC.skip ?_
    | refine WpC.block ?_
    | refine WpC.exit ?_
    | refine WpC.ret ?_
    | refine WpO.nil ?_
    | refine WpO.cons rfl rfl (WpX.pure (fun _ => rfl) ⟨nolog, ?_⟩)
    | refine WpO.skip rfl rfl ?_
    | refine WpL.cons rfl rfl (WpX.pure (fun _ => rfl) ⟨nolog, ?_⟩)
    | refine WpL.skip rfl rfl ?_
    | refine seqQ_normal ?_
    | refine seqQ_ret ?_
    | refine seqQ_exit ?_
    | refine blkQ_normal ?_
    | refine blkQ_ret ?_
    | refine blkQ_out rfl ?_
    | refine blkQ_by rfl ?_
    | refine WpO.cons rfl rfl (op_box rfl ⟨(by simp [InL, Acc.name, rowName] <;> omega), ?_⟩)
    | refine WpL.cons rfl rfl (op_box rfl ⟨(by simp [InL, Acc.name, rowName] <;> omega), ?_⟩))
  have a2 : ∀ x ∈ al2, x.name ≠ c := fun x hx e => by
    have hb := (hal2 x hx).2
    rcases (hal2 x hx).1 with h | h
    · cases h
    · omega
  have a2' : ∀ x ∈ al2, c ≠ x.name := fun x hx e => a2 x hx e.symm
  have b2 : ∀ x ∈ al2, x.name ≠ c4 := fun x hx e => by
    have hb := (hal2 x hx).2
    rcases (hal2 x hx).1 with h | h
    · cases h
    · omega
  have b2' : ∀ x ∈ al2, c4 ≠ x.name := fun x hx e => b2 x hx e.symm
  have a3 : ∀ x ∈ al3, x.name ≠ c := fun x hx e => by
    have hb := (hal3 x hx).2
    rcases (hal3 x hx).1 with h | h
    · cases h
    · omega
  have a3' : ∀ x ∈ al3, c ≠ x.name := fun x hx e => a3 x hx e.symm
  have b3 : ∀ x ∈ al3, x.name ≠ c4 := fun x hx e => by
    have hb := (hal3 x hx).2
    rcases (hal3 x hx).1 with h | h
    · cases h
    · omega
  have b3' : ∀ x ∈ al3, c4 ≠ x.name := fun x hx e => b3 x hx e.symm
  have a4 : ∀ x ∈ al4, x.name ≠ c := fun x hx e => by
    have hb := (hal4 x hx).2
    rcases (hal4 x hx).1 with h | h
    · cases h
    · omega
  have a4' : ∀ x ∈ al4, c ≠ x.name := fun x hx e => a4 x hx e.symm
  have b4 : ∀ x ∈ al4, x.name ≠ c4 := fun x hx e => by
    have hb := (hal4 x hx).2
    rcases (hal4 x hx).1 with h | h
    · cases h
    · omega
  have b4' : ∀ x ∈ al4, c4 ≠ x.name := fun x hx e => b4 x hx e.symm
  have a5 : ∀ x ∈ al5, x.name ≠ c := fun x hx e => by
    have hb := (hal5 x hx).2
    rcases (hal5 x hx).1 with h | h
    · cases h
    · omega
  have a5' : ∀ x ∈ al5, c ≠ x.name := fun x hx e => a5 x hx e.symm
  have b5 : ∀ x ∈ al5, x.name ≠ c4 := fun x hx e => by
    have hb := (hal5 x hx).2
    rcases (hal5 x hx).1 with h | h
    · cases h
    · omega
  have b5' : ∀ x ∈ al5, c4 ≠ x.name := fun x hx e => b5 x hx e.symm
  have a6 : ∀ x ∈ al6, x.name ≠ c := fun x hx e => by
    have hb := (hal6 x hx).2
    rcases (hal6 x hx).1 with h | h
    · cases h
    · omega
  have a6' : ∀ x ∈ al6, c ≠ x.name := fun x hx e => a6 x hx e.symm
  have b6 : ∀ x ∈ al6, x.name ≠ c4 := fun x hx e => by
    have hb := (hal6 x hx).2
    rcases (hal6 x hx).1 with h | h
    · cases h
    · omega
  have b6' : ∀ x ∈ al6, c4 ≠ x.name := fun x hx e => b6 x hx e.symm
  have a7 : ∀ x ∈ al7, x.name ≠ c := fun x hx e => by
    have hb := (hal7 x hx).2
    rcases (hal7 x hx).1 with h | h
    · cases h
    · omega
  have a7' : ∀ x ∈ al7, c ≠ x.name := fun x hx e => a7 x hx e.symm
  have b7 : ∀ x ∈ al7, x.name ≠ c4 := fun x hx e => by
    have hb := (hal7 x hx).2
    rcases (hal7 x hx).1 with h | h
    · cases h
    · omega
  have b7' : ∀ x ∈ al7, c4 ≠ x.name := fun x hx e => b7 x hx e.symm
  have hcc : c ≠ c4 := by omega
  have hcc' : c4 ≠ c := by omega
  refine WpL.nil (logsOk_of (cs := [0, 0, 0, 4, 12, 0, 32, 0, 252, 508, 0, 1024, 0, 5116, 13308, 29692, 65535, 131071, 262143]) (by decide +kernel) ?_) ?_
  · simp +contextual [allP, apP, Dis, acc_rd, acc_wr, accw_rd, accw_wr, Nat.testBit, hcc, hcc', a2, a2', b2, b2', a3, a3', b3, b3', a4, a4', b4, b4', a5, a5', b5, b5', a6, a6', b6, b6', a7, a7', b7, b7']
  repeat' (first
    | refine WpC.seq ?_
    | refine WpC.region ?_
    | refine WpC.drawn ?_
    | refine WpC.skip ?_
    | refine WpC.block ?_
    | refine WpC.exit ?_
    | refine WpC.ret ?_
    | refine WpO.nil ?_
    | refine WpO.cons rfl rfl (WpX.pure (fun _ => rfl) ⟨nolog, ?_⟩)
    | refine WpO.skip rfl rfl ?_
    | refine WpL.cons rfl rfl (WpX.pure (fun _ => rfl) ⟨nolog, ?_⟩)
    | refine WpL.skip rfl rfl ?_
    | refine seqQ_normal ?_
    | refine seqQ_ret ?_
    | refine seqQ_exit ?_
    | refine blkQ_normal ?_
    | refine blkQ_ret ?_
    | refine blkQ_out rfl ?_
    | refine blkQ_by rfl ?_)
  have hg4 : ∀ x : AObj, MapI.get (MapI.set h7 c7 x) c4 = some (.cells true true (callC ⟨0, none, []⟩)) := fun x => by
    rw [MapI.get_ne _ _ _ _ (by omega), hfr7 c4 (by omega) (by simp), hfr6 c4 (by omega) (by simp), hfr5 c4 (by omega) (by simp)]
    exact MapI.get_same _ _ _
  have one : ∀ {i : Nat} {a : Cal}, ([⟨0, none, []⟩] : List Cal)[i]? = some a → i = 0 ∧ a = ⟨0, none, []⟩ := fun {i a} h => by
    match i, h with
    | 0, h => simp at h; exact ⟨rfl, h.symm⟩
    | i + 1, h => simp at h
  refine out_ret rfl ⟨c7, ⟨I 1, I 0, I 0, I 0, I 0, .bool false, I 6, q3, .slice (some (s4, 0)) ws.length (.upTo 1), .ptr (some (q5, 0)), .slice none 0 (.known 0), .ptr (some (q6, 0)), .ptr (some (q7, 0))⟩, .slice (some (c4, 0)) 1 (.known 1), rfl, by omega, fun n hn => by simp [rowName] at hn; omega, MapI.get_same _ _ _, ⟨c4, .known 1, true, [], rfl, .inr ⟨rfl, rfl, rfl⟩, by omega, hg4 _, rfl, by simp⟩, fun i a hz => ?_, by omega, fun hm => by simp [rowName] at hm; omega, fun i a hz n hn => ?_, fun i j a b hij ha hb n hn => ?_⟩
  · obtain ⟨_, rfl⟩ := one hz; exact .nil
  · obtain ⟨_, rfl⟩ := one hz; cases hn
  · obtain ⟨_, rfl⟩ := one ha; cases hn
end Go.Proofs.Ytempfmkicpifkaa.Ps
