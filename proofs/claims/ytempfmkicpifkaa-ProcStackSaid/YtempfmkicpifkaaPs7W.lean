/- ProcStack: Frame. -/
import Derived.Test.YtempfmkicpifkaaPs6W
set_option linter.unusedVariables false
set_option linter.unusedSectionVars false
set_option linter.unusedSimpArgs false
set_option linter.unnecessarySimpa false
namespace Go.Proofs.Ytempfmkicpifkaa.Ps
open Go.Ab
set_option maxRecDepth 10000
variable {h : HH} {c p : Nat} {R : PRest} {stack : Int} {cv : V} {cs : List Cal}
theorem frame_ok {a : Cal} {n : Nat} (r : ProcAt h c p R stack cv cs) (hlen : cs.length ≤ 900) (hd : ∀ i, depth (cs.take i) ≤ 100000) (hw : ∀ (i : Nat) (a : Cal), cs[i]? = some a → a.ws.length ≤ 100000) (hz : cs[cs.length - 1]? = some a) (hn : 1 ≤ n ∧ n ≤ 16) :
    Does 19 [.ptr (some (p, 0)), I n] h c (p :: rowName cv) fun v h' c' => ((a.ws ≠ [] ∨ stack < (depth cs : Int) + n) ∧ v = .bool false ∧ ∀ x, x < c → MapI.get h' x = MapI.get h x) ∨
      (a.ws = [] ∧ (depth cs : Int) + n ≤ stack ∧ v = .bool true ∧ ∃ (s2 : Nat) (ws : List Int), ws.length = n ∧ c ≤ s2 ∧ ProcAt h' c' p R stack cv (cs.set (cs.length - 1) ⟨a.back, some s2, ws⟩)) := by
  have hlp := r.lp
  have hdl := hd cs.length
  rw [List.take_length] at hdl
  refine does_of (enter (fn := Try.f19) Try.func19 rfl rfl (Nat.le_of_ble_eq_true rfl) ?_)
  repeat' (first
    | refine WpC.seq ?_
    | refine WpC.region ?_
    | refine WpC.drawn ?_
    | refine WpC.skip ?_
    | refine WpC.block ?_
    | refine WpC.exit ?_
    | refine WpC.ret ?_
    | refine WpO.nil ?_
    | refine WpO.cons rfl rfl (WpX.pure (fun _ => rfl) ⟨nolog, ?_⟩)
    | refine WpO.skip rfl rfl ?_
    | refine WpL.cons rfl rfl (WpX.pure (fun _ => rfl) ⟨nolog, ?_⟩)
    | refine WpL.skip rfl rfl ?_
    | refine seqQ_normal ?_
    | refine seqQ_ret ?_
    | refine seqQ_exit ?_
    | refine blkQ_normal ?_
    | refine blkQ_ret ?_
    | refine blkQ_out rfl ?_
    | refine blkQ_by rfl ?_)
  refine WpO.cons rfl rfl (call_at rfl (last_ok r (by omega)) (fun n hn => .inl (by simp at hn; simp [hn])) (Nat.le_refl _) fun v h4 c4 hc4 hfr4 hq => ?_)
  obtain ⟨⟨s, cap, hcv, rfl⟩, rfl, rfl⟩ := hq
  have hcall := r.calls
  obtain ⟨s', cap', cl, junk, hcv', hcap, hs, hg, hj, h0⟩ := hcall
  rw [hcv] at hcv'
  cases hcv'
  obtain ⟨fs, fc, hfv⟩ : ∃ fs fc, a.fr = .slice fs a.ws.length fc := by
    obtain ⟨fs, fc, e, _⟩ := (r.frames _ a hz).shape
    exact ⟨fs, fc, e⟩
  have hn1 : nth (flat callC cs ++ junk) ((cs.length - 1) * 3 + 1) = some (.slice fs a.ws.length fc) := by
    rw [← hfv]; exact (nth_flat call_len hz (by omega) junk).trans rfl
  subst hcv
  have e1 : decide (((n : Nat) : Int) < 1) = false := by simp; omega
  have e2 : decide (((n : Nat) : Int) > 16) = false := by simp; omega
  repeat' (first
    | refine WpC.seq ?_
    | refine WpC.region ?_
    | refine WpC.drawn ?_
    | refine WpC.skip ?_
    | refine WpC.block ?_
    | refine WpC.exit ?_
    | refine WpC.ret ?_
    | refine WpO.nil ?_
    | refine WpO.cons rfl rfl (WpX.pure (fun _ => rfl) ⟨nolog, ?_⟩)
    | refine WpO.skip rfl rfl ?_
    | refine WpL.cons rfl rfl (WpX.pure (fun _ => rfl) ⟨nolog, ?_⟩)
    | refine WpL.skip rfl rfl ?_
    | refine seqQ_normal ?_
    | refine seqQ_ret ?_
    | refine seqQ_exit ?_
    | refine blkQ_normal ?_
    | refine blkQ_ret ?_
    | refine blkQ_out rfl ?_
    | refine blkQ_by rfl ?_)
  refine WpL.cons rfl rfl (call_atRL rfl (livesR r) (fun n hn => .inl (by simp at hn; simp [hn])) (Nat.le_refl _) fun v h4' c4' al1 hal1 hc4' hfr4' hq => ?_)
  obtain ⟨rfl, e4, e4c⟩ := hq
  have e4 := e4.symm
  subst e4
  have e4c := e4c.symm
  subst e4c
  repeat' (first
    | refine WpC.seq ?_
    | refine WpC.region ?_
    | refine WpC.drawn ?_
    | refine WpC.skip ?_
    | refine WpC.block ?_
    | refine WpC.exit ?_
    | refine WpC.ret ?_
    | refine WpO.nil ?_
    | refine WpO.cons rfl rfl (WpX.pure (fun _ => rfl) ⟨nolog, ?_⟩)
    | refine WpO.skip rfl rfl ?_
    | refine WpL.cons rfl rfl (WpX.pure (fun _ => rfl) ⟨nolog, ?_⟩)
    | refine WpL.skip rfl rfl ?_
    | refine seqQ_normal ?_
    | refine seqQ_ret ?_
    | refine seqQ_exit ?_
    | refine blkQ_normal ?_
    | refine blkQ_ret ?_
    | refine blkQ_out rfl ?_
    | refine blkQ_by rfl ?_)
  simp only [e1]
  repeat' (first
    | refine WpC.seq ?_
    | refine WpC.region ?_
    | refine WpC.drawn ?_
    | refine WpC.skip ?_
    | refine WpC.block ?_
    | refine WpC.exit ?_
    | refine WpC.ret ?_
    | refine WpO.nil ?_
    | refine WpO.cons rfl rfl (WpX.pure (fun _ => rfl) ⟨nolog, ?_⟩)
    | refine WpO.skip rfl rfl ?_
    | refine WpL.cons rfl rfl (WpX.pure (fun _ => rfl) ⟨nolog, ?_⟩)
    | refine WpL.skip rfl rfl ?_
    | refine seqQ_normal ?_
    | refine seqQ_ret ?_
    | refine seqQ_exit ?_
    | refine blkQ_normal ?_
    | refine blkQ_ret ?_
    | refine blkQ_out rfl ?_
    | refine blkQ_by rfl ?_)
  simp only [e2]
  repeat' (first
    | refine WpC.seq ?_
    | refine WpC.region ?_
    | refine WpC.drawn ?_
    | refine WpC.skip ?_
    | refine WpC.block ?_
    | refine WpC.exit ?_
    | refine WpC.ret ?_
    | refine WpO.nil ?_
    | refine WpO.cons rfl rfl (WpX.pure (fun _ => rfl) ⟨nolog, ?_⟩)
    | refine WpO.skip rfl rfl ?_
    | refine WpL.cons rfl rfl (WpX.pure (fun _ => rfl) ⟨nolog, ?_⟩)
    | refine WpL.skip rfl rfl ?_
    | refine seqQ_normal ?_
    | refine seqQ_ret ?_
    | refine seqQ_exit ?_
    | refine blkQ_normal ?_
    | refine blkQ_ret ?_
    | refine blkQ_out rfl ?_
    | refine blkQ_by rfl ?_
    | refine WpO.cons rfl rfl (op_load rfl rfl rfl hg hn1 ⟨(by simp [InL, Acc.name, rowName] <;> omega), ?_⟩)
    | refine WpL.cons rfl rfl (op_load rfl rfl rfl hg hn1 ⟨(by simp [InL, Acc.name, rowName] <;> omega), ?_⟩)
    | refine WpO.cons rfl rfl (op_len rfl rfl rfl ⟨(by simp [InL, Acc.name, rowName] <;> omega), ?_⟩)
    | refine WpL.cons rfl rfl (op_len rfl rfl rfl ⟨(by simp [InL, Acc.name, rowName] <;> omega), ?_⟩))
  by_cases g : a.ws = []
  · have e3 : decide (((a.ws.length : Nat) : Int) > 0) = false := by simp [g]
    simp only [e3]
    repeat' (first
      | refine WpC.seq ?_
      | refine WpC.region ?_
      | refine WpC.drawn ?_
      | refine WpC.skip ?_
      | refine WpC.block ?_
      | refine WpC.exit ?_
      | refine WpC.ret ?_
      | refine WpO.nil ?_
      | refine WpO.cons rfl rfl (WpX.pure (fun _ => rfl) ⟨nolog, ?_⟩)
      | refine WpO.skip rfl rfl ?_
      | refine WpL.cons rfl rfl (WpX.pure (fun _ => rfl) ⟨nolog, ?_⟩)
      | refine WpL.skip rfl rfl ?_
      | refine seqQ_normal ?_
      | refine seqQ_ret ?_
      | refine seqQ_exit ?_
      | refine blkQ_normal ?_
      | refine blkQ_ret ?_
      | refine blkQ_out rfl ?_
      | refine blkQ_by rfl ?_)
    refine WpL.cons rfl rfl (call_atRL rfl (depthR r (by omega) hd hw) (fun n hn => .inl hn) (Nat.le_refl _) fun v h5 c5 al2 hal2 hc5 hfr5 hq => ?_)
    obtain ⟨rfl, _⟩ := hq
    have r5 := r.keep hc5 hfr5
    have hobj := r5.obj
    have hD : ∀ x ∈ al2, x.name = p → x.writes = false := fun x hx e => by
      cases hw : x.writes with
      | false => rfl
      | true => have := (hal2 x hx).2 hw; omega
    have hwr : IntKind.i64.wrap (((depth cs : Nat) : Int) + (n : Int)) = (depth cs : Int) + n := Go.IntWalk.i64_in _ (by omega)
    repeat' (first
      | refine WpC.seq ?_
      | refine WpC.region ?_
      | refine WpC.drawn ?_
      | refine WpC.skip ?_
      | refine WpC.block ?_
      | refine WpC.exit ?_
      | refine WpC.ret ?_
      | refine WpO.nil ?_
      | refine WpO.cons rfl rfl (WpX.pure (fun _ => rfl) ⟨nolog, ?_⟩)
      | refine WpO.skip rfl rfl ?_
      | refine WpL.cons rfl rfl (WpX.pure (fun _ => rfl) ⟨nolog, ?_⟩)
      | refine WpL.skip rfl rfl ?_
      | refine seqQ_normal ?_
      | refine seqQ_ret ?_
      | refine seqQ_exit ?_
      | refine blkQ_normal ?_
      | refine blkQ_ret ?_
      | refine blkQ_out rfl ?_
      | refine blkQ_by rfl ?_
      | refine WpO.cons rfl rfl (op_load rfl rfl rfl hobj rfl ⟨(by simp [InL, Acc.name, rowName] <;> omega), ?_⟩)
      | refine WpL.cons rfl rfl (op_load rfl rfl rfl hobj rfl ⟨(by simp [InL, Acc.name, rowName] <;> omega), ?_⟩))
    refine WpL.nil (logsOk_of (cs := [0, 1, 3, 7, 15, 31, 63, 127, 255, 511, 1023, 2047, 4095, 8191, 16383, 32767, 65535, 131071, 262143, 524287, 1048575, 2097151, 1048575, 8388607, 1048575, 17825791, 51380223, 118489087, 268435455, 536870911]) (by decide +kernel) ?_) ?_
    · simp +contextual [allP, apP, Dis, acc_rd, acc_wr, accw_rd, accw_wr, Nat.testBit, hD]
    refine WpC.cond rfl (fun hb => ?_) (fun hb => ?_)
    · have hb : stack < (depth cs : Int) + n := by rw [hwr] at hb; simpa using hb
      repeat' (first
        | refine WpC.seq ?_
        | refine WpC.region ?_
        | refine WpC.drawn ?_
        | refine WpC.skip ?_
        | refine WpC.block ?_
        | refine WpC.exit ?_
        | refine WpC.ret ?_
        | refine WpO.nil ?_
        | refine WpO.cons rfl rfl (WpX.pure (fun _ => rfl) ⟨nolog, ?_⟩)
        | refine WpO.skip rfl rfl ?_
        | refine WpL.cons rfl rfl (WpX.pure (fun _ => rfl) ⟨nolog, ?_⟩)
        | refine WpL.skip rfl rfl ?_
        | refine seqQ_normal ?_
        | refine seqQ_ret ?_
        | refine seqQ_exit ?_
        | refine blkQ_normal ?_
        | refine blkQ_ret ?_
        | refine blkQ_out rfl ?_
        | refine blkQ_by rfl ?_)
      exact out_ret rfl (.inl ⟨.inr hb, rfl, hfr5⟩)
    · have hb : (depth cs : Int) + n ≤ stack := by rw [hwr] at hb; simpa using hb
      repeat' (first
        | refine WpC.seq ?_
        | refine WpC.region ?_
        | refine WpC.drawn ?_
        | refine WpC.skip ?_
        | refine WpC.block ?_
        | refine WpC.exit ?_
        | refine WpC.ret ?_
        | refine WpO.nil ?_
        | refine WpO.cons rfl rfl (WpX.pure (fun _ => rfl) ⟨nolog, ?_⟩)
        | refine WpO.skip rfl rfl ?_
        | refine WpL.cons rfl rfl (WpX.pure (fun _ => rfl) ⟨nolog, ?_⟩)
        | refine WpL.skip rfl rfl ?_
        | refine seqQ_normal ?_
        | refine seqQ_ret ?_
        | refine seqQ_exit ?_
        | refine blkQ_normal ?_
        | refine blkQ_ret ?_
        | refine blkQ_out rfl ?_
        | refine blkQ_by rfl ?_)
      refine WpO.cons rfl rfl (call_at rfl (nils_ok (n := n) (by omega)) (by simp) (by omega) fun v h6 c6 hc6 hfr6 hq => ?_)
      obtain ⟨ws, hwl, hl, hnm⟩ := hq
      have r6 := r5.keep hc6 (fun n hn => hfr6 n hn (by simp))
      have hg6 : MapI.get h6 s = some (.cells true cl (flat callC cs ++ junk)) := by rw [hfr6 s (by omega) (by simp), hfr5 s hs]; exact hg
      rcases hl with ⟨_, e⟩ | ⟨s2, cl2, jk2, rfl, e2', e3', e4'⟩
      · rw [e] at hwl; simp at hwl; omega
      have hs2 : c5 ≤ s2 := hnm s2 (by simp [rowName])
      have hfl : (cs.length - 1) * 3 + 1 + 1 ≤ (flat callC cs ++ junk).length := by
        rw [List.length_append, flat_length call_len]; omega
      have er := r6.setFr (cl := cl) (junk := junk) (a' := ⟨a.back, some s2, ws⟩) rfl hcap (by omega) hj hz (.inr ⟨s2, cl2, jk2, rfl, e2', e3', e4'⟩) (fun x hx => by
        have : x = s2 := by simpa [rowName, Cal.fr] using hx
        subst this
        exact ⟨by omega, fun hm => by simp [rowName] at hm; omega⟩) (fun j b _ hb2 x hx hm => by
        have : x = s2 := by simpa [rowName, Cal.fr] using hx
        subst this
        have := (r5.frames j b hb2).lt x hm
        omega)
      rw [← set_call1 (a := a) (b := ⟨a.back, some s2, ws⟩) rfl hz] at er
      repeat' (first
        | refine WpC.seq ?_
        | refine WpC.region ?_
        | refine WpC.drawn ?_
        | refine WpC.skip ?_
        | refine WpC.block ?_
        | refine WpC.exit ?_
        | refine WpC.ret ?_
        | refine WpO.nil ?_
        | refine WpO.cons rfl rfl (WpX.pure (fun _ => rfl) ⟨nolog, ?_⟩)
        | refine WpO.skip rfl rfl ?_
        | refine WpL.cons rfl rfl (WpX.pure (fun _ => rfl) ⟨nolog, ?_⟩)
        | refine WpL.skip rfl rfl ?_
        | refine seqQ_normal ?_
        | refine seqQ_ret ?_
        | refine seqQ_exit ?_
        | refine blkQ_normal ?_
        | refine blkQ_ret ?_
        | refine blkQ_out rfl ?_
        | refine blkQ_by rfl ?_
        | refine WpO.cons rfl rfl (op_store (k := 1) rfl rfl rfl rfl hg6 hfl rfl ⟨(by simp [InL, Acc.name, rowName] <;> omega), ?_⟩)
        | refine WpL.cons rfl rfl (op_store (k := 1) rfl rfl rfl rfl hg6 hfl rfl ⟨(by simp [InL, Acc.name, rowName] <;> omega), ?_⟩))
      exact out_ret rfl (.inr ⟨g, hb, rfl, s2, ws, hwl, by omega, er⟩)
  · have hgt := List.length_pos_iff.2 g
    have e3 : decide (((a.ws.length : Nat) : Int) > 0) = true := by simp; omega
    simp only [e3]
    repeat' (first
      | refine WpC.seq ?_
      | refine WpC.region ?_
      | refine WpC.drawn ?_
      | refine WpC.skip ?_
      | refine WpC.block ?_
      | refine WpC.exit ?_
      | refine WpC.ret ?_
      | refine WpO.nil ?_
      | refine WpO.cons rfl rfl (WpX.pure (fun _ => rfl) ⟨nolog, ?_⟩)
      | refine WpO.skip rfl rfl ?_
      | refine WpL.cons rfl rfl (WpX.pure (fun _ => rfl) ⟨nolog, ?_⟩)
      | refine WpL.skip rfl rfl ?_
      | refine seqQ_normal ?_
      | refine seqQ_ret ?_
      | refine seqQ_exit ?_
      | refine blkQ_normal ?_
      | refine blkQ_ret ?_
      | refine blkQ_out rfl ?_
      | refine blkQ_by rfl ?_)
    refine WpL.nil (logsOk_of (cs := [0, 1, 3, 7, 15, 31, 63, 127, 255, 511, 1023, 2047, 4095, 8191, 16383, 32767, 65535, 131071, 262143, 524287, 1048575, 2097151, 1048575, 8388607, 1048575, 17825791, 51380223, 118489087, 268435455, 536870911]) (by decide +kernel) ?_) ?_
    · simp +contextual [allP, apP, Dis, acc_rd, acc_wr, accw_rd, accw_wr, Nat.testBit]
    refine WpC.cond rfl (fun _ => ?_) (fun hb => by cases hb)
    repeat' (first
      | refine WpC.seq ?_
      | refine WpC.region ?_
      | refine WpC.drawn ?_
      | refine WpC.skip ?_
      | refine WpC.block ?_
      | refine WpC.exit ?_
      | refine WpC.ret ?_
      | refine WpO.nil ?_
      | refine WpO.cons rfl rfl (WpX.pure (fun _ => rfl) ⟨nolog, ?_⟩)
      | refine WpO.skip rfl rfl ?_
      | refine WpL.cons rfl rfl (WpX.pure (fun _ => rfl) ⟨nolog, ?_⟩)
      | refine WpL.skip rfl rfl ?_
      | refine seqQ_normal ?_
      | refine seqQ_ret ?_
      | refine seqQ_exit ?_
      | refine blkQ_normal ?_
      | refine blkQ_ret ?_
      | refine blkQ_out rfl ?_
      | refine blkQ_by rfl ?_)
    exact out_ret rfl (.inl ⟨.inl g, rfl, fun x _ => rfl⟩)
end Go.Proofs.Ytempfmkicpifkaa.Ps
