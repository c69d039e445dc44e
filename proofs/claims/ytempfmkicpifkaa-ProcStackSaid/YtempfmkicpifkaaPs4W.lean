/- ProcStack: Leave, Y, SetY. -/
import Derived.Test.YtempfmkicpifkaaPs3W
set_option linter.unusedVariables false
set_option linter.unusedSectionVars false
set_option linter.unusedSimpArgs false
set_option linter.unnecessarySimpa false
namespace Go.Proofs.Ytempfmkicpifkaa.Ps
open Go.Ab
set_option maxRecDepth 10000
variable {h : HH} {c p : Nat} {R : PRest} {stack : Int} {cv : V} {cs : List Cal}
/-- The frame of one call is another one. -/
theorem ProcAt.setFr (r : ProcAt h c p R stack cv cs) {s i : Nat} {cap : Cap} {cl : Bool} {junk : List V} {a a' : Cal} (hcv : cv = .slice (some (s, 0)) cs.length cap) (hcap : cap = .upTo 3 ∨ (cap = .known 1 ∧ cs.length = 1 ∧ junk = [])) (hs : s < c) (hj : junk.all one1 = true) (hz : cs[i]? = some a)
    (hf : ListOf 1 wordV h c a'.fr a'.ws) (hn1 : ∀ n ∈ rowName a'.fr, n ≠ p ∧ n ∉ rowName cv) (hn2 : ∀ (j : Nat) (b : Cal), j ≠ i → cs[j]? = some b → ∀ n ∈ rowName a'.fr, n ∉ rowName b.fr) :
    ProcAt (MapI.set h s (.cells true cl (flat callC (cs.set i a') ++ junk))) c p R stack cv (cs.set i a') := by
  have hil := (List.getElem?_eq_some_iff.1 hz).1
  subst hcv
  have hsp : s ≠ p := fun e => r.np (by simp [rowName, e])
  refine ⟨?_, ⟨s, cap, cl, junk, by simp, by simpa using hcap, hs, MapI.get_same _ _ _, hj, by simp; omega⟩, fun j b hb => ?_, r.lp, r.np, fun j b hb n hn => ?_, fun j k b d hjk hb hd n hn => ?_⟩
  · rw [MapI.get_ne _ _ _ _ hsp]; exact r.obj
  · rcases set_cases hb with ⟨rfl, rfl⟩ | ⟨hji, hb⟩
    · exact hf.keep (Nat.le_refl _) fun n hn hm => MapI.get_ne _ _ _ _ (fun e => (hn1 n hm).2 (by simp [rowName, e]))
    · exact (r.frames j b hb).keep (Nat.le_refl _) fun n hn hm => MapI.get_ne _ _ _ _ (fun e => (r.nf j b hb n hm).2 (by simp [rowName, e]))
  · rcases set_cases hb with ⟨rfl, rfl⟩ | ⟨hji, hb⟩
    · exact hn1 n hn
    · exact r.nf j b hb n hn
  · rcases set_cases hb with ⟨e1, e2⟩ | ⟨hji, hb'⟩
    · rcases set_cases hd with ⟨e3, e4⟩ | ⟨hki, hd'⟩
      · exact absurd (e1.trans e3.symm) hjk
      · subst e2; exact hn2 k d hki hd' n hn
    · rcases set_cases hd with ⟨e3, e4⟩ | ⟨hki, hd'⟩
      · subst e4; exact fun hm => hn2 j b hji hb' n hm hn
      · exact r.ff j k b d hjk hb' hd' n hn
theorem ProcAt.keep {h' : HH} {c' : Nat} (r : ProcAt h c p R stack cv cs) (hc : c ≤ c') (e : ∀ n, n < c → MapI.get h' n = MapI.get h n) : ProcAt h' c' p R stack cv cs := by
  obtain ⟨s, cap, cl, junk, h1, h2, h3, h4, h5, h6⟩ := r.calls
  exact ⟨by rw [e p r.lp]; exact r.obj, ⟨s, cap, cl, junk, h1, h2, by omega, by rw [e s h3]; exact h4, h5, h6⟩, fun i a hz => (r.frames i a hz).keep hc fun n hn _ => e n hn, Nat.lt_of_lt_of_le r.lp hc, r.np, r.nf, r.ff⟩

/-- As keep: of its names alone. -/
theorem ProcAt.keepF {h' : HH} {c' : Nat} (r : ProcAt h c p R stack cv cs) (hc : c ≤ c') (e : ∀ n ∈ p :: (rowName cv ++ cs.flatMap fun a => rowName a.fr), MapI.get h' n = MapI.get h n) : ProcAt h' c' p R stack cv cs := by
  obtain ⟨s, cap, cl, junk, h1, h2, h3, h4, h5, h6⟩ := r.calls
  exact ⟨by rw [e p (by simp)]; exact r.obj, ⟨s, cap, cl, junk, h1, h2, by omega, by rw [e s (by rw [h1]; simp [rowName])]; exact h4, h5, h6⟩, fun i a hz => (r.frames i a hz).keep hc fun n hn hm => e n (List.mem_cons_of_mem _ (List.mem_append_right _ (List.mem_flatMap.2 ⟨a, List.mem_of_getElem? hz, hm⟩))), Nat.lt_of_lt_of_le r.lp hc, r.np, r.nf, r.ff⟩

theorem leave_ok {a : Cal} (r : ProcAt h c p R stack cv cs) (hlen : cs.length ≤ 1000) (hz : cs[cs.length - 1]? = some a) :
    Does 24 [.ptr (some (p, 0))] h c (p :: rowName cv) fun v h' c' => c' = c ∧ ((a.ws = [] ∧ v = .bool false ∧ h' = h) ∨ (a.ws ≠ [] ∧ v = .bool true ∧ ProcAt h' c' p R stack cv (cs.set (cs.length - 1) ⟨a.back, none, []⟩))) := by
  obtain ⟨s, cap, cl, junk, hcv, hcap, hs, hg, hj, h0⟩ := r.calls
  refine does_of (enter (fn := Try.f24) Try.func24 rfl rfl (Nat.le_of_ble_eq_true rfl) ?_)
  repeat' (first
    | refine WpC.seq ?_
    | refine WpC.region ?_
    | refine WpC.drawn ?_
    | refine WpC.skip ?_
    | refine WpC.block ?_
    | refine WpC.exit ?_
    | refine WpC.ret ?_
    | refine WpO.nil ?_
    | refine WpO.cons rfl rfl (WpX.pure (fun _ => rfl) ⟨nolog, ?_⟩)
    | refine WpO.skip rfl rfl ?_
    | refine WpL.cons rfl rfl (WpX.pure (fun _ => rfl) ⟨nolog, ?_⟩)
    | refine WpL.skip rfl rfl ?_
    | refine seqQ_normal ?_
    | refine seqQ_ret ?_
    | refine seqQ_exit ?_
    | refine blkQ_normal ?_
    | refine blkQ_ret ?_
    | refine blkQ_out rfl ?_
    | refine blkQ_by rfl ?_)
  refine WpO.cons rfl rfl (call_at rfl (last_ok r hlen) (fun n hn => .inl (by simp at hn; simp [hn])) (Nat.le_refl _) fun v h4 c4 hc4 hfr4 hq => ?_)
  obtain ⟨⟨s', cap', hcv', rfl⟩, rfl, rfl⟩ := hq
  rw [hcv] at hcv'
  cases hcv'
  obtain ⟨fs, fc, hfv⟩ : ∃ fs fc, a.fr = .slice fs a.ws.length fc := by
    obtain ⟨fs, fc, e, _⟩ := (r.frames _ a hz).shape
    exact ⟨fs, fc, e⟩
  have hnx : nth (flat callC cs ++ junk) ((cs.length - 1) * 3 + 1) = some (.slice fs a.ws.length fc) := by
    rw [← hfv]; exact (nth_flat call_len hz (by omega) junk).trans rfl
  have hfl : (cs.length - 1) * 3 + 1 + 1 ≤ (flat callC cs ++ junk).length := by
    rw [List.length_append, flat_length call_len]; omega
  subst hcv
  have er := r.setFr (cl := cl) (junk := junk) (a' := ⟨a.back, none, []⟩) rfl hcap hs hj hz .nil (fun n hn => (by cases hn)) (fun j b _ _ n hn => by cases hn)
  rw [← set_call1 (a := a) (b := ⟨a.back, none, []⟩) rfl hz] at er
  by_cases g : a.ws = []
  · have e1 : (((a.ws.length : Nat) : Int) == 0) = true := by simp [g]
    repeat' (first
      | refine WpC.seq ?_
      | refine WpC.region ?_
      | refine WpC.drawn ?_
      | refine WpC.skip ?_
      | refine WpC.block ?_
      | refine WpC.exit ?_
      | refine WpC.ret ?_
      | refine WpO.nil ?_
      | refine WpO.cons rfl rfl (WpX.pure (fun _ => rfl) ⟨nolog, ?_⟩)
      | refine WpO.skip rfl rfl ?_
      | refine WpL.cons rfl rfl (WpX.pure (fun _ => rfl) ⟨nolog, ?_⟩)
      | refine WpL.skip rfl rfl ?_
      | refine seqQ_normal ?_
      | refine seqQ_ret ?_
      | refine seqQ_exit ?_
      | refine blkQ_normal ?_
      | refine blkQ_ret ?_
      | refine blkQ_out rfl ?_
      | refine blkQ_by rfl ?_
      | refine WpO.cons rfl rfl (op_load rfl rfl rfl hg hnx ⟨(by simp [InL, Acc.name, rowName] <;> omega), ?_⟩)
      | refine WpL.cons rfl rfl (op_load rfl rfl rfl hg hnx ⟨(by simp [InL, Acc.name, rowName] <;> omega), ?_⟩)
      | refine WpO.cons rfl rfl (op_len rfl rfl rfl ⟨(by simp [InL, Acc.name, rowName] <;> omega), ?_⟩)
      | refine WpL.cons rfl rfl (op_len rfl rfl rfl ⟨(by simp [InL, Acc.name, rowName] <;> omega), ?_⟩))
    refine WpC.cond rfl (fun _ => ?_) (fun hb => by rw [e1] at hb; cases hb)
    repeat' (first
      | refine WpC.seq ?_
      | refine WpC.region ?_
      | refine WpC.drawn ?_
      | refine WpC.skip ?_
      | refine WpC.block ?_
      | refine WpC.exit ?_
      | refine WpC.ret ?_
      | refine WpO.nil ?_
      | refine WpO.cons rfl rfl (WpX.pure (fun _ => rfl) ⟨nolog, ?_⟩)
      | refine WpO.skip rfl rfl ?_
      | refine WpL.cons rfl rfl (WpX.pure (fun _ => rfl) ⟨nolog, ?_⟩)
      | refine WpL.skip rfl rfl ?_
      | refine seqQ_normal ?_
      | refine seqQ_ret ?_
      | refine seqQ_exit ?_
      | refine blkQ_normal ?_
      | refine blkQ_ret ?_
      | refine blkQ_out rfl ?_
      | refine blkQ_by rfl ?_)
    exact out_ret rfl ⟨rfl, .inl ⟨g, rfl, rfl⟩⟩
  · have e1 : (((a.ws.length : Nat) : Int) == 0) = false := beq_eq_false_iff_ne.2 (by have := List.length_pos_iff.2 g; omega)
    repeat' (first
      | refine WpC.seq ?_
      | refine WpC.region ?_
      | refine WpC.drawn ?_
      | refine WpC.skip ?_
      | refine WpC.block ?_
      | refine WpC.exit ?_
      | refine WpC.ret ?_
      | refine WpO.nil ?_
      | refine WpO.cons rfl rfl (WpX.pure (fun _ => rfl) ⟨nolog, ?_⟩)
      | refine WpO.skip rfl rfl ?_
      | refine WpL.cons rfl rfl (WpX.pure (fun _ => rfl) ⟨nolog, ?_⟩)
      | refine WpL.skip rfl rfl ?_
      | refine seqQ_normal ?_
      | refine seqQ_ret ?_
      | refine seqQ_exit ?_
      | refine blkQ_normal ?_
      | refine blkQ_ret ?_
      | refine blkQ_out rfl ?_
      | refine blkQ_by rfl ?_
      | refine WpO.cons rfl rfl (op_load rfl rfl rfl hg hnx ⟨(by simp [InL, Acc.name, rowName] <;> omega), ?_⟩)
      | refine WpL.cons rfl rfl (op_load rfl rfl rfl hg hnx ⟨(by simp [InL, Acc.name, rowName] <;> omega), ?_⟩)
      | refine WpO.cons rfl rfl (op_len rfl rfl rfl ⟨(by simp [InL, Acc.name, rowName] <;> omega), ?_⟩)
      | refine WpL.cons rfl rfl (op_len rfl rfl rfl ⟨(by simp [InL, Acc.name, rowName] <;> omega), ?_⟩))
    refine WpC.cond rfl (fun hb => by rw [e1] at hb; cases hb) (fun _ => ?_)
    repeat' (first
      | refine WpC.seq ?_
      | refine WpC.region ?_
      | refine WpC.drawn ?_
      | refine WpC.skip ?_
      | refine WpC.block ?_
      | refine WpC.exit ?_
      | refine WpC.ret ?_
      | refine WpO.nil ?_
      | refine WpO.cons rfl rfl (WpX.pure (fun _ => rfl) ⟨nolog, ?_⟩)
      | refine WpO.skip rfl rfl ?_
      | refine WpL.cons rfl rfl (WpX.pure (fun _ => rfl) ⟨nolog, ?_⟩)
      | refine WpL.skip rfl rfl ?_
      | refine seqQ_normal ?_
      | refine seqQ_ret ?_
      | refine seqQ_exit ?_
      | refine blkQ_normal ?_
      | refine blkQ_ret ?_
      | refine blkQ_out rfl ?_
      | refine blkQ_by rfl ?_
      | refine WpO.cons rfl rfl (op_store (k := 1) rfl rfl rfl rfl hg hfl rfl ⟨(by simp [InL, Acc.name, rowName] <;> omega), ?_⟩)
      | refine WpL.cons rfl rfl (op_store (k := 1) rfl rfl rfl rfl hg hfl rfl ⟨(by simp [InL, Acc.name, rowName] <;> omega), ?_⟩))
    exact out_ret rfl ⟨rfl, .inr ⟨g, rfl, er⟩⟩
theorem y_ok {a : Cal} {i : Int} (r : ProcAt h c p R stack cv cs) (hlen : cs.length ≤ 1000) (hz : cs[cs.length - 1]? = some a) :
    Does 22 [.ptr (some (p, 0)), I i] h c (p :: (rowName cv ++ rowName a.fr)) fun v h' c' => h' = h ∧ c' = c ∧
    ((∃ (k : Nat) (z : Int), i = k ∧ a.ws[k]? = some z ∧ v = .tuple [.int .u64 z, .bool true]) ∨ ((i < 0 ∨ (a.ws.length : Int) ≤ i) ∧ v = .tuple [.int .u64 0, .bool false])) := by
  obtain ⟨s, cap, cl, junk, hcv, hcap, hs, hg, hj, h0⟩ := r.calls
  refine does_of (enter (fn := Try.f22) Try.func22 rfl rfl (Nat.le_of_ble_eq_true rfl) ?_)
  repeat' (first
    | refine WpC.seq ?_
    | refine WpC.region ?_
    | refine WpC.drawn ?_
    | refine WpC.skip ?_
    | refine WpC.block ?_
    | refine WpC.exit ?_
    | refine WpC.ret ?_
    | refine WpO.nil ?_
    | refine WpO.cons rfl rfl (WpX.pure (fun _ => rfl) ⟨nolog, ?_⟩)
    | refine WpO.skip rfl rfl ?_
    | refine WpL.cons rfl rfl (WpX.pure (fun _ => rfl) ⟨nolog, ?_⟩)
    | refine WpL.skip rfl rfl ?_
    | refine seqQ_normal ?_
    | refine seqQ_ret ?_
    | refine seqQ_exit ?_
    | refine blkQ_normal ?_
    | refine blkQ_ret ?_
    | refine blkQ_out rfl ?_
    | refine blkQ_by rfl ?_)
  refine WpO.cons rfl rfl (call_at rfl (last_ok r hlen) (fun n hn => .inl (by simp at hn; simp [hn])) (Nat.le_refl _) fun v h4 c4 hc4 hfr4 hq => ?_)
  obtain ⟨⟨s', cap', hcv', rfl⟩, rfl, rfl⟩ := hq
  rw [hcv] at hcv'
  cases hcv'
  have hnx : nth (flat callC cs ++ junk) ((cs.length - 1) * 3 + 1) = some a.fr := (nth_flat call_len hz (by omega) junk).trans rfl
  subst hcv
  repeat' (first
    | refine WpC.seq ?_
    | refine WpC.region ?_
    | refine WpC.drawn ?_
    | refine WpC.skip ?_
    | refine WpC.block ?_
    | refine WpC.exit ?_
    | refine WpC.ret ?_
    | refine WpO.nil ?_
    | refine WpO.cons rfl rfl (WpX.pure (fun _ => rfl) ⟨nolog, ?_⟩)
    | refine WpO.skip rfl rfl ?_
    | refine WpL.cons rfl rfl (WpX.pure (fun _ => rfl) ⟨nolog, ?_⟩)
    | refine WpL.skip rfl rfl ?_
    | refine seqQ_normal ?_
    | refine seqQ_ret ?_
    | refine seqQ_exit ?_
    | refine blkQ_normal ?_
    | refine blkQ_ret ?_
    | refine blkQ_out rfl ?_
    | refine blkQ_by rfl ?_
    | refine WpO.cons rfl rfl (op_load rfl rfl rfl hg hnx ⟨(by simp [InL, Acc.name, rowName] <;> omega), ?_⟩)
    | refine WpL.cons rfl rfl (op_load rfl rfl rfl hg hnx ⟨(by simp [InL, Acc.name, rowName] <;> omega), ?_⟩))
  refine WpO.cons rfl rfl (call_at rfl (get_ok (r.frames _ a hz)) (fun n hn => .inl (by simp [hn])) (Nat.le_refl _) fun v h5 c5 hc5 hfr5 hq => ?_)
  obtain ⟨rfl, rfl, hq⟩ := hq
  rcases hq with ⟨k, z, h1, h2, rfl⟩ | ⟨h1, rfl⟩
  ·
    repeat' (first
      | refine WpC.seq ?_
      | refine WpC.region ?_
      | refine WpC.drawn ?_
      | refine WpC.skip ?_
      | refine WpC.block ?_
      | refine WpC.exit ?_
      | refine WpC.ret ?_
      | refine WpO.nil ?_
      | refine WpO.cons rfl rfl (WpX.pure (fun _ => rfl) ⟨nolog, ?_⟩)
      | refine WpO.skip rfl rfl ?_
      | refine WpL.cons rfl rfl (WpX.pure (fun _ => rfl) ⟨nolog, ?_⟩)
      | refine WpL.skip rfl rfl ?_
      | refine seqQ_normal ?_
      | refine seqQ_ret ?_
      | refine seqQ_exit ?_
      | refine blkQ_normal ?_
      | refine blkQ_ret ?_
      | refine blkQ_out rfl ?_
      | refine blkQ_by rfl ?_)
    exact out_ret rfl ⟨rfl, rfl, .inl ⟨k, z, h1, h2, rfl⟩⟩
  ·
    repeat' (first
      | refine WpC.seq ?_
      | refine WpC.region ?_
      | refine WpC.drawn ?_
      | refine WpC.skip ?_
      | refine WpC.block ?_
      | refine WpC.exit ?_
      | refine WpC.ret ?_
      | refine WpO.nil ?_
      | refine WpO.cons rfl rfl (WpX.pure (fun _ => rfl) ⟨nolog, ?_⟩)
      | refine WpO.skip rfl rfl ?_
      | refine WpL.cons rfl rfl (WpX.pure (fun _ => rfl) ⟨nolog, ?_⟩)
      | refine WpL.skip rfl rfl ?_
      | refine seqQ_normal ?_
      | refine seqQ_ret ?_
      | refine seqQ_exit ?_
      | refine blkQ_normal ?_
      | refine blkQ_ret ?_
      | refine blkQ_out rfl ?_
      | refine blkQ_by rfl ?_)
    exact out_ret rfl ⟨rfl, rfl, .inr ⟨h1, rfl⟩⟩
end Go.Proofs.Ytempfmkicpifkaa.Ps
