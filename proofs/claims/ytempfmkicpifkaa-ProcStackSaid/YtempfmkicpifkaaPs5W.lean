/- ProcStack: SetY, Back. -/
import Derived.Test.YtempfmkicpifkaaPs4W
set_option linter.unusedVariables false
set_option linter.unusedSectionVars false
set_option linter.unusedSimpArgs false
set_option linter.unnecessarySimpa false
namespace Go.Proofs.Ytempfmkicpifkaa.Ps
open Go.Ab
set_option maxRecDepth 10000
variable {h : HH} {c p : Nat} {R : PRest} {stack : Int} {cv : V} {cs : List Cal}
theorem flat_set_same {a a' : Cal} (e : callC a' = callC a) : ∀ {cs : List Cal} {i : Nat}, cs[i]? = some a → flat callC (cs.set i a') = flat callC cs
  | [], _, h => by simp at h
  | y :: cs, 0, h => by simp at h; subst h; simp [flat_cons, e]
  | y :: cs, i + 1, h => by
    have := flat_set_same e (cs := cs) (i := i) (by simpa using h)
    simp [flat_cons, this]
theorem ProcAt.setWs {h' : HH} {i : Nat} {a a' : Cal} (r : ProcAt h c p R stack cv cs) (hz : cs[i]? = some a) (hb : a'.back = a.back) (hf : a'.fr = a.fr) (hl : ListOf 1 wordV h' c a.fr a'.ws) (hfr : ∀ n, n < c → n ∉ rowName a.fr → MapI.get h' n = MapI.get h n) : ProcAt h' c p R stack cv (cs.set i a') := by
  have he : callC a' = callC a := by unfold callC; rw [hb, hf]
  obtain ⟨s, cap, cl, junk, h1, h2, h3, h4, h5, h6⟩ := r.calls
  refine ⟨?_, ⟨s, cap, cl, junk, by simpa using h1, by simpa using h2, h3, ?_, h5, by simpa using h6⟩, fun j b hb => ?_, r.lp, r.np, fun j b hb n hn => ?_, fun j k b d hjk hb hd n hn => ?_⟩
  · rw [hfr p r.lp (fun hm => (r.nf i a hz p hm).1 rfl)]; exact r.obj
  · rw [flat_set_same he hz, hfr s h3 (fun hm => (r.nf i a hz s hm).2 (by rw [h1]; simp [rowName]))]; exact h4
  · rcases set_cases hb with ⟨e1, e2⟩ | ⟨hji, hb'⟩
    · subst e2; rw [hf]; exact hl
    · exact (r.frames j b hb').keep (Nat.le_refl _) fun n hn hm => hfr n hn (r.ff j i b a hji hb' hz n hm)
  · rcases set_cases hb with ⟨e1, e2⟩ | ⟨hji, hb'⟩
    · subst e2; rw [hf] at hn; exact r.nf i a hz n hn
    · exact r.nf j b hb' n hn
  · rcases set_cases hb with ⟨e1, e2⟩ | ⟨hji, hb'⟩
    · rcases set_cases hd with ⟨e3, e4⟩ | ⟨hki, hd'⟩
      · exact absurd (e1.trans e3.symm) hjk
      · subst e2; rw [hf] at hn; exact r.ff i k a d (fun e => hki e.symm) hz hd' n hn
    · rcases set_cases hd with ⟨e3, e4⟩ | ⟨hki, hd'⟩
      · subst e4; rw [hf]; exact r.ff j i b a hji hb' hz n hn
      · exact r.ff j k b d hjk hb' hd' n hn
theorem setY_ok {a : Cal} {k : Nat} {z : Int} (r : ProcAt h c p R stack cv cs) (hlen : cs.length ≤ 1000) (hz : cs[cs.length - 1]? = some a) (hk : k < a.ws.length) :
    Does 20 [.ptr (some (p, 0)), I k, .int .u64 z] h c (p :: (rowName cv ++ rowName a.fr)) fun v h' c' => c' = c ∧ ProcAt h' c' p R stack cv (cs.set (cs.length - 1) ⟨a.back, a.nm, a.ws.set k z⟩) := by
  obtain ⟨s, cap, cl, junk, hcv, hcap, hs, hg, hj, h0⟩ := r.calls
  refine does_of (enter (fn := Try.f20) Try.func20 rfl rfl (Nat.le_of_ble_eq_true rfl) ?_)
  repeat' (first
    | refine WpC.seq ?_
    | refine WpC.region ?_
    | refine WpC.drawn ?_
    | refine WpC.skip ?_
    | refine WpC.block ?_
    | refine WpC.exit ?_
    | refine WpC.ret ?_
    | refine WpO.nil ?_
    | refine WpO.cons rfl rfl (WpX.pure (fun _ => rfl) ⟨nolog, ?_⟩)
    | refine WpO.skip rfl rfl ?_
    | refine WpL.cons rfl rfl (WpX.pure (fun _ => rfl) ⟨nolog, ?_⟩)
    | refine WpL.skip rfl rfl ?_
    | refine seqQ_normal ?_
    | refine seqQ_ret ?_
    | refine seqQ_exit ?_
    | refine blkQ_normal ?_
    | refine blkQ_ret ?_
    | refine blkQ_out rfl ?_
    | refine blkQ_by rfl ?_)
  refine WpO.cons rfl rfl (call_at rfl (last_ok r hlen) (fun n hn => .inl (by simp at hn; simp [hn])) (Nat.le_refl _) fun v h4 c4 hc4 hfr4 hq => ?_)
  obtain ⟨⟨s', cap', hcv', rfl⟩, rfl, rfl⟩ := hq
  rw [hcv] at hcv'
  cases hcv'
  have hnx : nth (flat callC cs ++ junk) ((cs.length - 1) * 3 + 1) = some a.fr := (nth_flat call_len hz (by omega) junk).trans rfl
  subst hcv
  repeat' (first
    | refine WpC.seq ?_
    | refine WpC.region ?_
    | refine WpC.drawn ?_
    | refine WpC.skip ?_
    | refine WpC.block ?_
    | refine WpC.exit ?_
    | refine WpC.ret ?_
    | refine WpO.nil ?_
    | refine WpO.cons rfl rfl (WpX.pure (fun _ => rfl) ⟨nolog, ?_⟩)
    | refine WpO.skip rfl rfl ?_
    | refine WpL.cons rfl rfl (WpX.pure (fun _ => rfl) ⟨nolog, ?_⟩)
    | refine WpL.skip rfl rfl ?_
    | refine seqQ_normal ?_
    | refine seqQ_ret ?_
    | refine seqQ_exit ?_
    | refine blkQ_normal ?_
    | refine blkQ_ret ?_
    | refine blkQ_out rfl ?_
    | refine blkQ_by rfl ?_
    | refine WpO.cons rfl rfl (op_load rfl rfl rfl hg hnx ⟨(by simp [InL, Acc.name, rowName] <;> omega), ?_⟩)
    | refine WpL.cons rfl rfl (op_load rfl rfl rfl hg hnx ⟨(by simp [InL, Acc.name, rowName] <;> omega), ?_⟩))
  refine WpO.cons rfl rfl (call_at rfl (set_ok (z := z) (r.frames _ a hz) hk) (fun n hn => .inl (by simp [hn])) (Nat.le_refl _) fun v h5 c5 hc5 hfr5 hq => ?_)
  obtain ⟨rfl, e5, hl⟩ := hq
  subst e5
  repeat' (first
    | refine WpC.seq ?_
    | refine WpC.region ?_
    | refine WpC.drawn ?_
    | refine WpC.skip ?_
    | refine WpC.block ?_
    | refine WpC.exit ?_
    | refine WpC.ret ?_
    | refine WpO.nil ?_
    | refine WpO.cons rfl rfl (WpX.pure (fun _ => rfl) ⟨nolog, ?_⟩)
    | refine WpO.skip rfl rfl ?_
    | refine WpL.cons rfl rfl (WpX.pure (fun _ => rfl) ⟨nolog, ?_⟩)
    | refine WpL.skip rfl rfl ?_
    | refine seqQ_normal ?_
    | refine seqQ_ret ?_
    | refine seqQ_exit ?_
    | refine blkQ_normal ?_
    | refine blkQ_ret ?_
    | refine blkQ_out rfl ?_
    | refine blkQ_by rfl ?_)
  refine out_ret rfl ⟨rfl, r.setWs hz rfl ?_ hl hfr5⟩
  unfold Cal.fr
  cases a.nm <;> simp
theorem ProcAt.pop {s : Nat} {cl : Bool} {junk : List V} {a : Cal} (r : ProcAt h c p R stack (.slice (some (s, 0)) cs.length (.upTo 3)) cs) (hz : cs[cs.length - 1]? = some a) (h1 : 1 < cs.length) (hs : s < c) (hg : MapI.get h s = some (.cells true cl (flat callC cs ++ junk))) (hj : junk.all one1 = true) :
    ProcAt (MapI.set h p (.cells true true (procC R stack (.slice (some (s, 0)) (cs.length - 1) (.upTo 3))))) c p R stack (.slice (some (s, 0)) (cs.length - 1) (.upTo 3)) cs.dropLast := by
  have hps : p ≠ s := fun e => r.np (by simp [rowName, e])
  have hcs : cs.dropLast ++ [a] = cs := by
    have e := List.dropLast_concat_getLast (l := cs) (fun e => by rw [e] at h1; simp at h1)
    rw [List.getLast_eq_getElem] at e
    obtain ⟨_, h2⟩ := List.getElem?_eq_some_iff.1 hz
    rw [h2] at e
    exact e
  have hd : ∀ {j : Nat} {b : Cal}, cs.dropLast[j]? = some b → cs[j]? = some b := fun {j b} hb => by
    rw [List.getElem?_dropLast] at hb
    split at hb
    · exact hb
    · cases hb
  refine ⟨MapI.get_same _ _ _, ⟨s, .upTo 3, cl, callC a ++ junk, by simp, .inl rfl, hs, ?_, ?_, by simp; omega⟩, fun j b hb => ?_, r.lp, fun hm => hps (by simpa [rowName] using hm), fun j b hb n hn => ?_, fun j k b d hjk hb hd' n hn => r.ff j k b d hjk (hd hb) (hd hd') n hn⟩
  · rw [MapI.get_ne _ _ _ _ hps, hg]
    have : flat callC cs = flat callC cs.dropLast ++ callC a := by
      conv => lhs; rw [← hcs]
      rw [flat_append]; simp [flat]
    rw [this, List.append_assoc]
  · rw [List.all_append, call_all, hj]; rfl
  · exact (r.frames j b (hd hb)).keep (Nat.le_refl _) fun n hn hm => MapI.get_ne _ _ _ _ (fun e => (r.nf j b (hd hb) n hm).1 e.symm)
  · have := r.nf j b (hd hb) n hn
    exact ⟨this.1, fun hm => this.2 (by simpa [rowName] using hm)⟩
theorem back_ok {a : Cal} (r : ProcAt h c p R stack cv cs) (hlen : cs.length ≤ 1000) (hz : cs[cs.length - 1]? = some a) :
    Does 25 [.ptr (some (p, 0))] h c (p :: rowName cv) fun v h' c' => c' = c ∧
      (((cs.length = 1 ∨ a.ws ≠ []) ∧ v = .tuple [I 0, .bool false] ∧ h' = h) ∨
       (1 < cs.length ∧ a.ws = [] ∧ v = .tuple [I a.back, .bool true] ∧ ∃ cv', rowName cv' = rowName cv ∧ ProcAt h' c' p R stack cv' cs.dropLast)) := by
  have hobj := r.obj
  obtain ⟨s, cap, cl, junk, hcv, hcap, hs, hg, hj, h0⟩ := r.calls
  refine does_of (enter (fn := Try.f25) Try.func25 rfl rfl (Nat.le_of_ble_eq_true rfl) ?_)
  repeat' (first
    | refine WpC.seq ?_
    | refine WpC.region ?_
    | refine WpC.drawn ?_
    | refine WpC.skip ?_
    | refine WpC.block ?_
    | refine WpC.exit ?_
    | refine WpC.ret ?_
    | refine WpO.nil ?_
    | refine WpO.cons rfl rfl (WpX.pure (fun _ => rfl) ⟨nolog, ?_⟩)
    | refine WpO.skip rfl rfl ?_
    | refine WpL.cons rfl rfl (WpX.pure (fun _ => rfl) ⟨nolog, ?_⟩)
    | refine WpL.skip rfl rfl ?_
    | refine seqQ_normal ?_
    | refine seqQ_ret ?_
    | refine seqQ_exit ?_
    | refine blkQ_normal ?_
    | refine blkQ_ret ?_
    | refine blkQ_out rfl ?_
    | refine blkQ_by rfl ?_)
  refine WpO.cons rfl rfl (call_at rfl (last_ok r hlen) (fun n hn => .inl (by simp at hn; simp [hn])) (Nat.le_refl _) fun v h4 c4 hc4 hfr4 hq => ?_)
  obtain ⟨⟨s', cap', hcv', rfl⟩, rfl, rfl⟩ := hq
  rw [hcv] at hcv'
  cases hcv'
  obtain ⟨fs, fc, hfv⟩ : ∃ fs fc, a.fr = .slice fs a.ws.length fc := by
    obtain ⟨fs, fc, e, _⟩ := (r.frames _ a hz).shape
    exact ⟨fs, fc, e⟩
  have hn0 : nth (flat callC cs ++ junk) ((cs.length - 1) * 3 + 0) = some (I a.back) := (nth_flat call_len hz (by omega) junk).trans rfl
  have hn1 : nth (flat callC cs ++ junk) ((cs.length - 1) * 3 + 1) = some (.slice fs a.ws.length fc) := by
    rw [← hfv]; exact (nth_flat call_len hz (by omega) junk).trans rfl
  have hn2 : nth (flat callC cs ++ junk) ((cs.length - 1) * 3 + 2) = some (.slice none 0 (.known 0)) := (nth_flat call_len hz (by omega) junk).trans rfl
  subst hcv
  repeat' (first
    | refine WpC.seq ?_
    | refine WpC.region ?_
    | refine WpC.drawn ?_
    | refine WpC.skip ?_
    | refine WpC.block ?_
    | refine WpC.exit ?_
    | refine WpC.ret ?_
    | refine WpO.nil ?_
    | refine WpO.cons rfl rfl (WpX.pure (fun _ => rfl) ⟨nolog, ?_⟩)
    | refine WpO.skip rfl rfl ?_
    | refine WpL.cons rfl rfl (WpX.pure (fun _ => rfl) ⟨nolog, ?_⟩)
    | refine WpL.skip rfl rfl ?_
    | refine seqQ_normal ?_
    | refine seqQ_ret ?_
    | refine seqQ_exit ?_
    | refine blkQ_normal ?_
    | refine blkQ_ret ?_
    | refine blkQ_out rfl ?_
    | refine blkQ_by rfl ?_)
  refine WpO.cons rfl rfl (call_at rfl (lives_ok r) (fun n hn => .inl (by simp at hn; simp [hn])) (Nat.le_refl _) fun v h5 c5 hc5 hfr5 hq => ?_)
  obtain ⟨rfl, rfl, rfl⟩ := hq
  by_cases g1 : cs.length = 1
  · have e1 : (((cs.length : Nat) : Int) == 1) = true := by simp [g1]
    repeat' (first
      | refine WpC.seq ?_
      | refine WpC.region ?_
      | refine WpC.drawn ?_
      | refine WpC.skip ?_
      | refine WpC.block ?_
      | refine WpC.exit ?_
      | refine WpC.ret ?_
      | refine WpO.nil ?_
      | refine WpO.cons rfl rfl (WpX.pure (fun _ => rfl) ⟨nolog, ?_⟩)
      | refine WpO.skip rfl rfl ?_
      | refine WpL.cons rfl rfl (WpX.pure (fun _ => rfl) ⟨nolog, ?_⟩)
      | refine WpL.skip rfl rfl ?_
      | refine seqQ_normal ?_
      | refine seqQ_ret ?_
      | refine seqQ_exit ?_
      | refine blkQ_normal ?_
      | refine blkQ_ret ?_
      | refine blkQ_out rfl ?_
      | refine blkQ_by rfl ?_
      | refine WpO.cons rfl rfl (op_load rfl rfl rfl hobj rfl ⟨(by simp [InL, Acc.name, rowName] <;> omega), ?_⟩)
      | refine WpL.cons rfl rfl (op_load rfl rfl rfl hobj rfl ⟨(by simp [InL, Acc.name, rowName] <;> omega), ?_⟩)
      | refine WpO.cons rfl rfl (op_len rfl rfl rfl ⟨(by simp [InL, Acc.name, rowName] <;> omega), ?_⟩)
      | refine WpL.cons rfl rfl (op_len rfl rfl rfl ⟨(by simp [InL, Acc.name, rowName] <;> omega), ?_⟩))
    simp only [e1]
    repeat' (first
      | refine WpC.seq ?_
      | refine WpC.region ?_
      | refine WpC.drawn ?_
      | refine WpC.skip ?_
      | refine WpC.block ?_
      | refine WpC.exit ?_
      | refine WpC.ret ?_
      | refine WpO.nil ?_
      | refine WpO.cons rfl rfl (WpX.pure (fun _ => rfl) ⟨nolog, ?_⟩)
      | refine WpO.skip rfl rfl ?_
      | refine WpL.cons rfl rfl (WpX.pure (fun _ => rfl) ⟨nolog, ?_⟩)
      | refine WpL.skip rfl rfl ?_
      | refine seqQ_normal ?_
      | refine seqQ_ret ?_
      | refine seqQ_exit ?_
      | refine blkQ_normal ?_
      | refine blkQ_ret ?_
      | refine blkQ_out rfl ?_
      | refine blkQ_by rfl ?_)
    refine WpC.cond rfl (fun _ => ?_) (fun hb => by cases hb)
    repeat' (first
      | refine WpC.seq ?_
      | refine WpC.region ?_
      | refine WpC.drawn ?_
      | refine WpC.skip ?_
      | refine WpC.block ?_
      | refine WpC.exit ?_
      | refine WpC.ret ?_
      | refine WpO.nil ?_
      | refine WpO.cons rfl rfl (WpX.pure (fun _ => rfl) ⟨nolog, ?_⟩)
      | refine WpO.skip rfl rfl ?_
      | refine WpL.cons rfl rfl (WpX.pure (fun _ => rfl) ⟨nolog, ?_⟩)
      | refine WpL.skip rfl rfl ?_
      | refine seqQ_normal ?_
      | refine seqQ_ret ?_
      | refine seqQ_exit ?_
      | refine blkQ_normal ?_
      | refine blkQ_ret ?_
      | refine blkQ_out rfl ?_
      | refine blkQ_by rfl ?_)
    exact out_ret rfl ⟨rfl, .inl ⟨.inl g1, rfl, rfl⟩⟩
  · have e1 : (((cs.length : Nat) : Int) == 1) = false := beq_eq_false_iff_ne.2 (by omega)
    by_cases g2 : a.ws = []
    · have e2 : decide (((a.ws.length : Nat) : Int) > 0) = false := by simp [g2]
      obtain rfl : cap = .upTo 3 := by
        rcases hcap with h | ⟨_, h, _⟩
        · exact h
        · exact absurd h g1
      have hw : IntKind.i64.wrap ((cs.length : Int) - 1) = ((cs.length - 1 : Nat) : Int) := by rw [Go.IntWalk.i64_in _ (by omega)]; omega
      have hub : bound (some (I (IntKind.i64.wrap ((cs.length : Int) - 1)))) cs.length = some (cs.length - 1) := by
        rw [hw]
        show (if (0 : Int) ≤ ((cs.length - 1 : Nat) : Int) then some (((cs.length - 1 : Nat) : Int)).toNat else none) = _
        rw [if_pos (by omega)]; simp
      repeat' (first
        | refine WpC.seq ?_
        | refine WpC.region ?_
        | refine WpC.drawn ?_
        | refine WpC.skip ?_
        | refine WpC.block ?_
        | refine WpC.exit ?_
        | refine WpC.ret ?_
        | refine WpO.nil ?_
        | refine WpO.cons rfl rfl (WpX.pure (fun _ => rfl) ⟨nolog, ?_⟩)
        | refine WpO.skip rfl rfl ?_
        | refine WpL.cons rfl rfl (WpX.pure (fun _ => rfl) ⟨nolog, ?_⟩)
        | refine WpL.skip rfl rfl ?_
        | refine seqQ_normal ?_
        | refine seqQ_ret ?_
        | refine seqQ_exit ?_
        | refine blkQ_normal ?_
        | refine blkQ_ret ?_
        | refine blkQ_out rfl ?_
        | refine blkQ_by rfl ?_
        | refine WpO.cons rfl rfl (op_load rfl rfl rfl hobj rfl ⟨(by simp [InL, Acc.name, rowName] <;> omega), ?_⟩)
        | refine WpL.cons rfl rfl (op_load rfl rfl rfl hobj rfl ⟨(by simp [InL, Acc.name, rowName] <;> omega), ?_⟩)
        | refine WpO.cons rfl rfl (op_len rfl rfl rfl ⟨(by simp [InL, Acc.name, rowName] <;> omega), ?_⟩)
        | refine WpL.cons rfl rfl (op_len rfl rfl rfl ⟨(by simp [InL, Acc.name, rowName] <;> omega), ?_⟩))
      simp only [e1]
      repeat' (first
        | refine WpC.seq ?_
        | refine WpC.region ?_
        | refine WpC.drawn ?_
        | refine WpC.skip ?_
        | refine WpC.block ?_
        | refine WpC.exit ?_
        | refine WpC.ret ?_
        | refine WpO.nil ?_
        | refine WpO.cons rfl rfl (WpX.pure (fun _ => rfl) ⟨nolog, ?_⟩)
        | refine WpO.skip rfl rfl ?_
        | refine WpL.cons rfl rfl (WpX.pure (fun _ => rfl) ⟨nolog, ?_⟩)
        | refine WpL.skip rfl rfl ?_
        | refine seqQ_normal ?_
        | refine seqQ_ret ?_
        | refine seqQ_exit ?_
        | refine blkQ_normal ?_
        | refine blkQ_ret ?_
        | refine blkQ_out rfl ?_
        | refine blkQ_by rfl ?_
        | refine WpO.cons rfl rfl (op_load rfl rfl rfl hg hn1 ⟨(by simp [InL, Acc.name, rowName] <;> omega), ?_⟩)
        | refine WpL.cons rfl rfl (op_load rfl rfl rfl hg hn1 ⟨(by simp [InL, Acc.name, rowName] <;> omega), ?_⟩)
        | refine WpO.cons rfl rfl (op_len rfl rfl rfl ⟨(by simp [InL, Acc.name, rowName] <;> omega), ?_⟩)
        | refine WpL.cons rfl rfl (op_len rfl rfl rfl ⟨(by simp [InL, Acc.name, rowName] <;> omega), ?_⟩))
      simp only [e2]
      repeat' (first
        | refine WpC.seq ?_
        | refine WpC.region ?_
        | refine WpC.drawn ?_
        | refine WpC.skip ?_
        | refine WpC.block ?_
        | refine WpC.exit ?_
        | refine WpC.ret ?_
        | refine WpO.nil ?_
        | refine WpO.cons rfl rfl (WpX.pure (fun _ => rfl) ⟨nolog, ?_⟩)
        | refine WpO.skip rfl rfl ?_
        | refine WpL.cons rfl rfl (WpX.pure (fun _ => rfl) ⟨nolog, ?_⟩)
        | refine WpL.skip rfl rfl ?_
        | refine seqQ_normal ?_
        | refine seqQ_ret ?_
        | refine seqQ_exit ?_
        | refine blkQ_normal ?_
        | refine blkQ_ret ?_
        | refine blkQ_out rfl ?_
        | refine blkQ_by rfl ?_
        | refine WpO.cons rfl rfl (op_load rfl rfl rfl hg hn2 ⟨(by simp [InL, Acc.name, rowName] <;> omega), ?_⟩)
        | refine WpL.cons rfl rfl (op_load rfl rfl rfl hg hn2 ⟨(by simp [InL, Acc.name, rowName] <;> omega), ?_⟩)
        | refine WpO.cons rfl rfl (op_len rfl rfl rfl ⟨(by simp [InL, Acc.name, rowName] <;> omega), ?_⟩)
        | refine WpL.cons rfl rfl (op_len rfl rfl rfl ⟨(by simp [InL, Acc.name, rowName] <;> omega), ?_⟩))
      refine WpC.cond rfl (fun hb => by cases hb) (fun _ => ?_)
      repeat' (first
        | refine WpC.seq ?_
        | refine WpC.region ?_
        | refine WpC.drawn ?_
        | refine WpC.skip ?_
        | refine WpC.block ?_
        | refine WpC.exit ?_
        | refine WpC.ret ?_
        | refine WpO.nil ?_
        | refine WpO.cons rfl rfl (WpX.pure (fun _ => rfl) ⟨nolog, ?_⟩)
        | refine WpO.skip rfl rfl ?_
        | refine WpL.cons rfl rfl (WpX.pure (fun _ => rfl) ⟨nolog, ?_⟩)
        | refine WpL.skip rfl rfl ?_
        | refine seqQ_normal ?_
        | refine seqQ_ret ?_
        | refine seqQ_exit ?_
        | refine blkQ_normal ?_
        | refine blkQ_ret ?_
        | refine blkQ_out rfl ?_
        | refine blkQ_by rfl ?_
        | refine WpO.cons rfl rfl (op_load rfl rfl rfl hg hn0 ⟨(by simp [InL, Acc.name, rowName] <;> omega), ?_⟩)
        | refine WpL.cons rfl rfl (op_load rfl rfl rfl hg hn0 ⟨(by simp [InL, Acc.name, rowName] <;> omega), ?_⟩)
        | refine WpO.cons rfl rfl (op_load rfl rfl rfl hobj rfl ⟨(by simp [InL, Acc.name, rowName] <;> omega), ?_⟩)
        | refine WpL.cons rfl rfl (op_load rfl rfl rfl hobj rfl ⟨(by simp [InL, Acc.name, rowName] <;> omega), ?_⟩)
        | refine WpO.cons rfl rfl (op_len rfl rfl rfl ⟨(by simp [InL, Acc.name, rowName] <;> omega), ?_⟩)
        | refine WpL.cons rfl rfl (op_len rfl rfl rfl ⟨(by simp [InL, Acc.name, rowName] <;> omega), ?_⟩)
        | refine WpO.cons rfl rfl (op_slice (k := 2) rfl rfl rfl rfl rfl (l := 0) rfl hub (by omega) (by omega) rfl ⟨(by simp [InL, Acc.name, rowName] <;> omega), ?_⟩)
        | refine WpL.cons rfl rfl (op_slice (k := 2) rfl rfl rfl rfl rfl (l := 0) rfl hub (by omega) (by omega) rfl ⟨(by simp [InL, Acc.name, rowName] <;> omega), ?_⟩)
        | refine WpO.cons rfl rfl (op_store (k := 1) rfl rfl rfl rfl hobj (Nat.le_of_ble_eq_true rfl) rfl ⟨(by simp [InL, Acc.name, rowName] <;> omega), ?_⟩)
        | refine WpL.cons rfl rfl (op_store (k := 1) rfl rfl rfl rfl hobj (Nat.le_of_ble_eq_true rfl) rfl ⟨(by simp [InL, Acc.name, rowName] <;> omega), ?_⟩))
      refine WpL.nil (logsOk_of (cs := [0, 0, 2, 6, 14, 0, 32, 96, 224, 480, 992, 2046, 4095, 8191, 16383]) (by decide +kernel) ?_) ?_
      · simp +contextual [allP, apP, Dis, acc_rd, acc_wr, accw_rd, accw_wr, Nat.testBit]
      repeat' (first
        | refine WpC.seq ?_
        | refine WpC.region ?_
        | refine WpC.drawn ?_
        | refine WpC.skip ?_
        | refine WpC.block ?_
        | refine WpC.exit ?_
        | refine WpC.ret ?_
        | refine WpO.nil ?_
        | refine WpO.cons rfl rfl (WpX.pure (fun _ => rfl) ⟨nolog, ?_⟩)
        | refine WpO.skip rfl rfl ?_
        | refine WpL.cons rfl rfl (WpX.pure (fun _ => rfl) ⟨nolog, ?_⟩)
        | refine WpL.skip rfl rfl ?_
        | refine seqQ_normal ?_
        | refine seqQ_ret ?_
        | refine seqQ_exit ?_
        | refine blkQ_normal ?_
        | refine blkQ_ret ?_
        | refine blkQ_out rfl ?_
        | refine blkQ_by rfl ?_)
      have e : (V.slice (some (s, 0 + 0 * (2 + 1))) (cs.length - 1 - 0) (.upTo 3)) = .slice (some (s, 0)) (cs.length - 1) (.upTo 3) := by simp
      refine out_ret rfl ⟨rfl, .inr ⟨by omega, g2, rfl, .slice (some (s, 0)) (cs.length - 1) (.upTo 3), rfl, ?_⟩⟩
      exact r.pop hz (by omega) hs hg hj
    · have hgt := List.length_pos_iff.2 g2
      have e2 : decide (((a.ws.length : Nat) : Int) > 0) = true := by simp; omega
      repeat' (first
        | refine WpC.seq ?_
        | refine WpC.region ?_
        | refine WpC.drawn ?_
        | refine WpC.skip ?_
        | refine WpC.block ?_
        | refine WpC.exit ?_
        | refine WpC.ret ?_
        | refine WpO.nil ?_
        | refine WpO.cons rfl rfl (WpX.pure (fun _ => rfl) ⟨nolog, ?_⟩)
        | refine WpO.skip rfl rfl ?_
        | refine WpL.cons rfl rfl (WpX.pure (fun _ => rfl) ⟨nolog, ?_⟩)
        | refine WpL.skip rfl rfl ?_
        | refine seqQ_normal ?_
        | refine seqQ_ret ?_
        | refine seqQ_exit ?_
        | refine blkQ_normal ?_
        | refine blkQ_ret ?_
        | refine blkQ_out rfl ?_
        | refine blkQ_by rfl ?_
        | refine WpO.cons rfl rfl (op_load rfl rfl rfl hobj rfl ⟨(by simp [InL, Acc.name, rowName] <;> omega), ?_⟩)
        | refine WpL.cons rfl rfl (op_load rfl rfl rfl hobj rfl ⟨(by simp [InL, Acc.name, rowName] <;> omega), ?_⟩)
        | refine WpO.cons rfl rfl (op_len rfl rfl rfl ⟨(by simp [InL, Acc.name, rowName] <;> omega), ?_⟩)
        | refine WpL.cons rfl rfl (op_len rfl rfl rfl ⟨(by simp [InL, Acc.name, rowName] <;> omega), ?_⟩))
      simp only [e1]
      repeat' (first
        | refine WpC.seq ?_
        | refine WpC.region ?_
        | refine WpC.drawn ?_
        | refine WpC.skip ?_
        | refine WpC.block ?_
        | refine WpC.exit ?_
        | refine WpC.ret ?_
        | refine WpO.nil ?_
        | refine WpO.cons rfl rfl (WpX.pure (fun _ => rfl) ⟨nolog, ?_⟩)
        | refine WpO.skip rfl rfl ?_
        | refine WpL.cons rfl rfl (WpX.pure (fun _ => rfl) ⟨nolog, ?_⟩)
        | refine WpL.skip rfl rfl ?_
        | refine seqQ_normal ?_
        | refine seqQ_ret ?_
        | refine seqQ_exit ?_
        | refine blkQ_normal ?_
        | refine blkQ_ret ?_
        | refine blkQ_out rfl ?_
        | refine blkQ_by rfl ?_
        | refine WpO.cons rfl rfl (op_load rfl rfl rfl hg hn1 ⟨(by simp [InL, Acc.name, rowName] <;> omega), ?_⟩)
        | refine WpL.cons rfl rfl (op_load rfl rfl rfl hg hn1 ⟨(by simp [InL, Acc.name, rowName] <;> omega), ?_⟩)
        | refine WpO.cons rfl rfl (op_len rfl rfl rfl ⟨(by simp [InL, Acc.name, rowName] <;> omega), ?_⟩)
        | refine WpL.cons rfl rfl (op_len rfl rfl rfl ⟨(by simp [InL, Acc.name, rowName] <;> omega), ?_⟩))
      simp only [e2]
      repeat' (first
        | refine WpC.seq ?_
        | refine WpC.region ?_
        | refine WpC.drawn ?_
        | refine WpC.skip ?_
        | refine WpC.block ?_
        | refine WpC.exit ?_
        | refine WpC.ret ?_
        | refine WpO.nil ?_
        | refine WpO.cons rfl rfl (WpX.pure (fun _ => rfl) ⟨nolog, ?_⟩)
        | refine WpO.skip rfl rfl ?_
        | refine WpL.cons rfl rfl (WpX.pure (fun _ => rfl) ⟨nolog, ?_⟩)
        | refine WpL.skip rfl rfl ?_
        | refine seqQ_normal ?_
        | refine seqQ_ret ?_
        | refine seqQ_exit ?_
        | refine blkQ_normal ?_
        | refine blkQ_ret ?_
        | refine blkQ_out rfl ?_
        | refine blkQ_by rfl ?_)
      refine WpC.cond rfl (fun _ => ?_) (fun hb => by cases hb)
      repeat' (first
        | refine WpC.seq ?_
        | refine WpC.region ?_
        | refine WpC.drawn ?_
        | refine WpC.skip ?_
        | refine WpC.block ?_
        | refine WpC.exit ?_
        | refine WpC.ret ?_
        | refine WpO.nil ?_
        | refine WpO.cons rfl rfl (WpX.pure (fun _ => rfl) ⟨nolog, ?_⟩)
        | refine WpO.skip rfl rfl ?_
        | refine WpL.cons rfl rfl (WpX.pure (fun _ => rfl) ⟨nolog, ?_⟩)
        | refine WpL.skip rfl rfl ?_
        | refine seqQ_normal ?_
        | refine seqQ_ret ?_
        | refine seqQ_exit ?_
        | refine blkQ_normal ?_
        | refine blkQ_ret ?_
        | refine blkQ_out rfl ?_
        | refine blkQ_by rfl ?_)
      exact out_ret rfl ⟨rfl, .inl ⟨.inr g2, rfl, rfl⟩⟩
end Go.Proofs.Ytempfmkicpifkaa.Ps
