/- ProcStack: Call. -/
import Derived.Test.YtempfmkicpifkaaPsR
set_option linter.unusedVariables false
set_option linter.unusedSectionVars false
set_option linter.unusedSimpArgs false
set_option linter.unnecessarySimpa false
namespace Go.Proofs.Ytempfmkicpifkaa.Ps
open Go.Ab
set_option maxRecDepth 10000
/-- Onto a full row of known capacity. -/
theorem append_full {h : HH} {c : Nat} {st el k : Nat} {ts : List Nat} {r : List V} {xt el' : Nat} {cap' : Cap} {m o n q len : Nat} {rw cl rw2 cl2 : Bool} {cs new cs2 old : List V} (T : ElT cx st el k) (hxt : cx.desc xt = some (.slice el')) (hn : 0 < n) (hl : 0 < len) (hle : len + n ≤ 1000000000)
    (hx : MapI.get h m = some (.cells rw cl cs)) (hc : cut cs o (n * (k + 1)) = some new) (hq : MapI.get h q = some (.cells rw2 cl2 cs2)) (ho : cut cs2 0 (len * (k + 1)) = some old) :
    appendM cx (st :: xt :: ts) (.slice (some (q, 0)) len (.known len) :: .slice (some (m, o)) n cap' :: r) h c = .ok (.slice (some (c, 0)) (len + n) (.upTo (k + 1))) (MapI.set h c (.cells true true (old ++ new))) (c + 1) [.rd m, .rd q, .wr c] := by
  obtain ⟨i, hi, hb⟩ := T.ty
  unfold appendM
  simp only [T.desc, hi, T.size]
  have e1 : appendedM cx el (k + 1) (List.head? (xt :: ts)) (.slice (some (m, o)) n cap') h c = .ok (n, new) h c ([.rd m] ++ []) := by
    unfold appendedM
    simp only [List.head?_cons, hxt]
    exact bnd_eq (first_ok hn (Nat.le_refl _) hx hc) rfl
  refine bnd_eq (l' := [.rd q, .wr c]) e1 ?_
  simp only [T.zero]
  rw [if_pos ⟨cut_len hc, hle, hb, trivial⟩]
  rw [if_neg (by omega)]
  exact bnd_eq (l := [.rd q]) (l' := [.wr c]) (first_ok hl (Nat.le_refl _) hq ho) rfl
variable {h : HH} {c p : Nat} {R : PRest} {stack : Int} {cv : V} {cs : List Cal}
theorem app_cases {α : Type} {cs : List α} {x b : α} {j : Nat} (h : (cs ++ [x])[j]? = some b) : cs[j]? = some b ∨ (j = cs.length ∧ b = x) := by
  by_cases hj : j < cs.length
  · rw [List.getElem?_append_left hj] at h; exact .inl h
  · rw [List.getElem?_append_right (by omega)] at h
    obtain ⟨h1, h2⟩ := List.getElem?_eq_some_iff.1 h
    have hj0 : j - cs.length = 0 := by simpa using h1
    have : b = x := by rw [← h2]; simp [hj0]
    exact .inr ⟨by omega, this⟩
theorem ProcAt.push {h2 : HH} {c2 : Nat} {v2 : V} {k : Int} (r : ProcAt h c p R stack cv cs) (hc : CallsAt h2 c2 v2 (cs ++ [⟨k, none, []⟩])) (hcc : c ≤ c2) (hf : ∀ n, n < c → n ∉ rowName cv → MapI.get h2 n = MapI.get h n) (hn : ∀ a ∈ rowName v2, a ∈ rowName cv ∨ c ≤ a) :
    ProcAt (MapI.set h2 p (.cells true true (procC R stack v2))) c2 p R stack v2 (cs ++ [⟨k, none, []⟩]) := by
  have hlp := r.lp
  have hpv : p ∉ rowName v2 := fun hm => by
    rcases hn p hm with h | h
    · exact r.np h
    · omega
  obtain ⟨s, cap, cl, junk, h1, h2', h3, h4, h5, h6⟩ := hc
  have hsp : p ≠ s := fun e => hpv (by rw [h1]; simp [rowName, e])
  have hold : ∀ (j : Nat) (b : Cal), (cs ++ [⟨k, none, []⟩])[j]? = some b → ∀ n ∈ rowName b.fr, cs[j]? = some b := fun j b hb n hm => by
    rcases app_cases hb with h | ⟨_, h⟩
    · exact h
    · subst h; cases hm
  refine ⟨MapI.get_same _ _ _, ⟨s, cap, cl, junk, h1, h2', h3, by rw [MapI.get_ne _ _ _ _ hsp]; exact h4, h5, h6⟩, fun j b hb => ?_, by omega, hpv, fun j b hb n hm => ?_, fun i j a b hij ha hb n hm hm2 => r.ff i j a b hij (hold i a ha n hm) (hold j b hb n hm2) n hm hm2⟩
  · rcases app_cases hb with h | ⟨_, h⟩
    · exact (r.frames j b h).keep hcc fun n hn hm => by
        have := r.nf j b h n hm
        rw [MapI.get_ne _ _ _ _ (Ne.symm this.1)]
        exact hf n hn this.2
    · subst h; exact .nil
  · have h := hold j b hb n hm
    have h8 := r.nf j b h n hm
    refine ⟨h8.1, fun hm2 => ?_⟩
    rcases hn n hm2 with h | h
    · exact h8.2 h
    · have := (r.frames j b (hold j b hb n hm)).lt n hm; omega
theorem call_ok {k : Int} (r : ProcAt h c p R stack cv cs) (hlen : cs.length ≤ 900) (hd : ∀ i, depth (cs.take i) ≤ 100000) (hw : ∀ (i : Nat) (a : Cal), cs[i]? = some a → a.ws.length ≤ 100000) :
    Does 18 [.ptr (some (p, 0)), I k] h c (p :: rowName cv) fun v h' c' => (stack ≤ depth cs ∧ v = .bool false ∧ ∀ n, n < c → MapI.get h' n = MapI.get h n) ∨
      ((depth cs : Int) < stack ∧ v = .bool true ∧ ∃ cv', ProcAt h' c' p R stack cv' (cs ++ [⟨k, none, []⟩]) ∧ ∀ x ∈ rowName cv', x ∈ rowName cv ∨ c ≤ x) := by
  have hlp := r.lp
  refine does_of (enter (fn := Try.f18) Try.func18 rfl rfl (Nat.le_of_ble_eq_true rfl) ?_)
  repeat' (first
    | refine WpC.seq ?_
    | refine WpC.region ?_
    | refine WpC.drawn ?_
    | refine WpC.skip ?_
    | refine WpC.block ?_
    | refine WpC.exit ?_
    | refine WpC.ret ?_
    | refine WpO.nil ?_
    | refine WpO.cons rfl rfl (WpX.pure (fun _ => rfl) ⟨nolog, ?_⟩)
    | refine WpO.skip rfl rfl ?_
    | refine WpL.cons rfl rfl (WpX.pure (fun _ => rfl) ⟨nolog, ?_⟩)
    | refine WpL.skip rfl rfl ?_
    | refine seqQ_normal ?_
    | refine seqQ_ret ?_
    | refine seqQ_exit ?_
    | refine blkQ_normal ?_
    | refine blkQ_ret ?_
    | refine blkQ_out rfl ?_
    | refine blkQ_by rfl ?_)
  refine WpL.cons rfl rfl (call_atRL rfl (livesR r) (fun n hn => .inl (by simp at hn; simp [hn])) (Nat.le_refl _) fun v h4 c4 al1 hal1 hc4 hfr4 hq => ?_)
  obtain ⟨rfl, e4, e4c⟩ := hq
  have e4 := e4.symm
  subst e4
  have e4c := e4c.symm
  subst e4c
  repeat' (first
    | refine WpC.seq ?_
    | refine WpC.region ?_
    | refine WpC.drawn ?_
    | refine WpC.skip ?_
    | refine WpC.block ?_
    | refine WpC.exit ?_
    | refine WpC.ret ?_
    | refine WpO.nil ?_
    | refine WpO.cons rfl rfl (WpX.pure (fun _ => rfl) ⟨nolog, ?_⟩)
    | refine WpO.skip rfl rfl ?_
    | refine WpL.cons rfl rfl (WpX.pure (fun _ => rfl) ⟨nolog, ?_⟩)
    | refine WpL.skip rfl rfl ?_
    | refine seqQ_normal ?_
    | refine seqQ_ret ?_
    | refine seqQ_exit ?_
    | refine blkQ_normal ?_
    | refine blkQ_ret ?_
    | refine blkQ_out rfl ?_
    | refine blkQ_by rfl ?_)
  refine WpL.cons rfl rfl (call_atRL rfl (depthR r (by omega) hd hw) (fun n hn => .inl hn) (Nat.le_refl _) fun v h5 c5 al2 hal2 hc5 hfr5 hq => ?_)
  obtain ⟨rfl, _⟩ := hq
  have r5 := r.keep hc5 hfr5
  have hobj := r5.obj
  have hD : ∀ x ∈ al2, x.name = p → x.writes = false := fun x hx e => by
    cases hw : x.writes with
    | false => rfl
    | true => have := (hal2 x hx).2 hw; omega
  repeat' (first
    | refine WpC.seq ?_
    | refine WpC.region ?_
    | refine WpC.drawn ?_
    | refine WpC.skip ?_
    | refine WpC.block ?_
    | refine WpC.exit ?_
    | refine WpC.ret ?_
    | refine WpO.nil ?_
    | refine WpO.cons rfl rfl (WpX.pure (fun _ => rfl) ⟨nolog, ?_⟩)
    | refine WpO.skip rfl rfl ?_
    | refine WpL.cons rfl rfl (WpX.pure (fun _ => rfl) ⟨nolog, ?_⟩)
    | refine WpL.skip rfl rfl ?_
    | refine seqQ_normal ?_
    | refine seqQ_ret ?_
    | refine seqQ_exit ?_
    | refine blkQ_normal ?_
    | refine blkQ_ret ?_
    | refine blkQ_out rfl ?_
    | refine blkQ_by rfl ?_
    | refine WpO.cons rfl rfl (op_load rfl rfl rfl hobj rfl ⟨(by simp [InL, Acc.name, rowName] <;> omega), ?_⟩)
    | refine WpL.cons rfl rfl (op_load rfl rfl rfl hobj rfl ⟨(by simp [InL, Acc.name, rowName] <;> omega), ?_⟩))
  refine WpL.nil (logsOk_of (cs := [0, 1, 3, 7, 15, 31, 15, 79, 207, 463, 1023, 2047]) (by decide +kernel) ?_) ?_
  · simp +contextual [allP, apP, Dis, acc_rd, acc_wr, accw_rd, accw_wr, Nat.testBit, hD]
  refine WpC.cond rfl (fun hb => ?_) (fun hb => ?_)
  · have hb : stack ≤ depth cs := by simpa using hb
    repeat' (first
      | refine WpC.seq ?_
      | refine WpC.region ?_
      | refine WpC.drawn ?_
      | refine WpC.skip ?_
      | refine WpC.block ?_
      | refine WpC.exit ?_
      | refine WpC.ret ?_
      | refine WpO.nil ?_
      | refine WpO.cons rfl rfl (WpX.pure (fun _ => rfl) ⟨nolog, ?_⟩)
      | refine WpO.skip rfl rfl ?_
      | refine WpL.cons rfl rfl (WpX.pure (fun _ => rfl) ⟨nolog, ?_⟩)
      | refine WpL.skip rfl rfl ?_
      | refine seqQ_normal ?_
      | refine seqQ_ret ?_
      | refine seqQ_exit ?_
      | refine blkQ_normal ?_
      | refine blkQ_ret ?_
      | refine blkQ_out rfl ?_
      | refine blkQ_by rfl ?_)
    exact out_ret rfl (.inl ⟨hb, rfl, hfr5⟩)
  have hb : (depth cs : Int) < stack := by simpa using hb
  obtain ⟨s, cap, cl, junk, hcv, hcap, hs, hg, hj, h0⟩ := r5.calls
  have hnp := r5.np
  have hsp : s ≠ p := fun e => hnp (by rw [hcv]; simp [rowName, e])
  have hlp5 := r5.lp
  have hlc : ∀ x ∈ rowName cv, x < c5 := fun x hx => by rw [hcv] at hx; simp [rowName] at hx; omega
  have hobjx : ∀ x : AObj, MapI.get (MapI.set h5 c5 x) p = some (.cells true true (procC R stack cv)) := fun x => by rw [MapI.get_ne _ _ _ _ (by omega)]; exact hobj
  have hgx : ∀ x : AObj, MapI.get (MapI.set h5 c5 x) s = some (.cells true cl (flat callC cs ++ junk)) := fun x => by rw [MapI.get_ne _ _ _ _ (by omega)]; exact hg
  rcases hcap with rfl | ⟨rfl, hone1, rfl⟩
  · have hlo : ∀ x : AObj, ListOf (2 + 1) callC (MapI.set h5 c5 x) (c5 + 1) cv cs := fun x => .inr ⟨s, cl, junk, hcv, by omega, hgx x, hj⟩
    repeat' (first
      | refine WpC.seq ?_
      | refine WpC.region ?_
      | refine WpC.drawn ?_
      | refine WpC.skip ?_
      | refine WpC.block ?_
      | refine WpC.exit ?_
      | refine WpC.ret ?_
      | refine WpO.nil ?_
      | refine WpO.cons rfl rfl (WpX.pure (fun _ => rfl) ⟨nolog, ?_⟩)
      | refine WpO.skip rfl rfl ?_
      | refine WpL.cons rfl rfl (WpX.pure (fun _ => rfl) ⟨nolog, ?_⟩)
      | refine WpL.skip rfl rfl ?_
      | refine seqQ_normal ?_
      | refine seqQ_ret ?_
      | refine seqQ_exit ?_
      | refine blkQ_normal ?_
      | refine blkQ_ret ?_
      | refine blkQ_out rfl ?_
      | refine blkQ_by rfl ?_
      | refine WpO.cons rfl rfl (op_load rfl rfl rfl hobj rfl ⟨(by simp [InL, Acc.name, rowName] <;> omega), ?_⟩)
      | refine WpL.cons rfl rfl (op_load rfl rfl rfl hobj rfl ⟨(by simp [InL, Acc.name, rowName] <;> omega), ?_⟩)
      | refine WpO.cons rfl rfl (op_buildSlice (k := 3) rfl rfl rfl rfl (by decide) rfl ⟨(by simp [InL, Acc.name, rowName] <;> omega), ?_⟩)
      | refine WpL.cons rfl rfl (op_buildSlice (k := 3) rfl rfl rfl rfl (by decide) rfl ⟨(by simp [InL, Acc.name, rowName] <;> omega), ?_⟩))
    refine WpO.cons rfl rfl (append_at (ys := [⟨k, none, []⟩]) rfl rfl elC rfl call_len call_all (hlo _) (MapI.get_same _ _ _) rfl rfl (by omega) (.inr (by simp [Acc.name]; omega)) (fun a ha => ⟨.inl (by simp [Acc.name, ha]), .inl (by simp [Acc.name, ha])⟩) (.inr (by simp [Acc.name]; omega)) fun v2 h2 c2 hl2 hn2 hc2 hf2 => ?_)
    have hone := hl2.one
    have hobj2 : MapI.get h2 p = some (.cells true true (procC R stack cv)) := by rw [hf2 p (by omega) hnp]; exact hobjx _
    repeat' (first
      | refine WpC.seq ?_
      | refine WpC.region ?_
      | refine WpC.drawn ?_
      | refine WpC.skip ?_
      | refine WpC.block ?_
      | refine WpC.exit ?_
      | refine WpC.ret ?_
      | refine WpO.nil ?_
      | refine WpO.cons rfl rfl (WpX.pure (fun _ => rfl) ⟨nolog, ?_⟩)
      | refine WpO.skip rfl rfl ?_
      | refine WpL.cons rfl rfl (WpX.pure (fun _ => rfl) ⟨nolog, ?_⟩)
      | refine WpL.skip rfl rfl ?_
      | refine seqQ_normal ?_
      | refine seqQ_ret ?_
      | refine seqQ_exit ?_
      | refine blkQ_normal ?_
      | refine blkQ_ret ?_
      | refine blkQ_out rfl ?_
      | refine blkQ_by rfl ?_
      | refine WpO.cons rfl rfl (op_store (k := 1) rfl rfl rfl (by rw [hone.1]; rfl) hobj2 (Nat.le_of_ble_eq_true rfl) (by rw [hone.1]; simp [hone.2]) ⟨(by simp [InL, Acc.name, rowName] <;> omega), ?_⟩)
      | refine WpL.cons rfl rfl (op_store (k := 1) rfl rfl rfl (by rw [hone.1]; rfl) hobj2 (Nat.le_of_ble_eq_true rfl) (by rw [hone.1]; simp [hone.2]) ⟨(by simp [InL, Acc.name, rowName] <;> omega), ?_⟩))
    have hn2' : ∀ a ∈ rowName v2, a ∈ rowName cv ∨ c5 ≤ a := fun a ha => by
      rcases hn2 a ha with h | ⟨h, _⟩
      · exact .inl h
      · exact .inr (by omega)
    have hca : CallsAt h2 c2 v2 (cs ++ [⟨k, none, []⟩]) := by
      rcases hl2 with ⟨_, h⟩ | ⟨s2, cl2, jk2, e1, e2, e3, e4⟩
      · simp at h
      · exact ⟨s2, _, cl2, jk2, e1, .inl rfl, e2, e3, e4, by simp⟩
    have hpush := r5.push hca (by omega) (fun n hn hm => by rw [hf2 n (by omega) hm, MapI.get_ne _ _ _ _ (by omega)]) hn2'
    refine out_ret rfl (.inr ⟨hb, rfl, v2, ?_, fun x hx => ?_⟩)
    · rw [hone.1]; exact hpush
    · rcases hn2' x hx with h | h
      · exact .inl h
      · exact .inr (by omega)
  · rw [hone1] at hcv
    subst hcv
    have ho : cut (flat callC cs ++ []) 0 (1 * (2 + 1)) = some (flat callC cs) := by
      rw [List.append_nil]
      have e := cut_all (cs := flat callC cs)
      rw [flat_length call_len, hone1] at e
      exact e
    repeat' (first
      | refine WpC.seq ?_
      | refine WpC.region ?_
      | refine WpC.drawn ?_
      | refine WpC.skip ?_
      | refine WpC.block ?_
      | refine WpC.exit ?_
      | refine WpC.ret ?_
      | refine WpO.nil ?_
      | refine WpO.cons rfl rfl (WpX.pure (fun _ => rfl) ⟨nolog, ?_⟩)
      | refine WpO.skip rfl rfl ?_
      | refine WpL.cons rfl rfl (WpX.pure (fun _ => rfl) ⟨nolog, ?_⟩)
      | refine WpL.skip rfl rfl ?_
      | refine seqQ_normal ?_
      | refine seqQ_ret ?_
      | refine seqQ_exit ?_
      | refine blkQ_normal ?_
      | refine blkQ_ret ?_
      | refine blkQ_out rfl ?_
      | refine blkQ_by rfl ?_
      | refine WpO.cons rfl rfl (op_load rfl rfl rfl hobj rfl ⟨(by simp [InL, Acc.name, rowName] <;> omega), ?_⟩)
      | refine WpL.cons rfl rfl (op_load rfl rfl rfl hobj rfl ⟨(by simp [InL, Acc.name, rowName] <;> omega), ?_⟩)
      | refine WpO.cons rfl rfl (op_buildSlice (k := 3) rfl rfl rfl rfl (by decide) rfl ⟨(by simp [InL, Acc.name, rowName] <;> omega), ?_⟩)
      | refine WpL.cons rfl rfl (op_buildSlice (k := 3) rfl rfl rfl rfl (by decide) rfl ⟨(by simp [InL, Acc.name, rowName] <;> omega), ?_⟩)
      | refine WpO.cons rfl rfl (op_append rfl rfl (append_full elC rfl (by omega) (by omega) (by omega) (MapI.get_same _ _ _) rfl (hgx _) ho) ⟨(by simp [InL, Acc.name, rowName] <;> omega), ?_⟩)
      | refine WpL.cons rfl rfl (op_append rfl rfl (append_full elC rfl (by omega) (by omega) (by omega) (MapI.get_same _ _ _) rfl (hgx _) ho) ⟨(by simp [InL, Acc.name, rowName] <;> omega), ?_⟩))
    have hobj2 : ∀ x y : AObj, MapI.get (MapI.set (MapI.set h5 c5 x) (c5 + 1) y) p = some (.cells true true (procC R stack (.slice (some (s, 0)) 1 (.known 1)))) := fun x y => by rw [MapI.get_ne _ _ _ _ (by omega)]; exact hobjx _
    repeat' (first
      | refine WpC.seq ?_
      | refine WpC.region ?_
      | refine WpC.drawn ?_
      | refine WpC.skip ?_
      | refine WpC.block ?_
      | refine WpC.exit ?_
      | refine WpC.ret ?_
      | refine WpO.nil ?_
      | refine WpO.cons rfl rfl (WpX.pure (fun _ => rfl) ⟨nolog, ?_⟩)
      | refine WpO.skip rfl rfl ?_
      | refine WpL.cons rfl rfl (WpX.pure (fun _ => rfl) ⟨nolog, ?_⟩)
      | refine WpL.skip rfl rfl ?_
      | refine seqQ_normal ?_
      | refine seqQ_ret ?_
      | refine seqQ_exit ?_
      | refine blkQ_normal ?_
      | refine blkQ_ret ?_
      | refine blkQ_out rfl ?_
      | refine blkQ_by rfl ?_
      | refine WpO.cons rfl rfl (op_store (k := 1) rfl rfl rfl rfl (hobj2 _ _) (Nat.le_of_ble_eq_true rfl) rfl ⟨(by simp [InL, Acc.name, rowName] <;> omega), ?_⟩)
      | refine WpL.cons rfl rfl (op_store (k := 1) rfl rfl rfl rfl (hobj2 _ _) (Nat.le_of_ble_eq_true rfl) rfl ⟨(by simp [InL, Acc.name, rowName] <;> omega), ?_⟩))
    have hca : ∀ x : AObj, CallsAt (MapI.set (MapI.set h5 c5 x) (c5 + 1) (.cells true true (flat callC cs ++ callC ⟨k, none, []⟩))) (c5 + 1 + 1) (.slice (some (c5 + 1, 0)) (1 + 1) (.upTo (2 + 1))) (cs ++ [⟨k, none, []⟩]) := fun x =>
      ⟨c5 + 1, _, true, [], by simp [hone1], .inl rfl, by omega, by rw [MapI.get_same, List.append_nil, flat_append]; simp [flat], rfl, by simp⟩
    have hpush := fun x => r5.push (hca x) (by omega) (fun n hn hm => by rw [MapI.get_ne _ _ _ _ (by omega), MapI.get_ne _ _ _ _ (by omega)]) (fun a ha => .inr (by simp [rowName] at ha; omega))
    exact out_ret rfl (.inr ⟨hb, rfl, .slice (some (c5 + 1, 0)) (1 + 1) (.upTo (2 + 1)), hpush _, fun x hx => .inr (by simp [rowName] at hx; omega)⟩)
end Go.Proofs.Ytempfmkicpifkaa.Ps
