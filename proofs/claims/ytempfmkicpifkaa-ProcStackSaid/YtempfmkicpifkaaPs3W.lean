/- ProcStack: frames that are written. -/
import Derived.Test.YtempfmkicpifkaaPs2W
set_option linter.unusedVariables false
set_option linter.unusedSectionVars false
set_option linter.unusedSimpArgs false
set_option linter.unnecessarySimpa false
namespace Go.Proofs.Ytempfmkicpifkaa.Ps
open Go.Ab
set_option maxRecDepth 10000
theorem set_word {junk : List V} {y : Int} : ∀ {cs : List Int} {k : Nat}, k < cs.length → setAll (flat wordV cs ++ junk) k [.int .u64 y] = flat wordV (cs.set k y) ++ junk
  | [], _, h => by simp at h
  | x :: cs, 0, _ => by simp [flat, wordV, setAll, ovr]
  | x :: cs, k + 1, h => by
    have := set_word (junk := junk) (y := y) (cs := cs) (k := k) (by simpa using h)
    simp only [flat_cons, List.append_assoc, List.set_cons_succ] at this ⊢
    simp only [wordV, List.cons_append, List.nil_append, setAll, this]
theorem set_call1 {junk : List V} {a b : Cal} (hb : b.back = a.back) : ∀ {cs : List Cal} {i : Nat}, cs[i]? = some a → setAll (flat callC cs ++ junk) (i * 3 + 1) [b.fr] = flat callC (cs.set i b) ++ junk
  | [], _, h => by simp at h
  | y :: cs, 0, h => by simp at h; subst h; simp [flat, callC, setAll, ovr, hb]
  | y :: cs, i + 1, h => by
    have := set_call1 (junk := junk) hb (cs := cs) (i := i) (by simpa using h)
    rw [show (i + 1) * 3 + 1 = i * 3 + 1 + 3 from by omega]
    simp only [flat_cons, List.append_assoc, List.set_cons_succ] at this ⊢
    simp only [callC, List.cons_append, List.nil_append, setAll, this]
theorem set_cases {α : Type} {cs : List α} {i j : Nat} {a b : α} (h : (cs.set i a)[j]? = some b) : (j = i ∧ b = a) ∨ (j ≠ i ∧ cs[j]? = some b) := by
  rw [List.getElem?_set] at h
  split at h
  · next e =>
    split at h
    · cases h; exact .inl ⟨e.symm, rfl⟩
    · cases h
  · next e => exact .inr ⟨fun x => e x.symm, h⟩

theorem set_ok {h : HH} {c k : Nat} {v : V} {ws : List Int} {z : Int} (r : ListOf 1 wordV h c v ws) (hk : k < ws.length) :
    Does 96 [v, I k, .int .u64 z] h c (rowName v) fun v' h' c' => v' = .bool true ∧ c' = c ∧ ListOf 1 wordV h' c v (ws.set k z) := by
  obtain ⟨s, cap, rfl, hs⟩ := r.shape
  obtain ⟨rfl, sn, cl, junk, rfl, hsn, hg, hj⟩ := hs k hk
  refine does_of (enter (fn := Try.f96) Try.func96 rfl rfl (Nat.le_of_ble_eq_true rfl) ?_)
  have e1 : decide (((k : Nat) : Int) < 0) = false := by simp
  have e2 : decide (((k : Nat) : Int) ≥ (ws.length : Int)) = false := by simp; omega
  have hfl : 0 + ((k : Nat) : Int).toNat * 1 + 1 ≤ (flat wordV ws ++ junk).length := by
    rw [List.length_append, flat_length word_len]; simp; omega
  have es : setAll (flat wordV ws ++ junk) (0 + ((k : Nat) : Int).toNat * 1) [.int .u64 z] = flat wordV (ws.set k z) ++ junk := by
    rw [show 0 + ((k : Nat) : Int).toNat * 1 = k from by simp]; exact set_word hk
  repeat' (first
    | refine WpC.seq ?_
    | refine WpC.region ?_
    | refine WpC.drawn ?_
    | refine WpC.skip ?_
    | refine WpC.block ?_
    | refine WpC.exit ?_
    | refine WpC.ret ?_
    | refine WpO.nil ?_
    | refine WpO.cons rfl rfl (WpX.pure (fun _ => rfl) ⟨nolog, ?_⟩)
    | refine WpO.skip rfl rfl ?_
    | refine WpL.cons rfl rfl (WpX.pure (fun _ => rfl) ⟨nolog, ?_⟩)
    | refine WpL.skip rfl rfl ?_
    | refine seqQ_normal ?_
    | refine seqQ_ret ?_
    | refine seqQ_exit ?_
    | refine blkQ_normal ?_
    | refine blkQ_ret ?_
    | refine blkQ_out rfl ?_
    | refine blkQ_by rfl ?_)
  simp only [e1]
  repeat' (first
    | refine WpC.seq ?_
    | refine WpC.region ?_
    | refine WpC.drawn ?_
    | refine WpC.skip ?_
    | refine WpC.block ?_
    | refine WpC.exit ?_
    | refine WpC.ret ?_
    | refine WpO.nil ?_
    | refine WpO.cons rfl rfl (WpX.pure (fun _ => rfl) ⟨nolog, ?_⟩)
    | refine WpO.skip rfl rfl ?_
    | refine WpL.cons rfl rfl (WpX.pure (fun _ => rfl) ⟨nolog, ?_⟩)
    | refine WpL.skip rfl rfl ?_
    | refine seqQ_normal ?_
    | refine seqQ_ret ?_
    | refine seqQ_exit ?_
    | refine blkQ_normal ?_
    | refine blkQ_ret ?_
    | refine blkQ_out rfl ?_
    | refine blkQ_by rfl ?_
    | refine WpO.cons rfl rfl (op_len rfl rfl rfl ⟨(by simp [InL, Acc.name, rowName] <;> omega), ?_⟩)
    | refine WpL.cons rfl rfl (op_len rfl rfl rfl ⟨(by simp [InL, Acc.name, rowName] <;> omega), ?_⟩))
  simp only [e2]
  refine WpC.cond rfl (fun hb => by cases hb) (fun _ => ?_)
  repeat' (first
    | refine WpC.seq ?_
    | refine WpC.region ?_
    | refine WpC.drawn ?_
    | refine WpC.skip ?_
    | refine WpC.block ?_
    | refine WpC.exit ?_
    | refine WpC.ret ?_
    | refine WpO.nil ?_
    | refine WpO.cons rfl rfl (WpX.pure (fun _ => rfl) ⟨nolog, ?_⟩)
    | refine WpO.skip rfl rfl ?_
    | refine WpL.cons rfl rfl (WpX.pure (fun _ => rfl) ⟨nolog, ?_⟩)
    | refine WpL.skip rfl rfl ?_
    | refine seqQ_normal ?_
    | refine seqQ_ret ?_
    | refine seqQ_exit ?_
    | refine blkQ_normal ?_
    | refine blkQ_ret ?_
    | refine blkQ_out rfl ?_
    | refine blkQ_by rfl ?_
    | refine WpO.cons rfl rfl (op_indexAddr (k := 1) rfl rfl rfl rfl ⟨by omega, by omega⟩ ⟨(by simp [InL, Acc.name, rowName] <;> omega), ?_⟩)
    | refine WpL.cons rfl rfl (op_indexAddr (k := 1) rfl rfl rfl rfl ⟨by omega, by omega⟩ ⟨(by simp [InL, Acc.name, rowName] <;> omega), ?_⟩)
    | refine WpO.cons rfl rfl (op_store (k := 1) rfl rfl rfl rfl hg hfl rfl ⟨(by simp [InL, Acc.name, rowName] <;> omega), ?_⟩)
    | refine WpL.cons rfl rfl (op_store (k := 1) rfl rfl rfl rfl hg hfl rfl ⟨(by simp [InL, Acc.name, rowName] <;> omega), ?_⟩))
  exact out_ret rfl ⟨rfl, rfl, .inr ⟨sn, cl, junk, by simp, hsn, (MapI.get_same (S := HH) (α := AObj) _ _ _).trans (congrArg (fun x => some (AObj.cells true cl x)) es), hj⟩⟩

theorem nils_ok {h : HH} {c n : Nat} (hn : n ≤ 1000) : Does 95 [I n] h c [] fun v h' c' => ∃ (ws : List Int), ws.length = n ∧ ListOf 1 wordV h' c' v ws ∧ (∀ a ∈ rowName v, c ≤ a) := by
  refine does_of (enter (fn := Try.f95) Try.func95 rfl rfl (Nat.le_of_ble_eq_true rfl) ?_)
  repeat' (first
    | refine WpC.seq ?_
    | refine WpC.region ?_
    | refine WpC.drawn ?_
    | refine WpC.skip ?_
    | refine WpC.block ?_
    | refine WpC.exit ?_
    | refine WpC.ret ?_
    | refine WpO.nil ?_
    | refine WpO.cons rfl rfl (WpX.pure (fun _ => rfl) ⟨nolog, ?_⟩)
    | refine WpO.skip rfl rfl ?_
    | refine WpL.cons rfl rfl (WpX.pure (fun _ => rfl) ⟨nolog, ?_⟩)
    | refine WpL.skip rfl rfl ?_
    | refine seqQ_normal ?_
    | refine seqQ_ret ?_
    | refine seqQ_exit ?_
    | refine blkQ_normal ?_
    | refine blkQ_ret ?_
    | refine blkQ_out rfl ?_
    | refine blkQ_by rfl ?_)
  refine WpC.loop ?_
  refine WpLoop.ind (X := Nat × V × List Int) (fun x e h' c' => (∃ b0, e = MapI.set (MapI.set (MapI.set b0 3 x.2.1) 4 (I n)) 5 (I x.1)) ∧ x.1 ≤ n ∧ x.2.2.length = x.1 ∧ ListOf (0 + 1) wordV h' c' x.2.1 x.2.2 ∧ (∀ a ∈ rowName x.2.1, c ≤ a) ∧ c ≤ c')
    (fun x => n - x.1) ?_ (0, .slice none 0 (.known 0), []) _ _ _ ⟨set3 rfl rfl rfl, Nat.zero_le _, rfl, .nil, fun n hn => (by cases hn), Nat.le_refl _⟩
  rintro ⟨i, v, ws⟩ e h' c' ⟨⟨b0, rfl⟩, hi, hl, hv, hnm, hc⟩
  simp only at hi hl hv hnm
  repeat' (first
    | refine WpC.seq ?_
    | refine WpC.region ?_
    | refine WpC.drawn ?_
    | refine WpC.skip ?_
    | refine WpC.block ?_
    | refine WpC.exit ?_
    | refine WpC.ret ?_
    | refine WpO.nil ?_
    | refine WpO.cons rfl rfl (WpX.pure (fun _ => rfl) ⟨nolog, ?_⟩)
    | refine WpO.skip rfl rfl ?_
    | refine WpL.cons rfl rfl (WpX.pure (fun _ => rfl) ⟨nolog, ?_⟩)
    | refine WpL.skip rfl rfl ?_
    | refine seqQ_normal ?_
    | refine seqQ_ret ?_
    | refine seqQ_exit ?_
    | refine blkQ_normal ?_
    | refine blkQ_ret ?_
    | refine blkQ_out rfl ?_
    | refine blkQ_by rfl ?_)
  refine WpC.cond rfl (fun hlt => ?_) (fun hge => ?_)
  case refine_2 =>
    have hge : n ≤ i := by simpa using hge
    repeat' (first
      | refine WpC.seq ?_
      | refine WpC.region ?_
      | refine WpC.drawn ?_
      | refine WpC.skip ?_
      | refine WpC.block ?_
      | refine WpC.exit ?_
      | refine WpC.ret ?_
      | refine WpO.nil ?_
      | refine WpO.cons rfl rfl (WpX.pure (fun _ => rfl) ⟨nolog, ?_⟩)
      | refine WpO.skip rfl rfl ?_
      | refine WpL.cons rfl rfl (WpX.pure (fun _ => rfl) ⟨nolog, ?_⟩)
      | refine WpL.skip rfl rfl ?_
      | refine seqQ_normal ?_
      | refine seqQ_ret ?_
      | refine seqQ_exit ?_
      | refine blkQ_normal ?_
      | refine blkQ_ret ?_
      | refine blkQ_out rfl ?_
      | refine blkQ_by rfl ?_)
    exact out_ret rfl ⟨ws, by omega, hv, hnm⟩
  have hlt : i < n := by simpa using hlt
  have hw1 : IntKind.i64.wrap ((i : Int) + 1) = ((i + 1 : Nat) : Int) := by rw [Go.IntWalk.i64_in _ (by omega)]; omega
  repeat' (first
    | refine WpC.seq ?_
    | refine WpC.region ?_
    | refine WpC.drawn ?_
    | refine WpC.skip ?_
    | refine WpC.block ?_
    | refine WpC.exit ?_
    | refine WpC.ret ?_
    | refine WpO.nil ?_
    | refine WpO.cons rfl rfl (WpX.pure (fun _ => rfl) ⟨nolog, ?_⟩)
    | refine WpO.skip rfl rfl ?_
    | refine WpL.cons rfl rfl (WpX.pure (fun _ => rfl) ⟨nolog, ?_⟩)
    | refine WpL.skip rfl rfl ?_
    | refine seqQ_normal ?_
    | refine seqQ_ret ?_
    | refine seqQ_exit ?_
    | refine blkQ_normal ?_
    | refine blkQ_ret ?_
    | refine blkQ_out rfl ?_
    | refine blkQ_by rfl ?_)
  refine WpO.cons rfl rfl (call_at rfl none_ok (by simp) (by omega) fun v4 h4 c4 hc4 hfr4 hq => ?_)
  obtain ⟨⟨z, rfl⟩, rfl, rfl⟩ := hq
  have hl2 : ∀ x : AObj, ListOf (0 + 1) wordV (MapI.set h4 c4 x) (c4 + 1) v ws := fun x => hv.keep (by omega) fun n hn _ => MapI.get_ne _ _ _ _ (by omega)
  have hll := hv.lt
  repeat' (first
    | refine WpC.seq ?_
    | refine WpC.region ?_
    | refine WpC.drawn ?_
    | refine WpC.skip ?_
    | refine WpC.block ?_
    | refine WpC.exit ?_
    | refine WpC.ret ?_
    | refine WpO.nil ?_
    | refine WpO.cons rfl rfl (WpX.pure (fun _ => rfl) ⟨nolog, ?_⟩)
    | refine WpO.skip rfl rfl ?_
    | refine WpL.cons rfl rfl (WpX.pure (fun _ => rfl) ⟨nolog, ?_⟩)
    | refine WpL.skip rfl rfl ?_
    | refine seqQ_normal ?_
    | refine seqQ_ret ?_
    | refine seqQ_exit ?_
    | refine blkQ_normal ?_
    | refine blkQ_ret ?_
    | refine blkQ_out rfl ?_
    | refine blkQ_by rfl ?_
    | refine WpO.cons rfl rfl (op_buildSlice (k := 1) rfl rfl rfl rfl (by decide) rfl ⟨(by simp [InL, Acc.name, rowName] <;> omega), ?_⟩)
    | refine WpL.cons rfl rfl (op_buildSlice (k := 1) rfl rfl rfl rfl (by decide) rfl ⟨(by simp [InL, Acc.name, rowName] <;> omega), ?_⟩))
  refine WpO.cons rfl rfl (append_at (ys := [z]) rfl rfl elW rfl word_len word_all (hl2 _) (MapI.get_same _ _ _) rfl rfl (by omega) (.inr (by simp [Acc.name]; omega)) (fun a ha => ⟨.inr (by have := hnm a ha; exact this), .inr (by have := hnm a ha; exact this)⟩) (.inr (by simp [Acc.name]; omega)) fun v2 h2 c2 hlv hn2 hc2 hf2 => ?_)
  repeat' (first
    | refine WpC.seq ?_
    | refine WpC.region ?_
    | refine WpC.drawn ?_
    | refine WpC.skip ?_
    | refine WpC.block ?_
    | refine WpC.exit ?_
    | refine WpC.ret ?_
    | refine WpO.nil ?_
    | refine WpO.cons rfl rfl (WpX.pure (fun _ => rfl) ⟨nolog, ?_⟩)
    | refine WpO.skip rfl rfl ?_
    | refine WpL.cons rfl rfl (WpX.pure (fun _ => rfl) ⟨nolog, ?_⟩)
    | refine WpL.skip rfl rfl ?_
    | refine seqQ_normal ?_
    | refine seqQ_ret ?_
    | refine seqQ_exit ?_
    | refine blkQ_normal ?_
    | refine blkQ_ret ?_
    | refine blkQ_out rfl ?_
    | refine blkQ_by rfl ?_)
  refine ⟨(i + 1, v2, ws ++ [z]), by simp only; omega, ?_, by simp only; omega, by simp [hl], hlv, fun a ha => ?_, by omega⟩
  · rw [hw1]
    exact set3 rfl rfl rfl
  · rcases hn2 a ha with h | ⟨h, _⟩
    · exact hnm a h
    · omega
end Go.Proofs.Ytempfmkicpifkaa.Ps
