/- The store's functions: Place, Look; bytes.Clone; same. -/
import Derived.Test.YtempfmkicpifkaaStore5W
import Derived.Test.YtempfmkicpifkaaAd8
set_option linter.unusedVariables false
set_option linter.unusedSectionVars false
set_option linter.unusedSimpArgs false
set_option linter.unnecessarySimpa false
namespace Go.Proofs.Ytempfmkicpifkaa
open Go.Ab
set_option maxRecDepth 10000

theorem flat_byte (xs : List Int) : flat byteV xs = xs.map (V.int .u8) := by
  induction xs with
  | nil => rfl
  | cons x xs ih => rw [flat_cons, ih]; rfl
theorem cut_bytes {bs : List Int} {junk : List V} {L n : Nat} (h : L + n ≤ bs.length) : cut (flat byteV bs ++ junk) L n = some (flat byteV ((bs.drop L).take n)) := by
  unfold cut
  rw [flat_byte, flat_byte, if_pos (by simp; omega), List.drop_append_of_le_length (by simp; omega), List.take_append_of_le_length (by simp; omega), List.map_take, List.map_drop]
def strOf (xs : List Int) : List UInt8 := xs.map fun z => UInt8.ofNat z.toNat
theorem bytesOf_flat : ∀ {xs : List Int}, (∀ z ∈ xs, 0 ≤ z ∧ z < 256) → bytesOfV (flat byteV xs) = some (strOf xs)
  | [], _ => rfl
  | x :: xs, h => by
    have := bytesOf_flat (xs := xs) fun z hz => h z (List.mem_cons_of_mem _ hz)
    rw [flat_cons]
    have hx := h x (List.mem_cons_self ..)
    show bytesOfV (V.int .u8 x :: flat byteV xs) = _
    unfold bytesOfV
    rw [if_pos hx, this]; rfl
/-- Bytes that a slice shows. -/
def ByteSl (h : HH) (v : V) (xs : List Int) : Prop :=
  (∃ a cap, v = .slice a 0 cap ∧ xs = []) ∨ ∃ m o n cap rw cl cs, v = .slice (some (m, o)) n cap ∧ n = xs.length ∧ 0 < n ∧ MapI.get h m = some (.cells rw cl cs) ∧ cut cs o n = some (flat byteV xs)
theorem ByteSl.keep {h h' : HH} {v : V} {xs : List Int} (r : ByteSl h v xs) (e : ∀ n ∈ rowName v, MapI.get h' n = MapI.get h n) : ByteSl h' v xs := by
  rcases r with h1 | ⟨m, o, n, cap, rw', cl, cs, rfl, h1, h2, h3, h4⟩
  · exact .inl h1
  · exact .inr ⟨m, o, n, cap, rw', cl, cs, rfl, h1, h2, by rw [e m (by simp [rowName])]; exact h3, h4⟩

theorem same_ok {h : HH} {c : Nat} {x y : V} {xs : List Int} (hx : ByteSl h x xs) (hy : ByteSl h y xs) (hr : ∀ z ∈ xs, 0 ≤ z ∧ z < 256) : Does 68 [x, y] h c (rowName x ++ rowName y) fun v h' c' => v = .bool true ∧ h' = h ∧ c' = c := by
  refine does_of (enter (fn := Try.f68) Try.func68 rfl rfl (Nat.le_of_ble_eq_true rfl) ?_)
  rcases hx with ⟨a, cap, rfl, rfl⟩ | ⟨m, o, n, cap, rw1, cl, cs, rfl, hn, hp, hg, hc⟩
  · rcases hy with ⟨a', cap', rfl, _⟩ | ⟨m', o', n', cap', rw2, cl', cs', rfl, hn', hp', hg', hc'⟩
    ·
      repeat' (first
        | refine WpC.seq ?_
        | refine WpC.region ?_
        | refine WpC.drawn ?_
        | refine WpC.skip ?_
        | refine WpC.block ?_
        | refine WpC.exit ?_
        | refine WpC.ret ?_
        | refine WpO.nil ?_
        | refine WpO.cons rfl rfl (WpX.pure (fun _ => rfl) ⟨nolog, ?_⟩)
        | refine WpO.skip rfl rfl ?_
        | refine WpL.cons rfl rfl (WpX.pure (fun _ => rfl) ⟨nolog, ?_⟩)
        | refine WpL.skip rfl rfl ?_
        | refine seqQ_normal ?_
        | refine seqQ_ret ?_
        | refine seqQ_exit ?_
        | refine blkQ_normal ?_
        | refine blkQ_ret ?_
        | refine blkQ_out rfl ?_
        | refine blkQ_by rfl ?_
        | refine WpO.cons rfl rfl (op_bytesStr0 rfl rfl rfl rfl ⟨(by simp [InL, Acc.name, rowName] <;> omega), ?_⟩)
        | refine WpL.cons rfl rfl (op_bytesStr0 rfl rfl rfl rfl ⟨(by simp [InL, Acc.name, rowName] <;> omega), ?_⟩))
      exact out_ret rfl ⟨rfl, rfl, rfl⟩
    · simp at hn'; omega
  · rcases hy with ⟨a', cap', rfl, rfl⟩ | ⟨m', o', n', cap', rw2, cl', cs', rfl, hn', hp', hg', hc'⟩
    · simp at hn; omega
    ·
      repeat' (first
        | refine WpC.seq ?_
        | refine WpC.region ?_
        | refine WpC.drawn ?_
        | refine WpC.skip ?_
        | refine WpC.block ?_
        | refine WpC.exit ?_
        | refine WpC.ret ?_
        | refine WpO.nil ?_
        | refine WpO.cons rfl rfl (WpX.pure (fun _ => rfl) ⟨nolog, ?_⟩)
        | refine WpO.skip rfl rfl ?_
        | refine WpL.cons rfl rfl (WpX.pure (fun _ => rfl) ⟨nolog, ?_⟩)
        | refine WpL.skip rfl rfl ?_
        | refine seqQ_normal ?_
        | refine seqQ_ret ?_
        | refine seqQ_exit ?_
        | refine blkQ_normal ?_
        | refine blkQ_ret ?_
        | refine blkQ_out rfl ?_
        | refine blkQ_by rfl ?_
        | refine WpO.cons rfl rfl (op_bytesStr rfl rfl rfl rfl hp hg hc (bytesOf_flat hr) ⟨(by simp [InL, Acc.name, rowName] <;> omega), ?_⟩)
        | refine WpL.cons rfl rfl (op_bytesStr rfl rfl rfl rfl hp hg hc (bytesOf_flat hr) ⟨(by simp [InL, Acc.name, rowName] <;> omega), ?_⟩)
        | refine WpO.cons rfl rfl (op_bytesStr rfl rfl rfl rfl hp' hg' hc' (bytesOf_flat hr) ⟨(by simp [InL, Acc.name, rowName] <;> omega), ?_⟩)
        | refine WpL.cons rfl rfl (op_bytesStr rfl rfl rfl rfl hp' hg' hc' (bytesOf_flat hr) ⟨(by simp [InL, Acc.name, rowName] <;> omega), ?_⟩))
      exact out_ret rfl ⟨by show V.bool (strEq (strOf xs) (strOf xs)) = _; rw [strEq_refl], rfl, rfl⟩

theorem clone_ok {h : HH} {c m o n : Nat} {cap : Cap} {rw' cl : Bool} {cs : List V} {xs : List Int} (hn : n = xs.length) (hle : n ≤ 100000000) (hmc : m < c) (hg : MapI.get h m = some (.cells rw' cl cs)) (hc : cut cs o (n * 1) = some (flat byteV xs)) :
    Does 120 [.slice (some (m, o)) n cap] h c [m] fun v h' c' => ByteSl h' v xs ∧ (∀ a ∈ rowName v, c ≤ a ∧ a < c') ∧ ∀ a, a < c → MapI.get h' a = MapI.get h a := by
  refine does_of (enter (fn := Try.f120) Try.func120 rfl rfl (Nat.le_of_ble_eq_true rfl) ?_)
  repeat' (first
    | refine WpC.seq ?_
    | refine WpC.region ?_
    | refine WpC.drawn ?_
    | refine WpC.skip ?_
    | refine WpC.block ?_
    | refine WpC.exit ?_
    | refine WpC.ret ?_
    | refine WpO.nil ?_
    | refine WpO.cons rfl rfl (WpX.pure (fun _ => rfl) ⟨nolog, ?_⟩)
    | refine WpO.skip rfl rfl ?_
    | refine WpL.cons rfl rfl (WpX.pure (fun _ => rfl) ⟨nolog, ?_⟩)
    | refine WpL.skip rfl rfl ?_
    | refine seqQ_normal ?_
    | refine seqQ_ret ?_
    | refine seqQ_exit ?_
    | refine blkQ_normal ?_
    | refine blkQ_ret ?_
    | refine blkQ_out rfl ?_
    | refine blkQ_by rfl ?_)
  refine WpC.cond rfl (fun hb => by cases hb) (fun _ => ?_)
  repeat' (first
    | refine WpC.seq ?_
    | refine WpC.region ?_
    | refine WpC.drawn ?_
    | refine WpC.skip ?_
    | refine WpC.block ?_
    | refine WpC.exit ?_
    | refine WpC.ret ?_
    | refine WpO.nil ?_
    | refine WpO.cons rfl rfl (WpX.pure (fun _ => rfl) ⟨nolog, ?_⟩)
    | refine WpO.skip rfl rfl ?_
    | refine WpL.cons rfl rfl (WpX.pure (fun _ => rfl) ⟨nolog, ?_⟩)
    | refine WpL.skip rfl rfl ?_
    | refine seqQ_normal ?_
    | refine seqQ_ret ?_
    | refine seqQ_exit ?_
    | refine blkQ_normal ?_
    | refine blkQ_ret ?_
    | refine blkQ_out rfl ?_
    | refine blkQ_by rfl ?_
    | refine WpO.cons rfl rfl (op_buildSlice (k := 1) rfl rfl rfl rfl (by decide) rfl ⟨(by simp [InL, Acc.name, rowName] <;> omega), ?_⟩)
    | refine WpL.cons rfl rfl (op_buildSlice (k := 1) rfl rfl rfl rfl (by decide) rfl ⟨(by simp [InL, Acc.name, rowName] <;> omega), ?_⟩))
  by_cases h0 : n = 0
  · subst h0
    have hx0 : xs = [] := List.length_eq_zero_iff.1 hn.symm
    subst hx0
    repeat' (first
      | refine WpC.seq ?_
      | refine WpC.region ?_
      | refine WpC.drawn ?_
      | refine WpC.skip ?_
      | refine WpC.block ?_
      | refine WpC.exit ?_
      | refine WpC.ret ?_
      | refine WpO.nil ?_
      | refine WpO.cons rfl rfl (WpX.pure (fun _ => rfl) ⟨nolog, ?_⟩)
      | refine WpO.skip rfl rfl ?_
      | refine WpL.cons rfl rfl (WpX.pure (fun _ => rfl) ⟨nolog, ?_⟩)
      | refine WpL.skip rfl rfl ?_
      | refine seqQ_normal ?_
      | refine seqQ_ret ?_
      | refine seqQ_exit ?_
      | refine blkQ_normal ?_
      | refine blkQ_ret ?_
      | refine blkQ_out rfl ?_
      | refine blkQ_by rfl ?_
      | refine WpO.cons rfl rfl (op_append rfl rfl (append_none elB rfl rfl (fun _ => rfl) (by omega) (fun _ _ _ _ _ => by omega)) ⟨(by simp [InL, Acc.name, rowName] <;> omega), ?_⟩)
      | refine WpL.cons rfl rfl (op_append rfl rfl (append_none elB rfl rfl (fun _ => rfl) (by omega) (fun _ _ _ _ _ => by omega)) ⟨(by simp [InL, Acc.name, rowName] <;> omega), ?_⟩))
    exact out_ret rfl ⟨.inl ⟨_, _, rfl, rfl⟩, fun a ha => by simp [tup, rowName] at ha; omega, fun a ha => MapI.get_ne _ _ _ _ (by omega)⟩
  · have hg2 : ∀ x : AObj, MapI.get (MapI.set h c x) m = some (.cells rw' cl cs) := fun x => by rw [MapI.get_ne _ _ _ _ (by omega)]; exact hg
    repeat' (first
      | refine WpC.seq ?_
      | refine WpC.region ?_
      | refine WpC.drawn ?_
      | refine WpC.skip ?_
      | refine WpC.block ?_
      | refine WpC.exit ?_
      | refine WpC.ret ?_
      | refine WpO.nil ?_
      | refine WpO.cons rfl rfl (WpX.pure (fun _ => rfl) ⟨nolog, ?_⟩)
      | refine WpO.skip rfl rfl ?_
      | refine WpL.cons rfl rfl (WpX.pure (fun _ => rfl) ⟨nolog, ?_⟩)
      | refine WpL.skip rfl rfl ?_
      | refine seqQ_normal ?_
      | refine seqQ_ret ?_
      | refine seqQ_exit ?_
      | refine blkQ_normal ?_
      | refine blkQ_ret ?_
      | refine blkQ_out rfl ?_
      | refine blkQ_by rfl ?_
      | refine WpO.cons rfl rfl (op_append rfl rfl (append_known elB rfl (by omega) (by omega) (hg2 _) hc) ⟨(by simp [InL, Acc.name, rowName] <;> omega), ?_⟩)
      | refine WpL.cons rfl rfl (op_append rfl rfl (append_known elB rfl (by omega) (by omega) (hg2 _) hc) ⟨(by simp [InL, Acc.name, rowName] <;> omega), ?_⟩))
    refine out_ret rfl ⟨.inr ⟨c + 1, 0, n, .upTo 1, true, true, _, rfl, hn, by omega, MapI.get_same _ _ _, ?_⟩, fun a ha => by simp [tup, rowName] at ha; omega, fun a ha => by rw [MapI.get_ne _ _ _ _ (by omega), MapI.get_ne _ _ _ _ (by omega)]⟩
    have hl := cut_len hc
    rw [Nat.mul_one] at hl
    have := cut_all (cs := flat byteV xs)
    rw [hl] at this
    exact this

theorem place_ok {h : HH} {c p i : Nat} {vb vr : V} {st : St} {q : Int × Int × Int} (r : StoreAt h c p vb vr st) (hlen : st.rows.length ≤ 1000) (hq : st.rows[i]? = some q) (hq0 : q.2.2 ≠ 0) :
    Does 69 [.ptr (some (p, 0)), I ((i : Int) + 1)] h c (p :: rowName vr) fun v h' c' => v = .tuple [I q.1, I q.2.1, .bool true] ∧ h' = h ∧ c' = c := by
  refine does_of (enter (fn := Try.f69) Try.func69 rfl rfl (Nat.le_of_ble_eq_true rfl) ?_)
  repeat' (first
    | refine WpC.seq ?_
    | refine WpC.region ?_
    | refine WpC.drawn ?_
    | refine WpC.skip ?_
    | refine WpC.block ?_
    | refine WpC.exit ?_
    | refine WpC.ret ?_
    | refine WpO.nil ?_
    | refine WpO.cons rfl rfl (WpX.pure (fun _ => rfl) ⟨nolog, ?_⟩)
    | refine WpO.skip rfl rfl ?_
    | refine WpL.cons rfl rfl (WpX.pure (fun _ => rfl) ⟨nolog, ?_⟩)
    | refine WpL.skip rfl rfl ?_
    | refine seqQ_normal ?_
    | refine seqQ_ret ?_
    | refine seqQ_exit ?_
    | refine blkQ_normal ?_
    | refine blkQ_ret ?_
    | refine blkQ_out rfl ?_
    | refine blkQ_by rfl ?_)
  refine WpO.cons rfl rfl (call_at rfl (of_ok r hlen) (fun n hn => .inl hn) (Nat.le_refl _) fun v h4 c4 hc4 hfr4 hq4 => ?_)
  obtain ⟨rfl, rfl, hq4⟩ := hq4
  rcases hq4 with ⟨i', q', sn, cl, junk, hi', hz, hne, rfl, hsn, hg, hj, rfl⟩ | ⟨hno, _⟩
  case inr => exact absurd (hno i q rfl hq) hq0
  have : i' = i := by omega
  subst this
  rw [hq] at hz; cases hz
  have hz0 : nth (flat tri st.rows ++ junk) (i' * 3 + 0) = some (I q.1) := (nth_flat tri_len hq (by omega) junk).trans rfl
  have hz1 : nth (flat tri st.rows ++ junk) (i' * 3 + 1) = some (I q.2.1) := (nth_flat tri_len hq (by omega) junk).trans rfl
  repeat' (first
    | refine WpC.seq ?_
    | refine WpC.region ?_
    | refine WpC.drawn ?_
    | refine WpC.skip ?_
    | refine WpC.block ?_
    | refine WpC.exit ?_
    | refine WpC.ret ?_
    | refine WpO.nil ?_
    | refine WpO.cons rfl rfl (WpX.pure (fun _ => rfl) ⟨nolog, ?_⟩)
    | refine WpO.skip rfl rfl ?_
    | refine WpL.cons rfl rfl (WpX.pure (fun _ => rfl) ⟨nolog, ?_⟩)
    | refine WpL.skip rfl rfl ?_
    | refine seqQ_normal ?_
    | refine seqQ_ret ?_
    | refine seqQ_exit ?_
    | refine blkQ_normal ?_
    | refine blkQ_ret ?_
    | refine blkQ_out rfl ?_
    | refine blkQ_by rfl ?_)
  refine WpC.cond rfl (fun hb => by cases hb) (fun _ => ?_)
  repeat' (first
    | refine WpC.seq ?_
    | refine WpC.region ?_
    | refine WpC.drawn ?_
    | refine WpC.skip ?_
    | refine WpC.block ?_
    | refine WpC.exit ?_
    | refine WpC.ret ?_
    | refine WpO.nil ?_
    | refine WpO.cons rfl rfl (WpX.pure (fun _ => rfl) ⟨nolog, ?_⟩)
    | refine WpO.skip rfl rfl ?_
    | refine WpL.cons rfl rfl (WpX.pure (fun _ => rfl) ⟨nolog, ?_⟩)
    | refine WpL.skip rfl rfl ?_
    | refine seqQ_normal ?_
    | refine seqQ_ret ?_
    | refine seqQ_exit ?_
    | refine blkQ_normal ?_
    | refine blkQ_ret ?_
    | refine blkQ_out rfl ?_
    | refine blkQ_by rfl ?_
    | refine WpO.cons rfl rfl (op_load rfl rfl rfl hg hz0 ⟨(by simp [InL, Acc.name, rowName] <;> omega), ?_⟩)
    | refine WpL.cons rfl rfl (op_load rfl rfl rfl hg hz0 ⟨(by simp [InL, Acc.name, rowName] <;> omega), ?_⟩)
    | refine WpO.cons rfl rfl (op_load rfl rfl rfl hg hz1 ⟨(by simp [InL, Acc.name, rowName] <;> omega), ?_⟩)
    | refine WpL.cons rfl rfl (op_load rfl rfl rfl hg hz1 ⟨(by simp [InL, Acc.name, rowName] <;> omega), ?_⟩))
  refine WpL.nil (logsOk_of (cs := [0, 1, 3, 7, 0, 16, 48, 112, 15, 511, 1023]) (by decide +kernel) ?_) ?_
  · simp +contextual [allP, apP, Dis, acc_rd, acc_wr, accw_rd, accw_wr, Nat.testBit]
  repeat' (first
    | refine WpC.seq ?_
    | refine WpC.region ?_
    | refine WpC.drawn ?_
    | refine WpC.skip ?_
    | refine WpC.block ?_
    | refine WpC.exit ?_
    | refine WpC.ret ?_
    | refine WpO.nil ?_
    | refine WpO.cons rfl rfl (WpX.pure (fun _ => rfl) ⟨nolog, ?_⟩)
    | refine WpO.skip rfl rfl ?_
    | refine WpL.cons rfl rfl (WpX.pure (fun _ => rfl) ⟨nolog, ?_⟩)
    | refine WpL.skip rfl rfl ?_
    | refine seqQ_normal ?_
    | refine seqQ_ret ?_
    | refine seqQ_exit ?_
    | refine blkQ_normal ?_
    | refine blkQ_ret ?_
    | refine blkQ_out rfl ?_
    | refine blkQ_by rfl ?_)
  exact out_ret rfl ⟨rfl, rfl, rfl⟩
end Go.Proofs.Ytempfmkicpifkaa
