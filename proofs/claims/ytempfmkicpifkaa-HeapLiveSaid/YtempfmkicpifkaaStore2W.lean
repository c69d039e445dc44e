/- The store's functions: handles. -/
import Derived.Test.YtempfmkicpifkaaStoreW
set_option linter.unusedVariables false
set_option linter.unusedSectionVars false
set_option linter.unusedSimpArgs false
set_option linter.unnecessarySimpa false
namespace Go.Proofs.Ytempfmkicpifkaa
open Go.Ab
set_option maxRecDepth 10000

theorem acc_rd (n : Nat) : (Acc.rd n).name = n := rfl
theorem acc_wr (n : Nat) : (Acc.wr n).name = n := rfl
theorem accw_rd (n : Nat) : (Acc.rd n).writes = false := rfl
theorem accw_wr (n : Nat) : (Acc.wr n).writes = true := rfl
theorem set_tri2 {junk : List V} {a b z x : Int} : ∀ {rows : List (Int × Int × Int)} {i : Nat}, rows[i]? = some (a, b, z) → setAll (flat tri rows ++ junk) (i * 3 + 2) [I x] = flat tri (rows.set i (a, b, x)) ++ junk
  | [], _, h => by simp at h
  | y :: rows, 0, h => by simp at h; subst h; simp [flat, tri, setAll, ovr]
  | y :: rows, i + 1, h => by
    have := set_tri2 (junk := junk) (x := x) (rows := rows) (i := i) (by simpa using h)
    rw [show (i + 1) * 3 + 2 = i * 3 + 2 + 3 from by omega]
    simp only [flat_cons, List.append_assoc, List.set_cons_succ] at this ⊢
    simp only [tri, List.cons_append, List.nil_append, setAll, this]
theorem set_tri {junk : List V} {a b z : Int} : ∀ {rows : List (Int × Int × Int)} {i : Nat}, i < rows.length → setAll (flat tri rows ++ junk) (i * 3) [I a, I b, I z] = flat tri (rows.set i (a, b, z)) ++ junk
  | [], _, h => by simp at h
  | y :: rows, 0, h => by simp [flat, tri, setAll, ovr]
  | y :: rows, i + 1, h => by
    have := set_tri (junk := junk) (a := a) (b := b) (z := z) (rows := rows) (i := i) (by simpa using h)
    rw [show (i + 1) * 3 = i * 3 + 3 from by omega]
    simp only [flat_cons, List.append_assoc, List.set_cons_succ] at this ⊢
    simp only [tri, List.cons_append, List.nil_append, setAll, this]

/-- of: where a handle's row lies; nil of one that is not there. -/
theorem of_ok {h : HH} {c p : Nat} {vb vr : V} {st : St} {hd : Int} (r : StoreAt h c p vb vr st) (hlen : st.rows.length ≤ 1000) :
    Does 118 [.ptr (some (p, 0)), I hd] h c (p :: rowName vr) fun v h' c' => h' = h ∧ c' = c ∧
      ((∃ (i : Nat) (q : Int × Int × Int) (sn : Nat) (cl : Bool) (junk : List V), hd = i + 1 ∧ st.rows[i]? = some q ∧ q.2.2 ≠ 0 ∧ vr = .slice (some (sn, 0)) st.rows.length (.upTo 3) ∧ sn < c ∧ MapI.get h sn = some (.cells true cl (flat tri st.rows ++ junk)) ∧ junk.all one1 = true ∧ v = .ptr (some (sn, i * 3))) ∨
       ((∀ (i : Nat) (q : Int × Int × Int), hd = i + 1 → st.rows[i]? = some q → q.2.2 = 0) ∧ v = .ptr none)) := by
  have hobj := r.obj
  obtain ⟨s, cap, rfl, hs⟩ := r.rows.shape
  refine does_of (enter (fn := Try.f118) Try.func118 rfl rfl (Nat.le_of_ble_eq_true rfl) ?_)
  by_cases h1 : hd < 1
  · have e1 : decide (hd < 1) = true := by simpa using h1
    repeat' (first
      | refine WpC.seq ?_
      | refine WpC.region ?_
      | refine WpC.drawn ?_
      | refine WpC.skip ?_
      | refine WpC.block ?_
      | refine WpC.exit ?_
      | refine WpC.ret ?_
      | refine WpO.nil ?_
      | refine WpO.cons rfl rfl (WpX.pure (fun _ => rfl) ⟨nolog, ?_⟩)
      | refine WpO.skip rfl rfl ?_
      | refine WpL.cons rfl rfl (WpX.pure (fun _ => rfl) ⟨nolog, ?_⟩)
      | refine WpL.skip rfl rfl ?_
      | refine seqQ_normal ?_
      | refine seqQ_ret ?_
      | refine seqQ_exit ?_
      | refine blkQ_normal ?_
      | refine blkQ_ret ?_
      | refine blkQ_out rfl ?_
      | refine blkQ_by rfl ?_)
    simp only [e1]
    repeat' (first
      | refine WpC.seq ?_
      | refine WpC.region ?_
      | refine WpC.drawn ?_
      | refine WpC.skip ?_
      | refine WpC.block ?_
      | refine WpC.exit ?_
      | refine WpC.ret ?_
      | refine WpO.nil ?_
      | refine WpO.cons rfl rfl (WpX.pure (fun _ => rfl) ⟨nolog, ?_⟩)
      | refine WpO.skip rfl rfl ?_
      | refine WpL.cons rfl rfl (WpX.pure (fun _ => rfl) ⟨nolog, ?_⟩)
      | refine WpL.skip rfl rfl ?_
      | refine seqQ_normal ?_
      | refine seqQ_ret ?_
      | refine seqQ_exit ?_
      | refine blkQ_normal ?_
      | refine blkQ_ret ?_
      | refine blkQ_out rfl ?_
      | refine blkQ_by rfl ?_)
    refine WpC.cond rfl (fun _ => ?_) (fun hb => by cases hb)
    repeat' (first
      | refine WpC.seq ?_
      | refine WpC.region ?_
      | refine WpC.drawn ?_
      | refine WpC.skip ?_
      | refine WpC.block ?_
      | refine WpC.exit ?_
      | refine WpC.ret ?_
      | refine WpO.nil ?_
      | refine WpO.cons rfl rfl (WpX.pure (fun _ => rfl) ⟨nolog, ?_⟩)
      | refine WpO.skip rfl rfl ?_
      | refine WpL.cons rfl rfl (WpX.pure (fun _ => rfl) ⟨nolog, ?_⟩)
      | refine WpL.skip rfl rfl ?_
      | refine seqQ_normal ?_
      | refine seqQ_ret ?_
      | refine seqQ_exit ?_
      | refine blkQ_normal ?_
      | refine blkQ_ret ?_
      | refine blkQ_out rfl ?_
      | refine blkQ_by rfl ?_)
    exact out_ret rfl ⟨rfl, rfl, .inr ⟨fun i q e _ => by omega, rfl⟩⟩
  have e1 : decide (hd < 1) = false := by simpa using h1
  by_cases h2 : hd > (st.rows.length : Int)
  · have e2 : decide (hd > (st.rows.length : Int)) = true := by simpa using h2
    repeat' (first
      | refine WpC.seq ?_
      | refine WpC.region ?_
      | refine WpC.drawn ?_
      | refine WpC.skip ?_
      | refine WpC.block ?_
      | refine WpC.exit ?_
      | refine WpC.ret ?_
      | refine WpO.nil ?_
      | refine WpO.cons rfl rfl (WpX.pure (fun _ => rfl) ⟨nolog, ?_⟩)
      | refine WpO.skip rfl rfl ?_
      | refine WpL.cons rfl rfl (WpX.pure (fun _ => rfl) ⟨nolog, ?_⟩)
      | refine WpL.skip rfl rfl ?_
      | refine seqQ_normal ?_
      | refine seqQ_ret ?_
      | refine seqQ_exit ?_
      | refine blkQ_normal ?_
      | refine blkQ_ret ?_
      | refine blkQ_out rfl ?_
      | refine blkQ_by rfl ?_)
    simp only [e1]
    repeat' (first
      | refine WpC.seq ?_
      | refine WpC.region ?_
      | refine WpC.drawn ?_
      | refine WpC.skip ?_
      | refine WpC.block ?_
      | refine WpC.exit ?_
      | refine WpC.ret ?_
      | refine WpO.nil ?_
      | refine WpO.cons rfl rfl (WpX.pure (fun _ => rfl) ⟨nolog, ?_⟩)
      | refine WpO.skip rfl rfl ?_
      | refine WpL.cons rfl rfl (WpX.pure (fun _ => rfl) ⟨nolog, ?_⟩)
      | refine WpL.skip rfl rfl ?_
      | refine seqQ_normal ?_
      | refine seqQ_ret ?_
      | refine seqQ_exit ?_
      | refine blkQ_normal ?_
      | refine blkQ_ret ?_
      | refine blkQ_out rfl ?_
      | refine blkQ_by rfl ?_
      | refine WpO.cons rfl rfl (op_load rfl rfl rfl hobj rfl ⟨(by simp [InL, Acc.name, rowName] <;> omega), ?_⟩)
      | refine WpL.cons rfl rfl (op_load rfl rfl rfl hobj rfl ⟨(by simp [InL, Acc.name, rowName] <;> omega), ?_⟩)
      | refine WpO.cons rfl rfl (op_len rfl rfl rfl ⟨(by simp [InL, Acc.name, rowName] <;> omega), ?_⟩)
      | refine WpL.cons rfl rfl (op_len rfl rfl rfl ⟨(by simp [InL, Acc.name, rowName] <;> omega), ?_⟩))
    simp only [e2]
    repeat' (first
      | refine WpC.seq ?_
      | refine WpC.region ?_
      | refine WpC.drawn ?_
      | refine WpC.skip ?_
      | refine WpC.block ?_
      | refine WpC.exit ?_
      | refine WpC.ret ?_
      | refine WpO.nil ?_
      | refine WpO.cons rfl rfl (WpX.pure (fun _ => rfl) ⟨nolog, ?_⟩)
      | refine WpO.skip rfl rfl ?_
      | refine WpL.cons rfl rfl (WpX.pure (fun _ => rfl) ⟨nolog, ?_⟩)
      | refine WpL.skip rfl rfl ?_
      | refine seqQ_normal ?_
      | refine seqQ_ret ?_
      | refine seqQ_exit ?_
      | refine blkQ_normal ?_
      | refine blkQ_ret ?_
      | refine blkQ_out rfl ?_
      | refine blkQ_by rfl ?_)
    refine WpC.cond rfl (fun _ => ?_) (fun hb => by cases hb)
    repeat' (first
      | refine WpC.seq ?_
      | refine WpC.region ?_
      | refine WpC.drawn ?_
      | refine WpC.skip ?_
      | refine WpC.block ?_
      | refine WpC.exit ?_
      | refine WpC.ret ?_
      | refine WpO.nil ?_
      | refine WpO.cons rfl rfl (WpX.pure (fun _ => rfl) ⟨nolog, ?_⟩)
      | refine WpO.skip rfl rfl ?_
      | refine WpL.cons rfl rfl (WpX.pure (fun _ => rfl) ⟨nolog, ?_⟩)
      | refine WpL.skip rfl rfl ?_
      | refine seqQ_normal ?_
      | refine seqQ_ret ?_
      | refine seqQ_exit ?_
      | refine blkQ_normal ?_
      | refine blkQ_ret ?_
      | refine blkQ_out rfl ?_
      | refine blkQ_by rfl ?_)
    exact out_ret rfl ⟨rfl, rfl, .inr ⟨fun i q e hq => by have := (List.getElem?_eq_some_iff.1 hq).1; omega, rfl⟩⟩
  have e2 : decide (hd > (st.rows.length : Int)) = false := by simpa using h2
  obtain ⟨i, rfl⟩ : ∃ i : Nat, hd = i + 1 := ⟨(hd - 1).toNat, by omega⟩
  have hi : i < st.rows.length := by omega
  obtain ⟨rfl, sn, cl, junk, rfl, hsn, hg, hj⟩ := hs i hi
  obtain ⟨⟨z0, z1, z2⟩, hz⟩ : ∃ z, st.rows[i]? = some z := ⟨_, List.getElem?_eq_getElem hi⟩
  have hw : IntKind.i64.wrap ((i : Int) + 1 - 1) = (i : Int) := by rw [Go.IntWalk.i64_in _ (by omega)]; omega
  have hz2 : nth (flat tri st.rows ++ junk) (0 + (IntKind.i64.wrap ((i : Int) + 1 - 1)).toNat * 3 + 2) = some (I z2) := by
    rw [hw, show 0 + ((i : Nat) : Int).toNat * 3 + 2 = i * 3 + 2 from by simp]
    exact (nth_flat tri_len hz (by omega) junk).trans rfl
  repeat' (first
    | refine WpC.seq ?_
    | refine WpC.region ?_
    | refine WpC.drawn ?_
    | refine WpC.skip ?_
    | refine WpC.block ?_
    | refine WpC.exit ?_
    | refine WpC.ret ?_
    | refine WpO.nil ?_
    | refine WpO.cons rfl rfl (WpX.pure (fun _ => rfl) ⟨nolog, ?_⟩)
    | refine WpO.skip rfl rfl ?_
    | refine WpL.cons rfl rfl (WpX.pure (fun _ => rfl) ⟨nolog, ?_⟩)
    | refine WpL.skip rfl rfl ?_
    | refine seqQ_normal ?_
    | refine seqQ_ret ?_
    | refine seqQ_exit ?_
    | refine blkQ_normal ?_
    | refine blkQ_ret ?_
    | refine blkQ_out rfl ?_
    | refine blkQ_by rfl ?_)
  simp only [e1]
  repeat' (first
    | refine WpC.seq ?_
    | refine WpC.region ?_
    | refine WpC.drawn ?_
    | refine WpC.skip ?_
    | refine WpC.block ?_
    | refine WpC.exit ?_
    | refine WpC.ret ?_
    | refine WpO.nil ?_
    | refine WpO.cons rfl rfl (WpX.pure (fun _ => rfl) ⟨nolog, ?_⟩)
    | refine WpO.skip rfl rfl ?_
    | refine WpL.cons rfl rfl (WpX.pure (fun _ => rfl) ⟨nolog, ?_⟩)
    | refine WpL.skip rfl rfl ?_
    | refine seqQ_normal ?_
    | refine seqQ_ret ?_
    | refine seqQ_exit ?_
    | refine blkQ_normal ?_
    | refine blkQ_ret ?_
    | refine blkQ_out rfl ?_
    | refine blkQ_by rfl ?_
    | refine WpO.cons rfl rfl (op_load rfl rfl rfl hobj rfl ⟨(by simp [InL, Acc.name, rowName] <;> omega), ?_⟩)
    | refine WpL.cons rfl rfl (op_load rfl rfl rfl hobj rfl ⟨(by simp [InL, Acc.name, rowName] <;> omega), ?_⟩)
    | refine WpO.cons rfl rfl (op_len rfl rfl rfl ⟨(by simp [InL, Acc.name, rowName] <;> omega), ?_⟩)
    | refine WpL.cons rfl rfl (op_len rfl rfl rfl ⟨(by simp [InL, Acc.name, rowName] <;> omega), ?_⟩))
  simp only [e2]
  repeat' (first
    | refine WpC.seq ?_
    | refine WpC.region ?_
    | refine WpC.drawn ?_
    | refine WpC.skip ?_
    | refine WpC.block ?_
    | refine WpC.exit ?_
    | refine WpC.ret ?_
    | refine WpO.nil ?_
    | refine WpO.cons rfl rfl (WpX.pure (fun _ => rfl) ⟨nolog, ?_⟩)
    | refine WpO.skip rfl rfl ?_
    | refine WpL.cons rfl rfl (WpX.pure (fun _ => rfl) ⟨nolog, ?_⟩)
    | refine WpL.skip rfl rfl ?_
    | refine seqQ_normal ?_
    | refine seqQ_ret ?_
    | refine seqQ_exit ?_
    | refine blkQ_normal ?_
    | refine blkQ_ret ?_
    | refine blkQ_out rfl ?_
    | refine blkQ_by rfl ?_
    | refine WpO.cons rfl rfl (op_load rfl rfl rfl hobj rfl ⟨(by simp [InL, Acc.name, rowName] <;> omega), ?_⟩)
    | refine WpL.cons rfl rfl (op_load rfl rfl rfl hobj rfl ⟨(by simp [InL, Acc.name, rowName] <;> omega), ?_⟩)
    | refine WpO.cons rfl rfl (op_indexAddr (k := 3) rfl rfl rfl rfl ⟨by omega, by omega⟩ ⟨(by simp [InL, Acc.name, rowName] <;> omega), ?_⟩)
    | refine WpL.cons rfl rfl (op_indexAddr (k := 3) rfl rfl rfl rfl ⟨by omega, by omega⟩ ⟨(by simp [InL, Acc.name, rowName] <;> omega), ?_⟩)
    | refine WpO.cons rfl rfl (op_load rfl rfl rfl hg hz2 ⟨(by simp [InL, Acc.name, rowName] <;> omega), ?_⟩)
    | refine WpL.cons rfl rfl (op_load rfl rfl rfl hg hz2 ⟨(by simp [InL, Acc.name, rowName] <;> omega), ?_⟩))
  refine WpC.cond rfl (fun heq => ?_) (fun hne => ?_)
  · have heq : z2 = 0 := by simpa using heq
    repeat' (first
      | refine WpC.seq ?_
      | refine WpC.region ?_
      | refine WpC.drawn ?_
      | refine WpC.skip ?_
      | refine WpC.block ?_
      | refine WpC.exit ?_
      | refine WpC.ret ?_
      | refine WpO.nil ?_
      | refine WpO.cons rfl rfl (WpX.pure (fun _ => rfl) ⟨nolog, ?_⟩)
      | refine WpO.skip rfl rfl ?_
      | refine WpL.cons rfl rfl (WpX.pure (fun _ => rfl) ⟨nolog, ?_⟩)
      | refine WpL.skip rfl rfl ?_
      | refine seqQ_normal ?_
      | refine seqQ_ret ?_
      | refine seqQ_exit ?_
      | refine blkQ_normal ?_
      | refine blkQ_ret ?_
      | refine blkQ_out rfl ?_
      | refine blkQ_by rfl ?_)
    refine out_ret rfl ⟨rfl, rfl, .inr ⟨fun j q e hq => ?_, rfl⟩⟩
    have : j = i := by omega
    subst this
    rw [hz] at hq; cases hq; exact heq
  · have hne : z2 ≠ 0 := by simpa using hne
    repeat' (first
      | refine WpC.seq ?_
      | refine WpC.region ?_
      | refine WpC.drawn ?_
      | refine WpC.skip ?_
      | refine WpC.block ?_
      | refine WpC.exit ?_
      | refine WpC.ret ?_
      | refine WpO.nil ?_
      | refine WpO.cons rfl rfl (WpX.pure (fun _ => rfl) ⟨nolog, ?_⟩)
      | refine WpO.skip rfl rfl ?_
      | refine WpL.cons rfl rfl (WpX.pure (fun _ => rfl) ⟨nolog, ?_⟩)
      | refine WpL.skip rfl rfl ?_
      | refine seqQ_normal ?_
      | refine seqQ_ret ?_
      | refine seqQ_exit ?_
      | refine blkQ_normal ?_
      | refine blkQ_ret ?_
      | refine blkQ_out rfl ?_
      | refine blkQ_by rfl ?_
      | refine WpO.cons rfl rfl (op_load rfl rfl rfl hobj rfl ⟨(by simp [InL, Acc.name, rowName] <;> omega), ?_⟩)
      | refine WpL.cons rfl rfl (op_load rfl rfl rfl hobj rfl ⟨(by simp [InL, Acc.name, rowName] <;> omega), ?_⟩)
      | refine WpO.cons rfl rfl (op_indexAddr (k := 3) rfl rfl rfl rfl ⟨by omega, by omega⟩ ⟨(by simp [InL, Acc.name, rowName] <;> omega), ?_⟩)
      | refine WpL.cons rfl rfl (op_indexAddr (k := 3) rfl rfl rfl rfl ⟨by omega, by omega⟩ ⟨(by simp [InL, Acc.name, rowName] <;> omega), ?_⟩))
    refine out_ret rfl ⟨rfl, rfl, .inl ⟨i, _, sn, cl, junk, rfl, hz, hne, rfl, hsn, hg, hj, ?_⟩⟩
    show V.ptr _ = _
    rw [hw]; simp

theorem count_ok {h : HH} {c p : Nat} {vb vr : V} {st : St} {hd : Int} (r : StoreAt h c p vb vr st) (hlen : st.rows.length ≤ 1000) :
    Does 71 [.ptr (some (p, 0)), I hd] h c (p :: rowName vr) fun v h' c' => h' = h ∧ c' = c ∧
      ((∃ (i : Nat) (q : Int × Int × Int), hd = i + 1 ∧ st.rows[i]? = some q ∧ v = I q.2.2) ∨ ((∀ (i : Nat) (q : Int × Int × Int), hd = i + 1 → st.rows[i]? = some q → q.2.2 = 0) ∧ v = I 0)) := by
  refine does_of (enter (fn := Try.f71) Try.func71 rfl rfl (Nat.le_of_ble_eq_true rfl) ?_)
  repeat' (first
    | refine WpC.seq ?_
    | refine WpC.region ?_
    | refine WpC.drawn ?_
    | refine WpC.skip ?_
    | refine WpC.block ?_
    | refine WpC.exit ?_
    | refine WpC.ret ?_
    | refine WpO.nil ?_
    | refine WpO.cons rfl rfl (WpX.pure (fun _ => rfl) ⟨nolog, ?_⟩)
    | refine WpO.skip rfl rfl ?_
    | refine WpL.cons rfl rfl (WpX.pure (fun _ => rfl) ⟨nolog, ?_⟩)
    | refine WpL.skip rfl rfl ?_
    | refine seqQ_normal ?_
    | refine seqQ_ret ?_
    | refine seqQ_exit ?_
    | refine blkQ_normal ?_
    | refine blkQ_ret ?_
    | refine blkQ_out rfl ?_
    | refine blkQ_by rfl ?_)
  refine WpO.cons rfl rfl (call_at rfl (of_ok r hlen) (fun n hn => .inl hn) (Nat.le_refl _) fun v h4 c4 hc4 hfr4 hq => ?_)
  obtain ⟨rfl, rfl, hq⟩ := hq
  rcases hq with ⟨i, q, sn, cl, junk, rfl, hz, hne, rfl, hsn, hg, hj, rfl⟩ | ⟨hno, rfl⟩
  · have hz2 : nth (flat tri st.rows ++ junk) (i * 3 + 2) = some (I q.2.2) := (nth_flat tri_len hz (by omega) junk).trans rfl
    repeat' (first
      | refine WpC.seq ?_
      | refine WpC.region ?_
      | refine WpC.drawn ?_
      | refine WpC.skip ?_
      | refine WpC.block ?_
      | refine WpC.exit ?_
      | refine WpC.ret ?_
      | refine WpO.nil ?_
      | refine WpO.cons rfl rfl (WpX.pure (fun _ => rfl) ⟨nolog, ?_⟩)
      | refine WpO.skip rfl rfl ?_
      | refine WpL.cons rfl rfl (WpX.pure (fun _ => rfl) ⟨nolog, ?_⟩)
      | refine WpL.skip rfl rfl ?_
      | refine seqQ_normal ?_
      | refine seqQ_ret ?_
      | refine seqQ_exit ?_
      | refine blkQ_normal ?_
      | refine blkQ_ret ?_
      | refine blkQ_out rfl ?_
      | refine blkQ_by rfl ?_)
    refine WpC.cond rfl (fun hb => by cases hb) (fun _ => ?_)
    repeat' (first
      | refine WpC.seq ?_
      | refine WpC.region ?_
      | refine WpC.drawn ?_
      | refine WpC.skip ?_
      | refine WpC.block ?_
      | refine WpC.exit ?_
      | refine WpC.ret ?_
      | refine WpO.nil ?_
      | refine WpO.cons rfl rfl (WpX.pure (fun _ => rfl) ⟨nolog, ?_⟩)
      | refine WpO.skip rfl rfl ?_
      | refine WpL.cons rfl rfl (WpX.pure (fun _ => rfl) ⟨nolog, ?_⟩)
      | refine WpL.skip rfl rfl ?_
      | refine seqQ_normal ?_
      | refine seqQ_ret ?_
      | refine seqQ_exit ?_
      | refine blkQ_normal ?_
      | refine blkQ_ret ?_
      | refine blkQ_out rfl ?_
      | refine blkQ_by rfl ?_
      | refine WpO.cons rfl rfl (op_load rfl rfl rfl hg hz2 ⟨(by simp [InL, Acc.name, rowName] <;> omega), ?_⟩)
      | refine WpL.cons rfl rfl (op_load rfl rfl rfl hg hz2 ⟨(by simp [InL, Acc.name, rowName] <;> omega), ?_⟩))
    exact out_ret rfl ⟨rfl, rfl, .inl ⟨i, q, rfl, hz, rfl⟩⟩
  ·
    repeat' (first
      | refine WpC.seq ?_
      | refine WpC.region ?_
      | refine WpC.drawn ?_
      | refine WpC.skip ?_
      | refine WpC.block ?_
      | refine WpC.exit ?_
      | refine WpC.ret ?_
      | refine WpO.nil ?_
      | refine WpO.cons rfl rfl (WpX.pure (fun _ => rfl) ⟨nolog, ?_⟩)
      | refine WpO.skip rfl rfl ?_
      | refine WpL.cons rfl rfl (WpX.pure (fun _ => rfl) ⟨nolog, ?_⟩)
      | refine WpL.skip rfl rfl ?_
      | refine seqQ_normal ?_
      | refine seqQ_ret ?_
      | refine seqQ_exit ?_
      | refine blkQ_normal ?_
      | refine blkQ_ret ?_
      | refine blkQ_out rfl ?_
      | refine blkQ_by rfl ?_)
    refine WpC.cond rfl (fun _ => ?_) (fun hb => by cases hb)
    repeat' (first
      | refine WpC.seq ?_
      | refine WpC.region ?_
      | refine WpC.drawn ?_
      | refine WpC.skip ?_
      | refine WpC.block ?_
      | refine WpC.exit ?_
      | refine WpC.ret ?_
      | refine WpO.nil ?_
      | refine WpO.cons rfl rfl (WpX.pure (fun _ => rfl) ⟨nolog, ?_⟩)
      | refine WpO.skip rfl rfl ?_
      | refine WpL.cons rfl rfl (WpX.pure (fun _ => rfl) ⟨nolog, ?_⟩)
      | refine WpL.skip rfl rfl ?_
      | refine seqQ_normal ?_
      | refine seqQ_ret ?_
      | refine seqQ_exit ?_
      | refine blkQ_normal ?_
      | refine blkQ_ret ?_
      | refine blkQ_out rfl ?_
      | refine blkQ_by rfl ?_)
    exact out_ret rfl ⟨rfl, rfl, .inr ⟨hno, rfl⟩⟩

theorem live_ok {h : HH} {c p : Nat} {vb vr : V} {st : St} (r : StoreAt h c p vb vr st) : Does 66 [.ptr (some (p, 0))] h c [p] fun v h' c' => h' = h ∧ c' = c ∧ v = I st.live := by
  have hobj := r.obj
  refine does_of (enter (fn := Try.f66) Try.func66 rfl rfl (Nat.le_of_ble_eq_true rfl) ?_)
  repeat' (first
    | refine WpC.seq ?_
    | refine WpC.region ?_
    | refine WpC.drawn ?_
    | refine WpC.skip ?_
    | refine WpC.block ?_
    | refine WpC.exit ?_
    | refine WpC.ret ?_
    | refine WpO.nil ?_
    | refine WpO.cons rfl rfl (WpX.pure (fun _ => rfl) ⟨nolog, ?_⟩)
    | refine WpO.skip rfl rfl ?_
    | refine WpL.cons rfl rfl (WpX.pure (fun _ => rfl) ⟨nolog, ?_⟩)
    | refine WpL.skip rfl rfl ?_
    | refine seqQ_normal ?_
    | refine seqQ_ret ?_
    | refine seqQ_exit ?_
    | refine blkQ_normal ?_
    | refine blkQ_ret ?_
    | refine blkQ_out rfl ?_
    | refine blkQ_by rfl ?_)
  refine WpC.cond rfl (fun hb => by cases hb) (fun _ => ?_)
  repeat' (first
    | refine WpC.seq ?_
    | refine WpC.region ?_
    | refine WpC.drawn ?_
    | refine WpC.skip ?_
    | refine WpC.block ?_
    | refine WpC.exit ?_
    | refine WpC.ret ?_
    | refine WpO.nil ?_
    | refine WpO.cons rfl rfl (WpX.pure (fun _ => rfl) ⟨nolog, ?_⟩)
    | refine WpO.skip rfl rfl ?_
    | refine WpL.cons rfl rfl (WpX.pure (fun _ => rfl) ⟨nolog, ?_⟩)
    | refine WpL.skip rfl rfl ?_
    | refine seqQ_normal ?_
    | refine seqQ_ret ?_
    | refine seqQ_exit ?_
    | refine blkQ_normal ?_
    | refine blkQ_ret ?_
    | refine blkQ_out rfl ?_
    | refine blkQ_by rfl ?_
    | refine WpO.cons rfl rfl (op_load rfl rfl rfl hobj rfl ⟨(by simp [InL, Acc.name, rowName] <;> omega), ?_⟩)
    | refine WpL.cons rfl rfl (op_load rfl rfl rfl hobj rfl ⟨(by simp [InL, Acc.name, rowName] <;> omega), ?_⟩))
  exact out_ret rfl ⟨rfl, rfl, rfl⟩

/-- A row is written anew. -/
theorem StoreAt.setRow {h : HH} {c p sn : Nat} {vb : V} {st : St} {cl : Bool} {junk : List V} {rows' : List (Int × Int × Int)} (r : StoreAt h c p vb (.slice (some (sn, 0)) st.rows.length (.upTo 3)) st) (hsn : sn < c) (hj : junk.all one1 = true) (hl : rows'.length = st.rows.length) :
    StoreAt (MapI.set h sn (.cells true cl (flat tri rows' ++ junk))) c p vb (.slice (some (sn, 0)) st.rows.length (.upTo 3)) { st with rows := rows' } :=
  ⟨by rw [MapI.get_ne _ _ _ _ (r.nr sn (by simp [rowName]))]; exact r.obj,
   r.bytes.keep (Nat.le_refl _) fun n hn hm => MapI.get_ne _ _ _ _ (fun e => r.br n hm (by simp [rowName, e])),
   .inr ⟨sn, cl, junk, by rw [hl], hsn, MapI.get_same _ _ _, hj⟩, r.lp, r.nb, r.nr, r.br⟩
theorem StoreAt.setLive {h : HH} {c p : Nat} {vb vr : V} {st : St} {x : Int} (r : StoreAt h c p vb vr st) : StoreAt (MapI.set h p (.cells true true [vb, I st.most, vr, I x])) c p vb vr { st with live := x } :=
  ⟨MapI.get_same _ _ _, r.bytes.keep (Nat.le_refl _) fun n hn hm => MapI.get_ne _ _ _ _ (Ne.symm (r.nb n hm)), r.rows.keep (Nat.le_refl _) fun n hn hm => MapI.get_ne _ _ _ _ (Ne.symm (r.nr n hm)), r.lp, r.nb, r.nr, r.br⟩

theorem hold_ok {h : HH} {c p : Nat} {vb vr : V} {st : St} {hd : Int} (r : StoreAt h c p vb vr st) (hlen : st.rows.length ≤ 1000) :
    Does 72 [.ptr (some (p, 0)), I hd] h c (p :: rowName vr) fun v h' c' => c' = c ∧
      ((∃ (i : Nat) (q : Int × Int × Int), hd = i + 1 ∧ st.rows[i]? = some q ∧ q.2.2 ≠ 0 ∧ v = .bool true ∧ StoreAt h' c p vb vr { st with rows := st.rows.set i (q.1, q.2.1, IntKind.i64.wrap (q.2.2 + 1)) }) ∨
       ((∀ (i : Nat) (q : Int × Int × Int), hd = i + 1 → st.rows[i]? = some q → q.2.2 = 0) ∧ v = .bool false ∧ h' = h)) := by
  refine does_of (enter (fn := Try.f72) Try.func72 rfl rfl (Nat.le_of_ble_eq_true rfl) ?_)
  repeat' (first
    | refine WpC.seq ?_
    | refine WpC.region ?_
    | refine WpC.drawn ?_
    | refine WpC.skip ?_
    | refine WpC.block ?_
    | refine WpC.exit ?_
    | refine WpC.ret ?_
    | refine WpO.nil ?_
    | refine WpO.cons rfl rfl (WpX.pure (fun _ => rfl) ⟨nolog, ?_⟩)
    | refine WpO.skip rfl rfl ?_
    | refine WpL.cons rfl rfl (WpX.pure (fun _ => rfl) ⟨nolog, ?_⟩)
    | refine WpL.skip rfl rfl ?_
    | refine seqQ_normal ?_
    | refine seqQ_ret ?_
    | refine seqQ_exit ?_
    | refine blkQ_normal ?_
    | refine blkQ_ret ?_
    | refine blkQ_out rfl ?_
    | refine blkQ_by rfl ?_)
  refine WpO.cons rfl rfl (call_at rfl (of_ok r hlen) (fun n hn => .inl hn) (Nat.le_refl _) fun v h4 c4 hc4 hfr4 hq => ?_)
  obtain ⟨rfl, rfl, hq⟩ := hq
  rcases hq with ⟨i, ⟨q0, q1, q2⟩, sn, cl, junk, rfl, hz, hne, rfl, hsn, hg, hj, rfl⟩ | ⟨hno, rfl⟩
  · have hz2 : nth (flat tri st.rows ++ junk) (i * 3 + 2) = some (I q2) := (nth_flat tri_len hz (by omega) junk).trans rfl
    have hlt := (List.getElem?_eq_some_iff.1 hz).1
    have hfl : i * 3 + 2 + 1 ≤ (flat tri st.rows ++ junk).length := by rw [List.length_append, flat_length tri_len]; omega
    repeat' (first
      | refine WpC.seq ?_
      | refine WpC.region ?_
      | refine WpC.drawn ?_
      | refine WpC.skip ?_
      | refine WpC.block ?_
      | refine WpC.exit ?_
      | refine WpC.ret ?_
      | refine WpO.nil ?_
      | refine WpO.cons rfl rfl (WpX.pure (fun _ => rfl) ⟨nolog, ?_⟩)
      | refine WpO.skip rfl rfl ?_
      | refine WpL.cons rfl rfl (WpX.pure (fun _ => rfl) ⟨nolog, ?_⟩)
      | refine WpL.skip rfl rfl ?_
      | refine seqQ_normal ?_
      | refine seqQ_ret ?_
      | refine seqQ_exit ?_
      | refine blkQ_normal ?_
      | refine blkQ_ret ?_
      | refine blkQ_out rfl ?_
      | refine blkQ_by rfl ?_)
    refine WpC.cond rfl (fun hb => by cases hb) (fun _ => ?_)
    repeat' (first
      | refine WpC.seq ?_
      | refine WpC.region ?_
      | refine WpC.drawn ?_
      | refine WpC.skip ?_
      | refine WpC.block ?_
      | refine WpC.exit ?_
      | refine WpC.ret ?_
      | refine WpO.nil ?_
      | refine WpO.cons rfl rfl (WpX.pure (fun _ => rfl) ⟨nolog, ?_⟩)
      | refine WpO.skip rfl rfl ?_
      | refine WpL.cons rfl rfl (WpX.pure (fun _ => rfl) ⟨nolog, ?_⟩)
      | refine WpL.skip rfl rfl ?_
      | refine seqQ_normal ?_
      | refine seqQ_ret ?_
      | refine seqQ_exit ?_
      | refine blkQ_normal ?_
      | refine blkQ_ret ?_
      | refine blkQ_out rfl ?_
      | refine blkQ_by rfl ?_
      | refine WpO.cons rfl rfl (op_load rfl rfl rfl hg hz2 ⟨(by simp [InL, Acc.name, rowName] <;> omega), ?_⟩)
      | refine WpL.cons rfl rfl (op_load rfl rfl rfl hg hz2 ⟨(by simp [InL, Acc.name, rowName] <;> omega), ?_⟩)
      | refine WpO.cons rfl rfl (op_store (k := 1) rfl rfl rfl rfl hg hfl rfl ⟨(by simp [InL, Acc.name, rowName] <;> omega), ?_⟩)
      | refine WpL.cons rfl rfl (op_store (k := 1) rfl rfl rfl rfl hg hfl rfl ⟨(by simp [InL, Acc.name, rowName] <;> omega), ?_⟩))
    refine out_ret rfl ⟨rfl, .inl ⟨i, _, rfl, hz, hne, rfl, ?_⟩⟩
    have := r.setRow (cl := cl) (junk := junk) (rows' := st.rows.set i (q0, q1, IntKind.i64.wrap (q2 + 1))) hsn hj (by simp)
    rw [← set_tri2 hz] at this
    exact this
  ·
    repeat' (first
      | refine WpC.seq ?_
      | refine WpC.region ?_
      | refine WpC.drawn ?_
      | refine WpC.skip ?_
      | refine WpC.block ?_
      | refine WpC.exit ?_
      | refine WpC.ret ?_
      | refine WpO.nil ?_
      | refine WpO.cons rfl rfl (WpX.pure (fun _ => rfl) ⟨nolog, ?_⟩)
      | refine WpO.skip rfl rfl ?_
      | refine WpL.cons rfl rfl (WpX.pure (fun _ => rfl) ⟨nolog, ?_⟩)
      | refine WpL.skip rfl rfl ?_
      | refine seqQ_normal ?_
      | refine seqQ_ret ?_
      | refine seqQ_exit ?_
      | refine blkQ_normal ?_
      | refine blkQ_ret ?_
      | refine blkQ_out rfl ?_
      | refine blkQ_by rfl ?_)
    refine WpC.cond rfl (fun _ => ?_) (fun hb => by cases hb)
    repeat' (first
      | refine WpC.seq ?_
      | refine WpC.region ?_
      | refine WpC.drawn ?_
      | refine WpC.skip ?_
      | refine WpC.block ?_
      | refine WpC.exit ?_
      | refine WpC.ret ?_
      | refine WpO.nil ?_
      | refine WpO.cons rfl rfl (WpX.pure (fun _ => rfl) ⟨nolog, ?_⟩)
      | refine WpO.skip rfl rfl ?_
      | refine WpL.cons rfl rfl (WpX.pure (fun _ => rfl) ⟨nolog, ?_⟩)
      | refine WpL.skip rfl rfl ?_
      | refine seqQ_normal ?_
      | refine seqQ_ret ?_
      | refine seqQ_exit ?_
      | refine blkQ_normal ?_
      | refine blkQ_ret ?_
      | refine blkQ_out rfl ?_
      | refine blkQ_by rfl ?_)
    exact out_ret rfl ⟨rfl, .inr ⟨hno, rfl, rfl⟩⟩

theorem drop_ok {h : HH} {c p : Nat} {vb vr : V} {st : St} {hd : Int} (r : StoreAt h c p vb vr st) (hlen : st.rows.length ≤ 1000) :
    Does 63 [.ptr (some (p, 0)), I hd] h c (p :: rowName vr) fun v h' c' => c' = c ∧
      ((∃ (i : Nat) (q : Int × Int × Int), hd = i + 1 ∧ st.rows[i]? = some q ∧ q.2.2 ≠ 0 ∧ v = .bool true ∧
          StoreAt h' c p vb vr { st with rows := st.rows.set i (q.1, q.2.1, IntKind.i64.wrap (q.2.2 - 1)), live := if IntKind.i64.wrap (q.2.2 - 1) = 0 then IntKind.i64.wrap (st.live - q.2.1) else st.live }) ∨
       ((∀ (i : Nat) (q : Int × Int × Int), hd = i + 1 → st.rows[i]? = some q → q.2.2 = 0) ∧ v = .bool false ∧ h' = h)) := by
  refine does_of (enter (fn := Try.f63) Try.func63 rfl rfl (Nat.le_of_ble_eq_true rfl) ?_)
  repeat' (first
    | refine WpC.seq ?_
    | refine WpC.region ?_
    | refine WpC.drawn ?_
    | refine WpC.skip ?_
    | refine WpC.block ?_
    | refine WpC.exit ?_
    | refine WpC.ret ?_
    | refine WpO.nil ?_
    | refine WpO.cons rfl rfl (WpX.pure (fun _ => rfl) ⟨nolog, ?_⟩)
    | refine WpO.skip rfl rfl ?_
    | refine WpL.cons rfl rfl (WpX.pure (fun _ => rfl) ⟨nolog, ?_⟩)
    | refine WpL.skip rfl rfl ?_
    | refine seqQ_normal ?_
    | refine seqQ_ret ?_
    | refine seqQ_exit ?_
    | refine blkQ_normal ?_
    | refine blkQ_ret ?_
    | refine blkQ_out rfl ?_
    | refine blkQ_by rfl ?_)
  refine WpO.cons rfl rfl (call_at rfl (of_ok r hlen) (fun n hn => .inl hn) (Nat.le_refl _) fun v h4 c4 hc4 hfr4 hq => ?_)
  obtain ⟨rfl, rfl, hq⟩ := hq
  rcases hq with ⟨i, ⟨q0, q1, q2⟩, sn, cl, junk, rfl, hz, hne, rfl, hsn, hg, hj, rfl⟩ | ⟨hno, rfl⟩
  · have hz2 : nth (flat tri st.rows ++ junk) (i * 3 + 2) = some (I q2) := (nth_flat tri_len hz (by omega) junk).trans rfl
    have hlt := (List.getElem?_eq_some_iff.1 hz).1
    have hfl : i * 3 + 2 + 1 ≤ (flat tri st.rows ++ junk).length := by rw [List.length_append, flat_length tri_len]; omega
    have r2 := r.setRow (cl := cl) (junk := junk) (rows' := st.rows.set i (q0, q1, IntKind.i64.wrap (q2 - 1))) hsn hj (by simp)
    rw [← set_tri2 hz] at r2
    have hobj2 := r2.obj
    have hz' : (st.rows.set i (q0, q1, IntKind.i64.wrap (q2 - 1)))[i]? = some (q0, q1, IntKind.i64.wrap (q2 - 1)) := by simp [hlt]
    have hg2 : MapI.get (MapI.set h4 sn (.cells true cl (setAll (flat tri st.rows ++ junk) (i * 3 + 2) [I (IntKind.i64.wrap (q2 - 1))]))) sn = some (.cells true cl (setAll (flat tri st.rows ++ junk) (i * 3 + 2) [I (IntKind.i64.wrap (q2 - 1))])) := MapI.get_same _ _ _
    have hn2 : nth (setAll (flat tri st.rows ++ junk) (i * 3 + 2) [I (IntKind.i64.wrap (q2 - 1))]) (i * 3 + 2) = some (I (IntKind.i64.wrap (q2 - 1))) := by
      rw [set_tri2 hz]; exact (nth_flat tri_len hz' (by omega) junk).trans rfl
    have hn1 : nth (setAll (flat tri st.rows ++ junk) (i * 3 + 2) [I (IntKind.i64.wrap (q2 - 1))]) (i * 3 + 1) = some (I q1) := by
      rw [set_tri2 hz]; exact (nth_flat tri_len hz' (by omega) junk).trans rfl
    have hps : p ≠ sn := fun e => r.nr sn (by simp [rowName]) e.symm
    repeat' (first
      | refine WpC.seq ?_
      | refine WpC.region ?_
      | refine WpC.drawn ?_
      | refine WpC.skip ?_
      | refine WpC.block ?_
      | refine WpC.exit ?_
      | refine WpC.ret ?_
      | refine WpO.nil ?_
      | refine WpO.cons rfl rfl (WpX.pure (fun _ => rfl) ⟨nolog, ?_⟩)
      | refine WpO.skip rfl rfl ?_
      | refine WpL.cons rfl rfl (WpX.pure (fun _ => rfl) ⟨nolog, ?_⟩)
      | refine WpL.skip rfl rfl ?_
      | refine seqQ_normal ?_
      | refine seqQ_ret ?_
      | refine seqQ_exit ?_
      | refine blkQ_normal ?_
      | refine blkQ_ret ?_
      | refine blkQ_out rfl ?_
      | refine blkQ_by rfl ?_)
    refine WpC.cond rfl (fun hb => by cases hb) (fun _ => ?_)
    repeat' (first
      | refine WpC.seq ?_
      | refine WpC.region ?_
      | refine WpC.drawn ?_
      | refine WpC.skip ?_
      | refine WpC.block ?_
      | refine WpC.exit ?_
      | refine WpC.ret ?_
      | refine WpO.nil ?_
      | refine WpO.cons rfl rfl (WpX.pure (fun _ => rfl) ⟨nolog, ?_⟩)
      | refine WpO.skip rfl rfl ?_
      | refine WpL.cons rfl rfl (WpX.pure (fun _ => rfl) ⟨nolog, ?_⟩)
      | refine WpL.skip rfl rfl ?_
      | refine seqQ_normal ?_
      | refine seqQ_ret ?_
      | refine seqQ_exit ?_
      | refine blkQ_normal ?_
      | refine blkQ_ret ?_
      | refine blkQ_out rfl ?_
      | refine blkQ_by rfl ?_
      | refine WpO.cons rfl rfl (op_load rfl rfl rfl hg hz2 ⟨(by simp [InL, Acc.name, rowName] <;> omega), ?_⟩)
      | refine WpL.cons rfl rfl (op_load rfl rfl rfl hg hz2 ⟨(by simp [InL, Acc.name, rowName] <;> omega), ?_⟩)
      | refine WpO.cons rfl rfl (op_store (k := 1) rfl rfl rfl rfl hg hfl rfl ⟨(by simp [InL, Acc.name, rowName] <;> omega), ?_⟩)
      | refine WpL.cons rfl rfl (op_store (k := 1) rfl rfl rfl rfl hg hfl rfl ⟨(by simp [InL, Acc.name, rowName] <;> omega), ?_⟩)
      | refine WpO.cons rfl rfl (op_load rfl rfl rfl hg2 hn2 ⟨(by simp [InL, Acc.name, rowName] <;> omega), ?_⟩)
      | refine WpL.cons rfl rfl (op_load rfl rfl rfl hg2 hn2 ⟨(by simp [InL, Acc.name, rowName] <;> omega), ?_⟩))
    refine WpC.cond rfl (fun heq => ?_) (fun hne2 => ?_)
    · have heq : IntKind.i64.wrap (q2 - 1) = 0 := by simpa using heq
      repeat' (first
        | refine WpC.seq ?_
        | refine WpC.region ?_
        | refine WpC.drawn ?_
        | refine WpC.skip ?_
        | refine WpC.block ?_
        | refine WpC.exit ?_
        | refine WpC.ret ?_
        | refine WpO.nil ?_
        | refine WpO.cons rfl rfl (WpX.pure (fun _ => rfl) ⟨nolog, ?_⟩)
        | refine WpO.skip rfl rfl ?_
        | refine WpL.cons rfl rfl (WpX.pure (fun _ => rfl) ⟨nolog, ?_⟩)
        | refine WpL.skip rfl rfl ?_
        | refine seqQ_normal ?_
        | refine seqQ_ret ?_
        | refine seqQ_exit ?_
        | refine blkQ_normal ?_
        | refine blkQ_ret ?_
        | refine blkQ_out rfl ?_
        | refine blkQ_by rfl ?_
        | refine WpO.cons rfl rfl (op_load rfl rfl rfl hobj2 rfl ⟨(by simp [InL, Acc.name, rowName] <;> omega), ?_⟩)
        | refine WpL.cons rfl rfl (op_load rfl rfl rfl hobj2 rfl ⟨(by simp [InL, Acc.name, rowName] <;> omega), ?_⟩)
        | refine WpO.cons rfl rfl (op_load rfl rfl rfl hg2 hn1 ⟨(by simp [InL, Acc.name, rowName] <;> omega), ?_⟩)
        | refine WpL.cons rfl rfl (op_load rfl rfl rfl hg2 hn1 ⟨(by simp [InL, Acc.name, rowName] <;> omega), ?_⟩)
        | refine WpO.cons rfl rfl (op_store (k := 1) rfl rfl rfl rfl hobj2 (Nat.le_of_ble_eq_true rfl) rfl ⟨(by simp [InL, Acc.name, rowName] <;> omega), ?_⟩)
        | refine WpL.cons rfl rfl (op_store (k := 1) rfl rfl rfl rfl hobj2 (Nat.le_of_ble_eq_true rfl) rfl ⟨(by simp [InL, Acc.name, rowName] <;> omega), ?_⟩))
      refine WpL.nil (logsOk_of (cs := [0, 1, 3, 7, 0, 16, 48, 112, 255, 511, 1023, 2047]) (by decide +kernel) ?_) ?_
      · simp +contextual [allP, apP, Dis, acc_rd, acc_wr, accw_rd, accw_wr, Nat.testBit, hps]
      repeat' (first
        | refine WpC.seq ?_
        | refine WpC.region ?_
        | refine WpC.drawn ?_
        | refine WpC.skip ?_
        | refine WpC.block ?_
        | refine WpC.exit ?_
        | refine WpC.ret ?_
        | refine WpO.nil ?_
        | refine WpO.cons rfl rfl (WpX.pure (fun _ => rfl) ⟨nolog, ?_⟩)
        | refine WpO.skip rfl rfl ?_
        | refine WpL.cons rfl rfl (WpX.pure (fun _ => rfl) ⟨nolog, ?_⟩)
        | refine WpL.skip rfl rfl ?_
        | refine seqQ_normal ?_
        | refine seqQ_ret ?_
        | refine seqQ_exit ?_
        | refine blkQ_normal ?_
        | refine blkQ_ret ?_
        | refine blkQ_out rfl ?_
        | refine blkQ_by rfl ?_)
      refine out_ret rfl ⟨rfl, .inl ⟨i, _, rfl, hz, hne, rfl, ?_⟩⟩
      simp only [heq, if_true]
      simp only [heq] at r2
      exact r2.setLive
    · have hne2 : IntKind.i64.wrap (q2 - 1) ≠ 0 := by simpa using hne2
      repeat' (first
        | refine WpC.seq ?_
        | refine WpC.region ?_
        | refine WpC.drawn ?_
        | refine WpC.skip ?_
        | refine WpC.block ?_
        | refine WpC.exit ?_
        | refine WpC.ret ?_
        | refine WpO.nil ?_
        | refine WpO.cons rfl rfl (WpX.pure (fun _ => rfl) ⟨nolog, ?_⟩)
        | refine WpO.skip rfl rfl ?_
        | refine WpL.cons rfl rfl (WpX.pure (fun _ => rfl) ⟨nolog, ?_⟩)
        | refine WpL.skip rfl rfl ?_
        | refine seqQ_normal ?_
        | refine seqQ_ret ?_
        | refine seqQ_exit ?_
        | refine blkQ_normal ?_
        | refine blkQ_ret ?_
        | refine blkQ_out rfl ?_
        | refine blkQ_by rfl ?_)
      refine out_ret rfl ⟨rfl, .inl ⟨i, _, rfl, hz, hne, rfl, ?_⟩⟩
      simp only [if_neg hne2]
      exact r2
  ·
    repeat' (first
      | refine WpC.seq ?_
      | refine WpC.region ?_
      | refine WpC.drawn ?_
      | refine WpC.skip ?_
      | refine WpC.block ?_
      | refine WpC.exit ?_
      | refine WpC.ret ?_
      | refine WpO.nil ?_
      | refine WpO.cons rfl rfl (WpX.pure (fun _ => rfl) ⟨nolog, ?_⟩)
      | refine WpO.skip rfl rfl ?_
      | refine WpL.cons rfl rfl (WpX.pure (fun _ => rfl) ⟨nolog, ?_⟩)
      | refine WpL.skip rfl rfl ?_
      | refine seqQ_normal ?_
      | refine seqQ_ret ?_
      | refine seqQ_exit ?_
      | refine blkQ_normal ?_
      | refine blkQ_ret ?_
      | refine blkQ_out rfl ?_
      | refine blkQ_by rfl ?_)
    refine WpC.cond rfl (fun _ => ?_) (fun hb => by cases hb)
    repeat' (first
      | refine WpC.seq ?_
      | refine WpC.region ?_
      | refine WpC.drawn ?_
      | refine WpC.skip ?_
      | refine WpC.block ?_
      | refine WpC.exit ?_
      | refine WpC.ret ?_
      | refine WpO.nil ?_
      | refine WpO.cons rfl rfl (WpX.pure (fun _ => rfl) ⟨nolog, ?_⟩)
      | refine WpO.skip rfl rfl ?_
      | refine WpL.cons rfl rfl (WpX.pure (fun _ => rfl) ⟨nolog, ?_⟩)
      | refine WpL.skip rfl rfl ?_
      | refine seqQ_normal ?_
      | refine seqQ_ret ?_
      | refine seqQ_exit ?_
      | refine blkQ_normal ?_
      | refine blkQ_ret ?_
      | refine blkQ_out rfl ?_
      | refine blkQ_by rfl ?_)
    exact out_ret rfl ⟨rfl, .inr ⟨hno, rfl, rfl⟩⟩
end Go.Proofs.Ytempfmkicpifkaa
