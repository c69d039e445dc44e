/- The store's functions: Grant where nothing must slide; awake. -/
import Derived.Test.YtempfmkicpifkaaStore3W
set_option linter.unusedVariables false
set_option linter.unusedSectionVars false
set_option linter.unusedSimpArgs false
set_option linter.unnecessarySimpa false
namespace Go.Proofs.Ytempfmkicpifkaa
open Go.Ab
set_option maxRecDepth 10000

theorem StoreAt.names {h : HH} {c p : Nat} {vb vr : V} {st : St} (r : StoreAt h c p vb vr st) : ∀ n ∈ p :: (rowName vb ++ rowName vr), n < c := fun n hn => by
  rcases List.mem_cons.1 hn with e | e
  · rw [e]; exact r.lp
  · rcases List.mem_append.1 e with e | e
    · exact r.bytes.lt n e
    · exact r.rows.lt n e
/-- Nothing is granted, and refused: nothing is turned. -/
theorem grant_zero {h : HH} {c p : Nat} {a : Option (Nat × Nat)} {cap : Cap} : Does 62 [.ptr (some (p, 0)), .slice a 0 cap] h c [] fun v h' c' => v = .tuple [I 0, .bool true] ∧ h' = h ∧ c' = c := by
  refine does_of (enter (fn := Try.f62) Try.func62 rfl rfl (Nat.le_of_ble_eq_true rfl) ?_)
  repeat' (first
    | refine WpC.seq ?_
    | refine WpC.region ?_
    | refine WpC.drawn ?_
    | refine WpC.skip ?_
    | refine WpC.block ?_
    | refine WpC.exit ?_
    | refine WpC.ret ?_
    | refine WpO.nil ?_
    | refine WpO.cons rfl rfl (WpX.pure (fun _ => rfl) ⟨nolog, ?_⟩)
    | refine WpO.skip rfl rfl ?_
    | refine WpL.cons rfl rfl (WpX.pure (fun _ => rfl) ⟨nolog, ?_⟩)
    | refine WpL.skip rfl rfl ?_
    | refine seqQ_normal ?_
    | refine seqQ_ret ?_
    | refine seqQ_exit ?_
    | refine blkQ_normal ?_
    | refine blkQ_ret ?_
    | refine blkQ_out rfl ?_
    | refine blkQ_by rfl ?_)
  refine WpC.cond rfl (fun hb => by cases hb) (fun _ => ?_)
  repeat' (first
    | refine WpC.seq ?_
    | refine WpC.region ?_
    | refine WpC.drawn ?_
    | refine WpC.skip ?_
    | refine WpC.block ?_
    | refine WpC.exit ?_
    | refine WpC.ret ?_
    | refine WpO.nil ?_
    | refine WpO.cons rfl rfl (WpX.pure (fun _ => rfl) ⟨nolog, ?_⟩)
    | refine WpO.skip rfl rfl ?_
    | refine WpL.cons rfl rfl (WpX.pure (fun _ => rfl) ⟨nolog, ?_⟩)
    | refine WpL.skip rfl rfl ?_
    | refine seqQ_normal ?_
    | refine seqQ_ret ?_
    | refine seqQ_exit ?_
    | refine blkQ_normal ?_
    | refine blkQ_ret ?_
    | refine blkQ_out rfl ?_
    | refine blkQ_by rfl ?_
    | refine WpO.cons rfl rfl (op_len rfl rfl rfl ⟨(by simp [InL, Acc.name, rowName] <;> omega), ?_⟩)
    | refine WpL.cons rfl rfl (op_len rfl rfl rfl ⟨(by simp [InL, Acc.name, rowName] <;> omega), ?_⟩))
  refine WpC.cond rfl (fun _ => ?_) (fun hb => by cases hb)
  repeat' (first
    | refine WpC.seq ?_
    | refine WpC.region ?_
    | refine WpC.drawn ?_
    | refine WpC.skip ?_
    | refine WpC.block ?_
    | refine WpC.exit ?_
    | refine WpC.ret ?_
    | refine WpO.nil ?_
    | refine WpO.cons rfl rfl (WpX.pure (fun _ => rfl) ⟨nolog, ?_⟩)
    | refine WpO.skip rfl rfl ?_
    | refine WpL.cons rfl rfl (WpX.pure (fun _ => rfl) ⟨nolog, ?_⟩)
    | refine WpL.skip rfl rfl ?_
    | refine seqQ_normal ?_
    | refine seqQ_ret ?_
    | refine seqQ_exit ?_
    | refine blkQ_normal ?_
    | refine blkQ_ret ?_
    | refine blkQ_out rfl ?_
    | refine blkQ_by rfl ?_)
  exact out_ret rfl ⟨rfl, rfl, rfl⟩
theorem grant_no {h : HH} {c p n : Nat} {vb vr : V} {st : St} {a : Option (Nat × Nat)} {cap : Cap} (r : StoreAt h c p vb vr st) (hn : 0 < n) (hn2 : n ≤ 100000000) (hm : 0 ≤ st.most ∧ st.most ≤ 1048576) (hno : st.live > st.most - n) :
    Does 62 [.ptr (some (p, 0)), .slice a n cap] h c [p] fun v h' c' => v = .tuple [I 0, .bool false] ∧ h' = h ∧ c' = c := by
  have hobj := r.obj
  have hw : IntKind.i64.wrap (st.most - (n : Int)) = st.most - n := Go.IntWalk.i64_in _ (by omega)
  refine does_of (enter (fn := Try.f62) Try.func62 rfl rfl (Nat.le_of_ble_eq_true rfl) ?_)
  repeat' (first
    | refine WpC.seq ?_
    | refine WpC.region ?_
    | refine WpC.drawn ?_
    | refine WpC.skip ?_
    | refine WpC.block ?_
    | refine WpC.exit ?_
    | refine WpC.ret ?_
    | refine WpO.nil ?_
    | refine WpO.cons rfl rfl (WpX.pure (fun _ => rfl) ⟨nolog, ?_⟩)
    | refine WpO.skip rfl rfl ?_
    | refine WpL.cons rfl rfl (WpX.pure (fun _ => rfl) ⟨nolog, ?_⟩)
    | refine WpL.skip rfl rfl ?_
    | refine seqQ_normal ?_
    | refine seqQ_ret ?_
    | refine seqQ_exit ?_
    | refine blkQ_normal ?_
    | refine blkQ_ret ?_
    | refine blkQ_out rfl ?_
    | refine blkQ_by rfl ?_)
  refine WpC.cond rfl (fun hb => by cases hb) (fun _ => ?_)
  repeat' (first
    | refine WpC.seq ?_
    | refine WpC.region ?_
    | refine WpC.drawn ?_
    | refine WpC.skip ?_
    | refine WpC.block ?_
    | refine WpC.exit ?_
    | refine WpC.ret ?_
    | refine WpO.nil ?_
    | refine WpO.cons rfl rfl (WpX.pure (fun _ => rfl) ⟨nolog, ?_⟩)
    | refine WpO.skip rfl rfl ?_
    | refine WpL.cons rfl rfl (WpX.pure (fun _ => rfl) ⟨nolog, ?_⟩)
    | refine WpL.skip rfl rfl ?_
    | refine seqQ_normal ?_
    | refine seqQ_ret ?_
    | refine seqQ_exit ?_
    | refine blkQ_normal ?_
    | refine blkQ_ret ?_
    | refine blkQ_out rfl ?_
    | refine blkQ_by rfl ?_
    | refine WpO.cons rfl rfl (op_len rfl rfl rfl ⟨(by simp [InL, Acc.name, rowName] <;> omega), ?_⟩)
    | refine WpL.cons rfl rfl (op_len rfl rfl rfl ⟨(by simp [InL, Acc.name, rowName] <;> omega), ?_⟩))
  refine WpC.cond rfl (fun hb => by simp at hb; omega) (fun _ => ?_)
  repeat' (first
    | refine WpC.seq ?_
    | refine WpC.region ?_
    | refine WpC.drawn ?_
    | refine WpC.skip ?_
    | refine WpC.block ?_
    | refine WpC.exit ?_
    | refine WpC.ret ?_
    | refine WpO.nil ?_
    | refine WpO.cons rfl rfl (WpX.pure (fun _ => rfl) ⟨nolog, ?_⟩)
    | refine WpO.skip rfl rfl ?_
    | refine WpL.cons rfl rfl (WpX.pure (fun _ => rfl) ⟨nolog, ?_⟩)
    | refine WpL.skip rfl rfl ?_
    | refine seqQ_normal ?_
    | refine seqQ_ret ?_
    | refine seqQ_exit ?_
    | refine blkQ_normal ?_
    | refine blkQ_ret ?_
    | refine blkQ_out rfl ?_
    | refine blkQ_by rfl ?_
    | refine WpO.cons rfl rfl (op_len rfl rfl rfl ⟨(by simp [InL, Acc.name, rowName] <;> omega), ?_⟩)
    | refine WpL.cons rfl rfl (op_len rfl rfl rfl ⟨(by simp [InL, Acc.name, rowName] <;> omega), ?_⟩)
    | refine WpO.cons rfl rfl (op_load rfl rfl rfl hobj rfl ⟨(by simp [InL, Acc.name, rowName] <;> omega), ?_⟩)
    | refine WpL.cons rfl rfl (op_load rfl rfl rfl hobj rfl ⟨(by simp [InL, Acc.name, rowName] <;> omega), ?_⟩))
  refine WpL.nil (logsOk_of (cs := [0, 1, 3, 7, 0, 16, 48, 112, 0, 256, 1008, 2047, 4095]) (by decide +kernel) ?_) ?_
  · simp +contextual [allP, apP, Dis, acc_rd, acc_wr, accw_rd, accw_wr, Nat.testBit]
  refine WpC.cond rfl (fun _ => ?_) (fun hb => by rw [hw] at hb; simp at hb; omega)
  repeat' (first
    | refine WpC.seq ?_
    | refine WpC.region ?_
    | refine WpC.drawn ?_
    | refine WpC.skip ?_
    | refine WpC.block ?_
    | refine WpC.exit ?_
    | refine WpC.ret ?_
    | refine WpO.nil ?_
    | refine WpO.cons rfl rfl (WpX.pure (fun _ => rfl) ⟨nolog, ?_⟩)
    | refine WpO.skip rfl rfl ?_
    | refine WpL.cons rfl rfl (WpX.pure (fun _ => rfl) ⟨nolog, ?_⟩)
    | refine WpL.skip rfl rfl ?_
    | refine seqQ_normal ?_
    | refine seqQ_ret ?_
    | refine seqQ_exit ?_
    | refine blkQ_normal ?_
    | refine blkQ_ret ?_
    | refine blkQ_out rfl ?_
    | refine blkQ_by rfl ?_)
  exact out_ret rfl ⟨rfl, rfl, rfl⟩
theorem grant_at {h : HH} {c p m o n : Nat} {vb vr : V} {st : St} {cap : Cap} {rw' cl' : Bool} {cs : List V} {ys : List Int} (r : StoreAt h c p vb vr st) (hn : 0 < n) (hn2 : n ≤ 1048576) (hy : ys.length = n) (hx : MapI.get h m = some (.cells rw' cl' cs)) (hcut : cut cs o (n * 1) = some (flat byteV ys)) (hm : 0 ≤ st.most ∧ st.most ≤ 1048576)
    (hlive : 0 ≤ st.live ∧ st.live ≤ 1048576) (hbs : (st.bs.length : Int) ≤ st.most - n) (hyes : st.live ≤ st.most - n) (hlen : st.rows.length ≤ 1000) (hmc : m < c) (hmn : m ∉ p :: (rowName vb ++ rowName vr)) :
    Does 62 [.ptr (some (p, 0)), .slice (some (m, o)) n cap] h c (m :: p :: (rowName vb ++ rowName vr)) fun v h' c' => MapI.get h' m = MapI.get h m ∧ ∃ (i : Nat) (vb' vr' : V) (rows' : List (Int × Int × Int)), v = .tuple [I ((i + 1 : Nat) : Int), .bool true] ∧
      StoreAt h' c' p vb' vr' ⟨st.bs ++ ys, st.most, rows', st.live + n⟩ ∧ (∀ a ∈ rowName vb' ++ rowName vr', a ∈ rowName vb ++ rowName vr ∨ c ≤ a) ∧ i ≤ st.rows.length ∧ (∀ j q, j < i → st.rows[j]? = some q → q.2.2 ≠ 0) ∧
      ((∃ q, st.rows[i]? = some q ∧ q.2.2 = 0 ∧ rows' = st.rows.set i (st.bs.length, n, 1)) ∨ (i = st.rows.length ∧ rows' = st.rows ++ [((st.bs.length : Int), (n : Int), (1 : Int))])) := by
  have hobj := r.obj
  have hlp := r.lp
  have hw : IntKind.i64.wrap (st.most - (n : Int)) = st.most - n := Go.IntWalk.i64_in _ (by omega)
  have hw2 : IntKind.i64.wrap (st.live + (n : Int)) = st.live + n := Go.IntWalk.i64_in _ (by omega)
  obtain ⟨sb, cb, rfl, _⟩ := r.bytes.shape
  refine does_of (enter (fn := Try.f62) Try.func62 rfl rfl (Nat.le_of_ble_eq_true rfl) ?_)
  repeat' (first
    | refine WpC.seq ?_
    | refine WpC.region ?_
    | refine WpC.drawn ?_
    | refine WpC.skip ?_
    | refine WpC.block ?_
    | refine WpC.exit ?_
    | refine WpC.ret ?_
    | refine WpO.nil ?_
    | refine WpO.cons rfl rfl (WpX.pure (fun _ => rfl) ⟨nolog, ?_⟩)
    | refine WpO.skip rfl rfl ?_
    | refine WpL.cons rfl rfl (WpX.pure (fun _ => rfl) ⟨nolog, ?_⟩)
    | refine WpL.skip rfl rfl ?_
    | refine seqQ_normal ?_
    | refine seqQ_ret ?_
    | refine seqQ_exit ?_
    | refine blkQ_normal ?_
    | refine blkQ_ret ?_
    | refine blkQ_out rfl ?_
    | refine blkQ_by rfl ?_)
  refine WpC.cond rfl (fun hb => by cases hb) (fun _ => ?_)
  repeat' (first
    | refine WpC.seq ?_
    | refine WpC.region ?_
    | refine WpC.drawn ?_
    | refine WpC.skip ?_
    | refine WpC.block ?_
    | refine WpC.exit ?_
    | refine WpC.ret ?_
    | refine WpO.nil ?_
    | refine WpO.cons rfl rfl (WpX.pure (fun _ => rfl) ⟨nolog, ?_⟩)
    | refine WpO.skip rfl rfl ?_
    | refine WpL.cons rfl rfl (WpX.pure (fun _ => rfl) ⟨nolog, ?_⟩)
    | refine WpL.skip rfl rfl ?_
    | refine seqQ_normal ?_
    | refine seqQ_ret ?_
    | refine seqQ_exit ?_
    | refine blkQ_normal ?_
    | refine blkQ_ret ?_
    | refine blkQ_out rfl ?_
    | refine blkQ_by rfl ?_
    | refine WpO.cons rfl rfl (op_len rfl rfl rfl ⟨(by simp [InL, Acc.name, rowName] <;> omega), ?_⟩)
    | refine WpL.cons rfl rfl (op_len rfl rfl rfl ⟨(by simp [InL, Acc.name, rowName] <;> omega), ?_⟩))
  refine WpC.cond rfl (fun hb => by simp at hb; omega) (fun _ => ?_)
  repeat' (first
    | refine WpC.seq ?_
    | refine WpC.region ?_
    | refine WpC.drawn ?_
    | refine WpC.skip ?_
    | refine WpC.block ?_
    | refine WpC.exit ?_
    | refine WpC.ret ?_
    | refine WpO.nil ?_
    | refine WpO.cons rfl rfl (WpX.pure (fun _ => rfl) ⟨nolog, ?_⟩)
    | refine WpO.skip rfl rfl ?_
    | refine WpL.cons rfl rfl (WpX.pure (fun _ => rfl) ⟨nolog, ?_⟩)
    | refine WpL.skip rfl rfl ?_
    | refine seqQ_normal ?_
    | refine seqQ_ret ?_
    | refine seqQ_exit ?_
    | refine blkQ_normal ?_
    | refine blkQ_ret ?_
    | refine blkQ_out rfl ?_
    | refine blkQ_by rfl ?_
    | refine WpO.cons rfl rfl (op_len rfl rfl rfl ⟨(by simp [InL, Acc.name, rowName] <;> omega), ?_⟩)
    | refine WpL.cons rfl rfl (op_len rfl rfl rfl ⟨(by simp [InL, Acc.name, rowName] <;> omega), ?_⟩)
    | refine WpO.cons rfl rfl (op_load rfl rfl rfl hobj rfl ⟨(by simp [InL, Acc.name, rowName] <;> omega), ?_⟩)
    | refine WpL.cons rfl rfl (op_load rfl rfl rfl hobj rfl ⟨(by simp [InL, Acc.name, rowName] <;> omega), ?_⟩))
  refine WpL.nil (logsOk_of (cs := [0, 1, 3, 7, 0, 16, 48, 112, 0, 256, 1008, 2047, 4095]) (by decide +kernel) ?_) ?_
  · simp +contextual [allP, apP, Dis, acc_rd, acc_wr, accw_rd, accw_wr, Nat.testBit]
  refine WpC.cond rfl (fun hb => by rw [hw] at hb; simp at hb; omega) (fun _ => ?_)
  repeat' (first
    | refine WpC.seq ?_
    | refine WpC.region ?_
    | refine WpC.drawn ?_
    | refine WpC.skip ?_
    | refine WpC.block ?_
    | refine WpC.exit ?_
    | refine WpC.ret ?_
    | refine WpO.nil ?_
    | refine WpO.cons rfl rfl (WpX.pure (fun _ => rfl) ⟨nolog, ?_⟩)
    | refine WpO.skip rfl rfl ?_
    | refine WpL.cons rfl rfl (WpX.pure (fun _ => rfl) ⟨nolog, ?_⟩)
    | refine WpL.skip rfl rfl ?_
    | refine seqQ_normal ?_
    | refine seqQ_ret ?_
    | refine seqQ_exit ?_
    | refine blkQ_normal ?_
    | refine blkQ_ret ?_
    | refine blkQ_out rfl ?_
    | refine blkQ_by rfl ?_
    | refine WpO.cons rfl rfl (op_len rfl rfl rfl ⟨(by simp [InL, Acc.name, rowName] <;> omega), ?_⟩)
    | refine WpL.cons rfl rfl (op_len rfl rfl rfl ⟨(by simp [InL, Acc.name, rowName] <;> omega), ?_⟩)
    | refine WpO.cons rfl rfl (op_load rfl rfl rfl hobj rfl ⟨(by simp [InL, Acc.name, rowName] <;> omega), ?_⟩)
    | refine WpL.cons rfl rfl (op_load rfl rfl rfl hobj rfl ⟨(by simp [InL, Acc.name, rowName] <;> omega), ?_⟩))
  refine WpL.nil (logsOk_of (cs := [0, 1, 3, 7, 15, 0, 32, 96, 224, 0, 512, 2016, 4095]) (by decide +kernel) ?_) ?_
  · simp +contextual [allP, apP, Dis, acc_rd, acc_wr, accw_rd, accw_wr, Nat.testBit]
  refine WpC.cond rfl (fun hb => by rw [hw] at hb; simp at hb; omega) (fun _ => ?_)
  repeat' (first
    | refine WpC.seq ?_
    | refine WpC.region ?_
    | refine WpC.drawn ?_
    | refine WpC.skip ?_
    | refine WpC.block ?_
    | refine WpC.exit ?_
    | refine WpC.ret ?_
    | refine WpO.nil ?_
    | refine WpO.cons rfl rfl (WpX.pure (fun _ => rfl) ⟨nolog, ?_⟩)
    | refine WpO.skip rfl rfl ?_
    | refine WpL.cons rfl rfl (WpX.pure (fun _ => rfl) ⟨nolog, ?_⟩)
    | refine WpL.skip rfl rfl ?_
    | refine seqQ_normal ?_
    | refine seqQ_ret ?_
    | refine seqQ_exit ?_
    | refine blkQ_normal ?_
    | refine blkQ_ret ?_
    | refine blkQ_out rfl ?_
    | refine blkQ_by rfl ?_)
  refine WpO.cons rfl rfl (call_at rfl (free_ok r hlen) (fun x hx => .inl (by simp at hx ⊢; rcases hx with h | h <;> simp [h])) (Nat.le_refl _) fun v h4 c4 hc4 hfr4 hq => ?_)
  obtain ⟨i, rfl, hq⟩ := hq
  have key : ∃ vr4 rows4, StoreAt h4 c4 p (.slice sb st.bs.length cb) vr4 { st with rows := rows4 } ∧ (∀ a ∈ rowName vr4, a ∈ rowName vr ∨ c ≤ a) ∧ i < rows4.length ∧ i ≤ st.rows.length ∧ (∀ j q, j < i → st.rows[j]? = some q → q.2.2 ≠ 0) ∧
      ((∃ q, st.rows[i]? = some q ∧ q.2.2 = 0 ∧ rows4.set i ((st.bs.length : Int), (n : Int), (1 : Int)) = st.rows.set i (st.bs.length, n, 1)) ∨ (i = st.rows.length ∧ rows4.set i ((st.bs.length : Int), (n : Int), (1 : Int)) = st.rows ++ [((st.bs.length : Int), (n : Int), (1 : Int))])) := by
    rcases hq with ⟨q, h1, h2, h3, h4⟩ | ⟨rfl, h3, vr4, h4, h5⟩
    · have := (List.getElem?_eq_some_iff.1 h1).1
      exact ⟨vr, st.rows, h4, fun a ha => .inl ha, this, by omega, h3, .inl ⟨q, h1, h2, rfl⟩⟩
    · exact ⟨vr4, _, h4, h5, by simp, Nat.le_refl _, fun j q hj => h3 j q hj, .inr ⟨rfl, by simp⟩⟩
  obtain ⟨vr4, rows4, r4, hn4, hi4, hil, hbefore, hrows4⟩ := key
  have hobj4 := r4.obj
  obtain ⟨s4, cap4, rfl, hs4⟩ := r4.rows.shape
  obtain ⟨rfl, sn, cl, junk, rfl, hsn, hg4, hj4⟩ := hs4 i hi4
  simp only at hobj4 hg4 hi4
  have hps : p ≠ sn := fun e => r4.nr sn (by simp [rowName]) e.symm
  have hmsn : m ≠ sn := fun e => by
    rcases hn4 sn (by simp [rowName]) with h | h
    · exact hmn (by rw [e]; simp [h])
    · omega
  have hmp : m ≠ p := fun e => hmn (by simp [e])
  have hx4 : MapI.get h4 m = some (.cells rw' cl' cs) := by
    rw [hfr4 m hmc (fun hm => hmn (by simp at hm ⊢; rcases hm with h | h <;> simp [h]))]; exact hx
  have hfl : 0 + ((i : Nat) : Int).toNat * 3 + 3 ≤ (flat tri rows4 ++ junk).length := by
    rw [List.length_append, flat_length tri_len]; simp; omega
  have hLsn : InL (m :: p :: (rowName (.slice sb st.bs.length cb) ++ rowName vr)) c (.wr sn) := by
    rcases hn4 sn (by simp [rowName]) with h | h
    · exact .inl (by simp [acc_wr, h])
    · exact .inr h
  have hLsr : InL (m :: p :: (rowName (.slice sb st.bs.length cb) ++ rowName vr)) c (.rd sn) := by
    rcases hn4 sn (by simp [rowName]) with h | h
    · exact .inl (by simp [acc_rd, h])
    · exact .inr h
  have hLl : ∀ x ∈ [Acc.rd sn, Acc.wr sn], InL (m :: p :: (rowName (.slice sb st.bs.length cb) ++ rowName vr)) c x := fun x hx => by
    simp at hx; rcases hx with rfl | rfl <;> assumption
  have hr5 := r4.setRow (cl := cl) (junk := junk) (rows' := rows4.set i (st.bs.length, n, 1)) hsn hj4 (by simp)
  have e5 : setAll (flat tri rows4 ++ junk) (0 + ((i : Nat) : Int).toNat * 3) [I st.bs.length, I n, I 1] = flat tri (rows4.set i (st.bs.length, n, 1)) ++ junk := by
    rw [show 0 + ((i : Nat) : Int).toNat * 3 = i * 3 from by simp]; exact set_tri hi4
  rw [← e5] at hr5
  have hobj5 := hr5.obj
  simp only at hobj5
  have hx5 : MapI.get (MapI.set h4 sn (.cells true cl (setAll (flat tri rows4 ++ junk) (0 + ((i : Nat) : Int).toNat * 3) [I st.bs.length, I n, I 1]))) m = some (.cells rw' cl' cs) := by
    rw [MapI.get_ne _ _ _ _ (Ne.symm hmsn)]; exact hx4
  repeat' (first
    | refine WpC.seq ?_
    | refine WpC.region ?_
    | refine WpC.drawn ?_
    | refine WpC.skip ?_
    | refine WpC.block ?_
    | refine WpC.exit ?_
    | refine WpC.ret ?_
    | refine WpO.nil ?_
    | refine WpO.cons rfl rfl (WpX.pure (fun _ => rfl) ⟨nolog, ?_⟩)
    | refine WpO.skip rfl rfl ?_
    | refine WpL.cons rfl rfl (WpX.pure (fun _ => rfl) ⟨nolog, ?_⟩)
    | refine WpL.skip rfl rfl ?_
    | refine seqQ_normal ?_
    | refine seqQ_ret ?_
    | refine seqQ_exit ?_
    | refine blkQ_normal ?_
    | refine blkQ_ret ?_
    | refine blkQ_out rfl ?_
    | refine blkQ_by rfl ?_
    | refine WpO.cons rfl rfl (op_len rfl rfl rfl ⟨(by simp [InL, Acc.name, rowName] <;> omega), ?_⟩)
    | refine WpL.cons rfl rfl (op_len rfl rfl rfl ⟨(by simp [InL, Acc.name, rowName] <;> omega), ?_⟩)
    | refine WpO.cons rfl rfl (op_load rfl rfl rfl hobj4 rfl ⟨(by simp [InL, Acc.name, rowName] <;> omega), ?_⟩)
    | refine WpL.cons rfl rfl (op_load rfl rfl rfl hobj4 rfl ⟨(by simp [InL, Acc.name, rowName] <;> omega), ?_⟩)
    | refine WpO.cons rfl rfl (op_indexAddr (k := 3) rfl rfl rfl rfl ⟨by omega, by omega⟩ ⟨(by simp [InL, Acc.name, rowName] <;> omega), ?_⟩)
    | refine WpL.cons rfl rfl (op_indexAddr (k := 3) rfl rfl rfl rfl ⟨by omega, by omega⟩ ⟨(by simp [InL, Acc.name, rowName] <;> omega), ?_⟩)
    | refine WpL.cons rfl rfl (op_store (k := 3) rfl rfl rfl rfl hg4 hfl rfl ⟨hLl, ?_⟩))
  refine WpL.nil (logsOk_of (cs := [0, 1, 3, 7, 0, 0, 32, 96, 224, 480, 0, 1024, 4064, 8191, 16383]) (by decide +kernel) ?_) ?_
  · simp +contextual [allP, apP, Dis, acc_rd, acc_wr, accw_rd, accw_wr, Nat.testBit, hps]
  repeat' (first
    | refine WpC.seq ?_
    | refine WpC.region ?_
    | refine WpC.drawn ?_
    | refine WpC.skip ?_
    | refine WpC.block ?_
    | refine WpC.exit ?_
    | refine WpC.ret ?_
    | refine WpO.nil ?_
    | refine WpO.cons rfl rfl (WpX.pure (fun _ => rfl) ⟨nolog, ?_⟩)
    | refine WpO.skip rfl rfl ?_
    | refine WpL.cons rfl rfl (WpX.pure (fun _ => rfl) ⟨nolog, ?_⟩)
    | refine WpL.skip rfl rfl ?_
    | refine seqQ_normal ?_
    | refine seqQ_ret ?_
    | refine seqQ_exit ?_
    | refine blkQ_normal ?_
    | refine blkQ_ret ?_
    | refine blkQ_out rfl ?_
    | refine blkQ_by rfl ?_
    | refine WpO.cons rfl rfl (op_load rfl rfl rfl hobj5 rfl ⟨(by simp [InL, Acc.name, rowName] <;> omega), ?_⟩)
    | refine WpL.cons rfl rfl (op_load rfl rfl rfl hobj5 rfl ⟨(by simp [InL, Acc.name, rowName] <;> omega), ?_⟩))
  refine WpO.cons rfl rfl (append_at (ys := ys) rfl rfl elB rfl byte_len byte_all hr5.bytes hx5 hcut hy (by simp only; omega) (.inl (by simp [acc_rd])) (fun a ha => ⟨.inl (by simp [acc_rd, ha]), .inl (by simp [acc_wr, ha])⟩) (.inr (by simp [acc_wr]; omega)) fun v6 h6 c6 hl6 hn6 hc6 hf6 => ?_)
  have hone := hl6.one
  have hbp : ∀ a ∈ rowName (.slice sb st.bs.length cb), a < c4 := r4.bytes.lt
  have hobj6 : MapI.get h6 p = some (.cells true true [.slice sb st.bs.length cb, I st.most, .slice (some (sn, 0)) rows4.length (.upTo 3), I st.live]) := by
    rw [hf6 p (by have := r4.lp; omega) (fun hm => r4.nb p hm rfl)]; exact hobj5
  have hnb6 : ∀ a ∈ rowName v6, a ≠ p := fun a ha e => by
    rcases hn6 a ha with h | ⟨h, _⟩
    · exact r4.nb a h e
    · have := r4.lp; omega
  have hobj7 : MapI.get (MapI.set h6 p (.cells true true (setAll [.slice sb st.bs.length cb, I st.most, .slice (some (sn, 0)) rows4.length (.upTo 3), I st.live] 0 (cellsV v6)))) p = some (.cells true true [v6, I st.most, .slice (some (sn, 0)) rows4.length (.upTo 3), I st.live]) := by
    rw [MapI.get_same, hone.1]; rfl
  repeat' (first
    | refine WpC.seq ?_
    | refine WpC.region ?_
    | refine WpC.drawn ?_
    | refine WpC.skip ?_
    | refine WpC.block ?_
    | refine WpC.exit ?_
    | refine WpC.ret ?_
    | refine WpO.nil ?_
    | refine WpO.cons rfl rfl (WpX.pure (fun _ => rfl) ⟨nolog, ?_⟩)
    | refine WpO.skip rfl rfl ?_
    | refine WpL.cons rfl rfl (WpX.pure (fun _ => rfl) ⟨nolog, ?_⟩)
    | refine WpL.skip rfl rfl ?_
    | refine seqQ_normal ?_
    | refine seqQ_ret ?_
    | refine seqQ_exit ?_
    | refine blkQ_normal ?_
    | refine blkQ_ret ?_
    | refine blkQ_out rfl ?_
    | refine blkQ_by rfl ?_
    | refine WpO.cons rfl rfl (op_store (k := 1) rfl rfl rfl (by rw [hone.1]; rfl) hobj6 (Nat.le_of_ble_eq_true rfl) (by rw [hone.1]; simp [hone.2]) ⟨(by simp [InL, Acc.name, rowName] <;> omega), ?_⟩)
    | refine WpL.cons rfl rfl (op_store (k := 1) rfl rfl rfl (by rw [hone.1]; rfl) hobj6 (Nat.le_of_ble_eq_true rfl) (by rw [hone.1]; simp [hone.2]) ⟨(by simp [InL, Acc.name, rowName] <;> omega), ?_⟩)
    | refine WpO.cons rfl rfl (op_len rfl rfl rfl ⟨(by simp [InL, Acc.name, rowName] <;> omega), ?_⟩)
    | refine WpL.cons rfl rfl (op_len rfl rfl rfl ⟨(by simp [InL, Acc.name, rowName] <;> omega), ?_⟩)
    | refine WpO.cons rfl rfl (op_load rfl rfl rfl hobj7 rfl ⟨(by simp [InL, Acc.name, rowName] <;> omega), ?_⟩)
    | refine WpL.cons rfl rfl (op_load rfl rfl rfl hobj7 rfl ⟨(by simp [InL, Acc.name, rowName] <;> omega), ?_⟩)
    | refine WpO.cons rfl rfl (op_store (k := 1) rfl rfl rfl rfl hobj7 (Nat.le_of_ble_eq_true rfl) rfl ⟨(by simp [InL, Acc.name, rowName] <;> omega), ?_⟩)
    | refine WpL.cons rfl rfl (op_store (k := 1) rfl rfl rfl rfl hobj7 (Nat.le_of_ble_eq_true rfl) rfl ⟨(by simp [InL, Acc.name, rowName] <;> omega), ?_⟩))
  have hm6 : m ≠ c4 := by omega
  refine out_ret rfl ⟨?_, i, v6, .slice (some (sn, 0)) rows4.length (.upTo 3), rows4.set i (st.bs.length, n, 1), ?_, ⟨?_, ?_, ?_, by have := r4.lp; omega, hnb6, r4.nr, ?_⟩, fun a ha => ?_, hil, hbefore, hrows4⟩
  · rw [MapI.get_ne _ _ _ _ (Ne.symm hmp), MapI.get_ne _ _ _ _ (Ne.symm hmp), hf6 m hm6 (fun hm => hmn (List.mem_cons_of_mem _ (List.mem_append_left _ hm)))]
    exact hx5.trans hx.symm
  · have hwi : IntKind.i64.wrap ((i : Int) + 1) = ((i + 1 : Nat) : Int) := by rw [Go.IntWalk.i64_in _ (by omega)]; omega
    show V.tuple [V.int _ _, _] = _
    rw [hwi]
  · refine (MapI.get_same (S := HH) (α := AObj) _ _ _).trans ?_
    show some (AObj.cells true true [v6, I st.most, .slice (some (sn, 0)) rows4.length (.upTo 3), I (IntKind.i64.wrap (st.live + n))]) = _
    rw [hw2]
  · refine hl6.keep (Nat.le_refl _) fun a _ ha => ?_
    rw [MapI.get_ne _ _ _ _ (Ne.symm (hnb6 a ha)), MapI.get_ne _ _ _ _ (Ne.symm (hnb6 a ha))]
  · refine .inr ⟨sn, cl, junk, by simp, by omega, ?_, hj4⟩
    rw [MapI.get_ne _ _ _ _ hps, MapI.get_ne _ _ _ _ hps, hf6 sn (by omega) (fun hm => r4.br sn hm (by simp [rowName])), MapI.get_same]
    exact congrArg (fun x => some (AObj.cells true cl x)) e5
  · intro a ha hm
    simp [rowName] at hm
    subst hm
    rcases hn6 a ha with h | ⟨h, _⟩
    · exact r4.br a h (by simp [rowName])
    · omega
  · rcases List.mem_append.1 ha with ha | ha
    · rcases hn6 a ha with h | ⟨h, _⟩
      · exact .inl (List.mem_append_left _ h)
      · exact .inr (by omega)
    · rcases hn4 a ha with h | h
      · exact .inl (List.mem_append_right _ h)
      · exact .inr h
theorem grant_ok {h : HH} {c p m o n : Nat} {vb vr : V} {st : St} {cap : Cap} {rw' cl' : Bool} {cs : List V} {ys : List Int} (r : StoreAt h c p vb vr st) (hn : 0 < n) (hn2 : n ≤ 1048576) (hy : ys.length = n) (hx : MapI.get h m = some (.cells rw' cl' cs)) (hcut : cut cs o (n * 1) = some (flat byteV ys)) (hm : 0 ≤ st.most ∧ st.most ≤ 1048576)
    (hlive : 0 ≤ st.live ∧ st.live ≤ 1048576) (hbs : (st.bs.length : Int) ≤ st.most - n) (hyes : st.live ≤ st.most - n) (hlen : st.rows.length ≤ 1000) (hmc : m < c) (hmn : m ∉ p :: (rowName vb ++ rowName vr)) :
    Does 62 [.ptr (some (p, 0)), .slice (some (m, o)) n cap] h c (m :: p :: (rowName vb ++ rowName vr)) fun v h' c' => ∃ (i : Nat) (vb' vr' : V) (rows' : List (Int × Int × Int)), v = .tuple [I ((i + 1 : Nat) : Int), .bool true] ∧
      StoreAt h' c' p vb' vr' ⟨st.bs ++ ys, st.most, rows', st.live + n⟩ ∧ (∀ a ∈ rowName vb' ++ rowName vr', a ∈ rowName vb ++ rowName vr ∨ c ≤ a) ∧ i ≤ st.rows.length ∧ (∀ j q, j < i → st.rows[j]? = some q → q.2.2 ≠ 0) ∧
      ((∃ q, st.rows[i]? = some q ∧ q.2.2 = 0 ∧ rows' = st.rows.set i (st.bs.length, n, 1)) ∨ (i = st.rows.length ∧ rows' = st.rows ++ [((st.bs.length : Int), (n : Int), (1 : Int))])) :=
  (grant_at r hn hn2 hy hx hcut hm hlive hbs hyes hlen hmc hmn).mono fun _ _ _ _ _ hq => hq.2
end Go.Proofs.Ytempfmkicpifkaa
