/- The store's functions: Handles, Grant without a slide. -/
/- The store's functions: Grant where nothing must slide; awake. -/
/- The store's awake. Counting. -/
/- The store's functions: Place, Look; bytes.Clone; same. -/
/- The store's functions: Look; lying and Look, and one row alone is held. -/
/- slices.SortFunc by its contract: a row of pointers at rows of three cells. -/
/- lying: all rows that are held, by where their bytes lie. -/
/- Sliding bytes together: plain facts. -/
/- Slide: all bytes that are held, together, in the order in which they lay. -/
/- Grant, and all slides if it must. -/
/- A store that is sound, and what its handles hold. -/
/- Check of a sound store; New of any size; what of any handle. -/
import Derived.Test.YtcenbfjhhaialaaHeA
import Derived.Test.YtcenbfjhhaialaaAd8
import Derived.Test.YtcenbfjhhaialaaAdO1


set_option linter.unusedVariables false
set_option linter.unusedSectionVars false
set_option linter.unusedSimpArgs false
set_option linter.unnecessarySimpa false
namespace Go.Proofs.Ytcenbfjhhaialaa
open Go.Ab
set_option maxRecDepth 10000

/-- The handles that are held, of rows from number k on. -/
def hnd : List (Int × Int × Int) → Nat → List Int
  | [], _ => []
  | q :: rows, k => if q.2.2 > 0 then ((k + 1 : Nat) : Int) :: hnd rows (k + 1) else hnd rows (k + 1)
theorem hnd_append : ∀ (a b : List (Int × Int × Int)) (k : Nat), hnd (a ++ b) k = hnd a k ++ hnd b (k + a.length)
  | [], b, k => by simp [hnd]
  | q :: a, b, k => by
    have := hnd_append a b (k + 1)
    simp only [List.cons_append, hnd, this, List.length_cons]
    rw [show k + 1 + a.length = k + (a.length + 1) from by omega]
    split <;> simp
theorem hnd_le : ∀ (a : List (Int × Int × Int)) (k : Nat), (hnd a k).length ≤ a.length
  | [], k => by simp [hnd]
  | q :: a, k => by
    have := hnd_le a (k + 1)
    unfold hnd
    split <;> simp <;> omega
theorem take_snoc {α : Type} {l : List α} {i : Nat} {x : α} (h : l[i]? = some x) : l.take (i + 1) = l.take i ++ [x] := by
  rw [List.take_add_one, h]; rfl

end Go.Proofs.Ytcenbfjhhaialaa


set_option linter.unusedVariables false
set_option linter.unusedSectionVars false
set_option linter.unusedSimpArgs false
set_option linter.unnecessarySimpa false
namespace Go.Proofs.Ytcenbfjhhaialaa
open Go.Ab
set_option maxRecDepth 10000

theorem StoreAt.names {h : HH} {c p : Nat} {vb vr : V} {st : St} (r : StoreAt h c p vb vr st) : ∀ n ∈ p :: (rowName vb ++ rowName vr), n < c := fun n hn => by
  rcases List.mem_cons.1 hn with e | e
  · rw [e]; exact r.lp
  · rcases List.mem_append.1 e with e | e
    · exact r.bytes.lt n e
    · exact r.rows.lt n e
/-- Nothing is granted, and refused: nothing is turned. -/
theorem grant_zero {h : HH} {c p : Nat} {a : Option (Nat × Nat)} {cap : Cap} : Does 7 [.ptr (some (p, 0)), .slice a 0 cap] h c [] fun v h' c' => v = .tuple [I 0, .bool true] ∧ h' = h ∧ c' = c := by
  refine does_of (enter (fn := Try.f7) Try.func7 rfl rfl (Nat.le_of_ble_eq_true rfl) ?_)
  repeat' (first | refine WpC.seq ?_ | refine WpC.region ?_ | refine WpC.block ?_ | refine WpO.nil ?_ | refine WpO.cons rfl rfl (WpX.pure (fun _ => rfl) ⟨nolog, ?_⟩) | refine seqQ_normal ?_)
  refine WpC.cond rfl (fun hb => by cases hb) (fun _ => ?_)
  repeat' (first | refine WpC.seq ?_ | refine WpC.region ?_ | refine WpO.nil ?_ | refine WpO.cons rfl rfl (WpX.pure (fun _ => rfl) ⟨nolog, ?_⟩) | refine seqQ_normal ?_)
  refine WpC.cond rfl (fun _ => ?_) (fun hb => by cases hb)
  repeat' (first | refine WpC.seq ?_ | refine WpC.region ?_ | refine WpC.ret ?_ | refine WpO.nil ?_ | refine WpO.cons rfl rfl (WpX.pure (fun _ => rfl) ⟨nolog, ?_⟩) | refine seqQ_ret ?_ | refine blkQ_ret ?_)
  exact out_ret rfl ⟨rfl, rfl, rfl⟩
theorem grant_no {h : HH} {c p n : Nat} {vb vr : V} {st : St} {a : Option (Nat × Nat)} {cap : Cap} (r : StoreAt h c p vb vr st) (hn : 0 < n) (hn2 : n ≤ 100000000) (hm : 0 ≤ st.most ∧ st.most ≤ 1048576) (hno : st.live > st.most - n) :
    Does 7 [.ptr (some (p, 0)), .slice a n cap] h c [p] fun v h' c' => v = .tuple [I 0, .bool false] ∧ h' = h ∧ c' = c := by
  have hobj := r.obj
  have hw : IntKind.i64.wrap (st.most - (n : Int)) = st.most - n := Go.IntWalk.i64_in _ (by omega)
  refine does_of (enter (fn := Try.f7) Try.func7 rfl rfl (Nat.le_of_ble_eq_true rfl) ?_)
  repeat' (first | refine WpC.seq ?_ | refine WpC.region ?_ | refine WpC.block ?_ | refine WpO.nil ?_ | refine WpO.cons rfl rfl (WpX.pure (fun _ => rfl) ⟨nolog, ?_⟩) | refine seqQ_normal ?_)
  refine WpC.cond rfl (fun hb => by cases hb) (fun _ => ?_)
  repeat' (first | refine WpC.seq ?_ | refine WpC.region ?_ | refine WpO.nil ?_ | refine WpO.cons rfl rfl (WpX.pure (fun _ => rfl) ⟨nolog, ?_⟩) | refine seqQ_normal ?_)
  refine WpC.cond rfl (fun hb => by simp at hb; omega) (fun _ => ?_)
  repeat' (first | refine WpC.seq ?_ | refine WpC.drawn ?_ | refine WpL.cons rfl rfl (WpX.pure (fun _ => rfl) ⟨nolog, ?_⟩) | refine WpL.cons rfl rfl (op_load rfl rfl rfl hobj rfl ⟨(by simp [InL, Acc.name, rowName] <;> omega), ?_⟩))
  refine WpL.nil (logsOk_of (cs := [0, 1, 3, 7, 0, 16, 48, 112, 0, 256, 1008, 2047, 4095]) (by decide +kernel) ?_) ?_
  · simp +contextual [allP, apP, Dis, acc_rd, acc_wr, accw_rd, accw_wr, Nat.testBit]
  refine WpC.cond rfl (fun _ => ?_) (fun hb => by rw [hw] at hb; simp at hb; omega)
  repeat' (first | refine WpC.seq ?_ | refine WpC.region ?_ | refine WpC.ret ?_ | refine WpO.nil ?_ | refine WpO.cons rfl rfl (WpX.pure (fun _ => rfl) ⟨nolog, ?_⟩) | refine seqQ_ret ?_ | refine blkQ_ret ?_)
  exact out_ret rfl ⟨rfl, rfl, rfl⟩
theorem grant_at {h : HH} {c p m o n : Nat} {vb vr : V} {st : St} {cap : Cap} {rw' cl' : Bool} {cs : List V} {ys : List Int} (r : StoreAt h c p vb vr st) (hn : 0 < n) (hn2 : n ≤ 1048576) (hy : ys.length = n) (hx : MapI.get h m = some (.cells rw' cl' cs)) (hcut : cut cs o (n * 1) = some (flat byteV ys)) (hm : 0 ≤ st.most ∧ st.most ≤ 1048576)
    (hlive : 0 ≤ st.live ∧ st.live ≤ 1048576) (hbs : (st.bs.length : Int) ≤ st.most - n) (hyes : st.live ≤ st.most - n) (hlen : st.rows.length ≤ 1000) (hmc : m < c) (hmn : m ∉ p :: (rowName vb ++ rowName vr)) :
    Does 7 [.ptr (some (p, 0)), .slice (some (m, o)) n cap] h c (m :: p :: (rowName vb ++ rowName vr)) fun v h' c' => MapI.get h' m = MapI.get h m ∧ ∃ (i : Nat) (vb' vr' : V) (rows' : List (Int × Int × Int)), v = .tuple [I ((i + 1 : Nat) : Int), .bool true] ∧
      StoreAt h' c' p vb' vr' ⟨st.bs ++ ys, st.most, rows', st.live + n⟩ ∧ (∀ a ∈ rowName vb' ++ rowName vr', a ∈ rowName vb ++ rowName vr ∨ c ≤ a) ∧ i ≤ st.rows.length ∧ (∀ j q, j < i → st.rows[j]? = some q → q.2.2 ≠ 0) ∧
      ((∃ q, st.rows[i]? = some q ∧ q.2.2 = 0 ∧ rows' = st.rows.set i (st.bs.length, n, 1)) ∨ (i = st.rows.length ∧ rows' = st.rows ++ [((st.bs.length : Int), (n : Int), (1 : Int))])) := by
  have hobj := r.obj
  have hlp := r.lp
  have hw : IntKind.i64.wrap (st.most - (n : Int)) = st.most - n := Go.IntWalk.i64_in _ (by omega)
  have hw2 : IntKind.i64.wrap (st.live + (n : Int)) = st.live + n := Go.IntWalk.i64_in _ (by omega)
  obtain ⟨sb, cb, rfl, _⟩ := r.bytes.shape
  refine does_of (enter (fn := Try.f7) Try.func7 rfl rfl (Nat.le_of_ble_eq_true rfl) ?_)
  repeat' (first | refine WpC.seq ?_ | refine WpC.region ?_ | refine WpC.block ?_ | refine WpO.nil ?_ | refine WpO.cons rfl rfl (WpX.pure (fun _ => rfl) ⟨nolog, ?_⟩) | refine seqQ_normal ?_)
  refine WpC.cond rfl (fun hb => by cases hb) (fun _ => ?_)
  repeat' (first | refine WpC.seq ?_ | refine WpC.region ?_ | refine WpO.nil ?_ | refine WpO.cons rfl rfl (WpX.pure (fun _ => rfl) ⟨nolog, ?_⟩) | refine seqQ_normal ?_)
  refine WpC.cond rfl (fun hb => by simp at hb; omega) (fun _ => ?_)
  repeat' (first | refine WpC.seq ?_ | refine WpC.drawn ?_ | refine WpL.cons rfl rfl (WpX.pure (fun _ => rfl) ⟨nolog, ?_⟩) | refine WpL.cons rfl rfl (op_load rfl rfl rfl hobj rfl ⟨(by simp [InL, Acc.name, rowName] <;> omega), ?_⟩))
  refine WpL.nil (logsOk_of (cs := [0, 1, 3, 7, 0, 16, 48, 112, 0, 256, 1008, 2047, 4095]) (by decide +kernel) ?_) ?_
  · simp +contextual [allP, apP, Dis, acc_rd, acc_wr, accw_rd, accw_wr, Nat.testBit]
  refine WpC.cond rfl (fun hb => by rw [hw] at hb; simp at hb; omega) (fun _ => ?_)
  repeat' (first | refine WpC.seq ?_ | refine WpC.drawn ?_ | refine WpC.skip ?_ | refine WpL.cons rfl rfl (WpX.pure (fun _ => rfl) ⟨nolog, ?_⟩) | refine WpL.cons rfl rfl (op_load rfl rfl rfl hobj rfl ⟨(by simp [InL, Acc.name, rowName] <;> omega), ?_⟩))
  refine WpL.nil (logsOk_of (cs := [0, 1, 3, 7, 15, 0, 32, 96, 224, 0, 512, 2016, 4095]) (by decide +kernel) ?_) ?_
  · simp +contextual [allP, apP, Dis, acc_rd, acc_wr, accw_rd, accw_wr, Nat.testBit]
  refine WpC.cond rfl (fun hb => by rw [hw] at hb; simp at hb; omega) (fun _ => ?_)
  repeat' (first | refine WpC.seq ?_ | refine WpC.region ?_ | refine WpC.skip ?_ | refine WpO.cons rfl rfl (WpX.pure (fun _ => rfl) ⟨nolog, ?_⟩))
  refine WpO.cons rfl rfl (call_at rfl (free_ok r hlen) (fun x hx => .inl (by simp at hx ⊢; rcases hx with h | h <;> simp [h])) (Nat.le_refl _) fun v h4 c4 hc4 hfr4 hq => ?_)
  obtain ⟨i, rfl, hq⟩ := hq
  have key : ∃ vr4 rows4, StoreAt h4 c4 p (.slice sb st.bs.length cb) vr4 { st with rows := rows4 } ∧ (∀ a ∈ rowName vr4, a ∈ rowName vr ∨ c ≤ a) ∧ i < rows4.length ∧ i ≤ st.rows.length ∧ (∀ j q, j < i → st.rows[j]? = some q → q.2.2 ≠ 0) ∧
      ((∃ q, st.rows[i]? = some q ∧ q.2.2 = 0 ∧ rows4.set i ((st.bs.length : Int), (n : Int), (1 : Int)) = st.rows.set i (st.bs.length, n, 1)) ∨ (i = st.rows.length ∧ rows4.set i ((st.bs.length : Int), (n : Int), (1 : Int)) = st.rows ++ [((st.bs.length : Int), (n : Int), (1 : Int))])) := by
    rcases hq with ⟨q, h1, h2, h3, h4⟩ | ⟨rfl, h3, vr4, h4, h5⟩
    · have := (List.getElem?_eq_some_iff.1 h1).1
      exact ⟨vr, st.rows, h4, fun a ha => .inl ha, this, by omega, h3, .inl ⟨q, h1, h2, rfl⟩⟩
    · exact ⟨vr4, _, h4, h5, by simp, Nat.le_refl _, fun j q hj => h3 j q hj, .inr ⟨rfl, by simp⟩⟩
  obtain ⟨vr4, rows4, r4, hn4, hi4, hil, hbefore, hrows4⟩ := key
  have hobj4 := r4.obj
  obtain ⟨s4, cap4, rfl, hs4⟩ := r4.rows.shape
  obtain ⟨rfl, sn, cl, junk, rfl, hsn, hg4, hj4⟩ := hs4 i hi4
  simp only at hobj4 hg4 hi4
  have hps : p ≠ sn := fun e => r4.nr sn (by simp [rowName]) e.symm
  have hmsn : m ≠ sn := fun e => by
    rcases hn4 sn (by simp [rowName]) with h | h
    · exact hmn (by rw [e]; simp [h])
    · omega
  have hmp : m ≠ p := fun e => hmn (by simp [e])
  have hx4 : MapI.get h4 m = some (.cells rw' cl' cs) := by
    rw [hfr4 m hmc (fun hm => hmn (by simp at hm ⊢; rcases hm with h | h <;> simp [h]))]; exact hx
  have hfl : 0 + ((i : Nat) : Int).toNat * 3 + 3 ≤ (flat tri rows4 ++ junk).length := by
    rw [List.length_append, flat_length tri_len]; simp; omega
  have hLsn : InL (m :: p :: (rowName (.slice sb st.bs.length cb) ++ rowName vr)) c (.wr sn) := by
    rcases hn4 sn (by simp [rowName]) with h | h
    · exact .inl (by simp [acc_wr, h])
    · exact .inr h
  have hLsr : InL (m :: p :: (rowName (.slice sb st.bs.length cb) ++ rowName vr)) c (.rd sn) := by
    rcases hn4 sn (by simp [rowName]) with h | h
    · exact .inl (by simp [acc_rd, h])
    · exact .inr h
  have hLl : ∀ x ∈ [Acc.rd sn, Acc.wr sn], InL (m :: p :: (rowName (.slice sb st.bs.length cb) ++ rowName vr)) c x := fun x hx => by
    simp at hx; rcases hx with rfl | rfl <;> assumption
  have hr5 := r4.setRow (cl := cl) (junk := junk) (rows' := rows4.set i (st.bs.length, n, 1)) hsn hj4 (by simp)
  have e5 : setAll (flat tri rows4 ++ junk) (0 + ((i : Nat) : Int).toNat * 3) [I st.bs.length, I n, I 1] = flat tri (rows4.set i (st.bs.length, n, 1)) ++ junk := by
    rw [show 0 + ((i : Nat) : Int).toNat * 3 = i * 3 from by simp]; exact set_tri hi4
  rw [← e5] at hr5
  have hobj5 := hr5.obj
  simp only at hobj5
  have hx5 : MapI.get (MapI.set h4 sn (.cells true cl (setAll (flat tri rows4 ++ junk) (0 + ((i : Nat) : Int).toNat * 3) [I st.bs.length, I n, I 1]))) m = some (.cells rw' cl' cs) := by
    rw [MapI.get_ne _ _ _ _ (Ne.symm hmsn)]; exact hx4
  repeat' (first | refine WpC.seq ?_ | refine WpC.drawn ?_ | refine WpO.nil ?_ | refine WpO.cons rfl rfl (WpX.pure (fun _ => rfl) ⟨nolog, ?_⟩) | refine WpL.cons rfl rfl (WpX.pure (fun _ => rfl) ⟨nolog, ?_⟩) | refine WpL.cons rfl rfl (op_load rfl rfl rfl hobj4 rfl ⟨(by simp [InL, Acc.name, rowName] <;> omega), ?_⟩) | refine WpL.cons rfl rfl (op_indexAddr (k := 3) rfl rfl rfl rfl ⟨by omega, by omega⟩ ⟨(by simp [InL, Acc.name, rowName] <;> omega), ?_⟩) | refine WpL.cons rfl rfl (op_store (k := 3) rfl rfl rfl rfl hg4 hfl rfl ⟨hLl, ?_⟩))
  refine WpL.nil (logsOk_of (cs := [0, 1, 3, 7, 0, 0, 32, 96, 224, 480, 0, 1024, 4064, 8191, 16383]) (by decide +kernel) ?_) ?_
  · simp +contextual [allP, apP, Dis, acc_rd, acc_wr, accw_rd, accw_wr, Nat.testBit, hps]
  repeat' (first | refine WpC.seq ?_ | refine WpC.region ?_ | refine WpO.cons rfl rfl (WpX.pure (fun _ => rfl) ⟨nolog, ?_⟩) | refine WpO.cons rfl rfl (op_load rfl rfl rfl hobj5 rfl ⟨(by simp [InL, Acc.name, rowName] <;> omega), ?_⟩))
  refine WpO.cons rfl rfl (append_at (ys := ys) rfl rfl elB rfl byte_len byte_all hr5.bytes hx5 hcut hy (by simp only; omega) (.inl (by simp [acc_rd])) (fun a ha => ⟨.inl (by simp [acc_rd, ha]), .inl (by simp [acc_wr, ha])⟩) (.inr (by simp [acc_wr]; omega)) fun v6 h6 c6 hl6 hn6 hc6 hf6 => ?_)
  have hone := hl6.one
  have hbp : ∀ a ∈ rowName (.slice sb st.bs.length cb), a < c4 := r4.bytes.lt
  have hobj6 : MapI.get h6 p = some (.cells true true [.slice sb st.bs.length cb, I st.most, .slice (some (sn, 0)) rows4.length (.upTo 3), I st.live]) := by
    rw [hf6 p (by have := r4.lp; omega) (fun hm => r4.nb p hm rfl)]; exact hobj5
  have hnb6 : ∀ a ∈ rowName v6, a ≠ p := fun a ha e => by
    rcases hn6 a ha with h | ⟨h, _⟩
    · exact r4.nb a h e
    · have := r4.lp; omega
  have hobj7 : MapI.get (MapI.set h6 p (.cells true true (setAll [.slice sb st.bs.length cb, I st.most, .slice (some (sn, 0)) rows4.length (.upTo 3), I st.live] 0 (cellsV v6)))) p = some (.cells true true [v6, I st.most, .slice (some (sn, 0)) rows4.length (.upTo 3), I st.live]) := by
    rw [MapI.get_same, hone.1]; rfl
  repeat' (first | refine WpC.seq ?_ | refine WpC.region ?_ | refine WpC.ret ?_ | refine WpO.nil ?_ | refine WpO.cons rfl rfl (WpX.pure (fun _ => rfl) ⟨nolog, ?_⟩) | refine WpO.cons rfl rfl (op_store (k := 1) rfl rfl rfl (by rw [hone.1]; rfl) hobj6 (Nat.le_of_ble_eq_true rfl) (by rw [hone.1]; simp [hone.2]) ⟨(by simp [InL, Acc.name, rowName] <;> omega), ?_⟩) | refine WpO.cons rfl rfl (op_load rfl rfl rfl hobj7 rfl ⟨(by simp [InL, Acc.name, rowName] <;> omega), ?_⟩) | refine WpO.cons rfl rfl (op_store (k := 1) rfl rfl rfl rfl hobj7 (Nat.le_of_ble_eq_true rfl) rfl ⟨(by simp [InL, Acc.name, rowName] <;> omega), ?_⟩))
  have hm6 : m ≠ c4 := by omega
  refine out_ret rfl ⟨?_, i, v6, .slice (some (sn, 0)) rows4.length (.upTo 3), rows4.set i (st.bs.length, n, 1), ?_, ⟨?_, ?_, ?_, by have := r4.lp; omega, hnb6, r4.nr, ?_⟩, fun a ha => ?_, hil, hbefore, hrows4⟩
  · rw [MapI.get_ne _ _ _ _ (Ne.symm hmp), MapI.get_ne _ _ _ _ (Ne.symm hmp), hf6 m hm6 (fun hm => hmn (List.mem_cons_of_mem _ (List.mem_append_left _ hm)))]
    exact hx5.trans hx.symm
  · have hwi : IntKind.i64.wrap ((i : Int) + 1) = ((i + 1 : Nat) : Int) := by rw [Go.IntWalk.i64_in _ (by omega)]; omega
    show V.tuple [V.int _ _, _] = _
    rw [hwi]
  · refine (MapI.get_same (S := HH) (α := AObj) _ _ _).trans ?_
    show some (AObj.cells true true [v6, I st.most, .slice (some (sn, 0)) rows4.length (.upTo 3), I (IntKind.i64.wrap (st.live + n))]) = _
    rw [hw2]
  · refine hl6.keep (Nat.le_refl _) fun a _ ha => ?_
    rw [MapI.get_ne _ _ _ _ (Ne.symm (hnb6 a ha)), MapI.get_ne _ _ _ _ (Ne.symm (hnb6 a ha))]
  · refine .inr ⟨sn, cl, junk, by simp, by omega, ?_, hj4⟩
    rw [MapI.get_ne _ _ _ _ hps, MapI.get_ne _ _ _ _ hps, hf6 sn (by omega) (fun hm => r4.br sn hm (by simp [rowName])), MapI.get_same]
    exact congrArg (fun x => some (AObj.cells true cl x)) e5
  · intro a ha hm
    simp [rowName] at hm
    subst hm
    rcases hn6 a ha with h | ⟨h, _⟩
    · exact r4.br a h (by simp [rowName])
    · omega
  · rcases List.mem_append.1 ha with ha | ha
    · rcases hn6 a ha with h | ⟨h, _⟩
      · exact .inl (List.mem_append_left _ h)
      · exact .inr (by omega)
    · rcases hn4 a ha with h | h
      · exact .inl (List.mem_append_right _ h)
      · exact .inr h
theorem grant_ok {h : HH} {c p m o n : Nat} {vb vr : V} {st : St} {cap : Cap} {rw' cl' : Bool} {cs : List V} {ys : List Int} (r : StoreAt h c p vb vr st) (hn : 0 < n) (hn2 : n ≤ 1048576) (hy : ys.length = n) (hx : MapI.get h m = some (.cells rw' cl' cs)) (hcut : cut cs o (n * 1) = some (flat byteV ys)) (hm : 0 ≤ st.most ∧ st.most ≤ 1048576)
    (hlive : 0 ≤ st.live ∧ st.live ≤ 1048576) (hbs : (st.bs.length : Int) ≤ st.most - n) (hyes : st.live ≤ st.most - n) (hlen : st.rows.length ≤ 1000) (hmc : m < c) (hmn : m ∉ p :: (rowName vb ++ rowName vr)) :
    Does 7 [.ptr (some (p, 0)), .slice (some (m, o)) n cap] h c (m :: p :: (rowName vb ++ rowName vr)) fun v h' c' => ∃ (i : Nat) (vb' vr' : V) (rows' : List (Int × Int × Int)), v = .tuple [I ((i + 1 : Nat) : Int), .bool true] ∧
      StoreAt h' c' p vb' vr' ⟨st.bs ++ ys, st.most, rows', st.live + n⟩ ∧ (∀ a ∈ rowName vb' ++ rowName vr', a ∈ rowName vb ++ rowName vr ∨ c ≤ a) ∧ i ≤ st.rows.length ∧ (∀ j q, j < i → st.rows[j]? = some q → q.2.2 ≠ 0) ∧
      ((∃ q, st.rows[i]? = some q ∧ q.2.2 = 0 ∧ rows' = st.rows.set i (st.bs.length, n, 1)) ∨ (i = st.rows.length ∧ rows' = st.rows ++ [((st.bs.length : Int), (n : Int), (1 : Int))])) :=
  (grant_at r hn hn2 hy hx hcut hm hlive hbs hyes hlen hmc hmn).mono fun _ _ _ _ _ hq => hq.2
end Go.Proofs.Ytcenbfjhhaialaa


set_option linter.unusedVariables false
set_option linter.unusedSectionVars false
set_option linter.unusedSimpArgs false
set_option linter.unnecessarySimpa false
namespace Go.Proofs.Ytcenbfjhhaialaa
open Go.Ab
set_option maxRecDepth 10000

/-- How many are positive. -/
def pos : List Int → Nat
  | [] => 0
  | x :: l => (if x > 0 then 1 else 0) + pos l
theorem pos_le : ∀ l, pos l ≤ l.length
  | [] => Nat.le_refl _
  | x :: l => by have := pos_le l; simp only [pos, List.length_cons]; split <;> omega
theorem pos_app : ∀ a b, pos (a ++ b) = pos a + pos b
  | [], b => by simp [pos]
  | x :: a, b => by have := pos_app a b; simp only [List.cons_append, pos, this]; omega
theorem pos_set : ∀ {l : List Int} {k : Nat} {x y : Int}, l[k]? = some x → pos (l.set k y) + (if x > 0 then 1 else 0) = pos l + (if y > 0 then 1 else 0)
  | [], _, _, _, h => by simp at h
  | a :: l, 0, x, y, h => by simp at h; subst h; simp only [List.set_cons_zero, pos]; omega
  | a :: l, k + 1, x, y, h => by
    have := pos_set (l := l) (k := k) (x := x) (y := y) (by simpa using h)
    simp only [List.set_cons_succ, pos]
    omega
theorem hnd_pos : ∀ (rows : List (Int × Int × Int)) (k : Nat), (hnd rows k).length = pos (rows.map fun q => q.2.2)
  | [], _ => rfl
  | q :: rows, k => by
    have := hnd_pos rows (k + 1)
    simp only [hnd, List.map_cons, pos]
    split <;> simp [this] <;> omega
theorem map_set {rows : List (Int × Int × Int)} {k : Nat} {q : Int × Int × Int} : (rows.set k q).map (fun q => q.2.2) = (rows.map fun q => q.2.2).set k q.2.2 := by simp [List.map_set]
end Go.Proofs.Ytcenbfjhhaialaa


set_option linter.unusedVariables false
set_option linter.unusedSectionVars false
set_option linter.unusedSimpArgs false
set_option linter.unnecessarySimpa false
namespace Go.Proofs.Ytcenbfjhhaialaa
open Go.Ab
set_option maxRecDepth 10000

theorem flat_byte (xs : List Int) : flat byteV xs = xs.map (V.int .u8) := by
  induction xs with
  | nil => rfl
  | cons x xs ih => rw [flat_cons, ih]; rfl
theorem cut_bytes {bs : List Int} {junk : List V} {L n : Nat} (h : L + n ≤ bs.length) : cut (flat byteV bs ++ junk) L n = some (flat byteV ((bs.drop L).take n)) := by
  unfold cut
  rw [flat_byte, flat_byte, if_pos (by simp; omega), List.drop_append_of_le_length (by simp; omega), List.take_append_of_le_length (by simp; omega), List.map_take, List.map_drop]
def strOf (xs : List Int) : List UInt8 := xs.map fun z => UInt8.ofNat z.toNat
theorem bytesOf_flat : ∀ {xs : List Int}, (∀ z ∈ xs, 0 ≤ z ∧ z < 256) → bytesOfV (flat byteV xs) = some (strOf xs)
  | [], _ => rfl
  | x :: xs, h => by
    have := bytesOf_flat (xs := xs) fun z hz => h z (List.mem_cons_of_mem _ hz)
    rw [flat_cons]
    have hx := h x (List.mem_cons_self ..)
    show bytesOfV (V.int .u8 x :: flat byteV xs) = _
    unfold bytesOfV
    rw [if_pos hx, this]; rfl
/-- Bytes that a slice shows. -/
def ByteSl (h : HH) (v : V) (xs : List Int) : Prop :=
  (∃ a cap, v = .slice a 0 cap ∧ xs = []) ∨ ∃ m o n cap rw cl cs, v = .slice (some (m, o)) n cap ∧ n = xs.length ∧ 0 < n ∧ MapI.get h m = some (.cells rw cl cs) ∧ cut cs o n = some (flat byteV xs)
theorem ByteSl.keep {h h' : HH} {v : V} {xs : List Int} (r : ByteSl h v xs) (e : ∀ n ∈ rowName v, MapI.get h' n = MapI.get h n) : ByteSl h' v xs := by
  rcases r with h1 | ⟨m, o, n, cap, rw', cl, cs, rfl, h1, h2, h3, h4⟩
  · exact .inl h1
  · exact .inr ⟨m, o, n, cap, rw', cl, cs, rfl, h1, h2, by rw [e m (by simp [rowName])]; exact h3, h4⟩

end Go.Proofs.Ytcenbfjhhaialaa


set_option linter.unusedVariables false
set_option linter.unusedSectionVars false
set_option linter.unusedSimpArgs false
set_option linter.unnecessarySimpa false
namespace Go.Proofs.Ytcenbfjhhaialaa
open Go.Ab
set_option maxRecDepth 10000

end Go.Proofs.Ytcenbfjhhaialaa


set_option linter.unusedVariables false
set_option linter.unusedSectionVars false
set_option linter.unusedSimpArgs false
set_option linter.unnecessarySimpa false
namespace Go.Proofs.Ytcenbfjhhaialaa
open Go.Ab
set_option maxRecDepth 10000

theorem setAll_z (dst new : List V) (h : new.length ≤ dst.length) : setAll dst 0 new = new ++ dst.drop new.length := setAll_app [] dst new h
theorem cl_cmp {f : Nat} {gs : List Nat} (h1 : findF f sortFns = none) (h2 : findF f cmpFns = some gs) {xs : List V} {n : Nat} : cl f xs (n + 1) = cmpPrim gs (evFn EE cx pr n) xs := by
  show evFn EE cx pr (n + 1) (.fn f) xs = _
  unfold evFn
  have : (pr f : Option ((Tgt → List V → M HH V) → List V → M HH V)) = some (cmpPrim gs) := by
    show seatPrims shutFns sortFns cmpFns f = _
    unfold seatPrims
    rw [h1, h2]
  simp only [this]
/-- Pointers to rows. -/
def ptrV (sn : Nat) (i : Nat) : List V := [.ptr (some (sn, i * 3))]
theorem ptr_len (sn i : Nat) : (ptrV sn i).length = 1 := rfl
theorem ptr_all (sn i : Nat) : (ptrV sn i).all one1 = true := rfl
theorem elP : ElT cx 69 60 0 := ⟨rfl, rfl, rfl, ⟨_, rfl, by decide⟩⟩
def atP (sn : Nat) (x : Nat × Int) : (Nat × Nat) × Int := ((sn, x.1 * 3), x.2)
theorem flat_ptr {sn : Nat} : ∀ (l : List (Nat × Int)), flat (ptrV sn) (l.map fun x => x.1) = (l.map (atP sn)).map ptrOf
  | [] => rfl
  | x :: l => by
    simp only [List.map_cons, flat_cons, flat_ptr l]
    rfl
theorem sort_at (sn : Nat) (l : List (Nat × Int)) : sortP (l.map (atP sn)) = (sortP l).map (atP sn) := sortP_map (fun i => (sn, i * 3))
theorem sort_len {α : Type} : ∀ (l : List (α × Int)), (sortP l).length = l.length
  | [] => rfl
  | x :: l => by
    have ins : ∀ (l : List (α × Int)), (insP x l).length = l.length + 1 := fun l => by
      induction l with
      | nil => rfl
      | cons y l ih =>
        unfold insP
        cases decide (x.2 ≤ y.2) with
        | true => rfl
        | false => simp only [cond_false, List.length_cons, ih]
    show (insP x (sortP l)).length = _
    rw [ins, sort_len l]; rfl
theorem sort_ok {h : HH} {c sn : Nat} {v : V} {l : List (Nat × Int)} {ns : List Nat} (hl : ListOf 1 (ptrV sn) h c v (l.map fun x => x.1)) (hk : ∀ x ∈ l, ∃ cl cs, MapI.get h sn = some (.cells true cl cs) ∧ cs[x.1 * 3]? = some (I x.2)) (hv : sn ∉ rowName v)
    (hd : noDupZ (l.map fun x => x.2) = true) (hn : l.length ≤ 1000000) (hns : l ≠ [] → sn ∈ ns) (hvs : ∀ a ∈ rowName v, a ∈ ns) :
    Does 46 [v, .func (.func 47) [] []] h c ns fun v' h' c' => c' = c ∧ ListOf 1 (ptrV sn) h' c' v ((sortP l).map fun x => x.1) ∧ ∀ n, n ∉ rowName v → MapI.get h' n = MapI.get h n := by
  refine does_of ?_
  cases l with
  | nil =>
    obtain ⟨s, cap, rfl, _⟩ := hl.shape
    refine ⟨.tuple [], h, c, [], ⟨fun x hx => (by cases hx), rfl, hl, fun _ _ => rfl⟩, 1, fun n hn => ?_⟩
    obtain ⟨n, rfl⟩ : ∃ m, n = m + 1 := ⟨n - 1, by omega⟩
    rw [cl_cmp rfl rfl]
    rfl
  | cons x l =>
    rcases hl with ⟨_, h0⟩ | ⟨s, cl', junk, rfl, h2, h3, h4⟩
    · cases h0
    · rw [flat_ptr] at h3
      have hpl : ((x :: l).map (atP sn)).length = ((x :: l).map fun x => x.1).length := by simp
      obtain ⟨al, hrun, hal⟩ := cmpPrim_run (gs := [47]) (call := fun _ _ => (fail "" : M HH V)) (g := 47) (cap := .upTo 1) (c := c) (ps := (x :: l).map (atP sn)) rfl (by simp) h3 (fun p hp => by
        obtain ⟨y, hy, rfl⟩ := List.mem_map.1 hp
        obtain ⟨cl, cs, e1, e2⟩ := hk y hy
        exact ⟨fun e => hv (by simp [rowName]; exact e), cl, cs, e1, e2⟩) (by rw [List.map_map]; exact hd) (by rw [List.length_map]; exact hn)
      rw [hpl] at hrun
      have hsl : ((sortP ((x :: l).map (atP sn))).map ptrOf).length = (((x :: l).map (atP sn)).map ptrOf).length := by rw [List.length_map, List.length_map, sort_len]
      refine ⟨.tuple [], MapI.set h s (.cells true cl' (setAll (((x :: l).map (atP sn)).map ptrOf ++ junk) 0 ((sortP ((x :: l).map (atP sn))).map ptrOf))), c, al, ⟨fun a ha => .inl ?_, rfl, .inr ⟨s, cl', junk, ?_, h2, ?_, h4⟩, fun n hn => ?_⟩, 1, fun n hn => ?_⟩
      · rcases hal a ha with e | ⟨p, hp, e⟩
        · rw [e]; exact hvs s (by simp [rowName])
        · obtain ⟨y, hy, rfl⟩ := List.mem_map.1 hp
          rw [e]; exact hns (by simp)
      · simp only [List.length_map, sort_len]
      · rw [MapI.get_same, flat_ptr, ← sort_at, setAll_z _ _ (by rw [List.length_append]; omega), hsl, List.drop_left]
      · exact MapI.get_ne _ _ _ _ fun e => hn (by simp [rowName, e])
      · obtain ⟨n, rfl⟩ : ∃ m, n = m + 1 := ⟨n - 1, by omega⟩
        rw [cl_cmp rfl rfl]
        exact hrun
end Go.Proofs.Ytcenbfjhhaialaa


set_option linter.unusedVariables false
set_option linter.unusedSectionVars false
set_option linter.unusedSimpArgs false
set_option linter.unnecessarySimpa false
namespace Go.Proofs.Ytcenbfjhhaialaa
open Go.Ab
set_option maxRecDepth 10000

/-- The rows that are held, from number k on: their numbers, where their bytes lie. -/
def lvs : List (Int × Int × Int) → Nat → List (Nat × Int)
  | [], _ => []
  | q :: rows, k => if q.2.2 > 0 then (k, q.1) :: lvs rows (k + 1) else lvs rows (k + 1)
theorem lvs_append : ∀ (a b : List (Int × Int × Int)) (k : Nat), lvs (a ++ b) k = lvs a k ++ lvs b (k + a.length)
  | [], b, k => by simp [lvs]
  | q :: a, b, k => by
    have := lvs_append a b (k + 1)
    simp only [List.cons_append, lvs, this, List.length_cons]
    rw [show k + 1 + a.length = k + (a.length + 1) from by omega]
    split <;> simp
theorem lvs_le : ∀ (a : List (Int × Int × Int)) (k : Nat), (lvs a k).length ≤ a.length
  | [], k => by simp [lvs]
  | q :: a, k => by
    have := lvs_le a (k + 1)
    unfold lvs
    split <;> simp <;> omega
theorem lvs_mem : ∀ {a : List (Int × Int × Int)} {k : Nat} {x : Nat × Int}, x ∈ lvs a k → ∃ j q, x.1 = k + j ∧ a[j]? = some q ∧ q.2.2 > 0 ∧ x.2 = q.1
  | [], k, x, h => by simp [lvs] at h
  | q :: a, k, x, h => by
    have rest : x ∈ lvs a (k + 1) → ∃ j p, x.1 = k + j ∧ (q :: a)[j]? = some p ∧ p.2.2 > 0 ∧ x.2 = p.1 := fun h => by
      obtain ⟨j, p, h1, h2, h3, h4⟩ := lvs_mem h
      exact ⟨j + 1, p, by omega, by simpa using h2, h3, h4⟩
    unfold lvs at h
    split at h
    · next hq =>
      rcases List.mem_cons.1 h with rfl | h
      · exact ⟨0, q, by simp, by simp, hq, rfl⟩
      · exact rest h
    · exact rest h
/-- The rows that are held, as their bytes lie. -/
def order (rows : List (Int × Int × Int)) : List Nat := (sortP (lvs rows 0)).map fun x => x.1
def parted (rows : List (Int × Int × Int)) : Prop := noDupZ ((lvs rows 0).map fun x => x.2) = true

theorem lying_ok {h : HH} {c p sn : Nat} {vb vr : V} {st : St} (r : StoreAt h c p vb vr st) (hlen : st.rows.length ≤ 1000) (hp : parted st.rows) (hsn : ∀ n ∈ rowName vr, n = sn) :
    Does 36 [.ptr (some (p, 0))] h c (p :: rowName vr) fun v h' c' => ListOf 1 (ptrV sn) h' c' v (order st.rows) ∧ (∀ n ∈ rowName v, c ≤ n) ∧ ∀ n, n < c → MapI.get h' n = MapI.get h n := by
  have hobj := r.obj
  have hlp := r.lp
  obtain ⟨s, cap, rfl, hs⟩ := r.rows.shape
  refine does_of (enter (fn := Try.f36) Try.func36 rfl rfl (Nat.le_of_ble_eq_true rfl) ?_)
  repeat' (first | refine WpC.seq ?_ | refine WpC.region ?_ | refine WpC.block ?_ | refine WpO.nil ?_ | refine WpO.cons rfl rfl (WpX.pure (fun _ => rfl) ⟨nolog, ?_⟩) | refine WpO.cons rfl rfl (op_load rfl rfl rfl hobj rfl ⟨(by simp [InL, Acc.name, rowName] <;> omega), ?_⟩))
  refine WpC.loop ?_
  refine WpLoop.ind (X := Nat × V) (fun x e h' c' => (∃ b0, e = MapI.set (MapI.set (MapI.set (MapI.set b0 0 (.ptr (some (p, 0)))) 3 x.2) 9 (I st.rows.length)) 10 (I x.1)) ∧ x.1 ≤ st.rows.length ∧ ListOf (0 + 1) (ptrV sn) h' c' x.2 ((lvs (st.rows.take x.1) 0).map fun x => x.1) ∧ (∀ n ∈ rowName x.2, c ≤ n) ∧ c ≤ c' ∧ ∀ n, n < c → MapI.get h' n = MapI.get h n)
    (fun x => st.rows.length - x.1) ?_ (0, .slice none 0 (.known 0)) _ _ _ ⟨set4 rfl rfl rfl rfl, Nat.zero_le _, .nil, fun n hn => (by cases hn), Nat.le_refl _, fun n _ => rfl⟩
  rintro ⟨i, v⟩ e h' c' ⟨⟨b0, rfl⟩, hi, hl, hv, hc, hfr⟩
  simp only at hi hl hv
  repeat' (first | refine WpC.seq ?_ | refine WpC.region ?_ | refine WpO.nil ?_ | refine WpO.cons rfl rfl (WpX.pure (fun _ => rfl) ⟨nolog, ?_⟩))
  refine WpC.cond rfl (fun hlt => ?_) (fun hge => ?_)
  case refine_2 =>
    have hge : st.rows.length ≤ i := by simpa using hge
    rw [List.take_of_length_le hge] at hl
    have hle := lvs_le st.rows 0
    have hkeys : ∀ x ∈ lvs st.rows 0, sn < c ∧ sn ∈ rowName (.slice s st.rows.length cap) ∧ ∃ cl cs, MapI.get h' sn = some (.cells true cl cs) ∧ cs[x.1 * 3]? = some (I x.2) := fun x hx => by
      obtain ⟨j, ⟨q0, q1, q2⟩, h1, h2, h3, h4⟩ := lvs_mem hx
      have hj := (List.getElem?_eq_some_iff.1 h2).1
      obtain ⟨_, sn', cl, junk, rfl, hsn', hg, _⟩ := hs j hj
      have e : sn' = sn := hsn sn' (by simp [rowName])
      subst e
      refine ⟨hsn', by simp [rowName], cl, _, by rw [hfr sn' hsn']; exact hg, ?_⟩
      have := nth_flat (k := 3) (j := 0) tri_len h2 (by omega) junk
      rw [nth_eq] at this
      rw [h1, h4, Nat.zero_add]
      exact this
    have hsv : ∀ x ∈ lvs st.rows 0, sn ∉ rowName v := fun x hx hm => by have := hv sn hm; have := (hkeys x hx).1; omega
    by_cases h0 : lvs st.rows 0 = []
    · have hl0 := hl
      rw [h0] at hl0
      have hemp : order st.rows = [] := by unfold order; rw [h0]; rfl
      repeat' (first | refine WpC.seq ?_ | refine WpC.region ?_ | refine WpC.exit ?_ | refine WpO.cons rfl rfl (WpX.pure (fun _ => rfl) ⟨nolog, ?_⟩))
      refine WpO.cons rfl rfl (call_at rfl (sort_ok (sn := c') (ns := rowName v) (l := []) (by
        rcases hl0 with h | ⟨s', cl', junk, h1, h2, h3, h4⟩
        · exact .inl h
        · exact .inr ⟨s', cl', junk, h1, h2, h3, h4⟩) (fun x hx => by cases hx) (fun hm => by have := hl.lt _ hm; omega) rfl (Nat.zero_le _) (fun e => absurd rfl e) (fun a ha => ha)) (fun a ha => .inr (hv a ha)) hc fun v5 h5 c5 hc5 hfr5 hq => ?_)
      obtain ⟨rfl, hl5, hk5⟩ := hq
      repeat' (first | refine WpC.seq ?_ | refine WpC.region ?_ | refine WpC.ret ?_ | refine WpO.nil ?_ | refine WpO.cons rfl rfl (WpX.pure (fun _ => rfl) ⟨nolog, ?_⟩))
      refine out_ret rfl ⟨?_, hv, fun n hn => by rw [hk5 n fun hm => by have := hv n hm; omega]; exact hfr n hn⟩
      rw [hemp]
      rcases hl5 with h | ⟨s', cl', junk, h1, h2, h3, h4⟩
      · exact .inl h
      · exact .inr ⟨s', cl', junk, h1, h2, h3, h4⟩
    · obtain ⟨x0, hx0⟩ := List.exists_mem_of_ne_nil _ h0
      repeat' (first | refine WpC.seq ?_ | refine WpC.region ?_ | refine WpC.exit ?_ | refine WpO.cons rfl rfl (WpX.pure (fun _ => rfl) ⟨nolog, ?_⟩))
      refine WpO.cons rfl rfl (call_at rfl (sort_ok (ns := sn :: rowName v) hl (fun x hx => (hkeys x hx).2.2) (hsv x0 hx0) hp (by omega) (fun _ => by simp) (fun a ha => by simp [ha])) (fun a ha => by
        rcases List.mem_cons.1 ha with rfl | ha
        · exact .inl (List.mem_cons_of_mem _ (hkeys x0 hx0).2.1)
        · exact .inr (hv a ha)) hc fun v5 h5 c5 hc5 hfr5 hq => ?_)
      obtain ⟨rfl, hl5, hk5⟩ := hq
      repeat' (first | refine WpC.seq ?_ | refine WpC.region ?_ | refine WpC.ret ?_ | refine WpO.nil ?_ | refine WpO.cons rfl rfl (WpX.pure (fun _ => rfl) ⟨nolog, ?_⟩))
      exact out_ret rfl ⟨hl5, hv, fun n hn => by rw [hk5 n fun hm => by have := hv n hm; omega]; exact hfr n hn⟩
  have hlt : i < st.rows.length := by simpa using hlt
  obtain ⟨rfl, sn', cl, junk, rfl, hsn', hg, _⟩ := hs i hlt
  have e : sn' = sn := hsn sn' (by simp [rowName])
  subst e
  have hg' : MapI.get h' sn' = some (.cells true cl (flat tri st.rows ++ junk)) := by rw [hfr sn' hsn']; exact hg
  have hobj' : MapI.get h' p = some (.cells true true [vb, I st.most, .slice (some (sn', 0)) st.rows.length (.upTo 3), I st.live]) := by rw [hfr p hlp]; exact hobj
  obtain ⟨⟨z0, z1, z2⟩, hz⟩ : ∃ z, st.rows[i]? = some z := ⟨_, List.getElem?_eq_getElem hlt⟩
  have hz2 : nth (flat tri st.rows ++ junk) (0 + ((i : Nat) : Int).toNat * 3 + 2) = some (I z2) := by
    rw [show 0 + ((i : Nat) : Int).toNat * 3 + 2 = i * 3 + 2 from by simp]
    exact (nth_flat tri_len hz (by omega) junk).trans rfl
  have hw1 : IntKind.i64.wrap ((i : Int) + 1) = ((i + 1 : Nat) : Int) := by rw [Go.IntWalk.i64_in _ (by omega)]; omega
  have htk := take_snoc hz
  have hmin : min i st.rows.length = i := by omega
  repeat' (first | refine WpC.seq ?_ | refine WpC.region ?_ | refine WpC.skip ?_ | refine WpC.block ?_ | refine WpO.nil ?_ | refine WpO.cons rfl rfl (WpX.pure (fun _ => rfl) ⟨nolog, ?_⟩) | refine seqQ_normal ?_ | refine WpO.cons rfl rfl (op_load rfl rfl rfl hobj' rfl ⟨(by simp [InL, Acc.name, rowName] <;> omega), ?_⟩) | refine WpO.cons rfl rfl (op_indexAddr (k := 3) rfl rfl rfl rfl ⟨by omega, by omega⟩ ⟨(by simp [InL, Acc.name, rowName] <;> omega), ?_⟩) | refine WpO.cons rfl rfl (op_load rfl rfl rfl hg' hz2 ⟨(by simp [InL, Acc.name, rowName] <;> omega), ?_⟩))
  refine WpC.cond rfl (fun hp => ?_) (fun hp => ?_)
  · have hp : z2 > 0 := by simpa using hp
    have hnew : (lvs (st.rows.take (i + 1)) 0).map (fun x => x.1) = (lvs (st.rows.take i) 0).map (fun x => x.1) ++ [i] := by
      rw [htk, lvs_append]; simp [lvs, hp, hmin]
    repeat' (first | refine WpC.region ?_ | refine WpO.cons rfl rfl (WpX.pure (fun _ => rfl) ⟨nolog, ?_⟩) | refine WpO.cons rfl rfl (op_load rfl rfl rfl hobj' rfl ⟨(by simp [InL, Acc.name, rowName] <;> omega), ?_⟩) | refine WpO.cons rfl rfl (op_indexAddr (k := 3) rfl rfl rfl rfl ⟨by omega, by omega⟩ ⟨(by simp [InL, Acc.name, rowName] <;> omega), ?_⟩) | refine WpO.cons rfl rfl (op_buildSlice (k := 1) rfl rfl rfl rfl (by decide) rfl ⟨(by simp [InL, Acc.name, rowName] <;> omega), ?_⟩))
    have hl2 : ∀ x : AObj, ListOf (0 + 1) (ptrV sn') (MapI.set h' c' x) (c' + 1) v ((lvs (st.rows.take i) 0).map fun x => x.1) := fun x => hl.keep (by omega) fun n hn _ => MapI.get_ne _ _ _ _ (by omega)
    have e3 : (V.ptr (some (sn', 0 + ((i : Nat) : Int).toNat * 3))) = .ptr (some (sn', i * 3)) := by simp
    have hle1 := lvs_le (st.rows.take i) 0
    rw [List.length_take] at hle1
    refine WpO.cons rfl rfl (append_at (cells := ptrV sn') (ys := [i]) (cs := [.ptr (some (sn', 0 + ((i : Nat) : Int).toNat * 3))]) rfl rfl elP rfl (ptr_len sn') (ptr_all sn') (hl2 _) (MapI.get_same _ _ _) (by rw [e3]; rfl) rfl (by rw [List.length_map]; omega) (.inr (by simp [acc_rd]; omega)) (fun a ha => ⟨.inr (hv a ha), .inr (hv a ha)⟩) (.inr (by simp [acc_wr]; omega)) fun v2 h2 c2 hlv hn2 hc2 hf2 => ?_)
    repeat' (first | refine WpC.region ?_ | refine WpO.nil ?_ | refine WpO.cons rfl rfl (WpX.pure (fun _ => rfl) ⟨nolog, ?_⟩) | refine seqQ_normal ?_)
    refine ⟨(i + 1, v2), by simp only; omega, ?_, by simp only; omega, ?_, fun n hn => ?_, by omega, fun n hn => ?_⟩
    · rw [hw1]
      exact set4 rfl rfl rfl rfl
    · rw [hnew]; exact hlv
    · rcases hn2 n hn with h | ⟨h, _⟩
      · exact hv n h
      · omega
    · rw [hf2 n (by omega) (fun hm => by have := hv n hm; omega), MapI.get_ne _ _ _ _ (by omega)]
      exact hfr n hn
  · have hp : ¬ z2 > 0 := by simpa using hp
    have hnew : (lvs (st.rows.take (i + 1)) 0).map (fun x => x.1) = (lvs (st.rows.take i) 0).map (fun x => x.1) := by
      rw [htk, lvs_append]; simp [lvs, hp]
    repeat' (first | refine WpC.region ?_ | refine WpC.skip ?_ | refine WpO.nil ?_ | refine WpO.cons rfl rfl (WpX.pure (fun _ => rfl) ⟨nolog, ?_⟩) | refine seqQ_normal ?_)
    refine ⟨(i + 1, v), by simp only; omega, ?_, by simp only; omega, ?_, hv, hc, hfr⟩
    · rw [hw1]
      exact set4 rfl rfl rfl rfl
    · simp only [hnew]; exact hl
end Go.Proofs.Ytcenbfjhhaialaa


set_option linter.unusedVariables false
set_option linter.unusedSectionVars false
set_option linter.unusedSimpArgs false
set_option linter.unnecessarySimpa false
namespace Go.Proofs.Ytcenbfjhhaialaa
open Go.Ab

abbrev R3 := Int × Int × Int
/-- A row's bytes. -/
def chunk (bs : List Int) (q : R3) : List Int := (bs.drop q.1.toNat).take q.2.1.toNat
/-- The bytes of rows, behind one another. -/
def outs (bs : List Int) (rows : List R3) (l : List Nat) : List Int := (l.map fun i => match rows[i]? with | some q => chunk bs q | none => []).flatten
/-- One row is laid at a place. -/
def stp (s : List R3 × Int) (i : Nat) : List R3 × Int :=
  match s.1[i]? with
  | some q => (s.1.set i (s.2, q.2.1, q.2.2), s.2 + q.2.1)
  | none => s
def slid (rows : List R3) (l : List Nat) : List R3 × Int := l.foldl stp (rows, 0)
theorem slid_nil (rows : List R3) : slid rows [] = (rows, 0) := rfl
theorem slid_snoc (rows : List R3) (l : List Nat) (i : Nat) : slid rows (l ++ [i]) = stp (slid rows l) i := by simp [slid, List.foldl_append]
theorem outs_nil (bs : List Int) (rows : List R3) : outs bs rows [] = [] := rfl
theorem outs_snoc {bs : List Int} {rows : List R3} {l : List Nat} {i : Nat} {q : R3} (h : rows[i]? = some q) : outs bs rows (l ++ [i]) = outs bs rows l ++ chunk bs q := by simp [outs, h]
theorem stp_length (s : List R3 × Int) (i : Nat) : (stp s i).1.length = s.1.length := by
  unfold stp; split <;> simp
theorem stp_other {s : List R3 × Int} {i j : Nat} (h : j ≠ i) : (stp s i).1[j]? = s.1[j]? := by
  unfold stp
  split
  · simp [List.getElem?_set, Ne.symm h]
  · rfl
theorem stp_at {s : List R3 × Int} {i : Nat} {q : R3} (h : s.1[i]? = some q) : stp s i = (s.1.set i (s.2, q.2.1, q.2.2), s.2 + q.2.1) := by
  unfold stp; rw [h]
theorem slid_length (rows : List R3) (l : List Nat) : (slid rows l).1.length = rows.length := by
  have : ∀ (l : List Nat) (s : List R3 × Int), (l.foldl stp s).1.length = s.1.length := fun l => by
    induction l with
    | nil => intro s; rfl
    | cons i l ih => intro s; rw [List.foldl_cons, ih, stp_length]
  exact this l _
theorem slid_other (rows : List R3) {l : List Nat} {j : Nat} (h : j ∉ l) : (slid rows l).1[j]? = rows[j]? := by
  have : ∀ (l : List Nat) (s : List R3 × Int), j ∉ l → (l.foldl stp s).1[j]? = s.1[j]? := fun l => by
    induction l with
    | nil => intro s _; rfl
    | cons i l ih =>
      intro s h
      rw [List.foldl_cons, ih _ (fun hm => h (List.mem_cons_of_mem _ hm)), stp_other (fun e => h (by rw [e]; exact List.mem_cons_self ..))]
  exact this l _ h
/-- Sizes and counts stay. -/
theorem slid_same (rows : List R3) (l : List Nat) (j : Nat) : ((slid rows l).1[j]?).map (fun q => q.2) = (rows[j]?).map fun q => q.2 := by
  have : ∀ (l : List Nat) (s : List R3 × Int), ((l.foldl stp s).1[j]?).map (fun q => q.2) = (s.1[j]?).map fun q => q.2 := fun l => by
    induction l with
    | nil => intro s; rfl
    | cons i l ih =>
      intro s
      rw [List.foldl_cons, ih]
      by_cases e : j = i
      · subst e
        cases h : s.1[j]? with
        | none => unfold stp; rw [h]; simp [h]
        | some q =>
          rw [stp_at h]
          have := (List.getElem?_eq_some_iff.1 h).1
          simp [this]
      · rw [stp_other e]
  exact this l _
theorem slid_get {rows : List R3} (l : List Nat) {j : Nat} {q : R3} (h : rows[j]? = some q) : ∃ a, (slid rows l).1[j]? = some (a, q.2.1, q.2.2) := by
  have := slid_same rows l j
  rw [h] at this
  cases hx : (slid rows l).1[j]? with
  | none => rw [hx] at this; cases this
  | some p => rw [hx] at this; simp at this; exact ⟨p.1, by rw [← this]⟩
theorem slid_of {rows : List R3} {l : List Nat} {j : Nat} {p : R3} (h : (slid rows l).1[j]? = some p) : ∃ a, rows[j]? = some (a, p.2.1, p.2.2) := by
  have := slid_same rows l j
  rw [h] at this
  cases hx : rows[j]? with
  | none => rw [hx] at this; cases this
  | some q => rw [hx] at this; simp at this; exact ⟨q.1, by rw [this]⟩

/-- Rows that are held have bytes, within, apart from one another. -/
structure Lies (n : Nat) (rows : List R3) : Prop where
  in_ : ∀ (i : Nat) (q : R3), rows[i]? = some q → q.2.2 > 0 → 0 ≤ q.1 ∧ 1 ≤ q.2.1 ∧ q.1 + q.2.1 ≤ n
  ap : ∀ (i j : Nat) (q p : R3), i ≠ j → rows[i]? = some q → rows[j]? = some p → q.2.2 > 0 → p.2.2 > 0 → q.1 + q.2.1 ≤ p.1 ∨ p.1 + p.2.1 ≤ q.1
  nn : ∀ (i : Nat) (q : R3), rows[i]? = some q → 0 ≤ q.2.2

/-- The sum of sizes. -/
def tot (rows : List R3) : Int := (rows.map fun q => if q.2.2 > 0 then q.2.1 else 0).sum
theorem tot_append (a b : List R3) : tot (a ++ b) = tot a + tot b := by simp [tot]
theorem tot_set : ∀ {rows : List R3} {i : Nat} {q : R3} (p : R3), rows[i]? = some q → tot (rows.set i p) = tot rows - (if q.2.2 > 0 then q.2.1 else 0) + (if p.2.2 > 0 then p.2.1 else 0)
  | [], _, _, _, h => by simp at h
  | x :: rows, 0, q, p, h => by simp at h; subst h; simp only [tot, List.set_cons_zero, List.map_cons, List.sum_cons]; omega
  | x :: rows, i + 1, q, p, h => by
    have := tot_set (rows := rows) (i := i) (q := q) p (by simpa using h)
    simp only [tot, List.set_cons_succ, List.map_cons, List.sum_cons] at this ⊢
    omega

/-- What lies in order: numbers of rows that are held, each behind the one ahead. -/
structure Ord (bn : Nat) (rows : List R3) (l : List Nat) : Prop where
  live : ∀ i ∈ l, ∃ q : R3, rows[i]? = some q ∧ q.2.2 > 0
  all : ∀ (i : Nat) (q : R3), rows[i]? = some q → q.2.2 > 0 → i ∈ l
  up : l.Pairwise fun i j => ∀ q p : R3, rows[i]? = some q → rows[j]? = some p → q.1 + q.2.1 ≤ p.1

theorem lvs_in {q : R3} : ∀ {rows : List R3} {k j : Nat}, rows[j]? = some q → q.2.2 > 0 → (k + j, q.1) ∈ lvs rows k
  | [], _, _, h, _ => by simp at h
  | p :: rows, k, 0, h, h3 => by
    simp at h; subst h
    unfold lvs
    rw [if_pos h3]
    exact List.mem_cons_self ..
  | p :: rows, k, j + 1, h, h3 => by
    have hm := lvs_in (rows := rows) (k := k + 1) (j := j) (by simpa using h) h3
    rw [show k + 1 + j = k + (j + 1) from by omega] at hm
    unfold lvs
    split
    · exact List.mem_cons_of_mem _ hm
    · exact hm
theorem lvs_spec {rows : List R3} {k : Nat} {x : Nat × Int} : x ∈ lvs rows k ↔ ∃ (j : Nat) (q : R3), x.1 = k + j ∧ rows[j]? = some q ∧ q.2.2 > 0 ∧ x.2 = q.1 := by
  refine ⟨lvs_mem, ?_⟩
  rintro ⟨j, q, h1, h2, h3, h4⟩
  have := lvs_in (k := k) h2 h3
  rw [← h1, ← h4] at this
  exact this
theorem lvs_nodup : ∀ (rows : List R3) (k : Nat), (lvs rows k).Pairwise fun a b => a.1 < b.1
  | [], k => List.Pairwise.nil
  | q :: rows, k => by
    have ih := lvs_nodup rows (k + 1)
    unfold lvs
    split
    · exact List.pairwise_cons.2 ⟨fun b hb => by obtain ⟨j, _, h1, _⟩ := lvs_mem hb; show k < b.1; omega, ih⟩
    · exact ih
theorem noDup_of : ∀ {l : List Int}, l.Pairwise (fun a b => a ≠ b) → noDupZ l = true
  | [], _ => rfl
  | x :: l, h => by
    obtain ⟨h1, h2⟩ := List.pairwise_cons.1 h
    have := noDup_of h2
    unfold noDupZ
    have hz : ∀ {l : List Int}, (∀ y ∈ l, x ≠ y) → hasZ x l = false := fun {l} h => by
      induction l with
      | nil => rfl
      | cons y l ih =>
        have h1 := h y (List.mem_cons_self ..)
        have h2 := ih fun z hz => h z (List.mem_cons_of_mem _ hz)
        simp [hasZ, h1, h2]
    rw [hz h1, this]; rfl
theorem lies_parted {n : Nat} {rows : List R3} (hl : Lies n rows) : parted rows := by
  unfold parted
  refine noDup_of ?_
  rw [List.pairwise_map]
  refine (lvs_nodup rows 0).imp_of_mem fun {a b} ha hb hab => ?_
  obtain ⟨i, q, h1, h2, h3, h4⟩ := lvs_mem ha
  obtain ⟨j, p, g1, g2, g3, g4⟩ := lvs_mem hb
  have h5 := hl.ap i j q p (by omega) h2 g2 h3 g3
  have h6 := hl.in_ i q h2 h3
  have h7 := hl.in_ j p g2 g3
  omega
theorem order_ord {n : Nat} {rows : List R3} (hl : Lies n rows) : Ord n rows (order rows) := by
  have hmem : ∀ i, i ∈ order rows ↔ ∃ q, rows[i]? = some q ∧ q.2.2 > 0 := fun i => by
    unfold order
    rw [List.mem_map]
    constructor
    · rintro ⟨x, hx, rfl⟩
      obtain ⟨j, q, h1, h2, h3, _⟩ := lvs_mem (sortP_perm.mem_iff.1 hx)
      rw [Nat.zero_add] at h1
      exact ⟨q, by rw [h1]; exact h2, h3⟩
    · rintro ⟨q, h1, h2⟩
      exact ⟨(i, q.1), sortP_perm.mem_iff.2 (lvs_spec.2 ⟨i, q, by simp, h1, h2, rfl⟩), rfl⟩
  refine ⟨fun i hi => (hmem i).1 hi, fun i q h1 h2 => (hmem i).2 ⟨q, h1, h2⟩, ?_⟩
  unfold order
  rw [List.pairwise_map]
  have hnd : (sortP (lvs rows 0)).Pairwise fun a b => a.1 ≠ b.1 := by
    refine (sortP_perm.pairwise_iff (fun h => Ne.symm h)).2 ?_
    exact (lvs_nodup rows 0).imp fun h => Nat.ne_of_lt h
  refine (sortP_sorted.and hnd).imp_of_mem fun {a b} ha hb hab => ?_
  obtain ⟨i, q, h1, h2, h3, h4⟩ := lvs_mem (sortP_perm.mem_iff.1 ha)
  obtain ⟨j, p, g1, g2, g3, g4⟩ := lvs_mem (sortP_perm.mem_iff.1 hb)
  intro q' p' e1 e2
  rw [Nat.zero_add] at h1 g1
  rw [h1, h2] at e1; cases e1
  rw [g1, g2] at e2; cases e2
  have h5 := hl.ap i j q p (by omega) h2 g2 h3 g3
  have h6 := hl.in_ i q h2 h3
  have h7 := hl.in_ j p g2 g3
  omega

/-- Along the order: what is laid together does not reach the next. -/
theorem Ord.front {n : Nat} {rows : List R3} (hl : Lies n rows) : ∀ {l : List Nat}, l.Pairwise (fun i j => ∀ q p : R3, rows[i]? = some q → rows[j]? = some p → q.1 + q.2.1 ≤ p.1) → (∀ i ∈ l, ∃ q : R3, rows[i]? = some q ∧ q.2.2 > 0) → ∀ {k i : Nat} {q : R3}, l[k]? = some i → rows[i]? = some q → (slid rows (l.take k)).2 ≤ q.1 := by
  intro l hup hlive k
  have hnd : l.Pairwise (fun i j => i ≠ j) := hup.imp_of_mem fun {i j} hi hj h e => by
    subst e
    obtain ⟨q, h1, h2⟩ := hlive i hi
    have := h q q h1 h1
    have := hl.in_ i q h1 h2
    omega
  induction k with
  | zero =>
    intro i q hi hq
    obtain ⟨q', h1, h2⟩ := hlive i (List.mem_of_getElem? hi)
    rw [hq] at h1; cases h1
    have := hl.in_ i q hq h2
    simp [slid]; omega
  | succ k ih =>
    intro i q hi hq
    have hlt := (List.getElem?_eq_some_iff.1 hi).1
    obtain ⟨j, hj⟩ : ∃ j, l[k]? = some j := ⟨_, List.getElem?_eq_getElem (by omega)⟩
    obtain ⟨p, h1, h2⟩ := hlive j (List.mem_of_getElem? hj)
    have hle := ih hj h1
    have hji : j ∉ l.take k := fun hm => by
      obtain ⟨m, hm1, hm2⟩ := List.mem_iff_getElem.1 hm
      have hmk : m < k := by rw [List.length_take] at hm1; omega
      have := List.pairwise_iff_getElem.1 hnd m k (by omega) (by omega) hmk
      refine this ?_
      rw [List.getElem_take] at hm2
      rw [hm2]
      exact (List.getElem?_eq_some_iff.1 hj).2.symm
    have hgap := List.pairwise_iff_getElem.1 hup k (k + 1) (by omega) hlt (by omega) p q (by rw [(List.getElem?_eq_some_iff.1 hj).2]; exact h1) (by rw [(List.getElem?_eq_some_iff.1 hi).2]; exact hq)
    rw [take_snoc hj, slid_snoc, stp_at (q := p) (by rw [slid_other rows hji]; exact h1)]
    show (slid rows (l.take k)).2 + p.2.1 ≤ q.1
    omega
theorem Ord.nodup {n : Nat} {rows : List R3} {l : List Nat} (hl : Lies n rows) (o : Ord n rows l) : l.Pairwise (fun i j => i ≠ j) := o.up.imp_of_mem fun {i j} hi hj h e => by
  subst e
  obtain ⟨q, h1, h2⟩ := o.live i hi
  have := h q q h1 h1
  have := hl.in_ i q h1 h2
  omega
theorem not_take {l : List Nat} (hnd : l.Pairwise (fun i j => i ≠ j)) {k i : Nat} (hi : l[k]? = some i) : i ∉ l.take k := fun hm => by
  have hlt := (List.getElem?_eq_some_iff.1 hi).1
  obtain ⟨m, hm1, hm2⟩ := List.mem_iff_getElem.1 hm
  have hmk : m < k := by rw [List.length_take] at hm1; omega
  refine List.pairwise_iff_getElem.1 hnd m k (by omega) hlt hmk ?_
  rw [List.getElem_take] at hm2
  rw [hm2]
  exact (List.getElem?_eq_some_iff.1 hi).2.symm
theorem not_drop {l : List Nat} (hnd : l.Pairwise (fun i j => i ≠ j)) {k i : Nat} (hi : l[k]? = some i) : i ∉ l.drop (k + 1) := fun hm => by
  have hlt := (List.getElem?_eq_some_iff.1 hi).1
  obtain ⟨m, hm1, hm2⟩ := List.mem_iff_getElem.1 hm
  rw [List.length_drop] at hm1
  refine List.pairwise_iff_getElem.1 hnd k (k + 1 + m) hlt (by omega) (by omega) ?_
  rw [List.getElem_drop] at hm2
  rw [hm2]
  exact (List.getElem?_eq_some_iff.1 hi).2
section
variable {n : Nat} {rows : List R3} {l : List Nat}
theorem Ord.row (o : Ord n rows l) {k i : Nat} (hi : l[k]? = some i) : ∃ q, rows[i]? = some q ∧ q.2.2 > 0 := o.live i (List.mem_of_getElem? hi)
theorem Ord.le (hl : Lies n rows) (o : Ord n rows l) {k i : Nat} {q : R3} (hi : l[k]? = some i) (hq : rows[i]? = some q) : (slid rows (l.take k)).2 ≤ q.1 := Ord.front hl o.up o.live hi hq
/-- The row that comes next stands where it stood. -/
theorem Ord.still (hl : Lies n rows) (o : Ord n rows l) {k i : Nat} {q : R3} (hi : l[k]? = some i) (hq : rows[i]? = some q) : (slid rows (l.take k)).1[i]? = some q := by
  rw [slid_other rows (not_take (o.nodup hl) hi)]; exact hq
theorem Ord.next (hl : Lies n rows) (o : Ord n rows l) {k i : Nat} {q : R3} (hi : l[k]? = some i) (hq : rows[i]? = some q) : slid rows (l.take (k + 1)) = ((slid rows (l.take k)).1.set i ((slid rows (l.take k)).2, q.2.1, q.2.2), (slid rows (l.take k)).2 + q.2.1) := by
  rw [take_snoc hi, slid_snoc, stp_at (o.still hl hi hq)]
theorem Ord.nonneg (hl : Lies n rows) (o : Ord n rows l) : ∀ k, 0 ≤ (slid rows (l.take k)).2
  | 0 => by simp [slid]
  | k + 1 => by
    have ih := Ord.nonneg hl o k
    by_cases hk : k < l.length
    · obtain ⟨i, hi⟩ : ∃ i, l[k]? = some i := ⟨_, List.getElem?_eq_getElem hk⟩
      obtain ⟨q, h1, h2⟩ := o.row hi
      have := hl.in_ i q h1 h2
      rw [o.next hl hi h1]
      show 0 ≤ (slid rows (l.take k)).2 + q.2.1
      omega
    · rw [List.take_of_length_le (by omega)]
      rw [List.take_of_length_le (by omega)] at ih
      exact ih
theorem Ord.mono (hl : Lies n rows) (o : Ord n rows l) {k m : Nat} (h : k ≤ m) : (slid rows (l.take k)).2 ≤ (slid rows (l.take m)).2 := by
  induction m with
  | zero => rw [Nat.le_zero.1 h]; exact Int.le_refl _
  | succ m ih =>
    by_cases e : k = m + 1
    · rw [e]; exact Int.le_refl _
    · have ih := ih (by omega)
      by_cases hk : m < l.length
      · obtain ⟨i, hi⟩ : ∃ i, l[m]? = some i := ⟨_, List.getElem?_eq_getElem hk⟩
        obtain ⟨q, h1, h2⟩ := o.row hi
        have := hl.in_ i q h1 h2
        rw [o.next hl hi h1]
        show _ ≤ (slid rows (l.take m)).2 + q.2.1
        omega
      · rw [List.take_of_length_le (l := l) (i := m + 1) (by omega)]
        rw [List.take_of_length_le (l := l) (i := m) (by omega)] at ih
        exact ih
theorem Ord.fits (hl : Lies n rows) (o : Ord n rows l) : ∀ k, (slid rows (l.take k)).2 ≤ n
  | 0 => by simp [slid]
  | k + 1 => by
    by_cases hk : k < l.length
    · obtain ⟨i, hi⟩ : ∃ i, l[k]? = some i := ⟨_, List.getElem?_eq_getElem hk⟩
      obtain ⟨q, h1, h2⟩ := o.row hi
      have := hl.in_ i q h1 h2
      have := o.le hl hi h1
      rw [o.next hl hi h1]
      show (slid rows (l.take k)).2 + q.2.1 ≤ n
      omega
    · have := Ord.fits hl o k
      rw [List.take_of_length_le (by omega)]
      rw [List.take_of_length_le (by omega)] at this
      exact this
/-- Where a row lies when all is done. -/
theorem Ord.placed (hl : Lies n rows) (o : Ord n rows l) {k i : Nat} {q : R3} (hi : l[k]? = some i) (hq : rows[i]? = some q) : (slid rows l).1[i]? = some ((slid rows (l.take k)).2, q.2.1, q.2.2) := by
  have hlt := (List.getElem?_eq_some_iff.1 hq).1
  have key : ∀ (r : List Nat) (s : List R3 × Int), i ∉ r → (r.foldl stp s).1[i]? = s.1[i]? := fun r => by
    induction r with
    | nil => intro s _; rfl
    | cons j r ih =>
      intro s h
      rw [List.foldl_cons, ih _ (fun hm => h (List.mem_cons_of_mem _ hm)), stp_other (fun e => h (by rw [e]; exact List.mem_cons_self ..))]
  have e : slid rows l = (l.drop (k + 1)).foldl stp (slid rows (l.take (k + 1))) := by
    conv => lhs; rw [← List.take_append_drop (k + 1) l]
    unfold slid
    rw [List.foldl_append]
  rw [e, key _ _ (not_drop (o.nodup hl) hi), o.next hl hi hq]
  have : i < (slid rows (l.take k)).1.length := by rw [slid_length]; exact hlt
  simp [this]
theorem chunk_length {bs : List Int} {q : R3} (h0 : 0 ≤ q.1) (h1 : 0 ≤ q.2.1) (h : q.1 + q.2.1 ≤ bs.length) : (chunk bs q).length = q.2.1.toNat := by
  unfold chunk
  rw [List.length_take, List.length_drop]; omega
theorem Ord.outs_len {bs : List Int} (hl : Lies bs.length rows) (o : Ord bs.length rows l) : ∀ k, ((outs bs rows (l.take k)).length : Int) = (slid rows (l.take k)).2
  | 0 => by simp [slid, outs]
  | k + 1 => by
    have ih := Ord.outs_len hl o k
    by_cases hk : k < l.length
    · obtain ⟨i, hi⟩ : ∃ i, l[k]? = some i := ⟨_, List.getElem?_eq_getElem hk⟩
      obtain ⟨q, h1, h2⟩ := o.row hi
      have h3 := hl.in_ i q h1 h2
      rw [o.next hl hi h1, take_snoc hi, outs_snoc h1, List.length_append, chunk_length h3.1 (by omega) h3.2.2]
      show _ = (slid rows (l.take k)).2 + q.2.1
      omega
    · rw [List.take_of_length_le (by omega)]
      rw [List.take_of_length_le (by omega)] at ih
      exact ih
theorem Ord.outs_at {bs : List Int} (hl : Lies bs.length rows) (o : Ord bs.length rows l) {k i : Nat} {q : R3} (hi : l[k]? = some i) (hq : rows[i]? = some q) : ((outs bs rows l).drop (slid rows (l.take k)).2.toNat).take q.2.1.toNat = chunk bs q := by
  obtain ⟨q', h1, h2⟩ := o.row hi
  rw [hq] at h1; cases h1
  have h3 := hl.in_ i q hq h2
  have hk := (List.getElem?_eq_some_iff.1 hi).1
  have e : outs bs rows l = outs bs rows (l.take k) ++ (chunk bs q ++ outs bs rows (l.drop (k + 1))) := by
    have e1 : l = l.take k ++ (i :: l.drop (k + 1)) := by
      rw [← (List.getElem?_eq_some_iff.1 hi).2, List.getElem_cons_drop, List.take_append_drop]
    conv => lhs; rw [e1]
    simp [outs, hq]
  have hlen := o.outs_len hl k
  rw [e, show (slid rows (l.take k)).2.toNat = (outs bs rows (l.take k)).length from by omega, List.drop_left]
  rw [show q.2.1.toNat = (chunk bs q).length from (chunk_length h3.1 (by omega) h3.2.2).symm, List.take_left]
theorem sum_perm {α : Type} {f : α → Int} {a b : List α} (h : a.Perm b) : (a.map f).sum = (b.map f).sum := by
  induction h with
  | nil => rfl
  | cons x _ ih => simp [ih]
  | swap x y l => simp; omega
  | trans _ _ h1 h2 => exact h1.trans h2
def sz (rows : List R3) (i : Nat) : Int := match rows[i]? with
  | some q => q.2.1
  | none => 0
theorem Ord.sum (hl : Lies n rows) (o : Ord n rows l) : ∀ k, (slid rows (l.take k)).2 = ((l.take k).map (sz rows)).sum
  | 0 => by simp [slid]
  | k + 1 => by
    have ih := Ord.sum hl o k
    by_cases hk : k < l.length
    · obtain ⟨i, hi⟩ : ∃ i, l[k]? = some i := ⟨_, List.getElem?_eq_getElem hk⟩
      obtain ⟨q, h1, h2⟩ := o.row hi
      rw [o.next hl hi h1, take_snoc hi]
      have : sz rows i = q.2.1 := by unfold sz; rw [h1]
      simp only [ih, List.map_append, List.sum_append, List.map_cons, List.map_nil, List.sum_cons, List.sum_nil, this]
      omega
    · rw [List.take_of_length_le (by omega)]
      rw [List.take_of_length_le (by omega)] at ih
      exact ih
theorem lvs_sum (f : Nat → Int) : ∀ (rows : List R3) (k : Nat), (∀ j q, rows[j]? = some q → f (k + j) = q.2.1) → ((lvs rows k).map fun x => f x.1).sum = tot rows
  | [], k, _ => by simp [lvs, tot]
  | q :: rows, k, h => by
    have ih := lvs_sum f rows (k + 1) fun j p hj => by
      have := h (j + 1) p (by simpa using hj)
      rw [← this]; congr 1; omega
    have h0 := h 0 q (by simp)
    simp only [tot, List.map_cons, List.sum_cons] at ih ⊢
    unfold lvs
    split
    · simp only [List.map_cons, List.sum_cons, ih]
      rw [Nat.add_zero] at h0
      rw [h0]
    · rw [ih]; omega
theorem order_tot (hl : Lies n rows) : (slid rows (order rows)).2 = tot rows := by
  have o := order_ord hl
  have h1 := o.sum hl (order rows).length
  rw [List.take_of_length_le (Nat.le_refl _)] at h1
  rw [h1]
  unfold order
  rw [List.map_map, sum_perm (f := (sz rows) ∘ fun x => x.1) sortP_perm]
  exact lvs_sum (sz rows) rows 0 fun j q hj => by rw [Nat.zero_add]; unfold sz; rw [hj]
theorem outs_tot {bs : List Int} (hl : Lies bs.length rows) : ((outs bs rows (order rows)).length : Int) = tot rows := by
  have o := order_ord hl
  have h1 := o.outs_len hl (order rows).length
  rw [List.take_of_length_le (Nat.le_refl _)] at h1
  rw [h1, order_tot hl]
/-- All lies behind the slide as it should. -/
theorem slid_lies {bs : List Int} (hl : Lies bs.length rows) : Lies (outs bs rows (order rows)).length (slid rows (order rows)).1 := by
  have o := order_ord hl
  have pos : ∀ i p, (slid rows (order rows)).1[i]? = some p → p.2.2 > 0 → ∃ k q, (order rows)[k]? = some i ∧ rows[i]? = some q ∧ q.2.2 > 0 ∧ p = ((slid rows ((order rows).take k)).2, q.2.1, q.2.2) := fun i p hp h0 => by
    obtain ⟨a, ha⟩ := slid_of hp
    obtain ⟨k, hk1, hk2⟩ := List.mem_iff_getElem.1 (o.all i _ ha h0)
    have hk : (order rows)[k]? = some i := List.getElem?_eq_some_iff.2 ⟨hk1, hk2⟩
    have := o.placed hl hk ha
    rw [hp] at this
    exact ⟨k, _, hk, ha, h0, Option.some.inj this⟩
  have nxt : ∀ k i q, (order rows)[k]? = some i → rows[i]? = some q → ∀ m, k < m → (slid rows ((order rows).take k)).2 + q.2.1 ≤ (slid rows ((order rows).take m)).2 := fun k i q hk hq m hm => by
    have h1 := o.next hl hk hq
    have h2 := o.mono hl (k := k + 1) (m := m) (by omega)
    rw [h1] at h2
    exact h2
  refine ⟨fun i p hp h0 => ?_, fun i j p p' hij hp hp' h0 h0' => ?_, fun i p hp => ?_⟩
  · obtain ⟨k, q, hk, hq, h1, rfl⟩ := pos i p hp h0
    have h2 := hl.in_ i q hq h1
    have h3 := nxt k i q hk hq (order rows).length (List.getElem?_eq_some_iff.1 hk).1
    rw [List.take_of_length_le (Nat.le_refl _), order_tot hl, ← outs_tot hl] at h3
    exact ⟨o.nonneg hl k, h2.2.1, h3⟩
  · obtain ⟨k, q, hk, hq, h1, rfl⟩ := pos i p hp h0
    obtain ⟨k', q', hk', hq', h1', rfl⟩ := pos j p' hp' h0'
    have hne : k ≠ k' := fun e => by subst e; rw [hk] at hk'; cases hk'; exact hij rfl
    rcases Nat.lt_or_gt_of_ne hne with h | h
    · exact .inl (nxt k i q hk hq k' h)
    · exact .inr (nxt k' j q' hk' hq' k h)
  · obtain ⟨a, ha⟩ := slid_of hp
    exact hl.nn i (a, p.2.1, p.2.2) ha
/-- Bytes are what they were. -/
theorem slid_bytes {bs : List Int} (hl : Lies bs.length rows) {i : Nat} {q : R3} (hq : rows[i]? = some q) (h0 : q.2.2 > 0) : ∃ a, (slid rows (order rows)).1[i]? = some (a, q.2.1, q.2.2) ∧ chunk (outs bs rows (order rows)) (a, q.2.1, q.2.2) = chunk bs q := by
  have o := order_ord hl
  obtain ⟨k, hk1, hk2⟩ := List.mem_iff_getElem.1 (o.all i _ hq h0)
  have hk : (order rows)[k]? = some i := List.getElem?_eq_some_iff.2 ⟨hk1, hk2⟩
  exact ⟨_, o.placed hl hk hq, o.outs_at hl hk hq⟩
theorem slid_tot (hl : Lies n rows) : tot (slid rows (order rows)).1 = tot rows := by
  have h : ∀ a b : List R3, a.map (fun q => q.2) = b.map (fun q => q.2) → tot a = tot b := fun a => by
    induction a with
    | nil => intro b e; cases b with
      | nil => rfl
      | cons => cases e
    | cons x a ih => intro b e; cases b with
      | nil => cases e
      | cons y b =>
        simp only [List.map_cons, List.cons.injEq] at e
        have := ih b e.2
        simp only [tot, List.map_cons, List.sum_cons] at this ⊢
        rw [this, e.1]
  refine h _ _ ?_
  apply List.ext_getElem?
  intro j
  rw [List.getElem?_map, List.getElem?_map]
  exact slid_same rows (order rows) j
end
end Go.Proofs.Ytcenbfjhhaialaa


set_option linter.unusedVariables false
set_option linter.unusedSectionVars false
set_option linter.unusedSimpArgs false
set_option linter.unnecessarySimpa false
namespace Go.Proofs.Ytcenbfjhhaialaa
open Go.Ab
set_option maxRecDepth 10000

theorem set6 {X : EE} {k0 k1 k2 k3 k4 k5 : Nat} {v0 v1 v2 v3 v4 v5 : V} (h0 : X k0 = some v0) (h1 : X k1 = some v1) (h2 : X k2 = some v2) (h3 : X k3 = some v3) (h4 : X k4 = some v4) (h5 : X k5 = some v5) : ∃ b, X = MapI.set (MapI.set (MapI.set (MapI.set (MapI.set (MapI.set b k0 v0) k1 v1) k2 v2) k3 v3) k4 v4) k5 v5 :=
  ⟨X, by rw [FM.add h0, FM.add h1, FM.add h2, FM.add h3, FM.add h4, FM.add h5]⟩
theorem set_tri0 {junk : List V} {a b z x : Int} : ∀ {rows : List (Int × Int × Int)} {i : Nat}, rows[i]? = some (a, b, z) → setAll (flat tri rows ++ junk) (i * 3 + 0) [I x] = flat tri (rows.set i (x, b, z)) ++ junk
  | [], _, h => by simp at h
  | y :: rows, 0, h => by simp at h; subst h; simp [flat, tri, setAll, ovr]
  | y :: rows, i + 1, h => by
    have := set_tri0 (junk := junk) (x := x) (rows := rows) (i := i) (by simpa using h)
    rw [show (i + 1) * 3 + 0 = i * 3 + 3 from by omega]
    simp only [flat_cons, List.append_assoc, List.set_cons_succ, Nat.add_zero] at this ⊢
    simp only [tri, List.cons_append, List.nil_append, setAll, this]
/-- How the store stands when k rows are laid. -/
def stk (st : St) (k : Nat) : St := ⟨outs st.bs st.rows ((order st.rows).take k) ++ st.bs.drop (slid st.rows ((order st.rows).take k)).2.toNat, st.most, (slid st.rows ((order st.rows).take k)).1, st.live⟩
theorem stk_zero (st : St) : stk st 0 = st := by
  cases st
  simp [stk, outs, slid]
theorem stk_len {st : St} (hl : Lies st.bs.length st.rows) (k : Nat) : (stk st k).bs.length = st.bs.length := by
  have o := order_ord hl
  have h1 := o.outs_len hl k
  have h2 := o.fits hl k
  show (outs st.bs st.rows ((order st.rows).take k) ++ st.bs.drop (slid st.rows ((order st.rows).take k)).2.toNat).length = _
  rw [List.length_append, List.length_drop]
  omega
theorem stk_rows (st : St) (k : Nat) : (stk st k).rows.length = st.rows.length := slid_length _ _

set_option maxHeartbeats 8000000 in
theorem sslide_ok {h : HH} {c p : Nat} {vb vr : V} {st : St} (r : StoreAt h c p vb vr st) (hlen : st.rows.length ≤ 1000) (hb : st.bs.length ≤ 10000000) (hl : Lies st.bs.length st.rows) :
    Does 21 [.ptr (some (p, 0))] h c (p :: (rowName vb ++ rowName vr)) fun v h' c' => v = I ((st.bs.length : Int) - tot st.rows) ∧ c ≤ c' ∧ ∃ vb', rowName vb' = rowName vb ∧
      StoreAt h' c' p vb' vr ⟨outs st.bs st.rows (order st.rows), st.most, (slid st.rows (order st.rows)).1, st.live⟩ := by
  have hobj := r.obj
  have hlp := r.lp
  have o := order_ord hl
  obtain ⟨sn, hsn⟩ : ∃ sn, ∀ n ∈ rowName vr, n = sn := by
    rcases r.rows with ⟨rfl, _⟩ | ⟨s, _, _, rfl, _⟩
    · exact ⟨0, fun n hn => by cases hn⟩
    · exact ⟨s, fun n hn => by simpa [rowName] using hn⟩
  have hol : (order st.rows).length ≤ st.rows.length := by
    have := lvs_le st.rows 0
    unfold order
    rw [List.length_map, sort_len]; exact this
  obtain ⟨sb, capb, hvb, _⟩ := r.bytes.shape
  refine does_of (enter (fn := Try.f21) Try.func21 rfl rfl (Nat.le_of_ble_eq_true rfl) ?_)
  subst hvb
  repeat' (first | refine WpC.seq ?_ | refine WpC.region ?_ | refine WpO.nil ?_ | refine WpO.cons rfl rfl (WpX.pure (fun _ => rfl) ⟨nolog, ?_⟩) | refine seqQ_normal ?_)
  refine WpC.cond rfl (fun hb => by cases hb) (fun _ => ?_)
  repeat' (first | refine WpC.seq ?_ | refine WpC.region ?_ | refine WpC.skip ?_ | refine WpO.nil ?_ | refine WpO.cons rfl rfl (WpX.pure (fun _ => rfl) ⟨nolog, ?_⟩) | refine WpO.cons rfl rfl (op_load rfl rfl rfl hobj rfl ⟨(by simp [InL, Acc.name, rowName] <;> omega), ?_⟩))
  refine WpO.cons rfl rfl (call_at rfl (lying_ok r hlen (lies_parted hl) hsn) (fun x hx => .inl (by simp at hx; rcases hx with h | h <;> simp [h])) (Nat.le_refl _) fun v h4 c4 hc4 hfr4 hq => ?_)
  obtain ⟨hlv, hv, hk⟩ := hq
  have r4 := r.keep hc4 hk
  obtain ⟨sl, capl, hvl, _⟩ := hlv.shape
  subst hvl
  repeat' (first | refine WpC.block ?_ | refine WpO.nil ?_ | refine WpO.cons rfl rfl (WpX.pure (fun _ => rfl) ⟨nolog, ?_⟩))
  refine WpC.loop ?_
  refine WpLoop.ind (X := Nat) (fun k e h' c' => (∃ b0, e = MapI.set (MapI.set (MapI.set (MapI.set (MapI.set (MapI.set b0 0 (.ptr (some (p, 0)))) 3 (I st.bs.length)) 4 (I (slid st.rows ((order st.rows).take k)).2)) 15 (.slice sl (order st.rows).length capl)) 16 (I (order st.rows).length)) 17 (I k)) ∧ k ≤ (order st.rows).length ∧
      StoreAt h' c' p (.slice sb st.bs.length capb) vr (stk st k) ∧ ListOf 1 (ptrV sn) h' c' (.slice sl (order st.rows).length capl) (order st.rows) ∧ c' = c4)
    (fun k => (order st.rows).length - k) ?_ 0 _ _ _ ⟨set6 rfl rfl rfl rfl rfl rfl, Nat.zero_le _, by rw [stk_zero]; exact r4, hlv, rfl⟩
  rintro k e h' c' ⟨⟨b0, rfl⟩, hk0, r', hlv', rfl⟩
  repeat' (first | refine WpC.seq ?_ | refine WpC.region ?_ | refine WpO.nil ?_ | refine WpO.cons rfl rfl (WpX.pure (fun _ => rfl) ⟨nolog, ?_⟩))
  refine WpC.cond rfl (fun hlt => ?_) (fun hge => ?_)
  case refine_2 =>
    have hge : (order st.rows).length ≤ k := by simpa using hge
    have hk1 : (order st.rows).take k = order st.rows := List.take_of_length_le hge
    have hst : stk st k = ⟨outs st.bs st.rows (order st.rows) ++ st.bs.drop (slid st.rows (order st.rows)).2.toNat, st.most, (slid st.rows (order st.rows)).1, st.live⟩ := by unfold stk; rw [hk1]
    rw [hst] at r'
    rw [hk1]
    have hobj' := r'.obj
    have ho := outs_tot hl
    have ht := order_tot hl
    obtain ⟨t, hte⟩ : ∃ t : Nat, (slid st.rows (order st.rows)).2 = t := ⟨(outs st.bs st.rows (order st.rows)).length, by omega⟩
    have hfit := o.fits hl (order st.rows).length
    rw [List.take_of_length_le (Nat.le_refl _)] at hfit
    rw [hte] at hfit ⊢
    have hw : IntKind.i64.wrap ((st.bs.length : Int) - (t : Int)) = (st.bs.length : Int) - tot st.rows := by rw [Go.IntWalk.i64_in _ (by omega)]; omega
    rcases r'.bytes with ⟨hvb, hnil⟩ | ⟨s, cl, junk, hvb, hs1, hs2, hs3⟩
    · have ho0 : outs st.bs st.rows (order st.rows) = [] := (List.append_eq_nil_iff.1 hnil).1
      have ht0 : t = 0 := by rw [ho0] at ho; simp at ho; omega
      injection hvb with e1 e2 e3
      subst e1
      subst e3
      subst ht0
      repeat' (first | refine WpC.seq ?_ | refine WpC.region ?_ | refine WpC.exit ?_ | refine WpC.ret ?_ | refine WpO.nil ?_ | refine WpO.cons rfl rfl (WpX.pure (fun _ => rfl) ⟨nolog, ?_⟩) | refine WpO.cons rfl rfl (op_load rfl rfl rfl hobj' rfl ⟨(by simp [InL, Acc.name, rowName] <;> omega), ?_⟩) | refine WpO.cons rfl rfl (op_store (k := 1) rfl rfl rfl rfl hobj' (Nat.le_of_ble_eq_true rfl) rfl ⟨(by simp [InL, Acc.name, rowName] <;> omega), ?_⟩))
      refine out_ret rfl ⟨by show V.int _ _ = _; rw [hw], by omega, .slice none 0 (.known 0), rfl, MapI.get_same _ _ _, ?_, ?_, r'.lp, fun n hn => (by cases hn), r'.nr, fun n hn => (by cases hn)⟩
      · rw [ho0]; exact .nil
      · exact r'.rows.keep (Nat.le_refl _) fun n hn hm => MapI.get_ne _ _ _ _ (Ne.symm (r'.nr n hm))
    · injection hvb with e1 e2 e3
      subst e1
      subst e3
      have hps : p ≠ s := fun e => r'.nb s (by simp [rowName]) e.symm
      repeat' (first | refine WpC.seq ?_ | refine WpC.region ?_ | refine WpC.exit ?_ | refine WpC.ret ?_ | refine WpO.nil ?_ | refine WpO.cons rfl rfl (WpX.pure (fun _ => rfl) ⟨nolog, ?_⟩) | refine WpO.cons rfl rfl (op_load rfl rfl rfl hobj' rfl ⟨(by simp [InL, Acc.name, rowName] <;> omega), ?_⟩) | refine WpO.cons rfl rfl (op_slice rfl rfl rfl rfl rfl (l := 0) rfl (bound_at rfl) (Nat.zero_le _) (by omega) rfl ⟨(by simp [InL, Acc.name, rowName] <;> omega), ?_⟩) | refine WpO.cons rfl rfl (op_store (k := 1) rfl rfl rfl rfl hobj' (Nat.le_of_ble_eq_true rfl) rfl ⟨(by simp [InL, Acc.name, rowName] <;> omega), ?_⟩))
      refine out_ret rfl ⟨by show V.int _ _ = _; rw [hw], by omega, .slice (some (s, 0)) t (.upTo 1), rfl, ?_, ?_, ?_, r'.lp, r'.nb, r'.nr, r'.br⟩
      · refine (MapI.get_same (S := HH) (α := AObj) _ _ _).trans ?_
        simp only [Nat.sub_zero]
        rfl
      · refine .inr ⟨s, cl, flat byteV (st.bs.drop (slid st.rows (order st.rows)).2.toNat) ++ junk, ?_, hs1, ?_, ?_⟩
        · have : (outs st.bs st.rows (order st.rows)).length = t := by omega
          rw [this]
        · rw [MapI.get_ne _ _ _ _ hps, hs2, flat_append, List.append_assoc, hte]
        · rw [List.all_append, flat_all byte_all, hs3]; rfl
      · exact r'.rows.keep (Nat.le_refl _) fun n hn hm => MapI.get_ne _ _ _ _ (Ne.symm (r'.nr n hm))
  have hlt : k < (order st.rows).length := by simpa using hlt
  obtain ⟨i, hi⟩ : ∃ i, (order st.rows)[k]? = some i := ⟨_, List.getElem?_eq_getElem hlt⟩
  obtain ⟨⟨a, n, cnt⟩, hq, hq0⟩ := o.row hi
  have hin := hl.in_ i _ hq hq0
  simp only at hin hq0
  obtain ⟨a, rfl⟩ : ∃ z : Nat, a = z := ⟨a.toNat, by omega⟩
  obtain ⟨n, rfl⟩ : ∃ z : Nat, n = z := ⟨n.toNat, by omega⟩
  have hle := o.le hl hi hq
  have hnn := o.nonneg hl k
  have hol2 := o.outs_len hl k
  have hnx := o.next hl hi hq
  obtain ⟨t, hte⟩ : ∃ t : Nat, (slid st.rows ((order st.rows).take k)).2 = t := ⟨(slid st.rows ((order st.rows).take k)).2.toNat, by omega⟩
  have hst : stk st k = ⟨outs st.bs st.rows ((order st.rows).take k) ++ st.bs.drop t, st.most, (slid st.rows ((order st.rows).take k)).1, st.live⟩ := by unfold stk; rw [hte]; rfl
  have hst1 : stk st (k + 1) = ⟨outs st.bs st.rows ((order st.rows).take k) ++ (chunk st.bs ((a : Int), (n : Int), cnt) ++ st.bs.drop (t + n)), st.most, (slid st.rows ((order st.rows).take k)).1.set i ((t : Int), (n : Int), cnt), st.live⟩ := by
    unfold stk
    rw [hnx, take_snoc hi, outs_snoc hq, hte, List.append_assoc]
    simp only [St.mk.injEq, true_and, and_true]
    congr 3
  rw [hte] at hle hol2 ⊢
  have hstill := o.still hl hi hq
  rw [hst] at r'
  have hLl : (outs st.bs st.rows ((order st.rows).take k) ++ st.bs.drop t).length = st.bs.length := by
    have := stk_len hl k
    rw [hst] at this
    exact this
  have hobj' := r'.obj
  rcases r'.bytes with ⟨_, hnil⟩ | ⟨sbn, clb, jkb, hvb, hsbn, hgb, hjb⟩
  · have hnil : outs st.bs st.rows ((order st.rows).take k) ++ st.bs.drop t = [] := hnil
    rw [hnil] at hLl; simp at hLl; omega
  injection hvb with e1 e2 e3
  subst e1
  subst e3
  have hil : i < (slid st.rows ((order st.rows).take k)).1.length := (List.getElem?_eq_some_iff.1 hstill).1
  rcases r'.rows with ⟨_, hnil⟩ | ⟨sn', cl, junk, hvr, hsn', hg, hjk⟩
  · have hnil : (slid st.rows ((order st.rows).take k)).1 = [] := hnil
    rw [hnil] at hil; simp at hil
  subst hvr
  have hsnn : sn' = sn := hsn sn' (by simp [rowName])
  subst hsnn
  rcases hlv' with ⟨_, hnil⟩ | ⟨ls, cll, jkl, hvl, hls, hgl, hjl⟩
  · rw [hnil] at hlt; simp at hlt
  injection hvl with e1 e2 e3
  subst e1
  subst e3
  simp only at hgb hg hobj'
  have nps : p ≠ sbn := fun e => r'.nb sbn (by simp [rowName]) e.symm
  have nps2 : p ≠ sn' := fun e => r'.nr sn' (by simp [rowName]) e.symm
  have nbs : sbn ≠ sn' := fun e => r'.br sbn (by simp [rowName]) (by simp [rowName, e])
  have hcls : c ≤ ls := hv ls (by simp [rowName])
  have hbl : ∀ m ∈ rowName (V.slice (some (sbn, 0)) st.bs.length (.upTo 1)), m < c := r.bytes.lt
  have hrl : ∀ m ∈ rowName (V.slice (some (sn', 0)) (slid st.rows ((order st.rows).take k)).1.length (.upTo 3)), m < c := fun m hm => r.rows.lt m hm
  have hsbc : sbn < c := hbl sbn (by simp [rowName])
  have hsnc : sn' < c := hrl sn' (by simp [rowName])
  have hn0 : nth (flat (ptrV sn') (order st.rows) ++ jkl) (0 + ((k : Nat) : Int).toNat * 1) = some (.ptr (some (sn', i * 3))) := by
    have := (nth_flat (ptr_len sn') hi (Nat.lt_succ_self 0) jkl).trans (show nth (ptrV sn' i) 0 = some (.ptr (some (sn', i * 3))) from rfl)
    simpa using this
  have hz0 : nth (flat tri (slid st.rows ((order st.rows).take k)).1 ++ junk) (i * 3 + 0) = some (I a) := (nth_flat tri_len hstill (by omega) junk).trans rfl
  have hz1 : nth (flat tri (slid st.rows ((order st.rows).take k)).1 ++ junk) (i * 3 + 1) = some (I n) := (nth_flat tri_len hstill (by omega) junk).trans rfl
  have hwan : IntKind.i64.wrap ((a : Int) + (n : Int)) = ((a + n : Nat) : Int) := by rw [Go.IntWalk.i64_in _ (by omega)]; omega
  have hmin : min (a + n - a) (st.bs.length - t) = n := by omega
  have hchunk : ((outs st.bs st.rows ((order st.rows).take k) ++ st.bs.drop t).drop a).take n = chunk st.bs ((a : Int), (n : Int), cnt) := by
    unfold chunk
    rw [List.drop_append, List.drop_eq_nil_of_le (by omega), List.nil_append, List.drop_drop, show t + (a - (outs st.bs st.rows ((order st.rows).take k)).length) = a from by omega]
    rfl
  have hcut : cut (flat byteV (outs st.bs st.rows ((order st.rows).take k) ++ st.bs.drop t) ++ jkb) (0 + a * (0 + 1)) (min (a + n - a) (st.bs.length - t) * 1) = some (flat byteV (chunk st.bs ((a : Int), (n : Int), cnt))) := by
    rw [hmin, show 0 + a * (0 + 1) = a from by simp, Nat.mul_one, cut_bytes (by omega), hchunk]
  have hcl : (chunk st.bs ((a : Int), (n : Int), cnt)).length = n := by rw [chunk_length (by simp only; omega) (by simp only; omega) hin.2.2]; simp
  have hfx : (flat byteV (chunk st.bs ((a : Int), (n : Int), cnt))).length = n := by rw [flat_length byte_len, hcl]; omega
  have hfb : (flat byteV (outs st.bs st.rows ((order st.rows).take k) ++ st.bs.drop t) ++ jkb).length = st.bs.length + jkb.length := by rw [List.length_append, flat_length byte_len]; omega
  repeat' (first | refine WpC.seq ?_ | refine WpC.region ?_ | refine WpC.drawn ?_ | refine WpC.skip ?_ | refine WpC.block ?_ | refine WpO.nil ?_ | refine WpO.cons rfl rfl (WpX.pure (fun _ => rfl) ⟨nolog, ?_⟩) | refine WpL.cons rfl rfl (WpX.pure (fun _ => rfl) ⟨nolog, ?_⟩) | refine WpO.cons rfl rfl (op_indexAddr (k := 1) rfl rfl rfl rfl ⟨by omega, by omega⟩ ⟨(by simp [InL, Acc.name, rowName] <;> omega), ?_⟩) | refine WpO.cons rfl rfl (op_load rfl rfl rfl hgl hn0 ⟨(by simp [InL, Acc.name, rowName] <;> omega), ?_⟩) | refine WpL.cons rfl rfl (op_load rfl rfl rfl hobj' rfl ⟨(by simp [InL, Acc.name, rowName] <;> omega), ?_⟩) | refine WpL.cons rfl rfl (op_load rfl rfl rfl hg hz0 ⟨(by simp [InL, Acc.name, rowName] <;> omega), ?_⟩) | refine WpL.cons rfl rfl (op_load rfl rfl rfl hg hz1 ⟨(by simp [InL, Acc.name, rowName] <;> omega), ?_⟩) | refine WpL.cons rfl rfl (op_slice rfl rfl rfl rfl rfl (bound_at (n := t) rfl) rfl (by omega) (by omega) rfl ⟨(by simp [InL, Acc.name, rowName] <;> omega), ?_⟩) | refine WpL.cons rfl rfl (op_slice rfl rfl rfl rfl rfl (bound_at (n := a) rfl) (bound_at hwan) (by omega) (by omega) rfl ⟨(by simp [InL, Acc.name, rowName] <;> omega), ?_⟩) | refine WpL.cons rfl rfl (op_copy (k := 1) rfl rfl rfl rfl (by omega) hgb hcut hgb (by omega) (flat_all byte_all _) ⟨(by simp [InL, Acc.name, rowName] <;> omega), ?_⟩))
  refine WpL.nil (logsOk_of (cs := [0, 1, 3, 7, 0, 31, 0, 64, 192, 448, 0, 1024, 3072, 7168, 0, 16384, 49152, 114688, 0, 262144, 786432, 1835008, 4177920, 8388544, 16777215]) (by decide +kernel) ?_) ?_
  · simp +contextual [allP, apP, Dis, acc_rd, acc_wr, accw_rd, accw_wr, Nat.testBit, nps, nps2, nbs]
  have g5 : ∀ x : AObj, MapI.get (MapI.set h' sbn x) sn' = some (.cells true cl (flat tri (slid st.rows ((order st.rows).take k)).1 ++ junk)) := fun x => by rw [MapI.get_ne _ _ _ _ nbs]; exact hg
  have g6 : ∀ (g : HH) (y : AObj), MapI.get (MapI.set g sn' y) sn' = some y := fun g y => MapI.get_same _ _ _
  have hfl : i * 3 + 0 + 1 ≤ (flat tri (slid st.rows ((order st.rows).take k)).1 ++ junk).length := by rw [List.length_append, flat_length tri_len]; omega
  have hz' : ((slid st.rows ((order st.rows).take k)).1.set i ((t : Int), (n : Int), cnt))[i]? = some ((t : Int), (n : Int), cnt) := by simp [hil]
  have hn1 : nth (setAll (flat tri (slid st.rows ((order st.rows).take k)).1 ++ junk) (i * 3 + 0) [I t]) (i * 3 + 1) = some (I n) := by
    rw [set_tri0 hstill]; exact (nth_flat tri_len hz' (by omega) junk).trans rfl
  have hwt : IntKind.i64.wrap ((t : Int) + (n : Int)) = ((slid st.rows ((order st.rows).take (k + 1))).2) := by rw [hnx, hte, Go.IntWalk.i64_in _ (by omega)]
  have hwk : IntKind.i64.wrap ((k : Int) + 1) = ((k + 1 : Nat) : Int) := by rw [Go.IntWalk.i64_in _ (by omega)]; omega
  repeat' (first | refine WpC.seq ?_ | refine WpC.region ?_ | refine WpO.nil ?_ | refine WpO.cons rfl rfl (WpX.pure (fun _ => rfl) ⟨nolog, ?_⟩) | refine seqQ_normal ?_ | refine WpO.cons rfl rfl (op_store (k := 1) rfl rfl rfl rfl (g5 _) hfl rfl ⟨(by simp [InL, Acc.name, rowName] <;> omega), ?_⟩) | refine WpO.cons rfl rfl (op_load rfl rfl rfl (g6 _ _) hn1 ⟨(by simp [InL, Acc.name, rowName] <;> omega), ?_⟩))
  refine ⟨k + 1, by omega, ?_, by omega, ?_, ?_, rfl⟩
  · rw [hwt, hwk]
    exact set6 rfl rfl rfl rfl rfl rfl
  · rw [hst1]
    refine ⟨?_, .inr ⟨sbn, clb, jkb, ?_, hsbn, ?_, hjb⟩, .inr ⟨sn', cl, junk, ?_, hsn', ?_, hjk⟩, r'.lp, r'.nb, fun m hm => r'.nr m (by simpa [rowName] using hm), fun m hm hm2 => r'.br m hm (by simpa [rowName] using hm2)⟩
    · rw [MapI.get_ne _ _ _ _ (Ne.symm nps2), MapI.get_ne _ _ _ _ (Ne.symm nps)]
      exact hobj'
    · simp only [List.length_append, hcl, List.length_drop] at hLl ⊢
      congr 1
      omega
    · rw [MapI.get_ne _ _ _ _ (Ne.symm nbs)]
      refine (MapI.get_same (S := HH) (α := AObj) _ _ _).trans ?_
      have hfo : (flat byteV (outs st.bs st.rows ((order st.rows).take k))).length = t := by rw [flat_length byte_len]; omega
      have := setAll_app (flat byteV (outs st.bs st.rows ((order st.rows).take k))) (flat byteV (st.bs.drop t) ++ jkb) (flat byteV (chunk st.bs ((a : Int), (n : Int), cnt))) (by rw [hfx, List.length_append, flat_length byte_len, List.length_drop]; omega)
      rw [hfo, hfx] at this
      have e2 : (flat byteV (st.bs.drop t) ++ jkb).drop n = flat byteV (st.bs.drop (t + n)) ++ jkb := by
        rw [List.drop_append_of_le_length (by rw [flat_length byte_len, List.length_drop]; omega), flat_byte, flat_byte, ← List.map_drop, List.drop_drop]
      rw [e2, ← List.append_assoc, ← flat_append] at this
      rw [show 0 + t * (0 + 1) = t from by simp, this, flat_append, flat_append]
      simp only [List.append_assoc]
    · simp
    · refine (MapI.get_same (S := HH) (α := AObj) _ _ _).trans ?_
      exact congrArg (fun x => some (AObj.cells true cl x)) (set_tri0 hstill)
  · refine .inr ⟨ls, cll, jkl, rfl, hls, ?_, hjl⟩
    rw [MapI.get_ne _ _ _ _ (by omega), MapI.get_ne _ _ _ _ (by omega)]
    exact hgl
end Go.Proofs.Ytcenbfjhhaialaa


set_option linter.unusedVariables false
set_option linter.unusedSectionVars false
set_option linter.unusedSimpArgs false
set_option linter.unnecessarySimpa false
namespace Go.Proofs.Ytcenbfjhhaialaa
open Go.Ab
set_option maxRecDepth 10000

/-- The store, slid. -/
def slidSt (st : St) : St := ⟨outs st.bs st.rows (order st.rows), st.most, (slid st.rows (order st.rows)).1, st.live⟩
/-- The store that is granted from. -/
def room (st : St) (n : Int) : St := if (st.bs.length : Int) ≤ st.most - n then st else slidSt st
theorem room_rows (st : St) (n : Int) : (room st n).rows.length = st.rows.length := by
  unfold room slidSt
  split
  · rfl
  · exact slid_length _ _
theorem room_most (st : St) (n : Int) : (room st n).most = st.most := by unfold room slidSt; split <;> rfl
theorem room_live (st : St) (n : Int) : (room st n).live = st.live := by unfold room slidSt; split <;> rfl

set_option maxHeartbeats 4000000 in
theorem grant_full {h : HH} {c p m o n : Nat} {vb vr : V} {st : St} {cap : Cap} {rw' cl' : Bool} {cs : List V} {ys : List Int} (r : StoreAt h c p vb vr st) (hl : Lies st.bs.length st.rows) (htot : st.live = tot st.rows) (hfit : (st.bs.length : Int) ≤ st.most) (hn : 0 < n) (hn2 : n ≤ 1048576) (hy : ys.length = n) (hx : MapI.get h m = some (.cells rw' cl' cs)) (hcut : cut cs o (n * 1) = some (flat byteV ys)) (hm : 0 ≤ st.most ∧ st.most ≤ 1048576)
    (hlive : 0 ≤ st.live ∧ st.live ≤ 1048576) (hyes : st.live ≤ st.most - n) (hlen : st.rows.length ≤ 1000) (hmc : m < c) (hmn : m ∉ p :: (rowName vb ++ rowName vr)) :
    Does 7 [.ptr (some (p, 0)), .slice (some (m, o)) n cap] h c (m :: p :: (rowName vb ++ rowName vr)) fun v h' c' => MapI.get h' m = MapI.get h m ∧ ∃ (i : Nat) (vb' vr' : V) (rows' : List (Int × Int × Int)), v = .tuple [I ((i + 1 : Nat) : Int), .bool true] ∧
      StoreAt h' c' p vb' vr' ⟨(room st n).bs ++ ys, st.most, rows', st.live + n⟩ ∧ (∀ a ∈ rowName vb' ++ rowName vr', a ∈ rowName vb ++ rowName vr ∨ c ≤ a) ∧ i ≤ st.rows.length ∧ (∀ j q, j < i → (room st n).rows[j]? = some q → q.2.2 ≠ 0) ∧
      ((∃ q, (room st n).rows[i]? = some q ∧ q.2.2 = 0 ∧ rows' = (room st n).rows.set i ((room st n).bs.length, n, 1)) ∨ (i = st.rows.length ∧ rows' = (room st n).rows ++ [(((room st n).bs.length : Int), (n : Int), (1 : Int))])) := by
  have hobj := r.obj
  have hlp := r.lp
  have hw : IntKind.i64.wrap (st.most - (n : Int)) = st.most - n := Go.IntWalk.i64_in _ (by omega)
  have hw2 : IntKind.i64.wrap (st.live + (n : Int)) = st.live + n := Go.IntWalk.i64_in _ (by omega)
  have hot := outs_tot hl
  obtain ⟨sb, cb, rfl, _⟩ := r.bytes.shape
  refine does_of (enter (fn := Try.f7) Try.func7 rfl rfl (Nat.le_of_ble_eq_true rfl) ?_)
  repeat' (first | refine WpC.seq ?_ | refine WpC.region ?_ | refine WpC.block ?_ | refine WpO.nil ?_ | refine WpO.cons rfl rfl (WpX.pure (fun _ => rfl) ⟨nolog, ?_⟩) | refine seqQ_normal ?_)
  refine WpC.cond rfl (fun hb => by cases hb) (fun _ => ?_)
  repeat' (first | refine WpC.seq ?_ | refine WpC.region ?_ | refine WpO.nil ?_ | refine WpO.cons rfl rfl (WpX.pure (fun _ => rfl) ⟨nolog, ?_⟩) | refine seqQ_normal ?_)
  refine WpC.cond rfl (fun hb => by simp at hb; omega) (fun _ => ?_)
  repeat' (first | refine WpC.seq ?_ | refine WpC.drawn ?_ | refine WpL.cons rfl rfl (WpX.pure (fun _ => rfl) ⟨nolog, ?_⟩) | refine WpL.cons rfl rfl (op_load rfl rfl rfl hobj rfl ⟨(by simp [InL, Acc.name, rowName] <;> omega), ?_⟩))
  refine WpL.nil (logsOk_of (cs := [0, 1, 3, 7, 0, 16, 48, 112, 0, 256, 1008, 2047, 4095]) (by decide +kernel) ?_) ?_
  · simp +contextual [allP, apP, Dis, acc_rd, acc_wr, accw_rd, accw_wr, Nat.testBit]
  refine WpC.cond rfl (fun hb => by rw [hw] at hb; simp at hb; omega) (fun _ => ?_)
  repeat' (first | refine WpC.seqI (a := Code.seq (Code.region 7 _ _) _) (fun e h1 c1 => (∃ b0, e = MapI.set (MapI.set b0 0 (.ptr (some (p, 0)))) 1 (.slice (some (m, o)) n cap)) ∧ c ≤ c1 ∧ MapI.get h1 m = MapI.get h m ∧ ∃ vb1, rowName vb1 = rowName (.slice sb st.bs.length cb) ∧ StoreAt h1 c1 p vb1 vr (room st n)) ?_ ?_ | refine WpC.seq ?_ | refine WpC.drawn ?_ | refine WpC.skip ?_ | refine WpL.cons rfl rfl (WpX.pure (fun _ => rfl) ⟨nolog, ?_⟩))
  ·
    repeat' (first | refine WpL.cons rfl rfl (WpX.pure (fun _ => rfl) ⟨nolog, ?_⟩) | refine WpL.cons rfl rfl (op_load rfl rfl rfl hobj rfl ⟨(by simp [InL, Acc.name, rowName] <;> omega), ?_⟩))
    refine WpL.nil (logsOk_of (cs := [0, 1, 3, 7, 15, 0, 32, 96, 224, 0, 512, 2016, 4095]) (by decide +kernel) ?_) ?_
    · simp +contextual [allP, apP, Dis, acc_rd, acc_wr, accw_rd, accw_wr, Nat.testBit]
    refine WpC.cond rfl (fun hb => ?_) (fun hb => ?_)
    · rw [hw] at hb
      have hb : (st.bs.length : Int) > st.most - n := by simpa using hb
      have hr : room st n = slidSt st := by unfold room; rw [if_neg (by omega)]
      repeat' (first | refine WpC.region ?_ | refine WpO.cons rfl rfl (WpX.pure (fun _ => rfl) ⟨nolog, ?_⟩))
      refine WpO.cons rfl rfl (call_at rfl (sslide_ok r hlen (by omega) hl) (fun x hx => .inl (List.mem_cons_of_mem _ hx)) (Nat.le_refl _) fun v h4 c4 hc4 hfr4 hq => ?_)
      obtain ⟨rfl, _, vb', hvb, r4⟩ := hq
      repeat' (first | refine WpO.nil ?_ | refine seqQ_normal ?_)
      refine ⟨set2 rfl rfl, hc4, hfr4 m hmc hmn, vb', hvb, ?_⟩
      rw [hr]; exact r4
    · rw [hw] at hb
      have hb : ¬ (st.bs.length : Int) > st.most - n := by simpa using hb
      have hr : room st n = st := by unfold room; rw [if_pos (by omega)]
      repeat' (first | refine WpC.skip ?_ | refine seqQ_normal ?_)
      refine ⟨set2 rfl rfl, Nat.le_refl _, rfl, _, rfl, ?_⟩
      rw [hr]; exact r
  rintro e1 h1 c1 ⟨⟨b1, rfl⟩, hc1, hx1, vb1, hvb1, r1⟩
  have hlen1 : (room st n).rows.length ≤ 1000 := by rw [room_rows]; exact hlen
  have hmost := room_most st n
  have hlv := room_live st n
  have hbs1 : ((room st n).bs.length : Int) ≤ st.most - n := by
    unfold room
    split
    · next h => exact h
    · show ((outs st.bs st.rows (order st.rows)).length : Int) ≤ _
      omega
  have hrl := room_rows st n
  generalize room st n = s1 at r1 hlen1 hmost hlv hbs1 hrl ⊢
  rw [hx] at hx1
  have hmn1 : m ∉ p :: (rowName vb1 ++ rowName vr) := by rw [hvb1]; exact hmn
  have hmc1 : m < c1 := by omega
  obtain ⟨sb1, cb1, rfl, _⟩ := r1.bytes.shape
  repeat' (first | refine WpC.seq ?_ | refine WpC.region ?_ | refine WpO.cons rfl rfl (WpX.pure (fun _ => rfl) ⟨nolog, ?_⟩))
  refine WpO.cons rfl rfl (call_at rfl (free_ok r1 hlen1) (fun x hx => .inl (by simp at hx ⊢; rcases hx with h | h <;> simp [h])) hc1 fun v h4 c4 hc4 hfr4 hq => ?_)
  obtain ⟨i, rfl, hq⟩ := hq
  have key : ∃ vr4 rows4, StoreAt h4 c4 p (.slice sb1 s1.bs.length cb1) vr4 { s1 with rows := rows4 } ∧ (∀ a ∈ rowName vr4, a ∈ rowName vr ∨ c1 ≤ a) ∧ i < rows4.length ∧ i ≤ s1.rows.length ∧ (∀ j q, j < i → s1.rows[j]? = some q → q.2.2 ≠ 0) ∧
      ((∃ q, s1.rows[i]? = some q ∧ q.2.2 = 0 ∧ rows4.set i ((s1.bs.length : Int), (n : Int), (1 : Int)) = s1.rows.set i (s1.bs.length, n, 1)) ∨ (i = s1.rows.length ∧ rows4.set i ((s1.bs.length : Int), (n : Int), (1 : Int)) = s1.rows ++ [((s1.bs.length : Int), (n : Int), (1 : Int))])) := by
    rcases hq with ⟨q, h1, h2, h3, h4⟩ | ⟨rfl, h3, vr4, h4, h5⟩
    · have := (List.getElem?_eq_some_iff.1 h1).1
      exact ⟨vr, s1.rows, h4, fun a ha => .inl ha, this, by omega, h3, .inl ⟨q, h1, h2, rfl⟩⟩
    · exact ⟨vr4, _, h4, h5, by simp, Nat.le_refl _, fun j q hj => h3 j q hj, .inr ⟨rfl, by simp⟩⟩
  obtain ⟨vr4, rows4, r4, hn4, hi4, hil, hbefore, hrows4⟩ := key
  have hobj4 := r4.obj
  obtain ⟨s4, cap4, rfl, hs4⟩ := r4.rows.shape
  obtain ⟨rfl, sn, cl, junk, rfl, hsn, hg4, hj4⟩ := hs4 i hi4
  simp only at hobj4 hg4 hi4
  have hps : p ≠ sn := fun e => r4.nr sn (by simp [rowName]) e.symm
  have hmsn : m ≠ sn := fun e => by
    rcases hn4 sn (by simp [rowName]) with h | h
    · exact hmn (by rw [e]; simp [h])
    · omega
  have hmp : m ≠ p := fun e => hmn (by simp [e])
  have hx4 : MapI.get h4 m = some (.cells rw' cl' cs) := by
    rw [hfr4 m hmc1 (fun hm => hmn (by simp at hm ⊢; rcases hm with h | h <;> simp [h]))]; exact hx1
  have hfl : 0 + ((i : Nat) : Int).toNat * 3 + 3 ≤ (flat tri rows4 ++ junk).length := by
    rw [List.length_append, flat_length tri_len]; simp; omega
  have hLsn : InL (m :: p :: (rowName (.slice sb st.bs.length cb) ++ rowName vr)) c (.wr sn) := by
    rcases hn4 sn (by simp [rowName]) with h | h
    · exact .inl (by simp [acc_wr, h])
    · exact .inr (Nat.le_trans hc1 h)
  have hLsr : InL (m :: p :: (rowName (.slice sb st.bs.length cb) ++ rowName vr)) c (.rd sn) := by
    rcases hn4 sn (by simp [rowName]) with h | h
    · exact .inl (by simp [acc_rd, h])
    · exact .inr (Nat.le_trans hc1 h)
  have hLl : ∀ x ∈ [Acc.rd sn, Acc.wr sn], InL (m :: p :: (rowName (.slice sb st.bs.length cb) ++ rowName vr)) c x := fun x hx => by
    simp at hx; rcases hx with rfl | rfl <;> assumption
  have hr5 := r4.setRow (cl := cl) (junk := junk) (rows' := rows4.set i (s1.bs.length, n, 1)) hsn hj4 (by simp)
  have e5 : setAll (flat tri rows4 ++ junk) (0 + ((i : Nat) : Int).toNat * 3) [I s1.bs.length, I n, I 1] = flat tri (rows4.set i (s1.bs.length, n, 1)) ++ junk := by
    rw [show 0 + ((i : Nat) : Int).toNat * 3 = i * 3 from by simp]; exact set_tri hi4
  rw [← e5] at hr5
  have hobj5 := hr5.obj
  simp only at hobj5
  have hx5 : MapI.get (MapI.set h4 sn (.cells true cl (setAll (flat tri rows4 ++ junk) (0 + ((i : Nat) : Int).toNat * 3) [I s1.bs.length, I n, I 1]))) m = some (.cells rw' cl' cs) := by
    rw [MapI.get_ne _ _ _ _ (Ne.symm hmsn)]; exact hx4
  repeat' (first | refine WpC.seq ?_ | refine WpC.drawn ?_ | refine WpO.nil ?_ | refine WpO.cons rfl rfl (WpX.pure (fun _ => rfl) ⟨nolog, ?_⟩) | refine WpL.cons rfl rfl (WpX.pure (fun _ => rfl) ⟨nolog, ?_⟩) | refine WpL.cons rfl rfl (op_load rfl rfl rfl hobj4 rfl ⟨(by simp [InL, Acc.name, rowName] <;> omega), ?_⟩) | refine WpL.cons rfl rfl (op_indexAddr (k := 3) rfl rfl rfl rfl ⟨by omega, by omega⟩ ⟨(by simp [InL, Acc.name, rowName] <;> omega), ?_⟩) | refine WpL.cons rfl rfl (op_store (k := 3) rfl rfl rfl rfl hg4 hfl rfl ⟨hLl, ?_⟩))
  refine WpL.nil (logsOk_of (cs := [0, 1, 3, 7, 0, 0, 32, 96, 224, 480, 0, 1024, 4064, 8191, 16383]) (by decide +kernel) ?_) ?_
  · simp +contextual [allP, apP, Dis, acc_rd, acc_wr, accw_rd, accw_wr, Nat.testBit, hps]
  repeat' (first | refine WpC.seq ?_ | refine WpC.region ?_ | refine WpO.cons rfl rfl (WpX.pure (fun _ => rfl) ⟨nolog, ?_⟩) | refine WpO.cons rfl rfl (op_load rfl rfl rfl hobj5 rfl ⟨(by simp [InL, Acc.name, rowName] <;> omega), ?_⟩))
  refine WpO.cons rfl rfl (append_at (ys := ys) rfl rfl elB rfl byte_len byte_all hr5.bytes hx5 hcut hy (by simp only; omega) (.inl (by simp [acc_rd])) (fun a ha => by rw [hvb1] at ha; exact ⟨.inl (by simp [acc_rd, ha]), .inl (by simp [acc_wr, ha])⟩) (.inr (by simp [acc_wr]; omega)) fun v6 h6 c6 hl6 hn6 hc6 hf6 => ?_)
  have hone := hl6.one
  have hbp : ∀ a ∈ rowName (.slice sb1 s1.bs.length cb1), a < c4 := r4.bytes.lt
  have hobj6 : MapI.get h6 p = some (.cells true true [.slice sb1 s1.bs.length cb1, I s1.most, .slice (some (sn, 0)) rows4.length (.upTo 3), I s1.live]) := by
    rw [hf6 p (by have := r4.lp; omega) (fun hm => r4.nb p hm rfl)]; exact hobj5
  have hnb6 : ∀ a ∈ rowName v6, a ≠ p := fun a ha e => by
    rcases hn6 a ha with h | ⟨h, _⟩
    · exact r4.nb a h e
    · have := r4.lp; omega
  have hobj7 : MapI.get (MapI.set h6 p (.cells true true (setAll [.slice sb1 s1.bs.length cb1, I s1.most, .slice (some (sn, 0)) rows4.length (.upTo 3), I s1.live] 0 (cellsV v6)))) p = some (.cells true true [v6, I s1.most, .slice (some (sn, 0)) rows4.length (.upTo 3), I s1.live]) := by
    rw [MapI.get_same, hone.1]; rfl
  repeat' (first | refine WpC.seq ?_ | refine WpC.region ?_ | refine WpC.ret ?_ | refine WpO.nil ?_ | refine WpO.cons rfl rfl (WpX.pure (fun _ => rfl) ⟨nolog, ?_⟩) | refine WpO.cons rfl rfl (op_store (k := 1) rfl rfl rfl (by rw [hone.1]; rfl) hobj6 (Nat.le_of_ble_eq_true rfl) (by rw [hone.1]; simp [hone.2]) ⟨(by simp [InL, Acc.name, rowName] <;> omega), ?_⟩) | refine WpO.cons rfl rfl (op_load rfl rfl rfl hobj7 rfl ⟨(by simp [InL, Acc.name, rowName] <;> omega), ?_⟩) | refine WpO.cons rfl rfl (op_store (k := 1) rfl rfl rfl rfl hobj7 (Nat.le_of_ble_eq_true rfl) rfl ⟨(by simp [InL, Acc.name, rowName] <;> omega), ?_⟩))
  have hm6 : m ≠ c4 := by omega
  refine out_ret rfl ⟨?_, i, v6, .slice (some (sn, 0)) rows4.length (.upTo 3), rows4.set i (s1.bs.length, n, 1), ?_, ⟨?_, ?_, ?_, by have := r4.lp; omega, hnb6, r4.nr, ?_⟩, fun a ha => ?_, by omega, hbefore, by rw [← hrl]; exact hrows4⟩
  · rw [MapI.get_ne _ _ _ _ (Ne.symm hmp), MapI.get_ne _ _ _ _ (Ne.symm hmp), hf6 m hm6 (fun hm => hmn1 (List.mem_cons_of_mem _ (List.mem_append_left _ hm)))]
    exact hx5.trans hx.symm
  · have hwi : IntKind.i64.wrap ((i : Int) + 1) = ((i + 1 : Nat) : Int) := by rw [Go.IntWalk.i64_in _ (by omega)]; omega
    show V.tuple [V.int _ _, _] = _
    rw [hwi]
  · refine (MapI.get_same (S := HH) (α := AObj) _ _ _).trans ?_
    show some (AObj.cells true true [v6, I s1.most, .slice (some (sn, 0)) rows4.length (.upTo 3), I (IntKind.i64.wrap (s1.live + n))]) = _
    rw [hlv, hw2, hmost]
  · refine hl6.keep (Nat.le_refl _) fun a _ ha => ?_
    rw [MapI.get_ne _ _ _ _ (Ne.symm (hnb6 a ha)), MapI.get_ne _ _ _ _ (Ne.symm (hnb6 a ha))]
  · refine .inr ⟨sn, cl, junk, by simp, by omega, ?_, hj4⟩
    rw [MapI.get_ne _ _ _ _ hps, MapI.get_ne _ _ _ _ hps, hf6 sn (by omega) (fun hm => r4.br sn hm (by simp [rowName])), MapI.get_same]
    exact congrArg (fun x => some (AObj.cells true cl x)) e5
  · intro a ha hm
    simp [rowName] at hm
    subst hm
    rcases hn6 a ha with h | ⟨h, _⟩
    · exact r4.br a h (by simp [rowName])
    · omega
  · rcases List.mem_append.1 ha with ha | ha
    · rcases hn6 a ha with h | ⟨h, _⟩
      · exact .inl (List.mem_append_left _ (hvb1 ▸ h))
      · exact .inr (by omega)
    · rcases hn4 a ha with h | h
      · exact .inl (List.mem_append_right _ h)
      · exact .inr (Nat.le_trans hc1 h)
end Go.Proofs.Ytcenbfjhhaialaa


set_option linter.unusedVariables false
set_option linter.unusedSectionVars false
set_option linter.unusedSimpArgs false
set_option linter.unnecessarySimpa false
namespace Go.Proofs.Ytcenbfjhhaialaa
open Go.Ab
set_option maxRecDepth 10000

structure Good (st : St) : Prop where
  lies : Lies st.bs.length st.rows
  tot : st.live = tot st.rows
  fit : (st.bs.length : Int) ≤ st.most
  most : 0 ≤ st.most ∧ st.most ≤ 1048576
/-- Row i holds these bytes, so often. -/
def Holds (st : St) (i : Nat) (ys : List Int) (cnt : Int) : Prop := 0 < cnt ∧ ∃ a : Int, st.rows[i]? = some (a, (ys.length : Int), cnt) ∧ chunk st.bs (a, (ys.length : Int), cnt) = ys
theorem chunk_cnt (bs : List Int) (a b c d : Int) : chunk bs (a, b, c) = chunk bs (a, b, d) := rfl
theorem Good.live0 {st : St} (g : Good st) : 0 ≤ st.live ∧ st.live ≤ st.bs.length := by
  have o := order_ord g.lies
  have h1 := o.nonneg g.lies (order st.rows).length
  have h2 := o.fits g.lies (order st.rows).length
  rw [List.take_of_length_le (Nat.le_refl _), order_tot g.lies] at h1 h2
  rw [g.tot]; exact ⟨h1, h2⟩
theorem good_new {most : Int} (h0 : 0 ≤ most) (h1 : most ≤ 1048576) : Good ⟨[], most, [], 0⟩ :=
  ⟨⟨fun i q h => by simp at h, fun i j q p _ h => by simp at h, fun i q h => by simp at h⟩, rfl, h0, h0, h1⟩
theorem good_slid {st : St} (g : Good st) : Good (slidSt st) := by
  have h1 := outs_tot g.lies
  have h2 := g.live0
  have h3 := g.fit
  have h4 := g.tot
  refine ⟨slid_lies g.lies, ?_, ?_, g.most⟩
  · show st.live = tot (slid st.rows (order st.rows)).1
    rw [slid_tot g.lies]; exact g.tot
  · show ((outs st.bs st.rows (order st.rows)).length : Int) ≤ st.most
    omega
theorem slid_len {st : St} (g : Good st) : ((slidSt st).bs.length : Int) = st.live := by
  show ((outs st.bs st.rows (order st.rows)).length : Int) = st.live
  rw [outs_tot g.lies, g.tot]
theorem slid_holds {st : St} (g : Good st) {i : Nat} {ys : List Int} {cnt : Int} (h : Holds st i ys cnt) : Holds (slidSt st) i ys cnt := by
  obtain ⟨h0, a, h1, h2⟩ := h
  obtain ⟨b, h3, h4⟩ := slid_bytes g.lies h1 h0
  exact ⟨h0, b, h3, h4.trans h2⟩
theorem room_good {st : St} (g : Good st) (n : Int) : Good (room st n) := by
  unfold room
  split
  · exact g
  · exact good_slid g
theorem room_holds {st : St} (g : Good st) (n : Int) {i : Nat} {ys : List Int} {cnt : Int} (h : Holds st i ys cnt) : Holds (room st n) i ys cnt := by
  unfold room
  split
  · exact h
  · exact slid_holds g h
theorem room_len {st : St} (g : Good st) {n : Int} (h : st.live ≤ st.most - n) : ((room st n).bs.length : Int) ≤ st.most - n := by
  unfold room
  split
  · assumption
  · rw [slid_len g]; exact h
theorem room_dead {st : St} (n : Int) {i : Nat} {q : R3} (h : (room st n).rows[i]? = some q) : ∃ a, st.rows[i]? = some (a, q.2.1, q.2.2) := by
  unfold room at h
  split at h
  · exact ⟨q.1, h⟩
  · exact slid_of h
theorem chunk_app {bs ys : List Int} {q : R3} (h0 : 0 ≤ q.1) (h : q.1 + q.2.1 ≤ bs.length) : chunk (bs ++ ys) q = chunk bs q := by
  unfold chunk
  by_cases h1 : q.2.1 ≤ 0
  · rw [show q.2.1.toNat = 0 from by omega]; simp
  · rw [List.drop_append_of_le_length (by omega), List.take_append_of_le_length (by rw [List.length_drop]; omega)]
theorem chunk_end (bs ys : List Int) (c : Int) : chunk (bs ++ ys) ((bs.length : Int), (ys.length : Int), c) = ys := by
  unfold chunk
  simp
theorem lies_app {n k : Nat} {rows : List R3} (h : Lies n rows) (hk : n ≤ k) : Lies k rows :=
  ⟨fun i q h1 h2 => by have := h.in_ i q h1 h2; omega, h.ap, h.nn⟩
/-- A free row is taken. -/
theorem good_set {st : St} {i n : Nat} {q : R3} (g : Good st) (hn : 0 < n) (hq : st.rows[i]? = some q) (hq0 : q.2.2 = 0) (ys : List Int) (hy : ys.length = n) (hfit : (st.bs.length : Int) ≤ st.most - n) :
    Good ⟨st.bs ++ ys, st.most, st.rows.set i (st.bs.length, n, 1), st.live + n⟩ := by
  have hl := g.lies
  have hlt := (List.getElem?_eq_some_iff.1 hq).1
  have look : ∀ j p, (st.rows.set i ((st.bs.length : Int), (n : Int), (1 : Int)))[j]? = some p → (j = i ∧ p = ((st.bs.length : Int), (n : Int), (1 : Int))) ∨ (j ≠ i ∧ st.rows[j]? = some p) := fun j p h => by
    rw [List.getElem?_set] at h
    by_cases e : i = j
    · subst e
      rw [if_pos rfl, if_pos hlt] at h
      exact .inl ⟨rfl, (Option.some.inj h).symm⟩
    · rw [if_neg e] at h
      exact .inr ⟨fun x => e x.symm, h⟩
  refine ⟨⟨fun j p h1 h2 => ?_, fun j k p r hjk h1 h2 h3 h4 => ?_, fun j p h1 => ?_⟩, ?_, ?_, g.most⟩
  · simp only [List.length_append]
    rcases look j p h1 with ⟨rfl, rfl⟩ | ⟨_, h⟩
    · simp only; omega
    · have := hl.in_ j p h h2; omega
  · rcases look j p h1 with ⟨e1, rfl⟩ | ⟨hj, u1⟩ <;> rcases look k r h2 with ⟨e2, rfl⟩ | ⟨hk, u2⟩
    · omega
    · have := hl.in_ k r u2 h4; simp only; omega
    · have := hl.in_ j p u1 h3; simp only; omega
    · exact hl.ap j k p r hjk u1 u2 h3 h4
  · rcases look j p h1 with ⟨rfl, rfl⟩ | ⟨_, h⟩
    · simp
    · exact hl.nn j p h
  · show st.live + n = tot _
    rw [tot_set _ hq, ← g.tot, hq0]
    simp
  · simp only [List.length_append]; omega
theorem good_add {st : St} {n : Nat} (g : Good st) (hn : 0 < n) (ys : List Int) (hy : ys.length = n) (hfit : (st.bs.length : Int) ≤ st.most - n) :
    Good ⟨st.bs ++ ys, st.most, st.rows ++ [((st.bs.length : Int), (n : Int), (1 : Int))], st.live + n⟩ := by
  have hl := g.lies
  have look : ∀ j p, (st.rows ++ [((st.bs.length : Int), (n : Int), (1 : Int))])[j]? = some p → (j = st.rows.length ∧ p = ((st.bs.length : Int), (n : Int), (1 : Int))) ∨ (j ≠ st.rows.length ∧ st.rows[j]? = some p) := fun j p h => by
    by_cases e : j < st.rows.length
    · rw [List.getElem?_append_left e] at h
      exact .inr ⟨by omega, h⟩
    · rw [List.getElem?_append_right (by omega)] at h
      obtain ⟨d, hd⟩ : ∃ d, j = st.rows.length + d := ⟨j - st.rows.length, by omega⟩
      subst hd
      rw [Nat.add_sub_cancel_left] at h
      cases d with
      | zero => exact .inl ⟨rfl, by simpa using h.symm⟩
      | succ d => simp at h
  refine ⟨⟨fun j p h1 h2 => ?_, fun j k p r hjk h1 h2 h3 h4 => ?_, fun j p h1 => ?_⟩, ?_, ?_, g.most⟩
  · simp only [List.length_append]
    rcases look j p h1 with ⟨rfl, rfl⟩ | ⟨_, h⟩
    · simp only; omega
    · have := hl.in_ j p h h2; omega
  · rcases look j p h1 with ⟨e1, rfl⟩ | ⟨hj, u1⟩ <;> rcases look k r h2 with ⟨e2, rfl⟩ | ⟨hk, u2⟩
    · omega
    · have := hl.in_ k r u2 h4; simp only; omega
    · have := hl.in_ j p u1 h3; simp only; omega
    · exact hl.ap j k p r hjk u1 u2 h3 h4
  · rcases look j p h1 with ⟨rfl, rfl⟩ | ⟨_, h⟩
    · simp
    · exact hl.nn j p h
  · show st.live + n = tot _
    rw [tot_append, ← g.tot]
    simp [tot]
  · simp only [List.length_append]; omega
theorem holds_set {st : St} {i j : Nat} {q : R3} {ys zs : List Int} {most live cnt : Int} (hl : Lies st.bs.length st.rows) (hq : st.rows[i]? = some q) (hq0 : q.2.2 = 0) (x : R3) (h : Holds st j zs cnt) : Holds ⟨st.bs ++ ys, most, st.rows.set i x, live⟩ j zs cnt := by
  obtain ⟨h0, a, h1, h2⟩ := h
  have hin := hl.in_ j _ h1 h0
  have hji : i ≠ j := fun e => by subst e; rw [hq] at h1; cases h1; simp only at hq0; omega
  refine ⟨h0, a, ?_, ?_⟩
  · show (st.rows.set i x)[j]? = _
    rw [List.getElem?_set, if_neg hji]; exact h1
  · show chunk (st.bs ++ ys) _ = _
    rw [chunk_app hin.1 hin.2.2]; exact h2
theorem holds_add {st : St} {j : Nat} {ys zs : List Int} {most live cnt : Int} (hl : Lies st.bs.length st.rows) (x : R3) (h : Holds st j zs cnt) : Holds ⟨st.bs ++ ys, most, st.rows ++ [x], live⟩ j zs cnt := by
  obtain ⟨h0, a, h1, h2⟩ := h
  have hin := hl.in_ j _ h1 h0
  refine ⟨h0, a, ?_, ?_⟩
  · show (st.rows ++ [x])[j]? = _
    rw [List.getElem?_append_left (List.getElem?_eq_some_iff.1 h1).1]; exact h1
  · show chunk (st.bs ++ ys) _ = _
    rw [chunk_app hin.1 hin.2.2]; exact h2

/-- Grant, of a sound store that has room. -/
theorem grant_good {h : HH} {c p m o n : Nat} {vb vr : V} {st : St} {cap : Cap} {rw' cl' : Bool} {cs : List V} {ys : List Int} (r : StoreAt h c p vb vr st) (g : Good st) (hn : 0 < n) (hn2 : n ≤ 1048576) (hy : ys.length = n) (hx : MapI.get h m = some (.cells rw' cl' cs)) (hcut : cut cs o (n * 1) = some (flat byteV ys))
    (hyes : st.live ≤ st.most - n) (hlen : st.rows.length ≤ 1000) (hmc : m < c) (hmn : m ∉ p :: (rowName vb ++ rowName vr)) :
    Does 7 [.ptr (some (p, 0)), .slice (some (m, o)) n cap] h c (m :: p :: (rowName vb ++ rowName vr)) fun v h' c' => MapI.get h' m = MapI.get h m ∧ ∃ (i : Nat) (vb' vr' : V) (st' : St), v = .tuple [I ((i + 1 : Nat) : Int), .bool true] ∧
      StoreAt h' c' p vb' vr' st' ∧ (∀ a ∈ rowName vb' ++ rowName vr', a ∈ rowName vb ++ rowName vr ∨ c ≤ a) ∧ Good st' ∧ st'.live = st.live + n ∧ st'.most = st.most ∧ st'.rows.length ≤ st.rows.length + 1 ∧ (∀ a zs cnt, st.rows[i]? = some (a, zs, cnt) → cnt = 0) ∧
      Holds st' i ys 1 ∧ (∀ j zs cnt, Holds st j zs cnt → Holds st' j zs cnt) ∧ ((st.bs.length : Int) ≤ st.most - n → ∃ q : R3, st'.rows[i]? = some q ∧ q.1 = st.bs.length) := by
  have hlv := g.live0
  have hfit := g.fit
  have hm := g.most
  refine (grant_full r g.lies g.tot g.fit hn hn2 hy hx hcut g.most ⟨hlv.1, by omega⟩ hyes hlen hmc hmn).mono fun v h' c' _ _ hq => ?_
  obtain ⟨hx', i, vb', vr', rows', rfl, r', hnm, hi, hbefore, hrows⟩ := hq
  have g1 := room_good g n
  have hrl := room_rows st n
  have hrv := room_live st n
  have hrm := room_most st n
  have hlen1 := room_len g hyes
  have ht : ∀ j zs cnt, Holds st j zs cnt → Holds (room st n) j zs cnt := fun j zs cnt h => room_holds g n h
  have hd : ∀ (i : Nat) (q : R3), (room st n).rows[i]? = some q → ∃ a, st.rows[i]? = some (a, q.2.1, q.2.2) := fun i q h => room_dead n h
  have hsame : (st.bs.length : Int) ≤ st.most - n → room st n = st := fun h => by unfold room; rw [if_pos h]
  generalize room st n = s1 at *
  rcases hrows with ⟨q, h1, h2, rfl⟩ | ⟨rfl, rfl⟩
  · refine ⟨hx', i, vb', vr', _, rfl, r', hnm, ?_, rfl, rfl, by simp only [List.length_set]; omega, fun a zs cnt h => ?_, ?_, fun j zs cnt h => ?_, fun h => ⟨((s1.bs.length : Int), (n : Int), (1 : Int)), ?_, ?_⟩⟩
    · have := good_set g1 hn h1 h2 ys hy (by rw [hrm]; exact hlen1)
      rw [hrv, hrm] at this
      exact this
    · obtain ⟨b, hb⟩ := hd i q h1
      rw [h] at hb
      cases hb
      exact h2
    · refine ⟨by decide, s1.bs.length, ?_, ?_⟩
      · have := (List.getElem?_eq_some_iff.1 h1).1
        rw [hy]
        simp [this]
      · exact chunk_end _ _ _
    · exact holds_set g1.lies h1 h2 _ (ht j zs cnt h)
    · have := (List.getElem?_eq_some_iff.1 h1).1
      exact (by simp [this] : (s1.rows.set i ((s1.bs.length : Int), (n : Int), (1 : Int)))[i]? = some ((s1.bs.length : Int), (n : Int), (1 : Int)))
    · rw [hsame h]
  · refine ⟨hx', _, vb', vr', _, rfl, r', hnm, ?_, rfl, rfl, by simp only [List.length_append, List.length_cons, List.length_nil]; omega, fun a zs cnt h => ?_, ?_, fun j zs cnt h => ?_, fun h => ⟨((s1.bs.length : Int), (n : Int), (1 : Int)), ?_, ?_⟩⟩
    · have := good_add g1 hn ys hy (by rw [hrm]; exact hlen1)
      rw [hrv, hrm] at this
      exact this
    · have := (List.getElem?_eq_some_iff.1 h).1
      omega
    · refine ⟨by decide, s1.bs.length, ?_, ?_⟩
      · rw [hy, ← hrl]
        simp
      · exact chunk_end _ _ _
    · exact holds_add g1.lies _ (ht j zs cnt h)
    · rw [← hrl]
      exact (by simp : (s1.rows ++ [((s1.bs.length : Int), (n : Int), (1 : Int))])[s1.rows.length]? = some ((s1.bs.length : Int), (n : Int), (1 : Int)))
    · rw [hsame h]

/-- A row that is held once is let go. -/
theorem good_free {st : St} {i n : Nat} {a : Int} (g : Good st) (hq : st.rows[i]? = some (a, (n : Int), 1)) : Good { st with rows := st.rows.set i (a, (n : Int), 0), live := st.live - n } := by
  have hl := g.lies
  have hlt := (List.getElem?_eq_some_iff.1 hq).1
  have look : ∀ (j : Nat) (p : R3), (st.rows.set i (a, (n : Int), (0 : Int)))[j]? = some p → p = (a, (n : Int), (0 : Int)) ∨ st.rows[j]? = some p := fun j p h => by
    rw [List.getElem?_set] at h
    by_cases e : i = j
    · subst e
      rw [if_pos rfl, if_pos hlt] at h
      exact .inl (Option.some.inj h).symm
    · rw [if_neg e] at h
      exact .inr h
  refine ⟨⟨fun j p h1 h2 => ?_, fun j k p r hjk h1 h2 h3 h4 => ?_, fun j p h1 => ?_⟩, ?_, g.fit, g.most⟩
  · rcases look j p h1 with rfl | u
    · simp at h2
    · exact hl.in_ j p u h2
  · rcases look j p h1 with rfl | u1
    · simp at h3
    · rcases look k r h2 with rfl | u2
      · simp at h4
      · exact hl.ap j k p r hjk u1 u2 h3 h4
  · rcases look j p h1 with rfl | u
    · simp
    · exact hl.nn j p u
  · show st.live - n = tot _
    rw [tot_set _ hq, ← g.tot]
    simp
theorem holds_free {st : St} {i j : Nat} {x : R3} {live cnt : Int} {zs : List Int} (hij : i ≠ j) (h : Holds st j zs cnt) : Holds { st with rows := st.rows.set i x, live := live } j zs cnt := by
  obtain ⟨h0, a, h1, h2⟩ := h
  refine ⟨h0, a, ?_, h2⟩
  show (st.rows.set i x)[j]? = _
  rw [List.getElem?_set, if_neg hij]; exact h1
/-- Drop, of a row that is held once. -/
theorem drop_good {h : HH} {c p i : Nat} {vb vr : V} {st : St} {ys : List Int} (r : StoreAt h c p vb vr st) (g : Good st) (hlen : st.rows.length ≤ 1000) (hh : Holds st i ys 1) :
    Does 34 [.ptr (some (p, 0)), I ((i : Int) + 1)] h c (p :: rowName vr) fun v h' c' => c' = c ∧ v = .bool true ∧ ∃ st', StoreAt h' c p vb vr st' ∧ Good st' ∧ st'.live = st.live - ys.length ∧ st'.most = st.most ∧ st'.rows.length = st.rows.length ∧ (∀ j zs cnt, j ≠ i → Holds st j zs cnt → Holds st' j zs cnt) := by
  obtain ⟨_, a, h1, h2⟩ := hh
  have hlv := g.live0
  have hf := g.fit
  have hm := g.most
  have hin := g.lies.in_ i _ h1 (by show (0 : Int) < 1; decide)
  refine (drop_ok r hlen).mono fun v h' c' _ _ hq => ?_
  obtain ⟨rfl, hq⟩ := hq
  rcases hq with ⟨i', q, he, hq1, hq0, rfl, r'⟩ | ⟨hno, _⟩
  · have : i' = i := by omega
    subst this
    rw [h1] at hq1
    cases hq1
    have hw : IntKind.i64.wrap ((1 : Int) - 1) = 0 := by decide
    have hw2 : IntKind.i64.wrap (st.live - (ys.length : Int)) = st.live - ys.length := Go.IntWalk.i64_in _ (by simp only at hin; omega)
    simp only [hw, if_true, hw2] at r'
    exact ⟨rfl, rfl, _, r', good_free g h1, rfl, rfl, by simp, fun j zs cnt hj hz => holds_free (Ne.symm hj) hz⟩
  · have := hno i _ rfl h1
    simp at this
theorem slide_good {h : HH} {c p : Nat} {vb vr : V} {st : St} (r : StoreAt h c p vb vr st) (g : Good st) (hlen : st.rows.length ≤ 1000) :
    Does 21 [.ptr (some (p, 0))] h c (p :: (rowName vb ++ rowName vr)) fun v h' c' => ∃ vb', rowName vb' = rowName vb ∧ StoreAt h' c' p vb' vr (slidSt st) := by
  have hm := g.most
  have hf := g.fit
  exact (sslide_ok r hlen (by omega) g.lies).mono fun v h' c' _ _ ⟨_, _, q⟩ => q
end Go.Proofs.Ytcenbfjhhaialaa


set_option linter.unusedVariables false
set_option linter.unusedSectionVars false
set_option linter.unusedSimpArgs false
set_option linter.unnecessarySimpa false
namespace Go.Proofs.Ytcenbfjhhaialaa
open Go.Ab
set_option maxRecDepth 10000

theorem snew_any {h : HH} {c : Nat} {most : Int} : Does 5 [I most] h c [] fun v h' c' => v = .ptr (some (c, 0)) ∧ c' = c + 1 ∧ StoreAt h' c' c (.slice none 0 (.known 0)) (.slice none 0 (.known 0)) ⟨[], if most < 0 ∨ most > 1048576 then 0 else most, [], 0⟩ := by
  have fin : ∀ {x : Int}, StoreAt (MapI.set h c (.cells true true [.slice none 0 (.known 0), I x, .slice none 0 (.known 0), I 0])) (c + 1) c (.slice none 0 (.known 0)) (.slice none 0 (.known 0)) ⟨[], x, [], 0⟩ := fun {x} =>
    ⟨MapI.get_same _ _ _, .nil, .nil, Nat.lt_succ_self _, fun n hn => (by cases hn), fun n hn => (by cases hn), fun n hn => by cases hn⟩
  refine does_of (enter (fn := Try.f5) Try.func5 rfl rfl (Nat.le_of_ble_eq_true rfl) ?_)
  by_cases h1 : most < 0
  · have e1 : decide (most < 0) = true := by simpa using h1
    repeat' (first | refine WpC.seq ?_ | refine WpC.region ?_ | refine WpO.nil ?_ | refine WpO.cons rfl rfl (WpX.pure (fun _ => rfl) ⟨nolog, ?_⟩))
    simp only [e1]
    repeat' (first | refine WpO.nil ?_ | refine WpO.cons rfl rfl (WpX.pure (fun _ => rfl) ⟨nolog, ?_⟩) | refine WpO.skip rfl rfl ?_ | refine seqQ_normal ?_)
    refine WpC.cond rfl (fun _ => ?_) (fun hb => by cases hb)
    repeat' (first | refine WpC.seq ?_ | refine WpC.region ?_ | refine WpC.ret ?_ | refine WpO.nil ?_ | refine WpO.cons rfl rfl (WpX.pure (fun _ => rfl) ⟨nolog, ?_⟩) | refine WpO.cons rfl rfl (op_box rfl ⟨(by simp [InL, Acc.name, rowName] <;> omega), ?_⟩))
    rw [if_pos (.inl h1)]
    exact out_ret rfl ⟨rfl, rfl, fin⟩
  have e1 : decide (most < 0) = false := by simpa using h1
  by_cases h2 : most > 1048576
  · have e2 : decide (most > 1048576) = true := by simpa using h2
    repeat' (first | refine WpC.seq ?_ | refine WpC.region ?_ | refine WpO.nil ?_ | refine WpO.cons rfl rfl (WpX.pure (fun _ => rfl) ⟨nolog, ?_⟩))
    simp only [e1]
    repeat' (first | refine WpO.nil ?_ | refine WpO.cons rfl rfl (WpX.pure (fun _ => rfl) ⟨nolog, ?_⟩) | refine seqQ_normal ?_)
    refine WpC.cond rfl (fun _ => ?_) (fun hb => by rw [e2] at hb; cases hb)
    repeat' (first | refine WpC.seq ?_ | refine WpC.region ?_ | refine WpC.ret ?_ | refine WpO.nil ?_ | refine WpO.cons rfl rfl (WpX.pure (fun _ => rfl) ⟨nolog, ?_⟩) | refine WpO.cons rfl rfl (op_box rfl ⟨(by simp [InL, Acc.name, rowName] <;> omega), ?_⟩))
    rw [if_pos (.inr h2)]
    exact out_ret rfl ⟨rfl, rfl, fin⟩
  have e2 : decide (most > 1048576) = false := by simpa using h2
  repeat' (first | refine WpC.seq ?_ | refine WpC.region ?_ | refine WpO.nil ?_ | refine WpO.cons rfl rfl (WpX.pure (fun _ => rfl) ⟨nolog, ?_⟩))
  simp only [e1]
  repeat' (first | refine WpO.nil ?_ | refine WpO.cons rfl rfl (WpX.pure (fun _ => rfl) ⟨nolog, ?_⟩) | refine seqQ_normal ?_)
  refine WpC.cond rfl (fun hb => by rw [e2] at hb; cases hb) (fun _ => ?_)
  repeat' (first | refine WpC.seq ?_ | refine WpC.region ?_ | refine WpC.skip ?_ | refine WpC.ret ?_ | refine WpO.nil ?_ | refine WpO.cons rfl rfl (WpX.pure (fun _ => rfl) ⟨nolog, ?_⟩) | refine WpO.cons rfl rfl (op_box rfl ⟨(by simp [InL, Acc.name, rowName] <;> omega), ?_⟩))
  rw [if_neg (by omega)]
  exact out_ret rfl ⟨rfl, rfl, fin⟩

/-- Check, of a sound store. -/
theorem check_ok {h : HH} {c p : Nat} {vb vr : V} {st : St} (r : StoreAt h c p vb vr st) (g : Good st) (hlen : st.rows.length ≤ 1000) :
    Does 13 [.ptr (some (p, 0))] h c (p :: rowName vr) fun v h' c' => v = .bool true ∧ ∀ n, n < c → MapI.get h' n = MapI.get h n := by
  have hobj := r.obj
  have hlp := r.lp
  have hl := g.lies
  have hgm := g.most
  have hgf := g.fit
  have o := order_ord hl
  obtain ⟨sn, hsn⟩ : ∃ sn, ∀ n ∈ rowName vr, n = sn := by
    rcases r.rows with ⟨rfl, _⟩ | ⟨s, _, _, rfl, _⟩
    · exact ⟨0, fun n hn => by cases hn⟩
    · exact ⟨s, fun n hn => by simpa [rowName] using hn⟩
  have hol : (order st.rows).length ≤ st.rows.length := by
    have := lvs_le st.rows 0
    unfold order
    rw [List.length_map, sort_len]; exact this
  obtain ⟨sb, capb, hvb, _⟩ := r.bytes.shape
  refine does_of (enter (fn := Try.f13) Try.func13 rfl rfl (Nat.le_of_ble_eq_true rfl) ?_)
  subst hvb
  repeat' (first | refine WpC.seq ?_ | refine WpC.region ?_ | refine WpO.nil ?_ | refine WpO.cons rfl rfl (WpX.pure (fun _ => rfl) ⟨nolog, ?_⟩) | refine seqQ_normal ?_)
  refine WpC.cond rfl (fun hb => by cases hb) (fun _ => ?_)
  repeat' (first | refine WpC.seq ?_ | refine WpC.region ?_ | refine WpC.skip ?_ | refine WpO.nil ?_ | refine WpO.cons rfl rfl (WpX.pure (fun _ => rfl) ⟨nolog, ?_⟩))
  refine WpO.cons rfl rfl (call_at rfl (lying_ok r hlen (lies_parted hl) hsn) (fun x hx => .inl hx) (Nat.le_refl _) fun v h4 c4 hc4 hfr4 hq => ?_)
  obtain ⟨hlv, hv, hk⟩ := hq
  have r4 := r.keep hc4 hk
  have hobj4 := r4.obj
  obtain ⟨sl, capl, hvl, _⟩ := hlv.shape
  subst hvl
  repeat' (first | refine WpC.block ?_ | refine WpO.nil ?_ | refine WpO.cons rfl rfl (WpX.pure (fun _ => rfl) ⟨nolog, ?_⟩))
  refine WpC.loop ?_
  refine WpLoop.ind (X := Nat × Int) (fun x e h' c' => (∃ b0, e = MapI.set (MapI.set (MapI.set (MapI.set (MapI.set (MapI.set b0 0 (.ptr (some (p, 0)))) 3 (I x.2)) 4 (I (slid st.rows ((order st.rows).take x.1)).2)) 10 (.slice sl (order st.rows).length capl)) 11 (I (order st.rows).length)) 12 (I x.1)) ∧ x.1 ≤ (order st.rows).length ∧
      0 ≤ x.2 ∧ x.2 ≤ st.bs.length ∧ (∀ (j y : Nat) (q : R3), x.1 ≤ j → (order st.rows)[j]? = some y → st.rows[y]? = some q → x.2 ≤ q.1) ∧ h' = h4 ∧ c' = c4)
    (fun x => (order st.rows).length - x.1) ?_ (0, 0) _ _ _ ⟨set6 rfl rfl rfl rfl rfl rfl, Nat.zero_le _, Int.le_refl _, by simp only; omega, fun j y q _ h1 h2 => by
      obtain ⟨q', h3, h4⟩ := o.row h1
      rw [h2] at h3; cases h3
      exact (hl.in_ y q h2 h4).1, rfl, rfl⟩
  rintro ⟨k, b⟩ e h' c' ⟨⟨b0, rfl⟩, hk0, hb0, hb1, hb2, rfl, rfl⟩
  simp only at hk0 hb0 hb1 hb2
  repeat' (first | refine WpC.seq ?_ | refine WpC.region ?_ | refine WpO.nil ?_ | refine WpO.cons rfl rfl (WpX.pure (fun _ => rfl) ⟨nolog, ?_⟩))
  refine WpC.cond rfl (fun hlt => ?_) (fun hge => ?_)
  case refine_2 =>
    have hge : (order st.rows).length ≤ k := by simpa using hge
    rw [List.take_of_length_le hge, order_tot hl, ← g.tot]
    have e1 : decide (b ≤ (st.bs.length : Int)) = true := by simpa using hb1
    have e3 : decide ((st.bs.length : Int) ≤ st.most) = true := by simpa using hgf
    repeat' (first | refine WpC.seq ?_ | refine WpC.drawn ?_ | refine WpC.exit ?_ | refine WpL.cons rfl rfl (WpX.pure (fun _ => rfl) ⟨nolog, ?_⟩) | refine WpL.cons rfl rfl (op_load rfl rfl rfl hobj4 rfl ⟨(by simp [InL, Acc.name, rowName] <;> omega), ?_⟩))
    simp only [e1]
    repeat' (first | refine WpL.cons rfl rfl (WpX.pure (fun _ => rfl) ⟨nolog, ?_⟩) | refine WpL.cons rfl rfl (op_load rfl rfl rfl hobj4 rfl ⟨(by simp [InL, Acc.name, rowName] <;> omega), ?_⟩))
    simp only [beq_self_eq_true]
    repeat' (first | refine WpL.cons rfl rfl (WpX.pure (fun _ => rfl) ⟨nolog, ?_⟩) | refine WpL.cons rfl rfl (op_load rfl rfl rfl hobj4 rfl ⟨(by simp [InL, Acc.name, rowName] <;> omega), ?_⟩))
    refine WpL.nil (logsOk_of (cs := [0, 0, 2, 6, 14, 30, 63, 127, 255, 255, 767, 1791, 3839, 8191, 16383, 32767, 65535, 131071, 262143, 524287, 1048575, 65535, 2162687, 6356991, 14745599, 33554431, 67108863, 134217727]) (by decide +kernel) ?_) ?_
    · simp +contextual [allP, apP, Dis, acc_rd, acc_wr, accw_rd, accw_wr, Nat.testBit]
    repeat' (first | refine WpC.ret ?_)
    exact out_ret rfl ⟨by show V.bool (decide ((st.bs.length : Int) ≤ st.most)) = _; rw [e3], hk⟩
  have hlt : k < (order st.rows).length := by simpa using hlt
  obtain ⟨i, hi⟩ : ∃ i, (order st.rows)[k]? = some i := ⟨_, List.getElem?_eq_getElem hlt⟩
  obtain ⟨⟨a, n, cnt⟩, hq, hq0⟩ := o.row hi
  have hin := hl.in_ i _ hq hq0
  simp only at hin hq0
  have hba := hb2 k i _ (Nat.le_refl _) hi hq
  simp only at hba
  have hnn := o.nonneg hl k
  have hft := o.fits hl (k + 1)
  have hnx := o.next hl hi hq
  rw [hnx] at hft
  simp only at hft
  have hil := (List.getElem?_eq_some_iff.1 hq).1
  rcases r4.rows with ⟨_, hnil⟩ | ⟨sn', cl, junk, hvr, hsn', hg, hjk⟩
  · have hnil : st.rows = [] := hnil
    rw [hnil] at hil; simp at hil
  subst hvr
  have hsnn : sn' = sn := hsn sn' (by simp [rowName])
  subst hsnn
  rcases hlv with ⟨_, hnil⟩ | ⟨ls, cll, jkl, hvl, hls, hgl, hjl⟩
  · rw [hnil] at hlt; simp at hlt
  injection hvl with e1 e2 e3
  subst e1
  subst e3
  have hcls : c ≤ ls := hv ls (by simp [rowName])
  have hn0 : nth (flat (ptrV sn') (order st.rows) ++ jkl) (0 + ((k : Nat) : Int).toNat * 1) = some (.ptr (some (sn', i * 3))) := by
    have := (nth_flat (ptr_len sn') hi (Nat.lt_succ_self 0) jkl).trans (show nth (ptrV sn' i) 0 = some (.ptr (some (sn', i * 3))) from rfl)
    simpa using this
  have hz0 : nth (flat tri st.rows ++ junk) (i * 3 + 0) = some (I a) := (nth_flat tri_len hq (by omega) junk).trans rfl
  have hz1 : nth (flat tri st.rows ++ junk) (i * 3 + 1) = some (I n) := (nth_flat tri_len hq (by omega) junk).trans rfl
  have hz2 : nth (flat tri st.rows ++ junk) (i * 3 + 2) = some (I cnt) := (nth_flat tri_len hq (by omega) junk).trans rfl
  have f1 : decide (a < b) = false := by simpa using hba
  have f2 : decide (n < 1) = false := by simp; omega
  have f3 : decide (cnt < 1) = false := by simp; omega
  have hw1 : IntKind.i64.wrap (a + n) = a + n := Go.IntWalk.i64_in _ (by omega)
  have hw2 : IntKind.i64.wrap ((slid st.rows ((order st.rows).take k)).2 + n) = (slid st.rows ((order st.rows).take (k + 1))).2 := by rw [hnx, Go.IntWalk.i64_in _ (by omega)]
  have hwk : IntKind.i64.wrap ((k : Int) + 1) = ((k + 1 : Nat) : Int) := by rw [Go.IntWalk.i64_in _ (by omega)]; omega
  repeat' (first | refine WpC.seq ?_ | refine WpC.region ?_ | refine WpC.skip ?_ | refine WpC.block ?_ | refine WpO.nil ?_ | refine WpO.cons rfl rfl (WpX.pure (fun _ => rfl) ⟨nolog, ?_⟩) | refine WpO.cons rfl rfl (op_indexAddr (k := 1) rfl rfl rfl rfl ⟨by omega, by omega⟩ ⟨(by simp [InL, Acc.name, rowName] <;> omega), ?_⟩) | refine WpO.cons rfl rfl (op_load rfl rfl rfl hgl hn0 ⟨(by simp [InL, Acc.name, rowName] <;> omega), ?_⟩) | refine WpO.cons rfl rfl (op_load rfl rfl rfl hg hz0 ⟨(by simp [InL, Acc.name, rowName] <;> omega), ?_⟩))
  simp only [f1]
  repeat' (first | refine WpO.cons rfl rfl (WpX.pure (fun _ => rfl) ⟨nolog, ?_⟩) | refine WpO.cons rfl rfl (op_load rfl rfl rfl hg hz1 ⟨(by simp [InL, Acc.name, rowName] <;> omega), ?_⟩))
  simp only [f2]
  repeat' (first | refine WpO.nil ?_ | refine WpO.cons rfl rfl (WpX.pure (fun _ => rfl) ⟨nolog, ?_⟩) | refine seqQ_normal ?_ | refine WpO.cons rfl rfl (op_load rfl rfl rfl hg hz2 ⟨(by simp [InL, Acc.name, rowName] <;> omega), ?_⟩))
  refine WpC.cond rfl (fun hb => by rw [f3] at hb; cases hb) (fun _ => ?_)
  repeat' (first | refine WpC.drawn ?_ | refine WpC.skip ?_ | refine WpL.cons rfl rfl (WpX.pure (fun _ => rfl) ⟨nolog, ?_⟩) | refine WpL.cons rfl rfl (op_load rfl rfl rfl hg hz0 ⟨(by simp [InL, Acc.name, rowName] <;> omega), ?_⟩) | refine WpL.cons rfl rfl (op_load rfl rfl rfl hg hz1 ⟨(by simp [InL, Acc.name, rowName] <;> omega), ?_⟩))
  refine WpL.nil (logsOk_of (cs := [0, 1, 3, 7, 0, 16, 48, 112, 255, 0, 0, 1024, 3072, 7168, 15872, 511, 65535]) (by decide +kernel) ?_) ?_
  · simp +contextual [allP, apP, Dis, acc_rd, acc_wr, accw_rd, accw_wr, Nat.testBit]
  repeat' (first | refine WpC.region ?_ | refine WpO.nil ?_ | refine WpO.cons rfl rfl (WpX.pure (fun _ => rfl) ⟨nolog, ?_⟩) | refine seqQ_normal ?_)
  refine ⟨(k + 1, a + n), by simp only; omega, ?_, by simp only; omega, by simp only; omega, by simp only; omega, fun j y q hj h1 h2 => ?_, rfl, rfl⟩
  · rw [hw1, hw2, hwk]
    exact set6 rfl rfl rfl rfl rfl rfl
  · simp only at hj
    obtain ⟨a1, a2⟩ := List.getElem?_eq_some_iff.1 hi
    obtain ⟨b1, b2⟩ := List.getElem?_eq_some_iff.1 h1
    exact List.pairwise_iff_getElem.1 o.up k j a1 b1 (by omega) (a, n, cnt) q (by rw [a2]; exact hq) (by rw [b2]; exact h2)
end Go.Proofs.Ytcenbfjhhaialaa
