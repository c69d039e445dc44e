/- The registry's functions: what each does to two maps of ints. -/
import Derived.Test.YtjincciacbfhiaaAd2
set_option linter.unusedVariables false
set_option linter.unusedSectionVars false
set_option linter.unusedSimpArgs false
set_option linter.unnecessarySimpa false
namespace Go.Proofs.Ytjincciacbfhiaa
open Go.Ab

/-- A registry at p: names to processes m, processes to names w. -/
structure NamesAt (h : HH) (c p a b : Nat) (m w : List (Int × Int)) : Prop where
  obj : MapI.get h p = some (.cells true true [.map (some a), .map (some b)])
  fst : MapAt h a m
  snd : MapAt h b w
  pa : p ≠ a
  pb : p ≠ b
  ab : a ≠ b
  lp : p < c
  la : a < c
  lb : b < c

theorem NamesAt.keep {h h' : HH} {c c' p a b : Nat} {m w : List (Int × Int)} (r : NamesAt h c p a b m w) (hc : c ≤ c') (e : ∀ n, n < c → n = p ∨ n = a ∨ n = b → MapI.get h' n = MapI.get h n) : NamesAt h' c' p a b m w :=
  ⟨by rw [e p r.lp (.inl rfl)]; exact r.obj, r.fst.congr (e a r.la (.inr (.inl rfl))), r.snd.congr (e b r.lb (.inr (.inr rfl))), r.pa, r.pb, r.ab, Nat.lt_of_lt_of_le r.lp hc, Nat.lt_of_lt_of_le r.la hc, Nat.lt_of_lt_of_le r.lb hc⟩

set_option maxRecDepth 10000

theorem new_ok {h : HH} {c : Nat} : Does 7 [] h c [] fun v h' c' => v = .ptr (some (c + 2, 0)) ∧ c' = c + 3 ∧ NamesAt h' c' (c + 2) c (c + 1) [] [] := by
  refine does_of (enter (fn := Try.f7) Try.func7 rfl rfl (Nat.le_of_ble_eq_true rfl) ?_)
  repeat' (first
    | refine WpC.seq ?_
    | refine WpC.region ?_
    | refine WpC.drawn ?_
    | refine WpC.skip ?_
    | refine WpC.block ?_
    | refine WpC.exit ?_
    | refine WpC.ret ?_
    | refine WpO.nil ?_
    | refine WpO.cons rfl rfl (WpX.pure (fun _ => rfl) ⟨nolog, ?_⟩)
    | refine WpO.skip rfl rfl ?_
    | refine WpL.cons rfl rfl (WpX.pure (fun _ => rfl) ⟨nolog, ?_⟩)
    | refine WpL.skip rfl rfl ?_
    | refine seqQ_normal ?_
    | refine seqQ_ret ?_
    | refine seqQ_exit ?_
    | refine blkQ_normal ?_
    | refine blkQ_ret ?_
    | refine blkQ_out rfl ?_
    | refine blkQ_by rfl ?_
    | refine WpO.cons rfl rfl (op_makeMap rfl ⟨(by simp [InL, Acc.name, rowName] <;> omega), ?_⟩)
    | refine WpL.cons rfl rfl (op_makeMap rfl ⟨(by simp [InL, Acc.name, rowName] <;> omega), ?_⟩)
    | refine WpO.cons rfl rfl (op_box rfl ⟨(by simp [InL, Acc.name, rowName] <;> omega), ?_⟩)
    | refine WpL.cons rfl rfl (op_box rfl ⟨(by simp [InL, Acc.name, rowName] <;> omega), ?_⟩))
  refine out_ret rfl ⟨rfl, rfl, ?_⟩
  refine ⟨MapI.get_same _ _ _, ⟨[], 0, ?_, .nil 0⟩, ⟨[], 0, ?_, .nil 0⟩, by omega, by omega, by omega, by omega, by omega, by omega⟩
  · rw [MapI.get_ne _ _ _ _ (by omega), MapI.get_ne _ _ _ _ (by omega), MapI.get_same]
  · rw [MapI.get_ne _ _ _ _ (by omega), MapI.get_same]

theorem whereis_ok {h : HH} {c p a b : Nat} {m w : List (Int × Int)} {name : Int} (r : NamesAt h c p a b m w) :
    Does 15 [.ptr (some (p, 0)), I name] h c [p, a, b] fun v h' c' => v = .tuple [I ((m.lookup name).getD 0), .bool (m.lookup name).isSome] ∧ h' = h ∧ c' = c := by
  obtain ⟨es, ck, ha, hm⟩ := r.fst
  obtain ⟨q, hf, hq⟩ := hm.find (k := name)
  have hp := r.obj
  generalize m.lookup name = o at hq ⊢
  refine does_of (enter (fn := Try.f15) Try.func15 rfl rfl (Nat.le_of_ble_eq_true rfl) ?_)
  repeat' (first
    | refine WpC.seq ?_
    | refine WpC.region ?_
    | refine WpC.drawn ?_
    | refine WpC.skip ?_
    | refine WpC.block ?_
    | refine WpC.exit ?_
    | refine WpC.ret ?_
    | refine WpO.nil ?_
    | refine WpO.cons rfl rfl (WpX.pure (fun _ => rfl) ⟨nolog, ?_⟩)
    | refine WpO.skip rfl rfl ?_
    | refine WpL.cons rfl rfl (WpX.pure (fun _ => rfl) ⟨nolog, ?_⟩)
    | refine WpL.skip rfl rfl ?_
    | refine seqQ_normal ?_
    | refine seqQ_ret ?_
    | refine seqQ_exit ?_
    | refine blkQ_normal ?_
    | refine blkQ_ret ?_
    | refine blkQ_out rfl ?_
    | refine blkQ_by rfl ?_)
  refine WpC.cond rfl (fun hb => by cases hb) (fun _ => ?_)
  cases hq
  all_goals
    repeat' (first
      | refine WpC.seq ?_
      | refine WpC.region ?_
      | refine WpC.drawn ?_
      | refine WpC.skip ?_
      | refine WpC.block ?_
      | refine WpC.exit ?_
      | refine WpC.ret ?_
      | refine WpO.nil ?_
      | refine WpO.cons rfl rfl (WpX.pure (fun _ => rfl) ⟨nolog, ?_⟩)
      | refine WpO.skip rfl rfl ?_
      | refine WpL.cons rfl rfl (WpX.pure (fun _ => rfl) ⟨nolog, ?_⟩)
      | refine WpL.skip rfl rfl ?_
      | refine seqQ_normal ?_
      | refine seqQ_ret ?_
      | refine seqQ_exit ?_
      | refine blkQ_normal ?_
      | refine blkQ_ret ?_
      | refine blkQ_out rfl ?_
      | refine blkQ_by rfl ?_
      | refine WpO.cons rfl rfl (op_load rfl rfl rfl hp rfl ⟨(by simp [InL, Acc.name, rowName] <;> omega), ?_⟩)
      | refine WpL.cons rfl rfl (op_load rfl rfl rfl hp rfl ⟨(by simp [InL, Acc.name, rowName] <;> omega), ?_⟩)
      | refine WpO.cons rfl rfl (op_lookup rfl rfl rfl rfl rfl rfl ha hf ⟨(by simp [InL, Acc.name, rowName] <;> omega), ?_⟩)
      | refine WpL.cons rfl rfl (op_lookup rfl rfl rfl rfl rfl rfl ha hf ⟨(by simp [InL, Acc.name, rowName] <;> omega), ?_⟩))
    exact out_ret rfl ⟨rfl, rfl, rfl⟩

theorem name_ok {h : HH} {c p a b : Nat} {m w : List (Int × Int)} {pid : Int} (r : NamesAt h c p a b m w) :
    Does 17 [.ptr (some (p, 0)), I pid] h c [p, a, b] fun v h' c' => v = .tuple [I ((w.lookup pid).getD 0), .bool (w.lookup pid).isSome] ∧ h' = h ∧ c' = c := by
  obtain ⟨es, ck, ha, hm⟩ := r.snd
  obtain ⟨q, hf, hq⟩ := hm.find (k := pid)
  have hp := r.obj
  generalize w.lookup pid = o at hq ⊢
  refine does_of (enter (fn := Try.f17) Try.func17 rfl rfl (Nat.le_of_ble_eq_true rfl) ?_)
  repeat' (first
    | refine WpC.seq ?_
    | refine WpC.region ?_
    | refine WpC.drawn ?_
    | refine WpC.skip ?_
    | refine WpC.block ?_
    | refine WpC.exit ?_
    | refine WpC.ret ?_
    | refine WpO.nil ?_
    | refine WpO.cons rfl rfl (WpX.pure (fun _ => rfl) ⟨nolog, ?_⟩)
    | refine WpO.skip rfl rfl ?_
    | refine WpL.cons rfl rfl (WpX.pure (fun _ => rfl) ⟨nolog, ?_⟩)
    | refine WpL.skip rfl rfl ?_
    | refine seqQ_normal ?_
    | refine seqQ_ret ?_
    | refine seqQ_exit ?_
    | refine blkQ_normal ?_
    | refine blkQ_ret ?_
    | refine blkQ_out rfl ?_
    | refine blkQ_by rfl ?_)
  refine WpC.cond rfl (fun hb => by cases hb) (fun _ => ?_)
  cases hq
  all_goals
    repeat' (first
      | refine WpC.seq ?_
      | refine WpC.region ?_
      | refine WpC.drawn ?_
      | refine WpC.skip ?_
      | refine WpC.block ?_
      | refine WpC.exit ?_
      | refine WpC.ret ?_
      | refine WpO.nil ?_
      | refine WpO.cons rfl rfl (WpX.pure (fun _ => rfl) ⟨nolog, ?_⟩)
      | refine WpO.skip rfl rfl ?_
      | refine WpL.cons rfl rfl (WpX.pure (fun _ => rfl) ⟨nolog, ?_⟩)
      | refine WpL.skip rfl rfl ?_
      | refine seqQ_normal ?_
      | refine seqQ_ret ?_
      | refine seqQ_exit ?_
      | refine blkQ_normal ?_
      | refine blkQ_ret ?_
      | refine blkQ_out rfl ?_
      | refine blkQ_by rfl ?_
      | refine WpO.cons rfl rfl (op_load rfl rfl rfl hp rfl ⟨(by simp [InL, Acc.name, rowName] <;> omega), ?_⟩)
      | refine WpL.cons rfl rfl (op_load rfl rfl rfl hp rfl ⟨(by simp [InL, Acc.name, rowName] <;> omega), ?_⟩)
      | refine WpO.cons rfl rfl (op_lookup rfl rfl rfl rfl rfl rfl ha hf ⟨(by simp [InL, Acc.name, rowName] <;> omega), ?_⟩)
      | refine WpL.cons rfl rfl (op_lookup rfl rfl rfl rfl rfl rfl ha hf ⟨(by simp [InL, Acc.name, rowName] <;> omega), ?_⟩))
    exact out_ret rfl ⟨rfl, rfl, rfl⟩

theorem len_ok {h : HH} {c p a b : Nat} {m w : List (Int × Int)} (r : NamesAt h c p a b m w) :
    Does 14 [.ptr (some (p, 0))] h c [p, a, b] fun v h' c' => v = I m.length ∧ h' = h ∧ c' = c := by
  obtain ⟨es, ck, ha, hm⟩ := r.fst
  have hp := r.obj
  rw [← hm.length]
  refine does_of (enter (fn := Try.f14) Try.func14 rfl rfl (Nat.le_of_ble_eq_true rfl) ?_)
  repeat' (first
    | refine WpC.seq ?_
    | refine WpC.region ?_
    | refine WpC.drawn ?_
    | refine WpC.skip ?_
    | refine WpC.block ?_
    | refine WpC.exit ?_
    | refine WpC.ret ?_
    | refine WpO.nil ?_
    | refine WpO.cons rfl rfl (WpX.pure (fun _ => rfl) ⟨nolog, ?_⟩)
    | refine WpO.skip rfl rfl ?_
    | refine WpL.cons rfl rfl (WpX.pure (fun _ => rfl) ⟨nolog, ?_⟩)
    | refine WpL.skip rfl rfl ?_
    | refine seqQ_normal ?_
    | refine seqQ_ret ?_
    | refine seqQ_exit ?_
    | refine blkQ_normal ?_
    | refine blkQ_ret ?_
    | refine blkQ_out rfl ?_
    | refine blkQ_by rfl ?_)
  refine WpC.cond rfl (fun hb => by cases hb) (fun _ => ?_)
  repeat' (first
    | refine WpC.seq ?_
    | refine WpC.region ?_
    | refine WpC.drawn ?_
    | refine WpC.skip ?_
    | refine WpC.block ?_
    | refine WpC.exit ?_
    | refine WpC.ret ?_
    | refine WpO.nil ?_
    | refine WpO.cons rfl rfl (WpX.pure (fun _ => rfl) ⟨nolog, ?_⟩)
    | refine WpO.skip rfl rfl ?_
    | refine WpL.cons rfl rfl (WpX.pure (fun _ => rfl) ⟨nolog, ?_⟩)
    | refine WpL.skip rfl rfl ?_
    | refine seqQ_normal ?_
    | refine seqQ_ret ?_
    | refine seqQ_exit ?_
    | refine blkQ_normal ?_
    | refine blkQ_ret ?_
    | refine blkQ_out rfl ?_
    | refine blkQ_by rfl ?_
    | refine WpO.cons rfl rfl (op_load rfl rfl rfl hp rfl ⟨(by simp [InL, Acc.name, rowName] <;> omega), ?_⟩)
    | refine WpL.cons rfl rfl (op_load rfl rfl rfl hp rfl ⟨(by simp [InL, Acc.name, rowName] <;> omega), ?_⟩)
    | refine WpO.cons rfl rfl (op_lenMap rfl rfl rfl ha ⟨(by simp [InL, Acc.name, rowName] <;> omega), ?_⟩)
    | refine WpL.cons rfl rfl (op_lenMap rfl rfl rfl ha ⟨(by simp [InL, Acc.name, rowName] <;> omega), ?_⟩))
  exact out_ret rfl ⟨rfl, rfl, rfl⟩

/-- Register: true, and the pair is there; or false, and nothing is turned. -/
theorem register_ok {h : HH} {c p a b : Nat} {m w : List (Int × Int)} {name pid : Int} (r : NamesAt h c p a b m w) :
    Does 8 [.ptr (some (p, 0)), I name, I pid] h c [p, a, b] fun v h' c' => c' = c ∧ ((m.lookup name = none ∧ w.lookup pid = none ∧ v = .bool true ∧ NamesAt h' c p a b (m ++ [(name, pid)]) (w ++ [(pid, name)])) ∨
      (((m.lookup name).isSome = true ∨ (w.lookup pid).isSome = true) ∧ v = .bool false ∧ h' = h)) := by
  obtain ⟨es, ck, ha, hm⟩ := r.fst
  obtain ⟨q, hf, hq⟩ := hm.find (k := name)
  obtain ⟨es', ck', hb, hm'⟩ := r.snd
  obtain ⟨q', hf', hq'⟩ := hm'.find (k := pid)
  have hp := r.obj
  generalize m.lookup name = o at hq ⊢
  generalize w.lookup pid = o' at hq' ⊢
  refine does_of (enter (fn := Try.f8) Try.func8 rfl rfl (Nat.le_of_ble_eq_true rfl) ?_)
  repeat' (first
    | refine WpC.seq ?_
    | refine WpC.region ?_
    | refine WpC.drawn ?_
    | refine WpC.skip ?_
    | refine WpC.block ?_
    | refine WpC.exit ?_
    | refine WpC.ret ?_
    | refine WpO.nil ?_
    | refine WpO.cons rfl rfl (WpX.pure (fun _ => rfl) ⟨nolog, ?_⟩)
    | refine WpO.skip rfl rfl ?_
    | refine WpL.cons rfl rfl (WpX.pure (fun _ => rfl) ⟨nolog, ?_⟩)
    | refine WpL.skip rfl rfl ?_
    | refine seqQ_normal ?_
    | refine seqQ_ret ?_
    | refine seqQ_exit ?_
    | refine blkQ_normal ?_
    | refine blkQ_ret ?_
    | refine blkQ_out rfl ?_
    | refine blkQ_by rfl ?_)
  refine WpC.cond rfl (fun hb => by cases hb) (fun _ => ?_)
  repeat' (first
    | refine WpC.seq ?_
    | refine WpC.region ?_
    | refine WpC.drawn ?_
    | refine WpC.skip ?_
    | refine WpC.block ?_
    | refine WpC.exit ?_
    | refine WpC.ret ?_
    | refine WpO.nil ?_
    | refine WpO.cons rfl rfl (WpX.pure (fun _ => rfl) ⟨nolog, ?_⟩)
    | refine WpO.skip rfl rfl ?_
    | refine WpL.cons rfl rfl (WpX.pure (fun _ => rfl) ⟨nolog, ?_⟩)
    | refine WpL.skip rfl rfl ?_
    | refine seqQ_normal ?_
    | refine seqQ_ret ?_
    | refine seqQ_exit ?_
    | refine blkQ_normal ?_
    | refine blkQ_ret ?_
    | refine blkQ_out rfl ?_
    | refine blkQ_by rfl ?_
    | refine WpO.cons rfl rfl (op_load rfl rfl rfl hp rfl ⟨(by simp [InL, Acc.name, rowName] <;> omega), ?_⟩)
    | refine WpL.cons rfl rfl (op_load rfl rfl rfl hp rfl ⟨(by simp [InL, Acc.name, rowName] <;> omega), ?_⟩))
  refine WpC.cond rfl (fun hb => by cases hb) (fun _ => ?_)
  cases hq <;> cases hq'
  all_goals
    repeat' (first
      | refine WpC.seq ?_
      | refine WpC.region ?_
      | refine WpC.drawn ?_
      | refine WpC.skip ?_
      | refine WpC.block ?_
      | refine WpC.exit ?_
      | refine WpC.ret ?_
      | refine WpO.nil ?_
      | refine WpO.cons rfl rfl (WpX.pure (fun _ => rfl) ⟨nolog, ?_⟩)
      | refine WpO.skip rfl rfl ?_
      | refine WpL.cons rfl rfl (WpX.pure (fun _ => rfl) ⟨nolog, ?_⟩)
      | refine WpL.skip rfl rfl ?_
      | refine seqQ_normal ?_
      | refine seqQ_ret ?_
      | refine seqQ_exit ?_
      | refine blkQ_normal ?_
      | refine blkQ_ret ?_
      | refine blkQ_out rfl ?_
      | refine blkQ_by rfl ?_
      | refine WpO.cons rfl rfl (op_load rfl rfl rfl hp rfl ⟨(by simp [InL, Acc.name, rowName] <;> omega), ?_⟩)
      | refine WpL.cons rfl rfl (op_load rfl rfl rfl hp rfl ⟨(by simp [InL, Acc.name, rowName] <;> omega), ?_⟩)
      | refine WpO.cons rfl rfl (op_lookup rfl rfl rfl rfl rfl rfl ha hf ⟨(by simp [InL, Acc.name, rowName] <;> omega), ?_⟩)
      | refine WpL.cons rfl rfl (op_lookup rfl rfl rfl rfl rfl rfl ha hf ⟨(by simp [InL, Acc.name, rowName] <;> omega), ?_⟩)
      | refine WpO.cons rfl rfl (op_lookup rfl rfl rfl rfl rfl rfl hb hf' ⟨(by simp [InL, Acc.name, rowName] <;> omega), ?_⟩)
      | refine WpL.cons rfl rfl (op_lookup rfl rfl rfl rfl rfl rfl hb hf' ⟨(by simp [InL, Acc.name, rowName] <;> omega), ?_⟩))
  · refine WpC.cond rfl (fun hb => by cases hb) (fun _ => ?_)
    have ha1 : MapI.get (MapI.set h a (.map true (es ++ [(I name, I 0, ck)]) (ck + 1))) a = some (.map true (es ++ [(I name, I 0, ck)]) (ck + 1)) := MapI.get_same _ _ _
    have ab := r.ab
    have hb1 : ∀ x y : AObj, MapI.get (MapI.set (MapI.set h a x) a y) b = some (.map true es' ck') := fun x y => by rw [MapI.get_ne _ _ _ _ ab, MapI.get_ne _ _ _ _ ab]; exact hb
    have hb2 : ∀ (h : HH) (x : AObj), MapI.get (MapI.set h b x) b = some x := fun h x => MapI.get_same _ _ _
    repeat' (first
      | refine WpC.seq ?_
      | refine WpC.region ?_
      | refine WpC.drawn ?_
      | refine WpC.skip ?_
      | refine WpC.block ?_
      | refine WpC.exit ?_
      | refine WpC.ret ?_
      | refine WpO.nil ?_
      | refine WpO.cons rfl rfl (WpX.pure (fun _ => rfl) ⟨nolog, ?_⟩)
      | refine WpO.skip rfl rfl ?_
      | refine WpL.cons rfl rfl (WpX.pure (fun _ => rfl) ⟨nolog, ?_⟩)
      | refine WpL.skip rfl rfl ?_
      | refine seqQ_normal ?_
      | refine seqQ_ret ?_
      | refine seqQ_exit ?_
      | refine blkQ_normal ?_
      | refine blkQ_ret ?_
      | refine blkQ_out rfl ?_
      | refine blkQ_by rfl ?_
      | refine WpO.cons rfl rfl (op_load rfl rfl rfl hp rfl ⟨(by simp [InL, Acc.name, rowName] <;> omega), ?_⟩)
      | refine WpL.cons rfl rfl (op_load rfl rfl rfl hp rfl ⟨(by simp [InL, Acc.name, rowName] <;> omega), ?_⟩)
      | refine WpO.cons rfl rfl (op_mapEntry rfl rfl rfl rfl rfl rfl ha hf ⟨(by simp [InL, Acc.name, rowName] <;> omega), ?_⟩)
      | refine WpL.cons rfl rfl (op_mapEntry rfl rfl rfl rfl rfl rfl ha hf ⟨(by simp [InL, Acc.name, rowName] <;> omega), ?_⟩)
      | refine WpO.cons rfl rfl (op_entryStore rfl rfl rfl ha1 (stamp_last hm.lt) ⟨(by simp [InL, Acc.name, rowName] <;> omega), ?_⟩)
      | refine WpL.cons rfl rfl (op_entryStore rfl rfl rfl ha1 (stamp_last hm.lt) ⟨(by simp [InL, Acc.name, rowName] <;> omega), ?_⟩)
      | refine WpO.cons rfl rfl (op_mapEntry rfl rfl rfl rfl rfl rfl (hb1 _ _) hf' ⟨(by simp [InL, Acc.name, rowName] <;> omega), ?_⟩)
      | refine WpL.cons rfl rfl (op_mapEntry rfl rfl rfl rfl rfl rfl (hb1 _ _) hf' ⟨(by simp [InL, Acc.name, rowName] <;> omega), ?_⟩)
      | refine WpO.cons rfl rfl (op_entryStore rfl rfl rfl (hb2 _ _) (stamp_last hm'.lt) ⟨(by simp [InL, Acc.name, rowName] <;> omega), ?_⟩)
      | refine WpL.cons rfl rfl (op_entryStore rfl rfl rfl (hb2 _ _) (stamp_last hm'.lt) ⟨(by simp [InL, Acc.name, rowName] <;> omega), ?_⟩))
    refine WpL.nil (logsOk_of (cs := [0, 1, 3, 7, 0, 0, 32, 96, 224, 0, 0, 0, 511, 4607, 13823, 30719, 63487, 131071]) (by decide +kernel) ?_) ?_
    · simp [allP, apP, Dis, Acc.name, Acc.writes, Nat.testBit, r.pa, r.pb, r.ab]
    repeat' (first
      | refine WpC.seq ?_
      | refine WpC.region ?_
      | refine WpC.drawn ?_
      | refine WpC.skip ?_
      | refine WpC.block ?_
      | refine WpC.exit ?_
      | refine WpC.ret ?_
      | refine WpO.nil ?_
      | refine WpO.cons rfl rfl (WpX.pure (fun _ => rfl) ⟨nolog, ?_⟩)
      | refine WpO.skip rfl rfl ?_
      | refine WpL.cons rfl rfl (WpX.pure (fun _ => rfl) ⟨nolog, ?_⟩)
      | refine WpL.skip rfl rfl ?_
      | refine seqQ_normal ?_
      | refine seqQ_ret ?_
      | refine seqQ_exit ?_
      | refine blkQ_normal ?_
      | refine blkQ_ret ?_
      | refine blkQ_out rfl ?_
      | refine blkQ_by rfl ?_)
    refine out_ret rfl ⟨rfl, .inl ⟨rfl, rfl, rfl, ?_⟩⟩
    refine ⟨?_, ⟨_, _, ?_, hm.add name pid⟩, ⟨_, _, ?_, hm'.add pid name⟩, r.pa, r.pb, r.ab, r.lp, r.la, r.lb⟩
    · rw [MapI.get_ne _ _ _ _ (Ne.symm r.pb), MapI.get_ne _ _ _ _ (Ne.symm r.pb), MapI.get_ne _ _ _ _ (Ne.symm r.pa), MapI.get_ne _ _ _ _ (Ne.symm r.pa)]; exact hp
    · rw [MapI.get_ne _ _ _ _ (Ne.symm ab), MapI.get_ne _ _ _ _ (Ne.symm ab), MapI.get_same]
    · rw [MapI.get_same]
  all_goals
    refine WpC.cond rfl (fun _ => ?_) (fun hb => by cases hb)
    repeat' (first
      | refine WpC.seq ?_
      | refine WpC.region ?_
      | refine WpC.drawn ?_
      | refine WpC.skip ?_
      | refine WpC.block ?_
      | refine WpC.exit ?_
      | refine WpC.ret ?_
      | refine WpO.nil ?_
      | refine WpO.cons rfl rfl (WpX.pure (fun _ => rfl) ⟨nolog, ?_⟩)
      | refine WpO.skip rfl rfl ?_
      | refine WpL.cons rfl rfl (WpX.pure (fun _ => rfl) ⟨nolog, ?_⟩)
      | refine WpL.skip rfl rfl ?_
      | refine seqQ_normal ?_
      | refine seqQ_ret ?_
      | refine seqQ_exit ?_
      | refine blkQ_normal ?_
      | refine blkQ_ret ?_
      | refine blkQ_out rfl ?_
      | refine blkQ_by rfl ?_)
    exact out_ret rfl ⟨rfl, .inr ⟨by simp, rfl, rfl⟩⟩

/-- Unregister: true, and the pair is gone; or false, and nothing is turned. -/
theorem unregister_ok {h : HH} {c p a b : Nat} {m w : List (Int × Int)} {name : Int} (r : NamesAt h c p a b m w) :
    Does 10 [.ptr (some (p, 0)), I name] h c [p, a, b] fun v h' c' => c' = c ∧ ((m.lookup name = none ∧ v = .bool false ∧ h' = h) ∨
      ∃ pid, m.lookup name = some pid ∧ v = .bool true ∧ NamesAt h' c p a b (era name m) (era pid w)) := by
  have hw := whereis_ok (name := name) r
  obtain ⟨es, ck, ha, hm⟩ := r.fst
  obtain ⟨q, hf, hq⟩ := hm.find (k := name)
  obtain ⟨es', ck', hb, hm'⟩ := r.snd
  have hp := r.obj
  cases ho : m.lookup name with
  | none =>
    rw [ho] at hw
    refine does_of (enter (fn := Try.f10) Try.func10 rfl rfl (Nat.le_of_ble_eq_true rfl) ?_)
    repeat' (first
      | refine WpC.seq ?_
      | refine WpC.region ?_
      | refine WpC.drawn ?_
      | refine WpC.skip ?_
      | refine WpC.block ?_
      | refine WpC.exit ?_
      | refine WpC.ret ?_
      | refine WpO.nil ?_
      | refine WpO.cons rfl rfl (WpX.pure (fun _ => rfl) ⟨nolog, ?_⟩)
      | refine WpO.skip rfl rfl ?_
      | refine WpL.cons rfl rfl (WpX.pure (fun _ => rfl) ⟨nolog, ?_⟩)
      | refine WpL.skip rfl rfl ?_
      | refine seqQ_normal ?_
      | refine seqQ_ret ?_
      | refine seqQ_exit ?_
      | refine blkQ_normal ?_
      | refine blkQ_ret ?_
      | refine blkQ_out rfl ?_
      | refine blkQ_by rfl ?_)
    refine WpO.cons rfl rfl (call_at rfl hw (by simp) (Nat.le_refl _) fun v h' c' hc hfr hq => ?_)
    obtain ⟨rfl, rfl, rfl⟩ := hq
    repeat' (first
      | refine WpC.seq ?_
      | refine WpC.region ?_
      | refine WpC.drawn ?_
      | refine WpC.skip ?_
      | refine WpC.block ?_
      | refine WpC.exit ?_
      | refine WpC.ret ?_
      | refine WpO.nil ?_
      | refine WpO.cons rfl rfl (WpX.pure (fun _ => rfl) ⟨nolog, ?_⟩)
      | refine WpO.skip rfl rfl ?_
      | refine WpL.cons rfl rfl (WpX.pure (fun _ => rfl) ⟨nolog, ?_⟩)
      | refine WpL.skip rfl rfl ?_
      | refine seqQ_normal ?_
      | refine seqQ_ret ?_
      | refine seqQ_exit ?_
      | refine blkQ_normal ?_
      | refine blkQ_ret ?_
      | refine blkQ_out rfl ?_
      | refine blkQ_by rfl ?_)
    refine WpC.cond rfl (fun hb => by cases hb) (fun _ => ?_)
    repeat' (first
      | refine WpC.seq ?_
      | refine WpC.region ?_
      | refine WpC.drawn ?_
      | refine WpC.skip ?_
      | refine WpC.block ?_
      | refine WpC.exit ?_
      | refine WpC.ret ?_
      | refine WpO.nil ?_
      | refine WpO.cons rfl rfl (WpX.pure (fun _ => rfl) ⟨nolog, ?_⟩)
      | refine WpO.skip rfl rfl ?_
      | refine WpL.cons rfl rfl (WpX.pure (fun _ => rfl) ⟨nolog, ?_⟩)
      | refine WpL.skip rfl rfl ?_
      | refine seqQ_normal ?_
      | refine seqQ_ret ?_
      | refine seqQ_exit ?_
      | refine blkQ_normal ?_
      | refine blkQ_ret ?_
      | refine blkQ_out rfl ?_
      | refine blkQ_by rfl ?_)
    exact out_ret rfl ⟨rfl, .inl ⟨rfl, rfl, rfl⟩⟩
  | some pid =>
    rw [ho] at hw
    obtain ⟨q', hf', hq'⟩ := hm'.find (k := pid)
    refine does_of (enter (fn := Try.f10) Try.func10 rfl rfl (Nat.le_of_ble_eq_true rfl) ?_)
    repeat' (first
      | refine WpC.seq ?_
      | refine WpC.region ?_
      | refine WpC.drawn ?_
      | refine WpC.skip ?_
      | refine WpC.block ?_
      | refine WpC.exit ?_
      | refine WpC.ret ?_
      | refine WpO.nil ?_
      | refine WpO.cons rfl rfl (WpX.pure (fun _ => rfl) ⟨nolog, ?_⟩)
      | refine WpO.skip rfl rfl ?_
      | refine WpL.cons rfl rfl (WpX.pure (fun _ => rfl) ⟨nolog, ?_⟩)
      | refine WpL.skip rfl rfl ?_
      | refine seqQ_normal ?_
      | refine seqQ_ret ?_
      | refine seqQ_exit ?_
      | refine blkQ_normal ?_
      | refine blkQ_ret ?_
      | refine blkQ_out rfl ?_
      | refine blkQ_by rfl ?_)
    refine WpO.cons rfl rfl (call_at rfl hw (by simp) (Nat.le_refl _) fun v h' c' hc hfr hq => ?_)
    obtain ⟨rfl, rfl, rfl⟩ := hq
    repeat' (first
      | refine WpC.seq ?_
      | refine WpC.region ?_
      | refine WpC.drawn ?_
      | refine WpC.skip ?_
      | refine WpC.block ?_
      | refine WpC.exit ?_
      | refine WpC.ret ?_
      | refine WpO.nil ?_
      | refine WpO.cons rfl rfl (WpX.pure (fun _ => rfl) ⟨nolog, ?_⟩)
      | refine WpO.skip rfl rfl ?_
      | refine WpL.cons rfl rfl (WpX.pure (fun _ => rfl) ⟨nolog, ?_⟩)
      | refine WpL.skip rfl rfl ?_
      | refine seqQ_normal ?_
      | refine seqQ_ret ?_
      | refine seqQ_exit ?_
      | refine blkQ_normal ?_
      | refine blkQ_ret ?_
      | refine blkQ_out rfl ?_
      | refine blkQ_by rfl ?_)
    refine WpC.cond rfl (fun _ => ?_) (fun hb => by cases hb)
    have hb1 : ∀ x : AObj, MapI.get (MapI.set h' a x) b = some (.map true es' ck') := fun x => by rw [MapI.get_ne _ _ _ _ r.ab]; exact hb
    have hp1 : ∀ x : AObj, MapI.get (MapI.set h' a x) p = some (.cells true true [.map (some a), .map (some b)]) := fun x => by rw [MapI.get_ne _ _ _ _ (Ne.symm r.pa)]; exact hp
    repeat' (first
      | refine WpC.seq ?_
      | refine WpC.region ?_
      | refine WpC.drawn ?_
      | refine WpC.skip ?_
      | refine WpC.block ?_
      | refine WpC.exit ?_
      | refine WpC.ret ?_
      | refine WpO.nil ?_
      | refine WpO.cons rfl rfl (WpX.pure (fun _ => rfl) ⟨nolog, ?_⟩)
      | refine WpO.skip rfl rfl ?_
      | refine WpL.cons rfl rfl (WpX.pure (fun _ => rfl) ⟨nolog, ?_⟩)
      | refine WpL.skip rfl rfl ?_
      | refine seqQ_normal ?_
      | refine seqQ_ret ?_
      | refine seqQ_exit ?_
      | refine blkQ_normal ?_
      | refine blkQ_ret ?_
      | refine blkQ_out rfl ?_
      | refine blkQ_by rfl ?_
      | refine WpO.cons rfl rfl (op_load rfl rfl rfl hp rfl ⟨(by simp [InL, Acc.name, rowName] <;> omega), ?_⟩)
      | refine WpL.cons rfl rfl (op_load rfl rfl rfl hp rfl ⟨(by simp [InL, Acc.name, rowName] <;> omega), ?_⟩)
      | refine WpO.cons rfl rfl (op_delete rfl rfl rfl rfl rfl ha hf ⟨(by simp [InL, Acc.name, rowName] <;> omega), ?_⟩)
      | refine WpL.cons rfl rfl (op_delete rfl rfl rfl rfl rfl ha hf ⟨(by simp [InL, Acc.name, rowName] <;> omega), ?_⟩)
      | refine WpO.cons rfl rfl (op_load rfl rfl rfl (hp1 _) rfl ⟨(by simp [InL, Acc.name, rowName] <;> omega), ?_⟩)
      | refine WpL.cons rfl rfl (op_load rfl rfl rfl (hp1 _) rfl ⟨(by simp [InL, Acc.name, rowName] <;> omega), ?_⟩)
      | refine WpO.cons rfl rfl (op_delete rfl rfl rfl rfl rfl (hb1 _) hf' ⟨(by simp [InL, Acc.name, rowName] <;> omega), ?_⟩)
      | refine WpL.cons rfl rfl (op_delete rfl rfl rfl rfl rfl (hb1 _) hf' ⟨(by simp [InL, Acc.name, rowName] <;> omega), ?_⟩))
    refine out_ret rfl ⟨rfl, .inr ⟨pid, rfl, rfl, ⟨?_, ⟨_, _, ?_, hq.del hm⟩, ⟨_, _, ?_, hq'.del hm'⟩, r.pa, r.pb, r.ab, r.lp, r.la, r.lb⟩⟩⟩
    · rw [MapI.get_ne _ _ _ _ (Ne.symm r.pb)]; exact hp1 _
    · rw [MapI.get_ne _ _ _ _ (Ne.symm r.ab), MapI.get_same]
    · rw [MapI.get_same]

/-- Gone: as Unregister of its name. -/
theorem gone_ok {h : HH} {c p a b : Nat} {m w : List (Int × Int)} {pid : Int} (r : NamesAt h c p a b m w) :
    Does 12 [.ptr (some (p, 0)), I pid] h c [p, a, b] fun v h' c' => c' = c ∧ ((w.lookup pid = none ∧ v = .bool false ∧ h' = h) ∨
      (∃ name, w.lookup pid = some name ∧ ((m.lookup name = none ∧ v = .bool false ∧ h' = h) ∨ ∃ q, m.lookup name = some q ∧ v = .bool true ∧ NamesAt h' c p a b (era name m) (era q w)))) := by
  have hw := name_ok (pid := pid) r
  refine does_of (enter (fn := Try.f12) Try.func12 rfl rfl (Nat.le_of_ble_eq_true rfl) ?_)
  repeat' (first
    | refine WpC.seq ?_
    | refine WpC.region ?_
    | refine WpC.drawn ?_
    | refine WpC.skip ?_
    | refine WpC.block ?_
    | refine WpC.exit ?_
    | refine WpC.ret ?_
    | refine WpO.nil ?_
    | refine WpO.cons rfl rfl (WpX.pure (fun _ => rfl) ⟨nolog, ?_⟩)
    | refine WpO.skip rfl rfl ?_
    | refine WpL.cons rfl rfl (WpX.pure (fun _ => rfl) ⟨nolog, ?_⟩)
    | refine WpL.skip rfl rfl ?_
    | refine seqQ_normal ?_
    | refine seqQ_ret ?_
    | refine seqQ_exit ?_
    | refine blkQ_normal ?_
    | refine blkQ_ret ?_
    | refine blkQ_out rfl ?_
    | refine blkQ_by rfl ?_)
  refine WpO.cons rfl rfl (call_at rfl hw (by simp) (Nat.le_refl _) fun v h' c' hc hfr hq => ?_)
  obtain ⟨rfl, rfl, rfl⟩ := hq
  cases ho : w.lookup pid with
  | none =>
    repeat' (first
      | refine WpC.seq ?_
      | refine WpC.region ?_
      | refine WpC.drawn ?_
      | refine WpC.skip ?_
      | refine WpC.block ?_
      | refine WpC.exit ?_
      | refine WpC.ret ?_
      | refine WpO.nil ?_
      | refine WpO.cons rfl rfl (WpX.pure (fun _ => rfl) ⟨nolog, ?_⟩)
      | refine WpO.skip rfl rfl ?_
      | refine WpL.cons rfl rfl (WpX.pure (fun _ => rfl) ⟨nolog, ?_⟩)
      | refine WpL.skip rfl rfl ?_
      | refine seqQ_normal ?_
      | refine seqQ_ret ?_
      | refine seqQ_exit ?_
      | refine blkQ_normal ?_
      | refine blkQ_ret ?_
      | refine blkQ_out rfl ?_
      | refine blkQ_by rfl ?_)
    exact out_ret rfl ⟨rfl, .inl ⟨rfl, rfl, rfl⟩⟩
  | some name =>
    have hu := unregister_ok (name := name) r
    repeat' (first
      | refine WpC.seq ?_
      | refine WpC.region ?_
      | refine WpC.drawn ?_
      | refine WpC.skip ?_
      | refine WpC.block ?_
      | refine WpC.exit ?_
      | refine WpC.ret ?_
      | refine WpO.nil ?_
      | refine WpO.cons rfl rfl (WpX.pure (fun _ => rfl) ⟨nolog, ?_⟩)
      | refine WpO.skip rfl rfl ?_
      | refine WpL.cons rfl rfl (WpX.pure (fun _ => rfl) ⟨nolog, ?_⟩)
      | refine WpL.skip rfl rfl ?_
      | refine seqQ_normal ?_
      | refine seqQ_ret ?_
      | refine seqQ_exit ?_
      | refine blkQ_normal ?_
      | refine blkQ_ret ?_
      | refine blkQ_out rfl ?_
      | refine blkQ_by rfl ?_)
    refine WpO.cons rfl rfl (call_at rfl hu (by simp) (Nat.le_refl _) fun v h'' c'' hc hfr hq => ?_)
    obtain ⟨rfl, hq⟩ := hq
    rcases hq with ⟨h1, rfl, rfl⟩ | ⟨q, h1, rfl, h2⟩
    ·
      repeat' (first
        | refine WpC.seq ?_
        | refine WpC.region ?_
        | refine WpC.drawn ?_
        | refine WpC.skip ?_
        | refine WpC.block ?_
        | refine WpC.exit ?_
        | refine WpC.ret ?_
        | refine WpO.nil ?_
        | refine WpO.cons rfl rfl (WpX.pure (fun _ => rfl) ⟨nolog, ?_⟩)
        | refine WpO.skip rfl rfl ?_
        | refine WpL.cons rfl rfl (WpX.pure (fun _ => rfl) ⟨nolog, ?_⟩)
        | refine WpL.skip rfl rfl ?_
        | refine seqQ_normal ?_
        | refine seqQ_ret ?_
        | refine seqQ_exit ?_
        | refine blkQ_normal ?_
        | refine blkQ_ret ?_
        | refine blkQ_out rfl ?_
        | refine blkQ_by rfl ?_)
      exact out_ret rfl ⟨rfl, .inr ⟨name, rfl, .inl ⟨h1, rfl, rfl⟩⟩⟩
    ·
      repeat' (first
        | refine WpC.seq ?_
        | refine WpC.region ?_
        | refine WpC.drawn ?_
        | refine WpC.skip ?_
        | refine WpC.block ?_
        | refine WpC.exit ?_
        | refine WpC.ret ?_
        | refine WpO.nil ?_
        | refine WpO.cons rfl rfl (WpX.pure (fun _ => rfl) ⟨nolog, ?_⟩)
        | refine WpO.skip rfl rfl ?_
        | refine WpL.cons rfl rfl (WpX.pure (fun _ => rfl) ⟨nolog, ?_⟩)
        | refine WpL.skip rfl rfl ?_
        | refine seqQ_normal ?_
        | refine seqQ_ret ?_
        | refine seqQ_exit ?_
        | refine blkQ_normal ?_
        | refine blkQ_ret ?_
        | refine blkQ_out rfl ?_
        | refine blkQ_by rfl ?_)
      exact out_ret rfl ⟨rfl, .inr ⟨name, rfl, .inr ⟨q, h1, rfl, h2⟩⟩⟩
end Go.Proofs.Ytjincciacbfhiaa
