/- The heap: what its functions give, of heaps in which no bytes go. -/
/- The heap: collecting. -/
/- The heap: Need, Collect; what is made. -/
/- The heap: what is made. -/
/- The heap: Make. -/
/- Heaps of tuples of noughts. -/
/- Heaps of tuples of noughts: the heap's functions. -/
import Derived.Test.YtempfmkicpifkaaHpD


set_option linter.unusedVariables false
set_option linter.unusedSectionVars false
set_option linter.unusedSimpArgs false
set_option linter.unnecessarySimpa false
namespace Go.Proofs.Ytempfmkicpifkaa
open Go.Ab
set_option maxRecDepth 10000

section
variable {e : EE} {h : HH} {c : Nat} {ds : Option Tmp} {ty : Nat} {pos : String} {af : Array Edge} {gd : Option (Nat × Bool)} {K : V → HH → Nat → List Acc → Prop} {call : Nat → Tgt → List V → M HH V}
theorem op_max {args : Array Operand} {ats : Array Nat} {k : IntKind} {a b z : Int} (ha : evs cx e args.toList = some [.int k a, .int k b]) (hz : (if b > a then b else a) = z) (q : K (.int k z) h c []) :
    WpX (fun n => opM cx (call n) e ⟨ds, .call ⟨.builtin .max, args, ats⟩, ty, pos, af, gd⟩) h c K :=
  WpX.pure (fun k' => by
    subst hz
    show callM cx (call k') e ⟨.builtin .max, args, ats⟩ h c = _
    unfold callM
    simp only [ha]
    refine bnd_eq (l := []) (l' := []) lift_eq ?_
    simp only [builtinM, maxV, maxI, if_true]
    rfl) q
end

/-- The capacity of a heap that holds so much. -/
def roomZ (most n : Int) : Int := min (max (2 * n) 32) most
/-- A heap: its arena, its store, the most words. -/
structure HeapAt (h : HH) (c hp a sp : Nat) (vW : V) (W : List Int) (size most : Int) : Prop where
  obj : MapI.get h hp = some (.cells true true [.ptr (some (a, 0)), .ptr (some (sp, 0)), I most, .bool false])
  ar : ArAt h c a vW W size
  lh : hp < c
  sep : hp ∉ an a vW
  mo : size ≤ most
  m0 : 0 ≤ most
  mx : most ≤ 1048576
abbrev hn (hp a : Nat) (vW : V) : List Nat := hp :: an a vW
section
variable {h h' : HH} {c c' hp a sp : Nat} {vW vR : V} {W R : List Int} {size most : Int} {l : List (Nat × Hd)}
theorem HeapAt.keep (r : HeapAt h c hp a sp vW W size most) (hc : c ≤ c') (e : ∀ n, n < c → n ∈ hn hp a vW → MapI.get h' n = MapI.get h n) : HeapAt h' c' hp a sp vW W size most :=
  ⟨by rw [e hp r.lh (List.mem_cons_self ..)]; exact r.obj, r.ar.keep hc fun n h1 h2 => e n h1 (List.mem_cons_of_mem _ h2), Nat.lt_of_lt_of_le r.lh hc, r.sep, r.mo, r.m0, r.mx⟩
theorem HeapAt.same (r : HeapAt h c hp a sp vW W size most) (hc : c ≤ c') (e : ∀ n, n < c → MapI.get h' n = MapI.get h n) : HeapAt h' c' hp a sp vW W size most := r.keep hc fun n hn _ => e n hn
theorem HeapAt.names (r : HeapAt h c hp a sp vW W size most) : ∀ n ∈ hn hp a vW, n < c := fun n hn => by
  rcases List.mem_cons.1 hn with h | h
  · rw [h]; exact r.lh
  · exact r.ar.names n h

theorem room_ok {n : Int} (ho : MapI.get h hp = some (.cells true true [vW, vR, I most, .bool false])) (hlt : hp < c) (hn : 0 ≤ n ∧ n ≤ 4000000) : DoesR 100 [.ptr (some (hp, 0)), I n] h c [hp] fun v h' c' => v = I (roomZ most n) ∧ h = h' ∧ c = c' := by
  have w2 : IntKind.i64.wrap (2 * n) = 2 * n := Go.IntWalk.i64_in _ (by omega)
  have e1 : (if (32 : Int) > IntKind.i64.wrap (2 * n) then 32 else IntKind.i64.wrap (2 * n)) = max (2 * n) 32 := by rw [w2]; split <;> omega
  have e2 : (if most < max (2 * n) 32 then most else max (2 * n) 32) = roomZ most n := by unfold roomZ; split <;> omega
  refine doesR_of (enter (fn := Try.f100) Try.func100 rfl rfl (Nat.le_of_ble_eq_true rfl) ?_)
  repeat' (first | refine WpO.cons rfl rfl (op_min rfl e2 ⟨nolog, ?_⟩) | refine WpO.cons rfl rfl (op_max rfl e1 ⟨nolog, ?_⟩) | refine WpC.seq ?_ | refine WpC.region ?_ | refine WpC.drawn ?_ | refine WpC.skip ?_ | refine WpC.block ?_ | refine WpC.exit ?_ | refine WpC.ret ?_ | refine WpO.nil ?_ | refine WpO.cons rfl rfl (WpX.pure (fun _ => rfl) ⟨nolog, ?_⟩) | refine WpO.skip rfl rfl ?_ | refine WpL.cons rfl rfl (WpX.pure (fun _ => rfl) ⟨nolog, ?_⟩) | refine WpL.skip rfl rfl ?_ | refine seqQ_normal ?_ | refine seqQ_ret ?_ | refine seqQ_exit ?_ | refine blkQ_normal ?_ | refine blkQ_ret ?_ | refine blkQ_out rfl ?_ | refine blkQ_by rfl ?_ | refine WpO.cons rfl rfl (op_load rfl rfl rfl ho rfl ⟨(by simp [InR, Acc.name, Acc.writes, rowName] <;> omega), ?_⟩) | refine WpL.cons rfl rfl (op_load rfl rfl rfl ho rfl ⟨(by simp [InR, Acc.name, Acc.writes, rowName] <;> omega), ?_⟩))
  exact out_ret rfl ⟨rfl, rfl, rfl⟩
theorem alive_ok (r : HeapAt h c hp a sp vW W size most) : DoesR 101 [.ptr (some (hp, 0))] h c [hp] fun v h' c' => v = .bool true ∧ h = h' ∧ c = c' := by
  have hobj := r.obj
  refine doesR_of (enter (fn := Try.f101) Try.func101 rfl rfl (Nat.le_of_ble_eq_true rfl) ?_)
  repeat' (first | refine WpC.seq ?_ | refine WpC.region ?_ | refine WpC.drawn ?_ | refine WpC.skip ?_ | refine WpC.block ?_ | refine WpC.exit ?_ | refine WpC.ret ?_ | refine WpO.nil ?_ | refine WpO.cons rfl rfl (WpX.pure (fun _ => rfl) ⟨nolog, ?_⟩) | refine WpO.skip rfl rfl ?_ | refine WpL.cons rfl rfl (WpX.pure (fun _ => rfl) ⟨nolog, ?_⟩) | refine WpL.skip rfl rfl ?_ | refine seqQ_normal ?_ | refine seqQ_ret ?_ | refine seqQ_exit ?_ | refine blkQ_normal ?_ | refine blkQ_ret ?_ | refine blkQ_out rfl ?_ | refine blkQ_by rfl ?_ | refine WpO.cons rfl rfl (op_load rfl rfl rfl hobj rfl ⟨(by simp [InR, Acc.name, Acc.writes, rowName] <;> omega), ?_⟩) | refine WpL.cons rfl rfl (op_load rfl rfl rfl hobj rfl ⟨(by simp [InR, Acc.name, Acc.writes, rowName] <;> omega), ?_⟩))
  exact out_ret rfl ⟨rfl, rfl, rfl⟩
theorem arena_ok (r : HeapAt h c hp a sp vW W size most) : DoesR 90 [.ptr (some (hp, 0))] h c [hp] fun v h' c' => v = .ptr (some (a, 0)) ∧ h = h' ∧ c = c' := by
  have hobj := r.obj
  refine doesR_of (enter (fn := Try.f90) Try.func90 rfl rfl (Nat.le_of_ble_eq_true rfl) ?_)
  repeat' (first | refine WpC.seq ?_ | refine WpC.region ?_ | refine WpC.drawn ?_ | refine WpC.skip ?_ | refine WpC.block ?_ | refine WpC.exit ?_ | refine WpC.ret ?_ | refine WpO.nil ?_ | refine WpO.cons rfl rfl (WpX.pure (fun _ => rfl) ⟨nolog, ?_⟩) | refine WpO.skip rfl rfl ?_ | refine WpL.cons rfl rfl (WpX.pure (fun _ => rfl) ⟨nolog, ?_⟩) | refine WpL.skip rfl rfl ?_ | refine seqQ_normal ?_ | refine seqQ_ret ?_ | refine seqQ_exit ?_ | refine blkQ_normal ?_ | refine blkQ_ret ?_ | refine blkQ_out rfl ?_ | refine blkQ_by rfl ?_)
  refine WpC.cond rfl (fun hb => by cases hb) (fun _ => ?_)
  repeat' (first | refine WpC.seq ?_ | refine WpC.region ?_ | refine WpC.drawn ?_ | refine WpC.skip ?_ | refine WpC.block ?_ | refine WpC.exit ?_ | refine WpC.ret ?_ | refine WpO.nil ?_ | refine WpO.cons rfl rfl (WpX.pure (fun _ => rfl) ⟨nolog, ?_⟩) | refine WpO.skip rfl rfl ?_ | refine WpL.cons rfl rfl (WpX.pure (fun _ => rfl) ⟨nolog, ?_⟩) | refine WpL.skip rfl rfl ?_ | refine seqQ_normal ?_ | refine seqQ_ret ?_ | refine seqQ_exit ?_ | refine blkQ_normal ?_ | refine blkQ_ret ?_ | refine blkQ_out rfl ?_ | refine blkQ_by rfl ?_ | refine WpO.cons rfl rfl (op_load rfl rfl rfl hobj rfl ⟨(by simp [InR, Acc.name, Acc.writes, rowName] <;> omega), ?_⟩) | refine WpL.cons rfl rfl (op_load rfl rfl rfl hobj rfl ⟨(by simp [InR, Acc.name, Acc.writes, rowName] <;> omega), ?_⟩))
  exact out_ret rfl ⟨rfl, rfl, rfl⟩
theorem hused_ok (r : HeapAt h c hp a sp vW W size most) : DoesR 39 [.ptr (some (hp, 0))] h c (hn hp a vW) fun v h' c' => v = I W.length ∧ h = h' ∧ c = c' := by
  refine doesR_of (enter (fn := Try.f39) Try.func39 rfl rfl (Nat.le_of_ble_eq_true rfl) ?_)
  repeat' (first | refine WpC.seq ?_ | refine WpC.region ?_ | refine WpC.drawn ?_ | refine WpC.skip ?_ | refine WpC.block ?_ | refine WpC.exit ?_ | refine WpC.ret ?_ | refine WpO.nil ?_ | refine WpO.cons rfl rfl (WpX.pure (fun _ => rfl) ⟨nolog, ?_⟩) | refine WpO.skip rfl rfl ?_ | refine WpL.cons rfl rfl (WpX.pure (fun _ => rfl) ⟨nolog, ?_⟩) | refine WpL.skip rfl rfl ?_ | refine seqQ_normal ?_ | refine seqQ_ret ?_ | refine seqQ_exit ?_ | refine blkQ_normal ?_ | refine blkQ_ret ?_ | refine blkQ_out rfl ?_ | refine blkQ_by rfl ?_)
  refine WpO.cons rfl rfl (call_atRR rfl (arena_ok r) (fun n hn => .inl (by simp at hn; rw [hn]; exact List.mem_cons_self ..)) (Nat.le_refl _) fun v h4 c4 hc4 hfr4 hq => ?_)
  obtain ⟨rfl, rfl, rfl⟩ := hq
  repeat' (first | refine WpC.seq ?_ | refine WpC.region ?_ | refine WpC.drawn ?_ | refine WpC.skip ?_ | refine WpC.block ?_ | refine WpC.exit ?_ | refine WpC.ret ?_ | refine WpO.nil ?_ | refine WpO.cons rfl rfl (WpX.pure (fun _ => rfl) ⟨nolog, ?_⟩) | refine WpO.skip rfl rfl ?_ | refine WpL.cons rfl rfl (WpX.pure (fun _ => rfl) ⟨nolog, ?_⟩) | refine WpL.skip rfl rfl ?_ | refine seqQ_normal ?_ | refine seqQ_ret ?_ | refine seqQ_exit ?_ | refine blkQ_normal ?_ | refine blkQ_ret ?_ | refine blkQ_out rfl ?_ | refine blkQ_by rfl ?_)
  refine WpO.cons rfl rfl (call_atRR rfl (used_ok r.ar) (fun n hn => .inl (List.mem_cons_of_mem _ hn)) (Nat.le_refl _) fun v h4 c4 hc4 hfr4 hq => ?_)
  obtain ⟨rfl, rfl, rfl⟩ := hq
  repeat' (first | refine WpC.seq ?_ | refine WpC.region ?_ | refine WpC.drawn ?_ | refine WpC.skip ?_ | refine WpC.block ?_ | refine WpC.exit ?_ | refine WpC.ret ?_ | refine WpO.nil ?_ | refine WpO.cons rfl rfl (WpX.pure (fun _ => rfl) ⟨nolog, ?_⟩) | refine WpO.skip rfl rfl ?_ | refine WpL.cons rfl rfl (WpX.pure (fun _ => rfl) ⟨nolog, ?_⟩) | refine WpL.skip rfl rfl ?_ | refine seqQ_normal ?_ | refine seqQ_ret ?_ | refine seqQ_exit ?_ | refine blkQ_normal ?_ | refine blkQ_ret ?_ | refine blkQ_out rfl ?_ | refine blkQ_by rfl ?_)
  exact out_ret rfl ⟨rfl, rfl, rfl⟩
theorem hcap_ok (r : HeapAt h c hp a sp vW W size most) : DoesR 40 [.ptr (some (hp, 0))] h c (hn hp a vW) fun v h' c' => v = I size ∧ h = h' ∧ c = c' := by
  refine doesR_of (enter (fn := Try.f40) Try.func40 rfl rfl (Nat.le_of_ble_eq_true rfl) ?_)
  repeat' (first | refine WpC.seq ?_ | refine WpC.region ?_ | refine WpC.drawn ?_ | refine WpC.skip ?_ | refine WpC.block ?_ | refine WpC.exit ?_ | refine WpC.ret ?_ | refine WpO.nil ?_ | refine WpO.cons rfl rfl (WpX.pure (fun _ => rfl) ⟨nolog, ?_⟩) | refine WpO.skip rfl rfl ?_ | refine WpL.cons rfl rfl (WpX.pure (fun _ => rfl) ⟨nolog, ?_⟩) | refine WpL.skip rfl rfl ?_ | refine seqQ_normal ?_ | refine seqQ_ret ?_ | refine seqQ_exit ?_ | refine blkQ_normal ?_ | refine blkQ_ret ?_ | refine blkQ_out rfl ?_ | refine blkQ_by rfl ?_)
  refine WpO.cons rfl rfl (call_atRR rfl (arena_ok r) (fun n hn => .inl (by simp at hn; rw [hn]; exact List.mem_cons_self ..)) (Nat.le_refl _) fun v h4 c4 hc4 hfr4 hq => ?_)
  obtain ⟨rfl, rfl, rfl⟩ := hq
  repeat' (first | refine WpC.seq ?_ | refine WpC.region ?_ | refine WpC.drawn ?_ | refine WpC.skip ?_ | refine WpC.block ?_ | refine WpC.exit ?_ | refine WpC.ret ?_ | refine WpO.nil ?_ | refine WpO.cons rfl rfl (WpX.pure (fun _ => rfl) ⟨nolog, ?_⟩) | refine WpO.skip rfl rfl ?_ | refine WpL.cons rfl rfl (WpX.pure (fun _ => rfl) ⟨nolog, ?_⟩) | refine WpL.skip rfl rfl ?_ | refine seqQ_normal ?_ | refine seqQ_ret ?_ | refine seqQ_exit ?_ | refine blkQ_normal ?_ | refine blkQ_ret ?_ | refine blkQ_out rfl ?_ | refine blkQ_by rfl ?_)
  refine WpO.cons rfl rfl (call_atRR rfl (size_ok r.ar) (fun n hn => .inl (List.mem_cons_of_mem _ hn)) (Nat.le_refl _) fun v h4 c4 hc4 hfr4 hq => ?_)
  obtain ⟨rfl, rfl, rfl⟩ := hq
  repeat' (first | refine WpC.seq ?_ | refine WpC.region ?_ | refine WpC.drawn ?_ | refine WpC.skip ?_ | refine WpC.block ?_ | refine WpC.exit ?_ | refine WpC.ret ?_ | refine WpO.nil ?_ | refine WpO.cons rfl rfl (WpX.pure (fun _ => rfl) ⟨nolog, ?_⟩) | refine WpO.skip rfl rfl ?_ | refine WpL.cons rfl rfl (WpX.pure (fun _ => rfl) ⟨nolog, ?_⟩) | refine WpL.skip rfl rfl ?_ | refine seqQ_normal ?_ | refine seqQ_ret ?_ | refine seqQ_exit ?_ | refine blkQ_normal ?_ | refine blkQ_ret ?_ | refine blkQ_out rfl ?_ | refine blkQ_by rfl ?_)
  exact out_ret rfl ⟨rfl, rfl, rfl⟩

theorem anew_ok {n : Int} (hn : 0 ≤ n ∧ n ≤ 1048576) : Does 99 [I n] h c [] fun v h' c' => v = .ptr (some (c, 0)) ∧ c' = c + 1 ∧ ArAt h' c' c (.slice none 0 (.known 0)) [] n ∧ ∀ m, m < c → MapI.get h' m = MapI.get h m := by
  have e1 : decide (n < 0) = false := by simp; omega
  have e2 : decide (n > 1048576) = false := by simp; omega
  refine does_of (enter (fn := Try.f99) Try.func99 rfl rfl (Nat.le_of_ble_eq_true rfl) ?_)
  repeat' (first | refine WpC.seq ?_ | refine WpC.region ?_ | refine WpC.drawn ?_ | refine WpC.skip ?_ | refine WpC.block ?_ | refine WpC.exit ?_ | refine WpC.ret ?_ | refine WpO.nil ?_ | refine WpO.cons rfl rfl (WpX.pure (fun _ => rfl) ⟨nolog, ?_⟩) | refine WpO.skip rfl rfl ?_ | refine WpL.cons rfl rfl (WpX.pure (fun _ => rfl) ⟨nolog, ?_⟩) | refine WpL.skip rfl rfl ?_ | refine seqQ_normal ?_ | refine seqQ_ret ?_ | refine seqQ_exit ?_ | refine blkQ_normal ?_ | refine blkQ_ret ?_ | refine blkQ_out rfl ?_ | refine blkQ_by rfl ?_)
  simp only [e1]
  repeat' (first | refine WpC.seq ?_ | refine WpC.region ?_ | refine WpC.drawn ?_ | refine WpC.skip ?_ | refine WpC.block ?_ | refine WpC.exit ?_ | refine WpC.ret ?_ | refine WpO.nil ?_ | refine WpO.cons rfl rfl (WpX.pure (fun _ => rfl) ⟨nolog, ?_⟩) | refine WpO.skip rfl rfl ?_ | refine WpL.cons rfl rfl (WpX.pure (fun _ => rfl) ⟨nolog, ?_⟩) | refine WpL.skip rfl rfl ?_ | refine seqQ_normal ?_ | refine seqQ_ret ?_ | refine seqQ_exit ?_ | refine blkQ_normal ?_ | refine blkQ_ret ?_ | refine blkQ_out rfl ?_ | refine blkQ_by rfl ?_)
  refine WpC.cond rfl (fun hb => by rw [show decide (n > 1048576) = false from e2] at hb; cases hb) (fun _ => ?_)
  repeat' (first | refine WpC.seq ?_ | refine WpC.region ?_ | refine WpC.drawn ?_ | refine WpC.skip ?_ | refine WpC.block ?_ | refine WpC.exit ?_ | refine WpC.ret ?_ | refine WpO.nil ?_ | refine WpO.cons rfl rfl (WpX.pure (fun _ => rfl) ⟨nolog, ?_⟩) | refine WpO.skip rfl rfl ?_ | refine WpL.cons rfl rfl (WpX.pure (fun _ => rfl) ⟨nolog, ?_⟩) | refine WpL.skip rfl rfl ?_ | refine seqQ_normal ?_ | refine seqQ_ret ?_ | refine seqQ_exit ?_ | refine blkQ_normal ?_ | refine blkQ_ret ?_ | refine blkQ_out rfl ?_ | refine blkQ_by rfl ?_ | refine WpO.cons rfl rfl (op_box rfl ⟨(by simp [InL, Acc.name, rowName] <;> omega), ?_⟩) | refine WpL.cons rfl rfl (op_box rfl ⟨(by simp [InL, Acc.name, rowName] <;> omega), ?_⟩))
  refine out_ret rfl ⟨rfl, rfl, ⟨MapI.get_same _ _ _, .nil, Nat.lt_succ_self _, fun n hn => (by cases hn), fun x hx => (by cases hx), by simp; omega, by omega⟩, fun m hm => MapI.get_ne _ _ _ _ (by omega)⟩

theorem hnew_ok (hm : 0 ≤ most ∧ most ≤ 1048576) : Does 36 [I most, .ptr (some (sp, 0))] h c [] fun v h' c' => v = .ptr (some (c, 0)) ∧ ∃ a, HeapAt h' c' c a sp (.slice none 0 (.known 0)) [] (min 32 most) most ∧ c < a ∧ ∀ m, m < c → MapI.get h' m = MapI.get h m := by
  have e1 : decide (most < 0) = false := by simp; omega
  have e2 : decide (most > 1048576) = false := by simp; omega
  have hr : roomZ most 0 = min 32 most := by unfold roomZ; omega
  refine does_of (enter (fn := Try.f36) Try.func36 rfl rfl (Nat.le_of_ble_eq_true rfl) ?_)
  repeat' (first | refine WpC.seq ?_ | refine WpC.region ?_ | refine WpC.drawn ?_ | refine WpC.skip ?_ | refine WpC.block ?_ | refine WpC.exit ?_ | refine WpC.ret ?_ | refine WpO.nil ?_ | refine WpO.cons rfl rfl (WpX.pure (fun _ => rfl) ⟨nolog, ?_⟩) | refine WpO.skip rfl rfl ?_ | refine WpL.cons rfl rfl (WpX.pure (fun _ => rfl) ⟨nolog, ?_⟩) | refine WpL.skip rfl rfl ?_ | refine seqQ_normal ?_ | refine seqQ_ret ?_ | refine seqQ_exit ?_ | refine blkQ_normal ?_ | refine blkQ_ret ?_ | refine blkQ_out rfl ?_ | refine blkQ_by rfl ?_)
  simp only [e1]
  repeat' (first | refine WpC.seq ?_ | refine WpC.region ?_ | refine WpC.drawn ?_ | refine WpC.skip ?_ | refine WpC.block ?_ | refine WpC.exit ?_ | refine WpC.ret ?_ | refine WpO.nil ?_ | refine WpO.cons rfl rfl (WpX.pure (fun _ => rfl) ⟨nolog, ?_⟩) | refine WpO.skip rfl rfl ?_ | refine WpL.cons rfl rfl (WpX.pure (fun _ => rfl) ⟨nolog, ?_⟩) | refine WpL.skip rfl rfl ?_ | refine seqQ_normal ?_ | refine seqQ_ret ?_ | refine seqQ_exit ?_ | refine blkQ_normal ?_ | refine blkQ_ret ?_ | refine blkQ_out rfl ?_ | refine blkQ_by rfl ?_)
  refine WpC.cond rfl (fun hb => by rw [show decide (most > 1048576) = false from e2] at hb; cases hb) (fun _ => ?_)
  repeat' (first | refine WpC.seq ?_ | refine WpC.region ?_ | refine WpC.drawn ?_ | refine WpC.skip ?_ | refine WpC.block ?_ | refine WpC.exit ?_ | refine WpC.ret ?_ | refine WpO.nil ?_ | refine WpO.cons rfl rfl (WpX.pure (fun _ => rfl) ⟨nolog, ?_⟩) | refine WpO.skip rfl rfl ?_ | refine WpL.cons rfl rfl (WpX.pure (fun _ => rfl) ⟨nolog, ?_⟩) | refine WpL.skip rfl rfl ?_ | refine seqQ_normal ?_ | refine seqQ_ret ?_ | refine seqQ_exit ?_ | refine blkQ_normal ?_ | refine blkQ_ret ?_ | refine blkQ_out rfl ?_ | refine blkQ_by rfl ?_ | refine WpO.cons rfl rfl (op_box rfl ⟨(by simp [InL, Acc.name, rowName] <;> omega), ?_⟩) | refine WpL.cons rfl rfl (op_box rfl ⟨(by simp [InL, Acc.name, rowName] <;> omega), ?_⟩))
  refine WpO.cons rfl rfl (call_atD rfl (room_ok (MapI.get_same _ _ _) (by omega) (by decide)) (fun n hn => .inr (by simp at hn; omega)) (by omega) fun v4 h4 c4 hc4 _ hq => ?_)
  obtain ⟨rfl, rfl, rfl⟩ := hq
  rw [hr]
  repeat' (first | refine WpC.seq ?_ | refine WpC.region ?_ | refine WpC.drawn ?_ | refine WpC.skip ?_ | refine WpC.block ?_ | refine WpC.exit ?_ | refine WpC.ret ?_ | refine WpO.nil ?_ | refine WpO.cons rfl rfl (WpX.pure (fun _ => rfl) ⟨nolog, ?_⟩) | refine WpO.skip rfl rfl ?_ | refine WpL.cons rfl rfl (WpX.pure (fun _ => rfl) ⟨nolog, ?_⟩) | refine WpL.skip rfl rfl ?_ | refine seqQ_normal ?_ | refine seqQ_ret ?_ | refine seqQ_exit ?_ | refine blkQ_normal ?_ | refine blkQ_ret ?_ | refine blkQ_out rfl ?_ | refine blkQ_by rfl ?_)
  refine WpO.cons rfl rfl (call_at rfl (anew_ok (by omega)) (fun n hn => by cases hn) (by omega) fun v5 h5 c5 hc5 _ hq => ?_)
  obtain ⟨rfl, rfl, hA, hf5⟩ := hq
  have hg5 : MapI.get h5 c = some (.cells true true [.ptr none, .ptr (some (sp, 0)), I most, .bool false]) := by rw [hf5 c (by omega)]; exact MapI.get_same _ _ _
  repeat' (first | refine WpC.seq ?_ | refine WpC.region ?_ | refine WpC.drawn ?_ | refine WpC.skip ?_ | refine WpC.block ?_ | refine WpC.exit ?_ | refine WpC.ret ?_ | refine WpO.nil ?_ | refine WpO.cons rfl rfl (WpX.pure (fun _ => rfl) ⟨nolog, ?_⟩) | refine WpO.skip rfl rfl ?_ | refine WpL.cons rfl rfl (WpX.pure (fun _ => rfl) ⟨nolog, ?_⟩) | refine WpL.skip rfl rfl ?_ | refine seqQ_normal ?_ | refine seqQ_ret ?_ | refine seqQ_exit ?_ | refine blkQ_normal ?_ | refine blkQ_ret ?_ | refine blkQ_out rfl ?_ | refine blkQ_by rfl ?_ | refine WpO.cons rfl rfl (op_store (k := 1) rfl rfl rfl rfl hg5 (Nat.le_of_ble_eq_true rfl) rfl ⟨(by simp [InL, Acc.name, rowName] <;> omega), ?_⟩) | refine WpL.cons rfl rfl (op_store (k := 1) rfl rfl rfl rfl hg5 (Nat.le_of_ble_eq_true rfl) rfl ⟨(by simp [InL, Acc.name, rowName] <;> omega), ?_⟩))
  refine out_ret rfl ⟨rfl, c + 1, ⟨MapI.get_same _ _ _, hA.keep (Nat.le_refl _) fun n hn hm => MapI.get_ne _ _ _ _ ?_, by omega, ?_, by omega, hm.1, hm.2⟩, by omega, fun m hm => ?_⟩
  · rcases List.mem_cons.1 hm with h | h
    · omega
    · cases h
  · intro hh
    rcases List.mem_cons.1 hh with h | h
    · omega
    · cases h
  · rw [MapI.get_ne _ _ _ _ (by omega), hf5 m (by omega)]; exact MapI.get_ne _ _ _ _ (by omega)
end
end Go.Proofs.Ytempfmkicpifkaa


set_option linter.unusedVariables false
set_option linter.unusedSectionVars false
set_option linter.unusedSimpArgs false
set_option linter.unnecessarySimpa false
namespace Go.Proofs.Ytempfmkicpifkaa
open Go.Ab
set_option maxRecDepth 10000

/-- It reads names of the list, and nothing else. -/
def InP (ns : List Nat) : Acc → Prop := fun x => x.name ∈ ns ∧ x.writes = false
def DoesP (f : Nat) (xs : List V) (h : HH) (c : Nat) (ns : List Nat) (Q : V → HH → Nat → Prop) : Prop := WpX (cl f xs) h c fun v h' c' l => (∀ x ∈ l, InP ns x) ∧ Q v h' c'
theorem doesP_of {f : Nat} {xs : List V} {h : HH} {c : Nat} {ns : List Nat} {Q : V → HH → Nat → Prop} (w : WpX (cl f xs) h c fun v h' c' l => (∀ x ∈ l, InP ns x) ∧ Q v h' c') : DoesP f xs h c ns Q := w
theorem call_atP {f : Nat} {args : Array Operand} {ats : Array Nat} {xs : List V} {e : EE} {h : HH} {c c0 : Nat} {ns ms : List Nat} {Q : V → HH → Nat → Prop} {K : V → HH → Nat → List Acc → Prop} {ds : Option Tmp} {ty : Nat} {pos : String} {af : Array Edge} {gd : Option (Nat × Bool)}
    (ha : evs cx e args.toList = some xs) (w : DoesP f xs h c ns Q) (h1 : ∀ n ∈ ns, n ∈ ms ∨ c0 ≤ n)
    (k : ∀ v h' c' al, (∀ x ∈ al, x.writes = false) → Q v h' c' → K v h' c' al) :
    WpX (fun n => opM cx (evFn EE cx pr n) e ⟨ds, .call ⟨.value (.func f), args, ats⟩, ty, pos, af, gd⟩) h c fun v h' c' al => (∀ x ∈ al, InL ms c0 x) ∧ K v h' c' al :=
  op_call (call := fun n => evFn EE cx pr n) ha (WpX.mono w fun v h' c' l ⟨a, q⟩ => ⟨fun x hx => h1 _ (a x hx).1, k v h' c' l (fun x hx => (a x hx).2) q⟩)

section
variable {h h' : HH} {c c' hp a sp : Nat} {vW vR : V} {W R : List Int} {size most : Int} {l : List (Nat × Hd)}
theorem used_okP (r : ArAt h c a vW W size) : DoesP 103 [.ptr (some (a, 0))] h c (an a vW) fun v h' c' => v = I W.length ∧ h = h' ∧ c = c' := by
  have hobj := r.obj
  obtain ⟨s, cap, rfl, hs⟩ := r.w.shape
  refine doesP_of (enter (fn := Try.f103) Try.func103 rfl rfl (Nat.le_of_ble_eq_true rfl) ?_)
  repeat' (first | refine WpC.seq ?_ | refine WpC.region ?_ | refine WpC.drawn ?_ | refine WpC.skip ?_ | refine WpC.block ?_ | refine WpC.exit ?_ | refine WpC.ret ?_ | refine WpO.nil ?_ | refine WpO.cons rfl rfl (WpX.pure (fun _ => rfl) ⟨nolog, ?_⟩) | refine WpO.skip rfl rfl ?_ | refine WpL.cons rfl rfl (WpX.pure (fun _ => rfl) ⟨nolog, ?_⟩) | refine WpL.skip rfl rfl ?_ | refine seqQ_normal ?_ | refine seqQ_ret ?_ | refine seqQ_exit ?_ | refine blkQ_normal ?_ | refine blkQ_ret ?_ | refine blkQ_out rfl ?_ | refine blkQ_by rfl ?_)
  refine WpC.cond rfl (fun hb => by cases hb) (fun _ => ?_)
  repeat' (first | refine WpC.seq ?_ | refine WpC.region ?_ | refine WpC.drawn ?_ | refine WpC.skip ?_ | refine WpC.block ?_ | refine WpC.exit ?_ | refine WpC.ret ?_ | refine WpO.nil ?_ | refine WpO.cons rfl rfl (WpX.pure (fun _ => rfl) ⟨nolog, ?_⟩) | refine WpO.skip rfl rfl ?_ | refine WpL.cons rfl rfl (WpX.pure (fun _ => rfl) ⟨nolog, ?_⟩) | refine WpL.skip rfl rfl ?_ | refine seqQ_normal ?_ | refine seqQ_ret ?_ | refine seqQ_exit ?_ | refine blkQ_normal ?_ | refine blkQ_ret ?_ | refine blkQ_out rfl ?_ | refine blkQ_by rfl ?_ | refine WpO.cons rfl rfl (op_load rfl rfl rfl hobj rfl ⟨(by simp [InP, Acc.name, Acc.writes, rowName]), ?_⟩) | refine WpL.cons rfl rfl (op_load rfl rfl rfl hobj rfl ⟨(by simp [InP, Acc.name, Acc.writes, rowName]), ?_⟩) | refine WpO.cons rfl rfl (op_len rfl rfl rfl ⟨(by simp [InP, Acc.name, Acc.writes, rowName]), ?_⟩) | refine WpL.cons rfl rfl (op_len rfl rfl rfl ⟨(by simp [InP, Acc.name, Acc.writes, rowName]), ?_⟩))
  exact out_ret rfl ⟨rfl, rfl, rfl⟩
theorem size_okP (r : ArAt h c a vW W size) : DoesP 102 [.ptr (some (a, 0))] h c (an a vW) fun v h' c' => v = I size ∧ h = h' ∧ c = c' := by
  have hobj := r.obj
  refine doesP_of (enter (fn := Try.f102) Try.func102 rfl rfl (Nat.le_of_ble_eq_true rfl) ?_)
  repeat' (first | refine WpC.seq ?_ | refine WpC.region ?_ | refine WpC.drawn ?_ | refine WpC.skip ?_ | refine WpC.block ?_ | refine WpC.exit ?_ | refine WpC.ret ?_ | refine WpO.nil ?_ | refine WpO.cons rfl rfl (WpX.pure (fun _ => rfl) ⟨nolog, ?_⟩) | refine WpO.skip rfl rfl ?_ | refine WpL.cons rfl rfl (WpX.pure (fun _ => rfl) ⟨nolog, ?_⟩) | refine WpL.skip rfl rfl ?_ | refine seqQ_normal ?_ | refine seqQ_ret ?_ | refine seqQ_exit ?_ | refine blkQ_normal ?_ | refine blkQ_ret ?_ | refine blkQ_out rfl ?_ | refine blkQ_by rfl ?_)
  refine WpC.cond rfl (fun hb => by cases hb) (fun _ => ?_)
  repeat' (first | refine WpC.seq ?_ | refine WpC.region ?_ | refine WpC.drawn ?_ | refine WpC.skip ?_ | refine WpC.block ?_ | refine WpC.exit ?_ | refine WpC.ret ?_ | refine WpO.nil ?_ | refine WpO.cons rfl rfl (WpX.pure (fun _ => rfl) ⟨nolog, ?_⟩) | refine WpO.skip rfl rfl ?_ | refine WpL.cons rfl rfl (WpX.pure (fun _ => rfl) ⟨nolog, ?_⟩) | refine WpL.skip rfl rfl ?_ | refine seqQ_normal ?_ | refine seqQ_ret ?_ | refine seqQ_exit ?_ | refine blkQ_normal ?_ | refine blkQ_ret ?_ | refine blkQ_out rfl ?_ | refine blkQ_by rfl ?_ | refine WpO.cons rfl rfl (op_load rfl rfl rfl hobj rfl ⟨(by simp [InP, Acc.name, Acc.writes, rowName]), ?_⟩) | refine WpL.cons rfl rfl (op_load rfl rfl rfl hobj rfl ⟨(by simp [InP, Acc.name, Acc.writes, rowName]), ?_⟩))
  exact out_ret rfl ⟨rfl, rfl, rfl⟩
theorem room_okP {n nz : Int} (hnz : nz = n) (ho : MapI.get h hp = some (.cells true true [vW, vR, I most, .bool false])) (hn : 0 ≤ n ∧ n ≤ 4000000) : DoesP 100 [.ptr (some (hp, 0)), I nz] h c [hp] fun v h' c' => v = I (roomZ most n) ∧ h = h' ∧ c = c' := by
  subst hnz
  have w2 : IntKind.i64.wrap (2 * nz) = 2 * nz := Go.IntWalk.i64_in _ (by omega)
  have e1 : (if (32 : Int) > IntKind.i64.wrap (2 * nz) then 32 else IntKind.i64.wrap (2 * nz)) = max (2 * nz) 32 := by rw [w2]; split <;> omega
  have e2 : (if most < max (2 * nz) 32 then most else max (2 * nz) 32) = roomZ most nz := by unfold roomZ; split <;> omega
  refine doesP_of (enter (fn := Try.f100) Try.func100 rfl rfl (Nat.le_of_ble_eq_true rfl) ?_)
  repeat' (first | refine WpO.cons rfl rfl (op_min rfl e2 ⟨nolog, ?_⟩) | refine WpO.cons rfl rfl (op_max rfl e1 ⟨nolog, ?_⟩) | refine WpC.seq ?_ | refine WpC.region ?_ | refine WpC.drawn ?_ | refine WpC.skip ?_ | refine WpC.block ?_ | refine WpC.exit ?_ | refine WpC.ret ?_ | refine WpO.nil ?_ | refine WpO.cons rfl rfl (WpX.pure (fun _ => rfl) ⟨nolog, ?_⟩) | refine WpO.skip rfl rfl ?_ | refine WpL.cons rfl rfl (WpX.pure (fun _ => rfl) ⟨nolog, ?_⟩) | refine WpL.skip rfl rfl ?_ | refine seqQ_normal ?_ | refine seqQ_ret ?_ | refine seqQ_exit ?_ | refine blkQ_normal ?_ | refine blkQ_ret ?_ | refine blkQ_out rfl ?_ | refine blkQ_by rfl ?_ | refine WpO.cons rfl rfl (op_load rfl rfl rfl ho rfl ⟨(by simp [InP, Acc.name, Acc.writes, rowName]), ?_⟩) | refine WpL.cons rfl rfl (op_load rfl rfl rfl ho rfl ⟨(by simp [InP, Acc.name, Acc.writes, rowName]), ?_⟩))
  exact out_ret rfl ⟨rfl, rfl, rfl⟩

/-- What a heap and its roots are. -/
structure HM (h : HH) (c hp a sp : Nat) (vW vR : V) (W R : List Int) (size most : Int) : Prop where
  hm : HeapAt h c hp a sp vW W size most
  rr : RowOf 1 wordV h c vR R
  sep : ∀ n ∈ rowName vR, n ∉ hn hp a vW
  ok : ∀ w ∈ R, okW w
  len : R.length ≤ 100000000
abbrev hmn (hp a : Nat) (vW vR : V) : List Nat := hn hp a vW ++ rowName vR
theorem HM.mem (r : HM h c hp a sp vW vR W R size most) : Mem h c a vW vR W R size :=
  ⟨r.hm.ar, r.rr, fun n hn => ⟨fun e => r.sep n hn (by rw [e]; exact List.mem_cons_of_mem _ (List.mem_cons_self ..)), fun h => r.sep n hn (List.mem_cons_of_mem _ (List.mem_cons_of_mem _ h))⟩, r.ok, r.len⟩
theorem HM.keep (r : HM h c hp a sp vW vR W R size most) (hc : c ≤ c') (e : ∀ n, n < c → n ∈ hmn hp a vW vR → MapI.get h' n = MapI.get h n) : HM h' c' hp a sp vW vR W R size most :=
  ⟨r.hm.keep hc fun n hn hm => e n hn (List.mem_append_left _ hm), r.rr.keep hc fun n hn hm => e n hn (List.mem_append_right _ hm), r.sep, r.ok, r.len⟩
theorem HM.same (r : HM h c hp a sp vW vR W R size most) (hc : c ≤ c') (e : ∀ n, n < c → MapI.get h' n = MapI.get h n) : HM h' c' hp a sp vW vR W R size most := r.keep hc fun n hn _ => e n hn
theorem HM.names (r : HM h c hp a sp vW vR W R size most) : ∀ n ∈ hmn hp a vW vR, n < c := fun n hn => by
  rcases List.mem_append.1 hn with h | h
  · exact r.hm.names n h
  · exact r.rr.lt n h

theorem slid_le (so : SoundW W R l) : (slidW W R l (liveOf W l R)).length ≤ W.length := by
  have := slid_len_le (W0 := W) (R0 := R) (l := l) so.objs (L := liveOf W l R) List.filter_sublist
  omega

set_option maxHeartbeats 1000000 in
theorem collect_ok (r : HM h c hp a sp vW vR W R size most) (so : SoundW W R l) (hg : goneOf W R l l = []) : Does 104 [.ptr (some (hp, 0)), vR] h c (hmn hp a vW vR) fun v h' c' => v = .bool true ∧ ∃ vW', HM h' c' hp a sp vW' vR (slidW W R l (liveOf W l R)) (R.map (mvW W R l)) (roomZ most (slidW W R l (liveOf W l R)).length) most ∧ ∀ n ∈ rowName vW', n ∈ rowName vW := by
  have hobj := r.hm.obj
  have hlh := r.hm.lh
  have hsep := r.hm.sep
  have hsl := slid_le so
  have hmo := r.hm.mo
  have hm0 := r.hm.m0
  have hmx := r.hm.mx
  have hle := r.hm.ar.le
  have hnm := r.names
  have hpn : hp ∉ mn a vW vR := fun hh => by
    rcases List.mem_append.1 hh with h | h
    · exact hsep h
    · exact r.sep hp h (List.mem_cons_self ..)
  have hsub1 : ∀ n ∈ mn a vW vR, n ∈ hmn hp a vW vR ∨ c ≤ n := fun n hn => by
    rcases List.mem_append.1 hn with h | h
    · exact .inl (List.mem_append_left _ (List.mem_cons_of_mem _ h))
    · exact .inl (List.mem_append_right _ h)
  refine does_of (enter (fn := Try.f104) Try.func104 rfl rfl (Nat.le_of_ble_eq_true rfl) ?_)
  repeat' (first | refine WpC.seq ?_ | refine WpC.region ?_ | refine WpC.drawn ?_ | refine WpC.skip ?_ | refine WpC.block ?_ | refine WpC.exit ?_ | refine WpC.ret ?_ | refine WpO.nil ?_ | refine WpO.cons rfl rfl (WpX.pure (fun _ => rfl) ⟨nolog, ?_⟩) | refine WpO.skip rfl rfl ?_ | refine WpL.cons rfl rfl (WpX.pure (fun _ => rfl) ⟨nolog, ?_⟩) | refine WpL.skip rfl rfl ?_ | refine seqQ_normal ?_ | refine seqQ_ret ?_ | refine seqQ_exit ?_ | refine blkQ_normal ?_ | refine blkQ_ret ?_ | refine blkQ_out rfl ?_ | refine blkQ_by rfl ?_ | refine WpO.cons rfl rfl (op_load rfl rfl rfl hobj rfl ⟨(by simp [InL, Acc.name, rowName] <;> omega), ?_⟩) | refine WpL.cons rfl rfl (op_load rfl rfl rfl hobj rfl ⟨(by simp [InL, Acc.name, rowName] <;> omega), ?_⟩))
  refine WpO.cons rfl rfl (call_at rfl (slide_ok r.mem so) hsub1 (Nat.le_refl _) fun v2 h2 c2 hc2 hf2 hq => ?_)
  obtain ⟨vG, mv, vW', rfl, r2, hn2, hG2, hGn⟩ := hq
  rw [hg] at hG2
  obtain ⟨sG, capG, rfl, _⟩ := hG2.shape
  have hobj2 : MapI.get h2 hp = _ := (hf2 hp hlh hpn).trans hobj
  have hobj3 : ∀ {o q : AObj}, MapI.get (MapI.set (MapI.set h2 c2 o) c2 q) hp = _ := fun {o q} => (show MapI.get (MapI.set (MapI.set h2 c2 o) c2 q) hp = MapI.get h2 hp from by rw [MapI.get_ne _ _ _ _ (by omega), MapI.get_ne _ _ _ _ (by omega)]).trans hobj2
  have r3 : ∀ o q, Mem (MapI.set (MapI.set h2 c2 o) c2 q) (c2 + 1) a vW' vR (slidW W R l (liveOf W l R)) (R.map (mvW W R l)) size := fun o q => r2.same (by omega) fun n hn => by
    rw [MapI.get_ne _ _ _ _ (by omega), MapI.get_ne _ _ _ _ (by omega)]
  have hg3 : ∀ {o q : AObj}, MapI.get (MapI.set (MapI.set h2 c2 o) c2 q) c2 = some q := MapI.get_same _ _ _
  repeat' (first | refine WpC.seq ?_ | refine WpC.region ?_ | refine WpC.drawn ?_ | refine WpC.skip ?_ | refine WpC.block ?_ | refine WpC.exit ?_ | refine WpC.ret ?_ | refine WpO.nil ?_ | refine WpO.cons rfl rfl (WpX.pure (fun _ => rfl) ⟨nolog, ?_⟩) | refine WpO.skip rfl rfl ?_ | refine WpL.cons rfl rfl (WpX.pure (fun _ => rfl) ⟨nolog, ?_⟩) | refine WpL.skip rfl rfl ?_ | refine seqQ_normal ?_ | refine seqQ_ret ?_ | refine seqQ_exit ?_ | refine blkQ_normal ?_ | refine blkQ_ret ?_ | refine blkQ_out rfl ?_ | refine blkQ_by rfl ?_ | refine WpO.cons rfl rfl (op_alloc rfl ⟨(by simp [InL, Acc.name, rowName] <;> omega), ?_⟩) | refine WpL.cons rfl rfl (op_alloc rfl ⟨(by simp [InL, Acc.name, rowName] <;> omega), ?_⟩) | refine WpO.cons rfl rfl (op_store (k := 3) rfl rfl rfl rfl (MapI.get_same _ _ _) (Nat.le_of_ble_eq_true rfl) rfl ⟨(by simp [InL, Acc.name, rowName] <;> omega), ?_⟩) | refine WpL.cons rfl rfl (op_store (k := 3) rfl rfl rfl rfl (MapI.get_same _ _ _) (Nat.le_of_ble_eq_true rfl) rfl ⟨(by simp [InL, Acc.name, rowName] <;> omega), ?_⟩))
  refine WpC.cond rfl (fun hb => by cases hb) (fun _ => ?_)
  repeat' (first | refine WpC.seq ?_ | refine WpC.region ?_ | refine WpC.drawn ?_ | refine WpC.skip ?_ | refine WpC.block ?_ | refine WpC.exit ?_ | refine WpC.ret ?_ | refine WpO.nil ?_ | refine WpO.cons rfl rfl (WpX.pure (fun _ => rfl) ⟨nolog, ?_⟩) | refine WpO.skip rfl rfl ?_ | refine WpL.cons rfl rfl (WpX.pure (fun _ => rfl) ⟨nolog, ?_⟩) | refine WpL.skip rfl rfl ?_ | refine seqQ_normal ?_ | refine seqQ_ret ?_ | refine seqQ_exit ?_ | refine blkQ_normal ?_ | refine blkQ_ret ?_ | refine blkQ_out rfl ?_ | refine blkQ_by rfl ?_ | refine WpO.cons rfl rfl (op_load rfl rfl rfl hg3 rfl ⟨(by simp [InL, Acc.name, rowName] <;> omega), ?_⟩) | refine WpL.cons rfl rfl (op_load rfl rfl rfl hg3 rfl ⟨(by simp [InL, Acc.name, rowName] <;> omega), ?_⟩) | refine WpO.cons rfl rfl (op_len rfl rfl rfl ⟨(by simp [InL, Acc.name, rowName] <;> omega), ?_⟩) | refine WpL.cons rfl rfl (op_len rfl rfl rfl ⟨(by simp [InL, Acc.name, rowName] <;> omega), ?_⟩))
  refine WpC.loop ?_
  refine WpLoop.step ?_
  repeat' (first | refine WpC.seq ?_ | refine WpC.region ?_ | refine WpC.drawn ?_ | refine WpC.skip ?_ | refine WpC.block ?_ | refine WpC.exit ?_ | refine WpC.ret ?_ | refine WpO.nil ?_ | refine WpO.cons rfl rfl (WpX.pure (fun _ => rfl) ⟨nolog, ?_⟩) | refine WpO.skip rfl rfl ?_ | refine WpL.cons rfl rfl (WpX.pure (fun _ => rfl) ⟨nolog, ?_⟩) | refine WpL.skip rfl rfl ?_ | refine seqQ_normal ?_ | refine seqQ_ret ?_ | refine seqQ_exit ?_ | refine blkQ_normal ?_ | refine blkQ_ret ?_ | refine blkQ_out rfl ?_ | refine blkQ_by rfl ?_)
  refine WpC.cond rfl (fun hb => by cases hb) (fun _ => ?_)
  have hsubA : ∀ n ∈ an a vW', n ∈ hmn hp a vW vR ∨ c ≤ n := fun n hn => by
    rcases List.mem_cons.1 hn with h | h
    · exact .inl (List.mem_append_left _ (List.mem_cons_of_mem _ (by rw [h]; exact List.mem_cons_self ..)))
    · exact .inl (List.mem_append_left _ (List.mem_cons_of_mem _ (List.mem_cons_of_mem _ (hn2 n h))))
  repeat' (first | refine WpC.seq ?_ | refine WpC.region ?_ | refine WpC.drawn ?_ | refine WpC.skip ?_ | refine WpC.block ?_ | refine WpC.exit ?_ | refine WpC.ret ?_ | refine WpO.nil ?_ | refine WpO.cons rfl rfl (WpX.pure (fun _ => rfl) ⟨nolog, ?_⟩) | refine WpO.skip rfl rfl ?_ | refine WpL.cons rfl rfl (WpX.pure (fun _ => rfl) ⟨nolog, ?_⟩) | refine WpL.skip rfl rfl ?_ | refine seqQ_normal ?_ | refine seqQ_ret ?_ | refine seqQ_exit ?_ | refine blkQ_normal ?_ | refine blkQ_ret ?_ | refine blkQ_out rfl ?_ | refine blkQ_by rfl ?_ | refine WpO.cons rfl rfl (op_load rfl rfl rfl hobj3 rfl ⟨(by simp [InL, Acc.name, rowName] <;> omega), ?_⟩) | refine WpL.cons rfl rfl (op_load rfl rfl rfl hobj3 rfl ⟨(by simp [InL, Acc.name, rowName] <;> omega), ?_⟩) | refine WpO.cons rfl rfl (op_load rfl rfl rfl hg3 rfl ⟨(by simp [InL, Acc.name, rowName] <;> omega), ?_⟩) | refine WpL.cons rfl rfl (op_load rfl rfl rfl hg3 rfl ⟨(by simp [InL, Acc.name, rowName] <;> omega), ?_⟩))
  refine WpL.cons rfl rfl (call_atP rfl (room_okP (n := ((slidW W R l (liveOf W l R)).length : Int)) rfl hobj3 (by omega)) (fun n hn => .inl (by simp at hn; rw [hn]; exact List.mem_append_left _ (List.mem_cons_self ..))) fun v4 h4 c4 al4 hal4 hq => ?_)
  obtain ⟨rfl, rfl, rfl⟩ := hq
  refine WpL.cons rfl rfl (call_atL rfl (cut_ok (r3 _ _).ar (m := (slidW W R l (liveOf W l R)).length) rfl (Nat.le_refl _) (by unfold roomZ; omega) (by unfold roomZ; omega)) hsubA (by omega) fun v5 h5 c5 al5 hal5 hc5 hf5 hq => ?_)
  obtain ⟨rfl, rfl, vW'', hA, hn5⟩ := hq
  have hal4' : ∀ x ∈ al4, x.writes = false := hal4
  refine WpL.nil (logsOk_of (cs := [0, 1, 3, 7, 0, 16, 0, 0, 128, 448, 1023]) (by decide +kernel) ?_) ?_
  · simp +contextual [allP, apP, Dis, acc_rd, acc_wr, accw_rd, accw_wr, Nat.testBit, hal4']
  repeat' (first | refine WpC.seq ?_ | refine WpC.region ?_ | refine WpC.drawn ?_ | refine WpC.skip ?_ | refine WpC.block ?_ | refine WpC.exit ?_ | refine WpC.ret ?_ | refine WpO.nil ?_ | refine WpO.cons rfl rfl (WpX.pure (fun _ => rfl) ⟨nolog, ?_⟩) | refine WpO.skip rfl rfl ?_ | refine WpL.cons rfl rfl (WpX.pure (fun _ => rfl) ⟨nolog, ?_⟩) | refine WpL.skip rfl rfl ?_ | refine seqQ_normal ?_ | refine seqQ_ret ?_ | refine seqQ_exit ?_ | refine blkQ_normal ?_ | refine blkQ_ret ?_ | refine blkQ_out rfl ?_ | refine blkQ_by rfl ?_)
  rw [List.take_length] at hA
  have hsub2 : ∀ n ∈ rowName vW'', n ∈ rowName vW := fun n hn => hn2 n (hn5 n hn)
  have hpa : hp ∉ an a vW' := fun hh => hsep (by
    rcases List.mem_cons.1 hh with h | h
    · rw [h]; exact List.mem_cons_self ..
    · exact List.mem_cons_of_mem _ (hn2 _ h))
  refine out_ret rfl ⟨rfl, vW'', ⟨⟨?_, hA, by omega, fun hh => hpa (by
    rcases List.mem_cons.1 hh with h | h
    · rw [h]; exact List.mem_cons_self ..
    · exact List.mem_cons_of_mem _ (hn5 _ h)), by unfold roomZ; omega, hm0, hmx⟩, (r3 _ _).rr.keep (Nat.le_refl _) fun n hn hm => hf5 n hn fun hh => ?_, fun n hn hh => ?_, (r3 (.dead) (.dead)).ok, (r3 (.dead) (.dead)).len⟩, hsub2⟩
  · rw [hf5 hp (by omega) hpa]; exact hobj3
  · rcases List.mem_cons.1 hh with h | h
    · exact (r2.sep n hm).1 h
    · exact (r2.sep n hm).2 h
  · refine r.sep n hn ?_
    rcases List.mem_cons.1 hh with h | h
    · rw [h]; exact List.mem_cons_self ..
    · rcases List.mem_cons.1 h with h | h
      · rw [h]; exact List.mem_cons_of_mem _ (List.mem_cons_self ..)
      · exact List.mem_cons_of_mem _ (List.mem_cons_of_mem _ (hsub2 n h))
end
end Go.Proofs.Ytempfmkicpifkaa


set_option linter.unusedVariables false
set_option linter.unusedSectionVars false
set_option linter.unusedSimpArgs false
set_option linter.unnecessarySimpa false
namespace Go.Proofs.Ytempfmkicpifkaa
open Go.Ab
set_option maxRecDepth 10000

section
variable {h h' : HH} {c c' hp a sp : Nat} {vW vR : V} {W R : List Int} {size most : Int} {l : List (Nat × Hd)}

theorem hCollect_ok (r : HM h c hp a sp vW vR W R size most) (so : SoundW W R l) (hg : goneOf W R l l = []) : Does 110 [.ptr (some (hp, 0)), vR] h c (hmn hp a vW vR) fun v h' c' => ∃ vW', HM h' c' hp a sp vW' vR (slidW W R l (liveOf W l R)) (R.map (mvW W R l)) (roomZ most (slidW W R l (liveOf W l R)).length) most ∧ ∀ n ∈ rowName vW', n ∈ rowName vW := by
  have hsub1 : ∀ n ∈ [hp], n ∈ hmn hp a vW vR ∨ c ≤ n := fun n hn => .inl (by simp at hn; rw [hn]; exact List.mem_append_left _ (List.mem_cons_self ..))
  refine does_of (enter (fn := Try.f110) Try.func110 rfl rfl (Nat.le_of_ble_eq_true rfl) ?_)
  repeat' (first | refine WpC.seq ?_ | refine WpC.region ?_ | refine WpC.drawn ?_ | refine WpC.skip ?_ | refine WpC.block ?_ | refine WpC.exit ?_ | refine WpC.ret ?_ | refine WpO.nil ?_ | refine WpO.cons rfl rfl (WpX.pure (fun _ => rfl) ⟨nolog, ?_⟩) | refine WpO.skip rfl rfl ?_ | refine WpL.cons rfl rfl (WpX.pure (fun _ => rfl) ⟨nolog, ?_⟩) | refine WpL.skip rfl rfl ?_ | refine seqQ_normal ?_ | refine seqQ_ret ?_ | refine seqQ_exit ?_ | refine blkQ_normal ?_ | refine blkQ_ret ?_ | refine blkQ_out rfl ?_ | refine blkQ_by rfl ?_)
  refine WpO.cons rfl rfl (call_atD rfl (alive_ok r.hm) hsub1 (Nat.le_refl _) fun v4 h4 c4 hc4 hfr4 hq => ?_)
  obtain ⟨rfl, rfl, rfl⟩ := hq
  repeat' (first | refine WpC.seq ?_ | refine WpC.region ?_ | refine WpC.drawn ?_ | refine WpC.skip ?_ | refine WpC.block ?_ | refine WpC.exit ?_ | refine WpC.ret ?_ | refine WpO.nil ?_ | refine WpO.cons rfl rfl (WpX.pure (fun _ => rfl) ⟨nolog, ?_⟩) | refine WpO.skip rfl rfl ?_ | refine WpL.cons rfl rfl (WpX.pure (fun _ => rfl) ⟨nolog, ?_⟩) | refine WpL.skip rfl rfl ?_ | refine seqQ_normal ?_ | refine seqQ_ret ?_ | refine seqQ_exit ?_ | refine blkQ_normal ?_ | refine blkQ_ret ?_ | refine blkQ_out rfl ?_ | refine blkQ_by rfl ?_)
  refine WpC.cond rfl (fun _ => ?_) (fun hb => by cases hb)
  repeat' (first | refine WpC.seq ?_ | refine WpC.region ?_ | refine WpC.drawn ?_ | refine WpC.skip ?_ | refine WpC.block ?_ | refine WpC.exit ?_ | refine WpC.ret ?_ | refine WpO.nil ?_ | refine WpO.cons rfl rfl (WpX.pure (fun _ => rfl) ⟨nolog, ?_⟩) | refine WpO.skip rfl rfl ?_ | refine WpL.cons rfl rfl (WpX.pure (fun _ => rfl) ⟨nolog, ?_⟩) | refine WpL.skip rfl rfl ?_ | refine seqQ_normal ?_ | refine seqQ_ret ?_ | refine seqQ_exit ?_ | refine blkQ_normal ?_ | refine blkQ_ret ?_ | refine blkQ_out rfl ?_ | refine blkQ_by rfl ?_)
  refine WpO.cons rfl rfl (call_at rfl (collect_ok r so hg) (fun n hn => .inl hn) (Nat.le_refl _) fun v5 h5 c5 hc5 hfr5 hq => ?_)
  obtain ⟨rfl, vW', r5, hn5⟩ := hq
  repeat' (first | refine WpC.seq ?_ | refine WpC.region ?_ | refine WpC.drawn ?_ | refine WpC.skip ?_ | refine WpC.block ?_ | refine WpC.exit ?_ | refine WpC.ret ?_ | refine WpO.nil ?_ | refine WpO.cons rfl rfl (WpX.pure (fun _ => rfl) ⟨nolog, ?_⟩) | refine WpO.skip rfl rfl ?_ | refine WpL.cons rfl rfl (WpX.pure (fun _ => rfl) ⟨nolog, ?_⟩) | refine WpL.skip rfl rfl ?_ | refine seqQ_normal ?_ | refine seqQ_ret ?_ | refine seqQ_exit ?_ | refine blkQ_normal ?_ | refine blkQ_ret ?_ | refine blkQ_out rfl ?_ | refine blkQ_by rfl ?_)
  exact out_normal rfl ⟨vW', r5, hn5⟩

set_option maxHeartbeats 1000000 in
theorem need_ok {n : Int} (r : HM h c hp a sp vW vR W R size most) (so : SoundW W R l) (hg : goneOf W R l l = []) (hn : 0 ≤ n ∧ n ≤ 1000000) : Does 37 [.ptr (some (hp, 0)), I n, vR] h c (hmn hp a vW vR) fun v h' c' => ∃ vW' W' R' size', v = .bool (decide (n ≤ most - W'.length)) ∧ HM h' c' hp a sp vW' vR W' R' size' most ∧ (∀ x ∈ rowName vW', x ∈ rowName vW) ∧ ((W' = W ∧ R' = R ∧ n ≤ most - W.length) ∨ (W' = slidW W R l (liveOf W l R) ∧ R' = R.map (mvW W R l))) ∧ (n ≤ most - W'.length → n ≤ size' - W'.length) := by
  have hobj := r.hm.obj
  have hlh := r.hm.lh
  have hmo := r.hm.mo
  have hm0 := r.hm.m0
  have hmx := r.hm.mx
  have hle := r.hm.ar.le
  have hsl := slid_le so
  have hsub1 : ∀ n ∈ [hp], n ∈ hmn hp a vW vR ∨ c ≤ n := fun n hn => .inl (by simp at hn; rw [hn]; exact List.mem_append_left _ (List.mem_cons_self ..))
  have hsub2 : ∀ n ∈ an a vW, n ∈ hmn hp a vW vR ∨ c ≤ n := fun n hn => .inl (List.mem_append_left _ (List.mem_cons_of_mem _ hn))
  have e1 : (if (0 : Int) > n then 0 else n) = n := by split <;> omega
  have w1 : IntKind.i64.wrap (size - (W.length : Int)) = size - W.length := Go.IntWalk.i64_in _ (by omega)
  refine does_of (enter (fn := Try.f37) Try.func37 rfl rfl (Nat.le_of_ble_eq_true rfl) ?_)
  repeat' (first | refine WpC.seq ?_ | refine WpC.region ?_ | refine WpC.drawn ?_ | refine WpC.skip ?_ | refine WpC.block ?_ | refine WpC.exit ?_ | refine WpC.ret ?_ | refine WpO.nil ?_ | refine WpO.cons rfl rfl (WpX.pure (fun _ => rfl) ⟨nolog, ?_⟩) | refine WpO.skip rfl rfl ?_ | refine WpL.cons rfl rfl (WpX.pure (fun _ => rfl) ⟨nolog, ?_⟩) | refine WpL.skip rfl rfl ?_ | refine seqQ_normal ?_ | refine seqQ_ret ?_ | refine seqQ_exit ?_ | refine blkQ_normal ?_ | refine blkQ_ret ?_ | refine blkQ_out rfl ?_ | refine blkQ_by rfl ?_)
  refine WpO.cons rfl rfl (call_atD rfl (alive_ok r.hm) hsub1 (Nat.le_refl _) fun v4 h4 c4 hc4 hfr4 hq => ?_)
  obtain ⟨rfl, rfl, rfl⟩ := hq
  repeat' (first | refine WpC.seq ?_ | refine WpC.region ?_ | refine WpC.drawn ?_ | refine WpC.skip ?_ | refine WpC.block ?_ | refine WpC.exit ?_ | refine WpC.ret ?_ | refine WpO.nil ?_ | refine WpO.cons rfl rfl (WpX.pure (fun _ => rfl) ⟨nolog, ?_⟩) | refine WpO.skip rfl rfl ?_ | refine WpL.cons rfl rfl (WpX.pure (fun _ => rfl) ⟨nolog, ?_⟩) | refine WpL.skip rfl rfl ?_ | refine seqQ_normal ?_ | refine seqQ_ret ?_ | refine seqQ_exit ?_ | refine blkQ_normal ?_ | refine blkQ_ret ?_ | refine blkQ_out rfl ?_ | refine blkQ_by rfl ?_)
  refine WpC.cond rfl (fun hb => by cases hb) (fun _ => ?_)
  repeat' (first | refine WpO.cons rfl rfl (op_max rfl e1 ⟨nolog, ?_⟩) | refine WpC.seq ?_ | refine WpC.region ?_ | refine WpC.drawn ?_ | refine WpC.skip ?_ | refine WpC.block ?_ | refine WpC.exit ?_ | refine WpC.ret ?_ | refine WpO.nil ?_ | refine WpO.cons rfl rfl (WpX.pure (fun _ => rfl) ⟨nolog, ?_⟩) | refine WpO.skip rfl rfl ?_ | refine WpL.cons rfl rfl (WpX.pure (fun _ => rfl) ⟨nolog, ?_⟩) | refine WpL.skip rfl rfl ?_ | refine seqQ_normal ?_ | refine seqQ_ret ?_ | refine seqQ_exit ?_ | refine blkQ_normal ?_ | refine blkQ_ret ?_ | refine blkQ_out rfl ?_ | refine blkQ_by rfl ?_ | refine WpO.cons rfl rfl (op_load rfl rfl rfl hobj rfl ⟨(by simp [InL, Acc.name, rowName] <;> omega), ?_⟩) | refine WpL.cons rfl rfl (op_load rfl rfl rfl hobj rfl ⟨(by simp [InL, Acc.name, rowName] <;> omega), ?_⟩))
  refine WpL.cons rfl rfl (call_atP rfl (size_okP r.hm.ar) hsub2 fun v5 h5 c5 al5 hal5 hq => ?_)
  obtain ⟨rfl, rfl, rfl⟩ := hq
  repeat' (first | refine WpC.seq ?_ | refine WpC.region ?_ | refine WpC.drawn ?_ | refine WpC.skip ?_ | refine WpC.block ?_ | refine WpC.exit ?_ | refine WpC.ret ?_ | refine WpO.nil ?_ | refine WpO.cons rfl rfl (WpX.pure (fun _ => rfl) ⟨nolog, ?_⟩) | refine WpO.skip rfl rfl ?_ | refine WpL.cons rfl rfl (WpX.pure (fun _ => rfl) ⟨nolog, ?_⟩) | refine WpL.skip rfl rfl ?_ | refine seqQ_normal ?_ | refine seqQ_ret ?_ | refine seqQ_exit ?_ | refine blkQ_normal ?_ | refine blkQ_ret ?_ | refine blkQ_out rfl ?_ | refine blkQ_by rfl ?_ | refine WpO.cons rfl rfl (op_load rfl rfl rfl hobj rfl ⟨(by simp [InL, Acc.name, rowName] <;> omega), ?_⟩) | refine WpL.cons rfl rfl (op_load rfl rfl rfl hobj rfl ⟨(by simp [InL, Acc.name, rowName] <;> omega), ?_⟩))
  refine WpL.cons rfl rfl (call_atP rfl (used_okP r.hm.ar) hsub2 fun v6 h6 c6 al6 hal6 hq => ?_)
  obtain ⟨rfl, rfl, rfl⟩ := hq
  repeat' (first | refine WpC.seq ?_ | refine WpC.region ?_ | refine WpC.drawn ?_ | refine WpC.skip ?_ | refine WpC.block ?_ | refine WpC.exit ?_ | refine WpC.ret ?_ | refine WpO.nil ?_ | refine WpO.cons rfl rfl (WpX.pure (fun _ => rfl) ⟨nolog, ?_⟩) | refine WpO.skip rfl rfl ?_ | refine WpL.cons rfl rfl (WpX.pure (fun _ => rfl) ⟨nolog, ?_⟩) | refine WpL.skip rfl rfl ?_ | refine seqQ_normal ?_ | refine seqQ_ret ?_ | refine seqQ_exit ?_ | refine blkQ_normal ?_ | refine blkQ_ret ?_ | refine blkQ_out rfl ?_ | refine blkQ_by rfl ?_)
  have hal5' : ∀ x ∈ al5, x.writes = false := hal5
  have hal6' : ∀ x ∈ al6, x.writes = false := hal6
  refine WpL.nil (logsOk_of (cs := [0, 0, 2, 6, 14, 30, 0, 64, 192, 448, 1022, 2046, 4095]) (by decide +kernel) ?_) ?_
  · simp +contextual [allP, apP, Dis, acc_rd, acc_wr, accw_rd, accw_wr, Nat.testBit, hal5', hal6']
  repeat' (first | refine WpC.seq ?_ | refine WpC.region ?_ | refine WpC.drawn ?_ | refine WpC.skip ?_ | refine WpC.block ?_ | refine WpC.exit ?_ | refine WpC.ret ?_ | refine WpO.nil ?_ | refine WpO.cons rfl rfl (WpX.pure (fun _ => rfl) ⟨nolog, ?_⟩) | refine WpO.skip rfl rfl ?_ | refine WpL.cons rfl rfl (WpX.pure (fun _ => rfl) ⟨nolog, ?_⟩) | refine WpL.skip rfl rfl ?_ | refine seqQ_normal ?_ | refine seqQ_ret ?_ | refine seqQ_exit ?_ | refine blkQ_normal ?_ | refine blkQ_ret ?_ | refine blkQ_out rfl ?_ | refine blkQ_by rfl ?_)
  refine WpC.cond rfl (fun hb => ?_) (fun hb => ?_)
  · have hb := of_decide_eq_true hb
    rw [w1] at hb
    repeat' (first | refine WpC.seq ?_ | refine WpC.region ?_ | refine WpC.drawn ?_ | refine WpC.skip ?_ | refine WpC.block ?_ | refine WpC.exit ?_ | refine WpC.ret ?_ | refine WpO.nil ?_ | refine WpO.cons rfl rfl (WpX.pure (fun _ => rfl) ⟨nolog, ?_⟩) | refine WpO.skip rfl rfl ?_ | refine WpL.cons rfl rfl (WpX.pure (fun _ => rfl) ⟨nolog, ?_⟩) | refine WpL.skip rfl rfl ?_ | refine seqQ_normal ?_ | refine seqQ_ret ?_ | refine seqQ_exit ?_ | refine blkQ_normal ?_ | refine blkQ_ret ?_ | refine blkQ_out rfl ?_ | refine blkQ_by rfl ?_)
    refine out_ret rfl ⟨vW, W, R, size, ?_, r, fun x hx => hx, .inl ⟨rfl, rfl, by omega⟩, fun _ => hb⟩
    exact congrArg V.bool (decide_eq_true (show n ≤ most - W.length from by omega)).symm
  have hb := of_decide_eq_false hb
  rw [w1] at hb
  repeat' (first | refine WpC.seq ?_ | refine WpC.region ?_ | refine WpC.drawn ?_ | refine WpC.skip ?_ | refine WpC.block ?_ | refine WpC.exit ?_ | refine WpC.ret ?_ | refine WpO.nil ?_ | refine WpO.cons rfl rfl (WpX.pure (fun _ => rfl) ⟨nolog, ?_⟩) | refine WpO.skip rfl rfl ?_ | refine WpL.cons rfl rfl (WpX.pure (fun _ => rfl) ⟨nolog, ?_⟩) | refine WpL.skip rfl rfl ?_ | refine seqQ_normal ?_ | refine seqQ_ret ?_ | refine seqQ_exit ?_ | refine blkQ_normal ?_ | refine blkQ_ret ?_ | refine blkQ_out rfl ?_ | refine blkQ_by rfl ?_)
  refine WpL.cons rfl rfl (call_atL rfl (collect_ok r so hg) (fun n hn => .inl hn) (Nat.le_refl _) fun v7 h7 c7 al7 hal7 hc7 hf7 hq => ?_)
  obtain ⟨rfl, vW', r7, hn7⟩ := hq
  generalize hWs : slidW W R l (liveOf W l R) = W' at r7 hsl
  generalize hRs : R.map (mvW W R l) = R' at r7
  have hobj7 := r7.hm.obj
  have hle7 := r7.hm.ar.le
  have w2 : IntKind.i64.wrap (most - (W'.length : Int)) = most - W'.length := Go.IntWalk.i64_in _ (by omega)
  have hsub3 : ∀ n ∈ an a vW', n ∈ hmn hp a vW vR ∨ c ≤ n := fun n hn => by
    rcases List.mem_cons.1 hn with h | h
    · exact .inl (List.mem_append_left _ (List.mem_cons_of_mem _ (by rw [h]; exact List.mem_cons_self ..)))
    · exact .inl (List.mem_append_left _ (List.mem_cons_of_mem _ (List.mem_cons_of_mem _ (hn7 n h))))
  repeat' (first | refine WpC.seq ?_ | refine WpC.region ?_ | refine WpC.drawn ?_ | refine WpC.skip ?_ | refine WpC.block ?_ | refine WpC.exit ?_ | refine WpC.ret ?_ | refine WpO.nil ?_ | refine WpO.cons rfl rfl (WpX.pure (fun _ => rfl) ⟨nolog, ?_⟩) | refine WpO.skip rfl rfl ?_ | refine WpL.cons rfl rfl (WpX.pure (fun _ => rfl) ⟨nolog, ?_⟩) | refine WpL.skip rfl rfl ?_ | refine seqQ_normal ?_ | refine seqQ_ret ?_ | refine seqQ_exit ?_ | refine blkQ_normal ?_ | refine blkQ_ret ?_ | refine blkQ_out rfl ?_ | refine blkQ_by rfl ?_ | refine WpO.cons rfl rfl (op_load rfl rfl rfl hobj7 rfl ⟨(by simp [InL, Acc.name, rowName] <;> omega), ?_⟩) | refine WpL.cons rfl rfl (op_load rfl rfl rfl hobj7 rfl ⟨(by simp [InL, Acc.name, rowName] <;> omega), ?_⟩))
  refine WpL.cons rfl rfl (call_atP rfl (used_okP r7.hm.ar) hsub3 fun v8 h8 c8 al8 hal8 hq => ?_)
  obtain ⟨rfl, rfl, rfl⟩ := hq
  repeat' (first | refine WpC.seq ?_ | refine WpC.region ?_ | refine WpC.drawn ?_ | refine WpC.skip ?_ | refine WpC.block ?_ | refine WpC.exit ?_ | refine WpC.ret ?_ | refine WpO.nil ?_ | refine WpO.cons rfl rfl (WpX.pure (fun _ => rfl) ⟨nolog, ?_⟩) | refine WpO.skip rfl rfl ?_ | refine WpL.cons rfl rfl (WpX.pure (fun _ => rfl) ⟨nolog, ?_⟩) | refine WpL.skip rfl rfl ?_ | refine seqQ_normal ?_ | refine seqQ_ret ?_ | refine seqQ_exit ?_ | refine blkQ_normal ?_ | refine blkQ_ret ?_ | refine blkQ_out rfl ?_ | refine blkQ_by rfl ?_)
  have hal8' : ∀ x ∈ al8, x.writes = false := hal8
  refine WpL.nil (logsOk_of (cs := [0, 0, 3, 7, 15, 31, 31, 95, 223, 479, 31, 1055, 3103, 7199, 15391, 32735, 65535, 131071]) (by decide +kernel) ?_) ?_
  · simp +contextual [allP, apP, Dis, acc_rd, acc_wr, accw_rd, accw_wr, Nat.testBit, hal8']
  repeat' (first | refine WpC.seq ?_ | refine WpC.region ?_ | refine WpC.drawn ?_ | refine WpC.skip ?_ | refine WpC.block ?_ | refine WpC.exit ?_ | refine WpC.ret ?_ | refine WpO.nil ?_ | refine WpO.cons rfl rfl (WpX.pure (fun _ => rfl) ⟨nolog, ?_⟩) | refine WpO.skip rfl rfl ?_ | refine WpL.cons rfl rfl (WpX.pure (fun _ => rfl) ⟨nolog, ?_⟩) | refine WpL.skip rfl rfl ?_ | refine seqQ_normal ?_ | refine seqQ_ret ?_ | refine seqQ_exit ?_ | refine blkQ_normal ?_ | refine blkQ_ret ?_ | refine blkQ_out rfl ?_ | refine blkQ_by rfl ?_)
  refine WpC.cond rfl (fun hb => ?_) (fun hb => ?_)
  · have hb := of_decide_eq_true hb
    rw [w2] at hb
    repeat' (first | refine WpC.seq ?_ | refine WpC.region ?_ | refine WpC.drawn ?_ | refine WpC.skip ?_ | refine WpC.block ?_ | refine WpC.exit ?_ | refine WpC.ret ?_ | refine WpO.nil ?_ | refine WpO.cons rfl rfl (WpX.pure (fun _ => rfl) ⟨nolog, ?_⟩) | refine WpO.skip rfl rfl ?_ | refine WpL.cons rfl rfl (WpX.pure (fun _ => rfl) ⟨nolog, ?_⟩) | refine WpL.skip rfl rfl ?_ | refine seqQ_normal ?_ | refine seqQ_ret ?_ | refine seqQ_exit ?_ | refine blkQ_normal ?_ | refine blkQ_ret ?_ | refine blkQ_out rfl ?_ | refine blkQ_by rfl ?_)
    refine out_ret rfl ⟨vW', W', R', _, ?_, r7, hn7, .inr ⟨rfl, rfl⟩, fun hh => by omega⟩
    exact congrArg V.bool (decide_eq_false (show ¬ n ≤ most - W'.length from by omega)).symm
  have hb := of_decide_eq_false hb
  rw [w2] at hb
  have w3 : IntKind.i64.wrap ((W'.length : Int) + n) = W'.length + n := Go.IntWalk.i64_in _ (by omega)
  repeat' (first | refine WpC.seq ?_ | refine WpC.region ?_ | refine WpC.drawn ?_ | refine WpC.skip ?_ | refine WpC.block ?_ | refine WpC.exit ?_ | refine WpC.ret ?_ | refine WpO.nil ?_ | refine WpO.cons rfl rfl (WpX.pure (fun _ => rfl) ⟨nolog, ?_⟩) | refine WpO.skip rfl rfl ?_ | refine WpL.cons rfl rfl (WpX.pure (fun _ => rfl) ⟨nolog, ?_⟩) | refine WpL.skip rfl rfl ?_ | refine seqQ_normal ?_ | refine seqQ_ret ?_ | refine seqQ_exit ?_ | refine blkQ_normal ?_ | refine blkQ_ret ?_ | refine blkQ_out rfl ?_ | refine blkQ_by rfl ?_ | refine WpO.cons rfl rfl (op_load rfl rfl rfl hobj7 rfl ⟨(by simp [InL, Acc.name, rowName] <;> omega), ?_⟩) | refine WpL.cons rfl rfl (op_load rfl rfl rfl hobj7 rfl ⟨(by simp [InL, Acc.name, rowName] <;> omega), ?_⟩))
  refine WpL.cons rfl rfl (call_atP rfl (used_okP r7.hm.ar) hsub3 fun v9 h9 c9 al9 hal9 hq => ?_)
  obtain ⟨rfl, rfl, rfl⟩ := hq
  repeat' (first | refine WpC.seq ?_ | refine WpC.region ?_ | refine WpC.drawn ?_ | refine WpC.skip ?_ | refine WpC.block ?_ | refine WpC.exit ?_ | refine WpC.ret ?_ | refine WpO.nil ?_ | refine WpO.cons rfl rfl (WpX.pure (fun _ => rfl) ⟨nolog, ?_⟩) | refine WpO.skip rfl rfl ?_ | refine WpL.cons rfl rfl (WpX.pure (fun _ => rfl) ⟨nolog, ?_⟩) | refine WpL.skip rfl rfl ?_ | refine seqQ_normal ?_ | refine seqQ_ret ?_ | refine seqQ_exit ?_ | refine blkQ_normal ?_ | refine blkQ_ret ?_ | refine blkQ_out rfl ?_ | refine blkQ_by rfl ?_ | refine WpO.cons rfl rfl (op_load rfl rfl rfl hobj7 rfl ⟨(by simp [InL, Acc.name, rowName] <;> omega), ?_⟩) | refine WpL.cons rfl rfl (op_load rfl rfl rfl hobj7 rfl ⟨(by simp [InL, Acc.name, rowName] <;> omega), ?_⟩))
  refine WpL.cons rfl rfl (call_atP rfl (used_okP r7.hm.ar) hsub3 fun v10 h10 c10 al10 hal10 hq => ?_)
  obtain ⟨rfl, rfl, rfl⟩ := hq
  repeat' (first | refine WpC.seq ?_ | refine WpC.region ?_ | refine WpC.drawn ?_ | refine WpC.skip ?_ | refine WpC.block ?_ | refine WpC.exit ?_ | refine WpC.ret ?_ | refine WpO.nil ?_ | refine WpO.cons rfl rfl (WpX.pure (fun _ => rfl) ⟨nolog, ?_⟩) | refine WpO.skip rfl rfl ?_ | refine WpL.cons rfl rfl (WpX.pure (fun _ => rfl) ⟨nolog, ?_⟩) | refine WpL.skip rfl rfl ?_ | refine seqQ_normal ?_ | refine seqQ_ret ?_ | refine seqQ_exit ?_ | refine blkQ_normal ?_ | refine blkQ_ret ?_ | refine blkQ_out rfl ?_ | refine blkQ_by rfl ?_)
  refine WpL.cons rfl rfl (call_atP rfl (room_okP (n := (W'.length : Int) + n) w3 hobj7 (by omega)) hsub1 fun v11 h11 c11 al11 hal11 hq => ?_)
  obtain ⟨rfl, rfl, rfl⟩ := hq
  repeat' (first | refine WpC.seq ?_ | refine WpC.region ?_ | refine WpC.drawn ?_ | refine WpC.skip ?_ | refine WpC.block ?_ | refine WpC.exit ?_ | refine WpC.ret ?_ | refine WpO.nil ?_ | refine WpO.cons rfl rfl (WpX.pure (fun _ => rfl) ⟨nolog, ?_⟩) | refine WpO.skip rfl rfl ?_ | refine WpL.cons rfl rfl (WpX.pure (fun _ => rfl) ⟨nolog, ?_⟩) | refine WpL.skip rfl rfl ?_ | refine seqQ_normal ?_ | refine seqQ_ret ?_ | refine seqQ_exit ?_ | refine blkQ_normal ?_ | refine blkQ_ret ?_ | refine blkQ_out rfl ?_ | refine blkQ_by rfl ?_)
  refine WpL.cons rfl rfl (call_atL rfl (cut_ok r7.hm.ar (m := W'.length) rfl (Nat.le_refl _) (by unfold roomZ; omega) (by unfold roomZ; omega)) hsub3 hc7 fun v12 h12 c12 al12 hal12 hc12 hf12 hq => ?_)
  obtain ⟨rfl, rfl, vW'', hA, hn12⟩ := hq
  repeat' (first | refine WpC.seq ?_ | refine WpC.region ?_ | refine WpC.drawn ?_ | refine WpC.skip ?_ | refine WpC.block ?_ | refine WpC.exit ?_ | refine WpC.ret ?_ | refine WpO.nil ?_ | refine WpO.cons rfl rfl (WpX.pure (fun _ => rfl) ⟨nolog, ?_⟩) | refine WpO.skip rfl rfl ?_ | refine WpL.cons rfl rfl (WpX.pure (fun _ => rfl) ⟨nolog, ?_⟩) | refine WpL.skip rfl rfl ?_ | refine seqQ_normal ?_ | refine seqQ_ret ?_ | refine seqQ_exit ?_ | refine blkQ_normal ?_ | refine blkQ_ret ?_ | refine blkQ_out rfl ?_ | refine blkQ_by rfl ?_)
  have hal9' : ∀ x ∈ al9, x.writes = false := hal9
  have hal10' : ∀ x ∈ al10, x.writes = false := hal10
  have hal11' : ∀ x ∈ al11, x.writes = false := hal11
  refine WpL.nil (logsOk_of (cs := [0, 1, 3, 7, 0, 16, 48, 112, 240, 0, 0, 1024, 3072, 7168, 15856, 0, 65008, 131056, 262143, 524287]) (by decide +kernel) ?_) ?_
  · simp +contextual [allP, apP, Dis, acc_rd, acc_wr, accw_rd, accw_wr, Nat.testBit, hal9', hal10', hal11']
  repeat' (first | refine WpC.seq ?_ | refine WpC.region ?_ | refine WpC.drawn ?_ | refine WpC.skip ?_ | refine WpC.block ?_ | refine WpC.exit ?_ | refine WpC.ret ?_ | refine WpO.nil ?_ | refine WpO.cons rfl rfl (WpX.pure (fun _ => rfl) ⟨nolog, ?_⟩) | refine WpO.skip rfl rfl ?_ | refine WpL.cons rfl rfl (WpX.pure (fun _ => rfl) ⟨nolog, ?_⟩) | refine WpL.skip rfl rfl ?_ | refine seqQ_normal ?_ | refine seqQ_ret ?_ | refine seqQ_exit ?_ | refine blkQ_normal ?_ | refine blkQ_ret ?_ | refine blkQ_out rfl ?_ | refine blkQ_by rfl ?_)
  rw [List.take_length] at hA
  have hpa : hp ∉ an a vW' := fun hh => r.hm.sep (by
    rcases List.mem_cons.1 hh with h | h
    · rw [h]; exact List.mem_cons_self ..
    · exact List.mem_cons_of_mem _ (hn7 _ h))
  refine out_ret rfl ⟨vW'', W', R', roomZ most (W'.length + n), ?_, ⟨⟨?_, hA, r7.hm.lh, ?_, by unfold roomZ; omega, hm0, hmx⟩, r7.rr.keep (Nat.le_refl _) fun n hn hm => hf12 n hn ?_, fun n hn hh => ?_, r7.ok, r7.len⟩, fun x hx => hn7 x (hn12 x hx), .inr ⟨rfl, rfl⟩, fun hh => by unfold roomZ; omega⟩
  · exact congrArg V.bool (decide_eq_true (show n ≤ most - W'.length from by omega)).symm
  · rw [hf12 hp r7.hm.lh hpa]; exact hobj7
  · intro hh
    rcases List.mem_cons.1 hh with h | h
    · exact hpa (by rw [h]; exact List.mem_cons_self ..)
    · exact hpa (List.mem_cons_of_mem _ (hn12 _ h))
  · intro hh
    exact r7.sep n hm (List.mem_cons_of_mem _ hh)
  · refine r7.sep n hn ?_
    rcases List.mem_cons.1 hh with h | h
    · rw [h]; exact List.mem_cons_self ..
    · rcases List.mem_cons.1 h with h | h
      · rw [h]; exact List.mem_cons_of_mem _ (List.mem_cons_self ..)
      · exact List.mem_cons_of_mem _ (List.mem_cons_of_mem _ (hn12 n h))
end
end Go.Proofs.Ytempfmkicpifkaa


set_option linter.unusedVariables false
set_option linter.unusedSectionVars false
set_option linter.unusedSimpArgs false
set_option linter.unnecessarySimpa false
namespace Go.Proofs.Ytempfmkicpifkaa
open Go.Ab
set_option maxRecDepth 10000

section
variable {h h' : HH} {c c' hp a sp : Nat} {vW vR vX : V} {W R X : List Int} {size most : Int} {l : List (Nat × Hd)}

theorem make_okW {x : Hd} (hx : okH x) : okW (makeW x) := ofW_ok ⟨by decide, by decide⟩
theorem make_tag {x : Hd} : tagW (makeW x) = 6 := tag_of ⟨by decide, by decide⟩
theorem set_app_len {A : List Int} {m : Nat} {w : Int} : (A ++ List.replicate (m + 1) 0).set A.length w = A ++ w :: List.replicate m 0 := by
  rw [List.set_append_right _ _ (Nat.le_refl _), Nat.sub_self, List.replicate_succ]; rfl

theorem fresh_ok {x : Hd} (r : ArAt h c a vW W size) (hx : okH x) (hle : (W.length : Int) + 1 + x.size ≤ size) : Does 107 [.ptr (some (a, 0)), .agg (hdV x)] h c (an a vW) fun v h' c' => v = .tuple [U (ptrW W.length), .bool true] ∧ ∃ vW', ArAt h' c' a vW' (W ++ makeW x :: List.replicate x.size.toNat 0) size ∧ ∀ n ∈ rowName vW', n ∈ rowName vW ∨ c ≤ n := by
  have hok := hx
  unfold okH at hok
  have hmx := r.mx
  have w1 : IntKind.i64.wrap ((1 : Int) + x.size) = 1 + x.size := Go.IntWalk.i64_in _ (by omega)
  have hnm := r.names
  refine does_of (enter (fn := Try.f107) Try.func107 rfl rfl (Nat.le_of_ble_eq_true rfl) ?_)
  repeat' (first | refine WpC.seq ?_ | refine WpC.region ?_ | refine WpC.drawn ?_ | refine WpC.skip ?_ | refine WpC.block ?_ | refine WpC.exit ?_ | refine WpC.ret ?_ | refine WpO.nil ?_ | refine WpO.cons rfl rfl (WpX.pure (fun _ => rfl) ⟨nolog, ?_⟩) | refine WpO.skip rfl rfl ?_ | refine WpL.cons rfl rfl (WpX.pure (fun _ => rfl) ⟨nolog, ?_⟩) | refine WpL.skip rfl rfl ?_ | refine seqQ_normal ?_ | refine seqQ_ret ?_ | refine seqQ_exit ?_ | refine blkQ_normal ?_ | refine blkQ_ret ?_ | refine blkQ_out rfl ?_ | refine blkQ_by rfl ?_ | refine WpO.cons rfl rfl (op_box rfl ⟨(by simp [InL, Acc.name, rowName] <;> omega), ?_⟩) | refine WpL.cons rfl rfl (op_box rfl ⟨(by simp [InL, Acc.name, rowName] <;> omega), ?_⟩) | refine WpO.cons rfl rfl (op_loadA rfl rfl rfl rfl (MapI.get_same _ _ _) rfl ⟨(by simp [InL, Acc.name, rowName] <;> omega), ?_⟩) | refine WpL.cons rfl rfl (op_loadA rfl rfl rfl rfl (MapI.get_same _ _ _) rfl ⟨(by simp [InL, Acc.name, rowName] <;> omega), ?_⟩))
  refine WpO.cons rfl rfl (call_at rfl (make_ok hx) (fun n hn => by cases hn) (by omega) fun v4 h4 c4 hc4 hf4 hq => ?_)
  subst hq
  repeat' (first | refine WpC.seq ?_ | refine WpC.region ?_ | refine WpC.drawn ?_ | refine WpC.skip ?_ | refine WpC.block ?_ | refine WpC.exit ?_ | refine WpC.ret ?_ | refine WpO.nil ?_ | refine WpO.cons rfl rfl (WpX.pure (fun _ => rfl) ⟨nolog, ?_⟩) | refine WpO.skip rfl rfl ?_ | refine WpL.cons rfl rfl (WpX.pure (fun _ => rfl) ⟨nolog, ?_⟩) | refine WpL.skip rfl rfl ?_ | refine seqQ_normal ?_ | refine seqQ_ret ?_ | refine seqQ_exit ?_ | refine blkQ_normal ?_ | refine blkQ_ret ?_ | refine blkQ_out rfl ?_ | refine blkQ_by rfl ?_)
  refine WpO.cons rfl rfl (call_at rfl (tag_ok (make_okW hx)) (fun n hn => by cases hn) (by omega) fun v5 h5 c5 hc5 hf5 hq => ?_)
  obtain ⟨rfl, rfl, rfl⟩ := hq
  rw [make_tag]
  have hg4 : MapI.get h4 c = some (.cells true true (hdV x)) := by rw [hf4 c (by omega) (fun hh => by cases hh)]; exact MapI.get_same _ _ _
  have r4 : ArAt h4 c4 a vW W size := r.same (by omega) fun n hn => by rw [hf4 n (by omega) (fun hh => by cases hh)]; exact MapI.get_ne _ _ _ _ (by omega)
  repeat' (first | refine WpC.seq ?_ | refine WpC.region ?_ | refine WpC.drawn ?_ | refine WpC.skip ?_ | refine WpC.block ?_ | refine WpC.exit ?_ | refine WpC.ret ?_ | refine WpO.nil ?_ | refine WpO.cons rfl rfl (WpX.pure (fun _ => rfl) ⟨nolog, ?_⟩) | refine WpO.skip rfl rfl ?_ | refine WpL.cons rfl rfl (WpX.pure (fun _ => rfl) ⟨nolog, ?_⟩) | refine WpL.skip rfl rfl ?_ | refine seqQ_normal ?_ | refine seqQ_ret ?_ | refine seqQ_exit ?_ | refine blkQ_normal ?_ | refine blkQ_ret ?_ | refine blkQ_out rfl ?_ | refine blkQ_by rfl ?_)
  refine WpC.cond rfl (fun hb => by cases hb) (fun _ => ?_)
  repeat' (first | refine WpC.seq ?_ | refine WpC.region ?_ | refine WpC.drawn ?_ | refine WpC.skip ?_ | refine WpC.block ?_ | refine WpC.exit ?_ | refine WpC.ret ?_ | refine WpO.nil ?_ | refine WpO.cons rfl rfl (WpX.pure (fun _ => rfl) ⟨nolog, ?_⟩) | refine WpO.skip rfl rfl ?_ | refine WpL.cons rfl rfl (WpX.pure (fun _ => rfl) ⟨nolog, ?_⟩) | refine WpL.skip rfl rfl ?_ | refine seqQ_normal ?_ | refine seqQ_ret ?_ | refine seqQ_exit ?_ | refine blkQ_normal ?_ | refine blkQ_ret ?_ | refine blkQ_out rfl ?_ | refine blkQ_by rfl ?_ | refine WpO.cons rfl rfl (op_load rfl rfl rfl hg4 rfl ⟨(by simp [InL, Acc.name, rowName] <;> omega), ?_⟩) | refine WpL.cons rfl rfl (op_load rfl rfl rfl hg4 rfl ⟨(by simp [InL, Acc.name, rowName] <;> omega), ?_⟩))
  refine WpO.cons rfl rfl (call_at rfl (take_ok r4 (m := x.size.toNat + 1) (by rw [w1]; omega) (by omega)) (fun n hn => .inl hn) (by omega) fun v6 h6 c6 hc6 hf6 hq => ?_)
  obtain ⟨rfl, vW', r6, hn6⟩ := hq
  repeat' (first | refine WpC.seq ?_ | refine WpC.region ?_ | refine WpC.drawn ?_ | refine WpC.skip ?_ | refine WpC.block ?_ | refine WpC.exit ?_ | refine WpC.ret ?_ | refine WpO.nil ?_ | refine WpO.cons rfl rfl (WpX.pure (fun _ => rfl) ⟨nolog, ?_⟩) | refine WpO.skip rfl rfl ?_ | refine WpL.cons rfl rfl (WpX.pure (fun _ => rfl) ⟨nolog, ?_⟩) | refine WpL.skip rfl rfl ?_ | refine seqQ_normal ?_ | refine seqQ_ret ?_ | refine seqQ_exit ?_ | refine blkQ_normal ?_ | refine blkQ_ret ?_ | refine blkQ_out rfl ?_ | refine blkQ_by rfl ?_)
  refine WpC.cond rfl (fun hb => by cases hb) (fun _ => ?_)
  repeat' (first | refine WpC.seq ?_ | refine WpC.region ?_ | refine WpC.drawn ?_ | refine WpC.skip ?_ | refine WpC.block ?_ | refine WpC.exit ?_ | refine WpC.ret ?_ | refine WpO.nil ?_ | refine WpO.cons rfl rfl (WpX.pure (fun _ => rfl) ⟨nolog, ?_⟩) | refine WpO.skip rfl rfl ?_ | refine WpL.cons rfl rfl (WpX.pure (fun _ => rfl) ⟨nolog, ?_⟩) | refine WpL.skip rfl rfl ?_ | refine seqQ_normal ?_ | refine seqQ_ret ?_ | refine seqQ_exit ?_ | refine blkQ_normal ?_ | refine blkQ_ret ?_ | refine blkQ_out rfl ?_ | refine blkQ_by rfl ?_)
  have hsub : ∀ n ∈ an a vW', n ∈ an a vW ∨ c ≤ n := fun n hn => by
    rcases List.mem_cons.1 hn with h | h
    · exact .inl (by rw [h]; exact List.mem_cons_self ..)
    · rcases hn6 n h with h | h
      · exact .inl (List.mem_cons_of_mem _ h)
      · exact .inr (by omega)
  refine WpO.cons rfl rfl (call_at rfl (set_ok r6 (j := W.length) rfl (by simp) (make_okW hx)) hsub (by omega) fun v7 h7 c7 hc7 hf7 hq => ?_)
  obtain ⟨rfl, rfl, r7, _⟩ := hq
  rw [set_app_len] at r7
  have hWl := r.le
  repeat' (first | refine WpC.seq ?_ | refine WpC.region ?_ | refine WpC.drawn ?_ | refine WpC.skip ?_ | refine WpC.block ?_ | refine WpC.exit ?_ | refine WpC.ret ?_ | refine WpO.nil ?_ | refine WpO.cons rfl rfl (WpX.pure (fun _ => rfl) ⟨nolog, ?_⟩) | refine WpO.skip rfl rfl ?_ | refine WpL.cons rfl rfl (WpX.pure (fun _ => rfl) ⟨nolog, ?_⟩) | refine WpL.skip rfl rfl ?_ | refine seqQ_normal ?_ | refine seqQ_ret ?_ | refine seqQ_exit ?_ | refine blkQ_normal ?_ | refine blkQ_ret ?_ | refine blkQ_out rfl ?_ | refine blkQ_by rfl ?_)
  refine WpO.cons rfl rfl (call_at rfl (of_word_ok ⟨by decide, by decide⟩ (by unfold fitsW; omega)) (fun n hn => by cases hn) (by omega) fun v8 h8 c8 hc8 hf8 hq => ?_)
  obtain ⟨rfl, rfl, rfl⟩ := hq
  repeat' (first | refine WpC.seq ?_ | refine WpC.region ?_ | refine WpC.drawn ?_ | refine WpC.skip ?_ | refine WpC.block ?_ | refine WpC.exit ?_ | refine WpC.ret ?_ | refine WpO.nil ?_ | refine WpO.cons rfl rfl (WpX.pure (fun _ => rfl) ⟨nolog, ?_⟩) | refine WpO.skip rfl rfl ?_ | refine WpL.cons rfl rfl (WpX.pure (fun _ => rfl) ⟨nolog, ?_⟩) | refine WpL.skip rfl rfl ?_ | refine seqQ_normal ?_ | refine seqQ_ret ?_ | refine seqQ_exit ?_ | refine blkQ_normal ?_ | refine blkQ_ret ?_ | refine blkQ_out rfl ?_ | refine blkQ_by rfl ?_)
  refine out_ret rfl ⟨rfl, vW', r7, fun n hn => ?_⟩
  rcases hn6 n hn with h | h
  · exact .inl h
  · exact .inr (by omega)

theorem fresh_no {x : Hd} (r : ArAt h c a vW W size) (hx : okH x) (hle : size < (W.length : Int) + 1 + x.size) : Does 107 [.ptr (some (a, 0)), .agg (hdV x)] h c (an a vW) fun v h' c' => v = .tuple [U 0, .bool false] ∧ ∀ n, n < c → MapI.get h' n = MapI.get h n := by
  have hok := hx
  unfold okH at hok
  have hmx := r.mx
  have w1 : IntKind.i64.wrap ((1 : Int) + x.size) = 1 + x.size := Go.IntWalk.i64_in _ (by omega)
  have hnm := r.names
  refine does_of (enter (fn := Try.f107) Try.func107 rfl rfl (Nat.le_of_ble_eq_true rfl) ?_)
  repeat' (first | refine WpC.seq ?_ | refine WpC.region ?_ | refine WpC.drawn ?_ | refine WpC.skip ?_ | refine WpC.block ?_ | refine WpC.exit ?_ | refine WpC.ret ?_ | refine WpO.nil ?_ | refine WpO.cons rfl rfl (WpX.pure (fun _ => rfl) ⟨nolog, ?_⟩) | refine WpO.skip rfl rfl ?_ | refine WpL.cons rfl rfl (WpX.pure (fun _ => rfl) ⟨nolog, ?_⟩) | refine WpL.skip rfl rfl ?_ | refine seqQ_normal ?_ | refine seqQ_ret ?_ | refine seqQ_exit ?_ | refine blkQ_normal ?_ | refine blkQ_ret ?_ | refine blkQ_out rfl ?_ | refine blkQ_by rfl ?_ | refine WpO.cons rfl rfl (op_box rfl ⟨(by simp [InL, Acc.name, rowName] <;> omega), ?_⟩) | refine WpL.cons rfl rfl (op_box rfl ⟨(by simp [InL, Acc.name, rowName] <;> omega), ?_⟩) | refine WpO.cons rfl rfl (op_loadA rfl rfl rfl rfl (MapI.get_same _ _ _) rfl ⟨(by simp [InL, Acc.name, rowName] <;> omega), ?_⟩) | refine WpL.cons rfl rfl (op_loadA rfl rfl rfl rfl (MapI.get_same _ _ _) rfl ⟨(by simp [InL, Acc.name, rowName] <;> omega), ?_⟩))
  refine WpO.cons rfl rfl (call_at rfl (make_ok hx) (fun n hn => by cases hn) (by omega) fun v4 h4 c4 hc4 hf4 hq => ?_)
  subst hq
  repeat' (first | refine WpC.seq ?_ | refine WpC.region ?_ | refine WpC.drawn ?_ | refine WpC.skip ?_ | refine WpC.block ?_ | refine WpC.exit ?_ | refine WpC.ret ?_ | refine WpO.nil ?_ | refine WpO.cons rfl rfl (WpX.pure (fun _ => rfl) ⟨nolog, ?_⟩) | refine WpO.skip rfl rfl ?_ | refine WpL.cons rfl rfl (WpX.pure (fun _ => rfl) ⟨nolog, ?_⟩) | refine WpL.skip rfl rfl ?_ | refine seqQ_normal ?_ | refine seqQ_ret ?_ | refine seqQ_exit ?_ | refine blkQ_normal ?_ | refine blkQ_ret ?_ | refine blkQ_out rfl ?_ | refine blkQ_by rfl ?_)
  refine WpO.cons rfl rfl (call_at rfl (tag_ok (make_okW hx)) (fun n hn => by cases hn) (by omega) fun v5 h5 c5 hc5 hf5 hq => ?_)
  obtain ⟨rfl, rfl, rfl⟩ := hq
  rw [make_tag]
  have hg4 : MapI.get h4 c = some (.cells true true (hdV x)) := by rw [hf4 c (by omega) (fun hh => by cases hh)]; exact MapI.get_same _ _ _
  have hfr4 : ∀ n, n < c → MapI.get h4 n = MapI.get h n := fun n hn => by rw [hf4 n (by omega) (fun hh => by cases hh)]; exact MapI.get_ne _ _ _ _ (by omega)
  have r4 : ArAt h4 c4 a vW W size := r.same (by omega) hfr4
  repeat' (first | refine WpC.seq ?_ | refine WpC.region ?_ | refine WpC.drawn ?_ | refine WpC.skip ?_ | refine WpC.block ?_ | refine WpC.exit ?_ | refine WpC.ret ?_ | refine WpO.nil ?_ | refine WpO.cons rfl rfl (WpX.pure (fun _ => rfl) ⟨nolog, ?_⟩) | refine WpO.skip rfl rfl ?_ | refine WpL.cons rfl rfl (WpX.pure (fun _ => rfl) ⟨nolog, ?_⟩) | refine WpL.skip rfl rfl ?_ | refine seqQ_normal ?_ | refine seqQ_ret ?_ | refine seqQ_exit ?_ | refine blkQ_normal ?_ | refine blkQ_ret ?_ | refine blkQ_out rfl ?_ | refine blkQ_by rfl ?_)
  refine WpC.cond rfl (fun hb => by cases hb) (fun _ => ?_)
  repeat' (first | refine WpC.seq ?_ | refine WpC.region ?_ | refine WpC.drawn ?_ | refine WpC.skip ?_ | refine WpC.block ?_ | refine WpC.exit ?_ | refine WpC.ret ?_ | refine WpO.nil ?_ | refine WpO.cons rfl rfl (WpX.pure (fun _ => rfl) ⟨nolog, ?_⟩) | refine WpO.skip rfl rfl ?_ | refine WpL.cons rfl rfl (WpX.pure (fun _ => rfl) ⟨nolog, ?_⟩) | refine WpL.skip rfl rfl ?_ | refine seqQ_normal ?_ | refine seqQ_ret ?_ | refine seqQ_exit ?_ | refine blkQ_normal ?_ | refine blkQ_ret ?_ | refine blkQ_out rfl ?_ | refine blkQ_by rfl ?_ | refine WpO.cons rfl rfl (op_load rfl rfl rfl hg4 rfl ⟨(by simp [InL, Acc.name, rowName] <;> omega), ?_⟩) | refine WpL.cons rfl rfl (op_load rfl rfl rfl hg4 rfl ⟨(by simp [InL, Acc.name, rowName] <;> omega), ?_⟩))
  refine WpO.cons rfl rfl (call_at rfl (take_no r4 (by rw [w1]; omega) (by rw [w1]; omega)) (fun n hn => .inl hn) (by omega) fun v6 h6 c6 hc6 hf6 hq => ?_)
  obtain ⟨rfl, rfl, rfl⟩ := hq
  repeat' (first | refine WpC.seq ?_ | refine WpC.region ?_ | refine WpC.drawn ?_ | refine WpC.skip ?_ | refine WpC.block ?_ | refine WpC.exit ?_ | refine WpC.ret ?_ | refine WpO.nil ?_ | refine WpO.cons rfl rfl (WpX.pure (fun _ => rfl) ⟨nolog, ?_⟩) | refine WpO.skip rfl rfl ?_ | refine WpL.cons rfl rfl (WpX.pure (fun _ => rfl) ⟨nolog, ?_⟩) | refine WpL.skip rfl rfl ?_ | refine seqQ_normal ?_ | refine seqQ_ret ?_ | refine seqQ_exit ?_ | refine blkQ_normal ?_ | refine blkQ_ret ?_ | refine blkQ_out rfl ?_ | refine blkQ_by rfl ?_)
  refine WpC.cond rfl (fun _ => ?_) (fun hb => by cases hb)
  repeat' (first | refine WpC.seq ?_ | refine WpC.region ?_ | refine WpC.drawn ?_ | refine WpC.skip ?_ | refine WpC.block ?_ | refine WpC.exit ?_ | refine WpC.ret ?_ | refine WpO.nil ?_ | refine WpO.cons rfl rfl (WpX.pure (fun _ => rfl) ⟨nolog, ?_⟩) | refine WpO.skip rfl rfl ?_ | refine WpL.cons rfl rfl (WpX.pure (fun _ => rfl) ⟨nolog, ?_⟩) | refine WpL.skip rfl rfl ?_ | refine seqQ_normal ?_ | refine seqQ_ret ?_ | refine seqQ_exit ?_ | refine blkQ_normal ?_ | refine blkQ_ret ?_ | refine blkQ_out rfl ?_ | refine blkQ_by rfl ?_)
  exact out_ret rfl ⟨rfl, hfr4⟩

/-- A tuple's header. -/
abbrev tupH (n t : Int) : Hd := ⟨1, n, t, false⟩
theorem handle_ok {n t : Int} : Does 106 [.agg (hdV (tupH n t)), vX] h c [] fun v h' c' => v = I 0 ∧ ∀ n, n < c → MapI.get h' n = MapI.get h n := by
  refine does_of (enter (fn := Try.f106) Try.func106 rfl rfl (Nat.le_of_ble_eq_true rfl) ?_)
  repeat' (first | refine WpC.seq ?_ | refine WpC.region ?_ | refine WpC.drawn ?_ | refine WpC.skip ?_ | refine WpC.block ?_ | refine WpC.exit ?_ | refine WpC.ret ?_ | refine WpO.nil ?_ | refine WpO.cons rfl rfl (WpX.pure (fun _ => rfl) ⟨nolog, ?_⟩) | refine WpO.skip rfl rfl ?_ | refine WpL.cons rfl rfl (WpX.pure (fun _ => rfl) ⟨nolog, ?_⟩) | refine WpL.skip rfl rfl ?_ | refine seqQ_normal ?_ | refine seqQ_ret ?_ | refine seqQ_exit ?_ | refine blkQ_normal ?_ | refine blkQ_ret ?_ | refine blkQ_out rfl ?_ | refine blkQ_by rfl ?_ | refine WpO.cons rfl rfl (op_box rfl ⟨(by simp [InL, Acc.name, rowName] <;> omega), ?_⟩) | refine WpL.cons rfl rfl (op_box rfl ⟨(by simp [InL, Acc.name, rowName] <;> omega), ?_⟩) | refine WpO.cons rfl rfl (op_load rfl rfl rfl (MapI.get_same _ _ _) rfl ⟨(by simp [InL, Acc.name, rowName] <;> omega), ?_⟩) | refine WpL.cons rfl rfl (op_load rfl rfl rfl (MapI.get_same _ _ _) rfl ⟨(by simp [InL, Acc.name, rowName] <;> omega), ?_⟩))
  refine WpC.cond rfl (fun _ => ?_) (fun hb => by cases hb)
  repeat' (first | refine WpC.seq ?_ | refine WpC.region ?_ | refine WpC.drawn ?_ | refine WpC.skip ?_ | refine WpC.block ?_ | refine WpC.exit ?_ | refine WpC.ret ?_ | refine WpO.nil ?_ | refine WpO.cons rfl rfl (WpX.pure (fun _ => rfl) ⟨nolog, ?_⟩) | refine WpO.skip rfl rfl ?_ | refine WpL.cons rfl rfl (WpX.pure (fun _ => rfl) ⟨nolog, ?_⟩) | refine WpL.skip rfl rfl ?_ | refine seqQ_normal ?_ | refine seqQ_ret ?_ | refine seqQ_exit ?_ | refine blkQ_normal ?_ | refine blkQ_ret ?_ | refine blkQ_out rfl ?_ | refine blkQ_by rfl ?_)
  exact out_ret rfl ⟨rfl, fun n hn => MapI.get_ne _ _ _ _ (by omega)⟩

theorem hmake_no {n t : Int} (r : HeapAt h c hp a sp vW W size most) (rx : RowOf 1 wordV h c vX X) (hX : (X.length : Int) = n) (hx : okH (tupH n t)) (hle : size < (W.length : Int) + 1 + n) : Does 38 [.ptr (some (hp, 0)), .agg (hdV (tupH n t)), vX] h c (hn hp a vW ++ rowName vX) fun v h' c' => v = .tuple [U 0, .bool false] ∧ ∀ n, n < c → MapI.get h' n = MapI.get h n := by
  have hobj := r.obj
  have hlh := r.lh
  have hsub1 : ∀ m ∈ [hp], m ∈ hn hp a vW ++ rowName vX ∨ c ≤ m := fun m hm => .inl (by simp at hm; rw [hm]; exact List.mem_append_left _ (List.mem_cons_self ..))
  have hsub2 : ∀ m ∈ an a vW, m ∈ hn hp a vW ++ rowName vX ∨ c ≤ m := fun m hm => .inl (List.mem_append_left _ (List.mem_cons_of_mem _ hm))
  obtain ⟨b, cap, rfl, hlt, hrow⟩ := rx
  subst hX
  have r1 : ∀ o, HeapAt (MapI.set h c o) (c + 1) hp a sp vW W size most := fun o => r.same (by omega) fun m hm => MapI.get_ne _ _ _ _ (by omega)
  refine does_of (enter (fn := Try.f38) Try.func38 rfl rfl (Nat.le_of_ble_eq_true rfl) ?_)
  repeat' (first | refine WpC.seq ?_ | refine WpC.region ?_ | refine WpC.drawn ?_ | refine WpC.skip ?_ | refine WpC.block ?_ | refine WpC.exit ?_ | refine WpC.ret ?_ | refine WpO.nil ?_ | refine WpO.cons rfl rfl (WpX.pure (fun _ => rfl) ⟨nolog, ?_⟩) | refine WpO.skip rfl rfl ?_ | refine WpL.cons rfl rfl (WpX.pure (fun _ => rfl) ⟨nolog, ?_⟩) | refine WpL.skip rfl rfl ?_ | refine seqQ_normal ?_ | refine seqQ_ret ?_ | refine seqQ_exit ?_ | refine blkQ_normal ?_ | refine blkQ_ret ?_ | refine blkQ_out rfl ?_ | refine blkQ_by rfl ?_ | refine WpO.cons rfl rfl (op_box rfl ⟨(by simp [InL, Acc.name, rowName] <;> omega), ?_⟩) | refine WpL.cons rfl rfl (op_box rfl ⟨(by simp [InL, Acc.name, rowName] <;> omega), ?_⟩))
  refine WpO.cons rfl rfl (call_atD rfl (alive_ok (r1 _)) hsub1 (by omega) fun v4 h4 c4 hc4 hfr4 hq => ?_)
  obtain ⟨rfl, rfl, rfl⟩ := hq
  repeat' (first | refine WpC.seq ?_ | refine WpC.region ?_ | refine WpC.drawn ?_ | refine WpC.skip ?_ | refine WpC.block ?_ | refine WpC.exit ?_ | refine WpC.ret ?_ | refine WpO.nil ?_ | refine WpO.cons rfl rfl (WpX.pure (fun _ => rfl) ⟨nolog, ?_⟩) | refine WpO.skip rfl rfl ?_ | refine WpL.cons rfl rfl (WpX.pure (fun _ => rfl) ⟨nolog, ?_⟩) | refine WpL.skip rfl rfl ?_ | refine seqQ_normal ?_ | refine seqQ_ret ?_ | refine seqQ_exit ?_ | refine blkQ_normal ?_ | refine blkQ_ret ?_ | refine blkQ_out rfl ?_ | refine blkQ_by rfl ?_ | refine WpO.cons rfl rfl (op_len rfl rfl rfl ⟨(by simp [InL, Acc.name, rowName] <;> omega), ?_⟩) | refine WpL.cons rfl rfl (op_len rfl rfl rfl ⟨(by simp [InL, Acc.name, rowName] <;> omega), ?_⟩) | refine WpO.cons rfl rfl (op_load rfl rfl rfl (MapI.get_same _ _ _) rfl ⟨(by simp [InL, Acc.name, rowName] <;> omega), ?_⟩) | refine WpL.cons rfl rfl (op_load rfl rfl rfl (MapI.get_same _ _ _) rfl ⟨(by simp [InL, Acc.name, rowName] <;> omega), ?_⟩))
  refine WpC.cond rfl (fun hb => absurd hb (by simp)) (fun _ => ?_)
  repeat' (first | refine WpC.seq ?_ | refine WpC.region ?_ | refine WpC.drawn ?_ | refine WpC.skip ?_ | refine WpC.block ?_ | refine WpC.exit ?_ | refine WpC.ret ?_ | refine WpO.nil ?_ | refine WpO.cons rfl rfl (WpX.pure (fun _ => rfl) ⟨nolog, ?_⟩) | refine WpO.skip rfl rfl ?_ | refine WpL.cons rfl rfl (WpX.pure (fun _ => rfl) ⟨nolog, ?_⟩) | refine WpL.skip rfl rfl ?_ | refine seqQ_normal ?_ | refine seqQ_ret ?_ | refine seqQ_exit ?_ | refine blkQ_normal ?_ | refine blkQ_ret ?_ | refine blkQ_out rfl ?_ | refine blkQ_by rfl ?_ | refine WpO.cons rfl rfl (op_loadA rfl rfl rfl rfl (MapI.get_same _ _ _) rfl ⟨(by simp [InL, Acc.name, rowName] <;> omega), ?_⟩) | refine WpL.cons rfl rfl (op_loadA rfl rfl rfl rfl (MapI.get_same _ _ _) rfl ⟨(by simp [InL, Acc.name, rowName] <;> omega), ?_⟩))
  refine WpO.cons rfl rfl (call_at rfl handle_ok (fun n hn => by cases hn) (by omega) fun v5 h5 c5 hc5 _ hq => ?_)
  obtain ⟨rfl, hf5⟩ := hq
  have r5 := (r1 (.cells true true (hdV (tupH X.length t)))).same hc5 hf5
  have hobj5 := r5.obj
  have hg5 : MapI.get h5 c = some (.cells true true (hdV (tupH X.length t))) := by rw [hf5 c (by omega)]; exact MapI.get_same _ _ _
  repeat' (first | refine WpC.seq ?_ | refine WpC.region ?_ | refine WpC.drawn ?_ | refine WpC.skip ?_ | refine WpC.block ?_ | refine WpC.exit ?_ | refine WpC.ret ?_ | refine WpO.nil ?_ | refine WpO.cons rfl rfl (WpX.pure (fun _ => rfl) ⟨nolog, ?_⟩) | refine WpO.skip rfl rfl ?_ | refine WpL.cons rfl rfl (WpX.pure (fun _ => rfl) ⟨nolog, ?_⟩) | refine WpL.skip rfl rfl ?_ | refine seqQ_normal ?_ | refine seqQ_ret ?_ | refine seqQ_exit ?_ | refine blkQ_normal ?_ | refine blkQ_ret ?_ | refine blkQ_out rfl ?_ | refine blkQ_by rfl ?_)
  refine WpC.cond rfl (fun hb => by cases hb) (fun _ => ?_)
  repeat' (first | refine WpC.seq ?_ | refine WpC.region ?_ | refine WpC.drawn ?_ | refine WpC.skip ?_ | refine WpC.block ?_ | refine WpC.exit ?_ | refine WpC.ret ?_ | refine WpO.nil ?_ | refine WpO.cons rfl rfl (WpX.pure (fun _ => rfl) ⟨nolog, ?_⟩) | refine WpO.skip rfl rfl ?_ | refine WpL.cons rfl rfl (WpX.pure (fun _ => rfl) ⟨nolog, ?_⟩) | refine WpL.skip rfl rfl ?_ | refine seqQ_normal ?_ | refine seqQ_ret ?_ | refine seqQ_exit ?_ | refine blkQ_normal ?_ | refine blkQ_ret ?_ | refine blkQ_out rfl ?_ | refine blkQ_by rfl ?_ | refine WpO.cons rfl rfl (op_load rfl rfl rfl hobj5 rfl ⟨(by simp [InL, Acc.name, rowName] <;> omega), ?_⟩) | refine WpL.cons rfl rfl (op_load rfl rfl rfl hobj5 rfl ⟨(by simp [InL, Acc.name, rowName] <;> omega), ?_⟩) | refine WpO.cons rfl rfl (op_loadA rfl rfl rfl rfl hg5 rfl ⟨(by simp [InL, Acc.name, rowName] <;> omega), ?_⟩) | refine WpL.cons rfl rfl (op_loadA rfl rfl rfl rfl hg5 rfl ⟨(by simp [InL, Acc.name, rowName] <;> omega), ?_⟩))
  refine WpL.cons rfl rfl (call_atL rfl (fresh_no r5.ar hx (by omega)) hsub2 (by omega) fun v6 h6 c6 al6 hal6 hc6 _ hq => ?_)
  obtain ⟨rfl, hf6⟩ := hq
  repeat' (first | refine WpC.seq ?_ | refine WpC.region ?_ | refine WpC.drawn ?_ | refine WpC.skip ?_ | refine WpC.block ?_ | refine WpC.exit ?_ | refine WpC.ret ?_ | refine WpO.nil ?_ | refine WpO.cons rfl rfl (WpX.pure (fun _ => rfl) ⟨nolog, ?_⟩) | refine WpO.skip rfl rfl ?_ | refine WpL.cons rfl rfl (WpX.pure (fun _ => rfl) ⟨nolog, ?_⟩) | refine WpL.skip rfl rfl ?_ | refine seqQ_normal ?_ | refine seqQ_ret ?_ | refine seqQ_exit ?_ | refine blkQ_normal ?_ | refine blkQ_ret ?_ | refine blkQ_out rfl ?_ | refine blkQ_by rfl ?_)
  refine WpL.nil (logsOk_of (cs := [0, 1, 3, 7, 0, 31, 63, 127, 127, 255, 1023]) (by decide +kernel) ?_) ?_
  · simp +contextual [allP, apP, Dis, acc_rd, acc_wr, accw_rd, accw_wr, Nat.testBit]
  repeat' (first | refine WpC.seq ?_ | refine WpC.region ?_ | refine WpC.drawn ?_ | refine WpC.skip ?_ | refine WpC.block ?_ | refine WpC.exit ?_ | refine WpC.ret ?_ | refine WpO.nil ?_ | refine WpO.cons rfl rfl (WpX.pure (fun _ => rfl) ⟨nolog, ?_⟩) | refine WpO.skip rfl rfl ?_ | refine WpL.cons rfl rfl (WpX.pure (fun _ => rfl) ⟨nolog, ?_⟩) | refine WpL.skip rfl rfl ?_ | refine seqQ_normal ?_ | refine seqQ_ret ?_ | refine seqQ_exit ?_ | refine blkQ_normal ?_ | refine blkQ_ret ?_ | refine blkQ_out rfl ?_ | refine blkQ_by rfl ?_)
  refine WpC.cond rfl (fun _ => ?_) (fun hb => by cases hb)
  repeat' (first | refine WpC.seq ?_ | refine WpC.region ?_ | refine WpC.drawn ?_ | refine WpC.skip ?_ | refine WpC.block ?_ | refine WpC.exit ?_ | refine WpC.ret ?_ | refine WpO.nil ?_ | refine WpO.cons rfl rfl (WpX.pure (fun _ => rfl) ⟨nolog, ?_⟩) | refine WpO.skip rfl rfl ?_ | refine WpL.cons rfl rfl (WpX.pure (fun _ => rfl) ⟨nolog, ?_⟩) | refine WpL.skip rfl rfl ?_ | refine seqQ_normal ?_ | refine seqQ_ret ?_ | refine seqQ_exit ?_ | refine blkQ_normal ?_ | refine blkQ_ret ?_ | refine blkQ_out rfl ?_ | refine blkQ_by rfl ?_)
  refine out_ret rfl ⟨rfl, fun m hm => ?_⟩
  rw [hf6 m (by omega), hf5 m (by omega)]; exact MapI.get_ne _ _ _ _ (by omega)
end
end Go.Proofs.Ytempfmkicpifkaa


set_option linter.unusedVariables false
set_option linter.unusedSectionVars false
set_option linter.unusedSimpArgs false
set_option linter.unnecessarySimpa false
namespace Go.Proofs.Ytempfmkicpifkaa
open Go.Ab
set_option maxRecDepth 10000

section
variable {h h' : HH} {c c' hp a sp : Nat} {vW vR vX : V} {W R X : List Int} {size most : Int} {l : List (Nat × Hd)}

/-- So many fields are written. -/
theorem fill_step {A : List Int} {w : Int} {X : List Int} {i : Nat} {x : Int} (hi : X[i]? = some x) : (A ++ w :: (X.take i ++ List.replicate (X.length - i) 0)).set (A.length + 1 + i) x = A ++ w :: (X.take (i + 1) ++ List.replicate (X.length - (i + 1)) 0) := by
  have hlt := (List.getElem?_eq_some_iff.1 hi).1
  have e : A.length + 1 + i - A.length = i + 1 := by omega
  have hl : (X.take i).length = i := by rw [List.length_take]; omega
  rw [List.set_append_right _ _ (by omega), e, List.set_cons_succ, List.set_append_right _ _ (by omega), hl, Nat.sub_self, show X.length - i = (X.length - (i + 1)) + 1 from by omega, List.replicate_succ, List.set_cons_zero, List.take_add_one, hi]
  simp

set_option maxHeartbeats 1000000 in
theorem hmake_ok {n t : Int} (r : HeapAt h c hp a sp vW W size most) (rx : RowOf 1 wordV h c vX X) (hX : (X.length : Int) = n) (hx : okH (tupH n t)) (hXW : ∀ m ∈ rowName vX, m ∉ hn hp a vW) (hok : ∀ w ∈ X, okW w) (hle : (W.length : Int) + 1 + n ≤ size) : Does 38 [.ptr (some (hp, 0)), .agg (hdV (tupH n t)), vX] h c (hn hp a vW ++ rowName vX) fun v h' c' => v = .tuple [U (ptrW W.length), .bool true] ∧ ∃ vW', HeapAt h' c' hp a sp vW' (W ++ makeW (tupH n t) :: X) size most ∧ (∀ n ∈ rowName vW', n ∈ rowName vW ∨ c ≤ n) ∧ ∀ m, m < c → m ∉ an a vW → MapI.get h' m = MapI.get h m := by
  have hobj := r.obj
  have hlh := r.lh
  have hsep := r.sep
  have hmo := r.mo
  have hmx := r.mx
  have hla := r.ar.la
  have hnm := r.names
  have hsub1 : ∀ m ∈ [hp], m ∈ hn hp a vW ++ rowName vX ∨ c ≤ m := fun m hm => .inl (by simp at hm; rw [hm]; exact List.mem_append_left _ (List.mem_cons_self ..))
  have hsub2 : ∀ m ∈ an a vW, m ∈ hn hp a vW ++ rowName vX ∨ c ≤ m := fun m hm => .inl (List.mem_append_left _ (List.mem_cons_of_mem _ hm))
  obtain ⟨b, cap, rfl, hshape⟩ := rx.shape
  have hlt := rx.lt
  subst hX
  have hx0 := hx
  unfold okH at hx0
  simp only at hx0
  have r1 : ∀ o, HeapAt (MapI.set h c o) (c + 1) hp a sp vW W size most := fun o => r.same (by omega) fun m hm => MapI.get_ne _ _ _ _ (by omega)
  refine does_of (enter (fn := Try.f38) Try.func38 rfl rfl (Nat.le_of_ble_eq_true rfl) ?_)
  repeat' (first | refine WpC.seq ?_ | refine WpC.region ?_ | refine WpC.drawn ?_ | refine WpC.skip ?_ | refine WpC.block ?_ | refine WpC.exit ?_ | refine WpC.ret ?_ | refine WpO.nil ?_ | refine WpO.cons rfl rfl (WpX.pure (fun _ => rfl) ⟨nolog, ?_⟩) | refine WpO.skip rfl rfl ?_ | refine WpL.cons rfl rfl (WpX.pure (fun _ => rfl) ⟨nolog, ?_⟩) | refine WpL.skip rfl rfl ?_ | refine seqQ_normal ?_ | refine seqQ_ret ?_ | refine seqQ_exit ?_ | refine blkQ_normal ?_ | refine blkQ_ret ?_ | refine blkQ_out rfl ?_ | refine blkQ_by rfl ?_ | refine WpO.cons rfl rfl (op_box rfl ⟨(by simp [InL, Acc.name, rowName] <;> omega), ?_⟩) | refine WpL.cons rfl rfl (op_box rfl ⟨(by simp [InL, Acc.name, rowName] <;> omega), ?_⟩))
  refine WpO.cons rfl rfl (call_atD rfl (alive_ok (r1 _)) hsub1 (by omega) fun v4 h4 c4 hc4 hfr4 hq => ?_)
  obtain ⟨rfl, rfl, rfl⟩ := hq
  repeat' (first | refine WpC.seq ?_ | refine WpC.region ?_ | refine WpC.drawn ?_ | refine WpC.skip ?_ | refine WpC.block ?_ | refine WpC.exit ?_ | refine WpC.ret ?_ | refine WpO.nil ?_ | refine WpO.cons rfl rfl (WpX.pure (fun _ => rfl) ⟨nolog, ?_⟩) | refine WpO.skip rfl rfl ?_ | refine WpL.cons rfl rfl (WpX.pure (fun _ => rfl) ⟨nolog, ?_⟩) | refine WpL.skip rfl rfl ?_ | refine seqQ_normal ?_ | refine seqQ_ret ?_ | refine seqQ_exit ?_ | refine blkQ_normal ?_ | refine blkQ_ret ?_ | refine blkQ_out rfl ?_ | refine blkQ_by rfl ?_ | refine WpO.cons rfl rfl (op_len rfl rfl rfl ⟨(by simp [InL, Acc.name, rowName] <;> omega), ?_⟩) | refine WpL.cons rfl rfl (op_len rfl rfl rfl ⟨(by simp [InL, Acc.name, rowName] <;> omega), ?_⟩) | refine WpO.cons rfl rfl (op_load rfl rfl rfl (MapI.get_same _ _ _) rfl ⟨(by simp [InL, Acc.name, rowName] <;> omega), ?_⟩) | refine WpL.cons rfl rfl (op_load rfl rfl rfl (MapI.get_same _ _ _) rfl ⟨(by simp [InL, Acc.name, rowName] <;> omega), ?_⟩))
  refine WpC.cond rfl (fun hb => absurd hb (by simp)) (fun _ => ?_)
  repeat' (first | refine WpC.seq ?_ | refine WpC.region ?_ | refine WpC.drawn ?_ | refine WpC.skip ?_ | refine WpC.block ?_ | refine WpC.exit ?_ | refine WpC.ret ?_ | refine WpO.nil ?_ | refine WpO.cons rfl rfl (WpX.pure (fun _ => rfl) ⟨nolog, ?_⟩) | refine WpO.skip rfl rfl ?_ | refine WpL.cons rfl rfl (WpX.pure (fun _ => rfl) ⟨nolog, ?_⟩) | refine WpL.skip rfl rfl ?_ | refine seqQ_normal ?_ | refine seqQ_ret ?_ | refine seqQ_exit ?_ | refine blkQ_normal ?_ | refine blkQ_ret ?_ | refine blkQ_out rfl ?_ | refine blkQ_by rfl ?_ | refine WpO.cons rfl rfl (op_loadA rfl rfl rfl rfl (MapI.get_same _ _ _) rfl ⟨(by simp [InL, Acc.name, rowName] <;> omega), ?_⟩) | refine WpL.cons rfl rfl (op_loadA rfl rfl rfl rfl (MapI.get_same _ _ _) rfl ⟨(by simp [InL, Acc.name, rowName] <;> omega), ?_⟩))
  refine WpO.cons rfl rfl (call_at rfl handle_ok (fun n hn => by cases hn) (by omega) fun v5 h5 c5 hc5 _ hq => ?_)
  obtain ⟨rfl, hf5⟩ := hq
  have r5 := (r1 (.cells true true (hdV (tupH X.length t)))).same hc5 hf5
  have hobj5 := r5.obj
  have hg5 : MapI.get h5 c = some (.cells true true (hdV (tupH X.length t))) := by rw [hf5 c (by omega)]; exact MapI.get_same _ _ _
  repeat' (first | refine WpC.seq ?_ | refine WpC.region ?_ | refine WpC.drawn ?_ | refine WpC.skip ?_ | refine WpC.block ?_ | refine WpC.exit ?_ | refine WpC.ret ?_ | refine WpO.nil ?_ | refine WpO.cons rfl rfl (WpX.pure (fun _ => rfl) ⟨nolog, ?_⟩) | refine WpO.skip rfl rfl ?_ | refine WpL.cons rfl rfl (WpX.pure (fun _ => rfl) ⟨nolog, ?_⟩) | refine WpL.skip rfl rfl ?_ | refine seqQ_normal ?_ | refine seqQ_ret ?_ | refine seqQ_exit ?_ | refine blkQ_normal ?_ | refine blkQ_ret ?_ | refine blkQ_out rfl ?_ | refine blkQ_by rfl ?_)
  refine WpC.cond rfl (fun hb => by cases hb) (fun _ => ?_)
  repeat' (first | refine WpC.seq ?_ | refine WpC.region ?_ | refine WpC.drawn ?_ | refine WpC.skip ?_ | refine WpC.block ?_ | refine WpC.exit ?_ | refine WpC.ret ?_ | refine WpO.nil ?_ | refine WpO.cons rfl rfl (WpX.pure (fun _ => rfl) ⟨nolog, ?_⟩) | refine WpO.skip rfl rfl ?_ | refine WpL.cons rfl rfl (WpX.pure (fun _ => rfl) ⟨nolog, ?_⟩) | refine WpL.skip rfl rfl ?_ | refine seqQ_normal ?_ | refine seqQ_ret ?_ | refine seqQ_exit ?_ | refine blkQ_normal ?_ | refine blkQ_ret ?_ | refine blkQ_out rfl ?_ | refine blkQ_by rfl ?_ | refine WpO.cons rfl rfl (op_load rfl rfl rfl hobj5 rfl ⟨(by simp [InL, Acc.name, rowName] <;> omega), ?_⟩) | refine WpL.cons rfl rfl (op_load rfl rfl rfl hobj5 rfl ⟨(by simp [InL, Acc.name, rowName] <;> omega), ?_⟩) | refine WpO.cons rfl rfl (op_loadA rfl rfl rfl rfl hg5 rfl ⟨(by simp [InL, Acc.name, rowName] <;> omega), ?_⟩) | refine WpL.cons rfl rfl (op_loadA rfl rfl rfl rfl hg5 rfl ⟨(by simp [InL, Acc.name, rowName] <;> omega), ?_⟩))
  refine WpL.cons rfl rfl (call_atL rfl (fresh_ok r5.ar hx (by simp only; omega)) hsub2 (by omega) fun v6 h6 c6 al6 hal6 hc6 hf6 hq => ?_)
  obtain ⟨rfl, vW6, hA6, hn6⟩ := hq
  repeat' (first | refine WpC.seq ?_ | refine WpC.region ?_ | refine WpC.drawn ?_ | refine WpC.skip ?_ | refine WpC.block ?_ | refine WpC.exit ?_ | refine WpC.ret ?_ | refine WpO.nil ?_ | refine WpO.cons rfl rfl (WpX.pure (fun _ => rfl) ⟨nolog, ?_⟩) | refine WpO.skip rfl rfl ?_ | refine WpL.cons rfl rfl (WpX.pure (fun _ => rfl) ⟨nolog, ?_⟩) | refine WpL.skip rfl rfl ?_ | refine seqQ_normal ?_ | refine seqQ_ret ?_ | refine seqQ_exit ?_ | refine blkQ_normal ?_ | refine blkQ_ret ?_ | refine blkQ_out rfl ?_ | refine blkQ_by rfl ?_)
  refine WpL.nil (logsOk_of (cs := [0, 1, 3, 7, 0, 31, 63, 127, 127, 255, 1023]) (by decide +kernel) ?_) ?_
  · simp +contextual [allP, apP, Dis, acc_rd, acc_wr, accw_rd, accw_wr, Nat.testBit]
  repeat' (first | refine WpC.seq ?_ | refine WpC.region ?_ | refine WpC.drawn ?_ | refine WpC.skip ?_ | refine WpC.block ?_ | refine WpC.exit ?_ | refine WpC.ret ?_ | refine WpO.nil ?_ | refine WpO.cons rfl rfl (WpX.pure (fun _ => rfl) ⟨nolog, ?_⟩) | refine WpO.skip rfl rfl ?_ | refine WpL.cons rfl rfl (WpX.pure (fun _ => rfl) ⟨nolog, ?_⟩) | refine WpL.skip rfl rfl ?_ | refine seqQ_normal ?_ | refine seqQ_ret ?_ | refine seqQ_exit ?_ | refine blkQ_normal ?_ | refine blkQ_ret ?_ | refine blkQ_out rfl ?_ | refine blkQ_by rfl ?_)
  refine WpC.cond rfl (fun hb => by cases hb) (fun _ => ?_)
  have hsep6 : hp ∉ an a vW6 := fun hh => by
    rcases List.mem_cons.1 hh with h | h
    · exact hsep (by rw [h]; exact List.mem_cons_self ..)
    · rcases hn6 _ h with h | h
      · exact hsep (List.mem_cons_of_mem _ h)
      · omega
  have hfr6 : ∀ m, m < c → m ∉ an a vW → MapI.get h6 m = MapI.get h m := fun m hm hna => by
    rw [hf6 m (by omega) hna, hf5 m (by omega)]; exact MapI.get_ne _ _ _ _ (by omega)
  have hn6' : ∀ n ∈ rowName vW6, n ∈ rowName vW ∨ c ≤ n := fun n hn => (hn6 n hn).imp id fun h => by omega
  rw [show ((tupH (X.length : Int) t).size).toNat = X.length from by simp] at hA6
  have hpn : hp ∉ an a vW := hsep
  have hobj6 : MapI.get h6 hp = _ := (hfr6 hp hlh hpn).trans hobj
  have hvp : valW (ptrW W.length) = W.length := val_of ⟨by decide, by decide⟩ (by unfold fitsW; have := r.ar.le; omega)
  have hokp : okW (ptrW W.length) := ofW_ok ⟨by decide, by decide⟩
  generalize hpw : ptrW W.length = pw at hvp hokp
  repeat' (first | refine WpC.seqI (a := Code.seq (Code.region 9 _ _) _) (fun e' h' c' => (∃ b0, e' = FR b0 [(8, I 0), (9, U pw)]) ∧ c ≤ c' ∧ ∃ vW', HeapAt h' c' hp a sp vW' (W ++ makeW (tupH X.length t) :: X) size most ∧ (∀ n ∈ rowName vW', n ∈ rowName vW ∨ c ≤ n) ∧ ∀ m, m < c → m ∉ an a vW → MapI.get h' m = MapI.get h m) ?_ ?_ | refine WpC.seq ?_ | refine WpC.region ?_ | refine WpC.drawn ?_ | refine WpC.skip ?_ | refine WpC.block ?_ | refine WpC.exit ?_ | refine WpC.ret ?_ | refine WpO.nil ?_ | refine WpO.cons rfl rfl (WpX.pure (fun _ => rfl) ⟨nolog, ?_⟩) | refine WpO.skip rfl rfl ?_ | refine WpL.cons rfl rfl (WpX.pure (fun _ => rfl) ⟨nolog, ?_⟩) | refine WpL.skip rfl rfl ?_ | refine seqQ_normal ?_ | refine seqQ_ret ?_ | refine seqQ_exit ?_ | refine blkQ_normal ?_ | refine blkQ_ret ?_ | refine blkQ_out rfl ?_ | refine blkQ_by rfl ?_)
  ·
    repeat' (first | refine WpC.seq ?_ | refine WpC.region ?_ | refine WpC.drawn ?_ | refine WpC.skip ?_ | refine WpC.block ?_ | refine WpC.exit ?_ | refine WpC.ret ?_ | refine WpO.nil ?_ | refine WpO.cons rfl rfl (WpX.pure (fun _ => rfl) ⟨nolog, ?_⟩) | refine WpO.skip rfl rfl ?_ | refine WpL.cons rfl rfl (WpX.pure (fun _ => rfl) ⟨nolog, ?_⟩) | refine WpL.skip rfl rfl ?_ | refine seqQ_normal ?_ | refine seqQ_ret ?_ | refine seqQ_exit ?_ | refine blkQ_normal ?_ | refine blkQ_ret ?_ | refine blkQ_out rfl ?_ | refine blkQ_by rfl ?_ | refine WpO.cons rfl rfl (op_len rfl rfl rfl ⟨(by simp [InL, Acc.name, rowName] <;> omega), ?_⟩) | refine WpL.cons rfl rfl (op_len rfl rfl rfl ⟨(by simp [InL, Acc.name, rowName] <;> omega), ?_⟩))
    refine WpC.loop ?_
    refine WpLoop.ind (X := Nat × V) (fun y e' h' c' => (∃ b0, e' = FR b0 [(0, V.ptr (some (hp, 0))), (8, I 0), (9, U pw), (48, .slice b X.length cap), (49, I X.length), (50, I y.1)]) ∧ y.1 ≤ X.length ∧ c6 ≤ c' ∧ HeapAt h' c' hp a sp y.2 (W ++ makeW (tupH X.length t) :: (X.take y.1 ++ List.replicate (X.length - y.1) 0)) size most ∧ (∀ n ∈ rowName y.2, n ∈ rowName vW ∨ c ≤ n) ∧ ∀ m, m < c → m ∉ an a vW → MapI.get h' m = MapI.get h m)
      (fun y => X.length - y.1) ?_ (0, vW6) _ _ _ ⟨fr ⟨rfl, rfl, rfl, rfl, rfl, rfl, trivial⟩, Nat.zero_le _, Nat.le_refl _, ⟨hobj6, by rw [List.take_zero, List.nil_append, Nat.sub_zero]; exact hA6, by omega, hsep6, hmo, r.m0, hmx⟩, hn6', hfr6⟩
    rintro ⟨i, v⟩ e' h' c' ⟨⟨b0, rfl⟩, hi, hc', rr, hnv, hfv⟩
    simp only at hi rr hnv
    have hobj' := rr.obj
    repeat' (first | refine WpC.seq ?_ | refine WpC.region ?_ | refine WpC.drawn ?_ | refine WpC.skip ?_ | refine WpC.block ?_ | refine WpC.exit ?_ | refine WpC.ret ?_ | refine WpO.nil ?_ | refine WpO.cons rfl rfl (WpX.pure (fun _ => rfl) ⟨nolog, ?_⟩) | refine WpO.skip rfl rfl ?_ | refine WpL.cons rfl rfl (WpX.pure (fun _ => rfl) ⟨nolog, ?_⟩) | refine WpL.skip rfl rfl ?_ | refine seqQ_normal ?_ | refine seqQ_ret ?_ | refine seqQ_exit ?_ | refine blkQ_normal ?_ | refine blkQ_ret ?_ | refine blkQ_out rfl ?_ | refine blkQ_by rfl ?_)
    refine WpC.cond rfl (fun hlt => ?_) (fun hge => ?_)
    case refine_2 =>
      have hge : X.length ≤ i := by simpa using hge
      have hie : i = X.length := by omega
      subst hie
      rw [List.take_of_length_le (Nat.le_refl _), Nat.sub_self, List.replicate_zero, List.append_nil] at rr
      repeat' (first | refine WpC.seq ?_ | refine WpC.region ?_ | refine WpC.drawn ?_ | refine WpC.skip ?_ | refine WpC.block ?_ | refine WpC.exit ?_ | refine WpC.ret ?_ | refine WpO.nil ?_ | refine WpO.cons rfl rfl (WpX.pure (fun _ => rfl) ⟨nolog, ?_⟩) | refine WpO.skip rfl rfl ?_ | refine WpL.cons rfl rfl (WpX.pure (fun _ => rfl) ⟨nolog, ?_⟩) | refine WpL.skip rfl rfl ?_ | refine seqQ_normal ?_ | refine seqQ_ret ?_ | refine seqQ_exit ?_ | refine blkQ_normal ?_ | refine blkQ_ret ?_ | refine blkQ_out rfl ?_ | refine blkQ_by rfl ?_)
      refine ⟨fr ?_, by omega, v, rr, hnv, hfv⟩
      exact ⟨rfl, rfl, trivial⟩
    have hlt' : i < X.length := by simpa using hlt
    obtain ⟨x, hxi⟩ : ∃ z, X[i]? = some z := ⟨_, List.getElem?_eq_getElem hlt'⟩
    obtain ⟨sn, cl, junk, rfl, hsn, hg⟩ := hshape i hlt'
    have hsv : sn ∉ an a vW := fun hh => hXW sn (by simp [rowName]) (List.mem_cons_of_mem _ hh)
    have hg' : MapI.get h' sn = _ := (hfv sn hsn hsv).trans hg
    have hz : nth (flat wordV X ++ junk) (0 + ((i : Nat) : Int).toNat * 1) = some (U x) := by
      rw [show 0 + ((i : Nat) : Int).toNat * 1 = i from by simp]
      exact nth_flat0 word_len hxi rfl junk
    have hWl := r.ar.le
    have hw1 : IntKind.i64.wrap ((i : Int) + 1) = ((i + 1 : Nat) : Int) := by rw [Go.IntWalk.i64_in _ (by omega)]; omega
    have hw2 : IntKind.i64.wrap (IntKind.i64.wrap ((W.length : Int) + 1) + (i : Int)) = ((W.length + 1 + i : Nat) : Int) := by rw [Go.IntWalk.i64_in ((W.length : Int) + 1) (by omega), Go.IntWalk.i64_in _ (by omega)]; omega
    repeat' (first | refine WpC.seq ?_ | refine WpC.region ?_ | refine WpC.drawn ?_ | refine WpC.skip ?_ | refine WpC.block ?_ | refine WpC.exit ?_ | refine WpC.ret ?_ | refine WpO.nil ?_ | refine WpO.cons rfl rfl (WpX.pure (fun _ => rfl) ⟨nolog, ?_⟩) | refine WpO.skip rfl rfl ?_ | refine WpL.cons rfl rfl (WpX.pure (fun _ => rfl) ⟨nolog, ?_⟩) | refine WpL.skip rfl rfl ?_ | refine seqQ_normal ?_ | refine seqQ_ret ?_ | refine seqQ_exit ?_ | refine blkQ_normal ?_ | refine blkQ_ret ?_ | refine blkQ_out rfl ?_ | refine blkQ_by rfl ?_ | refine WpO.cons rfl rfl (op_indexAddr (k := 1) rfl rfl rfl rfl ⟨by omega, by omega⟩ ⟨(by simp [InL, Acc.name, rowName] <;> omega), ?_⟩) | refine WpL.cons rfl rfl (op_indexAddr (k := 1) rfl rfl rfl rfl ⟨by omega, by omega⟩ ⟨(by simp [InL, Acc.name, rowName] <;> omega), ?_⟩) | refine WpO.cons rfl rfl (op_load rfl rfl rfl hg' hz ⟨(by simp [InL, Acc.name, rowName] <;> omega), ?_⟩) | refine WpL.cons rfl rfl (op_load rfl rfl rfl hg' hz ⟨(by simp [InL, Acc.name, rowName] <;> omega), ?_⟩) | refine WpO.cons rfl rfl (op_load rfl rfl rfl hobj' rfl ⟨(by simp [InL, Acc.name, rowName] <;> omega), ?_⟩) | refine WpL.cons rfl rfl (op_load rfl rfl rfl hobj' rfl ⟨(by simp [InL, Acc.name, rowName] <;> omega), ?_⟩))
    refine WpL.cons rfl rfl (call_atRL rfl (val_okR hokp) (fun n hn => by cases hn) (by omega) fun v7 h7 c7 al7 hal7 hc7 hf7 hq => ?_)
    obtain ⟨rfl, rfl, rfl⟩ := hq
    rw [hvp]
    repeat' (first | refine WpC.seq ?_ | refine WpC.region ?_ | refine WpC.drawn ?_ | refine WpC.skip ?_ | refine WpC.block ?_ | refine WpC.exit ?_ | refine WpC.ret ?_ | refine WpO.nil ?_ | refine WpO.cons rfl rfl (WpX.pure (fun _ => rfl) ⟨nolog, ?_⟩) | refine WpO.skip rfl rfl ?_ | refine WpL.cons rfl rfl (WpX.pure (fun _ => rfl) ⟨nolog, ?_⟩) | refine WpL.skip rfl rfl ?_ | refine seqQ_normal ?_ | refine seqQ_ret ?_ | refine seqQ_exit ?_ | refine blkQ_normal ?_ | refine blkQ_ret ?_ | refine blkQ_out rfl ?_ | refine blkQ_by rfl ?_)
    refine WpL.cons rfl rfl (call_atL rfl (set_ok rr.ar (j := W.length + 1 + i) hw2 (by simp; omega) (hok x (List.mem_of_getElem? hxi))) (ms := hn hp a vW ++ rowName (.slice (some (sn, 0)) X.length cap)) (c0 := c) (fun n hn => ?_) (by omega) fun v8 h8 c8 al8 hal8 hc8 hf8 hq => ?_)
    · rcases List.mem_cons.1 hn with h | h
      · exact .inl (List.mem_append_left _ (by rw [h]; exact List.mem_cons_of_mem _ (List.mem_cons_self ..)))
      · rcases hnv n h with h | h
        · exact .inl (List.mem_append_left _ (List.mem_cons_of_mem _ (List.mem_cons_of_mem _ h)))
        · exact .inr h
    obtain ⟨rfl, rfl, r8, _⟩ := hq
    rw [fill_step hxi] at r8
    have hal7' : ∀ x ∈ al7, hp = x.name → x.writes = false := fun x hx e => by
      cases hw : x.writes with
      | false => rfl
      | true => have := (hal7 x hx).2 hw; have := rr.lh; omega
    repeat' (first | refine WpC.seq ?_ | refine WpC.region ?_ | refine WpC.drawn ?_ | refine WpC.skip ?_ | refine WpC.block ?_ | refine WpC.exit ?_ | refine WpC.ret ?_ | refine WpO.nil ?_ | refine WpO.cons rfl rfl (WpX.pure (fun _ => rfl) ⟨nolog, ?_⟩) | refine WpO.skip rfl rfl ?_ | refine WpL.cons rfl rfl (WpX.pure (fun _ => rfl) ⟨nolog, ?_⟩) | refine WpL.skip rfl rfl ?_ | refine seqQ_normal ?_ | refine seqQ_ret ?_ | refine seqQ_exit ?_ | refine blkQ_normal ?_ | refine blkQ_ret ?_ | refine blkQ_out rfl ?_ | refine blkQ_by rfl ?_)
    refine WpL.nil (logsOk_of (cs := [0, 1, 3, 7, 0, 16, 48, 0, 240, 0, 1023]) (by decide +kernel) ?_) ?_
    · simp +contextual [allP, apP, Dis, acc_rd, acc_wr, accw_rd, accw_wr, Nat.testBit, hal7']
    repeat' (first | refine WpC.seq ?_ | refine WpC.region ?_ | refine WpC.drawn ?_ | refine WpC.skip ?_ | refine WpC.block ?_ | refine WpC.exit ?_ | refine WpC.ret ?_ | refine WpO.nil ?_ | refine WpO.cons rfl rfl (WpX.pure (fun _ => rfl) ⟨nolog, ?_⟩) | refine WpO.skip rfl rfl ?_ | refine WpL.cons rfl rfl (WpX.pure (fun _ => rfl) ⟨nolog, ?_⟩) | refine WpL.skip rfl rfl ?_ | refine seqQ_normal ?_ | refine seqQ_ret ?_ | refine seqQ_exit ?_ | refine blkQ_normal ?_ | refine blkQ_ret ?_ | refine blkQ_out rfl ?_ | refine blkQ_by rfl ?_)
    have hpv : hp ∉ an a v := rr.sep
    refine ⟨(i + 1, v), by simp only; omega, ?_, by simp only; omega, by omega, ⟨?_, r8, rr.lh, rr.sep, rr.mo, rr.m0, rr.mx⟩, hnv, fun m hm hma => ?_⟩
    · rw [hw1]
      exact fr ⟨rfl, rfl, rfl, rfl, rfl, rfl, trivial⟩
    · rw [hf8 hp rr.lh hpv]; exact hobj'
    · rw [hf8 m (by omega) (fun hh => ?_)]
      · exact hfv m hm hma
      · rcases List.mem_cons.1 hh with h | h
        · exact hma (by rw [h]; exact List.mem_cons_self ..)
        · rcases hnv m h with h | h
          · exact hma (List.mem_cons_of_mem _ h)
          · omega
  rintro e' h' c' ⟨⟨b0, rfl⟩, hc', vW', rr, hnv, hfv⟩
  repeat' (first | refine WpC.seq ?_ | refine WpC.region ?_ | refine WpC.drawn ?_ | refine WpC.skip ?_ | refine WpC.block ?_ | refine WpC.exit ?_ | refine WpC.ret ?_ | refine WpO.nil ?_ | refine WpO.cons rfl rfl (WpX.pure (fun _ => rfl) ⟨nolog, ?_⟩) | refine WpO.skip rfl rfl ?_ | refine WpL.cons rfl rfl (WpX.pure (fun _ => rfl) ⟨nolog, ?_⟩) | refine WpL.skip rfl rfl ?_ | refine seqQ_normal ?_ | refine seqQ_ret ?_ | refine seqQ_exit ?_ | refine blkQ_normal ?_ | refine blkQ_ret ?_ | refine blkQ_out rfl ?_ | refine blkQ_by rfl ?_)
  refine WpC.cond rfl (fun hb => by cases hb) (fun _ => ?_)
  repeat' (first | refine WpC.seq ?_ | refine WpC.region ?_ | refine WpC.drawn ?_ | refine WpC.skip ?_ | refine WpC.block ?_ | refine WpC.exit ?_ | refine WpC.ret ?_ | refine WpO.nil ?_ | refine WpO.cons rfl rfl (WpX.pure (fun _ => rfl) ⟨nolog, ?_⟩) | refine WpO.skip rfl rfl ?_ | refine WpL.cons rfl rfl (WpX.pure (fun _ => rfl) ⟨nolog, ?_⟩) | refine WpL.skip rfl rfl ?_ | refine seqQ_normal ?_ | refine seqQ_ret ?_ | refine seqQ_exit ?_ | refine blkQ_normal ?_ | refine blkQ_ret ?_ | refine blkQ_out rfl ?_ | refine blkQ_by rfl ?_)
  exact out_ret rfl ⟨rfl, vW', rr, hnv, hfv⟩
end
end Go.Proofs.Ytempfmkicpifkaa


set_option linter.unusedVariables false
set_option linter.unusedSectionVars false
set_option linter.unusedSimpArgs false
set_option linter.unnecessarySimpa false
namespace Go.Proofs.Ytempfmkicpifkaa
open Go.Ab

def Tup (x : Hd) : Prop := x.kind = 1 ∧ okH x
def tupW (x : Hd) : List Int := makeW x :: List.replicate x.size.toNat 0
def flatW (ss : List Hd) : List Int := ss.flatMap tupW
def objL : Nat → List Hd → List (Nat × Hd)
  | _, [] => []
  | i, x :: ss => (i, x) :: objL (i + 1 + x.size.toNat) ss
theorem flatW_cons (x : Hd) (ss : List Hd) : flatW (x :: ss) = tupW x ++ flatW ss := by simp [flatW]
theorem flatW_app (s t : List Hd) : flatW (s ++ t) = flatW s ++ flatW t := by simp [flatW]
theorem flatW_one (x : Hd) : flatW [x] = tupW x := by simp [flatW]
theorem tupW_len (x : Hd) : (tupW x).length = 1 + x.size.toNat := by simp [tupW]; omega
theorem objL_app : ∀ (s t : List Hd) (i : Nat), objL i (s ++ t) = objL i s ++ objL (i + (flatW s).length) t
  | [], t, i => by simp [objL, flatW]
  | x :: s, t, i => by
    simp only [List.cons_append, objL, objL_app s t, flatW_cons, List.length_append, tupW_len]
    rw [show i + 1 + x.size.toNat + (flatW s).length = i + (1 + x.size.toNat + (flatW s).length) from by omega]
theorem objL_snd : ∀ (s : List Hd) (i : Nat), (objL i s).map Prod.snd = s
  | [], _ => rfl
  | x :: s, i => by simp only [objL, List.map_cons, objL_snd s]
theorem objL_words : ∀ (ss : List Hd) (A : List Int) {p : Nat} {x : Hd}, (p, x) ∈ objL A.length ss → ∃ B C, A ++ flatW ss = B ++ (tupW x ++ C) ∧ B.length = p ∧ x ∈ ss
  | [], _, _, _, h => by cases h
  | y :: ss, A, p, x, h => by
    rcases List.mem_cons.1 h with h | h
    · cases h
      exact ⟨A, flatW ss, by rw [flatW_cons], rfl, List.mem_cons_self ..⟩
    · rw [show A.length + 1 + y.size.toNat = (A ++ tupW y).length from by rw [List.length_append, tupW_len]; omega] at h
      obtain ⟨B, C, e, hB, hx⟩ := objL_words ss (A ++ tupW y) h
      exact ⟨B, C, by rw [flatW_cons, ← e, List.append_assoc], hB, List.mem_cons_of_mem _ hx⟩
theorem objL_from : ∀ (ss : List Hd) (A : List Int), (∀ x ∈ ss, Tup x) → ObjsFrom (A ++ flatW ss) A.length (objL A.length ss)
  | [], A, _ => by
    have e : A ++ flatW [] = A := by simp [flatW]
    rw [e]; exact .nil
  | y :: ss, A, h => by
    have hy := (h y (List.mem_cons_self ..)).2
    have hok := hy
    unfold okH at hok
    refine .cons (objW_mk (w := makeW y) ?_ (read_make hy) ?_) ?_
    · rw [flatW_cons, List.getElem?_append_right (Nat.le_refl _), Nat.sub_self]; rfl
    · rw [flatW_cons, List.length_append, List.length_append, tupW_len]; push_cast; omega
    · have := objL_from ss (A ++ tupW y) fun x hx => h x (List.mem_cons_of_mem _ hx)
      rw [List.append_assoc, ← flatW_cons, show (A ++ tupW y).length = A.length + 1 + y.size.toNat from by rw [List.length_append, tupW_len]; omega] at this
      exact this
theorem flat_tag {ss : List Hd} {w : Int} (h : w ∈ flatW ss) : tagW w ≠ 5 := by
  obtain ⟨x, _, hw⟩ := List.mem_flatMap.1 h
  rcases List.mem_cons.1 hw with e | hw
  · rw [e, make_tag]; decide
  · rw [List.eq_of_mem_replicate hw]; decide
theorem flat_getD (ss : List Hd) (i : Nat) : tagW ((flatW ss)[i]?.getD 0) ≠ 5 := by
  cases e : (flatW ss)[i]? with
  | none => show tagW 0 ≠ 5; decide
  | some w => exact flat_tag (List.mem_of_getElem? e)
theorem ptr_val {p : Nat} (h : p ≤ 100000000) : valW (ptrW p) = p := val_of ⟨by decide, by decide⟩ (by unfold fitsW; omega)
theorem ptr_tag (p : Nat) : tagW (ptrW p) = 5 := tag_of ⟨by decide, by decide⟩

/-- Roots at objects, in order. -/
structure FlatI (ss : List Hd) (ps : List Nat) : Prop where
  tup : ∀ x ∈ ss, Tup x
  sorted : ps.Pairwise (· < ·)
  at' : ∀ p ∈ ps, ∃ x, (p, x) ∈ objL 0 ss
  len : (flatW ss).length ≤ 1048576

section
variable {ss : List Hd} {ps : List Nat}
theorem FlatI.objs (f : FlatI ss ps) : ObjsFrom (flatW ss) 0 (objL 0 ss) := by
  have := objL_from ss [] f.tup
  simpa using this
theorem FlatI.words (f : FlatI ss ps) {p : Nat} {x : Hd} (h : (p, x) ∈ objL 0 ss) : ∃ B C, flatW ss = B ++ (tupW x ++ C) ∧ B.length = p ∧ x ∈ ss := by
  obtain ⟨B, C, e, h1, h2⟩ := objL_words ss [] h
  exact ⟨B, C, by simpa using e, h1, h2⟩
theorem FlatI.small (f : FlatI ss ps) {p : Nat} (h : p ∈ ps) : p ≤ 100000000 := by
  obtain ⟨x, hx⟩ := f.at' p h
  obtain ⟨B, C, e, h1, _⟩ := f.words hx
  have hl := f.len
  rw [e] at hl
  simp only [List.length_append] at hl
  omega
theorem FlatI.sound (f : FlatI ss ps) : SoundW (flatW ss) (ps.map ptrW) (objL 0 ss) := by
  refine ⟨f.objs, fun w hw => ?_, fun p hp => ?_, fun p hp k w hk hw => ?_⟩
  · obtain ⟨p, hp, rfl⟩ := List.mem_map.1 hw
    obtain ⟨x, hx⟩ := f.at' p hp
    refine ⟨by rw [ptr_tag]; decide, by rw [ptr_tag]; decide, fun _ => ⟨(p, x), hx, ptr_val (f.small hp)⟩⟩
  · obtain ⟨p, x⟩ := p
    obtain ⟨_, _, _, _, hx⟩ := f.words hp
    show fieldsH x ≤ x.size
    unfold fieldsH
    rw [if_neg (by rw [(f.tup x hx).1]; decide), if_pos (f.tup x hx).1]
    exact Int.le_refl _
  · obtain ⟨p, x⟩ := p
    obtain ⟨B, C, e, hB, hx⟩ := f.words hp
    have hk : (k : Int) < fieldsH x := hk
    have hw : (flatW ss)[p + 1 + k]? = some w := hw
    unfold fieldsH at hk
    rw [if_neg (by rw [(f.tup x hx).1]; decide), if_pos (f.tup x hx).1] at hk
    rw [e, List.getElem?_append_right (by omega), List.getElem?_append_left (by rw [tupW_len]; omega), show p + 1 + k - B.length = k + 1 from by omega] at hw
    have hw : (List.replicate x.size.toNat (0 : Int))[k]? = some w := hw
    have : w = 0 := List.eq_of_mem_replicate (List.mem_of_getElem? hw)
    subst this
    exact ⟨by decide, by decide, fun h => absurd h (by decide)⟩
theorem FlatI.reach (f : FlatI ss ps) {p : Nat} : Reach (flatW ss) (objL 0 ss) (ps.map ptrW) p ↔ p ∈ ps := by
  constructor
  · intro h
    induction h with
    | root hw ht hv =>
      obtain ⟨q, hq, rfl⟩ := List.mem_map.1 hw
      rw [ptr_val (f.small hq)] at hv
      have : q = _ := Int.ofNat.inj hv
      rw [← this]; exact hq
    | field _ _ _ hw ht _ _ => exact absurd ht (flat_tag (List.mem_of_getElem? hw))
  · intro h
    exact .root (List.mem_map.2 ⟨p, h, rfl⟩) (ptr_tag p) (ptr_val (f.small h))
theorem FlatI.gone (f : FlatI ss ps) : goneOf (flatW ss) (ps.map ptrW) (objL 0 ss) (objL 0 ss) = [] := by
  unfold goneOf
  rw [List.flatMap_eq_nil_iff]
  rintro ⟨p, x⟩ hp
  obtain ⟨_, _, _, _, hx⟩ := f.words (List.mem_filter.1 hp).1
  unfold gone1
  split
  · rw [if_neg]
    rintro ⟨h, _⟩
    have h : x.kind = 3 := h
    rw [(f.tup x hx).1] at h
    cases h
  · rfl
theorem FlatI.live (f : FlatI ss ps) : (liveOf (flatW ss) (objL 0 ss) (ps.map ptrW)).map Prod.fst = ps := by
  refine sorted_ext (live_sorted f.objs) f.sorted fun p => ⟨fun h => ?_, fun h => ?_⟩
  · obtain ⟨q, hq, rfl⟩ := List.mem_map.1 h
    exact f.reach.1 (mem_live.1 hq).2
  · obtain ⟨x, hx⟩ := f.at' p h
    exact List.mem_map.2 ⟨(p, x), mem_live.2 ⟨hx, f.reach.2 h⟩, rfl⟩
theorem FlatI.objF (f : FlatI ss ps) {R : List Int} {l : List (Nat × Hd)} {p : Nat} {x : Hd} (h : (p, x) ∈ objL 0 ss) : objF (flatW ss) R l (p, x) = tupW x := by
  obtain ⟨B, C, e, hB, _⟩ := f.words h
  have hfin : ∀ i, finW (flatW ss) R l i = (flatW ss)[i]?.getD 0 := fun i => by
    unfold finW
    split
    · unfold mvW; rw [if_neg (flat_getD ss i)]
    · rfl
  refine List.ext_getElem? fun k => ?_
  unfold Go.Proofs.Ytempfmkicpifkaa.objF
  by_cases hk : k < 1 + x.size.toNat
  · rw [List.getElem?_map, List.getElem?_range hk]
    show some (finW (flatW ss) R l (p + k)) = _
    rw [hfin, e, List.getElem?_append_right (by omega), show p + k - B.length = k from by omega, List.getElem?_append_left (by rw [tupW_len]; exact hk)]
    obtain ⟨w, hw⟩ : ∃ w, (tupW x)[k]? = some w := ⟨_, List.getElem?_eq_getElem (by rw [tupW_len]; exact hk)⟩
    rw [hw]; rfl
  · rw [List.getElem?_eq_none (by simp; omega), List.getElem?_eq_none (by rw [tupW_len]; omega)]
theorem FlatI.slid (f : FlatI ss ps) {R : List Int} {l : List (Nat × Hd)} : ∀ {L : List (Nat × Hd)}, (∀ o ∈ L, o ∈ objL 0 ss) → slidW (flatW ss) R l L = flatW (L.map Prod.snd)
  | [], _ => rfl
  | (p, x) :: L, h => by
    show Go.Proofs.Ytempfmkicpifkaa.objF (flatW ss) R l (p, x) ++ slidW (flatW ss) R l L = _
    rw [f.objF (h _ (List.mem_cons_self ..)), f.slid fun o ho => h o (List.mem_cons_of_mem _ ho), List.map_cons, flatW_cons]
theorem FlatI.places (f : FlatI ss ps) {R : List Int} {l L : List (Nat × Hd)} (hL : ∀ o ∈ L, o ∈ objL 0 ss) (hs : (L.map Prod.fst).Pairwise (· < ·)) : ∀ (todo done : List (Nat × Hd)), L = done ++ todo → (todo.map Prod.fst).map (newPos L) = (objL (flatW (done.map Prod.snd)).length (todo.map Prod.snd)).map Prod.fst
  | [], _, _ => rfl
  | (p, x) :: todo, done, e => by
    have h1 : newPos L p = (flatW (done.map Prod.snd)).length := by
      rw [e, newPos_at (W0 := flatW ss) (R0 := R) (l := l) (by rw [← e]; exact hs), f.slid fun o ho => hL o (by rw [e]; exact List.mem_append_left _ ho)]
    have h2 := f.places (R := R) (l := l) hL hs todo (done ++ [(p, x)]) (by rw [e, List.append_assoc]; rfl)
    rw [List.map_cons, List.map_cons, h2, h1, List.map_cons]
    simp only [objL, List.map_cons]
    rw [List.map_append, flatW_app, List.length_append]
    simp only [List.map_cons, List.map_nil, flatW_one, tupW_len]
    rw [show (flatW (done.map Prod.snd)).length + (1 + x.size.toNat) = (flatW (done.map Prod.snd)).length + 1 + x.size.toNat from by omega]
/-- What a slide leaves. -/
theorem FlatI.slide (f : FlatI ss ps) : ∃ ss', FlatI ss' ((objL 0 ss').map Prod.fst) ∧ (∀ x ∈ ss', x ∈ ss) ∧ ss'.length = ps.length ∧
    slidW (flatW ss) (ps.map ptrW) (objL 0 ss) (liveOf (flatW ss) (objL 0 ss) (ps.map ptrW)) = flatW ss' ∧
    (ps.map ptrW).map (mvW (flatW ss) (ps.map ptrW) (objL 0 ss)) = ((objL 0 ss').map Prod.fst).map ptrW ∧ (ps = (objL 0 ss).map Prod.fst → ss' = ss) := by
  have hsub : ∀ o ∈ liveOf (flatW ss) (objL 0 ss) (ps.map ptrW), o ∈ objL 0 ss := fun o ho => (mem_live.1 ho).1
  have hsl := f.slid (R := ps.map ptrW) (l := objL 0 ss) hsub
  have hin : ∀ x ∈ (liveOf (flatW ss) (objL 0 ss) (ps.map ptrW)).map Prod.snd, x ∈ ss := fun x hx => by
    obtain ⟨⟨p, y⟩, ho, rfl⟩ := List.mem_map.1 hx
    obtain ⟨_, _, _, _, h⟩ := f.words (hsub _ ho)
    exact h
  have hlen : (flatW ((liveOf (flatW ss) (objL 0 ss) (ps.map ptrW)).map Prod.snd)).length ≤ 1048576 := by
    rw [← hsl]
    have := slid_le f.sound
    have := f.len
    omega
  have htup : ∀ x ∈ (liveOf (flatW ss) (objL 0 ss) (ps.map ptrW)).map Prod.snd, Tup x := fun x hx => f.tup x (hin x hx)
  have hobj := objL_from _ [] htup
  refine ⟨_, ⟨htup, ?_, fun p hp => ?_, hlen⟩, hin, ?_, hsl, ?_, fun e => ?_⟩
  · exact ObjsFrom.sorted hobj
  · obtain ⟨⟨q, x⟩, ho, rfl⟩ := List.mem_map.1 hp
    exact ⟨x, ho⟩
  · have := congrArg List.length f.live
    rw [List.length_map] at this ⊢
    exact this
  · have hpl := f.places (R := ps.map ptrW) (l := objL 0 ss) hsub (by rw [f.live]; exact f.sorted) (liveOf (flatW ss) (objL 0 ss) (ps.map ptrW)) [] rfl
    rw [f.live] at hpl
    have hpl : ps.map (newPos (liveOf (flatW ss) (objL 0 ss) (ps.map ptrW))) = (objL 0 ((liveOf (flatW ss) (objL 0 ss) (ps.map ptrW)).map Prod.snd)).map Prod.fst := hpl
    rw [← hpl, List.map_map, List.map_map]
    refine List.map_congr_left fun p hp => ?_
    show mvW _ _ _ (ptrW p) = ptrW (newPos _ p)
    unfold mvW
    rw [if_pos (ptr_tag p), ptr_val (f.small hp)]
    rfl
  · have : liveOf (flatW ss) (objL 0 ss) (ps.map ptrW) = objL 0 ss := by
      unfold liveOf
      rw [List.filter_eq_self]
      intro o ho
      refine @decide_eq_true _ (Classical.propDecidable _) (f.reach.2 ?_)
      rw [e]; exact List.mem_map.2 ⟨o, ho, rfl⟩
    rw [this, objL_snd]
/-- One more is made, and is a root, or is none. -/
theorem FlatI.more (f : FlatI ss ps) {x : Hd} (hx : Tup x) (hl : (flatW (ss ++ [x])).length ≤ 1048576) : FlatI (ss ++ [x]) ps ∧ FlatI (ss ++ [x]) (ps ++ [(flatW ss).length]) := by
  have htup : ∀ y ∈ ss ++ [x], Tup y := fun y hy => by
    rcases List.mem_append.1 hy with h | h
    · exact f.tup y h
    · rw [List.mem_singleton.1 h]; exact hx
  have hat : ∀ p ∈ ps, ∃ y, (p, y) ∈ objL 0 (ss ++ [x]) := fun p hp => by
    obtain ⟨y, hy⟩ := f.at' p hp
    exact ⟨y, by rw [objL_app]; exact List.mem_append_left _ hy⟩
  refine ⟨⟨htup, f.sorted, hat, hl⟩, ⟨htup, ?_, fun p hp => ?_, hl⟩⟩
  · refine List.pairwise_append.2 ⟨f.sorted, List.pairwise_singleton .., fun p hp q hq => ?_⟩
    rw [List.mem_singleton.1 hq]
    obtain ⟨y, hy⟩ := f.at' p hp
    obtain ⟨B, C, e, hB, _⟩ := f.words hy
    rw [e]
    simp only [List.length_append, tupW_len]
    omega
  · rcases List.mem_append.1 hp with h | h
    · exact hat p h
    · rw [List.mem_singleton.1 h]
      exact ⟨x, by rw [objL_app]; simp [objL]⟩
end
end Go.Proofs.Ytempfmkicpifkaa


set_option linter.unusedVariables false
set_option linter.unusedSectionVars false
set_option linter.unusedSimpArgs false
set_option linter.unnecessarySimpa false
namespace Go.Proofs.Ytempfmkicpifkaa
open Go.Ab
set_option maxRecDepth 10000

abbrev posL (ss : List Hd) : List Nat := (objL 0 ss).map Prod.fst
/-- A heap of tuples of noughts, its roots in a list. -/
structure FlatH (h : HH) (c hp a sp : Nat) (vW vR : V) (ss : List Hd) (ps : List Nat) (size most : Int) : Prop where
  hm : HM h c hp a sp vW vR (flatW ss) (ps.map ptrW) size most
  f : FlatI ss ps
  ly : Listy 1 vR (ps.map ptrW)
section
variable {h h' : HH} {c c' hp a sp : Nat} {vW vR vX : V} {ss : List Hd} {ps : List Nat} {size most : Int}
theorem FlatH.keep (r : FlatH h c hp a sp vW vR ss ps size most) (hc : c ≤ c') (e : ∀ n, n < c → n ∈ hmn hp a vW vR → MapI.get h' n = MapI.get h n) : FlatH h' c' hp a sp vW vR ss ps size most := ⟨r.hm.keep hc e, r.f, r.ly⟩
theorem FlatH.same (r : FlatH h c hp a sp vW vR ss ps size most) (hc : c ≤ c') (e : ∀ n, n < c → MapI.get h' n = MapI.get h n) : FlatH h' c' hp a sp vW vR ss ps size most := r.keep hc fun n hn _ => e n hn
theorem listy_map {R R' : List Int} {v : V} (l : Listy 1 v R) (e : R.length = R'.length) : Listy 1 v R' := by
  rcases l with ⟨h1, h2⟩ | ⟨h1, s, h2⟩
  · subst h2; exact .inl ⟨h1, by simpa using e.symm⟩
  · refine .inr ⟨fun h => h1 (by subst h; simpa using e), s, by rw [← e]; exact h2⟩
theorem pos_len (ss : List Hd) : (posL ss).length = ss.length := by
  have := congrArg List.length (objL_snd ss 0)
  rw [List.length_map] at this ⊢
  exact this

theorem need_flat {n : Int} (r : FlatH h c hp a sp vW vR ss ps size most) (hn : 0 ≤ n ∧ n ≤ 1000000) : Does 37 [.ptr (some (hp, 0)), I n, vR] h c (hmn hp a vW vR) fun v h' c' => ∃ vW' ss' ps' size', v = .bool (decide (n ≤ most - (flatW ss').length)) ∧ FlatH h' c' hp a sp vW' vR ss' ps' size' most ∧ (∀ x ∈ rowName vW', x ∈ rowName vW) ∧ (n ≤ most - (flatW ss').length → n ≤ size' - (flatW ss').length) ∧ ((ss' = ss ∧ ps' = ps ∧ n ≤ most - (flatW ss).length) ∨ (ps' = posL ss' ∧ (∀ x ∈ ss', x ∈ ss) ∧ ss'.length = ps.length ∧ (ps = posL ss → ss' = ss))) := by
  refine WpX.mono (need_ok r.hm r.f.sound r.f.gone hn) fun v h' c' l ⟨a1, a2, a3, vW', W', R', size', hv, hm, hnm, hor, hfit⟩ => ⟨a1, a2, a3, ?_⟩
  rcases hor with ⟨rfl, rfl, hle⟩ | ⟨hW, hR⟩
  · exact ⟨vW', ss, ps, size', hv, ⟨hm, r.f, r.ly⟩, hnm, hfit, .inl ⟨rfl, rfl, hle⟩⟩
  · obtain ⟨ss', f', h1, h2, h3, h4, h5⟩ := r.f.slide
    rw [h3] at hW
    rw [h4] at hR
    subst hW
    subst hR
    have hl : ps.length = (posL ss').length := by rw [pos_len]; exact h2.symm
    exact ⟨vW', ss', posL ss', size', hv, ⟨hm, f', listy_map r.ly (by simpa using hl)⟩, hnm, hfit, .inr ⟨rfl, h1, h2, h5⟩⟩

theorem collect_flat (r : FlatH h c hp a sp vW vR ss ps size most) : Does 110 [.ptr (some (hp, 0)), vR] h c (hmn hp a vW vR) fun v h' c' => ∃ vW' ss', FlatH h' c' hp a sp vW' vR ss' (posL ss') (roomZ most (flatW ss').length) most ∧ (∀ x ∈ rowName vW', x ∈ rowName vW) ∧ (∀ x ∈ ss', x ∈ ss) ∧ ss'.length = ps.length := by
  refine WpX.mono (hCollect_ok r.hm r.f.sound r.f.gone) fun v h' c' l ⟨a1, a2, a3, vW', hm, hnm⟩ => ⟨a1, a2, a3, ?_⟩
  obtain ⟨ss', f', h1, h2, h3, h4, h5⟩ := r.f.slide
  rw [h3, h4] at hm
  have hl : ps.length = (posL ss').length := by rw [pos_len]; exact h2.symm
  exact ⟨vW', ss', ⟨hm, f', listy_map r.ly (by simpa using hl)⟩, hnm, h1, h2⟩

theorem tup_tup {n t : Int} (hx : okH (tupH n t)) : Tup (tupH n t) := ⟨rfl, hx⟩
/-- A tuple is made. -/
theorem make_flat {n t : Int} {k : Nat} (r : FlatH h c hp a sp vW vR ss ps size most) (rx : RowOf 1 wordV h c vX (List.replicate k 0)) (hX : (k : Int) = n) (hx : okH (tupH n t)) (hXW : ∀ m ∈ rowName vX, m ∉ hn hp a vW) (hle : ((flatW ss).length : Int) + 1 + n ≤ size) :
    Does 38 [.ptr (some (hp, 0)), .agg (hdV (tupH n t)), vX] h c (hn hp a vW ++ rowName vX) fun v h' c' => v = .tuple [U (ptrW (flatW ss).length), .bool true] ∧ ∃ vW', HM h' c' hp a sp vW' vR (flatW (ss ++ [tupH n t])) (ps.map ptrW) size most ∧ FlatI (ss ++ [tupH n t]) ps ∧ FlatI (ss ++ [tupH n t]) (ps ++ [(flatW ss).length]) ∧ (∀ n ∈ rowName vW', n ∈ rowName vW ∨ c ≤ n) ∧ ∀ m, m < c → m ∉ an a vW → MapI.get h' m = MapI.get h m := by
  have hmo := r.hm.hm.mo
  have hmx := r.hm.hm.mx
  have hsub : ∀ n ∈ an a vW, n ∈ hn hp a vW := fun n hn => List.mem_cons_of_mem _ hn
  refine WpX.mono (hmake_ok r.hm.hm rx (by simpa using hX) hx hXW (fun w hw => by rw [List.eq_of_mem_replicate hw]; exact ⟨by decide, by decide⟩) hle) fun v h' c' l ⟨a1, a2, a3, hv, vW', hh, hnm, hf⟩ => ⟨a1, a2, a3, hv, vW', ?_⟩
  have e : flatW ss ++ makeW (tupH n t) :: List.replicate k 0 = flatW (ss ++ [tupH n t]) := by
    rw [flatW_app, flatW_one]
    show _ = flatW ss ++ (makeW (tupH n t) :: List.replicate n.toNat 0)
    rw [show n.toNat = k from by omega]
  rw [e] at hh
  have hl : (flatW (ss ++ [tupH n t])).length ≤ 1048576 := by
    have := hh.ar.le
    have := hh.mo
    omega
  obtain ⟨f1, f2⟩ := r.f.more (tup_tup hx) hl
  refine ⟨⟨hh, r.hm.rr.keep a2 fun m hm1 hm2 => hf m hm1 fun h => r.hm.sep m hm2 (hsub m h), fun m hm1 hm2 => ?_, r.hm.ok, r.hm.len⟩, f1, f2, hnm, hf⟩
  have hlt := r.hm.rr.lt m hm1
  refine r.hm.sep m hm1 ?_
  rcases List.mem_cons.1 hm2 with h | h
  · rw [h]; exact List.mem_cons_self ..
  · rcases List.mem_cons.1 h with h | h
    · rw [h]; exact hsub _ (List.mem_cons_self ..)
    · rcases hnm m h with h | h
      · exact hsub _ (List.mem_cons_of_mem _ h)
      · omega
/-- It is a root too. -/
theorem FlatH.push {q : Nat} {vR' : V} {ss' : List Hd} (r : HM h c hp a sp vW vR (flatW ss') (ps.map ptrW) size most) (f : FlatI ss' (ps ++ [q])) (lv : ListOf 1 wordV h' c' vR' (ps.map ptrW ++ [ptrW q])) (hn : ∀ n ∈ rowName vR', n ∈ rowName vR ∨ c ≤ n) (hc : c ≤ c') (hf : ∀ a, a ≠ c → a ∉ rowName vR → MapI.get h' a = MapI.get h a) (hl : ps.length < 1000) :
    FlatH h' c' hp a sp vW vR' ss' (ps ++ [q]) size most := by
  have e : (ps ++ [q]).map ptrW = ps.map ptrW ++ [ptrW q] := by rw [List.map_append]; rfl
  have hnm := r.hm.names
  refine ⟨⟨r.hm.keep hc fun n hlt hmem => hf n (by omega) fun hh => r.sep n hh hmem, by rw [e]; exact lv.row, fun n hh hm => ?_, fun w hw => ?_, by rw [List.length_map, List.length_append]; simp; omega⟩, f, by rw [e]; exact lv.listy (by simp)⟩
  · rcases hn n hh with h | h
    · exact r.sep n h hm
    · have := hnm n hm; omega
  · obtain ⟨p, _, rfl⟩ := List.mem_map.1 hw
    exact ofW_ok ⟨by decide, by decide⟩
theorem FlatH.start {size : Int} (hH : HeapAt h c hp a sp (.slice none 0 (.known 0)) [] size most) : FlatH h c hp a sp (.slice none 0 (.known 0)) (.slice none 0 (.known 0)) [] [] size most :=
  ⟨⟨hH, .nil fun n hn => (by cases hn), fun n hn => (by cases hn), fun w hw => (by cases hw), Nat.zero_le _⟩, ⟨fun x hx => (by cases hx), .nil, fun p hp => (by cases hp), Nat.zero_le _⟩, .inl ⟨rfl, rfl⟩⟩
/-- Noughts of one's own. -/
theorem row_zeros {k : Nat} (hg : MapI.get h c = some (.cells true true (flat wordV (List.replicate k 0)))) (hc : c < c') : RowOf 1 wordV h c' (.slice (some (c, 0)) k (.known k)) (List.replicate k 0) :=
  ⟨some (c, 0), .known k, by rw [List.length_replicate], fun n hn => (by have hn : n ∈ [c] := hn; simp at hn; omega), fun _ => ⟨c, true, [], rfl, by rw [List.append_nil]; exact hg, rfl⟩⟩
end
end Go.Proofs.Ytempfmkicpifkaa
