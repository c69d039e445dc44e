/- The heap: what its functions give, of heaps in which no bytes go. -/
/- The heap: collecting. -/
/- The heap: Need, Collect; what is made. -/
/- The heap: what is made. -/
/- The heap: Make. -/
/- Heaps of tuples of noughts. -/
/- Heaps of tuples of noughts: the heap's functions. -/
/- Heaps of objects that point at nothing: what a slide leaves, what goes. -/
/- The heap: collecting, where handles go. -/
/- The heap: Make of a Bin, which holds its handle. -/
/- The heap: the handles of all objects. -/
/- Bags of Bins: their handles, how often each. -/
/- Heaps of Bins: Make, Collect, End. -/
import Derived.Test.YtcenbfjhhaialaaHeD


set_option linter.unusedVariables false
set_option linter.unusedSectionVars false
set_option linter.unusedSimpArgs false
set_option linter.unnecessarySimpa false
namespace Go.Proofs.Ytcenbfjhhaialaa
open Go.Ab
set_option maxRecDepth 10000

section
variable {e : EE} {h : HH} {c : Nat} {ds : Option Tmp} {ty : Nat} {pos : String} {af : Array Edge} {gd : Option (Nat × Bool)} {K : V → HH → Nat → List Acc → Prop} {call : Nat → Tgt → List V → M HH V}
theorem op_max {args : Array Operand} {ats : Array Nat} {k : IntKind} {a b z : Int} (ha : evs cx e args.toList = some [.int k a, .int k b]) (hz : (if b > a then b else a) = z) (q : K (.int k z) h c []) :
    WpX (fun n => opM cx (call n) e ⟨ds, .call ⟨.builtin .max, args, ats⟩, ty, pos, af, gd⟩) h c K :=
  WpX.pure (fun k' => by
    subst hz
    show callM cx (call k') e ⟨.builtin .max, args, ats⟩ h c = _
    unfold callM
    simp only [ha]
    refine bnd_eq (l := []) (l' := []) lift_eq ?_
    simp only [builtinM, maxV, maxI, if_true]
    rfl) q
end

/-- The capacity of a heap that holds so much. -/
def roomZ (most n : Int) : Int := min (max (2 * n) 32) most
/-- A heap: its arena, its store, the most words. -/
structure HeapAt (h : HH) (c hp a sp : Nat) (vW : V) (W : List Int) (size most : Int) : Prop where
  obj : MapI.get h hp = some (.cells true true [.ptr (some (a, 0)), .ptr (some (sp, 0)), I most, .bool false])
  ar : ArAt h c a vW W size
  lh : hp < c
  sep : hp ∉ an a vW
  mo : size ≤ most
  m0 : 0 ≤ most
  mx : most ≤ 1048576
abbrev hn (hp a : Nat) (vW : V) : List Nat := hp :: an a vW
section
variable {h h' : HH} {c c' hp a sp : Nat} {vW vR : V} {W R : List Int} {size most : Int} {l : List (Nat × Hd)}
theorem HeapAt.keep (r : HeapAt h c hp a sp vW W size most) (hc : c ≤ c') (e : ∀ n, n < c → n ∈ hn hp a vW → MapI.get h' n = MapI.get h n) : HeapAt h' c' hp a sp vW W size most :=
  ⟨by rw [e hp r.lh (List.mem_cons_self ..)]; exact r.obj, r.ar.keep hc fun n h1 h2 => e n h1 (List.mem_cons_of_mem _ h2), Nat.lt_of_lt_of_le r.lh hc, r.sep, r.mo, r.m0, r.mx⟩
theorem HeapAt.same (r : HeapAt h c hp a sp vW W size most) (hc : c ≤ c') (e : ∀ n, n < c → MapI.get h' n = MapI.get h n) : HeapAt h' c' hp a sp vW W size most := r.keep hc fun n hn _ => e n hn
theorem HeapAt.names (r : HeapAt h c hp a sp vW W size most) : ∀ n ∈ hn hp a vW, n < c := fun n hn => by
  rcases List.mem_cons.1 hn with h | h
  · rw [h]; exact r.lh
  · exact r.ar.names n h

theorem room_ok {n : Int} (ho : MapI.get h hp = some (.cells true true [vW, vR, I most, .bool false])) (hlt : hp < c) (hn : 0 ≤ n ∧ n ≤ 4000000) : DoesR 20 [.ptr (some (hp, 0)), I n] h c [hp] fun v h' c' => v = I (roomZ most n) ∧ h = h' ∧ c = c' := by
  have w2 : IntKind.i64.wrap (2 * n) = 2 * n := Go.IntWalk.i64_in _ (by omega)
  have e1 : (if (32 : Int) > IntKind.i64.wrap (2 * n) then 32 else IntKind.i64.wrap (2 * n)) = max (2 * n) 32 := by rw [w2]; split <;> omega
  have e2 : (if most < max (2 * n) 32 then most else max (2 * n) 32) = roomZ most n := by unfold roomZ; split <;> omega
  refine doesR_of (enter (fn := Try.f20) Try.func20 rfl rfl (Nat.le_of_ble_eq_true rfl) ?_)
  repeat' (first | refine WpO.cons rfl rfl (op_min rfl e2 ⟨nolog, ?_⟩) | refine WpO.cons rfl rfl (op_max rfl e1 ⟨nolog, ?_⟩) | refine WpC.seq ?_ | refine WpC.region ?_ | refine WpC.ret ?_ | refine WpO.nil ?_ | refine WpO.cons rfl rfl (WpX.pure (fun _ => rfl) ⟨nolog, ?_⟩) | refine WpO.cons rfl rfl (op_load rfl rfl rfl ho rfl ⟨(by simp [InR, Acc.name, Acc.writes, rowName] <;> omega), ?_⟩))
  exact out_ret rfl ⟨rfl, rfl, rfl⟩
theorem alive_ok (r : HeapAt h c hp a sp vW W size most) : DoesR 23 [.ptr (some (hp, 0))] h c [hp] fun v h' c' => v = .bool true ∧ h = h' ∧ c = c' := by
  have hobj := r.obj
  refine doesR_of (enter (fn := Try.f23) Try.func23 rfl rfl (Nat.le_of_ble_eq_true rfl) ?_)
  repeat' (first | refine WpC.seq ?_ | refine WpC.region ?_ | refine WpC.ret ?_ | refine WpO.nil ?_ | refine WpO.cons rfl rfl (WpX.pure (fun _ => rfl) ⟨nolog, ?_⟩) | refine WpO.cons rfl rfl (op_load rfl rfl rfl hobj rfl ⟨(by simp [InR, Acc.name, Acc.writes, rowName] <;> omega), ?_⟩))
  exact out_ret rfl ⟨rfl, rfl, rfl⟩
theorem arena_ok (r : HeapAt h c hp a sp vW W size most) : DoesR 18 [.ptr (some (hp, 0))] h c [hp] fun v h' c' => v = .ptr (some (a, 0)) ∧ h = h' ∧ c = c' := by
  have hobj := r.obj
  refine doesR_of (enter (fn := Try.f18) Try.func18 rfl rfl (Nat.le_of_ble_eq_true rfl) ?_)
  repeat' (first | refine WpC.seq ?_ | refine WpC.region ?_ | refine WpO.nil ?_ | refine WpO.cons rfl rfl (WpX.pure (fun _ => rfl) ⟨nolog, ?_⟩) | refine seqQ_normal ?_)
  refine WpC.cond rfl (fun hb => by cases hb) (fun _ => ?_)
  repeat' (first | refine WpC.seq ?_ | refine WpC.region ?_ | refine WpC.skip ?_ | refine WpC.ret ?_ | refine WpO.nil ?_ | refine WpO.cons rfl rfl (WpX.pure (fun _ => rfl) ⟨nolog, ?_⟩) | refine WpO.cons rfl rfl (op_load rfl rfl rfl hobj rfl ⟨(by simp [InR, Acc.name, Acc.writes, rowName] <;> omega), ?_⟩))
  exact out_ret rfl ⟨rfl, rfl, rfl⟩
theorem hused_ok (r : HeapAt h c hp a sp vW W size most) : DoesR 17 [.ptr (some (hp, 0))] h c (hn hp a vW) fun v h' c' => v = I W.length ∧ h = h' ∧ c = c' := by
  refine doesR_of (enter (fn := Try.f17) Try.func17 rfl rfl (Nat.le_of_ble_eq_true rfl) ?_)
  repeat' (first | refine WpC.seq ?_ | refine WpC.region ?_ | refine WpO.nil ?_ | refine WpO.cons rfl rfl (WpX.pure (fun _ => rfl) ⟨nolog, ?_⟩))
  refine WpO.cons rfl rfl (call_atRR rfl (arena_ok r) (fun n hn => .inl (by simp at hn; rw [hn]; exact List.mem_cons_self ..)) (Nat.le_refl _) fun v h4 c4 hc4 hfr4 hq => ?_)
  obtain ⟨rfl, rfl, rfl⟩ := hq
  skip
  refine WpO.cons rfl rfl (call_atRR rfl (used_ok r.ar) (fun n hn => .inl (List.mem_cons_of_mem _ hn)) (Nat.le_refl _) fun v h4 c4 hc4 hfr4 hq => ?_)
  obtain ⟨rfl, rfl, rfl⟩ := hq
  repeat' (first | refine WpC.ret ?_ | refine WpO.nil ?_ | refine WpO.cons rfl rfl (WpX.pure (fun _ => rfl) ⟨nolog, ?_⟩))
  exact out_ret rfl ⟨rfl, rfl, rfl⟩
theorem hcap_ok (r : HeapAt h c hp a sp vW W size most) : DoesR 15 [.ptr (some (hp, 0))] h c (hn hp a vW) fun v h' c' => v = I size ∧ h = h' ∧ c = c' := by
  refine doesR_of (enter (fn := Try.f15) Try.func15 rfl rfl (Nat.le_of_ble_eq_true rfl) ?_)
  repeat' (first | refine WpC.seq ?_ | refine WpC.region ?_ | refine WpO.nil ?_ | refine WpO.cons rfl rfl (WpX.pure (fun _ => rfl) ⟨nolog, ?_⟩))
  refine WpO.cons rfl rfl (call_atRR rfl (arena_ok r) (fun n hn => .inl (by simp at hn; rw [hn]; exact List.mem_cons_self ..)) (Nat.le_refl _) fun v h4 c4 hc4 hfr4 hq => ?_)
  obtain ⟨rfl, rfl, rfl⟩ := hq
  skip
  refine WpO.cons rfl rfl (call_atRR rfl (size_ok r.ar) (fun n hn => .inl (List.mem_cons_of_mem _ hn)) (Nat.le_refl _) fun v h4 c4 hc4 hfr4 hq => ?_)
  obtain ⟨rfl, rfl, rfl⟩ := hq
  repeat' (first | refine WpC.ret ?_ | refine WpO.nil ?_ | refine WpO.cons rfl rfl (WpX.pure (fun _ => rfl) ⟨nolog, ?_⟩))
  exact out_ret rfl ⟨rfl, rfl, rfl⟩

theorem anew_ok {n : Int} (hn : 0 ≤ n ∧ n ≤ 1048576) : Does 19 [I n] h c [] fun v h' c' => v = .ptr (some (c, 0)) ∧ c' = c + 1 ∧ ArAt h' c' c (.slice none 0 (.known 0)) [] n ∧ ∀ m, m < c → MapI.get h' m = MapI.get h m := by
  have e1 : decide (n < 0) = false := by simp; omega
  have e2 : decide (n > 1048576) = false := by simp; omega
  refine does_of (enter (fn := Try.f19) Try.func19 rfl rfl (Nat.le_of_ble_eq_true rfl) ?_)
  repeat' (first | refine WpC.seq ?_ | refine WpC.region ?_ | refine WpO.nil ?_ | refine WpO.cons rfl rfl (WpX.pure (fun _ => rfl) ⟨nolog, ?_⟩))
  simp only [e1]
  repeat' (first | refine WpO.nil ?_ | refine WpO.cons rfl rfl (WpX.pure (fun _ => rfl) ⟨nolog, ?_⟩) | refine seqQ_normal ?_)
  refine WpC.cond rfl (fun hb => by rw [show decide (n > 1048576) = false from e2] at hb; cases hb) (fun _ => ?_)
  repeat' (first | refine WpC.seq ?_ | refine WpC.region ?_ | refine WpC.skip ?_ | refine WpC.ret ?_ | refine WpO.nil ?_ | refine WpO.cons rfl rfl (WpX.pure (fun _ => rfl) ⟨nolog, ?_⟩) | refine WpO.cons rfl rfl (op_box rfl ⟨(by simp [InL, Acc.name, rowName] <;> omega), ?_⟩))
  refine out_ret rfl ⟨rfl, rfl, ⟨MapI.get_same _ _ _, .nil, Nat.lt_succ_self _, fun n hn => (by cases hn), fun x hx => (by cases hx), by simp; omega, by omega⟩, fun m hm => MapI.get_ne _ _ _ _ (by omega)⟩

theorem hnew_ok (hm : 0 ≤ most ∧ most ≤ 1048576) : Does 6 [I most, .ptr (some (sp, 0))] h c [] fun v h' c' => v = .ptr (some (c, 0)) ∧ ∃ a, HeapAt h' c' c a sp (.slice none 0 (.known 0)) [] (min 32 most) most ∧ c < a ∧ ∀ m, m < c → MapI.get h' m = MapI.get h m := by
  have e1 : decide (most < 0) = false := by simp; omega
  have e2 : decide (most > 1048576) = false := by simp; omega
  have hr : roomZ most 0 = min 32 most := by unfold roomZ; omega
  refine does_of (enter (fn := Try.f6) Try.func6 rfl rfl (Nat.le_of_ble_eq_true rfl) ?_)
  repeat' (first | refine WpC.seq ?_ | refine WpC.region ?_ | refine WpO.nil ?_ | refine WpO.cons rfl rfl (WpX.pure (fun _ => rfl) ⟨nolog, ?_⟩))
  simp only [e1]
  repeat' (first | refine WpO.nil ?_ | refine WpO.cons rfl rfl (WpX.pure (fun _ => rfl) ⟨nolog, ?_⟩) | refine seqQ_normal ?_)
  refine WpC.cond rfl (fun hb => by rw [show decide (most > 1048576) = false from e2] at hb; cases hb) (fun _ => ?_)
  repeat' (first | refine WpC.seq ?_ | refine WpC.region ?_ | refine WpC.skip ?_ | refine WpO.nil ?_ | refine WpO.cons rfl rfl (WpX.pure (fun _ => rfl) ⟨nolog, ?_⟩) | refine WpO.cons rfl rfl (op_box rfl ⟨(by simp [InL, Acc.name, rowName] <;> omega), ?_⟩))
  refine WpO.cons rfl rfl (call_atD rfl (room_ok (MapI.get_same _ _ _) (by omega) (by decide)) (fun n hn => .inr (by simp at hn; omega)) (by omega) fun v4 h4 c4 hc4 _ hq => ?_)
  obtain ⟨rfl, rfl, rfl⟩ := hq
  rw [hr]
  skip
  refine WpO.cons rfl rfl (call_at rfl (anew_ok (by omega)) (fun n hn => by cases hn) (by omega) fun v5 h5 c5 hc5 _ hq => ?_)
  obtain ⟨rfl, rfl, hA, hf5⟩ := hq
  have hg5 : MapI.get h5 c = some (.cells true true [.ptr none, .ptr (some (sp, 0)), I most, .bool false]) := by rw [hf5 c (by omega)]; exact MapI.get_same _ _ _
  repeat' (first | refine WpC.seq ?_ | refine WpC.region ?_ | refine WpC.ret ?_ | refine WpO.nil ?_ | refine WpO.cons rfl rfl (WpX.pure (fun _ => rfl) ⟨nolog, ?_⟩) | refine WpO.cons rfl rfl (op_store (k := 1) rfl rfl rfl rfl hg5 (Nat.le_of_ble_eq_true rfl) rfl ⟨(by simp [InL, Acc.name, rowName] <;> omega), ?_⟩))
  refine out_ret rfl ⟨rfl, c + 1, ⟨MapI.get_same _ _ _, hA.keep (Nat.le_refl _) fun n hn hm => MapI.get_ne _ _ _ _ ?_, by omega, ?_, by omega, hm.1, hm.2⟩, by omega, fun m hm => ?_⟩
  · rcases List.mem_cons.1 hm with h | h
    · omega
    · cases h
  · intro hh
    rcases List.mem_cons.1 hh with h | h
    · omega
    · cases h
  · rw [MapI.get_ne _ _ _ _ (by omega), hf5 m (by omega)]; exact MapI.get_ne _ _ _ _ (by omega)
end
end Go.Proofs.Ytcenbfjhhaialaa


set_option linter.unusedVariables false
set_option linter.unusedSectionVars false
set_option linter.unusedSimpArgs false
set_option linter.unnecessarySimpa false
namespace Go.Proofs.Ytcenbfjhhaialaa
open Go.Ab
set_option maxRecDepth 10000

/-- It reads names of the list, and nothing else. -/
def InP (ns : List Nat) : Acc → Prop := fun x => x.name ∈ ns ∧ x.writes = false
def DoesP (f : Nat) (xs : List V) (h : HH) (c : Nat) (ns : List Nat) (Q : V → HH → Nat → Prop) : Prop := WpX (cl f xs) h c fun v h' c' l => (∀ x ∈ l, InP ns x) ∧ Q v h' c'
theorem doesP_of {f : Nat} {xs : List V} {h : HH} {c : Nat} {ns : List Nat} {Q : V → HH → Nat → Prop} (w : WpX (cl f xs) h c fun v h' c' l => (∀ x ∈ l, InP ns x) ∧ Q v h' c') : DoesP f xs h c ns Q := w
theorem call_atP {f : Nat} {args : Array Operand} {ats : Array Nat} {xs : List V} {e : EE} {h : HH} {c c0 : Nat} {ns ms : List Nat} {Q : V → HH → Nat → Prop} {K : V → HH → Nat → List Acc → Prop} {ds : Option Tmp} {ty : Nat} {pos : String} {af : Array Edge} {gd : Option (Nat × Bool)}
    (ha : evs cx e args.toList = some xs) (w : DoesP f xs h c ns Q) (h1 : ∀ n ∈ ns, n ∈ ms ∨ c0 ≤ n)
    (k : ∀ v h' c' al, (∀ x ∈ al, x.writes = false) → Q v h' c' → K v h' c' al) :
    WpX (fun n => opM cx (evFn EE cx pr n) e ⟨ds, .call ⟨.value (.func f), args, ats⟩, ty, pos, af, gd⟩) h c fun v h' c' al => (∀ x ∈ al, InL ms c0 x) ∧ K v h' c' al :=
  op_call (call := fun n => evFn EE cx pr n) ha (WpX.mono w fun v h' c' l ⟨a, q⟩ => ⟨fun x hx => h1 _ (a x hx).1, k v h' c' l (fun x hx => (a x hx).2) q⟩)

section
variable {h h' : HH} {c c' hp a sp : Nat} {vW vR : V} {W R : List Int} {size most : Int} {l : List (Nat × Hd)}
theorem used_okP (r : ArAt h c a vW W size) : DoesP 38 [.ptr (some (a, 0))] h c (an a vW) fun v h' c' => v = I W.length ∧ h = h' ∧ c = c' := by
  have hobj := r.obj
  obtain ⟨s, cap, rfl, hs⟩ := r.w.shape
  refine doesP_of (enter (fn := Try.f38) Try.func38 rfl rfl (Nat.le_of_ble_eq_true rfl) ?_)
  repeat' (first | refine WpC.seq ?_ | refine WpC.region ?_ | refine WpO.nil ?_ | refine WpO.cons rfl rfl (WpX.pure (fun _ => rfl) ⟨nolog, ?_⟩) | refine seqQ_normal ?_)
  refine WpC.cond rfl (fun hb => by cases hb) (fun _ => ?_)
  repeat' (first | refine WpC.seq ?_ | refine WpC.region ?_ | refine WpC.skip ?_ | refine WpC.ret ?_ | refine WpO.nil ?_ | refine WpO.cons rfl rfl (WpX.pure (fun _ => rfl) ⟨nolog, ?_⟩) | refine WpO.cons rfl rfl (op_load rfl rfl rfl hobj rfl ⟨(by simp [InP, Acc.name, Acc.writes, rowName]), ?_⟩))
  exact out_ret rfl ⟨rfl, rfl, rfl⟩
theorem size_okP (r : ArAt h c a vW W size) : DoesP 37 [.ptr (some (a, 0))] h c (an a vW) fun v h' c' => v = I size ∧ h = h' ∧ c = c' := by
  have hobj := r.obj
  refine doesP_of (enter (fn := Try.f37) Try.func37 rfl rfl (Nat.le_of_ble_eq_true rfl) ?_)
  repeat' (first | refine WpC.seq ?_ | refine WpC.region ?_ | refine WpO.nil ?_ | refine WpO.cons rfl rfl (WpX.pure (fun _ => rfl) ⟨nolog, ?_⟩) | refine seqQ_normal ?_)
  refine WpC.cond rfl (fun hb => by cases hb) (fun _ => ?_)
  repeat' (first | refine WpC.seq ?_ | refine WpC.region ?_ | refine WpC.skip ?_ | refine WpC.ret ?_ | refine WpO.nil ?_ | refine WpO.cons rfl rfl (WpX.pure (fun _ => rfl) ⟨nolog, ?_⟩) | refine WpO.cons rfl rfl (op_load rfl rfl rfl hobj rfl ⟨(by simp [InP, Acc.name, Acc.writes, rowName]), ?_⟩))
  exact out_ret rfl ⟨rfl, rfl, rfl⟩
theorem room_okP {n nz : Int} (hnz : nz = n) (ho : MapI.get h hp = some (.cells true true [vW, vR, I most, .bool false])) (hn : 0 ≤ n ∧ n ≤ 4000000) : DoesP 20 [.ptr (some (hp, 0)), I nz] h c [hp] fun v h' c' => v = I (roomZ most n) ∧ h = h' ∧ c = c' := by
  subst hnz
  have w2 : IntKind.i64.wrap (2 * nz) = 2 * nz := Go.IntWalk.i64_in _ (by omega)
  have e1 : (if (32 : Int) > IntKind.i64.wrap (2 * nz) then 32 else IntKind.i64.wrap (2 * nz)) = max (2 * nz) 32 := by rw [w2]; split <;> omega
  have e2 : (if most < max (2 * nz) 32 then most else max (2 * nz) 32) = roomZ most nz := by unfold roomZ; split <;> omega
  refine doesP_of (enter (fn := Try.f20) Try.func20 rfl rfl (Nat.le_of_ble_eq_true rfl) ?_)
  repeat' (first | refine WpO.cons rfl rfl (op_min rfl e2 ⟨nolog, ?_⟩) | refine WpO.cons rfl rfl (op_max rfl e1 ⟨nolog, ?_⟩) | refine WpC.seq ?_ | refine WpC.region ?_ | refine WpC.ret ?_ | refine WpO.nil ?_ | refine WpO.cons rfl rfl (WpX.pure (fun _ => rfl) ⟨nolog, ?_⟩) | refine WpO.cons rfl rfl (op_load rfl rfl rfl ho rfl ⟨(by simp [InP, Acc.name, Acc.writes, rowName]), ?_⟩))
  exact out_ret rfl ⟨rfl, rfl, rfl⟩

/-- What a heap and its roots are. -/
structure HM (h : HH) (c hp a sp : Nat) (vW vR : V) (W R : List Int) (size most : Int) : Prop where
  hm : HeapAt h c hp a sp vW W size most
  rr : RowOf 1 wordV h c vR R
  sep : ∀ n ∈ rowName vR, n ∉ hn hp a vW
  ok : ∀ w ∈ R, okW w
  len : R.length ≤ 100000000
abbrev hmn (hp a : Nat) (vW vR : V) : List Nat := hn hp a vW ++ rowName vR
theorem HM.mem (r : HM h c hp a sp vW vR W R size most) : Mem h c a vW vR W R size :=
  ⟨r.hm.ar, r.rr, fun n hn => ⟨fun e => r.sep n hn (by rw [e]; exact List.mem_cons_of_mem _ (List.mem_cons_self ..)), fun h => r.sep n hn (List.mem_cons_of_mem _ (List.mem_cons_of_mem _ h))⟩, r.ok, r.len⟩
theorem HM.keep (r : HM h c hp a sp vW vR W R size most) (hc : c ≤ c') (e : ∀ n, n < c → n ∈ hmn hp a vW vR → MapI.get h' n = MapI.get h n) : HM h' c' hp a sp vW vR W R size most :=
  ⟨r.hm.keep hc fun n hn hm => e n hn (List.mem_append_left _ hm), r.rr.keep hc fun n hn hm => e n hn (List.mem_append_right _ hm), r.sep, r.ok, r.len⟩
theorem HM.same (r : HM h c hp a sp vW vR W R size most) (hc : c ≤ c') (e : ∀ n, n < c → MapI.get h' n = MapI.get h n) : HM h' c' hp a sp vW vR W R size most := r.keep hc fun n hn _ => e n hn
theorem HM.names (r : HM h c hp a sp vW vR W R size most) : ∀ n ∈ hmn hp a vW vR, n < c := fun n hn => by
  rcases List.mem_append.1 hn with h | h
  · exact r.hm.names n h
  · exact r.rr.lt n h

theorem slid_le (so : SoundW W R l) : (slidW W R l (liveOf W l R)).length ≤ W.length := by
  have := slid_len_le (W0 := W) (R0 := R) (l := l) so.objs (L := liveOf W l R) List.filter_sublist
  omega

set_option maxHeartbeats 1000000 in
theorem collect_ok (r : HM h c hp a sp vW vR W R size most) (so : SoundW W R l) (hg : goneOf W R l l = []) : Does 30 [.ptr (some (hp, 0)), vR] h c (hmn hp a vW vR) fun v h' c' => v = .bool true ∧ ∃ vW', HM h' c' hp a sp vW' vR (slidW W R l (liveOf W l R)) (R.map (mvW W R l)) (roomZ most (slidW W R l (liveOf W l R)).length) most ∧ ∀ n ∈ rowName vW', n ∈ rowName vW := by
  have hobj := r.hm.obj
  have hlh := r.hm.lh
  have hsep := r.hm.sep
  have hsl := slid_le so
  have hmo := r.hm.mo
  have hm0 := r.hm.m0
  have hmx := r.hm.mx
  have hle := r.hm.ar.le
  have hnm := r.names
  have hpn : hp ∉ mn a vW vR := fun hh => by
    rcases List.mem_append.1 hh with h | h
    · exact hsep h
    · exact r.sep hp h (List.mem_cons_self ..)
  have hsub1 : ∀ n ∈ mn a vW vR, n ∈ hmn hp a vW vR ∨ c ≤ n := fun n hn => by
    rcases List.mem_append.1 hn with h | h
    · exact .inl (List.mem_append_left _ (List.mem_cons_of_mem _ h))
    · exact .inl (List.mem_append_right _ h)
  refine does_of (enter (fn := Try.f30) Try.func30 rfl rfl (Nat.le_of_ble_eq_true rfl) ?_)
  repeat' (first | refine WpC.seq ?_ | refine WpC.region ?_ | refine WpO.nil ?_ | refine WpO.cons rfl rfl (WpX.pure (fun _ => rfl) ⟨nolog, ?_⟩) | refine WpO.cons rfl rfl (op_load rfl rfl rfl hobj rfl ⟨(by simp [InL, Acc.name, rowName] <;> omega), ?_⟩))
  refine WpO.cons rfl rfl (call_at rfl (slide_ok r.mem so) hsub1 (Nat.le_refl _) fun v2 h2 c2 hc2 hf2 hq => ?_)
  obtain ⟨vG, mv, vW', rfl, r2, hn2, hG2, hGn⟩ := hq
  rw [hg] at hG2
  obtain ⟨sG, capG, rfl, _⟩ := hG2.shape
  have hobj2 : MapI.get h2 hp = _ := (hf2 hp hlh hpn).trans hobj
  have hobj3 : ∀ {o q : AObj}, MapI.get (MapI.set (MapI.set h2 c2 o) c2 q) hp = _ := fun {o q} => (show MapI.get (MapI.set (MapI.set h2 c2 o) c2 q) hp = MapI.get h2 hp from by rw [MapI.get_ne _ _ _ _ (by omega), MapI.get_ne _ _ _ _ (by omega)]).trans hobj2
  have r3 : ∀ o q, Mem (MapI.set (MapI.set h2 c2 o) c2 q) (c2 + 1) a vW' vR (slidW W R l (liveOf W l R)) (R.map (mvW W R l)) size := fun o q => r2.same (by omega) fun n hn => by
    rw [MapI.get_ne _ _ _ _ (by omega), MapI.get_ne _ _ _ _ (by omega)]
  have hg3 : ∀ {o q : AObj}, MapI.get (MapI.set (MapI.set h2 c2 o) c2 q) c2 = some q := MapI.get_same _ _ _
  repeat' (first | refine WpC.seq ?_ | refine WpC.region ?_ | refine WpO.nil ?_ | refine WpO.cons rfl rfl (WpX.pure (fun _ => rfl) ⟨nolog, ?_⟩) | refine seqQ_normal ?_ | refine WpO.cons rfl rfl (op_alloc rfl ⟨(by simp [InL, Acc.name, rowName] <;> omega), ?_⟩) | refine WpO.cons rfl rfl (op_store (k := 3) rfl rfl rfl rfl (MapI.get_same _ _ _) (Nat.le_of_ble_eq_true rfl) rfl ⟨(by simp [InL, Acc.name, rowName] <;> omega), ?_⟩))
  refine WpC.cond rfl (fun hb => by cases hb) (fun _ => ?_)
  repeat' (first | refine WpC.seq ?_ | refine WpC.region ?_ | refine WpC.skip ?_ | refine WpC.block ?_ | refine WpO.nil ?_ | refine WpO.cons rfl rfl (WpX.pure (fun _ => rfl) ⟨nolog, ?_⟩) | refine WpO.cons rfl rfl (op_load rfl rfl rfl hg3 rfl ⟨(by simp [InL, Acc.name, rowName] <;> omega), ?_⟩))
  refine WpC.loop ?_
  refine WpLoop.step ?_
  repeat' (first | refine WpC.seq ?_ | refine WpC.region ?_ | refine WpO.nil ?_ | refine WpO.cons rfl rfl (WpX.pure (fun _ => rfl) ⟨nolog, ?_⟩))
  refine WpC.cond rfl (fun hb => by cases hb) (fun _ => ?_)
  have hsubA : ∀ n ∈ an a vW', n ∈ hmn hp a vW vR ∨ c ≤ n := fun n hn => by
    rcases List.mem_cons.1 hn with h | h
    · exact .inl (List.mem_append_left _ (List.mem_cons_of_mem _ (by rw [h]; exact List.mem_cons_self ..)))
    · exact .inl (List.mem_append_left _ (List.mem_cons_of_mem _ (List.mem_cons_of_mem _ (hn2 n h))))
  repeat' (first | refine WpC.seq ?_ | refine WpC.drawn ?_ | refine WpC.exit ?_ | refine WpL.cons rfl rfl (WpX.pure (fun _ => rfl) ⟨nolog, ?_⟩) | refine WpL.cons rfl rfl (op_load rfl rfl rfl hobj3 rfl ⟨(by simp [InL, Acc.name, rowName] <;> omega), ?_⟩) | refine WpL.cons rfl rfl (op_load rfl rfl rfl hg3 rfl ⟨(by simp [InL, Acc.name, rowName] <;> omega), ?_⟩))
  refine WpL.cons rfl rfl (call_atP rfl (room_okP (n := ((slidW W R l (liveOf W l R)).length : Int)) rfl hobj3 (by omega)) (fun n hn => .inl (by simp at hn; rw [hn]; exact List.mem_append_left _ (List.mem_cons_self ..))) fun v4 h4 c4 al4 hal4 hq => ?_)
  obtain ⟨rfl, rfl, rfl⟩ := hq
  refine WpL.cons rfl rfl (call_atL rfl (cut_ok (r3 _ _).ar (m := (slidW W R l (liveOf W l R)).length) rfl (Nat.le_refl _) (by unfold roomZ; omega) (by unfold roomZ; omega)) hsubA (by omega) fun v5 h5 c5 al5 hal5 hc5 hf5 hq => ?_)
  obtain ⟨rfl, rfl, vW'', hA, hn5⟩ := hq
  have hal4' : ∀ x ∈ al4, x.writes = false := hal4
  refine WpL.nil (logsOk_of (cs := [0, 1, 3, 7, 0, 16, 0, 0, 128, 448, 1023]) (by decide +kernel) ?_) ?_
  · simp +contextual [allP, apP, Dis, acc_rd, acc_wr, accw_rd, accw_wr, Nat.testBit, hal4']
  repeat' (first | refine WpC.seq ?_ | refine WpC.region ?_ | refine WpC.ret ?_ | refine WpO.nil ?_ | refine WpO.cons rfl rfl (WpX.pure (fun _ => rfl) ⟨nolog, ?_⟩))
  rw [List.take_length] at hA
  have hsub2 : ∀ n ∈ rowName vW'', n ∈ rowName vW := fun n hn => hn2 n (hn5 n hn)
  have hpa : hp ∉ an a vW' := fun hh => hsep (by
    rcases List.mem_cons.1 hh with h | h
    · rw [h]; exact List.mem_cons_self ..
    · exact List.mem_cons_of_mem _ (hn2 _ h))
  refine out_ret rfl ⟨rfl, vW'', ⟨⟨?_, hA, by omega, fun hh => hpa (by
    rcases List.mem_cons.1 hh with h | h
    · rw [h]; exact List.mem_cons_self ..
    · exact List.mem_cons_of_mem _ (hn5 _ h)), by unfold roomZ; omega, hm0, hmx⟩, (r3 _ _).rr.keep (Nat.le_refl _) fun n hn hm => hf5 n hn fun hh => ?_, fun n hn hh => ?_, (r3 (.dead) (.dead)).ok, (r3 (.dead) (.dead)).len⟩, hsub2⟩
  · rw [hf5 hp (by omega) hpa]; exact hobj3
  · rcases List.mem_cons.1 hh with h | h
    · exact (r2.sep n hm).1 h
    · exact (r2.sep n hm).2 h
  · refine r.sep n hn ?_
    rcases List.mem_cons.1 hh with h | h
    · rw [h]; exact List.mem_cons_self ..
    · rcases List.mem_cons.1 h with h | h
      · rw [h]; exact List.mem_cons_of_mem _ (List.mem_cons_self ..)
      · exact List.mem_cons_of_mem _ (List.mem_cons_of_mem _ (hsub2 n h))
end
end Go.Proofs.Ytcenbfjhhaialaa


set_option linter.unusedVariables false
set_option linter.unusedSectionVars false
set_option linter.unusedSimpArgs false
set_option linter.unnecessarySimpa false
namespace Go.Proofs.Ytcenbfjhhaialaa
open Go.Ab
set_option maxRecDepth 10000

section
variable {h h' : HH} {c c' hp a sp : Nat} {vW vR : V} {W R : List Int} {size most : Int} {l : List (Nat × Hd)}

theorem hCollect_ok (r : HM h c hp a sp vW vR W R size most) (so : SoundW W R l) (hg : goneOf W R l l = []) : Does 10 [.ptr (some (hp, 0)), vR] h c (hmn hp a vW vR) fun v h' c' => ∃ vW', HM h' c' hp a sp vW' vR (slidW W R l (liveOf W l R)) (R.map (mvW W R l)) (roomZ most (slidW W R l (liveOf W l R)).length) most ∧ ∀ n ∈ rowName vW', n ∈ rowName vW := by
  have hsub1 : ∀ n ∈ [hp], n ∈ hmn hp a vW vR ∨ c ≤ n := fun n hn => .inl (by simp at hn; rw [hn]; exact List.mem_append_left _ (List.mem_cons_self ..))
  refine does_of (enter (fn := Try.f10) Try.func10 rfl rfl (Nat.le_of_ble_eq_true rfl) ?_)
  repeat' (first | refine WpC.seq ?_ | refine WpC.region ?_ | refine WpO.cons rfl rfl (WpX.pure (fun _ => rfl) ⟨nolog, ?_⟩))
  refine WpO.cons rfl rfl (call_atD rfl (alive_ok r.hm) hsub1 (Nat.le_refl _) fun v4 h4 c4 hc4 hfr4 hq => ?_)
  obtain ⟨rfl, rfl, rfl⟩ := hq
  repeat' (first | refine WpO.nil ?_ | refine seqQ_normal ?_)
  refine WpC.cond rfl (fun _ => ?_) (fun hb => by cases hb)
  repeat' (first | refine WpC.region ?_ | refine WpO.cons rfl rfl (WpX.pure (fun _ => rfl) ⟨nolog, ?_⟩))
  refine WpO.cons rfl rfl (call_at rfl (collect_ok r so hg) (fun n hn => .inl hn) (Nat.le_refl _) fun v5 h5 c5 hc5 hfr5 hq => ?_)
  obtain ⟨rfl, vW', r5, hn5⟩ := hq
  repeat' (first | refine WpO.nil ?_)
  exact out_normal rfl ⟨vW', r5, hn5⟩

set_option maxHeartbeats 1000000 in
theorem need_ok {n : Int} (r : HM h c hp a sp vW vR W R size most) (so : SoundW W R l) (hg : goneOf W R l l = []) (hn : 0 ≤ n ∧ n ≤ 1000000) : Does 16 [.ptr (some (hp, 0)), I n, vR] h c (hmn hp a vW vR) fun v h' c' => ∃ vW' W' R' size', v = .bool (decide (n ≤ most - W'.length)) ∧ HM h' c' hp a sp vW' vR W' R' size' most ∧ (∀ x ∈ rowName vW', x ∈ rowName vW) ∧ ((W' = W ∧ R' = R ∧ n ≤ most - W.length) ∨ (W' = slidW W R l (liveOf W l R) ∧ R' = R.map (mvW W R l))) ∧ (n ≤ most - W'.length → n ≤ size' - W'.length) := by
  have hobj := r.hm.obj
  have hlh := r.hm.lh
  have hmo := r.hm.mo
  have hm0 := r.hm.m0
  have hmx := r.hm.mx
  have hle := r.hm.ar.le
  have hsl := slid_le so
  have hsub1 : ∀ n ∈ [hp], n ∈ hmn hp a vW vR ∨ c ≤ n := fun n hn => .inl (by simp at hn; rw [hn]; exact List.mem_append_left _ (List.mem_cons_self ..))
  have hsub2 : ∀ n ∈ an a vW, n ∈ hmn hp a vW vR ∨ c ≤ n := fun n hn => .inl (List.mem_append_left _ (List.mem_cons_of_mem _ hn))
  have e1 : (if (0 : Int) > n then 0 else n) = n := by split <;> omega
  have w1 : IntKind.i64.wrap (size - (W.length : Int)) = size - W.length := Go.IntWalk.i64_in _ (by omega)
  refine does_of (enter (fn := Try.f16) Try.func16 rfl rfl (Nat.le_of_ble_eq_true rfl) ?_)
  repeat' (first | refine WpC.seq ?_ | refine WpC.region ?_ | refine WpO.nil ?_ | refine WpO.cons rfl rfl (WpX.pure (fun _ => rfl) ⟨nolog, ?_⟩))
  refine WpO.cons rfl rfl (call_atD rfl (alive_ok r.hm) hsub1 (Nat.le_refl _) fun v4 h4 c4 hc4 hfr4 hq => ?_)
  obtain ⟨rfl, rfl, rfl⟩ := hq
  repeat' (first | refine WpO.nil ?_ | refine WpO.cons rfl rfl (WpX.pure (fun _ => rfl) ⟨nolog, ?_⟩) | refine seqQ_normal ?_)
  refine WpC.cond rfl (fun hb => by cases hb) (fun _ => ?_)
  repeat' (first | refine WpO.cons rfl rfl (op_max rfl e1 ⟨nolog, ?_⟩) | refine WpC.seq ?_ | refine WpC.region ?_ | refine WpC.drawn ?_ | refine WpC.skip ?_ | refine WpO.nil ?_ | refine WpO.cons rfl rfl (WpX.pure (fun _ => rfl) ⟨nolog, ?_⟩) | refine WpL.cons rfl rfl (WpX.pure (fun _ => rfl) ⟨nolog, ?_⟩) | refine WpL.cons rfl rfl (op_load rfl rfl rfl hobj rfl ⟨(by simp [InL, Acc.name, rowName] <;> omega), ?_⟩))
  refine WpL.cons rfl rfl (call_atP rfl (size_okP r.hm.ar) hsub2 fun v5 h5 c5 al5 hal5 hq => ?_)
  obtain ⟨rfl, rfl, rfl⟩ := hq
  repeat' (first | refine WpL.cons rfl rfl (WpX.pure (fun _ => rfl) ⟨nolog, ?_⟩) | refine WpL.cons rfl rfl (op_load rfl rfl rfl hobj rfl ⟨(by simp [InL, Acc.name, rowName] <;> omega), ?_⟩))
  refine WpL.cons rfl rfl (call_atP rfl (used_okP r.hm.ar) hsub2 fun v6 h6 c6 al6 hal6 hq => ?_)
  obtain ⟨rfl, rfl, rfl⟩ := hq
  repeat' (first | refine WpL.cons rfl rfl (WpX.pure (fun _ => rfl) ⟨nolog, ?_⟩))
  have hal5' : ∀ x ∈ al5, x.writes = false := hal5
  have hal6' : ∀ x ∈ al6, x.writes = false := hal6
  refine WpL.nil (logsOk_of (cs := [0, 0, 2, 6, 14, 30, 0, 64, 192, 448, 1022, 2046, 4095]) (by decide +kernel) ?_) ?_
  · simp +contextual [allP, apP, Dis, acc_rd, acc_wr, accw_rd, accw_wr, Nat.testBit, hal5', hal6']
  repeat' (first | refine seqQ_normal ?_)
  refine WpC.cond rfl (fun hb => ?_) (fun hb => ?_)
  · have hb := of_decide_eq_true hb
    rw [w1] at hb
    repeat' (first | refine WpC.seq ?_ | refine WpC.region ?_ | refine WpC.ret ?_ | refine WpO.nil ?_ | refine WpO.cons rfl rfl (WpX.pure (fun _ => rfl) ⟨nolog, ?_⟩) | refine seqQ_ret ?_)
    refine out_ret rfl ⟨vW, W, R, size, ?_, r, fun x hx => hx, .inl ⟨rfl, rfl, by omega⟩, fun _ => hb⟩
    exact congrArg V.bool (decide_eq_true (show n ≤ most - W.length from by omega)).symm
  have hb := of_decide_eq_false hb
  rw [w1] at hb
  repeat' (first | refine WpC.seq ?_ | refine WpC.drawn ?_ | refine WpC.skip ?_ | refine WpL.cons rfl rfl (WpX.pure (fun _ => rfl) ⟨nolog, ?_⟩))
  refine WpL.cons rfl rfl (call_atL rfl (collect_ok r so hg) (fun n hn => .inl hn) (Nat.le_refl _) fun v7 h7 c7 al7 hal7 hc7 hf7 hq => ?_)
  obtain ⟨rfl, vW', r7, hn7⟩ := hq
  generalize hWs : slidW W R l (liveOf W l R) = W' at r7 hsl
  generalize hRs : R.map (mvW W R l) = R' at r7
  have hobj7 := r7.hm.obj
  have hle7 := r7.hm.ar.le
  have w2 : IntKind.i64.wrap (most - (W'.length : Int)) = most - W'.length := Go.IntWalk.i64_in _ (by omega)
  have hsub3 : ∀ n ∈ an a vW', n ∈ hmn hp a vW vR ∨ c ≤ n := fun n hn => by
    rcases List.mem_cons.1 hn with h | h
    · exact .inl (List.mem_append_left _ (List.mem_cons_of_mem _ (by rw [h]; exact List.mem_cons_self ..)))
    · exact .inl (List.mem_append_left _ (List.mem_cons_of_mem _ (List.mem_cons_of_mem _ (hn7 n h))))
  repeat' (first | refine WpL.cons rfl rfl (WpX.pure (fun _ => rfl) ⟨nolog, ?_⟩) | refine WpL.cons rfl rfl (op_load rfl rfl rfl hobj7 rfl ⟨(by simp [InL, Acc.name, rowName] <;> omega), ?_⟩))
  refine WpL.cons rfl rfl (call_atP rfl (used_okP r7.hm.ar) hsub3 fun v8 h8 c8 al8 hal8 hq => ?_)
  obtain ⟨rfl, rfl, rfl⟩ := hq
  repeat' (first | refine WpL.cons rfl rfl (WpX.pure (fun _ => rfl) ⟨nolog, ?_⟩))
  have hal8' : ∀ x ∈ al8, x.writes = false := hal8
  refine WpL.nil (logsOk_of (cs := [0, 0, 3, 7, 15, 31, 31, 95, 223, 479, 31, 1055, 3103, 7199, 15391, 32735, 65535, 131071]) (by decide +kernel) ?_) ?_
  · simp +contextual [allP, apP, Dis, acc_rd, acc_wr, accw_rd, accw_wr, Nat.testBit, hal8']
  repeat' (first | refine seqQ_normal ?_)
  refine WpC.cond rfl (fun hb => ?_) (fun hb => ?_)
  · have hb := of_decide_eq_true hb
    rw [w2] at hb
    repeat' (first | refine WpC.seq ?_ | refine WpC.region ?_ | refine WpC.ret ?_ | refine WpO.nil ?_ | refine WpO.cons rfl rfl (WpX.pure (fun _ => rfl) ⟨nolog, ?_⟩) | refine seqQ_ret ?_)
    refine out_ret rfl ⟨vW', W', R', _, ?_, r7, hn7, .inr ⟨rfl, rfl⟩, fun hh => by omega⟩
    exact congrArg V.bool (decide_eq_false (show ¬ n ≤ most - W'.length from by omega)).symm
  have hb := of_decide_eq_false hb
  rw [w2] at hb
  have w3 : IntKind.i64.wrap ((W'.length : Int) + n) = W'.length + n := Go.IntWalk.i64_in _ (by omega)
  repeat' (first | refine WpC.seq ?_ | refine WpC.drawn ?_ | refine WpC.skip ?_ | refine WpL.cons rfl rfl (WpX.pure (fun _ => rfl) ⟨nolog, ?_⟩) | refine WpL.cons rfl rfl (op_load rfl rfl rfl hobj7 rfl ⟨(by simp [InL, Acc.name, rowName] <;> omega), ?_⟩))
  refine WpL.cons rfl rfl (call_atP rfl (used_okP r7.hm.ar) hsub3 fun v9 h9 c9 al9 hal9 hq => ?_)
  obtain ⟨rfl, rfl, rfl⟩ := hq
  repeat' (first | refine WpL.cons rfl rfl (WpX.pure (fun _ => rfl) ⟨nolog, ?_⟩) | refine WpL.cons rfl rfl (op_load rfl rfl rfl hobj7 rfl ⟨(by simp [InL, Acc.name, rowName] <;> omega), ?_⟩))
  refine WpL.cons rfl rfl (call_atP rfl (used_okP r7.hm.ar) hsub3 fun v10 h10 c10 al10 hal10 hq => ?_)
  obtain ⟨rfl, rfl, rfl⟩ := hq
  repeat' (first | refine WpL.cons rfl rfl (WpX.pure (fun _ => rfl) ⟨nolog, ?_⟩))
  refine WpL.cons rfl rfl (call_atP rfl (room_okP (n := (W'.length : Int) + n) w3 hobj7 (by omega)) hsub1 fun v11 h11 c11 al11 hal11 hq => ?_)
  obtain ⟨rfl, rfl, rfl⟩ := hq
  skip
  refine WpL.cons rfl rfl (call_atL rfl (cut_ok r7.hm.ar (m := W'.length) rfl (Nat.le_refl _) (by unfold roomZ; omega) (by unfold roomZ; omega)) hsub3 hc7 fun v12 h12 c12 al12 hal12 hc12 hf12 hq => ?_)
  obtain ⟨rfl, rfl, vW'', hA, hn12⟩ := hq
  repeat' (first | refine WpL.cons rfl rfl (WpX.pure (fun _ => rfl) ⟨nolog, ?_⟩))
  have hal9' : ∀ x ∈ al9, x.writes = false := hal9
  have hal10' : ∀ x ∈ al10, x.writes = false := hal10
  have hal11' : ∀ x ∈ al11, x.writes = false := hal11
  refine WpL.nil (logsOk_of (cs := [0, 1, 3, 7, 0, 16, 48, 112, 240, 0, 0, 1024, 3072, 7168, 15856, 0, 65008, 131056, 262143, 524287]) (by decide +kernel) ?_) ?_
  · simp +contextual [allP, apP, Dis, acc_rd, acc_wr, accw_rd, accw_wr, Nat.testBit, hal9', hal10', hal11']
  repeat' (first | refine WpC.ret ?_)
  rw [List.take_length] at hA
  have hpa : hp ∉ an a vW' := fun hh => r.hm.sep (by
    rcases List.mem_cons.1 hh with h | h
    · rw [h]; exact List.mem_cons_self ..
    · exact List.mem_cons_of_mem _ (hn7 _ h))
  refine out_ret rfl ⟨vW'', W', R', roomZ most (W'.length + n), ?_, ⟨⟨?_, hA, r7.hm.lh, ?_, by unfold roomZ; omega, hm0, hmx⟩, r7.rr.keep (Nat.le_refl _) fun n hn hm => hf12 n hn ?_, fun n hn hh => ?_, r7.ok, r7.len⟩, fun x hx => hn7 x (hn12 x hx), .inr ⟨rfl, rfl⟩, fun hh => by unfold roomZ; omega⟩
  · exact congrArg V.bool (decide_eq_true (show n ≤ most - W'.length from by omega)).symm
  · rw [hf12 hp r7.hm.lh hpa]; exact hobj7
  · intro hh
    rcases List.mem_cons.1 hh with h | h
    · exact hpa (by rw [h]; exact List.mem_cons_self ..)
    · exact hpa (List.mem_cons_of_mem _ (hn12 _ h))
  · intro hh
    exact r7.sep n hm (List.mem_cons_of_mem _ hh)
  · refine r7.sep n hn ?_
    rcases List.mem_cons.1 hh with h | h
    · rw [h]; exact List.mem_cons_self ..
    · rcases List.mem_cons.1 h with h | h
      · rw [h]; exact List.mem_cons_of_mem _ (List.mem_cons_self ..)
      · exact List.mem_cons_of_mem _ (List.mem_cons_of_mem _ (hn12 n h))
end
end Go.Proofs.Ytcenbfjhhaialaa


set_option linter.unusedVariables false
set_option linter.unusedSectionVars false
set_option linter.unusedSimpArgs false
set_option linter.unnecessarySimpa false
namespace Go.Proofs.Ytcenbfjhhaialaa
open Go.Ab
set_option maxRecDepth 10000

section
variable {h h' : HH} {c c' hp a sp : Nat} {vW vR vX : V} {W R X : List Int} {size most : Int} {l : List (Nat × Hd)}

theorem make_okW {x : Hd} (hx : okH x) : okW (makeW x) := ofW_ok ⟨by decide, by decide⟩
theorem make_tag {x : Hd} : tagW (makeW x) = 6 := tag_of ⟨by decide, by decide⟩
theorem set_app_len {A : List Int} {m : Nat} {w : Int} : (A ++ List.replicate (m + 1) 0).set A.length w = A ++ w :: List.replicate m 0 := by
  rw [List.set_append_right _ _ (Nat.le_refl _), Nat.sub_self, List.replicate_succ]; rfl

theorem fresh_ok {x : Hd} (r : ArAt h c a vW W size) (hx : okH x) (hle : (W.length : Int) + 1 + x.size ≤ size) : Does 25 [.ptr (some (a, 0)), .agg (hdV x)] h c (an a vW) fun v h' c' => v = .tuple [U (ptrW W.length), .bool true] ∧ ∃ vW', ArAt h' c' a vW' (W ++ makeW x :: List.replicate x.size.toNat 0) size ∧ ∀ n ∈ rowName vW', n ∈ rowName vW ∨ c ≤ n := by
  have hok := hx
  unfold okH at hok
  have hmx := r.mx
  have w1 : IntKind.i64.wrap ((1 : Int) + x.size) = 1 + x.size := Go.IntWalk.i64_in _ (by omega)
  have hnm := r.names
  refine does_of (enter (fn := Try.f25) Try.func25 rfl rfl (Nat.le_of_ble_eq_true rfl) ?_)
  repeat' (first | refine WpC.seq ?_ | refine WpC.region ?_ | refine WpO.nil ?_ | refine WpO.cons rfl rfl (WpX.pure (fun _ => rfl) ⟨nolog, ?_⟩) | refine WpO.cons rfl rfl (op_box rfl ⟨(by simp [InL, Acc.name, rowName] <;> omega), ?_⟩) | refine WpO.cons rfl rfl (op_loadA rfl rfl rfl rfl (MapI.get_same _ _ _) rfl ⟨(by simp [InL, Acc.name, rowName] <;> omega), ?_⟩))
  refine WpO.cons rfl rfl (call_at rfl (make_ok hx) (fun n hn => by cases hn) (by omega) fun v4 h4 c4 hc4 hf4 hq => ?_)
  subst hq
  repeat' (first | refine WpC.seq ?_ | refine WpC.region ?_ | refine WpO.nil ?_ | refine WpO.cons rfl rfl (WpX.pure (fun _ => rfl) ⟨nolog, ?_⟩))
  refine WpO.cons rfl rfl (call_at rfl (tag_ok (make_okW hx)) (fun n hn => by cases hn) (by omega) fun v5 h5 c5 hc5 hf5 hq => ?_)
  obtain ⟨rfl, rfl, rfl⟩ := hq
  rw [make_tag]
  have hg4 : MapI.get h4 c = some (.cells true true (hdV x)) := by rw [hf4 c (by omega) (fun hh => by cases hh)]; exact MapI.get_same _ _ _
  have r4 : ArAt h4 c4 a vW W size := r.same (by omega) fun n hn => by rw [hf4 n (by omega) (fun hh => by cases hh)]; exact MapI.get_ne _ _ _ _ (by omega)
  repeat' (first | refine WpO.nil ?_ | refine WpO.cons rfl rfl (WpX.pure (fun _ => rfl) ⟨nolog, ?_⟩) | refine seqQ_normal ?_)
  refine WpC.cond rfl (fun hb => by cases hb) (fun _ => ?_)
  repeat' (first | refine WpC.seq ?_ | refine WpC.region ?_ | refine WpC.skip ?_ | refine WpO.cons rfl rfl (WpX.pure (fun _ => rfl) ⟨nolog, ?_⟩) | refine WpO.cons rfl rfl (op_load rfl rfl rfl hg4 rfl ⟨(by simp [InL, Acc.name, rowName] <;> omega), ?_⟩))
  refine WpO.cons rfl rfl (call_at rfl (take_ok r4 (m := x.size.toNat + 1) (by rw [w1]; omega) (by omega)) (fun n hn => .inl hn) (by omega) fun v6 h6 c6 hc6 hf6 hq => ?_)
  obtain ⟨rfl, vW', r6, hn6⟩ := hq
  repeat' (first | refine WpC.seq ?_ | refine WpC.region ?_ | refine WpO.nil ?_ | refine WpO.cons rfl rfl (WpX.pure (fun _ => rfl) ⟨nolog, ?_⟩) | refine seqQ_normal ?_)
  refine WpC.cond rfl (fun hb => by cases hb) (fun _ => ?_)
  repeat' (first | refine WpC.seq ?_ | refine WpC.region ?_ | refine WpC.skip ?_ | refine WpO.cons rfl rfl (WpX.pure (fun _ => rfl) ⟨nolog, ?_⟩))
  have hsub : ∀ n ∈ an a vW', n ∈ an a vW ∨ c ≤ n := fun n hn => by
    rcases List.mem_cons.1 hn with h | h
    · exact .inl (by rw [h]; exact List.mem_cons_self ..)
    · rcases hn6 n h with h | h
      · exact .inl (List.mem_cons_of_mem _ h)
      · exact .inr (by omega)
  refine WpO.cons rfl rfl (call_at rfl (set_ok r6 (j := W.length) rfl (by simp) (make_okW hx)) hsub (by omega) fun v7 h7 c7 hc7 hf7 hq => ?_)
  obtain ⟨rfl, rfl, r7, _⟩ := hq
  rw [set_app_len] at r7
  have hWl := r.le
  repeat' (first | refine WpC.seq ?_ | refine WpC.region ?_ | refine WpO.nil ?_ | refine WpO.cons rfl rfl (WpX.pure (fun _ => rfl) ⟨nolog, ?_⟩))
  refine WpO.cons rfl rfl (call_at rfl (of_word_ok ⟨by decide, by decide⟩ (by unfold fitsW; omega)) (fun n hn => by cases hn) (by omega) fun v8 h8 c8 hc8 hf8 hq => ?_)
  obtain ⟨rfl, rfl, rfl⟩ := hq
  repeat' (first | refine WpC.ret ?_ | refine WpO.nil ?_ | refine WpO.cons rfl rfl (WpX.pure (fun _ => rfl) ⟨nolog, ?_⟩))
  refine out_ret rfl ⟨rfl, vW', r7, fun n hn => ?_⟩
  rcases hn6 n hn with h | h
  · exact .inl h
  · exact .inr (by omega)

theorem fresh_no {x : Hd} (r : ArAt h c a vW W size) (hx : okH x) (hle : size < (W.length : Int) + 1 + x.size) : Does 25 [.ptr (some (a, 0)), .agg (hdV x)] h c (an a vW) fun v h' c' => v = .tuple [U 0, .bool false] ∧ ∀ n, n < c → MapI.get h' n = MapI.get h n := by
  have hok := hx
  unfold okH at hok
  have hmx := r.mx
  have w1 : IntKind.i64.wrap ((1 : Int) + x.size) = 1 + x.size := Go.IntWalk.i64_in _ (by omega)
  have hnm := r.names
  refine does_of (enter (fn := Try.f25) Try.func25 rfl rfl (Nat.le_of_ble_eq_true rfl) ?_)
  repeat' (first | refine WpC.seq ?_ | refine WpC.region ?_ | refine WpO.nil ?_ | refine WpO.cons rfl rfl (WpX.pure (fun _ => rfl) ⟨nolog, ?_⟩) | refine WpO.cons rfl rfl (op_box rfl ⟨(by simp [InL, Acc.name, rowName] <;> omega), ?_⟩) | refine WpO.cons rfl rfl (op_loadA rfl rfl rfl rfl (MapI.get_same _ _ _) rfl ⟨(by simp [InL, Acc.name, rowName] <;> omega), ?_⟩))
  refine WpO.cons rfl rfl (call_at rfl (make_ok hx) (fun n hn => by cases hn) (by omega) fun v4 h4 c4 hc4 hf4 hq => ?_)
  subst hq
  repeat' (first | refine WpC.seq ?_ | refine WpC.region ?_ | refine WpO.nil ?_ | refine WpO.cons rfl rfl (WpX.pure (fun _ => rfl) ⟨nolog, ?_⟩))
  refine WpO.cons rfl rfl (call_at rfl (tag_ok (make_okW hx)) (fun n hn => by cases hn) (by omega) fun v5 h5 c5 hc5 hf5 hq => ?_)
  obtain ⟨rfl, rfl, rfl⟩ := hq
  rw [make_tag]
  have hg4 : MapI.get h4 c = some (.cells true true (hdV x)) := by rw [hf4 c (by omega) (fun hh => by cases hh)]; exact MapI.get_same _ _ _
  have hfr4 : ∀ n, n < c → MapI.get h4 n = MapI.get h n := fun n hn => by rw [hf4 n (by omega) (fun hh => by cases hh)]; exact MapI.get_ne _ _ _ _ (by omega)
  have r4 : ArAt h4 c4 a vW W size := r.same (by omega) hfr4
  repeat' (first | refine WpO.nil ?_ | refine WpO.cons rfl rfl (WpX.pure (fun _ => rfl) ⟨nolog, ?_⟩) | refine seqQ_normal ?_)
  refine WpC.cond rfl (fun hb => by cases hb) (fun _ => ?_)
  repeat' (first | refine WpC.seq ?_ | refine WpC.region ?_ | refine WpC.skip ?_ | refine WpO.cons rfl rfl (WpX.pure (fun _ => rfl) ⟨nolog, ?_⟩) | refine WpO.cons rfl rfl (op_load rfl rfl rfl hg4 rfl ⟨(by simp [InL, Acc.name, rowName] <;> omega), ?_⟩))
  refine WpO.cons rfl rfl (call_at rfl (take_no r4 (by rw [w1]; omega) (by rw [w1]; omega)) (fun n hn => .inl hn) (by omega) fun v6 h6 c6 hc6 hf6 hq => ?_)
  obtain ⟨rfl, rfl, rfl⟩ := hq
  repeat' (first | refine WpC.seq ?_ | refine WpC.region ?_ | refine WpO.nil ?_ | refine WpO.cons rfl rfl (WpX.pure (fun _ => rfl) ⟨nolog, ?_⟩) | refine seqQ_normal ?_)
  refine WpC.cond rfl (fun _ => ?_) (fun hb => by cases hb)
  repeat' (first | refine WpC.seq ?_ | refine WpC.region ?_ | refine WpC.ret ?_ | refine WpO.nil ?_ | refine WpO.cons rfl rfl (WpX.pure (fun _ => rfl) ⟨nolog, ?_⟩) | refine seqQ_ret ?_)
  exact out_ret rfl ⟨rfl, hfr4⟩

/-- A tuple's header. -/
abbrev tupH (n t : Int) : Hd := ⟨1, n, t, false⟩
theorem handle_ok {n t : Int} : Does 24 [.agg (hdV (tupH n t)), vX] h c [] fun v h' c' => v = I 0 ∧ ∀ n, n < c → MapI.get h' n = MapI.get h n := by
  refine does_of (enter (fn := Try.f24) Try.func24 rfl rfl (Nat.le_of_ble_eq_true rfl) ?_)
  repeat' (first | refine WpC.seq ?_ | refine WpC.region ?_ | refine WpO.nil ?_ | refine WpO.cons rfl rfl (WpX.pure (fun _ => rfl) ⟨nolog, ?_⟩) | refine WpO.skip rfl rfl ?_ | refine seqQ_normal ?_ | refine WpO.cons rfl rfl (op_box rfl ⟨(by simp [InL, Acc.name, rowName] <;> omega), ?_⟩) | refine WpO.cons rfl rfl (op_load rfl rfl rfl (MapI.get_same _ _ _) rfl ⟨(by simp [InL, Acc.name, rowName] <;> omega), ?_⟩))
  refine WpC.cond rfl (fun _ => ?_) (fun hb => by cases hb)
  repeat' (first | refine WpC.seq ?_ | refine WpC.region ?_ | refine WpC.ret ?_ | refine WpO.nil ?_ | refine WpO.cons rfl rfl (WpX.pure (fun _ => rfl) ⟨nolog, ?_⟩) | refine seqQ_ret ?_)
  exact out_ret rfl ⟨rfl, fun n hn => MapI.get_ne _ _ _ _ (by omega)⟩

theorem hmake_no {n t : Int} (r : HeapAt h c hp a sp vW W size most) (rx : RowOf 1 wordV h c vX X) (hX : (X.length : Int) = n) (hx : okH (tupH n t)) (hle : size < (W.length : Int) + 1 + n) : Does 8 [.ptr (some (hp, 0)), .agg (hdV (tupH n t)), vX] h c (hn hp a vW ++ rowName vX) fun v h' c' => v = .tuple [U 0, .bool false] ∧ ∀ n, n < c → MapI.get h' n = MapI.get h n := by
  have hobj := r.obj
  have hlh := r.lh
  have hsub1 : ∀ m ∈ [hp], m ∈ hn hp a vW ++ rowName vX ∨ c ≤ m := fun m hm => .inl (by simp at hm; rw [hm]; exact List.mem_append_left _ (List.mem_cons_self ..))
  have hsub2 : ∀ m ∈ an a vW, m ∈ hn hp a vW ++ rowName vX ∨ c ≤ m := fun m hm => .inl (List.mem_append_left _ (List.mem_cons_of_mem _ hm))
  obtain ⟨b, cap, rfl, hlt, hrow⟩ := rx
  subst hX
  have r1 : ∀ o, HeapAt (MapI.set h c o) (c + 1) hp a sp vW W size most := fun o => r.same (by omega) fun m hm => MapI.get_ne _ _ _ _ (by omega)
  refine does_of (enter (fn := Try.f8) Try.func8 rfl rfl (Nat.le_of_ble_eq_true rfl) ?_)
  repeat' (first | refine WpC.seq ?_ | refine WpC.region ?_ | refine WpO.nil ?_ | refine WpO.cons rfl rfl (WpX.pure (fun _ => rfl) ⟨nolog, ?_⟩) | refine WpO.cons rfl rfl (op_box rfl ⟨(by simp [InL, Acc.name, rowName] <;> omega), ?_⟩))
  refine WpO.cons rfl rfl (call_atD rfl (alive_ok (r1 _)) hsub1 (by omega) fun v4 h4 c4 hc4 hfr4 hq => ?_)
  obtain ⟨rfl, rfl, rfl⟩ := hq
  repeat' (first | refine WpO.nil ?_ | refine WpO.cons rfl rfl (WpX.pure (fun _ => rfl) ⟨nolog, ?_⟩) | refine seqQ_normal ?_ | refine WpO.cons rfl rfl (op_load rfl rfl rfl (MapI.get_same _ _ _) rfl ⟨(by simp [InL, Acc.name, rowName] <;> omega), ?_⟩))
  refine WpC.cond rfl (fun hb => absurd hb (by simp)) (fun _ => ?_)
  repeat' (first | refine WpC.seq ?_ | refine WpC.region ?_ | refine WpC.skip ?_ | refine WpO.cons rfl rfl (WpX.pure (fun _ => rfl) ⟨nolog, ?_⟩) | refine WpO.cons rfl rfl (op_loadA rfl rfl rfl rfl (MapI.get_same _ _ _) rfl ⟨(by simp [InL, Acc.name, rowName] <;> omega), ?_⟩))
  refine WpO.cons rfl rfl (call_at rfl handle_ok (fun n hn => by cases hn) (by omega) fun v5 h5 c5 hc5 _ hq => ?_)
  obtain ⟨rfl, hf5⟩ := hq
  have r5 := (r1 (.cells true true (hdV (tupH X.length t)))).same hc5 hf5
  have hobj5 := r5.obj
  have hg5 : MapI.get h5 c = some (.cells true true (hdV (tupH X.length t))) := by rw [hf5 c (by omega)]; exact MapI.get_same _ _ _
  repeat' (first | refine WpC.seq ?_ | refine WpC.region ?_ | refine WpO.nil ?_ | refine WpO.cons rfl rfl (WpX.pure (fun _ => rfl) ⟨nolog, ?_⟩) | refine WpO.skip rfl rfl ?_ | refine seqQ_normal ?_)
  refine WpC.cond rfl (fun hb => by cases hb) (fun _ => ?_)
  repeat' (first | refine WpC.seq ?_ | refine WpC.drawn ?_ | refine WpC.skip ?_ | refine WpL.cons rfl rfl (WpX.pure (fun _ => rfl) ⟨nolog, ?_⟩) | refine WpL.cons rfl rfl (op_load rfl rfl rfl hobj5 rfl ⟨(by simp [InL, Acc.name, rowName] <;> omega), ?_⟩) | refine WpL.cons rfl rfl (op_loadA rfl rfl rfl rfl hg5 rfl ⟨(by simp [InL, Acc.name, rowName] <;> omega), ?_⟩))
  refine WpL.cons rfl rfl (call_atL rfl (fresh_no r5.ar hx (by omega)) hsub2 (by omega) fun v6 h6 c6 al6 hal6 hc6 _ hq => ?_)
  obtain ⟨rfl, hf6⟩ := hq
  repeat' (first | refine WpL.cons rfl rfl (WpX.pure (fun _ => rfl) ⟨nolog, ?_⟩))
  refine WpL.nil (logsOk_of (cs := [0, 1, 3, 7, 0, 31, 63, 127, 127, 255, 1023]) (by decide +kernel) ?_) ?_
  · simp +contextual [allP, apP, Dis, acc_rd, acc_wr, accw_rd, accw_wr, Nat.testBit]
  repeat' (first | refine WpC.seq ?_ | refine WpC.region ?_ | refine WpO.nil ?_ | refine WpO.cons rfl rfl (WpX.pure (fun _ => rfl) ⟨nolog, ?_⟩) | refine seqQ_normal ?_)
  refine WpC.cond rfl (fun _ => ?_) (fun hb => by cases hb)
  repeat' (first | refine WpC.seq ?_ | refine WpC.region ?_ | refine WpC.ret ?_ | refine WpO.nil ?_ | refine WpO.cons rfl rfl (WpX.pure (fun _ => rfl) ⟨nolog, ?_⟩) | refine seqQ_ret ?_)
  refine out_ret rfl ⟨rfl, fun m hm => ?_⟩
  rw [hf6 m (by omega), hf5 m (by omega)]; exact MapI.get_ne _ _ _ _ (by omega)
end
end Go.Proofs.Ytcenbfjhhaialaa


set_option linter.unusedVariables false
set_option linter.unusedSectionVars false
set_option linter.unusedSimpArgs false
set_option linter.unnecessarySimpa false
namespace Go.Proofs.Ytcenbfjhhaialaa
open Go.Ab
set_option maxRecDepth 10000

section
variable {h h' : HH} {c c' hp a sp : Nat} {vW vR vX : V} {W R X : List Int} {size most : Int} {l : List (Nat × Hd)}

/-- So many fields are written. -/
theorem fill_step {A : List Int} {w : Int} {X : List Int} {i : Nat} {x : Int} (hi : X[i]? = some x) : (A ++ w :: (X.take i ++ List.replicate (X.length - i) 0)).set (A.length + 1 + i) x = A ++ w :: (X.take (i + 1) ++ List.replicate (X.length - (i + 1)) 0) := by
  have hlt := (List.getElem?_eq_some_iff.1 hi).1
  have e : A.length + 1 + i - A.length = i + 1 := by omega
  have hl : (X.take i).length = i := by rw [List.length_take]; omega
  rw [List.set_append_right _ _ (by omega), e, List.set_cons_succ, List.set_append_right _ _ (by omega), hl, Nat.sub_self, show X.length - i = (X.length - (i + 1)) + 1 from by omega, List.replicate_succ, List.set_cons_zero, List.take_add_one, hi]
  simp

set_option maxHeartbeats 1000000 in
theorem hmake_ok {n t : Int} (r : HeapAt h c hp a sp vW W size most) (rx : RowOf 1 wordV h c vX X) (hX : (X.length : Int) = n) (hx : okH (tupH n t)) (hXW : ∀ m ∈ rowName vX, m ∉ hn hp a vW) (hok : ∀ w ∈ X, okW w) (hle : (W.length : Int) + 1 + n ≤ size) : Does 8 [.ptr (some (hp, 0)), .agg (hdV (tupH n t)), vX] h c (hn hp a vW ++ rowName vX) fun v h' c' => v = .tuple [U (ptrW W.length), .bool true] ∧ ∃ vW', HeapAt h' c' hp a sp vW' (W ++ makeW (tupH n t) :: X) size most ∧ (∀ n ∈ rowName vW', n ∈ rowName vW ∨ c ≤ n) ∧ ∀ m, m < c → m ∉ an a vW → MapI.get h' m = MapI.get h m := by
  have hobj := r.obj
  have hlh := r.lh
  have hsep := r.sep
  have hmo := r.mo
  have hmx := r.mx
  have hla := r.ar.la
  have hnm := r.names
  have hsub1 : ∀ m ∈ [hp], m ∈ hn hp a vW ++ rowName vX ∨ c ≤ m := fun m hm => .inl (by simp at hm; rw [hm]; exact List.mem_append_left _ (List.mem_cons_self ..))
  have hsub2 : ∀ m ∈ an a vW, m ∈ hn hp a vW ++ rowName vX ∨ c ≤ m := fun m hm => .inl (List.mem_append_left _ (List.mem_cons_of_mem _ hm))
  obtain ⟨b, cap, rfl, hshape⟩ := rx.shape
  have hlt := rx.lt
  subst hX
  have hx0 := hx
  unfold okH at hx0
  simp only at hx0
  have r1 : ∀ o, HeapAt (MapI.set h c o) (c + 1) hp a sp vW W size most := fun o => r.same (by omega) fun m hm => MapI.get_ne _ _ _ _ (by omega)
  refine does_of (enter (fn := Try.f8) Try.func8 rfl rfl (Nat.le_of_ble_eq_true rfl) ?_)
  repeat' (first | refine WpC.seq ?_ | refine WpC.region ?_ | refine WpO.nil ?_ | refine WpO.cons rfl rfl (WpX.pure (fun _ => rfl) ⟨nolog, ?_⟩) | refine WpO.cons rfl rfl (op_box rfl ⟨(by simp [InL, Acc.name, rowName] <;> omega), ?_⟩))
  refine WpO.cons rfl rfl (call_atD rfl (alive_ok (r1 _)) hsub1 (by omega) fun v4 h4 c4 hc4 hfr4 hq => ?_)
  obtain ⟨rfl, rfl, rfl⟩ := hq
  repeat' (first | refine WpO.nil ?_ | refine WpO.cons rfl rfl (WpX.pure (fun _ => rfl) ⟨nolog, ?_⟩) | refine seqQ_normal ?_ | refine WpO.cons rfl rfl (op_load rfl rfl rfl (MapI.get_same _ _ _) rfl ⟨(by simp [InL, Acc.name, rowName] <;> omega), ?_⟩))
  refine WpC.cond rfl (fun hb => absurd hb (by simp)) (fun _ => ?_)
  repeat' (first | refine WpC.seq ?_ | refine WpC.region ?_ | refine WpC.skip ?_ | refine WpO.cons rfl rfl (WpX.pure (fun _ => rfl) ⟨nolog, ?_⟩) | refine WpO.cons rfl rfl (op_loadA rfl rfl rfl rfl (MapI.get_same _ _ _) rfl ⟨(by simp [InL, Acc.name, rowName] <;> omega), ?_⟩))
  refine WpO.cons rfl rfl (call_at rfl handle_ok (fun n hn => by cases hn) (by omega) fun v5 h5 c5 hc5 _ hq => ?_)
  obtain ⟨rfl, hf5⟩ := hq
  have r5 := (r1 (.cells true true (hdV (tupH X.length t)))).same hc5 hf5
  have hobj5 := r5.obj
  have hg5 : MapI.get h5 c = some (.cells true true (hdV (tupH X.length t))) := by rw [hf5 c (by omega)]; exact MapI.get_same _ _ _
  repeat' (first | refine WpC.seq ?_ | refine WpC.region ?_ | refine WpO.nil ?_ | refine WpO.cons rfl rfl (WpX.pure (fun _ => rfl) ⟨nolog, ?_⟩) | refine WpO.skip rfl rfl ?_ | refine seqQ_normal ?_)
  refine WpC.cond rfl (fun hb => by cases hb) (fun _ => ?_)
  repeat' (first | refine WpC.seq ?_ | refine WpC.drawn ?_ | refine WpC.skip ?_ | refine WpL.cons rfl rfl (WpX.pure (fun _ => rfl) ⟨nolog, ?_⟩) | refine WpL.cons rfl rfl (op_load rfl rfl rfl hobj5 rfl ⟨(by simp [InL, Acc.name, rowName] <;> omega), ?_⟩) | refine WpL.cons rfl rfl (op_loadA rfl rfl rfl rfl hg5 rfl ⟨(by simp [InL, Acc.name, rowName] <;> omega), ?_⟩))
  refine WpL.cons rfl rfl (call_atL rfl (fresh_ok r5.ar hx (by simp only; omega)) hsub2 (by omega) fun v6 h6 c6 al6 hal6 hc6 hf6 hq => ?_)
  obtain ⟨rfl, vW6, hA6, hn6⟩ := hq
  repeat' (first | refine WpL.cons rfl rfl (WpX.pure (fun _ => rfl) ⟨nolog, ?_⟩))
  refine WpL.nil (logsOk_of (cs := [0, 1, 3, 7, 0, 31, 63, 127, 127, 255, 1023]) (by decide +kernel) ?_) ?_
  · simp +contextual [allP, apP, Dis, acc_rd, acc_wr, accw_rd, accw_wr, Nat.testBit]
  repeat' (first | refine WpC.seq ?_ | refine WpC.region ?_ | refine WpO.nil ?_ | refine WpO.cons rfl rfl (WpX.pure (fun _ => rfl) ⟨nolog, ?_⟩) | refine seqQ_normal ?_)
  refine WpC.cond rfl (fun hb => by cases hb) (fun _ => ?_)
  have hsep6 : hp ∉ an a vW6 := fun hh => by
    rcases List.mem_cons.1 hh with h | h
    · exact hsep (by rw [h]; exact List.mem_cons_self ..)
    · rcases hn6 _ h with h | h
      · exact hsep (List.mem_cons_of_mem _ h)
      · omega
  have hfr6 : ∀ m, m < c → m ∉ an a vW → MapI.get h6 m = MapI.get h m := fun m hm hna => by
    rw [hf6 m (by omega) hna, hf5 m (by omega)]; exact MapI.get_ne _ _ _ _ (by omega)
  have hn6' : ∀ n ∈ rowName vW6, n ∈ rowName vW ∨ c ≤ n := fun n hn => (hn6 n hn).imp id fun h => by omega
  rw [show ((tupH (X.length : Int) t).size).toNat = X.length from by simp] at hA6
  have hpn : hp ∉ an a vW := hsep
  have hobj6 : MapI.get h6 hp = _ := (hfr6 hp hlh hpn).trans hobj
  have hvp : valW (ptrW W.length) = W.length := val_of ⟨by decide, by decide⟩ (by unfold fitsW; have := r.ar.le; omega)
  have hokp : okW (ptrW W.length) := ofW_ok ⟨by decide, by decide⟩
  generalize hpw : ptrW W.length = pw at hvp hokp
  repeat' (first | refine WpC.seqI (a := Code.seq (Code.region 9 _ _) _) (fun e' h' c' => (∃ b0, e' = FR b0 [(8, I 0), (9, U pw)]) ∧ c ≤ c' ∧ ∃ vW', HeapAt h' c' hp a sp vW' (W ++ makeW (tupH X.length t) :: X) size most ∧ (∀ n ∈ rowName vW', n ∈ rowName vW ∨ c ≤ n) ∧ ∀ m, m < c → m ∉ an a vW → MapI.get h' m = MapI.get h m) ?_ ?_ | refine WpC.seq ?_ | refine WpC.region ?_ | refine WpC.skip ?_ | refine WpC.block ?_ | refine WpO.nil ?_ | refine WpO.cons rfl rfl (WpX.pure (fun _ => rfl) ⟨nolog, ?_⟩))
  ·
    skip
    refine WpC.loop ?_
    refine WpLoop.ind (X := Nat × V) (fun y e' h' c' => (∃ b0, e' = FR b0 [(0, V.ptr (some (hp, 0))), (8, I 0), (9, U pw), (48, .slice b X.length cap), (49, I X.length), (50, I y.1)]) ∧ y.1 ≤ X.length ∧ c6 ≤ c' ∧ HeapAt h' c' hp a sp y.2 (W ++ makeW (tupH X.length t) :: (X.take y.1 ++ List.replicate (X.length - y.1) 0)) size most ∧ (∀ n ∈ rowName y.2, n ∈ rowName vW ∨ c ≤ n) ∧ ∀ m, m < c → m ∉ an a vW → MapI.get h' m = MapI.get h m)
      (fun y => X.length - y.1) ?_ (0, vW6) _ _ _ ⟨fr ⟨rfl, rfl, rfl, rfl, rfl, rfl, trivial⟩, Nat.zero_le _, Nat.le_refl _, ⟨hobj6, by rw [List.take_zero, List.nil_append, Nat.sub_zero]; exact hA6, by omega, hsep6, hmo, r.m0, hmx⟩, hn6', hfr6⟩
    rintro ⟨i, v⟩ e' h' c' ⟨⟨b0, rfl⟩, hi, hc', rr, hnv, hfv⟩
    simp only at hi rr hnv
    have hobj' := rr.obj
    repeat' (first | refine WpC.seq ?_ | refine WpC.region ?_ | refine WpO.nil ?_ | refine WpO.cons rfl rfl (WpX.pure (fun _ => rfl) ⟨nolog, ?_⟩))
    refine WpC.cond rfl (fun hlt => ?_) (fun hge => ?_)
    case refine_2 =>
      have hge : X.length ≤ i := by simpa using hge
      have hie : i = X.length := by omega
      subst hie
      rw [List.take_of_length_le (Nat.le_refl _), Nat.sub_self, List.replicate_zero, List.append_nil] at rr
      repeat' (first | refine WpC.exit ?_ | refine seqQ_normal ?_ | refine seqQ_exit ?_ | refine blkQ_out rfl ?_)
      refine ⟨fr ?_, by omega, v, rr, hnv, hfv⟩
      exact ⟨rfl, rfl, trivial⟩
    have hlt' : i < X.length := by simpa using hlt
    obtain ⟨x, hxi⟩ : ∃ z, X[i]? = some z := ⟨_, List.getElem?_eq_getElem hlt'⟩
    obtain ⟨sn, cl, junk, rfl, hsn, hg⟩ := hshape i hlt'
    have hsv : sn ∉ an a vW := fun hh => hXW sn (by simp [rowName]) (List.mem_cons_of_mem _ hh)
    have hg' : MapI.get h' sn = _ := (hfv sn hsn hsv).trans hg
    have hz : nth (flat wordV X ++ junk) (0 + ((i : Nat) : Int).toNat * 1) = some (U x) := by
      rw [show 0 + ((i : Nat) : Int).toNat * 1 = i from by simp]
      exact nth_flat0 word_len hxi rfl junk
    have hWl := r.ar.le
    have hw1 : IntKind.i64.wrap ((i : Int) + 1) = ((i + 1 : Nat) : Int) := by rw [Go.IntWalk.i64_in _ (by omega)]; omega
    have hw2 : IntKind.i64.wrap (IntKind.i64.wrap ((W.length : Int) + 1) + (i : Int)) = ((W.length + 1 + i : Nat) : Int) := by rw [Go.IntWalk.i64_in ((W.length : Int) + 1) (by omega), Go.IntWalk.i64_in _ (by omega)]; omega
    repeat' (first | refine WpC.seq ?_ | refine WpC.region ?_ | refine WpC.drawn ?_ | refine WpC.skip ?_ | refine WpC.block ?_ | refine WpO.nil ?_ | refine WpO.cons rfl rfl (WpX.pure (fun _ => rfl) ⟨nolog, ?_⟩) | refine WpL.cons rfl rfl (WpX.pure (fun _ => rfl) ⟨nolog, ?_⟩) | refine WpO.cons rfl rfl (op_indexAddr (k := 1) rfl rfl rfl rfl ⟨by omega, by omega⟩ ⟨(by simp [InL, Acc.name, rowName] <;> omega), ?_⟩) | refine WpO.cons rfl rfl (op_load rfl rfl rfl hg' hz ⟨(by simp [InL, Acc.name, rowName] <;> omega), ?_⟩) | refine WpL.cons rfl rfl (op_load rfl rfl rfl hobj' rfl ⟨(by simp [InL, Acc.name, rowName] <;> omega), ?_⟩))
    refine WpL.cons rfl rfl (call_atRL rfl (val_okR hokp) (fun n hn => by cases hn) (by omega) fun v7 h7 c7 al7 hal7 hc7 hf7 hq => ?_)
    obtain ⟨rfl, rfl, rfl⟩ := hq
    rw [hvp]
    repeat' (first | refine WpL.cons rfl rfl (WpX.pure (fun _ => rfl) ⟨nolog, ?_⟩))
    refine WpL.cons rfl rfl (call_atL rfl (set_ok rr.ar (j := W.length + 1 + i) hw2 (by simp; omega) (hok x (List.mem_of_getElem? hxi))) (ms := hn hp a vW ++ rowName (.slice (some (sn, 0)) X.length cap)) (c0 := c) (fun n hn => ?_) (by omega) fun v8 h8 c8 al8 hal8 hc8 hf8 hq => ?_)
    · rcases List.mem_cons.1 hn with h | h
      · exact .inl (List.mem_append_left _ (by rw [h]; exact List.mem_cons_of_mem _ (List.mem_cons_self ..)))
      · rcases hnv n h with h | h
        · exact .inl (List.mem_append_left _ (List.mem_cons_of_mem _ (List.mem_cons_of_mem _ h)))
        · exact .inr h
    obtain ⟨rfl, rfl, r8, _⟩ := hq
    rw [fill_step hxi] at r8
    have hal7' : ∀ x ∈ al7, hp = x.name → x.writes = false := fun x hx e => by
      cases hw : x.writes with
      | false => rfl
      | true => have := (hal7 x hx).2 hw; have := rr.lh; omega
    skip
    refine WpL.nil (logsOk_of (cs := [0, 1, 3, 7, 0, 16, 48, 0, 240, 0, 1023]) (by decide +kernel) ?_) ?_
    · simp +contextual [allP, apP, Dis, acc_rd, acc_wr, accw_rd, accw_wr, Nat.testBit, hal7']
    repeat' (first | refine WpC.region ?_ | refine WpO.nil ?_ | refine WpO.cons rfl rfl (WpX.pure (fun _ => rfl) ⟨nolog, ?_⟩) | refine seqQ_normal ?_)
    have hpv : hp ∉ an a v := rr.sep
    refine ⟨(i + 1, v), by simp only; omega, ?_, by simp only; omega, by omega, ⟨?_, r8, rr.lh, rr.sep, rr.mo, rr.m0, rr.mx⟩, hnv, fun m hm hma => ?_⟩
    · rw [hw1]
      exact fr ⟨rfl, rfl, rfl, rfl, rfl, rfl, trivial⟩
    · rw [hf8 hp rr.lh hpv]; exact hobj'
    · rw [hf8 m (by omega) (fun hh => ?_)]
      · exact hfv m hm hma
      · rcases List.mem_cons.1 hh with h | h
        · exact hma (by rw [h]; exact List.mem_cons_self ..)
        · rcases hnv m h with h | h
          · exact hma (List.mem_cons_of_mem _ h)
          · omega
  rintro e' h' c' ⟨⟨b0, rfl⟩, hc', vW', rr, hnv, hfv⟩
  repeat' (first | refine WpC.seq ?_ | refine WpC.region ?_ | refine WpO.nil ?_ | refine WpO.cons rfl rfl (WpX.pure (fun _ => rfl) ⟨nolog, ?_⟩) | refine seqQ_normal ?_)
  refine WpC.cond rfl (fun hb => by cases hb) (fun _ => ?_)
  repeat' (first | refine WpC.seq ?_ | refine WpC.region ?_ | refine WpC.skip ?_ | refine WpC.ret ?_ | refine WpO.nil ?_ | refine WpO.cons rfl rfl (WpX.pure (fun _ => rfl) ⟨nolog, ?_⟩))
  exact out_ret rfl ⟨rfl, vW', rr, hnv, hfv⟩
end
end Go.Proofs.Ytcenbfjhhaialaa


set_option linter.unusedVariables false
set_option linter.unusedSectionVars false
set_option linter.unusedSimpArgs false
set_option linter.unnecessarySimpa false
namespace Go.Proofs.Ytcenbfjhhaialaa
open Go.Ab

def Tup (x : Hd) : Prop := x.kind = 1 ∧ okH x
def tupW (x : Hd) : List Int := makeW x :: List.replicate x.size.toNat 0
def flatW (ss : List Hd) : List Int := ss.flatMap tupW
def objL : Nat → List Hd → List (Nat × Hd)
  | _, [] => []
  | i, x :: ss => (i, x) :: objL (i + 1 + x.size.toNat) ss
theorem flatW_cons (x : Hd) (ss : List Hd) : flatW (x :: ss) = tupW x ++ flatW ss := by simp [flatW]
theorem flatW_app (s t : List Hd) : flatW (s ++ t) = flatW s ++ flatW t := by simp [flatW]
theorem flatW_one (x : Hd) : flatW [x] = tupW x := by simp [flatW]
theorem tupW_len (x : Hd) : (tupW x).length = 1 + x.size.toNat := by simp [tupW]; omega
theorem objL_app : ∀ (s t : List Hd) (i : Nat), objL i (s ++ t) = objL i s ++ objL (i + (flatW s).length) t
  | [], t, i => by simp [objL, flatW]
  | x :: s, t, i => by
    simp only [List.cons_append, objL, objL_app s t, flatW_cons, List.length_append, tupW_len]
    rw [show i + 1 + x.size.toNat + (flatW s).length = i + (1 + x.size.toNat + (flatW s).length) from by omega]
theorem objL_snd : ∀ (s : List Hd) (i : Nat), (objL i s).map Prod.snd = s
  | [], _ => rfl
  | x :: s, i => by simp only [objL, List.map_cons, objL_snd s]
theorem objL_words : ∀ (ss : List Hd) (A : List Int) {p : Nat} {x : Hd}, (p, x) ∈ objL A.length ss → ∃ B C, A ++ flatW ss = B ++ (tupW x ++ C) ∧ B.length = p ∧ x ∈ ss
  | [], _, _, _, h => by cases h
  | y :: ss, A, p, x, h => by
    rcases List.mem_cons.1 h with h | h
    · cases h
      exact ⟨A, flatW ss, by rw [flatW_cons], rfl, List.mem_cons_self ..⟩
    · rw [show A.length + 1 + y.size.toNat = (A ++ tupW y).length from by rw [List.length_append, tupW_len]; omega] at h
      obtain ⟨B, C, e, hB, hx⟩ := objL_words ss (A ++ tupW y) h
      exact ⟨B, C, by rw [flatW_cons, ← e, List.append_assoc], hB, List.mem_cons_of_mem _ hx⟩
theorem objL_from : ∀ (ss : List Hd) (A : List Int), (∀ x ∈ ss, Tup x) → ObjsFrom (A ++ flatW ss) A.length (objL A.length ss)
  | [], A, _ => by
    have e : A ++ flatW [] = A := by simp [flatW]
    rw [e]; exact .nil
  | y :: ss, A, h => by
    have hy := (h y (List.mem_cons_self ..)).2
    have hok := hy
    unfold okH at hok
    refine .cons (objW_mk (w := makeW y) ?_ (read_make hy) ?_) ?_
    · rw [flatW_cons, List.getElem?_append_right (Nat.le_refl _), Nat.sub_self]; rfl
    · rw [flatW_cons, List.length_append, List.length_append, tupW_len]; push_cast; omega
    · have := objL_from ss (A ++ tupW y) fun x hx => h x (List.mem_cons_of_mem _ hx)
      rw [List.append_assoc, ← flatW_cons, show (A ++ tupW y).length = A.length + 1 + y.size.toNat from by rw [List.length_append, tupW_len]; omega] at this
      exact this
theorem flat_tag {ss : List Hd} {w : Int} (h : w ∈ flatW ss) : tagW w ≠ 5 := by
  obtain ⟨x, _, hw⟩ := List.mem_flatMap.1 h
  rcases List.mem_cons.1 hw with e | hw
  · rw [e, make_tag]; decide
  · rw [List.eq_of_mem_replicate hw]; decide
theorem flat_getD (ss : List Hd) (i : Nat) : tagW ((flatW ss)[i]?.getD 0) ≠ 5 := by
  cases e : (flatW ss)[i]? with
  | none => show tagW 0 ≠ 5; decide
  | some w => exact flat_tag (List.mem_of_getElem? e)
theorem ptr_val {p : Nat} (h : p ≤ 100000000) : valW (ptrW p) = p := val_of ⟨by decide, by decide⟩ (by unfold fitsW; omega)
theorem ptr_tag (p : Nat) : tagW (ptrW p) = 5 := tag_of ⟨by decide, by decide⟩

/-- Roots at objects, in order. -/
structure FlatI (ss : List Hd) (ps : List Nat) : Prop where
  tup : ∀ x ∈ ss, Tup x
  sorted : ps.Pairwise (· < ·)
  at' : ∀ p ∈ ps, ∃ x, (p, x) ∈ objL 0 ss
  len : (flatW ss).length ≤ 1048576

section
variable {ss : List Hd} {ps : List Nat}
theorem FlatI.objs (f : FlatI ss ps) : ObjsFrom (flatW ss) 0 (objL 0 ss) := by
  have := objL_from ss [] f.tup
  simpa using this
theorem FlatI.words (f : FlatI ss ps) {p : Nat} {x : Hd} (h : (p, x) ∈ objL 0 ss) : ∃ B C, flatW ss = B ++ (tupW x ++ C) ∧ B.length = p ∧ x ∈ ss := by
  obtain ⟨B, C, e, h1, h2⟩ := objL_words ss [] h
  exact ⟨B, C, by simpa using e, h1, h2⟩
theorem FlatI.small (f : FlatI ss ps) {p : Nat} (h : p ∈ ps) : p ≤ 100000000 := by
  obtain ⟨x, hx⟩ := f.at' p h
  obtain ⟨B, C, e, h1, _⟩ := f.words hx
  have hl := f.len
  rw [e] at hl
  simp only [List.length_append] at hl
  omega
theorem FlatI.sound (f : FlatI ss ps) : SoundW (flatW ss) (ps.map ptrW) (objL 0 ss) := by
  refine ⟨f.objs, fun w hw => ?_, fun p hp => ?_, fun p hp k w hk hw => ?_⟩
  · obtain ⟨p, hp, rfl⟩ := List.mem_map.1 hw
    obtain ⟨x, hx⟩ := f.at' p hp
    refine ⟨by rw [ptr_tag]; decide, by rw [ptr_tag]; decide, fun _ => ⟨(p, x), hx, ptr_val (f.small hp)⟩⟩
  · obtain ⟨p, x⟩ := p
    obtain ⟨_, _, _, _, hx⟩ := f.words hp
    show fieldsH x ≤ x.size
    unfold fieldsH
    rw [if_neg (by rw [(f.tup x hx).1]; decide), if_pos (f.tup x hx).1]
    exact Int.le_refl _
  · obtain ⟨p, x⟩ := p
    obtain ⟨B, C, e, hB, hx⟩ := f.words hp
    have hk : (k : Int) < fieldsH x := hk
    have hw : (flatW ss)[p + 1 + k]? = some w := hw
    unfold fieldsH at hk
    rw [if_neg (by rw [(f.tup x hx).1]; decide), if_pos (f.tup x hx).1] at hk
    rw [e, List.getElem?_append_right (by omega), List.getElem?_append_left (by rw [tupW_len]; omega), show p + 1 + k - B.length = k + 1 from by omega] at hw
    have hw : (List.replicate x.size.toNat (0 : Int))[k]? = some w := hw
    have : w = 0 := List.eq_of_mem_replicate (List.mem_of_getElem? hw)
    subst this
    exact ⟨by decide, by decide, fun h => absurd h (by decide)⟩
theorem FlatI.reach (f : FlatI ss ps) {p : Nat} : Reach (flatW ss) (objL 0 ss) (ps.map ptrW) p ↔ p ∈ ps := by
  constructor
  · intro h
    induction h with
    | root hw ht hv =>
      obtain ⟨q, hq, rfl⟩ := List.mem_map.1 hw
      rw [ptr_val (f.small hq)] at hv
      have : q = _ := Int.ofNat.inj hv
      rw [← this]; exact hq
    | field _ _ _ hw ht _ _ => exact absurd ht (flat_tag (List.mem_of_getElem? hw))
  · intro h
    exact .root (List.mem_map.2 ⟨p, h, rfl⟩) (ptr_tag p) (ptr_val (f.small h))
theorem FlatI.gone (f : FlatI ss ps) : goneOf (flatW ss) (ps.map ptrW) (objL 0 ss) (objL 0 ss) = [] := by
  unfold goneOf
  rw [List.flatMap_eq_nil_iff]
  rintro ⟨p, x⟩ hp
  obtain ⟨_, _, _, _, hx⟩ := f.words (List.mem_filter.1 hp).1
  unfold gone1
  split
  · rw [if_neg]
    rintro ⟨h, _⟩
    have h : x.kind = 3 := h
    rw [(f.tup x hx).1] at h
    cases h
  · rfl
theorem FlatI.live (f : FlatI ss ps) : (liveOf (flatW ss) (objL 0 ss) (ps.map ptrW)).map Prod.fst = ps := by
  refine sorted_ext (live_sorted f.objs) f.sorted fun p => ⟨fun h => ?_, fun h => ?_⟩
  · obtain ⟨q, hq, rfl⟩ := List.mem_map.1 h
    exact f.reach.1 (mem_live.1 hq).2
  · obtain ⟨x, hx⟩ := f.at' p h
    exact List.mem_map.2 ⟨(p, x), mem_live.2 ⟨hx, f.reach.2 h⟩, rfl⟩
theorem FlatI.objF (f : FlatI ss ps) {R : List Int} {l : List (Nat × Hd)} {p : Nat} {x : Hd} (h : (p, x) ∈ objL 0 ss) : objF (flatW ss) R l (p, x) = tupW x := by
  obtain ⟨B, C, e, hB, _⟩ := f.words h
  have hfin : ∀ i, finW (flatW ss) R l i = (flatW ss)[i]?.getD 0 := fun i => by
    unfold finW
    split
    · unfold mvW; rw [if_neg (flat_getD ss i)]
    · rfl
  refine List.ext_getElem? fun k => ?_
  unfold Go.Proofs.Ytcenbfjhhaialaa.objF
  by_cases hk : k < 1 + x.size.toNat
  · rw [List.getElem?_map, List.getElem?_range hk]
    show some (finW (flatW ss) R l (p + k)) = _
    rw [hfin, e, List.getElem?_append_right (by omega), show p + k - B.length = k from by omega, List.getElem?_append_left (by rw [tupW_len]; exact hk)]
    obtain ⟨w, hw⟩ : ∃ w, (tupW x)[k]? = some w := ⟨_, List.getElem?_eq_getElem (by rw [tupW_len]; exact hk)⟩
    rw [hw]; rfl
  · rw [List.getElem?_eq_none (by simp; omega), List.getElem?_eq_none (by rw [tupW_len]; omega)]
theorem FlatI.slid (f : FlatI ss ps) {R : List Int} {l : List (Nat × Hd)} : ∀ {L : List (Nat × Hd)}, (∀ o ∈ L, o ∈ objL 0 ss) → slidW (flatW ss) R l L = flatW (L.map Prod.snd)
  | [], _ => rfl
  | (p, x) :: L, h => by
    show Go.Proofs.Ytcenbfjhhaialaa.objF (flatW ss) R l (p, x) ++ slidW (flatW ss) R l L = _
    rw [f.objF (h _ (List.mem_cons_self ..)), f.slid fun o ho => h o (List.mem_cons_of_mem _ ho), List.map_cons, flatW_cons]
theorem FlatI.places (f : FlatI ss ps) {R : List Int} {l L : List (Nat × Hd)} (hL : ∀ o ∈ L, o ∈ objL 0 ss) (hs : (L.map Prod.fst).Pairwise (· < ·)) : ∀ (todo done : List (Nat × Hd)), L = done ++ todo → (todo.map Prod.fst).map (newPos L) = (objL (flatW (done.map Prod.snd)).length (todo.map Prod.snd)).map Prod.fst
  | [], _, _ => rfl
  | (p, x) :: todo, done, e => by
    have h1 : newPos L p = (flatW (done.map Prod.snd)).length := by
      rw [e, newPos_at (W0 := flatW ss) (R0 := R) (l := l) (by rw [← e]; exact hs), f.slid fun o ho => hL o (by rw [e]; exact List.mem_append_left _ ho)]
    have h2 := f.places (R := R) (l := l) hL hs todo (done ++ [(p, x)]) (by rw [e, List.append_assoc]; rfl)
    rw [List.map_cons, List.map_cons, h2, h1, List.map_cons]
    simp only [objL, List.map_cons]
    rw [List.map_append, flatW_app, List.length_append]
    simp only [List.map_cons, List.map_nil, flatW_one, tupW_len]
    rw [show (flatW (done.map Prod.snd)).length + (1 + x.size.toNat) = (flatW (done.map Prod.snd)).length + 1 + x.size.toNat from by omega]
/-- What a slide leaves. -/
theorem FlatI.slide (f : FlatI ss ps) : ∃ ss', FlatI ss' ((objL 0 ss').map Prod.fst) ∧ (∀ x ∈ ss', x ∈ ss) ∧ ss'.length = ps.length ∧
    slidW (flatW ss) (ps.map ptrW) (objL 0 ss) (liveOf (flatW ss) (objL 0 ss) (ps.map ptrW)) = flatW ss' ∧
    (ps.map ptrW).map (mvW (flatW ss) (ps.map ptrW) (objL 0 ss)) = ((objL 0 ss').map Prod.fst).map ptrW ∧ (ps = (objL 0 ss).map Prod.fst → ss' = ss) := by
  have hsub : ∀ o ∈ liveOf (flatW ss) (objL 0 ss) (ps.map ptrW), o ∈ objL 0 ss := fun o ho => (mem_live.1 ho).1
  have hsl := f.slid (R := ps.map ptrW) (l := objL 0 ss) hsub
  have hin : ∀ x ∈ (liveOf (flatW ss) (objL 0 ss) (ps.map ptrW)).map Prod.snd, x ∈ ss := fun x hx => by
    obtain ⟨⟨p, y⟩, ho, rfl⟩ := List.mem_map.1 hx
    obtain ⟨_, _, _, _, h⟩ := f.words (hsub _ ho)
    exact h
  have hlen : (flatW ((liveOf (flatW ss) (objL 0 ss) (ps.map ptrW)).map Prod.snd)).length ≤ 1048576 := by
    rw [← hsl]
    have := slid_le f.sound
    have := f.len
    omega
  have htup : ∀ x ∈ (liveOf (flatW ss) (objL 0 ss) (ps.map ptrW)).map Prod.snd, Tup x := fun x hx => f.tup x (hin x hx)
  have hobj := objL_from _ [] htup
  refine ⟨_, ⟨htup, ?_, fun p hp => ?_, hlen⟩, hin, ?_, hsl, ?_, fun e => ?_⟩
  · exact ObjsFrom.sorted hobj
  · obtain ⟨⟨q, x⟩, ho, rfl⟩ := List.mem_map.1 hp
    exact ⟨x, ho⟩
  · have := congrArg List.length f.live
    rw [List.length_map] at this ⊢
    exact this
  · have hpl := f.places (R := ps.map ptrW) (l := objL 0 ss) hsub (by rw [f.live]; exact f.sorted) (liveOf (flatW ss) (objL 0 ss) (ps.map ptrW)) [] rfl
    rw [f.live] at hpl
    have hpl : ps.map (newPos (liveOf (flatW ss) (objL 0 ss) (ps.map ptrW))) = (objL 0 ((liveOf (flatW ss) (objL 0 ss) (ps.map ptrW)).map Prod.snd)).map Prod.fst := hpl
    rw [← hpl, List.map_map, List.map_map]
    refine List.map_congr_left fun p hp => ?_
    show mvW _ _ _ (ptrW p) = ptrW (newPos _ p)
    unfold mvW
    rw [if_pos (ptr_tag p), ptr_val (f.small hp)]
    rfl
  · have : liveOf (flatW ss) (objL 0 ss) (ps.map ptrW) = objL 0 ss := by
      unfold liveOf
      rw [List.filter_eq_self]
      intro o ho
      refine @decide_eq_true _ (Classical.propDecidable _) (f.reach.2 ?_)
      rw [e]; exact List.mem_map.2 ⟨o, ho, rfl⟩
    rw [this, objL_snd]
/-- One more is made, and is a root, or is none. -/
theorem FlatI.more (f : FlatI ss ps) {x : Hd} (hx : Tup x) (hl : (flatW (ss ++ [x])).length ≤ 1048576) : FlatI (ss ++ [x]) ps ∧ FlatI (ss ++ [x]) (ps ++ [(flatW ss).length]) := by
  have htup : ∀ y ∈ ss ++ [x], Tup y := fun y hy => by
    rcases List.mem_append.1 hy with h | h
    · exact f.tup y h
    · rw [List.mem_singleton.1 h]; exact hx
  have hat : ∀ p ∈ ps, ∃ y, (p, y) ∈ objL 0 (ss ++ [x]) := fun p hp => by
    obtain ⟨y, hy⟩ := f.at' p hp
    exact ⟨y, by rw [objL_app]; exact List.mem_append_left _ hy⟩
  refine ⟨⟨htup, f.sorted, hat, hl⟩, ⟨htup, ?_, fun p hp => ?_, hl⟩⟩
  · refine List.pairwise_append.2 ⟨f.sorted, List.pairwise_singleton .., fun p hp q hq => ?_⟩
    rw [List.mem_singleton.1 hq]
    obtain ⟨y, hy⟩ := f.at' p hp
    obtain ⟨B, C, e, hB, _⟩ := f.words hy
    rw [e]
    simp only [List.length_append, tupW_len]
    omega
  · rcases List.mem_append.1 hp with h | h
    · exact hat p h
    · rw [List.mem_singleton.1 h]
      exact ⟨x, by rw [objL_app]; simp [objL]⟩
end
end Go.Proofs.Ytcenbfjhhaialaa


set_option linter.unusedVariables false
set_option linter.unusedSectionVars false
set_option linter.unusedSimpArgs false
set_option linter.unnecessarySimpa false
namespace Go.Proofs.Ytcenbfjhhaialaa
open Go.Ab
set_option maxRecDepth 10000

abbrev posL (ss : List Hd) : List Nat := (objL 0 ss).map Prod.fst
/-- A heap of tuples of noughts, its roots in a list. -/
structure FlatH (h : HH) (c hp a sp : Nat) (vW vR : V) (ss : List Hd) (ps : List Nat) (size most : Int) : Prop where
  hm : HM h c hp a sp vW vR (flatW ss) (ps.map ptrW) size most
  f : FlatI ss ps
  ly : Listy 1 vR (ps.map ptrW)
section
variable {h h' : HH} {c c' hp a sp : Nat} {vW vR vX : V} {ss : List Hd} {ps : List Nat} {size most : Int}
theorem FlatH.keep (r : FlatH h c hp a sp vW vR ss ps size most) (hc : c ≤ c') (e : ∀ n, n < c → n ∈ hmn hp a vW vR → MapI.get h' n = MapI.get h n) : FlatH h' c' hp a sp vW vR ss ps size most := ⟨r.hm.keep hc e, r.f, r.ly⟩
theorem FlatH.same (r : FlatH h c hp a sp vW vR ss ps size most) (hc : c ≤ c') (e : ∀ n, n < c → MapI.get h' n = MapI.get h n) : FlatH h' c' hp a sp vW vR ss ps size most := r.keep hc fun n hn _ => e n hn
theorem listy_map {R R' : List Int} {v : V} (l : Listy 1 v R) (e : R.length = R'.length) : Listy 1 v R' := by
  rcases l with ⟨h1, h2⟩ | ⟨h1, s, h2⟩
  · subst h2; exact .inl ⟨h1, by simpa using e.symm⟩
  · refine .inr ⟨fun h => h1 (by subst h; simpa using e), s, by rw [← e]; exact h2⟩
theorem pos_len (ss : List Hd) : (posL ss).length = ss.length := by
  have := congrArg List.length (objL_snd ss 0)
  rw [List.length_map] at this ⊢
  exact this

theorem need_flat {n : Int} (r : FlatH h c hp a sp vW vR ss ps size most) (hn : 0 ≤ n ∧ n ≤ 1000000) : Does 16 [.ptr (some (hp, 0)), I n, vR] h c (hmn hp a vW vR) fun v h' c' => ∃ vW' ss' ps' size', v = .bool (decide (n ≤ most - (flatW ss').length)) ∧ FlatH h' c' hp a sp vW' vR ss' ps' size' most ∧ (∀ x ∈ rowName vW', x ∈ rowName vW) ∧ (n ≤ most - (flatW ss').length → n ≤ size' - (flatW ss').length) ∧ ((ss' = ss ∧ ps' = ps ∧ n ≤ most - (flatW ss).length) ∨ (ps' = posL ss' ∧ (∀ x ∈ ss', x ∈ ss) ∧ ss'.length = ps.length ∧ (ps = posL ss → ss' = ss))) := by
  refine WpX.mono (need_ok r.hm r.f.sound r.f.gone hn) fun v h' c' l ⟨a1, a2, a3, vW', W', R', size', hv, hm, hnm, hor, hfit⟩ => ⟨a1, a2, a3, ?_⟩
  rcases hor with ⟨rfl, rfl, hle⟩ | ⟨hW, hR⟩
  · exact ⟨vW', ss, ps, size', hv, ⟨hm, r.f, r.ly⟩, hnm, hfit, .inl ⟨rfl, rfl, hle⟩⟩
  · obtain ⟨ss', f', h1, h2, h3, h4, h5⟩ := r.f.slide
    rw [h3] at hW
    rw [h4] at hR
    subst hW
    subst hR
    have hl : ps.length = (posL ss').length := by rw [pos_len]; exact h2.symm
    exact ⟨vW', ss', posL ss', size', hv, ⟨hm, f', listy_map r.ly (by simpa using hl)⟩, hnm, hfit, .inr ⟨rfl, h1, h2, h5⟩⟩

theorem collect_flat (r : FlatH h c hp a sp vW vR ss ps size most) : Does 10 [.ptr (some (hp, 0)), vR] h c (hmn hp a vW vR) fun v h' c' => ∃ vW' ss', FlatH h' c' hp a sp vW' vR ss' (posL ss') (roomZ most (flatW ss').length) most ∧ (∀ x ∈ rowName vW', x ∈ rowName vW) ∧ (∀ x ∈ ss', x ∈ ss) ∧ ss'.length = ps.length := by
  refine WpX.mono (hCollect_ok r.hm r.f.sound r.f.gone) fun v h' c' l ⟨a1, a2, a3, vW', hm, hnm⟩ => ⟨a1, a2, a3, ?_⟩
  obtain ⟨ss', f', h1, h2, h3, h4, h5⟩ := r.f.slide
  rw [h3, h4] at hm
  have hl : ps.length = (posL ss').length := by rw [pos_len]; exact h2.symm
  exact ⟨vW', ss', ⟨hm, f', listy_map r.ly (by simpa using hl)⟩, hnm, h1, h2⟩

theorem tup_tup {n t : Int} (hx : okH (tupH n t)) : Tup (tupH n t) := ⟨rfl, hx⟩
/-- A tuple is made. -/
theorem make_flat {n t : Int} {k : Nat} (r : FlatH h c hp a sp vW vR ss ps size most) (rx : RowOf 1 wordV h c vX (List.replicate k 0)) (hX : (k : Int) = n) (hx : okH (tupH n t)) (hXW : ∀ m ∈ rowName vX, m ∉ hn hp a vW) (hle : ((flatW ss).length : Int) + 1 + n ≤ size) :
    Does 8 [.ptr (some (hp, 0)), .agg (hdV (tupH n t)), vX] h c (hn hp a vW ++ rowName vX) fun v h' c' => v = .tuple [U (ptrW (flatW ss).length), .bool true] ∧ ∃ vW', HM h' c' hp a sp vW' vR (flatW (ss ++ [tupH n t])) (ps.map ptrW) size most ∧ FlatI (ss ++ [tupH n t]) ps ∧ FlatI (ss ++ [tupH n t]) (ps ++ [(flatW ss).length]) ∧ (∀ n ∈ rowName vW', n ∈ rowName vW ∨ c ≤ n) ∧ ∀ m, m < c → m ∉ an a vW → MapI.get h' m = MapI.get h m := by
  have hmo := r.hm.hm.mo
  have hmx := r.hm.hm.mx
  have hsub : ∀ n ∈ an a vW, n ∈ hn hp a vW := fun n hn => List.mem_cons_of_mem _ hn
  refine WpX.mono (hmake_ok r.hm.hm rx (by simpa using hX) hx hXW (fun w hw => by rw [List.eq_of_mem_replicate hw]; exact ⟨by decide, by decide⟩) hle) fun v h' c' l ⟨a1, a2, a3, hv, vW', hh, hnm, hf⟩ => ⟨a1, a2, a3, hv, vW', ?_⟩
  have e : flatW ss ++ makeW (tupH n t) :: List.replicate k 0 = flatW (ss ++ [tupH n t]) := by
    rw [flatW_app, flatW_one]
    show _ = flatW ss ++ (makeW (tupH n t) :: List.replicate n.toNat 0)
    rw [show n.toNat = k from by omega]
  rw [e] at hh
  have hl : (flatW (ss ++ [tupH n t])).length ≤ 1048576 := by
    have := hh.ar.le
    have := hh.mo
    omega
  obtain ⟨f1, f2⟩ := r.f.more (tup_tup hx) hl
  refine ⟨⟨hh, r.hm.rr.keep a2 fun m hm1 hm2 => hf m hm1 fun h => r.hm.sep m hm2 (hsub m h), fun m hm1 hm2 => ?_, r.hm.ok, r.hm.len⟩, f1, f2, hnm, hf⟩
  have hlt := r.hm.rr.lt m hm1
  refine r.hm.sep m hm1 ?_
  rcases List.mem_cons.1 hm2 with h | h
  · rw [h]; exact List.mem_cons_self ..
  · rcases List.mem_cons.1 h with h | h
    · rw [h]; exact hsub _ (List.mem_cons_self ..)
    · rcases hnm m h with h | h
      · exact hsub _ (List.mem_cons_of_mem _ h)
      · omega
/-- It is a root too. -/
theorem FlatH.push {q : Nat} {vR' : V} {ss' : List Hd} (r : HM h c hp a sp vW vR (flatW ss') (ps.map ptrW) size most) (f : FlatI ss' (ps ++ [q])) (lv : ListOf 1 wordV h' c' vR' (ps.map ptrW ++ [ptrW q])) (hn : ∀ n ∈ rowName vR', n ∈ rowName vR ∨ c ≤ n) (hc : c ≤ c') (hf : ∀ a, a ≠ c → a ∉ rowName vR → MapI.get h' a = MapI.get h a) (hl : ps.length < 1000) :
    FlatH h' c' hp a sp vW vR' ss' (ps ++ [q]) size most := by
  have e : (ps ++ [q]).map ptrW = ps.map ptrW ++ [ptrW q] := by rw [List.map_append]; rfl
  have hnm := r.hm.names
  refine ⟨⟨r.hm.keep hc fun n hlt hmem => hf n (by omega) fun hh => r.sep n hh hmem, by rw [e]; exact lv.row, fun n hh hm => ?_, fun w hw => ?_, by rw [List.length_map, List.length_append]; simp; omega⟩, f, by rw [e]; exact lv.listy (by simp)⟩
  · rcases hn n hh with h | h
    · exact r.sep n h hm
    · have := hnm n hm; omega
  · obtain ⟨p, _, rfl⟩ := List.mem_map.1 hw
    exact ofW_ok ⟨by decide, by decide⟩
theorem FlatH.start {size : Int} (hH : HeapAt h c hp a sp (.slice none 0 (.known 0)) [] size most) : FlatH h c hp a sp (.slice none 0 (.known 0)) (.slice none 0 (.known 0)) [] [] size most :=
  ⟨⟨hH, .nil fun n hn => (by cases hn), fun n hn => (by cases hn), fun w hw => (by cases hw), Nat.zero_le _⟩, ⟨fun x hx => (by cases hx), .nil, fun p hp => (by cases hp), Nat.zero_le _⟩, .inl ⟨rfl, rfl⟩⟩
/-- Noughts of one's own. -/
theorem row_zeros {k : Nat} (hg : MapI.get h c = some (.cells true true (flat wordV (List.replicate k 0)))) (hc : c < c') : RowOf 1 wordV h c' (.slice (some (c, 0)) k (.known k)) (List.replicate k 0) :=
  ⟨some (c, 0), .known k, by rw [List.length_replicate], fun n hn => (by have hn : n ∈ [c] := hn; simp at hn; omega), fun _ => ⟨c, true, [], rfl, by rw [List.append_nil]; exact hg, rfl⟩⟩
end
end Go.Proofs.Ytcenbfjhhaialaa


set_option linter.unusedVariables false
set_option linter.unusedSectionVars false
set_option linter.unusedSimpArgs false
set_option linter.unnecessarySimpa false
namespace Go.Proofs.Ytcenbfjhhaialaa
open Go.Ab

/-- An object: its header, its words. -/
abbrev Ob : Type := Hd × List Int
structure GoodO (o : Ob) : Prop where
  hd : okH o.1
  len : (o.2.length : Int) = o.1.size
  raw : o.1.kind = 3 ∨ o.1.kind = 2 ∨ (o.1.kind = 1 ∧ ∀ w ∈ o.2, tagW w ≠ 5 ∧ tagW w ≠ 6 ∧ tagW w ≠ 7)
def obW (o : Ob) : List Int := makeW o.1 :: o.2
def bagW (os : List Ob) : List Int := os.flatMap obW
/-- The objects with their places. -/
def bagP : Nat → List Ob → List (Nat × Ob)
  | _, [] => []
  | i, o :: os => (i, o) :: bagP (i + 1 + o.2.length) os
def hdOf (p : Nat × Ob) : Nat × Hd := (p.1, p.2.1)
abbrev bagL (i : Nat) (os : List Ob) : List (Nat × Hd) := (bagP i os).map hdOf
theorem bagW_cons (o : Ob) (os : List Ob) : bagW (o :: os) = obW o ++ bagW os := by simp [bagW]
theorem bagW_app (s t : List Ob) : bagW (s ++ t) = bagW s ++ bagW t := by simp [bagW]
theorem bagW_one (o : Ob) : bagW [o] = obW o := by simp [bagW]
theorem obW_len (o : Ob) : (obW o).length = 1 + o.2.length := by simp [obW]; omega
theorem bagP_app : ∀ (s t : List Ob) (i : Nat), bagP i (s ++ t) = bagP i s ++ bagP (i + (bagW s).length) t
  | [], t, i => by simp [bagP, bagW]
  | x :: s, t, i => by
    simp only [List.cons_append, bagP, bagP_app s t, bagW_cons, List.length_append, obW_len]
    rw [show i + 1 + x.2.length + (bagW s).length = i + (1 + x.2.length + (bagW s).length) from by omega]
theorem bagP_snd : ∀ (s : List Ob) (i : Nat), (bagP i s).map Prod.snd = s
  | [], _ => rfl
  | x :: s, i => by simp only [bagP, List.map_cons, bagP_snd s]
theorem bagP_words : ∀ (os : List Ob) (A : List Int) {p : Nat} {o : Ob}, (p, o) ∈ bagP A.length os → ∃ B C, A ++ bagW os = B ++ (obW o ++ C) ∧ B.length = p ∧ o ∈ os
  | [], _, _, _, h => by cases h
  | y :: os, A, p, o, h => by
    rcases List.mem_cons.1 h with h | h
    · cases h
      exact ⟨A, bagW os, by rw [bagW_cons], rfl, List.mem_cons_self ..⟩
    · rw [show A.length + 1 + y.2.length = (A ++ obW y).length from by rw [List.length_append, obW_len]; omega] at h
      obtain ⟨B, C, e, hB, hx⟩ := bagP_words os (A ++ obW y) h
      exact ⟨B, C, by rw [bagW_cons, ← e, List.append_assoc], hB, List.mem_cons_of_mem _ hx⟩
theorem bagL_from : ∀ (os : List Ob) (A : List Int), (∀ o ∈ os, GoodO o) → ObjsFrom (A ++ bagW os) A.length (bagL A.length os)
  | [], A, _ => by
    have e : A ++ bagW [] = A := by simp [bagW]
    rw [e]; exact .nil
  | y :: os, A, h => by
    have hy := h y (List.mem_cons_self ..)
    have hl := hy.len
    show ObjsFrom _ _ ((A.length, y.1) :: bagL (A.length + 1 + y.2.length) os)
    refine .cons (objW_mk (w := makeW y.1) ?_ (read_make hy.hd) ?_) ?_
    · rw [bagW_cons, List.getElem?_append_right (Nat.le_refl _), Nat.sub_self]; rfl
    · rw [bagW_cons, List.length_append, List.length_append, obW_len]; push_cast; omega
    · have := bagL_from os (A ++ obW y) fun x hx => h x (List.mem_cons_of_mem _ hx)
      rw [List.append_assoc, ← bagW_cons, show (A ++ obW y).length = A.length + 1 + y.1.size.toNat from by rw [List.length_append, obW_len]; omega] at this
      rw [show A.length + 1 + y.2.length = A.length + 1 + y.1.size.toNat from by omega]
      exact this

/-- Roots at objects, in order. -/
structure BagI (os : List Ob) (ps : List Nat) : Prop where
  good : ∀ o ∈ os, GoodO o
  sorted : ps.Pairwise (· < ·)
  at' : ∀ p ∈ ps, ∃ o, (p, o) ∈ bagP 0 os
  len : (bagW os).length ≤ 1048576
/-- Those at such places. -/
def keptO (os : List Ob) (ps : List Nat) : List (Nat × Ob) := (bagP 0 os).filter fun p => ps.contains p.1
/-- .. and the others. -/
def goneO (os : List Ob) (ps : List Nat) : List (Nat × Ob) := (bagP 0 os).filter fun p => !ps.contains p.1
/-- The handle of one that goes. -/
def handO (o : Ob) : List Int := match o.2 with
  | w :: _ => if o.1.kind = 3 ∧ 0 < o.1.size ∧ w ≠ 0 then [IntKind.i64.wrap w] else []
  | [] => []

section
variable {os : List Ob} {ps : List Nat}
theorem BagI.objs (f : BagI os ps) : ObjsFrom (bagW os) 0 (bagL 0 os) := by
  have := bagL_from os [] f.good
  simpa using this
theorem BagI.words (f : BagI os ps) {p : Nat} {o : Ob} (h : (p, o) ∈ bagP 0 os) : ∃ B C, bagW os = B ++ (obW o ++ C) ∧ B.length = p ∧ o ∈ os := by
  obtain ⟨B, C, e, h1, h2⟩ := bagP_words os [] h
  exact ⟨B, C, by simpa using e, h1, h2⟩
theorem BagI.inL (f : BagI os ps) {p : Nat} {x : Hd} (h : (p, x) ∈ bagL 0 os) : ∃ o : Ob, (p, o) ∈ bagP 0 os ∧ o.1 = x := by
  obtain ⟨⟨q, o⟩, ho, e⟩ := List.mem_map.1 h
  cases e
  exact ⟨o, ho, rfl⟩
theorem BagI.small (f : BagI os ps) {p : Nat} (h : p ∈ ps) : p ≤ 100000000 := by
  obtain ⟨o, ho⟩ := f.at' p h
  obtain ⟨B, C, e, h1, _⟩ := f.words ho
  have hl := f.len
  rw [e] at hl
  simp only [List.length_append] at hl
  omega
/-- What stands in a field points at nothing. -/
theorem BagI.field (f : BagI os ps) {p k : Nat} {x : Hd} {w : Int} (h : (p, x) ∈ bagL 0 os) (hk : (k : Int) < fieldsH x) (hw : (bagW os)[p + 1 + k]? = some w) : tagW w ≠ 5 ∧ tagW w ≠ 6 ∧ tagW w ≠ 7 := by
  obtain ⟨o, ho, rfl⟩ := f.inL h
  obtain ⟨B, C, e, hB, hin⟩ := f.words ho
  have g := f.good o hin
  unfold fieldsH at hk
  rcases g.raw with h3 | h2 | ⟨h1, hr⟩
  · rw [if_neg (by rw [h3]; decide), if_neg (by rw [h3]; decide)] at hk; omega
  · rw [if_neg (by rw [h2]; decide), if_neg (by rw [h2]; decide)] at hk; omega
  · rw [if_neg (by rw [h1]; decide), if_pos h1] at hk
    have hlen := g.len
    rw [e, List.getElem?_append_right (by omega), List.getElem?_append_left (by rw [obW_len]; omega), show p + 1 + k - B.length = k + 1 from by omega] at hw
    have hw : o.2[k]? = some w := hw
    exact hr w (List.mem_of_getElem? hw)
theorem BagI.sound (f : BagI os ps) : SoundW (bagW os) (ps.map ptrW) (bagL 0 os) := by
  refine ⟨f.objs, fun w hw => ?_, fun p hp => ?_, fun p hp k w hk hw => ?_⟩
  · obtain ⟨p, hp, rfl⟩ := List.mem_map.1 hw
    obtain ⟨o, ho⟩ := f.at' p hp
    exact ⟨by rw [ptr_tag]; decide, by rw [ptr_tag]; decide, fun _ => ⟨(p, o.1), List.mem_map.2 ⟨(p, o), ho, rfl⟩, ptr_val (f.small hp)⟩⟩
  · obtain ⟨p, x⟩ := p
    obtain ⟨o, ho, rfl⟩ := f.inL hp
    obtain ⟨_, _, _, _, hin⟩ := f.words ho
    have g := f.good o hin
    have hl := g.len
    show fieldsH o.1 ≤ o.1.size
    unfold fieldsH
    rcases g.raw with h3 | h2 | ⟨h1, _⟩
    · rw [if_neg (by rw [h3]; decide), if_neg (by rw [h3]; decide)]; omega
    · rw [if_neg (by rw [h2]; decide), if_neg (by rw [h2]; decide)]; omega
    · rw [if_neg (by rw [h1]; decide), if_pos h1]; exact Int.le_refl _
  · obtain ⟨p, x⟩ := p
    have := f.field hp hk hw
    exact ⟨this.2.1, this.2.2, fun h => absurd h this.1⟩
theorem BagI.reach (f : BagI os ps) {p : Nat} : Reach (bagW os) (bagL 0 os) (ps.map ptrW) p ↔ p ∈ ps := by
  constructor
  · intro h
    induction h with
    | root hw ht hv =>
      obtain ⟨q, hq, rfl⟩ := List.mem_map.1 hw
      rw [ptr_val (f.small hq)] at hv
      have : q = _ := Int.ofNat.inj hv
      rw [← this]; exact hq
    | field _ hin hk hw ht _ _ => exact absurd ht (f.field hin hk hw).1
  · intro h
    exact .root (List.mem_map.2 ⟨p, h, rfl⟩) (ptr_tag p) (ptr_val (f.small h))
theorem BagI.liveL (f : BagI os ps) : liveOf (bagW os) (bagL 0 os) (ps.map ptrW) = (keptO os ps).map hdOf := by
  unfold liveOf keptO
  rw [List.filter_map]
  refine congrArg (List.map hdOf) (List.filter_congr fun p _ => ?_)
  show @decide (Reach (bagW os) (bagL 0 os) (ps.map ptrW) p.1) (Classical.propDecidable _) = ps.contains p.1
  by_cases h : p.1 ∈ ps
  · rw [@decide_eq_true _ (Classical.propDecidable _) (f.reach.2 h), List.contains_iff_mem.2 h]
  · rw [@decide_eq_false _ (Classical.propDecidable _) (fun r => h (f.reach.1 r))]
    exact (Bool.eq_false_iff.2 fun e => h (List.contains_iff_mem.1 e)).symm
theorem BagI.gone (f : BagI os ps) : goneOf (bagW os) (ps.map ptrW) (bagL 0 os) (bagL 0 os) = (goneO os ps).flatMap fun p => handO p.2 := by
  unfold goneOf goneO
  rw [List.filter_map, List.flatMap_map]
  have e : (bagP 0 os).filter ((fun p : Nat × Hd => !@decide (Reach (bagW os) (bagL 0 os) (ps.map ptrW) p.1) (Classical.propDecidable _)) ∘ hdOf) = (bagP 0 os).filter fun p => !ps.contains p.1 := by
    refine List.filter_congr fun p _ => ?_
    show (!@decide (Reach (bagW os) (bagL 0 os) (ps.map ptrW) p.1) (Classical.propDecidable _)) = !ps.contains p.1
    congr 1
    by_cases h : p.1 ∈ ps
    · rw [@decide_eq_true _ (Classical.propDecidable _) (f.reach.2 h), List.contains_iff_mem.2 h]
    · rw [@decide_eq_false _ (Classical.propDecidable _) (fun r => h (f.reach.1 r))]
      exact (Bool.eq_false_iff.2 fun e => h (List.contains_iff_mem.1 e)).symm
  rw [e]
  have key : ∀ l : List (Nat × Ob), (∀ p ∈ l, p ∈ bagP 0 os) → l.flatMap (fun p => gone1 (bagW os) (hdOf p)) = l.flatMap fun p => handO p.2 := by
    intro l
    induction l with
    | nil => intro _; rfl
    | cons po l ih =>
      obtain ⟨p, o⟩ := po
      intro h
      rw [List.flatMap_cons, List.flatMap_cons, ih fun q hq => h q (List.mem_cons_of_mem _ hq)]
      congr 1
      obtain ⟨B, C, e, hB, hin⟩ := f.words (h _ (List.mem_cons_self ..))
      have hl := (f.good o hin).len
      show gone1 (bagW os) (p, o.1) = handO o
      unfold gone1 handO
      show (match (bagW os)[p + 1]? with | some w => _ | none => _) = _
      cases ho : o.2 with
      | nil =>
        rw [ho] at hl
        have hs : o.1.size = 0 := by simpa using hl.symm
        split
        · rw [if_neg]; rintro ⟨_, h2, _⟩
          have h2 : 0 < o.1.size := h2
          omega
        · rfl
      | cons w t =>
        have hw : (bagW os)[p + 1]? = some w := by
          rw [e, List.getElem?_append_right (by omega), show p + 1 - B.length = 1 from by omega, List.getElem?_append_left (by rw [obW_len, ho]; simp)]
          show o.2[0]? = some w
          rw [ho]; rfl
        rw [hw]
  exact key _ fun p hp => (List.mem_filter.1 hp).1
theorem BagI.objF (f : BagI os ps) {p : Nat} {o : Ob} (h : (p, o) ∈ bagP 0 os) : objF (bagW os) (ps.map ptrW) (bagL 0 os) (p, o.1) = obW o := by
  obtain ⟨B, C, e, hB, hin⟩ := f.words h
  have hl := (f.good o hin).len
  have hfin : ∀ i, finW (bagW os) (ps.map ptrW) (bagL 0 os) i = (bagW os)[i]?.getD 0 := fun i => by
    unfold finW
    split
    · next hf =>
      rcases hf with ⟨hb, _⟩ | ⟨_, q, y, k, hq, hk, ei⟩
      · cases hb
      · have ei : i = q + 1 + k := ei
        have hq' := (mem_live.1 hq).1
        unfold mvW
        cases hw : (bagW os)[i]? with
        | none => rw [if_neg (show ¬ tagW ((none : Option Int).getD 0) = 5 from by decide)]
        | some w =>
          rw [if_neg]
          show ¬ tagW w = 5
          exact (f.field hq' hk (by rw [← ei]; exact hw)).1
    · rfl
  refine List.ext_getElem? fun k => ?_
  unfold Go.Proofs.Ytcenbfjhhaialaa.objF
  by_cases hk : k < 1 + o.1.size.toNat
  · rw [List.getElem?_map, List.getElem?_range hk]
    show some (finW (bagW os) (ps.map ptrW) (bagL 0 os) (p + k)) = _
    rw [hfin, e, List.getElem?_append_right (by omega), show p + k - B.length = k from by omega, List.getElem?_append_left (by rw [obW_len]; omega)]
    obtain ⟨w, hw⟩ : ∃ w, (obW o)[k]? = some w := ⟨_, List.getElem?_eq_getElem (by rw [obW_len]; omega)⟩
    rw [hw]; rfl
  · rw [List.getElem?_eq_none (by simp; omega), List.getElem?_eq_none (by rw [obW_len]; omega)]
theorem BagI.slid (f : BagI os ps) : ∀ {L : List (Nat × Ob)}, (∀ o ∈ L, o ∈ bagP 0 os) → slidW (bagW os) (ps.map ptrW) (bagL 0 os) (L.map hdOf) = bagW (L.map Prod.snd)
  | [], _ => rfl
  | (p, o) :: L, h => by
    show Go.Proofs.Ytcenbfjhhaialaa.objF (bagW os) (ps.map ptrW) (bagL 0 os) (p, o.1) ++ slidW (bagW os) (ps.map ptrW) (bagL 0 os) (L.map hdOf) = _
    rw [f.objF (h _ (List.mem_cons_self ..)), f.slid fun o ho => h o (List.mem_cons_of_mem _ ho), List.map_cons, bagW_cons]
theorem BagI.places (f : BagI os ps) {L : List (Nat × Ob)} (hL : ∀ o ∈ L, o ∈ bagP 0 os) (hs : (L.map Prod.fst).Pairwise (· < ·)) : ∀ (todo done : List (Nat × Ob)), L = done ++ todo → (todo.map Prod.fst).map (newPos (L.map hdOf)) = (bagP (bagW (done.map Prod.snd)).length (todo.map Prod.snd)).map Prod.fst
  | [], _, _ => rfl
  | (p, o) :: todo, done, e => by
    have hfst : (L.map hdOf).map Prod.fst = L.map Prod.fst := by rw [List.map_map]; rfl
    have h1 : newPos (L.map hdOf) p = (bagW (done.map Prod.snd)).length := by
      have hL2 : L.map hdOf = done.map hdOf ++ (p, o.1) :: todo.map hdOf := by rw [e, List.map_append]; rfl
      rw [hL2, newPos_at (W0 := bagW os) (R0 := ps.map ptrW) (l := bagL 0 os) (by rw [← hL2, hfst]; exact hs), f.slid fun o ho => hL o (by rw [e]; exact List.mem_append_left _ ho)]
    have h2 := f.places hL hs todo (done ++ [(p, o)]) (by rw [e, List.append_assoc]; rfl)
    rw [List.map_cons, List.map_cons, h2, h1, List.map_cons]
    simp only [bagP, List.map_cons]
    rw [List.map_append, bagW_app, List.length_append]
    simp only [List.map_cons, List.map_nil, bagW_one, obW_len]
    rw [show (bagW (done.map Prod.snd)).length + (1 + o.2.length) = (bagW (done.map Prod.snd)).length + 1 + o.2.length from by omega]
theorem BagI.kept (f : BagI os ps) : (keptO os ps).map Prod.fst = ps := by
  have h := live_sorted (R := ps.map ptrW) f.objs
  rw [f.liveL] at h
  have hfst : ((keptO os ps).map hdOf).map Prod.fst = (keptO os ps).map Prod.fst := by rw [List.map_map]; rfl
  rw [hfst] at h
  refine sorted_ext h f.sorted fun p => ⟨fun hp => ?_, fun hp => ?_⟩
  · obtain ⟨q, hq, rfl⟩ := List.mem_map.1 hp
    exact List.contains_iff_mem.1 (List.mem_filter.1 hq).2
  · obtain ⟨o, ho⟩ := f.at' p hp
    exact List.mem_map.2 ⟨(p, o), List.mem_filter.2 ⟨ho, List.contains_iff_mem.2 hp⟩, rfl⟩
/-- What a slide leaves. -/
theorem BagI.slide (f : BagI os ps) : BagI ((keptO os ps).map Prod.snd) ((bagP 0 ((keptO os ps).map Prod.snd)).map Prod.fst) ∧
    slidW (bagW os) (ps.map ptrW) (bagL 0 os) (liveOf (bagW os) (bagL 0 os) (ps.map ptrW)) = bagW ((keptO os ps).map Prod.snd) ∧
    (ps.map ptrW).map (mvW (bagW os) (ps.map ptrW) (bagL 0 os)) = ((bagP 0 ((keptO os ps).map Prod.snd)).map Prod.fst).map ptrW := by
  have hsub : ∀ o ∈ keptO os ps, o ∈ bagP 0 os := fun o ho => (List.mem_filter.1 ho).1
  have hsl := f.slid hsub
  rw [← f.liveL] at hsl
  have hlen : (bagW ((keptO os ps).map Prod.snd)).length ≤ 1048576 := by
    rw [← hsl]
    have := slid_le f.sound
    have := f.len
    omega
  have hgood : ∀ o ∈ (keptO os ps).map Prod.snd, GoodO o := fun o ho => by
    obtain ⟨⟨p, o'⟩, hp, rfl⟩ := List.mem_map.1 ho
    obtain ⟨_, _, _, _, h⟩ := f.words (hsub _ hp)
    exact f.good _ h
  have hobj := bagL_from _ [] hgood
  refine ⟨⟨hgood, ?_, fun p hp => ?_, hlen⟩, hsl, ?_⟩
  · have := ObjsFrom.sorted hobj
    rw [List.map_map] at this
    exact this
  · obtain ⟨⟨q, o⟩, ho, rfl⟩ := List.mem_map.1 hp
    exact ⟨o, ho⟩
  · have hpl := f.places hsub (by rw [f.kept]; exact f.sorted) (keptO os ps) [] rfl
    rw [f.kept] at hpl
    have hpl : ps.map (newPos ((keptO os ps).map hdOf)) = (bagP 0 ((keptO os ps).map Prod.snd)).map Prod.fst := hpl
    rw [← hpl, List.map_map, List.map_map]
    refine List.map_congr_left fun p hp => ?_
    show mvW _ _ _ (ptrW p) = ptrW (newPos _ p)
    unfold mvW
    rw [if_pos (ptr_tag p), ptr_val (f.small hp), f.liveL]
    rfl
end
end Go.Proofs.Ytcenbfjhhaialaa


set_option linter.unusedVariables false
set_option linter.unusedSectionVars false
set_option linter.unusedSimpArgs false
set_option linter.unnecessarySimpa false
namespace Go.Proofs.Ytcenbfjhhaialaa
open Go.Ab
set_option maxRecDepth 10000

/-- The counts have moved by so much each; nothing else has. -/
def Moved (rows rows' : List (Int × Int × Int)) (d : Nat → Int) : Prop := rows'.length = rows.length ∧ ∀ (j : Nat) (q : Int × Int × Int), rows[j]? = some q → rows'[j]? = some (q.1, q.2.1, q.2.2 + d j)
theorem Moved.refl (rows : List (Int × Int × Int)) {d : Nat → Int} (h : ∀ j, d j = 0) : Moved rows rows d := ⟨rfl, fun j q hq => by rw [h j, Int.add_zero]; exact hq⟩
theorem Moved.one {rows rows' : List (Int × Int × Int)} {d d' : Nat → Int} {i : Nat} {q : Int × Int × Int} {n : Int} (m : Moved rows rows' d) (hq : rows[i]? = some q) (hn : n = q.2.2 + d' i) (ho : ∀ j, j ≠ i → d' j = d j) : Moved rows (rows'.set i (q.1, q.2.1, n)) d' := by
  refine ⟨by rw [List.length_set]; exact m.1, fun j y hy => ?_⟩
  by_cases e : i = j
  · subst e
    rw [hq] at hy
    cases hy
    have hi := (List.getElem?_eq_some_iff.1 (m.2 i q hq)).1
    rw [List.getElem?_set_self hi, hn]
  · rw [List.getElem?_set_ne e, ho j (Ne.symm e)]
    exact m.2 j y hy

section
variable {h h' : HH} {c c' hp a sp : Nat} {vW vR vb vr : V} {W R : List Int} {size most : Int} {l : List (Nat × Hd)} {st : St}
/-- How often a handle is among such. -/
abbrev many (gs : List Int) (j : Nat) : Int := ((gs.count (((j + 1 : Nat) : Int)) : Nat) : Int)
theorem many_snoc {gs : List Int} {i j : Nat} : many (gs ++ [((i + 1 : Nat) : Int)]) j = many gs j + if j = i then 1 else 0 := by
  unfold many
  rw [List.count_append, List.count_singleton]
  by_cases e : j = i
  · subst e; simp
  · rw [if_neg e]
    have : ((((i + 1 : Nat) : Int)) == (((j + 1 : Nat) : Int))) = false := by simp; omega
    rw [this]; simp

theorem StoreAt.keepN (s : StoreAt h c sp vb vr st) (hc : c ≤ c') (e : ∀ n, n < c → n ∈ sp :: (rowName vb ++ rowName vr) → MapI.get h' n = MapI.get h n) : StoreAt h' c' sp vb vr st :=
  ⟨by rw [e sp s.lp (List.mem_cons_self ..)]; exact s.obj, s.bytes.keep hc fun n hn hm => e n hn (List.mem_cons_of_mem _ (List.mem_append_left _ hm)), s.rows.keep hc fun n hn hm => e n hn (List.mem_cons_of_mem _ (List.mem_append_right _ hm)), by have := s.lp; omega, s.nb, s.nr, s.br⟩
theorem many_take {gs : List Int} {i j : Nat} : many (gs.take i) j ≤ many gs j := by
  unfold many
  have : (gs.take i).count (((j + 1 : Nat) : Int)) ≤ gs.count (((j + 1 : Nat) : Int)) := (List.take_sublist i gs).count_le _
  omega

set_option maxHeartbeats 2000000 in
theorem collect_gone (r : HM h c hp a sp vW vR W R size most) (so : SoundW W R l) (s : StoreAt h c sp vb vr st) (hap : ∀ n ∈ sp :: (rowName vb ++ rowName vr), n ∉ hmn hp a vW vR) (hlen : st.rows.length ≤ 1000)
    (hen : ∀ g ∈ goneOf W R l l, ∃ i : Nat, g = ((i + 1 : Nat) : Int) ∧ ∃ q, st.rows[i]? = some q) (hcnt : ∀ i q, st.rows[i]? = some q → many (goneOf W R l l) i < q.2.2 ∧ q.2.2 ≤ 1000000) (hgl : (goneOf W R l l).length ≤ 1000000) :
    Does 30 [.ptr (some (hp, 0)), vR] h c (hmn hp a vW vR ++ sp :: (rowName vb ++ rowName vr)) fun v h' c' => v = .bool true ∧ ∃ vW' rows', HM h' c' hp a sp vW' vR (slidW W R l (liveOf W l R)) (R.map (mvW W R l)) (roomZ most (slidW W R l (liveOf W l R)).length) most ∧ (∀ n ∈ rowName vW', n ∈ rowName vW) ∧ StoreAt h' c' sp vb vr { st with rows := rows' } ∧ Moved st.rows rows' fun j => - many (goneOf W R l l) j := by
  have hobj := r.hm.obj
  have hlh := r.hm.lh
  have hsep := r.hm.sep
  have hsl := slid_le so
  have hmo := r.hm.mo
  have hm0 := r.hm.m0
  have hmx := r.hm.mx
  have hle := r.hm.ar.le
  have hnm := r.names
  have hpn : hp ∉ mn a vW vR := fun hh => by
    rcases List.mem_append.1 hh with h | h
    · exact hsep h
    · exact r.sep hp h (List.mem_cons_self ..)
  have hmnsub : ∀ n ∈ mn a vW vR, n ∈ hmn hp a vW vR := fun n hn => by
    rcases List.mem_append.1 hn with h | h
    · exact List.mem_append_left _ (List.mem_cons_of_mem _ h)
    · exact List.mem_append_right _ h
  have hsub1 : ∀ n ∈ mn a vW vR, n ∈ hmn hp a vW vR ++ sp :: (rowName vb ++ rowName vr) ∨ c ≤ n := fun n hn => .inl (List.mem_append_left _ (hmnsub n hn))
  refine does_of (enter (fn := Try.f30) Try.func30 rfl rfl (Nat.le_of_ble_eq_true rfl) ?_)
  repeat' (first | refine WpC.seq ?_ | refine WpC.region ?_ | refine WpO.nil ?_ | refine WpO.cons rfl rfl (WpX.pure (fun _ => rfl) ⟨nolog, ?_⟩) | refine WpO.cons rfl rfl (op_load rfl rfl rfl hobj rfl ⟨(by simp [InL, Acc.name, rowName] <;> omega), ?_⟩))
  refine WpO.cons rfl rfl (call_at rfl (slide_ok r.mem so) hsub1 (Nat.le_refl _) fun v2 h2 c2 hc2 hf2 hq => ?_)
  obtain ⟨vG, mv, vW', rfl, r2, hn2, hG2, hGn⟩ := hq
  have hGlt := hG2.lt
  obtain ⟨sG, capG, rfl, hsG⟩ := hG2.shape
  have hobj2 : MapI.get h2 hp = _ := (hf2 hp hlh hpn).trans hobj
  have hs2 : StoreAt h2 c2 sp vb vr st := s.keepN hc2 fun n hlt hn => hf2 n hlt fun hh => hap n hn (hmnsub n hh)
  have hspn : ∀ n ∈ sp :: (rowName vb ++ rowName vr), n < c := fun n hn => by
    rcases List.mem_cons.1 hn with h | h
    · rw [h]; exact s.lp
    · rcases List.mem_append.1 h with h | h
      · exact s.bytes.lt n h
      · exact s.rows.lt n h
  have hsv : ∀ n ∈ sp :: rowName vr, n ∈ sp :: (rowName vb ++ rowName vr) := fun n hn => by
    rcases List.mem_cons.1 hn with h | h
    · rw [h]; exact List.mem_cons_self ..
    · exact List.mem_cons_of_mem _ (List.mem_append_right _ h)
  have hhp : hp ∉ sp :: rowName vr := fun hh => hap hp (hsv hp hh) (List.mem_append_left _ (List.mem_cons_self ..))
  generalize hgs : goneOf W R l l = gs at *
  have hobj3 : ∀ {o q : AObj}, MapI.get (MapI.set (MapI.set h2 c2 o) c2 q) hp = _ := fun {o q} => (show MapI.get (MapI.set (MapI.set h2 c2 o) c2 q) hp = MapI.get h2 hp from by rw [MapI.get_ne _ _ _ _ (by omega), MapI.get_ne _ _ _ _ (by omega)]).trans hobj2
  have r3 : ∀ o q, Mem (MapI.set (MapI.set h2 c2 o) c2 q) (c2 + 1) a vW' vR (slidW W R l (liveOf W l R)) (R.map (mvW W R l)) size := fun o q => r2.same (by omega) fun n hn => by
    rw [MapI.get_ne _ _ _ _ (by omega), MapI.get_ne _ _ _ _ (by omega)]
  have hs3 : ∀ o q, StoreAt (MapI.set (MapI.set h2 c2 o) c2 q) (c2 + 1) sp vb vr st := fun o q => hs2.keepN (by omega) fun n hn _ => by
    rw [MapI.get_ne _ _ _ _ (by omega), MapI.get_ne _ _ _ _ (by omega)]
  have hg3 : ∀ {o q : AObj}, MapI.get (MapI.set (MapI.set h2 c2 o) c2 q) c2 = some q := MapI.get_same _ _ _
  repeat' (first | refine WpC.seq ?_ | refine WpC.region ?_ | refine WpO.nil ?_ | refine WpO.cons rfl rfl (WpX.pure (fun _ => rfl) ⟨nolog, ?_⟩) | refine seqQ_normal ?_ | refine WpO.cons rfl rfl (op_alloc rfl ⟨(by simp [InL, Acc.name, rowName] <;> omega), ?_⟩) | refine WpO.cons rfl rfl (op_store (k := 3) rfl rfl rfl rfl (MapI.get_same _ _ _) (Nat.le_of_ble_eq_true rfl) rfl ⟨(by simp [InL, Acc.name, rowName] <;> omega), ?_⟩))
  refine WpC.cond rfl (fun hb => by cases hb) (fun _ => ?_)
  generalize hH3 : MapI.set (MapI.set h2 c2 _) c2 _ = H3
  have hobjH : MapI.get H3 hp = some (.cells true true [.ptr (some (a, 0)), .ptr (some (sp, 0)), I most, .bool false]) := by rw [← hH3]; exact hobj3
  have rH : Mem H3 (c2 + 1) a vW' vR (slidW W R l (liveOf W l R)) (R.map (mvW W R l)) size := by rw [← hH3]; exact r3 _ _
  have sH : StoreAt H3 (c2 + 1) sp vb vr st := by rw [← hH3]; exact hs3 _ _
  have gH : MapI.get H3 c2 = some (.cells true true [I (slidW W R l (liveOf W l R)).length, .slice sG gs.length capG, I mv]) := by rw [← hH3]; exact hg3
  have oH : ∀ n, n < c2 → MapI.get H3 n = MapI.get h2 n := fun n hn => by
    rw [← hH3, MapI.get_ne _ _ _ _ (by omega), MapI.get_ne _ _ _ _ (by omega)]
  repeat' (first | refine WpC.seqI (a := Code.seq (Code.region 4 _ _) _) (fun e' h' c' => (∃ b0, e' = FR b0 [(0, V.ptr (some (hp, 0))), (5, V.ptr (some (c2, 0)))]) ∧ c' = c2 + 1 ∧ ∃ rows', StoreAt h' (c2 + 1) sp vb vr { st with rows := rows' } ∧ (Moved st.rows rows' fun j => - many gs j) ∧ ∀ n, n < c2 + 1 → n ∉ sp :: rowName vr → MapI.get h' n = MapI.get H3 n) ?_ ?_ | refine WpC.seq ?_ | refine WpC.region ?_ | refine WpC.skip ?_ | refine WpO.cons rfl rfl (WpX.pure (fun _ => rfl) ⟨nolog, ?_⟩))
  ·
    repeat' (first | refine WpC.block ?_ | refine WpO.nil ?_ | refine WpO.cons rfl rfl (WpX.pure (fun _ => rfl) ⟨nolog, ?_⟩) | refine WpO.cons rfl rfl (op_load rfl rfl rfl gH rfl ⟨(by simp [InL, Acc.name, rowName] <;> omega), ?_⟩))
    refine WpC.loop ?_
    refine WpLoop.ind (X := Nat × List (Int × Int × Int)) (fun y e' h' c' => (∃ b0, e' = FR b0 [(0, V.ptr (some (hp, 0))), (5, V.ptr (some (c2, 0))), (21, .slice sG gs.length capG), (22, I gs.length), (23, I y.1)]) ∧ y.1 ≤ gs.length ∧ c' = c2 + 1 ∧ StoreAt h' (c2 + 1) sp vb vr { st with rows := y.2 } ∧ (Moved st.rows y.2 fun j => - many (gs.take y.1) j) ∧ ∀ n, n < c2 + 1 → n ∉ sp :: rowName vr → MapI.get h' n = MapI.get H3 n)
      (fun y => gs.length - y.1) ?_ (0, st.rows) _ _ _ ⟨fr ⟨rfl, rfl, rfl, rfl, rfl, trivial⟩, Nat.zero_le _, rfl, sH, Moved.refl _ fun j => by simp [many], fun n _ _ => rfl⟩
    rintro ⟨i, rows⟩ e' h' c' ⟨⟨b0, rfl⟩, hi, rfl, hst, hmv, hfr⟩
    simp only at hi hst hmv
    have hobj' : MapI.get h' hp = _ := (hfr hp (by omega) hhp).trans hobjH
    repeat' (first | refine WpC.seq ?_ | refine WpC.region ?_ | refine WpO.nil ?_ | refine WpO.cons rfl rfl (WpX.pure (fun _ => rfl) ⟨nolog, ?_⟩))
    refine WpC.cond rfl (fun hlt => ?_) (fun hge => ?_)
    case refine_2 =>
      have hge : gs.length ≤ i := by simpa using hge
      rw [List.take_of_length_le hge] at hmv
      repeat' (first | refine WpC.exit ?_ | refine seqQ_normal ?_ | refine seqQ_exit ?_ | refine blkQ_out rfl ?_)
      refine ⟨fr ?_, rfl, rows, hst, hmv, hfr⟩
      exact ⟨rfl, rfl, trivial⟩
    have hlt' : i < gs.length := by simpa using hlt
    obtain ⟨g, hgi⟩ : ∃ z, gs[i]? = some z := ⟨_, List.getElem?_eq_getElem hlt'⟩
    obtain ⟨k, rfl, q0, hq0⟩ := hen g (List.mem_of_getElem? hgi)
    obtain ⟨rfl, gn, cl, junk, rfl, hgn, hgg, _⟩ := hsG i hlt'
    have hgnc : c ≤ gn := hGn gn (by simp [rowName])
    have hgg' : MapI.get h' gn = _ := (hfr gn (by omega) (fun hh => by have := hspn gn (hsv gn hh); omega)).trans ((oH gn hgn).trans hgg)
    have hz : nth (flat intV gs ++ junk) (0 + ((i : Nat) : Int).toNat * 1) = some (I ((k + 1 : Nat) : Int)) := by
      rw [show 0 + ((i : Nat) : Int).toNat * 1 = i from by simp]
      exact nth_flat0 int_len hgi rfl junk
    have hw3 : IntKind.i64.wrap ((i : Int) + 1) = ((i + 1 : Nat) : Int) := by rw [Go.IntWalk.i64_in _ (by omega)]; omega
    have htake : gs.take (i + 1) = gs.take i ++ [((k + 1 : Nat) : Int)] := by rw [List.take_add_one, hgi]; rfl
    have hm1 : ∀ j, many (gs.take (i + 1)) j = many (gs.take i) j + if j = k then 1 else 0 := fun j => by rw [htake, many_snoc]
    have hm2 : many (gs.take i) k + 1 ≤ many gs k := by
      have h1 := hm1 k
      rw [if_pos rfl] at h1
      have h2 : many (gs.take (i + 1)) k ≤ many gs k := many_take
      omega
    obtain ⟨hc1, hc2'⟩ := hcnt k q0 hq0
    have hrow := hmv.2 k q0 hq0
    repeat' (first | refine WpC.seq ?_ | refine WpC.region ?_ | refine WpC.skip ?_ | refine WpC.block ?_ | refine WpO.nil ?_ | refine WpO.cons rfl rfl (WpX.pure (fun _ => rfl) ⟨nolog, ?_⟩) | refine WpO.cons rfl rfl (op_indexAddr (k := 1) rfl rfl rfl rfl ⟨by omega, by omega⟩ ⟨(by simp [InL, Acc.name, rowName] <;> omega), ?_⟩) | refine WpO.cons rfl rfl (op_load rfl rfl rfl hgg' hz ⟨(by simp [InL, Acc.name, rowName] <;> omega), ?_⟩) | refine WpO.cons rfl rfl (op_load rfl rfl rfl hobj' rfl ⟨(by simp [InL, Acc.name, rowName] <;> omega), ?_⟩))
    refine WpO.cons rfl rfl (call_at rfl (drop_ok (hd := ((k + 1 : Nat) : Int)) hst (by show rows.length ≤ 1000; rw [hmv.1]; exact hlen)) (fun n hn => .inl (List.mem_append_right _ (hsv n hn))) (by omega) fun v4 h4 c4 hc4 hf4 hq => ?_)
    obtain ⟨rfl, hq⟩ := hq
    rcases hq with ⟨i', q, hk, hrow', hne, rfl, hs'⟩ | ⟨hno, _, _⟩
    case inr =>
      have := hno k _ (by push_cast; rfl) hrow
      simp only at this
      have hnn : (0 : Int) ≤ many (gs.take i) k := Int.natCast_nonneg _
      omega
    have hik : i' = k := by push_cast at hk; omega
    subst hik
    have hrow' : rows[i']? = some q := hrow'
    rw [hrow] at hrow'
    cases hrow'
    have w1 : IntKind.i64.wrap (q0.2.2 + - many (gs.take i) i' - 1) = q0.2.2 + - many (gs.take (i + 1)) i' := by
      have h1 := hm1 i'
      rw [if_pos rfl] at h1
      have hnn : (0 : Int) ≤ many (gs.take i) i' := Int.natCast_nonneg _
      rw [Go.IntWalk.i64_in _ (by omega)]; omega
    simp only [w1] at hs'
    rw [if_neg (by have h2 : many (gs.take (i + 1)) i' ≤ many gs i' := many_take; omega)] at hs'
    repeat' (first | refine WpC.region ?_ | refine WpO.nil ?_ | refine WpO.cons rfl rfl (WpX.pure (fun _ => rfl) ⟨nolog, ?_⟩) | refine seqQ_normal ?_)
    refine ⟨(i + 1, rows.set i' (q0.1, q0.2.1, q0.2.2 + - many (gs.take (i + 1)) i')), by simp only; omega, ?_, by simp only; omega, rfl, hs', hmv.one hq0 rfl fun j hj => by rw [hm1 j, if_neg hj, Int.add_zero], fun n hn hm => ?_⟩
    · rw [hw3]
      exact fr ⟨rfl, rfl, rfl, rfl, rfl, trivial⟩
    · rw [hf4 n (by omega) hm]; exact hfr n hn hm
  rintro e' h' c' ⟨⟨b0, rfl⟩, rfl, rows', hst, hmv, hfr⟩
  have hobj' : MapI.get h' hp = _ := (hfr hp (by omega) hhp).trans hobjH
  have hg' : MapI.get h' c2 = _ := (hfr c2 (by omega) (fun hh => by have := hspn c2 (hsv c2 hh); omega)).trans gH
  have rF : Mem h' (c2 + 1) a vW' vR (slidW W R l (liveOf W l R)) (R.map (mvW W R l)) size := rH.keep (Nat.le_refl _) fun n hn hm => hfr n hn fun hh => hap n (hsv n hh) (hmnsub n (by
    rcases List.mem_append.1 hm with h | h
    · rcases List.mem_cons.1 h with h | h
      · exact List.mem_append_left _ (by rw [h]; exact List.mem_cons_self ..)
      · exact List.mem_append_left _ (List.mem_cons_of_mem _ (hn2 n h))
    · exact List.mem_append_right _ h))
  have hsubA : ∀ n ∈ an a vW', n ∈ hmn hp a vW vR ++ sp :: (rowName vb ++ rowName vr) ∨ c ≤ n := fun n hn => .inl (List.mem_append_left _ (by
    rcases List.mem_cons.1 hn with h | h
    · exact List.mem_append_left _ (List.mem_cons_of_mem _ (by rw [h]; exact List.mem_cons_self ..))
    · exact List.mem_append_left _ (List.mem_cons_of_mem _ (List.mem_cons_of_mem _ (hn2 n h)))))
  repeat' (first | refine WpC.seq ?_ | refine WpC.drawn ?_ | refine WpL.cons rfl rfl (WpX.pure (fun _ => rfl) ⟨nolog, ?_⟩) | refine WpL.cons rfl rfl (op_load rfl rfl rfl hobj' rfl ⟨(by simp [InL, Acc.name, rowName] <;> omega), ?_⟩) | refine WpL.cons rfl rfl (op_load rfl rfl rfl hg' rfl ⟨(by simp [InL, Acc.name, rowName] <;> omega), ?_⟩))
  refine WpL.cons rfl rfl (call_atP rfl (room_okP (n := ((slidW W R l (liveOf W l R)).length : Int)) rfl hobj' (by omega)) (fun n hn => .inl (by simp at hn; rw [hn]; exact List.mem_append_left _ (List.mem_append_left _ (List.mem_cons_self ..)))) fun v4 h4 c4 al4 hal4 hq => ?_)
  obtain ⟨rfl, rfl, rfl⟩ := hq
  refine WpL.cons rfl rfl (call_atL rfl (cut_ok rF.ar (m := (slidW W R l (liveOf W l R)).length) rfl (Nat.le_refl _) (by unfold roomZ; omega) (by unfold roomZ; omega)) hsubA (by omega) fun v5 h5 c5 al5 hal5 hc5 hf5 hq => ?_)
  obtain ⟨rfl, rfl, vW'', hA, hn5⟩ := hq
  have hal4' : ∀ x ∈ al4, x.writes = false := hal4
  refine WpL.nil (logsOk_of (cs := [0, 1, 3, 7, 0, 16, 0, 0, 128, 448, 1023]) (by decide +kernel) ?_) ?_
  · simp +contextual [allP, apP, Dis, acc_rd, acc_wr, accw_rd, accw_wr, Nat.testBit, hal4']
  repeat' (first | refine WpC.seq ?_ | refine WpC.region ?_ | refine WpC.ret ?_ | refine WpO.nil ?_ | refine WpO.cons rfl rfl (WpX.pure (fun _ => rfl) ⟨nolog, ?_⟩))
  rw [List.take_length] at hA
  have hsub2 : ∀ n ∈ rowName vW'', n ∈ rowName vW := fun n hn => hn2 n (hn5 n hn)
  have hpa : hp ∉ an a vW' := fun hh => hsep (by
    rcases List.mem_cons.1 hh with h | h
    · rw [h]; exact List.mem_cons_self ..
    · exact List.mem_cons_of_mem _ (hn2 _ h))
  refine out_ret rfl ⟨rfl, vW'', rows', ⟨⟨?_, hA, by omega, fun hh => hpa (by
    rcases List.mem_cons.1 hh with h | h
    · rw [h]; exact List.mem_cons_self ..
    · exact List.mem_cons_of_mem _ (hn5 _ h)), by unfold roomZ; omega, hm0, hmx⟩, rF.rr.keep (Nat.le_refl _) fun n hn hm => hf5 n hn fun hh => ?_, fun n hn hh => ?_, rF.ok, rF.len⟩, hsub2, hst.keepN (Nat.le_refl _) fun n hn hm => hf5 n hn fun hh => ?_, hmv⟩
  · rw [hf5 hp (by omega) hpa]; exact hobj'
  · rcases List.mem_cons.1 hh with h | h
    · exact (r2.sep n hm).1 h
    · exact (r2.sep n hm).2 h
  · refine r.sep n hn ?_
    rcases List.mem_cons.1 hh with h | h
    · rw [h]; exact List.mem_cons_self ..
    · rcases List.mem_cons.1 h with h | h
      · rw [h]; exact List.mem_cons_of_mem _ (List.mem_cons_self ..)
      · exact List.mem_cons_of_mem _ (List.mem_cons_of_mem _ (hsub2 n h))
  · refine hap n hm (List.mem_append_left _ (List.mem_cons_of_mem _ ?_))
    rcases List.mem_cons.1 hh with h | h
    · rw [h]; exact List.mem_cons_self ..
    · exact List.mem_cons_of_mem _ (hn2 n h)
end
end Go.Proofs.Ytcenbfjhhaialaa


set_option linter.unusedVariables false
set_option linter.unusedSectionVars false
set_option linter.unusedSimpArgs false
set_option linter.unnecessarySimpa false
namespace Go.Proofs.Ytcenbfjhhaialaa
open Go.Ab
set_option maxRecDepth 10000

section
variable {h h' : HH} {c c' hp a sp : Nat} {vW vR vX vb vr : V} {W R X : List Int} {size most : Int} {l : List (Nat × Hd)} {st : St}
/-- A Bin's header. -/
abbrev binH (n t : Int) : Hd := ⟨3, n, t, false⟩
theorem handle_bin {n t : Int} {b : Int} (rx : RowOf 1 wordV h c vX X) (hX0 : X[0]? = some b) (hb : 0 ≤ b ∧ b ≤ 2147483647) : Does 24 [.agg (hdV (binH n t)), vX] h c (rowName vX) fun v h' c' => v = I b ∧ ∀ n, n < c → MapI.get h' n = MapI.get h n := by
  have hpos := (List.getElem?_eq_some_iff.1 hX0).1
  obtain ⟨s, cap, rfl, hsh⟩ := rx.shape
  obtain ⟨sn, cl, junk, rfl, hsn, hg⟩ := hsh 0 hpos
  have hg' : ∀ {o : AObj}, MapI.get (MapI.set h c o) sn = some (.cells true cl (flat wordV X ++ junk)) := get_set_ne (by omega) hg
  have hz : nth (flat wordV X ++ junk) (0 + (0 : Int).toNat * 1) = some (U b) := nth_flat0 word_len hX0 rfl junk
  have e1 : (if (2147483647 : Int) < b then 2147483647 else b) = b := if_neg (by omega)
  refine does_of (enter (fn := Try.f24) Try.func24 rfl rfl (Nat.le_of_ble_eq_true rfl) ?_)
  repeat' (first | refine WpC.seq ?_ | refine WpC.region ?_ | refine WpO.nil ?_ | refine WpO.cons rfl rfl (WpX.pure (fun _ => rfl) ⟨nolog, ?_⟩) | refine seqQ_normal ?_ | refine WpO.cons rfl rfl (op_box rfl ⟨(by simp [InL, Acc.name, rowName] <;> omega), ?_⟩) | refine WpO.cons rfl rfl (op_load rfl rfl rfl (MapI.get_same _ _ _) rfl ⟨(by simp [InL, Acc.name, rowName] <;> omega), ?_⟩))
  have e2 : ((X.length : Int) == 0) = false := by rw [beq_eq_false_iff_ne]; omega
  refine WpC.cond rfl (fun hb => absurd (hb : ((X.length : Int) == 0) = true) (by rw [e2]; decide)) (fun _ => ?_)
  repeat' (first | refine WpO.cons rfl rfl (op_min rfl e1 ⟨nolog, ?_⟩) | refine WpC.seq ?_ | refine WpC.region ?_ | refine WpC.skip ?_ | refine WpC.ret ?_ | refine WpO.nil ?_ | refine WpO.cons rfl rfl (WpX.pure (fun _ => rfl) ⟨nolog, ?_⟩) | refine WpO.cons rfl rfl (op_indexAddr (k := 1) rfl rfl rfl rfl ⟨by omega, by omega⟩ ⟨(by simp [InL, Acc.name, rowName] <;> omega), ?_⟩) | refine WpO.cons rfl rfl (op_load rfl rfl rfl hg' hz ⟨(by simp [InL, Acc.name, rowName] <;> omega), ?_⟩))
  refine out_ret rfl ⟨?_, fun n hn => MapI.get_ne _ _ _ _ (by omega)⟩
  show V.int .i64 (IntKind.i64.wrap b) = I b
  rw [Go.IntWalk.i64_in _ (by omega)]

set_option maxHeartbeats 1000000 in
theorem hmake_bin {n t : Int} {bi : Nat} {q : Int × Int × Int} (r : HeapAt h c hp a sp vW W size most) (s : StoreAt h c sp vb vr st) (hap : ∀ m ∈ sp :: (rowName vb ++ rowName vr), m ∉ hn hp a vW ∧ m ∉ rowName vX) (hlen : st.rows.length ≤ 1000) (hqb : st.rows[bi]? = some q) (hqc : 0 < q.2.2 ∧ q.2.2 ≤ 1000000) (rx : RowOf 1 wordV h c vX X) (hX : (X.length : Int) = n) (hX0 : X[0]? = some ((bi + 1 : Nat) : Int)) (hx : okH (binH n t)) (hXW : ∀ m ∈ rowName vX, m ∉ hn hp a vW) (hok : ∀ w ∈ X, okW w) (hle : (W.length : Int) + 1 + n ≤ size) : Does 8 [.ptr (some (hp, 0)), .agg (hdV (binH n t)), vX] h c (hn hp a vW ++ rowName vX ++ sp :: (rowName vb ++ rowName vr)) fun v h' c' => v = .tuple [U (ptrW W.length), .bool true] ∧ ∃ vW', HeapAt h' c' hp a sp vW' (W ++ makeW (binH n t) :: X) size most ∧ (∀ n ∈ rowName vW', n ∈ rowName vW ∨ c ≤ n) ∧ StoreAt h' c' sp vb vr { st with rows := st.rows.set bi (q.1, q.2.1, IntKind.i64.wrap (q.2.2 + 1)) } ∧ ∀ m, m < c → m ∉ an a vW → m ∉ sp :: rowName vr → MapI.get h' m = MapI.get h m := by
  have hobj := r.obj
  have hlh := r.lh
  have hsep := r.sep
  have hmo := r.mo
  have hmx := r.mx
  have hla := r.ar.la
  have hnm := r.names
  have hsub1 : ∀ m ∈ [hp], m ∈ hn hp a vW ++ rowName vX ++ sp :: (rowName vb ++ rowName vr) ∨ c ≤ m := fun m hm => .inl (by simp at hm; rw [hm]; exact List.mem_append_left _ (List.mem_append_left _ (List.mem_cons_self ..)))
  have hsub2 : ∀ m ∈ an a vW, m ∈ hn hp a vW ++ rowName vX ++ sp :: (rowName vb ++ rowName vr) ∨ c ≤ m := fun m hm => .inl (List.mem_append_left _ (List.mem_append_left _ (List.mem_cons_of_mem _ hm)))
  have hsub3 : ∀ m ∈ rowName vX, m ∈ hn hp a vW ++ rowName vX ++ sp :: (rowName vb ++ rowName vr) ∨ c ≤ m := fun m hm => .inl (List.mem_append_left _ (List.mem_append_right _ hm))
  have hsub4 : ∀ m ∈ sp :: rowName vr, m ∈ hn hp a vW ++ rowName vX ++ sp :: (rowName vb ++ rowName vr) ∨ c ≤ m := fun m hm => .inl (List.mem_append_right _ (by
    rcases List.mem_cons.1 hm with h | h
    · rw [h]; exact List.mem_cons_self ..
    · exact List.mem_cons_of_mem _ (List.mem_append_right _ h)))
  have hbl : bi < 1000 := by have := (List.getElem?_eq_some_iff.1 hqb).1; omega
  have e0 : ((((bi + 1 : Nat) : Int)) != 0) = true := by rw [bne_iff_ne]; omega
  have hspn : ∀ n ∈ sp :: (rowName vb ++ rowName vr), n < c := fun n hn => by
    rcases List.mem_cons.1 hn with h | h
    · rw [h]; exact s.lp
    · rcases List.mem_append.1 h with h | h
      · exact s.bytes.lt n h
      · exact s.rows.lt n h
  obtain ⟨b, cap, rfl, hshape⟩ := rx.shape
  have hlt := rx.lt
  subst hX
  have hx0 := hx
  unfold okH at hx0
  simp only at hx0
  have r1 : ∀ o, HeapAt (MapI.set h c o) (c + 1) hp a sp vW W size most := fun o => r.same (by omega) fun m hm => MapI.get_ne _ _ _ _ (by omega)
  refine does_of (enter (fn := Try.f8) Try.func8 rfl rfl (Nat.le_of_ble_eq_true rfl) ?_)
  repeat' (first | refine WpC.seq ?_ | refine WpC.region ?_ | refine WpO.nil ?_ | refine WpO.cons rfl rfl (WpX.pure (fun _ => rfl) ⟨nolog, ?_⟩) | refine WpO.cons rfl rfl (op_box rfl ⟨(by simp [InL, Acc.name, rowName] <;> omega), ?_⟩))
  refine WpO.cons rfl rfl (call_atD rfl (alive_ok (r1 _)) hsub1 (by omega) fun v4 h4 c4 hc4 hfr4 hq => ?_)
  obtain ⟨rfl, rfl, rfl⟩ := hq
  repeat' (first | refine WpO.nil ?_ | refine WpO.cons rfl rfl (WpX.pure (fun _ => rfl) ⟨nolog, ?_⟩) | refine seqQ_normal ?_ | refine WpO.cons rfl rfl (op_load rfl rfl rfl (MapI.get_same _ _ _) rfl ⟨(by simp [InL, Acc.name, rowName] <;> omega), ?_⟩))
  refine WpC.cond rfl (fun hb => absurd hb (by simp)) (fun _ => ?_)
  repeat' (first | refine WpC.seq ?_ | refine WpC.region ?_ | refine WpC.skip ?_ | refine WpO.cons rfl rfl (WpX.pure (fun _ => rfl) ⟨nolog, ?_⟩) | refine WpO.cons rfl rfl (op_loadA rfl rfl rfl rfl (MapI.get_same _ _ _) rfl ⟨(by simp [InL, Acc.name, rowName] <;> omega), ?_⟩))
  refine WpO.cons rfl rfl (call_at rfl (handle_bin (n := (X.length : Int)) (t := t) (rx.keep (by omega) fun m hm _ => MapI.get_ne _ _ _ _ (by omega)) hX0 (by omega)) hsub3 (by omega) fun v5 h5 c5 hc5 _ hq => ?_)
  obtain ⟨rfl, hf5⟩ := hq
  have r5 := (r1 (.cells true true (hdV (binH X.length t)))).same hc5 hf5
  have hobj5 := r5.obj
  have hg5 : MapI.get h5 c = some (.cells true true (hdV (binH X.length t))) := by rw [hf5 c (by omega)]; exact MapI.get_same _ _ _
  have s5 : StoreAt h5 c5 sp vb vr st := s.keepN (by omega) fun n hn _ => by rw [hf5 n (by omega)]; exact MapI.get_ne _ _ _ _ (by omega)
  repeat' (first | refine WpC.seq ?_ | refine WpC.region ?_ | refine WpO.nil ?_ | refine WpO.cons rfl rfl (WpX.pure (fun _ => rfl) ⟨nolog, ?_⟩))
  simp only [e0]
  repeat' (first | refine WpO.cons rfl rfl (WpX.pure (fun _ => rfl) ⟨nolog, ?_⟩) | refine WpO.cons rfl rfl (op_load rfl rfl rfl hobj5 rfl ⟨(by simp [InL, Acc.name, rowName] <;> omega), ?_⟩))
  refine WpO.cons rfl rfl (call_at rfl (count_ok (hd := ((bi + 1 : Nat) : Int)) s5 hlen) hsub4 (by omega) fun v9 h9 c9 hc9 _ hq => ?_)
  obtain ⟨rfl, rfl, hq⟩ := hq
  rcases hq with ⟨i9, q9, hi9, hq9, rfl⟩ | ⟨hno, _⟩
  case inr => have := hno bi q (by push_cast; rfl) hqb; omega
  have hib : i9 = bi := by push_cast at hi9; omega
  subst hib
  rw [hqb] at hq9
  cases hq9
  repeat' (first | refine WpO.nil ?_ | refine WpO.cons rfl rfl (WpX.pure (fun _ => rfl) ⟨nolog, ?_⟩) | refine seqQ_normal ?_)
  refine WpC.cond rfl (fun hb => absurd hb (by simp; omega)) (fun _ => ?_)
  repeat' (first | refine WpC.seq ?_ | refine WpC.drawn ?_ | refine WpC.skip ?_ | refine WpL.cons rfl rfl (WpX.pure (fun _ => rfl) ⟨nolog, ?_⟩) | refine WpL.cons rfl rfl (op_load rfl rfl rfl hobj5 rfl ⟨(by simp [InL, Acc.name, rowName] <;> omega), ?_⟩) | refine WpL.cons rfl rfl (op_loadA rfl rfl rfl rfl hg5 rfl ⟨(by simp [InL, Acc.name, rowName] <;> omega), ?_⟩))
  refine WpL.cons rfl rfl (call_atL rfl (fresh_ok r5.ar hx (by simp only; omega)) hsub2 (by omega) fun v6 h6 c6 al6 hal6 hc6 hf6 hq => ?_)
  obtain ⟨rfl, vW6, hA6, hn6⟩ := hq
  repeat' (first | refine WpL.cons rfl rfl (WpX.pure (fun _ => rfl) ⟨nolog, ?_⟩))
  refine WpL.nil (logsOk_of (cs := [0, 1, 3, 7, 0, 31, 63, 127, 127, 255, 1023]) (by decide +kernel) ?_) ?_
  · simp +contextual [allP, apP, Dis, acc_rd, acc_wr, accw_rd, accw_wr, Nat.testBit]
  repeat' (first | refine WpC.seq ?_ | refine WpC.region ?_ | refine WpO.nil ?_ | refine WpO.cons rfl rfl (WpX.pure (fun _ => rfl) ⟨nolog, ?_⟩) | refine seqQ_normal ?_)
  refine WpC.cond rfl (fun hb => by cases hb) (fun _ => ?_)
  have hsep6 : hp ∉ an a vW6 := fun hh => by
    rcases List.mem_cons.1 hh with h | h
    · exact hsep (by rw [h]; exact List.mem_cons_self ..)
    · rcases hn6 _ h with h | h
      · exact hsep (List.mem_cons_of_mem _ h)
      · omega
  have hfr6 : ∀ m, m < c → m ∉ an a vW → MapI.get h6 m = MapI.get h m := fun m hm hna => by
    rw [hf6 m (by omega) hna, hf5 m (by omega)]; exact MapI.get_ne _ _ _ _ (by omega)
  have hn6' : ∀ n ∈ rowName vW6, n ∈ rowName vW ∨ c ≤ n := fun n hn => (hn6 n hn).imp id fun h => by omega
  rw [show ((binH (X.length : Int) t).size).toNat = X.length from by simp] at hA6
  have hpn : hp ∉ an a vW := hsep
  have hobj6 : MapI.get h6 hp = _ := (hfr6 hp hlh hpn).trans hobj
  have hvp : valW (ptrW W.length) = W.length := val_of ⟨by decide, by decide⟩ (by unfold fitsW; have := r.ar.le; omega)
  have hokp : okW (ptrW W.length) := ofW_ok ⟨by decide, by decide⟩
  generalize hpw : ptrW W.length = pw at hvp hokp
  repeat' (first | refine WpC.seqI (a := Code.seq (Code.region 9 _ _) _) (fun e' h' c' => (∃ b0, e' = FR b0 [(0, V.ptr (some (hp, 0))), (8, I ((i9 + 1 : Nat) : Int)), (9, U pw)]) ∧ c ≤ c' ∧ ∃ vW', HeapAt h' c' hp a sp vW' (W ++ makeW (binH X.length t) :: X) size most ∧ (∀ n ∈ rowName vW', n ∈ rowName vW ∨ c ≤ n) ∧ ∀ m, m < c → m ∉ an a vW → MapI.get h' m = MapI.get h m) ?_ ?_ | refine WpC.seq ?_ | refine WpC.region ?_ | refine WpC.skip ?_ | refine WpC.block ?_ | refine WpO.nil ?_ | refine WpO.cons rfl rfl (WpX.pure (fun _ => rfl) ⟨nolog, ?_⟩))
  ·
    skip
    refine WpC.loop ?_
    refine WpLoop.ind (X := Nat × V) (fun y e' h' c' => (∃ b0, e' = FR b0 [(0, V.ptr (some (hp, 0))), (8, I ((i9 + 1 : Nat) : Int)), (9, U pw), (48, .slice b X.length cap), (49, I X.length), (50, I y.1)]) ∧ y.1 ≤ X.length ∧ c6 ≤ c' ∧ HeapAt h' c' hp a sp y.2 (W ++ makeW (binH X.length t) :: (X.take y.1 ++ List.replicate (X.length - y.1) 0)) size most ∧ (∀ n ∈ rowName y.2, n ∈ rowName vW ∨ c ≤ n) ∧ ∀ m, m < c → m ∉ an a vW → MapI.get h' m = MapI.get h m)
      (fun y => X.length - y.1) ?_ (0, vW6) _ _ _ ⟨fr ⟨rfl, rfl, rfl, rfl, rfl, rfl, trivial⟩, Nat.zero_le _, Nat.le_refl _, ⟨hobj6, by rw [List.take_zero, List.nil_append, Nat.sub_zero]; exact hA6, by omega, hsep6, hmo, r.m0, hmx⟩, hn6', hfr6⟩
    rintro ⟨i, v⟩ e' h' c' ⟨⟨b0, rfl⟩, hi, hc', rr, hnv, hfv⟩
    simp only at hi rr hnv
    have hobj' := rr.obj
    repeat' (first | refine WpC.seq ?_ | refine WpC.region ?_ | refine WpO.nil ?_ | refine WpO.cons rfl rfl (WpX.pure (fun _ => rfl) ⟨nolog, ?_⟩))
    refine WpC.cond rfl (fun hlt => ?_) (fun hge => ?_)
    case refine_2 =>
      have hge : X.length ≤ i := by simpa using hge
      have hie : i = X.length := by omega
      subst hie
      rw [List.take_of_length_le (Nat.le_refl _), Nat.sub_self, List.replicate_zero, List.append_nil] at rr
      repeat' (first | refine WpC.exit ?_ | refine seqQ_normal ?_ | refine seqQ_exit ?_ | refine blkQ_out rfl ?_)
      refine ⟨fr ?_, by omega, v, rr, hnv, hfv⟩
      exact ⟨rfl, rfl, rfl, trivial⟩
    have hlt' : i < X.length := by simpa using hlt
    obtain ⟨x, hxi⟩ : ∃ z, X[i]? = some z := ⟨_, List.getElem?_eq_getElem hlt'⟩
    obtain ⟨sn, cl, junk, rfl, hsn, hg⟩ := hshape i hlt'
    have hsv : sn ∉ an a vW := fun hh => hXW sn (by simp [rowName]) (List.mem_cons_of_mem _ hh)
    have hg' : MapI.get h' sn = _ := (hfv sn hsn hsv).trans hg
    have hz : nth (flat wordV X ++ junk) (0 + ((i : Nat) : Int).toNat * 1) = some (U x) := by
      rw [show 0 + ((i : Nat) : Int).toNat * 1 = i from by simp]
      exact nth_flat0 word_len hxi rfl junk
    have hWl := r.ar.le
    have hw1 : IntKind.i64.wrap ((i : Int) + 1) = ((i + 1 : Nat) : Int) := by rw [Go.IntWalk.i64_in _ (by omega)]; omega
    have hw2 : IntKind.i64.wrap (IntKind.i64.wrap ((W.length : Int) + 1) + (i : Int)) = ((W.length + 1 + i : Nat) : Int) := by rw [Go.IntWalk.i64_in ((W.length : Int) + 1) (by omega), Go.IntWalk.i64_in _ (by omega)]; omega
    repeat' (first | refine WpC.seq ?_ | refine WpC.region ?_ | refine WpC.drawn ?_ | refine WpC.skip ?_ | refine WpC.block ?_ | refine WpO.nil ?_ | refine WpO.cons rfl rfl (WpX.pure (fun _ => rfl) ⟨nolog, ?_⟩) | refine WpL.cons rfl rfl (WpX.pure (fun _ => rfl) ⟨nolog, ?_⟩) | refine WpO.cons rfl rfl (op_indexAddr (k := 1) rfl rfl rfl rfl ⟨by omega, by omega⟩ ⟨(by simp [InL, Acc.name, rowName] <;> omega), ?_⟩) | refine WpO.cons rfl rfl (op_load rfl rfl rfl hg' hz ⟨(by simp [InL, Acc.name, rowName] <;> omega), ?_⟩) | refine WpL.cons rfl rfl (op_load rfl rfl rfl hobj' rfl ⟨(by simp [InL, Acc.name, rowName] <;> omega), ?_⟩))
    refine WpL.cons rfl rfl (call_atRL rfl (val_okR hokp) (fun n hn => by cases hn) (by omega) fun v7 h7 c7 al7 hal7 hc7 hf7 hq => ?_)
    obtain ⟨rfl, rfl, rfl⟩ := hq
    rw [hvp]
    repeat' (first | refine WpL.cons rfl rfl (WpX.pure (fun _ => rfl) ⟨nolog, ?_⟩))
    refine WpL.cons rfl rfl (call_atL rfl (set_ok rr.ar (j := W.length + 1 + i) hw2 (by simp; omega) (hok x (List.mem_of_getElem? hxi))) (ms := hn hp a vW ++ rowName (.slice (some (sn, 0)) X.length cap) ++ sp :: (rowName vb ++ rowName vr)) (c0 := c) (fun n hn => ?_) (by omega) fun v8 h8 c8 al8 hal8 hc8 hf8 hq => ?_)
    · rcases List.mem_cons.1 hn with h | h
      · exact .inl (List.mem_append_left _ (List.mem_append_left _ (by rw [h]; exact List.mem_cons_of_mem _ (List.mem_cons_self ..))))
      · rcases hnv n h with h | h
        · exact .inl (List.mem_append_left _ (List.mem_append_left _ (List.mem_cons_of_mem _ (List.mem_cons_of_mem _ h))))
        · exact .inr h
    obtain ⟨rfl, rfl, r8, _⟩ := hq
    rw [fill_step hxi] at r8
    have hal7' : ∀ x ∈ al7, hp = x.name → x.writes = false := fun x hx e => by
      cases hw : x.writes with
      | false => rfl
      | true => have := (hal7 x hx).2 hw; have := rr.lh; omega
    skip
    refine WpL.nil (logsOk_of (cs := [0, 1, 3, 7, 0, 16, 48, 0, 240, 0, 1023]) (by decide +kernel) ?_) ?_
    · simp +contextual [allP, apP, Dis, acc_rd, acc_wr, accw_rd, accw_wr, Nat.testBit, hal7']
    repeat' (first | refine WpC.region ?_ | refine WpO.nil ?_ | refine WpO.cons rfl rfl (WpX.pure (fun _ => rfl) ⟨nolog, ?_⟩) | refine seqQ_normal ?_)
    have hpv : hp ∉ an a v := rr.sep
    refine ⟨(i + 1, v), by simp only; omega, ?_, by simp only; omega, by omega, ⟨?_, r8, rr.lh, rr.sep, rr.mo, rr.m0, rr.mx⟩, hnv, fun m hm hma => ?_⟩
    · rw [hw1]
      exact fr ⟨rfl, rfl, rfl, rfl, rfl, rfl, trivial⟩
    · rw [hf8 hp rr.lh hpv]; exact hobj'
    · rw [hf8 m (by omega) (fun hh => ?_)]
      · exact hfv m hm hma
      · rcases List.mem_cons.1 hh with h | h
        · exact hma (by rw [h]; exact List.mem_cons_self ..)
        · rcases hnv m h with h | h
          · exact hma (List.mem_cons_of_mem _ h)
          · omega
  rintro e' h' c' ⟨⟨b0, rfl⟩, hc', vW', rr, hnv, hfv⟩
  have hobjE := rr.obj
  have sE : StoreAt h' c' sp vb vr st := s.keepN hc' fun n hn hm => hfv n hn fun hh => (hap n hm).1 (List.mem_cons_of_mem _ hh)
  repeat' (first | refine WpC.seq ?_ | refine WpC.region ?_ | refine WpO.nil ?_ | refine WpO.cons rfl rfl (WpX.pure (fun _ => rfl) ⟨nolog, ?_⟩) | refine seqQ_normal ?_)
  refine WpC.cond rfl (fun _ => ?_) (fun hb => absurd hb (by show ¬ ((((i9 + 1 : Nat) : Int)) != 0) = false; rw [e0]; simp))
  repeat' (first | refine WpC.region ?_ | refine WpO.cons rfl rfl (WpX.pure (fun _ => rfl) ⟨nolog, ?_⟩) | refine WpO.cons rfl rfl (op_load rfl rfl rfl hobjE rfl ⟨(by simp [InL, Acc.name, rowName] <;> omega), ?_⟩))
  refine WpO.cons rfl rfl (call_at rfl (hold_ok (hd := ((i9 + 1 : Nat) : Int)) sE hlen) hsub4 (by omega) fun v8 h8 c8 hc8 hf8 hq => ?_)
  obtain ⟨rfl, hq⟩ := hq
  rcases hq with ⟨j9, q8, hj9, hq8, _, rfl, s8⟩ | ⟨hno, _⟩
  case inr => have := hno i9 q (by push_cast; rfl) hqb; omega
  have hjb : j9 = i9 := by push_cast at hj9; omega
  subst hjb
  rw [hqb] at hq8
  cases hq8
  have hnE := rr.names
  repeat' (first | refine WpC.seq ?_ | refine WpC.region ?_ | refine WpC.ret ?_ | refine WpO.nil ?_ | refine WpO.cons rfl rfl (WpX.pure (fun _ => rfl) ⟨nolog, ?_⟩))
  refine out_ret rfl ⟨rfl, vW', rr.keep hc8 fun n hn hm => hf8 n hn fun hh => ?_, hnv, s8, fun m hm h1 h2 => by rw [hf8 m (by omega) h2]; exact hfv m hm h1⟩
  have hsn : n ∈ sp :: (rowName vb ++ rowName vr) := by
    rcases List.mem_cons.1 hh with h | h
    · rw [h]; exact List.mem_cons_self ..
    · exact List.mem_cons_of_mem _ (List.mem_append_right _ h)
  have hlt := hspn n hsn
  refine (hap n hsn).1 ?_
  rcases List.mem_cons.1 hm with h | h
  · rw [h]; exact List.mem_cons_self ..
  · rcases List.mem_cons.1 h with h | h
    · rw [h]; exact List.mem_cons_of_mem _ (List.mem_cons_self ..)
    · rcases hnv n h with h | h
      · exact List.mem_cons_of_mem _ (List.mem_cons_of_mem _ h)
      · omega
end
end Go.Proofs.Ytcenbfjhhaialaa


set_option linter.unusedVariables false
set_option linter.unusedSectionVars false
set_option linter.unusedSimpArgs false
set_option linter.unnecessarySimpa false
namespace Go.Proofs.Ytcenbfjhhaialaa
open Go.Ab
set_option maxRecDepth 10000

section
variable {h h' : HH} {c c' hp a sp : Nat} {vW : V} {W : List Int} {size most : Int} {l : List (Nat × Hd)}
set_option maxHeartbeats 1000000 in
theorem hands_ok (r : HeapAt h c hp a sp vW W size most) (ho : ObjsFrom W 0 l) : Does 11 [.ptr (some (hp, 0))] h c (hn hp a vW) fun v h' c' => ListOf 1 intV h' c' v (l.flatMap (gone1 W)) ∧ (∀ n ∈ rowName v, c ≤ n) ∧ ∀ n, n < c → MapI.get h' n = MapI.get h n := by
  have hmx := r.mx
  have hmo := r.mo
  have hle := r.ar.le
  have hll := places_le ho
  have hlh := r.lh
  have hsub1 : ∀ n ∈ [hp], n ∈ hn hp a vW ∨ c ≤ n := fun n hn => .inl (by simp at hn; rw [hn]; exact List.mem_cons_self ..)
  have hsub : ∀ n ∈ an a vW, n ∈ hn hp a vW ∨ c ≤ n := fun n hn => .inl (List.mem_cons_of_mem _ hn)
  refine does_of (enter (fn := Try.f11) Try.func11 rfl rfl (Nat.le_of_ble_eq_true rfl) ?_)
  repeat' (first | refine WpC.seq ?_ | refine WpC.region ?_ | refine WpO.nil ?_ | refine WpO.cons rfl rfl (WpX.pure (fun _ => rfl) ⟨nolog, ?_⟩))
  refine WpO.cons rfl rfl (call_atD rfl (arena_ok r) hsub1 (Nat.le_refl _) fun v1 h1 c1 hc1 hfr1 hq => ?_)
  obtain ⟨rfl, rfl, rfl⟩ := hq
  repeat' (first | refine WpC.seq ?_ | refine WpC.region ?_ | refine WpO.nil ?_ | refine WpO.cons rfl rfl (WpX.pure (fun _ => rfl) ⟨nolog, ?_⟩))
  refine WpO.cons rfl rfl (call_at rfl (objects_ok r.ar ho) hsub (by omega) fun v2 h2 c2 hc2 _ hq => ?_)
  obtain ⟨vA, rfl, hA, hAn, hf2⟩ := hq
  have r2 := r.same hc2 hf2
  have hAlt := hA.lt
  obtain ⟨sA, capA, rfl, hsA⟩ := hA.shape
  have hlenA : (places l).length = l.length := List.length_map _
  rw [hlenA] at hsA hAlt hAn
  repeat' (first | refine WpC.seq ?_ | refine WpC.region ?_ | refine WpC.block ?_ | refine WpO.nil ?_ | refine WpO.cons rfl rfl (WpX.pure (fun _ => rfl) ⟨nolog, ?_⟩))
  rw [hlenA]
  refine WpC.loop ?_
  refine WpLoop.ind (X := Nat × V) (fun y e' h' c' => (∃ b0, e' = FR b0 [(3, V.ptr (some (a, 0))), (6, y.2), (20, .slice sA l.length capA), (21, I l.length), (22, I y.1)]) ∧ y.1 ≤ l.length ∧ ListOf (0 + 1) intV h' c' y.2 ((l.take y.1).flatMap (gone1 W)) ∧ ((l.take y.1).flatMap (gone1 W)).length ≤ y.1 ∧ (∀ n ∈ rowName y.2, c2 ≤ n) ∧ c2 ≤ c' ∧ ∀ n, n < c2 → MapI.get h' n = MapI.get h2 n)
    (fun y => l.length - y.1) ?_ (0, .slice none 0 (.known 0)) _ _ _ ⟨fr ⟨rfl, rfl, rfl, rfl, rfl, trivial⟩, Nat.zero_le _, .nil, Nat.le_refl _, fun n hn => (by cases hn), Nat.le_refl _, fun _ _ => rfl⟩
  rintro ⟨i, v⟩ e' h' c' ⟨⟨b0, rfl⟩, hi, hv, hgl, hvn, hc', hf'⟩
  simp only at hi hv hvn hgl
  repeat' (first | refine WpC.seq ?_ | refine WpC.region ?_ | refine WpO.nil ?_ | refine WpO.cons rfl rfl (WpX.pure (fun _ => rfl) ⟨nolog, ?_⟩))
  refine WpC.cond rfl (fun hlt => ?_) (fun hge => ?_)
  case refine_2 =>
    have hge : l.length ≤ i := by simpa using hge
    rw [List.take_of_length_le hge] at hv
    repeat' (first | refine WpC.seq ?_ | refine WpC.region ?_ | refine WpC.exit ?_ | refine WpC.ret ?_ | refine WpO.nil ?_ | refine WpO.cons rfl rfl (WpX.pure (fun _ => rfl) ⟨nolog, ?_⟩))
    exact out_ret rfl ⟨hv, fun n hn => (by have := hvn n hn; omega), fun n hn => by rw [hf' n (by omega)]; exact hf2 n hn⟩
  have hlt : i < l.length := by simpa using hlt
  obtain ⟨⟨p, x⟩, hx⟩ : ∃ z, l[i]? = some z := ⟨_, List.getElem?_eq_getElem hlt⟩
  have hxm := List.mem_of_getElem? hx
  have htk : l.take (i + 1) = l.take i ++ [(p, x)] := by rw [List.take_add_one, hx]; rfl
  obtain ⟨jj, w', ej, hw', _, hsz, hxok⟩ := objW_some (ho.mem _ hxm).2
  have ej : ((p : Nat) : Int) = jj := ej
  have hsz : (jj : Int) + 1 + x.size ≤ W.length := hsz
  unfold okH at hxok
  have hxok : 0 ≤ x.kind ∧ x.kind ≤ 3 ∧ 0 ≤ x.size ∧ x.size < 1048576 ∧ 0 ≤ x.tree ∧ x.tree < 1048576 := hxok
  obtain ⟨rfl, sa, cl, junk, rfl, hsa, hg, _⟩ := hsA i hlt
  have hsac : c ≤ sa := hAn sa (by simp [rowName])
  have hg' : MapI.get h' sa = _ := (hf' sa hsa).trans hg
  have hz : nth (flat intV (places l) ++ junk) (0 + ((i : Nat) : Int).toNat * 1) = some (I p) := by
    rw [show 0 + ((i : Nat) : Int).toNat * 1 = i from by simp]
    exact nth_flat0 int_len (by rw [List.getElem?_map, hx]; rfl) rfl junk
  have wi : IntKind.i64.wrap ((i : Int) + 1) = ((i + 1 : Nat) : Int) := by rw [Go.IntWalk.i64_in _ (by omega)]; omega
  have hgo : (l.take (i + 1)).flatMap (gone1 W) = (l.take i).flatMap (gone1 W) ++ gone1 W (p, x) := by rw [htk, List.flatMap_append]; simp
  have hg1 : (gone1 W (p, x)).length ≤ 1 := by
    unfold gone1; split
    · split <;> simp
    · simp
  have fin : ∀ (e2 : EE) (h2' : HH) (c2' : Nat) (v2 : V), AllIn e2 [(3, V.ptr (some (a, 0))), (6, v2), (20, .slice (some (sa, 0)) l.length (.upTo 1)), (21, I l.length), (22, I (i + 1 : Nat))] →
      ListOf (0 + 1) intV h2' c2' v2 ((l.take i).flatMap (gone1 W) ++ gone1 W (p, x)) → (∀ n ∈ rowName v2, c2 ≤ n) → c2 ≤ c2' → (∀ n, n < c2 → MapI.get h2' n = MapI.get h2 n) →
      ∃ y : Nat × V, l.length - y.1 < l.length - i ∧ (∃ b0, e2 = FR b0 [(3, V.ptr (some (a, 0))), (6, y.2), (20, .slice (some (sa, 0)) l.length (.upTo 1)), (21, I l.length), (22, I y.1)]) ∧ y.1 ≤ l.length ∧ ListOf (0 + 1) intV h2' c2' y.2 ((l.take y.1).flatMap (gone1 W)) ∧ ((l.take y.1).flatMap (gone1 W)).length ≤ y.1 ∧ (∀ n ∈ rowName y.2, c2 ≤ n) ∧ c2 ≤ c2' ∧ ∀ n, n < c2 → MapI.get h2' n = MapI.get h2 n :=
    fun e2 h2' c2' v2 ha hl hn hc hf => ⟨(i + 1, v2), by simp only; omega, fr ha, by simp only; omega, by simp only [hgo]; exact hl, by simp only [hgo, List.length_append]; omega, hn, hc, hf⟩
  have r' : HeapAt h' c' hp a sp vW W size most := r2.same hc' hf'
  have wp : IntKind.i64.wrap ((p : Int) + 1) = ((p + 1 : Nat) : Int) := by rw [Go.IntWalk.i64_in _ (by omega)]; omega
  have hob : objW W ((p : Nat) : Int) = some x := (ho.mem _ hxm).2
  repeat' (first | refine WpC.seq ?_ | refine WpC.region ?_ | refine WpC.skip ?_ | refine WpC.block ?_ | refine WpO.nil ?_ | refine WpO.cons rfl rfl (WpX.pure (fun _ => rfl) ⟨nolog, ?_⟩) | refine WpO.cons rfl rfl (op_indexAddr (k := 1) rfl rfl rfl rfl ⟨by omega, by omega⟩ ⟨(by simp [InL, Acc.name, rowName] <;> omega), ?_⟩) | refine WpO.cons rfl rfl (op_load rfl rfl rfl hg' hz ⟨(by simp [InL, Acc.name, rowName] <;> omega), ?_⟩))
  refine WpO.cons rfl rfl (call_atD rfl (object_ok r'.ar) hsub (by omega) fun v4 h4 c4 hc4 hf4 hq4 => ?_)
  rw [hob] at hq4
  subst hq4
  have hf5 : ∀ {o q : AObj}, ∀ n, n < c' → MapI.get (MapI.set (MapI.set h4 c4 o) c4 q) n = MapI.get h' n := fun {o q} n hn => by
    rw [MapI.get_ne _ _ _ _ (by omega), MapI.get_ne _ _ _ _ (by omega)]; exact hf4 n hn
  have r5 := fun o q => r'.same (h' := MapI.set (MapI.set h4 c4 o) c4 q) (c' := c4 + 1) (by omega) hf5
  have hgx : ∀ {o q : AObj}, MapI.get (MapI.set (MapI.set h4 c4 o) c4 q) c4 = some q := MapI.get_same _ _ _
  have hv5 : ∀ {o q : AObj}, ListOf (0 + 1) intV (MapI.set (MapI.set h4 c4 o) c4 q) (c4 + 1) v ((l.take i).flatMap (gone1 W)) := fun {o q} => hv.keep (by omega) fun n hn _ => hf5 n hn
  have hf6 : ∀ {o q : AObj}, ∀ n, n < c2 → MapI.get (MapI.set (MapI.set h4 c4 o) c4 q) n = MapI.get h2 n := fun {o q} n hn => by rw [hf5 n (by omega)]; exact hf' n hn
  repeat' (first | refine WpC.seq ?_ | refine WpC.region ?_ | refine WpO.nil ?_ | refine WpO.cons rfl rfl (WpX.pure (fun _ => rfl) ⟨nolog, ?_⟩) | refine WpO.cons rfl rfl (op_alloc rfl ⟨(by simp [InL, Acc.name, rowName] <;> omega), ?_⟩) | refine WpO.cons rfl rfl (op_store (k := 4) rfl rfl rfl rfl (MapI.get_same _ _ _) (Nat.le_of_ble_eq_true rfl) rfl ⟨(by simp [InL, Acc.name, rowName] <;> omega), ?_⟩))
  by_cases hp1 : p + 1 < W.length
  case neg =>
    have hgn : gone1 W (p, x) = [] := by unfold gone1; rw [List.getElem?_eq_none (by show W.length ≤ p + 1; omega)]
    refine WpO.cons rfl rfl (call_atD rfl (get_out (r5 _ _).ar (i := IntKind.i64.wrap ((p : Int) + 1)) (by rw [wp]; omega)) hsub (by omega) fun v6 h6 c6 hc6 _ hq6 => ?_)
    obtain ⟨rfl, rfl, rfl⟩ := hq6
    by_cases k3 : x.kind = 3
    case neg =>
      have e3 : (x.kind == 3) = false := by simpa using k3
      repeat' (first | refine WpC.seq ?_ | refine WpC.region ?_ | refine WpO.nil ?_ | refine WpO.cons rfl rfl (WpX.pure (fun _ => rfl) ⟨nolog, ?_⟩) | refine WpO.cons rfl rfl (op_load rfl rfl rfl hgx rfl ⟨(by simp [InL, Acc.name, rowName] <;> omega), ?_⟩))
      simp only [e3]
      repeat' (first | refine WpO.nil ?_ | refine WpO.cons rfl rfl (WpX.pure (fun _ => rfl) ⟨nolog, ?_⟩) | refine WpO.skip rfl rfl ?_ | refine seqQ_normal ?_)
      refine WpC.cond rfl (fun hb => by cases hb) (fun _ => ?_)
      repeat' (first | refine WpC.region ?_ | refine WpC.skip ?_ | refine WpO.nil ?_ | refine WpO.cons rfl rfl (WpX.pure (fun _ => rfl) ⟨nolog, ?_⟩) | refine seqQ_normal ?_)
      exact fin _ _ _ v (by rw [← wi]; exact ⟨rfl, rfl, rfl, rfl, rfl, trivial⟩) (by rw [hgn, List.append_nil]; exact hv5) hvn (by omega) hf6
    have e3 : (x.kind == 3) = true := by simpa using k3
    by_cases k4 : x.size > 0
    case neg =>
      have e4 : decide (x.size > 0) = false := by simpa using k4
      repeat' (first | refine WpC.seq ?_ | refine WpC.region ?_ | refine WpO.nil ?_ | refine WpO.cons rfl rfl (WpX.pure (fun _ => rfl) ⟨nolog, ?_⟩) | refine WpO.cons rfl rfl (op_load rfl rfl rfl hgx rfl ⟨(by simp [InL, Acc.name, rowName] <;> omega), ?_⟩))
      simp only [e3]
      repeat' (first | refine WpO.cons rfl rfl (WpX.pure (fun _ => rfl) ⟨nolog, ?_⟩) | refine WpO.cons rfl rfl (op_load rfl rfl rfl hgx rfl ⟨(by simp [InL, Acc.name, rowName] <;> omega), ?_⟩))
      simp only [e4]
      repeat' (first | refine WpO.nil ?_ | refine WpO.cons rfl rfl (WpX.pure (fun _ => rfl) ⟨nolog, ?_⟩) | refine WpO.skip rfl rfl ?_ | refine seqQ_normal ?_)
      refine WpC.cond rfl (fun hb => by cases hb) (fun _ => ?_)
      repeat' (first | refine WpC.region ?_ | refine WpC.skip ?_ | refine WpO.nil ?_ | refine WpO.cons rfl rfl (WpX.pure (fun _ => rfl) ⟨nolog, ?_⟩) | refine seqQ_normal ?_)
      exact fin _ _ _ v (by rw [← wi]; exact ⟨rfl, rfl, rfl, rfl, rfl, trivial⟩) (by rw [hgn, List.append_nil]; exact hv5) hvn (by omega) hf6
    have e4 : decide (x.size > 0) = true := by simpa using k4
    repeat' (first | refine WpC.seq ?_ | refine WpC.region ?_ | refine WpO.nil ?_ | refine WpO.cons rfl rfl (WpX.pure (fun _ => rfl) ⟨nolog, ?_⟩) | refine WpO.cons rfl rfl (op_load rfl rfl rfl hgx rfl ⟨(by simp [InL, Acc.name, rowName] <;> omega), ?_⟩))
    simp only [e3]
    repeat' (first | refine WpO.cons rfl rfl (WpX.pure (fun _ => rfl) ⟨nolog, ?_⟩) | refine WpO.cons rfl rfl (op_load rfl rfl rfl hgx rfl ⟨(by simp [InL, Acc.name, rowName] <;> omega), ?_⟩))
    simp only [e4]
    repeat' (first | refine WpO.nil ?_ | refine WpO.cons rfl rfl (WpX.pure (fun _ => rfl) ⟨nolog, ?_⟩) | refine WpO.skip rfl rfl ?_ | refine seqQ_normal ?_)
    refine WpC.cond rfl (fun hb => by cases hb) (fun _ => ?_)
    repeat' (first | refine WpC.region ?_ | refine WpC.skip ?_ | refine WpO.nil ?_ | refine WpO.cons rfl rfl (WpX.pure (fun _ => rfl) ⟨nolog, ?_⟩) | refine seqQ_normal ?_)
    exact fin _ _ _ v (by rw [← wi]; exact ⟨rfl, rfl, rfl, rfl, rfl, trivial⟩) (by rw [hgn, List.append_nil]; exact hv5) hvn (by omega) hf6
  obtain ⟨w, hw⟩ : ∃ w, W[p + 1]? = some w := ⟨_, List.getElem?_eq_getElem hp1⟩
  refine WpO.cons rfl rfl (call_atD rfl (get_in (r5 _ _).ar wp hw) hsub (by omega) fun v6 h6 c6 hc6 _ hq6 => ?_)
  obtain ⟨rfl, rfl, rfl⟩ := hq6
  by_cases k3 : x.kind = 3
  case neg =>
    have hgn : gone1 W (p, x) = [] := by unfold gone1; rw [show W[(p, x).1 + 1]? = some w from hw]; exact if_neg fun h => k3 h.1
    have e3 : (x.kind == 3) = false := by simpa using k3
    repeat' (first | refine WpC.seq ?_ | refine WpC.region ?_ | refine WpO.nil ?_ | refine WpO.cons rfl rfl (WpX.pure (fun _ => rfl) ⟨nolog, ?_⟩) | refine WpO.cons rfl rfl (op_load rfl rfl rfl hgx rfl ⟨(by simp [InL, Acc.name, rowName] <;> omega), ?_⟩))
    simp only [e3]
    repeat' (first | refine WpO.nil ?_ | refine WpO.cons rfl rfl (WpX.pure (fun _ => rfl) ⟨nolog, ?_⟩) | refine WpO.skip rfl rfl ?_ | refine seqQ_normal ?_)
    refine WpC.cond rfl (fun hb => by cases hb) (fun _ => ?_)
    repeat' (first | refine WpC.region ?_ | refine WpC.skip ?_ | refine WpO.nil ?_ | refine WpO.cons rfl rfl (WpX.pure (fun _ => rfl) ⟨nolog, ?_⟩) | refine seqQ_normal ?_)
    exact fin _ _ _ v (by rw [← wi]; exact ⟨rfl, rfl, rfl, rfl, rfl, trivial⟩) (by rw [hgn, List.append_nil]; exact hv5) hvn (by omega) hf6
  have e3 : (x.kind == 3) = true := by simpa using k3
  by_cases k4 : x.size > 0
  case neg =>
    have hgn : gone1 W (p, x) = [] := by unfold gone1; rw [show W[(p, x).1 + 1]? = some w from hw]; exact if_neg fun h => k4 h.2.1
    have e4 : decide (x.size > 0) = false := by simpa using k4
    repeat' (first | refine WpC.seq ?_ | refine WpC.region ?_ | refine WpO.nil ?_ | refine WpO.cons rfl rfl (WpX.pure (fun _ => rfl) ⟨nolog, ?_⟩) | refine WpO.cons rfl rfl (op_load rfl rfl rfl hgx rfl ⟨(by simp [InL, Acc.name, rowName] <;> omega), ?_⟩))
    simp only [e3]
    repeat' (first | refine WpO.cons rfl rfl (WpX.pure (fun _ => rfl) ⟨nolog, ?_⟩) | refine WpO.cons rfl rfl (op_load rfl rfl rfl hgx rfl ⟨(by simp [InL, Acc.name, rowName] <;> omega), ?_⟩))
    simp only [e4]
    repeat' (first | refine WpO.nil ?_ | refine WpO.cons rfl rfl (WpX.pure (fun _ => rfl) ⟨nolog, ?_⟩) | refine WpO.skip rfl rfl ?_ | refine seqQ_normal ?_)
    refine WpC.cond rfl (fun hb => by cases hb) (fun _ => ?_)
    repeat' (first | refine WpC.region ?_ | refine WpC.skip ?_ | refine WpO.nil ?_ | refine WpO.cons rfl rfl (WpX.pure (fun _ => rfl) ⟨nolog, ?_⟩) | refine seqQ_normal ?_)
    exact fin _ _ _ v (by rw [← wi]; exact ⟨rfl, rfl, rfl, rfl, rfl, trivial⟩) (by rw [hgn, List.append_nil]; exact hv5) hvn (by omega) hf6
  have e4 : decide (x.size > 0) = true := by simpa using k4
  by_cases k5 : w = 0
  · have hgn : gone1 W (p, x) = [] := by unfold gone1; rw [show W[(p, x).1 + 1]? = some w from hw]; exact if_neg fun h => h.2.2 k5
    have e5 : (w != 0) = false := by simpa using k5
    repeat' (first | refine WpC.seq ?_ | refine WpC.region ?_ | refine WpO.nil ?_ | refine WpO.cons rfl rfl (WpX.pure (fun _ => rfl) ⟨nolog, ?_⟩) | refine WpO.cons rfl rfl (op_load rfl rfl rfl hgx rfl ⟨(by simp [InL, Acc.name, rowName] <;> omega), ?_⟩))
    simp only [e3]
    repeat' (first | refine WpO.cons rfl rfl (WpX.pure (fun _ => rfl) ⟨nolog, ?_⟩) | refine WpO.cons rfl rfl (op_load rfl rfl rfl hgx rfl ⟨(by simp [InL, Acc.name, rowName] <;> omega), ?_⟩))
    simp only [e4]
    repeat' (first | refine WpO.nil ?_ | refine WpO.cons rfl rfl (WpX.pure (fun _ => rfl) ⟨nolog, ?_⟩) | refine seqQ_normal ?_)
    refine WpC.cond rfl (fun hb => by rw [show (w != 0) = false from e5] at hb; cases hb) (fun _ => ?_)
    repeat' (first | refine WpC.region ?_ | refine WpC.skip ?_ | refine WpO.nil ?_ | refine WpO.cons rfl rfl (WpX.pure (fun _ => rfl) ⟨nolog, ?_⟩) | refine seqQ_normal ?_)
    exact fin _ _ _ v (by rw [← wi]; exact ⟨rfl, rfl, rfl, rfl, rfl, trivial⟩) (by rw [hgn, List.append_nil]; exact hv5) hvn (by omega) hf6
  have e5 : (w != 0) = true := by simpa using k5
  have hgn : gone1 W (p, x) = [IntKind.i64.wrap w] := by unfold gone1; rw [show W[(p, x).1 + 1]? = some w from hw]; exact if_pos ⟨k3, k4, k5⟩
  repeat' (first | refine WpC.seq ?_ | refine WpC.region ?_ | refine WpO.nil ?_ | refine WpO.cons rfl rfl (WpX.pure (fun _ => rfl) ⟨nolog, ?_⟩) | refine WpO.cons rfl rfl (op_load rfl rfl rfl hgx rfl ⟨(by simp [InL, Acc.name, rowName] <;> omega), ?_⟩))
  simp only [e3]
  repeat' (first | refine WpO.cons rfl rfl (WpX.pure (fun _ => rfl) ⟨nolog, ?_⟩) | refine WpO.cons rfl rfl (op_load rfl rfl rfl hgx rfl ⟨(by simp [InL, Acc.name, rowName] <;> omega), ?_⟩))
  simp only [e4]
  repeat' (first | refine WpO.nil ?_ | refine WpO.cons rfl rfl (WpX.pure (fun _ => rfl) ⟨nolog, ?_⟩) | refine seqQ_normal ?_)
  refine WpC.cond rfl (fun _ => ?_) (fun hb => by rw [show (w != 0) = true from e5] at hb; cases hb)
  have hvlt := hv.lt
  repeat' (first | refine WpC.region ?_ | refine WpO.cons rfl rfl (WpX.pure (fun _ => rfl) ⟨nolog, ?_⟩) | refine WpO.cons rfl rfl (op_buildSlice (k := 1) rfl rfl rfl rfl (by decide) rfl ⟨(by simp [InL, Acc.name, rowName] <;> omega), ?_⟩))
  have hv7 : ∀ {o q z : AObj}, ListOf (0 + 1) intV (MapI.set (MapI.set (MapI.set h4 c4 o) c4 q) (c4 + 1) z) (c4 + 1 + 1) v ((l.take i).flatMap (gone1 W)) := fun {o q z} => hv5.keep (by omega) fun n hn _ => MapI.get_ne _ _ _ _ (by omega)
  refine WpO.cons rfl rfl (append1 (y := IntKind.i64.wrap w) rfl rfl ⟨rfl, rfl, rfl, ⟨_, rfl, by decide⟩⟩ rfl int_len int_all hv7 (MapI.get_same _ _ _) (by omega) (by omega) (fun n h => .inr (by have := hvn n h; omega)) (by omega) fun v8 h8 c8 r8 hn8 hc8 hf8 => ?_)
  repeat' (first | refine WpC.region ?_ | refine WpO.nil ?_ | refine WpO.cons rfl rfl (WpX.pure (fun _ => rfl) ⟨nolog, ?_⟩) | refine seqQ_normal ?_)
  refine fin _ _ _ v8 (by rw [← wi]; exact ⟨rfl, rfl, rfl, rfl, rfl, trivial⟩) (by rw [hgn]; exact r8) (fun n hn => ?_) (by omega) fun n hn => ?_
  · rcases hn8 n hn with h | h
    · exact hvn n h
    · omega
  · rw [hf8 n (by omega) (fun hm => by have := hvn n hm; omega), MapI.get_ne _ _ _ _ (by omega)]; exact hf6 n hn

set_option maxHeartbeats 2000000 in
/-- End: each handle is dropped. -/
theorem hend_ok {vb vr : V} {st : St} (r : HeapAt h c hp a sp vW W size most) (ho : ObjsFrom W 0 l) (s : StoreAt h c sp vb vr st) (hap : ∀ n ∈ sp :: (rowName vb ++ rowName vr), n ∉ hn hp a vW) (hlen : st.rows.length ≤ 1000)
    (hen : ∀ g ∈ l.flatMap (gone1 W), ∃ i : Nat, g = ((i + 1 : Nat) : Int) ∧ ∃ q, st.rows[i]? = some q) (hcnt : ∀ i q, st.rows[i]? = some q → many (l.flatMap (gone1 W)) i < q.2.2 ∧ q.2.2 ≤ 1000000) (hgl : (l.flatMap (gone1 W)).length ≤ 1000000) :
    Does 12 [.ptr (some (hp, 0))] h c (hn hp a vW ++ sp :: (rowName vb ++ rowName vr)) fun v h' c' => ∃ rows', StoreAt h' c' sp vb vr { st with rows := rows' } ∧ Moved st.rows rows' fun j => - many (l.flatMap (gone1 W)) j := by
  have hlh := r.lh
  have hsep := r.sep
  have hmo := r.mo
  have hm0 := r.m0
  have hmx := r.mx
  have hsub1 : ∀ n ∈ [hp], n ∈ hn hp a vW ++ sp :: (rowName vb ++ rowName vr) ∨ c ≤ n := fun n hn => .inl (by simp at hn; rw [hn]; exact List.mem_append_left _ (List.mem_cons_self ..))
  have hsub2 : ∀ n ∈ hn hp a vW, n ∈ hn hp a vW ++ sp :: (rowName vb ++ rowName vr) ∨ c ≤ n := fun n hn => .inl (List.mem_append_left _ hn)
  have hspn : ∀ n ∈ sp :: (rowName vb ++ rowName vr), n < c := fun n hn => by
    rcases List.mem_cons.1 hn with h | h
    · rw [h]; exact s.lp
    · rcases List.mem_append.1 h with h | h
      · exact s.bytes.lt n h
      · exact s.rows.lt n h
  have hsv : ∀ n ∈ sp :: rowName vr, n ∈ sp :: (rowName vb ++ rowName vr) := fun n hn => by
    rcases List.mem_cons.1 hn with h | h
    · rw [h]; exact List.mem_cons_self ..
    · exact List.mem_cons_of_mem _ (List.mem_append_right _ h)
  have hhp : hp ∉ sp :: rowName vr := fun hh => hap hp (hsv hp hh) (List.mem_cons_self ..)
  refine does_of (enter (fn := Try.f12) Try.func12 rfl rfl (Nat.le_of_ble_eq_true rfl) ?_)
  repeat' (first | refine WpC.seq ?_ | refine WpC.region ?_ | refine WpO.cons rfl rfl (WpX.pure (fun _ => rfl) ⟨nolog, ?_⟩))
  refine WpO.cons rfl rfl (call_atD rfl (alive_ok r) hsub1 (Nat.le_refl _) fun v1 h1 c1 hc1 hfr1 hq => ?_)
  obtain ⟨rfl, rfl, rfl⟩ := hq
  repeat' (first | refine WpO.nil ?_ | refine WpO.cons rfl rfl (WpX.pure (fun _ => rfl) ⟨nolog, ?_⟩) | refine seqQ_normal ?_)
  refine WpC.cond rfl (fun hb => by cases hb) (fun _ => ?_)
  repeat' (first | refine WpC.seqI (a := Code.seq (Code.region 1 _ _) _) (fun e' h' c' => (∃ b0, e' = FR b0 [(0, V.ptr (some (hp, 0)))]) ∧ c ≤ c' ∧ HeapAt h' c' hp a sp vW W size most ∧ ∃ rows', StoreAt h' c' sp vb vr { st with rows := rows' } ∧ (Moved st.rows rows' fun j => - many (l.flatMap (gone1 W)) j)) ?_ ?_ | refine WpC.seq ?_ | refine WpC.region ?_ | refine WpC.skip ?_ | refine WpO.cons rfl rfl (WpX.pure (fun _ => rfl) ⟨nolog, ?_⟩))
  ·
    skip
    refine WpO.cons rfl rfl (call_at rfl (hands_ok r ho) hsub2 (Nat.le_refl _) fun v2 h2 c2 hc2 _ hq => ?_)
    obtain ⟨hG2, hGn, hf2⟩ := hq
    have r2 := r.same hc2 hf2
    have s2 := s.keep hc2 hf2
    generalize hgs : l.flatMap (gone1 W) = gs at *
    have hGlt := hG2.lt
    obtain ⟨sG, capG, rfl, hsG⟩ := hG2.shape
    have hobj2 := r2.obj
    repeat' (first | refine WpC.block ?_ | refine WpO.nil ?_ | refine WpO.cons rfl rfl (WpX.pure (fun _ => rfl) ⟨nolog, ?_⟩))
    refine WpC.loop ?_
    refine WpLoop.ind (X := Nat × List (Int × Int × Int)) (fun y e' h' c' => (∃ b0, e' = FR b0 [(0, V.ptr (some (hp, 0))), (8, .slice sG gs.length capG), (9, I gs.length), (10, I y.1)]) ∧ y.1 ≤ gs.length ∧ c' = c2 ∧ StoreAt h' c2 sp vb vr { st with rows := y.2 } ∧ (Moved st.rows y.2 fun j => - many (gs.take y.1) j) ∧ ∀ n, n < c2 → n ∉ sp :: rowName vr → MapI.get h' n = MapI.get h2 n)
      (fun y => gs.length - y.1) ?_ (0, st.rows) _ _ _ ⟨fr ⟨rfl, rfl, rfl, rfl, trivial⟩, Nat.zero_le _, rfl, s2, Moved.refl _ fun j => by simp [many], fun n _ _ => rfl⟩
    rintro ⟨i, rows⟩ e' h' c' ⟨⟨b0, rfl⟩, hi, rfl, hst, hmv, hfr⟩
    simp only at hi hst hmv
    have hobj' : MapI.get h' hp = _ := (hfr hp (by omega) hhp).trans hobj2
    repeat' (first | refine WpC.seq ?_ | refine WpC.region ?_ | refine WpO.nil ?_ | refine WpO.cons rfl rfl (WpX.pure (fun _ => rfl) ⟨nolog, ?_⟩))
    refine WpC.cond rfl (fun hlt => ?_) (fun hge => ?_)
    case refine_2 =>
      have hge : gs.length ≤ i := by simpa using hge
      rw [List.take_of_length_le hge] at hmv
      repeat' (first | refine WpC.exit ?_ | refine seqQ_normal ?_ | refine seqQ_exit ?_ | refine blkQ_out rfl ?_)
      refine ⟨fr ?_, hc2, r2.keep (Nat.le_refl _) fun n hn hm => hfr n hn fun hh => hap n (hsv n hh) hm, rows, hst, hmv⟩
      exact ⟨rfl, trivial⟩
    have hlt' : i < gs.length := by simpa using hlt
    obtain ⟨g, hgi⟩ : ∃ z, gs[i]? = some z := ⟨_, List.getElem?_eq_getElem hlt'⟩
    obtain ⟨k, rfl, q0, hq0⟩ := hen g (List.mem_of_getElem? hgi)
    obtain ⟨rfl, gn, cl, junk, rfl, hgn, hgg, _⟩ := hsG i hlt'
    have hgnc : c ≤ gn := hGn gn (by simp [rowName])
    have hgg' : MapI.get h' gn = _ := (hfr gn hgn (fun hh => by have := hspn gn (hsv gn hh); omega)).trans hgg
    have hz : nth (flat intV gs ++ junk) (0 + ((i : Nat) : Int).toNat * 1) = some (I ((k + 1 : Nat) : Int)) := by
      rw [show 0 + ((i : Nat) : Int).toNat * 1 = i from by simp]
      exact nth_flat0 int_len hgi rfl junk
    have hw3 : IntKind.i64.wrap ((i : Int) + 1) = ((i + 1 : Nat) : Int) := by rw [Go.IntWalk.i64_in _ (by omega)]; omega
    have htake : gs.take (i + 1) = gs.take i ++ [((k + 1 : Nat) : Int)] := by rw [List.take_add_one, hgi]; rfl
    have hm1 : ∀ j, many (gs.take (i + 1)) j = many (gs.take i) j + if j = k then 1 else 0 := fun j => by rw [htake, many_snoc]
    have hm2 : many (gs.take i) k + 1 ≤ many gs k := by
      have h1 := hm1 k
      rw [if_pos rfl] at h1
      have h2 : many (gs.take (i + 1)) k ≤ many gs k := many_take
      omega
    obtain ⟨hc1', hc2'⟩ := hcnt k q0 hq0
    have hrow := hmv.2 k q0 hq0
    repeat' (first | refine WpC.seq ?_ | refine WpC.region ?_ | refine WpC.skip ?_ | refine WpC.block ?_ | refine WpO.nil ?_ | refine WpO.cons rfl rfl (WpX.pure (fun _ => rfl) ⟨nolog, ?_⟩) | refine WpO.cons rfl rfl (op_indexAddr (k := 1) rfl rfl rfl rfl ⟨by omega, by omega⟩ ⟨(by simp [InL, Acc.name, rowName] <;> omega), ?_⟩) | refine WpO.cons rfl rfl (op_load rfl rfl rfl hgg' hz ⟨(by simp [InL, Acc.name, rowName] <;> omega), ?_⟩) | refine WpO.cons rfl rfl (op_load rfl rfl rfl hobj' rfl ⟨(by simp [InL, Acc.name, rowName] <;> omega), ?_⟩))
    refine WpO.cons rfl rfl (call_at rfl (drop_ok (hd := ((k + 1 : Nat) : Int)) hst (by show rows.length ≤ 1000; rw [hmv.1]; exact hlen)) (fun n hn => .inl (List.mem_append_right _ (hsv n hn))) (by omega) fun v4 h4 c4 hc4 hf4 hq => ?_)
    obtain ⟨rfl, hq⟩ := hq
    rcases hq with ⟨i', q, hk, hrow', hne, rfl, hs'⟩ | ⟨hno, _, _⟩
    case inr =>
      have := hno k _ (by push_cast; rfl) hrow
      simp only at this
      have hnn : (0 : Int) ≤ many (gs.take i) k := Int.natCast_nonneg _
      omega
    have hik : i' = k := by push_cast at hk; omega
    subst hik
    have hrow' : rows[i']? = some q := hrow'
    rw [hrow] at hrow'
    cases hrow'
    have w1 : IntKind.i64.wrap (q0.2.2 + - many (gs.take i) i' - 1) = q0.2.2 + - many (gs.take (i + 1)) i' := by
      have h1 := hm1 i'
      rw [if_pos rfl] at h1
      have hnn : (0 : Int) ≤ many (gs.take i) i' := Int.natCast_nonneg _
      rw [Go.IntWalk.i64_in _ (by omega)]; omega
    simp only [w1] at hs'
    rw [if_neg (by have h2 : many (gs.take (i + 1)) i' ≤ many gs i' := many_take; omega)] at hs'
    repeat' (first | refine WpC.region ?_ | refine WpO.nil ?_ | refine WpO.cons rfl rfl (WpX.pure (fun _ => rfl) ⟨nolog, ?_⟩) | refine seqQ_normal ?_)
    refine ⟨(i + 1, rows.set i' (q0.1, q0.2.1, q0.2.2 + - many (gs.take (i + 1)) i')), by simp only; omega, ?_, by simp only; omega, rfl, hs', hmv.one hq0 rfl fun j hj => by rw [hm1 j, if_neg hj, Int.add_zero], fun n hn hm => ?_⟩
    · rw [hw3]
      exact fr ⟨rfl, rfl, rfl, rfl, trivial⟩
    · rw [hf4 n (by omega) hm]; exact hfr n hn hm
  rintro e' h' c' ⟨⟨b0, rfl⟩, hc', rE, rows', hst, hmv⟩
  have hobjE := rE.obj
  have hsubA : ∀ n ∈ an a vW, n ∈ hn hp a vW ++ sp :: (rowName vb ++ rowName vr) ∨ c ≤ n := fun n hn => .inl (List.mem_append_left _ (List.mem_cons_of_mem _ hn))
  repeat' (first | refine WpC.seq ?_ | refine WpC.region ?_ | refine WpO.cons rfl rfl (WpX.pure (fun _ => rfl) ⟨nolog, ?_⟩) | refine WpO.cons rfl rfl (op_load rfl rfl rfl hobjE rfl ⟨(by simp [InL, Acc.name, rowName] <;> omega), ?_⟩))
  refine WpO.cons rfl rfl (call_at rfl (cut_ok rE.ar (m := 0) rfl (Nat.zero_le _) (Int.le_refl _) (by decide)) hsubA (by omega) fun v5 h5 c5 hc5 hf5 hq => ?_)
  obtain ⟨rfl, rfl, vW'', hA, hn5⟩ := hq
  have hobj5 : MapI.get h5 hp = _ := (hf5 hp rE.lh hsep).trans hobjE
  repeat' (first | refine WpC.region ?_ | refine WpO.nil ?_ | refine WpO.cons rfl rfl (WpX.pure (fun _ => rfl) ⟨nolog, ?_⟩) | refine WpO.cons rfl rfl (op_store (k := 1) rfl rfl rfl rfl hobj5 (Nat.le_of_ble_eq_true rfl) rfl ⟨(by simp [InL, Acc.name, rowName] <;> omega), ?_⟩))
  refine out_normal rfl ⟨rows', hst.keepN (Nat.le_refl _) fun n hn hm => ?_, hmv⟩
  have hne : hp ≠ n := fun e => hap n hm (by rw [← e]; exact List.mem_cons_self ..)
  rw [MapI.get_ne _ _ _ _ hne]
  exact hf5 n hn fun hh => hap n hm (List.mem_cons_of_mem _ hh)
end
end Go.Proofs.Ytcenbfjhhaialaa


set_option linter.unusedVariables false
set_option linter.unusedSectionVars false
set_option linter.unusedSimpArgs false
set_option linter.unnecessarySimpa false
namespace Go.Proofs.Ytcenbfjhhaialaa
open Go.Ab

section
variable {os : List Ob} {ps : List Nat}
theorem BagI.more (f : BagI os ps) {x : Ob} (hx : GoodO x) (hl : (bagW (os ++ [x])).length ≤ 1048576) : BagI (os ++ [x]) ps ∧ BagI (os ++ [x]) (ps ++ [(bagW os).length]) := by
  have hgood : ∀ y ∈ os ++ [x], GoodO y := fun y hy => by
    rcases List.mem_append.1 hy with h | h
    · exact f.good y h
    · rw [List.mem_singleton.1 h]; exact hx
  have hat : ∀ p ∈ ps, ∃ y, (p, y) ∈ bagP 0 (os ++ [x]) := fun p hp => by
    obtain ⟨y, hy⟩ := f.at' p hp
    exact ⟨y, by rw [bagP_app]; exact List.mem_append_left _ hy⟩
  refine ⟨⟨hgood, f.sorted, hat, hl⟩, ⟨hgood, ?_, fun p hp => ?_, hl⟩⟩
  · refine List.pairwise_append.2 ⟨f.sorted, List.pairwise_singleton .., fun p hp q hq => ?_⟩
    rw [List.mem_singleton.1 hq]
    obtain ⟨y, hy⟩ := f.at' p hp
    obtain ⟨B, C, e, hB, _⟩ := f.words hy
    rw [e]
    simp only [List.length_append, obW_len]
    omega
  · rcases List.mem_append.1 hp with h | h
    · exact hat p h
    · rw [List.mem_singleton.1 h]
      exact ⟨x, by rw [bagP_app]; simp [bagP]⟩
theorem BagI.start : BagI [] [] := ⟨fun x hx => (by cases hx), .nil, fun p hp => (by cases hp), Nat.zero_le _⟩
/-- The handles of all. -/
def handsO (os : List Ob) : List Int := os.flatMap handO
theorem handsO_app (s t : List Ob) : handsO (s ++ t) = handsO s ++ handsO t := by simp [handsO]
theorem BagI.hands (f : BagI os ps) : (bagL 0 os).flatMap (gone1 (bagW os)) = handsO os := by
  have f0 : BagI os [] := ⟨f.good, .nil, fun p hp => (by cases hp), f.len⟩
  have hno : ∀ p, ¬ Reach (bagW os) (bagL 0 os) (([] : List Nat).map ptrW) p := fun p h => by cases f0.reach.1 h
  have h := f0.gone
  have e1 : (bagL 0 os).filter (fun p : Nat × Hd => !@decide (Reach (bagW os) (bagL 0 os) (([] : List Nat).map ptrW) p.1) (Classical.propDecidable _)) = bagL 0 os := List.filter_eq_self.2 fun p _ => by
    rw [@decide_eq_false _ (Classical.propDecidable _) (hno p.1)]; rfl
  unfold goneOf at h
  rw [e1] at h
  rw [h]
  have e2 : goneO os [] = bagP 0 os := List.filter_eq_self.2 fun p _ => rfl
  rw [e2]
  have e3 := congrArg (List.flatMap handO) (bagP_snd os 0)
  rw [List.flatMap_map] at e3
  exact e3
theorem many_app {s t : List Int} {j : Nat} : many (s ++ t) j = many s j + many t j := by
  unfold many
  rw [List.count_append]; push_cast; rfl
theorem many_split (p : Nat × Ob → Bool) (j : Nat) : ∀ L : List (Nat × Ob), many (L.flatMap fun x => handO x.2) j = many ((L.filter p).flatMap fun x => handO x.2) j + many ((L.filter fun x => !p x).flatMap fun x => handO x.2) j
  | [] => rfl
  | x :: L => by
    have ih := many_split p j L
    rw [List.flatMap_cons, many_app, ih]
    cases h : p x with
    | true =>
      have h1 : (x :: L).filter p = x :: L.filter p := List.filter_cons_of_pos h
      have h2 : (x :: L).filter (fun x => !p x) = L.filter fun x => !p x := List.filter_cons_of_neg (by simp [h])
      rw [h1, h2, List.flatMap_cons, many_app]; omega
    | false =>
      have h1 : (x :: L).filter p = L.filter p := List.filter_cons_of_neg (by simp [h])
      have h2 : (x :: L).filter (fun x => !p x) = x :: L.filter fun x => !p x := List.filter_cons_of_pos (by simp [h])
      rw [h1, h2, List.flatMap_cons, many_app]; omega
/-- What was held is held by those that stay, or goes. -/
theorem hands_split (j : Nat) : many (handsO os) j = many (handsO ((keptO os ps).map Prod.snd)) j + many ((goneO os ps).flatMap fun p => handO p.2) j := by
  have h := many_split (fun p => ps.contains p.1) j (bagP 0 os)
  have e1 : ∀ L : List (Nat × Ob), handsO (L.map Prod.snd) = L.flatMap fun x => handO x.2 := fun L => by unfold handsO; rw [List.flatMap_map]
  rw [← bagP_snd os 0, e1, h, e1, bagP_snd]
  rfl

/-- A Bin as this law makes it. -/
abbrev binO (n : Nat) : Ob := (binH 3 1, [((n + 1 : Nat) : Int), 0, 2])
def Bins (os : List Ob) : Prop := ∀ o ∈ os, ∃ n, n < 5 ∧ o = binO n
theorem bin_okH : okH (binH 3 1) := ⟨by decide, by decide, by decide, by decide, by decide, by decide⟩
theorem bin_good {n : Nat} (h : n < 5) : GoodO (binO n) := ⟨bin_okH, rfl, .inl rfl⟩
theorem bin_hand {n : Nat} (h : n < 5) : handO (binO n) = [((n + 1 : Nat) : Int)] := by
  show (if (3 : Int) = 3 ∧ (0 : Int) < 3 ∧ ((n + 1 : Nat) : Int) ≠ 0 then [IntKind.i64.wrap ((n + 1 : Nat) : Int)] else []) = _
  rw [if_pos ⟨rfl, by decide, by omega⟩, Go.IntWalk.i64_in _ (by omega)]
theorem bins_hands : ∀ {os : List Ob}, Bins os → (handsO os).length = os.length ∧ (bagW os).length = 4 * os.length ∧ ∀ g ∈ handsO os, ∃ n : Nat, n < 5 ∧ g = ((n + 1 : Nat) : Int)
  | [], _ => ⟨rfl, rfl, fun g hg => by cases hg⟩
  | x :: os, h => by
    obtain ⟨n, hn, rfl⟩ := h x (List.mem_cons_self ..)
    obtain ⟨h1, h2, h3⟩ := bins_hands (os := os) fun o ho => h o (List.mem_cons_of_mem _ ho)
    have e : handsO (binO n :: os) = ((n + 1 : Nat) : Int) :: handsO os := by
      show handO (binO n) ++ handsO os = _
      rw [bin_hand hn]; rfl
    refine ⟨by rw [e, List.length_cons, List.length_cons, h1], ?_, fun g hg => ?_⟩
    · rw [bagW_cons, List.length_append, obW_len, h2]
      show 1 + 3 + 4 * os.length = 4 * (os.length + 1)
      omega
    · rw [e] at hg
      rcases List.mem_cons.1 hg with h | h
      · exact ⟨n, hn, h⟩
      · exact h3 g h
theorem bins_more {n : Nat} (h : Bins os) (hn : n < 5) : Bins (os ++ [binO n]) := fun o ho => by
  rcases List.mem_append.1 ho with h' | h'
  · exact h o h'
  · exact ⟨n, hn, List.mem_singleton.1 h'⟩
theorem kept_bins (h : Bins os) : Bins ((keptO os ps).map Prod.snd) := fun o ho => by
  obtain ⟨⟨p, o'⟩, hp, rfl⟩ := List.mem_map.1 ho
  refine h o' ?_
  have : o' ∈ (bagP 0 os).map Prod.snd := List.mem_map.2 ⟨_, (List.mem_filter.1 hp).1, rfl⟩
  rwa [bagP_snd] at this
theorem gone_in (h : Bins os) : ∀ g ∈ (goneO os ps).flatMap (fun p => handO p.2), ∃ n : Nat, n < 5 ∧ g = ((n + 1 : Nat) : Int) := fun g hg => by
  obtain ⟨⟨p, o⟩, hp, hg⟩ := List.mem_flatMap.1 hg
  have ho : o ∈ (bagP 0 os).map Prod.snd := List.mem_map.2 ⟨_, (List.mem_filter.1 hp).1, rfl⟩
  rw [bagP_snd] at ho
  exact (bins_hands h).2.2 g (List.mem_flatMap.2 ⟨o, ho, hg⟩)
theorem gone_le (h : Bins os) : ((goneO os ps).flatMap fun p => handO p.2).length ≤ os.length := by
  have h1 : ∀ L : List (Nat × Ob), (∀ x ∈ L, ∃ n, n < 5 ∧ x.2 = binO n) → (L.flatMap fun p => handO p.2).length = L.length := by
    intro L
    induction L with
    | nil => intro _; rfl
    | cons x L ih =>
      intro h
      obtain ⟨n, hn, e⟩ := h x (List.mem_cons_self ..)
      rw [List.flatMap_cons, List.length_append, ih fun y hy => h y (List.mem_cons_of_mem _ hy), e, bin_hand hn, List.length_cons]
      show 1 + L.length = L.length + 1
      omega
  rw [h1 _ fun x hx => ?_]
  · have h2 : (goneO os ps).length ≤ (bagP 0 os).length := List.length_filter_le _ _
    have h3 := congrArg List.length (bagP_snd os 0)
    rw [List.length_map] at h3
    omega
  · have : x.2 ∈ (bagP 0 os).map Prod.snd := List.mem_map.2 ⟨x, (List.mem_filter.1 hx).1, rfl⟩
    rw [bagP_snd] at this
    exact h _ this
theorem many_nonneg (gs : List Int) (j : Nat) : 0 ≤ many gs j := Int.natCast_nonneg _
theorem many_le (gs : List Int) (j : Nat) : many gs j ≤ gs.length := by
  unfold many
  have := List.count_le_length (a := (((j + 1 : Nat) : Int))) (l := gs)
  omega

def sumTo (f : Nat → Int) : Nat → Int
  | 0 => 0
  | n + 1 => sumTo f n + f n
theorem sum_many : ∀ {gs : List Int}, (∀ g ∈ gs, ∃ n : Nat, n < 5 ∧ g = ((n + 1 : Nat) : Int)) → sumTo (many gs) 5 = gs.length
  | [], _ => rfl
  | g :: gs, h => by
    obtain ⟨n, hn, rfl⟩ := h g (List.mem_cons_self ..)
    have ih := sum_many (gs := gs) fun g hg => h g (List.mem_cons_of_mem _ hg)
    have e : ∀ j, many (((n + 1 : Nat) : Int) :: gs) j = many gs j + if j = n then 1 else 0 := fun j => by
      have h1 : many (((n + 1 : Nat) : Int) :: gs) j = many ([((n + 1 : Nat) : Int)] ++ gs) j := rfl
      have h2 := many_snoc (gs := []) (i := n) (j := j)
      rw [h1, many_app]
      rw [List.nil_append] at h2
      rw [h2]
      have h3 : many [] j = 0 := rfl
      omega
    have hs : sumTo (many (((n + 1 : Nat) : Int) :: gs)) 5 = sumTo (many gs) 5 + 1 := by
      simp only [sumTo, e]
      rcases (show n = 0 ∨ n = 1 ∨ n = 2 ∨ n = 3 ∨ n = 4 from by omega) with rfl | rfl | rfl | rfl | rfl <;> simp <;> omega
    rw [hs, ih, List.length_cons]; push_cast; rfl
theorem sum_congr {f g : Nat → Int} : ∀ {n : Nat}, (∀ j, j < n → f j = g j) → sumTo f n = sumTo g n
  | 0, _ => rfl
  | n + 1, h => by simp only [sumTo]; rw [sum_congr fun j hj => h j (by omega), h n (by omega)]
theorem kept_len (f : BagI os ps) : ((keptO os ps).map Prod.snd).length = ps.length := by
  have h := congrArg List.length f.kept
  rw [List.length_map] at h ⊢
  exact h
theorem moved_zero {rows rows' : List (Int × Int × Int)} {d : Nat → Int} (m : Moved rows rows' d) (h : ∀ j, j < rows.length → d j = 0) : rows' = rows := by
  refine List.ext_getElem? fun j => ?_
  by_cases hj : j < rows.length
  · obtain ⟨q, hq⟩ : ∃ q, rows[j]? = some q := ⟨_, List.getElem?_eq_getElem hj⟩
    rw [m.2 j q hq, hq, h j hj, Int.add_zero]
  · rw [List.getElem?_eq_none (by rw [m.1]; omega), List.getElem?_eq_none (by omega)]
theorem Moved.trans {r1 r2 r3 : List (Int × Int × Int)} {d e k : Nat → Int} (a : Moved r1 r2 d) (b : Moved r2 r3 e) (hk : ∀ j, j < r1.length → k j = d j + e j) : Moved r1 r3 k := by
  refine ⟨by rw [b.1, a.1], fun j q hq => ?_⟩
  have hj := (List.getElem?_eq_some_iff.1 hq).1
  rw [b.2 j _ (a.2 j q hq), hk j hj, Int.add_assoc]
end
end Go.Proofs.Ytcenbfjhhaialaa


set_option linter.unusedVariables false
set_option linter.unusedSectionVars false
set_option linter.unusedSimpArgs false
set_option linter.unnecessarySimpa false
namespace Go.Proofs.Ytcenbfjhhaialaa
open Go.Ab
set_option maxRecDepth 10000

section
variable {h h' : HH} {c c' hp a sp : Nat} {vW vR vX vb vr : V} {W R X : List Int} {size most : Int} {l : List (Nat × Hd)} {st : St} {os : List Ob} {ps : List Nat}
set_option maxHeartbeats 1000000 in
theorem hmake_bin_no {n t : Int} {bi : Nat} {q : Int × Int × Int} (r : HeapAt h c hp a sp vW W size most) (s : StoreAt h c sp vb vr st) (hlen : st.rows.length ≤ 1000) (hqb : st.rows[bi]? = some q) (hqc : 0 < q.2.2) (rx : RowOf 1 wordV h c vX X) (hX : (X.length : Int) = n) (hX0 : X[0]? = some ((bi + 1 : Nat) : Int)) (hx : okH (binH n t)) (hle : size < (W.length : Int) + 1 + n) : Does 8 [.ptr (some (hp, 0)), .agg (hdV (binH n t)), vX] h c (hn hp a vW ++ rowName vX ++ sp :: (rowName vb ++ rowName vr)) fun v h' c' => v = .tuple [U 0, .bool false] ∧ ∀ m, m < c → MapI.get h' m = MapI.get h m := by
  have hobj := r.obj
  have hlh := r.lh
  have hsub1 : ∀ m ∈ [hp], m ∈ hn hp a vW ++ rowName vX ++ sp :: (rowName vb ++ rowName vr) ∨ c ≤ m := fun m hm => .inl (by simp at hm; rw [hm]; exact List.mem_append_left _ (List.mem_append_left _ (List.mem_cons_self ..)))
  have hsub2 : ∀ m ∈ an a vW, m ∈ hn hp a vW ++ rowName vX ++ sp :: (rowName vb ++ rowName vr) ∨ c ≤ m := fun m hm => .inl (List.mem_append_left _ (List.mem_append_left _ (List.mem_cons_of_mem _ hm)))
  have hsub3 : ∀ m ∈ rowName vX, m ∈ hn hp a vW ++ rowName vX ++ sp :: (rowName vb ++ rowName vr) ∨ c ≤ m := fun m hm => .inl (List.mem_append_left _ (List.mem_append_right _ hm))
  have hsub4 : ∀ m ∈ sp :: rowName vr, m ∈ hn hp a vW ++ rowName vX ++ sp :: (rowName vb ++ rowName vr) ∨ c ≤ m := fun m hm => .inl (List.mem_append_right _ (by
    rcases List.mem_cons.1 hm with h | h
    · rw [h]; exact List.mem_cons_self ..
    · exact List.mem_cons_of_mem _ (List.mem_append_right _ h)))
  have hbl : bi < 1000 := by have := (List.getElem?_eq_some_iff.1 hqb).1; omega
  have e0 : ((((bi + 1 : Nat) : Int)) != 0) = true := by rw [bne_iff_ne]; omega
  obtain ⟨b, cap, rfl, hshape⟩ := rx.shape
  have hlt := rx.lt
  subst hX
  have r1 : ∀ o, HeapAt (MapI.set h c o) (c + 1) hp a sp vW W size most := fun o => r.same (by omega) fun m hm => MapI.get_ne _ _ _ _ (by omega)
  refine does_of (enter (fn := Try.f8) Try.func8 rfl rfl (Nat.le_of_ble_eq_true rfl) ?_)
  repeat' (first | refine WpC.seq ?_ | refine WpC.region ?_ | refine WpO.nil ?_ | refine WpO.cons rfl rfl (WpX.pure (fun _ => rfl) ⟨nolog, ?_⟩) | refine WpO.cons rfl rfl (op_box rfl ⟨(by simp [InL, Acc.name, rowName] <;> omega), ?_⟩))
  refine WpO.cons rfl rfl (call_atD rfl (alive_ok (r1 _)) hsub1 (by omega) fun v4 h4 c4 hc4 hfr4 hq => ?_)
  obtain ⟨rfl, rfl, rfl⟩ := hq
  repeat' (first | refine WpO.nil ?_ | refine WpO.cons rfl rfl (WpX.pure (fun _ => rfl) ⟨nolog, ?_⟩) | refine seqQ_normal ?_ | refine WpO.cons rfl rfl (op_load rfl rfl rfl (MapI.get_same _ _ _) rfl ⟨(by simp [InL, Acc.name, rowName] <;> omega), ?_⟩))
  refine WpC.cond rfl (fun hb => absurd hb (by simp)) (fun _ => ?_)
  repeat' (first | refine WpC.seq ?_ | refine WpC.region ?_ | refine WpC.skip ?_ | refine WpO.cons rfl rfl (WpX.pure (fun _ => rfl) ⟨nolog, ?_⟩) | refine WpO.cons rfl rfl (op_loadA rfl rfl rfl rfl (MapI.get_same _ _ _) rfl ⟨(by simp [InL, Acc.name, rowName] <;> omega), ?_⟩))
  refine WpO.cons rfl rfl (call_at rfl (handle_bin (n := (X.length : Int)) (t := t) (rx.keep (by omega) fun m hm _ => MapI.get_ne _ _ _ _ (by omega)) hX0 (by omega)) hsub3 (by omega) fun v5 h5 c5 hc5 _ hq => ?_)
  obtain ⟨rfl, hf5⟩ := hq
  have r5 := (r1 (.cells true true (hdV (binH X.length t)))).same hc5 hf5
  have hobj5 := r5.obj
  have hg5 : MapI.get h5 c = some (.cells true true (hdV (binH X.length t))) := by rw [hf5 c (by omega)]; exact MapI.get_same _ _ _
  have s5 : StoreAt h5 c5 sp vb vr st := s.keepN (by omega) fun n hn _ => by rw [hf5 n (by omega)]; exact MapI.get_ne _ _ _ _ (by omega)
  repeat' (first | refine WpC.seq ?_ | refine WpC.region ?_ | refine WpO.nil ?_ | refine WpO.cons rfl rfl (WpX.pure (fun _ => rfl) ⟨nolog, ?_⟩))
  simp only [e0]
  repeat' (first | refine WpO.cons rfl rfl (WpX.pure (fun _ => rfl) ⟨nolog, ?_⟩) | refine WpO.cons rfl rfl (op_load rfl rfl rfl hobj5 rfl ⟨(by simp [InL, Acc.name, rowName] <;> omega), ?_⟩))
  refine WpO.cons rfl rfl (call_at rfl (count_ok (hd := ((bi + 1 : Nat) : Int)) s5 hlen) hsub4 (by omega) fun v9 h9 c9 hc9 _ hq => ?_)
  obtain ⟨rfl, rfl, hq⟩ := hq
  rcases hq with ⟨i9, q9, hi9, hq9, rfl⟩ | ⟨hno, _⟩
  case inr => have := hno bi q (by push_cast; rfl) hqb; omega
  have hib : i9 = bi := by push_cast at hi9; omega
  subst hib
  rw [hqb] at hq9
  cases hq9
  repeat' (first | refine WpO.nil ?_ | refine WpO.cons rfl rfl (WpX.pure (fun _ => rfl) ⟨nolog, ?_⟩) | refine seqQ_normal ?_)
  refine WpC.cond rfl (fun hb => absurd hb (by simp; omega)) (fun _ => ?_)
  repeat' (first | refine WpC.seq ?_ | refine WpC.drawn ?_ | refine WpC.skip ?_ | refine WpL.cons rfl rfl (WpX.pure (fun _ => rfl) ⟨nolog, ?_⟩) | refine WpL.cons rfl rfl (op_load rfl rfl rfl hobj5 rfl ⟨(by simp [InL, Acc.name, rowName] <;> omega), ?_⟩) | refine WpL.cons rfl rfl (op_loadA rfl rfl rfl rfl hg5 rfl ⟨(by simp [InL, Acc.name, rowName] <;> omega), ?_⟩))
  refine WpL.cons rfl rfl (call_atL rfl (fresh_no r5.ar hx (by simp only; omega)) hsub2 (by omega) fun v6 h6 c6 al6 hal6 hc6 _ hq => ?_)
  obtain ⟨rfl, hf6⟩ := hq
  repeat' (first | refine WpL.cons rfl rfl (WpX.pure (fun _ => rfl) ⟨nolog, ?_⟩))
  refine WpL.nil (logsOk_of (cs := [0, 1, 3, 7, 0, 31, 63, 127, 127, 255, 1023]) (by decide +kernel) ?_) ?_
  · simp +contextual [allP, apP, Dis, acc_rd, acc_wr, accw_rd, accw_wr, Nat.testBit]
  repeat' (first | refine WpC.seq ?_ | refine WpC.region ?_ | refine WpO.nil ?_ | refine WpO.cons rfl rfl (WpX.pure (fun _ => rfl) ⟨nolog, ?_⟩) | refine seqQ_normal ?_)
  refine WpC.cond rfl (fun _ => ?_) (fun hb => by cases hb)
  repeat' (first | refine WpC.seq ?_ | refine WpC.region ?_ | refine WpC.ret ?_ | refine WpO.nil ?_ | refine WpO.cons rfl rfl (WpX.pure (fun _ => rfl) ⟨nolog, ?_⟩) | refine seqQ_ret ?_)
  refine out_ret rfl ⟨rfl, fun m hm => ?_⟩
  rw [hf6 m (by omega), hf5 m (by omega)]; exact MapI.get_ne _ _ _ _ (by omega)

set_option maxHeartbeats 1000000 in
/-- Collect, where handles go. -/
theorem hCollect_gone (r : HM h c hp a sp vW vR W R size most) (so : SoundW W R l) (s : StoreAt h c sp vb vr st) (hap : ∀ n ∈ sp :: (rowName vb ++ rowName vr), n ∉ hmn hp a vW vR) (hlen : st.rows.length ≤ 1000)
    (hen : ∀ g ∈ goneOf W R l l, ∃ i : Nat, g = ((i + 1 : Nat) : Int) ∧ ∃ q, st.rows[i]? = some q) (hcnt : ∀ i q, st.rows[i]? = some q → many (goneOf W R l l) i < q.2.2 ∧ q.2.2 ≤ 1000000) (hgl : (goneOf W R l l).length ≤ 1000000) :
    Does 10 [.ptr (some (hp, 0)), vR] h c (hmn hp a vW vR ++ sp :: (rowName vb ++ rowName vr)) fun v h' c' => ∃ vW' rows', HM h' c' hp a sp vW' vR (slidW W R l (liveOf W l R)) (R.map (mvW W R l)) (roomZ most (slidW W R l (liveOf W l R)).length) most ∧ (∀ n ∈ rowName vW', n ∈ rowName vW) ∧ StoreAt h' c' sp vb vr { st with rows := rows' } ∧ Moved st.rows rows' fun j => - many (goneOf W R l l) j := by
  have hsub1 : ∀ n ∈ [hp], n ∈ hmn hp a vW vR ++ sp :: (rowName vb ++ rowName vr) ∨ c ≤ n := fun n hn => .inl (by simp at hn; rw [hn]; exact List.mem_append_left _ (List.mem_append_left _ (List.mem_cons_self ..)))
  refine does_of (enter (fn := Try.f10) Try.func10 rfl rfl (Nat.le_of_ble_eq_true rfl) ?_)
  repeat' (first | refine WpC.seq ?_ | refine WpC.region ?_ | refine WpO.cons rfl rfl (WpX.pure (fun _ => rfl) ⟨nolog, ?_⟩))
  refine WpO.cons rfl rfl (call_atD rfl (alive_ok r.hm) hsub1 (Nat.le_refl _) fun v4 h4 c4 hc4 hfr4 hq => ?_)
  obtain ⟨rfl, rfl, rfl⟩ := hq
  repeat' (first | refine WpO.nil ?_ | refine seqQ_normal ?_)
  refine WpC.cond rfl (fun _ => ?_) (fun hb => by cases hb)
  repeat' (first | refine WpC.region ?_ | refine WpO.cons rfl rfl (WpX.pure (fun _ => rfl) ⟨nolog, ?_⟩))
  refine WpO.cons rfl rfl (call_at rfl (collect_gone r so s hap hlen hen hcnt hgl) (fun n hn => .inl hn) (Nat.le_refl _) fun v5 h5 c5 hc5 hfr5 hq => ?_)
  obtain ⟨rfl, hq⟩ := hq
  repeat' (first | refine WpO.nil ?_)
  exact out_normal rfl hq

/-- A heap of objects that point at nothing, its roots in a list, its store. -/
structure BagH (h : HH) (c hp a sp : Nat) (vW vR vb vr : V) (st : St) (os : List Ob) (ps : List Nat) (size most : Int) : Prop where
  hm : HM h c hp a sp vW vR (bagW os) (ps.map ptrW) size most
  f : BagI os ps
  ly : Listy 1 vR (ps.map ptrW)
  st : StoreAt h c sp vb vr st
  ap : ∀ n ∈ sp :: (rowName vb ++ rowName vr), n ∉ hmn hp a vW vR
theorem BagH.same (r : BagH h c hp a sp vW vR vb vr st os ps size most) (hc : c ≤ c') (e : ∀ n, n < c → MapI.get h' n = MapI.get h n) : BagH h' c' hp a sp vW vR vb vr st os ps size most := ⟨r.hm.same hc e, r.f, r.ly, r.st.keep hc e, r.ap⟩
theorem BagH.snames (r : BagH h c hp a sp vW vR vb vr st os ps size most) : ∀ n ∈ sp :: (rowName vb ++ rowName vr), n < c := fun n hn => by
  rcases List.mem_cons.1 hn with h | h
  · rw [h]; exact r.st.lp
  · rcases List.mem_append.1 h with h | h
    · exact r.st.bytes.lt n h
    · exact r.st.rows.lt n h

/-- A Bin is made: it holds its handle. -/
theorem make_bag {n : Nat} {q : Int × Int × Int} (r : BagH h c hp a sp vW vR vb vr st os ps size most) (hn5 : n < 5) (hlen : st.rows.length ≤ 1000) (hq : st.rows[n]? = some q) (hqc : 0 < q.2.2 ∧ q.2.2 ≤ 1000000) (rx : RowOf 1 wordV h c vX [((n + 1 : Nat) : Int), 0, 2]) (hXW : ∀ m ∈ rowName vX, m ∉ hn hp a vW) (hXs : ∀ m ∈ sp :: (rowName vb ++ rowName vr), m ∉ rowName vX) (hle : ((bagW os).length : Int) + 4 ≤ size) :
    Does 8 [.ptr (some (hp, 0)), .agg (hdV (binH 3 1)), vX] h c (hn hp a vW ++ rowName vX ++ sp :: (rowName vb ++ rowName vr)) fun v h' c' => v = .tuple [U (ptrW (bagW os).length), .bool true] ∧ ∃ vW', BagH h' c' hp a sp vW' vR vb vr { st with rows := st.rows.set n (q.1, q.2.1, q.2.2 + 1) } (os ++ [binO n]) ps size most ∧ BagI (os ++ [binO n]) (ps ++ [(bagW os).length]) ∧ (∀ m ∈ rowName vW', m ∈ rowName vW ∨ c ≤ m) ∧ ∀ m, m < c → m ∉ an a vW → m ∉ sp :: rowName vr → MapI.get h' m = MapI.get h m := by
  have hmo := r.hm.hm.mo
  have hmx := r.hm.hm.mx
  have hsn := r.snames
  have hsub : ∀ n ∈ an a vW, n ∈ hn hp a vW := fun n hn => List.mem_cons_of_mem _ hn
  have hw : IntKind.i64.wrap (q.2.2 + 1) = q.2.2 + 1 := Go.IntWalk.i64_in _ (by omega)
  have hsv : ∀ n ∈ sp :: rowName vr, n ∈ sp :: (rowName vb ++ rowName vr) := fun n hn => by
    rcases List.mem_cons.1 hn with h | h
    · rw [h]; exact List.mem_cons_self ..
    · exact List.mem_cons_of_mem _ (List.mem_append_right _ h)
  refine WpX.mono (hmake_bin (n := 3) (t := 1) r.hm.hm r.st (fun m hm => ⟨fun hh => r.ap m hm (List.mem_append_left _ hh), hXs m hm⟩) hlen hq hqc rx rfl rfl (bin_good hn5).hd hXW (fun w hw => ?_) (by omega)) fun v h' c' l ⟨a1, a2, a3, hv, vW', hh, hnm, hs', hf⟩ => ⟨a1, a2, a3, hv, vW', ?_⟩
  · simp only [List.mem_cons, List.not_mem_nil, or_false] at hw
    rcases hw with rfl | rfl | rfl
    · exact ⟨by omega, by omega⟩
    · exact ⟨by decide, by decide⟩
    · exact ⟨by decide, by decide⟩
  rw [hw] at hs'
  have e : bagW os ++ makeW (binH 3 1) :: [((n + 1 : Nat) : Int), 0, 2] = bagW (os ++ [binO n]) := by
    rw [bagW_app, bagW_one]; rfl
  rw [e] at hh
  have hl : (bagW (os ++ [binO n])).length ≤ 1048576 := by
    have := hh.ar.le
    have := hh.mo
    omega
  obtain ⟨f1, f2⟩ := r.f.more (bin_good hn5) hl
  have hin : ∀ m, m < c → m ∈ hn hp a vW' → m ∈ hn hp a vW := fun m hm1 hm2 => by
    rcases List.mem_cons.1 hm2 with h | h
    · rw [h]; exact List.mem_cons_self ..
    · rcases List.mem_cons.1 h with h | h
      · rw [h]; exact hsub _ (List.mem_cons_self ..)
      · rcases hnm m h with h | h
        · exact hsub _ (List.mem_cons_of_mem _ h)
        · omega
  refine ⟨⟨⟨hh, r.hm.rr.keep a2 fun m hm1 hm2 => hf m hm1 (fun h => r.hm.sep m hm2 (hsub m h)) fun h => r.ap m (hsv m h) (List.mem_append_right _ hm2), fun m hm1 hm2 => r.hm.sep m hm1 (hin m (r.hm.rr.lt m hm1) hm2), r.hm.ok, r.hm.len⟩, f1, r.ly, hs', fun m hm1 hm2 => ?_⟩, f2, hnm, hf⟩
  refine r.ap m hm1 ?_
  rcases List.mem_append.1 hm2 with h | h
  · exact List.mem_append_left _ (hin m (hsn m hm1) h)
  · exact List.mem_append_right _ h
/-- It is a root too. -/
theorem BagH.push {q : Nat} {vR' : V} (r : BagH h c hp a sp vW vR vb vr st os ps size most) (f : BagI os (ps ++ [q])) (lv : ListOf 1 wordV h' c' vR' (ps.map ptrW ++ [ptrW q])) (hn : ∀ n ∈ rowName vR', n ∈ rowName vR ∨ c ≤ n) (hc : c ≤ c') (hf : ∀ a, a ≠ c → a ∉ rowName vR → MapI.get h' a = MapI.get h a) (hl : ps.length < 1000) :
    BagH h' c' hp a sp vW vR' vb vr st os (ps ++ [q]) size most := by
  have e : (ps ++ [q]).map ptrW = ps.map ptrW ++ [ptrW q] := by rw [List.map_append]; rfl
  have hnm := r.hm.names
  have hsn := r.snames
  have hs : ∀ n ∈ sp :: (rowName vb ++ rowName vr), n ∉ rowName vR := fun n hn hh => r.ap n hn (List.mem_append_right _ hh)
  refine ⟨⟨r.hm.hm.keep hc fun n hlt hmem => hf n (by omega) fun hh => r.hm.sep n hh hmem, by rw [e]; exact lv.row, fun n hh hm => ?_, fun w hw => ?_, by rw [List.length_map, List.length_append]; simp; omega⟩, f, by rw [e]; exact lv.listy (by simp), r.st.keepN hc fun n hlt hm => hf n (by omega) (hs n hm), fun n hm hh => ?_⟩
  · rcases hn n hh with h | h
    · exact r.hm.sep n h hm
    · have := hnm n (List.mem_append_left _ hm); omega
  · obtain ⟨p, _, rfl⟩ := List.mem_map.1 hw
    exact ofW_ok ⟨by decide, by decide⟩
  · rcases List.mem_append.1 hh with h | h
    · exact r.ap n hm (List.mem_append_left _ h)
    · rcases hn n h with h | h
      · exact r.ap n hm (List.mem_append_right _ h)
      · have := hsn n hm; omega
/-- The rows of a store that was granted five handles, with what a heap of such objects holds. -/
structure Held (rows0 rows : List (Int × Int × Int)) (os : List Ob) : Prop where
  five : rows0.length = 5
  one : ∀ (j : Nat) (q : Int × Int × Int), rows0[j]? = some q → q.2.2 = 1
  moved : Moved rows0 rows (many (handsO os))
theorem Held.row {rows0 rows : List (Int × Int × Int)} (r : Held rows0 rows os) {j : Nat} (hj : j < 5) : ∃ q, rows[j]? = some q ∧ q.2.2 = 1 + many (handsO os) j := by
  obtain ⟨q, hq⟩ : ∃ q, rows0[j]? = some q := ⟨_, List.getElem?_eq_getElem (by rw [r.five]; exact hj)⟩
  exact ⟨_, r.moved.2 j q hq, by show q.2.2 + _ = _; rw [r.one j q hq]⟩
theorem Held.cnt {rows0 rows : List (Int × Int × Int)} (r : Held rows0 rows os) {j : Nat} {q : Int × Int × Int} (hq : rows[j]? = some q) : j < 5 ∧ q.2.2 = 1 + many (handsO os) j := by
  have hj := (List.getElem?_eq_some_iff.1 hq).1
  rw [r.moved.1, r.five] at hj
  obtain ⟨q', hq', e⟩ := r.row hj
  rw [hq] at hq'
  cases hq'
  exact ⟨hj, e⟩
theorem Held.more {rows0 rows : List (Int × Int × Int)} {n : Nat} {q : Int × Int × Int} (r : Held rows0 rows os) (hn : n < 5) (hq : rows[n]? = some q) : Held rows0 (rows.set n (q.1, q.2.1, q.2.2 + 1)) (os ++ [binO n]) := by
  have hm : ∀ j, many (handsO (os ++ [binO n])) j = many (handsO os) j + if j = n then 1 else 0 := fun j => by
    rw [handsO_app]
    have e : handsO [binO n] = [((n + 1 : Nat) : Int)] := by
      show handO (binO n) ++ [] = _
      rw [bin_hand hn]; rfl
    rw [e, many_snoc]
  obtain ⟨q0, hq0⟩ : ∃ q, rows0[n]? = some q := ⟨_, List.getElem?_eq_getElem (by rw [r.five]; exact hn)⟩
  have h1 := r.moved.2 n q0 hq0
  rw [hq] at h1
  cases h1
  have hm1 : Moved rows0 (rows.set n (q0.1, q0.2.1, q0.2.2 + many (handsO os) n + 1)) (many (handsO (os ++ [binO n]))) := r.moved.one hq0 (by rw [hm n, if_pos rfl]; omega) fun j hj => by rw [hm j, if_neg hj, Int.add_zero]
  exact ⟨r.five, r.one, hm1⟩

/-- Collect: those that stay. -/
theorem collect_bag {rows0 : List (Int × Int × Int)} (r : BagH h c hp a sp vW vR vb vr st os ps size most) (hb : Bins os) (hos : os.length ≤ 1000) (hd : Held rows0 st.rows os) :
    Does 10 [.ptr (some (hp, 0)), vR] h c (hmn hp a vW vR ++ sp :: (rowName vb ++ rowName vr)) fun v h' c' => ∃ vW' rows' os' ps' size', BagH h' c' hp a sp vW' vR vb vr { st with rows := rows' } os' ps' size' most ∧ (∀ n ∈ rowName vW', n ∈ rowName vW) ∧ Bins os' ∧ os'.length = ps.length ∧ ps'.length = ps.length ∧ Held rows0 rows' os' := by
  have hbh := bins_hands hb
  have hlen : st.rows.length = 5 := by rw [hd.moved.1, hd.five]
  have hg := r.f.gone
  have hgl := gone_le (ps := ps) hb
  have hsp := hands_split (os := os) (ps := ps)
  refine WpX.mono (hCollect_gone r.hm r.f.sound r.st r.ap (by omega) (fun g hgm => ?_) (fun i q hq => ?_) (by rw [hg]; omega)) fun v h' c' l ⟨a1, a2, a3, vW', rows', hm, hnm, hs', hmv⟩ => ⟨a1, a2, a3, ?_⟩
  · rw [hg] at hgm
    obtain ⟨n, hn, rfl⟩ := gone_in hb g hgm
    obtain ⟨q, hq, _⟩ := hd.row hn
    exact ⟨n, rfl, q, hq⟩
  · rw [hg]
    obtain ⟨hj, e⟩ := hd.cnt hq
    have h1 := hsp i
    have h2 := many_nonneg (handsO ((keptO os ps).map Prod.snd)) i
    have h3 := many_le (handsO os) i
    omega
  obtain ⟨f', h3, h4⟩ := r.f.slide
  rw [h3, h4] at hm
  rw [hg] at hmv
  have hl := kept_len r.f
  have hl2 : ((bagP 0 ((keptO os ps).map Prod.snd)).map Prod.fst).length = ps.length := by
    have h5 := congrArg List.length (bagP_snd ((keptO os ps).map Prod.snd) 0)
    rw [List.length_map] at h5 ⊢
    omega
  refine ⟨vW', rows', _, _, _, ⟨hm, f', listy_map r.ly (by rw [List.length_map, List.length_map, hl2]), hs', fun n hn hh => r.ap n hn ?_⟩, hnm, kept_bins hb, hl, hl2, ⟨hd.five, hd.one, hd.moved.trans hmv fun j _ => by have := hsp j; omega⟩⟩
  rcases List.mem_append.1 hh with h | h
  · refine List.mem_append_left _ ?_
    rcases List.mem_cons.1 h with h | h
    · rw [h]; exact List.mem_cons_self ..
    · rcases List.mem_cons.1 h with h | h
      · rw [h]; exact List.mem_cons_of_mem _ (List.mem_cons_self ..)
      · exact List.mem_cons_of_mem _ (List.mem_cons_of_mem _ (hnm n h))
  · exact List.mem_append_right _ h

/-- End: all as ahead of the first. -/
theorem end_bag {rows0 : List (Int × Int × Int)} (r : BagH h c hp a sp vW vR vb vr st os ps size most) (hb : Bins os) (hos : os.length ≤ 1000) (hd : Held rows0 st.rows os) :
    Does 12 [.ptr (some (hp, 0))] h c (hn hp a vW ++ sp :: (rowName vb ++ rowName vr)) fun v h' c' => StoreAt h' c' sp vb vr { st with rows := rows0 } := by
  have hbh := bins_hands hb
  have hlen : st.rows.length = 5 := by rw [hd.moved.1, hd.five]
  have hg := r.f.hands
  refine WpX.mono (hend_ok (l := bagL 0 os) r.hm.hm r.f.objs r.st (fun n hn hh => r.ap n hn (List.mem_append_left _ hh)) (by omega) (fun g hgm => ?_) (fun i q hq => ?_) (by rw [hg]; omega)) fun v h' c' l ⟨a1, a2, a3, rows', hs', hmv⟩ => ⟨a1, a2, a3, ?_⟩
  · rw [hg] at hgm
    obtain ⟨n, hn, rfl⟩ := hbh.2.2 g hgm
    obtain ⟨q, hq, _⟩ := hd.row hn
    exact ⟨n, rfl, q, hq⟩
  · rw [hg]
    obtain ⟨hj, e⟩ := hd.cnt hq
    have h3 := many_le (handsO os) i
    omega
  rw [hg] at hmv
  have e := moved_zero (hd.moved.trans hmv (k := fun _ => 0) fun j _ => by omega) fun j _ => rfl
  rw [← e]; exact hs'
end
end Go.Proofs.Ytcenbfjhhaialaa
