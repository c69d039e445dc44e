/- Headers: Read. -/
/- An arena's words: objects, in numbers. -/
/- The arena: what its functions give. -/
/- All objects of an arena. -/
/- What is reached, in plain words. -/
/- Marking: what its functions give, of a heap that is sound. -/
/- How much the search may put aside. -/
/- What is reached: the walk. -/
import Derived.Test.YtcenbfjhhaialaaHeA


set_option linter.unusedVariables false
set_option linter.unusedSectionVars false
set_option linter.unusedSimpArgs false
set_option linter.unnecessarySimpa false
namespace Go.Proofs.Ytcenbfjhhaialaa
open Go.Ab
set_option maxRecDepth 10000

theorem val_okR {h : HH} {c : Nat} {w : Int} (hw : okW w) : DoesR 27 [U w] h c [] fun v h' c' => v = I (valW w) ∧ h = h' ∧ c = c' := by
  unfold okW at hw
  refine doesR_of (enter (fn := Try.f27) Try.func27 rfl rfl (Nat.le_of_ble_eq_true rfl) ?_)
  have hv : V.int .i64 (IntKind.i64.wrap w) = I (if w < 9223372036854775808 then w else w - 18446744073709551616) := by
    rw [wrap64]
    congr 1
    split <;> split <;> omega
  repeat' (first | refine WpO.cons rfl rfl (op_conv rfl rfl rfl hv ⟨nolog, ?_⟩) | refine WpC.seq ?_ | refine WpC.region ?_ | refine WpC.ret ?_ | refine WpO.nil ?_ | refine WpO.cons rfl rfl (WpX.pure (fun _ => rfl) ⟨nolog, ?_⟩))
  refine out_ret rfl ⟨?_, rfl, rfl⟩
  show V.int .i64 (Int.fdiv _ 16) = _
  rw [Int.fdiv_eq_ediv_of_nonneg _ (by decide)]
  unfold valW
  congr 1
  split <;> omega
theorem tag_okR {h : HH} {c : Nat} {w : Int} (hw : okW w) : DoesR 40 [U w] h c [] fun v h' c' => v = I (tagW w) ∧ h = h' ∧ c = c' := by
  have hr := tag_range w
  unfold okW at hw
  have hb : IntKind.u64.wrap ((BitVec.ofInt 64 w &&& BitVec.ofInt 64 15).toNat : Int) = tagW w := by
    rw [and_nat (k := 4) hw.1 (by simpa using hw.2) (by decide) (by decide), wrapU]
    unfold tagW
    show w % 16 % _ = _
    omega
  have hv : V.int .i64 (IntKind.i64.wrap (IntKind.u64.wrap ((BitVec.ofInt 64 w &&& BitVec.ofInt 64 15).toNat : Int))) = I (tagW w) := by
    rw [hb, Go.IntWalk.i64_in _ (by omega)]
  refine doesR_of (enter (fn := Try.f40) Try.func40 rfl rfl (Nat.le_of_ble_eq_true rfl) ?_)
  repeat' (first | refine WpO.cons rfl rfl (op_conv rfl rfl rfl hv ⟨nolog, ?_⟩) | refine WpC.seq ?_ | refine WpC.region ?_ | refine WpC.ret ?_ | refine WpO.nil ?_ | refine WpO.cons rfl rfl (WpX.pure (fun _ => rfl) ⟨nolog, ?_⟩))
  exact out_ret rfl ⟨rfl, rfl, rfl⟩


theorem fits_okR {h : HH} {c : Nat} {n : Int} (hn : fitsW n) : DoesR 51 [I n] h c [] fun v h' c' => v = .bool true ∧ h = h' ∧ c = c' := by
  unfold fitsW at hn
  have e1 : decide (n ≥ -576460752303423488) = true := by simpa using hn.1
  have e2 : decide (n ≤ 576460752303423487) = true := by simpa using hn.2
  refine doesR_of (enter (fn := Try.f51) Try.func51 rfl rfl (Nat.le_of_ble_eq_true rfl) ?_)
  repeat' (first | refine WpC.seq ?_ | refine WpC.region ?_ | refine WpO.nil ?_ | refine WpO.cons rfl rfl (WpX.pure (fun _ => rfl) ⟨nolog, ?_⟩))
  simp only [e1]
  repeat' (first | refine WpC.ret ?_ | refine WpO.nil ?_ | refine WpO.cons rfl rfl (WpX.pure (fun _ => rfl) ⟨nolog, ?_⟩))
  refine out_ret rfl ⟨?_, rfl, rfl⟩
  show V.bool (decide (n ≤ 576460752303423487)) = _
  rw [e2]

/-- Of, of a tag that is one and a value that fits. -/
theorem of_word_okR {h : HH} {c : Nat} {t n : Int} (ht : 0 ≤ t ∧ t ≤ 7) (hn : fitsW n) : DoesR 42 [I t, I n] h c [] fun v h' c' => v = U (ofW t n) ∧ h = h' ∧ c = c' := by
  have e1 : decide (t < 0) = false := by simp; omega
  have e2 : decide (t > 7) = false := by simp; omega
  refine doesR_of (enter (fn := Try.f42) Try.func42 rfl rfl (Nat.le_of_ble_eq_true rfl) ?_)
  have hv1 : V.int .u64 (IntKind.u64.wrap n) = U (n % 18446744073709551616) := by rw [wrapU]
  have hv2 : V.int .u64 (IntKind.u64.wrap t) = U t := by rw [wrapU]; congr 1; omega
  repeat' (first | refine WpC.seq ?_ | refine WpC.region ?_ | refine WpO.nil ?_ | refine WpO.cons rfl rfl (WpX.pure (fun _ => rfl) ⟨nolog, ?_⟩))
  simp only [e1]
  repeat' (first | refine WpO.cons rfl rfl (WpX.pure (fun _ => rfl) ⟨nolog, ?_⟩))
  simp only [e2]
  repeat' (first | refine WpO.cons rfl rfl (WpX.pure (fun _ => rfl) ⟨nolog, ?_⟩))
  refine WpO.cons rfl rfl (call_atRR rfl (fits_okR hn) (fun x hx => by cases hx) (Nat.le_refl _) fun v h4 c4 hc4 hfr4 hq => ?_)
  obtain ⟨rfl, rfl, rfl⟩ := hq
  repeat' (first | refine WpO.nil ?_ | refine WpO.cons rfl rfl (WpX.pure (fun _ => rfl) ⟨nolog, ?_⟩) | refine seqQ_normal ?_)
  refine WpC.cond rfl (fun hb => by cases hb) (fun _ => ?_)
  repeat' (first | refine WpO.cons rfl rfl (op_conv rfl rfl rfl hv2 ⟨nolog, ?_⟩) | refine WpO.cons rfl rfl (op_conv rfl rfl rfl hv1 ⟨nolog, ?_⟩) | refine WpC.seq ?_ | refine WpC.region ?_ | refine WpC.skip ?_ | refine WpC.ret ?_ | refine WpO.nil ?_ | refine WpO.cons rfl rfl (WpX.pure (fun _ => rfl) ⟨nolog, ?_⟩))
  refine out_ret rfl ⟨?_, rfl, rfl⟩
  show V.int .u64 (IntKind.u64.wrap ((BitVec.ofInt 64 (IntKind.u64.wrap (n % 18446744073709551616 * 2 ^ 4)) ||| BitVec.ofInt 64 t).toNat : Int)) = _
  have hx : IntKind.u64.wrap (n % 18446744073709551616 * 2 ^ 4) = 2 ^ 4 * (n % 1152921504606846976) := by rw [wrapU]; omega
  rw [or_nat (k := 4) hx (by omega) ht.1 (by omega) (by rw [hx]; omega) (by decide), hx, wrapU]
  unfold ofW
  congr 1
  omega

set_option maxHeartbeats 2000000 in
theorem read_okW {h : HH} {c : Nat} {w : Int} (hw : okW w) : DoesR 45 [U w] h c [] fun v h' c' => v = (match readW w with | some x => .tuple [.agg (hdV x), .bool true] | none => .tuple [.agg [I 0, I 0, I 0, .bool false], .bool false]) := by
  have hf := val_fits hw
  have ht := tag_range w
  unfold fitsW at hf
  refine doesR_of (enterH (fn := Try.f45) Try.func45 rfl rfl (Nat.le_of_ble_eq_true rfl) ?_)
  have sh : Int.fdiv (valW w) (2 ^ (min (43 : Int).toNat IntKind.i64.bits)) = valW w / 8796093022208 := Int.fdiv_eq_ediv_of_nonneg _ (by decide)
  repeat' (first | refine WpC.seq ?_ | refine WpC.region ?_ | refine WpO.nil ?_ | refine WpO.cons rfl rfl (WpX.pure (fun _ => rfl) ⟨nolog, ?_⟩) | refine WpO.cons rfl rfl (op_alloc rfl ⟨(by simp [InR, Acc.name, Acc.writes, rowName] <;> omega), ?_⟩))
  refine WpO.cons rfl rfl (call_atRR rfl (val_okR hw) (fun n hn => by cases hn) (by omega) fun v h4 c4 hc4 hfr4 hq => ?_)
  obtain ⟨rfl, rfl, rfl⟩ := hq
  repeat' (first | refine WpC.seq ?_ | refine WpC.region ?_ | refine WpO.nil ?_ | refine WpO.cons rfl rfl (WpX.pure (fun _ => rfl) ⟨nolog, ?_⟩))
  refine WpO.cons rfl rfl (call_atRR rfl (tag_okR hw) (fun n hn => by cases hn) (by omega) fun v h4 c4 hc4 hfr4 hq => ?_)
  obtain ⟨rfl, rfl, rfl⟩ := hq
  by_cases h1 : tagW w = 6
  case neg =>
    have e1 : (tagW w != 6) = true := by simpa using h1
    have er : readW w = none := by unfold readW; rw [if_neg (fun h => h1 h.1)]
    repeat' (first | refine WpO.cons rfl rfl (WpX.pure (fun _ => rfl) ⟨nolog, ?_⟩))
    simp only [e1]
    repeat' (first | refine WpO.nil ?_ | refine WpO.cons rfl rfl (WpX.pure (fun _ => rfl) ⟨nolog, ?_⟩) | refine WpO.skip rfl rfl ?_ | refine seqQ_normal ?_)
    refine WpC.cond rfl (fun _ => ?_) (fun hb => by cases hb)
    repeat' (first | refine WpC.seq ?_ | refine WpC.region ?_ | refine WpC.ret ?_ | refine WpO.nil ?_ | refine WpO.cons rfl rfl (WpX.pure (fun _ => rfl) ⟨nolog, ?_⟩) | refine seqQ_ret ?_ | refine WpO.cons rfl rfl (op_store (k := 4) rfl rfl rfl rfl (MapI.get_same _ _ _) (Nat.le_of_ble_eq_true rfl) rfl ⟨(by simp [InR, Acc.name, Acc.writes, rowName] <;> omega), ?_⟩))
    refine outH_ret (.cellA (k := 4) rfl rfl rfl rfl (MapI.get_same _ _ _) rfl (.tmp rfl .nil)) ?_ ?_
    · intro x hx; simp at hx; subst hx; exact ⟨.inr (Nat.le_refl _), fun h => by cases h⟩
    · rw [er]; rfl
  have e1 : (tagW w != 6) = false := by simpa using h1
  by_cases h2 : valW w < 0
  · have e2 : decide (valW w < 0) = true := by simpa using h2
    have er : readW w = none := by unfold readW; rw [if_neg (fun h => by omega)]
    repeat' (first | refine WpO.cons rfl rfl (WpX.pure (fun _ => rfl) ⟨nolog, ?_⟩))
    simp only [e1]
    repeat' (first | refine WpO.cons rfl rfl (WpX.pure (fun _ => rfl) ⟨nolog, ?_⟩))
    simp only [e2]
    repeat' (first | refine WpO.nil ?_ | refine WpO.cons rfl rfl (WpX.pure (fun _ => rfl) ⟨nolog, ?_⟩) | refine WpO.skip rfl rfl ?_ | refine seqQ_normal ?_)
    refine WpC.cond rfl (fun _ => ?_) (fun hb => by cases hb)
    repeat' (first | refine WpC.seq ?_ | refine WpC.region ?_ | refine WpC.ret ?_ | refine WpO.nil ?_ | refine WpO.cons rfl rfl (WpX.pure (fun _ => rfl) ⟨nolog, ?_⟩) | refine seqQ_ret ?_ | refine WpO.cons rfl rfl (op_store (k := 4) rfl rfl rfl rfl (MapI.get_same _ _ _) (Nat.le_of_ble_eq_true rfl) rfl ⟨(by simp [InR, Acc.name, Acc.writes, rowName] <;> omega), ?_⟩))
    refine outH_ret (.cellA (k := 4) rfl rfl rfl rfl (MapI.get_same _ _ _) rfl (.tmp rfl .nil)) ?_ ?_
    · intro x hx; simp at hx; subst hx; exact ⟨.inr (Nat.le_refl _), fun h => by cases h⟩
    · rw [er]; rfl
  have e2 : decide (valW w < 0) = false := by simpa using h2
  by_cases h3 : valW w / 8796093022208 = 0
  case neg =>
    have e3 : (valW w / 8796093022208 != 0) = true := by simpa using h3
    have er : readW w = none := by unfold readW; rw [if_neg (fun h => by omega)]
    repeat' (first | refine WpO.cons rfl rfl (WpX.pure (fun _ => rfl) ⟨nolog, ?_⟩))
    simp only [e1]
    repeat' (first | refine WpO.cons rfl rfl (WpX.pure (fun _ => rfl) ⟨nolog, ?_⟩))
    simp only [e2]
    repeat' (first | refine WpO.cons rfl rfl (op_shr rfl rfl (by decide) sh ⟨nolog, ?_⟩) | refine WpO.nil ?_ | refine WpO.cons rfl rfl (WpX.pure (fun _ => rfl) ⟨nolog, ?_⟩) | refine seqQ_normal ?_)
    simp only [e3]
    skip
    refine WpC.cond rfl (fun _ => ?_) (fun hb => by cases hb)
    repeat' (first | refine WpC.seq ?_ | refine WpC.region ?_ | refine WpC.ret ?_ | refine WpO.nil ?_ | refine WpO.cons rfl rfl (WpX.pure (fun _ => rfl) ⟨nolog, ?_⟩) | refine seqQ_ret ?_ | refine WpO.cons rfl rfl (op_store (k := 4) rfl rfl rfl rfl (MapI.get_same _ _ _) (Nat.le_of_ble_eq_true rfl) rfl ⟨(by simp [InR, Acc.name, Acc.writes, rowName] <;> omega), ?_⟩))
    refine outH_ret (.cellA (k := 4) rfl rfl rfl rfl (MapI.get_same _ _ _) rfl (.tmp rfl .nil)) ?_ ?_
    · intro x hx; simp at hx; subst hx; exact ⟨.inr (Nat.le_refl _), fun h => by cases h⟩
    · rw [er]; rfl
  have e3 : (valW w / 8796093022208 != 0) = false := by simpa using h3
  have hlt : valW w < 8796093022208 := by omega
  have h64 : (8796093022208 : Int) < 2 ^ 64 := by decide
  have a1 : IntKind.i64.wrap ((BitVec.ofInt IntKind.i64.bits (valW w) &&& BitVec.ofInt IntKind.i64.bits 3).toNat : Int) = valW w % 4 := by
    rw [and_nat (b := IntKind.i64.bits) (k := 2) (by omega) (by show valW w < 2 ^ 64; omega) (by decide) (by decide), Go.IntWalk.i64_in _ (by omega)]; rfl
  have s2 : Int.fdiv (valW w) (2 ^ (min (2 : Int).toNat IntKind.i64.bits)) = valW w / 4 := Int.fdiv_eq_ediv_of_nonneg _ (by decide)
  have a2 : IntKind.i64.wrap ((BitVec.ofInt IntKind.i64.bits (valW w / 4) &&& BitVec.ofInt IntKind.i64.bits 1).toNat : Int) = valW w / 4 % 2 := by
    rw [and_nat (b := IntKind.i64.bits) (k := 1) (by omega) (by show valW w / 4 < 2 ^ 64; omega) (by decide) (by decide), Go.IntWalk.i64_in _ (by omega)]; rfl
  have s3 : Int.fdiv (valW w) (2 ^ (min (3 : Int).toNat IntKind.i64.bits)) = valW w / 8 := Int.fdiv_eq_ediv_of_nonneg _ (by decide)
  have a3 : IntKind.i64.wrap ((BitVec.ofInt IntKind.i64.bits (valW w / 8) &&& BitVec.ofInt IntKind.i64.bits 1048575).toNat : Int) = valW w / 8 % 1048576 := by
    rw [and_nat (b := IntKind.i64.bits) (k := 20) (by omega) (by show valW w / 8 < 2 ^ 64; omega) (by decide) (by decide), Go.IntWalk.i64_in _ (by omega)]; rfl
  have s4 : Int.fdiv (valW w) (2 ^ (min (23 : Int).toNat IntKind.i64.bits)) = valW w / 8388608 := Int.fdiv_eq_ediv_of_nonneg _ (by decide)
  have a4 : IntKind.i64.wrap ((BitVec.ofInt IntKind.i64.bits (valW w / 8388608) &&& BitVec.ofInt IntKind.i64.bits 1048575).toNat : Int) = valW w / 8388608 := by
    rw [and_nat (b := IntKind.i64.bits) (k := 20) (by omega) (by show valW w / 8388608 < 2 ^ 64; omega) (by decide) (by decide), Go.IntWalk.i64_in _ (by omega)]; show valW w / 8388608 % 1048576 = _; omega
  have er : readW w = some ⟨valW w % 4, valW w / 8 % 1048576, valW w / 8388608, valW w / 4 % 2 = 1⟩ := by unfold readW; rw [if_pos ⟨h1, by omega, hlt⟩]
  repeat' (first | refine WpO.cons rfl rfl (WpX.pure (fun _ => rfl) ⟨nolog, ?_⟩))
  simp only [e1]
  repeat' (first | refine WpO.cons rfl rfl (WpX.pure (fun _ => rfl) ⟨nolog, ?_⟩))
  simp only [e2]
  repeat' (first | refine WpO.cons rfl rfl (op_shr rfl rfl (by decide) sh ⟨nolog, ?_⟩) | refine WpO.nil ?_ | refine WpO.cons rfl rfl (WpX.pure (fun _ => rfl) ⟨nolog, ?_⟩) | refine seqQ_normal ?_)
  simp only [e3]
  skip
  refine WpC.cond rfl (fun hb => by cases hb) (fun _ => ?_)
  repeat' (first | refine WpO.cons rfl rfl (op_and rfl rfl a4 ⟨nolog, ?_⟩) | refine WpO.cons rfl rfl (op_shr rfl rfl (by decide) s4 ⟨nolog, ?_⟩) | refine WpO.cons rfl rfl (op_and rfl rfl a3 ⟨nolog, ?_⟩) | refine WpO.cons rfl rfl (op_shr rfl rfl (by decide) s3 ⟨nolog, ?_⟩) | refine WpO.cons rfl rfl (op_and rfl rfl a2 ⟨nolog, ?_⟩) | refine WpO.cons rfl rfl (op_shr rfl rfl (by decide) s2 ⟨nolog, ?_⟩) | refine WpO.cons rfl rfl (op_and rfl rfl a1 ⟨nolog, ?_⟩) | refine WpC.seq ?_ | refine WpC.region ?_ | refine WpC.skip ?_ | refine WpC.ret ?_ | refine WpO.nil ?_ | refine WpO.cons rfl rfl (WpX.pure (fun _ => rfl) ⟨nolog, ?_⟩) | refine WpO.cons rfl rfl (op_store (k := 4) rfl rfl rfl rfl (MapI.get_same _ _ _) (Nat.le_of_ble_eq_true rfl) rfl ⟨(by simp [InR, Acc.name, Acc.writes, rowName] <;> omega), ?_⟩))
  refine outH_ret (.cellA (k := 4) rfl rfl rfl rfl (MapI.get_same _ _ _) rfl (.tmp rfl .nil)) ?_ ?_
  · intro x hx; simp at hx; subst hx; exact ⟨.inr (Nat.le_refl _), fun h => by cases h⟩
  · rw [er]
    show V.tuple [.agg [I (valW w % 4), I (valW w / 8 % 1048576), I (valW w / 8388608), .bool (valW w / 4 % 2 == 1)], .bool true] = _
    rw [show (valW w / 4 % 2 == 1) = decide (valW w / 4 % 2 = 1) from rfl]
    rfl
end Go.Proofs.Ytcenbfjhhaialaa


set_option linter.unusedVariables false
set_option linter.unusedSectionVars false
set_option linter.unusedSimpArgs false
set_option linter.unnecessarySimpa false
namespace Go.Proofs.Ytcenbfjhhaialaa
open Go.Ab

/-- The header of the object at a place. -/
def objW (W : List Int) (at' : Int) : Option Hd :=
  if 0 ≤ at' ∧ at' < W.length then
    match W[at'.toNat]? with
    | some w => match readW w with
      | some x => if x.size < (W.length : Int) - at' then some x else none
      | none => none
    | none => none
  else none
theorem objW_some {W : List Int} {at' : Int} {x : Hd} (h : objW W at' = some x) : ∃ (i : Nat) (w : Int), at' = i ∧ W[i]? = some w ∧ readW w = some x ∧ (i : Int) + 1 + x.size ≤ W.length ∧ okH x := by
  unfold objW at h
  split at h
  · next hc =>
    split at h
    · next w hw =>
      split at h
      · next x' hx =>
        split at h
        · next hs =>
          cases h
          exact ⟨at'.toNat, w, by omega, hw, hx, by omega, (read_ok hx).1⟩
        · cases h
      · cases h
    · cases h
  · cases h
theorem objW_mk {W : List Int} {i : Nat} {w : Int} {x : Hd} (hw : W[i]? = some w) (hx : readW w = some x) (hs : (i : Int) + 1 + x.size ≤ W.length) : objW W i = some x := by
  have hi := (List.getElem?_eq_some_iff.1 hw).1
  unfold objW
  rw [if_pos ⟨by omega, by omega⟩, show ((i : Nat) : Int).toNat = i from by simp, hw]
  simp only [hx]
  rw [if_pos (by omega)]
/-- All objects from a place on: their places, their headers. -/
inductive ObjsFrom (W : List Int) : Nat → List (Nat × Hd) → Prop where
  | nil : ObjsFrom W W.length []
  | cons {i : Nat} {x : Hd} {l : List (Nat × Hd)} : objW W i = some x → ObjsFrom W (i + 1 + x.size.toNat) l → ObjsFrom W i ((i, x) :: l)
theorem ObjsFrom.le {W : List Int} {i : Nat} {l : List (Nat × Hd)} (r : ObjsFrom W i l) : i ≤ W.length := by
  induction r with
  | nil => exact Nat.le_refl _
  | cons hx _ ih =>
    rename_i i x l r
    omega
theorem ObjsFrom.mem {W : List Int} {i : Nat} {l : List (Nat × Hd)} (r : ObjsFrom W i l) : ∀ p ∈ l, i ≤ p.1 ∧ objW W p.1 = some p.2 := by
  induction r with
  | nil => intro p hp; cases hp
  | cons hx r ih =>
    rename_i i x l
    intro p hp
    rcases List.mem_cons.1 hp with rfl | hp
    · exact ⟨Nat.le_refl _, hx⟩
    · have := ih p hp; exact ⟨by omega, this.2⟩
theorem ObjsFrom.uniq {W : List Int} {i : Nat} {l l' : List (Nat × Hd)} (r : ObjsFrom W i l) (r' : ObjsFrom W i l') : l = l' := by
  induction r generalizing l' with
  | nil =>
    cases r' with
    | nil => rfl
    | cons hx _ =>
      obtain ⟨j, w, e, hw, _, _, _⟩ := objW_some hx
      have := (List.getElem?_eq_some_iff.1 hw).1
      omega
  | cons hx r ih =>
    cases r' with
    | nil =>
      obtain ⟨j, w, e, hw, _, _, _⟩ := objW_some hx
      have := (List.getElem?_eq_some_iff.1 hw).1
      omega
    | cons hx' r' =>
      rw [hx] at hx'
      cases hx'
      rw [ih r']
/-- May a word stand in a field? -/
def okField (l : List (Nat × Hd)) (w : Int) : Prop := tagW w ≠ 6 ∧ tagW w ≠ 7 ∧ (tagW w = 5 → ∃ p ∈ l, valW w = (p.1 : Nat))
structure SoundW (W R : List Int) (l : List (Nat × Hd)) : Prop where
  objs : ObjsFrom W 0 l
  roots : ∀ w ∈ R, okField l w
  le : ∀ p ∈ l, fieldsH p.2 ≤ p.2.size
  fields : ∀ p ∈ l, ∀ (k : Nat) (w : Int), (k : Int) < fieldsH p.2 → W[p.1 + 1 + k]? = some w → okField l w
end Go.Proofs.Ytcenbfjhhaialaa


set_option linter.unusedVariables false
set_option linter.unusedSectionVars false
set_option linter.unusedSimpArgs false
set_option linter.unnecessarySimpa false
namespace Go.Proofs.Ytcenbfjhhaialaa
open Go.Ab
set_option maxRecDepth 10000

/-- An arena: its words, its size. -/
structure ArAt (h : HH) (c a : Nat) (vW : V) (W : List Int) (size : Int) : Prop where
  obj : MapI.get h a = some (.cells true true [vW, I size])
  w : ListOf 1 wordV h c vW W
  la : a < c
  na : ∀ n ∈ rowName vW, n ≠ a
  ok : ∀ x ∈ W, okW x
  le : (W.length : Int) ≤ size
  mx : size ≤ 1048576
abbrev an (a : Nat) (vW : V) : List Nat := a :: rowName vW
section
variable {h h' : HH} {c c' a : Nat} {vW : V} {W : List Int} {size : Int}
theorem ArAt.names (r : ArAt h c a vW W size) : ∀ n ∈ an a vW, n < c := fun n hn => by
  rcases List.mem_cons.1 hn with rfl | hn
  · exact r.la
  · exact r.w.lt n hn
theorem ArAt.keep (r : ArAt h c a vW W size) (hc : c ≤ c') (e : ∀ n, n < c → n ∈ an a vW → MapI.get h' n = MapI.get h n) : ArAt h' c' a vW W size :=
  ⟨by rw [e a r.la (by simp)]; exact r.obj, r.w.keep hc fun n hn hm => e n hn (by simp [hm]), Nat.lt_of_lt_of_le r.la hc, r.na, r.ok, r.le, r.mx⟩
theorem ArAt.same (r : ArAt h c a vW W size) (hc : c ≤ c') (e : ∀ n, n < c → MapI.get h' n = MapI.get h n) : ArAt h' c' a vW W size := r.keep hc fun n hn _ => e n hn

theorem in_ok {i : Int} (r : ArAt h c a vW W size) : DoesR 43 [.ptr (some (a, 0)), I i] h c (an a vW) fun v h' c' => v = .bool (decide (0 ≤ i ∧ i < (W.length : Int))) ∧ h = h' ∧ c = c' := by
  have hobj := r.obj
  obtain ⟨s, cap, rfl, hs⟩ := r.w.shape
  refine doesR_of (enter (fn := Try.f43) Try.func43 rfl rfl (Nat.le_of_ble_eq_true rfl) ?_)
  by_cases h1 : i ≥ 0
  case neg =>
    have e1 : decide (i ≥ 0) = false := by simpa using h1
    repeat' (first | refine WpC.seq ?_ | refine WpC.region ?_ | refine WpO.nil ?_ | refine WpO.cons rfl rfl (WpX.pure (fun _ => rfl) ⟨nolog, ?_⟩))
    simp only [e1]
    repeat' (first | refine WpC.ret ?_ | refine WpO.nil ?_ | refine WpO.cons rfl rfl (WpX.pure (fun _ => rfl) ⟨nolog, ?_⟩) | refine WpO.skip rfl rfl ?_)
    exact out_ret rfl ⟨by show V.bool false = _; rw [decide_eq_false (by omega)], rfl, rfl⟩
  have e1 : decide (i ≥ 0) = true := by simpa using h1
  repeat' (first | refine WpC.seq ?_ | refine WpC.region ?_ | refine WpO.nil ?_ | refine WpO.cons rfl rfl (WpX.pure (fun _ => rfl) ⟨nolog, ?_⟩))
  simp only [e1]
  repeat' (first | refine WpC.ret ?_ | refine WpO.nil ?_ | refine WpO.cons rfl rfl (WpX.pure (fun _ => rfl) ⟨nolog, ?_⟩) | refine WpO.cons rfl rfl (op_load rfl rfl rfl hobj rfl ⟨(by simp [InR, Acc.name, Acc.writes, rowName] <;> omega), ?_⟩))
  refine out_ret rfl ⟨?_, rfl, rfl⟩
  show V.bool (decide (i < (W.length : Int))) = _
  congr 1
  exact decide_eq_decide.2 ⟨fun x => ⟨h1, x⟩, fun x => x.2⟩

theorem used_ok (r : ArAt h c a vW W size) : DoesR 38 [.ptr (some (a, 0))] h c (an a vW) fun v h' c' => v = I W.length ∧ h = h' ∧ c = c' := by
  have hobj := r.obj
  obtain ⟨s, cap, rfl, hs⟩ := r.w.shape
  refine doesR_of (enter (fn := Try.f38) Try.func38 rfl rfl (Nat.le_of_ble_eq_true rfl) ?_)
  repeat' (first | refine WpC.seq ?_ | refine WpC.region ?_ | refine WpO.nil ?_ | refine WpO.cons rfl rfl (WpX.pure (fun _ => rfl) ⟨nolog, ?_⟩) | refine seqQ_normal ?_)
  refine WpC.cond rfl (fun hb => by cases hb) (fun _ => ?_)
  repeat' (first | refine WpC.seq ?_ | refine WpC.region ?_ | refine WpC.skip ?_ | refine WpC.ret ?_ | refine WpO.nil ?_ | refine WpO.cons rfl rfl (WpX.pure (fun _ => rfl) ⟨nolog, ?_⟩) | refine WpO.cons rfl rfl (op_load rfl rfl rfl hobj rfl ⟨(by simp [InR, Acc.name, Acc.writes, rowName] <;> omega), ?_⟩))
  exact out_ret rfl ⟨rfl, rfl, rfl⟩

theorem size_ok (r : ArAt h c a vW W size) : DoesR 37 [.ptr (some (a, 0))] h c (an a vW) fun v h' c' => v = I size ∧ h = h' ∧ c = c' := by
  have hobj := r.obj
  refine doesR_of (enter (fn := Try.f37) Try.func37 rfl rfl (Nat.le_of_ble_eq_true rfl) ?_)
  repeat' (first | refine WpC.seq ?_ | refine WpC.region ?_ | refine WpO.nil ?_ | refine WpO.cons rfl rfl (WpX.pure (fun _ => rfl) ⟨nolog, ?_⟩) | refine seqQ_normal ?_)
  refine WpC.cond rfl (fun hb => by cases hb) (fun _ => ?_)
  repeat' (first | refine WpC.seq ?_ | refine WpC.region ?_ | refine WpC.skip ?_ | refine WpC.ret ?_ | refine WpO.nil ?_ | refine WpO.cons rfl rfl (WpX.pure (fun _ => rfl) ⟨nolog, ?_⟩) | refine WpO.cons rfl rfl (op_load rfl rfl rfl hobj rfl ⟨(by simp [InR, Acc.name, Acc.writes, rowName] <;> omega), ?_⟩))
  exact out_ret rfl ⟨rfl, rfl, rfl⟩

theorem get_in {i : Int} {j : Nat} {w : Int} (r : ArAt h c a vW W size) (hi : i = j) (hw : W[j]? = some w) : DoesR 33 [.ptr (some (a, 0)), I i] h c (an a vW) fun v h' c' => v = .tuple [U w, .bool true] ∧ h = h' ∧ c = c' := by
  have hobj := r.obj
  have hj := (List.getElem?_eq_some_iff.1 hw).1
  refine doesR_of (enter (fn := Try.f33) Try.func33 rfl rfl (Nat.le_of_ble_eq_true rfl) ?_)
  repeat' (first | refine WpC.seq ?_ | refine WpC.region ?_ | refine WpO.nil ?_ | refine WpO.cons rfl rfl (WpX.pure (fun _ => rfl) ⟨nolog, ?_⟩))
  refine WpO.cons rfl rfl (call_atRR rfl (in_ok r) (fun n hn => .inl hn) (Nat.le_refl _) fun v h4 c4 hc4 hfr4 hq => ?_)
  obtain ⟨rfl, rfl, rfl⟩ := hq
  rw [decide_eq_true (show 0 ≤ i ∧ i < (W.length : Int) from by omega)]
  repeat' (first | refine WpO.nil ?_ | refine WpO.cons rfl rfl (WpX.pure (fun _ => rfl) ⟨nolog, ?_⟩) | refine seqQ_normal ?_)
  refine WpC.cond rfl (fun hb => by cases hb) (fun _ => ?_)
  obtain ⟨s, cap, rfl, hs⟩ := r.w.shape
  obtain ⟨rfl, sn, cl, junk, rfl, hsn, hg, hjk⟩ := hs j hj
  have hz : nth (flat wordV W ++ junk) (0 + i.toNat * 1) = some (U w) := by
    rw [show 0 + i.toNat * 1 = j from by omega]; exact nth_flat0 word_len hw rfl junk
  repeat' (first | refine WpC.seq ?_ | refine WpC.region ?_ | refine WpC.skip ?_ | refine WpC.ret ?_ | refine WpO.nil ?_ | refine WpO.cons rfl rfl (WpX.pure (fun _ => rfl) ⟨nolog, ?_⟩) | refine WpO.cons rfl rfl (op_load rfl rfl rfl hobj rfl ⟨(by simp [InR, Acc.name, Acc.writes, rowName] <;> omega), ?_⟩) | refine WpO.cons rfl rfl (op_indexAddr (k := 1) rfl rfl rfl rfl ⟨by omega, by omega⟩ ⟨(by simp [InR, Acc.name, Acc.writes, rowName] <;> omega), ?_⟩) | refine WpO.cons rfl rfl (op_load rfl rfl rfl hg hz ⟨(by simp [InR, Acc.name, Acc.writes, rowName] <;> omega), ?_⟩))
  exact out_ret rfl ⟨rfl, rfl, rfl⟩
theorem get_out {i : Int} (r : ArAt h c a vW W size) (hi : ¬ (0 ≤ i ∧ i < (W.length : Int))) : DoesR 33 [.ptr (some (a, 0)), I i] h c (an a vW) fun v h' c' => v = .tuple [U 0, .bool false] ∧ h = h' ∧ c = c' := by
  refine doesR_of (enter (fn := Try.f33) Try.func33 rfl rfl (Nat.le_of_ble_eq_true rfl) ?_)
  repeat' (first | refine WpC.seq ?_ | refine WpC.region ?_ | refine WpO.nil ?_ | refine WpO.cons rfl rfl (WpX.pure (fun _ => rfl) ⟨nolog, ?_⟩))
  refine WpO.cons rfl rfl (call_atRR rfl (in_ok r) (fun n hn => .inl hn) (Nat.le_refl _) fun v h4 c4 hc4 hfr4 hq => ?_)
  obtain ⟨rfl, rfl, rfl⟩ := hq
  rw [decide_eq_false hi]
  repeat' (first | refine WpO.nil ?_ | refine WpO.cons rfl rfl (WpX.pure (fun _ => rfl) ⟨nolog, ?_⟩) | refine seqQ_normal ?_)
  refine WpC.cond rfl (fun _ => ?_) (fun hb => by cases hb)
  repeat' (first | refine WpC.seq ?_ | refine WpC.region ?_ | refine WpC.ret ?_ | refine WpO.nil ?_ | refine WpO.cons rfl rfl (WpX.pure (fun _ => rfl) ⟨nolog, ?_⟩) | refine seqQ_ret ?_)
  exact out_ret rfl ⟨rfl, rfl, rfl⟩

theorem set_ok {i : Int} {j : Nat} {w : Int} (r : ArAt h c a vW W size) (hi : i = j) (hj : j < W.length) (hw : okW w) : Does 26 [.ptr (some (a, 0)), I i, U w] h c (an a vW) fun v h' c' => v = .bool true ∧ c = c' ∧ ArAt h' c' a vW (W.set j w) size ∧ MapI.get h' a = MapI.get h a := by
  have hobj := r.obj
  refine does_of (enter (fn := Try.f26) Try.func26 rfl rfl (Nat.le_of_ble_eq_true rfl) ?_)
  repeat' (first | refine WpC.seq ?_ | refine WpC.region ?_ | refine WpO.nil ?_ | refine WpO.cons rfl rfl (WpX.pure (fun _ => rfl) ⟨nolog, ?_⟩))
  refine WpO.cons rfl rfl (call_at rfl (in_ok r).does (fun n hn => .inl hn) (Nat.le_refl _) fun v h4 c4 hc4 hfr4 hq => ?_)
  obtain ⟨rfl, rfl, rfl⟩ := hq
  rw [decide_eq_true (show 0 ≤ i ∧ i < (W.length : Int) from by omega)]
  repeat' (first | refine WpO.nil ?_ | refine WpO.cons rfl rfl (WpX.pure (fun _ => rfl) ⟨nolog, ?_⟩) | refine seqQ_normal ?_)
  refine WpC.cond rfl (fun hb => by cases hb) (fun _ => ?_)
  have hna := r.na
  obtain ⟨s, cap, rfl, hs⟩ := r.w.shape
  obtain ⟨rfl, sn, cl, junk, rfl, hsn, hg, hjk⟩ := hs j hj
  have hne : sn ≠ a := hna sn (by simp [rowName])
  have hbound : 0 + i.toNat * 1 + 1 ≤ (flat wordV W ++ junk).length := by
    rw [List.length_append, flat_length word_len]; omega
  repeat' (first | refine WpC.seq ?_ | refine WpC.region ?_ | refine WpC.skip ?_ | refine WpC.ret ?_ | refine WpO.nil ?_ | refine WpO.cons rfl rfl (WpX.pure (fun _ => rfl) ⟨nolog, ?_⟩) | refine WpO.cons rfl rfl (op_load rfl rfl rfl hobj rfl ⟨(by simp [InL, Acc.name, rowName] <;> omega), ?_⟩) | refine WpO.cons rfl rfl (op_indexAddr (k := 1) rfl rfl rfl rfl ⟨by omega, by omega⟩ ⟨(by simp [InL, Acc.name, rowName] <;> omega), ?_⟩) | refine WpO.cons rfl rfl (op_store (k := 1) rfl rfl rfl rfl hg hbound rfl ⟨(by simp [InL, Acc.name, rowName] <;> omega), ?_⟩))
  refine out_ret rfl ⟨rfl, rfl, ?_, MapI.get_ne _ _ _ _ hne⟩
  have hl := ListOf.set (k := 1) (cells := wordV) word_len (h := h) (m := sn) (cl := cl) (junk := junk) (xs := W) (i := j) (z := w) hsn hjk hj
  have he : setAll (flat wordV W ++ junk) (0 + i.toNat * 1) (cellsV (U w)) = setAll (flat wordV W ++ junk) (j * 1) (wordV w) := by
    rw [show 0 + i.toNat * 1 = j * 1 from by omega]; rfl
  rw [he]
  exact ⟨get_set_ne hne hobj, by simpa using hl, r.la, hna, fun x hx => by
    rcases List.mem_or_eq_of_mem_set hx with h | rfl
    · exact r.ok x h
    · exact hw, by simpa using r.le, r.mx⟩

theorem take_ok {n : Int} {m : Nat} (r : ArAt h c a vW W size) (hn : n = m) (hle : (W.length : Int) + m ≤ size) : Does 41 [.ptr (some (a, 0)), I n] h c (an a vW) fun v h' c' => v = .tuple [I W.length, .bool true] ∧ ∃ vW', ArAt h' c' a vW' (W ++ List.replicate m 0) size ∧ ∀ x ∈ rowName vW', x ∈ rowName vW ∨ c ≤ x := by
  have hobj := r.obj
  have hna := r.na
  have hmx := r.mx
  have hlw := r.w
  obtain ⟨s, cap, rfl, hs⟩ := r.w.shape
  have e1 : decide (n < 0) = false := by simp; omega
  have w1 : IntKind.i64.wrap (size - (W.length : Int)) = size - W.length := Go.IntWalk.i64_in _ (by omega)
  have e2 : decide (n > IntKind.i64.wrap (size - (W.length : Int))) = false := by rw [w1]; simp; omega
  refine does_of (enter (fn := Try.f41) Try.func41 rfl rfl (Nat.le_of_ble_eq_true rfl) ?_)
  repeat' (first | refine WpC.seq ?_ | refine WpC.region ?_ | refine WpC.drawn ?_ | refine WpO.nil ?_ | refine WpO.cons rfl rfl (WpX.pure (fun _ => rfl) ⟨nolog, ?_⟩) | refine WpL.cons rfl rfl (WpX.pure (fun _ => rfl) ⟨nolog, ?_⟩))
  simp only [e1]
  repeat' (first | refine WpL.cons rfl rfl (WpX.pure (fun _ => rfl) ⟨nolog, ?_⟩) | refine WpL.cons rfl rfl (op_load rfl rfl rfl hobj rfl ⟨(by simp [InL, Acc.name, rowName] <;> omega), ?_⟩))
  simp only [e2]
  skip
  refine WpL.nil (logsOk_reads (by simp only [List.nil_append, List.cons_append, anyWrite, List.any_nil, List.any_cons, accw_rd, Bool.or_self])) ?_
  repeat' (first | refine seqQ_normal ?_)
  refine WpC.cond rfl (fun hb => by cases hb) (fun _ => ?_)
  repeat' (first | refine WpC.seq ?_ | refine WpC.region ?_ | refine WpC.skip ?_ | refine WpO.nil ?_ | refine WpO.cons rfl rfl (WpX.pure (fun _ => rfl) ⟨nolog, ?_⟩) | refine WpO.cons rfl rfl (op_load rfl rfl rfl hobj rfl ⟨(by simp [InL, Acc.name, rowName] <;> omega), ?_⟩))
  refine WpO.cons rfl rfl (append_make (α := Int) (k := 0) (cells := wordV) (xs := W) (ys := List.replicate m 0) (n := m) rfl hn rfl ⟨rfl, rfl, rfl, ⟨_, rfl, by decide⟩⟩ rfl ?_ word_len word_all (by simp) hlw (by omega) (fun x hx => ⟨?_, ?_⟩) ?_ fun v' h4 c4 r4 hn4 hc4 hfr4 => ?_)
  · rw [← reps_word]; rfl
  · exact .inl (by simp [Acc.name, hx])
  · exact .inl (by simp [Acc.name, hx])
  · exact .inr (Nat.le_refl _)
  have hobj4 : MapI.get h4 a = some (.cells true true [.slice s W.length cap, I size]) := by
    rw [hfr4 a (by have := r.la; omega) (fun hh => hna a hh rfl)]; exact hobj
  obtain ⟨ho1, ho2⟩ := r4.one
  repeat' (first | refine WpC.seq ?_ | refine WpC.region ?_ | refine WpC.ret ?_ | refine WpO.nil ?_ | refine WpO.cons rfl rfl (WpX.pure (fun _ => rfl) ⟨nolog, ?_⟩) | refine WpO.cons rfl rfl (op_store (k := 1) rfl rfl rfl (by rw [ho1]; rfl) hobj4 (Nat.le_of_ble_eq_true rfl) (by rw [ho1]; simp [ho2]) ⟨(by simp [InL, Acc.name, rowName] <;> omega), ?_⟩))
  have hna' : ∀ x ∈ rowName v', x ≠ a := fun x hx => by
    rcases hn4 x hx with h | ⟨h, _⟩
    · exact hna x h
    · have := r.la; omega
  refine out_ret rfl ⟨rfl, v', ⟨?_, ?_, ?_, hna', ?_, ?_, hmx⟩, fun x hx => ?_⟩
  · rw [MapI.get_same, ho1]; rfl
  · refine r4.keep (Nat.le_refl _) fun x _ hx => MapI.get_ne _ _ _ _ (Ne.symm (hna' x hx))
  · have := r.la; omega
  · intro x hx
    rcases List.mem_append.1 hx with h | h
    · exact r.ok x h
    · rw [List.eq_of_mem_replicate h]; exact ⟨by decide, by decide⟩
  · rw [List.length_append, List.length_replicate]; push_cast; omega
  · rcases hn4 x hx with h | ⟨h, _⟩
    · exact .inl h
    · exact .inr (by omega)
theorem take_no {n : Int} (r : ArAt h c a vW W size) (h0 : 0 ≤ n) (hle : size < (W.length : Int) + n) : Does 41 [.ptr (some (a, 0)), I n] h c (an a vW) fun v h' c' => v = .tuple [I 0, .bool false] ∧ h = h' ∧ c = c' := by
  have hobj := r.obj
  have hmx := r.mx
  have hl := r.le
  obtain ⟨s, cap, rfl, hs⟩ := r.w.shape
  have e1 : decide (n < 0) = false := by simp; omega
  have w1 : IntKind.i64.wrap (size - (W.length : Int)) = size - W.length := Go.IntWalk.i64_in _ (by omega)
  have e2 : decide (n > IntKind.i64.wrap (size - (W.length : Int))) = true := by rw [w1]; simp; omega
  refine does_of (enter (fn := Try.f41) Try.func41 rfl rfl (Nat.le_of_ble_eq_true rfl) ?_)
  repeat' (first | refine WpC.seq ?_ | refine WpC.region ?_ | refine WpC.drawn ?_ | refine WpO.nil ?_ | refine WpO.cons rfl rfl (WpX.pure (fun _ => rfl) ⟨nolog, ?_⟩) | refine WpL.cons rfl rfl (WpX.pure (fun _ => rfl) ⟨nolog, ?_⟩))
  simp only [e1]
  repeat' (first | refine WpL.cons rfl rfl (WpX.pure (fun _ => rfl) ⟨nolog, ?_⟩) | refine WpL.cons rfl rfl (op_load rfl rfl rfl hobj rfl ⟨(by simp [InL, Acc.name, rowName] <;> omega), ?_⟩))
  simp only [e2]
  skip
  refine WpL.nil (logsOk_reads (by simp only [List.nil_append, List.cons_append, anyWrite, List.any_nil, List.any_cons, accw_rd, Bool.or_self])) ?_
  repeat' (first | refine seqQ_normal ?_)
  refine WpC.cond rfl (fun _ => ?_) (fun hb => by cases hb)
  repeat' (first | refine WpC.seq ?_ | refine WpC.region ?_ | refine WpC.ret ?_ | refine WpO.nil ?_ | refine WpO.cons rfl rfl (WpX.pure (fun _ => rfl) ⟨nolog, ?_⟩) | refine seqQ_ret ?_)
  exact out_ret rfl ⟨rfl, rfl, rfl⟩

theorem cut_ok {u sz : Int} {m : Nat} (r : ArAt h c a vW W size) (hu : u = m) (hm : m ≤ W.length) (hs1 : u ≤ sz) (hs2 : sz ≤ 1048576) : Does 35 [.ptr (some (a, 0)), I u, I sz] h c (an a vW) fun v h' c' => v = .bool true ∧ c = c' ∧ ∃ vW', ArAt h' c' a vW' (W.take m) sz ∧ ∀ x ∈ rowName vW', x ∈ rowName vW := by
  have hobj := r.obj
  have hna := r.na
  have hmx := r.mx
  have hl := r.le
  have hlw := r.w
  obtain ⟨s, cap, rfl, hs⟩ := r.w.shape
  have e1 : decide (u < 0) = false := by simp; omega
  have e2 : decide (u > (W.length : Int)) = false := by simp; omega
  have e3 : decide (sz < u) = false := by simp; omega
  have e4 : decide (sz > 1048576) = false := by simp; omega
  refine does_of (enter (fn := Try.f35) Try.func35 rfl rfl (Nat.le_of_ble_eq_true rfl) ?_)
  repeat' (first | refine WpC.seq ?_ | refine WpC.region ?_ | refine WpO.nil ?_ | refine WpO.cons rfl rfl (WpX.pure (fun _ => rfl) ⟨nolog, ?_⟩))
  simp only [e1]
  repeat' (first | refine WpO.cons rfl rfl (WpX.pure (fun _ => rfl) ⟨nolog, ?_⟩) | refine WpO.cons rfl rfl (op_load rfl rfl rfl hobj rfl ⟨(by simp [InL, Acc.name, rowName] <;> omega), ?_⟩))
  simp only [e2]
  repeat' (first | refine WpO.cons rfl rfl (WpX.pure (fun _ => rfl) ⟨nolog, ?_⟩))
  simp only [e3]
  repeat' (first | refine WpO.nil ?_ | refine WpO.cons rfl rfl (WpX.pure (fun _ => rfl) ⟨nolog, ?_⟩) | refine seqQ_normal ?_)
  simp only [e4]
  skip
  refine WpC.cond rfl (fun hb => by cases hb) (fun _ => ?_)
  rcases hlw with ⟨hv, hW⟩ | ⟨sn, cl, junk, hv, hsn, hg, hjk⟩
  · have hm0 : m = 0 := by rw [hW] at hm; simpa using hm
    simp only [V.slice.injEq] at hv
    obtain ⟨rfl, _, rfl⟩ := hv
    repeat' (first | refine WpC.seq ?_ | refine WpC.region ?_ | refine WpC.skip ?_ | refine WpC.ret ?_ | refine WpO.nil ?_ | refine WpO.cons rfl rfl (WpX.pure (fun _ => rfl) ⟨nolog, ?_⟩) | refine WpO.cons rfl rfl (op_load rfl rfl rfl hobj rfl ⟨(by simp [InL, Acc.name, rowName] <;> omega), ?_⟩) | refine WpO.cons rfl rfl (op_sliceNil (l := 0) rfl rfl rfl rfl rfl rfl (bound_at (by omega)) rfl ⟨(by simp [InL, Acc.name, rowName] <;> omega), ?_⟩) | refine WpO.cons rfl rfl (op_store (k := 1) rfl rfl rfl rfl hobj (Nat.le_of_ble_eq_true rfl) rfl ⟨(by simp [InL, Acc.name, rowName] <;> omega), ?_⟩) | refine WpO.cons rfl rfl (op_store (k := 1) rfl rfl rfl rfl (MapI.get_same _ _ _) (Nat.le_of_ble_eq_true rfl) rfl ⟨(by simp [InL, Acc.name, rowName] <;> omega), ?_⟩))
    refine out_ret rfl ⟨rfl, rfl, .slice none 0 (.known 0), ⟨?_, ?_, r.la, fun n hn => (by cases hn), ?_, ?_, hs2⟩, fun x hx => (by cases hx)⟩
    · rw [MapI.get_same]; rfl
    · subst hm0; exact .nil
    · intro x hx; subst hm0; simp at hx
    · subst hm0; simp; omega
  · simp only [V.slice.injEq] at hv
    obtain ⟨rfl, _, rfl⟩ := hv
    have hne : sn ≠ a := hna sn (by simp [rowName])
    repeat' (first | refine WpC.seq ?_ | refine WpC.region ?_ | refine WpC.skip ?_ | refine WpC.ret ?_ | refine WpO.nil ?_ | refine WpO.cons rfl rfl (WpX.pure (fun _ => rfl) ⟨nolog, ?_⟩) | refine WpO.cons rfl rfl (op_load rfl rfl rfl hobj rfl ⟨(by simp [InL, Acc.name, rowName] <;> omega), ?_⟩) | refine WpO.cons rfl rfl (op_slice (k := 0) (l := 0) (u := m) rfl rfl rfl rfl rfl rfl (bound_at hu) (Nat.zero_le _) hm rfl ⟨(by simp [InL, Acc.name, rowName] <;> omega), ?_⟩) | refine WpO.cons rfl rfl (op_store (k := 1) rfl rfl rfl rfl hobj (Nat.le_of_ble_eq_true rfl) rfl ⟨(by simp [InL, Acc.name, rowName] <;> omega), ?_⟩) | refine WpO.cons rfl rfl (op_store (k := 1) rfl rfl rfl rfl (MapI.get_same _ _ _) (Nat.le_of_ble_eq_true rfl) rfl ⟨(by simp [InL, Acc.name, rowName] <;> omega), ?_⟩))
    refine out_ret rfl ⟨rfl, rfl, .slice (some (sn, 0)) m (.upTo 1), ⟨?_, ?_, r.la, fun n hn => (by simp [rowName] at hn; omega), fun x hx => r.ok x (List.mem_of_mem_take hx), ?_, hs2⟩, fun x hx => (by simpa [rowName] using hx)⟩
    · rw [MapI.get_same]; rfl
    · refine ListOf.cutTo (cl := cl) (junk := junk) word_len word_all hsn ?_ hjk hm
      rw [MapI.get_ne _ _ _ _ (Ne.symm hne), MapI.get_ne _ _ _ _ (Ne.symm hne)]; exact hg
    · rw [List.length_take]; omega

/-- A header of noughts. -/
def hd0 : Hd := ⟨0, 0, 0, false⟩
theorem object_ok {i : Int} (r : ArAt h c a vW W size) : DoesR 32 [.ptr (some (a, 0)), I i] h c (an a vW) fun v h' c' => v = (match objW W i with | some x => .tuple [.agg (hdV x), .bool true] | none => .tuple [.agg (hdV hd0), .bool false]) := by
  have hobj := r.obj
  have hmx := r.mx
  have hl := r.le
  have hok := r.ok
  have hla := r.la
  obtain ⟨s, cap, rfl, hs⟩ := r.w.shape
  refine doesR_of (enterH (fn := Try.f32) Try.func32 rfl rfl (Nat.le_of_ble_eq_true rfl) ?_)
  have hgc : ∀ {o : AObj}, MapI.get (MapI.set h c o) c = some o := MapI.get_same _ _ _
  have hobj1 : ∀ {o : AObj}, MapI.get (MapI.set h c o) a = some (.cells true true [.slice s W.length cap, I size]) := get_set_ne (by omega) hobj
  by_cases h1 : i < 0
  · have e1 : decide (i < 0) = true := by simpa using h1
    have eo : objW W i = none := by unfold objW; rw [if_neg (by omega)]
    repeat' (first | refine WpC.seq ?_ | refine WpC.region ?_ | refine WpO.nil ?_ | refine WpO.cons rfl rfl (WpX.pure (fun _ => rfl) ⟨nolog, ?_⟩) | refine WpO.cons rfl rfl (op_alloc rfl ⟨(by simp [InR, Acc.name, Acc.writes, rowName] <;> omega), ?_⟩))
    simp only [e1]
    repeat' (first | refine WpO.nil ?_ | refine WpO.cons rfl rfl (WpX.pure (fun _ => rfl) ⟨nolog, ?_⟩) | refine WpO.skip rfl rfl ?_ | refine seqQ_normal ?_)
    refine WpC.cond rfl (fun _ => ?_) (fun hb => by cases hb)
    repeat' (first | refine WpC.seq ?_ | refine WpC.region ?_ | refine WpC.ret ?_ | refine WpO.nil ?_ | refine WpO.cons rfl rfl (WpX.pure (fun _ => rfl) ⟨nolog, ?_⟩) | refine seqQ_ret ?_ | refine WpO.cons rfl rfl (op_store (k := 4) rfl rfl rfl rfl (MapI.get_same _ _ _) (Nat.le_of_ble_eq_true rfl) rfl ⟨(by simp [InR, Acc.name, Acc.writes, rowName] <;> omega), ?_⟩))
    refine outH_ret (.cellA (k := 4) rfl rfl rfl rfl (MapI.get_same _ _ _) rfl (.tmp rfl .nil)) ?_ ?_
    · intro x hx; simp at hx; subst hx; exact ⟨.inr (Nat.le_refl _), fun h => by cases h⟩
    · rw [eo]; rfl
  have e1 : decide (i < 0) = false := by simpa using h1
  by_cases h2 : i ≥ (W.length : Int)
  · have e2 : decide (i ≥ (W.length : Int)) = true := by simpa using h2
    have eo : objW W i = none := by unfold objW; rw [if_neg (by omega)]
    repeat' (first | refine WpC.seq ?_ | refine WpC.region ?_ | refine WpO.nil ?_ | refine WpO.cons rfl rfl (WpX.pure (fun _ => rfl) ⟨nolog, ?_⟩) | refine WpO.cons rfl rfl (op_alloc rfl ⟨(by simp [InR, Acc.name, Acc.writes, rowName] <;> omega), ?_⟩))
    simp only [e1]
    repeat' (first | refine WpO.nil ?_ | refine WpO.cons rfl rfl (WpX.pure (fun _ => rfl) ⟨nolog, ?_⟩) | refine seqQ_normal ?_ | refine WpO.cons rfl rfl (op_load rfl rfl rfl hobj1 rfl ⟨(by simp [InR, Acc.name, Acc.writes, rowName] <;> omega), ?_⟩))
    simp only [e2]
    skip
    refine WpC.cond rfl (fun _ => ?_) (fun hb => by cases hb)
    repeat' (first | refine WpC.seq ?_ | refine WpC.region ?_ | refine WpC.ret ?_ | refine WpO.nil ?_ | refine WpO.cons rfl rfl (WpX.pure (fun _ => rfl) ⟨nolog, ?_⟩) | refine seqQ_ret ?_ | refine WpO.cons rfl rfl (op_store (k := 4) rfl rfl rfl rfl (MapI.get_same _ _ _) (Nat.le_of_ble_eq_true rfl) rfl ⟨(by simp [InR, Acc.name, Acc.writes, rowName] <;> omega), ?_⟩))
    refine outH_ret (.cellA (k := 4) rfl rfl rfl rfl (MapI.get_same _ _ _) rfl (.tmp rfl .nil)) ?_ ?_
    · intro x hx; simp at hx; subst hx; exact ⟨.inr (Nat.le_refl _), fun h => by cases h⟩
    · rw [eo]; rfl
  have e2 : decide (i ≥ (W.length : Int)) = false := by simpa using h2
  obtain ⟨j, rfl⟩ : ∃ j : Nat, i = j := ⟨i.toNat, by omega⟩
  have hj : j < W.length := by omega
  obtain ⟨w, hw⟩ : ∃ w, W[j]? = some w := ⟨_, List.getElem?_eq_getElem hj⟩
  have hokw : okW w := hok w (List.mem_of_getElem? hw)
  obtain ⟨rfl, sn, cl, junk, rfl, hsn, hg, hjk⟩ := hs j hj
  have hg1 : ∀ {o : AObj}, MapI.get (MapI.set h c o) sn = some (.cells true cl (flat wordV W ++ junk)) := get_set_ne (by omega) hg
  have hz : nth (flat wordV W ++ junk) (0 + ((j : Nat) : Int).toNat * 1) = some (U w) := by
    rw [show 0 + ((j : Nat) : Int).toNat * 1 = j from by simp]; exact nth_flat0 word_len hw rfl junk
  repeat' (first | refine WpC.seq ?_ | refine WpC.region ?_ | refine WpO.nil ?_ | refine WpO.cons rfl rfl (WpX.pure (fun _ => rfl) ⟨nolog, ?_⟩) | refine WpO.cons rfl rfl (op_alloc rfl ⟨(by simp [InR, Acc.name, Acc.writes, rowName] <;> omega), ?_⟩))
  simp only [e1]
  repeat' (first | refine WpO.nil ?_ | refine WpO.cons rfl rfl (WpX.pure (fun _ => rfl) ⟨nolog, ?_⟩) | refine seqQ_normal ?_ | refine WpO.cons rfl rfl (op_load rfl rfl rfl hobj1 rfl ⟨(by simp [InR, Acc.name, Acc.writes, rowName] <;> omega), ?_⟩))
  simp only [e2]
  skip
  refine WpC.cond rfl (fun hb => by cases hb) (fun _ => ?_)
  repeat' (first | refine WpC.seq ?_ | refine WpC.region ?_ | refine WpC.skip ?_ | refine WpO.cons rfl rfl (WpX.pure (fun _ => rfl) ⟨nolog, ?_⟩) | refine WpO.cons rfl rfl (op_load rfl rfl rfl hobj1 rfl ⟨(by simp [InR, Acc.name, Acc.writes, rowName] <;> omega), ?_⟩) | refine WpO.cons rfl rfl (op_indexAddr (k := 1) rfl rfl rfl rfl ⟨by omega, by omega⟩ ⟨(by simp [InR, Acc.name, Acc.writes, rowName] <;> omega), ?_⟩) | refine WpO.cons rfl rfl (op_load rfl rfl rfl hg1 hz ⟨(by simp [InR, Acc.name, Acc.writes, rowName] <;> omega), ?_⟩))
  refine WpO.cons rfl rfl (call_atRR rfl (read_okW hokw) (fun n hn => by cases hn) (by omega) fun v h4 c4 hc4 hfr4 hq => ?_)
  subst hq
  have hgc4 : MapI.get h4 c = some (.cells true true (hdV hd0)) := by rw [hfr4 c (by omega)]; exact MapI.get_same _ _ _
  have hobj4 : MapI.get h4 a = some (.cells true true [.slice (some (sn, 0)) W.length (.upTo 1), I size]) := by rw [hfr4 a (by omega)]; exact hobj1
  have hgc5 : ∀ {o : AObj}, MapI.get (MapI.set h4 c4 o) c = some (.cells true true (hdV hd0)) := get_set_ne (by omega) hgc4
  have hobj5 : ∀ {o p : AObj}, MapI.get (MapI.set (MapI.set h4 c4 o) c4 p) a = some (.cells true true [.slice (some (sn, 0)) W.length (.upTo 1), I size]) := get_set_ne (by omega) (get_set_ne (by omega) hobj4)
  cases hr : readW w with
  | none =>
    have eo : objW W j = none := by
      unfold objW; rw [if_pos ⟨by omega, by omega⟩, show ((j : Nat) : Int).toNat = j from by simp, hw]; simp only [hr]
    repeat' (first | refine WpC.seq ?_ | refine WpC.drawn ?_ | refine WpO.nil ?_ | refine WpO.cons rfl rfl (WpX.pure (fun _ => rfl) ⟨nolog, ?_⟩) | refine WpL.cons rfl rfl (WpX.pure (fun _ => rfl) ⟨nolog, ?_⟩) | refine WpL.skip rfl rfl ?_ | refine WpO.cons rfl rfl (op_alloc rfl ⟨(by simp [InR, Acc.name, Acc.writes, rowName] <;> omega), ?_⟩) | refine WpO.cons rfl rfl (op_store (k := 4) rfl rfl rfl rfl (MapI.get_same _ _ _) (Nat.le_of_ble_eq_true rfl) rfl ⟨(by simp [InR, Acc.name, Acc.writes, rowName] <;> omega), ?_⟩))
    refine WpL.nil rfl ?_
    repeat' (first | refine seqQ_normal ?_)
    refine WpC.cond rfl (fun _ => ?_) (fun hb => by cases hb)
    repeat' (first | refine WpC.seq ?_ | refine WpC.region ?_ | refine WpC.ret ?_ | refine WpO.nil ?_ | refine WpO.cons rfl rfl (WpX.pure (fun _ => rfl) ⟨nolog, ?_⟩) | refine seqQ_ret ?_ | refine WpO.cons rfl rfl (op_store (k := 4) rfl rfl rfl rfl (get_set_ne (by omega) hgc5) (Nat.le_of_ble_eq_true rfl) rfl ⟨(by simp [InR, Acc.name, Acc.writes, rowName] <;> omega), ?_⟩))
    refine outH_ret (.cellA (k := 4) rfl rfl rfl rfl (MapI.get_same _ _ _) rfl (.tmp rfl .nil)) ?_ ?_
    · intro x hx; simp at hx; subst hx; exact ⟨.inr (Nat.le_refl _), fun h => by cases h⟩
    · rw [eo]; rfl
  | some x =>
    have hx := (read_ok hr).1
    unfold okH at hx
    have w1 : IntKind.i64.wrap ((W.length : Int) - (j : Int)) = W.length - j := Go.IntWalk.i64_in _ (by omega)
    have gx : ∀ {o : AObj}, MapI.get (MapI.set (MapI.set h4 c4 o) c4 (.cells true true (setAll (cellsV (V.agg (hdV hd0))) 0 (hdV x)))) c4 = some (.cells true true (hdV x)) := MapI.get_same _ _ _
    by_cases h3 : x.size ≥ (W.length : Int) - j
    · have e3 : decide (x.size ≥ IntKind.i64.wrap ((W.length : Int) - (j : Int))) = true := by rw [w1]; simpa using h3
      have eo : objW W j = none := by
        unfold objW; rw [if_pos ⟨by omega, by omega⟩, show ((j : Nat) : Int).toNat = j from by simp, hw]; simp only [hr]; rw [if_neg (by omega)]
      repeat' (first | refine WpC.seq ?_ | refine WpC.drawn ?_ | refine WpO.nil ?_ | refine WpO.cons rfl rfl (WpX.pure (fun _ => rfl) ⟨nolog, ?_⟩) | refine WpL.cons rfl rfl (WpX.pure (fun _ => rfl) ⟨nolog, ?_⟩) | refine WpO.cons rfl rfl (op_alloc rfl ⟨(by simp [InR, Acc.name, Acc.writes, rowName] <;> omega), ?_⟩) | refine WpO.cons rfl rfl (op_store (k := 4) rfl rfl rfl rfl (MapI.get_same _ _ _) (Nat.le_of_ble_eq_true rfl) rfl ⟨(by simp [InR, Acc.name, Acc.writes, rowName] <;> omega), ?_⟩) | refine WpL.cons rfl rfl (op_load rfl rfl rfl gx rfl ⟨(by simp [InR, Acc.name, Acc.writes, rowName] <;> omega), ?_⟩) | refine WpL.cons rfl rfl (op_load rfl rfl rfl hobj5 rfl ⟨(by simp [InR, Acc.name, Acc.writes, rowName] <;> omega), ?_⟩))
      simp only [e3]
      skip
      refine WpL.nil (logsOk_reads (by simp only [List.nil_append, List.cons_append, anyWrite, List.any_nil, List.any_cons, accw_rd, Bool.or_self])) ?_
      repeat' (first | refine seqQ_normal ?_)
      refine WpC.cond rfl (fun _ => ?_) (fun hb => by cases hb)
      repeat' (first | refine WpC.seq ?_ | refine WpC.region ?_ | refine WpC.ret ?_ | refine WpO.nil ?_ | refine WpO.cons rfl rfl (WpX.pure (fun _ => rfl) ⟨nolog, ?_⟩) | refine seqQ_ret ?_ | refine WpO.cons rfl rfl (op_store (k := 4) rfl rfl rfl rfl (get_set_ne (by omega) hgc5) (Nat.le_of_ble_eq_true rfl) rfl ⟨(by simp [InR, Acc.name, Acc.writes, rowName] <;> omega), ?_⟩))
      refine outH_ret (.cellA (k := 4) rfl rfl rfl rfl (MapI.get_same _ _ _) rfl (.tmp rfl .nil)) ?_ ?_
      · intro x hx; simp at hx; subst hx; exact ⟨.inr (Nat.le_refl _), fun h => by cases h⟩
      · rw [eo]; rfl
    · have e3 : decide (x.size ≥ IntKind.i64.wrap ((W.length : Int) - (j : Int))) = false := by rw [w1]; simpa using h3
      have eo : objW W j = some x := objW_mk hw hr (by omega)
      repeat' (first | refine WpC.seq ?_ | refine WpC.drawn ?_ | refine WpO.nil ?_ | refine WpO.cons rfl rfl (WpX.pure (fun _ => rfl) ⟨nolog, ?_⟩) | refine WpL.cons rfl rfl (WpX.pure (fun _ => rfl) ⟨nolog, ?_⟩) | refine WpO.cons rfl rfl (op_alloc rfl ⟨(by simp [InR, Acc.name, Acc.writes, rowName] <;> omega), ?_⟩) | refine WpO.cons rfl rfl (op_store (k := 4) rfl rfl rfl rfl (MapI.get_same _ _ _) (Nat.le_of_ble_eq_true rfl) rfl ⟨(by simp [InR, Acc.name, Acc.writes, rowName] <;> omega), ?_⟩) | refine WpL.cons rfl rfl (op_load rfl rfl rfl gx rfl ⟨(by simp [InR, Acc.name, Acc.writes, rowName] <;> omega), ?_⟩) | refine WpL.cons rfl rfl (op_load rfl rfl rfl hobj5 rfl ⟨(by simp [InR, Acc.name, Acc.writes, rowName] <;> omega), ?_⟩))
      simp only [e3]
      skip
      refine WpL.nil (logsOk_reads (by simp only [List.nil_append, List.cons_append, anyWrite, List.any_nil, List.any_cons, accw_rd, Bool.or_self])) ?_
      repeat' (first | refine seqQ_normal ?_)
      refine WpC.cond rfl (fun hb => by cases hb) (fun _ => ?_)
      repeat' (first | refine WpC.seq ?_ | refine WpC.region ?_ | refine WpC.skip ?_ | refine WpC.ret ?_ | refine WpO.nil ?_ | refine WpO.cons rfl rfl (WpX.pure (fun _ => rfl) ⟨nolog, ?_⟩) | refine WpO.cons rfl rfl (op_loadA (k := 4) rfl rfl rfl rfl gx rfl ⟨(by simp [InR, Acc.name, Acc.writes, rowName] <;> omega), ?_⟩) | refine WpO.cons rfl rfl (op_store (k := 4) rfl rfl rfl rfl (get_set_ne (by omega) hgc5) (Nat.le_of_ble_eq_true rfl) rfl ⟨(by simp [InR, Acc.name, Acc.writes, rowName] <;> omega), ?_⟩))
      refine outH_ret (.cellA (k := 4) rfl rfl rfl rfl (MapI.get_same _ _ _) rfl (.tmp rfl .nil)) ?_ ?_
      · intro x hx; simp at hx; subst hx; exact ⟨.inr (Nat.le_refl _), fun h => by cases h⟩
      · rw [eo]; rfl
end
end Go.Proofs.Ytcenbfjhhaialaa


set_option linter.unusedVariables false
set_option linter.unusedSectionVars false
set_option linter.unusedSimpArgs false
set_option linter.unnecessarySimpa false
namespace Go.Proofs.Ytcenbfjhhaialaa
open Go.Ab
set_option maxRecDepth 10000

section
variable {α : Type} {k : Nat} {cells : α → List V} {h h' : HH} {c c' : Nat} {e : EE}
variable {call : Nat → Tgt → List V → M HH V} {ds : Option Tmp} {ty : Nat} {pos : String} {af : Array Edge} {gd : Option (Nat × Bool)}
/-- One more, onto a list of the call's own: the row of one stands at the last new name. -/
theorem append1 {st el xt el' m c0 : Nat} {ms : List Nat} {args : Array Operand} {ats : Array Nat} {v : V} {y : α} {cap' : Cap} {rw cl : Bool} {xs : List α} {K : V → HH → Nat → Prop}
    (ha : evs cx e args.toList = some [v, .slice (some (m, 0)) 1 cap']) (ht : ats.toList = [st, xt]) (T : ElT cx st el k) (hxt : cx.desc xt = some (.slice el')) (hk : ∀ x, (cells x).length = k + 1) (h1 : ∀ x, (cells x).all one1 = true)
    (r : ListOf (k + 1) cells h c v xs) (hx : MapI.get h m = some (.cells rw cl (cells y))) (hle : xs.length < 1000000000) (hm : c0 ≤ m) (hv : ∀ n ∈ rowName v, n ∈ ms ∨ c0 ≤ n) (hc0 : c0 ≤ c)
    (kk : ∀ v' h' c', ListOf (k + 1) cells h' c' v' (xs ++ [y]) → (∀ a ∈ rowName v', a ∈ rowName v ∨ c ≤ a) → c ≤ c' → (∀ a, a ≠ c → a ∉ rowName v → MapI.get h' a = MapI.get h a) → K v' h' c') :
    WpX (fun n => opM cx (evFn EE cx pr n) e ⟨ds, .call ⟨.builtin .append, args, ats⟩, ty, pos, af, gd⟩) h c fun v h' c' al => (∀ x ∈ al, InL ms c0 x) ∧ K v h' c' := by
  have hc : cut (cells y) 0 (1 * (k + 1)) = some (flat cells [y]) := by
    rw [Nat.one_mul, ← hk y, cut_all]; simp [flat]
  exact append_at (ys := [y]) ha ht T hxt hk h1 r hx hc rfl (by omega) (.inr hm) (fun a ha => ⟨hv a ha, hv a ha⟩) (.inr hc0) fun v' h' c' r' hn' hc' hf' => kk v' h' c' r' (fun a ha => (hn' a ha).imp id fun x => by omega) hc' hf'
end

section
variable {h h' : HH} {c c' a : Nat} {vW : V} {W : List Int} {size : Int}
abbrev places (l : List (Nat × Hd)) : List Int := l.map fun p => ((p.1 : Nat) : Int)
theorem places_le {i : Nat} {l : List (Nat × Hd)} (r : ObjsFrom W i l) : l.length + i ≤ W.length := by
  induction r with
  | nil => simp
  | cons hx _ ih =>
    simp only [List.length_cons]; omega

theorem objects_ok {l : List (Nat × Hd)} (r : ArAt h c a vW W size) (ho : ObjsFrom W 0 l) : Does 31 [.ptr (some (a, 0))] h c (an a vW) fun v h' c' => ∃ vL, v = .tuple [vL, .bool true] ∧ ListOf 1 intV h' c' vL (places l) ∧ (∀ n ∈ rowName vL, c ≤ n) ∧ ∀ n, n < c → MapI.get h' n = MapI.get h n := by
  have hmx := r.mx
  have hle := r.le
  have hla := r.la
  refine does_of (enter (fn := Try.f31) Try.func31 rfl rfl (Nat.le_of_ble_eq_true rfl) ?_)
  repeat' (first | refine WpC.seq ?_ | refine WpC.region ?_ | refine WpC.block ?_ | refine WpO.nil ?_ | refine WpO.cons rfl rfl (WpX.pure (fun _ => rfl) ⟨nolog, ?_⟩))
  refine WpC.loop ?_
  refine WpLoop.ind (X := Nat × V × List (Nat × Hd) × List (Nat × Hd)) (fun x e h' c' => (∃ b0, e = MapI.set (MapI.set (MapI.set b0 0 (.ptr (some (a, 0)))) 4 x.2.1) 5 (I x.1)) ∧ l = x.2.2.1 ++ x.2.2.2 ∧ ObjsFrom W x.1 x.2.2.2 ∧ ListOf (0 + 1) intV h' c' x.2.1 (places x.2.2.1) ∧ (∀ n ∈ rowName x.2.1, c ≤ n) ∧ c ≤ c' ∧ ∀ n, n < c → MapI.get h' n = MapI.get h n)
    (fun x => x.2.2.2.length) ?_ (0, .slice none 0 (.known 0), [], l) _ _ _ ⟨set3 rfl rfl rfl, rfl, ho, .nil, fun n hn => (by cases hn), Nat.le_refl _, fun n _ => rfl⟩
  rintro ⟨i, v, done, todo⟩ e h' c' ⟨⟨b0, rfl⟩, hl, ht, hv, hn, hc, hfr⟩
  simp only at hl ht hv hn
  have r' := r.same hc hfr
  have htl := places_le ht
  have hdl : done.length ≤ W.length := by have := places_le ho; rw [hl, List.length_append] at this; omega
  repeat' (first | refine WpC.seq ?_ | refine WpC.region ?_ | refine WpO.cons rfl rfl (WpX.pure (fun _ => rfl) ⟨nolog, ?_⟩))
  refine WpO.cons rfl rfl (call_atD rfl (used_ok r') (fun n hn => .inl hn) hc fun v4 h4 c4 hc4 hfr4 hq => ?_)
  obtain ⟨rfl, rfl, rfl⟩ := hq
  repeat' (first | refine WpO.nil ?_ | refine WpO.cons rfl rfl (WpX.pure (fun _ => rfl) ⟨nolog, ?_⟩) | refine seqQ_normal ?_)
  refine WpC.cond rfl (fun hlt => ?_) (fun hge => ?_)
  case refine_2 =>
    have hge : W.length ≤ i := by simpa using hge
    cases ht with
    | nil =>
      repeat' (first | refine WpC.seq ?_ | refine WpC.region ?_ | refine WpC.exit ?_ | refine WpC.ret ?_ | refine WpO.nil ?_ | refine WpO.cons rfl rfl (WpX.pure (fun _ => rfl) ⟨nolog, ?_⟩))
      rw [List.append_nil] at hl
      subst hl
      exact out_ret rfl ⟨_, rfl, hv, hn, hfr⟩
    | cons hx ht =>
      obtain ⟨j, w, e, hw, _, _, _⟩ := objW_some hx
      have := (List.getElem?_eq_some_iff.1 hw).1
      omega
  have hlt : i < W.length := by simpa using hlt
  generalize hi : i = i' at ht
  cases ht with
  | nil => omega
  | @cons _ x todo hx ht =>
  subst hi
  obtain ⟨j, w, ej, hw, hr, hsz, hxok⟩ := objW_some hx
  have hji : j = i := by omega
  subst hji
  unfold okH at hxok
  have w1 : IntKind.i64.wrap ((1 : Int) + x.size) = 1 + x.size := Go.IntWalk.i64_in _ (by omega)
  have w2 : IntKind.i64.wrap ((j : Int) + IntKind.i64.wrap ((1 : Int) + x.size)) = ((j + 1 + x.size.toNat : Nat) : Int) := by rw [w1, Go.IntWalk.i64_in _ (by omega)]; omega
  repeat' (first | refine WpC.seq ?_ | refine WpC.region ?_ | refine WpC.skip ?_ | refine WpC.block ?_ | refine WpO.cons rfl rfl (WpX.pure (fun _ => rfl) ⟨nolog, ?_⟩))
  refine WpO.cons rfl rfl (call_atD rfl (object_ok r') (fun n hn => .inl hn) hc fun v4 h4 c4 hc4 hfr4 hq => ?_)
  rw [hx] at hq
  subst hq
  have hgx : ∀ {o p : AObj}, MapI.get (MapI.set (MapI.set h4 c4 o) c4 p) c4 = some p := MapI.get_same _ _ _
  have hv4 : ∀ {o p q : AObj}, ListOf (0 + 1) intV (MapI.set (MapI.set (MapI.set h4 c4 o) c4 p) (c4 + 1) q) (c4 + 1 + 1) v (places done) := fun {o p q} => hv.keep (by omega) fun n hn _ => by
    rw [MapI.get_ne _ _ _ _ (by omega), MapI.get_ne _ _ _ _ (by omega), MapI.get_ne _ _ _ _ (by omega)]; exact hfr4 n hn
  have hb4 : ∀ {g : HH} {q : AObj}, MapI.get (MapI.set g (c4 + 1) q) (c4 + 1) = some q := MapI.get_same _ _ _
  have hvl := hv.lt
  repeat' (first | refine WpC.seq ?_ | refine WpC.region ?_ | refine WpO.nil ?_ | refine WpO.cons rfl rfl (WpX.pure (fun _ => rfl) ⟨nolog, ?_⟩) | refine seqQ_normal ?_ | refine WpO.cons rfl rfl (op_alloc rfl ⟨(by simp [InL, Acc.name, rowName] <;> omega), ?_⟩) | refine WpO.cons rfl rfl (op_store (k := 4) rfl rfl rfl rfl (MapI.get_same _ _ _) (Nat.le_of_ble_eq_true rfl) rfl ⟨(by simp [InL, Acc.name, rowName] <;> omega), ?_⟩))
  refine WpC.cond rfl (fun hb => by cases hb) (fun _ => ?_)
  repeat' (first | refine WpC.seq ?_ | refine WpC.region ?_ | refine WpC.skip ?_ | refine WpO.cons rfl rfl (WpX.pure (fun _ => rfl) ⟨nolog, ?_⟩) | refine WpO.cons rfl rfl (op_buildSlice (k := 1) rfl rfl rfl rfl (by decide) rfl ⟨(by simp [InL, Acc.name, rowName] <;> omega), ?_⟩))
  refine WpO.cons rfl rfl (append1 (y := (j : Int)) rfl rfl ⟨rfl, rfl, rfl, ⟨_, rfl, by decide⟩⟩ rfl int_len int_all hv4 hb4 (by simp only [List.length_map]; omega) (by omega) (fun n h => .inr (hn n h)) (by omega) fun v5 h5 c5 r5 hn5 hc5 hf5 => ?_)
  have hgx5 : MapI.get h5 c4 = some (.cells true true (hdV x)) := by
    rw [hf5 c4 (by omega) (fun hm => by have := hvl c4 hm; omega), MapI.get_ne _ _ _ _ (by omega)]; exact MapI.get_same _ _ _
  repeat' (first | refine WpC.region ?_ | refine WpO.nil ?_ | refine WpO.cons rfl rfl (WpX.pure (fun _ => rfl) ⟨nolog, ?_⟩) | refine seqQ_normal ?_ | refine blkQ_normal ?_ | refine WpO.cons rfl rfl (op_load rfl rfl rfl hgx5 rfl ⟨(by simp [InL, Acc.name, rowName] <;> omega), ?_⟩))
  refine ⟨(j + 1 + x.size.toNat, v5, done ++ [(j, x)], todo), by simp only [List.length_cons]; omega, ?_, by simp [hl], ht, ?_, fun n h => ?_, by omega, fun n h => ?_⟩
  · rw [w2]
    exact set3 rfl rfl rfl
  · simpa [places] using r5
  · rcases hn5 n h with h | h
    · exact hn n h
    · omega
  · rw [hf5 n (by omega) (fun hm => by have := hn n hm; omega), MapI.get_ne _ _ _ _ (by omega), MapI.get_ne _ _ _ _ (by omega), MapI.get_ne _ _ _ _ (by omega), hfr4 n (by omega)]
    exact hfr n h
end
end Go.Proofs.Ytcenbfjhhaialaa


set_option linter.unusedVariables false
set_option linter.unusedSectionVars false
set_option linter.unusedSimpArgs false
set_option linter.unnecessarySimpa false
namespace Go.Proofs.Ytcenbfjhhaialaa
open Go.Ab

inductive Reach (W : List Int) (l : List (Nat × Hd)) (R : List Int) : Nat → Prop where
  | root {w : Int} {p : Nat} : w ∈ R → tagW w = 5 → valW w = (p : Nat) → Reach W l R p
  | field {p q k : Nat} {x : Hd} {w : Int} : Reach W l R p → (p, x) ∈ l → (k : Int) < fieldsH x → W[p + 1 + k]? = some w → tagW w = 5 → valW w = (q : Nat) → Reach W l R q
noncomputable def liveOf (W : List Int) (l : List (Nat × Hd)) (R : List Int) : List (Nat × Hd) := l.filter fun p => @decide (Reach W l R p.1) (Classical.propDecidable _)
theorem mem_live {W : List Int} {l : List (Nat × Hd)} {R : List Int} {p : Nat × Hd} : p ∈ liveOf W l R ↔ p ∈ l ∧ Reach W l R p.1 := by
  unfold liveOf
  rw [List.mem_filter]
  exact ⟨fun ⟨a, b⟩ => ⟨a, @of_decide_eq_true _ (Classical.propDecidable _) b⟩, fun ⟨a, b⟩ => ⟨a, @decide_eq_true _ (Classical.propDecidable _) b⟩⟩

theorem sorted_ext : ∀ {a b : List Nat}, a.Pairwise (· < ·) → b.Pairwise (· < ·) → (∀ x, x ∈ a ↔ x ∈ b) → a = b
  | [], [], _, _, _ => rfl
  | [], y :: b, _, _, h => by have := (h y).2 (List.mem_cons_self ..); cases this
  | x :: a, [], _, _, h => by have := (h x).1 (List.mem_cons_self ..); cases this
  | x :: a, y :: b, ha, hb, h => by
    obtain ⟨ha1, ha2⟩ := List.pairwise_cons.1 ha
    obtain ⟨hb1, hb2⟩ := List.pairwise_cons.1 hb
    have e : x = y := by
      rcases List.mem_cons.1 ((h x).1 (List.mem_cons_self ..)) with e | e
      · exact e
      · rcases List.mem_cons.1 ((h y).2 (List.mem_cons_self ..)) with e' | e'
        · exact e'.symm
        · have := hb1 x e; have := ha1 y e'; omega
    subst e
    rw [sorted_ext ha2 hb2 fun z => ⟨fun hz => by
      rcases List.mem_cons.1 ((h z).1 (List.mem_cons_of_mem _ hz)) with e | e
      · subst e; have := ha1 z hz; omega
      · exact e, fun hz => by
      rcases List.mem_cons.1 ((h z).2 (List.mem_cons_of_mem _ hz)) with e | e
      · subst e; have := hb1 z hz; omega
      · exact e⟩]
theorem ObjsFrom.sorted {W : List Int} {i : Nat} {l : List (Nat × Hd)} (r : ObjsFrom W i l) : (l.map Prod.fst).Pairwise (· < ·) := by
  induction r with
  | nil => exact .nil
  | cons hx r ih =>
    rename_i i x l
    refine List.pairwise_cons.2 ⟨fun y hy => ?_, ih⟩
    obtain ⟨p, hp, rfl⟩ := List.mem_map.1 hy
    have := (r.mem p hp).1
    show i < p.1
    omega
theorem ObjsFrom.fst_inj {W : List Int} {i : Nat} {l : List (Nat × Hd)} (r : ObjsFrom W i l) {p : Nat} {x y : Hd} (hx : (p, x) ∈ l) (hy : (p, y) ∈ l) : x = y := by
  have h1 := (r.mem _ hx).2
  have h2 := (r.mem _ hy).2
  simp only at h1 h2
  rw [h1] at h2
  exact Option.some.inj h2
theorem live_sorted {W : List Int} {l : List (Nat × Hd)} {R : List Int} {i : Nat} (r : ObjsFrom W i l) : ((liveOf W l R).map Prod.fst).Pairwise (· < ·) := by
  unfold liveOf
  exact List.Pairwise.sublist (List.Sublist.map _ List.filter_sublist) r.sorted
/-- What is reached is an object. -/
theorem Reach.obj {W : List Int} {l : List (Nat × Hd)} {R : List Int} (s : SoundW W R l) {p : Nat} (r : Reach W l R p) : ∃ x, (p, x) ∈ l := by
  cases r with
  | root hw ht hv =>
    obtain ⟨q, hq, e⟩ := (s.roots _ hw).2.2 ht
    have : q.1 = p := by omega
    exact ⟨q.2, by rw [← this]; exact hq⟩
  | field hr hm hk hw ht hv =>
    obtain ⟨q, hq, e⟩ := (s.fields _ hm _ _ hk hw).2.2 ht
    have : q.1 = p := by omega
    exact ⟨q.2, by rw [← this]; exact hq⟩

/-- The marks. -/
def marks (n : Nat) (ps : List Nat) : List Bool := (List.range n).map fun i => ps.contains i
theorem marks_len (n : Nat) (ps : List Nat) : (marks n ps).length = n := by simp [marks]
theorem marks_nil (n : Nat) : marks n [] = List.replicate n false := by
  unfold marks
  refine List.ext_getElem (by simp) fun i h1 h2 => ?_
  simp
theorem marks_get {n i : Nat} (ps : List Nat) (h : i < n) : (marks n ps)[i]? = some (ps.contains i) := by
  unfold marks
  rw [List.getElem?_map, List.getElem?_range h]; rfl
theorem marks_set {n i : Nat} (ps : List Nat) (h : i < n) : (marks n ps).set i true = marks n (i :: ps) := by
  refine List.ext_getElem? fun j => ?_
  by_cases hj : j < n
  · rw [marks_get _ hj, List.getElem?_set]
    by_cases e : i = j
    · subst e; rw [if_pos rfl, if_pos (by rw [marks_len]; exact h)]; simp
    · rw [if_neg e, marks_get _ hj]
      have : (j == i) = false := by simpa using fun h => e h.symm
      simp [List.contains_cons, this]
      exact fun h => absurd h.symm e
  · rw [List.getElem?_eq_none (by simp [marks_len]; omega), List.getElem?_eq_none (by simp [marks_len]; omega)]

/-- The state of the search: the objects that are marked, the words that are still to be looked at. -/
structure Search (W : List Int) (l : List (Nat × Hd)) (R : List Int) (S : List Nat) (T : List Int) : Prop where
  roots : ∀ w ∈ R, ∀ p : Nat, tagW w = 5 → valW w = (p : Nat) → p ∈ S ∨ w ∈ T
  fields : ∀ p ∈ S, ∀ (x : Hd) (k q : Nat) (w : Int), (p, x) ∈ l → (k : Int) < fieldsH x → W[p + 1 + k]? = some w → tagW w = 5 → valW w = (q : Nat) → q ∈ S ∨ w ∈ T
  reach : ∀ p ∈ S, Reach W l R p
  todo : ∀ w ∈ T, okField l w ∧ ∀ p : Nat, tagW w = 5 → valW w = (p : Nat) → Reach W l R p
  nodup : S.Nodup
theorem Search.start {W : List Int} {l : List (Nat × Hd)} {R : List Int} (s : SoundW W R l) : Search W l R [] R :=
  ⟨fun w hw p _ _ => .inr hw, fun p hp => (by cases hp), fun p hp => (by cases hp), fun w hw => ⟨s.roots w hw, fun p h1 h2 => .root hw h1 h2⟩, .nil⟩
/-- A word that is no pointer, or points at what is marked, is left. -/
theorem Search.drop {W : List Int} {l : List (Nat × Hd)} {R : List Int} {S : List Nat} {T : List Int} {w : Int} (s : Search W l R S (T ++ [w])) (h : ∀ p : Nat, tagW w = 5 → valW w = (p : Nat) → p ∈ S) : Search W l R S T := by
  refine ⟨fun w' hw p h1 h2 => ?_, fun p hp x k q w' hx hk hw h1 h2 => ?_, s.reach, fun w' hw => s.todo w' (List.mem_append_left _ hw), s.nodup⟩
  · rcases s.roots w' hw p h1 h2 with h' | h'
    · exact .inl h'
    · rcases List.mem_append.1 h' with h' | h'
      · exact .inr h'
      · simp at h'; subst h'; exact .inl (h p h1 h2)
  · rcases s.fields p hp x k q w' hx hk hw h1 h2 with h' | h'
    · exact .inl h'
    · rcases List.mem_append.1 h' with h' | h'
      · exact .inr h'
      · simp at h'; subst h'; exact .inl (h q h1 h2)
/-- A word that points at what is not marked yet: it is marked, its fields are to be looked at. -/
theorem Search.mark {W : List Int} {l : List (Nat × Hd)} {R : List Int} {S : List Nat} {T fs : List Int} {w : Int} {p : Nat} {x : Hd} (so : SoundW W R l) (s : Search W l R S (T ++ [w])) (ht : tagW w = 5) (hv : valW w = (p : Nat)) (hx : (p, x) ∈ l) (hp : p ∉ S)
    (hfs : ∀ w', w' ∈ fs ↔ ∃ k : Nat, (k : Int) < fieldsH x ∧ W[p + 1 + k]? = some w') : Search W l R (p :: S) (T ++ fs) := by
  have hr : Reach W l R p := (s.todo w (by simp)).2 p ht hv
  refine ⟨fun w' hw q h1 h2 => ?_, fun q hq y k z w' hy hk hw h1 h2 => ?_, fun q hq => ?_, fun w' hw => ?_, List.nodup_cons.2 ⟨hp, s.nodup⟩⟩
  · rcases s.roots w' hw q h1 h2 with h' | h'
    · exact .inl (List.mem_cons_of_mem _ h')
    · rcases List.mem_append.1 h' with h' | h'
      · exact .inr (List.mem_append_left _ h')
      · simp at h'; subst h'; left
        have : q = p := by omega
        simp [this]
  · rcases List.mem_cons.1 hq with rfl | hq
    · rw [so.objs.fst_inj hy hx] at hk
      exact .inr (List.mem_append_right _ ((hfs w').2 ⟨k, hk, hw⟩))
    · rcases s.fields q hq y k z w' hy hk hw h1 h2 with h' | h'
      · exact .inl (List.mem_cons_of_mem _ h')
      · rcases List.mem_append.1 h' with h' | h'
        · exact .inr (List.mem_append_left _ h')
        · simp at h'; subst h'; left
          have : z = p := by omega
          simp [this]
  · rcases List.mem_cons.1 hq with rfl | hq
    · exact hr
    · exact s.reach q hq
  · rcases List.mem_append.1 hw with h | h
    · exact s.todo w' (List.mem_append_left _ h)
    · obtain ⟨k, hk, hw'⟩ := (hfs w').1 h
      exact ⟨so.fields _ hx k w' hk hw', fun q h1 h2 => .field hr hx hk hw' h1 h2⟩
/-- At its end what is marked is what is reached. -/
theorem Search.all {W : List Int} {l : List (Nat × Hd)} {R : List Int} {S : List Nat} (s : Search W l R S []) {p : Nat} (r : Reach W l R p) : p ∈ S := by
  induction r with
  | root hw h1 h2 => rcases s.roots _ hw _ h1 h2 with h | h; exact h; cases h
  | field hr hx hk hw h1 h2 ih => rcases s.fields _ ih _ _ _ _ hx hk hw h1 h2 with h | h; exact h; cases h
theorem Search.places {W : List Int} {l : List (Nat × Hd)} {R : List Int} {S : List Nat} (so : SoundW W R l) (s : Search W l R S []) : (List.range W.length).filter (fun i => S.contains i) = (liveOf W l R).map Prod.fst := by
  refine sorted_ext (List.Pairwise.sublist List.filter_sublist List.pairwise_lt_range) (live_sorted so.objs) fun p => ?_
  rw [List.mem_filter, List.mem_map]
  constructor
  · rintro ⟨_, h⟩
    have hp : p ∈ S := by simpa using h
    obtain ⟨x, hx⟩ := (s.reach p hp).obj so
    exact ⟨(p, x), mem_live.2 ⟨hx, s.reach p hp⟩, rfl⟩
  · rintro ⟨q, hq, rfl⟩
    obtain ⟨h1, h2⟩ := mem_live.1 hq
    obtain ⟨j, w, e, hw, _⟩ := objW_some (so.objs.mem q h1).2
    have := (List.getElem?_eq_some_iff.1 hw).1
    refine ⟨List.mem_range.2 (by omega), by simpa using s.all h2⟩
theorem Search.small {W : List Int} {l : List (Nat × Hd)} {R : List Int} {S : List Nat} {T : List Int} (so : SoundW W R l) (s : Search W l R S T) : S.length ≤ W.length := by
  have hsub : ∀ p ∈ S, p ∈ List.range W.length := fun p hp => by
    obtain ⟨x, hx⟩ := (s.reach p hp).obj so
    obtain ⟨j, w, e, hw, _⟩ := objW_some (so.objs.mem _ hx).2
    have := (List.getElem?_eq_some_iff.1 hw).1
    simp only at e
    exact List.mem_range.2 (by omega)
  have := List.Nodup.length_le_of_subset s.nodup hsub
  simpa using this
end Go.Proofs.Ytcenbfjhhaialaa


set_option linter.unusedVariables false
set_option linter.unusedSectionVars false
set_option linter.unusedSimpArgs false
set_option linter.unnecessarySimpa false
namespace Go.Proofs.Ytcenbfjhhaialaa
open Go.Ab
set_option maxRecDepth 10000

section
variable {h h' : HH} {c c' a : Nat} {vW vR vI : V} {W R : List Int} {size : Int}

theorem sound_word {w : Int} {bs : List Bool} (hw : okW w) (ri : RowOf 1 boolV h c vI bs) (hlen : bs.length ≤ 1048576) (h6 : tagW w ≠ 6) (h7 : tagW w ≠ 7) (h5 : tagW w = 5 → ∃ j : Nat, valW w = j ∧ bs[j]? = some true) :
    DoesR 61 [U w, vI] h c (rowName vI) fun v h' c' => v = .bool true ∧ h = h' ∧ c = c' := by
  have e6 : (tagW w == 6) = false := by simpa using h6
  have e7 : (tagW w == 7) = false := by simpa using h7
  refine doesR_of (enter (fn := Try.f61) Try.func61 rfl rfl (Nat.le_of_ble_eq_true rfl) ?_)
  repeat' (first | refine WpC.seq ?_ | refine WpC.region ?_ | refine WpO.nil ?_ | refine WpO.cons rfl rfl (WpX.pure (fun _ => rfl) ⟨nolog, ?_⟩))
  refine WpO.cons rfl rfl (call_atRR rfl (tag_okR hw) (fun n hn => by cases hn) (Nat.le_refl _) fun v h4 c4 hc4 hfr4 hq => ?_)
  obtain ⟨rfl, rfl, rfl⟩ := hq
  repeat' (first | refine WpC.seq ?_ | refine WpC.region ?_ | refine WpC.block ?_ | refine WpO.nil ?_ | refine WpO.cons rfl rfl (WpX.pure (fun _ => rfl) ⟨nolog, ?_⟩) | refine seqQ_normal ?_)
  refine WpC.cond rfl (fun hb => by rw [e6] at hb; cases hb) (fun _ => ?_)
  repeat' (first | refine WpC.region ?_ | refine WpO.nil ?_ | refine WpO.cons rfl rfl (WpX.pure (fun _ => rfl) ⟨nolog, ?_⟩) | refine seqQ_normal ?_)
  refine WpC.cond rfl (fun hb => by rw [e7] at hb; cases hb) (fun _ => ?_)
  by_cases t5 : tagW w = 5
  case neg =>
    have e5 : (tagW w == 5) = false := by simpa using t5
    repeat' (first | refine WpC.seq ?_ | refine WpC.region ?_ | refine WpO.nil ?_ | refine WpO.cons rfl rfl (WpX.pure (fun _ => rfl) ⟨nolog, ?_⟩) | refine seqQ_normal ?_)
    refine WpC.cond rfl (fun hb => by rw [e5] at hb; cases hb) (fun _ => ?_)
    repeat' (first | refine WpC.seq ?_ | refine WpC.region ?_ | refine WpC.skip ?_ | refine WpC.ret ?_ | refine WpO.nil ?_ | refine WpO.cons rfl rfl (WpX.pure (fun _ => rfl) ⟨nolog, ?_⟩))
    exact out_ret rfl ⟨rfl, rfl, rfl⟩
  have e5 : (tagW w == 5) = true := by simpa using t5
  obtain ⟨j, hv, hj⟩ := h5 t5
  have hjl := (List.getElem?_eq_some_iff.1 hj).1
  obtain ⟨s, cap, rfl, hs⟩ := ri.shape
  obtain ⟨m, cl, junk, rfl, hm, hg⟩ := hs j hjl
  have e1 : decide ((j : Int) ≥ 0) = true := by simp
  have e2 : decide ((j : Int) < (bs.length : Int)) = true := by simp; omega
  have hz : nth (flat boolV bs ++ junk) (0 + ((j : Nat) : Int).toNat * 1) = some (.bool true) := by
    rw [show 0 + ((j : Nat) : Int).toNat * 1 = j from by simp]; exact nth_flat0 bool_len hj rfl junk
  repeat' (first | refine WpC.seq ?_ | refine WpC.region ?_ | refine WpO.nil ?_ | refine WpO.cons rfl rfl (WpX.pure (fun _ => rfl) ⟨nolog, ?_⟩) | refine seqQ_normal ?_)
  refine WpC.cond rfl (fun _ => ?_) (fun hb => by rw [e5] at hb; cases hb)
  repeat' (first | refine WpC.seq ?_ | refine WpC.region ?_ | refine WpO.cons rfl rfl (WpX.pure (fun _ => rfl) ⟨nolog, ?_⟩))
  refine WpO.cons rfl rfl (call_atRR rfl (val_okR hw) (fun n hn => by cases hn) (Nat.le_refl _) fun v h4 c4 hc4 hfr4 hq => ?_)
  obtain ⟨rfl, rfl, rfl⟩ := hq
  rw [hv]
  repeat' (first | refine WpC.seq ?_ | refine WpC.region ?_ | refine WpO.nil ?_ | refine WpO.cons rfl rfl (WpX.pure (fun _ => rfl) ⟨nolog, ?_⟩))
  simp only [e1]
  skip
  simp only [e2]
  repeat' (first | refine WpC.ret ?_ | refine WpO.nil ?_ | refine WpO.cons rfl rfl (WpX.pure (fun _ => rfl) ⟨nolog, ?_⟩) | refine seqQ_ret ?_ | refine blkQ_ret ?_ | refine WpO.cons rfl rfl (op_indexAddr (k := 1) rfl rfl rfl rfl ⟨by omega, by omega⟩ ⟨(by simp [InR, Acc.name, Acc.writes, rowName] <;> omega), ?_⟩) | refine WpO.cons rfl rfl (op_load rfl rfl rfl hg hz ⟨(by simp [InR, Acc.name, Acc.writes, rowName] <;> omega), ?_⟩))
  exact out_ret rfl ⟨rfl, rfl, rfl⟩

/-- slices.Clone of words. -/
theorem clone_words (rr : RowOf 1 wordV h c vR R) (hlen : R.length ≤ 1000000000) : Does 63 [vR] h c (rowName vR) fun v h' c' => (ListOf 1 wordV h' c' v R ∨ (R = [] ∧ ∃ b cap, v = .slice b 0 cap)) ∧ (∀ n ∈ rowName v, c ≤ n) ∧ ∀ n, n < c → MapI.get h' n = MapI.get h n := by
  obtain ⟨b, cap, rfl, hlt, hrow⟩ := rr
  refine does_of (enter (fn := Try.f63) Try.func63 rfl rfl (Nat.le_of_ble_eq_true rfl) ?_)
  cases b with
  | none =>
    have hR : R = [] := by
      by_cases e : R = []
      · exact e
      · obtain ⟨m, cl, junk, e2, _⟩ := hrow e; cases e2
    subst hR
    repeat' (first | refine WpC.seq ?_ | refine WpC.region ?_ | refine WpO.nil ?_ | refine WpO.cons rfl rfl (WpX.pure (fun _ => rfl) ⟨nolog, ?_⟩) | refine seqQ_normal ?_)
    refine WpC.cond rfl (fun _ => ?_) (fun hb => by cases hb)
    repeat' (first | refine WpC.seq ?_ | refine WpC.region ?_ | refine WpC.ret ?_ | refine WpO.nil ?_ | refine WpO.cons rfl rfl (WpX.pure (fun _ => rfl) ⟨nolog, ?_⟩) | refine seqQ_ret ?_)
    exact out_ret rfl ⟨.inl .nil, fun n hn => (by cases hn), fun n _ => rfl⟩
  | some p =>
    obtain ⟨m0, o0⟩ := p
    have hm0 : m0 < c := hlt m0 (by simp [rowName])
    repeat' (first | refine WpC.seq ?_ | refine WpC.region ?_ | refine WpO.nil ?_ | refine WpO.cons rfl rfl (WpX.pure (fun _ => rfl) ⟨nolog, ?_⟩) | refine seqQ_normal ?_)
    refine WpC.cond rfl (fun hb => by cases hb) (fun _ => ?_)
    repeat' (first | refine WpC.seq ?_ | refine WpC.region ?_ | refine WpC.skip ?_ | refine WpO.cons rfl rfl (WpX.pure (fun _ => rfl) ⟨nolog, ?_⟩) | refine WpO.cons rfl rfl (op_buildSlice (k := 1) rfl rfl rfl rfl (by decide) rfl ⟨(by simp [InL, Acc.name, rowName] <;> omega), ?_⟩))
    by_cases hR : R = []
    · subst hR
      refine WpO.cons rfl rfl (op_append (call := fun n => evFn EE cx pr n) (v := .slice (some (c, 0)) 0 (.known 0)) (l := []) rfl rfl (append_none (k := 0) ⟨rfl, rfl, rfl, ⟨_, rfl, by decide⟩⟩ rfl rfl (fun h => by cases h) (by decide) (fun m o k' h1 h2 => by cases h2; exact Nat.le_refl _)) ⟨nolog, ?_⟩)
      repeat' (first | refine WpC.ret ?_ | refine WpO.nil ?_ | refine WpO.cons rfl rfl (WpX.pure (fun _ => rfl) ⟨nolog, ?_⟩))
      exact out_ret rfl ⟨.inr ⟨rfl, _, _, rfl⟩, fun n hn => (by have hn : n ∈ [c] := hn; simp at hn; omega), fun n hn => MapI.get_ne _ _ _ _ (by omega)⟩
    · obtain ⟨m, cl, junk, e, hg, _⟩ := hrow hR
      cases e
      have hpos : 0 < R.length := List.length_pos_iff.2 hR
      have hg' : ∀ {o : AObj}, MapI.get (MapI.set h c o) m0 = some (.cells true cl (flat wordV R ++ junk)) := get_set_ne (by omega) hg
      have hcut : cut (flat wordV R ++ junk) 0 (R.length * (0 + 1)) = some (flat wordV R) := by
        have := flat_take (cells := wordV) (k := 1) word_len R R.length (Nat.le_refl _) junk
        rw [List.take_length] at this
        exact this
      refine WpO.cons rfl rfl (op_append (call := fun n => evFn EE cx pr n) rfl rfl (append_known (k := 0) ⟨rfl, rfl, rfl, ⟨_, rfl, by decide⟩⟩ rfl hpos hlen hg' hcut) ⟨?_, ?_⟩)
      · intro x hx
        simp at hx
        rcases hx with rfl | rfl
        · exact .inl (by simp [Acc.name, rowName])
        · exact .inr (by simp [Acc.name])
      repeat' (first | refine WpC.ret ?_ | refine WpO.nil ?_ | refine WpO.cons rfl rfl (WpX.pure (fun _ => rfl) ⟨nolog, ?_⟩))
      refine out_ret rfl ⟨.inl (.inr ⟨c + 1, true, [], rfl, by omega, by rw [MapI.get_same, List.append_nil], rfl⟩), fun n hn => (by have hn : n ∈ [c + 1] := hn; simp at hn; omega), fun n hn => ?_⟩
      rw [MapI.get_ne _ _ _ _ (by omega), MapI.get_ne _ _ _ _ (by omega)]

theorem fields_okR {x : Hd} : DoesR 62 [.agg (hdV x)] h c [] fun v h' c' => v = I (fieldsH x) := by
  have hg : MapI.get (MapI.set h c (.cells true true (hdV x))) c = some (.cells true true (hdV x)) := MapI.get_same _ _ _
  refine doesR_of (enter (fn := Try.f62) Try.func62 rfl rfl (Nat.le_of_ble_eq_true rfl) ?_)
  unfold fieldsH
  by_cases h0 : x.kind = 0
  · have e0 : (x.kind == 0) = true := by simp [h0]
    repeat' (first | refine WpC.seq ?_ | refine WpC.region ?_ | refine WpC.block ?_ | refine WpO.nil ?_ | refine WpO.cons rfl rfl (WpX.pure (fun _ => rfl) ⟨nolog, ?_⟩) | refine seqQ_normal ?_ | refine WpO.cons rfl rfl (op_box rfl ⟨(by simp [InR, Acc.name, Acc.writes, rowName] <;> omega), ?_⟩) | refine WpO.cons rfl rfl (op_load rfl rfl rfl hg rfl ⟨(by simp [InR, Acc.name, Acc.writes, rowName] <;> omega), ?_⟩))
    refine WpC.cond rfl (fun _ => ?_) (fun hb => by rw [e0] at hb; cases hb)
    repeat' (first | refine WpC.seq ?_ | refine WpC.region ?_ | refine WpC.ret ?_ | refine WpO.nil ?_ | refine WpO.cons rfl rfl (WpX.pure (fun _ => rfl) ⟨nolog, ?_⟩) | refine seqQ_ret ?_ | refine blkQ_ret ?_)
    rw [if_pos h0]
    exact out_ret rfl rfl
  have e0 : (x.kind == 0) = false := beq_eq_false_iff_ne.2 h0
  by_cases h1 : x.kind = 1
  · have e1 : (x.kind == 1) = true := by simp [h1]
    repeat' (first | refine WpC.seq ?_ | refine WpC.region ?_ | refine WpC.block ?_ | refine WpO.nil ?_ | refine WpO.cons rfl rfl (WpX.pure (fun _ => rfl) ⟨nolog, ?_⟩) | refine seqQ_normal ?_ | refine WpO.cons rfl rfl (op_box rfl ⟨(by simp [InR, Acc.name, Acc.writes, rowName] <;> omega), ?_⟩) | refine WpO.cons rfl rfl (op_load rfl rfl rfl hg rfl ⟨(by simp [InR, Acc.name, Acc.writes, rowName] <;> omega), ?_⟩))
    refine WpC.cond rfl (fun hb => by rw [e0] at hb; cases hb) (fun _ => ?_)
    repeat' (first | refine WpC.seq ?_ | refine WpC.region ?_ | refine WpO.nil ?_ | refine WpO.cons rfl rfl (WpX.pure (fun _ => rfl) ⟨nolog, ?_⟩) | refine seqQ_normal ?_)
    refine WpC.cond rfl (fun _ => ?_) (fun hb => by rw [e1] at hb; cases hb)
    repeat' (first | refine WpC.seq ?_ | refine WpC.region ?_ | refine WpC.ret ?_ | refine WpO.nil ?_ | refine WpO.cons rfl rfl (WpX.pure (fun _ => rfl) ⟨nolog, ?_⟩) | refine seqQ_ret ?_ | refine blkQ_ret ?_ | refine WpO.cons rfl rfl (op_load rfl rfl rfl hg rfl ⟨(by simp [InR, Acc.name, Acc.writes, rowName] <;> omega), ?_⟩))
    rw [if_neg h0, if_pos h1]
    exact out_ret rfl rfl
  have e1 : (x.kind == 1) = false := beq_eq_false_iff_ne.2 h1
  repeat' (first | refine WpC.seq ?_ | refine WpC.region ?_ | refine WpC.block ?_ | refine WpO.nil ?_ | refine WpO.cons rfl rfl (WpX.pure (fun _ => rfl) ⟨nolog, ?_⟩) | refine seqQ_normal ?_ | refine WpO.cons rfl rfl (op_box rfl ⟨(by simp [InR, Acc.name, Acc.writes, rowName] <;> omega), ?_⟩) | refine WpO.cons rfl rfl (op_load rfl rfl rfl hg rfl ⟨(by simp [InR, Acc.name, Acc.writes, rowName] <;> omega), ?_⟩))
  refine WpC.cond rfl (fun hb => by rw [e0] at hb; cases hb) (fun _ => ?_)
  repeat' (first | refine WpC.seq ?_ | refine WpC.region ?_ | refine WpO.nil ?_ | refine WpO.cons rfl rfl (WpX.pure (fun _ => rfl) ⟨nolog, ?_⟩) | refine seqQ_normal ?_)
  refine WpC.cond rfl (fun hb => by rw [e1] at hb; cases hb) (fun _ => ?_)
  repeat' (first | refine WpC.seq ?_ | refine WpC.region ?_ | refine WpC.skip ?_ | refine WpC.ret ?_ | refine WpO.nil ?_ | refine WpO.cons rfl rfl (WpX.pure (fun _ => rfl) ⟨nolog, ?_⟩))
  rw [if_neg h0, if_neg h1]
  exact out_ret rfl rfl

theorem fieldsH_nn {x : Hd} (h : okH x) : 0 ≤ fieldsH x := by
  unfold okH at h
  unfold fieldsH
  split
  · omega
  · split <;> omega

theorem obj_get {l : List (Nat × Hd)} {p k : Nat} {x : Hd} (so : SoundW W R l) (hx : (p, x) ∈ l) (hk : (k : Int) < fieldsH x) : ∃ w, W[p + 1 + k]? = some w := by
  obtain ⟨j, w, e, hw, hr, hsz, hok⟩ := objW_some (so.objs.mem _ hx).2
  have := so.le _ hx
  have h1 : fieldsH x ≤ x.size := this
  have h2 : (j : Int) + 1 + x.size ≤ W.length := hsz
  have e : ((p : Nat) : Int) = j := e
  exact ⟨_, List.getElem?_eq_getElem (by omega)⟩

abbrev FR (b : EE) (l : List (Nat × V)) : EE := l.foldr (fun kv e => MapI.set e kv.1 kv.2) b
def AllIn (X : EE) : List (Nat × V) → Prop
  | [] => True
  | kv :: l => X kv.1 = some kv.2 ∧ AllIn X l
theorem fr {X : EE} : ∀ {l : List (Nat × V)}, AllIn X l → ∃ b, X = FR b l
  | [], _ => ⟨X, rfl⟩
  | (k, v) :: l, h => by
    obtain ⟨b, hb⟩ := fr h.2
    refine ⟨b, ?_⟩
    show X = MapI.set (FR b l) k v
    rw [← hb, FM.add h.1]

/-- Sound, of what is. -/
theorem sound_ok {l : List (Nat × Hd)} (r : ArAt h c a vW W size) (rr : RowOf 1 wordV h c vR R) (hRok : ∀ w ∈ R, okW w) (hRl : R.length ≤ 1000000000) (so : SoundW W R l) :
    Does 52 [.ptr (some (a, 0)), vR] h c (an a vW ++ rowName vR) fun v h' c' => v = .bool true ∧ ∀ n, n < c → MapI.get h' n = MapI.get h n := by
  have hmx := r.mx
  have hle := r.le
  have hokW := r.ok
  have hsub1 : ∀ n ∈ an a vW, n ∈ an a vW ++ rowName vR ∨ c ≤ n := fun n hn => .inl (List.mem_append_left _ hn)
  have hsub2 : ∀ n ∈ rowName vR, n ∈ an a vW ++ rowName vR ∨ c ≤ n := fun n hn => .inl (List.mem_append_right _ hn)
  have hll := places_le so.objs
  refine does_of (enter (fn := Try.f52) Try.func52 rfl rfl (Nat.le_of_ble_eq_true rfl) ?_)
  repeat' (first | refine WpC.seq ?_ | refine WpC.region ?_ | refine WpO.nil ?_ | refine WpO.cons rfl rfl (WpX.pure (fun _ => rfl) ⟨nolog, ?_⟩))
  refine WpO.cons rfl rfl (call_at rfl (objects_ok r so.objs) hsub1 (Nat.le_refl _) fun v1 h1 c1 hc1 _ hq => ?_)
  obtain ⟨vL, rfl, hL1, hLn, hf1⟩ := hq
  repeat' (first | refine WpC.seq ?_ | refine WpC.region ?_ | refine WpO.nil ?_ | refine WpO.cons rfl rfl (WpX.pure (fun _ => rfl) ⟨nolog, ?_⟩) | refine seqQ_normal ?_)
  refine WpC.cond rfl (fun hb => by cases hb) (fun _ => ?_)
  repeat' (first | refine WpC.seq ?_ | refine WpC.region ?_ | refine WpC.skip ?_ | refine WpO.cons rfl rfl (WpX.pure (fun _ => rfl) ⟨nolog, ?_⟩))
  refine WpO.cons rfl rfl (call_atD rfl (used_ok (r.same hc1 hf1)) hsub1 hc1 fun v2 h2 c2 hc2 _ hq => ?_)
  obtain ⟨rfl, rfl, rfl⟩ := hq
  have hz0 : zeroRow cx 4 W.length = some (flat boolV (List.replicate W.length false)) := by rw [← reps_bool]; rfl
  have hLlt := hL1.lt
  obtain ⟨sL, capL, rfl, hsL⟩ := hL1.shape
  rw [List.length_map] at hsL
  generalize hvL : (V.slice sL (List.map (fun p => ((p.1 : Nat) : Int)) l).length capL) = vL at hLlt hLn
  have hvL : V.slice sL l.length capL = vL := by rw [← hvL, List.length_map]
  generalize hvI : V.slice (some (c1, 0)) W.length (.known W.length) = vI
  -- the marks
  repeat' (first | refine WpC.seqI (a := Code.seq (Code.region 5 _ _) _) (fun e' h' c' => (∃ b0, e' = FR b0 [(0, V.ptr (some (a, 0))), (1, vR), (5, vL), (7, vI)]) ∧ c' = c1 + 1 ∧ MapI.get h' c1 = some (AObj.cells true true (flat boolV (marks W.length (l.map Prod.fst).reverse))) ∧ (∀ n, n < c1 → MapI.get h' n = MapI.get h1 n)) ?_ ?_ | refine WpC.seq ?_ | refine WpC.region ?_ | refine WpO.nil ?_ | refine WpO.cons rfl rfl (WpX.pure (fun _ => rfl) ⟨nolog, ?_⟩) | refine WpO.cons rfl rfl (op_makeSlice rfl rfl rfl hz0 ⟨_, rfl, by decide⟩ ⟨Nat.le_refl _, by omega⟩ ⟨(by simp [InL, Acc.name, rowName] <;> omega), ?_⟩))
  · subst hvL
    subst hvI
    repeat' (first | refine WpC.block ?_ | refine WpO.nil ?_ | refine WpO.cons rfl rfl (WpX.pure (fun _ => rfl) ⟨nolog, ?_⟩))
    refine WpC.loop ?_
    refine WpLoop.ind (X := Nat) (fun i e' h' c' => (∃ b0, e' = FR b0 [(0, V.ptr (some (a, 0))), (1, vR), (5, .slice sL l.length capL), (7, .slice (some (c1, 0)) W.length (.known W.length)), (29, .slice sL l.length capL), (30, I l.length), (31, I i)]) ∧ i ≤ l.length ∧ c' = c1 + 1 ∧ MapI.get h' c1 = some (AObj.cells true true (flat boolV (marks W.length ((l.take i).map Prod.fst).reverse))) ∧ (∀ n, n < c1 → MapI.get h' n = MapI.get h1 n))
      (fun i => l.length - i) ?_ 0 _ _ _ ⟨fr ⟨rfl, rfl, rfl, rfl, rfl, rfl, rfl, trivial⟩, Nat.zero_le _, rfl, by rw [MapI.get_same, List.take_zero]; simp [marks_nil], fun n hn => MapI.get_ne _ _ _ _ (by omega)⟩
    rintro i e' h' c' ⟨⟨b0, rfl⟩, hi, rfl, hI, hf⟩
    repeat' (first | refine WpC.seq ?_ | refine WpC.region ?_ | refine WpO.nil ?_ | refine WpO.cons rfl rfl (WpX.pure (fun _ => rfl) ⟨nolog, ?_⟩))
    refine WpC.cond rfl (fun hlt => ?_) (fun hge => ?_)
    case refine_2 =>
      have hge : l.length ≤ i := by simpa using hge
      rw [List.take_of_length_le hge] at hI
      repeat' (first | refine WpC.exit ?_ | refine seqQ_normal ?_ | refine seqQ_exit ?_ | refine blkQ_out rfl ?_)
      refine ⟨fr ?_, rfl, hI, hf⟩
      exact ⟨rfl, rfl, rfl, rfl, trivial⟩
    have hlt : i < l.length := by simpa using hlt
    obtain ⟨⟨p, x⟩, hx⟩ : ∃ z, l[i]? = some z := ⟨_, List.getElem?_eq_getElem hlt⟩
    obtain ⟨rfl, sn, cl, junk, rfl, hsn, hg, _⟩ := hsL i hlt
    have hg' : MapI.get h' sn = _ := (hf sn hsn).trans hg
    have hsnc : c ≤ sn := hLn sn (by simp [rowName])
    have hz : nth (flat intV (List.map (fun p => ((p.1 : Nat) : Int)) l) ++ junk) (0 + ((i : Nat) : Int).toNat * 1) = some (I p) := by
      rw [show 0 + ((i : Nat) : Int).toNat * 1 = i from by simp]
      exact nth_flat0 int_len (by rw [List.getElem?_map, hx]; rfl) rfl junk
    obtain ⟨jj, w', ej, hw', _⟩ := objW_some (so.objs.mem _ (List.mem_of_getElem? hx)).2
    have hpl : p < W.length := by
      have := (List.getElem?_eq_some_iff.1 hw').1
      have ej : ((p : Nat) : Int) = jj := ej
      omega
    have hw1 : IntKind.i64.wrap ((i : Int) + 1) = ((i + 1 : Nat) : Int) := by rw [Go.IntWalk.i64_in _ (by omega)]; omega
    have hb : 0 + ((p : Nat) : Int).toNat * 1 + 1 ≤ (flat boolV (marks W.length ((l.take i).map Prod.fst).reverse)).length := by
      rw [flat_length bool_len, marks_len]; omega
    repeat' (first | refine WpC.seq ?_ | refine WpC.region ?_ | refine WpC.skip ?_ | refine WpC.block ?_ | refine WpO.nil ?_ | refine WpO.cons rfl rfl (WpX.pure (fun _ => rfl) ⟨nolog, ?_⟩) | refine seqQ_normal ?_ | refine WpO.cons rfl rfl (op_indexAddr (k := 1) rfl rfl rfl rfl ⟨by omega, by omega⟩ ⟨(by simp [InL, Acc.name, rowName] <;> omega), ?_⟩) | refine WpO.cons rfl rfl (op_load rfl rfl rfl hg' hz ⟨(by simp [InL, Acc.name, rowName] <;> omega), ?_⟩) | refine WpO.cons rfl rfl (op_store (k := 1) rfl rfl rfl rfl hI hb rfl ⟨(by simp [InL, Acc.name, rowName] <;> omega), ?_⟩))
    refine ⟨i + 1, by omega, ?_, by omega, rfl, ?_, fun n hn => ?_⟩
    · rw [hw1]
      exact fr ⟨rfl, rfl, rfl, rfl, rfl, rfl, rfl, trivial⟩
    · rw [MapI.get_same]
      have h1 := setAll_flat (cells := boolV) (k := 1) bool_len (junk := []) (z := true) (xs := marks W.length ((l.take i).map Prod.fst).reverse) (i := p) (by rw [marks_len]; exact hpl)
      rw [List.append_nil, List.append_nil, marks_set _ hpl] at h1
      rw [show l.take (i + 1) = l.take i ++ [(p, x)] from by rw [List.take_add_one, hx]; rfl, List.map_append, List.reverse_append]
      refine congrArg (fun z => some (AObj.cells true true z)) ?_
      rw [show 0 + ((p : Nat) : Int).toNat * 1 = p * 1 from by simp]
      exact h1
    · rw [MapI.get_ne _ _ _ _ (by omega)]; exact hf n hn
  rintro e H1 c' ⟨⟨b0, rfl⟩, rfl, hI, hfm⟩
  have hr1 : ArAt H1 (c1 + 1) a vW W size := r.same (by omega) fun n hn => by rw [hfm n (by omega), hf1 n hn]
  have hrr1 : RowOf 1 wordV H1 (c1 + 1) vR R := rr.keep (by omega) fun n hn _ => by rw [hfm n (by omega), hf1 n hn]
  have hri1 : RowOf 1 boolV H1 (c1 + 1) vI (marks W.length (l.map Prod.fst).reverse) := by
    subst hvI
    exact ⟨_, _, by rw [marks_len], fun n hn => (by simp [rowName] at hn; omega), fun _ => ⟨c1, true, [], rfl, by rw [List.append_nil]; exact hI, rfl⟩⟩
  have hIn : ∀ n ∈ rowName vI, n ∈ an a vW ++ rowName vR ∨ c ≤ n := fun n hn => by
    subst hvI; simp [rowName] at hn; exact .inr (by omega)
  have hfield : ∀ {H : HH} {C : Nat} {w : Int}, (∀ n, n < c1 + 1 → MapI.get H n = MapI.get H1 n) → c1 + 1 ≤ C → okW w → okField l w → DoesR 61 [U w, vI] H C (rowName vI) fun v h' c' => v = .bool true ∧ H = h' ∧ C = c' := fun {H C w} he hC hw hf => by
    refine sound_word hw (hri1.keep hC fun n hn _ => he n hn) (by rw [marks_len]; omega) hf.1 hf.2.1 fun h5 => ?_
    obtain ⟨p, hp, e⟩ := hf.2.2 h5
    refine ⟨p.1, e, ?_⟩
    obtain ⟨j, w', ej, hw', _⟩ := objW_some (so.objs.mem p hp).2
    have hlt := (List.getElem?_eq_some_iff.1 hw').1
    rw [marks_get _ (by omega)]
    simp only [List.contains_eq_mem, List.mem_reverse, List.mem_map, Option.some.injEq, decide_eq_true_eq]
    exact ⟨p, hp, rfl⟩
  -- the roots
  repeat' (first | refine WpC.seqI (a := Code.seq (Code.region 10 _ _) _) (fun e' h' c' => (∃ b0, e' = FR b0 [(0, V.ptr (some (a, 0))), (5, vL), (7, vI)]) ∧ h' = H1 ∧ c' = c1 + 1) ?_ ?_ | refine WpC.seq ?_ | refine WpC.region ?_ | refine WpO.cons rfl rfl (WpX.pure (fun _ => rfl) ⟨nolog, ?_⟩))
  · obtain ⟨sR, capR, rfl, hsR⟩ := hrr1.shape
    repeat' (first | refine WpC.block ?_ | refine WpO.nil ?_ | refine WpO.cons rfl rfl (WpX.pure (fun _ => rfl) ⟨nolog, ?_⟩))
    refine WpC.loop ?_
    refine WpLoop.ind (X := Nat) (fun i e' h' c' => (∃ b0, e' = FR b0 [(0, V.ptr (some (a, 0))), (5, vL), (7, vI), (39, .slice sR R.length capR), (40, I R.length), (41, I i)]) ∧ i ≤ R.length ∧ h' = H1 ∧ c' = c1 + 1)
      (fun i => R.length - i) ?_ 0 _ _ _ ⟨fr ⟨rfl, rfl, rfl, rfl, rfl, rfl, trivial⟩, Nat.zero_le _, rfl, rfl⟩
    rintro i e' h' c' ⟨⟨b0, rfl⟩, hi, rfl, rfl⟩
    repeat' (first | refine WpC.seq ?_ | refine WpC.region ?_ | refine WpO.nil ?_ | refine WpO.cons rfl rfl (WpX.pure (fun _ => rfl) ⟨nolog, ?_⟩))
    refine WpC.cond rfl (fun hlt => ?_) (fun hge => ?_)
    case refine_2 =>
      repeat' (first | refine WpC.exit ?_ | refine seqQ_normal ?_ | refine seqQ_exit ?_ | refine blkQ_out rfl ?_)
      refine ⟨fr ?_, rfl, rfl⟩
      exact ⟨rfl, rfl, rfl, trivial⟩
    have hlt : i < R.length := by simpa using hlt
    obtain ⟨w, hw⟩ : ∃ z, R[i]? = some z := ⟨_, List.getElem?_eq_getElem hlt⟩
    have hwm := List.mem_of_getElem? hw
    obtain ⟨m, cl, junk, rfl, hm, hg⟩ := hsR i hlt
    have hz : nth (flat wordV R ++ junk) (0 + ((i : Nat) : Int).toNat * 1) = some (U w) := by
      rw [show 0 + ((i : Nat) : Int).toNat * 1 = i from by simp]; exact nth_flat0 word_len hw rfl junk
    have hw1 : IntKind.i64.wrap ((i : Int) + 1) = ((i + 1 : Nat) : Int) := by rw [Go.IntWalk.i64_in _ (by omega)]; omega
    repeat' (first | refine WpC.seq ?_ | refine WpC.region ?_ | refine WpC.skip ?_ | refine WpC.block ?_ | refine WpO.nil ?_ | refine WpO.cons rfl rfl (WpX.pure (fun _ => rfl) ⟨nolog, ?_⟩) | refine WpO.cons rfl rfl (op_indexAddr (k := 1) rfl rfl rfl rfl ⟨by omega, by omega⟩ ⟨(by simp [InL, Acc.name, rowName] <;> omega), ?_⟩) | refine WpO.cons rfl rfl (op_load rfl rfl rfl hg hz ⟨(by simp [InL, Acc.name, rowName] <;> omega), ?_⟩))
    refine WpO.cons rfl rfl (call_atD rfl (hfield (fun _ _ => rfl) (Nat.le_refl _) (hRok w hwm) (so.roots w hwm)) hIn (by omega) fun v4 h4 c4 hc4 _ hq => ?_)
    obtain ⟨rfl, rfl, rfl⟩ := hq
    repeat' (first | refine WpO.nil ?_ | refine WpO.cons rfl rfl (WpX.pure (fun _ => rfl) ⟨nolog, ?_⟩) | refine seqQ_normal ?_)
    refine WpC.cond rfl (fun hb => by cases hb) (fun _ => ?_)
    repeat' (first | refine WpC.region ?_ | refine WpC.skip ?_ | refine WpO.nil ?_ | refine WpO.cons rfl rfl (WpX.pure (fun _ => rfl) ⟨nolog, ?_⟩) | refine seqQ_normal ?_)
    refine ⟨i + 1, by omega, ?_, by omega, rfl, rfl⟩
    rw [hw1]
    exact fr ⟨rfl, rfl, rfl, rfl, rfl, rfl, trivial⟩
  rintro e H2 c' ⟨⟨b0, rfl⟩, rfl, rfl⟩
  have hsL1 : ∀ i, i < l.length → capL = .upTo 1 ∧ ∃ m cl junk, sL = some (m, 0) ∧ m < c1 ∧ MapI.get H2 m = some (.cells true cl (flat intV (List.map (fun p => ((p.1 : Nat) : Int)) l) ++ junk)) := fun i hi => by
    obtain ⟨e1, m, cl, junk, e2, e3, e4, _⟩ := hsL i hi
    exact ⟨e1, m, cl, junk, e2, e3, by rw [hfm m e3]; exact e4⟩
  subst hvL
  repeat' (first | refine WpC.seq ?_ | refine WpC.region ?_ | refine WpC.block ?_ | refine WpO.nil ?_ | refine WpO.cons rfl rfl (WpX.pure (fun _ => rfl) ⟨nolog, ?_⟩))
  refine WpC.loop ?_
  refine WpLoop.ind (X := Nat) (fun i e' h' c' => (∃ b0, e' = FR b0 [(0, V.ptr (some (a, 0))), (7, vI), (50, .slice sL l.length capL), (51, I l.length), (52, I i)]) ∧ i ≤ l.length ∧ c1 + 1 ≤ c' ∧ (∀ n, n < c1 + 1 → MapI.get h' n = MapI.get H2 n))
    (fun i => l.length - i) ?_ 0 _ _ _ ⟨fr ⟨rfl, rfl, rfl, rfl, rfl, trivial⟩, Nat.zero_le _, Nat.le_refl _, fun _ _ => rfl⟩
  rintro i e' h' c' ⟨⟨b0, rfl⟩, hi, hc', hf⟩
  repeat' (first | refine WpC.seq ?_ | refine WpC.region ?_ | refine WpO.nil ?_ | refine WpO.cons rfl rfl (WpX.pure (fun _ => rfl) ⟨nolog, ?_⟩))
  refine WpC.cond rfl (fun hlt => ?_) (fun hge => ?_)
  case refine_2 =>
    repeat' (first | refine WpC.seq ?_ | refine WpC.region ?_ | refine WpC.exit ?_ | refine WpC.ret ?_ | refine WpO.nil ?_ | refine WpO.cons rfl rfl (WpX.pure (fun _ => rfl) ⟨nolog, ?_⟩))
    refine out_ret rfl ⟨rfl, fun n hn => ?_⟩
    rw [hf n (by omega), hfm n (by omega), hf1 n hn]
  have hlt : i < l.length := by simpa using hlt
  obtain ⟨⟨p, x⟩, hx⟩ : ∃ z, l[i]? = some z := ⟨_, List.getElem?_eq_getElem hlt⟩
  have hxm := List.mem_of_getElem? hx
  obtain ⟨rfl, sn, cl, junk, rfl, hsn, hg⟩ := hsL1 i hlt
  have hg' : MapI.get h' sn = _ := (hf sn (by omega)).trans hg
  have hsnc : c ≤ sn := hLn sn (by simp [rowName])
  have hz : nth (flat intV (List.map (fun p => ((p.1 : Nat) : Int)) l) ++ junk) (0 + ((i : Nat) : Int).toNat * 1) = some (I p) := by
    rw [show 0 + ((i : Nat) : Int).toNat * 1 = i from by simp]
    exact nth_flat0 int_len (by rw [List.getElem?_map, hx]; rfl) rfl junk
  obtain ⟨jj, w', ej, hw', _, hsz, hxok⟩ := objW_some (so.objs.mem _ hxm).2
  have ej : ((p : Nat) : Int) = jj := ej
  have hsz : (jj : Int) + 1 + x.size ≤ W.length := hsz
  have hfs : fieldsH x ≤ x.size := so.le _ hxm
  have hf0 := fieldsH_nn hxok
  unfold okH at hxok
  have hxok : 0 ≤ x.kind ∧ x.kind ≤ 3 ∧ 0 ≤ x.size ∧ x.size < 1048576 ∧ 0 ≤ x.tree ∧ x.tree < 1048576 := hxok
  have hw1 : IntKind.i64.wrap ((i : Int) + 1) = ((i + 1 : Nat) : Int) := by rw [Go.IntWalk.i64_in _ (by omega)]; omega
  repeat' (first | refine WpC.seq ?_ | refine WpC.region ?_ | refine WpC.skip ?_ | refine WpC.block ?_ | refine WpO.nil ?_ | refine WpO.cons rfl rfl (WpX.pure (fun _ => rfl) ⟨nolog, ?_⟩) | refine WpO.cons rfl rfl (op_indexAddr (k := 1) rfl rfl rfl rfl ⟨by omega, by omega⟩ ⟨(by simp [InL, Acc.name, rowName] <;> omega), ?_⟩) | refine WpO.cons rfl rfl (op_load rfl rfl rfl hg' hz ⟨(by simp [InL, Acc.name, rowName] <;> omega), ?_⟩))
  refine WpO.cons rfl rfl (call_atD rfl (object_ok (hr1.same hc' hf)) hsub1 (by omega) fun v4 h4 c4 hc4 hf4 hq => ?_)
  have hob : objW W ((p : Nat) : Int) = some x := (so.objs.mem _ hxm).2
  rw [hob] at hq
  subst hq
  repeat' (first | refine WpC.seq ?_ | refine WpC.drawn ?_ | refine WpO.nil ?_ | refine WpO.cons rfl rfl (WpX.pure (fun _ => rfl) ⟨nolog, ?_⟩) | refine WpO.cons rfl rfl (op_alloc rfl ⟨(by simp [InL, Acc.name, rowName] <;> omega), ?_⟩) | refine WpO.cons rfl rfl (op_store (k := 4) rfl rfl rfl rfl (MapI.get_same _ _ _) (Nat.le_of_ble_eq_true rfl) rfl ⟨(by simp [InL, Acc.name, rowName] <;> omega), ?_⟩))
  have hgx : ∀ {o p : AObj}, MapI.get (MapI.set (MapI.set h4 c4 o) c4 p) c4 = some p := MapI.get_same _ _ _
  repeat' (first | refine WpL.cons rfl rfl (op_loadA (k := 4) rfl rfl rfl rfl hgx rfl ⟨(by simp [InL, Acc.name, rowName] <;> omega), ?_⟩))
  refine WpL.cons rfl rfl (call_atRL rfl (fields_okR (x := x)) (fun n hn => by cases hn) (by omega) fun v5 h5 c5 al hal hc5 hf5 hq => ?_)
  subst hq
  have hgx5 : MapI.get h5 c4 = some (.cells true true (hdV x)) := by
    rw [hf5 c4 (by omega)]; exact MapI.get_same _ _ _
  have hal' : ∀ x ∈ al, c4 = x.name → x.writes = false := fun x hx e => by
    cases hw : x.writes with
    | false => rfl
    | true => have := (hal x hx).2 hw; omega
  have e5 : decide (fieldsH x > x.size) = false := by simpa using hfs
  repeat' (first | refine WpL.cons rfl rfl (WpX.pure (fun _ => rfl) ⟨nolog, ?_⟩) | refine WpL.cons rfl rfl (op_load rfl rfl rfl hgx5 rfl ⟨(by simp [InL, Acc.name, rowName] <;> omega), ?_⟩))
  refine WpL.nil (logsOk_of (cs := [0, 1, 0, 4, 15]) (by decide +kernel) ?_) ?_
  · simp +contextual [allP, apP, Dis, acc_rd, acc_wr, accw_rd, accw_wr, Nat.testBit, hal']
  repeat' (first | refine seqQ_normal ?_)
  refine WpC.cond rfl (fun hb => by rw [e5] at hb; cases hb) (fun _ => ?_)
  repeat' (first | refine WpC.seq ?_ | refine WpC.region ?_ | refine WpC.skip ?_ | refine WpO.cons rfl rfl (op_loadA (k := 4) rfl rfl rfl rfl hgx5 rfl ⟨(by simp [InL, Acc.name, rowName] <;> omega), ?_⟩))
  refine WpO.cons rfl rfl (call_atD rfl (fields_okR (x := x)) (fun n hn => by cases hn) (by omega) fun v6 h6 c6 hc6 hf6 hq => ?_)
  subst hq
  have heq6 : ∀ n, n < c1 + 1 → MapI.get h6 n = MapI.get H2 n := fun n hn => by
    rw [hf6 n (by omega), hf5 n (by omega), MapI.get_ne _ _ _ _ (by omega), MapI.get_ne _ _ _ _ (by omega), hf4 n (by omega)]; exact hf n hn
  have hr6 := hr1.same (h' := h6) (c' := c6) (by omega) heq6
  repeat' (first | refine WpC.block ?_ | refine WpO.nil ?_ | refine WpO.cons rfl rfl (WpX.pure (fun _ => rfl) ⟨nolog, ?_⟩))
  refine WpC.loop ?_
  refine WpLoop.ind (X := Nat) (fun k e' h'' c'' => (∃ b0, e' = FR b0 [(0, V.ptr (some (a, 0))), (7, vI), (13, I p), (50, .slice (some (sn, 0)) l.length (.upTo 1)), (51, I l.length), (52, I i), (68, I (fieldsH x)), (69, I k)]) ∧ (k : Int) ≤ fieldsH x ∧ h'' = h6 ∧ c'' = c6)
    (fun k => (fieldsH x).toNat - k) ?_ 0 _ _ _ ⟨fr ⟨rfl, rfl, rfl, rfl, rfl, rfl, rfl, rfl, trivial⟩, by omega, rfl, rfl⟩
  rintro k e' h'' c'' ⟨⟨b0, rfl⟩, hk, rfl, rfl⟩
  repeat' (first | refine WpC.seq ?_ | refine WpC.region ?_ | refine WpO.nil ?_ | refine WpO.cons rfl rfl (WpX.pure (fun _ => rfl) ⟨nolog, ?_⟩))
  refine WpC.cond rfl (fun hlt => ?_) (fun hge => ?_)
  case refine_2 =>
    repeat' (first | refine WpC.region ?_ | refine WpC.exit ?_ | refine WpO.nil ?_ | refine WpO.cons rfl rfl (WpX.pure (fun _ => rfl) ⟨nolog, ?_⟩) | refine seqQ_normal ?_)
    refine ⟨i + 1, by omega, ?_, by omega, by omega, heq6⟩
    rw [hw1]
    exact fr ⟨rfl, rfl, rfl, rfl, rfl, trivial⟩
  have hlt : (k : Int) < fieldsH x := by simpa using hlt
  obtain ⟨w, hw⟩ := obj_get so hxm hlt
  have hww : okW w := hokW w (List.mem_of_getElem? hw)
  have wa : IntKind.i64.wrap ((p : Int) + 1) = p + 1 := Go.IntWalk.i64_in _ (by omega)
  have wb : IntKind.i64.wrap (IntKind.i64.wrap ((p : Int) + 1) + (k : Int)) = ((p + 1 + k : Nat) : Int) := by rw [wa, Go.IntWalk.i64_in _ (by omega)]; omega
  have wk : IntKind.i64.wrap ((k : Int) + 1) = ((k + 1 : Nat) : Int) := by rw [Go.IntWalk.i64_in _ (by omega)]; omega
  repeat' (first | refine WpC.seq ?_ | refine WpC.region ?_ | refine WpC.skip ?_ | refine WpC.block ?_ | refine WpO.nil ?_ | refine WpO.cons rfl rfl (WpX.pure (fun _ => rfl) ⟨nolog, ?_⟩))
  refine WpO.cons rfl rfl (call_atD rfl (get_in hr6 wb hw) hsub1 (by omega) fun v7 h7 c7 hc7 _ hq => ?_)
  obtain ⟨rfl, rfl, rfl⟩ := hq
  repeat' (first | refine WpC.seq ?_ | refine WpC.region ?_ | refine WpO.nil ?_ | refine WpO.cons rfl rfl (WpX.pure (fun _ => rfl) ⟨nolog, ?_⟩))
  refine WpO.cons rfl rfl (call_atD rfl (hfield heq6 (by omega) hww (so.fields _ hxm k w hlt hw)) hIn (by omega) fun v7 h7 c7 hc7 _ hq => ?_)
  obtain ⟨rfl, rfl, rfl⟩ := hq
  repeat' (first | refine WpO.nil ?_ | refine WpO.cons rfl rfl (WpX.pure (fun _ => rfl) ⟨nolog, ?_⟩) | refine seqQ_normal ?_)
  refine WpC.cond rfl (fun hb => by cases hb) (fun _ => ?_)
  repeat' (first | refine WpC.region ?_ | refine WpC.skip ?_ | refine WpO.nil ?_ | refine WpO.cons rfl rfl (WpX.pure (fun _ => rfl) ⟨nolog, ?_⟩) | refine seqQ_normal ?_)
  refine ⟨k + 1, by omega, ?_, by omega, rfl, rfl⟩
  rw [wk]
  exact fr ⟨rfl, rfl, rfl, rfl, rfl, rfl, rfl, rfl, trivial⟩
end
end Go.Proofs.Ytcenbfjhhaialaa


set_option linter.unusedVariables false
set_option linter.unusedSectionVars false
set_option linter.unusedSimpArgs false
set_option linter.unnecessarySimpa false
namespace Go.Proofs.Ytcenbfjhhaialaa
open Go.Ab

theorem sum_sub {f : Nat → Nat} : ∀ {S L : List Nat}, S.Nodup → (∀ x ∈ S, x ∈ L) → (S.map f).sum ≤ (L.map f).sum
  | [], _, _, _ => Nat.zero_le _
  | p :: S, L, hn, hs => by
    obtain ⟨h1, h2⟩ := List.nodup_cons.1 hn
    obtain ⟨A, B, rfl⟩ := List.append_of_mem (hs p (List.mem_cons_self ..))
    have ih := sum_sub (f := f) (L := A ++ B) h2 fun x hx => by
      have h3 := hs x (List.mem_cons_of_mem _ hx)
      rcases List.mem_append.1 h3 with h | h
      · exact List.mem_append_left _ h
      · rcases List.mem_cons.1 h with rfl | h
        · exact absurd hx h1
        · exact List.mem_append_right _ h
    simp only [List.map_append, List.map_cons, List.sum_append, List.sum_cons] at ih ⊢
    omega
/-- How many fields the object at a place has. -/
def nf (W : List Int) (p : Nat) : Nat :=
  match objW W p with
  | some x => (fieldsH x).toNat
  | none => 0
theorem objs_sum {W : List Int} {i : Nat} {l : List (Nat × Hd)} (r : ObjsFrom W i l) (hle : ∀ p ∈ l, fieldsH p.2 ≤ p.2.size) : ((l.map Prod.fst).map (nf W)).sum + i ≤ W.length := by
  induction r with
  | nil => simp
  | cons hx r ih =>
    rename_i i x l
    have h1 := ih fun p hp => hle p (List.mem_cons_of_mem _ hp)
    have h2 : fieldsH x ≤ x.size := hle (i, x) (List.mem_cons_self ..)
    obtain ⟨j, w, e, hw, hr, hs, hok⟩ := objW_some hx
    unfold okH at hok
    have h3 : nf W i = (fieldsH x).toNat := by unfold nf; rw [hx]
    simp only [List.map_cons, List.sum_cons, h3]
    omega
theorem Search.sum {W : List Int} {l : List (Nat × Hd)} {R : List Int} {S : List Nat} {T : List Int} (so : SoundW W R l) (s : Search W l R S T) : (S.map (nf W)).sum ≤ W.length := by
  have h1 := sum_sub (f := nf W) (L := l.map Prod.fst) s.nodup fun p hp => by
    obtain ⟨x, hx⟩ := (s.reach p hp).obj so
    exact List.mem_map.2 ⟨_, hx, rfl⟩
  have h2 := objs_sum so.objs so.le
  omega
end Go.Proofs.Ytcenbfjhhaialaa


set_option linter.unusedVariables false
set_option linter.unusedSectionVars false
set_option linter.unusedSimpArgs false
set_option linter.unnecessarySimpa false
namespace Go.Proofs.Ytcenbfjhhaialaa
open Go.Ab
set_option maxRecDepth 10000

section
variable {e : EE} {h : HH} {c : Nat} {ds : Option Tmp} {ty : Nat} {pos : String} {af : Array Edge} {gd : Option (Nat × Bool)} {K : V → HH → Nat → List Acc → Prop} {call : Nat → Tgt → List V → M HH V}
theorem op_min {args : Array Operand} {ats : Array Nat} {k : IntKind} {a b z : Int} (ha : evs cx e args.toList = some [.int k a, .int k b]) (hz : (if b < a then b else a) = z) (q : K (.int k z) h c []) :
    WpX (fun n => opM cx (call n) e ⟨ds, .call ⟨.builtin .min, args, ats⟩, ty, pos, af, gd⟩) h c K :=
  WpX.pure (fun k' => by
    subst hz
    show callM cx (call k') e ⟨.builtin .min, args, ats⟩ h c = _
    unfold callM
    simp only [ha]
    refine bnd_eq (l := []) (l' := []) lift_eq ?_
    simp only [builtinM, minV, minI, if_true]
    rfl) q
end

section
variable {h h' : HH} {c c' a : Nat} {vW vR : V} {W R : List Int} {size : Int}

/-- The words that are still to be looked at. -/
def TodoOf (h : HH) (c : Nat) (v : V) (T : List Int) : Prop := ListOf 1 wordV h c v T ∨ (T = [] ∧ ∃ b cap, v = .slice b 0 cap)

set_option maxHeartbeats 1000000 in
theorem live_words_ok {l : List (Nat × Hd)} (r : ArAt h c a vW W size) (rr : RowOf 1 wordV h c vR R) (hRok : ∀ w ∈ R, okW w) (hRl : R.length ≤ 100000000) (so : SoundW W R l) :
    Does 53 [.ptr (some (a, 0)), vR] h c (an a vW ++ rowName vR) fun v h' c' => ∃ vL, v = .tuple [vL, .bool true] ∧ ListOf 1 intV h' c' vL (places (liveOf W l R)) ∧ (∀ n ∈ rowName vL, c ≤ n) ∧ ∀ n, n < c → MapI.get h' n = MapI.get h n := by
  have hmx := r.mx
  have hle := r.le
  have hokW := r.ok
  have hsub1 : ∀ n ∈ an a vW, n ∈ an a vW ++ rowName vR ∨ c ≤ n := fun n hn => .inl (List.mem_append_left _ hn)
  have hsub2 : ∀ n ∈ rowName vR, n ∈ an a vW ++ rowName vR ∨ c ≤ n := fun n hn => .inl (List.mem_append_right _ hn)
  refine does_of (enter (fn := Try.f53) Try.func53 rfl rfl (Nat.le_of_ble_eq_true rfl) ?_)
  repeat' (first | refine WpC.seq ?_ | refine WpC.region ?_ | refine WpO.nil ?_ | refine WpO.cons rfl rfl (WpX.pure (fun _ => rfl) ⟨nolog, ?_⟩) | refine seqQ_normal ?_)
  refine WpC.cond rfl (fun hb => by cases hb) (fun _ => ?_)
  repeat' (first | refine WpC.seq ?_ | refine WpC.region ?_ | refine WpC.skip ?_ | refine WpO.cons rfl rfl (WpX.pure (fun _ => rfl) ⟨nolog, ?_⟩))
  refine WpO.cons rfl rfl (call_atD rfl (used_ok r) hsub1 (Nat.le_refl _) fun v2 h2 c2 hc2 _ hq => ?_)
  obtain ⟨rfl, rfl, rfl⟩ := hq
  have hz0 : zeroRow cx 4 W.length = some (flat boolV (List.replicate W.length false)) := by rw [← reps_bool]; rfl
  have hrr1 : RowOf 1 wordV (MapI.set h c (AObj.cells true true (flat boolV (List.replicate W.length false)))) (c + 1) vR R := rr.keep (by omega) fun n hn _ => MapI.get_ne _ _ _ _ (by omega)
  repeat' (first | refine WpC.seq ?_ | refine WpC.region ?_ | refine WpO.nil ?_ | refine WpO.cons rfl rfl (WpX.pure (fun _ => rfl) ⟨nolog, ?_⟩) | refine WpO.cons rfl rfl (op_makeSlice rfl rfl rfl hz0 ⟨_, rfl, by decide⟩ ⟨Nat.le_refl _, by omega⟩ ⟨(by simp [InL, Acc.name, rowName] <;> omega), ?_⟩))
  refine WpO.cons rfl rfl (call_at rfl (clone_words hrr1 (by omega)) hsub2 (by omega) fun vT h1 c1 hc1 _ hq => ?_)
  obtain ⟨hT1, hTn, hf1⟩ := hq
  have hI1 : MapI.get h1 c = some (AObj.cells true true (flat boolV (marks W.length []))) := by
    rw [hf1 c (by omega), MapI.get_same, marks_nil]
  have hfc : ∀ n, n < c → MapI.get h1 n = MapI.get h n := fun n hn => by rw [hf1 n (by omega)]; exact MapI.get_ne _ _ _ _ (by omega)
  generalize hvS : V.slice (some (c, 0)) W.length (.known W.length) = vS
  repeat' (first | refine WpC.seqI (a := Code.block 0 _) (fun e' h' c' => ∃ S, (∃ b0, e' = FR b0 [(6, vS)]) ∧ Search W l R S [] ∧ c + 1 ≤ c' ∧ MapI.get h' c = some (AObj.cells true true (flat boolV (marks W.length S))) ∧ (∀ n, n < c → MapI.get h' n = MapI.get h n)) ?_ ?_ | refine WpC.block ?_ | refine WpO.nil ?_ | refine WpO.cons rfl rfl (WpX.pure (fun _ => rfl) ⟨nolog, ?_⟩))
  · subst hvS
    refine WpC.loop ?_
    refine WpLoop.ind (X := List Nat × List Int × V) (fun x e' h' c' => (∃ b0, e' = FR b0 [(0, V.ptr (some (a, 0))), (6, .slice (some (c, 0)) W.length (.known W.length)), (7, x.2.2)]) ∧ Search W l R x.1 x.2.1 ∧ TodoOf h' c' x.2.2 x.2.1 ∧ (∀ n ∈ rowName x.2.2, c + 1 ≤ n) ∧ (∀ w ∈ x.2.1, okW w) ∧ x.2.1.length ≤ R.length + (x.1.map (nf W)).sum ∧ c + 1 ≤ c' ∧ MapI.get h' c = some (AObj.cells true true (flat boolV (marks W.length x.1))) ∧ (∀ n, n < c → MapI.get h' n = MapI.get h n))
      (fun x => (W.length - x.1.length) * (W.length + 2) + x.2.1.length) ?_ ([], R, vT) _ _ _ ⟨fr ⟨rfl, rfl, rfl, trivial⟩, Search.start so, hT1, hTn, hRok, by simp, by omega, hI1, hfc⟩
    rintro ⟨S, T, vT⟩ e' h' c' ⟨⟨b0, rfl⟩, hs, hT, hTn, hTok, hTl, hc', hI, hf⟩
    simp only at hs hT hTn hTok hTl hI
    have hS1 := hs.sum so
    have hS2 := hs.small so
    by_cases hemp : T = []
    · subst hemp
      obtain ⟨b, cap, rfl⟩ : ∃ b cap, vT = .slice b 0 cap := by
        rcases hT with h | ⟨_, h⟩
        · obtain ⟨s, cap, rfl, _⟩ := h.shape; exact ⟨s, cap, rfl⟩
        · exact h
      repeat' (first | refine WpC.seq ?_ | refine WpC.region ?_ | refine WpO.nil ?_ | refine WpO.cons rfl rfl (WpX.pure (fun _ => rfl) ⟨nolog, ?_⟩) | refine seqQ_normal ?_)
      refine WpC.cond rfl (fun hb => by cases hb) (fun _ => ?_)
      repeat' (first | refine WpC.exit ?_ | refine seqQ_normal ?_ | refine seqQ_exit ?_ | refine blkQ_out rfl ?_)
      refine ⟨S, fr ?_, hs, hc', hI, hf⟩
      exact ⟨rfl, trivial⟩
    obtain ⟨T, w, rfl⟩ : ∃ T' w, T = T' ++ [w] := ⟨T.dropLast, T.getLast hemp, (List.dropLast_concat_getLast hemp).symm⟩
    have hTL : ListOf 1 wordV h' c' vT (T ++ [w]) := by
      rcases hT with h | ⟨h, _⟩
      · exact h
      · exact absurd h hemp
    obtain ⟨s0, cap0, rfl, hs0⟩ := hTL.shape
    obtain ⟨rfl, sn, cl, junk, rfl, hsn, hg, hjk⟩ := hs0 0 (by simp)
    have hlen : (T ++ [w]).length = T.length + 1 := by simp
    rw [hlen] at hTl
    have hokw := hTok w (by simp)
    have hsnc : c + 1 ≤ sn := hTn sn (by simp [rowName])
    have egt : decide (((T ++ [w]).length : Int) > 0) = true := decide_eq_true (by omega)
    have wl : IntKind.i64.wrap (((T ++ [w]).length : Int) - 1) = (T.length : Int) := by rw [hlen, Go.IntWalk.i64_in _ (by omega)]; omega
    have hz : nth (flat wordV (T ++ [w]) ++ junk) (0 + (IntKind.i64.wrap (((T ++ [w]).length : Int) - 1)).toNat * 1) = some (U w) := by
      rw [wl, show 0 + ((T.length : Nat) : Int).toNat * 1 = T.length from by simp]; exact nth_flat0 word_len (by simp) rfl junk
    repeat' (first | refine WpC.seq ?_ | refine WpC.region ?_ | refine WpO.nil ?_ | refine WpO.cons rfl rfl (WpX.pure (fun _ => rfl) ⟨nolog, ?_⟩) | refine seqQ_normal ?_)
    refine WpC.cond rfl (fun _ => ?_) (fun hb => by rw [egt] at hb; cases hb)
    repeat' (first | refine WpC.seq ?_ | refine WpC.region ?_ | refine WpC.skip ?_ | refine WpC.block ?_ | refine WpO.nil ?_ | refine WpO.cons rfl rfl (WpX.pure (fun _ => rfl) ⟨nolog, ?_⟩) | refine WpO.cons rfl rfl (op_indexAddr (k := 1) rfl rfl rfl rfl ⟨by rw [wl]; omega, by rw [wl, hlen]; omega⟩ ⟨(by simp [InL, Acc.name, rowName] <;> omega), ?_⟩) | refine WpO.cons rfl rfl (op_load rfl rfl rfl hg hz ⟨(by simp [InL, Acc.name, rowName] <;> omega), ?_⟩) | refine WpO.cons rfl rfl (op_slice (k := 0) (l := 0) (u := T.length) rfl rfl rfl rfl rfl rfl (bound_at wl) (Nat.zero_le _) (by rw [hlen]; omega) rfl ⟨(by simp [InL, Acc.name, rowName] <;> omega), ?_⟩))
    have hTc : ListOf 1 wordV h' c' (.slice (some (sn, 0)) T.length (.upTo 1)) T := by
      have := ListOf.cutTo (h := h') (c := c') (m := sn) (cl := cl) (junk := junk) (xs := T ++ [w]) (i := T.length) word_len word_all hsn hg hjk (by rw [hlen]; omega)
      rwa [List.take_left] at this
    have hTok' : ∀ w ∈ T, okW w := fun x hx => hTok x (by simp [hx])
    refine WpO.cons rfl rfl (call_atD rfl (tag_okR hokw) (fun n hn => by cases hn) (by omega) fun v4 h4 c4 hc4 _ hq => ?_)
    obtain ⟨rfl, rfl, rfl⟩ := hq
    by_cases t5 : tagW w = 5
    case neg =>
      have e5 : (tagW w != 5) = true := by simpa using t5
      repeat' (first | refine WpO.nil ?_ | refine WpO.cons rfl rfl (WpX.pure (fun _ => rfl) ⟨nolog, ?_⟩) | refine seqQ_normal ?_)
      refine WpC.cond rfl (fun _ => ?_) (fun hb => by rw [e5] at hb; cases hb)
      repeat' (first | refine WpC.exit ?_ | refine seqQ_normal ?_ | refine seqQ_exit ?_ | refine blkQ_out rfl ?_)
      refine ⟨(S, T, .slice (some (sn, 0)) T.length (.upTo 1)), by simp only [hlen]; omega, fr ⟨rfl, rfl, rfl, trivial⟩, hs.drop fun p h _ => absurd h t5, .inl hTc, hTn, hTok', by simp only; omega, hc', hI, hf⟩
    have e5 : (tagW w != 5) = false := by simpa using t5
    repeat' (first | refine WpO.nil ?_ | refine WpO.cons rfl rfl (WpX.pure (fun _ => rfl) ⟨nolog, ?_⟩) | refine seqQ_normal ?_)
    refine WpC.cond rfl (fun hb => by rw [e5] at hb; cases hb) (fun _ => ?_)
    obtain ⟨⟨p, x⟩, hxm, hvp⟩ := (hs.todo w (by simp)).1.2.2 t5
    have hvp : valW w = ((p : Nat) : Int) := hvp
    repeat' (first | refine WpC.seq ?_ | refine WpC.region ?_ | refine WpC.skip ?_ | refine WpO.cons rfl rfl (WpX.pure (fun _ => rfl) ⟨nolog, ?_⟩))
    refine WpO.cons rfl rfl (call_atD rfl (val_okR hokw) (fun n hn => by cases hn) (by omega) fun v4 h4 c4 hc4 _ hq => ?_)
    obtain ⟨rfl, rfl, rfl⟩ := hq
    rw [hvp]
    repeat' (first | refine WpC.seq ?_ | refine WpC.region ?_ | refine WpO.nil ?_ | refine WpO.cons rfl rfl (WpX.pure (fun _ => rfl) ⟨nolog, ?_⟩))
    have hr' := r.same (h' := h') (c' := c') (by omega) hf
    refine WpO.cons rfl rfl (call_atD rfl (object_ok hr') hsub1 (by omega) fun v4 h4 c4 hc4 hf4 hq => ?_)
    have hob : objW W ((p : Nat) : Int) = some x := (so.objs.mem _ hxm).2
    rw [hob] at hq
    subst hq
    obtain ⟨jj, w', ej, hw', _, hsz, hxok⟩ := objW_some hob
    have hfs : fieldsH x ≤ x.size := so.le _ hxm
    have hf0 := fieldsH_nn hxok
    unfold okH at hxok
    have hpl : p < W.length := by
      have := (List.getElem?_eq_some_iff.1 hw').1
      omega
    repeat' (first | refine WpC.seq ?_ | refine WpC.region ?_ | refine WpO.nil ?_ | refine WpO.cons rfl rfl (WpX.pure (fun _ => rfl) ⟨nolog, ?_⟩) | refine seqQ_normal ?_ | refine WpO.cons rfl rfl (op_alloc rfl ⟨(by simp [InL, Acc.name, rowName] <;> omega), ?_⟩) | refine WpO.cons rfl rfl (op_store (k := 4) rfl rfl rfl rfl (MapI.get_same _ _ _) (Nat.le_of_ble_eq_true rfl) rfl ⟨(by simp [InL, Acc.name, rowName] <;> omega), ?_⟩))
    refine WpC.cond rfl (fun hb => by cases hb) (fun _ => ?_)
    have hI4 : ∀ {o q : AObj}, MapI.get (MapI.set (MapI.set h4 c4 o) c4 q) c = some (AObj.cells true true (flat boolV (marks W.length S))) := fun {o q} => by
      rw [MapI.get_ne _ _ _ _ (by omega), MapI.get_ne _ _ _ _ (by omega), hf4 c (by omega)]; exact hI
    have hf4' : ∀ {o q : AObj}, ∀ n, n < c → MapI.get (MapI.set (MapI.set h4 c4 o) c4 q) n = MapI.get h n := fun {o q} n hn => by
      rw [MapI.get_ne _ _ _ _ (by omega), MapI.get_ne _ _ _ _ (by omega), hf4 n (by omega)]; exact hf n hn
    have hT4 : ∀ {o q : AObj}, ListOf 1 wordV (MapI.set (MapI.set h4 c4 o) c4 q) (c4 + 1) (.slice (some (sn, 0)) T.length (.upTo 1)) T := fun {o q} => hTc.keep (by omega) fun n hn _ => by
      rw [MapI.get_ne _ _ _ _ (by omega), MapI.get_ne _ _ _ _ (by omega), hf4 n (by omega)]
    have hzS : nth (flat boolV (marks W.length S)) (0 + ((p : Nat) : Int).toNat * 1) = some (.bool (S.contains p)) := by
      rw [show 0 + ((p : Nat) : Int).toNat * 1 = p from by simp]
      have := nth_flat0 (cells := boolV) bool_len (marks_get S hpl) rfl []
      rwa [List.append_nil] at this
    repeat' (first | refine WpC.seq ?_ | refine WpC.region ?_ | refine WpC.skip ?_ | refine WpO.nil ?_ | refine WpO.cons rfl rfl (WpX.pure (fun _ => rfl) ⟨nolog, ?_⟩) | refine seqQ_normal ?_ | refine WpO.cons rfl rfl (op_indexAddr (k := 1) rfl rfl rfl rfl ⟨by omega, by omega⟩ ⟨(by simp [InL, Acc.name, rowName] <;> omega), ?_⟩) | refine WpO.cons rfl rfl (op_load rfl rfl rfl hI4 hzS ⟨(by simp [InL, Acc.name, rowName] <;> omega), ?_⟩))
    refine WpC.cond rfl (fun hin => ?_) (fun hin => ?_)
    · have hin : p ∈ S := by simpa using hin
      repeat' (first | refine WpC.exit ?_ | refine seqQ_normal ?_ | refine seqQ_exit ?_ | refine blkQ_out rfl ?_)
      refine ⟨(S, T, .slice (some (sn, 0)) T.length (.upTo 1)), by simp only [hlen]; omega, fr ⟨rfl, rfl, rfl, trivial⟩, hs.drop fun q _ hq => ?_, .inl hT4, hTn, hTok', by simp only; omega, by omega, hI4, hf4'⟩
      have : q = p := by omega
      rw [this]; exact hin
    have hin : p ∉ S := by simpa using hin
    have hbS : 0 + ((p : Nat) : Int).toNat * 1 + 1 ≤ (flat boolV (marks W.length S)).length := by
      rw [flat_length bool_len, marks_len]; omega
    have hgx : ∀ {o q z : AObj}, MapI.get (MapI.set (MapI.set (MapI.set h4 c4 o) c4 q) c z) c4 = some q := fun {o q z} => by
      rw [MapI.get_ne _ _ _ _ (by omega)]; exact MapI.get_same _ _ _
    have hmin : (if x.size < fieldsH x then x.size else fieldsH x) = fieldsH x := if_neg (by omega)
    repeat' (first | refine WpC.seq ?_ | refine WpC.region ?_ | refine WpC.drawn ?_ | refine WpC.skip ?_ | refine WpO.nil ?_ | refine WpO.cons rfl rfl (WpX.pure (fun _ => rfl) ⟨nolog, ?_⟩) | refine WpO.cons rfl rfl (op_indexAddr (k := 1) rfl rfl rfl rfl ⟨by omega, by omega⟩ ⟨(by simp [InL, Acc.name, rowName] <;> omega), ?_⟩) | refine WpO.cons rfl rfl (op_store (k := 1) rfl rfl rfl rfl hI4 hbS rfl ⟨(by simp [InL, Acc.name, rowName] <;> omega), ?_⟩) | refine WpL.cons rfl rfl (op_loadA (k := 4) rfl rfl rfl rfl hgx rfl ⟨(by simp [InL, Acc.name, rowName] <;> omega), ?_⟩))
    refine WpL.cons rfl rfl (call_atRL rfl (fields_okR (x := x)) (fun n hn => by cases hn) (by omega) fun v5 h5 c5 al hal hc5 hf5 hq => ?_)
    subst hq
    have hgx5 : MapI.get h5 c4 = some (.cells true true (hdV x)) := by
      rw [hf5 c4 (by omega)]; exact hgx
    have hal' : ∀ x ∈ al, c4 = x.name → x.writes = false := fun x hx e => by
      cases hw : x.writes with
      | false => rfl
      | true => have := (hal x hx).2 hw; omega
    repeat' (first | refine WpL.cons rfl rfl (op_min rfl hmin ⟨nolog, ?_⟩) | refine WpL.cons rfl rfl (WpX.pure (fun _ => rfl) ⟨nolog, ?_⟩) | refine WpL.cons rfl rfl (op_load rfl rfl rfl hgx5 rfl ⟨(by simp [InL, Acc.name, rowName] <;> omega), ?_⟩))
    refine WpL.nil (logsOk_of (cs := [0, 1, 0, 4, 15, 0]) (by decide +kernel) ?_) ?_
    · simp +contextual [allP, apP, Dis, acc_rd, acc_wr, accw_rd, accw_wr, Nat.testBit, hal']
    have hT5 : ListOf (0 + 1) wordV h5 c5 (.slice (some (sn, 0)) T.length (.upTo 1)) (T ++ (W.drop (p + 1)).take 0) := by
      rw [List.take_zero, List.append_nil]
      exact hTc.keep (by omega) fun n hn hm => by
        have hm : n ∈ [sn] := hm
        have : n = sn := by simpa using hm
        subst this
        rw [hf5 n (by omega), MapI.get_ne _ _ _ _ (by omega), MapI.get_ne _ _ _ _ (by omega), MapI.get_ne _ _ _ _ (by omega), hf4 n (by omega)]
    have hI5 : MapI.get h5 c = some (AObj.cells true true (flat boolV (marks W.length (p :: S)))) := by
      rw [hf5 c (by omega), MapI.get_same]
      have h1 := setAll_flat (cells := boolV) (k := 1) bool_len (junk := []) (z := true) (xs := marks W.length S) (i := p) (by rw [marks_len]; exact hpl)
      rw [List.append_nil, List.append_nil, marks_set _ hpl] at h1
      refine congrArg (fun z => some (AObj.cells true true z)) ?_
      rw [show 0 + ((p : Nat) : Int).toNat * 1 = p * 1 from by simp]
      exact h1
    have hf5' : ∀ n, n < c → MapI.get h5 n = MapI.get h n := fun n hn => by
      rw [hf5 n (by omega), MapI.get_ne _ _ _ _ (by omega)]; exact hf4' n hn
    have hnfp : nf W p = (fieldsH x).toNat := by unfold nf; rw [hob]
    have hmk := hs.mark (fs := (W.drop (p + 1)).take (fieldsH x).toNat) so t5 hvp hxm hin fun w' => by
      rw [List.mem_iff_getElem?]
      constructor
      · rintro ⟨k, hk⟩
        rw [List.getElem?_take] at hk
        split at hk
        · rw [List.getElem?_drop] at hk; exact ⟨k, by omega, hk⟩
        · cases hk
      · rintro ⟨k, hk, hw⟩
        exact ⟨k, by rw [List.getElem?_take, if_pos (by omega), List.getElem?_drop]; exact hw⟩
    have hS3 := hmk.small so
    have hS4 := hmk.sum so
    simp only [List.length_cons] at hS3
    simp only [List.map_cons, List.sum_cons, hnfp] at hS4
    repeat' (first | refine WpC.block ?_)
    refine WpC.loop ?_
    refine WpLoop.ind (X := Nat × V) (fun y e' h'' c'' => (∃ b0, e' = FR b0 [(0, V.ptr (some (a, 0))), (6, .slice (some (c, 0)) W.length (.known W.length)), (7, y.2), (9, I p), (63, I (fieldsH x)), (64, I y.1)]) ∧ (y.1 : Int) ≤ fieldsH x ∧ ListOf (0 + 1) wordV h'' c'' y.2 (T ++ (W.drop (p + 1)).take y.1) ∧ (∀ n ∈ rowName y.2, c + 1 ≤ n) ∧ c5 ≤ c'' ∧ MapI.get h'' c = some (AObj.cells true true (flat boolV (marks W.length (p :: S)))) ∧ ∀ n, n < c → MapI.get h'' n = MapI.get h n)
      (fun y => (fieldsH x).toNat - y.1) ?_ (0, _) _ _ _ ⟨fr ⟨rfl, rfl, rfl, rfl, rfl, rfl, trivial⟩, by simp only; omega, hT5, hTn, Nat.le_refl _, hI5, hf5'⟩
    rintro ⟨k, v⟩ e' h'' c'' ⟨⟨b0, rfl⟩, hk, hTk, hvn, hck, hIk, hfk⟩
    simp only at hk hTk hvn
    repeat' (first | refine WpC.seq ?_ | refine WpC.region ?_ | refine WpO.nil ?_ | refine WpO.cons rfl rfl (WpX.pure (fun _ => rfl) ⟨nolog, ?_⟩))
    refine WpC.cond rfl (fun hlt => ?_) (fun hge => ?_)
    case refine_2 =>
      have hge : fieldsH x ≤ k := by simpa using hge
      have hke : k = (fieldsH x).toNat := by omega
      repeat' (first | refine WpC.exit ?_ | refine seqQ_normal ?_ | refine seqQ_exit ?_ | refine blkQ_normal ?_ | refine blkQ_out rfl ?_)
      refine ⟨(p :: S, T ++ (W.drop (p + 1)).take (fieldsH x).toNat, v), ?_, fr ⟨rfl, rfl, rfl, trivial⟩, hmk, .inl (by rw [← hke]; exact hTk), hvn, fun w hw => ?_, ?_, by omega, hIk, hfk⟩
      · have hl2 : ((W.drop (p + 1)).take (fieldsH x).toNat).length ≤ W.length := by
          rw [List.length_take, List.length_drop]; omega
        simp only [List.length_append, List.length_cons, List.length_nil]
        obtain ⟨u, hu⟩ : ∃ u, W.length - S.length = u + 1 := ⟨W.length - S.length - 1, by omega⟩
        rw [hu, show W.length - (S.length + 1) = u from by omega, Nat.succ_mul]
        omega
      · rcases List.mem_append.1 hw with h | h
        · exact hTok' w h
        · exact hokW w (List.mem_of_mem_drop (List.mem_of_mem_take h))
      · simp only [List.length_append, List.map_cons, List.sum_cons, hnfp]
        rw [List.length_take, List.length_drop]
        omega
    have hlt : (k : Int) < fieldsH x := by simpa using hlt
    obtain ⟨w2, hw2⟩ := obj_get so hxm hlt
    have wa : IntKind.i64.wrap ((p : Int) + 1) = p + 1 := Go.IntWalk.i64_in _ (by omega)
    have wb : IntKind.i64.wrap (IntKind.i64.wrap ((p : Int) + 1) + (k : Int)) = ((p + 1 + k : Nat) : Int) := by rw [wa, Go.IntWalk.i64_in _ (by omega)]; omega
    have wk : IntKind.i64.wrap ((k : Int) + 1) = ((k + 1 : Nat) : Int) := by rw [Go.IntWalk.i64_in _ (by omega)]; omega
    repeat' (first | refine WpC.seq ?_ | refine WpC.region ?_ | refine WpC.skip ?_ | refine WpC.block ?_ | refine WpO.nil ?_ | refine WpO.cons rfl rfl (WpX.pure (fun _ => rfl) ⟨nolog, ?_⟩))
    refine WpO.cons rfl rfl (call_atD rfl (get_in (r.same (h' := h'') (c' := c'') (by omega) hfk) wb hw2) hsub1 (by omega) fun v7 h7 c7 hc7 _ hq => ?_)
    obtain ⟨rfl, rfl, rfl⟩ := hq
    repeat' (first | refine WpC.region ?_ | refine WpO.nil ?_ | refine WpO.cons rfl rfl (WpX.pure (fun _ => rfl) ⟨nolog, ?_⟩) | refine WpO.cons rfl rfl (op_buildSlice (k := 1) rfl rfl rfl rfl (by decide) rfl ⟨(by simp [InL, Acc.name, rowName] <;> omega), ?_⟩))
    have hvlt := hTk.lt
    have hTk2 : ∀ {o : AObj}, ListOf (0 + 1) wordV (MapI.set h'' c'' o) (c'' + 1) v (T ++ (W.drop (p + 1)).take k) := fun {o} => hTk.keep (by omega) fun n hn _ => MapI.get_ne _ _ _ _ (by omega)
    refine WpO.cons rfl rfl (append1 (y := w2) rfl rfl ⟨rfl, rfl, rfl, ⟨_, rfl, by decide⟩⟩ rfl word_len word_all hTk2 (MapI.get_same _ _ _) (by rw [List.length_append, List.length_take]; omega) (by omega) (fun n h => .inr (by have := hvn n h; omega)) (by omega) fun v5' h5' c5' r5 hn5 hc5' hf5n => ?_)
    repeat' (first | refine WpC.region ?_ | refine WpO.nil ?_ | refine WpO.cons rfl rfl (WpX.pure (fun _ => rfl) ⟨nolog, ?_⟩) | refine seqQ_normal ?_)
    refine ⟨(k + 1, v5'), by simp only; omega, ?_, by simp only; omega, ?_, fun n h => ?_, by omega, ?_, fun n h => ?_⟩
    · rw [wk]
      exact fr ⟨rfl, rfl, rfl, rfl, rfl, rfl, trivial⟩
    · have : (W.drop (p + 1)).take (k + 1) = (W.drop (p + 1)).take k ++ [w2] := by
        rw [List.take_add_one, List.getElem?_drop, hw2]; rfl
      simp only [this, ← List.append_assoc]
      exact r5
    · rcases hn5 n h with h | h
      · exact hvn n h
      · omega
    · rw [hf5n c (by omega) (fun hm => by have := hvn c hm; omega), MapI.get_ne _ _ _ _ (by omega)]; exact hIk
    · rw [hf5n n (by omega) (fun hm => by have := hvn n hm; omega), MapI.get_ne _ _ _ _ (by omega)]; exact hfk n h
  rintro e h2 c2 ⟨S, ⟨b0, rfl⟩, hs, hc2, hI2, hf2⟩
  subst hvS
  have hpl := hs.places so
  repeat' (first | refine WpC.seq ?_ | refine WpC.region ?_ | refine WpC.block ?_ | refine WpO.nil ?_ | refine WpO.cons rfl rfl (WpX.pure (fun _ => rfl) ⟨nolog, ?_⟩))
  refine WpC.loop ?_
  refine WpLoop.ind (X := Nat × V) (fun y e' h' c' => (∃ b0, e' = FR b0 [(15, y.2), (81, .slice (some (c, 0)) W.length (.known W.length)), (82, I W.length), (83, I y.1)]) ∧ y.1 ≤ W.length ∧ ListOf (0 + 1) intV h' c' y.2 (((List.range y.1).filter fun i => S.contains i).map fun i : Nat => (i : Int)) ∧ (∀ n ∈ rowName y.2, c2 ≤ n) ∧ c2 ≤ c' ∧ ∀ n, n < c2 → MapI.get h' n = MapI.get h2 n)
    (fun y => W.length - y.1) ?_ (0, .slice none 0 (.known 0)) _ _ _ ⟨fr ⟨rfl, rfl, rfl, rfl, trivial⟩, Nat.zero_le _, .nil, fun n hn => (by cases hn), Nat.le_refl _, fun _ _ => rfl⟩
  rintro ⟨k, v⟩ e' h' c' ⟨⟨b0, rfl⟩, hk, hl, hvn, hc', hf⟩
  simp only at hk hl hvn
  repeat' (first | refine WpC.seq ?_ | refine WpC.region ?_ | refine WpO.nil ?_ | refine WpO.cons rfl rfl (WpX.pure (fun _ => rfl) ⟨nolog, ?_⟩))
  refine WpC.cond rfl (fun hlt => ?_) (fun hge => ?_)
  case refine_2 =>
    have hge : W.length ≤ k := by simpa using hge
    have hke : k = W.length := by omega
    subst hke
    rw [hpl, List.map_map] at hl
    repeat' (first | refine WpC.seq ?_ | refine WpC.region ?_ | refine WpC.exit ?_ | refine WpC.ret ?_ | refine WpO.nil ?_ | refine WpO.cons rfl rfl (WpX.pure (fun _ => rfl) ⟨nolog, ?_⟩))
    exact out_ret rfl ⟨v, rfl, hl, fun n hn => (by have := hvn n hn; omega), fun n hn => by rw [hf n (by omega)]; exact hf2 n hn⟩
  have hlt : k < W.length := by simpa using hlt
  have hI' : MapI.get h' c = some (AObj.cells true true (flat boolV (marks W.length S))) := by rw [hf c (by omega)]; exact hI2
  have hzS : nth (flat boolV (marks W.length S)) (0 + ((k : Nat) : Int).toNat * 1) = some (.bool (S.contains k)) := by
    rw [show 0 + ((k : Nat) : Int).toNat * 1 = k from by simp]
    have := nth_flat0 (cells := boolV) bool_len (marks_get S hlt) rfl []
    rwa [List.append_nil] at this
  have wk : IntKind.i64.wrap ((k : Int) + 1) = ((k + 1 : Nat) : Int) := by rw [Go.IntWalk.i64_in _ (by omega)]; omega
  have hrs : (List.range (k + 1)).filter (fun i => S.contains i) = (List.range k).filter (fun i => S.contains i) ++ (if S.contains k then [k] else []) := by
    rw [List.range_succ, List.filter_append]
    congr 1
    rw [List.filter_cons, List.filter_nil]
  have hll : ((List.range k).filter fun i => S.contains i).length ≤ k := by
    have := List.length_filter_le (fun i => S.contains i) (List.range k)
    simpa using this
  repeat' (first | refine WpC.seq ?_ | refine WpC.region ?_ | refine WpC.skip ?_ | refine WpC.block ?_ | refine WpO.nil ?_ | refine WpO.cons rfl rfl (WpX.pure (fun _ => rfl) ⟨nolog, ?_⟩) | refine seqQ_normal ?_ | refine WpO.cons rfl rfl (op_indexAddr (k := 1) rfl rfl rfl rfl ⟨by omega, by omega⟩ ⟨(by simp [InL, Acc.name, rowName] <;> omega), ?_⟩) | refine WpO.cons rfl rfl (op_load rfl rfl rfl hI' hzS ⟨(by simp [InL, Acc.name, rowName] <;> omega), ?_⟩))
  refine WpC.cond rfl (fun hin => ?_) (fun hin => ?_)
  ·
    repeat' (first | refine WpC.region ?_ | refine WpO.cons rfl rfl (WpX.pure (fun _ => rfl) ⟨nolog, ?_⟩) | refine WpO.cons rfl rfl (op_buildSlice (k := 1) rfl rfl rfl rfl (by decide) rfl ⟨(by simp [InL, Acc.name, rowName] <;> omega), ?_⟩))
    have hvlt := hl.lt
    have hl2 : ∀ {o : AObj}, ListOf (0 + 1) intV (MapI.set h' c' o) (c' + 1) v (((List.range k).filter fun i => S.contains i).map fun i : Nat => (i : Int)) := fun {o} => hl.keep (by omega) fun n hn _ => MapI.get_ne _ _ _ _ (by omega)
    refine WpO.cons rfl rfl (append1 (y := (k : Int)) rfl rfl ⟨rfl, rfl, rfl, ⟨_, rfl, by decide⟩⟩ rfl int_len int_all hl2 (MapI.get_same _ _ _) (by rw [List.length_map]; omega) (by omega) (fun n h => .inr (by have := hvn n h; omega)) (by omega) fun v5' h5' c5' r5 hn5 hc5' hf5n => ?_)
    repeat' (first | refine WpC.region ?_ | refine WpO.nil ?_ | refine WpO.cons rfl rfl (WpX.pure (fun _ => rfl) ⟨nolog, ?_⟩) | refine seqQ_normal ?_)
    refine ⟨(k + 1, v5'), by simp only; omega, ?_, by simp only; omega, ?_, fun n h => ?_, by omega, fun n h => ?_⟩
    · rw [wk]
      exact fr ⟨rfl, rfl, rfl, rfl, trivial⟩
    · simp only [hrs, hin, if_true, List.map_append, List.map_cons, List.map_nil]
      exact r5
    · rcases hn5 n h with h | h
      · exact hvn n h
      · omega
    · rw [hf5n n (by omega) (fun hm => by have := hvn n hm; omega), MapI.get_ne _ _ _ _ (by omega)]; exact hf n h
  ·
    repeat' (first | refine WpC.region ?_ | refine WpC.skip ?_ | refine WpO.nil ?_ | refine WpO.cons rfl rfl (WpX.pure (fun _ => rfl) ⟨nolog, ?_⟩) | refine seqQ_normal ?_)
    refine ⟨(k + 1, v), by simp only; omega, ?_, by simp only; omega, ?_, hvn, hc', hf⟩
    · rw [wk]
      exact fr ⟨rfl, rfl, rfl, rfl, trivial⟩
    · simp only [hrs, hin, Bool.false_eq_true, if_false, List.append_nil]
      exact hl
end
end Go.Proofs.Ytcenbfjhhaialaa
