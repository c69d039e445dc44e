/- What the fast evaluator answers, the evaluator answers: frames, heaps, lists, numbers, instructions. -/
import Derived.Test.YtfjnhimdnjgakaaGreatDoorAf1
import Derived.Test.YtfjnhimdnjgakaaGreatDoorAc2
set_option linter.unusedVariables false
set_option linter.unusedSectionVars false
set_option linter.unusedSimpArgs false
set_option linter.unnecessarySimpa false
namespace Go.Ab

theorem fbnd {H α β : Type} {m : M H α} {f : α → M H β} {h h' h'' : H} {c c' c'' : Nat} {a : α} {b : β} {l l' : List Acc} (x : m h c = .ok a h' c' l) (y : f a h' c' = .ok b h'' c'' l') : Ab.bnd m f h c = .ok b h'' c'' (l ++ l') := by
  unfold Ab.bnd
  simp only [x, y]
theorem nb {k : Nat} (h : k ≠ 0) : Nat.beq k 0 = false := by rw [Bool.eq_false_iff]; intro hh; exact h (Nat.eq_of_beq_eq_true hh)

theorem paF_odd {f k : Nat} (h : Nat.mod k 2 = 1) : paF (f + 1) k = .a (paF f (Nat.div k 2)) := by
  cases k with
  | zero => cases h
  | succ m =>
    show Nat.rec (motive := fun _ => Pa) _ _ (Nat.mod (m + 1) 2) = _
    rw [h]
    rfl
theorem paF_even {f k : Nat} (h0 : k ≠ 0) (h : Nat.mod k 2 = 0) : paF (f + 1) k = .b (paF f (Nat.pred (Nat.div k 2))) := by
  cases k with
  | zero => exact (h0 rfl).elim
  | succ m =>
    show Nat.rec (motive := fun _ => Pa) _ _ (Nat.mod (m + 1) 2) = _
    rw [h]
    rfl
theorem getP_paF : ∀ (f k : Nat) (t : ET), k < f → getP (paF f k) t = Tr.getF f t k
  | 0, _, _, h => absurd h (Nat.not_lt_zero _)
  | f + 1, k, t, h => by
    rcases Tr.parts k with q | ⟨q1, q2⟩ | ⟨q0, q1, q2⟩
    · subst q; cases t <;> rfl
    · have c : Nat.beq (Nat.mod k 2) 1 = true := by rw [q1]; rfl
      rw [paF_odd q1]
      cases t with
      | e => rfl
      | n l v r =>
        show getP (paF f (Nat.div k 2)) l = _
        rw [getP_paF f _ l (by omega)]
        simp only [Tr.getF, nb (k := k) (by omega), c, cond_false, cond_true]
    · have c : Nat.beq (Nat.mod k 2) 1 = false := by rw [q1]; rfl
      rw [paF_even q0 q1]
      cases t with
      | e => rfl
      | n l v r =>
        show getP (paF f (Nat.pred (Nat.div k 2))) r = _
        rw [getP_paF f _ r (by omega)]
        simp only [Tr.getF, nb q0, c, cond_false]
theorem getP_ok {t : ET} {k : Nat} : getP (paOf k) t = MapI.get t k := getP_paF _ k t (Nat.lt_succ_self k)
theorem setP_paF : ∀ (f k : Nat) (t : ET) (x : V), k < f → setP (paF f k) x t = Tr.setF f t k x
  | 0, _, _, _, h => absurd h (Nat.not_lt_zero _)
  | f + 1, k, t, x, h => by
    rcases Tr.parts k with q | ⟨q1, q2⟩ | ⟨q0, q1, q2⟩
    · subst q; cases t <;> rfl
    · have c : Nat.beq (Nat.mod k 2) 1 = true := by rw [q1]; rfl
      rw [paF_odd q1]
      cases t with
      | e =>
        show Tr.n (setP (paF f (Nat.div k 2)) x .e) none .e = _
        rw [setP_paF f _ _ x (by omega)]
        simp only [Tr.setF, nb (k := k) (by omega), c, cond_false, cond_true]
      | n l v r =>
        show Tr.n (setP (paF f (Nat.div k 2)) x l) v r = _
        rw [setP_paF f _ _ x (by omega)]
        simp only [Tr.setF, nb (k := k) (by omega), c, cond_false, cond_true]
    · have c : Nat.beq (Nat.mod k 2) 1 = false := by rw [q1]; rfl
      rw [paF_even q0 q1]
      cases t with
      | e =>
        show Tr.n .e none (setP (paF f (Nat.pred (Nat.div k 2))) x .e) = _
        rw [setP_paF f _ _ x (by omega)]
        simp only [Tr.setF, nb q0, c, cond_false]
      | n l v r =>
        show Tr.n l v (setP (paF f (Nat.pred (Nat.div k 2))) x r) = _
        rw [setP_paF f _ _ x (by omega)]
        simp only [Tr.setF, nb q0, c, cond_false]
theorem setP_ok {t : ET} {k : Nat} {x : V} : setP (paOf k) x t = MapI.set t k x := setP_paF _ k t x (Nat.lt_succ_self k)

theorem getH_F : ∀ (t : HT) (f k : Nat), k < f → getH t k = Tr.getF f t k
  | _, 0, _, h => absurd h (Nat.not_lt_zero _)
  | .e, f + 1, k, h => rfl
  | .n l v r, f + 1, k, h => by
    show getHn v (getH l) (getH r) k = _
    rcases Tr.parts k with q | ⟨q1, q2⟩ | ⟨q0, q1, q2⟩
    · subst q; rfl
    · have c : Nat.beq (Nat.mod k 2) 1 = true := by rw [q1]; rfl
      simp only [Tr.getF, nb (k := k) (by omega), c, cond_false, cond_true]
      rw [← getH_F l f _ (by omega)]
      obtain ⟨m, rfl⟩ : ∃ m, k = m + 1 := ⟨k - 1, by omega⟩
      show Nat.rec (motive := fun _ => Option AObj) _ _ (Nat.mod (m + 1) 2) = _
      rw [q1]
      rfl
    · have c : Nat.beq (Nat.mod k 2) 1 = false := by rw [q1]; rfl
      simp only [Tr.getF, nb q0, c, cond_false]
      rw [← getH_F r f _ (by omega)]
      obtain ⟨m, rfl⟩ : ∃ m, k = m + 1 := ⟨k - 1, by omega⟩
      show Nat.rec (motive := fun _ => Option AObj) _ _ (Nat.mod (m + 1) 2) = _
      rw [q1]
      rfl
theorem getH_ok {t : HT} {k : Nat} : getH t k = MapI.get t k := getH_F t _ k (Nat.lt_succ_self k)
theorem setH_F : ∀ (t : HT) (f k : Nat) (x : AObj), k < f → setH t k x = Tr.setF f t k x
  | _, 0, _, _, h => absurd h (Nat.not_lt_zero _)
  | .e, f + 1, k, x, h => Tr.setF_fuel _ _ _ _ _ (Nat.lt_succ_self k) h
  | .n l v r, f + 1, k, x, h => by
    show setHn l v r (setH l) (setH r) k x = _
    rcases Tr.parts k with q | ⟨q1, q2⟩ | ⟨q0, q1, q2⟩
    · subst q; rfl
    · have c : Nat.beq (Nat.mod k 2) 1 = true := by rw [q1]; rfl
      simp only [Tr.setF, nb (k := k) (by omega), c, cond_false, cond_true]
      rw [← setH_F l f _ x (by omega)]
      obtain ⟨m, rfl⟩ : ∃ m, k = m + 1 := ⟨k - 1, by omega⟩
      show Nat.rec (motive := fun _ => HT) _ _ (Nat.mod (m + 1) 2) = _
      rw [q1]
      rfl
    · have c : Nat.beq (Nat.mod k 2) 1 = false := by rw [q1]; rfl
      simp only [Tr.setF, nb q0, c, cond_false]
      rw [← setH_F r f _ x (by omega)]
      obtain ⟨m, rfl⟩ : ∃ m, k = m + 1 := ⟨k - 1, by omega⟩
      show Nat.rec (motive := fun _ => HT) _ _ (Nat.mod (m + 1) 2) = _
      rw [q1]
      rfl
theorem setH_ok {t : HT} {k : Nat} {x : AObj} : setH t k x = MapI.set t k x := setH_F t _ k x (Nat.lt_succ_self k)

/-! ## Lists -/

theorem optK_ok {α : Type} {o : Option α} {k : α → Bool} (h : optK o k = true) : ∃ a, o = some a ∧ k a = true := by
  cases o with
  | none => cases h
  | some a => exact ⟨a, rfl, h⟩
theorem nthF_eq {α : Type} : ∀ (cs : List α) (n : Nat), nthF cs n = cs[n]?
  | [], _ => rfl
  | _ :: _, 0 => rfl
  | _ :: l, n + 1 => by rw [List.getElem?_cons_succ, ← nthF_eq l n]; rfl
theorem dropF_eq : ∀ (cs : List V) (n : Nat), dropF cs n = cs.drop n
  | [], n => by rw [List.drop_nil]; rfl
  | _ :: _, 0 => rfl
  | _ :: l, n + 1 => by rw [List.drop_succ_cons, ← dropF_eq l n]; rfl
theorem consO_ok {x : V} {o : Option (List V)} {r : List V} (h : consO x o = some r) : ∃ l, o = some l ∧ r = x :: l := by
  cases o with
  | none => cases h
  | some l => cases h; exact ⟨l, rfl, rfl⟩
theorem takeF_ok : ∀ {cs : List V} {n : Nat} {r : List V}, takeF cs n = some r → n ≤ cs.length ∧ r = cs.take n
  | [], 0, _, h => by cases h; exact ⟨Nat.le_refl _, rfl⟩
  | [], _ + 1, _, h => by cases h
  | _ :: _, 0, _, h => by cases h; exact ⟨Nat.zero_le _, rfl⟩
  | x :: l, n + 1, r, h => by
    obtain ⟨l', h1, rfl⟩ := consO_ok (show consO x (takeF l n) = some r from h)
    obtain ⟨h2, rfl⟩ := takeF_ok h1
    exact ⟨by simp; omega, by simp⟩
theorem cutF_ok {cs : List V} {o n : Nat} {r : List V} (hn : 0 < n) (h : cutF cs o n = some r) : cut cs o n = some r := by
  unfold cutF at h
  rw [dropF_eq] at h
  obtain ⟨h1, rfl⟩ := takeF_ok h
  rw [List.length_drop] at h1
  unfold cut
  rw [if_pos (by omega)]
theorem cut1 {cs : List V} {o : Nat} {v : V} (hv : cs[o]? = some v) : cut cs o 1 = some [v] := by
  obtain ⟨h1, h2⟩ := List.getElem?_eq_some_iff.1 hv
  unfold cut
  rw [if_pos (by omega)]
  congr 1
  rw [List.drop_eq_getElem_cons h1, h2]
  rfl
theorem putN_ok {w : V} : ∀ {cs : List V} {o : Nat} {ds : List V}, putN w cs o = some ds → o < cs.length ∧ ds = setAll cs o [w]
  | [], _, _, h => by cases h
  | _ :: l, 0, _, h => by
    cases h
    exact ⟨by simp, by cases l <;> simp [setAll, ovr]⟩
  | x :: l, o + 1, ds, h => by
    obtain ⟨l', h1, rfl⟩ := consO_ok (show consO x (putN w l o) = some ds from h)
    obtain ⟨h2, rfl⟩ := putN_ok h1
    exact ⟨by simp; omega, rfl⟩

/-! ## Numbers -/

theorem boolK_true {α : Type} {f t : α} : boolK f t true = t := rfl
theorem boolK_false {α : Type} {f t : α} : boolK f t false = f := rfl
theorem boolK_cases {α : Type} (f t : α) (b : Bool) : boolK f t b = if b = true then t else f := by cases b <;> rfl
theorem boolK_and {a b : Bool} (h : boolK false a b = true) : b = true ∧ a = true := by
  cases b with
  | false => cases h
  | true => exact ⟨rfl, h⟩
theorem wrapF_eq (k : IntKind) (z : Int) : wrapF k z = k.wrap z := by
  cases z with
  | ofNat n =>
    show boolK (k.wrap (.ofNat n)) (.ofNat n) (Nat.ble n (kmax k)) = _
    cases h : Nat.ble n (kmax k) with
    | false => rfl
    | true =>
      have h := Nat.le_of_ble_eq_true h
      show Int.ofNat n = k.wrap (.ofNat n)
      cases k <;> (simp only [kmax] at h; simp only [IntKind.wrap, IntKind.bits, IntKind.signed, Int.ofNat_eq_natCast]; simp; omega)
  | negSucc n =>
    show boolK (k.wrap (.negSucc n)) (.negSucc n) (Nat.ble (Nat.succ n) (kneg k)) = _
    cases h : Nat.ble (Nat.succ n) (kneg k) with
    | false => rfl
    | true =>
      have h := Nat.le_of_ble_eq_true h
      show Int.negSucc n = k.wrap (.negSucc n)
      have e : Int.negSucc n = -((n : Int) + 1) := Int.negSucc_eq n
      rw [e]
      cases k <;> (simp only [kneg] at h; simp only [IntKind.wrap, IntKind.bits, IntKind.signed]; simp; omega)
theorem natK_cases {α : Type} (x y : Int) (f : Nat → Nat → α) (d : α) : (∃ a b : Nat, x = a ∧ y = b ∧ natK x y f d = f a b) ∨ natK x y f d = d := by
  cases x with
  | ofNat a => cases y with
    | ofNat b => exact .inl ⟨a, b, rfl, rfl, rfl⟩
    | negSucc b => exact .inr rfl
  | negSucc a => exact .inr rfl
theorem addI_eq (x y : Int) : addI x y = x + y := by
  rcases natK_cases x y (fun a b => Int.ofNat (Nat.add a b)) (x + y) with ⟨a, b, rfl, rfl, h⟩ | h
  · exact h
  · exact h
theorem subI_eq (x y : Int) : subI x y = x - y := by
  rcases natK_cases x y (fun a b => boolK (x - y) (.ofNat (Nat.sub a b)) (Nat.ble b a)) (x - y) with ⟨a, b, rfl, rfl, h⟩ | h
  · refine h.trans ?_
    cases hb : Nat.ble b a with
    | false => rfl
    | true =>
      have hb := Nat.le_of_ble_eq_true hb
      show ((a - b : Nat) : Int) = _
      omega
  · exact h
theorem mulI_eq (x y : Int) : mulI x y = x * y := by
  rcases natK_cases x y (fun a b => Int.ofNat (Nat.mul a b)) (x * y) with ⟨a, b, rfl, rfl, h⟩ | h
  · exact h.trans (by show ((a * b : Nat) : Int) = _; simp)
  · exact h
theorem eqI_eq (x y : Int) : eqI x y = (x == y) := by
  rcases natK_cases x y (fun a b => Nat.beq a b) (x == y) with ⟨a, b, rfl, rfl, h⟩ | h
  · refine h.trans ?_
    rw [Bool.eq_iff_iff, beq_iff_eq]
    exact ⟨fun h => congrArg Nat.cast (Nat.eq_of_beq_eq_true h), fun h => (show a = b by omega) ▸ Nat.beq_refl _⟩
  · exact h
theorem ltI_eq (x y : Int) : ltI x y = decide (x < y) := by
  rcases natK_cases x y (fun a b => Nat.ble (Nat.succ a) b) (decide (x < y)) with ⟨a, b, rfl, rfl, h⟩ | h
  · refine h.trans ?_
    rw [Bool.eq_iff_iff, decide_eq_true_iff]
    exact ⟨fun h => by have := Nat.le_of_ble_eq_true h; omega, fun h => Nat.ble_eq_true_of_le (by omega)⟩
  · exact h
theorem leI_eq (x y : Int) : leI x y = decide (x ≤ y) := by
  rcases natK_cases x y (fun a b => Nat.ble a b) (decide (x ≤ y)) with ⟨a, b, rfl, rfl, h⟩ | h
  · refine h.trans ?_
    rw [Bool.eq_iff_iff, decide_eq_true_iff]
    exact ⟨fun h => by have := Nat.le_of_ble_eq_true h; omega, fun h => Nat.ble_eq_true_of_le (by omega)⟩
  · exact h
theorem notB_eq (b : Bool) : notB b = !b := by cases b <;> rfl
theorem kbits_eq (k : IntKind) : kbits k = k.bits := by cases k <;> rfl
theorem minN_eq (a b : Nat) : minN a b = min a b := by
  unfold minN
  rw [boolK_cases]
  split
  · next h => have := Nat.le_of_ble_eq_true h; omega
  · next h => have : ¬ a ≤ b := fun e => h (Nat.ble_eq_true_of_le e)
              omega
theorem kmax_lt (k : IntKind) {a : Nat} (h : Nat.ble a (kmax k) = true) : a < 2 ^ k.bits ∧ ∃ m, m ≤ k.bits ∧ a < 2 ^ m ∧ 2 ^ m - 1 = kmax k := by
  have h := Nat.le_of_ble_eq_true h
  cases k <;> (simp only [kmax] at h)
  · exact ⟨by show a < 2 ^ 8; omega, 7, by decide, by omega, rfl⟩
  · exact ⟨by show a < 2 ^ 16; omega, 15, by decide, by omega, rfl⟩
  · exact ⟨by show a < 2 ^ 32; omega, 31, by decide, by omega, rfl⟩
  · exact ⟨by show a < 2 ^ 64; omega, 63, by decide, by omega, rfl⟩
  · exact ⟨by show a < 2 ^ 8; omega, 8, by decide, by omega, rfl⟩
  · exact ⟨by show a < 2 ^ 16; omega, 16, by decide, by omega, rfl⟩
  · exact ⟨by show a < 2 ^ 32; omega, 32, by decide, by omega, rfl⟩
  · exact ⟨by show a < 2 ^ 64; omega, 64, by decide, by omega, rfl⟩
theorem bv_nat {w a : Nat} (h : a < 2 ^ w) : (BitVec.ofInt w (a : Int)).toNat = a := by
  rw [BitVec.toNat_ofInt]
  have : ((a : Int) % ((2 ^ w : Nat) : Int)) = ((a % 2 ^ w : Nat) : Int) := by omega
  rw [this, Int.toNat_natCast, Nat.mod_eq_of_lt h]
theorem wrap_le (k : IntKind) {n : Nat} (h : n ≤ kmax k) : k.wrap (n : Int) = n := by
  rw [← wrapF_eq]
  show boolK (k.wrap (.ofNat n)) (.ofNat n) (Nat.ble n (kmax k)) = _
  rw [Nat.ble_eq_true_of_le h]
  rfl
theorem addG_ok (k : IntKind) (x y : Int) : addG k x y = intBin .add k x y := by unfold addG; rw [wrapF_eq, addI_eq]; rfl
theorem subG_ok (k : IntKind) (x y : Int) : subG k x y = intBin .sub k x y := by unfold subG; rw [wrapF_eq, subI_eq]; rfl
theorem mulG_ok (k : IntKind) (x y : Int) : mulG k x y = intBin .mul k x y := by unfold mulG; rw [wrapF_eq, mulI_eq]; rfl
theorem eqlG_ok (k : IntKind) (x y : Int) : eqlG k x y = intBin .eql k x y := by unfold eqlG; rw [eqI_eq]; rfl
theorem neqG_ok (k : IntKind) (x y : Int) : neqG k x y = intBin .neq k x y := by unfold neqG; rw [eqI_eq, notB_eq]; rfl
theorem lssG_ok (k : IntKind) (x y : Int) : lssG k x y = intBin .lss k x y := by unfold lssG; rw [ltI_eq]; rfl
theorem leqG_ok (k : IntKind) (x y : Int) : leqG k x y = intBin .leq k x y := by unfold leqG; rw [leI_eq]; rfl
theorem gtrG_ok (k : IntKind) (x y : Int) : gtrG k x y = intBin .gtr k x y := by unfold gtrG; rw [ltI_eq]; rfl
theorem geqG_ok (k : IntKind) (x y : Int) : geqG k x y = intBin .geq k x y := by unfold geqG; rw [leI_eq]; rfl
theorem andG_ok (k : IntKind) (x y : Int) : andG k x y = intBin .and k x y := by
  unfold andG
  rcases natK_cases x y (fun a b => boolK (intBin .and k x y) (boolK (intBin .and k x y) (some (V.int k (.ofNat (Nat.land a b)))) (Nat.ble b (kmax k))) (Nat.ble a (kmax k))) (intBin .and k x y) with ⟨a, b, rfl, rfl, h⟩ | h
  · refine h.trans ?_
    cases ha : Nat.ble a (kmax k) with
    | false => rfl
    | true => cases hb : Nat.ble b (kmax k) with
      | false => rfl
      | true =>
        show some (V.int k (.ofNat (Nat.land a b))) = some (V.int k (k.wrap _))
        rw [BitVec.toNat_and, bv_nat (kmax_lt k ha).1, bv_nat (kmax_lt k hb).1, wrap_le k (Nat.le_trans Nat.and_le_left (Nat.le_of_ble_eq_true ha))]
        rfl
  · exact h
theorem orG_ok (k : IntKind) (x y : Int) : orG k x y = intBin .or k x y := by
  unfold orG
  rcases natK_cases x y (fun a b => boolK (intBin .or k x y) (boolK (intBin .or k x y) (some (V.int k (.ofNat (Nat.lor a b)))) (Nat.ble b (kmax k))) (Nat.ble a (kmax k))) (intBin .or k x y) with ⟨a, b, rfl, rfl, h⟩ | h
  · refine h.trans ?_
    cases ha : Nat.ble a (kmax k) with
    | false => rfl
    | true => cases hb : Nat.ble b (kmax k) with
      | false => rfl
      | true =>
        show some (V.int k (.ofNat (Nat.lor a b))) = some (V.int k (k.wrap _))
        obtain ⟨h1, m, h2, h3, h4⟩ := kmax_lt k ha
        have h5 := Nat.le_of_ble_eq_true hb
        have h6 : a ||| b < 2 ^ m := Nat.or_lt_two_pow h3 (by omega)
        rw [BitVec.toNat_or, bv_nat h1, bv_nat (kmax_lt k hb).1, wrap_le k (by omega)]
        rfl
  · exact h
theorem shlG_ok (k : IntKind) (x y : Int) : shlG k x y = shiftBin .shl k x y := by
  unfold shlG
  rcases natK_cases x y (fun a b => some (V.int k (wrapF k (.ofNat (Nat.shiftLeft a (minN b (kbits k))))))) (shiftBin .shl k x y) with ⟨a, b, rfl, rfl, h⟩ | h
  · refine h.trans ?_
    unfold shiftBin
    rw [if_neg (by omega), wrapF_eq, minN_eq, kbits_eq]
    simp only [Int.toNat_natCast]
    congr 3
    show ((a <<< min b k.bits : Nat) : Int) = _
    rw [Nat.shiftLeft_eq]
    simp
  · exact h
theorem shrG_ok (k : IntKind) (x y : Int) : shrG k x y = shiftBin .shr k x y := by
  unfold shrG
  rcases natK_cases x y (fun a b => some (V.int k (.ofNat (Nat.shiftRight a (minN b (kbits k)))))) (shiftBin .shr k x y) with ⟨a, b, rfl, rfl, h⟩ | h
  · refine h.trans ?_
    unfold shiftBin
    rw [if_neg (by omega), minN_eq, kbits_eq]
    simp only [Int.toNat_natCast]
    congr 2
    show ((a >>> min b k.bits : Nat) : Int) = _
    rw [Nat.shiftRight_eq_div_pow]
    have e : (2 : Int) ^ (min b k.bits) = ((2 ^ (min b k.bits) : Nat) : Int) := by simp
    rw [e, Int.fdiv_eq_ediv_of_nonneg _ (Int.natCast_nonneg _)]
    simp
  · exact h
theorem kidx_eq {a b : IntKind} (h : Nat.beq (kidx a) (kidx b) = true) : a = b := by
  cases a <;> cases b <;> first | rfl | (cases h; done)

/-! ## Instructions -/

/-- What the fast one hands on, the evaluator answers. -/
def Snd (f : Fa) (m : M HT V) : Prop := ∀ h c lg k, f h c lg k = true → ∃ v h' c' l, m h c = .ok v h' c' l ∧ k v h' c' (l.reverse ++ lg) = true
theorem resK_ok {α : Type} {r : Res HT α} {lg : List Acc} {k : α → HT → Nat → List Acc → Bool} (h : resK r lg k = true) : ∃ a h' c' l, r = .ok a h' c' l ∧ k a h' c' (l.reverse ++ lg) = true := by
  cases r with
  | err _ => cases h
  | ok a h' c' l => exact ⟨a, h', c', l, rfl, h⟩
theorem Snd.res {m : M HT V} : Snd (fun h c lg k => resK (m h c) lg k) m := fun h c lg k hk => resK_ok hk
theorem lift1 {α : Type} {s : String} {a : α} {h : HT} {c : Nat} : (lift s (some a) : M HT α) h c = .ok a h c [] := rfl
section
variable {cx : Cx} {u : ET}
theorem opdK_ok {x : Operand} {k : V → Bool} (h : opdK (pvOf cx x) u k = true) : ∃ v, ev1 cx u x = some v ∧ k v = true := by
  cases x with
  | tmp t =>
    obtain ⟨v, h1, h2⟩ := optK_ok (show optK (getP (paOf t) u) k = true from h)
    rw [getP_ok] at h1
    exact ⟨v, h1, h2⟩
  | const v =>
    have h : opdK (pvO (toV v)) u k = true := h
    cases hv : toV v with
    | none => rw [hv] at h; cases h
    | some w => rw [hv] at h; exact ⟨w, hv, h⟩
  | global g =>
    have h : opdK (pvG g cx) u k = true := h
    unfold pvG at h
    cases hg : Nat.ble (Nat.succ g) cx.ng with
    | false => rw [hg] at h; cases h
    | true =>
      rw [hg] at h
      have hg : g < cx.ng := Nat.le_of_ble_eq_true hg
      exact ⟨.ptr (some (g, 0)), by simp only [ev1, if_pos hg], h⟩
  | func f => exact ⟨_, rfl, h⟩
theorem opdsK_ok : ∀ {l : List Operand} {k : List V → Bool}, opdsK (pvsOf cx l) u k = true → ∃ vs, evs cx u l = some vs ∧ k vs = true
  | [], k, h => ⟨[], rfl, h⟩
  | x :: l, k, h => by
    obtain ⟨v, h1, h2⟩ := opdK_ok (show opdK (pvOf cx x) u (fun v => opdsK (pvsOf cx l) u fun vs => k (v :: vs)) = true from h)
    obtain ⟨vs, h3, h4⟩ := opdsK_ok h2
    exact ⟨v :: vs, by simp only [evs, h1, h3], h4⟩
theorem prtsK_ok : ∀ {l : List (Nat × Operand)} {k : List (Nat × V) → Bool}, prtsK (ppsOf cx l) u k = true → ∃ vs, evParts cx u l = some vs ∧ k vs = true
  | [], k, h => ⟨[], rfl, h⟩
  | (i, x) :: l, k, h => by
    obtain ⟨v, h1, h2⟩ := opdK_ok (show opdK (pvOf cx x) u (fun v => prtsK (ppsOf cx l) u fun vs => k ((i, v) :: vs)) = true from h)
    obtain ⟨vs, h3, h4⟩ := prtsK_ok h2
    exact ⟨(i, v) :: vs, by simp only [evParts, h1, h3], h4⟩
theorem opoK_ok {x : Option Operand} {k : Option V → Bool} (h : opoK (pvoOf cx x) u k = true) : ∃ v, evO cx u x = some v ∧ k v = true := by
  cases x with
  | none => exact ⟨none, rfl, h⟩
  | some x =>
    obtain ⟨v, h1, h2⟩ := opdK_ok (show opdK (pvOf cx x) u (fun v => k (some v)) = true from h)
    exact ⟨some v, by simp only [evO, h1], h2⟩
end

/-! The instructions that are read apart. -/
theorem loadC_at {n o s : Nat} {h : HT} {c : Nat} {rw cl : Bool} {cs ws : List V} (h1 : MapI.get h n = some (.cells rw cl cs)) (h2 : cut cs o s = some ws) : loadC n o s h c = .ok ws h c [.rd n] := by
  unfold loadC
  refine fbnd (l := [.rd n]) (l' := []) (a := .cells rw cl cs) (h' := h) (c' := c) (by unfold getM; rw [h1]) ?_
  simp only [h2]
  rfl
theorem ptrK_ok {v : V} {k : Nat → Nat → Bool} (h : ptrK v k = true) : ∃ n o, v = .ptr (some (n, o)) ∧ k n o = true := by
  cases v <;> try (cases h; done)
  rename_i a
  cases a with
  | none => cases h
  | some p => exact ⟨p.1, p.2, rfl, h⟩
theorem aggK_ok {v : V} {k : List V → Bool} (h : aggK v k = true) : ∃ cs, v = .agg cs ∧ k cs = true := by
  cases v <;> try (cases h; done)
  exact ⟨_, rfl, h⟩
theorem tupK_ok {v : V} {k : List V → Bool} (h : tupK v k = true) : ∃ cs, v = .tuple cs ∧ k cs = true := by
  cases v <;> try (cases h; done)
  exact ⟨_, rfl, h⟩
theorem intK_ok {v : V} {k : IntKind → Int → Bool} (h : intK v k = true) : ∃ q n, v = .int q n ∧ k q n = true := by
  cases v <;> try (cases h; done)
  exact ⟨_, _, rfl, h⟩
theorem condK_ok {v : V} {f t : Bool} (h : condK v f t = true) : (v = .bool false ∧ f = true) ∨ (v = .bool true ∧ t = true) := by
  cases v <;> try (cases h; done)
  rename_i b
  cases b with
  | false => exact .inl ⟨rfl, h⟩
  | true => exact .inr ⟨rfl, h⟩
theorem slK_ok {v : V} {k : Option (Nat × Nat) → Nat → Bool} (h : slK v k = true) : ∃ a n cap, v = .slice a n cap ∧ k a n = true := by
  cases v <;> try (cases h; done)
  exact ⟨_, _, _, rfl, h⟩
theorem pYes_ok {a : Option (Nat × Nat)} {k : Nat → Nat → Bool} (h : pYes a k = true) : ∃ n o, a = some (n, o) ∧ k n o = true := by
  cases a with
  | none => cases h
  | some p => exact ⟨p.1, p.2, rfl, h⟩
theorem natI_ok {i : Int} {k : Nat → Bool} (h : natI i k = true) : ∃ j : Nat, i = j ∧ k j = true := by
  cases i with
  | ofNat j => exact ⟨j, rfl, h⟩
  | negSucc j => cases h
theorem oneF_eq (v : V) : oneF v = one1 v := by cases v <;> rfl
theorem cellsK_ok {o : AObj} {k : Bool → Bool → List V → Bool} (h : cellsK o k = true) : ∃ rw cl cs, o = .cells rw cl cs ∧ k rw cl cs = true := by
  cases o <;> try (cases h; done)
  exact ⟨_, _, _, rfl, h⟩

theorem load1F_ok {cx : Cx} {t : Nat} {d : TypeDesc} (hd : cx.desc t = some d) (ha : aggD d = false) (v : V) : Snd (load1F v) (bnd (asP v) fun (n, o) => loadT cx t n o) := fun h c lg k hk => by
  obtain ⟨n, o, rfl, h0⟩ := ptrK_ok (show ptrK v _ = true from hk)
  obtain ⟨ob, h1, h2⟩ := optK_ok h0
  rw [getH_ok] at h1
  obtain ⟨rw, cl, cs, rfl, h2⟩ := cellsK_ok h2
  obtain ⟨w, h3, h4⟩ := optK_ok h2
  rw [nthF_eq] at h3
  refine ⟨w, h, c, [.rd n], ?_, h4⟩
  have e1 := loadC_at (c := c) (o := o) h1 (cut1 h3)
  refine fbnd (l := []) (l' := [.rd n]) rfl ?_
  show loadT cx t n o h c = _
  unfold loadT
  rw [hd]
  simp only [ha]
  exact fbnd (l := [.rd n]) (l' := []) e1 rfl
theorem loadAF_ok {cx : Cx} {t s : Nat} {d : TypeDesc} (hd : cx.desc t = some d) (ha : aggD d = true) (hs : cx.size t = some (s + 1)) (v : V) : Snd (loadAF (s + 1) v) (bnd (asP v) fun (n, o) => loadT cx t n o) := fun h c lg k hk => by
  obtain ⟨n, o, rfl, h0⟩ := ptrK_ok (show ptrK v _ = true from hk)
  obtain ⟨ob, h1, h2⟩ := optK_ok h0
  rw [getH_ok] at h1
  obtain ⟨rw, cl, cs, rfl, h2⟩ := cellsK_ok h2
  obtain ⟨w, h3, h4⟩ := optK_ok h2
  refine ⟨_, h, c, [.rd n], ?_, h4⟩
  have e1 := loadC_at (c := c) (o := o) h1 (cutF_ok (Nat.succ_pos s) h3)
  refine fbnd (l := []) (l' := [.rd n]) rfl ?_
  show loadT cx t n o h c = _
  unfold loadT
  rw [hd]
  simp only [ha, hs, if_true]
  exact fbnd (l := []) (l' := [.rd n]) lift1 (fbnd (l := [.rd n]) (l' := []) e1 rfl)
theorem storeM_eq {cx : Cx} {t n o : Nat} {w : V} {h : HT} {c : Nat} {cl : Bool} {cs : List V} (hs : cx.size t = some 1) (h1 : MapI.get h n = some (.cells true cl cs)) (hw : one1 w = true) (ho : o < cs.length) :
    (bnd (storeT cx t n o w) fun _ => (ret (.tuple []) : M HT V)) h c = .ok (.tuple []) (MapI.set h n (.cells true cl (setAll cs o [w]))) c [.rd n, .wr n] := by
  have hc : cellsV w = [w] := by cases w <;> first | rfl | (cases hw; done)
  have e1 : storeT cx t n o w h c = .ok () (MapI.set h n (.cells true cl (setAll cs o [w]))) c [.rd n, .wr n] := by
    unfold storeT
    simp only [hs, hc, List.length_cons, List.length_nil, Nat.zero_add, if_true]
    refine fbnd (l := [.rd n]) (l' := [.wr n]) (a := .cells true cl cs) (h' := h) (c' := c) (by unfold getM; rw [h1]) ?_
    simp only [List.length_cons, List.length_nil, Nat.zero_add]
    rw [if_pos (by omega), if_pos (by simp [hw])]
    unfold setM
    rw [h1]
  exact fbnd (l := [.rd n, .wr n]) (l' := []) e1 rfl
theorem storeKF_ok {cx : Cx} {t : Nat} (v w : V) : Snd (storeKF cx t v w) (bnd (asP v) fun (n, o) => bnd (storeT cx t n o w) fun _ => ret (.tuple [])) := fun h c lg k hk => by
  obtain ⟨n, o, rfl, h0⟩ := ptrK_ok (show ptrK v _ = true from hk)
  obtain ⟨a, h', c', l, h1, h2⟩ := resK_ok h0
  exact ⟨a, h', c', l, fbnd (l := []) (l' := l) rfl h1, h2⟩
theorem store1F_ok {cx : Cx} {t : Nat} (hs : cx.size t = some 1) (v w : V) : Snd (store1F cx t v w) (bnd (asP v) fun (n, o) => bnd (storeT cx t n o w) fun _ => ret (.tuple [])) := fun h c lg k hk => by
  unfold store1F at hk
  cases hw : oneF w with
  | false => rw [hw] at hk; exact storeKF_ok v w h c lg k hk
  | true =>
    rw [hw] at hk
    rw [oneF_eq] at hw
    obtain ⟨n, o, rfl, h0⟩ := ptrK_ok (show ptrK v _ = true from hk)
    obtain ⟨ob, h1, h2⟩ := optK_ok h0
    rw [getH_ok] at h1
    obtain ⟨rw, cl, cs, rfl, h2⟩ := cellsK_ok h2
    obtain ⟨rfl, h2⟩ := boolK_and h2
    obtain ⟨ds, h3, h4⟩ := optK_ok h2
    obtain ⟨h5, rfl⟩ := putN_ok h3
    rw [setH_ok] at h4
    exact ⟨_, _, _, _, fbnd (l := []) rfl (storeM_eq hs h1 hw h5), h4⟩
theorem faddrF_ok {cx : Cx} {s f z : Nat} {fields : Array Field} {d : Field} (hs : cx.desc s = some (.struct fields)) (hf : nthF fields.toList f = some d) (hz : cx.size d.type = some (z + 1)) (v : V) : Snd (faddrF d.offset v) (lift "fieldAddr" (fieldAddrV cx s v f)) := fun h c lg k hk => by
  obtain ⟨n, o, rfl, h0⟩ := ptrK_ok (show ptrK v _ = true from hk)
  rw [nthF_eq, ← nth_eq] at hf
  exact ⟨_, h, c, [], by unfold fieldAddrV; rw [hs]; simp only [hf, hz]; rfl, h0⟩
theorem fldF_ok {cx : Cx} {s f : Nat} {fields : Array Field} {d : Field} {e : TypeDesc} (hs : cx.desc s = some (.struct fields)) (hf : nthF fields.toList f = some d) (he : cx.desc d.type = some e) (ha : aggD e = false) (v : V) : Snd (fldF d.offset v) (lift "field" (fieldV cx s v f)) := fun h c lg k hk => by
  obtain ⟨cs, rfl, h0⟩ := aggK_ok (show aggK v _ = true from hk)
  obtain ⟨w, h1, h2⟩ := optK_ok h0
  rw [nthF_eq, ← nth_eq] at hf
  rw [nthF_eq] at h1
  refine ⟨w, h, c, [], ?_, h2⟩
  unfold fieldV partV
  rw [hs]
  simp only [hf, he, ha]
  rw [nth_eq, h1]
  rfl
theorem fldAF_ok {cx : Cx} {s f z : Nat} {fields : Array Field} {d : Field} {e : TypeDesc} (hs : cx.desc s = some (.struct fields)) (hf : nthF fields.toList f = some d) (he : cx.desc d.type = some e) (ha : aggD e = true) (hz : cx.size d.type = some (z + 1)) (v : V) : Snd (fldAF d.offset (z + 1) v) (lift "field" (fieldV cx s v f)) := fun h c lg k hk => by
  obtain ⟨cs, rfl, h0⟩ := aggK_ok (show aggK v _ = true from hk)
  obtain ⟨w, h1, h2⟩ := optK_ok h0
  rw [nthF_eq, ← nth_eq] at hf
  have h1 := cutF_ok (Nat.succ_pos z) h1
  refine ⟨_, h, c, [], ?_, h2⟩
  unfold fieldV partV
  rw [hs]
  simp only [hf, he, ha, hz, h1, if_true]
  rfl
theorem iaddrF_ok {cx : Cx} {t el s : Nat} (hd : cx.desc t = some (.slice el)) (hs : cx.size el = some s) (v i : V) : Snd (iaddrF s v i) (indexAddrM cx t v i) := fun h c lg k hk => by
  obtain ⟨a, len, cap, rfl, h0⟩ := slK_ok (show slK v _ = true from hk)
  obtain ⟨n, o, rfl, h0⟩ := pYes_ok h0
  obtain ⟨ki, i, rfl, h0⟩ := intK_ok h0
  obtain ⟨j, rfl, h0⟩ := natI_ok h0
  obtain ⟨h1, h2⟩ := boolK_and h0
  have h1 : j + 1 ≤ len := Nat.le_of_ble_eq_true h1
  refine ⟨_, h, c, [], ?_, h2⟩
  unfold indexAddrM
  rw [hd]
  simp only [hs]
  rw [if_pos ⟨Int.natCast_nonneg _, by omega⟩]
  rfl
theorem lenF_ok {cx : Cx} {t el : Nat} (hd : cx.desc t = some (.slice el)) (v : V) : Snd (lenF v) (lenM cx t v) := fun h c lg k hk => by
  obtain ⟨a, len, cap, rfl, h0⟩ := slK_ok (show slK v _ = true from hk)
  exact ⟨_, h, c, [], by unfold lenM; rw [hd]; rfl, h0⟩
theorem intF_ok {g : IntKind → Int → Int → Option V} {m : V → V → M HT V} (hm : ∀ k x y, m (.int k x) (.int k y) = lift "int" (g k x y)) (a b : V) : Snd (intF g a b) (m a b) := fun h c lg k hk => by
  obtain ⟨k1, x, rfl, h0⟩ := intK_ok (show intK a _ = true from hk)
  obtain ⟨k2, y, rfl, h0⟩ := intK_ok h0
  obtain ⟨h1, h2⟩ := boolK_and h0
  cases kidx_eq h1
  obtain ⟨w, h3, h4⟩ := optK_ok h2
  exact ⟨w, h, c, [], by rw [hm, h3]; rfl, h4⟩
theorem shF_ok {g : IntKind → Int → Int → Option V} {m : V → V → M HT V} (hm : ∀ k x k' y, m (.int k x) (.int k' y) = lift "shift" (g k x y)) (a b : V) : Snd (shF g a b) (m a b) := fun h c lg k hk => by
  obtain ⟨k1, x, rfl, h0⟩ := intK_ok (show intK a _ = true from hk)
  obtain ⟨k2, y, rfl, h0⟩ := intK_ok h0
  obtain ⟨w, h3, h4⟩ := optK_ok h0
  exact ⟨w, h, c, [], by rw [hm, h3]; rfl, h4⟩
theorem convF_ok {cx : Cx} {s d : Nat} {k1 k2 : IntKind} (hs : cx.desc s = some (.int k1)) (hd : cx.desc d = some (.int k2)) (v : V) : Snd (convF k2 v) (convertM cx s d v) := fun h c lg k hk => by
  obtain ⟨k', n, rfl, h0⟩ := intK_ok (show intK v _ = true from hk)
  exact ⟨_, h, c, [], by unfold convertM; rw [hs, hd]; simp only; rw [wrapF_eq]; rfl, h0⟩
theorem notF_ok (v : V) : Snd (notF v) (lift "unop" (unV .not v)) := fun h c lg k hk => by
  rcases condK_ok (show condK v _ _ = true from hk) with ⟨rfl, h0⟩ | ⟨rfl, h0⟩
  · exact ⟨_, h, c, [], rfl, h0⟩
  · exact ⟨_, h, c, [], rfl, h0⟩
theorem extF_ok (i : Nat) (v : V) : Snd (extF i v) (match v with | .tuple vs => lift "extract" (nth vs i) | _ => fail "extract") := fun h c lg k hk => by
  obtain ⟨vs, rfl, h0⟩ := tupK_ok (show tupK v _ = true from hk)
  obtain ⟨w, h1, h2⟩ := optK_ok h0
  rw [nthF_eq, ← nth_eq] at h1
  exact ⟨w, h, c, [], by simp only [h1]; rfl, h2⟩
theorem newF_ok (cs : List V) : Snd (newF cs) (bnd (newM (.cells true true cs)) fun n => ret (.ptr (some (n, 0)))) := fun h c lg k hk => by
  have hk : k (.ptr (some (c, 0))) (setH h c (.cells true true cs)) (Nat.succ c) (.wr c :: lg) = true := hk
  rw [setH_ok] at hk
  exact ⟨_, _, _, [.wr c], rfl, hk⟩
end Go.Ab
