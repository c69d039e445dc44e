/- A lawful finite map over the natural numbers: a tree of bits. -/
import Derived.Test.YtcenbfjhhaialaaAc1
set_option linter.unusedVariables false
set_option linter.unusedSectionVars false
set_option linter.unusedSimpArgs false
set_option linter.unnecessarySimpa false
namespace Go.Ab

inductive Tr (α : Type) where
  | e
  | n (l : Tr α) (v : Option α) (r : Tr α)

namespace Tr
variable {α : Type}

def getF : Nat → Tr α → Nat → Option α
  | 0, _, _ => none
  | _ + 1, .e, _ => none
  | f + 1, .n l v r, k => bif Nat.beq k 0 then v else bif Nat.beq (Nat.mod k 2) 1 then getF f l (Nat.div k 2) else getF f r (Nat.pred (Nat.div k 2))
def setF : Nat → Tr α → Nat → α → Tr α
  | 0, t, _, _ => t
  | f + 1, .e, k, x =>
    bif Nat.beq k 0 then .n .e (some x) .e else bif Nat.beq (Nat.mod k 2) 1 then .n (setF f .e (Nat.div k 2) x) none .e else .n .e none (setF f .e (Nat.pred (Nat.div k 2)) x)
  | f + 1, .n l v r, k, x =>
    bif Nat.beq k 0 then .n l (some x) r else bif Nat.beq (Nat.mod k 2) 1 then .n (setF f l (Nat.div k 2) x) v r else .n l v (setF f r (Nat.pred (Nat.div k 2)) x)

theorem parts (k : Nat) : k = 0 ∨ (Nat.mod k 2 = 1 ∧ k = 2 * (Nat.div k 2) + 1) ∨ (k ≠ 0 ∧ Nat.mod k 2 = 0 ∧ k = 2 * (Nat.pred (Nat.div k 2)) + 2) := by
  show k = 0 ∨ (k % 2 = 1 ∧ k = 2 * (k / 2) + 1) ∨ (k ≠ 0 ∧ k % 2 = 0 ∧ k = 2 * ((k / 2) - 1) + 2)
  omega

theorem getF_fuel : ∀ (f g : Nat) (t : Tr α) (k : Nat), k < f → k < g → getF f t k = getF g t k
  | 0, _, _, _, h, _ => absurd h (Nat.not_lt_zero _)
  | _, 0, _, _, _, h => absurd h (Nat.not_lt_zero _)
  | f + 1, g + 1, .e, _, _, _ => rfl
  | f + 1, g + 1, .n l v r, k, h, h' => by
    simp only [getF]
    rcases parts k with e | ⟨a, b⟩ | ⟨z, a, b⟩
    · subst e; rfl
    · have := getF_fuel f g l (Nat.div k 2) (by omega) (by omega)
      rw [this]
      have h2 : Nat.pred (Nat.div k 2) ≤ Nat.div k 2 := Nat.pred_le _
      rw [getF_fuel f g r (Nat.pred (Nat.div k 2)) (by omega) (by omega)]
    · have h2 : Nat.div k 2 = Nat.pred (Nat.div k 2) + 1 := by
        have : Nat.pred (Nat.div k 2) = k / 2 - 1 := rfl
        have e2 : Nat.div k 2 = k / 2 := rfl
        omega
      rw [getF_fuel f g l (Nat.div k 2) (by omega) (by omega), getF_fuel f g r (Nat.pred (Nat.div k 2)) (by omega) (by omega)]

theorem getF_setF_same : ∀ (f : Nat) (t : Tr α) (k : Nat) (x : α), k < f → getF f (setF f t k x) k = some x
  | 0, _, _, _, h => absurd h (Nat.not_lt_zero _)
  | f + 1, .e, k, x, h => by
    simp only [setF]
    rcases parts k with e | ⟨a, b⟩ | ⟨z, a, b⟩
    · subst e; rfl
    · have z : Nat.beq k 0 = false := by rw [Bool.eq_false_iff]; intro hh; have := Nat.eq_of_beq_eq_true hh; omega
      have c : Nat.beq (Nat.mod k 2) 1 = true := by rw [a]; rfl
      simp only [z, c, cond_false, cond_true, getF]
      exact getF_setF_same f .e _ x (by omega)
    · have z : Nat.beq k 0 = false := by rw [Bool.eq_false_iff]; intro hh; have := Nat.eq_of_beq_eq_true hh; omega
      have c : Nat.beq (Nat.mod k 2) 1 = false := by rw [a]; rfl
      simp only [z, c, cond_false, getF]
      exact getF_setF_same f .e _ x (by omega)
  | f + 1, .n l v r, k, x, h => by
    simp only [setF]
    rcases parts k with e | ⟨a, b⟩ | ⟨z, a, b⟩
    · subst e; rfl
    · have z : Nat.beq k 0 = false := by rw [Bool.eq_false_iff]; intro hh; have := Nat.eq_of_beq_eq_true hh; omega
      have c : Nat.beq (Nat.mod k 2) 1 = true := by rw [a]; rfl
      simp only [z, c, cond_false, cond_true, getF]
      exact getF_setF_same f l _ x (by omega)
    · have z : Nat.beq k 0 = false := by rw [Bool.eq_false_iff]; intro hh; have := Nat.eq_of_beq_eq_true hh; omega
      have c : Nat.beq (Nat.mod k 2) 1 = false := by rw [a]; rfl
      simp only [z, c, cond_false, getF]
      exact getF_setF_same f r _ x (by omega)

theorem getF_e (f k : Nat) : getF f (.e : Tr α) k = none := by cases f <;> rfl

theorem getF_setF_ne : ∀ (f : Nat) (t : Tr α) (k m : Nat) (x : α), k ≠ m → k < f → m < f → getF f (setF f t k x) m = getF f t m
  | 0, _, _, _, _, _, h, _ => absurd h (Nat.not_lt_zero _)
  | f + 1, .e, k, m, x, hne, h, h' => by
    simp only [setF]
    have nz : ∀ q, q ≠ 0 → Nat.beq q 0 = false := fun q hq => by rw [Bool.eq_false_iff]; intro hh; exact hq (Nat.eq_of_beq_eq_true hh)
    rcases parts k with e | ⟨a, b⟩ | ⟨z, a, b⟩
    · subst e
      have : Nat.beq m 0 = false := nz m (by omega)
      show getF (f + 1) (.n .e (some x) .e) m = none
      simp only [getF, this, cond_false, getF_e]
      cases Nat.beq (Nat.mod m 2) 1 <;> rfl
    · have c : Nat.beq (Nat.mod k 2) 1 = true := by rw [a]; rfl
      simp only [nz k (by omega), c, cond_false, cond_true, getF]
      rcases parts m with e' | ⟨a', b'⟩ | ⟨z', a', b'⟩
      · subst e'; rfl
      · have c' : Nat.beq (Nat.mod m 2) 1 = true := by rw [a']; rfl
        simp only [nz m (by omega), c', cond_false, cond_true]
        rw [getF_setF_ne f .e _ _ x (by omega) (by omega) (by omega), getF_e]
      · have c' : Nat.beq (Nat.mod m 2) 1 = false := by rw [a']; rfl
        simp only [nz m z', c', cond_false, getF_e]
    · have c : Nat.beq (Nat.mod k 2) 1 = false := by rw [a]; rfl
      simp only [nz k z, c, cond_false, getF]
      rcases parts m with e' | ⟨a', b'⟩ | ⟨z', a', b'⟩
      · subst e'; rfl
      · have c' : Nat.beq (Nat.mod m 2) 1 = true := by rw [a']; rfl
        simp only [nz m (by omega), c', cond_false, cond_true, getF_e]
      · have c' : Nat.beq (Nat.mod m 2) 1 = false := by rw [a']; rfl
        simp only [nz m z', c', cond_false]
        rw [getF_setF_ne f .e _ _ x (by omega) (by omega) (by omega), getF_e]
  | f + 1, .n l v r, k, m, x, hne, h, h' => by
    simp only [setF]
    have nz : ∀ q, q ≠ 0 → Nat.beq q 0 = false := fun q hq => by rw [Bool.eq_false_iff]; intro hh; exact hq (Nat.eq_of_beq_eq_true hh)
    rcases parts k with e | ⟨a, b⟩ | ⟨z, a, b⟩
    · subst e
      have : Nat.beq m 0 = false := nz m (by omega)
      simp only [Nat.beq_refl, cond_true, getF, this, cond_false]
    · have c : Nat.beq (Nat.mod k 2) 1 = true := by rw [a]; rfl
      simp only [nz k (by omega), c, cond_false, cond_true, getF]
      rcases parts m with e' | ⟨a', b'⟩ | ⟨z', a', b'⟩
      · subst e'; rfl
      · have c' : Nat.beq (Nat.mod m 2) 1 = true := by rw [a']; rfl
        simp only [nz m (by omega), c', cond_false, cond_true]
        rw [getF_setF_ne f l _ _ x (by omega) (by omega) (by omega)]
      · have c' : Nat.beq (Nat.mod m 2) 1 = false := by rw [a']; rfl
        simp only [nz m z', c', cond_false]
    · have c : Nat.beq (Nat.mod k 2) 1 = false := by rw [a]; rfl
      simp only [nz k z, c, cond_false, getF]
      rcases parts m with e' | ⟨a', b'⟩ | ⟨z', a', b'⟩
      · subst e'; rfl
      · have c' : Nat.beq (Nat.mod m 2) 1 = true := by rw [a']; rfl
        simp only [nz m (by omega), c', cond_false, cond_true]
      · have c' : Nat.beq (Nat.mod m 2) 1 = false := by rw [a']; rfl
        simp only [nz m z', c', cond_false]
        rw [getF_setF_ne f r _ _ x (by omega) (by omega) (by omega)]

theorem setF_fuel : ∀ (f g : Nat) (t : Tr α) (k : Nat) (x : α), k < f → k < g → setF f t k x = setF g t k x
  | 0, _, _, _, _, h, _ => absurd h (Nat.not_lt_zero _)
  | _, 0, _, _, _, _, h => absurd h (Nat.not_lt_zero _)
  | f + 1, g + 1, .e, k, x, h, h' => by
    simp only [setF]
    rcases parts k with e | ⟨a, b⟩ | ⟨z, a, b⟩
    · subst e; rfl
    · have c : Nat.beq (Nat.mod k 2) 1 = true := by rw [a]; rfl
      simp only [c, cond_true]
      rw [setF_fuel f g .e _ x (by omega) (by omega)]
    · have c : Nat.beq (Nat.mod k 2) 1 = false := by rw [a]; rfl
      simp only [c, cond_false]
      rw [setF_fuel f g .e (Nat.pred (Nat.div k 2)) x (by omega) (by omega)]
  | f + 1, g + 1, .n l v r, k, x, h, h' => by
    simp only [setF]
    rcases parts k with e | ⟨a, b⟩ | ⟨z, a, b⟩
    · subst e; rfl
    · have c : Nat.beq (Nat.mod k 2) 1 = true := by rw [a]; rfl
      simp only [c, cond_true]
      rw [setF_fuel f g l _ x (by omega) (by omega)]
    · have c : Nat.beq (Nat.mod k 2) 1 = false := by rw [a]; rfl
      simp only [c, cond_false]
      rw [setF_fuel f g r (Nat.pred (Nat.div k 2)) x (by omega) (by omega)]

instance instMapI : MapI (Tr α) α where
  emp := .e
  get t k := getF (Nat.succ k) t k
  set t k x := setF (Nat.succ k) t k x
  get_emp k := getF_e _ k
  get_same t k x := getF_setF_same _ t k x (Nat.lt_succ_self k)
  get_ne t k m x h := by
    rw [getF_fuel (Nat.succ m) (k + m + 1) _ m (by omega) (by omega), setF_fuel (Nat.succ k) (k + m + 1) t k x (by omega) (by omega),
      getF_setF_ne _ t k m x h (by omega) (by omega), getF_fuel (k + m + 1) (Nat.succ m) _ m (by omega) (by omega)]
end Tr
end Go.Ab
