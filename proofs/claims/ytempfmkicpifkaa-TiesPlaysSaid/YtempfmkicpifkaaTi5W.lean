/- TiesPlays: the reference's rows. -/
import Derived.Test.YtempfmkicpifkaaTi3W
import Derived.Test.YtempfmkicpifkaaAd9
set_option linter.unusedVariables false
set_option linter.unusedSectionVars false
set_option linter.unusedSimpArgs false
set_option linter.unnecessarySimpa false
namespace Go.Proofs.Ytempfmkicpifkaa.Ti
open Go.Ab
set_option maxRecDepth 10000
variable {h h' : HH} {c c' : Nat}
/-! ## Places in rising rows -/
section
variable {β : Type}
def posG (k : Int) : List (Int × β) → Nat
  | [] => 0
  | x :: S => if k ≤ x.1 then 0 else posG k S + 1
theorem posG_le {k : Int} : ∀ {S : List (Int × β)}, posG k S ≤ S.length
  | [] => Nat.le_refl _
  | x :: S => by
    unfold posG
    split
    · exact Nat.zero_le _
    · have := posG_le (k := k) (S := S); simp; omega
theorem ins_at {k : Int} {v : β} : ∀ {S : List (Int × β)}, S.lookup k = none → insG (k, v) S = S.take (posG k S) ++ [(k, v)] ++ S.drop (posG k S)
  | [], _ => rfl
  | x :: S, hn => by
    have hne := look_none.1 hn x (List.mem_cons_self ..)
    have hn' : S.lookup k = none := look_none.2 fun y hy => look_none.1 hn y (List.mem_cons_of_mem _ hy)
    unfold insG posG
    by_cases hlt : k < x.1
    · rw [if_pos hlt, if_pos (by omega)]; rfl
    · rw [if_neg hlt, if_neg (by omega), ins_at hn']
      rfl
theorem era_at {k : Int} {i : Nat} {S : List (Int × β)} {v : β} (hi : S[i]? = some (k, v)) (hb : ∀ j q, j < i → S[j]? = some q → q.1 ≠ k) : S.lookup k = some v ∧ eraG k S = S.take i ++ S.drop (i + 1) := by
  induction S generalizing i with
  | nil => simp at hi
  | cons a L ih =>
    obtain ⟨a1, a2⟩ := a
    cases i with
    | zero => simp at hi; obtain ⟨rfl, rfl⟩ := hi; simp [List.lookup, eraG]
    | succ i =>
      have h0 : a1 ≠ k := hb 0 (a1, a2) (by omega) rfl
      have h1 : (k == a1) = false := by simpa using fun e : k = a1 => h0 e.symm
      have := ih (i := i) (by simpa using hi) (fun j q hj hq => hb (j + 1) q (by omega) (by simpa using hq))
      rw [List.lookup_cons, h1]
      exact ⟨this.1, by simp only [eraG, if_neg h0, this.2]; rfl⟩
theorem pos_below {k : Int} : ∀ {S : List (Int × β)} {j : Nat} {q : Int × β}, j < posG k S → S[j]? = some q → q.1 < k
  | [], j, q, h, _ => by simp [posG] at h
  | x :: S, j, q, h, hq => by
    unfold posG at h
    split at h
    · omega
    · next hx =>
      cases j with
      | zero => simp at hq; subst hq; omega
      | succ j => exact pos_below (k := k) (S := S) (j := j) (by omega) (by simpa using hq)
theorem pos_of {k : Int} : ∀ {S : List (Int × β)} {i : Nat}, i ≤ S.length → (∀ j q, j < i → S[j]? = some q → q.1 < k) → (∀ q, S[i]? = some q → k ≤ q.1) → i = posG k S
  | [], i, hi, _, _ => by simpa [posG] using hi
  | x :: S, 0, _, _, h2 => by
    have := h2 x rfl
    simp [posG, this]
  | x :: S, i + 1, hi, h1, h2 => by
    have := h1 0 x (by omega) rfl
    have ih := pos_of (k := k) (S := S) (i := i) (by simpa using hi) (fun j q hj hq => h1 (j + 1) q (by omega) (by simpa using hq)) (fun q hq => h2 q (by simpa using hq))
    unfold posG
    rw [if_neg (by omega), ← ih]
/-- What stands at the place. -/
theorem look_pos {k : Int} {S : List (Int × β)} (hu : Up S) : (∃ v, S[posG k S]? = some (k, v) ∧ S.lookup k = some v) ∨ ((∀ q, S[posG k S]? = some q → k < q.1) ∧ S.lookup k = none) := by
  induction S with
  | nil => exact .inr ⟨fun q hq => by simp at hq, rfl⟩
  | cons x S ih =>
    obtain ⟨q, u⟩ := x
    have hu' := (List.pairwise_cons.1 hu).2
    have hlt := (List.pairwise_cons.1 hu).1
    unfold posG
    by_cases h1 : k ≤ q
    · rw [if_pos h1]
      by_cases e : k = q
      · subst e; exact .inl ⟨u, rfl, by simp⟩
      · refine .inr ⟨fun y hy => by simp at hy; subst hy; simp; omega, look_none.2 fun y hy => ?_⟩
        rcases List.mem_cons.1 hy with rfl | hy
        · simp; omega
        · have := hlt y hy; simp at this; omega
    · rw [if_neg h1]
      have e : (k == q) = false := by simp; omega
      rw [List.lookup_cons, e]
      rcases ih hu' with ⟨v, h2, h3⟩ | ⟨h2, h3⟩
      · exact .inl ⟨v, by simpa using h2, h3⟩
      · exact .inr ⟨fun y hy => h2 y (by simpa using hy), h3⟩
end
end Go.Proofs.Ytempfmkicpifkaa.Ti
