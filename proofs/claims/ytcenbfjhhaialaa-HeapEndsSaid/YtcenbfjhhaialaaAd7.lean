/- The calculus: a list that lies in a row of the call's own, and what append makes of it. -/
import Derived.Test.YtcenbfjhhaialaaAd3
import Derived.Test.YtcenbfjhhaialaaAd6
set_option linter.unusedVariables false
set_option linter.unusedSectionVars false
set_option linter.unusedSimpArgs false
set_option linter.unnecessarySimpa false
namespace Go.Proofs.Ytcenbfjhhaialaa
open Go.Ab

section
variable {α : Type} {k : Nat} {cells : α → List V}

def flat (cells : α → List V) (xs : List α) : List V := (xs.map cells).flatten
theorem flat_nil : flat cells [] = [] := rfl
theorem flat_cons (x : α) (xs : List α) : flat cells (x :: xs) = cells x ++ flat cells xs := rfl
theorem flat_append (xs ys : List α) : flat cells (xs ++ ys) = flat cells xs ++ flat cells ys := by simp [flat]
theorem flat_length (hk : ∀ x, (cells x).length = k) (xs : List α) : (flat cells xs).length = xs.length * k := by
  induction xs with
  | nil => simp [flat]
  | cons x xs ih => rw [flat_cons, List.length_append, hk, ih, List.length_cons, Nat.add_mul]; omega
theorem flat_all (h1 : ∀ x, (cells x).all one1 = true) (xs : List α) : (flat cells xs).all one1 = true := by
  induction xs with
  | nil => rfl
  | cons x xs ih => rw [flat_cons, List.all_append, h1, ih]; rfl
theorem nth_app {a b : List V} {i : Nat} (h : i < a.length) : nth (a ++ b) i = nth a i := by rw [nth_eq, nth_eq, List.getElem?_append_left h]
theorem nth_app_right {a b : List V} (i : Nat) : nth (a ++ b) (a.length + i) = nth b i := by rw [nth_eq, nth_eq, List.getElem?_append_right (by omega), Nat.add_sub_cancel_left]
theorem nth_flat (hk : ∀ x, (cells x).length = k) {xs : List α} {i j : Nat} {x : α} (hi : xs[i]? = some x) (hj : j < k) (junk : List V) : nth (flat cells xs ++ junk) (i * k + j) = nth (cells x) j := by
  induction xs generalizing i with
  | nil => simp at hi
  | cons y xs ih =>
    cases i with
    | zero => simp at hi; subst hi; rw [flat_cons, List.append_assoc, Nat.zero_mul, Nat.zero_add, nth_app (by rw [hk]; exact hj)]
    | succ i =>
      have e : (i + 1) * k + j = (cells y).length + (i * k + j) := by rw [hk, Nat.add_mul]; omega
      rw [flat_cons, List.append_assoc, e, nth_app_right]
      exact ih (by simpa using hi)
theorem cut_flat (hk : ∀ x, (cells x).length = k) {xs : List α} {i : Nat} {x : α} (hi : xs[i]? = some x) (junk : List V) : cut (flat cells xs ++ junk) (i * k) k = some (cells x) := by
  induction xs generalizing i with
  | nil => simp at hi
  | cons y xs ih =>
    have hl : (flat cells (y :: xs) ++ junk).length = k + (flat cells xs ++ junk).length := by rw [flat_cons, List.append_assoc, List.length_append, hk]
    cases i with
    | zero =>
      simp at hi; subst hi
      unfold cut
      rw [if_pos (by omega), Nat.zero_mul, List.drop_zero, flat_cons, List.append_assoc]
      have := hk y
      simp [← this]
    | succ i =>
      have := ih (i := i) (by simpa using hi)
      have e : (i + 1) * k = (cells y).length + i * k := by rw [hk, Nat.add_mul]; omega
      unfold cut at this ⊢
      split at this
      · next h2 =>
        rw [if_pos (by rw [hl, Nat.add_mul]; omega), e, flat_cons, List.append_assoc, ← List.drop_drop, List.drop_left]
        exact this
      · cases this

/-- A list in a row of the call's own; behind it, in the row, may lie what is no more asked for. -/
def ListOf (k : Nat) (cells : α → List V) (h : HH) (c : Nat) (v : V) (xs : List α) : Prop :=
  (v = .slice none 0 (.known 0) ∧ xs = []) ∨ ∃ s cl junk, v = .slice (some (s, 0)) xs.length (.upTo k) ∧ s < c ∧ MapI.get h s = some (.cells true cl (flat cells xs ++ junk)) ∧ junk.all one1 = true
theorem ListOf.nil {h : HH} {c : Nat} : ListOf k cells h c (.slice none 0 (.known 0)) [] := .inl ⟨rfl, rfl⟩
theorem ListOf.lt {h : HH} {c : Nat} {v : V} {xs : List α} (r : ListOf k cells h c v xs) : ∀ n ∈ rowName v, n < c := fun n hn => by
  rcases r with ⟨rfl, _⟩ | ⟨s, _, _, rfl, h1, _⟩
  · cases hn
  · simp [rowName] at hn; subst hn; exact h1
theorem ListOf.keep {h h' : HH} {c c' : Nat} {v : V} {xs : List α} (r : ListOf k cells h c v xs) (hc : c ≤ c') (e : ∀ n, n < c → n ∈ rowName v → MapI.get h' n = MapI.get h n) : ListOf k cells h' c' v xs := by
  rcases r with h1 | ⟨s, cl, junk, rfl, h2, h3, h4⟩
  · exact .inl h1
  · exact .inr ⟨s, cl, junk, rfl, by omega, by rw [e s h2 (by simp [rowName])]; exact h3, h4⟩
theorem ListOf.one {h : HH} {c : Nat} {v : V} {xs : List α} (r : ListOf k cells h c v xs) : cellsV v = [v] ∧ one1 v = true := by
  rcases r with ⟨rfl, _⟩ | ⟨s, _, _, rfl, _⟩ <;> exact ⟨rfl, rfl⟩
/-- As the code indexes it. -/
theorem ListOf.shape {h : HH} {c : Nat} {v : V} {xs : List α} (r : ListOf k cells h c v xs) : ∃ s cap, v = .slice s xs.length cap ∧ (∀ i, i < xs.length → cap = .upTo k ∧ ∃ n cl junk, s = some (n, 0) ∧ n < c ∧ MapI.get h n = some (.cells true cl (flat cells xs ++ junk)) ∧ junk.all one1 = true) := by
  rcases r with ⟨rfl, rfl⟩ | ⟨s, cl, junk, rfl, h1, h2, h3⟩
  · exact ⟨none, .known 0, rfl, fun i hi => by simp at hi⟩
  · exact ⟨_, _, rfl, fun i hi => ⟨rfl, s, cl, junk, rfl, h1, h2, h3⟩⟩

theorem ovr_app : ∀ (new junk : List V), new.length ≤ junk.length → ovr junk new = new ++ junk.drop new.length
  | [], junk, _ => by cases junk <;> simp [ovr]
  | x :: new, [], h => by simp at h
  | x :: new, y :: junk, h => by
    have := ovr_app new junk (by simpa using h)
    simp [ovr, this]
theorem setAll_app (a : List V) : ∀ (junk new : List V), new.length ≤ junk.length → setAll (a ++ junk) a.length new = a ++ new ++ junk.drop new.length := by
  induction a with
  | nil => intro junk new h; simp [setAll, ovr_app new junk h]
  | cons x a ih => intro junk new h; simp [setAll, ih junk new h]

/-- append of a row's cells onto a list. -/
theorem append_at {st el xt el' n m o : Nat} {args : Array Operand} {ats : Array Nat} {v : V} {cap' : Cap} {e : EE} {h : HH} {c : Nat} {L : Acc → Prop} {K : V → HH → Nat → Prop} {ds : Option Tmp} {ty : Nat} {pos : String} {af : Array Edge} {gd : Option (Nat × Bool)} {rw cl : Bool} {cs : List V} {xs ys : List α}
    (ha : evs cx e args.toList = some [v, .slice (some (m, o)) n cap']) (ht : ats.toList = [st, xt]) (T : ElT cx st el k) (hxt : cx.desc xt = some (.slice el')) (hk : ∀ x, (cells x).length = k + 1) (h1 : ∀ x, (cells x).all one1 = true)
    (r : ListOf (k + 1) cells h c v xs) (hx : MapI.get h m = some (.cells rw cl cs)) (hc : cut cs o (n * (k + 1)) = some (flat cells ys)) (hn : ys.length = n) (hle : xs.length + n ≤ 1000000000)
    (hLm : L (.rd m)) (hLv : ∀ a ∈ rowName v, L (.rd a) ∧ L (.wr a)) (hLc : L (.wr c))
    (kk : ∀ v' h' c', ListOf (k + 1) cells h' c' v' (xs ++ ys) → (∀ a ∈ rowName v', a ∈ rowName v ∨ (a = c ∧ c' = c + 1)) → c ≤ c' → (∀ a, a ≠ c → a ∉ rowName v → MapI.get h' a = MapI.get h a) → K v' h' c') :
    WpX (fun n => opM cx (evFn EE cx pr n) e ⟨ds, .call ⟨.builtin .append, args, ats⟩, ty, pos, af, gd⟩) h c fun v h' c' al => (∀ x ∈ al, L x) ∧ K v h' c' := by
  by_cases h0 : n = 0
  · subst h0
    have hy : ys = [] := List.length_eq_zero_iff.1 hn
    subst hy
    refine op_append (call := fun n => evFn EE cx pr n) ha ht ?_ ⟨nolog, kk v h c (by rw [List.append_nil]; exact r) (fun a ha => .inl ha) (Nat.le_refl _) (fun _ _ _ => rfl)⟩
    rcases r with ⟨rfl, rfl⟩ | ⟨s, cl', junk, rfl, h2, h3, h4⟩
    · exact append_zero T hxt rfl
    · exact append_zero' T hxt rfl (by omega)
  have hpos : 0 < n := by omega
  rcases r with ⟨rfl, rfl⟩ | ⟨s, cl', junk, rfl, h2, h3, h4⟩
  · refine op_append (call := fun n => evFn EE cx pr n) ha ht (append_nil T hxt hpos (by simpa using hle) hx hc) ⟨?_, kk _ _ _ (.inr ⟨c, true, [], by simp [hn], by omega, by rw [MapI.get_same]; simp, rfl⟩) (fun a ha => ?_) (by omega) (fun a ha _ => MapI.get_ne _ _ _ _ (Ne.symm ha))⟩
    · intro x hx
      simp at hx
      rcases hx with rfl | rfl
      · exact hLm
      · exact hLc
    · simp [rowName] at ha; exact .inr ⟨ha, rfl⟩
  · have hfl : (flat cells xs).length = xs.length * (k + 1) := flat_length hk xs
    have hfy : (flat cells ys).length = n * (k + 1) := by rw [flat_length hk ys, hn]
    have hLs := hLv s (by simp [rowName])
    by_cases hroom : (xs.length + n) * (k + 1) ≤ (flat cells xs ++ junk).length
    · have hj : (flat cells ys).length ≤ junk.length := by
        rw [List.length_append, hfl, Nat.add_mul] at hroom
        rw [hfy]; omega
      refine op_append (call := fun n => evFn EE cx pr n) ha ht (append_into T hxt hpos hle hx hc h3 hroom (flat_all h1 ys)) ⟨?_, kk _ _ _ (.inr ⟨s, cl', junk.drop (flat cells ys).length, by simp [hn], h2, ?_, ?_⟩) (fun a ha => .inl ha) (Nat.le_refl _) (fun a _ ha => MapI.get_ne _ _ _ _ (fun e => ha (by simp [rowName, e])))⟩
      · intro x hx
        simp at hx
        rcases hx with rfl | rfl | rfl
        · exact hLm
        · exact hLs.1
        · exact hLs.2
      · rw [MapI.get_same, ← hfl, setAll_app _ _ _ hj, flat_append]
      · exact List.all_eq_true.2 fun x hx => List.all_eq_true.1 h4 x (List.mem_of_mem_drop hx)
    · have hold : cut (flat cells xs ++ junk) 0 (xs.length * (k + 1)) = some (flat cells xs) := by
        unfold cut
        rw [if_pos (by rw [List.length_append, hfl]; omega), List.drop_zero, ← hfl, List.take_left]
      refine op_append (call := fun n => evFn EE cx pr n) ha ht (append_move T hxt hpos hle hx hc h3 (by omega) hold (by rw [List.all_append, flat_all h1, flat_all h1]; rfl)) ⟨?_, kk _ _ _ (.inr ⟨c, cl', [], by simp [hn], by omega, by rw [MapI.get_same, flat_append]; simp, rfl⟩) (fun a ha => ?_) (by omega) (fun a ha hb => ?_)⟩
      · intro x hx
        simp at hx
        rcases hx with rfl | rfl | rfl | rfl
        · exact hLm
        · exact hLs.1
        · exact hLs.2
        · exact hLc
      · simp [rowName] at ha; exact .inr ⟨ha, rfl⟩
      · rw [MapI.get_ne _ _ _ _ (Ne.symm ha), MapI.get_ne _ _ _ _ (fun e => hb (by simp [rowName, e]))]
end
end Go.Proofs.Ytcenbfjhhaialaa
