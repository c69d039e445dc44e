/- Sorting by a key: plain facts. -/
import Derived.Test.YtcenbfjhhaialaaAdO0
set_option linter.unusedVariables false
namespace Go.Ab

section
variable {α β : Type}
theorem insP_perm {x : α × Int} : ∀ {l : List (α × Int)}, (insP x l).Perm (x :: l)
  | [] => List.Perm.refl _
  | y :: l => by
    unfold insP
    cases decide (x.2 ≤ y.2) with
    | true => exact List.Perm.refl _
    | false => exact ((insP_perm (l := l)).cons y).trans (List.Perm.swap x y l)
theorem sortP_perm : ∀ {l : List (α × Int)}, (sortP l).Perm l
  | [] => List.Perm.refl _
  | x :: l => insP_perm.trans ((sortP_perm (l := l)).cons x)
theorem insP_sorted {x : α × Int} : ∀ {l : List (α × Int)}, l.Pairwise (fun a b => a.2 ≤ b.2) → (insP x l).Pairwise (fun a b => a.2 ≤ b.2)
  | [], _ => by simp [insP]
  | y :: l, h => by
    unfold insP
    cases hd : decide (x.2 ≤ y.2) with
    | true =>
      have hd := of_decide_eq_true hd
      refine List.pairwise_cons.2 ⟨fun z hz => ?_, h⟩
      rcases List.mem_cons.1 hz with rfl | hz
      · exact hd
      · exact Int.le_trans hd ((List.pairwise_cons.1 h).1 z hz)
    | false =>
      have hd := of_decide_eq_false hd
      refine List.pairwise_cons.2 ⟨fun z hz => ?_, insP_sorted (List.pairwise_cons.1 h).2⟩
      have hz := insP_perm.mem_iff.1 hz
      rcases List.mem_cons.1 hz with rfl | hz
      · omega
      · exact (List.pairwise_cons.1 h).1 z hz
theorem sortP_sorted : ∀ {l : List (α × Int)}, (sortP l).Pairwise (fun a b => a.2 ≤ b.2)
  | [] => List.Pairwise.nil
  | x :: l => insP_sorted sortP_sorted
theorem insP_map (f : α → β) {x : α × Int} : ∀ {l : List (α × Int)}, insP (f x.1, x.2) (l.map fun p => (f p.1, p.2)) = (insP x l).map fun p => (f p.1, p.2)
  | [] => rfl
  | y :: l => by
    have ih := insP_map f (x := x) (l := l)
    simp only [List.map_cons]
    unfold insP
    cases decide (x.2 ≤ y.2) with
    | true => rfl
    | false => simp only [cond_false, List.map_cons, ih]
theorem sortP_map (f : α → β) : ∀ {l : List (α × Int)}, sortP (l.map fun p => (f p.1, p.2)) = (sortP l).map fun p => (f p.1, p.2)
  | [] => rfl
  | x :: l => by
    simp only [List.map_cons]
    unfold sortP
    rw [sortP_map f, insP_map f]
theorem key_inj : ∀ {l : List (α × Int)} {a b : α × Int}, (l.map fun x => x.2).Nodup → a ∈ l → b ∈ l → a.2 = b.2 → a = b
  | [], _, _, _, h, _, _ => by cases h
  | x :: l, a, b, hn, ha, hb, e => by
    have hn' := List.nodup_cons.1 hn
    rcases List.mem_cons.1 ha with h1 | h1 <;> rcases List.mem_cons.1 hb with h2 | h2
    · rw [h1, h2]
    · rw [h1] at e
      exact absurd (List.mem_map.2 ⟨b, h2, e.symm⟩) hn'.1
    · rw [h2] at e
      exact absurd (List.mem_map.2 ⟨a, h1, e⟩) hn'.1
    · exact key_inj hn'.2 h1 h2 e
theorem sortP_eq {l l' : List (α × Int)} (hp : l'.Perm l) (hn : (l.map fun x => x.2).Nodup) (hs : l'.Pairwise (fun a b => a.2 ≤ b.2)) : l' = sortP l :=
  List.Perm.eq_of_pairwise (le := fun a b => a.2 ≤ b.2) (fun a b ha hb h1 h2 => key_inj hn (hp.mem_iff.1 ha) (sortP_perm.mem_iff.1 hb) (Int.le_antisymm h1 h2)) hs sortP_sorted (hp.trans sortP_perm.symm)
end
end Go.Ab
