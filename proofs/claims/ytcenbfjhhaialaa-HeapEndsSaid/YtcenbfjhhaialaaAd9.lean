/- The calculus: parts of a list; appends that tell what they touched. -/
import Derived.Test.YtcenbfjhhaialaaAd8
set_option linter.unusedVariables false
set_option linter.unusedSectionVars false
set_option linter.unusedSimpArgs false
set_option linter.unnecessarySimpa false
namespace Go.Proofs.Ytcenbfjhhaialaa
open Go.Ab

section
variable {α : Type} {k : Nat} {cells : α → List V} {h h' : HH} {c c' : Nat} {e : EE}
/-- A slice that reads as a list. -/
def SubOf (k : Nat) (cells : α → List V) (h : HH) (c : Nat) (v : V) (xs : List α) : Prop :=
  (∃ a cap, v = .slice a 0 cap ∧ xs = [] ∧ ∀ n ∈ rowName v, n < c) ∨ ∃ m o cap rw cl cs, v = .slice (some (m, o)) xs.length cap ∧ m < c ∧ MapI.get h m = some (.cells rw cl cs) ∧ cut cs o (xs.length * k) = some (flat cells xs)
theorem SubOf.lt {v : V} {xs : List α} (r : SubOf k cells h c v xs) : ∀ n ∈ rowName v, n < c := fun n hn => by
  rcases r with ⟨a, cap, rfl, _, h1⟩ | ⟨m, o, cap, rw, cl, cs, rfl, h1, _⟩
  · exact h1 n hn
  · simp [rowName] at hn; subst hn; exact h1
theorem SubOf.keep {v : V} {xs : List α} (r : SubOf k cells h c v xs) (hc : c ≤ c') (he : ∀ n, n < c → n ∈ rowName v → MapI.get h' n = MapI.get h n) : SubOf k cells h' c' v xs := by
  rcases r with ⟨a, cap, rfl, rfl, h1⟩ | ⟨m, o, cap, rw, cl, cs, rfl, h1, h2, h3⟩
  · exact .inl ⟨a, cap, rfl, rfl, fun n hn => Nat.lt_of_lt_of_le (h1 n hn) hc⟩
  · exact .inr ⟨m, o, cap, rw, cl, cs, rfl, by omega, (by have := he m h1 (by simp [rowName]); rw [this]; exact h2), h3⟩
theorem flat_take (hk : ∀ x, (cells x).length = k) (xs : List α) (i : Nat) (h : i ≤ xs.length) (junk : List V) : cut (flat cells xs ++ junk) 0 (i * k) = some (flat cells (xs.take i)) := by
  have e : flat cells xs = flat cells (xs.take i) ++ flat cells (xs.drop i) := by rw [← flat_append, List.take_append_drop]
  have hl : (flat cells (xs.take i)).length = i * k := by rw [flat_length hk, List.length_take, Nat.min_eq_left h]
  unfold cut
  rw [if_pos (by rw [List.length_append, e, List.length_append, hl]; omega), List.drop_zero, e, List.append_assoc, ← hl, List.take_left]
theorem flat_drop (hk : ∀ x, (cells x).length = k) (xs : List α) (i : Nat) (h : i ≤ xs.length) (junk : List V) : cut (flat cells xs ++ junk) (i * k) ((xs.length - i) * k) = some (flat cells (xs.drop i)) := by
  have e : flat cells xs = flat cells (xs.take i) ++ flat cells (xs.drop i) := by rw [← flat_append, List.take_append_drop]
  have hl : (flat cells (xs.take i)).length = i * k := by rw [flat_length hk, List.length_take, Nat.min_eq_left h]
  have hl2 : (flat cells (xs.drop i)).length = (xs.length - i) * k := by rw [flat_length hk, List.length_drop]
  unfold cut
  rw [if_pos (by rw [List.length_append, e, List.length_append, hl, hl2]; omega), e, List.append_assoc, ← hl, List.drop_left, ← hl2, List.take_left]
variable {call : Nat → Tgt → List V → M HH V} {W : V → HH → Nat → List Acc → Prop} {ds : Option Tmp} {ty : Nat} {pos : String} {af : Array Edge} {gd : Option (Nat × Bool)}
theorem op_sliceNil {t el kk : Nat} {x : Operand} {lo hi : Option Operand} {vlo vhi : Option V} {len l : Nat} {cap : Cap} (hx : ev1 cx e x = some (.slice none len cap)) (hlo : evO cx e lo = some vlo) (hhi : evO cx e hi = some vhi) (hd : cx.desc t = some (.slice el)) (hk : cx.size el = some kk)
    (hl : bound vlo 0 = some l) (hu : bound vhi len = some 0) (h1 : l = 0) (q : W (.slice none 0 (.known 0)) h c []) : WpX (fun k => opM cx (call k) e ⟨ds, .slice t x lo hi none, ty, pos, af, gd⟩) h c W :=
  WpX.pure (fun k' => by
    show bnd (lift "operand" (ev1 cx e x)) (fun a => bnd (lift "operand" (evO cx e lo)) fun lo => bnd (lift "operand" (evO cx e hi)) fun hi => bnd (lift "operand" (evO cx e none)) fun mx => sliceM cx t a lo hi mx) h c = _
    rw [hx, hlo, hhi]
    refine bnd_eq (l := []) (l' := []) lift_eq (bnd_eq (l := []) (l' := []) lift_eq (bnd_eq (l := []) (l' := []) lift_eq (bnd_eq (a := none) (l := []) (l' := []) rfl ?_)))
    subst h1
    unfold sliceM
    simp only [hd, hk, hl, hu, Nat.le_refl, if_true]
    rfl) q
/-- v[:i] of a list. -/
theorem op_take {t el : Nat} {x y : Operand} {v : V} {xs : List α} {i : Nat} {ik : IntKind} {iz : Int} (r : ListOf (k + 1) cells h c v xs) (hk : ∀ x, (cells x).length = k + 1) (hx : ev1 cx e x = some v) (hy : ev1 cx e y = some (.int ik iz)) (hi : iz = i) (hd : cx.desc t = some (.slice el)) (hs : cx.size el = some (k + 1)) (hle : i ≤ xs.length)
    (q : ∀ w, SubOf (k + 1) cells h c w (xs.take i) → (∀ n ∈ rowName w, n ∈ rowName v) → W w h c []) : WpX (fun k => opM cx (call k) e ⟨ds, .slice t x none (some y) none, ty, pos, af, gd⟩) h c W := by
  have hyo : evO cx e (some y) = some (some (.int ik iz)) := by simp only [evO, hy]
  rcases r with ⟨rfl, rfl⟩ | ⟨s, cl, junk, rfl, h2, h3, h4⟩
  · have hi0 : i = 0 := by simpa using hle
    exact op_sliceNil hx rfl hyo hd hs (l := 0) rfl (bound_at (by rw [hi, hi0])) rfl (q _ (.inl ⟨none, .known 0, rfl, by simp, fun n hn => by cases hn⟩) (fun n hn => by cases hn))
  · refine op_slice (k := k) hx rfl hyo hd hs (l := 0) rfl (bound_at hi) (Nat.zero_le _) hle rfl (q _ ?_ (fun n hn => by simpa [rowName] using hn))
    refine .inr ⟨s, 0, .upTo (k + 1), true, cl, _, ?_, h2, h3, ?_⟩
    · simp [Nat.min_eq_left hle]
    · rw [List.length_take, Nat.min_eq_left hle]
      exact flat_take hk xs i hle junk
/-- v[i:] of a list. -/
theorem op_drop {t el : Nat} {x y : Operand} {v : V} {xs : List α} {i : Nat} {ik : IntKind} {iz : Int} (r : ListOf (k + 1) cells h c v xs) (hk : ∀ x, (cells x).length = k + 1) (hx : ev1 cx e x = some v) (hy : ev1 cx e y = some (.int ik iz)) (hi : iz = i) (hd : cx.desc t = some (.slice el)) (hs : cx.size el = some (k + 1)) (hle : i ≤ xs.length)
    (q : ∀ w, SubOf (k + 1) cells h c w (xs.drop i) → (∀ n ∈ rowName w, n ∈ rowName v) → W w h c []) : WpX (fun k => opM cx (call k) e ⟨ds, .slice t x (some y) none none, ty, pos, af, gd⟩) h c W := by
  have hyo : evO cx e (some y) = some (some (.int ik iz)) := by simp only [evO, hy]
  rcases r with ⟨rfl, rfl⟩ | ⟨s, cl, junk, rfl, h2, h3, h4⟩
  · have hi0 : i = 0 := by simpa using hle
    exact op_sliceNil hx hyo rfl hd hs (l := 0) (bound_at (by rw [hi, hi0])) rfl rfl (q _ (.inl ⟨none, .known 0, rfl, by simp, fun n hn => by cases hn⟩) (fun n hn => by cases hn))
  · refine op_slice (k := k) hx hyo rfl hd hs (bound_at hi) rfl hle (Nat.le_refl _) rfl (q _ ?_ (fun n hn => by simpa [rowName] using hn))
    refine .inr ⟨s, i * (k + 1), .upTo (k + 1), true, cl, _, ?_, h2, h3, ?_⟩
    · simp
    · rw [List.length_drop]
      exact flat_drop hk xs i hle junk
/-- append of what reads as a list, onto a list: with what it touched. -/
theorem append_sub {st el xt el' : Nat} {args : Array Operand} {ats : Array Nat} {v w : V} {L : Acc → Prop} {K : V → HH → Nat → List Acc → Prop} {xs ys : List α}
    (ha : evs cx e args.toList = some [v, w]) (ht : ats.toList = [st, xt]) (T : ElT cx st el k) (hxt : cx.desc xt = some (.slice el')) (hk : ∀ x, (cells x).length = k + 1) (h1 : ∀ x, (cells x).all one1 = true)
    (r : ListOf (k + 1) cells h c v xs) (rw' : SubOf (k + 1) cells h c w ys) (hle : xs.length + ys.length ≤ 1000000000)
    (hLw : ∀ a ∈ rowName w, L (.rd a)) (hLv : ∀ a ∈ rowName v, L (.rd a) ∧ L (.wr a)) (hLc : L (.wr c))
    (kk : ∀ v' h' c' al, ListOf (k + 1) cells h' c' v' (xs ++ ys) → (∀ a ∈ rowName v', a ∈ rowName v ∨ (a = c ∧ c' = c + 1)) → c ≤ c' → (∀ a, a ≠ c → a ∉ rowName v → MapI.get h' a = MapI.get h a) →
      (∀ x ∈ al, (x.name ∈ rowName w ∧ x.writes = false) ∨ x.name ∈ rowName v ∨ (x.name = c ∧ c' = c + 1)) → K v' h' c' al) :
    WpX (fun n => opM cx (evFn EE cx pr n) e ⟨ds, .call ⟨.builtin .append, args, ats⟩, ty, pos, af, gd⟩) h c fun v h' c' al => (∀ x ∈ al, L x) ∧ K v h' c' al := by
  have zero : ys = [] → (∃ a cap, w = .slice a 0 cap) → WpX (fun n => opM cx (evFn EE cx pr n) e ⟨ds, .call ⟨.builtin .append, args, ats⟩, ty, pos, af, gd⟩) h c fun v h' c' al => (∀ x ∈ al, L x) ∧ K v h' c' al := by
    rintro rfl ⟨b, cap, rfl⟩
    refine op_append (call := fun n => evFn EE cx pr n) ha ht ?_ ⟨nolog, kk v h c [] (by rw [List.append_nil]; exact r) (fun a ha => .inl ha) (Nat.le_refl _) (fun _ _ _ => rfl) (fun x hx => by cases hx)⟩
    rcases r with ⟨rfl, rfl⟩ | ⟨s, cl', junk, rfl, h2, h3, h4⟩
    · exact append_zero T hxt rfl
    · exact append_zero' T hxt rfl (by omega)
  rcases rw' with ⟨a, cap, rfl, hy, _⟩ | ⟨m, o, cap, rwf, cl, cs, rfl, hm, hx, hc⟩
  · exact zero hy ⟨a, cap, rfl⟩
  by_cases h0 : ys.length = 0
  · exact zero (List.length_eq_zero_iff.1 h0) ⟨_, _, by rw [h0]⟩
  have hpos : 0 < ys.length := by omega
  have hLm : L (.rd m) := hLw m (by simp [rowName])
  rcases r with ⟨rfl, rfl⟩ | ⟨s, cl', junk, rfl, h2, h3, h4⟩
  · refine op_append (call := fun n => evFn EE cx pr n) ha ht (append_nil T hxt hpos (by simpa using hle) hx hc) ⟨?_, kk _ _ _ _ (.inr ⟨c, true, [], by simp, by omega, by rw [MapI.get_same]; simp, rfl⟩) (fun a ha => ?_) (by omega) (fun a ha _ => MapI.get_ne _ _ _ _ (Ne.symm ha)) ?_⟩
    · intro x hx
      simp at hx
      rcases hx with rfl | rfl
      · exact hLm
      · exact hLc
    · simp [rowName] at ha; exact .inr ⟨ha, rfl⟩
    · intro x hx
      simp at hx
      rcases hx with rfl | rfl
      · exact .inl ⟨by simp [rowName, Acc.name], rfl⟩
      · exact .inr (.inr ⟨rfl, rfl⟩)
  · have hfl : (flat cells xs).length = xs.length * (k + 1) := flat_length hk xs
    have hfy : (flat cells ys).length = ys.length * (k + 1) := flat_length hk ys
    have hLs := hLv s (by simp [rowName])
    by_cases hroom : (xs.length + ys.length) * (k + 1) ≤ (flat cells xs ++ junk).length
    · have hj : (flat cells ys).length ≤ junk.length := by
        rw [List.length_append, hfl, Nat.add_mul] at hroom
        rw [hfy]; omega
      refine op_append (call := fun n => evFn EE cx pr n) ha ht (append_into T hxt hpos hle hx hc h3 hroom (flat_all h1 ys)) ⟨?_, kk _ _ _ _ (.inr ⟨s, cl', junk.drop (flat cells ys).length, by simp, h2, ?_, ?_⟩) (fun a ha => .inl ha) (Nat.le_refl _) (fun a _ ha => MapI.get_ne _ _ _ _ (fun e => ha (by simp [rowName, e]))) ?_⟩
      · intro x hx
        simp at hx
        rcases hx with rfl | rfl | rfl
        · exact hLm
        · exact hLs.1
        · exact hLs.2
      · rw [MapI.get_same, ← hfl, setAll_app _ _ _ hj, flat_append]
      · exact List.all_eq_true.2 fun x hx => List.all_eq_true.1 h4 x (List.mem_of_mem_drop hx)
      · intro x hx
        simp at hx
        rcases hx with rfl | rfl | rfl
        · exact .inl ⟨by simp [rowName, Acc.name], rfl⟩
        · exact .inr (.inl (by simp [rowName, Acc.name]))
        · exact .inr (.inl (by simp [rowName, Acc.name]))
    · have hold : cut (flat cells xs ++ junk) 0 (xs.length * (k + 1)) = some (flat cells xs) := by
        unfold cut
        rw [if_pos (by rw [List.length_append, hfl]; omega), List.drop_zero, ← hfl, List.take_left]
      refine op_append (call := fun n => evFn EE cx pr n) ha ht (append_move T hxt hpos hle hx hc h3 (by omega) hold (by rw [List.all_append, flat_all h1, flat_all h1]; rfl)) ⟨?_, kk _ _ _ _ (.inr ⟨c, cl', [], by simp, by omega, by rw [MapI.get_same, flat_append]; simp, rfl⟩) (fun a ha => ?_) (by omega) (fun a ha hb => ?_) ?_⟩
      · intro x hx
        simp at hx
        rcases hx with rfl | rfl | rfl | rfl
        · exact hLm
        · exact hLs.1
        · exact hLs.2
        · exact hLc
      · simp [rowName] at ha; exact .inr ⟨ha, rfl⟩
      · rw [MapI.get_ne _ _ _ _ (Ne.symm ha), MapI.get_ne _ _ _ _ (fun e => hb (by simp [rowName, e]))]
      · intro x hx
        simp at hx
        rcases hx with rfl | rfl | rfl | rfl
        · exact .inl ⟨by simp [rowName, Acc.name], rfl⟩
        · exact .inr (.inl (by simp [rowName, Acc.name]))
        · exact .inr (.inl (by simp [rowName, Acc.name]))
        · exact .inr (.inr ⟨rfl, rfl⟩)
theorem logsOk_reads {ops : List Oper} {al : List (List Acc)} (h : anyWrite al = false) : logsOk ops al = true := by
  unfold logsOk
  rw [h]; rfl
end
end Go.Proofs.Ytcenbfjhhaialaa
