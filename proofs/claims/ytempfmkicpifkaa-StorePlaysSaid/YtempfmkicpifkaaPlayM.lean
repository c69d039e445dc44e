/- The calculus: parts of a list; appends that tell what they touched. -/
/- Calls that read alone. -/
/- The document's store: what each function does to bytes and rows. -/
/- The document's store: Live, Handles, Look; Ints. -/
/- The document's Slide: plain facts of its marks. -/
/- The document's Slide. -/
/- The document's Grant. -/
/- Check of a sound store; New of any size; what of any handle. -/
/- StorePlays: both stores beside one another; what each deed makes of them. -/
import Derived.Test.YtempfmkicpifkaaAd8
import Derived.Test.YtempfmkicpifkaaStoreN


set_option linter.unusedVariables false
set_option linter.unusedSectionVars false
set_option linter.unusedSimpArgs false
set_option linter.unnecessarySimpa false
namespace Go.Proofs.Ytempfmkicpifkaa
open Go.Ab

section
variable {α : Type} {k : Nat} {cells : α → List V} {h h' : HH} {c c' : Nat} {e : EE}
/-- A slice that reads as a list. -/
def SubOf (k : Nat) (cells : α → List V) (h : HH) (c : Nat) (v : V) (xs : List α) : Prop :=
  (∃ a cap, v = .slice a 0 cap ∧ xs = [] ∧ ∀ n ∈ rowName v, n < c) ∨ ∃ m o cap rw cl cs, v = .slice (some (m, o)) xs.length cap ∧ m < c ∧ MapI.get h m = some (.cells rw cl cs) ∧ cut cs o (xs.length * k) = some (flat cells xs)
theorem SubOf.lt {v : V} {xs : List α} (r : SubOf k cells h c v xs) : ∀ n ∈ rowName v, n < c := fun n hn => by
  rcases r with ⟨a, cap, rfl, _, h1⟩ | ⟨m, o, cap, rw, cl, cs, rfl, h1, _⟩
  · exact h1 n hn
  · simp [rowName] at hn; subst hn; exact h1
theorem SubOf.keep {v : V} {xs : List α} (r : SubOf k cells h c v xs) (hc : c ≤ c') (he : ∀ n, n < c → n ∈ rowName v → MapI.get h' n = MapI.get h n) : SubOf k cells h' c' v xs := by
  rcases r with ⟨a, cap, rfl, rfl, h1⟩ | ⟨m, o, cap, rw, cl, cs, rfl, h1, h2, h3⟩
  · exact .inl ⟨a, cap, rfl, rfl, fun n hn => Nat.lt_of_lt_of_le (h1 n hn) hc⟩
  · exact .inr ⟨m, o, cap, rw, cl, cs, rfl, by omega, (by have := he m h1 (by simp [rowName]); rw [this]; exact h2), h3⟩
theorem flat_take (hk : ∀ x, (cells x).length = k) (xs : List α) (i : Nat) (h : i ≤ xs.length) (junk : List V) : cut (flat cells xs ++ junk) 0 (i * k) = some (flat cells (xs.take i)) := by
  have e : flat cells xs = flat cells (xs.take i) ++ flat cells (xs.drop i) := by rw [← flat_append, List.take_append_drop]
  have hl : (flat cells (xs.take i)).length = i * k := by rw [flat_length hk, List.length_take, Nat.min_eq_left h]
  unfold cut
  rw [if_pos (by rw [List.length_append, e, List.length_append, hl]; omega), List.drop_zero, e, List.append_assoc, ← hl, List.take_left]
theorem flat_drop (hk : ∀ x, (cells x).length = k) (xs : List α) (i : Nat) (h : i ≤ xs.length) (junk : List V) : cut (flat cells xs ++ junk) (i * k) ((xs.length - i) * k) = some (flat cells (xs.drop i)) := by
  have e : flat cells xs = flat cells (xs.take i) ++ flat cells (xs.drop i) := by rw [← flat_append, List.take_append_drop]
  have hl : (flat cells (xs.take i)).length = i * k := by rw [flat_length hk, List.length_take, Nat.min_eq_left h]
  have hl2 : (flat cells (xs.drop i)).length = (xs.length - i) * k := by rw [flat_length hk, List.length_drop]
  unfold cut
  rw [if_pos (by rw [List.length_append, e, List.length_append, hl, hl2]; omega), e, List.append_assoc, ← hl, List.drop_left, ← hl2, List.take_left]
variable {call : Nat → Tgt → List V → M HH V} {W : V → HH → Nat → List Acc → Prop} {ds : Option Tmp} {ty : Nat} {pos : String} {af : Array Edge} {gd : Option (Nat × Bool)}
theorem op_sliceNil {t el kk : Nat} {x : Operand} {lo hi : Option Operand} {vlo vhi : Option V} {len l : Nat} {cap : Cap} (hx : ev1 cx e x = some (.slice none len cap)) (hlo : evO cx e lo = some vlo) (hhi : evO cx e hi = some vhi) (hd : cx.desc t = some (.slice el)) (hk : cx.size el = some kk)
    (hl : bound vlo 0 = some l) (hu : bound vhi len = some 0) (h1 : l = 0) (q : W (.slice none 0 (.known 0)) h c []) : WpX (fun k => opM cx (call k) e ⟨ds, .slice t x lo hi none, ty, pos, af, gd⟩) h c W :=
  WpX.pure (fun k' => by
    show bnd (lift "operand" (ev1 cx e x)) (fun a => bnd (lift "operand" (evO cx e lo)) fun lo => bnd (lift "operand" (evO cx e hi)) fun hi => bnd (lift "operand" (evO cx e none)) fun mx => sliceM cx t a lo hi mx) h c = _
    rw [hx, hlo, hhi]
    refine bnd_eq (l := []) (l' := []) lift_eq (bnd_eq (l := []) (l' := []) lift_eq (bnd_eq (l := []) (l' := []) lift_eq (bnd_eq (a := none) (l := []) (l' := []) rfl ?_)))
    subst h1
    unfold sliceM
    simp only [hd, hk, hl, hu, Nat.le_refl, if_true]
    rfl) q
/-- v[:i] of a list. -/
theorem op_take {t el : Nat} {x y : Operand} {v : V} {xs : List α} {i : Nat} {ik : IntKind} {iz : Int} (r : ListOf (k + 1) cells h c v xs) (hk : ∀ x, (cells x).length = k + 1) (hx : ev1 cx e x = some v) (hy : ev1 cx e y = some (.int ik iz)) (hi : iz = i) (hd : cx.desc t = some (.slice el)) (hs : cx.size el = some (k + 1)) (hle : i ≤ xs.length)
    (q : ∀ w, SubOf (k + 1) cells h c w (xs.take i) → (∀ n ∈ rowName w, n ∈ rowName v) → W w h c []) : WpX (fun k => opM cx (call k) e ⟨ds, .slice t x none (some y) none, ty, pos, af, gd⟩) h c W := by
  have hyo : evO cx e (some y) = some (some (.int ik iz)) := by simp only [evO, hy]
  rcases r with ⟨rfl, rfl⟩ | ⟨s, cl, junk, rfl, h2, h3, h4⟩
  · have hi0 : i = 0 := by simpa using hle
    exact op_sliceNil hx rfl hyo hd hs (l := 0) rfl (bound_at (by rw [hi, hi0])) rfl (q _ (.inl ⟨none, .known 0, rfl, by simp, fun n hn => by cases hn⟩) (fun n hn => by cases hn))
  · refine op_slice (k := k) hx rfl hyo hd hs (l := 0) rfl (bound_at hi) (Nat.zero_le _) hle rfl (q _ ?_ (fun n hn => by simpa [rowName] using hn))
    refine .inr ⟨s, 0, .upTo (k + 1), true, cl, _, ?_, h2, h3, ?_⟩
    · simp [Nat.min_eq_left hle]
    · rw [List.length_take, Nat.min_eq_left hle]
      exact flat_take hk xs i hle junk
/-- v[i:] of a list. -/
theorem op_drop {t el : Nat} {x y : Operand} {v : V} {xs : List α} {i : Nat} {ik : IntKind} {iz : Int} (r : ListOf (k + 1) cells h c v xs) (hk : ∀ x, (cells x).length = k + 1) (hx : ev1 cx e x = some v) (hy : ev1 cx e y = some (.int ik iz)) (hi : iz = i) (hd : cx.desc t = some (.slice el)) (hs : cx.size el = some (k + 1)) (hle : i ≤ xs.length)
    (q : ∀ w, SubOf (k + 1) cells h c w (xs.drop i) → (∀ n ∈ rowName w, n ∈ rowName v) → W w h c []) : WpX (fun k => opM cx (call k) e ⟨ds, .slice t x (some y) none none, ty, pos, af, gd⟩) h c W := by
  have hyo : evO cx e (some y) = some (some (.int ik iz)) := by simp only [evO, hy]
  rcases r with ⟨rfl, rfl⟩ | ⟨s, cl, junk, rfl, h2, h3, h4⟩
  · have hi0 : i = 0 := by simpa using hle
    exact op_sliceNil hx hyo rfl hd hs (l := 0) (bound_at (by rw [hi, hi0])) rfl rfl (q _ (.inl ⟨none, .known 0, rfl, by simp, fun n hn => by cases hn⟩) (fun n hn => by cases hn))
  · refine op_slice (k := k) hx hyo rfl hd hs (bound_at hi) rfl hle (Nat.le_refl _) rfl (q _ ?_ (fun n hn => by simpa [rowName] using hn))
    refine .inr ⟨s, i * (k + 1), .upTo (k + 1), true, cl, _, ?_, h2, h3, ?_⟩
    · simp
    · rw [List.length_drop]
      exact flat_drop hk xs i hle junk
/-- append of what reads as a list, onto a list: with what it touched. -/
theorem append_sub {st el xt el' : Nat} {args : Array Operand} {ats : Array Nat} {v w : V} {L : Acc → Prop} {K : V → HH → Nat → List Acc → Prop} {xs ys : List α}
    (ha : evs cx e args.toList = some [v, w]) (ht : ats.toList = [st, xt]) (T : ElT cx st el k) (hxt : cx.desc xt = some (.slice el')) (hk : ∀ x, (cells x).length = k + 1) (h1 : ∀ x, (cells x).all one1 = true)
    (r : ListOf (k + 1) cells h c v xs) (rw' : SubOf (k + 1) cells h c w ys) (hle : xs.length + ys.length ≤ 1000000000)
    (hLw : ∀ a ∈ rowName w, L (.rd a)) (hLv : ∀ a ∈ rowName v, L (.rd a) ∧ L (.wr a)) (hLc : L (.wr c))
    (kk : ∀ v' h' c' al, ListOf (k + 1) cells h' c' v' (xs ++ ys) → (∀ a ∈ rowName v', a ∈ rowName v ∨ (a = c ∧ c' = c + 1)) → c ≤ c' → (∀ a, a ≠ c → a ∉ rowName v → MapI.get h' a = MapI.get h a) →
      (∀ x ∈ al, (x.name ∈ rowName w ∧ x.writes = false) ∨ x.name ∈ rowName v ∨ (x.name = c ∧ c' = c + 1)) → K v' h' c' al) :
    WpX (fun n => opM cx (evFn EE cx pr n) e ⟨ds, .call ⟨.builtin .append, args, ats⟩, ty, pos, af, gd⟩) h c fun v h' c' al => (∀ x ∈ al, L x) ∧ K v h' c' al := by
  have zero : ys = [] → (∃ a cap, w = .slice a 0 cap) → WpX (fun n => opM cx (evFn EE cx pr n) e ⟨ds, .call ⟨.builtin .append, args, ats⟩, ty, pos, af, gd⟩) h c fun v h' c' al => (∀ x ∈ al, L x) ∧ K v h' c' al := by
    rintro rfl ⟨b, cap, rfl⟩
    refine op_append (call := fun n => evFn EE cx pr n) ha ht ?_ ⟨nolog, kk v h c [] (by rw [List.append_nil]; exact r) (fun a ha => .inl ha) (Nat.le_refl _) (fun _ _ _ => rfl) (fun x hx => by cases hx)⟩
    rcases r with ⟨rfl, rfl⟩ | ⟨s, cl', junk, rfl, h2, h3, h4⟩
    · exact append_zero T hxt rfl
    · exact append_zero' T hxt rfl (by omega)
  rcases rw' with ⟨a, cap, rfl, hy, _⟩ | ⟨m, o, cap, rwf, cl, cs, rfl, hm, hx, hc⟩
  · exact zero hy ⟨a, cap, rfl⟩
  by_cases h0 : ys.length = 0
  · exact zero (List.length_eq_zero_iff.1 h0) ⟨_, _, by rw [h0]⟩
  have hpos : 0 < ys.length := by omega
  have hLm : L (.rd m) := hLw m (by simp [rowName])
  rcases r with ⟨rfl, rfl⟩ | ⟨s, cl', junk, rfl, h2, h3, h4⟩
  · refine op_append (call := fun n => evFn EE cx pr n) ha ht (append_nil T hxt hpos (by simpa using hle) hx hc) ⟨?_, kk _ _ _ _ (.inr ⟨c, true, [], by simp, by omega, by rw [MapI.get_same]; simp, rfl⟩) (fun a ha => ?_) (by omega) (fun a ha _ => MapI.get_ne _ _ _ _ (Ne.symm ha)) ?_⟩
    · intro x hx
      simp at hx
      rcases hx with rfl | rfl
      · exact hLm
      · exact hLc
    · simp [rowName] at ha; exact .inr ⟨ha, rfl⟩
    · intro x hx
      simp at hx
      rcases hx with rfl | rfl
      · exact .inl ⟨by simp [rowName, Acc.name], rfl⟩
      · exact .inr (.inr ⟨rfl, rfl⟩)
  · have hfl : (flat cells xs).length = xs.length * (k + 1) := flat_length hk xs
    have hfy : (flat cells ys).length = ys.length * (k + 1) := flat_length hk ys
    have hLs := hLv s (by simp [rowName])
    by_cases hroom : (xs.length + ys.length) * (k + 1) ≤ (flat cells xs ++ junk).length
    · have hj : (flat cells ys).length ≤ junk.length := by
        rw [List.length_append, hfl, Nat.add_mul] at hroom
        rw [hfy]; omega
      refine op_append (call := fun n => evFn EE cx pr n) ha ht (append_into T hxt hpos hle hx hc h3 hroom (flat_all h1 ys)) ⟨?_, kk _ _ _ _ (.inr ⟨s, cl', junk.drop (flat cells ys).length, by simp, h2, ?_, ?_⟩) (fun a ha => .inl ha) (Nat.le_refl _) (fun a _ ha => MapI.get_ne _ _ _ _ (fun e => ha (by simp [rowName, e]))) ?_⟩
      · intro x hx
        simp at hx
        rcases hx with rfl | rfl | rfl
        · exact hLm
        · exact hLs.1
        · exact hLs.2
      · rw [MapI.get_same, ← hfl, setAll_app _ _ _ hj, flat_append]
      · exact List.all_eq_true.2 fun x hx => List.all_eq_true.1 h4 x (List.mem_of_mem_drop hx)
      · intro x hx
        simp at hx
        rcases hx with rfl | rfl | rfl
        · exact .inl ⟨by simp [rowName, Acc.name], rfl⟩
        · exact .inr (.inl (by simp [rowName, Acc.name]))
        · exact .inr (.inl (by simp [rowName, Acc.name]))
    · have hold : cut (flat cells xs ++ junk) 0 (xs.length * (k + 1)) = some (flat cells xs) := by
        unfold cut
        rw [if_pos (by rw [List.length_append, hfl]; omega), List.drop_zero, ← hfl, List.take_left]
      refine op_append (call := fun n => evFn EE cx pr n) ha ht (append_move T hxt hpos hle hx hc h3 (by omega) hold (by rw [List.all_append, flat_all h1, flat_all h1]; rfl)) ⟨?_, kk _ _ _ _ (.inr ⟨c, cl', [], by simp, by omega, by rw [MapI.get_same, flat_append]; simp, rfl⟩) (fun a ha => ?_) (by omega) (fun a ha hb => ?_) ?_⟩
      · intro x hx
        simp at hx
        rcases hx with rfl | rfl | rfl | rfl
        · exact hLm
        · exact hLs.1
        · exact hLs.2
        · exact hLc
      · simp [rowName] at ha; exact .inr ⟨ha, rfl⟩
      · rw [MapI.get_ne _ _ _ _ (Ne.symm ha), MapI.get_ne _ _ _ _ (fun e => hb (by simp [rowName, e]))]
      · intro x hx
        simp at hx
        rcases hx with rfl | rfl | rfl | rfl
        · exact .inl ⟨by simp [rowName, Acc.name], rfl⟩
        · exact .inr (.inl (by simp [rowName, Acc.name]))
        · exact .inr (.inl (by simp [rowName, Acc.name]))
        · exact .inr (.inr ⟨rfl, rfl⟩)
theorem logsOk_reads {ops : List Oper} {al : List (List Acc)} (h : anyWrite al = false) : logsOk ops al = true := by
  unfold logsOk
  rw [h]; rfl
end
end Go.Proofs.Ytempfmkicpifkaa


set_option linter.unusedVariables false
set_option linter.unusedSectionVars false
set_option linter.unusedSimpArgs false
set_option linter.unnecessarySimpa false
namespace Go.Proofs.Ytempfmkicpifkaa
open Go.Ab
/-- Each access is of one of the names, or of a new one; what is written is new. -/
def InR (ns : List Nat) (c : Nat) : Acc → Prop := fun x => (x.name ∈ ns ∨ c ≤ x.name) ∧ (x.writes = true → c ≤ x.name)
def DoesR (f : Nat) (xs : List V) (h : HH) (c : Nat) (ns : List Nat) (Q : V → HH → Nat → Prop) : Prop :=
  WpX (cl f xs) h c fun v h' c' l => (∀ x ∈ l, InR ns c x) ∧ c ≤ c' ∧ (∀ n, n < c → MapI.get h' n = MapI.get h n) ∧ Q v h' c'
theorem doesR_of {f : Nat} {xs : List V} {h : HH} {c : Nat} {ns : List Nat} {Q : V → HH → Nat → Prop} (w : WpX (cl f xs) h c fun v h' c' l => (∀ x ∈ l, InR ns c x) ∧ Q v h' c') : DoesR f xs h c ns Q := by
  obtain ⟨a, h', c', l, ⟨hl, q⟩, k, hk⟩ := w
  have hloc := local_cl _ _ _ _ _ _ (hk k (Nat.le_refl _))
  refine ⟨a, h', c', l, ⟨hl, hloc.1, fun n hn => hloc.2.1 n fun x hx e => ?_, q⟩, k, hk⟩
  cases hw : x.writes with
  | false => rfl
  | true => have := (hl x hx).2 hw; omega
theorem inR_sub {ns ms : List Nat} {c c0 : Nat} (h1 : ∀ n ∈ ns, n ∈ ms ∨ c0 ≤ n) (h2 : c0 ≤ c) {x : Acc} (h : InR ns c x) : InR ms c0 x := by
  refine ⟨?_, fun hw => Nat.le_trans h2 (h.2 hw)⟩
  rcases h.1 with h | h
  · exact h1 _ h
  · exact .inr (by omega)
/-- At a call that reads alone. -/
theorem call_atRR {f : Nat} {args : Array Operand} {ats : Array Nat} {xs : List V} {e : EE} {h : HH} {c c0 : Nat} {ns ms : List Nat} {Q : V → HH → Nat → Prop} {K : V → HH → Nat → Prop} {ds : Option Tmp} {ty : Nat} {pos : String} {af : Array Edge} {gd : Option (Nat × Bool)}
    (ha : evs cx e args.toList = some xs) (w : DoesR f xs h c ns Q) (h1 : ∀ n ∈ ns, n ∈ ms ∨ c0 ≤ n) (h2 : c0 ≤ c)
    (k : ∀ v h' c', c ≤ c' → (∀ n, n < c → MapI.get h' n = MapI.get h n) → Q v h' c' → K v h' c') :
    WpX (fun n => opM cx (evFn EE cx pr n) e ⟨ds, .call ⟨.value (.func f), args, ats⟩, ty, pos, af, gd⟩) h c fun v h' c' al => (∀ x ∈ al, InR ms c0 x) ∧ K v h' c' :=
  op_call (call := fun n => evFn EE cx pr n) ha (WpX.mono w fun v h' c' l ⟨a, b, d, q⟩ => ⟨fun x hx => inR_sub h1 h2 (a x hx), k v h' c' b d q⟩)
/-- In a drawn region. -/
theorem call_atRL {f : Nat} {args : Array Operand} {ats : Array Nat} {xs : List V} {e : EE} {h : HH} {c c0 : Nat} {ns ms : List Nat} {Q : V → HH → Nat → Prop} {K : V → HH → Nat → List Acc → Prop} {ds : Option Tmp} {ty : Nat} {pos : String} {af : Array Edge} {gd : Option (Nat × Bool)}
    (ha : evs cx e args.toList = some xs) (w : DoesR f xs h c ns Q) (h1 : ∀ n ∈ ns, n ∈ ms ∨ c0 ≤ n) (h2 : c0 ≤ c)
    (k : ∀ v h' c' al, (∀ x ∈ al, InR ns c x) → c ≤ c' → (∀ n, n < c → MapI.get h' n = MapI.get h n) → Q v h' c' → K v h' c' al) :
    WpX (fun n => opM cx (evFn EE cx pr n) e ⟨ds, .call ⟨.value (.func f), args, ats⟩, ty, pos, af, gd⟩) h c fun v h' c' al => (∀ x ∈ al, InL ms c0 x) ∧ K v h' c' al :=
  op_call (call := fun n => evFn EE cx pr n) ha (WpX.mono w fun v h' c' l ⟨a, b, d, q⟩ => ⟨fun x hx => (inR_sub h1 h2 (a x hx)).1, k v h' c' l a b d q⟩)
theorem DoesR.does {f : Nat} {xs : List V} {h : HH} {c : Nat} {ns : List Nat} {Q : V → HH → Nat → Prop} (w : DoesR f xs h c ns Q) : Does f xs h c ns Q :=
  WpX.mono w fun v h' c' l ⟨a, b, d, q⟩ => ⟨fun x hx => (a x hx).1, b, fun n hn _ => d n hn, q⟩
end Go.Proofs.Ytempfmkicpifkaa


set_option linter.unusedVariables false
set_option linter.unusedSectionVars false
set_option linter.unusedSimpArgs false
set_option linter.unnecessarySimpa false
namespace Go.Proofs.Ytempfmkicpifkaa
open Go.Ab
set_option maxRecDepth 10000

theorem ListOf.shapeN {α : Type} {k n : Nat} {cells : α → List V} {h : HH} {c : Nat} {v : V} {xs : List α} (r : ListOf k cells h c v xs) (hn : xs.length = n) : ∃ s cap, v = .slice s n cap ∧ (∀ i, i < n → cap = .upTo k ∧ ∃ m cl junk, s = some (m, 0) ∧ m < c ∧ MapI.get h m = some (.cells true cl (flat cells xs ++ junk)) ∧ junk.all one1 = true) := by
  subst hn; exact r.shape
theorem nthI {xs : List Int} {i : Nat} {z : Int} (h : xs[i]? = some z) (junk : List V) : nth (flat intV xs ++ junk) i = some (I z) := by
  have := (nth_flat (cells := intV) (k := 1) int_len h (Nat.lt_succ_self 0) junk).trans (show nth (intV z) 0 = some (I z) from rfl)
  simpa using this
theorem set_int {junk : List V} {z : Int} : ∀ {xs : List Int} {i : Nat}, i < xs.length → setAll (flat intV xs ++ junk) i [I z] = flat intV (xs.set i z) ++ junk
  | [], _, h => by simp at h
  | y :: xs, 0, h => by simp [flat, intV, setAll, ovr]
  | y :: xs, i + 1, h => by
    have := set_int (junk := junk) (z := z) (xs := xs) (i := i) (by simpa using h)
    simp only [flat_cons, List.append_assoc, List.set_cons_succ] at this ⊢
    simp only [intV, List.cons_append, List.nil_append, setAll, this]

structure RefAt (h : HH) (c q : Nat) (vB vP vS vC : V) (st : St) : Prop where
  obj : MapI.get h q = some (.cells true true [vB, I st.most, vP, vS, vC])
  b : ListOf 1 byteV h c vB st.bs
  pl : ListOf 1 intV h c vP (st.rows.map fun r => r.1)
  sz : ListOf 1 intV h c vS (st.rows.map fun r => r.2.1)
  ct : ListOf 1 intV h c vC (st.rows.map fun r => r.2.2)
  lq : q < c
  nq : ∀ n ∈ rowName vB ++ (rowName vP ++ (rowName vS ++ rowName vC)), n ≠ q
  bp : ∀ n ∈ rowName vB, n ∉ rowName vP ++ (rowName vS ++ rowName vC)
  ps : ∀ n ∈ rowName vP, n ∉ rowName vS ++ rowName vC
  sc : ∀ n ∈ rowName vS, n ∉ rowName vC
abbrev rn (q : Nat) (vB vP vS vC : V) : List Nat := q :: (rowName vB ++ (rowName vP ++ (rowName vS ++ rowName vC)))
theorem RefAt.keep {h h' : HH} {c c' q : Nat} {vB vP vS vC : V} {st : St} (r : RefAt h c q vB vP vS vC st) (hc : c ≤ c') (e : ∀ n, n < c → n ∈ rn q vB vP vS vC → MapI.get h' n = MapI.get h n) : RefAt h' c' q vB vP vS vC st :=
  ⟨by rw [e q r.lq (by simp)]; exact r.obj, r.b.keep hc fun n hn hm => e n hn (by simp [hm]), r.pl.keep hc fun n hn hm => e n hn (by simp [hm]), r.sz.keep hc fun n hn hm => e n hn (by simp [hm]), r.ct.keep hc fun n hn hm => e n hn (by simp [hm]), Nat.lt_of_lt_of_le r.lq hc, r.nq, r.bp, r.ps, r.sc⟩
theorem RefAt.names {h : HH} {c q : Nat} {vB vP vS vC : V} {st : St} (r : RefAt h c q vB vP vS vC st) : ∀ n ∈ rn q vB vP vS vC, n < c := fun n hn => by
  simp only [List.mem_cons, List.mem_append] at hn
  rcases hn with rfl | hn | hn | hn | hn
  · exact r.lq
  · exact r.b.lt n hn
  · exact r.pl.lt n hn
  · exact r.sz.lt n hn
  · exact r.ct.lt n hn

theorem rnew_ok {h : HH} {c : Nat} {most : Int} : Does 74 [I most] h c [] fun v h' c' => v = .ptr (some (c, 0)) ∧ c' = c + 1 ∧ RefAt h' c' c (.slice none 0 (.known 0)) (.slice none 0 (.known 0)) (.slice none 0 (.known 0)) (.slice none 0 (.known 0)) ⟨[], if most < 0 ∨ most > 1048576 then 0 else most, [], 0⟩ := by
  refine does_of (enter (fn := Try.f74) Try.func74 rfl rfl (Nat.le_of_ble_eq_true rfl) ?_)
  have fin : ∀ {x : Int}, RefAt (MapI.set h c (.cells true true [.slice none 0 (.known 0), I x, .slice none 0 (.known 0), .slice none 0 (.known 0), .slice none 0 (.known 0)])) (c + 1) c (.slice none 0 (.known 0)) (.slice none 0 (.known 0)) (.slice none 0 (.known 0)) (.slice none 0 (.known 0)) ⟨[], x, [], 0⟩ := fun {x} =>
    ⟨MapI.get_same _ _ _, .nil, .nil, .nil, .nil, Nat.lt_succ_self _, fun n hn => (by simp [rowName] at hn), fun n hn => (by cases hn), fun n hn => (by cases hn), fun n hn => (by cases hn)⟩
  by_cases h1 : most < 0
  · have e1 : decide (most < 0) = true := by simpa using h1
    repeat' (first
      | refine WpC.seq ?_
      | refine WpC.region ?_
      | refine WpC.drawn ?_
      | refine WpC.skip ?_
      | refine WpC.block ?_
      | refine WpC.exit ?_
      | refine WpC.ret ?_
      | refine WpO.nil ?_
      | refine WpO.cons rfl rfl (WpX.pure (fun _ => rfl) ⟨nolog, ?_⟩)
      | refine WpO.skip rfl rfl ?_
      | refine WpL.cons rfl rfl (WpX.pure (fun _ => rfl) ⟨nolog, ?_⟩)
      | refine WpL.skip rfl rfl ?_
      | refine seqQ_normal ?_
      | refine seqQ_ret ?_
      | refine seqQ_exit ?_
      | refine blkQ_normal ?_
      | refine blkQ_ret ?_
      | refine blkQ_out rfl ?_
      | refine blkQ_by rfl ?_)
    simp only [e1]
    repeat' (first
      | refine WpC.seq ?_
      | refine WpC.region ?_
      | refine WpC.drawn ?_
      | refine WpC.skip ?_
      | refine WpC.block ?_
      | refine WpC.exit ?_
      | refine WpC.ret ?_
      | refine WpO.nil ?_
      | refine WpO.cons rfl rfl (WpX.pure (fun _ => rfl) ⟨nolog, ?_⟩)
      | refine WpO.skip rfl rfl ?_
      | refine WpL.cons rfl rfl (WpX.pure (fun _ => rfl) ⟨nolog, ?_⟩)
      | refine WpL.skip rfl rfl ?_
      | refine seqQ_normal ?_
      | refine seqQ_ret ?_
      | refine seqQ_exit ?_
      | refine blkQ_normal ?_
      | refine blkQ_ret ?_
      | refine blkQ_out rfl ?_
      | refine blkQ_by rfl ?_)
    refine WpC.cond rfl (fun _ => ?_) (fun hb => by cases hb)
    repeat' (first
      | refine WpC.seq ?_
      | refine WpC.region ?_
      | refine WpC.drawn ?_
      | refine WpC.skip ?_
      | refine WpC.block ?_
      | refine WpC.exit ?_
      | refine WpC.ret ?_
      | refine WpO.nil ?_
      | refine WpO.cons rfl rfl (WpX.pure (fun _ => rfl) ⟨nolog, ?_⟩)
      | refine WpO.skip rfl rfl ?_
      | refine WpL.cons rfl rfl (WpX.pure (fun _ => rfl) ⟨nolog, ?_⟩)
      | refine WpL.skip rfl rfl ?_
      | refine seqQ_normal ?_
      | refine seqQ_ret ?_
      | refine seqQ_exit ?_
      | refine blkQ_normal ?_
      | refine blkQ_ret ?_
      | refine blkQ_out rfl ?_
      | refine blkQ_by rfl ?_
      | refine WpO.cons rfl rfl (op_box rfl ⟨(by simp [InL, Acc.name, rowName] <;> omega), ?_⟩)
      | refine WpL.cons rfl rfl (op_box rfl ⟨(by simp [InL, Acc.name, rowName] <;> omega), ?_⟩))
    rw [if_pos (.inl h1)]
    exact out_ret rfl ⟨rfl, rfl, fin⟩
  have e1 : decide (most < 0) = false := by simpa using h1
  by_cases h2 : most > 1048576
  · have e2 : decide (most > 1048576) = true := by simpa using h2
    repeat' (first
      | refine WpC.seq ?_
      | refine WpC.region ?_
      | refine WpC.drawn ?_
      | refine WpC.skip ?_
      | refine WpC.block ?_
      | refine WpC.exit ?_
      | refine WpC.ret ?_
      | refine WpO.nil ?_
      | refine WpO.cons rfl rfl (WpX.pure (fun _ => rfl) ⟨nolog, ?_⟩)
      | refine WpO.skip rfl rfl ?_
      | refine WpL.cons rfl rfl (WpX.pure (fun _ => rfl) ⟨nolog, ?_⟩)
      | refine WpL.skip rfl rfl ?_
      | refine seqQ_normal ?_
      | refine seqQ_ret ?_
      | refine seqQ_exit ?_
      | refine blkQ_normal ?_
      | refine blkQ_ret ?_
      | refine blkQ_out rfl ?_
      | refine blkQ_by rfl ?_)
    simp only [e1]
    repeat' (first
      | refine WpC.seq ?_
      | refine WpC.region ?_
      | refine WpC.drawn ?_
      | refine WpC.skip ?_
      | refine WpC.block ?_
      | refine WpC.exit ?_
      | refine WpC.ret ?_
      | refine WpO.nil ?_
      | refine WpO.cons rfl rfl (WpX.pure (fun _ => rfl) ⟨nolog, ?_⟩)
      | refine WpO.skip rfl rfl ?_
      | refine WpL.cons rfl rfl (WpX.pure (fun _ => rfl) ⟨nolog, ?_⟩)
      | refine WpL.skip rfl rfl ?_
      | refine seqQ_normal ?_
      | refine seqQ_ret ?_
      | refine seqQ_exit ?_
      | refine blkQ_normal ?_
      | refine blkQ_ret ?_
      | refine blkQ_out rfl ?_
      | refine blkQ_by rfl ?_)
    refine WpC.cond rfl (fun _ => ?_) (fun hb => by rw [e2] at hb; cases hb)
    repeat' (first
      | refine WpC.seq ?_
      | refine WpC.region ?_
      | refine WpC.drawn ?_
      | refine WpC.skip ?_
      | refine WpC.block ?_
      | refine WpC.exit ?_
      | refine WpC.ret ?_
      | refine WpO.nil ?_
      | refine WpO.cons rfl rfl (WpX.pure (fun _ => rfl) ⟨nolog, ?_⟩)
      | refine WpO.skip rfl rfl ?_
      | refine WpL.cons rfl rfl (WpX.pure (fun _ => rfl) ⟨nolog, ?_⟩)
      | refine WpL.skip rfl rfl ?_
      | refine seqQ_normal ?_
      | refine seqQ_ret ?_
      | refine seqQ_exit ?_
      | refine blkQ_normal ?_
      | refine blkQ_ret ?_
      | refine blkQ_out rfl ?_
      | refine blkQ_by rfl ?_
      | refine WpO.cons rfl rfl (op_box rfl ⟨(by simp [InL, Acc.name, rowName] <;> omega), ?_⟩)
      | refine WpL.cons rfl rfl (op_box rfl ⟨(by simp [InL, Acc.name, rowName] <;> omega), ?_⟩))
    rw [if_pos (.inr h2)]
    exact out_ret rfl ⟨rfl, rfl, fin⟩
  have e2 : decide (most > 1048576) = false := by simpa using h2
  repeat' (first
    | refine WpC.seq ?_
    | refine WpC.region ?_
    | refine WpC.drawn ?_
    | refine WpC.skip ?_
    | refine WpC.block ?_
    | refine WpC.exit ?_
    | refine WpC.ret ?_
    | refine WpO.nil ?_
    | refine WpO.cons rfl rfl (WpX.pure (fun _ => rfl) ⟨nolog, ?_⟩)
    | refine WpO.skip rfl rfl ?_
    | refine WpL.cons rfl rfl (WpX.pure (fun _ => rfl) ⟨nolog, ?_⟩)
    | refine WpL.skip rfl rfl ?_
    | refine seqQ_normal ?_
    | refine seqQ_ret ?_
    | refine seqQ_exit ?_
    | refine blkQ_normal ?_
    | refine blkQ_ret ?_
    | refine blkQ_out rfl ?_
    | refine blkQ_by rfl ?_)
  simp only [e1]
  repeat' (first
    | refine WpC.seq ?_
    | refine WpC.region ?_
    | refine WpC.drawn ?_
    | refine WpC.skip ?_
    | refine WpC.block ?_
    | refine WpC.exit ?_
    | refine WpC.ret ?_
    | refine WpO.nil ?_
    | refine WpO.cons rfl rfl (WpX.pure (fun _ => rfl) ⟨nolog, ?_⟩)
    | refine WpO.skip rfl rfl ?_
    | refine WpL.cons rfl rfl (WpX.pure (fun _ => rfl) ⟨nolog, ?_⟩)
    | refine WpL.skip rfl rfl ?_
    | refine seqQ_normal ?_
    | refine seqQ_ret ?_
    | refine seqQ_exit ?_
    | refine blkQ_normal ?_
    | refine blkQ_ret ?_
    | refine blkQ_out rfl ?_
    | refine blkQ_by rfl ?_)
  refine WpC.cond rfl (fun hb => by rw [e2] at hb; cases hb) (fun _ => ?_)
  repeat' (first
    | refine WpC.seq ?_
    | refine WpC.region ?_
    | refine WpC.drawn ?_
    | refine WpC.skip ?_
    | refine WpC.block ?_
    | refine WpC.exit ?_
    | refine WpC.ret ?_
    | refine WpO.nil ?_
    | refine WpO.cons rfl rfl (WpX.pure (fun _ => rfl) ⟨nolog, ?_⟩)
    | refine WpO.skip rfl rfl ?_
    | refine WpL.cons rfl rfl (WpX.pure (fun _ => rfl) ⟨nolog, ?_⟩)
    | refine WpL.skip rfl rfl ?_
    | refine seqQ_normal ?_
    | refine seqQ_ret ?_
    | refine seqQ_exit ?_
    | refine blkQ_normal ?_
    | refine blkQ_ret ?_
    | refine blkQ_out rfl ?_
    | refine blkQ_by rfl ?_
    | refine WpO.cons rfl rfl (op_box rfl ⟨(by simp [InL, Acc.name, rowName] <;> omega), ?_⟩)
    | refine WpL.cons rfl rfl (op_box rfl ⟨(by simp [InL, Acc.name, rowName] <;> omega), ?_⟩))
  rw [if_neg (by omega)]
  exact out_ret rfl ⟨rfl, rfl, fin⟩

/-- there: is a handle held? -/
theorem there_ok {h : HH} {c q : Nat} {vB vP vS vC : V} {st : St} {hd : Int} (r : RefAt h c q vB vP vS vC st) (hlen : st.rows.length ≤ 1000) :
    Does 121 [.ptr (some (q, 0)), I hd] h c (rn q vB vP vS vC) fun v h' c' => h' = h ∧ c' = c ∧
      ((∃ (i : Nat) (x : R3), hd = i + 1 ∧ st.rows[i]? = some x ∧ x.2.2 > 0 ∧ v = .bool true) ∨ ((∀ (i : Nat) (x : R3), hd = i + 1 → st.rows[i]? = some x → ¬ x.2.2 > 0) ∧ v = .bool false)) := by
  have hobj := r.obj
  obtain ⟨s, cap, rfl, hs⟩ := r.ct.shapeN (List.length_map _)
  refine does_of (enter (fn := Try.f121) Try.func121 rfl rfl (Nat.le_of_ble_eq_true rfl) ?_)
  by_cases h1 : hd ≥ 1
  case neg =>
    have e1 : decide (hd ≥ 1) = false := by simpa using h1
    repeat' (first
      | refine WpC.seq ?_
      | refine WpC.region ?_
      | refine WpC.drawn ?_
      | refine WpC.skip ?_
      | refine WpC.block ?_
      | refine WpC.exit ?_
      | refine WpC.ret ?_
      | refine WpO.nil ?_
      | refine WpO.cons rfl rfl (WpX.pure (fun _ => rfl) ⟨nolog, ?_⟩)
      | refine WpO.skip rfl rfl ?_
      | refine WpL.cons rfl rfl (WpX.pure (fun _ => rfl) ⟨nolog, ?_⟩)
      | refine WpL.skip rfl rfl ?_
      | refine seqQ_normal ?_
      | refine seqQ_ret ?_
      | refine seqQ_exit ?_
      | refine blkQ_normal ?_
      | refine blkQ_ret ?_
      | refine blkQ_out rfl ?_
      | refine blkQ_by rfl ?_)
    simp only [e1]
    repeat' (first
      | refine WpC.seq ?_
      | refine WpC.region ?_
      | refine WpC.drawn ?_
      | refine WpC.skip ?_
      | refine WpC.block ?_
      | refine WpC.exit ?_
      | refine WpC.ret ?_
      | refine WpO.nil ?_
      | refine WpO.cons rfl rfl (WpX.pure (fun _ => rfl) ⟨nolog, ?_⟩)
      | refine WpO.skip rfl rfl ?_
      | refine WpL.cons rfl rfl (WpX.pure (fun _ => rfl) ⟨nolog, ?_⟩)
      | refine WpL.skip rfl rfl ?_
      | refine seqQ_normal ?_
      | refine seqQ_ret ?_
      | refine seqQ_exit ?_
      | refine blkQ_normal ?_
      | refine blkQ_ret ?_
      | refine blkQ_out rfl ?_
      | refine blkQ_by rfl ?_)
    exact out_ret rfl ⟨rfl, rfl, .inr ⟨fun i x e _ => by omega, rfl⟩⟩
  have e1 : decide (hd ≥ 1) = true := by simpa using h1
  by_cases h2 : hd ≤ (st.rows.length : Int)
  case neg =>
    have e2 : decide (hd ≤ (st.rows.length : Int)) = false := by simpa using h2
    repeat' (first
      | refine WpC.seq ?_
      | refine WpC.region ?_
      | refine WpC.drawn ?_
      | refine WpC.skip ?_
      | refine WpC.block ?_
      | refine WpC.exit ?_
      | refine WpC.ret ?_
      | refine WpO.nil ?_
      | refine WpO.cons rfl rfl (WpX.pure (fun _ => rfl) ⟨nolog, ?_⟩)
      | refine WpO.skip rfl rfl ?_
      | refine WpL.cons rfl rfl (WpX.pure (fun _ => rfl) ⟨nolog, ?_⟩)
      | refine WpL.skip rfl rfl ?_
      | refine seqQ_normal ?_
      | refine seqQ_ret ?_
      | refine seqQ_exit ?_
      | refine blkQ_normal ?_
      | refine blkQ_ret ?_
      | refine blkQ_out rfl ?_
      | refine blkQ_by rfl ?_)
    simp only [e1]
    repeat' (first
      | refine WpC.seq ?_
      | refine WpC.region ?_
      | refine WpC.drawn ?_
      | refine WpC.skip ?_
      | refine WpC.block ?_
      | refine WpC.exit ?_
      | refine WpC.ret ?_
      | refine WpO.nil ?_
      | refine WpO.cons rfl rfl (WpX.pure (fun _ => rfl) ⟨nolog, ?_⟩)
      | refine WpO.skip rfl rfl ?_
      | refine WpL.cons rfl rfl (WpX.pure (fun _ => rfl) ⟨nolog, ?_⟩)
      | refine WpL.skip rfl rfl ?_
      | refine seqQ_normal ?_
      | refine seqQ_ret ?_
      | refine seqQ_exit ?_
      | refine blkQ_normal ?_
      | refine blkQ_ret ?_
      | refine blkQ_out rfl ?_
      | refine blkQ_by rfl ?_
      | refine WpO.cons rfl rfl (op_load rfl rfl rfl hobj rfl ⟨(by simp [InL, Acc.name, rowName] <;> omega), ?_⟩)
      | refine WpL.cons rfl rfl (op_load rfl rfl rfl hobj rfl ⟨(by simp [InL, Acc.name, rowName] <;> omega), ?_⟩)
      | refine WpO.cons rfl rfl (op_len rfl rfl rfl ⟨(by simp [InL, Acc.name, rowName] <;> omega), ?_⟩)
      | refine WpL.cons rfl rfl (op_len rfl rfl rfl ⟨(by simp [InL, Acc.name, rowName] <;> omega), ?_⟩))
    simp only [e2]
    repeat' (first
      | refine WpC.seq ?_
      | refine WpC.region ?_
      | refine WpC.drawn ?_
      | refine WpC.skip ?_
      | refine WpC.block ?_
      | refine WpC.exit ?_
      | refine WpC.ret ?_
      | refine WpO.nil ?_
      | refine WpO.cons rfl rfl (WpX.pure (fun _ => rfl) ⟨nolog, ?_⟩)
      | refine WpO.skip rfl rfl ?_
      | refine WpL.cons rfl rfl (WpX.pure (fun _ => rfl) ⟨nolog, ?_⟩)
      | refine WpL.skip rfl rfl ?_
      | refine seqQ_normal ?_
      | refine seqQ_ret ?_
      | refine seqQ_exit ?_
      | refine blkQ_normal ?_
      | refine blkQ_ret ?_
      | refine blkQ_out rfl ?_
      | refine blkQ_by rfl ?_)
    exact out_ret rfl ⟨rfl, rfl, .inr ⟨fun i x e hx => by have := (List.getElem?_eq_some_iff.1 hx).1; omega, rfl⟩⟩
  have e2 : decide (hd ≤ (st.rows.length : Int)) = true := by simpa using h2
  obtain ⟨i, rfl⟩ : ∃ i : Nat, hd = i + 1 := ⟨(hd - 1).toNat, by omega⟩
  have hi : i < st.rows.length := by omega
  obtain ⟨rfl, sn, cl, junk, rfl, hsn, hg, hj⟩ := hs i hi
  obtain ⟨x, hx⟩ : ∃ x, st.rows[i]? = some x := ⟨_, List.getElem?_eq_getElem hi⟩
  have hxc : (st.rows.map fun r => r.2.2)[i]? = some x.2.2 := by rw [List.getElem?_map, hx]; rfl
  have hw : IntKind.i64.wrap ((i : Int) + 1 - 1) = (i : Int) := by rw [Go.IntWalk.i64_in _ (by omega)]; omega
  have hz : nth (flat intV (st.rows.map fun r => r.2.2) ++ junk) (0 + (IntKind.i64.wrap ((i : Int) + 1 - 1)).toNat * 1) = some (I x.2.2) := by
    rw [hw, show 0 + ((i : Nat) : Int).toNat * 1 = i from by simp]; exact nthI hxc junk
  repeat' (first
    | refine WpC.seq ?_
    | refine WpC.region ?_
    | refine WpC.drawn ?_
    | refine WpC.skip ?_
    | refine WpC.block ?_
    | refine WpC.exit ?_
    | refine WpC.ret ?_
    | refine WpO.nil ?_
    | refine WpO.cons rfl rfl (WpX.pure (fun _ => rfl) ⟨nolog, ?_⟩)
    | refine WpO.skip rfl rfl ?_
    | refine WpL.cons rfl rfl (WpX.pure (fun _ => rfl) ⟨nolog, ?_⟩)
    | refine WpL.skip rfl rfl ?_
    | refine seqQ_normal ?_
    | refine seqQ_ret ?_
    | refine seqQ_exit ?_
    | refine blkQ_normal ?_
    | refine blkQ_ret ?_
    | refine blkQ_out rfl ?_
    | refine blkQ_by rfl ?_)
  simp only [e1]
  repeat' (first
    | refine WpC.seq ?_
    | refine WpC.region ?_
    | refine WpC.drawn ?_
    | refine WpC.skip ?_
    | refine WpC.block ?_
    | refine WpC.exit ?_
    | refine WpC.ret ?_
    | refine WpO.nil ?_
    | refine WpO.cons rfl rfl (WpX.pure (fun _ => rfl) ⟨nolog, ?_⟩)
    | refine WpO.skip rfl rfl ?_
    | refine WpL.cons rfl rfl (WpX.pure (fun _ => rfl) ⟨nolog, ?_⟩)
    | refine WpL.skip rfl rfl ?_
    | refine seqQ_normal ?_
    | refine seqQ_ret ?_
    | refine seqQ_exit ?_
    | refine blkQ_normal ?_
    | refine blkQ_ret ?_
    | refine blkQ_out rfl ?_
    | refine blkQ_by rfl ?_
    | refine WpO.cons rfl rfl (op_load rfl rfl rfl hobj rfl ⟨(by simp [InL, Acc.name, rowName] <;> omega), ?_⟩)
    | refine WpL.cons rfl rfl (op_load rfl rfl rfl hobj rfl ⟨(by simp [InL, Acc.name, rowName] <;> omega), ?_⟩)
    | refine WpO.cons rfl rfl (op_len rfl rfl rfl ⟨(by simp [InL, Acc.name, rowName] <;> omega), ?_⟩)
    | refine WpL.cons rfl rfl (op_len rfl rfl rfl ⟨(by simp [InL, Acc.name, rowName] <;> omega), ?_⟩))
  simp only [e2]
  repeat' (first
    | refine WpC.seq ?_
    | refine WpC.region ?_
    | refine WpC.drawn ?_
    | refine WpC.skip ?_
    | refine WpC.block ?_
    | refine WpC.exit ?_
    | refine WpC.ret ?_
    | refine WpO.nil ?_
    | refine WpO.cons rfl rfl (WpX.pure (fun _ => rfl) ⟨nolog, ?_⟩)
    | refine WpO.skip rfl rfl ?_
    | refine WpL.cons rfl rfl (WpX.pure (fun _ => rfl) ⟨nolog, ?_⟩)
    | refine WpL.skip rfl rfl ?_
    | refine seqQ_normal ?_
    | refine seqQ_ret ?_
    | refine seqQ_exit ?_
    | refine blkQ_normal ?_
    | refine blkQ_ret ?_
    | refine blkQ_out rfl ?_
    | refine blkQ_by rfl ?_
    | refine WpO.cons rfl rfl (op_load rfl rfl rfl hobj rfl ⟨(by simp [InL, Acc.name, rowName] <;> omega), ?_⟩)
    | refine WpL.cons rfl rfl (op_load rfl rfl rfl hobj rfl ⟨(by simp [InL, Acc.name, rowName] <;> omega), ?_⟩)
    | refine WpO.cons rfl rfl (op_indexAddr (k := 1) rfl rfl rfl rfl ⟨by omega, by omega⟩ ⟨(by simp [InL, Acc.name, rowName] <;> omega), ?_⟩)
    | refine WpL.cons rfl rfl (op_indexAddr (k := 1) rfl rfl rfl rfl ⟨by omega, by omega⟩ ⟨(by simp [InL, Acc.name, rowName] <;> omega), ?_⟩)
    | refine WpO.cons rfl rfl (op_load rfl rfl rfl hg hz ⟨(by simp [InL, Acc.name, rowName] <;> omega), ?_⟩)
    | refine WpL.cons rfl rfl (op_load rfl rfl rfl hg hz ⟨(by simp [InL, Acc.name, rowName] <;> omega), ?_⟩))
  refine out_ret rfl ⟨rfl, rfl, ?_⟩
  by_cases h3 : x.2.2 > 0
  · exact .inl ⟨i, x, rfl, hx, h3, by show V.bool (decide (x.2.2 > 0)) = _; rw [decide_eq_true h3]⟩
  · refine .inr ⟨fun j y e hy => ?_, by show V.bool (decide (x.2.2 > 0)) = _; rw [decide_eq_false h3]⟩
    have : j = i := by omega
    subst this
    rw [hx] at hy; cases hy; exact h3

theorem rcount_ok {h : HH} {c q : Nat} {vB vP vS vC : V} {st : St} {hd : Int} (r : RefAt h c q vB vP vS vC st) (hlen : st.rows.length ≤ 1000) :
    Does 83 [.ptr (some (q, 0)), I hd] h c (rn q vB vP vS vC) fun v h' c' => h' = h ∧ c' = c ∧
      ((∃ (i : Nat) (x : R3), hd = i + 1 ∧ st.rows[i]? = some x ∧ x.2.2 > 0 ∧ v = I x.2.2) ∨ ((∀ (i : Nat) (x : R3), hd = i + 1 → st.rows[i]? = some x → ¬ x.2.2 > 0) ∧ v = I 0)) := by
  refine does_of (enter (fn := Try.f83) Try.func83 rfl rfl (Nat.le_of_ble_eq_true rfl) ?_)
  repeat' (first
    | refine WpC.seq ?_
    | refine WpC.region ?_
    | refine WpC.drawn ?_
    | refine WpC.skip ?_
    | refine WpC.block ?_
    | refine WpC.exit ?_
    | refine WpC.ret ?_
    | refine WpO.nil ?_
    | refine WpO.cons rfl rfl (WpX.pure (fun _ => rfl) ⟨nolog, ?_⟩)
    | refine WpO.skip rfl rfl ?_
    | refine WpL.cons rfl rfl (WpX.pure (fun _ => rfl) ⟨nolog, ?_⟩)
    | refine WpL.skip rfl rfl ?_
    | refine seqQ_normal ?_
    | refine seqQ_ret ?_
    | refine seqQ_exit ?_
    | refine blkQ_normal ?_
    | refine blkQ_ret ?_
    | refine blkQ_out rfl ?_
    | refine blkQ_by rfl ?_)
  refine WpO.cons rfl rfl (call_at rfl (there_ok r hlen) (fun n hn => .inl hn) (Nat.le_refl _) fun v h4 c4 hc4 hfr4 hq => ?_)
  obtain ⟨rfl, rfl, hq⟩ := hq
  rcases hq with ⟨i, x, rfl, hx, h3, rfl⟩ | ⟨hno, rfl⟩
  case inr =>
    repeat' (first
      | refine WpC.seq ?_
      | refine WpC.region ?_
      | refine WpC.drawn ?_
      | refine WpC.skip ?_
      | refine WpC.block ?_
      | refine WpC.exit ?_
      | refine WpC.ret ?_
      | refine WpO.nil ?_
      | refine WpO.cons rfl rfl (WpX.pure (fun _ => rfl) ⟨nolog, ?_⟩)
      | refine WpO.skip rfl rfl ?_
      | refine WpL.cons rfl rfl (WpX.pure (fun _ => rfl) ⟨nolog, ?_⟩)
      | refine WpL.skip rfl rfl ?_
      | refine seqQ_normal ?_
      | refine seqQ_ret ?_
      | refine seqQ_exit ?_
      | refine blkQ_normal ?_
      | refine blkQ_ret ?_
      | refine blkQ_out rfl ?_
      | refine blkQ_by rfl ?_)
    refine WpC.cond rfl (fun _ => ?_) (fun hb => by cases hb)
    repeat' (first
      | refine WpC.seq ?_
      | refine WpC.region ?_
      | refine WpC.drawn ?_
      | refine WpC.skip ?_
      | refine WpC.block ?_
      | refine WpC.exit ?_
      | refine WpC.ret ?_
      | refine WpO.nil ?_
      | refine WpO.cons rfl rfl (WpX.pure (fun _ => rfl) ⟨nolog, ?_⟩)
      | refine WpO.skip rfl rfl ?_
      | refine WpL.cons rfl rfl (WpX.pure (fun _ => rfl) ⟨nolog, ?_⟩)
      | refine WpL.skip rfl rfl ?_
      | refine seqQ_normal ?_
      | refine seqQ_ret ?_
      | refine seqQ_exit ?_
      | refine blkQ_normal ?_
      | refine blkQ_ret ?_
      | refine blkQ_out rfl ?_
      | refine blkQ_by rfl ?_)
    exact out_ret rfl ⟨rfl, rfl, .inr ⟨hno, rfl⟩⟩
  have hobj := r.obj
  have hi := (List.getElem?_eq_some_iff.1 hx).1
  obtain ⟨s, cap, rfl, hs⟩ := r.ct.shapeN (List.length_map _)
  obtain ⟨rfl, sn, cl, junk, rfl, hsn, hg, hj⟩ := hs i hi
  have hxc : (st.rows.map fun r => r.2.2)[i]? = some x.2.2 := by rw [List.getElem?_map, hx]; rfl
  have hw : IntKind.i64.wrap ((i : Int) + 1 - 1) = (i : Int) := by rw [Go.IntWalk.i64_in _ (by omega)]; omega
  have hz : nth (flat intV (st.rows.map fun r => r.2.2) ++ junk) (0 + (IntKind.i64.wrap ((i : Int) + 1 - 1)).toNat * 1) = some (I x.2.2) := by
    rw [hw, show 0 + ((i : Nat) : Int).toNat * 1 = i from by simp]; exact nthI hxc junk
  repeat' (first
    | refine WpC.seq ?_
    | refine WpC.region ?_
    | refine WpC.drawn ?_
    | refine WpC.skip ?_
    | refine WpC.block ?_
    | refine WpC.exit ?_
    | refine WpC.ret ?_
    | refine WpO.nil ?_
    | refine WpO.cons rfl rfl (WpX.pure (fun _ => rfl) ⟨nolog, ?_⟩)
    | refine WpO.skip rfl rfl ?_
    | refine WpL.cons rfl rfl (WpX.pure (fun _ => rfl) ⟨nolog, ?_⟩)
    | refine WpL.skip rfl rfl ?_
    | refine seqQ_normal ?_
    | refine seqQ_ret ?_
    | refine seqQ_exit ?_
    | refine blkQ_normal ?_
    | refine blkQ_ret ?_
    | refine blkQ_out rfl ?_
    | refine blkQ_by rfl ?_)
  refine WpC.cond rfl (fun hb => by cases hb) (fun _ => ?_)
  repeat' (first
    | refine WpC.seq ?_
    | refine WpC.region ?_
    | refine WpC.drawn ?_
    | refine WpC.skip ?_
    | refine WpC.block ?_
    | refine WpC.exit ?_
    | refine WpC.ret ?_
    | refine WpO.nil ?_
    | refine WpO.cons rfl rfl (WpX.pure (fun _ => rfl) ⟨nolog, ?_⟩)
    | refine WpO.skip rfl rfl ?_
    | refine WpL.cons rfl rfl (WpX.pure (fun _ => rfl) ⟨nolog, ?_⟩)
    | refine WpL.skip rfl rfl ?_
    | refine seqQ_normal ?_
    | refine seqQ_ret ?_
    | refine seqQ_exit ?_
    | refine blkQ_normal ?_
    | refine blkQ_ret ?_
    | refine blkQ_out rfl ?_
    | refine blkQ_by rfl ?_
    | refine WpO.cons rfl rfl (op_load rfl rfl rfl hobj rfl ⟨(by simp [InL, Acc.name, rowName] <;> omega), ?_⟩)
    | refine WpL.cons rfl rfl (op_load rfl rfl rfl hobj rfl ⟨(by simp [InL, Acc.name, rowName] <;> omega), ?_⟩)
    | refine WpO.cons rfl rfl (op_indexAddr (k := 1) rfl rfl rfl rfl ⟨by omega, by omega⟩ ⟨(by simp [InL, Acc.name, rowName] <;> omega), ?_⟩)
    | refine WpL.cons rfl rfl (op_indexAddr (k := 1) rfl rfl rfl rfl ⟨by omega, by omega⟩ ⟨(by simp [InL, Acc.name, rowName] <;> omega), ?_⟩)
    | refine WpO.cons rfl rfl (op_load rfl rfl rfl hg hz ⟨(by simp [InL, Acc.name, rowName] <;> omega), ?_⟩)
    | refine WpL.cons rfl rfl (op_load rfl rfl rfl hg hz ⟨(by simp [InL, Acc.name, rowName] <;> omega), ?_⟩))
  exact out_ret rfl ⟨rfl, rfl, .inl ⟨i, x, rfl, hx, h3, rfl⟩⟩

theorem map_keep {f : R3 → Int} : ∀ {rows : List R3} {i : Nat} {x y : R3}, rows[i]? = some x → f y = f x → (rows.set i y).map f = rows.map f
  | [], _, _, _, h, _ => by simp at h
  | z :: rows, 0, x, y, h, e => by simp at h; subst h; simp [e]
  | z :: rows, i + 1, x, y, h, e => by
    have := map_keep (rows := rows) (i := i) (x := x) (y := y) (by simpa using h) e
    simp [this]
theorem map_pl {rows : List R3} {i : Nat} {x : R3} {b c : Int} (h : rows[i]? = some x) : (rows.set i (x.1, b, c)).map (fun r => r.1) = rows.map fun r => r.1 := map_keep (f := fun r => r.1) h rfl
theorem map_sz {rows : List R3} {i : Nat} {x : R3} {a c : Int} (h : rows[i]? = some x) : (rows.set i (a, x.2.1, c)).map (fun r => r.2.1) = rows.map fun r => r.2.1 := map_keep (f := fun r => r.2.1) h rfl
theorem map_ct {rows : List R3} {i : Nat} {x : R3} {a b : Int} (h : rows[i]? = some x) : (rows.set i (a, b, x.2.2)).map (fun r => r.2.2) = rows.map fun r => r.2.2 := map_keep (f := fun r => r.2.2) h rfl
/-- A count is written anew. -/
theorem RefAt.setCount {h : HH} {c q sn i : Nat} {vB vP vS : V} {st : St} {cl : Bool} {junk : List V} {x : R3} {z : Int} (r : RefAt h c q vB vP vS (.slice (some (sn, 0)) st.rows.length (.upTo 1)) st) (hsn : sn < c) (hj : junk.all one1 = true) (hx : st.rows[i]? = some x) :
    RefAt (MapI.set h sn (.cells true cl (setAll (flat intV (st.rows.map fun r => r.2.2) ++ junk) i [I z]))) c q vB vP vS (.slice (some (sn, 0)) st.rows.length (.upTo 1)) { st with rows := st.rows.set i (x.1, x.2.1, z) } := by
  have hi := (List.getElem?_eq_some_iff.1 hx).1
  have hm : sn ∈ rowName (.slice (some (sn, 0)) st.rows.length (.upTo 1)) := by simp [rowName]
  refine ⟨by rw [MapI.get_ne _ _ _ _ (r.nq sn (by simp [rowName]))]; exact r.obj,
    r.b.keep (Nat.le_refl _) fun n hn hx => MapI.get_ne _ _ _ _ fun e => r.bp n hx (by rw [← e]; simp [rowName]), ?_, ?_, ?_, r.lq, r.nq, r.bp, r.ps, r.sc⟩
  · show ListOf 1 intV _ c vP ((st.rows.set i (x.1, x.2.1, z)).map fun r => r.1)
    rw [map_pl hx]
    exact r.pl.keep (Nat.le_refl _) fun n hn hx => MapI.get_ne _ _ _ _ fun e => r.ps n hx (by rw [← e]; simp [rowName])
  · show ListOf 1 intV _ c vS ((st.rows.set i (x.1, x.2.1, z)).map fun r => r.2.1)
    rw [map_sz hx]
    exact r.sz.keep (Nat.le_refl _) fun n hn hx => MapI.get_ne _ _ _ _ fun e => r.sc n hx (by rw [← e]; simp [rowName])
  · refine .inr ⟨sn, cl, junk, by simp, hsn, ?_, hj⟩
    rw [MapI.get_same, set_int (by rw [List.length_map]; exact hi)]
    simp only [List.map_set]

theorem rhold_ok {h : HH} {c q : Nat} {vB vP vS vC : V} {st : St} {hd : Int} (r : RefAt h c q vB vP vS vC st) (hlen : st.rows.length ≤ 1000) :
    Does 77 [.ptr (some (q, 0)), I hd] h c (rn q vB vP vS vC) fun v h' c' => c' = c ∧
      ((∃ (i : Nat) (x : R3), hd = i + 1 ∧ st.rows[i]? = some x ∧ x.2.2 > 0 ∧ v = .bool true ∧ RefAt h' c q vB vP vS vC { st with rows := st.rows.set i (x.1, x.2.1, IntKind.i64.wrap (x.2.2 + 1)) }) ∨
       ((∀ (i : Nat) (x : R3), hd = i + 1 → st.rows[i]? = some x → ¬ x.2.2 > 0) ∧ v = .bool false ∧ h' = h)) := by
  refine does_of (enter (fn := Try.f77) Try.func77 rfl rfl (Nat.le_of_ble_eq_true rfl) ?_)
  repeat' (first
    | refine WpC.seq ?_
    | refine WpC.region ?_
    | refine WpC.drawn ?_
    | refine WpC.skip ?_
    | refine WpC.block ?_
    | refine WpC.exit ?_
    | refine WpC.ret ?_
    | refine WpO.nil ?_
    | refine WpO.cons rfl rfl (WpX.pure (fun _ => rfl) ⟨nolog, ?_⟩)
    | refine WpO.skip rfl rfl ?_
    | refine WpL.cons rfl rfl (WpX.pure (fun _ => rfl) ⟨nolog, ?_⟩)
    | refine WpL.skip rfl rfl ?_
    | refine seqQ_normal ?_
    | refine seqQ_ret ?_
    | refine seqQ_exit ?_
    | refine blkQ_normal ?_
    | refine blkQ_ret ?_
    | refine blkQ_out rfl ?_
    | refine blkQ_by rfl ?_)
  refine WpO.cons rfl rfl (call_at rfl (there_ok r hlen) (fun n hn => .inl hn) (Nat.le_refl _) fun v h4 c4 hc4 hfr4 hq => ?_)
  obtain ⟨rfl, rfl, hq⟩ := hq
  rcases hq with ⟨i, x, rfl, hx, h3, rfl⟩ | ⟨hno, rfl⟩
  case inr =>
    repeat' (first
      | refine WpC.seq ?_
      | refine WpC.region ?_
      | refine WpC.drawn ?_
      | refine WpC.skip ?_
      | refine WpC.block ?_
      | refine WpC.exit ?_
      | refine WpC.ret ?_
      | refine WpO.nil ?_
      | refine WpO.cons rfl rfl (WpX.pure (fun _ => rfl) ⟨nolog, ?_⟩)
      | refine WpO.skip rfl rfl ?_
      | refine WpL.cons rfl rfl (WpX.pure (fun _ => rfl) ⟨nolog, ?_⟩)
      | refine WpL.skip rfl rfl ?_
      | refine seqQ_normal ?_
      | refine seqQ_ret ?_
      | refine seqQ_exit ?_
      | refine blkQ_normal ?_
      | refine blkQ_ret ?_
      | refine blkQ_out rfl ?_
      | refine blkQ_by rfl ?_)
    refine WpC.cond rfl (fun _ => ?_) (fun hb => by cases hb)
    repeat' (first
      | refine WpC.seq ?_
      | refine WpC.region ?_
      | refine WpC.drawn ?_
      | refine WpC.skip ?_
      | refine WpC.block ?_
      | refine WpC.exit ?_
      | refine WpC.ret ?_
      | refine WpO.nil ?_
      | refine WpO.cons rfl rfl (WpX.pure (fun _ => rfl) ⟨nolog, ?_⟩)
      | refine WpO.skip rfl rfl ?_
      | refine WpL.cons rfl rfl (WpX.pure (fun _ => rfl) ⟨nolog, ?_⟩)
      | refine WpL.skip rfl rfl ?_
      | refine seqQ_normal ?_
      | refine seqQ_ret ?_
      | refine seqQ_exit ?_
      | refine blkQ_normal ?_
      | refine blkQ_ret ?_
      | refine blkQ_out rfl ?_
      | refine blkQ_by rfl ?_)
    exact out_ret rfl ⟨rfl, .inr ⟨hno, rfl, rfl⟩⟩
  have hobj := r.obj
  have hi := (List.getElem?_eq_some_iff.1 hx).1
  obtain ⟨s, cap, rfl, hs⟩ := r.ct.shapeN (List.length_map _)
  obtain ⟨rfl, sn, cl, junk, rfl, hsn, hg, hj⟩ := hs i hi
  have hxc : (st.rows.map fun r => r.2.2)[i]? = some x.2.2 := by rw [List.getElem?_map, hx]; rfl
  have hw : IntKind.i64.wrap ((i : Int) + 1 - 1) = (i : Int) := by rw [Go.IntWalk.i64_in _ (by omega)]; omega
  have hwo : 0 + (IntKind.i64.wrap ((i : Int) + 1 - 1)).toNat * 1 = i := by rw [hw]; simp
  have hz : nth (flat intV (st.rows.map fun r => r.2.2) ++ junk) (0 + (IntKind.i64.wrap ((i : Int) + 1 - 1)).toNat * 1) = some (I x.2.2) := by
    rw [hwo]; exact nthI hxc junk
  have hfl : 0 + (IntKind.i64.wrap ((i : Int) + 1 - 1)).toNat * 1 + 1 ≤ (flat intV (st.rows.map fun r => r.2.2) ++ junk).length := by
    rw [hwo, List.length_append, flat_length int_len, List.length_map]; omega
  repeat' (first
    | refine WpC.seq ?_
    | refine WpC.region ?_
    | refine WpC.drawn ?_
    | refine WpC.skip ?_
    | refine WpC.block ?_
    | refine WpC.exit ?_
    | refine WpC.ret ?_
    | refine WpO.nil ?_
    | refine WpO.cons rfl rfl (WpX.pure (fun _ => rfl) ⟨nolog, ?_⟩)
    | refine WpO.skip rfl rfl ?_
    | refine WpL.cons rfl rfl (WpX.pure (fun _ => rfl) ⟨nolog, ?_⟩)
    | refine WpL.skip rfl rfl ?_
    | refine seqQ_normal ?_
    | refine seqQ_ret ?_
    | refine seqQ_exit ?_
    | refine blkQ_normal ?_
    | refine blkQ_ret ?_
    | refine blkQ_out rfl ?_
    | refine blkQ_by rfl ?_)
  refine WpC.cond rfl (fun hb => by cases hb) (fun _ => ?_)
  repeat' (first
    | refine WpC.seq ?_
    | refine WpC.region ?_
    | refine WpC.drawn ?_
    | refine WpC.skip ?_
    | refine WpC.block ?_
    | refine WpC.exit ?_
    | refine WpC.ret ?_
    | refine WpO.nil ?_
    | refine WpO.cons rfl rfl (WpX.pure (fun _ => rfl) ⟨nolog, ?_⟩)
    | refine WpO.skip rfl rfl ?_
    | refine WpL.cons rfl rfl (WpX.pure (fun _ => rfl) ⟨nolog, ?_⟩)
    | refine WpL.skip rfl rfl ?_
    | refine seqQ_normal ?_
    | refine seqQ_ret ?_
    | refine seqQ_exit ?_
    | refine blkQ_normal ?_
    | refine blkQ_ret ?_
    | refine blkQ_out rfl ?_
    | refine blkQ_by rfl ?_
    | refine WpO.cons rfl rfl (op_load rfl rfl rfl hobj rfl ⟨(by simp [InL, Acc.name, rowName] <;> omega), ?_⟩)
    | refine WpL.cons rfl rfl (op_load rfl rfl rfl hobj rfl ⟨(by simp [InL, Acc.name, rowName] <;> omega), ?_⟩)
    | refine WpO.cons rfl rfl (op_indexAddr (k := 1) rfl rfl rfl rfl ⟨by omega, by omega⟩ ⟨(by simp [InL, Acc.name, rowName] <;> omega), ?_⟩)
    | refine WpL.cons rfl rfl (op_indexAddr (k := 1) rfl rfl rfl rfl ⟨by omega, by omega⟩ ⟨(by simp [InL, Acc.name, rowName] <;> omega), ?_⟩)
    | refine WpO.cons rfl rfl (op_load rfl rfl rfl hg hz ⟨(by simp [InL, Acc.name, rowName] <;> omega), ?_⟩)
    | refine WpL.cons rfl rfl (op_load rfl rfl rfl hg hz ⟨(by simp [InL, Acc.name, rowName] <;> omega), ?_⟩)
    | refine WpO.cons rfl rfl (op_store (k := 1) rfl rfl rfl rfl hg hfl rfl ⟨(by simp [InL, Acc.name, rowName] <;> omega), ?_⟩)
    | refine WpL.cons rfl rfl (op_store (k := 1) rfl rfl rfl rfl hg hfl rfl ⟨(by simp [InL, Acc.name, rowName] <;> omega), ?_⟩))
  refine out_ret rfl ⟨rfl, .inl ⟨i, x, rfl, hx, h3, rfl, ?_⟩⟩
  rw [hwo]
  exact r.setCount hsn hj hx
theorem rdrop_ok {h : HH} {c q : Nat} {vB vP vS vC : V} {st : St} {hd : Int} (r : RefAt h c q vB vP vS vC st) (hlen : st.rows.length ≤ 1000) :
    Does 78 [.ptr (some (q, 0)), I hd] h c (rn q vB vP vS vC) fun v h' c' => c' = c ∧
      ((∃ (i : Nat) (x : R3), hd = i + 1 ∧ st.rows[i]? = some x ∧ x.2.2 > 0 ∧ v = .bool true ∧ RefAt h' c q vB vP vS vC { st with rows := st.rows.set i (x.1, x.2.1, IntKind.i64.wrap (x.2.2 - 1)) }) ∨
       ((∀ (i : Nat) (x : R3), hd = i + 1 → st.rows[i]? = some x → ¬ x.2.2 > 0) ∧ v = .bool false ∧ h' = h)) := by
  refine does_of (enter (fn := Try.f78) Try.func78 rfl rfl (Nat.le_of_ble_eq_true rfl) ?_)
  repeat' (first
    | refine WpC.seq ?_
    | refine WpC.region ?_
    | refine WpC.drawn ?_
    | refine WpC.skip ?_
    | refine WpC.block ?_
    | refine WpC.exit ?_
    | refine WpC.ret ?_
    | refine WpO.nil ?_
    | refine WpO.cons rfl rfl (WpX.pure (fun _ => rfl) ⟨nolog, ?_⟩)
    | refine WpO.skip rfl rfl ?_
    | refine WpL.cons rfl rfl (WpX.pure (fun _ => rfl) ⟨nolog, ?_⟩)
    | refine WpL.skip rfl rfl ?_
    | refine seqQ_normal ?_
    | refine seqQ_ret ?_
    | refine seqQ_exit ?_
    | refine blkQ_normal ?_
    | refine blkQ_ret ?_
    | refine blkQ_out rfl ?_
    | refine blkQ_by rfl ?_)
  refine WpO.cons rfl rfl (call_at rfl (there_ok r hlen) (fun n hn => .inl hn) (Nat.le_refl _) fun v h4 c4 hc4 hfr4 hq => ?_)
  obtain ⟨rfl, rfl, hq⟩ := hq
  rcases hq with ⟨i, x, rfl, hx, h3, rfl⟩ | ⟨hno, rfl⟩
  case inr =>
    repeat' (first
      | refine WpC.seq ?_
      | refine WpC.region ?_
      | refine WpC.drawn ?_
      | refine WpC.skip ?_
      | refine WpC.block ?_
      | refine WpC.exit ?_
      | refine WpC.ret ?_
      | refine WpO.nil ?_
      | refine WpO.cons rfl rfl (WpX.pure (fun _ => rfl) ⟨nolog, ?_⟩)
      | refine WpO.skip rfl rfl ?_
      | refine WpL.cons rfl rfl (WpX.pure (fun _ => rfl) ⟨nolog, ?_⟩)
      | refine WpL.skip rfl rfl ?_
      | refine seqQ_normal ?_
      | refine seqQ_ret ?_
      | refine seqQ_exit ?_
      | refine blkQ_normal ?_
      | refine blkQ_ret ?_
      | refine blkQ_out rfl ?_
      | refine blkQ_by rfl ?_)
    refine WpC.cond rfl (fun _ => ?_) (fun hb => by cases hb)
    repeat' (first
      | refine WpC.seq ?_
      | refine WpC.region ?_
      | refine WpC.drawn ?_
      | refine WpC.skip ?_
      | refine WpC.block ?_
      | refine WpC.exit ?_
      | refine WpC.ret ?_
      | refine WpO.nil ?_
      | refine WpO.cons rfl rfl (WpX.pure (fun _ => rfl) ⟨nolog, ?_⟩)
      | refine WpO.skip rfl rfl ?_
      | refine WpL.cons rfl rfl (WpX.pure (fun _ => rfl) ⟨nolog, ?_⟩)
      | refine WpL.skip rfl rfl ?_
      | refine seqQ_normal ?_
      | refine seqQ_ret ?_
      | refine seqQ_exit ?_
      | refine blkQ_normal ?_
      | refine blkQ_ret ?_
      | refine blkQ_out rfl ?_
      | refine blkQ_by rfl ?_)
    exact out_ret rfl ⟨rfl, .inr ⟨hno, rfl, rfl⟩⟩
  have hobj := r.obj
  have hi := (List.getElem?_eq_some_iff.1 hx).1
  obtain ⟨s, cap, rfl, hs⟩ := r.ct.shapeN (List.length_map _)
  obtain ⟨rfl, sn, cl, junk, rfl, hsn, hg, hj⟩ := hs i hi
  have hxc : (st.rows.map fun r => r.2.2)[i]? = some x.2.2 := by rw [List.getElem?_map, hx]; rfl
  have hw : IntKind.i64.wrap ((i : Int) + 1 - 1) = (i : Int) := by rw [Go.IntWalk.i64_in _ (by omega)]; omega
  have hwo : 0 + (IntKind.i64.wrap ((i : Int) + 1 - 1)).toNat * 1 = i := by rw [hw]; simp
  have hz : nth (flat intV (st.rows.map fun r => r.2.2) ++ junk) (0 + (IntKind.i64.wrap ((i : Int) + 1 - 1)).toNat * 1) = some (I x.2.2) := by
    rw [hwo]; exact nthI hxc junk
  have hfl : 0 + (IntKind.i64.wrap ((i : Int) + 1 - 1)).toNat * 1 + 1 ≤ (flat intV (st.rows.map fun r => r.2.2) ++ junk).length := by
    rw [hwo, List.length_append, flat_length int_len, List.length_map]; omega
  repeat' (first
    | refine WpC.seq ?_
    | refine WpC.region ?_
    | refine WpC.drawn ?_
    | refine WpC.skip ?_
    | refine WpC.block ?_
    | refine WpC.exit ?_
    | refine WpC.ret ?_
    | refine WpO.nil ?_
    | refine WpO.cons rfl rfl (WpX.pure (fun _ => rfl) ⟨nolog, ?_⟩)
    | refine WpO.skip rfl rfl ?_
    | refine WpL.cons rfl rfl (WpX.pure (fun _ => rfl) ⟨nolog, ?_⟩)
    | refine WpL.skip rfl rfl ?_
    | refine seqQ_normal ?_
    | refine seqQ_ret ?_
    | refine seqQ_exit ?_
    | refine blkQ_normal ?_
    | refine blkQ_ret ?_
    | refine blkQ_out rfl ?_
    | refine blkQ_by rfl ?_)
  refine WpC.cond rfl (fun hb => by cases hb) (fun _ => ?_)
  repeat' (first
    | refine WpC.seq ?_
    | refine WpC.region ?_
    | refine WpC.drawn ?_
    | refine WpC.skip ?_
    | refine WpC.block ?_
    | refine WpC.exit ?_
    | refine WpC.ret ?_
    | refine WpO.nil ?_
    | refine WpO.cons rfl rfl (WpX.pure (fun _ => rfl) ⟨nolog, ?_⟩)
    | refine WpO.skip rfl rfl ?_
    | refine WpL.cons rfl rfl (WpX.pure (fun _ => rfl) ⟨nolog, ?_⟩)
    | refine WpL.skip rfl rfl ?_
    | refine seqQ_normal ?_
    | refine seqQ_ret ?_
    | refine seqQ_exit ?_
    | refine blkQ_normal ?_
    | refine blkQ_ret ?_
    | refine blkQ_out rfl ?_
    | refine blkQ_by rfl ?_
    | refine WpO.cons rfl rfl (op_load rfl rfl rfl hobj rfl ⟨(by simp [InL, Acc.name, rowName] <;> omega), ?_⟩)
    | refine WpL.cons rfl rfl (op_load rfl rfl rfl hobj rfl ⟨(by simp [InL, Acc.name, rowName] <;> omega), ?_⟩)
    | refine WpO.cons rfl rfl (op_indexAddr (k := 1) rfl rfl rfl rfl ⟨by omega, by omega⟩ ⟨(by simp [InL, Acc.name, rowName] <;> omega), ?_⟩)
    | refine WpL.cons rfl rfl (op_indexAddr (k := 1) rfl rfl rfl rfl ⟨by omega, by omega⟩ ⟨(by simp [InL, Acc.name, rowName] <;> omega), ?_⟩)
    | refine WpO.cons rfl rfl (op_load rfl rfl rfl hg hz ⟨(by simp [InL, Acc.name, rowName] <;> omega), ?_⟩)
    | refine WpL.cons rfl rfl (op_load rfl rfl rfl hg hz ⟨(by simp [InL, Acc.name, rowName] <;> omega), ?_⟩)
    | refine WpO.cons rfl rfl (op_store (k := 1) rfl rfl rfl rfl hg hfl rfl ⟨(by simp [InL, Acc.name, rowName] <;> omega), ?_⟩)
    | refine WpL.cons rfl rfl (op_store (k := 1) rfl rfl rfl rfl hg hfl rfl ⟨(by simp [InL, Acc.name, rowName] <;> omega), ?_⟩))
  refine out_ret rfl ⟨rfl, .inl ⟨i, x, rfl, hx, h3, rfl, ?_⟩⟩
  rw [hwo]
  exact r.setCount hsn hj hx
end Go.Proofs.Ytempfmkicpifkaa


set_option linter.unusedVariables false
set_option linter.unusedSectionVars false
set_option linter.unusedSimpArgs false
set_option linter.unnecessarySimpa false
namespace Go.Proofs.Ytempfmkicpifkaa
open Go.Ab
set_option maxRecDepth 10000

/-- Sizes within bounds. -/
def Sized (rows : List R3) : Prop := ∀ (i : Nat) (x : R3), rows[i]? = some x → x.2.2 > 0 → 0 ≤ x.2.1 ∧ x.2.1 ≤ 10000000
theorem tot_snoc {rows : List R3} {i : Nat} {x : R3} (h : rows[i]? = some x) : tot (rows.take (i + 1)) = tot (rows.take i) + (if x.2.2 > 0 then x.2.1 else 0) := by
  rw [take_snoc h, tot_append]
  simp [tot]
theorem tot_bound {rows : List R3} (hs : Sized rows) : ∀ i, i ≤ rows.length → 0 ≤ tot (rows.take i) ∧ tot (rows.take i) ≤ (i : Int) * 10000000
  | 0, _ => by simp [tot]
  | i + 1, h => by
    have ih := tot_bound hs i (by omega)
    obtain ⟨x, hx⟩ : ∃ x, rows[i]? = some x := ⟨_, List.getElem?_eq_getElem (by omega)⟩
    rw [tot_snoc hx]
    split
    · next hp => have := hs i x hx hp; omega
    · omega

theorem rliveR {h : HH} {c q : Nat} {vB vP vS vC : V} {st : St} (r : RefAt h c q vB vP vS vC st) (hlen : st.rows.length ≤ 1000) (hsz : Sized st.rows) :
    DoesR 80 [.ptr (some (q, 0))] h c (rn q vB vP vS vC) fun v h' c' => h' = h ∧ c' = c ∧ v = I (tot st.rows) := by
  have hobj := r.obj
  obtain ⟨s, cap, rfl, hs⟩ := r.ct.shapeN (List.length_map _)
  obtain ⟨s2, cap2, rfl, hs2⟩ := r.sz.shapeN (List.length_map _)
  refine doesR_of (enter (fn := Try.f80) Try.func80 rfl rfl (Nat.le_of_ble_eq_true rfl) ?_)
  repeat' (first
    | refine WpC.seq ?_
    | refine WpC.region ?_
    | refine WpC.drawn ?_
    | refine WpC.skip ?_
    | refine WpC.block ?_
    | refine WpC.exit ?_
    | refine WpC.ret ?_
    | refine WpO.nil ?_
    | refine WpO.cons rfl rfl (WpX.pure (fun _ => rfl) ⟨nolog, ?_⟩)
    | refine WpO.skip rfl rfl ?_
    | refine WpL.cons rfl rfl (WpX.pure (fun _ => rfl) ⟨nolog, ?_⟩)
    | refine WpL.skip rfl rfl ?_
    | refine seqQ_normal ?_
    | refine seqQ_ret ?_
    | refine seqQ_exit ?_
    | refine blkQ_normal ?_
    | refine blkQ_ret ?_
    | refine blkQ_out rfl ?_
    | refine blkQ_by rfl ?_)
  refine WpC.loop ?_
  refine WpLoop.ind (X := Nat) (fun i e h' c' => (∃ b0, e = MapI.set (MapI.set (MapI.set b0 0 (.ptr (some (q, 0)))) 3 (I (tot (st.rows.take i)))) 4 (I i)) ∧ i ≤ st.rows.length ∧ h' = h ∧ c' = c)
    (fun i => st.rows.length - i) ?_ 0 _ _ _ ⟨set3 rfl rfl rfl, Nat.zero_le _, rfl, rfl⟩
  rintro i e h' c' ⟨⟨b0, rfl⟩, hi, rfl, rfl⟩
  repeat' (first
    | refine WpC.seq ?_
    | refine WpC.region ?_
    | refine WpC.drawn ?_
    | refine WpC.skip ?_
    | refine WpC.block ?_
    | refine WpC.exit ?_
    | refine WpC.ret ?_
    | refine WpO.nil ?_
    | refine WpO.cons rfl rfl (WpX.pure (fun _ => rfl) ⟨nolog, ?_⟩)
    | refine WpO.skip rfl rfl ?_
    | refine WpL.cons rfl rfl (WpX.pure (fun _ => rfl) ⟨nolog, ?_⟩)
    | refine WpL.skip rfl rfl ?_
    | refine seqQ_normal ?_
    | refine seqQ_ret ?_
    | refine seqQ_exit ?_
    | refine blkQ_normal ?_
    | refine blkQ_ret ?_
    | refine blkQ_out rfl ?_
    | refine blkQ_by rfl ?_
    | refine WpO.cons rfl rfl (op_load rfl rfl rfl hobj rfl ⟨(by simp [InR, Acc.name, Acc.writes, rowName] <;> omega), ?_⟩)
    | refine WpL.cons rfl rfl (op_load rfl rfl rfl hobj rfl ⟨(by simp [InR, Acc.name, Acc.writes, rowName] <;> omega), ?_⟩)
    | refine WpO.cons rfl rfl (op_len rfl rfl rfl ⟨(by simp [InR, Acc.name, Acc.writes, rowName] <;> omega), ?_⟩)
    | refine WpL.cons rfl rfl (op_len rfl rfl rfl ⟨(by simp [InR, Acc.name, Acc.writes, rowName] <;> omega), ?_⟩))
  refine WpC.cond rfl (fun hlt => ?_) (fun hge => ?_)
  case refine_2 =>
    have hge : st.rows.length ≤ i := by
      have : ¬ ((i : Nat) : Int) < (st.rows.length : Nat) := by simpa using hge
      omega
    rw [List.take_of_length_le hge]
    repeat' (first
      | refine WpC.seq ?_
      | refine WpC.region ?_
      | refine WpC.drawn ?_
      | refine WpC.skip ?_
      | refine WpC.block ?_
      | refine WpC.exit ?_
      | refine WpC.ret ?_
      | refine WpO.nil ?_
      | refine WpO.cons rfl rfl (WpX.pure (fun _ => rfl) ⟨nolog, ?_⟩)
      | refine WpO.skip rfl rfl ?_
      | refine WpL.cons rfl rfl (WpX.pure (fun _ => rfl) ⟨nolog, ?_⟩)
      | refine WpL.skip rfl rfl ?_
      | refine seqQ_normal ?_
      | refine seqQ_ret ?_
      | refine seqQ_exit ?_
      | refine blkQ_normal ?_
      | refine blkQ_ret ?_
      | refine blkQ_out rfl ?_
      | refine blkQ_by rfl ?_)
    exact out_ret rfl ⟨rfl, rfl, rfl⟩
  have hlt : i < st.rows.length := by
    have : ((i : Nat) : Int) < (st.rows.length : Nat) := by simpa using hlt
    omega
  obtain ⟨rfl, sn, cl, junk, rfl, hsn, hg, hj⟩ := hs i hlt
  obtain ⟨rfl, sn2, cl2, junk2, rfl, hsn2, hg2, hj2⟩ := hs2 i hlt
  obtain ⟨x, hx⟩ : ∃ x, st.rows[i]? = some x := ⟨_, List.getElem?_eq_getElem hlt⟩
  have hb := tot_bound hsz (i + 1) (by omega)
  have hb0 := tot_bound hsz i hi
  have hts := tot_snoc hx
  have hoff : 0 + ((i : Nat) : Int).toNat * 1 = i := by simp
  have hz : nth (flat intV (st.rows.map fun r => r.2.2) ++ junk) (0 + ((i : Nat) : Int).toNat * 1) = some (I x.2.2) := by
    rw [hoff]; exact nthI (by rw [List.getElem?_map, hx]; rfl) junk
  have hz2 : nth (flat intV (st.rows.map fun r => r.2.1) ++ junk2) (0 + ((i : Nat) : Int).toNat * 1) = some (I x.2.1) := by
    rw [hoff]; exact nthI (by rw [List.getElem?_map, hx]; rfl) junk2
  have hw1 : IntKind.i64.wrap ((i : Int) + 1) = ((i + 1 : Nat) : Int) := by rw [Go.IntWalk.i64_in _ (by omega)]; omega
  repeat' (first
    | refine WpC.seq ?_
    | refine WpC.region ?_
    | refine WpC.drawn ?_
    | refine WpC.skip ?_
    | refine WpC.block ?_
    | refine WpC.exit ?_
    | refine WpC.ret ?_
    | refine WpO.nil ?_
    | refine WpO.cons rfl rfl (WpX.pure (fun _ => rfl) ⟨nolog, ?_⟩)
    | refine WpO.skip rfl rfl ?_
    | refine WpL.cons rfl rfl (WpX.pure (fun _ => rfl) ⟨nolog, ?_⟩)
    | refine WpL.skip rfl rfl ?_
    | refine seqQ_normal ?_
    | refine seqQ_ret ?_
    | refine seqQ_exit ?_
    | refine blkQ_normal ?_
    | refine blkQ_ret ?_
    | refine blkQ_out rfl ?_
    | refine blkQ_by rfl ?_
    | refine WpO.cons rfl rfl (op_load rfl rfl rfl hobj rfl ⟨(by simp [InR, Acc.name, Acc.writes, rowName] <;> omega), ?_⟩)
    | refine WpL.cons rfl rfl (op_load rfl rfl rfl hobj rfl ⟨(by simp [InR, Acc.name, Acc.writes, rowName] <;> omega), ?_⟩)
    | refine WpO.cons rfl rfl (op_indexAddr (k := 1) rfl rfl rfl rfl ⟨by omega, by omega⟩ ⟨(by simp [InR, Acc.name, Acc.writes, rowName] <;> omega), ?_⟩)
    | refine WpL.cons rfl rfl (op_indexAddr (k := 1) rfl rfl rfl rfl ⟨by omega, by omega⟩ ⟨(by simp [InR, Acc.name, Acc.writes, rowName] <;> omega), ?_⟩)
    | refine WpO.cons rfl rfl (op_load rfl rfl rfl hg hz ⟨(by simp [InR, Acc.name, Acc.writes, rowName] <;> omega), ?_⟩)
    | refine WpL.cons rfl rfl (op_load rfl rfl rfl hg hz ⟨(by simp [InR, Acc.name, Acc.writes, rowName] <;> omega), ?_⟩))
  refine WpC.cond rfl (fun hp => ?_) (fun hp => ?_)
  · have hp : x.2.2 > 0 := by simpa using hp
    rw [if_pos hp] at hts
    have hw2 : IntKind.i64.wrap (tot (st.rows.take i) + x.2.1) = tot (st.rows.take (i + 1)) := by rw [hts, Go.IntWalk.i64_in _ (by omega)]
    repeat' (first
      | refine WpC.seq ?_
      | refine WpC.region ?_
      | refine WpC.drawn ?_
      | refine WpC.skip ?_
      | refine WpC.block ?_
      | refine WpC.exit ?_
      | refine WpC.ret ?_
      | refine WpO.nil ?_
      | refine WpO.cons rfl rfl (WpX.pure (fun _ => rfl) ⟨nolog, ?_⟩)
      | refine WpO.skip rfl rfl ?_
      | refine WpL.cons rfl rfl (WpX.pure (fun _ => rfl) ⟨nolog, ?_⟩)
      | refine WpL.skip rfl rfl ?_
      | refine seqQ_normal ?_
      | refine seqQ_ret ?_
      | refine seqQ_exit ?_
      | refine blkQ_normal ?_
      | refine blkQ_ret ?_
      | refine blkQ_out rfl ?_
      | refine blkQ_by rfl ?_
      | refine WpO.cons rfl rfl (op_load rfl rfl rfl hobj rfl ⟨(by simp [InR, Acc.name, Acc.writes, rowName] <;> omega), ?_⟩)
      | refine WpL.cons rfl rfl (op_load rfl rfl rfl hobj rfl ⟨(by simp [InR, Acc.name, Acc.writes, rowName] <;> omega), ?_⟩)
      | refine WpO.cons rfl rfl (op_indexAddr (k := 1) rfl rfl rfl rfl ⟨by omega, by omega⟩ ⟨(by simp [InR, Acc.name, Acc.writes, rowName] <;> omega), ?_⟩)
      | refine WpL.cons rfl rfl (op_indexAddr (k := 1) rfl rfl rfl rfl ⟨by omega, by omega⟩ ⟨(by simp [InR, Acc.name, Acc.writes, rowName] <;> omega), ?_⟩)
      | refine WpO.cons rfl rfl (op_load rfl rfl rfl hg2 hz2 ⟨(by simp [InR, Acc.name, Acc.writes, rowName] <;> omega), ?_⟩)
      | refine WpL.cons rfl rfl (op_load rfl rfl rfl hg2 hz2 ⟨(by simp [InR, Acc.name, Acc.writes, rowName] <;> omega), ?_⟩))
    refine ⟨i + 1, by omega, ?_, by omega, rfl, rfl⟩
    rw [hw1, hw2]
    exact set3 rfl rfl rfl
  · have hp : ¬ x.2.2 > 0 := by simpa using hp
    rw [if_neg hp, Int.add_zero] at hts
    repeat' (first
      | refine WpC.seq ?_
      | refine WpC.region ?_
      | refine WpC.drawn ?_
      | refine WpC.skip ?_
      | refine WpC.block ?_
      | refine WpC.exit ?_
      | refine WpC.ret ?_
      | refine WpO.nil ?_
      | refine WpO.cons rfl rfl (WpX.pure (fun _ => rfl) ⟨nolog, ?_⟩)
      | refine WpO.skip rfl rfl ?_
      | refine WpL.cons rfl rfl (WpX.pure (fun _ => rfl) ⟨nolog, ?_⟩)
      | refine WpL.skip rfl rfl ?_
      | refine seqQ_normal ?_
      | refine seqQ_ret ?_
      | refine seqQ_exit ?_
      | refine blkQ_normal ?_
      | refine blkQ_ret ?_
      | refine blkQ_out rfl ?_
      | refine blkQ_by rfl ?_)
    refine ⟨i + 1, by omega, ?_, by omega, rfl, rfl⟩
    rw [hw1, hts]
    exact set3 rfl rfl rfl

theorem rlive_ok {h : HH} {c q : Nat} {vB vP vS vC : V} {st : St} (r : RefAt h c q vB vP vS vC st) (hlen : st.rows.length ≤ 1000) (hsz : Sized st.rows) :
    Does 80 [.ptr (some (q, 0))] h c (rn q vB vP vS vC) fun v h' c' => h' = h ∧ c' = c ∧ v = I (tot st.rows) := (rliveR r hlen hsz).does

theorem rhandles_ok {h : HH} {c q : Nat} {vB vP vS vC : V} {st : St} (r : RefAt h c q vB vP vS vC st) (hlen : st.rows.length ≤ 1000) :
    Does 82 [.ptr (some (q, 0))] h c (rn q vB vP vS vC) fun v h' c' => ListOf 1 intV h' c' v (hnd st.rows 0) ∧ (∀ n ∈ rowName v, c ≤ n) ∧ ∀ n, n < c → MapI.get h' n = MapI.get h n := by
  have hobj := r.obj
  have hlq := r.lq
  obtain ⟨s, cap, rfl, hs⟩ := r.ct.shapeN (List.length_map _)
  refine does_of (enter (fn := Try.f82) Try.func82 rfl rfl (Nat.le_of_ble_eq_true rfl) ?_)
  repeat' (first
    | refine WpC.seq ?_
    | refine WpC.region ?_
    | refine WpC.drawn ?_
    | refine WpC.skip ?_
    | refine WpC.block ?_
    | refine WpC.exit ?_
    | refine WpC.ret ?_
    | refine WpO.nil ?_
    | refine WpO.cons rfl rfl (WpX.pure (fun _ => rfl) ⟨nolog, ?_⟩)
    | refine WpO.skip rfl rfl ?_
    | refine WpL.cons rfl rfl (WpX.pure (fun _ => rfl) ⟨nolog, ?_⟩)
    | refine WpL.skip rfl rfl ?_
    | refine seqQ_normal ?_
    | refine seqQ_ret ?_
    | refine seqQ_exit ?_
    | refine blkQ_normal ?_
    | refine blkQ_ret ?_
    | refine blkQ_out rfl ?_
    | refine blkQ_by rfl ?_)
  refine WpC.loop ?_
  refine WpLoop.ind (X := Nat × V) (fun x e h' c' => (∃ b0, e = MapI.set (MapI.set (MapI.set b0 0 (.ptr (some (q, 0)))) 3 x.2) 4 (I x.1)) ∧ x.1 ≤ st.rows.length ∧ ListOf (0 + 1) intV h' c' x.2 (hnd (st.rows.take x.1) 0) ∧ (∀ n ∈ rowName x.2, c ≤ n) ∧ c ≤ c' ∧ ∀ n, n < c → MapI.get h' n = MapI.get h n)
    (fun x => st.rows.length - x.1) ?_ (0, .slice none 0 (.known 0)) _ _ _ ⟨set3 rfl rfl rfl, Nat.zero_le _, .nil, fun n hn => (by cases hn), Nat.le_refl _, fun n _ => rfl⟩
  rintro ⟨i, v⟩ e h' c' ⟨⟨b0, rfl⟩, hi, hl, hv, hc, hfr⟩
  simp only at hi hl hv
  have hobj' : MapI.get h' q = _ := (hfr q hlq).trans hobj
  repeat' (first
    | refine WpC.seq ?_
    | refine WpC.region ?_
    | refine WpC.drawn ?_
    | refine WpC.skip ?_
    | refine WpC.block ?_
    | refine WpC.exit ?_
    | refine WpC.ret ?_
    | refine WpO.nil ?_
    | refine WpO.cons rfl rfl (WpX.pure (fun _ => rfl) ⟨nolog, ?_⟩)
    | refine WpO.skip rfl rfl ?_
    | refine WpL.cons rfl rfl (WpX.pure (fun _ => rfl) ⟨nolog, ?_⟩)
    | refine WpL.skip rfl rfl ?_
    | refine seqQ_normal ?_
    | refine seqQ_ret ?_
    | refine seqQ_exit ?_
    | refine blkQ_normal ?_
    | refine blkQ_ret ?_
    | refine blkQ_out rfl ?_
    | refine blkQ_by rfl ?_
    | refine WpO.cons rfl rfl (op_load rfl rfl rfl hobj' rfl ⟨(by simp [InL, Acc.name, rowName] <;> omega), ?_⟩)
    | refine WpL.cons rfl rfl (op_load rfl rfl rfl hobj' rfl ⟨(by simp [InL, Acc.name, rowName] <;> omega), ?_⟩)
    | refine WpO.cons rfl rfl (op_len rfl rfl rfl ⟨(by simp [InL, Acc.name, rowName] <;> omega), ?_⟩)
    | refine WpL.cons rfl rfl (op_len rfl rfl rfl ⟨(by simp [InL, Acc.name, rowName] <;> omega), ?_⟩))
  refine WpC.cond rfl (fun hlt => ?_) (fun hge => ?_)
  case refine_2 =>
    have hge : st.rows.length ≤ i := by
      have : ¬ ((i : Nat) : Int) < (st.rows.length : Nat) := by simpa using hge
      omega
    rw [List.take_of_length_le hge] at hl
    repeat' (first
      | refine WpC.seq ?_
      | refine WpC.region ?_
      | refine WpC.drawn ?_
      | refine WpC.skip ?_
      | refine WpC.block ?_
      | refine WpC.exit ?_
      | refine WpC.ret ?_
      | refine WpO.nil ?_
      | refine WpO.cons rfl rfl (WpX.pure (fun _ => rfl) ⟨nolog, ?_⟩)
      | refine WpO.skip rfl rfl ?_
      | refine WpL.cons rfl rfl (WpX.pure (fun _ => rfl) ⟨nolog, ?_⟩)
      | refine WpL.skip rfl rfl ?_
      | refine seqQ_normal ?_
      | refine seqQ_ret ?_
      | refine seqQ_exit ?_
      | refine blkQ_normal ?_
      | refine blkQ_ret ?_
      | refine blkQ_out rfl ?_
      | refine blkQ_by rfl ?_)
    exact out_ret rfl ⟨hl, hv, hfr⟩
  have hlt : i < st.rows.length := by
    have : ((i : Nat) : Int) < (st.rows.length : Nat) := by simpa using hlt
    omega
  obtain ⟨rfl, sn, cl, junk, rfl, hsn, hg, hj⟩ := hs i hlt
  have hg' : MapI.get h' sn = _ := (hfr sn hsn).trans hg
  obtain ⟨x, hx⟩ : ∃ x, st.rows[i]? = some x := ⟨_, List.getElem?_eq_getElem hlt⟩
  have hoff : 0 + ((i : Nat) : Int).toNat * 1 = i := by simp
  have hz : nth (flat intV (st.rows.map fun r => r.2.2) ++ junk) (0 + ((i : Nat) : Int).toNat * 1) = some (I x.2.2) := by
    rw [hoff]; exact nthI (by rw [List.getElem?_map, hx]; rfl) junk
  have hw1 : IntKind.i64.wrap ((i : Int) + 1) = ((i + 1 : Nat) : Int) := by rw [Go.IntWalk.i64_in _ (by omega)]; omega
  have htk := take_snoc hx
  have hmin : min i st.rows.length = i := by omega
  repeat' (first
    | refine WpC.seq ?_
    | refine WpC.region ?_
    | refine WpC.drawn ?_
    | refine WpC.skip ?_
    | refine WpC.block ?_
    | refine WpC.exit ?_
    | refine WpC.ret ?_
    | refine WpO.nil ?_
    | refine WpO.cons rfl rfl (WpX.pure (fun _ => rfl) ⟨nolog, ?_⟩)
    | refine WpO.skip rfl rfl ?_
    | refine WpL.cons rfl rfl (WpX.pure (fun _ => rfl) ⟨nolog, ?_⟩)
    | refine WpL.skip rfl rfl ?_
    | refine seqQ_normal ?_
    | refine seqQ_ret ?_
    | refine seqQ_exit ?_
    | refine blkQ_normal ?_
    | refine blkQ_ret ?_
    | refine blkQ_out rfl ?_
    | refine blkQ_by rfl ?_
    | refine WpO.cons rfl rfl (op_load rfl rfl rfl hobj' rfl ⟨(by simp [InL, Acc.name, rowName] <;> omega), ?_⟩)
    | refine WpL.cons rfl rfl (op_load rfl rfl rfl hobj' rfl ⟨(by simp [InL, Acc.name, rowName] <;> omega), ?_⟩)
    | refine WpO.cons rfl rfl (op_indexAddr (k := 1) rfl rfl rfl rfl ⟨by omega, by omega⟩ ⟨(by simp [InL, Acc.name, rowName] <;> omega), ?_⟩)
    | refine WpL.cons rfl rfl (op_indexAddr (k := 1) rfl rfl rfl rfl ⟨by omega, by omega⟩ ⟨(by simp [InL, Acc.name, rowName] <;> omega), ?_⟩)
    | refine WpO.cons rfl rfl (op_load rfl rfl rfl hg' hz ⟨(by simp [InL, Acc.name, rowName] <;> omega), ?_⟩)
    | refine WpL.cons rfl rfl (op_load rfl rfl rfl hg' hz ⟨(by simp [InL, Acc.name, rowName] <;> omega), ?_⟩))
  refine WpC.cond rfl (fun hp => ?_) (fun hp => ?_)
  · have hp : x.2.2 > 0 := by simpa using hp
    have hnew : hnd (st.rows.take (i + 1)) 0 = hnd (st.rows.take i) 0 ++ [((i + 1 : Nat) : Int)] := by
      rw [htk, hnd_append]; simp [hnd, hp, hmin]
    repeat' (first
      | refine WpC.seq ?_
      | refine WpC.region ?_
      | refine WpC.drawn ?_
      | refine WpC.skip ?_
      | refine WpC.block ?_
      | refine WpC.exit ?_
      | refine WpC.ret ?_
      | refine WpO.nil ?_
      | refine WpO.cons rfl rfl (WpX.pure (fun _ => rfl) ⟨nolog, ?_⟩)
      | refine WpO.skip rfl rfl ?_
      | refine WpL.cons rfl rfl (WpX.pure (fun _ => rfl) ⟨nolog, ?_⟩)
      | refine WpL.skip rfl rfl ?_
      | refine seqQ_normal ?_
      | refine seqQ_ret ?_
      | refine seqQ_exit ?_
      | refine blkQ_normal ?_
      | refine blkQ_ret ?_
      | refine blkQ_out rfl ?_
      | refine blkQ_by rfl ?_
      | refine WpO.cons rfl rfl (op_buildSlice (k := 1) rfl rfl rfl rfl (by decide) rfl ⟨(by simp [InL, Acc.name, rowName] <;> omega), ?_⟩)
      | refine WpL.cons rfl rfl (op_buildSlice (k := 1) rfl rfl rfl rfl (by decide) rfl ⟨(by simp [InL, Acc.name, rowName] <;> omega), ?_⟩))
    have hl2 : ∀ x : AObj, ListOf (0 + 1) intV (MapI.set h' c' x) (c' + 1) v (hnd (st.rows.take i) 0) := fun x => hl.keep (by omega) fun n hn _ => MapI.get_ne _ _ _ _ (by omega)
    have hle1 := hnd_le (st.rows.take i) 0
    rw [List.length_take] at hle1
    refine WpO.cons rfl rfl (append_at (ys := [IntKind.i64.wrap ((i : Int) + 1)]) rfl rfl elI rfl int_len int_all (hl2 _) (MapI.get_same _ _ _) rfl rfl (by omega) (.inr (by simp [Acc.name]; omega)) (fun a ha => ⟨.inr (by have := hv a ha; exact this), .inr (by have := hv a ha; exact this)⟩) (.inr (by simp [Acc.name]; omega)) fun v2 h2 c2 hlv hn2 hc2 hf2 => ?_)
    repeat' (first
      | refine WpC.seq ?_
      | refine WpC.region ?_
      | refine WpC.drawn ?_
      | refine WpC.skip ?_
      | refine WpC.block ?_
      | refine WpC.exit ?_
      | refine WpC.ret ?_
      | refine WpO.nil ?_
      | refine WpO.cons rfl rfl (WpX.pure (fun _ => rfl) ⟨nolog, ?_⟩)
      | refine WpO.skip rfl rfl ?_
      | refine WpL.cons rfl rfl (WpX.pure (fun _ => rfl) ⟨nolog, ?_⟩)
      | refine WpL.skip rfl rfl ?_
      | refine seqQ_normal ?_
      | refine seqQ_ret ?_
      | refine seqQ_exit ?_
      | refine blkQ_normal ?_
      | refine blkQ_ret ?_
      | refine blkQ_out rfl ?_
      | refine blkQ_by rfl ?_)
    refine ⟨(i + 1, v2), by simp only; omega, ?_, by simp only; omega, ?_, fun n hn => ?_, by omega, fun n hn => ?_⟩
    · rw [hw1]
      exact set3 rfl rfl rfl
    · rw [hnew, ← hw1]; exact hlv
    · rcases hn2 n hn with h | ⟨h, _⟩
      · exact hv n h
      · omega
    · rw [hf2 n (by omega) (fun hm => by have := hv n hm; omega), MapI.get_ne _ _ _ _ (by omega)]
      exact hfr n hn
  · have hp : ¬ x.2.2 > 0 := by simpa using hp
    have hnew : hnd (st.rows.take (i + 1)) 0 = hnd (st.rows.take i) 0 := by
      rw [htk, hnd_append]; simp [hnd, hp]
    repeat' (first
      | refine WpC.seq ?_
      | refine WpC.region ?_
      | refine WpC.drawn ?_
      | refine WpC.skip ?_
      | refine WpC.block ?_
      | refine WpC.exit ?_
      | refine WpC.ret ?_
      | refine WpO.nil ?_
      | refine WpO.cons rfl rfl (WpX.pure (fun _ => rfl) ⟨nolog, ?_⟩)
      | refine WpO.skip rfl rfl ?_
      | refine WpL.cons rfl rfl (WpX.pure (fun _ => rfl) ⟨nolog, ?_⟩)
      | refine WpL.skip rfl rfl ?_
      | refine seqQ_normal ?_
      | refine seqQ_ret ?_
      | refine seqQ_exit ?_
      | refine blkQ_normal ?_
      | refine blkQ_ret ?_
      | refine blkQ_out rfl ?_
      | refine blkQ_by rfl ?_)
    refine ⟨(i + 1, v), by simp only; omega, ?_, by simp only; omega, ?_, hv, hc, hfr⟩
    · rw [hw1]
      exact set3 rfl rfl rfl
    · simp only [hnew]; exact hl

/-- Ints: the same numbers. -/
theorem ints_ok {h : HH} {c : Nat} {v w : V} {xs : List Int} (hv : ListOf 1 intV h c v xs) (hw : ListOf 1 intV h c w xs) (hlen : xs.length ≤ 1000000) :
    Does 81 [v, w] h c (rowName v ++ rowName w) fun u h' c' => u = .bool true ∧ h' = h ∧ c' = c := by
  obtain ⟨s, cap, rfl, hs⟩ := hv.shape
  obtain ⟨s2, cap2, rfl, hs2⟩ := hw.shape
  refine does_of (enter (fn := Try.f81) Try.func81 rfl rfl (Nat.le_of_ble_eq_true rfl) ?_)
  repeat' (first
    | refine WpC.seq ?_
    | refine WpC.region ?_
    | refine WpC.drawn ?_
    | refine WpC.skip ?_
    | refine WpC.block ?_
    | refine WpC.exit ?_
    | refine WpC.ret ?_
    | refine WpO.nil ?_
    | refine WpO.cons rfl rfl (WpX.pure (fun _ => rfl) ⟨nolog, ?_⟩)
    | refine WpO.skip rfl rfl ?_
    | refine WpL.cons rfl rfl (WpX.pure (fun _ => rfl) ⟨nolog, ?_⟩)
    | refine WpL.skip rfl rfl ?_
    | refine seqQ_normal ?_
    | refine seqQ_ret ?_
    | refine seqQ_exit ?_
    | refine blkQ_normal ?_
    | refine blkQ_ret ?_
    | refine blkQ_out rfl ?_
    | refine blkQ_by rfl ?_
    | refine WpO.cons rfl rfl (op_len rfl rfl rfl ⟨(by simp [InL, Acc.name, rowName] <;> omega), ?_⟩)
    | refine WpL.cons rfl rfl (op_len rfl rfl rfl ⟨(by simp [InL, Acc.name, rowName] <;> omega), ?_⟩))
  refine WpC.cond rfl (fun hb => by simp at hb) (fun _ => ?_)
  repeat' (first
    | refine WpC.seq ?_
    | refine WpC.region ?_
    | refine WpC.drawn ?_
    | refine WpC.skip ?_
    | refine WpC.block ?_
    | refine WpC.exit ?_
    | refine WpC.ret ?_
    | refine WpO.nil ?_
    | refine WpO.cons rfl rfl (WpX.pure (fun _ => rfl) ⟨nolog, ?_⟩)
    | refine WpO.skip rfl rfl ?_
    | refine WpL.cons rfl rfl (WpX.pure (fun _ => rfl) ⟨nolog, ?_⟩)
    | refine WpL.skip rfl rfl ?_
    | refine seqQ_normal ?_
    | refine seqQ_ret ?_
    | refine seqQ_exit ?_
    | refine blkQ_normal ?_
    | refine blkQ_ret ?_
    | refine blkQ_out rfl ?_
    | refine blkQ_by rfl ?_)
  refine WpC.loop ?_
  refine WpLoop.ind (X := Nat) (fun i e h' c' => (∃ b0, e = MapI.set (MapI.set (MapI.set b0 0 (.slice s xs.length cap)) 1 (.slice s2 xs.length cap2)) 5 (I i)) ∧ i ≤ xs.length ∧ h' = h ∧ c' = c)
    (fun i => xs.length - i) ?_ 0 _ _ _ ⟨set3 rfl rfl rfl, Nat.zero_le _, rfl, rfl⟩
  rintro i e h' c' ⟨⟨b0, rfl⟩, hi, rfl, rfl⟩
  repeat' (first
    | refine WpC.seq ?_
    | refine WpC.region ?_
    | refine WpC.drawn ?_
    | refine WpC.skip ?_
    | refine WpC.block ?_
    | refine WpC.exit ?_
    | refine WpC.ret ?_
    | refine WpO.nil ?_
    | refine WpO.cons rfl rfl (WpX.pure (fun _ => rfl) ⟨nolog, ?_⟩)
    | refine WpO.skip rfl rfl ?_
    | refine WpL.cons rfl rfl (WpX.pure (fun _ => rfl) ⟨nolog, ?_⟩)
    | refine WpL.skip rfl rfl ?_
    | refine seqQ_normal ?_
    | refine seqQ_ret ?_
    | refine seqQ_exit ?_
    | refine blkQ_normal ?_
    | refine blkQ_ret ?_
    | refine blkQ_out rfl ?_
    | refine blkQ_by rfl ?_
    | refine WpO.cons rfl rfl (op_len rfl rfl rfl ⟨(by simp [InL, Acc.name, rowName] <;> omega), ?_⟩)
    | refine WpL.cons rfl rfl (op_len rfl rfl rfl ⟨(by simp [InL, Acc.name, rowName] <;> omega), ?_⟩))
  refine WpC.cond rfl (fun hlt => ?_) (fun hge => ?_)
  case refine_2 =>
    repeat' (first
      | refine WpC.seq ?_
      | refine WpC.region ?_
      | refine WpC.drawn ?_
      | refine WpC.skip ?_
      | refine WpC.block ?_
      | refine WpC.exit ?_
      | refine WpC.ret ?_
      | refine WpO.nil ?_
      | refine WpO.cons rfl rfl (WpX.pure (fun _ => rfl) ⟨nolog, ?_⟩)
      | refine WpO.skip rfl rfl ?_
      | refine WpL.cons rfl rfl (WpX.pure (fun _ => rfl) ⟨nolog, ?_⟩)
      | refine WpL.skip rfl rfl ?_
      | refine seqQ_normal ?_
      | refine seqQ_ret ?_
      | refine seqQ_exit ?_
      | refine blkQ_normal ?_
      | refine blkQ_ret ?_
      | refine blkQ_out rfl ?_
      | refine blkQ_by rfl ?_)
    exact out_ret rfl ⟨rfl, rfl, rfl⟩
  have hlt : i < xs.length := by
    have : ((i : Nat) : Int) < (xs.length : Nat) := by simpa using hlt
    omega
  obtain ⟨rfl, sn, cl, junk, rfl, hsn, hg, hj⟩ := hs i hlt
  obtain ⟨rfl, sn2, cl2, junk2, rfl, hsn2, hg2, hj2⟩ := hs2 i hlt
  obtain ⟨x, hx⟩ : ∃ x, xs[i]? = some x := ⟨_, List.getElem?_eq_getElem hlt⟩
  have hoff : 0 + ((i : Nat) : Int).toNat * 1 = i := by simp
  have hz : nth (flat intV xs ++ junk) (0 + ((i : Nat) : Int).toNat * 1) = some (I x) := by rw [hoff]; exact nthI hx junk
  have hz2 : nth (flat intV xs ++ junk2) (0 + ((i : Nat) : Int).toNat * 1) = some (I x) := by rw [hoff]; exact nthI hx junk2
  have hw1 : IntKind.i64.wrap ((i : Int) + 1) = ((i + 1 : Nat) : Int) := by rw [Go.IntWalk.i64_in _ (by omega)]; omega
  repeat' (first
    | refine WpC.seq ?_
    | refine WpC.region ?_
    | refine WpC.drawn ?_
    | refine WpC.skip ?_
    | refine WpC.block ?_
    | refine WpC.exit ?_
    | refine WpC.ret ?_
    | refine WpO.nil ?_
    | refine WpO.cons rfl rfl (WpX.pure (fun _ => rfl) ⟨nolog, ?_⟩)
    | refine WpO.skip rfl rfl ?_
    | refine WpL.cons rfl rfl (WpX.pure (fun _ => rfl) ⟨nolog, ?_⟩)
    | refine WpL.skip rfl rfl ?_
    | refine seqQ_normal ?_
    | refine seqQ_ret ?_
    | refine seqQ_exit ?_
    | refine blkQ_normal ?_
    | refine blkQ_ret ?_
    | refine blkQ_out rfl ?_
    | refine blkQ_by rfl ?_
    | refine WpO.cons rfl rfl (op_indexAddr (k := 1) rfl rfl rfl rfl ⟨by omega, by omega⟩ ⟨(by simp [InL, Acc.name, rowName] <;> omega), ?_⟩)
    | refine WpL.cons rfl rfl (op_indexAddr (k := 1) rfl rfl rfl rfl ⟨by omega, by omega⟩ ⟨(by simp [InL, Acc.name, rowName] <;> omega), ?_⟩)
    | refine WpO.cons rfl rfl (op_load rfl rfl rfl hg hz ⟨(by simp [InL, Acc.name, rowName] <;> omega), ?_⟩)
    | refine WpL.cons rfl rfl (op_load rfl rfl rfl hg hz ⟨(by simp [InL, Acc.name, rowName] <;> omega), ?_⟩)
    | refine WpO.cons rfl rfl (op_load rfl rfl rfl hg2 hz2 ⟨(by simp [InL, Acc.name, rowName] <;> omega), ?_⟩)
    | refine WpL.cons rfl rfl (op_load rfl rfl rfl hg2 hz2 ⟨(by simp [InL, Acc.name, rowName] <;> omega), ?_⟩))
  refine WpL.nil (logsOk_of (cs := [0, 0, 3, 7, 0, 0, 48, 112, 255]) (by decide +kernel) ?_) ?_
  · simp +contextual [allP, apP, Dis, acc_rd, acc_wr, accw_rd, accw_wr, Nat.testBit]
  refine WpC.cond rfl (fun hb => by simp at hb) (fun _ => ?_)
  repeat' (first
    | refine WpC.seq ?_
    | refine WpC.region ?_
    | refine WpC.drawn ?_
    | refine WpC.skip ?_
    | refine WpC.block ?_
    | refine WpC.exit ?_
    | refine WpC.ret ?_
    | refine WpO.nil ?_
    | refine WpO.cons rfl rfl (WpX.pure (fun _ => rfl) ⟨nolog, ?_⟩)
    | refine WpO.skip rfl rfl ?_
    | refine WpL.cons rfl rfl (WpX.pure (fun _ => rfl) ⟨nolog, ?_⟩)
    | refine WpL.skip rfl rfl ?_
    | refine seqQ_normal ?_
    | refine seqQ_ret ?_
    | refine seqQ_exit ?_
    | refine blkQ_normal ?_
    | refine blkQ_ret ?_
    | refine blkQ_out rfl ?_
    | refine blkQ_by rfl ?_)
  refine ⟨i + 1, by omega, ?_, by omega, rfl, rfl⟩
  rw [hw1]
  exact set3 rfl rfl rfl

/-- Look, of a handle that is held. -/
theorem rlook_ok {h : HH} {c q i : Nat} {vB vP vS vC : V} {st : St} {a ln cnt at' n : Int} (r : RefAt h c q vB vP vS vC st) (hlen : st.rows.length ≤ 1000) (hq : st.rows[i]? = some (a, ln, cnt)) (hq0 : cnt > 0) (ha : 0 ≤ a) (hl : 0 ≤ ln) (hal : a + ln ≤ st.bs.length) (hb : st.bs.length ≤ 10000000) (hb0 : 0 < st.bs.length)
    (h64 : -9223372036854775808 ≤ at' ∧ at' ≤ 9223372036854775807 ∧ -9223372036854775808 ≤ n ∧ n ≤ 9223372036854775807) :
    Does 76 [.ptr (some (q, 0)), I ((i : Int) + 1), I at', I n] h c (rn q vB vP vS vC) fun v h' c' =>
      ((0 ≤ at' ∧ 0 ≤ n ∧ at' ≤ ln ∧ n ≤ ln - at') ∧ ∃ v1, v = .tuple [v1, .bool true] ∧ ByteSl h' v1 ((st.bs.drop (a + at').toNat).take n.toNat) ∧ (∀ x ∈ rowName v1, c ≤ x ∧ x < c') ∧ ∀ x, x < c → MapI.get h' x = MapI.get h x) ∨
      (¬ (0 ≤ at' ∧ 0 ≤ n ∧ at' ≤ ln ∧ n ≤ ln - at') ∧ v = .tuple [.slice none 0 (.known 0), .bool false] ∧ h' = h ∧ c' = c) := by
  have hi := (List.getElem?_eq_some_iff.1 hq).1
  have hobj := r.obj
  obtain ⟨s, cap, rfl, hs⟩ := r.sz.shapeN (List.length_map _)
  obtain ⟨rfl, sn, cl, junk, rfl, hsn, hg, hj⟩ := hs i hi
  obtain ⟨s2, cap2, rfl, hs2⟩ := r.pl.shapeN (List.length_map _)
  obtain ⟨rfl, sn2, cl2, junk2, rfl, hsn2, hg2, hj2⟩ := hs2 i hi
  have hw : IntKind.i64.wrap ((i : Int) + 1 - 1) = (i : Int) := by rw [Go.IntWalk.i64_in _ (by omega)]; omega
  have hwo : 0 + (IntKind.i64.wrap ((i : Int) + 1 - 1)).toNat * 1 = i := by rw [hw]; simp
  have hz : nth (flat intV (st.rows.map fun r => r.2.1) ++ junk) (0 + (IntKind.i64.wrap ((i : Int) + 1 - 1)).toNat * 1) = some (I ln) := by
    rw [hwo]; exact nthI (by rw [List.getElem?_map, hq]; rfl) junk
  have hz2 : nth (flat intV (st.rows.map fun r => r.1) ++ junk2) (0 + (IntKind.i64.wrap ((i : Int) + 1 - 1)).toNat * 1) = some (I a) := by
    rw [hwo]; exact nthI (by rw [List.getElem?_map, hq]; rfl) junk2
  refine does_of (enter (fn := Try.f76) Try.func76 rfl rfl (Nat.le_of_ble_eq_true rfl) ?_)
  repeat' (first
    | refine WpC.seq ?_
    | refine WpC.region ?_
    | refine WpC.drawn ?_
    | refine WpC.skip ?_
    | refine WpC.block ?_
    | refine WpC.exit ?_
    | refine WpC.ret ?_
    | refine WpO.nil ?_
    | refine WpO.cons rfl rfl (WpX.pure (fun _ => rfl) ⟨nolog, ?_⟩)
    | refine WpO.skip rfl rfl ?_
    | refine WpL.cons rfl rfl (WpX.pure (fun _ => rfl) ⟨nolog, ?_⟩)
    | refine WpL.skip rfl rfl ?_
    | refine seqQ_normal ?_
    | refine seqQ_ret ?_
    | refine seqQ_exit ?_
    | refine blkQ_normal ?_
    | refine blkQ_ret ?_
    | refine blkQ_out rfl ?_
    | refine blkQ_by rfl ?_)
  refine WpO.cons rfl rfl (call_at rfl (there_ok r hlen) (fun x hx => .inl hx) (Nat.le_refl _) fun v h4 c4 hc4 hfr4 hq4 => ?_)
  obtain ⟨rfl, rfl, hq4⟩ := hq4
  rcases hq4 with ⟨i', x', hi', hx', _, rfl⟩ | ⟨hno, _⟩
  case inr => exact absurd hq0 (hno i _ rfl hq)
  by_cases g1 : at' < 0
  · have e1 : decide (at' < 0) = true := by simpa using g1
    repeat' (first
      | refine WpC.seq ?_
      | refine WpC.region ?_
      | refine WpC.drawn ?_
      | refine WpC.skip ?_
      | refine WpC.block ?_
      | refine WpC.exit ?_
      | refine WpC.ret ?_
      | refine WpO.nil ?_
      | refine WpO.cons rfl rfl (WpX.pure (fun _ => rfl) ⟨nolog, ?_⟩)
      | refine WpO.skip rfl rfl ?_
      | refine WpL.cons rfl rfl (WpX.pure (fun _ => rfl) ⟨nolog, ?_⟩)
      | refine WpL.skip rfl rfl ?_
      | refine seqQ_normal ?_
      | refine seqQ_ret ?_
      | refine seqQ_exit ?_
      | refine blkQ_normal ?_
      | refine blkQ_ret ?_
      | refine blkQ_out rfl ?_
      | refine blkQ_by rfl ?_)
    simp only [e1]
    repeat' (first
      | refine WpC.seq ?_
      | refine WpC.region ?_
      | refine WpC.drawn ?_
      | refine WpC.skip ?_
      | refine WpC.block ?_
      | refine WpC.exit ?_
      | refine WpC.ret ?_
      | refine WpO.nil ?_
      | refine WpO.cons rfl rfl (WpX.pure (fun _ => rfl) ⟨nolog, ?_⟩)
      | refine WpO.skip rfl rfl ?_
      | refine WpL.cons rfl rfl (WpX.pure (fun _ => rfl) ⟨nolog, ?_⟩)
      | refine WpL.skip rfl rfl ?_
      | refine seqQ_normal ?_
      | refine seqQ_ret ?_
      | refine seqQ_exit ?_
      | refine blkQ_normal ?_
      | refine blkQ_ret ?_
      | refine blkQ_out rfl ?_
      | refine blkQ_by rfl ?_)
    refine WpC.cond rfl (fun _ => ?_) (fun hb => by cases hb)
    repeat' (first
      | refine WpC.seq ?_
      | refine WpC.region ?_
      | refine WpC.drawn ?_
      | refine WpC.skip ?_
      | refine WpC.block ?_
      | refine WpC.exit ?_
      | refine WpC.ret ?_
      | refine WpO.nil ?_
      | refine WpO.cons rfl rfl (WpX.pure (fun _ => rfl) ⟨nolog, ?_⟩)
      | refine WpO.skip rfl rfl ?_
      | refine WpL.cons rfl rfl (WpX.pure (fun _ => rfl) ⟨nolog, ?_⟩)
      | refine WpL.skip rfl rfl ?_
      | refine seqQ_normal ?_
      | refine seqQ_ret ?_
      | refine seqQ_exit ?_
      | refine blkQ_normal ?_
      | refine blkQ_ret ?_
      | refine blkQ_out rfl ?_
      | refine blkQ_by rfl ?_)
    exact out_ret rfl (.inr ⟨by omega, rfl, rfl, rfl⟩)
  have e1 : decide (at' < 0) = false := by simpa using g1
  by_cases g2 : n < 0
  · have e2 : decide (n < 0) = true := by simpa using g2
    repeat' (first
      | refine WpC.seq ?_
      | refine WpC.region ?_
      | refine WpC.drawn ?_
      | refine WpC.skip ?_
      | refine WpC.block ?_
      | refine WpC.exit ?_
      | refine WpC.ret ?_
      | refine WpO.nil ?_
      | refine WpO.cons rfl rfl (WpX.pure (fun _ => rfl) ⟨nolog, ?_⟩)
      | refine WpO.skip rfl rfl ?_
      | refine WpL.cons rfl rfl (WpX.pure (fun _ => rfl) ⟨nolog, ?_⟩)
      | refine WpL.skip rfl rfl ?_
      | refine seqQ_normal ?_
      | refine seqQ_ret ?_
      | refine seqQ_exit ?_
      | refine blkQ_normal ?_
      | refine blkQ_ret ?_
      | refine blkQ_out rfl ?_
      | refine blkQ_by rfl ?_)
    simp only [e1]
    repeat' (first
      | refine WpC.seq ?_
      | refine WpC.region ?_
      | refine WpC.drawn ?_
      | refine WpC.skip ?_
      | refine WpC.block ?_
      | refine WpC.exit ?_
      | refine WpC.ret ?_
      | refine WpO.nil ?_
      | refine WpO.cons rfl rfl (WpX.pure (fun _ => rfl) ⟨nolog, ?_⟩)
      | refine WpO.skip rfl rfl ?_
      | refine WpL.cons rfl rfl (WpX.pure (fun _ => rfl) ⟨nolog, ?_⟩)
      | refine WpL.skip rfl rfl ?_
      | refine seqQ_normal ?_
      | refine seqQ_ret ?_
      | refine seqQ_exit ?_
      | refine blkQ_normal ?_
      | refine blkQ_ret ?_
      | refine blkQ_out rfl ?_
      | refine blkQ_by rfl ?_)
    simp only [e2]
    repeat' (first
      | refine WpC.seq ?_
      | refine WpC.region ?_
      | refine WpC.drawn ?_
      | refine WpC.skip ?_
      | refine WpC.block ?_
      | refine WpC.exit ?_
      | refine WpC.ret ?_
      | refine WpO.nil ?_
      | refine WpO.cons rfl rfl (WpX.pure (fun _ => rfl) ⟨nolog, ?_⟩)
      | refine WpO.skip rfl rfl ?_
      | refine WpL.cons rfl rfl (WpX.pure (fun _ => rfl) ⟨nolog, ?_⟩)
      | refine WpL.skip rfl rfl ?_
      | refine seqQ_normal ?_
      | refine seqQ_ret ?_
      | refine seqQ_exit ?_
      | refine blkQ_normal ?_
      | refine blkQ_ret ?_
      | refine blkQ_out rfl ?_
      | refine blkQ_by rfl ?_)
    refine WpC.cond rfl (fun _ => ?_) (fun hb => by cases hb)
    repeat' (first
      | refine WpC.seq ?_
      | refine WpC.region ?_
      | refine WpC.drawn ?_
      | refine WpC.skip ?_
      | refine WpC.block ?_
      | refine WpC.exit ?_
      | refine WpC.ret ?_
      | refine WpO.nil ?_
      | refine WpO.cons rfl rfl (WpX.pure (fun _ => rfl) ⟨nolog, ?_⟩)
      | refine WpO.skip rfl rfl ?_
      | refine WpL.cons rfl rfl (WpX.pure (fun _ => rfl) ⟨nolog, ?_⟩)
      | refine WpL.skip rfl rfl ?_
      | refine seqQ_normal ?_
      | refine seqQ_ret ?_
      | refine seqQ_exit ?_
      | refine blkQ_normal ?_
      | refine blkQ_ret ?_
      | refine blkQ_out rfl ?_
      | refine blkQ_by rfl ?_)
    exact out_ret rfl (.inr ⟨by omega, rfl, rfl, rfl⟩)
  have e2 : decide (n < 0) = false := by simpa using g2
  by_cases g3 : at' > ln
  · have e3 : decide (at' > ln) = true := by simpa using g3
    repeat' (first
      | refine WpC.seq ?_
      | refine WpC.region ?_
      | refine WpC.drawn ?_
      | refine WpC.skip ?_
      | refine WpC.block ?_
      | refine WpC.exit ?_
      | refine WpC.ret ?_
      | refine WpO.nil ?_
      | refine WpO.cons rfl rfl (WpX.pure (fun _ => rfl) ⟨nolog, ?_⟩)
      | refine WpO.skip rfl rfl ?_
      | refine WpL.cons rfl rfl (WpX.pure (fun _ => rfl) ⟨nolog, ?_⟩)
      | refine WpL.skip rfl rfl ?_
      | refine seqQ_normal ?_
      | refine seqQ_ret ?_
      | refine seqQ_exit ?_
      | refine blkQ_normal ?_
      | refine blkQ_ret ?_
      | refine blkQ_out rfl ?_
      | refine blkQ_by rfl ?_)
    simp only [e1]
    repeat' (first
      | refine WpC.seq ?_
      | refine WpC.region ?_
      | refine WpC.drawn ?_
      | refine WpC.skip ?_
      | refine WpC.block ?_
      | refine WpC.exit ?_
      | refine WpC.ret ?_
      | refine WpO.nil ?_
      | refine WpO.cons rfl rfl (WpX.pure (fun _ => rfl) ⟨nolog, ?_⟩)
      | refine WpO.skip rfl rfl ?_
      | refine WpL.cons rfl rfl (WpX.pure (fun _ => rfl) ⟨nolog, ?_⟩)
      | refine WpL.skip rfl rfl ?_
      | refine seqQ_normal ?_
      | refine seqQ_ret ?_
      | refine seqQ_exit ?_
      | refine blkQ_normal ?_
      | refine blkQ_ret ?_
      | refine blkQ_out rfl ?_
      | refine blkQ_by rfl ?_)
    simp only [e2]
    repeat' (first
      | refine WpC.seq ?_
      | refine WpC.region ?_
      | refine WpC.drawn ?_
      | refine WpC.skip ?_
      | refine WpC.block ?_
      | refine WpC.exit ?_
      | refine WpC.ret ?_
      | refine WpO.nil ?_
      | refine WpO.cons rfl rfl (WpX.pure (fun _ => rfl) ⟨nolog, ?_⟩)
      | refine WpO.skip rfl rfl ?_
      | refine WpL.cons rfl rfl (WpX.pure (fun _ => rfl) ⟨nolog, ?_⟩)
      | refine WpL.skip rfl rfl ?_
      | refine seqQ_normal ?_
      | refine seqQ_ret ?_
      | refine seqQ_exit ?_
      | refine blkQ_normal ?_
      | refine blkQ_ret ?_
      | refine blkQ_out rfl ?_
      | refine blkQ_by rfl ?_
      | refine WpO.cons rfl rfl (op_load rfl rfl rfl hobj rfl ⟨(by simp [InL, Acc.name, rowName] <;> omega), ?_⟩)
      | refine WpL.cons rfl rfl (op_load rfl rfl rfl hobj rfl ⟨(by simp [InL, Acc.name, rowName] <;> omega), ?_⟩)
      | refine WpO.cons rfl rfl (op_indexAddr (k := 1) rfl rfl rfl rfl ⟨by omega, by omega⟩ ⟨(by simp [InL, Acc.name, rowName] <;> omega), ?_⟩)
      | refine WpL.cons rfl rfl (op_indexAddr (k := 1) rfl rfl rfl rfl ⟨by omega, by omega⟩ ⟨(by simp [InL, Acc.name, rowName] <;> omega), ?_⟩)
      | refine WpO.cons rfl rfl (op_load rfl rfl rfl hg hz ⟨(by simp [InL, Acc.name, rowName] <;> omega), ?_⟩)
      | refine WpL.cons rfl rfl (op_load rfl rfl rfl hg hz ⟨(by simp [InL, Acc.name, rowName] <;> omega), ?_⟩))
    simp only [e3]
    repeat' (first
      | refine WpC.seq ?_
      | refine WpC.region ?_
      | refine WpC.drawn ?_
      | refine WpC.skip ?_
      | refine WpC.block ?_
      | refine WpC.exit ?_
      | refine WpC.ret ?_
      | refine WpO.nil ?_
      | refine WpO.cons rfl rfl (WpX.pure (fun _ => rfl) ⟨nolog, ?_⟩)
      | refine WpO.skip rfl rfl ?_
      | refine WpL.cons rfl rfl (WpX.pure (fun _ => rfl) ⟨nolog, ?_⟩)
      | refine WpL.skip rfl rfl ?_
      | refine seqQ_normal ?_
      | refine seqQ_ret ?_
      | refine seqQ_exit ?_
      | refine blkQ_normal ?_
      | refine blkQ_ret ?_
      | refine blkQ_out rfl ?_
      | refine blkQ_by rfl ?_)
    refine WpC.cond rfl (fun _ => ?_) (fun hb => by cases hb)
    repeat' (first
      | refine WpC.seq ?_
      | refine WpC.region ?_
      | refine WpC.drawn ?_
      | refine WpC.skip ?_
      | refine WpC.block ?_
      | refine WpC.exit ?_
      | refine WpC.ret ?_
      | refine WpO.nil ?_
      | refine WpO.cons rfl rfl (WpX.pure (fun _ => rfl) ⟨nolog, ?_⟩)
      | refine WpO.skip rfl rfl ?_
      | refine WpL.cons rfl rfl (WpX.pure (fun _ => rfl) ⟨nolog, ?_⟩)
      | refine WpL.skip rfl rfl ?_
      | refine seqQ_normal ?_
      | refine seqQ_ret ?_
      | refine seqQ_exit ?_
      | refine blkQ_normal ?_
      | refine blkQ_ret ?_
      | refine blkQ_out rfl ?_
      | refine blkQ_by rfl ?_)
    exact out_ret rfl (.inr ⟨by omega, rfl, rfl, rfl⟩)
  have e3 : decide (at' > ln) = false := by simpa using g3
  have hwl : IntKind.i64.wrap (ln - at') = ln - at' := Go.IntWalk.i64_in _ (by omega)
  repeat' (first
    | refine WpC.seq ?_
    | refine WpC.region ?_
    | refine WpC.drawn ?_
    | refine WpC.skip ?_
    | refine WpC.block ?_
    | refine WpC.exit ?_
    | refine WpC.ret ?_
    | refine WpO.nil ?_
    | refine WpO.cons rfl rfl (WpX.pure (fun _ => rfl) ⟨nolog, ?_⟩)
    | refine WpO.skip rfl rfl ?_
    | refine WpL.cons rfl rfl (WpX.pure (fun _ => rfl) ⟨nolog, ?_⟩)
    | refine WpL.skip rfl rfl ?_
    | refine seqQ_normal ?_
    | refine seqQ_ret ?_
    | refine seqQ_exit ?_
    | refine blkQ_normal ?_
    | refine blkQ_ret ?_
    | refine blkQ_out rfl ?_
    | refine blkQ_by rfl ?_)
  simp only [e1]
  repeat' (first
    | refine WpC.seq ?_
    | refine WpC.region ?_
    | refine WpC.drawn ?_
    | refine WpC.skip ?_
    | refine WpC.block ?_
    | refine WpC.exit ?_
    | refine WpC.ret ?_
    | refine WpO.nil ?_
    | refine WpO.cons rfl rfl (WpX.pure (fun _ => rfl) ⟨nolog, ?_⟩)
    | refine WpO.skip rfl rfl ?_
    | refine WpL.cons rfl rfl (WpX.pure (fun _ => rfl) ⟨nolog, ?_⟩)
    | refine WpL.skip rfl rfl ?_
    | refine seqQ_normal ?_
    | refine seqQ_ret ?_
    | refine seqQ_exit ?_
    | refine blkQ_normal ?_
    | refine blkQ_ret ?_
    | refine blkQ_out rfl ?_
    | refine blkQ_by rfl ?_)
  simp only [e2]
  repeat' (first
    | refine WpC.seq ?_
    | refine WpC.region ?_
    | refine WpC.drawn ?_
    | refine WpC.skip ?_
    | refine WpC.block ?_
    | refine WpC.exit ?_
    | refine WpC.ret ?_
    | refine WpO.nil ?_
    | refine WpO.cons rfl rfl (WpX.pure (fun _ => rfl) ⟨nolog, ?_⟩)
    | refine WpO.skip rfl rfl ?_
    | refine WpL.cons rfl rfl (WpX.pure (fun _ => rfl) ⟨nolog, ?_⟩)
    | refine WpL.skip rfl rfl ?_
    | refine seqQ_normal ?_
    | refine seqQ_ret ?_
    | refine seqQ_exit ?_
    | refine blkQ_normal ?_
    | refine blkQ_ret ?_
    | refine blkQ_out rfl ?_
    | refine blkQ_by rfl ?_
    | refine WpO.cons rfl rfl (op_load rfl rfl rfl hobj rfl ⟨(by simp [InL, Acc.name, rowName] <;> omega), ?_⟩)
    | refine WpL.cons rfl rfl (op_load rfl rfl rfl hobj rfl ⟨(by simp [InL, Acc.name, rowName] <;> omega), ?_⟩)
    | refine WpO.cons rfl rfl (op_indexAddr (k := 1) rfl rfl rfl rfl ⟨by omega, by omega⟩ ⟨(by simp [InL, Acc.name, rowName] <;> omega), ?_⟩)
    | refine WpL.cons rfl rfl (op_indexAddr (k := 1) rfl rfl rfl rfl ⟨by omega, by omega⟩ ⟨(by simp [InL, Acc.name, rowName] <;> omega), ?_⟩)
    | refine WpO.cons rfl rfl (op_load rfl rfl rfl hg hz ⟨(by simp [InL, Acc.name, rowName] <;> omega), ?_⟩)
    | refine WpL.cons rfl rfl (op_load rfl rfl rfl hg hz ⟨(by simp [InL, Acc.name, rowName] <;> omega), ?_⟩))
  simp only [e3]
  repeat' (first
    | refine WpC.seq ?_
    | refine WpC.region ?_
    | refine WpC.drawn ?_
    | refine WpC.skip ?_
    | refine WpC.block ?_
    | refine WpC.exit ?_
    | refine WpC.ret ?_
    | refine WpO.nil ?_
    | refine WpO.cons rfl rfl (WpX.pure (fun _ => rfl) ⟨nolog, ?_⟩)
    | refine WpO.skip rfl rfl ?_
    | refine WpL.cons rfl rfl (WpX.pure (fun _ => rfl) ⟨nolog, ?_⟩)
    | refine WpL.skip rfl rfl ?_
    | refine seqQ_normal ?_
    | refine seqQ_ret ?_
    | refine seqQ_exit ?_
    | refine blkQ_normal ?_
    | refine blkQ_ret ?_
    | refine blkQ_out rfl ?_
    | refine blkQ_by rfl ?_
    | refine WpO.cons rfl rfl (op_load rfl rfl rfl hobj rfl ⟨(by simp [InL, Acc.name, rowName] <;> omega), ?_⟩)
    | refine WpL.cons rfl rfl (op_load rfl rfl rfl hobj rfl ⟨(by simp [InL, Acc.name, rowName] <;> omega), ?_⟩)
    | refine WpO.cons rfl rfl (op_indexAddr (k := 1) rfl rfl rfl rfl ⟨by omega, by omega⟩ ⟨(by simp [InL, Acc.name, rowName] <;> omega), ?_⟩)
    | refine WpL.cons rfl rfl (op_indexAddr (k := 1) rfl rfl rfl rfl ⟨by omega, by omega⟩ ⟨(by simp [InL, Acc.name, rowName] <;> omega), ?_⟩)
    | refine WpO.cons rfl rfl (op_load rfl rfl rfl hg hz ⟨(by simp [InL, Acc.name, rowName] <;> omega), ?_⟩)
    | refine WpL.cons rfl rfl (op_load rfl rfl rfl hg hz ⟨(by simp [InL, Acc.name, rowName] <;> omega), ?_⟩))
  refine WpC.cond rfl (fun g4 => ?_) (fun g4 => ?_)
  · rw [hwl] at g4
    have g4 : n > ln - at' := by simpa using g4
    repeat' (first
      | refine WpC.seq ?_
      | refine WpC.region ?_
      | refine WpC.drawn ?_
      | refine WpC.skip ?_
      | refine WpC.block ?_
      | refine WpC.exit ?_
      | refine WpC.ret ?_
      | refine WpO.nil ?_
      | refine WpO.cons rfl rfl (WpX.pure (fun _ => rfl) ⟨nolog, ?_⟩)
      | refine WpO.skip rfl rfl ?_
      | refine WpL.cons rfl rfl (WpX.pure (fun _ => rfl) ⟨nolog, ?_⟩)
      | refine WpL.skip rfl rfl ?_
      | refine seqQ_normal ?_
      | refine seqQ_ret ?_
      | refine seqQ_exit ?_
      | refine blkQ_normal ?_
      | refine blkQ_ret ?_
      | refine blkQ_out rfl ?_
      | refine blkQ_by rfl ?_)
    exact out_ret rfl (.inr ⟨by omega, rfl, rfl, rfl⟩)
  rw [hwl] at g4
  have g4 : ¬ n > ln - at' := by simpa using g4
  obtain ⟨sb, capb, hvb, hsb⟩ := r.b.shape
  subst hvb
  obtain ⟨rfl, sbn, clb, jkb, rfl, hsbn, hgb, hjb⟩ := hsb 0 hb0
  have hw2 : IntKind.i64.wrap (a + at') = (((a + at').toNat : Nat) : Int) := by rw [Go.IntWalk.i64_in _ (by omega)]; omega
  have hw3 : IntKind.i64.wrap (IntKind.i64.wrap (a + at') + n) = (((a + at').toNat + n.toNat : Nat) : Int) := by rw [hw2, Go.IntWalk.i64_in _ (by omega)]; omega
  have hcut : cut (flat byteV st.bs ++ jkb) (0 + (a + at').toNat * (0 + 1)) (((a + at').toNat + n.toNat - (a + at').toNat) * 1) = some (flat byteV ((st.bs.drop (a + at').toNat).take n.toNat)) := by
    rw [show 0 + (a + at').toNat * (0 + 1) = (a + at').toNat from by simp, show ((a + at').toNat + n.toNat - (a + at').toNat) * 1 = n.toNat from by omega]
    exact cut_bytes (by omega)
  have hlx : ((st.bs.drop (a + at').toNat).take n.toNat).length = (a + at').toNat + n.toNat - (a + at').toNat := by rw [List.length_take, List.length_drop]; omega
  repeat' (first
    | refine WpC.seq ?_
    | refine WpC.region ?_
    | refine WpC.drawn ?_
    | refine WpC.skip ?_
    | refine WpC.block ?_
    | refine WpC.exit ?_
    | refine WpC.ret ?_
    | refine WpO.nil ?_
    | refine WpO.cons rfl rfl (WpX.pure (fun _ => rfl) ⟨nolog, ?_⟩)
    | refine WpO.skip rfl rfl ?_
    | refine WpL.cons rfl rfl (WpX.pure (fun _ => rfl) ⟨nolog, ?_⟩)
    | refine WpL.skip rfl rfl ?_
    | refine seqQ_normal ?_
    | refine seqQ_ret ?_
    | refine seqQ_exit ?_
    | refine blkQ_normal ?_
    | refine blkQ_ret ?_
    | refine blkQ_out rfl ?_
    | refine blkQ_by rfl ?_
    | refine WpO.cons rfl rfl (op_load rfl rfl rfl hobj rfl ⟨(by simp [InL, Acc.name, rowName] <;> omega), ?_⟩)
    | refine WpL.cons rfl rfl (op_load rfl rfl rfl hobj rfl ⟨(by simp [InL, Acc.name, rowName] <;> omega), ?_⟩)
    | refine WpO.cons rfl rfl (op_indexAddr (k := 1) rfl rfl rfl rfl ⟨by omega, by omega⟩ ⟨(by simp [InL, Acc.name, rowName] <;> omega), ?_⟩)
    | refine WpL.cons rfl rfl (op_indexAddr (k := 1) rfl rfl rfl rfl ⟨by omega, by omega⟩ ⟨(by simp [InL, Acc.name, rowName] <;> omega), ?_⟩)
    | refine WpO.cons rfl rfl (op_load rfl rfl rfl hg2 hz2 ⟨(by simp [InL, Acc.name, rowName] <;> omega), ?_⟩)
    | refine WpL.cons rfl rfl (op_load rfl rfl rfl hg2 hz2 ⟨(by simp [InL, Acc.name, rowName] <;> omega), ?_⟩)
    | refine WpO.cons rfl rfl (op_slice rfl rfl rfl rfl rfl (bound_at hw2) (bound_at hw3) (by omega) (by omega) rfl ⟨(by simp [InL, Acc.name, rowName] <;> omega), ?_⟩)
    | refine WpL.cons rfl rfl (op_slice rfl rfl rfl rfl rfl (bound_at hw2) (bound_at hw3) (by omega) (by omega) rfl ⟨(by simp [InL, Acc.name, rowName] <;> omega), ?_⟩))
  refine WpO.cons rfl rfl (append_at (cells := byteV) (xs := []) (ys := (st.bs.drop (a + at').toNat).take n.toNat) rfl rfl elB rfl byte_len byte_all .nil hgb hcut hlx (by simp; omega) (.inl (by simp [acc_rd, rowName])) (fun a ha => by cases ha) (.inr (by simp [acc_wr])) fun v6 h6 c6 hl6 hn6 hc6 hf6 => ?_)
  repeat' (first
    | refine WpC.seq ?_
    | refine WpC.region ?_
    | refine WpC.drawn ?_
    | refine WpC.skip ?_
    | refine WpC.block ?_
    | refine WpC.exit ?_
    | refine WpC.ret ?_
    | refine WpO.nil ?_
    | refine WpO.cons rfl rfl (WpX.pure (fun _ => rfl) ⟨nolog, ?_⟩)
    | refine WpO.skip rfl rfl ?_
    | refine WpL.cons rfl rfl (WpX.pure (fun _ => rfl) ⟨nolog, ?_⟩)
    | refine WpL.skip rfl rfl ?_
    | refine seqQ_normal ?_
    | refine seqQ_ret ?_
    | refine seqQ_exit ?_
    | refine blkQ_normal ?_
    | refine blkQ_ret ?_
    | refine blkQ_out rfl ?_
    | refine blkQ_by rfl ?_)
  refine out_ret rfl (.inl ⟨⟨by omega, by omega, by omega, by omega⟩, v6, rfl, ?_, ?_, ?_⟩)
  · rw [List.nil_append] at hl6
    rcases hl6 with ⟨rfl, h0⟩ | ⟨m, cl, junk, rfl, hm, hgm, hj⟩
    · exact .inl ⟨none, .known 0, rfl, h0⟩
    · by_cases h0 : ((st.bs.drop (a + at').toNat).take n.toNat).length = 0
      · exact .inl ⟨some (m, 0), .upTo 1, by rw [h0], List.length_eq_zero_iff.1 h0⟩
      · refine .inr ⟨m, 0, _, .upTo 1, true, cl, _, rfl, rfl, by omega, hgm, ?_⟩
        have := cut_bytes (bs := (st.bs.drop (a + at').toNat).take n.toNat) (junk := junk) (L := 0) (n := ((st.bs.drop (a + at').toNat).take n.toNat).length) (by omega)
        rw [List.drop_zero, List.take_of_length_le (Nat.le_refl _)] at this
        exact this
  · intro x hx
    rcases hn6 x hx with h | ⟨h, h2⟩
    · cases h
    · omega
  · intro x hx
    exact hf6 x (by omega) (fun hm => by cases hm)
end Go.Proofs.Ytempfmkicpifkaa


set_option linter.unusedVariables false
set_option linter.unusedSectionVars false
set_option linter.unusedSimpArgs false
set_option linter.unnecessarySimpa false
namespace Go.Proofs.Ytempfmkicpifkaa
open Go.Ab

/-- Where row j lies when k rows are laid, in the order. -/
def sat (rows : List R3) (k j : Nat) : Int := match (slid rows ((order rows).take k)).1[j]? with
  | some q => q.1
  | none => 0
/-- The places, k of them marked. -/
def mrk (rows : List R3) (was : Int) (k : Nat) : List Int := rows.mapIdx fun j q => if j ∈ (order rows).take k then sat rows k j - was - 1 else q.1
theorem mrk_length (rows : List R3) (was : Int) (k : Nat) : (mrk rows was k).length = rows.length := by simp [mrk]
theorem mrk_get {rows : List R3} {was : Int} {k j : Nat} {q : R3} (h : rows[j]? = some q) : (mrk rows was k)[j]? = some (if j ∈ (order rows).take k then sat rows k j - was - 1 else q.1) := by
  unfold mrk
  rw [List.getElem?_mapIdx, h]; rfl
theorem mrk_zero (rows : List R3) (was : Int) : mrk rows was 0 = rows.map fun q => q.1 := by
  apply List.ext_getElem?
  intro j
  cases h : rows[j]? with
  | none =>
    rw [List.getElem?_map, h, List.getElem?_eq_none (by rw [mrk_length]; exact List.getElem?_eq_none_iff.1 h)]; rfl
  | some q => rw [mrk_get h, List.getElem?_map, h]; simp
theorem sat_other {rows : List R3} {k i j : Nat} (hi : (order rows)[k]? = some i) (hj : j ≠ i) : sat rows (k + 1) j = sat rows k j := by
  unfold sat
  rw [take_snoc hi, slid_snoc, stp_other hj]
theorem sat_at {n : Nat} {rows : List R3} (hl : Lies n rows) {k i : Nat} {q : R3} (hi : (order rows)[k]? = some i) (hq : rows[i]? = some q) : sat rows (k + 1) i = (slid rows ((order rows).take k)).2 := by
  have o := order_ord hl
  unfold sat
  rw [o.next hl hi hq]
  have : i < (slid rows ((order rows).take k)).1.length := by rw [slid_length]; exact (List.getElem?_eq_some_iff.1 hq).1
  simp [this]
theorem mem_take_succ {l : List Nat} {k i j : Nat} (hi : l[k]? = some i) : j ∈ l.take (k + 1) ↔ j ∈ l.take k ∨ j = i := by
  rw [take_snoc hi]; simp
/-- One more is marked. -/
theorem mrk_set {n : Nat} {rows : List R3} (hl : Lies n rows) (was : Int) {k i : Nat} {q : R3} (hi : (order rows)[k]? = some i) (hq : rows[i]? = some q) : (mrk rows was k).set i ((slid rows ((order rows).take k)).2 - was - 1) = mrk rows was (k + 1) := by
  apply List.ext_getElem?
  intro j
  cases h : rows[j]? with
  | none =>
    have h' := List.getElem?_eq_none_iff.1 h
    rw [List.getElem?_eq_none (by rw [List.length_set, mrk_length]; exact h'), List.getElem?_eq_none (by rw [mrk_length]; exact h')]
  | some p =>
    rw [mrk_get h, List.getElem?_set]
    by_cases e : i = j
    · subst e
      have hlt := (List.getElem?_eq_some_iff.1 h).1
      rw [if_pos rfl, if_pos (by rw [mrk_length]; exact hlt), if_pos ((mem_take_succ hi).2 (.inr rfl)), sat_at hl hi hq]
    · rw [if_neg e, mrk_get h, sat_other hi (Ne.symm e)]
      by_cases m : j ∈ (order rows).take k
      · rw [if_pos m, if_pos ((mem_take_succ hi).2 (.inl m))]
      · rw [if_neg m, if_neg (fun x => by
          rcases (mem_take_succ hi).1 x with h | h
          · exact m h
          · exact e h.symm)]
/-- The scan: k rows of the order are behind it. -/
structure Mid (rows : List R3) (at' i k : Nat) : Prop where
  le : k ≤ (order rows).length
  lo : ∀ (j x : Nat) (q : R3), j < k → (order rows)[j]? = some x → rows[x]? = some q → q.1 < at' ∨ (q.1 = at' ∧ x < i)
  hi : ∀ (j x : Nat) (q : R3), k ≤ j → (order rows)[j]? = some x → rows[x]? = some q → at' < q.1 ∨ (q.1 = at' ∧ i ≤ x)
theorem Mid.start {n : Nat} {rows : List R3} (hl : Lies n rows) : Mid rows 0 0 0 :=
  ⟨Nat.zero_le _, fun j x q h => by omega, fun j x q _ h1 h2 => by
    obtain ⟨q', h3, h4⟩ := (order_ord hl).row h1
    rw [h2] at h3; cases h3
    have := hl.in_ x q h2 h4
    omega⟩
theorem Mid.next {rows : List R3} {at' k : Nat} (m : Mid rows at' rows.length k) : Mid rows (at' + 1) 0 k :=
  ⟨m.le, fun j x q h h1 h2 => by have := m.lo j x q h h1 h2; omega, fun j x q h h1 h2 => by
    have h3 := (List.getElem?_eq_some_iff.1 h2).1
    have := m.hi j x q h h1 h2; omega⟩
theorem Mid.skip {n : Nat} {rows : List R3} (hl : Lies n rows) {at' i k : Nat} (m : Mid rows at' i k) (hno : ∀ q, rows[i]? = some q → q.2.2 > 0 → q.1 ≠ at') : Mid rows at' (i + 1) k :=
  ⟨m.le, fun j x q h h1 h2 => by have := m.lo j x q h h1 h2; omega, fun j x q h h1 h2 => by
    rcases m.hi j x q h h1 h2 with e | ⟨e, e2⟩
    · exact .inl e
    · refine .inr ⟨e, ?_⟩
      by_cases hx : x = i
      · subst hx
        obtain ⟨q', h3, h4⟩ := (order_ord hl).row h1
        rw [h2] at h3; cases h3
        exact absurd e (hno q h2 h4)
      · omega⟩
theorem Mid.hit {n : Nat} {rows : List R3} (hl : Lies n rows) {at' i k : Nat} {q : R3} (m : Mid rows at' i k) (hq : rows[i]? = some q) (h0 : q.2.2 > 0) (ha : q.1 = at') : (order rows)[k]? = some i ∧ Mid rows at' (i + 1) (k + 1) := by
  have o := order_ord hl
  obtain ⟨j, hj1, hj2⟩ := List.mem_iff_getElem.1 (o.all i q hq h0)
  have hj : (order rows)[j]? = some i := List.getElem?_eq_some_iff.2 ⟨hj1, hj2⟩
  have below : ∀ {a b x y : Nat} {p r : R3}, a < b → (order rows)[a]? = some x → (order rows)[b]? = some y → rows[x]? = some p → rows[y]? = some r → p.1 < r.1 := fun {a b x y p r} hab h1 h2 h3 h4 => by
    obtain ⟨a1, a2⟩ := List.getElem?_eq_some_iff.1 h1
    obtain ⟨b1, b2⟩ := List.getElem?_eq_some_iff.1 h2
    have := List.pairwise_iff_getElem.1 o.up a b a1 b1 hab p r (by rw [a2]; exact h3) (by rw [b2]; exact h4)
    obtain ⟨p', g1, g2⟩ := o.row h1
    rw [h3] at g1; cases g1
    have := hl.in_ x p h3 g2
    omega
  have hjk : ¬ j < k := fun h => by
    have := m.lo j i q h hj hq
    omega
  have hkj : ¬ k < j := fun h => by
    obtain ⟨y, hy⟩ : ∃ y, (order rows)[k]? = some y := ⟨_, List.getElem?_eq_getElem (by omega)⟩
    obtain ⟨p, g1, g2⟩ := o.row hy
    have h1 := below h hy hj g1 hq
    have h2 := m.hi k y p (Nat.le_refl _) hy g1
    omega
  have e : j = k := by omega
  subst e
  refine ⟨hj, by omega, fun j' x p h h1 h2 => ?_, fun j' x p h h1 h2 => ?_⟩
  · by_cases e : j' = j
    · subst e
      rw [hj] at h1; cases h1
      rw [hq] at h2; cases h2
      exact .inr ⟨ha, by omega⟩
    · have := m.lo j' x p (by omega) h1 h2
      omega
  · have := below (show j < j' by omega) hj h1 hq h2
    exact .inl (by omega)
theorem Mid.done {n : Nat} {rows : List R3} (hl : Lies n rows) {k : Nat} (m : Mid rows n 0 k) : k = (order rows).length := by
  have o := order_ord hl
  by_cases h : k < (order rows).length
  · obtain ⟨x, hx⟩ : ∃ x, (order rows)[k]? = some x := ⟨_, List.getElem?_eq_getElem h⟩
    obtain ⟨p, g1, g2⟩ := o.row hx
    have := hl.in_ x p g1 g2
    have := m.hi k x p (Nat.le_refl _) hx g1
    omega
  · have := m.le; omega
/-- What is marked is below 0; what is not, stands where it stood. -/
theorem mrk_neg {n : Nat} {rows : List R3} (hl : Lies n rows) {k j : Nat} {q : R3} (hq : rows[j]? = some q) (hm : j ∈ (order rows).take k) : sat rows k j - n - 1 < 0 ∧ 0 ≤ sat rows k j := by
  have o := order_ord hl
  obtain ⟨m, hm1, hm2⟩ := List.mem_iff_getElem.1 hm
  have hmk : m < k ∧ m < (order rows).length := by rw [List.length_take] at hm1; omega
  have hj : (order rows)[m]? = some j := by rw [List.getElem_take] at hm2; exact List.getElem?_eq_some_iff.2 ⟨hmk.2, hm2⟩
  have e : sat rows k j = (slid rows ((order rows).take m)).2 := by
    have key : ∀ d, m + 1 + d ≤ k → sat rows (m + 1 + d) j = (slid rows ((order rows).take m)).2 := fun d => by
      induction d with
      | zero => intro _; exact sat_at hl hj hq
      | succ d ih =>
        intro h
        by_cases hd : m + 1 + d < (order rows).length
        · obtain ⟨y, hy⟩ : ∃ y, (order rows)[m + 1 + d]? = some y := ⟨_, List.getElem?_eq_getElem hd⟩
          have hne : j ≠ y := fun e => by
            subst e
            obtain ⟨b1, b2⟩ := List.getElem?_eq_some_iff.1 hy
            exact List.pairwise_iff_getElem.1 (o.nodup hl) m (m + 1 + d) hmk.2 b1 (by omega) (by rw [b2]; exact (List.getElem?_eq_some_iff.1 hj).2)
          rw [show m + 1 + (d + 1) = m + 1 + d + 1 from by omega, sat_other hy hne]
          exact ih (by omega)
        · have : sat rows (m + 1 + (d + 1)) j = sat rows (m + 1 + d) j := by
            unfold sat
            rw [List.take_of_length_le (by omega), List.take_of_length_le (by omega)]
          rw [this]; exact ih (by omega)
    obtain ⟨d, rfl⟩ : ∃ d, k = m + 1 + d := ⟨k - (m + 1), by omega⟩
    exact key d (Nat.le_refl _)
  have h1 := o.nonneg hl m
  have h2 := o.le hl hj hq
  obtain ⟨q', g1, g2⟩ := o.row hj
  rw [hq] at g1; cases g1
  have h3 := hl.in_ j q hq g2
  rw [e]
  omega
/-- When all are unmarked up to row i. -/
def unm (rows : List R3) (was : Int) (i : Nat) : List Int := rows.mapIdx fun j q => if j < i then sat rows (order rows).length j else if j ∈ order rows then sat rows (order rows).length j - was - 1 else q.1
theorem unm_length (rows : List R3) (was : Int) (k : Nat) : (unm rows was k).length = rows.length := by simp [unm]
theorem unm_get {rows : List R3} {was : Int} {k j : Nat} {q : R3} (h : rows[j]? = some q) : (unm rows was k)[j]? = some (if j < k then sat rows (order rows).length j else if j ∈ order rows then sat rows (order rows).length j - was - 1 else q.1) := by
  unfold unm
  rw [List.getElem?_mapIdx, h]; rfl
theorem unm_zero (rows : List R3) (was : Int) : unm rows was 0 = mrk rows was (order rows).length := by
  apply List.ext_getElem?
  intro j
  cases h : rows[j]? with
  | none =>
    have h' := List.getElem?_eq_none_iff.1 h
    rw [List.getElem?_eq_none (by rw [unm_length]; exact h'), List.getElem?_eq_none (by rw [mrk_length]; exact h')]
  | some q =>
    rw [mrk_get h, unm_get h, List.take_of_length_le (Nat.le_refl _), if_neg (Nat.not_lt_zero _)]
theorem sat_dead {rows : List R3} {j : Nat} {q : R3} (hq : rows[j]? = some q) (hn : j ∉ order rows) : sat rows (order rows).length j = q.1 := by
  unfold sat
  rw [List.take_of_length_le (Nat.le_refl _), slid_other rows hn, hq]
theorem unm_set {rows : List R3} (was : Int) {i : Nat} : (unm rows was i).set i (sat rows (order rows).length i) = unm rows was (i + 1) := by
  apply List.ext_getElem?
  intro j
  cases h : rows[j]? with
  | none =>
    have h' := List.getElem?_eq_none_iff.1 h
    rw [List.getElem?_eq_none (by rw [List.length_set, unm_length]; exact h'), List.getElem?_eq_none (by rw [unm_length]; exact h')]
  | some p =>
    have hlt := (List.getElem?_eq_some_iff.1 h).1
    rw [unm_get h, List.getElem?_set]
    by_cases e : i = j
    · subst e
      rw [if_pos rfl, if_pos (by rw [unm_length]; exact hlt), if_pos (Nat.lt_succ_self _)]
    · rw [if_neg e, unm_get h]
      by_cases hj : j < i
      · rw [if_pos hj, if_pos (by omega)]
      · rw [if_neg hj, if_neg (show ¬ j < i + 1 by omega)]
theorem unm_skip {rows : List R3} (was : Int) {i : Nat} {q : R3} (hq : rows[i]? = some q) (hn : i ∉ order rows) : unm rows was i = unm rows was (i + 1) := by
  rw [← unm_set was, sat_dead hq hn]
  symm
  apply List.ext_getElem?
  intro j
  rw [List.getElem?_set]
  by_cases e : i = j
  · subst e
    have hlt := (List.getElem?_eq_some_iff.1 hq).1
    rw [if_pos rfl, if_pos (by rw [unm_length]; exact hlt), unm_get hq, if_neg (Nat.lt_irrefl _), if_neg hn]
  · rw [if_neg e]
theorem unm_all (rows : List R3) (was : Int) : unm rows was rows.length = (slid rows (order rows)).1.map fun q => q.1 := by
  apply List.ext_getElem?
  intro j
  cases h : rows[j]? with
  | none =>
    have h' := List.getElem?_eq_none_iff.1 h
    rw [List.getElem?_eq_none (by rw [unm_length]; exact h'), List.getElem?_eq_none (by rw [List.length_map, slid_length]; exact h')]
  | some q =>
    have hlt := (List.getElem?_eq_some_iff.1 h).1
    obtain ⟨a, ha⟩ := slid_get (order rows) h
    rw [unm_get h, if_pos hlt, List.getElem?_map, ha]
    unfold sat
    rw [List.take_of_length_le (Nat.le_refl _), ha]; rfl
theorem slid_map2 (rows : List R3) (l : List Nat) : (slid rows l).1.map (fun q => q.2.1) = rows.map (fun q => q.2.1) ∧ (slid rows l).1.map (fun q => q.2.2) = rows.map fun q => q.2.2 := by
  have key : ∀ f : Int × Int → Int, (slid rows l).1.map (fun q => f q.2) = rows.map fun q => f q.2 := fun f => by
    apply List.ext_getElem?
    intro j
    have := slid_same rows l j
    rw [List.getElem?_map, List.getElem?_map]
    cases h : rows[j]? with
    | none => rw [h] at this; cases h2 : (slid rows l).1[j]? with
      | none => rfl
      | some p => rw [h2] at this; cases this
    | some q => rw [h] at this; cases h2 : (slid rows l).1[j]? with
      | none => rw [h2] at this; cases this
      | some p => rw [h2] at this; simp at this ⊢; rw [this]
  exact ⟨key fun p => p.1, key fun p => p.2⟩
theorem live_order {n : Nat} {rows : List R3} (hl : Lies n rows) {i : Nat} {q : R3} (hq : rows[i]? = some q) : i ∈ order rows ↔ q.2.2 > 0 := by
  have o := order_ord hl
  refine ⟨fun h => ?_, fun h => o.all i q hq h⟩
  obtain ⟨q', g1, g2⟩ := o.live i h
  rw [hq] at g1; cases g1
  exact g2
end Go.Proofs.Ytempfmkicpifkaa


set_option linter.unusedVariables false
set_option linter.unusedSectionVars false
set_option linter.unusedSimpArgs false
set_option linter.unnecessarySimpa false
namespace Go.Proofs.Ytempfmkicpifkaa
open Go.Ab
set_option maxRecDepth 10000

theorem set5 {X : EE} {k0 k1 k2 k3 k4 : Nat} {v0 v1 v2 v3 v4 : V} (h0 : X k0 = some v0) (h1 : X k1 = some v1) (h2 : X k2 = some v2) (h3 : X k3 = some v3) (h4 : X k4 = some v4) : ∃ b, X = MapI.set (MapI.set (MapI.set (MapI.set (MapI.set b k0 v0) k1 v1) k2 v2) k3 v3) k4 v4 :=
  ⟨X, by rw [FM.add h0, FM.add h1, FM.add h2, FM.add h3, FM.add h4]⟩
/-- What the scan has done. -/
structure Scan (h0 : HH) (c0 : Nat) (vP : V) (st : St) (k : Nat) (h : HH) (c : Nat) (v4 : V) : Prop where
  pl : ListOf 1 intV h c vP (mrk st.rows st.bs.length k)
  o : ListOf 1 byteV h c v4 (outs st.bs st.rows ((order st.rows).take k))
  new : ∀ n ∈ rowName v4, c0 ≤ n
  le : c0 ≤ c
  old : ∀ n, n < c0 → n ∉ rowName vP → MapI.get h n = MapI.get h0 n

set_option maxHeartbeats 16000000 in
theorem rslide_ok {h : HH} {c q : Nat} {vB vP vS vC : V} {st : St} (r : RefAt h c q vB vP vS vC st) (hlen : st.rows.length ≤ 1000) (hb : st.bs.length ≤ 10000000) (hl : Lies st.bs.length st.rows) :
    Does 79 [.ptr (some (q, 0))] h c (rn q vB vP vS vC) fun v h' c' => v = I ((st.bs.length : Int) - tot st.rows) ∧ c ≤ c' ∧ ∃ vB', (∀ n ∈ rowName vB', c ≤ n) ∧ RefAt h' c' q vB' vP vS vC (slidSt st) := by
  have hobj := r.obj
  have hlq := r.lq
  have o := order_ord hl
  have hot := outs_tot hl
  obtain ⟨sB, capB, hvB, hsB⟩ := r.b.shape
  have hnq : ∀ n ∈ rowName vP, n ≠ q := fun n hn => r.nq n (by simp [hn])
  have hPlt : ∀ n ∈ rowName vP, n < c := r.pl.lt
  have keepC : ∀ {h' : HH} {c' k : Nat} {v4 : V}, Scan h c vP st k h' c' v4 → MapI.get h' q = MapI.get h q ∧ ListOf 1 byteV h' c' vB st.bs ∧ ListOf 1 intV h' c' vS (st.rows.map fun r => r.2.1) ∧ ListOf 1 intV h' c' vC (st.rows.map fun r => r.2.2) := fun {h' c' k v4} s =>
    ⟨s.old q hlq (fun hm => hnq q hm rfl), r.b.keep s.le fun n hn hm => s.old n hn (fun hx => r.bp n hm (by simp [hx])), r.sz.keep s.le fun n hn hm => s.old n hn (fun hx => r.ps n hx (by simp [hm])), r.ct.keep s.le fun n hn hm => s.old n hn (fun hx => r.ps n hx (by simp [hm]))⟩
  have hS0 : Scan h c vP st 0 h c (.slice none 0 (.known 0)) := ⟨by rw [mrk_zero]; exact r.pl, .nil, fun n hn => (by cases hn), Nat.le_refl _, fun _ _ _ => rfl⟩
  refine does_of (enter (fn := Try.f79) Try.func79 rfl rfl (Nat.le_of_ble_eq_true rfl) ?_)
  subst hvB
  repeat' (first
    | refine WpC.seq ?_
    | refine WpC.region ?_
    | refine WpC.drawn ?_
    | refine WpC.skip ?_
    | refine WpC.block ?_
    | refine WpC.exit ?_
    | refine WpC.ret ?_
    | refine WpO.nil ?_
    | refine WpO.cons rfl rfl (WpX.pure (fun _ => rfl) ⟨nolog, ?_⟩)
    | refine WpO.skip rfl rfl ?_
    | refine WpL.cons rfl rfl (WpX.pure (fun _ => rfl) ⟨nolog, ?_⟩)
    | refine WpL.skip rfl rfl ?_
    | refine seqQ_normal ?_
    | refine seqQ_ret ?_
    | refine seqQ_exit ?_
    | refine blkQ_normal ?_
    | refine blkQ_ret ?_
    | refine blkQ_out rfl ?_
    | refine blkQ_by rfl ?_
    | refine WpO.cons rfl rfl (op_load rfl rfl rfl hobj rfl ⟨(by simp [InL, Acc.name, rowName] <;> omega), ?_⟩)
    | refine WpL.cons rfl rfl (op_load rfl rfl rfl hobj rfl ⟨(by simp [InL, Acc.name, rowName] <;> omega), ?_⟩)
    | refine WpO.cons rfl rfl (op_len rfl rfl rfl ⟨(by simp [InL, Acc.name, rowName] <;> omega), ?_⟩)
    | refine WpL.cons rfl rfl (op_len rfl rfl rfl ⟨(by simp [InL, Acc.name, rowName] <;> omega), ?_⟩))
  refine WpC.loop ?_
  refine WpLoop.ind (X := Nat) (fun a e h' c' => ∃ k v4, (∃ b0, e = MapI.set (MapI.set (MapI.set (MapI.set b0 0 (.ptr (some (q, 0)))) 3 (I st.bs.length)) 4 v4) 5 (I a)) ∧ a ≤ st.bs.length ∧ Mid st.rows a 0 k ∧ Scan h c vP st k h' c' v4)
    (fun a => st.bs.length - a) ?_ 0 _ _ _ ⟨0, _, set4 rfl rfl rfl rfl, Nat.zero_le _, Mid.start hl, hS0⟩
  rintro a e h' c' ⟨k, v4, ⟨b0, rfl⟩, ha, hm, hs⟩
  repeat' (first
    | refine WpC.seq ?_
    | refine WpC.region ?_
    | refine WpC.drawn ?_
    | refine WpC.skip ?_
    | refine WpC.block ?_
    | refine WpC.exit ?_
    | refine WpC.ret ?_
    | refine WpO.nil ?_
    | refine WpO.cons rfl rfl (WpX.pure (fun _ => rfl) ⟨nolog, ?_⟩)
    | refine WpO.skip rfl rfl ?_
    | refine WpL.cons rfl rfl (WpX.pure (fun _ => rfl) ⟨nolog, ?_⟩)
    | refine WpL.skip rfl rfl ?_
    | refine seqQ_normal ?_
    | refine seqQ_ret ?_
    | refine seqQ_exit ?_
    | refine blkQ_normal ?_
    | refine blkQ_ret ?_
    | refine blkQ_out rfl ?_
    | refine blkQ_by rfl ?_)
  refine WpC.cond rfl (fun hlt => ?_) (fun hge => ?_)
  case refine_2 =>
    have hge : a = st.bs.length := by
      have : ¬ ((a : Nat) : Int) < (st.bs.length : Nat) := by simpa using hge
      omega
    subst hge
    have hk := hm.done hl
    subst hk
    have hu0 : Scan h c vP st (order st.rows).length h' c' v4 := hs
    have hos : outs st.bs st.rows ((order st.rows).take (order st.rows).length) = outs st.bs st.rows (order st.rows) := by rw [List.take_of_length_le (Nat.le_refl _)]
    obtain ⟨s4, cap4, hv4, _⟩ := hs.o.shapeN rfl
    have hnew4 := hs.new
    have hlt4 := hs.o.lt
    repeat' (first
      | refine WpC.seq ?_
      | refine WpC.region ?_
      | refine WpC.drawn ?_
      | refine WpC.skip ?_
      | refine WpC.block ?_
      | refine WpC.exit ?_
      | refine WpC.ret ?_
      | refine WpO.nil ?_
      | refine WpO.cons rfl rfl (WpX.pure (fun _ => rfl) ⟨nolog, ?_⟩)
      | refine WpO.skip rfl rfl ?_
      | refine WpL.cons rfl rfl (WpX.pure (fun _ => rfl) ⟨nolog, ?_⟩)
      | refine WpL.skip rfl rfl ?_
      | refine seqQ_normal ?_
      | refine seqQ_ret ?_
      | refine seqQ_exit ?_
      | refine blkQ_normal ?_
      | refine blkQ_ret ?_
      | refine blkQ_out rfl ?_
      | refine blkQ_by rfl ?_)
    refine WpC.loop ?_
    refine WpLoop.ind (X := Nat) (fun i e h2 c2 => (∃ b0, e = MapI.set (MapI.set (MapI.set (MapI.set b0 0 (.ptr (some (q, 0)))) 3 (I st.bs.length)) 4 v4) 8 (I i)) ∧ i ≤ st.rows.length ∧ c2 = c' ∧ ListOf 1 intV h2 c2 vP (unm st.rows st.bs.length i) ∧ (∀ n, n ∉ rowName vP → MapI.get h2 n = MapI.get h' n))
      (fun i => st.rows.length - i) ?_ 0 _ _ _ ⟨set4 rfl rfl rfl rfl, Nat.zero_le _, rfl, by rw [unm_zero]; exact hs.pl, fun _ _ => rfl⟩
    rintro i e h2 c2 ⟨⟨b2, rfl⟩, hi, rfl, hp2, hf2⟩
    obtain ⟨hq', hB', hSz', hCt'⟩ := keepC hs
    have hobj2 : MapI.get h2 q = _ := ((hf2 q (fun hm => hnq q hm rfl)).trans hq').trans hobj
    have hCt2 : ListOf 1 intV h2 c2 vC (st.rows.map fun r => r.2.2) := hCt'.keep (Nat.le_refl _) fun n hn hm => hf2 n (fun hx => r.ps n hx (by simp [hm]))
    obtain ⟨sC, capC, hvC, hsC⟩ := hCt2.shapeN (List.length_map _)
    obtain ⟨sP, capP, hvP, hsP⟩ := hp2.shapeN (unm_length _ _ _)
    subst hvC
    subst hvP
    repeat' (first
      | refine WpC.seq ?_
      | refine WpC.region ?_
      | refine WpC.drawn ?_
      | refine WpC.skip ?_
      | refine WpC.block ?_
      | refine WpC.exit ?_
      | refine WpC.ret ?_
      | refine WpO.nil ?_
      | refine WpO.cons rfl rfl (WpX.pure (fun _ => rfl) ⟨nolog, ?_⟩)
      | refine WpO.skip rfl rfl ?_
      | refine WpL.cons rfl rfl (WpX.pure (fun _ => rfl) ⟨nolog, ?_⟩)
      | refine WpL.skip rfl rfl ?_
      | refine seqQ_normal ?_
      | refine seqQ_ret ?_
      | refine seqQ_exit ?_
      | refine blkQ_normal ?_
      | refine blkQ_ret ?_
      | refine blkQ_out rfl ?_
      | refine blkQ_by rfl ?_
      | refine WpO.cons rfl rfl (op_load rfl rfl rfl hobj2 rfl ⟨(by simp [InL, Acc.name, rowName] <;> omega), ?_⟩)
      | refine WpL.cons rfl rfl (op_load rfl rfl rfl hobj2 rfl ⟨(by simp [InL, Acc.name, rowName] <;> omega), ?_⟩)
      | refine WpO.cons rfl rfl (op_len rfl rfl rfl ⟨(by simp [InL, Acc.name, rowName] <;> omega), ?_⟩)
      | refine WpL.cons rfl rfl (op_len rfl rfl rfl ⟨(by simp [InL, Acc.name, rowName] <;> omega), ?_⟩))
    refine WpC.cond rfl (fun hlt => ?_) (fun hge => ?_)
    case refine_2 =>
      have hge : i = st.rows.length := by
        have : ¬ ((i : Nat) : Int) < (st.rows.length : Nat) := by simpa using hge
        omega
      subst hge
      rw [unm_all] at hp2
      have hone := hs.o.one
      obtain ⟨m1, m2⟩ := slid_map2 st.rows (order st.rows)
      have ho2 : ListOf 1 byteV h2 c2 v4 (outs st.bs st.rows (order st.rows)) := by
        rw [← hos]
        exact hs.o.keep (Nat.le_refl _) fun n hn hm => hf2 n (fun hx => by have := hPlt n hx; have := hnew4 n hm; omega)
      have hSz2 : ListOf 1 intV h2 c2 vS (st.rows.map fun r => r.2.1) := hSz'.keep (Nat.le_refl _) fun n hn hm => hf2 n (fun hx => r.ps n hx (by simp [hm]))
      have hq4 : ∀ n ∈ rowName v4, n ≠ q := fun n hn => by have := hnew4 n hn; omega
      obtain ⟨s5, cap5, hv5, _⟩ := ho2.shape
      have hwf : IntKind.i64.wrap ((st.bs.length : Int) - ((outs st.bs st.rows (order st.rows)).length : Nat)) = (st.bs.length : Int) - tot st.rows := by
        have := hs.le
        have h1 := o.fits hl (order st.rows).length
        rw [List.take_of_length_le (Nat.le_refl _), order_tot hl] at h1
        rw [hot, Go.IntWalk.i64_in _ (by omega)]
      subst hv5
      have hobj3 : MapI.get (MapI.set h2 q (.cells true true (setAll [.slice sB st.bs.length capB, I st.most, .slice sP st.rows.length capP, vS, .slice sC st.rows.length capC] 0 [.slice s5 (outs st.bs st.rows (order st.rows)).length cap5]))) q = some (.cells true true [.slice s5 (outs st.bs st.rows (order st.rows)).length cap5, I st.most, .slice sP st.rows.length capP, vS, .slice sC st.rows.length capC]) := MapI.get_same _ _ _
      have ne : ∀ {n : Nat}, n ≠ q → ∀ x : AObj, MapI.get (MapI.set h2 q x) n = MapI.get h2 n := fun hn x => MapI.get_ne _ _ _ _ (Ne.symm hn)
      repeat' (first
        | refine WpC.seq ?_
        | refine WpC.region ?_
        | refine WpC.drawn ?_
        | refine WpC.skip ?_
        | refine WpC.block ?_
        | refine WpC.exit ?_
        | refine WpC.ret ?_
        | refine WpO.nil ?_
        | refine WpO.cons rfl rfl (WpX.pure (fun _ => rfl) ⟨nolog, ?_⟩)
        | refine WpO.skip rfl rfl ?_
        | refine WpL.cons rfl rfl (WpX.pure (fun _ => rfl) ⟨nolog, ?_⟩)
        | refine WpL.skip rfl rfl ?_
        | refine seqQ_normal ?_
        | refine seqQ_ret ?_
        | refine seqQ_exit ?_
        | refine blkQ_normal ?_
        | refine blkQ_ret ?_
        | refine blkQ_out rfl ?_
        | refine blkQ_by rfl ?_
        | refine WpO.cons rfl rfl (op_store (k := 1) rfl rfl rfl rfl hobj2 (Nat.le_of_ble_eq_true rfl) rfl ⟨(by simp [InL, Acc.name, rowName] <;> omega), ?_⟩)
        | refine WpL.cons rfl rfl (op_store (k := 1) rfl rfl rfl rfl hobj2 (Nat.le_of_ble_eq_true rfl) rfl ⟨(by simp [InL, Acc.name, rowName] <;> omega), ?_⟩)
        | refine WpO.cons rfl rfl (op_len rfl rfl rfl ⟨(by simp [InL, Acc.name, rowName] <;> omega), ?_⟩)
        | refine WpL.cons rfl rfl (op_len rfl rfl rfl ⟨(by simp [InL, Acc.name, rowName] <;> omega), ?_⟩))
      refine out_ret rfl ⟨by show V.int _ _ = _; rw [hwf], hs.le, _, hnew4, hobj3, ?_, ?_, ?_, ?_, by have := hs.le; omega, ?_, ?_, fun n hn => ?_, r.sc⟩
      · exact ho2.keep (Nat.le_refl _) fun n hn hm => ne (hq4 n hm) _
      · exact hp2.keep (Nat.le_refl _) fun n hn hm => ne (hnq n hm) _
      · show ListOf 1 intV _ _ vS ((slid st.rows (order st.rows)).1.map fun r => r.2.1)
        rw [m1]
        exact hSz2.keep (Nat.le_refl _) fun n hn hm => ne (r.nq n (by simp [hm])) _
      · show ListOf 1 intV _ _ _ ((slid st.rows (order st.rows)).1.map fun r => r.2.2)
        rw [m2]
        exact hCt2.keep (Nat.le_refl _) fun n hn hm => ne (r.nq n (by simp [hm])) _
      · intro n hn
        rcases List.mem_append.1 hn with hn | hn
        · exact hq4 n hn
        · exact r.nq n (List.mem_append_right _ hn)
      · intro n hn hx
        have h1 := hnew4 n hn
        have h2 := r.names n (List.mem_cons_of_mem _ (List.mem_append_right _ hx))
        omega
      · exact r.ps n hn
    have hlt : i < st.rows.length := by
      have : ((i : Nat) : Int) < (st.rows.length : Nat) := by simpa using hlt
      omega
    obtain ⟨rfl, sn, cl, junk, rfl, hsn, hg, hj⟩ := hsC i hlt
    obtain ⟨rfl, sn2, cl2, junk2, rfl, hsn2, hg2, hj2⟩ := hsP i hlt
    obtain ⟨x, hx⟩ : ∃ x, st.rows[i]? = some x := ⟨_, List.getElem?_eq_getElem hlt⟩
    have hoff : 0 + ((i : Nat) : Int).toNat * 1 = i := by simp
    have hz : nth (flat intV (st.rows.map fun r => r.2.2) ++ junk) (0 + ((i : Nat) : Int).toNat * 1) = some (I x.2.2) := by
      rw [hoff]; exact nthI (by rw [List.getElem?_map, hx]; rfl) junk
    have hw1 : IntKind.i64.wrap ((i : Int) + 1) = ((i + 1 : Nat) : Int) := by rw [Go.IntWalk.i64_in _ (by omega)]; omega
    by_cases hp : x.2.2 > 0
    case neg =>
      have e1 : decide (x.2.2 > 0) = false := by simpa using hp
      repeat' (first
        | refine WpC.seq ?_
        | refine WpC.region ?_
        | refine WpC.drawn ?_
        | refine WpC.skip ?_
        | refine WpC.block ?_
        | refine WpC.exit ?_
        | refine WpC.ret ?_
        | refine WpO.nil ?_
        | refine WpO.cons rfl rfl (WpX.pure (fun _ => rfl) ⟨nolog, ?_⟩)
        | refine WpO.skip rfl rfl ?_
        | refine WpL.cons rfl rfl (WpX.pure (fun _ => rfl) ⟨nolog, ?_⟩)
        | refine WpL.skip rfl rfl ?_
        | refine seqQ_normal ?_
        | refine seqQ_ret ?_
        | refine seqQ_exit ?_
        | refine blkQ_normal ?_
        | refine blkQ_ret ?_
        | refine blkQ_out rfl ?_
        | refine blkQ_by rfl ?_
        | refine WpO.cons rfl rfl (op_load rfl rfl rfl hobj2 rfl ⟨(by simp [InL, Acc.name, rowName] <;> omega), ?_⟩)
        | refine WpL.cons rfl rfl (op_load rfl rfl rfl hobj2 rfl ⟨(by simp [InL, Acc.name, rowName] <;> omega), ?_⟩)
        | refine WpO.cons rfl rfl (op_indexAddr (k := 1) rfl rfl rfl rfl ⟨by omega, by omega⟩ ⟨(by simp [InL, Acc.name, rowName] <;> omega), ?_⟩)
        | refine WpL.cons rfl rfl (op_indexAddr (k := 1) rfl rfl rfl rfl ⟨by omega, by omega⟩ ⟨(by simp [InL, Acc.name, rowName] <;> omega), ?_⟩)
        | refine WpO.cons rfl rfl (op_load rfl rfl rfl hg hz ⟨(by simp [InL, Acc.name, rowName] <;> omega), ?_⟩)
        | refine WpL.cons rfl rfl (op_load rfl rfl rfl hg hz ⟨(by simp [InL, Acc.name, rowName] <;> omega), ?_⟩))
      simp only [e1]
      repeat' (first
        | refine WpC.seq ?_
        | refine WpC.region ?_
        | refine WpC.drawn ?_
        | refine WpC.skip ?_
        | refine WpC.block ?_
        | refine WpC.exit ?_
        | refine WpC.ret ?_
        | refine WpO.nil ?_
        | refine WpO.cons rfl rfl (WpX.pure (fun _ => rfl) ⟨nolog, ?_⟩)
        | refine WpO.skip rfl rfl ?_
        | refine WpL.cons rfl rfl (WpX.pure (fun _ => rfl) ⟨nolog, ?_⟩)
        | refine WpL.skip rfl rfl ?_
        | refine seqQ_normal ?_
        | refine seqQ_ret ?_
        | refine seqQ_exit ?_
        | refine blkQ_normal ?_
        | refine blkQ_ret ?_
        | refine blkQ_out rfl ?_
        | refine blkQ_by rfl ?_)
      refine WpC.cond rfl (fun hb => by cases hb) (fun _ => ?_)
      repeat' (first
        | refine WpC.seq ?_
        | refine WpC.region ?_
        | refine WpC.drawn ?_
        | refine WpC.skip ?_
        | refine WpC.block ?_
        | refine WpC.exit ?_
        | refine WpC.ret ?_
        | refine WpO.nil ?_
        | refine WpO.cons rfl rfl (WpX.pure (fun _ => rfl) ⟨nolog, ?_⟩)
        | refine WpO.skip rfl rfl ?_
        | refine WpL.cons rfl rfl (WpX.pure (fun _ => rfl) ⟨nolog, ?_⟩)
        | refine WpL.skip rfl rfl ?_
        | refine seqQ_normal ?_
        | refine seqQ_ret ?_
        | refine seqQ_exit ?_
        | refine blkQ_normal ?_
        | refine blkQ_ret ?_
        | refine blkQ_out rfl ?_
        | refine blkQ_by rfl ?_)
      refine ⟨i + 1, by omega, ?_, by omega, rfl, ?_, hf2⟩
      · rw [hw1]; exact set4 rfl rfl rfl rfl
      · rw [← unm_skip _ hx (fun hm => hp ((live_order hl hx).1 hm))]; exact hp2
    have e1 : decide (x.2.2 > 0) = true := by simpa using hp
    have hio := (live_order hl hx).2 hp
    have hng := mrk_neg hl (k := (order st.rows).length) hx (by rw [List.take_of_length_le (Nat.le_refl _)]; exact hio)
    have hgu : (unm st.rows st.bs.length i)[i]? = some (sat st.rows (order st.rows).length i - st.bs.length - 1) := by
      rw [unm_get hx, if_neg (Nat.lt_irrefl _), if_pos hio]
    have hz2 : nth (flat intV (unm st.rows st.bs.length i) ++ junk2) (0 + ((i : Nat) : Int).toNat * 1) = some (I (sat st.rows (order st.rows).length i - st.bs.length - 1)) := by
      rw [hoff]; exact nthI hgu junk2
    have e2 : decide (sat st.rows (order st.rows).length i - (st.bs.length : Int) - 1 < 0) = true := decide_eq_true hng.1
    have hw2 : IntKind.i64.wrap (IntKind.i64.wrap (sat st.rows (order st.rows).length i - (st.bs.length : Int) - 1 + (st.bs.length : Int)) + 1) = sat st.rows (order st.rows).length i := by
      rw [Go.IntWalk.i64_in (sat st.rows (order st.rows).length i - (st.bs.length : Int) - 1 + (st.bs.length : Int)) (by omega), Go.IntWalk.i64_in _ (by omega)]; omega
    have hfl : 0 + ((i : Nat) : Int).toNat * 1 + 1 ≤ (flat intV (unm st.rows st.bs.length i) ++ junk2).length := by
      rw [hoff, List.length_append, flat_length int_len, unm_length]; omega
    have n21 : sn2 ≠ q := hnq sn2 (by simp [rowName])
    repeat' (first
      | refine WpC.seq ?_
      | refine WpC.region ?_
      | refine WpC.drawn ?_
      | refine WpC.skip ?_
      | refine WpC.block ?_
      | refine WpC.exit ?_
      | refine WpC.ret ?_
      | refine WpO.nil ?_
      | refine WpO.cons rfl rfl (WpX.pure (fun _ => rfl) ⟨nolog, ?_⟩)
      | refine WpO.skip rfl rfl ?_
      | refine WpL.cons rfl rfl (WpX.pure (fun _ => rfl) ⟨nolog, ?_⟩)
      | refine WpL.skip rfl rfl ?_
      | refine seqQ_normal ?_
      | refine seqQ_ret ?_
      | refine seqQ_exit ?_
      | refine blkQ_normal ?_
      | refine blkQ_ret ?_
      | refine blkQ_out rfl ?_
      | refine blkQ_by rfl ?_
      | refine WpO.cons rfl rfl (op_load rfl rfl rfl hobj2 rfl ⟨(by simp [InL, Acc.name, rowName] <;> omega), ?_⟩)
      | refine WpL.cons rfl rfl (op_load rfl rfl rfl hobj2 rfl ⟨(by simp [InL, Acc.name, rowName] <;> omega), ?_⟩)
      | refine WpO.cons rfl rfl (op_indexAddr (k := 1) rfl rfl rfl rfl ⟨by omega, by omega⟩ ⟨(by simp [InL, Acc.name, rowName] <;> omega), ?_⟩)
      | refine WpL.cons rfl rfl (op_indexAddr (k := 1) rfl rfl rfl rfl ⟨by omega, by omega⟩ ⟨(by simp [InL, Acc.name, rowName] <;> omega), ?_⟩)
      | refine WpO.cons rfl rfl (op_load rfl rfl rfl hg hz ⟨(by simp [InL, Acc.name, rowName] <;> omega), ?_⟩)
      | refine WpL.cons rfl rfl (op_load rfl rfl rfl hg hz ⟨(by simp [InL, Acc.name, rowName] <;> omega), ?_⟩))
    simp only [e1]
    repeat' (first
      | refine WpC.seq ?_
      | refine WpC.region ?_
      | refine WpC.drawn ?_
      | refine WpC.skip ?_
      | refine WpC.block ?_
      | refine WpC.exit ?_
      | refine WpC.ret ?_
      | refine WpO.nil ?_
      | refine WpO.cons rfl rfl (WpX.pure (fun _ => rfl) ⟨nolog, ?_⟩)
      | refine WpO.skip rfl rfl ?_
      | refine WpL.cons rfl rfl (WpX.pure (fun _ => rfl) ⟨nolog, ?_⟩)
      | refine WpL.skip rfl rfl ?_
      | refine seqQ_normal ?_
      | refine seqQ_ret ?_
      | refine seqQ_exit ?_
      | refine blkQ_normal ?_
      | refine blkQ_ret ?_
      | refine blkQ_out rfl ?_
      | refine blkQ_by rfl ?_
      | refine WpO.cons rfl rfl (op_load rfl rfl rfl hobj2 rfl ⟨(by simp [InL, Acc.name, rowName] <;> omega), ?_⟩)
      | refine WpL.cons rfl rfl (op_load rfl rfl rfl hobj2 rfl ⟨(by simp [InL, Acc.name, rowName] <;> omega), ?_⟩)
      | refine WpO.cons rfl rfl (op_indexAddr (k := 1) rfl rfl rfl rfl ⟨by omega, by omega⟩ ⟨(by simp [InL, Acc.name, rowName] <;> omega), ?_⟩)
      | refine WpL.cons rfl rfl (op_indexAddr (k := 1) rfl rfl rfl rfl ⟨by omega, by omega⟩ ⟨(by simp [InL, Acc.name, rowName] <;> omega), ?_⟩)
      | refine WpO.cons rfl rfl (op_load rfl rfl rfl hg2 hz2 ⟨(by simp [InL, Acc.name, rowName] <;> omega), ?_⟩)
      | refine WpL.cons rfl rfl (op_load rfl rfl rfl hg2 hz2 ⟨(by simp [InL, Acc.name, rowName] <;> omega), ?_⟩))
    refine WpC.cond rfl (fun _ => ?_) (fun hb => by rw [e2] at hb; cases hb)
    repeat' (first
      | refine WpC.seq ?_
      | refine WpC.region ?_
      | refine WpC.drawn ?_
      | refine WpC.skip ?_
      | refine WpC.block ?_
      | refine WpC.exit ?_
      | refine WpC.ret ?_
      | refine WpO.nil ?_
      | refine WpO.cons rfl rfl (WpX.pure (fun _ => rfl) ⟨nolog, ?_⟩)
      | refine WpO.skip rfl rfl ?_
      | refine WpL.cons rfl rfl (WpX.pure (fun _ => rfl) ⟨nolog, ?_⟩)
      | refine WpL.skip rfl rfl ?_
      | refine seqQ_normal ?_
      | refine seqQ_ret ?_
      | refine seqQ_exit ?_
      | refine blkQ_normal ?_
      | refine blkQ_ret ?_
      | refine blkQ_out rfl ?_
      | refine blkQ_by rfl ?_
      | refine WpO.cons rfl rfl (op_load rfl rfl rfl hobj2 rfl ⟨(by simp [InL, Acc.name, rowName] <;> omega), ?_⟩)
      | refine WpL.cons rfl rfl (op_load rfl rfl rfl hobj2 rfl ⟨(by simp [InL, Acc.name, rowName] <;> omega), ?_⟩)
      | refine WpO.cons rfl rfl (op_indexAddr (k := 1) rfl rfl rfl rfl ⟨by omega, by omega⟩ ⟨(by simp [InL, Acc.name, rowName] <;> omega), ?_⟩)
      | refine WpL.cons rfl rfl (op_indexAddr (k := 1) rfl rfl rfl rfl ⟨by omega, by omega⟩ ⟨(by simp [InL, Acc.name, rowName] <;> omega), ?_⟩)
      | refine WpO.cons rfl rfl (op_load rfl rfl rfl hg2 hz2 ⟨(by simp [InL, Acc.name, rowName] <;> omega), ?_⟩)
      | refine WpL.cons rfl rfl (op_load rfl rfl rfl hg2 hz2 ⟨(by simp [InL, Acc.name, rowName] <;> omega), ?_⟩)
      | refine WpO.cons rfl rfl (op_store (k := 1) rfl rfl rfl rfl hg2 hfl rfl ⟨(by simp [InL, Acc.name, rowName] <;> omega), ?_⟩)
      | refine WpL.cons rfl rfl (op_store (k := 1) rfl rfl rfl rfl hg2 hfl rfl ⟨(by simp [InL, Acc.name, rowName] <;> omega), ?_⟩))
    refine WpL.nil (logsOk_of (cs := [0, 1, 3, 7, 0, 0, 32, 96, 224, 0, 992, 2016, 0, 8160, 16352, 32767, 65535]) (by decide +kernel) ?_) ?_
    · simp +contextual [allP, apP, Dis, acc_rd, acc_wr, accw_rd, accw_wr, Nat.testBit, n21, Ne.symm n21]
    repeat' (first
      | refine WpC.seq ?_
      | refine WpC.region ?_
      | refine WpC.drawn ?_
      | refine WpC.skip ?_
      | refine WpC.block ?_
      | refine WpC.exit ?_
      | refine WpC.ret ?_
      | refine WpO.nil ?_
      | refine WpO.cons rfl rfl (WpX.pure (fun _ => rfl) ⟨nolog, ?_⟩)
      | refine WpO.skip rfl rfl ?_
      | refine WpL.cons rfl rfl (WpX.pure (fun _ => rfl) ⟨nolog, ?_⟩)
      | refine WpL.skip rfl rfl ?_
      | refine seqQ_normal ?_
      | refine seqQ_ret ?_
      | refine seqQ_exit ?_
      | refine blkQ_normal ?_
      | refine blkQ_ret ?_
      | refine blkQ_out rfl ?_
      | refine blkQ_by rfl ?_)
    refine ⟨i + 1, by omega, ?_, by omega, rfl, ?_, fun n hn => ?_⟩
    · rw [hw1]; exact set4 rfl rfl rfl rfl
    · refine .inr ⟨sn2, cl2, junk2, by rw [unm_length], hsn2, ?_, hj2⟩
      rw [hw2, hoff, MapI.get_same]
      exact congrArg (fun l => some (AObj.cells true cl2 l)) ((set_int (by rw [unm_length]; exact hlt)).trans (by rw [unm_set]))
    · rw [MapI.get_ne _ _ _ _ (fun e => hn (by simp [rowName, e]))]; exact hf2 n hn
  have hlt : a < st.bs.length := by
    have : ((a : Nat) : Int) < (st.bs.length : Nat) := by simpa using hlt
    omega
  have hwa : IntKind.i64.wrap ((a : Int) + 1) = ((a + 1 : Nat) : Int) := by rw [Go.IntWalk.i64_in _ (by omega)]; omega
  repeat' (first
    | refine WpC.seq ?_
    | refine WpC.region ?_
    | refine WpC.drawn ?_
    | refine WpC.skip ?_
    | refine WpC.block ?_
    | refine WpC.exit ?_
    | refine WpC.ret ?_
    | refine WpO.nil ?_
    | refine WpO.cons rfl rfl (WpX.pure (fun _ => rfl) ⟨nolog, ?_⟩)
    | refine WpO.skip rfl rfl ?_
    | refine WpL.cons rfl rfl (WpX.pure (fun _ => rfl) ⟨nolog, ?_⟩)
    | refine WpL.skip rfl rfl ?_
    | refine seqQ_normal ?_
    | refine seqQ_ret ?_
    | refine seqQ_exit ?_
    | refine blkQ_normal ?_
    | refine blkQ_ret ?_
    | refine blkQ_out rfl ?_
    | refine blkQ_by rfl ?_)
  refine WpC.loop ?_
  refine WpLoop.ind (X := Nat) (fun i e h' c' => ∃ k v4, (∃ b0, e = MapI.set (MapI.set (MapI.set (MapI.set (MapI.set b0 0 (.ptr (some (q, 0)))) 3 (I st.bs.length)) 4 v4) 5 (I a)) 6 (I i)) ∧ i ≤ st.rows.length ∧ Mid st.rows a i k ∧ Scan h c vP st k h' c' v4)
    (fun i => st.rows.length - i) ?_ 0 _ _ _ ⟨k, v4, set5 rfl rfl rfl rfl rfl, Nat.zero_le _, hm, hs⟩
  clear hm hs k v4
  rintro i e h' c' ⟨k, v4, ⟨b0, rfl⟩, hi, hm, hs⟩
  obtain ⟨hq', hB', hSz', hCt'⟩ := keepC hs
  have hobj' : MapI.get h' q = _ := hq'.trans hobj
  obtain ⟨sC, capC, hvC, hsC⟩ := hCt'.shapeN (List.length_map _)
  obtain ⟨sP, capP, hvP, hsP⟩ := hs.pl.shapeN (mrk_length _ _ _)
  obtain ⟨sS, capS, hvS, hsS⟩ := hSz'.shapeN (List.length_map _)
  subst hvC
  subst hvP
  subst hvS
  repeat' (first
    | refine WpC.seq ?_
    | refine WpC.region ?_
    | refine WpC.drawn ?_
    | refine WpC.skip ?_
    | refine WpC.block ?_
    | refine WpC.exit ?_
    | refine WpC.ret ?_
    | refine WpO.nil ?_
    | refine WpO.cons rfl rfl (WpX.pure (fun _ => rfl) ⟨nolog, ?_⟩)
    | refine WpO.skip rfl rfl ?_
    | refine WpL.cons rfl rfl (WpX.pure (fun _ => rfl) ⟨nolog, ?_⟩)
    | refine WpL.skip rfl rfl ?_
    | refine seqQ_normal ?_
    | refine seqQ_ret ?_
    | refine seqQ_exit ?_
    | refine blkQ_normal ?_
    | refine blkQ_ret ?_
    | refine blkQ_out rfl ?_
    | refine blkQ_by rfl ?_
    | refine WpO.cons rfl rfl (op_load rfl rfl rfl hobj' rfl ⟨(by simp [InL, Acc.name, rowName] <;> omega), ?_⟩)
    | refine WpL.cons rfl rfl (op_load rfl rfl rfl hobj' rfl ⟨(by simp [InL, Acc.name, rowName] <;> omega), ?_⟩)
    | refine WpO.cons rfl rfl (op_len rfl rfl rfl ⟨(by simp [InL, Acc.name, rowName] <;> omega), ?_⟩)
    | refine WpL.cons rfl rfl (op_len rfl rfl rfl ⟨(by simp [InL, Acc.name, rowName] <;> omega), ?_⟩))
  refine WpC.cond rfl (fun hlt2 => ?_) (fun hge => ?_)
  case refine_2 =>
    have hge : i = st.rows.length := by
      have : ¬ ((i : Nat) : Int) < (st.rows.length : Nat) := by simpa using hge
      omega
    subst hge
    repeat' (first
      | refine WpC.seq ?_
      | refine WpC.region ?_
      | refine WpC.drawn ?_
      | refine WpC.skip ?_
      | refine WpC.block ?_
      | refine WpC.exit ?_
      | refine WpC.ret ?_
      | refine WpO.nil ?_
      | refine WpO.cons rfl rfl (WpX.pure (fun _ => rfl) ⟨nolog, ?_⟩)
      | refine WpO.skip rfl rfl ?_
      | refine WpL.cons rfl rfl (WpX.pure (fun _ => rfl) ⟨nolog, ?_⟩)
      | refine WpL.skip rfl rfl ?_
      | refine seqQ_normal ?_
      | refine seqQ_ret ?_
      | refine seqQ_exit ?_
      | refine blkQ_normal ?_
      | refine blkQ_ret ?_
      | refine blkQ_out rfl ?_
      | refine blkQ_by rfl ?_)
    refine ⟨a + 1, by omega, k, v4, ?_, by omega, hm.next, hs⟩
    rw [hwa]; exact set4 rfl rfl rfl rfl
  have hlt2 : i < st.rows.length := by
    have : ((i : Nat) : Int) < (st.rows.length : Nat) := by simpa using hlt2
    omega
  obtain ⟨rfl, sn, cl, junk, rfl, hsn, hg, hj⟩ := hsC i hlt2
  obtain ⟨rfl, sn2, cl2, junk2, rfl, hsn2, hg2, hj2⟩ := hsP i hlt2
  obtain ⟨rfl, sn3, cl3, junk3, rfl, hsn3, hg3, hj3⟩ := hsS i hlt2
  obtain ⟨⟨xa, xn, xc⟩, hx⟩ : ∃ x, st.rows[i]? = some x := ⟨_, List.getElem?_eq_getElem hlt2⟩
  have hoff : 0 + ((i : Nat) : Int).toNat * 1 = i := by simp
  have hz : nth (flat intV (st.rows.map fun r => r.2.2) ++ junk) (0 + ((i : Nat) : Int).toNat * 1) = some (I xc) := by
    rw [hoff]; exact nthI (by rw [List.getElem?_map, hx]; rfl) junk
  have hz3 : nth (flat intV (st.rows.map fun r => r.2.1) ++ junk3) (0 + ((i : Nat) : Int).toNat * 1) = some (I xn) := by
    rw [hoff]; exact nthI (by rw [List.getElem?_map, hx]; rfl) junk3
  have hw1 : IntKind.i64.wrap ((i : Int) + 1) = ((i + 1 : Nat) : Int) := by rw [Go.IntWalk.i64_in _ (by omega)]; omega
  by_cases hp : xc > 0
  case neg =>
    have e1 : decide (xc > 0) = false := by simpa using hp
    repeat' (first
      | refine WpC.seq ?_
      | refine WpC.region ?_
      | refine WpC.drawn ?_
      | refine WpC.skip ?_
      | refine WpC.block ?_
      | refine WpC.exit ?_
      | refine WpC.ret ?_
      | refine WpO.nil ?_
      | refine WpO.cons rfl rfl (WpX.pure (fun _ => rfl) ⟨nolog, ?_⟩)
      | refine WpO.skip rfl rfl ?_
      | refine WpL.cons rfl rfl (WpX.pure (fun _ => rfl) ⟨nolog, ?_⟩)
      | refine WpL.skip rfl rfl ?_
      | refine seqQ_normal ?_
      | refine seqQ_ret ?_
      | refine seqQ_exit ?_
      | refine blkQ_normal ?_
      | refine blkQ_ret ?_
      | refine blkQ_out rfl ?_
      | refine blkQ_by rfl ?_
      | refine WpO.cons rfl rfl (op_load rfl rfl rfl hobj' rfl ⟨(by simp [InL, Acc.name, rowName] <;> omega), ?_⟩)
      | refine WpL.cons rfl rfl (op_load rfl rfl rfl hobj' rfl ⟨(by simp [InL, Acc.name, rowName] <;> omega), ?_⟩)
      | refine WpO.cons rfl rfl (op_indexAddr (k := 1) rfl rfl rfl rfl ⟨by omega, by omega⟩ ⟨(by simp [InL, Acc.name, rowName] <;> omega), ?_⟩)
      | refine WpL.cons rfl rfl (op_indexAddr (k := 1) rfl rfl rfl rfl ⟨by omega, by omega⟩ ⟨(by simp [InL, Acc.name, rowName] <;> omega), ?_⟩)
      | refine WpO.cons rfl rfl (op_load rfl rfl rfl hg hz ⟨(by simp [InL, Acc.name, rowName] <;> omega), ?_⟩)
      | refine WpL.cons rfl rfl (op_load rfl rfl rfl hg hz ⟨(by simp [InL, Acc.name, rowName] <;> omega), ?_⟩))
    simp only [e1]
    repeat' (first
      | refine WpC.seq ?_
      | refine WpC.region ?_
      | refine WpC.drawn ?_
      | refine WpC.skip ?_
      | refine WpC.block ?_
      | refine WpC.exit ?_
      | refine WpC.ret ?_
      | refine WpO.nil ?_
      | refine WpO.cons rfl rfl (WpX.pure (fun _ => rfl) ⟨nolog, ?_⟩)
      | refine WpO.skip rfl rfl ?_
      | refine WpL.cons rfl rfl (WpX.pure (fun _ => rfl) ⟨nolog, ?_⟩)
      | refine WpL.skip rfl rfl ?_
      | refine seqQ_normal ?_
      | refine seqQ_ret ?_
      | refine seqQ_exit ?_
      | refine blkQ_normal ?_
      | refine blkQ_ret ?_
      | refine blkQ_out rfl ?_
      | refine blkQ_by rfl ?_)
    refine WpC.cond rfl (fun hb => by cases hb) (fun _ => ?_)
    repeat' (first
      | refine WpC.seq ?_
      | refine WpC.region ?_
      | refine WpC.drawn ?_
      | refine WpC.skip ?_
      | refine WpC.block ?_
      | refine WpC.exit ?_
      | refine WpC.ret ?_
      | refine WpO.nil ?_
      | refine WpO.cons rfl rfl (WpX.pure (fun _ => rfl) ⟨nolog, ?_⟩)
      | refine WpO.skip rfl rfl ?_
      | refine WpL.cons rfl rfl (WpX.pure (fun _ => rfl) ⟨nolog, ?_⟩)
      | refine WpL.skip rfl rfl ?_
      | refine seqQ_normal ?_
      | refine seqQ_ret ?_
      | refine seqQ_exit ?_
      | refine blkQ_normal ?_
      | refine blkQ_ret ?_
      | refine blkQ_out rfl ?_
      | refine blkQ_by rfl ?_)
    refine ⟨i + 1, by omega, k, v4, ?_, by omega, hm.skip hl (fun q' h1 h2 => by rw [hx] at h1; cases h1; exact absurd h2 hp), hs⟩
    rw [hw1]; exact set5 rfl rfl rfl rfl rfl
  have e1 : decide (xc > 0) = true := by simpa using hp
  have hin := hl.in_ i _ hx hp
  simp only at hin
  have hgm := mrk_get (was := (st.bs.length : Int)) (k := k) hx
  have hz2 : nth (flat intV (mrk st.rows st.bs.length k) ++ junk2) (0 + ((i : Nat) : Int).toNat * 1) = some (I (if i ∈ (order st.rows).take k then sat st.rows k i - st.bs.length - 1 else xa)) := by
    rw [hoff]; exact nthI hgm junk2
  have hno : xa ≠ (a : Int) → (if i ∈ (order st.rows).take k then sat st.rows k i - (st.bs.length : Int) - 1 else xa) ≠ (a : Int) := fun hne => by
    split
    · next hmk => have := mrk_neg hl hx hmk; omega
    · exact hne
  have hyes : xa = (a : Int) → (order st.rows)[k]? = some i ∧ Mid st.rows a (i + 1) (k + 1) := fun e => hm.hit hl hx hp e
  by_cases hxa : xa = (a : Int)
  case neg =>
    have e2 : ((if i ∈ (order st.rows).take k then sat st.rows k i - (st.bs.length : Int) - 1 else xa) == (a : Int)) = false := beq_eq_false_iff_ne.2 (hno hxa)
    repeat' (first
      | refine WpC.seq ?_
      | refine WpC.region ?_
      | refine WpC.drawn ?_
      | refine WpC.skip ?_
      | refine WpC.block ?_
      | refine WpC.exit ?_
      | refine WpC.ret ?_
      | refine WpO.nil ?_
      | refine WpO.cons rfl rfl (WpX.pure (fun _ => rfl) ⟨nolog, ?_⟩)
      | refine WpO.skip rfl rfl ?_
      | refine WpL.cons rfl rfl (WpX.pure (fun _ => rfl) ⟨nolog, ?_⟩)
      | refine WpL.skip rfl rfl ?_
      | refine seqQ_normal ?_
      | refine seqQ_ret ?_
      | refine seqQ_exit ?_
      | refine blkQ_normal ?_
      | refine blkQ_ret ?_
      | refine blkQ_out rfl ?_
      | refine blkQ_by rfl ?_
      | refine WpO.cons rfl rfl (op_load rfl rfl rfl hobj' rfl ⟨(by simp [InL, Acc.name, rowName] <;> omega), ?_⟩)
      | refine WpL.cons rfl rfl (op_load rfl rfl rfl hobj' rfl ⟨(by simp [InL, Acc.name, rowName] <;> omega), ?_⟩)
      | refine WpO.cons rfl rfl (op_indexAddr (k := 1) rfl rfl rfl rfl ⟨by omega, by omega⟩ ⟨(by simp [InL, Acc.name, rowName] <;> omega), ?_⟩)
      | refine WpL.cons rfl rfl (op_indexAddr (k := 1) rfl rfl rfl rfl ⟨by omega, by omega⟩ ⟨(by simp [InL, Acc.name, rowName] <;> omega), ?_⟩)
      | refine WpO.cons rfl rfl (op_load rfl rfl rfl hg hz ⟨(by simp [InL, Acc.name, rowName] <;> omega), ?_⟩)
      | refine WpL.cons rfl rfl (op_load rfl rfl rfl hg hz ⟨(by simp [InL, Acc.name, rowName] <;> omega), ?_⟩))
    simp only [e1]
    repeat' (first
      | refine WpC.seq ?_
      | refine WpC.region ?_
      | refine WpC.drawn ?_
      | refine WpC.skip ?_
      | refine WpC.block ?_
      | refine WpC.exit ?_
      | refine WpC.ret ?_
      | refine WpO.nil ?_
      | refine WpO.cons rfl rfl (WpX.pure (fun _ => rfl) ⟨nolog, ?_⟩)
      | refine WpO.skip rfl rfl ?_
      | refine WpL.cons rfl rfl (WpX.pure (fun _ => rfl) ⟨nolog, ?_⟩)
      | refine WpL.skip rfl rfl ?_
      | refine seqQ_normal ?_
      | refine seqQ_ret ?_
      | refine seqQ_exit ?_
      | refine blkQ_normal ?_
      | refine blkQ_ret ?_
      | refine blkQ_out rfl ?_
      | refine blkQ_by rfl ?_
      | refine WpO.cons rfl rfl (op_load rfl rfl rfl hobj' rfl ⟨(by simp [InL, Acc.name, rowName] <;> omega), ?_⟩)
      | refine WpL.cons rfl rfl (op_load rfl rfl rfl hobj' rfl ⟨(by simp [InL, Acc.name, rowName] <;> omega), ?_⟩)
      | refine WpO.cons rfl rfl (op_indexAddr (k := 1) rfl rfl rfl rfl ⟨by omega, by omega⟩ ⟨(by simp [InL, Acc.name, rowName] <;> omega), ?_⟩)
      | refine WpL.cons rfl rfl (op_indexAddr (k := 1) rfl rfl rfl rfl ⟨by omega, by omega⟩ ⟨(by simp [InL, Acc.name, rowName] <;> omega), ?_⟩)
      | refine WpO.cons rfl rfl (op_load rfl rfl rfl hg2 hz2 ⟨(by simp [InL, Acc.name, rowName] <;> omega), ?_⟩)
      | refine WpL.cons rfl rfl (op_load rfl rfl rfl hg2 hz2 ⟨(by simp [InL, Acc.name, rowName] <;> omega), ?_⟩))
    refine WpC.cond rfl (fun hb => by rw [e2] at hb; cases hb) (fun _ => ?_)
    repeat' (first
      | refine WpC.seq ?_
      | refine WpC.region ?_
      | refine WpC.drawn ?_
      | refine WpC.skip ?_
      | refine WpC.block ?_
      | refine WpC.exit ?_
      | refine WpC.ret ?_
      | refine WpO.nil ?_
      | refine WpO.cons rfl rfl (WpX.pure (fun _ => rfl) ⟨nolog, ?_⟩)
      | refine WpO.skip rfl rfl ?_
      | refine WpL.cons rfl rfl (WpX.pure (fun _ => rfl) ⟨nolog, ?_⟩)
      | refine WpL.skip rfl rfl ?_
      | refine seqQ_normal ?_
      | refine seqQ_ret ?_
      | refine seqQ_exit ?_
      | refine blkQ_normal ?_
      | refine blkQ_ret ?_
      | refine blkQ_out rfl ?_
      | refine blkQ_by rfl ?_)
    refine ⟨i + 1, by omega, k, v4, ?_, by omega, hm.skip hl (fun q' h1 h2 => by rw [hx] at h1; cases h1; exact hxa), hs⟩
    rw [hw1]; exact set5 rfl rfl rfl rfl rfl
  obtain ⟨hik, hm2⟩ := hyes hxa
  have hnot := not_take (o.nodup hl) hik
  rw [if_neg hnot] at hz2
  subst hxa
  obtain ⟨n, rfl⟩ : ∃ n : Nat, xn = n := ⟨xn.toNat, by omega⟩
  have hnx := o.next hl hik hx
  have hol2 := o.outs_len hl k
  have hfit := o.fits hl k
  have hnn := o.nonneg hl k
  obtain ⟨t, hte⟩ : ∃ t : Nat, (slid st.rows ((order st.rows).take k)).2 = t := ⟨(outs st.bs st.rows ((order st.rows).take k)).length, by omega⟩
  rw [hte] at hol2 hfit
  have hlo : (outs st.bs st.rows ((order st.rows).take k)).length = t := by omega
  obtain ⟨s4, cap4, hv4, _⟩ := hs.o.shapeN hlo
  subst hv4
  obtain ⟨rfl, sbn, clb, jkb, rfl, hsbn, hgb, hjb⟩ := hsB 0 (by omega)
  have hgb' : MapI.get h' sbn = some (.cells true clb (flat byteV st.bs ++ jkb)) := by
    rw [hs.old sbn hsbn (fun hx => r.bp sbn (by simp [rowName]) (by simp [hx]))]; exact hgb
  have hsbc : sbn < c' := by have := hs.le; omega
  have hwan : IntKind.i64.wrap ((a : Int) + (n : Int)) = ((a + n : Nat) : Int) := by rw [Go.IntWalk.i64_in _ (by omega)]; omega
  have hcl : (chunk st.bs ((a : Int), (n : Int), xc)).length = n := by rw [chunk_length (by simp only; omega) (by simp only; omega) hin.2.2]; simp
  have hsub : SubOf 1 byteV h' c' (.slice (some (sbn, 0 + a * (0 + 1))) (a + n - a) (.upTo 1)) (chunk st.bs ((a : Int), (n : Int), xc)) := by
    rw [show a + n - a = (chunk st.bs ((a : Int), (n : Int), xc)).length from by rw [hcl]; omega]
    refine .inr ⟨sbn, _, _, true, clb, _, rfl, hsbc, hgb', ?_⟩
    rw [show 0 + a * (0 + 1) = a from by simp, hcl, Nat.mul_one]
    exact cut_bytes (by omega)
  have hts : IntKind.i64.wrap (IntKind.i64.wrap ((t : Int) - (st.bs.length : Int)) - 1) = (t : Int) - st.bs.length - 1 := by
    rw [Go.IntWalk.i64_in ((t : Int) - (st.bs.length : Int)) (by omega), Go.IntWalk.i64_in _ (by omega)]
  have hfl : 0 + ((i : Nat) : Int).toNat * 1 + 1 ≤ (flat intV (mrk st.rows st.bs.length k) ++ junk2).length := by
    rw [hoff, List.length_append, flat_length int_len, mrk_length]; omega
  have nms := r.names
  have hn4 := hs.new
  have hle' := hs.le
  have inl : ∀ x, x ∈ rn q (.slice (some (sbn, 0)) st.bs.length (.upTo 1)) (.slice (some (sn2, 0)) st.rows.length (.upTo 1)) (.slice (some (sn3, 0)) st.rows.length (.upTo 1)) (.slice (some (sn, 0)) st.rows.length (.upTo 1)) → x < c := fun x hx => nms x hx
  repeat' (first
    | refine WpC.seq ?_
    | refine WpC.region ?_
    | refine WpC.drawn ?_
    | refine WpC.skip ?_
    | refine WpC.block ?_
    | refine WpC.exit ?_
    | refine WpC.ret ?_
    | refine WpO.nil ?_
    | refine WpO.cons rfl rfl (WpX.pure (fun _ => rfl) ⟨nolog, ?_⟩)
    | refine WpO.skip rfl rfl ?_
    | refine WpL.cons rfl rfl (WpX.pure (fun _ => rfl) ⟨nolog, ?_⟩)
    | refine WpL.skip rfl rfl ?_
    | refine seqQ_normal ?_
    | refine seqQ_ret ?_
    | refine seqQ_exit ?_
    | refine blkQ_normal ?_
    | refine blkQ_ret ?_
    | refine blkQ_out rfl ?_
    | refine blkQ_by rfl ?_
    | refine WpO.cons rfl rfl (op_load rfl rfl rfl hobj' rfl ⟨(by simp [InL, Acc.name, rowName] <;> omega), ?_⟩)
    | refine WpL.cons rfl rfl (op_load rfl rfl rfl hobj' rfl ⟨(by simp [InL, Acc.name, rowName] <;> omega), ?_⟩)
    | refine WpO.cons rfl rfl (op_indexAddr (k := 1) rfl rfl rfl rfl ⟨by omega, by omega⟩ ⟨(by simp [InL, Acc.name, rowName] <;> omega), ?_⟩)
    | refine WpL.cons rfl rfl (op_indexAddr (k := 1) rfl rfl rfl rfl ⟨by omega, by omega⟩ ⟨(by simp [InL, Acc.name, rowName] <;> omega), ?_⟩)
    | refine WpO.cons rfl rfl (op_load rfl rfl rfl hg hz ⟨(by simp [InL, Acc.name, rowName] <;> omega), ?_⟩)
    | refine WpL.cons rfl rfl (op_load rfl rfl rfl hg hz ⟨(by simp [InL, Acc.name, rowName] <;> omega), ?_⟩))
  simp only [e1]
  repeat' (first
    | refine WpC.seq ?_
    | refine WpC.region ?_
    | refine WpC.drawn ?_
    | refine WpC.skip ?_
    | refine WpC.block ?_
    | refine WpC.exit ?_
    | refine WpC.ret ?_
    | refine WpO.nil ?_
    | refine WpO.cons rfl rfl (WpX.pure (fun _ => rfl) ⟨nolog, ?_⟩)
    | refine WpO.skip rfl rfl ?_
    | refine WpL.cons rfl rfl (WpX.pure (fun _ => rfl) ⟨nolog, ?_⟩)
    | refine WpL.skip rfl rfl ?_
    | refine seqQ_normal ?_
    | refine seqQ_ret ?_
    | refine seqQ_exit ?_
    | refine blkQ_normal ?_
    | refine blkQ_ret ?_
    | refine blkQ_out rfl ?_
    | refine blkQ_by rfl ?_
    | refine WpO.cons rfl rfl (op_load rfl rfl rfl hobj' rfl ⟨(by simp [InL, Acc.name, rowName] <;> omega), ?_⟩)
    | refine WpL.cons rfl rfl (op_load rfl rfl rfl hobj' rfl ⟨(by simp [InL, Acc.name, rowName] <;> omega), ?_⟩)
    | refine WpO.cons rfl rfl (op_indexAddr (k := 1) rfl rfl rfl rfl ⟨by omega, by omega⟩ ⟨(by simp [InL, Acc.name, rowName] <;> omega), ?_⟩)
    | refine WpL.cons rfl rfl (op_indexAddr (k := 1) rfl rfl rfl rfl ⟨by omega, by omega⟩ ⟨(by simp [InL, Acc.name, rowName] <;> omega), ?_⟩)
    | refine WpO.cons rfl rfl (op_load rfl rfl rfl hg2 hz2 ⟨(by simp [InL, Acc.name, rowName] <;> omega), ?_⟩)
    | refine WpL.cons rfl rfl (op_load rfl rfl rfl hg2 hz2 ⟨(by simp [InL, Acc.name, rowName] <;> omega), ?_⟩))
  refine WpC.cond rfl (fun _ => ?_) (fun hb => by simp at hb)
  repeat' (first
    | refine WpC.seq ?_
    | refine WpC.region ?_
    | refine WpC.drawn ?_
    | refine WpC.skip ?_
    | refine WpC.block ?_
    | refine WpC.exit ?_
    | refine WpC.ret ?_
    | refine WpO.nil ?_
    | refine WpO.cons rfl rfl (WpX.pure (fun _ => rfl) ⟨nolog, ?_⟩)
    | refine WpO.skip rfl rfl ?_
    | refine WpL.cons rfl rfl (WpX.pure (fun _ => rfl) ⟨nolog, ?_⟩)
    | refine WpL.skip rfl rfl ?_
    | refine seqQ_normal ?_
    | refine seqQ_ret ?_
    | refine seqQ_exit ?_
    | refine blkQ_normal ?_
    | refine blkQ_ret ?_
    | refine blkQ_out rfl ?_
    | refine blkQ_by rfl ?_
    | refine WpO.cons rfl rfl (op_len rfl rfl rfl ⟨(by simp [InL, Acc.name, rowName] <;> omega), ?_⟩)
    | refine WpL.cons rfl rfl (op_len rfl rfl rfl ⟨(by simp [InL, Acc.name, rowName] <;> omega), ?_⟩)
    | refine WpO.cons rfl rfl (op_load rfl rfl rfl hobj' rfl ⟨(by simp [InL, Acc.name, rowName] <;> omega), ?_⟩)
    | refine WpL.cons rfl rfl (op_load rfl rfl rfl hobj' rfl ⟨(by simp [InL, Acc.name, rowName] <;> omega), ?_⟩)
    | refine WpO.cons rfl rfl (op_indexAddr (k := 1) rfl rfl rfl rfl ⟨by omega, by omega⟩ ⟨(by simp [InL, Acc.name, rowName] <;> omega), ?_⟩)
    | refine WpL.cons rfl rfl (op_indexAddr (k := 1) rfl rfl rfl rfl ⟨by omega, by omega⟩ ⟨(by simp [InL, Acc.name, rowName] <;> omega), ?_⟩)
    | refine WpO.cons rfl rfl (op_load rfl rfl rfl hg3 hz3 ⟨(by simp [InL, Acc.name, rowName] <;> omega), ?_⟩)
    | refine WpL.cons rfl rfl (op_load rfl rfl rfl hg3 hz3 ⟨(by simp [InL, Acc.name, rowName] <;> omega), ?_⟩)
    | refine WpO.cons rfl rfl (op_slice rfl rfl rfl rfl rfl (bound_at (n := a) rfl) (bound_at hwan) (by omega) (by omega) rfl ⟨(by simp [InL, Acc.name, rowName] <;> omega), ?_⟩)
    | refine WpL.cons rfl rfl (op_slice rfl rfl rfl rfl rfl (bound_at (n := a) rfl) (bound_at hwan) (by omega) (by omega) rfl ⟨(by simp [InL, Acc.name, rowName] <;> omega), ?_⟩))
  refine WpL.cons rfl rfl (append_sub (cells := byteV) rfl rfl elB rfl byte_len byte_all hs.o hsub (by rw [hlo, hcl]; omega) (fun x hx => .inl (by simp [rowName] at hx; simp [acc_rd, hx, rowName])) (fun x hx => ⟨.inr (hn4 x hx), .inr (hn4 x hx)⟩) (.inr (by simp [acc_wr]; omega)) fun v5 h5 c5 al hl5 hn5 hc5 hf5 hal5 => ?_)
  repeat' (first
    | refine WpC.seq ?_
    | refine WpC.region ?_
    | refine WpC.drawn ?_
    | refine WpC.skip ?_
    | refine WpC.block ?_
    | refine WpC.exit ?_
    | refine WpC.ret ?_
    | refine WpO.nil ?_
    | refine WpO.cons rfl rfl (WpX.pure (fun _ => rfl) ⟨nolog, ?_⟩)
    | refine WpO.skip rfl rfl ?_
    | refine WpL.cons rfl rfl (WpX.pure (fun _ => rfl) ⟨nolog, ?_⟩)
    | refine WpL.skip rfl rfl ?_
    | refine seqQ_normal ?_
    | refine seqQ_ret ?_
    | refine seqQ_exit ?_
    | refine blkQ_normal ?_
    | refine blkQ_ret ?_
    | refine blkQ_out rfl ?_
    | refine blkQ_by rfl ?_)
  refine WpL.nil (logsOk_of (cs := [0, 0, 2, 6, 14, 0, 0, 0, 128, 384, 896, 0, 3968, 8064, 16320, 32766, 65535, 131071]) (by decide +kernel) ?_) ?_
  · simp +contextual [allP, apP, Dis, acc_rd, acc_wr, accw_rd, accw_wr, Nat.testBit]
  have hsnp : ∀ x, x < c → MapI.get h5 x = MapI.get h' x := fun x hx => hf5 x (by omega) (fun hm => by have := hn4 x hm; omega)
  have hqc : q < c := hlq
  have hobj5 : MapI.get h5 q = _ := (hsnp q hqc).trans hobj'
  have h2c : sn2 < c := hPlt sn2 (by simp [rowName])
  have hg25 : MapI.get h5 sn2 = _ := (hsnp sn2 h2c).trans hg2
  have n21 : sn2 ≠ q := hnq sn2 (by simp [rowName])
  repeat' (first
    | refine WpC.seq ?_
    | refine WpC.region ?_
    | refine WpC.drawn ?_
    | refine WpC.skip ?_
    | refine WpC.block ?_
    | refine WpC.exit ?_
    | refine WpC.ret ?_
    | refine WpO.nil ?_
    | refine WpO.cons rfl rfl (WpX.pure (fun _ => rfl) ⟨nolog, ?_⟩)
    | refine WpO.skip rfl rfl ?_
    | refine WpL.cons rfl rfl (WpX.pure (fun _ => rfl) ⟨nolog, ?_⟩)
    | refine WpL.skip rfl rfl ?_
    | refine seqQ_normal ?_
    | refine seqQ_ret ?_
    | refine seqQ_exit ?_
    | refine blkQ_normal ?_
    | refine blkQ_ret ?_
    | refine blkQ_out rfl ?_
    | refine blkQ_by rfl ?_
    | refine WpO.cons rfl rfl (op_load rfl rfl rfl hobj5 rfl ⟨(by simp [InL, Acc.name, rowName] <;> omega), ?_⟩)
    | refine WpL.cons rfl rfl (op_load rfl rfl rfl hobj5 rfl ⟨(by simp [InL, Acc.name, rowName] <;> omega), ?_⟩)
    | refine WpO.cons rfl rfl (op_indexAddr (k := 1) rfl rfl rfl rfl ⟨by omega, by omega⟩ ⟨(by simp [InL, Acc.name, rowName] <;> omega), ?_⟩)
    | refine WpL.cons rfl rfl (op_indexAddr (k := 1) rfl rfl rfl rfl ⟨by omega, by omega⟩ ⟨(by simp [InL, Acc.name, rowName] <;> omega), ?_⟩)
    | refine WpO.cons rfl rfl (op_store (k := 1) rfl rfl rfl rfl hg25 hfl rfl ⟨(by simp [InL, Acc.name, rowName] <;> omega), ?_⟩)
    | refine WpL.cons rfl rfl (op_store (k := 1) rfl rfl rfl rfl hg25 hfl rfl ⟨(by simp [InL, Acc.name, rowName] <;> omega), ?_⟩))
  refine ⟨i + 1, by omega, k + 1, v5, ?_, by omega, hm2, ?_, ?_, fun x hx => ?_, by omega, fun x hx hxp => ?_⟩
  · rw [hw1]; exact set5 rfl rfl rfl rfl rfl
  · refine .inr ⟨sn2, cl2, junk2, by rw [mrk_length], by omega, ?_, hj2⟩
    rw [hts, hoff, MapI.get_same]
    exact congrArg (fun l => some (AObj.cells true cl2 l)) ((set_int (by rw [mrk_length]; exact hlt2)).trans (by rw [← hte, mrk_set hl _ hik hx]))
  · rw [take_snoc hik, outs_snoc hx]
    exact hl5.keep (Nat.le_refl _) fun x hx hm => MapI.get_ne _ sn2 x _ (fun e => by
      rcases hn5 x hm with h1 | ⟨h1, _⟩
      · have := hn4 x h1; omega
      · omega)
  · rcases hn5 x hx with h1 | ⟨h1, _⟩
    · exact hn4 x h1
    · omega
  · rw [MapI.get_ne _ _ _ _ (fun e => hxp (by simp [rowName, e])), hsnp x hx]
    exact hs.old x hx hxp
end Go.Proofs.Ytempfmkicpifkaa


set_option linter.unusedVariables false
set_option linter.unusedSectionVars false
set_option linter.unusedSimpArgs false
set_option linter.unnecessarySimpa false
namespace Go.Proofs.Ytempfmkicpifkaa
open Go.Ab
set_option maxRecDepth 10000

/-- One cell of a row of the three is written anew. -/
theorem RefAt.setAt {h : HH} {c q sn i off len : Nat} {vB vS vC : V} {st : St} {cl : Bool} {junk : List V} {xs : List Int} {x : R3} {z : Int} (r : RefAt h c q vB (.slice (some (sn, 0)) len (.upTo 1)) vS vC st) (hlen : len = st.rows.length) (hsn : sn < c) (hj : junk.all one1 = true) (hx : st.rows[i]? = some x) (hxs : xs = st.rows.map fun r => r.1) (ho : off = i) :
    RefAt (MapI.set h sn (.cells true cl (setAll (flat intV xs ++ junk) off [I z]))) c q vB (.slice (some (sn, 0)) len (.upTo 1)) vS vC { st with rows := st.rows.set i (z, x.2.1, x.2.2) } := by
  subst hlen hxs ho
  have hi := (List.getElem?_eq_some_iff.1 hx).1
  refine ⟨by rw [MapI.get_ne _ _ _ _ (r.nq sn (by simp [rowName]))]; exact r.obj,
    r.b.keep (Nat.le_refl _) fun n hn hx => MapI.get_ne _ _ _ _ fun e => r.bp n hx (by rw [← e]; simp [rowName]), ?_, ?_, ?_, r.lq, r.nq, r.bp, r.ps, r.sc⟩
  · refine .inr ⟨sn, cl, junk, by simp, hsn, ?_, hj⟩
    rw [MapI.get_same, set_int (by rw [List.length_map]; exact hi)]
    simp only [List.map_set]
  · show ListOf 1 intV _ c vS ((st.rows.set off (z, x.2.1, x.2.2)).map fun r => r.2.1)
    rw [map_sz hx]
    exact r.sz.keep (Nat.le_refl _) fun n hn hx => MapI.get_ne _ _ _ _ fun e => r.ps sn (by simp [rowName]) (by rw [e]; simp [hx])
  · show ListOf 1 intV _ c vC ((st.rows.set off (z, x.2.1, x.2.2)).map fun r => r.2.2)
    rw [map_ct hx]
    exact r.ct.keep (Nat.le_refl _) fun n hn hx => MapI.get_ne _ _ _ _ fun e => r.ps sn (by simp [rowName]) (by rw [e]; simp [hx])
theorem RefAt.setSize {h : HH} {c q sn i off len : Nat} {vB vP vC : V} {st : St} {cl : Bool} {junk : List V} {xs : List Int} {x : R3} {z : Int} (r : RefAt h c q vB vP (.slice (some (sn, 0)) len (.upTo 1)) vC st) (hlen : len = st.rows.length) (hsn : sn < c) (hj : junk.all one1 = true) (hx : st.rows[i]? = some x) (hxs : xs = st.rows.map fun r => r.2.1) (ho : off = i) :
    RefAt (MapI.set h sn (.cells true cl (setAll (flat intV xs ++ junk) off [I z]))) c q vB vP (.slice (some (sn, 0)) len (.upTo 1)) vC { st with rows := st.rows.set i (x.1, z, x.2.2) } := by
  subst hlen hxs ho
  have hi := (List.getElem?_eq_some_iff.1 hx).1
  refine ⟨by rw [MapI.get_ne _ _ _ _ (r.nq sn (by simp [rowName]))]; exact r.obj,
    r.b.keep (Nat.le_refl _) fun n hn hx => MapI.get_ne _ _ _ _ fun e => r.bp n hx (by rw [← e]; simp [rowName]), ?_, ?_, ?_, r.lq, r.nq, r.bp, r.ps, r.sc⟩
  · show ListOf 1 intV _ c vP ((st.rows.set off (x.1, z, x.2.2)).map fun r => r.1)
    rw [map_pl hx]
    exact r.pl.keep (Nat.le_refl _) fun n hn hx => MapI.get_ne _ _ _ _ fun e => r.ps n hx (by rw [← e]; simp [rowName])
  · refine .inr ⟨sn, cl, junk, by simp, hsn, ?_, hj⟩
    rw [MapI.get_same, set_int (by rw [List.length_map]; exact hi)]
    simp only [List.map_set]
  · show ListOf 1 intV _ c vC ((st.rows.set off (x.1, z, x.2.2)).map fun r => r.2.2)
    rw [map_ct hx]
    exact r.ct.keep (Nat.le_refl _) fun n hn hx => MapI.get_ne _ _ _ _ fun e => r.sc sn (by simp [rowName]) (by rw [e]; exact hx)
theorem RefAt.setCnt {h : HH} {c q sn i off len : Nat} {vB vP vS : V} {st : St} {cl : Bool} {junk : List V} {xs : List Int} {x : R3} {z : Int} (r : RefAt h c q vB vP vS (.slice (some (sn, 0)) len (.upTo 1)) st) (hlen : len = st.rows.length) (hsn : sn < c) (hj : junk.all one1 = true) (hx : st.rows[i]? = some x) (hxs : xs = st.rows.map fun r => r.2.2) (ho : off = i) :
    RefAt (MapI.set h sn (.cells true cl (setAll (flat intV xs ++ junk) off [I z]))) c q vB vP vS (.slice (some (sn, 0)) len (.upTo 1)) { st with rows := st.rows.set i (x.1, x.2.1, z) } := by
  subst hlen hxs ho
  exact r.setCount hsn hj hx
theorem rgrant_zero {h : HH} {c q : Nat} {a : Option (Nat × Nat)} {cap : Cap} : Does 75 [.ptr (some (q, 0)), .slice a 0 cap] h c [] fun v h' c' => v = .tuple [I 0, .bool true] ∧ h' = h ∧ c' = c := by
  refine does_of (enter (fn := Try.f75) Try.func75 rfl rfl (Nat.le_of_ble_eq_true rfl) ?_)
  repeat' (first
    | refine WpC.seq ?_
    | refine WpC.region ?_
    | refine WpC.drawn ?_
    | refine WpC.skip ?_
    | refine WpC.block ?_
    | refine WpC.exit ?_
    | refine WpC.ret ?_
    | refine WpO.nil ?_
    | refine WpO.cons rfl rfl (WpX.pure (fun _ => rfl) ⟨nolog, ?_⟩)
    | refine WpO.skip rfl rfl ?_
    | refine WpL.cons rfl rfl (WpX.pure (fun _ => rfl) ⟨nolog, ?_⟩)
    | refine WpL.skip rfl rfl ?_
    | refine seqQ_normal ?_
    | refine seqQ_ret ?_
    | refine seqQ_exit ?_
    | refine blkQ_normal ?_
    | refine blkQ_ret ?_
    | refine blkQ_out rfl ?_
    | refine blkQ_by rfl ?_
    | refine WpO.cons rfl rfl (op_len rfl rfl rfl ⟨(by simp [InL, Acc.name, rowName] <;> omega), ?_⟩)
    | refine WpL.cons rfl rfl (op_len rfl rfl rfl ⟨(by simp [InL, Acc.name, rowName] <;> omega), ?_⟩))
  refine WpC.cond rfl (fun _ => ?_) (fun hb => by cases hb)
  repeat' (first
    | refine WpC.seq ?_
    | refine WpC.region ?_
    | refine WpC.drawn ?_
    | refine WpC.skip ?_
    | refine WpC.block ?_
    | refine WpC.exit ?_
    | refine WpC.ret ?_
    | refine WpO.nil ?_
    | refine WpO.cons rfl rfl (WpX.pure (fun _ => rfl) ⟨nolog, ?_⟩)
    | refine WpO.skip rfl rfl ?_
    | refine WpL.cons rfl rfl (WpX.pure (fun _ => rfl) ⟨nolog, ?_⟩)
    | refine WpL.skip rfl rfl ?_
    | refine seqQ_normal ?_
    | refine seqQ_ret ?_
    | refine seqQ_exit ?_
    | refine blkQ_normal ?_
    | refine blkQ_ret ?_
    | refine blkQ_out rfl ?_
    | refine blkQ_by rfl ?_)
  exact out_ret rfl ⟨rfl, rfl, rfl⟩
theorem inR_reads {ns : List Nat} {c : Nat} {al : List Acc} (hal : ∀ x ∈ al, InR ns c x) {n : Nat} (hn : n < c) : (∀ x ∈ al, x.name = n → x.writes = false) ∧ (∀ x ∈ al, n = x.name → x.writes = false) := by
  have key : ∀ x ∈ al, x.name = n → x.writes = false := fun x hx e => by
    cases hw : x.writes with
    | false => rfl
    | true => have := (hal x hx).2 hw; omega
  exact ⟨key, fun x hx e => key x hx e.symm⟩
theorem rgrant_no {h : HH} {c q n : Nat} {vB vP vS vC : V} {st : St} {a : Option (Nat × Nat)} {cap : Cap} (r : RefAt h c q vB vP vS vC st) (hlen : st.rows.length ≤ 1000) (hsz : Sized st.rows) (hn : 0 < n) (hn2 : n ≤ 100000000) (hm : 0 ≤ st.most ∧ st.most ≤ 1048576) (hno : tot st.rows > st.most - n) :
    Does 75 [.ptr (some (q, 0)), .slice a n cap] h c (rn q vB vP vS vC) fun v h' c' => v = .tuple [I 0, .bool false] ∧ h' = h ∧ c' = c := by
  have hobj := r.obj
  have hlq := r.lq
  have hw : IntKind.i64.wrap (st.most - (n : Int)) = st.most - n := Go.IntWalk.i64_in _ (by omega)
  refine does_of (enter (fn := Try.f75) Try.func75 rfl rfl (Nat.le_of_ble_eq_true rfl) ?_)
  repeat' (first
    | refine WpC.seq ?_
    | refine WpC.region ?_
    | refine WpC.drawn ?_
    | refine WpC.skip ?_
    | refine WpC.block ?_
    | refine WpC.exit ?_
    | refine WpC.ret ?_
    | refine WpO.nil ?_
    | refine WpO.cons rfl rfl (WpX.pure (fun _ => rfl) ⟨nolog, ?_⟩)
    | refine WpO.skip rfl rfl ?_
    | refine WpL.cons rfl rfl (WpX.pure (fun _ => rfl) ⟨nolog, ?_⟩)
    | refine WpL.skip rfl rfl ?_
    | refine seqQ_normal ?_
    | refine seqQ_ret ?_
    | refine seqQ_exit ?_
    | refine blkQ_normal ?_
    | refine blkQ_ret ?_
    | refine blkQ_out rfl ?_
    | refine blkQ_by rfl ?_
    | refine WpO.cons rfl rfl (op_len rfl rfl rfl ⟨(by simp [InL, Acc.name, rowName] <;> omega), ?_⟩)
    | refine WpL.cons rfl rfl (op_len rfl rfl rfl ⟨(by simp [InL, Acc.name, rowName] <;> omega), ?_⟩))
  refine WpC.cond rfl (fun hb => by simp at hb; omega) (fun _ => ?_)
  repeat' (first
    | refine WpC.seq ?_
    | refine WpC.region ?_
    | refine WpC.drawn ?_
    | refine WpC.skip ?_
    | refine WpC.block ?_
    | refine WpC.exit ?_
    | refine WpC.ret ?_
    | refine WpO.nil ?_
    | refine WpO.cons rfl rfl (WpX.pure (fun _ => rfl) ⟨nolog, ?_⟩)
    | refine WpO.skip rfl rfl ?_
    | refine WpL.cons rfl rfl (WpX.pure (fun _ => rfl) ⟨nolog, ?_⟩)
    | refine WpL.skip rfl rfl ?_
    | refine seqQ_normal ?_
    | refine seqQ_ret ?_
    | refine seqQ_exit ?_
    | refine blkQ_normal ?_
    | refine blkQ_ret ?_
    | refine blkQ_out rfl ?_
    | refine blkQ_by rfl ?_)
  refine WpL.cons rfl rfl (call_atRL rfl (rliveR r hlen hsz) (fun x hx => .inl hx) (Nat.le_refl _) fun v h4 c4 al hal hc4 hfr4 hq => ?_)
  obtain ⟨rfl, rfl, rfl⟩ := hq
  obtain ⟨b1, b2⟩ := inR_reads hal hlq
  repeat' (first
    | refine WpC.seq ?_
    | refine WpC.region ?_
    | refine WpC.drawn ?_
    | refine WpC.skip ?_
    | refine WpC.block ?_
    | refine WpC.exit ?_
    | refine WpC.ret ?_
    | refine WpO.nil ?_
    | refine WpO.cons rfl rfl (WpX.pure (fun _ => rfl) ⟨nolog, ?_⟩)
    | refine WpO.skip rfl rfl ?_
    | refine WpL.cons rfl rfl (WpX.pure (fun _ => rfl) ⟨nolog, ?_⟩)
    | refine WpL.skip rfl rfl ?_
    | refine seqQ_normal ?_
    | refine seqQ_ret ?_
    | refine seqQ_exit ?_
    | refine blkQ_normal ?_
    | refine blkQ_ret ?_
    | refine blkQ_out rfl ?_
    | refine blkQ_by rfl ?_
    | refine WpO.cons rfl rfl (op_len rfl rfl rfl ⟨(by simp [InL, Acc.name, rowName] <;> omega), ?_⟩)
    | refine WpL.cons rfl rfl (op_len rfl rfl rfl ⟨(by simp [InL, Acc.name, rowName] <;> omega), ?_⟩)
    | refine WpO.cons rfl rfl (op_load rfl rfl rfl hobj rfl ⟨(by simp [InL, Acc.name, rowName] <;> omega), ?_⟩)
    | refine WpL.cons rfl rfl (op_load rfl rfl rfl hobj rfl ⟨(by simp [InL, Acc.name, rowName] <;> omega), ?_⟩))
  refine WpL.nil (logsOk_of (cs := [0, 1, 0, 4, 12, 28, 0, 64, 252, 511]) (by decide +kernel) ?_) ?_
  · simp +contextual [allP, apP, Dis, acc_rd, acc_wr, accw_rd, accw_wr, Nat.testBit, b1, b2]
  refine WpC.cond rfl (fun _ => ?_) (fun hb => by rw [hw] at hb; simp at hb; omega)
  repeat' (first
    | refine WpC.seq ?_
    | refine WpC.region ?_
    | refine WpC.drawn ?_
    | refine WpC.skip ?_
    | refine WpC.block ?_
    | refine WpC.exit ?_
    | refine WpC.ret ?_
    | refine WpO.nil ?_
    | refine WpO.cons rfl rfl (WpX.pure (fun _ => rfl) ⟨nolog, ?_⟩)
    | refine WpO.skip rfl rfl ?_
    | refine WpL.cons rfl rfl (WpX.pure (fun _ => rfl) ⟨nolog, ?_⟩)
    | refine WpL.skip rfl rfl ?_
    | refine seqQ_normal ?_
    | refine seqQ_ret ?_
    | refine seqQ_exit ?_
    | refine blkQ_normal ?_
    | refine blkQ_ret ?_
    | refine blkQ_out rfl ?_
    | refine blkQ_by rfl ?_)
  exact out_ret rfl ⟨rfl, rfl, rfl⟩

set_option maxHeartbeats 16000000 in
theorem rgrant_full {h : HH} {c q m o n : Nat} {vB vP vS vC : V} {st : St} {cap : Cap} {rw' cl' : Bool} {cs : List V} {ys : List Int} (r : RefAt h c q vB vP vS vC st) (hl : Lies st.bs.length st.rows) (hsz : Sized st.rows) (hfit : (st.bs.length : Int) ≤ st.most) (hn : 0 < n) (hn2 : n ≤ 1048576) (hy : ys.length = n) (hx : MapI.get h m = some (.cells rw' cl' cs)) (hcut : cut cs o (n * 1) = some (flat byteV ys)) (hm : 0 ≤ st.most ∧ st.most ≤ 1048576)
    (hyes : tot st.rows ≤ st.most - n) (hlen : st.rows.length ≤ 999) (hmc : m < c) (hmn : m ∉ rn q vB vP vS vC) :
    Does 75 [.ptr (some (q, 0)), .slice (some (m, o)) n cap] h c (m :: rn q vB vP vS vC) fun v h' c' => MapI.get h' m = MapI.get h m ∧ ∃ (i : Nat) (vB' vP' vS' vC' : V) (rows' : List (Int × Int × Int)), v = .tuple [I ((i + 1 : Nat) : Int), .bool true] ∧
      RefAt h' c' q vB' vP' vS' vC' ⟨(room st n).bs ++ ys, st.most, rows', st.live + n⟩ ∧ (∀ a ∈ rn q vB' vP' vS' vC', a ∈ rn q vB vP vS vC ∨ c ≤ a) ∧ i ≤ st.rows.length ∧ (∀ j p, j < i → (room st n).rows[j]? = some p → p.2.2 > 0) ∧
      ((∃ p, (room st n).rows[i]? = some p ∧ ¬ p.2.2 > 0 ∧ rows' = (room st n).rows.set i ((room st n).bs.length, n, 1)) ∨ (i = st.rows.length ∧ rows' = (room st n).rows ++ [(((room st n).bs.length : Int), (n : Int), (1 : Int))])) := by
  have hobj := r.obj
  have hlq := r.lq
  have hw : IntKind.i64.wrap (st.most - (n : Int)) = st.most - n := Go.IntWalk.i64_in _ (by omega)
  have hot := outs_tot hl
  obtain ⟨sb, cb, hvB, _⟩ := r.b.shape
  refine does_of (enter (fn := Try.f75) Try.func75 rfl rfl (Nat.le_of_ble_eq_true rfl) ?_)
  subst hvB
  repeat' (first
    | refine WpC.seq ?_
    | refine WpC.region ?_
    | refine WpC.drawn ?_
    | refine WpC.skip ?_
    | refine WpC.block ?_
    | refine WpC.exit ?_
    | refine WpC.ret ?_
    | refine WpO.nil ?_
    | refine WpO.cons rfl rfl (WpX.pure (fun _ => rfl) ⟨nolog, ?_⟩)
    | refine WpO.skip rfl rfl ?_
    | refine WpL.cons rfl rfl (WpX.pure (fun _ => rfl) ⟨nolog, ?_⟩)
    | refine WpL.skip rfl rfl ?_
    | refine seqQ_normal ?_
    | refine seqQ_ret ?_
    | refine seqQ_exit ?_
    | refine blkQ_normal ?_
    | refine blkQ_ret ?_
    | refine blkQ_out rfl ?_
    | refine blkQ_by rfl ?_
    | refine WpO.cons rfl rfl (op_len rfl rfl rfl ⟨(by simp [InL, Acc.name, rowName] <;> omega), ?_⟩)
    | refine WpL.cons rfl rfl (op_len rfl rfl rfl ⟨(by simp [InL, Acc.name, rowName] <;> omega), ?_⟩))
  refine WpC.cond rfl (fun hb => by simp at hb; omega) (fun _ => ?_)
  repeat' (first
    | refine WpC.seq ?_
    | refine WpC.region ?_
    | refine WpC.drawn ?_
    | refine WpC.skip ?_
    | refine WpC.block ?_
    | refine WpC.exit ?_
    | refine WpC.ret ?_
    | refine WpO.nil ?_
    | refine WpO.cons rfl rfl (WpX.pure (fun _ => rfl) ⟨nolog, ?_⟩)
    | refine WpO.skip rfl rfl ?_
    | refine WpL.cons rfl rfl (WpX.pure (fun _ => rfl) ⟨nolog, ?_⟩)
    | refine WpL.skip rfl rfl ?_
    | refine seqQ_normal ?_
    | refine seqQ_ret ?_
    | refine seqQ_exit ?_
    | refine blkQ_normal ?_
    | refine blkQ_ret ?_
    | refine blkQ_out rfl ?_
    | refine blkQ_by rfl ?_)
  refine WpL.cons rfl rfl (call_atRL rfl (rliveR r (by omega) hsz) (fun x hx => .inl (List.mem_cons_of_mem _ hx)) (Nat.le_refl _) fun v h4 c4 al hal hc4 hfr4 hq => ?_)
  obtain ⟨rfl, rfl, rfl⟩ := hq
  obtain ⟨b1, b2⟩ := inR_reads hal hlq
  repeat' (first
    | refine WpC.seq ?_
    | refine WpC.region ?_
    | refine WpC.drawn ?_
    | refine WpC.skip ?_
    | refine WpC.block ?_
    | refine WpC.exit ?_
    | refine WpC.ret ?_
    | refine WpO.nil ?_
    | refine WpO.cons rfl rfl (WpX.pure (fun _ => rfl) ⟨nolog, ?_⟩)
    | refine WpO.skip rfl rfl ?_
    | refine WpL.cons rfl rfl (WpX.pure (fun _ => rfl) ⟨nolog, ?_⟩)
    | refine WpL.skip rfl rfl ?_
    | refine seqQ_normal ?_
    | refine seqQ_ret ?_
    | refine seqQ_exit ?_
    | refine blkQ_normal ?_
    | refine blkQ_ret ?_
    | refine blkQ_out rfl ?_
    | refine blkQ_by rfl ?_
    | refine WpO.cons rfl rfl (op_len rfl rfl rfl ⟨(by simp [InL, Acc.name, rowName] <;> omega), ?_⟩)
    | refine WpL.cons rfl rfl (op_len rfl rfl rfl ⟨(by simp [InL, Acc.name, rowName] <;> omega), ?_⟩)
    | refine WpO.cons rfl rfl (op_load rfl rfl rfl hobj rfl ⟨(by simp [InL, Acc.name, rowName] <;> omega), ?_⟩)
    | refine WpL.cons rfl rfl (op_load rfl rfl rfl hobj rfl ⟨(by simp [InL, Acc.name, rowName] <;> omega), ?_⟩))
  refine WpL.nil (logsOk_of (cs := [0, 1, 0, 4, 12, 28, 0, 64, 252, 511]) (by decide +kernel) ?_) ?_
  · simp +contextual [allP, apP, Dis, acc_rd, acc_wr, accw_rd, accw_wr, Nat.testBit, b1, b2]
  refine WpC.cond rfl (fun hb => by rw [hw] at hb; simp at hb; omega) (fun _ => ?_)
  repeat' (first
    | refine WpC.seqI (a := Code.seq (Code.region 5 _ _) _) (fun e h1 c1 => (∃ b0, e = MapI.set (MapI.set b0 0 (.ptr (some (q, 0)))) 1 (.slice (some (m, o)) n cap)) ∧ c4 ≤ c1 ∧ MapI.get h1 m = MapI.get h4 m ∧ ∃ vB1, (∀ a ∈ rowName vB1, a ∈ rowName (.slice sb st.bs.length cb) ∨ c4 ≤ a) ∧ RefAt h1 c1 q vB1 vP vS vC (room st n)) ?_ ?_
    | refine WpC.seq ?_
    | refine WpC.region ?_
    | refine WpC.drawn ?_
    | refine WpC.skip ?_
    | refine WpC.block ?_
    | refine WpC.exit ?_
    | refine WpC.ret ?_
    | refine WpO.nil ?_
    | refine WpO.cons rfl rfl (WpX.pure (fun _ => rfl) ⟨nolog, ?_⟩)
    | refine WpO.skip rfl rfl ?_
    | refine WpL.cons rfl rfl (WpX.pure (fun _ => rfl) ⟨nolog, ?_⟩)
    | refine WpL.skip rfl rfl ?_
    | refine seqQ_normal ?_
    | refine seqQ_ret ?_
    | refine seqQ_exit ?_
    | refine blkQ_normal ?_
    | refine blkQ_ret ?_
    | refine blkQ_out rfl ?_
    | refine blkQ_by rfl ?_)
  ·
    repeat' (first
      | refine WpC.seq ?_
      | refine WpC.region ?_
      | refine WpC.drawn ?_
      | refine WpC.skip ?_
      | refine WpC.block ?_
      | refine WpC.exit ?_
      | refine WpC.ret ?_
      | refine WpO.nil ?_
      | refine WpO.cons rfl rfl (WpX.pure (fun _ => rfl) ⟨nolog, ?_⟩)
      | refine WpO.skip rfl rfl ?_
      | refine WpL.cons rfl rfl (WpX.pure (fun _ => rfl) ⟨nolog, ?_⟩)
      | refine WpL.skip rfl rfl ?_
      | refine seqQ_normal ?_
      | refine seqQ_ret ?_
      | refine seqQ_exit ?_
      | refine blkQ_normal ?_
      | refine blkQ_ret ?_
      | refine blkQ_out rfl ?_
      | refine blkQ_by rfl ?_
      | refine WpO.cons rfl rfl (op_len rfl rfl rfl ⟨(by simp [InL, Acc.name, rowName] <;> omega), ?_⟩)
      | refine WpL.cons rfl rfl (op_len rfl rfl rfl ⟨(by simp [InL, Acc.name, rowName] <;> omega), ?_⟩)
      | refine WpO.cons rfl rfl (op_load rfl rfl rfl hobj rfl ⟨(by simp [InL, Acc.name, rowName] <;> omega), ?_⟩)
      | refine WpL.cons rfl rfl (op_load rfl rfl rfl hobj rfl ⟨(by simp [InL, Acc.name, rowName] <;> omega), ?_⟩))
    refine WpL.nil (logsOk_of (cs := [0, 1, 3, 7, 15, 0, 32, 96, 224, 0, 512, 2016, 4095]) (by decide +kernel) ?_) ?_
    · simp +contextual [allP, apP, Dis, acc_rd, acc_wr, accw_rd, accw_wr, Nat.testBit]
    refine WpC.cond rfl (fun hb => ?_) (fun hb => ?_)
    · rw [hw] at hb
      have hb : (st.bs.length : Int) > st.most - n := by simpa using hb
      have hr : room st n = slidSt st := by unfold room; rw [if_neg (by omega)]
      repeat' (first
        | refine WpC.seq ?_
        | refine WpC.region ?_
        | refine WpC.drawn ?_
        | refine WpC.skip ?_
        | refine WpC.block ?_
        | refine WpC.exit ?_
        | refine WpC.ret ?_
        | refine WpO.nil ?_
        | refine WpO.cons rfl rfl (WpX.pure (fun _ => rfl) ⟨nolog, ?_⟩)
        | refine WpO.skip rfl rfl ?_
        | refine WpL.cons rfl rfl (WpX.pure (fun _ => rfl) ⟨nolog, ?_⟩)
        | refine WpL.skip rfl rfl ?_
        | refine seqQ_normal ?_
        | refine seqQ_ret ?_
        | refine seqQ_exit ?_
        | refine blkQ_normal ?_
        | refine blkQ_ret ?_
        | refine blkQ_out rfl ?_
        | refine blkQ_by rfl ?_)
      refine WpO.cons rfl rfl (call_at rfl (rslide_ok r (by omega) (by omega) hl) (fun x hx => .inl (List.mem_cons_of_mem _ hx)) (Nat.le_refl _) fun v h5 c5 hc5 hfr5 hq => ?_)
      obtain ⟨rfl, _, vB', hvB', r5⟩ := hq
      repeat' (first
        | refine WpC.seq ?_
        | refine WpC.region ?_
        | refine WpC.drawn ?_
        | refine WpC.skip ?_
        | refine WpC.block ?_
        | refine WpC.exit ?_
        | refine WpC.ret ?_
        | refine WpO.nil ?_
        | refine WpO.cons rfl rfl (WpX.pure (fun _ => rfl) ⟨nolog, ?_⟩)
        | refine WpO.skip rfl rfl ?_
        | refine WpL.cons rfl rfl (WpX.pure (fun _ => rfl) ⟨nolog, ?_⟩)
        | refine WpL.skip rfl rfl ?_
        | refine seqQ_normal ?_
        | refine seqQ_ret ?_
        | refine seqQ_exit ?_
        | refine blkQ_normal ?_
        | refine blkQ_ret ?_
        | refine blkQ_out rfl ?_
        | refine blkQ_by rfl ?_)
      refine ⟨set2 rfl rfl, hc5, hfr5 m hmc hmn, vB', fun a ha => .inr (hvB' a ha), ?_⟩
      rw [hr]; exact r5
    · rw [hw] at hb
      have hb : ¬ (st.bs.length : Int) > st.most - n := by simpa using hb
      have hr : room st n = st := by unfold room; rw [if_pos (by omega)]
      repeat' (first
        | refine WpC.seq ?_
        | refine WpC.region ?_
        | refine WpC.drawn ?_
        | refine WpC.skip ?_
        | refine WpC.block ?_
        | refine WpC.exit ?_
        | refine WpC.ret ?_
        | refine WpO.nil ?_
        | refine WpO.cons rfl rfl (WpX.pure (fun _ => rfl) ⟨nolog, ?_⟩)
        | refine WpO.skip rfl rfl ?_
        | refine WpL.cons rfl rfl (WpX.pure (fun _ => rfl) ⟨nolog, ?_⟩)
        | refine WpL.skip rfl rfl ?_
        | refine seqQ_normal ?_
        | refine seqQ_ret ?_
        | refine seqQ_exit ?_
        | refine blkQ_normal ?_
        | refine blkQ_ret ?_
        | refine blkQ_out rfl ?_
        | refine blkQ_by rfl ?_)
      refine ⟨set2 rfl rfl, Nat.le_refl _, rfl, _, fun a ha => .inl ha, ?_⟩
      rw [hr]; exact r
  rintro e1 h1 c1 ⟨⟨b1, rfl⟩, hc1, hx1, vB1, hvB1, r1⟩
  have hmost := room_most st n
  have hbs1 : ((room st n).bs.length : Int) ≤ st.most - n := by
    unfold room
    split
    · next h => exact h
    · show ((outs st.bs st.rows (order st.rows)).length : Int) ≤ _
      omega
  have hrl := room_rows st n
  generalize room st n = s1 at r1 hmost hbs1 hrl ⊢
  rw [hx] at hx1
  have hmn1 : m ∉ rn q vB1 vP vS vC := fun hm1 => by
    simp only [List.mem_cons, List.mem_append] at hm1
    rcases hm1 with e | hm1 | hm1
    · exact hmn (by simp [e])
    · rcases hvB1 m hm1 with h | h
      · exact hmn (by simp [h])
      · omega
    · exact hmn (by simp; exact .inr (.inr hm1))
  have inm : ∀ a ∈ rn q vB1 vP vS vC, a ∈ m :: rn q (.slice sb st.bs.length cb) vP vS vC ∨ c4 ≤ a := fun a ha => by
    simp only [List.mem_cons, List.mem_append] at ha ⊢
    rcases ha with e | ha | ha
    · exact .inl (.inr (.inl e))
    · rcases hvB1 a ha with h | h
      · exact .inl (.inr (.inr (.inl h)))
      · exact .inr h
    · exact .inl (.inr (.inr (.inr ha)))
  have hmc1 : m < c1 := by omega
  have hobj1 := r1.obj
  have hlq1 := r1.lq
  obtain ⟨sC, capC, hvC, hsC⟩ := r1.ct.shapeN (n := s1.rows.length) (List.length_map _)
  repeat' (first
    | refine WpC.seqI (a := Code.block 0 _) (fun e h2 c2 => ∃ i, (∃ b0, e = MapI.set (MapI.set (MapI.set b0 0 (.ptr (some (q, 0)))) 1 (.slice (some (m, o)) n cap)) 6 (I ((i : Nat) : Int))) ∧ i ≤ s1.rows.length ∧ (∀ j p, j < i → s1.rows[j]? = some p → p.2.2 > 0) ∧ (∀ p, s1.rows[i]? = some p → ¬ p.2.2 > 0) ∧ h1 = h2 ∧ c1 = c2) ?_ ?_
    | refine WpC.seq ?_
    | refine WpC.region ?_
    | refine WpC.drawn ?_
    | refine WpC.skip ?_
    | refine WpC.block ?_
    | refine WpC.exit ?_
    | refine WpC.ret ?_
    | refine WpO.nil ?_
    | refine WpO.cons rfl rfl (WpX.pure (fun _ => rfl) ⟨nolog, ?_⟩)
    | refine WpO.skip rfl rfl ?_
    | refine WpL.cons rfl rfl (WpX.pure (fun _ => rfl) ⟨nolog, ?_⟩)
    | refine WpL.skip rfl rfl ?_
    | refine seqQ_normal ?_
    | refine seqQ_ret ?_
    | refine seqQ_exit ?_
    | refine blkQ_normal ?_
    | refine blkQ_ret ?_
    | refine blkQ_out rfl ?_
    | refine blkQ_by rfl ?_)
  · refine WpC.loop ?_
    refine WpLoop.ind (X := Nat) (fun i e h2 c2 => (∃ b0, e = MapI.set (MapI.set (MapI.set b0 0 (.ptr (some (q, 0)))) 1 (.slice (some (m, o)) n cap)) 6 (I i)) ∧ i ≤ s1.rows.length ∧ (∀ j p, j < i → s1.rows[j]? = some p → p.2.2 > 0) ∧ h1 = h2 ∧ c1 = c2)
      (fun i => s1.rows.length - i) ?_ 0 _ _ _ ⟨set3 rfl rfl rfl, Nat.zero_le _, fun j p hj => by omega, rfl, rfl⟩
    rintro i e h2 c2 ⟨⟨b2, rfl⟩, hi, hbef, rfl, rfl⟩
    subst hvC
    by_cases hlt : i < s1.rows.length
    case neg =>
      have e1 : decide (((i : Nat) : Int) < ((s1.rows.length : Nat) : Int)) = false := by simp; omega
      repeat' (first
        | refine WpC.seq ?_
        | refine WpC.region ?_
        | refine WpC.drawn ?_
        | refine WpC.skip ?_
        | refine WpC.block ?_
        | refine WpC.exit ?_
        | refine WpC.ret ?_
        | refine WpO.nil ?_
        | refine WpO.cons rfl rfl (WpX.pure (fun _ => rfl) ⟨nolog, ?_⟩)
        | refine WpO.skip rfl rfl ?_
        | refine WpL.cons rfl rfl (WpX.pure (fun _ => rfl) ⟨nolog, ?_⟩)
        | refine WpL.skip rfl rfl ?_
        | refine seqQ_normal ?_
        | refine seqQ_ret ?_
        | refine seqQ_exit ?_
        | refine blkQ_normal ?_
        | refine blkQ_ret ?_
        | refine blkQ_out rfl ?_
        | refine blkQ_by rfl ?_
        | refine WpO.cons rfl rfl (op_load rfl rfl rfl hobj1 rfl ⟨(by simp [InL, Acc.name, rowName] <;> omega), ?_⟩)
        | refine WpL.cons rfl rfl (op_load rfl rfl rfl hobj1 rfl ⟨(by simp [InL, Acc.name, rowName] <;> omega), ?_⟩)
        | refine WpO.cons rfl rfl (op_len rfl rfl rfl ⟨(by simp [InL, Acc.name, rowName] <;> omega), ?_⟩)
        | refine WpL.cons rfl rfl (op_len rfl rfl rfl ⟨(by simp [InL, Acc.name, rowName] <;> omega), ?_⟩))
      simp only [e1]
      repeat' (first
        | refine WpC.seq ?_
        | refine WpC.region ?_
        | refine WpC.drawn ?_
        | refine WpC.skip ?_
        | refine WpC.block ?_
        | refine WpC.exit ?_
        | refine WpC.ret ?_
        | refine WpO.nil ?_
        | refine WpO.cons rfl rfl (WpX.pure (fun _ => rfl) ⟨nolog, ?_⟩)
        | refine WpO.skip rfl rfl ?_
        | refine WpL.cons rfl rfl (WpX.pure (fun _ => rfl) ⟨nolog, ?_⟩)
        | refine WpL.skip rfl rfl ?_
        | refine seqQ_normal ?_
        | refine seqQ_ret ?_
        | refine seqQ_exit ?_
        | refine blkQ_normal ?_
        | refine blkQ_ret ?_
        | refine blkQ_out rfl ?_
        | refine blkQ_by rfl ?_)
      refine WpC.cond rfl (fun hb => by cases hb) (fun _ => ?_)
      repeat' (first
        | refine WpC.seq ?_
        | refine WpC.region ?_
        | refine WpC.drawn ?_
        | refine WpC.skip ?_
        | refine WpC.block ?_
        | refine WpC.exit ?_
        | refine WpC.ret ?_
        | refine WpO.nil ?_
        | refine WpO.cons rfl rfl (WpX.pure (fun _ => rfl) ⟨nolog, ?_⟩)
        | refine WpO.skip rfl rfl ?_
        | refine WpL.cons rfl rfl (WpX.pure (fun _ => rfl) ⟨nolog, ?_⟩)
        | refine WpL.skip rfl rfl ?_
        | refine seqQ_normal ?_
        | refine seqQ_ret ?_
        | refine seqQ_exit ?_
        | refine blkQ_normal ?_
        | refine blkQ_ret ?_
        | refine blkQ_out rfl ?_
        | refine blkQ_by rfl ?_)
      exact ⟨i, set3 rfl rfl rfl, hi, hbef, fun p hp => by have := (List.getElem?_eq_some_iff.1 hp).1; omega, rfl, rfl⟩
    have e1 : decide (((i : Nat) : Int) < ((s1.rows.length : Nat) : Int)) = true := by simpa using hlt
    obtain ⟨rfl, sn, cl, junk, rfl, hsn, hg, hj⟩ := hsC i hlt
    obtain ⟨x, hx⟩ : ∃ x, s1.rows[i]? = some x := ⟨_, List.getElem?_eq_getElem hlt⟩
    have hoff : 0 + ((i : Nat) : Int).toNat * 1 = i := by simp
    have hz : nth (flat intV (s1.rows.map fun r => r.2.2) ++ junk) (0 + ((i : Nat) : Int).toNat * 1) = some (I x.2.2) := by
      rw [hoff]; exact nthI (by rw [List.getElem?_map, hx]; rfl) junk
    have hw1 : IntKind.i64.wrap ((i : Int) + 1) = ((i + 1 : Nat) : Int) := by rw [Go.IntWalk.i64_in _ (by omega)]; omega
    have hin : sn ∈ rn q vB1 vP vS (.slice (some (sn, 0)) s1.rows.length (.upTo 1)) := by simp [rowName]
    have hLn := inm sn hin
    repeat' (first
      | refine WpC.seq ?_
      | refine WpC.region ?_
      | refine WpC.drawn ?_
      | refine WpC.skip ?_
      | refine WpC.block ?_
      | refine WpC.exit ?_
      | refine WpC.ret ?_
      | refine WpO.nil ?_
      | refine WpO.cons rfl rfl (WpX.pure (fun _ => rfl) ⟨nolog, ?_⟩)
      | refine WpO.skip rfl rfl ?_
      | refine WpL.cons rfl rfl (WpX.pure (fun _ => rfl) ⟨nolog, ?_⟩)
      | refine WpL.skip rfl rfl ?_
      | refine seqQ_normal ?_
      | refine seqQ_ret ?_
      | refine seqQ_exit ?_
      | refine blkQ_normal ?_
      | refine blkQ_ret ?_
      | refine blkQ_out rfl ?_
      | refine blkQ_by rfl ?_
      | refine WpO.cons rfl rfl (op_load rfl rfl rfl hobj1 rfl ⟨(by simp [InL, Acc.name, rowName] <;> omega), ?_⟩)
      | refine WpL.cons rfl rfl (op_load rfl rfl rfl hobj1 rfl ⟨(by simp [InL, Acc.name, rowName] <;> omega), ?_⟩)
      | refine WpO.cons rfl rfl (op_len rfl rfl rfl ⟨(by simp [InL, Acc.name, rowName] <;> omega), ?_⟩)
      | refine WpL.cons rfl rfl (op_len rfl rfl rfl ⟨(by simp [InL, Acc.name, rowName] <;> omega), ?_⟩))
    simp only [e1]
    repeat' (first
      | refine WpC.seq ?_
      | refine WpC.region ?_
      | refine WpC.drawn ?_
      | refine WpC.skip ?_
      | refine WpC.block ?_
      | refine WpC.exit ?_
      | refine WpC.ret ?_
      | refine WpO.nil ?_
      | refine WpO.cons rfl rfl (WpX.pure (fun _ => rfl) ⟨nolog, ?_⟩)
      | refine WpO.skip rfl rfl ?_
      | refine WpL.cons rfl rfl (WpX.pure (fun _ => rfl) ⟨nolog, ?_⟩)
      | refine WpL.skip rfl rfl ?_
      | refine seqQ_normal ?_
      | refine seqQ_ret ?_
      | refine seqQ_exit ?_
      | refine blkQ_normal ?_
      | refine blkQ_ret ?_
      | refine blkQ_out rfl ?_
      | refine blkQ_by rfl ?_
      | refine WpO.cons rfl rfl (op_load rfl rfl rfl hobj1 rfl ⟨(by simp [InL, Acc.name, rowName] <;> omega), ?_⟩)
      | refine WpL.cons rfl rfl (op_load rfl rfl rfl hobj1 rfl ⟨(by simp [InL, Acc.name, rowName] <;> omega), ?_⟩)
      | refine WpO.cons rfl rfl (op_indexAddr (k := 1) rfl rfl rfl rfl ⟨by omega, by omega⟩ ⟨(by simp [InL, Acc.name, rowName] <;> omega), ?_⟩)
      | refine WpL.cons rfl rfl (op_indexAddr (k := 1) rfl rfl rfl rfl ⟨by omega, by omega⟩ ⟨(by simp [InL, Acc.name, rowName] <;> omega), ?_⟩)
      | refine WpO.cons rfl rfl (op_load rfl rfl rfl hg hz ⟨fun x hx => by simp at hx; subst hx; exact hLn, ?_⟩))
    refine WpC.cond rfl (fun hp => ?_) (fun hp => ?_)
    · have hp : x.2.2 > 0 := by simpa using hp
      repeat' (first
        | refine WpC.seq ?_
        | refine WpC.region ?_
        | refine WpC.drawn ?_
        | refine WpC.skip ?_
        | refine WpC.block ?_
        | refine WpC.exit ?_
        | refine WpC.ret ?_
        | refine WpO.nil ?_
        | refine WpO.cons rfl rfl (WpX.pure (fun _ => rfl) ⟨nolog, ?_⟩)
        | refine WpO.skip rfl rfl ?_
        | refine WpL.cons rfl rfl (WpX.pure (fun _ => rfl) ⟨nolog, ?_⟩)
        | refine WpL.skip rfl rfl ?_
        | refine seqQ_normal ?_
        | refine seqQ_ret ?_
        | refine seqQ_exit ?_
        | refine blkQ_normal ?_
        | refine blkQ_ret ?_
        | refine blkQ_out rfl ?_
        | refine blkQ_by rfl ?_)
      refine ⟨i + 1, by omega, ?_, by omega, fun j p hj hp2 => ?_, rfl, rfl⟩
      · rw [hw1]; exact set3 rfl rfl rfl
      · by_cases e : j = i
        · subst e; rw [hx] at hp2; cases hp2; exact hp
        · exact hbef j p (by omega) hp2
    · have hp : ¬ x.2.2 > 0 := by simpa using hp
      repeat' (first
        | refine WpC.seq ?_
        | refine WpC.region ?_
        | refine WpC.drawn ?_
        | refine WpC.skip ?_
        | refine WpC.block ?_
        | refine WpC.exit ?_
        | refine WpC.ret ?_
        | refine WpO.nil ?_
        | refine WpO.cons rfl rfl (WpX.pure (fun _ => rfl) ⟨nolog, ?_⟩)
        | refine WpO.skip rfl rfl ?_
        | refine WpL.cons rfl rfl (WpX.pure (fun _ => rfl) ⟨nolog, ?_⟩)
        | refine WpL.skip rfl rfl ?_
        | refine seqQ_normal ?_
        | refine seqQ_ret ?_
        | refine seqQ_exit ?_
        | refine blkQ_normal ?_
        | refine blkQ_ret ?_
        | refine blkQ_out rfl ?_
        | refine blkQ_by rfl ?_)
      exact ⟨i, set3 rfl rfl rfl, hi, hbef, fun p hp2 => by rw [hx] at hp2; cases hp2; exact hp, rfl, rfl⟩
  rintro e2 h2 c2 ⟨i, ⟨b2, rfl⟩, hi, hbef, hdead, rfl, rfl⟩
  have nme := r1.names
  have hqP : ∀ a ∈ rowName vP, a ≠ q := fun a ha => r1.nq a (by simp [ha])
  have hqS : ∀ a ∈ rowName vS, a ≠ q := fun a ha => r1.nq a (by simp [ha])
  have hqC : ∀ a ∈ rowName vC, a ≠ q := fun a ha => r1.nq a (by simp [ha])
  have hPc : ∀ a ∈ rowName vP, a < c1 := r1.pl.lt
  have hSc : ∀ a ∈ rowName vS, a < c1 := r1.sz.lt
  have hCc : ∀ a ∈ rowName vC, a < c1 := r1.ct.lt
  have hBc : ∀ a ∈ rowName vB1, a < c1 := r1.b.lt
  repeat' (first
    | refine WpC.seqI (a := Code.seq (Code.region 10 _ _) _) (fun e h5 c5 => (∃ b0, e = MapI.set (MapI.set (MapI.set b0 0 (.ptr (some (q, 0)))) 1 (.slice (some (m, o)) n cap)) 6 (I i)) ∧ c1 ≤ c5 ∧ MapI.get h5 m = MapI.get h1 m ∧ ∃ vP2 vS2 vC2 rows2, RefAt h5 c5 q vB1 vP2 vS2 vC2 { s1 with rows := rows2 } ∧ (∀ a ∈ rowName vP2 ++ (rowName vS2 ++ rowName vC2), a ∈ rowName vP ++ (rowName vS ++ rowName vC) ∨ c1 ≤ a) ∧ i < rows2.length ∧ rows2.length ≤ s1.rows.length + 1 ∧ ((∃ p, s1.rows[i]? = some p ∧ ¬ p.2.2 > 0 ∧ rows2.set i ((s1.bs.length : Int), (n : Int), (1 : Int)) = s1.rows.set i (s1.bs.length, n, 1)) ∨ (i = s1.rows.length ∧ rows2.set i ((s1.bs.length : Int), (n : Int), (1 : Int)) = s1.rows ++ [((s1.bs.length : Int), (n : Int), (1 : Int))]))) ?_ ?_
    | refine WpC.seq ?_
    | refine WpC.region ?_
    | refine WpC.drawn ?_
    | refine WpC.skip ?_
    | refine WpC.block ?_
    | refine WpC.exit ?_
    | refine WpC.ret ?_
    | refine WpO.nil ?_
    | refine WpO.cons rfl rfl (WpX.pure (fun _ => rfl) ⟨nolog, ?_⟩)
    | refine WpO.skip rfl rfl ?_
    | refine WpL.cons rfl rfl (WpX.pure (fun _ => rfl) ⟨nolog, ?_⟩)
    | refine WpL.skip rfl rfl ?_
    | refine seqQ_normal ?_
    | refine seqQ_ret ?_
    | refine seqQ_exit ?_
    | refine blkQ_normal ?_
    | refine blkQ_ret ?_
    | refine blkQ_out rfl ?_
    | refine blkQ_by rfl ?_)
  · by_cases hlt : i < s1.rows.length
    · have e1 : (((i : Nat) : Int) == ((s1.rows.length : Nat) : Int)) = false := beq_eq_false_iff_ne.2 (by omega)
      obtain ⟨x, hx⟩ : ∃ x, s1.rows[i]? = some x := ⟨_, List.getElem?_eq_getElem hlt⟩
      subst hvC
      repeat' (first
        | refine WpC.seq ?_
        | refine WpC.region ?_
        | refine WpC.drawn ?_
        | refine WpC.skip ?_
        | refine WpC.block ?_
        | refine WpC.exit ?_
        | refine WpC.ret ?_
        | refine WpO.nil ?_
        | refine WpO.cons rfl rfl (WpX.pure (fun _ => rfl) ⟨nolog, ?_⟩)
        | refine WpO.skip rfl rfl ?_
        | refine WpL.cons rfl rfl (WpX.pure (fun _ => rfl) ⟨nolog, ?_⟩)
        | refine WpL.skip rfl rfl ?_
        | refine seqQ_normal ?_
        | refine seqQ_ret ?_
        | refine seqQ_exit ?_
        | refine blkQ_normal ?_
        | refine blkQ_ret ?_
        | refine blkQ_out rfl ?_
        | refine blkQ_by rfl ?_
        | refine WpO.cons rfl rfl (op_load rfl rfl rfl hobj1 rfl ⟨(by simp [InL, Acc.name, rowName] <;> omega), ?_⟩)
        | refine WpL.cons rfl rfl (op_load rfl rfl rfl hobj1 rfl ⟨(by simp [InL, Acc.name, rowName] <;> omega), ?_⟩)
        | refine WpO.cons rfl rfl (op_len rfl rfl rfl ⟨(by simp [InL, Acc.name, rowName] <;> omega), ?_⟩)
        | refine WpL.cons rfl rfl (op_len rfl rfl rfl ⟨(by simp [InL, Acc.name, rowName] <;> omega), ?_⟩))
      refine WpC.cond rfl (fun hb => by rw [e1] at hb; cases hb) (fun _ => ?_)
      repeat' (first
        | refine WpC.seq ?_
        | refine WpC.region ?_
        | refine WpC.drawn ?_
        | refine WpC.skip ?_
        | refine WpC.block ?_
        | refine WpC.exit ?_
        | refine WpC.ret ?_
        | refine WpO.nil ?_
        | refine WpO.cons rfl rfl (WpX.pure (fun _ => rfl) ⟨nolog, ?_⟩)
        | refine WpO.skip rfl rfl ?_
        | refine WpL.cons rfl rfl (WpX.pure (fun _ => rfl) ⟨nolog, ?_⟩)
        | refine WpL.skip rfl rfl ?_
        | refine seqQ_normal ?_
        | refine seqQ_ret ?_
        | refine seqQ_exit ?_
        | refine blkQ_normal ?_
        | refine blkQ_ret ?_
        | refine blkQ_out rfl ?_
        | refine blkQ_by rfl ?_)
      exact ⟨set3 rfl rfl rfl, Nat.le_refl _, rfl, vP, vS, _, s1.rows, r1, fun a ha => .inl ha, hlt, by omega, .inl ⟨x, hx, hdead x hx, rfl⟩⟩
    · have hie : i = s1.rows.length := by omega
      have e1 : (((i : Nat) : Int) == ((s1.rows.length : Nat) : Int)) = true := by simp [hie]
      have hlenC : ∃ a b, vC = .slice a s1.rows.length b := ⟨_, _, hvC⟩
      have hlenv : ∀ {W : V → HH → Nat → List Acc → Prop}, True := fun {_} => trivial
      rw [hvC] at hobj1
      repeat' (first
        | refine WpC.seq ?_
        | refine WpC.region ?_
        | refine WpC.drawn ?_
        | refine WpC.skip ?_
        | refine WpC.block ?_
        | refine WpC.exit ?_
        | refine WpC.ret ?_
        | refine WpO.nil ?_
        | refine WpO.cons rfl rfl (WpX.pure (fun _ => rfl) ⟨nolog, ?_⟩)
        | refine WpO.skip rfl rfl ?_
        | refine WpL.cons rfl rfl (WpX.pure (fun _ => rfl) ⟨nolog, ?_⟩)
        | refine WpL.skip rfl rfl ?_
        | refine seqQ_normal ?_
        | refine seqQ_ret ?_
        | refine seqQ_exit ?_
        | refine blkQ_normal ?_
        | refine blkQ_ret ?_
        | refine blkQ_out rfl ?_
        | refine blkQ_by rfl ?_
        | refine WpO.cons rfl rfl (op_load rfl rfl rfl hobj1 rfl ⟨(by simp [InL, Acc.name, rowName] <;> omega), ?_⟩)
        | refine WpL.cons rfl rfl (op_load rfl rfl rfl hobj1 rfl ⟨(by simp [InL, Acc.name, rowName] <;> omega), ?_⟩)
        | refine WpO.cons rfl rfl (op_len rfl rfl rfl ⟨(by simp [InL, Acc.name, rowName] <;> omega), ?_⟩)
        | refine WpL.cons rfl rfl (op_len rfl rfl rfl ⟨(by simp [InL, Acc.name, rowName] <;> omega), ?_⟩))
      rw [← hvC] at hobj1
      refine WpC.cond rfl (fun _ => ?_) (fun hb => by rw [e1] at hb; cases hb)
      repeat' (first
        | refine WpC.seq ?_
        | refine WpC.region ?_
        | refine WpC.drawn ?_
        | refine WpC.skip ?_
        | refine WpC.block ?_
        | refine WpC.exit ?_
        | refine WpC.ret ?_
        | refine WpO.nil ?_
        | refine WpO.cons rfl rfl (WpX.pure (fun _ => rfl) ⟨nolog, ?_⟩)
        | refine WpO.skip rfl rfl ?_
        | refine WpL.cons rfl rfl (WpX.pure (fun _ => rfl) ⟨nolog, ?_⟩)
        | refine WpL.skip rfl rfl ?_
        | refine seqQ_normal ?_
        | refine seqQ_ret ?_
        | refine seqQ_exit ?_
        | refine blkQ_normal ?_
        | refine blkQ_ret ?_
        | refine blkQ_out rfl ?_
        | refine blkQ_by rfl ?_
        | refine WpO.cons rfl rfl (op_load rfl rfl rfl hobj1 rfl ⟨(by simp [InL, Acc.name, rowName] <;> omega), ?_⟩)
        | refine WpL.cons rfl rfl (op_load rfl rfl rfl hobj1 rfl ⟨(by simp [InL, Acc.name, rowName] <;> omega), ?_⟩)
        | refine WpO.cons rfl rfl (op_buildSlice (k := 1) rfl rfl rfl rfl (by decide) rfl ⟨(by simp [InL, Acc.name, rowName] <;> omega), ?_⟩)
        | refine WpL.cons rfl rfl (op_buildSlice (k := 1) rfl rfl rfl rfl (by decide) rfl ⟨(by simp [InL, Acc.name, rowName] <;> omega), ?_⟩))
      have P0 : ∀ x : AObj, ListOf (0 + 1) intV (MapI.set h1 c1 x) (c1 + 1) vP (s1.rows.map fun r => r.1) := fun x => r1.pl.keep (by omega) fun a ha _ => MapI.get_ne _ _ _ _ (by omega)
      refine WpL.cons rfl rfl (append_sub (ys := [0]) rfl rfl elI rfl int_len int_all (P0 _) (.inr ⟨c1, 0, .known 1, true, true, _, rfl, by omega, MapI.get_same _ _ _, rfl⟩) (by simp; omega) (fun a ha => .inr (by simp [rowName] at ha; simp [acc_rd]; omega)) (fun a ha => by
        have := inm a (by simp [ha])
        exact ⟨this, this⟩) (.inr (by simp [acc_wr]; omega)) fun v3 h3 c3 al3 hl3 hn3 hc3 hf3 hal3 => ?_)
      have f3 : ∀ a, a < c1 → a ∉ rowName vP → MapI.get h3 a = MapI.get h1 a := fun a ha hx => by rw [hf3 a (by omega) hx, MapI.get_ne _ _ _ _ (by omega)]
      have hobj3 : MapI.get h3 q = _ := (f3 q hlq1 (fun hm => hqP q hm rfl)).trans hobj1
      repeat' (first
        | refine WpC.seq ?_
        | refine WpC.region ?_
        | refine WpC.drawn ?_
        | refine WpC.skip ?_
        | refine WpC.block ?_
        | refine WpC.exit ?_
        | refine WpC.ret ?_
        | refine WpO.nil ?_
        | refine WpO.cons rfl rfl (WpX.pure (fun _ => rfl) ⟨nolog, ?_⟩)
        | refine WpO.skip rfl rfl ?_
        | refine WpL.cons rfl rfl (WpX.pure (fun _ => rfl) ⟨nolog, ?_⟩)
        | refine WpL.skip rfl rfl ?_
        | refine seqQ_normal ?_
        | refine seqQ_ret ?_
        | refine seqQ_exit ?_
        | refine blkQ_normal ?_
        | refine blkQ_ret ?_
        | refine blkQ_out rfl ?_
        | refine blkQ_by rfl ?_
        | refine WpO.cons rfl rfl (op_load rfl rfl rfl hobj3 rfl ⟨(by simp [InL, Acc.name, rowName] <;> omega), ?_⟩)
        | refine WpL.cons rfl rfl (op_load rfl rfl rfl hobj3 rfl ⟨(by simp [InL, Acc.name, rowName] <;> omega), ?_⟩)
        | refine WpO.cons rfl rfl (op_buildSlice (k := 1) rfl rfl rfl rfl (by decide) rfl ⟨(by simp [InL, Acc.name, rowName] <;> omega), ?_⟩)
        | refine WpL.cons rfl rfl (op_buildSlice (k := 1) rfl rfl rfl rfl (by decide) rfl ⟨(by simp [InL, Acc.name, rowName] <;> omega), ?_⟩))
      have S0 : ∀ x : AObj, ListOf (0 + 1) intV (MapI.set h3 c3 x) (c3 + 1) vS (s1.rows.map fun r => r.2.1) := fun x => (r1.sz.keep (by omega) fun a ha hm => f3 a ha (fun hx => r1.ps a hx (by simp [hm])) : ListOf 1 intV h3 c3 vS _).keep (by omega) fun a ha _ => MapI.get_ne _ _ _ _ (by omega)
      refine WpL.cons rfl rfl (append_sub (ys := [0]) rfl rfl elI rfl int_len int_all (S0 _) (.inr ⟨c3, 0, .known 1, true, true, _, rfl, by omega, MapI.get_same _ _ _, rfl⟩) (by simp; omega) (fun a ha => .inr (by simp [rowName] at ha; simp [acc_rd]; omega)) (fun a ha => by
        have := inm a (by simp [ha])
        exact ⟨this, this⟩) (.inr (by simp [acc_wr]; omega)) fun v4 h4' c4' al4 hl4 hn4 hc4' hf4 hal4 => ?_)
      have f4 : ∀ a, a < c1 → a ∉ rowName vP → a ∉ rowName vS → MapI.get h4' a = MapI.get h1 a := fun a ha hx hy => by rw [hf4 a (by omega) hy, MapI.get_ne _ _ _ _ (by omega)]; exact f3 a ha hx
      have hobj4 : MapI.get h4' q = _ := (f4 q hlq1 (fun hm => hqP q hm rfl) (fun hm => hqS q hm rfl)).trans hobj1
      repeat' (first
        | refine WpC.seq ?_
        | refine WpC.region ?_
        | refine WpC.drawn ?_
        | refine WpC.skip ?_
        | refine WpC.block ?_
        | refine WpC.exit ?_
        | refine WpC.ret ?_
        | refine WpO.nil ?_
        | refine WpO.cons rfl rfl (WpX.pure (fun _ => rfl) ⟨nolog, ?_⟩)
        | refine WpO.skip rfl rfl ?_
        | refine WpL.cons rfl rfl (WpX.pure (fun _ => rfl) ⟨nolog, ?_⟩)
        | refine WpL.skip rfl rfl ?_
        | refine seqQ_normal ?_
        | refine seqQ_ret ?_
        | refine seqQ_exit ?_
        | refine blkQ_normal ?_
        | refine blkQ_ret ?_
        | refine blkQ_out rfl ?_
        | refine blkQ_by rfl ?_
        | refine WpO.cons rfl rfl (op_load rfl rfl rfl hobj4 rfl ⟨(by simp [InL, Acc.name, rowName] <;> omega), ?_⟩)
        | refine WpL.cons rfl rfl (op_load rfl rfl rfl hobj4 rfl ⟨(by simp [InL, Acc.name, rowName] <;> omega), ?_⟩)
        | refine WpO.cons rfl rfl (op_buildSlice (k := 1) rfl rfl rfl rfl (by decide) rfl ⟨(by simp [InL, Acc.name, rowName] <;> omega), ?_⟩)
        | refine WpL.cons rfl rfl (op_buildSlice (k := 1) rfl rfl rfl rfl (by decide) rfl ⟨(by simp [InL, Acc.name, rowName] <;> omega), ?_⟩))
      have C0 : ∀ x : AObj, ListOf (0 + 1) intV (MapI.set h4' c4' x) (c4' + 1) vC (s1.rows.map fun r => r.2.2) := fun x => (r1.ct.keep (by omega) fun a ha hm => f4 a ha (fun hx => r1.ps a hx (by simp [hm])) (fun hx => r1.sc a hx hm) : ListOf 1 intV h4' c4' vC _).keep (by omega) fun a ha _ => MapI.get_ne _ _ _ _ (by omega)
      refine WpL.cons rfl rfl (append_sub (ys := [0]) rfl rfl elI rfl int_len int_all (C0 _) (.inr ⟨c4', 0, .known 1, true, true, _, rfl, by omega, MapI.get_same _ _ _, rfl⟩) (by simp; omega) (fun a ha => .inr (by simp [rowName] at ha; simp [acc_rd]; omega)) (fun a ha => by
        have := inm a (by simp [ha])
        exact ⟨this, this⟩) (.inr (by simp [acc_wr]; omega)) fun v5 h5 c5 al5 hl5 hn5 hc5 hf5 hal5 => ?_)
      have f5 : ∀ a, a < c1 → a ∉ rowName vP → a ∉ rowName vS → a ∉ rowName vC → MapI.get h5 a = MapI.get h1 a := fun a ha hx hy hz => by rw [hf5 a (by omega) hz, MapI.get_ne _ _ _ _ (by omega)]; exact f4 a ha hx hy
      have hobj5 : MapI.get h5 q = some (.cells true true [vB1, I s1.most, vP, vS, vC]) := (f5 q hlq1 (fun hm => hqP q hm rfl) (fun hm => hqS q hm rfl) (fun hm => hqC q hm rfl)).trans hobj1
      have o3 := hl3.one
      have o4 := hl4.one
      have o5 := hl5.one
      have hobj6 : MapI.get (MapI.set h5 q (.cells true true (setAll [vB1, I s1.most, vP, vS, vC] 2 (cellsV v3)))) q = some (.cells true true [vB1, I s1.most, v3, vS, vC]) := by rw [MapI.get_same, o3.1]; rfl
      have hobj7 : MapI.get (MapI.set (MapI.set h5 q (.cells true true (setAll [vB1, I s1.most, vP, vS, vC] 2 (cellsV v3)))) q (.cells true true (setAll [vB1, I s1.most, v3, vS, vC] 3 (cellsV v4)))) q = some (.cells true true [vB1, I s1.most, v3, v4, vC]) := by rw [MapI.get_same, o4.1]; rfl
      have qa3 : ∀ x ∈ al3, x.name ≠ q := fun x hx e => by
        rcases hal3 x hx with ⟨h, _⟩ | h | ⟨h, _⟩
        · simp [rowName] at h; omega
        · exact hqP _ h e
        · omega
      have qa3' : ∀ x ∈ al3, q ≠ x.name := fun x hx e => qa3 x hx e.symm
      have ua3 : ∀ x ∈ al3, x.name < c3 := fun x hx => by
        rcases hal3 x hx with ⟨h, _⟩ | h | ⟨h, _⟩
        · simp [rowName] at h; omega
        · have := hPc _ h; omega
        · omega
      have qa4 : ∀ x ∈ al4, x.name ≠ q := fun x hx e => by
        rcases hal4 x hx with ⟨h, _⟩ | h | ⟨h, _⟩
        · simp [rowName] at h; omega
        · exact hqS _ h e
        · omega
      have qa4' : ∀ x ∈ al4, q ≠ x.name := fun x hx e => qa4 x hx e.symm
      have ua4 : ∀ x ∈ al4, x.name < c4' := fun x hx => by
        rcases hal4 x hx with ⟨h, _⟩ | h | ⟨h, _⟩
        · simp [rowName] at h; omega
        · have := hSc _ h; omega
        · omega
      have na1 : ∀ x ∈ al3, x.name ≠ c3 := fun x hx e => by have := ua3 x hx; omega
      have na1' : ∀ x ∈ al3, c3 ≠ x.name := fun x hx e => na1 x hx e.symm
      have na2 : ∀ x ∈ al3, x.name ≠ c4' := fun x hx e => by have := ua3 x hx; omega
      have na2' : ∀ x ∈ al3, c4' ≠ x.name := fun x hx e => na2 x hx e.symm
      have na3 : ∀ x ∈ al4, x.name ≠ c4' := fun x hx e => by have := ua4 x hx; omega
      have na3' : ∀ x ∈ al4, c4' ≠ x.name := fun x hx e => na3 x hx e.symm
      have g1 : c1 ≠ q := by omega
      have g2 : c3 ≠ q := by omega
      have g3 : c1 ≠ c3 := by omega
      have g4 : c1 ≠ c4' := by omega
      have g5 : c3 ≠ c4' := by omega
      have g6 : c4' ≠ q := by omega
      have hqin : InL (m :: rn q (.slice sb st.bs.length cb) vP vS vC) c4 (.wr q) := .inl (by simp [acc_wr])
      repeat' (first
        | refine WpC.seq ?_
        | refine WpC.region ?_
        | refine WpC.drawn ?_
        | refine WpC.skip ?_
        | refine WpC.block ?_
        | refine WpC.exit ?_
        | refine WpC.ret ?_
        | refine WpO.nil ?_
        | refine WpO.cons rfl rfl (WpX.pure (fun _ => rfl) ⟨nolog, ?_⟩)
        | refine WpO.skip rfl rfl ?_
        | refine WpL.cons rfl rfl (WpX.pure (fun _ => rfl) ⟨nolog, ?_⟩)
        | refine WpL.skip rfl rfl ?_
        | refine seqQ_normal ?_
        | refine seqQ_ret ?_
        | refine seqQ_exit ?_
        | refine blkQ_normal ?_
        | refine blkQ_ret ?_
        | refine blkQ_out rfl ?_
        | refine blkQ_by rfl ?_
        | refine WpO.cons rfl rfl (op_store (k := 1) rfl rfl rfl (by rw [o3.1]; rfl) hobj5 (Nat.le_of_ble_eq_true rfl) (by rw [o3.1]; simp [o3.2]) ⟨(by simp [InL, Acc.name, rowName] <;> omega), ?_⟩)
        | refine WpL.cons rfl rfl (op_store (k := 1) rfl rfl rfl (by rw [o3.1]; rfl) hobj5 (Nat.le_of_ble_eq_true rfl) (by rw [o3.1]; simp [o3.2]) ⟨(by simp [InL, Acc.name, rowName] <;> omega), ?_⟩)
        | refine WpO.cons rfl rfl (op_store (k := 1) rfl rfl rfl (by rw [o4.1]; rfl) hobj6 (Nat.le_of_ble_eq_true rfl) (by rw [o4.1]; simp [o4.2]) ⟨(by simp [InL, Acc.name, rowName] <;> omega), ?_⟩)
        | refine WpL.cons rfl rfl (op_store (k := 1) rfl rfl rfl (by rw [o4.1]; rfl) hobj6 (Nat.le_of_ble_eq_true rfl) (by rw [o4.1]; simp [o4.2]) ⟨(by simp [InL, Acc.name, rowName] <;> omega), ?_⟩)
        | refine WpO.cons rfl rfl (op_store (k := 1) rfl rfl rfl (by rw [o5.1]; rfl) hobj7 (Nat.le_of_ble_eq_true rfl) (by rw [o5.1]; simp [o5.2]) ⟨(by simp [InL, Acc.name, rowName] <;> omega), ?_⟩)
        | refine WpL.cons rfl rfl (op_store (k := 1) rfl rfl rfl (by rw [o5.1]; rfl) hobj7 (Nat.le_of_ble_eq_true rfl) (by rw [o5.1]; simp [o5.2]) ⟨(by simp [InL, Acc.name, rowName] <;> omega), ?_⟩))
      refine WpL.nil (logsOk_of (cs := [0, 0, 0, 0, 8, 24, 56, 0, 248, 0, 512, 1536, 3584, 0, 16376, 0, 32768, 98304, 229376, 0, 1048568, 2097145, 4194297, 8388601, 16777211, 33554427, 67108859, 134217727, 268435455, 536870911]) (by decide +kernel) ?_) ?_
      · simp +contextual [allP, apP, Dis, acc_rd, acc_wr, accw_rd, accw_wr, Nat.testBit, qa3, qa3', qa4, qa4', na1, na1', na2, na2', na3, na3', g1, g2, g3, g4, g5, g6, Ne.symm g6, Ne.symm g1, Ne.symm g2, Ne.symm g3, Ne.symm g4, Ne.symm g5]
      have nv3 : ∀ a ∈ rowName v3, (a ∈ rowName vP ∨ c1 ≤ a) ∧ a < c3 ∧ a ≠ q ∧ a ≠ c3 := fun a ha => by
        rcases hn3 a ha with h | ⟨h, h'⟩
        · have := hPc a h; exact ⟨.inl h, by omega, hqP a h, by omega⟩
        · exact ⟨.inr (by omega), by omega, by omega, by omega⟩
      have nv4 : ∀ a ∈ rowName v4, (a ∈ rowName vS ∨ c3 < a) ∧ a < c4' ∧ a ≠ q := fun a ha => by
        rcases hn4 a ha with h | ⟨h, h'⟩
        · have := hSc a h; exact ⟨.inl h, by omega, hqS a h⟩
        · exact ⟨.inr (by omega), by omega, by omega⟩
      have nv5 : ∀ a ∈ rowName v5, (a ∈ rowName vC ∨ c4' < a) ∧ a ≠ q := fun a ha => by
        rcases hn5 a ha with h | ⟨h, h'⟩
        · exact ⟨.inl h, hqC a h⟩
        · exact ⟨.inr (by omega), by omega⟩
      have d34 : ∀ a ∈ rowName v3, a ∉ rowName v4 := fun a ha hb => by
        obtain ⟨x1, x2, _⟩ := nv3 a ha
        obtain ⟨y1, y2, _⟩ := nv4 a hb
        rcases y1 with y1 | y1
        · rcases x1 with x1 | x1
          · exact r1.ps a x1 (by simp [y1])
          · have := hSc a y1; omega
        · omega
      have d35 : ∀ a ∈ rowName v3, a ∉ rowName v5 := fun a ha hb => by
        obtain ⟨x1, x2, _⟩ := nv3 a ha
        obtain ⟨y1, _⟩ := nv5 a hb
        rcases y1 with y1 | y1
        · rcases x1 with x1 | x1
          · exact r1.ps a x1 (by simp [y1])
          · have := hCc a y1; omega
        · omega
      have d45 : ∀ a ∈ rowName v4, a ∉ rowName v5 := fun a ha hb => by
        obtain ⟨x1, x2, _⟩ := nv4 a ha
        obtain ⟨y1, _⟩ := nv5 a hb
        rcases y1 with y1 | y1
        · rcases x1 with x1 | x1
          · exact r1.sc a x1 y1
          · have := hCc a y1; omega
        · omega
      have dB : ∀ a ∈ rowName vB1, a ∉ rowName v3 ++ (rowName v4 ++ rowName v5) := fun a ha hm => by
        have hb := hBc a ha
        have hno := r1.bp a ha
        simp only [List.mem_append] at hm hno
        rcases hm with h | h | h
        · rcases (nv3 a h).1 with h | h
          · exact hno (.inl h)
          · omega
        · rcases (nv4 a h).1 with h | h
          · exact hno (.inr (.inl h))
          · omega
        · rcases (nv5 a h).1 with h | h
          · exact hno (.inr (.inr h))
          · omega
      repeat' (first
        | refine WpC.seq ?_
        | refine WpC.region ?_
        | refine WpC.drawn ?_
        | refine WpC.skip ?_
        | refine WpC.block ?_
        | refine WpC.exit ?_
        | refine WpC.ret ?_
        | refine WpO.nil ?_
        | refine WpO.cons rfl rfl (WpX.pure (fun _ => rfl) ⟨nolog, ?_⟩)
        | refine WpO.skip rfl rfl ?_
        | refine WpL.cons rfl rfl (WpX.pure (fun _ => rfl) ⟨nolog, ?_⟩)
        | refine WpL.skip rfl rfl ?_
        | refine seqQ_normal ?_
        | refine seqQ_ret ?_
        | refine seqQ_exit ?_
        | refine blkQ_normal ?_
        | refine blkQ_ret ?_
        | refine blkQ_out rfl ?_
        | refine blkQ_by rfl ?_)
      have hmPSC : m ∉ rowName vP ∧ m ∉ rowName vS ∧ m ∉ rowName vC ∧ m ≠ q := ⟨fun hm => hmn1 (by simp [hm]), fun hm => hmn1 (by simp [hm]), fun hm => hmn1 (by simp [hm]), fun hm => hmn1 (by simp [hm])⟩
      refine ⟨set3 rfl rfl rfl, by omega, ?_, v3, v4, v5, s1.rows ++ [((0 : Int), (0 : Int), (0 : Int))], ⟨?_, ?_, ?_, ?_, ?_, by show q < c5; omega, ?_, dB, ?_, d45⟩, ?_, by simp; omega, by simp, .inr ⟨hie, by subst hie; simp⟩⟩
      · rw [MapI.get_ne _ _ _ _ (Ne.symm hmPSC.2.2.2), MapI.get_ne _ _ _ _ (Ne.symm hmPSC.2.2.2), MapI.get_ne _ _ _ _ (Ne.symm hmPSC.2.2.2)]
        exact f5 m hmc1 hmPSC.1 hmPSC.2.1 hmPSC.2.2.1
      · rw [MapI.get_same, o5.1]; rfl
      · refine r1.b.keep (by omega) fun a ha hm => ?_
        have hno := r1.bp a hm
        have haq := r1.nq a (by simp [hm])
        simp only [List.mem_append, not_or] at hno
        rw [MapI.get_ne _ _ _ _ (Ne.symm haq), MapI.get_ne _ _ _ _ (Ne.symm haq), MapI.get_ne _ _ _ _ (Ne.symm haq)]
        exact f5 a ha hno.1 hno.2.1 hno.2.2
      · rw [List.map_append]
        refine (hl3 : ListOf 1 intV h3 c3 v3 _).keep (by omega) fun a ha hm => ?_
        obtain ⟨x1, x2, haq, _⟩ := nv3 a hm
        rw [MapI.get_ne _ _ _ _ (Ne.symm haq), MapI.get_ne _ _ _ _ (Ne.symm haq), MapI.get_ne _ _ _ _ (Ne.symm haq)]
        have y4 : a ∉ rowName vS := fun hs => by
          rcases x1 with x1 | x1
          · exact r1.ps a x1 (by simp [hs])
          · have := hSc a hs; omega
        have y5 : a ∉ rowName vC := fun hs => by
          rcases x1 with x1 | x1
          · exact r1.ps a x1 (by simp [hs])
          · have := hCc a hs; omega
        rw [hf5 a (by omega) y5, MapI.get_ne _ _ _ _ (by omega), hf4 a (by omega) y4, MapI.get_ne _ _ _ _ (by omega)]
      · rw [List.map_append]
        refine (hl4 : ListOf 1 intV h4' c4' v4 _).keep (by omega) fun a ha hm => ?_
        obtain ⟨x1, x2, haq⟩ := nv4 a hm
        rw [MapI.get_ne _ _ _ _ (Ne.symm haq), MapI.get_ne _ _ _ _ (Ne.symm haq), MapI.get_ne _ _ _ _ (Ne.symm haq)]
        have y5 : a ∉ rowName vC := fun hs => by
          rcases x1 with x1 | x1
          · exact r1.sc a x1 hs
          · have := hCc a hs; omega
        rw [hf5 a (by omega) y5, MapI.get_ne _ _ _ _ (by omega)]
      · rw [List.map_append]
        refine (hl5 : ListOf 1 intV h5 c5 v5 _).keep (Nat.le_refl _) fun a ha hm => ?_
        have haq := (nv5 a hm).2
        rw [MapI.get_ne _ _ _ _ (Ne.symm haq), MapI.get_ne _ _ _ _ (Ne.symm haq), MapI.get_ne _ _ _ _ (Ne.symm haq)]
      · intro a ha
        simp only [List.mem_append] at ha
        rcases ha with h | h | h | h
        · exact r1.nq a (by simp [h])
        · exact (nv3 a h).2.2.1
        · exact (nv4 a h).2.2
        · exact (nv5 a h).2
      · intro a ha hm
        rcases List.mem_append.1 hm with h | h
        · exact d34 a ha h
        · exact d35 a ha h
      · intro a ha
        simp only [List.mem_append] at ha ⊢
        rcases ha with h | h | h
        · rcases (nv3 a h).1 with h | h
          · exact .inl (.inl h)
          · exact .inr h
        · rcases (nv4 a h).1 with h | h
          · exact .inl (.inr (.inl h))
          · exact .inr (by omega)
        · rcases (nv5 a h).1 with h | h
          · exact .inl (.inr (.inr h))
          · exact .inr (by omega)
  rintro e5 h5 c5 ⟨⟨b5, rfl⟩, hc5, hx5, vP2, vS2, vC2, rows2, r5, hn5, hi5, hl5, hrows5⟩
  rw [hx1] at hx5
  have hlq5 := r5.lq
  obtain ⟨sb1, cb1, hvB1', _⟩ := r1.b.shape
  obtain ⟨sP, cP, hvP, hsP⟩ := r5.pl.shapeN (n := rows2.length) (List.length_map _)
  obtain ⟨sS, cS, hvS, hsS⟩ := r5.sz.shapeN (n := rows2.length) (List.length_map _)
  obtain ⟨sC2, cC2, hvC2, hsC2⟩ := r5.ct.shapeN (n := rows2.length) (List.length_map _)
  obtain ⟨rfl, pn, clp, jp, rfl, hpn, hgp, hjp⟩ := hsP i hi5
  obtain ⟨rfl, zn, clz, jz, rfl, hzn, hgz, hjz⟩ := hsS i hi5
  obtain ⟨rfl, cn, clc, jc, rfl, hcn, hgc, hjc⟩ := hsC2 i hi5
  subst hvP hvS hvC2
  simp only at hgp hgz hgc
  obtain ⟨x, hx2⟩ : ∃ x, rows2[i]? = some x := ⟨_, List.getElem?_eq_getElem hi5⟩
  have npz : pn ≠ zn := fun e => r5.ps pn (by simp [rowName]) (by rw [e]; simp [rowName])
  have npc : pn ≠ cn := fun e => r5.ps pn (by simp [rowName]) (by rw [e]; simp [rowName])
  have nzc : zn ≠ cn := fun e => r5.sc zn (by simp [rowName]) (by rw [e]; simp [rowName])
  have nqp : pn ≠ q := r5.nq pn (by simp [rowName])
  have nqz : zn ≠ q := r5.nq zn (by simp [rowName])
  have nqc : cn ≠ q := r5.nq cn (by simp [rowName])
  have hoff : 0 + ((i : Nat) : Int).toNat * 1 = i := by simp
  have r6 := r5.setAt (cl := clp) (junk := jp) (z := (s1.bs.length : Int)) rfl hpn hjp hx2 rfl hoff
  have hx3 : (rows2.set i ((s1.bs.length : Int), x.2.1, x.2.2))[i]? = some ((s1.bs.length : Int), x.2.1, x.2.2) := by simp [hi5]
  have r7 := r6.setSize (cl := clz) (junk := jz) (z := (n : Int)) (by simp) hzn hjz hx3 (map_sz hx2).symm hoff
  have hx4 : ((rows2.set i ((s1.bs.length : Int), x.2.1, x.2.2)).set i ((s1.bs.length : Int), (n : Int), x.2.2))[i]? = some ((s1.bs.length : Int), (n : Int), x.2.2) := by simp [hi5]
  have r8 := r7.setCnt (cl := clc) (junk := jc) (xs := rows2.map fun r => r.2.2) (z := (1 : Int)) (by simp) hcn hjc hx4 (by
    show _ = ((rows2.set i ((s1.bs.length : Int), x.2.1, x.2.2)).set i ((s1.bs.length : Int), (n : Int), x.2.2)).map fun r => r.2.2
    rw [map_ct hx3, map_ct hx2]) hoff
  simp only [List.set_set] at r8
  have hobj5 := r5.obj
  simp only at hobj5
  have hL : ∀ a ∈ rowName (.slice (some (pn, 0)) rows2.length (.upTo 1)) ++ (rowName (.slice (some (zn, 0)) rows2.length (.upTo 1)) ++ rowName (.slice (some (cn, 0)) rows2.length (.upTo 1))), a ∈ m :: rn q (.slice sb st.bs.length cb) vP vS vC ∨ c4 ≤ a := fun a ha => by
    rcases hn5 a ha with h | h
    · exact .inl (by simp only [List.mem_append, List.mem_cons] at h ⊢; rcases h with h | h | h <;> simp [h])
    · exact .inr (by omega)
  have hLp := hL pn (by simp [rowName])
  have hLz := hL zn (by simp [rowName])
  have hLc := hL cn (by simp [rowName])
  have two : ∀ {a : Nat}, (a ∈ m :: rn q (.slice sb st.bs.length cb) vP vS vC ∨ c4 ≤ a) → ∀ x ∈ [Acc.rd a, Acc.wr a], InL (m :: rn q (.slice sb st.bs.length cb) vP vS vC) c4 x := fun {a} ha x hx => by
    simp at hx; rcases hx with rfl | rfl <;> exact ha
  have hfp : 0 + ((i : Nat) : Int).toNat * 1 + 1 ≤ (flat intV (rows2.map fun r => r.1) ++ jp).length := by
    rw [List.length_append, flat_length (k := 1) int_len, List.length_map]; omega
  have hfz : 0 + ((i : Nat) : Int).toNat * 1 + 1 ≤ (flat intV (rows2.map fun r => r.2.1) ++ jz).length := by
    rw [List.length_append, flat_length (k := 1) int_len, List.length_map]; omega
  have hfc : 0 + ((i : Nat) : Int).toNat * 1 + 1 ≤ (flat intV (rows2.map fun r => r.2.2) ++ jc).length := by
    rw [List.length_append, flat_length (k := 1) int_len, List.length_map]; omega
  have hgz6 : MapI.get (MapI.set h5 pn (.cells true clp (setAll (flat intV (rows2.map fun r => r.1) ++ jp) (0 + ((i : Nat) : Int).toNat * 1) [I s1.bs.length]))) zn = _ := (MapI.get_ne _ _ _ _ npz).trans hgz
  have hgc7 : MapI.get (MapI.set (MapI.set h5 pn (.cells true clp (setAll (flat intV (rows2.map fun r => r.1) ++ jp) (0 + ((i : Nat) : Int).toNat * 1) [I s1.bs.length]))) zn (.cells true clz (setAll (flat intV (rows2.map fun r => r.2.1) ++ jz) (0 + ((i : Nat) : Int).toNat * 1) [I n]))) cn = _ := (MapI.get_ne _ _ _ _ nzc).trans ((MapI.get_ne _ _ _ _ npc).trans hgc)
  subst hvB1'
  repeat' (first
    | refine WpC.seq ?_
    | refine WpC.region ?_
    | refine WpC.drawn ?_
    | refine WpC.skip ?_
    | refine WpC.block ?_
    | refine WpC.exit ?_
    | refine WpC.ret ?_
    | refine WpO.nil ?_
    | refine WpO.cons rfl rfl (WpX.pure (fun _ => rfl) ⟨nolog, ?_⟩)
    | refine WpO.skip rfl rfl ?_
    | refine WpL.cons rfl rfl (WpX.pure (fun _ => rfl) ⟨nolog, ?_⟩)
    | refine WpL.skip rfl rfl ?_
    | refine seqQ_normal ?_
    | refine seqQ_ret ?_
    | refine seqQ_exit ?_
    | refine blkQ_normal ?_
    | refine blkQ_ret ?_
    | refine blkQ_out rfl ?_
    | refine blkQ_by rfl ?_
    | refine WpO.cons rfl rfl (op_len rfl rfl rfl ⟨(by simp [InL, Acc.name, rowName] <;> omega), ?_⟩)
    | refine WpL.cons rfl rfl (op_len rfl rfl rfl ⟨(by simp [InL, Acc.name, rowName] <;> omega), ?_⟩)
    | refine WpO.cons rfl rfl (op_load rfl rfl rfl hobj5 rfl ⟨(by simp [InL, Acc.name, rowName] <;> omega), ?_⟩)
    | refine WpL.cons rfl rfl (op_load rfl rfl rfl hobj5 rfl ⟨(by simp [InL, Acc.name, rowName] <;> omega), ?_⟩)
    | refine WpO.cons rfl rfl (op_indexAddr (k := 1) rfl rfl rfl rfl ⟨by omega, by omega⟩ ⟨(by simp [InL, Acc.name, rowName] <;> omega), ?_⟩)
    | refine WpL.cons rfl rfl (op_indexAddr (k := 1) rfl rfl rfl rfl ⟨by omega, by omega⟩ ⟨(by simp [InL, Acc.name, rowName] <;> omega), ?_⟩)
    | refine WpL.cons rfl rfl (op_store (k := 1) rfl rfl rfl rfl hgp hfp rfl ⟨two hLp, ?_⟩)
    | refine WpL.cons rfl rfl (op_store (k := 1) rfl rfl rfl rfl hgz6 hfz rfl ⟨two hLz, ?_⟩)
    | refine WpL.cons rfl rfl (op_store (k := 1) rfl rfl rfl rfl hgc7 hfc rfl ⟨two hLc, ?_⟩))
  refine WpL.nil (logsOk_of (cs := [0, 1, 3, 7, 0, 0, 32, 96, 224, 0, 0, 1024, 3072, 7168, 0, 0, 32768, 98304, 229376, 491520, 0, 1048576, 1031679, 5225983, 16760831, 33538047, 67108863, 134217727]) (by decide +kernel) ?_) ?_
  · simp +contextual [allP, apP, Dis, acc_rd, acc_wr, accw_rd, accw_wr, Nat.testBit, npz, npc, nzc, Ne.symm npz, Ne.symm npc, Ne.symm nzc]
  have hobj8 := r8.obj
  simp only at hobj8
  have hmp : pn ≠ m := fun e => by
    rcases hn5 pn (by simp [rowName]) with h | h
    · exact hmn1 (by rw [← e]; simp only [List.mem_append, List.mem_cons] at h ⊢; rcases h with h | h | h <;> simp [h])
    · omega
  have hmz : zn ≠ m := fun e => by
    rcases hn5 zn (by simp [rowName]) with h | h
    · exact hmn1 (by rw [← e]; simp only [List.mem_append, List.mem_cons] at h ⊢; rcases h with h | h | h <;> simp [h])
    · omega
  have hmcn : cn ≠ m := fun e => by
    rcases hn5 cn (by simp [rowName]) with h | h
    · exact hmn1 (by rw [← e]; simp only [List.mem_append, List.mem_cons] at h ⊢; rcases h with h | h | h <;> simp [h])
    · omega
  have hmq : q ≠ m := fun e => hmn1 (by simp [e])
  have hx8 := (MapI.get_ne (S := HH) _ _ _ (.cells true clc (setAll (flat intV (rows2.map fun r => r.2.2) ++ jc) (0 + ((i : Nat) : Int).toNat * 1) [I 1])) hmcn).trans ((MapI.get_ne (S := HH) _ _ _ (.cells true clz (setAll (flat intV (rows2.map fun r => r.2.1) ++ jz) (0 + ((i : Nat) : Int).toNat * 1) [I n])) hmz).trans ((MapI.get_ne (S := HH) _ _ _ (.cells true clp (setAll (flat intV (rows2.map fun r => r.1) ++ jp) (0 + ((i : Nat) : Int).toNat * 1) [I s1.bs.length])) hmp).trans hx5))
  repeat' (first
    | refine WpC.seq ?_
    | refine WpC.region ?_
    | refine WpC.drawn ?_
    | refine WpC.skip ?_
    | refine WpC.block ?_
    | refine WpC.exit ?_
    | refine WpC.ret ?_
    | refine WpO.nil ?_
    | refine WpO.cons rfl rfl (WpX.pure (fun _ => rfl) ⟨nolog, ?_⟩)
    | refine WpO.skip rfl rfl ?_
    | refine WpL.cons rfl rfl (WpX.pure (fun _ => rfl) ⟨nolog, ?_⟩)
    | refine WpL.skip rfl rfl ?_
    | refine seqQ_normal ?_
    | refine seqQ_ret ?_
    | refine seqQ_exit ?_
    | refine blkQ_normal ?_
    | refine blkQ_ret ?_
    | refine blkQ_out rfl ?_
    | refine blkQ_by rfl ?_
    | refine WpO.cons rfl rfl (op_load rfl rfl rfl hobj8 rfl ⟨(by simp [InL, Acc.name, rowName] <;> omega), ?_⟩)
    | refine WpL.cons rfl rfl (op_load rfl rfl rfl hobj8 rfl ⟨(by simp [InL, Acc.name, rowName] <;> omega), ?_⟩))
  refine WpO.cons rfl rfl (append_at (ys := ys) rfl rfl elB rfl byte_len byte_all r8.b hx8 hcut hy (by simp only; omega) (.inl (by simp [acc_rd])) (fun a ha => by
    have := inm a (List.mem_cons_of_mem _ (List.mem_append_left _ ha))
    exact ⟨this, this⟩) (.inr (by simp [acc_wr]; omega)) fun v9 h9 c9 hl9 hn9 hc9 hf9 => ?_)
  have hone := hl9.one
  have hobj9 := (hf9 q (by omega) (fun hm => r8.nq q (by simp [hm]) rfl)).trans hobj8
  have hnq9 : ∀ a ∈ rowName v9, a ≠ q := fun a ha e => by
    rcases hn9 a ha with h | ⟨h, _⟩
    · exact r8.nq a (by simp [h]) e
    · omega
  repeat' (first
    | refine WpC.seq ?_
    | refine WpC.region ?_
    | refine WpC.drawn ?_
    | refine WpC.skip ?_
    | refine WpC.block ?_
    | refine WpC.exit ?_
    | refine WpC.ret ?_
    | refine WpO.nil ?_
    | refine WpO.cons rfl rfl (WpX.pure (fun _ => rfl) ⟨nolog, ?_⟩)
    | refine WpO.skip rfl rfl ?_
    | refine WpL.cons rfl rfl (WpX.pure (fun _ => rfl) ⟨nolog, ?_⟩)
    | refine WpL.skip rfl rfl ?_
    | refine seqQ_normal ?_
    | refine seqQ_ret ?_
    | refine seqQ_exit ?_
    | refine blkQ_normal ?_
    | refine blkQ_ret ?_
    | refine blkQ_out rfl ?_
    | refine blkQ_by rfl ?_
    | refine WpO.cons rfl rfl (op_store (k := 1) rfl rfl rfl (by rw [hone.1]; rfl) hobj9 (Nat.le_of_ble_eq_true rfl) (by rw [hone.1]; simp [hone.2]) ⟨(by simp [InL, Acc.name, rowName] <;> omega), ?_⟩)
    | refine WpL.cons rfl rfl (op_store (k := 1) rfl rfl rfl (by rw [hone.1]; rfl) hobj9 (Nat.le_of_ble_eq_true rfl) (by rw [hone.1]; simp [hone.2]) ⟨(by simp [InL, Acc.name, rowName] <;> omega), ?_⟩))
  have hwi : IntKind.i64.wrap ((i : Int) + 1) = ((i + 1 : Nat) : Int) := by rw [Go.IntWalk.i64_in _ (by omega)]; omega
  have hne9 : ∀ a ∈ rowName (.slice (some (pn, 0)) rows2.length (.upTo 1)) ++ (rowName (.slice (some (zn, 0)) rows2.length (.upTo 1)) ++ rowName (.slice (some (cn, 0)) rows2.length (.upTo 1))), a ∉ rowName v9 := fun a ha hm => by
    rcases hn9 a hm with h | ⟨h, _⟩
    · exact r8.bp a h ha
    · have : a < c5 := r8.names a (by simp only [List.mem_cons, List.mem_append] at ha ⊢; exact .inr (.inr ha))
      omega
  have hkp : ∀ a, a < c5 → a ≠ q → a ∉ rowName (.slice sb1 s1.bs.length cb1) → MapI.get h9 a = _ := fun a ha hq hb => hf9 a (by omega) hb
  refine out_ret rfl ⟨?_, i, v9, .slice (some (pn, 0)) rows2.length (.upTo 1), .slice (some (zn, 0)) rows2.length (.upTo 1), .slice (some (cn, 0)) rows2.length (.upTo 1), rows2.set i (s1.bs.length, n, 1), ?_, ⟨?_, ?_, ?_, ?_, ?_, by show q < c9; omega, ?_, fun a ha hm => hne9 a hm ha, r8.ps, r8.sc⟩, fun a ha => ?_, by rw [← hrl]; exact hi, hbef, by rw [← hrl]; exact hrows5⟩
  · rw [MapI.get_ne _ _ _ _ hmq, hf9 m (by omega) (fun hm => hmn1 (List.mem_cons_of_mem _ (List.mem_append_left _ hm)))]
    exact hx8.trans hx.symm
  · show V.tuple [V.int _ _, _] = _
    rw [hwi]
  · rw [MapI.get_same, hone.1, ← hmost]; rfl
  · exact hl9.keep (Nat.le_refl _) fun a _ ha => MapI.get_ne _ _ _ _ (Ne.symm (hnq9 a ha))
  · refine r8.pl.keep (by omega) fun a ha hm => ?_
    rw [MapI.get_ne _ _ _ _ (Ne.symm (r8.nq a (by simp [hm])))]
    exact hf9 a (by omega) (fun hb => r8.bp a hb (by simp [hm]))
  · refine r8.sz.keep (by omega) fun a ha hm => ?_
    rw [MapI.get_ne _ _ _ _ (Ne.symm (r8.nq a (by simp [hm])))]
    exact hf9 a (by omega) (fun hb => r8.bp a hb (by simp [hm]))
  · refine r8.ct.keep (by omega) fun a ha hm => ?_
    rw [MapI.get_ne _ _ _ _ (Ne.symm (r8.nq a (by simp [hm])))]
    exact hf9 a (by omega) (fun hb => r8.bp a hb (by simp [hm]))
  · intro a ha
    rcases List.mem_append.1 ha with h | h
    · exact hnq9 a h
    · exact r8.nq a (List.mem_append_right _ h)
  · simp only [List.mem_cons, List.mem_append] at ha
    rcases ha with e | ha | ha
    · exact .inl (by simp [e])
    · rcases hn9 a ha with h | ⟨h, _⟩
      · rcases hvB1 a h with h | h
        · exact .inl (by simp [h])
        · exact .inr h
      · exact .inr (by omega)
    · rcases hn5 a (by simp only [List.mem_append]; exact ha) with h | h
      · exact .inl (by simp only [List.mem_append, List.mem_cons] at h ⊢; exact .inr (.inr h))
      · exact .inr (by omega)
end Go.Proofs.Ytempfmkicpifkaa


set_option linter.unusedVariables false
set_option linter.unusedSectionVars false
set_option linter.unusedSimpArgs false
set_option linter.unnecessarySimpa false
namespace Go.Proofs.Ytempfmkicpifkaa
open Go.Ab
set_option maxRecDepth 10000

theorem snew_any {h : HH} {c : Nat} {most : Int} : Does 35 [I most] h c [] fun v h' c' => v = .ptr (some (c, 0)) ∧ c' = c + 1 ∧ StoreAt h' c' c (.slice none 0 (.known 0)) (.slice none 0 (.known 0)) ⟨[], if most < 0 ∨ most > 1048576 then 0 else most, [], 0⟩ := by
  have fin : ∀ {x : Int}, StoreAt (MapI.set h c (.cells true true [.slice none 0 (.known 0), I x, .slice none 0 (.known 0), I 0])) (c + 1) c (.slice none 0 (.known 0)) (.slice none 0 (.known 0)) ⟨[], x, [], 0⟩ := fun {x} =>
    ⟨MapI.get_same _ _ _, .nil, .nil, Nat.lt_succ_self _, fun n hn => (by cases hn), fun n hn => (by cases hn), fun n hn => by cases hn⟩
  refine does_of (enter (fn := Try.f35) Try.func35 rfl rfl (Nat.le_of_ble_eq_true rfl) ?_)
  by_cases h1 : most < 0
  · have e1 : decide (most < 0) = true := by simpa using h1
    repeat' (first
      | refine WpC.seq ?_
      | refine WpC.region ?_
      | refine WpC.drawn ?_
      | refine WpC.skip ?_
      | refine WpC.block ?_
      | refine WpC.exit ?_
      | refine WpC.ret ?_
      | refine WpO.nil ?_
      | refine WpO.cons rfl rfl (WpX.pure (fun _ => rfl) ⟨nolog, ?_⟩)
      | refine WpO.skip rfl rfl ?_
      | refine WpL.cons rfl rfl (WpX.pure (fun _ => rfl) ⟨nolog, ?_⟩)
      | refine WpL.skip rfl rfl ?_
      | refine seqQ_normal ?_
      | refine seqQ_ret ?_
      | refine seqQ_exit ?_
      | refine blkQ_normal ?_
      | refine blkQ_ret ?_
      | refine blkQ_out rfl ?_
      | refine blkQ_by rfl ?_)
    simp only [e1]
    repeat' (first
      | refine WpC.seq ?_
      | refine WpC.region ?_
      | refine WpC.drawn ?_
      | refine WpC.skip ?_
      | refine WpC.block ?_
      | refine WpC.exit ?_
      | refine WpC.ret ?_
      | refine WpO.nil ?_
      | refine WpO.cons rfl rfl (WpX.pure (fun _ => rfl) ⟨nolog, ?_⟩)
      | refine WpO.skip rfl rfl ?_
      | refine WpL.cons rfl rfl (WpX.pure (fun _ => rfl) ⟨nolog, ?_⟩)
      | refine WpL.skip rfl rfl ?_
      | refine seqQ_normal ?_
      | refine seqQ_ret ?_
      | refine seqQ_exit ?_
      | refine blkQ_normal ?_
      | refine blkQ_ret ?_
      | refine blkQ_out rfl ?_
      | refine blkQ_by rfl ?_)
    refine WpC.cond rfl (fun _ => ?_) (fun hb => by cases hb)
    repeat' (first
      | refine WpC.seq ?_
      | refine WpC.region ?_
      | refine WpC.drawn ?_
      | refine WpC.skip ?_
      | refine WpC.block ?_
      | refine WpC.exit ?_
      | refine WpC.ret ?_
      | refine WpO.nil ?_
      | refine WpO.cons rfl rfl (WpX.pure (fun _ => rfl) ⟨nolog, ?_⟩)
      | refine WpO.skip rfl rfl ?_
      | refine WpL.cons rfl rfl (WpX.pure (fun _ => rfl) ⟨nolog, ?_⟩)
      | refine WpL.skip rfl rfl ?_
      | refine seqQ_normal ?_
      | refine seqQ_ret ?_
      | refine seqQ_exit ?_
      | refine blkQ_normal ?_
      | refine blkQ_ret ?_
      | refine blkQ_out rfl ?_
      | refine blkQ_by rfl ?_
      | refine WpO.cons rfl rfl (op_box rfl ⟨(by simp [InL, Acc.name, rowName] <;> omega), ?_⟩)
      | refine WpL.cons rfl rfl (op_box rfl ⟨(by simp [InL, Acc.name, rowName] <;> omega), ?_⟩))
    rw [if_pos (.inl h1)]
    exact out_ret rfl ⟨rfl, rfl, fin⟩
  have e1 : decide (most < 0) = false := by simpa using h1
  by_cases h2 : most > 1048576
  · have e2 : decide (most > 1048576) = true := by simpa using h2
    repeat' (first
      | refine WpC.seq ?_
      | refine WpC.region ?_
      | refine WpC.drawn ?_
      | refine WpC.skip ?_
      | refine WpC.block ?_
      | refine WpC.exit ?_
      | refine WpC.ret ?_
      | refine WpO.nil ?_
      | refine WpO.cons rfl rfl (WpX.pure (fun _ => rfl) ⟨nolog, ?_⟩)
      | refine WpO.skip rfl rfl ?_
      | refine WpL.cons rfl rfl (WpX.pure (fun _ => rfl) ⟨nolog, ?_⟩)
      | refine WpL.skip rfl rfl ?_
      | refine seqQ_normal ?_
      | refine seqQ_ret ?_
      | refine seqQ_exit ?_
      | refine blkQ_normal ?_
      | refine blkQ_ret ?_
      | refine blkQ_out rfl ?_
      | refine blkQ_by rfl ?_)
    simp only [e1]
    repeat' (first
      | refine WpC.seq ?_
      | refine WpC.region ?_
      | refine WpC.drawn ?_
      | refine WpC.skip ?_
      | refine WpC.block ?_
      | refine WpC.exit ?_
      | refine WpC.ret ?_
      | refine WpO.nil ?_
      | refine WpO.cons rfl rfl (WpX.pure (fun _ => rfl) ⟨nolog, ?_⟩)
      | refine WpO.skip rfl rfl ?_
      | refine WpL.cons rfl rfl (WpX.pure (fun _ => rfl) ⟨nolog, ?_⟩)
      | refine WpL.skip rfl rfl ?_
      | refine seqQ_normal ?_
      | refine seqQ_ret ?_
      | refine seqQ_exit ?_
      | refine blkQ_normal ?_
      | refine blkQ_ret ?_
      | refine blkQ_out rfl ?_
      | refine blkQ_by rfl ?_)
    refine WpC.cond rfl (fun _ => ?_) (fun hb => by rw [e2] at hb; cases hb)
    repeat' (first
      | refine WpC.seq ?_
      | refine WpC.region ?_
      | refine WpC.drawn ?_
      | refine WpC.skip ?_
      | refine WpC.block ?_
      | refine WpC.exit ?_
      | refine WpC.ret ?_
      | refine WpO.nil ?_
      | refine WpO.cons rfl rfl (WpX.pure (fun _ => rfl) ⟨nolog, ?_⟩)
      | refine WpO.skip rfl rfl ?_
      | refine WpL.cons rfl rfl (WpX.pure (fun _ => rfl) ⟨nolog, ?_⟩)
      | refine WpL.skip rfl rfl ?_
      | refine seqQ_normal ?_
      | refine seqQ_ret ?_
      | refine seqQ_exit ?_
      | refine blkQ_normal ?_
      | refine blkQ_ret ?_
      | refine blkQ_out rfl ?_
      | refine blkQ_by rfl ?_
      | refine WpO.cons rfl rfl (op_box rfl ⟨(by simp [InL, Acc.name, rowName] <;> omega), ?_⟩)
      | refine WpL.cons rfl rfl (op_box rfl ⟨(by simp [InL, Acc.name, rowName] <;> omega), ?_⟩))
    rw [if_pos (.inr h2)]
    exact out_ret rfl ⟨rfl, rfl, fin⟩
  have e2 : decide (most > 1048576) = false := by simpa using h2
  repeat' (first
    | refine WpC.seq ?_
    | refine WpC.region ?_
    | refine WpC.drawn ?_
    | refine WpC.skip ?_
    | refine WpC.block ?_
    | refine WpC.exit ?_
    | refine WpC.ret ?_
    | refine WpO.nil ?_
    | refine WpO.cons rfl rfl (WpX.pure (fun _ => rfl) ⟨nolog, ?_⟩)
    | refine WpO.skip rfl rfl ?_
    | refine WpL.cons rfl rfl (WpX.pure (fun _ => rfl) ⟨nolog, ?_⟩)
    | refine WpL.skip rfl rfl ?_
    | refine seqQ_normal ?_
    | refine seqQ_ret ?_
    | refine seqQ_exit ?_
    | refine blkQ_normal ?_
    | refine blkQ_ret ?_
    | refine blkQ_out rfl ?_
    | refine blkQ_by rfl ?_)
  simp only [e1]
  repeat' (first
    | refine WpC.seq ?_
    | refine WpC.region ?_
    | refine WpC.drawn ?_
    | refine WpC.skip ?_
    | refine WpC.block ?_
    | refine WpC.exit ?_
    | refine WpC.ret ?_
    | refine WpO.nil ?_
    | refine WpO.cons rfl rfl (WpX.pure (fun _ => rfl) ⟨nolog, ?_⟩)
    | refine WpO.skip rfl rfl ?_
    | refine WpL.cons rfl rfl (WpX.pure (fun _ => rfl) ⟨nolog, ?_⟩)
    | refine WpL.skip rfl rfl ?_
    | refine seqQ_normal ?_
    | refine seqQ_ret ?_
    | refine seqQ_exit ?_
    | refine blkQ_normal ?_
    | refine blkQ_ret ?_
    | refine blkQ_out rfl ?_
    | refine blkQ_by rfl ?_)
  refine WpC.cond rfl (fun hb => by rw [e2] at hb; cases hb) (fun _ => ?_)
  repeat' (first
    | refine WpC.seq ?_
    | refine WpC.region ?_
    | refine WpC.drawn ?_
    | refine WpC.skip ?_
    | refine WpC.block ?_
    | refine WpC.exit ?_
    | refine WpC.ret ?_
    | refine WpO.nil ?_
    | refine WpO.cons rfl rfl (WpX.pure (fun _ => rfl) ⟨nolog, ?_⟩)
    | refine WpO.skip rfl rfl ?_
    | refine WpL.cons rfl rfl (WpX.pure (fun _ => rfl) ⟨nolog, ?_⟩)
    | refine WpL.skip rfl rfl ?_
    | refine seqQ_normal ?_
    | refine seqQ_ret ?_
    | refine seqQ_exit ?_
    | refine blkQ_normal ?_
    | refine blkQ_ret ?_
    | refine blkQ_out rfl ?_
    | refine blkQ_by rfl ?_
    | refine WpO.cons rfl rfl (op_box rfl ⟨(by simp [InL, Acc.name, rowName] <;> omega), ?_⟩)
    | refine WpL.cons rfl rfl (op_box rfl ⟨(by simp [InL, Acc.name, rowName] <;> omega), ?_⟩))
  rw [if_neg (by omega)]
  exact out_ret rfl ⟨rfl, rfl, fin⟩

theorem place_any {h : HH} {c p : Nat} {vb vr : V} {st : St} {hd : Int} (r : StoreAt h c p vb vr st) (hlen : st.rows.length ≤ 1000) :
    Does 69 [.ptr (some (p, 0)), I hd] h c (p :: rowName vr) fun v h' c' => h' = h ∧ c' = c ∧
      ((∃ (i : Nat) (q : R3), hd = i + 1 ∧ st.rows[i]? = some q ∧ q.2.2 ≠ 0 ∧ v = .tuple [I q.1, I q.2.1, .bool true]) ∨ ((∀ (i : Nat) (q : R3), hd = i + 1 → st.rows[i]? = some q → q.2.2 = 0) ∧ v = .tuple [I 0, I 0, .bool false])) := by
  refine does_of (enter (fn := Try.f69) Try.func69 rfl rfl (Nat.le_of_ble_eq_true rfl) ?_)
  repeat' (first
    | refine WpC.seq ?_
    | refine WpC.region ?_
    | refine WpC.drawn ?_
    | refine WpC.skip ?_
    | refine WpC.block ?_
    | refine WpC.exit ?_
    | refine WpC.ret ?_
    | refine WpO.nil ?_
    | refine WpO.cons rfl rfl (WpX.pure (fun _ => rfl) ⟨nolog, ?_⟩)
    | refine WpO.skip rfl rfl ?_
    | refine WpL.cons rfl rfl (WpX.pure (fun _ => rfl) ⟨nolog, ?_⟩)
    | refine WpL.skip rfl rfl ?_
    | refine seqQ_normal ?_
    | refine seqQ_ret ?_
    | refine seqQ_exit ?_
    | refine blkQ_normal ?_
    | refine blkQ_ret ?_
    | refine blkQ_out rfl ?_
    | refine blkQ_by rfl ?_)
  refine WpO.cons rfl rfl (call_at rfl (of_ok r hlen) (fun n hn => .inl hn) (Nat.le_refl _) fun v h4 c4 hc4 hfr4 hq4 => ?_)
  obtain ⟨rfl, rfl, hq4⟩ := hq4
  rcases hq4 with ⟨i, q, sn, cl, junk, rfl, hq, hne, rfl, hsn, hg, hj, rfl⟩ | ⟨hno, rfl⟩
  case inr =>
    repeat' (first
      | refine WpC.seq ?_
      | refine WpC.region ?_
      | refine WpC.drawn ?_
      | refine WpC.skip ?_
      | refine WpC.block ?_
      | refine WpC.exit ?_
      | refine WpC.ret ?_
      | refine WpO.nil ?_
      | refine WpO.cons rfl rfl (WpX.pure (fun _ => rfl) ⟨nolog, ?_⟩)
      | refine WpO.skip rfl rfl ?_
      | refine WpL.cons rfl rfl (WpX.pure (fun _ => rfl) ⟨nolog, ?_⟩)
      | refine WpL.skip rfl rfl ?_
      | refine seqQ_normal ?_
      | refine seqQ_ret ?_
      | refine seqQ_exit ?_
      | refine blkQ_normal ?_
      | refine blkQ_ret ?_
      | refine blkQ_out rfl ?_
      | refine blkQ_by rfl ?_)
    refine WpC.cond rfl (fun _ => ?_) (fun hb => by cases hb)
    repeat' (first
      | refine WpC.seq ?_
      | refine WpC.region ?_
      | refine WpC.drawn ?_
      | refine WpC.skip ?_
      | refine WpC.block ?_
      | refine WpC.exit ?_
      | refine WpC.ret ?_
      | refine WpO.nil ?_
      | refine WpO.cons rfl rfl (WpX.pure (fun _ => rfl) ⟨nolog, ?_⟩)
      | refine WpO.skip rfl rfl ?_
      | refine WpL.cons rfl rfl (WpX.pure (fun _ => rfl) ⟨nolog, ?_⟩)
      | refine WpL.skip rfl rfl ?_
      | refine seqQ_normal ?_
      | refine seqQ_ret ?_
      | refine seqQ_exit ?_
      | refine blkQ_normal ?_
      | refine blkQ_ret ?_
      | refine blkQ_out rfl ?_
      | refine blkQ_by rfl ?_)
    exact out_ret rfl ⟨rfl, rfl, .inr ⟨hno, rfl⟩⟩
  have hz0 : nth (flat tri st.rows ++ junk) (i * 3 + 0) = some (I q.1) := (nth_flat tri_len hq (by omega) junk).trans rfl
  have hz1 : nth (flat tri st.rows ++ junk) (i * 3 + 1) = some (I q.2.1) := (nth_flat tri_len hq (by omega) junk).trans rfl
  repeat' (first
    | refine WpC.seq ?_
    | refine WpC.region ?_
    | refine WpC.drawn ?_
    | refine WpC.skip ?_
    | refine WpC.block ?_
    | refine WpC.exit ?_
    | refine WpC.ret ?_
    | refine WpO.nil ?_
    | refine WpO.cons rfl rfl (WpX.pure (fun _ => rfl) ⟨nolog, ?_⟩)
    | refine WpO.skip rfl rfl ?_
    | refine WpL.cons rfl rfl (WpX.pure (fun _ => rfl) ⟨nolog, ?_⟩)
    | refine WpL.skip rfl rfl ?_
    | refine seqQ_normal ?_
    | refine seqQ_ret ?_
    | refine seqQ_exit ?_
    | refine blkQ_normal ?_
    | refine blkQ_ret ?_
    | refine blkQ_out rfl ?_
    | refine blkQ_by rfl ?_)
  refine WpC.cond rfl (fun hb => by cases hb) (fun _ => ?_)
  repeat' (first
    | refine WpC.seq ?_
    | refine WpC.region ?_
    | refine WpC.drawn ?_
    | refine WpC.skip ?_
    | refine WpC.block ?_
    | refine WpC.exit ?_
    | refine WpC.ret ?_
    | refine WpO.nil ?_
    | refine WpO.cons rfl rfl (WpX.pure (fun _ => rfl) ⟨nolog, ?_⟩)
    | refine WpO.skip rfl rfl ?_
    | refine WpL.cons rfl rfl (WpX.pure (fun _ => rfl) ⟨nolog, ?_⟩)
    | refine WpL.skip rfl rfl ?_
    | refine seqQ_normal ?_
    | refine seqQ_ret ?_
    | refine seqQ_exit ?_
    | refine blkQ_normal ?_
    | refine blkQ_ret ?_
    | refine blkQ_out rfl ?_
    | refine blkQ_by rfl ?_
    | refine WpO.cons rfl rfl (op_load rfl rfl rfl hg hz0 ⟨(by simp [InL, Acc.name, rowName] <;> omega), ?_⟩)
    | refine WpL.cons rfl rfl (op_load rfl rfl rfl hg hz0 ⟨(by simp [InL, Acc.name, rowName] <;> omega), ?_⟩)
    | refine WpO.cons rfl rfl (op_load rfl rfl rfl hg hz1 ⟨(by simp [InL, Acc.name, rowName] <;> omega), ?_⟩)
    | refine WpL.cons rfl rfl (op_load rfl rfl rfl hg hz1 ⟨(by simp [InL, Acc.name, rowName] <;> omega), ?_⟩))
  refine WpL.nil (logsOk_of (cs := [0, 1, 3, 7, 0, 16, 48, 112, 15, 511, 1023]) (by decide +kernel) ?_) ?_
  · simp +contextual [allP, apP, Dis, acc_rd, acc_wr, accw_rd, accw_wr, Nat.testBit]
  repeat' (first
    | refine WpC.seq ?_
    | refine WpC.region ?_
    | refine WpC.drawn ?_
    | refine WpC.skip ?_
    | refine WpC.block ?_
    | refine WpC.exit ?_
    | refine WpC.ret ?_
    | refine WpO.nil ?_
    | refine WpO.cons rfl rfl (WpX.pure (fun _ => rfl) ⟨nolog, ?_⟩)
    | refine WpO.skip rfl rfl ?_
    | refine WpL.cons rfl rfl (WpX.pure (fun _ => rfl) ⟨nolog, ?_⟩)
    | refine WpL.skip rfl rfl ?_
    | refine seqQ_normal ?_
    | refine seqQ_ret ?_
    | refine seqQ_exit ?_
    | refine blkQ_normal ?_
    | refine blkQ_ret ?_
    | refine blkQ_out rfl ?_
    | refine blkQ_by rfl ?_)
  exact out_ret rfl ⟨rfl, rfl, .inl ⟨i, q, rfl, hq, hne, rfl⟩⟩

theorem look_no {h : HH} {c p : Nat} {vb vr : V} {st : St} {hd a n : Int} (r : StoreAt h c p vb vr st) (hlen : st.rows.length ≤ 1000) (hno : ∀ (i : Nat) (q : R3), hd = i + 1 → st.rows[i]? = some q → q.2.2 = 0) :
    Does 67 [.ptr (some (p, 0)), I hd, I a, I n] h c (p :: rowName vr) fun v h' c' => v = .tuple [.slice none 0 (.known 0), .bool false] ∧ h' = h ∧ c' = c := by
  refine does_of (enter (fn := Try.f67) Try.func67 rfl rfl (Nat.le_of_ble_eq_true rfl) ?_)
  repeat' (first
    | refine WpC.seq ?_
    | refine WpC.region ?_
    | refine WpC.drawn ?_
    | refine WpC.skip ?_
    | refine WpC.block ?_
    | refine WpC.exit ?_
    | refine WpC.ret ?_
    | refine WpO.nil ?_
    | refine WpO.cons rfl rfl (WpX.pure (fun _ => rfl) ⟨nolog, ?_⟩)
    | refine WpO.skip rfl rfl ?_
    | refine WpL.cons rfl rfl (WpX.pure (fun _ => rfl) ⟨nolog, ?_⟩)
    | refine WpL.skip rfl rfl ?_
    | refine seqQ_normal ?_
    | refine seqQ_ret ?_
    | refine seqQ_exit ?_
    | refine blkQ_normal ?_
    | refine blkQ_ret ?_
    | refine blkQ_out rfl ?_
    | refine blkQ_by rfl ?_)
  refine WpO.cons rfl rfl (call_at rfl (of_ok r hlen) (fun n hn => .inl hn) (Nat.le_refl _) fun v h4 c4 hc4 hfr4 hq4 => ?_)
  obtain ⟨rfl, rfl, hq4⟩ := hq4
  rcases hq4 with ⟨i, q, sn, cl, junk, rfl, hq, hne, _⟩ | ⟨_, rfl⟩
  case inl => exact absurd (hno i q rfl hq) hne
  repeat' (first
    | refine WpC.seq ?_
    | refine WpC.region ?_
    | refine WpC.drawn ?_
    | refine WpC.skip ?_
    | refine WpC.block ?_
    | refine WpC.exit ?_
    | refine WpC.ret ?_
    | refine WpO.nil ?_
    | refine WpO.cons rfl rfl (WpX.pure (fun _ => rfl) ⟨nolog, ?_⟩)
    | refine WpO.skip rfl rfl ?_
    | refine WpL.cons rfl rfl (WpX.pure (fun _ => rfl) ⟨nolog, ?_⟩)
    | refine WpL.skip rfl rfl ?_
    | refine seqQ_normal ?_
    | refine seqQ_ret ?_
    | refine seqQ_exit ?_
    | refine blkQ_normal ?_
    | refine blkQ_ret ?_
    | refine blkQ_out rfl ?_
    | refine blkQ_by rfl ?_)
  refine WpC.cond rfl (fun _ => ?_) (fun hb => by cases hb)
  repeat' (first
    | refine WpC.seq ?_
    | refine WpC.region ?_
    | refine WpC.drawn ?_
    | refine WpC.skip ?_
    | refine WpC.block ?_
    | refine WpC.exit ?_
    | refine WpC.ret ?_
    | refine WpO.nil ?_
    | refine WpO.cons rfl rfl (WpX.pure (fun _ => rfl) ⟨nolog, ?_⟩)
    | refine WpO.skip rfl rfl ?_
    | refine WpL.cons rfl rfl (WpX.pure (fun _ => rfl) ⟨nolog, ?_⟩)
    | refine WpL.skip rfl rfl ?_
    | refine seqQ_normal ?_
    | refine seqQ_ret ?_
    | refine seqQ_exit ?_
    | refine blkQ_normal ?_
    | refine blkQ_ret ?_
    | refine blkQ_out rfl ?_
    | refine blkQ_by rfl ?_)
  exact out_ret rfl ⟨rfl, rfl, rfl⟩

/-- Check, of a sound store. -/
theorem check_ok {h : HH} {c p : Nat} {vb vr : V} {st : St} (r : StoreAt h c p vb vr st) (g : Good st) (hlen : st.rows.length ≤ 1000) :
    Does 70 [.ptr (some (p, 0))] h c (p :: rowName vr) fun v h' c' => v = .bool true ∧ ∀ n, n < c → MapI.get h' n = MapI.get h n := by
  have hobj := r.obj
  have hlp := r.lp
  have hl := g.lies
  have hgm := g.most
  have hgf := g.fit
  have o := order_ord hl
  obtain ⟨sn, hsn⟩ : ∃ sn, ∀ n ∈ rowName vr, n = sn := by
    rcases r.rows with ⟨rfl, _⟩ | ⟨s, _, _, rfl, _⟩
    · exact ⟨0, fun n hn => by cases hn⟩
    · exact ⟨s, fun n hn => by simpa [rowName] using hn⟩
  have hol : (order st.rows).length ≤ st.rows.length := by
    have := lvs_le st.rows 0
    unfold order
    rw [List.length_map, sort_len]; exact this
  obtain ⟨sb, capb, hvb, _⟩ := r.bytes.shape
  refine does_of (enter (fn := Try.f70) Try.func70 rfl rfl (Nat.le_of_ble_eq_true rfl) ?_)
  subst hvb
  repeat' (first
    | refine WpC.seq ?_
    | refine WpC.region ?_
    | refine WpC.drawn ?_
    | refine WpC.skip ?_
    | refine WpC.block ?_
    | refine WpC.exit ?_
    | refine WpC.ret ?_
    | refine WpO.nil ?_
    | refine WpO.cons rfl rfl (WpX.pure (fun _ => rfl) ⟨nolog, ?_⟩)
    | refine WpO.skip rfl rfl ?_
    | refine WpL.cons rfl rfl (WpX.pure (fun _ => rfl) ⟨nolog, ?_⟩)
    | refine WpL.skip rfl rfl ?_
    | refine seqQ_normal ?_
    | refine seqQ_ret ?_
    | refine seqQ_exit ?_
    | refine blkQ_normal ?_
    | refine blkQ_ret ?_
    | refine blkQ_out rfl ?_
    | refine blkQ_by rfl ?_)
  refine WpC.cond rfl (fun hb => by cases hb) (fun _ => ?_)
  repeat' (first
    | refine WpC.seq ?_
    | refine WpC.region ?_
    | refine WpC.drawn ?_
    | refine WpC.skip ?_
    | refine WpC.block ?_
    | refine WpC.exit ?_
    | refine WpC.ret ?_
    | refine WpO.nil ?_
    | refine WpO.cons rfl rfl (WpX.pure (fun _ => rfl) ⟨nolog, ?_⟩)
    | refine WpO.skip rfl rfl ?_
    | refine WpL.cons rfl rfl (WpX.pure (fun _ => rfl) ⟨nolog, ?_⟩)
    | refine WpL.skip rfl rfl ?_
    | refine seqQ_normal ?_
    | refine seqQ_ret ?_
    | refine seqQ_exit ?_
    | refine blkQ_normal ?_
    | refine blkQ_ret ?_
    | refine blkQ_out rfl ?_
    | refine blkQ_by rfl ?_)
  refine WpO.cons rfl rfl (call_at rfl (lying_ok r hlen (lies_parted hl) hsn) (fun x hx => .inl hx) (Nat.le_refl _) fun v h4 c4 hc4 hfr4 hq => ?_)
  obtain ⟨hlv, hv, hk⟩ := hq
  have r4 := r.keep hc4 hk
  have hobj4 := r4.obj
  obtain ⟨sl, capl, hvl, _⟩ := hlv.shape
  subst hvl
  repeat' (first
    | refine WpC.seq ?_
    | refine WpC.region ?_
    | refine WpC.drawn ?_
    | refine WpC.skip ?_
    | refine WpC.block ?_
    | refine WpC.exit ?_
    | refine WpC.ret ?_
    | refine WpO.nil ?_
    | refine WpO.cons rfl rfl (WpX.pure (fun _ => rfl) ⟨nolog, ?_⟩)
    | refine WpO.skip rfl rfl ?_
    | refine WpL.cons rfl rfl (WpX.pure (fun _ => rfl) ⟨nolog, ?_⟩)
    | refine WpL.skip rfl rfl ?_
    | refine seqQ_normal ?_
    | refine seqQ_ret ?_
    | refine seqQ_exit ?_
    | refine blkQ_normal ?_
    | refine blkQ_ret ?_
    | refine blkQ_out rfl ?_
    | refine blkQ_by rfl ?_
    | refine WpO.cons rfl rfl (op_len rfl rfl rfl ⟨(by simp [InL, Acc.name, rowName] <;> omega), ?_⟩)
    | refine WpL.cons rfl rfl (op_len rfl rfl rfl ⟨(by simp [InL, Acc.name, rowName] <;> omega), ?_⟩))
  refine WpC.loop ?_
  refine WpLoop.ind (X := Nat × Int) (fun x e h' c' => (∃ b0, e = MapI.set (MapI.set (MapI.set (MapI.set (MapI.set (MapI.set b0 0 (.ptr (some (p, 0)))) 3 (I x.2)) 4 (I (slid st.rows ((order st.rows).take x.1)).2)) 10 (.slice sl (order st.rows).length capl)) 11 (I (order st.rows).length)) 12 (I x.1)) ∧ x.1 ≤ (order st.rows).length ∧
      0 ≤ x.2 ∧ x.2 ≤ st.bs.length ∧ (∀ (j y : Nat) (q : R3), x.1 ≤ j → (order st.rows)[j]? = some y → st.rows[y]? = some q → x.2 ≤ q.1) ∧ h' = h4 ∧ c' = c4)
    (fun x => (order st.rows).length - x.1) ?_ (0, 0) _ _ _ ⟨set6 rfl rfl rfl rfl rfl rfl, Nat.zero_le _, Int.le_refl _, by simp only; omega, fun j y q _ h1 h2 => by
      obtain ⟨q', h3, h4⟩ := o.row h1
      rw [h2] at h3; cases h3
      exact (hl.in_ y q h2 h4).1, rfl, rfl⟩
  rintro ⟨k, b⟩ e h' c' ⟨⟨b0, rfl⟩, hk0, hb0, hb1, hb2, rfl, rfl⟩
  simp only at hk0 hb0 hb1 hb2
  repeat' (first
    | refine WpC.seq ?_
    | refine WpC.region ?_
    | refine WpC.drawn ?_
    | refine WpC.skip ?_
    | refine WpC.block ?_
    | refine WpC.exit ?_
    | refine WpC.ret ?_
    | refine WpO.nil ?_
    | refine WpO.cons rfl rfl (WpX.pure (fun _ => rfl) ⟨nolog, ?_⟩)
    | refine WpO.skip rfl rfl ?_
    | refine WpL.cons rfl rfl (WpX.pure (fun _ => rfl) ⟨nolog, ?_⟩)
    | refine WpL.skip rfl rfl ?_
    | refine seqQ_normal ?_
    | refine seqQ_ret ?_
    | refine seqQ_exit ?_
    | refine blkQ_normal ?_
    | refine blkQ_ret ?_
    | refine blkQ_out rfl ?_
    | refine blkQ_by rfl ?_)
  refine WpC.cond rfl (fun hlt => ?_) (fun hge => ?_)
  case refine_2 =>
    have hge : (order st.rows).length ≤ k := by simpa using hge
    rw [List.take_of_length_le hge, order_tot hl, ← g.tot]
    have e1 : decide (b ≤ (st.bs.length : Int)) = true := by simpa using hb1
    have e3 : decide ((st.bs.length : Int) ≤ st.most) = true := by simpa using hgf
    repeat' (first
      | refine WpC.seq ?_
      | refine WpC.region ?_
      | refine WpC.drawn ?_
      | refine WpC.skip ?_
      | refine WpC.block ?_
      | refine WpC.exit ?_
      | refine WpC.ret ?_
      | refine WpO.nil ?_
      | refine WpO.cons rfl rfl (WpX.pure (fun _ => rfl) ⟨nolog, ?_⟩)
      | refine WpO.skip rfl rfl ?_
      | refine WpL.cons rfl rfl (WpX.pure (fun _ => rfl) ⟨nolog, ?_⟩)
      | refine WpL.skip rfl rfl ?_
      | refine seqQ_normal ?_
      | refine seqQ_ret ?_
      | refine seqQ_exit ?_
      | refine blkQ_normal ?_
      | refine blkQ_ret ?_
      | refine blkQ_out rfl ?_
      | refine blkQ_by rfl ?_
      | refine WpO.cons rfl rfl (op_load rfl rfl rfl hobj4 rfl ⟨(by simp [InL, Acc.name, rowName] <;> omega), ?_⟩)
      | refine WpL.cons rfl rfl (op_load rfl rfl rfl hobj4 rfl ⟨(by simp [InL, Acc.name, rowName] <;> omega), ?_⟩)
      | refine WpO.cons rfl rfl (op_len rfl rfl rfl ⟨(by simp [InL, Acc.name, rowName] <;> omega), ?_⟩)
      | refine WpL.cons rfl rfl (op_len rfl rfl rfl ⟨(by simp [InL, Acc.name, rowName] <;> omega), ?_⟩))
    simp only [e1]
    repeat' (first
      | refine WpC.seq ?_
      | refine WpC.region ?_
      | refine WpC.drawn ?_
      | refine WpC.skip ?_
      | refine WpC.block ?_
      | refine WpC.exit ?_
      | refine WpC.ret ?_
      | refine WpO.nil ?_
      | refine WpO.cons rfl rfl (WpX.pure (fun _ => rfl) ⟨nolog, ?_⟩)
      | refine WpO.skip rfl rfl ?_
      | refine WpL.cons rfl rfl (WpX.pure (fun _ => rfl) ⟨nolog, ?_⟩)
      | refine WpL.skip rfl rfl ?_
      | refine seqQ_normal ?_
      | refine seqQ_ret ?_
      | refine seqQ_exit ?_
      | refine blkQ_normal ?_
      | refine blkQ_ret ?_
      | refine blkQ_out rfl ?_
      | refine blkQ_by rfl ?_
      | refine WpO.cons rfl rfl (op_load rfl rfl rfl hobj4 rfl ⟨(by simp [InL, Acc.name, rowName] <;> omega), ?_⟩)
      | refine WpL.cons rfl rfl (op_load rfl rfl rfl hobj4 rfl ⟨(by simp [InL, Acc.name, rowName] <;> omega), ?_⟩)
      | refine WpO.cons rfl rfl (op_len rfl rfl rfl ⟨(by simp [InL, Acc.name, rowName] <;> omega), ?_⟩)
      | refine WpL.cons rfl rfl (op_len rfl rfl rfl ⟨(by simp [InL, Acc.name, rowName] <;> omega), ?_⟩))
    simp only [beq_self_eq_true]
    repeat' (first
      | refine WpC.seq ?_
      | refine WpC.region ?_
      | refine WpC.drawn ?_
      | refine WpC.skip ?_
      | refine WpC.block ?_
      | refine WpC.exit ?_
      | refine WpC.ret ?_
      | refine WpO.nil ?_
      | refine WpO.cons rfl rfl (WpX.pure (fun _ => rfl) ⟨nolog, ?_⟩)
      | refine WpO.skip rfl rfl ?_
      | refine WpL.cons rfl rfl (WpX.pure (fun _ => rfl) ⟨nolog, ?_⟩)
      | refine WpL.skip rfl rfl ?_
      | refine seqQ_normal ?_
      | refine seqQ_ret ?_
      | refine seqQ_exit ?_
      | refine blkQ_normal ?_
      | refine blkQ_ret ?_
      | refine blkQ_out rfl ?_
      | refine blkQ_by rfl ?_
      | refine WpO.cons rfl rfl (op_load rfl rfl rfl hobj4 rfl ⟨(by simp [InL, Acc.name, rowName] <;> omega), ?_⟩)
      | refine WpL.cons rfl rfl (op_load rfl rfl rfl hobj4 rfl ⟨(by simp [InL, Acc.name, rowName] <;> omega), ?_⟩)
      | refine WpO.cons rfl rfl (op_len rfl rfl rfl ⟨(by simp [InL, Acc.name, rowName] <;> omega), ?_⟩)
      | refine WpL.cons rfl rfl (op_len rfl rfl rfl ⟨(by simp [InL, Acc.name, rowName] <;> omega), ?_⟩))
    refine WpL.nil (logsOk_of (cs := [0, 0, 2, 6, 14, 30, 63, 127, 255, 255, 767, 1791, 3839, 8191, 16383, 32767, 65535, 131071, 262143, 524287, 1048575, 65535, 2162687, 6356991, 14745599, 33554431, 67108863, 134217727]) (by decide +kernel) ?_) ?_
    · simp +contextual [allP, apP, Dis, acc_rd, acc_wr, accw_rd, accw_wr, Nat.testBit]
    repeat' (first
      | refine WpC.seq ?_
      | refine WpC.region ?_
      | refine WpC.drawn ?_
      | refine WpC.skip ?_
      | refine WpC.block ?_
      | refine WpC.exit ?_
      | refine WpC.ret ?_
      | refine WpO.nil ?_
      | refine WpO.cons rfl rfl (WpX.pure (fun _ => rfl) ⟨nolog, ?_⟩)
      | refine WpO.skip rfl rfl ?_
      | refine WpL.cons rfl rfl (WpX.pure (fun _ => rfl) ⟨nolog, ?_⟩)
      | refine WpL.skip rfl rfl ?_
      | refine seqQ_normal ?_
      | refine seqQ_ret ?_
      | refine seqQ_exit ?_
      | refine blkQ_normal ?_
      | refine blkQ_ret ?_
      | refine blkQ_out rfl ?_
      | refine blkQ_by rfl ?_)
    exact out_ret rfl ⟨by show V.bool (decide ((st.bs.length : Int) ≤ st.most)) = _; rw [e3], hk⟩
  have hlt : k < (order st.rows).length := by simpa using hlt
  obtain ⟨i, hi⟩ : ∃ i, (order st.rows)[k]? = some i := ⟨_, List.getElem?_eq_getElem hlt⟩
  obtain ⟨⟨a, n, cnt⟩, hq, hq0⟩ := o.row hi
  have hin := hl.in_ i _ hq hq0
  simp only at hin hq0
  have hba := hb2 k i _ (Nat.le_refl _) hi hq
  simp only at hba
  have hnn := o.nonneg hl k
  have hft := o.fits hl (k + 1)
  have hnx := o.next hl hi hq
  rw [hnx] at hft
  simp only at hft
  have hil := (List.getElem?_eq_some_iff.1 hq).1
  rcases r4.rows with ⟨_, hnil⟩ | ⟨sn', cl, junk, hvr, hsn', hg, hjk⟩
  · have hnil : st.rows = [] := hnil
    rw [hnil] at hil; simp at hil
  subst hvr
  have hsnn : sn' = sn := hsn sn' (by simp [rowName])
  subst hsnn
  rcases hlv with ⟨_, hnil⟩ | ⟨ls, cll, jkl, hvl, hls, hgl, hjl⟩
  · rw [hnil] at hlt; simp at hlt
  injection hvl with e1 e2 e3
  subst e1
  subst e3
  have hcls : c ≤ ls := hv ls (by simp [rowName])
  have hn0 : nth (flat (ptrV sn') (order st.rows) ++ jkl) (0 + ((k : Nat) : Int).toNat * 1) = some (.ptr (some (sn', i * 3))) := by
    have := (nth_flat (ptr_len sn') hi (Nat.lt_succ_self 0) jkl).trans (show nth (ptrV sn' i) 0 = some (.ptr (some (sn', i * 3))) from rfl)
    simpa using this
  have hz0 : nth (flat tri st.rows ++ junk) (i * 3 + 0) = some (I a) := (nth_flat tri_len hq (by omega) junk).trans rfl
  have hz1 : nth (flat tri st.rows ++ junk) (i * 3 + 1) = some (I n) := (nth_flat tri_len hq (by omega) junk).trans rfl
  have hz2 : nth (flat tri st.rows ++ junk) (i * 3 + 2) = some (I cnt) := (nth_flat tri_len hq (by omega) junk).trans rfl
  have f1 : decide (a < b) = false := by simpa using hba
  have f2 : decide (n < 1) = false := by simp; omega
  have f3 : decide (cnt < 1) = false := by simp; omega
  have hw1 : IntKind.i64.wrap (a + n) = a + n := Go.IntWalk.i64_in _ (by omega)
  have hw2 : IntKind.i64.wrap ((slid st.rows ((order st.rows).take k)).2 + n) = (slid st.rows ((order st.rows).take (k + 1))).2 := by rw [hnx, Go.IntWalk.i64_in _ (by omega)]
  have hwk : IntKind.i64.wrap ((k : Int) + 1) = ((k + 1 : Nat) : Int) := by rw [Go.IntWalk.i64_in _ (by omega)]; omega
  repeat' (first
    | refine WpC.seq ?_
    | refine WpC.region ?_
    | refine WpC.drawn ?_
    | refine WpC.skip ?_
    | refine WpC.block ?_
    | refine WpC.exit ?_
    | refine WpC.ret ?_
    | refine WpO.nil ?_
    | refine WpO.cons rfl rfl (WpX.pure (fun _ => rfl) ⟨nolog, ?_⟩)
    | refine WpO.skip rfl rfl ?_
    | refine WpL.cons rfl rfl (WpX.pure (fun _ => rfl) ⟨nolog, ?_⟩)
    | refine WpL.skip rfl rfl ?_
    | refine seqQ_normal ?_
    | refine seqQ_ret ?_
    | refine seqQ_exit ?_
    | refine blkQ_normal ?_
    | refine blkQ_ret ?_
    | refine blkQ_out rfl ?_
    | refine blkQ_by rfl ?_
    | refine WpO.cons rfl rfl (op_indexAddr (k := 1) rfl rfl rfl rfl ⟨by omega, by omega⟩ ⟨(by simp [InL, Acc.name, rowName] <;> omega), ?_⟩)
    | refine WpL.cons rfl rfl (op_indexAddr (k := 1) rfl rfl rfl rfl ⟨by omega, by omega⟩ ⟨(by simp [InL, Acc.name, rowName] <;> omega), ?_⟩)
    | refine WpO.cons rfl rfl (op_load rfl rfl rfl hgl hn0 ⟨(by simp [InL, Acc.name, rowName] <;> omega), ?_⟩)
    | refine WpL.cons rfl rfl (op_load rfl rfl rfl hgl hn0 ⟨(by simp [InL, Acc.name, rowName] <;> omega), ?_⟩)
    | refine WpO.cons rfl rfl (op_load rfl rfl rfl hg hz0 ⟨(by simp [InL, Acc.name, rowName] <;> omega), ?_⟩)
    | refine WpL.cons rfl rfl (op_load rfl rfl rfl hg hz0 ⟨(by simp [InL, Acc.name, rowName] <;> omega), ?_⟩)
    | refine WpO.cons rfl rfl (op_load rfl rfl rfl hg hz1 ⟨(by simp [InL, Acc.name, rowName] <;> omega), ?_⟩)
    | refine WpL.cons rfl rfl (op_load rfl rfl rfl hg hz1 ⟨(by simp [InL, Acc.name, rowName] <;> omega), ?_⟩)
    | refine WpO.cons rfl rfl (op_load rfl rfl rfl hg hz2 ⟨(by simp [InL, Acc.name, rowName] <;> omega), ?_⟩)
    | refine WpL.cons rfl rfl (op_load rfl rfl rfl hg hz2 ⟨(by simp [InL, Acc.name, rowName] <;> omega), ?_⟩))
  simp only [f1]
  repeat' (first
    | refine WpC.seq ?_
    | refine WpC.region ?_
    | refine WpC.drawn ?_
    | refine WpC.skip ?_
    | refine WpC.block ?_
    | refine WpC.exit ?_
    | refine WpC.ret ?_
    | refine WpO.nil ?_
    | refine WpO.cons rfl rfl (WpX.pure (fun _ => rfl) ⟨nolog, ?_⟩)
    | refine WpO.skip rfl rfl ?_
    | refine WpL.cons rfl rfl (WpX.pure (fun _ => rfl) ⟨nolog, ?_⟩)
    | refine WpL.skip rfl rfl ?_
    | refine seqQ_normal ?_
    | refine seqQ_ret ?_
    | refine seqQ_exit ?_
    | refine blkQ_normal ?_
    | refine blkQ_ret ?_
    | refine blkQ_out rfl ?_
    | refine blkQ_by rfl ?_
    | refine WpO.cons rfl rfl (op_load rfl rfl rfl hg hz0 ⟨(by simp [InL, Acc.name, rowName] <;> omega), ?_⟩)
    | refine WpL.cons rfl rfl (op_load rfl rfl rfl hg hz0 ⟨(by simp [InL, Acc.name, rowName] <;> omega), ?_⟩)
    | refine WpO.cons rfl rfl (op_load rfl rfl rfl hg hz1 ⟨(by simp [InL, Acc.name, rowName] <;> omega), ?_⟩)
    | refine WpL.cons rfl rfl (op_load rfl rfl rfl hg hz1 ⟨(by simp [InL, Acc.name, rowName] <;> omega), ?_⟩)
    | refine WpO.cons rfl rfl (op_load rfl rfl rfl hg hz2 ⟨(by simp [InL, Acc.name, rowName] <;> omega), ?_⟩)
    | refine WpL.cons rfl rfl (op_load rfl rfl rfl hg hz2 ⟨(by simp [InL, Acc.name, rowName] <;> omega), ?_⟩))
  simp only [f2]
  repeat' (first
    | refine WpC.seq ?_
    | refine WpC.region ?_
    | refine WpC.drawn ?_
    | refine WpC.skip ?_
    | refine WpC.block ?_
    | refine WpC.exit ?_
    | refine WpC.ret ?_
    | refine WpO.nil ?_
    | refine WpO.cons rfl rfl (WpX.pure (fun _ => rfl) ⟨nolog, ?_⟩)
    | refine WpO.skip rfl rfl ?_
    | refine WpL.cons rfl rfl (WpX.pure (fun _ => rfl) ⟨nolog, ?_⟩)
    | refine WpL.skip rfl rfl ?_
    | refine seqQ_normal ?_
    | refine seqQ_ret ?_
    | refine seqQ_exit ?_
    | refine blkQ_normal ?_
    | refine blkQ_ret ?_
    | refine blkQ_out rfl ?_
    | refine blkQ_by rfl ?_
    | refine WpO.cons rfl rfl (op_load rfl rfl rfl hg hz0 ⟨(by simp [InL, Acc.name, rowName] <;> omega), ?_⟩)
    | refine WpL.cons rfl rfl (op_load rfl rfl rfl hg hz0 ⟨(by simp [InL, Acc.name, rowName] <;> omega), ?_⟩)
    | refine WpO.cons rfl rfl (op_load rfl rfl rfl hg hz1 ⟨(by simp [InL, Acc.name, rowName] <;> omega), ?_⟩)
    | refine WpL.cons rfl rfl (op_load rfl rfl rfl hg hz1 ⟨(by simp [InL, Acc.name, rowName] <;> omega), ?_⟩)
    | refine WpO.cons rfl rfl (op_load rfl rfl rfl hg hz2 ⟨(by simp [InL, Acc.name, rowName] <;> omega), ?_⟩)
    | refine WpL.cons rfl rfl (op_load rfl rfl rfl hg hz2 ⟨(by simp [InL, Acc.name, rowName] <;> omega), ?_⟩))
  refine WpC.cond rfl (fun hb => by rw [f3] at hb; cases hb) (fun _ => ?_)
  repeat' (first
    | refine WpC.seq ?_
    | refine WpC.region ?_
    | refine WpC.drawn ?_
    | refine WpC.skip ?_
    | refine WpC.block ?_
    | refine WpC.exit ?_
    | refine WpC.ret ?_
    | refine WpO.nil ?_
    | refine WpO.cons rfl rfl (WpX.pure (fun _ => rfl) ⟨nolog, ?_⟩)
    | refine WpO.skip rfl rfl ?_
    | refine WpL.cons rfl rfl (WpX.pure (fun _ => rfl) ⟨nolog, ?_⟩)
    | refine WpL.skip rfl rfl ?_
    | refine seqQ_normal ?_
    | refine seqQ_ret ?_
    | refine seqQ_exit ?_
    | refine blkQ_normal ?_
    | refine blkQ_ret ?_
    | refine blkQ_out rfl ?_
    | refine blkQ_by rfl ?_
    | refine WpO.cons rfl rfl (op_load rfl rfl rfl hg hz0 ⟨(by simp [InL, Acc.name, rowName] <;> omega), ?_⟩)
    | refine WpL.cons rfl rfl (op_load rfl rfl rfl hg hz0 ⟨(by simp [InL, Acc.name, rowName] <;> omega), ?_⟩)
    | refine WpO.cons rfl rfl (op_load rfl rfl rfl hg hz1 ⟨(by simp [InL, Acc.name, rowName] <;> omega), ?_⟩)
    | refine WpL.cons rfl rfl (op_load rfl rfl rfl hg hz1 ⟨(by simp [InL, Acc.name, rowName] <;> omega), ?_⟩)
    | refine WpO.cons rfl rfl (op_load rfl rfl rfl hg hz2 ⟨(by simp [InL, Acc.name, rowName] <;> omega), ?_⟩)
    | refine WpL.cons rfl rfl (op_load rfl rfl rfl hg hz2 ⟨(by simp [InL, Acc.name, rowName] <;> omega), ?_⟩))
  refine WpL.nil (logsOk_of (cs := [0, 1, 3, 7, 0, 16, 48, 112, 255, 0, 0, 1024, 3072, 7168, 15872, 511, 65535]) (by decide +kernel) ?_) ?_
  · simp +contextual [allP, apP, Dis, acc_rd, acc_wr, accw_rd, accw_wr, Nat.testBit]
  repeat' (first
    | refine WpC.seq ?_
    | refine WpC.region ?_
    | refine WpC.drawn ?_
    | refine WpC.skip ?_
    | refine WpC.block ?_
    | refine WpC.exit ?_
    | refine WpC.ret ?_
    | refine WpO.nil ?_
    | refine WpO.cons rfl rfl (WpX.pure (fun _ => rfl) ⟨nolog, ?_⟩)
    | refine WpO.skip rfl rfl ?_
    | refine WpL.cons rfl rfl (WpX.pure (fun _ => rfl) ⟨nolog, ?_⟩)
    | refine WpL.skip rfl rfl ?_
    | refine seqQ_normal ?_
    | refine seqQ_ret ?_
    | refine seqQ_exit ?_
    | refine blkQ_normal ?_
    | refine blkQ_ret ?_
    | refine blkQ_out rfl ?_
    | refine blkQ_by rfl ?_)
  refine ⟨(k + 1, a + n), by simp only; omega, ?_, by simp only; omega, by simp only; omega, by simp only; omega, fun j y q hj h1 h2 => ?_, rfl, rfl⟩
  · rw [hw1, hw2, hwk]
    exact set6 rfl rfl rfl rfl rfl rfl
  · simp only at hj
    obtain ⟨a1, a2⟩ := List.getElem?_eq_some_iff.1 hi
    obtain ⟨b1, b2⟩ := List.getElem?_eq_some_iff.1 h1
    exact List.pairwise_iff_getElem.1 o.up k j a1 b1 (by omega) (a, n, cnt) q (by rw [a2]; exact hq) (by rw [b2]; exact h2)
end Go.Proofs.Ytempfmkicpifkaa


set_option linter.unusedVariables false
set_option linter.unusedSectionVars false
set_option linter.unusedSimpArgs false
set_option linter.unnecessarySimpa false
namespace Go.Proofs.Ytempfmkicpifkaa
open Go.Ab
set_option maxRecDepth 10000

theorem RefAt.live {h : HH} {c q : Nat} {vB vP vS vC : V} {st : St} (r : RefAt h c q vB vP vS vC st) (x : Int) : RefAt h c q vB vP vS vC { st with live := x } :=
  ⟨r.obj, r.b, r.pl, r.sz, r.ct, r.lq, r.nq, r.bp, r.ps, r.sc⟩
/-- Both stores hold the same. -/
structure Play (h0 : HH) (c0 p q i : Nat) (h : HH) (c : Nat) (vb vr vB vP vS vC : V) (st : St) : Prop where
  at_ : StoreAt h c p vb vr st
  ref : RefAt h c q vB vP vS vC st
  good : Good st
  rows : st.rows.length ≤ i
  cnt : ∀ (j : Nat) (x : R3), st.rows[j]? = some x → x.2.2 ≤ (i : Int) + 1
  byt : ∀ z ∈ st.bs, 0 ≤ z ∧ z < 256
  dis : ∀ n ∈ p :: (rowName vb ++ rowName vr), n ∉ rn q vB vP vS vC
  newp : ∀ n ∈ p :: (rowName vb ++ rowName vr), c0 ≤ n
  newq : ∀ n ∈ rn q vB vP vS vC, c0 ≤ n
  le : c0 ≤ c
  old : ∀ n, n < c0 → MapI.get h n = MapI.get h0 n
section
variable {h0 h h' : HH} {c0 c c' p q i : Nat} {vb vr vB vP vS vC : V} {st : St}
theorem Play.keep (k : Play h0 c0 p q i h c vb vr vB vP vS vC st) (hc : c ≤ c') (e : ∀ n, n < c → MapI.get h' n = MapI.get h n) : Play h0 c0 p q i h' c' vb vr vB vP vS vC st :=
  ⟨k.at_.keep hc e, k.ref.keep hc fun n hn _ => e n hn, k.good, k.rows, k.cnt, k.byt, k.dis, k.newp, k.newq, by have := k.le; omega, fun n hn => by rw [e n (by have := k.le; omega)]; exact k.old n hn⟩
theorem Play.more (k : Play h0 c0 p q i h c vb vr vB vP vS vC st) : Play h0 c0 p q (i + 1) h c vb vr vB vP vS vC st :=
  ⟨k.at_, k.ref, k.good, by have := k.rows; omega, fun j x hx => by have := k.cnt j x hx; omega, k.byt, k.dis, k.newp, k.newq, k.le, k.old⟩
theorem Play.sized (k : Play h0 c0 p q i h c vb vr vB vP vS vC st) : Sized st.rows := fun j x h1 h2 => by
  have := k.good.lies.in_ j x h1 h2
  have := k.good.fit
  have := k.good.most
  omega
theorem Play.refc (k : Play h0 c0 p q i h c vb vr vB vP vS vC st) : ∀ n ∈ rn q vB vP vS vC, n ∉ p :: (rowName vb ++ rowName vr) := fun n hn hm => k.dis n hm hn

/-- The row is the same one in both. -/
theorem same_row {rows R R' : List R3} {i i' : Nat} {x : R3} (hnn : ∀ (j : Nat) (q : R3), rows[j]? = some q → 0 ≤ q.2.2) (hi : i ≤ rows.length) (hi' : i' ≤ rows.length)
    (h1 : ∀ (j : Nat) (q : R3), j < i → rows[j]? = some q → q.2.2 ≠ 0) (h2 : ∀ (j : Nat) (q : R3), j < i' → rows[j]? = some q → q.2.2 > 0)
    (c1 : (∃ q, rows[i]? = some q ∧ q.2.2 = 0 ∧ R = rows.set i x) ∨ (i = rows.length ∧ R = rows ++ [x])) (c2 : (∃ q, rows[i']? = some q ∧ ¬ q.2.2 > 0 ∧ R' = rows.set i' x) ∨ (i' = rows.length ∧ R' = rows ++ [x])) : i' = i ∧ R' = R := by
  have e : i' = i := by
    rcases Nat.lt_trichotomy i i' with hlt | rfl | hlt
    · rcases c1 with ⟨q, a, b, _⟩ | ⟨e, _⟩
      · have := h2 i q hlt a; omega
      · omega
    · rfl
    · rcases c2 with ⟨q, a, b, _⟩ | ⟨e, _⟩
      · have := h1 i' q hlt a
        have := hnn i' q a
        omega
      · omega
  subst e
  refine ⟨rfl, ?_⟩
  rcases c1 with ⟨q, a, b, rfl⟩ | ⟨e, rfl⟩ <;> rcases c2 with ⟨q', a', b', rfl⟩ | ⟨e', rfl⟩
  · rfl
  · have := (List.getElem?_eq_some_iff.1 a).1; omega
  · have := (List.getElem?_eq_some_iff.1 a').1; omega
  · rfl
theorem slid_row {st : St} {j : Nat} {x : R3} (h : (slidSt st).rows[j]? = some x) : ∃ a, st.rows[j]? = some (a, x.2.1, x.2.2) := slid_of h
theorem outs_byt {bs : List Int} {rows : List R3} (h : ∀ z ∈ bs, 0 ≤ z ∧ z < 256) (l : List Nat) : ∀ z ∈ outs bs rows l, 0 ≤ z ∧ z < 256 := fun z hz => by
  obtain ⟨ys, h1, h2⟩ := List.mem_flatten.1 hz
  obtain ⟨j, _, rfl⟩ := List.mem_map.1 h1
  cases hr : rows[j]? with
  | none => rw [hr] at h2; cases h2
  | some x =>
    rw [hr] at h2
    exact h z (List.mem_of_mem_drop (List.mem_of_mem_take h2))
theorem room_byt {st : St} (h : ∀ z ∈ st.bs, 0 ≤ z ∧ z < 256) (n : Int) : ∀ z ∈ (room st n).bs, 0 ≤ z ∧ z < 256 := by
  unfold room
  split
  · exact h
  · exact outs_byt h _
/-- A count is changed, but not to 0. -/
theorem good_cnt {a n cnt cnt' : Int} {j : Nat} (g : Good st) (hq : st.rows[j]? = some (a, n, cnt)) (h1 : 0 < cnt) (h2 : 0 < cnt') : Good { st with rows := st.rows.set j (a, n, cnt') } := by
  have hl := g.lies
  have hlt := (List.getElem?_eq_some_iff.1 hq).1
  have look : ∀ (k : Nat) (y : R3), (st.rows.set j (a, n, cnt'))[k]? = some y → ∃ z : Int, st.rows[k]? = some (y.1, y.2.1, z) ∧ (y.2.2 > 0 → z > 0) ∧ (0 ≤ z → 0 ≤ y.2.2) := fun k y h => by
    rw [List.getElem?_set] at h
    by_cases e : j = k
    · subst e
      rw [if_pos rfl, if_pos hlt] at h
      cases h
      exact ⟨cnt, hq, fun _ => h1, fun _ => by simp only; omega⟩
    · rw [if_neg e] at h
      exact ⟨y.2.2, h, fun h => h, fun h => h⟩
  refine ⟨⟨fun k y h3 h4 => ?_, fun k m y w hkm h3 h4 h5 h6 => ?_, fun k y h3 => ?_⟩, ?_, g.fit, g.most⟩
  · obtain ⟨z, h5, h6, _⟩ := look k y h3
    exact hl.in_ k (y.1, y.2.1, z) h5 (h6 h4)
  · obtain ⟨z, g1, g2, _⟩ := look k y h3
    obtain ⟨z', g3, g4, _⟩ := look m w h4
    exact hl.ap k m (y.1, y.2.1, z) (w.1, w.2.1, z') hkm g1 g3 (g2 h5) (g4 h6)
  · obtain ⟨z, h5, _, h7⟩ := look k y h3
    exact h7 (hl.nn k (y.1, y.2.1, z) h5)
  · show st.live = tot _
    rw [tot_set _ hq, ← g.tot]
    simp only [if_pos (show (a, n, cnt).2.2 > 0 from h1), if_pos (show (a, n, cnt').2.2 > 0 from h2)]
    omega
theorem cnt_set {j : Nat} {y : R3} {b : Int} (hc : ∀ (k : Nat) (x : R3), st.rows[k]? = some x → x.2.2 ≤ b) (hy : y.2.2 ≤ b + 1) : ∀ (k : Nat) (x : R3), (st.rows.set j y)[k]? = some x → x.2.2 ≤ b + 1 := fun k x h => by
  rw [List.getElem?_set] at h
  by_cases e : j = k
  · rw [if_pos e] at h
    split at h
    · cases h; exact hy
    · cases h
  · rw [if_neg e] at h
    have := hc k x h
    omega
/-- What Grant leaves is sound. -/
theorem granted {n : Nat} {ys : List Int} {R : List R3} {j : Nat} (k : Play h0 c0 p q i h c vb vr vB vP vS vC st) (hn : 0 < n) (hy : ys.length = n) (hyes : st.live ≤ st.most - n) (hr : ∀ z ∈ ys, 0 ≤ z ∧ z < 256)
    (c1 : (∃ q, (room st n).rows[j]? = some q ∧ q.2.2 = 0 ∧ R = (room st n).rows.set j ((room st n).bs.length, n, 1)) ∨ (j = st.rows.length ∧ R = (room st n).rows ++ [(((room st n).bs.length : Int), (n : Int), (1 : Int))])) :
    Good ⟨(room st n).bs ++ ys, st.most, R, st.live + n⟩ ∧ R.length ≤ i + 1 ∧ (∀ (m : Nat) (x : R3), R[m]? = some x → x.2.2 ≤ ((i + 1 : Nat) : Int) + 1) ∧ ∀ z ∈ (room st n).bs ++ ys, 0 ≤ z ∧ z < 256 := by
  have g := k.good
  have g1 := room_good g n
  have hrl := room_rows st n
  have hrv := room_live st n
  have hrm := room_most st n
  have hlen1 := room_len g hyes
  have hby := room_byt k.byt n
  have hkr := k.rows
  have hc : ∀ (m : Nat) (x : R3), (room st n).rows[m]? = some x → x.2.2 ≤ (i : Int) + 1 := fun m x hx => by
    obtain ⟨a, ha⟩ := room_dead n hx
    exact k.cnt m (a, x.2.1, x.2.2) ha
  generalize room st n = s1 at *
  refine ⟨?_, ?_, ?_, fun z hz => ?_⟩
  · rcases c1 with ⟨x, h1, h2, rfl⟩ | ⟨rfl, rfl⟩
    · have := good_set g1 hn h1 h2 ys hy (by rw [hrm]; exact hlen1)
      rw [hrv, hrm] at this
      exact this
    · have := good_add g1 hn ys hy (by rw [hrm]; exact hlen1)
      rw [hrv, hrm] at this
      exact this
  · rcases c1 with ⟨x, h1, h2, rfl⟩ | ⟨rfl, rfl⟩
    · rw [List.length_set]; omega
    · simp only [List.length_append, List.length_cons, List.length_nil]; omega
  · rcases c1 with ⟨x, h1, h2, rfl⟩ | ⟨rfl, rfl⟩
    · intro m x hx
      have := cnt_set (st := s1) (b := (i : Int) + 1) hc (y := ((s1.bs.length : Int), (n : Int), (1 : Int))) (by simp only; omega) m x hx
      omega
    · intro m x hx
      by_cases e : m < s1.rows.length
      · rw [List.getElem?_append_left e] at hx
        have := hc m x hx
        omega
      · rw [List.getElem?_append_right (by omega)] at hx
        obtain ⟨d, hd⟩ : ∃ d, m - s1.rows.length = d := ⟨_, rfl⟩
        rw [hd] at hx
        cases d with
        | zero => simp at hx; subst hx; simp only; omega
        | succ d => simp at hx
  · rcases List.mem_append.1 hz with h | h
    · exact hby z h
    · exact hr z h
end
end Go.Proofs.Ytempfmkicpifkaa
