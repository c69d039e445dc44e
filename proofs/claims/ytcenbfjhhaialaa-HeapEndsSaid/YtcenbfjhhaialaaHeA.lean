/- Calls that read alone. -/
/- The calculus: rows that are read and written in place; appends of noughts. -/
/- Words: what a tag, a value, a header are, in numbers. -/
/- Words: the operations on bits are those on numbers. -/
/- The store's functions: what each does to bytes and rows. -/
/- The store's functions: handles. -/
/- Words: what their functions give. -/
/- Headers: what their functions give. -/
/- Headers: Make and Read. -/
import Derived.Test.YtcenbfjhhaialaaAd9
import Derived.Test.YtcenbfjhhaialaaAd7
import Derived.Test.YtcenbfjhhaialaaAdR


set_option linter.unusedVariables false
set_option linter.unusedSectionVars false
set_option linter.unusedSimpArgs false
set_option linter.unnecessarySimpa false
namespace Go.Proofs.Ytcenbfjhhaialaa
open Go.Ab
/-- Each access is of one of the names, or of a new one; what is written is new. -/
def InR (ns : List Nat) (c : Nat) : Acc → Prop := fun x => (x.name ∈ ns ∨ c ≤ x.name) ∧ (x.writes = true → c ≤ x.name)
def DoesR (f : Nat) (xs : List V) (h : HH) (c : Nat) (ns : List Nat) (Q : V → HH → Nat → Prop) : Prop :=
  WpX (cl f xs) h c fun v h' c' l => (∀ x ∈ l, InR ns c x) ∧ c ≤ c' ∧ (∀ n, n < c → MapI.get h' n = MapI.get h n) ∧ Q v h' c'
theorem doesR_of {f : Nat} {xs : List V} {h : HH} {c : Nat} {ns : List Nat} {Q : V → HH → Nat → Prop} (w : WpX (cl f xs) h c fun v h' c' l => (∀ x ∈ l, InR ns c x) ∧ Q v h' c') : DoesR f xs h c ns Q := by
  obtain ⟨a, h', c', l, ⟨hl, q⟩, k, hk⟩ := w
  have hloc := local_cl _ _ _ _ _ _ (hk k (Nat.le_refl _))
  refine ⟨a, h', c', l, ⟨hl, hloc.1, fun n hn => hloc.2.1 n fun x hx e => ?_, q⟩, k, hk⟩
  cases hw : x.writes with
  | false => rfl
  | true => have := (hl x hx).2 hw; omega
theorem inR_sub {ns ms : List Nat} {c c0 : Nat} (h1 : ∀ n ∈ ns, n ∈ ms ∨ c0 ≤ n) (h2 : c0 ≤ c) {x : Acc} (h : InR ns c x) : InR ms c0 x := by
  refine ⟨?_, fun hw => Nat.le_trans h2 (h.2 hw)⟩
  rcases h.1 with h | h
  · exact h1 _ h
  · exact .inr (by omega)
/-- At a call that reads alone. -/
theorem call_atRR {f : Nat} {args : Array Operand} {ats : Array Nat} {xs : List V} {e : EE} {h : HH} {c c0 : Nat} {ns ms : List Nat} {Q : V → HH → Nat → Prop} {K : V → HH → Nat → Prop} {ds : Option Tmp} {ty : Nat} {pos : String} {af : Array Edge} {gd : Option (Nat × Bool)}
    (ha : evs cx e args.toList = some xs) (w : DoesR f xs h c ns Q) (h1 : ∀ n ∈ ns, n ∈ ms ∨ c0 ≤ n) (h2 : c0 ≤ c)
    (k : ∀ v h' c', c ≤ c' → (∀ n, n < c → MapI.get h' n = MapI.get h n) → Q v h' c' → K v h' c') :
    WpX (fun n => opM cx (evFn EE cx pr n) e ⟨ds, .call ⟨.value (.func f), args, ats⟩, ty, pos, af, gd⟩) h c fun v h' c' al => (∀ x ∈ al, InR ms c0 x) ∧ K v h' c' :=
  op_call (call := fun n => evFn EE cx pr n) ha (WpX.mono w fun v h' c' l ⟨a, b, d, q⟩ => ⟨fun x hx => inR_sub h1 h2 (a x hx), k v h' c' b d q⟩)
/-- In a drawn region. -/
theorem call_atRL {f : Nat} {args : Array Operand} {ats : Array Nat} {xs : List V} {e : EE} {h : HH} {c c0 : Nat} {ns ms : List Nat} {Q : V → HH → Nat → Prop} {K : V → HH → Nat → List Acc → Prop} {ds : Option Tmp} {ty : Nat} {pos : String} {af : Array Edge} {gd : Option (Nat × Bool)}
    (ha : evs cx e args.toList = some xs) (w : DoesR f xs h c ns Q) (h1 : ∀ n ∈ ns, n ∈ ms ∨ c0 ≤ n) (h2 : c0 ≤ c)
    (k : ∀ v h' c' al, (∀ x ∈ al, InR ns c x) → c ≤ c' → (∀ n, n < c → MapI.get h' n = MapI.get h n) → Q v h' c' → K v h' c' al) :
    WpX (fun n => opM cx (evFn EE cx pr n) e ⟨ds, .call ⟨.value (.func f), args, ats⟩, ty, pos, af, gd⟩) h c fun v h' c' al => (∀ x ∈ al, InL ms c0 x) ∧ K v h' c' al :=
  op_call (call := fun n => evFn EE cx pr n) ha (WpX.mono w fun v h' c' l ⟨a, b, d, q⟩ => ⟨fun x hx => (inR_sub h1 h2 (a x hx)).1, k v h' c' l a b d q⟩)
theorem DoesR.does {f : Nat} {xs : List V} {h : HH} {c : Nat} {ns : List Nat} {Q : V → HH → Nat → Prop} (w : DoesR f xs h c ns Q) : Does f xs h c ns Q :=
  WpX.mono w fun v h' c' l ⟨a, b, d, q⟩ => ⟨fun x hx => (a x hx).1, b, fun n hn _ => d n hn, q⟩
end Go.Proofs.Ytcenbfjhhaialaa


set_option linter.unusedVariables false
set_option linter.unusedSectionVars false
set_option linter.unusedSimpArgs false
set_option linter.unnecessarySimpa false
namespace Go.Proofs.Ytcenbfjhhaialaa
open Go.Ab

section
variable {α : Type} {k : Nat} {cells : α → List V} {h h' : HH} {c c' : Nat} {e : EE}

/-- A slice from the beginning of a row that may be written: it reads as a list. -/
def RowOf (k : Nat) (cells : α → List V) (h : HH) (c : Nat) (v : V) (xs : List α) : Prop :=
  ∃ a cap, v = .slice a xs.length cap ∧ (∀ n ∈ rowName v, n < c) ∧ (xs ≠ [] → ∃ m cl junk, a = some (m, 0) ∧ MapI.get h m = some (.cells true cl (flat cells xs ++ junk)) ∧ junk.all one1 = true)
theorem RowOf.nil {c : Nat} {a : Option (Nat × Nat)} {cap : Cap} (h1 : ∀ n ∈ rowName (.slice a 0 cap), n < c) : RowOf k cells h c (.slice a 0 cap) [] := ⟨a, cap, rfl, h1, fun e => absurd rfl e⟩
theorem ListOf.row {v : V} {xs : List α} (r : ListOf k cells h c v xs) : RowOf k cells h c v xs := by
  rcases r with ⟨rfl, rfl⟩ | ⟨s, cl, junk, rfl, h1, h2, h3⟩
  · exact .nil fun n hn => by cases hn
  · exact ⟨_, _, rfl, fun n hn => (by simp [rowName] at hn; omega), fun _ => ⟨s, cl, junk, rfl, h2, h3⟩⟩
theorem RowOf.lt {v : V} {xs : List α} (r : RowOf k cells h c v xs) : ∀ n ∈ rowName v, n < c := by
  obtain ⟨a, cap, rfl, h1, _⟩ := r; exact h1
theorem RowOf.keep {v : V} {xs : List α} (r : RowOf k cells h c v xs) (hc : c ≤ c') (he : ∀ n, n < c → n ∈ rowName v → MapI.get h' n = MapI.get h n) : RowOf k cells h' c' v xs := by
  obtain ⟨a, cap, rfl, h1, h2⟩ := r
  refine ⟨a, cap, rfl, fun n hn => Nat.lt_of_lt_of_le (h1 n hn) hc, fun e => ?_⟩
  obtain ⟨m, cl, junk, rfl, h3, h4⟩ := h2 e
  exact ⟨m, cl, junk, rfl, by rw [he m (h1 m (by simp [rowName])) (by simp [rowName])]; exact h3, h4⟩
theorem RowOf.one {v : V} {xs : List α} (r : RowOf k cells h c v xs) : cellsV v = [v] ∧ one1 v = true := by
  obtain ⟨a, cap, rfl, _⟩ := r; exact ⟨rfl, rfl⟩
/-- As the code indexes it. -/
theorem RowOf.shape {v : V} {xs : List α} (r : RowOf k cells h c v xs) : ∃ a cap, v = .slice a xs.length cap ∧ (∀ i, i < xs.length → ∃ m cl junk, a = some (m, 0) ∧ m < c ∧ MapI.get h m = some (.cells true cl (flat cells xs ++ junk))) := by
  obtain ⟨a, cap, rfl, h1, h2⟩ := r
  refine ⟨a, cap, rfl, fun i hi => ?_⟩
  obtain ⟨m, cl, junk, rfl, h3, _⟩ := h2 (fun e => by rw [e] at hi; simp at hi)
  exact ⟨m, cl, junk, rfl, h1 m (by simp [rowName]), h3⟩
theorem RowOf.shape1 {v : V} {xs : List α} (r : RowOf k cells h c v xs) : ∃ a cap, v = .slice a xs.length cap ∧ (∀ i, i < xs.length → ∃ m cl junk, a = some (m, 0) ∧ m < c ∧ MapI.get h m = some (.cells true cl (flat cells xs ++ junk)) ∧ junk.all one1 = true) := by
  obtain ⟨a, cap, rfl, h1, h2⟩ := r
  refine ⟨a, cap, rfl, fun i hi => ?_⟩
  obtain ⟨m, cl, junk, rfl, h3, h4⟩ := h2 (fun e => by rw [e] at hi; simp at hi)
  exact ⟨m, cl, junk, rfl, h1 m (by simp [rowName]), h3, h4⟩
/-- A row that is a list in its value. -/
def Listy (k : Nat) (v : V) (xs : List α) : Prop := (v = .slice none 0 (.known 0) ∧ xs = []) ∨ (xs ≠ [] ∧ ∃ s, v = .slice (some (s, 0)) xs.length (.upTo k))
theorem RowOf.list {v : V} {xs : List α} (r : RowOf k cells h c v xs) (l : Listy k v xs) : ListOf k cells h c v xs := by
  rcases l with ⟨rfl, rfl⟩ | ⟨hne, s, rfl⟩
  · exact .nil
  · obtain ⟨a, cap, e, h1, h2⟩ := r
    obtain ⟨m, cl, junk, rfl, h3, h4⟩ := h2 hne
    simp only [V.slice.injEq, Option.some.injEq, Prod.mk.injEq, and_true, true_and] at e
    obtain ⟨rfl, rfl⟩ := e
    exact .inr ⟨s, cl, junk, rfl, h1 s (by simp [rowName]), h3, h4⟩
theorem ListOf.listy {v : V} {xs : List α} (r : ListOf k cells h c v xs) (hne : xs ≠ []) : Listy k v xs := by
  rcases r with ⟨_, e⟩ | ⟨s, _, _, e, _⟩
  · exact absurd e hne
  · exact .inr ⟨hne, s, e⟩
/-- One element is written. -/
theorem setAll_flat (hk : ∀ x, (cells x).length = k) {junk : List V} {z : α} : ∀ {xs : List α} {i : Nat}, i < xs.length → setAll (flat cells xs ++ junk) (i * k) (cells z) = flat cells (xs.set i z) ++ junk
  | [], _, h => by simp at h
  | y :: xs, 0, h => by
    rw [Nat.zero_mul]
    have e : flat cells (y :: xs) ++ junk = [] ++ (cells y ++ (flat cells xs ++ junk)) := by rw [flat_cons, List.append_assoc]; rfl
    rw [e, show (0 : Nat) = ([] : List V).length from rfl, setAll_app [] _ _ (by rw [List.length_append, hk, hk]; omega)]
    show [] ++ cells z ++ _ = flat cells (z :: xs) ++ junk
    rw [List.nil_append, flat_cons, List.append_assoc, hk z, ← hk y, List.drop_left]
  | y :: xs, i + 1, h => by
    have ih := setAll_flat hk (junk := junk) (z := z) (xs := xs) (i := i) (by simpa using h)
    have skip : ∀ (p q r : List V) (n : Nat), setAll (p ++ q) (p.length + n) r = p ++ setAll q n r := by
      intro p q r n
      induction p with
      | nil => simp
      | cons a p ih => simp [Nat.add_right_comm, setAll, ih]
    rw [flat_cons, List.append_assoc, List.set_cons_succ, flat_cons, List.append_assoc, Nat.add_mul, Nat.one_mul, Nat.add_comm, ← hk y, skip, hk y, ih]
theorem RowOf.set (hk : ∀ x, (cells x).length = k) {m n : Nat} {cap : Cap} {cl : Bool} {junk : List V} {xs : List α} {i : Nat} {z : α} (hm : m < c) (hj : junk.all one1 = true) (hi : i < xs.length) : RowOf k cells (MapI.set h m (.cells true cl (setAll (flat cells xs ++ junk) (i * k) (cells z)))) c (.slice (some (m, 0)) xs.length cap) (xs.set i z) := by
  refine ⟨_, cap, by rw [List.length_set], fun n hn => (by simp [rowName] at hn; omega), fun _ => ⟨m, cl, junk, rfl, ?_, hj⟩⟩
  rw [MapI.get_same, setAll_flat hk hi]
theorem ListOf.set (hk : ∀ x, (cells x).length = k) {m : Nat} {cl : Bool} {junk : List V} {xs : List α} {i : Nat} {z : α} (hm : m < c) (hj : junk.all one1 = true) (hi : i < xs.length) : ListOf k cells (MapI.set h m (.cells true cl (setAll (flat cells xs ++ junk) (i * k) (cells z)))) c (.slice (some (m, 0)) xs.length (.upTo k)) (xs.set i z) := by
  refine .inr ⟨m, cl, junk, by rw [List.length_set], hm, ?_, hj⟩
  rw [MapI.get_same, setAll_flat hk hi]
theorem nth_flat0 (hk : ∀ x, (cells x).length = 1) {xs : List α} {i : Nat} {x : α} {w : V} (hx : xs[i]? = some x) (hw : nth (cells x) 0 = some w) (junk : List V) : nth (flat cells xs ++ junk) i = some w := by
  have := (nth_flat hk hx (Nat.lt_succ_self 0) junk).trans hw
  simpa using this

/-- Of a list the first ones. -/
theorem ListOf.cutTo (hk : ∀ x, (cells x).length = k) (h1 : ∀ x, (cells x).all one1 = true) {m : Nat} {cl : Bool} {junk : List V} {xs : List α} {i : Nat} (hm : m < c) (hg : MapI.get h m = some (.cells true cl (flat cells xs ++ junk))) (hj : junk.all one1 = true) (hi : i ≤ xs.length) : ListOf k cells h c (.slice (some (m, 0)) i (.upTo k)) (xs.take i) := by
  refine .inr ⟨m, cl, flat cells (xs.drop i) ++ junk, by rw [List.length_take, Nat.min_eq_left hi], hm, ?_, ?_⟩
  · rw [hg, ← List.append_assoc, ← flat_append, List.take_append_drop]
  · rw [List.all_append, hj, flat_all h1]; rfl

variable {call : Nat → Tgt → List V → M HH V} {ds : Option Tmp} {ty : Nat} {pos : String} {af : Array Edge} {gd : Option (Nat × Bool)}
/-- append(v, make([]T, n)...). -/
theorem append_make {st el xt : Nat} {ki : IntKind} {args : Array Operand} {ats : Array Nat} {v : V} {n : Nat} {nz : Int} {ik : IntKind} {xs ys : List α} {L : Acc → Prop} {K : V → HH → Nat → Prop}
    (ha : evs cx e args.toList = some [v, .int ik nz]) (hnz : nz = n) (ht : ats.toList = [st, xt]) (T : ElT cx st el k) (hxt : cx.desc xt = some (.int ki)) (hz : zeroRow cx el n = some (flat cells ys)) (hk : ∀ x, (cells x).length = k + 1) (h1 : ∀ x, (cells x).all one1 = true) (hn : ys.length = n)
    (r : ListOf (k + 1) cells h c v xs) (hle : xs.length + n ≤ 1000000000) (hLv : ∀ a ∈ rowName v, L (.rd a) ∧ L (.wr a)) (hLc : L (.wr c))
    (kk : ∀ v' h' c', ListOf (k + 1) cells h' c' v' (xs ++ ys) → (∀ a ∈ rowName v', a ∈ rowName v ∨ (a = c ∧ c' = c + 1)) → c ≤ c' → (∀ a, a ≠ c → a ∉ rowName v → MapI.get h' a = MapI.get h a) → K v' h' c') :
    WpX (fun n => opM cx (evFn EE cx pr n) e ⟨ds, .call ⟨.builtin .append, args, ats⟩, ty, pos, af, gd⟩) h c fun v h' c' al => (∀ x ∈ al, L x) ∧ K v h' c' := by
  obtain ⟨i, hi, hb⟩ := T.ty
  subst hnz
  have e1 : appendedM cx el (k + 1) (some xt) (.int ik (n : Int)) h c = .ok (n, flat cells ys) h c ([] ++ []) := by
    unfold appendedM
    simp only [hxt]
    rw [if_pos ⟨by omega, by omega⟩, show ((n : Nat) : Int).toNat = n from by simp, hz]
    exact bnd_eq lift_eq rfl
  have hfy : (flat cells ys).length = n * (k + 1) := by rw [flat_length hk, hn]
  have key : ∀ {v' : V} {h' : HH} {c' : Nat} {l : List Acc}, appendM cx [st, xt] [v, .int ik (n : Int)] h c = .ok v' h' c' l → ((∀ x ∈ l, L x) ∧ K v' h' c') →
      WpX (fun n => opM cx (evFn EE cx pr n) e ⟨ds, .call ⟨.builtin .append, args, ats⟩, ty, pos, af, gd⟩) h c fun v h' c' al => (∀ x ∈ al, L x) ∧ K v h' c' :=
    fun hm q => op_append (call := fun n => evFn EE cx pr n) ha ht hm q
  rcases r with ⟨rfl, rfl⟩ | ⟨s, cl', junk, rfl, h2, h3, h4⟩
  · by_cases h0 : n = 0
    · subst h0
      have hy : ys = [] := List.length_eq_zero_iff.1 hn
      subst hy
      refine key (v' := .slice none 0 (.known 0)) (h' := h) (c' := c) (l := []) ?_ ⟨nolog, kk _ _ _ .nil (fun a ha => by cases ha) (Nat.le_refl _) (fun _ _ _ => rfl)⟩
      unfold appendM
      simp only [T.desc, hi, T.size]
      refine bnd_eq (l := [] ++ []) (l' := []) e1 ?_
      simp only [T.zero]
      rw [if_pos ⟨by simp [flat], by simp, hb, trivial⟩]
      rfl
    · refine key (v' := .slice (some (c, 0)) n (.upTo (k + 1))) (h' := MapI.set h c (.cells true true (flat cells ys))) (c' := c + 1) (l := [.wr c]) ?_ ⟨fun x hx => (by simp at hx; subst hx; exact hLc), kk _ _ _ ?_ (fun a ha => (by simp [rowName] at ha; exact .inr ⟨ha, rfl⟩)) (by omega) (fun a ha _ => MapI.get_ne _ _ _ _ (Ne.symm ha))⟩
      · unfold appendM
        simp only [T.desc, hi, T.size]
        refine bnd_eq (l := [] ++ []) (l' := [.wr c]) e1 ?_
        simp only [T.zero]
        rw [if_pos ⟨hfy, by simpa using hle, hb, trivial⟩]
        simp only [if_true, if_neg h0]
        rfl
      · exact .inr ⟨c, true, [], by simp [hn], by omega, by rw [MapI.get_same]; simp, rfl⟩
  · have hfl : (flat cells xs).length = xs.length * (k + 1) := flat_length hk xs
    have hLs := hLv s (by simp [rowName])
    by_cases h0 : n = 0
    · subst h0
      have hy : ys = [] := List.length_eq_zero_iff.1 hn
      subst hy
      refine key (v' := .slice (some (s, 0)) xs.length (.upTo (k + 1))) (h' := h) (c' := c) (l := []) ?_ ⟨nolog, kk _ _ _ (by rw [List.append_nil]; exact .inr ⟨s, cl', junk, rfl, h2, h3, h4⟩) (fun a ha => .inl ha) (Nat.le_refl _) (fun _ _ _ => rfl)⟩
      unfold appendM
      simp only [T.desc, hi, T.size]
      refine bnd_eq (l := [] ++ []) (l' := []) e1 ?_
      simp only [T.zero]
      rw [if_pos ⟨by simp [flat], by omega, hb, trivial⟩]
      simp
      rfl
    · by_cases hroom : (xs.length + n) * (k + 1) ≤ (flat cells xs ++ junk).length
      · have hj : (flat cells ys).length ≤ junk.length := by
          rw [List.length_append, hfl, Nat.add_mul] at hroom
          rw [hfy]; omega
        refine key (v' := .slice (some (s, 0)) (xs.length + n) (.upTo (k + 1))) (h' := MapI.set h s (.cells true cl' (setAll (flat cells xs ++ junk) (xs.length * (k + 1)) (flat cells ys)))) (c' := c) (l := [.rd s, .wr s]) ?_
          ⟨fun x hx => (by simp at hx; rcases hx with rfl | rfl <;> first | exact hLs.1 | exact hLs.2), kk _ _ _ (.inr ⟨s, cl', junk.drop (flat cells ys).length, by simp [hn], h2, ?_, ?_⟩) (fun a ha => .inl ha) (Nat.le_refl _) (fun a _ ha => MapI.get_ne _ _ _ _ (fun e => ha (by simp [rowName, e])))⟩
        · unfold appendM
          simp only [T.desc, hi, T.size]
          refine bnd_eq (l := [] ++ []) (l' := [.rd s, .wr s]) e1 ?_
          simp only [T.zero]
          rw [if_pos ⟨hfy, hle, hb, trivial⟩]
          simp only [if_neg h0, ne_eq, not_true_eq_false, if_false]
          refine bnd_eq (l := [.rd s]) (l' := [.wr s]) (getM_eq h3) ?_
          simp only [Nat.zero_add]
          rw [if_pos hroom]
          simp only [flat_all h1 ys, if_true]
          exact bnd_eq (setM_eq h3) rfl
        · rw [MapI.get_same, ← hfl, setAll_app _ _ _ hj, flat_append]
        · exact List.all_eq_true.2 fun x hx => List.all_eq_true.1 h4 x (List.mem_of_mem_drop hx)
      · have hold : cut (flat cells xs ++ junk) 0 (xs.length * (k + 1)) = some (flat cells xs) := by
          unfold cut
          rw [if_pos (by rw [List.length_append, hfl]; omega), List.drop_zero, ← hfl, List.take_left]
        refine key (v' := .slice (some (c, 0)) (xs.length + n) (.upTo (k + 1))) (h' := MapI.set (MapI.set h s .dead) c (.cells true cl' (flat cells xs ++ flat cells ys))) (c' := c + 1) (l := [.rd s, .wr s, .wr c]) ?_
          ⟨fun x hx => (by simp at hx; rcases hx with rfl | rfl | rfl <;> first | exact hLs.1 | exact hLs.2 | exact hLc), kk _ _ _ (.inr ⟨c, cl', [], by simp [hn], by omega, by rw [MapI.get_same, flat_append]; simp, rfl⟩) (fun a ha => (by simp [rowName] at ha; exact .inr ⟨ha, rfl⟩)) (by omega)
            (fun a ha hb => by rw [MapI.get_ne _ _ _ _ (Ne.symm ha), MapI.get_ne _ _ _ _ (fun e => hb (by simp [rowName, e]))])⟩
        unfold appendM
        simp only [T.desc, hi, T.size]
        refine bnd_eq (l := [] ++ []) (l' := [.rd s, .wr s, .wr c]) e1 ?_
        simp only [T.zero]
        rw [if_pos ⟨hfy, hle, hb, trivial⟩]
        simp only [if_neg h0, ne_eq, not_true_eq_false, if_false]
        refine bnd_eq (l := [.rd s]) (l' := [.wr s, .wr c]) (getM_eq h3) ?_
        simp only [Nat.zero_add]
        rw [if_neg hroom, hold]
        simp only
        refine bnd_eq (l := [.wr s]) (l' := [.wr c]) (setM_eq h3) ?_
        rw [if_pos (by rw [List.all_append, flat_all h1, flat_all h1]; rfl)]
        rfl
end

/-- At a call that reads alone. -/
theorem call_atD {f : Nat} {args : Array Operand} {ats : Array Nat} {xs : List V} {e : EE} {h : HH} {c c0 : Nat} {ns ms : List Nat} {Q : V → HH → Nat → Prop} {K : V → HH → Nat → Prop} {ds : Option Tmp} {ty : Nat} {pos : String} {af : Array Edge} {gd : Option (Nat × Bool)}
    (ha : evs cx e args.toList = some xs) (w : DoesR f xs h c ns Q) (h1 : ∀ n ∈ ns, n ∈ ms ∨ c0 ≤ n) (h2 : c0 ≤ c)
    (k : ∀ v h' c', c ≤ c' → (∀ n, n < c → MapI.get h' n = MapI.get h n) → Q v h' c' → K v h' c') :
    WpX (fun n => opM cx (evFn EE cx pr n) e ⟨ds, .call ⟨.value (.func f), args, ats⟩, ty, pos, af, gd⟩) h c fun v h' c' al => (∀ x ∈ al, InL ms c0 x) ∧ K v h' c' :=
  op_call (call := fun n => evFn EE cx pr n) ha (WpX.mono w fun v h' c' l ⟨a, b, d, q⟩ => ⟨fun x hx => (inR_sub h1 h2 (a x hx)).1, k v h' c' b d q⟩)

/-- A word's cell. -/
def wordV (w : Int) : List V := [.int .u64 w]
theorem word_len (w : Int) : (wordV w).length = 1 := rfl
theorem word_all (w : Int) : (wordV w).all one1 = true := rfl
theorem reps_word : ∀ n : Nat, reps n [V.int .u64 0] = flat wordV (List.replicate n 0)
  | 0 => rfl
  | n + 1 => by rw [List.replicate_succ, flat_cons, ← reps_word n]; rfl
def boolV (b : Bool) : List V := [.bool b]
theorem bool_len (b : Bool) : (boolV b).length = 1 := rfl
theorem bool_all (b : Bool) : (boolV b).all one1 = true := rfl
theorem reps_bool : ∀ n : Nat, reps n [V.bool false] = flat boolV (List.replicate n false)
  | 0 => rfl
  | n + 1 => by rw [List.replicate_succ, flat_cons, ← reps_bool n]; rfl
end Go.Proofs.Ytcenbfjhhaialaa


set_option linter.unusedVariables false
set_option linter.unusedSectionVars false
set_option linter.unusedSimpArgs false
set_option linter.unnecessarySimpa false
namespace Go.Proofs.Ytcenbfjhhaialaa
open Go.Ab

/-- A word: 64 bits, as a number from 0 on. -/
def okW (w : Int) : Prop := 0 ≤ w ∧ w < 18446744073709551616
def fitsW (n : Int) : Prop := -576460752303423488 ≤ n ∧ n ≤ 576460752303423487
def tagW (w : Int) : Int := w % 16
/-- The upper 60 bits, with their sign. -/
def valW (w : Int) : Int := if w < 9223372036854775808 then w / 16 else w / 16 - 1152921504606846976
def ofW (t n : Int) : Int := (n % 1152921504606846976) * 16 + t
theorem ofW_ok {t n : Int} (ht : 0 ≤ t ∧ t < 16) : okW (ofW t n) := by unfold okW ofW; omega
theorem tag_of {t n : Int} (ht : 0 ≤ t ∧ t < 16) : tagW (ofW t n) = t := by unfold tagW ofW; omega
theorem val_of {t n : Int} (ht : 0 ≤ t ∧ t < 16) (hn : fitsW n) : valW (ofW t n) = n := by
  unfold valW ofW
  unfold fitsW at hn
  split <;> omega
theorem of_val {w : Int} (hw : okW w) : ofW (tagW w) (valW w) = w := by
  unfold okW at hw
  unfold ofW tagW valW
  split <;> omega
theorem val_fits {w : Int} (hw : okW w) : fitsW (valW w) := by
  unfold okW at hw
  unfold fitsW valW
  split <;> omega
theorem tag_range (w : Int) : 0 ≤ tagW w ∧ tagW w < 16 := by unfold tagW; omega

theorem wrap64 (n : Int) : IntKind.i64.wrap n = if n % 18446744073709551616 ≥ 9223372036854775808 then n % 18446744073709551616 - 18446744073709551616 else n % 18446744073709551616 := by
  simp [IntKind.wrap, IntKind.bits, IntKind.signed]
theorem wrapU (n : Int) : IntKind.u64.wrap n = n % 18446744073709551616 := by
  simp [IntKind.wrap, IntKind.bits, IntKind.signed]
theorem or_add {a t k : Nat} (h : t < 2 ^ k) : (2 ^ k * a) ||| t = 2 ^ k * a + t := (Nat.two_pow_add_eq_or_of_lt h a).symm

/-- A header: kind, size, tree, sign. -/
structure Hd where
  kind : Int
  size : Int
  tree : Int
  neg : Bool
  deriving DecidableEq
def okH (x : Hd) : Prop := 0 ≤ x.kind ∧ x.kind ≤ 3 ∧ 0 ≤ x.size ∧ x.size < 1048576 ∧ 0 ≤ x.tree ∧ x.tree < 1048576
def numH (x : Hd) : Int := x.kind + (if x.neg then 4 else 0) + x.size * 8 + x.tree * 8388608
def makeW (x : Hd) : Int := ofW 6 (numH x)
def readW (w : Int) : Option Hd :=
  if tagW w = 6 ∧ 0 ≤ valW w ∧ valW w < 8796093022208 then some ⟨valW w % 4, valW w / 8 % 1048576, valW w / 8388608, valW w / 4 % 2 = 1⟩ else none
theorem numH_lt {x : Hd} (h : okH x) : 0 ≤ numH x ∧ numH x < 8796093022208 := by
  obtain ⟨k, s, t, n⟩ := x
  unfold okH at h
  unfold numH
  simp only at h ⊢
  split <;> omega
theorem read_make {x : Hd} (h : okH x) : readW (makeW x) = some x := by
  have hl := numH_lt h
  have h1 : tagW (makeW x) = 6 := tag_of (by decide)
  have h2 : valW (makeW x) = numH x := val_of (by decide) (by unfold fitsW; omega)
  unfold readW
  rw [h1, h2, if_pos ⟨rfl, hl.1, hl.2⟩]
  obtain ⟨k, s, t, n⟩ := x
  unfold okH at h
  unfold numH
  simp only at h ⊢
  cases n
  · simp only [Option.some.injEq, Hd.mk.injEq, Bool.false_eq_true, if_false]
    refine ⟨by omega, by omega, by omega, ?_⟩
    simp; omega
  · simp only [Option.some.injEq, Hd.mk.injEq, if_true]
    refine ⟨by omega, by omega, by omega, ?_⟩
    simp; omega
theorem read_ok {w : Int} {x : Hd} (h : readW w = some x) : okH x ∧ tagW w = 6 := by
  unfold readW at h
  split at h
  · next hc =>
    cases h
    exact ⟨by unfold okH; simp only; omega, hc.1⟩
  · cases h
/-- How many fields an object has. -/
def fieldsH (x : Hd) : Int := if x.kind = 0 then 2 else if x.kind = 1 then x.size else 0
end Go.Proofs.Ytcenbfjhhaialaa


set_option linter.unusedVariables false
set_option linter.unusedSectionVars false
set_option linter.unusedSimpArgs false
set_option linter.unnecessarySimpa false
namespace Go.Proofs.Ytcenbfjhhaialaa
open Go.Ab

theorem ofInt_nat {b : Nat} {x : Int} (h0 : 0 ≤ x) (h : x < 2 ^ b) : (BitVec.ofInt b x).toNat = x.toNat := by
  rw [BitVec.toNat_ofInt]
  congr 1
  exact Int.emod_eq_of_lt h0 (by exact_mod_cast h)
/-- And with a mask. -/
theorem and_nat {b k : Nat} {x m : Int} (h0 : 0 ≤ x) (h : x < 2 ^ b) (hm : m = 2 ^ k - 1) (hk : m < 2 ^ b) : ((BitVec.ofInt b x &&& BitVec.ofInt b m).toNat : Int) = x % 2 ^ k := by
  have hp : (1 : Int) ≤ 2 ^ k := by
    have : (1 : Nat) ≤ 2 ^ k := Nat.one_le_two_pow
    exact_mod_cast this
  have e : m.toNat = 2 ^ k - 1 := by
    have : ((2 ^ k : Nat) : Int) = (2 : Int) ^ k := by push_cast; rfl
    omega
  rw [BitVec.toNat_and, ofInt_nat h0 h, ofInt_nat (by omega) hk, e, Nat.and_two_pow_sub_one_eq_mod]
  have : (x.toNat : Int) = x := Int.toNat_of_nonneg h0
  rw [Int.natCast_emod, this]
  push_cast; rfl
/-- Or of parts that do not meet. -/
theorem or_nat {b k : Nat} {x a t : Int} (hx : x = 2 ^ k * a) (ha : 0 ≤ a) (ht0 : 0 ≤ t) (ht : t < 2 ^ k) (h : x < 2 ^ b) (hb : (2 : Int) ^ k ≤ 2 ^ b) : ((BitVec.ofInt b x ||| BitVec.ofInt b t).toNat : Int) = x + t := by
  have hx0 : 0 ≤ x := by
    have : (0 : Int) ≤ 2 ^ k := by
      have : (0 : Int) ≤ ((2 ^ k : Nat) : Int) := Int.natCast_nonneg _
      exact_mod_cast this
    rw [hx]; exact Int.mul_nonneg this ha
  rw [BitVec.toNat_or, ofInt_nat hx0 h, ofInt_nat ht0 (by omega)]
  have e : x.toNat = 2 ^ k * a.toNat := by
    have : ((2 ^ k * a.toNat : Nat) : Int) = x := by push_cast; rw [Int.toNat_of_nonneg ha, hx]
    omega
  have ht' : t.toNat < 2 ^ k := by
    have : ((2 ^ k : Nat) : Int) = (2 : Int) ^ k := by push_cast; rfl
    omega
  rw [e, or_add ht']
  omega
end Go.Proofs.Ytcenbfjhhaialaa


set_option linter.unusedVariables false
set_option linter.unusedSectionVars false
set_option linter.unusedSimpArgs false
set_option linter.unnecessarySimpa false
namespace Go.Proofs.Ytcenbfjhhaialaa
open Go.Ab
set_option maxRecDepth 10000

def byteV (z : Int) : List V := [.int .u8 z]
def intV (z : Int) : List V := [I z]
def tri (p : Int × Int × Int) : List V := [I p.1, I p.2.1, I p.2.2]
theorem elB : ElT cx 22 5 0 := ⟨rfl, rfl, rfl, ⟨_, rfl, by decide⟩⟩
theorem elR : ElT cx 47 54 2 := ⟨rfl, rfl, rfl, ⟨_, rfl, by decide⟩⟩
theorem elI : ElT cx 31 3 0 := ⟨rfl, rfl, rfl, ⟨_, rfl, by decide⟩⟩

structure St where
  bs : List Int
  most : Int
  rows : List (Int × Int × Int)
  live : Int
structure StoreAt (h : HH) (c p : Nat) (vb vr : V) (st : St) : Prop where
  obj : MapI.get h p = some (.cells true true [vb, I st.most, vr, I st.live])
  bytes : ListOf 1 byteV h c vb st.bs
  rows : ListOf 3 tri h c vr st.rows
  lp : p < c
  nb : ∀ n ∈ rowName vb, n ≠ p
  nr : ∀ n ∈ rowName vr, n ≠ p
  br : ∀ n ∈ rowName vb, n ∉ rowName vr
theorem StoreAt.keep {h h' : HH} {c c' p : Nat} {vb vr : V} {st : St} (r : StoreAt h c p vb vr st) (hc : c ≤ c') (e : ∀ n, n < c → MapI.get h' n = MapI.get h n) : StoreAt h' c' p vb vr st :=
  ⟨by rw [e p r.lp]; exact r.obj, r.bytes.keep hc fun n hn _ => e n hn, r.rows.keep hc fun n hn _ => e n hn, Nat.lt_of_lt_of_le r.lp hc, r.nb, r.nr, r.br⟩

theorem snew_ok {h : HH} {c : Nat} {most : Int} (h0 : 0 ≤ most) (h1 : most ≤ 1048576) : Does 5 [I most] h c [] fun v h' c' => v = .ptr (some (c, 0)) ∧ c' = c + 1 ∧ StoreAt h' c' c (.slice none 0 (.known 0)) (.slice none 0 (.known 0)) ⟨[], most, [], 0⟩ := by
  refine does_of (enter (fn := Try.f5) Try.func5 rfl rfl (Nat.le_of_ble_eq_true rfl) ?_)
  repeat' (first | refine WpC.seq ?_ | refine WpC.region ?_ | refine WpO.nil ?_ | refine WpO.cons rfl rfl (WpX.pure (fun _ => rfl) ⟨nolog, ?_⟩))
  have e0 : decide (most < 0) = false := by simpa using h0
  have e1 : decide (most > 1048576) = false := by simpa using h1
  simp only [e0]
  repeat' (first | refine WpO.nil ?_ | refine WpO.cons rfl rfl (WpX.pure (fun _ => rfl) ⟨nolog, ?_⟩) | refine seqQ_normal ?_)
  refine WpC.cond rfl (fun hb => by rw [e1] at hb; cases hb) (fun _ => ?_)
  repeat' (first | refine WpC.seq ?_ | refine WpC.region ?_ | refine WpC.skip ?_ | refine WpC.ret ?_ | refine WpO.nil ?_ | refine WpO.cons rfl rfl (WpX.pure (fun _ => rfl) ⟨nolog, ?_⟩) | refine WpO.cons rfl rfl (op_box rfl ⟨(by simp [InL, Acc.name, rowName] <;> omega), ?_⟩))
  refine out_ret rfl ⟨rfl, rfl, MapI.get_same _ _ _, .nil, .nil, Nat.lt_succ_self _, fun n hn => (by cases hn), fun n hn => (by cases hn), fun n hn => by cases hn⟩

theorem tri_len (x : Int × Int × Int) : (tri x).length = 3 := rfl
theorem tri_all (x : Int × Int × Int) : (tri x).all one1 = true := rfl
theorem byte_len (x : Int) : (byteV x).length = 1 := rfl
theorem byte_all (x : Int) : (byteV x).all one1 = true := rfl
theorem int_len (x : Int) : (intV x).length = 1 := rfl
theorem int_all (x : Int) : (intV x).all one1 = true := rfl

/-- free: the first row that nobody holds; else a new one behind all. -/
theorem free_ok {h : HH} {c p : Nat} {vb vr : V} {st : St} (r : StoreAt h c p vb vr st) (hlen : st.rows.length ≤ 1000) :
    Does 22 [.ptr (some (p, 0))] h c (p :: rowName vr) fun v h' c' => ∃ i : Nat, v = I i ∧ ((∃ q, st.rows[i]? = some q ∧ q.2.2 = 0 ∧ (∀ j q, j < i → st.rows[j]? = some q → q.2.2 ≠ 0) ∧ StoreAt h' c' p vb vr st) ∨
      (i = st.rows.length ∧ (∀ j q, j < st.rows.length → st.rows[j]? = some q → q.2.2 ≠ 0) ∧ ∃ vr', StoreAt h' c' p vb vr' { st with rows := st.rows ++ [(0, 0, 0)] } ∧ ∀ a ∈ rowName vr', a ∈ rowName vr ∨ c ≤ a)) := by
  have hobj := r.obj
  have hlp := r.lp
  obtain ⟨s, cap, rfl, hs⟩ := r.rows.shape
  refine does_of (enter (fn := Try.f22) Try.func22 rfl rfl (Nat.le_of_ble_eq_true rfl) ?_)
  repeat' (first | refine WpC.seq ?_ | refine WpC.region ?_ | refine WpC.block ?_ | refine WpO.nil ?_ | refine WpO.cons rfl rfl (WpX.pure (fun _ => rfl) ⟨nolog, ?_⟩) | refine WpO.cons rfl rfl (op_load rfl rfl rfl hobj rfl ⟨(by simp [InL, Acc.name, rowName] <;> omega), ?_⟩))
  refine WpC.loop ?_
  refine WpLoop.ind (X := Nat) (fun i e h' c' => (∃ b0, e = MapI.set (MapI.set (MapI.set (MapI.set b0 0 (.ptr (some (p, 0)))) 8 (.slice s st.rows.length cap)) 9 (I st.rows.length)) 10 (I i)) ∧ i ≤ st.rows.length ∧ (∀ j q, j < i → st.rows[j]? = some q → q.2.2 ≠ 0) ∧ c ≤ c' ∧ ∀ n, n < c → MapI.get h' n = MapI.get h n) (fun i => st.rows.length - i) ?_ 0 _ _ _ ⟨set4 rfl rfl rfl rfl, Nat.zero_le _, fun j q hj => by omega, Nat.le_refl _, fun n _ => rfl⟩
  rintro i e h' c' ⟨⟨b0, rfl⟩, hi, hb, hc, hfr⟩
  repeat' (first | refine WpC.seq ?_ | refine WpC.region ?_ | refine WpO.nil ?_ | refine WpO.cons rfl rfl (WpX.pure (fun _ => rfl) ⟨nolog, ?_⟩))
  refine WpC.cond rfl (fun hlt => ?_) (fun hge => ?_)
  case refine_2 =>
    have hge : st.rows.length ≤ i := by simpa using hge
    have hobj' : MapI.get h' p = some (.cells true true [vb, I st.most, .slice s st.rows.length cap, I st.live]) := by rw [hfr p hlp]; exact hobj
    have hrows' : ListOf (2 + 1) tri h' c' (.slice s st.rows.length cap) st.rows := r.rows.keep hc fun n hn _ => hfr n hn
    have b1 : MapI.get (MapI.set h' c' (.cells true true [I 0, I 0, I 0])) c' = some (.cells true true [I 0, I 0, I 0]) := MapI.get_same _ _ _
    have hrows2 : ListOf (2 + 1) tri (MapI.set h' c' (.cells true true [I 0, I 0, I 0])) (c' + 1) (.slice s st.rows.length cap) st.rows := hrows'.keep (by omega) fun n hn _ => MapI.get_ne _ _ _ _ (by omega)
    have hlt0 := r.rows.lt
    have hwl : IntKind.i64.wrap ((st.rows.length + 1 : Nat) - 1 : Int) = (st.rows.length : Int) := by rw [Go.IntWalk.i64_in _ (by omega)]; omega
    repeat' (first | refine WpC.seq ?_ | refine WpC.region ?_ | refine WpC.exit ?_ | refine WpO.cons rfl rfl (WpX.pure (fun _ => rfl) ⟨nolog, ?_⟩) | refine WpO.cons rfl rfl (op_load rfl rfl rfl hobj' rfl ⟨(by simp [InL, Acc.name, rowName] <;> omega), ?_⟩) | refine WpO.cons rfl rfl (op_buildSlice rfl rfl rfl rfl (by decide) rfl ⟨(by simp [InL, Acc.name, rowName] <;> omega), ?_⟩))
    refine WpO.cons rfl rfl (append_at (ys := [(0, 0, 0)]) rfl rfl elR rfl tri_len tri_all hrows2 b1 rfl rfl (by omega) (.inr (by simp [Acc.name]; omega)) (fun a ha => ⟨.inl (by simp [Acc.name, ha]), .inl (by simp [Acc.name, ha])⟩) (.inr (by simp [Acc.name]; omega)) fun v2 h2 c2 hl2 hn2 hc2 hf2 => ?_)
    have hobj2 : MapI.get h2 p = some (.cells true true [vb, I st.most, .slice s st.rows.length cap, I st.live]) := by
      rw [hf2 p (by omega) (fun hm => r.nr p hm rfl), MapI.get_ne _ _ _ _ (by omega)]; exact hobj'
    obtain ⟨s2, cap2, hv2, _⟩ := hl2.shape
    have hone := hl2.one
    repeat' (first | refine WpC.seq ?_ | refine WpC.region ?_ | refine WpO.nil ?_ | refine WpO.cons rfl rfl (WpX.pure (fun _ => rfl) ⟨nolog, ?_⟩) | refine WpO.cons rfl rfl (op_store (k := 1) rfl rfl rfl (by rw [hone.1]; rfl) hobj2 (Nat.le_of_ble_eq_true rfl) (by rw [hone.1]; simp [hone.2]) ⟨(by simp [InL, Acc.name, rowName] <;> omega), ?_⟩))
    have hp2 : ∀ a ∈ rowName v2, a ≠ p := fun a ha e => by
      rcases hn2 a ha with h | ⟨h, _⟩
      · exact r.nr a h e
      · omega
    have hobj3 : MapI.get (MapI.set h2 p (.cells true true (setAll [vb, I st.most, .slice s st.rows.length cap, I st.live] 2 (cellsV v2)))) p = some (.cells true true [vb, I st.most, .slice s2 (st.rows ++ [(0, 0, 0)]).length cap2, I st.live]) := by
      rw [MapI.get_same, hone.1, ← hv2]; rfl
    repeat' (first | refine WpC.ret ?_ | refine WpO.nil ?_ | refine WpO.cons rfl rfl (WpX.pure (fun _ => rfl) ⟨nolog, ?_⟩) | refine WpO.cons rfl rfl (op_load rfl rfl rfl hobj3 rfl ⟨(by simp [InL, Acc.name, rowName] <;> omega), ?_⟩))
    refine out_ret rfl ⟨st.rows.length, ?_, .inr ⟨rfl, fun j q hj hq => hb j q (by omega) hq, v2, ⟨?_, ?_, ?_, by omega, r.nb, hp2, ?_⟩, fun a ha => ?_⟩⟩
    · simp only [List.length_append, List.length_cons, List.length_nil, Nat.zero_add]; show V.int _ _ = _; rw [hwl]
    · rw [← hv2] at hobj3; exact hobj3
    · refine r.bytes.keep (by omega) fun n hn hm => ?_
      have hnp := r.nb n hm
      have hnr := r.br n hm
      rw [MapI.get_ne _ _ _ _ (Ne.symm hnp), hf2 n (by omega) hnr, MapI.get_ne _ _ _ _ (by omega)]
      exact hfr n hn
    · exact hl2.keep (Nat.le_refl _) fun n hn hm => MapI.get_ne _ _ _ _ (Ne.symm (hp2 n hm))
    · intro n hn hm
      rcases hn2 n hm with h | ⟨h, _⟩
      · exact r.br n hn h
      · have := r.bytes.lt n hn; omega
    · rcases hn2 a ha with h | ⟨h, _⟩
      · exact .inl h
      · exact .inr (by omega)
  have hlt : i < st.rows.length := by simpa using hlt
  obtain ⟨rfl, sn, cl, junk, rfl, hsn, hg, _⟩ := hs i hlt
  have hg' : MapI.get h' sn = some (.cells true cl (flat tri st.rows ++ junk)) := by rw [hfr sn hsn]; exact hg
  obtain ⟨⟨z0, z1, z2⟩, hz⟩ : ∃ z, st.rows[i]? = some z := ⟨_, List.getElem?_eq_getElem hlt⟩
  have hct : cut (flat tri st.rows ++ junk) (0 + ((i : Nat) : Int).toNat * 3) 3 = some (tri (z0, z1, z2)) := by
    have : 0 + ((i : Nat) : Int).toNat * 3 = i * 3 := by simp
    rw [this]; exact cut_flat tri_len hz junk
  have hw1 : IntKind.i64.wrap ((i : Int) + 1) = ((i + 1 : Nat) : Int) := by rw [Go.IntWalk.i64_in _ (by omega)]; omega
  have hgc : ∀ x : AObj, MapI.get (MapI.set h' c' x) c' = some x := fun x => MapI.get_same _ _ _
  have hd : ∀ (x : AObj) (y : AObj), MapI.get (MapI.set (MapI.set h' c' x) c' y) c' = some y := fun x y => MapI.get_same _ _ _
  repeat' (first | refine WpC.seq ?_ | refine WpC.region ?_ | refine WpC.skip ?_ | refine WpC.block ?_ | refine WpO.nil ?_ | refine WpO.cons rfl rfl (WpX.pure (fun _ => rfl) ⟨nolog, ?_⟩) | refine seqQ_normal ?_ | refine WpO.cons rfl rfl (op_indexAddr (k := 3) rfl rfl rfl rfl ⟨by omega, by omega⟩ ⟨(by simp [InL, Acc.name, rowName] <;> omega), ?_⟩) | refine WpO.cons rfl rfl (op_loadA rfl rfl rfl rfl hg' hct ⟨(by simp [InL, Acc.name, rowName] <;> omega), ?_⟩) | refine WpO.cons rfl rfl (op_alloc rfl ⟨(by simp [InL, Acc.name, rowName] <;> omega), ?_⟩) | refine WpO.cons rfl rfl (op_store rfl rfl rfl rfl (hgc _) (Nat.le_refl _) rfl ⟨(by simp [InL, Acc.name, rowName] <;> omega), ?_⟩) | refine WpO.cons rfl rfl (op_load rfl rfl rfl (hd _ _) rfl ⟨(by simp [InL, Acc.name, rowName] <;> omega), ?_⟩))
  refine WpC.cond rfl (fun heq => ?_) (fun hne => ?_)
  · have heq : z2 = 0 := by simpa using heq
    repeat' (first | refine WpC.seq ?_ | refine WpC.region ?_ | refine WpC.ret ?_ | refine WpO.nil ?_ | refine WpO.cons rfl rfl (WpX.pure (fun _ => rfl) ⟨nolog, ?_⟩) | refine seqQ_ret ?_ | refine blkQ_ret ?_)
    refine out_ret rfl ⟨i, rfl, .inl ⟨_, hz, heq, fun j q hj hq => hb j q hj hq, r.keep (by omega) fun n hn => ?_⟩⟩
    rw [MapI.get_ne _ _ _ _ (by omega), MapI.get_ne _ _ _ _ (by omega)]; exact hfr n hn
  · have hne : z2 ≠ 0 := by simpa using hne
    repeat' (first | refine WpC.region ?_ | refine WpC.skip ?_ | refine WpO.nil ?_ | refine WpO.cons rfl rfl (WpX.pure (fun _ => rfl) ⟨nolog, ?_⟩) | refine seqQ_normal ?_)
    refine ⟨i + 1, by omega, ?_, by omega, fun j q hj hq => ?_, by omega, fun n hn => ?_⟩
    · rw [hw1]
      exact set4 rfl rfl rfl rfl
    · by_cases e : j = i
      · subst e; rw [hz] at hq; cases hq; exact hne
      · exact hb j q (by omega) hq
    · rw [MapI.get_ne _ _ _ _ (by omega), MapI.get_ne _ _ _ _ (by omega)]; exact hfr n hn
end Go.Proofs.Ytcenbfjhhaialaa


set_option linter.unusedVariables false
set_option linter.unusedSectionVars false
set_option linter.unusedSimpArgs false
set_option linter.unnecessarySimpa false
namespace Go.Proofs.Ytcenbfjhhaialaa
open Go.Ab
set_option maxRecDepth 10000

theorem acc_rd (n : Nat) : (Acc.rd n).name = n := rfl
theorem acc_wr (n : Nat) : (Acc.wr n).name = n := rfl
theorem accw_rd (n : Nat) : (Acc.rd n).writes = false := rfl
theorem accw_wr (n : Nat) : (Acc.wr n).writes = true := rfl
theorem set_tri2 {junk : List V} {a b z x : Int} : ∀ {rows : List (Int × Int × Int)} {i : Nat}, rows[i]? = some (a, b, z) → setAll (flat tri rows ++ junk) (i * 3 + 2) [I x] = flat tri (rows.set i (a, b, x)) ++ junk
  | [], _, h => by simp at h
  | y :: rows, 0, h => by simp at h; subst h; simp [flat, tri, setAll, ovr]
  | y :: rows, i + 1, h => by
    have := set_tri2 (junk := junk) (x := x) (rows := rows) (i := i) (by simpa using h)
    rw [show (i + 1) * 3 + 2 = i * 3 + 2 + 3 from by omega]
    simp only [flat_cons, List.append_assoc, List.set_cons_succ] at this ⊢
    simp only [tri, List.cons_append, List.nil_append, setAll, this]
theorem set_tri {junk : List V} {a b z : Int} : ∀ {rows : List (Int × Int × Int)} {i : Nat}, i < rows.length → setAll (flat tri rows ++ junk) (i * 3) [I a, I b, I z] = flat tri (rows.set i (a, b, z)) ++ junk
  | [], _, h => by simp at h
  | y :: rows, 0, h => by simp [flat, tri, setAll, ovr]
  | y :: rows, i + 1, h => by
    have := set_tri (junk := junk) (a := a) (b := b) (z := z) (rows := rows) (i := i) (by simpa using h)
    rw [show (i + 1) * 3 = i * 3 + 3 from by omega]
    simp only [flat_cons, List.append_assoc, List.set_cons_succ] at this ⊢
    simp only [tri, List.cons_append, List.nil_append, setAll, this]

/-- of: where a handle's row lies; nil of one that is not there. -/
theorem of_ok {h : HH} {c p : Nat} {vb vr : V} {st : St} {hd : Int} (r : StoreAt h c p vb vr st) (hlen : st.rows.length ≤ 1000) :
    Does 29 [.ptr (some (p, 0)), I hd] h c (p :: rowName vr) fun v h' c' => h' = h ∧ c' = c ∧
      ((∃ (i : Nat) (q : Int × Int × Int) (sn : Nat) (cl : Bool) (junk : List V), hd = i + 1 ∧ st.rows[i]? = some q ∧ q.2.2 ≠ 0 ∧ vr = .slice (some (sn, 0)) st.rows.length (.upTo 3) ∧ sn < c ∧ MapI.get h sn = some (.cells true cl (flat tri st.rows ++ junk)) ∧ junk.all one1 = true ∧ v = .ptr (some (sn, i * 3))) ∨
       ((∀ (i : Nat) (q : Int × Int × Int), hd = i + 1 → st.rows[i]? = some q → q.2.2 = 0) ∧ v = .ptr none)) := by
  have hobj := r.obj
  obtain ⟨s, cap, rfl, hs⟩ := r.rows.shape
  refine does_of (enter (fn := Try.f29) Try.func29 rfl rfl (Nat.le_of_ble_eq_true rfl) ?_)
  by_cases h1 : hd < 1
  · have e1 : decide (hd < 1) = true := by simpa using h1
    repeat' (first | refine WpC.seq ?_ | refine WpC.region ?_ | refine WpO.nil ?_ | refine WpO.cons rfl rfl (WpX.pure (fun _ => rfl) ⟨nolog, ?_⟩))
    simp only [e1]
    repeat' (first | refine WpO.nil ?_ | refine WpO.cons rfl rfl (WpX.pure (fun _ => rfl) ⟨nolog, ?_⟩) | refine WpO.skip rfl rfl ?_ | refine seqQ_normal ?_)
    refine WpC.cond rfl (fun _ => ?_) (fun hb => by cases hb)
    repeat' (first | refine WpC.seq ?_ | refine WpC.region ?_ | refine WpC.ret ?_ | refine WpO.nil ?_ | refine WpO.cons rfl rfl (WpX.pure (fun _ => rfl) ⟨nolog, ?_⟩) | refine seqQ_ret ?_)
    exact out_ret rfl ⟨rfl, rfl, .inr ⟨fun i q e _ => by omega, rfl⟩⟩
  have e1 : decide (hd < 1) = false := by simpa using h1
  by_cases h2 : hd > (st.rows.length : Int)
  · have e2 : decide (hd > (st.rows.length : Int)) = true := by simpa using h2
    repeat' (first | refine WpC.seq ?_ | refine WpC.region ?_ | refine WpO.nil ?_ | refine WpO.cons rfl rfl (WpX.pure (fun _ => rfl) ⟨nolog, ?_⟩))
    simp only [e1]
    repeat' (first | refine WpO.cons rfl rfl (WpX.pure (fun _ => rfl) ⟨nolog, ?_⟩) | refine WpO.cons rfl rfl (op_load rfl rfl rfl hobj rfl ⟨(by simp [InL, Acc.name, rowName] <;> omega), ?_⟩))
    simp only [e2]
    repeat' (first | refine WpO.nil ?_ | refine WpO.cons rfl rfl (WpX.pure (fun _ => rfl) ⟨nolog, ?_⟩) | refine WpO.skip rfl rfl ?_ | refine seqQ_normal ?_)
    refine WpC.cond rfl (fun _ => ?_) (fun hb => by cases hb)
    repeat' (first | refine WpC.seq ?_ | refine WpC.region ?_ | refine WpC.ret ?_ | refine WpO.nil ?_ | refine WpO.cons rfl rfl (WpX.pure (fun _ => rfl) ⟨nolog, ?_⟩) | refine seqQ_ret ?_)
    exact out_ret rfl ⟨rfl, rfl, .inr ⟨fun i q e hq => by have := (List.getElem?_eq_some_iff.1 hq).1; omega, rfl⟩⟩
  have e2 : decide (hd > (st.rows.length : Int)) = false := by simpa using h2
  obtain ⟨i, rfl⟩ : ∃ i : Nat, hd = i + 1 := ⟨(hd - 1).toNat, by omega⟩
  have hi : i < st.rows.length := by omega
  obtain ⟨rfl, sn, cl, junk, rfl, hsn, hg, hj⟩ := hs i hi
  obtain ⟨⟨z0, z1, z2⟩, hz⟩ : ∃ z, st.rows[i]? = some z := ⟨_, List.getElem?_eq_getElem hi⟩
  have hw : IntKind.i64.wrap ((i : Int) + 1 - 1) = (i : Int) := by rw [Go.IntWalk.i64_in _ (by omega)]; omega
  have hz2 : nth (flat tri st.rows ++ junk) (0 + (IntKind.i64.wrap ((i : Int) + 1 - 1)).toNat * 3 + 2) = some (I z2) := by
    rw [hw, show 0 + ((i : Nat) : Int).toNat * 3 + 2 = i * 3 + 2 from by simp]
    exact (nth_flat tri_len hz (by omega) junk).trans rfl
  repeat' (first | refine WpC.seq ?_ | refine WpC.region ?_ | refine WpO.nil ?_ | refine WpO.cons rfl rfl (WpX.pure (fun _ => rfl) ⟨nolog, ?_⟩))
  simp only [e1]
  repeat' (first | refine WpO.cons rfl rfl (WpX.pure (fun _ => rfl) ⟨nolog, ?_⟩) | refine WpO.cons rfl rfl (op_load rfl rfl rfl hobj rfl ⟨(by simp [InL, Acc.name, rowName] <;> omega), ?_⟩))
  simp only [e2]
  repeat' (first | refine WpO.nil ?_ | refine WpO.cons rfl rfl (WpX.pure (fun _ => rfl) ⟨nolog, ?_⟩) | refine seqQ_normal ?_ | refine WpO.cons rfl rfl (op_load rfl rfl rfl hobj rfl ⟨(by simp [InL, Acc.name, rowName] <;> omega), ?_⟩) | refine WpO.cons rfl rfl (op_indexAddr (k := 3) rfl rfl rfl rfl ⟨by omega, by omega⟩ ⟨(by simp [InL, Acc.name, rowName] <;> omega), ?_⟩) | refine WpO.cons rfl rfl (op_load rfl rfl rfl hg hz2 ⟨(by simp [InL, Acc.name, rowName] <;> omega), ?_⟩))
  refine WpC.cond rfl (fun heq => ?_) (fun hne => ?_)
  · have heq : z2 = 0 := by simpa using heq
    repeat' (first | refine WpC.seq ?_ | refine WpC.region ?_ | refine WpC.ret ?_ | refine WpO.nil ?_ | refine WpO.cons rfl rfl (WpX.pure (fun _ => rfl) ⟨nolog, ?_⟩) | refine seqQ_ret ?_)
    refine out_ret rfl ⟨rfl, rfl, .inr ⟨fun j q e hq => ?_, rfl⟩⟩
    have : j = i := by omega
    subst this
    rw [hz] at hq; cases hq; exact heq
  · have hne : z2 ≠ 0 := by simpa using hne
    repeat' (first | refine WpC.seq ?_ | refine WpC.region ?_ | refine WpC.skip ?_ | refine WpC.ret ?_ | refine WpO.nil ?_ | refine WpO.cons rfl rfl (WpX.pure (fun _ => rfl) ⟨nolog, ?_⟩) | refine WpO.cons rfl rfl (op_load rfl rfl rfl hobj rfl ⟨(by simp [InL, Acc.name, rowName] <;> omega), ?_⟩) | refine WpO.cons rfl rfl (op_indexAddr (k := 3) rfl rfl rfl rfl ⟨by omega, by omega⟩ ⟨(by simp [InL, Acc.name, rowName] <;> omega), ?_⟩))
    refine out_ret rfl ⟨rfl, rfl, .inl ⟨i, _, sn, cl, junk, rfl, hz, hne, rfl, hsn, hg, hj, ?_⟩⟩
    show V.ptr _ = _
    rw [hw]; simp

theorem count_ok {h : HH} {c p : Nat} {vb vr : V} {st : St} {hd : Int} (r : StoreAt h c p vb vr st) (hlen : st.rows.length ≤ 1000) :
    Does 9 [.ptr (some (p, 0)), I hd] h c (p :: rowName vr) fun v h' c' => h' = h ∧ c' = c ∧
      ((∃ (i : Nat) (q : Int × Int × Int), hd = i + 1 ∧ st.rows[i]? = some q ∧ v = I q.2.2) ∨ ((∀ (i : Nat) (q : Int × Int × Int), hd = i + 1 → st.rows[i]? = some q → q.2.2 = 0) ∧ v = I 0)) := by
  refine does_of (enter (fn := Try.f9) Try.func9 rfl rfl (Nat.le_of_ble_eq_true rfl) ?_)
  repeat' (first | refine WpC.seq ?_ | refine WpC.region ?_ | refine WpO.nil ?_ | refine WpO.cons rfl rfl (WpX.pure (fun _ => rfl) ⟨nolog, ?_⟩))
  refine WpO.cons rfl rfl (call_at rfl (of_ok r hlen) (fun n hn => .inl hn) (Nat.le_refl _) fun v h4 c4 hc4 hfr4 hq => ?_)
  obtain ⟨rfl, rfl, hq⟩ := hq
  rcases hq with ⟨i, q, sn, cl, junk, rfl, hz, hne, rfl, hsn, hg, hj, rfl⟩ | ⟨hno, rfl⟩
  · have hz2 : nth (flat tri st.rows ++ junk) (i * 3 + 2) = some (I q.2.2) := (nth_flat tri_len hz (by omega) junk).trans rfl
    repeat' (first | refine WpC.seq ?_ | refine WpC.region ?_ | refine WpO.nil ?_ | refine WpO.cons rfl rfl (WpX.pure (fun _ => rfl) ⟨nolog, ?_⟩) | refine seqQ_normal ?_)
    refine WpC.cond rfl (fun hb => by cases hb) (fun _ => ?_)
    repeat' (first | refine WpC.seq ?_ | refine WpC.region ?_ | refine WpC.skip ?_ | refine WpC.ret ?_ | refine WpO.nil ?_ | refine WpO.cons rfl rfl (WpX.pure (fun _ => rfl) ⟨nolog, ?_⟩) | refine WpO.cons rfl rfl (op_load rfl rfl rfl hg hz2 ⟨(by simp [InL, Acc.name, rowName] <;> omega), ?_⟩))
    exact out_ret rfl ⟨rfl, rfl, .inl ⟨i, q, rfl, hz, rfl⟩⟩
  ·
    repeat' (first | refine WpC.seq ?_ | refine WpC.region ?_ | refine WpO.nil ?_ | refine WpO.cons rfl rfl (WpX.pure (fun _ => rfl) ⟨nolog, ?_⟩) | refine seqQ_normal ?_)
    refine WpC.cond rfl (fun _ => ?_) (fun hb => by cases hb)
    repeat' (first | refine WpC.seq ?_ | refine WpC.region ?_ | refine WpC.ret ?_ | refine WpO.nil ?_ | refine WpO.cons rfl rfl (WpX.pure (fun _ => rfl) ⟨nolog, ?_⟩) | refine seqQ_ret ?_)
    exact out_ret rfl ⟨rfl, rfl, .inr ⟨hno, rfl⟩⟩

theorem live_ok {h : HH} {c p : Nat} {vb vr : V} {st : St} (r : StoreAt h c p vb vr st) : Does 14 [.ptr (some (p, 0))] h c [p] fun v h' c' => h' = h ∧ c' = c ∧ v = I st.live := by
  have hobj := r.obj
  refine does_of (enter (fn := Try.f14) Try.func14 rfl rfl (Nat.le_of_ble_eq_true rfl) ?_)
  repeat' (first | refine WpC.seq ?_ | refine WpC.region ?_ | refine WpO.nil ?_ | refine WpO.cons rfl rfl (WpX.pure (fun _ => rfl) ⟨nolog, ?_⟩) | refine seqQ_normal ?_)
  refine WpC.cond rfl (fun hb => by cases hb) (fun _ => ?_)
  repeat' (first | refine WpC.seq ?_ | refine WpC.region ?_ | refine WpC.skip ?_ | refine WpC.ret ?_ | refine WpO.nil ?_ | refine WpO.cons rfl rfl (WpX.pure (fun _ => rfl) ⟨nolog, ?_⟩) | refine WpO.cons rfl rfl (op_load rfl rfl rfl hobj rfl ⟨(by simp [InL, Acc.name, rowName] <;> omega), ?_⟩))
  exact out_ret rfl ⟨rfl, rfl, rfl⟩

/-- A row is written anew. -/
theorem StoreAt.setRow {h : HH} {c p sn : Nat} {vb : V} {st : St} {cl : Bool} {junk : List V} {rows' : List (Int × Int × Int)} (r : StoreAt h c p vb (.slice (some (sn, 0)) st.rows.length (.upTo 3)) st) (hsn : sn < c) (hj : junk.all one1 = true) (hl : rows'.length = st.rows.length) :
    StoreAt (MapI.set h sn (.cells true cl (flat tri rows' ++ junk))) c p vb (.slice (some (sn, 0)) st.rows.length (.upTo 3)) { st with rows := rows' } :=
  ⟨by rw [MapI.get_ne _ _ _ _ (r.nr sn (by simp [rowName]))]; exact r.obj,
   r.bytes.keep (Nat.le_refl _) fun n hn hm => MapI.get_ne _ _ _ _ (fun e => r.br n hm (by simp [rowName, e])),
   .inr ⟨sn, cl, junk, by rw [hl], hsn, MapI.get_same _ _ _, hj⟩, r.lp, r.nb, r.nr, r.br⟩
theorem StoreAt.setLive {h : HH} {c p : Nat} {vb vr : V} {st : St} {x : Int} (r : StoreAt h c p vb vr st) : StoreAt (MapI.set h p (.cells true true [vb, I st.most, vr, I x])) c p vb vr { st with live := x } :=
  ⟨MapI.get_same _ _ _, r.bytes.keep (Nat.le_refl _) fun n hn hm => MapI.get_ne _ _ _ _ (Ne.symm (r.nb n hm)), r.rows.keep (Nat.le_refl _) fun n hn hm => MapI.get_ne _ _ _ _ (Ne.symm (r.nr n hm)), r.lp, r.nb, r.nr, r.br⟩

theorem hold_ok {h : HH} {c p : Nat} {vb vr : V} {st : St} {hd : Int} (r : StoreAt h c p vb vr st) (hlen : st.rows.length ≤ 1000) :
    Does 28 [.ptr (some (p, 0)), I hd] h c (p :: rowName vr) fun v h' c' => c' = c ∧
      ((∃ (i : Nat) (q : Int × Int × Int), hd = i + 1 ∧ st.rows[i]? = some q ∧ q.2.2 ≠ 0 ∧ v = .bool true ∧ StoreAt h' c p vb vr { st with rows := st.rows.set i (q.1, q.2.1, IntKind.i64.wrap (q.2.2 + 1)) }) ∨
       ((∀ (i : Nat) (q : Int × Int × Int), hd = i + 1 → st.rows[i]? = some q → q.2.2 = 0) ∧ v = .bool false ∧ h' = h)) := by
  refine does_of (enter (fn := Try.f28) Try.func28 rfl rfl (Nat.le_of_ble_eq_true rfl) ?_)
  repeat' (first | refine WpC.seq ?_ | refine WpC.region ?_ | refine WpO.nil ?_ | refine WpO.cons rfl rfl (WpX.pure (fun _ => rfl) ⟨nolog, ?_⟩))
  refine WpO.cons rfl rfl (call_at rfl (of_ok r hlen) (fun n hn => .inl hn) (Nat.le_refl _) fun v h4 c4 hc4 hfr4 hq => ?_)
  obtain ⟨rfl, rfl, hq⟩ := hq
  rcases hq with ⟨i, ⟨q0, q1, q2⟩, sn, cl, junk, rfl, hz, hne, rfl, hsn, hg, hj, rfl⟩ | ⟨hno, rfl⟩
  · have hz2 : nth (flat tri st.rows ++ junk) (i * 3 + 2) = some (I q2) := (nth_flat tri_len hz (by omega) junk).trans rfl
    have hlt := (List.getElem?_eq_some_iff.1 hz).1
    have hfl : i * 3 + 2 + 1 ≤ (flat tri st.rows ++ junk).length := by rw [List.length_append, flat_length tri_len]; omega
    repeat' (first | refine WpC.seq ?_ | refine WpC.region ?_ | refine WpO.nil ?_ | refine WpO.cons rfl rfl (WpX.pure (fun _ => rfl) ⟨nolog, ?_⟩) | refine seqQ_normal ?_)
    refine WpC.cond rfl (fun hb => by cases hb) (fun _ => ?_)
    repeat' (first | refine WpC.seq ?_ | refine WpC.region ?_ | refine WpC.skip ?_ | refine WpC.ret ?_ | refine WpO.nil ?_ | refine WpO.cons rfl rfl (WpX.pure (fun _ => rfl) ⟨nolog, ?_⟩) | refine WpO.cons rfl rfl (op_load rfl rfl rfl hg hz2 ⟨(by simp [InL, Acc.name, rowName] <;> omega), ?_⟩) | refine WpO.cons rfl rfl (op_store (k := 1) rfl rfl rfl rfl hg hfl rfl ⟨(by simp [InL, Acc.name, rowName] <;> omega), ?_⟩))
    refine out_ret rfl ⟨rfl, .inl ⟨i, _, rfl, hz, hne, rfl, ?_⟩⟩
    have := r.setRow (cl := cl) (junk := junk) (rows' := st.rows.set i (q0, q1, IntKind.i64.wrap (q2 + 1))) hsn hj (by simp)
    rw [← set_tri2 hz] at this
    exact this
  ·
    repeat' (first | refine WpC.seq ?_ | refine WpC.region ?_ | refine WpO.nil ?_ | refine WpO.cons rfl rfl (WpX.pure (fun _ => rfl) ⟨nolog, ?_⟩) | refine seqQ_normal ?_)
    refine WpC.cond rfl (fun _ => ?_) (fun hb => by cases hb)
    repeat' (first | refine WpC.seq ?_ | refine WpC.region ?_ | refine WpC.ret ?_ | refine WpO.nil ?_ | refine WpO.cons rfl rfl (WpX.pure (fun _ => rfl) ⟨nolog, ?_⟩) | refine seqQ_ret ?_)
    exact out_ret rfl ⟨rfl, .inr ⟨hno, rfl, rfl⟩⟩

theorem drop_ok {h : HH} {c p : Nat} {vb vr : V} {st : St} {hd : Int} (r : StoreAt h c p vb vr st) (hlen : st.rows.length ≤ 1000) :
    Does 34 [.ptr (some (p, 0)), I hd] h c (p :: rowName vr) fun v h' c' => c' = c ∧
      ((∃ (i : Nat) (q : Int × Int × Int), hd = i + 1 ∧ st.rows[i]? = some q ∧ q.2.2 ≠ 0 ∧ v = .bool true ∧
          StoreAt h' c p vb vr { st with rows := st.rows.set i (q.1, q.2.1, IntKind.i64.wrap (q.2.2 - 1)), live := if IntKind.i64.wrap (q.2.2 - 1) = 0 then IntKind.i64.wrap (st.live - q.2.1) else st.live }) ∨
       ((∀ (i : Nat) (q : Int × Int × Int), hd = i + 1 → st.rows[i]? = some q → q.2.2 = 0) ∧ v = .bool false ∧ h' = h)) := by
  refine does_of (enter (fn := Try.f34) Try.func34 rfl rfl (Nat.le_of_ble_eq_true rfl) ?_)
  repeat' (first | refine WpC.seq ?_ | refine WpC.region ?_ | refine WpO.nil ?_ | refine WpO.cons rfl rfl (WpX.pure (fun _ => rfl) ⟨nolog, ?_⟩))
  refine WpO.cons rfl rfl (call_at rfl (of_ok r hlen) (fun n hn => .inl hn) (Nat.le_refl _) fun v h4 c4 hc4 hfr4 hq => ?_)
  obtain ⟨rfl, rfl, hq⟩ := hq
  rcases hq with ⟨i, ⟨q0, q1, q2⟩, sn, cl, junk, rfl, hz, hne, rfl, hsn, hg, hj, rfl⟩ | ⟨hno, rfl⟩
  · have hz2 : nth (flat tri st.rows ++ junk) (i * 3 + 2) = some (I q2) := (nth_flat tri_len hz (by omega) junk).trans rfl
    have hlt := (List.getElem?_eq_some_iff.1 hz).1
    have hfl : i * 3 + 2 + 1 ≤ (flat tri st.rows ++ junk).length := by rw [List.length_append, flat_length tri_len]; omega
    have r2 := r.setRow (cl := cl) (junk := junk) (rows' := st.rows.set i (q0, q1, IntKind.i64.wrap (q2 - 1))) hsn hj (by simp)
    rw [← set_tri2 hz] at r2
    have hobj2 := r2.obj
    have hz' : (st.rows.set i (q0, q1, IntKind.i64.wrap (q2 - 1)))[i]? = some (q0, q1, IntKind.i64.wrap (q2 - 1)) := by simp [hlt]
    have hg2 : MapI.get (MapI.set h4 sn (.cells true cl (setAll (flat tri st.rows ++ junk) (i * 3 + 2) [I (IntKind.i64.wrap (q2 - 1))]))) sn = some (.cells true cl (setAll (flat tri st.rows ++ junk) (i * 3 + 2) [I (IntKind.i64.wrap (q2 - 1))])) := MapI.get_same _ _ _
    have hn2 : nth (setAll (flat tri st.rows ++ junk) (i * 3 + 2) [I (IntKind.i64.wrap (q2 - 1))]) (i * 3 + 2) = some (I (IntKind.i64.wrap (q2 - 1))) := by
      rw [set_tri2 hz]; exact (nth_flat tri_len hz' (by omega) junk).trans rfl
    have hn1 : nth (setAll (flat tri st.rows ++ junk) (i * 3 + 2) [I (IntKind.i64.wrap (q2 - 1))]) (i * 3 + 1) = some (I q1) := by
      rw [set_tri2 hz]; exact (nth_flat tri_len hz' (by omega) junk).trans rfl
    have hps : p ≠ sn := fun e => r.nr sn (by simp [rowName]) e.symm
    repeat' (first | refine WpC.seq ?_ | refine WpC.region ?_ | refine WpO.nil ?_ | refine WpO.cons rfl rfl (WpX.pure (fun _ => rfl) ⟨nolog, ?_⟩) | refine seqQ_normal ?_)
    refine WpC.cond rfl (fun hb => by cases hb) (fun _ => ?_)
    repeat' (first | refine WpC.seq ?_ | refine WpC.region ?_ | refine WpC.skip ?_ | refine WpO.nil ?_ | refine WpO.cons rfl rfl (WpX.pure (fun _ => rfl) ⟨nolog, ?_⟩) | refine seqQ_normal ?_ | refine WpO.cons rfl rfl (op_load rfl rfl rfl hg hz2 ⟨(by simp [InL, Acc.name, rowName] <;> omega), ?_⟩) | refine WpO.cons rfl rfl (op_store (k := 1) rfl rfl rfl rfl hg hfl rfl ⟨(by simp [InL, Acc.name, rowName] <;> omega), ?_⟩) | refine WpO.cons rfl rfl (op_load rfl rfl rfl hg2 hn2 ⟨(by simp [InL, Acc.name, rowName] <;> omega), ?_⟩))
    refine WpC.cond rfl (fun heq => ?_) (fun hne2 => ?_)
    · have heq : IntKind.i64.wrap (q2 - 1) = 0 := by simpa using heq
      repeat' (first | refine WpC.drawn ?_ | refine WpL.cons rfl rfl (WpX.pure (fun _ => rfl) ⟨nolog, ?_⟩) | refine WpL.cons rfl rfl (op_load rfl rfl rfl hobj2 rfl ⟨(by simp [InL, Acc.name, rowName] <;> omega), ?_⟩) | refine WpL.cons rfl rfl (op_load rfl rfl rfl hg2 hn1 ⟨(by simp [InL, Acc.name, rowName] <;> omega), ?_⟩) | refine WpL.cons rfl rfl (op_store (k := 1) rfl rfl rfl rfl hobj2 (Nat.le_of_ble_eq_true rfl) rfl ⟨(by simp [InL, Acc.name, rowName] <;> omega), ?_⟩))
      refine WpL.nil (logsOk_of (cs := [0, 1, 3, 7, 0, 16, 48, 112, 255, 511, 1023, 2047]) (by decide +kernel) ?_) ?_
      · simp +contextual [allP, apP, Dis, acc_rd, acc_wr, accw_rd, accw_wr, Nat.testBit, hps]
      repeat' (first | refine WpC.seq ?_ | refine WpC.region ?_ | refine WpC.ret ?_ | refine WpO.nil ?_ | refine WpO.cons rfl rfl (WpX.pure (fun _ => rfl) ⟨nolog, ?_⟩))
      refine out_ret rfl ⟨rfl, .inl ⟨i, _, rfl, hz, hne, rfl, ?_⟩⟩
      simp only [heq, if_true]
      simp only [heq] at r2
      exact r2.setLive
    · have hne2 : IntKind.i64.wrap (q2 - 1) ≠ 0 := by simpa using hne2
      repeat' (first | refine WpC.seq ?_ | refine WpC.region ?_ | refine WpC.skip ?_ | refine WpC.ret ?_ | refine WpO.nil ?_ | refine WpO.cons rfl rfl (WpX.pure (fun _ => rfl) ⟨nolog, ?_⟩))
      refine out_ret rfl ⟨rfl, .inl ⟨i, _, rfl, hz, hne, rfl, ?_⟩⟩
      simp only [if_neg hne2]
      exact r2
  ·
    repeat' (first | refine WpC.seq ?_ | refine WpC.region ?_ | refine WpO.nil ?_ | refine WpO.cons rfl rfl (WpX.pure (fun _ => rfl) ⟨nolog, ?_⟩) | refine seqQ_normal ?_)
    refine WpC.cond rfl (fun _ => ?_) (fun hb => by cases hb)
    repeat' (first | refine WpC.seq ?_ | refine WpC.region ?_ | refine WpC.ret ?_ | refine WpO.nil ?_ | refine WpO.cons rfl rfl (WpX.pure (fun _ => rfl) ⟨nolog, ?_⟩) | refine seqQ_ret ?_)
    exact out_ret rfl ⟨rfl, .inr ⟨hno, rfl, rfl⟩⟩
end Go.Proofs.Ytcenbfjhhaialaa


set_option linter.unusedVariables false
set_option linter.unusedSectionVars false
set_option linter.unusedSimpArgs false
set_option linter.unnecessarySimpa false
namespace Go.Proofs.Ytcenbfjhhaialaa
open Go.Ab
set_option maxRecDepth 10000

section
variable {e : EE} {h : HH} {c : Nat} {ds : Option Tmp} {ty : Nat} {pos : String} {af : Array Edge} {gd : Option (Nat × Bool)} {W : V → HH → Nat → List Acc → Prop} {call : Nat → Tgt → List V → M HH V}
theorem op_conv {s d : Nat} {x : Operand} {k k' : IntKind} {n : Int} {v : V} (hx : ev1 cx e x = some (.int k n)) (hs : cx.desc s = some (.int k)) (hd : cx.desc d = some (.int k')) (hv : V.int k' (k'.wrap n) = v) (q : W v h c []) :
    WpX (fun k => opM cx (call k) e ⟨ds, .convert s d x, ty, pos, af, gd⟩) h c W :=
  WpX.pure (fun k'' => by subst hv; simp only [opM, hx, lift, bnd, Ab.ret, convertM, hs, hd, List.nil_append, List.append_nil]) q
end
/-- A word as a value. -/
abbrev U (w : Int) : V := .int .u64 w

theorem val_ok {h : HH} {c : Nat} {w : Int} (hw : okW w) : Does 27 [U w] h c [] fun v h' c' => v = I (valW w) ∧ h = h' ∧ c = c' := by
  unfold okW at hw
  refine does_of (enter (fn := Try.f27) Try.func27 rfl rfl (Nat.le_of_ble_eq_true rfl) ?_)
  have hv : V.int .i64 (IntKind.i64.wrap w) = I (if w < 9223372036854775808 then w else w - 18446744073709551616) := by
    rw [wrap64]
    congr 1
    split <;> split <;> omega
  repeat' (first | refine WpO.cons rfl rfl (op_conv rfl rfl rfl hv ⟨nolog, ?_⟩) | refine WpC.seq ?_ | refine WpC.region ?_ | refine WpC.ret ?_ | refine WpO.nil ?_ | refine WpO.cons rfl rfl (WpX.pure (fun _ => rfl) ⟨nolog, ?_⟩))
  refine out_ret rfl ⟨?_, rfl, rfl⟩
  show V.int .i64 (Int.fdiv _ 16) = _
  rw [Int.fdiv_eq_ediv_of_nonneg _ (by decide)]
  unfold valW
  congr 1
  split <;> omega

theorem tag_ok {h : HH} {c : Nat} {w : Int} (hw : okW w) : Does 40 [U w] h c [] fun v h' c' => v = I (tagW w) ∧ h = h' ∧ c = c' := by
  have hr := tag_range w
  unfold okW at hw
  have hb : IntKind.u64.wrap ((BitVec.ofInt 64 w &&& BitVec.ofInt 64 15).toNat : Int) = tagW w := by
    rw [and_nat (k := 4) hw.1 (by simpa using hw.2) (by decide) (by decide), wrapU]
    unfold tagW
    show w % 16 % _ = _
    omega
  have hv : V.int .i64 (IntKind.i64.wrap (IntKind.u64.wrap ((BitVec.ofInt 64 w &&& BitVec.ofInt 64 15).toNat : Int))) = I (tagW w) := by
    rw [hb, Go.IntWalk.i64_in _ (by omega)]
  refine does_of (enter (fn := Try.f40) Try.func40 rfl rfl (Nat.le_of_ble_eq_true rfl) ?_)
  repeat' (first | refine WpO.cons rfl rfl (op_conv rfl rfl rfl hv ⟨nolog, ?_⟩) | refine WpC.seq ?_ | refine WpC.region ?_ | refine WpC.ret ?_ | refine WpO.nil ?_ | refine WpO.cons rfl rfl (WpX.pure (fun _ => rfl) ⟨nolog, ?_⟩))
  exact out_ret rfl ⟨rfl, rfl, rfl⟩

theorem none_ok {h : HH} {c : Nat} : Does 50 [] h c [] fun v h' c' => v = U 4 ∧ h = h' ∧ c = c' := by
  refine does_of (enter (fn := Try.f50) Try.func50 rfl rfl (Nat.le_of_ble_eq_true rfl) ?_)
  repeat' (first | refine WpC.seq ?_ | refine WpC.region ?_ | refine WpC.ret ?_ | refine WpO.nil ?_ | refine WpO.cons rfl rfl (WpX.pure (fun _ => rfl) ⟨nolog, ?_⟩))
  exact out_ret rfl ⟨rfl, rfl, rfl⟩

theorem fits_ok {h : HH} {c : Nat} {n : Int} (hn : fitsW n) : Does 51 [I n] h c [] fun v h' c' => v = .bool true ∧ h = h' ∧ c = c' := by
  unfold fitsW at hn
  have e1 : decide (n ≥ -576460752303423488) = true := by simpa using hn.1
  have e2 : decide (n ≤ 576460752303423487) = true := by simpa using hn.2
  refine does_of (enter (fn := Try.f51) Try.func51 rfl rfl (Nat.le_of_ble_eq_true rfl) ?_)
  repeat' (first | refine WpC.seq ?_ | refine WpC.region ?_ | refine WpO.nil ?_ | refine WpO.cons rfl rfl (WpX.pure (fun _ => rfl) ⟨nolog, ?_⟩))
  simp only [e1]
  repeat' (first | refine WpC.ret ?_ | refine WpO.nil ?_ | refine WpO.cons rfl rfl (WpX.pure (fun _ => rfl) ⟨nolog, ?_⟩))
  refine out_ret rfl ⟨?_, rfl, rfl⟩
  show V.bool (decide (n ≤ 576460752303423487)) = _
  rw [e2]

/-- Of, of a tag that is one and a value that fits. -/
theorem of_word_ok {h : HH} {c : Nat} {t n : Int} (ht : 0 ≤ t ∧ t ≤ 7) (hn : fitsW n) : Does 42 [I t, I n] h c [] fun v h' c' => v = U (ofW t n) ∧ h = h' ∧ c = c' := by
  have e1 : decide (t < 0) = false := by simp; omega
  have e2 : decide (t > 7) = false := by simp; omega
  refine does_of (enter (fn := Try.f42) Try.func42 rfl rfl (Nat.le_of_ble_eq_true rfl) ?_)
  have hv1 : V.int .u64 (IntKind.u64.wrap n) = U (n % 18446744073709551616) := by rw [wrapU]
  have hv2 : V.int .u64 (IntKind.u64.wrap t) = U t := by rw [wrapU]; congr 1; omega
  repeat' (first | refine WpC.seq ?_ | refine WpC.region ?_ | refine WpO.nil ?_ | refine WpO.cons rfl rfl (WpX.pure (fun _ => rfl) ⟨nolog, ?_⟩))
  simp only [e1]
  repeat' (first | refine WpO.cons rfl rfl (WpX.pure (fun _ => rfl) ⟨nolog, ?_⟩))
  simp only [e2]
  repeat' (first | refine WpO.cons rfl rfl (WpX.pure (fun _ => rfl) ⟨nolog, ?_⟩))
  refine WpO.cons rfl rfl (call_at rfl (fits_ok hn) (fun x hx => by cases hx) (Nat.le_refl _) fun v h4 c4 hc4 hfr4 hq => ?_)
  obtain ⟨rfl, rfl, rfl⟩ := hq
  repeat' (first | refine WpO.nil ?_ | refine WpO.cons rfl rfl (WpX.pure (fun _ => rfl) ⟨nolog, ?_⟩) | refine seqQ_normal ?_)
  refine WpC.cond rfl (fun hb => by cases hb) (fun _ => ?_)
  repeat' (first | refine WpO.cons rfl rfl (op_conv rfl rfl rfl hv2 ⟨nolog, ?_⟩) | refine WpO.cons rfl rfl (op_conv rfl rfl rfl hv1 ⟨nolog, ?_⟩) | refine WpC.seq ?_ | refine WpC.region ?_ | refine WpC.skip ?_ | refine WpC.ret ?_ | refine WpO.nil ?_ | refine WpO.cons rfl rfl (WpX.pure (fun _ => rfl) ⟨nolog, ?_⟩))
  refine out_ret rfl ⟨?_, rfl, rfl⟩
  show V.int .u64 (IntKind.u64.wrap ((BitVec.ofInt 64 (IntKind.u64.wrap (n % 18446744073709551616 * 2 ^ 4)) ||| BitVec.ofInt 64 t).toNat : Int)) = _
  have hx : IntKind.u64.wrap (n % 18446744073709551616 * 2 ^ 4) = 2 ^ 4 * (n % 1152921504606846976) := by rw [wrapU]; omega
  rw [or_nat (k := 4) hx (by omega) ht.1 (by omega) (by rw [hx]; omega) (by decide), hx, wrapU]
  unfold ofW
  congr 1
  omega
end Go.Proofs.Ytcenbfjhhaialaa


set_option linter.unusedVariables false
set_option linter.unusedSectionVars false
set_option linter.unusedSimpArgs false
set_option linter.unnecessarySimpa false
namespace Go.Proofs.Ytcenbfjhhaialaa
open Go.Ab
set_option maxRecDepth 10000

theorem within_ok {h : HH} {c : Nat} {n : Int} (hn : 0 ≤ n ∧ n < 1048576) : Does 49 [I n, I 20] h c [] fun v h' c' => v = .bool true ∧ h = h' ∧ c = c' := by
  have e1 : decide (n ≥ 0) = true := by simpa using hn.1
  have e2 : decide (n < 1048576) = true := by simpa using hn.2
  refine does_of (enter (fn := Try.f49) Try.func49 rfl rfl (Nat.le_of_ble_eq_true rfl) ?_)
  repeat' (first | refine WpC.seq ?_ | refine WpC.region ?_ | refine WpO.nil ?_ | refine WpO.cons rfl rfl (WpX.pure (fun _ => rfl) ⟨nolog, ?_⟩))
  simp only [e1]
  repeat' (first | refine WpC.ret ?_ | refine WpO.nil ?_ | refine WpO.cons rfl rfl (WpX.pure (fun _ => rfl) ⟨nolog, ?_⟩))
  refine out_ret rfl ⟨?_, rfl, rfl⟩
  show V.bool (decide (n < 1048576)) = _
  rw [e2]

/-- A header as cells. -/
def hdV (x : Hd) : List V := [I x.kind, I x.size, I x.tree, .bool x.neg]
theorem fieldsH_ok {h : HH} {c : Nat} {x : Hd} : Does 62 [.agg (hdV x)] h c [] fun v h' c' => v = I (fieldsH x) := by
  have hg : MapI.get (MapI.set h c (.cells true true (hdV x))) c = some (.cells true true (hdV x)) := MapI.get_same _ _ _
  refine does_of (enter (fn := Try.f62) Try.func62 rfl rfl (Nat.le_of_ble_eq_true rfl) ?_)
  unfold fieldsH
  by_cases h0 : x.kind = 0
  · have e0 : (x.kind == 0) = true := by simp [h0]
    repeat' (first | refine WpC.seq ?_ | refine WpC.region ?_ | refine WpC.block ?_ | refine WpO.nil ?_ | refine WpO.cons rfl rfl (WpX.pure (fun _ => rfl) ⟨nolog, ?_⟩) | refine seqQ_normal ?_ | refine WpO.cons rfl rfl (op_box rfl ⟨(by simp [InL, Acc.name, rowName] <;> omega), ?_⟩) | refine WpO.cons rfl rfl (op_load rfl rfl rfl hg rfl ⟨(by simp [InL, Acc.name, rowName] <;> omega), ?_⟩))
    refine WpC.cond rfl (fun _ => ?_) (fun hb => by rw [e0] at hb; cases hb)
    repeat' (first | refine WpC.seq ?_ | refine WpC.region ?_ | refine WpC.ret ?_ | refine WpO.nil ?_ | refine WpO.cons rfl rfl (WpX.pure (fun _ => rfl) ⟨nolog, ?_⟩) | refine seqQ_ret ?_ | refine blkQ_ret ?_)
    rw [if_pos h0]
    exact out_ret rfl rfl
  have e0 : (x.kind == 0) = false := beq_eq_false_iff_ne.2 h0
  by_cases h1 : x.kind = 1
  · have e1 : (x.kind == 1) = true := by simp [h1]
    repeat' (first | refine WpC.seq ?_ | refine WpC.region ?_ | refine WpC.block ?_ | refine WpO.nil ?_ | refine WpO.cons rfl rfl (WpX.pure (fun _ => rfl) ⟨nolog, ?_⟩) | refine seqQ_normal ?_ | refine WpO.cons rfl rfl (op_box rfl ⟨(by simp [InL, Acc.name, rowName] <;> omega), ?_⟩) | refine WpO.cons rfl rfl (op_load rfl rfl rfl hg rfl ⟨(by simp [InL, Acc.name, rowName] <;> omega), ?_⟩))
    refine WpC.cond rfl (fun hb => by rw [e0] at hb; cases hb) (fun _ => ?_)
    repeat' (first | refine WpC.seq ?_ | refine WpC.region ?_ | refine WpO.nil ?_ | refine WpO.cons rfl rfl (WpX.pure (fun _ => rfl) ⟨nolog, ?_⟩) | refine seqQ_normal ?_)
    refine WpC.cond rfl (fun _ => ?_) (fun hb => by rw [e1] at hb; cases hb)
    repeat' (first | refine WpC.seq ?_ | refine WpC.region ?_ | refine WpC.ret ?_ | refine WpO.nil ?_ | refine WpO.cons rfl rfl (WpX.pure (fun _ => rfl) ⟨nolog, ?_⟩) | refine seqQ_ret ?_ | refine blkQ_ret ?_ | refine WpO.cons rfl rfl (op_load rfl rfl rfl hg rfl ⟨(by simp [InL, Acc.name, rowName] <;> omega), ?_⟩))
    rw [if_neg h0, if_pos h1]
    exact out_ret rfl rfl
  have e1 : (x.kind == 1) = false := beq_eq_false_iff_ne.2 h1
  repeat' (first | refine WpC.seq ?_ | refine WpC.region ?_ | refine WpC.block ?_ | refine WpO.nil ?_ | refine WpO.cons rfl rfl (WpX.pure (fun _ => rfl) ⟨nolog, ?_⟩) | refine seqQ_normal ?_ | refine WpO.cons rfl rfl (op_box rfl ⟨(by simp [InL, Acc.name, rowName] <;> omega), ?_⟩) | refine WpO.cons rfl rfl (op_load rfl rfl rfl hg rfl ⟨(by simp [InL, Acc.name, rowName] <;> omega), ?_⟩))
  refine WpC.cond rfl (fun hb => by rw [e0] at hb; cases hb) (fun _ => ?_)
  repeat' (first | refine WpC.seq ?_ | refine WpC.region ?_ | refine WpO.nil ?_ | refine WpO.cons rfl rfl (WpX.pure (fun _ => rfl) ⟨nolog, ?_⟩) | refine seqQ_normal ?_)
  refine WpC.cond rfl (fun hb => by rw [e1] at hb; cases hb) (fun _ => ?_)
  repeat' (first | refine WpC.seq ?_ | refine WpC.region ?_ | refine WpC.skip ?_ | refine WpC.ret ?_ | refine WpO.nil ?_ | refine WpO.cons rfl rfl (WpX.pure (fun _ => rfl) ⟨nolog, ?_⟩))
  rw [if_neg h0, if_neg h1]
  exact out_ret rfl rfl
end Go.Proofs.Ytcenbfjhhaialaa


set_option linter.unusedVariables false
set_option linter.unusedSectionVars false
set_option linter.unusedSimpArgs false
set_option linter.unnecessarySimpa false
namespace Go.Proofs.Ytcenbfjhhaialaa
open Go.Ab
set_option maxRecDepth 10000

theorem or4 {m : Nat} (h : m % 8 < 4) : m ||| 4 = m + 4 := by
  have e : m = 2 ^ 3 * (m / 8) + m % 8 := by omega
  have h1 : m % 8 ||| 4 = m % 8 + 4 := by
    have : ∀ r, r < 4 → r ||| 4 = r + 4 := by decide
    exact this _ h
  have h2 : 2 ^ 3 * (m / 8) ||| m % 8 = m := by rw [or_add (by omega)]; exact e.symm
  have h3 : 2 ^ 3 * (m / 8) ||| (m % 8 + 4) = 2 ^ 3 * (m / 8) + (m % 8 + 4) := or_add (by omega)
  calc m ||| 4 = (2 ^ 3 * (m / 8) ||| m % 8) ||| 4 := by rw [h2]
    _ = 2 ^ 3 * (m / 8) ||| (m % 8 ||| 4) := Nat.or_assoc _ _ _
    _ = 2 ^ 3 * (m / 8) + (m % 8 + 4) := by rw [h1, h3]
    _ = m + 4 := by omega
theorem or4_int {x : Int} (h0 : 0 ≤ x) (h1 : x < 9223372036854775808) (h : x % 8 < 4) : ((BitVec.ofInt 64 x ||| BitVec.ofInt 64 4).toNat : Int) = x + 4 := by
  rw [BitVec.toNat_or, ofInt_nat h0 (by omega), ofInt_nat (by decide) (by decide)]
  have : x.toNat ||| (4 : Int).toNat = x.toNat + 4 := or4 (m := x.toNat) (by omega)
  rw [this]; omega
theorem or_nat' {b k : Nat} {x a t : Int} (hx : x = 2 ^ k * a) (ha : 0 ≤ a) (ht0 : 0 ≤ t) (ht : t < 2 ^ k) (h : x < 2 ^ b) (hb : (2 : Int) ^ k ≤ 2 ^ b) : ((BitVec.ofInt b t ||| BitVec.ofInt b x).toNat : Int) = x + t := by
  rw [BitVec.or_comm]; exact or_nat hx ha ht0 ht h hb


section
variable {e : EE} {h : HH} {c : Nat} {ds : Option Tmp} {ty : Nat} {pos : String} {af : Array Edge} {gd : Option (Nat × Bool)} {W : V → HH → Nat → List Acc → Prop} {call : Nat → Tgt → List V → M HH V}
theorem op_or {t tt : Nat} {x y : Operand} {k : IntKind} {a b z : Int} (hx : ev1 cx e x = some (.int k a)) (hy : ev1 cx e y = some (.int k b)) (hv : k.wrap ((BitVec.ofInt k.bits a ||| BitVec.ofInt k.bits b).toNat : Int) = z) (q : W (.int k z) h c []) :
    WpX (fun n => opM cx (call n) e ⟨ds, .binOp .or t x y tt, ty, pos, af, gd⟩) h c W :=
  WpX.pure (fun n => by subst hv; simp only [opM, hx, hy, lift, bnd, Ab.ret, binM, if_true, intBin, List.nil_append, List.append_nil]) q
theorem op_and {t tt : Nat} {x y : Operand} {k : IntKind} {a b z : Int} (hx : ev1 cx e x = some (.int k a)) (hy : ev1 cx e y = some (.int k b)) (hv : k.wrap ((BitVec.ofInt k.bits a &&& BitVec.ofInt k.bits b).toNat : Int) = z) (q : W (.int k z) h c []) :
    WpX (fun n => opM cx (call n) e ⟨ds, .binOp .and t x y tt, ty, pos, af, gd⟩) h c W :=
  WpX.pure (fun n => by subst hv; simp only [opM, hx, hy, lift, bnd, Ab.ret, binM, if_true, intBin, List.nil_append, List.append_nil]) q
theorem op_shl {t tt : Nat} {x y : Operand} {k k' : IntKind} {a b z : Int} (hx : ev1 cx e x = some (.int k a)) (hy : ev1 cx e y = some (.int k' b)) (h0 : 0 ≤ b) (hv : k.wrap (a * 2 ^ (min b.toNat k.bits)) = z) (q : W (.int k z) h c []) :
    WpX (fun n => opM cx (call n) e ⟨ds, .binOp .shl t x y tt, ty, pos, af, gd⟩) h c W :=
  WpX.pure (fun n => by subst hv; simp only [opM, hx, hy, lift, bnd, Ab.ret, binM, shiftBin, if_neg (by omega : ¬ b < 0), List.nil_append, List.append_nil]) q
theorem op_shr {t tt : Nat} {x y : Operand} {k k' : IntKind} {a b z : Int} (hx : ev1 cx e x = some (.int k a)) (hy : ev1 cx e y = some (.int k' b)) (h0 : 0 ≤ b) (hv : a.fdiv (2 ^ (min b.toNat k.bits)) = z) (q : W (.int k z) h c []) :
    WpX (fun n => opM cx (call n) e ⟨ds, .binOp .shr t x y tt, ty, pos, af, gd⟩) h c W :=
  WpX.pure (fun n => by subst hv; simp only [opM, hx, hy, lift, bnd, Ab.ret, binM, shiftBin, if_neg (by omega : ¬ b < 0), List.nil_append, List.append_nil]) q
end

theorem make_ok {h : HH} {c : Nat} {x : Hd} (hx : okH x) : Does 39 [.agg (hdV x)] h c [] fun v h' c' => v = U (makeW x) := by
  have hg : MapI.get (MapI.set h c (.cells true true (hdV x))) c = some (.cells true true (hdV x)) := MapI.get_same _ _ _
  have hl := numH_lt hx
  obtain ⟨k, s, t, n⟩ := x
  unfold okH at hx
  simp only at hx
  have e1 : decide (k < 0) = false := by simp; omega
  have e2 : decide (k > 3) = false := by simp; omega
  have w1 : IntKind.i64.wrap (s * 2 ^ (min (3 : Int).toNat IntKind.i64.bits)) = s * 8 := by rw [show (2 : Int) ^ (min (3 : Int).toNat IntKind.i64.bits) = 8 from rfl, Go.IntWalk.i64_in _ (by omega)]
  have w2 : IntKind.i64.wrap (t * 2 ^ (min (23 : Int).toNat IntKind.i64.bits)) = t * 8388608 := by rw [show (2 : Int) ^ (min (23 : Int).toNat IntKind.i64.bits) = 8388608 from rfl, Go.IntWalk.i64_in _ (by omega)]
  have q1 : IntKind.i64.wrap ((BitVec.ofInt IntKind.i64.bits k ||| BitVec.ofInt IntKind.i64.bits (s * 8)).toNat : Int) = k + s * 8 := by
    rw [or_nat' (b := IntKind.i64.bits) (k := 3) (a := s) (by omega) (by omega) (by omega) (by omega) (by show s * 8 < 2 ^ 64; omega) (by decide), Go.IntWalk.i64_in _ (by omega)]; omega
  have q2 : IntKind.i64.wrap ((BitVec.ofInt IntKind.i64.bits (k + s * 8) ||| BitVec.ofInt IntKind.i64.bits (t * 8388608)).toNat : Int) = k + s * 8 + t * 8388608 := by
    rw [or_nat' (b := IntKind.i64.bits) (k := 23) (a := t) (by omega) (by omega) (by omega) (by omega) (by show t * 8388608 < 2 ^ 64; omega) (by decide), Go.IntWalk.i64_in _ (by omega)]; omega
  have q3 : IntKind.i64.wrap ((BitVec.ofInt IntKind.i64.bits (k + s * 8 + t * 8388608) ||| BitVec.ofInt IntKind.i64.bits 4).toNat : Int) = k + s * 8 + t * 8388608 + 4 := by
    show IntKind.i64.wrap ((BitVec.ofInt 64 _ ||| BitVec.ofInt 64 4).toNat : Int) = _
    rw [or4_int (by omega) (by omega) (by omega), Go.IntWalk.i64_in _ (by omega)]
  refine does_of (enter (fn := Try.f39) Try.func39 rfl rfl (Nat.le_of_ble_eq_true rfl) ?_)
  repeat' (first | refine WpC.seq ?_ | refine WpC.region ?_ | refine WpO.nil ?_ | refine WpO.cons rfl rfl (WpX.pure (fun _ => rfl) ⟨nolog, ?_⟩) | refine WpO.cons rfl rfl (op_box rfl ⟨(by simp [InL, Acc.name, rowName] <;> omega), ?_⟩) | refine WpO.cons rfl rfl (op_load rfl rfl rfl hg rfl ⟨(by simp [InL, Acc.name, rowName] <;> omega), ?_⟩))
  simp only [e1]
  repeat' (first | refine WpO.cons rfl rfl (WpX.pure (fun _ => rfl) ⟨nolog, ?_⟩) | refine WpO.cons rfl rfl (op_load rfl rfl rfl hg rfl ⟨(by simp [InL, Acc.name, rowName] <;> omega), ?_⟩))
  simp only [e2]
  repeat' (first | refine WpO.cons rfl rfl (WpX.pure (fun _ => rfl) ⟨nolog, ?_⟩) | refine WpO.cons rfl rfl (op_load rfl rfl rfl hg rfl ⟨(by simp [InL, Acc.name, rowName] <;> omega), ?_⟩))
  refine WpO.cons rfl rfl (call_at rfl (within_ok ⟨hx.2.2.1, hx.2.2.2.1⟩) (fun x hx => by cases hx) (by omega) fun v h4 c4 hc4 hfr4 hq => ?_)
  obtain ⟨rfl, rfl, rfl⟩ := hq
  repeat' (first | refine WpO.cons rfl rfl (WpX.pure (fun _ => rfl) ⟨nolog, ?_⟩) | refine WpO.cons rfl rfl (op_load rfl rfl rfl hg rfl ⟨(by simp [InL, Acc.name, rowName] <;> omega), ?_⟩))
  refine WpO.cons rfl rfl (call_at rfl (within_ok ⟨hx.2.2.2.2.1, hx.2.2.2.2.2⟩) (fun x hx => by cases hx) (by omega) fun v h4 c4 hc4 hfr4 hq => ?_)
  obtain ⟨rfl, rfl, rfl⟩ := hq
  repeat' (first | refine WpO.nil ?_ | refine WpO.cons rfl rfl (WpX.pure (fun _ => rfl) ⟨nolog, ?_⟩) | refine seqQ_normal ?_)
  refine WpC.cond rfl (fun hb => by cases hb) (fun _ => ?_)
  repeat' (first | refine WpO.cons rfl rfl (op_or rfl rfl q2 ⟨nolog, ?_⟩) | refine WpO.cons rfl rfl (op_or rfl rfl q1 ⟨nolog, ?_⟩) | refine WpO.cons rfl rfl (op_shl rfl rfl (by decide) w2 ⟨nolog, ?_⟩) | refine WpO.cons rfl rfl (op_shl rfl rfl (by decide) w1 ⟨nolog, ?_⟩) | refine WpC.seq ?_ | refine WpC.region ?_ | refine WpC.skip ?_ | refine WpO.nil ?_ | refine WpO.cons rfl rfl (WpX.pure (fun _ => rfl) ⟨nolog, ?_⟩) | refine seqQ_normal ?_ | refine WpO.cons rfl rfl (op_load rfl rfl rfl hg rfl ⟨(by simp [InL, Acc.name, rowName] <;> omega), ?_⟩))
  refine WpC.cond rfl (fun hb => ?_) (fun hb => ?_)
  · have hb : n = true := by simpa using hb
    subst hb
    repeat' (first | refine WpO.cons rfl rfl (op_or rfl rfl q3 ⟨nolog, ?_⟩) | refine WpC.seq ?_ | refine WpC.region ?_ | refine WpO.nil ?_ | refine WpO.cons rfl rfl (WpX.pure (fun _ => rfl) ⟨nolog, ?_⟩))
    refine WpO.cons rfl rfl (call_at rfl (of_word_ok (by decide) (by unfold fitsW; omega)) (fun x hx => by cases hx) (by omega) fun v h4 c4 hc4 hfr4 hq => ?_)
    obtain ⟨rfl, rfl, rfl⟩ := hq
    repeat' (first | refine WpC.ret ?_ | refine WpO.nil ?_ | refine WpO.cons rfl rfl (WpX.pure (fun _ => rfl) ⟨nolog, ?_⟩))
    refine out_ret rfl ?_
    unfold makeW numH
    simp only [if_true]
    rw [show k + s * 8 + t * 8388608 + 4 = k + 4 + s * 8 + t * 8388608 from by omega]; rfl
  · have hb : n = false := by simpa using hb
    subst hb
    repeat' (first | refine WpC.seq ?_ | refine WpC.region ?_ | refine WpC.skip ?_ | refine WpO.cons rfl rfl (WpX.pure (fun _ => rfl) ⟨nolog, ?_⟩))
    refine WpO.cons rfl rfl (call_at rfl (of_word_ok (by decide) (by unfold fitsW; omega)) (fun x hx => by cases hx) (by omega) fun v h4 c4 hc4 hfr4 hq => ?_)
    obtain ⟨rfl, rfl, rfl⟩ := hq
    repeat' (first | refine WpC.ret ?_ | refine WpO.nil ?_ | refine WpO.cons rfl rfl (WpX.pure (fun _ => rfl) ⟨nolog, ?_⟩))
    refine out_ret rfl ?_
    unfold makeW numH
    simp only [Bool.false_eq_true, if_false, Int.add_zero]; rfl
end Go.Proofs.Ytcenbfjhhaialaa
