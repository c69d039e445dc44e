/- Contracts with footprints; maps of ints. -/
import Derived.Test.YtcenbfjhhaialaaAdS
set_option linter.unusedVariables false
set_option linter.unusedSectionVars false
set_option linter.unusedSimpArgs false
set_option linter.unnecessarySimpa false
namespace Go.Proofs.Ytcenbfjhhaialaa
open Go.Ab

/-- The name of a slice's row. -/
def rowName (v : V) : List Nat :=
  match v with
  | .slice (some (s, _)) _ _ => [s]
  | _ => []
/-- A call that touches the names of the list and new ones alone. -/
def Does (f : Nat) (xs : List V) (h : HH) (c : Nat) (ns : List Nat) (Q : V → HH → Nat → Prop) : Prop :=
  WpX (cl f xs) h c fun v h' c' l => (∀ x ∈ l, InL ns c x) ∧ c ≤ c' ∧ (∀ n, n < c → n ∉ ns → MapI.get h' n = MapI.get h n) ∧ Q v h' c'
theorem local_cl {f : Nat} {xs : List V} {n : Nat} : Local (cl f xs n) := Local.evFn fun f m call xs hm hc => seatPrims_local hm
theorem does_of {f : Nat} {xs : List V} {h : HH} {c : Nat} {ns : List Nat} {Q : V → HH → Nat → Prop} (w : WpX (cl f xs) h c fun v h' c' l => (∀ x ∈ l, InL ns c x) ∧ Q v h' c') : Does f xs h c ns Q := by
  obtain ⟨a, h', c', l, ⟨hl, q⟩, k, hk⟩ := w
  have hloc := local_cl _ _ _ _ _ _ (hk k (Nat.le_refl _))
  refine ⟨a, h', c', l, ⟨hl, hloc.1, fun n hn hns => hloc.2.1 n fun x hx e => ?_, q⟩, k, hk⟩
  have := hl x hx
  unfold InL at this
  rw [e] at this
  rcases this with h | h
  · exact absurd h hns
  · omega
/-- A function without parameters of the seat's list. -/
theorem shut_ok {f : Nat} (hf : (shutFns.contains f && ((findF f sortFns).isNone && (findF f cmpFns).isNone)) = true) {h : HH} {c : Nat} : Does f [] h c [] fun v h' c' => v = .bool true ∧ h' = h ∧ c' = c :=
  does_of ((seatShut_wp (E := EE) (cx := cx) hf).mono fun v h' c' al ⟨e, q⟩ => ⟨fun x hx => (by rw [e] at hx; cases hx), q⟩)
theorem Does.mono {f : Nat} {xs : List V} {h : HH} {c : Nat} {ns : List Nat} {Q R : V → HH → Nat → Prop} (w : Does f xs h c ns Q) (hq : ∀ v h' c', c ≤ c' → (∀ n, n < c → n ∉ ns → MapI.get h' n = MapI.get h n) → Q v h' c' → R v h' c') : Does f xs h c ns R :=
  WpX.mono w fun v h' c' l ⟨a, b, d, q⟩ => ⟨a, b, d, hq v h' c' b d q⟩
theorem inL_sub {ns ms : List Nat} {c c0 : Nat} (h1 : ∀ n ∈ ns, n ∈ ms ∨ c0 ≤ n) (h2 : c0 ≤ c) {x : Acc} (h : InL ns c x) : InL ms c0 x := by
  rcases h with h | h
  · exact h1 _ h
  · exact .inr (by omega)
/-- At a call: by its contract. -/
theorem call_at {f : Nat} {args : Array Operand} {ats : Array Nat} {xs : List V} {e : EE} {h : HH} {c c0 : Nat} {ns ms : List Nat} {Q : V → HH → Nat → Prop} {K : V → HH → Nat → Prop} {ds : Option Tmp} {ty : Nat} {pos : String} {af : Array Edge} {gd : Option (Nat × Bool)}
    (ha : evs cx e args.toList = some xs) (w : Does f xs h c ns Q) (h1 : ∀ n ∈ ns, n ∈ ms ∨ c0 ≤ n) (h2 : c0 ≤ c)
    (k : ∀ v h' c', c ≤ c' → (∀ n, n < c → n ∉ ns → MapI.get h' n = MapI.get h n) → Q v h' c' → K v h' c') :
    WpX (fun n => opM cx (evFn EE cx pr n) e ⟨ds, .call ⟨.value (.func f), args, ats⟩, ty, pos, af, gd⟩) h c fun v h' c' al => (∀ x ∈ al, InL ms c0 x) ∧ K v h' c' :=
  op_call (call := fun n => evFn EE cx pr n) ha (WpX.mono w fun v h' c' l ⟨a, b, d, q⟩ => ⟨fun x hx => inL_sub h1 h2 (a x hx), k v h' c' b d q⟩)

/-- At a call in a drawn region: what it touched is kept. -/
theorem call_atL {f : Nat} {args : Array Operand} {ats : Array Nat} {xs : List V} {e : EE} {h : HH} {c c0 : Nat} {ns ms : List Nat} {Q : V → HH → Nat → Prop} {K : V → HH → Nat → List Acc → Prop} {ds : Option Tmp} {ty : Nat} {pos : String} {af : Array Edge} {gd : Option (Nat × Bool)}
    (ha : evs cx e args.toList = some xs) (w : Does f xs h c ns Q) (h1 : ∀ n ∈ ns, n ∈ ms ∨ c0 ≤ n) (h2 : c0 ≤ c)
    (k : ∀ v h' c' al, (∀ x ∈ al, InL ns c x) → c ≤ c' → (∀ n, n < c → n ∉ ns → MapI.get h' n = MapI.get h n) → Q v h' c' → K v h' c' al) :
    WpX (fun n => opM cx (evFn EE cx pr n) e ⟨ds, .call ⟨.value (.func f), args, ats⟩, ty, pos, af, gd⟩) h c fun v h' c' al => (∀ x ∈ al, InL ms c0 x) ∧ K v h' c' al :=
  op_call (call := fun n => evFn EE cx pr n) ha (WpX.mono w fun v h' c' l ⟨a, b, d, q⟩ => ⟨fun x hx => inL_sub h1 h2 (a x hx), k v h' c' l a b d q⟩)

/-! ## Maps from int to int -/

abbrev I (n : Int) : V := .int .i64 n
def era (k : Int) : List (Int × Int) → List (Int × Int)
  | [] => []
  | (q, v) :: m => if q = k then m else (q, v) :: era k m
structure MapEs (es : List (V × V × Nat)) (ck : Nat) (m : List (Int × Int)) : Prop where
  eq : es.map (fun x => (x.1, x.2.1)) = m.map fun kv => (I kv.1, I kv.2)
  lt : ∀ x ∈ es, x.2.2 < ck
theorem MapEs.nil (ck : Nat) : MapEs [] ck [] := ⟨rfl, fun x hx => by cases hx⟩
theorem MapEs.length {es : List (V × V × Nat)} {ck : Nat} {m : List (Int × Int)} (r : MapEs es ck m) : es.length = m.length := by
  have := congrArg List.length r.eq
  simpa using this
theorem MapEs.add {es : List (V × V × Nat)} {ck : Nat} {m : List (Int × Int)} (r : MapEs es ck m) (k v : Int) : MapEs (es ++ [(I k, I v, ck)]) (ck + 1) (m ++ [(k, v)]) :=
  ⟨by simp [r.eq], fun x hx => by
    rcases List.mem_append.1 hx with h | h
    · have := r.lt x h; omega
    · simp at h; subst h; exact Nat.lt_succ_self _⟩
/-- What a look-up finds. -/
inductive Found (es : List (V × V × Nat)) (ck : Nat) (m : List (Int × Int)) (k : Int) : Option (Nat × V × Nat) → Option Int → Prop where
  | no : Found es ck m k none none
  | yes {i : Nat} {v : Int} {b : Nat} : MapEs (delNth es i) ck (era k m) → Found es ck m k (some (i, I v, b)) (some v)
theorem MapEs.find {ck : Nat} {k : Int} : ∀ {es : List (V × V × Nat)} {m : List (Int × Int)}, MapEs es ck m → ∃ r, findK (I k) es = some r ∧ Found es ck m k r (m.lookup k)
  | [], [], _ => ⟨none, rfl, .no⟩
  | [], _ :: _, r => by have := r.length; simp at this
  | _ :: _, [], r => by have := r.length; simp at this
  | (q, u, b) :: es, (k', v) :: m, r => by
    have he := r.eq
    simp only [List.map_cons, List.cons.injEq, Prod.mk.injEq] at he
    obtain ⟨⟨rfl, rfl⟩, he⟩ := he
    have r' : MapEs es ck m := ⟨he, fun x hx => r.lt x (List.mem_cons_of_mem _ hx)⟩
    by_cases hk : k = k'
    · subst hk
      refine ⟨some (0, I v, b), by simp [findK, keyEq], ?_⟩
      rw [List.lookup_cons_self]
      exact .yes (by simpa [delNth, era] using r')
    · obtain ⟨r0, h1, h2⟩ := r'.find (k := k)
      have hl : ((k', v) :: m).lookup k = m.lookup k := by
        rw [List.lookup_cons]
        have : (k == k') = false := by simpa using hk
        rw [this]
      rw [hl]
      have hf : keyEq (I k) (I k') = some false := by simp [keyEq, hk]
      generalize m.lookup k = o at h2 ⊢
      cases h2 with
      | no => exact ⟨none, by simp [findK, hf, h1], .no⟩
      | yes hm =>
        rename_i i v' b'
        refine ⟨some (i + 1, I v', b'), by simp [findK, hf, h1], .yes ?_⟩
        have hne : ¬ k' = k := fun e => hk e.symm
        refine ⟨by simp [delNth, era, hne, hm.eq], fun x hx => ?_⟩
        simp only [delNth, List.mem_cons] at hx
        rcases hx with rfl | hx
        · exact r.lt _ (by simp)
        · exact hm.lt x hx
theorem stamp_last {es : List (V × V × Nat)} {ck : Nat} {k z v : V} (hlt : ∀ x ∈ es, x.2.2 < ck) : stampV (ck : Int) v (es ++ [(k, z, ck)]) = some (es ++ [(k, v, ck)]) := by
  induction es with
  | nil => simp [stampV]
  | cons x es ih =>
    obtain ⟨q, u, b⟩ := x
    have h1 : b < ck := hlt (q, u, b) (by simp)
    have h2 : ((b : Int) == (ck : Int)) = false := by
      rw [beq_eq_false_iff_ne]; omega
    simp [stampV, h2, ih fun x hx => hlt x (List.mem_cons_of_mem _ hx)]
theorem era_none {k : Int} : ∀ {m : List (Int × Int)}, m.lookup k = none → era k m = m
  | [], _ => rfl
  | (q, v) :: m, h => by
    rw [List.lookup_cons] at h
    by_cases e : q = k
    · subst e; simp at h
    · have : (k == q) = false := by simpa using fun x => e x.symm
      rw [this] at h
      simp only [era, if_neg e, era_none h]
theorem Found.del {es : List (V × V × Nat)} {ck : Nat} {m : List (Int × Int)} {k : Int} {r : Option (Nat × V × Nat)} (f : Found es ck m k r (m.lookup k)) (hm : MapEs es ck m) : MapEs (delR r es) ck (era k m) := by
  generalize ho : m.lookup k = o at f
  cases f with
  | no => rw [era_none ho]; exact hm
  | yes h => exact h
def MapAt (h : HH) (a : Nat) (m : List (Int × Int)) : Prop := ∃ es ck, MapI.get h a = some (.map true es ck) ∧ MapEs es ck m
theorem MapAt.congr {h h' : HH} {a : Nat} {m : List (Int × Int)} (r : MapAt h a m) (e : MapI.get h' a = MapI.get h a) : MapAt h' a m := by
  obtain ⟨es, ck, h1, h2⟩ := r
  exact ⟨es, ck, by rw [e]; exact h1, h2⟩
end Go.Proofs.Ytcenbfjhhaialaa
