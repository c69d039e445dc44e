/- slices.SortFunc of a row of pointers, by a whole number that each points at, as a 'prim' (its proof: AdO). -/
import Derived.Test.YtcenbfjhhaialaaAdK0
set_option linter.unusedVariables false
namespace Go.Ab
section
variable {H : Type} [MapI H AObj]
def insP {α : Type} (x : α × Int) : List (α × Int) → List (α × Int)
  | [] => [x]
  | y :: l => bif decide (x.2 ≤ y.2) then x :: y :: l else y :: insP x l
def sortP {α : Type} : List (α × Int) → List (α × Int)
  | [] => []
  | x :: l => insP x (sortP l)
/-- What each pointer of a row points at: a whole number in another object than n. -/
def keysM (n : Nat) : List V → M H (List ((Nat × Nat) × Int))
  | [] => ret []
  | v :: vs => match v with
    | .ptr (some (b, o)) => bnd (getM b) fun
      | .cells true _ cs => match cs[o]? with
        | some (.int .i64 k) => if Nat.beq b n = false then bnd (keysM n vs) fun ps => ret (((b, o), k) :: ps) else fail "sort: itself"
        | _ => fail "sort: key"
      | _ => fail "sort: object"
    | _ => fail "sort: pointer"
def ptrOf (x : (Nat × Nat) × Int) : V := .ptr (some x.1)
def goodKeys (len : Nat) (cs : List V) (ps : List ((Nat × Nat) × Int)) : Bool := (Nat.ble len cs.length && Nat.ble len 1000000) && noDupZ (ps.map fun x => x.2)
/-- slices.SortFunc by a function that compares what two pointers point at. -/
def cmpPrim (gs : List Nat) : (Tgt → List V → M H V) → List V → M H V := fun _ xs => match xs with
  | [.slice s len cap, .func (.func g) [] []] =>
    if hasN g gs = true then
      match len with
      | 0 => ret (.tuple [])
      | len + 1 => match s with
        | some (n, 0) => bnd (getM n) fun
          | .cells true cl cs => bnd (keysM n (cs.take (len + 1))) fun ps =>
              if goodKeys (len + 1) cs ps = true then bnd (setM n (.cells true cl (setAll cs 0 ((sortP ps).map ptrOf)))) fun _ => ret (.tuple [])
              else fail "sort: keys"
          | _ => fail "sort: row"
        | _ => fail "sort: slice"
    else fail "sort: by what"
  | _ => fail "sort: what"
theorem keysM_local {n : Nat} : ∀ {vs : List V}, Local (keysM n vs : M H (List ((Nat × Nat) × Int)))
  | [] => Local.ret
  | v :: vs => by
    unfold keysM
    have : Local (keysM n vs : M H (List ((Nat × Nat) × Int))) := keysM_local
    repeat' first | exact this | with_reducible exact Local.fail | with_reducible exact Local.ret | with_reducible exact Local.get | (with_reducible refine Local.bnd ?_ fun _ => ?_) | split
theorem cmpPrim_local {gs : List Nat} {call : Tgt → List V → M H V} {xs : List V} : Local (cmpPrim gs call xs : M H V) := by
  unfold cmpPrim
  repeat' first | exact keysM_local | with_reducible exact Local.fail | with_reducible exact Local.ret | with_reducible exact Local.get | with_reducible exact Local.set | (with_reducible refine Local.bnd ?_ fun _ => ?_) | split
def findF (f : Nat) : List (Nat × List Nat) → Option (List Nat)
  | [] => none
  | (g, l) :: r => bif Nat.beq f g then some l else findF f r
/-- A seat's 'prims': functions without parameters that answer true; slices.Sorted, each with its iterators; slices.SortFunc, each with what compares. -/
def seatPrims (l : List Nat) (s t : List (Nat × List Nat)) : Nat → Option ((Tgt → List V → M H V) → List V → M H V) := fun f => match findF f s with
  | some gs => some (sortedPrim gs)
  | none => match findF f t with
    | some gs => some (cmpPrim gs)
    | none => shutPrims l f
theorem seatPrims_local {l : List Nat} {s t : List (Nat × List Nat)} {f : Nat} {m : (Tgt → List V → M H V) → List V → M H V} {call : Tgt → List V → M H V} {xs : List V} (h : seatPrims l s t f = some m) : Local (m call xs) := by
  unfold seatPrims at h
  split at h
  · cases h; exact sortedPrim_local
  · split at h
    · cases h; exact cmpPrim_local
    · exact shutPrims_local h
theorem seatShut_wp {E : Type} [MapI E V] {cx : Cx} {l : List Nat} {s t : List (Nat × List Nat)} {f : Nat} {h : H} {c : Nat} (hf : (l.contains f && ((findF f s).isNone && (findF f t).isNone)) = true) :
    WpX (fun n => evFn E cx (seatPrims l s t) n (.fn f) []) h c fun v h' c' al => al = [] ∧ v = .bool true ∧ h' = h ∧ c' = c :=
  ⟨.bool true, h, c, [], ⟨rfl, rfl, rfl, rfl⟩, 1, fun n hn => by
    obtain ⟨n, rfl⟩ : ∃ m, n = m + 1 := ⟨n - 1, by omega⟩
    unfold evFn
    rw [Bool.and_eq_true, Bool.and_eq_true] at hf
    have none_of : ∀ {r : List (Nat × List Nat)}, (findF f r).isNone = true → findF f r = none := fun {r} h => by cases hx : findF f r with
      | none => rfl
      | some x => rw [hx] at h; cases h
    have : (seatPrims l s t f : Option ((Tgt → List V → M H V) → List V → M H V)) = some shutPrim := by
      unfold seatPrims
      rw [none_of hf.2.1, none_of hf.2.2]
      exact if_pos hf.1
    simp only [this]
    rfl⟩
theorem keysM_run {n : Nat} {h : H} {c : Nat} : ∀ {ps : List ((Nat × Nat) × Int)}, (∀ p ∈ ps, p.1.1 ≠ n ∧ ∃ cl cs, MapI.get h p.1.1 = some (.cells true cl cs) ∧ cs[p.1.2]? = some (.int .i64 p.2)) →
    ∃ l, keysM n (ps.map ptrOf) h c = .ok ps h c l ∧ ∀ a ∈ l, ∃ p ∈ ps, a.name = p.1.1
  | [], _ => ⟨[], rfl, fun a ha => by cases ha⟩
  | ((b, o), k) :: ps, hp => by
    obtain ⟨h1, cl, cs, h2, h3⟩ := hp _ (List.mem_cons_self ..)
    obtain ⟨l, e, hl⟩ := keysM_run (ps := ps) (n := n) (h := h) (c := c) fun p hm => hp p (List.mem_cons_of_mem _ hm)
    have hb : Nat.beq b n = false := by
      cases hx : Nat.beq b n with
      | false => rfl
      | true => exact absurd (Nat.eq_of_beq_eq_true hx) h1
    have eg : (getM b : M H AObj) h c = .ok (.cells true cl cs) h c [.rd b] := by unfold getM; rw [h2]
    have h3 : cs[o]? = some (.int .i64 k) := h3
    refine ⟨[.rd b] ++ (l ++ []), ?_, fun a ha => ?_⟩
    · show keysM n (.ptr (some (b, o)) :: ps.map ptrOf) h c = _
      unfold keysM
      refine bnd_eq eg ?_
      simp only [h3]
      rw [if_pos hb]
      exact bnd_eq e rfl
    · rw [List.append_nil] at ha
      rcases List.mem_append.1 ha with ha | ha
      · rw [List.mem_singleton] at ha
        exact ⟨_, List.mem_cons_self .., by rw [ha]; rfl⟩
      · obtain ⟨p, hm, e⟩ := hl a ha
        exact ⟨p, List.mem_cons_of_mem _ hm, e⟩
theorem cmpPrim_run {gs : List Nat} {call : Tgt → List V → M H V} {g m : Nat} {cap : Cap} {h : H} {c : Nat} {cl : Bool} {ps : List ((Nat × Nat) × Int)} {junk : List V} (hg : hasN g gs = true) (hne : ps ≠ []) (hm : MapI.get h m = some (.cells true cl (ps.map ptrOf ++ junk)))
    (hp : ∀ p ∈ ps, p.1.1 ≠ m ∧ ∃ cl cs, MapI.get h p.1.1 = some (.cells true cl cs) ∧ cs[p.1.2]? = some (.int .i64 p.2)) (hd : noDupZ (ps.map fun x => x.2) = true) (hl : ps.length ≤ 1000000) :
    ∃ l, cmpPrim gs call [.slice (some (m, 0)) ps.length cap, .func (.func g) [] []] h c = .ok (.tuple []) (MapI.set h m (.cells true cl (setAll (ps.map ptrOf ++ junk) 0 ((sortP ps).map ptrOf)))) c l ∧ ∀ a ∈ l, a.name = m ∨ ∃ p ∈ ps, a.name = p.1.1 := by
  obtain ⟨n, hn⟩ : ∃ n, ps.length = n + 1 := ⟨ps.length - 1, by have := List.length_pos_iff.2 hne; omega⟩
  obtain ⟨l, e, hl2⟩ := keysM_run (n := m) (h := h) (c := c) hp
  have eg : (getM m : M H AObj) h c = .ok (.cells true cl (ps.map ptrOf ++ junk)) h c [.rd m] := by unfold getM; rw [hm]
  have es : ∀ o, (setM m o : M H Unit) h c = .ok () (MapI.set h m o) c [.wr m] := fun o => by unfold setM; rw [hm]
  have et : (ps.map ptrOf ++ junk).take (n + 1) = ps.map ptrOf := by rw [List.take_append_of_le_length (by simp; omega), List.take_of_length_le (by simp; omega)]
  have gk : goodKeys (n + 1) (ps.map ptrOf ++ junk) ps = true := by
    unfold goodKeys
    rw [hd, Nat.ble_eq_true_of_le (by simp; omega), Nat.ble_eq_true_of_le (by omega)]; rfl
  refine ⟨[.rd m] ++ (l ++ ([.wr m] ++ [])), ?_, fun a ha => ?_⟩
  · unfold cmpPrim
    simp only [hg, if_true, hn]
    refine bnd_eq eg ?_
    simp only [et]
    refine bnd_eq e ?_
    rw [if_pos gk]
    exact bnd_eq (es _) rfl
  · simp only [List.append_nil, List.mem_append, List.mem_singleton] at ha
    rcases ha with ha | ha | ha
    · exact .inl (by rw [ha]; rfl)
    · exact .inr (hl2 a ha)
    · exact .inl (by rw [ha]; rfl)
end
end Go.Ab
