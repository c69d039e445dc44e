/- The calculus: results that lie in cells. -/
import Derived.Test.YtcenbfjhhaialaaAd1
set_option linter.unusedVariables false
set_option linter.unusedSectionVars false
set_option linter.unusedSimpArgs false
set_option linter.unnecessarySimpa false
namespace Go.Ab
section
variable {H E : Type} [MapI H AObj] [MapI E V] {cx : Cx} {prim : Nat → Option ((Tgt → List V → M H V) → List V → M H V)}
variable {h : H} {c : Nat} {L : Acc → Prop} {e : E}
/-- The results, and what is read for them. -/
inductive ResH (cx : Cx) (h : H) (e : E) : List ResultVar → List V → List Acc → Prop where
  | nil : ResH cx h e [] [] []
  | tmp {t : Nat} {v : V} {l : List ResultVar} {vs : List V} {al : List Acc} : MapI.get e t = some v → ResH cx h e l vs al → ResH cx h e (.tmp t :: l) (v :: vs) al
  | cell {a t n o : Nat} {d : TypeDesc} {rw cl : Bool} {cs : List V} {v : V} {l : List ResultVar} {vs : List V} {al : List Acc} : MapI.get e a = some (.ptr (some (n, o))) → cx.desc t = some d → aggD d = false →
      MapI.get h n = some (.cells rw cl cs) → nth cs o = some v → ResH cx h e l vs al → ResH cx h e (.cell a t :: l) (v :: vs) (.rd n :: al)
  | cellA {a t n o k : Nat} {d : TypeDesc} {rw cl : Bool} {cs xs : List V} {l : List ResultVar} {vs : List V} {al : List Acc} : MapI.get e a = some (.ptr (some (n, o))) → cx.desc t = some d → aggD d = true → cx.size t = some k →
      MapI.get h n = some (.cells rw cl cs) → cut cs o k = some xs → ResH cx h e l vs al → ResH cx h e (.cell a t :: l) (.agg xs :: vs) (.rd n :: al)
theorem ResH.eq {l : List ResultVar} {vs : List V} {al : List Acc} (r : ResH cx h e l vs al) : (resM cx e l : M H (List V)) h c = .ok vs h c al := by
  induction r with
  | nil => rfl
  | tmp hg _ ih =>
    rename_i t v l vs al r
    simp only [resM, hg]
    refine bnd_eq (l := []) (l' := al) lift_eq ?_
    rw [← List.append_nil al]
    exact bnd_eq ih rfl
  | cell hg hd ha hh hv _ ih =>
    rename_i a t n o d rw cl cs v l vs al r
    simp only [resM, hg]
    refine bnd_eq (l := []) (l' := .rd n :: al) lift_eq (bnd_eq (l := []) (l' := .rd n :: al) (a := (n, o)) rfl ?_)
    have e1 : loadT cx t n o h c = .ok v h c [.rd n] := by
      unfold loadT
      simp only [hd, ha, Bool.false_eq_true, if_false, loadC, bnd, getM, hh, lift, cut_one hv, Ab.ret, List.append_nil]
    refine bnd_eq (l := [.rd n]) (l' := al) e1 ?_
    rw [← List.append_nil al]
    exact bnd_eq ih rfl
  | cellA hg hd ha hk hh hv _ ih =>
    rename_i a t n o k d rw cl cs xs l vs al r
    simp only [resM, hg]
    refine bnd_eq (l := []) (l' := .rd n :: al) lift_eq (bnd_eq (l := []) (l' := .rd n :: al) (a := (n, o)) rfl ?_)
    have e1 : loadT cx t n o h c = .ok (.agg xs) h c [.rd n] := by
      unfold loadT
      simp only [hd, ha, hk, if_true, loadC, bnd, getM, hh, lift, hv, Ab.ret, List.append_nil, List.nil_append]
    refine bnd_eq (l := [.rd n]) (l' := al) e1 ?_
    rw [← List.append_nil al]
    exact bnd_eq ih rfl
/-- What a function's code must come to. -/
def outH (cx : Cx) (L : Acc → Prop) (rs : List ResultVar) (Q : V → H → Nat → Prop) : Ex → E → H → Nat → Prop
  | .exit _, _, _, _ => False
  | _, e, h, c => ∃ vs al, ResH cx h e rs vs al ∧ (∀ x ∈ al, L x) ∧ Q (tup vs) h c
theorem outH_ret {rs : List ResultVar} {Q : V → H → Nat → Prop} {vs : List V} {al : List Acc} (r : ResH cx h e rs vs al) (hl : ∀ x ∈ al, L x) (q : Q (tup vs) h c) : outH cx L rs Q .ret e h c := ⟨vs, al, r, hl, q⟩
theorem enterH {f : Nat} {fn : Func} {code : Code} {xs : List V} {Q : V → H → Nat → Prop} (hf : cx.fn f = some fn) (hb : fn.body = some code) (hp : prim f = none) (hn : xs.length ≤ fn.ntmps)
    (w : WpC E cx prim L fn.ntmps code (initE xs 0 (MapI.emp : E)) h c (outH cx L fn.results.toList Q)) : WpX (fun n => evFn E cx prim n (.fn f) xs) h c fun v h' c' l => (∀ x ∈ l, L x) ∧ Q v h' c' := by
  obtain ⟨⟨x, e', ms⟩, h', c', l, ⟨hl, hms, q⟩, k, hk⟩ := w.w
  simp only at hms q
  subst hms
  have key : ∃ vs al, ResH cx h' e' fn.results.toList vs al ∧ (∀ x ∈ al, L x) ∧ Q (tup vs) h' c' ∧ ∀ i, x ≠ .exit i := by
    cases x with
    | exit i => exact q.elim
    | normal => obtain ⟨vs, al, a, b, d⟩ := q; exact ⟨vs, al, a, b, d, fun i h => by cases h⟩
    | ret => obtain ⟨vs, al, a, b, d⟩ := q; exact ⟨vs, al, a, b, d, fun i h => by cases h⟩
  obtain ⟨vs, al, hv, hal, hQ, hx⟩ := key
  refine ⟨tup vs, h', c', l ++ ([] ++ (al ++ [])), ⟨forall_app hl (forall_app nolog (forall_app hal nolog)), hQ⟩, k + 1, fun n hn' => ?_⟩
  obtain ⟨n, rfl⟩ : ∃ i, n = i + 1 := ⟨n - 1, by omega⟩
  show evFn E cx prim (n + 1) (.fn f) xs h c = _
  rw [evFn]
  simp only [hp, bodyM, hf, hb, if_pos hn]
  refine bnd_eq (hk n (by omega)) ?_
  cases x with
  | exit i => exact (hx i rfl).elim
  | normal => exact bnd_eq rfl (bnd_eq (hv.eq) rfl)
  | ret => exact bnd_eq rfl (bnd_eq (hv.eq) rfl)
end
end Go.Ab
