/- The calculus: slices, appends, copies. -/
import Derived.Test.YtcenbfjhhaialaaAd1
set_option linter.unusedVariables false
set_option linter.unusedSectionVars false
set_option linter.unusedSimpArgs false
set_option linter.unnecessarySimpa false
namespace Go.Ab

section
variable {H E : Type} [MapI H AObj] [MapI E V] {cx : Cx} {h : H} {c : Nat} {e : E}
variable {call : Nat → Tgt → List V → M H V} {W : V → H → Nat → List Acc → Prop} {ds : Option Tmp} {ty : Nat} {pos : String} {af : Array Edge} {gd : Option (Nat × Bool)}

theorem cut_len {cs : List V} {o n : Nat} {l : List V} (h : cut cs o n = some l) : l.length = n := by
  unfold cut at h
  split at h
  · cases h; rw [List.length_take, List.length_drop]; omega
  · cases h
theorem cut_all {cs : List V} : cut cs 0 cs.length = some cs := by
  unfold cut
  rw [if_pos (by omega)]; simp
/-- What an element's type must be for append. -/
structure ElT (cx : Cx) (st el k : Nat) : Prop where
  desc : cx.desc st = some (.slice el)
  size : cx.size el = some (k + 1)
  zero : zlen cx el = k + 1
  ty : ∃ i, cx.ty el = some i ∧ i.bytes ≤ 4096

theorem first_ok {k n m o len : Nat} {cap : Cap} {rw cl : Bool} {cs new : List V} (hn : 0 < n) (hl : n ≤ len) (hx : MapI.get h m = some (.cells rw cl cs)) (hc : cut cs o (n * k) = some new) :
    firstM k n (.slice (some (m, o)) len cap) h c = .ok new h c [.rd m] := by
  unfold firstM
  simp only [if_neg (Nat.ne_of_gt hn), if_pos hl]
  have : loadC m o (n * k) h c = .ok new h c ([.rd m] ++ []) := bnd_eq (getM_eq hx) (by simp only [hc]; rfl)
  exact this
theorem append_none {st el k : Nat} {ts : List Nat} {r : List V} {xt el' : Nat} {s : V} {len : Nat} {a b : Option (Nat × Nat)} {cap cap' : Cap} (T : ElT cx st el k) (hxt : cx.desc xt = some (.slice el')) (hs : s = .slice a len cap) (hsh : a = none → len = 0) (hle : len ≤ 1000000000)
    (hcap : ∀ m o k', a = some (m, o) → cap = .known k' → len ≤ k') :
    appendM cx (st :: xt :: ts) (s :: .slice b 0 cap' :: r) h c = .ok s h c [] := by
  subst hs
  obtain ⟨i, hi, hb⟩ := T.ty
  unfold appendM
  simp only [T.desc, hi, T.size]
  have e1 : appendedM cx el (k + 1) (List.head? (xt :: ts)) (.slice b 0 cap') h c = .ok (0, []) h c ([] ++ []) := by
    unfold appendedM
    simp only [List.head?_cons, hxt]
    refine bnd_eq (a := []) (h' := h) (c' := c) ?_ rfl
    cases b with
    | none => simp [firstM]; rfl
    | some p => obtain ⟨m, o⟩ := p; simp [firstM]; rfl
  refine bnd_eq e1 ?_
  simp only [T.zero]
  rw [if_pos ⟨by simp, by omega, hb, trivial⟩]
  cases a with
  | none => simp [hsh rfl]; rfl
  | some p =>
    obtain ⟨m, o⟩ := p
    cases cap with
    | known c' => simp [hcap m o c' rfl rfl]; rfl
    | upTo s => simp; rfl
/-- Nothing is appended to nothing; to a row. -/
theorem append_zero {st el k : Nat} {ts : List Nat} {r : List V} {xt el' n : Nat} {b : Option (Nat × Nat)} {cap cap' : Cap} (T : ElT cx st el k) (hxt : cx.desc xt = some (.slice el')) (hn : n = 0) :
    appendM cx (st :: xt :: ts) (.slice none 0 cap :: .slice b n cap' :: r) h c = .ok (.slice none 0 cap) h c [] := by
  subst hn
  exact append_none T hxt rfl (fun _ => rfl) (by omega) (fun _ _ _ h => by cases h)
theorem append_zero' {st el k : Nat} {ts : List Nat} {r : List V} {xt el' n len sz : Nat} {b : Option (Nat × Nat)} {cap' : Cap} (T : ElT cx st el k) (hxt : cx.desc xt = some (.slice el')) (hn : n = 0) (hle : len ≤ 1000000000) {p : Nat × Nat} :
    appendM cx (st :: xt :: ts) (.slice (some p) len (.upTo sz) :: .slice b n cap' :: r) h c = .ok (.slice (some p) len (.upTo sz)) h c [] := by
  subst hn
  exact append_none T hxt rfl (fun h => by cases h) hle (fun _ _ _ _ h => by cases h)
theorem append_nil {st el k : Nat} {ts : List Nat} {r : List V} {xt el' : Nat} {cap cap' : Cap} {m o n : Nat} {rw cl : Bool} {cs new : List V} (T : ElT cx st el k) (hxt : cx.desc xt = some (.slice el')) (hn : 0 < n) (hle : n ≤ 1000000000)
    (hx : MapI.get h m = some (.cells rw cl cs)) (hc : cut cs o (n * (k + 1)) = some new) :
    appendM cx (st :: xt :: ts) (.slice none 0 cap :: .slice (some (m, o)) n cap' :: r) h c = .ok (.slice (some (c, 0)) n (.upTo (k + 1))) (MapI.set h c (.cells true true new)) (c + 1) [.rd m, .wr c] := by
  obtain ⟨i, hi, hb⟩ := T.ty
  unfold appendM
  simp only [T.desc, hi, T.size]
  have e1 : appendedM cx el (k + 1) (List.head? (xt :: ts)) (.slice (some (m, o)) n cap') h c = .ok (n, new) h c ([.rd m] ++ []) := by
    unfold appendedM
    simp only [List.head?_cons, hxt]
    exact bnd_eq (first_ok hn (Nat.le_refl _) hx hc) rfl
  refine bnd_eq (l' := [.wr c]) e1 ?_
  simp only [T.zero]
  rw [if_pos ⟨cut_len hc, by omega, hb, trivial⟩]
  simp only [if_true, if_neg (Nat.ne_of_gt hn)]
  rfl
/-- Onto a row that ends where its cells end: it is dead, and there is a new one. -/
theorem append_move {st el k : Nat} {ts : List Nat} {r : List V} {xt el' : Nat} {cap' : Cap} {m o n q len : Nat} {rw cl cl' : Bool} {cs new old ds : List V} (T : ElT cx st el k) (hxt : cx.desc xt = some (.slice el')) (hn : 0 < n) (hle : len + n ≤ 1000000000)
    (hx : MapI.get h m = some (.cells rw cl cs)) (hc : cut cs o (n * (k + 1)) = some new) (hq : MapI.get h q = some (.cells true cl' ds)) (hfull : ds.length < (len + n) * (k + 1)) (hold : cut ds 0 (len * (k + 1)) = some old) (h1 : (old ++ new).all one1 = true) :
    appendM cx (st :: xt :: ts) (.slice (some (q, 0)) len (.upTo (k + 1)) :: .slice (some (m, o)) n cap' :: r) h c =
      .ok (.slice (some (c, 0)) (len + n) (.upTo (k + 1))) (MapI.set (MapI.set h q .dead) c (.cells true cl' (old ++ new))) (c + 1) [.rd m, .rd q, .wr q, .wr c] := by
  obtain ⟨i, hi, hb⟩ := T.ty
  unfold appendM
  simp only [T.desc, hi, T.size]
  have e1 : appendedM cx el (k + 1) (List.head? (xt :: ts)) (.slice (some (m, o)) n cap') h c = .ok (n, new) h c ([.rd m] ++ []) := by
    unfold appendedM
    simp only [List.head?_cons, hxt]
    exact bnd_eq (first_ok hn (Nat.le_refl _) hx hc) rfl
  refine bnd_eq (l' := [.rd q, .wr q, .wr c]) e1 ?_
  simp only [T.zero]
  rw [if_pos ⟨cut_len hc, by omega, hb, trivial⟩]
  simp only [if_neg (Nat.ne_of_gt hn)]
  simp only [ne_eq, not_true_eq_false, if_false]
  refine bnd_eq (l := [.rd q]) (l' := [.wr q, .wr c]) (getM_eq hq) ?_
  simp only [Nat.zero_add]
  rw [if_neg (by omega), hold]
  simp only
  refine bnd_eq (l := [.wr q]) (l' := [.wr c]) (setM_eq hq) ?_
  rw [if_pos h1]
  rfl
/-- Into a row's spare cells. -/
theorem append_into {st el k : Nat} {ts : List Nat} {r : List V} {xt el' : Nat} {cap' : Cap} {m o n q len : Nat} {rw cl cl' : Bool} {cs new ds : List V} (T : ElT cx st el k) (hxt : cx.desc xt = some (.slice el')) (hn : 0 < n) (hle : len + n ≤ 1000000000)
    (hx : MapI.get h m = some (.cells rw cl cs)) (hc : cut cs o (n * (k + 1)) = some new) (hq : MapI.get h q = some (.cells true cl' ds)) (hroom : (len + n) * (k + 1) ≤ ds.length) (h1 : new.all one1 = true) :
    appendM cx (st :: xt :: ts) (.slice (some (q, 0)) len (.upTo (k + 1)) :: .slice (some (m, o)) n cap' :: r) h c =
      .ok (.slice (some (q, 0)) (len + n) (.upTo (k + 1))) (MapI.set h q (.cells true cl' (setAll ds (len * (k + 1)) new))) c [.rd m, .rd q, .wr q] := by
  obtain ⟨i, hi, hb⟩ := T.ty
  unfold appendM
  simp only [T.desc, hi, T.size]
  have e1 : appendedM cx el (k + 1) (List.head? (xt :: ts)) (.slice (some (m, o)) n cap') h c = .ok (n, new) h c ([.rd m] ++ []) := by
    unfold appendedM
    simp only [List.head?_cons, hxt]
    exact bnd_eq (first_ok hn (Nat.le_refl _) hx hc) rfl
  refine bnd_eq (l' := [.rd q, .wr q]) e1 ?_
  simp only [T.zero]
  rw [if_pos ⟨cut_len hc, by omega, hb, trivial⟩]
  simp only [if_neg (Nat.ne_of_gt hn)]
  simp only [ne_eq, not_true_eq_false, if_false]
  refine bnd_eq (l := [.rd q]) (l' := [.wr q]) (getM_eq hq) ?_
  simp only [Nat.zero_add]
  rw [if_pos hroom]
  simp only [h1, if_true]
  exact bnd_eq (setM_eq hq) rfl
theorem op_append {args : Array Operand} {ats : Array Nat} {xs : List V} {v : V} {h' : H} {c' : Nat} {l : List Acc} {ts : List Nat} (ha : evs cx e args.toList = some xs) (ht : ats.toList = ts) (hm : appendM cx ts xs h c = .ok v h' c' l) (q : W v h' c' l) :
    WpX (fun k => opM cx (call k) e ⟨ds, .call ⟨.builtin .append, args, ats⟩, ty, pos, af, gd⟩) h c W :=
  WpX.pure (fun k' => by
    show callM cx (call k') e ⟨.builtin .append, args, ats⟩ h c = _
    unfold callM
    simp only [ha, ht]
    refine bnd_eq (l := []) (l' := l) lift_eq ?_
    exact hm) q
theorem bound_at {k : IntKind} {i : Int} {n d : Nat} (h : i = n) : bound (some (.int k i)) d = some n := by
  subst h
  unfold bound
  simp
/-- x[lo:hi] of a row of the call's own. -/
theorem op_slice {t el k : Nat} {x : Operand} {lo hi : Option Operand} {vlo vhi : Option V} {n o len l u : Nat} {cap : Cap} (hx : ev1 cx e x = some (.slice (some (n, o)) len cap)) (hlo : evO cx e lo = some vlo) (hhi : evO cx e hi = some vhi) (hd : cx.desc t = some (.slice el)) (hk : cx.size el = some (k + 1))
    (hl : bound vlo 0 = some l) (hu : bound vhi len = some u) (h1 : l ≤ u) (h2 : u ≤ len) (hc : cap = .upTo (k + 1)) (q : W (.slice (some (n, o + l * (k + 1))) (u - l) cap) h c []) :
    WpX (fun k => opM cx (call k) e ⟨ds, .slice t x lo hi none, ty, pos, af, gd⟩) h c W :=
  WpX.pure (fun k' => by
    subst hc
    show bnd (lift "operand" (ev1 cx e x)) (fun a => bnd (lift "operand" (evO cx e lo)) fun lo => bnd (lift "operand" (evO cx e hi)) fun hi => bnd (lift "operand" (evO cx e none)) fun mx => sliceM cx t a lo hi mx) h c = _
    rw [hx, hlo, hhi]
    refine bnd_eq (l := []) (l' := []) lift_eq (bnd_eq (l := []) (l' := []) lift_eq (bnd_eq (l := []) (l' := []) lift_eq (bnd_eq (a := none) (l := []) (l' := []) rfl ?_)))
    unfold sliceM
    simp only [hd, hk, hl, hu, if_pos h1]
    simp only [Nat.zero_lt_succ, and_self, if_true, if_pos h2]
    rfl) q
theorem op_buildSlice {t len el k : Nat} {ps : Array (Nat × Operand)} {parts : List (Nat × V)} {z cs : List V} (hp : evParts cx e ps.toList = some parts) (hd : cx.desc t = some (.slice el)) (hk : cx.size el = some k) (hz : zeroRow cx el len = some z) (hle : len * k ≤ 16777216)
    (hf : fillV (fun i => some (i * k, k)) z parts = some cs) (q : W (.slice (some (c, 0)) len (.known len)) (MapI.set h c (.cells true true cs)) (c + 1) [.wr c]) :
    WpX (fun k => opM cx (call k) e ⟨ds, .buildSlice t len ps, ty, pos, af, gd⟩) h c W :=
  WpX.pure (fun k' => by
    show bnd (lift "operand" (evParts cx e ps.toList)) (fun ps => buildSliceM cx t len ps) h c = _
    rw [hp]
    refine bnd_eq (l := []) (l' := [.wr c]) lift_eq ?_
    unfold buildSliceM
    simp only [hd, hk, hz, if_pos hle, hf]
    exact bnd_eq (l := []) (l' := [.wr c]) lift_eq rfl) q
end
end Go.Ab
