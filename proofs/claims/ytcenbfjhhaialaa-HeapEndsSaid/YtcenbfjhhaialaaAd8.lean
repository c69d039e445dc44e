/- The calculus: make, copy, slices of a known capacity, conversions of bytes to a string. -/
import Derived.Test.YtcenbfjhhaialaaAd7
set_option linter.unusedVariables false
set_option linter.unusedSectionVars false
set_option linter.unusedSimpArgs false
set_option linter.unnecessarySimpa false
namespace Go.Proofs.Ytcenbfjhhaialaa
open Go.Ab

section
variable {h : HH} {c : Nat} {e : EE}
variable {call : Nat → Tgt → List V → M HH V} {W : V → HH → Nat → List Acc → Prop} {ds : Option Tmp} {ty : Nat} {pos : String} {af : Array Edge} {gd : Option (Nat × Bool)}

theorem op_makeSlice {t el : Nat} {x y : Operand} {kl kc : IntKind} {l m : Nat} {z : List V} (hx : ev1 cx e x = some (.int kl l)) (hy : ev1 cx e y = some (.int kc m)) (hd : cx.desc t = some (.slice el)) (hz : zeroRow cx el m = some z) (ht : ∃ i, cx.ty el = some i ∧ i.bytes ≤ 4096) (hb : l ≤ m ∧ m ≤ 1000000000)
    (q : W (.slice (some (c, 0)) l (.known m)) (MapI.set h c (.cells true true z)) (c + 1) [.wr c]) : WpX (fun k => opM cx (call k) e ⟨ds, .makeSlice t x y, ty, pos, af, gd⟩) h c W :=
  WpX.pure (fun k' => by
    obtain ⟨i, hi, hbt⟩ := ht
    show bnd (lift "operand" (ev1 cx e x)) (fun a => bnd (lift "operand" (ev1 cx e y)) fun b => makeSliceM cx t a b) h c = _
    rw [hx, hy]
    refine bnd_eq (l := []) (l' := [.wr c]) lift_eq (bnd_eq (l := []) (l' := [.wr c]) lift_eq ?_)
    unfold makeSliceM
    simp only [hd]
    rw [if_pos ⟨by omega, by omega, by omega⟩]
    simp only [Int.toNat_natCast, hi, hz, if_pos hbt]
    exact bnd_eq (l := [.wr c]) (l' := []) rfl rfl) q
theorem op_copy {args : Array Operand} {ats : Array Nat} {ts : List Nat} {t el k n o dl m o' sl : Nat} {cap cap' : Cap} {rw cl cl' : Bool} {cs new dst : List V} {xs : List V} (ha : evs cx e args.toList = some (.slice (some (n, o)) dl cap :: .slice (some (m, o')) sl cap' :: xs)) (ht : ats.toList = t :: ts)
    (hd : cx.desc t = some (.slice el)) (hk : cx.size el = some k) (hpos : 0 < min sl dl) (hx : MapI.get h m = some (.cells rw cl cs)) (hc : cut cs o' (min sl dl * k) = some new) (hn : MapI.get h n = some (.cells true cl' dst)) (hroom : o + new.length ≤ dst.length) (h1 : new.all one1 = true)
    (q : W (.int .i64 (min sl dl : Nat)) (MapI.set h n (.cells true cl' (setAll dst o new))) c [.rd m, .rd n, .wr n]) :
    WpX (fun k => opM cx (call k) e ⟨ds, .call ⟨.builtin .copy, args, ats⟩, ty, pos, af, gd⟩) h c W :=
  WpX.pure (fun k' => by
    show callM cx (call k') e ⟨.builtin .copy, args, ats⟩ h c = _
    unfold callM
    simp only [ha, ht]
    refine bnd_eq (l := []) (l' := [.rd m, .rd n, .wr n]) lift_eq ?_
    simp only [builtinM, copyM, hd, hk]
    refine bnd_eq (a := sl) (h' := h) (c' := c) (l := []) (l' := [.rd m, .rd n, .wr n]) rfl ?_
    refine bnd_eq (l := [.rd m]) (l' := [.rd n, .wr n]) (first_ok hpos (Nat.min_le_left _ _) hx hc) ?_
    simp only [if_neg (Nat.ne_of_gt hpos)]
    have e2 : storeC n o new h c = .ok () (MapI.set h n (.cells true cl' (setAll dst o new))) c [.rd n, .wr n] := by
      refine bnd_eq (l := [.rd n]) (l' := [.wr n]) (getM_eq hn) ?_
      simp only [if_pos hroom, h1, if_true]
      exact setM_eq hn
    exact bnd_eq (l := [.rd n, .wr n]) (l' := []) e2 rfl) q
/-- x[lo:hi] of a row with a known capacity. -/
theorem op_sliceK {t el k : Nat} {x : Operand} {lo hi : Option Operand} {vlo vhi : Option V} {n o len cp l u : Nat} (hx : ev1 cx e x = some (.slice (some (n, o)) len (.known cp))) (hlo : evO cx e lo = some vlo) (hhi : evO cx e hi = some vhi) (hd : cx.desc t = some (.slice el)) (hk : cx.size el = some k)
    (hl : bound vlo 0 = some l) (hu : bound vhi len = some u) (h1 : l ≤ u) (h2 : u ≤ cp) (q : W (.slice (some (n, if cp = l then o else o + l * k)) (u - l) (.known (cp - l))) h c []) :
    WpX (fun k => opM cx (call k) e ⟨ds, .slice t x lo hi none, ty, pos, af, gd⟩) h c W :=
  WpX.pure (fun k' => by
    show bnd (lift "operand" (ev1 cx e x)) (fun a => bnd (lift "operand" (evO cx e lo)) fun lo => bnd (lift "operand" (evO cx e hi)) fun hi => bnd (lift "operand" (evO cx e none)) fun mx => sliceM cx t a lo hi mx) h c = _
    rw [hx, hlo, hhi]
    refine bnd_eq (l := []) (l' := []) lift_eq (bnd_eq (l := []) (l' := []) lift_eq (bnd_eq (l := []) (l' := []) lift_eq (bnd_eq (a := none) (l := []) (l' := []) rfl ?_)))
    unfold sliceM
    simp only [hd, hk, hl, hu, if_pos h1, if_pos h2]
    rfl) q
/-- Onto an empty row of no capacity. -/
theorem append_known {st el k : Nat} {ts : List Nat} {r : List V} {xt el' : Nat} {cap' : Cap} {m o n q : Nat} {rw cl : Bool} {cs new : List V} (T : ElT cx st el k) (hxt : cx.desc xt = some (.slice el')) (hn : 0 < n) (hle : n ≤ 1000000000)
    (hx : MapI.get h m = some (.cells rw cl cs)) (hc : cut cs o (n * (k + 1)) = some new) :
    appendM cx (st :: xt :: ts) (.slice (some (q, 0)) 0 (.known 0) :: .slice (some (m, o)) n cap' :: r) h c = .ok (.slice (some (c, 0)) n (.upTo (k + 1))) (MapI.set h c (.cells true true new)) (c + 1) [.rd m, .wr c] := by
  obtain ⟨i, hi, hb⟩ := T.ty
  unfold appendM
  simp only [T.desc, hi, T.size]
  have e1 : appendedM cx el (k + 1) (List.head? (xt :: ts)) (.slice (some (m, o)) n cap') h c = .ok (n, new) h c ([.rd m] ++ []) := by
    unfold appendedM
    simp only [List.head?_cons, hxt]
    exact bnd_eq (first_ok hn (Nat.le_refl _) hx hc) rfl
  refine bnd_eq (l' := [.wr c]) e1 ?_
  simp only [T.zero]
  rw [if_pos ⟨cut_len hc, by omega, hb, trivial⟩]
  rw [if_neg (by omega)]
  refine bnd_eq (a := []) (h' := h) (c' := c) (l := []) (l' := [.wr c]) (by simp [firstM]; rfl) ?_
  simp only [Nat.zero_add]
  rfl
theorem op_bytesStr {s d el : Nat} {x : Operand} {n o len : Nat} {cap : Cap} {rw cl : Bool} {cs bs : List V} {str : List UInt8} (hx : ev1 cx e x = some (.slice (some (n, o)) len cap)) (hs : cx.desc s = some (.slice el)) (hd : cx.desc d = some .string) (he : cx.desc el = some (.int .u8)) (hl : 0 < len)
    (hh : MapI.get h n = some (.cells rw cl cs)) (hc : cut cs o len = some bs) (hb : bytesOfV bs = some str) (q : W (.str str) h c [.rd n]) : WpX (fun k => opM cx (call k) e ⟨ds, .convert s d x, ty, pos, af, gd⟩) h c W :=
  WpX.pure (fun k' => by
    show bnd (lift "operand" (ev1 cx e x)) (fun a => convertM cx s d a) h c = _
    rw [hx]
    refine bnd_eq (l := []) (l' := [.rd n]) lift_eq ?_
    unfold convertM
    simp only [hs, hd, he, if_neg (Nat.ne_of_gt hl)]
    have e1 : loadC n o len h c = .ok bs h c ([.rd n] ++ []) := bnd_eq (getM_eq hh) (by simp only [hc]; rfl)
    refine bnd_eq (l := [.rd n]) (l' := []) e1 ?_
    rw [hb]
    exact bnd_eq (l := []) (l' := []) lift_eq rfl) q
theorem op_bytesStr0 {s d el : Nat} {x : Operand} {a : Option (Nat × Nat)} {cap : Cap} (hx : ev1 cx e x = some (.slice a 0 cap)) (hs : cx.desc s = some (.slice el)) (hd : cx.desc d = some .string) (he : cx.desc el = some (.int .u8)) (q : W (.str []) h c []) :
    WpX (fun k => opM cx (call k) e ⟨ds, .convert s d x, ty, pos, af, gd⟩) h c W :=
  WpX.pure (fun k' => by
    show bnd (lift "operand" (ev1 cx e x)) (fun a => convertM cx s d a) h c = _
    rw [hx]
    refine bnd_eq (l := []) (l' := []) lift_eq ?_
    unfold convertM
    simp only [hs, hd, he]
    cases a with
    | none => rfl
    | some p => rfl) q
theorem strEq_refl : ∀ s : List UInt8, strEq s s = true
  | [] => rfl
  | x :: s => by simp [strEq, strEq_refl s]
end
end Go.Proofs.Ytcenbfjhhaialaa
