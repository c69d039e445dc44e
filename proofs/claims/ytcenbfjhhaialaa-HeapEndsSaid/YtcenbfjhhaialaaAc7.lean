/- The abstract evaluator against the model: binary operations, slice expressions, addresses of elements, lengths. -/
import Derived.Test.YtcenbfjhhaialaaAc6
set_option linter.unusedVariables false
set_option linter.unusedSectionVars false
set_option linter.unusedSimpArgs false
set_option linter.unnecessarySimpa false
namespace Go.Ab
open Go.RowKit

section
variable {H : Type} [MapI H AObj] {P : Program} {ng : Nat} {w0 w : World} {φ : Nm} {h h' : H} {c c' : Nat} {l : List Acc}

theorem guard_free {op : BinOp} {t : Nat} {X Y : Operand} {a b : Value} (h1 : ∀ xs ys, ¬ (a = .agg xs ∧ b = .agg ys)) (h2 : ¬ (a = .nilIface ∧ b = .nilIface)) : (eqGuard op t X Y a b).run P w = .ok () w := by
  unfold eqGuard
  cases op <;> simp only [Bool.not_true, Bool.not_false, Bool.false_eq_true, if_false, if_true] <;> first
    | rfl
    | (split
       · exact absurd ⟨rfl, rfl⟩ h2
       · exact absurd ⟨rfl, rfl⟩ (h1 _ _)
       · rfl)
theorem guard_nil {op : BinOp} {t : Nat} {X Y : Operand} (hc : (isConst X || isConst Y) = true) : (eqGuard op t X Y .nilIface .nilIface).run P w = .ok () w := by
  unfold eqGuard
  cases op <;> simp only [Bool.not_true, Bool.not_false, Bool.false_eq_true, if_false, if_true] <;> first
    | rfl
    | (cases X <;> cases Y <;> first | rfl | (simp [isConst] at hc))

theorem eql_run {t : Nat} {a b : Value} {r : Bool} (h : (Op.equal t a b).run P w = .ok r w)
    (hi : ∀ j k x y, ¬ (a = .int j x ∧ b = .int k y)) (hs : ∀ x y, ¬ (a = .string x ∧ b = .string y)) (hf : ∀ j k x y, ¬ (a = .float j x ∧ b = .float k y))
    (hc : ∀ j k x y z u, ¬ (a = .complex j x y ∧ b = .complex k z u)) : (binOp .eql t a b).run P w = .ok (.bool r) w := by
  cases a <;> cases b <;> first
    | (simp only [binOp, Sem.run_bind, h, Result.andThen_ok, Sem.run_pure]; done)
    | exact absurd ⟨rfl, rfl⟩ (hi _ _ _ _) | exact absurd ⟨rfl, rfl⟩ (hs _ _) | exact absurd ⟨rfl, rfl⟩ (hf _ _ _ _) | exact absurd ⟨rfl, rfl⟩ (hc _ _ _ _ _ _)
theorem neq_run {t : Nat} {a b : Value} {r : Bool} (h : (Op.equal t a b).run P w = .ok r w)
    (hi : ∀ j k x y, ¬ (a = .int j x ∧ b = .int k y)) (hs : ∀ x y, ¬ (a = .string x ∧ b = .string y)) (hf : ∀ j k x y, ¬ (a = .float j x ∧ b = .float k y))
    (hc : ∀ j k x y z u, ¬ (a = .complex j x y ∧ b = .complex k z u)) : (binOp .neq t a b).run P w = .ok (.bool (!r)) w := by
  cases a <;> cases b <;> first
    | (simp only [binOp, Sem.run_bind, h, Result.andThen_ok, Sem.run_pure]; done)
    | exact absurd ⟨rfl, rfl⟩ (hi _ _ _ _) | exact absurd ⟨rfl, rfl⟩ (hs _ _) | exact absurd ⟨rfl, rfl⟩ (hf _ _ _ _) | exact absurd ⟨rfl, rfl⟩ (hc _ _ _ _ _ _)

variable {cx : Cx} (hcx : CxOk P cx)
include hcx

/-- An aggregate is compared at a type at which == is the plain one. -/
theorem guard_agg {op : BinOp} {t : Nat} {X Y : Operand} {xs ys : List V} {us vs : Array Value} {b : Bool} (e : (eqM cx t (.agg xs) (.agg ys) : M H Bool) h c = .ok b h' c' l) :
    (eqGuard op t X Y (.agg us) (.agg vs)).run P w = .ok () w := by
  have key : ∀ b, eqV cx 200 t (.agg xs) (.agg ys) = some b → cx.eqOk t = true := fun b hb => by
    unfold eqV at hb
    cases hd : cx.desc t with
    | none => simp only [hd] at hb; cases hb
    | some d =>
      cases d <;> simp only [hd] at hb <;> try (cases hb; done)
      split at hb
      · next he => exact he
      · cases hb
  have hk : cx.eqOk t = true := by
    unfold eqM at e
    cases hd : cx.desc t with
    | none => simp only [hd] at e; exact key _ (lift_ok e).1
    | some d => cases d <;> simp only [hd] at e <;> exact key _ (lift_ok e).1
  exact run_eqGuard_agg w op t X Y us vs (hcx.eqOk _ hk).2

theorem binM_ok (r : Rel ng w0 φ h w) {op : BinOp} {t : Nat} {X Y : Operand} {x y v : V} {x' y' : Value} (hx : VR φ x x') (hy : VR φ y y')
    (e : binM cx op t (isConst X || isConst Y) x y h c = .ok v h' c' l) :
    h' = h ∧ c' = c ∧ ∃ u, VR φ v u ∧ (do eqGuard op t X Y x' y'; binOp op t x' y' : Sem Value).run P w = .ok u w := by
  have go : ∀ u, (eqGuard op t X Y x' y').run P w = .ok () w → (binOp op t x' y').run P w = .ok u w → (do eqGuard op t X Y x' y'; binOp op t x' y' : Sem Value).run P w = .ok u w := fun u h1 h2 => by
    simp only [Sem.run_bind, h1, Result.andThen_ok, h2]
  unfold binM at e
  split at e
  · next k a k2 b =>
    cases hx; cases hy
    obtain ⟨e1, rfl, rfl, _⟩ := lift_ok e
    obtain ⟨u, h1, h2⟩ := shiftBin_ok (P := P) (w := w) (φ := φ) (yk := k2) (t := t) (.inl rfl) e1
    exact ⟨rfl, rfl, u, h1, go u (guard_free (by simp) (by simp)) h2⟩
  · next k a k2 b =>
    cases hx; cases hy
    obtain ⟨e1, rfl, rfl, _⟩ := lift_ok e
    obtain ⟨u, h1, h2⟩ := shiftBin_ok (P := P) (w := w) (φ := φ) (yk := k2) (t := t) (.inr rfl) e1
    exact ⟨rfl, rfl, u, h1, go u (guard_free (by simp) (by simp)) h2⟩
  · next op k a k2 b n1 n2 =>
    cases hx; cases hy
    split at e
    · next hk =>
      subst hk
      obtain ⟨e1, rfl, rfl, _⟩ := lift_ok e
      obtain ⟨u, h1, h2⟩ := intBin_ok (P := P) (w := w) (φ := φ) (t := t) ⟨fun hh => n1 hh, fun hh => n2 hh⟩ e1
      exact ⟨rfl, rfl, u, h1, go u (guard_free (by simp) (by simp)) h2⟩
    · exact (fail_ok e).elim
  · cases hx; cases hy
    obtain ⟨e1, rfl, rfl, _⟩ := lift_ok e
    obtain ⟨u, h1, h2⟩ := strBin_ok (P := P) (w := w) (φ := φ) (t := t) e1
    exact ⟨rfl, rfl, u, h1, go u (guard_free (by simp) (by simp)) h2⟩
  · cases hx; cases hy
    split at e
    · next hc =>
      cases hd : cx.desc t with
      | none => simp only [hd] at e; exact (fail_ok e).elim
      | some d =>
        simp only [hd] at e
        cases d <;> try exact (fail_ok e).elim
        obtain ⟨rfl, rfl, rfl, _⟩ := ret_ok e
        exact ⟨rfl, rfl, _, .bool _, go _ (guard_nil hc) (eql_run (eqIn_ifaceNil w 9999 (desc_ok hcx hd)) (by simp) (by simp) (by simp) (by simp))⟩
    · exact (fail_ok e).elim
  · cases hx; cases hy
    split at e
    · next hc =>
      cases hd : cx.desc t with
      | none => simp only [hd] at e; exact (fail_ok e).elim
      | some d =>
        simp only [hd] at e
        cases d <;> try exact (fail_ok e).elim
        obtain ⟨rfl, rfl, rfl, _⟩ := ret_ok e
        exact ⟨rfl, rfl, _, .bool _, go _ (guard_nil hc) (neq_run (eqIn_ifaceNil w 9999 (desc_ok hcx hd)) (by simp) (by simp) (by simp) (by simp))⟩
    · exact (fail_ok e).elim
  · next n1 n2 n3 =>
    obtain ⟨b, h1, c1, l1, l2, e1, e2, _⟩ := bnd_ok e
    obtain ⟨rfl, rfl, hr⟩ := eqM_ok hcx r hx hy e1
    obtain ⟨rfl, rfl, rfl, _⟩ := ret_ok e2
    refine ⟨rfl, rfl, _, .bool _, go _ ?_ (eql_run hr ?_ ?_ ?_ ?_)⟩
    · cases hx <;> cases hy <;> first
        | exact (n3 rfl rfl).elim
        | exact guard_agg hcx e1
        | exact guard_free (by simp) (by simp)
    · intro j k a b hh; obtain ⟨rfl, rfl⟩ := hh; cases hx; cases hy; exact (n1 _ _ _ _ rfl rfl).elim
    · intro a b hh; obtain ⟨rfl, rfl⟩ := hh; cases hx; cases hy; exact (n2 _ _ rfl rfl).elim
    · intro j k a b hh; obtain ⟨rfl, rfl⟩ := hh; cases hx
    · intro j k a b c d hh; obtain ⟨rfl, rfl⟩ := hh; cases hx
  · next n1 n2 n3 =>
    obtain ⟨b, h1, c1, l1, l2, e1, e2, _⟩ := bnd_ok e
    obtain ⟨rfl, rfl, hr⟩ := eqM_ok hcx r hx hy e1
    obtain ⟨rfl, rfl, rfl, _⟩ := ret_ok e2
    refine ⟨rfl, rfl, _, .bool _, go _ ?_ (neq_run hr ?_ ?_ ?_ ?_)⟩
    · cases hx <;> cases hy <;> first
        | exact (n3 rfl rfl).elim
        | exact guard_agg hcx e1
        | exact guard_free (by simp) (by simp)
    · intro j k a b hh; obtain ⟨rfl, rfl⟩ := hh; cases hx; cases hy; exact (n1 _ _ _ _ rfl rfl).elim
    · intro a b hh; obtain ⟨rfl, rfl⟩ := hh; cases hx; cases hy; exact (n2 _ _ rfl rfl).elim
    · intro j k a b hh; obtain ⟨rfl, rfl⟩ := hh; cases hx
    · intro j k a b c d hh; obtain ⟨rfl, rfl⟩ := hh; cases hx
  · exact (fail_ok e).elim
end
end Go.Ab
