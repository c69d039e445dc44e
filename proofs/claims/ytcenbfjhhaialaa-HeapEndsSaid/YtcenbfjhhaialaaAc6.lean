/- The abstract evaluator against the model: comparisons, slice expressions, addresses of elements, lengths, maps. -/
import Derived.Test.YtcenbfjhhaialaaAc5
set_option linter.unusedVariables false
set_option linter.unusedSectionVars false
set_option linter.unusedSimpArgs false
set_option linter.unnecessarySimpa false
namespace Go.Ab
open Go.RowKit

/-! ## == on what is nil, or a pointer -/
section
variable {P : Program} {t : Nat} (w : World) (d : Nat)
theorem eqIn_ptrNil {el : TypeId} (hu : P.underlying t = some (.pointer el)) (b : Option Addr) : (Op.equalIn (d + 1) t (.pointer none) (.pointer b)).run P w = .ok b.isNone w := by simp [Op.equalIn, run_underlying hu]
theorem eqIn_nilPtr {el : TypeId} (hu : P.underlying t = some (.pointer el)) (a : Addr) : (Op.equalIn (d + 1) t (.pointer (some a)) (.pointer none)).run P w = .ok false w := by simp [Op.equalIn, run_underlying hu]
theorem eqIn_ptr {el : TypeId} (hu : P.underlying t = some (.pointer el)) {k : Nat} (hs : (sizeOf el).run P w = .ok (k + 1) w) (a b : Addr) :
    (Op.equalIn (d + 1) t (.pointer (some a)) (.pointer (some b))).run P w = (sameAddr a b).run P w := by
  simp [Op.equalIn, run_underlying hu, hs]
theorem eqIn_sliceNil {el : TypeId} (hu : P.underlying t = some (.slice el)) (a : Option Addr) (i j k m : Nat) : (Op.equalIn (d + 1) t (.slice none i j) (.slice a k m)).run P w = .ok a.isNone w := by simp [Op.equalIn, run_underlying hu]
theorem eqIn_nilSlice {el : TypeId} (hu : P.underlying t = some (.slice el)) (a : Addr) (i j k m : Nat) : (Op.equalIn (d + 1) t (.slice (some a) i j) (.slice none k m)).run P w = .ok false w := by simp [Op.equalIn, run_underlying hu]
theorem eqIn_mapNil {k el : TypeId} (hu : P.underlying t = some (.map k el)) (a : Option Nat) : (Op.equalIn (d + 1) t (.map none) (.map a)).run P w = .ok a.isNone w := by simp [Op.equalIn, run_underlying hu]
theorem eqIn_nilMap {k el : TypeId} (hu : P.underlying t = some (.map k el)) (a : Nat) : (Op.equalIn (d + 1) t (.map (some a)) (.map none)).run P w = .ok false w := by simp [Op.equalIn, run_underlying hu]
theorem eqIn_funcNil {p q : Array TypeId} {v : Bool} (hu : P.underlying t = some (.func p q v)) : (Op.equalIn (d + 1) t .nilFunc .nilFunc).run P w = .ok true w := by simp [Op.equalIn, run_underlying hu]
theorem eqIn_funcNil1 {p q : Array TypeId} {v : Bool} (hu : P.underlying t = some (.func p q v)) (f : Fn) (a b : Array Value) : (Op.equalIn (d + 1) t .nilFunc (.func f a b)).run P w = .ok false w := by simp [Op.equalIn, run_underlying hu]
theorem eqIn_funcNil2 {p q : Array TypeId} {v : Bool} (hu : P.underlying t = some (.func p q v)) (f : Fn) (a b : Array Value) : (Op.equalIn (d + 1) t (.func f a b) .nilFunc).run P w = .ok false w := by simp [Op.equalIn, run_underlying hu]
theorem eqIn_ifaceNil {ms : Array (String × TypeId)} (hu : P.underlying t = some (.interface ms)) : (Op.equalIn (d + 1) t .nilIface .nilIface).run P w = .ok true w := by simp [Op.equalIn, run_underlying hu]
end

section
variable {H : Type} [MapI H AObj] {P : Program} {ng : Nat} {w0 w : World} {φ : Nm} {h h' : H} {c c' : Nat} {l : List Acc}
variable {cx : Cx} (hcx : CxOk P cx)
include hcx

/-! ## == -/

theorem eqM_ok (r : Rel ng w0 φ h w) {t : Nat} {x y : V} {x' y' : Value} {b : Bool} (hx : VR φ x x') (hy : VR φ y y') (e : eqM cx t x y h c = .ok b h' c' l) :
    h' = h ∧ c' = c ∧ (Op.equal t x' y').run P w = .ok b w := by
  have fb : (lift "==: not asked here" (eqV cx 200 t x y) : M H Bool) h c = .ok b h' c' l → h' = h ∧ c' = c ∧ (Op.equal t x' y').run P w = .ok b w := fun e => by
    obtain ⟨e1, rfl, rfl, _⟩ := lift_ok e
    exact ⟨rfl, rfl, eqV_ok hcx 200 Op.maxDepth t x y x' y' b (by decide) hx hy e1⟩
  unfold eqM at e
  cases hd : cx.desc t with
  | none => simp only [hd] at e; exact fb e
  | some d =>
    have hu := desc_ok hcx hd
    simp only [hd] at e
    cases d
    case pointer el =>
      cases hx <;> try exact fb e
      case ptrNil =>
        cases hy <;> try exact fb e
        · obtain ⟨rfl, rfl, rfl, _⟩ := ret_ok e; exact ⟨rfl, rfl, eqIn_ptrNil w 9999 hu _⟩
        · obtain ⟨rfl, rfl, rfl, _⟩ := ret_ok e; exact ⟨rfl, rfl, eqIn_ptrNil w 9999 hu _⟩
      case ptr n L o hL =>
        cases hy <;> try exact fb e
        case ptrNil => obtain ⟨rfl, rfl, rfl, _⟩ := ret_ok e; exact ⟨rfl, rfl, eqIn_nilPtr w 9999 hu _⟩
        case ptr m K p hK =>
          simp only at e
          cases hs : cx.size el with
          | none => simp only [hs] at e; exact (fail_ok e).elim
          | some k =>
            cases k with
            | zero => simp only [hs] at e; exact (fail_ok e).elim
            | succ k =>
              simp only [hs] at e
              have hsz := run_size hcx hs w
              by_cases hnm : n = m
              · subst hnm
                rw [hL] at hK; cases hK
                rw [if_pos rfl] at e
                obtain ⟨rfl, rfl, rfl, _⟩ := ret_ok e
                refine ⟨rfl, rfl, ?_⟩
                have : ((⟨L.blk, L.off + o, none⟩ : Addr) == ⟨L.blk, L.off + p, none⟩) = (o == p) := by
                  rw [Bool.eq_iff_iff, beq_iff_eq, beq_iff_eq]; simp
                refine (eqIn_ptr w 9999 hu hsz _ _).trans ?_
                simp [sameAddr, this]
              · rw [if_neg hnm] at e
                obtain ⟨o1, h1, c1, l1, l2, e1, e2, _⟩ := bnd_ok e
                obtain ⟨hn, rfl, rfl, _⟩ := getM_ok e1
                split at e2
                · next cs =>
                  split at e2
                  · next ho =>
                    obtain ⟨o2, h2, c2, l3, l4, e3, e4, _⟩ := bnd_ok e2
                    obtain ⟨hm, rfl, rfl, _⟩ := getM_ok e3
                    split at e4
                    · next ds =>
                      split at e4
                      · next hp =>
                        obtain ⟨rfl, rfl, rfl, _⟩ := ret_ok e4
                        refine ⟨rfl, rfl, ?_⟩
                        have hap := r.apart n m _ _ L K hnm hn hm rfl rfl hL hK
                        obtain ⟨L', hL', ⟨C, ee, fr, hb, _, _, _, _, hcl⟩, _⟩ := r.obj n _ hn
                        rw [hL] at hL'; cases hL'
                        obtain ⟨K', hK', ⟨D, ef, fs, hb', _, _, _, _, hcl'⟩, _⟩ := r.obj m _ hm
                        rw [hK] at hK'; cases hK'
                        have := (hcl rfl).1; subst this
                        have := (hcl' rfl).1; subst this
                        have f1 : ∀ i, w.frozen? ⟨L.blk, i, none⟩ = false := fun i => by rw [frozen_at hb]; simp
                        have f2 : ∀ i, w.frozen? ⟨K.blk, i, none⟩ = false := fun i => by rw [frozen_at hb']; simp
                        have s1 : w.shape? L.blk = some (ee, C.size) := by simp [World.shape?, hb]
                        have s2 : w.shape? K.blk = some (ef, D.size) := by simp [World.shape?, hb']
                        have hbne : (L.blk == K.blk) = false := by simpa using hap
                        refine (eqIn_ptr w 9999 hu hsz _ _).trans ?_
                        simp [sameAddr, hap, f1, f2, s1, s2, noView, viewAt, mayBeOne, stringish]
                      · exact (fail_ok e4).elim
                    · exact (fail_ok e4).elim
                  · exact (fail_ok e2).elim
                · exact (fail_ok e2).elim
    case slice el =>
      cases hx <;> try exact fb e
      case sliceNil =>
        cases hy <;> try exact fb e
        all_goals (obtain ⟨rfl, rfl, rfl, _⟩ := ret_ok e; exact ⟨rfl, rfl, eqIn_sliceNil w 9999 hu _ _ _ _ _⟩)
      all_goals
        cases hy <;> try exact fb e
        all_goals (obtain ⟨rfl, rfl, rfl, _⟩ := ret_ok e; exact ⟨rfl, rfl, eqIn_nilSlice w 9999 hu _ _ _ _ _⟩)
    case map kt el =>
      cases hx <;> try exact fb e
      case mapNil =>
        cases hy <;> try exact fb e
        all_goals (obtain ⟨rfl, rfl, rfl, _⟩ := ret_ok e; exact ⟨rfl, rfl, eqIn_mapNil w 9999 hu _⟩)
      case map =>
        cases hy <;> try exact fb e
        all_goals (obtain ⟨rfl, rfl, rfl, _⟩ := ret_ok e; exact ⟨rfl, rfl, eqIn_nilMap w 9999 hu _⟩)
    case func ps rs v =>
      cases hx <;> try exact fb e
      case nilFunc =>
        cases hy <;> try exact fb e
        all_goals (obtain ⟨rfl, rfl, rfl, _⟩ := ret_ok e; first | exact ⟨rfl, rfl, eqIn_funcNil w 9999 hu⟩ | exact ⟨rfl, rfl, eqIn_funcNil1 w 9999 hu _ _ _⟩)
      case func =>
        cases hy <;> try exact fb e
        all_goals (obtain ⟨rfl, rfl, rfl, _⟩ := ret_ok e; exact ⟨rfl, rfl, eqIn_funcNil2 w 9999 hu _ _ _⟩)
    all_goals exact fb e
end
end Go.Ab
