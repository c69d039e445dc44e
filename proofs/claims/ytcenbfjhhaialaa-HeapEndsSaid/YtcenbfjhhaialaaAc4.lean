/- The abstract evaluator against the model: operations that only compute. -/
import Derived.Test.YtcenbfjhhaialaaAc3
import Derived.Laws.StructEq
import Derived.Laws.Slices
set_option linter.unusedVariables false
set_option linter.unusedSectionVars false
set_option linter.unusedSimpArgs false
set_option linter.unnecessarySimpa false
namespace Go.Ab
open Go.RowKit

theorem u8_beq (a b : UInt8) : Nat.beq a.toNat b.toNat = (a == b) := by
  rw [Bool.eq_iff_iff, Nat.beq_eq, beq_iff_eq]
  exact ⟨fun h => UInt8.toNat_inj.1 h, fun h => by rw [h]⟩
theorem strEq_ok : ∀ (x y : List UInt8), strEq x y = (x == y)
  | [], [] => rfl
  | [], _ :: _ => rfl
  | _ :: _, [] => rfl
  | a :: x, b :: y => by
    have e : (a :: x == b :: y) = ((a == b) && (x == y)) := rfl
    rw [strEq, strEq_ok x y, u8_beq, e]
theorem strLt_ok : ∀ (x y : List UInt8), strLt x y = Op.bytesLess x y
  | _, [] => by unfold strLt Op.bytesLess; rfl
  | [], _ :: _ => rfl
  | a :: x, b :: y => by
    have e : Nat.blt a.toNat b.toNat = decide (a < b) := by
      rw [Bool.eq_iff_iff, decide_eq_true_iff, UInt8.lt_iff_toNat_lt]
      simp [Nat.blt_eq]
    rw [strLt, strLt_ok x y, u8_beq, e, Op.bytesLess]

theorem str_list (s : List UInt8) : (⟨⟨s⟩⟩ : ByteArray).toList = s := by rw [ByteArray.toList_eq]

section
variable {H : Type} [MapI H AObj] {P : Program} {ng : Nat} {w0 w : World} {φ : Nm} {h h' : H} {c c' : Nat} {l : List Acc}

theorem intBin_ok {op : BinOp} {k : IntKind} {x y : Int} {v : V} {t : Nat} (hs : op ≠ .shl ∧ op ≠ .shr) (h : intBin op k x y = some v) :
    ∃ u, VR φ v u ∧ (binOp op t (.int k x) (.int k y)).run P w = .ok u w := by
  cases op <;> simp only [intBin, Option.some.injEq] at h
  case quo =>
    split at h
    · cases h
    · next hy => cases h; exact ⟨_, .int _ _, by simp [binOp, Op.intDiv, hy]⟩
  case rem =>
    split at h
    · cases h
    · next hy => cases h; exact ⟨_, .int _ _, by simp [binOp, Op.intDiv, hy]⟩
  case shl => exact absurd rfl hs.1
  case shr => exact absurd rfl hs.2
  all_goals first
    | (subst h; exact ⟨_, .int _ _, by simp [binOp, Op.intArith, Op.intBits]⟩)
    | (subst h; exact ⟨_, .bool _, by simp [binOp, Op.intCmp]⟩)
    | (cases h; done)

theorem shiftBin_ok {op : BinOp} {k yk : IntKind} {x y : Int} {v : V} {t : Nat} (hs : op = .shl ∨ op = .shr) (h : shiftBin op k x y = some v) :
    ∃ u, VR φ v u ∧ (binOp op t (.int k x) (.int yk y)).run P w = .ok u w := by
  unfold shiftBin at h
  split at h
  · cases h
  · next hy =>
    rcases hs with rfl | rfl
    · cases h; exact ⟨_, .int _ _, by simp [binOp, Op.shift, hy]⟩
    · cases h; exact ⟨_, .int _ _, by simp [binOp, Op.shift, hy]⟩

theorem strBin_ok {op : BinOp} {x y : List UInt8} {v : V} {t : Nat} (h : strBin op x y = some v) :
    ∃ u, VR φ v u ∧ (binOp op t (.string ⟨⟨x⟩⟩) (.string ⟨⟨y⟩⟩)).run P w = .ok u w := by
  cases op <;> simp only [strBin, Option.some.injEq] at h
  case add =>
    split at h
    · next hl =>
      cases h
      refine ⟨.string ⟨⟨x ++ y⟩⟩, .str _, ?_⟩
      have e1 : (⟨⟨x⟩⟩ : ByteArray).size = x.length := rfl
      have e2 : (⟨⟨y⟩⟩ : ByteArray).size = y.length := rfl
      have e3 : ¬ ((x.length + y.length : Nat) : Int) > IntKind.i64.max := by
        have : IntKind.i64.max = 9223372036854775807 := by rfl
        omega
      have e4 : (⟨⟨x⟩⟩ : ByteArray) ++ ⟨⟨y⟩⟩ = ⟨⟨x ++ y⟩⟩ := by
        apply ByteArray.ext; rw [ByteArray.data_append]; simp
      simp only [binOp, Op.stringOp, e1, e2, Sem.run_ite]
      rw [if_neg e3, e4]; rfl
    · cases h
  case shl => cases h
  case shr => cases h
  all_goals first
    | (cases h; done)
    | (subst h; exact ⟨_, .bool _, by simp [binOp, Op.stringOp, strEq_ok, strLt_ok]⟩)

variable {cx : Cx} (hcx : CxOk P cx)
include hcx

theorem fieldsOf_ok {t : Nat} {fs : Array Field} (h : cx.desc t = some (.struct fs)) : P.fieldsOf t = fs := by
  simp [Program.fieldsOf, desc_ok hcx h]

theorem partV_ok {t off : Nat} {cs : List V} {us : List Value} {v : V} (hv : VRs φ cs us) (h : partV cx t cs off = some v) :
    ∃ u, VR φ v u ∧ (part t ⟨us⟩ off).run P w = .ok u w := by
  unfold partV at h
  cases hd : cx.desc t with
  | none => simp only [hd] at h; cases h
  | some d =>
    simp only [hd] at h
    by_cases ha : aggD d = true
    · rw [if_pos ha] at h
      cases hk : cx.size t with
      | none => simp only [hk] at h; cases h
      | some k =>
        simp only [hk, Option.map_eq_some_iff] at h
        obtain ⟨xs, hc, rfl⟩ := h
        obtain ⟨hle, hl, hg⟩ := cut_ok hc
        have hlen := hv.length
        refine ⟨.agg ⟨(us.drop off).take k⟩, .agg (VRs.of_get (by simp; omega) fun i v hi => ?_), ?_⟩
        · have hik : i < k := by
            rcases Nat.lt_or_ge i k with h | h
            · exact h
            · rw [List.getElem?_eq_none (by omega)] at hi; cases hi
          rw [hg i hik] at hi
          obtain ⟨u, h1, h2⟩ := hv.get hi
          exact ⟨u, by rw [List.getElem?_take, if_pos hik, List.getElem?_drop]; exact h1, h2⟩
        · simp only [part, Sem.run_bind, run_aggD hcx hd, ha, Result.andThen_ok, if_true, run_size hcx hk, Sem.run_pure]
          congr 3
          apply Array.ext'
          rw [Array.toList_extract]
          simp [List.extract, Nat.add_sub_cancel_left]
    · rw [if_neg ha] at h
      rw [nth_eq] at h
      obtain ⟨u, h1, h2⟩ := hv.get h
      refine ⟨u, h2, ?_⟩
      have e : (⟨us⟩ : Array Value)[off]? = some u := by simpa using h1
      simp only [part, Sem.run_bind, run_aggD hcx hd, Result.andThen_ok, ha, Bool.false_eq_true, if_false, e, Sem.run_pure]

mutual
theorem eqV_ok : ∀ (f d t : Nat) (x y : V) (x' y' : Value) (b : Bool), f ≤ d → VR φ x x' → VR φ y y' → eqV cx f t x y = some b → (Op.equalIn d t x' y').run P w = .ok b w
  | 0, _, _, _, _, _, _, _, _, _, _, h => by unfold eqV at h; cases h
  | f + 1, d, t, x, y, x', y', b, hd, hx, hy, h => by
    obtain ⟨d, rfl⟩ : ∃ e, d = e + 1 := ⟨d - 1, by omega⟩
    unfold eqV at h
    cases ht : cx.desc t with
    | none => simp only [ht] at h; cases h
    | some td =>
      have hu := desc_ok hcx ht
      simp only [ht] at h
      split at h
      · next ee => cases ee; cases hx; cases hy; cases h; simp [Op.equalIn, run_underlying hu]
      · next ee =>
        cases ee; cases hx; cases hy
        split at h
        · next hk => subst hk; cases h; simp [Op.equalIn, run_underlying hu]
        · cases h
      · next ee => cases ee; cases hx; cases hy; cases h; rw [run_equalIn_string _ _ _ _ _ hu, str_list, str_list, strEq_ok]
      · next ee => cases ee; cases hx; cases hy; cases h; simp [Op.equalIn, run_underlying hu]
      · next ee => cases ee; cases hx; cases hy; cases h; simp [Op.equalIn, run_underlying hu]
      · next ee =>
        cases ee; cases hx with | iface _ a => ?_
        cases hy with | iface _ a' => ?_
        split at h
        · next hne => cases h; simp [Op.equalIn, run_underlying hu, hne]
        · next hne =>
          simp only [ne_eq, Decidable.not_not] at hne; subst hne
          split at h
          · next i hi =>
            split at h
            · next hc =>
              have := eqV_ok f d _ _ _ _ _ b (by omega) a a' h
              simp [Op.equalIn, run_underlying hu, run_typeInfo w (hcx.ty _ _ hi), hc, this]
            · cases h
          · cases h
      · next fields xs ys ee =>
        cases ee; cases hx with | agg a => ?_
        cases hy with | agg a' => ?_
        split at h
        · next he =>
          have hf := fieldsOf_ok hcx ht
          rw [run_equalIn_struct w d t _ _ (by rw [hf]; exact hu) (hcx.eqOk _ he).1, hf]
          exact eqFs_ok f d fields.toList xs ys _ _ b (by omega) a a' h
        · cases h
      · cases h
theorem eqFs_ok : ∀ (f d : Nat) (fs : List Field) (xs ys : List V) (us vs : List Value) (b : Bool), f ≤ d → VRs φ xs us → VRs φ ys vs → eqFs cx f fs xs ys = some b →
    (Op.eqFields d ⟨us⟩ ⟨vs⟩ fs).run P w = .ok b w
  | f, d, [], _, _, _, _, b, _, _, _, h => by
    have : b = true := by cases f <;> (unfold eqFs at h; cases h; rfl)
    subst this; simp [Op.eqFields]
  | 0, _, _ :: _, _, _, _, _, _, _, _, _, h => by unfold eqFs at h; cases h
  | f + 1, d, g :: gs, xs, ys, us, vs, b, hd, hx, hy, h => by
    unfold eqFs at h
    split at h
    · cases h
    · next hn =>
      split at h
      · next a a' h1 h2 =>
        obtain ⟨u1, hu1, hr1⟩ := partV_ok (P := P) (w := w) hcx hx h1
        obtain ⟨u2, hu2, hr2⟩ := partV_ok (P := P) (w := w) hcx hy h2
        split at h
        · next h3 =>
          have e1 := eqV_ok f d _ _ _ _ _ true (by omega) hu1 hu2 h3
          have e2 := eqFs_ok f d gs xs ys us vs b (by omega) hx hy h
          simp only [Op.eqFields, ne_eq, hn, not_false_eq_true, if_true, Sem.run_bind, hr1, hr2, e1, Result.andThen_ok, Bool.not_true, Bool.false_eq_true, if_false, e2]
        · next r h3 =>
          have hb : b = false := by
            cases b
            · rfl
            · exact absurd h h3
          subst hb
          have e1 := eqV_ok f d _ _ _ _ _ false (by omega) hu1 hu2 h
          simp only [Op.eqFields, ne_eq, hn, not_false_eq_true, if_true, Sem.run_bind, hr1, hr2, e1, Result.andThen_ok, Bool.not_false, Sem.run_pure]
      · cases h
end

theorem fieldV_ok {s f : Nat} {x v : V} {u : Value} (hx : VR φ x u) (h : fieldV cx s x f = some v) : ∃ u', VR φ v u' ∧ (Instr.field s u f).run P w = .ok u' w := by
  unfold fieldV at h
  cases ht : cx.desc s with
  | none => simp only [ht] at h; cases h
  | some td =>
    simp only [ht] at h
    split at h
    · next fields cs ee =>
      cases ee; cases hx with | agg a => ?_
      split at h
      · next d hd =>
        rw [nth_eq] at hd
        obtain ⟨u', h1, h2⟩ := partV_ok (P := P) (w := w) hcx a h
        refine ⟨u', h1, ?_⟩
        have e : fields[f]? = some d := by rw [← Array.getElem?_toList]; exact hd
        simp only [Instr.field, Sem.run_bind, run_und hcx ht, Result.andThen_ok, e, asAgg, Sem.run_pure, h2]
      · cases h
    · cases h

theorem fieldAddrV_ok {s f : Nat} {x v : V} {u : Value} (hx : VR φ x u) (h : fieldAddrV cx s x f = some v) : ∃ u', VR φ v u' ∧ (Instr.fieldAt s u f).run P w = .ok u' w := by
  unfold fieldAddrV at h
  cases ht : cx.desc s with
  | none => simp only [ht] at h; cases h
  | some td =>
    simp only [ht] at h
    split at h
    · next fields n o ee =>
      cases ee; cases hx with | ptr _ hL => ?_
      rename_i L
      split at h
      · next d hd =>
        rw [nth_eq] at hd
        split at h
        · next k hk =>
          cases h
          refine ⟨.pointer (some ⟨L.blk, L.off + (o + d.offset), none⟩), .ptr _ hL, ?_⟩
          have e : fields[f]? = some d := by rw [← Array.getElem?_toList]; exact hd
          simp only [Instr.fieldAt, Sem.run_bind, run_und hcx ht, Result.andThen_ok, e, Instr.sureAddr, Sem.run_pure, fieldPlace, run_size hcx hk, Nat.add_one_ne_zero, if_false, addr_add, Nat.add_assoc]
        · cases h
      · cases h
    · cases h

theorem indexV_ok {t : Nat} {x i v : V} {u q : Value} (hx : VR φ x u) (hi : VR φ i q) (h : indexV cx t x i = some v) : ∃ u', VR φ v u' ∧ (Instr.index t u q).run P w = .ok u' w := by
  unfold indexV at h
  cases ht : cx.desc t with
  | none => simp only [ht] at h; cases h
  | some td =>
    simp only [ht] at h
    split at h
    · next len e cs k i ee =>
      cases ee; cases hx with | agg a => ?_
      cases hi
      split at h
      · next hb =>
        split at h
        · next sz hsz =>
          obtain ⟨u', h1, h2⟩ := partV_ok (P := P) (w := w) hcx a h
          refine ⟨u', h1, ?_⟩
          simp only [Instr.index, asIntOf, Sem.run_bind, Sem.run_pure, Result.andThen_ok, run_und hcx ht, hb, and_self, if_true, run_size hcx hsz, h2]
        · cases h
      · cases h
    · next s k i ee =>
      cases ee; cases hx; cases hi
      split at h
      · next hb =>
        split at h
        · next b hn =>
          cases h
          rw [nth_eq] at hn
          refine ⟨_, .int _ _, ?_⟩
          have e : (⟨⟨s⟩⟩ : ByteArray)[i.toNat]? = some b := by
            obtain ⟨hlt, hg⟩ := List.getElem?_eq_some_iff.1 hn
            have hlt' : i.toNat < (⟨⟨s⟩⟩ : ByteArray).size := hlt
            rw [getElem?_pos (⟨⟨s⟩⟩ : ByteArray) i.toNat hlt']
            exact congrArg some hg
          simp only [Instr.index, asIntOf, Sem.run_bind, Sem.run_pure, Result.andThen_ok, run_und hcx ht, hb, if_true, e]
        · cases h
      · cases h
    · cases h
end
end Go.Ab
