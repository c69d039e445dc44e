/- The abstract evaluator against the model: append, copy, least and greatest, conversions, assertions. -/
import Derived.Test.YtcenbfjhhaialaaAc9
set_option linter.unusedVariables false
set_option linter.unusedSectionVars false
set_option linter.unusedSimpArgs false
set_option linter.unnecessarySimpa false
namespace Go.Ab
open Go.RowKit

section
variable {H : Type} [MapI H AObj] {P : Program} {ng : Nat} {w0 w : World} {φ : Nm} {h h' : H} {c c' : Nat} {l : List Acc}

theorem u8s_ok (s : List UInt8) : VRs φ (u8s s) (s.map fun b => Value.int .u8 b.toNat) := by
  induction s with
  | nil => exact .nil
  | cons b s ih => exact .cons (.int _ _) ih

theorem cells_same {w2 : World} (hw : w2.heap = w.heap) (a : Addr) : w2.cell? a = w.cell? a := by simp [World.cell?, hw]

/-- The first elements of a slice or a string: in any world of that heap. -/
theorem firstM_ok (r : Rel ng w0 φ h w) {k n : Nat} {x : V} {x' : Value} {cs : List V} (hx : VR φ x x') (e : firstM k n x h c = .ok cs h' c' l) :
    h' = h ∧ c' = c ∧ ∃ us, VRs φ cs us ∧ ∀ w2 : World, w2.heap = w.heap → (Builtin.firstCells k n x').run P w2 = .ok us.toArray w2 := by
  have go : ∀ (m o len : Nat) (cap : Cap) (L : Loc) (cc : Nat) (a : Addr), x = .slice (some (m, o)) len cap → x' = .slice (some a) len cc → φ m = some L → (0 < len → a = ⟨L.blk, L.off + o, none⟩) →
      h' = h ∧ c' = c ∧ ∃ us, VRs φ cs us ∧ ∀ w2 : World, w2.heap = w.heap → (Builtin.firstCells k n x').run P w2 = .ok us.toArray w2 := fun m o len cap L cc a hxe hue hL ha => by
    subst hxe; subst hue
    unfold firstM at e
    simp only at e
    by_cases h0 : n = 0
    · rw [if_pos h0] at e
      obtain ⟨rfl, rfl, rfl, _⟩ := ret_ok e
      refine ⟨rfl, rfl, [], .nil, fun w2 _ => ?_⟩
      subst h0
      simp only [Builtin.firstCells, Nat.zero_mul]
      rfl
    · rw [if_neg h0] at e
      by_cases hle : n ≤ len
      rotate_left
      · rw [if_neg hle] at e; exact (fail_ok e).elim
      rw [if_pos hle] at e
      have ha := ha (by omega)
      subst ha
      obtain ⟨rfl, rfl, hl, L', us, hL', hul, hv, _, hcell⟩ := loadC_ok (P := P) r e
      rw [hL] at hL'; cases hL'
      refine ⟨rfl, rfl, us, hv, fun w2 hw2 => ?_⟩
      have := run_loadCells_list (P := P) w2 ⟨L.blk, L.off + o, none⟩ us (fun j u hu => by rw [addr_add, cells_same hw2]; exact hcell j u hu)
      rw [hul] at this
      exact this
  cases hx with
  | sliceNil =>
    unfold firstM at e
    simp only at e
    by_cases h0 : n = 0
    · rw [if_pos h0] at e
      obtain ⟨rfl, rfl, rfl, _⟩ := ret_ok e
      exact ⟨rfl, rfl, [], .nil, fun w2 _ => rfl⟩
    · rw [if_neg h0] at e; exact (fail_ok e).elim
  | sliceK _ _ _ hL _ => exact go _ _ _ _ _ _ _ rfl rfl hL (fun _ => rfl)
  | sliceK0 _ _ hL => exact go _ _ _ _ _ _ _ rfl rfl hL (fun h => by omega)
  | sliceU _ _ _ _ hL _ _ _ => exact go _ _ _ _ _ _ _ rfl rfl hL (fun _ => rfl)
  | sliceZ _ _ _ hL _ _ => exact go _ _ _ _ _ _ _ rfl rfl hL (fun h => by omega)
  | str s =>
    unfold firstM at e
    simp only at e
    by_cases hle : n ≤ s.length
    rotate_left
    · rw [if_neg hle] at e; exact (fail_ok e).elim
    rw [if_pos hle] at e
    obtain ⟨rfl, rfl, rfl, _⟩ := ret_ok e
    refine ⟨rfl, rfl, _, u8s_ok _, fun w2 _ => ?_⟩
    simp only [Builtin.firstCells, extract_str, List.drop_zero, Nat.sub_zero, Sem.run_pure]
    congr 1
    apply Array.ext'
    simp
  | _ => unfold firstM at e; exact (fail_ok e).elim

def zerosOf (xt : Option Nat) : Sem Bool :=
  match xt with
  | some xType => do pure ((← underlying xType) matches .int _)
  | none => pure false
/-- What is appended: how the model counts it, and its cells. -/
def AppOk (P : Program) (φ : Nm) (w : World) (e k n : Nat) (xt : Option Nat) (x' : Value) (new : List V) : Prop :=
  ∃ us zeros, VRs φ new us ∧ (zerosOf xt).run P w = .ok zeros w ∧
    (zeros = true → ∃ q i, x' = .int q i ∧ 0 ≤ i ∧ i ≤ 1000000000 ∧ i.toNat = n ∧ ∃ it zv, P.info? e = some it ∧ it.zero = some zv ∧ us.toArray = Builtin.zeroCells zv.cells n ∧ zv.cells.size = it.size) ∧
    (zeros = false → (Builtin.lenOf x').run P w = .ok n w ∧ ∀ w2 : World, w2.heap = w.heap → (Builtin.firstCells (k + 1) n x').run P w2 = .ok us.toArray w2)

variable {cx : Cx} (hcx : CxOk P cx)
include hcx

theorem appendedM_ok (r : Rel ng w0 φ h w) {e k n : Nat} {xt : Option Nat} {x : V} {x' : Value} {new : List V} (hx : VR φ x x')
    (hrun : appendedM cx e (k + 1) xt x h c = .ok (n, new) h' c' l) : h' = h ∧ c' = c ∧ AppOk P φ w e k n xt x' new := by
  have slicy : ∀ (m : Option (Nat × Nat)) (len : Nat) (cap : Cap), x = .slice m len cap → (zerosOf xt).run P w = .ok false w →
      (bnd (firstM (k + 1) len x) fun cs => ret (len, cs)) h c = .ok (n, new) h' c' l → h' = h ∧ c' = c ∧ AppOk P φ w e k n xt x' new := by
    intro m len cap hxe hxt he
    obtain ⟨cs, h1, c1, l1, l2, e1, e2, _⟩ := bnd_ok he
    obtain ⟨rfl, rfl, us, hv, hf⟩ := firstM_ok (P := P) r hx e1
    obtain ⟨e3, rfl, rfl, _⟩ := ret_ok e2
    cases e3
    refine ⟨rfl, rfl, us, false, hv, hxt, fun hh => (by cases hh), fun _ => ⟨?_, hf⟩⟩
    subst hxe
    cases hx <;> rfl
  have stringy : ∀ (s : List UInt8), x = .str s → (zerosOf xt).run P w = .ok false w →
      (if k + 1 = 1 then ret (s.length, u8s s) else fail "append: string" : M H (Nat × List V)) h c = .ok (n, new) h' c' l → h' = h ∧ c' = c ∧ AppOk P φ w e k n xt x' new := by
    intro s hxe hxt he
    by_cases h1 : k + 1 = 1
    rotate_left
    · rw [if_neg h1] at he; exact (fail_ok he).elim
    rw [if_pos h1] at he
    obtain ⟨e3, rfl, rfl, _⟩ := ret_ok he
    cases e3
    subst hxe
    cases hx
    refine ⟨rfl, rfl, _, false, u8s_ok _, hxt, fun hh => (by cases hh), fun _ => ⟨rfl, fun w2 _ => ?_⟩⟩
    simp only [Builtin.firstCells, extract_str, List.drop_zero, Nat.sub_zero, Sem.run_pure, List.take_length]
    congr 1
    apply Array.ext'
    simp
  unfold appendedM at hrun
  cases xt with
  | none =>
    simp only at hrun
    cases x <;> try exact (fail_ok hrun).elim
    case slice m len cap => exact slicy m len cap rfl rfl hrun
    case str s => exact stringy s rfl rfl hrun
  | some t =>
    simp only at hrun
    cases hd : cx.desc t with
    | none => simp only [hd] at hrun; exact (fail_ok hrun).elim
    | some d =>
      simp only [hd] at hrun
      have hu := desc_ok hcx hd
      cases d
      case int ik =>
        cases hx <;> try exact (fail_ok hrun).elim
        rename_i q i
        simp only at hrun
        by_cases hb : 0 ≤ i ∧ i ≤ 1000000000
        rotate_left
        · rw [if_neg hb] at hrun; exact (fail_ok hrun).elim
        rw [if_pos hb] at hrun
        obtain ⟨z, h1, c1, l1, l2, e1, e2, _⟩ := bnd_ok hrun
        obtain ⟨hz, rfl, rfl, _⟩ := lift_ok e1
        obtain ⟨e3, rfl, rfl, _⟩ := ret_ok e2
        cases e3
        obtain ⟨it, zv, hi, hiz, hpos, hzs, hzl, hzr⟩ := zeroRow_ok hcx hz
        refine ⟨rfl, rfl, _, true, hzr φ, by simp [zerosOf, run_underlying hu], fun _ => ⟨q, i, rfl, hb.1, hb.2, rfl, it, zv, hi, hiz, ?_, hzs⟩, fun hh => by cases hh⟩
        simp only [Builtin.zeroCells, hzs]
      all_goals
        cases x <;> try exact (fail_ok hrun).elim
        case slice m len cap => exact slicy m len cap rfl (by simp [zerosOf, run_underlying hu]) hrun
        case str s => exact stringy s rfl (by simp [zerosOf, run_underlying hu]) hrun
end
end Go.Ab
