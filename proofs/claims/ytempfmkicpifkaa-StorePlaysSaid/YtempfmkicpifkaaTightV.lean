/- StoreTight: its arguments as data. -/
import Derived.Test.YtempfmkicpifkaaTightW
import Derived.Test.YtempfmkicpifkaaAdTS

set_option linter.unusedVariables false
set_option linter.unusedSectionVars false
set_option linter.unusedSimpArgs false
set_option linter.unnecessarySimpa false
namespace Go.Proofs.Ytempfmkicpifkaa
open Go.Ab Go.ChangeShapes Go.WideShapes
set_option maxRecDepth 10000

theorem u8_of {z : Int} (h : (Lit.int .u8 z).wf = true) : 0 ≤ z ∧ z < 256 := by
  have e := (Lit.wf_int_iff _ _).1 h
  have h1 : IntKind.min .u8 = 0 := rfl
  have h2 : IntKind.max .u8 = 255 := rfl
  omega
/-- A slice of bytes in a row of such. -/
theorem bytes_of {T : Type} {h : HH} {c : Nat} (vs : List V) (d : DataW T) (a : AR Try.prog h c 22 vs d) : ∃ b : BV, vs = heldV b ∧ bytesArg h c b := by
  obtain ⟨x, hx, hxa⟩ : ∃ x, vs = [x] ∧ isAggV x = false := by
    rcases a.inv_slice (e := 5) rfl with ⟨rfl, _⟩ | ⟨n, cap, vss, elems, spare, rfl, _⟩
    · exact ⟨_, rfl, rfl⟩
    · exact ⟨_, rfl, rfl⟩
  subst hx
  have hc : cellsV x = [x] := by cases x <;> first | rfl | cases hxa
  have a' : AR Try.prog h c 22 (cellsV x) d := by rw [hc]; exact a
  obtain ⟨ys, hl, hys⟩ := a'.ints (e := 5) (k := .u8) rfl rfl hxa
  obtain ⟨s, cap, rfl, _⟩ := rowArg_slice hl
  exact ⟨((s, ys.length, cap), ys), rfl, hl, fun z hz => u8_of (hys z hz)⟩
theorem tight_walk {T : Type} {ds : List (DataW T)} : ∀ (h : HH) (c : Nat) (xs : List V), ArgsR Try.prog h c [92, 61, 5] xs ds → Clear h c → WpX (cl 11 xs) h c fun v _ _ _ => v = .bool true := by
  intro h c xs r _
  cases r with
  | @cons _ _ x1 _ _ _ a ha r =>
    cases r with
    | @cons _ _ x2 _ _ _ b hb r =>
      cases r with
      | @cons _ _ x3 _ _ _ d hd r =>
        cases r
        obtain ⟨bsl, hl, hg⟩ := AR.rows (cells := heldV) (good := fun q => bytesArg h c q) (k := 1) (e := 22) Try.underlying92 (ha.trans rfl) held_len (fun vs d a => bytes_of vs d a) a
        obtain ⟨bl, hb1, _⟩ := AR.rows (cells := boolV) (good := fun _ => True) (k := 1) (e := 4) Try.underlying61 (hb.trans rfl) (fun _ => rfl) (fun vs d a => by obtain ⟨z, e1, _⟩ := a.inv_bool rfl; exact ⟨z, e1, trivial⟩) b
        obtain ⟨z, hz, _, hzw⟩ := d.inv_int (k := .u8) rfl
        have e1 : x3 = .int .u8 z := by
          have hd : isAggV x3 = false := hd.trans rfl
          cases x3 <;> first | (cases hd; done) | (simpa [cellsV] using hz)
        subst e1
        have hz8 := u8_of hzw
        obtain ⟨n, rfl⟩ : ∃ n : Nat, z = n := ⟨z.toNat, by omega⟩
        exact WpX.mono (tight_law hl hg hb1 (by omega)) fun v h' c' l q => q.2.2.2
end Go.Proofs.Ytempfmkicpifkaa
