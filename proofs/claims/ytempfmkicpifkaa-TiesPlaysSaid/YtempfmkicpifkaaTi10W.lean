/- TiesPlays: the law on what was handed in. -/
import Derived.Test.YtempfmkicpifkaaTi9W
import Derived.WideShapes4
set_option linter.unusedVariables false
set_option linter.unusedSectionVars false
set_option linter.unusedSimpArgs false
set_option linter.unnecessarySimpa false
namespace Go.Proofs.Ytempfmkicpifkaa.Ti
open Go.Ab
set_option maxRecDepth 10000
theorem deeds_of {h : HH} {c : Nat} {T : Type} (vs : List V) (d : DataW T) (r : AR Try.prog h c 75 vs d) : ∃ q : Int × Int × Int, vs = deedV q ∧ (okK q.2.1 ∧ okK q.2.2) := by
  obtain ⟨vss, ds', rfl, _, hr⟩ := r.inv_struct (fs := _) Try.underlying75
  have key : ∀ {z : Int}, (Lit.int .i64 z).wf = true → okK z := fun {z} h => by
    have e := (Lit.wf_int_iff _ _).1 h
    have h1 : IntKind.min .i64 = -9223372036854775808 := rfl
    have h2 : IntKind.max .i64 = 9223372036854775807 := rfl
    unfold okK; omega
  cases hr with
  | cons a _ hr =>
    cases hr with
    | cons b _ hr =>
      cases hr with
      | cons c _ hr =>
        cases hr
        obtain ⟨x, rfl, _, hx⟩ := a.inv_int (k := .i64) Try.underlying3
        obtain ⟨y, rfl, _, hy⟩ := b.inv_int (k := .i64) Try.underlying3
        obtain ⟨z, rfl, _, hz⟩ := c.inv_int (k := .i64) Try.underlying3
        exact ⟨(x, y, z), rfl, key hy, key hz⟩
theorem plays_walk {T : Type} {ds : List (DataW T)} : ∀ (h : HH) (c : Nat) (xs : List V), ArgsR Try.prog h c [72] xs ds → Clear h c → WpX (cl 8 xs) h c fun v _ _ _ => v = .bool true := by
  intro h c xs r _
  cases r with
  | cons a ha r =>
    cases r
    obtain ⟨zs, hl, hz⟩ := AR.rows (cells := deedV) (good := fun q => okK q.2.1 ∧ okK q.2.2) (k := 3) Try.underlying72 (ha.trans rfl) deed_len (fun vs d a => deeds_of vs d a) a
    exact WpX.mono (plays_law hl fun z hzz => hz z hzz) fun v h' c' l q => q.2.2.2
end Go.Proofs.Ytempfmkicpifkaa.Ti
