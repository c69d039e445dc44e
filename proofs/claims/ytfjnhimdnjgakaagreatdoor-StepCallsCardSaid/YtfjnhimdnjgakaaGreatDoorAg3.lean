/- A law of two small numbers of which it takes remainders alone: out of its runs at the remainders. For any program. -/
import Derived.Test.YtfjnhimdnjgakaaGreatDoorAg2
import Derived.Test.YtfjnhimdnjgakaaGreatDoorAdC
set_option linter.unusedVariables false
set_option linter.unusedSectionVars false
set_option linter.unusedSimpArgs false
set_option linter.unnecessarySimpa false
namespace Go.Ab
open Go.RowKit Go.ChangeShapes Go.WideShapes

theorem FT_init2 {T : List (Nat × Nat)} {k : IntKind} {r s a b : Int} (h0 : modOf T 0 ≠ 0) (h1 : modOf T 1 ≠ 0) (hr : 0 ≤ r ∧ r < 128 + 128) (hs : 0 ≤ s ∧ s < 128 + 128) (ha : 0 ≤ a ∧ a < 128 + 128) (hb : 0 ≤ b ∧ b < 128 + 128)
    (e0 : r % (modOf T 0 : Int) = a % (modOf T 0 : Int)) (e1 : s % (modOf T 1 : Int) = b % (modOf T 1 : Int)) : FT T (initE [.int k r, .int k s] 0 (MapI.emp : ET)) (initE [.int k a, .int k b] 0 MapI.emp) := fun n => by
  show if modOf T n = 0 then MapI.get (MapI.set (MapI.set (MapI.emp : ET) 0 (.int k r)) 1 (.int k s)) n = MapI.get (MapI.set (MapI.set (MapI.emp : ET) 0 (.int k a)) 1 (.int k b)) n else _
  by_cases n1 : 1 = n
  · subst n1
    rw [if_neg h1]
    exact .inr ⟨k, s, b, MapI.get_same _ _ _, MapI.get_same _ _ _, hs.1, hs.2, hb.1, hb.2, e1⟩
  · by_cases n0 : 0 = n
    · subst n0
      rw [if_neg h0]
      refine .inr ⟨k, r, a, ?_, ?_, hr.1, hr.2, ha.1, ha.2, e0⟩
      · show MapI.get (MapI.set (MapI.set (MapI.emp : ET) 0 (.int k r)) 1 (.int k s)) 0 = _
        rw [MapI.get_ne _ _ _ _ (by decide), MapI.get_same]
      · show MapI.get (MapI.set (MapI.set (MapI.emp : ET) 0 (.int k a)) 1 (.int k b)) 0 = _
        rw [MapI.get_ne _ _ _ _ (by decide), MapI.get_same]
    · have key : ∀ x y : Int, MapI.get (MapI.set (MapI.set (MapI.emp : ET) 0 (.int k x)) 1 (.int k y)) n = none := fun x y => by
        rw [MapI.get_ne _ _ _ _ n1, MapI.get_ne _ _ _ _ n0]; exact MapI.get_emp n
      split
      · rw [key, key]
      · exact .inl ⟨key r s, key a b⟩

section
variable {P : Program}
theorem fin2 (F : Fit P) {prim : Nat → Option ((Tgt → List V → M HT V) → List V → M HT V)} (hprim : ∀ w f m, prim f = some m → PrimOk P 0 w f m) {n f : Nat} {fn : Func} {code : Code} (hP : P.funcs[f]? = some fn) (hb : fn.body = some code) (hf : prim f = none)
    {T : List (Nat × Nat)} (ht : (tameC (cxOf P) T code && tameR T fn.results.toList) = true) {m0 m1 : Nat} (h0 : modOf T 0 = m0) (h1 : modOf T 1 = m1) (p0 : 0 < m0 ∧ m0 ≤ 256) (p1 : 0 < m1 ∧ m1 ≤ 256)
    (hrun : ∀ r s : Nat, r < m0 → s < m1 → isTrue (evFn (H := HT) ET (cxOf P) prim (n + 1) (.fn f) [.int .u8 (Int.ofNat r), .int .u8 (Int.ofNat s)] MapI.emp 0) = true)
    {a b : Int} (ha : 0 ≤ a ∧ a < 256) (hb' : 0 ≤ b ∧ b < 256) (W : World) : Calls P f ⟨[.int .u8 a, .int .u8 b]⟩ W fun e w' => e = .returned (.bool true) ∧ Below W.heap.size W w' := by
  have q0 : 0 ≤ a % (m0 : Int) ∧ a % (m0 : Int) < m0 := ⟨Int.emod_nonneg _ (by omega), Int.emod_lt_of_pos _ (by omega)⟩
  have q1 : 0 ≤ b % (m1 : Int) ∧ b % (m1 : Int) < m1 := ⟨Int.emod_nonneg _ (by omega), Int.emod_lt_of_pos _ (by omega)⟩
  obtain ⟨h', c', l, hr⟩ := isTrue_ok (hrun (a % (m0 : Int)).toNat (b % (m1 : Int)).toNat (by omega) (by omega))
  have er : Int.ofNat (a % (m0 : Int)).toNat = a % (m0 : Int) := Int.toNat_of_nonneg q0.1
  have es : Int.ofNat (b % (m1 : Int)).toNat = b % (m1 : Int) := Int.toNat_of_nonneg q1.1
  rw [er, es] at hr
  have hft : FT T (initE [.int .u8 (a % (m0 : Int)), .int .u8 (b % (m1 : Int))] 0 (MapI.emp : ET)) (initE [.int .u8 a, .int .u8 b] 0 MapI.emp) :=
    FT_init2 (by omega) (by omega) (by omega) (by omega) (by omega) (by omega) (by rw [h0]; exact Int.emod_emod_of_dvd _ (Int.dvd_refl _)) (by rw [h1]; exact Int.emod_emod_of_dvd _ (Int.dvd_refl _))
  have hle := bodyM_tame (call := evFn (H := HT) ET (cxOf P) prim n) (n := n) (f := f) (xs := [.int .u8 (a % (m0 : Int)), .int .u8 (b % (m1 : Int))]) (ys := [.int .u8 a, .int .u8 b]) (show (cxOf P).fn f = some fn from hP) hb ht rfl hft
  have hr2 : evFn (H := HT) ET (cxOf P) prim (n + 1) (.fn f) [.int .u8 a, .int .u8 b] MapI.emp 0 = .ok (.bool true) h' c' l := by
    rw [evFn] at hr ⊢
    simp only [hf] at hr ⊢
    exact hle _ _ _ _ _ _ hr
  have := evFn_ok F.cx rfl F.mixed F.good (hprim W) (n + 1) (.fn f) [.int .u8 a, .int .u8 b] MapI.emp 0 _ _ _ _ _ W [.int .u8 a, .int .u8 b] hr2 (Rel.start W) (.cons (.int _ _) (.cons (.int _ _) .nil)) (fun _ _ _ => rfl)
  refine (this.calls hP (F.name hP) hb).2.mono fun e w' ⟨u, he, φ', _, _, hrel, hv⟩ => ?_
  cases hv
  exact ⟨he, hrel.below⟩
end
end Go.Ab
