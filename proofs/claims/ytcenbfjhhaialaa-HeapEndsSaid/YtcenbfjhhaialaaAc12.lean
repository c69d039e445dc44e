/- The abstract evaluator against the model: copy, least and greatest, conversions, assertions, methods, a string's runes. -/
import Derived.Test.YtcenbfjhhaialaaAc11
import Derived.Laws.BytesString
set_option linter.unusedVariables false
set_option linter.unusedSectionVars false
set_option linter.unusedSimpArgs false
set_option linter.unnecessarySimpa false
namespace Go.Ab
open Go.RowKit

section
variable {H : Type} [MapI H AObj] {P : Program} {ng : Nat} {w0 w : World} {φ : Nm} {h h' : H} {c c' : Nat} {l : List Acc}

theorem minI_ok {k : IntKind} : ∀ {rest : List V} {rest' : List Value} {x : Int} {v : V}, VRs φ rest rest' → minI k x rest = some v → ∃ y, v = .int k y ∧ (rest'.foldlM Builtin.min2 (.int k x)).run P w = .ok (.int k y) w
  | [], _, x, v, .nil, h => by unfold minI at h; cases h; exact ⟨x, rfl, rfl⟩
  | q :: rest, _, x, v, .cons hq hr, h => by
    cases hq <;> unfold minI at h <;> try (cases h; done)
    rename_i k' y
    split at h
    · next hk =>
      subst hk
      obtain ⟨z, h1, h2⟩ := minI_ok hr h
      refine ⟨z, h1, ?_⟩
      simp only [List.foldlM_cons, Sem.run_bind, Builtin.min2, Sem.run_pure, Result.andThen_ok, h2]
    · cases h
theorem maxI_ok {k : IntKind} : ∀ {rest : List V} {rest' : List Value} {x : Int} {v : V}, VRs φ rest rest' → maxI k x rest = some v → ∃ y, v = .int k y ∧ (rest'.foldlM Builtin.max2 (.int k x)).run P w = .ok (.int k y) w
  | [], _, x, v, .nil, h => by unfold maxI at h; cases h; exact ⟨x, rfl, rfl⟩
  | q :: rest, _, x, v, .cons hq hr, h => by
    cases hq <;> unfold maxI at h <;> try (cases h; done)
    rename_i k' y
    split at h
    · next hk =>
      subst hk
      obtain ⟨z, h1, h2⟩ := maxI_ok hr h
      refine ⟨z, h1, ?_⟩
      simp only [List.foldlM_cons, Sem.run_bind, Builtin.max2, Sem.run_pure, Result.andThen_ok, h2]
    · cases h
theorem minV_ok {xs : List V} {xs' : List Value} {v : V} {ts : Array Nat} {ty : Nat} (hx : VRs φ xs xs') (h : minV xs = some v) : ∃ u, VR φ v u ∧ (Builtin.min_ ts ty ⟨xs'⟩).run P w = .ok u w := by
  unfold minV at h
  cases hx with
  | nil => cases h
  | cons a b =>
    cases a <;> try (cases h; done)
    obtain ⟨y, rfl, h2⟩ := minI_ok (P := P) (w := w) b h
    exact ⟨_, .int _ _, by simpa [Builtin.min_] using h2⟩
theorem maxV_ok {xs : List V} {xs' : List Value} {v : V} {ts : Array Nat} {ty : Nat} (hx : VRs φ xs xs') (h : maxV xs = some v) : ∃ u, VR φ v u ∧ (Builtin.max_ ts ty ⟨xs'⟩).run P w = .ok u w := by
  unfold maxV at h
  cases hx with
  | nil => cases h
  | cons a b =>
    cases a <;> try (cases h; done)
    obtain ⟨y, rfl, h2⟩ := maxI_ok (P := P) (w := w) b h
    exact ⟨_, .int _ _, by simpa [Builtin.max_] using h2⟩

theorem bytesOfV_ok : ∀ {cs : List V} {us : List Value} {s : List UInt8}, VRs φ cs us → bytesOfV cs = some s → ∃ ns : List Int, us = ns.map (Value.int .u8) ∧ s = ns.map (fun n => UInt8.ofNat n.toNat)
  | [], _, s, .nil, h => by unfold bytesOfV at h; cases h; exact ⟨[], rfl, rfl⟩
  | q :: cs, _, s, .cons hq hr, h => by
    cases hq <;> unfold bytesOfV at h <;> try (cases h; done)
    rename_i k n
    cases k <;> simp only at h <;> try (cases h; done)
    split at h
    · next hn =>
      split at h
      · next t ht =>
        cases h
        obtain ⟨ns, h1, h2⟩ := bytesOfV_ok hr ht
        exact ⟨n :: ns, by simp [h1], by simp [h2]⟩
      · cases h
    · cases h

variable {cx : Cx} (hcx : CxOk P cx)
include hcx

theorem copyM_ok (r : Rel ng w0 φ h w) {t ty : Nat} {d s v : V} {d' s' : Value} {ts : List Nat} {rest : List Value} (hd' : VR φ d d') (hs' : VR φ s s') (e : copyM cx t d s h c = .ok v h' c' l) :
    c' = c ∧ ∃ w' u, Rel ng w0 φ h' w' ∧ VR φ v u ∧ (Builtin.copy_ ⟨t :: ts⟩ ty ⟨d' :: s' :: rest⟩).run P w = .ok u w' := by
  unfold copyM at e
  cases hd : cx.desc t with
  | none => simp only [hd] at e; exact (fail_ok e).elim
  | some td =>
    have hu := desc_ok hcx hd
    simp only [hd] at e
    cases td <;> try exact (fail_ok e).elim
    rename_i el
    have main : ∀ (a : Option (Nat × Nat)) (dl : Nat) (cap : Cap) (base : Option Addr) (dc : Nat), d = .slice a dl cap → d' = .slice base dl dc →
        (a = none → base = none) → (∀ n o, a = some (n, o) → ∃ L b, φ n = some L ∧ base = some b ∧ (0 < dl → b = ⟨L.blk, L.off + o, none⟩)) →
        c' = c ∧ ∃ w' u, Rel ng w0 φ h' w' ∧ VR φ v u ∧ (Builtin.copy_ ⟨t :: ts⟩ ty ⟨d' :: s' :: rest⟩).run P w = .ok u w' := by
      intro a dl cap base dc hde hde' hnone hsome
      subst hde; subst hde'
      simp only at e
      cases hk : cx.size el with
      | none => simp only [hk] at e; exact (fail_ok e).elim
      | some k =>
        simp only [hk] at e
        obtain ⟨sl, h1, c1, l1, l2, e1, e2, _⟩ := bnd_ok e
        have hsl : h1 = h ∧ c1 = c ∧ (Builtin.lenOf s').run P w = .ok sl w := by
          cases hs' <;> try exact (fail_ok e1).elim
          case str b =>
            simp only at e1
            by_cases hk1 : k = 1
            · rw [if_pos hk1] at e1
              obtain ⟨rfl, rfl, rfl, _⟩ := ret_ok e1; exact ⟨rfl, rfl, rfl⟩
            · rw [if_neg hk1] at e1; exact (fail_ok e1).elim
          all_goals
            obtain ⟨rfl, rfl, rfl, _⟩ := ret_ok e1; exact ⟨rfl, rfl, rfl⟩
        obtain ⟨rfl, rfl, hlen⟩ := hsl
        obtain ⟨cs, h2, c2, l3, l4, e3, e4, _⟩ := bnd_ok e2
        obtain ⟨rfl, rfl, us, hv, hf⟩ := firstM_ok (P := P) r hs' e3
        have hf' := hf w rfl
        have hmin : Nat.min sl dl = min sl dl := rfl
        cases a with
        | none =>
          obtain ⟨rfl, rfl, rfl, _⟩ := ret_ok e4
          have hb := hnone rfl
          subst hb
          have hdl : dl = 0 := by cases hd'; rfl
          refine ⟨rfl, w, _, r, .int _ _, ?_⟩
          simp only [Builtin.copy_, List.getElem?_toArray, List.getElem?_cons_zero, List.getElem?_cons_succ, Sem.run_bind, run_underlying hu, Result.andThen_ok, hlen, run_size hcx hk, hmin, hf', Sem.run_pure, goInt]
          simp [hdl]
        | some p =>
          obtain ⟨n, o⟩ := p
          obtain ⟨L, b, hL, hb, hba⟩ := hsome n o rfl
          subst hb
          simp only at e4
          by_cases h0 : min sl dl = 0
          · rw [if_pos h0] at e4
            obtain ⟨rfl, rfl, rfl, _⟩ := ret_ok e4
            refine ⟨rfl, w, _, r, .int _ _, ?_⟩
            have hus : us = [] := by
              have hc0 : cs = [] := by
                rw [h0] at e3
                unfold firstM at e3
                cases hs' <;> simp only at e3 <;> first
                  | exact (fail_ok e3).elim
                  | (obtain ⟨rfl, _⟩ := ret_ok e3; rfl)
                  | (rw [if_pos rfl] at e3; obtain ⟨rfl, _⟩ := ret_ok e3; rfl)
                  | (rw [if_pos (Nat.zero_le _)] at e3; obtain ⟨rfl, _⟩ := ret_ok e3; rfl)
              subst hc0; cases hv; rfl
            subst hus
            rw [h0] at hf'
            simp only [Builtin.copy_, List.getElem?_toArray, List.getElem?_cons_zero, List.getElem?_cons_succ, Sem.run_bind, run_underlying hu, Result.andThen_ok, hlen, run_size hcx hk, hmin, hf', Sem.run_pure, goInt, h0]
            rfl
          · rw [if_neg h0] at e4
            obtain ⟨u, h3, c3, l5, l6, e5, e6, _⟩ := bnd_ok e4
            obtain ⟨rfl, L', w', hL', hrun, hr'⟩ := storeC_ok (P := P) r hv e5
            rw [hL] at hL'; cases hL'
            obtain ⟨rfl, rfl, rfl, _⟩ := ret_ok e6
            have hb := hba (by omega)
            subst hb
            refine ⟨rfl, w', _, hr', .int _ _, ?_⟩
            simp only [Builtin.copy_, List.getElem?_toArray, List.getElem?_cons_zero, List.getElem?_cons_succ, Sem.run_bind, run_underlying hu, Result.andThen_ok, hlen, run_size hcx hk, hmin, hf', Sem.run_pure, goInt, hrun]
    cases hd' <;> try exact (fail_ok e).elim
    case sliceNil => exact main _ _ _ _ _ rfl rfl (fun _ => rfl) (fun _ _ hh => by cases hh)
    case sliceK hL _ => exact main _ _ _ _ _ rfl rfl (fun hh => by cases hh) (fun _ _ hh => by cases hh; exact ⟨_, _, hL, rfl, fun _ => rfl⟩)
    case sliceK0 hL => exact main _ _ _ _ _ rfl rfl (fun hh => by cases hh) (fun _ _ hh => by cases hh; exact ⟨_, _, hL, rfl, fun h => by omega⟩)
    case sliceU hL _ _ _ => exact main _ _ _ _ _ rfl rfl (fun hh => by cases hh) (fun _ _ hh => by cases hh; exact ⟨_, _, hL, rfl, fun _ => rfl⟩)
    case sliceZ hL _ _ => exact main _ _ _ _ _ rfl rfl (fun hh => by cases hh) (fun _ _ hh => by cases hh; exact ⟨_, _, hL, rfl, fun h => by omega⟩)

theorem assertM_ok {t xt : Nat} {x v : V} {x' : Value} {ok : Bool} (hx : VR φ x x') (e : (Ab.assertM cx x t ok : M H V) h c = .ok v h' c' l) :
    h' = h ∧ c' = c ∧ ∃ u, VR φ v u ∧ (Instr.typeAssert x' xt t ok).run P w = .ok u w := by
  unfold assertM at e
  cases hd : cx.desc t with
  | none => simp only [hd] at e; exact (fail_ok e).elim
  | some td =>
    have hu := desc_ok hcx hd
    simp only [hd] at e
    have zero : ∀ z, cx.zero t = some z → ∃ zv, (zeroValue t).run P w = .ok zv w ∧ VR φ z zv := fun z hz => run_zero hcx hz φ w
    have tup : ∀ {z : V} {zv : Value} (b : Bool), VR φ z zv → VR φ (.tuple [z, .bool b]) (.tuple #[zv, .bool b]) := fun b hz => .tuple (.cons hz (.cons (.bool _) .nil))
    have main : (∀ ms, td ≠ .interface ms) → (match x with
        | .iface t2 v2 => if t2 = t then ret (if ok then V.tuple [v2, .bool true] else v2)
          else if ok then bnd (lift "assert: zero" (cx.zero t)) fun z => ret (.tuple [z, .bool false]) else fail "assert: fails"
        | .nilIface => if ok then bnd (lift "assert: zero" (cx.zero t)) fun z => ret (.tuple [z, .bool false]) else fail "assert: nil"
        | _ => fail "assert" : M H V) h c = .ok v h' c' l → h' = h ∧ c' = c ∧ ∃ u, VR φ v u ∧ (Instr.typeAssert x' xt t ok).run P w = .ok u w := by
      intro hni e
      cases hx <;> try exact (fail_ok e).elim
      case iface t2 v2 u2 hv q5 =>
        simp only at e
        by_cases ht : t2 = t
        · rw [if_pos ht] at e
          obtain ⟨rfl, rfl, rfl, _⟩ := ret_ok e
          subst ht
          refine ⟨rfl, rfl, if ok then .tuple #[u2, .bool true] else u2, ?_, ?_⟩
          · cases ok
            · exact hv
            · exact tup true hv
          · cases td <;> first
              | exact absurd rfl (hni _)
              | (simp only [Instr.typeAssert, Sem.run_bind, run_underlying hu, Result.andThen_ok, if_true, Sem.run_pure])
        · rw [if_neg ht] at e
          cases ok with
          | false => simp only [Bool.false_eq_true, if_false] at e; exact (fail_ok e).elim
          | true =>
            simp only [if_true] at e
            obtain ⟨z, h1, c1, l1, l2, e1, e2, _⟩ := bnd_ok e
            obtain ⟨hz, rfl, rfl, _⟩ := lift_ok e1
            obtain ⟨rfl, rfl, rfl, _⟩ := ret_ok e2
            obtain ⟨zv, hzr, hzv⟩ := zero z hz
            refine ⟨rfl, rfl, _, tup false hzv, ?_⟩
            cases td <;> first
              | exact absurd rfl (hni _)
              | (simp only [Instr.typeAssert, Sem.run_bind, run_underlying hu, Result.andThen_ok, ht, if_false, if_true, hzr, Sem.run_pure])
      case nilIface =>
        simp only at e
        cases ok with
        | false => simp only [Bool.false_eq_true, if_false] at e; exact (fail_ok e).elim
        | true =>
          simp only [if_true] at e
          obtain ⟨z, h1, c1, l1, l2, e1, e2, _⟩ := bnd_ok e
          obtain ⟨hz, rfl, rfl, _⟩ := lift_ok e1
          obtain ⟨rfl, rfl, rfl, _⟩ := ret_ok e2
          obtain ⟨zv, hzr, hzv⟩ := zero z hz
          refine ⟨rfl, rfl, _, tup false hzv, ?_⟩
          cases td <;> first
            | exact absurd rfl (hni _)
            | (simp only [Instr.typeAssert, Sem.run_bind, run_underlying hu, Result.andThen_ok, if_true, hzr, Sem.run_pure])
    cases td
    case interface ms => exact (fail_ok e).elim
    all_goals exact main (fun ms hh => by cases hh) (by cases x <;> exact e)

theorem methodV_ok {t f : Nat} {name : String} {v : Value} (hm : methodV cx t name = some f) : (do let p ← program; method (p.types.size + Made.depth) t v name : Sem (FuncId × Value)).run P w = .ok (f, v) w := by
  unfold methodV at hm
  cases hi : cx.ty t with
  | none => simp only [hi] at hm; cases hm
  | some i =>
    simp only [hi] at hm
    have hi' := hcx.ty _ _ hi
    cases hfd : i.methods.toList.find? (fun m => m.name == name) with
    | none => simp only [hfd] at hm; cases hm
    | some m =>
      simp only [hfd] at hm
      have hfd' : i.methods.find? (fun m => m.name == name) = some m := by rw [← Array.find?_toList]; exact hfd
      split at hm
      · next f' el hp hfn hdd =>
        cases hm
        have hu := desc_ok hcx hdd
        have hpe : m.path.toList = [] := hp
        obtain ⟨d, hd⟩ : ∃ d, P.types.size + Made.depth = d + 1 := ⟨P.types.size + Made.depth - 1, by
          have h0 : 0 < Made.depth := by decide
          omega⟩
        simp only [Sem.run_bind, run_program, Result.andThen_ok, hd, method, run_typeInfo w hi', hfd', hpe, follow, Sem.run_pure, hfn, receiverAt, run_underlying hu, Place.get]
      · cases hm
end
end Go.Ab
