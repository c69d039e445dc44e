/- The abstract evaluator against the model: maps. -/
import Derived.Test.YtcenbfjhhaialaaAc8
set_option linter.unusedVariables false
set_option linter.unusedSectionVars false
set_option linter.unusedSimpArgs false
set_option linter.unnecessarySimpa false
namespace Go.Ab
open Go.RowKit

section
variable {H : Type} [MapI H AObj] {P : Program} {ng : Nat} {w0 w : World} {φ : Nm} {h h' : H} {c c' : Nat} {l : List Acc}

theorem keyOk_check {d : TypeDesc} {k : V} {k' : Value} (hk : VR φ k k') (h : keyOk d k = true) {kt : Nat} (hu : P.underlying kt = some d) (b : Bool) (n : Nat) :
    (Instr.checkKey b (n + 1) kt k').run P w = .ok () w := by
  cases d <;> try (cases k <;> simp [keyOk] at h; done)
  all_goals
    cases hk <;> first
      | (simp [keyOk] at h; done)
      | simp [Instr.checkKey, run_underlying hu]

theorem keyEq_now {d : TypeDesc} {k q : V} {k' q' : Value} {b : Bool} (hd : keyOk d k = true) (hk : VR φ k k') (hq : VR φ q q') (h : keyEq k q = some b) : Instr.sameNow d k' q' = some b := by
  cases d <;> try (cases k <;> simp [keyOk] at hd; done)
  case int ik =>
    cases hk <;> try (simp [keyOk] at hd; done)
    cases hq <;> simp only [keyEq] at h <;> try (cases h; done)
    split at h
    · next e => subst e; cases h; simp [Instr.sameNow]
    · cases h
  case bool =>
    cases hk <;> try (simp [keyOk] at hd; done)
    cases hq <;> simp only [keyEq] at h <;> try (cases h; done)
    cases h; rfl
  case string =>
    cases hk <;> try (simp [keyOk] at hd; done)
    cases hq <;> simp only [keyEq] at h <;> try (cases h; done)
    cases h
    rename_i s s'
    simp only [Instr.sameNow, strEq_ok, beq_toListBytes, str_list]

theorem findK_now {d : TypeDesc} {k : V} {k' : Value} (hd : keyOk d k = true) (hk : VR φ k k') : ∀ {es : List (V × V × Nat)} {us : List MapEntry} (_ : MRs φ es us) (j : Nat),
    (findK k es = some none → Instr.findNow d k' us j = some none) ∧
    (∀ i v b, findK k es = some (some (i, v, b)) → ∃ e, us[i]? = some e ∧ VR φ v e.val ∧ e.born = b ∧ Instr.findNow d k' us j = some (some (j + i, e.val)) ∧ (∃ q, (es[i]?).map (·.1) = some q ∧ keyEq k q = some true ∧ VR φ q e.key))
  | _, _, .nil, j => by
    refine ⟨fun _ => rfl, fun i v b h => ?_⟩
    unfold findK at h; cases h
  | _, _, .cons (k := q) (v := v) (b := b) (e := e) hq hv hb hr, j => by
    obtain ⟨ih1, ih2⟩ := findK_now hd hk hr (j + 1)
    unfold findK
    cases hkq : keyEq k q with
    | none => exact ⟨fun h => by simp at h, fun i v b h => by simp at h⟩
    | some bb =>
      have hn := keyEq_now hd hk hq hkq
      cases bb with
      | true =>
        refine ⟨fun h => by simp at h, fun i v' b' h => ?_⟩
        simp only [Option.some.injEq, Prod.mk.injEq] at h
        obtain ⟨rfl, rfl, rfl⟩ := h
        exact ⟨e, by simp, hv, hb, by simp [Instr.findNow, hn], q, by simp, hkq, hq⟩
      | false =>
        simp only
        constructor
        · intro h
          split at h
          · cases h
          · next r hr' => simp [Instr.findNow, hn, ih1 h]
        · intro i v' b' h
          split at h
          · next i0 x h0 =>
            simp only [Option.some.injEq, Prod.mk.injEq] at h
            obtain ⟨rfl, rfl⟩ := h
            obtain ⟨e', h1, h2, h3, h4, q', h5, h6, h7⟩ := ih2 _ _ _ h0
            exact ⟨e', by simpa using h1, h2, h3, by simp [Instr.findNow, hn, h4]; omega, q', by simpa using h5, h6, h7⟩
          · next r hr' => exact absurd h (by intro hh; exact hr' _ _ hh)

theorem run_findKey {d : TypeDesc} {kt : Nat} {k' : Value} {us : List MapEntry} {r : Option (Nat × Value)} (hu : P.underlying kt = some d) (h : Instr.findNow d k' us 0 = some r) :
    (Instr.findKey kt k' us).run P w = .ok r w := by
  simp [Instr.findKey, run_underlying hu, h]

/-- A key that is found is, to the bit, the one that stands there. -/
theorem key_same {d : TypeDesc} {k q : V} {k' q' : Value} (hd : keyOk d k = true) (hk : VR φ k k') (hq : VR φ q q') (h : keyEq k q = some true) (w : World) : (Instr.keyThatStays q' k').run P w = .ok k' w := by
  have : ∀ n, Instr.sameBits n q' k' = true := fun n => by
    cases hk <;> cases hq <;> simp only [keyEq] at h <;> try (cases h; done)
    · simp at h; subst h; cases n <;> simp [Instr.sameBits]
    · split at h
      · next e => subst e; simp at h; subst h; cases n <;> simp [Instr.sameBits]
      · cases h
    · simp only [Option.some.injEq, strEq_ok, beq_iff_eq] at h; subst h; cases n <;> (simp only [Instr.sameBits]; rw [beq_toListBytes]; simp)
  simp [Instr.keyThatStays, this]

theorem setNth_get {α : Type} : ∀ (l : List α) (i : Nat) (x : α), setNth l i x = l.set i x
  | [], _, _ => rfl
  | _ :: _, 0, _ => rfl
  | y :: l, i + 1, x => by simp [setNth, setNth_get l i x]
theorem delNth_get {α : Type} : ∀ (l : List α) (i : Nat), delNth l i = l.eraseIdx i
  | [], _ => rfl
  | _ :: _, 0 => rfl
  | y :: l, i + 1 => by simp [delNth, delNth_get l i]

theorem MRs.get : ∀ {es : List (V × V × Nat)} {us : List MapEntry} (_ : MRs φ es us) {i : Nat} {k v : V} {b : Nat}, es[i]? = some (k, v, b) → ∃ e, us[i]? = some e ∧ VR φ k e.key ∧ VR φ v e.val ∧ e.born = b
  | _, _, .nil, i, _, _, _, h => by simp at h
  | _, _, .cons a b c d, 0, _, _, _, h => by simp at h; obtain ⟨rfl, rfl, rfl⟩ := h; exact ⟨_, by simp, a, b, c⟩
  | _, _, .cons a b c d, i + 1, _, _, _, h => by simp at h; obtain ⟨e, h1, h2⟩ := d.get h; exact ⟨e, by simpa using h1, h2⟩
theorem MRs.set : ∀ {es : List (V × V × Nat)} {us : List MapEntry} (_ : MRs φ es us) (i : Nat) {k v : V} {b : Nat} {e : MapEntry}, VR φ k e.key → VR φ v e.val → e.born = b → MRs φ (es.set i (k, v, b)) (us.set i e)
  | _, _, .nil, i, _, _, _, _, _, _, _ => by simp; exact .nil
  | _, _, .cons a b c d, 0, _, _, _, _, h1, h2, h3 => by simp; exact .cons h1 h2 h3 d
  | _, _, .cons a b c d, i + 1, _, _, _, _, h1, h2, h3 => by simp; exact .cons a b c (d.set i h1 h2 h3)
theorem MRs.erase : ∀ {es : List (V × V × Nat)} {us : List MapEntry} (_ : MRs φ es us) (i : Nat), MRs φ (es.eraseIdx i) (us.eraseIdx i)
  | _, _, .nil, i => by simp; exact .nil
  | _, _, .cons a b c d, 0 => by simp; exact d
  | _, _, .cons a b c d, i + 1 => by simp; exact .cons a b c (d.erase i)
theorem MRs.push : ∀ {es : List (V × V × Nat)} {us : List MapEntry} (_ : MRs φ es us) {k v : V} {b : Nat} {e : MapEntry}, VR φ k e.key → VR φ v e.val → e.born = b → MRs φ (es ++ [(k, v, b)]) (us ++ [e])
  | _, _, .nil, _, _, _, _, h1, h2, h3 => .cons h1 h2 h3 .nil
  | _, _, .cons a b c d, _, _, _, _, h1, h2, h3 => .cons a b c (d.push h1 h2 h3)

theorem modify_list (E : Array MapEntry) (i : Nat) (f : MapEntry → MapEntry) (e : MapEntry) (h : E[i]? = some e) : (E.modify i f).toList = E.toList.set i (f e) := by
  apply List.ext_getElem?
  intro j
  rw [Array.getElem?_toList, Array.getElem?_modify, List.getElem?_set, Array.getElem?_toList]
  by_cases hj : i = j
  · subst hj
    obtain ⟨hlt, hg⟩ := Array.getElem?_eq_some_iff.1 h
    simp [hlt, hg]
  · simp [hj]

variable {cx : Cx} (hcx : CxOk P cx)
include hcx

theorem lookupM_ok (r : Rel ng w0 φ h w) {t : Nat} {x i v : V} {x' i' : Value} {ok : Bool} (hx : VR φ x x') (hi : VR φ i i') (e : lookupM cx t x i ok h c = .ok v h' c' l) :
    h' = h ∧ c' = c ∧ ∃ u, VR φ v u ∧ (Instr.lookup t x' i' ok).run P w = .ok u w := by
  unfold lookupM at e
  cases hd : cx.desc t with
  | none => simp only [hd] at e; exact (fail_ok e).elim
  | some d =>
    have hu := desc_ok hcx hd
    simp only [hd] at e
    cases d <;> try exact (fail_ok e).elim
    rename_i kt et
    simp only at e
    cases hkd : cx.desc kt with
    | none => simp only [hkd] at e; exact (fail_ok e).elim
    | some kd =>
      have hku := desc_ok hcx hkd
      simp only [hkd] at e
      by_cases hko : keyOk kd i = true
      rotate_left
      · rw [if_neg hko] at e; exact (fail_ok e).elim
      rw [if_pos hko] at e
      have hck : ∀ b, (Instr.checkKey b 10000 kt i').run P w = .ok () w := fun b => keyOk_check hi hko hku b 9999
      obtain ⟨fr, h1, c1, l1, l2, e1, e2, _⟩ := bnd_ok e
      -- what the map holds
      have hm : h1 = h ∧ c1 = c ∧ ∃ (es : List (V × V × Nat)) (E : Array MapEntry), MRs φ es E.toList ∧ fr = findK i es ∧
          (∀ r, Instr.findNow kd i' E.toList 0 = some r → (Instr.lookup t x' i' ok).run P w = ((match r with
            | some (_, v) => (pure (v, true) : Sem (Value × Bool))
            | none => do pure (← zeroValue et, false) : Sem (Value × Bool)).run P w).andThen fun p w' => .ok (if ok then .tuple #[p.1, .bool p.2] else p.1) w') := by
        cases hx <;> try exact (fail_ok e1).elim
        case mapNil =>
          obtain ⟨rfl, rfl, rfl, _⟩ := ret_ok e1
          refine ⟨rfl, rfl, [], #[], .nil, rfl, fun r hr => ?_⟩
          simp only [Instr.lookup, Sem.run_bind, run_underlying hu, Result.andThen_ok, Sem.run_pure, hck, run_findKey hku hr]
          cases r with
          | none => simp only [Sem.run_bind]; cases (zeroValue et).run P w <;> rfl
          | some p => rfl
        case map n L hL =>
          obtain ⟨ob, h2, c2, l3, l4, e3, e4, _⟩ := bnd_ok e1
          obtain ⟨hn, rfl, rfl, _⟩ := getM_ok e3
          cases ob <;> try exact (fail_ok e4).elim
          rename_i rw es ck
          obtain ⟨rfl, rfl, rfl, _⟩ := ret_ok e4
          obtain ⟨E, hb, hm⟩ := map_of r hn hL
          refine ⟨rfl, rfl, es, E, hm, rfl, fun r hr => ?_⟩
          simp only [Instr.lookup, Sem.run_bind, run_underlying hu, Result.andThen_ok, run_getMap (P := P) hb, Sem.run_pure, hck, run_findKey hku hr]
          cases r with
          | none => simp only [Sem.run_bind]; cases (zeroValue et).run P w <;> rfl
          | some p => rfl
      obtain ⟨rfl, rfl, es, E, hmr, hfr, run⟩ := hm
      have hfk := findK_now hko hi hmr 0
      rw [← hfr] at hfk
      cases fr with
      | none => exact (fail_ok e2).elim
      | some fo =>
        cases fo with
        | some p =>
          obtain ⟨j, v0, b⟩ := p
          obtain ⟨rfl, rfl, rfl, _⟩ := ret_ok e2
          obtain ⟨en, _, hv, _, hf, _⟩ := hfk.2 j v0 b rfl
          refine ⟨rfl, rfl, _, ?_, (run _ hf).trans rfl⟩
          cases ok
          · exact hv
          · exact .tuple (.cons hv (.cons (.bool _) .nil))
        | none =>
          obtain ⟨z, h2, c2, l3, l4, e3, e4, _⟩ := bnd_ok e2
          obtain ⟨hz, rfl, rfl, _⟩ := lift_ok e3
          obtain ⟨rfl, rfl, rfl, _⟩ := ret_ok e4
          obtain ⟨zv, hzr, hzv⟩ := run_zero hcx hz φ w
          refine ⟨rfl, rfl, if ok then .tuple #[zv, .bool false] else zv, ?_, (run _ (hfk.1 rfl)).trans ?_⟩
          · cases ok
            · exact hzv
            · exact .tuple (.cons hzv (.cons (.bool _) .nil))
          · simp only [Sem.run_bind, hzr, Result.andThen_ok, Sem.run_pure]

/-- Of a map that is written: what the model reads there. -/
theorem mapUpdateM_ok (r : Rel ng w0 φ h w) {t : Nat} {m k x v : V} {m' k' x' : Value} (hm : VR φ m m') (hk : VR φ k k') (hx : VR φ x x') (e : mapUpdateM cx t m k x h c = .ok v h' c' l) :
    c' = c ∧ v = .tuple [] ∧ ∃ w', Rel ng w0 φ h' w' ∧ (Instr.mapUpdate t m' k' x').run P w = .ok () w' := by
  unfold mapUpdateM at e
  cases hd : cx.desc t with
  | none => simp only [hd] at e; exact (fail_ok e).elim
  | some d =>
    have hu := desc_ok hcx hd
    simp only [hd] at e
    cases d <;> try exact (fail_ok e).elim
    rename_i kt et
    cases hm <;> try exact (fail_ok e).elim
    rename_i n L hL
    simp only at e
    cases hkd : cx.desc kt with
    | none => simp only [hkd] at e; exact (fail_ok e).elim
    | some kd =>
      have hku := desc_ok hcx hkd
      simp only [hkd] at e
      by_cases hko : keyOk kd k = true
      rotate_left
      · rw [if_neg hko] at e; exact (fail_ok e).elim
      rw [if_pos hko] at e
      have hck : ∀ b, (Instr.checkKey b 10000 kt k').run P w = .ok () w := fun b => keyOk_check hk hko hku b 9999
      obtain ⟨ob, h1, c1, l1, l2, e1, e2, _⟩ := bnd_ok e
      obtain ⟨hn, rfl, rfl, _⟩ := getM_ok e1
      cases ob <;> try exact (fail_ok e2).elim
      rename_i rw es ck
      cases rw <;> try exact (fail_ok e2).elim
      obtain ⟨E, hb, hmr⟩ := map_of r hn hL
      have hfk := findK_now hko hk hmr 0
      simp only at e2
      cases hf : findK k es with
      | none => simp only [hf] at e2; exact (fail_ok e2).elim
      | some fo =>
        cases fo with
        | some p =>
          obtain ⟨j, v0, b⟩ := p
          simp only [hf] at e2
          obtain ⟨u, h2, c2, l3, l4, e3, e4, _⟩ := bnd_ok e2
          obtain ⟨_, rfl, rfl, _⟩ := setM_ok e3
          obtain ⟨rfl, rfl, rfl, _⟩ := ret_ok e4
          obtain ⟨en, hen, hv, hbn, hfn, q, hq1, hq2, hq3⟩ := hfk.2 j v0 b hf
          have henA : E[j]? = some en := by rw [← Array.getElem?_toList]; exact hen
          refine ⟨rfl, rfl, _, r.setBlk hn rfl hL rfl ⟨E.modify j fun e => { e with key := k', val := x' }, rfl, ?_⟩, ?_⟩
          · rw [modify_list E j _ en henA, setNth_get]
            exact hmr.set j hk hx hbn
          · have hst := key_same (P := P) hko hk hq3 hq2 w
            rw [Nat.zero_add] at hfn
            simp only [Instr.mapUpdate, Sem.run_bind, run_underlying hu, Result.andThen_ok, run_getMap (P := P) hb, hck, run_findKey hku hfn, henA, Option.map_some, Option.getD_some, hst]
            exact run_setMap (P := P) _ hb
        | none =>
          simp only [hf] at e2
          obtain ⟨u, h2, c2, l3, l4, e3, e4, _⟩ := bnd_ok e2
          obtain ⟨_, rfl, rfl, _⟩ := setM_ok e3
          obtain ⟨rfl, rfl, rfl, _⟩ := ret_ok e4
          refine ⟨rfl, rfl, _, r.setBlk hn rfl hL rfl ⟨E.push { key := k', val := x', born := ck }, rfl, ?_⟩, ?_⟩
          · rw [Array.toList_push]; exact hmr.push hk hx rfl
          · simp only [Instr.mapUpdate, Sem.run_bind, run_underlying hu, Result.andThen_ok, run_getMap (P := P) hb, hck, run_findKey hku (hfk.1 hf)]
            exact run_setMap (P := P) _ hb

theorem mapEntryM_ok (r : Rel ng w0 φ h w) {t : Nat} {m k v : V} {m' k' : Value} (hm : VR φ m m') (hk : VR φ k k') (e : mapEntryM cx t m k h c = .ok v h' c' l) :
    c' = c ∧ ∃ w' u, Rel ng w0 φ h' w' ∧ VR φ v u ∧ (Instr.mapEntry t m' k').run P w = .ok u w' := by
  unfold mapEntryM at e
  cases hd : cx.desc t with
  | none => simp only [hd] at e; exact (fail_ok e).elim
  | some d =>
    have hu := desc_ok hcx hd
    simp only [hd] at e
    cases d <;> try exact (fail_ok e).elim
    rename_i kt et
    cases hm <;> try exact (fail_ok e).elim
    rename_i n L hL
    simp only at e
    cases hkd : cx.desc kt with
    | none => simp only [hkd] at e; exact (fail_ok e).elim
    | some kd =>
      have hku := desc_ok hcx hkd
      simp only [hkd] at e
      by_cases hko : keyOk kd k = true
      rotate_left
      · rw [if_neg hko] at e; exact (fail_ok e).elim
      rw [if_pos hko] at e
      have hck : ∀ b, (Instr.checkKey b 10000 kt k').run P w = .ok () w := fun b => keyOk_check hk hko hku b 9999
      obtain ⟨ob, h1, c1, l1, l2, e1, e2, _⟩ := bnd_ok e
      obtain ⟨hn, rfl, rfl, _⟩ := getM_ok e1
      cases ob <;> try exact (fail_ok e2).elim
      rename_i rw es ck
      cases rw <;> try exact (fail_ok e2).elim
      obtain ⟨E, hb, hmr⟩ := map_of r hn hL
      have hfk := findK_now hko hk hmr 0
      simp only at e2
      cases hf : findK k es with
      | none => simp only [hf] at e2; exact (fail_ok e2).elim
      | some fo =>
        cases fo with
        | some p =>
          obtain ⟨j, v0, b⟩ := p
          simp only [hf] at e2
          obtain ⟨u, h2, c2, l3, l4, e3, e4, _⟩ := bnd_ok e2
          obtain ⟨_, rfl, rfl, _⟩ := setM_ok e3
          obtain ⟨rfl, rfl, rfl, _⟩ := ret_ok e4
          obtain ⟨en, hen, hv, hbn, hfn, q, hq1, hq2, hq3⟩ := hfk.2 j v0 b hf
          have henA : E[j]? = some en := by rw [← Array.getElem?_toList]; exact hen
          refine ⟨rfl, _, .tuple #[en.val, goInt b], r.setBlk hn rfl hL rfl ⟨E.modify j fun e => { e with key := k' }, rfl, ?_⟩, .tuple (.cons hv (.cons (.int _ _) .nil)), ?_⟩
          · rw [modify_list E j _ en henA, setNth_get]
            exact hmr.set j hk hv hbn
          · have hst := key_same (P := P) hko hk hq3 hq2 w
            rw [Nat.zero_add] at hfn
            simp only [Instr.mapEntry, Sem.run_bind, run_underlying hu, Result.andThen_ok, run_getMap (P := P) hb, hck, run_findKey hku hfn, henA, Option.map_some, Option.getD_some, hst]
            rw [run_setMap (P := P) _ hb]
            simp only [Result.andThen_ok, Sem.run_pure, hbn]
        | none =>
          simp only [hf] at e2
          obtain ⟨z, h2, c2, l3, l4, e3, e4, _⟩ := bnd_ok e2
          obtain ⟨hz, rfl, rfl, _⟩ := lift_ok e3
          obtain ⟨zv, hzr, hzv⟩ := run_zero hcx hz φ w
          obtain ⟨u, h3, c3, l5, l6, e5, e6, _⟩ := bnd_ok e4
          obtain ⟨_, rfl, rfl, _⟩ := setM_ok e5
          obtain ⟨rfl, rfl, rfl, _⟩ := ret_ok e6
          refine ⟨rfl, _, .tuple #[zv, goInt ck], r.setBlk hn rfl hL rfl ⟨E.push { key := k', val := zv, born := ck }, rfl, ?_⟩, .tuple (.cons hzv (.cons (.int _ _) .nil)), ?_⟩
          · rw [Array.toList_push]; exact hmr.push hk hzv rfl
          · simp only [Instr.mapEntry, Sem.run_bind, run_underlying hu, Result.andThen_ok, run_getMap (P := P) hb, hck, run_findKey hku (hfk.1 hf), hzr]
            rw [run_setMap (P := P) _ hb]
            rfl

omit hcx in
theorem stampV_ok {b : Int} {x : V} {x' : Value} (hx : VR φ x x') : ∀ {es out : List (V × V × Nat)} {us : List MapEntry}, MRs φ es us → stampV b x es = some out →
    ∃ i e, us[i]? = some e ∧ (us.findIdx? fun e => (e.born : Int) == b) = some i ∧ MRs φ out (us.set i { e with val := x' })
  | _, out, _, .nil, h => by unfold stampV at h; cases h
  | _, out, _, .cons (k := q) (v := v) (b := bb) (e := e) hq hv hb hr, h => by
    unfold stampV at h
    split at h
    · next hh =>
      cases h
      refine ⟨0, e, by simp, ?_, ?_⟩
      · rw [List.findIdx?_cons]; rw [hb, hh]; rfl
      · simp; exact .cons hq hx hb hr
    · next hh =>
      split at h
      · next out' ho =>
        cases h
        obtain ⟨i, e', h1, h2, h3⟩ := stampV_ok hx hr ho
        refine ⟨i + 1, e', by simpa using h1, ?_, ?_⟩
        · rw [List.findIdx?_cons]; rw [hb]; simp only [Bool.not_eq_true] at hh; rw [hh]; simp [h2]
        · simp; exact .cons hq hv hb h3
      · cases h

omit hcx in
theorem entryStoreM_ok (r : Rel ng w0 φ h w) {t : Nat} {m s x v : V} {m' s' x' : Value} (hm : VR φ m m') (hs : VR φ s s') (hx : VR φ x x') (e : entryStoreM m s x h c = .ok v h' c' l) :
    c' = c ∧ v = .tuple [] ∧ ∃ w', Rel ng w0 φ h' w' ∧ (Instr.entryStore t m' s' x').run P w = .ok () w' := by
  unfold entryStoreM at e
  cases hm <;> try exact (fail_ok e).elim
  rename_i n L hL
  cases hs <;> try exact (fail_ok e).elim
  rename_i k b
  obtain ⟨ob, h1, c1, l1, l2, e1, e2, _⟩ := bnd_ok e
  obtain ⟨hn, rfl, rfl, _⟩ := getM_ok e1
  cases ob <;> try exact (fail_ok e2).elim
  rename_i rw es ck
  cases rw <;> try exact (fail_ok e2).elim
  obtain ⟨E, hb, hmr⟩ := map_of r hn hL
  obtain ⟨out, h2, c2, l3, l4, e3, e4, _⟩ := bnd_ok e2
  obtain ⟨hst, rfl, rfl, _⟩ := lift_ok e3
  obtain ⟨u, h3, c3, l5, l6, e5, e6, _⟩ := bnd_ok e4
  obtain ⟨_, rfl, rfl, _⟩ := setM_ok e5
  obtain ⟨rfl, rfl, rfl, _⟩ := ret_ok e6
  obtain ⟨i, en, h7, h8, h9⟩ := stampV_ok hx hmr hst
  have henA : E[i]? = some en := by rw [← Array.getElem?_toList]; exact h7
  refine ⟨rfl, rfl, _, r.setBlk hn rfl hL rfl ⟨E.modify i fun e => { e with val := x' }, rfl, ?_⟩, ?_⟩
  · rw [modify_list E i _ en henA]; exact h9
  · have : E.findIdx? (fun e => (e.born : Int) == b) = some i := by rw [← List.findIdx?_toArray] at h8; exact h8
    simp only [Instr.entryStore, Sem.run_bind, Sem.run_pure, Result.andThen_ok, run_getMap (P := P) hb, Go.asInt, asIntOf, this]
    exact run_setMap (P := P) _ hb

theorem deleteM_ok (r : Rel ng w0 φ h w) {t ty : Nat} {m k v : V} {m' k' : Value} (hm : VR φ m m') (hk : VR φ k k') {ts : List Nat} {xs : List Value} (e : deleteM cx t m k h c = .ok v h' c' l) :
    c' = c ∧ v = .tuple [] ∧ ∃ w', Rel ng w0 φ h' w' ∧ (Builtin.delete_ ⟨t :: ts⟩ ty ⟨m' :: k' :: xs⟩).run P w = .ok (.tuple #[]) w' := by
  unfold deleteM at e
  cases hd : cx.desc t with
  | none => simp only [hd] at e; exact (fail_ok e).elim
  | some d =>
    have hu := desc_ok hcx hd
    simp only [hd] at e
    cases d <;> try exact (fail_ok e).elim
    rename_i kt et
    simp only at e
    cases hkd : cx.desc kt with
    | none => simp only [hkd] at e; exact (fail_ok e).elim
    | some kd =>
      have hku := desc_ok hcx hkd
      simp only [hkd] at e
      by_cases hko : keyOk kd k = true
      rotate_left
      · rw [if_neg hko] at e; exact (fail_ok e).elim
      rw [if_pos hko] at e
      have hck : ∀ b, (Instr.checkKey b 10000 kt k').run P w = .ok () w := fun b => keyOk_check hk hko hku b 9999
      cases hm <;> try exact (fail_ok e).elim
      case mapNil =>
        obtain ⟨rfl, rfl, rfl, _⟩ := ret_ok e
        refine ⟨rfl, rfl, w, r, ?_⟩
        simp [Builtin.delete_, run_underlying hu, hck]
      case map n L hL =>
        obtain ⟨ob, h1, c1, l1, l2, e1, e2, _⟩ := bnd_ok e
        obtain ⟨hn, rfl, rfl, _⟩ := getM_ok e1
        cases ob <;> try exact (fail_ok e2).elim
        rename_i rw es ck
        cases rw <;> try exact (fail_ok e2).elim
        obtain ⟨E, hb, hmr⟩ := map_of r hn hL
        have hfk := findK_now hko hk hmr 0
        simp only at e2
        cases hf : findK k es with
        | none => simp only [hf] at e2; exact (fail_ok e2).elim
        | some fo =>
          cases fo with
          | some p =>
            obtain ⟨j, v0, b⟩ := p
            simp only [hf] at e2
            obtain ⟨u, h2, c2, l3, l4, e3, e4, _⟩ := bnd_ok e2
            obtain ⟨_, rfl, rfl, _⟩ := setM_ok e3
            obtain ⟨rfl, rfl, rfl, _⟩ := ret_ok e4
            obtain ⟨en, hen, hv, hbn, hfn, _⟩ := hfk.2 j v0 b hf
            refine ⟨rfl, rfl, _, r.setBlk hn rfl hL rfl ⟨E.eraseIdxIfInBounds j, rfl, ?_⟩, ?_⟩
            · have : (E.eraseIdxIfInBounds j).toList = E.toList.eraseIdx j := by simp
              rw [this, delNth_get]
              exact hmr.erase j
            · rw [Nat.zero_add] at hfn
              simp only [Builtin.delete_, List.getElem?_toArray, List.getElem?_cons_zero, List.getElem?_cons_succ, Sem.run_bind, run_underlying hu, Result.andThen_ok, run_getMap (P := P) hb, hck, run_findKey hku hfn]
              rw [run_setMap (P := P) _ hb]
              rfl
          | none =>
            simp only [hf] at e2
            obtain ⟨u, h2, c2, l3, l4, e3, e4, _⟩ := bnd_ok e2
            obtain ⟨_, rfl, rfl, _⟩ := setM_ok e3
            obtain ⟨rfl, rfl, rfl, _⟩ := ret_ok e4
            refine ⟨rfl, rfl, _, r.setBlk hn rfl hL rfl ⟨E, rfl, hmr⟩, ?_⟩
            simp only [Builtin.delete_, List.getElem?_toArray, List.getElem?_cons_zero, List.getElem?_cons_succ, Sem.run_bind, run_underlying hu, Result.andThen_ok, run_getMap (P := P) hb, hck, run_findKey hku (hfk.1 hf)]
            rw [run_setMap (P := P) _ hb]
            rfl
end
end Go.Ab
