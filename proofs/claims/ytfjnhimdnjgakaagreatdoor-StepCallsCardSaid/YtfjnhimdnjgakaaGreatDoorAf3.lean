/- What the fast evaluator answers, the evaluator answers: operations, regions, code, calls. -/
import Derived.Test.YtfjnhimdnjgakaaGreatDoorAf2
import Derived.Test.YtfjnhimdnjgakaaGreatDoorAc20
set_option linter.unusedVariables false
set_option linter.unusedSectionVars false
set_option linter.unusedSimpArgs false
set_option linter.unnecessarySimpa false
namespace Go.Ab

section
variable {cx : Cx} {u : ET} {call : Tgt → List V → Fa} {slow : Tgt → List V → M HT V}
theorem snd1 {x : Operand} {f : V → Fa} {g : V → M HT V} (H : ∀ v, Snd (f v) (g v)) : Snd (fun h c lg k => opdK (pvOf cx x) u fun v => f v h c lg k) (bnd (lift "operand" (ev1 cx u x)) g) := fun h c lg k hk => by
  obtain ⟨v, h1, h2⟩ := opdK_ok hk
  obtain ⟨w, h', c', l, h3, h4⟩ := H v h c lg k h2
  exact ⟨w, h', c', l, by rw [h1]; exact fbnd (l := []) (l' := l) lift1 h3, h4⟩
theorem snd2 {x y : Operand} {f : V → V → Fa} {g : V → V → M HT V} (H : ∀ v w, Snd (f v w) (g v w)) : Snd (fun h c lg k => opdK (pvOf cx x) u fun v => opdK (pvOf cx y) u fun w => f v w h c lg k) (bnd (lift "operand" (ev1 cx u x)) fun v => bnd (lift "operand" (ev1 cx u y)) (g v)) :=
  snd1 (f := fun v h c lg k => opdK (pvOf cx y) u fun w => f v w h c lg k) fun v => snd1 (H v)
theorem snd_gen (o : Oper) : Snd (pxF ⟨cx, call, slow⟩ (.gen o) u) (opM cx slow u o) := fun h c lg k hk => resK_ok hk
theorem Snd.of {f g : Fa} {m m' : M HT V} (H : Snd g m') (h1 : f = g) (h2 : m = m') : Snd f m := by rw [h1, h2]; exact H
theorem binX_ok {op : BinOp} {t : Nat} {cst : Bool} {x y : Operand} : Snd (pxF ⟨cx, call, slow⟩ (binX op cx t cst (pvOf cx x) (pvOf cx y)) u) (bnd (lift "operand" (ev1 cx u x)) fun a => bnd (lift "operand" (ev1 cx u y)) fun b => binM cx op t cst a b) := by
  have I : ∀ {g : IntKind → Int → Int → Option V} {op : BinOp}, (∀ k x y, binM cx op t cst (.int k x) (.int k y) = (lift "int" (g k x y) : M HT V)) → Snd (pxF ⟨cx, call, slow⟩ (.f2 (intF g) (pvOf cx x) (pvOf cx y)) u) (bnd (lift "operand" (ev1 cx u x)) fun a => bnd (lift "operand" (ev1 cx u y)) fun b => binM cx op t cst a b) := fun hm => snd2 fun v w => intF_ok hm v w
  have S : ∀ {g : IntKind → Int → Int → Option V} {op : BinOp}, (∀ k x k' y, binM cx op t cst (.int k x) (.int k' y) = (lift "shift" (g k x y) : M HT V)) → Snd (pxF ⟨cx, call, slow⟩ (.f2 (shF g) (pvOf cx x) (pvOf cx y)) u) (bnd (lift "operand" (ev1 cx u x)) fun a => bnd (lift "operand" (ev1 cx u y)) fun b => binM cx op t cst a b) := fun hm => snd2 fun v w => shF_ok hm v w
  have G : ∀ {op : BinOp}, Snd (pxF ⟨cx, call, slow⟩ (.g2 (binM cx op t cst) (pvOf cx x) (pvOf cx y)) u) (bnd (lift "operand" (ev1 cx u x)) fun a => bnd (lift "operand" (ev1 cx u y)) fun b => binM cx op t cst a b) := snd2 fun v w => Snd.res
  cases op with
  | add => exact I fun k x y => by rw [addG_ok]; simp only [binM, if_true]
  | sub => exact I fun k x y => by rw [subG_ok]; simp only [binM, if_true]
  | mul => exact I fun k x y => by rw [mulG_ok]; simp only [binM, if_true]
  | eql => exact I fun k x y => by rw [eqlG_ok]; simp only [binM, if_true]
  | neq => exact I fun k x y => by rw [neqG_ok]; simp only [binM, if_true]
  | lss => exact I fun k x y => by rw [lssG_ok]; simp only [binM, if_true]
  | leq => exact I fun k x y => by rw [leqG_ok]; simp only [binM, if_true]
  | gtr => exact I fun k x y => by rw [gtrG_ok]; simp only [binM, if_true]
  | geq => exact I fun k x y => by rw [geqG_ok]; simp only [binM, if_true]
  | and => exact I fun k x y => by rw [andG_ok]; simp only [binM, if_true]
  | or => exact I fun k x y => by rw [orG_ok]; simp only [binM, if_true]
  | shl => exact S fun k x k' y => by rw [shlG_ok]; rfl
  | shr => exact S fun k x k' y => by rw [shrG_ok]; rfl
  | quo => exact G
  | rem => exact G
  | xor => exact G
  | andNot => exact G
variable (hcall : ∀ t xs, Snd (call t xs) (slow t xs))
include hcall
theorem callX_ok {cl : Call} : Snd (pxF ⟨cx, call, slow⟩ (xCall cl cx ⟨none, .call cl, 0, "", #[], none⟩) u) (callM cx slow u cl) := by
  have args : ∀ {f : List V → Fa} {g : List V → M HT V}, (∀ vs, Snd (f vs) (g vs)) → Snd (fun h c lg k => opdsK (pvsOf cx cl.args.toList) u fun vs => f vs h c lg k) (bnd (lift "call: arguments" (evs cx u cl.args.toList)) g) := fun H h c lg k hk => by
    obtain ⟨v, h1, h2⟩ := opdsK_ok hk
    obtain ⟨w, h', c', l, h3, h4⟩ := H v h c lg k h2
    exact ⟨w, h', c', l, by rw [h1]; exact fbnd (l := []) (l' := l) lift1 h3, h4⟩
  obtain ⟨ce, as, ats⟩ := cl
  unfold callM
  cases ce with
  | builtin b =>
    have gen : ∀ b, Snd (pxF ⟨cx, call, slow⟩ (.gl (builtinM cx b ats.toList) (pvsOf cx as.toList)) u) (bnd (lift "call: arguments" (evs cx u as.toList)) fun xs => builtinM cx b ats.toList xs) := fun b => args fun vs => Snd.res
    show Snd (pxF ⟨cx, call, slow⟩ (xBlt b ⟨.builtin b, as, ats⟩ cx) u) (bnd (lift "call: arguments" (evs cx u as.toList)) fun xs => builtinM cx b ats.toList xs)
    unfold xBlt
    cases hb : isLen b with
    | false => exact gen b
    | true =>
      have hb : b = .len := by cases b <;> first | rfl | (cases hb; done)
      subst hb
      show Snd (pxF ⟨cx, call, slow⟩ (xLen ⟨.builtin .len, as, ats⟩ cx) u) _
      unfold xLen
      simp only
      split
      · next t ts x h1 h2 =>
        cases hs : isSlice (cx.desc t) with
        | false => exact gen .len
        | true =>
          obtain ⟨el, hd⟩ : ∃ el, cx.desc t = some (.slice el) := by
            cases hd : cx.desc t with
            | none => rw [hd] at hs; cases hs
            | some d => rw [hd] at hs; cases d <;> first | (cases hs; done) | exact ⟨_, rfl⟩
          rw [h1, h2]
          intro h c lg k hk
          obtain ⟨v, h3, h4⟩ := opdK_ok (show opdK (pvOf cx x) u (fun v => lenF v h c lg k) = true from hk)
          obtain ⟨w, h', c', l, h5, h6⟩ := lenF_ok hd v h c lg k h4
          refine ⟨w, h', c', l, ?_, h6⟩
          have : evs cx u [x] = some [v] := by simp only [evs, h3]
          rw [this]
          exact fbnd (l := []) (l' := l) lift1 h5
      · exact gen .len
  | value f =>
    have G : Snd (pxF ⟨cx, call, slow⟩ (.callV (pvOf cx f) (pvsOf cx as.toList)) u) (bnd (lift "call: arguments" (evs cx u as.toList)) fun xs => bnd (lift "call: function" (ev1 cx u f)) fun | .func (.func f) first captured => slow (.fn f) (first ++ xs ++ captured) | .yld n => slow (.yl n) xs | _ => fail "call: what") := by
      refine args (f := fun vs h c lg k => opdK (pvOf cx f) u fun f => callK ⟨cx, call, slow⟩ vs f h c lg k) fun vs h c lg k hk => ?_
      obtain ⟨v, h1, h2⟩ := opdK_ok hk
      unfold callK at h2
      split at h2
      · next f first captured =>
        obtain ⟨w, h', c', l, h3, h4⟩ := hcall _ _ h c lg k h2
        exact ⟨w, h', c', l, by rw [h1]; exact fbnd (l := []) (l' := l) lift1 h3, h4⟩
      · next n =>
        obtain ⟨w, h', c', l, h3, h4⟩ := hcall _ _ h c lg k h2
        exact ⟨w, h', c', l, by rw [h1]; exact fbnd (l := []) (l' := l) lift1 h3, h4⟩
      · cases h2
    cases f with
    | func f =>
      refine args (f := fun vs => call (.fn f) vs) fun vs h c lg k hk => ?_
      obtain ⟨w, h', c', l, h3, h4⟩ := hcall _ _ h c lg k hk
      refine ⟨w, h', c', l, fbnd (l := []) (l' := l) lift1 ?_, h4⟩
      simpa using h3
    | tmp t => exact G
    | const t => exact G
    | global t => exact G
  | invoke r name =>
    refine args (f := fun vs h c lg k => opdK (pvOf cx r) u fun r => invK ⟨cx, call, slow⟩ name vs r h c lg k) fun vs h c lg k hk => ?_
    obtain ⟨v, h1, h2⟩ := opdK_ok hk
    unfold invK at h2
    split at h2
    · next t v =>
      obtain ⟨f, h3, h4⟩ := optK_ok h2
      obtain ⟨w, h', c', l, h5, h6⟩ := hcall _ _ h c lg k h4
      refine ⟨w, h', c', l, ?_, h6⟩
      have h3 : methodV cx t name = some f := h3
      refine fbnd (l := []) (l' := l) (a := .iface t v) (h' := h) (c' := c) (by rw [h1]; rfl) ?_
      exact fbnd (l := []) (l' := l) (a := f) (h' := h) (c' := c) (by rw [h3]; rfl) h5
    · cases h2
theorem compX_ok (o : Oper) : Snd (pxF ⟨cx, call, slow⟩ (compX cx o) u) (opM cx slow u o) := by
  have gen := snd_gen (cx := cx) (u := u) (call := call) (slow := slow) o
  obtain ⟨ds, op, ty, pos, af, gd⟩ := o
  cases op with
  | move x =>
    intro h c lg k hk
    obtain ⟨v, h1, h2⟩ := opdK_ok (show opdK (pvOf cx x) u (fun v => k v h c lg) = true from hk)
    exact ⟨v, h, c, [], by show lift "operand" (ev1 cx u x) h c = _; rw [h1]; rfl, h2⟩
  | assign x =>
    intro h c lg k hk
    obtain ⟨v, h1, h2⟩ := opdK_ok (show opdK (pvOf cx x) u (fun v => k v h c lg) = true from hk)
    exact ⟨v, h, c, [], by show lift "operand" (ev1 cx u x) h c = _; rw [h1]; rfl, h2⟩
  | pick x a b =>
    refine snd1 (f := fun v => fun h c lg k => condK v (opdK (pvOf cx b) u fun v => k v h c lg) (opdK (pvOf cx a) u fun v => k v h c lg)) fun v h c lg k hk => ?_
    rcases condK_ok hk with ⟨rfl, hk⟩ | ⟨rfl, hk⟩
    · obtain ⟨v, h1, h2⟩ := opdK_ok hk
      exact ⟨v, h, c, [], by simp only; rw [h1]; rfl, h2⟩
    · obtain ⟨v, h1, h2⟩ := opdK_ok hk
      exact ⟨v, h, c, [], by simp only; rw [h1]; rfl, h2⟩
  | alloc t =>
    show Snd (pxF ⟨cx, call, slow⟩ (xAlloc t cx ⟨ds, .alloc t, ty, pos, af, gd⟩) u) _
    unfold xAlloc
    split
    · next z hz =>
      intro h c lg k hk
      obtain ⟨w, h', c', l, h1, h2⟩ := newF_ok _ h c lg k hk
      refine ⟨w, h', c', l, ?_, h2⟩
      show bnd (lift "alloc" (cx.zero t)) (fun z => bnd (newM (.cells true true (cellsV z))) fun n => ret (V.ptr (some (n, 0)))) h c = _
      rw [hz]
      exact fbnd (l := []) (l' := l) lift1 h1
    · exact gen
  | box t x => exact snd1 fun v => newF_ok _
  | build t ps =>
    intro h c lg k hk
    obtain ⟨v, h1, h2⟩ := prtsK_ok (show prtsK (ppsOf cx ps.toList) u _ = true from hk)
    obtain ⟨a, h', c', l, h3, h4⟩ := resK_ok h2
    exact ⟨a, h', c', l, by show bnd (lift "operand" (evParts cx u ps.toList)) _ h c = _; rw [h1]; exact fbnd (l := []) (l' := l) lift1 h3, h4⟩
  | buildSlice t len ps =>
    intro h c lg k hk
    obtain ⟨v, h1, h2⟩ := prtsK_ok (show prtsK (ppsOf cx ps.toList) u _ = true from hk)
    obtain ⟨a, h', c', l, h3, h4⟩ := resK_ok h2
    exact ⟨a, h', c', l, by show bnd (lift "operand" (evParts cx u ps.toList)) _ h c = _; rw [h1]; exact fbnd (l := []) (l' := l) lift1 h3, h4⟩
  | load t x =>
    show Snd (pxF ⟨cx, call, slow⟩ (xLoad t x cx ⟨ds, .load t x, ty, pos, af, gd⟩) u) _
    unfold xLoad
    split
    · exact gen
    · next d hd =>
      split
      · next s ha hs => exact snd1 fun v => loadAF_ok hd ha hs v
      · exact gen
      · next ha => exact snd1 fun v => load1F_ok hd ha v
  | store t x y =>
    show Snd (pxF ⟨cx, call, slow⟩ (xStore t x y cx ⟨ds, .store t x y, ty, pos, af, gd⟩) u) _
    unfold xStore
    split
    · next hs => exact snd2 fun v w => store1F_ok hs v w
    · exact snd2 fun v w => storeKF_ok v w
  | nilCheck x => exact snd1 fun v => Snd.res
  | binOp op t x y t' =>
    show Snd (pxF ⟨cx, call, slow⟩ (xBin op t x y t' cx ⟨ds, .binOp op t x y t', ty, pos, af, gd⟩) u) _
    unfold xBin
    cases isInt (cx.desc t) with
    | true => exact binX_ok
    | false => exact snd2 fun v w => Snd.res
  | unOp op t x =>
    show Snd (pxF ⟨cx, call, slow⟩ (xUn op t x cx ⟨ds, .unOp op t x, ty, pos, af, gd⟩) u) _
    unfold xUn
    split
    · exact snd1 fun v => notF_ok v
    · exact snd1 fun v => Snd.res
  | convert s d x =>
    show Snd (pxF ⟨cx, call, slow⟩ (xConv s d x cx ⟨ds, .convert s d x, ty, pos, af, gd⟩) u) _
    unfold xConv
    split
    · next k1 k2 hs hd => exact snd1 fun v => convF_ok hs hd v
    · exact snd1 fun v => Snd.res
  | fieldAddr s x f =>
    show Snd (pxF ⟨cx, call, slow⟩ (xFaddr s x f cx ⟨ds, .fieldAddr s x f, ty, pos, af, gd⟩) u) _
    unfold xFaddr
    split
    · next fields hs =>
      split
      · next d hf =>
        split
        · next z hz => exact snd1 fun v => faddrF_ok hs hf hz v
        · exact gen
      · exact gen
    · exact gen
  | field s x f =>
    show Snd (pxF ⟨cx, call, slow⟩ (xField s x f cx ⟨ds, .field s x f, ty, pos, af, gd⟩) u) _
    unfold xField
    split
    · next fields hs =>
      split
      · next d hf =>
        split
        · next e he =>
          split
          · next z ha hz => exact snd1 fun v => fldAF_ok hs hf he ha hz v
          · exact gen
          · next ha => exact snd1 fun v => fldF_ok hs hf he ha v
        · exact gen
      · exact gen
    · exact gen
  | indexAddr t x i =>
    show Snd (pxF ⟨cx, call, slow⟩ (xIaddr t x i cx ⟨ds, .indexAddr t x i, ty, pos, af, gd⟩) u) _
    unfold xIaddr
    split
    · next el hd =>
      split
      · next s hs => exact snd2 fun v w => iaddrF_ok hd hs v w
      · exact gen
    · exact snd2 fun v w => Snd.res
  | index t x i => exact snd2 fun v w => Snd.res
  | lookup t x i ok => exact snd2 fun v w => Snd.res
  | makeSlice t l c => exact snd2 fun v w => Snd.res
  | slice t x lo hi mx =>
    intro h c lg k hk
    obtain ⟨v, h1, h2⟩ := opdK_ok (show opdK (pvOf cx x) u (fun v => opoK (pvoOf cx lo) u fun lo => opoK (pvoOf cx hi) u fun hi => opoK (pvoOf cx mx) u fun mx => resK (sliceM cx t v lo hi mx h c) lg k) = true from hk)
    obtain ⟨v1, h3, h4⟩ := opoK_ok h2
    obtain ⟨v2, h5, h6⟩ := opoK_ok h4
    obtain ⟨v3, h7, h8⟩ := opoK_ok h6
    obtain ⟨a, h', c', l, h9, h10⟩ := resK_ok h8
    refine ⟨a, h', c', l, ?_, h10⟩
    show bnd (lift "operand" (ev1 cx u x)) (fun a => bnd (lift "operand" (evO cx u lo)) fun lo => bnd (lift "operand" (evO cx u hi)) fun hi => bnd (lift "operand" (evO cx u mx)) fun mx => sliceM cx t a lo hi mx) h c = _
    rw [h1, h3, h5, h7]
    exact fbnd (l := []) (l' := l) lift1 (fbnd (l := []) (l' := l) lift1 (fbnd (l := []) (l' := l) lift1 (fbnd (l := []) (l' := l) lift1 h9)))
  | typeAssert x t t' ok => exact snd1 fun v => Snd.res
  | extract x i => exact snd1 fun v => extF_ok i v
  | call cl => exact callX_ok hcall
  | insert _ _ _ _ => exact gen
  | ready _ => exact gen
  | waits _ => exact gen
  | sliceToArrayPointer _ _ => exact gen
  | makeInterface _ _ => exact gen
  | makeFunc _ _ _ => exact gen
  | makeMap _ _ => exact gen
  | makeChan _ _ => exact gen
  | mapUpdate _ _ _ _ => exact gen
  | mapEntry _ _ _ => exact gen
  | entryStore _ _ _ _ => exact gen
  | range _ _ => exact gen
  | next _ _ => exact gen
  | entry _ => exact gen
  | go _ => exact gen
  | defer _ => exact gen
  | panic _ => exact gen
  | send _ _ => exact gen
  | recv _ _ _ => exact gen
  | select _ _ => exact gen

/-! ## Regions -/
omit hcall in
theorem putX_ok {N : Nat} {d : Option Tmp} {p : Option Pa} (hp : pdOf N d = some p) (v : V) : (putE N u d v : M HT ET) = Ab.ret (putX u p v) := by
  cases d with
  | none => cases hp; rfl
  | some d =>
    have hp : pdS d N = some p := hp
    unfold pdS at hp
    cases hd : Nat.ble (Nat.succ d) N with
    | false => rw [hd] at hp; cases hp
    | true =>
      rw [hd] at hp
      cases hp
      have hd : d < N := Nat.le_of_ble_eq_true hd
      unfold putE
      simp only [if_pos hd]
      show Ab.ret _ = Ab.ret (setP (paOf d) v u)
      rw [setP_ok]
theorem poF_ok {N : Nat} {ops : List Oper} {o : Oper} {h : HT} {c : Nat} {lg : List Acc} {k : KE} (hk : poF ⟨cx, call, slow⟩ (compO cx N ops o) u h c lg k = true) :
    ∃ u' h' c' l, stepOp cx slow N ops o u h c = .ok u' h' c' l ∧ k u' h' c' (l.reverse ++ lg) = true := by
  unfold compO at hk
  cases hp : pdOf N o.dst with
  | none => rw [hp] at hk; cases hk
  | some p =>
    rw [hp] at hk
    have hk : poF ⟨cx, call, slow⟩ (compG cx ops o p) u h c lg k = true := hk
    unfold compG at hk
    have run : ∀ {k : KE}, wantedV ops u o = some true → pxF ⟨cx, call, slow⟩ (compX cx o) u h c lg (fun v h c lg => k (putX u p v) h c lg) = true → ∃ u' h' c' l, stepOp cx slow N ops o u h c = .ok u' h' c' l ∧ k u' h' c' (l.reverse ++ lg) = true := fun {k} hw hx => by
      obtain ⟨v, h', c', l, h1, h2⟩ := compX_ok hcall o h c lg _ hx
      refine ⟨putX u p v, h', c', l ++ [], ?_, by rw [List.append_nil]; exact h2⟩
      unfold stepOp
      rw [hw]
      exact fbnd h1 (by rw [putX_ok hp]; rfl)
    have skip : ∀ {k : KE}, wantedV ops u o = some false → k (putX u p undefV) h c lg = true → ∃ u' h' c' l, stepOp cx slow N ops o u h c = .ok u' h' c' l ∧ k u' h' c' (l.reverse ++ lg) = true := fun {k} hw hx => by
      refine ⟨putX u p undefV, h, c, [], ?_, hx⟩
      unfold stepOp
      rw [hw]
      show putE N u o.dst undefV h c = _
      rw [putX_ok hp]; rfl
    split at hk
    · next hg => exact run (by unfold wantedV; rw [hg]) hk
    · next j want hg =>
      split at hk
      · next hj => exact skip (by unfold wantedV; rw [hg]; simp only; rw [hj]) hk
      · next g hj =>
        obtain ⟨w, h1, h2⟩ := optK_ok (show optK (getP (paOf g) u) _ = true from hk)
        rw [getP_ok] at h1
        unfold guardK at h2
        split at h2
        · next b =>
          cases hb : b == want with
          | true =>
            rw [hb] at h2
            exact run (by unfold wantedV; rw [hg]; simp only [hj, h1, hb]) h2
          | false =>
            rw [hb] at h2
            exact skip (by unfold wantedV; rw [hg]; simp only [hj, h1, hb]) h2
        · next hno => exact skip (by
            unfold wantedV
            rw [hg]
            simp only [hj, h1]) h2
theorem opsF_ok {N : Nat} {ops : List Oper} : ∀ {l : List Oper} {u : ET} {h : HT} {c : Nat} {lg : List Acc} {k : KE}, opsF ⟨cx, call, slow⟩ (compL cx N ops l) u h c lg k = true →
    ∃ u' h' c' a, evOps cx slow N ops l u h c = .ok u' h' c' a ∧ k u' h' c' (a.reverse ++ lg) = true
  | [], u, h, c, lg, k, hk => ⟨u, h, c, [], rfl, hk⟩
  | o :: l, u, h, c, lg, k, hk => by
    obtain ⟨u1, h1, c1, a1, e1, k1⟩ := poF_ok hcall (show poF ⟨cx, call, slow⟩ (compO cx N ops o) u h c lg (fun u h c lg => opsF ⟨cx, call, slow⟩ (compL cx N ops l) u h c lg k) = true from hk)
    obtain ⟨u2, h2, c2, a2, e2, k2⟩ := opsF_ok k1
    refine ⟨u2, h2, c2, a1 ++ a2, ?_, by rw [List.reverse_append, List.append_assoc]; exact k2⟩
    unfold evOps
    exact fbnd e1 e2
theorem drF_ok {N : Nat} {ops : List Oper} {deps : List Nat} : ∀ {l : List Oper} {al : List (List Acc)} {u : ET} {h : HT} {c : Nat} {lg : List Acc} {k : KE}, drF ⟨cx, call, slow⟩ deps (compL cx N ops l) al u h c lg k = true →
    ∃ u' as h' c' a, evLog cx slow N ops l u h c = .ok (u', as) h' c' a ∧ logsF deps (al.reverse ++ as.map List.reverse) = true ∧ k u' h' c' (a.reverse ++ lg) = true
  | [], al, u, h, c, lg, k, hk => by
    obtain ⟨h1, h2⟩ := boolK_and (show boolK false (k u h c lg) (logsF deps al.reverse) = true from hk)
    exact ⟨u, [], h, c, [], rfl, by simpa using h1, h2⟩
  | o :: l, al, u, h, c, lg, k, hk => by
    obtain ⟨u1, h1, c1, a1, e1, k1⟩ := poF_ok hcall (show poF ⟨cx, call, slow⟩ (compO cx N ops o) u h c [] (fun u h c r => drF ⟨cx, call, slow⟩ deps (compL cx N ops l) (r :: al) u h c (r ++ lg) k) = true from hk)
    obtain ⟨u2, as, h2, c2, a2, e2, l2, k2⟩ := drF_ok k1
    refine ⟨u2, a1 :: as, h2, c2, a1 ++ (a2 ++ []), ?_, ?_, ?_⟩
    · unfold evLog
      refine fbnd (a := (u1, a1)) (h' := h1) (c' := c1) ?_ (fbnd e2 rfl)
      unfold listen
      rw [e1]
    · simpa using l2
    · simpa using k2
omit hcall in
theorem hits_rev {n : Nat} {w : Bool} : ∀ {l : List Acc}, hitsOne n w l = l.any fun a => Nat.beq a.name n && (w || a.writes)
  | [] => rfl
  | a :: l => by simp only [hitsOne, List.any_cons, hits_rev (l := l)]
omit hcall in
theorem meet_any : ∀ {l m : List Acc}, meet l m = l.any fun a => m.any fun b => Nat.beq b.name a.name && (a.writes || b.writes)
  | [], m => rfl
  | a :: l, m => by simp only [meet, List.any_cons, meet_any (l := l) (m := m), hits_rev]
omit hcall in
theorem meet_rev {l m : List Acc} : meet l.reverse m.reverse = meet l m := by simp only [meet_any, List.any_reverse]
omit hcall in
theorem apart_rev {i : Nat} {a : List Acc} : ∀ {deps : List Nat} {as : List (List Acc)}, apartFrom i a.reverse (deps.zip (as.map List.reverse)) = apartFrom i a (deps.zip as)
  | [], as => rfl
  | _ :: _, [] => rfl
  | d :: deps, b :: as => by simp only [List.map_cons, List.zip_cons_cons, apartFrom, meet_rev, apart_rev (deps := deps) (as := as)]
omit hcall in
theorem all_rev : ∀ {i : Nat} {deps : List Nat} {as : List (List Acc)}, allApart i (deps.zip (as.map List.reverse)) = allApart i (deps.zip as)
  | i, [], as => rfl
  | i, _ :: _, [] => rfl
  | i, d :: deps, b :: as => by
    simp only [List.map_cons, List.zip_cons_cons, allApart, all_rev (deps := deps) (as := as)]
    cases b with
    | nil => rfl
    | cons x b =>
      have e : ∃ y z, (x :: b).reverse = y :: z := by
        cases h : (x :: b).reverse with
        | nil => simp at h
        | cons y z => exact ⟨y, z, rfl⟩
      obtain ⟨y, z, e⟩ := e
      have := apart_rev (i := i) (a := x :: b) (deps := deps) (as := as)
      rw [e] at this ⊢
      simp only [this]
omit hcall in
theorem anyW_rev : ∀ {as : List (List Acc)}, anyWrite (as.map List.reverse) = anyWrite as
  | [] => rfl
  | a :: as => by simp only [List.map_cons, anyWrite, List.any_reverse, anyW_rev (as := as)]
omit hcall in
theorem logsF_ok {ops : List Oper} {as : List (List Acc)} (h : logsF (closure ops []) (as.map List.reverse) = true) : logsOk ops as = true := by
  unfold logsF at h
  unfold logsOk
  rw [anyW_rev, all_rev] at h
  exact h

/-! ## Code -/
def outOk (kn : KE) (kx : KX) (x : Ex) (u : ET) (h : HT) (c : Nat) (lg : List Acc) : Prop :=
  match x with
  | .normal => kn u h c lg = true
  | x => kx x u h c lg = true
theorem codeF_ok {N n : Nat} : ∀ {cd : Code}, plainC cd = true → ∀ {u : ET} {h : HT} {c : Nat} {lg : List Acc} {kn : KE} {kx : KX}, codeF ⟨cx, call, slow⟩ n (compC cx N cd) u h c lg kn kx = true →
    ∃ x u' h' c' l, evCode cx slow false N n cd [] u h c = .ok (x, u', []) h' c' l ∧ outOk kn kx x u' h' c' (l.reverse ++ lg)
  | .skip, hp, u, h, c, lg, kn, kx, hk => ⟨.normal, u, h, c, [], by rw [evCode]; rfl, hk⟩
  | .label _, hp, u, h, c, lg, kn, kx, hk => ⟨.normal, u, h, c, [], by rw [evCode]; rfl, hk⟩
  | .exit i, hp, u, h, c, lg, kn, kx, hk => ⟨.exit i, u, h, c, [], by rw [evCode]; rfl, hk⟩
  | .ret, hp, u, h, c, lg, kn, kx, hk => ⟨.ret, u, h, c, [], by rw [evCode]; rfl, hk⟩
  | .region _ ops false, hp, u, h, c, lg, kn, kx, hk => by
    obtain ⟨u', h', c', l, h1, h2⟩ := opsF_ok hcall (show opsF ⟨cx, call, slow⟩ (compL cx N ops.toList ops.toList) u h c lg kn = true from hk)
    exact ⟨.normal, u', h', c', l ++ [], by rw [evCode]; exact fbnd h1 rfl, by rw [List.append_nil]; exact h2⟩
  | .region _ ops true, hp, u, h, c, lg, kn, kx, hk => by
    obtain ⟨u', as, h', c', l, h1, h2, h3⟩ := drF_ok hcall (show drF ⟨cx, call, slow⟩ (closure ops.toList []) (compL cx N ops.toList ops.toList) [] u h c lg kn = true from hk)
    refine ⟨.normal, u', h', c', (l ++ []) ++ [], ?_, by rw [List.append_nil, List.append_nil]; exact h3⟩
    rw [evCode]
    refine fbnd (a := u') (h' := h') (c' := c') ?_ rfl
    show evDrawn cx slow N ops.toList u h c = _
    unfold evDrawn
    refine fbnd h1 ?_
    simp only [logsF_ok (by simpa using h2), if_true]
    rfl
  | .seq a b, hp, u, h, c, lg, kn, kx, hk => by
    have hp := boolK_and (show boolK false (plainC b) (plainC a) = true from hp)
    obtain ⟨x, u1, h1, c1, l1, e1, k1⟩ := codeF_ok hp.1 (show codeF ⟨cx, call, slow⟩ n (compC cx N a) u h c lg (fun u h c lg => codeF ⟨cx, call, slow⟩ n (compC cx N b) u h c lg kn kx) kx = true from hk)
    cases x with
    | normal =>
      obtain ⟨x, u2, h2, c2, l2, e2, k2⟩ := codeF_ok hp.2 k1
      exact ⟨x, u2, h2, c2, l1 ++ l2, by rw [evCode]; exact fbnd e1 e2, by rw [List.reverse_append, List.append_assoc]; exact k2⟩
    | exit i => exact ⟨.exit i, u1, h1, c1, l1 ++ [], by rw [evCode]; exact fbnd e1 rfl, by rw [List.append_nil]; exact k1⟩
    | ret => exact ⟨.ret, u1, h1, c1, l1 ++ [], by rw [evCode]; exact fbnd e1 rfl, by rw [List.append_nil]; exact k1⟩
  | .cond x a b, hp, u, h, c, lg, kn, kx, hk => by
    have hp := boolK_and (show boolK false (plainC b) (plainC a) = true from hp)
    obtain ⟨v, h1, h2⟩ := opdK_ok (show opdK (pvOf cx x) u (fun v => condK v (codeF ⟨cx, call, slow⟩ n (compC cx N b) u h c lg kn kx) (codeF ⟨cx, call, slow⟩ n (compC cx N a) u h c lg kn kx)) = true from hk)
    rcases condK_ok h2 with ⟨rfl, h2⟩ | ⟨rfl, h2⟩
    · obtain ⟨x, u2, h2, c2, l2, e2, k2⟩ := codeF_ok hp.2 h2
      exact ⟨x, u2, h2, c2, [] ++ l2, by rw [evCode, h1]; exact fbnd lift1 e2, k2⟩
    · obtain ⟨x, u2, h2, c2, l2, e2, k2⟩ := codeF_ok hp.1 h2
      exact ⟨x, u2, h2, c2, [] ++ l2, by rw [evCode, h1]; exact fbnd lift1 e2, k2⟩
  | .block i b, hp, u, h, c, lg, kn, kx, hk => by
    obtain ⟨x, u1, h1, c1, l1, e1, k1⟩ := codeF_ok (cd := b) hp (show codeF ⟨cx, call, slow⟩ n (compC cx N b) u h c lg kn (fun x u h c lg => exitK i (kn u h c lg) (kx x u h c lg) x) = true from hk)
    cases x with
    | normal => exact ⟨.normal, u1, h1, c1, l1 ++ [], by rw [evCode]; exact fbnd e1 rfl, by rw [List.append_nil]; exact k1⟩
    | ret => exact ⟨.ret, u1, h1, c1, l1 ++ [], by rw [evCode]; exact fbnd e1 rfl, by rw [List.append_nil]; exact k1⟩
    | exit j =>
      have k1 : boolK (kx (.exit j) u1 h1 c1 (l1.reverse ++ lg)) (kn u1 h1 c1 (l1.reverse ++ lg)) (Nat.beq j i) = true := k1
      by_cases hj : j = i
      · subst hj
        rw [Nat.beq_refl] at k1
        exact ⟨.normal, u1, h1, c1, l1 ++ [], by rw [evCode]; exact fbnd e1 (by simp only [if_true]; rfl), by rw [List.append_nil]; exact k1⟩
      · have hb : Nat.beq j i = false := by rw [Bool.eq_false_iff]; intro q; exact hj (Nat.eq_of_beq_eq_true q)
        rw [hb] at k1
        exact ⟨.exit j, u1, h1, c1, l1 ++ [], by rw [evCode]; exact fbnd e1 (by simp only [if_neg hj]; rfl), by rw [List.append_nil]; exact k1⟩
  | .loop b, hp, u, h, c, lg, kn, kx, hk => by
    have key : ∀ (m : Nat) {u : ET} {h : HT} {c : Nat} {lg : List Acc}, Nat.rec (motive := fun _ => KE) loopZ (fun _ ih => loopN (fun N' n' u h c lg kn kx => codeF N' n' (compC cx N b) u h c lg kn kx) ⟨cx, call, slow⟩ n kx ih) m u h c lg = true →
        ∃ x u' h' c' l, loopM (evCode cx slow false N n b) m [] u h c = .ok (x, u', []) h' c' l ∧ outOk (fun _ _ _ _ => false) kx x u' h' c' (l.reverse ++ lg) := fun m => by
      induction m with
      | zero => intro u h c lg hk; cases hk
      | succ m ih =>
        intro u h c lg hk
        obtain ⟨x, u1, h1, c1, l1, e1, k1⟩ := codeF_ok (cd := b) hp (show codeF ⟨cx, call, slow⟩ n (compC cx N b) u h c lg (Nat.rec (motive := fun _ => KE) loopZ (fun _ ih => loopN (fun N' n' u h c lg kn kx => codeF N' n' (compC cx N b) u h c lg kn kx) ⟨cx, call, slow⟩ n kx ih) m) kx = true from hk)
        cases x with
        | normal =>
          obtain ⟨x, u2, h2, c2, l2, e2, k2⟩ := ih k1
          exact ⟨x, u2, h2, c2, l1 ++ l2, by rw [loopM]; exact fbnd e1 e2, by rw [List.reverse_append, List.append_assoc]; exact k2⟩
        | exit i => exact ⟨.exit i, u1, h1, c1, l1 ++ [], by rw [loopM]; exact fbnd e1 rfl, by rw [List.append_nil]; exact k1⟩
        | ret => exact ⟨.ret, u1, h1, c1, l1 ++ [], by rw [loopM]; exact fbnd e1 rfl, by rw [List.append_nil]; exact k1⟩
    obtain ⟨x, u', h', c', l, e1, k1⟩ := key n (show _ = true from hk)
    refine ⟨x, u', h', c', l, by rw [evCode]; exact e1, ?_⟩
    cases x with
    | normal => cases k1
    | exit i => exact k1
    | ret => exact k1
  | .rangeFunc _ _ _ _, hp, u, h, c, lg, kn, kx, hk => by cases hp
  | .scope _, hp, u, h, c, lg, kn, kx, hk => by cases hk
  | .goto _, hp, u, h, c, lg, kn, kx, hk => by cases hk
  | .refuse _, hp, u, h, c, lg, kn, kx, hk => by cases hk

/-! ## Functions -/
omit hcall in
theorem initF_ok : ∀ {xs : List V} {m i : Nat} {u : ET}, xs.length ≤ m → initF xs (pathsOf m i) u = initE xs i u
  | [], m, i, u, h => rfl
  | v :: xs, 0, i, u, h => by simp at h
  | v :: xs, m + 1, i, u, h => by
    show initF xs (pathsOf m (Nat.succ i)) (setP (paOf i) v u) = initE xs (i + 1) (MapI.set u i v)
    rw [setP_ok]
    exact initF_ok (by simpa using h)
omit hcall in
theorem resF_ok : ∀ {l : List ResultVar} {h : HT} {c : Nat} {lg : List Acc} {k : List V → HT → Nat → List Acc → Bool}, resF cx (prsOf l) u h c lg k = true →
    ∃ vs h' c' a, resM cx u l h c = .ok vs h' c' a ∧ k vs h' c' (a.reverse ++ lg) = true
  | [], h, c, lg, k, hk => ⟨[], h, c, [], rfl, hk⟩
  | r :: l, h, c, lg, k, hk => by
    have hk : resC cx (prOf r) u h c lg (fun v h c lg => resF cx (prsOf l) u h c lg fun vs h c lg => k (v :: vs) h c lg) = true := hk
    cases r with
    | tmp t =>
      obtain ⟨v, h1, h2⟩ := optK_ok (show optK (getP (paOf t) u) _ = true from hk)
      rw [getP_ok] at h1
      obtain ⟨vs, h', c', a, e2, k2⟩ := resF_ok h2
      refine ⟨v :: vs, h', c', [] ++ (a ++ []), ?_, by simpa using k2⟩
      rw [resM]
      exact fbnd (a := v) (h' := h) (c' := c) (by rw [h1]; rfl) (fbnd e2 rfl)
    | cell q t =>
      obtain ⟨v, h1, c1, a1, e1, k1⟩ := resK_ok (show resK (bnd (lift "result" (MapI.get u q)) (fun x => bnd (asP x) fun (n, o) => loadT cx t n o) h c) lg (fun v h c lg => resF cx (prsOf l) u h c lg fun vs h c lg => k (v :: vs) h c lg) = true from hk)
      obtain ⟨x, h2, c2, l1, l2, e2, e3, rfl⟩ := bnd_ok e1
      obtain ⟨y, h3, c3, l3, l4, e4, e5, rfl⟩ := bnd_ok e3
      obtain ⟨vs, h', c', a, e6, k6⟩ := resF_ok k1
      refine ⟨v :: vs, h', c', l1 ++ (l3 ++ (l4 ++ (a ++ []))), ?_, by simpa using k6⟩
      rw [resM]
      exact fbnd e2 (fbnd e4 (fbnd e5 (fbnd e6 rfl)))
end
theorem callF_ok {cx : Cx} {prim : Nat → Option ((Tgt → List V → M HT V) → List V → M HT V)} : ∀ {n : Nat} {t : Tgt} {xs : List V}, Snd (callF cx prim n t xs) (evFn ET cx prim n t xs)
  | 0, t, xs => fun h c lg k hk => by cases hk
  | n + 1, .yl l, xs => fun h c lg k hk => by
    obtain ⟨a, h', c', al, h1, h2⟩ := resK_ok (show resK (roundM ET cx (evFn ET cx prim n) n l xs h c) lg k = true from hk)
    exact ⟨a, h', c', al, by rw [evFn]; exact h1, h2⟩
  | n + 1, .fn f, xs => fun h c lg k hk => by
    have hk : fnF prim ⟨cx, callF cx prim n, evFn ET cx prim n⟩ n f xs h c lg k = true := hk
    unfold fnF at hk
    split at hk
    · next m hm =>
      obtain ⟨a, h', c', al, h1, h2⟩ := resK_ok hk
      exact ⟨a, h', c', al, by rw [evFn]; simp only [hm]; exact h1, h2⟩
    · next hm =>
      unfold fnB at hk
      have red : ∀ {r : Res HT V}, bodyM ET cx (evFn ET cx prim n) n f xs h c = r → evFn ET cx prim (n + 1) (.fn f) xs h c = r := fun e => by rw [evFn]; simp only [hm]; exact e
      split at hk
      · next p hp =>
        have hp : compF cx f = some p := hp
        unfold compF at hp
        split at hp
        · cases hp
        · next fn hf =>
          split at hp
          · cases hp
          · next cd hb =>
            cases hpl : plainC cd with
            | false => rw [hpl] at hp; cases hp
            | true =>
              rw [hpl] at hp
              cases hp
              obtain ⟨h1, h2⟩ := boolK_and (show boolK false _ (Nat.ble xs.length fn.ntmps) = true from hk)
              have h1 : xs.length ≤ fn.ntmps := Nat.le_of_ble_eq_true h1
              rw [initF_ok h1] at h2
              obtain ⟨x, u', h', c', l, e1, k1⟩ := codeF_ok (fun t xs => callF_ok) hpl h2
              have fin : ∀ {x : Ex}, (∀ i, x ≠ .exit i) → evCode cx (evFn ET cx prim n) false fn.ntmps n cd [] (initE xs 0 .e) h c = .ok (x, u', []) h' c' l → endK cx (prsOf fn.results.toList) k u' h' c' (l.reverse ++ lg) = true →
                  ∃ v h' c' l, evFn ET cx prim (n + 1) (.fn f) xs h c = .ok v h' c' l ∧ k v h' c' (l.reverse ++ lg) = true := fun {x} hx e1 k1 => by
                obtain ⟨vs, h2, c2, a, e2, k2⟩ := resF_ok k1
                refine ⟨tup vs, h2, c2, l ++ ([] ++ (a ++ [])), red ?_, by simpa using k2⟩
                unfold bodyM
                rw [hf]
                simp only [hb, if_pos h1]
                refine fbnd e1 ?_
                cases x with
                | exit i => exact (hx i rfl).elim
                | normal => exact fbnd (a := ()) (h' := h') (c' := c') rfl (fbnd e2 rfl)
                | ret => exact fbnd (a := ()) (h' := h') (c' := c') rfl (fbnd e2 rfl)
              cases x with
              | normal => exact fin (fun i => by intro q; cases q) e1 k1
              | ret => exact fin (fun i => by intro q; cases q) e1 k1
              | exit i => cases k1
      · obtain ⟨a, h', c', al, h1, h2⟩ := resK_ok hk
        exact ⟨a, h', c', al, red h1, h2⟩
/-- A run of the fast evaluator that ends with 'true' is one of the evaluator. -/
theorem fast_ok {cx : Cx} {prim : Nat → Option ((Tgt → List V → M HT V) → List V → M HT V)} {n f : Nat} {xs : List V} (h : fastOk cx prim n f xs = true) : ∃ h' c l, evFn ET cx prim n (.fn f) xs (MapI.emp : HT) 0 = .ok (.bool true) h' c l := by
  obtain ⟨v, h', c', l, h1, h2⟩ := callF_ok _ _ _ _ h
  rcases condK_ok (show condK v false true = true from h2) with ⟨rfl, h2⟩ | ⟨rfl, h2⟩
  · cases h2
  · exact ⟨h', c', l, h1⟩
end Go.Ab
namespace Go.Ab
theorem dropA_eq {α : Type} : ∀ (cs : List α) (n : Nat), dropA cs n = cs.drop n
  | [], n => by rw [List.drop_nil]; rfl
  | _ :: _, 0 => rfl
  | _ :: l, n + 1 => by rw [List.drop_succ_cons, ← dropA_eq l n]; rfl
theorem sufF_nth {α : Type} : ∀ (n : Nat) (l : List α) (i : Nat), (sufF n l)[i]? = if i < n then some (l.drop (16 * i)) else none
  | 0, l, i => rfl
  | n + 1, l, 0 => rfl
  | n + 1, l, i + 1 => by
    show (sufF n (dropA l 16))[i]? = _
    rw [sufF_nth n, dropA_eq, List.drop_drop]
    simp only [Nat.add_lt_add_iff_right]
    rw [show 16 + 16 * i = 16 * (i + 1) from by omega]
theorem nth2_eq {α : Type} (l : List α) (i : Nat) : nth2 l i = l[i]? := by
  unfold nth2
  rw [nthF_eq, sufF_nth]
  have e1 : Nat.div i 16 = i / 16 := rfl
  have e2 : Nat.mod i 16 = i % 16 := rfl
  rw [e1, e2]
  by_cases h : i / 16 < l.length
  · rw [if_pos h]
    show nthF _ _ = _
    rw [nthF_eq, List.getElem?_drop]
    congr 1
    omega
  · rw [if_neg h]
    show none = _
    rw [List.getElem?_eq_none (by omega)]
theorem cxF_eq (P : Program) : cxF P = cxOf P := by
  unfold cxF cxOf
  congr 1
  · funext f; rw [nth2_eq]; simp
  · funext t
    rw [nth2_eq]
    cases h : P.types.toList[t]? with
    | none => rfl
    | some i =>
      show some i = P.info? t
      unfold Tables.info?
      have h2 : t < P.types.size := by
        have := (List.getElem?_eq_some_iff.1 h).1
        simpa using this
      rw [if_pos h2, ← h]
      simp
end Go.Ab
namespace Go.Ab
theorem fast_true {P : Program} {prim : Nat → Option ((Tgt → List V → M HT V) → List V → M HT V)} {n f : Nat} {xs : List V} (h : fastOk (cxF P) prim n f xs = true) : isTrue (evFn (H := Tr AObj) (Tr V) (cxOf P) prim n (.fn f) xs MapI.emp 0) = true := by
  obtain ⟨h', c, l, e⟩ := fast_ok h
  rw [cxF_eq] at e
  rw [e]
  rfl
end Go.Ab
