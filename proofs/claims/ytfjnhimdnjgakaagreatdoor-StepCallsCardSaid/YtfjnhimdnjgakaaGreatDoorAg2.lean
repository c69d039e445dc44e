/- A function's arguments of which it takes remainders alone: its answer hangs on the remainders. For any program. -/
import Derived.Test.YtfjnhimdnjgakaaGreatDoorAg1
import Derived.Test.YtfjnhimdnjgakaaGreatDoorAc17
import Derived.Test.YtfjnhimdnjgakaaGreatDoorAc20
set_option linter.unusedVariables false
set_option linter.unusedSectionVars false
set_option linter.unusedSimpArgs false
set_option linter.unnecessarySimpa false
namespace Go.Ab
open Go.RowKit

section
variable {H E : Type} [MapI H AObj] [MapI E V] {α β : Type} {cx : Cx} {call : Tgt → List V → M H V}

theorem bnd_some {s : String} {a : α} {f : α → M H β} : bnd (lift s (some a)) f = f a := by
  funext h c
  show (match f a h c with | .err e => .err e | .ok b h c l' => .ok b h c ([] ++ l')) = f a h c
  cases f a h c <;> rfl

/-- A slot's modulus; 0: it is read as it is. -/
def modOf (T : List (Nat × Nat)) (n : Nat) : Nat := (T.lookup n).getD 0
/-- Frames that are alike but for the marked slots. -/
def FT (T : List (Nat × Nat)) (e e' : E) : Prop := ∀ n, if modOf T n = 0 then MapI.get e n = MapI.get e' n else
  (MapI.get e n = none ∧ MapI.get e' n = none) ∨ ∃ k x y, MapI.get e n = some (.int k x) ∧ MapI.get e' n = some (.int k y) ∧ 0 ≤ x ∧ x < 128 + 128 ∧ 0 ≤ y ∧ y < 128 + 128 ∧ x % (modOf T n : Int) = y % (modOf T n : Int)
def isI64 (d : Option TypeDesc) : Bool := match d with | some (.int .i64) => true | _ => false
def isIntD (d : Option TypeDesc) : Bool := match d with | some (.int _) => true | _ => false
/-- Is an operation tame? -/
def tameOp (cx : Cx) (T : List (Nat × Nat)) (ops : List Oper) (o : Oper) : Bool :=
  ((looks ops o).all (fun t => modOf T t == 0) && (match o.dst with | some d => modOf T d == 0 | none => true)) ||
  (o.guard.isNone && match o.op, o.dst with
    | .move (.tmp a), some d | .assign (.tmp a), some d => modOf T a != 0 && modOf T d == modOf T a
    | .convert s t (.tmp a), some d => modOf T a != 0 && modOf T d == modOf T a && isIntD (cx.desc s) && isI64 (cx.desc t)
    | .binOp .rem _ (.tmp a) (.const (.int _ m)) _, some d => modOf T a != 0 && m == (modOf T a : Int) && modOf T d == 0
    | _, _ => false)
def tameX (T : List (Nat × Nat)) (x : Operand) : Bool := match x with | .tmp t => modOf T t == 0 | _ => true
def tameC (cx : Cx) (T : List (Nat × Nat)) : Code → Bool
  | .region _ ops _ => ops.toList.all (tameOp cx T ops.toList)
  | .seq a b => tameC cx T a && tameC cx T b
  | .cond x a b => tameX T x && tameC cx T a && tameC cx T b
  | .block _ b => tameC cx T b
  | .loop b => tameC cx T b
  | .rangeFunc _ _ _ _ => false
  | _ => true
def tameR (T : List (Nat × Nat)) : List ResultVar → Bool
  | [] => true
  | .tmp t :: l => modOf T t == 0 && tameR T l
  | .cell a _ :: l => modOf T a == 0 && tameR T l

variable {T : List (Nat × Nat)} {e e' : E}
theorem FT.clean (h : FT T e e') {n : Nat} (hn : modOf T n = 0) : MapI.get e n = MapI.get e' n := by
  have := h n
  rwa [if_pos hn] at this
theorem FT.set (h : FT T e e') {d : Nat} (hd : modOf T d = 0) (v : V) : FT T (MapI.set e d v) (MapI.set e' d v) := fun n => by
  by_cases hdn : d = n
  · subst hdn; rw [if_pos hd, MapI.get_same, MapI.get_same]
  · have := h n
    rw [MapI.get_ne _ _ _ _ hdn, MapI.get_ne _ _ _ _ hdn]; exact this
theorem FT.setI (h : FT T e e') {d : Nat} {k : IntKind} {x y : Int} (hx : 0 ≤ x ∧ x < 128 + 128) (hy : 0 ≤ y ∧ y < 128 + 128) (hxy : modOf T d ≠ 0 → x % (modOf T d : Int) = y % (modOf T d : Int)) (hd : modOf T d ≠ 0) : FT T (MapI.set e d (.int k x)) (MapI.set e' d (.int k y)) := fun n => by
  by_cases hdn : d = n
  · subst hdn
    rw [if_neg hd, MapI.get_same, MapI.get_same]
    exact .inr ⟨k, x, y, rfl, rfl, hx.1, hx.2, hy.1, hy.2, hxy hd⟩
  · have := h n
    rw [MapI.get_ne _ _ _ _ hdn, MapI.get_ne _ _ _ _ hdn]; exact this
def LeT (T : List (Nat × Nat)) (m m' : M H E) : Prop := ∀ h c e1 h1 c1 l, m h c = .ok e1 h1 c1 l → ∃ e1', FT T e1 e1' ∧ m' h c = .ok e1' h1 c1 l
theorem putT (h : FT T e e') {N : Nat} {d : Option Tmp} {v : V} (hd : (match d with | some d => modOf T d == 0 | none => true) = true) : LeT T (putE N e d v : M H E) (putE N e' d v) := fun h' c e1 h1 c1 l r => by
  cases d with
  | none =>
    obtain ⟨rfl, rfl, rfl, rfl⟩ := ret_ok (show (ret e : M H E) h' c = _ from r)
    exact ⟨e', h, rfl⟩
  | some d =>
    unfold putE at r ⊢
    simp only at r ⊢ hd
    split at r
    · next hdN =>
      obtain ⟨rfl, rfl, rfl, rfl⟩ := ret_ok r
      exact ⟨_, h.set (by simpa using hd) v, by rw [if_pos hdN]; rfl⟩
    · exact (fail_ok r).elim
theorem tame_step (h : FT T e e') {N : Nat} {ops : List Oper} {o : Oper} (ht : tameOp cx T ops o = true) : LeT T (stepOp cx call N ops o e) (stepOp cx call N ops o e') := by
  unfold tameOp at ht
  rcases Bool.or_eq_true_iff.1 ht with ht | ht
  · obtain ⟨h1, h2⟩ := Bool.and_eq_true_iff.1 ht
    have hl : ∀ t ∈ looks ops o, MapI.get e t = MapI.get e' t := fun t hm => h.clean (by simpa using List.all_eq_true.1 h1 t hm)
    unfold stepOp
    rw [wantedV_looks hl]
    split
    · rw [opM_looks hl]
      intro h' c e1 h1 c1 l r
      obtain ⟨v, h2', c2, l1, l2, r1, r2, rfl⟩ := bnd_ok r
      obtain ⟨e3, f3, s3⟩ := putT h h2 _ _ _ _ _ _ r2
      exact ⟨e3, f3, bnd_eq r1 s3⟩
    · exact putT h h2
    · exact fun h c e1 h1 c1 l r => (fail_ok r).elim
  · obtain ⟨h1, h2⟩ := Bool.and_eq_true_iff.1 ht
    have hg : o.guard = none := by simpa using h1
    have hw : ∀ u : E, wantedV ops u o = some true := fun u => by unfold wantedV; rw [hg]
    have pass : ∀ {a d : Nat} {f : Int → Int}, (∀ x, 0 ≤ x → x < 128 + 128 → f x = x) → o.dst = some d → modOf T a ≠ 0 → modOf T d = modOf T a →
        (∀ (u : E) k x, MapI.get u a = some (.int k x) → ∃ k', (∀ h c, opM cx call u o h c = .ok (.int k' (f x)) h c []) ∧ ∀ (u' : E) x', MapI.get u' a = some (.int k x') → ∀ h c, opM cx call u' o h c = .ok (.int k' (f x')) h c []) →
        (∀ (u : E), MapI.get u a = none → ∀ h c a1 h1 c1 l, opM cx call u o h c = .ok a1 h1 c1 l → False) →
        LeT T (stepOp cx call N ops o e) (stepOp cx call N ops o e') := fun {a d f} hf hd ha hda hop hno => by
      intro h' c e1 h1 c1 l r
      unfold stepOp at r ⊢
      rw [hw] at r ⊢
      obtain ⟨v, h2', c2, l1, l2, r1, r2, rfl⟩ := bnd_ok r
      have hn := h a
      rw [if_neg ha] at hn
      rcases hn with ⟨g1, g2⟩ | ⟨k, x, y, g1, g2, x0, x1, y0, y1, hxy⟩
      · exact (hno e g1 _ _ _ _ _ _ r1).elim
      · obtain ⟨k', o1, o2⟩ := hop e k x g1
        have o3 := o2 e' y g2
        rw [o1] at r1
        cases r1
        rw [hd] at r2
        unfold putE at r2
        simp only at r2
        split at r2
        · next hdN =>
          obtain ⟨rfl, rfl, rfl, rfl⟩ := ret_ok r2
          refine ⟨MapI.set e' d (.int k' (f y)), ?_, ?_⟩
          · rw [hf x x0 x1, hf y y0 y1]
            exact h.setI ⟨x0, x1⟩ ⟨y0, y1⟩ (fun _ => by rw [hda]; exact hxy) (by rw [hda]; exact ha)
          · refine bnd_eq (o3 _ _) ?_
            unfold putE
            rw [hd]
            simp only [if_pos hdN]; rfl
        · exact (fail_ok r2).elim
    split at h2
    · next a d ho hd =>
      simp only [Bool.and_eq_true, bne_iff_ne, ne_eq, beq_iff_eq] at h2
      refine pass (a := a) (d := d) (f := id) (fun _ _ _ => rfl) hd h2.1 h2.2 (fun u k x hx => ⟨k, fun h c => ?_, fun u' x' hx' h c => ?_⟩) (fun u hx h c a1 h1 c1 l r => ?_)
      · unfold opM; rw [ho]; simp only [ev1, hx]; rfl
      · unfold opM; rw [ho]; simp only [ev1, hx']; rfl
      · unfold opM at r; rw [ho] at r; simp only [ev1, hx] at r; obtain ⟨q, _⟩ := lift_ok r; cases q
    · next a d ho hd =>
      simp only [Bool.and_eq_true, bne_iff_ne, ne_eq, beq_iff_eq] at h2
      refine pass (a := a) (d := d) (f := id) (fun _ _ _ => rfl) hd h2.1 h2.2 (fun u k x hx => ⟨k, fun h c => ?_, fun u' x' hx' h c => ?_⟩) (fun u hx h c a1 h1 c1 l r => ?_)
      · unfold opM; rw [ho]; simp only [ev1, hx]; rfl
      · unfold opM; rw [ho]; simp only [ev1, hx']; rfl
      · unfold opM at r; rw [ho] at r; simp only [ev1, hx] at r; obtain ⟨q, _⟩ := lift_ok r; cases q
    · next s t a d ho hd =>
      simp only [Bool.and_eq_true, bne_iff_ne, ne_eq, beq_iff_eq] at h2
      obtain ⟨⟨⟨ha, hda⟩, hs⟩, ht⟩ := h2
      obtain ⟨ks, hs⟩ : ∃ ks, cx.desc s = some (.int ks) := by
        unfold isIntD at hs; split at hs
        · exact ⟨_, by assumption⟩
        · cases hs
      have ht : cx.desc t = some (.int .i64) := by
        unfold isI64 at ht; split at ht
        · assumption
        · cases ht
      refine pass (a := a) (d := d) (f := fun x => IntKind.i64.wrap x) (fun x h0 h1 => by simp [IntKind.wrap, IntKind.bits, IntKind.signed]; omega) hd ha hda (fun u k x hx => ⟨.i64, fun h c => ?_, fun u' x' hx' h c => ?_⟩) (fun u hx h c a1 h1 c1 l r => ?_)
      · unfold opM; rw [ho]; simp only [ev1, hx, convertM, hs, ht]; rfl
      · unfold opM; rw [ho]; simp only [ev1, hx', convertM, hs, ht]; rfl
      · unfold opM at r; rw [ho] at r; simp only [ev1, hx] at r
        obtain ⟨_, _, _, _, _, q1, _⟩ := bnd_ok r
        obtain ⟨q, _⟩ := lift_ok q1; cases q
    · next t a k m tt d ho hd =>
      simp only [Bool.and_eq_true, bne_iff_ne, ne_eq, beq_iff_eq] at h2
      obtain ⟨⟨ha, hm⟩, hd0⟩ := h2
      intro h' c e1 h1 c1 l r
      unfold stepOp at r ⊢
      rw [hw] at r ⊢
      obtain ⟨v, h2', c2, l1, l2, r1, r2, rfl⟩ := bnd_ok r
      have hn := h a
      rw [if_neg ha] at hn
      rcases hn with ⟨g1, g2⟩ | ⟨k', x, y, g1, g2, x0, x1, y0, y1, hxy⟩
      · unfold opM at r1; rw [ho] at r1; simp only [ev1, g1] at r1
        obtain ⟨_, _, _, _, _, q1, _⟩ := bnd_ok r1
        obtain ⟨q, _⟩ := lift_ok q1; cases q
      · have key : opM cx call e' o h' c = opM cx call e o h' c := by
          have ht : ∀ z : Int, 0 ≤ z → z.tmod m = z % m := fun z hz => Int.tmod_eq_emod_of_nonneg hz
          have hi : intBin .rem k' y m = intBin .rem k' x m := by
            show (if m = 0 then none else some (V.int k' (y.tmod m))) = (if m = 0 then none else some (V.int k' (x.tmod m)))
            rw [ht x x0, ht y y0, hm, hxy]
          have hb : (binM cx .rem t true (.int k' y) (.int k m) : M H V) = binM cx .rem t true (.int k' x) (.int k m) := by
            show (if k' = k then lift "int" (intBin .rem k' y m) else fail "kinds") = (if k' = k then lift "int" (intBin .rem k' x m) else fail "kinds")
            rw [hi]
          unfold opM
          rw [ho]
          simp only [ev1, g1, g2, toV, toV1, bnd_some]
          exact congrFun (congrFun hb h') c
        rw [hd] at r2
        obtain ⟨e3, f3, s3⟩ := putT (d := some d) h (by simpa using hd0) _ _ _ _ _ _ r2
        refine ⟨e3, f3, bnd_eq (key.trans r1) ?_⟩
        rw [hd]; exact s3
    · cases h2
theorem evOps_tame {N : Nat} {ops : List Oper} : ∀ {l : List Oper} {e e' : E}, l.all (tameOp cx T ops) = true → FT T e e' → LeT T (evOps cx call N ops l e) (evOps cx call N ops l e')
  | [], e, e', _, h => fun h' c e1 h1 c1 l r => by
    obtain ⟨rfl, rfl, rfl, rfl⟩ := ret_ok (show (ret e : M H E) h' c = _ from r)
    exact ⟨e', h, rfl⟩
  | o :: l, e, e', ht, h => fun h' c e1 h1 c1 lg r => by
    rw [List.all_cons, Bool.and_eq_true] at ht
    unfold evOps at r ⊢
    obtain ⟨a, h2, c2, l1, l2, r1, r2, rfl⟩ := bnd_ok r
    obtain ⟨a', f1, s1⟩ := tame_step h ht.1 _ _ _ _ _ _ r1
    obtain ⟨e3, f3, s3⟩ := evOps_tame ht.2 f1 _ _ _ _ _ _ r2
    exact ⟨e3, f3, bnd_eq s1 s3⟩
theorem evLog_tame {N : Nat} {ops : List Oper} : ∀ {l : List Oper} {e e' : E}, l.all (tameOp cx T ops) = true → FT T e e' → ∀ {h : H} {c : Nat} {e1 : E} {as : List (List Acc)} {h1 : H} {c1 : Nat} {lg : List Acc},
    evLog cx call N ops l e h c = .ok (e1, as) h1 c1 lg → ∃ e1', FT T e1 e1' ∧ evLog cx call N ops l e' h c = .ok (e1', as) h1 c1 lg
  | [], e, e', _, h, h', c, e1, as, h1, c1, lg, r => by
    obtain ⟨q, rfl, rfl, rfl⟩ := ret_ok (show (ret (e, []) : M H (E × List (List Acc))) h' c = _ from r)
    cases q
    exact ⟨e', h, rfl⟩
  | o :: l, e, e', ht, h, h', c, e1, as, h1, c1, lg, r => by
    rw [List.all_cons, Bool.and_eq_true] at ht
    unfold evLog at r ⊢
    obtain ⟨⟨a, al⟩, h2, c2, l1, l2, r1, r2, rfl⟩ := bnd_ok r
    obtain ⟨⟨b, bl⟩, h3, c3, l3, l4, r3, r4, rfl⟩ := bnd_ok r2
    obtain ⟨q, rfl, rfl, rfl⟩ := ret_ok r4
    cases q
    unfold listen at r1
    cases hs : stepOp cx call N ops o e h' c with
    | err s => rw [hs] at r1; cases r1
    | ok x hx cx' lx =>
      rw [hs] at r1; cases r1
      obtain ⟨a', f1, s1⟩ := tame_step h ht.1 _ _ _ _ _ _ hs
      obtain ⟨e3, f3, s3⟩ := evLog_tame ht.2 f1 r3
      refine ⟨e3, f3, bnd_eq (a := (a', al)) (h' := h2) (c' := c2) ?_ (bnd_eq s3 rfl)⟩
      unfold listen
      rw [s1]
theorem evDrawn_tame {N : Nat} {ops : List Oper} (ht : ops.all (tameOp cx T ops) = true) (h : FT T e e') : LeT T (evDrawn cx call N ops e) (evDrawn cx call N ops e') := fun h' c e1 h1 c1 lg r => by
  unfold evDrawn at r ⊢
  obtain ⟨⟨b, bl⟩, h3, c3, l3, l4, r3, r4, rfl⟩ := bnd_ok r
  obtain ⟨e3, f3, s3⟩ := evLog_tame ht h r3
  simp only at r4
  split at r4
  · next hl =>
    obtain ⟨rfl, rfl, rfl, rfl⟩ := ret_ok r4
    exact ⟨e3, f3, bnd_eq s3 (by simp only [hl, if_true]; rfl)⟩
  · exact (fail_ok r4).elim
def LeTO (T : List (Nat × Nat)) (m m' : M H (Out E)) : Prop := ∀ h c x e1 ms h1 c1 l, m h c = .ok (x, e1, ms) h1 c1 l → ∃ e1', FT T e1 e1' ∧ m' h c = .ok (x, e1', ms) h1 c1 l
theorem LeTO.of_ret {x : Ex} {ms : List Nat} (h : FT T e e') : LeTO T (Ab.ret (x, e, ms) : M H (Out E)) (Ab.ret (x, e', ms)) := fun h' c y e1 ns h1 c1 l r => by
  obtain ⟨q, rfl, rfl, rfl⟩ := ret_ok r
  cases q
  exact ⟨e', h, rfl⟩
theorem LeTO.bndO {m m' : M H (Out E)} {f f' : Out E → M H (Out E)} (hm : LeTO T m m') (hf : ∀ x e e' ms, FT T e e' → LeTO T (f (x, e, ms)) (f' (x, e', ms))) : LeTO T (bnd m f) (bnd m' f') := fun h c x e1 ms h1 c1 l r => by
  obtain ⟨⟨y, e2, ns⟩, h2, c2, l1, l2, r1, r2, rfl⟩ := bnd_ok r
  obtain ⟨e2', f2, s2⟩ := hm _ _ _ _ _ _ _ _ r1
  obtain ⟨e3', f3, s3⟩ := hf _ _ _ _ f2 _ _ _ _ _ _ _ _ r2
  exact ⟨e3', f3, bnd_eq s2 s3⟩
theorem LeTO.bndF {m m' : M H E} {f f' : E → M H (Out E)} (hm : LeT T m m') (hf : ∀ e e', FT T e e' → LeTO T (f e) (f' e')) : LeTO T (bnd m f) (bnd m' f') := fun h c x e1 ms h1 c1 l r => by
  obtain ⟨e2, h2, c2, l1, l2, r1, r2, rfl⟩ := bnd_ok r
  obtain ⟨e2', f2, s2⟩ := hm _ _ _ _ _ _ r1
  obtain ⟨e3', f3, s3⟩ := hf _ _ f2 _ _ _ _ _ _ _ _ r2
  exact ⟨e3', f3, bnd_eq s2 s3⟩
theorem LeTO.fail {s : String} {m : M H (Out E)} : LeTO T (Ab.fail s) m := fun h c x e1 ms h1 c1 l r => (fail_ok r).elim
theorem loopM_tame {b : List Nat → E → M H (Out E)} (hb : ∀ ms e e', FT T e e' → LeTO T (b ms e) (b ms e')) : ∀ {n : Nat} {ms : List Nat} {e e' : E}, FT T e e' → LeTO T (loopM b n ms e) (loopM b n ms e')
  | 0, ms, e, e', h => LeTO.fail
  | n + 1, ms, e, e', h => by
    unfold loopM
    refine LeTO.bndO (hb ms e e' h) fun x e e' ms h => ?_
    cases x with
    | normal => exact loopM_tame hb h
    | exit i => exact LeTO.of_ret h
    | ret => exact LeTO.of_ret h
theorem ev1_tame (h : FT T e e') {x : Operand} (hx : tameX T x = true) : ev1 cx e x = ev1 cx e' x := by
  cases x with
  | tmp t => exact h.clean (by simpa [tameX] using hx)
  | const c => rfl
  | global g => rfl
  | func f => rfl
theorem evCode_tame {N n : Nat} : ∀ {cd : Code}, tameC cx T cd = true → ∀ {rd : Bool} {ms : List Nat} {e e' : E}, FT T e e' → LeTO T (evCode cx call rd N n cd ms e) (evCode cx call rd N n cd ms e')
  | .skip, hp, rd, ms, e, e', h => by rw [evCode, evCode]; exact LeTO.of_ret h
  | .label _, hp, rd, ms, e, e', h => by rw [evCode, evCode]; exact LeTO.of_ret h
  | .exit i, hp, rd, ms, e, e', h => by rw [evCode, evCode]; exact LeTO.of_ret h
  | .ret, hp, rd, ms, e, e', h => by rw [evCode, evCode]; exact LeTO.of_ret h
  | .region _ ops d, hp, rd, ms, e, e', h => by
    rw [evCode, evCode]
    unfold tameC at hp
    refine LeTO.bndF ?_ fun e e' h => LeTO.of_ret h
    cases d with
    | true => exact evDrawn_tame hp h
    | false => exact evOps_tame hp h
  | .seq a b, hp, rd, ms, e, e', h => by
    unfold tameC at hp
    obtain ⟨h1, h2⟩ := Bool.and_eq_true_iff.1 hp
    rw [evCode, evCode]
    refine LeTO.bndO (evCode_tame h1 h) fun x e e' ms h => ?_
    cases x with
    | normal => exact evCode_tame h2 h
    | exit i => exact LeTO.of_ret h
    | ret => exact LeTO.of_ret h
  | .cond x a b, hp, rd, ms, e, e', h => by
    unfold tameC at hp
    obtain ⟨h12, h3⟩ := Bool.and_eq_true_iff.1 hp
    obtain ⟨h1, h2⟩ := Bool.and_eq_true_iff.1 h12
    rw [evCode, evCode, ev1_tame h h1]
    intro h' c y e1 ns h1' c1 l r
    obtain ⟨v, h2', c2, l1, l2, r1, r2, rfl⟩ := bnd_ok r
    obtain ⟨hv, rfl, rfl, rfl⟩ := lift_ok r1
    cases v with
    | bool b =>
      cases b with
      | true => obtain ⟨e3, f3, s3⟩ := evCode_tame h2 h _ _ _ _ _ _ _ _ r2; exact ⟨e3, f3, bnd_eq (a := V.bool true) (by rw [hv]; rfl) s3⟩
      | false => obtain ⟨e3, f3, s3⟩ := evCode_tame h3 h _ _ _ _ _ _ _ _ r2; exact ⟨e3, f3, bnd_eq (a := V.bool false) (by rw [hv]; rfl) s3⟩
    | _ => exact (fail_ok r2).elim
  | .block i b, hp, rd, ms, e, e', h => by
    unfold tameC at hp
    rw [evCode, evCode]
    refine LeTO.bndO (evCode_tame hp h) fun x e e' ms h => ?_
    cases x with
    | normal => exact LeTO.of_ret h
    | ret => exact LeTO.of_ret h
    | exit j =>
      simp only
      split
      · exact LeTO.of_ret h
      · exact LeTO.of_ret h
  | .loop b, hp, rd, ms, e, e', h => by
    unfold tameC at hp
    rw [evCode, evCode]
    exact loopM_tame (b := evCode cx call rd N n b) (fun ms e e' h => evCode_tame hp h) h
  | .rangeFunc _ _ _ _, hp, rd, ms, e, e', h => by unfold tameC at hp; cases hp
  | .scope _, hp, rd, ms, e, e', h => by rw [evCode]; exact LeTO.fail
  | .goto _, hp, rd, ms, e, e', h => by rw [evCode]; exact LeTO.fail
  | .refuse _, hp, rd, ms, e, e', h => by rw [evCode]; exact LeTO.fail
theorem resM_tame (h : FT T e e') : ∀ {l : List ResultVar}, tameR T l = true → (resM cx e l : M H (List V)) = resM cx e' l
  | [], _ => rfl
  | .tmp t :: l, ht => by
    unfold tameR at ht
    obtain ⟨h1, h2⟩ := Bool.and_eq_true_iff.1 ht
    rw [resM, resM, h.clean (by simpa using h1), resM_tame h h2]
  | .cell a t :: l, ht => by
    unfold tameR at ht
    obtain ⟨h1, h2⟩ := Bool.and_eq_true_iff.1 ht
    rw [resM, resM, h.clean (by simpa using h1), resM_tame h h2]
/-- Its answer to arguments of the same remainders is the same. -/
theorem bodyM_tame {n f : Nat} {fn : Func} {cd : Code} {xs ys : List V} (hf : cx.fn f = some fn) (hb : fn.body = some cd) (ht : (tameC cx T cd && tameR T fn.results.toList) = true) (hxy : xs.length = ys.length) (h : FT T (initE xs 0 (MapI.emp : E)) (initE ys 0 MapI.emp)) :
    Le (bodyM E cx call n f xs) (bodyM E cx call n f ys) := by
  obtain ⟨h1, h2⟩ := Bool.and_eq_true_iff.1 ht
  intro h' c a hh cc l r
  unfold bodyM at r ⊢
  simp only [hf, hb] at r ⊢
  rw [← hxy]
  split at r
  · next hl =>
    rw [if_pos hl]
    obtain ⟨⟨x, e1, ms⟩, h3, c3, l1, l2, r1, r2, rfl⟩ := bnd_ok r
    obtain ⟨e2, f2, s2⟩ := evCode_tame h1 h _ _ _ _ _ _ _ _ r1
    refine bnd_eq s2 ?_
    cases x with
    | exit i => exact (fail_ok r2).elim
    | normal => simp only at r2 ⊢; rw [← resM_tame f2 h2]; exact r2
    | ret => simp only at r2 ⊢; rw [← resM_tame f2 h2]; exact r2
  · exact (fail_ok r).elim
end
end Go.Ab
