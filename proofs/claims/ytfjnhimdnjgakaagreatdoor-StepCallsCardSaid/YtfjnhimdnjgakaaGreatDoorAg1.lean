/- The evaluator grows with its fuel, and with what is known of a frame. For any program. -/
import Derived.Test.YtfjnhimdnjgakaaGreatDoorAd1
import Derived.Test.YtfjnhimdnjgakaaGreatDoorAf3
set_option linter.unusedVariables false
set_option linter.unusedSectionVars false
set_option linter.unusedSimpArgs false
set_option linter.unnecessarySimpa false
namespace Go.Ab

section
variable {H E : Type} [MapI H AObj] [MapI E V] {α β : Type} {cx : Cx}

def OLe (x y : Option α) : Prop := ∀ v, x = some v → y = some v
def Le (m m' : M H α) : Prop := ∀ h c a h1 c1 l, m h c = .ok a h1 c1 l → m' h c = .ok a h1 c1 l
theorem OLe.refl {x : Option α} : OLe x x := fun _ h => h
theorem Le.refl {m : M H α} : Le m m := fun _ _ _ _ _ _ h => h
theorem Le.fail {s : String} {m : M H α} : Le (fail s) m := fun h c a h1 c1 l e => (fail_ok e).elim
theorem Le.lift {s : String} {x y : Option α} (h : OLe x y) : Le (lift s x : M H α) (lift s y) := fun h' c a h1 c1 l e => by
  obtain ⟨e1, rfl, rfl, rfl⟩ := lift_ok e
  rw [h _ e1]; rfl
theorem Le.bnd {m m' : M H α} {f f' : α → M H β} (hm : Le m m') (hf : ∀ a, Le (f a) (f' a)) : Le (bnd m f) (bnd m' f') := fun h c b h2 c2 l e => by
  obtain ⟨a, h1, c1, l1, l2, e1, e2, rfl⟩ := bnd_ok e
  exact bnd_eq (hm _ _ _ _ _ _ e1) (hf _ _ _ _ _ _ _ e2)
theorem Le.trans {m m' m'' : M H α} (x : Le m m') (y : Le m' m'') : Le m m'' := fun h c a h1 c1 l e => y _ _ _ _ _ _ (x _ _ _ _ _ _ e)
theorem Le.listen {m m' : M H α} (hm : Le m m') : Le (listen m) (listen m') := fun h c b h2 c2 l e => by
  unfold Ab.listen at e
  cases e1 : m h c with
  | err s => rw [e1] at e; cases e
  | ok a h1 c1 l1 =>
    rw [e1] at e; cases e
    unfold Ab.listen
    rw [hm _ _ _ _ _ _ e1]

/-! ## Frames of which more is known -/

def FLe (e e' : E) : Prop := ∀ n v, MapI.get e n = some v → MapI.get e' n = some v
variable {e e' : E} {call call' : Tgt → List V → M H V}
theorem FLe.refl : FLe e e := fun _ _ h => h
theorem FLe.set (h : FLe e e') (d : Nat) (v : V) : FLe (MapI.set e d v) (MapI.set e' d v) := fun n w hn => by
  by_cases hd : d = n
  · subst hd; rw [MapI.get_same] at hn ⊢; exact hn
  · rw [MapI.get_ne _ _ _ _ hd] at hn ⊢; exact h n w hn
theorem ev1_le (h : FLe e e') (x : Operand) : OLe (ev1 cx e x) (ev1 cx e' x) := fun v hv => by
  cases x with
  | tmp t => exact h t v hv
  | const c => exact hv
  | global g => exact hv
  | func f => exact hv
theorem evs_le (h : FLe e e') : ∀ l : List Operand, OLe (evs cx e l) (evs cx e' l)
  | [] => OLe.refl
  | x :: l => fun v hv => by
    unfold evs at hv ⊢
    cases h1 : ev1 cx e x with
    | none => rw [h1] at hv; cases hv
    | some w =>
      rw [h1] at hv
      rw [ev1_le h x w h1]
      cases h2 : evs cx e l with
      | none => simp only [h2] at hv; cases hv
      | some ws =>
        simp only [h2] at hv
        simp only [evs_le h l ws h2]
        exact hv
theorem evParts_le (h : FLe e e') : ∀ l : List (Nat × Operand), OLe (evParts cx e l) (evParts cx e' l)
  | [] => OLe.refl
  | (i, x) :: l => fun v hv => by
    unfold evParts at hv ⊢
    cases h1 : ev1 cx e x with
    | none => rw [h1] at hv; cases hv
    | some w =>
      rw [h1] at hv
      rw [ev1_le h x w h1]
      cases h2 : evParts cx e l with
      | none => simp only [h2] at hv; cases hv
      | some ws =>
        simp only [h2] at hv
        simp only [evParts_le h l ws h2]
        exact hv
theorem evO_le (h : FLe e e') (x : Option Operand) : OLe (evO cx e x) (evO cx e' x) := fun v hv => by
  cases x with
  | none => exact hv
  | some x =>
    unfold evO at hv ⊢
    simp only at hv ⊢
    cases h1 : ev1 cx e x with
    | none => rw [h1] at hv; cases hv
    | some w => rw [h1] at hv; rw [ev1_le h x w h1]; exact hv
theorem callM_le (h : FLe e e') (hc : ∀ t xs, Le (call t xs) (call' t xs)) (c : Call) : Le (callM cx call e c) (callM cx call' e' c) := by
  unfold callM
  refine Le.bnd (Le.lift (evs_le h _)) fun xs => ?_
  split
  · exact Le.refl
  · refine Le.bnd (Le.lift (ev1_le h _)) fun f => ?_
    split
    · exact hc _ _
    · exact hc _ _
    · exact Le.fail
  · refine Le.bnd (Le.lift (ev1_le h _)) fun f => ?_
    split
    · exact Le.bnd Le.refl fun _ => hc _ _
    · exact Le.fail
theorem opM_le (h : FLe e e') (hc : ∀ t xs, Le (call t xs) (call' t xs)) (o : Oper) : Le (opM cx call e o) (opM cx call' e' o) := by
  have hx : ∀ x, OLe (ev1 cx e x) (ev1 cx e' x) := ev1_le h
  have hp : ∀ l, OLe (evParts cx e l) (evParts cx e' l) := evParts_le h
  have hs : ∀ l, OLe (evs cx e l) (evs cx e' l) := evs_le h
  have ho : ∀ l, OLe (evO cx e l) (evO cx e' l) := evO_le h
  have hcl : ∀ c, Le (callM cx call e c) (callM cx call' e' c) := callM_le h hc
  unfold opM
  repeat' first
    | with_reducible exact Le.fail
    | with_reducible exact Le.refl
    | with_reducible exact hcl _
    | with_reducible exact Le.lift (hx _)
    | with_reducible exact Le.lift (hp _)
    | with_reducible exact Le.lift (hs _)
    | with_reducible exact Le.lift (ho _)
    | (with_reducible refine Le.bnd ?_ fun _ => ?_)
    | split
theorem wanted_le (h : FLe e e') (ops : List Oper) (o : Oper) : OLe (wantedV ops e o) (wantedV ops e' o) := fun b hb => by
  unfold wantedV at hb ⊢
  cases hg : o.guard with
  | none => rw [hg] at hb; exact hb
  | some p =>
    obtain ⟨j, want⟩ := p
    simp only [hg] at hb ⊢
    cases hd : dstOf ops j with
    | none => rw [hd] at hb; exact hb
    | some d =>
      simp only [hd] at hb ⊢
      cases hv : MapI.get e d with
      | none => rw [hv] at hb; cases hb
      | some v => rw [hv] at hb; rw [h d v hv]; exact hb

/-- A run to a frame: the other one's frame knows as much. -/
def LeF (m m' : M H E) : Prop := ∀ h c e1 h1 c1 l, m h c = .ok e1 h1 c1 l → ∃ e1', FLe e1 e1' ∧ m' h c = .ok e1' h1 c1 l
theorem put_le (h : FLe e e') {N : Nat} {d : Option Tmp} {v : V} : LeF (putE N e d v : M H E) (putE N e' d v) := fun h' c e1 h1 c1 l r => by
  cases d with
  | none =>
    obtain ⟨rfl, rfl, rfl, rfl⟩ := ret_ok (show (ret e : M H E) h' c = _ from r)
    exact ⟨e', h, rfl⟩
  | some d =>
    unfold putE at r ⊢
    simp only at r ⊢
    split at r
    · next hd =>
      obtain ⟨rfl, rfl, rfl, rfl⟩ := ret_ok r
      exact ⟨_, h.set d v, by rw [if_pos hd]; rfl⟩
    · exact (fail_ok r).elim
theorem LeF.bnd {m m' : M H α} {f f' : α → M H E} (hm : Le m m') (hf : ∀ a, LeF (f a) (f' a)) : LeF (bnd m f) (bnd m' f') := fun h c b h2 c2 l e => by
  obtain ⟨a, h1, c1, l1, l2, e1, e2, rfl⟩ := bnd_ok e
  obtain ⟨e3, f3, e4⟩ := hf _ _ _ _ _ _ _ e2
  exact ⟨e3, f3, bnd_eq (hm _ _ _ _ _ _ e1) e4⟩
theorem stepOp_le (h : FLe e e') (hc : ∀ t xs, Le (call t xs) (call' t xs)) {N : Nat} {ops : List Oper} {o : Oper} : LeF (stepOp cx call N ops o e) (stepOp cx call' N ops o e') := by
  unfold stepOp
  cases hw : wantedV ops e o with
  | none => exact fun h c e1 h1 c1 l r => (fail_ok r).elim
  | some b =>
    rw [wanted_le h ops o b hw]
    cases b with
    | true => exact LeF.bnd (opM_le h hc o) fun v => put_le h
    | false => exact put_le h
theorem evOps_le (hc : ∀ t xs, Le (call t xs) (call' t xs)) {N : Nat} {ops : List Oper} : ∀ {l : List Oper} {e e' : E}, FLe e e' → LeF (evOps cx call N ops l e) (evOps cx call' N ops l e')
  | [], e, e', h => fun h' c e1 h1 c1 l r => by
    obtain ⟨rfl, rfl, rfl, rfl⟩ := ret_ok (show (ret e : M H E) h' c = _ from r)
    exact ⟨e', h, rfl⟩
  | o :: l, e, e', h => fun h' c e1 h1 c1 lg r => by
    unfold evOps at r ⊢
    obtain ⟨a, h2, c2, l1, l2, r1, r2, rfl⟩ := bnd_ok r
    obtain ⟨a', f1, s1⟩ := stepOp_le h hc _ _ _ _ _ _ r1
    obtain ⟨e3, f3, s3⟩ := evOps_le hc f1 _ _ _ _ _ _ r2
    exact ⟨e3, f3, bnd_eq s1 s3⟩
theorem evLog_le (hc : ∀ t xs, Le (call t xs) (call' t xs)) {N : Nat} {ops : List Oper} : ∀ {l : List Oper} {e e' : E}, FLe e e' → ∀ {h : H} {c : Nat} {e1 : E} {as : List (List Acc)} {h1 : H} {c1 : Nat} {lg : List Acc},
    evLog cx call N ops l e h c = .ok (e1, as) h1 c1 lg → ∃ e1', FLe e1 e1' ∧ evLog cx call' N ops l e' h c = .ok (e1', as) h1 c1 lg
  | [], e, e', h, h', c, e1, as, h1, c1, lg, r => by
    obtain ⟨q, rfl, rfl, rfl⟩ := ret_ok (show (ret (e, []) : M H (E × List (List Acc))) h' c = _ from r)
    cases q
    exact ⟨e', h, rfl⟩
  | o :: l, e, e', h, h', c, e1, as, h1, c1, lg, r => by
    unfold evLog at r ⊢
    obtain ⟨⟨a, al⟩, h2, c2, l1, l2, r1, r2, rfl⟩ := bnd_ok r
    obtain ⟨⟨b, bl⟩, h3, c3, l3, l4, r3, r4, rfl⟩ := bnd_ok r2
    obtain ⟨q, rfl, rfl, rfl⟩ := ret_ok r4
    cases q
    unfold listen at r1
    cases hs : stepOp cx call N ops o e h' c with
    | err s => rw [hs] at r1; cases r1
    | ok x hx cx' lx =>
      rw [hs] at r1; cases r1
      obtain ⟨a', f1, s1⟩ := stepOp_le h hc _ _ _ _ _ _ hs
      obtain ⟨e3, f3, s3⟩ := evLog_le hc f1 r3
      refine ⟨e3, f3, bnd_eq (a := (a', al)) (h' := h2) (c' := c2) ?_ (bnd_eq s3 rfl)⟩
      unfold listen
      rw [s1]
theorem evDrawn_le (hc : ∀ t xs, Le (call t xs) (call' t xs)) {N : Nat} {ops : List Oper} (h : FLe e e') : LeF (evDrawn cx call N ops e) (evDrawn cx call' N ops e') := fun h' c e1 h1 c1 lg r => by
  unfold evDrawn at r ⊢
  obtain ⟨⟨b, bl⟩, h3, c3, l3, l4, r3, r4, rfl⟩ := bnd_ok r
  obtain ⟨e3, f3, s3⟩ := evLog_le hc h r3
  simp only at r4
  split at r4
  · next hl =>
    obtain ⟨rfl, rfl, rfl, rfl⟩ := ret_ok r4
    exact ⟨e3, f3, bnd_eq s3 (by simp only [hl, if_true]; rfl)⟩
  · exact (fail_ok r4).elim

/-! ## Code -/
def LeO (m m' : M H (Out E)) : Prop := ∀ h c x e1 ms h1 c1 l, m h c = .ok (x, e1, ms) h1 c1 l → ∃ e1', FLe e1 e1' ∧ m' h c = .ok (x, e1', ms) h1 c1 l
theorem LeO.of_ret {x : Ex} {ms : List Nat} (h : FLe e e') : LeO (Ab.ret (x, e, ms) : M H (Out E)) (Ab.ret (x, e', ms)) := fun h' c y e1 ns h1 c1 l r => by
  obtain ⟨q, rfl, rfl, rfl⟩ := ret_ok r
  cases q
  exact ⟨e', h, rfl⟩
theorem LeO.bndO {m m' : M H (Out E)} {f f' : Out E → M H (Out E)} (hm : LeO m m') (hf : ∀ x e e' ms, FLe e e' → LeO (f (x, e, ms)) (f' (x, e', ms))) : LeO (bnd m f) (bnd m' f') := fun h c x e1 ms h1 c1 l r => by
  obtain ⟨⟨y, e2, ns⟩, h2, c2, l1, l2, r1, r2, rfl⟩ := bnd_ok r
  obtain ⟨e2', f2, s2⟩ := hm _ _ _ _ _ _ _ _ r1
  obtain ⟨e3', f3, s3⟩ := hf _ _ _ _ f2 _ _ _ _ _ _ _ _ r2
  exact ⟨e3', f3, bnd_eq s2 s3⟩
theorem LeO.bndF {m m' : M H E} {f f' : E → M H (Out E)} (hm : LeF m m') (hf : ∀ e e', FLe e e' → LeO (f e) (f' e')) : LeO (bnd m f) (bnd m' f') := fun h c x e1 ms h1 c1 l r => by
  obtain ⟨e2, h2, c2, l1, l2, r1, r2, rfl⟩ := bnd_ok r
  obtain ⟨e2', f2, s2⟩ := hm _ _ _ _ _ _ r1
  obtain ⟨e3', f3, s3⟩ := hf _ _ f2 _ _ _ _ _ _ _ _ r2
  exact ⟨e3', f3, bnd_eq s2 s3⟩
theorem LeO.bndV {m m' : M H α} {f f' : α → M H (Out E)} (hm : Le m m') (hf : ∀ a, LeO (f a) (f' a)) : LeO (bnd m f) (bnd m' f') := fun h c x e1 ms h1 c1 l r => by
  obtain ⟨e2, h2, c2, l1, l2, r1, r2, rfl⟩ := bnd_ok r
  obtain ⟨e3', f3, s3⟩ := hf _ _ _ _ _ _ _ _ _ r2
  exact ⟨e3', f3, bnd_eq (hm _ _ _ _ _ _ r1) s3⟩
theorem LeO.fail {s : String} {m : M H (Out E)} : LeO (Ab.fail s) m := fun h c x e1 ms h1 c1 l r => (fail_ok r).elim
theorem loopM_le {b b' : List Nat → E → M H (Out E)} (hb : ∀ ms e e', FLe e e' → LeO (b ms e) (b' ms e')) : ∀ {n n' : Nat}, n ≤ n' → ∀ {ms : List Nat} {e e' : E}, FLe e e' → LeO (loopM b n ms e) (loopM b' n' ms e')
  | 0, n', hn, ms, e, e', h => LeO.fail
  | n + 1, 0, hn, ms, e, e', h => by omega
  | n + 1, n' + 1, hn, ms, e, e', h => by
    unfold loopM
    refine LeO.bndO (hb ms e e' h) fun x e e' ms h => ?_
    cases x with
    | normal => exact loopM_le hb (by omega) h
    | exit i => exact LeO.of_ret h
    | ret => exact LeO.of_ret h
theorem evCode_le (hc : ∀ t xs, Le (call t xs) (call' t xs)) {N n n' : Nat} (hn : n ≤ n') : ∀ {cd : Code}, plainC cd = true → ∀ {rd : Bool} {ms : List Nat} {e e' : E}, FLe e e' → LeO (evCode cx call rd N n cd ms e) (evCode cx call' rd N n' cd ms e')
  | .skip, hp, rd, ms, e, e', h => by rw [evCode, evCode]; exact LeO.of_ret h
  | .label _, hp, rd, ms, e, e', h => by rw [evCode, evCode]; exact LeO.of_ret h
  | .exit i, hp, rd, ms, e, e', h => by rw [evCode, evCode]; exact LeO.of_ret h
  | .ret, hp, rd, ms, e, e', h => by rw [evCode, evCode]; exact LeO.of_ret h
  | .region _ ops d, hp, rd, ms, e, e', h => by
    rw [evCode, evCode]
    refine LeO.bndF ?_ fun e e' h => LeO.of_ret h
    cases d with
    | true => exact evDrawn_le hc h
    | false => exact evOps_le hc h
  | .seq a b, hp, rd, ms, e, e', h => by
    obtain ⟨h1, h2⟩ := boolK_and (show boolK false (plainC b) (plainC a) = true from hp)
    rw [evCode, evCode]
    refine LeO.bndO (evCode_le hc hn h1 h) fun x e e' ms h => ?_
    cases x with
    | normal => exact evCode_le hc hn h2 h
    | exit i => exact LeO.of_ret h
    | ret => exact LeO.of_ret h
  | .cond x a b, hp, rd, ms, e, e', h => by
    obtain ⟨h1, h2⟩ := boolK_and (show boolK false (plainC b) (plainC a) = true from hp)
    rw [evCode, evCode]
    refine LeO.bndV (Le.lift (ev1_le h x)) fun v => ?_
    split
    · exact evCode_le hc hn h1 h
    · exact evCode_le hc hn h2 h
    · exact LeO.fail
  | .block i b, hp, rd, ms, e, e', h => by
    rw [evCode, evCode]
    refine LeO.bndO (evCode_le hc hn (show plainC b = true from hp) h) fun x e e' ms h => ?_
    cases x with
    | normal => exact LeO.of_ret h
    | ret => exact LeO.of_ret h
    | exit j =>
      simp only
      split
      · exact LeO.of_ret h
      · exact LeO.of_ret h
  | .loop b, hp, rd, ms, e, e', h => by
    rw [evCode, evCode]
    exact loopM_le (b := evCode cx call rd N n b) (b' := evCode cx call' rd N n' b) (fun ms e e' h => evCode_le hc hn (show plainC b = true from hp) h) hn h
  | .rangeFunc _ _ _ _, hp, rd, ms, e, e', h => by cases hp
  | .scope _, hp, rd, ms, e, e', h => by rw [evCode]; exact LeO.fail
  | .goto _, hp, rd, ms, e, e', h => by rw [evCode]; exact LeO.fail
  | .refuse _, hp, rd, ms, e, e', h => by rw [evCode]; exact LeO.fail

/-! ## More fuel, the same frame -/
theorem stepOp_leS (hc : ∀ t xs, Le (call t xs) (call' t xs)) {N : Nat} {ops : List Oper} {o : Oper} {e : E} : Le (stepOp cx call N ops o e) (stepOp cx call' N ops o e) := by
  unfold stepOp
  split
  · exact Le.bnd (opM_le FLe.refl hc o) fun v => Le.refl
  · exact Le.refl
  · exact Le.fail
theorem evOps_leS (hc : ∀ t xs, Le (call t xs) (call' t xs)) {N : Nat} {ops : List Oper} : ∀ {l : List Oper} {e : E}, Le (evOps cx call N ops l e) (evOps cx call' N ops l e)
  | [], e => Le.refl
  | o :: l, e => by unfold evOps; exact Le.bnd (stepOp_leS hc) fun e => evOps_leS hc
theorem evLog_leS (hc : ∀ t xs, Le (call t xs) (call' t xs)) {N : Nat} {ops : List Oper} : ∀ {l : List Oper} {e : E}, Le (evLog cx call N ops l e) (evLog cx call' N ops l e)
  | [], e => Le.refl
  | o :: l, e => by unfold evLog; exact Le.bnd (Le.listen (stepOp_leS hc)) fun (e, a) => Le.bnd (evLog_leS hc) fun _ => Le.refl
theorem evDrawn_leS (hc : ∀ t xs, Le (call t xs) (call' t xs)) {N : Nat} {ops : List Oper} {e : E} : Le (evDrawn cx call N ops e) (evDrawn cx call' N ops e) := by
  unfold evDrawn
  exact Le.bnd (evLog_leS hc) fun _ => Le.refl
theorem loopM_leS {b b' : List Nat → E → M H (Out E)} (hb : ∀ ms e, Le (b ms e) (b' ms e)) : ∀ {n n' : Nat}, n ≤ n' → ∀ {ms : List Nat} {e : E}, Le (loopM b n ms e) (loopM b' n' ms e)
  | 0, n', hn, ms, e => Le.fail
  | n + 1, 0, hn, ms, e => by omega
  | n + 1, n' + 1, hn, ms, e => by
    unfold loopM
    refine Le.bnd (hb ms e) fun r => ?_
    obtain ⟨x, e, ms⟩ := r
    cases x with
    | normal => exact loopM_leS hb (by omega)
    | exit i => exact Le.refl
    | ret => exact Le.refl
theorem evCode_leS (hc : ∀ t xs, Le (call t xs) (call' t xs)) {N n n' : Nat} (hn : n ≤ n') : ∀ {cd : Code} {rd : Bool} {ms : List Nat} {e : E}, Le (evCode cx call rd N n cd ms e) (evCode cx call' rd N n' cd ms e)
  | .skip, rd, ms, e => by rw [evCode, evCode]; exact Le.refl
  | .label _, rd, ms, e => by rw [evCode, evCode]; exact Le.refl
  | .exit i, rd, ms, e => by rw [evCode, evCode]; exact Le.refl
  | .ret, rd, ms, e => by rw [evCode, evCode]; exact Le.refl
  | .region _ ops d, rd, ms, e => by
    rw [evCode, evCode]
    refine Le.bnd ?_ fun e => Le.refl
    cases d with
    | true => exact evDrawn_leS hc
    | false => exact evOps_leS hc
  | .seq a b, rd, ms, e => by
    rw [evCode, evCode]
    refine Le.bnd (evCode_leS hc hn) fun r => ?_
    obtain ⟨x, e, ms⟩ := r
    cases x with
    | normal => exact evCode_leS hc hn
    | exit i => exact Le.refl
    | ret => exact Le.refl
  | .cond x a b, rd, ms, e => by
    rw [evCode, evCode]
    refine Le.bnd Le.refl fun v => ?_
    split
    · exact evCode_leS hc hn
    · exact evCode_leS hc hn
    · exact Le.fail
  | .block i b, rd, ms, e => by
    rw [evCode, evCode]
    exact Le.bnd (evCode_leS hc hn) fun r => Le.refl
  | .loop b, rd, ms, e => by
    rw [evCode, evCode]
    exact loopM_leS (fun ms e => evCode_leS hc hn) hn
  | .rangeFunc g ps a b, rd, ms, e => by
    rw [evCode, evCode]
    split
    · exact Le.fail
    · refine Le.bnd Le.refl fun v => ?_
      split
      · split
        · exact Le.bnd Le.refl fun d => Le.bnd Le.refl fun l => Le.bnd (hc _ _) fun _ => Le.refl
        · exact Le.fail
      · exact Le.fail
  | .scope _, rd, ms, e => by rw [evCode]; exact Le.fail
  | .goto _, rd, ms, e => by rw [evCode]; exact Le.fail
  | .refuse _, rd, ms, e => by rw [evCode]; exact Le.fail
theorem bodyM_leS (hc : ∀ t xs, Le (call t xs) (call' t xs)) {n n' f : Nat} (hn : n ≤ n') {xs : List V} : Le (bodyM E cx call n f xs) (bodyM E cx call' n' f xs) := by
  unfold bodyM
  split
  · exact Le.fail
  · split
    · exact Le.fail
    · split
      · exact Le.bnd (evCode_leS hc hn) fun r => Le.refl
      · exact Le.fail
theorem roundM_leS (hc : ∀ t xs, Le (call t xs) (call' t xs)) {n n' l : Nat} (hn : n ≤ n') {xs : List V} : Le (roundM E cx call n l xs) (roundM E cx call' n' l xs) := by
  unfold roundM
  refine Le.bnd Le.refl fun o => ?_
  split
  · split
    · refine Le.bnd (evCode_leS hc hn) fun r => ?_
      split
      · refine Le.bnd Le.refl fun o => ?_
        split
        · exact Le.bnd Le.refl fun _ => Le.bnd (evCode_leS hc hn) fun r => Le.refl
        · exact Le.fail
      · exact Le.fail
    · exact Le.fail
  · exact Le.fail
/-- More fuel, the same answer. -/
theorem evFn_mono {prim : Nat → Option ((Tgt → List V → M H V) → List V → M H V)} (hp : ∀ f m, prim f = some m → ∀ (call call' : Tgt → List V → M H V), (∀ t xs, Le (call t xs) (call' t xs)) → ∀ xs, Le (m call xs) (m call' xs)) :
    ∀ {n n' : Nat}, n ≤ n' → ∀ t xs, Le (evFn E cx prim n t xs) (evFn E cx prim n' t xs)
  | 0, n', hn, t, xs => by unfold evFn; exact Le.fail
  | n + 1, 0, hn, t, xs => by omega
  | n + 1, n' + 1, hn, t, xs => by
    have ih : ∀ t xs, Le (evFn E cx prim n t xs) (evFn E cx prim n' t xs) := fun t xs => evFn_mono hp (by omega) t xs
    cases t with
    | fn f =>
      rw [evFn, evFn]
      cases h : prim f with
      | some m => exact hp f m h _ _ ih xs
      | none => exact bodyM_leS ih (by omega)
    | yl l => rw [evFn, evFn]; exact roundM_leS ih (by omega)

/-! ## Parts of a code by runs of their own -/
variable {prim : Nat → Option ((Tgt → List V → M H V) → List V → M H V)}
/-- A run from a frame of which less is known. -/
theorem WpC.of_run {N n : Nat} {cd : Code} {u u1 e : E} {h h1 : H} {c c1 : Nat} {l : List Acc} {x : Ex} {Q : Ex → E → H → Nat → Prop} (hp : ∀ f m, prim f = some m → ∀ (call call' : Tgt → List V → M H V), (∀ t xs, Le (call t xs) (call' t xs)) → ∀ xs, Le (m call xs) (m call' xs))
    (hpl : plainC cd = true) (hr : evCode cx (evFn E cx prim n) false N n cd [] u h c = .ok (x, u1, []) h1 c1 l) (hu : FLe u e) (q : ∀ e1, FLe u1 e1 → Q x e1 h1 c1) : WpC E cx prim (fun _ => True) N cd e h c Q := by
  obtain ⟨e1, f1, s1⟩ := evCode_le (fun t xs => Le.refl) (Nat.le_refl n) hpl hu _ _ _ _ _ _ _ _ hr
  exact ⟨⟨_, h1, c1, l, ⟨fun _ _ => trivial, rfl, q e1 f1⟩, n, fun n' hn => evCode_leS (fun t xs => evFn_mono hp hn t xs) hn _ _ _ _ _ _ s1⟩⟩
theorem WpO.of_run {N n : Nat} {ops os : List Oper} {u u1 e : E} {h h1 : H} {c c1 : Nat} {l : List Acc} {Q : E → H → Nat → Prop} (hp : ∀ f m, prim f = some m → ∀ (call call' : Tgt → List V → M H V), (∀ t xs, Le (call t xs) (call' t xs)) → ∀ xs, Le (m call xs) (m call' xs))
    (hr : evOps cx (evFn E cx prim n) N ops os u h c = .ok u1 h1 c1 l) (hu : FLe u e) (q : ∀ e1, FLe u1 e1 → Q e1 h1 c1) : WpO E cx prim (fun _ => True) N ops os e h c Q := by
  obtain ⟨e1, f1, s1⟩ := evOps_le (fun t xs => Le.refl) hu _ _ _ _ _ _ hr
  exact ⟨⟨_, h1, c1, l, ⟨fun _ _ => trivial, q e1 f1⟩, n, fun n' hn => evOps_leS (fun t xs => evFn_mono hp hn t xs) _ _ _ _ _ _ s1⟩⟩
end

section
variable {cx : Cx} {prim : Nat → Option ((Tgt → List V → M HT V) → List V → M HT V)}
noncomputable def fastEnv (cx : Cx) (prim : Nat → Option ((Tgt → List V → M HT V) → List V → M HT V)) (n : Nat) : Env := ⟨cx, callF cx prim n, evFn ET cx prim n⟩
/-- By the fast evaluator. -/
theorem WpC.of_fast {N n : Nat} {cd : Code} {u z : ET} {h : HT} {c : Nat} {kn : KE} {kx : KX} {Q : Ex → ET → HT → Nat → Prop} (hp : ∀ f m, prim f = some m → ∀ (call call' : Tgt → List V → M HT V), (∀ t xs, Le (call t xs) (call' t xs)) → ∀ xs, Le (m call xs) (m call' xs))
    (hpl : plainC cd = true) (hr : codeF (fastEnv cx prim n) n (compC cx N cd) u h c [] kn kx = true) (hu : FLe u z) (q : ∀ x u1 e1 h1 c1 l, FLe u1 e1 → outOk kn kx x u1 h1 c1 l → Q x e1 h1 c1) : WpC ET cx prim (fun _ => True) N cd z h c Q := by
  obtain ⟨x, u1, h1, c1, l, r1, r2⟩ := codeF_ok (fun t xs => callF_ok) hpl hr
  exact WpC.of_run hp hpl r1 hu fun e1 f1 => q _ _ _ _ _ _ f1 r2
theorem WpO.of_fast {N n : Nat} {ops os : List Oper} {u z : ET} {h : HT} {c : Nat} {kn : KE} {Q : ET → HT → Nat → Prop} (hp : ∀ f m, prim f = some m → ∀ (call call' : Tgt → List V → M HT V), (∀ t xs, Le (call t xs) (call' t xs)) → ∀ xs, Le (m call xs) (m call' xs))
    (hr : opsF (fastEnv cx prim n) (compL cx N ops os) u h c [] kn = true) (hu : FLe u z) (q : ∀ u1 e1 h1 c1 l, FLe u1 e1 → kn u1 h1 c1 l = true → Q e1 h1 c1) : WpO ET cx prim (fun _ => True) N ops os z h c Q := by
  obtain ⟨u1, h1, c1, l, r1, r2⟩ := opsF_ok (fun t xs => callF_ok) hr
  exact WpO.of_run hp r1 hu fun e1 f1 => q _ _ _ _ _ f1 r2
end
end Go.Ab
