/- slices.Sorted of a map's keys, as a 'prim': out of the kit's contract. -/
import Derived.Test.YtcenbfjhhaialaaAdK0
import Derived.Test.YtcenbfjhhaialaaAdC
import Derived.Lib.SlKeysI
import Derived.WideShapes4
set_option linter.unusedVariables false
set_option linter.unusedSectionVars false
set_option linter.unusedSimpArgs false
set_option linter.unnecessarySimpa false
namespace Go.Ab
open Go.RowKit Go.Maps

theorem hasZ_iff {x : Int} : ∀ {l : List Int}, hasZ x l = true ↔ x ∈ l
  | [] => by simp [hasZ]
  | y :: l => by simp [hasZ, hasZ_iff (l := l)]
theorem noDupZ_ok : ∀ {l : List Int}, noDupZ l = true → l.Nodup
  | [], _ => List.nodup_nil
  | x :: l, h => by
    simp only [noDupZ, Bool.and_eq_true, Bool.not_eq_true'] at h
    refine List.nodup_cons.2 ⟨fun hm => ?_, noDupZ_ok h.2⟩
    rw [hasZ_iff.2 hm] at h; cases h.1
theorem noDupN_ok : ∀ {l : List Nat}, noDupN l = true → l.Nodup
  | [], _ => List.nodup_nil
  | x :: l, h => by
    simp only [noDupN, Bool.and_eq_true, Bool.not_eq_true'] at h
    refine List.nodup_cons.2 ⟨fun hm => ?_, noDupN_ok h.2⟩
    have : hasN x l = true := by rw [hasN_ok]; simpa using hm
    rw [this] at h; cases h.1
theorem insZ_perm {x : Int} : ∀ {l : List Int}, (insZ x l).Perm (x :: l)
  | [] => List.Perm.refl _
  | y :: l => by
    unfold insZ
    cases decide (x ≤ y) with
    | true => exact List.Perm.refl _
    | false => exact ((insZ_perm (l := l)).cons y).trans (List.Perm.swap x y l)
theorem sortZ_perm : ∀ {l : List Int}, (sortZ l).Perm l
  | [] => List.Perm.refl _
  | x :: l => insZ_perm.trans ((sortZ_perm (l := l)).cons x)
theorem insZ_sorted {x : Int} : ∀ {l : List Int}, l.Pairwise (· ≤ ·) → (insZ x l).Pairwise (· ≤ ·)
  | [], _ => by simp [insZ]
  | y :: l, h => by
    unfold insZ
    cases hd : decide (x ≤ y) with
    | true =>
      have hd := of_decide_eq_true hd
      refine List.pairwise_cons.2 ⟨fun z hz => ?_, h⟩
      rcases List.mem_cons.1 hz with rfl | hz
      · exact hd
      · exact Int.le_trans hd ((List.pairwise_cons.1 h).1 z hz)
    | false =>
      have hd := of_decide_eq_false hd
      refine List.pairwise_cons.2 ⟨fun z hz => ?_, insZ_sorted (List.pairwise_cons.1 h).2⟩
      have hz := insZ_perm.mem_iff.1 hz
      rcases List.mem_cons.1 hz with rfl | hz
      · omega
      · exact (List.pairwise_cons.1 h).1 z hz
theorem sortZ_sorted : ∀ {l : List Int}, (sortZ l).Pairwise (· ≤ ·)
  | [] => List.Pairwise.nil
  | x :: l => insZ_sorted sortZ_sorted
theorem mergeSort_sortZ {ss ks : List Int} (h : ss.Perm ks) : ss.mergeSort (fun x y => decide (x ≤ y)) = sortZ ks := by
  have tr : ∀ a b c : Int, leI a b = true → leI b c = true → leI a c = true := fun a b c h1 h2 => by simp only [leI, decide_eq_true_eq] at *; exact Int.le_trans h1 h2
  have to : ∀ a b : Int, (leI a b || leI b a) = true := fun a b => by simp only [leI, Bool.or_eq_true, decide_eq_true_eq]; exact Int.le_total a b
  refine List.Perm.eq_of_pairwise (le := fun a b => leI a b = true) (fun a b _ _ h1 h2 => ?_) (List.pairwise_mergeSort tr to ss) (sortZ_sorted.imp fun h => by simpa [leI] using h) (((List.mergeSort_perm ss leI).trans h).trans sortZ_perm.symm)
  simp only [leI, decide_eq_true_eq] at h1 h2
  exact Int.le_antisymm h1 h2

section
variable {H : Type} [MapI H AObj] {P : Program}
/-- What is asked of the program's slices.Sorted and an iterator of maps.Keys. -/
structure KeysSorted (P : Program) (fS g : Nat) (kt : TypeId) : Prop where
  key : P.underlying kt = some (.int .i64)
  enter : ∀ (args : Array Value) (w : World), (callFunc fS args).run P w = .ok (.enter fS args) w
  ok : ∀ (W : World) (Bm b nn : Nat) (D0 : DataW Unit), Bm < W.heap.size → W.cell? ⟨Bm, 0, none⟩ = some (.map (some b)) → W.ownsMap P kt (fun _ => some (.nil, [])) b nn D0 → Maps.size D0 ≤ 1000000 →
    Calls P fS #[.func (.func g) #[] #[.pointer (some ⟨Bm, 0, none⟩)]] W fun e w' => ∃ (v : Value) (ss : List Int), e = .returned v ∧ ss.Perm (intKeys D0) ∧
      w'.ownsRow W.heap.size kt 1 v ss.length ((ss.mergeSort (fun x y => decide (x ≤ y))).map encZ) ∧ (v = .slice none 0 0 ↔ ss = []) ∧ Below W.heap.size W w'
  none : ∀ (W : World) (Bm : Nat), Bm < W.heap.size → W.cell? ⟨Bm, 0, none⟩ = some (.map none) →
    Calls P fS #[.func (.func g) #[] #[.pointer (some ⟨Bm, 0, none⟩)]] W fun e w' => e = .returned (.slice none 0 0) ∧ Below W.heap.size W w'

/-- A block that a call has made gets a name. -/
theorem Rel.adopt {ng : Nat} {w0 w w' : World} {φ : Nm} {h : H} {c : Nat} {o : AObj} {L : Loc} (r : Rel ng w0 φ h w) (k : Below w.heap.size w w') (hc : φ c = none) (hb : w.heap.size ≤ L.blk) (hw : o.writable = true)
    (ho : ObjR (φ.put c L) o L w'.heap[L.blk]?) : Rel ng w0 (φ.put c L) (MapI.set h c o) w' := by
  have hext : ∀ n K, φ n = some K → (φ.put c L) n = some K := (Ext.put L hc).mono
  have hput : (φ.put c L) c = some L := by simp [Nm.put]
  have hsz := r.below.size
  refine ⟨r.below.trans (k.mono hsz), fun m p hm => ?_, fun a d p q K J had ha hd hp hq hK hJ => ?_, fun g hg => ?_⟩
  · by_cases e : c = m
    · subst e
      rw [MapI.get_same] at hm; cases hm
      exact ⟨L, hput, ho, fun _ => by omega, fun e => by rw [hw] at e; cases e⟩
    · rw [MapI.get_ne _ _ _ _ e] at hm
      obtain ⟨K, h1, h2, h3, h4⟩ := r.obj m p hm
      refine ⟨K, hext _ _ h1, ?_, h3, h4⟩
      by_cases hg : p.gone = true
      · cases p <;> first | trivial | cases hg
      · have hlt := r.lt hm (by simpa using hg) h1
        rw [k.block _ hlt]; exact h2.mono hext
  · have key : ∀ m p K, MapI.get (MapI.set h c o) m = some p → p.writable = true → (φ.put c L) m = some K → (m = c ∧ K = L) ∨ (m ≠ c ∧ MapI.get h m = some p ∧ φ m = some K ∧ K.blk < w.heap.size) := fun m p K hm hp hK => by
      by_cases e : c = m
      · subst e; rw [hput] at hK; cases hK; exact .inl ⟨rfl, rfl⟩
      · rw [MapI.get_ne _ _ _ _ e] at hm
        have hK' : φ m = some K := by unfold Nm.put at hK; rw [if_neg (Ne.symm e)] at hK; exact hK
        exact .inr ⟨Ne.symm e, hm, hK', r.lt hm (gone_of_writable hp) hK'⟩
    rcases key a p K ha hp hK with ⟨x, y⟩ | ⟨x1, x2, x3, x4⟩ <;> rcases key d q J hd hq hJ with ⟨z, t⟩ | ⟨z1, z2, z3, z4⟩
    · omega
    · subst y; omega
    · subst t; omega
    · exact r.apart a d p q K J had x2 z2 hp hq x3 z3
  · obtain ⟨K, h1, h2⟩ := r.glob g hg; exact ⟨K, hext _ _ h1, h2⟩

theorem keysZ_cons {x : V × V × Nat} {es : List (V × V × Nat)} {ks : List Int} (h : keysZ (x :: es) = some ks) : ∃ k v b l, x = (.int .i64 k, v, b) ∧ keysZ es = some l ∧ ks = k :: l ∧ -9223372036854775808 ≤ k ∧ k ≤ 9223372036854775807 := by
  unfold keysZ at h
  split at h
  · next heq => cases heq
  · next k v b es' heq =>
    cases heq
    cases hd : (decide (-9223372036854775808 ≤ k) && decide (k ≤ 9223372036854775807)) with
    | false => rw [hd] at h; cases h
    | true =>
      rw [hd] at h
      simp only [cond_true] at h
      rw [Bool.and_eq_true, decide_eq_true_eq, decide_eq_true_eq] at hd
      cases hks : keysZ es with
      | none => rw [hks] at h; cases h
      | some l => rw [hks] at h; cases h; exact ⟨k, v, b, l, rfl, rfl, rfl, hd⟩
  · cases h
theorem keysZ_ok {φ : Nm} : ∀ {es : List (V × V × Nat)} {us : List MapEntry} {ks : List Int}, MRs φ es us → keysZ es = some ks → us.map (·.key) = ks.map encZ ∧ us.map (·.born) = es.map (fun x => x.2.2) ∧ ks.length = es.length ∧ us.length = es.length ∧ ∀ k ∈ ks, -9223372036854775808 ≤ k ∧ k ≤ 9223372036854775807
  | _, _, ks, .nil, h => by cases h; exact ⟨rfl, rfl, rfl, rfl, fun k hk => by cases hk⟩
  | _, _, ks, .cons (e := e) hk hv hb hr, h => by
    obtain ⟨k, v, b, l, hx, hl, rfl, hr1, hr2⟩ := keysZ_cons h
    cases hx
    obtain ⟨h1, h2, h3, h4, h5⟩ := keysZ_ok hr hl
    have hkey : e.key = encZ k := by
      generalize e.key = u at hk
      cases hk; rfl
    refine ⟨by simp [hkey, h1], by simp [hb, h2], by simp [h3], by simp [h4], fun x hx => ?_⟩
    rcases List.mem_cons.1 hx with rfl | hx
    · exact ⟨hr1, hr2⟩
    · exact h5 x hx
theorem nodup_encZ {ks : List Int} (h : ks.Nodup) : (ks.map encZ).Nodup := by
  refine List.pairwise_map.2 (h.imp fun hne e => hne (encZ_inj e))
theorem insert_perm {x : Lit × DataW Unit} : ∀ {l : List (Lit × DataW Unit)}, (DataW.insert x l).Perm (x :: l)
  | [] => List.Perm.refl _
  | y :: l => by
    unfold DataW.insert
    split
    · exact List.Perm.refl _
    · exact ((insert_perm (l := l)).cons y).trans (List.Perm.swap x y l)
theorem foldr_perm : ∀ {l : List (Lit × DataW Unit)}, (l.foldr DataW.insert []).Perm l
  | [] => List.Perm.refl _
  | x :: l => insert_perm.trans ((foldr_perm (l := l)).cons x)
/-- The map as the kit's contract reads it. -/
theorem owns_of {kt : TypeId} (hk : P.underlying kt = some (.int .i64)) {w : World} {b : Nat} {E : Array MapEntry} {ck : Nat} {φ : Nm} {es : List (V × V × Nat)} {ks : List Int} (hb : w.heap[b]? = some (.map E ck)) (hm : MRs φ es E.toList) (hks : keysZ es = some ks) (hg : goodMap es ck ks = true) :
    ∃ D0 : DataW Unit, w.ownsMap P kt (fun _ => some (.nil, [])) b es.length D0 ∧ Maps.size D0 ≤ 1000000 ∧ (intKeys D0).Perm ks := by
  unfold goodMap at hg
  simp only [Bool.and_eq_true] at hg
  obtain ⟨g1, g2, g3, g4⟩ := hg
  obtain ⟨h1, h2, h3, h4, h5⟩ := keysZ_ok hm hks
  have hle : es.length ≤ 1000000 := Nat.le_of_ble_eq_true g4
  have rd1 : ∀ x ∈ E.toList, ∀ k : Int, x.key = encZ k → k ∈ ks → WideElems.rd P kt (fun _ => some ((.nil : DataW Unit), [])) x = some (.int .i64 k, .nil) := fun x hx k hxk hkk => by
    have hw : (Lit.int .i64 k).wf = true := (Lit.wf_int_iff _ _).2 (by
      have := h5 k hkk
      have e1 : IntKind.min .i64 = -9223372036854775808 := rfl
      have e2 : IntKind.max .i64 = 9223372036854775807 := rfl
      omega)
    unfold WideElems.rd
    rw [hxk]
    have : keyOf P kt (encZ k) = some (.int .i64 k) := by
      unfold keyOf
      rw [hk]
      simp [mapKey, hk, hw, encZ]
    rw [this]; rfl
  have mem : ∀ x ∈ E.toList, ∃ k ∈ ks, x.key = encZ k := fun x hx => by
    have : x.key ∈ ks.map encZ := by rw [← h1]; exact List.mem_map.2 ⟨x, hx, rfl⟩
    obtain ⟨k, hk1, hk2⟩ := List.mem_map.1 this
    exact ⟨k, hk1, hk2.symm⟩
  have hrg : ∀ {us : List MapEntry} {ls : List Int}, us.map (·.key) = ls.map encZ → (∀ x ∈ us, x ∈ E.toList) → (∀ k ∈ ls, k ∈ ks) → us.map (WideElems.rg P kt (fun _ => some ((.nil : DataW Unit), []))) = ls.map fun k => (Lit.int .i64 k, (.nil : DataW Unit)) := fun {us} => by
    induction us with
    | nil => intro ls e _ _; cases ls with
      | nil => rfl
      | cons _ _ => cases e
    | cons x us ih =>
      intro ls e hu hl
      cases ls with
      | nil => cases e
      | cons k ls =>
        simp only [List.map_cons, List.cons.injEq] at e
        have := ih e.2 (fun y hy => hu y (List.mem_cons_of_mem _ hy)) (fun y hy => hl y (List.mem_cons_of_mem _ hy))
        simp only [List.map_cons, this]
        unfold WideElems.rg
        rw [rd1 x (hu x (List.mem_cons_self ..)) k e.1 (hl k (List.mem_cons_self ..))]
        rfl
  have hrg := hrg h1 (fun x hx => hx) (fun k hk => hk)
  refine ⟨.map ((E.toList.map (WideElems.rg P kt (fun _ => some ((.nil : DataW Unit), [])))).foldr DataW.insert []), ⟨E, ck, hb, ⟨?_, ⟨hm.olds g3, ?_, ?_⟩, fun x hx => ?_⟩, ?_, rfl⟩, ?_, ?_⟩
  · rw [← Array.length_toList, h4]; unfold maxLen; omega
  · rw [h2]; exact noDupN_ok g2
  · rw [h1]; exact nodup_encZ (noDupZ_ok g1)
  · obtain ⟨k, hk1, hk2⟩ := mem x hx
    exact ⟨_, rd1 x hx k hk2 hk1⟩
  · rw [← Array.length_toList, h4]; exact Nat.le_refl _
  · have := (foldr_perm (l := E.toList.map (WideElems.rg P kt (fun _ => some ((.nil : DataW Unit), []))))).length_eq
    show (List.foldr DataW.insert [] _).length ≤ _
    rw [this, List.length_map, h4]; exact hle
  · show ((List.foldr DataW.insert [] _).map fun p => intOf p.1).Perm ks
    have hp := (foldr_perm (l := E.toList.map (WideElems.rg P kt (fun _ => some ((.nil : DataW Unit), []))))).map fun p => intOf p.1
    rw [hrg] at hp ⊢
    rw [List.map_map] at hp
    have e : (List.map ((fun p : Lit × DataW Unit => intOf p.1) ∘ fun k => (Lit.int .i64 k, (.nil : DataW Unit))) ks) = ks := by
      have : ((fun p : Lit × DataW Unit => intOf p.1) ∘ fun k => (Lit.int .i64 k, (.nil : DataW Unit))) = id := by funext k; rfl
      rw [this, List.map_id]
    rw [e] at hp
    exact hp
theorem hasN_mem {n : Nat} {l : List Nat} (h : hasN n l = true) : n ∈ l := by rw [hasN_ok] at h; simpa using h
theorem sortedPrim_ok {fS : Nat} {gs : List Nat} {kt : TypeId} (hS : ∀ g ∈ gs, KeysSorted P fS g kt) (w0 : World) : PrimOk P 0 w0 fS (sortedPrim (H := H) gs) where
  loc call xs hl := sortedPrim_local
  ok call hc hl xs h c v h' c' l φ w xs' hr r hx hf := by
    unfold sortedPrim at hr
    split at hr
    rotate_left
    · exact (fail_ok hr).elim
    next g n =>
    cases hx with | cons hx1 hx2 => ?_
    cases hx2
    cases hx1 with | func hfa hfb => ?_
    cases hfa
    cases hfb with | cons hp hq => ?_
    cases hq
    cases hp with | ptr _ hL => ?_
    rename_i L
    split at hr
    rotate_left
    · exact (fail_ok hr).elim
    next hg =>
    have K := hS g (hasN_mem hg)
    obtain ⟨ob, h1, c1, l1, l2, e1, e2, _⟩ := bnd_ok hr
    obtain ⟨hgn, rfl, rfl, _⟩ := getM_ok e1
    obtain ⟨L', hL', hob, _⟩ := r.obj n _ hgn
    rw [hL] at hL'; cases hL'
    have hlt : ∀ {rw cl : Bool} {cs : List V}, ob = .cells rw cl cs → L.blk < w.heap.size := fun e => by subst e; exact r.lt hgn rfl hL
    split at e2
    · -- nil
      obtain ⟨C, ce, fr, hb, hlen, hlim, hcell, _, hcl⟩ := hob
      obtain ⟨u, hu, hv⟩ := hcell 0 _ rfl
      cases hv
      have hoff := (hcl rfl).2
      obtain ⟨rfl, rfl, rfl, _⟩ := ret_ok e2
      have hcell0 : w.cell? ⟨L.blk, 0, none⟩ = some (.map none) := by rw [cell_at hb, ← hu]; congr 1; omega
      refine .inl ⟨K.enter _ _, ?_⟩
      have := K.none w L.blk (hlt rfl) hcell0
      rw [show (⟨[Value.func (.func g) ⟨[]⟩ ⟨[Value.pointer (some ⟨L.blk, L.off + 0, none⟩)]⟩]⟩ : Array Value) = #[.func (.func g) #[] #[.pointer (some ⟨L.blk, 0, none⟩)]] from by rw [hoff]]
      exact this.mono fun e w' ⟨he, hbl⟩ => ⟨_, he, φ, .refl _ _ _, Nat.le_refl _, r.carry hbl, .sliceNil⟩
    · -- a map
      next q =>
      obtain ⟨C, ce, fr, hb, hlen, hlim, hcell, _, hcl⟩ := hob
      obtain ⟨u, hu, hv⟩ := hcell 0 _ rfl
      cases hv with | map hK => ?_
      rename_i Lq
      have hoff := (hcl rfl).2
      have hcell0 : w.cell? ⟨L.blk, 0, none⟩ = some (.map (some Lq.blk)) := by rw [cell_at hb, ← hu]; congr 1; omega
      obtain ⟨ob2, h2, c2, l3, l4, e3, e4, _⟩ := bnd_ok e2
      obtain ⟨hgq, rfl, rfl, _⟩ := getM_ok e3
      cases ob2 <;> try exact (fail_ok e4).elim
      rename_i rw es ck
      obtain ⟨E, hbm, hmr⟩ := map_of r hgq hK
      simp only at e4
      cases hks : keysZ es with
      | none => rw [hks] at e4; exact (fail_ok e4).elim
      | some ks =>
        rw [hks] at e4
        simp only at e4
        split at e4
        rotate_left
        · exact (fail_ok e4).elim
        next hgood =>
        obtain ⟨D0, hown, hsz, hperm⟩ := owns_of K.key hbm hmr hks hgood
        refine .inl ⟨K.enter _ _, ?_⟩
        rw [show (⟨[Value.func (.func g) ⟨[]⟩ ⟨[Value.pointer (some ⟨L.blk, L.off + 0, none⟩)]⟩]⟩ : Array Value) = #[.func (.func g) #[] #[.pointer (some ⟨L.blk, 0, none⟩)]] from by rw [hoff]]
        refine (K.ok w L.blk Lq.blk _ D0 (hlt rfl) hcell0 hown hsz).mono fun e w' ⟨v', ss, he, hp, hrow, hnil, hbl⟩ => ?_
        have hps := hp.trans hperm
        rw [mergeSort_sortZ hps] at hrow
        cases ks with
        | nil =>
          obtain ⟨rfl, rfl, rfl, _⟩ := ret_ok e4
          have hss : ss = [] := List.Perm.eq_nil hps
          rw [hnil.2 hss] at he
          exact ⟨_, he, φ, .refl _ _ _, Nat.le_refl _, r.carry hbl, .sliceNil⟩
        | cons k ks =>
          obtain ⟨n', h3, c3, l5, l6, e5, e6, _⟩ := bnd_ok e4
          obtain ⟨rfl, rfl, rfl, _⟩ := newM_ok e5
          obtain ⟨rfl, rfl, rfl, _⟩ := ret_ok e6
          have hln := hps.length_eq
          rcases hrow with ⟨hxl, ⟨_, h0⟩ | ⟨gb, cap, cur, hv', hbase, hgb, r1, r2, r3, r4⟩⟩
          · rw [h0] at hln; cases hln
          · have hc0 := hf n' (Nat.le_refl _) (Nat.lt_succ_self _)
            have hcs : cur.size = cap := by omega
            have hsl : (sortZ (k :: ks)).length = ss.length := by rw [hln]; exact (sortZ_perm (l := k :: ks)).length_eq
            refine ⟨v', he, φ.put n' ⟨gb, 0, cap⟩, Ext.put _ hc0, Nat.le_succ _, r.adopt hbl hc0 hbase rfl ?_, ?_⟩
            · refine ⟨cur, kt, (0, 0), hgb, by simp [hsl]; exact r1, by simp [hcs], fun i x hi => ?_, fun _ j _ _ => by simp, fun _ => ⟨rfl, rfl⟩⟩
              rw [List.getElem?_map] at hi
              cases hz : (sortZ (k :: ks))[i]? with
              | none => rw [hz] at hi; cases hi
              | some z =>
                rw [hz] at hi
                cases hi
                have hil := (List.getElem?_eq_some_iff.1 hz).1
                refine ⟨encZ z, ?_, .int _ _⟩
                show cur[0 + i]? = _
                rw [Nat.zero_add, ← Array.getElem?_toList]
                have := congrArg (fun l : List Value => l[i]?) r4
                simp only [List.getElem?_take, List.getElem?_map, hz, Option.map_some] at this
                rw [if_pos (by omega)] at this
                exact this
            · rw [hv', hln]
              exact .sliceU (L := ⟨gb, 0, cap⟩) 0 _ cap 1 put_get (by simp) (by simp at hln; omega) (by omega)
    · exact (fail_ok e2).elim
/-- As shutPrim_ok: run with 'prims'. -/
theorem shutPrim_okP (F : Fit P) {prim : Nat → Option ((Tgt → List V → M (Tr AObj) V) → List V → M (Tr AObj) V)} (hprim : ∀ w f m, prim f = some m → PrimOk P 0 w f m) {n f : Nat} {fn : Func} {code : Code} (hP : P.funcs[f]? = some fn) (hb : fn.body = some code)
    (hrun : isTrue (evFn (H := Tr AObj) (Tr V) (cxOf P) prim n (.fn f) [] MapI.emp 0) = true) (w0 : World) : PrimOk P 0 w0 f (shutPrim (H := H)) where
  ok call hc hl xs h c v h' c' l φ w xs' hr r hx hf := by
    cases hx with
    | nil =>
      obtain ⟨rfl, rfl, rfl, _⟩ := ret_ok hr
      obtain ⟨h1, c1, l1, h2⟩ := isTrue_ok hrun
      have a := evFn_ok F.cx rfl F.mixed F.good (hprim w) n (.fn f) [] MapI.emp 0 _ _ _ _ _ w [] h2 (Rel.start w) .nil (fun _ _ _ => rfl)
      have cl := a.calls hP (F.name hP) hb
      refine .inl ⟨cl.1, cl.2.mono fun e w' ⟨u, he, φ', _, _, hrel, hv⟩ => ?_⟩
      cases hv
      exact ⟨_, he, φ, .refl _ _ _, Nat.le_refl _, r.carry hrel.below, .bool _⟩
    | cons _ _ => exact (fail_ok (h := h) (c := c) hr).elim
  loc call xs hl := shutPrim_local
end
end Go.Ab
