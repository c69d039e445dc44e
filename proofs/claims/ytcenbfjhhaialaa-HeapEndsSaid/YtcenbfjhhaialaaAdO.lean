/- slices.SortFunc of a row of pointers, as a 'prim': out of the kit's contract. The seat's 'prims'. -/
import Derived.Test.YtcenbfjhhaialaaAdO1
import Derived.Test.YtcenbfjhhaialaaAdK
import Derived.Shelf.SlSortCmp.NoneTotal
import Derived.Lib.SortBridge
set_option linter.unusedVariables false
set_option linter.unusedSectionVars false
set_option linter.unusedSimpArgs false
set_option linter.unnecessarySimpa false
namespace Go.Ab
open Go.RowKit Go.Shelf Go.Proofs

section
variable {H : Type} [MapI H AObj] {P : Program}
/-- What is asked of the program's slices.SortFunc and what compares. -/
structure FuncSorted (P : Program) (fS g : Nat) : Prop where
  enter : ∀ (args : Array Value) (w : World), (callFunc fS args).run P w = .ok (.enter fS args) w
  ok : ∀ (blk off cap : Nat) (ps : List (Addr × Int)) (W : World), ps ≠ [] → (∀ i p, ps[i]? = some p → W.cell? ⟨blk, off + i, none⟩ = some (.pointer (some p.1)) ∧ W.frozen? ⟨blk, off + i, none⟩ = false) →
    (∀ p ∈ ps, p.1.block ≠ blk ∧ p.1.block < W.heap.size ∧ W.cell? p.1 = some (.int .i64 p.2)) → (ps.map fun x => x.2).Nodup → blk < W.heap.size → ps.length ≤ 1000000 →
    Calls P fS #[.slice (some ⟨blk, off, none⟩) ps.length cap, .func (.func g) #[] #[]] W fun e w' => e = .returned (.tuple #[]) ∧
      ∃ q os, w' = Go.Sort.grow ((W.drewN q).setCells blk off ((sortP ps).map fun p => Value.pointer (some p.1))) os
  nil : ∀ (p : Option Addr) (cap : Nat) (w : World), Calls P fS #[.slice p 0 cap, .func (.func g) #[] #[]] w fun e w' => e = .returned (.tuple #[]) ∧ w' = w
theorem nodup_idx {l : List Int} (h : l.Nodup) {i j : Nat} {a : Int} (hi : l[i]? = some a) (hj : l[j]? = some a) : i = j := by
  obtain ⟨hi1, hi2⟩ := List.getElem?_eq_some_iff.1 hi
  obtain ⟨hj1, hj2⟩ := List.getElem?_eq_some_iff.1 hj
  have hp := List.pairwise_iff_getElem.1 h
  by_cases h1 : i < j
  · exact absurd (hi2.trans hj2.symm) (hp i j hi1 hj1 h1)
  · by_cases h2 : j < i
    · exact absurd (hj2.trans hi2.symm) (hp j i hj1 hi1 h2)
    · omega
theorem cmpLt (x y : Int) : decide (Lib.compareInt x y < 0) = decide (x < y) := by
  unfold Lib.compareInt
  by_cases h1 : x < y
  · simp [h1]
  · by_cases h2 : y < x <;> simp [h1, h2]
theorem funcSorted_of {ρ : Ren} (L : SlLaysF.n6 P ρ) {g : Nat} (ef : ∀ (args : Array Value) (w : World), (callFunc (ρ.f 6) args).run P w = .ok (.enter (ρ.f 6) args) w) (eg : ∀ args w, (callFunc g args).run P w = .ok (.enter g args) w)
    (hc : ∀ (a b : Addr) (x y : Int) (W : World), W.cell? a = some (.int .i64 x) → W.cell? b = some (.int .i64 y) → Calls P g #[.pointer (some a), .pointer (some b)] W fun e w' => e = .returned (.int .i64 (Lib.compareInt x y)) ∧ ∃ q, w' = W.drewN q) : FuncSorted P (ρ.f 6) g where
  enter := ef
  nil p cap w := AnyF.slices_SortFunc_none { L with } p cap _ w
  ok blk off cap ps W hne hrow hkey hnd hblk hlen := by
    have hm : 0 < ps.length := List.length_pos_iff.2 hne
    haveI : Inhabited (Fin ps.length) := ⟨⟨0, hm⟩⟩
    have hlt : ∀ i j, ltOf (fun i j : Fin ps.length => Lib.compareInt (ps.get i).2 (ps.get j).2) i j = decide ((ps.get i).2 < (ps.get j).2) := fun i j => by
      exact cmpLt _ _
    have hO : Go.Sort.SWO (ltOf fun i j : Fin ps.length => Lib.compareInt (ps.get i).2 (ps.get j).2) :=
      ⟨fun x => by rw [hlt, decide_eq_false_iff_not]; omega, fun x y z h1 h2 => by rw [hlt, decide_eq_true_eq] at *; omega, fun x y z h1 h2 => by rw [hlt, decide_eq_false_iff_not] at *; omega⟩
    have hT : ∀ x y, (ltOf fun i j : Fin ps.length => Lib.compareInt (ps.get i).2 (ps.get j).2) x y = false → (ltOf fun i j : Fin ps.length => Lib.compareInt (ps.get i).2 (ps.get j).2) y x = false → x = y := fun x y h1 h2 => by
      rw [hlt, decide_eq_false_iff_not] at h1 h2
      have e : (ps.get x).2 = (ps.get y).2 := by omega
      refine Fin.ext (nodup_idx hnd (a := (ps.get x).2) ?_ ?_)
      · rw [List.getElem?_map, List.getElem?_eq_getElem x.2]; rfl
      · rw [List.getElem?_map, List.getElem?_eq_getElem y.2, e]; rfl
    have hds : (Array.ofFn fun i : Fin ps.length => i).size = ps.length := Array.size_ofFn ..
    have hdl : (Array.ofFn fun i : Fin ps.length => i).toList.map (fun i => ps.get i) = ps := by
      refine List.ext_getElem (by simp) fun i h1 h2 => ?_
      simp
    have hH : Go.Sort.Holds (fun i : Fin ps.length => Value.pointer (some (ps.get i).1)) W blk off (Array.ofFn fun i : Fin ps.length => i) := fun j hj => by
      have hj' : j < ps.length := by rw [hds] at hj; exact hj
      have e : (Array.ofFn fun i : Fin ps.length => i)[j]! = ⟨j, hj'⟩ := by rw [getElem!_pos _ j hj]; simp
      rw [e]
      exact hrow j _ (List.getElem?_eq_getElem hj')
    have hcmp : CmpReads P g #[] (fun i : Fin ps.length => Value.pointer (some (ps.get i).1)) (fun i j : Fin ps.length => Lib.compareInt (ps.get i).2 (ps.get j).2) blk off (Array.ofFn fun i : Fin ps.length => i).size W := fun m os dk hs x y => by
      have key : ∀ i : Fin ps.length, (sortWorld (fun i : Fin ps.length => Value.pointer (some (ps.get i).1)) W blk off m dk os).cell? (ps.get i).1 = some (.int .i64 (ps.get i).2) := fun i => by
        obtain ⟨h2, h3, h4⟩ := hkey (ps.get i) (List.get_mem ..)
        unfold sortWorld
        rw [Go.Sort.cell?_grow _ _ _ (by rw [Go.Sort.size_putRow]; exact h3), Go.Sort.cell?_putRow_other _ _ _ _ _ _ (Or.inl h2)]
        exact h4
      exact hc _ _ _ _ _ (key x) (key y)
    have hS := Any.slices_SortFunc_total L (fun i : Fin ps.length => Value.pointer (some (ps.get i).1)) (fun _ => rfl) (fun i j : Fin ps.length => Lib.compareInt (ps.get i).2 (ps.get j).2) hO g #[] blk off cap (Array.ofFn fun i : Fin ps.length => i) W eg hcmp.lays hH hblk (by rw [hds]; omega) hT
    have hle : (fun x y : Fin ps.length => !(ltOf fun i j : Fin ps.length => Lib.compareInt (ps.get i).2 (ps.get j).2) y x) = fun x y => decide ((ps.get x).2 ≤ (ps.get y).2) := by
      funext x y
      rw [hlt]
      by_cases h : (ps.get x).2 ≤ (ps.get y).2
      · have h' : ¬ (ps.get y).2 < (ps.get x).2 := by omega
        simp only [h, h', decide_true, decide_false, Bool.not_false]
      · have h' : (ps.get y).2 < (ps.get x).2 := by omega
        simp only [h, h', decide_true, decide_false, Bool.not_true]
    rw [hle, hds] at hS
    have hys : ((Array.ofFn fun i : Fin ps.length => i).toList.mergeSort fun x y => decide ((ps.get x).2 ≤ (ps.get y).2)).map (fun i => ps.get i) = sortP ps := by
      refine sortP_eq ?_ hnd ?_
      · have := (List.mergeSort_perm (Array.ofFn fun i : Fin ps.length => i).toList fun x y => decide ((ps.get x).2 ≤ (ps.get y).2)).map fun i => ps.get i
        rw [hdl] at this
        exact this
      · refine List.pairwise_map.2 ((List.pairwise_mergeSort (le := fun x y : Fin ps.length => decide ((ps.get x).2 ≤ (ps.get y).2)) (fun a b c h1 h2 => ?_) (fun a b => ?_) _).imp fun h => of_decide_eq_true h)
        · rw [decide_eq_true_eq] at *; omega
        · rw [Bool.or_eq_true, decide_eq_true_eq, decide_eq_true_eq]; omega
    refine hS.mono fun e w' ⟨he, n, os, hw⟩ => ⟨he, n, os, ?_⟩
    rw [hw, ← hys, List.map_map]
    exact Go.Lib.sorted_world (fun i : Fin ps.length => Value.pointer (some (ps.get i).1)) W blk off n _ _ os hH (by rw [List.length_mergeSort]; simp)

/-! ## The 'prim' -/
theorem keysM_ok {n : Nat} : ∀ {vs : List V} {h h' : H} {c c' : Nat} {l : List Acc} {ps : List ((Nat × Nat) × Int)}, keysM n vs h c = .ok ps h' c' l →
    h' = h ∧ c' = c ∧ vs = ps.map ptrOf ∧ ∀ p ∈ ps, p.1.1 ≠ n ∧ ∃ cl cs, MapI.get h p.1.1 = some (.cells true cl cs) ∧ cs[p.1.2]? = some (.int .i64 p.2)
  | [], h, h', c, c', l, ps, e => by
    obtain ⟨rfl, rfl, rfl, _⟩ := ret_ok e
    exact ⟨rfl, rfl, rfl, fun p hp => by cases hp⟩
  | v :: vs, h, h', c, c', l, ps, e => by
    unfold keysM at e
    cases v <;> try exact (fail_ok e).elim
    rename_i po
    cases po with
    | none => exact (fail_ok e).elim
    | some bo =>
    obtain ⟨b, o⟩ := bo
    obtain ⟨ob, h1, c1, l1, l2, e1, e2, _⟩ := bnd_ok e
    obtain ⟨hg, rfl, rfl, _⟩ := getM_ok e1
    cases ob <;> try exact (fail_ok e2).elim
    rename_i rw cl cs
    cases rw
    · exact (fail_ok e2).elim
    simp only at e2
    cases hk : cs[o]? with
    | none => rw [hk] at e2; exact (fail_ok e2).elim
    | some x =>
    rw [hk] at e2
    cases x <;> try exact (fail_ok e2).elim
    rename_i ki k
    cases ki <;> try exact (fail_ok e2).elim
    simp only at e2
    cases hb : Nat.beq b n with
    | true =>
      rw [hb] at e2
      simp only [Bool.true_eq_false, if_false] at e2
      exact (fail_ok e2).elim
    | false =>
    rw [hb] at e2
    simp only [if_true] at e2
    obtain ⟨qs, h2, c2, l3, l4, e3, e4, _⟩ := bnd_ok e2
    obtain ⟨rfl, rfl, hq1, hq2⟩ := keysM_ok e3
    obtain ⟨rfl, rfl, rfl, _⟩ := ret_ok e4
    refine ⟨rfl, rfl, by rw [hq1]; rfl, fun p hp => ?_⟩
    rcases List.mem_cons.1 hp with rfl | hp
    · exact ⟨fun e => (by rw [show b = n from e, Nat.beq_refl] at hb; cases hb), cl, cs, hg, hk⟩
    · exact hq2 p hp
/-- Where a named place lies. -/
def addrOf (φ : Nm) (p : Nat × Nat) : Addr := match φ p.1 with
  | some L => ⟨L.blk, L.off + p.2, none⟩
  | none => ⟨0, 0, none⟩
theorem vr_addrOf {φ : Nm} {p : (Nat × Nat) × Int} {u : Value} (h : VR φ (ptrOf p) u) : u = .pointer (some (addrOf φ p.1)) := by
  obtain ⟨⟨b, o⟩, k⟩ := p
  cases h with
  | ptr _ hL => unfold addrOf; simp only [hL]
theorem vrs_addrOf {φ : Nm} : ∀ {l : List ((Nat × Nat) × Int)}, (∀ p ∈ l, ∃ L, φ p.1.1 = some L) → VRs φ (l.map ptrOf) (l.map fun p => Value.pointer (some (addrOf φ p.1)))
  | [], _ => .nil
  | ((b, o), k) :: l, h => by
    refine .cons ?_ (vrs_addrOf fun p hp => h p (List.mem_cons_of_mem _ hp))
    obtain ⟨L, hL⟩ := h _ (List.mem_cons_self ..)
    have e : addrOf φ (b, o) = ⟨L.blk, L.off + o, none⟩ := by unfold addrOf; simp only [show φ b = some L from hL]
    show VR φ (.ptr (some (b, o))) (.pointer (some (addrOf φ (b, o))))
    rw [e]
    exact .ptr o hL
theorem setCells_blk {b : Nat} {e : TypeId} {fr : Nat × Nat} : ∀ {us : List Value} {o : Nat} {w : World} {C : Array Value}, w.heap[b]? = some (.cells C e fr) → w.setCells b o us = World.setBlk w b (.cells (putAt C o us) e fr)
  | [], o, w, C, h => by simp [World.setCells, putAt, setBlk_same h]
  | u :: us, o, w, C, h => by
    unfold World.setCells putAt
    rw [setCell_at h, setCells_blk (heap_setBlk _ h), setBlk_setBlk]
theorem below_grow {w : World} {os : Array Obj} : Below w.heap.size w (Go.Sort.grow w os) :=
  ⟨rfl, rfl, rfl, by simp [Go.Sort.grow], fun k hk => Go.Sort.heap_grow_old w os hk⟩
theorem cmpPrim_ok {fS : Nat} {gs : List Nat} (hS : ∀ g ∈ gs, FuncSorted P fS g) (w0 : World) : PrimOk P 0 w0 fS (cmpPrim (H := H) gs) where
  loc call xs hl := cmpPrim_local
  ok call hc hl xs h c v h' c' l φ w xs' hr r hx hf := by
    unfold cmpPrim at hr
    split at hr
    rotate_left
    · exact (fail_ok hr).elim
    next s len cap g =>
    cases hx with | @cons _ u _ _ hx1 hx2 => ?_
    cases hx2 with | cons hx3 hx4 => ?_
    cases hx4
    cases hx3 with | func hfa hfb => ?_
    cases hfa
    cases hfb
    split at hr
    rotate_left
    · exact (fail_ok hr).elim
    next hg =>
    have K := hS g (hasN_mem hg)
    split at hr
    · obtain ⟨rfl, rfl, rfl, _⟩ := ret_ok hr
      have : ∃ p cp, u = Value.slice p 0 cp := by cases hx1 <;> exact ⟨_, _, rfl⟩
      obtain ⟨p, cp, rfl⟩ := this
      exact .inl ⟨K.enter _ _, (K.nil p cp w).mono fun e w' ⟨he, hw⟩ => ⟨_, he, φ, .refl _ _ _, Nat.le_refl _, by rw [hw]; exact r, .tuple .nil⟩⟩
    · next len =>
      split at hr
      rotate_left
      · exact (fail_ok hr).elim
      next n =>
      obtain ⟨ob, h1, c1, l1, l2, e1, e2, _⟩ := bnd_ok hr
      obtain ⟨hgn, rfl, rfl, _⟩ := getM_ok e1
      split at e2
      rotate_left
      · exact (fail_ok e2).elim
      next cl cs =>
      obtain ⟨ps, h2, c2, l3, l4, e3, e4, _⟩ := bnd_ok e2
      obtain ⟨rfl, rfl, hps, hkeys⟩ := keysM_ok e3
      split at e4
      rotate_left
      · exact (fail_ok e4).elim
      next hgood =>
      obtain ⟨_, h3, c3, l5, l6, e5, e6, _⟩ := bnd_ok e4
      obtain ⟨_, rfl, rfl, _⟩ := setM_ok e5
      obtain ⟨rfl, rfl, rfl, _⟩ := ret_ok e6
      unfold goodKeys at hgood
      rw [Bool.and_eq_true, Bool.and_eq_true] at hgood
      obtain ⟨⟨hg1, hg2⟩, hg3⟩ := hgood
      have hg1 := Nat.le_of_ble_eq_true hg1
      have hg2 := Nat.le_of_ble_eq_true hg2
      have hnd := noDupZ_ok hg3
      have hpl : ps.length = len + 1 := by
        have := congrArg List.length hps
        rw [List.length_take, List.length_map] at this
        omega
      have hsl : ∃ L cp, φ n = some L ∧ u = Value.slice (some ⟨L.blk, L.off + 0, none⟩) (len + 1) cp := by
        cases hx1 with
        | sliceK _ _ _ hL _ => exact ⟨_, _, hL, rfl⟩
        | sliceU _ _ _ _ hL _ _ _ => exact ⟨_, _, hL, rfl⟩
      obtain ⟨L, cp, hL, rfl⟩ := hsl
      obtain ⟨L', hL', hob, _⟩ := r.obj n _ hgn
      rw [hL] at hL'; cases hL'
      have hob' := hob
      obtain ⟨C, ce, fr, hb, hlen, hlim, hcell, hfz, hcl⟩ := hob'
      rw [hb] at hob
      have hblk := r.lt hgn rfl hL
      have hcs : ∀ i p, ps[i]? = some p → cs[i]? = some (ptrOf p) := fun i p hi => by
        have hil := (List.getElem?_eq_some_iff.1 hi).1
        have := congrArg (fun l : List V => l[i]?) hps
        simp only [List.getElem?_take, List.getElem?_map, hi, Option.map_some] at this
        rwa [if_pos (by omega)] at this
      have hrow : ∀ i p, (ps.map fun p => (addrOf φ p.1, p.2))[i]? = some p → w.cell? ⟨L.blk, L.off + 0 + i, none⟩ = some (.pointer (some p.1)) ∧ w.frozen? ⟨L.blk, L.off + 0 + i, none⟩ = false := fun i p hi => by
        rw [List.getElem?_map] at hi
        cases hpi : ps[i]? with
        | none => rw [hpi] at hi; cases hi
        | some p' =>
          rw [hpi] at hi
          cases hi
          have hil := (List.getElem?_eq_some_iff.1 hpi).1
          obtain ⟨u, hu, hv⟩ := hcell i _ (hcs i p' hpi)
          rw [vr_addrOf hv] at hu
          refine ⟨by rw [cell_at hb, Nat.add_zero]; exact hu, ?_⟩
          rw [frozen_at hb]
          have := hfz rfl (L.off + 0 + i) (by omega) (by omega)
          cases hh : (decide (fr.1 ≤ L.off + 0 + i) && decide (L.off + 0 + i < fr.2))
          · rfl
          · simp at hh; exact absurd hh (by simpa using this)
      have hnm : ∀ p ∈ ps, ∃ K, φ p.1.1 = some K := fun p hp => by
        obtain ⟨_, cl', cs', hgp, _⟩ := hkeys p hp
        obtain ⟨K, hK, _⟩ := r.obj _ _ hgp
        exact ⟨K, hK⟩
      have hkey : ∀ p ∈ ps.map (fun p => (addrOf φ p.1, p.2)), p.1.block ≠ L.blk ∧ p.1.block < w.heap.size ∧ w.cell? p.1 = some (.int .i64 p.2) := fun p hp => by
        obtain ⟨⟨⟨b, o⟩, k⟩, hpm, rfl⟩ := List.mem_map.1 hp
        obtain ⟨hne, cl', cs', hgp, hk⟩ := hkeys _ hpm
        obtain ⟨K, hK, ⟨C', ce', fr', hb', _, _, hc', _, _⟩, _⟩ := r.obj _ _ hgp
        obtain ⟨u, hu, hv⟩ := hc' _ _ hk
        cases hv
        have e : addrOf φ (b, o) = ⟨K.blk, K.off + o, none⟩ := by unfold addrOf; simp only [show φ b = some K from hK]
        simp only [e]
        exact ⟨fun e => r.apart _ _ _ _ _ _ hne hgp hgn rfl rfl hK hL e, r.lt hgp rfl hK, by rw [cell_at hb']; exact hu⟩
      have hnd' : ((ps.map fun p => (addrOf φ p.1, p.2)).map fun x => x.2).Nodup := by rw [List.map_map]; exact hnd
      have hS := K.ok L.blk (L.off + 0) cp (ps.map fun p => (addrOf φ p.1, p.2)) w (fun e => by have := congrArg List.length e; rw [List.length_map, hpl] at this; cases this) hrow hkey hnd' hblk (by rw [List.length_map]; omega)
      rw [List.length_map, hpl] at hS
      refine .inl ⟨K.enter _ _, hS.mono fun e w' ⟨he, q, os, hw⟩ => ⟨_, he, φ, .refl _ _ _, Nat.le_refl _, ?_, .tuple .nil⟩⟩
      rw [sortP_map (addrOf φ), List.map_map] at hw
      have hv : VRs φ ((sortP ps).map ptrOf) ((sortP ps).map fun p => Value.pointer (some (addrOf φ p.1))) := vrs_addrOf fun p hp => hnm p (sortP_perm.mem_iff.1 hp)
      have hb1 : (w.drewN q).heap[L.blk]? = some (.cells C ce fr) := hb
      have r1 : Rel 0 w0 φ _ (w.drewN q) := r.drew _
      have r2 := r1.setBlk hgn rfl hL rfl (hob.stored (o := 0) (by rw [List.length_map, sortP_perm.length_eq]; omega) hv)
      rw [← setCells_blk hb1] at r2
      have r3 := r2.carry (below_grow (os := os))
      rw [hw]
      exact r3
/-- The seat's 'prims'. -/
theorem seatPrims_ok (F : Fit P) {l : List Nat} {s t : List (Nat × List Nat)} {kt : TypeId} (hl : ∀ f ∈ l, ∃ (n : Nat) (fn : Func) (code : Code), P.funcs[f]? = some fn ∧ fn.body = some code ∧ isTrue (evFn (H := Tr AObj) (Tr V) (cxOf P) (seatPrims [] s t) n (.fn f) [] MapI.emp 0) = true)
    (hs : ∀ f gs, findF f s = some gs → ∀ g ∈ gs, KeysSorted P f g kt) (ht : ∀ f gs, findF f t = some gs → ∀ g ∈ gs, FuncSorted P f g) : ∀ w f m, seatPrims (H := H) l s t f = some m → PrimOk P 0 w f m := fun w f m hm => by
  unfold seatPrims at hm
  split at hm
  · next gs hg => cases hm; exact sortedPrim_ok (hs f gs hg) w
  · split at hm
    · next gs hg => cases hm; exact cmpPrim_ok (ht f gs hg) w
    · unfold shutPrims at hm
      split at hm
      · next hc =>
        cases hm
        obtain ⟨n, fn, code, h1, h2, h3⟩ := hl f (by simpa using hc)
        refine shutPrim_okP F (fun w f m hm => ?_) h1 h2 h3 w
        unfold seatPrims at hm
        split at hm
        · next gs hg => cases hm; exact sortedPrim_ok (hs f gs hg) w
        · split at hm
          · next gs hg => cases hm; exact cmpPrim_ok (ht f gs hg) w
          · simp [shutPrims] at hm
      · cases hm
end
end Go.Ab
