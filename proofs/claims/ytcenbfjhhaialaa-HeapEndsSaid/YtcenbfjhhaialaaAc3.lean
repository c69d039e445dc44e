/- The abstract evaluator against the model: types, loads, stores. -/
import Derived.Test.YtcenbfjhhaialaaAc2
import Derived.Laws.Entries
import Derived.ChangeKeysEq
set_option linter.unusedVariables false
set_option linter.unusedSectionVars false
set_option linter.unusedSimpArgs false
set_option linter.unnecessarySimpa false
namespace Go.Ab
open Go.RowKit

/-- What the evaluator is told of the program is so. -/
structure CxOk (P : Program) (cx : Cx) : Prop where
  fn : ∀ f x, cx.fn f = some x → P.funcs[f]? = some x ∧ (x.name == "runtime.NumGoroutine") = false
  ty : ∀ t i, cx.ty t = some i → P.info? t = some i
  eqOk : ∀ t, cx.eqOk t = true → P.stoodInHeld t = false ∧ P.eqGuardType P.depth t = false

section
variable {P : Program} {cx : Cx} (hcx : CxOk P cx)
include hcx

theorem desc_ok {t : Nat} {d : TypeDesc} (h : cx.desc t = some d) : P.underlying t = some d := by
  unfold Cx.desc at h
  split at h
  · next i hi =>
    have hP := hcx.ty _ _ hi
    split at h
    · next s u hd =>
      split at h
      · next j hj =>
        have hQ := hcx.ty _ _ hj
        cases h
        obtain ⟨desc, rest⟩ := i
        simp only at hd; subst hd
        simp [Program.underlying, hP, hQ]
      · cases h
    · next d' hd =>
      cases h
      obtain ⟨desc, rest⟩ := i
      simp only at hd
      unfold Program.underlying
      rw [hP]
      cases desc <;> first | rfl | exact absurd rfl (hd _ _)
  · cases h
theorem size_ok {t k : Nat} (h : cx.size t = some k) : ∃ i, P.info? t = some i ∧ i.size = k := by
  unfold Cx.size at h
  split at h
  · next i hi => cases h; exact ⟨i, hcx.ty _ _ hi, rfl⟩
  · cases h
theorem zero_ok {t : Nat} {z : V} (h : cx.zero t = some z) : ∃ i v, P.info? t = some i ∧ i.zero = some v ∧ toV v = some z := by
  unfold Cx.zero at h
  split at h
  · next i hi =>
    split at h
    · next v hv => exact ⟨i, v, hcx.ty _ _ hi, hv, h⟩
    · cases h
  · cases h
theorem run_und {t : Nat} {d : TypeDesc} (h : cx.desc t = some d) (w : World) : (underlying t).run P w = .ok d w := run_underlying (desc_ok hcx h) w
theorem run_size {t k : Nat} (h : cx.size t = some k) (w : World) : (sizeOf t).run P w = .ok k w := by
  obtain ⟨i, hi, rfl⟩ := size_ok hcx h
  simp [Go.sizeOf, run_typeInfo w hi]
theorem run_zero {t : Nat} {z : V} (h : cx.zero t = some z) (φ : Nm) (w : World) : ∃ v, (zeroValue t).run P w = .ok v w ∧ VR φ z v := by
  obtain ⟨i, v, hi, hv, hz⟩ := zero_ok hcx h
  exact ⟨v, by simp [zeroValue, run_typeInfo w hi, hv], toV_ok hz⟩
theorem run_aggD {t : Nat} {d : TypeDesc} (h : cx.desc t = some d) (w : World) : (isAgg t).run P w = .ok (aggD d) w := by
  simp only [isAgg, Sem.run_bind, run_und hcx h, Result.andThen_ok]
  cases d <;> rfl
end

/-! ## Cells -/

theorem addr_add (b o n : Nat) : (⟨b, o, none⟩ : Addr).add n = ⟨b, o + n, none⟩ := by
  unfold Addr.add; split
  · next h => subst h; rfl
  · rfl

theorem cell_at {w : World} {b : Nat} {C : Array Value} {e : TypeId} {fr : Nat × Nat} (h : w.heap[b]? = some (.cells C e fr)) (i : Nat) :
    w.cell? ⟨b, i, none⟩ = C[i]? := by simp [World.cell?, h]
theorem frozen_at {w : World} {b : Nat} {C : Array Value} {e : TypeId} {fr : Nat × Nat} (h : w.heap[b]? = some (.cells C e fr)) (i : Nat) :
    w.frozen? ⟨b, i, none⟩ = (decide (fr.1 ≤ i) && decide (i < fr.2)) := by simp [World.frozen?, h]
theorem setCell_at {w : World} {b : Nat} {C : Array Value} {e : TypeId} {fr : Nat × Nat} (h : w.heap[b]? = some (.cells C e fr)) (i : Nat) (v : Value) :
    w.setCell ⟨b, i, none⟩ v = World.setBlk w b (.cells (C.setIfInBounds i v) e fr) := by
  unfold World.setCell World.setBlk
  congr 1
  apply Array.ext_getElem?
  intro k
  obtain ⟨hlt, hget⟩ := Array.getElem?_eq_some_iff.1 h
  by_cases hk : b = k
  · subst hk
    simp [Array.getElem_modify, hlt, hget]
  · simp [Array.getElem?_modify, hk]

def putAt : Array Value → Nat → List Value → Array Value
  | C, _, [] => C
  | C, p, u :: us => putAt (C.setIfInBounds p u) (p + 1) us
theorem putAt_size : ∀ (us : List Value) (C : Array Value) (p : Nat), (putAt C p us).size = C.size
  | [], _, _ => rfl
  | u :: us, C, p => by simp [putAt, putAt_size us]
theorem putAt_get : ∀ (us : List Value) (C : Array Value) (p i : Nat), p + us.length ≤ C.size →
    (putAt C p us)[i]? = if p ≤ i ∧ i < p + us.length then us[i - p]? else C[i]?
  | [], C, p, i, _ => by simp only [putAt, List.length_nil]; rw [if_neg (by omega)]
  | u :: us, C, p, i, h => by
    simp only [List.length_cons] at h
    rw [putAt, putAt_get us _ _ _ (by simp; omega)]
    by_cases h1 : p + 1 ≤ i ∧ i < p + 1 + us.length
    · rw [if_pos h1, if_pos (by simp only [List.length_cons]; omega)]
      obtain ⟨j, rfl⟩ : ∃ j, i = p + 1 + j := ⟨i - (p + 1), by omega⟩
      rw [show p + 1 + j - (p + 1) = j by omega, show p + 1 + j - p = j + 1 by omega]; simp
    · rw [if_neg h1]
      by_cases h2 : i = p
      · subst h2
        rw [if_pos (by simp only [List.length_cons]; omega)]
        rw [Array.getElem?_setIfInBounds]; simp; omega
      · rw [if_neg (by simp only [List.length_cons]; omega), Array.getElem?_setIfInBounds, if_neg (Ne.symm h2)]

theorem setBlk_setBlk (w : World) (b : Nat) (x y : Obj) : World.setBlk (World.setBlk w b x) b y = World.setBlk w b y := by
  unfold World.setBlk; simp
theorem heap_setBlk {w : World} {b : Nat} {x : Obj} (y : Obj) (h : w.heap[b]? = some x) : (World.setBlk w b y).heap[b]? = some y := by
  obtain ⟨hlt, _⟩ := Array.getElem?_eq_some_iff.1 h
  simp [World.setBlk, hlt]
theorem setBlk_same {w : World} {b : Nat} {x : Obj} (h : w.heap[b]? = some x) : World.setBlk w b x = w := by
  obtain ⟨hlt, hg⟩ := Array.getElem?_eq_some_iff.1 h
  unfold World.setBlk
  have : w.heap.setIfInBounds b x = w.heap := by
    apply Array.ext_getElem?; intro k
    by_cases hk : b = k
    · subst hk; simp [hlt, hg]
    · simp [hk]
  rw [this]

theorem run_storeCells_blk {P : Program} {b : Nat} {e : TypeId} {fr : Nat × Nat} (p : Nat) : ∀ (us : List Value) (i : Nat) (w : World) (C : Array Value),
    w.heap[b]? = some (.cells C e fr) → p + i + us.length ≤ C.size → (∀ u ∈ us, u.oneCell' = true) →
    (∀ j, p + i ≤ j → j < p + i + us.length → ¬ (fr.1 ≤ j ∧ j < fr.2)) →
    (storeCells ⟨b, p, none⟩ us i).run P w = .ok () (World.setBlk w b (.cells (putAt C (p + i) us) e fr))
  | [], i, w, C, h, _, _, _ => by simp [storeCells, putAt, setBlk_same h]
  | u :: us, i, w, C, h, hs, h1, hf => by
    simp only [List.length_cons] at hs hf
    have hlt : p + i < C.size := by omega
    have hcell : w.cell? ⟨b, p + i, none⟩ = some C[p + i] := by rw [cell_at h]; simp [hlt]
    have hfr : w.frozen? ⟨b, p + i, none⟩ = false := by
      rw [frozen_at h]
      have := hf (p + i) (by omega) (by omega)
      cases hh : (decide (fr.1 ≤ p + i) && decide (p + i < fr.2))
      · rfl
      · simp at hh; exact absurd hh this
    simp only [storeCells, Sem.run_bind, addr_add, run_store P w _ u .plain (h1 u (by simp)), hcell, hfr, Bool.false_eq_true, if_false, Result.andThen_ok]
    rw [setCell_at h]
    have ih := run_storeCells_blk (P := P) p us (i + 1) (World.setBlk w b (.cells (C.setIfInBounds (p + i) u) e fr)) (C.setIfInBounds (p + i) u) (heap_setBlk _ h) (by simp; omega)
      (fun x hx => h1 x (by simp [hx])) (fun j hj1 hj2 => hf j (by omega) (by omega))
    rw [ih, setBlk_setBlk]
    simp [putAt, Nat.add_assoc]

theorem ovr_length {α : Type} : ∀ (cs vs : List α), (ovr cs vs).length = cs.length
  | [], [] => rfl
  | [], _ :: _ => rfl
  | _ :: _, [] => rfl
  | _ :: cs, _ :: vs => by simp [ovr, ovr_length cs vs]
theorem setAll_length {α : Type} : ∀ (cs : List α) (o : Nat) (vs : List α), (setAll cs o vs).length = cs.length
  | cs, 0, vs => by cases cs <;> simp [setAll, ovr_length]
  | [], _ + 1, _ => rfl
  | _ :: cs, o + 1, vs => by simp [setAll, setAll_length cs o vs]
theorem ovr_get {α : Type} : ∀ (cs vs : List α) (i : Nat), vs.length ≤ cs.length → (ovr cs vs)[i]? = if i < vs.length then vs[i]? else cs[i]?
  | [], [], i, _ => by simp [ovr]
  | [], _ :: _, _, h => by simp at h
  | c :: cs, [], i, _ => by simp [ovr]
  | c :: cs, v :: vs, 0, _ => by simp [ovr]
  | c :: cs, v :: vs, i + 1, h => by simp [ovr, ovr_get cs vs i (by simpa using h)]
theorem setAll_get {α : Type} : ∀ (cs : List α) (o : Nat) (vs : List α) (i : Nat), o + vs.length ≤ cs.length →
    (setAll cs o vs)[i]? = if o ≤ i ∧ i < o + vs.length then vs[i - o]? else cs[i]?
  | cs, 0, vs, i, h => by
    have e : setAll cs 0 vs = ovr cs vs := by cases cs <;> rfl
    rw [e, ovr_get _ _ _ (by omega)]; simp
  | [], o + 1, vs, i, h => by simp at h
  | c :: cs, o + 1, vs, 0, h => by simp [setAll]
  | c :: cs, o + 1, vs, i + 1, h => by
    simp only [setAll, List.getElem?_cons_succ]
    rw [setAll_get cs o vs i (by simp at h; omega)]
    by_cases hh : o ≤ i ∧ i < o + vs.length
    · rw [if_pos hh, if_pos (by omega), show i + 1 - (o + 1) = i - o by omega]
    · rw [if_neg hh, if_neg (by omega)]

theorem one1_ok {φ : Nm} {v : V} {u : Value} (h : VR φ v u) (h1 : one1 v = true) : u.oneCell' = true := by
  cases h <;> first | rfl | (simp [one1] at h1)
theorem ones_ok {φ : Nm} : ∀ {vs : List V} {us : List Value}, VRs φ vs us → vs.all one1 = true → ∀ u ∈ us, u.oneCell' = true
  | _, _, .nil, _ => by simp
  | _, _, .cons a b, h => by
    simp only [List.all_cons, Bool.and_eq_true] at h
    intro u hu
    rcases List.mem_cons.1 hu with rfl | hu
    · exact one1_ok a h.1
    · exact ones_ok b h.2 u hu

section
variable {H : Type} [MapI H AObj] {P : Program} {ng : Nat} {w0 w : World} {φ : Nm} {h h' : H} {c c' : Nat} {l : List Acc}

theorem cut_ok {α : Type} {cs vs : List α} {o k : Nat} (h : cut cs o k = some vs) : o + k ≤ cs.length ∧ vs.length = k ∧ ∀ j, j < k → vs[j]? = cs[o + j]? := by
  unfold cut at h; split at h
  · next hl =>
    cases h
    refine ⟨hl, by simp; omega, fun j hj => ?_⟩
    simp [hj]
  · cases h

/-- Cells of a name are read: as they lie in the world. -/
theorem cells_of (r : Rel ng w0 φ h w) {n : Nat} {rw cl : Bool} {cs vs : List V} {L : Loc} (hn : MapI.get h n = some (.cells rw cl cs)) (hL : φ n = some L) {o k : Nat} (hc : cut cs o k = some vs) :
    ∃ us, us.length = k ∧ VRs φ vs us ∧ ∀ j u, us[j]? = some u → w.cell? ⟨L.blk, L.off + o + j, none⟩ = some u := by
  obtain ⟨K, hK, ho, _⟩ := r.obj n _ hn
  rw [hL] at hK; cases hK
  obtain ⟨C, e, fr, hb, hlen, hlim, hg, _⟩ := ho
  obtain ⟨hle, hvl, hvg⟩ := cut_ok hc
  refine ⟨(C.toList.drop (L.off + o)).take k, by simp; omega, ?_, ?_⟩
  · refine VRs.of_get (by simp; omega) fun i v hv => ?_
    have hi : i < k := by
      rcases Nat.lt_or_ge i k with h | h
      · exact h
      · rw [List.getElem?_eq_none (by omega)] at hv; cases hv
    rw [hvg i hi] at hv
    obtain ⟨u, h1, h2⟩ := hg _ _ hv
    refine ⟨u, ?_, h2⟩
    rw [List.getElem?_take, if_pos hi, List.getElem?_drop, Array.getElem?_toList, ← h1]
    congr 1; omega
  · intro j u hu
    have hj : j < k := by
      rcases Nat.lt_or_ge j k with h | h
      · exact h
      · rw [List.getElem?_eq_none (by simp; omega)] at hu; cases hu
    rw [cell_at hb]
    rw [List.getElem?_take, if_pos hj, List.getElem?_drop, Array.getElem?_toList] at hu
    exact hu

theorem loadC_ok (r : Rel ng w0 φ h w) {n o k : Nat} {vs : List V} (e : loadC n o k h c = .ok vs h' c' l) :
    h' = h ∧ c' = c ∧ vs.length = k ∧ ∃ L us, φ n = some L ∧ us.length = k ∧ VRs φ vs us ∧ (loadCells ⟨L.blk, L.off + o, none⟩ k).run P w = .ok us.toArray w ∧
      (∀ j u, us[j]? = some u → w.cell? ⟨L.blk, L.off + o + j, none⟩ = some u) := by
  unfold loadC at e
  obtain ⟨ob, h1, c1, l1, l2, e1, e2, _⟩ := bnd_ok e
  obtain ⟨hn, rfl, rfl, _⟩ := getM_ok e1
  cases ob with
  | cells rw cl cs =>
    obtain ⟨hc, rfl, rfl, _⟩ := lift_ok e2
    obtain ⟨L, hL, _⟩ := r.obj n _ hn
    obtain ⟨us, hlen, hv, hcell⟩ := cells_of r hn hL hc
    refine ⟨rfl, rfl, (cut_ok hc).2.1, L, us, hL, hlen, hv, ?_, hcell⟩
    have := run_loadCells_list (P := P) w ⟨L.blk, L.off + o, none⟩ us (fun j u hu => by rw [addr_add]; exact hcell j u hu)
    rw [hlen] at this; exact this
  | map _ _ _ => exact (fail_ok e2).elim
  | siter _ _ => exact (fail_ok e2).elim
  | miter _ _ _ _ => exact (fail_ok e2).elim
  | loop _ _ _ _ _ _ _ => exact (fail_ok e2).elim
  | defs => exact (fail_ok e2).elim
  | spent => exact (fail_ok e2).elim
  | dead => exact (fail_ok e2).elim

/-- What a store does to the abstract cells it does to the block. -/
theorem ObjR.stored {cs vs : List V} {us : List Value} {L : Loc} {C : Array Value} {e : TypeId} {fr : Nat × Nat} {cl : Bool} {o : Nat}
    (ho : ObjR φ (.cells true cl cs) L (some (.cells C e fr))) (hle : o + vs.length ≤ cs.length) (hv : VRs φ vs us) :
    ObjR φ (.cells true cl (setAll cs o vs)) L (some (.cells (putAt C (L.off + o) us) e fr)) := by
  obtain ⟨C', e', fr', hb, hlen, hlim, hg, hfz, hcl⟩ := ho
  cases hb
  have hl := hv.length
  refine ⟨_, _, _, rfl, by rw [setAll_length]; exact hlen, by rw [putAt_size]; exact hlim, fun i v hi => ?_, hfz, hcl⟩
  rw [setAll_get _ _ _ _ hle] at hi
  rw [putAt_get _ _ _ _ (by omega)]
  by_cases hh : o ≤ i ∧ i < o + vs.length
  · rw [if_pos hh] at hi
    obtain ⟨u, h1, h2⟩ := hv.get hi
    exact ⟨u, by rw [if_pos (by omega), show L.off + i - (L.off + o) = i - o by omega]; exact h1, h2⟩
  · rw [if_neg hh] at hi
    obtain ⟨u, h1, h2⟩ := hg _ _ hi
    exact ⟨u, by rw [if_neg (by omega)]; exact h1, h2⟩

theorem storeC_ok (r : Rel ng w0 φ h w) {n o : Nat} {vs : List V} {us : List Value} {u : Unit} (hv : VRs φ vs us) (e : storeC n o vs h c = .ok u h' c' l) :
    c' = c ∧ ∃ L w', φ n = some L ∧ (storeCells ⟨L.blk, L.off + o, none⟩ us).run P w = .ok () w' ∧ Rel ng w0 φ h' w' := by
  unfold storeC at e
  obtain ⟨ob, h1, c1, l1, l2, e1, e2, _⟩ := bnd_ok e
  obtain ⟨hn, rfl, rfl, _⟩ := getM_ok e1
  split at e2
  · next cl cs =>
    split at e2
    · next hle =>
      split at e2
      · next h1c =>
        obtain ⟨_, rfl, rfl, _⟩ := setM_ok e2
        obtain ⟨L, hL, ho, _⟩ := r.obj n _ hn
        have ho' := ho
        obtain ⟨C, e, fr, hb, hlen, hlim, hg, hfz, hcl⟩ := ho'
        rw [hb] at ho
        have hl := hv.length
        refine ⟨rfl, L, World.setBlk w L.blk (.cells (putAt C (L.off + o) us) e fr), hL, ?_, ?_⟩
        · exact run_storeCells_blk (L.off + o) us 0 w C hb (by omega) (ones_ok hv h1c) (fun j hj1 hj2 => hfz rfl j (by omega) (by omega))
        · exact r.setBlk hn rfl hL rfl (ho.stored hle hv)
      · exact (fail_ok e2).elim
    · exact (fail_ok e2).elim
  · exact (fail_ok e2).elim

/-! ## Values of a type -/

theorem VR.cells {v : V} {u : Value} (h : VR φ v u) : VRs φ (cellsV v) u.cells.toList := by
  cases h <;> first | (rename_i a; exact a) | (exact VRs.single (by constructor <;> assumption))

variable {cx : Cx} (hcx : CxOk P cx)
include hcx

theorem loadT_ok (r : Rel ng w0 φ h w) {t n o : Nat} {v : V} (e : loadT cx t n o h c = .ok v h' c' l) :
    h' = h ∧ c' = c ∧ ∃ L u, φ n = some L ∧ VR φ v u ∧ (loadVar t ⟨L.blk, L.off + o, none⟩).run P w = .ok u w := by
  unfold loadT at e
  cases hd : cx.desc t with
  | none => simp only [hd] at e; exact (fail_ok e).elim
  | some d =>
    simp only [hd] at e
    by_cases ha : aggD d = true
    · rw [if_pos ha] at e
      obtain ⟨k, h1, c1, l1, l2, e1, e2, _⟩ := bnd_ok e
      obtain ⟨hk, rfl, rfl, _⟩ := lift_ok e1
      obtain ⟨cs, h2, c2, l3, l4, e3, e4, _⟩ := bnd_ok e2
      obtain ⟨rfl, rfl, _, L, us, hL, hul, hv, hrun, _⟩ := loadC_ok (P := P) r e3
      obtain ⟨rfl, rfl, rfl, _⟩ := ret_ok e4
      refine ⟨rfl, rfl, L, .agg ⟨us⟩, hL, .agg hv, ?_⟩
      simp only [loadVar, Sem.run_bind, run_aggD hcx hd, ha, Result.andThen_ok, if_true, run_size hcx hk, hrun, Sem.run_pure]
    · rw [if_neg ha] at e
      obtain ⟨cs, h2, c2, l3, l4, e3, e4, _⟩ := bnd_ok e
      obtain ⟨rfl, rfl, hl1, L, us, hL, hul, hv, hrun, hcell⟩ := loadC_ok (P := P) r e3
      cases hv with
      | nil => exact (fail_ok e4).elim
      | cons a b =>
        cases b with
        | nil =>
          obtain ⟨rfl, rfl, rfl, _⟩ := ret_ok e4
          refine ⟨rfl, rfl, L, _, hL, a, ?_⟩
          have := hcell 0 _ (by simp; rfl)
          simp only [loadVar, Sem.run_bind, run_aggD hcx hd, Result.andThen_ok, ha, Bool.false_eq_true, if_false, run_load]
          rw [show L.off + o + 0 = L.off + o from rfl] at this
          rw [this]
        | cons _ _ => exact (fail_ok e4).elim

theorem storeT_ok (r : Rel ng w0 φ h w) {t n o : Nat} {v : V} {u : Value} {x : Unit} (hv : VR φ v u) (e : storeT cx t n o v h c = .ok x h' c' l) :
    c' = c ∧ ∃ L w', φ n = some L ∧ (storeVar t ⟨L.blk, L.off + o, none⟩ u).run P w = .ok () w' ∧ Rel ng w0 φ h' w' := by
  unfold storeT at e
  cases hk : cx.size t with
  | none => simp only [hk] at e; exact (fail_ok e).elim
  | some k =>
    simp only [hk] at e
    by_cases hl : (cellsV v).length = k
    · rw [if_pos hl] at e
      have hc := hv.cells
      obtain ⟨hc1, L, w', hL, hrun, hr⟩ := storeC_ok (P := P) r hc e
      refine ⟨hc1, L, w', hL, ?_, hr⟩
      have : u.cells.size = k := by rw [← hl, hc.length]; simp
      simp only [storeVar, Sem.run_bind, run_size hcx hk, Result.andThen_ok, this, ne_eq, not_true_eq_false, if_false, hrun]
    · rw [if_neg hl] at e; exact (fail_ok e).elim
end
end Go.Ab
