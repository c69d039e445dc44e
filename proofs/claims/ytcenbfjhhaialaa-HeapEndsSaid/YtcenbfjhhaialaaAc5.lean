/- The abstract evaluator against the model: operations on memory. -/
import Derived.Test.YtcenbfjhhaialaaAc4
import Derived.Laws.Tables
import Derived.Great.BuildSlice
import Derived.Laws.Append
import Derived.IntWalk
set_option linter.unusedVariables false
set_option linter.unusedSectionVars false
set_option linter.unusedSimpArgs false
set_option linter.unnecessarySimpa false
namespace Go.Ab
open Go.RowKit

section
variable {H : Type} [MapI H AObj] {P : Program} {ng : Nat} {w0 w : World} {φ : Nm} {h h' : H} {c c' : Nat} {l : List Acc}

/-- An operation's value comes, in a world for which the heap behind it stands. -/
def Done (P : Program) (ng : Nat) (w0 : World) (φ : Nm) (c c' : Nat) (h' : H) (w : World) (v : V) (s : Sem Value) : Prop :=
  ∃ φ' u w', Ext φ φ' c c' ∧ c ≤ c' ∧ Rel ng w0 φ' h' w' ∧ VR φ' v u ∧ s.run P w = .ok u w'

theorem Done.here {v : V} {u : Value} {s : Sem Value} (r : Rel ng w0 φ h w) (hv : VR φ v u) (hs : s.run P w = .ok u w) : Done P ng w0 φ c c h w v s :=
  ⟨φ, u, w, Ext.refl _ _ _, Nat.le_refl _, r, hv, hs⟩

def Fresh (φ : Nm) (c c' : Nat) : Prop := ∀ n, c ≤ n → n < c' → φ n = none

/-- New cells, some of them known. -/
theorem Rel.newRow (r : Rel ng w0 φ h w) {vs : List V} {C : Array Value} {e : TypeId} {fr : Nat × Nat} {cl : Bool} (hc : φ c = none) (hlen : vs.length ≤ C.size)
    (hv : ∀ (i : Nat) v, vs[i]? = some v → ∃ u, C[i]? = some u ∧ VR φ v u) (hfr : ∀ j, j < C.size → ¬ (fr.1 ≤ j ∧ j < fr.2)) (hcl : cl = true → fr = (0, 0)) :
    Rel ng w0 (φ.put c ⟨w.heap.size, 0, C.size⟩) (MapI.set h c (.cells true cl vs)) (w.alloc (.cells C e fr)) := by
  refine r.alloc hc rfl rfl ⟨C, e, fr, rfl, by simpa using hlen, Nat.le_refl _, fun i v hi => ?_, fun _ j _ hj => hfr j hj, fun h => ⟨hcl h, rfl⟩⟩
  obtain ⟨u, h1, h2⟩ := hv i v hi
  exact ⟨u, by simpa using h1, h2.mono (Ext.put _ hc).mono⟩
theorem Rel.newCells (r : Rel ng w0 φ h w) {vs : List V} {us : List Value} {e : TypeId} (hc : φ c = none) (hv : VRs φ vs us) :
    Rel ng w0 (φ.put c ⟨w.heap.size, 0, us.length⟩) (MapI.set h c (.cells true true vs)) (w.alloc (.cells ⟨us⟩ e)) :=
  r.newRow (C := ⟨us⟩) (cl := true) hc (by simp [hv.length]) (fun i v hi => by obtain ⟨u, h1, h2⟩ := hv.get hi; exact ⟨u, by simpa using h1, h2⟩) (fun j _ => by simp) (fun _ => rfl)

theorem put_get {φ : Nm} {n : Nat} {L : Loc} : (φ.put n L) n = some L := by simp [Nm.put]

/-! ## Filling -/

theorem foldl_put : ∀ (vs : List Value) (k off : Nat) (C : Array Value), (vs.zipIdx k).foldl (fun cs (x : Value × Nat) => cs.setIfInBounds (off + x.2) x.1) C = putAt C (off + k) vs
  | [], _, _, _ => rfl
  | v :: vs, k, off, C => by simp only [List.zipIdx_cons, List.foldl_cons, putAt]; rw [foldl_put vs (k + 1) off]; rfl
theorem VRs.put {cs vs : List V} {us ws : List Value} {o : Nat} (h1 : VRs φ cs us) (h2 : VRs φ vs ws) (hle : o + vs.length ≤ cs.length) :
    VRs φ (setAll cs o vs) (putAt ⟨us⟩ o ws).toList := by
  have l1 := h1.length; have l2 := h2.length
  have l3 : (putAt ⟨us⟩ o ws).toList.length = us.length := by rw [Array.length_toList, putAt_size]; rfl
  refine VRs.of_get (by rw [setAll_length, l3]; exact l1) fun i v hi => ?_
  rw [setAll_get _ _ _ _ hle] at hi
  rw [Array.getElem?_toList, putAt_get _ _ _ _ (by simp; omega)]
  by_cases hh : o ≤ i ∧ i < o + vs.length
  · rw [if_pos hh] at hi
    obtain ⟨u, a, b⟩ := h2.get hi
    exact ⟨u, by rw [if_pos (by omega)]; exact a, b⟩
  · rw [if_neg hh] at hi
    obtain ⟨u, a, b⟩ := h1.get hi
    exact ⟨u, by rw [if_neg (by omega)]; simpa using a, b⟩

/-- Parts, as they are. -/
inductive PRs (φ : Nm) : List (Nat × V) → List (Nat × Value) → Prop where
  | nil : PRs φ [] []
  | cons {i : Nat} {v : V} {u : Value} {vs : List (Nat × V)} {us : List (Nat × Value)} : VR φ v u → PRs φ vs us → PRs φ ((i, v) :: vs) ((i, u) :: us)

theorem fillV_ok (place place' : Nat → Option (Nat × Nat)) (hpl : place = place') : ∀ {ps : List (Nat × V)} {qs : List (Nat × Value)} {cs out : List V} {us : List Value}, PRs φ ps qs → VRs φ cs us →
    fillV place cs ps = some out → ∃ C, Instr.fill place' ⟨us⟩ qs = some C ∧ VRs φ out C.toList
  | _, _, cs, out, us, .nil, hc, h => by unfold fillV at h; cases h; exact ⟨⟨us⟩, rfl, hc⟩
  | _, _, cs, out, us, .cons (i := i) (v := v) (u := u) (us := qs) hv hr, hc, h => by
    subst hpl
    unfold fillV at h
    split at h
    · cases h
    · next off size hp =>
      split at h
      · next hh =>
        have hcc := hv.cells
        have hl := hcc.length; have hl2 := hc.length
        obtain ⟨C, h1, h2⟩ := fillV_ok place place rfl hr (VRs.put hc hcc (by omega)) h
        refine ⟨C, ?_, h2⟩
        have hsz : u.cells.size = size := by simp at hl; omega
        have e1 : ¬ (u.cells.size ≠ size) := by simp [hsz]
        unfold Instr.fill
        simp only [hp]
        rw [if_neg]
        · rw [← Array.foldl_toList, Array.toList_zipIdx, foldl_put]
          exact h1
        · simp [hsz]; omega
      · cases h

theorem reps_length {α : Type} : ∀ (n : Nat) (l : List α), (reps n l).length = n * l.length
  | 0, _ => by simp [reps]
  | n + 1, l => by simp [reps, reps_length n l, Nat.succ_mul]; omega
theorem reps_get {α : Type} : ∀ (n : Nat) (l : List α) (i : Nat), 0 < l.length → i < n * l.length → (reps n l)[i]? = l[i % l.length]?
  | 0, l, i, _, h => by simp at h
  | n + 1, l, i, hp, h => by
    rw [reps]
    by_cases hi : i < l.length
    · rw [List.getElem?_append_left hi, Nat.mod_eq_of_lt hi]
    · rw [List.getElem?_append_right (by omega), reps_get n l (i - l.length) hp (by rw [Nat.succ_mul] at h; omega)]
      congr 1
      rw [Nat.mod_eq_sub_mod (Nat.le_of_not_lt hi)]
theorem VRs.reps {zs : List V} {Z : Array Value} (h : VRs φ zs Z.toList) (n m : Nat) (hm : zs.length = m) (hp : 0 < m) :
    VRs φ (Ab.reps n zs) ((Array.range (n * m)).map (fun i => Z[i % Z.size]!)).toList := by
  have hl := h.length
  have hZ : Z.size = m := by simp at hl; omega
  refine VRs.of_get (by rw [reps_length]; simp [hm]) fun i v hi => ?_
  have hlt : i < n * m := by
    rcases Nat.lt_or_ge i (n * m) with h | h
    · exact h
    · rw [List.getElem?_eq_none (by rw [reps_length, hm]; exact h)] at hi; cases hi
  rw [reps_get n zs i (by omega) (by rw [hm]; exact hlt), hm] at hi
  obtain ⟨u, h1, h2⟩ := h.get hi
  refine ⟨u, ?_, h2⟩
  have hmod : i % m < Z.size := by rw [hZ]; exact Nat.mod_lt _ hp
  rw [Array.getElem?_toList, Array.getElem?_map]
  have : (Array.range (n * m))[i]? = some i := by simp [hlt]
  rw [this]
  simp only [Option.map_some, hZ]
  rw [Array.getElem?_toList] at h1
  congr 1
  rw [getElem!_pos Z (i % m) hmod]
  rw [Array.getElem?_eq_getElem hmod] at h1
  exact Option.some.inj h1

theorem wrap_small (n : Int) (h0 : 0 ≤ n) (h1 : n ≤ 1000000000) : IntKind.i64.wrap n = n := IntWalk.i64_in n (by omega)

variable {cx : Cx} (hcx : CxOk P cx)
include hcx

theorem placesV_ok : ∀ {fs : List Field} {ps : List (Nat × Nat)}, placesV cx fs = some ps → fs.mapM (fun f => (P.info? f.type).map fun i => (f.offset, i.size)) = some ps
  | [], ps, h => by unfold placesV at h; cases h; rfl
  | f :: fs, ps, h => by
    unfold placesV at h
    split at h
    · next k r hk hr =>
      cases h
      obtain ⟨i, hi, rfl⟩ := size_ok hcx hk
      simp [List.mapM_cons, hi, placesV_ok hr]
    · cases h

theorem buildV_ok {t : Nat} {ps : List (Nat × V)} {qs : List (Nat × Value)} {v : V} (hp : PRs φ ps qs) (e : buildV cx t ps = some v) :
    ∃ u, VR φ v u ∧ (Instr.build t ⟨qs⟩).run P w = .ok u w := by
  unfold buildV at e
  split at e
  · next z fields hz hd =>
    obtain ⟨i, zv, hi, hiz, hzv⟩ := zero_ok hcx hz
    cases hpl : placesV cx fields.toList with
    | none => simp only [hpl] at e; cases e
    | some pl =>
      simp only [hpl, Option.map_eq_some_iff] at e
      obtain ⟨out, h1, rfl⟩ := e
      obtain ⟨C, h2, h3⟩ := fillV_ok (fun i => nth pl i) (fun i => pl.toArray[i]?) (by funext i; rw [nth_eq]; simp) hp ((toV_ok hzv).cells (φ := φ)) h1
      refine ⟨.agg C, .agg h3, run_build w t ⟨qs⟩ C ?_⟩
      unfold Program.built
      simp only [hi, desc_ok hcx hd, hiz, placesV_ok hcx hpl]
      exact h2
  · next z n el hz hd =>
    obtain ⟨i, zv, hi, hiz, hzv⟩ := zero_ok hcx hz
    cases hk : cx.size el with
    | none => simp only [hk] at e; cases e
    | some k =>
      simp only [hk, Option.map_eq_some_iff] at e
      obtain ⟨out, h1, rfl⟩ := e
      obtain ⟨ie, hie, rfl⟩ := size_ok hcx hk
      obtain ⟨C, h2, h3⟩ := fillV_ok (fun i => some (i * ie.size, ie.size)) (fun i => some (i * ie.size, ie.size)) rfl hp ((toV_ok hzv).cells (φ := φ)) h1
      refine ⟨.agg C, .agg h3, run_build w t ⟨qs⟩ C ?_⟩
      unfold Program.built
      simp only [hi, desc_ok hcx hd, hiz, hie]
      exact h2
  · cases e

theorem zeroRow_ok {e n : Nat} {z : List V} (h : zeroRow cx e n = some z) : ∃ i zv, P.info? e = some i ∧ i.zero = some zv ∧ 0 < i.size ∧ zv.cells.size = i.size ∧ z.length = n * i.size ∧
    ∀ φ, VRs φ z ((Array.range (n * i.size)).map (fun j => zv.cells[j % zv.cells.size]!)).toList := by
  unfold zeroRow at h
  split at h
  · next k z' hk hz =>
    split at h
    · next hl =>
      cases h
      obtain ⟨i, hi, his⟩ := size_ok hcx hk
      obtain ⟨i', zv, hi', hiz, hzv⟩ := zero_ok hcx hz
      rw [hi] at hi'; cases hi'
      have hc := fun φ => (toV_ok (φ := φ) hzv).cells
      have hlen := (hc (fun _ => none)).length
      refine ⟨i, zv, hi, hiz, by omega, by simp at hlen; omega, by rw [reps_length]; rw [hl, his], fun φ => ?_⟩
      exact (hc φ).reps n i.size (by omega) (by omega)
    · cases h
  · cases h

theorem buildSliceM_ok (r : Rel ng w0 φ h w) {t len : Nat} {ps : List (Nat × V)} {qs : List (Nat × Value)} {v : V} (hp : PRs φ ps qs) (e : buildSliceM cx t len ps h c = .ok v h' c' l)
    (hf : Fresh φ c c') : Done P ng w0 φ c c' h' w v (Instr.buildSlice t len ⟨qs⟩) := by
  unfold buildSliceM at e
  cases hd : cx.desc t with
  | none => simp only [hd] at e; exact (fail_ok e).elim
  | some d =>
    simp only [hd] at e
    cases d
    case slice el =>
      simp only at e
      cases hk : cx.size el with
      | none => simp only [hk] at e; exact (fail_ok e).elim
      | some k =>
        cases hz : zeroRow cx el len with
        | none => simp only [hk, hz] at e; exact (fail_ok e).elim
        | some z =>
          simp only [hk, hz] at e
          obtain ⟨i, zv, hi, hiz, hpos, hzs, hzl, hzr⟩ := zeroRow_ok hcx hz
          obtain ⟨i', hi', his⟩ := size_ok hcx hk
          rw [hi] at hi'; cases hi'; subst his
          by_cases hs : len * i.size ≤ 16777216
          · rw [if_pos hs] at e
            obtain ⟨cs, h1, c1, l1, l2, e1, e2, _⟩ := bnd_ok e
            obtain ⟨hfil, rfl, rfl, _⟩ := lift_ok e1
            obtain ⟨n, h2, c2, l3, l4, e3, e4, _⟩ := bnd_ok e2
            obtain ⟨rfl, rfl, rfl, _⟩ := newM_ok e3
            obtain ⟨rfl, rfl, rfl, _⟩ := ret_ok e4
            obtain ⟨C, h5, h6⟩ := fillV_ok (fun j => some (j * i.size, i.size)) (fun j => some (j * i.size, i.size)) rfl hp (hzr φ) hfil
            have hc := hf n (by omega) (by omega)
            have hr := r.newCells (c := n) (e := el) hc h6
            refine ⟨_, .slice (some ⟨w.heap.size, 0, none⟩) len len, _, Ext.put _ hc, by omega, hr, ?_, ?_⟩
            · exact VR.sliceK (L := ⟨w.heap.size, 0, C.toList.length⟩) 0 len len put_get (Nat.le_refl _)
            · by_cases h0 : len * i.size = 0
              · have : z = [] := List.eq_nil_of_length_eq_zero (by omega)
                subst this
                have hqs : qs = [] := by
                  cases hp with
                  | nil => rfl
                  | cons a b =>
                    unfold fillV at hfil
                    simp only [List.length_nil] at hfil
                    split at hfil
                    · omega
                    · cases hfil
                subst hqs
                have hC : C = #[] := by
                  cases hp; unfold fillV at hfil; cases hfil; cases hC : C.toList with
                  | nil => simpa using hC
                  | cons _ _ => rw [hC] at h6; cases h6
                subst hC
                simp [Instr.buildSlice, run_underlying (desc_ok hcx hd), sizeOf, typeInfo, hi, h0, Instr.fill, newRow]
                rw [show Array.range 0 = #[] from rfl, Array.map_empty]
              · exact run_buildSlice w t el len ⟨qs⟩ C i zv (desc_ok hcx hd) hi hiz (by omega) h0 h5
          · rw [if_neg hs] at e; exact (fail_ok e).elim
    all_goals exact (fail_ok e).elim

theorem makeSliceM_ok (r : Rel ng w0 φ h w) {t : Nat} {x y v : V} {x' y' : Value} (hx : VR φ x x') (hy : VR φ y y') (e : makeSliceM cx t x y h c = .ok v h' c' l)
    (hf : Fresh φ c c') : Done P ng w0 φ c c' h' w v (Instr.makeSlice t x' y') := by
  unfold makeSliceM at e
  cases hd : cx.desc t with
  | none => simp only [hd] at e; exact (fail_ok e).elim
  | some d =>
    simp only [hd] at e
    cases d
    case slice el =>
      cases hx <;> try exact (fail_ok e).elim
      cases hy <;> try exact (fail_ok e).elim
      rename_i k1 ln k2 cp
      simp only at e
      by_cases hb : 0 ≤ ln ∧ ln ≤ cp ∧ cp ≤ 1000000000
      · rw [if_pos hb] at e
        cases hty : cx.ty el with
        | none => simp only [hty] at e; exact (fail_ok e).elim
        | some i =>
          cases hz : zeroRow cx el cp.toNat with
          | none => simp only [hty, hz] at e; exact (fail_ok e).elim
          | some z =>
            simp only [hty, hz] at e
            obtain ⟨i', zv, hi, hiz, hpos, hzs, hzl, hzr⟩ := zeroRow_ok hcx hz
            have hi' := hcx.ty _ _ hty
            rw [hi] at hi'; cases hi'
            by_cases hby : i.bytes ≤ 4096
            · rw [if_pos hby] at e
              obtain ⟨n, h2, c2, l3, l4, e3, e4, _⟩ := bnd_ok e
              obtain ⟨rfl, rfl, rfl, _⟩ := newM_ok e3
              obtain ⟨rfl, rfl, rfl, _⟩ := ret_ok e4
              have hc := hf n (by omega) (by omega)
              have hr := r.newCells (c := n) (e := el) hc (hzr φ)
              refine ⟨_, .slice (some ⟨w.heap.size, 0, none⟩) ln.toNat cp.toNat, _, Ext.put _ hc, by omega, hr, ?_, ?_⟩
              · exact VR.sliceK (L := ⟨w.heap.size, 0, _⟩) 0 _ _ put_get (by omega)
              · have hw1 : IntKind.i64.wrap ln = ln := wrap_small ln hb.1 (by omega)
                have hw2 : IntKind.i64.wrap cp = cp := wrap_small cp (by omega) hb.2.2
                have hmul : (i.bytes : Int) * cp ≤ 4096 * 1000000000 := by
                  have h1 : (i.bytes : Int) * cp ≤ 4096 * cp := Int.mul_le_mul_of_nonneg_right (by omega) (by omega)
                  omega
                have hbig : ¬ (i.bytes : Int) * cp > 2 ^ 48 := by
                  have : (2 ^ 48 : Int) = 281474976710656 := by decide
                  rw [this]; omega
                simp only [Instr.makeSlice, Sem.run_bind, run_underlying (desc_ok hcx hd), Result.andThen_ok, asInt, asIntOf, Sem.run_pure, typeInfo, run_program, hi, hw1, hw2]
                rw [if_neg (by simp [hbig]; omega)]
                simp only [Sem.run_bind, run_askRoom, Result.andThen_ok, sizeOf, typeInfo, run_program, hi, Sem.run_pure, Sem.run_ite, zeroValue, hiz, newRow, run_newObj]
                by_cases h0 : cp.toNat * i.size = 0
                · rw [if_pos h0, h0, show Array.range 0 = #[] from rfl, Array.map_empty, Array.map_empty]; rfl
                · rw [if_neg h0]; rfl
            · rw [if_neg hby] at e; exact (fail_ok e).elim
      · rw [if_neg hb] at e; exact (fail_ok e).elim
    all_goals exact (fail_ok e).elim
end
end Go.Ab
