/- The abstract evaluator against the model: append. -/
import Derived.Test.YtcenbfjhhaialaaAc10
set_option linter.unusedVariables false
set_option linter.unusedSectionVars false
set_option linter.unusedSimpArgs false
set_option linter.unnecessarySimpa false
namespace Go.Ab
open Go.RowKit

section
variable {H : Type} [MapI H AObj] {P : Program} {ng : Nat} {w0 w : World} {φ : Nm} {h h' : H} {c c' : Nat} {l : List Acc}

theorem zeros_cases {xt : Option Nat} {z : Bool} (h : (zerosOf xt).run P w = .ok z w) : (xt = none ∧ z = false) ∨ ∃ t d, xt = some t ∧ P.underlying t = some d ∧ (d matches .int _) = z := by
  cases xt with
  | none => simp [zerosOf] at h; exact .inl ⟨rfl, by simp [h]⟩
  | some t =>
    cases hu : P.underlying t with
    | none => simp [zerosOf, underlying, hu] at h
    | some d => simp [zerosOf, run_underlying hu] at h; exact .inr ⟨t, d, rfl, hu, h⟩

/-- What append does in place. -/
def appIn (P : Program) (w : World) (base : Option Addr) (off need sCap : Nat) (us : List Value) : Result Value :=
  match base with
  | some a => ((storeCells (a.add off) us).run P w).andThen fun _ w' => .ok (.slice (some a) need sCap) w'
  | none => .ok (.slice none need sCap) w
/-- What append does, in place or into a new row. -/
theorem run_append_any {st e n k sLen sCap : Nat} {xts : List Nat} {ty : TypeId} {base : Option Addr} {x' : Value} {rest : List Value} {i : TypeInfo} {z : Value} {zeros : Bool} {us us0 : List Value}
    (hu : P.underlying st = some (.slice e)) (hi : P.info? e = some i) (his : i.size = k + 1) (hz : i.zero = some z) (hzr : (zerosOf xts.head?).run P w = .ok zeros w)
    (h1 : zeros = true → ∃ q j, x' = .int q j ∧ 0 ≤ j ∧ j ≤ 1000000000 ∧ j.toNat = n ∧ us.toArray = Builtin.zeroCells z.cells n)
    (h0 : zeros = false → (Builtin.lenOf x').run P w = .ok n w ∧ ∀ w2 : World, w2.heap = w.heap → (Builtin.firstCells (k + 1) n x').run P w2 = .ok us.toArray w2)
    (hold : sCap < sLen + n → ∀ w2 : World, w2.heap = w.heap → (Builtin.firstCells (k + 1) sLen (.slice base sLen sCap)).run P w2 = .ok us0.toArray w2)
    (hn : sLen + n ≤ 1000000000) (hb : i.bytes ≤ 4096) :
    (Builtin.append_ ⟨st :: xts⟩ ty ⟨.slice base sLen sCap :: x' :: rest⟩).run P w =
      if sLen + n ≤ sCap then appIn P w base (sLen * (k + 1)) (sLen + n) sCap us
      else .ok (.slice (some ⟨w.heap.size, 0, none⟩) (sLen + n) (grownCap w (sLen + n) sCap e))
        (w.drew.alloc (.cells (us0.toArray ++ us.toArray ++ Builtin.zeroCells z.cells (grownCap w (sLen + n) sCap e - (sLen + n))) e)) := by
  have hx1 : (⟨st :: xts⟩ : Array Nat)[1]? = xts.head? := by cases xts <;> simp
  have hsz : ∀ w2 : World, (sizeOf e).run P w2 = .ok (k + 1) w2 := fun w2 => by simp [sizeOf, typeInfo, hi, his]
  have hty : ∀ w2 : World, (typeInfo e).run P w2 = .ok i w2 := fun w2 => run_typeInfo w2 hi
  have hzv : ∀ w2 : World, (zeroValue e).run P w2 = .ok z w2 := fun w2 => by simp [zeroValue, hty, hz]
  have h63 : ¬ (((sLen + n : Nat) : Int) > IntKind.i64.max) := by
    have : IntKind.i64.max = 9223372036854775807 := by rfl
    omega
  have hdraw : ∀ w2 : World, w2 = w → (choose (.appendCap (sLen + n) sCap e)).run P w2 = .ok (grownCap w (sLen + n) sCap e) w.drew := fun w2 hw => by
    subst hw; simp [Question.forced, grownCap]
  have hd : w.drew.heap = w.heap := rfl
  have hgrow : sCap < sLen + n → ¬ (Builtin.nextslicecap (sLen + n) sCap * i.bytes > 2 ^ 48) := fun hlt => by
    have h1 := nextslicecap_le hlt
    have h2 : Builtin.nextslicecap (sLen + n) sCap * i.bytes ≤ 2000000000 * 4096 := Nat.mul_le_mul (by omega) hb
    have : (2 ^ 48 : Nat) = 281474976710656 := by decide
    rw [this]; omega
  have hwr : ∀ j : Int, 0 ≤ j → j ≤ 1000000000 → IntKind.i64.wrap j = j := wrap_small
  by_cases hle : sLen + n ≤ sCap
  · rw [if_pos hle]
    rcases zeros_cases hzr with ⟨hx, rfl⟩ | ⟨t, d, hx, hut, hdz⟩
    · obtain ⟨hl, hf⟩ := h0 rfl
      unfold Builtin.append_
      simp only [List.getElem?_toArray, List.getElem?_cons_zero, List.getElem?_cons_succ, Sem.run_bind, run_underlying hu, Result.andThen_ok, hsz, hl, hx1, hx, Sem.run_pure, Bool.false_eq_true, if_false, hle, if_true, Bool.not_false, hf w rfl]
      cases base with
      | none => rfl
      | some a => simp only [Sem.run_bind, appIn]; cases (storeCells (a.add (sLen * (k + 1))) us).run P w <;> rfl
    · have hdz' : Builtin.append_.match_1 (fun _ => Bool) d (fun _ => true) (fun _ => false) = zeros := by rw [← hdz]; cases d <;> rfl
      cases zeros with
      | false =>
        obtain ⟨hl, hf⟩ := h0 rfl
        unfold Builtin.append_
        simp only [List.getElem?_toArray, List.getElem?_cons_zero, List.getElem?_cons_succ, Sem.run_bind, run_underlying hu, run_underlying hut, hdz', Result.andThen_ok, hsz, hl, hx1, hx, Sem.run_pure, Bool.false_eq_true, if_false, hle, if_true, Bool.not_false, hf w rfl]
        cases base with
        | none => rfl
        | some a => simp only [Sem.run_bind, appIn]; cases (storeCells (a.add (sLen * (k + 1))) us).run P w <;> rfl
      | true =>
        obtain ⟨q, jj, rfl, hj0, hj1, hjn, hus⟩ := h1 rfl
        have hlt : ¬ jj < 0 := by omega
        have hbig : ¬ jj * (i.bytes : Int) > 2 ^ 48 := by
          have h1 : jj * (i.bytes : Int) ≤ 1000000000 * 4096 := Int.mul_le_mul hj1 (by omega) (by omega) (by omega)
          have : (2 ^ 48 : Int) = 281474976710656 := by decide
          rw [this]; omega
        unfold Builtin.append_
        simp only [List.getElem?_toArray, List.getElem?_cons_zero, List.getElem?_cons_succ, Sem.run_bind, run_underlying hu, run_underlying hut, hdz', Result.andThen_ok, hsz, hx1, hx, Sem.run_pure, if_true, hle,
          Bool.not_true, Bool.false_eq_true, if_false, Go.asInt, asIntOf, hwr jj hj0 hj1, hlt, hty, hbig, hjn]
        by_cases hn0 : n * (k + 1) = 0
        · have hn0' : n = 0 := by
            rcases Nat.mul_eq_zero.1 hn0 with h | h
            · exact h
            · omega
          have husn : us = [] := by
            have : us.toArray = #[] := by rw [hus, hn0']; simp [Builtin.zeroCells]
            simpa using this
          subst husn
          simp only [hn0, if_true, Sem.run_pure, Result.andThen_ok]
          cases base with
          | none => rfl
          | some a => simp only [Sem.run_bind]; rfl
        · simp only [hn0, if_false, Sem.run_bind, hzv, Result.andThen_ok, Sem.run_pure, ← hus]
          cases base with
          | none => rfl
          | some a => simp only [Sem.run_bind, appIn]; cases (storeCells (a.add (sLen * (k + 1))) us).run P w <;> rfl
  · rw [if_neg hle]
    have hg := hgrow (by omega)
    have hold := hold (by omega)
    rcases zeros_cases hzr with ⟨hx, rfl⟩ | ⟨t, d, hx, hut, hdz⟩
    · obtain ⟨hl, hf⟩ := h0 rfl
      unfold Builtin.append_
      simp only [List.getElem?_toArray, List.getElem?_cons_zero, List.getElem?_cons_succ, Sem.run_bind, run_underlying hu, Result.andThen_ok, hsz, hl, hx1, hx, Sem.run_pure, Bool.false_eq_true, if_false, hle, Bool.not_false, if_true,
        hty, h63, false_and, hg, hdraw w rfl, run_askRoom, hold _ hd, hf _ hd, hzv, newRow, run_newObj]
      rfl
    · have hdz' : Builtin.append_.match_1 (fun _ => Bool) d (fun _ => true) (fun _ => false) = zeros := by rw [← hdz]; cases d <;> rfl
      cases zeros with
      | false =>
        obtain ⟨hl, hf⟩ := h0 rfl
        unfold Builtin.append_
        simp only [List.getElem?_toArray, List.getElem?_cons_zero, List.getElem?_cons_succ, Sem.run_bind, run_underlying hu, run_underlying hut, hdz', Result.andThen_ok, hsz, hl, hx1, hx, Sem.run_pure, Bool.false_eq_true, if_false, hle, Bool.not_false, if_true,
          hty, h63, false_and, hg, hdraw w rfl, run_askRoom, hold _ hd, hf _ hd, hzv, newRow, run_newObj]
        rfl
      | true =>
        obtain ⟨q, jj, rfl, hj0, hj1, hjn, hus⟩ := h1 rfl
        have hlt : ¬ jj < 0 := by omega
        have hbig : ¬ jj * (i.bytes : Int) > 2 ^ 48 := by
          have h1 : jj * (i.bytes : Int) ≤ 1000000000 * 4096 := Int.mul_le_mul hj1 (by omega) (by omega) (by omega)
          have : (2 ^ 48 : Int) = 281474976710656 := by decide
          rw [this]; omega
        unfold Builtin.append_
        simp only [List.getElem?_toArray, List.getElem?_cons_zero, List.getElem?_cons_succ, Sem.run_bind, run_underlying hu, run_underlying hut, hdz', Result.andThen_ok, hsz, hx1, hx, Sem.run_pure, if_true, hle,
          Bool.not_true, Bool.false_eq_true, if_false, Go.asInt, asIntOf, hwr jj hj0 hj1, hlt, hty, hbig, hjn, h63, false_and, hg, hdraw w rfl, run_askRoom, hold _ hd]
        by_cases hn0 : n * (k + 1) = 0
        · have hn0' : n = 0 := by
            rcases Nat.mul_eq_zero.1 hn0 with h | h
            · exact h
            · omega
          have husn : us = [] := by
            have : us.toArray = #[] := by rw [hus, hn0']; simp [Builtin.zeroCells]
            simpa using this
          subst husn
          simp only [hn0, if_true, Sem.run_pure, Result.andThen_ok, hzv, newRow, run_newObj, Sem.run_bind]
          rfl
        · simp only [hn0, if_false, Sem.run_bind, hzv, Result.andThen_ok, Sem.run_pure, ← hus, newRow, run_newObj]
          rfl

theorem Rel.congr {k : H} (r : Rel ng w0 φ h w) (e : ∀ n, MapI.get k n = MapI.get h n) : Rel ng w0 φ k w :=
  ⟨r.below, fun n o hn => r.obj n o (by rw [← e]; exact hn), fun n m o p L K hne hn hm => r.apart n m o p L K hne (by rw [← e]; exact hn) (by rw [← e]; exact hm), r.glob⟩

/-- A row grows in place: its cells go over to a new name. -/
theorem Rel.grow (r : Rel ng w0 φ h w) {m o : Nat} {cl : Bool} {cs old new : List V} {us : List Value} {L : Loc} {C : Array Value} {e : TypeId} {fr : Nat × Nat}
    (hm : MapI.get h m = some (.cells true cl cs)) (hL : φ m = some L) (hc : φ c = none) (hb : w.heap[L.blk]? = some (.cells C e fr)) {k : Nat} (hold : cut cs o k = some old) (hnew : VRs φ new us)
    (hfit : L.off + o + k + new.length ≤ L.lim) :
    Rel ng w0 (φ.put c ⟨L.blk, L.off + o, L.lim⟩) (MapI.set (MapI.set h m .dead) c (.cells true (Nat.beq o 0 && cl) (old ++ new))) (World.setBlk w L.blk (.cells (putAt C (L.off + o + k) us) e fr)) := by
  obtain ⟨hle, hol, hog⟩ := cut_ok hold
  obtain ⟨K, hK, ho, _⟩ := r.obj m _ hm
  rw [hL] at hK; cases hK
  have ho' := ho
  obtain ⟨C', e', fr', hb', hlen, hlim, hg, hfz, hcl⟩ := ho'
  rw [hb] at hb'; cases hb'
  have hnl := hnew.length
  -- first the block, the old name holding what lies ahead
  have r1 : Rel ng w0 φ (MapI.set h m (.cells true cl (cs.take (o + k)))) (World.setBlk w L.blk (.cells (putAt C (L.off + o + k) us) e fr)) := by
    refine r.setBlk hm rfl hL rfl ⟨_, _, _, rfl, by simp; omega, by rw [putAt_size]; exact hlim, fun i v hi => ?_, hfz, hcl⟩
    rw [List.getElem?_take] at hi
    split at hi
    · next hik =>
      obtain ⟨u, h1, h2⟩ := hg i v hi
      refine ⟨u, ?_, h2⟩
      rw [putAt_get _ _ _ _ (by omega), if_neg (by omega)]; exact h1
    · cases hi
  have hmc : m ≠ c := fun e => by subst e; rw [hc] at hL; cases hL
  have r2 := r1.move (c := c) (L' := ⟨L.blk, L.off + o, L.lim⟩) (o' := .cells true (Nat.beq o 0 && cl) (old ++ new)) (MapI.get_same _ _ _) rfl hL hc rfl rfl (by
    refine ⟨putAt C (L.off + o + k) us, e, fr, heap_setBlk _ hb, by simp; omega, by rw [putAt_size]; exact hlim, fun i v hi => ?_, fun _ j h1 h2 => hfz rfl j (by simp at h1; omega) h2, fun h => by
      rw [Bool.and_eq_true] at h
      have ho := Nat.eq_of_beq_eq_true h.1
      have h2 := hcl h.2
      exact ⟨h2.1, by show L.off + o = 0; omega⟩⟩
    simp only
    by_cases hik : i < k
    · rw [List.getElem?_append_left (by omega), hog i hik] at hi
      obtain ⟨u, h1, h2⟩ := hg _ _ hi
      refine ⟨u, ?_, h2.mono (Ext.put _ hc).mono⟩
      rw [putAt_get _ _ _ _ (by omega), if_neg (by omega), show L.off + o + i = L.off + (o + i) by omega]; exact h1
    · rw [List.getElem?_append_right (by omega), hol] at hi
      obtain ⟨u, h1, h2⟩ := hnew.get hi
      have hlt : i - k < us.length := by
        rcases Nat.lt_or_ge (i - k) us.length with h | h
        · exact h
        · rw [List.getElem?_eq_none h] at h1; cases h1
      refine ⟨u, ?_, h2.mono (Ext.put _ hc).mono⟩
      rw [putAt_get _ _ _ _ (by omega), if_pos (by omega), show L.off + o + i - (L.off + o + k) = i - k by omega]; exact h1)
  refine r2.congr fun n => ?_
  by_cases h1 : c = n
  · subst h1; rw [MapI.get_same, MapI.get_same]
  · rw [MapI.get_ne _ _ _ _ h1, MapI.get_ne _ _ _ _ h1]
    by_cases h2 : m = n
    · subst h2; rw [MapI.get_same, MapI.get_same]
    · rw [MapI.get_ne _ _ _ _ h2, MapI.get_ne _ _ _ _ h2, MapI.get_ne _ _ _ _ h2]

theorem zeroCells_size (z : Array Value) (n : Nat) : (Builtin.zeroCells z n).size = n * z.size := by simp [Builtin.zeroCells]

variable {cx : Cx} (hcx : CxOk P cx)
include hcx

theorem zlen_ok {e k : Nat} {i : TypeInfo} (hi : P.info? e = some i) (h : zlen cx e = k + 1) : ∃ z, i.zero = some z ∧ z.cells.size = k + 1 := by
  unfold zlen at h
  split at h
  · next z hz =>
    obtain ⟨i', zv, hi', hiz, hzv⟩ := zero_ok hcx hz
    rw [hi] at hi'; cases hi'
    have := (toV_ok (φ := fun _ => none) hzv).cells.length
    exact ⟨zv, hiz, by simp at this; omega⟩
  · cases h

theorem appendM_ok (r : Rel ng w0 φ h w) {st : Nat} {xt : List Nat} {s x v : V} {s' x' : Value} {rest : List V} {rest' : List Value} {ty : Nat} (hs : VR φ s s') (hx : VR φ x x')
    (e : appendM cx (st :: xt) (s :: x :: rest) h c = .ok v h' c' l) (hf : Fresh φ c c') :
    Done P ng w0 φ c c' h' w v (Builtin.append_ ⟨st :: xt⟩ ty ⟨s' :: x' :: rest'⟩) := by
  unfold appendM at e
  simp only at e
  cases hd : cx.desc st with
  | none => simp only [hd] at e; exact (fail_ok e).elim
  | some d =>
    have hu := desc_ok hcx hd
    simp only [hd] at e
    cases d <;> try exact (fail_ok e).elim
    rename_i el
    have main : ∀ (a : Option (Nat × Nat)) (len : Nat) (cap : Cap) (base : Option Addr) (sCap : Nat), s = .slice a len cap → s' = .slice base len sCap →
        Done P ng w0 φ c c' h' w v (Builtin.append_ ⟨st :: xt⟩ ty ⟨s' :: x' :: rest'⟩) := by
      intro a len cap base sCap hse hse'
      subst hse; subst hse'
      simp only at e
      cases hty : cx.ty el with
      | none => simp only [hty] at e; exact (fail_ok e).elim
      | some i =>
        have hi := hcx.ty _ _ hty
        cases hk : cx.size el with
        | none => simp only [hty, hk] at e; exact (fail_ok e).elim
        | some k1 =>
          cases k1 with
          | zero => simp only [hty, hk] at e; exact (fail_ok e).elim
          | succ k =>
            simp only [hty, hk] at e
            obtain ⟨i', hi', his⟩ := size_ok hcx hk
            rw [hi] at hi'; cases hi'
            obtain ⟨⟨n, new⟩, h1, c1, l1, l2, e1, e2, _⟩ := bnd_ok e
            obtain ⟨rfl, rfl, us, zeros, hnew, hzr, hap1, hap0⟩ := appendedM_ok hcx r hx e1
            simp only at e2
            by_cases hcond : new.length = n * (k + 1) ∧ len + n ≤ 1000000000 ∧ i.bytes ≤ 4096 ∧ zlen cx el = k + 1
            rotate_left
            · rw [if_neg hcond] at e2; exact (fail_ok e2).elim
            rw [if_pos hcond] at e2
            obtain ⟨hnl, hln, hby, hzl⟩ := hcond
            obtain ⟨z, hz, hzs⟩ := zlen_ok hcx hi hzl
            have hus := hnew.length
            -- the run
            have hap1' : zeros = true → ∃ q j, x' = .int q j ∧ 0 ≤ j ∧ j ≤ 1000000000 ∧ j.toNat = n ∧ us.toArray = Builtin.zeroCells z.cells n := fun hh => by
              obtain ⟨q, j, a1, a2, a3, a4, it, zv, a5, a6, a7, _⟩ := hap1 hh
              rw [hi] at a5; cases a5; rw [hz] at a6; cases a6; exact ⟨q, j, a1, a2, a3, a4, a7⟩
            have run := fun (us0 : List Value) (hold : sCap < len + n → ∀ w2 : World, w2.heap = w.heap → (Builtin.firstCells (k + 1) len (.slice base len sCap)).run P w2 = .ok us0.toArray w2) =>
              run_append_any (P := P) (w := w) (rest := rest') (ty := ty) (base := base) hu hi his hz hzr hap1' hap0 (us0 := us0) hold hln hby
            have hold0 : len = 0 → ∀ w2 : World, w2.heap = w.heap → (Builtin.firstCells (k + 1) len (.slice base len sCap)).run P w2 = .ok ([] : List Value).toArray w2 := fun hl w2 _ => by
              subst hl; cases base
              · rfl
              · simp only [Builtin.firstCells, Nat.zero_mul]; rfl
            have hcap : len + n ≤ grownCap w (len + n) sCap el := grownCap_ge _ _ _ _
            -- into a new row: the cells that were, and the new ones
            have fresh : ∀ {h2 : H} {cl : Bool} (old : List V) (us0 : List Value), VRs φ old us0 → Rel ng w0 φ h2 w → sCap < len + n → old.length = len * (k + 1) →
                (∀ w2 : World, w2.heap = w.heap → (Builtin.firstCells (k + 1) len (.slice base len sCap)).run P w2 = .ok us0.toArray w2) →
                φ c1 = none → v = .slice (some (c1, 0)) (len + n) (.upTo (k + 1)) → h' = MapI.set h2 c1 (.cells true cl (old ++ new)) → c' = c1 + 1 →
                Done P ng w0 φ c1 c' h' w v (Builtin.append_ ⟨st :: xt⟩ ty ⟨.slice base len sCap :: x' :: rest'⟩) := by
              intro h2 cl old us0 hov r2 hlt hol hold hc1 hv hh' hc'
              subst hv; subst hh'; subst hc'
              have hr := run us0 (fun _ => hold)
              rw [if_neg (by omega)] at hr
              have hol' := hov.length
              have hsize : (us0.toArray ++ us.toArray ++ Builtin.zeroCells z.cells (grownCap w (len + n) sCap el - (len + n))).size = grownCap w (len + n) sCap el * (k + 1) := by
                simp only [Array.size_append, zeroCells_size, List.size_toArray, hzs]
                have e1 : us0.length + us.length = (len + n) * (k + 1) := by rw [← hol', ← hus, hol, hnl, Nat.add_mul]
                have e2 : (len + n) * (k + 1) + (grownCap w (len + n) sCap el - (len + n)) * (k + 1) = grownCap w (len + n) sCap el * (k + 1) := by rw [← Nat.add_mul]; congr 1; omega
                omega
              have r3 := (r2.drew (w.drawn + 1)).newRow (c := c1) (e := el) (C := us0.toArray ++ us.toArray ++ Builtin.zeroCells z.cells (grownCap w (len + n) sCap el - (len + n))) (fr := (0, 0)) (cl := cl) (vs := old ++ new) hc1
                (by simp only [List.length_append, Array.size_append, List.size_toArray]; omega) (fun i v hi => by
                  obtain ⟨u, a1, a2⟩ := (hov.append hnew).get hi
                  refine ⟨u, ?_, a2⟩
                  have hlt : i < (us0 ++ us).length := by
                    rcases Nat.lt_or_ge i (us0 ++ us).length with h | h
                    · exact h
                    · rw [List.getElem?_eq_none h] at a1; cases a1
                  rw [Array.getElem?_append_left (by simpa using hlt)]
                  rw [← a1]; simp) (fun j _ => by simp) (fun _ => rfl)
              refine ⟨_, _, _, Ext.put _ hc1, by omega, r3, ?_, hr⟩
              refine VR.sliceU (L := ⟨w.heap.size, 0, _⟩) 0 _ _ _ put_get ?_ hcap (by omega)
              simp only [hsize, Nat.zero_add, Nat.add_zero]
            have husn : n = 0 → us = [] := fun hn0 => List.eq_nil_of_length_eq_zero (by rw [← hus, hnl, hn0]; simp)
            -- nothing is appended
            have nothing : n = 0 → len ≤ sCap → VR φ (.slice a len cap) (.slice base len sCap) → v = .slice a len cap → h' = h1 → c' = c1 →
                Done P ng w0 φ c1 c' h' w v (Builtin.append_ ⟨st :: xt⟩ ty ⟨.slice base len sCap :: x' :: rest'⟩) := by
              intro hn0 hle hv hve hh' hc'
              subst hve; subst hh'; subst hc'
              have hr := run [] (fun hh => by omega)
              rw [if_pos (by omega)] at hr
              refine Done.here r hv ?_
              rw [hr, husn hn0, hn0]
              cases base with
              | none => rfl
              | some b => simp [appIn, storeCells]
            -- cells of its own are written
            have inplace : ∀ (b : Addr) (w' : World), base = some b → len + n ≤ sCap → (storeCells (b.add (len * (k + 1))) us).run P w = .ok () w' → Rel ng w0 φ h' w' → c' = c1 →
                VR φ v (.slice base (len + n) sCap) → Done P ng w0 φ c1 c' h' w v (Builtin.append_ ⟨st :: xt⟩ ty ⟨.slice base len sCap :: x' :: rest'⟩) := by
              intro b w' hb hle hst hr' hc' hv
              subst hc'
              have hr := run [] (fun hh => by omega)
              rw [if_pos hle] at hr
              refine ⟨φ, _, w', Ext.refl _ _ _, Nat.le_refl _, hr', hv, ?_⟩
              rw [hr]; subst hb
              simp only [appIn, hst, Result.andThen_ok]
            cases hs with
            | sliceNil =>
              simp only at e2
              by_cases hn0 : n = 0
              · simp only [hn0, if_true] at e2
                obtain ⟨hv, hh, hc, _⟩ := ret_ok e2
                exact nothing hn0 (Nat.le_refl _) .sliceNil hv hh hc
              · simp only [hn0, if_false, if_true] at e2
                unfold growM at e2
                obtain ⟨m, h3, c3, l3, l4, e3, e4, _⟩ := bnd_ok e2
                obtain ⟨rfl, rfl, rfl, _⟩ := newM_ok e3
                obtain ⟨rfl, rfl, rfl, _⟩ := ret_ok e4
                exact fresh (cl := true) [] [] .nil r (by omega) (by simp) (hold0 rfl) (hf m (by omega) (by omega)) (by simp) rfl rfl
            | sliceK o _ _ hL hle =>
              rename_i m L
              simp only at e2
              by_cases hin : len + n ≤ sCap
              · rw [if_pos hin] at e2
                by_cases hn0 : n = 0
                · rw [if_pos hn0] at e2
                  obtain ⟨hv, hh, hc, _⟩ := ret_ok e2
                  exact nothing hn0 (by omega) (.sliceK _ _ _ hL hle) hv hh hc
                · rw [if_neg hn0] at e2
                  obtain ⟨u, h3, c3, l3, l4, e3, e4, _⟩ := bnd_ok e2
                  obtain ⟨rfl, L', w', hL', hrun, hr'⟩ := storeC_ok (P := P) r hnew e3
                  rw [hL] at hL'; cases hL'
                  obtain ⟨rfl, rfl, rfl, _⟩ := ret_ok e4
                  exact inplace _ w' rfl hin (by rw [addr_add, Nat.add_assoc]; exact hrun) hr' rfl (.sliceK _ _ _ hL hin)
              · rw [if_neg hin] at e2
                obtain ⟨old, h3, c3, l3, l4, e3, e4, _⟩ := bnd_ok e2
                have hlen : old.length = len * (k + 1) := by
                  unfold firstM at e3
                  simp only at e3
                  by_cases hl0 : len = 0
                  · rw [if_pos hl0] at e3; obtain ⟨rfl, _⟩ := ret_ok e3; simp [hl0]
                  · rw [if_neg hl0, if_pos (Nat.le_refl _)] at e3
                    exact (loadC_ok (P := P) r e3).2.2.1
                obtain ⟨rfl, rfl, us0, hov, hold⟩ := firstM_ok (P := P) r (.sliceK o _ _ hL hle) e3
                unfold growM at e4
                obtain ⟨m', h5, c5, l5, l6, e5, e6, _⟩ := bnd_ok e4
                obtain ⟨rfl, rfl, rfl, _⟩ := newM_ok e5
                obtain ⟨rfl, rfl, rfl, _⟩ := ret_ok e6
                exact fresh (cl := true) old us0 hov r (by omega) hlen hold (hf _ (by omega) (by omega)) rfl rfl rfl
            | sliceK0 o b hL =>
              rename_i m L
              simp only at e2
              by_cases hin : 0 + n ≤ 0
              · rw [if_pos hin] at e2
                have hn0 : n = 0 := by omega
                rw [if_pos hn0] at e2
                obtain ⟨hv, hh, hc, _⟩ := ret_ok e2
                exact nothing hn0 (by omega) (.sliceK0 _ _ hL) hv hh hc
              · rw [if_neg hin] at e2
                obtain ⟨old, h3, c3, l3, l4, e3, e4, _⟩ := bnd_ok e2
                have hlen : old = [] ∧ h3 = h1 ∧ c3 = c1 := by
                  unfold firstM at e3
                  simp only [if_true] at e3
                  obtain ⟨rfl, rfl, rfl, _⟩ := ret_ok e3; exact ⟨rfl, rfl, rfl⟩
                obtain ⟨rfl, rfl, rfl⟩ := hlen
                unfold growM at e4
                obtain ⟨m', h5, c5, l5, l6, e5, e6, _⟩ := bnd_ok e4
                obtain ⟨rfl, rfl, rfl, _⟩ := newM_ok e5
                obtain ⟨rfl, rfl, rfl, _⟩ := ret_ok e6
                exact fresh (cl := true) [] [] .nil r (by omega) (by simp) (hold0 rfl) (hf _ (by omega) (by omega)) rfl rfl rfl
            | sliceU o _ _ sz hL hlim hle hsz =>
              rename_i m L
              simp only at e2
              by_cases hn0 : n = 0
              · rw [if_pos hn0] at e2
                obtain ⟨hv, hh, hc, _⟩ := ret_ok e2
                exact nothing hn0 (by omega) (.sliceU _ _ _ _ hL hlim hle hsz) hv hh hc
              rw [if_neg hn0] at e2
              by_cases hszk : sz = k + 1
              rotate_left
              · rw [if_pos hszk] at e2; exact (fail_ok e2).elim
              rw [if_neg (by simpa using hszk)] at e2
              subst hszk
              obtain ⟨ob, h3, c3, l3, l4, e3, e4, _⟩ := bnd_ok e2
              obtain ⟨hm, rfl, rfl, _⟩ := getM_ok e3
              cases ob <;> try exact (fail_ok e4).elim
              rename_i rw cl cs
              cases rw <;> try exact (fail_ok e4).elim
              simp only at e4
              obtain ⟨K, hK, hobj, hbase, _⟩ := r.obj m _ hm
              rw [hL] at hK; cases hK
              have hobj' := hobj
              obtain ⟨C, ce, fr, hb, hlen, hlimC, hg, hfz, hcl⟩ := hobj'
              have hmul : (len + n) * (k + 1) = len * (k + 1) + n * (k + 1) := Nat.add_mul _ _ _
              by_cases hfit : o + (len + n) * (k + 1) ≤ cs.length
              · rw [if_pos hfit] at e4
                by_cases h1c : new.all one1 = true
                rotate_left
                · rw [if_neg h1c] at e4; exact (fail_ok e4).elim
                rw [if_pos h1c] at e4
                obtain ⟨u, h5, c5, l5, l6, e5, e6, _⟩ := bnd_ok e4
                obtain ⟨_, rfl, rfl, _⟩ := setM_ok e5
                obtain ⟨rfl, rfl, rfl, _⟩ := ret_ok e6
                have hin : len + n ≤ sCap := by
                  have : (len + n) * (k + 1) ≤ sCap * (k + 1) := by omega
                  exact Nat.le_of_mul_le_mul_right this (by omega)
                have hst := run_storeCells_blk (P := P) (L.off + (o + len * (k + 1))) us 0 w C hb (by omega) (ones_ok hnew h1c) (fun j hj1 hj2 => hfz rfl j (by omega) (by omega))
                rw [hb] at hobj
                have hr' := r.setBlk hm rfl hL rfl (hobj.stored (o := o + len * (k + 1)) (vs := new) (by omega) hnew)
                exact inplace _ _ rfl hin (by rw [addr_add, Nat.add_assoc]; exact hst) hr' rfl (.sliceU _ _ _ _ hL hlim hin hsz)
              · rw [if_neg hfit] at e4
                cases hct : cut cs o (len * (k + 1)) with
                | none => simp only [hct] at e4; exact (fail_ok e4).elim
                | some old =>
                  simp only [hct] at e4
                  obtain ⟨u, h5, c5, l5, l6, e5, e6, _⟩ := bnd_ok e4
                  obtain ⟨_, rfl, rfl, _⟩ := setM_ok e5
                  by_cases h1c : (old ++ new).all one1 = true
                  rotate_left
                  · rw [if_neg h1c] at e6; exact (fail_ok e6).elim
                  rw [if_pos h1c] at e6
                  obtain ⟨m', h7, c7, l7, l8, e7, e8, _⟩ := bnd_ok e6
                  obtain ⟨rfl, rfl, rfl, _⟩ := newM_ok e7
                  obtain ⟨rfl, rfl, rfl, _⟩ := ret_ok e8
                  have hc1 : φ m' = none := hf _ (by omega) (by omega)
                  obtain ⟨hle2, hol, hog⟩ := cut_ok hct
                  by_cases hin : len + n ≤ sCap
                  · -- in place, beyond what is known
                    have hsp : (len + n) * (k + 1) ≤ sCap * (k + 1) := Nat.mul_le_mul_right _ hin
                    have h1n : new.all one1 = true := by rw [List.all_append, Bool.and_eq_true] at h1c; exact h1c.2
                    have hst := run_storeCells_blk (P := P) (L.off + (o + len * (k + 1))) us 0 w C hb (by omega) (ones_ok hnew h1n) (fun j hj1 hj2 => hfz rfl j (by omega) (by omega))
                    have hr := run [] (fun hh => by omega)
                    rw [if_pos hin] at hr
                    have rg := r.grow (c := m') hm hL hc1 hb hct hnew (by omega)
                    refine ⟨_, .slice (some ⟨L.blk, L.off + o, none⟩) (len + n) sCap, _, Ext.put _ hc1, by omega, rg, ?_, ?_⟩
                    rotate_left
                    · rw [hr]
                      simp only [appIn, addr_add, Nat.add_assoc]
                      simp only [Nat.add_zero, Nat.add_assoc] at hst
                      rw [hst]; rfl
                    · refine VR.sliceU (L := ⟨L.blk, L.off + o, L.lim⟩) 0 _ _ _ put_get ?_ hin hsz
                      simp only; omega
                  · have hov := cells_of r hm hL hct
                    obtain ⟨us0, hul, hovr, hcell⟩ := hov
                    exact fresh (cl := Nat.beq o 0 && cl) old us0 hovr (r.kill hm) (by omega) hol (fun w2 hw2 => by
                      have := run_loadCells_list (P := P) w2 ⟨L.blk, L.off + o, none⟩ us0 (fun j u hu => by rw [addr_add, cells_same hw2]; exact hcell j u hu)
                      rw [hul] at this; exact this) hc1 rfl rfl rfl
            | sliceZ o sz b hL hlim hsz =>
              rename_i m L
              simp only at e2
              by_cases hn0 : n = 0
              · rw [if_pos hn0] at e2
                obtain ⟨hv, hh, hc, _⟩ := ret_ok e2
                exact nothing hn0 (by omega) (.sliceZ _ _ _ hL hlim hsz) hv hh hc
              rw [if_neg hn0] at e2
              by_cases hszk : sz = k + 1
              rotate_left
              · rw [if_pos hszk] at e2; exact (fail_ok e2).elim
              rw [if_neg (by simpa using hszk)] at e2
              subst hszk
              obtain ⟨ob, h3, c3, l3, l4, e3, e4, _⟩ := bnd_ok e2
              obtain ⟨hm, rfl, rfl, _⟩ := getM_ok e3
              cases ob <;> try exact (fail_ok e4).elim
              rename_i rw cl cs
              cases rw <;> try exact (fail_ok e4).elim
              simp only at e4
              obtain ⟨K, hK, hobj, hbase, _⟩ := r.obj m _ hm
              rw [hL] at hK; cases hK
              obtain ⟨C, ce, fr, hb, hlen, hlimC, hg, hfz, hcl⟩ := hobj
              by_cases hfit : o + (0 + n) * (k + 1) ≤ cs.length
              · exfalso
                have : 1 * 1 ≤ (0 + n) * (k + 1) := Nat.mul_le_mul (by omega) (by omega)
                omega
              · rw [if_neg hfit] at e4
                cases hct : cut cs o (0 * (k + 1)) with
                | none => simp only [hct] at e4; exact (fail_ok e4).elim
                | some old =>
                  simp only [hct] at e4
                  obtain ⟨u, h5, c5, l5, l6, e5, e6, _⟩ := bnd_ok e4
                  obtain ⟨_, rfl, rfl, _⟩ := setM_ok e5
                  by_cases h1c : (old ++ new).all one1 = true
                  rotate_left
                  · rw [if_neg h1c] at e6; exact (fail_ok e6).elim
                  rw [if_pos h1c] at e6
                  obtain ⟨m', h7, c7, l7, l8, e7, e8, _⟩ := bnd_ok e6
                  obtain ⟨rfl, rfl, rfl, _⟩ := newM_ok e7
                  obtain ⟨rfl, rfl, rfl, _⟩ := ret_ok e8
                  have hc1 : φ m' = none := hf _ (by omega) (by omega)
                  have hold : old = [] := List.eq_nil_of_length_eq_zero (by rw [(cut_ok hct).2.1]; simp)
                  subst hold
                  exact fresh (cl := Nat.beq o 0 && cl) [] [] .nil (r.kill hm) (by omega) (by simp) (hold0 rfl) hc1 rfl rfl rfl
    cases hs <;> first
      | exact (fail_ok e).elim
      | exact main _ _ _ _ _ rfl rfl
end
end Go.Ab
