/- The document's Slide: plain facts of its marks. The document's Slide. The document's Grant. Check of a sound store; New of any size; what of any handle. The calculus: lists of one's own that may be an empty literal; appends to them. Both heaps, both stores. The calculus: clear heaps, carried through code and loops. Both stores are granted. HeapPlays: Make, whatever is asked for, in both heaps; what both hold then. An arena's words, read alone; calls that read alone, from a clear heap. HeapPlays: Need of both heaps, whatever is asked for; regions whose operations but one read alone. HeapPlays: the law. HeapPlays: its arguments as data. -/
import Derived.Test.YtjnfjnmgfpffcaaGreatPf
import Derived.Test.YtjnfjnmgfpffcaaGreatPc
import Derived.Test.YtjnfjnmgfpffcaaGreatPe
import Derived.Test.YtjnfjnmgfpffcaaGreatPb
import Derived.WideShapes4
set_option linter.unusedVariables false
set_option linter.unusedSectionVars false
set_option linter.unusedSimpArgs false
set_option linter.unnecessarySimpa false
set_option maxRecDepth 10000
namespace Go.Proofs.YtjnfjnmgfpffcaaGreat
open Go.Ab
def sat (rows : List R3) (k j : Nat) : Int := match (yV rows ((yd rows).take k)).1[j]? with
 | some q => q.1
 | none => 0
def mrk (rows : List R3) (was : Int) (k : Nat) : List Int := rows.mapIdx fun j q => if j ∈ (yd rows).take k then sat rows k j - was - 1 else q.1
theorem qg (rows : List R3) (was : Int) (k : Nat) : (mrk rows was k).length = rows.length := by simp [mrk]
theorem mrk_get {rows : List R3} {was : Int} {k j : Nat} {q : R3} (h : rows[j]? = some q) : (mrk rows was k)[j]? = some (if j ∈ (yd rows).take k then sat rows k j - was - 1 else q.1) := by
 unfold mrk
 rw [List.getElem?_mapIdx, h]; rfl
theorem mrk_zero (rows : List R3) (was : Int) : mrk rows was 0 = rows.map fun q => q.1 := by
 apply List.ext_getElem?
 intro j
 cases h : rows[j]? with
 | none =>
  rw [List.getElem?_map, h, List.getElem?_eq_none (by rw [qg]; exact List.getElem?_eq_none_iff.1 h)]; rfl
 | some q => rw [mrk_get h, List.getElem?_map, h]; simp
theorem sat_other {rows : List R3} {k i j : Nat} (hi : (yd rows)[k]? = some i) (hj : j ≠ i) : sat rows (k + 1) j = sat rows k j := by
 unfold sat
 rw [ql hi, slid_snoc, stp_other hj]
theorem sat_at {n : Nat} {rows : List R3} (hl : qz n rows) {k i : Nat} {q : R3} (hi : (yd rows)[k]? = some i) (hq : rows[i]? = some q) : sat rows (k + 1) i = (yV rows ((yd rows).take k)).2 := by
 have o := jH hl
 unfold sat
 rw [o.next hl hi hq]
 have : i < (yV rows ((yd rows).take k)).1.length := by rw [ka]; exact (zj hq).1
 simp [this]
theorem ky {l : List Nat} {k i j : Nat} (hi : l[k]? = some i) : j ∈ l.take (k + 1) ↔ j ∈ l.take k \/ j = i := by
 rw [ql hi]; simp
theorem mrk_set {n : Nat} {rows : List R3} (hl : qz n rows) (was : Int) {k i : Nat} {q : R3} (hi : (yd rows)[k]? = some i) (hq : rows[i]? = some q) : (mrk rows was k).set i ((yV rows ((yd rows).take k)).2 - was - 1) = mrk rows was (k + 1) := by
 apply List.ext_getElem?
 intro j
 cases h : rows[j]? with
 | none =>
  have h' := List.getElem?_eq_none_iff.1 h
  rw [List.getElem?_eq_none (by rw [List.length_set, qg]; exact h'), List.getElem?_eq_none (by rw [qg]; exact h')]
 | some p =>
  rw [mrk_get h, List.getElem?_set]
  by_cases e : i = j
  ·subst e
   have hlt := (zj h).1
   rw [if_pos rfl, if_pos (by rw [qg]; exact hlt), if_pos ((ky hi).2 (.inr rfl)), sat_at hl hi hq]
  ·rw [if_neg e, mrk_get h, sat_other hi (Ne.symm e)]
   by_cases m : j ∈ (yd rows).take k
   ·rw [if_pos m, if_pos ((ky hi).2 (.inl m))]
   ·rw [if_neg m, if_neg (fun x => by
     rcases (ky hi).1 x with h | h
     ·exact m h
     ·exact e h.symm)]
structure Mid (rows : List R3) (at' i k : Nat) : Prop where
 le : k <= (yd rows).length
 lo : ∀ (j x : Nat) (q : R3), j < k -> (yd rows)[j]? = some x -> rows[x]? = some q -> q.1 < at' \/ (q.1 = at' /\ x < i)
 hi : ∀ (j x : Nat) (q : R3), k <= j -> (yd rows)[j]? = some x -> rows[x]? = some q -> at' < q.1 \/ (q.1 = at' /\ i <= x)
theorem Mid.start {n : Nat} {rows : List R3} (hl : qz n rows) : Mid rows 0 0 0 :=
 ⟨Nat.zero_le _, fun j x q h => by omega, fun j x q _ h1 h2 => by
  obtain ⟨q', h3, h4⟩ := (jH hl).row h1
  rw [h2] at h3; cases h3
  have := hl.in_ x q h2 h4
  omega⟩
theorem Mid.next {rows : List R3} {at' k : Nat} (m : Mid rows at' rows.length k) : Mid rows (at' + 1) 0 k :=
 ⟨m.le, fun j x q h h1 h2 => by have := m.lo j x q h h1 h2; omega, fun j x q h h1 h2 => by
  have h3 := (zj h2).1
  have := m.hi j x q h h1 h2; omega⟩
theorem Mid.skip {n : Nat} {rows : List R3} (hl : qz n rows) {at' i k : Nat} (m : Mid rows at' i k) (hno : ∀ q, rows[i]? = some q -> q.2.2 > 0 -> q.1 ≠ at') : Mid rows at' (i + 1) k :=
 ⟨m.le, fun j x q h h1 h2 => by have := m.lo j x q h h1 h2; omega, fun j x q h h1 h2 => by
  rcases m.hi j x q h h1 h2 with e | ⟨e, e2⟩
  ·exact .inl e
  ·refine .inr ⟨e, ?_⟩
   by_cases hx : x = i
   ·subst hx
    obtain ⟨q', h3, h4⟩ := (jH hl).row h1
    rw [h2] at h3; cases h3
    exact absurd e (hno q h2 h4)
   ·omega⟩
theorem Mid.hit {n : Nat} {rows : List R3} (hl : qz n rows) {at' i k : Nat} {q : R3} (m : Mid rows at' i k) (hq : rows[i]? = some q) (h0 : q.2.2 > 0) (ha : q.1 = at') : (yd rows)[k]? = some i /\ Mid rows at' (i + 1) (k + 1) := by
 have o := jH hl
 obtain ⟨j, hj1, hj2⟩ := List.mem_iff_getElem.1 (o.all i q hq h0)
 have hj : (yd rows)[j]? = some i := List.getElem?_eq_some_iff.2 ⟨hj1, hj2⟩
 have below : ∀ {a b x y : Nat} {p r : R3}, a < b -> (yd rows)[a]? = some x -> (yd rows)[b]? = some y -> rows[x]? = some p -> rows[y]? = some r -> p.1 < r.1 := fun {a b x y p r} hab h1 h2 h3 h4 => by
  obtain ⟨a1, a2⟩ := zj h1
  obtain ⟨b1, b2⟩ := zj h2
  have := List.pairwise_iff_getElem.1 o.up a b a1 b1 hab p r (by rw [a2]; exact h3) (by rw [b2]; exact h4)
  obtain ⟨p', g1, g2⟩ := o.row h1
  rw [h3] at g1; cases g1
  have := hl.in_ x p h3 g2
  omega
 have hjk : ¬ j < k := fun h => by
  have := m.lo j i q h hj hq
  omega
 have hkj : ¬ k < j := fun h => by
  obtain ⟨y, hy⟩ : ∃ y, (yd rows)[k]? = some y := ⟨_, zp (by omega)⟩
  obtain ⟨p, g1, g2⟩ := o.row hy
  have h1 := below h hy hj g1 hq
  have h2 := m.hi k y p (Nat.le_refl _) hy g1
  omega
 have e : j = k := by omega
 subst e
 refine ⟨hj, by omega, fun j' x p h h1 h2 => ?_, fun j' x p h h1 h2 => ?_⟩
 ·by_cases e : j' = j
  ·subst e
   rw [hj] at h1; cases h1
   rw [hq] at h2; cases h2
   exact .inr ⟨ha, by omega⟩
  ·have := m.lo j' x p (by omega) h1 h2
   omega
 ·have := below (show j < j' by omega) hj h1 hq h2
  exact .inl (by omega)
theorem Mid.done {n : Nat} {rows : List R3} (hl : qz n rows) {k : Nat} (m : Mid rows n 0 k) : k = (yd rows).length := by
 have o := jH hl
 by_cases h : k < (yd rows).length
 ·obtain ⟨x, hx⟩ : ∃ x, (yd rows)[k]? = some x := ⟨_, zp h⟩
  obtain ⟨p, g1, g2⟩ := o.row hx
  have := hl.in_ x p g1 g2
  have := m.hi k x p (Nat.le_refl _) hx g1
  omega
 ·have := m.le; omega
theorem mrk_neg {n : Nat} {rows : List R3} (hl : qz n rows) {k j : Nat} {q : R3} (hq : rows[j]? = some q) (hm : j ∈ (yd rows).take k) : sat rows k j - n - 1 < 0 /\ 0 <= sat rows k j := by
 have o := jH hl
 obtain ⟨m, hm1, hm2⟩ := List.mem_iff_getElem.1 hm
 have hmk : m < k /\ m < (yd rows).length := by rw [List.length_take] at hm1; omega
 have hj : (yd rows)[m]? = some j := by rw [List.getElem_take] at hm2; exact List.getElem?_eq_some_iff.2 ⟨hmk.2, hm2⟩
 have e : sat rows k j = (yV rows ((yd rows).take m)).2 := by
  have key : ∀ d, m + 1 + d <= k -> sat rows (m + 1 + d) j = (yV rows ((yd rows).take m)).2 := fun d => by
   induction d with
   | zero => intro _; exact sat_at hl hj hq
   | succ d ih =>
    intro h
    by_cases hd : m + 1 + d < (yd rows).length
    ·obtain ⟨y, hy⟩ : ∃ y, (yd rows)[m + 1 + d]? = some y := ⟨_, zp hd⟩
     have hne : j ≠ y := fun e => by
      subst e
      obtain ⟨b1, b2⟩ := zj hy
      exact List.pairwise_iff_getElem.1 (o.nodup hl) m (m + 1 + d) hmk.2 b1 (by omega) (by rw [b2]; exact (zj hj).2)
     rw [show m + 1 + (d + 1) = m + 1 + d + 1 from by omega, sat_other hy hne]
     exact ih (by omega)
    ·have : sat rows (m + 1 + (d + 1)) j = sat rows (m + 1 + d) j := by
      unfold sat
      rw [List.take_of_length_le (by omega), List.take_of_length_le (by omega)]
     rw [this]; exact ih (by omega)
  obtain ⟨d, rfl⟩ : ∃ d, k = m + 1 + d := ⟨k - (m + 1), by omega⟩
  exact key d (Nat.le_refl _)
 have h1 := o.nonneg hl m
 have h2 := o.le hl hj hq
 obtain ⟨q', g1, g2⟩ := o.row hj
 rw [hq] at g1; cases g1
 have h3 := hl.in_ j q hq g2
 rw [e]
 omega
def unm (rows : List R3) (was : Int) (i : Nat) : List Int := rows.mapIdx fun j q => if j < i then sat rows (yd rows).length j else if j ∈ yd rows then sat rows (yd rows).length j - was - 1 else q.1
theorem jZ (rows : List R3) (was : Int) (k : Nat) : (unm rows was k).length = rows.length := by simp [unm]
theorem unm_get {rows : List R3} {was : Int} {k j : Nat} {q : R3} (h : rows[j]? = some q) : (unm rows was k)[j]? = some (if j < k then sat rows (yd rows).length j else if j ∈ yd rows then sat rows (yd rows).length j - was - 1 else q.1) := by
 unfold unm
 rw [List.getElem?_mapIdx, h]; rfl
theorem unm_zero (rows : List R3) (was : Int) : unm rows was 0 = mrk rows was (yd rows).length := by
 apply List.ext_getElem?
 intro j
 cases h : rows[j]? with
 | none =>
  have h' := List.getElem?_eq_none_iff.1 h
  rw [List.getElem?_eq_none (by rw [jZ]; exact h'), List.getElem?_eq_none (by rw [qg]; exact h')]
 | some q =>
  rw [mrk_get h, unm_get h, List.take_of_length_le (Nat.le_refl _), if_neg (Nat.not_lt_zero _)]
theorem sat_dead {rows : List R3} {j : Nat} {q : R3} (hq : rows[j]? = some q) (hn : j ∉ yd rows) : sat rows (yd rows).length j = q.1 := by
 unfold sat
 rw [List.take_of_length_le (Nat.le_refl _), slid_other rows hn, hq]
theorem unm_set {rows : List R3} (was : Int) {i : Nat} : (unm rows was i).set i (sat rows (yd rows).length i) = unm rows was (i + 1) := by
 apply List.ext_getElem?
 intro j
 cases h : rows[j]? with
 | none =>
  have h' := List.getElem?_eq_none_iff.1 h
  rw [List.getElem?_eq_none (by rw [List.length_set, jZ]; exact h'), List.getElem?_eq_none (by rw [jZ]; exact h')]
 | some p =>
  have hlt := (zj h).1
  rw [unm_get h, List.getElem?_set]
  by_cases e : i = j
  ·subst e
   rw [if_pos rfl, if_pos (by rw [jZ]; exact hlt), if_pos (Nat.lt_succ_self _)]
  ·rw [if_neg e, unm_get h]
   by_cases hj : j < i
   ·rw [if_pos hj, if_pos (by omega)]
   ·rw [if_neg hj, if_neg (show ¬ j < i + 1 by omega)]
theorem unm_skip {rows : List R3} (was : Int) {i : Nat} {q : R3} (hq : rows[i]? = some q) (hn : i ∉ yd rows) : unm rows was i = unm rows was (i + 1) := by
 rw [<- unm_set was, sat_dead hq hn]
 symm
 apply List.ext_getElem?
 intro j
 rw [List.getElem?_set]
 by_cases e : i = j
 ·subst e
  have hlt := (zj hq).1
  rw [if_pos rfl, if_pos (by rw [jZ]; exact hlt), unm_get hq, if_neg (Nat.lt_irrefl _), if_neg hn]
 ·rw [if_neg e]
theorem unm_all (rows : List R3) (was : Int) : unm rows was rows.length = (yV rows (yd rows)).1.map fun q => q.1 := by
 apply List.ext_getElem?
 intro j
 cases h : rows[j]? with
 | none =>
  have h' := List.getElem?_eq_none_iff.1 h
  rw [List.getElem?_eq_none (by rw [jZ]; exact h'), List.getElem?_eq_none (by rw [List.length_map, ka]; exact h')]
 | some q =>
  have hlt := (zj h).1
  obtain ⟨a, ha⟩ := slid_get (yd rows) h
  rw [unm_get h, if_pos hlt, List.getElem?_map, ha]
  unfold sat
  rw [List.take_of_length_le (Nat.le_refl _), ha]; rfl
theorem slid_map2 (rows : List R3) (l : List Nat) : (yV rows l).1.map (fun q => q.2.1) = rows.map (fun q => q.2.1) /\ (yV rows l).1.map (fun q => q.2.2) = rows.map fun q => q.2.2 := by
 have key : ∀ f : Int × Int -> Int, (yV rows l).1.map (fun q => f q.2) = rows.map fun q => f q.2 := fun f => by
  apply List.ext_getElem?
  intro j
  have := slid_same rows l j
  rw [List.getElem?_map, List.getElem?_map]
  cases h : rows[j]? with
  | none => rw [h] at this; cases h2 : (yV rows l).1[j]? with
   | none => rfl
   | some p => rw [h2] at this; cases this
  | some q => rw [h] at this; cases h2 : (yV rows l).1[j]? with
   | none => rw [h2] at this; cases this
   | some p => rw [h2] at this; simp at this ⊢; rw [this]
 exact ⟨key fun p => p.1, key fun p => p.2⟩
theorem live_order {n : Nat} {rows : List R3} (hl : qz n rows) {i : Nat} {q : R3} (hq : rows[i]? = some q) : i ∈ yd rows ↔ q.2.2 > 0 := by
 have o := jH hl
 refine ⟨fun h => ?_, fun h => o.all i q hq h⟩
 obtain ⟨q', g1, g2⟩ := o.live i h
 rw [hq] at g1; cases g1
 exact g2
open Go.Ab
theorem set5 {X : EE} {k0 k1 k2 k3 k4 : Nat} {v0 v1 v2 v3 v4 : V} (h0 : X k0 = some v0) (h1 : X k1 = some v1) (h2 : X k2 = some v2) (h3 : X k3 = some v3) (h4 : X k4 = some v4) : ∃ b, X = MapI.set (MapI.set (MapI.set (MapI.set (MapI.set b k0 v0) k1 v1) k2 v2) k3 v3) k4 v4 :=
 ⟨X, by rw [FM.add h0, FM.add h1, FM.add h2, FM.add h3, FM.add h4]⟩
structure Scan (h0 : HH) (c0 : Nat) (vP : V) (st : St) (k : Nat) (h : HH) (c : Nat) (v4 : V) : Prop where
 pl : ListOf 1 yG h c vP (mrk st.rows st.bs.length k)
 o : ListOf 1 qb h c v4 (qd st.bs st.rows ((yd st.rows).take k))
 new : ∀ n ∈ zS v4, c0 <= n
 le : c0 <= c
 old : ∀ n, n < c0 -> n ∉ zS vP -> MapI.get h n = MapI.get h0 n
set_option maxHeartbeats 16000000 in
theorem rslide_ok {h : HH} {c q : Nat} {vB vP vS vC : V} {st : St} (r : RefAt h c q vB vP vS vC st) (hlen : st.rows.length <= 1000) (hb : st.bs.length <= 10000000) (hl : qz st.bs.length st.rows) :
  Does 31 [.ptr (some (q, 0))] h c (rn q vB vP vS vC) fun v h' c' => v = I ((st.bs.length : Int) - tot st.rows) /\ c <= c' /\ ∃ vB', (∀ n ∈ zS vB', c <= n) /\ RefAt h' c' q vB' vP vS vC (kR st) := by
 have hobj := r.obj
 have hlq := r.lq
 have o := jH hl
 have hot := gO hl
 obtain ⟨sB, capB, hvB, hsB⟩ := r.b.shape
 have hnq : ∀ n ∈ zS vP, n ≠ q := fun n hn => r.nq n (by simp [hn])
 have hPlt : ∀ n ∈ zS vP, n < c := r.pl.lt
 have keepC : ∀ {h' : HH} {c' k : Nat} {v4 : V}, Scan h c vP st k h' c' v4 -> MapI.get h' q = MapI.get h q /\ ListOf 1 qb h' c' vB st.bs /\ ListOf 1 yG h' c' vS (st.rows.map fun r => r.2.1) /\ ListOf 1 yG h' c' vC (st.rows.map fun r => r.2.2) := fun {h' c' k v4} s =>
  ⟨s.old q hlq (fun hm => hnq q hm rfl), r.b.keep s.le fun n hn hm => s.old n hn (fun hx => r.bp n hm (by simp [hx])), r.sz.keep s.le fun n hn hm => s.old n hn (fun hx => r.ps n hx (by simp [hm])), r.ct.keep s.le fun n hn hm => s.old n hn (fun hx => r.ps n hx (by simp [hm]))⟩
 have hS0 : Scan h c vP st 0 h c (.slice none 0 (.known 0)) := ⟨by rw [mrk_zero]; exact r.pl, .nil, fun n hn => (by cases hn), Nat.le_refl _, fun _ _ _ => rfl⟩
 refine yi (enter (fn := Tryz.f31) Tryz.func31 rfl rfl (zf rfl) ?_)
 subst hvB
 repeat' (first | apply zw | apply zx | apply zB | apply zK | refine za rfl rfl (fun _ => rfl) ?_ | refine zL rfl rfl (zW rfl rfl rfl hobj rfl ⟨(by simp [zc] <;> omega), ?_⟩))
 refine zI ?_
 refine zQ (X := Nat) (fun a e h' c' => ∃ k v4, (∃ b0, e = MapI.set (MapI.set (MapI.set (MapI.set b0 0 (.ptr (some (q, 0)))) 3 (I st.bs.length)) 4 v4) 5 (I a)) /\ a <= st.bs.length /\ Mid st.rows a 0 k /\ Scan h c vP st k h' c' v4)
  (fun a => st.bs.length - a) ?_ 0 _ _ _ ⟨0, _, set4 rfl rfl rfl rfl, Nat.zero_le _, Mid.start hl, hS0⟩
 rintro a e h' c' ⟨k, v4, ⟨b0, rfl⟩, ha, hm, hs⟩
 repeat' (first | apply zw | apply zx | apply zK | refine za rfl rfl (fun _ => rfl) ?_ | refine zU ?_)
 refine zH rfl (fun hlt => ?_) (fun hge => ?_)
 case refine_2 =>
  have hge : a = st.bs.length := by
   have : ¬ ((a : Nat) : Int) < (st.bs.length : Nat) := by simpa using hge
   omega
  subst hge
  have hk := hm.done hl
  subst hk
  have hu0 : Scan h c vP st (yd st.rows).length h' c' v4 := hs
  have hos : qd st.bs st.rows ((yd st.rows).take (yd st.rows).length) = qd st.bs st.rows (yd st.rows) := by rw [List.take_of_length_le (Nat.le_refl _)]
  obtain ⟨s4, cap4, hv4, _⟩ := hs.o.shapeN rfl
  have hnew4 := hs.new
  have hlt4 := hs.o.lt
  repeat' (first | apply zw | apply zx | apply zB | apply zF | apply zK | refine za rfl rfl (fun _ => rfl) ?_)
  refine zI ?_
  refine zQ (X := Nat) (fun i e h2 c2 => (∃ b0, e = MapI.set (MapI.set (MapI.set (MapI.set b0 0 (.ptr (some (q, 0)))) 3 (I st.bs.length)) 4 v4) 8 (I i)) /\ i <= st.rows.length /\ c2 = c' /\ ListOf 1 yG h2 c2 vP (unm st.rows st.bs.length i) /\ (∀ n, n ∉ zS vP -> MapI.get h2 n = MapI.get h' n))
   (fun i => st.rows.length - i) ?_ 0 _ _ _ ⟨set4 rfl rfl rfl rfl, Nat.zero_le _, rfl, by rw [unm_zero]; exact hs.pl, fun _ _ => rfl⟩
  rintro i e h2 c2 ⟨⟨b2, rfl⟩, hi, rfl, hp2, hf2⟩
  obtain ⟨hq', hB', hSz', hCt'⟩ := keepC hs
  have hobj2 : MapI.get h2 q = _ := ((hf2 q (fun hm => hnq q hm rfl)).trans hq').trans hobj
  have hCt2 : ListOf 1 yG h2 c2 vC (st.rows.map fun r => r.2.2) := hCt'.keep (Nat.le_refl _) fun n hn hm => hf2 n (fun hx => r.ps n hx (by simp [hm]))
  obtain ⟨sC, capC, hvC, hsC⟩ := hCt2.shapeN (List.length_map _)
  obtain ⟨sP, capP, hvP, hsP⟩ := hp2.shapeN (jZ _ _ _)
  subst hvC
  subst hvP
  repeat' (first | apply zw | apply zx | apply zK | refine za rfl rfl (fun _ => rfl) ?_ | refine zU ?_ | refine zL rfl rfl (zW rfl rfl rfl hobj2 rfl ⟨(by simp [zc] <;> omega), ?_⟩))
  refine zH rfl (fun hlt => ?_) (fun hge => ?_)
  case refine_2 =>
   have hge : i = st.rows.length := by
    have : ¬ ((i : Nat) : Int) < (st.rows.length : Nat) := by simpa using hge
    omega
   subst hge
   rw [unm_all] at hp2
   have hone := hs.o.one
   obtain ⟨m1, m2⟩ := slid_map2 st.rows (yd st.rows)
   have ho2 : ListOf 1 qb h2 c2 v4 (qd st.bs st.rows (yd st.rows)) := by
    rw [<- hos]
    exact hs.o.keep (Nat.le_refl _) fun n hn hm => hf2 n (fun hx => by have := hPlt n hx; have := hnew4 n hm; omega)
   have hSz2 : ListOf 1 yG h2 c2 vS (st.rows.map fun r => r.2.1) := hSz'.keep (Nat.le_refl _) fun n hn hm => hf2 n (fun hx => r.ps n hx (by simp [hm]))
   have hq4 : ∀ n ∈ zS v4, n ≠ q := fun n hn => by have := hnew4 n hn; omega
   obtain ⟨s5, cap5, hv5, _⟩ := ho2.shape
   have hwf : IntKind.i64.wrap ((st.bs.length : Int) - ((qd st.bs st.rows (yd st.rows)).length : Nat)) = (st.bs.length : Int) - tot st.rows := by
    have := hs.le
    have h1 := o.fits hl (yd st.rows).length
    rw [List.take_of_length_le (Nat.le_refl _), kL hl] at h1
    rw [hot, Go.IntWalk.i64_in _ (by omega)]
   subst hv5
   have hobj3 : MapI.get (MapI.set h2 q (.cells true true (yu [.slice sB st.bs.length capB, I st.most, .slice sP st.rows.length capP, vS, .slice sC st.rows.length capC] 0 [.slice s5 (qd st.bs st.rows (yd st.rows)).length cap5]))) q = some (.cells true true [.slice s5 (qd st.bs st.rows (yd st.rows)).length cap5, I st.most, .slice sP st.rows.length capP, vS, .slice sC st.rows.length capC]) := zt _ _ _
   have ne : ∀ {n : Nat}, n ≠ q -> ∀ x : AObj, MapI.get (MapI.set h2 q x) n = MapI.get h2 n := fun hn x => zu _ _ _ _ (Ne.symm hn)
   repeat' (first | apply zw | apply zx | apply zF | apply zG | apply zK | refine za rfl rfl (fun _ => rfl) ?_ | refine zL rfl rfl (ya (k := 1) rfl rfl rfl rfl hobj2 (zf rfl) rfl ⟨(by simp [zc] <;> omega), ?_⟩))
   refine z6 rfl ⟨by show V.int _ _ = _; rw [hwf], hs.le, _, hnew4, hobj3, ?_, ?_, ?_, ?_, by have := hs.le; omega, ?_, ?_, fun n hn => ?_, r.sc⟩
   ·exact ho2.keep (Nat.le_refl _) fun n hn hm => ne (hq4 n hm) _
   ·exact hp2.keep (Nat.le_refl _) fun n hn hm => ne (hnq n hm) _
   ·show ListOf 1 yG _ _ vS ((yV st.rows (yd st.rows)).1.map fun r => r.2.1)
    rw [m1]
    exact hSz2.keep (Nat.le_refl _) fun n hn hm => ne (r.nq n (by simp [hm])) _
   ·show ListOf 1 yG _ _ _ ((yV st.rows (yd st.rows)).1.map fun r => r.2.2)
    rw [m2]
    exact hCt2.keep (Nat.le_refl _) fun n hn hm => ne (r.nq n (by simp [hm])) _
   ·intro n hn
    rcases zk hn with hn | hn
    ·exact hq4 n hn
    ·exact r.nq n (zi _ hn)
   ·intro n hn hx
    have h1 := hnew4 n hn
    have h2 := r.names n (zg _ (zi _ hx))
    omega
   ·exact r.ps n hn
  have hlt : i < st.rows.length := by
   have : ((i : Nat) : Int) < (st.rows.length : Nat) := by simpa using hlt
   omega
  obtain ⟨rfl, sn, cl, junk, rfl, hsn, hg, hj⟩ := hsC i hlt
  obtain ⟨rfl, sn2, cl2, junk2, rfl, hsn2, hg2, hj2⟩ := hsP i hlt
  obtain ⟨x, hx⟩ : ∃ x, st.rows[i]? = some x := ⟨_, zp hlt⟩
  have hoff : 0 + ((i : Nat) : Int).toNat * 1 = i := by simp
  have hz : nth (flat yG (st.rows.map fun r => r.2.2) ++ junk) (0 + ((i : Nat) : Int).toNat * 1) = some (I x.2.2) := by
   rw [hoff]; exact kQ (by rw [List.getElem?_map, hx]; rfl) junk
  have hw1 : IntKind.i64.wrap ((i : Int) + 1) = ((i + 1 : Nat) : Int) := by rw [Go.IntWalk.i64_in _ (by omega)]; omega
  by_cases hp : x.2.2 > 0
  case neg =>
   have e1 : decide (x.2.2 > 0) = false := by simpa using hp
   repeat' (first | apply zw | apply zx | apply zz | apply zB | refine za rfl rfl (fun _ => rfl) ?_ | refine zL rfl rfl (zW rfl rfl rfl hobj2 rfl ⟨(by simp [zc] <;> omega), ?_⟩) | refine zL rfl rfl (zZ (k := 1) rfl rfl rfl rfl ⟨by omega, by omega⟩ ⟨(by simp [zc] <;> omega), ?_⟩) | refine zL rfl rfl (zW rfl rfl rfl hg hz ⟨(by simp [zc] <;> omega), ?_⟩))
   simp only [e1]
   repeat' (first | apply zK | refine za rfl rfl (fun _ => rfl) ?_ | refine zM rfl rfl ?_ | refine zU ?_)
   refine zd rfl ?_
   repeat' (first | apply zx | apply zz | apply zK | refine za rfl rfl (fun _ => rfl) ?_ | refine zU ?_)
   refine ⟨i + 1, by omega, ?_, by omega, rfl, ?_, hf2⟩
   ·rw [hw1]; exact set4 rfl rfl rfl rfl
   ·rw [<- unm_skip _ hx (fun hm => hp ((live_order hl hx).1 hm))]; exact hp2
  have e1 : decide (x.2.2 > 0) = true := by simpa using hp
  have hio := (live_order hl hx).2 hp
  have hng := mrk_neg hl (k := (yd st.rows).length) hx (by rw [List.take_of_length_le (Nat.le_refl _)]; exact hio)
  have hgu : (unm st.rows st.bs.length i)[i]? = some (sat st.rows (yd st.rows).length i - st.bs.length - 1) := by
   rw [unm_get hx, if_neg (Nat.lt_irrefl _), if_pos hio]
  have hz2 : nth (flat yG (unm st.rows st.bs.length i) ++ junk2) (0 + ((i : Nat) : Int).toNat * 1) = some (I (sat st.rows (yd st.rows).length i - st.bs.length - 1)) := by
   rw [hoff]; exact kQ hgu junk2
  have e2 : decide (sat st.rows (yd st.rows).length i - (st.bs.length : Int) - 1 < 0) = true := decide_eq_true hng.1
  have hw2 : IntKind.i64.wrap (IntKind.i64.wrap (sat st.rows (yd st.rows).length i - (st.bs.length : Int) - 1 + (st.bs.length : Int)) + 1) = sat st.rows (yd st.rows).length i := by
   rw [Go.IntWalk.i64_in (sat st.rows (yd st.rows).length i - (st.bs.length : Int) - 1 + (st.bs.length : Int)) (by omega), Go.IntWalk.i64_in _ (by omega)]; omega
  have hfl : 0 + ((i : Nat) : Int).toNat * 1 + 1 <= (flat yG (unm st.rows st.bs.length i) ++ junk2).length := by
   rw [hoff, zr, yv je, jZ]; omega
  have n21 : sn2 ≠ q := hnq sn2 (by simp [zS])
  repeat' (first | apply zw | apply zx | apply zz | apply zB | refine za rfl rfl (fun _ => rfl) ?_ | refine zL rfl rfl (zW rfl rfl rfl hobj2 rfl ⟨(by simp [zc] <;> omega), ?_⟩) | refine zL rfl rfl (zZ (k := 1) rfl rfl rfl rfl ⟨by omega, by omega⟩ ⟨(by simp [zc] <;> omega), ?_⟩) | refine zL rfl rfl (zW rfl rfl rfl hg hz ⟨(by simp [zc] <;> omega), ?_⟩))
  simp only [e1]
  repeat' (first | apply zK | refine za rfl rfl (fun _ => rfl) ?_ | refine zU ?_ | refine zL rfl rfl (zW rfl rfl rfl hobj2 rfl ⟨(by simp [zc] <;> omega), ?_⟩) | refine zL rfl rfl (zZ (k := 1) rfl rfl rfl rfl ⟨by omega, by omega⟩ ⟨(by simp [zc] <;> omega), ?_⟩) | refine zL rfl rfl (zW rfl rfl rfl hg2 hz2 ⟨(by simp [zc] <;> omega), ?_⟩))
  refine zH rfl (fun _ => ?_) (fun hb => by rw [e2] at hb; cases hb)
  repeat' (first | apply zy | refine zb rfl rfl (fun _ => rfl) ?_ | refine zO rfl rfl (zW rfl rfl rfl hobj2 rfl ⟨(by simp [zc] <;> omega), ?_⟩) | refine zO rfl rfl (zZ (k := 1) rfl rfl rfl rfl ⟨by omega, by omega⟩ ⟨(by simp [zc] <;> omega), ?_⟩) | refine zO rfl rfl (zW rfl rfl rfl hg2 hz2 ⟨(by simp [zc] <;> omega), ?_⟩) | refine zO rfl rfl (ya (k := 1) rfl rfl rfl rfl hg2 hfl rfl ⟨(by simp [zc] <;> omega), ?_⟩))
  refine zN (ym (cs := [0, 1, 3, 7, 0, 0, 32, 96, 224, 0, 992, 2016, 0, 8160, 16352, 32767, 65535]) (by decide +kernel) ?_) ?_
  ·simp +contextual [jt, apP, Dis, yF, yE, yw, yA, Nat.testBit, n21, Ne.symm n21]
  repeat' (first | apply zx | apply zK | refine za rfl rfl (fun _ => rfl) ?_ | refine zU ?_)
  refine ⟨i + 1, by omega, ?_, by omega, rfl, ?_, fun n hn => ?_⟩
  ·rw [hw1]; exact set4 rfl rfl rfl rfl
  ·refine .inr ⟨sn2, cl2, junk2, by rw [jZ], hsn2, ?_, hj2⟩
   rw [hw2, hoff, zt]
   exact congrArg (fun l => some (AObj.cells true cl2 l)) ((set_int (by rw [jZ]; exact hlt)).trans (by rw [unm_set]))
  ·rw [zu _ _ _ _ (fun e => hn (by simp [zS, e]))]; exact hf2 n hn
 have hlt : a < st.bs.length := by
  have : ((a : Nat) : Int) < (st.bs.length : Nat) := by simpa using hlt
  omega
 have hwa : IntKind.i64.wrap ((a : Int) + 1) = ((a + 1 : Nat) : Int) := by rw [Go.IntWalk.i64_in _ (by omega)]; omega
 repeat' (first | apply zw | apply zx | apply zz | apply zB | apply zK | refine za rfl rfl (fun _ => rfl) ?_)
 refine zI ?_
 refine zQ (X := Nat) (fun i e h' c' => ∃ k v4, (∃ b0, e = MapI.set (MapI.set (MapI.set (MapI.set (MapI.set b0 0 (.ptr (some (q, 0)))) 3 (I st.bs.length)) 4 v4) 5 (I a)) 6 (I i)) /\ i <= st.rows.length /\ Mid st.rows a i k /\ Scan h c vP st k h' c' v4)
  (fun i => st.rows.length - i) ?_ 0 _ _ _ ⟨k, v4, set5 rfl rfl rfl rfl rfl, Nat.zero_le _, hm, hs⟩
 clear hm hs k v4
 rintro i e h' c' ⟨k, v4, ⟨b0, rfl⟩, hi, hm, hs⟩
 obtain ⟨hq', hB', hSz', hCt'⟩ := keepC hs
 have hobj' : MapI.get h' q = _ := hq'.trans hobj
 obtain ⟨sC, capC, hvC, hsC⟩ := hCt'.shapeN (List.length_map _)
 obtain ⟨sP, capP, hvP, hsP⟩ := hs.pl.shapeN (qg _ _ _)
 obtain ⟨sS, capS, hvS, hsS⟩ := hSz'.shapeN (List.length_map _)
 subst hvC
 subst hvP
 subst hvS
 repeat' (first | apply zw | apply zx | apply zK | refine za rfl rfl (fun _ => rfl) ?_ | refine zU ?_ | refine zL rfl rfl (zW rfl rfl rfl hobj' rfl ⟨(by simp [zc] <;> omega), ?_⟩))
 refine zH rfl (fun hlt2 => ?_) (fun hge => ?_)
 case refine_2 =>
  have hge : i = st.rows.length := by
   have : ¬ ((i : Nat) : Int) < (st.rows.length : Nat) := by simpa using hge
   omega
  subst hge
  repeat' (first | apply zx | apply zF | apply zK | refine za rfl rfl (fun _ => rfl) ?_ | refine zU ?_)
  refine ⟨a + 1, by omega, k, v4, ?_, by omega, hm.next, hs⟩
  rw [hwa]; exact set4 rfl rfl rfl rfl
 have hlt2 : i < st.rows.length := by
  have : ((i : Nat) : Int) < (st.rows.length : Nat) := by simpa using hlt2
  omega
 obtain ⟨rfl, sn, cl, junk, rfl, hsn, hg, hj⟩ := hsC i hlt2
 obtain ⟨rfl, sn2, cl2, junk2, rfl, hsn2, hg2, hj2⟩ := hsP i hlt2
 obtain ⟨rfl, sn3, cl3, junk3, rfl, hsn3, hg3, hj3⟩ := hsS i hlt2
 obtain ⟨⟨xa, xn, xc⟩, hx⟩ : ∃ x, st.rows[i]? = some x := ⟨_, zp hlt2⟩
 have hoff : 0 + ((i : Nat) : Int).toNat * 1 = i := by simp
 have hz : nth (flat yG (st.rows.map fun r => r.2.2) ++ junk) (0 + ((i : Nat) : Int).toNat * 1) = some (I xc) := by
  rw [hoff]; exact kQ (by rw [List.getElem?_map, hx]; rfl) junk
 have hz3 : nth (flat yG (st.rows.map fun r => r.2.1) ++ junk3) (0 + ((i : Nat) : Int).toNat * 1) = some (I xn) := by
  rw [hoff]; exact kQ (by rw [List.getElem?_map, hx]; rfl) junk3
 have hw1 : IntKind.i64.wrap ((i : Int) + 1) = ((i + 1 : Nat) : Int) := by rw [Go.IntWalk.i64_in _ (by omega)]; omega
 by_cases hp : xc > 0
 case neg =>
  have e1 : decide (xc > 0) = false := by simpa using hp
  repeat' (first | apply zw | apply zx | apply zz | apply zB | refine za rfl rfl (fun _ => rfl) ?_ | refine zL rfl rfl (zW rfl rfl rfl hobj' rfl ⟨(by simp [zc] <;> omega), ?_⟩) | refine zL rfl rfl (zZ (k := 1) rfl rfl rfl rfl ⟨by omega, by omega⟩ ⟨(by simp [zc] <;> omega), ?_⟩) | refine zL rfl rfl (zW rfl rfl rfl hg hz ⟨(by simp [zc] <;> omega), ?_⟩))
  simp only [e1]
  repeat' (first | apply zK | refine za rfl rfl (fun _ => rfl) ?_ | refine zM rfl rfl ?_ | refine zU ?_)
  refine zd rfl ?_
  repeat' (first | apply zx | apply zz | apply zK | refine za rfl rfl (fun _ => rfl) ?_ | refine zU ?_)
  refine ⟨i + 1, by omega, k, v4, ?_, by omega, hm.skip hl (fun q' h1 h2 => by rw [hx] at h1; cases h1; exact absurd h2 hp), hs⟩
  rw [hw1]; exact set5 rfl rfl rfl rfl rfl
 have e1 : decide (xc > 0) = true := by simpa using hp
 have hin := hl.in_ i _ hx hp
 simp only at hin
 have hgm := mrk_get (was := (st.bs.length : Int)) (k := k) hx
 have hz2 : nth (flat yG (mrk st.rows st.bs.length k) ++ junk2) (0 + ((i : Nat) : Int).toNat * 1) = some (I (if i ∈ (yd st.rows).take k then sat st.rows k i - st.bs.length - 1 else xa)) := by
  rw [hoff]; exact kQ hgm junk2
 have hno : xa ≠ (a : Int) -> (if i ∈ (yd st.rows).take k then sat st.rows k i - (st.bs.length : Int) - 1 else xa) ≠ (a : Int) := fun hne => by
  split
  ·next hmk => have := mrk_neg hl hx hmk; omega
  ·exact hne
 have hyes : xa = (a : Int) -> (yd st.rows)[k]? = some i /\ Mid st.rows a (i + 1) (k + 1) := fun e => hm.hit hl hx hp e
 by_cases hxa : xa = (a : Int)
 case neg =>
  have e2 : ((if i ∈ (yd st.rows).take k then sat st.rows k i - (st.bs.length : Int) - 1 else xa) == (a : Int)) = false := beq_eq_false_iff_ne.2 (hno hxa)
  repeat' (first | apply zw | apply zx | apply zz | apply zB | refine za rfl rfl (fun _ => rfl) ?_ | refine zL rfl rfl (zW rfl rfl rfl hobj' rfl ⟨(by simp [zc] <;> omega), ?_⟩) | refine zL rfl rfl (zZ (k := 1) rfl rfl rfl rfl ⟨by omega, by omega⟩ ⟨(by simp [zc] <;> omega), ?_⟩) | refine zL rfl rfl (zW rfl rfl rfl hg hz ⟨(by simp [zc] <;> omega), ?_⟩))
  simp only [e1]
  repeat' (first | apply zK | refine za rfl rfl (fun _ => rfl) ?_ | refine zU ?_ | refine zL rfl rfl (zW rfl rfl rfl hobj' rfl ⟨(by simp [zc] <;> omega), ?_⟩) | refine zL rfl rfl (zZ (k := 1) rfl rfl rfl rfl ⟨by omega, by omega⟩ ⟨(by simp [zc] <;> omega), ?_⟩) | refine zL rfl rfl (zW rfl rfl rfl hg2 hz2 ⟨(by simp [zc] <;> omega), ?_⟩))
  refine zH rfl (fun hb => by rw [e2] at hb; cases hb) (fun _ => ?_)
  repeat' (first | apply zx | apply zz | apply zK | refine za rfl rfl (fun _ => rfl) ?_ | refine zU ?_)
  refine ⟨i + 1, by omega, k, v4, ?_, by omega, hm.skip hl (fun q' h1 h2 => by rw [hx] at h1; cases h1; exact hxa), hs⟩
  rw [hw1]; exact set5 rfl rfl rfl rfl rfl
 obtain ⟨hik, hm2⟩ := hyes hxa
 have hnot := not_take (o.nodup hl) hik
 rw [if_neg hnot] at hz2
 subst hxa
 obtain ⟨n, rfl⟩ : ∃ n : Nat, xn = n := ⟨xn.toNat, by omega⟩
 have hnx := o.next hl hik hx
 have hol2 := o.outs_len hl k
 have hfit := o.fits hl k
 have hnn := o.nonneg hl k
 obtain ⟨t, hte⟩ : ∃ t : Nat, (yV st.rows ((yd st.rows).take k)).2 = t := ⟨(qd st.bs st.rows ((yd st.rows).take k)).length, by omega⟩
 rw [hte] at hol2 hfit
 have hlo : (qd st.bs st.rows ((yd st.rows).take k)).length = t := by omega
 obtain ⟨s4, cap4, hv4, _⟩ := hs.o.shapeN hlo
 subst hv4
 obtain ⟨rfl, sbn, clb, jkb, rfl, hsbn, hgb, hjb⟩ := hsB 0 (by omega)
 have hgb' : MapI.get h' sbn = some (.cells true clb (flat qb st.bs ++ jkb)) := by
  rw [hs.old sbn hsbn (fun hx => r.bp sbn (by simp [zS]) (by simp [hx]))]; exact hgb
 have hsbc : sbn < c' := by have := hs.le; omega
 have hwan : IntKind.i64.wrap ((a : Int) + (n : Int)) = ((a + n : Nat) : Int) := by rw [Go.IntWalk.i64_in _ (by omega)]; omega
 have hcl : (gN st.bs ((a : Int), (n : Int), xc)).length = n := by rw [wt (by simp only; omega) (by simp only; omega) hin.2.2]; simp
 have hsub : SubOf 1 qb h' c' (.slice (some (sbn, 0 + a * (0 + 1))) (a + n - a) (.upTo 1)) (gN st.bs ((a : Int), (n : Int), xc)) := by
  rw [show a + n - a = (gN st.bs ((a : Int), (n : Int), xc)).length from by rw [hcl]; omega]
  refine .inr ⟨sbn, _, _, true, clb, _, rfl, hsbc, hgb', ?_⟩
  rw [show 0 + a * (0 + 1) = a from by simp, hcl, Nat.mul_one]
  exact cut_bytes (by omega)
 have hts : IntKind.i64.wrap (IntKind.i64.wrap ((t : Int) - (st.bs.length : Int)) - 1) = (t : Int) - st.bs.length - 1 := by
  rw [Go.IntWalk.i64_in ((t : Int) - (st.bs.length : Int)) (by omega), Go.IntWalk.i64_in _ (by omega)]
 have hfl : 0 + ((i : Nat) : Int).toNat * 1 + 1 <= (flat yG (mrk st.rows st.bs.length k) ++ junk2).length := by
  rw [hoff, zr, yv je, qg]; omega
 have nms := r.names
 have hn4 := hs.new
 have hle' := hs.le
 have inl : ∀ x, x ∈ rn q (.slice (some (sbn, 0)) st.bs.length (.upTo 1)) (.slice (some (sn2, 0)) st.rows.length (.upTo 1)) (.slice (some (sn3, 0)) st.rows.length (.upTo 1)) (.slice (some (sn, 0)) st.rows.length (.upTo 1)) -> x < c := fun x hx => nms x hx
 repeat' (first | apply zw | apply zx | apply zz | apply zB | refine za rfl rfl (fun _ => rfl) ?_ | refine zL rfl rfl (zW rfl rfl rfl hobj' rfl ⟨(by simp [zc] <;> omega), ?_⟩) | refine zL rfl rfl (zZ (k := 1) rfl rfl rfl rfl ⟨by omega, by omega⟩ ⟨(by simp [zc] <;> omega), ?_⟩) | refine zL rfl rfl (zW rfl rfl rfl hg hz ⟨(by simp [zc] <;> omega), ?_⟩))
 simp only [e1]
 repeat' (first | apply zK | refine za rfl rfl (fun _ => rfl) ?_ | refine zU ?_ | refine zL rfl rfl (zW rfl rfl rfl hobj' rfl ⟨(by simp [zc] <;> omega), ?_⟩) | refine zL rfl rfl (zZ (k := 1) rfl rfl rfl rfl ⟨by omega, by omega⟩ ⟨(by simp [zc] <;> omega), ?_⟩) | refine zL rfl rfl (zW rfl rfl rfl hg2 hz2 ⟨(by simp [zc] <;> omega), ?_⟩))
 refine zH rfl (fun _ => ?_) (fun hb => by simp at hb)
 repeat' (first | apply zw | apply zx | apply zy | apply zK | refine za rfl rfl (fun _ => rfl) ?_ | refine zb rfl rfl (fun _ => rfl) ?_ | refine zO rfl rfl (zW rfl rfl rfl hobj' rfl ⟨(by simp [zc] <;> omega), ?_⟩) | refine zO rfl rfl (zZ (k := 1) rfl rfl rfl rfl ⟨by omega, by omega⟩ ⟨(by simp [zc] <;> omega), ?_⟩) | refine zO rfl rfl (zW rfl rfl rfl hg3 hz3 ⟨(by simp [zc] <;> omega), ?_⟩) | refine zO rfl rfl (qp rfl rfl rfl rfl rfl (jq (n := a) rfl) (jq hwan) (by omega) (by omega) rfl ⟨(by simp [zc] <;> omega), ?_⟩))
 refine zO rfl rfl (qh (cells := qb) rfl rfl elB rfl gr byte_all hs.o hsub (by rw [hlo, hcl]; omega) (fun x hx => .inl (by simp [zS] at hx; simp [yF, hx, zS])) (fun x hx => ⟨.inr (hn4 x hx), .inr (hn4 x hx)⟩) (.inr (by simp [yE]; omega)) fun v5 h5 c5 al hl5 hn5 hc5 hf5 hal5 => ?_)
 repeat' (first | refine zb rfl rfl (fun _ => rfl) ?_)
 refine zN (ym (cs := [0, 0, 2, 6, 14, 0, 0, 0, 128, 384, 896, 0, 3968, 8064, 16320, 32766, 65535, 131071]) (by decide +kernel) ?_) ?_
 ·simp +contextual [jt, apP, Dis, yF, yE, yw, yA, Nat.testBit]
 have hsnp : ∀ x, x < c -> MapI.get h5 x = MapI.get h' x := fun x hx => hf5 x (by omega) (fun hm => by have := hn4 x hm; omega)
 have hqc : q < c := hlq
 have hobj5 : MapI.get h5 q = _ := (hsnp q hqc).trans hobj'
 have h2c : sn2 < c := hPlt sn2 (by simp [zS])
 have hg25 : MapI.get h5 sn2 = _ := (hsnp sn2 h2c).trans hg2
 have n21 : sn2 ≠ q := hnq sn2 (by simp [zS])
 repeat' (first | apply zx | apply zK | refine za rfl rfl (fun _ => rfl) ?_ | refine zU ?_ | refine zL rfl rfl (zW rfl rfl rfl hobj5 rfl ⟨(by simp [zc] <;> omega), ?_⟩) | refine zL rfl rfl (zZ (k := 1) rfl rfl rfl rfl ⟨by omega, by omega⟩ ⟨(by simp [zc] <;> omega), ?_⟩) | refine zL rfl rfl (ya (k := 1) rfl rfl rfl rfl hg25 hfl rfl ⟨(by simp [zc] <;> omega), ?_⟩))
 refine ⟨i + 1, by omega, k + 1, v5, ?_, by omega, hm2, ?_, ?_, fun x hx => ?_, by omega, fun x hx hxp => ?_⟩
 ·rw [hw1]; exact set5 rfl rfl rfl rfl rfl
 ·refine .inr ⟨sn2, cl2, junk2, by rw [qg], by omega, ?_, hj2⟩
  rw [hts, hoff, zt]
  exact congrArg (fun l => some (AObj.cells true cl2 l)) ((set_int (by rw [qg]; exact hlt2)).trans (by rw [<- hte, mrk_set hl _ hik hx]))
 ·rw [ql hik, outs_snoc hx]
  exact hl5.keep (Nat.le_refl _) fun x hx hm => zu _ sn2 x _ (fun e => by
   rcases hn5 x hm with h1 | ⟨h1, _⟩
   ·have := hn4 x h1; omega
   ·omega)
 ·rcases hn5 x hx with h1 | ⟨h1, _⟩
  ·exact hn4 x h1
  ·omega
 ·rw [zu _ _ _ _ (fun e => hxp (by simp [zS, e])), hsnp x hx]
  exact hs.old x hx hxp
open Go.Ab
theorem RefAt.setAt {h : HH} {c q sn i off len : Nat} {vB vS vC : V} {st : St} {cl : Bool} {junk : List V} {xs : List Int} {x : R3} {z : Int} (r : RefAt h c q vB (.slice (some (sn, 0)) len (.upTo 1)) vS vC st) (hlen : len = st.rows.length) (hsn : sn < c) (hj : junk.all jR = true) (hx : st.rows[i]? = some x) (hxs : xs = st.rows.map fun r => r.1) (ho : off = i) :
  RefAt (MapI.set h sn (.cells true cl (yu (flat yG xs ++ junk) off [I z]))) c q vB (.slice (some (sn, 0)) len (.upTo 1)) vS vC { st with rows := st.rows.set i (z, x.2.1, x.2.2) } := by
 subst hlen hxs ho
 have hi := (zj hx).1
 refine ⟨by rw [zu _ _ _ _ (r.nq sn (by simp [zS]))]; exact r.obj,
  r.b.keep (Nat.le_refl _) fun n hn hx => zu _ _ _ _ fun e => r.bp n hx (by rw [<- e]; simp [zS]), ?_, ?_, ?_, r.lq, r.nq, r.bp, r.ps, r.sc⟩
 ·refine .inr ⟨sn, cl, junk, by simp, hsn, ?_, hj⟩
  rw [zt, set_int (by rw [List.length_map]; exact hi)]
  simp only [List.map_set]
 ·show ListOf 1 yG _ c vS ((st.rows.set off (z, x.2.1, x.2.2)).map fun r => r.2.1)
  rw [map_sz hx]
  exact r.sz.keep (Nat.le_refl _) fun n hn hx => zu _ _ _ _ fun e => r.ps sn (by simp [zS]) (by rw [e]; simp [hx])
 ·show ListOf 1 yG _ c vC ((st.rows.set off (z, x.2.1, x.2.2)).map fun r => r.2.2)
  rw [map_ct hx]
  exact r.ct.keep (Nat.le_refl _) fun n hn hx => zu _ _ _ _ fun e => r.ps sn (by simp [zS]) (by rw [e]; simp [hx])
theorem RefAt.setSize {h : HH} {c q sn i off len : Nat} {vB vP vC : V} {st : St} {cl : Bool} {junk : List V} {xs : List Int} {x : R3} {z : Int} (r : RefAt h c q vB vP (.slice (some (sn, 0)) len (.upTo 1)) vC st) (hlen : len = st.rows.length) (hsn : sn < c) (hj : junk.all jR = true) (hx : st.rows[i]? = some x) (hxs : xs = st.rows.map fun r => r.2.1) (ho : off = i) :
  RefAt (MapI.set h sn (.cells true cl (yu (flat yG xs ++ junk) off [I z]))) c q vB vP (.slice (some (sn, 0)) len (.upTo 1)) vC { st with rows := st.rows.set i (x.1, z, x.2.2) } := by
 subst hlen hxs ho
 have hi := (zj hx).1
 refine ⟨by rw [zu _ _ _ _ (r.nq sn (by simp [zS]))]; exact r.obj,
  r.b.keep (Nat.le_refl _) fun n hn hx => zu _ _ _ _ fun e => r.bp n hx (by rw [<- e]; simp [zS]), ?_, ?_, ?_, r.lq, r.nq, r.bp, r.ps, r.sc⟩
 ·show ListOf 1 yG _ c vP ((st.rows.set off (x.1, z, x.2.2)).map fun r => r.1)
  rw [map_pl hx]
  exact r.pl.keep (Nat.le_refl _) fun n hn hx => zu _ _ _ _ fun e => r.ps n hx (by rw [<- e]; simp [zS])
 ·refine .inr ⟨sn, cl, junk, by simp, hsn, ?_, hj⟩
  rw [zt, set_int (by rw [List.length_map]; exact hi)]
  simp only [List.map_set]
 ·show ListOf 1 yG _ c vC ((st.rows.set off (x.1, z, x.2.2)).map fun r => r.2.2)
  rw [map_ct hx]
  exact r.ct.keep (Nat.le_refl _) fun n hn hx => zu _ _ _ _ fun e => r.sc sn (by simp [zS]) (by rw [e]; exact hx)
theorem RefAt.setCnt {h : HH} {c q sn i off len : Nat} {vB vP vS : V} {st : St} {cl : Bool} {junk : List V} {xs : List Int} {x : R3} {z : Int} (r : RefAt h c q vB vP vS (.slice (some (sn, 0)) len (.upTo 1)) st) (hlen : len = st.rows.length) (hsn : sn < c) (hj : junk.all jR = true) (hx : st.rows[i]? = some x) (hxs : xs = st.rows.map fun r => r.2.2) (ho : off = i) :
  RefAt (MapI.set h sn (.cells true cl (yu (flat yG xs ++ junk) off [I z]))) c q vB vP vS (.slice (some (sn, 0)) len (.upTo 1)) { st with rows := st.rows.set i (x.1, x.2.1, z) } := by
 subst hlen hxs ho
 exact r.setCount hsn hj hx
theorem inR_reads {ns : List Nat} {c : Nat} {al : List Acc} (hal : ∀ x ∈ al, InR ns c x) {n : Nat} (hn : n < c) : (∀ x ∈ al, x.name = n -> x.writes = false) /\ (∀ x ∈ al, n = x.name -> x.writes = false) := by
 have key : ∀ x ∈ al, x.name = n -> x.writes = false := fun x hx e => by
  cases hw : x.writes with
  | false => rfl
  | true => have := (hal x hx).2 hw; omega
 exact ⟨key, fun x hx e => key x hx e.symm⟩
theorem rgrant_no {h : HH} {c q n : Nat} {vB vP vS vC : V} {st : St} {a : Option (Nat × Nat)} {cap : Cap} (r : RefAt h c q vB vP vS vC st) (hlen : st.rows.length <= 1000) (hsz : Sized st.rows) (hn : 0 < n) (hn2 : n <= 100000000) (hm : 0 <= st.most /\ st.most <= 1048576) (hno : tot st.rows > st.most - n) :
  Does 10 [.ptr (some (q, 0)), .slice a n cap] h c (rn q vB vP vS vC) fun v h' c' => v = .tuple [I 0, .bool false] /\ h' = h /\ c' = c := by
 have hobj := r.obj
 have hlq := r.lq
 have hw : IntKind.i64.wrap (st.most - (n : Int)) = st.most - n := Go.IntWalk.i64_in _ (by omega)
 refine yi (enter (fn := Tryz.f10) Tryz.func10 rfl rfl (zf rfl) ?_)
 repeat' (first | apply zw | apply zx | apply zK | refine za rfl rfl (fun _ => rfl) ?_ | refine zU ?_)
 refine zH rfl (fun hb => by simp at hb; omega) (fun _ => ?_)
 repeat' (first | apply zw | apply zy | apply zz | refine zb rfl rfl (fun _ => rfl) ?_)
 refine zO rfl rfl (jy rfl (rliveR r hlen hsz) (fun x hx => .inl hx) (Nat.le_refl _) fun v h4 c4 al hal hc4 hfr4 hq => ?_)
 obtain ⟨rfl, rfl, rfl⟩ := hq
 obtain ⟨b1, b2⟩ := inR_reads hal hlq
 repeat' (first | refine zb rfl rfl (fun _ => rfl) ?_ | refine zO rfl rfl (zW rfl rfl rfl hobj rfl ⟨(by simp [zc] <;> omega), ?_⟩))
 refine zN (ym (cs := [0, 1, 0, 4, 12, 28, 0, 64, 252, 511]) (by decide +kernel) ?_) ?_
 ·simp +contextual [jt, apP, Dis, yF, yE, yw, yA, Nat.testBit, b1, b2]
 refine zH rfl (fun _ => ?_) (fun hb => by rw [hw] at hb; simp at hb; omega)
 repeat' (first | apply zw | apply zx | apply zG | apply zK | refine za rfl rfl (fun _ => rfl) ?_ | refine yn ?_)
 exact z6 rfl ⟨rfl, rfl, rfl⟩
set_option maxHeartbeats 16000000 in
theorem rgrant_full {h : HH} {c q m o n : Nat} {vB vP vS vC : V} {st : St} {cap : Cap} {rw' cl' : Bool} {cs : List V} {ys : List Int} (r : RefAt h c q vB vP vS vC st) (hl : qz st.bs.length st.rows) (hsz : Sized st.rows) (hfit : (st.bs.length : Int) <= st.most) (hn : 0 < n) (hn2 : n <= 1048576) (hy : ys.length = n) (hx : MapI.get h m = some (.cells rw' cl' cs)) (hcut : cut cs o (n * 1) = some (flat qb ys)) (hm : 0 <= st.most /\ st.most <= 1048576)
  (hyes : tot st.rows <= st.most - n) (hlen : st.rows.length <= 999) (hmc : m < c) (hmn : m ∉ rn q vB vP vS vC) :
  Does 10 [.ptr (some (q, 0)), .slice (some (m, o)) n cap] h c (m :: rn q vB vP vS vC) fun v h' c' => MapI.get h' m = MapI.get h m /\ ∃ (i : Nat) (vB' vP' vS' vC' : V) (rows' : List (Int × Int × Int)), v = .tuple [I ((i + 1 : Nat) : Int), .bool true] /\
   RefAt h' c' q vB' vP' vS' vC' ⟨(jA st n).bs ++ ys, st.most, rows', st.live + n⟩ /\ (∀ a ∈ rn q vB' vP' vS' vC', a ∈ rn q vB vP vS vC \/ c <= a) /\ i <= st.rows.length /\ (∀ j p, j < i -> (jA st n).rows[j]? = some p -> p.2.2 > 0) /\
   ((∃ p, (jA st n).rows[i]? = some p /\ ¬ p.2.2 > 0 /\ rows' = (jA st n).rows.set i ((jA st n).bs.length, n, 1)) \/ (i = st.rows.length /\ rows' = (jA st n).rows ++ [(((jA st n).bs.length : Int), (n : Int), (1 : Int))])) := by
 have hobj := r.obj
 have hlq := r.lq
 have hw : IntKind.i64.wrap (st.most - (n : Int)) = st.most - n := Go.IntWalk.i64_in _ (by omega)
 have hot := gO hl
 obtain ⟨sb, cb, hvB, _⟩ := r.b.shape
 refine yi (enter (fn := Tryz.f10) Tryz.func10 rfl rfl (zf rfl) ?_)
 subst hvB
 repeat' (first | apply zw | apply zx | apply zK | refine za rfl rfl (fun _ => rfl) ?_ | refine zU ?_)
 refine zH rfl (fun hb => by simp at hb; omega) (fun _ => ?_)
 repeat' (first | apply zw | apply zy | apply zz | refine zb rfl rfl (fun _ => rfl) ?_)
 refine zO rfl rfl (jy rfl (rliveR r (by omega) hsz) (fun x hx => .inl (zg _ hx)) (Nat.le_refl _) fun v h4 c4 al hal hc4 hfr4 hq => ?_)
 obtain ⟨rfl, rfl, rfl⟩ := hq
 obtain ⟨b1, b2⟩ := inR_reads hal hlq
 repeat' (first | refine zb rfl rfl (fun _ => rfl) ?_ | refine zO rfl rfl (zW rfl rfl rfl hobj rfl ⟨(by simp [zc] <;> omega), ?_⟩))
 refine zN (ym (cs := [0, 1, 0, 4, 12, 28, 0, 64, 252, 511]) (by decide +kernel) ?_) ?_
 ·simp +contextual [jt, apP, Dis, yF, yE, yw, yA, Nat.testBit, b1, b2]
 refine zH rfl (fun hb => by rw [hw] at hb; simp at hb; omega) (fun _ => ?_)
 repeat' (first | refine zJ (a := Code.seq (Code.region 5 _ _) _) (fun e h1 c1 => (∃ b0, e = MapI.set (MapI.set b0 0 (.ptr (some (q, 0)))) 1 (.slice (some (m, o)) n cap)) /\ c4 <= c1 /\ MapI.get h1 m = MapI.get h4 m /\ ∃ vB1, (∀ a ∈ zS vB1, a ∈ zS (.slice sb st.bs.length cb) \/ c4 <= a) /\ RefAt h1 c1 q vB1 vP vS vC (jA st n)) ?_ ?_ | apply zw | apply zy | apply zz | refine zb rfl rfl (fun _ => rfl) ?_)
 ·
  repeat' (first | refine zb rfl rfl (fun _ => rfl) ?_ | refine zO rfl rfl (zW rfl rfl rfl hobj rfl ⟨(by simp [zc] <;> omega), ?_⟩))
  refine zN (ym (cs := [0, 1, 3, 7, 15, 0, 32, 96, 224, 0, 512, 2016, 4095]) (by decide +kernel) ?_) ?_
  ·simp +contextual [jt, apP, Dis, yF, yE, yw, yA, Nat.testBit]
  refine zH rfl (fun hb => ?_) (fun hb => ?_)
  ·rw [hw] at hb
   have hb : (st.bs.length : Int) > st.most - n := by simpa using hb
   have hr : jA st n = kR st := by unfold jA; rw [if_neg (by omega)]
   repeat' (first | apply zx | refine za rfl rfl (fun _ => rfl) ?_)
   refine zL rfl rfl (yj rfl (rslide_ok r (by omega) (by omega) hl) (fun x hx => .inl (zg _ hx)) (Nat.le_refl _) fun v h5 c5 hc5 hfr5 hq => ?_)
   obtain ⟨rfl, _, vB', hvB', r5⟩ := hq
   repeat' (first | apply zK | refine zU ?_)
   refine ⟨set2 rfl rfl, hc5, hfr5 m hmc hmn, vB', fun a ha => .inr (hvB' a ha), ?_⟩
   rw [hr]; exact r5
  ·rw [hw] at hb
   have hb : ¬ (st.bs.length : Int) > st.most - n := by simpa using hb
   have hr : jA st n = st := by unfold jA; rw [if_pos (by omega)]
   repeat' (first | apply zz | refine zU ?_)
   refine ⟨set2 rfl rfl, Nat.le_refl _, rfl, _, fun a ha => .inl ha, ?_⟩
   rw [hr]; exact r
 rintro e1 h1 c1 ⟨⟨b1, rfl⟩, hc1, hx1, vB1, hvB1, r1⟩
 have hmost := room_most st n
 have hbs1 : ((jA st n).bs.length : Int) <= st.most - n := by
  unfold jA
  split
  ·next h => exact h
  ·show ((qd st.bs st.rows (yd st.rows)).length : Int) <= _
   omega
 have hrl := room_rows st n
 generalize jA st n = s1 at r1 hmost hbs1 hrl ⊢
 rw [hx] at hx1
 have hmn1 : m ∉ rn q vB1 vP vS vC := fun hm1 => by
  simp only [List.mem_cons, List.mem_append] at hm1
  rcases hm1 with e | hm1 | hm1
  ·exact hmn (by simp [e])
  ·rcases hvB1 m hm1 with h | h
   ·exact hmn (by simp [h])
   ·omega
  ·exact hmn (by simp; exact .inr (.inr hm1))
 have inm : ∀ a ∈ rn q vB1 vP vS vC, a ∈ m :: rn q (.slice sb st.bs.length cb) vP vS vC \/ c4 <= a := fun a ha => by
  simp only [List.mem_cons, List.mem_append] at ha ⊢
  rcases ha with e | ha | ha
  ·exact .inl (.inr (.inl e))
  ·rcases hvB1 a ha with h | h
   ·exact .inl (.inr (.inr (.inl h)))
   ·exact .inr h
  ·exact .inl (.inr (.inr (.inr ha)))
 have hmc1 : m < c1 := by omega
 have hobj1 := r1.obj
 have hlq1 := r1.lq
 obtain ⟨sC, capC, hvC, hsC⟩ := r1.ct.shapeN (n := s1.rows.length) (List.length_map _)
 repeat' (first | refine zJ (a := Code.block 0 _) (fun e h2 c2 => ∃ i, (∃ b0, e = MapI.set (MapI.set (MapI.set b0 0 (.ptr (some (q, 0)))) 1 (.slice (some (m, o)) n cap)) 6 (I ((i : Nat) : Int))) /\ i <= s1.rows.length /\ (∀ j p, j < i -> s1.rows[j]? = some p -> p.2.2 > 0) /\ (∀ p, s1.rows[i]? = some p -> ¬ p.2.2 > 0) /\ h1 = h2 /\ c1 = c2) ?_ ?_ | apply zw | apply zx | apply zB | apply zK | refine za rfl rfl (fun _ => rfl) ?_)
 ·refine zI ?_
  refine zQ (X := Nat) (fun i e h2 c2 => (∃ b0, e = MapI.set (MapI.set (MapI.set b0 0 (.ptr (some (q, 0)))) 1 (.slice (some (m, o)) n cap)) 6 (I i)) /\ i <= s1.rows.length /\ (∀ j p, j < i -> s1.rows[j]? = some p -> p.2.2 > 0) /\ h1 = h2 /\ c1 = c2)
   (fun i => s1.rows.length - i) ?_ 0 _ _ _ ⟨set3 rfl rfl rfl, Nat.zero_le _, fun j p hj => by omega, rfl, rfl⟩
  rintro i e h2 c2 ⟨⟨b2, rfl⟩, hi, hbef, rfl, rfl⟩
  subst hvC
  by_cases hlt : i < s1.rows.length
  case neg =>
   have e1 : decide (((i : Nat) : Int) < ((s1.rows.length : Nat) : Int)) = false := by simp; omega
   repeat' (first | apply zw | apply zx | refine za rfl rfl (fun _ => rfl) ?_ | refine zL rfl rfl (zW rfl rfl rfl hobj1 rfl ⟨(by simp [zc] <;> omega), ?_⟩))
   simp only [e1]
   repeat' (first | apply zK | refine za rfl rfl (fun _ => rfl) ?_ | refine zM rfl rfl ?_ | refine zU ?_)
   refine zd rfl ?_
   repeat' (first | apply zF | refine zU ?_ | refine ji ?_ | refine jr rfl ?_)
   exact ⟨i, set3 rfl rfl rfl, hi, hbef, fun p hp => by have := (zj hp).1; omega, rfl, rfl⟩
  have e1 : decide (((i : Nat) : Int) < ((s1.rows.length : Nat) : Int)) = true := by simpa using hlt
  obtain ⟨rfl, sn, cl, junk, rfl, hsn, hg, hj⟩ := hsC i hlt
  obtain ⟨x, hx⟩ : ∃ x, s1.rows[i]? = some x := ⟨_, zp hlt⟩
  have hoff : 0 + ((i : Nat) : Int).toNat * 1 = i := by simp
  have hz : nth (flat yG (s1.rows.map fun r => r.2.2) ++ junk) (0 + ((i : Nat) : Int).toNat * 1) = some (I x.2.2) := by
   rw [hoff]; exact kQ (by rw [List.getElem?_map, hx]; rfl) junk
  have hw1 : IntKind.i64.wrap ((i : Int) + 1) = ((i + 1 : Nat) : Int) := by rw [Go.IntWalk.i64_in _ (by omega)]; omega
  have hin : sn ∈ rn q vB1 vP vS (.slice (some (sn, 0)) s1.rows.length (.upTo 1)) := by simp [zS]
  have hLn := inm sn hin
  repeat' (first | apply zw | apply zx | refine za rfl rfl (fun _ => rfl) ?_ | refine zL rfl rfl (zW rfl rfl rfl hobj1 rfl ⟨(by simp [zc] <;> omega), ?_⟩))
  simp only [e1]
  repeat' (first | apply zK | refine za rfl rfl (fun _ => rfl) ?_ | refine zU ?_ | refine zL rfl rfl (zW rfl rfl rfl hobj1 rfl ⟨(by simp [zc] <;> omega), ?_⟩) | refine zL rfl rfl (zZ (k := 1) rfl rfl rfl rfl ⟨by omega, by omega⟩ ⟨(by simp [zc] <;> omega), ?_⟩) | refine zL rfl rfl (zW rfl rfl rfl hg hz ⟨fun x hx => by simp at hx; subst hx; exact hLn, ?_⟩))
  refine zH rfl (fun hp => ?_) (fun hp => ?_)
  ·have hp : x.2.2 > 0 := by simpa using hp
   repeat' (first | apply zx | apply zz | apply zB | apply zK | refine za rfl rfl (fun _ => rfl) ?_ | refine zU ?_ | refine js ?_)
   refine ⟨i + 1, by omega, ?_, by omega, fun j p hj hp2 => ?_, rfl, rfl⟩
   ·rw [hw1]; exact set3 rfl rfl rfl
   ·by_cases e : j = i
    ·subst e; rw [hx] at hp2; cases hp2; exact hp
    ·exact hbef j p (by omega) hp2
  ·have hp : ¬ x.2.2 > 0 := by simpa using hp
   repeat' (first | apply zF | refine zU ?_ | refine ji ?_ | refine jr rfl ?_)
   exact ⟨i, set3 rfl rfl rfl, hi, hbef, fun p hp2 => by rw [hx] at hp2; cases hp2; exact hp, rfl, rfl⟩
 rintro e2 h2 c2 ⟨i, ⟨b2, rfl⟩, hi, hbef, hdead, rfl, rfl⟩
 have nme := r1.names
 have hqP : ∀ a ∈ zS vP, a ≠ q := fun a ha => r1.nq a (by simp [ha])
 have hqS : ∀ a ∈ zS vS, a ≠ q := fun a ha => r1.nq a (by simp [ha])
 have hqC : ∀ a ∈ zS vC, a ≠ q := fun a ha => r1.nq a (by simp [ha])
 have hPc : ∀ a ∈ zS vP, a < c1 := r1.pl.lt
 have hSc : ∀ a ∈ zS vS, a < c1 := r1.sz.lt
 have hCc : ∀ a ∈ zS vC, a < c1 := r1.ct.lt
 have hBc : ∀ a ∈ zS vB1, a < c1 := r1.b.lt
 repeat' (first | refine zJ (a := Code.seq (Code.region 10 _ _) _) (fun e h5 c5 => (∃ b0, e = MapI.set (MapI.set (MapI.set b0 0 (.ptr (some (q, 0)))) 1 (.slice (some (m, o)) n cap)) 6 (I i)) /\ c1 <= c5 /\ MapI.get h5 m = MapI.get h1 m /\ ∃ vP2 vS2 vC2 rows2, RefAt h5 c5 q vB1 vP2 vS2 vC2 { s1 with rows := rows2 } /\ (∀ a ∈ zS vP2 ++ (zS vS2 ++ zS vC2), a ∈ zS vP ++ (zS vS ++ zS vC) \/ c1 <= a) /\ i < rows2.length /\ rows2.length <= s1.rows.length + 1 /\ ((∃ p, s1.rows[i]? = some p /\ ¬ p.2.2 > 0 /\ rows2.set i ((s1.bs.length : Int), (n : Int), (1 : Int)) = s1.rows.set i (s1.bs.length, n, 1)) \/ (i = s1.rows.length /\ rows2.set i ((s1.bs.length : Int), (n : Int), (1 : Int)) = s1.rows ++ [((s1.bs.length : Int), (n : Int), (1 : Int))]))) ?_ ?_ | apply zw | apply zx | refine za rfl rfl (fun _ => rfl) ?_)
 ·by_cases hlt : i < s1.rows.length
  ·have e1 : (((i : Nat) : Int) == ((s1.rows.length : Nat) : Int)) = false := beq_eq_false_iff_ne.2 (by omega)
   obtain ⟨x, hx⟩ : ∃ x, s1.rows[i]? = some x := ⟨_, zp hlt⟩
   subst hvC
   repeat' (first | apply zK | refine za rfl rfl (fun _ => rfl) ?_ | refine zU ?_ | refine zL rfl rfl (zW rfl rfl rfl hobj1 rfl ⟨(by simp [zc] <;> omega), ?_⟩))
   refine zH rfl (fun hb => by rw [e1] at hb; cases hb) (fun _ => ?_)
   repeat' (first | apply zz | refine zU ?_)
   exact ⟨set3 rfl rfl rfl, Nat.le_refl _, rfl, vP, vS, _, s1.rows, r1, fun a ha => .inl ha, hlt, by omega, .inl ⟨x, hx, hdead x hx, rfl⟩⟩
  ·have hie : i = s1.rows.length := by omega
   have e1 : (((i : Nat) : Int) == ((s1.rows.length : Nat) : Int)) = true := by simp [hie]
   have hlenC : ∃ a b, vC = .slice a s1.rows.length b := ⟨_, _, hvC⟩
   have hlenv : ∀ {W : V -> HH -> Nat -> List Acc -> Prop}, True := fun {_} => trivial
   rw [hvC] at hobj1
   repeat' (first | apply zK | refine za rfl rfl (fun _ => rfl) ?_ | refine zU ?_ | refine zL rfl rfl (zW rfl rfl rfl hobj1 rfl ⟨(by simp [zc] <;> omega), ?_⟩))
   rw [<- hvC] at hobj1
   refine zH rfl (fun _ => ?_) (fun hb => by rw [e1] at hb; cases hb)
   repeat' (first | apply zy | refine zb rfl rfl (fun _ => rfl) ?_ | refine zO rfl rfl (zW rfl rfl rfl hobj1 rfl ⟨(by simp [zc] <;> omega), ?_⟩) | refine zO rfl rfl (yy (k := 1) rfl rfl rfl rfl (by decide) rfl ⟨(by simp [zc] <;> omega), ?_⟩))
   have P0 : ∀ x : AObj, ListOf (0 + 1) yG (MapI.set h1 c1 x) (c1 + 1) vP (s1.rows.map fun r => r.1) := fun x => r1.pl.keep (by omega) fun a ha _ => zu _ _ _ _ (by omega)
   refine zO rfl rfl (qh (ys := [0]) rfl rfl elI rfl je qP (P0 _) (.inr ⟨c1, 0, .known 1, true, true, _, rfl, by omega, zt _ _ _, rfl⟩) (by simp; omega) (fun a ha => .inr (by simp [zS] at ha; simp [yF]; omega)) (fun a ha => by
    have := inm a (by simp [ha])
    exact ⟨this, this⟩) (.inr (by simp [yE]; omega)) fun v3 h3 c3 al3 hl3 hn3 hc3 hf3 hal3 => ?_)
   have f3 : ∀ a, a < c1 -> a ∉ zS vP -> MapI.get h3 a = MapI.get h1 a := fun a ha hx => by rw [hf3 a (by omega) hx, zu _ _ _ _ (by omega)]
   have hobj3 : MapI.get h3 q = _ := (f3 q hlq1 (fun hm => hqP q hm rfl)).trans hobj1
   repeat' (first | refine zb rfl rfl (fun _ => rfl) ?_ | refine zO rfl rfl (zW rfl rfl rfl hobj3 rfl ⟨(by simp [zc] <;> omega), ?_⟩) | refine zO rfl rfl (yy (k := 1) rfl rfl rfl rfl (by decide) rfl ⟨(by simp [zc] <;> omega), ?_⟩))
   have S0 : ∀ x : AObj, ListOf (0 + 1) yG (MapI.set h3 c3 x) (c3 + 1) vS (s1.rows.map fun r => r.2.1) := fun x => (r1.sz.keep (by omega) fun a ha hm => f3 a ha (fun hx => r1.ps a hx (by simp [hm])) : ListOf 1 yG h3 c3 vS _).keep (by omega) fun a ha _ => zu _ _ _ _ (by omega)
   refine zO rfl rfl (qh (ys := [0]) rfl rfl elI rfl je qP (S0 _) (.inr ⟨c3, 0, .known 1, true, true, _, rfl, by omega, zt _ _ _, rfl⟩) (by simp; omega) (fun a ha => .inr (by simp [zS] at ha; simp [yF]; omega)) (fun a ha => by
    have := inm a (by simp [ha])
    exact ⟨this, this⟩) (.inr (by simp [yE]; omega)) fun v4 h4' c4' al4 hl4 hn4 hc4' hf4 hal4 => ?_)
   have f4 : ∀ a, a < c1 -> a ∉ zS vP -> a ∉ zS vS -> MapI.get h4' a = MapI.get h1 a := fun a ha hx hy => by rw [hf4 a (by omega) hy, zu _ _ _ _ (by omega)]; exact f3 a ha hx
   have hobj4 : MapI.get h4' q = _ := (f4 q hlq1 (fun hm => hqP q hm rfl) (fun hm => hqS q hm rfl)).trans hobj1
   repeat' (first | refine zb rfl rfl (fun _ => rfl) ?_ | refine zO rfl rfl (zW rfl rfl rfl hobj4 rfl ⟨(by simp [zc] <;> omega), ?_⟩) | refine zO rfl rfl (yy (k := 1) rfl rfl rfl rfl (by decide) rfl ⟨(by simp [zc] <;> omega), ?_⟩))
   have C0 : ∀ x : AObj, ListOf (0 + 1) yG (MapI.set h4' c4' x) (c4' + 1) vC (s1.rows.map fun r => r.2.2) := fun x => (r1.ct.keep (by omega) fun a ha hm => f4 a ha (fun hx => r1.ps a hx (by simp [hm])) (fun hx => r1.sc a hx hm) : ListOf 1 yG h4' c4' vC _).keep (by omega) fun a ha _ => zu _ _ _ _ (by omega)
   refine zO rfl rfl (qh (ys := [0]) rfl rfl elI rfl je qP (C0 _) (.inr ⟨c4', 0, .known 1, true, true, _, rfl, by omega, zt _ _ _, rfl⟩) (by simp; omega) (fun a ha => .inr (by simp [zS] at ha; simp [yF]; omega)) (fun a ha => by
    have := inm a (by simp [ha])
    exact ⟨this, this⟩) (.inr (by simp [yE]; omega)) fun v5 h5 c5 al5 hl5 hn5 hc5 hf5 hal5 => ?_)
   have f5 : ∀ a, a < c1 -> a ∉ zS vP -> a ∉ zS vS -> a ∉ zS vC -> MapI.get h5 a = MapI.get h1 a := fun a ha hx hy hz => by rw [hf5 a (by omega) hz, zu _ _ _ _ (by omega)]; exact f4 a ha hx hy
   have hobj5 : MapI.get h5 q = some (.cells true true [vB1, I s1.most, vP, vS, vC]) := (f5 q hlq1 (fun hm => hqP q hm rfl) (fun hm => hqS q hm rfl) (fun hm => hqC q hm rfl)).trans hobj1
   have o3 := hl3.one
   have o4 := hl4.one
   have o5 := hl5.one
   have hobj6 : MapI.get (MapI.set h5 q (.cells true true (yu [vB1, I s1.most, vP, vS, vC] 2 (yR v3)))) q = some (.cells true true [vB1, I s1.most, v3, vS, vC]) := by rw [zt, o3.1]; rfl
   have hobj7 : MapI.get (MapI.set (MapI.set h5 q (.cells true true (yu [vB1, I s1.most, vP, vS, vC] 2 (yR v3)))) q (.cells true true (yu [vB1, I s1.most, v3, vS, vC] 3 (yR v4)))) q = some (.cells true true [vB1, I s1.most, v3, v4, vC]) := by rw [zt, o4.1]; rfl
   have qa3 : ∀ x ∈ al3, x.name ≠ q := fun x hx e => by
    rcases hal3 x hx with ⟨h, _⟩ | h | ⟨h, _⟩
    ·simp [zS] at h; omega
    ·exact hqP _ h e
    ·omega
   have qa3' : ∀ x ∈ al3, q ≠ x.name := fun x hx e => qa3 x hx e.symm
   have ua3 : ∀ x ∈ al3, x.name < c3 := fun x hx => by
    rcases hal3 x hx with ⟨h, _⟩ | h | ⟨h, _⟩
    ·simp [zS] at h; omega
    ·have := hPc _ h; omega
    ·omega
   have qa4 : ∀ x ∈ al4, x.name ≠ q := fun x hx e => by
    rcases hal4 x hx with ⟨h, _⟩ | h | ⟨h, _⟩
    ·simp [zS] at h; omega
    ·exact hqS _ h e
    ·omega
   have qa4' : ∀ x ∈ al4, q ≠ x.name := fun x hx e => qa4 x hx e.symm
   have ua4 : ∀ x ∈ al4, x.name < c4' := fun x hx => by
    rcases hal4 x hx with ⟨h, _⟩ | h | ⟨h, _⟩
    ·simp [zS] at h; omega
    ·have := hSc _ h; omega
    ·omega
   have na1 : ∀ x ∈ al3, x.name ≠ c3 := fun x hx e => by have := ua3 x hx; omega
   have na1' : ∀ x ∈ al3, c3 ≠ x.name := fun x hx e => na1 x hx e.symm
   have na2 : ∀ x ∈ al3, x.name ≠ c4' := fun x hx e => by have := ua3 x hx; omega
   have na2' : ∀ x ∈ al3, c4' ≠ x.name := fun x hx e => na2 x hx e.symm
   have na3 : ∀ x ∈ al4, x.name ≠ c4' := fun x hx e => by have := ua4 x hx; omega
   have na3' : ∀ x ∈ al4, c4' ≠ x.name := fun x hx e => na3 x hx e.symm
   have g1 : c1 ≠ q := by omega
   have g2 : c3 ≠ q := by omega
   have g3 : c1 ≠ c3 := by omega
   have g4 : c1 ≠ c4' := by omega
   have g5 : c3 ≠ c4' := by omega
   have g6 : c4' ≠ q := by omega
   have hqin : InL (m :: rn q (.slice sb st.bs.length cb) vP vS vC) c4 (.wr q) := .inl (by simp [yE])
   repeat' (first | refine zb rfl rfl (fun _ => rfl) ?_ | refine zO rfl rfl (ya (k := 1) rfl rfl rfl (by rw [o3.1]; rfl) hobj5 (zf rfl) (by rw [o3.1]; simp [o3.2]) ⟨(by simp [zc] <;> omega), ?_⟩) | refine zO rfl rfl (ya (k := 1) rfl rfl rfl (by rw [o4.1]; rfl) hobj6 (zf rfl) (by rw [o4.1]; simp [o4.2]) ⟨(by simp [zc] <;> omega), ?_⟩) | refine zO rfl rfl (ya (k := 1) rfl rfl rfl (by rw [o5.1]; rfl) hobj7 (zf rfl) (by rw [o5.1]; simp [o5.2]) ⟨(by simp [zc] <;> omega), ?_⟩))
   refine zN (ym (cs := [0, 0, 0, 0, 8, 24, 56, 0, 248, 0, 512, 1536, 3584, 0, 16376, 0, 32768, 98304, 229376, 0, 1048568, 2097145, 4194297, 8388601, 16777211, 33554427, 67108859, 134217727, 268435455, 536870911]) (by decide +kernel) ?_) ?_
   ·simp +contextual [jt, apP, Dis, yF, yE, yw, yA, Nat.testBit, qa3, qa3', qa4, qa4', na1, na1', na2, na2', na3, na3', g1, g2, g3, g4, g5, g6, Ne.symm g6, Ne.symm g1, Ne.symm g2, Ne.symm g3, Ne.symm g4, Ne.symm g5]
   have nv3 : ∀ a ∈ zS v3, (a ∈ zS vP \/ c1 <= a) /\ a < c3 /\ a ≠ q /\ a ≠ c3 := fun a ha => by
    rcases hn3 a ha with h | ⟨h, h'⟩
    ·have := hPc a h; exact ⟨.inl h, by omega, hqP a h, by omega⟩
    ·exact ⟨.inr (by omega), by omega, by omega, by omega⟩
   have nv4 : ∀ a ∈ zS v4, (a ∈ zS vS \/ c3 < a) /\ a < c4' /\ a ≠ q := fun a ha => by
    rcases hn4 a ha with h | ⟨h, h'⟩
    ·have := hSc a h; exact ⟨.inl h, by omega, hqS a h⟩
    ·exact ⟨.inr (by omega), by omega, by omega⟩
   have nv5 : ∀ a ∈ zS v5, (a ∈ zS vC \/ c4' < a) /\ a ≠ q := fun a ha => by
    rcases hn5 a ha with h | ⟨h, h'⟩
    ·exact ⟨.inl h, hqC a h⟩
    ·exact ⟨.inr (by omega), by omega⟩
   have d34 : ∀ a ∈ zS v3, a ∉ zS v4 := fun a ha hb => by
    obtain ⟨x1, x2, _⟩ := nv3 a ha
    obtain ⟨y1, y2, _⟩ := nv4 a hb
    rcases y1 with y1 | y1
    ·rcases x1 with x1 | x1
     ·exact r1.ps a x1 (by simp [y1])
     ·have := hSc a y1; omega
    ·omega
   have d35 : ∀ a ∈ zS v3, a ∉ zS v5 := fun a ha hb => by
    obtain ⟨x1, x2, _⟩ := nv3 a ha
    obtain ⟨y1, _⟩ := nv5 a hb
    rcases y1 with y1 | y1
    ·rcases x1 with x1 | x1
     ·exact r1.ps a x1 (by simp [y1])
     ·have := hCc a y1; omega
    ·omega
   have d45 : ∀ a ∈ zS v4, a ∉ zS v5 := fun a ha hb => by
    obtain ⟨x1, x2, _⟩ := nv4 a ha
    obtain ⟨y1, _⟩ := nv5 a hb
    rcases y1 with y1 | y1
    ·rcases x1 with x1 | x1
     ·exact r1.sc a x1 y1
     ·have := hCc a y1; omega
    ·omega
   have dB : ∀ a ∈ zS vB1, a ∉ zS v3 ++ (zS v4 ++ zS v5) := fun a ha hm => by
    have hb := hBc a ha
    have hno := r1.bp a ha
    simp only [List.mem_append] at hm hno
    rcases hm with h | h | h
    ·rcases (nv3 a h).1 with h | h
     ·exact hno (.inl h)
     ·omega
    ·rcases (nv4 a h).1 with h | h
     ·exact hno (.inr (.inl h))
     ·omega
    ·rcases (nv5 a h).1 with h | h
     ·exact hno (.inr (.inr h))
     ·omega
   repeat' (first | refine zU ?_)
   have hmPSC : m ∉ zS vP /\ m ∉ zS vS /\ m ∉ zS vC /\ m ≠ q := ⟨fun hm => hmn1 (by simp [hm]), fun hm => hmn1 (by simp [hm]), fun hm => hmn1 (by simp [hm]), fun hm => hmn1 (by simp [hm])⟩
   refine ⟨set3 rfl rfl rfl, by omega, ?_, v3, v4, v5, s1.rows ++ [((0 : Int), (0 : Int), (0 : Int))], ⟨?_, ?_, ?_, ?_, ?_, by show q < c5; omega, ?_, dB, ?_, d45⟩, ?_, by simp; omega, by simp, .inr ⟨hie, by subst hie; simp⟩⟩
   ·rw [zu _ _ _ _ (Ne.symm hmPSC.2.2.2), zu _ _ _ _ (Ne.symm hmPSC.2.2.2), zu _ _ _ _ (Ne.symm hmPSC.2.2.2)]
    exact f5 m hmc1 hmPSC.1 hmPSC.2.1 hmPSC.2.2.1
   ·rw [zt, o5.1]; rfl
   ·refine r1.b.keep (by omega) fun a ha hm => ?_
    have hno := r1.bp a hm
    have haq := r1.nq a (by simp [hm])
    simp only [List.mem_append, not_or] at hno
    rw [zu _ _ _ _ (Ne.symm haq), zu _ _ _ _ (Ne.symm haq), zu _ _ _ _ (Ne.symm haq)]
    exact f5 a ha hno.1 hno.2.1 hno.2.2
   ·rw [List.map_append]
    refine (hl3 : ListOf 1 yG h3 c3 v3 _).keep (by omega) fun a ha hm => ?_
    obtain ⟨x1, x2, haq, _⟩ := nv3 a hm
    rw [zu _ _ _ _ (Ne.symm haq), zu _ _ _ _ (Ne.symm haq), zu _ _ _ _ (Ne.symm haq)]
    have y4 : a ∉ zS vS := fun hs => by
     rcases x1 with x1 | x1
     ·exact r1.ps a x1 (by simp [hs])
     ·have := hSc a hs; omega
    have y5 : a ∉ zS vC := fun hs => by
     rcases x1 with x1 | x1
     ·exact r1.ps a x1 (by simp [hs])
     ·have := hCc a hs; omega
    rw [hf5 a (by omega) y5, zu _ _ _ _ (by omega), hf4 a (by omega) y4, zu _ _ _ _ (by omega)]
   ·rw [List.map_append]
    refine (hl4 : ListOf 1 yG h4' c4' v4 _).keep (by omega) fun a ha hm => ?_
    obtain ⟨x1, x2, haq⟩ := nv4 a hm
    rw [zu _ _ _ _ (Ne.symm haq), zu _ _ _ _ (Ne.symm haq), zu _ _ _ _ (Ne.symm haq)]
    have y5 : a ∉ zS vC := fun hs => by
     rcases x1 with x1 | x1
     ·exact r1.sc a x1 hs
     ·have := hCc a hs; omega
    rw [hf5 a (by omega) y5, zu _ _ _ _ (by omega)]
   ·rw [List.map_append]
    refine (hl5 : ListOf 1 yG h5 c5 v5 _).keep (Nat.le_refl _) fun a ha hm => ?_
    have haq := (nv5 a hm).2
    rw [zu _ _ _ _ (Ne.symm haq), zu _ _ _ _ (Ne.symm haq), zu _ _ _ _ (Ne.symm haq)]
   ·intro a ha
    simp only [List.mem_append] at ha
    rcases ha with h | h | h | h
    ·exact r1.nq a (by simp [h])
    ·exact (nv3 a h).2.2.1
    ·exact (nv4 a h).2.2
    ·exact (nv5 a h).2
   ·intro a ha hm
    rcases zk hm with h | h
    ·exact d34 a ha h
    ·exact d35 a ha h
   ·intro a ha
    simp only [List.mem_append] at ha ⊢
    rcases ha with h | h | h
    ·rcases (nv3 a h).1 with h | h
     ·exact .inl (.inl h)
     ·exact .inr h
    ·rcases (nv4 a h).1 with h | h
     ·exact .inl (.inr (.inl h))
     ·exact .inr (by omega)
    ·rcases (nv5 a h).1 with h | h
     ·exact .inl (.inr (.inr h))
     ·exact .inr (by omega)
 rintro e5 h5 c5 ⟨⟨b5, rfl⟩, hc5, hx5, vP2, vS2, vC2, rows2, r5, hn5, hi5, hl5, hrows5⟩
 rw [hx1] at hx5
 have hlq5 := r5.lq
 obtain ⟨sb1, cb1, hvB1', _⟩ := r1.b.shape
 obtain ⟨sP, cP, hvP, hsP⟩ := r5.pl.shapeN (n := rows2.length) (List.length_map _)
 obtain ⟨sS, cS, hvS, hsS⟩ := r5.sz.shapeN (n := rows2.length) (List.length_map _)
 obtain ⟨sC2, cC2, hvC2, hsC2⟩ := r5.ct.shapeN (n := rows2.length) (List.length_map _)
 obtain ⟨rfl, pn, clp, jp, rfl, hpn, hgp, hjp⟩ := hsP i hi5
 obtain ⟨rfl, zn, clz, jz, rfl, hzn, hgz, hjz⟩ := hsS i hi5
 obtain ⟨rfl, cn, clc, jc, rfl, hcn, hgc, hjc⟩ := hsC2 i hi5
 subst hvP hvS hvC2
 simp only at hgp hgz hgc
 obtain ⟨x, hx2⟩ : ∃ x, rows2[i]? = some x := ⟨_, zp hi5⟩
 have npz : pn ≠ zn := fun e => r5.ps pn (by simp [zS]) (by rw [e]; simp [zS])
 have npc : pn ≠ cn := fun e => r5.ps pn (by simp [zS]) (by rw [e]; simp [zS])
 have nzc : zn ≠ cn := fun e => r5.sc zn (by simp [zS]) (by rw [e]; simp [zS])
 have nqp : pn ≠ q := r5.nq pn (by simp [zS])
 have nqz : zn ≠ q := r5.nq zn (by simp [zS])
 have nqc : cn ≠ q := r5.nq cn (by simp [zS])
 have hoff : 0 + ((i : Nat) : Int).toNat * 1 = i := by simp
 have r6 := r5.setAt (cl := clp) (junk := jp) (z := (s1.bs.length : Int)) rfl hpn hjp hx2 rfl hoff
 have hx3 : (rows2.set i ((s1.bs.length : Int), x.2.1, x.2.2))[i]? = some ((s1.bs.length : Int), x.2.1, x.2.2) := by simp [hi5]
 have r7 := r6.setSize (cl := clz) (junk := jz) (z := (n : Int)) (by simp) hzn hjz hx3 (map_sz hx2).symm hoff
 have hx4 : ((rows2.set i ((s1.bs.length : Int), x.2.1, x.2.2)).set i ((s1.bs.length : Int), (n : Int), x.2.2))[i]? = some ((s1.bs.length : Int), (n : Int), x.2.2) := by simp [hi5]
 have r8 := r7.setCnt (cl := clc) (junk := jc) (xs := rows2.map fun r => r.2.2) (z := (1 : Int)) (by simp) hcn hjc hx4 (by
  show _ = ((rows2.set i ((s1.bs.length : Int), x.2.1, x.2.2)).set i ((s1.bs.length : Int), (n : Int), x.2.2)).map fun r => r.2.2
  rw [map_ct hx3, map_ct hx2]) hoff
 simp only [List.set_set] at r8
 have hobj5 := r5.obj
 simp only at hobj5
 have hL : ∀ a ∈ zS (.slice (some (pn, 0)) rows2.length (.upTo 1)) ++ (zS (.slice (some (zn, 0)) rows2.length (.upTo 1)) ++ zS (.slice (some (cn, 0)) rows2.length (.upTo 1))), a ∈ m :: rn q (.slice sb st.bs.length cb) vP vS vC \/ c4 <= a := fun a ha => by
  rcases hn5 a ha with h | h
  ·exact .inl (by simp only [List.mem_append, List.mem_cons] at h ⊢; rcases h with h | h | h <;> simp [h])
  ·exact .inr (by omega)
 have hLp := hL pn (by simp [zS])
 have hLz := hL zn (by simp [zS])
 have hLc := hL cn (by simp [zS])
 have two : ∀ {a : Nat}, (a ∈ m :: rn q (.slice sb st.bs.length cb) vP vS vC \/ c4 <= a) -> ∀ x ∈ [Acc.rd a, Acc.wr a], InL (m :: rn q (.slice sb st.bs.length cb) vP vS vC) c4 x := fun {a} ha x hx => by
  simp at hx; rcases hx with rfl | rfl <;> exact ha
 have hfp : 0 + ((i : Nat) : Int).toNat * 1 + 1 <= (flat yG (rows2.map fun r => r.1) ++ jp).length := by
  rw [zr, yv (k := 1) je, List.length_map]; omega
 have hfz : 0 + ((i : Nat) : Int).toNat * 1 + 1 <= (flat yG (rows2.map fun r => r.2.1) ++ jz).length := by
  rw [zr, yv (k := 1) je, List.length_map]; omega
 have hfc : 0 + ((i : Nat) : Int).toNat * 1 + 1 <= (flat yG (rows2.map fun r => r.2.2) ++ jc).length := by
  rw [zr, yv (k := 1) je, List.length_map]; omega
 have hgz6 : MapI.get (MapI.set h5 pn (.cells true clp (yu (flat yG (rows2.map fun r => r.1) ++ jp) (0 + ((i : Nat) : Int).toNat * 1) [I s1.bs.length]))) zn = _ := (zu _ _ _ _ npz).trans hgz
 have hgc7 : MapI.get (MapI.set (MapI.set h5 pn (.cells true clp (yu (flat yG (rows2.map fun r => r.1) ++ jp) (0 + ((i : Nat) : Int).toNat * 1) [I s1.bs.length]))) zn (.cells true clz (yu (flat yG (rows2.map fun r => r.2.1) ++ jz) (0 + ((i : Nat) : Int).toNat * 1) [I n]))) cn = _ := (zu _ _ _ _ nzc).trans ((zu _ _ _ _ npc).trans hgc)
 subst hvB1'
 repeat' (first | apply zw | apply zy | refine zb rfl rfl (fun _ => rfl) ?_ | refine zO rfl rfl (zW rfl rfl rfl hobj5 rfl ⟨(by simp [zc] <;> omega), ?_⟩) | refine zO rfl rfl (zZ (k := 1) rfl rfl rfl rfl ⟨by omega, by omega⟩ ⟨(by simp [zc] <;> omega), ?_⟩) | refine zO rfl rfl (ya (k := 1) rfl rfl rfl rfl hgp hfp rfl ⟨two hLp, ?_⟩) | refine zO rfl rfl (ya (k := 1) rfl rfl rfl rfl hgz6 hfz rfl ⟨two hLz, ?_⟩) | refine zO rfl rfl (ya (k := 1) rfl rfl rfl rfl hgc7 hfc rfl ⟨two hLc, ?_⟩))
 refine zN (ym (cs := [0, 1, 3, 7, 0, 0, 32, 96, 224, 0, 0, 1024, 3072, 7168, 0, 0, 32768, 98304, 229376, 491520, 0, 1048576, 1031679, 5225983, 16760831, 33538047, 67108863, 134217727]) (by decide +kernel) ?_) ?_
 ·simp +contextual [jt, apP, Dis, yF, yE, yw, yA, Nat.testBit, npz, npc, nzc, Ne.symm npz, Ne.symm npc, Ne.symm nzc]
 have hobj8 := r8.obj
 simp only at hobj8
 have hmp : pn ≠ m := fun e => by
  rcases hn5 pn (by simp [zS]) with h | h
  ·exact hmn1 (by rw [<- e]; simp only [List.mem_append, List.mem_cons] at h ⊢; rcases h with h | h | h <;> simp [h])
  ·omega
 have hmz : zn ≠ m := fun e => by
  rcases hn5 zn (by simp [zS]) with h | h
  ·exact hmn1 (by rw [<- e]; simp only [List.mem_append, List.mem_cons] at h ⊢; rcases h with h | h | h <;> simp [h])
  ·omega
 have hmcn : cn ≠ m := fun e => by
  rcases hn5 cn (by simp [zS]) with h | h
  ·exact hmn1 (by rw [<- e]; simp only [List.mem_append, List.mem_cons] at h ⊢; rcases h with h | h | h <;> simp [h])
  ·omega
 have hmq : q ≠ m := fun e => hmn1 (by simp [e])
 have hx8 := (zu (S := HH) _ _ _ (.cells true clc (yu (flat yG (rows2.map fun r => r.2.2) ++ jc) (0 + ((i : Nat) : Int).toNat * 1) [I 1])) hmcn).trans ((zu (S := HH) _ _ _ (.cells true clz (yu (flat yG (rows2.map fun r => r.2.1) ++ jz) (0 + ((i : Nat) : Int).toNat * 1) [I n])) hmz).trans ((zu (S := HH) _ _ _ (.cells true clp (yu (flat yG (rows2.map fun r => r.1) ++ jp) (0 + ((i : Nat) : Int).toNat * 1) [I s1.bs.length])) hmp).trans hx5))
 repeat' (first | apply zw | apply zx | refine za rfl rfl (fun _ => rfl) ?_ | refine zL rfl rfl (zW rfl rfl rfl hobj8 rfl ⟨(by simp [zc] <;> omega), ?_⟩))
 refine zL rfl rfl (kN (ys := ys) rfl rfl elB rfl gr byte_all r8.b hx8 hcut hy (by simp only; omega) (.inl (by simp [yF])) (fun a ha => by
  have := inm a (zg _ (zh _ ha))
  exact ⟨this, this⟩) (.inr (by simp [yE]; omega)) fun v9 h9 c9 hl9 hn9 hc9 hf9 => ?_)
 have hone := hl9.one
 have hobj9 := (hf9 q (by omega) (fun hm => r8.nq q (by simp [hm]) rfl)).trans hobj8
 have hnq9 : ∀ a ∈ zS v9, a ≠ q := fun a ha e => by
  rcases hn9 a ha with h | ⟨h, _⟩
  ·exact r8.nq a (by simp [h]) e
  ·omega
 repeat' (first | apply zw | apply zx | apply zG | apply zK | refine za rfl rfl (fun _ => rfl) ?_ | refine zL rfl rfl (ya (k := 1) rfl rfl rfl (by rw [hone.1]; rfl) hobj9 (zf rfl) (by rw [hone.1]; simp [hone.2]) ⟨(by simp [zc] <;> omega), ?_⟩))
 have hwi : IntKind.i64.wrap ((i : Int) + 1) = ((i + 1 : Nat) : Int) := by rw [Go.IntWalk.i64_in _ (by omega)]; omega
 have hne9 : ∀ a ∈ zS (.slice (some (pn, 0)) rows2.length (.upTo 1)) ++ (zS (.slice (some (zn, 0)) rows2.length (.upTo 1)) ++ zS (.slice (some (cn, 0)) rows2.length (.upTo 1))), a ∉ zS v9 := fun a ha hm => by
  rcases hn9 a hm with h | ⟨h, _⟩
  ·exact r8.bp a h ha
  ·have : a < c5 := r8.names a (by simp only [List.mem_cons, List.mem_append] at ha ⊢; exact .inr (.inr ha))
   omega
 have hkp : ∀ a, a < c5 -> a ≠ q -> a ∉ zS (.slice sb1 s1.bs.length cb1) -> MapI.get h9 a = _ := fun a ha hq hb => hf9 a (by omega) hb
 refine z6 rfl ⟨?_, i, v9, .slice (some (pn, 0)) rows2.length (.upTo 1), .slice (some (zn, 0)) rows2.length (.upTo 1), .slice (some (cn, 0)) rows2.length (.upTo 1), rows2.set i (s1.bs.length, n, 1), ?_, ⟨?_, ?_, ?_, ?_, ?_, by show q < c9; omega, ?_, fun a ha hm => hne9 a hm ha, r8.ps, r8.sc⟩, fun a ha => ?_, by rw [<- hrl]; exact hi, hbef, by rw [<- hrl]; exact hrows5⟩
 ·rw [zu _ _ _ _ hmq, hf9 m (by omega) (fun hm => hmn1 (zg _ (zh _ hm)))]
  exact hx8.trans hx.symm
 ·show V.tuple [V.int _ _, _] = _
  rw [hwi]
 ·rw [zt, hone.1, <- hmost]; rfl
 ·exact hl9.keep (Nat.le_refl _) fun a _ ha => zu _ _ _ _ (Ne.symm (hnq9 a ha))
 ·refine r8.pl.keep (by omega) fun a ha hm => ?_
  rw [zu _ _ _ _ (Ne.symm (r8.nq a (by simp [hm])))]
  exact hf9 a (by omega) (fun hb => r8.bp a hb (by simp [hm]))
 ·refine r8.sz.keep (by omega) fun a ha hm => ?_
  rw [zu _ _ _ _ (Ne.symm (r8.nq a (by simp [hm])))]
  exact hf9 a (by omega) (fun hb => r8.bp a hb (by simp [hm]))
 ·refine r8.ct.keep (by omega) fun a ha hm => ?_
  rw [zu _ _ _ _ (Ne.symm (r8.nq a (by simp [hm])))]
  exact hf9 a (by omega) (fun hb => r8.bp a hb (by simp [hm]))
 ·intro a ha
  rcases zk ha with h | h
  ·exact hnq9 a h
  ·exact r8.nq a (zi _ h)
 ·simp only [List.mem_cons, List.mem_append] at ha
  rcases ha with e | ha | ha
  ·exact .inl (by simp [e])
  ·rcases hn9 a ha with h | ⟨h, _⟩
   ·rcases hvB1 a h with h | h
    ·exact .inl (by simp [h])
    ·exact .inr h
   ·exact .inr (by omega)
  ·rcases hn5 a (by simp only [List.mem_append]; exact ha) with h | h
   ·exact .inl (by simp only [List.mem_append, List.mem_cons] at h ⊢; exact .inr (.inr h))
   ·exact .inr (by omega)
open Go.Ab
theorem snew_any {h : HH} {c : Nat} {most : Int} : Does 5 [I most] h c [] fun v h' c' => v = .ptr (some (c, 0)) /\ c' = c + 1 /\ StoreAt h' c' c (.slice none 0 (.known 0)) (.slice none 0 (.known 0)) ⟨[], if most < 0 \/ most > 1048576 then 0 else most, [], 0⟩ := by
 have fin : ∀ {x : Int}, StoreAt (MapI.set h c (.cells true true [.slice none 0 (.known 0), I x, .slice none 0 (.known 0), I 0])) (c + 1) c (.slice none 0 (.known 0)) (.slice none 0 (.known 0)) ⟨[], x, [], 0⟩ := fun {x} =>
  ⟨zt _ _ _, .nil, .nil, Nat.lt_succ_self _, fun n hn => (by cases hn), fun n hn => (by cases hn), fun n hn => by cases hn⟩
 refine yi (enter (fn := Tryz.f5) Tryz.func5 rfl rfl (zf rfl) ?_)
 by_cases h1 : most < 0
 ·have e1 : decide (most < 0) = true := by simpa using h1
  repeat' (first | apply zw | apply zx | apply zK | refine za rfl rfl (fun _ => rfl) ?_)
  simp only [e1]
  repeat' (first | apply zK | refine za rfl rfl (fun _ => rfl) ?_ | refine zM rfl rfl ?_ | refine zU ?_)
  refine ze rfl ?_
  repeat' (first | apply zw | apply zx | apply zG | apply zK | refine za rfl rfl (fun _ => rfl) ?_ | refine zL rfl rfl (yK rfl ⟨(by simp [zc] <;> omega), ?_⟩))
  rw [if_pos (.inl h1)]
  exact z6 rfl ⟨rfl, rfl, fin⟩
 have e1 : decide (most < 0) = false := by simpa using h1
 by_cases h2 : most > 1048576
 ·have e2 : decide (most > 1048576) = true := by simpa using h2
  repeat' (first | apply zw | apply zx | apply zK | refine za rfl rfl (fun _ => rfl) ?_)
  simp only [e1]
  repeat' (first | apply zK | refine za rfl rfl (fun _ => rfl) ?_ | refine zU ?_)
  refine zH rfl (fun _ => ?_) (fun hb => by rw [e2] at hb; cases hb)
  repeat' (first | apply zw | apply zx | apply zG | apply zK | refine za rfl rfl (fun _ => rfl) ?_ | refine zL rfl rfl (yK rfl ⟨(by simp [zc] <;> omega), ?_⟩))
  rw [if_pos (.inr h2)]
  exact z6 rfl ⟨rfl, rfl, fin⟩
 have e2 : decide (most > 1048576) = false := by simpa using h2
 repeat' (first | apply zw | apply zx | apply zK | refine za rfl rfl (fun _ => rfl) ?_)
 simp only [e1]
 repeat' (first | apply zK | refine za rfl rfl (fun _ => rfl) ?_ | refine zU ?_)
 refine zH rfl (fun hb => by rw [e2] at hb; cases hb) (fun _ => ?_)
 repeat' (first | apply zw | apply zx | apply zz | apply zG | apply zK | refine za rfl rfl (fun _ => rfl) ?_ | refine zL rfl rfl (yK rfl ⟨(by simp [zc] <;> omega), ?_⟩))
 rw [if_neg (by omega)]
 exact z6 rfl ⟨rfl, rfl, fin⟩
open Go.Ab
section
variable {α : Type} {k : Nat} {cells : α -> List V} {h h' : HH} {c c' : Nat} {e : EE} {ds : Option Tmp} {ty : Nat} {pos : String} {af : Array Edge} {gd : Option (Nat × Bool)}
def Lz (k : Nat) (v : V) (xs : List α) : Prop := Listy k v xs \/ (xs = [] /\ ∃ s, v = .slice (some (s, 0)) 0 (.known 0))
theorem Lz.map {β : Type} {v : V} {xs : List α} {ys : List β} (z : Lz k v xs) (hl : ys.length = xs.length) : Lz k v ys := by
 rcases z with (⟨rfl, rfl⟩ | ⟨hne, s, rfl⟩) | ⟨rfl, s, rfl⟩
 ·exact .inl (.inl ⟨rfl, List.length_eq_zero_iff.1 hl⟩)
 ·refine .inl (.inr ⟨fun e => hne ?_, s, by rw [hl]⟩)
  subst e
  exact List.length_eq_zero_iff.1 hl.symm
 ·exact .inr ⟨List.length_eq_zero_iff.1 hl, s, rfl⟩
theorem RowOf.listZ {v : V} {xs : List α} (r : RowOf k cells h c v xs) (z : Lz k v xs) (hne : xs ≠ []) : ListOf k cells h c v xs := by
 rcases z with z | ⟨e, _⟩
 ·exact r.list z
 ·exact absurd e hne
theorem first_zero {sz : Nat} {p : Nat × Nat} {cap : Cap} : firstM sz 0 (.slice (some p) 0 cap) h c = .ok [] h c [] := rfl
theorem append_lit {st el k : Nat} {ts : List Nat} {r : List V} {xt el' : Nat} {cap' : Cap} {m o n : Nat} {s : Nat} {rw cl : Bool} {cs new : List V} (T : ElT cx st el k) (hxt : cx.desc xt = some (.slice el')) (hn : 0 < n) (hle : n <= 1000000000)
  (hx : MapI.get h m = some (.cells rw cl cs)) (hc : cut cs o (n * (k + 1)) = some new) :
  appendM cx (st :: xt :: ts) (.slice (some (s, 0)) 0 (.known 0) :: .slice (some (m, o)) n cap' :: r) h c = .ok (.slice (some (c, 0)) n (.upTo (k + 1))) (MapI.set h c (.cells true true new)) (c + 1) [.rd m, .wr c] := by
 obtain ⟨i, hi, hb⟩ := T.ty
 unfold appendM
 simp only [T.desc, hi, T.size]
 have e1 : appendedM cx el (k + 1) (List.head? (xt :: ts)) (.slice (some (m, o)) n cap') h c = .ok (n, new) h c ([.rd m] ++ []) := by
  unfold appendedM
  simp only [List.head?_cons, hxt]
  exact yr (kD hn (Nat.le_refl _) hx hc) rfl
 refine yr (l' := [.wr c]) e1 ?_
 simp only [T.zero]
 rw [if_pos ⟨cut_len hc, by omega, hb, trivial⟩]
 rw [if_neg (show ¬ 0 + n <= 0 by omega)]
 rw [Nat.zero_add]
 exact yr (l := []) (l' := [.wr c]) first_zero rfl
theorem gv {st el xt el' : Nat} {args : Array Operand} {ats : Array Nat} {v w : V} {L : Acc -> Prop} {K : V -> HH -> Nat -> List Acc -> Prop} {xs ys : List α}
  (ha : evs cx e args.toList = some [v, w]) (ht : ats.toList = [st, xt]) (T : ElT cx st el k) (hxt : cx.desc xt = some (.slice el')) (hk : ∀ x, (cells x).length = k + 1) (h1 : ∀ x, (cells x).all jR = true)
  (r : RowOf (k + 1) cells h c v xs) (z : Lz (k + 1) v xs) (rw' : SubOf (k + 1) cells h c w ys) (hle : xs.length + ys.length <= 1000000000)
  (hLw : ∀ a ∈ zS w, L (.rd a)) (hLv : ∀ a ∈ zS v, L (.rd a) /\ L (.wr a)) (hLc : L (.wr c))
  (kk : ∀ v' h' c' al, RowOf (k + 1) cells h' c' v' (xs ++ ys) -> Lz (k + 1) v' (xs ++ ys) -> (∀ a ∈ zS v', a ∈ zS v \/ (a = c /\ c' = c + 1)) -> c <= c' -> (∀ a, a ≠ c -> a ∉ zS v -> MapI.get h' a = MapI.get h a) ->
   (∀ x ∈ al, (x.name ∈ zS w /\ x.writes = false) \/ x.name ∈ zS v \/ (x.name = c /\ c' = c + 1)) -> K v' h' c' al) :
  WpX (fun n => opM cx (evFn EE cx pr n) e ⟨ds, .call ⟨.builtin .append, args, ats⟩, ty, pos, af, gd⟩) h c fun v h' c' al => (∀ x ∈ al, L x) /\ K v h' c' al := by
 by_cases hy : ys = []
 ·subst hy
  obtain ⟨b, capb, rfl⟩ : ∃ b cap, w = .slice b 0 cap := by
   rcases rw' with ⟨b, cap, rfl, _, _⟩ | ⟨m, o, cap, rwf, cl, cs, rfl, _⟩
   ·exact ⟨b, cap, rfl⟩
   ·exact ⟨_, cap, rfl⟩
  have hs : ∃ a cap, v = .slice a xs.length cap /\ (a = none -> xs.length = 0) /\ ∀ m o k', a = some (m, o) -> cap = .known k' -> xs.length <= k' := by
   rcases z with (⟨rfl, rfl⟩ | ⟨hne, s, rfl⟩) | ⟨rfl, s, rfl⟩
   ·exact ⟨_, _, rfl, fun _ => rfl, fun _ _ _ _ _ => Nat.zero_le _⟩
   ·exact ⟨_, _, rfl, fun e => (by cases e), fun _ _ _ _ e => (by cases e)⟩
   ·exact ⟨_, _, rfl, fun _ => rfl, fun _ _ _ _ _ => Nat.zero_le _⟩
  obtain ⟨a, cap, hv, h2, h3⟩ := hs
  exact jC (call := fun n => evFn EE cx pr n) ha ht (gw T hxt hv h2 (by omega) h3) ⟨zV, kk v h c [] (by rw [List.append_nil]; exact r) (by rw [List.append_nil]; exact z) (fun a ha => .inl ha) (Nat.le_refl _) (fun _ _ _ => rfl) (fun x hx => by cases hx)⟩
 rcases z with z | ⟨rfl, s, rfl⟩
 ·exact qh ha ht T hxt hk h1 (r.list z) rw' hle hLw hLv hLc fun v' h' c' al q1 q2 q3 q4 q5 => kk v' h' c' al q1.row (.inl (q1.listy fun e => hy (List.append_eq_nil_iff.1 e).2)) q2 q3 q4 q5
 rcases rw' with ⟨a, cap, rfl, e, _⟩ | ⟨m, o, cap, rwf, cl, cs, rfl, hm, hx, hc⟩
 ·exact absurd e hy
 have hpos : 0 < ys.length := by
  rcases Nat.eq_zero_or_pos ys.length with e | e
  ·exact absurd (List.length_eq_zero_iff.1 e) hy
  ·exact e
 have hq : ListOf (k + 1) cells (MapI.set h c (.cells true true (flat cells ys))) (c + 1) (.slice (some (c, 0)) ys.length (.upTo (k + 1))) ys := .inr ⟨c, true, [], rfl, by omega, by rw [zt, List.append_nil], rfl⟩
 refine jC (call := fun n => evFn EE cx pr n) ha ht (append_lit T hxt hpos (by simpa using hle) hx hc) ⟨?_, kk _ _ _ _ hq.row (.inl (hq.listy hy)) (fun a ha => ?_) (by omega) (fun a ha _ => zu _ _ _ _ (Ne.symm ha)) ?_⟩
 ·intro x hx
  simp at hx
  rcases hx with rfl | rfl
  ·exact hLw m (by simp [zS])
  ·exact hLc
 ·simp [zS] at ha; exact .inr ⟨ha, rfl⟩
 ·intro x hx
  simp at hx
  rcases hx with rfl | rfl
  ·exact .inl ⟨by simp [zS, Acc.name], rfl⟩
  ·exact .inr (.inr ⟨rfl, rfl⟩)
theorem append_atZ {st el xt el' : Nat} {args : Array Operand} {ats : Array Nat} {v w : V} {L : Acc -> Prop} {K : V -> HH -> Nat -> Prop} {xs ys : List α}
  (ha : evs cx e args.toList = some [v, w]) (ht : ats.toList = [st, xt]) (T : ElT cx st el k) (hxt : cx.desc xt = some (.slice el')) (hk : ∀ x, (cells x).length = k + 1) (h1 : ∀ x, (cells x).all jR = true)
  (r : RowOf (k + 1) cells h c v xs) (z : Lz (k + 1) v xs) (rw' : SubOf (k + 1) cells h c w ys) (hle : xs.length + ys.length <= 1000000000)
  (hLw : ∀ a ∈ zS w, L (.rd a)) (hLv : ∀ a ∈ zS v, L (.rd a) /\ L (.wr a)) (hLc : L (.wr c))
  (kk : ∀ v' h' c', RowOf (k + 1) cells h' c' v' (xs ++ ys) -> Lz (k + 1) v' (xs ++ ys) -> (∀ a ∈ zS v', a ∈ zS v \/ (a = c /\ c' = c + 1)) -> c <= c' -> (∀ a, a ≠ c -> a ∉ zS v -> MapI.get h' a = MapI.get h a) -> K v' h' c') :
  WpX (fun n => opM cx (evFn EE cx pr n) e ⟨ds, .call ⟨.builtin .append, args, ats⟩, ty, pos, af, gd⟩) h c fun v h' c' al => (∀ x ∈ al, L x) /\ K v h' c' :=
 gv (K := fun v h' c' _ => K v h' c') ha ht T hxt hk h1 r z rw' hle hLw hLv hLc fun v' h' c' _ q1 q2 q3 q4 q5 _ => kk v' h' c' q1 q2 q3 q4 q5
end
open Go.Ab
structure Both (h1 : HH) (c1 : Nat) (h : HH) (c hp a sp mp ma q : Nat) (vW vX vb vr vM vY vB vP vS vC : V) (W R : List Int) (size : Int) (s1 : St) (W2 R2 : List Int) (size2 : Int) (s2 : St) (most : Int) : Prop where
 hm : HM h c hp a sp vW vX W R size most
 st : StoreAt h c sp vb vr s1
 md : MdH h c mp ma q vM vY W2 R2 size2 most
 rf : RefAt h c q vB vP vS vC s2
 lx : Lz 1 vX R
 ly : Lz 1 vY R2
 d12 : ∀ n ∈ sp :: (zS vb ++ zS vr), n ∉ hmn hp a vW vX
 d13 : ∀ n ∈ mp :: mn ma vM vY, n ∉ hmn hp a vW vX
 d14 : ∀ n ∈ rn q vB vP vS vC, n ∉ hmn hp a vW vX
 d23 : ∀ n ∈ mp :: mn ma vM vY, n ∉ sp :: (zS vb ++ zS vr)
 d24 : ∀ n ∈ rn q vB vP vS vC, n ∉ sp :: (zS vb ++ zS vr)
 d34 : ∀ n ∈ rn q vB vP vS vC, n ∉ mp :: mn ma vM vY
 o1 : ∀ n ∈ hmn hp a vW vX, c1 <= n
 o2 : ∀ n ∈ sp :: (zS vb ++ zS vr), c1 <= n
 o3 : ∀ n ∈ mp :: mn ma vM vY, c1 <= n
 o4 : ∀ n ∈ rn q vB vP vS vC, c1 <= n
 c0 : c1 <= c
 k0 : ∀ n, n < c1 -> MapI.get h n = MapI.get h1 n
section
variable {h1 h h' : HH} {c1 c c' hp a sp mp ma q : Nat} {vW vX vb vr vM vY vB vP vS vC vW' vX' vM' vY' vF : V} {W R W' R' W2 R2 : List Int} {size size' size2 most : Int} {s1 s2 s1' s2' : St}
theorem Both.n2 (b : Both h1 c1 h c hp a sp mp ma q vW vX vb vr vM vY vB vP vS vC W R size s1 W2 R2 size2 s2 most) : ∀ n ∈ sp :: (zS vb ++ zS vr), n < c := fun n hn => by
 rcases zl hn with h | h
 ·rw [h]; exact b.st.lp
 ·rcases zk h with h | h
  ·exact b.st.bytes.lt n h
  ·exact b.st.rows.lt n h
theorem Both.same (b : Both h1 c1 h c hp a sp mp ma q vW vX vb vr vM vY vB vP vS vC W R size s1 W2 R2 size2 s2 most) (hc : c <= c') (e : ∀ n, n < c -> MapI.get h' n = MapI.get h n) : Both h1 c1 h' c' hp a sp mp ma q vW vX vb vr vM vY vB vP vS vC W R size s1 W2 R2 size2 s2 most :=
 ⟨b.hm.same hc e, b.st.keep hc e, b.md.same hc e, b.rf.keep hc fun n hn _ => e n hn, b.lx, b.ly, b.d12, b.d13, b.d14, b.d23, b.d24, b.d34, b.o1, b.o2, b.o3, b.o4, by have := b.c0; omega, fun n hn => by rw [e n (by have := b.c0; omega)]; exact b.k0 n hn⟩
theorem hmn_sub (hn : ∀ n ∈ zS vW' ++ zS vX', n ∈ zS vW ++ zS vX \/ c <= n) : ∀ n ∈ hmn hp a vW' vX', n ∈ hmn hp a vW vX \/ c <= n := fun n h => by
 rcases zk h with h | h
 ·rcases zl h with h | h
  ·exact .inl (zh _ (by rw [h]; exact zq ..))
  ·rcases zl h with h | h
   ·exact .inl (zh _ (zg _ (by rw [h]; exact zq ..)))
   ·rcases hn n (zh _ h) with h | h
    ·rcases zk h with h | h
     ·exact .inl (zh _ (zg _ (zg _ h)))
     ·exact .inl (zi _ h)
    ·exact .inr h
 ·rcases hn n (zi _ h) with h | h
  ·rcases zk h with h | h
   ·exact .inl (zh _ (zg _ (zg _ h)))
   ·exact .inl (zi _ h)
  ·exact .inr h
theorem mmn_sub (hn : ∀ n ∈ zS vM' ++ zS vY', n ∈ zS vM ++ zS vY \/ c <= n) : ∀ n ∈ mp :: mn ma vM' vY', n ∈ mp :: mn ma vM vY \/ c <= n := fun n h => by
 rcases zl h with h | h
 ·exact .inl (by rw [h]; exact zq ..)
 ·rcases zk h with h | h
  ·rcases zl h with h | h
   ·exact .inl (zg _ (zh _ (by rw [h]; exact zq ..)))
   ·rcases hn n (zh _ h) with h | h
    ·rcases zk h with h | h
     ·exact .inl (zg _ (zh _ (zg _ h)))
     ·exact .inl (zg _ (zi _ h))
    ·exact .inr h
  ·rcases hn n (zi _ h) with h | h
   ·rcases zk h with h | h
    ·exact .inl (zg _ (zh _ (zg _ h)))
    ·exact .inl (zg _ (zi _ h))
   ·exact .inr h
theorem Both.left (b : Both h1 c1 h c hp a sp mp ma q vW vX vb vr vM vY vB vP vS vC W R size s1 W2 R2 size2 s2 most) (hm' : HM h' c' hp a sp vW' vX' W' R' size' most) (st' : StoreAt h' c' sp vb vr s1') (hc : c <= c') (hn : ∀ n ∈ zS vW' ++ zS vX', n ∈ zS vW ++ zS vX \/ c <= n) (lx' : Lz 1 vX' R')
  (hf : ∀ n, n < c -> n < c1 \/ n ∈ mp :: mn ma vM vY \/ n ∈ rn q vB vP vS vC -> MapI.get h' n = MapI.get h n) : Both h1 c1 h' c' hp a sp mp ma q vW' vX' vb vr vM vY vB vP vS vC W' R' size' s1' W2 R2 size2 s2 most := by
 have hs := hmn_sub (hp := hp) (a := a) hn
 have n2 := b.n2
 have n3 := b.md.names
 have n4 := b.rf.names
 have hc0 := b.c0
 refine ⟨hm', st', b.md.keep hc fun n h1 h2 => hf n h1 (.inr (.inl h2)), b.rf.keep hc fun n h1 h2 => hf n h1 (.inr (.inr h2)), lx', b.ly, fun n h1 h2 => ?_, fun n h1 h2 => ?_, fun n h1 h2 => ?_, b.d23, b.d24, b.d34, fun n h => ?_, b.o2, b.o3, b.o4, by omega, fun n hn => ?_⟩
 ·rcases hs n h2 with h | h
  ·exact b.d12 n h1 h
  ·have := n2 n h1; omega
 ·rcases hs n h2 with h | h
  ·exact b.d13 n h1 h
  ·have := n3 n h1; omega
 ·rcases hs n h2 with h | h
  ·exact b.d14 n h1 h
  ·have := n4 n h1; omega
 ·rcases hs n h with h | h
  ·exact b.o1 n h
  ·omega
 ·rw [hf n (by omega) (.inl hn)]; exact b.k0 n hn
theorem Both.right (b : Both h1 c1 h c hp a sp mp ma q vW vX vb vr vM vY vB vP vS vC W R size s1 W2 R2 size2 s2 most) (md' : MdH h' c' mp ma q vM' vY' W' R' size' most) (rf' : RefAt h' c' q vB vP vS vC s2') (hc : c <= c') (hn : ∀ n ∈ zS vM' ++ zS vY', n ∈ zS vM ++ zS vY \/ c <= n) (ly' : Lz 1 vY' R')
  (hf : ∀ n, n < c -> n < c1 \/ n ∈ hmn hp a vW vX \/ n ∈ sp :: (zS vb ++ zS vr) -> MapI.get h' n = MapI.get h n) : Both h1 c1 h' c' hp a sp mp ma q vW vX vb vr vM' vY' vB vP vS vC W R size s1 W' R' size' s2' most := by
 have hs := mmn_sub (mp := mp) (ma := ma) hn
 have n1 := b.hm.names
 have n2 := b.n2
 have n4 := b.rf.names
 have hc0 := b.c0
 refine ⟨b.hm.keep hc fun n h1 h2 => hf n h1 (.inr (.inl h2)), b.st.keepN hc fun n h1 h2 => hf n h1 (.inr (.inr h2)), md', rf', b.lx, ly', b.d12, fun n h1 h2 => ?_, b.d14, fun n h1 h2 => ?_, b.d24, fun n h1 h2 => ?_, b.o1, b.o2, fun n h => ?_, b.o4, by omega, fun n hn => ?_⟩
 ·rcases hs n h1 with h | h
  ·exact b.d13 n h h2
  ·have := n1 n h2; omega
 ·rcases hs n h1 with h | h
  ·exact b.d23 n h h2
  ·have := n2 n h2; omega
 ·rcases hs n h2 with h | h
  ·exact b.d34 n h1 h
  ·have := n4 n h1; omega
 ·rcases hs n h with h | h
  ·exact b.o3 n h
  ·omega
 ·rw [hf n (by omega) (.inl hn)]; exact b.k0 n hn
theorem Both.outL (b : Both h1 c1 h c hp a sp mp ma q vW vX vb vr vM vY vB vP vS vC W R size s1 W2 R2 size2 s2 most) {n : Nat} (hn : n < c1 \/ n ∈ mp :: mn ma vM vY \/ n ∈ rn q vB vP vS vC) : n ∉ hmn hp a vW vX /\ n ∉ sp :: (zS vb ++ zS vr) := by
 rcases hn with hn | hn | hn
 ·exact ⟨fun hh => by have := b.o1 n hh; omega, fun hh => by have := b.o2 n hh; omega⟩
 ·exact ⟨b.d13 n hn, b.d23 n hn⟩
 ·exact ⟨b.d14 n hn, b.d24 n hn⟩
theorem Both.outR (b : Both h1 c1 h c hp a sp mp ma q vW vX vb vr vM vY vB vP vS vC W R size s1 W2 R2 size2 s2 most) {n : Nat} (hn : n < c1 \/ n ∈ hmn hp a vW vX \/ n ∈ sp :: (zS vb ++ zS vr)) : n ∉ mp :: mn ma vM vY /\ n ∉ rn q vB vP vS vC := by
 rcases hn with hn | hn | hn
 ·exact ⟨fun hh => by have := b.o3 n hh; omega, fun hh => by have := b.o4 n hh; omega⟩
 ·exact ⟨fun hh => b.d13 n hh hn, fun hh => b.d14 n hh hn⟩
 ·exact ⟨fun hh => b.d23 n hh hn, fun hh => b.d24 n hh hn⟩
structure Plays (N : Nat) (W R : List Int) (size : Int) (s1 s2 : St) (l : List (Nat × Hd)) : Prop where
 so : SoundW W R l
 cx : Cnts s1.rows (yX W l)
 cy : Cnts s2.rows (yX W l)
 ho : HandsOk (yX W l)
 ll : l.length <= N
 rl : R.length <= N
end
open Go.Ab
section
variable {L : Acc -> Prop} {N : Nat} {e : EE} {h : HH} {c : Nat} {Q : Ex -> EE -> HH -> Nat -> Prop}
theorem tidy_tgt {n : Nat} {t : Tgt} {xs : List V} : Tidy (evFn EE cx pr n t xs : M HH V) := kO fun f m call xs hm hc => by
 have hm : seatPrims shutFns gz kT f = some m := hm
 unfold seatPrims at hm
 split at hm
 ·cases hm; exact Tidy.sortedPrim
 ·split at hm
  ·cases hm; exact Tidy.cmpPrim
  ·unfold ga at hm
   split at hm
   ·cases hm
    cases xs with
    | nil => exact Tidy.ret
    | cons _ _ => exact yo
   ·cases hm
theorem tidyC {cd : Code} (w : WpC EE cx pr L N cd e h c Q) (t : Clear h c) : WpC EE cx pr L N cd e h c fun x e' h' c' => Q x e' h' c' /\ Clear h' c' := by
 obtain ⟨a, h', c', l, ⟨q1, q2, q3⟩, k, hk⟩ := w.w
 obtain ⟨_, t2, _⟩ := jJ (fun t xs => tidy_tgt) _ _ _ _ _ _ (hk k (Nat.le_refl _)) t
 exact ⟨⟨a, h', c', l, ⟨q1, q2, q3, t2⟩, k, hk⟩⟩
theorem seqIT {a b : Code} (M : EE -> HH -> Nat -> Prop) (t : Clear h c) (w : WpC EE cx pr L N a e h c (seqQ Q M)) (k : ∀ e h c, M e h c -> Clear h c -> WpC EE cx pr L N b e h c Q) : WpC EE cx pr L N (.seq a b) e h c Q :=
 zw ((tidyC w t).mono fun x e' h' c' ⟨q, t'⟩ => by
  cases x with
  | normal => exact k _ _ _ q t'
  | exit i => exact q
  | ret => exact q)
theorem loopT {b : Code} {X : Type} (I : X -> EE -> HH -> Nat -> Prop) (μ : X -> Nat)
  (step : ∀ x e h c, I x e h c -> Clear h c -> WpC EE cx pr L N b e h c (seqQ Q fun e' h' c' => ∃ y, μ y < μ x /\ I y e' h' c')) :
  ∀ x e h c, I x e h c -> Clear h c -> WpLoop EE cx pr L N b e h c Q := fun x e h c hi t =>
 zQ (fun x e h c => I x e h c /\ Clear h c) μ (fun x e h c ⟨hi, t⟩ => (tidyC (step x e h c hi t) t).mono fun ex e' h' c' ⟨q, t'⟩ => by
  cases ex with
  | normal => obtain ⟨y, hy, hi'⟩ := q; exact ⟨y, hy, hi', t'⟩
  | exit i => exact q
  | ret => exact q) x e h c ⟨hi, t⟩
end
theorem qB {f : Nat} {args : Array Operand} {ats : Array Nat} {xs : List V} {e : EE} {h : HH} {c c0 : Nat} {ns ms : List Nat} {Q : V -> HH -> Nat -> Prop} {K : V -> HH -> Nat -> Prop} {ds : Option Tmp} {ty : Nat} {pos : String} {af : Array Edge} {gd : Option (Nat × Bool)}
  (ha : evs cx e args.toList = some xs) (w : Does f xs h c ns Q) (t : Clear h c) (h1 : ∀ n ∈ ns, n ∈ ms \/ c0 <= n) (h2 : c0 <= c)
  (k : ∀ v h' c', Clear h' c' -> c <= c' -> (∀ n, n < c -> n ∉ ns -> MapI.get h' n = MapI.get h n) -> Q v h' c' -> K v h' c') :
  WpX (fun n => opM cx (evFn EE cx pr n) e ⟨ds, .call ⟨.value (.func f), args, ats⟩, ty, pos, af, gd⟩) h c fun v h' c' al => (∀ x ∈ al, InL ms c0 x) /\ K v h' c' :=
 (call_atT ha w t h1 h2 fun v h' c' al _ t' hc hf q => (⟨trivial, k v h' c' t' hc hf q⟩ : True /\ K v h' c')).mono fun v h' c' al ⟨x, _, y⟩ => ⟨x, y⟩
open Go.Ab
section
variable {h1 h h' : HH} {c1 c c' hp a sp mp ma q : Nat} {vW vX vb vr vM vY vB vP vS vC vb' vr' vB' vP' vS' vC' : V} {W R W2 R2 : List Int} {size size2 most : Int} {s1 s2 s1' s2' st : St}
theorem Both.grantL (b : Both h1 c1 h c hp a sp mp ma q vW vX vb vr vM vY vB vP vS vC W R size s1 W2 R2 size2 s2 most) (st' : StoreAt h' c' sp vb' vr' s1') (hc : c <= c') (hn : ∀ n ∈ zS vb' ++ zS vr', n ∈ zS vb ++ zS vr \/ c <= n)
  (hf : ∀ n, n < c -> n < c1 \/ n ∈ hmn hp a vW vX \/ n ∈ mp :: mn ma vM vY \/ n ∈ rn q vB vP vS vC -> MapI.get h' n = MapI.get h n) : Both h1 c1 h' c' hp a sp mp ma q vW vX vb' vr' vM vY vB vP vS vC W R size s1' W2 R2 size2 s2 most := by
 have hs : ∀ n ∈ sp :: (zS vb' ++ zS vr'), n ∈ sp :: (zS vb ++ zS vr) \/ c <= n := fun n h => by
  rcases zl h with h | h
  ·exact .inl (by rw [h]; exact zq ..)
  ·exact (hn n h).imp (fun h => zg _ h) id
 have n1 := b.hm.names
 have n3 := b.md.names
 have n4 := b.rf.names
 have hc0 := b.c0
 refine ⟨b.hm.keep hc fun n h1 h2 => hf n h1 (.inr (.inl h2)), st', b.md.keep hc fun n h1 h2 => hf n h1 (.inr (.inr (.inl h2))), b.rf.keep hc fun n h1 h2 => hf n h1 (.inr (.inr (.inr h2))), b.lx, b.ly, fun n h1 h2 => ?_, b.d13, b.d14, fun n h1 h2 => ?_, fun n h1 h2 => ?_, b.d34, b.o1, fun n h => ?_, b.o3, b.o4, by omega, fun n hn => ?_⟩
 ·rcases hs n h1 with h | h
  ·exact b.d12 n h h2
  ·have := n1 n h2; omega
 ·rcases hs n h2 with h | h
  ·exact b.d23 n h1 h
  ·have := n3 n h1; omega
 ·rcases hs n h2 with h | h
  ·exact b.d24 n h1 h
  ·have := n4 n h1; omega
 ·rcases hs n h with h | h
  ·exact b.o2 n h
  ·omega
 ·rw [hf n (by omega) (.inl hn)]; exact b.k0 n hn
theorem Both.grantR (b : Both h1 c1 h c hp a sp mp ma q vW vX vb vr vM vY vB vP vS vC W R size s1 W2 R2 size2 s2 most) (rf' : RefAt h' c' q vB' vP' vS' vC' s2') (hc : c <= c') (hs : ∀ n ∈ rn q vB' vP' vS' vC', n ∈ rn q vB vP vS vC \/ c <= n)
  (hf : ∀ n, n < c -> n < c1 \/ n ∈ hmn hp a vW vX \/ n ∈ sp :: (zS vb ++ zS vr) \/ n ∈ mp :: mn ma vM vY -> MapI.get h' n = MapI.get h n) : Both h1 c1 h' c' hp a sp mp ma q vW vX vb vr vM vY vB' vP' vS' vC' W R size s1 W2 R2 size2 s2' most := by
 have n1 := b.hm.names
 have n2 := b.n2
 have n3 := b.md.names
 have hc0 := b.c0
 refine ⟨b.hm.keep hc fun n h1 h2 => hf n h1 (.inr (.inl h2)), b.st.keepN hc fun n h1 h2 => hf n h1 (.inr (.inr (.inl h2))), b.md.keep hc fun n h1 h2 => hf n h1 (.inr (.inr (.inr h2))), rf', b.lx, b.ly, b.d12, b.d13, fun n h1 h2 => ?_, b.d23, fun n h1 h2 => ?_, fun n h1 h2 => ?_, b.o1, b.o2, b.o3, fun n h => ?_, by omega, fun n hn => ?_⟩
 ·rcases hs n h1 with h | h
  ·exact b.d14 n h h2
  ·have := n1 n h2; omega
 ·rcases hs n h1 with h | h
  ·exact b.d24 n h h2
  ·have := n2 n h2; omega
 ·rcases hs n h1 with h | h
  ·exact b.d34 n h h2
  ·have := n3 n h2; omega
 ·rcases hs n h with h | h
  ·exact b.o4 n h
  ·omega
 ·rw [hf n (by omega) (.inl hn)]; exact b.k0 n hn
theorem Both.outS (b : Both h1 c1 h c hp a sp mp ma q vW vX vb vr vM vY vB vP vS vC W R size s1 W2 R2 size2 s2 most) {n : Nat} (hn : n < c1 \/ n ∈ hmn hp a vW vX \/ n ∈ mp :: mn ma vM vY \/ n ∈ rn q vB vP vS vC) : n ∉ sp :: (zS vb ++ zS vr) /\ n < c := by
 have hc0 := b.c0
 rcases hn with hn | hn | hn | hn
 ·exact ⟨fun hh => by have := b.o2 n hh; omega, by omega⟩
 ·exact ⟨fun hh => b.d12 n hh hn, b.hm.names n hn⟩
 ·exact ⟨b.d23 n hn, b.md.names n hn⟩
 ·exact ⟨b.d24 n hn, b.rf.names n hn⟩
theorem Both.outQ (b : Both h1 c1 h c hp a sp mp ma q vW vX vb vr vM vY vB vP vS vC W R size s1 W2 R2 size2 s2 most) {n : Nat} (hn : n < c1 \/ n ∈ hmn hp a vW vX \/ n ∈ sp :: (zS vb ++ zS vr) \/ n ∈ mp :: mn ma vM vY) : n ∉ rn q vB vP vS vC /\ n < c := by
 have hc0 := b.c0
 rcases hn with hn | hn | hn | hn
 ·exact ⟨fun hh => by have := b.o4 n hh; omega, by omega⟩
 ·exact ⟨fun hh => b.d14 n hh hn, b.hm.names n hn⟩
 ·exact ⟨fun hh => b.d24 n hh hn, b.n2 n hn⟩
 ·exact ⟨fun hh => b.d34 n hh hn, b.md.names n hn⟩
structure Granted (i : Nat) (st : St) : Prop where
 good : Good st
 live : st.live = 2 * (i : Int)
 most : st.most = 20
 rows : st.rows.length = i
 one : ∀ (j : Nat) (x : R3), st.rows[j]? = some x -> x.2.2 = 1
theorem granted_new : Granted 0 ⟨[], 20, [], 0⟩ := ⟨good_new (by decide) (by decide), rfl, rfl, rfl, fun j x hx => by simp at hx⟩
theorem Granted.sized {i : Nat} (g : Granted i st) : Sized st.rows := fun j x h1 h2 => by
 have := g.good.lies.in_ j x h1 h2
 have := g.good.fit
 have := g.good.most
 omega
theorem Granted.more {i j : Nat} {ys : List Int} {R : List R3} (g : Granted i st) (hi : i < 3) (hy : ys.length = 2)
  (c1 : (∃ q, (jA st 2).rows[j]? = some q /\ q.2.2 <= 0 /\ R = (jA st 2).rows.set j ((jA st 2).bs.length, 2, 1)) \/ (j = st.rows.length /\ R = (jA st 2).rows ++ [(((jA st 2).bs.length : Int), 2, (1 : Int))])) :
  j = i /\ R = (jA st 2).rows ++ [(((jA st 2).bs.length : Int), 2, (1 : Int))] /\ Granted (i + 1) ⟨(jA st 2).bs ++ ys, st.most, (jA st 2).rows ++ [(((jA st 2).bs.length : Int), 2, (1 : Int))], st.live + 2⟩ := by
 have hrl := room_rows st 2
 have hyes : st.live <= st.most - 2 := by rw [g.live, g.most]; omega
 have ones : ∀ (m : Nat) (x : R3), (jA st 2).rows[m]? = some x -> x.2.2 = 1 := fun m x hx => by
  obtain ⟨a, ha⟩ := room_dead 2 hx
  exact g.one m (a, x.2.1, x.2.2) ha
 rcases c1 with ⟨x, h1, h2, _⟩ | ⟨rfl, rfl⟩
 ·have := ones _ _ h1; omega
 refine ⟨g.rows, rfl, ⟨?_, ?_, g.most, ?_, fun m x hx => ?_⟩⟩
 ·have := good_add (n := 2) (room_good g.good 2) (by decide) ys hy (by rw [room_most]; exact room_len g.good hyes)
  rw [room_live, room_most] at this
  exact this
 ·show st.live + 2 = 2 * ((i + 1 : Nat) : Int)
  rw [g.live]; omega
 ·show ((jA st 2).rows ++ [_]).length = i + 1
  rw [zr, hrl, g.rows]; rfl
 ·by_cases e : m < (jA st 2).rows.length
  ·rw [List.getElem?_append_left e] at hx
   exact ones m x hx
  ·rw [List.getElem?_append_right (by omega)] at hx
   obtain ⟨d, hd⟩ : ∃ d, m - (jA st 2).rows.length = d := ⟨_, rfl⟩
   rw [hd] at hx
   cases d with
   | zero => simp at hx; subst hx; rfl
   | succ d => simp at hx
end
open Go.Ab
theorem Does.names {f : Nat} {xs : List V} {h : HH} {c : Nat} {ns ms : List Nat} {Q : V -> HH -> Nat -> Prop} (w : Does f xs h c ns Q) (h1 : ∀ n ∈ ns, n ∈ ms) : Does f xs h c ms Q :=
 WpX.mono w fun v h' c' l ⟨a, b, d, q⟩ => ⟨fun x hx => inL_sub (fun n hn => .inl (h1 n hn)) (Nat.le_refl _) (a x hx), b, fun n hn hm => d n hn fun hh => hm (h1 n hh), q⟩
def YesMk (W X : List Int) (k n size : Int) : Prop := n = X.length /\ 0 <= k /\ k <= 3 /\ (W.length : Int) + 1 + X.length <= size /\ (k = 3 -> X[0]? ≠ some 4)
def Bump (k : Int) (X : List Int) (rows rows' : List R3) : Prop :=
 ((k ≠ 3 \/ X[0]? = some 0) /\ rows' = rows) \/ (k = 3 /\ ∃ (bi : Nat) (qq : R3), X[0]? = some ((bi + 1 : Nat) : Int) /\ rows[bi]? = some qq /\ 0 < qq.2.2 /\ qq.2.2 <= 1000000 /\ rows' = rows.set bi (qq.1, qq.2.1, qq.2.2 + 1))
section
variable {h h' : HH} {c c' hp a sp mp ma q : Nat} {vW vY vX vW' vb vr vB vP vS vC : V} {W W' R X hs : List Int} {size size' most : Int} {st : St} {k n : Int}
theorem HM.made (r : HM h c hp a sp vW vY W R size most) (H : HeapAt h' c' hp a sp vW' W' size' most) (hc : c <= c') (hn' : ∀ m ∈ zS vW', m ∈ zS vW \/ c <= m) (e : ∀ m, m < c -> m ∈ zS vY -> MapI.get h' m = MapI.get h m) :
  HM h' c' hp a sp vW' vY W' R size' most /\ ∀ m ∈ zS vW' ++ zS vY, m ∈ zS vW ++ zS vY \/ c <= m := by
 refine ⟨⟨H, r.rr.keep hc e, fun m hm hh => ?_, r.ok, r.len⟩, fun m hm => ?_⟩
 ·have h1 := r.sep m hm
  have h2 := r.rr.lt m hm
  simp only [hn, an, List.mem_cons] at hh h1
  rcases hh with hh | hh | hh
  ·exact h1 (.inl hh)
  ·exact h1 (.inr (.inl hh))
  ·rcases hn' m hh with hh | hh
   ·exact h1 (.inr (.inr hh))
   ·omega
 ·rcases zk hm with hm | hm
  ·exact (hn' m hm).imp (fun h => zh _ h) id
  ·exact .inl (zi _ hm)
theorem hk_ok {k : Int} (hk : ¬ (k < 0 \/ 3 < k)) (hl : X.length <= 50) : okH (kH k X.length) :=
 ⟨show (0 : Int) <= k by omega, show k <= 3 by omega, show (0 : Int) <= X.length by omega, show (X.length : Int) < 1048576 by omega, show (0 : Int) <= 1 by decide, show (1 : Int) < 1048576 by decide⟩
theorem hmake_any (r : HM h c hp a sp vW vY W R size most) (s : StoreAt h c sp vb vr st) (hap : ∀ m ∈ sp :: (zS vb ++ zS vr), m ∉ hmn hp a vW vY) (rx : RowOf 1 ye h c vX X) (hXn : ∀ m ∈ zS vX, m ∉ hmn hp a vW vY /\ m ∉ sp :: (zS vb ++ zS vr)) (fx : FieldsX k R X) (cs : Cnts st.rows hs) (hl : hs.length <= 1000) :
  Does 12 [.ptr (some (hp, 0)), .agg (hdV (kH k n)), vX] h c (hmn hp a vW vY ++ zS vX ++ sp :: (zS vb ++ zS vr)) fun v h' c' =>
   (YesMk W X k n size /\ v = .tuple [U (jQ W.length), .bool true] /\ ∃ vW' rows', Bump k X st.rows rows' /\ HM h' c' hp a sp vW' vY (W ++ makeW (kH k n) :: X) R size most /\ (∀ m ∈ zS vW' ++ zS vY, m ∈ zS vW ++ zS vY \/ c <= m) /\ StoreAt h' c' sp vb vr { st with rows := rows' } /\ ∀ m, m < c -> m ∉ hmn hp a vW vY -> m ∉ sp :: (zS vb ++ zS vr) -> MapI.get h' m = MapI.get h m) \/
   (¬ YesMk W X k n size /\ v = .tuple [U 0, .bool false] /\ ∀ m, m < c -> MapI.get h' m = MapI.get h m) := by
 have sub1 : ∀ m ∈ hn hp a vW ++ zS vX, m ∈ hmn hp a vW vY ++ zS vX ++ sp :: (zS vb ++ zS vr) := fun m hm => by
  rcases zk hm with h | h
  ·exact zh _ (zh _ (zh _ h))
  ·exact zh _ (zi _ h)
 have sub2 : ∀ m ∈ hn hp a vW ++ zS vX ++ sp :: (zS vb ++ zS vr), m ∈ hmn hp a vW vY ++ zS vX ++ sp :: (zS vb ++ zS vr) := fun m hm => by
  rcases zk hm with h | h
  ·exact sub1 m h
  ·exact zi _ h
 by_cases hnX : n = X.length
 case neg => exact ((hmake_len (x := kH k n) r.hm rx fun e => hnX e.symm).names sub1).mono fun v h' c' _ _ q => .inr ⟨fun y => hnX y.1, q⟩
 subst hnX
 by_cases hk : k < 0 \/ 3 < k
 ·exact ((hmake_none (.inl (by omega)) r.hm rx rfl (.inl hk)).names sub1).mono fun v h' c' _ _ q => .inr ⟨fun y => by have := y.2.1; have := y.2.2.1; omega, q⟩
 have hok := hk_ok (X := X) hk fx.len
 have hXW : ∀ m ∈ zS vX, m ∉ hn hp a vW := fun m hm hh => (hXn m hm).1 (zh _ hh)
 have h3 := cs.three
 by_cases hz : k ≠ 3 \/ X[0]? = some 0
 ·by_cases hle : (W.length : Int) + 1 + X.length <= size
  ·refine ((hmake_zero hz r.hm rx rfl hok hXW fx.ok hle).names sub1).mono fun v h' c' hc hf ⟨e, vW', H, hn', hg⟩ => .inl ⟨⟨rfl, by omega, by omega, hle, fun e => ?_⟩, e, vW', st.rows, .inl ⟨hz, rfl⟩, ?_⟩
   ·rcases hz with hz | hz
    ·exact absurd e hz
    ·rw [hz]; decide
   ·obtain ⟨m1, m2⟩ := r.made H hc hn' fun m hm hY => hg m hm fun hh => r.sep m hY (zg _ hh)
    exact ⟨m1, m2, s.keepN hc fun m h1 h2 => hg m h1 fun hh => hap m h2 (zh _ (zg _ hh)), fun m h1 h2 _ => hg m h1 fun hh => h2 (zh _ (zg _ hh))⟩
  ·exact ((hmake_none hz r.hm rx rfl (.inr ⟨hok, by omega⟩)).names sub1).mono fun v h' c' _ _ q => .inr ⟨fun y => hle y.2.2.2.1, q⟩
 have hk3 : k = 3 := by
  by_cases e : k = 3
  ·exact e
  ·exact absurd (.inl e) hz
 subst hk3
 obtain ⟨b, hb4, hX0⟩ := fx.bin rfl
 obtain ⟨bi, rfl⟩ : ∃ bi, b = bi + 1 := ⟨b - 1, by
  by_cases e : b = 0
  ·subst e; exact absurd (.inr hX0) hz
  ·omega⟩
 by_cases hb3 : bi = 3
 ·subst hb3
  exact ((hmake_bin_gone (n := X.length) (t := 1) (bi := 3) r.hm s (by omega) (by omega) (by decide) rx rfl hX0).names sub2).mono fun v h' c' _ _ q => .inr ⟨fun y => y.2.2.2.2 rfl hX0, q⟩
 obtain ⟨qq, hq, hqc⟩ := cs.row (j := bi) (by omega)
 have hml := many_len hs bi
 by_cases hle : (W.length : Int) + 1 + X.length <= size
 ·refine ((hmake_bin (n := X.length) (t := 1) (bi := bi) r.hm s (fun m hm => ⟨fun hh => hap m hm (zh _ hh), fun hh => (hXn m hh).2 hm⟩) (by omega) hq (by omega) rx rfl hX0 hok hXW fx.ok hle).names sub2).mono fun v h' c' hc hf ⟨e, vW', H, hn', S, hg⟩ => .inl ⟨⟨rfl, by omega, by omega, hle, fun _ e => ?_⟩, e, vW', _, .inr ⟨rfl, bi, qq, hX0, hq, by omega, by omega, rfl⟩, ?_⟩
  ·rw [hX0] at e
   simp only [Option.some.injEq] at e
   omega
  ·rw [Go.IntWalk.i64_in _ (by omega)] at S
   obtain ⟨m1, m2⟩ := r.made H hc hn' fun m hm hY => hg m hm (fun hh => r.sep m hY (zg _ hh)) fun hh => hap m (by
    rcases zl hh with h | h
    ·rw [h]; exact zq ..
    ·exact zg _ (zi _ h)) (zi _ hY)
   exact ⟨m1, m2, S, fun m h1 h2 h3 => hg m h1 (fun hh => h2 (zh _ (zg _ hh))) fun hh => h3 (by
    rcases zl hh with h | h
    ·rw [h]; exact zq ..
    ·exact zg _ (zi _ h))⟩
 ·exact ((hmake_bin_no (n := X.length) (t := 1) (bi := bi) r.hm s (by omega) hq (by omega) rx rfl hX0 hok (by omega)).names sub2).mono fun v h' c' _ _ q => .inr ⟨fun y => hle y.2.2.2.1, q⟩
theorem mmake_any (r : MdH h c mp ma q vW vY W R size most) (s : RefAt h c q vB vP vS vC st) (hap : ∀ m ∈ rn q vB vP vS vC, m ∉ mp :: mn ma vW vY) (rx : RowOf 1 ye h c vX X) (hXn : ∀ m ∈ zS vX, m ∉ mp :: mn ma vW vY /\ m ∉ rn q vB vP vS vC) (fx : FieldsX k R X) (cs : Cnts st.rows hs) (hl : hs.length <= 1000) :
  Does 13 [.ptr (some (mp, 0)), .agg (hdV (kH k n)), vX] h c (mp :: mn ma vW vY ++ zS vX ++ rn q vB vP vS vC) fun v h' c' =>
   (YesMk W X k n size /\ v = .tuple [U (jQ W.length), .bool true] /\ ∃ vW' rows', Bump k X st.rows rows' /\ MdH h' c' mp ma q vW' vY (W ++ makeW (kH k n) :: X) R size most /\ (∀ m ∈ zS vW' ++ zS vY, m ∈ zS vW ++ zS vY \/ c <= m) /\ RefAt h' c' q vB vP vS vC { st with rows := rows' }) \/
   (¬ YesMk W X k n size /\ v = .tuple [U 0, .bool false] /\ ∀ m, m < c -> MapI.get h' m = MapI.get h m) := by
 have sub1 : ∀ m ∈ mp :: mn ma vW vY ++ zS vX, m ∈ mp :: mn ma vW vY ++ zS vX ++ rn q vB vP vS vC := fun m hm => zh _ hm
 by_cases hnX : n = X.length
 case neg => exact ((mmake_len r rx fun e => hnX e.symm).names sub1).mono fun v h' c' _ _ q => .inr ⟨fun y => hnX y.1, q⟩
 subst hnX
 by_cases hk : k < 0 \/ 3 < k
 ·exact ((mmake_bad r rx hk).names sub1).mono fun v h' c' _ _ q => .inr ⟨fun y => by have := y.2.1; have := y.2.2.1; omega, q⟩
 have hok := hk_ok (X := X) hk fx.len
 have h3 := cs.three
 by_cases hle : (W.length : Int) + 1 + X.length <= size
 case neg => exact ((mmake_room r rx hok (by omega)).names sub1).mono fun v h' c' _ _ q => .inr ⟨fun y => hle y.2.2.2.1, q⟩
 have nm : ∀ {c : Nat} {vW' : V}, (∀ m ∈ zS vW', m ∈ zS vW \/ c <= m) -> ∀ m ∈ zS vW' ++ zS vY, m ∈ zS vW ++ zS vY \/ c <= m := fun h m hm => by
  rcases zk hm with hm | hm
  ·exact (h m hm).imp (fun h => zh _ h) id
  ·exact .inl (zi _ hm)
 by_cases hz : k ≠ 3 \/ X[0]? = some 0
 ·refine (mmake_yes (rows' := st.rows) r s hap rx (fun m hm => (hXn m hm).1) (fun m hm => (hXn m hm).2) fx.ok (by omega) hok hle (.inl ⟨hz, rfl⟩)).mono fun v h' c' hc hf ⟨e, vW', H, hn', S⟩ => .inl ⟨⟨rfl, by omega, by omega, hle, fun e => ?_⟩, e, vW', st.rows, .inl ⟨hz, rfl⟩, H, nm hn', S⟩
  rcases hz with hz | hz
  ·exact absurd e hz
  ·rw [hz]; decide
 have hk3 : k = 3 := by
  by_cases e : k = 3
  ·exact e
  ·exact absurd (.inl e) hz
 subst hk3
 obtain ⟨b, hb4, hX0⟩ := fx.bin rfl
 obtain ⟨bi, rfl⟩ : ∃ bi, b = bi + 1 := ⟨b - 1, by
  by_cases e : b = 0
  ·subst e; exact absurd (.inr hX0) hz
  ·omega⟩
 by_cases hb3 : bi = 3
 ·subst hb3
  exact (mmake_gone (bi := 3) r s rx (by omega) hX0 (by omega) (by decide) hok hle).mono fun v h' c' _ _ q => .inr ⟨fun y => y.2.2.2.2 rfl hX0, q⟩
 obtain ⟨qq, hq, hqc⟩ := cs.row (j := bi) (by omega)
 have hml := many_len hs bi
 refine (mmake_yes (rows' := st.rows.set bi (qq.1, qq.2.1, qq.2.2 + 1)) r s hap rx (fun m hm => (hXn m hm).1) (fun m hm => (hXn m hm).2) fx.ok (by omega) hok hle (.inr ⟨rfl, bi, qq, hX0, hq, by omega, by omega, rfl⟩)).mono fun v h' c' hc hf ⟨e, vW', H, hn', S⟩ => .inl ⟨⟨rfl, by omega, by omega, hle, fun _ e => ?_⟩, e, vW', _, .inr ⟨rfl, bi, qq, hX0, hq, by omega, by omega, rfl⟩, H, nm hn', S⟩
 rw [hX0] at e
 simp only [Option.some.injEq] at e
 omega
end
section
variable {W R R' X : List Int} {size size' : Int} {s1 s2 : St} {l : List (Nat × Hd)} {k : Int} {N M : Nat} {r1 r2 rows : List R3}
theorem Bump.cnts (b : Bump k X rows r1) (cs : Cnts rows (yX W l)) (so : ObjsFrom W 0 l) : Cnts r1 (yX (W ++ makeW (kH k X.length) :: X) (l ++ [(W.length, kH k X.length)])) := by
 rw [hands_made so]
 rcases b with ⟨hz, rfl⟩ | ⟨rfl, bi, qq, hX0, hq, _, _, rfl⟩
 ·have e : handN (kH k X.length) X = [] := by
   unfold handN
   split
   ·next w hw =>
    rw [if_neg]
    rintro ⟨h1, _, h2⟩
    rcases hz with hz | hz
    ·exact hz h1
    ·rw [hz] at hw; cases hw; exact h2 rfl
   ·rfl
  rw [e, List.append_nil]; exact cs
 ·have hbi := (zj hq).1
  have h3 := cs.three
  have hX := (zj hX0).1
  have e : handN (kH 3 X.length) X = [((bi + 1 : Nat) : Int)] := by
   unfold handN
   rw [hX0]
   show (if _ then _ else _) = _
   rw [if_pos ⟨rfl, by show (0 : Int) < X.length; omega, by omega⟩, Go.IntWalk.i64_in _ (by omega)]
  rw [e]
  exact cs.more hq
theorem handsOk_made (ho : HandsOk (yX W l)) (b : Bump k X rows r1) (h3 : rows.length = 3) (so : ObjsFrom W 0 l) : HandsOk (yX (W ++ makeW (kH k X.length) :: X) (l ++ [(W.length, kH k X.length)])) := by
 rw [hands_made so]
 intro g hg
 rcases zk hg with hg | hg
 ·exact ho g hg
 unfold handN at hg
 rcases b with ⟨hz, rfl⟩ | ⟨rfl, bi, qq, hX0, hq, _, _, rfl⟩
 ·split at hg
  ·next w hw =>
   rw [if_neg] at hg
   ·cases hg
   ·rintro ⟨h1, _, h2⟩
    rcases hz with hz | hz
    ·exact hz h1
    ·rw [hz] at hw; cases hw; exact h2 rfl
  ·cases hg
 ·have hbi := (zj hq).1
  rw [hX0] at hg
  simp only at hg
  split at hg
  ·rw [Go.IntWalk.i64_in _ (by omega)] at hg
   exact ⟨bi, by omega, zm hg⟩
  ·cases hg
theorem Plays.made (p : Plays N W R size s1 s2 l) (fx : FieldsX k R X) (y : YesMk W X k X.length size) (hW : W.length <= 1048576) (b1 : Bump k X s1.rows r1) (b2 : Bump k X s2.rows r2) :
  Plays (N + 1) (W ++ makeW (kH k X.length) :: X) (R ++ [jQ W.length]) size { s1 with rows := r1 } { s2 with rows := r2 } (l ++ [(W.length, kH k X.length)]) := by
 obtain ⟨_, hk0, hk3, hle, _⟩ := y
 have hf : yc (kH k X.length) <= (X.length : Int) := by
  unfold yc
  show (if k = 0 then (2 : Int) else if k = 1 then (X.length : Int) else 0) <= X.length
  split
  ·next e => rw [fx.cons e]; decide
  ·split <;> omega
 refine ⟨(made_sound p.so (hk_ok (by omega) fx.len) rfl hf (fun j w hj hw => ?_) hW).2, b1.cnts p.cx p.so.objs, b2.cnts p.cy p.so.objs, handsOk_made p.ho b1 p.cx.three p.so.objs, by rw [zr]; have := p.ll; simpa using this, by rw [zr]; have := p.rl; simpa using this⟩
 have hk : k ≠ 2 /\ k ≠ 3 := by
  unfold yc at hj
  have hj : (j : Int) < (if k = 0 then (2 : Int) else if k = 1 then (X.length : Int) else 0) := hj
  refine ⟨fun e => ?_, fun e => ?_⟩ <;> (subst e; simp at hj; omega)
 rcases fx.flds hk.1 hk.2 w (zo hw) with h | ⟨h1, h2, h3⟩
 ·exact p.so.roots w h
 ·exact ⟨h2, h3, fun h => absurd h h1⟩
theorem Plays.collected (p : Plays N W R size s1 s2 l) (hW : W.length <= 1048576) (m1 : Moved s1.rows r1 fun j => - jd (yx W R l l) j) (m2 : Moved s2.rows r2 fun j => - jd (yx W R l l) j) :
  Plays N (yh W R l (zX W l R)) (R.map (mvW W R l)) size' { s1 with rows := r1 } { s2 with rows := r2 } (newL W R l) :=
 ⟨slid_sound p.so hW, p.cx.moved m1 (hands_after p.so), p.cy.moved m2 (hands_after p.so), fun g hg => p.ho g (hands_sub p.so hg), Nat.le_trans newL_le p.ll, by rw [List.length_map]; exact p.rl⟩
theorem Plays.less (p : Plays N W R size s1 s2 l) (h : ∀ w ∈ R', w ∈ R) (hl : R'.length <= N) : Plays N W R' size s1 s2 l := ⟨p.so.less h, p.cx, p.cy, p.ho, p.ll, hl⟩
theorem Plays.mono (p : Plays N W R size s1 s2 l) (h : N <= M) : Plays M W R size' s1 s2 l := ⟨p.so, p.cx, p.cy, p.ho, Nat.le_trans p.ll h, Nat.le_trans p.rl h⟩
end
open Go.Ab
section
variable {h h' : HH} {c c' a : Nat} {vW vR : V} {W R : List Int} {size : Int}
theorem clone_wordsR (rr : RowOf 1 ye h c vR R) (hlen : R.length <= 1000000000) : DoesR 51 [vR] h c (zS vR) fun v h' c' => (ListOf 1 ye h' c' v R \/ (R = [] /\ ∃ b cap, v = .slice b 0 cap)) /\ (∀ n ∈ zS v, c <= n) /\ ∀ n, n < c -> MapI.get h' n = MapI.get h n := by
 obtain ⟨b, cap, rfl, hlt, hrow⟩ := rr
 refine yN (enter (fn := Tryz.f51) Tryz.func51 rfl rfl (zf rfl) ?_)
 cases b with
 | none =>
  have hR : R = [] := by
   by_cases e : R = []
   ·exact e
   ·obtain ⟨m, cl, junk, e2, _⟩ := hrow e; cases e2
  subst hR
  repeat' (first | apply zw | apply zx | apply zK | refine za rfl rfl (fun _ => rfl) ?_ | refine zU ?_)
  refine ze rfl ?_
  repeat' (first | apply zw | apply zx | apply zG | apply zK | refine za rfl rfl (fun _ => rfl) ?_ | refine yn ?_)
  exact z6 rfl ⟨.inl .nil, fun n hn => (by cases hn), fun n _ => rfl⟩
 | some p =>
  obtain ⟨m0, o0⟩ := p
  have hm0 : m0 < c := hlt m0 (by simp [zS])
  repeat' (first | apply zw | apply zx | apply zK | refine za rfl rfl (fun _ => rfl) ?_ | refine zU ?_)
  refine zd rfl ?_
  repeat' (first | apply zw | apply zx | apply zz | refine za rfl rfl (fun _ => rfl) ?_ | refine zL rfl rfl (yy (k := 1) rfl rfl rfl rfl (by decide) rfl ⟨(by simp [InR, Acc.name, Acc.writes, zS] <;> omega), ?_⟩))
  by_cases hR : R = []
  ·subst hR
   refine zL rfl rfl (jC (call := fun n => evFn EE cx pr n) (v := .slice (some (c, 0)) 0 (.known 0)) (l := []) rfl rfl (gw (k := 0) ⟨rfl, rfl, rfl, ⟨_, rfl, by decide⟩⟩ rfl rfl (fun h => by cases h) (by decide) (fun m o k' h1 h2 => by cases h2; exact Nat.le_refl _)) ⟨zV, ?_⟩)
   repeat' (first | apply zG | apply zK | refine za rfl rfl (fun _ => rfl) ?_)
   exact z6 rfl ⟨.inr ⟨rfl, _, _, rfl⟩, fun n hn => (by have hn : n ∈ [c] := hn; simp at hn; omega), fun n hn => zu _ _ _ _ (by omega)⟩
  ·obtain ⟨m, cl, junk, e, hg, _⟩ := hrow hR
   cases e
   have hpos : 0 < R.length := List.length_pos_iff.2 hR
   have hg' : ∀ {o : AObj}, MapI.get (MapI.set h c o) m0 = some (.cells true cl (flat ye R ++ junk)) := yP (by omega) hg
   have hcut : cut (flat ye R ++ junk) 0 (R.length * (0 + 1)) = some (flat ye R) := by
    have := flat_take (cells := ye) (k := 1) yq R R.length (Nat.le_refl _) junk
    rw [List.take_length] at this
    exact this
   refine zL rfl rfl (jC (call := fun n => evFn EE cx pr n) rfl rfl (append_known (k := 0) ⟨rfl, rfl, rfl, ⟨_, rfl, by decide⟩⟩ rfl hpos hlen hg' hcut) ⟨?_, ?_⟩)
   ·intro x hx
    simp at hx
    rcases hx with rfl | rfl
    ·exact ⟨.inl (by simp [Acc.name, zS]), fun hw => by cases hw⟩
    ·exact ⟨.inr (by simp [Acc.name]), fun _ => by simp [Acc.name]⟩
   repeat' (first | apply zG | apply zK | refine za rfl rfl (fun _ => rfl) ?_)
   refine z6 rfl ⟨.inl (.inr ⟨c + 1, true, [], rfl, by omega, by rw [zt, List.append_nil], rfl⟩), fun n hn => (by have hn : n ∈ [c + 1] := hn; simp at hn; omega), fun n hn => ?_⟩
   rw [zu _ _ _ _ (by omega), zu _ _ _ _ (by omega)]
theorem words_okR (r : ArAt h c a vW W size) : DoesR 22 [.ptr (some (a, 0))] h c (an a vW) fun v h' c' => ReadsW h' c' v W /\ (∀ n ∈ zS v, c <= n) /\ ∀ n, n < c -> MapI.get h' n = MapI.get h n := by
 have hobj := r.obj
 have hle := r.le
 have hmx := r.mx
 refine yN (enter (fn := Tryz.f22) Tryz.func22 rfl rfl (zf rfl) ?_)
 repeat' (first | apply zw | apply zx | apply zK | refine za rfl rfl (fun _ => rfl) ?_ | refine zU ?_)
 refine zd rfl ?_
 repeat' (first | apply zw | apply zx | apply zz | refine za rfl rfl (fun _ => rfl) ?_ | refine zL rfl rfl (zW rfl rfl rfl hobj rfl ⟨(by simp [InR, Acc.name, Acc.writes, zS] <;> omega), ?_⟩))
 refine zL rfl rfl (yZ rfl (clone_wordsR r.w.row (by omega)) (fun n hn => .inl (zg _ hn)) (Nat.le_refl _) fun v4 h4 c4 hc4 _ hq => ?_)
 obtain ⟨hl, hn4, hf4⟩ := hq
 repeat' (first | apply zG | apply zK | refine za rfl rfl (fun _ => rfl) ?_)
 refine z6 rfl ⟨?_, hn4, hf4⟩
 rcases hl with hl | ⟨rfl, b, cap, rfl⟩
 ·exact hl.row.reads
 ·exact ⟨b, cap, rfl, fun i hi => absurd hi (Nat.not_lt_zero _)⟩
end
theorem gK {f : Nat} {args : Array Operand} {ats : Array Nat} {xs : List V} {e : EE} {h : HH} {c c0 : Nat} {ns ms : List Nat} {Q : V -> HH -> Nat -> Prop} {K : V -> HH -> Nat -> List Acc -> Prop} {ds : Option Tmp} {ty : Nat} {pos : String} {af : Array Edge} {gd : Option (Nat × Bool)}
  (ha : evs cx e args.toList = some xs) (w : DoesR f xs h c ns Q) (t : Clear h c) (h1 : ∀ n ∈ ns, n ∈ ms \/ c0 <= n) (h2 : c0 <= c)
  (k : ∀ v h' c' al, (∀ x ∈ al, InR ns c x /\ x.name < c') -> Clear h' c' -> c <= c' -> (∀ n, n < c -> MapI.get h' n = MapI.get h n) -> Q v h' c' -> K v h' c' al) :
  WpX (fun n => opM cx (evFn EE cx pr n) e ⟨ds, .call ⟨.value (.func f), args, ats⟩, ty, pos, af, gd⟩) h c fun v h' c' al => (∀ x ∈ al, InL ms c0 x) /\ K v h' c' al := by
 obtain ⟨a, h', c', l, ⟨q1, q2, q3, q4⟩, kk, hk⟩ := w
 obtain ⟨_, t2, t3⟩ := tidy_cl _ _ _ _ _ _ (hk kk (Nat.le_refl _)) t
 exact g9 (call := fun n => evFn EE cx pr n) ha ⟨a, h', c', l, ⟨fun x hx => (inR_sub h1 h2 (q1 x hx)).1, k a h' c' l (fun x hx => ⟨q1 x hx, t3 x hx⟩) t2 q2 q3 q4⟩, kk, hk⟩
open Go.Ab
def AllRd (a : List Acc) : Prop := ∀ x ∈ a, x.writes = false
def Blw (c : Nat) (a : List Acc) : Prop := ∀ x ∈ a, x.name < c
theorem dis_reads {a b : List Acc} (h : AllRd a) (g : AllRd b) : Dis a b := fun x hx y hy _ => ⟨h x hx, g y hy⟩
theorem disN {a : List Acc} : Dis a [] := fun x _ y hy => by cases hy
theorem nDis {a : List Acc} : Dis [] a := fun x hx => by cases hx
theorem rd1 {n : Nat} : AllRd [.rd n] := fun x hx => by rw [zm hx]; rfl
theorem rd0 : AllRd [] := fun x hx => by cases hx
theorem blw1 {n c : Nat} (h : n < c) : Blw c [.rd n] := fun x hx => by rw [zm hx]; exact h
theorem blw0 {c : Nat} : Blw c [] := fun x hx => by cases hx
theorem reads_of {al : List Acc} {ns : List Nat} {c : Nat} (h : ∀ x ∈ al, InR ns c x /\ x.name < c) : AllRd al := fun x hx => by
 cases e : x.writes with
 | false => rfl
 | true => have := (h x hx).1.2 e; have := (h x hx).2; omega
theorem k7 {al a : List Acc} {ns : List Nat} {c : Nat} (h : ∀ x ∈ al, InR ns c x) (r : AllRd a) (b : Blw c a) : Dis a al /\ Dis al a := by
 have key : ∀ x ∈ al, ∀ y ∈ a, x.name = y.name -> x.writes = false := fun x hx y hy e => by
  cases e2 : x.writes with
  | false => rfl
  | true => have := (h x hx).2 e2; have := b y hy; omega
 exact ⟨fun y hy x hx e => ⟨r y hy, key x hx y hy e.symm⟩, fun x hx y hy e => ⟨key x hx y hy e, r y hy⟩⟩
section
variable {h h' : HH} {c c' hp a sp mp ma q : Nat} {vW vR vb vr vB vP vS vC : V} {W R : List Int} {size size' most n : Int} {st s1 s2 : St} {l : List (Nat × Hd)} {N : Nat} {r1 r2 : List R3}
noncomputable def needW (n : Int) (W R : List Int) (size : Int) (l : List (Nat × Hd)) : List Int := if n <= size - W.length then W else yh W R l (zX W l R)
noncomputable def needR (n : Int) (W R : List Int) (size : Int) (l : List (Nat × Hd)) : List Int := if n <= size - W.length then R else R.map (mvW W R l)
noncomputable def needL (n : Int) (W R : List Int) (size : Int) (l : List (Nat × Hd)) : List (Nat × Hd) := if n <= size - W.length then l else newL W R l
noncomputable def needS (n : Int) (W R : List Int) (size most : Int) (l : List (Nat × Hd)) : Int := if n <= size - W.length then size else if n <= most - (yh W R l (zX W l R)).length then jE most ((yh W R l (zX W l R)).length + n) else jE most (yh W R l (zX W l R)).length
noncomputable def needB (n : Int) (W R : List Int) (size most : Int) (l : List (Nat × Hd)) : Bool := if n <= size - W.length then true else decide (n <= most - (yh W R l (zX W l R)).length)
def MvN (n : Int) (W R : List Int) (size : Int) (l : List (Nat × Hd)) (rows rows' : List R3) : Prop := (n <= size - W.length /\ rows' = rows) \/ (¬ n <= size - W.length /\ Moved rows rows' fun j => - jd (yx W R l l) j)
theorem needR_len : (needR n W R size l).length = R.length := by unfold needR; split <;> simp
theorem need_any {n0 : Int} (e1 : (if (0 : Int) > n0 then 0 else n0) = n) (r : HM h c hp a sp vW vR W R size most) (so : SoundW W R l) (s : StoreAt h c sp vb vr st) (hap : ∀ n ∈ sp :: (zS vb ++ zS vr), n ∉ hmn hp a vW vR) (cs : Cnts st.rows (yX W l)) (ho : HandsOk (yX W l)) (hl : l.length <= 1000) :
  Does 14 [.ptr (some (hp, 0)), I n0, vR] h c (hmn hp a vW vR ++ sp :: (zS vb ++ zS vr)) fun v h' c' => v = .bool (needB n W R size most l) /\ ∃ vW' rows', HM h' c' hp a sp vW' vR (needW n W R size l) (needR n W R size l) (needS n W R size most l) most /\ (∀ x ∈ zS vW' ++ zS vR, x ∈ zS vW ++ zS vR \/ c <= x) /\ StoreAt h' c' sp vb vr { st with rows := rows' } /\ MvN n W R size l st.rows rows' := by
 obtain ⟨p1, p2, p3⟩ := kj cs ho hl so
 refine (need_gone e1 r so s hap (by rw [cs.three]; decide) p1 p2 p3).mono fun v h' c' hc hf q => ?_
 unfold needB needW needR needS
 rcases q with ⟨hn, rfl, rfl, rfl⟩ | ⟨hn, vW', rows', rfl, HM', nm, S', mv⟩
 ·rw [if_pos hn, if_pos hn, if_pos hn, if_pos hn]
  exact ⟨rfl, vW, st.rows, r, fun x hx => .inl hx, s, .inl ⟨hn, rfl⟩⟩
 ·rw [if_neg hn, if_neg hn, if_neg hn, if_neg hn]
  refine ⟨rfl, vW', rows', HM', fun x hx => .inl ?_, S', .inr ⟨hn, mv⟩⟩
  rcases zk hx with h | h
  ·exact zh _ (nm x h)
  ·exact zi _ h
theorem mneed_any {n0 : Int} (e1 : (if (0 : Int) > n0 then 0 else n0) = n) (r : MdH h c mp ma q vW vR W R size most) (so : SoundW W R l) (s : RefAt h c q vB vP vS vC st) (hap : ∀ n ∈ rn q vB vP vS vC, n ∉ mp :: mn ma vW vR) (cs : Cnts st.rows (yX W l)) (ho : HandsOk (yX W l)) (hl : l.length <= 1000) :
  Does 15 [.ptr (some (mp, 0)), I n0, vR] h c (mp :: mn ma vW vR ++ rn q vB vP vS vC) fun v h' c' => v = .bool (needB n W R size most l) /\ ∃ vW' rows', MdH h' c' mp ma q vW' vR (needW n W R size l) (needR n W R size l) (needS n W R size most l) most /\ (∀ x ∈ zS vW' ++ zS vR, x ∈ zS vW ++ zS vR \/ c <= x) /\ RefAt h' c' q vB vP vS vC { st with rows := rows' } /\ MvN n W R size l st.rows rows' := by
 obtain ⟨p1, p2, p3⟩ := kj cs ho hl so
 refine (mneed_ok e1 r so s hap (by rw [cs.three]; decide) p1 p2 p3).mono fun v h' c' hc hf q => ?_
 unfold needB needW needR needS
 rcases q with ⟨hn, rfl, rfl, rfl⟩ | ⟨hn, vW', rows', rfl, HM', nm, S', mv⟩
 ·rw [if_pos hn, if_pos hn, if_pos hn, if_pos hn]
  exact ⟨rfl, vW, st.rows, r, fun x hx => .inl hx, s, .inl ⟨hn, rfl⟩⟩
 ·rw [if_neg hn, if_neg hn, if_neg hn, if_neg hn]
  refine ⟨rfl, vW', rows', HM', fun x hx => ?_, S', .inr ⟨hn, mv⟩⟩
  rcases zk hx with h | h
  ·exact .inr (nm x h)
  ·exact .inl (zi _ h)
theorem Plays.need (p : Plays N W R size s1 s2 l) (hW : W.length <= 1048576) (m1 : MvN n W R size l s1.rows r1) (m2 : MvN n W R size l s2.rows r2) :
  Plays N (needW n W R size l) (needR n W R size l) size' { s1 with rows := r1 } { s2 with rows := r2 } (needL n W R size l) := by
 unfold needW needR needL
 rcases m1 with ⟨h, rfl⟩ | ⟨h, m1⟩ <;> rcases m2 with ⟨h', rfl⟩ | ⟨h', m2⟩
 ·rw [if_pos h, if_pos h, if_pos h]; exact p.mono (Nat.le_refl _)
 ·exact absurd h h'
 ·exact absurd h' h
 ·rw [if_neg h, if_neg h, if_neg h]; exact p.collected hW m1 m2
end
open Go.Ab
abbrev PDeed := Int × Int × Int × Int
def pdeedV (a : PDeed) : List V := [I a.1, I a.2.1, I a.2.2.1, I a.2.2.2]
theorem pdeed_len (a : PDeed) : (pdeedV a).length = 4 := rfl
def PL (N : Nat) (h1 : HH) (c1 : Nat) (h : HH) (c hp a sp mp ma q : Nat) (mo : Int) (vX vY : V) : Prop :=
 ∃ vW vb vr vM vB vP vS vC W R size s1 s2 l, Both h1 c1 h c hp a sp mp ma q vW vX vb vr vM vY vB vP vS vC W R size s1 W R size s2 mo /\ Plays N W R size s1 s2 l
section
variable {h h' : HH} {c c' hp a sp mp ma q : Nat} {vW vX vX' vM vY vY' : V} {W R : List Int} {size most w : Int}
theorem HM.push (r : HM h c hp a sp vW vX W R size most) (hc : c <= c') (rx : RowOf 1 ye h' c' vX' (R ++ [w])) (hn' : ∀ m ∈ zS vX', m ∈ zS vX \/ c <= m) (hf : ∀ m, m < c -> m ∉ zS vX -> MapI.get h' m = MapI.get h m) (hw : okW w) (hl : R.length <= 1000) :
  HM h' c' hp a sp vW vX' W (R ++ [w]) size most := by
 refine ⟨r.hm.keep hc fun m h1 h2 => hf m h1 fun hh => r.sep m hh h2, rx, fun m hm hh => ?_, fun x hx => ?_, by simp; omega⟩
 ·rcases hn' m hm with h | h
  ·exact r.sep m h hh
  ·have := r.hm.names m hh; omega
 ·rcases zk hx with hx | hx
  ·exact r.ok x hx
  ·rw [zm hx]; exact hw
theorem MdH.push (r : MdH h c mp ma q vM vY W R size most) (hc : c <= c') (rx : RowOf 1 ye h' c' vY' (R ++ [w])) (hn' : ∀ m ∈ zS vY', m ∈ zS vY \/ c <= m) (hf : ∀ m, m < c -> m ∉ zS vY -> MapI.get h' m = MapI.get h m) (hw : okW w) (hl : R.length <= 1000) :
  MdH h' c' mp ma q vM vY' W (R ++ [w]) size most := by
 have nm := r.names
 have hY : ∀ m ∈ mp :: mn ma vM vY, m ∉ zS vY \/ m ∈ zS vY := fun m _ => by by_cases e : m ∈ zS vY <;> simp [e]
 have hsep : ∀ m ∈ zS vY, m ∉ mp :: an ma vM := fun m hm hh => by
  rcases zl hh with h | h
  ·exact r.sep (by rw [<- h]; exact zi _ hm)
  ·have := r.mem.sep m hm
   rcases zl h with h | h
   ·exact this.1 h
   ·exact this.2 h
 refine ⟨by rw [hf mp r.lp fun hh => hsep mp hh (zq ..)]; exact r.obj, ⟨r.mem.ar.keep hc fun m h1 h2 => hf m h1 fun hh => hsep m hh (zg _ h2), rx, fun m hm => ?_, fun x hx => ?_, by simp; omega⟩, Nat.lt_of_lt_of_le r.lp hc, fun hh => ?_, r.mo, r.m0, r.mx⟩
 ·rcases hn' m hm with h | h
  ·exact r.mem.sep m h
  ·have := r.mem.ar.names
   exact ⟨fun e => by have := this ma (zq ..); omega, fun hh => by have := this m (zg _ hh); omega⟩
 ·rcases zk hx with hx | hx
  ·exact r.mem.ok x hx
  ·rw [zm hx]; exact hw
 ·rcases zk hh with h | h
  ·exact r.sep (zh _ h)
  ·rcases hn' mp h with h | h
   ·exact r.sep (zi _ h)
   ·have := r.lp; omega
theorem HM.roots {R' : List Int} (r : HM h c hp a sp vW vX W R size most) (hc : c <= c') (rx : RowOf 1 ye h' c' vX' R') (hn' : ∀ m ∈ zS vX', c <= m) (hf : ∀ m, m < c -> MapI.get h' m = MapI.get h m) (hR : ∀ x ∈ R', x ∈ R) (hl : R'.length <= 1000) :
  HM h' c' hp a sp vW vX' W R' size most :=
 ⟨r.hm.same hc hf, rx, fun m hm hh => (by have := hn' m hm; have := r.hm.names m hh; omega), fun x hx => r.ok x (hR x hx), by omega⟩
theorem MdH.roots {R' : List Int} (r : MdH h c mp ma q vM vY W R size most) (hc : c <= c') (rx : RowOf 1 ye h' c' vY' R') (hn' : ∀ m ∈ zS vY', c <= m) (hf : ∀ m, m < c -> MapI.get h' m = MapI.get h m) (hR : ∀ x ∈ R', x ∈ R) (hl : R'.length <= 1000) :
  MdH h' c' mp ma q vM vY' W R' size most := by
 have nm := r.names
 refine ⟨by rw [hf mp r.lp]; exact r.obj, ⟨r.mem.ar.keep hc fun m h1 _ => hf m h1, rx, fun m hm => ?_, fun x hx => r.mem.ok x (hR x hx), by omega⟩, Nat.lt_of_lt_of_le r.lp hc, fun hh => ?_, r.mo, r.m0, r.mx⟩
 ·have h1 := hn' m hm
  have := r.mem.ar.names
  exact ⟨fun e => by have := this ma (zq ..); omega, fun hh => by have := this m (zg _ hh); omega⟩
 ·rcases zk hh with h | h
  ·exact r.sep (zh _ h)
  ·have := hn' mp h; have := r.lp; omega
end
set_option maxHeartbeats 40000000 in
theorem hplays_law {h : HH} {c : Nat} {most : Int} {l : V} {ds : List PDeed} (k0 : Clear h c) (hl : RowArg h c l 4 ds.length (ds.map pdeedV).flatten) :
  Does 3 [I most, l] h c (zS l) fun v h' c' => v = .bool true := by
 refine yi (enter (fn := Tryz.f3) Tryz.func3 rfl rfl (zf rfl) ?_)
 repeat' (first | apply zw | apply zx | apply zK | refine za rfl rfl (fun _ => rfl) ?_)
 refine zL rfl rfl (yj rfl (shut_ok rfl) (by simp) (Nat.le_refl _) fun v h1 c1 hc1 hfr1 hq => ?_)
 obtain ⟨rfl, rfl, rfl⟩ := hq
 obtain ⟨s, cap, rfl, hs⟩ : ∃ a cap, l = .slice a ds.length (.known cap) /\ (∀ i, i < ds.length -> ∃ s, a = some (s, 0) /\ s < c1 /\ MapI.get h1 s = some (.cells false false (ds.map pdeedV).flatten)) := by
  rcases hl.is with ⟨rfl, hz⟩ | ⟨s, cap, rfl, h1, _, _, h2⟩
  ·exact ⟨none, 0, by rw [hz], fun i hi => by omega⟩
  ·exact ⟨_, cap, rfl, fun i hi => ⟨s, rfl, h1, h2 (by omega)⟩⟩
 repeat' (first | apply zK | refine za rfl rfl (fun _ => rfl) ?_ | refine zU ?_)
 refine zd rfl ?_
 repeat' (first | apply zw | apply zx | apply zz | apply zK | refine za rfl rfl (fun _ => rfl) ?_ | refine zU ?_)
 refine zH rfl (fun hgt => ?_) (fun hle => ?_)
 ·
  repeat' (first | apply zw | apply zx | apply zG | apply zK | refine za rfl rfl (fun _ => rfl) ?_ | refine yn ?_)
  exact z6 rfl rfl
 have hle : ds.length <= 80 := by
  have : ¬ ((ds.length : Nat) : Int) > 80 := by simpa using hle
  omega
 repeat' (first | apply zw | apply zx | apply zz)
 refine zL rfl rfl (qB rfl (snew_any (most := 20)) k0 (by simp) (by omega) fun v h2 c2 k2 hc2 hfr2 hq => ?_)
 obtain ⟨rfl, rfl, r2⟩ := hq
 skip
 refine zL rfl rfl (qB rfl (rnew_ok (most := 20)) k2 (by simp) (by omega) fun v h3 c3 k3 hc3 hfr3 hq => ?_)
 obtain ⟨rfl, rfl, r3⟩ := hq
 have r3s := r2.keep hc3 fun n hn => hfr3 n hn (by simp)
 rw [if_neg (by decide)] at r3 r3s
 repeat' (first | apply zw | apply zx | apply zK | refine za rfl rfl (fun _ => rfl) ?_)
 refine zL rfl rfl (qB rfl (hnew_any (most := most)) k3 (by simp) (by omega) fun v h4 c4 k4 hc4 hfr4 hq => ?_)
 obtain ⟨rfl, a, hH, ha, hf4⟩ := hq
 have ha4 := hH.ar.la
 repeat' (first | refine za rfl rfl (fun _ => rfl) ?_)
 refine zL rfl rfl (qB rfl (nmodel_ok (most := most)) k4 (by simp) (by omega) fun v h5 c5 k5 hc5 hfr5 hq => ?_)
 obtain ⟨rfl, rfl, hmo, hM, hf5⟩ := hq
 have hcm := clampM_ok most
 generalize hmm : qo most = mo at *
 have hk5 : ∀ n, n < c1 -> MapI.get h5 n = MapI.get h1 n := fun n hn => by
  rw [hf5 n (by omega), hf4 n (by omega), hfr3 n (by omega) (by simp), hfr2 n hn (by simp)]
 have nilR : ∀ {h : HH} {c : Nat}, RowOf 1 ye h c (.slice none 0 (.known 0)) [] := .nil fun n hn => by cases hn
 have B0 : Both h1 c1 h5 (c4 + 2) (c1 + 1 + 1) a c1 (c4 + 1) c4 (c1 + 1) (.slice none 0 (.known 0)) (.slice none 0 (.known 0)) (.slice none 0 (.known 0)) (.slice none 0 (.known 0)) (.slice none 0 (.known 0)) (.slice none 0 (.known 0)) (.slice none 0 (.known 0)) (.slice none 0 (.known 0)) (.slice none 0 (.known 0)) (.slice none 0 (.known 0)) [] [] (min 32 mo) ⟨[], 20, [], 0⟩ [] [] (min 32 mo) ⟨[], 20, [], 0⟩ mo := by
  refine ⟨⟨hH.same (by omega) hf5, nilR, (fun n hn => by cases hn), (fun w hw => by cases hw), by simp⟩, (r3s.keep hc4 fun n hn => hf4 n hn).keep (by omega) hf5, ⟨hmo, ⟨hM, nilR, (fun n hn => by cases hn), (fun w hw => by cases hw), by simp⟩, by omega, (fun hh => by simp [zS] at hh <;> omega), by omega, hcm.1, hcm.2⟩, r3.keep (by omega) fun n hn _ => by rw [hf5 n (by omega), hf4 n hn], .inl (.inl ⟨rfl, rfl⟩), .inl (.inl ⟨rfl, rfl⟩), ?_, ?_, ?_, ?_, ?_, ?_, ?_, ?_, ?_, ?_, by omega, hk5⟩
  all_goals intro n hn
  all_goals simp [zS] at hn ⊢
  all_goals omega
 clear hfr2 hfr3 hfr4 hfr5 hf4 hf5 r2 r3 r3s hH hM hmo
 generalize c4 + 2 = c6 at *
 generalize c1 + 1 + 1 = hp at *
 generalize c1 + 1 = q at *
 generalize c4 + 1 = mp at *
 repeat' (first | apply zw | apply zx | apply zK | refine za rfl rfl (fun _ => rfl) ?_ | refine zU ?_)
 refine zd rfl ?_
 repeat' (first | refine seqIT (a := Code.seq (Code.region 9 _ _) _) (fun e' h' c' => (∃ b0, e' = FR b0 [(1, .slice s ds.length (.known cap)), (5, V.ptr (some (c1, 0))), (6, V.ptr (some (q, 0))), (7, V.ptr (some (hp, 0))), (8, V.ptr (some (mp, 0)))]) /\ ∃ vb vr vB vP vS vC st, Granted 3 st /\ Both h1 c1 h' c' hp a c1 mp c4 q (.slice none 0 (.known 0)) (.slice none 0 (.known 0)) vb vr (.slice none 0 (.known 0)) (.slice none 0 (.known 0)) vB vP vS vC [] [] (min 32 mo) st [] [] (min 32 mo) st mo) k5 ?_ ?_ | apply zw | apply zx | apply zz | apply zB | apply zK | refine za rfl rfl (fun _ => rfl) ?_)
 ·
  skip
  refine zI ?_
  refine zQ (X := Nat) (fun i e' h' c' => (∃ b0, e' = FR b0 [(1, .slice s ds.length (.known cap)), (5, V.ptr (some (c1, 0))), (6, V.ptr (some (q, 0))), (7, V.ptr (some (hp, 0))), (8, V.ptr (some (mp, 0))), (9, I i)]) /\ i <= 3 /\ ∃ vb vr vB vP vS vC st, Granted i st /\ Both h1 c1 h' c' hp a c1 mp c4 q (.slice none 0 (.known 0)) (.slice none 0 (.known 0)) vb vr (.slice none 0 (.known 0)) (.slice none 0 (.known 0)) vB vP vS vC [] [] (min 32 mo) st [] [] (min 32 mo) st mo)
   (fun i => 3 - i) ?_ 0 _ _ _ ⟨fr ⟨rfl, rfl, rfl, rfl, rfl, rfl, trivial⟩, Nat.zero_le _, _, _, _, _, _, _, _, granted_new, B0⟩
  rintro i e' h' c' ⟨⟨b0, rfl⟩, hi, vb, vr, vB, vP, vS, vC, st, g, B⟩
  repeat' (first | apply zw | apply zx | apply zK | refine za rfl rfl (fun _ => rfl) ?_ | refine zU ?_)
  refine zH rfl (fun hlt => ?_) (fun hge => ?_)
  case refine_2 =>
   have hi3 : i = 3 := by have : 3 <= (i : Int) := by simpa using hge
                          omega
   subst hi3
   repeat' (first | apply zF | refine zU ?_ | refine ji ?_ | refine jr rfl ?_)
   exact ⟨fr ⟨rfl, rfl, rfl, rfl, rfl, trivial⟩, vb, vr, vB, vP, vS, vC, st, g, B⟩
  have hlt' : i < 3 := by have : (i : Int) < 3 := by simpa using hlt
                          omega
  have hw3 : IntKind.i64.wrap ((i : Int) + 1) = ((i + 1 : Nat) : Int) := by rw [Go.IntWalk.i64_in _ (by omega)]; omega
  have hlv := g.live
  have hm20 := g.most
  have hrw := g.rows
  have htot := g.good.tot
  have hc0 := B.c0
  repeat' (first | apply zw | apply zx | apply zz | apply zB | refine za rfl rfl (fun _ => rfl) ?_ | refine zL rfl rfl (yy (k := 1) rfl rfl rfl rfl (by decide) rfl ⟨(by simp [zc] <;> omega), ?_⟩))
  have B1 : ∀ o, Both h1 c1 (MapI.set h' c' o) (c' + 1) hp a c1 mp c4 q _ _ vb vr _ _ vB vP vS vC [] [] (min 32 mo) st [] [] (min 32 mo) st mo := fun o => B.same (by omega) fun n hn => zu _ _ _ _ (by omega)
  refine zL rfl rfl (yj rfl (grant_full (n := 2) (o := 0) (ys := [1, IntKind.u8.wrap (i : Int)]) (B1 _).st g.good.lies g.good.tot g.good.fit (by decide) (by decide) rfl (zt _ _ _) rfl (by rw [hm20]; decide) (by omega) (by rw [hm20, hlv]; omega) (by omega) (Nat.lt_succ_self _) (fun hh => by have := B.n2 c' hh; omega)) (fun n hn => .inr (by
   rcases zl hn with h | h
   ·omega
   ·exact B.o2 n h)) (by omega) fun v4 h4 c5 hc5 hf5 hq => ?_)
  obtain ⟨_, j, vb', vr', rows', rfl, st4, hnm4, _, _, hrows⟩ := hq
  have B2 := (B1 _).grantL st4 hc5 hnm4 fun n hn hcs => hf5 n hn fun hh => by
   rcases zl hh with h | h
   ·have := (B.outS hcs).2; omega
   ·exact (B.outS hcs).1 h
  obtain ⟨rfl, hR, g'⟩ := g.more (ys := [1, IntKind.u8.wrap (i : Int)]) (R := rows') hlt' rfl (by
   rcases hrows with ⟨x, h1, h2, h3⟩ | h
   ·exact .inl ⟨x, h1, by omega, h3⟩
   ·exact .inr h)
  have hc6' := B2.c0
  repeat' (first | apply zx | apply zK | refine za rfl rfl (fun _ => rfl) ?_ | refine zL rfl rfl (yy (k := 1) rfl rfl rfl rfl (by decide) rfl ⟨(by simp [zc] <;> omega), ?_⟩))
  have B3 : ∀ o, Both h1 c1 (MapI.set h4 c5 o) (c5 + 1) hp a c1 mp c4 q _ _ vb' vr' _ _ vB vP vS vC [] [] (min 32 mo) _ [] [] (min 32 mo) st mo := fun o => B2.same (by omega) fun n hn => zu _ _ _ _ (by omega)
  refine zL rfl rfl (yj rfl (rgrant_full (n := 2) (o := 0) (ys := [1, IntKind.u8.wrap (j : Int)]) (B3 _).rf g.good.lies g.sized g.good.fit (by decide) (by decide) rfl (zt _ _ _) rfl (by rw [hm20]; decide) (by omega) (by omega) (Nat.lt_succ_self _) (fun hh => by have := B2.rf.names c5 hh; omega)) (fun n hn => .inr (by
   rcases zl hn with h | h
   ·omega
   ·exact B.o4 n h)) (by omega) fun v6 h6 c7 hc7 hf7 hq => ?_)
  obtain ⟨_, j2, vB', vP', vS', vC', rows2, rfl, rf6, hnm6, _, _, hrows2⟩ := hq
  have B4 := (B3 _).grantR rf6 hc7 hnm6 fun n hn hcs => hf7 n hn fun hh => by
   rcases zl hh with h | h
   ·have := (B2.outQ hcs).2; omega
   ·exact (B2.outQ hcs).1 h
  obtain ⟨_, hR2, _⟩ := g.more (ys := [1, IntKind.u8.wrap (j : Int)]) (R := rows2) hlt' rfl (by
   rcases hrows2 with ⟨x, h1, h2, h3⟩ | h
   ·exact .inl ⟨x, h1, by omega, h3⟩
   ·exact .inr h)
  subst hR hR2
  repeat' (first | apply zx | apply zK | refine za rfl rfl (fun _ => rfl) ?_ | refine zU ?_)
  refine ⟨j + 1, by omega, ?_, by omega, vb', vr', vB', vP', vS', vC', _, g', B4⟩
  rw [hw3]
  exact fr ⟨rfl, rfl, rfl, rfl, rfl, rfl, trivial⟩
 rintro e' h6 c7 ⟨⟨b0, rfl⟩, vb, vr, vB, vP, vS, vC, st, g, B⟩ k6
 have P0 : Plays 0 [] [] (min 32 mo) st st [] := ⟨⟨.nil, fun w hw => (by cases hw), fun p hp => (by cases hp), fun p hp => (by cases hp)⟩, ⟨g.rows, fun j x hx => by rw [g.one j x hx]; rfl⟩, ⟨g.rows, fun j x hx => by rw [g.one j x hx]; rfl⟩, fun x hx => (by cases hx), Nat.le_refl _, Nat.le_refl _⟩
 repeat' (first | apply zw | apply zx | apply zB | apply zK | refine za rfl rfl (fun _ => rfl) ?_)
 refine zI ?_
 refine loopT (X := Nat) (fun i e' h' c' => ∃ vX vY, (∃ b0, e' = FR b0 [(1, .slice s ds.length (.known cap)), (5, V.ptr (some (c1, 0))), (6, V.ptr (some (q, 0))), (7, V.ptr (some (hp, 0))), (8, V.ptr (some (mp, 0))), (10, vX), (11, vY), (12, I i)]) /\ i <= ds.length /\ PL i h1 c1 h' c' hp a c1 mp c4 q mo vX vY)
  (fun i => ds.length - i) ?_ 0 _ _ _ ⟨_, _, fr ⟨rfl, rfl, rfl, rfl, rfl, rfl, rfl, rfl, trivial⟩, Nat.zero_le _, _, _, _, _, _, _, _, _, _, _, _, _, _, _, B, P0⟩ k6
 clear P0 B g k6
 rintro i e' h' c' ⟨vX, vY, ⟨b0, rfl⟩, hi, vW, vb, vr, vM, vB, vP, vS, vC, W, R, size, s1, s2, l, B, P⟩ kc
 repeat' (first | apply zw | apply zx | apply zK | refine za rfl rfl (fun _ => rfl) ?_ | refine zU ?_)
 refine zH rfl (fun hlt => ?_) (fun hge => ?_)
 case refine_2 =>
  repeat' (first | apply zw | apply zx | apply zF | apply zG | apply zK | refine za rfl rfl (fun _ => rfl) ?_)
  exact z6 rfl rfl
 have hlt : i < ds.length := by
  have : ((i : Nat) : Int) < (ds.length : Nat) := by simpa using hlt
  omega
 obtain ⟨sl, rfl, hsl, hgl⟩ := hs i hlt
 obtain ⟨⟨d0, k, sz, n⟩, hd⟩ : ∃ d, ds[i]? = some d := ⟨_, zp hlt⟩
 have hc0 := B.c0
 have hgl' : MapI.get h' sl = some (.cells false false (flat pdeedV ds ++ [])) := by rw [B.k0 sl hsl, List.append_nil]; exact hgl
 have hct : cut (flat pdeedV ds ++ []) (0 + ((i : Nat) : Int).toNat * 4) 4 = some [I d0, I k, I sz, I n] := by
  rw [show 0 + ((i : Nat) : Int).toNat * 4 = i * 4 from by simp]
  exact cut_flat pdeed_len hd []
 have hw1 : IntKind.i64.wrap ((i : Int) + 1) = ((i + 1 : Nat) : Int) := by rw [Go.IntWalk.i64_in _ (by omega)]; omega
 have hgc : ∀ x : AObj, MapI.get (MapI.set h' c' x) c' = some x := fun x => zt _ _ _
 repeat' (first | refine seqIT (a := Code.block 4 _) (fun e' h' c' => ∃ vX vY, (∃ b0, e' = FR b0 [(1, .slice (some (sl, 0)) ds.length (.known cap)), (5, V.ptr (some (c1, 0))), (6, V.ptr (some (q, 0))), (7, V.ptr (some (hp, 0))), (8, V.ptr (some (mp, 0))), (10, vX), (11, vY), (12, I i), (14, .bool true)]) /\ PL (i + 1) h1 c1 h' c' hp a c1 mp c4 q mo vX vY) (Clear.set (Clear.new kc) (Nat.lt_succ_self _)) ?_ ?_ | apply zw | apply zx | apply zz | apply zB | apply zK | refine za rfl rfl (fun _ => rfl) ?_ | refine zL rfl rfl (zZ (k := 4) rfl rfl rfl rfl ⟨by omega, by omega⟩ ⟨(by simp [zc] <;> omega), ?_⟩) | refine zL rfl rfl (yC rfl rfl rfl rfl hgl' hct ⟨(by simp [zc] <;> omega), ?_⟩) | refine zL rfl rfl (yM rfl ⟨(by simp [zc] <;> omega), ?_⟩) | refine zL rfl rfl (ya rfl rfl rfl rfl (hgc _) (Nat.le_refl _) rfl ⟨(by simp [zc] <;> omega), ?_⟩))
 ·
  have hD : ∀ (x : AObj) (y : AObj), MapI.get (MapI.set (MapI.set h' c' x) c' y) c' = some y := fun x y => zt _ _ _
  have B8 : ∀ (x : AObj) (y : AObj), Both h1 c1 (MapI.set (MapI.set h' c' x) c' y) (c' + 1) hp a c1 mp c4 q vW vX vb vr vM vY vB vP vS vC W R size s1 W R size s2 mo := fun x y => B.same (by omega) fun m hm => by rw [zu _ _ _ _ (by omega), zu _ _ _ _ (by omega)]
  have k8 : ∀ (x : AObj) (y : AObj), Clear (MapI.set (MapI.set h' c' x) c' y) (c' + 1) := fun x y => Clear.set (Clear.new kc) (Nat.lt_succ_self _)
  have n1 := B.hm.names
  have n2 := B.n2
  have n3 := B.md.names
  have n4 := B.rf.names
  have hRl := P.rl
  have hll := P.ll
  have hWle : (W.length : Int) <= 1048576 := by have := B.hm.hm.ar.le; have := B.hm.hm.mo; have := B.hm.hm.mx; omega
  have hhs : (yX W l).length <= 1000 := by have := hands_le W l; omega
  have h31 := P.cx.three
  have h32 := P.cy.three
  repeat' (first | apply zK | refine za rfl rfl (fun _ => rfl) ?_ | refine zU ?_ | refine zL rfl rfl (zW rfl rfl rfl (hD _ _) rfl ⟨(by simp [zc] <;> omega), ?_⟩))
  refine zH rfl (fun hA => ?_) (fun hA => ?_)
  ·-- Make
   by_cases hbig : sz > 50
   ·have e1 : decide (sz > 50) = true := by simpa using hbig
    repeat' (first | apply zw | apply zx | refine za rfl rfl (fun _ => rfl) ?_ | refine zL rfl rfl (zW rfl rfl rfl (hD _ _) rfl ⟨(by simp [zc] <;> omega), ?_⟩))
    simp only [e1]
    repeat' (first | apply zK | refine za rfl rfl (fun _ => rfl) ?_ | refine zM rfl rfl ?_ | refine zU ?_)
    refine ze rfl ?_
    repeat' (first | apply zw | apply zx | apply zG | apply zK | refine za rfl rfl (fun _ => rfl) ?_ | refine yn ?_ | refine qr ?_)
    exact z6 rfl rfl
   have e1 : decide (sz > 50) = false := by simpa using hbig
   repeat' (first | apply zw | apply zx | refine za rfl rfl (fun _ => rfl) ?_ | refine zL rfl rfl (zW rfl rfl rfl (hD _ _) rfl ⟨(by simp [zc] <;> omega), ?_⟩))
   simp only [e1]
   repeat' (first | apply zK | refine za rfl rfl (fun _ => rfl) ?_ | refine zU ?_ | refine zL rfl rfl (zW rfl rfl rfl (hD _ _) rfl ⟨(by simp [zc] <;> omega), ?_⟩))
   refine zH rfl (fun _ => ?_) (fun hsm => ?_)
   ·
    repeat' (first | apply zw | apply zx | apply zG | apply zK | refine za rfl rfl (fun _ => rfl) ?_ | refine yn ?_ | refine qr ?_)
    exact z6 rfl rfl
   have hsm : ¬ sz < -1 := by simpa using hsm
   repeat' (first | apply zw | apply zx | apply zz | refine za rfl rfl (fun _ => rfl) ?_ | refine zL rfl rfl (yC rfl rfl rfl rfl (hD _ _) rfl ⟨(by simp [zc] <;> omega), ?_⟩))
   refine zL rfl rfl (qB rfl (fields_ok (R := R) (B8 _ _).md.mem.rr B.md.mem.ok (by omega) ⟨by omega, by omega⟩) (k8 _ _) (fun n hn => .inr (B.o3 n (zg _ (zi _ hn)))) (by omega) fun v h9 c9 k9 hc9 hf9 hq => ?_)
   obtain ⟨X, rX, hnX, fx, hs9⟩ := hq
   have B9 := (B8 _ _).same hc9 hs9
   have hg9 : MapI.get h9 c' = some (.cells true true [I d0, I k, I sz, I n]) := (hs9 c' (by omega)).trans (hD _ _)
   obtain ⟨bX, capX, rfl, _⟩ := rX.shape
   have hgc9 : ∀ x : AObj, MapI.get (MapI.set h9 c9 x) c9 = some x := fun x => zt _ _ _
   have hg10 : ∀ (x : AObj) (y : AObj), MapI.get (MapI.set (MapI.set h9 c9 x) c9 y) c' = some (.cells true true [I d0, I k, I sz, I n]) := fun x y => by rw [zu _ _ _ _ (by omega), zu _ _ _ _ (by omega)]; exact hg9
   have hgc10 : ∀ (x : AObj) (y : AObj), MapI.get (MapI.set (MapI.set h9 c9 x) c9 y) c9 = some y := fun x y => zt _ _ _
   repeat' (first | refine seqIT (a := Code.seq (Code.region 26 _ _) _) (fun e' h' c' => (∃ b0, e' = FR b0 [(1, .slice (some (sl, 0)) ds.length (.known cap)), (5, V.ptr (some (c1, 0))), (6, V.ptr (some (q, 0))), (7, V.ptr (some (hp, 0))), (8, V.ptr (some (mp, 0))), (10, vX), (11, vY), (12, I i), (15, .slice bX X.length capX), (16, V.ptr (some (c9, 0)))]) /\ c' = c9 + 1 /\ ∃ n', MapI.get h' c9 = some (.cells true true (hdV (kH k n'))) /\ ∀ m, m < c9 -> MapI.get h' m = MapI.get h9 m) (Clear.set (Clear.new k9) (Nat.lt_succ_self _)) ?_ ?_ | apply zw | apply zx | apply zK | refine za rfl rfl (fun _ => rfl) ?_ | refine zL rfl rfl (zW rfl rfl rfl hg9 rfl ⟨(by simp [zc] <;> omega), ?_⟩) | refine zL rfl rfl (yM rfl ⟨(by simp [zc] <;> omega), ?_⟩) | refine zL rfl rfl (ya rfl rfl rfl rfl (hgc9 _) (Nat.le_refl _) rfl ⟨(by simp [zc] <;> omega), ?_⟩))
   ·
    repeat' (first | apply zK | refine za rfl rfl (fun _ => rfl) ?_ | refine zU ?_ | refine zL rfl rfl (zW rfl rfl rfl (hg10 _ _) rfl ⟨(by simp [zc] <;> omega), ?_⟩))
    refine zH rfl (fun _ => ?_) (fun _ => ?_)
    ·
     repeat' (first | apply zx | apply zK | refine za rfl rfl (fun _ => rfl) ?_ | refine zU ?_ | refine zL rfl rfl (zW rfl rfl rfl (hgc10 _ _) rfl ⟨(by simp [zc] <;> omega), ?_⟩) | refine zL rfl rfl (ya (k := 1) rfl rfl rfl rfl (hgc10 _ _) (zf rfl) rfl ⟨(by simp [zc] <;> omega), ?_⟩))
     refine ⟨fr ⟨rfl, rfl, rfl, rfl, rfl, rfl, rfl, rfl, rfl, rfl, trivial⟩, rfl, _, zt _ _ _, fun m hm => ?_⟩
     rw [zu _ _ _ _ (by omega), zu _ _ _ _ (by omega), zu _ _ _ _ (by omega)]
    ·
     repeat' (first | apply zz | refine zU ?_)
     refine ⟨fr ⟨rfl, rfl, rfl, rfl, rfl, rfl, rfl, rfl, rfl, rfl, trivial⟩, rfl, X.length, zt _ _ _, fun m hm => ?_⟩
     rw [zu _ _ _ _ (by omega), zu _ _ _ _ (by omega)]
   rintro e' h10 c10 ⟨⟨b1, rfl⟩, rfl, n', hgk, hs10⟩ k10
   have B10 := B9.same (Nat.le_succ c9) hs10
   have rX10 := rX.keep (Nat.le_succ c9) fun m hm _ => hs10 m hm
   have hX1 : ∀ m, m < c' -> m ∉ zS (.slice bX X.length capX) := fun m hm hh => by have := hnX m hh; omega
   have hXc : ∀ m ∈ zS (.slice bX X.length capX), m < c9 := rX.lt
   repeat' (first | apply zw | apply zx | refine za rfl rfl (fun _ => rfl) ?_ | refine zL rfl rfl (zW rfl rfl rfl hgk rfl ⟨(by simp [zc] <;> omega), ?_⟩))
   refine zL rfl rfl (qB rfl (hmake_any (k := k) (n := n') (X := X) (R := R) B10.hm B10.st B10.d12 rX10 (fun m hm => ⟨fun hh => hX1 m (n1 m hh) hm, fun hh => hX1 m (n2 m hh) hm⟩) fx P.cx hhs) k10 (fun m hm => .inr (by
    rcases zk hm with hm | hm
    ·rcases zk hm with hm | hm
     ·exact B.o1 m hm
     ·have := hnX m hm; omega
    ·exact B.o2 m hm)) (by omega) fun v h11 c11 k11 hc11 hf11 hq => ?_)
   have hg11 : MapI.get h11 c9 = some (.cells true true (hdV (kH k n'))) := by
    rw [hf11 c9 (by omega) fun hh => ?_]
    ·exact hgk
    rcases zk hh with hm | hm
    ·rcases zk hm with hm | hm
     ·have := n1 _ hm; omega
     ·have := hXc _ hm; omega
    ·have := n2 _ hm; omega
   have hf11' : ∀ m, m < c9 + 1 -> m < c1 \/ m ∈ mp :: mn c4 vM vY \/ m ∈ rn q vB vP vS vC -> MapI.get h11 m = MapI.get h10 m := fun m hm hcs => by
    refine hf11 m hm fun hh => ?_
    obtain ⟨o1, o2⟩ := B10.outL hcs
    rcases zk hh with hh | hh
    ·rcases zk hh with hh | hh
     ·exact o1 hh
     ·refine hX1 m ?_ hh
      rcases hcs with h | h | h
      ·omega
      ·exact n3 m h
      ·exact n4 m h
    ·exact o2 hh
   rcases hq with ⟨y1, rfl, vW', r1, bu1, HM', nm1, S', hs11⟩ | ⟨y1, rfl, hs11⟩
   case inr =>
    have B11 := B10.same hc11 hs11
    have rX11 := rX10.keep hc11 fun m hm _ => hs11 m hm
    repeat' (first | apply zw | apply zx | apply zK | refine za rfl rfl (fun _ => rfl) ?_ | refine zL rfl rfl (yC rfl rfl rfl rfl hg11 rfl ⟨(by simp [zc] <;> omega), ?_⟩))
    refine zL rfl rfl (qB rfl (mmake_any (k := k) (n := n') (X := X) (R := R) B11.md B11.rf B11.d34 rX11 (fun m hm => ⟨fun hh => hX1 m (n3 m hh) hm, fun hh => hX1 m (n4 m hh) hm⟩) fx P.cy hhs) k11 (fun m hm => .inr (by
     rcases zk hm with hm | hm
     ·rcases zk hm with hm | hm
      ·exact B.o3 m hm
      ·have := hnX m hm; omega
     ·exact B.o4 m hm)) (by omega) fun v h12 c12 k12 hc12 hf12 hq => ?_)
    rcases hq with ⟨y2, _⟩ | ⟨y2, rfl, hs12⟩
    ·exact absurd y2 y1
    have B12 := B11.same hc12 hs12
    repeat' (first | apply zw | apply zx | apply zK | refine za rfl rfl (fun _ => rfl) ?_ | refine zU ?_)
    refine zd rfl ?_
    repeat' (first | apply zz | refine zU ?_ | refine js ?_)
    exact ⟨vX, vY, fr ⟨rfl, rfl, rfl, rfl, rfl, rfl, rfl, rfl, rfl, trivial⟩, _, _, _, _, _, _, _, _, _, _, _, _, _, _, B12, P.mono (Nat.le_succ i)⟩
   have B11 := B10.left HM' S' hc11 nm1 B.lx hf11'
   have rX11 : RowOf 1 ye h11 c11 (.slice bX X.length capX) X := rX10.keep hc11 fun m hm hX => hs11 m hm (fun hh => hX1 m (n1 m hh) hX) fun hh => hX1 m (n2 m hh) hX
   repeat' (first | apply zw | apply zx | apply zK | refine za rfl rfl (fun _ => rfl) ?_ | refine zL rfl rfl (yC rfl rfl rfl rfl hg11 rfl ⟨(by simp [zc] <;> omega), ?_⟩))
   refine zL rfl rfl (qB rfl (mmake_any (k := k) (n := n') (X := X) (R := R) B11.md B11.rf B11.d34 rX11 (fun m hm => ⟨fun hh => hX1 m (n3 m hh) hm, fun hh => hX1 m (n4 m hh) hm⟩) fx P.cy hhs) k11 (fun m hm => .inr (by
    rcases zk hm with hm | hm
    ·rcases zk hm with hm | hm
     ·exact B.o3 m hm
     ·have := hnX m hm; omega
    ·exact B.o4 m hm)) (by omega) fun v h12 c12 k12 hc12 hf12 hq => ?_)
   rcases hq with ⟨y2, rfl, vM', r2, bu2, MD', nm2, RF'⟩ | ⟨y2, _⟩
   case inr => exact absurd y1 y2
   have B12 := B11.right MD' RF' hc12 nm2 B.ly fun m hm hcs => by
    refine hf12 m hm fun hh => ?_
    obtain ⟨o1, o2⟩ := B11.outR hcs
    rcases zk hh with hh | hh
    ·rcases zk hh with hh | hh
     ·exact o1 hh
     ·rcases hcs with h | h | h
      ·have := hnX m hh; omega
      ·rcases hmn_sub nm1 m h with h | h
       ·exact hX1 m (n1 m h) hh
       ·have := hXc m hh; omega
      ·exact hX1 m (n2 m h) hh
    ·exact o2 hh
   obtain rfl := y1.1
   have hyW : (W.length : Int) + 1 + X.length <= 1048576 := by have := y1.2.2.2.1; have := B.hm.hm.mo; have := B.hm.hm.mx; omega
   have hpw : okW (jQ W.length) := kS ⟨by decide, by decide⟩
   have P12 := P.made fx y1 (by omega) bu1 bu2
   have eg : (jQ W.length == jQ W.length) = true := by simp
   repeat' (first | apply zw | apply zx | apply zK | refine za rfl rfl (fun _ => rfl) ?_)
   simp only [eg]
   repeat' (first | apply zw | apply zx | apply zK | refine za rfl rfl (fun _ => rfl) ?_ | refine zU ?_)
   refine ze rfl ?_
   have elW' : ElT cx 35 42 0 := ⟨rfl, rfl, rfl, ⟨_, rfl, by decide⟩⟩
   have hcW : cut [U (jQ W.length)] 0 (1 * (0 + 1)) = some (flat ye [jQ W.length]) := rfl
   repeat' (first | apply zx | refine za rfl rfl (fun _ => rfl) ?_ | refine zL rfl rfl (yy (k := 1) rfl rfl rfl rfl (by decide) rfl ⟨(by simp [zc] <;> omega), ?_⟩))
   have B12a : ∀ o, Both h1 c1 (MapI.set h12 c12 o) (c12 + 1) hp a c1 mp c4 q _ _ _ _ _ _ _ _ _ _ _ _ _ _ _ _ _ _ mo := fun o => B12.same (Nat.le_succ _) fun m hm => zu _ _ _ _ (by omega)
   have hown : ∀ m ∈ zS vX, c1 <= m /\ m < c' := fun m hm => ⟨B.o1 m (zi _ hm), n1 m (zi _ hm)⟩
   have hownY : ∀ m ∈ zS vY, c1 <= m /\ m < c' := fun m hm => ⟨B.o3 m (zg _ (zi _ hm)), n3 m (zg _ (zi _ hm))⟩
   refine zL rfl rfl (append_atZ (k := 0) (xs := R) (ys := [jQ W.length]) rfl rfl elW' rfl yq jx (B12a _).hm.rr B.lx (.inr ⟨c12, 0, .known 1, true, true, _, rfl, Nat.lt_succ_self _, zt _ _ _, hcW⟩) (by simp; omega) (fun m hm => .inr (by simp [zS] at hm; simp [Acc.name]; omega)) (fun m hm => by have := hown m hm; exact ⟨.inr (by simp [Acc.name]; omega), .inr (by simp [Acc.name]; omega)⟩) (.inr (by simp [Acc.name]; omega)) fun vX' h13 c13 rX' lX' nX' hc13 hf13 => ?_)
   have hnX' : ∀ m ∈ zS vX', m ∈ zS vX \/ c12 + 1 <= m := fun m hm => (nX' m hm).imp id (by omega)
   have B13 := (B12a _).left ((B12a _).hm.push hc13 rX' hnX' (fun m hm hh => hf13 m (by omega) hh) hpw (by omega)) ((B12a _).st.keepN hc13 fun m hm hh => hf13 m (by omega) fun hx => B.d12 m hh (zi _ hx)) hc13 (fun m hm => by
    rcases zk hm with hm | hm
    ·exact .inl (zh _ hm)
    ·exact (hnX' m hm).imp (fun h => zi _ h) id) lX' (fun m hm hcs => hf13 m (by omega) fun hx => (B12.outL hcs).1 (zi _ hx))
   repeat' (first | refine za rfl rfl (fun _ => rfl) ?_ | refine zL rfl rfl (yy (k := 1) rfl rfl rfl rfl (by decide) rfl ⟨(by simp [zc] <;> omega), ?_⟩))
   have B13a : ∀ o, Both h1 c1 (MapI.set h13 c13 o) (c13 + 1) hp a c1 mp c4 q _ _ _ _ _ _ _ _ _ _ _ _ _ _ _ _ _ _ mo := fun o => B13.same (Nat.le_succ _) fun m hm => zu _ _ _ _ (by omega)
   refine zL rfl rfl (append_atZ (k := 0) (xs := R) (ys := [jQ W.length]) rfl rfl elW' rfl yq jx (B13a _).md.mem.rr B.ly (.inr ⟨c13, 0, .known 1, true, true, _, rfl, Nat.lt_succ_self _, zt _ _ _, hcW⟩) (by simp; omega) (fun m hm => .inr (by simp [zS] at hm; simp [Acc.name]; omega)) (fun m hm => by have := hownY m hm; exact ⟨.inr (by simp [Acc.name]; omega), .inr (by simp [Acc.name]; omega)⟩) (.inr (by simp [Acc.name]; omega)) fun vY' h14 c14 rY' lY' nY' hc14 hf14 => ?_)
   have hnY' : ∀ m ∈ zS vY', m ∈ zS vY \/ c13 + 1 <= m := fun m hm => (nY' m hm).imp id (by omega)
   have B14 := (B13a _).right ((B13a _).md.push hc14 rY' hnY' (fun m hm hh => hf14 m (by omega) hh) hpw (by omega)) ((B13a _).rf.keepN hc14 fun m hm hh => hf14 m (by omega) fun hx => B.d34 m hh (zg _ (zi _ hx))) hc14 (fun m hm => by
    rcases zk hm with hm | hm
    ·exact .inl (zh _ hm)
    ·exact (hnY' m hm).imp (fun h => zi _ h) id) lY' (fun m hm hcs => hf14 m (by omega) fun hx => (B13.outR hcs).1 (zg _ (zi _ hx)))
   repeat' (first | apply zK | refine za rfl rfl (fun _ => rfl) ?_ | refine zU ?_ | refine js ?_)
   exact ⟨vX', vY', fr ⟨rfl, rfl, rfl, rfl, rfl, rfl, rfl, rfl, rfl, trivial⟩, _, _, _, _, _, _, _, _, _, _, _, _, _, _, B14, P12⟩
  ·-- Need, Collect, a root forgotten
   repeat' (first | apply zw | apply zx | apply zK | refine za rfl rfl (fun _ => rfl) ?_ | refine zU ?_ | refine zL rfl rfl (zW rfl rfl rfl (hD _ _) rfl ⟨(by simp [zc] <;> omega), ?_⟩))
   refine zH rfl (fun hB => ?_) (fun hB => ?_)
   ·-- Need
    repeat' (first | apply zy | refine zb rfl rfl (fun _ => rfl) ?_ | refine zO rfl rfl (zW rfl rfl rfl (hD _ _) rfl ⟨(by simp [zc] <;> omega), ?_⟩))
    refine zO rfl rfl (call_atT rfl (need_any (n0 := n) rfl (B8 _ _).hm P.so (B8 _ _).st B.d12 P.cx P.ho (by omega)) (k8 _ _) (fun m hm => .inr (by
     rcases zk hm with hm | hm
     ·exact B.o1 m hm
     ·exact B.o2 m hm)) (by omega) fun v h9 c9 al1 hal1 k9 hc9 hf9 hq => ?_)
    generalize hnz : (if (0 : Int) > n then 0 else n) = nz at *
    obtain ⟨rfl, vW', r1, HM', nm1, S', mv1⟩ := hq
    have B9 := (B8 _ _).left HM' S' hc9 nm1 (B.lx.map needR_len) fun m hm hcs => hf9 m hm fun hh => by
     rcases zk hh with hh | hh
     ·exact (B.outL hcs).1 hh
     ·exact (B.outL hcs).2 hh
    have hg9 : MapI.get h9 c' = some (.cells true true [I d0, I k, I sz, I n]) := by
     rw [hf9 c' (Nat.lt_succ_self _) fun hh => ?_]
     ·exact hD _ _
     rcases zk hh with hh | hh
     ·have := n1 _ hh; omega
     ·have := n2 _ hh; omega
    repeat' (first | refine zb rfl rfl (fun _ => rfl) ?_ | refine zO rfl rfl (zW rfl rfl rfl hg9 rfl ⟨(by simp [zc] <;> omega), ?_⟩))
    refine zO rfl rfl (call_atT rfl (mneed_any (n0 := n) hnz B9.md P.so B9.rf B9.d34 P.cy P.ho (by omega)) k9 (fun m hm => .inr (by
     rcases zk hm with hm | hm
     ·exact B.o3 m hm
     ·exact B.o4 m hm)) (by omega) fun v h10 c10 al2 hal2 k10 hc10 hf10 hq => ?_)
    obtain ⟨rfl, vM', r2, MD', nm2, RF', mv2⟩ := hq
    have B10 := B9.right MD' RF' hc10 nm2 (B.ly.map needR_len) fun m hm hcs => hf10 m hm fun hh => by
     rcases zk hh with hh | hh
     ·exact (B9.outR hcs).1 hh
     ·exact (B9.outR hcs).2 hh
    have x1 : ∀ x ∈ al1, (x.name ∈ hmn hp a vW vX \/ x.name ∈ c1 :: (zS vb ++ zS vr)) \/ (c' + 1 <= x.name /\ x.name < c9) := fun x hx => by
     rcases (hal1 x hx).1 with h | h
     ·exact .inl (zk h)
     ·exact .inr ⟨h, (hal1 x hx).2⟩
    have x2 : ∀ x ∈ al2, (x.name ∈ mp :: mn c4 vM vY \/ x.name ∈ rn q vB vP vS vC) \/ c9 <= x.name := fun x hx => by
     rcases (hal2 x hx).1 with h | h
     ·exact .inl (zk h)
     ·exact .inr h
    have a1 : ∀ x ∈ al1, x.name ≠ c' := fun x hx e => by
     rcases x1 x hx with (h | h) | h
     ·have := n1 _ h; omega
     ·have := n2 _ h; omega
     ·omega
    have a1' : ∀ x ∈ al1, c' ≠ x.name := fun x hx e => a1 x hx e.symm
    have a2 : ∀ x ∈ al2, x.name ≠ c' := fun x hx e => by
     rcases x2 x hx with (h | h) | h
     ·have := n3 _ h; omega
     ·have := n4 _ h; omega
     ·omega
    have a2' : ∀ x ∈ al2, c' ≠ x.name := fun x hx e => a2 x hx e.symm
    have a12 : ∀ x ∈ al1, ∀ y ∈ al2, x.name ≠ y.name := fun x hx y hy e => by
     rcases x1 x hx with h | h <;> rcases x2 y hy with g | g
     ·obtain ⟨o1, o2⟩ := B.outL (n := y.name) (.inr g)
      rw [e] at h
      rcases h with h | h
      ·exact o1 h
      ·exact o2 h
     ·rcases h with h | h
      ·have := n1 _ h; omega
      ·have := n2 _ h; omega
     ·rcases g with g | g
      ·have := n3 _ g; omega
      ·have := n4 _ g; omega
     ·omega
    have a21 : ∀ x ∈ al2, ∀ y ∈ al1, x.name ≠ y.name := fun x hx y hy e => a12 y hy x hx e.symm
    repeat' (first | refine zb rfl rfl (fun _ => rfl) ?_)
    refine zN (ym (cs := [0, 0, 2, 0, 15, 0, 0, 64, 0, 511, 1023, 2047]) (by decide +kernel) ?_) ?_
    ·simp +contextual [jt, apP, Dis, yF, yE, yw, yA, Nat.testBit, a1, a1', a2, a2', a12, a21]
    have eb : (needB nz W R size mo l == needB nz W R size mo l) = true := by simp
    simp only [eb]
    repeat' (first | refine zU ?_ | refine js ?_)
    exact ⟨vX, vY, fr ⟨rfl, rfl, rfl, rfl, rfl, rfl, rfl, rfl, rfl, trivial⟩, _, _, _, _, _, _, _, _, _, _, _, _, _, _, B10, (P.need (size' := 0) (by omega) mv1 mv2).mono (Nat.le_succ i)⟩
   repeat' (first | apply zw | apply zx | apply zK | refine za rfl rfl (fun _ => rfl) ?_ | refine zU ?_ | refine zL rfl rfl (zW rfl rfl rfl (hD _ _) rfl ⟨(by simp [zc] <;> omega), ?_⟩))
   refine zH rfl (fun hC => ?_) (fun hC => ?_)
   ·-- Collect
    obtain ⟨p1, p2, p3⟩ := kj P.cx P.ho (by omega) P.so
    obtain ⟨q1, q2, q3⟩ := kj P.cy P.ho (by omega) P.so
    repeat' (first | apply zw | apply zx | refine za rfl rfl (fun _ => rfl) ?_)
    refine zL rfl rfl (qB rfl (hCollect_gone (B8 _ _).hm P.so (B8 _ _).st B.d12 (by omega) p1 p2 p3) (k8 _ _) (fun m hm => .inr (by
     rcases zk hm with hm | hm
     ·exact B.o1 m hm
     ·exact B.o2 m hm)) (by omega) fun v h9 c9 k9 hc9 hf9 hq => ?_)
    obtain ⟨vW', r1, HM', nm1, S', mv1⟩ := hq
    have B9 := (B8 _ _).left HM' S' hc9 (fun m hm => .inl (by
     rcases zk hm with h | h
     ·exact zh _ (nm1 m h)
     ·exact zi _ h)) (B.lx.map (List.length_map _)) fun m hm hcs => hf9 m hm fun hh => by
     rcases zk hh with hh | hh
     ·exact (B.outL hcs).1 hh
     ·exact (B.outL hcs).2 hh
    repeat' (first | apply zw | apply zx | apply zK | refine za rfl rfl (fun _ => rfl) ?_)
    refine zL rfl rfl (qB rfl (mcollect_ok B9.md P.so B9.rf B9.d34 (by omega) q1 q2 q3) k9 (fun m hm => .inr (by
     rcases zk hm with hm | hm
     ·exact B.o3 m hm
     ·exact B.o4 m hm)) (by omega) fun v h10 c10 k10 hc10 hf10 hq => ?_)
    obtain ⟨rfl, vM', r2, MD', nm2, RF', mv2⟩ := hq
    have B10 := B9.right MD' RF' hc10 (fun m hm => by
     rcases zk hm with h | h
     ·exact .inr (nm2 m h)
     ·exact .inl (zi _ h)) (B.ly.map (List.length_map _)) fun m hm hcs => hf10 m hm fun hh => by
     rcases zk hh with hh | hh
     ·exact (B9.outR hcs).1 hh
     ·exact (B9.outR hcs).2 hh
    have P10 := P.collected (size' := jE mo (yh W R l (zX W l R)).length) (by omega) mv1 mv2
    have hsl1 := B10.hm.hm.ar.le
    have hsl2 := B10.hm.hm.mo
    have hsl3 := B10.hm.hm.mx
    generalize yh W R l (zX W l R) = W' at *
    have e2 : (if IntKind.i64.wrap (2 * (W'.length : Int)) > 32 then IntKind.i64.wrap (2 * (W'.length : Int)) else 32) = max (2 * (W'.length : Int)) 32 := by
     rw [Go.IntWalk.i64_in _ (by omega)]; split <;> omega
    have e3 : decide (jE mo W'.length <= max (2 * (W'.length : Int)) 32) = true := by
     unfold jE; simp; omega
    repeat' (first | apply zx | apply zK | refine za rfl rfl (fun _ => rfl) ?_)
    refine zL rfl rfl (yg rfl (hcap_ok B10.hm.hm) (fun m hm => .inr (B10.o1 m (zh _ hm))) (by omega) fun v h11 c11 hc11 hf11 hq => ?_)
    obtain ⟨rfl, rfl, rfl⟩ := hq
    repeat' (first | refine za rfl rfl (fun _ => rfl) ?_)
    refine zL rfl rfl (yg rfl (hused_ok B10.hm.hm) (fun m hm => .inr (B10.o1 m (zh _ hm))) (by omega) fun v h11 c11 hc11 hf11 hq => ?_)
    obtain ⟨rfl, rfl, rfl⟩ := hq
    repeat' (first | refine zL rfl rfl (op_max rfl e2 ⟨zV, ?_⟩) | apply zK | refine za rfl rfl (fun _ => rfl) ?_ | refine zU ?_ | refine js ?_)
    simp only [e3]
    skip
    exact ⟨vX, vY, fr ⟨rfl, rfl, rfl, rfl, rfl, rfl, rfl, rfl, rfl, trivial⟩, _, _, _, _, _, _, _, _, _, _, _, _, _, _, B10, P10.mono (Nat.le_succ i)⟩
   -- a root forgotten
   obtain ⟨bX, capX, rfl, _⟩ := B.hm.rr.shape
   obtain ⟨bY, capY, rfl, _⟩ := B.md.mem.rr.shape
   repeat' (first | apply zw | apply zx | apply zK | refine za rfl rfl (fun _ => rfl) ?_ | refine zU ?_)
   refine zH rfl (fun hE => ?_) (fun hE => ?_)
   case refine_2 =>
    repeat' (first | apply zx | apply zK | refine za rfl rfl (fun _ => rfl) ?_ | refine zU ?_ | refine js ?_)
    exact ⟨_, _, fr ⟨rfl, rfl, rfl, rfl, rfl, rfl, rfl, rfl, rfl, trivial⟩, _, _, _, _, _, _, _, _, _, _, _, _, _, _, B8 _ _, P.mono (Nat.le_succ i)⟩
   have hpos : 0 < R.length := by
    have : (0 : Int) < R.length := by simpa using hE
    omega
   have hR0 : (R.length : Int) ≠ 0 := by omega
   have hne : R ≠ [] := fun e => by rw [e] at hpos; simp at hpos
   obtain ⟨kk, hkk, hkl⟩ : ∃ kk : Nat, (IntKind.i64.wrap (n.tmod R.length + R.length)).tmod R.length = (kk : Int) /\ kk < R.length := by
    have t1 := Int.tmod_lt_of_pos n (show (0 : Int) < R.length by omega)
    have t2 := Int.lt_tmod_of_pos n (show (0 : Int) < R.length by omega)
    rw [Go.IntWalk.i64_in _ (by omega)]
    have t3 := Int.tmod_lt_of_pos (n.tmod R.length + R.length) (show (0 : Int) < R.length by omega)
    have t4 := Int.tmod_nonneg (R.length : Int) (show 0 <= n.tmod R.length + R.length by omega)
    exact ⟨((n.tmod R.length + R.length).tmod R.length).toNat, by omega, by omega⟩
   have hwk : IntKind.i64.wrap ((kk : Int) + 1) = ((kk + 1 : Nat) : Int) := by rw [Go.IntWalk.i64_in _ (by omega)]; omega
   repeat' (first | apply zw | apply zx | apply zy | apply zK | refine za rfl rfl (fun _ => rfl) ?_ | refine zL rfl rfl (zW rfl rfl rfl (hD _ _) rfl ⟨(by simp [zc] <;> omega), ?_⟩) | refine zL rfl rfl (op_rem rfl rfl hR0 ⟨(by simp [zc] <;> omega), ?_⟩))
   simp only [hkk]
   have elW' : ElT cx 35 42 0 := ⟨rfl, rfl, rfl, ⟨_, rfl, by decide⟩⟩
   have hownX : ∀ m ∈ zS (.slice bX R.length capX), c1 <= m /\ m < c' := fun m hm => ⟨B.o1 m (zi _ hm), n1 m (zi _ hm)⟩
   have hownY : ∀ m ∈ zS (.slice bY R.length capY), c1 <= m /\ m < c' := fun m hm => ⟨B.o3 m (zg _ (zi _ hm)), n3 m (zg _ (zi _ hm))⟩
   have hXY : ∀ m ∈ zS (.slice bX R.length capX), m ∉ zS (.slice bY R.length capY) := fun m hm hh => B.d13 m (zg _ (zi _ hh)) (zi _ hm)
   have rX0 : ∀ (x : AObj) (y : AObj), ListOf 1 ye (MapI.set (MapI.set h' c' x) c' y) (c' + 1) (.slice bX R.length capX) R := fun x y => (B8 x y).hm.rr.listZ B.lx hne
   have rY0 : ∀ (x : AObj) (y : AObj), ListOf 1 ye (MapI.set (MapI.set h' c' x) c' y) (c' + 1) (.slice bY R.length capY) R := fun x y => (B8 x y).md.mem.rr.listZ B.ly hne
   have nilZ : ∀ {h : HH} {s : Nat}, RowOf 1 ye h (s + 1) (.slice (some (s, 0)) 0 (.known 0)) [] := .nil fun n hn => by have hn : n ∈ [_] := hn; simp at hn; omega
   have hlt1 : ∀ {m : Nat}, m < c' -> m ≠ c' + 1 := fun h => by omega
   repeat' (first | refine zb rfl rfl (fun _ => rfl) ?_ | refine zO rfl rfl (yy (k := 1) rfl rfl rfl rfl (by decide) rfl ⟨(by simp [zc] <;> omega), ?_⟩))
   have rX1 : ∀ (x : AObj) (y : AObj) (z : AObj), ListOf 1 ye (MapI.set (MapI.set (MapI.set h' c' x) c' y) (c' + 1) z) (c' + 1 + 1) (.slice bX R.length capX) R := fun x y z => (rX0 x y).keep (by omega) fun m hm _ => zu _ _ _ _ (by omega)
   refine zO rfl rfl (op_take (k := 0) (rX1 _ _ _) yq rfl rfl rfl rfl rfl (by omega) fun w1 hw1' hnw1 => ⟨zV, ?_⟩)
   refine zO rfl rfl (gv (k := 0) (xs := []) rfl rfl elW' rfl yq jx nilZ (.inr ⟨rfl, _, rfl⟩) hw1' (by simp; omega) (fun m hm => .inr (by have := hownX m (hnw1 m hm); simp [Acc.name]; omega)) (fun m hm => by simp [zS] at hm; exact ⟨.inr (by simp [Acc.name]; omega), .inr (by simp [Acc.name]; omega)⟩) (.inr (by simp [Acc.name]; omega)) fun vA hA cA alA rA zA nA hcA hfA halA => ?_)
   rw [List.nil_append] at rA zA
   have nA' : ∀ m ∈ zS vA, c' + 1 <= m /\ m < cA := fun m hm => by
    have := rA.lt m hm
    rcases nA m hm with h | ⟨h, _⟩
    ·simp [zS] at h; omega
    ·omega
   have eA : ∀ (m : Nat), m < c' -> MapI.get hA m = MapI.get h' m := fun m hm => by
    rw [hfA m (by omega) fun hh => by simp [zS] at hh; omega, zu _ _ _ _ (by omega), zu _ _ _ _ (by omega), zu _ _ _ _ (by omega)]
   have rX2 : ListOf 1 ye hA cA (.slice bX R.length capX) R := (B.hm.rr.listZ B.lx hne).keep (by omega) fun m hm _ => eA m hm
   repeat' (first | refine zb rfl rfl (fun _ => rfl) ?_)
   refine zO rfl rfl (op_drop (k := 0) (i := kk + 1) rX2 yq rfl rfl hwk rfl rfl (by omega) fun w2 hw2' hnw2 => ⟨zV, ?_⟩)
   refine zO rfl rfl (gv (k := 0) rfl rfl elW' rfl yq jx rA zA hw2' (by simp; omega) (fun m hm => .inr (by have := hownX m (hnw2 m hm); simp [Acc.name]; omega)) (fun m hm => by have := nA' m hm; exact ⟨.inr (by simp [Acc.name]; omega), .inr (by simp [Acc.name]; omega)⟩) (.inr (by simp [Acc.name]; omega)) fun vC' hC cC alC rC zC nC hcC hfC halC => ?_)
   have nC' : ∀ m ∈ zS vC', c' + 1 <= m /\ m < cC := fun m hm => by
    have := rC.lt m hm
    rcases nC m hm with h | ⟨h, _⟩
    ·have := nA' m h; omega
    ·omega
   have eC : ∀ (m : Nat), m < c' -> MapI.get hC m = MapI.get h' m := fun m hm => by
    rw [hfC m (by omega) fun hh => by have := nA' m hh; omega]; exact eA m hm
   repeat' (first | refine zb rfl rfl (fun _ => rfl) ?_ | refine zO rfl rfl (yy (k := 1) rfl rfl rfl rfl (by decide) rfl ⟨(by simp [zc] <;> omega), ?_⟩))
   have rY2 : ∀ (z : AObj), ListOf 1 ye (MapI.set hC cC z) (cC + 1) (.slice bY R.length capY) R := fun z => (B.md.mem.rr.listZ B.ly hne).keep (by omega) fun m hm _ => by rw [zu _ _ _ _ (by omega)]; exact eC m hm
   refine zO rfl rfl (op_take (k := 0) (rY2 _) yq rfl rfl rfl rfl rfl (by omega) fun w3 hw3' hnw3 => ⟨zV, ?_⟩)
   refine zO rfl rfl (gv (k := 0) (xs := []) rfl rfl elW' rfl yq jx nilZ (.inr ⟨rfl, _, rfl⟩) hw3' (by simp; omega) (fun m hm => .inr (by have := hownY m (hnw3 m hm); simp [Acc.name]; omega)) (fun m hm => by simp [zS] at hm; exact ⟨.inr (by simp [Acc.name]; omega), .inr (by simp [Acc.name]; omega)⟩) (.inr (by simp [Acc.name]; omega)) fun vD hD' cD alD rD zD nD hcD hfD halD => ?_)
   rw [List.nil_append] at rD zD
   have nD' : ∀ m ∈ zS vD, cC <= m /\ m < cD := fun m hm => by
    have := rD.lt m hm
    rcases nD m hm with h | ⟨h, _⟩
    ·simp [zS] at h; omega
    ·omega
   have eD : ∀ (m : Nat), m < cC -> MapI.get hD' m = MapI.get hC m := fun m hm => by
    rw [hfD m (by omega) fun hh => by simp [zS] at hh; omega, zu _ _ _ _ (by omega)]
   have rY3 : ListOf 1 ye hD' cD (.slice bY R.length capY) R := (B.md.mem.rr.listZ B.ly hne).keep (by omega) fun m hm _ => by rw [eD m (by omega)]; exact eC m hm
   repeat' (first | refine zb rfl rfl (fun _ => rfl) ?_)
   refine zO rfl rfl (op_drop (k := 0) (i := kk + 1) rY3 yq rfl rfl hwk rfl rfl (by omega) fun w4 hw4' hnw4 => ⟨zV, ?_⟩)
   refine zO rfl rfl (gv (k := 0) rfl rfl elW' rfl yq jx rD zD hw4' (by simp; omega) (fun m hm => .inr (by have := hownY m (hnw4 m hm); simp [Acc.name]; omega)) (fun m hm => by have := nD' m hm; exact ⟨.inr (by simp [Acc.name]; omega), .inr (by simp [Acc.name]; omega)⟩) (.inr (by simp [Acc.name]; omega)) fun vE hE' cE alE rE zE nE hcE hfE halE => ?_)
   have nE' : ∀ m ∈ zS vE, cC <= m := fun m hm => by
    rcases nE m hm with h | ⟨h, _⟩
    ·exact (nD' m h).1
    ·omega
   have eE : ∀ (m : Nat), m < cC -> MapI.get hE' m = MapI.get hC m := fun m hm => by
    rw [hfE m (by omega) fun hh => by have := nD' m hh; omega]; exact eD m hm
   have y1 : ∀ x ∈ alA, x.name ∈ zS (.slice bX R.length capX) \/ (c' + 1 <= x.name /\ x.name < cC) := fun x hx => by
    rcases halA x hx with ⟨h, _⟩ | h | ⟨h, _⟩
    ·exact .inl (hnw1 _ h)
    ·simp [zS] at h; exact .inr (by omega)
    ·exact .inr (by omega)
   have y2 : ∀ x ∈ alC, x.name ∈ zS (.slice bX R.length capX) \/ (c' + 1 <= x.name /\ x.name < cC) := fun x hx => by
    rcases halC x hx with ⟨h, _⟩ | h | ⟨h, _⟩
    ·exact .inl (hnw2 _ h)
    ·have := nA' _ h; exact .inr (by omega)
    ·exact .inr (by omega)
   have y3 : ∀ x ∈ alD, x.name ∈ zS (.slice bY R.length capY) \/ cC <= x.name := fun x hx => by
    rcases halD x hx with ⟨h, _⟩ | h | ⟨h, _⟩
    ·exact .inl (hnw3 _ h)
    ·simp [zS] at h; exact .inr (by omega)
    ·exact .inr (by omega)
   have y4 : ∀ x ∈ alE, x.name ∈ zS (.slice bY R.length capY) \/ cC <= x.name := fun x hx => by
    rcases halE x hx with ⟨h, _⟩ | h | ⟨h, _⟩
    ·exact .inl (hnw4 _ h)
    ·have := nD' _ h; exact .inr (by omega)
    ·exact .inr (by omega)
   have apart : ∀ {l1 l2 : List Acc}, (∀ x ∈ l1, x.name ∈ zS (.slice bX R.length capX) \/ (c' + 1 <= x.name /\ x.name < cC)) -> (∀ x ∈ l2, x.name ∈ zS (.slice bY R.length capY) \/ cC <= x.name) -> ∀ x ∈ l1, ∀ y ∈ l2, x.name ≠ y.name := fun h1 h2 x hx y hy e => by
    rcases h1 x hx with h | h <;> rcases h2 y hy with g | g
    ·exact hXY _ h (by rw [e]; exact g)
    ·have := hownX _ h; omega
    ·have := hownY _ g; omega
    ·omega
   have apart' : ∀ {l1 l2 : List Acc}, (∀ x ∈ l1, x.name ∈ zS (.slice bX R.length capX) \/ (c' + 1 <= x.name /\ x.name < cC)) -> (∀ x ∈ l2, x.name ∈ zS (.slice bY R.length capY) \/ cC <= x.name) -> ∀ x ∈ l2, ∀ y ∈ l1, x.name ≠ y.name := fun h1 h2 x hx y hy e => apart h1 h2 y hy x hx e.symm
   have z1 : ∀ x ∈ [Acc.wr (c' + 1)], x.name ∈ zS (.slice bX R.length capX) \/ (c' + 1 <= x.name /\ x.name < cC) := fun x hx => by rw [zm hx]; exact .inr ⟨Nat.le_refl _, by simp [Acc.name]; omega⟩
   have z2 : ∀ x ∈ [Acc.wr cC], x.name ∈ zS (.slice bY R.length capY) \/ cC <= x.name := fun x hx => by rw [zm hx]; exact .inr (Nat.le_refl _)
   have dis_of : ∀ {l1 l2 : List Acc}, (∀ x ∈ l1, ∀ y ∈ l2, x.name ≠ y.name) -> Dis l1 l2 := fun h x hx y hy e => absurd e (h x hx y hy)
   repeat' (first | refine zb rfl rfl (fun _ => rfl) ?_)
   refine zN (ym (cs := [0, 0, 0, 6, 15, 0, 0, 64, 224, 511, 0, 0, 0, 6144, 16383, 0, 0, 65536, 229376, 524287, 1048575, 2097151]) (by decide +kernel) ?_) ?_
   ·simp [jt, apP, Nat.testBit, disN, nDis, dis_of (apart z1 z2), dis_of (apart z1 y3), dis_of (apart z1 y4), dis_of (apart y1 z2), dis_of (apart y1 y3), dis_of (apart y1 y4), dis_of (apart y2 z2), dis_of (apart y2 y3), dis_of (apart y2 y4)]
   repeat' (first | apply zx | apply zK | refine za rfl rfl (fun _ => rfl) ?_ | refine zU ?_ | refine js ?_)
   have hsub : ∀ w ∈ R.take kk ++ R.drop (kk + 1), w ∈ R := fun w hw => by
    rcases zk hw with h | h
    ·exact List.mem_of_mem_take h
    ·exact List.mem_of_mem_drop h
   have hlen' : (R.take kk ++ R.drop (kk + 1)).length <= R.length := by simp; omega
   have hf8 : ∀ (x : AObj) (y : AObj) (m : Nat), m < c' + 1 -> MapI.get hC m = MapI.get (MapI.set (MapI.set h' c' x) c' y) m \/ m = c' := fun x y m hm => by
    by_cases e : m = c'
    ·exact .inr e
    ·exact .inl (by rw [eC m (by omega), zu _ _ _ _ (by omega), zu _ _ _ _ (by omega)])
   have B9 := B.left (B.hm.roots (by omega) rC (fun m hm => by have := nC' m hm; omega) eC hsub (by omega)) (B.st.keepN (by omega) fun m hm _ => eC m hm) (by omega) (fun m hm => by
    rcases zk hm with h | h
    ·exact .inl (zh _ h)
    ·have := nC' m h; exact .inr (by omega)) zC fun m hm _ => eC m hm
   have B10 := B9.right (B9.md.roots (by omega) rE nE' eE hsub (by omega)) (B9.rf.keepN (by omega) fun m hm _ => eE m hm) (by omega) (fun m hm => by
    rcases zk hm with h | h
    ·exact .inl (zh _ h)
    ·exact .inr (nE' m h)) zE fun m hm _ => eE m hm
   exact ⟨_, _, fr ⟨rfl, rfl, rfl, rfl, rfl, rfl, rfl, rfl, rfl, trivial⟩, _, _, _, _, _, _, _, _, _, _, _, _, _, _, B10, (P.less hsub (by omega)).mono (Nat.le_succ i)⟩
 ·-- the look behind each deed
  rintro e' h8 c8 ⟨vX', vY', ⟨b1, rfl⟩, vW, vb, vr, vM, vB, vP, vS, vC, W, R, size, s1, s2, l, B, P⟩ k8
  have hRl := P.rl
  have hc8 := B.c0
  have hobjM := B.md.obj
  have hobjA := B.md.mem.ar.obj
  have hWle := B.hm.hm.ar.le
  have hWm := B.hm.hm.mo
  have hWx := B.hm.hm.mx
  have en : ((W.length : Int) != (W.length : Int)) = false := by simp
  have en2 : (size != size) = false := by simp
  obtain ⟨bM, capM, rfl, _⟩ := B.md.mem.ar.w.shape
  have n1 := B.hm.names
  have n3 := B.md.names
  have hmp : mp < c8 := n3 mp (zq ..)
  have hmp1 : c1 <= mp := B.o3 mp (zq ..)
  have hma1 : c1 <= c4 := B.o3 c4 (zg _ (zq ..))
  have hma : c4 < c8 := n3 c4 (zg _ (zq ..))
  repeat' (first | apply zw | apply zy | refine zb rfl rfl (fun _ => rfl) ?_)
  refine zO rfl rfl (gK rfl (hused_ok B.hm.hm) k8 (fun m hm => .inr (B.o1 m (zh _ hm))) (by omega) fun v h9 c9 al1 hal1 k9 hc9 hf9 hq => ?_)
  obtain ⟨rfl, rfl, rfl⟩ := hq
  repeat' (first | refine zb rfl rfl (fun _ => rfl) ?_ | refine zO rfl rfl (zW rfl rfl rfl hobjM rfl ⟨(by simp [zc] <;> omega), ?_⟩) | refine zO rfl rfl (zW rfl rfl rfl hobjA rfl ⟨(by simp [zc] <;> omega), ?_⟩))
  simp only [en]
  repeat' (first | refine zb rfl rfl (fun _ => rfl) ?_)
  refine zO rfl rfl (gK rfl (hcap_ok B.hm.hm) k9 (fun m hm => .inr (B.o1 m (zh _ hm))) (by omega) fun v h9 c9 al2 hal2 k9' hc9' hf9' hq => ?_)
  obtain ⟨rfl, rfl, rfl⟩ := hq
  repeat' (first | refine zb rfl rfl (fun _ => rfl) ?_ | refine zO rfl rfl (zW rfl rfl rfl hobjM rfl ⟨(by simp [zc] <;> omega), ?_⟩) | refine zO rfl rfl (zW rfl rfl rfl hobjA rfl ⟨(by simp [zc] <;> omega), ?_⟩))
  simp only [en2]
  repeat' (first | refine zb rfl rfl (fun _ => rfl) ?_)
  refine zO rfl rfl (gK rfl (same_ok B.hm.rr.reads B.md.mem.rr.reads (by omega)) k9' (fun m hm => .inr (by
   rcases zk hm with h | h
   ·exact B.o1 m (zi _ h)
   ·exact B.o3 m (zg _ (zi _ h)))) (by omega) fun v h9 c9 al3 hal3 k9'' hc9'' hf9'' hq => ?_)
  obtain ⟨rfl, rfl, rfl⟩ := hq
  repeat' (first | refine zb rfl rfl (fun _ => rfl) ?_)
  refine zO rfl rfl (gK rfl (arena_ok B.hm.hm) k9'' (fun m hm => .inr (B.o1 m (zh _ (by simp at hm; rw [hm]; exact zq ..)))) (by omega) fun v h9 c9 al4 hal4 k9a hc9a hf9a hq => ?_)
  obtain ⟨rfl, rfl, rfl⟩ := hq
  refine zO rfl rfl (gK rfl (words_okR B.hm.hm.ar) k9a (fun m hm => .inr (B.o1 m (zh _ (zg _ hm)))) (by omega) fun v9 h9 c9 al5 hal5 k9b hc9b hf9b hq => ?_)
  obtain ⟨rW9, hnW9, hs9⟩ := hq
  have B9 := B.same hc9b hs9
  have hobjM9 := B9.md.obj
  have hobjA9 := B9.md.mem.ar.obj
  repeat' (first | refine zb rfl rfl (fun _ => rfl) ?_ | refine zO rfl rfl (zW rfl rfl rfl hobjM9 rfl ⟨(by simp [zc] <;> omega), ?_⟩) | refine zO rfl rfl (zW rfl rfl rfl hobjA9 rfl ⟨(by simp [zc] <;> omega), ?_⟩))
  refine zO rfl rfl (gK rfl (same_ok rW9 B9.md.mem.ar.w.row.reads (by omega)) k9b (fun m hm => .inr (by
   rcases zk hm with h | h
   ·have := hnW9 m h; omega
   ·exact B.o3 m (zg _ (zh _ (zg _ h))))) (by omega) fun v h10 c10 al6 hal6 k10 hc10 hf10 hq => ?_)
  obtain ⟨rfl, rfl, rfl⟩ := hq
  repeat' (first | refine zb rfl rfl (fun _ => rfl) ?_)
  have g1 := reads_of hal1
  have g2 := reads_of hal2
  have g3 := reads_of hal3
  have g4 := reads_of hal4
  have g6 := reads_of hal6
  have d1 := k7 (fun x hx => (hal5 x hx).1) g1 fun x hx => (hal1 x hx).2
  have d2 := k7 (fun x hx => (hal5 x hx).1) g2 fun x hx => (hal2 x hx).2
  have d3 := k7 (fun x hx => (hal5 x hx).1) g3 fun x hx => (hal3 x hx).2
  have d4 := k7 (fun x hx => (hal5 x hx).1) g4 fun x hx => (hal4 x hx).2
  have d5 := k7 (fun x hx => (hal5 x hx).1) rd1 (blw1 hmp)
  have d6 := k7 (fun x hx => (hal5 x hx).1) rd1 (blw1 hma)
  have d7 := k7 (fun x hx => (hal5 x hx).1) rd0 blw0
  refine zN (ym (cs := [0, 1, 3, 7, 15, 7, 39, 103, 231, 487, 999, 2023, 4071, 8191, 16383, 32767, 65535, 131071, 65535, 327679, 851967, 1900543, 3997695, 8191999, 16580607, 33554431, 67108863, 134217727, 268435455, 268435455, 1073741823, 2147483647, 4294967295, 8589934591, 17179869183, 34359738367, 68719476735, 17179869183, 154618822655, 429496729599, 979252543487, 2078764171263, 4277787426815, 8675833937919, 17592186044415, 35184372088831, 70368744177663]) (by decide +kernel) ?_) ?_
  ·simp [jt, apP, Nat.testBit, disN, nDis, d1, d2, d3, d4, d5, d6, d7, dis_reads, rd1, rd0, g1, g2, g3, g4, g6]
  repeat' (first | refine zU ?_)
  refine zd rfl ?_
  repeat' (first | apply zw | apply zx | apply zz | apply zB | apply zK | refine za rfl rfl (fun _ => rfl) ?_)
  refine zI ?_
  refine zQ (X := Nat) (fun j e' h' c' => (∃ b0, e' = FR b0 [(1, .slice (some (sl, 0)) ds.length (.known cap)), (5, V.ptr (some (c1, 0))), (6, V.ptr (some (q, 0))), (7, V.ptr (some (hp, 0))), (8, V.ptr (some (mp, 0))), (10, vX'), (11, vY'), (12, I i), (22, I ((j + 1 : Nat) : Int))]) /\ j <= 3 /\ h9 = h' /\ c9 = c')
   (fun j => 3 - j) ?_ 0 _ _ _ ⟨fr ⟨rfl, rfl, rfl, rfl, rfl, rfl, rfl, rfl, rfl, trivial⟩, Nat.zero_le _, rfl, rfl⟩
  rintro j e' h' c' ⟨⟨b2, rfl⟩, hj, rfl, rfl⟩
  repeat' (first | apply zw | apply zx | apply zK | refine za rfl rfl (fun _ => rfl) ?_ | refine zU ?_)
  refine zH rfl (fun hlt3 => ?_) (fun hge3 => ?_)
  case refine_2 =>
   repeat' (first | apply zx | apply zF | apply zK | refine za rfl rfl (fun _ => rfl) ?_ | refine zU ?_)
   refine ⟨i + 1, by omega, vX', vY', ?_, by omega, _, _, _, _, _, _, _, _, _, _, _, _, _, _, B9, P⟩
   rw [hw1]
   exact fr ⟨rfl, rfl, rfl, rfl, rfl, rfl, rfl, rfl, trivial⟩
  have hj3 : j < 3 := by
   have : ((j + 1 : Nat) : Int) <= 3 := by simpa using hlt3
   omega
  obtain ⟨x1, hx1, hv1⟩ := P.cx.row hj3
  obtain ⟨x2, hx2, hv2⟩ := P.cy.row hj3
  have hml := many_len (yX W l) j
  have hwj : IntKind.i64.wrap (((j + 1 : Nat) : Int) + 1) = ((j + 1 + 1 : Nat) : Int) := by rw [Go.IntWalk.i64_in _ (by omega)]; omega
  have h31 := P.cx.three
  have h32 := P.cy.three
  repeat' (first | apply zw | apply zx | apply zz | apply zB | refine za rfl rfl (fun _ => rfl) ?_)
  refine zL rfl rfl (yj rfl (count_ok B9.st (by omega)) (fun m hm => .inr (B.o2 m (by
   rcases zl hm with h | h
   ·rw [h]; exact zq ..
   ·exact zg _ (zi _ h)))) (by omega) fun v h11 c11 hc11 hf11 hq => ?_)
  obtain ⟨rfl, rfl, hq⟩ := hq
  have hv : v = I (1 + jd (yX W l) j) := by
   rcases hq with ⟨i', x, e, hx, rfl⟩ | ⟨hno, rfl⟩
   ·have : i' = j := by omega
    subst this
    rw [hx1] at hx; cases hx; rw [hv1]
   ·have := hno j x1 (by omega) hx1; omega
  subst hv
  repeat' (first | refine za rfl rfl (fun _ => rfl) ?_)
  refine zL rfl rfl (yj rfl (rcount_ok B9.rf (by omega)) (fun m hm => .inr (B.o4 m hm)) (by omega) fun v h12 c12 hc12 hf12 hq => ?_)
  obtain ⟨rfl, rfl, hq⟩ := hq
  have hv : v = I (1 + jd (yX W l) j) := by
   rcases hq with ⟨i', x, e, hx, _, rfl⟩ | ⟨hno, rfl⟩
   ·have : i' = j := by omega
    subst this
    rw [hx2] at hx; cases hx; rw [hv2]
   ·have := hno j x2 (by omega) hx2; omega
  subst hv
  have en3 : ((1 + jd (yX W l) j) != (1 + jd (yX W l) j)) = false := by simp
  repeat' (first | apply zK | refine za rfl rfl (fun _ => rfl) ?_ | refine zU ?_)
  refine zH rfl (fun hb => by rw [en3] at hb; cases hb) (fun _ => ?_)
  repeat' (first | apply zx | apply zz | apply zK | refine za rfl rfl (fun _ => rfl) ?_ | refine zU ?_)
  refine ⟨j + 1, by omega, ?_, by omega, rfl, rfl⟩
  rw [hwj]
  exact fr ⟨rfl, rfl, rfl, rfl, rfl, rfl, rfl, rfl, rfl, trivial⟩
end Go.Proofs.YtjnfjnmgfpffcaaGreat
namespace Go.Proofs.YtjnfjnmgfpffcaaGreat
open Go.Ab Go.ChangeShapes Go.WideShapes
theorem pdeeds_of {h : HH} {c : Nat} {T : Type} (vs : List V) (d : DataW T) (r : AR Tryz.prog h c 37 vs d) : ∃ a : PDeed, vs = pdeedV a /\ True := by
 obtain ⟨vss, ds', rfl, _, hr⟩ := r.inv_struct (fs := _) Tryz.underlying37
 cases hr with
 | cons a1 _ hr =>
  cases hr with
  | cons a2 _ hr =>
   cases hr with
   | cons a3 _ hr =>
    cases hr with
    | cons a4 _ hr =>
     cases hr
     obtain ⟨x, rfl, _, hx⟩ := a1.inv_int (k := .i64) Tryz.underlying3
     obtain ⟨y, rfl, _, hy⟩ := a2.inv_int (k := .i64) Tryz.underlying3
     obtain ⟨z, rfl, _, hz⟩ := a3.inv_int (k := .i64) Tryz.underlying3
     obtain ⟨w, rfl, _, hw⟩ := a4.inv_int (k := .i64) Tryz.underlying3
     exact ⟨(x, y, z, w), rfl, trivial⟩
theorem hplays_walk {T : Type} {ds : List (DataW T)} : ∀ (h : HH) (c : Nat) (xs : List V), ArgsR Tryz.prog h c [3, 22] xs ds -> Clear h c -> WpX (cl 3 xs) h c fun v _ _ _ => v = .bool true := by
 intro h c xs r kc
 cases r with
 | @cons _ _ x1 _ _ _ a ha r =>
  cases r with
  | @cons _ _ x2 _ _ _ b hb r =>
   cases r
   obtain ⟨z, hz, _, hzw⟩ := a.inv_int (k := .i64) rfl
   have e1 : x1 = I z := by
    have hd : isAggV x1 = false := ha.trans rfl
    cases x1 <;> first | (cases hd; done) | (simpa [yR] using hz)
   subst e1
   obtain ⟨dl, hl, hg⟩ := AR.rows (cells := pdeedV) (good := fun q => True) (k := 4) (e := 37) Tryz.underlying22 (hb.trans rfl) pdeed_len (fun vs d a => pdeeds_of vs d a) b
   exact WpX.mono (hplays_law kc hl) fun v h' c' l q => q.2.2.2
end Go.Proofs.YtjnfjnmgfpffcaaGreat
