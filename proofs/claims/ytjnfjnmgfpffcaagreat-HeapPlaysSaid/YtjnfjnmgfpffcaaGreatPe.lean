/- The heap: what is made. The reference's memory: what its functions give. The reference: what is reached. The reference: Sound, of what is. The heap: Make. Heaps of tuples of noughts. What a slide leaves is sound. The store's functions: Handles, Grant without a slide. The store's functions: Grant where nothing must slide; awake. The store's awake. Counting. The store's functions: Place, Look; bytes.Clone; same. The store's functions: Look; lying and Look, and one row alone is held. slices.SortFunc by its contract: a row of pointers at rows of three cells. lying: all rows that are held, by where their bytes lie. Sliding bytes together: plain facts. Slide: all bytes that are held, together, in the order in which they lay. Grant, and all slides if it must. A store that is sound, and what its handles hold. The document's store: what each function does to bytes and rows. The reference: moved, Map. -/
import Derived.Test.YtjnfjnmgfpffcaaGreatPd
import Derived.Test.YtjnfjnmgfpffcaaGreatPc
set_option linter.unusedVariables false
set_option linter.unusedSectionVars false
set_option linter.unusedSimpArgs false
set_option linter.unnecessarySimpa false
set_option maxRecDepth 10000
namespace Go.Proofs.YtjnfjnmgfpffcaaGreat
open Go.Ab
section
variable {h h' : HH} {c c' hp a sp : Nat} {vW vR vX : V} {W R X : List Int} {size most : Int} {l : List (Nat × Hd)}
theorem gq {x : Hd} (hx : okH x) : okW (makeW x) := kS ⟨by decide, by decide⟩
theorem kC {x : Hd} : yL (makeW x) = 6 := tag_of ⟨by decide, by decide⟩
theorem set_app_len {A : List Int} {m : Nat} {w : Int} : (A ++ List.replicate (m + 1) 0).set A.length w = A ++ w :: List.replicate m 0 := by
 rw [List.set_append_right _ _ (Nat.le_refl _), Nat.sub_self, List.replicate_succ]; rfl
theorem fresh_ok {x : Hd} (r : ArAt h c a vW W size) (hx : okH x) (hle : (W.length : Int) + 1 + x.size <= size) : Does 35 [.ptr (some (a, 0)), .agg (hdV x)] h c (an a vW) fun v h' c' => v = .tuple [U (jQ W.length), .bool true] /\ ∃ vW', ArAt h' c' a vW' (W ++ makeW x :: List.replicate x.size.toNat 0) size /\ ∀ n ∈ zS vW', n ∈ zS vW \/ c <= n := by
 have hok := hx
 unfold okH at hok
 have hmx := r.mx
 have w1 : IntKind.i64.wrap ((1 : Int) + x.size) = 1 + x.size := Go.IntWalk.i64_in _ (by omega)
 have hnm := r.names
 refine yi (enter (fn := Tryz.f35) Tryz.func35 rfl rfl (zf rfl) ?_)
 repeat' (first | apply zw | apply zx | apply zK | refine za rfl rfl (fun _ => rfl) ?_ | refine zL rfl rfl (yK rfl ⟨(by simp [zc] <;> omega), ?_⟩) | refine zL rfl rfl (yC rfl rfl rfl rfl (zt _ _ _) rfl ⟨(by simp [zc] <;> omega), ?_⟩))
 refine zL rfl rfl (yj rfl (make_ok hx) (fun n hn => by cases hn) (by omega) fun v4 h4 c4 hc4 hf4 hq => ?_)
 subst hq
 repeat' (first | apply zw | apply zx | apply zK | refine za rfl rfl (fun _ => rfl) ?_)
 refine zL rfl rfl (yj rfl (tag_ok (gq hx)) (fun n hn => by cases hn) (by omega) fun v5 h5 c5 hc5 hf5 hq => ?_)
 obtain ⟨rfl, rfl, rfl⟩ := hq
 rw [kC]
 have hg4 : MapI.get h4 c = some (.cells true true (hdV x)) := by rw [hf4 c (by omega) (fun hh => by cases hh)]; exact zt _ _ _
 have r4 : ArAt h4 c4 a vW W size := r.same (by omega) fun n hn => by rw [hf4 n (by omega) (fun hh => by cases hh)]; exact zu _ _ _ _ (by omega)
 repeat' (first | apply zK | refine za rfl rfl (fun _ => rfl) ?_ | refine zU ?_)
 refine zd rfl ?_
 repeat' (first | apply zw | apply zx | apply zz | refine za rfl rfl (fun _ => rfl) ?_ | refine zL rfl rfl (zW rfl rfl rfl hg4 rfl ⟨(by simp [zc] <;> omega), ?_⟩))
 refine zL rfl rfl (yj rfl (take_ok r4 (m := x.size.toNat + 1) (by rw [w1]; omega) (by omega)) (fun n hn => .inl hn) (by omega) fun v6 h6 c6 hc6 hf6 hq => ?_)
 obtain ⟨rfl, vW', r6, hn6⟩ := hq
 repeat' (first | apply zw | apply zx | apply zK | refine za rfl rfl (fun _ => rfl) ?_ | refine zU ?_)
 refine zd rfl ?_
 repeat' (first | apply zw | apply zx | apply zz | refine za rfl rfl (fun _ => rfl) ?_)
 have hsub : ∀ n ∈ an a vW', n ∈ an a vW \/ c <= n := fun n hn => by
  rcases zl hn with h | h
  ·exact .inl (by rw [h]; exact zq ..)
  ·rcases hn6 n h with h | h
   ·exact .inl (zg _ h)
   ·exact .inr (by omega)
 refine zL rfl rfl (yj rfl (set_ok r6 (j := W.length) rfl (by simp) (gq hx)) hsub (by omega) fun v7 h7 c7 hc7 hf7 hq => ?_)
 obtain ⟨rfl, rfl, r7, _⟩ := hq
 rw [set_app_len] at r7
 have hWl := r.le
 repeat' (first | apply zw | apply zx | apply zK | refine za rfl rfl (fun _ => rfl) ?_)
 refine zL rfl rfl (yj rfl (of_word_ok ⟨by decide, by decide⟩ (by unfold jD; omega)) (fun n hn => by cases hn) (by omega) fun v8 h8 c8 hc8 hf8 hq => ?_)
 obtain ⟨rfl, rfl, rfl⟩ := hq
 repeat' (first | apply zG | apply zK | refine za rfl rfl (fun _ => rfl) ?_)
 refine z6 rfl ⟨rfl, vW', r7, fun n hn => ?_⟩
 rcases hn6 n hn with h | h
 ·exact .inl h
 ·exact .inr (by omega)
theorem fresh_no {x : Hd} (r : ArAt h c a vW W size) (hx : okH x) (hle : size < (W.length : Int) + 1 + x.size) : Does 35 [.ptr (some (a, 0)), .agg (hdV x)] h c (an a vW) fun v h' c' => v = .tuple [U 0, .bool false] /\ ∀ n, n < c -> MapI.get h' n = MapI.get h n := by
 have hok := hx
 unfold okH at hok
 have hmx := r.mx
 have w1 : IntKind.i64.wrap ((1 : Int) + x.size) = 1 + x.size := Go.IntWalk.i64_in _ (by omega)
 have hnm := r.names
 refine yi (enter (fn := Tryz.f35) Tryz.func35 rfl rfl (zf rfl) ?_)
 repeat' (first | apply zw | apply zx | apply zK | refine za rfl rfl (fun _ => rfl) ?_ | refine zL rfl rfl (yK rfl ⟨(by simp [zc] <;> omega), ?_⟩) | refine zL rfl rfl (yC rfl rfl rfl rfl (zt _ _ _) rfl ⟨(by simp [zc] <;> omega), ?_⟩))
 refine zL rfl rfl (yj rfl (make_ok hx) (fun n hn => by cases hn) (by omega) fun v4 h4 c4 hc4 hf4 hq => ?_)
 subst hq
 repeat' (first | apply zw | apply zx | apply zK | refine za rfl rfl (fun _ => rfl) ?_)
 refine zL rfl rfl (yj rfl (tag_ok (gq hx)) (fun n hn => by cases hn) (by omega) fun v5 h5 c5 hc5 hf5 hq => ?_)
 obtain ⟨rfl, rfl, rfl⟩ := hq
 rw [kC]
 have hg4 : MapI.get h4 c = some (.cells true true (hdV x)) := by rw [hf4 c (by omega) (fun hh => by cases hh)]; exact zt _ _ _
 have hfr4 : ∀ n, n < c -> MapI.get h4 n = MapI.get h n := fun n hn => by rw [hf4 n (by omega) (fun hh => by cases hh)]; exact zu _ _ _ _ (by omega)
 have r4 : ArAt h4 c4 a vW W size := r.same (by omega) hfr4
 repeat' (first | apply zK | refine za rfl rfl (fun _ => rfl) ?_ | refine zU ?_)
 refine zd rfl ?_
 repeat' (first | apply zw | apply zx | apply zz | refine za rfl rfl (fun _ => rfl) ?_ | refine zL rfl rfl (zW rfl rfl rfl hg4 rfl ⟨(by simp [zc] <;> omega), ?_⟩))
 refine zL rfl rfl (yj rfl (take_no r4 (by rw [w1]; omega) (by rw [w1]; omega)) (fun n hn => .inl hn) (by omega) fun v6 h6 c6 hc6 hf6 hq => ?_)
 obtain ⟨rfl, rfl, rfl⟩ := hq
 repeat' (first | apply zw | apply zx | apply zK | refine za rfl rfl (fun _ => rfl) ?_ | refine zU ?_)
 refine ze rfl ?_
 repeat' (first | apply zw | apply zx | apply zG | apply zK | refine za rfl rfl (fun _ => rfl) ?_ | refine yn ?_)
 exact z6 rfl ⟨rfl, hfr4⟩
end
open Go.Ab
section
variable {h h' : HH} {c c' a : Nat} {vW vR : V} {W R : List Int} {size : Int}
theorem we {i : Int} (r : ArAt h c a vW W size) : DoesR 66 [.ptr (some (a, 0)), I i] h c (an a vW) fun v h' c' => v = (match j4 W i with | some x => .tuple [.agg (hdV x), .bool true] | none => .tuple [.agg (hdV hd0), .bool false]) := by
 have hobj := r.obj
 have hmx := r.mx
 have hl := r.le
 have hok := r.ok
 have hla := r.la
 obtain ⟨s, cap, rfl, hs⟩ := r.w.shape
 refine yN (enterH (fn := Tryz.f66) Tryz.func66 rfl rfl (zf rfl) ?_)
 have hgc : ∀ {o : AObj}, MapI.get (MapI.set h c o) c = some o := zt _ _ _
 have hobj1 : ∀ {o : AObj}, MapI.get (MapI.set h c o) a = some (.cells true true [.slice s W.length cap, I size]) := yP (by omega) hobj
 by_cases h1 : i < 0
 ·have e1 : decide (i < 0) = true := by simpa using h1
  have eo : j4 W i = none := by unfold j4; rw [if_neg (by omega)]
  repeat' (first | apply zw | apply zx | apply zK | refine za rfl rfl (fun _ => rfl) ?_ | refine zL rfl rfl (yM rfl ⟨(by simp [InR, Acc.name, Acc.writes, zS] <;> omega), ?_⟩))
  simp only [e1]
  repeat' (first | apply zK | refine za rfl rfl (fun _ => rfl) ?_ | refine zM rfl rfl ?_ | refine zU ?_)
  refine ze rfl ?_
  repeat' (first | apply zw | apply zx | apply zG | apply zK | refine za rfl rfl (fun _ => rfl) ?_ | refine yn ?_ | refine zL rfl rfl (ya (k := 4) rfl rfl rfl rfl (zt _ _ _) (zf rfl) rfl ⟨(by simp [InR, Acc.name, Acc.writes, zS] <;> omega), ?_⟩))
  refine jo (.cellA (k := 4) rfl rfl rfl rfl (zt _ _ _) rfl (.tmp rfl .nil)) ?_ ?_
  ·intro x hx; simp at hx; subst hx; exact ⟨.inr (Nat.le_refl _), fun h => by cases h⟩
  ·rw [eo]; rfl
 have e1 : decide (i < 0) = false := by simpa using h1
 by_cases h2 : i >= (W.length : Int)
 ·have e2 : decide (i >= (W.length : Int)) = true := by simpa using h2
  have eo : j4 W i = none := by unfold j4; rw [if_neg (by omega)]
  repeat' (first | apply zw | apply zx | apply zK | refine za rfl rfl (fun _ => rfl) ?_ | refine zL rfl rfl (yM rfl ⟨(by simp [InR, Acc.name, Acc.writes, zS] <;> omega), ?_⟩))
  simp only [e1]
  repeat' (first | apply zK | refine za rfl rfl (fun _ => rfl) ?_ | refine zU ?_ | refine zL rfl rfl (zW rfl rfl rfl hobj1 rfl ⟨(by simp [InR, Acc.name, Acc.writes, zS] <;> omega), ?_⟩))
  simp only [e2]
  skip
  refine ze rfl ?_
  repeat' (first | apply zw | apply zx | apply zG | apply zK | refine za rfl rfl (fun _ => rfl) ?_ | refine yn ?_ | refine zL rfl rfl (ya (k := 4) rfl rfl rfl rfl (zt _ _ _) (zf rfl) rfl ⟨(by simp [InR, Acc.name, Acc.writes, zS] <;> omega), ?_⟩))
  refine jo (.cellA (k := 4) rfl rfl rfl rfl (zt _ _ _) rfl (.tmp rfl .nil)) ?_ ?_
  ·intro x hx; simp at hx; subst hx; exact ⟨.inr (Nat.le_refl _), fun h => by cases h⟩
  ·rw [eo]; rfl
 have e2 : decide (i >= (W.length : Int)) = false := by simpa using h2
 obtain ⟨j, rfl⟩ : ∃ j : Nat, i = j := ⟨i.toNat, by omega⟩
 have hj : j < W.length := by omega
 obtain ⟨w, hw⟩ : ∃ w, W[j]? = some w := ⟨_, zp hj⟩
 have hokw : okW w := hok w (zo hw)
 obtain ⟨rfl, sn, cl, junk, rfl, hsn, hg, hjk⟩ := hs j hj
 have hg1 : ∀ {o : AObj}, MapI.get (MapI.set h c o) sn = some (.cells true cl (flat ye W ++ junk)) := yP (by omega) hg
 have hz : nth (flat ye W ++ junk) (0 + ((j : Nat) : Int).toNat * 1) = some (U w) := by
  rw [show 0 + ((j : Nat) : Int).toNat * 1 = j from by simp]; exact yB yq hw rfl junk
 repeat' (first | apply zw | apply zx | apply zK | refine za rfl rfl (fun _ => rfl) ?_ | refine zL rfl rfl (yM rfl ⟨(by simp [InR, Acc.name, Acc.writes, zS] <;> omega), ?_⟩))
 simp only [e1]
 repeat' (first | apply zK | refine za rfl rfl (fun _ => rfl) ?_ | refine zU ?_ | refine zL rfl rfl (zW rfl rfl rfl hobj1 rfl ⟨(by simp [InR, Acc.name, Acc.writes, zS] <;> omega), ?_⟩))
 simp only [e2]
 skip
 refine zd rfl ?_
 repeat' (first | apply zw | apply zx | apply zz | refine za rfl rfl (fun _ => rfl) ?_ | refine zL rfl rfl (zW rfl rfl rfl hobj1 rfl ⟨(by simp [InR, Acc.name, Acc.writes, zS] <;> omega), ?_⟩) | refine zL rfl rfl (zZ (k := 1) rfl rfl rfl rfl ⟨by omega, by omega⟩ ⟨(by simp [InR, Acc.name, Acc.writes, zS] <;> omega), ?_⟩) | refine zL rfl rfl (zW rfl rfl rfl hg1 hz ⟨(by simp [InR, Acc.name, Acc.writes, zS] <;> omega), ?_⟩))
 refine zL rfl rfl (yZ rfl (rread_okR hokw) (fun n hn => by cases hn) (by omega) fun v h4 c4 hc4 hfr4 hq => ?_)
 subst hq
 have hgc4 : MapI.get h4 c = some (.cells true true (hdV hd0)) := by rw [hfr4 c (by omega)]; exact zt _ _ _
 have hobj4 : MapI.get h4 a = some (.cells true true [.slice (some (sn, 0)) W.length (.upTo 1), I size]) := by rw [hfr4 a (by omega)]; exact hobj1
 have hgc5 : ∀ {o : AObj}, MapI.get (MapI.set h4 c4 o) c = some (.cells true true (hdV hd0)) := yP (by omega) hgc4
 have hobj5 : ∀ {o p : AObj}, MapI.get (MapI.set (MapI.set h4 c4 o) c4 p) a = some (.cells true true [.slice (some (sn, 0)) W.length (.upTo 1), I size]) := yP (by omega) (yP (by omega) hobj4)
 cases hr : j0 w with
 | none =>
  have eo : j4 W j = none := by
   unfold j4; rw [if_pos ⟨by omega, by omega⟩, show ((j : Nat) : Int).toNat = j from by simp, hw]; simp only [hr]
  repeat' (first | apply zw | apply zy | apply zK | refine za rfl rfl (fun _ => rfl) ?_ | refine zb rfl rfl (fun _ => rfl) ?_ | refine zP rfl rfl ?_ | refine zL rfl rfl (yM rfl ⟨(by simp [InR, Acc.name, Acc.writes, zS] <;> omega), ?_⟩) | refine zL rfl rfl (ya (k := 4) rfl rfl rfl rfl (zt _ _ _) (zf rfl) rfl ⟨(by simp [InR, Acc.name, Acc.writes, zS] <;> omega), ?_⟩))
  refine zN rfl ?_
  repeat' (first | refine zU ?_)
  refine ze rfl ?_
  repeat' (first | apply zw | apply zx | apply zG | apply zK | refine za rfl rfl (fun _ => rfl) ?_ | refine yn ?_ | refine zL rfl rfl (ya (k := 4) rfl rfl rfl rfl (yP (by omega) hgc5) (zf rfl) rfl ⟨(by simp [InR, Acc.name, Acc.writes, zS] <;> omega), ?_⟩))
  refine jo (.cellA (k := 4) rfl rfl rfl rfl (zt _ _ _) rfl (.tmp rfl .nil)) ?_ ?_
  ·intro x hx; simp at hx; subst hx; exact ⟨.inr (Nat.le_refl _), fun h => by cases h⟩
  ·rw [eo]; rfl
 | some x =>
  have hx := (read_ok hr).1
  unfold okH at hx
  have w1 : IntKind.i64.wrap (IntKind.i64.wrap ((W.length : Int) - (j : Int)) - 1) = W.length - j - 1 := by rw [Go.IntWalk.i64_in ((W.length : Int) - (j : Int)) (by omega), Go.IntWalk.i64_in _ (by omega)]
  have gx : ∀ {o : AObj}, MapI.get (MapI.set (MapI.set h4 c4 o) c4 (.cells true true (yu (yR (V.agg (hdV hd0))) 0 (hdV x)))) c4 = some (.cells true true (hdV x)) := zt _ _ _
  by_cases h3 : x.size >= (W.length : Int) - j
  ·have e3 : decide (x.size > IntKind.i64.wrap (IntKind.i64.wrap ((W.length : Int) - (j : Int)) - 1)) = true := by rw [w1]; simp; omega
   have eo : j4 W j = none := by
    unfold j4; rw [if_pos ⟨by omega, by omega⟩, show ((j : Nat) : Int).toNat = j from by simp, hw]; simp only [hr]; rw [if_neg (by omega)]
   repeat' (first | apply zw | apply zy | apply zK | refine za rfl rfl (fun _ => rfl) ?_ | refine zb rfl rfl (fun _ => rfl) ?_ | refine zL rfl rfl (yM rfl ⟨(by simp [InR, Acc.name, Acc.writes, zS] <;> omega), ?_⟩) | refine zL rfl rfl (ya (k := 4) rfl rfl rfl rfl (zt _ _ _) (zf rfl) rfl ⟨(by simp [InR, Acc.name, Acc.writes, zS] <;> omega), ?_⟩) | refine zO rfl rfl (zW rfl rfl rfl gx rfl ⟨(by simp [InR, Acc.name, Acc.writes, zS] <;> omega), ?_⟩) | refine zO rfl rfl (zW rfl rfl rfl hobj5 rfl ⟨(by simp [InR, Acc.name, Acc.writes, zS] <;> omega), ?_⟩))
   simp only [e3]
   skip
   refine zN (jY (by simp only [List.nil_append, List.cons_append, jX, List.any_nil, List.any_cons, yw, Bool.or_self])) ?_
   repeat' (first | refine zU ?_)
   refine ze rfl ?_
   repeat' (first | apply zw | apply zx | apply zG | apply zK | refine za rfl rfl (fun _ => rfl) ?_ | refine yn ?_ | refine zL rfl rfl (ya (k := 4) rfl rfl rfl rfl (yP (by omega) hgc5) (zf rfl) rfl ⟨(by simp [InR, Acc.name, Acc.writes, zS] <;> omega), ?_⟩))
   refine jo (.cellA (k := 4) rfl rfl rfl rfl (zt _ _ _) rfl (.tmp rfl .nil)) ?_ ?_
   ·intro x hx; simp at hx; subst hx; exact ⟨.inr (Nat.le_refl _), fun h => by cases h⟩
   ·rw [eo]; rfl
  ·have e3 : decide (x.size > IntKind.i64.wrap (IntKind.i64.wrap ((W.length : Int) - (j : Int)) - 1)) = false := by rw [w1]; simp; omega
   have eo : j4 W j = some x := objW_mk hw hr (by omega)
   repeat' (first | apply zw | apply zy | apply zK | refine za rfl rfl (fun _ => rfl) ?_ | refine zb rfl rfl (fun _ => rfl) ?_ | refine zL rfl rfl (yM rfl ⟨(by simp [InR, Acc.name, Acc.writes, zS] <;> omega), ?_⟩) | refine zL rfl rfl (ya (k := 4) rfl rfl rfl rfl (zt _ _ _) (zf rfl) rfl ⟨(by simp [InR, Acc.name, Acc.writes, zS] <;> omega), ?_⟩) | refine zO rfl rfl (zW rfl rfl rfl gx rfl ⟨(by simp [InR, Acc.name, Acc.writes, zS] <;> omega), ?_⟩) | refine zO rfl rfl (zW rfl rfl rfl hobj5 rfl ⟨(by simp [InR, Acc.name, Acc.writes, zS] <;> omega), ?_⟩))
   simp only [e3]
   skip
   refine zN (jY (by simp only [List.nil_append, List.cons_append, jX, List.any_nil, List.any_cons, yw, Bool.or_self])) ?_
   repeat' (first | refine zU ?_)
   refine zd rfl ?_
   repeat' (first | apply zw | apply zx | apply zz | apply zG | apply zK | refine za rfl rfl (fun _ => rfl) ?_ | refine zL rfl rfl (yC (k := 4) rfl rfl rfl rfl gx rfl ⟨(by simp [InR, Acc.name, Acc.writes, zS] <;> omega), ?_⟩) | refine zL rfl rfl (ya (k := 4) rfl rfl rfl rfl (yP (by omega) hgc5) (zf rfl) rfl ⟨(by simp [InR, Acc.name, Acc.writes, zS] <;> omega), ?_⟩))
   refine jo (.cellA (k := 4) rfl rfl rfl rfl (zt _ _ _) rfl (.tmp rfl .nil)) ?_ ?_
   ·intro x hx; simp at hx; subst hx; exact ⟨.inr (Nat.le_refl _), fun h => by cases h⟩
   ·rw [eo]; rfl
theorem rtake_ok {n : Int} {m : Nat} (r : ArAt h c a vW W size) (hn : n = m) (hle : (W.length : Int) + m <= size) : Does 61 [.ptr (some (a, 0)), I n] h c (an a vW) fun v h' c' => v = .tuple [I W.length, .bool true] /\ ∃ vW', ArAt h' c' a vW' (W ++ List.replicate m 0) size /\ ∀ x ∈ zS vW', x ∈ zS vW \/ c <= x := by
 have hobj := r.obj
 have hna := r.na
 have hmx := r.mx
 have hlw := r.w
 obtain ⟨s, cap, rfl, hs⟩ := r.w.shape
 have e1 : decide (n < 0) = false := by simp; omega
 have w1 : IntKind.i64.wrap (size - (W.length : Int)) = size - W.length := Go.IntWalk.i64_in _ (by omega)
 have e2 : decide (n > IntKind.i64.wrap (size - (W.length : Int))) = false := by rw [w1]; simp; omega
 refine yi (enter (fn := Tryz.f61) Tryz.func61 rfl rfl (zf rfl) ?_)
 repeat' (first | apply zw | apply zx | apply zy | apply zK | refine za rfl rfl (fun _ => rfl) ?_ | refine zb rfl rfl (fun _ => rfl) ?_)
 simp only [e1]
 repeat' (first | refine zb rfl rfl (fun _ => rfl) ?_ | refine zO rfl rfl (zW rfl rfl rfl hobj rfl ⟨(by simp [zc] <;> omega), ?_⟩))
 simp only [e2]
 skip
 refine zN (jY (by simp only [List.nil_append, List.cons_append, jX, List.any_nil, List.any_cons, yw, Bool.or_self])) ?_
 repeat' (first | refine zU ?_)
 refine zd rfl ?_
 repeat' (first | apply zw | apply zx | apply zz | apply zK | refine za rfl rfl (fun _ => rfl) ?_ | refine zL rfl rfl (zW rfl rfl rfl hobj rfl ⟨(by simp [zc] <;> omega), ?_⟩))
 refine zL rfl rfl (append_make (α := Int) (k := 0) (cells := ye) (xs := W) (ys := List.replicate m 0) (n := m) rfl hn rfl ⟨rfl, rfl, rfl, ⟨_, rfl, by decide⟩⟩ rfl ?_ yq jx (by simp) hlw (by omega) (fun x hx => ⟨?_, ?_⟩) ?_ fun v' h4 c4 r4 hn4 hc4 hfr4 => ?_)
 ·rw [<- reps_word]; rfl
 ·exact .inl (by simp [Acc.name, hx])
 ·exact .inl (by simp [Acc.name, hx])
 ·exact .inr (Nat.le_refl _)
 have hobj4 : MapI.get h4 a = some (.cells true true [.slice s W.length cap, I size]) := by
  rw [hfr4 a (by have := r.la; omega) (fun hh => hna a hh rfl)]; exact hobj
 obtain ⟨ho1, ho2⟩ := r4.one
 repeat' (first | apply zw | apply zx | apply zG | apply zK | refine za rfl rfl (fun _ => rfl) ?_ | refine zL rfl rfl (ya (k := 1) rfl rfl rfl (by rw [ho1]; rfl) hobj4 (zf rfl) (by rw [ho1]; simp [ho2]) ⟨(by simp [zc] <;> omega), ?_⟩))
 have hna' : ∀ x ∈ zS v', x ≠ a := fun x hx => by
  rcases hn4 x hx with h | ⟨h, _⟩
  ·exact hna x h
  ·have := r.la; omega
 refine z6 rfl ⟨rfl, v', ⟨?_, ?_, ?_, hna', ?_, ?_, hmx⟩, fun x hx => ?_⟩
 ·rw [zt, ho1]; rfl
 ·refine r4.keep (Nat.le_refl _) fun x _ hx => zu _ _ _ _ (Ne.symm (hna' x hx))
 ·have := r.la; omega
 ·intro x hx
  rcases zk hx with h | h
  ·exact r.ok x h
  ·rw [List.eq_of_mem_replicate h]; exact ⟨by decide, by decide⟩
 ·rw [zr, List.length_replicate]; push_cast; omega
 ·rcases hn4 x hx with h | ⟨h, _⟩
  ·exact .inl h
  ·exact .inr (by omega)
theorem rcopy_ok (rr : RowOf 1 ye h c vR R) (hlen : R.length <= 1000000000) : Does 97 [vR] h c (zS vR) fun v h' c' => ListOf 1 ye h' c' v R /\ (∀ n ∈ zS v, c <= n) /\ ∀ n, n < c -> MapI.get h' n = MapI.get h n := by
 have hlt := rr.lt
 obtain ⟨b, cap, rfl, hrow⟩ := rr.shape
 have hsub : SubOf 1 ye h c (.slice b R.length cap) R := by
  by_cases e : R.length = 0
  ·have hR : R = [] := List.length_eq_zero_iff.1 e
   subst hR
   exact .inl ⟨b, cap, rfl, rfl, hlt⟩
  ·obtain ⟨m, cl, junk, rfl, hm, hg⟩ := hrow 0 (by omega)
   refine .inr ⟨m, 0, cap, true, cl, _, rfl, hm, hg, ?_⟩
   have := flat_take (cells := ye) yq R R.length (Nat.le_refl _) junk
   rwa [List.take_length] at this
 refine yi (enter (fn := Tryz.f97) Tryz.func97 rfl rfl (zf rfl) ?_)
 repeat' (first | apply zw | apply zx | apply zK | refine za rfl rfl (fun _ => rfl) ?_)
 refine zL rfl rfl (WpX.mono (qh (k := 0) (cells := ye) (L := InL (zS (V.slice b R.length cap)) c) (K := fun v h' c' _ => ListOf 1 ye h' c' v R /\ (∀ n ∈ zS v, c <= n) /\ (∀ n, n < c -> MapI.get h' n = MapI.get h n) /\ c <= c') (v := .slice none 0 (.known 0)) (xs := []) rfl rfl ⟨rfl, rfl, rfl, ⟨_, rfl, by decide⟩⟩ rfl yq jx .nil hsub (by simp; omega) (fun n hn => .inl hn) (fun n hn => by cases hn) (.inr (Nat.le_refl _)) fun v' h' c' al hl hn hc hf _ => ⟨by simpa using hl, fun n hn' => ?_, fun n hn' => hf n (by omega) (fun hh => by cases hh), hc⟩) fun v h' c' al ⟨q1, q2⟩ => ⟨q1, ?_⟩)
 ·rcases hn n hn' with h | ⟨h, _⟩
  ·cases h
  ·omega
 obtain ⟨q3, q4, q5, q6⟩ := q2
 repeat' (first | apply zG | apply zK | refine za rfl rfl (fun _ => rfl) ?_)
 exact z6 rfl ⟨q3, q4, q5⟩
theorem robjects_ok {l : List (Nat × Hd)} (r : ArAt h c a vW W size) (ho : ObjsFrom W 0 l) : Does 65 [.ptr (some (a, 0))] h c (an a vW) fun v h' c' => ∃ vL, v = .tuple [vL, .bool true] /\ ListOf 1 yG h' c' vL (places l) /\ (∀ n ∈ zS vL, c <= n) /\ ∀ n, n < c -> MapI.get h' n = MapI.get h n := by
 have hmx := r.mx
 have hle := r.le
 have hla := r.la
 have hokW := r.ok
 refine yi (enter (fn := Tryz.f65) Tryz.func65 rfl rfl (zf rfl) ?_)
 repeat' (first | apply zw | apply zx | apply zB | apply zK | refine za rfl rfl (fun _ => rfl) ?_)
 refine zI ?_
 refine zQ (X := Nat × V × List (Nat × Hd) × List (Nat × Hd)) (fun x e h' c' => (∃ b0, e = MapI.set (MapI.set (MapI.set b0 0 (.ptr (some (a, 0)))) 4 x.2.1) 5 (I x.1)) /\ l = x.2.2.1 ++ x.2.2.2 /\ ObjsFrom W x.1 x.2.2.2 /\ ListOf (0 + 1) yG h' c' x.2.1 (places x.2.2.1) /\ (∀ n ∈ zS x.2.1, c <= n) /\ c <= c' /\ ∀ n, n < c -> MapI.get h' n = MapI.get h n)
  (fun x => x.2.2.2.length) ?_ (0, .slice none 0 (.known 0), [], l) _ _ _ ⟨set3 rfl rfl rfl, rfl, ho, .nil, fun n hn => (by cases hn), Nat.le_refl _, fun n _ => rfl⟩
 rintro ⟨i, v, done, todo⟩ e h' c' ⟨⟨b0, rfl⟩, hl, ht, hv, hn, hc, hfr⟩
 simp only at hl ht hv hn
 have r' := r.same hc hfr
 have htl := jS ht
 have hdl : done.length <= W.length := by have := jS ho; rw [hl, zr] at this; omega
 have hobj' := r'.obj
 obtain ⟨s0, cap0, rfl, hs0⟩ := r'.w.shape
 repeat' (first | apply zw | apply zx | apply zK | refine za rfl rfl (fun _ => rfl) ?_ | refine zU ?_ | refine zL rfl rfl (zW rfl rfl rfl hobj' rfl ⟨(by simp [zc] <;> omega), ?_⟩))
 refine zH rfl (fun hlt => ?_) (fun hge => ?_)
 case refine_2 =>
  have hge : W.length <= i := by simpa using hge
  cases ht with
  | nil =>
   repeat' (first | apply zw | apply zx | apply zF | apply zG | apply zK | refine za rfl rfl (fun _ => rfl) ?_)
   rw [List.append_nil] at hl
   subst hl
   exact z6 rfl ⟨_, rfl, hv, hn, hfr⟩
  | cons hx ht =>
   obtain ⟨j, w, e, hw, _, _, _⟩ := yJ hx
   have := (zj hw).1
   omega
 have hlt : i < W.length := by simpa using hlt
 generalize hi : i = i' at ht
 cases ht with
 | nil => omega
 | @cons _ x todo hx ht =>
 subst hi
 obtain ⟨j, w, ej, hw, hr, hsz, hxok⟩ := yJ hx
 have hji : j = i := by omega
 subst hji
 have hokw : okW w := hokW w (zo hw)
 obtain ⟨rfl, sn, cl, junk, rfl, hsn, hg, hjk⟩ := hs0 j (zj hw).1
 have hz : nth (flat ye W ++ junk) (0 + ((j : Nat) : Int).toNat * 1) = some (U w) := by
  rw [show 0 + ((j : Nat) : Int).toNat * 1 = j from by simp]; exact yB yq hw rfl junk
 unfold okH at hxok
 have w0 : IntKind.i64.wrap ((j : Int) + 1) = j + 1 := Go.IntWalk.i64_in _ (by omega)
 have w2 : IntKind.i64.wrap (IntKind.i64.wrap ((j : Int) + 1) + x.size) = ((j + 1 + x.size.toNat : Nat) : Int) := by rw [w0, Go.IntWalk.i64_in _ (by omega)]; omega
 have w3 : IntKind.i64.wrap (IntKind.i64.wrap ((W.length : Int) - (j : Int)) - 1) = W.length - j - 1 := by rw [Go.IntWalk.i64_in ((W.length : Int) - (j : Int)) (by omega), Go.IntWalk.i64_in _ (by omega)]
 have e3 : decide (x.size > IntKind.i64.wrap (IntKind.i64.wrap ((W.length : Int) - (j : Int)) - 1)) = false := by rw [w3]; simp; omega
 repeat' (first | apply zw | apply zx | apply zz | apply zB | refine za rfl rfl (fun _ => rfl) ?_ | refine zL rfl rfl (zW rfl rfl rfl hobj' rfl ⟨(by simp [zc] <;> omega), ?_⟩) | refine zL rfl rfl (zZ (k := 1) rfl rfl rfl rfl ⟨by omega, by omega⟩ ⟨(by simp [zc] <;> omega), ?_⟩) | refine zL rfl rfl (zW rfl rfl rfl hg hz ⟨(by simp [zc] <;> omega), ?_⟩))
 refine zL rfl rfl (yg rfl (rread_okR hokw) (fun n hn => by cases hn) (by omega) fun v4 h4 c4 hc4 hfr4 hq => ?_)
 rw [hr] at hq
 subst hq
 have hgx : ∀ {o p : AObj}, MapI.get (MapI.set (MapI.set h4 c4 o) c4 p) c4 = some p := zt _ _ _
 have hobj4 : ∀ {o p : AObj}, MapI.get (MapI.set (MapI.set h4 c4 o) c4 p) a = some (.cells true true [.slice (some (sn, 0)) W.length (.upTo 1), I size]) := fun {o p} => by
  rw [zu _ _ _ _ (by omega), zu _ _ _ _ (by omega), hfr4 a (by omega)]; exact hobj'
 have hv4 : ∀ {o p q : AObj}, ListOf (0 + 1) yG (MapI.set (MapI.set (MapI.set h4 c4 o) c4 p) (c4 + 1) q) (c4 + 1 + 1) v (places done) := fun {o p q} => hv.keep (by omega) fun n hn _ => by
  rw [zu _ _ _ _ (by omega), zu _ _ _ _ (by omega), zu _ _ _ _ (by omega)]; exact hfr4 n hn
 have hb4 : ∀ {g : HH} {q : AObj}, MapI.get (MapI.set g (c4 + 1) q) (c4 + 1) = some q := zt _ _ _
 have hvl := hv.lt
 repeat' (first | apply zw | apply zy | apply zK | refine za rfl rfl (fun _ => rfl) ?_ | refine zb rfl rfl (fun _ => rfl) ?_ | refine zL rfl rfl (yM rfl ⟨(by simp [zc] <;> omega), ?_⟩) | refine zL rfl rfl (ya (k := 4) rfl rfl rfl rfl (zt _ _ _) (zf rfl) rfl ⟨(by simp [zc] <;> omega), ?_⟩) | refine zO rfl rfl (zW rfl rfl rfl hgx rfl ⟨(by simp [zc] <;> omega), ?_⟩) | refine zO rfl rfl (zW rfl rfl rfl hobj4 rfl ⟨(by simp [zc] <;> omega), ?_⟩))
 simp only [e3]
 skip
 refine zN (jY (by simp only [List.nil_append, List.cons_append, jX, List.any_nil, List.any_cons, yw, Bool.or_self])) ?_
 repeat' (first | refine zU ?_)
 refine zd rfl ?_
 repeat' (first | apply zw | apply zx | apply zz | refine za rfl rfl (fun _ => rfl) ?_ | refine zL rfl rfl (yy (k := 1) rfl rfl rfl rfl (by decide) rfl ⟨(by simp [zc] <;> omega), ?_⟩))
 refine zL rfl rfl (qC (y := (j : Int)) rfl rfl ⟨rfl, rfl, rfl, ⟨_, rfl, by decide⟩⟩ rfl je qP hv4 hb4 (by simp only [List.length_map]; omega) (by omega) (fun n h => .inr (hn n h)) (by omega) fun v5 h5 c5 r5 hn5 hc5 hf5 => ?_)
 have hgx5 : MapI.get h5 c4 = some (.cells true true (hdV x)) := by
  rw [hf5 c4 (by omega) (fun hm => by have := hvl c4 hm; omega), zu _ _ _ _ (by omega)]; exact zt _ _ _
 repeat' (first | apply zx | apply zK | refine za rfl rfl (fun _ => rfl) ?_ | refine zU ?_ | refine js ?_ | refine zL rfl rfl (zW rfl rfl rfl hgx5 rfl ⟨(by simp [zc] <;> omega), ?_⟩))
 refine ⟨(j + 1 + x.size.toNat, v5, done ++ [(j, x)], todo), by simp only [List.length_cons]; omega, ?_, by simp [hl], ht, ?_, fun n h => ?_, by omega, fun n h => ?_⟩
 ·rw [w2]
  exact set3 rfl rfl rfl
 ·simpa [places] using r5
 ·rcases hn5 n h with h | h
  ·exact hn n h
  ·omega
 ·rw [hf5 n (by omega) (fun hm => by have := hn n hm; omega), zu _ _ _ _ (by omega), zu _ _ _ _ (by omega), zu _ _ _ _ (by omega), hfr4 n (by omega)]
  exact hfr n h
theorem rfresh_ok {x : Hd} (r : ArAt h c a vW W size) (hx : okH x) (hle : (W.length : Int) + 1 + x.size <= size) : Does 42 [.ptr (some (a, 0)), .agg (hdV x)] h c (an a vW) fun v h' c' => v = .tuple [U (jQ W.length), .bool true] /\ ∃ vW', ArAt h' c' a vW' (W ++ makeW x :: List.replicate x.size.toNat 0) size /\ ∀ n ∈ zS vW', n ∈ zS vW \/ c <= n := by
 have hok := hx
 unfold okH at hok
 have hmx := r.mx
 have w1 : IntKind.i64.wrap ((1 : Int) + x.size) = 1 + x.size := Go.IntWalk.i64_in _ (by omega)
 have hnm := r.names
 refine yi (enter (fn := Tryz.f42) Tryz.func42 rfl rfl (zf rfl) ?_)
 repeat' (first | apply zw | apply zx | apply zK | refine za rfl rfl (fun _ => rfl) ?_ | refine zL rfl rfl (yK rfl ⟨(by simp [zc] <;> omega), ?_⟩) | refine zL rfl rfl (yC rfl rfl rfl rfl (zt _ _ _) rfl ⟨(by simp [zc] <;> omega), ?_⟩))
 refine zL rfl rfl (yj rfl (rmake_ok hx) (fun n hn => by cases hn) (by omega) fun v4 h4 c4 hc4 hf4 hq => ?_)
 subst hq
 repeat' (first | apply zw | apply zx | apply zK | refine za rfl rfl (fun _ => rfl) ?_)
 refine zL rfl rfl (yg rfl (qS (gq hx)) (fun n hn => by cases hn) (by omega) fun v5 h5 c5 hc5 hf5 hq => ?_)
 obtain ⟨rfl, rfl, rfl⟩ := hq
 rw [kC]
 have hg4 : MapI.get h4 c = some (.cells true true (hdV x)) := by rw [hf4 c (by omega) (fun hh => by cases hh)]; exact zt _ _ _
 have r4 : ArAt h4 c4 a vW W size := r.same (by omega) fun n hn => by rw [hf4 n (by omega) (fun hh => by cases hh)]; exact zu _ _ _ _ (by omega)
 repeat' (first | apply zK | refine za rfl rfl (fun _ => rfl) ?_ | refine zU ?_)
 refine zd rfl ?_
 repeat' (first | apply zw | apply zx | apply zz | refine za rfl rfl (fun _ => rfl) ?_ | refine zL rfl rfl (zW rfl rfl rfl hg4 rfl ⟨(by simp [zc] <;> omega), ?_⟩))
 refine zL rfl rfl (yj rfl (rtake_ok r4 (m := x.size.toNat + 1) (by rw [w1]; omega) (by omega)) (fun n hn => .inl hn) (by omega) fun v6 h6 c6 hc6 hf6 hq => ?_)
 obtain ⟨rfl, vW', r6, hn6⟩ := hq
 repeat' (first | apply zw | apply zx | apply zK | refine za rfl rfl (fun _ => rfl) ?_ | refine zU ?_)
 refine zd rfl ?_
 have hobj6 := r6.obj
 have hna6 := r6.na
 obtain ⟨s6, cap6, rfl, hs6⟩ := r6.w.shape
 have hl6 : (W ++ List.replicate (x.size.toNat + 1) 0).length = W.length + (x.size.toNat + 1) := by simp
 obtain ⟨rfl, sn, cl, junk, rfl, hsn, hg6, hjk⟩ := hs6 W.length (by rw [hl6]; omega)
 have hne : sn ≠ a := hna6 sn (by simp [zS])
 have hbound : 0 + ((W.length : Nat) : Int).toNat * 1 + 1 <= (flat ye (W ++ List.replicate (x.size.toNat + 1) 0) ++ junk).length := by
  rw [zr, yv yq, hl6]; simp; omega
 have hsn6 : sn ∈ an a vW \/ c <= sn := by
  rcases hn6 sn (by simp [zS]) with h | h
  ·exact .inl (zg _ h)
  ·exact .inr (by omega)
 have ha6 : a ∈ an a vW \/ c <= a := .inl (zq ..)
 repeat' (first | refine zL rfl rfl (ya (k := 1) rfl rfl rfl rfl hg6 hbound rfl ⟨fun y hy => by simp at hy; rcases hy with rfl | rfl <;> exact hsn6, ?_⟩) | refine zL rfl rfl (zW rfl rfl rfl hobj6 rfl ⟨fun y hy => by simp at hy; subst hy; exact ha6, ?_⟩) | apply zw | apply zx | apply zz | apply zK | refine za rfl rfl (fun _ => rfl) ?_ | refine zL rfl rfl (zZ (k := 1) rfl rfl rfl rfl ⟨by omega, by rw [hl6]; omega⟩ ⟨(by simp [zc] <;> omega), ?_⟩))
 have r7 : ArAt (MapI.set h6 sn (.cells true cl (yu (flat ye (W ++ List.replicate (x.size.toNat + 1) 0) ++ junk) (0 + ((W.length : Nat) : Int).toNat * 1) (yR (U (makeW x)))))) c6 a (.slice (some (sn, 0)) (W ++ List.replicate (x.size.toNat + 1) 0).length (.upTo 1)) (W ++ makeW x :: List.replicate x.size.toNat 0) size := by
  have hl := ListOf.set (k := 1) (cells := ye) yq (h := h6) (m := sn) (cl := cl) (junk := junk) (xs := W ++ List.replicate (x.size.toNat + 1) 0) (i := W.length) (z := makeW x) hsn hjk (by rw [hl6]; omega)
  have he : yu (flat ye (W ++ List.replicate (x.size.toNat + 1) 0) ++ junk) (0 + ((W.length : Nat) : Int).toNat * 1) (yR (U (makeW x))) = yu (flat ye (W ++ List.replicate (x.size.toNat + 1) 0) ++ junk) (W.length * 1) (ye (makeW x)) := by
   rw [show 0 + ((W.length : Nat) : Int).toNat * 1 = W.length * 1 from by simp]; rfl
  rw [he]
  rw [set_app_len] at hl
  have e2 : (W ++ List.replicate (x.size.toNat + 1) 0).length = (W ++ makeW x :: List.replicate x.size.toNat 0).length := by simp
  refine ⟨yP hne hobj6, by rw [e2]; simpa [e2] using hl, r6.la, hna6, fun y hy => ?_, by rw [<- e2]; exact r6.le, hmx⟩
  rcases zk hy with h | h
  ·exact r.ok y h
  ·rcases zl h with h | h
   ·rw [h]; exact gq hx
   ·rw [List.eq_of_mem_replicate h]; exact ⟨by decide, by decide⟩
 have hWl := r.le
 refine zL rfl rfl (yg rfl (qU (by decide) (by unfold jD; omega)) (fun n hn => by cases hn) (by omega) fun v8 h8 c8 hc8 hf8 hq => ?_)
 obtain ⟨rfl, rfl, rfl⟩ := hq
 repeat' (first | apply zG | apply zK | refine za rfl rfl (fun _ => rfl) ?_)
 refine z6 rfl ⟨rfl, _, r7, fun n hn => ?_⟩
 rcases hn6 n hn with h | h
 ·exact .inl h
 ·exact .inr (by omega)
end
open Go.Ab
section
variable {α : Type} {k : Nat} {cells : α -> List V} {h h' : HH} {c c' : Nat} {e : EE}
theorem flat_mid (hk : ∀ x, (cells x).length = k) (xs : List α) (i j : Nat) (hij : i <= j) (h : j <= xs.length) (junk : List V) : cut (flat cells xs ++ junk) (i * k) ((j - i) * k) = some (flat cells ((xs.drop i).take (j - i))) := by
 have e : flat cells xs = flat cells (xs.take i) ++ (flat cells ((xs.drop i).take (j - i)) ++ flat cells ((xs.drop i).drop (j - i))) := by
  rw [<- jn, <- jn, List.take_append_drop, List.take_append_drop]
 have hl : (flat cells (xs.take i)).length = i * k := by rw [yv hk, List.length_take, Nat.min_eq_left (by omega)]
 have hl2 : (flat cells ((xs.drop i).take (j - i))).length = (j - i) * k := by rw [yv hk, List.length_take, List.length_drop, Nat.min_eq_left (by omega)]
 unfold cut
 rw [if_pos (by rw [zr, e, zr, zr, hl, hl2]; omega), e, List.append_assoc, <- hl, List.drop_left, List.append_assoc, <- hl2, List.take_left]
variable {call : Nat -> Tgt -> List V -> M HH V} {W : V -> HH -> Nat -> List Acc -> Prop} {ds : Option Tmp} {ty : Nat} {pos : String} {af : Array Edge} {gd : Option (Nat × Bool)}
theorem op_mid {t el : Nat} {x y z : Operand} {v : V} {xs : List α} {i j : Nat} {ik jk : IntKind} {iz jz : Int} (r : ListOf (k + 1) cells h c v xs) (hk : ∀ x, (cells x).length = k + 1) (hx : ev1 cx e x = some v) (hy : ev1 cx e y = some (.int ik iz)) (hi : iz = i) (hz : ev1 cx e z = some (.int jk jz)) (hj : jz = j) (hd : cx.desc t = some (.slice el)) (hs : cx.size el = some (k + 1)) (hij : i <= j) (hle : j <= xs.length)
  (q : ∀ w, SubOf (k + 1) cells h c w ((xs.drop i).take (j - i)) -> (∀ n ∈ zS w, n ∈ zS v) -> W w h c []) : WpX (fun k => opM cx (call k) e ⟨ds, .slice t x (some y) (some z) none, ty, pos, af, gd⟩) h c W := by
 have hyo : evO cx e (some y) = some (some (.int ik iz)) := by simp only [evO, hy]
 have hzo : evO cx e (some z) = some (some (.int jk jz)) := by simp only [evO, hz]
 rcases r with ⟨rfl, rfl⟩ | ⟨s, cl, junk, rfl, h2, h3, h4⟩
 ·have hj0 : j = 0 := by simpa using hle
  have hi0 : i = 0 := by omega
  exact kg hx hyo hzo hd hs (l := 0) (jq (by rw [hi, hi0])) (jq (by rw [hj, hj0])) rfl (q _ (.inl ⟨none, .known 0, rfl, by simp, fun n hn => by cases hn⟩) (fun n hn => by cases hn))
 ·refine qp (k := k) hx hyo hzo hd hs (jq hi) (jq hj) hij hle rfl (q _ ?_ (fun n hn => by simpa [zS] using hn))
  have hl : ((xs.drop i).take (j - i)).length = j - i := by rw [List.length_take, List.length_drop, Nat.min_eq_left (by omega)]
  refine .inr ⟨s, i * (k + 1), .upTo (k + 1), true, cl, _, ?_, h2, h3, ?_⟩
  ·rw [hl]; simp
  ·rw [hl]
   exact flat_mid hk xs i j hij hle junk
end
section
variable {h h' : HH} {c c' a : Nat} {vW vR : V} {W R : List Int} {size : Int}
theorem ke {x : Hd} : DoesR 67 [.agg (hdV x)] h c [] fun v h' c' => v = I (yc x) := by
 have hg : MapI.get (MapI.set h c (.cells true true (hdV x))) c = some (.cells true true (hdV x)) := zt _ _ _
 refine yN (enter (fn := Tryz.f67) Tryz.func67 rfl rfl (zf rfl) ?_)
 unfold yc
 by_cases h0 : x.kind = 0
 ·have e0 : (x.kind == 0) = true := by simp [h0]
  repeat' (first | apply zw | apply zx | apply zB | apply zK | refine za rfl rfl (fun _ => rfl) ?_ | refine zU ?_ | refine zL rfl rfl (yK rfl ⟨(by simp [InR, Acc.name, Acc.writes, zS] <;> omega), ?_⟩) | refine zL rfl rfl (zW rfl rfl rfl hg rfl ⟨(by simp [InR, Acc.name, Acc.writes, zS] <;> omega), ?_⟩))
  refine zH rfl (fun _ => ?_) (fun hb => by rw [e0] at hb; cases hb)
  repeat' (first | apply zw | apply zx | apply zG | apply zK | refine za rfl rfl (fun _ => rfl) ?_ | refine yn ?_ | refine qr ?_)
  rw [if_pos h0]
  exact z6 rfl rfl
 have e0 : (x.kind == 0) = false := beq_eq_false_iff_ne.2 h0
 by_cases h1 : x.kind = 1
 ·have e1 : (x.kind == 1) = true := by simp [h1]
  repeat' (first | apply zw | apply zx | apply zB | apply zK | refine za rfl rfl (fun _ => rfl) ?_ | refine zU ?_ | refine zL rfl rfl (yK rfl ⟨(by simp [InR, Acc.name, Acc.writes, zS] <;> omega), ?_⟩) | refine zL rfl rfl (zW rfl rfl rfl hg rfl ⟨(by simp [InR, Acc.name, Acc.writes, zS] <;> omega), ?_⟩))
  refine zH rfl (fun hb => by rw [e0] at hb; cases hb) (fun _ => ?_)
  repeat' (first | apply zw | apply zx | apply zK | refine za rfl rfl (fun _ => rfl) ?_ | refine zU ?_)
  refine zH rfl (fun _ => ?_) (fun hb => by rw [e1] at hb; cases hb)
  repeat' (first | apply zw | apply zx | apply zG | apply zK | refine za rfl rfl (fun _ => rfl) ?_ | refine yn ?_ | refine qr ?_ | refine zL rfl rfl (zW rfl rfl rfl hg rfl ⟨(by simp [InR, Acc.name, Acc.writes, zS] <;> omega), ?_⟩))
  rw [if_neg h0, if_pos h1]
  exact z6 rfl rfl
 have e1 : (x.kind == 1) = false := beq_eq_false_iff_ne.2 h1
 repeat' (first | apply zw | apply zx | apply zB | apply zK | refine za rfl rfl (fun _ => rfl) ?_ | refine zU ?_ | refine zL rfl rfl (yK rfl ⟨(by simp [InR, Acc.name, Acc.writes, zS] <;> omega), ?_⟩) | refine zL rfl rfl (zW rfl rfl rfl hg rfl ⟨(by simp [InR, Acc.name, Acc.writes, zS] <;> omega), ?_⟩))
 refine zH rfl (fun hb => by rw [e0] at hb; cases hb) (fun _ => ?_)
 repeat' (first | apply zw | apply zx | apply zK | refine za rfl rfl (fun _ => rfl) ?_ | refine zU ?_)
 refine zH rfl (fun hb => by rw [e1] at hb; cases hb) (fun _ => ?_)
 repeat' (first | apply zw | apply zx | apply zz | apply zG | apply zK | refine za rfl rfl (fun _ => rfl) ?_)
 rw [if_neg h0, if_neg h1]
 exact z6 rfl rfl
set_option maxHeartbeats 1000000 in
theorem mlive_ok {l : List (Nat × Hd)} (r : ArAt h c a vW W size) (rr : RowOf 1 ye h c vR R) (hRok : ∀ w ∈ R, okW w) (hRl : R.length <= 100000000) (so : SoundW W R l) :
  Does 82 [.ptr (some (a, 0)), vR] h c (an a vW ++ zS vR) fun v h' c' => ∃ vL, v = .tuple [vL, .bool true] /\ ListOf 1 yG h' c' vL (places (zX W l R)) /\ (∀ n ∈ zS vL, c <= n) /\ ∀ n, n < c -> MapI.get h' n = MapI.get h n := by
 have hmx := r.mx
 have hle := r.le
 have hokW := r.ok
 have hsub1 : ∀ n ∈ an a vW, n ∈ an a vW ++ zS vR \/ c <= n := fun n hn => .inl (zh _ hn)
 have hsub2 : ∀ n ∈ zS vR, n ∈ an a vW ++ zS vR \/ c <= n := fun n hn => .inl (zi _ hn)
 refine yi (enter (fn := Tryz.f82) Tryz.func82 rfl rfl (zf rfl) ?_)
 have hobj := r.obj
 obtain ⟨s0, cap0, hvW, _⟩ := r.w.shape
 rw [hvW] at hobj
 have hz0 : jT cx 4 W.length = some (flat jb (List.replicate W.length false)) := by rw [<- kK]; rfl
 have hrr1 : RowOf 1 ye (MapI.set h c (AObj.cells true true (flat jb (List.replicate W.length false)))) (c + 1) vR R := rr.keep (by omega) fun n hn _ => zu _ _ _ _ (by omega)
 repeat' (first | apply zw | apply zx | apply zK | refine za rfl rfl (fun _ => rfl) ?_ | refine zL rfl rfl (zW rfl rfl rfl hobj rfl ⟨(by simp [zc] <;> omega), ?_⟩) | refine zL rfl rfl (qV rfl rfl rfl hz0 ⟨_, rfl, by decide⟩ ⟨Nat.le_refl _, by omega⟩ ⟨(by simp [zc] <;> omega), ?_⟩))
 refine zL rfl rfl (yj rfl (rcopy_ok hrr1 (by omega)) hsub2 (by omega) fun vT h1 c1 hc1 _ hq => ?_)
 obtain ⟨hT1, hTn, hf1⟩ := hq
 have hI1 : MapI.get h1 c = some (AObj.cells true true (flat jb (jm W.length []))) := by
  rw [hf1 c (by omega), zt, marks_nil]
 have hfc : ∀ n, n < c -> MapI.get h1 n = MapI.get h n := fun n hn => by rw [hf1 n (by omega)]; exact zu _ _ _ _ (by omega)
 generalize hvS : V.slice (some (c, 0)) W.length (.known W.length) = vS
 repeat' (first | refine zJ (a := Code.block 0 _) (fun e' h' c' => ∃ S, (∃ b0, e' = FR b0 [(6, vS)]) /\ Search W l R S [] /\ c + 1 <= c' /\ MapI.get h' c = some (AObj.cells true true (flat jb (jm W.length S))) /\ (∀ n, n < c -> MapI.get h' n = MapI.get h n)) ?_ ?_ | apply zB | apply zK | refine za rfl rfl (fun _ => rfl) ?_)
 ·subst hvS
  refine zI ?_
  refine zQ (X := List Nat × List Int × V) (fun x e' h' c' => (∃ b0, e' = FR b0 [(0, V.ptr (some (a, 0))), (6, .slice (some (c, 0)) W.length (.known W.length)), (7, x.2.2)]) /\ Search W l R x.1 x.2.1 /\ TodoOf h' c' x.2.2 x.2.1 /\ (∀ n ∈ zS x.2.2, c + 1 <= n) /\ (∀ w ∈ x.2.1, okW w) /\ x.2.1.length <= R.length + (x.1.map (nf W)).sum /\ c + 1 <= c' /\ MapI.get h' c = some (AObj.cells true true (flat jb (jm W.length x.1))) /\ (∀ n, n < c -> MapI.get h' n = MapI.get h n))
   (fun x => (W.length - x.1.length) * (W.length + 2) + x.2.1.length) ?_ ([], R, vT) _ _ _ ⟨fr ⟨rfl, rfl, rfl, trivial⟩, Search.start so, .inl hT1, hTn, hRok, by simp, by omega, hI1, hfc⟩
  rintro ⟨S, T, vT⟩ e' h' c' ⟨⟨b0, rfl⟩, hs, hT, hTn, hTok, hTl, hc', hI, hf⟩
  simp only at hs hT hTn hTok hTl hI
  have hS1 := hs.sum so
  have hS2 := hs.small so
  by_cases hemp : T = []
  ·subst hemp
   obtain ⟨b, cap, rfl⟩ : ∃ b cap, vT = .slice b 0 cap := by
    rcases hT with h | ⟨_, h⟩
    ·obtain ⟨s, cap, rfl, _⟩ := h.shape; exact ⟨s, cap, rfl⟩
    ·exact h
   repeat' (first | apply zw | apply zx | apply zK | refine za rfl rfl (fun _ => rfl) ?_ | refine zU ?_)
   refine zd rfl ?_
   repeat' (first | apply zF | refine zU ?_ | refine ji ?_ | refine jr rfl ?_)
   refine ⟨S, fr ?_, hs, hc', hI, hf⟩
   exact ⟨rfl, trivial⟩
  obtain ⟨T, w, rfl⟩ : ∃ T' w, T = T' ++ [w] := ⟨T.dropLast, T.getLast hemp, (List.dropLast_concat_getLast hemp).symm⟩
  have hTL : ListOf 1 ye h' c' vT (T ++ [w]) := by
   rcases hT with h | ⟨h, _⟩
   ·exact h
   ·exact absurd h hemp
  obtain ⟨s0, cap0, rfl, hs0⟩ := hTL.shape
  obtain ⟨rfl, sn, cl, junk, rfl, hsn, hg, hjk⟩ := hs0 0 (by simp)
  have hlen : (T ++ [w]).length = T.length + 1 := by simp
  rw [hlen] at hTl
  have hokw := hTok w (by simp)
  have hsnc : c + 1 <= sn := hTn sn (by simp [zS])
  have egt : decide (((T ++ [w]).length : Int) > 0) = true := decide_eq_true (by omega)
  have wl : IntKind.i64.wrap (((T ++ [w]).length : Int) - 1) = (T.length : Int) := by rw [hlen, Go.IntWalk.i64_in _ (by omega)]; omega
  have hz : nth (flat ye (T ++ [w]) ++ junk) (0 + (IntKind.i64.wrap (((T ++ [w]).length : Int) - 1)).toNat * 1) = some (U w) := by
   rw [wl, show 0 + ((T.length : Nat) : Int).toNat * 1 = T.length from by simp]; exact yB yq (by simp) rfl junk
  repeat' (first | apply zw | apply zx | apply zK | refine za rfl rfl (fun _ => rfl) ?_ | refine zU ?_)
  refine zH rfl (fun _ => ?_) (fun hb => by rw [egt] at hb; cases hb)
  repeat' (first | apply zw | apply zx | apply zz | apply zB | apply zK | refine za rfl rfl (fun _ => rfl) ?_ | refine zL rfl rfl (zZ (k := 1) rfl rfl rfl rfl ⟨by rw [wl]; omega, by rw [wl, hlen]; omega⟩ ⟨(by simp [zc] <;> omega), ?_⟩) | refine zL rfl rfl (zW rfl rfl rfl hg hz ⟨(by simp [zc] <;> omega), ?_⟩) | refine zL rfl rfl (qp (k := 0) (l := 0) (u := T.length) rfl rfl rfl rfl rfl rfl (jq wl) (Nat.zero_le _) (by rw [hlen]; omega) rfl ⟨(by simp [zc] <;> omega), ?_⟩))
  have hTc : ListOf 1 ye h' c' (.slice (some (sn, 0)) T.length (.upTo 1)) T := by
   have := ww (h := h') (c := c') (m := sn) (cl := cl) (junk := junk) (xs := T ++ [w]) (i := T.length) yq jx hsn hg hjk (by rw [hlen]; omega)
   rwa [List.take_left] at this
  have hTok' : ∀ w ∈ T, okW w := fun x hx => hTok x (by simp [hx])
  refine zL rfl rfl (yg rfl (qS hokw) (fun n hn => by cases hn) (by omega) fun v4 h4 c4 hc4 _ hq => ?_)
  obtain ⟨rfl, rfl, rfl⟩ := hq
  by_cases t5 : yL w = 5
  case neg =>
   have e5 : (yL w != 5) = true := by simpa using t5
   repeat' (first | apply zK | refine za rfl rfl (fun _ => rfl) ?_ | refine zU ?_)
   refine zH rfl (fun _ => ?_) (fun hb => by rw [e5] at hb; cases hb)
   repeat' (first | apply zF | refine zU ?_ | refine ji ?_ | refine jr rfl ?_)
   refine ⟨(S, T, .slice (some (sn, 0)) T.length (.upTo 1)), by simp only [hlen]; omega, fr ⟨rfl, rfl, rfl, trivial⟩, hs.drop fun p h _ => absurd h t5, .inl hTc, hTn, hTok', by simp only; omega, hc', hI, hf⟩
  have e5 : (yL w != 5) = false := by simpa using t5
  repeat' (first | apply zK | refine za rfl rfl (fun _ => rfl) ?_ | refine zU ?_)
  refine zH rfl (fun hb => by rw [e5] at hb; cases hb) (fun _ => ?_)
  obtain ⟨⟨p, x⟩, hxm, hvp⟩ := (hs.todo w (by simp)).1.2.2 t5
  have hvp : yI w = ((p : Nat) : Int) := hvp
  repeat' (first | apply zw | apply zx | apply zz | refine za rfl rfl (fun _ => rfl) ?_)
  refine zL rfl rfl (yg rfl (rval_okR hokw) (fun n hn => by cases hn) (by omega) fun v4 h4 c4 hc4 _ hq => ?_)
  obtain ⟨rfl, rfl, rfl⟩ := hq
  rw [hvp]
  repeat' (first | apply zw | apply zx | apply zK | refine za rfl rfl (fun _ => rfl) ?_)
  have hr' := r.same (h' := h') (c' := c') (by omega) hf
  refine zL rfl rfl (yg rfl (we hr') hsub1 (by omega) fun v4 h4 c4 hc4 hf4 hq => ?_)
  have hob : j4 W ((p : Nat) : Int) = some x := (so.objs.mem _ hxm).2
  rw [hob] at hq
  subst hq
  obtain ⟨jj, w', ej, hw', _, hsz, hxok⟩ := yJ hob
  have hfs : yc x <= x.size := so.le _ hxm
  have hf0 := gj hxok
  unfold okH at hxok
  have hpl : p < W.length := by
   have := (zj hw').1
   omega
  repeat' (first | apply zw | apply zx | apply zK | refine za rfl rfl (fun _ => rfl) ?_ | refine zU ?_ | refine zL rfl rfl (yM rfl ⟨(by simp [zc] <;> omega), ?_⟩) | refine zL rfl rfl (ya (k := 4) rfl rfl rfl rfl (zt _ _ _) (zf rfl) rfl ⟨(by simp [zc] <;> omega), ?_⟩))
  refine zd rfl ?_
  have hI4 : ∀ {o q : AObj}, MapI.get (MapI.set (MapI.set h4 c4 o) c4 q) c = some (AObj.cells true true (flat jb (jm W.length S))) := fun {o q} => by
   rw [zu _ _ _ _ (by omega), zu _ _ _ _ (by omega), hf4 c (by omega)]; exact hI
  have hf4' : ∀ {o q : AObj}, ∀ n, n < c -> MapI.get (MapI.set (MapI.set h4 c4 o) c4 q) n = MapI.get h n := fun {o q} n hn => by
   rw [zu _ _ _ _ (by omega), zu _ _ _ _ (by omega), hf4 n (by omega)]; exact hf n hn
  have hT4 : ∀ {o q : AObj}, ListOf 1 ye (MapI.set (MapI.set h4 c4 o) c4 q) (c4 + 1) (.slice (some (sn, 0)) T.length (.upTo 1)) T := fun {o q} => hTc.keep (by omega) fun n hn _ => by
   rw [zu _ _ _ _ (by omega), zu _ _ _ _ (by omega), hf4 n (by omega)]
  have hzS : nth (flat jb (jm W.length S)) (0 + ((p : Nat) : Int).toNat * 1) = some (.bool (S.contains p)) := by
   rw [show 0 + ((p : Nat) : Int).toNat * 1 = p from by simp]
   have := yB (cells := jb) jW (qI S hpl) rfl []
   rwa [List.append_nil] at this
  repeat' (first | apply zw | apply zx | apply zz | apply zK | refine za rfl rfl (fun _ => rfl) ?_ | refine zU ?_ | refine zL rfl rfl (zZ (k := 1) rfl rfl rfl rfl ⟨by omega, by omega⟩ ⟨(by simp [zc] <;> omega), ?_⟩) | refine zL rfl rfl (zW rfl rfl rfl hI4 hzS ⟨(by simp [zc] <;> omega), ?_⟩))
  refine zH rfl (fun hin => ?_) (fun hin => ?_)
  ·have hin : p ∈ S := by simpa using hin
   repeat' (first | apply zF | refine zU ?_ | refine ji ?_ | refine jr rfl ?_)
   refine ⟨(S, T, .slice (some (sn, 0)) T.length (.upTo 1)), by simp only [hlen]; omega, fr ⟨rfl, rfl, rfl, trivial⟩, hs.drop fun q _ hq => ?_, .inl hT4, hTn, hTok', by simp only; omega, by omega, hI4, hf4'⟩
   have : q = p := by omega
   rw [this]; exact hin
  have hin : p ∉ S := by simpa using hin
  have hbS : 0 + ((p : Nat) : Int).toNat * 1 + 1 <= (flat jb (jm W.length S)).length := by
   rw [yv jW, jK]; omega
  have hgx : ∀ {o q z : AObj}, MapI.get (MapI.set (MapI.set (MapI.set h4 c4 o) c4 q) c z) c4 = some q := fun {o q z} => by
   rw [zu _ _ _ _ (by omega)]; exact zt _ _ _
  have hmin : (if x.size < yc x then x.size else yc x) = yc x := if_neg (by omega)
  repeat' (first | apply zw | apply zx | apply zy | apply zz | apply zK | refine za rfl rfl (fun _ => rfl) ?_ | refine zL rfl rfl (zZ (k := 1) rfl rfl rfl rfl ⟨by omega, by omega⟩ ⟨(by simp [zc] <;> omega), ?_⟩) | refine zL rfl rfl (ya (k := 1) rfl rfl rfl rfl hI4 hbS rfl ⟨(by simp [zc] <;> omega), ?_⟩) | refine zO rfl rfl (yC (k := 4) rfl rfl rfl rfl hgx rfl ⟨(by simp [zc] <;> omega), ?_⟩))
  refine zO rfl rfl (jy rfl (ke (x := x)) (fun n hn => by cases hn) (by omega) fun v5 h5 c5 al hal hc5 hf5 hq => ?_)
  subst hq
  have hgx5 : MapI.get h5 c4 = some (.cells true true (hdV x)) := by
   rw [hf5 c4 (by omega)]; exact hgx
  have hal' : ∀ x ∈ al, c4 = x.name -> x.writes = false := fun x hx e => by
   cases hw : x.writes with
   | false => rfl
   | true => have := (hal x hx).2 hw; omega
  repeat' (first | refine zO rfl rfl (op_min rfl hmin ⟨zV, ?_⟩) | refine zb rfl rfl (fun _ => rfl) ?_ | refine zO rfl rfl (zW rfl rfl rfl hgx5 rfl ⟨(by simp [zc] <;> omega), ?_⟩))
  refine zN (ym (cs := [0, 1, 0, 4, 15, 31]) (by decide +kernel) ?_) ?_
  ·simp +contextual [jt, apP, Dis, yF, yE, yw, yA, Nat.testBit, hal']
  have hT5 : ListOf (0 + 1) ye h5 c5 (.slice (some (sn, 0)) T.length (.upTo 1)) T := hTc.keep (by omega) fun n hn hm => by
    have hm : n ∈ [sn] := hm
    have : n = sn := by simpa using hm
    subst this
    rw [hf5 n (by omega), zu _ _ _ _ (by omega), zu _ _ _ _ (by omega), zu _ _ _ _ (by omega), hf4 n (by omega)]
  have hI5 : MapI.get h5 c = some (AObj.cells true true (flat jb (jm W.length (p :: S)))) := by
   rw [hf5 c (by omega), zt]
   have h1 := qt (cells := jb) (k := 1) jW (junk := []) (z := true) (xs := jm W.length S) (i := p) (by rw [jK]; exact hpl)
   rw [List.append_nil, List.append_nil, marks_set _ hpl] at h1
   refine congrArg (fun z => some (AObj.cells true true z)) ?_
   rw [show 0 + ((p : Nat) : Int).toNat * 1 = p * 1 from by simp]
   exact h1
  have hf5' : ∀ n, n < c -> MapI.get h5 n = MapI.get h n := fun n hn => by
   rw [hf5 n (by omega), zu _ _ _ _ (by omega)]; exact hf4' n hn
  have hnfp : nf W p = (yc x).toNat := by unfold nf; rw [hob]
  have hmk := hs.mark (fs := (W.drop (p + 1)).take (yc x).toNat) so t5 hvp hxm hin fun w' => by
   rw [List.mem_iff_getElem?]
   constructor
   ·rintro ⟨k, hk⟩
    rw [List.getElem?_take] at hk
    split at hk
    ·rw [List.getElem?_drop] at hk; exact ⟨k, by omega, hk⟩
    ·cases hk
   ·rintro ⟨k, hk, hw⟩
    exact ⟨k, by rw [List.getElem?_take, if_pos (by omega), List.getElem?_drop]; exact hw⟩
  have hS3 := hmk.small so
  have hS4 := hmk.sum so
  simp only [List.length_cons] at hS3
  simp only [List.map_cons, List.sum_cons, hnfp] at hS4
  have r5' := r.same (h' := h5) (c' := c5) (by omega) hf5'
  have hobj5 := r5'.obj
  have hW5 := r5'.w
  have wa : IntKind.i64.wrap ((p : Int) + 1) = ((p + 1 : Nat) : Int) := by rw [Go.IntWalk.i64_in _ (by omega)]; omega
  have wb : IntKind.i64.wrap (IntKind.i64.wrap ((p : Int) + 1) + yc x) = ((p + 1 + (yc x).toNat : Nat) : Int) := by rw [wa, Go.IntWalk.i64_in _ (by omega)]; omega
  repeat' (first | apply zx | refine za rfl rfl (fun _ => rfl) ?_ | refine zL rfl rfl (zW rfl rfl rfl hobj5 rfl ⟨(by simp [zc] <;> omega), ?_⟩))
  refine zL rfl rfl (op_mid (k := 0) (cells := ye) (i := p + 1) (j := p + 1 + (yc x).toNat) hW5 yq rfl rfl wa rfl wb rfl rfl (by omega) (by omega) fun wS hsub hwn => ⟨zV, ?_⟩)
  rw [show p + 1 + (yc x).toNat - (p + 1) = (yc x).toNat from by omega] at hsub
  have hln : ((W.drop (p + 1)).take (yc x).toNat).length = (yc x).toNat := by rw [List.length_take, List.length_drop]; omega
  skip
  refine zL rfl rfl (WpX.mono (qh (k := 0) (cells := ye) (L := InL (an a vW ++ zS vR) c) (K := fun v h'' c'' _ => ListOf 1 ye h'' c'' v (T ++ (W.drop (p + 1)).take (yc x).toNat) /\ (∀ n ∈ zS v, c + 1 <= n) /\ c5 <= c'' /\ MapI.get h'' c = some (AObj.cells true true (flat jb (jm W.length (p :: S)))) /\ ∀ n, n < c -> MapI.get h'' n = MapI.get h n) rfl rfl ⟨rfl, rfl, rfl, ⟨_, rfl, by decide⟩⟩ rfl yq jx hT5 hsub (by rw [hln]; omega) (fun n hn => .inl (zh _ (zg _ (hwn n hn)))) (fun n hn => by
   have := hTn n hn
   exact ⟨.inr (by show c <= n; omega), .inr (by show c <= n; omega)⟩) (.inr (by show c <= c5; omega)) fun v' h'' c'' al hl hn hc'' hf'' _ => ⟨hl, fun n hn' => ?_, hc'', ?_, fun n hn' => ?_⟩) fun v h'' c'' al ⟨q1, q2⟩ => ⟨q1, ?_⟩)
  ·rcases hn n hn' with h | ⟨h, _⟩
   ·exact hTn n h
   ·omega
  ·rw [hf'' c (by omega) (fun hh => by have := hTn c hh; omega)]; exact hI5
  ·rw [hf'' n (by omega) (fun hh => by have := hTn n hh; omega)]; exact hf5' n hn'
  obtain ⟨hTk, hvn, hck, hIk, hfk⟩ := q2
  repeat' (first | apply zK | refine za rfl rfl (fun _ => rfl) ?_ | refine zU ?_ | refine js ?_)
  refine ⟨(p :: S, T ++ (W.drop (p + 1)).take (yc x).toNat, v), ?_, fr ⟨rfl, rfl, rfl, trivial⟩, hmk, .inl hTk, hvn, fun w hw => ?_, ?_, by omega, hIk, hfk⟩
  ·simp only [zr, List.length_cons, List.length_nil]
   rw [hln]
   obtain ⟨u, hu⟩ : ∃ u, W.length - S.length = u + 1 := ⟨W.length - S.length - 1, by omega⟩
   rw [hu, show W.length - (S.length + 1) = u from by omega, Nat.succ_mul]
   omega
  ·rcases zk hw with h | h
   ·exact hTok' w h
   ·exact hokW w (List.mem_of_mem_drop (List.mem_of_mem_take h))
  ·simp only [zr, List.map_cons, List.sum_cons, hnfp]
   rw [hln]
   omega
 rintro e h2 c2 ⟨S, ⟨b0, rfl⟩, hs, hc2, hI2, hf2⟩
 subst hvS
 have hpl := hs.places so
 repeat' (first | apply zw | apply zx | apply zB | apply zK | refine za rfl rfl (fun _ => rfl) ?_)
 refine zI ?_
 refine zQ (X := Nat × V) (fun y e' h' c' => (∃ b0, e' = FR b0 [(6, .slice (some (c, 0)) W.length (.known W.length)), (13, y.2), (14, I y.1)]) /\ y.1 <= W.length /\ ListOf (0 + 1) yG h' c' y.2 (((List.range y.1).filter fun i => S.contains i).map fun i : Nat => (i : Int)) /\ (∀ n ∈ zS y.2, c2 <= n) /\ c2 <= c' /\ ∀ n, n < c2 -> MapI.get h' n = MapI.get h2 n)
  (fun y => W.length - y.1) ?_ (0, .slice none 0 (.known 0)) _ _ _ ⟨fr ⟨rfl, rfl, rfl, trivial⟩, Nat.zero_le _, .nil, fun n hn => (by cases hn), Nat.le_refl _, fun _ _ => rfl⟩
 rintro ⟨k, v⟩ e' h' c' ⟨⟨b0, rfl⟩, hk, hl, hvn, hc', hf⟩
 simp only at hk hl hvn
 repeat' (first | apply zw | apply zx | apply zK | refine za rfl rfl (fun _ => rfl) ?_ | refine zU ?_)
 refine zH rfl (fun hlt => ?_) (fun hge => ?_)
 case refine_2 =>
  have hge : W.length <= k := by simpa using hge
  have hke : k = W.length := by omega
  subst hke
  rw [hpl, List.map_map] at hl
  repeat' (first | apply zw | apply zx | apply zF | apply zG | apply zK | refine za rfl rfl (fun _ => rfl) ?_)
  exact z6 rfl ⟨v, rfl, hl, fun n hn => (by have := hvn n hn; omega), fun n hn => by rw [hf n (by omega)]; exact hf2 n hn⟩
 have hlt : k < W.length := by simpa using hlt
 have hI' : MapI.get h' c = some (AObj.cells true true (flat jb (jm W.length S))) := by rw [hf c (by omega)]; exact hI2
 have hzS : nth (flat jb (jm W.length S)) (0 + ((k : Nat) : Int).toNat * 1) = some (.bool (S.contains k)) := by
  rw [show 0 + ((k : Nat) : Int).toNat * 1 = k from by simp]
  have := yB (cells := jb) jW (qI S hlt) rfl []
  rwa [List.append_nil] at this
 have wk : IntKind.i64.wrap ((k : Int) + 1) = ((k + 1 : Nat) : Int) := by rw [Go.IntWalk.i64_in _ (by omega)]; omega
 have hrs : (List.range (k + 1)).filter (fun i => S.contains i) = (List.range k).filter (fun i => S.contains i) ++ (if S.contains k then [k] else []) := by
  rw [List.range_succ, List.filter_append]
  congr 1
  rw [List.filter_cons, List.filter_nil]
 have hll : ((List.range k).filter fun i => S.contains i).length <= k := by
  have := List.length_filter_le (fun i => S.contains i) (List.range k)
  simpa using this
 repeat' (first | apply zw | apply zx | apply zz | apply zB | apply zK | refine za rfl rfl (fun _ => rfl) ?_ | refine zU ?_ | refine zL rfl rfl (zZ (k := 1) rfl rfl rfl rfl ⟨by omega, by omega⟩ ⟨(by simp [zc] <;> omega), ?_⟩) | refine zL rfl rfl (zW rfl rfl rfl hI' hzS ⟨(by simp [zc] <;> omega), ?_⟩))
 refine zH rfl (fun hin => ?_) (fun hin => ?_)
 ·
  repeat' (first | apply zx | refine za rfl rfl (fun _ => rfl) ?_ | refine zL rfl rfl (yy (k := 1) rfl rfl rfl rfl (by decide) rfl ⟨(by simp [zc] <;> omega), ?_⟩))
  have hvlt := hl.lt
  have hl2 : ∀ {o : AObj}, ListOf (0 + 1) yG (MapI.set h' c' o) (c' + 1) v (((List.range k).filter fun i => S.contains i).map fun i : Nat => (i : Int)) := fun {o} => hl.keep (by omega) fun n hn _ => zu _ _ _ _ (by omega)
  refine zL rfl rfl (qC (y := (k : Int)) rfl rfl ⟨rfl, rfl, rfl, ⟨_, rfl, by decide⟩⟩ rfl je qP hl2 (zt _ _ _) (by rw [List.length_map]; omega) (by omega) (fun n h => .inr (by have := hvn n h; omega)) (by omega) fun v5' h5' c5' r5 hn5 hc5' hf5n => ?_)
  repeat' (first | apply zx | apply zK | refine za rfl rfl (fun _ => rfl) ?_ | refine zU ?_)
  refine ⟨(k + 1, v5'), by simp only; omega, ?_, by simp only; omega, ?_, fun n h => ?_, by omega, fun n h => ?_⟩
  ·rw [wk]
   exact fr ⟨rfl, rfl, rfl, trivial⟩
  ·simp only [hrs, hin, if_true, List.map_append, List.map_cons, List.map_nil]
   exact r5
  ·rcases hn5 n h with h | h
   ·exact hvn n h
   ·omega
  ·rw [hf5n n (by omega) (fun hm => by have := hvn n hm; omega), zu _ _ _ _ (by omega)]; exact hf n h
 ·
  repeat' (first | apply zx | apply zz | apply zK | refine za rfl rfl (fun _ => rfl) ?_ | refine zU ?_)
  refine ⟨(k + 1, v), by simp only; omega, ?_, by simp only; omega, ?_, hvn, hc', hf⟩
  ·rw [wk]
   exact fr ⟨rfl, rfl, rfl, trivial⟩
  ·simp only [hrs, hin, Bool.false_eq_true, if_false, List.append_nil]
   exact hl
end
open Go.Ab
section
variable {h h' : HH} {c c' a : Nat} {vW vR : V} {W R : List Int} {size : Int} {l : List (Nat × Hd)}
def qe (W : List Int) (o : Nat × Hd) : List Int := (W.drop (o.1 + 1)).take (yc o.2).toNat
theorem flds_ok (so : SoundW W R l) {o : Nat × Hd} (ho : o ∈ l) {w : Int} (hw : w ∈ qe W o) : okField l w /\ w ∈ W := by
 refine ⟨?_, List.mem_of_mem_drop (List.mem_of_mem_take hw)⟩
 obtain ⟨k, hk⟩ := List.mem_iff_getElem?.1 hw
 unfold qe at hk
 rw [List.getElem?_take] at hk
 split at hk
 ·rw [List.getElem?_drop] at hk
  exact so.fields o ho k w (by omega) hk
 ·cases hk
theorem flds_sum {i : Nat} (r : ObjsFrom W i l) (hle : ∀ p ∈ l, yc p.2 <= p.2.size) : (l.flatMap (qe W)).length + i <= W.length := by
 induction r with
 | nil => simp
 | cons hx r ih =>
  rename_i i x l
  have h1 := ih fun p hp => hle p (zg _ hp)
  have h2 : yc x <= x.size := hle _ (zq ..)
  have h3 : (qe W (i, x)).length <= (yc x).toNat := by
   unfold qe; rw [List.length_take]; exact Nat.min_le_left _ _
  rw [List.flatMap_cons, zr]
  omega
theorem flds_take (so : SoundW W R l) (i : Nat) : ((l.take i).flatMap (qe W)).length <= W.length := by
 have h1 := flds_sum so.objs so.le
 have e : (l.flatMap (qe W)).length = ((l.take i).flatMap (qe W)).length + ((l.drop i).flatMap (qe W)).length := by
  rw [<- zr, <- List.flatMap_append, List.take_append_drop]
 omega
set_option maxHeartbeats 2000000 in
theorem msound_ok (r : ArAt h c a vW W size) (rr : RowOf 1 ye h c vR R) (hRok : ∀ w ∈ R, okW w) (hRl : R.length <= 100000000) (so : SoundW W R l) :
  Does 81 [.ptr (some (a, 0)), vR] h c (an a vW ++ zS vR) fun v h' c' => v = .bool true /\ ∀ n, n < c -> MapI.get h' n = MapI.get h n := by
 have hmx := r.mx
 have hle := r.le
 have hokW := r.ok
 have hsub1 : ∀ n ∈ an a vW, n ∈ an a vW ++ zS vR \/ c <= n := fun n hn => .inl (zh _ hn)
 have hsub2 : ∀ n ∈ zS vR, n ∈ an a vW ++ zS vR \/ c <= n := fun n hn => .inl (zi _ hn)
 have hll := jS so.objs
 refine yi (enter (fn := Tryz.f81) Tryz.func81 rfl rfl (zf rfl) ?_)
 repeat' (first | apply zw | apply zx | apply zK | refine za rfl rfl (fun _ => rfl) ?_)
 refine zL rfl rfl (yj rfl (robjects_ok r so.objs) hsub1 (Nat.le_refl _) fun v1 h1 c1 hc1 _ hq => ?_)
 obtain ⟨vL, rfl, hL1, hLn, hf1⟩ := hq
 repeat' (first | apply zw | apply zx | apply zK | refine za rfl rfl (fun _ => rfl) ?_ | refine zU ?_)
 refine zd rfl ?_
 repeat' (first | apply zw | apply zx | apply zz | refine za rfl rfl (fun _ => rfl) ?_)
 refine zL rfl rfl (yj rfl (rcopy_ok (rr.keep hc1 fun n hn _ => hf1 n hn) (by omega)) hsub2 hc1 fun vT h2 c2 hc2 _ hq => ?_)
 obtain ⟨hT2, hTn2, hf2⟩ := hq
 have hr2 : ArAt h2 c2 a vW W size := r.same (by omega) fun n hn => by rw [hf2 n (by omega), hf1 n hn]
 have hobj2 := hr2.obj
 obtain ⟨s0, cap0, hvW, hs0⟩ := hr2.w.shape
 rw [hvW] at hobj2
 have hz0 : jT cx 4 W.length = some (flat jb (List.replicate W.length false)) := by rw [<- kK]; rfl
 have hLlt := hL1.lt
 obtain ⟨sL, capL, rfl, hsL⟩ := hL1.shape
 rw [List.length_map] at hsL
 have hlenL : (places l).length = l.length := List.length_map _
 have hTlt := hT2.lt
 repeat' (first | refine zJ (a := Code.seq (Code.region 6 _ _) _) (fun e' h' c' => ∃ vT, (∃ b0, e' = FR b0 [(7, vT), (8, V.slice (some (c2, 0)) W.length (.known W.length))]) /\ c2 + 1 <= c' /\ ListOf 1 ye h' c' vT (R ++ l.flatMap (qe W)) /\ MapI.get h' c2 = some (AObj.cells true true (flat jb (jm W.length (l.map Prod.fst).reverse))) /\ (∀ n ∈ zS vT, c1 <= n) /\ (∀ n, n < c1 -> MapI.get h' n = MapI.get h1 n)) ?_ ?_ | apply zw | apply zx | apply zB | apply zK | refine za rfl rfl (fun _ => rfl) ?_ | refine zL rfl rfl (zW rfl rfl rfl hobj2 rfl ⟨(by simp [zc] <;> omega), ?_⟩) | refine zL rfl rfl (qV rfl rfl rfl hz0 ⟨_, rfl, by decide⟩ ⟨Nat.le_refl _, by omega⟩ ⟨(by simp [zc] <;> omega), ?_⟩))
 ·
  skip
  refine zI ?_
  refine zQ (X := Nat × V) (fun y e' h' c' => (∃ b0, e' = FR b0 [(0, V.ptr (some (a, 0))), (5, .slice sL (places l).length capL), (7, y.2), (8, .slice (some (c2, 0)) W.length (.known W.length)), (9, I y.1)]) /\ y.1 <= l.length /\ c2 + 1 <= c' /\ ListOf (0 + 1) ye h' c' y.2 (R ++ (l.take y.1).flatMap (qe W)) /\ MapI.get h' c2 = some (AObj.cells true true (flat jb (jm W.length ((l.take y.1).map Prod.fst).reverse))) /\ (∀ n ∈ zS y.2, c1 <= n /\ n ≠ c2) /\ (∀ n, n < c1 -> MapI.get h' n = MapI.get h1 n))
   (fun y => l.length - y.1) ?_ (0, vT) _ _ _ ⟨fr ⟨rfl, rfl, rfl, rfl, rfl, trivial⟩, Nat.zero_le _, Nat.le_refl _, by rw [List.take_zero, List.flatMap_nil, List.append_nil]; exact hT2.keep (by omega) fun n hn _ => zu _ _ _ _ (by omega), by rw [zt, List.take_zero]; simp [marks_nil], fun n hn => ⟨hTn2 n hn, by have := hTlt n hn; omega⟩, fun n hn => by rw [zu _ _ _ _ (by omega)]; exact hf2 n hn⟩
  rintro ⟨i, vT⟩ e' h' c' ⟨⟨b0, rfl⟩, hi, hc', hT, hI, hTn, hf⟩
  simp only at hi hT hI hTn
  have hTlt := hT.lt
  repeat' (first | apply zw | apply zx | apply zK | refine za rfl rfl (fun _ => rfl) ?_ | refine zU ?_)
  rw [hlenL]
  refine zH rfl (fun hlt => ?_) (fun hge => ?_)
  case refine_2 =>
   have hge : l.length <= i := by simpa using hge
   rw [List.take_of_length_le hge] at hI hT
   repeat' (first | apply zF | refine zU ?_ | refine ji ?_ | refine jr rfl ?_)
   refine ⟨vT, fr ?_, hc', hT, hI, fun n hn => (hTn n hn).1, hf⟩
   exact ⟨rfl, rfl, trivial⟩
  have hlt : i < l.length := by simpa using hlt
  obtain ⟨⟨p, x⟩, hx⟩ : ∃ z, l[i]? = some z := ⟨_, zp hlt⟩
  have hxm := zo hx
  obtain ⟨rfl, sn, cl, junk, rfl, hsn, hg, _⟩ := hsL i hlt
  have hg' : MapI.get h' sn = _ := (hf sn hsn).trans hg
  have hsnc : c <= sn := hLn sn (by simp [zS])
  have hz : nth (flat yG (places l) ++ junk) (0 + ((i : Nat) : Int).toNat * 1) = some (I p) := by
   rw [show 0 + ((i : Nat) : Int).toNat * 1 = i from by simp]
   exact yB je (by rw [List.getElem?_map, hx]; rfl) rfl junk
  obtain ⟨jj, w', ej, hw', _, hsz, hxok⟩ := yJ (so.objs.mem _ hxm).2
  have ej : ((p : Nat) : Int) = jj := ej
  have hsz : (jj : Int) + 1 + x.size <= W.length := hsz
  have hfs : yc x <= x.size := so.le _ hxm
  have hf0 := gj hxok
  have hf0 : 0 <= yc x := hf0
  unfold okH at hxok
  have hxok : 0 <= x.kind /\ x.kind <= 3 /\ 0 <= x.size /\ x.size < 1048576 /\ 0 <= x.tree /\ x.tree < 1048576 := hxok
  have hpl : p < W.length := by omega
  have hw1 : IntKind.i64.wrap ((i : Int) + 1) = ((i + 1 : Nat) : Int) := by rw [Go.IntWalk.i64_in _ (by omega)]; omega
  have hb : 0 + ((p : Nat) : Int).toNat * 1 + 1 <= (flat jb (jm W.length ((l.take i).map Prod.fst).reverse)).length := by
   rw [yv jW, jK]; omega
  have hMs : yu (flat jb (jm W.length ((l.take i).map Prod.fst).reverse)) (0 + ((p : Nat) : Int).toNat * 1) (yR (.bool true)) = flat jb (jm W.length ((l.take (i + 1)).map Prod.fst).reverse) := by
   have h1 := qt (cells := jb) (k := 1) jW (junk := []) (z := true) (xs := jm W.length ((l.take i).map Prod.fst).reverse) (i := p) (by rw [jK]; exact hpl)
   rw [List.append_nil, List.append_nil, marks_set _ hpl] at h1
   rw [show l.take (i + 1) = l.take i ++ [(p, x)] from by rw [List.take_add_one, hx]; rfl, List.map_append, List.reverse_append]
   rw [show 0 + ((p : Nat) : Int).toNat * 1 = p * 1 from by simp]
   exact h1
  have hg3 : ∀ {o : AObj}, MapI.get (MapI.set h' c2 o) sn = some (.cells true cl (flat yG (places l) ++ junk)) := fun {o} => by
   rw [zu _ _ _ _ (by omega)]; exact hg'
  repeat' (first | apply zw | apply zx | apply zz | apply zB | apply zK | refine za rfl rfl (fun _ => rfl) ?_ | refine zL rfl rfl (zZ (k := 1) rfl rfl rfl rfl ⟨by omega, by first | omega | (rw [hlenL]; omega)⟩ ⟨(by simp [zc] <;> omega), ?_⟩) | refine zL rfl rfl (zW rfl rfl rfl hg' hz ⟨(by simp [zc] <;> omega), ?_⟩) | refine zL rfl rfl (ya (k := 1) rfl rfl rfl rfl hI hb rfl ⟨(by simp [zc] <;> omega), ?_⟩) | refine zL rfl rfl (zW rfl rfl rfl hg3 hz ⟨(by simp [zc] <;> omega), ?_⟩))
  rw [hMs]
  have hr3 : ArAt (MapI.set h' c2 (AObj.cells true true (flat jb (jm W.length ((l.take (i + 1)).map Prod.fst).reverse)))) c' a vW W size := r.same (by omega) fun n hn => by rw [zu _ _ _ _ (by omega), hf n (by omega), hf1 n hn]
  refine zL rfl rfl (yg rfl (we hr3) hsub1 (by omega) fun v4 h4 c4 hc4 hf4 hq => ?_)
  have hob : j4 W ((p : Nat) : Int) = some x := (so.objs.mem _ hxm).2
  rw [hob] at hq
  subst hq
  have hgx : ∀ {o p : AObj}, MapI.get (MapI.set (MapI.set h4 c4 o) c4 p) c4 = some p := zt _ _ _
  repeat' (first | apply zw | apply zy | apply zK | refine za rfl rfl (fun _ => rfl) ?_ | refine zL rfl rfl (yM rfl ⟨(by simp [zc] <;> omega), ?_⟩) | refine zL rfl rfl (ya (k := 4) rfl rfl rfl rfl (zt _ _ _) (zf rfl) rfl ⟨(by simp [zc] <;> omega), ?_⟩) | refine zO rfl rfl (yC (k := 4) rfl rfl rfl rfl hgx rfl ⟨(by simp [zc] <;> omega), ?_⟩))
  refine zO rfl rfl (jy rfl (ke (x := x)) (fun n hn => by cases hn) (by omega) fun v5 h5 c5 al hal hc5 hf5 hq => ?_)
  subst hq
  have hgx5 : MapI.get h5 c4 = some (.cells true true (hdV x)) := by
   rw [hf5 c4 (by omega)]; exact zt _ _ _
  have hal' : ∀ x ∈ al, c4 = x.name -> x.writes = false := fun x hx e => by
   cases hw : x.writes with
   | false => rfl
   | true => have := (hal x hx).2 hw; omega
  have e5 : decide (yc x > x.size) = false := by simpa using hfs
  repeat' (first | refine zb rfl rfl (fun _ => rfl) ?_ | refine zO rfl rfl (zW rfl rfl rfl hgx5 rfl ⟨(by simp [zc] <;> omega), ?_⟩))
  refine zN (ym (cs := [0, 1, 0, 4, 15]) (by decide +kernel) ?_) ?_
  ·simp +contextual [jt, apP, Dis, yF, yE, yw, yA, Nat.testBit, hal']
  repeat' (first | refine zU ?_)
  refine zH rfl (fun hb => by rw [e5] at hb; cases hb) (fun _ => ?_)
  -- what is behind here is zR it was ahead
  have hk5 : ∀ n, n < c' -> n ≠ c2 -> MapI.get h5 n = MapI.get h' n := fun n hn hne => by
   rw [hf5 n (by omega), zu _ _ _ _ (by omega), zu _ _ _ _ (by omega), hf4 n (by omega), zu _ _ _ _ (by omega)]
  have hI5 : MapI.get h5 c2 = some (AObj.cells true true (flat jb (jm W.length ((l.take (i + 1)).map Prod.fst).reverse))) := by
   rw [hf5 c2 (by omega), zu _ _ _ _ (by omega), zu _ _ _ _ (by omega), hf4 c2 (by omega)]; exact zt _ _ _
  have hr5 : ArAt h5 c5 a vW W size := r.same (by omega) fun n hn => by rw [hk5 n (by omega) (by omega), hf n (by omega), hf1 n hn]
  have hobj5 := hr5.obj
  have hg5 : MapI.get h5 sn = _ := (hk5 sn (by omega) (by omega)).trans hg'
  have hT5 : ListOf (0 + 1) ye h5 c5 vT (R ++ (l.take i).flatMap (qe W)) := hT.keep (by omega) fun n hn hm => hk5 n hn (hTn n hm).2
  have hac : a < c := r.la
  have hwp : IntKind.i64.wrap ((p : Int) + 1) = ((p + 1 : Nat) : Int) := by rw [Go.IntWalk.i64_in _ (by omega)]; omega
  have hwq : IntKind.i64.wrap (IntKind.i64.wrap ((p : Int) + 1) + yc x) = ((p + 1 + (yc x).toNat : Nat) : Int) := by rw [hwp, Go.IntWalk.i64_in _ (by omega)]; omega
  repeat' (first | apply zy | apply zz | refine zb rfl rfl (fun _ => rfl) ?_ | refine zO rfl rfl (zW rfl rfl rfl hobj5 rfl ⟨(by simp [zc] <;> omega), ?_⟩) | refine zO rfl rfl (zZ (k := 1) rfl rfl rfl rfl ⟨by omega, by first | omega | (rw [hlenL]; omega)⟩ ⟨(by simp [zc] <;> omega), ?_⟩) | refine zO rfl rfl (zW rfl rfl rfl hg5 hz ⟨(by simp [zc] <;> omega), ?_⟩) | refine zO rfl rfl (yC (k := 4) rfl rfl rfl rfl hgx5 rfl ⟨(by simp [zc] <;> omega), ?_⟩))
  refine zO rfl rfl (jy rfl (ke (x := x)) (fun n hn => by cases hn) (by omega) fun v6 h6 c6 al6 hal6 hc6 hf6 hq => ?_)
  subst hq
  have hr6 : ArAt h6 c6 a vW W size := hr5.same hc6 hf6
  have hT6 : ListOf (0 + 1) ye h6 c6 vT (R ++ (l.take i).flatMap (qe W)) := hT5.keep hc6 fun n hn _ => hf6 n hn
  have hW6 := hr6.w
  repeat' (first | refine zb rfl rfl (fun _ => rfl) ?_)
  refine zO rfl rfl (op_mid (k := 0) (cells := ye) (i := p + 1) (j := p + 1 + (yc x).toNat) hW6 yq rfl rfl hwp rfl hwq rfl rfl (by omega) (by omega) fun wS hsub hwn => ⟨zV, ?_⟩)
  rw [show p + 1 + (yc x).toNat - (p + 1) = (yc x).toNat from by omega] at hsub
  have hft := flds_take so i
  have hln : ((W.drop (p + 1)).take (yc x).toNat).length <= W.length := by rw [List.length_take, List.length_drop]; omega
  refine zO rfl rfl (qh (k := 0) (cells := ye) rfl rfl ⟨rfl, rfl, rfl, ⟨_, rfl, by decide⟩⟩ rfl yq jx hT6 hsub (by rw [zr]; omega) (fun n hn => .inl (zh _ (zg _ (hwn n hn)))) (fun n hn => by
   have := (hTn n hn).1
   exact ⟨.inr (by show c <= n; omega), .inr (by show c <= n; omega)⟩) (.inr (by show c <= c6; omega)) fun v7 h7 c7 al7 hT7 hn7 hc7 hf7 hal7 => ?_)
  have a1 : ∀ x ∈ al6, a = x.name -> x.writes = false := fun x hx e => by
   cases hw : x.writes with
   | false => rfl
   | true => have := (hal6 x hx).2 hw; omega
  have a2 : ∀ x ∈ al6, sn = x.name -> x.writes = false := fun x hx e => by
   cases hw : x.writes with
   | false => rfl
   | true => have := (hal6 x hx).2 hw; omega
  have a3 : ∀ x ∈ al6, c4 = x.name -> x.writes = false := fun x hx e => by
   cases hw : x.writes with
   | false => rfl
   | true => have := (hal6 x hx).2 hw; omega
  repeat' (first | refine zb rfl rfl (fun _ => rfl) ?_)
  refine zN (ym (cs := [0, 0, 2, 6, 14, 0, 0, 96, 224, 480, 0, 0, 3072, 7168, 15360, 0, 32768, 130048, 262142, 524287, 1048575]) (by decide +kernel) ?_) ?_
  ·simp +contextual [jt, apP, Dis, yF, yE, yw, yA, Nat.testBit, a1, a2, a3]
  repeat' (first | apply zx | apply zK | refine za rfl rfl (fun _ => rfl) ?_ | refine zU ?_)
  have hnT : ∀ n, n < c' -> n ∉ zS vT -> MapI.get h7 n = MapI.get h5 n := fun n hn hh => by
   rw [hf7 n (by omega) hh, hf6 n (by omega)]
  refine ⟨(i + 1, v7), by simp only; omega, ?_, by simp only; omega, by omega, ?_, ?_, fun n hn => ?_, fun n hn => ?_⟩
  ·rw [hw1]
   exact fr ⟨rfl, rfl, rfl, rfl, rfl, trivial⟩
  ·have e : (l.take (i + 1)).flatMap (qe W) = (l.take i).flatMap (qe W) ++ (W.drop (p + 1)).take (yc x).toNat := by
    rw [show l.take (i + 1) = l.take i ++ [(p, x)] from by rw [List.take_add_one, hx]; rfl, List.flatMap_append]
    simp [qe]
   simp only [e, <- List.append_assoc]
   exact hT7
  ·simp only
   rw [hnT c2 (by omega) (fun hh => (hTn c2 hh).2 rfl)]; exact hI5
  ·rcases hn7 n hn with h | ⟨h, _⟩
   ·exact hTn n h
   ·omega
  ·rw [hnT n (by omega) (fun hh => by have := (hTn n hh).1; omega), hk5 n (by omega) (by omega)]; exact hf n hn
 rintro e' h3 c3 ⟨vT, ⟨b0, rfl⟩, hc3, hT, hI, hTn, hf⟩
 have hft : (R ++ l.flatMap (qe W)).length <= R.length + W.length := by
  rw [zr]
  have := flds_take so l.length
  rw [List.take_length] at this
  omega
 have hall : ∀ w ∈ R ++ l.flatMap (qe W), okField l w /\ okW w := fun w hw => by
  rcases zk hw with h | h
  ·exact ⟨so.roots w h, hRok w h⟩
  ·obtain ⟨o, ho, hw⟩ := List.mem_flatMap.1 h
   obtain ⟨h1, h2⟩ := flds_ok so ho hw
   exact ⟨h1, hokW w h2⟩
 generalize R ++ l.flatMap (qe W) = T at hT hft hall
 have hTlt := hT.lt
 obtain ⟨sT, capT, rfl, hsT⟩ := hT.shape
 repeat' (first | apply zw | apply zx | apply zB | apply zK | refine za rfl rfl (fun _ => rfl) ?_)
 refine zI ?_
 refine zQ (X := Nat) (fun i e' h' c' => (∃ b0, e' = FR b0 [(7, .slice sT T.length capT), (8, .slice (some (c2, 0)) W.length (.known W.length)), (12, I i)]) /\ i <= T.length /\ h3 = h' /\ c3 = c')
  (fun i => T.length - i) ?_ 0 _ _ _ ⟨fr ⟨rfl, rfl, rfl, trivial⟩, Nat.zero_le _, rfl, rfl⟩
 rintro i e' h' c' ⟨⟨b0, rfl⟩, hi, rfl, rfl⟩
 repeat' (first | apply zw | apply zx | apply zK | refine za rfl rfl (fun _ => rfl) ?_ | refine zU ?_)
 refine zH rfl (fun hlt => ?_) (fun hge => ?_)
 case refine_2 =>
  repeat' (first | apply zw | apply zx | apply zF | apply zG | apply zK | refine za rfl rfl (fun _ => rfl) ?_)
  exact z6 rfl ⟨rfl, fun n hn => by rw [hf n (by omega)]; exact hf1 n hn⟩
 have hlt : i < T.length := by simpa using hlt
 obtain ⟨w, hw⟩ : ∃ z, T[i]? = some z := ⟨_, zp hlt⟩
 obtain ⟨hfw, hokw⟩ := hall w (zo hw)
 obtain ⟨rfl, sn, cl, junk, rfl, hsn, hg, _⟩ := hsT i hlt
 have hsnc : c1 <= sn := hTn sn (by simp [zS])
 have hz : nth (flat ye T ++ junk) (0 + ((i : Nat) : Int).toNat * 1) = some (U w) := by
  rw [show 0 + ((i : Nat) : Int).toNat * 1 = i from by simp]; exact yB yq hw rfl junk
 have hw1 : IntKind.i64.wrap ((i : Int) + 1) = ((i + 1 : Nat) : Int) := by rw [Go.IntWalk.i64_in _ (by omega)]; omega
 have e6 : (yL w == 6) = false := by simpa using hfw.1
 have e7 : (yL w == 7) = false := by simpa using hfw.2.1
 repeat' (first | apply zw | apply zx | apply zz | apply zB | refine za rfl rfl (fun _ => rfl) ?_ | refine zL rfl rfl (zZ (k := 1) rfl rfl rfl rfl ⟨by omega, by omega⟩ ⟨(by simp [zc] <;> omega), ?_⟩) | refine zL rfl rfl (zW rfl rfl rfl hg hz ⟨(by simp [zc] <;> omega), ?_⟩))
 refine zL rfl rfl (yg rfl (rval_okR hokw) (fun n hn => by cases hn) (by omega) fun v4 h4 c4 hc4 _ hq => ?_)
 obtain ⟨rfl, rfl, rfl⟩ := hq
 repeat' (first | apply zw | apply zx | apply zK | refine za rfl rfl (fun _ => rfl) ?_ | refine zL rfl rfl (zZ (k := 1) rfl rfl rfl rfl ⟨by omega, by omega⟩ ⟨(by simp [zc] <;> omega), ?_⟩) | refine zL rfl rfl (zW rfl rfl rfl hg hz ⟨(by simp [zc] <;> omega), ?_⟩))
 refine zL rfl rfl (yg rfl (qS hokw) (fun n hn => by cases hn) (by omega) fun v4 h4 c4 hc4 _ hq => ?_)
 obtain ⟨rfl, rfl, rfl⟩ := hq
 repeat' (first | apply zw | apply zx | apply zB | apply zK | refine za rfl rfl (fun _ => rfl) ?_ | refine zU ?_)
 refine zH rfl (fun hb => by rw [e6] at hb; cases hb) (fun _ => ?_)
 repeat' (first | apply zx | apply zK | refine za rfl rfl (fun _ => rfl) ?_ | refine zU ?_)
 refine zH rfl (fun hb => by rw [e7] at hb; cases hb) (fun _ => ?_)
 by_cases t5 : yL w = 5
 case neg =>
  have e5 : (yL w == 5) = false := by simpa using t5
  repeat' (first | apply zw | apply zx | apply zK | refine za rfl rfl (fun _ => rfl) ?_ | refine zU ?_)
  refine zH rfl (fun hb => by rw [e5] at hb; cases hb) (fun _ => ?_)
  repeat' (first | apply zx | apply zz | apply zK | refine za rfl rfl (fun _ => rfl) ?_ | refine zU ?_)
  refine ⟨i + 1, by omega, ?_, by omega, rfl, rfl⟩
  rw [hw1]
  exact fr ⟨rfl, rfl, rfl, trivial⟩
 have e5 : (yL w == 5) = true := by simpa using t5
 obtain ⟨⟨p, x⟩, hp, hv⟩ := hfw.2.2 t5
 have hv : yI w = ((p : Nat) : Int) := hv
 obtain ⟨jj, w', ej, hw', _⟩ := yJ (so.objs.mem _ hp).2
 have ej : ((p : Nat) : Int) = jj := ej
 have hpl : p < W.length := by
  have := (zj hw').1
  omega
 have f1 : decide (((p : Nat) : Int) < 0) = false := by simp
 have f2 : decide (((p : Nat) : Int) >= (W.length : Int)) = false := by simp; omega
 have hzI : nth (flat jb (jm W.length (l.map Prod.fst).reverse)) (0 + ((p : Nat) : Int).toNat * 1) = some (.bool true) := by
  rw [show 0 + ((p : Nat) : Int).toNat * 1 = p from by simp]
  have hmk : (jm W.length (l.map Prod.fst).reverse)[p]? = some true := by
   rw [qI _ hpl]
   simp only [List.contains_eq_mem, List.mem_reverse, List.mem_map, Option.some.injEq, decide_eq_true_eq]
   exact ⟨(p, x), hp, rfl⟩
  have := yB (cells := jb) jW hmk rfl []
  rwa [List.append_nil] at this
 repeat' (first | apply zw | apply zx | apply zK | refine za rfl rfl (fun _ => rfl) ?_ | refine zU ?_)
 refine zH rfl (fun _ => ?_) (fun hb => by rw [e5] at hb; cases hb)
 rw [hv]
 repeat' (first | apply zw | apply zx | refine za rfl rfl (fun _ => rfl) ?_)
 simp only [f1]
 skip
 simp only [f2]
 repeat' (first | apply zK | refine za rfl rfl (fun _ => rfl) ?_ | refine zU ?_ | refine zL rfl rfl (zZ (k := 1) rfl rfl rfl rfl ⟨by omega, by omega⟩ ⟨(by simp [zc] <;> omega), ?_⟩) | refine zL rfl rfl (zW rfl rfl rfl hI hzI ⟨(by simp [zc] <;> omega), ?_⟩))
 refine zd rfl ?_
 repeat' (first | apply zx | apply zz | apply zK | refine za rfl rfl (fun _ => rfl) ?_ | refine zU ?_)
 refine ⟨i + 1, by omega, ?_, by omega, rfl, rfl⟩
 rw [hw1]
 exact fr ⟨rfl, rfl, rfl, trivial⟩
end
open Go.Ab
section
variable {h h' : HH} {c c' hp a sp : Nat} {vW vR vX : V} {W R X : List Int} {size most : Int} {l : List (Nat × Hd)}
theorem fill_step {A : List Int} {w : Int} {X : List Int} {i : Nat} {x : Int} (hi : X[i]? = some x) : (A ++ w :: (X.take i ++ List.replicate (X.length - i) 0)).set (A.length + 1 + i) x = A ++ w :: (X.take (i + 1) ++ List.replicate (X.length - (i + 1)) 0) := by
 have hlt := (zj hi).1
 have e : A.length + 1 + i - A.length = i + 1 := by omega
 have hl : (X.take i).length = i := by rw [List.length_take]; omega
 rw [List.set_append_right _ _ (by omega), e, List.set_cons_succ, List.set_append_right _ _ (by omega), hl, Nat.sub_self, show X.length - i = (X.length - (i + 1)) + 1 from by omega, List.replicate_succ, List.set_cons_zero, List.take_add_one, hi]
 simp
end
open Go.Ab
theorem ptr_val {p : Nat} (h : p <= 100000000) : yI (jQ p) = p := val_of ⟨by decide, by decide⟩ (by unfold jD; omega)
theorem ptr_tag (p : Nat) : yL (jQ p) = 5 := tag_of ⟨by decide, by decide⟩
section
variable {ss : List Hd} {ps : List Nat}
end
open Go.Ab
section
variable {W R : List Int} {l : List (Nat × Hd)}
noncomputable def newL (W R : List Int) (l : List (Nat × Hd)) : List (Nat × Hd) := (zX W l R).map fun o => (newPos (zX W l R) o.1, o.2)
theorem gF (s t : List (Nat × Hd)) : yh W R l (s ++ t) = yh W R l s ++ yh W R l t := by simp [yh]
theorem gQ (o : Nat × Hd) (t : List (Nat × Hd)) : yh W R l (o :: t) = gM W R l o ++ yh W R l t := by simp [yh]
theorem kI (so : SoundW W R l) {p j : Nat} {x : Hd} (hp : (p, x) ∈ zX W l R) (hj : j < 1 + x.size.toNat) :
  (yh W R l (zX W l R))[newPos (zX W l R) p + j]? = some (finW W R l (p + j)) /\ newPos (zX W l R) p + (1 + x.size.toNat) <= (yh W R l (zX W l R)).length := by
 have hs := qu (R := R) so.objs
 obtain ⟨done, todo, e⟩ := List.append_of_mem hp
 have hn : newPos (zX W l R) p = (yh W R l done).length := by
  rw [e]; rw [e] at hs; exact gc hs
 have hsl : yh W R l (zX W l R) = yh W R l done ++ (gM W R l (p, x) ++ yh W R l todo) := by
  rw [e, gF, gQ]
 refine ⟨?_, ?_⟩
 ·rw [hn, hsl, List.getElem?_append_right (by omega), Nat.add_sub_cancel_left, List.getElem?_append_left (by rw [qj]; exact hj)]
  unfold gM
  rw [List.getElem?_map, List.getElem?_range hj]
  rfl
 ·rw [hn, hsl, zr, zr, qj]
  show _ + (1 + x.size.toNat) <= _ + (1 + x.size.toNat + _)
  omega
theorem live_head (so : SoundW W R l) {p : Nat} {x : Hd} (hp : (p, x) ∈ zX W l R) : ∃ w, finW W R l p = w /\ j0 w = some x /\ okH x /\ (p : Int) + 1 + x.size <= W.length := by
 have hl := yQ hp
 obtain ⟨i, w, ei, hw, hr, hsz, hok⟩ := yJ (so.objs.mem _ hl).2
 have ei : ((p : Nat) : Int) = i := ei
 have : i = p := by omega
 subst this
 refine ⟨w, finW_no (fun h => gC so h ⟨x, hp⟩) hw, hr, hok, hsz⟩
theorem slid_from (so : SoundW W R l) : ∀ (todo done : List (Nat × Hd)), zX W l R = done ++ todo -> ObjsFrom (yh W R l (zX W l R)) (yh W R l done).length (todo.map fun o => (newPos (zX W l R) o.1, o.2))
 | [], done, e => by
  rw [List.append_nil] at e
  rw [<- e]
  exact .nil
 | (p, x) :: todo, done, e => by
  have hs := qu (R := R) so.objs
  have hp : (p, x) ∈ zX W l R := by rw [e]; simp
  have hn : newPos (zX W l R) p = (yh W R l done).length := by
   rw [e]; rw [e] at hs; exact gc hs
  obtain ⟨w, hw, hr, hok, _⟩ := live_head so hp
  unfold okH at hok
  obtain ⟨h1, h2⟩ := kI so hp (j := 0) (by omega)
  rw [Nat.add_zero, Nat.add_zero, hw] at h1
  have ih := slid_from so todo (done ++ [(p, x)]) (by rw [e, List.append_assoc]; rfl)
  have hlen : (yh W R l (done ++ [(p, x)])).length = newPos (zX W l R) p + 1 + x.size.toNat := by
   rw [gF, zr, hn, gQ, zr, qj]
   show _ + (1 + x.size.toNat + 0) = _
   omega
  rw [hlen] at ih
  rw [<- hn]
  exact .cons (objW_mk h1 hr (by show _ + 1 + x.size <= _; omega)) ih
theorem ok_moved (so : SoundW W R l) (hW : W.length <= 1048576) {w : Int} (hok : okField l w) (hr : ∀ q : Nat, yL w = 5 -> yI w = (q : Nat) -> Reach W l R q) : okField (newL W R l) (mvW W R l w) := by
 unfold mvW
 by_cases ht : yL w = 5
 ·rw [if_pos ht]
  obtain ⟨⟨q, y⟩, hq, hv⟩ := hok.2.2 ht
  have hv : yI w = (q : Nat) := hv
  have hl : (q, y) ∈ zX W l R := jN.2 ⟨hq, hr q ht hv⟩
  have h1 := (kI so hl (j := 0) (by omega)).2
  have h2 := kV so
  have e : (yI w).toNat = q := by rw [hv]; simp
  rw [e]
  refine ⟨by rw [ptr_tag]; decide, by rw [ptr_tag]; decide, fun _ => ⟨(newPos (zX W l R) q, y), List.mem_map.2 ⟨(q, y), hl, rfl⟩, ptr_val (by omega)⟩⟩
 ·rw [if_neg ht]
  exact ⟨hok.1, hok.2.1, fun h => absurd h ht⟩
theorem slid_sound (so : SoundW W R l) (hW : W.length <= 1048576) : SoundW (yh W R l (zX W l R)) (R.map (mvW W R l)) (newL W R l) := by
 refine ⟨slid_from so (zX W l R) [] rfl, fun w hw => ?_, fun p hp => ?_, fun p hp k w hk hw => ?_⟩
 ·obtain ⟨w, hw', rfl⟩ := List.mem_map.1 hw
  exact ok_moved so hW (so.roots w hw') fun q h1 h2 => .root hw' h1 h2
 ·obtain ⟨o, ho, rfl⟩ := List.mem_map.1 hp
  exact so.le o (jN.1 ho).1
 ·obtain ⟨⟨p, x⟩, ho, rfl⟩ := List.mem_map.1 hp
  have hl := jN.1 ho
  have hle : yc x <= x.size := so.le _ hl.1
  have hk : (k : Int) < yc x := hk
  have hw : (yh W R l (zX W l R))[newPos (zX W l R) p + 1 + k]? = some w := hw
  rw [Nat.add_assoc, (kI so ho (j := 1 + k) (by omega)).1] at hw
  obtain ⟨_, _, _, _, hsz⟩ := live_head so ho
  obtain ⟨v, hv⟩ : ∃ v, W[p + (1 + k)]? = some v := ⟨_, zp (by omega)⟩
  have hf : gp W R l (false, p + (1 + k)) := .inr ⟨rfl, p, x, k, ho, hk, by show p + (1 + k) = p + 1 + k; omega⟩
  rw [finW_fld hf hv] at hw
  cases hw
  have hv' : W[p + 1 + k]? = some v := by rw [Nat.add_assoc]; exact hv
  exact ok_moved so hW (so.fields _ hl.1 k v hk hv') fun q h1 h2 => .field hl.2 hl.1 hk hv' h1 h2
theorem objW_more {W Y : List Int} {i : Nat} {x : Hd} (h : j4 W i = some x) : j4 (W ++ Y) i = some x := by
 obtain ⟨j, w, e, hw, hr, hsz, _⟩ := yJ h
 have : j = i := by omega
 subst this
 have hi := (zj hw).1
 exact objW_mk (by rw [List.getElem?_append_left hi]; exact hw) hr (by rw [zr]; push_cast; omega)
theorem ObjsFrom.more {W Y : List Int} {i : Nat} {l l2 : List (Nat × Hd)} (h2 : ObjsFrom (W ++ Y) W.length l2) (r : ObjsFrom W i l) : ObjsFrom (W ++ Y) i (l ++ l2) := by
 induction r with
 | nil => exact h2
 | cons hx _ ih => exact .cons (objW_more hx) ih
theorem okField.mono {l l' : List (Nat × Hd)} (h : ∀ p ∈ l, p ∈ l') {w : Int} (r : okField l w) : okField l' w := ⟨r.1, r.2.1, fun t => by obtain ⟨p, hp, e⟩ := r.2.2 t; exact ⟨p, h p hp, e⟩⟩
theorem made_sound (so : SoundW W R l) {x : Hd} {X : List Int} (hx : okH x) (hX : (X.length : Int) = x.size) (hf : yc x <= x.size) (hok : ∀ (k : Nat) (w : Int), (k : Int) < yc x -> X[k]? = some w -> okField l w) (hW : W.length <= 1048576) :
  SoundW (W ++ makeW x :: X) R (l ++ [(W.length, x)]) /\ SoundW (W ++ makeW x :: X) (R ++ [jQ W.length]) (l ++ [(W.length, x)]) := by
 have hsub : ∀ p ∈ l, p ∈ l ++ [(W.length, x)] := fun p hp => zh _ hp
 have hobj : ObjsFrom (W ++ makeW x :: X) 0 (l ++ [(W.length, x)]) := by
  refine ObjsFrom.more (.cons (objW_mk (w := makeW x) ?_ (read_make hx) ?_) ?_) so.objs
  ·rw [List.getElem?_append_right (Nat.le_refl _), Nat.sub_self]; rfl
  ·rw [zr, List.length_cons]; push_cast; omega
  ·have e : W.length + 1 + x.size.toNat = (W ++ makeW x :: X).length := by rw [zr, List.length_cons]; omega
   rw [e]; exact .nil
 have hle : ∀ p ∈ l ++ [(W.length, x)], yc p.2 <= p.2.size := fun p hp => by
  rcases zk hp with h | h
  ·exact so.le p h
  ·rw [zm h]; exact hf
 have hfld : ∀ p ∈ l ++ [(W.length, x)], ∀ (k : Nat) (w : Int), (k : Int) < yc p.2 -> (W ++ makeW x :: X)[p.1 + 1 + k]? = some w -> okField (l ++ [(W.length, x)]) w := fun p hp k w hk hw => by
  rcases zk hp with h | h
  ·obtain ⟨j, v, ej, hv, _, hsz, _⟩ := yJ (so.objs.mem p h).2
   have := so.le p h
   rw [List.getElem?_append_left (by omega)] at hw
   exact (so.fields p h k w hk hw).mono hsub
  ·rw [zm h] at hk hw
   rw [List.getElem?_append_right (by show W.length <= W.length + 1 + k; omega)] at hw
   have e : W.length + 1 + k - W.length = k + 1 := by omega
   have hw : (makeW x :: X)[W.length + 1 + k - W.length]? = some w := hw
   rw [e] at hw
   exact (hok k w hk hw).mono hsub
 refine ⟨⟨hobj, fun w hw => (so.roots w hw).mono hsub, hle, hfld⟩, ⟨hobj, fun w hw => ?_, hle, hfld⟩⟩
 rcases zk hw with h | h
 ·exact (so.roots w h).mono hsub
 ·rw [zm h]
  exact ⟨by rw [ptr_tag]; decide, by rw [ptr_tag]; decide, fun _ => ⟨_, zi _ (List.mem_singleton.2 rfl), ptr_val (by omega)⟩⟩
theorem SoundW.less {R' : List Int} (so : SoundW W R l) (h : ∀ w ∈ R', w ∈ R) : SoundW W R' l := ⟨so.objs, fun w hw => so.roots w (h w hw), so.le, so.fields⟩
end
open Go.Ab
def hnd : List (Int × Int × Int) -> Nat -> List Int
 | [], _ => []
 | q :: rows, k => if q.2.2 > 0 then ((k + 1 : Nat) : Int) :: hnd rows (k + 1) else hnd rows (k + 1)
theorem ql {α : Type} {l : List α} {i : Nat} {x : α} (h : l[i]? = some x) : l.take (i + 1) = l.take i ++ [x] := by
 rw [List.take_add_one, h]; rfl
end Go.Proofs.YtjnfjnmgfpffcaaGreat
namespace Go.Proofs.YtjnfjnmgfpffcaaGreat
open Go.Ab
def pos : List Int -> Nat
 | [] => 0
 | x :: l => (if x > 0 then 1 else 0) + pos l
theorem map_set {rows : List (Int × Int × Int)} {k : Nat} {q : Int × Int × Int} : (rows.set k q).map (fun q => q.2.2) = (rows.map fun q => q.2.2).set k q.2.2 := by simp [List.map_set]
open Go.Ab
theorem flat_byte (xs : List Int) : flat qb xs = xs.map (V.int .u8) := by
 induction xs with
 | nil => rfl
 | cons x xs ih => rw [jl, ih]; rfl
theorem cut_bytes {bs : List Int} {junk : List V} {L n : Nat} (h : L + n <= bs.length) : cut (flat qb bs ++ junk) L n = some (flat qb ((bs.drop L).take n)) := by
 unfold cut
 rw [flat_byte, flat_byte, if_pos (by simp; omega), List.drop_append_of_le_length (by simp; omega), List.take_append_of_le_length (by simp; omega), List.map_take, List.map_drop]
end Go.Proofs.YtjnfjnmgfpffcaaGreat
namespace Go.Proofs.YtjnfjnmgfpffcaaGreat
open Go.Ab
theorem setAll_z (dst new : List V) (h : new.length <= dst.length) : yu dst 0 new = new ++ dst.drop new.length := ge [] dst new h
theorem cl_cmp {f : Nat} {gs : List Nat} (h1 : qK f gz = none) (h2 : qK f kT = some gs) {xs : List V} {n : Nat} : cl f xs (n + 1) = cmpPrim gs (evFn EE cx pr n) xs := by
 show evFn EE cx pr (n + 1) (.fn f) xs = _
 unfold evFn
 have : (pr f : Option ((Tgt -> List V -> M HH V) -> List V -> M HH V)) = some (cmpPrim gs) := by
  show seatPrims shutFns gz kT f = _
  unfold seatPrims
  rw [h1, h2]
 simp only [this]
def ptrV (sn : Nat) (i : Nat) : List V := [.ptr (some (sn, i * 3))]
theorem ptr_len (sn i : Nat) : (ptrV sn i).length = 1 := rfl
theorem ptr_all (sn i : Nat) : (ptrV sn i).all jR = true := rfl
theorem elP : ElT cx 94 92 0 := ⟨rfl, rfl, rfl, ⟨_, rfl, by decide⟩⟩
def atP (sn : Nat) (x : Nat × Int) : (Nat × Nat) × Int := ((sn, x.1 * 3), x.2)
theorem flat_ptr {sn : Nat} : ∀ (l : List (Nat × Int)), flat (ptrV sn) (l.map fun x => x.1) = (l.map (atP sn)).map qG
 | [] => rfl
 | x :: l => by
  simp only [List.map_cons, jl, flat_ptr l]
  rfl
theorem sort_at (sn : Nat) (l : List (Nat × Int)) : qy (l.map (atP sn)) = (qy l).map (atP sn) := sortP_map (fun i => (sn, i * 3))
theorem sort_len {α : Type} : ∀ (l : List (α × Int)), (qy l).length = l.length
 | [] => rfl
 | x :: l => by
  have ins : ∀ (l : List (α × Int)), (insP x l).length = l.length + 1 := fun l => by
   induction l with
   | nil => rfl
   | cons y l ih =>
    unfold insP
    cases decide (x.2 <= y.2) with
    | true => rfl
    | false => simp only [cond_false, List.length_cons, ih]
  show (insP x (qy l)).length = _
  rw [ins, sort_len l]; rfl
theorem sort_ok {h : HH} {c sn : Nat} {v : V} {l : List (Nat × Int)} {ns : List Nat} (hl : ListOf 1 (ptrV sn) h c v (l.map fun x => x.1)) (hk : ∀ x ∈ l, ∃ cl cs, MapI.get h sn = some (.cells true cl cs) /\ cs[x.1 * 3]? = some (I x.2)) (hv : sn ∉ zS v)
  (hd : kp (l.map fun x => x.2) = true) (hn : l.length <= 1000000) (hns : l ≠ [] -> sn ∈ ns) (hvs : ∀ a ∈ zS v, a ∈ ns) :
  Does 69 [v, .func (.func 70) [] []] h c ns fun v' h' c' => c' = c /\ ListOf 1 (ptrV sn) h' c' v ((qy l).map fun x => x.1) /\ ∀ n, n ∉ zS v -> MapI.get h' n = MapI.get h n := by
 refine yi ?_
 cases l with
 | nil =>
  obtain ⟨s, cap, rfl, _⟩ := hl.shape
  refine ⟨.tuple [], h, c, [], ⟨fun x hx => (by cases hx), rfl, hl, fun _ _ => rfl⟩, 1, fun n hn => ?_⟩
  obtain ⟨n, rfl⟩ : ∃ m, n = m + 1 := ⟨n - 1, by omega⟩
  rw [cl_cmp rfl rfl]
  rfl
 | cons x l =>
  rcases hl with ⟨_, h0⟩ | ⟨s, cl', junk, rfl, h2, h3, h4⟩
  ·cases h0
  ·rw [flat_ptr] at h3
   have hpl : ((x :: l).map (atP sn)).length = ((x :: l).map fun x => x.1).length := by simp
   obtain ⟨al, hrun, hal⟩ := cmpPrim_run (gs := [70]) (call := fun _ _ => (fail "" : M HH V)) (g := 70) (cap := .upTo 1) (c := c) (ps := (x :: l).map (atP sn)) rfl (by simp) h3 (fun p hp => by
    obtain ⟨y, hy, rfl⟩ := List.mem_map.1 hp
    obtain ⟨cl, cs, e1, e2⟩ := hk y hy
    exact ⟨fun e => hv (by simp [zS]; exact e), cl, cs, e1, e2⟩) (by rw [List.map_map]; exact hd) (by rw [List.length_map]; exact hn)
   rw [hpl] at hrun
   have hsl : ((qy ((x :: l).map (atP sn))).map qG).length = (((x :: l).map (atP sn)).map qG).length := by rw [List.length_map, List.length_map, sort_len]
   refine ⟨.tuple [], MapI.set h s (.cells true cl' (yu (((x :: l).map (atP sn)).map qG ++ junk) 0 ((qy ((x :: l).map (atP sn))).map qG))), c, al, ⟨fun a ha => .inl ?_, rfl, .inr ⟨s, cl', junk, ?_, h2, ?_, h4⟩, fun n hn => ?_⟩, 1, fun n hn => ?_⟩
   ·rcases hal a ha with e | ⟨p, hp, e⟩
    ·rw [e]; exact hvs s (by simp [zS])
    ·obtain ⟨y, hy, rfl⟩ := List.mem_map.1 hp
     rw [e]; exact hns (by simp)
   ·simp only [List.length_map, sort_len]
   ·rw [zt, flat_ptr, <- sort_at, setAll_z _ _ (by rw [zr]; omega), hsl, List.drop_left]
   ·exact zu _ _ _ _ fun e => hn (by simp [zS, e])
   ·obtain ⟨n, rfl⟩ : ∃ m, n = m + 1 := ⟨n - 1, by omega⟩
    rw [cl_cmp rfl rfl]
    exact hrun
open Go.Ab
def lvs : List (Int × Int × Int) -> Nat -> List (Nat × Int)
 | [], _ => []
 | q :: rows, k => if q.2.2 > 0 then (k, q.1) :: lvs rows (k + 1) else lvs rows (k + 1)
theorem lvs_append : ∀ (a b : List (Int × Int × Int)) (k : Nat), lvs (a ++ b) k = lvs a k ++ lvs b (k + a.length)
 | [], b, k => by simp [lvs]
 | q :: a, b, k => by
  have := lvs_append a b (k + 1)
  simp only [List.cons_append, lvs, this, List.length_cons]
  rw [show k + 1 + a.length = k + (a.length + 1) from by omega]
  split <;> simp
theorem lvs_le : ∀ (a : List (Int × Int × Int)) (k : Nat), (lvs a k).length <= a.length
 | [], k => by simp [lvs]
 | q :: a, k => by
  have := lvs_le a (k + 1)
  unfold lvs
  split <;> simp <;> omega
theorem gB : ∀ {a : List (Int × Int × Int)} {k : Nat} {x : Nat × Int}, x ∈ lvs a k -> ∃ j q, x.1 = k + j /\ a[j]? = some q /\ q.2.2 > 0 /\ x.2 = q.1
 | [], k, x, h => by simp [lvs] at h
 | q :: a, k, x, h => by
  have rest : x ∈ lvs a (k + 1) -> ∃ j p, x.1 = k + j /\ (q :: a)[j]? = some p /\ p.2.2 > 0 /\ x.2 = p.1 := fun h => by
   obtain ⟨j, p, h1, h2, h3, h4⟩ := gB h
   exact ⟨j + 1, p, by omega, by simpa using h2, h3, h4⟩
  unfold lvs at h
  split at h
  ·next hq =>
   rcases zl h with rfl | h
   ·exact ⟨0, q, by simp, by simp, hq, rfl⟩
   ·exact rest h
  ·exact rest h
def yd (rows : List (Int × Int × Int)) : List Nat := (qy (lvs rows 0)).map fun x => x.1
def parted (rows : List (Int × Int × Int)) : Prop := kp ((lvs rows 0).map fun x => x.2) = true
theorem lying_ok {h : HH} {c p sn : Nat} {vb vr : V} {st : St} (r : StoreAt h c p vb vr st) (hlen : st.rows.length <= 1000) (hp : parted st.rows) (hsn : ∀ n ∈ zS vr, n = sn) :
  Does 54 [.ptr (some (p, 0))] h c (p :: zS vr) fun v h' c' => ListOf 1 (ptrV sn) h' c' v (yd st.rows) /\ (∀ n ∈ zS v, c <= n) /\ ∀ n, n < c -> MapI.get h' n = MapI.get h n := by
 have hobj := r.obj
 have hlp := r.lp
 obtain ⟨s, cap, rfl, hs⟩ := r.rows.shape
 refine yi (enter (fn := Tryz.f54) Tryz.func54 rfl rfl (zf rfl) ?_)
 repeat' (first | apply zw | apply zx | apply zB | apply zK | refine za rfl rfl (fun _ => rfl) ?_ | refine zL rfl rfl (zW rfl rfl rfl hobj rfl ⟨(by simp [zc] <;> omega), ?_⟩))
 refine zI ?_
 refine zQ (X := Nat × V) (fun x e h' c' => (∃ b0, e = MapI.set (MapI.set (MapI.set (MapI.set b0 0 (.ptr (some (p, 0)))) 3 x.2) 9 (I st.rows.length)) 10 (I x.1)) /\ x.1 <= st.rows.length /\ ListOf (0 + 1) (ptrV sn) h' c' x.2 ((lvs (st.rows.take x.1) 0).map fun x => x.1) /\ (∀ n ∈ zS x.2, c <= n) /\ c <= c' /\ ∀ n, n < c -> MapI.get h' n = MapI.get h n)
  (fun x => st.rows.length - x.1) ?_ (0, .slice none 0 (.known 0)) _ _ _ ⟨set4 rfl rfl rfl rfl, Nat.zero_le _, .nil, fun n hn => (by cases hn), Nat.le_refl _, fun n _ => rfl⟩
 rintro ⟨i, v⟩ e h' c' ⟨⟨b0, rfl⟩, hi, hl, hv, hc, hfr⟩
 simp only at hi hl hv
 repeat' (first | apply zw | apply zx | apply zK | refine za rfl rfl (fun _ => rfl) ?_)
 refine zH rfl (fun hlt => ?_) (fun hge => ?_)
 case refine_2 =>
  have hge : st.rows.length <= i := by simpa using hge
  rw [List.take_of_length_le hge] at hl
  have hle := lvs_le st.rows 0
  have hkeys : ∀ x ∈ lvs st.rows 0, sn < c /\ sn ∈ zS (.slice s st.rows.length cap) /\ ∃ cl cs, MapI.get h' sn = some (.cells true cl cs) /\ cs[x.1 * 3]? = some (I x.2) := fun x hx => by
   obtain ⟨j, ⟨q0, q1, q2⟩, h1, h2, h3, h4⟩ := gB hx
   have hj := (zj h2).1
   obtain ⟨_, sn', cl, junk, rfl, hsn', hg, _⟩ := hs j hj
   have e : sn' = sn := hsn sn' (by simp [zS])
   subst e
   refine ⟨hsn', by simp [zS], cl, _, by rw [hfr sn' hsn']; exact hg, ?_⟩
   have := jM (k := 3) (j := 0) jU h2 (by omega) junk
   rw [qL] at this
   rw [h1, h4, Nat.zero_add]
   exact this
  have hsv : ∀ x ∈ lvs st.rows 0, sn ∉ zS v := fun x hx hm => by have := hv sn hm; have := (hkeys x hx).1; omega
  by_cases h0 : lvs st.rows 0 = []
  ·have hl0 := hl
   rw [h0] at hl0
   have hemp : yd st.rows = [] := by unfold yd; rw [h0]; rfl
   repeat' (first | apply zw | apply zx | apply zF | refine za rfl rfl (fun _ => rfl) ?_)
   refine zL rfl rfl (yj rfl (sort_ok (sn := c') (ns := zS v) (l := []) (by
    rcases hl0 with h | ⟨s', cl', junk, h1, h2, h3, h4⟩
    ·exact .inl h
    ·exact .inr ⟨s', cl', junk, h1, h2, h3, h4⟩) (fun x hx => by cases hx) (fun hm => by have := hl.lt _ hm; omega) rfl (Nat.zero_le _) (fun e => absurd rfl e) (fun a ha => ha)) (fun a ha => .inr (hv a ha)) hc fun v5 h5 c5 hc5 hfr5 hq => ?_)
   obtain ⟨rfl, hl5, hk5⟩ := hq
   repeat' (first | apply zw | apply zx | apply zG | apply zK | refine za rfl rfl (fun _ => rfl) ?_)
   refine z6 rfl ⟨?_, hv, fun n hn => by rw [hk5 n fun hm => by have := hv n hm; omega]; exact hfr n hn⟩
   rw [hemp]
   rcases hl5 with h | ⟨s', cl', junk, h1, h2, h3, h4⟩
   ·exact .inl h
   ·exact .inr ⟨s', cl', junk, h1, h2, h3, h4⟩
  ·obtain ⟨x0, hx0⟩ := List.exists_mem_of_ne_nil _ h0
   repeat' (first | apply zw | apply zx | apply zF | refine za rfl rfl (fun _ => rfl) ?_)
   refine zL rfl rfl (yj rfl (sort_ok (ns := sn :: zS v) hl (fun x hx => (hkeys x hx).2.2) (hsv x0 hx0) hp (by omega) (fun _ => by simp) (fun a ha => by simp [ha])) (fun a ha => by
    rcases zl ha with rfl | ha
    ·exact .inl (zg _ (hkeys x0 hx0).2.1)
    ·exact .inr (hv a ha)) hc fun v5 h5 c5 hc5 hfr5 hq => ?_)
   obtain ⟨rfl, hl5, hk5⟩ := hq
   repeat' (first | apply zw | apply zx | apply zG | apply zK | refine za rfl rfl (fun _ => rfl) ?_)
   exact z6 rfl ⟨hl5, hv, fun n hn => by rw [hk5 n fun hm => by have := hv n hm; omega]; exact hfr n hn⟩
 have hlt : i < st.rows.length := by simpa using hlt
 obtain ⟨rfl, sn', cl, junk, rfl, hsn', hg, _⟩ := hs i hlt
 have e : sn' = sn := hsn sn' (by simp [zS])
 subst e
 have hg' : MapI.get h' sn' = some (.cells true cl (flat tri st.rows ++ junk)) := by rw [hfr sn' hsn']; exact hg
 have hobj' : MapI.get h' p = some (.cells true true [vb, I st.most, .slice (some (sn', 0)) st.rows.length (.upTo 3), I st.live]) := by rw [hfr p hlp]; exact hobj
 obtain ⟨⟨z0, z1, z2⟩, hz⟩ : ∃ z, st.rows[i]? = some z := ⟨_, zp hlt⟩
 have hz2 : nth (flat tri st.rows ++ junk) (0 + ((i : Nat) : Int).toNat * 3 + 2) = some (I z2) := by
  rw [show 0 + ((i : Nat) : Int).toNat * 3 + 2 = i * 3 + 2 from by simp]
  exact (jM jU hz (by omega) junk).trans rfl
 have hw1 : IntKind.i64.wrap ((i : Int) + 1) = ((i + 1 : Nat) : Int) := by rw [Go.IntWalk.i64_in _ (by omega)]; omega
 have htk := ql hz
 have hmin : min i st.rows.length = i := by omega
 repeat' (first | apply zw | apply zx | apply zz | apply zB | apply zK | refine za rfl rfl (fun _ => rfl) ?_ | refine zU ?_ | refine zL rfl rfl (zW rfl rfl rfl hobj' rfl ⟨(by simp [zc] <;> omega), ?_⟩) | refine zL rfl rfl (zZ (k := 3) rfl rfl rfl rfl ⟨by omega, by omega⟩ ⟨(by simp [zc] <;> omega), ?_⟩) | refine zL rfl rfl (zW rfl rfl rfl hg' hz2 ⟨(by simp [zc] <;> omega), ?_⟩))
 refine zH rfl (fun hp => ?_) (fun hp => ?_)
 ·have hp : z2 > 0 := by simpa using hp
  have hnew : (lvs (st.rows.take (i + 1)) 0).map (fun x => x.1) = (lvs (st.rows.take i) 0).map (fun x => x.1) ++ [i] := by
   rw [htk, lvs_append]; simp [lvs, hp, hmin]
  repeat' (first | apply zx | refine za rfl rfl (fun _ => rfl) ?_ | refine zL rfl rfl (zW rfl rfl rfl hobj' rfl ⟨(by simp [zc] <;> omega), ?_⟩) | refine zL rfl rfl (zZ (k := 3) rfl rfl rfl rfl ⟨by omega, by omega⟩ ⟨(by simp [zc] <;> omega), ?_⟩) | refine zL rfl rfl (yy (k := 1) rfl rfl rfl rfl (by decide) rfl ⟨(by simp [zc] <;> omega), ?_⟩))
  have hl2 : ∀ x : AObj, ListOf (0 + 1) (ptrV sn') (MapI.set h' c' x) (c' + 1) v ((lvs (st.rows.take i) 0).map fun x => x.1) := fun x => hl.keep (by omega) fun n hn _ => zu _ _ _ _ (by omega)
  have e3 : (V.ptr (some (sn', 0 + ((i : Nat) : Int).toNat * 3))) = .ptr (some (sn', i * 3)) := by simp
  have hle1 := lvs_le (st.rows.take i) 0
  rw [List.length_take] at hle1
  refine zL rfl rfl (kN (cells := ptrV sn') (ys := [i]) (cs := [.ptr (some (sn', 0 + ((i : Nat) : Int).toNat * 3))]) rfl rfl elP rfl (ptr_len sn') (ptr_all sn') (hl2 _) (zt _ _ _) (by rw [e3]; rfl) rfl (by rw [List.length_map]; omega) (.inr (by simp [yF]; omega)) (fun a ha => ⟨.inr (hv a ha), .inr (hv a ha)⟩) (.inr (by simp [yE]; omega)) fun v2 h2 c2 hlv hn2 hc2 hf2 => ?_)
  repeat' (first | apply zx | apply zK | refine za rfl rfl (fun _ => rfl) ?_ | refine zU ?_)
  refine ⟨(i + 1, v2), by simp only; omega, ?_, by simp only; omega, ?_, fun n hn => ?_, by omega, fun n hn => ?_⟩
  ·rw [hw1]
   exact set4 rfl rfl rfl rfl
  ·rw [hnew]; exact hlv
  ·rcases hn2 n hn with h | ⟨h, _⟩
   ·exact hv n h
   ·omega
  ·rw [hf2 n (by omega) (fun hm => by have := hv n hm; omega), zu _ _ _ _ (by omega)]
   exact hfr n hn
 ·have hp : ¬ z2 > 0 := by simpa using hp
  have hnew : (lvs (st.rows.take (i + 1)) 0).map (fun x => x.1) = (lvs (st.rows.take i) 0).map (fun x => x.1) := by
   rw [htk, lvs_append]; simp [lvs, hp]
  repeat' (first | apply zx | apply zz | apply zK | refine za rfl rfl (fun _ => rfl) ?_ | refine zU ?_)
  refine ⟨(i + 1, v), by simp only; omega, ?_, by simp only; omega, ?_, hv, hc, hfr⟩
  ·rw [hw1]
   exact set4 rfl rfl rfl rfl
  ·simp only [hnew]; exact hl
open Go.Ab
abbrev R3 := Int × Int × Int
def gN (bs : List Int) (q : R3) : List Int := (bs.drop q.1.toNat).take q.2.1.toNat
def qd (bs : List Int) (rows : List R3) (l : List Nat) : List Int := (l.map fun i => match rows[i]? with | some q => gN bs q | none => []).flatten
def stp (s : List R3 × Int) (i : Nat) : List R3 × Int :=
 match s.1[i]? with
 | some q => (s.1.set i (s.2, q.2.1, q.2.2), s.2 + q.2.1)
 | none => s
def yV (rows : List R3) (l : List Nat) : List R3 × Int := l.foldl stp (rows, 0)
theorem slid_snoc (rows : List R3) (l : List Nat) (i : Nat) : yV rows (l ++ [i]) = stp (yV rows l) i := by simp [yV, List.foldl_append]
theorem outs_snoc {bs : List Int} {rows : List R3} {l : List Nat} {i : Nat} {q : R3} (h : rows[i]? = some q) : qd bs rows (l ++ [i]) = qd bs rows l ++ gN bs q := by simp [qd, h]
theorem stp_length (s : List R3 × Int) (i : Nat) : (stp s i).1.length = s.1.length := by
 unfold stp; split <;> simp
theorem stp_other {s : List R3 × Int} {i j : Nat} (h : j ≠ i) : (stp s i).1[j]? = s.1[j]? := by
 unfold stp
 split
 ·simp [List.getElem?_set, Ne.symm h]
 ·rfl
theorem stp_at {s : List R3 × Int} {i : Nat} {q : R3} (h : s.1[i]? = some q) : stp s i = (s.1.set i (s.2, q.2.1, q.2.2), s.2 + q.2.1) := by
 unfold stp; rw [h]
theorem ka (rows : List R3) (l : List Nat) : (yV rows l).1.length = rows.length := by
 have : ∀ (l : List Nat) (s : List R3 × Int), (l.foldl stp s).1.length = s.1.length := fun l => by
  induction l with
  | nil => intro s; rfl
  | cons i l ih => intro s; rw [List.foldl_cons, ih, stp_length]
 exact this l _
theorem slid_other (rows : List R3) {l : List Nat} {j : Nat} (h : j ∉ l) : (yV rows l).1[j]? = rows[j]? := by
 have : ∀ (l : List Nat) (s : List R3 × Int), j ∉ l -> (l.foldl stp s).1[j]? = s.1[j]? := fun l => by
  induction l with
  | nil => intro s _; rfl
  | cons i l ih =>
   intro s h
   rw [List.foldl_cons, ih _ (fun hm => h (zg _ hm)), stp_other (fun e => h (by rw [e]; exact zq ..))]
 exact this l _ h
theorem slid_same (rows : List R3) (l : List Nat) (j : Nat) : ((yV rows l).1[j]?).map (fun q => q.2) = (rows[j]?).map fun q => q.2 := by
 have : ∀ (l : List Nat) (s : List R3 × Int), ((l.foldl stp s).1[j]?).map (fun q => q.2) = (s.1[j]?).map fun q => q.2 := fun l => by
  induction l with
  | nil => intro s; rfl
  | cons i l ih =>
   intro s
   rw [List.foldl_cons, ih]
   by_cases e : j = i
   ·subst e
    cases h : s.1[j]? with
    | none => unfold stp; rw [h]; simp [h]
    | some q =>
     rw [stp_at h]
     have := (zj h).1
     simp [this]
   ·rw [stp_other e]
 exact this l _
theorem slid_get {rows : List R3} (l : List Nat) {j : Nat} {q : R3} (h : rows[j]? = some q) : ∃ a, (yV rows l).1[j]? = some (a, q.2.1, q.2.2) := by
 have := slid_same rows l j
 rw [h] at this
 cases hx : (yV rows l).1[j]? with
 | none => rw [hx] at this; cases this
 | some p => rw [hx] at this; simp at this; exact ⟨p.1, by rw [<- this]⟩
theorem slid_of {rows : List R3} {l : List Nat} {j : Nat} {p : R3} (h : (yV rows l).1[j]? = some p) : ∃ a, rows[j]? = some (a, p.2.1, p.2.2) := by
 have := slid_same rows l j
 rw [h] at this
 cases hx : rows[j]? with
 | none => rw [hx] at this; cases this
 | some q => rw [hx] at this; simp at this; exact ⟨q.1, by rw [this]⟩
structure qz (n : Nat) (rows : List R3) : Prop where
 in_ : ∀ (i : Nat) (q : R3), rows[i]? = some q -> q.2.2 > 0 -> 0 <= q.1 /\ 1 <= q.2.1 /\ q.1 + q.2.1 <= n
 ap : ∀ (i j : Nat) (q p : R3), i ≠ j -> rows[i]? = some q -> rows[j]? = some p -> q.2.2 > 0 -> p.2.2 > 0 -> q.1 + q.2.1 <= p.1 \/ p.1 + p.2.1 <= q.1
 nn : ∀ (i : Nat) (q : R3), rows[i]? = some q -> 0 <= q.2.2
def tot (rows : List R3) : Int := (rows.map fun q => if q.2.2 > 0 then q.2.1 else 0).sum
theorem tot_append (a b : List R3) : tot (a ++ b) = tot a + tot b := by simp [tot]
structure Ord (bn : Nat) (rows : List R3) (l : List Nat) : Prop where
 live : ∀ i ∈ l, ∃ q : R3, rows[i]? = some q /\ q.2.2 > 0
 all : ∀ (i : Nat) (q : R3), rows[i]? = some q -> q.2.2 > 0 -> i ∈ l
 up : l.Pairwise fun i j => ∀ q p : R3, rows[i]? = some q -> rows[j]? = some p -> q.1 + q.2.1 <= p.1
theorem lvs_in {q : R3} : ∀ {rows : List R3} {k j : Nat}, rows[j]? = some q -> q.2.2 > 0 -> (k + j, q.1) ∈ lvs rows k
 | [], _, _, h, _ => by simp at h
 | p :: rows, k, 0, h, h3 => by
  simp at h; subst h
  unfold lvs
  rw [if_pos h3]
  exact zq ..
 | p :: rows, k, j + 1, h, h3 => by
  have hm := lvs_in (rows := rows) (k := k + 1) (j := j) (by simpa using h) h3
  rw [show k + 1 + j = k + (j + 1) from by omega] at hm
  unfold lvs
  split
  ·exact zg _ hm
  ·exact hm
theorem lvs_spec {rows : List R3} {k : Nat} {x : Nat × Int} : x ∈ lvs rows k ↔ ∃ (j : Nat) (q : R3), x.1 = k + j /\ rows[j]? = some q /\ q.2.2 > 0 /\ x.2 = q.1 := by
 refine ⟨gB, ?_⟩
 rintro ⟨j, q, h1, h2, h3, h4⟩
 have := lvs_in (k := k) h2 h3
 rw [<- h1, <- h4] at this
 exact this
theorem lvs_nodup : ∀ (rows : List R3) (k : Nat), (lvs rows k).Pairwise fun a b => a.1 < b.1
 | [], k => List.Pairwise.nil
 | q :: rows, k => by
  have ih := lvs_nodup rows (k + 1)
  unfold lvs
  split
  ·exact List.pairwise_cons.2 ⟨fun b hb => by obtain ⟨j, _, h1, _⟩ := gB hb; show k < b.1; omega, ih⟩
  ·exact ih
theorem noDup_of : ∀ {l : List Int}, l.Pairwise (fun a b => a ≠ b) -> kp l = true
 | [], _ => rfl
 | x :: l, h => by
  obtain ⟨h1, h2⟩ := List.pairwise_cons.1 h
  have := noDup_of h2
  unfold kp
  have hz : ∀ {l : List Int}, (∀ y ∈ l, x ≠ y) -> hasZ x l = false := fun {l} h => by
   induction l with
   | nil => rfl
   | cons y l ih =>
    have h1 := h y (zq ..)
    have h2 := ih fun z hz => h z (zg _ hz)
    simp [hasZ, h1, h2]
  rw [hz h1, this]; rfl
theorem lies_parted {n : Nat} {rows : List R3} (hl : qz n rows) : parted rows := by
 unfold parted
 refine noDup_of ?_
 rw [List.pairwise_map]
 refine (lvs_nodup rows 0).imp_of_mem fun {a b} ha hb hab => ?_
 obtain ⟨i, q, h1, h2, h3, h4⟩ := gB ha
 obtain ⟨j, p, g1, g2, g3, g4⟩ := gB hb
 have h5 := hl.ap i j q p (by omega) h2 g2 h3 g3
 have h6 := hl.in_ i q h2 h3
 have h7 := hl.in_ j p g2 g3
 omega
theorem jH {n : Nat} {rows : List R3} (hl : qz n rows) : Ord n rows (yd rows) := by
 have hmem : ∀ i, i ∈ yd rows ↔ ∃ q, rows[i]? = some q /\ q.2.2 > 0 := fun i => by
  unfold yd
  rw [List.mem_map]
  constructor
  ·rintro ⟨x, hx, rfl⟩
   obtain ⟨j, q, h1, h2, h3, _⟩ := gB (sortP_perm.mem_iff.1 hx)
   rw [Nat.zero_add] at h1
   exact ⟨q, by rw [h1]; exact h2, h3⟩
  ·rintro ⟨q, h1, h2⟩
   exact ⟨(i, q.1), sortP_perm.mem_iff.2 (lvs_spec.2 ⟨i, q, by simp, h1, h2, rfl⟩), rfl⟩
 refine ⟨fun i hi => (hmem i).1 hi, fun i q h1 h2 => (hmem i).2 ⟨q, h1, h2⟩, ?_⟩
 unfold yd
 rw [List.pairwise_map]
 have hnd : (qy (lvs rows 0)).Pairwise fun a b => a.1 ≠ b.1 := by
  refine (sortP_perm.pairwise_iff (fun h => Ne.symm h)).2 ?_
  exact (lvs_nodup rows 0).imp fun h => Nat.ne_of_lt h
 refine (sortP_sorted.and hnd).imp_of_mem fun {a b} ha hb hab => ?_
 obtain ⟨i, q, h1, h2, h3, h4⟩ := gB (sortP_perm.mem_iff.1 ha)
 obtain ⟨j, p, g1, g2, g3, g4⟩ := gB (sortP_perm.mem_iff.1 hb)
 intro q' p' e1 e2
 rw [Nat.zero_add] at h1 g1
 rw [h1, h2] at e1; cases e1
 rw [g1, g2] at e2; cases e2
 have h5 := hl.ap i j q p (by omega) h2 g2 h3 g3
 have h6 := hl.in_ i q h2 h3
 have h7 := hl.in_ j p g2 g3
 omega
theorem Ord.front {n : Nat} {rows : List R3} (hl : qz n rows) : ∀ {l : List Nat}, l.Pairwise (fun i j => ∀ q p : R3, rows[i]? = some q -> rows[j]? = some p -> q.1 + q.2.1 <= p.1) -> (∀ i ∈ l, ∃ q : R3, rows[i]? = some q /\ q.2.2 > 0) -> ∀ {k i : Nat} {q : R3}, l[k]? = some i -> rows[i]? = some q -> (yV rows (l.take k)).2 <= q.1 := by
 intro l hup hlive k
 have hnd : l.Pairwise (fun i j => i ≠ j) := hup.imp_of_mem fun {i j} hi hj h e => by
  subst e
  obtain ⟨q, h1, h2⟩ := hlive i hi
  have := h q q h1 h1
  have := hl.in_ i q h1 h2
  omega
 induction k with
 | zero =>
  intro i q hi hq
  obtain ⟨q', h1, h2⟩ := hlive i (zo hi)
  rw [hq] at h1; cases h1
  have := hl.in_ i q hq h2
  simp [yV]; omega
 | succ k ih =>
  intro i q hi hq
  have hlt := (zj hi).1
  obtain ⟨j, hj⟩ : ∃ j, l[k]? = some j := ⟨_, zp (by omega)⟩
  obtain ⟨p, h1, h2⟩ := hlive j (zo hj)
  have hle := ih hj h1
  have hji : j ∉ l.take k := fun hm => by
   obtain ⟨m, hm1, hm2⟩ := List.mem_iff_getElem.1 hm
   have hmk : m < k := by rw [List.length_take] at hm1; omega
   have := List.pairwise_iff_getElem.1 hnd m k (by omega) (by omega) hmk
   refine this ?_
   rw [List.getElem_take] at hm2
   rw [hm2]
   exact (zj hj).2.symm
  have hgap := List.pairwise_iff_getElem.1 hup k (k + 1) (by omega) hlt (by omega) p q (by rw [(zj hj).2]; exact h1) (by rw [(zj hi).2]; exact hq)
  rw [ql hj, slid_snoc, stp_at (q := p) (by rw [slid_other rows hji]; exact h1)]
  show (yV rows (l.take k)).2 + p.2.1 <= q.1
  omega
theorem Ord.nodup {n : Nat} {rows : List R3} {l : List Nat} (hl : qz n rows) (o : Ord n rows l) : l.Pairwise (fun i j => i ≠ j) := o.up.imp_of_mem fun {i j} hi hj h e => by
 subst e
 obtain ⟨q, h1, h2⟩ := o.live i hi
 have := h q q h1 h1
 have := hl.in_ i q h1 h2
 omega
theorem not_take {l : List Nat} (hnd : l.Pairwise (fun i j => i ≠ j)) {k i : Nat} (hi : l[k]? = some i) : i ∉ l.take k := fun hm => by
 have hlt := (zj hi).1
 obtain ⟨m, hm1, hm2⟩ := List.mem_iff_getElem.1 hm
 have hmk : m < k := by rw [List.length_take] at hm1; omega
 refine List.pairwise_iff_getElem.1 hnd m k (by omega) hlt hmk ?_
 rw [List.getElem_take] at hm2
 rw [hm2]
 exact (zj hi).2.symm
theorem not_drop {l : List Nat} (hnd : l.Pairwise (fun i j => i ≠ j)) {k i : Nat} (hi : l[k]? = some i) : i ∉ l.drop (k + 1) := fun hm => by
 have hlt := (zj hi).1
 obtain ⟨m, hm1, hm2⟩ := List.mem_iff_getElem.1 hm
 rw [List.length_drop] at hm1
 refine List.pairwise_iff_getElem.1 hnd k (k + 1 + m) hlt (by omega) (by omega) ?_
 rw [List.getElem_drop] at hm2
 rw [hm2]
 exact (zj hi).2
section
variable {n : Nat} {rows : List R3} {l : List Nat}
theorem Ord.row (o : Ord n rows l) {k i : Nat} (hi : l[k]? = some i) : ∃ q, rows[i]? = some q /\ q.2.2 > 0 := o.live i (zo hi)
theorem Ord.le (hl : qz n rows) (o : Ord n rows l) {k i : Nat} {q : R3} (hi : l[k]? = some i) (hq : rows[i]? = some q) : (yV rows (l.take k)).2 <= q.1 := Ord.front hl o.up o.live hi hq
theorem Ord.still (hl : qz n rows) (o : Ord n rows l) {k i : Nat} {q : R3} (hi : l[k]? = some i) (hq : rows[i]? = some q) : (yV rows (l.take k)).1[i]? = some q := by
 rw [slid_other rows (not_take (o.nodup hl) hi)]; exact hq
theorem Ord.next (hl : qz n rows) (o : Ord n rows l) {k i : Nat} {q : R3} (hi : l[k]? = some i) (hq : rows[i]? = some q) : yV rows (l.take (k + 1)) = ((yV rows (l.take k)).1.set i ((yV rows (l.take k)).2, q.2.1, q.2.2), (yV rows (l.take k)).2 + q.2.1) := by
 rw [ql hi, slid_snoc, stp_at (o.still hl hi hq)]
theorem Ord.nonneg (hl : qz n rows) (o : Ord n rows l) : ∀ k, 0 <= (yV rows (l.take k)).2
 | 0 => by simp [yV]
 | k + 1 => by
  have ih := Ord.nonneg hl o k
  by_cases hk : k < l.length
  ·obtain ⟨i, hi⟩ : ∃ i, l[k]? = some i := ⟨_, zp hk⟩
   obtain ⟨q, h1, h2⟩ := o.row hi
   have := hl.in_ i q h1 h2
   rw [o.next hl hi h1]
   show 0 <= (yV rows (l.take k)).2 + q.2.1
   omega
  ·rw [List.take_of_length_le (by omega)]
   rw [List.take_of_length_le (by omega)] at ih
   exact ih
theorem Ord.mono (hl : qz n rows) (o : Ord n rows l) {k m : Nat} (h : k <= m) : (yV rows (l.take k)).2 <= (yV rows (l.take m)).2 := by
 induction m with
 | zero => rw [Nat.le_zero.1 h]; exact Int.le_refl _
 | succ m ih =>
  by_cases e : k = m + 1
  ·rw [e]; exact Int.le_refl _
  ·have ih := ih (by omega)
   by_cases hk : m < l.length
   ·obtain ⟨i, hi⟩ : ∃ i, l[m]? = some i := ⟨_, zp hk⟩
    obtain ⟨q, h1, h2⟩ := o.row hi
    have := hl.in_ i q h1 h2
    rw [o.next hl hi h1]
    show _ <= (yV rows (l.take m)).2 + q.2.1
    omega
   ·rw [List.take_of_length_le (l := l) (i := m + 1) (by omega)]
    rw [List.take_of_length_le (l := l) (i := m) (by omega)] at ih
    exact ih
theorem Ord.fits (hl : qz n rows) (o : Ord n rows l) : ∀ k, (yV rows (l.take k)).2 <= n
 | 0 => by simp [yV]
 | k + 1 => by
  by_cases hk : k < l.length
  ·obtain ⟨i, hi⟩ : ∃ i, l[k]? = some i := ⟨_, zp hk⟩
   obtain ⟨q, h1, h2⟩ := o.row hi
   have := hl.in_ i q h1 h2
   have := o.le hl hi h1
   rw [o.next hl hi h1]
   show (yV rows (l.take k)).2 + q.2.1 <= n
   omega
  ·have := Ord.fits hl o k
   rw [List.take_of_length_le (by omega)]
   rw [List.take_of_length_le (by omega)] at this
   exact this
theorem Ord.placed (hl : qz n rows) (o : Ord n rows l) {k i : Nat} {q : R3} (hi : l[k]? = some i) (hq : rows[i]? = some q) : (yV rows l).1[i]? = some ((yV rows (l.take k)).2, q.2.1, q.2.2) := by
 have hlt := (zj hq).1
 have key : ∀ (r : List Nat) (s : List R3 × Int), i ∉ r -> (r.foldl stp s).1[i]? = s.1[i]? := fun r => by
  induction r with
  | nil => intro s _; rfl
  | cons j r ih =>
   intro s h
   rw [List.foldl_cons, ih _ (fun hm => h (zg _ hm)), stp_other (fun e => h (by rw [e]; exact zq ..))]
 have e : yV rows l = (l.drop (k + 1)).foldl stp (yV rows (l.take (k + 1))) := by
  conv => lhs; rw [<- List.take_append_drop (k + 1) l]
  unfold yV
  rw [List.foldl_append]
 rw [e, key _ _ (not_drop (o.nodup hl) hi), o.next hl hi hq]
 have : i < (yV rows (l.take k)).1.length := by rw [ka]; exact hlt
 simp [this]
theorem wt {bs : List Int} {q : R3} (h0 : 0 <= q.1) (h1 : 0 <= q.2.1) (h : q.1 + q.2.1 <= bs.length) : (gN bs q).length = q.2.1.toNat := by
 unfold gN
 rw [List.length_take, List.length_drop]; omega
theorem Ord.outs_len {bs : List Int} (hl : qz bs.length rows) (o : Ord bs.length rows l) : ∀ k, ((qd bs rows (l.take k)).length : Int) = (yV rows (l.take k)).2
 | 0 => by simp [yV, qd]
 | k + 1 => by
  have ih := Ord.outs_len hl o k
  by_cases hk : k < l.length
  ·obtain ⟨i, hi⟩ : ∃ i, l[k]? = some i := ⟨_, zp hk⟩
   obtain ⟨q, h1, h2⟩ := o.row hi
   have h3 := hl.in_ i q h1 h2
   rw [o.next hl hi h1, ql hi, outs_snoc h1, zr, wt h3.1 (by omega) h3.2.2]
   show _ = (yV rows (l.take k)).2 + q.2.1
   omega
  ·rw [List.take_of_length_le (by omega)]
   rw [List.take_of_length_le (by omega)] at ih
   exact ih
theorem sum_perm {α : Type} {f : α -> Int} {a b : List α} (h : a.Perm b) : (a.map f).sum = (b.map f).sum := by
 induction h with
 | nil => rfl
 | cons x _ ih => simp [ih]
 | swap x y l => simp; omega
 | trans _ _ h1 h2 => exact h1.trans h2
def sz (rows : List R3) (i : Nat) : Int := match rows[i]? with
 | some q => q.2.1
 | none => 0
theorem Ord.sum (hl : qz n rows) (o : Ord n rows l) : ∀ k, (yV rows (l.take k)).2 = ((l.take k).map (sz rows)).sum
 | 0 => by simp [yV]
 | k + 1 => by
  have ih := Ord.sum hl o k
  by_cases hk : k < l.length
  ·obtain ⟨i, hi⟩ : ∃ i, l[k]? = some i := ⟨_, zp hk⟩
   obtain ⟨q, h1, h2⟩ := o.row hi
   rw [o.next hl hi h1, ql hi]
   have : sz rows i = q.2.1 := by unfold sz; rw [h1]
   simp only [ih, List.map_append, List.sum_append, List.map_cons, List.map_nil, List.sum_cons, List.sum_nil, this]
   omega
  ·rw [List.take_of_length_le (by omega)]
   rw [List.take_of_length_le (by omega)] at ih
   exact ih
theorem lvs_sum (f : Nat -> Int) : ∀ (rows : List R3) (k : Nat), (∀ j q, rows[j]? = some q -> f (k + j) = q.2.1) -> ((lvs rows k).map fun x => f x.1).sum = tot rows
 | [], k, _ => by simp [lvs, tot]
 | q :: rows, k, h => by
  have ih := lvs_sum f rows (k + 1) fun j p hj => by
   have := h (j + 1) p (by simpa using hj)
   rw [<- this]; congr 1; omega
  have h0 := h 0 q (by simp)
  simp only [tot, List.map_cons, List.sum_cons] at ih ⊢
  unfold lvs
  split
  ·simp only [List.map_cons, List.sum_cons, ih]
   rw [Nat.add_zero] at h0
   rw [h0]
  ·rw [ih]; omega
theorem kL (hl : qz n rows) : (yV rows (yd rows)).2 = tot rows := by
 have o := jH hl
 have h1 := o.sum hl (yd rows).length
 rw [List.take_of_length_le (Nat.le_refl _)] at h1
 rw [h1]
 unfold yd
 rw [List.map_map, sum_perm (f := (sz rows) ∘ fun x => x.1) sortP_perm]
 exact lvs_sum (sz rows) rows 0 fun j q hj => by rw [Nat.zero_add]; unfold sz; rw [hj]
theorem gO {bs : List Int} (hl : qz bs.length rows) : ((qd bs rows (yd rows)).length : Int) = tot rows := by
 have o := jH hl
 have h1 := o.outs_len hl (yd rows).length
 rw [List.take_of_length_le (Nat.le_refl _)] at h1
 rw [h1, kL hl]
theorem slid_lies {bs : List Int} (hl : qz bs.length rows) : qz (qd bs rows (yd rows)).length (yV rows (yd rows)).1 := by
 have o := jH hl
 have pos : ∀ i p, (yV rows (yd rows)).1[i]? = some p -> p.2.2 > 0 -> ∃ k q, (yd rows)[k]? = some i /\ rows[i]? = some q /\ q.2.2 > 0 /\ p = ((yV rows ((yd rows).take k)).2, q.2.1, q.2.2) := fun i p hp h0 => by
  obtain ⟨a, ha⟩ := slid_of hp
  obtain ⟨k, hk1, hk2⟩ := List.mem_iff_getElem.1 (o.all i _ ha h0)
  have hk : (yd rows)[k]? = some i := List.getElem?_eq_some_iff.2 ⟨hk1, hk2⟩
  have := o.placed hl hk ha
  rw [hp] at this
  exact ⟨k, _, hk, ha, h0, Option.some.inj this⟩
 have nxt : ∀ k i q, (yd rows)[k]? = some i -> rows[i]? = some q -> ∀ m, k < m -> (yV rows ((yd rows).take k)).2 + q.2.1 <= (yV rows ((yd rows).take m)).2 := fun k i q hk hq m hm => by
  have h1 := o.next hl hk hq
  have h2 := o.mono hl (k := k + 1) (m := m) (by omega)
  rw [h1] at h2
  exact h2
 refine ⟨fun i p hp h0 => ?_, fun i j p p' hij hp hp' h0 h0' => ?_, fun i p hp => ?_⟩
 ·obtain ⟨k, q, hk, hq, h1, rfl⟩ := pos i p hp h0
  have h2 := hl.in_ i q hq h1
  have h3 := nxt k i q hk hq (yd rows).length (zj hk).1
  rw [List.take_of_length_le (Nat.le_refl _), kL hl, <- gO hl] at h3
  exact ⟨o.nonneg hl k, h2.2.1, h3⟩
 ·obtain ⟨k, q, hk, hq, h1, rfl⟩ := pos i p hp h0
  obtain ⟨k', q', hk', hq', h1', rfl⟩ := pos j p' hp' h0'
  have hne : k ≠ k' := fun e => by subst e; rw [hk] at hk'; cases hk'; exact hij rfl
  rcases Nat.lt_or_gt_of_ne hne with h | h
  ·exact .inl (nxt k i q hk hq k' h)
  ·exact .inr (nxt k' j q' hk' hq' k h)
 ·obtain ⟨a, ha⟩ := slid_of hp
  exact hl.nn i (a, p.2.1, p.2.2) ha
theorem slid_tot (hl : qz n rows) : tot (yV rows (yd rows)).1 = tot rows := by
 have h : ∀ a b : List R3, a.map (fun q => q.2) = b.map (fun q => q.2) -> tot a = tot b := fun a => by
  induction a with
  | nil => intro b e; cases b with
   | nil => rfl
   | cons => cases e
  | cons x a ih => intro b e; cases b with
   | nil => cases e
   | cons y b =>
    simp only [List.map_cons, List.cons.injEq] at e
    have := ih b e.2
    simp only [tot, List.map_cons, List.sum_cons] at this ⊢
    rw [this, e.1]
 refine h _ _ ?_
 apply List.ext_getElem?
 intro j
 rw [List.getElem?_map, List.getElem?_map]
 exact slid_same rows (yd rows) j
end
open Go.Ab
theorem set6 {X : EE} {k0 k1 k2 k3 k4 k5 : Nat} {v0 v1 v2 v3 v4 v5 : V} (h0 : X k0 = some v0) (h1 : X k1 = some v1) (h2 : X k2 = some v2) (h3 : X k3 = some v3) (h4 : X k4 = some v4) (h5 : X k5 = some v5) : ∃ b, X = MapI.set (MapI.set (MapI.set (MapI.set (MapI.set (MapI.set b k0 v0) k1 v1) k2 v2) k3 v3) k4 v4) k5 v5 :=
 ⟨X, by rw [FM.add h0, FM.add h1, FM.add h2, FM.add h3, FM.add h4, FM.add h5]⟩
theorem set_tri0 {junk : List V} {a b z x : Int} : ∀ {rows : List (Int × Int × Int)} {i : Nat}, rows[i]? = some (a, b, z) -> yu (flat tri rows ++ junk) (i * 3 + 0) [I x] = flat tri (rows.set i (x, b, z)) ++ junk
 | [], _, h => by simp at h
 | y :: rows, 0, h => by simp at h; subst h; simp [flat, tri, yu, ovr]
 | y :: rows, i + 1, h => by
  have := set_tri0 (junk := junk) (x := x) (rows := rows) (i := i) (by simpa using h)
  rw [show (i + 1) * 3 + 0 = i * 3 + 3 from by omega]
  simp only [jl, List.append_assoc, List.set_cons_succ, Nat.add_zero] at this ⊢
  simp only [tri, List.cons_append, List.nil_append, yu, this]
def stk (st : St) (k : Nat) : St := ⟨qd st.bs st.rows ((yd st.rows).take k) ++ st.bs.drop (yV st.rows ((yd st.rows).take k)).2.toNat, st.most, (yV st.rows ((yd st.rows).take k)).1, st.live⟩
theorem stk_zero (st : St) : stk st 0 = st := by
 cases st
 simp [stk, qd, yV]
theorem stk_len {st : St} (hl : qz st.bs.length st.rows) (k : Nat) : (stk st k).bs.length = st.bs.length := by
 have o := jH hl
 have h1 := o.outs_len hl k
 have h2 := o.fits hl k
 show (qd st.bs st.rows ((yd st.rows).take k) ++ st.bs.drop (yV st.rows ((yd st.rows).take k)).2.toNat).length = _
 rw [zr, List.length_drop]
 omega
set_option maxHeartbeats 8000000 in
theorem sslide_ok {h : HH} {c p : Nat} {vb vr : V} {st : St} (r : StoreAt h c p vb vr st) (hlen : st.rows.length <= 1000) (hb : st.bs.length <= 10000000) (hl : qz st.bs.length st.rows) :
  Does 28 [.ptr (some (p, 0))] h c (p :: (zS vb ++ zS vr)) fun v h' c' => v = I ((st.bs.length : Int) - tot st.rows) /\ c <= c' /\ ∃ vb', zS vb' = zS vb /\
   StoreAt h' c' p vb' vr ⟨qd st.bs st.rows (yd st.rows), st.most, (yV st.rows (yd st.rows)).1, st.live⟩ := by
 have hobj := r.obj
 have hlp := r.lp
 have o := jH hl
 obtain ⟨sn, hsn⟩ : ∃ sn, ∀ n ∈ zS vr, n = sn := by
  rcases r.rows with ⟨rfl, _⟩ | ⟨s, _, _, rfl, _⟩
  ·exact ⟨0, fun n hn => by cases hn⟩
  ·exact ⟨s, fun n hn => by simpa [zS] using hn⟩
 have hol : (yd st.rows).length <= st.rows.length := by
  have := lvs_le st.rows 0
  unfold yd
  rw [List.length_map, sort_len]; exact this
 obtain ⟨sb, capb, hvb, _⟩ := r.bytes.shape
 refine yi (enter (fn := Tryz.f28) Tryz.func28 rfl rfl (zf rfl) ?_)
 subst hvb
 repeat' (first | apply zw | apply zx | apply zK | refine za rfl rfl (fun _ => rfl) ?_ | refine zU ?_)
 refine zd rfl ?_
 repeat' (first | apply zw | apply zx | apply zz | apply zK | refine za rfl rfl (fun _ => rfl) ?_ | refine zL rfl rfl (zW rfl rfl rfl hobj rfl ⟨(by simp [zc] <;> omega), ?_⟩))
 refine zL rfl rfl (yj rfl (lying_ok r hlen (lies_parted hl) hsn) (fun x hx => .inl (by simp at hx; rcases hx with h | h <;> simp [h])) (Nat.le_refl _) fun v h4 c4 hc4 hfr4 hq => ?_)
 obtain ⟨hlv, hv, hk⟩ := hq
 have r4 := r.keep hc4 hk
 obtain ⟨sl, capl, hvl, _⟩ := hlv.shape
 subst hvl
 repeat' (first | apply zB | apply zK | refine za rfl rfl (fun _ => rfl) ?_)
 refine zI ?_
 refine zQ (X := Nat) (fun k e h' c' => (∃ b0, e = MapI.set (MapI.set (MapI.set (MapI.set (MapI.set (MapI.set b0 0 (.ptr (some (p, 0)))) 3 (I st.bs.length)) 4 (I (yV st.rows ((yd st.rows).take k)).2)) 15 (.slice sl (yd st.rows).length capl)) 16 (I (yd st.rows).length)) 17 (I k)) /\ k <= (yd st.rows).length /\
   StoreAt h' c' p (.slice sb st.bs.length capb) vr (stk st k) /\ ListOf 1 (ptrV sn) h' c' (.slice sl (yd st.rows).length capl) (yd st.rows) /\ c' = c4)
  (fun k => (yd st.rows).length - k) ?_ 0 _ _ _ ⟨set6 rfl rfl rfl rfl rfl rfl, Nat.zero_le _, by rw [stk_zero]; exact r4, hlv, rfl⟩
 rintro k e h' c' ⟨⟨b0, rfl⟩, hk0, r', hlv', rfl⟩
 repeat' (first | apply zw | apply zx | apply zK | refine za rfl rfl (fun _ => rfl) ?_)
 refine zH rfl (fun hlt => ?_) (fun hge => ?_)
 case refine_2 =>
  have hge : (yd st.rows).length <= k := by simpa using hge
  have hk1 : (yd st.rows).take k = yd st.rows := List.take_of_length_le hge
  have hst : stk st k = ⟨qd st.bs st.rows (yd st.rows) ++ st.bs.drop (yV st.rows (yd st.rows)).2.toNat, st.most, (yV st.rows (yd st.rows)).1, st.live⟩ := by unfold stk; rw [hk1]
  rw [hst] at r'
  rw [hk1]
  have hobj' := r'.obj
  have ho := gO hl
  have ht := kL hl
  obtain ⟨t, hte⟩ : ∃ t : Nat, (yV st.rows (yd st.rows)).2 = t := ⟨(qd st.bs st.rows (yd st.rows)).length, by omega⟩
  have hfit := o.fits hl (yd st.rows).length
  rw [List.take_of_length_le (Nat.le_refl _)] at hfit
  rw [hte] at hfit ⊢
  have hw : IntKind.i64.wrap ((st.bs.length : Int) - (t : Int)) = (st.bs.length : Int) - tot st.rows := by rw [Go.IntWalk.i64_in _ (by omega)]; omega
  rcases r'.bytes with ⟨hvb, hnil⟩ | ⟨s, cl, junk, hvb, hs1, hs2, hs3⟩
  ·have ho0 : qd st.bs st.rows (yd st.rows) = [] := (List.append_eq_nil_iff.1 hnil).1
   have ht0 : t = 0 := by rw [ho0] at ho; simp at ho; omega
   injection hvb with e1 e2 e3
   subst e1
   subst e3
   subst ht0
   repeat' (first | apply zw | apply zx | apply zF | apply zG | apply zK | refine za rfl rfl (fun _ => rfl) ?_ | refine zL rfl rfl (zW rfl rfl rfl hobj' rfl ⟨(by simp [zc] <;> omega), ?_⟩) | refine zL rfl rfl (ya (k := 1) rfl rfl rfl rfl hobj' (zf rfl) rfl ⟨(by simp [zc] <;> omega), ?_⟩))
   refine z6 rfl ⟨by show V.int _ _ = _; rw [hw], by omega, .slice none 0 (.known 0), rfl, zt _ _ _, ?_, ?_, r'.lp, fun n hn => (by cases hn), r'.nr, fun n hn => (by cases hn)⟩
   ·rw [ho0]; exact .nil
   ·exact r'.rows.keep (Nat.le_refl _) fun n hn hm => zu _ _ _ _ (Ne.symm (r'.nr n hm))
  ·injection hvb with e1 e2 e3
   subst e1
   subst e3
   have hps : p ≠ s := fun e => r'.nb s (by simp [zS]) e.symm
   repeat' (first | apply zw | apply zx | apply zF | apply zG | apply zK | refine za rfl rfl (fun _ => rfl) ?_ | refine zL rfl rfl (zW rfl rfl rfl hobj' rfl ⟨(by simp [zc] <;> omega), ?_⟩) | refine zL rfl rfl (qp rfl rfl rfl rfl rfl (l := 0) rfl (jq rfl) (Nat.zero_le _) (by omega) rfl ⟨(by simp [zc] <;> omega), ?_⟩) | refine zL rfl rfl (ya (k := 1) rfl rfl rfl rfl hobj' (zf rfl) rfl ⟨(by simp [zc] <;> omega), ?_⟩))
   refine z6 rfl ⟨by show V.int _ _ = _; rw [hw], by omega, .slice (some (s, 0)) t (.upTo 1), rfl, ?_, ?_, ?_, r'.lp, r'.nb, r'.nr, r'.br⟩
   ·refine (zt (S := HH) (α := AObj) _ _ _).trans ?_
    simp only [Nat.sub_zero]
    rfl
   ·refine .inr ⟨s, cl, flat qb (st.bs.drop (yV st.rows (yd st.rows)).2.toNat) ++ junk, ?_, hs1, ?_, ?_⟩
    ·have : (qd st.bs st.rows (yd st.rows)).length = t := by omega
     rw [this]
    ·rw [zu _ _ _ _ hps, hs2, jn, List.append_assoc, hte]
    ·rw [List.all_append, qk byte_all, hs3]; rfl
   ·exact r'.rows.keep (Nat.le_refl _) fun n hn hm => zu _ _ _ _ (Ne.symm (r'.nr n hm))
 have hlt : k < (yd st.rows).length := by simpa using hlt
 obtain ⟨i, hi⟩ : ∃ i, (yd st.rows)[k]? = some i := ⟨_, zp hlt⟩
 obtain ⟨⟨a, n, cnt⟩, hq, hq0⟩ := o.row hi
 have hin := hl.in_ i _ hq hq0
 simp only at hin hq0
 obtain ⟨a, rfl⟩ : ∃ z : Nat, a = z := ⟨a.toNat, by omega⟩
 obtain ⟨n, rfl⟩ : ∃ z : Nat, n = z := ⟨n.toNat, by omega⟩
 have hle := o.le hl hi hq
 have hnn := o.nonneg hl k
 have hol2 := o.outs_len hl k
 have hnx := o.next hl hi hq
 obtain ⟨t, hte⟩ : ∃ t : Nat, (yV st.rows ((yd st.rows).take k)).2 = t := ⟨(yV st.rows ((yd st.rows).take k)).2.toNat, by omega⟩
 have hst : stk st k = ⟨qd st.bs st.rows ((yd st.rows).take k) ++ st.bs.drop t, st.most, (yV st.rows ((yd st.rows).take k)).1, st.live⟩ := by unfold stk; rw [hte]; rfl
 have hst1 : stk st (k + 1) = ⟨qd st.bs st.rows ((yd st.rows).take k) ++ (gN st.bs ((a : Int), (n : Int), cnt) ++ st.bs.drop (t + n)), st.most, (yV st.rows ((yd st.rows).take k)).1.set i ((t : Int), (n : Int), cnt), st.live⟩ := by
  unfold stk
  rw [hnx, ql hi, outs_snoc hq, hte, List.append_assoc]
  simp only [St.mk.injEq, true_and, and_true]
  congr 3
 rw [hte] at hle hol2 ⊢
 have hstill := o.still hl hi hq
 rw [hst] at r'
 have hLl : (qd st.bs st.rows ((yd st.rows).take k) ++ st.bs.drop t).length = st.bs.length := by
  have := stk_len hl k
  rw [hst] at this
  exact this
 have hobj' := r'.obj
 rcases r'.bytes with ⟨_, hnil⟩ | ⟨sbn, clb, jkb, hvb, hsbn, hgb, hjb⟩
 ·have hnil : qd st.bs st.rows ((yd st.rows).take k) ++ st.bs.drop t = [] := hnil
  rw [hnil] at hLl; simp at hLl; omega
 injection hvb with e1 e2 e3
 subst e1
 subst e3
 have hil : i < (yV st.rows ((yd st.rows).take k)).1.length := (zj hstill).1
 rcases r'.rows with ⟨_, hnil⟩ | ⟨sn', cl, junk, hvr, hsn', hg, hjk⟩
 ·have hnil : (yV st.rows ((yd st.rows).take k)).1 = [] := hnil
  rw [hnil] at hil; simp at hil
 subst hvr
 have hsnn : sn' = sn := hsn sn' (by simp [zS])
 subst hsnn
 rcases hlv' with ⟨_, hnil⟩ | ⟨ls, cll, jkl, hvl, hls, hgl, hjl⟩
 ·rw [hnil] at hlt; simp at hlt
 injection hvl with e1 e2 e3
 subst e1
 subst e3
 simp only at hgb hg hobj'
 have nps : p ≠ sbn := fun e => r'.nb sbn (by simp [zS]) e.symm
 have nps2 : p ≠ sn' := fun e => r'.nr sn' (by simp [zS]) e.symm
 have nbs : sbn ≠ sn' := fun e => r'.br sbn (by simp [zS]) (by simp [zS, e])
 have hcls : c <= ls := hv ls (by simp [zS])
 have hbl : ∀ m ∈ zS (V.slice (some (sbn, 0)) st.bs.length (.upTo 1)), m < c := r.bytes.lt
 have hrl : ∀ m ∈ zS (V.slice (some (sn', 0)) (yV st.rows ((yd st.rows).take k)).1.length (.upTo 3)), m < c := fun m hm => r.rows.lt m hm
 have hsbc : sbn < c := hbl sbn (by simp [zS])
 have hsnc : sn' < c := hrl sn' (by simp [zS])
 have hn0 : nth (flat (ptrV sn') (yd st.rows) ++ jkl) (0 + ((k : Nat) : Int).toNat * 1) = some (.ptr (some (sn', i * 3))) := by
  have := (jM (ptr_len sn') hi (Nat.lt_succ_self 0) jkl).trans (show nth (ptrV sn' i) 0 = some (.ptr (some (sn', i * 3))) from rfl)
  simpa using this
 have hz0 : nth (flat tri (yV st.rows ((yd st.rows).take k)).1 ++ junk) (i * 3 + 0) = some (I a) := (jM jU hstill (by omega) junk).trans rfl
 have hz1 : nth (flat tri (yV st.rows ((yd st.rows).take k)).1 ++ junk) (i * 3 + 1) = some (I n) := (jM jU hstill (by omega) junk).trans rfl
 have hwan : IntKind.i64.wrap ((a : Int) + (n : Int)) = ((a + n : Nat) : Int) := by rw [Go.IntWalk.i64_in _ (by omega)]; omega
 have hmin : min (a + n - a) (st.bs.length - t) = n := by omega
 have hchunk : ((qd st.bs st.rows ((yd st.rows).take k) ++ st.bs.drop t).drop a).take n = gN st.bs ((a : Int), (n : Int), cnt) := by
  unfold gN
  rw [List.drop_append, List.drop_eq_nil_of_le (by omega), List.nil_append, List.drop_drop, show t + (a - (qd st.bs st.rows ((yd st.rows).take k)).length) = a from by omega]
  rfl
 have hcut : cut (flat qb (qd st.bs st.rows ((yd st.rows).take k) ++ st.bs.drop t) ++ jkb) (0 + a * (0 + 1)) (min (a + n - a) (st.bs.length - t) * 1) = some (flat qb (gN st.bs ((a : Int), (n : Int), cnt))) := by
  rw [hmin, show 0 + a * (0 + 1) = a from by simp, Nat.mul_one, cut_bytes (by omega), hchunk]
 have hcl : (gN st.bs ((a : Int), (n : Int), cnt)).length = n := by rw [wt (by simp only; omega) (by simp only; omega) hin.2.2]; simp
 have hfx : (flat qb (gN st.bs ((a : Int), (n : Int), cnt))).length = n := by rw [yv gr, hcl]; omega
 have hfb : (flat qb (qd st.bs st.rows ((yd st.rows).take k) ++ st.bs.drop t) ++ jkb).length = st.bs.length + jkb.length := by rw [zr, yv gr]; omega
 repeat' (first | apply zw | apply zx | apply zy | apply zz | apply zB | apply zK | refine za rfl rfl (fun _ => rfl) ?_ | refine zb rfl rfl (fun _ => rfl) ?_ | refine zL rfl rfl (zZ (k := 1) rfl rfl rfl rfl ⟨by omega, by omega⟩ ⟨(by simp [zc] <;> omega), ?_⟩) | refine zL rfl rfl (zW rfl rfl rfl hgl hn0 ⟨(by simp [zc] <;> omega), ?_⟩) | refine zO rfl rfl (zW rfl rfl rfl hobj' rfl ⟨(by simp [zc] <;> omega), ?_⟩) | refine zO rfl rfl (zW rfl rfl rfl hg hz0 ⟨(by simp [zc] <;> omega), ?_⟩) | refine zO rfl rfl (zW rfl rfl rfl hg hz1 ⟨(by simp [zc] <;> omega), ?_⟩) | refine zO rfl rfl (qp rfl rfl rfl rfl rfl (jq (n := t) rfl) rfl (by omega) (by omega) rfl ⟨(by simp [zc] <;> omega), ?_⟩) | refine zO rfl rfl (qp rfl rfl rfl rfl rfl (jq (n := a) rfl) (jq hwan) (by omega) (by omega) rfl ⟨(by simp [zc] <;> omega), ?_⟩) | refine zO rfl rfl (op_copy (k := 1) rfl rfl rfl rfl (by omega) hgb hcut hgb (by omega) (qk byte_all _) ⟨(by simp [zc] <;> omega), ?_⟩))
 refine zN (ym (cs := [0, 1, 3, 7, 0, 31, 0, 64, 192, 448, 0, 1024, 3072, 7168, 0, 16384, 49152, 114688, 0, 262144, 786432, 1835008, 4177920, 8388544, 16777215]) (by decide +kernel) ?_) ?_
 ·simp +contextual [jt, apP, Dis, yF, yE, yw, yA, Nat.testBit, nps, nps2, nbs]
 have g5 : ∀ x : AObj, MapI.get (MapI.set h' sbn x) sn' = some (.cells true cl (flat tri (yV st.rows ((yd st.rows).take k)).1 ++ junk)) := fun x => by rw [zu _ _ _ _ nbs]; exact hg
 have g6 : ∀ (g : HH) (y : AObj), MapI.get (MapI.set g sn' y) sn' = some y := fun g y => zt _ _ _
 have hfl : i * 3 + 0 + 1 <= (flat tri (yV st.rows ((yd st.rows).take k)).1 ++ junk).length := by rw [zr, yv jU]; omega
 have hz' : ((yV st.rows ((yd st.rows).take k)).1.set i ((t : Int), (n : Int), cnt))[i]? = some ((t : Int), (n : Int), cnt) := by simp [hil]
 have hn1 : nth (yu (flat tri (yV st.rows ((yd st.rows).take k)).1 ++ junk) (i * 3 + 0) [I t]) (i * 3 + 1) = some (I n) := by
  rw [set_tri0 hstill]; exact (jM jU hz' (by omega) junk).trans rfl
 have hwt : IntKind.i64.wrap ((t : Int) + (n : Int)) = ((yV st.rows ((yd st.rows).take (k + 1))).2) := by rw [hnx, hte, Go.IntWalk.i64_in _ (by omega)]
 have hwk : IntKind.i64.wrap ((k : Int) + 1) = ((k + 1 : Nat) : Int) := by rw [Go.IntWalk.i64_in _ (by omega)]; omega
 repeat' (first | apply zw | apply zx | apply zK | refine za rfl rfl (fun _ => rfl) ?_ | refine zU ?_ | refine zL rfl rfl (ya (k := 1) rfl rfl rfl rfl (g5 _) hfl rfl ⟨(by simp [zc] <;> omega), ?_⟩) | refine zL rfl rfl (zW rfl rfl rfl (g6 _ _) hn1 ⟨(by simp [zc] <;> omega), ?_⟩))
 refine ⟨k + 1, by omega, ?_, by omega, ?_, ?_, rfl⟩
 ·rw [hwt, hwk]
  exact set6 rfl rfl rfl rfl rfl rfl
 ·rw [hst1]
  refine ⟨?_, .inr ⟨sbn, clb, jkb, ?_, hsbn, ?_, hjb⟩, .inr ⟨sn', cl, junk, ?_, hsn', ?_, hjk⟩, r'.lp, r'.nb, fun m hm => r'.nr m (by simpa [zS] using hm), fun m hm hm2 => r'.br m hm (by simpa [zS] using hm2)⟩
  ·rw [zu _ _ _ _ (Ne.symm nps2), zu _ _ _ _ (Ne.symm nps)]
   exact hobj'
  ·simp only [zr, hcl, List.length_drop] at hLl ⊢
   congr 1
   omega
  ·rw [zu _ _ _ _ (Ne.symm nbs)]
   refine (zt (S := HH) (α := AObj) _ _ _).trans ?_
   have hfo : (flat qb (qd st.bs st.rows ((yd st.rows).take k))).length = t := by rw [yv gr]; omega
   have := ge (flat qb (qd st.bs st.rows ((yd st.rows).take k))) (flat qb (st.bs.drop t) ++ jkb) (flat qb (gN st.bs ((a : Int), (n : Int), cnt))) (by rw [hfx, zr, yv gr, List.length_drop]; omega)
   rw [hfo, hfx] at this
   have e2 : (flat qb (st.bs.drop t) ++ jkb).drop n = flat qb (st.bs.drop (t + n)) ++ jkb := by
    rw [List.drop_append_of_le_length (by rw [yv gr, List.length_drop]; omega), flat_byte, flat_byte, <- List.map_drop, List.drop_drop]
   rw [e2, <- List.append_assoc, <- jn] at this
   rw [show 0 + t * (0 + 1) = t from by simp, this, jn, jn]
   simp only [List.append_assoc]
  ·simp
  ·refine (zt (S := HH) (α := AObj) _ _ _).trans ?_
   exact congrArg (fun x => some (AObj.cells true cl x)) (set_tri0 hstill)
 ·refine .inr ⟨ls, cll, jkl, rfl, hls, ?_, hjl⟩
  rw [zu _ _ _ _ (by omega), zu _ _ _ _ (by omega)]
  exact hgl
open Go.Ab
def kR (st : St) : St := ⟨qd st.bs st.rows (yd st.rows), st.most, (yV st.rows (yd st.rows)).1, st.live⟩
def jA (st : St) (n : Int) : St := if (st.bs.length : Int) <= st.most - n then st else kR st
theorem room_rows (st : St) (n : Int) : (jA st n).rows.length = st.rows.length := by
 unfold jA kR
 split
 ·rfl
 ·exact ka _ _
theorem room_most (st : St) (n : Int) : (jA st n).most = st.most := by unfold jA kR; split <;> rfl
theorem room_live (st : St) (n : Int) : (jA st n).live = st.live := by unfold jA kR; split <;> rfl
set_option maxHeartbeats 4000000 in
theorem grant_full {h : HH} {c p m o n : Nat} {vb vr : V} {st : St} {cap : Cap} {rw' cl' : Bool} {cs : List V} {ys : List Int} (r : StoreAt h c p vb vr st) (hl : qz st.bs.length st.rows) (htot : st.live = tot st.rows) (hfit : (st.bs.length : Int) <= st.most) (hn : 0 < n) (hn2 : n <= 1048576) (hy : ys.length = n) (hx : MapI.get h m = some (.cells rw' cl' cs)) (hcut : cut cs o (n * 1) = some (flat qb ys)) (hm : 0 <= st.most /\ st.most <= 1048576)
  (hlive : 0 <= st.live /\ st.live <= 1048576) (hyes : st.live <= st.most - n) (hlen : st.rows.length <= 1000) (hmc : m < c) (hmn : m ∉ p :: (zS vb ++ zS vr)) :
  Does 9 [.ptr (some (p, 0)), .slice (some (m, o)) n cap] h c (m :: p :: (zS vb ++ zS vr)) fun v h' c' => MapI.get h' m = MapI.get h m /\ ∃ (i : Nat) (vb' vr' : V) (rows' : List (Int × Int × Int)), v = .tuple [I ((i + 1 : Nat) : Int), .bool true] /\
   StoreAt h' c' p vb' vr' ⟨(jA st n).bs ++ ys, st.most, rows', st.live + n⟩ /\ (∀ a ∈ zS vb' ++ zS vr', a ∈ zS vb ++ zS vr \/ c <= a) /\ i <= st.rows.length /\ (∀ j q, j < i -> (jA st n).rows[j]? = some q -> q.2.2 ≠ 0) /\
   ((∃ q, (jA st n).rows[i]? = some q /\ q.2.2 = 0 /\ rows' = (jA st n).rows.set i ((jA st n).bs.length, n, 1)) \/ (i = st.rows.length /\ rows' = (jA st n).rows ++ [(((jA st n).bs.length : Int), (n : Int), (1 : Int))])) := by
 have hobj := r.obj
 have hlp := r.lp
 have hw : IntKind.i64.wrap (st.most - (n : Int)) = st.most - n := Go.IntWalk.i64_in _ (by omega)
 have hw2 : IntKind.i64.wrap (st.live + (n : Int)) = st.live + n := Go.IntWalk.i64_in _ (by omega)
 have hot := gO hl
 obtain ⟨sb, cb, rfl, _⟩ := r.bytes.shape
 refine yi (enter (fn := Tryz.f9) Tryz.func9 rfl rfl (zf rfl) ?_)
 repeat' (first | apply zw | apply zx | apply zB | apply zK | refine za rfl rfl (fun _ => rfl) ?_ | refine zU ?_)
 refine zd rfl ?_
 repeat' (first | apply zw | apply zx | apply zK | refine za rfl rfl (fun _ => rfl) ?_ | refine zU ?_)
 refine zH rfl (fun hb => by simp at hb; omega) (fun _ => ?_)
 repeat' (first | apply zw | apply zy | refine zb rfl rfl (fun _ => rfl) ?_ | refine zO rfl rfl (zW rfl rfl rfl hobj rfl ⟨(by simp [zc] <;> omega), ?_⟩))
 refine zN (ym (cs := [0, 1, 3, 7, 0, 16, 48, 112, 0, 256, 1008, 2047, 4095]) (by decide +kernel) ?_) ?_
 ·simp +contextual [jt, apP, Dis, yF, yE, yw, yA, Nat.testBit]
 refine zH rfl (fun hb => by rw [hw] at hb; simp at hb; omega) (fun _ => ?_)
 repeat' (first | refine zJ (a := Code.seq (Code.region 7 _ _) _) (fun e h1 c1 => (∃ b0, e = MapI.set (MapI.set b0 0 (.ptr (some (p, 0)))) 1 (.slice (some (m, o)) n cap)) /\ c <= c1 /\ MapI.get h1 m = MapI.get h m /\ ∃ vb1, zS vb1 = zS (.slice sb st.bs.length cb) /\ StoreAt h1 c1 p vb1 vr (jA st n)) ?_ ?_ | apply zw | apply zy | apply zz | refine zb rfl rfl (fun _ => rfl) ?_)
 ·
  repeat' (first | refine zb rfl rfl (fun _ => rfl) ?_ | refine zO rfl rfl (zW rfl rfl rfl hobj rfl ⟨(by simp [zc] <;> omega), ?_⟩))
  refine zN (ym (cs := [0, 1, 3, 7, 15, 0, 32, 96, 224, 0, 512, 2016, 4095]) (by decide +kernel) ?_) ?_
  ·simp +contextual [jt, apP, Dis, yF, yE, yw, yA, Nat.testBit]
  refine zH rfl (fun hb => ?_) (fun hb => ?_)
  ·rw [hw] at hb
   have hb : (st.bs.length : Int) > st.most - n := by simpa using hb
   have hr : jA st n = kR st := by unfold jA; rw [if_neg (by omega)]
   repeat' (first | apply zx | refine za rfl rfl (fun _ => rfl) ?_)
   refine zL rfl rfl (yj rfl (sslide_ok r hlen (by omega) hl) (fun x hx => .inl (zg _ hx)) (Nat.le_refl _) fun v h4 c4 hc4 hfr4 hq => ?_)
   obtain ⟨rfl, _, vb', hvb, r4⟩ := hq
   repeat' (first | apply zK | refine zU ?_)
   refine ⟨set2 rfl rfl, hc4, hfr4 m hmc hmn, vb', hvb, ?_⟩
   rw [hr]; exact r4
  ·rw [hw] at hb
   have hb : ¬ (st.bs.length : Int) > st.most - n := by simpa using hb
   have hr : jA st n = st := by unfold jA; rw [if_pos (by omega)]
   repeat' (first | apply zz | refine zU ?_)
   refine ⟨set2 rfl rfl, Nat.le_refl _, rfl, _, rfl, ?_⟩
   rw [hr]; exact r
 rintro e1 h1 c1 ⟨⟨b1, rfl⟩, hc1, hx1, vb1, hvb1, r1⟩
 have hlen1 : (jA st n).rows.length <= 1000 := by rw [room_rows]; exact hlen
 have hmost := room_most st n
 have hlv := room_live st n
 have hbs1 : ((jA st n).bs.length : Int) <= st.most - n := by
  unfold jA
  split
  ·next h => exact h
  ·show ((qd st.bs st.rows (yd st.rows)).length : Int) <= _
   omega
 have hrl := room_rows st n
 generalize jA st n = s1 at r1 hlen1 hmost hlv hbs1 hrl ⊢
 rw [hx] at hx1
 have hmn1 : m ∉ p :: (zS vb1 ++ zS vr) := by rw [hvb1]; exact hmn
 have hmc1 : m < c1 := by omega
 obtain ⟨sb1, cb1, rfl, _⟩ := r1.bytes.shape
 repeat' (first | apply zw | apply zx | refine za rfl rfl (fun _ => rfl) ?_)
 refine zL rfl rfl (yj rfl (free_ok r1 hlen1) (fun x hx => .inl (by simp at hx ⊢; rcases hx with h | h <;> simp [h])) hc1 fun v h4 c4 hc4 hfr4 hq => ?_)
 obtain ⟨i, rfl, hq⟩ := hq
 have key : ∃ vr4 rows4, StoreAt h4 c4 p (.slice sb1 s1.bs.length cb1) vr4 { s1 with rows := rows4 } /\ (∀ a ∈ zS vr4, a ∈ zS vr \/ c1 <= a) /\ i < rows4.length /\ i <= s1.rows.length /\ (∀ j q, j < i -> s1.rows[j]? = some q -> q.2.2 ≠ 0) /\
   ((∃ q, s1.rows[i]? = some q /\ q.2.2 = 0 /\ rows4.set i ((s1.bs.length : Int), (n : Int), (1 : Int)) = s1.rows.set i (s1.bs.length, n, 1)) \/ (i = s1.rows.length /\ rows4.set i ((s1.bs.length : Int), (n : Int), (1 : Int)) = s1.rows ++ [((s1.bs.length : Int), (n : Int), (1 : Int))])) := by
  rcases hq with ⟨q, h1, h2, h3, h4⟩ | ⟨rfl, h3, vr4, h4, h5⟩
  ·have := (zj h1).1
   exact ⟨vr, s1.rows, h4, fun a ha => .inl ha, this, by omega, h3, .inl ⟨q, h1, h2, rfl⟩⟩
  ·exact ⟨vr4, _, h4, h5, by simp, Nat.le_refl _, fun j q hj => h3 j q hj, .inr ⟨rfl, by simp⟩⟩
 obtain ⟨vr4, rows4, r4, hn4, hi4, hil, hbefore, hrows4⟩ := key
 have hobj4 := r4.obj
 obtain ⟨s4, cap4, rfl, hs4⟩ := r4.rows.shape
 obtain ⟨rfl, sn, cl, junk, rfl, hsn, hg4, hj4⟩ := hs4 i hi4
 simp only at hobj4 hg4 hi4
 have hps : p ≠ sn := fun e => r4.nr sn (by simp [zS]) e.symm
 have hmsn : m ≠ sn := fun e => by
  rcases hn4 sn (by simp [zS]) with h | h
  ·exact hmn (by rw [e]; simp [h])
  ·omega
 have hmp : m ≠ p := fun e => hmn (by simp [e])
 have hx4 : MapI.get h4 m = some (.cells rw' cl' cs) := by
  rw [hfr4 m hmc1 (fun hm => hmn (by simp at hm ⊢; rcases hm with h | h <;> simp [h]))]; exact hx1
 have hfl : 0 + ((i : Nat) : Int).toNat * 3 + 3 <= (flat tri rows4 ++ junk).length := by
  rw [zr, yv jU]; simp; omega
 have hLsn : InL (m :: p :: (zS (.slice sb st.bs.length cb) ++ zS vr)) c (.wr sn) := by
  rcases hn4 sn (by simp [zS]) with h | h
  ·exact .inl (by simp [yE, h])
  ·exact .inr (Nat.le_trans hc1 h)
 have hLsr : InL (m :: p :: (zS (.slice sb st.bs.length cb) ++ zS vr)) c (.rd sn) := by
  rcases hn4 sn (by simp [zS]) with h | h
  ·exact .inl (by simp [yF, h])
  ·exact .inr (Nat.le_trans hc1 h)
 have hLl : ∀ x ∈ [Acc.rd sn, Acc.wr sn], InL (m :: p :: (zS (.slice sb st.bs.length cb) ++ zS vr)) c x := fun x hx => by
  simp at hx; rcases hx with rfl | rfl <;> assumption
 have hr5 := r4.setRow (cl := cl) (junk := junk) (rows' := rows4.set i (s1.bs.length, n, 1)) hsn hj4 (by simp)
 have e5 : yu (flat tri rows4 ++ junk) (0 + ((i : Nat) : Int).toNat * 3) [I s1.bs.length, I n, I 1] = flat tri (rows4.set i (s1.bs.length, n, 1)) ++ junk := by
  rw [show 0 + ((i : Nat) : Int).toNat * 3 = i * 3 from by simp]; exact set_tri hi4
 rw [<- e5] at hr5
 have hobj5 := hr5.obj
 simp only at hobj5
 have hx5 : MapI.get (MapI.set h4 sn (.cells true cl (yu (flat tri rows4 ++ junk) (0 + ((i : Nat) : Int).toNat * 3) [I s1.bs.length, I n, I 1]))) m = some (.cells rw' cl' cs) := by
  rw [zu _ _ _ _ (Ne.symm hmsn)]; exact hx4
 repeat' (first | apply zw | apply zy | apply zK | refine za rfl rfl (fun _ => rfl) ?_ | refine zb rfl rfl (fun _ => rfl) ?_ | refine zO rfl rfl (zW rfl rfl rfl hobj4 rfl ⟨(by simp [zc] <;> omega), ?_⟩) | refine zO rfl rfl (zZ (k := 3) rfl rfl rfl rfl ⟨by omega, by omega⟩ ⟨(by simp [zc] <;> omega), ?_⟩) | refine zO rfl rfl (ya (k := 3) rfl rfl rfl rfl hg4 hfl rfl ⟨hLl, ?_⟩))
 refine zN (ym (cs := [0, 1, 3, 7, 0, 0, 32, 96, 224, 480, 0, 1024, 4064, 8191, 16383]) (by decide +kernel) ?_) ?_
 ·simp +contextual [jt, apP, Dis, yF, yE, yw, yA, Nat.testBit, hps]
 repeat' (first | apply zw | apply zx | refine za rfl rfl (fun _ => rfl) ?_ | refine zL rfl rfl (zW rfl rfl rfl hobj5 rfl ⟨(by simp [zc] <;> omega), ?_⟩))
 refine zL rfl rfl (kN (ys := ys) rfl rfl elB rfl gr byte_all hr5.bytes hx5 hcut hy (by simp only; omega) (.inl (by simp [yF])) (fun a ha => by rw [hvb1] at ha; exact ⟨.inl (by simp [yF, ha]), .inl (by simp [yE, ha])⟩) (.inr (by simp [yE]; omega)) fun v6 h6 c6 hl6 hn6 hc6 hf6 => ?_)
 have hone := hl6.one
 have hbp : ∀ a ∈ zS (.slice sb1 s1.bs.length cb1), a < c4 := r4.bytes.lt
 have hobj6 : MapI.get h6 p = some (.cells true true [.slice sb1 s1.bs.length cb1, I s1.most, .slice (some (sn, 0)) rows4.length (.upTo 3), I s1.live]) := by
  rw [hf6 p (by have := r4.lp; omega) (fun hm => r4.nb p hm rfl)]; exact hobj5
 have hnb6 : ∀ a ∈ zS v6, a ≠ p := fun a ha e => by
  rcases hn6 a ha with h | ⟨h, _⟩
  ·exact r4.nb a h e
  ·have := r4.lp; omega
 have hobj7 : MapI.get (MapI.set h6 p (.cells true true (yu [.slice sb1 s1.bs.length cb1, I s1.most, .slice (some (sn, 0)) rows4.length (.upTo 3), I s1.live] 0 (yR v6)))) p = some (.cells true true [v6, I s1.most, .slice (some (sn, 0)) rows4.length (.upTo 3), I s1.live]) := by
  rw [zt, hone.1]; rfl
 repeat' (first | apply zw | apply zx | apply zG | apply zK | refine za rfl rfl (fun _ => rfl) ?_ | refine zL rfl rfl (ya (k := 1) rfl rfl rfl (by rw [hone.1]; rfl) hobj6 (zf rfl) (by rw [hone.1]; simp [hone.2]) ⟨(by simp [zc] <;> omega), ?_⟩) | refine zL rfl rfl (zW rfl rfl rfl hobj7 rfl ⟨(by simp [zc] <;> omega), ?_⟩) | refine zL rfl rfl (ya (k := 1) rfl rfl rfl rfl hobj7 (zf rfl) rfl ⟨(by simp [zc] <;> omega), ?_⟩))
 have hm6 : m ≠ c4 := by omega
 refine z6 rfl ⟨?_, i, v6, .slice (some (sn, 0)) rows4.length (.upTo 3), rows4.set i (s1.bs.length, n, 1), ?_, ⟨?_, ?_, ?_, by have := r4.lp; omega, hnb6, r4.nr, ?_⟩, fun a ha => ?_, by omega, hbefore, by rw [<- hrl]; exact hrows4⟩
 ·rw [zu _ _ _ _ (Ne.symm hmp), zu _ _ _ _ (Ne.symm hmp), hf6 m hm6 (fun hm => hmn1 (zg _ (zh _ hm)))]
  exact hx5.trans hx.symm
 ·have hwi : IntKind.i64.wrap ((i : Int) + 1) = ((i + 1 : Nat) : Int) := by rw [Go.IntWalk.i64_in _ (by omega)]; omega
  show V.tuple [V.int _ _, _] = _
  rw [hwi]
 ·refine (zt (S := HH) (α := AObj) _ _ _).trans ?_
  show some (AObj.cells true true [v6, I s1.most, .slice (some (sn, 0)) rows4.length (.upTo 3), I (IntKind.i64.wrap (s1.live + n))]) = _
  rw [hlv, hw2, hmost]
 ·refine hl6.keep (Nat.le_refl _) fun a _ ha => ?_
  rw [zu _ _ _ _ (Ne.symm (hnb6 a ha)), zu _ _ _ _ (Ne.symm (hnb6 a ha))]
 ·refine .inr ⟨sn, cl, junk, by simp, by omega, ?_, hj4⟩
  rw [zu _ _ _ _ hps, zu _ _ _ _ hps, hf6 sn (by omega) (fun hm => r4.br sn hm (by simp [zS])), zt]
  exact congrArg (fun x => some (AObj.cells true cl x)) e5
 ·intro a ha hm
  simp [zS] at hm
  subst hm
  rcases hn6 a ha with h | ⟨h, _⟩
  ·exact r4.br a h (by simp [zS])
  ·omega
 ·rcases zk ha with ha | ha
  ·rcases hn6 a ha with h | ⟨h, _⟩
   ·exact .inl (zh _ (hvb1 ▸ h))
   ·exact .inr (by omega)
  ·rcases hn4 a ha with h | h
   ·exact .inl (zi _ h)
   ·exact .inr (Nat.le_trans hc1 h)
open Go.Ab
structure Good (st : St) : Prop where
 lies : qz st.bs.length st.rows
 tot : st.live = tot st.rows
 fit : (st.bs.length : Int) <= st.most
 most : 0 <= st.most /\ st.most <= 1048576
def Holds (st : St) (i : Nat) (ys : List Int) (cnt : Int) : Prop := 0 < cnt /\ ∃ a : Int, st.rows[i]? = some (a, (ys.length : Int), cnt) /\ gN st.bs (a, (ys.length : Int), cnt) = ys
theorem Good.live0 {st : St} (g : Good st) : 0 <= st.live /\ st.live <= st.bs.length := by
 have o := jH g.lies
 have h1 := o.nonneg g.lies (yd st.rows).length
 have h2 := o.fits g.lies (yd st.rows).length
 rw [List.take_of_length_le (Nat.le_refl _), kL g.lies] at h1 h2
 rw [g.tot]; exact ⟨h1, h2⟩
theorem good_new {most : Int} (h0 : 0 <= most) (h1 : most <= 1048576) : Good ⟨[], most, [], 0⟩ :=
 ⟨⟨fun i q h => by simp at h, fun i j q p _ h => by simp at h, fun i q h => by simp at h⟩, rfl, h0, h0, h1⟩
theorem good_slid {st : St} (g : Good st) : Good (kR st) := by
 have h1 := gO g.lies
 have h2 := g.live0
 have h3 := g.fit
 have h4 := g.tot
 refine ⟨slid_lies g.lies, ?_, ?_, g.most⟩
 ·show st.live = tot (yV st.rows (yd st.rows)).1
  rw [slid_tot g.lies]; exact g.tot
 ·show ((qd st.bs st.rows (yd st.rows)).length : Int) <= st.most
  omega
theorem slid_len {st : St} (g : Good st) : ((kR st).bs.length : Int) = st.live := by
 show ((qd st.bs st.rows (yd st.rows)).length : Int) = st.live
 rw [gO g.lies, g.tot]
theorem room_good {st : St} (g : Good st) (n : Int) : Good (jA st n) := by
 unfold jA
 split
 ·exact g
 ·exact good_slid g
theorem room_len {st : St} (g : Good st) {n : Int} (h : st.live <= st.most - n) : ((jA st n).bs.length : Int) <= st.most - n := by
 unfold jA
 split
 ·assumption
 ·rw [slid_len g]; exact h
theorem room_dead {st : St} (n : Int) {i : Nat} {q : R3} (h : (jA st n).rows[i]? = some q) : ∃ a, st.rows[i]? = some (a, q.2.1, q.2.2) := by
 unfold jA at h
 split at h
 ·exact ⟨q.1, h⟩
 ·exact slid_of h
theorem good_add {st : St} {n : Nat} (g : Good st) (hn : 0 < n) (ys : List Int) (hy : ys.length = n) (hfit : (st.bs.length : Int) <= st.most - n) :
  Good ⟨st.bs ++ ys, st.most, st.rows ++ [((st.bs.length : Int), (n : Int), (1 : Int))], st.live + n⟩ := by
 have hl := g.lies
 have look : ∀ j p, (st.rows ++ [((st.bs.length : Int), (n : Int), (1 : Int))])[j]? = some p -> (j = st.rows.length /\ p = ((st.bs.length : Int), (n : Int), (1 : Int))) \/ (j ≠ st.rows.length /\ st.rows[j]? = some p) := fun j p h => by
  by_cases e : j < st.rows.length
  ·rw [List.getElem?_append_left e] at h
   exact .inr ⟨by omega, h⟩
  ·rw [List.getElem?_append_right (by omega)] at h
   obtain ⟨d, hd⟩ : ∃ d, j = st.rows.length + d := ⟨j - st.rows.length, by omega⟩
   subst hd
   rw [Nat.add_sub_cancel_left] at h
   cases d with
   | zero => exact .inl ⟨rfl, by simpa using h.symm⟩
   | succ d => simp at h
 refine ⟨⟨fun j p h1 h2 => ?_, fun j k p r hjk h1 h2 h3 h4 => ?_, fun j p h1 => ?_⟩, ?_, ?_, g.most⟩
 ·simp only [zr]
  rcases look j p h1 with ⟨rfl, rfl⟩ | ⟨_, h⟩
  ·simp only; omega
  ·have := hl.in_ j p h h2; omega
 ·rcases look j p h1 with ⟨e1, rfl⟩ | ⟨hj, u1⟩ <;> rcases look k r h2 with ⟨e2, rfl⟩ | ⟨hk, u2⟩
  ·omega
  ·have := hl.in_ k r u2 h4; simp only; omega
  ·have := hl.in_ j p u1 h3; simp only; omega
  ·exact hl.ap j k p r hjk u1 u2 h3 h4
 ·rcases look j p h1 with ⟨rfl, rfl⟩ | ⟨_, h⟩
  ·simp
  ·exact hl.nn j p h
 ·show st.live + n = tot _
  rw [tot_append, <- g.tot]
  simp [tot]
 ·simp only [zr]; omega
open Go.Ab
theorem ListOf.shapeN {α : Type} {k n : Nat} {cells : α -> List V} {h : HH} {c : Nat} {v : V} {xs : List α} (r : ListOf k cells h c v xs) (hn : xs.length = n) : ∃ s cap, v = .slice s n cap /\ (∀ i, i < n -> cap = .upTo k /\ ∃ m cl junk, s = some (m, 0) /\ m < c /\ MapI.get h m = some (.cells true cl (flat cells xs ++ junk)) /\ junk.all jR = true) := by
 subst hn; exact r.shape
theorem kQ {xs : List Int} {i : Nat} {z : Int} (h : xs[i]? = some z) (junk : List V) : nth (flat yG xs ++ junk) i = some (I z) := by
 have := (jM (cells := yG) (k := 1) je h (Nat.lt_succ_self 0) junk).trans (show nth (yG z) 0 = some (I z) from rfl)
 simpa using this
theorem set_int {junk : List V} {z : Int} : ∀ {xs : List Int} {i : Nat}, i < xs.length -> yu (flat yG xs ++ junk) i [I z] = flat yG (xs.set i z) ++ junk
 | [], _, h => by simp at h
 | y :: xs, 0, h => by simp [flat, yG, yu, ovr]
 | y :: xs, i + 1, h => by
  have := set_int (junk := junk) (z := z) (xs := xs) (i := i) (by simpa using h)
  simp only [jl, List.append_assoc, List.set_cons_succ] at this ⊢
  simp only [yG, List.cons_append, List.nil_append, yu, this]
structure RefAt (h : HH) (c q : Nat) (vB vP vS vC : V) (st : St) : Prop where
 obj : MapI.get h q = some (.cells true true [vB, I st.most, vP, vS, vC])
 b : ListOf 1 qb h c vB st.bs
 pl : ListOf 1 yG h c vP (st.rows.map fun r => r.1)
 sz : ListOf 1 yG h c vS (st.rows.map fun r => r.2.1)
 ct : ListOf 1 yG h c vC (st.rows.map fun r => r.2.2)
 lq : q < c
 nq : ∀ n ∈ zS vB ++ (zS vP ++ (zS vS ++ zS vC)), n ≠ q
 bp : ∀ n ∈ zS vB, n ∉ zS vP ++ (zS vS ++ zS vC)
 ps : ∀ n ∈ zS vP, n ∉ zS vS ++ zS vC
 sc : ∀ n ∈ zS vS, n ∉ zS vC
abbrev rn (q : Nat) (vB vP vS vC : V) : List Nat := q :: (zS vB ++ (zS vP ++ (zS vS ++ zS vC)))
theorem RefAt.keep {h h' : HH} {c c' q : Nat} {vB vP vS vC : V} {st : St} (r : RefAt h c q vB vP vS vC st) (hc : c <= c') (e : ∀ n, n < c -> n ∈ rn q vB vP vS vC -> MapI.get h' n = MapI.get h n) : RefAt h' c' q vB vP vS vC st :=
 ⟨by rw [e q r.lq (by simp)]; exact r.obj, r.b.keep hc fun n hn hm => e n hn (by simp [hm]), r.pl.keep hc fun n hn hm => e n hn (by simp [hm]), r.sz.keep hc fun n hn hm => e n hn (by simp [hm]), r.ct.keep hc fun n hn hm => e n hn (by simp [hm]), Nat.lt_of_lt_of_le r.lq hc, r.nq, r.bp, r.ps, r.sc⟩
theorem RefAt.names {h : HH} {c q : Nat} {vB vP vS vC : V} {st : St} (r : RefAt h c q vB vP vS vC st) : ∀ n ∈ rn q vB vP vS vC, n < c := fun n hn => by
 simp only [List.mem_cons, List.mem_append] at hn
 rcases hn with rfl | hn | hn | hn | hn
 ·exact r.lq
 ·exact r.b.lt n hn
 ·exact r.pl.lt n hn
 ·exact r.sz.lt n hn
 ·exact r.ct.lt n hn
theorem rnew_ok {h : HH} {c : Nat} {most : Int} : Does 6 [I most] h c [] fun v h' c' => v = .ptr (some (c, 0)) /\ c' = c + 1 /\ RefAt h' c' c (.slice none 0 (.known 0)) (.slice none 0 (.known 0)) (.slice none 0 (.known 0)) (.slice none 0 (.known 0)) ⟨[], if most < 0 \/ most > 1048576 then 0 else most, [], 0⟩ := by
 refine yi (enter (fn := Tryz.f6) Tryz.func6 rfl rfl (zf rfl) ?_)
 have fin : ∀ {x : Int}, RefAt (MapI.set h c (.cells true true [.slice none 0 (.known 0), I x, .slice none 0 (.known 0), .slice none 0 (.known 0), .slice none 0 (.known 0)])) (c + 1) c (.slice none 0 (.known 0)) (.slice none 0 (.known 0)) (.slice none 0 (.known 0)) (.slice none 0 (.known 0)) ⟨[], x, [], 0⟩ := fun {x} =>
  ⟨zt _ _ _, .nil, .nil, .nil, .nil, Nat.lt_succ_self _, fun n hn => (by simp [zS] at hn), fun n hn => (by cases hn), fun n hn => (by cases hn), fun n hn => (by cases hn)⟩
 by_cases h1 : most < 0
 ·have e1 : decide (most < 0) = true := by simpa using h1
  repeat' (first | apply zw | apply zx | apply zK | refine za rfl rfl (fun _ => rfl) ?_)
  simp only [e1]
  repeat' (first | apply zK | refine za rfl rfl (fun _ => rfl) ?_ | refine zM rfl rfl ?_ | refine zU ?_)
  refine ze rfl ?_
  repeat' (first | apply zw | apply zx | apply zG | apply zK | refine za rfl rfl (fun _ => rfl) ?_ | refine zL rfl rfl (yK rfl ⟨(by simp [zc] <;> omega), ?_⟩))
  rw [if_pos (.inl h1)]
  exact z6 rfl ⟨rfl, rfl, fin⟩
 have e1 : decide (most < 0) = false := by simpa using h1
 by_cases h2 : most > 1048576
 ·have e2 : decide (most > 1048576) = true := by simpa using h2
  repeat' (first | apply zw | apply zx | apply zK | refine za rfl rfl (fun _ => rfl) ?_)
  simp only [e1]
  repeat' (first | apply zK | refine za rfl rfl (fun _ => rfl) ?_ | refine zU ?_)
  refine zH rfl (fun _ => ?_) (fun hb => by rw [e2] at hb; cases hb)
  repeat' (first | apply zw | apply zx | apply zG | apply zK | refine za rfl rfl (fun _ => rfl) ?_ | refine zL rfl rfl (yK rfl ⟨(by simp [zc] <;> omega), ?_⟩))
  rw [if_pos (.inr h2)]
  exact z6 rfl ⟨rfl, rfl, fin⟩
 have e2 : decide (most > 1048576) = false := by simpa using h2
 repeat' (first | apply zw | apply zx | apply zK | refine za rfl rfl (fun _ => rfl) ?_)
 simp only [e1]
 repeat' (first | apply zK | refine za rfl rfl (fun _ => rfl) ?_ | refine zU ?_)
 refine zH rfl (fun hb => by rw [e2] at hb; cases hb) (fun _ => ?_)
 repeat' (first | apply zw | apply zx | apply zz | apply zG | apply zK | refine za rfl rfl (fun _ => rfl) ?_ | refine zL rfl rfl (yK rfl ⟨(by simp [zc] <;> omega), ?_⟩))
 rw [if_neg (by omega)]
 exact z6 rfl ⟨rfl, rfl, fin⟩
theorem there_ok {h : HH} {c q : Nat} {vB vP vS vC : V} {st : St} {hd : Int} (r : RefAt h c q vB vP vS vC st) (hlen : st.rows.length <= 1000) :
  Does 53 [.ptr (some (q, 0)), I hd] h c (rn q vB vP vS vC) fun v h' c' => h' = h /\ c' = c /\
   ((∃ (i : Nat) (x : R3), hd = i + 1 /\ st.rows[i]? = some x /\ x.2.2 > 0 /\ v = .bool true) \/ ((∀ (i : Nat) (x : R3), hd = i + 1 -> st.rows[i]? = some x -> ¬ x.2.2 > 0) /\ v = .bool false)) := by
 have hobj := r.obj
 obtain ⟨s, cap, rfl, hs⟩ := r.ct.shapeN (List.length_map _)
 refine yi (enter (fn := Tryz.f53) Tryz.func53 rfl rfl (zf rfl) ?_)
 by_cases h1 : hd >= 1
 case neg =>
  have e1 : decide (hd >= 1) = false := by simpa using h1
  repeat' (first | apply zw | apply zx | apply zK | refine za rfl rfl (fun _ => rfl) ?_)
  simp only [e1]
  repeat' (first | apply zG | apply zK | refine za rfl rfl (fun _ => rfl) ?_ | refine zM rfl rfl ?_)
  exact z6 rfl ⟨rfl, rfl, .inr ⟨fun i x e _ => by omega, rfl⟩⟩
 have e1 : decide (hd >= 1) = true := by simpa using h1
 by_cases h2 : hd <= (st.rows.length : Int)
 case neg =>
  have e2 : decide (hd <= (st.rows.length : Int)) = false := by simpa using h2
  repeat' (first | apply zw | apply zx | apply zK | refine za rfl rfl (fun _ => rfl) ?_)
  simp only [e1]
  repeat' (first | refine za rfl rfl (fun _ => rfl) ?_ | refine zL rfl rfl (zW rfl rfl rfl hobj rfl ⟨(by simp [zc] <;> omega), ?_⟩))
  simp only [e2]
  repeat' (first | apply zG | apply zK | refine za rfl rfl (fun _ => rfl) ?_ | refine zM rfl rfl ?_)
  exact z6 rfl ⟨rfl, rfl, .inr ⟨fun i x e hx => by have := (zj hx).1; omega, rfl⟩⟩
 have e2 : decide (hd <= (st.rows.length : Int)) = true := by simpa using h2
 obtain ⟨i, rfl⟩ : ∃ i : Nat, hd = i + 1 := ⟨(hd - 1).toNat, by omega⟩
 have hi : i < st.rows.length := by omega
 obtain ⟨rfl, sn, cl, junk, rfl, hsn, hg, hj⟩ := hs i hi
 obtain ⟨x, hx⟩ : ∃ x, st.rows[i]? = some x := ⟨_, zp hi⟩
 have hxc : (st.rows.map fun r => r.2.2)[i]? = some x.2.2 := by rw [List.getElem?_map, hx]; rfl
 have hw : IntKind.i64.wrap ((i : Int) + 1 - 1) = (i : Int) := by rw [Go.IntWalk.i64_in _ (by omega)]; omega
 have hz : nth (flat yG (st.rows.map fun r => r.2.2) ++ junk) (0 + (IntKind.i64.wrap ((i : Int) + 1 - 1)).toNat * 1) = some (I x.2.2) := by
  rw [hw, show 0 + ((i : Nat) : Int).toNat * 1 = i from by simp]; exact kQ hxc junk
 repeat' (first | apply zw | apply zx | apply zK | refine za rfl rfl (fun _ => rfl) ?_)
 simp only [e1]
 repeat' (first | refine za rfl rfl (fun _ => rfl) ?_ | refine zL rfl rfl (zW rfl rfl rfl hobj rfl ⟨(by simp [zc] <;> omega), ?_⟩))
 simp only [e2]
 repeat' (first | apply zG | apply zK | refine za rfl rfl (fun _ => rfl) ?_ | refine zL rfl rfl (zW rfl rfl rfl hobj rfl ⟨(by simp [zc] <;> omega), ?_⟩) | refine zL rfl rfl (zZ (k := 1) rfl rfl rfl rfl ⟨by omega, by omega⟩ ⟨(by simp [zc] <;> omega), ?_⟩) | refine zL rfl rfl (zW rfl rfl rfl hg hz ⟨(by simp [zc] <;> omega), ?_⟩))
 refine z6 rfl ⟨rfl, rfl, ?_⟩
 by_cases h3 : x.2.2 > 0
 ·exact .inl ⟨i, x, rfl, hx, h3, by show V.bool (decide (x.2.2 > 0)) = _; rw [decide_eq_true h3]⟩
 ·refine .inr ⟨fun j y e hy => ?_, by show V.bool (decide (x.2.2 > 0)) = _; rw [decide_eq_false h3]⟩
  have : j = i := by omega
  subst this
  rw [hx] at hy; cases hy; exact h3
theorem rcount_ok {h : HH} {c q : Nat} {vB vP vS vC : V} {st : St} {hd : Int} (r : RefAt h c q vB vP vS vC st) (hlen : st.rows.length <= 1000) :
  Does 24 [.ptr (some (q, 0)), I hd] h c (rn q vB vP vS vC) fun v h' c' => h' = h /\ c' = c /\
   ((∃ (i : Nat) (x : R3), hd = i + 1 /\ st.rows[i]? = some x /\ x.2.2 > 0 /\ v = I x.2.2) \/ ((∀ (i : Nat) (x : R3), hd = i + 1 -> st.rows[i]? = some x -> ¬ x.2.2 > 0) /\ v = I 0)) := by
 refine yi (enter (fn := Tryz.f24) Tryz.func24 rfl rfl (zf rfl) ?_)
 repeat' (first | apply zw | apply zx | apply zK | refine za rfl rfl (fun _ => rfl) ?_)
 refine zL rfl rfl (yj rfl (there_ok r hlen) (fun n hn => .inl hn) (Nat.le_refl _) fun v h4 c4 hc4 hfr4 hq => ?_)
 obtain ⟨rfl, rfl, hq⟩ := hq
 rcases hq with ⟨i, x, rfl, hx, h3, rfl⟩ | ⟨hno, rfl⟩
 case inr =>
  repeat' (first | apply zK | refine za rfl rfl (fun _ => rfl) ?_ | refine zU ?_)
  refine ze rfl ?_
  repeat' (first | apply zw | apply zx | apply zG | apply zK | refine za rfl rfl (fun _ => rfl) ?_ | refine yn ?_)
  exact z6 rfl ⟨rfl, rfl, .inr ⟨hno, rfl⟩⟩
 have hobj := r.obj
 have hi := (zj hx).1
 obtain ⟨s, cap, rfl, hs⟩ := r.ct.shapeN (List.length_map _)
 obtain ⟨rfl, sn, cl, junk, rfl, hsn, hg, hj⟩ := hs i hi
 have hxc : (st.rows.map fun r => r.2.2)[i]? = some x.2.2 := by rw [List.getElem?_map, hx]; rfl
 have hw : IntKind.i64.wrap ((i : Int) + 1 - 1) = (i : Int) := by rw [Go.IntWalk.i64_in _ (by omega)]; omega
 have hz : nth (flat yG (st.rows.map fun r => r.2.2) ++ junk) (0 + (IntKind.i64.wrap ((i : Int) + 1 - 1)).toNat * 1) = some (I x.2.2) := by
  rw [hw, show 0 + ((i : Nat) : Int).toNat * 1 = i from by simp]; exact kQ hxc junk
 repeat' (first | apply zK | refine za rfl rfl (fun _ => rfl) ?_ | refine zU ?_)
 refine zd rfl ?_
 repeat' (first | apply zw | apply zx | apply zz | apply zG | apply zK | refine za rfl rfl (fun _ => rfl) ?_ | refine zL rfl rfl (zW rfl rfl rfl hobj rfl ⟨(by simp [zc] <;> omega), ?_⟩) | refine zL rfl rfl (zZ (k := 1) rfl rfl rfl rfl ⟨by omega, by omega⟩ ⟨(by simp [zc] <;> omega), ?_⟩) | refine zL rfl rfl (zW rfl rfl rfl hg hz ⟨(by simp [zc] <;> omega), ?_⟩))
 exact z6 rfl ⟨rfl, rfl, .inl ⟨i, x, rfl, hx, h3, rfl⟩⟩
theorem map_keep {f : R3 -> Int} : ∀ {rows : List R3} {i : Nat} {x y : R3}, rows[i]? = some x -> f y = f x -> (rows.set i y).map f = rows.map f
 | [], _, _, _, h, _ => by simp at h
 | z :: rows, 0, x, y, h, e => by simp at h; subst h; simp [e]
 | z :: rows, i + 1, x, y, h, e => by
  have := map_keep (rows := rows) (i := i) (x := x) (y := y) (by simpa using h) e
  simp [this]
theorem map_pl {rows : List R3} {i : Nat} {x : R3} {b c : Int} (h : rows[i]? = some x) : (rows.set i (x.1, b, c)).map (fun r => r.1) = rows.map fun r => r.1 := map_keep (f := fun r => r.1) h rfl
theorem map_sz {rows : List R3} {i : Nat} {x : R3} {a c : Int} (h : rows[i]? = some x) : (rows.set i (a, x.2.1, c)).map (fun r => r.2.1) = rows.map fun r => r.2.1 := map_keep (f := fun r => r.2.1) h rfl
theorem map_ct {rows : List R3} {i : Nat} {x : R3} {a b : Int} (h : rows[i]? = some x) : (rows.set i (a, b, x.2.2)).map (fun r => r.2.2) = rows.map fun r => r.2.2 := map_keep (f := fun r => r.2.2) h rfl
theorem RefAt.setCount {h : HH} {c q sn i : Nat} {vB vP vS : V} {st : St} {cl : Bool} {junk : List V} {x : R3} {z : Int} (r : RefAt h c q vB vP vS (.slice (some (sn, 0)) st.rows.length (.upTo 1)) st) (hsn : sn < c) (hj : junk.all jR = true) (hx : st.rows[i]? = some x) :
  RefAt (MapI.set h sn (.cells true cl (yu (flat yG (st.rows.map fun r => r.2.2) ++ junk) i [I z]))) c q vB vP vS (.slice (some (sn, 0)) st.rows.length (.upTo 1)) { st with rows := st.rows.set i (x.1, x.2.1, z) } := by
 have hi := (zj hx).1
 have hm : sn ∈ zS (.slice (some (sn, 0)) st.rows.length (.upTo 1)) := by simp [zS]
 refine ⟨by rw [zu _ _ _ _ (r.nq sn (by simp [zS]))]; exact r.obj,
  r.b.keep (Nat.le_refl _) fun n hn hx => zu _ _ _ _ fun e => r.bp n hx (by rw [<- e]; simp [zS]), ?_, ?_, ?_, r.lq, r.nq, r.bp, r.ps, r.sc⟩
 ·show ListOf 1 yG _ c vP ((st.rows.set i (x.1, x.2.1, z)).map fun r => r.1)
  rw [map_pl hx]
  exact r.pl.keep (Nat.le_refl _) fun n hn hx => zu _ _ _ _ fun e => r.ps n hx (by rw [<- e]; simp [zS])
 ·show ListOf 1 yG _ c vS ((st.rows.set i (x.1, x.2.1, z)).map fun r => r.2.1)
  rw [map_sz hx]
  exact r.sz.keep (Nat.le_refl _) fun n hn hx => zu _ _ _ _ fun e => r.sc n hx (by rw [<- e]; simp [zS])
 ·refine .inr ⟨sn, cl, junk, by simp, hsn, ?_, hj⟩
  rw [zt, set_int (by rw [List.length_map]; exact hi)]
  simp only [List.map_set]
theorem rhold_ok {h : HH} {c q : Nat} {vB vP vS vC : V} {st : St} {hd : Int} (r : RefAt h c q vB vP vS vC st) (hlen : st.rows.length <= 1000) :
  Does 41 [.ptr (some (q, 0)), I hd] h c (rn q vB vP vS vC) fun v h' c' => c' = c /\
   ((∃ (i : Nat) (x : R3), hd = i + 1 /\ st.rows[i]? = some x /\ x.2.2 > 0 /\ v = .bool true /\ RefAt h' c q vB vP vS vC { st with rows := st.rows.set i (x.1, x.2.1, IntKind.i64.wrap (x.2.2 + 1)) }) \/
    ((∀ (i : Nat) (x : R3), hd = i + 1 -> st.rows[i]? = some x -> ¬ x.2.2 > 0) /\ v = .bool false /\ h' = h)) := by
 refine yi (enter (fn := Tryz.f41) Tryz.func41 rfl rfl (zf rfl) ?_)
 repeat' (first | apply zw | apply zx | apply zK | refine za rfl rfl (fun _ => rfl) ?_)
 refine zL rfl rfl (yj rfl (there_ok r hlen) (fun n hn => .inl hn) (Nat.le_refl _) fun v h4 c4 hc4 hfr4 hq => ?_)
 obtain ⟨rfl, rfl, hq⟩ := hq
 rcases hq with ⟨i, x, rfl, hx, h3, rfl⟩ | ⟨hno, rfl⟩
 case inr =>
  repeat' (first | apply zK | refine za rfl rfl (fun _ => rfl) ?_ | refine zU ?_)
  refine ze rfl ?_
  repeat' (first | apply zw | apply zx | apply zG | apply zK | refine za rfl rfl (fun _ => rfl) ?_ | refine yn ?_)
  exact z6 rfl ⟨rfl, .inr ⟨hno, rfl, rfl⟩⟩
 have hobj := r.obj
 have hi := (zj hx).1
 obtain ⟨s, cap, rfl, hs⟩ := r.ct.shapeN (List.length_map _)
 obtain ⟨rfl, sn, cl, junk, rfl, hsn, hg, hj⟩ := hs i hi
 have hxc : (st.rows.map fun r => r.2.2)[i]? = some x.2.2 := by rw [List.getElem?_map, hx]; rfl
 have hw : IntKind.i64.wrap ((i : Int) + 1 - 1) = (i : Int) := by rw [Go.IntWalk.i64_in _ (by omega)]; omega
 have hwo : 0 + (IntKind.i64.wrap ((i : Int) + 1 - 1)).toNat * 1 = i := by rw [hw]; simp
 have hz : nth (flat yG (st.rows.map fun r => r.2.2) ++ junk) (0 + (IntKind.i64.wrap ((i : Int) + 1 - 1)).toNat * 1) = some (I x.2.2) := by
  rw [hwo]; exact kQ hxc junk
 have hfl : 0 + (IntKind.i64.wrap ((i : Int) + 1 - 1)).toNat * 1 + 1 <= (flat yG (st.rows.map fun r => r.2.2) ++ junk).length := by
  rw [hwo, zr, yv je, List.length_map]; omega
 repeat' (first | apply zK | refine za rfl rfl (fun _ => rfl) ?_ | refine zU ?_)
 refine zd rfl ?_
 repeat' (first | apply zw | apply zx | apply zz | apply zG | apply zK | refine za rfl rfl (fun _ => rfl) ?_ | refine zL rfl rfl (zW rfl rfl rfl hobj rfl ⟨(by simp [zc] <;> omega), ?_⟩) | refine zL rfl rfl (zZ (k := 1) rfl rfl rfl rfl ⟨by omega, by omega⟩ ⟨(by simp [zc] <;> omega), ?_⟩) | refine zL rfl rfl (zW rfl rfl rfl hg hz ⟨(by simp [zc] <;> omega), ?_⟩) | refine zL rfl rfl (ya (k := 1) rfl rfl rfl rfl hg hfl rfl ⟨(by simp [zc] <;> omega), ?_⟩))
 refine z6 rfl ⟨rfl, .inl ⟨i, x, rfl, hx, h3, rfl, ?_⟩⟩
 rw [hwo]
 exact r.setCount hsn hj hx
theorem rdrop_ok {h : HH} {c q : Nat} {vB vP vS vC : V} {st : St} {hd : Int} (r : RefAt h c q vB vP vS vC st) (hlen : st.rows.length <= 1000) :
  Does 50 [.ptr (some (q, 0)), I hd] h c (rn q vB vP vS vC) fun v h' c' => c' = c /\
   ((∃ (i : Nat) (x : R3), hd = i + 1 /\ st.rows[i]? = some x /\ x.2.2 > 0 /\ v = .bool true /\ RefAt h' c q vB vP vS vC { st with rows := st.rows.set i (x.1, x.2.1, IntKind.i64.wrap (x.2.2 - 1)) }) \/
    ((∀ (i : Nat) (x : R3), hd = i + 1 -> st.rows[i]? = some x -> ¬ x.2.2 > 0) /\ v = .bool false /\ h' = h)) := by
 refine yi (enter (fn := Tryz.f50) Tryz.func50 rfl rfl (zf rfl) ?_)
 repeat' (first | apply zw | apply zx | apply zK | refine za rfl rfl (fun _ => rfl) ?_)
 refine zL rfl rfl (yj rfl (there_ok r hlen) (fun n hn => .inl hn) (Nat.le_refl _) fun v h4 c4 hc4 hfr4 hq => ?_)
 obtain ⟨rfl, rfl, hq⟩ := hq
 rcases hq with ⟨i, x, rfl, hx, h3, rfl⟩ | ⟨hno, rfl⟩
 case inr =>
  repeat' (first | apply zK | refine za rfl rfl (fun _ => rfl) ?_ | refine zU ?_)
  refine ze rfl ?_
  repeat' (first | apply zw | apply zx | apply zG | apply zK | refine za rfl rfl (fun _ => rfl) ?_ | refine yn ?_)
  exact z6 rfl ⟨rfl, .inr ⟨hno, rfl, rfl⟩⟩
 have hobj := r.obj
 have hi := (zj hx).1
 obtain ⟨s, cap, rfl, hs⟩ := r.ct.shapeN (List.length_map _)
 obtain ⟨rfl, sn, cl, junk, rfl, hsn, hg, hj⟩ := hs i hi
 have hxc : (st.rows.map fun r => r.2.2)[i]? = some x.2.2 := by rw [List.getElem?_map, hx]; rfl
 have hw : IntKind.i64.wrap ((i : Int) + 1 - 1) = (i : Int) := by rw [Go.IntWalk.i64_in _ (by omega)]; omega
 have hwo : 0 + (IntKind.i64.wrap ((i : Int) + 1 - 1)).toNat * 1 = i := by rw [hw]; simp
 have hz : nth (flat yG (st.rows.map fun r => r.2.2) ++ junk) (0 + (IntKind.i64.wrap ((i : Int) + 1 - 1)).toNat * 1) = some (I x.2.2) := by
  rw [hwo]; exact kQ hxc junk
 have hfl : 0 + (IntKind.i64.wrap ((i : Int) + 1 - 1)).toNat * 1 + 1 <= (flat yG (st.rows.map fun r => r.2.2) ++ junk).length := by
  rw [hwo, zr, yv je, List.length_map]; omega
 repeat' (first | apply zK | refine za rfl rfl (fun _ => rfl) ?_ | refine zU ?_)
 refine zd rfl ?_
 repeat' (first | apply zw | apply zx | apply zz | apply zG | apply zK | refine za rfl rfl (fun _ => rfl) ?_ | refine zL rfl rfl (zW rfl rfl rfl hobj rfl ⟨(by simp [zc] <;> omega), ?_⟩) | refine zL rfl rfl (zZ (k := 1) rfl rfl rfl rfl ⟨by omega, by omega⟩ ⟨(by simp [zc] <;> omega), ?_⟩) | refine zL rfl rfl (zW rfl rfl rfl hg hz ⟨(by simp [zc] <;> omega), ?_⟩) | refine zL rfl rfl (ya (k := 1) rfl rfl rfl rfl hg hfl rfl ⟨(by simp [zc] <;> omega), ?_⟩))
 refine z6 rfl ⟨rfl, .inl ⟨i, x, rfl, hx, h3, rfl, ?_⟩⟩
 rw [hwo]
 exact r.setCount hsn hj hx
open Go.Ab
section
variable {h h' : HH} {c c' a : Nat} {vW vR vF vT : V} {W R : List Int} {size : Int} {l : List (Nat × Hd)}
abbrev qZ (f : Nat -> Nat) (L : List (Nat × Hd)) : List Int := L.map fun o => ((f o.1 : Nat) : Int)
theorem moved_ok {L : List (Nat × Hd)} {f : Nat -> Nat} {w : Int} (lF : ListOf 1 yG h c vF (places L)) (lT : ListOf 1 yG h c vT (qZ f L)) (hw : okW w) (hL : L.length <= 100000000) (hf : ∀ o ∈ L, f o.1 <= 100000000) (hin : yL w = 5 -> ∃ o ∈ L, yI w = ((o.1 : Nat) : Int)) :
  Does 68 [U w, vF, vT] h c (zS vF ++ zS vT) fun v h' c' => v = U (if yL w = 5 then jQ (f (yI w).toNat) else w) /\ h = h' /\ c = c' := by
 obtain ⟨sF, capF, rfl, hsF⟩ := lF.shapeN (List.length_map _)
 obtain ⟨sT, capT, rfl, hsT⟩ := lT.shapeN (List.length_map _)
 refine yi (enter (fn := Tryz.f68) Tryz.func68 rfl rfl (zf rfl) ?_)
 repeat' (first | apply zw | apply zx | apply zK | refine za rfl rfl (fun _ => rfl) ?_)
 refine zL rfl rfl (yg rfl (qS hw) (fun n hn => by cases hn) (Nat.le_refl _) fun v4 h4 c4 hc4 _ hq => ?_)
 obtain ⟨rfl, rfl, rfl⟩ := hq
 by_cases t5 : yL w = 5
 case neg =>
  have e5 : (yL w != 5) = true := by simpa using t5
  repeat' (first | apply zK | refine za rfl rfl (fun _ => rfl) ?_ | refine zU ?_)
  refine zH rfl (fun _ => ?_) (fun hb => by rw [e5] at hb; cases hb)
  repeat' (first | apply zw | apply zx | apply zG | apply zK | refine za rfl rfl (fun _ => rfl) ?_ | refine yn ?_)
  exact z6 rfl ⟨by rw [if_neg t5]; rfl, rfl, rfl⟩
 have e5 : (yL w != 5) = false := by simpa using t5
 repeat' (first | apply zK | refine za rfl rfl (fun _ => rfl) ?_ | refine zU ?_)
 refine zH rfl (fun hb => by rw [e5] at hb; cases hb) (fun _ => ?_)
 repeat' (first | apply zw | apply zx | apply zz | apply zB | apply zK | refine za rfl rfl (fun _ => rfl) ?_)
 refine zI ?_
 refine zQ (X := Nat) (fun i e' h' c' => (∃ b0, e' = FR b0 [(0, U w), (1, .slice sF L.length capF), (2, .slice sT L.length capT), (7, I i)]) /\ i <= L.length /\ (∀ j o, j < i -> L[j]? = some o -> yI w ≠ ((o.1 : Nat) : Int)) /\ h = h' /\ c = c')
  (fun i => L.length - i) ?_ 0 _ _ _ ⟨fr ⟨rfl, rfl, rfl, rfl, trivial⟩, Nat.zero_le _, fun j o hj => absurd hj (Nat.not_lt_zero _), rfl, rfl⟩
 rintro i e' h' c' ⟨⟨b0, rfl⟩, hi, hno, rfl, rfl⟩
 repeat' (first | apply zw | apply zx | apply zK | refine za rfl rfl (fun _ => rfl) ?_ | refine zU ?_)
 refine zH rfl (fun hlt => ?_) (fun hge => ?_)
 case refine_2 =>
  have hge : L.length <= i := by simpa using hge
  obtain ⟨o, ho, hv⟩ := hin t5
  obtain ⟨j, hj⟩ := List.mem_iff_getElem?.1 ho
  exact absurd hv (hno j o (by have := (zj hj).1; omega) hj)
 have hlt : i < L.length := by simpa using hlt
 obtain ⟨o, ho⟩ : ∃ o, L[i]? = some o := ⟨_, zp hlt⟩
 obtain ⟨rfl, sn, cl, junk, rfl, hsn, hg, _⟩ := hsF i hlt
 obtain ⟨rfl, sn2, cl2, junk2, rfl, hsn2, hg2, _⟩ := hsT i hlt
 have hoff : 0 + ((i : Nat) : Int).toNat * 1 = i := by simp
 have hz : nth (flat yG (places L) ++ junk) (0 + ((i : Nat) : Int).toNat * 1) = some (I o.1) := by
  rw [hoff]; exact kQ (by rw [List.getElem?_map, ho]; rfl) junk
 have hz2 : nth (flat yG (qZ f L) ++ junk2) (0 + ((i : Nat) : Int).toNat * 1) = some (I (f o.1)) := by
  rw [hoff]; exact kQ (by rw [List.getElem?_map, ho]; rfl) junk2
 have hfo := hf o (zo ho)
 have hw1 : IntKind.i64.wrap ((i : Int) + 1) = ((i + 1 : Nat) : Int) := by rw [Go.IntWalk.i64_in _ (by omega)]; omega
 repeat' (first | apply zw | apply zy | apply zz | apply zB | refine zb rfl rfl (fun _ => rfl) ?_ | refine zO rfl rfl (zZ (k := 1) rfl rfl rfl rfl ⟨by omega, by omega⟩ ⟨(by simp [zc] <;> omega), ?_⟩) | refine zO rfl rfl (zW rfl rfl rfl hg hz ⟨(by simp [zc] <;> omega), ?_⟩))
 refine zO rfl rfl (jy rfl (rval_okR hw) (fun n hn => by cases hn) (Nat.le_refl _) fun v5 h5 c5 al hal hc5 hf5 hq => ?_)
 obtain ⟨rfl, rfl, rfl⟩ := hq
 have hal' : ∀ x ∈ al, sn = x.name -> x.writes = false := fun x hx e => by
  cases hw : x.writes with
  | false => rfl
  | true => have := (hal x hx).2 hw; omega
 repeat' (first | refine zb rfl rfl (fun _ => rfl) ?_)
 refine zN (ym (cs := [0, 0, 3, 7, 0, 16, 63]) (by decide +kernel) ?_) ?_
 ·simp +contextual [jt, apP, Dis, yF, yE, yw, yA, Nat.testBit, hal']
 repeat' (first | refine zU ?_)
 refine zH rfl (fun heq => ?_) (fun hne => ?_)
 ·have heq : ((o.1 : Nat) : Int) = yI w := by simpa using heq
  repeat' (first | apply zw | apply zx | refine za rfl rfl (fun _ => rfl) ?_ | refine zL rfl rfl (zZ (k := 1) rfl rfl rfl rfl ⟨by omega, by omega⟩ ⟨(by simp [zc] <;> omega), ?_⟩) | refine zL rfl rfl (zW rfl rfl rfl hg2 hz2 ⟨(by simp [zc] <;> omega), ?_⟩))
  refine zL rfl rfl (yg rfl (qU (t := 5) (by omega) (by unfold jD; omega)) (fun n hn => by cases hn) (Nat.le_refl _) fun v6 h6 c6 hc6 _ hq => ?_)
  obtain ⟨rfl, rfl, rfl⟩ := hq
  repeat' (first | apply zG | apply zK | refine za rfl rfl (fun _ => rfl) ?_ | refine yn ?_ | refine qr ?_)
  refine z6 rfl ⟨?_, rfl, rfl⟩
  rw [if_pos t5, <- heq]
  rfl
 ·have hne : ¬ ((o.1 : Nat) : Int) = yI w := by simpa using hne
  repeat' (first | apply zx | apply zz | apply zK | refine za rfl rfl (fun _ => rfl) ?_ | refine zU ?_)
  refine ⟨i + 1, by omega, ?_, by omega, fun j o' hj ho' => ?_, rfl, rfl⟩
  ·rw [hw1]
   exact fr ⟨rfl, rfl, rfl, rfl, trivial⟩
  ·by_cases e : j < i
   ·exact hno j o' e ho'
   ·have : j = i := by omega
    subst this
    rw [ho] at ho'
    cases ho'
    exact fun e => hne e.symm
theorem new_at (so : SoundW W R l) {i : Nat} {o : Nat × Hd} (ho : (zX W l R)[i]? = some o) : newPos (zX W l R) o.1 = (yh W R l ((zX W l R).take i)).length /\ (yh W R l ((zX W l R).take (i + 1))).length = (yh W R l ((zX W l R).take i)).length + (1 + o.2.size.toNat) := by
 have hs := qu (R := R) so.objs
 obtain ⟨hi, hio⟩ := zj ho
 have e : zX W l R = (zX W l R).take i ++ o :: (zX W l R).drop (i + 1) := by
  rw [<- hio, <- List.drop_eq_getElem_cons hi, List.take_append_drop]
 constructor
 ·generalize hL : zX W l R = L at *
  generalize L.take i = A at *
  generalize L.drop (i + 1) = B at *
  subst e
  exact gc hs
 ·rw [show (zX W l R).take (i + 1) = (zX W l R).take i ++ [o] from by rw [List.take_add_one, ho]; rfl, gF, zr, gQ, zr, qj]
  rfl
theorem mmap_ok (r : ArAt h c a vW W size) (rr : RowOf 1 ye h c vR R) (hRok : ∀ w ∈ R, okW w) (hRl : R.length <= 100000000) (so : SoundW W R l) :
  Does 64 [.ptr (some (a, 0)), vR] h c (an a vW ++ zS vR) fun v h' c' => ∃ vF vT, v = .tuple [vF, vT, .bool true] /\ ListOf 1 yG h' c' vF (places (zX W l R)) /\ ListOf 1 yG h' c' vT (qZ (newPos (zX W l R)) (zX W l R)) /\ (∀ n ∈ zS vF, c <= n) /\ (∀ n ∈ zS vT, c <= n) /\ ∀ n, n < c -> MapI.get h' n = MapI.get h n := by
 have hmx := r.mx
 have hle := r.le
 have hsub1 : ∀ n ∈ an a vW, n ∈ an a vW ++ zS vR \/ c <= n := fun n hn => .inl (zh _ hn)
 have hsl := kV so
 refine yi (enter (fn := Tryz.f64) Tryz.func64 rfl rfl (zf rfl) ?_)
 repeat' (first | apply zw | apply zx | apply zK | refine za rfl rfl (fun _ => rfl) ?_)
 refine zL rfl rfl (yj rfl (msound_ok r rr hRok hRl so) (fun n hn => .inl hn) (Nat.le_refl _) fun v1 h1 c1 hc1 _ hq => ?_)
 obtain ⟨rfl, hf1⟩ := hq
 repeat' (first | apply zK | refine za rfl rfl (fun _ => rfl) ?_ | refine zU ?_)
 refine zd rfl ?_
 repeat' (first | apply zw | apply zx | apply zz | refine za rfl rfl (fun _ => rfl) ?_)
 refine zL rfl rfl (yj rfl (mlive_ok (r.same hc1 hf1) (rr.keep hc1 fun n hn _ => hf1 n hn) hRok hRl so) (fun n hn => .inl hn) hc1 fun v2 h2 c2 hc2 _ hq => ?_)
 obtain ⟨vF, rfl, hF, hFn, hf2⟩ := hq
 have hFlt := hF.lt
 have hLl := jS so.objs
 have hLlen : (zX W l R).length <= W.length := by
  have : (zX W l R).length <= l.length := List.length_filter_le _ _
  omega
 have hFn' : ∀ n ∈ zS vF, c <= n := fun n hn => Nat.le_trans hc1 (hFn n hn)
 have hf2' : ∀ n, n < c -> MapI.get h2 n = MapI.get h n := fun n hn => by rw [hf2 n (by omega), hf1 n hn]
 obtain ⟨sF, capF, rfl, hsF⟩ := hF.shapeN (List.length_map _)
 generalize hL : zX W l R = L at *
 have hLf : ∀ i o, L[i]? = some o -> newPos L o.1 = (yh W R l (L.take i)).length /\ (yh W R l (L.take (i + 1))).length = (yh W R l (L.take i)).length + (1 + o.2.size.toNat) := fun i o ho => by
  subst hL; exact new_at so ho
 have hLo : ∀ o ∈ L, j4 W o.1 = some o.2 := fun o ho => by
  subst hL; exact (so.objs.mem _ (jN.1 ho).1).2
 have hSl : ∀ i, (yh W R l (L.take i)).length <= W.length := fun i => by
  have : (yh W R l (L.take i)).length <= (yh W R l L).length := by
   rw [<- List.take_append_drop i L, gF, zr, List.take_append_drop]; omega
  omega
 repeat' (first | apply zw | apply zx | apply zB | apply zK | refine za rfl rfl (fun _ => rfl) ?_)
 refine zI ?_
 refine zQ (X := Nat × V) (fun y e' h' c' => (∃ b0, e' = FR b0 [(0, V.ptr (some (a, 0))), (7, .slice sF L.length capF), (9, y.2), (10, I (yh W R l (L.take y.1)).length), (11, I y.1)]) /\ y.1 <= L.length /\ c2 <= c' /\ ListOf (0 + 1) yG h' c' y.2 (qZ (newPos L) (L.take y.1)) /\ (∀ n ∈ zS y.2, c2 <= n) /\ (∀ n, n < c2 -> MapI.get h' n = MapI.get h2 n))
  (fun y => L.length - y.1) ?_ (0, .slice none 0 (.known 0)) _ _ _ ⟨fr ⟨rfl, rfl, rfl, by rw [List.take_zero]; rfl, rfl, trivial⟩, Nat.zero_le _, Nat.le_refl _, ListOf.nil, (fun n hn => by cases hn), fun n hn => rfl⟩
 rintro ⟨i, vT⟩ e' h' c' ⟨⟨b0, rfl⟩, hi, hc', hT, hTn, hf⟩
 simp only at hi hT hTn
 repeat' (first | apply zw | apply zx | apply zK | refine za rfl rfl (fun _ => rfl) ?_ | refine zU ?_)
 refine zH rfl (fun hlt => ?_) (fun hge => ?_)
 case refine_2 =>
  have hge : L.length <= i := by simpa using hge
  rw [List.take_of_length_le hge] at hT
  repeat' (first | apply zw | apply zx | apply zF | apply zG | apply zK | refine za rfl rfl (fun _ => rfl) ?_)
  exact z6 rfl ⟨_, _, rfl, hF.keep hc' fun n hn _ => hf n hn, hT, hFn', fun n hn => Nat.le_trans (by omega) (hTn n hn), fun n hn => by rw [hf n (by omega)]; exact hf2' n hn⟩
 have hlt : i < L.length := by simpa using hlt
 obtain ⟨⟨p, x⟩, ho⟩ : ∃ o, L[i]? = some o := ⟨_, zp hlt⟩
 obtain ⟨rfl, sn, cl, junk, rfl, hsn, hg, _⟩ := hsF i hlt
 have hg' : MapI.get h' sn = _ := (hf sn hsn).trans hg
 have hsnc : c <= sn := hFn' sn (by simp [zS])
 have hz : nth (flat yG (places L) ++ junk) (0 + ((i : Nat) : Int).toNat * 1) = some (I p) := by
  rw [show 0 + ((i : Nat) : Int).toNat * 1 = i from by simp]; exact kQ (by rw [List.getElem?_map, ho]; rfl) junk
 have hob : j4 W ((p : Nat) : Int) = some x := hLo _ (zo ho)
 obtain ⟨jj, w', ej, hw', _, hsz, hxok⟩ := yJ hob
 unfold okH at hxok
 obtain ⟨hn1, hn2⟩ := hLf i _ ho
 have hn1 : newPos L p = (yh W R l (L.take i)).length := hn1
 have hn2 : (yh W R l (L.take (i + 1))).length = (yh W R l (L.take i)).length + (1 + x.size.toNat) := hn2
 have hs1 := hSl (i + 1)
 have hw1 : IntKind.i64.wrap ((i : Int) + 1) = ((i + 1 : Nat) : Int) := by rw [Go.IntWalk.i64_in _ (by omega)]; omega
 have hw2 : IntKind.i64.wrap (IntKind.i64.wrap (((yh W R l (L.take i)).length : Int) + 1) + x.size) = ((yh W R l (L.take (i + 1))).length : Int) := by
  rw [Go.IntWalk.i64_in (((yh W R l (L.take i)).length : Int) + 1) (by omega), Go.IntWalk.i64_in _ (by omega)]; omega
 have hr' := r.same (h' := h') (c' := c') (by omega) fun n hn => by rw [hf n (by omega)]; exact hf2' n hn
 repeat' (first | apply zw | apply zx | apply zz | apply zB | refine za rfl rfl (fun _ => rfl) ?_ | refine zL rfl rfl (zZ (k := 1) rfl rfl rfl rfl ⟨by omega, by omega⟩ ⟨(by simp [zc] <;> omega), ?_⟩) | refine zL rfl rfl (zW rfl rfl rfl hg' hz ⟨(by simp [zc] <;> omega), ?_⟩))
 refine zL rfl rfl (yg rfl (we hr') hsub1 (by omega) fun v4 h4 c4 hc4 hf4 hq => ?_)
 rw [hob] at hq
 subst hq
 have hgx : ∀ {o q : AObj}, MapI.get (MapI.set (MapI.set h4 c4 o) c4 q) c4 = some q := zt _ _ _
 have hT4 : ∀ {o q z : AObj}, ListOf (0 + 1) yG (MapI.set (MapI.set (MapI.set h4 c4 o) c4 q) (c4 + 1) z) (c4 + 1 + 1) vT (qZ (newPos L) (L.take i)) := fun {o q z} => hT.keep (by omega) fun n hn _ => by
  rw [zu _ _ _ _ (by omega), zu _ _ _ _ (by omega), zu _ _ _ _ (by omega), hf4 n (by omega)]
 repeat' (first | apply zw | apply zx | apply zK | refine za rfl rfl (fun _ => rfl) ?_ | refine zL rfl rfl (yM rfl ⟨(by simp [zc] <;> omega), ?_⟩) | refine zL rfl rfl (ya (k := 4) rfl rfl rfl rfl (zt _ _ _) (zf rfl) rfl ⟨(by simp [zc] <;> omega), ?_⟩) | refine zL rfl rfl (yy (k := 1) rfl rfl rfl rfl (by decide) rfl ⟨(by simp [zc] <;> omega), ?_⟩))
 refine zL rfl rfl (qC (cells := yG) (y := ((newPos L p : Nat) : Int)) rfl rfl ⟨rfl, rfl, rfl, ⟨_, rfl, by decide⟩⟩ rfl je qP hT4 (by rw [<- hn1]; exact zt _ _ _) (by rw [List.length_map, List.length_take]; omega) (by omega) (fun n h => .inr (by have := hTn n h; omega)) (by omega) fun v8 h8 c8 rv8 hn8 hc8 hf8 => ?_)
 have hgx8 : MapI.get h8 c4 = some (.cells true true (hdV x)) := by
  rw [hf8 c4 (by omega) (fun hh => by have := hT.lt c4 hh; omega), zu _ _ _ _ (by omega)]; exact hgx
 repeat' (first | apply zx | apply zK | refine za rfl rfl (fun _ => rfl) ?_ | refine zU ?_ | refine zL rfl rfl (zW rfl rfl rfl hgx8 rfl ⟨(by simp [zc] <;> omega), ?_⟩))
 refine ⟨(i + 1, v8), by simp only; omega, ?_, by simp only; omega, by omega, ?_, fun n hn => ?_, fun n hn => ?_⟩
 ·rw [hw1, hw2]
  exact fr ⟨rfl, rfl, rfl, rfl, rfl, trivial⟩
 ·have e : qZ (newPos L) (L.take (i + 1)) = qZ (newPos L) (L.take i) ++ [((newPos L p : Nat) : Int)] := by
   rw [List.take_add_one, ho]; simp [qZ]
  simp only [e]
  exact rv8
 ·rcases hn8 n hn with h | h
  ·exact hTn n h
  ·omega
 ·rw [hf8 n (by omega) (fun hh => by have := hTn n hh; omega), zu _ _ _ _ (by omega), zu _ _ _ _ (by omega), zu _ _ _ _ (by omega), hf4 n (by omega)]; exact hf n hn
end
end Go.Proofs.YtjnfjnmgfpffcaaGreat
