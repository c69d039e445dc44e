/- Marking: what its functions give, of a heap that is sound. How much the search may put aside. What is reached: the walk. Threads: what its functions give. Thread and Loose. Sliding in plain words: threads, what each pass leaves. Sliding in plain words: the way up. Sliding in plain words: the way down, and what is left. The slider: its words moved; the handles that are gone. The slider: the handles that are gone. The slider: the way up. The slider: the way up, walked. The slider: the way down, walked. Slide. The heap: what its functions give, of heaps in which no bytes go. The heap: collecting. The heap: Need, Collect; what is made. -/
import Derived.Test.YtjnfjnmgfpffcaaGreatPc
set_option linter.unusedVariables false
set_option linter.unusedSectionVars false
set_option linter.unusedSimpArgs false
set_option linter.unnecessarySimpa false
set_option maxRecDepth 10000
namespace Go.Proofs.YtjnfjnmgfpffcaaGreat
open Go.Ab
section
variable {h h' : HH} {c c' a : Nat} {vW vR vI : V} {W R : List Int} {size : Int}
theorem sound_word {w : Int} {bs : List Bool} (hw : okW w) (ri : RowOf 1 jb h c vI bs) (hlen : bs.length <= 1048576) (h6 : yL w ≠ 6) (h7 : yL w ≠ 7) (h5 : yL w = 5 -> ∃ j : Nat, yI w = j /\ bs[j]? = some true) :
  DoesR 88 [U w, vI] h c (zS vI) fun v h' c' => v = .bool true /\ h = h' /\ c = c' := by
 have e6 : (yL w == 6) = false := by simpa using h6
 have e7 : (yL w == 7) = false := by simpa using h7
 refine yN (enter (fn := Tryz.f88) Tryz.func88 rfl rfl (zf rfl) ?_)
 repeat' (first | apply zw | apply zx | apply zK | refine za rfl rfl (fun _ => rfl) ?_)
 refine zL rfl rfl (yZ rfl (g8 hw) (fun n hn => by cases hn) (Nat.le_refl _) fun v h4 c4 hc4 hfr4 hq => ?_)
 obtain ⟨rfl, rfl, rfl⟩ := hq
 repeat' (first | apply zw | apply zx | apply zB | apply zK | refine za rfl rfl (fun _ => rfl) ?_ | refine zU ?_)
 refine zH rfl (fun hb => by rw [e6] at hb; cases hb) (fun _ => ?_)
 repeat' (first | apply zx | apply zK | refine za rfl rfl (fun _ => rfl) ?_ | refine zU ?_)
 refine zH rfl (fun hb => by rw [e7] at hb; cases hb) (fun _ => ?_)
 by_cases t5 : yL w = 5
 case neg =>
  have e5 : (yL w == 5) = false := by simpa using t5
  repeat' (first | apply zw | apply zx | apply zK | refine za rfl rfl (fun _ => rfl) ?_ | refine zU ?_)
  refine zH rfl (fun hb => by rw [e5] at hb; cases hb) (fun _ => ?_)
  repeat' (first | apply zw | apply zx | apply zz | apply zG | apply zK | refine za rfl rfl (fun _ => rfl) ?_)
  exact z6 rfl ⟨rfl, rfl, rfl⟩
 have e5 : (yL w == 5) = true := by simpa using t5
 obtain ⟨j, hv, hj⟩ := h5 t5
 have hjl := (zj hj).1
 obtain ⟨s, cap, rfl, hs⟩ := ri.shape
 obtain ⟨m, cl, junk, rfl, hm, hg⟩ := hs j hjl
 have e1 : decide ((j : Int) >= 0) = true := by simp
 have e2 : decide ((j : Int) < (bs.length : Int)) = true := by simp; omega
 have hz : nth (flat jb bs ++ junk) (0 + ((j : Nat) : Int).toNat * 1) = some (.bool true) := by
  rw [show 0 + ((j : Nat) : Int).toNat * 1 = j from by simp]; exact yB jW hj rfl junk
 repeat' (first | apply zw | apply zx | apply zK | refine za rfl rfl (fun _ => rfl) ?_ | refine zU ?_)
 refine zH rfl (fun _ => ?_) (fun hb => by rw [e5] at hb; cases hb)
 repeat' (first | apply zw | apply zx | refine za rfl rfl (fun _ => rfl) ?_)
 refine zL rfl rfl (yZ rfl (gZ hw) (fun n hn => by cases hn) (Nat.le_refl _) fun v h4 c4 hc4 hfr4 hq => ?_)
 obtain ⟨rfl, rfl, rfl⟩ := hq
 rw [hv]
 repeat' (first | apply zw | apply zx | apply zK | refine za rfl rfl (fun _ => rfl) ?_)
 simp only [e1]
 skip
 simp only [e2]
 repeat' (first | apply zG | apply zK | refine za rfl rfl (fun _ => rfl) ?_ | refine yn ?_ | refine qr ?_ | refine zL rfl rfl (zZ (k := 1) rfl rfl rfl rfl ⟨by omega, by omega⟩ ⟨(by simp [InR, Acc.name, Acc.writes, zS] <;> omega), ?_⟩) | refine zL rfl rfl (zW rfl rfl rfl hg hz ⟨(by simp [InR, Acc.name, Acc.writes, zS] <;> omega), ?_⟩))
 exact z6 rfl ⟨rfl, rfl, rfl⟩
theorem clone_words (rr : RowOf 1 ye h c vR R) (hlen : R.length <= 1000000000) : Does 51 [vR] h c (zS vR) fun v h' c' => (ListOf 1 ye h' c' v R \/ (R = [] /\ ∃ b cap, v = .slice b 0 cap)) /\ (∀ n ∈ zS v, c <= n) /\ ∀ n, n < c -> MapI.get h' n = MapI.get h n := by
 obtain ⟨b, cap, rfl, hlt, hrow⟩ := rr
 refine yi (enter (fn := Tryz.f51) Tryz.func51 rfl rfl (zf rfl) ?_)
 cases b with
 | none =>
  have hR : R = [] := by
   by_cases e : R = []
   ·exact e
   ·obtain ⟨m, cl, junk, e2, _⟩ := hrow e; cases e2
  subst hR
  repeat' (first | apply zw | apply zx | apply zK | refine za rfl rfl (fun _ => rfl) ?_ | refine zU ?_)
  refine ze rfl ?_
  repeat' (first | apply zw | apply zx | apply zG | apply zK | refine za rfl rfl (fun _ => rfl) ?_ | refine yn ?_)
  exact z6 rfl ⟨.inl .nil, fun n hn => (by cases hn), fun n _ => rfl⟩
 | some p =>
  obtain ⟨m0, o0⟩ := p
  have hm0 : m0 < c := hlt m0 (by simp [zS])
  repeat' (first | apply zw | apply zx | apply zK | refine za rfl rfl (fun _ => rfl) ?_ | refine zU ?_)
  refine zd rfl ?_
  repeat' (first | apply zw | apply zx | apply zz | refine za rfl rfl (fun _ => rfl) ?_ | refine zL rfl rfl (yy (k := 1) rfl rfl rfl rfl (by decide) rfl ⟨(by simp [zc] <;> omega), ?_⟩))
  by_cases hR : R = []
  ·subst hR
   refine zL rfl rfl (jC (call := fun n => evFn EE cx pr n) (v := .slice (some (c, 0)) 0 (.known 0)) (l := []) rfl rfl (gw (k := 0) ⟨rfl, rfl, rfl, ⟨_, rfl, by decide⟩⟩ rfl rfl (fun h => by cases h) (by decide) (fun m o k' h1 h2 => by cases h2; exact Nat.le_refl _)) ⟨zV, ?_⟩)
   repeat' (first | apply zG | apply zK | refine za rfl rfl (fun _ => rfl) ?_)
   exact z6 rfl ⟨.inr ⟨rfl, _, _, rfl⟩, fun n hn => (by have hn : n ∈ [c] := hn; simp at hn; omega), fun n hn => zu _ _ _ _ (by omega)⟩
  ·obtain ⟨m, cl, junk, e, hg, _⟩ := hrow hR
   cases e
   have hpos : 0 < R.length := List.length_pos_iff.2 hR
   have hg' : ∀ {o : AObj}, MapI.get (MapI.set h c o) m0 = some (.cells true cl (flat ye R ++ junk)) := yP (by omega) hg
   have hcut : cut (flat ye R ++ junk) 0 (R.length * (0 + 1)) = some (flat ye R) := by
    have := flat_take (cells := ye) (k := 1) yq R R.length (Nat.le_refl _) junk
    rw [List.take_length] at this
    exact this
   refine zL rfl rfl (jC (call := fun n => evFn EE cx pr n) rfl rfl (append_known (k := 0) ⟨rfl, rfl, rfl, ⟨_, rfl, by decide⟩⟩ rfl hpos hlen hg' hcut) ⟨?_, ?_⟩)
   ·intro x hx
    simp at hx
    rcases hx with rfl | rfl
    ·exact .inl (by simp [Acc.name, zS])
    ·exact .inr (by simp [Acc.name])
   repeat' (first | apply zG | apply zK | refine za rfl rfl (fun _ => rfl) ?_)
   refine z6 rfl ⟨.inl (.inr ⟨c + 1, true, [], rfl, by omega, by rw [zt, List.append_nil], rfl⟩), fun n hn => (by have hn : n ∈ [c + 1] := hn; simp at hn; omega), fun n hn => ?_⟩
   rw [zu _ _ _ _ (by omega), zu _ _ _ _ (by omega)]
theorem wo {x : Hd} : DoesR 90 [.agg (hdV x)] h c [] fun v h' c' => v = I (yc x) := by
 have hg : MapI.get (MapI.set h c (.cells true true (hdV x))) c = some (.cells true true (hdV x)) := zt _ _ _
 refine yN (enter (fn := Tryz.f90) Tryz.func90 rfl rfl (zf rfl) ?_)
 unfold yc
 by_cases h0 : x.kind = 0
 ·have e0 : (x.kind == 0) = true := by simp [h0]
  repeat' (first | apply zw | apply zx | apply zB | apply zK | refine za rfl rfl (fun _ => rfl) ?_ | refine zU ?_ | refine zL rfl rfl (yK rfl ⟨(by simp [InR, Acc.name, Acc.writes, zS] <;> omega), ?_⟩) | refine zL rfl rfl (zW rfl rfl rfl hg rfl ⟨(by simp [InR, Acc.name, Acc.writes, zS] <;> omega), ?_⟩))
  refine zH rfl (fun _ => ?_) (fun hb => by rw [e0] at hb; cases hb)
  repeat' (first | apply zw | apply zx | apply zG | apply zK | refine za rfl rfl (fun _ => rfl) ?_ | refine yn ?_ | refine qr ?_)
  rw [if_pos h0]
  exact z6 rfl rfl
 have e0 : (x.kind == 0) = false := beq_eq_false_iff_ne.2 h0
 by_cases h1 : x.kind = 1
 ·have e1 : (x.kind == 1) = true := by simp [h1]
  repeat' (first | apply zw | apply zx | apply zB | apply zK | refine za rfl rfl (fun _ => rfl) ?_ | refine zU ?_ | refine zL rfl rfl (yK rfl ⟨(by simp [InR, Acc.name, Acc.writes, zS] <;> omega), ?_⟩) | refine zL rfl rfl (zW rfl rfl rfl hg rfl ⟨(by simp [InR, Acc.name, Acc.writes, zS] <;> omega), ?_⟩))
  refine zH rfl (fun hb => by rw [e0] at hb; cases hb) (fun _ => ?_)
  repeat' (first | apply zw | apply zx | apply zK | refine za rfl rfl (fun _ => rfl) ?_ | refine zU ?_)
  refine zH rfl (fun _ => ?_) (fun hb => by rw [e1] at hb; cases hb)
  repeat' (first | apply zw | apply zx | apply zG | apply zK | refine za rfl rfl (fun _ => rfl) ?_ | refine yn ?_ | refine qr ?_ | refine zL rfl rfl (zW rfl rfl rfl hg rfl ⟨(by simp [InR, Acc.name, Acc.writes, zS] <;> omega), ?_⟩))
  rw [if_neg h0, if_pos h1]
  exact z6 rfl rfl
 have e1 : (x.kind == 1) = false := beq_eq_false_iff_ne.2 h1
 repeat' (first | apply zw | apply zx | apply zB | apply zK | refine za rfl rfl (fun _ => rfl) ?_ | refine zU ?_ | refine zL rfl rfl (yK rfl ⟨(by simp [InR, Acc.name, Acc.writes, zS] <;> omega), ?_⟩) | refine zL rfl rfl (zW rfl rfl rfl hg rfl ⟨(by simp [InR, Acc.name, Acc.writes, zS] <;> omega), ?_⟩))
 refine zH rfl (fun hb => by rw [e0] at hb; cases hb) (fun _ => ?_)
 repeat' (first | apply zw | apply zx | apply zK | refine za rfl rfl (fun _ => rfl) ?_ | refine zU ?_)
 refine zH rfl (fun hb => by rw [e1] at hb; cases hb) (fun _ => ?_)
 repeat' (first | apply zw | apply zx | apply zz | apply zG | apply zK | refine za rfl rfl (fun _ => rfl) ?_)
 rw [if_neg h0, if_neg h1]
 exact z6 rfl rfl
theorem gj {x : Hd} (h : okH x) : 0 <= yc x := by
 unfold okH at h
 unfold yc
 split
 ·omega
 ·split <;> omega
theorem obj_get {l : List (Nat × Hd)} {p k : Nat} {x : Hd} (so : SoundW W R l) (hx : (p, x) ∈ l) (hk : (k : Int) < yc x) : ∃ w, W[p + 1 + k]? = some w := by
 obtain ⟨j, w, e, hw, hr, hsz, hok⟩ := yJ (so.objs.mem _ hx).2
 have := so.le _ hx
 have h1 : yc x <= x.size := this
 have h2 : (j : Int) + 1 + x.size <= W.length := hsz
 have e : ((p : Nat) : Int) = j := e
 exact ⟨_, zp (by omega)⟩
abbrev FR (b : EE) (l : List (Nat × V)) : EE := l.foldr (fun kv e => MapI.set e kv.1 kv.2) b
def AllIn (X : EE) : List (Nat × V) -> Prop
 | [] => True
 | kv :: l => X kv.1 = some kv.2 /\ AllIn X l
theorem fr {X : EE} : ∀ {l : List (Nat × V)}, AllIn X l -> ∃ b, X = FR b l
 | [], _ => ⟨X, rfl⟩
 | (k, v) :: l, h => by
  obtain ⟨b, hb⟩ := fr h.2
  refine ⟨b, ?_⟩
  show X = MapI.set (FR b l) k v
  rw [<- hb, FM.add h.1]
theorem sound_ok {l : List (Nat × Hd)} (r : ArAt h c a vW W size) (rr : RowOf 1 ye h c vR R) (hRok : ∀ w ∈ R, okW w) (hRl : R.length <= 1000000000) (so : SoundW W R l) :
  Does 75 [.ptr (some (a, 0)), vR] h c (an a vW ++ zS vR) fun v h' c' => v = .bool true /\ ∀ n, n < c -> MapI.get h' n = MapI.get h n := by
 have hmx := r.mx
 have hle := r.le
 have hokW := r.ok
 have hsub1 : ∀ n ∈ an a vW, n ∈ an a vW ++ zS vR \/ c <= n := fun n hn => .inl (zh _ hn)
 have hsub2 : ∀ n ∈ zS vR, n ∈ an a vW ++ zS vR \/ c <= n := fun n hn => .inl (zi _ hn)
 have hll := jS so.objs
 refine yi (enter (fn := Tryz.f75) Tryz.func75 rfl rfl (zf rfl) ?_)
 repeat' (first | apply zw | apply zx | apply zK | refine za rfl rfl (fun _ => rfl) ?_)
 refine zL rfl rfl (yj rfl (objects_ok r so.objs) hsub1 (Nat.le_refl _) fun v1 h1 c1 hc1 _ hq => ?_)
 obtain ⟨vL, rfl, hL1, hLn, hf1⟩ := hq
 repeat' (first | apply zw | apply zx | apply zK | refine za rfl rfl (fun _ => rfl) ?_ | refine zU ?_)
 refine zd rfl ?_
 repeat' (first | apply zw | apply zx | apply zz | refine za rfl rfl (fun _ => rfl) ?_)
 refine zL rfl rfl (yg rfl (g7 (r.same hc1 hf1)) hsub1 hc1 fun v2 h2 c2 hc2 _ hq => ?_)
 obtain ⟨rfl, rfl, rfl⟩ := hq
 have hz0 : jT cx 4 W.length = some (flat jb (List.replicate W.length false)) := by rw [<- kK]; rfl
 have hLlt := hL1.lt
 obtain ⟨sL, capL, rfl, hsL⟩ := hL1.shape
 rw [List.length_map] at hsL
 generalize hvL : (V.slice sL (List.map (fun p => ((p.1 : Nat) : Int)) l).length capL) = vL at hLlt hLn
 have hvL : V.slice sL l.length capL = vL := by rw [<- hvL, List.length_map]
 generalize hvI : V.slice (some (c1, 0)) W.length (.known W.length) = vI
 -- the jm
 repeat' (first | refine zJ (a := Code.seq (Code.region 5 _ _) _) (fun e' h' c' => (∃ b0, e' = FR b0 [(0, V.ptr (some (a, 0))), (1, vR), (5, vL), (7, vI)]) /\ c' = c1 + 1 /\ MapI.get h' c1 = some (AObj.cells true true (flat jb (jm W.length (l.map Prod.fst).reverse))) /\ (∀ n, n < c1 -> MapI.get h' n = MapI.get h1 n)) ?_ ?_ | apply zw | apply zx | apply zK | refine za rfl rfl (fun _ => rfl) ?_ | refine zL rfl rfl (qV rfl rfl rfl hz0 ⟨_, rfl, by decide⟩ ⟨Nat.le_refl _, by omega⟩ ⟨(by simp [zc] <;> omega), ?_⟩))
 ·subst hvL
  subst hvI
  repeat' (first | apply zB | apply zK | refine za rfl rfl (fun _ => rfl) ?_)
  refine zI ?_
  refine zQ (X := Nat) (fun i e' h' c' => (∃ b0, e' = FR b0 [(0, V.ptr (some (a, 0))), (1, vR), (5, .slice sL l.length capL), (7, .slice (some (c1, 0)) W.length (.known W.length)), (29, .slice sL l.length capL), (30, I l.length), (31, I i)]) /\ i <= l.length /\ c' = c1 + 1 /\ MapI.get h' c1 = some (AObj.cells true true (flat jb (jm W.length ((l.take i).map Prod.fst).reverse))) /\ (∀ n, n < c1 -> MapI.get h' n = MapI.get h1 n))
   (fun i => l.length - i) ?_ 0 _ _ _ ⟨fr ⟨rfl, rfl, rfl, rfl, rfl, rfl, rfl, trivial⟩, Nat.zero_le _, rfl, by rw [zt, List.take_zero]; simp [marks_nil], fun n hn => zu _ _ _ _ (by omega)⟩
  rintro i e' h' c' ⟨⟨b0, rfl⟩, hi, rfl, hI, hf⟩
  repeat' (first | apply zw | apply zx | apply zK | refine za rfl rfl (fun _ => rfl) ?_)
  refine zH rfl (fun hlt => ?_) (fun hge => ?_)
  case refine_2 =>
   have hge : l.length <= i := by simpa using hge
   rw [List.take_of_length_le hge] at hI
   repeat' (first | apply zF | refine zU ?_ | refine ji ?_ | refine jr rfl ?_)
   refine ⟨fr ?_, rfl, hI, hf⟩
   exact ⟨rfl, rfl, rfl, rfl, trivial⟩
  have hlt : i < l.length := by simpa using hlt
  obtain ⟨⟨p, x⟩, hx⟩ : ∃ z, l[i]? = some z := ⟨_, zp hlt⟩
  obtain ⟨rfl, sn, cl, junk, rfl, hsn, hg, _⟩ := hsL i hlt
  have hg' : MapI.get h' sn = _ := (hf sn hsn).trans hg
  have hsnc : c <= sn := hLn sn (by simp [zS])
  have hz : nth (flat yG (List.map (fun p => ((p.1 : Nat) : Int)) l) ++ junk) (0 + ((i : Nat) : Int).toNat * 1) = some (I p) := by
   rw [show 0 + ((i : Nat) : Int).toNat * 1 = i from by simp]
   exact yB je (by rw [List.getElem?_map, hx]; rfl) rfl junk
  obtain ⟨jj, w', ej, hw', _⟩ := yJ (so.objs.mem _ (zo hx)).2
  have hpl : p < W.length := by
   have := (zj hw').1
   have ej : ((p : Nat) : Int) = jj := ej
   omega
  have hw1 : IntKind.i64.wrap ((i : Int) + 1) = ((i + 1 : Nat) : Int) := by rw [Go.IntWalk.i64_in _ (by omega)]; omega
  have hb : 0 + ((p : Nat) : Int).toNat * 1 + 1 <= (flat jb (jm W.length ((l.take i).map Prod.fst).reverse)).length := by
   rw [yv jW, jK]; omega
  repeat' (first | apply zw | apply zx | apply zz | apply zB | apply zK | refine za rfl rfl (fun _ => rfl) ?_ | refine zU ?_ | refine zL rfl rfl (zZ (k := 1) rfl rfl rfl rfl ⟨by omega, by omega⟩ ⟨(by simp [zc] <;> omega), ?_⟩) | refine zL rfl rfl (zW rfl rfl rfl hg' hz ⟨(by simp [zc] <;> omega), ?_⟩) | refine zL rfl rfl (ya (k := 1) rfl rfl rfl rfl hI hb rfl ⟨(by simp [zc] <;> omega), ?_⟩))
  refine ⟨i + 1, by omega, ?_, by omega, rfl, ?_, fun n hn => ?_⟩
  ·rw [hw1]
   exact fr ⟨rfl, rfl, rfl, rfl, rfl, rfl, rfl, trivial⟩
  ·rw [zt]
   have h1 := qt (cells := jb) (k := 1) jW (junk := []) (z := true) (xs := jm W.length ((l.take i).map Prod.fst).reverse) (i := p) (by rw [jK]; exact hpl)
   rw [List.append_nil, List.append_nil, marks_set _ hpl] at h1
   rw [show l.take (i + 1) = l.take i ++ [(p, x)] from by rw [List.take_add_one, hx]; rfl, List.map_append, List.reverse_append]
   refine congrArg (fun z => some (AObj.cells true true z)) ?_
   rw [show 0 + ((p : Nat) : Int).toNat * 1 = p * 1 from by simp]
   exact h1
  ·rw [zu _ _ _ _ (by omega)]; exact hf n hn
 rintro e H1 c' ⟨⟨b0, rfl⟩, rfl, hI, hfm⟩
 have hr1 : ArAt H1 (c1 + 1) a vW W size := r.same (by omega) fun n hn => by rw [hfm n (by omega), hf1 n hn]
 have hrr1 : RowOf 1 ye H1 (c1 + 1) vR R := rr.keep (by omega) fun n hn _ => by rw [hfm n (by omega), hf1 n hn]
 have hri1 : RowOf 1 jb H1 (c1 + 1) vI (jm W.length (l.map Prod.fst).reverse) := by
  subst hvI
  exact ⟨_, _, by rw [jK], fun n hn => (by simp [zS] at hn; omega), fun _ => ⟨c1, true, [], rfl, by rw [List.append_nil]; exact hI, rfl⟩⟩
 have hIn : ∀ n ∈ zS vI, n ∈ an a vW ++ zS vR \/ c <= n := fun n hn => by
  subst hvI; simp [zS] at hn; exact .inr (by omega)
 have hfield : ∀ {H : HH} {C : Nat} {w : Int}, (∀ n, n < c1 + 1 -> MapI.get H n = MapI.get H1 n) -> c1 + 1 <= C -> okW w -> okField l w -> DoesR 88 [U w, vI] H C (zS vI) fun v h' c' => v = .bool true /\ H = h' /\ C = c' := fun {H C w} he hC hw hf => by
  refine sound_word hw (hri1.keep hC fun n hn _ => he n hn) (by rw [jK]; omega) hf.1 hf.2.1 fun h5 => ?_
  obtain ⟨p, hp, e⟩ := hf.2.2 h5
  refine ⟨p.1, e, ?_⟩
  obtain ⟨j, w', ej, hw', _⟩ := yJ (so.objs.mem p hp).2
  have hlt := (zj hw').1
  rw [qI _ (by omega)]
  simp only [List.contains_eq_mem, List.mem_reverse, List.mem_map, Option.some.injEq, decide_eq_true_eq]
  exact ⟨p, hp, rfl⟩
 -- the roots
 repeat' (first | refine zJ (a := Code.seq (Code.region 10 _ _) _) (fun e' h' c' => (∃ b0, e' = FR b0 [(0, V.ptr (some (a, 0))), (5, vL), (7, vI)]) /\ h' = H1 /\ c' = c1 + 1) ?_ ?_ | apply zw | apply zx | refine za rfl rfl (fun _ => rfl) ?_)
 ·obtain ⟨sR, capR, rfl, hsR⟩ := hrr1.shape
  repeat' (first | apply zB | apply zK | refine za rfl rfl (fun _ => rfl) ?_)
  refine zI ?_
  refine zQ (X := Nat) (fun i e' h' c' => (∃ b0, e' = FR b0 [(0, V.ptr (some (a, 0))), (5, vL), (7, vI), (39, .slice sR R.length capR), (40, I R.length), (41, I i)]) /\ i <= R.length /\ h' = H1 /\ c' = c1 + 1)
   (fun i => R.length - i) ?_ 0 _ _ _ ⟨fr ⟨rfl, rfl, rfl, rfl, rfl, rfl, trivial⟩, Nat.zero_le _, rfl, rfl⟩
  rintro i e' h' c' ⟨⟨b0, rfl⟩, hi, rfl, rfl⟩
  repeat' (first | apply zw | apply zx | apply zK | refine za rfl rfl (fun _ => rfl) ?_)
  refine zH rfl (fun hlt => ?_) (fun hge => ?_)
  case refine_2 =>
   repeat' (first | apply zF | refine zU ?_ | refine ji ?_ | refine jr rfl ?_)
   refine ⟨fr ?_, rfl, rfl⟩
   exact ⟨rfl, rfl, rfl, trivial⟩
  have hlt : i < R.length := by simpa using hlt
  obtain ⟨w, hw⟩ : ∃ z, R[i]? = some z := ⟨_, zp hlt⟩
  have hwm := zo hw
  obtain ⟨m, cl, junk, rfl, hm, hg⟩ := hsR i hlt
  have hz : nth (flat ye R ++ junk) (0 + ((i : Nat) : Int).toNat * 1) = some (U w) := by
   rw [show 0 + ((i : Nat) : Int).toNat * 1 = i from by simp]; exact yB yq hw rfl junk
  have hw1 : IntKind.i64.wrap ((i : Int) + 1) = ((i + 1 : Nat) : Int) := by rw [Go.IntWalk.i64_in _ (by omega)]; omega
  repeat' (first | apply zw | apply zx | apply zz | apply zB | apply zK | refine za rfl rfl (fun _ => rfl) ?_ | refine zL rfl rfl (zZ (k := 1) rfl rfl rfl rfl ⟨by omega, by omega⟩ ⟨(by simp [zc] <;> omega), ?_⟩) | refine zL rfl rfl (zW rfl rfl rfl hg hz ⟨(by simp [zc] <;> omega), ?_⟩))
  refine zL rfl rfl (yg rfl (hfield (fun _ _ => rfl) (Nat.le_refl _) (hRok w hwm) (so.roots w hwm)) hIn (by omega) fun v4 h4 c4 hc4 _ hq => ?_)
  obtain ⟨rfl, rfl, rfl⟩ := hq
  repeat' (first | apply zK | refine za rfl rfl (fun _ => rfl) ?_ | refine zU ?_)
  refine zd rfl ?_
  repeat' (first | apply zx | apply zz | apply zK | refine za rfl rfl (fun _ => rfl) ?_ | refine zU ?_)
  refine ⟨i + 1, by omega, ?_, by omega, rfl, rfl⟩
  rw [hw1]
  exact fr ⟨rfl, rfl, rfl, rfl, rfl, rfl, trivial⟩
 rintro e H2 c' ⟨⟨b0, rfl⟩, rfl, rfl⟩
 have hsL1 : ∀ i, i < l.length -> capL = .upTo 1 /\ ∃ m cl junk, sL = some (m, 0) /\ m < c1 /\ MapI.get H2 m = some (.cells true cl (flat yG (List.map (fun p => ((p.1 : Nat) : Int)) l) ++ junk)) := fun i hi => by
  obtain ⟨e1, m, cl, junk, e2, e3, e4, _⟩ := hsL i hi
  exact ⟨e1, m, cl, junk, e2, e3, by rw [hfm m e3]; exact e4⟩
 subst hvL
 repeat' (first | apply zw | apply zx | apply zB | apply zK | refine za rfl rfl (fun _ => rfl) ?_)
 refine zI ?_
 refine zQ (X := Nat) (fun i e' h' c' => (∃ b0, e' = FR b0 [(0, V.ptr (some (a, 0))), (7, vI), (50, .slice sL l.length capL), (51, I l.length), (52, I i)]) /\ i <= l.length /\ c1 + 1 <= c' /\ (∀ n, n < c1 + 1 -> MapI.get h' n = MapI.get H2 n))
  (fun i => l.length - i) ?_ 0 _ _ _ ⟨fr ⟨rfl, rfl, rfl, rfl, rfl, trivial⟩, Nat.zero_le _, Nat.le_refl _, fun _ _ => rfl⟩
 rintro i e' h' c' ⟨⟨b0, rfl⟩, hi, hc', hf⟩
 repeat' (first | apply zw | apply zx | apply zK | refine za rfl rfl (fun _ => rfl) ?_)
 refine zH rfl (fun hlt => ?_) (fun hge => ?_)
 case refine_2 =>
  repeat' (first | apply zw | apply zx | apply zF | apply zG | apply zK | refine za rfl rfl (fun _ => rfl) ?_)
  refine z6 rfl ⟨rfl, fun n hn => ?_⟩
  rw [hf n (by omega), hfm n (by omega), hf1 n hn]
 have hlt : i < l.length := by simpa using hlt
 obtain ⟨⟨p, x⟩, hx⟩ : ∃ z, l[i]? = some z := ⟨_, zp hlt⟩
 have hxm := zo hx
 obtain ⟨rfl, sn, cl, junk, rfl, hsn, hg⟩ := hsL1 i hlt
 have hg' : MapI.get h' sn = _ := (hf sn (by omega)).trans hg
 have hsnc : c <= sn := hLn sn (by simp [zS])
 have hz : nth (flat yG (List.map (fun p => ((p.1 : Nat) : Int)) l) ++ junk) (0 + ((i : Nat) : Int).toNat * 1) = some (I p) := by
  rw [show 0 + ((i : Nat) : Int).toNat * 1 = i from by simp]
  exact yB je (by rw [List.getElem?_map, hx]; rfl) rfl junk
 obtain ⟨jj, w', ej, hw', _, hsz, hxok⟩ := yJ (so.objs.mem _ hxm).2
 have ej : ((p : Nat) : Int) = jj := ej
 have hsz : (jj : Int) + 1 + x.size <= W.length := hsz
 have hfs : yc x <= x.size := so.le _ hxm
 have hf0 := gj hxok
 unfold okH at hxok
 have hxok : 0 <= x.kind /\ x.kind <= 3 /\ 0 <= x.size /\ x.size < 1048576 /\ 0 <= x.tree /\ x.tree < 1048576 := hxok
 have hw1 : IntKind.i64.wrap ((i : Int) + 1) = ((i + 1 : Nat) : Int) := by rw [Go.IntWalk.i64_in _ (by omega)]; omega
 repeat' (first | apply zw | apply zx | apply zz | apply zB | apply zK | refine za rfl rfl (fun _ => rfl) ?_ | refine zL rfl rfl (zZ (k := 1) rfl rfl rfl rfl ⟨by omega, by omega⟩ ⟨(by simp [zc] <;> omega), ?_⟩) | refine zL rfl rfl (zW rfl rfl rfl hg' hz ⟨(by simp [zc] <;> omega), ?_⟩))
 refine zL rfl rfl (yg rfl (gI (hr1.same hc' hf)) hsub1 (by omega) fun v4 h4 c4 hc4 hf4 hq => ?_)
 have hob : j4 W ((p : Nat) : Int) = some x := (so.objs.mem _ hxm).2
 rw [hob] at hq
 subst hq
 repeat' (first | apply zw | apply zy | apply zK | refine za rfl rfl (fun _ => rfl) ?_ | refine zL rfl rfl (yM rfl ⟨(by simp [zc] <;> omega), ?_⟩) | refine zL rfl rfl (ya (k := 4) rfl rfl rfl rfl (zt _ _ _) (zf rfl) rfl ⟨(by simp [zc] <;> omega), ?_⟩))
 have hgx : ∀ {o p : AObj}, MapI.get (MapI.set (MapI.set h4 c4 o) c4 p) c4 = some p := zt _ _ _
 repeat' (first | refine zO rfl rfl (yC (k := 4) rfl rfl rfl rfl hgx rfl ⟨(by simp [zc] <;> omega), ?_⟩))
 refine zO rfl rfl (jy rfl (wo (x := x)) (fun n hn => by cases hn) (by omega) fun v5 h5 c5 al hal hc5 hf5 hq => ?_)
 subst hq
 have hgx5 : MapI.get h5 c4 = some (.cells true true (hdV x)) := by
  rw [hf5 c4 (by omega)]; exact zt _ _ _
 have hal' : ∀ x ∈ al, c4 = x.name -> x.writes = false := fun x hx e => by
  cases hw : x.writes with
  | false => rfl
  | true => have := (hal x hx).2 hw; omega
 have e5 : decide (yc x > x.size) = false := by simpa using hfs
 repeat' (first | refine zb rfl rfl (fun _ => rfl) ?_ | refine zO rfl rfl (zW rfl rfl rfl hgx5 rfl ⟨(by simp [zc] <;> omega), ?_⟩))
 refine zN (ym (cs := [0, 1, 0, 4, 15]) (by decide +kernel) ?_) ?_
 ·simp +contextual [jt, apP, Dis, yF, yE, yw, yA, Nat.testBit, hal']
 repeat' (first | refine zU ?_)
 refine zH rfl (fun hb => by rw [e5] at hb; cases hb) (fun _ => ?_)
 repeat' (first | apply zw | apply zx | apply zz | refine zL rfl rfl (yC (k := 4) rfl rfl rfl rfl hgx5 rfl ⟨(by simp [zc] <;> omega), ?_⟩))
 refine zL rfl rfl (yg rfl (wo (x := x)) (fun n hn => by cases hn) (by omega) fun v6 h6 c6 hc6 hf6 hq => ?_)
 subst hq
 have heq6 : ∀ n, n < c1 + 1 -> MapI.get h6 n = MapI.get H2 n := fun n hn => by
  rw [hf6 n (by omega), hf5 n (by omega), zu _ _ _ _ (by omega), zu _ _ _ _ (by omega), hf4 n (by omega)]; exact hf n hn
 have hr6 := hr1.same (h' := h6) (c' := c6) (by omega) heq6
 repeat' (first | apply zB | apply zK | refine za rfl rfl (fun _ => rfl) ?_)
 refine zI ?_
 refine zQ (X := Nat) (fun k e' h'' c'' => (∃ b0, e' = FR b0 [(0, V.ptr (some (a, 0))), (7, vI), (13, I p), (50, .slice (some (sn, 0)) l.length (.upTo 1)), (51, I l.length), (52, I i), (68, I (yc x)), (69, I k)]) /\ (k : Int) <= yc x /\ h'' = h6 /\ c'' = c6)
  (fun k => (yc x).toNat - k) ?_ 0 _ _ _ ⟨fr ⟨rfl, rfl, rfl, rfl, rfl, rfl, rfl, rfl, trivial⟩, by omega, rfl, rfl⟩
 rintro k e' h'' c'' ⟨⟨b0, rfl⟩, hk, rfl, rfl⟩
 repeat' (first | apply zw | apply zx | apply zK | refine za rfl rfl (fun _ => rfl) ?_)
 refine zH rfl (fun hlt => ?_) (fun hge => ?_)
 case refine_2 =>
  repeat' (first | apply zx | apply zF | apply zK | refine za rfl rfl (fun _ => rfl) ?_ | refine zU ?_)
  refine ⟨i + 1, by omega, ?_, by omega, by omega, heq6⟩
  rw [hw1]
  exact fr ⟨rfl, rfl, rfl, rfl, rfl, trivial⟩
 have hlt : (k : Int) < yc x := by simpa using hlt
 obtain ⟨w, hw⟩ := obj_get so hxm hlt
 have hww : okW w := hokW w (zo hw)
 have wa : IntKind.i64.wrap ((p : Int) + 1) = p + 1 := Go.IntWalk.i64_in _ (by omega)
 have wb : IntKind.i64.wrap (IntKind.i64.wrap ((p : Int) + 1) + (k : Int)) = ((p + 1 + k : Nat) : Int) := by rw [wa, Go.IntWalk.i64_in _ (by omega)]; omega
 have wk : IntKind.i64.wrap ((k : Int) + 1) = ((k + 1 : Nat) : Int) := by rw [Go.IntWalk.i64_in _ (by omega)]; omega
 repeat' (first | apply zw | apply zx | apply zz | apply zB | apply zK | refine za rfl rfl (fun _ => rfl) ?_)
 refine zL rfl rfl (yg rfl (ku hr6 wb hw) hsub1 (by omega) fun v7 h7 c7 hc7 _ hq => ?_)
 obtain ⟨rfl, rfl, rfl⟩ := hq
 repeat' (first | apply zw | apply zx | apply zK | refine za rfl rfl (fun _ => rfl) ?_)
 refine zL rfl rfl (yg rfl (hfield heq6 (by omega) hww (so.fields _ hxm k w hlt hw)) hIn (by omega) fun v7 h7 c7 hc7 _ hq => ?_)
 obtain ⟨rfl, rfl, rfl⟩ := hq
 repeat' (first | apply zK | refine za rfl rfl (fun _ => rfl) ?_ | refine zU ?_)
 refine zd rfl ?_
 repeat' (first | apply zx | apply zz | apply zK | refine za rfl rfl (fun _ => rfl) ?_ | refine zU ?_)
 refine ⟨k + 1, by omega, ?_, by omega, rfl, rfl⟩
 rw [wk]
 exact fr ⟨rfl, rfl, rfl, rfl, rfl, rfl, rfl, rfl, trivial⟩
end
open Go.Ab
theorem sum_sub {f : Nat -> Nat} : ∀ {S L : List Nat}, S.Nodup -> (∀ x ∈ S, x ∈ L) -> (S.map f).sum <= (L.map f).sum
 | [], _, _, _ => Nat.zero_le _
 | p :: S, L, hn, hs => by
  obtain ⟨h1, h2⟩ := List.nodup_cons.1 hn
  obtain ⟨A, B, rfl⟩ := List.append_of_mem (hs p (zq ..))
  have ih := sum_sub (f := f) (L := A ++ B) h2 fun x hx => by
   have h3 := hs x (zg _ hx)
   rcases zk h3 with h | h
   ·exact zh _ h
   ·rcases zl h with rfl | h
    ·exact absurd hx h1
    ·exact zi _ h
  simp only [List.map_append, List.map_cons, List.sum_append, List.sum_cons] at ih ⊢
  omega
def nf (W : List Int) (p : Nat) : Nat :=
 match j4 W p with
 | some x => (yc x).toNat
 | none => 0
theorem objs_sum {W : List Int} {i : Nat} {l : List (Nat × Hd)} (r : ObjsFrom W i l) (hle : ∀ p ∈ l, yc p.2 <= p.2.size) : ((l.map Prod.fst).map (nf W)).sum + i <= W.length := by
 induction r with
 | nil => simp
 | cons hx r ih =>
  rename_i i x l
  have h1 := ih fun p hp => hle p (zg _ hp)
  have h2 : yc x <= x.size := hle (i, x) (zq ..)
  obtain ⟨j, w, e, hw, hr, hs, hok⟩ := yJ hx
  unfold okH at hok
  have h3 : nf W i = (yc x).toNat := by unfold nf; rw [hx]
  simp only [List.map_cons, List.sum_cons, h3]
  omega
theorem Search.sum {W : List Int} {l : List (Nat × Hd)} {R : List Int} {S : List Nat} {T : List Int} (so : SoundW W R l) (s : Search W l R S T) : (S.map (nf W)).sum <= W.length := by
 have h1 := sum_sub (f := nf W) (L := l.map Prod.fst) s.nodup fun p hp => by
  obtain ⟨x, hx⟩ := (s.reach p hp).obj so
  exact List.mem_map.2 ⟨_, hx, rfl⟩
 have h2 := objs_sum so.objs so.le
 omega
open Go.Ab
section
variable {e : EE} {h : HH} {c : Nat} {ds : Option Tmp} {ty : Nat} {pos : String} {af : Array Edge} {gd : Option (Nat × Bool)} {K : V -> HH -> Nat -> List Acc -> Prop} {call : Nat -> Tgt -> List V -> M HH V}
theorem op_min {args : Array Operand} {ats : Array Nat} {k : IntKind} {a b z : Int} (ha : evs cx e args.toList = some [.int k a, .int k b]) (hz : (if b < a then b else a) = z) (q : K (.int k z) h c []) :
  WpX (fun n => opM cx (call n) e ⟨ds, .call ⟨.builtin .min, args, ats⟩, ty, pos, af, gd⟩) h c K :=
 zT (fun k' => by
  subst hz
  show callM cx (call k') e ⟨.builtin .min, args, ats⟩ h c = _
  unfold callM
  simp only [ha]
  refine yr (l := []) (l' := []) jG ?_
  simp only [builtinM, minV, minI, if_true]
  rfl) q
end
section
variable {h h' : HH} {c c' a : Nat} {vW vR : V} {W R : List Int} {size : Int}
def TodoOf (h : HH) (c : Nat) (v : V) (T : List Int) : Prop := ListOf 1 ye h c v T \/ (T = [] /\ ∃ b cap, v = .slice b 0 cap)
set_option maxHeartbeats 1000000 in
theorem live_words_ok {l : List (Nat × Hd)} (r : ArAt h c a vW W size) (rr : RowOf 1 ye h c vR R) (hRok : ∀ w ∈ R, okW w) (hRl : R.length <= 100000000) (so : SoundW W R l) :
  Does 76 [.ptr (some (a, 0)), vR] h c (an a vW ++ zS vR) fun v h' c' => ∃ vL, v = .tuple [vL, .bool true] /\ ListOf 1 yG h' c' vL (places (zX W l R)) /\ (∀ n ∈ zS vL, c <= n) /\ ∀ n, n < c -> MapI.get h' n = MapI.get h n := by
 have hmx := r.mx
 have hle := r.le
 have hokW := r.ok
 have hsub1 : ∀ n ∈ an a vW, n ∈ an a vW ++ zS vR \/ c <= n := fun n hn => .inl (zh _ hn)
 have hsub2 : ∀ n ∈ zS vR, n ∈ an a vW ++ zS vR \/ c <= n := fun n hn => .inl (zi _ hn)
 refine yi (enter (fn := Tryz.f76) Tryz.func76 rfl rfl (zf rfl) ?_)
 repeat' (first | apply zw | apply zx | apply zK | refine za rfl rfl (fun _ => rfl) ?_ | refine zU ?_)
 refine zd rfl ?_
 repeat' (first | apply zw | apply zx | apply zz | refine za rfl rfl (fun _ => rfl) ?_)
 refine zL rfl rfl (yg rfl (g7 r) hsub1 (Nat.le_refl _) fun v2 h2 c2 hc2 _ hq => ?_)
 obtain ⟨rfl, rfl, rfl⟩ := hq
 have hz0 : jT cx 4 W.length = some (flat jb (List.replicate W.length false)) := by rw [<- kK]; rfl
 have hrr1 : RowOf 1 ye (MapI.set h c (AObj.cells true true (flat jb (List.replicate W.length false)))) (c + 1) vR R := rr.keep (by omega) fun n hn _ => zu _ _ _ _ (by omega)
 repeat' (first | apply zw | apply zx | apply zK | refine za rfl rfl (fun _ => rfl) ?_ | refine zL rfl rfl (qV rfl rfl rfl hz0 ⟨_, rfl, by decide⟩ ⟨Nat.le_refl _, by omega⟩ ⟨(by simp [zc] <;> omega), ?_⟩))
 refine zL rfl rfl (yj rfl (clone_words hrr1 (by omega)) hsub2 (by omega) fun vT h1 c1 hc1 _ hq => ?_)
 obtain ⟨hT1, hTn, hf1⟩ := hq
 have hI1 : MapI.get h1 c = some (AObj.cells true true (flat jb (jm W.length []))) := by
  rw [hf1 c (by omega), zt, marks_nil]
 have hfc : ∀ n, n < c -> MapI.get h1 n = MapI.get h n := fun n hn => by rw [hf1 n (by omega)]; exact zu _ _ _ _ (by omega)
 generalize hvS : V.slice (some (c, 0)) W.length (.known W.length) = vS
 repeat' (first | refine zJ (a := Code.block 0 _) (fun e' h' c' => ∃ S, (∃ b0, e' = FR b0 [(6, vS)]) /\ Search W l R S [] /\ c + 1 <= c' /\ MapI.get h' c = some (AObj.cells true true (flat jb (jm W.length S))) /\ (∀ n, n < c -> MapI.get h' n = MapI.get h n)) ?_ ?_ | apply zB | apply zK | refine za rfl rfl (fun _ => rfl) ?_)
 ·subst hvS
  refine zI ?_
  refine zQ (X := List Nat × List Int × V) (fun x e' h' c' => (∃ b0, e' = FR b0 [(0, V.ptr (some (a, 0))), (6, .slice (some (c, 0)) W.length (.known W.length)), (7, x.2.2)]) /\ Search W l R x.1 x.2.1 /\ TodoOf h' c' x.2.2 x.2.1 /\ (∀ n ∈ zS x.2.2, c + 1 <= n) /\ (∀ w ∈ x.2.1, okW w) /\ x.2.1.length <= R.length + (x.1.map (nf W)).sum /\ c + 1 <= c' /\ MapI.get h' c = some (AObj.cells true true (flat jb (jm W.length x.1))) /\ (∀ n, n < c -> MapI.get h' n = MapI.get h n))
   (fun x => (W.length - x.1.length) * (W.length + 2) + x.2.1.length) ?_ ([], R, vT) _ _ _ ⟨fr ⟨rfl, rfl, rfl, trivial⟩, Search.start so, hT1, hTn, hRok, by simp, by omega, hI1, hfc⟩
  rintro ⟨S, T, vT⟩ e' h' c' ⟨⟨b0, rfl⟩, hs, hT, hTn, hTok, hTl, hc', hI, hf⟩
  simp only at hs hT hTn hTok hTl hI
  have hS1 := hs.sum so
  have hS2 := hs.small so
  by_cases hemp : T = []
  ·subst hemp
   obtain ⟨b, cap, rfl⟩ : ∃ b cap, vT = .slice b 0 cap := by
    rcases hT with h | ⟨_, h⟩
    ·obtain ⟨s, cap, rfl, _⟩ := h.shape; exact ⟨s, cap, rfl⟩
    ·exact h
   repeat' (first | apply zw | apply zx | apply zK | refine za rfl rfl (fun _ => rfl) ?_ | refine zU ?_)
   refine zd rfl ?_
   repeat' (first | apply zF | refine zU ?_ | refine ji ?_ | refine jr rfl ?_)
   refine ⟨S, fr ?_, hs, hc', hI, hf⟩
   exact ⟨rfl, trivial⟩
  obtain ⟨T, w, rfl⟩ : ∃ T' w, T = T' ++ [w] := ⟨T.dropLast, T.getLast hemp, (List.dropLast_concat_getLast hemp).symm⟩
  have hTL : ListOf 1 ye h' c' vT (T ++ [w]) := by
   rcases hT with h | ⟨h, _⟩
   ·exact h
   ·exact absurd h hemp
  obtain ⟨s0, cap0, rfl, hs0⟩ := hTL.shape
  obtain ⟨rfl, sn, cl, junk, rfl, hsn, hg, hjk⟩ := hs0 0 (by simp)
  have hlen : (T ++ [w]).length = T.length + 1 := by simp
  rw [hlen] at hTl
  have hokw := hTok w (by simp)
  have hsnc : c + 1 <= sn := hTn sn (by simp [zS])
  have egt : decide (((T ++ [w]).length : Int) > 0) = true := decide_eq_true (by omega)
  have wl : IntKind.i64.wrap (((T ++ [w]).length : Int) - 1) = (T.length : Int) := by rw [hlen, Go.IntWalk.i64_in _ (by omega)]; omega
  have hz : nth (flat ye (T ++ [w]) ++ junk) (0 + (IntKind.i64.wrap (((T ++ [w]).length : Int) - 1)).toNat * 1) = some (U w) := by
   rw [wl, show 0 + ((T.length : Nat) : Int).toNat * 1 = T.length from by simp]; exact yB yq (by simp) rfl junk
  repeat' (first | apply zw | apply zx | apply zK | refine za rfl rfl (fun _ => rfl) ?_ | refine zU ?_)
  refine zH rfl (fun _ => ?_) (fun hb => by rw [egt] at hb; cases hb)
  repeat' (first | apply zw | apply zx | apply zz | apply zB | apply zK | refine za rfl rfl (fun _ => rfl) ?_ | refine zL rfl rfl (zZ (k := 1) rfl rfl rfl rfl ⟨by rw [wl]; omega, by rw [wl, hlen]; omega⟩ ⟨(by simp [zc] <;> omega), ?_⟩) | refine zL rfl rfl (zW rfl rfl rfl hg hz ⟨(by simp [zc] <;> omega), ?_⟩) | refine zL rfl rfl (qp (k := 0) (l := 0) (u := T.length) rfl rfl rfl rfl rfl rfl (jq wl) (Nat.zero_le _) (by rw [hlen]; omega) rfl ⟨(by simp [zc] <;> omega), ?_⟩))
  have hTc : ListOf 1 ye h' c' (.slice (some (sn, 0)) T.length (.upTo 1)) T := by
   have := ww (h := h') (c := c') (m := sn) (cl := cl) (junk := junk) (xs := T ++ [w]) (i := T.length) yq jx hsn hg hjk (by rw [hlen]; omega)
   rwa [List.take_left] at this
  have hTok' : ∀ w ∈ T, okW w := fun x hx => hTok x (by simp [hx])
  refine zL rfl rfl (yg rfl (g8 hokw) (fun n hn => by cases hn) (by omega) fun v4 h4 c4 hc4 _ hq => ?_)
  obtain ⟨rfl, rfl, rfl⟩ := hq
  by_cases t5 : yL w = 5
  case neg =>
   have e5 : (yL w != 5) = true := by simpa using t5
   repeat' (first | apply zK | refine za rfl rfl (fun _ => rfl) ?_ | refine zU ?_)
   refine zH rfl (fun _ => ?_) (fun hb => by rw [e5] at hb; cases hb)
   repeat' (first | apply zF | refine zU ?_ | refine ji ?_ | refine jr rfl ?_)
   refine ⟨(S, T, .slice (some (sn, 0)) T.length (.upTo 1)), by simp only [hlen]; omega, fr ⟨rfl, rfl, rfl, trivial⟩, hs.drop fun p h _ => absurd h t5, .inl hTc, hTn, hTok', by simp only; omega, hc', hI, hf⟩
  have e5 : (yL w != 5) = false := by simpa using t5
  repeat' (first | apply zK | refine za rfl rfl (fun _ => rfl) ?_ | refine zU ?_)
  refine zH rfl (fun hb => by rw [e5] at hb; cases hb) (fun _ => ?_)
  obtain ⟨⟨p, x⟩, hxm, hvp⟩ := (hs.todo w (by simp)).1.2.2 t5
  have hvp : yI w = ((p : Nat) : Int) := hvp
  repeat' (first | apply zw | apply zx | apply zz | refine za rfl rfl (fun _ => rfl) ?_)
  refine zL rfl rfl (yg rfl (gZ hokw) (fun n hn => by cases hn) (by omega) fun v4 h4 c4 hc4 _ hq => ?_)
  obtain ⟨rfl, rfl, rfl⟩ := hq
  rw [hvp]
  repeat' (first | apply zw | apply zx | apply zK | refine za rfl rfl (fun _ => rfl) ?_)
  have hr' := r.same (h' := h') (c' := c') (by omega) hf
  refine zL rfl rfl (yg rfl (gI hr') hsub1 (by omega) fun v4 h4 c4 hc4 hf4 hq => ?_)
  have hob : j4 W ((p : Nat) : Int) = some x := (so.objs.mem _ hxm).2
  rw [hob] at hq
  subst hq
  obtain ⟨jj, w', ej, hw', _, hsz, hxok⟩ := yJ hob
  have hfs : yc x <= x.size := so.le _ hxm
  have hf0 := gj hxok
  unfold okH at hxok
  have hpl : p < W.length := by
   have := (zj hw').1
   omega
  repeat' (first | apply zw | apply zx | apply zK | refine za rfl rfl (fun _ => rfl) ?_ | refine zU ?_ | refine zL rfl rfl (yM rfl ⟨(by simp [zc] <;> omega), ?_⟩) | refine zL rfl rfl (ya (k := 4) rfl rfl rfl rfl (zt _ _ _) (zf rfl) rfl ⟨(by simp [zc] <;> omega), ?_⟩))
  refine zd rfl ?_
  have hI4 : ∀ {o q : AObj}, MapI.get (MapI.set (MapI.set h4 c4 o) c4 q) c = some (AObj.cells true true (flat jb (jm W.length S))) := fun {o q} => by
   rw [zu _ _ _ _ (by omega), zu _ _ _ _ (by omega), hf4 c (by omega)]; exact hI
  have hf4' : ∀ {o q : AObj}, ∀ n, n < c -> MapI.get (MapI.set (MapI.set h4 c4 o) c4 q) n = MapI.get h n := fun {o q} n hn => by
   rw [zu _ _ _ _ (by omega), zu _ _ _ _ (by omega), hf4 n (by omega)]; exact hf n hn
  have hT4 : ∀ {o q : AObj}, ListOf 1 ye (MapI.set (MapI.set h4 c4 o) c4 q) (c4 + 1) (.slice (some (sn, 0)) T.length (.upTo 1)) T := fun {o q} => hTc.keep (by omega) fun n hn _ => by
   rw [zu _ _ _ _ (by omega), zu _ _ _ _ (by omega), hf4 n (by omega)]
  have hzS : nth (flat jb (jm W.length S)) (0 + ((p : Nat) : Int).toNat * 1) = some (.bool (S.contains p)) := by
   rw [show 0 + ((p : Nat) : Int).toNat * 1 = p from by simp]
   have := yB (cells := jb) jW (qI S hpl) rfl []
   rwa [List.append_nil] at this
  repeat' (first | apply zw | apply zx | apply zz | apply zK | refine za rfl rfl (fun _ => rfl) ?_ | refine zU ?_ | refine zL rfl rfl (zZ (k := 1) rfl rfl rfl rfl ⟨by omega, by omega⟩ ⟨(by simp [zc] <;> omega), ?_⟩) | refine zL rfl rfl (zW rfl rfl rfl hI4 hzS ⟨(by simp [zc] <;> omega), ?_⟩))
  refine zH rfl (fun hin => ?_) (fun hin => ?_)
  ·have hin : p ∈ S := by simpa using hin
   repeat' (first | apply zF | refine zU ?_ | refine ji ?_ | refine jr rfl ?_)
   refine ⟨(S, T, .slice (some (sn, 0)) T.length (.upTo 1)), by simp only [hlen]; omega, fr ⟨rfl, rfl, rfl, trivial⟩, hs.drop fun q _ hq => ?_, .inl hT4, hTn, hTok', by simp only; omega, by omega, hI4, hf4'⟩
   have : q = p := by omega
   rw [this]; exact hin
  have hin : p ∉ S := by simpa using hin
  have hbS : 0 + ((p : Nat) : Int).toNat * 1 + 1 <= (flat jb (jm W.length S)).length := by
   rw [yv jW, jK]; omega
  have hgx : ∀ {o q z : AObj}, MapI.get (MapI.set (MapI.set (MapI.set h4 c4 o) c4 q) c z) c4 = some q := fun {o q z} => by
   rw [zu _ _ _ _ (by omega)]; exact zt _ _ _
  have hmin : (if x.size < yc x then x.size else yc x) = yc x := if_neg (by omega)
  repeat' (first | apply zw | apply zx | apply zy | apply zz | apply zK | refine za rfl rfl (fun _ => rfl) ?_ | refine zL rfl rfl (zZ (k := 1) rfl rfl rfl rfl ⟨by omega, by omega⟩ ⟨(by simp [zc] <;> omega), ?_⟩) | refine zL rfl rfl (ya (k := 1) rfl rfl rfl rfl hI4 hbS rfl ⟨(by simp [zc] <;> omega), ?_⟩) | refine zO rfl rfl (yC (k := 4) rfl rfl rfl rfl hgx rfl ⟨(by simp [zc] <;> omega), ?_⟩))
  refine zO rfl rfl (jy rfl (wo (x := x)) (fun n hn => by cases hn) (by omega) fun v5 h5 c5 al hal hc5 hf5 hq => ?_)
  subst hq
  have hgx5 : MapI.get h5 c4 = some (.cells true true (hdV x)) := by
   rw [hf5 c4 (by omega)]; exact hgx
  have hal' : ∀ x ∈ al, c4 = x.name -> x.writes = false := fun x hx e => by
   cases hw : x.writes with
   | false => rfl
   | true => have := (hal x hx).2 hw; omega
  repeat' (first | refine zO rfl rfl (op_min rfl hmin ⟨zV, ?_⟩) | refine zb rfl rfl (fun _ => rfl) ?_ | refine zO rfl rfl (zW rfl rfl rfl hgx5 rfl ⟨(by simp [zc] <;> omega), ?_⟩))
  refine zN (ym (cs := [0, 1, 0, 4, 15, 0]) (by decide +kernel) ?_) ?_
  ·simp +contextual [jt, apP, Dis, yF, yE, yw, yA, Nat.testBit, hal']
  have hT5 : ListOf (0 + 1) ye h5 c5 (.slice (some (sn, 0)) T.length (.upTo 1)) (T ++ (W.drop (p + 1)).take 0) := by
   rw [List.take_zero, List.append_nil]
   exact hTc.keep (by omega) fun n hn hm => by
    have hm : n ∈ [sn] := hm
    have : n = sn := by simpa using hm
    subst this
    rw [hf5 n (by omega), zu _ _ _ _ (by omega), zu _ _ _ _ (by omega), zu _ _ _ _ (by omega), hf4 n (by omega)]
  have hI5 : MapI.get h5 c = some (AObj.cells true true (flat jb (jm W.length (p :: S)))) := by
   rw [hf5 c (by omega), zt]
   have h1 := qt (cells := jb) (k := 1) jW (junk := []) (z := true) (xs := jm W.length S) (i := p) (by rw [jK]; exact hpl)
   rw [List.append_nil, List.append_nil, marks_set _ hpl] at h1
   refine congrArg (fun z => some (AObj.cells true true z)) ?_
   rw [show 0 + ((p : Nat) : Int).toNat * 1 = p * 1 from by simp]
   exact h1
  have hf5' : ∀ n, n < c -> MapI.get h5 n = MapI.get h n := fun n hn => by
   rw [hf5 n (by omega), zu _ _ _ _ (by omega)]; exact hf4' n hn
  have hnfp : nf W p = (yc x).toNat := by unfold nf; rw [hob]
  have hmk := hs.mark (fs := (W.drop (p + 1)).take (yc x).toNat) so t5 hvp hxm hin fun w' => by
   rw [List.mem_iff_getElem?]
   constructor
   ·rintro ⟨k, hk⟩
    rw [List.getElem?_take] at hk
    split at hk
    ·rw [List.getElem?_drop] at hk; exact ⟨k, by omega, hk⟩
    ·cases hk
   ·rintro ⟨k, hk, hw⟩
    exact ⟨k, by rw [List.getElem?_take, if_pos (by omega), List.getElem?_drop]; exact hw⟩
  have hS3 := hmk.small so
  have hS4 := hmk.sum so
  simp only [List.length_cons] at hS3
  simp only [List.map_cons, List.sum_cons, hnfp] at hS4
  repeat' (first | apply zB)
  refine zI ?_
  refine zQ (X := Nat × V) (fun y e' h'' c'' => (∃ b0, e' = FR b0 [(0, V.ptr (some (a, 0))), (6, .slice (some (c, 0)) W.length (.known W.length)), (7, y.2), (9, I p), (63, I (yc x)), (64, I y.1)]) /\ (y.1 : Int) <= yc x /\ ListOf (0 + 1) ye h'' c'' y.2 (T ++ (W.drop (p + 1)).take y.1) /\ (∀ n ∈ zS y.2, c + 1 <= n) /\ c5 <= c'' /\ MapI.get h'' c = some (AObj.cells true true (flat jb (jm W.length (p :: S)))) /\ ∀ n, n < c -> MapI.get h'' n = MapI.get h n)
   (fun y => (yc x).toNat - y.1) ?_ (0, _) _ _ _ ⟨fr ⟨rfl, rfl, rfl, rfl, rfl, rfl, trivial⟩, by simp only; omega, hT5, hTn, Nat.le_refl _, hI5, hf5'⟩
  rintro ⟨k, v⟩ e' h'' c'' ⟨⟨b0, rfl⟩, hk, hTk, hvn, hck, hIk, hfk⟩
  simp only at hk hTk hvn
  repeat' (first | apply zw | apply zx | apply zK | refine za rfl rfl (fun _ => rfl) ?_)
  refine zH rfl (fun hlt => ?_) (fun hge => ?_)
  case refine_2 =>
   have hge : yc x <= k := by simpa using hge
   have hke : k = (yc x).toNat := by omega
   repeat' (first | apply zF | refine zU ?_ | refine ji ?_ | refine js ?_ | refine jr rfl ?_)
   refine ⟨(p :: S, T ++ (W.drop (p + 1)).take (yc x).toNat, v), ?_, fr ⟨rfl, rfl, rfl, trivial⟩, hmk, .inl (by rw [<- hke]; exact hTk), hvn, fun w hw => ?_, ?_, by omega, hIk, hfk⟩
   ·have hl2 : ((W.drop (p + 1)).take (yc x).toNat).length <= W.length := by
     rw [List.length_take, List.length_drop]; omega
    simp only [zr, List.length_cons, List.length_nil]
    obtain ⟨u, hu⟩ : ∃ u, W.length - S.length = u + 1 := ⟨W.length - S.length - 1, by omega⟩
    rw [hu, show W.length - (S.length + 1) = u from by omega, Nat.succ_mul]
    omega
   ·rcases zk hw with h | h
    ·exact hTok' w h
    ·exact hokW w (List.mem_of_mem_drop (List.mem_of_mem_take h))
   ·simp only [zr, List.map_cons, List.sum_cons, hnfp]
    rw [List.length_take, List.length_drop]
    omega
  have hlt : (k : Int) < yc x := by simpa using hlt
  obtain ⟨w2, hw2⟩ := obj_get so hxm hlt
  have wa : IntKind.i64.wrap ((p : Int) + 1) = p + 1 := Go.IntWalk.i64_in _ (by omega)
  have wb : IntKind.i64.wrap (IntKind.i64.wrap ((p : Int) + 1) + (k : Int)) = ((p + 1 + k : Nat) : Int) := by rw [wa, Go.IntWalk.i64_in _ (by omega)]; omega
  have wk : IntKind.i64.wrap ((k : Int) + 1) = ((k + 1 : Nat) : Int) := by rw [Go.IntWalk.i64_in _ (by omega)]; omega
  repeat' (first | apply zw | apply zx | apply zz | apply zB | apply zK | refine za rfl rfl (fun _ => rfl) ?_)
  refine zL rfl rfl (yg rfl (ku (r.same (h' := h'') (c' := c'') (by omega) hfk) wb hw2) hsub1 (by omega) fun v7 h7 c7 hc7 _ hq => ?_)
  obtain ⟨rfl, rfl, rfl⟩ := hq
  repeat' (first | apply zx | apply zK | refine za rfl rfl (fun _ => rfl) ?_ | refine zL rfl rfl (yy (k := 1) rfl rfl rfl rfl (by decide) rfl ⟨(by simp [zc] <;> omega), ?_⟩))
  have hvlt := hTk.lt
  have hTk2 : ∀ {o : AObj}, ListOf (0 + 1) ye (MapI.set h'' c'' o) (c'' + 1) v (T ++ (W.drop (p + 1)).take k) := fun {o} => hTk.keep (by omega) fun n hn _ => zu _ _ _ _ (by omega)
  refine zL rfl rfl (qC (y := w2) rfl rfl ⟨rfl, rfl, rfl, ⟨_, rfl, by decide⟩⟩ rfl yq jx hTk2 (zt _ _ _) (by rw [zr, List.length_take]; omega) (by omega) (fun n h => .inr (by have := hvn n h; omega)) (by omega) fun v5' h5' c5' r5 hn5 hc5' hf5n => ?_)
  repeat' (first | apply zx | apply zK | refine za rfl rfl (fun _ => rfl) ?_ | refine zU ?_)
  refine ⟨(k + 1, v5'), by simp only; omega, ?_, by simp only; omega, ?_, fun n h => ?_, by omega, ?_, fun n h => ?_⟩
  ·rw [wk]
   exact fr ⟨rfl, rfl, rfl, rfl, rfl, rfl, trivial⟩
  ·have : (W.drop (p + 1)).take (k + 1) = (W.drop (p + 1)).take k ++ [w2] := by
    rw [List.take_add_one, List.getElem?_drop, hw2]; rfl
   simp only [this, <- List.append_assoc]
   exact r5
  ·rcases hn5 n h with h | h
   ·exact hvn n h
   ·omega
  ·rw [hf5n c (by omega) (fun hm => by have := hvn c hm; omega), zu _ _ _ _ (by omega)]; exact hIk
  ·rw [hf5n n (by omega) (fun hm => by have := hvn n hm; omega), zu _ _ _ _ (by omega)]; exact hfk n h
 rintro e h2 c2 ⟨S, ⟨b0, rfl⟩, hs, hc2, hI2, hf2⟩
 subst hvS
 have hpl := hs.places so
 repeat' (first | apply zw | apply zx | apply zB | apply zK | refine za rfl rfl (fun _ => rfl) ?_)
 refine zI ?_
 refine zQ (X := Nat × V) (fun y e' h' c' => (∃ b0, e' = FR b0 [(15, y.2), (81, .slice (some (c, 0)) W.length (.known W.length)), (82, I W.length), (83, I y.1)]) /\ y.1 <= W.length /\ ListOf (0 + 1) yG h' c' y.2 (((List.range y.1).filter fun i => S.contains i).map fun i : Nat => (i : Int)) /\ (∀ n ∈ zS y.2, c2 <= n) /\ c2 <= c' /\ ∀ n, n < c2 -> MapI.get h' n = MapI.get h2 n)
  (fun y => W.length - y.1) ?_ (0, .slice none 0 (.known 0)) _ _ _ ⟨fr ⟨rfl, rfl, rfl, rfl, trivial⟩, Nat.zero_le _, .nil, fun n hn => (by cases hn), Nat.le_refl _, fun _ _ => rfl⟩
 rintro ⟨k, v⟩ e' h' c' ⟨⟨b0, rfl⟩, hk, hl, hvn, hc', hf⟩
 simp only at hk hl hvn
 repeat' (first | apply zw | apply zx | apply zK | refine za rfl rfl (fun _ => rfl) ?_)
 refine zH rfl (fun hlt => ?_) (fun hge => ?_)
 case refine_2 =>
  have hge : W.length <= k := by simpa using hge
  have hke : k = W.length := by omega
  subst hke
  rw [hpl, List.map_map] at hl
  repeat' (first | apply zw | apply zx | apply zF | apply zG | apply zK | refine za rfl rfl (fun _ => rfl) ?_)
  exact z6 rfl ⟨v, rfl, hl, fun n hn => (by have := hvn n hn; omega), fun n hn => by rw [hf n (by omega)]; exact hf2 n hn⟩
 have hlt : k < W.length := by simpa using hlt
 have hI' : MapI.get h' c = some (AObj.cells true true (flat jb (jm W.length S))) := by rw [hf c (by omega)]; exact hI2
 have hzS : nth (flat jb (jm W.length S)) (0 + ((k : Nat) : Int).toNat * 1) = some (.bool (S.contains k)) := by
  rw [show 0 + ((k : Nat) : Int).toNat * 1 = k from by simp]
  have := yB (cells := jb) jW (qI S hlt) rfl []
  rwa [List.append_nil] at this
 have wk : IntKind.i64.wrap ((k : Int) + 1) = ((k + 1 : Nat) : Int) := by rw [Go.IntWalk.i64_in _ (by omega)]; omega
 have hrs : (List.range (k + 1)).filter (fun i => S.contains i) = (List.range k).filter (fun i => S.contains i) ++ (if S.contains k then [k] else []) := by
  rw [List.range_succ, List.filter_append]
  congr 1
  rw [List.filter_cons, List.filter_nil]
 have hll : ((List.range k).filter fun i => S.contains i).length <= k := by
  have := List.length_filter_le (fun i => S.contains i) (List.range k)
  simpa using this
 repeat' (first | apply zw | apply zx | apply zz | apply zB | apply zK | refine za rfl rfl (fun _ => rfl) ?_ | refine zU ?_ | refine zL rfl rfl (zZ (k := 1) rfl rfl rfl rfl ⟨by omega, by omega⟩ ⟨(by simp [zc] <;> omega), ?_⟩) | refine zL rfl rfl (zW rfl rfl rfl hI' hzS ⟨(by simp [zc] <;> omega), ?_⟩))
 refine zH rfl (fun hin => ?_) (fun hin => ?_)
 ·
  repeat' (first | apply zx | refine za rfl rfl (fun _ => rfl) ?_ | refine zL rfl rfl (yy (k := 1) rfl rfl rfl rfl (by decide) rfl ⟨(by simp [zc] <;> omega), ?_⟩))
  have hvlt := hl.lt
  have hl2 : ∀ {o : AObj}, ListOf (0 + 1) yG (MapI.set h' c' o) (c' + 1) v (((List.range k).filter fun i => S.contains i).map fun i : Nat => (i : Int)) := fun {o} => hl.keep (by omega) fun n hn _ => zu _ _ _ _ (by omega)
  refine zL rfl rfl (qC (y := (k : Int)) rfl rfl ⟨rfl, rfl, rfl, ⟨_, rfl, by decide⟩⟩ rfl je qP hl2 (zt _ _ _) (by rw [List.length_map]; omega) (by omega) (fun n h => .inr (by have := hvn n h; omega)) (by omega) fun v5' h5' c5' r5 hn5 hc5' hf5n => ?_)
  repeat' (first | apply zx | apply zK | refine za rfl rfl (fun _ => rfl) ?_ | refine zU ?_)
  refine ⟨(k + 1, v5'), by simp only; omega, ?_, by simp only; omega, ?_, fun n h => ?_, by omega, fun n h => ?_⟩
  ·rw [wk]
   exact fr ⟨rfl, rfl, rfl, rfl, trivial⟩
  ·simp only [hrs, hin, if_true, List.map_append, List.map_cons, List.map_nil]
   exact r5
  ·rcases hn5 n h with h | h
   ·exact hvn n h
   ·omega
  ·rw [hf5n n (by omega) (fun hm => by have := hvn n hm; omega), zu _ _ _ _ (by omega)]; exact hf n h
 ·
  repeat' (first | apply zx | apply zz | apply zK | refine za rfl rfl (fun _ => rfl) ?_ | refine zU ?_)
  refine ⟨(k + 1, v), by simp only; omega, ?_, by simp only; omega, ?_, hvn, hc', hf⟩
  ·rw [wk]
   exact fr ⟨rfl, rfl, rfl, rfl, trivial⟩
  ·simp only [hrs, hin, Bool.false_eq_true, if_false, List.append_nil]
   exact hl
end
open Go.Ab
structure Mem (h : HH) (c a : Nat) (vW vR : V) (W R : List Int) (size : Int) : Prop where
 ar : ArAt h c a vW W size
 rr : RowOf 1 ye h c vR R
 sep : ∀ n ∈ zS vR, n ≠ a /\ n ∉ zS vW
 ok : ∀ w ∈ R, okW w
 len : R.length <= 100000000
abbrev mn (a : Nat) (vW vR : V) : List Nat := an a vW ++ zS vR
section
variable {h h' : HH} {c c' a : Nat} {vW vR : V} {W R : List Int} {size : Int}
theorem Mem.keep (r : Mem h c a vW vR W R size) (hc : c <= c') (e : ∀ n, n < c -> n ∈ mn a vW vR -> MapI.get h' n = MapI.get h n) : Mem h' c' a vW vR W R size :=
 ⟨r.ar.keep hc fun n hn hm => e n hn (zh _ hm), r.rr.keep hc fun n hn hm => e n hn (zi _ hm), r.sep, r.ok, r.len⟩
theorem Mem.same (r : Mem h c a vW vR W R size) (hc : c <= c') (e : ∀ n, n < c -> MapI.get h' n = MapI.get h n) : Mem h' c' a vW vR W R size := r.keep hc fun n hn _ => e n hn
theorem Mem.names (r : Mem h c a vW vR W R size) : ∀ n ∈ mn a vW vR, n < c := fun n hn => by
 rcases zk hn with h | h
 ·exact r.ar.names n h
 ·exact r.rr.lt n h
theorem Mem.lenW (r : Mem h c a vW vR W R size) : W.length <= 1048576 := by
 have := r.ar.le; have := r.ar.mx; omega
def fget (W R : List Int) (b : Bool) (i : Nat) : Option Int := if b then R[i]? else W[i]?
def fsetW (W : List Int) (b : Bool) (i : Nat) (w : Int) : List Int := if b then W else W.set i w
def fsetR (R : List Int) (b : Bool) (i : Nat) (w : Int) : List Int := if b then R.set i w else R
abbrev fldV (b : Bool) (i : Nat) : V := .agg [.bool b, I i]
def linkN (b : Bool) (i : Nat) : Int := 2 * (i : Int) + (if b then 1 else 0)
def gY (b : Bool) (i : Nat) : Int := ofW 7 (linkN b i)
theorem fget_ok {b : Bool} {i : Nat} {w : Int} (r : Mem h c a vW vR W R size) (hw : fget W R b i = some w) : DoesR 92 [fldV b i, .ptr (some (a, 0)), vR] h c (mn a vW vR) fun v h' c' => v = .tuple [U w, .bool true] := by
 have hsub : ∀ n ∈ an a vW, n ∈ mn a vW vR \/ c <= n := fun n hn => .inl (zh _ hn)
 have hlw := r.lenW
 have hlr := r.len
 have hg : ∀ {o : AObj}, MapI.get (MapI.set h c o) c = some o := zt _ _ _
 refine yN (enter (fn := Tryz.f92) Tryz.func92 rfl rfl (zf rfl) ?_)
 cases b with
 | false =>
  have hw : W[i]? = some w := hw
  repeat' (first | apply zw | apply zx | apply zK | refine za rfl rfl (fun _ => rfl) ?_ | refine zU ?_ | refine zL rfl rfl (yK rfl ⟨(by simp [InR, Acc.name, Acc.writes, zS] <;> omega), ?_⟩) | refine zL rfl rfl (zW rfl rfl rfl hg rfl ⟨(by simp [InR, Acc.name, Acc.writes, zS] <;> omega), ?_⟩))
  refine ze rfl ?_
  repeat' (first | apply zw | apply zx | refine za rfl rfl (fun _ => rfl) ?_ | refine zL rfl rfl (zW rfl rfl rfl hg rfl ⟨(by simp [InR, Acc.name, Acc.writes, zS] <;> omega), ?_⟩))
  refine zL rfl rfl (yZ rfl (ku ((r.ar).same (h' := MapI.set h c _) (c' := c + 1) (by omega) fun n hn => zu _ _ _ _ (by omega)) rfl hw) hsub (by omega) fun v h4 c4 hc4 hfr4 hq => ?_)
  obtain ⟨rfl, _, _⟩ := hq
  repeat' (first | apply zG | apply zK | refine za rfl rfl (fun _ => rfl) ?_ | refine yn ?_)
  exact z6 rfl rfl
 | true =>
  have hw : R[i]? = some w := hw
  have hi := (zj hw).1
  obtain ⟨s, cap, rfl, hs⟩ := r.rr.shape
  obtain ⟨m, cl, junk, rfl, hm, hgr⟩ := hs i hi
  have hgr' : ∀ {o : AObj}, MapI.get (MapI.set h c o) m = some (.cells true cl (flat ye R ++ junk)) := yP (by omega) hgr
  have hz : nth (flat ye R ++ junk) (0 + ((i : Nat) : Int).toNat * 1) = some (U w) := by
   rw [show 0 + ((i : Nat) : Int).toNat * 1 = i from by simp]; exact yB yq hw rfl junk
  have e1 : decide (((i : Nat) : Int) < 0) = false := by simp
  have e2 : decide (((i : Nat) : Int) >= (R.length : Int)) = false := by simp; omega
  repeat' (first | apply zw | apply zx | apply zK | refine za rfl rfl (fun _ => rfl) ?_ | refine zU ?_ | refine zL rfl rfl (yK rfl ⟨(by simp [InR, Acc.name, Acc.writes, zS] <;> omega), ?_⟩) | refine zL rfl rfl (zW rfl rfl rfl hg rfl ⟨(by simp [InR, Acc.name, Acc.writes, zS] <;> omega), ?_⟩))
  refine zd rfl ?_
  repeat' (first | apply zw | apply zx | apply zz | apply zK | refine za rfl rfl (fun _ => rfl) ?_ | refine zU ?_ | refine zL rfl rfl (zW rfl rfl rfl hg rfl ⟨(by simp [InR, Acc.name, Acc.writes, zS] <;> omega), ?_⟩))
  simp only [e1]
  skip
  simp only [e2]
  skip
  refine zd rfl ?_
  repeat' (first | apply zw | apply zx | apply zz | apply zG | apply zK | refine za rfl rfl (fun _ => rfl) ?_ | refine zL rfl rfl (zW rfl rfl rfl hg rfl ⟨(by simp [InR, Acc.name, Acc.writes, zS] <;> omega), ?_⟩) | refine zL rfl rfl (zZ (k := 1) rfl rfl rfl rfl ⟨by omega, by omega⟩ ⟨(by simp [InR, Acc.name, Acc.writes, zS] <;> omega), ?_⟩) | refine zL rfl rfl (zW rfl rfl rfl hgr' hz ⟨(by simp [InR, Acc.name, Acc.writes, zS] <;> omega), ?_⟩))
  exact z6 rfl rfl
theorem kY {b : Bool} {i : Nat} {w : Int} (hw : fget W R b i = some w) : (b = false -> i < W.length) /\ (b = true -> i < R.length) := by
 cases b with
 | false => exact ⟨fun _ => (zj (show W[i]? = some w from hw)).1, fun h => by cases h⟩
 | true => exact ⟨fun h => (by cases h), fun _ => (zj (show R[i]? = some w from hw)).1⟩
theorem fset_ok {b : Bool} {i : Nat} {w x : Int} (r : Mem h c a vW vR W R size) (hw : fget W R b i = some w) (hx : okW x) : Does 93 [fldV b i, .ptr (some (a, 0)), vR, U x] h c (mn a vW vR) fun v h' c' => Mem h' c' a vW vR (fsetW W b i x) (fsetR R b i x) size := by
 have hsub : ∀ n ∈ an a vW, n ∈ mn a vW vR \/ c <= n := fun n hn => .inl (zh _ hn)
 have hlw := r.lenW
 have hlr := r.len
 have hlt := kY hw
 have hg : ∀ {o : AObj}, MapI.get (MapI.set h c o) c = some o := zt _ _ _
 have hfr : ∀ {o : AObj}, ∀ n, n < c -> MapI.get (MapI.set h c o) n = MapI.get h n := fun n hn => zu _ _ _ _ (by omega)
 refine yi (enter (fn := Tryz.f93) Tryz.func93 rfl rfl (zf rfl) ?_)
 cases b with
 | false =>
  have r2 := fun o => r.same (h' := MapI.set h c o) (c' := c + 1) (by omega) hfr
  repeat' (first | apply zw | apply zx | apply zK | refine za rfl rfl (fun _ => rfl) ?_ | refine zU ?_ | refine zL rfl rfl (yK rfl ⟨(by simp [zc] <;> omega), ?_⟩) | refine zL rfl rfl (zW rfl rfl rfl hg rfl ⟨(by simp [zc] <;> omega), ?_⟩))
  refine zd rfl ?_
  repeat' (first | apply zx | refine za rfl rfl (fun _ => rfl) ?_ | refine zL rfl rfl (zW rfl rfl rfl hg rfl ⟨(by simp [zc] <;> omega), ?_⟩))
  refine zL rfl rfl (yj rfl (set_ok (r2 _).ar rfl (hlt.1 rfl) hx) hsub (by omega) fun v h4 c4 hc4 hfr4 hq => ?_)
  obtain ⟨rfl, rfl, hA, _⟩ := hq
  repeat' (first | apply zK)
  refine gg rfl ⟨hA, (r2 _).rr.keep (Nat.le_refl _) fun n hn hm => hfr4 n hn ?_, r.sep, r.ok, r.len⟩
  intro hh
  rcases zl hh with h | h
  ·exact (r.sep n hm).1 h
  ·exact (r.sep n hm).2 h
 | true =>
  have hsep := r.sep
  have har := r.ar
  have hok := r.ok
  obtain ⟨s, cap, rfl, hs⟩ := r.rr.shape1
  obtain ⟨m, cl, junk, rfl, hm, hgr, hjk⟩ := hs i (hlt.2 rfl)
  have hgr' : ∀ {o : AObj}, MapI.get (MapI.set h c o) m = some (.cells true cl (flat ye R ++ junk)) := yP (by omega) hgr
  have hb : 0 + ((i : Nat) : Int).toNat * 1 + 1 <= (flat ye R ++ junk).length := by
   rw [zr, yv yq]; have := hlt.2 rfl; omega
  have hil := hlt.2 rfl
  have hms := hsep m (by simp [zS])
  repeat' (first | apply zw | apply zx | apply zK | refine za rfl rfl (fun _ => rfl) ?_ | refine zU ?_ | refine zL rfl rfl (yK rfl ⟨(by simp [zc] <;> omega), ?_⟩) | refine zL rfl rfl (zW rfl rfl rfl hg rfl ⟨(by simp [zc] <;> omega), ?_⟩))
  refine ze rfl ?_
  repeat' (first | apply zx | apply zK | refine za rfl rfl (fun _ => rfl) ?_ | refine zL rfl rfl (zW rfl rfl rfl hg rfl ⟨(by simp [zc] <;> omega), ?_⟩) | refine zL rfl rfl (zZ (k := 1) rfl rfl rfl rfl ⟨by omega, by omega⟩ ⟨(by simp [zc] <;> omega), ?_⟩) | refine zL rfl rfl (ya (k := 1) rfl rfl rfl rfl hgr' hb rfl ⟨(by simp [zc] <;> omega), ?_⟩))
  refine gg rfl ⟨har.keep (by omega) fun n hn hmn => ?_, ?_, hsep, fun y hy => ?_, by simpa [fsetR] using hlr⟩
  ·rw [zu _ _ _ _ (fun e => ?_), zu _ _ _ _ (by omega)]
   subst e
   rcases zl hmn with h | h
   ·exact hms.1 h
   ·exact hms.2 h
  ·have := RowOf.set (n := 0) (k := 1) (cells := ye) yq (h := MapI.set h c (.cells true true [.bool true, I i])) (c := c + 1) (cap := cap) (cl := cl) (junk := junk) (xs := R) (i := i) (z := x) (m := m) (by omega) hjk hil
   rw [show 0 + ((i : Nat) : Int).toNat * 1 = i * 1 from by simp]
   exact this
  ·rcases List.mem_or_eq_of_mem_set (show y ∈ R.set i x from hy) with h | rfl
   ·exact hok y h
   ·exact hx
theorem linkN_fits {b : Bool} {i : Nat} (hi : i <= 100000000) : jD (linkN b i) /\ 0 <= linkN b i := by
 unfold jD linkN
 cases b <;> simp <;> omega
theorem link_ok {b : Bool} {i : Nat} (hi : i <= 100000000) : DoesR 94 [fldV b i] h c [] fun v h' c' => v = U (gY b i) := by
 have hg : ∀ {o : AObj}, MapI.get (MapI.set h c o) c = some o := zt _ _ _
 have hf := linkN_fits (b := b) hi
 have w1 : IntKind.i64.wrap (((i : Nat) : Int) * 2 ^ (min (1 : Int).toNat IntKind.i64.bits)) = 2 * (i : Int) := by
  rw [show (2 : Int) ^ (min (1 : Int).toNat IntKind.i64.bits) = 2 from rfl, Go.IntWalk.i64_in _ (by omega)]; omega
 have q1 : IntKind.i64.wrap ((BitVec.ofInt IntKind.i64.bits (2 * (i : Int)) ||| BitVec.ofInt IntKind.i64.bits 1).toNat : Int) = 2 * (i : Int) + 1 := by
  have := or_nat (b := IntKind.i64.bits) (k := 1) (x := 2 * (i : Int)) (a := i) (t := 1) (by omega) (by omega) (by decide) (by decide) (by show 2 * (i : Int) < 2 ^ 64; omega) (by decide)
  rw [this, Go.IntWalk.i64_in _ (by omega)]
 refine yN (enter (fn := Tryz.f94) Tryz.func94 rfl rfl (zf rfl) ?_)
 cases b with
 | false =>
  repeat' (first | refine zL rfl rfl (op_shl rfl rfl (by decide) w1 ⟨zV, ?_⟩) | apply zw | apply zx | apply zK | refine za rfl rfl (fun _ => rfl) ?_ | refine zU ?_ | refine zL rfl rfl (yK rfl ⟨(by simp [InR, Acc.name, Acc.writes, zS] <;> omega), ?_⟩) | refine zL rfl rfl (zW rfl rfl rfl hg rfl ⟨(by simp [InR, Acc.name, Acc.writes, zS] <;> omega), ?_⟩))
  refine zd rfl ?_
  repeat' (first | apply zw | apply zx | apply zz | refine za rfl rfl (fun _ => rfl) ?_)
  refine zL rfl rfl (yZ rfl (of_word_okR (by decide) (show jD (2 * (i : Int)) from by have := hf.1; simpa [linkN] using this)) (fun x hx => by cases hx) (by omega) fun v h4 c4 hc4 hfr4 hq => ?_)
  obtain ⟨rfl, _, _⟩ := hq
  repeat' (first | apply zG | apply zK | refine za rfl rfl (fun _ => rfl) ?_)
  refine z6 rfl ?_
  show U (ofW 7 (2 * (i : Int))) = U (ofW 7 (2 * (i : Int) + 0))
  rw [Int.add_zero]
 | true =>
  repeat' (first | refine zL rfl rfl (op_shl rfl rfl (by decide) w1 ⟨zV, ?_⟩) | apply zw | apply zx | apply zK | refine za rfl rfl (fun _ => rfl) ?_ | refine zU ?_ | refine zL rfl rfl (yK rfl ⟨(by simp [InR, Acc.name, Acc.writes, zS] <;> omega), ?_⟩) | refine zL rfl rfl (zW rfl rfl rfl hg rfl ⟨(by simp [InR, Acc.name, Acc.writes, zS] <;> omega), ?_⟩))
  refine ze rfl ?_
  repeat' (first | refine zL rfl rfl (op_or rfl rfl q1 ⟨zV, ?_⟩) | apply zw | apply zx | apply zK | refine za rfl rfl (fun _ => rfl) ?_)
  refine zL rfl rfl (yZ rfl (of_word_okR (by decide) (show jD (2 * (i : Int) + 1) from by have := hf.1; simpa [linkN] using this)) (fun x hx => by cases hx) (by omega) fun v h4 c4 hc4 hfr4 hq => ?_)
  obtain ⟨rfl, _, _⟩ := hq
  repeat' (first | apply zG | apply zK | refine za rfl rfl (fun _ => rfl) ?_)
  exact z6 rfl rfl
theorem link_tag (b : Bool) (i : Nat) : yL (gY b i) = 7 := tag_of (by decide)
theorem link_val {b : Bool} {i : Nat} (hi : i <= 100000000) : yI (gY b i) = linkN b i := val_of (by decide) (linkN_fits hi).1
theorem link_okW (b : Bool) (i : Nat) : okW (gY b i) := kS (by decide)
theorem linked_ok {b : Bool} {i : Nat} (hi : i <= 100000000) : DoesR 109 [U (gY b i)] h c [] fun v h' c' => v = fldV b i := by
 have hf := linkN_fits (b := b) hi
 have hv := link_val (b := b) hi
 have hn : linkN b i = 2 * (i : Int) + (if b then 1 else 0) := rfl
 have hb : (if b then (1 : Int) else 0) = 0 \/ (if b then (1 : Int) else 0) = 1 := by cases b <;> simp
 have a1 : IntKind.i64.wrap ((BitVec.ofInt IntKind.i64.bits (linkN b i) &&& BitVec.ofInt IntKind.i64.bits 1).toNat : Int) = (if b then 1 else 0) := by
  rw [qR (b := IntKind.i64.bits) (k := 1) (by omega) (by show linkN b i < 2 ^ 64; omega) (by decide) (by decide), Go.IntWalk.i64_in _ (by omega)]
  show linkN b i % 2 = _
  omega
 have s1 : Int.fdiv (linkN b i) (2 ^ (min (1 : Int).toNat IntKind.i64.bits)) = (i : Int) := by
  rw [show (2 : Int) ^ (min (1 : Int).toNat IntKind.i64.bits) = 2 from rfl, Int.fdiv_eq_ediv_of_nonneg _ (by decide)]; omega
 refine yN (enterH (fn := Tryz.f109) Tryz.func109 rfl rfl (zf rfl) ?_)
 repeat' (first | apply zw | apply zx | apply zK | refine za rfl rfl (fun _ => rfl) ?_ | refine zL rfl rfl (yM rfl ⟨(by simp [InR, Acc.name, Acc.writes, zS] <;> omega), ?_⟩))
 refine zL rfl rfl (yZ rfl (gZ (link_okW b i)) (fun n hn => by cases hn) (by omega) fun v h4 c4 hc4 hfr4 hq => ?_)
 obtain ⟨rfl, rfl, rfl⟩ := hq
 rw [hv]
 repeat' (first | refine zL rfl rfl (op_shr rfl rfl (by decide) s1 ⟨zV, ?_⟩) | refine zL rfl rfl (op_and rfl rfl a1 ⟨zV, ?_⟩) | apply zw | apply zx | apply zG | apply zK | refine za rfl rfl (fun _ => rfl) ?_ | refine zL rfl rfl (ya (k := 2) rfl rfl rfl rfl (zt _ _ _) (zf rfl) rfl ⟨(by simp [InR, Acc.name, Acc.writes, zS] <;> omega), ?_⟩))
 refine jo (.cellA (k := 2) rfl rfl rfl rfl (zt _ _ _) rfl .nil) ?_ ?_
 ·intro x hx; simp at hx; subst hx; exact ⟨.inr (Nat.le_refl _), fun h => by cases h⟩
 ·show V.agg [.bool ((if b then (1 : Int) else 0) == 1), I i] = _
  cases b <;> rfl
end
open Go.Ab
section
variable {h h' : HH} {c c' a : Nat} {vW vR : V} {W R : List Int} {size : Int}
set_option maxHeartbeats 1000000 in
theorem thread_ok {b : Bool} {i p : Nat} {w x : Int} (r : Mem h c a vW vR W R size) (hw : fget W R b i = some w) (h5 : yL w = 5) (hv : yI w = (p : Nat)) (hx : W[p]? = some x) (hne : ¬ (b = false /\ i = p)) :
  Does 78 [.ptr (some (a, 0)), vR, fldV b i] h c (mn a vW vR) fun v h' c' => v = .bool true /\ Mem h' c' a vW vR ((fsetW W b i x).set p (gY b i)) (fsetR R b i x) size := by
 have hsub : ∀ n ∈ an a vW, n ∈ mn a vW vR \/ c <= n := fun n hn => .inl (zh _ hn)
 have hlw := r.lenW
 have hlr := r.len
 have hlt := kY hw
 have hpl := (zj hx).1
 have hxok : okW x := r.ar.ok x (zo hx)
 have hwok : okW w := by
  cases b with
  | false => exact r.ar.ok w (zo (show W[i]? = some w from hw))
  | true => exact r.ok w (zo (show R[i]? = some w from hw))
 have hi8 : i <= 100000000 := by
  cases b with
  | false => have := hlt.1 rfl; omega
  | true => have := hlt.2 rfl; omega
 have hcn : c ∉ mn a vW vR := fun hm => by have := r.names c hm; omega
 have e5 : (yL w != 5) = false := by simpa using h5
 have e1 : decide (((p : Nat) : Int) < 0) = false := by simp
 have e2 : decide (((p : Nat) : Int) >= (W.length : Int)) = false := by simp; omega
 have hg : ∀ {o : AObj}, MapI.get (MapI.set h c o) c = some o := zt _ _ _
 have r1 := fun o => r.same (h' := MapI.set h c o) (c' := c + 1) (by omega) fun n hn => zu _ _ _ _ (by omega)
 refine yi (enter (fn := Tryz.f78) Tryz.func78 rfl rfl (zf rfl) ?_)
 have e3 : b = false -> (((i : Nat) : Int) == ((p : Nat) : Int)) = false := fun hb => beq_eq_false_iff_ne.2 fun h => hne ⟨hb, by omega⟩
 cases b with
 | false =>
  repeat' (first | apply zw | apply zx | apply zK | refine za rfl rfl (fun _ => rfl) ?_ | refine zL rfl rfl (yK rfl ⟨(by simp [zc] <;> omega), ?_⟩) | refine zL rfl rfl (yC (k := 2) rfl rfl rfl rfl hg rfl ⟨(by simp [zc] <;> omega), ?_⟩))
  refine zL rfl rfl (yg rfl (fget_ok (r1 _) hw) (fun n hn => .inl hn) (by omega) fun v h4 c4 hc4 hf4 hq => ?_)
  subst hq
  have r4 := (r1 _).same hc4 hf4
  have hg4 : MapI.get h4 c = some (.cells true true [.bool false, I i]) := by rw [hf4 c (by omega)]; exact zt _ _ _
  repeat' (first | apply zw | apply zx | apply zK | refine za rfl rfl (fun _ => rfl) ?_)
  refine zL rfl rfl (yg rfl (g8 hwok) (fun n hn => by cases hn) (by omega) fun v h5 c5 hc5 hf5 hq => ?_)
  obtain ⟨rfl, rfl, rfl⟩ := hq
  repeat' (first | apply zK | refine za rfl rfl (fun _ => rfl) ?_ | refine zU ?_)
  refine zH rfl (fun hb => by rw [show (yL w != 5) = false from e5] at hb; cases hb) (fun _ => ?_)
  repeat' (first | apply zw | apply zx | apply zz | refine za rfl rfl (fun _ => rfl) ?_)
  refine zL rfl rfl (yg rfl (gZ hwok) (fun n hn => by cases hn) (by omega) fun v h5 c5 hc5 hf5 hq => ?_)
  obtain ⟨rfl, rfl, rfl⟩ := hq
  rw [hv]
  repeat' (first | apply zw | apply zx | apply zK | refine za rfl rfl (fun _ => rfl) ?_)
  simp only [e1]
  skip
  refine zL rfl rfl (yg rfl (g7 r4.ar) hsub (by omega) fun v h5 c5 hc5 hf5 hq => ?_)
  obtain ⟨rfl, rfl, rfl⟩ := hq
  repeat' (first | refine za rfl rfl (fun _ => rfl) ?_)
  simp only [e2]
  repeat' (first | apply zK | refine za rfl rfl (fun _ => rfl) ?_ | refine zU ?_ | refine zL rfl rfl (zW rfl rfl rfl hg4 rfl ⟨(by simp [zc] <;> omega), ?_⟩))
  simp only [e3 rfl]
  skip
  refine zd rfl ?_
  repeat' (first | apply zw | apply zx | apply zz | refine za rfl rfl (fun _ => rfl) ?_)
  refine zL rfl rfl (yg rfl (ku r4.ar rfl hx) hsub (by omega) fun v h5 c5 hc5 hf5 hq => ?_)
  obtain ⟨rfl, rfl, rfl⟩ := hq
  repeat' (first | apply zw | apply zx | apply zK | refine za rfl rfl (fun _ => rfl) ?_ | refine zL rfl rfl (yC (k := 2) rfl rfl rfl rfl hg4 rfl ⟨(by simp [zc] <;> omega), ?_⟩))
  refine zL rfl rfl (yj rfl (fset_ok r4 hw hxok) (fun n hn => .inl hn) (by omega) fun v h5 c5 hc5 hf5 r5 => ?_)
  have hg5 : MapI.get h5 c = some (.cells true true [.bool false, I i]) := by rw [hf5 c (by omega) hcn]; exact hg4
  repeat' (first | apply zw | apply zx | apply zK | refine za rfl rfl (fun _ => rfl) ?_ | refine zL rfl rfl (yC (k := 2) rfl rfl rfl rfl hg5 rfl ⟨(by simp [zc] <;> omega), ?_⟩))
  refine zL rfl rfl (yg rfl (link_ok (b := false) (i := i) hi8) (fun n hn => by cases hn) (by omega) fun v h6 c6 hc6 hf6 hq => ?_)
  subst hq
  have r6 := r5.same hc6 hf6
  skip
  refine zL rfl rfl (yj rfl (set_ok r6.ar rfl (by simpa [fsetW] using hpl) (link_okW false i)) hsub (by omega) fun v h7 c7 hc7 hf7 hq => ?_)
  obtain ⟨rfl, rfl, hA, _⟩ := hq
  repeat' (first | apply zw | apply zx | apply zG | apply zK | refine za rfl rfl (fun _ => rfl) ?_)
  exact z6 rfl ⟨rfl, hA, r6.rr.keep (Nat.le_refl _) fun n hn hm => hf7 n hn fun hh => (by
   rcases zl hh with h | h
   ·exact (r.sep n hm).1 h
   ·exact (r.sep n hm).2 h), r.sep, r6.ok, r6.len⟩
 | true =>
  repeat' (first | apply zw | apply zx | apply zK | refine za rfl rfl (fun _ => rfl) ?_ | refine zL rfl rfl (yK rfl ⟨(by simp [zc] <;> omega), ?_⟩) | refine zL rfl rfl (yC (k := 2) rfl rfl rfl rfl hg rfl ⟨(by simp [zc] <;> omega), ?_⟩))
  refine zL rfl rfl (yg rfl (fget_ok (r1 _) hw) (fun n hn => .inl hn) (by omega) fun v h4 c4 hc4 hf4 hq => ?_)
  subst hq
  have r4 := (r1 _).same hc4 hf4
  have hg4 : MapI.get h4 c = some (.cells true true [.bool true, I i]) := by rw [hf4 c (by omega)]; exact zt _ _ _
  repeat' (first | apply zw | apply zx | apply zK | refine za rfl rfl (fun _ => rfl) ?_)
  refine zL rfl rfl (yg rfl (g8 hwok) (fun n hn => by cases hn) (by omega) fun v h5 c5 hc5 hf5 hq => ?_)
  obtain ⟨rfl, rfl, rfl⟩ := hq
  repeat' (first | apply zK | refine za rfl rfl (fun _ => rfl) ?_ | refine zU ?_)
  refine zH rfl (fun hb => by rw [show (yL w != 5) = false from e5] at hb; cases hb) (fun _ => ?_)
  repeat' (first | apply zw | apply zx | apply zz | refine za rfl rfl (fun _ => rfl) ?_)
  refine zL rfl rfl (yg rfl (gZ hwok) (fun n hn => by cases hn) (by omega) fun v h5 c5 hc5 hf5 hq => ?_)
  obtain ⟨rfl, rfl, rfl⟩ := hq
  rw [hv]
  repeat' (first | apply zw | apply zx | apply zK | refine za rfl rfl (fun _ => rfl) ?_)
  simp only [e1]
  skip
  refine zL rfl rfl (yg rfl (g7 r4.ar) hsub (by omega) fun v h5 c5 hc5 hf5 hq => ?_)
  obtain ⟨rfl, rfl, rfl⟩ := hq
  repeat' (first | refine za rfl rfl (fun _ => rfl) ?_)
  simp only [e2]
  repeat' (first | apply zK | refine za rfl rfl (fun _ => rfl) ?_ | refine zM rfl rfl ?_ | refine zU ?_ | refine zL rfl rfl (zW rfl rfl rfl hg4 rfl ⟨(by simp [zc] <;> omega), ?_⟩))
  refine zd rfl ?_
  repeat' (first | apply zw | apply zx | apply zz | refine za rfl rfl (fun _ => rfl) ?_)
  refine zL rfl rfl (yg rfl (ku r4.ar rfl hx) hsub (by omega) fun v h5 c5 hc5 hf5 hq => ?_)
  obtain ⟨rfl, rfl, rfl⟩ := hq
  repeat' (first | apply zw | apply zx | apply zK | refine za rfl rfl (fun _ => rfl) ?_ | refine zL rfl rfl (yC (k := 2) rfl rfl rfl rfl hg4 rfl ⟨(by simp [zc] <;> omega), ?_⟩))
  refine zL rfl rfl (yj rfl (fset_ok r4 hw hxok) (fun n hn => .inl hn) (by omega) fun v h5 c5 hc5 hf5 r5 => ?_)
  have hg5 : MapI.get h5 c = some (.cells true true [.bool true, I i]) := by rw [hf5 c (by omega) hcn]; exact hg4
  repeat' (first | apply zw | apply zx | apply zK | refine za rfl rfl (fun _ => rfl) ?_ | refine zL rfl rfl (yC (k := 2) rfl rfl rfl rfl hg5 rfl ⟨(by simp [zc] <;> omega), ?_⟩))
  refine zL rfl rfl (yg rfl (link_ok (b := true) (i := i) hi8) (fun n hn => by cases hn) (by omega) fun v h6 c6 hc6 hf6 hq => ?_)
  subst hq
  have r6 := r5.same hc6 hf6
  skip
  refine zL rfl rfl (yj rfl (set_ok r6.ar rfl (by simpa [fsetW] using hpl) (link_okW true i)) hsub (by omega) fun v h7 c7 hc7 hf7 hq => ?_)
  obtain ⟨rfl, rfl, hA, _⟩ := hq
  repeat' (first | apply zw | apply zx | apply zG | apply zK | refine za rfl rfl (fun _ => rfl) ?_)
  exact z6 rfl ⟨rfl, hA, r6.rr.keep (Nat.le_refl _) fun n hn hm => hf7 n hn fun hh => (by
   rcases zl hh with h | h
   ·exact (r.sep n hm).1 h
   ·exact (r.sep n hm).2 h), r.sep, r6.ok, r6.len⟩
theorem thread_no {b : Bool} {i : Nat} {w : Int} (r : Mem h c a vW vR W R size) (hw : fget W R b i = some w) (h5 : yL w ≠ 5) :
  Does 78 [.ptr (some (a, 0)), vR, fldV b i] h c (mn a vW vR) fun v h' c' => v = .bool false /\ ∀ n, n < c -> MapI.get h' n = MapI.get h n := by
 have hwok : okW w := by
  cases b with
  | false => exact r.ar.ok w (zo (show W[i]? = some w from hw))
  | true => exact r.ok w (zo (show R[i]? = some w from hw))
 have e5 : (yL w != 5) = true := by simpa using h5
 have hg : ∀ {o : AObj}, MapI.get (MapI.set h c o) c = some o := zt _ _ _
 have r1 := fun o => r.same (h' := MapI.set h c o) (c' := c + 1) (by omega) fun n hn => zu _ _ _ _ (by omega)
 refine yi (enter (fn := Tryz.f78) Tryz.func78 rfl rfl (zf rfl) ?_)
 repeat' (first | apply zw | apply zx | apply zK | refine za rfl rfl (fun _ => rfl) ?_ | refine zL rfl rfl (yK rfl ⟨(by simp [zc] <;> omega), ?_⟩) | refine zL rfl rfl (yC (k := 2) rfl rfl rfl rfl hg rfl ⟨(by simp [zc] <;> omega), ?_⟩))
 refine zL rfl rfl (yg rfl (fget_ok (r1 _) hw) (fun n hn => .inl hn) (by omega) fun v h4 c4 hc4 hf4 hq => ?_)
 subst hq
 repeat' (first | apply zw | apply zx | apply zK | refine za rfl rfl (fun _ => rfl) ?_)
 refine zL rfl rfl (yg rfl (g8 hwok) (fun n hn => by cases hn) (by omega) fun v h5 c5 hc5 hf5 hq => ?_)
 obtain ⟨rfl, rfl, rfl⟩ := hq
 repeat' (first | apply zK | refine za rfl rfl (fun _ => rfl) ?_ | refine zU ?_)
 refine zH rfl (fun _ => ?_) (fun hb => by rw [show (yL w != 5) = true from e5] at hb; cases hb)
 repeat' (first | apply zw | apply zx | apply zG | apply zK | refine za rfl rfl (fun _ => rfl) ?_ | refine yn ?_)
 exact z6 rfl ⟨rfl, fun n hn => by rw [hf4 n (by omega)]; exact zu _ _ _ _ (by omega)⟩
abbrev MM := List Int × List Int
abbrev Fld := Bool × Nat
def qm (m : MM) (f : Fld) : Option Int := fget m.1 m.2 f.1 f.2
def qw (m : MM) (f : Fld) (w : Int) : MM := (fsetW m.1 f.1 f.2 w, fsetR m.2 f.1 f.2 w)
abbrev jQ (p : Nat) : Int := ofW 5 (p : Nat)
def ChainM (at' to : Nat) : List Fld -> MM -> Prop
 | [], m => ∃ w, m.1[at']? = some w /\ yL w ≠ 7
 | f :: fs, m => m.1[at']? = some (gY f.1 f.2) /\ ∃ x, qm m f = some x /\ ChainM at' to fs (qw (qw m (false, at') x) f (jQ to))
def jB (at' to : Nat) : List Fld -> MM -> MM
 | [], m => m
 | f :: fs, m => jB at' to fs (qw (qw m (false, at') ((qm m f).getD 0)) f (jQ to))
theorem qT (m : MM) (f : Fld) (w : Int) : (qw m f w).1.length = m.1.length /\ (qw m f w).2.length = m.2.length := by
 obtain ⟨b, i⟩ := f
 cases b <;> simp [qw, fsetW, fsetR]
theorem yT {m : MM} {f g : Fld} {w : Int} (h : f ≠ g) : qm (qw m f w) g = qm m g := by
 obtain ⟨b, i⟩ := f
 obtain ⟨b', j⟩ := g
 cases b <;> cases b' <;> simp only [qm, qw, fget, fsetW, fsetR, Bool.false_eq_true, if_false, if_true]
 ·exact List.getElem?_set_ne fun e => h (by rw [e])
 ·exact List.getElem?_set_ne fun e => h (by rw [e])
theorem mget_mset {m : MM} {f : Fld} {w y : Int} (h : qm m f = some y) : qm (qw m f w) f = some w := by
 obtain ⟨b, i⟩ := f
 have := kY h
 cases b with
 | false => simp [qm, qw, fget, fsetW, this.1 rfl]
 | true => simp [qm, qw, fget, fsetR, this.2 rfl]
set_option maxHeartbeats 1000000 in
theorem loose_ok {p to : Nat} {fs : List Fld} (r : Mem h c a vW vR W R size) (hc : ChainM p to fs (W, R)) (hl : fs.length <= W.length + R.length) (hto : to <= 100000000) (hb : ∀ f ∈ fs, f.2 <= 100000000) :
  Does 95 [.ptr (some (a, 0)), vR, I p, I to] h c (mn a vW vR) fun v h' c' => Mem h' c' a vW vR (jB p to fs (W, R)).1 (jB p to fs (W, R)).2 size := by
 have hsub : ∀ n ∈ an a vW, n ∈ mn a vW vR \/ c <= n := fun n hn => .inl (zh _ hn)
 have hlw := r.lenW
 have hlr := r.len
 have hnm := r.names
 have hvR : ∃ s cap, vR = .slice s R.length cap := by obtain ⟨s, cap, e, _⟩ := r.rr.shape; exact ⟨s, cap, e⟩
 refine yi (enter (fn := Tryz.f95) Tryz.func95 rfl rfl (zf rfl) ?_)
 repeat' (first | apply zw | apply zx | apply zK | refine za rfl rfl (fun _ => rfl) ?_ | refine zU ?_)
 refine zd rfl ?_
 repeat' (first | apply zw | apply zx | apply zz | apply zB | apply zK | refine za rfl rfl (fun _ => rfl) ?_)
 refine zI ?_
 refine zQ (X := Nat × List Fld × MM) (fun x e' h' c' => (∃ b0, e' = FR b0 [(0, V.ptr (some (a, 0))), (1, vR), (2, I p), (3, I to), (10, I x.1)]) /\ ChainM p to x.2.1 x.2.2 /\ x.1 + x.2.1.length <= W.length + R.length /\ jB p to x.2.1 x.2.2 = jB p to fs (W, R) /\ Mem h' c' a vW vR x.2.2.1 x.2.2.2 size /\ x.2.2.1.length = W.length /\ x.2.2.2.length = R.length /\ (∀ f ∈ x.2.1, f.2 <= 100000000) /\ c <= c')
  (fun x => x.2.1.length) ?_ (0, fs, (W, R)) _ _ _ ⟨fr ⟨rfl, rfl, rfl, rfl, rfl, trivial⟩, hc, by simpa using hl, rfl, r, rfl, rfl, hb, Nat.le_refl _⟩
 rintro ⟨n, fs', W', R'⟩ e' h' c' ⟨⟨b0, rfl⟩, hch, hlen, heq, r', hW, hR, hb', hcc⟩
 simp only at hch hlen heq r' hW hR hb'
 cases fs' with
 | nil =>
  obtain ⟨w, hw, ht⟩ := hch
  have hwok : okW w := r'.ar.ok w (zo hw)
  have e7 : (yL w != 7) = true := by simpa using ht
  repeat' (first | apply zw | apply zx | apply zB | refine za rfl rfl (fun _ => rfl) ?_)
  refine zL rfl rfl (yg rfl (ku r'.ar rfl hw) hsub (by omega) fun v h5 c5 hc5 hf5 hq => ?_)
  obtain ⟨rfl, rfl, rfl⟩ := hq
  repeat' (first | apply zw | apply zx | apply zK | refine za rfl rfl (fun _ => rfl) ?_)
  refine zL rfl rfl (yg rfl (g8 hwok) (fun n hn => by cases hn) (by omega) fun v h5 c5 hc5 hf5 hq => ?_)
  obtain ⟨rfl, rfl, rfl⟩ := hq
  repeat' (first | apply zK | refine za rfl rfl (fun _ => rfl) ?_ | refine zU ?_)
  refine zH rfl (fun _ => ?_) (fun hb => by rw [show (yL w != 7) = true from e7] at hb; cases hb)
  repeat' (first | apply zw | apply zx | apply zG | apply zK | refine za rfl rfl (fun _ => rfl) ?_ | refine yn ?_ | refine qr ?_)
  refine z6 rfl ?_
  rw [<- heq]
  exact r'
 | cons f fs' =>
  obtain ⟨b, i⟩ := f
  obtain ⟨hw, x, hx, hch'⟩ := hch
  have hw : W'[p]? = some (gY b i) := hw
  have hx : fget W' R' b i = some x := hx
  have hi : i <= 100000000 := hb' (b, i) (zq ..)
  have e7 : (yL (gY b i) != 7) = false := by rw [link_tag]; rfl
  have hxok : okW x := by
   cases b with
   | false => exact r'.ar.ok x (zo (show W'[i]? = some x from hx))
   | true => exact r'.ok x (zo (show R'[i]? = some x from hx))
  have hpl := (zj hw).1
  simp only [List.length_cons] at hlen
  repeat' (first | apply zw | apply zx | apply zB | refine za rfl rfl (fun _ => rfl) ?_)
  refine zL rfl rfl (yg rfl (ku r'.ar rfl hw) hsub (by omega) fun v h5 c5 hc5 hf5 hq => ?_)
  obtain ⟨rfl, rfl, rfl⟩ := hq
  repeat' (first | apply zw | apply zx | apply zK | refine za rfl rfl (fun _ => rfl) ?_)
  refine zL rfl rfl (yg rfl (g8 (link_okW b i)) (fun n hn => by cases hn) (by omega) fun v h5 c5 hc5 hf5 hq => ?_)
  obtain ⟨rfl, rfl, rfl⟩ := hq
  repeat' (first | apply zK | refine za rfl rfl (fun _ => rfl) ?_ | refine zU ?_)
  refine zH rfl (fun hb => by rw [show (yL (gY b i) != 7) = false from e7] at hb; cases hb) (fun _ => ?_)
  repeat' (first | apply zw | apply zx | apply zz | refine za rfl rfl (fun _ => rfl) ?_)
  refine zL rfl rfl (yg rfl (linked_ok (b := b) hi) (fun n hn => by cases hn) (by omega) fun v h5 c5 hc5 hf5 hq => ?_)
  subst hq
  have hg5 : ∀ {o q : AObj}, MapI.get (MapI.set (MapI.set h5 c5 o) c5 q) c5 = some q := zt _ _ _
  have r5 := fun o q => r'.same (h' := MapI.set (MapI.set h5 c5 o) c5 q) (c' := c5 + 1) (by omega) fun n hn => by
   rw [zu _ _ _ _ (by omega), zu _ _ _ _ (by omega)]; exact hf5 n hn
  repeat' (first | apply zw | apply zx | apply zK | refine za rfl rfl (fun _ => rfl) ?_ | refine zL rfl rfl (yM rfl ⟨(by simp [zc] <;> omega), ?_⟩) | refine zL rfl rfl (ya (k := 2) rfl rfl rfl rfl (zt _ _ _) (zf rfl) rfl ⟨(by simp [zc] <;> omega), ?_⟩) | refine zL rfl rfl (yC (k := 2) rfl rfl rfl rfl hg5 rfl ⟨(by simp [zc] <;> omega), ?_⟩))
  refine zL rfl rfl (yg rfl (fget_ok (r5 _ _) hx) (fun n hn => .inl hn) (by omega) fun v h6 c6 hc6 hf6 hq => ?_)
  subst hq
  have r6 := (r5 _ _).same hc6 hf6
  have hg6 : MapI.get h6 c5 = some (.cells true true [.bool b, I i]) := by rw [hf6 c5 (by omega)]; exact hg5
  obtain ⟨sR, capR, rfl⟩ := hvR
  have w1 : IntKind.i64.wrap ((W'.length : Int) + (R.length : Int)) = W'.length + R.length := Go.IntWalk.i64_in _ (by omega)
  have e8 : decide (((n : Nat) : Int) >= IntKind.i64.wrap ((W'.length : Int) + (R.length : Int))) = false := by rw [w1]; simp; omega
  repeat' (first | apply zw | apply zx | apply zK | refine za rfl rfl (fun _ => rfl) ?_)
  refine zL rfl rfl (yg rfl (g7 r6.ar) hsub (by omega) fun v h7 c7 hc7 hf7 hq => ?_)
  obtain ⟨rfl, rfl, rfl⟩ := hq
  repeat' (first | apply zK | refine za rfl rfl (fun _ => rfl) ?_ | refine zU ?_)
  refine zH rfl (fun hb => by rw [show decide (((n : Nat) : Int) >= IntKind.i64.wrap ((W'.length : Int) + (R.length : Int))) = false from e8] at hb; cases hb) (fun _ => ?_)
  repeat' (first | apply zw | apply zx | apply zz | refine za rfl rfl (fun _ => rfl) ?_)
  refine zL rfl rfl (yj rfl (set_ok r6.ar rfl hpl hxok) hsub (by omega) fun v h7 c7 hc7 hf7 hq => ?_)
  obtain ⟨rfl, rfl, hA, _⟩ := hq
  have r7 : Mem h7 c6 a vW (.slice sR R.length capR) (qw (W', R') (false, p) x).1 (qw (W', R') (false, p) x).2 size := ⟨hA, r6.rr.keep (Nat.le_refl _) fun n hn hm => hf7 n hn fun hh => (by
   rcases zl hh with h | h
   ·exact (r'.sep n hm).1 h
   ·exact (r'.sep n hm).2 h), r'.sep, r6.ok, r6.len⟩
  have hg7 : MapI.get h7 c5 = some (.cells true true [.bool b, I i]) := by
   rw [hf7 c5 (by omega) (fun hh => by have := r'.ar.names c5 hh; omega)]; exact hg6
  have hx7 : ∃ y, fget (qw (W', R') (false, p) x).1 (qw (W', R') (false, p) x).2 b i = some y := by
   have h1 := kY hx
   have h2 := qT (W', R') (false, p) x
   cases b with
   | false => exact ⟨_, zp (by rw [h2.1]; exact h1.1 rfl)⟩
   | true => exact ⟨_, zp (by rw [h2.2]; exact h1.2 rfl)⟩
  obtain ⟨y, hy⟩ := hx7
  repeat' (first | apply zy | apply zK | refine zb rfl rfl (fun _ => rfl) ?_ | refine zO rfl rfl (yC (k := 2) rfl rfl rfl rfl hg7 rfl ⟨(by simp [zc] <;> omega), ?_⟩))
  refine zO rfl rfl (jy rfl (of_word_okR (t := 5) (n := (to : Int)) (by decide) (by unfold jD; omega)) (fun n hn => by cases hn) (by omega) fun v h8 c8 al8 hal8 hc8 hf8 hq => ?_)
  obtain ⟨rfl, rfl, rfl⟩ := hq
  skip
  refine zO rfl rfl (jh rfl (fset_ok r7 hy (kS (by decide))) (fun n hn => .inl hn) (by omega) fun v h9 c9 al9 hal9 hc9 hf9 r9 => ?_)
  have h8' : ∀ x ∈ al8, c5 = x.name -> x.writes = false := fun x hx e => by
   rcases (hal8 x hx).1 with h | h
   ·cases h
   ·omega
  refine zN (ym (cs := [0, 0, 0, 0, 8, 31]) (by decide +kernel) ?_) ?_
  ·simp +contextual [jt, apP, Dis, yF, yE, yw, yA, Nat.testBit, h8']
  have wn : IntKind.i64.wrap (((n : Nat) : Int) + 1) = ((n + 1 : Nat) : Int) := by rw [Go.IntWalk.i64_in _ (by omega)]; omega
  repeat' (first | apply zx | apply zK | refine za rfl rfl (fun _ => rfl) ?_ | refine zU ?_)
  have l1 := qT (W', R') (false, p) x
  have l2 := qT (qw (W', R') (false, p) x) (b, i) (jQ to)
  have hgx : (qm (W', R') (b, i)).getD 0 = x := by rw [show qm (W', R') (b, i) = some x from hx]; rfl
  refine ⟨(n + 1, fs', qw (qw (W', R') (false, p) x) (b, i) (jQ to)), by simp only [List.length_cons]; omega, ?_, hch', by simp only; omega, ?_, r9, by rw [l2.1, l1.1]; exact hW, by rw [l2.2, l1.2]; exact hR, fun f hf => hb' f (zg _ hf), by omega⟩
  ·rw [wn]
   exact fr ⟨rfl, rfl, rfl, rfl, rfl, trivial⟩
  ·rw [<- heq]
   simp only [jB, hgx]
end
open Go.Ab
def enc (hd : Nat -> Int) (p : Nat) : List Fld -> Int
 | [] => hd p
 | f :: _ => gY f.1 f.2
structure LS (P : Nat -> Prop) (hd : Nat -> Int) (m : MM) (C : Nat -> List Fld) (val : Fld -> Int) : Prop where
 head : ∀ p, P p -> qm m (false, p) = some (enc hd p (C p))
 link : ∀ p, P p -> ∀ pre f rest, C p = pre ++ f :: rest -> qm m f = some (enc hd p rest)
 plain : ∀ f y, qm m f = some y -> (f.1 = false -> ¬ P f.2) -> (∀ p, P p -> f ∉ C p) -> y = val f
 hdr : ∀ p, P p -> ∀ f ∈ C p, f.1 = false -> ¬ P f.2
 nodup : ∀ p, P p -> (C p).Nodup
 disj : ∀ p q, P p -> P q -> p ≠ q -> ∀ f ∈ C p, f ∉ C q
def upd {α : Type} (C : Nat -> α) (p : Nat) (x : α) : Nat -> α := fun q => if q = p then x else C q
theorem yW {α : Type} {C : Nat -> α} {p : Nat} {x : α} : upd C p x p = x := if_pos rfl
theorem jL {α : Type} {C : Nat -> α} {p q : Nat} {x : α} (h : q ≠ p) : upd C p x q = C q := if_neg h
section
variable {P : Nat -> Prop} {hd : Nat -> Int} {m : MM} {C : Nat -> List Fld} {val : Fld -> Int}
theorem LS.bound (s : LS P hd m C val) {p : Nat} (hp : P p) {f : Fld} (hf : f ∈ C p) : ∃ y, qm m f = some y := by
 obtain ⟨pre, rest, e⟩ := List.append_of_mem hf
 exact ⟨_, s.link p hp pre f rest e⟩
theorem LS.unhook (s : LS P hd m C val) {p to : Nat} (hp : P p) {f : Fld} {fs : List Fld} (hC : C p = f :: fs) :
  LS P hd (qw (qw m (false, p) (enc hd p fs)) f (jQ to)) (upd C p fs) (fun g => if g = f then jQ to else val g) := by
 have hf : f ∈ C p := by rw [hC]; exact zq ..
 have hfp : f ≠ (false, p) := fun e => by subst e; exact s.hdr p hp _ hf rfl hp
 have hfv := s.link p hp [] f fs hC
 have hnd := s.nodup p hp
 rw [hC] at hnd
 obtain ⟨hn1, hn2⟩ := List.nodup_cons.1 hnd
 have hhp := s.head p hp
 have hff : ∃ y, qm (qw m (false, p) (enc hd p fs)) f = some y := ⟨_, (yT (Ne.symm hfp)).trans hfv⟩
 obtain ⟨y0, hff⟩ := hff
 have sub : ∀ q, P q -> ∀ g ∈ upd C p fs q, g ∈ C q := fun q hq g hg => by
  by_cases e : q = p
  ·subst e; rw [yW] at hg; rw [hC]; exact zg _ hg
  ·rwa [jL e] at hg
 refine ⟨fun q hq => ?_, fun q hq pre g rest e => ?_, fun g y hg h1 h2 => ?_, fun q hq g hg => s.hdr q hq g (sub q hq g hg), fun q hq => ?_, fun q r hq hr hne g hg hg2 => s.disj q r hq hr hne g (sub q hq g hg) (sub r hr g hg2)⟩
 ·have hfq : f ≠ (false, q) := fun e => by subst e; exact s.hdr p hp _ hf rfl hq
  rw [yT hfq]
  by_cases e : q = p
  ·subst e; rw [yW]; exact mget_mset hhp
  ·rw [jL e, yT (fun h => e (by cases h; rfl))]; exact s.head q hq
 ·have hg : g ∈ upd C p fs q := by rw [e]; exact zi _ (zq ..)
  have hgC := sub q hq g hg
  have hgp : (false, p) ≠ g := fun h => by subst h; exact s.hdr q hq _ hgC rfl hp
  have hgf : f ≠ g := fun h => by
   subst h
   by_cases e' : q = p
   ·subst e'; rw [yW] at hg; exact hn1 hg
   ·exact s.disj p q hp hq (Ne.symm e') _ hf hgC
  rw [yT hgf, yT hgp]
  by_cases e' : q = p
  ·subst e'
   rw [yW] at e
   exact s.link q hq (f :: pre) g rest (by rw [hC, e]; rfl)
  ·rw [jL e'] at e; exact s.link q hq pre g rest e
 ·by_cases e : g = f
  ·subst e
   rw [mget_mset hff] at hg
   cases hg
   rw [if_pos rfl]
  ·simp only [if_neg e]
   rw [yT (Ne.symm e)] at hg
   have hgp : (false, p) ≠ g := fun h => by subst h; exact h1 rfl hp
   rw [yT hgp] at hg
   refine s.plain g y hg h1 fun q hq hgq => ?_
   by_cases e' : q = p
   ·subst e'
    rw [hC] at hgq
    rcases zl hgq with h | h
    ·exact e h
    ·exact h2 q hq (by rw [yW]; exact h)
   ·exact h2 q hq (by rw [jL e']; exact hgq)
 ·by_cases e : q = p
  ·subst e; rw [yW]; exact hn2
  ·rw [jL e]; exact s.nodup q hq
theorem LS.loose (htag : ∀ p, P p -> yL (hd p) ≠ 7) {p to : Nat} (hp : P p) : ∀ {fs : List Fld} {m : MM} {C : Nat -> List Fld} {val : Fld -> Int}, C p = fs -> LS P hd m C val ->
  ChainM p to fs m /\ LS P hd (jB p to fs m) (upd C p []) (fun g => if g ∈ fs then jQ to else val g)
 | [], m, C, val, hC, s => by
  refine ⟨⟨hd p, ?_, htag p hp⟩, ?_⟩
  ·have := s.head p hp; rw [hC] at this; exact this
  ·have e1 : upd C p [] = C := by funext q; by_cases e : q = p; (subst e; rw [yW, hC]); rw [jL e]
   rw [e1]
   simpa [jB] using s
 | f :: fs, m, C, val, hC, s => by
  have hfv := s.link p hp [] f fs hC
  have s2 := s.unhook (to := to) hp hC
  obtain ⟨h1, h2⟩ := LS.loose htag (to := to) hp (yW) s2
  have hh := s.head p hp
  rw [hC] at hh
  refine ⟨⟨hh, _, hfv, h1⟩, ?_⟩
  have e0 : jB p to (f :: fs) m = jB p to fs (qw (qw m (false, p) (enc hd p fs)) f (jQ to)) := by
   rw [jB, hfv]; rfl
  have e1 : upd (upd C p fs) p [] = upd C p [] := by funext q; by_cases e : q = p; (subst e; rw [yW, yW]); rw [jL e, jL e, jL e]
  have e2 : (fun g => if g ∈ fs then jQ to else (if g = f then jQ to else val g)) = fun g => if g ∈ f :: fs then jQ to else val g := by
   funext g
   by_cases h : g = f
   ·simp [h]
   ·simp [h]
  rw [e0, <- e1, <- e2]
  exact h2
theorem LS.thread (s : LS P hd m C val) {f : Fld} {p : Nat} (hp : P p) {w : Int} (hw : qm m f = some w) (h1 : f.1 = false -> ¬ P f.2) (h2 : ∀ q, P q -> f ∉ C q) :
  LS P hd (qw (qw m f (enc hd p (C p))) (false, p) (gY f.1 f.2)) (upd C p (f :: C p)) val := by
 have hfp : f ≠ (false, p) := fun e => by subst e; exact h1 rfl hp
 have hh := s.head p hp
 have hh2 : qm (qw m f (enc hd p (C p))) (false, p) = some (enc hd p (C p)) := by rw [yT hfp]; exact hh
 have mem : ∀ q, P q -> ∀ g ∈ upd C p (f :: C p) q, g = f /\ q = p \/ g ∈ C q := fun q hq g hg => by
  by_cases e : q = p
  ·subst e; rw [yW] at hg
   rcases zl hg with h | h
   ·exact .inl ⟨h, rfl⟩
   ·exact .inr h
  ·rw [jL e] at hg; exact .inr hg
 refine ⟨fun q hq => ?_, fun q hq pre g rest e => ?_, fun g y hg h3 h4 => ?_, fun q hq g hg => ?_, fun q hq => ?_, fun q r hq hr hne g hg hg2 => ?_⟩
 ·by_cases e : q = p
  ·subst e; rw [yW, mget_mset hh2]; rfl
  ·rw [jL e, yT (fun h => e (by cases h; rfl)), yT (fun h => by subst h; exact h1 rfl hq)]
   exact s.head q hq
 ·have hg : g ∈ upd C p (f :: C p) q := by rw [e]; exact zi _ (zq ..)
  have hgp : (false, p) ≠ g := fun h => by
   subst h
   rcases mem q hq _ hg with ⟨h, _⟩ | h
   ·exact hfp h.symm
   ·exact s.hdr q hq _ h rfl hp
  rw [yT hgp]
  by_cases e' : q = p
  ·subst e'
   rw [yW] at e
   cases pre with
   | nil =>
    simp only [List.nil_append, List.cons.injEq] at e
    obtain ⟨rfl, rfl⟩ := e
    exact mget_mset hw
   | cons z pre =>
    simp only [List.cons_append, List.cons.injEq] at e
    obtain ⟨rfl, e⟩ := e
    have hgC : g ∈ C q := by rw [e]; exact zi _ (zq ..)
    rw [yT (fun h => by subst h; exact h2 q hq hgC)]
    exact s.link q hq pre g rest e
  ·rw [jL e'] at e
   have hgC : g ∈ C q := by rw [e]; exact zi _ (zq ..)
   rw [yT (fun h => by subst h; exact h2 q hq hgC)]
   exact s.link q hq pre g rest e
 ·have hgp : (false, p) ≠ g := fun h => by subst h; exact h3 rfl hp
  have hgf : f ≠ g := fun h => by subst h; exact h4 p hp (by rw [yW]; exact zq ..)
  rw [yT hgp, yT hgf] at hg
  refine s.plain g y hg h3 fun q hq hgq => ?_
  by_cases e : q = p
  ·subst e; exact h4 q hq (by rw [yW]; exact zg _ hgq)
  ·exact h4 q hq (by rw [jL e]; exact hgq)
 ·rcases mem q hq g hg with ⟨rfl, _⟩ | h
  ·exact h1
  ·exact s.hdr q hq g h
 ·by_cases e : q = p
  ·subst e; rw [yW]; exact List.nodup_cons.2 ⟨h2 q hq, s.nodup q hq⟩
  ·rw [jL e]; exact s.nodup q hq
 ·rcases mem q hq g hg with ⟨rfl, rfl⟩ | h
  ·rcases mem r hr g hg2 with ⟨_, rfl⟩ | h
   ·exact hne rfl
   ·exact h2 r hr h
  ·rcases mem r hr g hg2 with ⟨rfl, rfl⟩ | h'
   ·exact h2 q hq h
   ·exact s.disj q r hq hr hne g h h'
end
open Go.Ab
theorem ObjsFrom.apart {W : List Int} {i : Nat} {l : List (Nat × Hd)} (r : ObjsFrom W i l) {p q : Nat} {x y : Hd} (hp : (p, x) ∈ l) (hq : (q, y) ∈ l) (h : p < q) : (p : Int) + 1 + x.size <= q := by
 induction r with
 | nil => cases hp
 | cons hx r ih =>
  rename_i i z l
  obtain ⟨_, _, _, _, _, _, hok⟩ := yJ hx
  unfold okH at hok
  rcases zl hp with hp | hp
  ·have e1 : p = i := congrArg Prod.fst hp
   have e2 : x = z := congrArg Prod.snd hp
   rcases zl hq with hq | hq
   ·have e3 : q = i := congrArg Prod.fst hq
    omega
   ·have h1 : i + 1 + z.size.toNat <= q := (r.mem _ hq).1
    subst e2
    omega
  ·rcases zl hq with hq | hq
   ·have e3 : q = i := congrArg Prod.fst hq
    have h1 : i + 1 + z.size.toNat <= p := (r.mem _ hp).1
    omega
   ·exact ih hp hq
section
variable (W0 R0 : List Int) (l : List (Nat × Hd))
def qn (p : Nat) : Prop := ∃ x, (p, x) ∈ zX W0 l R0
def V0 (f : Fld) : Option Int := qm (W0, R0) f
def hd0W (p : Nat) : Int := (W0[p]?).getD 0
def gp (f : Fld) : Prop := (f.1 = true /\ f.2 < R0.length) \/ (f.1 = false /\ ∃ p x k, (p, x) ∈ zX W0 l R0 /\ ((k : Nat) : Int) < yc x /\ f.2 = p + 1 + k)
def newPos : List (Nat × Hd) -> Nat -> Nat
 | [], _ => 0
 | (p, x) :: L, q => if p < q then 1 + x.size.toNat + newPos L q else 0
noncomputable def mvW (w : Int) : Int := if yL w = 5 then jQ (newPos (zX W0 l R0) (yI w).toNat) else w
end
section
variable {W0 R0 : List Int} {l : List (Nat × Hd)}
theorem yQ {p : Nat} {x : Hd} (h : (p, x) ∈ zX W0 l R0) : (p, x) ∈ l := (jN.1 h).1
theorem gC (so : SoundW W0 R0 l) {i : Nat} (h : gp W0 R0 l (false, i)) : ¬ qn W0 R0 l i := by
 rintro ⟨y, hy⟩
 rcases h with ⟨h, _⟩ | ⟨_, p, x, k, hx, hk, e⟩
 ·cases h
 ·have e : i = p + 1 + k := e
  have h1 := yQ hx
  have h2 := yQ hy
  have h3 : yc x <= x.size := so.le _ h1
  have := so.objs.apart h1 h2 (by omega)
  omega
theorem fld_val {f : Fld} (so : SoundW W0 R0 l) (h : gp W0 R0 l f) : ∃ w, V0 W0 R0 f = some w /\ (yL w = 5 -> ∃ q : Nat, yI w = q /\ qn W0 R0 l q) /\ yL w ≠ 7 := by
 obtain ⟨b, i⟩ := f
 rcases h with ⟨hb, hi⟩ | ⟨hb, p, x, k, hx, hk, e⟩
 ·simp only at hb hi; subst hb
  obtain ⟨w, hw⟩ : ∃ w, R0[i]? = some w := ⟨_, zp hi⟩
  have hm := zo hw
  refine ⟨w, hw, fun ht => ?_, (so.roots w hm).2.1⟩
  obtain ⟨q, hq, e⟩ := (so.roots w hm).2.2 ht
  exact ⟨q.1, e, q.2, jN.2 ⟨hq, .root hm ht e⟩⟩
 ·simp only at hb e; subst hb
  obtain ⟨hxl, hr⟩ := jN.1 hx
  obtain ⟨w, hw⟩ := obj_get so hxl hk
  have hf := so.fields _ hxl k w hk hw
  refine ⟨w, by subst e; exact hw, fun ht => ?_, hf.2.1⟩
  obtain ⟨q, hq, e2⟩ := hf.2.2 ht
  exact ⟨q.1, e2, q.2, jN.2 ⟨hq, .field hr hxl hk hw ht e2⟩⟩
theorem mget_len {m m' : MM} (h1 : m.1.length = m'.1.length) (h2 : m.2.length = m'.2.length) {f : Fld} {y : Int} (h : qm m f = some y) : ∃ z, qm m' f = some z := by
 obtain ⟨b, i⟩ := f
 have := kY h
 cases b with
 | false => exact ⟨_, zp (by have := this.1 rfl; omega)⟩
 | true => exact ⟨_, zp (by have := this.2 rfl; omega)⟩
theorem looseM_len {p to : Nat} : ∀ (fs : List Fld) (m : MM), (jB p to fs m).1.length = m.1.length /\ (jB p to fs m).2.length = m.2.length
 | [], m => ⟨rfl, rfl⟩
 | f :: fs, m => by
  have h1 := looseM_len fs (qw (qw m (false, p) ((qm m f).getD 0)) f (jQ to)) (p := p) (to := to)
  have h2 := qT (qw m (false, p) ((qm m f).getD 0)) f (jQ to)
  have h3 := qT m (false, p) ((qm m f).getD 0)
  exact ⟨by rw [jB, h1.1, h2.1, h3.1], by rw [jB, h1.2, h2.2, h3.2]⟩
structure UpI (W0 R0 : List Int) (l : List (Nat × Hd)) (D : Nat -> Prop) (Pr : Fld -> Prop) (m : MM) (C : Nat -> List Fld) (val : Fld -> Int) : Prop where
 ls : LS (qn W0 R0 l) (hd0W W0) m C val
 c1 : ∀ q, qn W0 R0 l q -> ∀ f ∈ C q, Pr f /\ ∃ w, V0 W0 R0 f = some w /\ yL w = 5 /\ yI w = (q : Nat)
 c2 : ∀ q, D q -> ∀ f ∈ C q, f.1 = false /\ q < f.2
 v1 : ∀ f w, Pr f -> V0 W0 R0 f = some w -> (∀ q, qn W0 R0 l q -> f ∉ C q) -> val f = mvW W0 R0 l w
 v2 : ∀ f w, ¬ Pr f -> V0 W0 R0 f = some w -> val f = w
 t4 : ∀ f w (q : Nat), Pr f -> V0 W0 R0 f = some w -> yL w = 5 -> yI w = q -> ¬ D q -> f ∈ C q
 l1 : m.1.length = W0.length
 l2 : m.2.length = R0.length
 pr : ∀ f, Pr f -> gp W0 R0 l f
 dl : ∀ q, D q -> qn W0 R0 l q
theorem UpI.start (so : SoundW W0 R0 l) : UpI W0 R0 l (fun _ => False) (fun _ => False) (W0, R0) (fun _ => []) (fun f => (V0 W0 R0 f).getD 0) := by
 refine ⟨⟨fun p hp => ?_, fun p _ pre f rest e => (by simp at e), fun f y hy _ _ => (by show y = (V0 W0 R0 f).getD 0; rw [show V0 W0 R0 f = some y from hy]; rfl), fun p _ f hf => (by cases hf), fun p _ => .nil, fun p q _ _ _ f hf => (by cases hf)⟩, fun q _ f hf => (by cases hf), fun q hq => hq.elim, fun f w h => h.elim, fun f w _ h => (by show (V0 W0 R0 f).getD 0 = w; rw [h]; rfl), fun f w q h => h.elim, rfl, rfl, fun f h => h.elim, fun q h => h.elim⟩
 obtain ⟨x, hx⟩ := hp
 obtain ⟨j, w, e, hw, _⟩ := yJ (so.objs.mem _ (yQ hx)).2
 have e : ((p : Nat) : Int) = j := e
 have : p = j := by omega
 subst this
 show W0[p]? = some (hd0W W0 p)
 unfold hd0W
 rw [hw]; rfl
variable {D : Nat -> Prop} {Pr : Fld -> Prop} {m : MM} {C : Nat -> List Fld} {val : Fld -> Int}
theorem hd_tag (so : SoundW W0 R0 l) {p : Nat} (hp : qn W0 R0 l p) : yL (hd0W W0 p) ≠ 7 := by
 obtain ⟨x, hx⟩ := hp
 obtain ⟨j, w, e, hw, hr, _⟩ := yJ (so.objs.mem _ (yQ hx)).2
 have e : ((p : Nat) : Int) = j := e
 have : p = j := by omega
 subst this
 unfold hd0W
 rw [hw]
 have := (read_ok hr).2
 show yL w ≠ 7
 omega
theorem UpI.loose (so : SoundW W0 R0 l) (u : UpI W0 R0 l D Pr m C val) {p : Nat} (hp : qn W0 R0 l p) :
  ChainM p (newPos (zX W0 l R0) p) (C p) m /\ UpI W0 R0 l (fun q => q = p \/ D q) Pr (jB p (newPos (zX W0 l R0) p) (C p) m) (upd C p []) (fun g => if g ∈ C p then jQ (newPos (zX W0 l R0) p) else val g) := by
 obtain ⟨h1, h2⟩ := LS.loose (P := qn W0 R0 l) (hd := hd0W W0) (p := p) (fun q hq => hd_tag so hq) (to := newPos (zX W0 l R0) p) hp rfl u.ls
 have sub : ∀ q, ∀ g ∈ upd C p [] q, q ≠ p /\ g ∈ C q := fun q g hg => by
  by_cases e : q = p
  ·subst e; rw [yW] at hg; cases hg
  ·rw [jL e] at hg; exact ⟨e, hg⟩
 have hl := looseM_len (p := p) (to := newPos (zX W0 l R0) p) (C p) m
 refine ⟨h1, h2, fun q hq f hf => u.c1 q hq f (sub q f hf).2, fun q hq f hf => ?_, fun f w hf hw hno => ?_, fun f w hf hw => ?_, fun f w q hf hw ht hv hD => ?_, hl.1.trans u.l1, hl.2.trans u.l2, u.pr, fun q hq => ?_⟩
 ·obtain ⟨e, hf⟩ := sub q f hf
  rcases hq with h | h
  ·exact absurd h e
  ·exact u.c2 q h f hf
 ·by_cases hC : f ∈ C p
  ·rw [if_pos hC]
   obtain ⟨_, w', hw', ht, hv⟩ := u.c1 p hp f hC
   rw [hw] at hw'; cases hw'
   unfold mvW
   rw [if_pos ht, hv]; rfl
  ·rw [if_neg hC]
   refine u.v1 f w hf hw fun q hq hfq => ?_
   by_cases e : q = p
   ·subst e; exact hC hfq
   ·exact hno q hq (by rw [jL e]; exact hfq)
 ·rw [if_neg (fun h => hf (u.c1 p hp f h).1)]
  exact u.v2 f w hf hw
 ·have hne : q ≠ p := fun e => hD (.inl e)
  rw [jL hne]
  exact u.t4 f w q hf hw ht hv fun h => hD (.inr h)
 ·rcases hq with rfl | h
  ·exact hp
  ·exact u.dl q h
theorem UpI.at (so : SoundW W0 R0 l) (u : UpI W0 R0 l D Pr m C val) {f : Fld} {w : Int} (hf : gp W0 R0 l f) (hPr : ¬ Pr f) (hw : V0 W0 R0 f = some w) : qm m f = some w /\ (f.1 = false -> ¬ qn W0 R0 l f.2) /\ ∀ q, qn W0 R0 l q -> f ∉ C q := by
 have h1 : f.1 = false -> ¬ qn W0 R0 l f.2 := fun hb => by
  obtain ⟨b, i⟩ := f
  simp only at hb; subst hb
  exact gC so hf
 have h2 : ∀ q, qn W0 R0 l q -> f ∉ C q := fun q hq h => hPr (u.c1 q hq f h).1
 obtain ⟨y, hy⟩ := mget_len (m' := m) u.l1.symm u.l2.symm (show qm (W0, R0) f = some w from hw)
 have := u.ls.plain f y hy h1 h2
 rw [u.v2 f w hPr hw] at this
 subst this
 exact ⟨hy, h1, h2⟩
theorem UpI.thread (so : SoundW W0 R0 l) (u : UpI W0 R0 l D Pr m C val) {f : Fld} {w : Int} {q : Nat} (hf : gp W0 R0 l f) (hPr : ¬ Pr f) (hw : V0 W0 R0 f = some w) (ht : yL w = 5) (hv : yI w = (q : Nat)) (hD : ∀ d, D d -> f.1 = false /\ d < f.2) :
  qm m (false, q) = some (enc (hd0W W0) q (C q)) /\ f ≠ (false, q) /\ UpI W0 R0 l D (fun g => g = f \/ Pr g) (qw (qw m f (enc (hd0W W0) q (C q))) (false, q) (gY f.1 f.2)) (upd C q (f :: C q)) val := by
 obtain ⟨h0, h1, h2⟩ := u.at so hf hPr hw
 obtain ⟨w', hw', hlive, _⟩ := fld_val so hf
 rw [hw] at hw'; cases hw'
 obtain ⟨q', hq', hL⟩ := hlive ht
 have : q' = q := by omega
 subst this
 refine ⟨u.ls.head q' hL, fun e => by subst e; exact h1 rfl hL, u.ls.thread hL h0 h1 h2, fun r hr g hg => ?_, fun r hr g hg => ?_, fun g z hg hz hno => ?_, fun g z hg hz => u.v2 g z (fun h => hg (.inr h)) hz, fun g z r hg hz ht' hv' hDr => ?_, ?_, ?_, fun g hg => ?_, u.dl⟩
 ·by_cases e : r = q'
  ·subst e
   rw [yW] at hg
   rcases zl hg with rfl | h
   ·exact ⟨.inl rfl, w, hw, ht, hv⟩
   ·exact ⟨.inr (u.c1 r hr g h).1, (u.c1 r hr g h).2⟩
  ·rw [jL e] at hg
   exact ⟨.inr (u.c1 r hr g hg).1, (u.c1 r hr g hg).2⟩
 ·by_cases e : r = q'
  ·subst e
   rw [yW] at hg
   rcases zl hg with rfl | h
   ·exact hD r hr
   ·exact u.c2 r hr g h
  ·rw [jL e] at hg
   exact u.c2 r hr g hg
 ·rcases hg with rfl | hg
  ·exact absurd (by rw [yW]; exact zq ..) (hno q' hL)
  ·refine u.v1 g z hg hz fun r hr hgr => ?_
   by_cases e : r = q'
   ·subst e; exact hno r hr (by rw [yW]; exact zg _ hgr)
   ·exact hno r hr (by rw [jL e]; exact hgr)
 ·rcases hg with rfl | hg
  ·rw [hw] at hz; cases hz
   have : r = q' := by omega
   subst this
   rw [yW]; exact zq ..
  ·have := u.t4 g z r hg hz ht' hv' hDr
   by_cases e : r = q'
   ·subst e; rw [yW]; exact zg _ this
   ·rw [jL e]; exact this
 ·rw [(qT _ _ _).1, (qT _ _ _).1]; exact u.l1
 ·rw [(qT _ _ _).2, (qT _ _ _).2]; exact u.l2
 ·rcases hg with rfl | hg
  ·exact hf
  ·exact u.pr g hg
theorem UpI.skip (so : SoundW W0 R0 l) (u : UpI W0 R0 l D Pr m C val) {f : Fld} {w : Int} (hf : gp W0 R0 l f) (hPr : ¬ Pr f) (hw : V0 W0 R0 f = some w) (ht : yL w ≠ 5) : UpI W0 R0 l D (fun g => g = f \/ Pr g) m C val := by
 refine ⟨u.ls, fun q hq g hg => ⟨.inr (u.c1 q hq g hg).1, (u.c1 q hq g hg).2⟩, u.c2, fun g z hg hz hno => ?_, fun g z hg hz => u.v2 g z (fun h => hg (.inr h)) hz, fun g z q hg hz ht' hv' hD => ?_, u.l1, u.l2, fun g hg => ?_, u.dl⟩
 ·rcases hg with rfl | hg
  ·rw [hw] at hz; cases hz
   rw [u.v2 g w hPr hw]
   unfold mvW
   rw [if_neg ht]
  ·exact u.v1 g z hg hz hno
 ·rcases hg with rfl | hg
  ·rw [hw] at hz; cases hz; exact absurd ht' ht
  ·exact u.t4 g z q hg hz ht' hv' hD
 ·rcases hg with rfl | hg
  ·exact hf
  ·exact u.pr g hg
theorem UpI.congr {D' : Nat -> Prop} {Pr' : Fld -> Prop} (u : UpI W0 R0 l D Pr m C val) (hD : ∀ q, D q ↔ D' q) (hP : ∀ f, Pr f ↔ Pr' f) : UpI W0 R0 l D' Pr' m C val := by
 have e1 : D = D' := funext fun q => propext (hD q)
 have e2 : Pr = Pr' := funext fun q => propext (hP q)
 rw [<- e1, <- e2]; exact u
theorem UpI.short (u : UpI W0 R0 l D Pr m C val) {p : Nat} (hp : qn W0 R0 l p) : (C p).length <= m.1.length + m.2.length /\ ∀ f ∈ C p, f.2 < m.1.length \/ f.2 < m.2.length := by
 have hb : ∀ f ∈ C p, f ∈ (List.range m.1.length).map (fun i => ((false, i) : Fld)) ++ (List.range m.2.length).map fun i => ((true, i) : Fld) := fun f hf => by
  obtain ⟨y, hy⟩ := u.ls.bound hp hf
  obtain ⟨b, i⟩ := f
  have := kY hy
  cases b with
  | false => exact zh _ (List.mem_map.2 ⟨i, List.mem_range.2 (this.1 rfl), rfl⟩)
  | true => exact zi _ (List.mem_map.2 ⟨i, List.mem_range.2 (this.2 rfl), rfl⟩)
 refine ⟨?_, fun f hf => ?_⟩
 ·have := List.Nodup.length_le_of_subset (u.ls.nodup p hp) hb
  simpa using this
 ·rcases zk (hb f hf) with h | h
  ·obtain ⟨i, hi, rfl⟩ := List.mem_map.1 h
   exact .inl (List.mem_range.1 hi)
  ·obtain ⟨i, hi, rfl⟩ := List.mem_map.1 h
   exact .inr (List.mem_range.1 hi)
end
open Go.Ab
section
variable (W0 R0 : List Int) (l : List (Nat × Hd))
noncomputable def finW (i : Nat) : Int := @ite _ (gp W0 R0 l (false, i)) (Classical.propDecidable _) (mvW W0 R0 l ((W0[i]?).getD 0)) ((W0[i]?).getD 0)
noncomputable def gM (o : Nat × Hd) : List Int := (List.range (1 + o.2.size.toNat)).map fun k => finW W0 R0 l (o.1 + k)
noncomputable def yh (L : List (Nat × Hd)) : List Int := L.flatMap (gM W0 R0 l)
end
section
variable {W0 R0 : List Int} {l : List (Nat × Hd)}
theorem finW_fld {i : Nat} {w : Int} (h : gp W0 R0 l (false, i)) (hw : W0[i]? = some w) : finW W0 R0 l i = mvW W0 R0 l w := by
 unfold finW
 rw [if_pos h, hw]; rfl
theorem finW_no {i : Nat} {w : Int} (h : ¬ gp W0 R0 l (false, i)) (hw : W0[i]? = some w) : finW W0 R0 l i = w := by
 unfold finW
 rw [if_neg h, hw]; rfl
theorem qj (o : Nat × Hd) : (gM W0 R0 l o).length = 1 + o.2.size.toNat := by simp [gM]
theorem gc : ∀ {done todo : List (Nat × Hd)} {p : Nat} {x : Hd}, ((done ++ (p, x) :: todo).map Prod.fst).Pairwise (· < ·) -> newPos (done ++ (p, x) :: todo) p = (yh W0 R0 l done).length
 | [], todo, p, x, h => by simp [newPos, yh]
 | (q, y) :: done, todo, p, x, h => by
  obtain ⟨h1, h2⟩ := List.pairwise_cons.1 (show ((q :: ((done ++ (p, x) :: todo).map Prod.fst)).Pairwise (· < ·)) from h)
  have hq : q < p := h1 p (by simp)
  have ih := gc h2
  show (if q < p then 1 + y.size.toNat + newPos (done ++ (p, x) :: todo) p else 0) = _
  rw [if_pos hq, ih]
  simp only [yh, List.flatMap_cons, zr, qj]
theorem LS.tail {P P' : Nat -> Prop} {hd : Nat -> Int} {m m' : MM} {C : Nat -> List Fld} {val : Fld -> Int} {cur : Nat} (s : LS P hd m C val) (hP : ∀ p, P' p -> P p /\ cur <= p) (hP2 : ∀ p, P p -> cur <= p -> P' p) (h0 : ∀ p, P p -> ¬ P' p -> C p = [])
  (hC : ∀ p, P' p -> ∀ f ∈ C p, f.1 = false /\ cur <= f.2) (hm : ∀ f : Fld, (f.1 = false -> cur <= f.2) -> qm m' f = qm m f) :
  LS P' hd m' C (fun f => if f.1 = false -> cur <= f.2 then val f else (qm m' f).getD 0) := by
 refine ⟨fun p hp => ?_, fun p hp pre f rest e => ?_, fun f y hy h1 h2 => ?_, fun p hp f hf h1 h2 => s.hdr p (hP p hp).1 f hf h1 (hP _ h2).1, fun p hp => s.nodup p (hP p hp).1, fun p q hp hq => s.disj p q (hP p hp).1 (hP q hq).1⟩
 ·rw [hm _ fun _ => (hP p hp).2]; exact s.head p (hP p hp).1
 ·have := hC p hp f (by rw [e]; exact zi _ (zq ..))
  rw [hm _ fun _ => this.2]; exact s.link p (hP p hp).1 pre f rest e
 ·by_cases hl : f.1 = false -> cur <= f.2
  ·show y = if _ then _ else _
   rw [if_pos hl]
   rw [hm _ hl] at hy
   refine s.plain f y hy (fun hb hPf => h1 hb (hP2 _ hPf (hl hb))) fun p hp => ?_
   by_cases hp' : P' p
   ·exact h2 p hp'
   ·rw [h0 p hp hp']; exact fun h => by cases h
  ·show y = if _ then _ else _
   rw [if_neg hl, hy]; rfl
structure DnI (W0 R0 : List Int) (l : List (Nat × Hd)) (cur : Nat) (m : MM) (C : Nat -> List Fld) (val : Fld -> Int) : Prop where
 ls : LS (fun p => qn W0 R0 l p /\ cur <= p) (hd0W W0) m C val
 d1 : ∀ q, qn W0 R0 l q -> cur <= q -> ∀ f ∈ C q, f.1 = false /\ q < f.2 /\ gp W0 R0 l f /\ ∃ w, V0 W0 R0 f = some w /\ yL w = 5 /\ yI w = (q : Nat)
 d2 : ∀ i, cur <= i -> i < W0.length -> ¬ qn W0 R0 l i -> (∀ q, qn W0 R0 l q -> cur <= q -> (false, i) ∉ C q) -> val (false, i) = finW W0 R0 l i
 d5 : ∀ j w, R0[j]? = some w -> val (true, j) = mvW W0 R0 l w
 l1 : m.1.length = W0.length
 l2 : m.2.length = R0.length
theorem DnI.start {D : Nat -> Prop} {Pr : Fld -> Prop} {m : MM} {C : Nat -> List Fld} {val : Fld -> Int} (so : SoundW W0 R0 l) (u : UpI W0 R0 l D Pr m C val) (hD : ∀ q, qn W0 R0 l q -> D q) (hP : ∀ f, gp W0 R0 l f -> Pr f) : DnI W0 R0 l 0 m C val := by
 refine ⟨?_, fun q hq _ f hf => ?_, fun i _ hi hL hno => ?_, fun j w hw => ?_, u.l1, u.l2⟩
 ·have e : (fun p => qn W0 R0 l p /\ 0 <= p) = qn W0 R0 l := funext fun p => propext ⟨fun h => h.1, fun h => ⟨h, Nat.zero_le _⟩⟩
  rw [e]; exact u.ls
 ·have h1 := u.c2 q (hD q hq) f hf
  have h2 := u.c1 q hq f hf
  exact ⟨h1.1, h1.2, u.pr f h2.1, h2.2⟩
 ·obtain ⟨w, hw⟩ : ∃ w, W0[i]? = some w := ⟨_, zp hi⟩
  by_cases hf : gp W0 R0 l (false, i)
  ·rw [finW_fld hf hw]
   exact u.v1 _ w (hP _ hf) hw fun q hq => hno q hq (Nat.zero_le _)
  ·rw [finW_no hf hw]
   exact u.v2 _ w (fun h => hf (u.pr _ h)) hw
 ·refine u.v1 _ w (hP _ (.inl ⟨rfl, (zj hw).1⟩)) hw fun q hq hf => ?_
  have := (u.c2 q (hD q hq) _ hf).1
  cases this
variable {cur : Nat} {m : MM} {C : Nat -> List Fld} {val : Fld -> Int}
theorem DnI.loose (so : SoundW W0 R0 l) (u : DnI W0 R0 l cur m C val) {p : Nat} {x : Hd} (hp : (p, x) ∈ zX W0 l R0) (hcur : cur <= p) (hnext : ∀ q, qn W0 R0 l q -> cur <= q -> p <= q) :
  ChainM p (newPos (zX W0 l R0) p) (C p) m /\ DnI W0 R0 l cur (jB p (newPos (zX W0 l R0) p) (C p) m) (upd C p []) (fun g => if g ∈ C p then jQ (newPos (zX W0 l R0) p) else val g) /\
   ∀ k, k < 1 + x.size.toNat -> (jB p (newPos (zX W0 l R0) p) (C p) m).1[p + k]? = some (finW W0 R0 l (p + k)) := by
 have hLp : qn W0 R0 l p := ⟨x, hp⟩
 obtain ⟨h1, h2⟩ := LS.loose (P := fun p => qn W0 R0 l p /\ cur <= p) (hd := hd0W W0) (p := p) (fun q hq => hd_tag so hq.1) (to := newPos (zX W0 l R0) p) ⟨hLp, hcur⟩ rfl u.ls
 have sub : ∀ q, ∀ g ∈ upd C p [] q, q ≠ p /\ g ∈ C q := fun q g hg => by
  by_cases e : q = p
  ·subst e; rw [yW] at hg; cases hg
  ·rw [jL e] at hg; exact ⟨e, hg⟩
 have hl := looseM_len (p := p) (to := newPos (zX W0 l R0) p) (C p) m
 have hdn : DnI W0 R0 l cur (jB p (newPos (zX W0 l R0) p) (C p) m) (upd C p []) (fun g => if g ∈ C p then jQ (newPos (zX W0 l R0) p) else val g) := by
  refine ⟨h2, fun q hq hc f hf => u.d1 q hq hc f (sub q f hf).2, fun i hi hlt hL hno => ?_, fun j w hw => ?_, hl.1.trans u.l1, hl.2.trans u.l2⟩
  ·by_cases hC : ((false, i) : Fld) ∈ C p
   ·rw [if_pos hC]
    obtain ⟨_, _, hf, w, hw, ht, hv⟩ := u.d1 p hLp hcur _ hC
    rw [finW_fld hf hw]
    unfold mvW
    rw [if_pos ht, hv]; rfl
   ·rw [if_neg hC]
    refine u.d2 i hi hlt hL fun q hq hc hf => ?_
    by_cases e : q = p
    ·subst e; exact hC hf
    ·exact hno q hq hc (by rw [jL e]; exact hf)
  ·rw [if_neg (fun h => by have := (u.d1 p hLp hcur _ h).1; cases this)]
   exact u.d5 j w hw
 refine ⟨h1, hdn, fun k hk => ?_⟩
 obtain ⟨j, w0, e, hw0, hr, hsz, hok⟩ := yJ (so.objs.mem _ (yQ hp)).2
 have e : ((p : Nat) : Int) = j := e
 have hsz : (j : Int) + 1 + x.size <= W0.length := hsz
 unfold okH at hok
 have hok : 0 <= x.kind /\ x.kind <= 3 /\ 0 <= x.size /\ x.size < 1048576 /\ 0 <= x.tree /\ x.tree < 1048576 := hok
 have hjp : j = p := by omega
 subst hjp
 have hlt : j + k < W0.length := by omega
 cases k with
 | zero =>
  have := h2.head j ⟨hLp, hcur⟩
  rw [yW] at this
  have hn : ¬ gp W0 R0 l (false, j) := fun h => gC so h hLp
  rw [Nat.add_zero, finW_no hn hw0]
  have h3 : (jB j (newPos (zX W0 l R0) j) (C j) m).1[j]? = some (hd0W W0 j) := this
  rw [h3]
  unfold hd0W
  rw [hw0]; rfl
 | succ k =>
  obtain ⟨y, hy⟩ : ∃ y, (jB j (newPos (zX W0 l R0) j) (C j) m).1[j + (k + 1)]? = some y := ⟨_, zp (by rw [hl.1, u.l1]; exact hlt)⟩
  have hnl : ¬ qn W0 R0 l (j + (k + 1)) := by
   rintro ⟨z, hz⟩
   have := so.objs.apart (yQ hp) (yQ hz) (by omega)
   omega
  have hnc : ∀ q, qn W0 R0 l q -> cur <= q -> ((false, j + (k + 1)) : Fld) ∉ upd C j [] q := fun q hq hc hf => by
   obtain ⟨hne, hf⟩ := sub q _ hf
   have hlt2 := (u.d1 q hq hc _ hf).2.1
   have hlt2 : q < j + (k + 1) := hlt2
   have hge := hnext q hq hc
   obtain ⟨z, hz⟩ := hq
   have := so.objs.apart (yQ hp) (yQ hz) (by omega)
   omega
  rw [hy, <- hdn.d2 (j + (k + 1)) (by omega) hlt hnl hnc]
  congr 1
  exact h2.plain _ y hy (fun _ h => hnl h.1) fun q hq => hnc q hq.1 hq.2
def j8 (W : List Int) (p to n : Nat) : List Int := W.take to ++ (W.drop p).take n ++ W.drop (to + n)
theorem moveW_len {W : List Int} {p to n : Nat} (h1 : to <= p) (h2 : p + n <= W.length) : (j8 W p to n).length = W.length := by
 simp only [j8, zr, List.length_take, List.length_drop]; omega
theorem moveW_lo {W : List Int} {p to n i : Nat} (h1 : to <= p) (h2 : p + n <= W.length) (hi : i < to) : (j8 W p to n)[i]? = W[i]? := by
 unfold j8
 rw [List.append_assoc, List.getElem?_append_left (by rw [List.length_take]; omega), List.getElem?_take, if_pos hi]
theorem moveW_mid {W : List Int} {p to n i : Nat} (h1 : to <= p) (h2 : p + n <= W.length) (hi : i < n) : (j8 W p to n)[to + i]? = W[p + i]? := by
 unfold j8
 rw [List.append_assoc, List.getElem?_append_right (by rw [List.length_take]; omega), List.length_take, Nat.min_eq_left (by omega), List.getElem?_append_left (by rw [List.length_take, List.length_drop]; omega), List.getElem?_take, if_pos (by omega), List.getElem?_drop]
 congr 1; omega
theorem moveW_hi {W : List Int} {p to n i : Nat} (h1 : to <= p) (h2 : p + n <= W.length) (hi : to + n <= i) : (j8 W p to n)[i]? = W[i]? := by
 unfold j8
 rw [List.getElem?_append_right (by simp only [zr, List.length_take, List.length_drop]; omega), List.getElem?_drop]
 congr 1
 simp only [zr, List.length_take, List.length_drop]; omega
theorem DnI.move (so : SoundW W0 R0 l) (u : DnI W0 R0 l cur m C val) {p to : Nat} {x : Hd} (hp : (p, x) ∈ zX W0 l R0) (hcur : cur <= p) (hnext : ∀ q, qn W0 R0 l q -> cur <= q -> p <= q) (hC : C p = []) (hto : to <= p) :
  ∃ val', DnI W0 R0 l (p + (1 + x.size.toNat)) (j8 m.1 p to (1 + x.size.toNat), m.2) C val' := by
 obtain ⟨j, w0, e, hw0, hr, hsz, hok⟩ := yJ (so.objs.mem _ (yQ hp)).2
 have e : ((p : Nat) : Int) = j := e
 have hsz : (j : Int) + 1 + x.size <= W0.length := hsz
 unfold okH at hok
 have hok : 0 <= x.kind /\ x.kind <= 3 /\ 0 <= x.size /\ x.size < 1048576 /\ 0 <= x.tree /\ x.tree < 1048576 := hok
 have hpn : p + (1 + x.size.toNat) <= m.1.length := by rw [u.l1]; omega
 have hm : ∀ f : Fld, (f.1 = false -> p + (1 + x.size.toNat) <= f.2) -> qm (j8 m.1 p to (1 + x.size.toNat), m.2) f = qm m f := fun f hf => by
  obtain ⟨b, i⟩ := f
  cases b with
  | false => exact moveW_hi hto hpn (by have := hf rfl; simp only at this; omega)
  | true => rfl
 have t := u.ls.tail (P' := fun q => qn W0 R0 l q /\ p + (1 + x.size.toNat) <= q) (m' := (j8 m.1 p to (1 + x.size.toNat), m.2)) (cur := p + (1 + x.size.toNat)) (fun q hq => ⟨⟨hq.1, by omega⟩, hq.2⟩) (fun q hq h => ⟨hq.1, h⟩) (fun q hq hn => ?_) (fun q hq f hf => ?_) hm
 ·refine ⟨_, t, fun q hq hc f hf => u.d1 q hq (by omega) f hf, fun i hi hlt hL hno => ?_, fun j w hw => ?_, (moveW_len hto hpn).trans u.l1, u.l2⟩
  ·show (if _ then _ else _) = _
   rw [if_pos (fun _ => hi)]
   refine u.d2 i (by omega) hlt hL fun q hq hc hf => ?_
   rcases Nat.lt_or_ge q (p + (1 + x.size.toNat)) with h | h
   ·have hge := hnext q hq hc
    obtain ⟨z, hz⟩ := hq
    have : q = p := by
     rcases Nat.lt_or_ge p q with h' | h'
     ·have := so.objs.apart (yQ hp) (yQ hz) h'; omega
     ·omega
    subst this
    rw [hC] at hf; cases hf
   ·exact hno q hq h hf
  ·show (if _ then _ else _) = _
   rw [if_pos (fun h => by cases h)]
   exact u.d5 j w hw
 ·have hge := hnext q hq.1 hq.2
  have hlt : q < p + (1 + x.size.toNat) := by
   rcases Nat.lt_or_ge q (p + (1 + x.size.toNat)) with h | h
   ·exact h
   ·exact absurd ⟨hq.1, h⟩ hn
  obtain ⟨z, hz⟩ := hq.1
  have : q = p := by
   rcases Nat.lt_or_ge p q with h' | h'
   ·have := so.objs.apart (yQ hp) (yQ hz) h'; omega
   ·omega
  subst this
  exact hC
 ·have := u.d1 q hq.1 (by omega) f hf
  exact ⟨this.1, by have := this.2.1; omega⟩
end
open Go.Ab
theorem hd_len (x : Hd) : (hdV x).length = 4 := rfl
structure SlAt (h : HH) (c a sn : Nat) (vW vR vL vH : V) (m : MM) (size : Int) (L : List (Nat × Hd)) (hs : List Hd) : Prop where
 mem : Mem h c a vW vR m.1 m.2 size
 obj : MapI.get h sn = some (.cells true true [.ptr (some (a, 0)), vR, vL, vH])
 ll : ListOf 1 yG h c vL (places L)
 hh : RowOf 4 hdV h c vH hs
 ls : sn < c
 s1 : ∀ n ∈ mn a vW vR, n ≠ sn /\ n ∉ zS vL /\ n ∉ zS vH
 s2 : sn ∉ zS vL /\ sn ∉ zS vH
 s3 : ∀ n ∈ zS vL, n ∉ zS vH
section
variable {h h' : HH} {c c' a sn : Nat} {vW vR vL vH : V} {m m' : MM} {size : Int} {L : List (Nat × Hd)} {hs : List Hd}
theorem SlAt.mems (s : SlAt h c a sn vW vR vL vH m size L hs) (r : Mem h' c' a vW vR m'.1 m'.2 size) (hc : c <= c') (hf : ∀ n, n < c -> n ∉ mn a vW vR -> MapI.get h' n = MapI.get h n) : SlAt h' c' a sn vW vR vL vH m' size L hs :=
 ⟨r, by rw [hf sn s.ls (fun hm => (s.s1 sn hm).1 rfl)]; exact s.obj, s.ll.keep hc fun n hn hm => hf n hn fun h => (s.s1 n h).2.1 hm, s.hh.keep hc fun n hn hm => hf n hn fun h => (s.s1 n h).2.2 hm, Nat.lt_of_lt_of_le s.ls hc, s.s1, s.s2, s.s3⟩
theorem SlAt.same (s : SlAt h c a sn vW vR vL vH m size L hs) (hc : c <= c') (hf : ∀ n, n < c -> MapI.get h' n = MapI.get h n) : SlAt h' c' a sn vW vR vL vH m size L hs := s.mems (s.mem.same hc hf) hc fun n hn _ => hf n hn
abbrev sln (a sn : Nat) (vW vR vL vH : V) : List Nat := sn :: (mn a vW vR ++ (zS vL ++ zS vH))
theorem moveW_set {W : List Int} {p to k : Nat} {w : Int} (h1 : to <= p) (h2 : p + (k + 1) <= W.length) (hw : W[p + k]? = some w) : (j8 W p to k).set (to + k) w = j8 W p to (k + 1) := by
 refine List.ext_getElem? fun i => ?_
 by_cases e : to + k = i
 ·subst e
  rw [moveW_mid h1 (by omega) (Nat.lt_succ_self k), List.getElem?_set_self (by rw [moveW_len h1 (by omega)]; omega), hw]
 ·rw [List.getElem?_set_ne e]
  rcases Nat.lt_or_ge i to with h | h
  ·rw [moveW_lo h1 (by omega) h, moveW_lo h1 (by omega) h]
  ·rcases Nat.lt_or_ge i (to + k) with h' | h'
   ·obtain ⟨j, rfl⟩ : ∃ j, i = to + j := ⟨i - to, by omega⟩
    rw [moveW_mid h1 (by omega) (by omega), moveW_mid h1 (by omega) (by omega)]
   ·rw [moveW_hi h1 (by omega) h', moveW_hi h1 (by omega) (by omega)]
theorem move_ok {p to n : Nat} (s : SlAt h c a sn vW vR vL vH m size L hs) (h1 : to <= p) (h2 : p + n <= m.1.length) :
  Does 96 [.ptr (some (sn, 0)), I p, I to, I n] h c (sn :: mn a vW vR) fun v h' c' => SlAt h' c' a sn vW vR vL vH (j8 m.1 p to n, m.2) size L hs := by
 have hlw := s.mem.lenW
 have hsub : ∀ x ∈ an a vW, x ∈ sn :: mn a vW vR \/ c <= x := fun x hx => .inl (zg _ (zh _ hx))
 refine yi (enter (fn := Tryz.f96) Tryz.func96 rfl rfl (zf rfl) ?_)
 repeat' (first | apply zw | apply zx | apply zB | apply zK | refine za rfl rfl (fun _ => rfl) ?_)
 refine zI ?_
 refine zQ (X := Nat) (fun k e' h' c' => (∃ b0, e' = FR b0 [(0, V.ptr (some (sn, 0))), (1, I p), (2, I to), (11, I n), (12, I k)]) /\ k <= n /\ SlAt h' c' a sn vW vR vL vH (j8 m.1 p to k, m.2) size L hs /\ c <= c')
  (fun k => n - k) ?_ 0 _ _ _ ⟨fr ⟨rfl, rfl, rfl, rfl, rfl, trivial⟩, Nat.zero_le _, (by have : j8 m.1 p to 0 = m.1 := (by simp [j8]); rw [this]; exact s), Nat.le_refl _⟩
 rintro k e' h' c' ⟨⟨b0, rfl⟩, hk, s', hc⟩
 have hobj := s'.obj
 repeat' (first | apply zw | apply zx | apply zK | refine za rfl rfl (fun _ => rfl) ?_)
 refine zH rfl (fun hlt => ?_) (fun hge => ?_)
 case refine_2 =>
  have hge : n <= k := by simpa using hge
  have : k = n := by omega
  subst this
  repeat' (first | apply zF | refine ji ?_ | refine jr rfl ?_)
  exact gg rfl s'
 have hlt : k < n := by simpa using hlt
 obtain ⟨w, hw⟩ : ∃ w, m.1[p + k]? = some w := ⟨_, zp (by omega)⟩
 have hw' : (j8 m.1 p to k)[p + k]? = some w := by rw [moveW_hi h1 (by omega) (by omega)]; exact hw
 have hwok : okW w := s.mem.ar.ok w (zo hw)
 have wa : IntKind.i64.wrap ((p : Int) + (k : Int)) = ((p + k : Nat) : Int) := by rw [Go.IntWalk.i64_in _ (by omega)]; omega
 have wb : IntKind.i64.wrap ((to : Int) + (k : Int)) = ((to + k : Nat) : Int) := by rw [Go.IntWalk.i64_in _ (by omega)]; omega
 have wk : IntKind.i64.wrap ((k : Int) + 1) = ((k + 1 : Nat) : Int) := by rw [Go.IntWalk.i64_in _ (by omega)]; omega
 repeat' (first | apply zw | apply zx | apply zz | apply zB | apply zK | refine za rfl rfl (fun _ => rfl) ?_ | refine zL rfl rfl (zW rfl rfl rfl hobj rfl ⟨(by simp [zc] <;> omega), ?_⟩))
 refine zL rfl rfl (yg rfl (ku s'.mem.ar wa hw') hsub (by omega) fun v4 h4 c4 hc4 hf4 hq => ?_)
 obtain ⟨rfl, rfl, rfl⟩ := hq
 repeat' (first | apply zx | apply zK | refine za rfl rfl (fun _ => rfl) ?_ | refine zL rfl rfl (zW rfl rfl rfl hobj rfl ⟨(by simp [zc] <;> omega), ?_⟩))
 refine zL rfl rfl (yj rfl (set_ok s'.mem.ar wb (by rw [moveW_len h1 (by omega)]; omega) hwok) hsub (by omega) fun v5 h5 c5 hc5 hf5 hq => ?_)
 obtain ⟨rfl, rfl, hA, _⟩ := hq
 have r5 : Mem h5 c' a vW vR (j8 m.1 p to (k + 1), m.2).1 (j8 m.1 p to (k + 1), m.2).2 size := ⟨by rw [<- moveW_set h1 (by omega) hw]; exact hA, s'.mem.rr.keep (Nat.le_refl _) fun x hx hm => hf5 x hx fun hh => (by
  rcases zl hh with h | h
  ·exact (s.mem.sep x hm).1 h
  ·exact (s.mem.sep x hm).2 h), s.mem.sep, s.mem.ok, s.mem.len⟩
 have s5 := s'.mems r5 (Nat.le_refl _) fun x hx hm => hf5 x hx fun hh => hm (zh _ hh)
 repeat' (first | apply zx | apply zK | refine za rfl rfl (fun _ => rfl) ?_ | refine zU ?_)
 refine ⟨k + 1, by omega, ?_, by omega, s5, by omega⟩
 rw [wk]
 exact fr ⟨rfl, rfl, rfl, rfl, rfl, trivial⟩
def yY (W : List Int) (o : Nat × Hd) : List Int :=
 match W[o.1 + 1]? with
 | some w => if o.2.kind = 3 /\ 0 < o.2.size /\ w ≠ 0 then [IntKind.i64.wrap w] else []
 | none => []
noncomputable def yx (W R : List Int) (l : List (Nat × Hd)) (k : List (Nat × Hd)) : List Int := (k.filter fun p => !@decide (Reach W l R p.1) (Classical.propDecidable _)).flatMap (yY W)
theorem gone_live {W R : List Int} {l k : List (Nat × Hd)} {o : Nat × Hd} (h : Reach W l R o.1) : yx W R l (k ++ [o]) = yx W R l k := by
 unfold yx
 rw [List.filter_append, List.flatMap_append, List.filter_cons, List.filter_nil]
 simp [h]
theorem gone_dead {W R : List Int} {l k : List (Nat × Hd)} {o : Nat × Hd} (h : ¬ Reach W l R o.1) : yx W R l (k ++ [o]) = yx W R l k ++ yY W o := by
 unfold yx
 rw [List.filter_append, List.flatMap_append, List.filter_cons, List.filter_nil]
 simp [h]
end
open Go.Ab
section
variable {h h' : HH} {c c' a sn : Nat} {vW vR vL vH : V} {W R : List Int} {size : Int} {l : List (Nat × Hd)} {hs : List Hd}
noncomputable def yz (W R : List Int) (l k : List (Nat × Hd)) : List (Nat × Hd) := k.filter fun p => @decide (Reach W l R p.1) (Classical.propDecidable _)
theorem liveIn_all {W R : List Int} {l : List (Nat × Hd)} : yz W R l l = zX W l R := rfl
theorem qE {W R : List Int} {l a b : List (Nat × Hd)} : yz W R l (a ++ b) = yz W R l a ++ yz W R l b := by simp [yz]
theorem gh {W R : List Int} {l b : List (Nat × Hd)} {o : Nat × Hd} (h : Reach W l R o.1) : yz W R l (o :: b) = o :: yz W R l b := by
 unfold yz; rw [List.filter_cons]; simp [h]
theorem liveIn_no {W R : List Int} {l b : List (Nat × Hd)} {o : Nat × Hd} (h : ¬ Reach W l R o.1) : yz W R l (o :: b) = yz W R l b := by
 unfold yz; rw [List.filter_cons]; simp [h]
set_option maxHeartbeats 1000000 in
theorem gone_ok (s : SlAt h c a sn vW vR vL vH (W, R) size (zX W l R) hs) (so : SoundW W R l) :
  Does 77 [.ptr (some (sn, 0))] h c (sln a sn vW vR vL vH) fun v h' c' => ListOf 1 yG h' c' v (yx W R l l) /\ (∀ n ∈ zS v, c <= n) /\ ∀ n, n < c -> MapI.get h' n = MapI.get h n := by
 have hlw := s.mem.lenW
 have hlw : W.length <= 1048576 := hlw
 have hll := jS so.objs
 have hobj := s.obj
 have hls := s.ls
 have hokW : ∀ x ∈ W, okW x := s.mem.ar.ok
 have hsub : ∀ x ∈ an a vW, x ∈ sln a sn vW vR vL vH \/ c <= x := fun x hx => .inl (zg _ (zh _ (zh _ hx)))
 refine yi (enter (fn := Tryz.f77) Tryz.func77 rfl rfl (zf rfl) ?_)
 repeat' (first | apply zw | apply zx | apply zK | refine za rfl rfl (fun _ => rfl) ?_ | refine zL rfl rfl (zW rfl rfl rfl hobj rfl ⟨(by simp [zc] <;> omega), ?_⟩))
 refine zL rfl rfl (yj rfl (objects_ok s.mem.ar so.objs) hsub (by omega) fun v2 h2 c2 hc2 _ hq => ?_)
 obtain ⟨vA, rfl, hA, hAn, hf2⟩ := hq
 have s2 := s.same hc2 hf2
 have hobj2 := s2.obj
 have hAlt := hA.lt
 have hLlt := s2.ll.lt
 obtain ⟨sA, capA, rfl, hsA⟩ := hA.shape
 have hlenA : (places l).length = l.length := List.length_map _
 rw [hlenA] at hsA hAlt hAn
 repeat' (first | apply zw | apply zx | apply zB | apply zK | refine za rfl rfl (fun _ => rfl) ?_)
 rw [hlenA]
 refine zI ?_
 refine zQ (X := Nat × V) (fun y e' h' c' => (∃ b0, e' = FR b0 [(0, V.ptr (some (sn, 0))), (3, y.2), (4, I (yz W R l (l.take y.1)).length), (21, .slice sA l.length capA), (22, I l.length), (23, I y.1)]) /\ y.1 <= l.length /\ ListOf (0 + 1) yG h' c' y.2 (yx W R l (l.take y.1)) /\ (yx W R l (l.take y.1)).length <= y.1 /\ (∀ n ∈ zS y.2, c2 <= n) /\ c2 <= c' /\ ∀ n, n < c2 -> MapI.get h' n = MapI.get h2 n)
  (fun y => l.length - y.1) ?_ (0, .slice none 0 (.known 0)) _ _ _ ⟨fr ⟨rfl, rfl, rfl, rfl, rfl, rfl, trivial⟩, Nat.zero_le _, .nil, Nat.le_refl _, fun n hn => (by cases hn), Nat.le_refl _, fun _ _ => rfl⟩
 rintro ⟨i, v⟩ e' h' c' ⟨⟨b0, rfl⟩, hi, hv, hgl, hvn, hc', hf'⟩
 simp only at hi hv hvn hgl
 repeat' (first | apply zw | apply zx | apply zK | refine za rfl rfl (fun _ => rfl) ?_)
 refine zH rfl (fun hlt => ?_) (fun hge => ?_)
 case refine_2 =>
  have hge : l.length <= i := by simpa using hge
  rw [List.take_of_length_le hge] at hv
  repeat' (first | apply zw | apply zx | apply zF | apply zG | apply zK | refine za rfl rfl (fun _ => rfl) ?_)
  exact z6 rfl ⟨hv, fun n hn => (by have := hvn n hn; omega), fun n hn => by rw [hf' n (by omega)]; exact hf2 n hn⟩
 have hlt : i < l.length := by simpa using hlt
 obtain ⟨⟨p, x⟩, hx⟩ : ∃ z, l[i]? = some z := ⟨_, zp hlt⟩
 have hxm := zo hx
 have htk : l.take (i + 1) = l.take i ++ [(p, x)] := by rw [List.take_add_one, hx]; rfl
 have hsplit : zX W l R = yz W R l (l.take i) ++ yz W R l ((p, x) :: l.drop (i + 1)) := by
  rw [<- liveIn_all, <- qE]
  congr 1
  have : l.drop i = (p, x) :: l.drop (i + 1) := by
   rw [List.drop_eq_getElem_cons hlt]
   have := (zj hx).2
   rw [this]
  rw [<- this, List.take_append_drop]
 obtain ⟨jj, w', ej, hw', _, hsz, hxok⟩ := yJ (so.objs.mem _ hxm).2
 have ej : ((p : Nat) : Int) = jj := ej
 have hsz : (jj : Int) + 1 + x.size <= W.length := hsz
 unfold okH at hxok
 have hxok : 0 <= x.kind /\ x.kind <= 3 /\ 0 <= x.size /\ x.size < 1048576 /\ 0 <= x.tree /\ x.tree < 1048576 := hxok
 obtain ⟨rfl, sa, cl, junk, rfl, hsa, hg, _⟩ := hsA i hlt
 have hsac : c <= sa := hAn sa (by simp [zS])
 have hg' : MapI.get h' sa = _ := (hf' sa hsa).trans hg
 have hz : nth (flat yG (places l) ++ junk) (0 + ((i : Nat) : Int).toNat * 1) = some (I p) := by
  rw [show 0 + ((i : Nat) : Int).toNat * 1 = i from by simp]
  exact yB je (by rw [List.getElem?_map, hx]; rfl) rfl junk
 have wi : IntKind.i64.wrap ((i : Int) + 1) = ((i + 1 : Nat) : Int) := by rw [Go.IntWalk.i64_in _ (by omega)]; omega
 have hobj' : MapI.get h' sn = some (.cells true true [.ptr (some (a, 0)), vR, vL, vH]) := by rw [hf' sn (by omega)]; exact hobj2
 have hkl : (yz W R l (l.take i)).length <= i := by
  have := List.length_filter_le (fun p => @decide (Reach W l R p.1) (Classical.propDecidable _)) (l.take i)
  rw [List.length_take] at this
  unfold yz; omega
 obtain ⟨sL, capL, hvL, hsL⟩ := s2.ll.shape
 have hlenL : (places (zX W l R)).length = (zX W l R).length := List.length_map _
 rw [hlenL] at hvL hsL
 by_cases hr : Reach W l R p
 ·-- it stays
  have hk : (zX W l R)[(yz W R l (l.take i)).length]? = some (p, x) := by
   rw [hsplit, List.getElem?_append_right (Nat.le_refl _), Nat.sub_self, gh hr]; rfl
  have hkl2 := (zj hk).1
  obtain ⟨rfl, sb, cl2, junk2, rfl, hsb, hg2, _⟩ := hsL _ hkl2
  have hg2' : MapI.get h' sb = _ := (hf' sb hsb).trans hg2
  have hz2 : nth (flat yG (places (zX W l R)) ++ junk2) (0 + (((yz W R l (l.take i)).length : Nat) : Int).toNat * 1) = some (I p) := by
   rw [show 0 + (((yz W R l (l.take i)).length : Nat) : Int).toNat * 1 = (yz W R l (l.take i)).length from by simp]
   exact yB je (by rw [List.getElem?_map, hk]; rfl) rfl junk2
  have e1 : decide ((((yz W R l (l.take i)).length : Nat) : Int) < (((zX W l R).length : Nat) : Int)) = true := decide_eq_true (by omega)
  have wk : IntKind.i64.wrap (((yz W R l (l.take i)).length : Int) + 1) = ((yz W R l (l.take (i + 1))).length : Int) := by
   rw [htk, qE, gh hr, zr]
   have : (yz W R l []).length = 0 := rfl
   rw [List.length_cons, this, Go.IntWalk.i64_in _ (by omega)]; omega
  subst hvL
  repeat' (first | apply zw | apply zx | apply zz | apply zB | apply zK | refine za rfl rfl (fun _ => rfl) ?_ | refine zL rfl rfl (zZ (k := 1) rfl rfl rfl rfl ⟨by omega, by omega⟩ ⟨(by simp [zc] <;> omega), ?_⟩) | refine zL rfl rfl (zW rfl rfl rfl hg' hz ⟨(by simp [zc] <;> omega), ?_⟩) | refine zL rfl rfl (zW rfl rfl rfl hobj' rfl ⟨(by simp [zc] <;> omega), ?_⟩))
  simp only [e1]
  repeat' (first | apply zK | refine za rfl rfl (fun _ => rfl) ?_ | refine zU ?_ | refine zL rfl rfl (zW rfl rfl rfl hobj' rfl ⟨(by simp [zc] <;> omega), ?_⟩) | refine zL rfl rfl (zZ (k := 1) rfl rfl rfl rfl ⟨by omega, by omega⟩ ⟨(by simp [zc] <;> omega), ?_⟩) | refine zL rfl rfl (zW rfl rfl rfl hg2' hz2 ⟨(by simp [zc] <;> omega), ?_⟩))
  refine zH rfl (fun _ => ?_) (fun hb => by simp at hb)
  repeat' (first | apply zw | apply zx | apply zF | apply zK | refine za rfl rfl (fun _ => rfl) ?_ | refine zU ?_)
  refine ⟨(i + 1, v), by simp only; omega, ?_, by simp only; omega, ?_, ?_, hvn, hc', hf'⟩
  ·rw [wi, wk]
   exact fr ⟨rfl, rfl, rfl, rfl, rfl, rfl, trivial⟩
  ·simp only [htk, gone_live (o := (p, x)) hr]; exact hv
  ·simp only [htk, gone_live (o := (p, x)) hr]; omega
 -- it goes
 have hlin : (yz W R l (l.take (i + 1))).length = (yz W R l (l.take i)).length := by
  rw [htk, qE, liveIn_no hr, zr]; rfl
 have hgo : yx W R l (l.take (i + 1)) = yx W R l (l.take i) ++ yY W (p, x) := by rw [htk]; exact gone_dead hr
 have hg1 : (yY W (p, x)).length <= 1 := by
  unfold yY; split
  ·split <;> simp
  ·simp
 have fin : ∀ (e2 : EE) (h2' : HH) (c2' : Nat) (v2 : V), AllIn e2 [(0, V.ptr (some (sn, 0))), (3, v2), (4, I (yz W R l (l.take i)).length), (21, .slice (some (sa, 0)) l.length (.upTo 1)), (22, I l.length), (23, I (i + 1 : Nat))] ->
   ListOf (0 + 1) yG h2' c2' v2 (yx W R l (l.take i) ++ yY W (p, x)) -> (∀ n ∈ zS v2, c2 <= n) -> c2 <= c2' -> (∀ n, n < c2 -> MapI.get h2' n = MapI.get h2 n) ->
   ∃ y : Nat × V, l.length - y.1 < l.length - i /\ (∃ b0, e2 = FR b0 [(0, V.ptr (some (sn, 0))), (3, y.2), (4, I (yz W R l (l.take y.1)).length), (21, .slice (some (sa, 0)) l.length (.upTo 1)), (22, I l.length), (23, I y.1)]) /\ y.1 <= l.length /\ ListOf (0 + 1) yG h2' c2' y.2 (yx W R l (l.take y.1)) /\ (yx W R l (l.take y.1)).length <= y.1 /\ (∀ n ∈ zS y.2, c2 <= n) /\ c2 <= c2' /\ ∀ n, n < c2 -> MapI.get h2' n = MapI.get h2 n :=
  fun e2 h2' c2' v2 ha hl hn hc hf => ⟨(i + 1, v2), by simp only; omega, by simp only [hlin]; exact fr ha, by simp only; omega, by simp only [hgo]; exact hl, by simp only [hgo, zr]; omega, hn, hc, hf⟩
 have s' : SlAt h' c' a sn vW vR vL vH (W, R) size (zX W l R) hs := s2.same hc' hf'
 have wp : IntKind.i64.wrap ((p : Int) + 1) = ((p + 1 : Nat) : Int) := by rw [Go.IntWalk.i64_in _ (by omega)]; omega
 have hob : j4 W ((p : Nat) : Int) = some x := (so.objs.mem _ hxm).2
 by_cases hk : (yz W R l (l.take i)).length < (zX W l R).length
 ·obtain ⟨⟨q, y⟩, hq⟩ : ∃ z, (zX W l R)[(yz W R l (l.take i)).length]? = some z := ⟨_, zp hk⟩
  have hqp : (((q : Nat) : Int) == ((p : Nat) : Int)) = false := beq_eq_false_iff_ne.2 fun e => by
   have : q = p := by omega
   subst this
   exact hr (jN.1 (zo hq)).2
  obtain ⟨rfl, sb, cl2, junk2, rfl, hsb, hg2, _⟩ := hsL _ hk
  have hg2' : MapI.get h' sb = _ := (hf' sb hsb).trans hg2
  have hz2 : nth (flat yG (places (zX W l R)) ++ junk2) (0 + (((yz W R l (l.take i)).length : Nat) : Int).toNat * 1) = some (I q) := by
   rw [show 0 + (((yz W R l (l.take i)).length : Nat) : Int).toNat * 1 = (yz W R l (l.take i)).length from by simp]
   exact yB je (by rw [List.getElem?_map, hq]; rfl) rfl junk2
  have e1 : decide ((((yz W R l (l.take i)).length : Nat) : Int) < (((zX W l R).length : Nat) : Int)) = true := decide_eq_true (by omega)
  subst hvL
  repeat' (first | apply zw | apply zx | apply zz | apply zB | apply zK | refine za rfl rfl (fun _ => rfl) ?_ | refine zL rfl rfl (zZ (k := 1) rfl rfl rfl rfl ⟨by omega, by omega⟩ ⟨(by simp [zc] <;> omega), ?_⟩) | refine zL rfl rfl (zW rfl rfl rfl hg' hz ⟨(by simp [zc] <;> omega), ?_⟩) | refine zL rfl rfl (zW rfl rfl rfl hobj' rfl ⟨(by simp [zc] <;> omega), ?_⟩))
  simp only [e1]
  repeat' (first | apply zK | refine za rfl rfl (fun _ => rfl) ?_ | refine zU ?_ | refine zL rfl rfl (zW rfl rfl rfl hobj' rfl ⟨(by simp [zc] <;> omega), ?_⟩) | refine zL rfl rfl (zZ (k := 1) rfl rfl rfl rfl ⟨by omega, by omega⟩ ⟨(by simp [zc] <;> omega), ?_⟩) | refine zL rfl rfl (zW rfl rfl rfl hg2' hz2 ⟨(by simp [zc] <;> omega), ?_⟩))
  refine zH rfl (fun hb => by rw [show ((((q : Nat) : Int) == ((p : Nat) : Int)) = false) from hqp] at hb; cases hb) (fun _ => ?_)
  repeat' (first | apply zw | apply zx | apply zz | refine za rfl rfl (fun _ => rfl) ?_ | refine zL rfl rfl (zW rfl rfl rfl hobj' rfl ⟨(by simp [zc] <;> omega), ?_⟩))
  refine zL rfl rfl (yg rfl (gI s'.mem.ar) hsub (by omega) fun v4 h4 c4 hc4 hf4 hq4 => ?_)
  rw [show j4 (W, R).1 ((p : Nat) : Int) = some x from hob] at hq4
  subst hq4
  have hf5 : ∀ {o q : AObj}, ∀ n, n < c' -> MapI.get (MapI.set (MapI.set h4 c4 o) c4 q) n = MapI.get h' n := fun {o q} n hn => by
   rw [zu _ _ _ _ (by omega), zu _ _ _ _ (by omega)]; exact hf4 n hn
  have hobj5 : ∀ {o q : AObj}, MapI.get (MapI.set (MapI.set h4 c4 o) c4 q) sn = _ := fun {o q} => (hf5 sn (by omega)).trans hobj'
  have s5 := fun o q => s'.same (h' := MapI.set (MapI.set h4 c4 o) c4 q) (c' := c4 + 1) (by omega) hf5
  have hgx : ∀ {o q : AObj}, MapI.get (MapI.set (MapI.set h4 c4 o) c4 q) c4 = some q := zt _ _ _
  have hv5 : ∀ {o q : AObj}, ListOf (0 + 1) yG (MapI.set (MapI.set h4 c4 o) c4 q) (c4 + 1) v (yx W R l (l.take i)) := fun {o q} => hv.keep (by omega) fun n hn _ => hf5 n hn
  have hf6 : ∀ {o q : AObj}, ∀ n, n < c2 -> MapI.get (MapI.set (MapI.set h4 c4 o) c4 q) n = MapI.get h2 n := fun {o q} n hn => by rw [hf5 n (by omega)]; exact hf' n hn
  repeat' (first | apply zw | apply zx | apply zK | refine za rfl rfl (fun _ => rfl) ?_ | refine zL rfl rfl (yM rfl ⟨(by simp [zc] <;> omega), ?_⟩) | refine zL rfl rfl (ya (k := 4) rfl rfl rfl rfl (zt _ _ _) (zf rfl) rfl ⟨(by simp [zc] <;> omega), ?_⟩) | refine zL rfl rfl (zW rfl rfl rfl hobj5 rfl ⟨(by simp [zc] <;> omega), ?_⟩))
  by_cases hp1 : p + 1 < W.length
  case neg =>
   have hgn : yY W (p, x) = [] := by unfold yY; rw [List.getElem?_eq_none (by show W.length <= p + 1; omega)]
   refine zL rfl rfl (yg rfl (get_out (s5 _ _).mem.ar (i := IntKind.i64.wrap ((p : Int) + 1)) (by rw [wp]; show ¬ (_ /\ _ < (W.length : Int)); omega)) hsub (by omega) fun v6 h6 c6 hc6 _ hq6 => ?_)
   obtain ⟨rfl, rfl, rfl⟩ := hq6
   repeat' (first | apply zw | apply zx | apply zK | refine za rfl rfl (fun _ => rfl) ?_ | refine zM rfl rfl ?_ | refine zU ?_)
   refine zd rfl ?_
   repeat' (first | apply zx | apply zz | apply zK | refine za rfl rfl (fun _ => rfl) ?_ | refine zU ?_)
   exact fin _ _ _ v (by rw [<- wi]; exact ⟨rfl, rfl, rfl, rfl, rfl, rfl, trivial⟩) (by rw [hgn, List.append_nil]; exact hv5) hvn (by omega) hf6
  obtain ⟨w, hw⟩ : ∃ w, W[p + 1]? = some w := ⟨_, zp hp1⟩
  refine zL rfl rfl (yg rfl (ku (s5 _ _).mem.ar wp hw) hsub (by omega) fun v6 h6 c6 hc6 _ hq6 => ?_)
  obtain ⟨rfl, rfl, rfl⟩ := hq6
  by_cases k3 : x.kind = 3
  case neg =>
   have hgn : yY W (p, x) = [] := by unfold yY; rw [show W[(p, x).1 + 1]? = some w from hw]; exact if_neg fun h => k3 h.1
   have e3 : (x.kind == 3) = false := by simpa using k3
   repeat' (first | apply zw | apply zx | apply zK | refine za rfl rfl (fun _ => rfl) ?_ | refine zL rfl rfl (zW rfl rfl rfl hgx rfl ⟨(by simp [zc] <;> omega), ?_⟩))
   simp only [e3]
   repeat' (first | apply zK | refine za rfl rfl (fun _ => rfl) ?_ | refine zM rfl rfl ?_ | refine zU ?_)
   refine zd rfl ?_
   repeat' (first | apply zx | apply zz | apply zK | refine za rfl rfl (fun _ => rfl) ?_ | refine zU ?_)
   exact fin _ _ _ v (by rw [<- wi]; exact ⟨rfl, rfl, rfl, rfl, rfl, rfl, trivial⟩) (by rw [hgn, List.append_nil]; exact hv5) hvn (by omega) hf6
  have e3 : (x.kind == 3) = true := by simpa using k3
  by_cases k4 : x.size > 0
  case neg =>
   have hgn : yY W (p, x) = [] := by unfold yY; rw [show W[(p, x).1 + 1]? = some w from hw]; exact if_neg fun h => k4 h.2.1
   have e4 : decide (x.size > 0) = false := by simpa using k4
   repeat' (first | apply zw | apply zx | apply zK | refine za rfl rfl (fun _ => rfl) ?_ | refine zL rfl rfl (zW rfl rfl rfl hgx rfl ⟨(by simp [zc] <;> omega), ?_⟩))
   simp only [e3]
   repeat' (first | refine za rfl rfl (fun _ => rfl) ?_ | refine zL rfl rfl (zW rfl rfl rfl hgx rfl ⟨(by simp [zc] <;> omega), ?_⟩))
   simp only [e4]
   repeat' (first | apply zK | refine za rfl rfl (fun _ => rfl) ?_ | refine zM rfl rfl ?_ | refine zU ?_)
   refine zd rfl ?_
   repeat' (first | apply zx | apply zz | apply zK | refine za rfl rfl (fun _ => rfl) ?_ | refine zU ?_)
   exact fin _ _ _ v (by rw [<- wi]; exact ⟨rfl, rfl, rfl, rfl, rfl, rfl, trivial⟩) (by rw [hgn, List.append_nil]; exact hv5) hvn (by omega) hf6
  have e4 : decide (x.size > 0) = true := by simpa using k4
  by_cases k5 : w = 0
  ·have hgn : yY W (p, x) = [] := by unfold yY; rw [show W[(p, x).1 + 1]? = some w from hw]; exact if_neg fun h => h.2.2 k5
   have e5 : (w != 0) = false := by simpa using k5
   repeat' (first | apply zw | apply zx | apply zK | refine za rfl rfl (fun _ => rfl) ?_ | refine zL rfl rfl (zW rfl rfl rfl hgx rfl ⟨(by simp [zc] <;> omega), ?_⟩))
   simp only [e3]
   repeat' (first | refine za rfl rfl (fun _ => rfl) ?_ | refine zL rfl rfl (zW rfl rfl rfl hgx rfl ⟨(by simp [zc] <;> omega), ?_⟩))
   simp only [e4]
   repeat' (first | apply zK | refine za rfl rfl (fun _ => rfl) ?_ | refine zU ?_)
   refine zH rfl (fun hb => by rw [show (w != 0) = false from e5] at hb; cases hb) (fun _ => ?_)
   repeat' (first | apply zx | apply zz | apply zK | refine za rfl rfl (fun _ => rfl) ?_ | refine zU ?_)
   exact fin _ _ _ v (by rw [<- wi]; exact ⟨rfl, rfl, rfl, rfl, rfl, rfl, trivial⟩) (by rw [hgn, List.append_nil]; exact hv5) hvn (by omega) hf6
  have e5 : (w != 0) = true := by simpa using k5
  have hgn : yY W (p, x) = [IntKind.i64.wrap w] := by unfold yY; rw [show W[(p, x).1 + 1]? = some w from hw]; exact if_pos ⟨k3, k4, k5⟩
  repeat' (first | apply zw | apply zx | apply zK | refine za rfl rfl (fun _ => rfl) ?_ | refine zL rfl rfl (zW rfl rfl rfl hgx rfl ⟨(by simp [zc] <;> omega), ?_⟩))
  simp only [e3]
  repeat' (first | refine za rfl rfl (fun _ => rfl) ?_ | refine zL rfl rfl (zW rfl rfl rfl hgx rfl ⟨(by simp [zc] <;> omega), ?_⟩))
  simp only [e4]
  repeat' (first | apply zK | refine za rfl rfl (fun _ => rfl) ?_ | refine zU ?_)
  refine zH rfl (fun _ => ?_) (fun hb => by rw [show (w != 0) = true from e5] at hb; cases hb)
  have hvlt := hv.lt
  repeat' (first | apply zx | refine za rfl rfl (fun _ => rfl) ?_ | refine zL rfl rfl (yy (k := 1) rfl rfl rfl rfl (by decide) rfl ⟨(by simp [zc] <;> omega), ?_⟩))
  have hv7 : ∀ {o q z : AObj}, ListOf (0 + 1) yG (MapI.set (MapI.set (MapI.set h4 c4 o) c4 q) (c4 + 1) z) (c4 + 1 + 1) v (yx W R l (l.take i)) := fun {o q z} => hv5.keep (by omega) fun n hn _ => zu _ _ _ _ (by omega)
  refine zL rfl rfl (qC (y := IntKind.i64.wrap w) rfl rfl ⟨rfl, rfl, rfl, ⟨_, rfl, by decide⟩⟩ rfl je qP hv7 (zt _ _ _) (by omega) (by omega) (fun n h => .inr (by have := hvn n h; omega)) (by omega) fun v8 h8 c8 r8 hn8 hc8 hf8 => ?_)
  repeat' (first | apply zx | apply zK | refine za rfl rfl (fun _ => rfl) ?_ | refine zU ?_)
  refine fin _ _ _ v8 (by rw [<- wi]; exact ⟨rfl, rfl, rfl, rfl, rfl, rfl, trivial⟩) (by rw [hgn]; exact r8) (fun n hn => ?_) (by omega) fun n hn => ?_
  ·rcases hn8 n hn with h | h
   ·exact hvn n h
   ·omega
  ·rw [hf8 n (by omega) (fun hm => by have := hvn n hm; omega), zu _ _ _ _ (by omega)]; exact hf6 n hn
 ·have e1 : decide ((((yz W R l (l.take i)).length : Nat) : Int) < (((zX W l R).length : Nat) : Int)) = false := decide_eq_false (by omega)
  subst hvL
  repeat' (first | apply zw | apply zx | apply zz | apply zB | apply zK | refine za rfl rfl (fun _ => rfl) ?_ | refine zL rfl rfl (zZ (k := 1) rfl rfl rfl rfl ⟨by omega, by omega⟩ ⟨(by simp [zc] <;> omega), ?_⟩) | refine zL rfl rfl (zW rfl rfl rfl hg' hz ⟨(by simp [zc] <;> omega), ?_⟩) | refine zL rfl rfl (zW rfl rfl rfl hobj' rfl ⟨(by simp [zc] <;> omega), ?_⟩))
  simp only [e1]
  repeat' (first | apply zK | refine za rfl rfl (fun _ => rfl) ?_ | refine zM rfl rfl ?_ | refine zU ?_)
  refine zd rfl ?_
  repeat' (first | apply zw | apply zx | apply zz | refine za rfl rfl (fun _ => rfl) ?_ | refine zL rfl rfl (zW rfl rfl rfl hobj' rfl ⟨(by simp [zc] <;> omega), ?_⟩))
  refine zL rfl rfl (yg rfl (gI s'.mem.ar) hsub (by omega) fun v4 h4 c4 hc4 hf4 hq4 => ?_)
  rw [show j4 (W, R).1 ((p : Nat) : Int) = some x from hob] at hq4
  subst hq4
  have hf5 : ∀ {o q : AObj}, ∀ n, n < c' -> MapI.get (MapI.set (MapI.set h4 c4 o) c4 q) n = MapI.get h' n := fun {o q} n hn => by
   rw [zu _ _ _ _ (by omega), zu _ _ _ _ (by omega)]; exact hf4 n hn
  have hobj5 : ∀ {o q : AObj}, MapI.get (MapI.set (MapI.set h4 c4 o) c4 q) sn = _ := fun {o q} => (hf5 sn (by omega)).trans hobj'
  have s5 := fun o q => s'.same (h' := MapI.set (MapI.set h4 c4 o) c4 q) (c' := c4 + 1) (by omega) hf5
  have hgx : ∀ {o q : AObj}, MapI.get (MapI.set (MapI.set h4 c4 o) c4 q) c4 = some q := zt _ _ _
  have hv5 : ∀ {o q : AObj}, ListOf (0 + 1) yG (MapI.set (MapI.set h4 c4 o) c4 q) (c4 + 1) v (yx W R l (l.take i)) := fun {o q} => hv.keep (by omega) fun n hn _ => hf5 n hn
  have hf6 : ∀ {o q : AObj}, ∀ n, n < c2 -> MapI.get (MapI.set (MapI.set h4 c4 o) c4 q) n = MapI.get h2 n := fun {o q} n hn => by rw [hf5 n (by omega)]; exact hf' n hn
  repeat' (first | apply zw | apply zx | apply zK | refine za rfl rfl (fun _ => rfl) ?_ | refine zL rfl rfl (yM rfl ⟨(by simp [zc] <;> omega), ?_⟩) | refine zL rfl rfl (ya (k := 4) rfl rfl rfl rfl (zt _ _ _) (zf rfl) rfl ⟨(by simp [zc] <;> omega), ?_⟩) | refine zL rfl rfl (zW rfl rfl rfl hobj5 rfl ⟨(by simp [zc] <;> omega), ?_⟩))
  by_cases hp1 : p + 1 < W.length
  case neg =>
   have hgn : yY W (p, x) = [] := by unfold yY; rw [List.getElem?_eq_none (by show W.length <= p + 1; omega)]
   refine zL rfl rfl (yg rfl (get_out (s5 _ _).mem.ar (i := IntKind.i64.wrap ((p : Int) + 1)) (by rw [wp]; show ¬ (_ /\ _ < (W.length : Int)); omega)) hsub (by omega) fun v6 h6 c6 hc6 _ hq6 => ?_)
   obtain ⟨rfl, rfl, rfl⟩ := hq6
   repeat' (first | apply zw | apply zx | apply zK | refine za rfl rfl (fun _ => rfl) ?_ | refine zM rfl rfl ?_ | refine zU ?_)
   refine zd rfl ?_
   repeat' (first | apply zx | apply zz | apply zK | refine za rfl rfl (fun _ => rfl) ?_ | refine zU ?_)
   exact fin _ _ _ v (by rw [<- wi]; exact ⟨rfl, rfl, rfl, rfl, rfl, rfl, trivial⟩) (by rw [hgn, List.append_nil]; exact hv5) hvn (by omega) hf6
  obtain ⟨w, hw⟩ : ∃ w, W[p + 1]? = some w := ⟨_, zp hp1⟩
  refine zL rfl rfl (yg rfl (ku (s5 _ _).mem.ar wp hw) hsub (by omega) fun v6 h6 c6 hc6 _ hq6 => ?_)
  obtain ⟨rfl, rfl, rfl⟩ := hq6
  by_cases k3 : x.kind = 3
  case neg =>
   have hgn : yY W (p, x) = [] := by unfold yY; rw [show W[(p, x).1 + 1]? = some w from hw]; exact if_neg fun h => k3 h.1
   have e3 : (x.kind == 3) = false := by simpa using k3
   repeat' (first | apply zw | apply zx | apply zK | refine za rfl rfl (fun _ => rfl) ?_ | refine zL rfl rfl (zW rfl rfl rfl hgx rfl ⟨(by simp [zc] <;> omega), ?_⟩))
   simp only [e3]
   repeat' (first | apply zK | refine za rfl rfl (fun _ => rfl) ?_ | refine zM rfl rfl ?_ | refine zU ?_)
   refine zd rfl ?_
   repeat' (first | apply zx | apply zz | apply zK | refine za rfl rfl (fun _ => rfl) ?_ | refine zU ?_)
   exact fin _ _ _ v (by rw [<- wi]; exact ⟨rfl, rfl, rfl, rfl, rfl, rfl, trivial⟩) (by rw [hgn, List.append_nil]; exact hv5) hvn (by omega) hf6
  have e3 : (x.kind == 3) = true := by simpa using k3
  by_cases k4 : x.size > 0
  case neg =>
   have hgn : yY W (p, x) = [] := by unfold yY; rw [show W[(p, x).1 + 1]? = some w from hw]; exact if_neg fun h => k4 h.2.1
   have e4 : decide (x.size > 0) = false := by simpa using k4
   repeat' (first | apply zw | apply zx | apply zK | refine za rfl rfl (fun _ => rfl) ?_ | refine zL rfl rfl (zW rfl rfl rfl hgx rfl ⟨(by simp [zc] <;> omega), ?_⟩))
   simp only [e3]
   repeat' (first | refine za rfl rfl (fun _ => rfl) ?_ | refine zL rfl rfl (zW rfl rfl rfl hgx rfl ⟨(by simp [zc] <;> omega), ?_⟩))
   simp only [e4]
   repeat' (first | apply zK | refine za rfl rfl (fun _ => rfl) ?_ | refine zM rfl rfl ?_ | refine zU ?_)
   refine zd rfl ?_
   repeat' (first | apply zx | apply zz | apply zK | refine za rfl rfl (fun _ => rfl) ?_ | refine zU ?_)
   exact fin _ _ _ v (by rw [<- wi]; exact ⟨rfl, rfl, rfl, rfl, rfl, rfl, trivial⟩) (by rw [hgn, List.append_nil]; exact hv5) hvn (by omega) hf6
  have e4 : decide (x.size > 0) = true := by simpa using k4
  by_cases k5 : w = 0
  ·have hgn : yY W (p, x) = [] := by unfold yY; rw [show W[(p, x).1 + 1]? = some w from hw]; exact if_neg fun h => h.2.2 k5
   have e5 : (w != 0) = false := by simpa using k5
   repeat' (first | apply zw | apply zx | apply zK | refine za rfl rfl (fun _ => rfl) ?_ | refine zL rfl rfl (zW rfl rfl rfl hgx rfl ⟨(by simp [zc] <;> omega), ?_⟩))
   simp only [e3]
   repeat' (first | refine za rfl rfl (fun _ => rfl) ?_ | refine zL rfl rfl (zW rfl rfl rfl hgx rfl ⟨(by simp [zc] <;> omega), ?_⟩))
   simp only [e4]
   repeat' (first | apply zK | refine za rfl rfl (fun _ => rfl) ?_ | refine zU ?_)
   refine zH rfl (fun hb => by rw [show (w != 0) = false from e5] at hb; cases hb) (fun _ => ?_)
   repeat' (first | apply zx | apply zz | apply zK | refine za rfl rfl (fun _ => rfl) ?_ | refine zU ?_)
   exact fin _ _ _ v (by rw [<- wi]; exact ⟨rfl, rfl, rfl, rfl, rfl, rfl, trivial⟩) (by rw [hgn, List.append_nil]; exact hv5) hvn (by omega) hf6
  have e5 : (w != 0) = true := by simpa using k5
  have hgn : yY W (p, x) = [IntKind.i64.wrap w] := by unfold yY; rw [show W[(p, x).1 + 1]? = some w from hw]; exact if_pos ⟨k3, k4, k5⟩
  repeat' (first | apply zw | apply zx | apply zK | refine za rfl rfl (fun _ => rfl) ?_ | refine zL rfl rfl (zW rfl rfl rfl hgx rfl ⟨(by simp [zc] <;> omega), ?_⟩))
  simp only [e3]
  repeat' (first | refine za rfl rfl (fun _ => rfl) ?_ | refine zL rfl rfl (zW rfl rfl rfl hgx rfl ⟨(by simp [zc] <;> omega), ?_⟩))
  simp only [e4]
  repeat' (first | apply zK | refine za rfl rfl (fun _ => rfl) ?_ | refine zU ?_)
  refine zH rfl (fun _ => ?_) (fun hb => by rw [show (w != 0) = true from e5] at hb; cases hb)
  have hvlt := hv.lt
  repeat' (first | apply zx | refine za rfl rfl (fun _ => rfl) ?_ | refine zL rfl rfl (yy (k := 1) rfl rfl rfl rfl (by decide) rfl ⟨(by simp [zc] <;> omega), ?_⟩))
  have hv7 : ∀ {o q z : AObj}, ListOf (0 + 1) yG (MapI.set (MapI.set (MapI.set h4 c4 o) c4 q) (c4 + 1) z) (c4 + 1 + 1) v (yx W R l (l.take i)) := fun {o q z} => hv5.keep (by omega) fun n hn _ => zu _ _ _ _ (by omega)
  refine zL rfl rfl (qC (y := IntKind.i64.wrap w) rfl rfl ⟨rfl, rfl, rfl, ⟨_, rfl, by decide⟩⟩ rfl je qP hv7 (zt _ _ _) (by omega) (by omega) (fun n h => .inr (by have := hvn n h; omega)) (by omega) fun v8 h8 c8 r8 hn8 hc8 hf8 => ?_)
  repeat' (first | apply zx | apply zK | refine za rfl rfl (fun _ => rfl) ?_ | refine zU ?_)
  refine fin _ _ _ v8 (by rw [<- wi]; exact ⟨rfl, rfl, rfl, rfl, rfl, rfl, trivial⟩) (by rw [hgn]; exact r8) (fun n hn => ?_) (by omega) fun n hn => ?_
  ·rcases hn8 n hn with h | h
   ·exact hvn n h
   ·omega
  ·rw [hf8 n (by omega) (fun hm => by have := hvn n hm; omega), zu _ _ _ _ (by omega)]; exact hf6 n hn
end
open Go.Ab
section
variable {h h' : HH} {c c' a sn : Nat} {vW vR vL vH : V} {W0 R0 : List Int} {size : Int} {l : List (Nat × Hd)} {hs : List Hd}
def PrOf (R0 : List Int) (done : List (Nat × Hd)) (f : Fld) : Prop := (f.1 = true /\ f.2 < R0.length) \/ (f.1 = false /\ ∃ p x k, (p, x) ∈ done /\ ((k : Nat) : Int) < yc x /\ f.2 = p + 1 + k)
def PrK (R0 : List Int) (done : List (Nat × Hd)) (p : Nat) (k : Nat) (f : Fld) : Prop := PrOf R0 done f \/ (f.1 = false /\ ∃ j, j < k /\ f.2 = p + 1 + j)
theorem slid_take {L : List (Nat × Hd)} {i : Nat} {o : Nat × Hd} (h : L[i]? = some o) : yh W0 R0 l (L.take (i + 1)) = yh W0 R0 l (L.take i) ++ gM W0 R0 l o := by
 rw [List.take_add_one, h]
 simp [yh]
theorem slid_len_le {l' : List (Nat × Hd)} {W : List Int} {i : Nat} (r : ObjsFrom W i l') : ∀ {L : List (Nat × Hd)}, L.Sublist l' -> (yh W0 R0 l L).length + i <= W.length := by
 induction r with
 | nil =>
  intro L hL
  have : L = [] := by simpa using hL
  subst this
  simp [yh]
 | cons hx r ih =>
  rename_i i x l'
  intro L hL
  obtain ⟨j, w, e, hw, hr, hsz, hok⟩ := yJ hx
  unfold okH at hok
  cases hL with
  | cons _ hL =>
   have := ih hL
   omega
  | cons_cons _ hL =>
   have := ih hL
   simp only [yh, List.flatMap_cons, zr, qj] at this ⊢
   omega
theorem slid_below {p : Nat} (so : SoundW W0 R0 l) : ∀ (A : List (Nat × Hd)) (i : Nat), (∀ o ∈ A, o ∈ l /\ i <= o.1 /\ o.1 < p) -> (A.map Prod.fst).Pairwise (· < ·) -> i <= p -> (∃ y, (p, y) ∈ l) -> (yh W0 R0 l A).length + i <= p
 | [], i, _, _, hi, _ => by simpa [yh] using hi
 | o :: A, i, h, hs, hi, hp => by
  obtain ⟨h1, h2⟩ := List.pairwise_cons.1 (show ((o.1 :: A.map Prod.fst).Pairwise (· < ·)) from hs)
  obtain ⟨ho, hio, hop⟩ := h o (zq ..)
  obtain ⟨y, hy⟩ := hp
  obtain ⟨_, _, _, _, _, _, hok⟩ := yJ (so.objs.mem _ ho).2
  unfold okH at hok
  have ho' : (o.1, o.2) ∈ l := ho
  have hap := so.objs.apart ho' hy hop
  have ih := slid_below so A (o.1 + (1 + o.2.size.toNat)) (fun q hq => ⟨(h q (zg _ hq)).1, (by
   have hlt := h1 q.1 (List.mem_map.2 ⟨q, hq, rfl⟩)
   have hql : (q.1, q.2) ∈ l := (h q (zg _ hq)).1
   have := so.objs.apart ho' hql hlt
   omega), (h q (zg _ hq)).2.2⟩) h2 (by omega) ⟨y, hy⟩
  simp only [yh, List.flatMap_cons, zr, qj] at ih ⊢
  omega
theorem newPos_le {p : Nat} {x : Hd} (so : SoundW W0 R0 l) (hp : (p, x) ∈ zX W0 l R0) : newPos (zX W0 l R0) p <= p := by
 obtain ⟨A, B, e⟩ := List.append_of_mem hp
 have hs := qu (R := R0) (W := W0) so.objs
 rw [e] at hs
 rw [e, gc (W0 := W0) (R0 := R0) (l := l) hs]
 rw [List.map_append, List.pairwise_append] at hs
 have := slid_below (p := p) so A 0 (fun o ho => ⟨yQ (show (o.1, o.2) ∈ zX W0 l R0 from (by rw [e]; exact zh _ ho)), Nat.zero_le _, hs.2.2 o.1 (List.mem_map.2 ⟨o, ho, rfl⟩) p (by simp)⟩) hs.1 (Nat.zero_le _) ⟨x, yQ hp⟩
 omega
end
open Go.Ab
section
variable {h h' : HH} {c c' a sn : Nat} {vW vR vL vH : V} {W0 R0 : List Int} {size : Int} {l : List (Nat × Hd)} {hs : List Hd} {m : MM} {C : Nat -> List Fld} {val : Fld -> Int} {D : Nat -> Prop} {Pr : Fld -> Prop}
theorem UpI.obj (so : SoundW W0 R0 l) (u : UpI W0 R0 l D Pr m C val) {p : Nat} {x : Hd} (hp : (p, x) ∈ zX W0 l R0) (hC : C p = []) : j4 m.1 ((p : Nat) : Int) = some x := by
 have hL : qn W0 R0 l p := ⟨x, hp⟩
 have hh := u.ls.head p hL
 rw [hC] at hh
 have hh : m.1[p]? = some (hd0W W0 p) := hh
 obtain ⟨j, w, e, hw, hr, hsz, hok⟩ := yJ (so.objs.mem _ (yQ hp)).2
 have e : ((p : Nat) : Int) = j := e
 have hjp : j = p := by omega
 subst hjp
 have : hd0W W0 j = w := by unfold hd0W; rw [hw]; rfl
 rw [this] at hh
 exact objW_mk hh hr (by rw [u.l1]; exact hsz)
theorem setH_row {v : V} (r : RowOf 4 hdV h c v hs) {i : Nat} {x : Hd} (hi : i < hs.length) : ∃ mh cap cl junk, v = .slice (some (mh, 0)) hs.length cap /\ mh < c /\ MapI.get h mh = some (.cells true cl (flat hdV hs ++ junk)) /\ RowOf 4 hdV (MapI.set h mh (.cells true cl (yu (flat hdV hs ++ junk) (i * 4) (hdV x)))) c v (hs.set i x) := by
 obtain ⟨s, cap, rfl, hsh⟩ := r.shape1
 obtain ⟨mh, cl, junk, rfl, hm, hg, hj⟩ := hsh i hi
 exact ⟨mh, cap, cl, junk, rfl, hm, hg, RowOf.set (n := 0) (k := 4) (cells := hdV) hd_len hm hj hi⟩
theorem op_storeR {e : EE} {call : Nat -> Tgt -> List V -> M HH V} {K : V -> HH -> Nat -> List Acc -> Prop} {ds : Option Tmp} {ty : Nat} {pos : String} {af : Array Edge} {gd : Option (Nat × Bool)} {t : Nat} {x y : Operand} {n o k : Nat} {cl : Bool} {cs cs' : List V} {v : V} (hx : ev1 cx e x = some (.ptr (some (n, o)))) (hy : ev1 cx e y = some v) (hk : cx.size t = some k) (hl : (yR v).length = k)
  (hh : MapI.get h n = some (.cells true cl cs)) (hb : o + k <= cs.length) (h1 : (yR v).all jR = true) (hr : yu cs o (yR v) = cs') (q : K (.tuple []) (MapI.set h n (.cells true cl cs')) c [.rd n, .wr n]) :
  WpX (fun k => opM cx (call k) e ⟨ds, .store t x y, ty, pos, af, gd⟩) h c K := by
 subst hr; exact ya hx hy hk hl hh hb h1 q
theorem SlAt.setH {mh : Nat} {o : AObj} {hs' : List Hd} {L : List (Nat × Hd)} (s : SlAt h c a sn vW vR vL vH m size L hs) (hm : mh ∈ zS vH) (r : RowOf 4 hdV (MapI.set h mh o) c vH hs') : SlAt (MapI.set h mh o) c a sn vW vR vL vH m size L hs' :=
 ⟨s.mem.keep (Nat.le_refl _) fun n _ hn => zu _ _ _ _ fun e => (s.s1 n hn).2.2 (by rw [<- e]; exact hm), yP (fun e => s.s2.2 (by rw [<- e]; exact hm)) s.obj, s.ll.keep (Nat.le_refl _) fun n _ hn => zu _ _ _ _ fun e => s.s3 n hn (by rw [<- e]; exact hm), r, s.ls, s.s1, s.s2, s.s3⟩
theorem thread_okI {W R : List Int} {b : Bool} {i p : Nat} {iz w x : Int} (hiz : iz = (i : Nat)) (r : Mem h c a vW vR W R size) (hw : fget W R b i = some w) (h5 : yL w = 5) (hv : yI w = (p : Nat)) (hx : W[p]? = some x) (hne : ¬ (b = false /\ i = p)) :
  Does 78 [.ptr (some (a, 0)), vR, .agg [.bool b, I iz]] h c (mn a vW vR) fun v h' c' => v = .bool true /\ Mem h' c' a vW vR ((fsetW W b i x).set p (gY b i)) (fsetR R b i x) size := by
 subst hiz; exact thread_ok r hw h5 hv hx hne
theorem thread_noI {W R : List Int} {b : Bool} {i : Nat} {iz w : Int} (hiz : iz = (i : Nat)) (r : Mem h c a vW vR W R size) (hw : fget W R b i = some w) (h5 : yL w ≠ 5) :
  Does 78 [.ptr (some (a, 0)), vR, .agg [.bool b, I iz]] h c (mn a vW vR) fun v h' c' => v = .bool false /\ ∀ n, n < c -> MapI.get h' n = MapI.get h n := by
 subst hiz; exact thread_no r hw h5
set_option maxHeartbeats 2000000 in
theorem up_ok (so : SoundW W0 R0 l) (s : SlAt h c a sn vW vR vL vH m size (zX W0 l R0) hs) (hlen : hs.length = (zX W0 l R0).length) (u : UpI W0 R0 l (fun _ => False) (PrOf R0 []) m C val) :
  Does 79 [.ptr (some (sn, 0))] h c (sln a sn vW vR vL vH) fun v h' c' => ∃ m' C' val', SlAt h' c' a sn vW vR vL vH m' size (zX W0 l R0) ((zX W0 l R0).map Prod.snd) /\ UpI W0 R0 l (qn W0 R0 l) (gp W0 R0 l) m' C' val' := by
 have hsub : ∀ x ∈ an a vW, x ∈ sln a sn vW vR vL vH \/ c <= x := fun x hx => .inl (zg _ (zh _ (zh _ hx)))
 have hsubM : ∀ x ∈ mn a vW vR, x ∈ sln a sn vW vR vL vH \/ c <= x := fun x hx => .inl (zg _ (zh _ hx))
 have hW0 : W0.length <= 1048576 := by rw [<- u.l1]; exact s.mem.lenW
 have hR0 : R0.length <= 100000000 := by rw [<- u.l2]; exact s.mem.len
 have hlL : (zX W0 l R0).length <= W0.length := by
  have h1 : (zX W0 l R0).length <= l.length := List.length_filter_le _ _
  have h2 := jS so.objs
  omega
 obtain ⟨sL, capL, hvL, hsL⟩ := s.ll.shape
 have hlenL : (places (zX W0 l R0)).length = (zX W0 l R0).length := List.length_map _
 rw [hlenL] at hvL hsL
 have hobj := s.obj
 have hsc := s.ls
 refine yi (enter (fn := Tryz.f79) Tryz.func79 rfl rfl (zf rfl) ?_)
 subst hvL
 repeat' (first | apply zw | apply zx | apply zB | apply zK | refine za rfl rfl (fun _ => rfl) ?_ | refine zL rfl rfl (zW rfl rfl rfl hobj rfl ⟨(by simp [zc] <;> omega), ?_⟩))
 refine zI ?_
 refine zQ (X := Nat × MM × (Nat -> List Fld) × (Fld -> Int) × List Hd) (fun y e' h' c' => (∃ b0, e' = FR b0 [(0, V.ptr (some (sn, 0))), (2, I (yh W0 R0 l ((zX W0 l R0).take y.1)).length), (11, .slice sL (zX W0 l R0).length capL), (12, I (zX W0 l R0).length), (13, I y.1)]) /\ y.1 <= (zX W0 l R0).length /\ SlAt h' c' a sn vW vR (.slice sL (zX W0 l R0).length capL) vH y.2.1 size (zX W0 l R0) y.2.2.2.2 /\ y.2.2.2.2.length = (zX W0 l R0).length /\ y.2.2.2.2.take y.1 = ((zX W0 l R0).take y.1).map Prod.snd /\ UpI W0 R0 l (fun q => ∃ o ∈ (zX W0 l R0).take y.1, o.1 = q) (PrOf R0 ((zX W0 l R0).take y.1)) y.2.1 y.2.2.1 y.2.2.2.1 /\ c <= c')
  (fun y => (zX W0 l R0).length - y.1) ?_ (0, m, C, val, hs) _ _ _ ⟨fr ⟨rfl, rfl, rfl, rfl, rfl, trivial⟩, Nat.zero_le _, s, hlen, rfl, u.congr (fun q => ⟨fun h => h.elim, fun ⟨o, ho, _⟩ => by cases ho⟩) (fun f => Iff.rfl), Nat.le_refl _⟩
 rintro ⟨i, m, C, val, hs⟩ e' h' c' ⟨⟨b0, rfl⟩, hi, s', hlen, htake, u, hc⟩
 simp only at hi s' hlen htake u
 repeat' (first | apply zw | apply zx | apply zK | refine za rfl rfl (fun _ => rfl) ?_)
 refine zH rfl (fun hlt => ?_) (fun hge => ?_)
 case refine_2 =>
  have hge : (zX W0 l R0).length <= i := by simpa using hge
  rw [List.take_of_length_le hge] at u
  rw [List.take_of_length_le hge, List.take_of_length_le (by omega)] at htake
  subst htake
  repeat' (first | apply zF | refine ji ?_ | refine jr rfl ?_)
  exact gg rfl ⟨m, C, val, s', u.congr (fun q => ⟨fun ⟨o, ho, e⟩ => ⟨o.2, by rw [<- e]; exact ho⟩, fun ⟨x, hx⟩ => ⟨_, hx, rfl⟩⟩) (fun f => Iff.rfl)⟩
 have hlt : i < (zX W0 l R0).length := by simpa using hlt
 obtain ⟨⟨p, x⟩, hx⟩ : ∃ z, (zX W0 l R0)[i]? = some z := ⟨_, zp hlt⟩
 have hxm := zo hx
 have hLp : qn W0 R0 l p := ⟨x, hxm⟩
 have htk : (zX W0 l R0).take (i + 1) = (zX W0 l R0).take i ++ [(p, x)] := by rw [List.take_add_one, hx]; rfl
 have hsplit : zX W0 l R0 = (zX W0 l R0).take i ++ (p, x) :: (zX W0 l R0).drop (i + 1) := by
  have : (zX W0 l R0).drop i = (p, x) :: (zX W0 l R0).drop (i + 1) := by
   rw [List.drop_eq_getElem_cons hlt]
   have := (zj hx).2
   rw [this]
  rw [<- this, List.take_append_drop]
 have hsorted := qu (R := R0) (W := W0) so.objs
 have hnp : newPos (zX W0 l R0) p = (yh W0 R0 l ((zX W0 l R0).take i)).length := by
  have h1 := hsorted
  rw [hsplit] at h1
  have := gc (W0 := W0) (R0 := R0) (l := l) h1
  rw [<- hsplit] at this
  exact this
 have hbelow : ∀ o ∈ (zX W0 l R0).take i, o.1 < p := fun o ho => by
  have h1 := hsorted
  rw [hsplit, List.map_append, List.pairwise_append] at h1
  exact h1.2.2 o.1 (List.mem_map.2 ⟨o, ho, rfl⟩) p (by simp)
 have hple := newPos_le so hxm
 obtain ⟨jj, w', ej, hw', _, hsz, hxok⟩ := yJ (so.objs.mem _ (yQ hxm)).2
 have ej : ((p : Nat) : Int) = jj := ej
 have hsz : (jj : Int) + 1 + x.size <= W0.length := hsz
 have hfs : yc x <= x.size := so.le _ (yQ hxm)
 have hf0 := gj hxok
 unfold okH at hxok
 have hxok : 0 <= x.kind /\ x.kind <= 3 /\ 0 <= x.size /\ x.size < 1048576 /\ 0 <= x.tree /\ x.tree < 1048576 := hxok
 have wi : IntKind.i64.wrap ((i : Int) + 1) = ((i + 1 : Nat) : Int) := by rw [Go.IntWalk.i64_in _ (by omega)]; omega
 obtain ⟨_, sl, cll, junkl, rfl, hsl0, _⟩ := hsL i hlt
 have hslN := s'.ll.lt
 have hsl' : ∃ cl junk, MapI.get h' sl = some (.cells true cl (flat yG (places (zX W0 l R0)) ++ junk)) /\ sl < c' := by
  rcases s'.ll with ⟨hh, _⟩ | ⟨s2, cl, junk, hh, h1, h2, _⟩
  ·simp at hh
  ·simp only [V.slice.injEq, Option.some.injEq, Prod.mk.injEq] at hh
   obtain ⟨⟨rfl, _⟩, _⟩ := hh
   exact ⟨cl, junk, h2, h1⟩
 obtain ⟨cl, junk, hg, hslc⟩ := hsl'
 have hslm : sl ∈ sln a sn vW vR (.slice (some (sl, 0)) (zX W0 l R0).length capL) vH := zg _ (zi _ (zh _ (by simp [zS])))
 have hz : nth (flat yG (places (zX W0 l R0)) ++ junk) (0 + ((i : Nat) : Int).toNat * 1) = some (I p) := by
  rw [show 0 + ((i : Nat) : Int).toNat * 1 = i from by simp]
  exact yB je (by rw [List.getElem?_map, hx]; rfl) rfl junk
 have hobj' := s'.obj
 obtain ⟨hch, u1⟩ := u.loose so hLp
 obtain ⟨hshort, hbnd⟩ := u.short hLp
 rw [hnp] at hch u1
 have hl1 := u.l1
 have hl2 := u.l2
 have hto8 : (yh W0 R0 l ((zX W0 l R0).take i)).length <= 100000000 := by omega
 have hb8 : ∀ f ∈ C p, f.2 <= 100000000 := fun f hf => by rcases hbnd f hf with h | h <;> omega
 repeat' (first | apply zw | apply zx | apply zy | apply zz | apply zB | apply zK | refine za rfl rfl (fun _ => rfl) ?_ | refine zb rfl rfl (fun _ => rfl) ?_ | refine zL rfl rfl (zZ (k := 1) rfl rfl rfl rfl ⟨by omega, by omega⟩ ⟨(by simp [zc] <;> omega), ?_⟩) | refine zL rfl rfl (zW rfl rfl rfl hg hz ⟨(by simp [zc] <;> omega), ?_⟩) | refine zO rfl rfl (zW rfl rfl rfl hobj' rfl ⟨(by simp [zc] <;> omega), ?_⟩))
 refine zO rfl rfl (jh rfl (loose_ok s'.mem hch hshort hto8 hb8) hsubM (by omega) fun v4 h4 c4 al4 hal4 hc4 hf4 r4 => ?_)
 have s4 := s'.mems r4 hc4 hf4
 refine zN (ym (cs := [0, 1, 3, 7, 0, 16, 48, 112, 0, 0, 1023]) (by decide +kernel) ?_) ?_
 ·simp +contextual [jt, apP, Dis, yF, yE, yw, yA, Nat.testBit]
 have hobj4 := s4.obj
 have hob := u1.obj so hxm yW
 repeat' (first | apply zw | apply zx | refine za rfl rfl (fun _ => rfl) ?_ | refine zL rfl rfl (zW rfl rfl rfl hobj4 rfl ⟨(by simp [zc] <;> omega), ?_⟩))
 refine zL rfl rfl (yg rfl (gI s4.mem.ar) hsub (by omega) fun v5 h5 c5 hc5 hf5 hq5 => ?_)
 rw [show j4 (jB p (yh W0 R0 l ((zX W0 l R0).take i)).length (C p) m).1 ((p : Nat) : Int) = some x from hob] at hq5
 subst hq5
 have hf6 : ∀ {o q : AObj}, ∀ n, n < c4 -> MapI.get (MapI.set (MapI.set h5 c5 o) c5 q) n = MapI.get h4 n := fun {o q} n hn => by
  rw [zu _ _ _ _ (by omega), zu _ _ _ _ (by omega)]; exact hf5 n hn
 have s6 := fun o q => s4.same (h' := MapI.set (MapI.set h5 c5 o) c5 q) (c' := c5 + 1) (by omega) hf6
 have hgx : ∀ {o q : AObj}, MapI.get (MapI.set (MapI.set h5 c5 o) c5 q) c5 = some q := zt _ _ _
 have hobj6 : ∀ {o q : AObj}, MapI.get (MapI.set (MapI.set h5 c5 o) c5 q) sn = _ := fun {o q} => (s6 o q).obj
 obtain ⟨mh, caph, clh, junkh, rfl, hmh, hgh, hrow⟩ := setH_row (s6 (.cells true true (yR (.agg (hdV hd0)))) (.cells true true (yu (yR (.agg (hdV hd0))) 0 (yR (.agg (hdV x)))))).hh (i := i) (x := x) (by omega)
 have hmhm : mh ∈ sln a sn vW vR (.slice (some (sl, 0)) (zX W0 l R0).length capL) (.slice (some (mh, 0)) hs.length caph) := zg _ (zi _ (zi _ (by simp [zS])))
 have hmh1 : mh ≠ sn := fun e => s'.s2.2 (by rw [<- e]; simp [zS])
 have hmh2 : mh < c' := s'.hh.lt mh (by simp [zS])
 have hbh : 0 + ((i : Nat) : Int).toNat * 4 + 4 <= (flat hdV hs ++ junkh).length := by
  rw [zr, yv hd_len]; omega
 repeat' (first | apply zw | apply zy | apply zK | refine za rfl rfl (fun _ => rfl) ?_ | refine zb rfl rfl (fun _ => rfl) ?_ | refine zL rfl rfl (yM rfl ⟨(by simp [zc] <;> omega), ?_⟩) | refine zL rfl rfl (ya (k := 4) rfl rfl rfl rfl (zt _ _ _) (zf rfl) rfl ⟨(by simp [zc] <;> omega), ?_⟩) | refine zO rfl rfl (zW rfl rfl rfl hobj6 rfl ⟨(by simp [zc] <;> omega), ?_⟩) | refine zO rfl rfl (yC (k := 4) rfl rfl rfl rfl hgx rfl ⟨(by simp [zc] <;> omega), ?_⟩) | refine zO rfl rfl (zZ (k := 4) rfl rfl rfl rfl ⟨by omega, by omega⟩ ⟨(by simp [zc] <;> omega), ?_⟩))
 have he4 : yu (flat hdV hs ++ junkh) (0 + ((i : Nat) : Int).toNat * 4) (yR (.agg (hdV x))) = yu (flat hdV hs ++ junkh) (i * 4) (hdV x) := by
  rw [show 0 + ((i : Nat) : Int).toNat * 4 = i * 4 from by simp]; rfl
 refine zO rfl rfl (op_storeR (k := 4) rfl rfl rfl rfl hgh hbh rfl he4 ⟨?_, ?_⟩)
 ·intro y hy
  simp only [List.mem_cons, List.not_mem_nil, or_false] at hy
  rcases hy with rfl | rfl
  ·exact .inl hmhm
  ·exact .inl hmhm
 refine zN (ym (cs := [0, 1, 3, 7, 0, 0, 63, 127]) (by decide +kernel) ?_) ?_
 ·simp +contextual [jt, apP, Dis, yF, yE, yw, yA, Nat.testBit]
 have s7 : SlAt _ (c5 + 1) a sn vW vR _ _ _ size (zX W0 l R0) (hs.set i x) := (s6 _ _).setH (by simp [zS]) hrow
 have hg7 : ∀ {g : HH} {o q z : AObj}, MapI.get (MapI.set (MapI.set (MapI.set g c5 o) c5 q) mh z) c5 = some q := fun {g o q z} => by
  rw [zu _ _ _ _ (by omega)]; exact zt _ _ _
 repeat' (first | apply zw | apply zx | refine zL rfl rfl (yC (k := 4) rfl rfl rfl rfl hg7 rfl ⟨(by simp [zc] <;> omega), ?_⟩))
 refine zL rfl rfl (yg rfl (wo (x := x)) (fun n hn => by cases hn) (by omega) fun v8 h8 c8 hc8 hf8 hq8 => ?_)
 subst hq8
 have s8 := s7.same hc8 hf8
 have hg8 : MapI.get h8 c5 = some (.cells true true (hdV x)) := by rw [hf8 c5 (by omega)]; exact hg7
 have hlens : (hs.set i x).length = (zX W0 l R0).length := by rw [List.length_set]; exact hlen
 have hnames : ∀ n ∈ mn a vW vR, n < c' := s'.mem.names
 repeat' (first | apply zB | apply zK | refine za rfl rfl (fun _ => rfl) ?_)
 refine zI ?_
 refine zQ (X := Nat × MM × (Nat -> List Fld) × (Fld -> Int)) (fun y e'' h'' c'' => (∃ b0, e'' = FR b0 [(0, V.ptr (some (sn, 0))), (2, I (yh W0 R0 l ((zX W0 l R0).take i)).length), (4, I p), (5, V.ptr (some (c5, 0))), (11, .slice (some (sl, 0)) (zX W0 l R0).length capL), (12, I (zX W0 l R0).length), (13, I i), (46, I (yc x)), (47, I y.1)]) /\ (y.1 : Int) <= yc x /\ SlAt h'' c'' a sn vW vR (.slice (some (sl, 0)) (zX W0 l R0).length capL) (.slice (some (mh, 0)) hs.length caph) y.2.1 size (zX W0 l R0) (hs.set i x) /\ MapI.get h'' c5 = some (.cells true true (hdV x)) /\ UpI W0 R0 l (fun q => q = p \/ ∃ o ∈ (zX W0 l R0).take i, o.1 = q) (PrK R0 ((zX W0 l R0).take i) p y.1) y.2.1 y.2.2.1 y.2.2.2 /\ c5 + 1 <= c'')
  (fun y => (yc x).toNat - y.1) ?_ (0, _, _, _) _ _ _ ⟨fr ⟨rfl, rfl, rfl, rfl, rfl, rfl, rfl, rfl, rfl, trivial⟩, hf0, s8, hg8, u1.congr (fun q => Iff.rfl) (fun f => ⟨fun h => .inl h, fun h => h.elim id fun ⟨_, j, hj, _⟩ => by omega⟩), by omega⟩
 rintro ⟨k, m2, C2, val2⟩ e'' h'' c'' ⟨⟨b0, rfl⟩, hk, s2, hg2, u2, hc2⟩
 simp only at hk s2 u2
 repeat' (first | apply zw | apply zx | apply zK | refine za rfl rfl (fun _ => rfl) ?_)
 refine zH rfl (fun hlt => ?_) (fun hge => ?_)
 case refine_2 =>
  have hge : yc x <= k := by simpa using hge
  have w1 : IntKind.i64.wrap ((1 : Int) + x.size) = 1 + x.size := Go.IntWalk.i64_in _ (by omega)
  have w2 : IntKind.i64.wrap (((yh W0 R0 l ((zX W0 l R0).take i)).length : Int) + IntKind.i64.wrap ((1 : Int) + x.size)) = ((yh W0 R0 l ((zX W0 l R0).take (i + 1))).length : Int) := by
   rw [w1, slid_take hx, zr, qj, Go.IntWalk.i64_in _ (by omega)]
   show _ = ((_ + (1 + x.size.toNat) : Nat) : Int)
   omega
  repeat' (first | apply zx | apply zF | apply zK | refine za rfl rfl (fun _ => rfl) ?_ | refine zU ?_ | refine zL rfl rfl (zW rfl rfl rfl hg2 rfl ⟨(by simp [zc] <;> omega), ?_⟩))
  refine ⟨(i + 1, m2, C2, val2, hs.set i x), by simp only; omega, ?_, by simp only; omega, s2, hlens, ?_, u2.congr (fun q => ?_) (fun f => ?_), by omega⟩
  ·rw [wi, w2]
   exact fr ⟨rfl, rfl, rfl, rfl, rfl, trivial⟩
  ·simp only
   rw [List.take_add_one, List.getElem?_set_self (by omega), List.take_set, List.set_eq_of_length_le (by rw [List.length_take]; omega), htake, htk, List.map_append]
   rfl
  ·rw [htk]
   constructor
   ·rintro (rfl | ⟨o, ho, e⟩)
    ·exact ⟨(q, x), by simp, rfl⟩
    ·exact ⟨o, zh _ ho, e⟩
   ·rintro ⟨o, ho, e⟩
    rcases zk ho with h | h
    ·exact .inr ⟨o, h, e⟩
    ·simp at h; subst h; exact .inl e.symm
  ·rw [htk]
   constructor
   ·rintro (h | ⟨hb, j, hj, e⟩)
    ·rcases h with h | ⟨hb, p', x', k', h1, h2, h3⟩
     ·exact .inl h
     ·exact .inr ⟨hb, p', x', k', zh _ h1, h2, h3⟩
    ·exact .inr ⟨hb, p, x, j, by simp, by omega, e⟩
   ·rintro (h | ⟨hb, p', x', k', h1, h2, h3⟩)
    ·exact .inl (.inl h)
    ·rcases zk h1 with h | h
     ·exact .inl (.inr ⟨hb, p', x', k', h, h2, h3⟩)
     ·simp at h
      obtain ⟨rfl, rfl⟩ := h
      exact .inr ⟨hb, k', by omega, h3⟩
 have hlt : (k : Int) < yc x := by simpa using hlt
 have hfld : gp W0 R0 l (false, p + 1 + k) := .inr ⟨rfl, p, x, k, hxm, hlt, rfl⟩
 have hPr : ¬ PrK R0 ((zX W0 l R0).take i) p k (false, p + 1 + k) := by
  rintro (h | ⟨_, j, hj, e⟩)
  ·rcases h with ⟨h, _⟩ | ⟨_, p', x', k', h1, h2, h3⟩
   ·cases h
   ·have h3 : p + 1 + k = p' + 1 + k' := h3
    have hbl := hbelow _ h1
    have hbl : p' < p := hbl
    have hl' : (p', x') ∈ zX W0 l R0 := List.mem_of_mem_take h1
    have hap := so.objs.apart (yQ hl') (yQ hxm) hbl
    have := so.le _ (yQ hl')
    have : yc x' <= x'.size := this
    omega
  ·have e : p + 1 + k = p + 1 + j := e
   omega
 obtain ⟨w, hw, hlv, _⟩ := fld_val so hfld
 obtain ⟨hm2, _, _⟩ := u2.at so hfld hPr hw
 have hobj2 := s2.obj
 have wa : IntKind.i64.wrap ((p : Int) + 1) = p + 1 := Go.IntWalk.i64_in _ (by omega)
 have wb : IntKind.i64.wrap (IntKind.i64.wrap ((p : Int) + 1) + (k : Int)) = ((p + 1 + k : Nat) : Int) := by rw [wa, Go.IntWalk.i64_in _ (by omega)]; omega
 have wk : IntKind.i64.wrap ((k : Int) + 1) = ((k + 1 : Nat) : Int) := by rw [Go.IntWalk.i64_in _ (by omega)]; omega
 have hPK : ∀ f, (f = (false, p + 1 + k) \/ PrK R0 ((zX W0 l R0).take i) p k f) ↔ PrK R0 ((zX W0 l R0).take i) p (k + 1) f := fun f => by
  constructor
  ·rintro (rfl | h | ⟨hb, j, hj, e⟩)
   ·exact .inr ⟨rfl, k, by omega, rfl⟩
   ·exact .inl h
   ·exact .inr ⟨hb, j, by omega, e⟩
  ·rintro (h | ⟨hb, j, hj, e⟩)
   ·exact .inr (.inl h)
   ·rcases Nat.lt_or_ge j k with h | h
    ·exact .inr (.inr ⟨hb, j, h, e⟩)
    ·have : j = k := by omega
     subst this
     exact .inl (by obtain ⟨b, z⟩ := f; simp only at hb e; rw [hb, e])
 by_cases t5 : yL w = 5
 ·obtain ⟨q, hq, hLq⟩ := hlv t5
  obtain ⟨hx', hne, u3⟩ := u2.thread so hfld hPr hw t5 hq fun d hd => ⟨rfl, by
   rcases hd with rfl | ⟨o, ho, e⟩
   ·show d < d + 1 + k; omega
   ·have := hbelow o ho; show d < p + 1 + k; omega⟩
  have hne' : ¬ ((false : Bool) = false /\ p + 1 + k = q) := fun h => hne (by rw [h.2])
  repeat' (first | apply zw | apply zx | apply zy | apply zz | apply zB | apply zK | refine za rfl rfl (fun _ => rfl) ?_ | refine zb rfl rfl (fun _ => rfl) ?_ | refine zO rfl rfl (zW rfl rfl rfl hobj2 rfl ⟨(by simp [zc] <;> omega), ?_⟩))
  refine zO rfl rfl (jh rfl (thread_okI wb s2.mem hm2 t5 hq hx' hne') hsubM (by omega) fun v9 h9 c9 al9 hal9 hc9 hf9 hq9 => ?_)
  obtain ⟨rfl, r9⟩ := hq9
  refine zN (ym (cs := [0, 1, 3, 7, 0, 16, 48, 112, 0, 256, 0, 1792, 3840, 8191]) (by decide +kernel) ?_) ?_
  ·simp +contextual [jt, apP, Dis, yF, yE, yw, yA, Nat.testBit]
  repeat' (first | apply zx | apply zK | refine za rfl rfl (fun _ => rfl) ?_ | refine zU ?_)
  refine ⟨(k + 1, _, _, _), by simp only; omega, ?_, by simp only; omega, s2.mems r9 hc9 hf9, by rw [hf9 c5 (by omega) (fun hh => by have := hnames c5 hh; omega)]; exact hg2, u3.congr (fun q => Iff.rfl) hPK, by omega⟩
  rw [wk]
  exact fr ⟨rfl, rfl, rfl, rfl, rfl, rfl, rfl, rfl, rfl, trivial⟩
 ·have u3 := u2.skip so hfld hPr hw t5
  repeat' (first | apply zw | apply zx | apply zy | apply zz | apply zB | apply zK | refine za rfl rfl (fun _ => rfl) ?_ | refine zb rfl rfl (fun _ => rfl) ?_ | refine zO rfl rfl (zW rfl rfl rfl hobj2 rfl ⟨(by simp [zc] <;> omega), ?_⟩))
  refine zO rfl rfl (jh rfl (thread_noI wb s2.mem hm2 t5) hsubM (by omega) fun v9 h9 c9 al9 hal9 hc9 hf9 hq9 => ?_)
  obtain ⟨rfl, hf9'⟩ := hq9
  refine zN (ym (cs := [0, 1, 3, 7, 0, 16, 48, 112, 0, 256, 0, 1792, 3840, 8191]) (by decide +kernel) ?_) ?_
  ·simp +contextual [jt, apP, Dis, yF, yE, yw, yA, Nat.testBit]
  repeat' (first | apply zx | apply zK | refine za rfl rfl (fun _ => rfl) ?_ | refine zU ?_)
  refine ⟨(k + 1, m2, C2, val2), by simp only; omega, ?_, by simp only; omega, s2.same hc9 hf9', by rw [hf9' c5 (by omega)]; exact hg2, u3.congr (fun q => Iff.rfl) hPK, by omega⟩
  rw [wk]
  exact fr ⟨rfl, rfl, rfl, rfl, rfl, rfl, rfl, rfl, rfl, trivial⟩
end
open Go.Ab
section
variable {h h' : HH} {c c' a sn : Nat} {vW vR vL vH : V} {W0 R0 : List Int} {size : Int} {l : List (Nat × Hd)} {hs : List Hd} {m : MM} {C : Nat -> List Fld} {val : Fld -> Int} {cur : Nat}
theorem LS.short {P : Nat -> Prop} {hd : Nat -> Int} (u : LS P hd m C val) {p : Nat} (hp : P p) : (C p).length <= m.1.length + m.2.length /\ ∀ f ∈ C p, f.2 < m.1.length \/ f.2 < m.2.length := by
 have hb : ∀ f ∈ C p, f ∈ (List.range m.1.length).map (fun i => ((false, i) : Fld)) ++ (List.range m.2.length).map fun i => ((true, i) : Fld) := fun f hf => by
  obtain ⟨y, hy⟩ := u.bound hp hf
  obtain ⟨b, i⟩ := f
  have := kY hy
  cases b with
  | false => exact zh _ (List.mem_map.2 ⟨i, List.mem_range.2 (this.1 rfl), rfl⟩)
  | true => exact zi _ (List.mem_map.2 ⟨i, List.mem_range.2 (this.2 rfl), rfl⟩)
 refine ⟨?_, fun f hf => ?_⟩
 ·have := List.Nodup.length_le_of_subset (u.nodup p hp) hb
  simpa using this
 ·rcases zk (hb f hf) with h | h
  ·obtain ⟨i, hi, rfl⟩ := List.mem_map.1 h
   exact .inl (List.mem_range.1 hi)
  ·obtain ⟨i, hi, rfl⟩ := List.mem_map.1 h
   exact .inr (List.mem_range.1 hi)
theorem looseM_lo {p to t : Nat} (ht : t < p) : ∀ (fs : List Fld) (m : MM), (∀ f ∈ fs, f.1 = false -> p < f.2) -> (jB p to fs m).1[t]? = m.1[t]?
 | [], m, _ => rfl
 | f :: fs, m, hf => by
  rw [jB, looseM_lo ht fs _ fun g hg => hf g (zg _ hg)]
  have h1 := hf f (zq ..)
  obtain ⟨b, i⟩ := f
  have e1 : ∀ (m : MM) w, qm (qw m (false, p) w) (false, t) = qm m (false, t) := fun m w => yT (fun e => by cases e; omega)
  have e2 : ∀ (m : MM) w, qm (qw m (b, i) w) (false, t) = qm m (false, t) := fun m w => yT (fun e => by cases e; have := h1 rfl; simp only at this; omega)
  exact (e2 _ _).trans (e1 _ _)
theorem moveW_self {W : List Int} {p n : Nat} : j8 W p p n = W := by
 unfold j8
 rw [List.append_assoc, <- List.drop_drop, List.take_append_drop, List.take_append_drop]
theorem moveW_take {W : List Int} {p to n : Nat} (h1 : to <= p) (h2 : p + n <= W.length) : (j8 W p to n).take (to + n) = W.take to ++ (W.drop p).take n := by
 unfold j8
 rw [List.take_left']
 rw [zr, List.length_take, List.length_take, List.length_drop]; omega
theorem move_okI {p to n : Nat} {L : List (Nat × Hd)} {nz : Int} (hn : nz = (n : Nat)) (s : SlAt h c a sn vW vR vL vH m size L hs) (h1 : to <= p) (h2 : p + n <= m.1.length) :
  Does 96 [.ptr (some (sn, 0)), I p, I to, I nz] h c (sn :: mn a vW vR) fun v h' c' => SlAt h' c' a sn vW vR vL vH (j8 m.1 p to n, m.2) size L hs := by
 subst hn; exact move_ok s h1 h2
set_option maxHeartbeats 2000000 in
theorem down_ok (so : SoundW W0 R0 l) (s : SlAt h c a sn vW vR vL vH m size (zX W0 l R0) ((zX W0 l R0).map Prod.snd)) (u : DnI W0 R0 l 0 m C val) :
  Does 80 [.ptr (some (sn, 0))] h c (sln a sn vW vR vL vH) fun v h' c' => (∃ mv : Int, v = I mv) /\ ∃ vW', Mem h' c' a vW' vR (yh W0 R0 l (zX W0 l R0)) (R0.map (mvW W0 R0 l)) size /\ ∀ n ∈ zS vW', n ∈ zS vW := by
 have hsub : ∀ x ∈ an a vW, x ∈ sln a sn vW vR vL vH \/ c <= x := fun x hx => .inl (zg _ (zh _ (zh _ hx)))
 have hsubM : ∀ x ∈ mn a vW vR, x ∈ sln a sn vW vR vL vH \/ c <= x := fun x hx => .inl (zg _ (zh _ hx))
 have hsubS : ∀ x ∈ sn :: mn a vW vR, x ∈ sln a sn vW vR vL vH \/ c <= x := fun x hx => by
  rcases zl hx with rfl | hx
  ·exact .inl (zq ..)
  ·exact hsubM x hx
 have hW0 : W0.length <= 1048576 := by rw [<- u.l1]; exact s.mem.lenW
 have hR0 : R0.length <= 100000000 := by rw [<- u.l2]; exact s.mem.len
 have hlL : (zX W0 l R0).length <= W0.length := by
  have h1 : (zX W0 l R0).length <= l.length := List.length_filter_le _ _
  have h2 := jS so.objs
  omega
 obtain ⟨sL, capL, hvL, hsL⟩ := s.ll.shape
 have hlenL : (places (zX W0 l R0)).length = (zX W0 l R0).length := List.length_map _
 rw [hlenL] at hvL hsL
 have hobj := s.obj
 have hsc := s.ls
 refine yi (enter (fn := Tryz.f80) Tryz.func80 rfl rfl (zf rfl) ?_)
 subst hvL
 repeat' (first | apply zw | apply zx | apply zB | apply zK | refine za rfl rfl (fun _ => rfl) ?_ | refine zL rfl rfl (zW rfl rfl rfl hobj rfl ⟨(by simp [zc] <;> omega), ?_⟩))
 refine zI ?_
 refine zQ (X := Nat × Nat × Nat × MM × (Nat -> List Fld) × (Fld -> Int)) (fun y e' h' c' => (∃ b0, e' = FR b0 [(0, V.ptr (some (sn, 0))), (3, I (yh W0 R0 l ((zX W0 l R0).take y.1)).length), (4, I y.2.1), (11, .slice sL (zX W0 l R0).length capL), (12, I (zX W0 l R0).length), (13, I y.1)]) /\ y.1 <= (zX W0 l R0).length /\ y.2.1 <= y.1 /\ SlAt h' c' a sn vW vR (.slice sL (zX W0 l R0).length capL) vH y.2.2.2.1 size (zX W0 l R0) ((zX W0 l R0).map Prod.snd) /\ DnI W0 R0 l y.2.2.1 y.2.2.2.1 y.2.2.2.2.1 y.2.2.2.2.2 /\ (∀ o ∈ (zX W0 l R0).drop y.1, y.2.2.1 <= o.1) /\ (∀ q, qn W0 R0 l q -> y.2.2.1 <= q -> ∃ o ∈ (zX W0 l R0).drop y.1, o.1 = q) /\ y.2.2.2.1.1.take (yh W0 R0 l ((zX W0 l R0).take y.1)).length = yh W0 R0 l ((zX W0 l R0).take y.1) /\ c <= c')
  (fun y => (zX W0 l R0).length - y.1) ?_ (0, 0, 0, m, C, val) _ _ _ ⟨fr ⟨rfl, rfl, rfl, rfl, rfl, rfl, trivial⟩, Nat.zero_le _, Nat.zero_le _, s, u, fun o _ => Nat.zero_le _, fun q ⟨x, hx⟩ _ => ⟨(q, x), hx, rfl⟩, by simp [yh], Nat.le_refl _⟩
 rintro ⟨i, mv, cur, m, C, val⟩ e' h' c' ⟨⟨b0, rfl⟩, hi, hmv, s', u, hcur1, hcur2, hdd, hc⟩
 simp only at hi hmv s' u hcur1 hcur2 hdd
 have hobj' := s'.obj
 repeat' (first | apply zw | apply zx | apply zK | refine za rfl rfl (fun _ => rfl) ?_)
 refine zH rfl (fun hlt => ?_) (fun hge => ?_)
 case refine_2 =>
  have hge : (zX W0 l R0).length <= i := by simpa using hge
  rw [List.take_of_length_le hge] at hdd
  have htl : (yh W0 R0 l (zX W0 l R0)).length <= m.1.length := by
   have := congrArg List.length hdd
   rw [List.length_take] at this; omega
  have hle := s'.mem.ar.le
  have hmx := s'.mem.ar.mx
  have hsep := s'.mem.sep
  have hrR : m.2 = R0.map (mvW W0 R0 l) := by
   refine List.ext_getElem? fun j => ?_
   by_cases hj : j < R0.length
   ·obtain ⟨w, hw⟩ : ∃ w, R0[j]? = some w := ⟨_, zp hj⟩
    obtain ⟨y, hy⟩ : ∃ y, m.2[j]? = some y := ⟨_, zp (by rw [u.l2]; exact hj)⟩
    have := u.ls.plain (true, j) y hy (fun h => by cases h) fun q hq hf => by have := (u.d1 q hq.1 hq.2 _ hf).1; cases this
    rw [u.d5 j w hw] at this
    rw [hy, List.getElem?_map, hw, this]; rfl
   ·rw [List.getElem?_eq_none (by rw [u.l2]; omega), List.getElem?_eq_none (by rw [List.length_map]; omega)]
  repeat' (first | apply zw | apply zy | apply zF | refine zb rfl rfl (fun _ => rfl) ?_ | refine zO rfl rfl (zW rfl rfl rfl hobj' rfl ⟨(by simp [zc] <;> omega), ?_⟩))
  refine zO rfl rfl (jy rfl (gA s'.mem.ar) hsub (by omega) fun v5 h5 c5 al5 hal5 hc5 hf5 hq5 => ?_)
  obtain ⟨rfl, rfl, rfl⟩ := hq5
  refine zO rfl rfl (jh rfl (kw s'.mem.ar (m := (yh W0 R0 l (zX W0 l R0)).length) (by rw [List.take_of_length_le hge]) htl (by rw [List.take_of_length_le hge]; omega) hmx) hsub (by omega) fun v6 h6 c6 al6 hal6 hc6 hf6 hq6 => ?_)
  obtain ⟨rfl, rfl, vW', hA, hn'⟩ := hq6
  have h5' : ∀ x ∈ al5, sn = x.name -> x.writes = false := fun x hx e => by
   cases hw : x.writes with
   | false => rfl
   | true => have := (hal5 x hx).2 hw; omega
  refine zN (ym (cs := [0, 1, 3, 7, 0, 0, 32, 96, 224, 480, 1023]) (by decide +kernel) ?_) ?_
  ·simp +contextual [jt, apP, Dis, yF, yE, yw, yA, Nat.testBit, h5']
  rw [hdd] at hA
  repeat' (first | apply zw | apply zx | apply zG | apply zK | refine za rfl rfl (fun _ => rfl) ?_)
  refine z6 rfl ⟨⟨_, rfl⟩, vW', ⟨hA, ?_, fun n hn => ?_, fun w hw => ?_, ?_⟩, hn'⟩
  ·rw [<- hrR]
   exact s'.mem.rr.keep (Nat.le_refl _) fun n hn hm => hf6 n hn fun hh => (by
    rcases zl hh with h | h
    ·exact (hsep n hm).1 h
    ·exact (hsep n hm).2 h)
  ·exact ⟨(hsep n hn).1, fun h => (hsep n hn).2 (hn' n h)⟩
  ·rw [<- hrR] at hw; exact s'.mem.ok w hw
  ·rw [List.length_map]; exact hR0
 have hlt : i < (zX W0 l R0).length := by simpa using hlt
 obtain ⟨⟨p, x⟩, hx⟩ : ∃ z, (zX W0 l R0)[i]? = some z := ⟨_, zp hlt⟩
 have hxm := zo hx
 have hLp : qn W0 R0 l p := ⟨x, hxm⟩
 have hdr : (zX W0 l R0).drop i = (p, x) :: (zX W0 l R0).drop (i + 1) := by
  rw [List.drop_eq_getElem_cons hlt]
  have := (zj hx).2
  rw [this]
 have hsplit : zX W0 l R0 = (zX W0 l R0).take i ++ (p, x) :: (zX W0 l R0).drop (i + 1) := by
  rw [<- hdr, List.take_append_drop]
 have hsorted := qu (R := R0) (W := W0) so.objs
 have hnp : newPos (zX W0 l R0) p = (yh W0 R0 l ((zX W0 l R0).take i)).length := by
  have h1 := hsorted
  rw [hsplit] at h1
  have := gc (W0 := W0) (R0 := R0) (l := l) h1
  rw [<- hsplit] at this
  exact this
 have habove : ∀ o ∈ (zX W0 l R0).drop (i + 1), p < o.1 := fun o ho => by
  have h1 := hsorted
  rw [hsplit, List.map_append, List.pairwise_append] at h1
  exact (List.pairwise_cons.1 (show ((p :: ((zX W0 l R0).drop (i + 1)).map Prod.fst).Pairwise (· < ·)) from h1.2.1)).1 o.1 (List.mem_map.2 ⟨o, ho, rfl⟩)
 have hcurp : cur <= p := hcur1 (p, x) (by rw [hdr]; exact zq ..)
 have hnext : ∀ q, qn W0 R0 l q -> cur <= q -> p <= q := fun q hq hcq => by
  obtain ⟨o, ho, e⟩ := hcur2 q hq hcq
  rw [hdr] at ho
  rcases zl ho with h | h
  ·rw [<- e, h]; exact Nat.le_refl p
  ·have := habove o h; omega
 have hple := newPos_le so hxm
 obtain ⟨jj, w', ej, hw', _, hsz, hxok⟩ := yJ (so.objs.mem _ (yQ hxm)).2
 have ej : ((p : Nat) : Int) = jj := ej
 have hsz : (jj : Int) + 1 + x.size <= W0.length := hsz
 unfold okH at hxok
 have hxok : 0 <= x.kind /\ x.kind <= 3 /\ 0 <= x.size /\ x.size < 1048576 /\ 0 <= x.tree /\ x.tree < 1048576 := hxok
 have wi : IntKind.i64.wrap ((i : Int) + 1) = ((i + 1 : Nat) : Int) := by rw [Go.IntWalk.i64_in _ (by omega)]; omega
 have wmv : IntKind.i64.wrap ((mv : Int) + 1) = ((mv + 1 : Nat) : Int) := by rw [Go.IntWalk.i64_in _ (by omega)]; omega
 have wn : IntKind.i64.wrap ((1 : Int) + x.size) = ((1 + x.size.toNat : Nat) : Int) := by rw [Go.IntWalk.i64_in _ (by omega)]; omega
 obtain ⟨_, sl, cll, junkl, rfl, hsl0, _⟩ := hsL i hlt
 have hsl' : ∃ cl junk, MapI.get h' sl = some (.cells true cl (flat yG (places (zX W0 l R0)) ++ junk)) /\ sl < c' := by
  rcases s'.ll with ⟨hh, _⟩ | ⟨s2, cl, junk, hh, h1, h2, _⟩
  ·simp at hh
  ·simp only [V.slice.injEq, Option.some.injEq, Prod.mk.injEq] at hh
   obtain ⟨⟨rfl, _⟩, _⟩ := hh
   exact ⟨cl, junk, h2, h1⟩
 obtain ⟨cl, junk, hg, hslc⟩ := hsl'
 have hslm : sl ∈ sln a sn vW vR (.slice (some (sl, 0)) (zX W0 l R0).length capL) vH := zg _ (zi _ (zh _ (by simp [zS])))
 have hz : nth (flat yG (places (zX W0 l R0)) ++ junk) (0 + ((i : Nat) : Int).toNat * 1) = some (I p) := by
  rw [show 0 + ((i : Nat) : Int).toNat * 1 = i from by simp]
  exact yB je (by rw [List.getElem?_map, hx]; rfl) rfl junk
 obtain ⟨hch, dn1, hwords⟩ := u.loose so hxm hcurp hnext
 obtain ⟨hshort, hbnd⟩ := u.ls.short (p := p) ⟨hLp, hcurp⟩
 have hl1 := u.l1
 have hl2 := u.l2
 have hd1 := u.d1 p hLp hcurp
 rw [hnp] at hch dn1 hwords
 have hto8 : (yh W0 R0 l ((zX W0 l R0).take i)).length <= 100000000 := by omega
 have hb8 : ∀ f ∈ C p, f.2 <= 100000000 := fun f hf => by rcases hbnd f hf with h | h <;> omega
 repeat' (first | apply zw | apply zx | apply zy | apply zz | apply zB | apply zK | refine za rfl rfl (fun _ => rfl) ?_ | refine zb rfl rfl (fun _ => rfl) ?_ | refine zL rfl rfl (zZ (k := 1) rfl rfl rfl rfl ⟨by omega, by omega⟩ ⟨(by simp [zc] <;> omega), ?_⟩) | refine zL rfl rfl (zW rfl rfl rfl hg hz ⟨(by simp [zc] <;> omega), ?_⟩) | refine zO rfl rfl (zW rfl rfl rfl hobj' rfl ⟨(by simp [zc] <;> omega), ?_⟩))
 refine zO rfl rfl (jh rfl (loose_ok s'.mem hch hshort hto8 hb8) hsubM (by omega) fun v4 h4 c4 al4 hal4 hc4 hf4 r4 => ?_)
 have s4 := s'.mems r4 hc4 hf4
 refine zN (ym (cs := [0, 1, 3, 7, 0, 16, 48, 112, 0, 0, 1023]) (by decide +kernel) ?_) ?_
 ·simp +contextual [jt, apP, Dis, yF, yE, yw, yA, Nat.testBit]
 have hobj4 := s4.obj
 have hdn1l := dn1.l1
 have hpn : p + (1 + x.size.toNat) <= (jB p (yh W0 R0 l ((zX W0 l R0).take i)).length (C p) m).1.length := by rw [hdn1l]; omega
 have hto : (yh W0 R0 l ((zX W0 l R0).take i)).length <= p := by rw [<- hnp]; exact hple
 -- what stands below is left
 have hlo : (jB p (yh W0 R0 l ((zX W0 l R0).take i)).length (C p) m).1.take (yh W0 R0 l ((zX W0 l R0).take i)).length = yh W0 R0 l ((zX W0 l R0).take i) := by
  refine Eq.trans ?_ hdd
  refine List.ext_getElem? fun t => ?_
  rw [List.getElem?_take, List.getElem?_take]
  split
  ·next ht => exact looseM_lo (by omega) _ _ fun f hf _ => (hd1 f hf).2.1
  ·rfl
 have hmid : ((jB p (yh W0 R0 l ((zX W0 l R0).take i)).length (C p) m).1.drop p).take (1 + x.size.toNat) = gM W0 R0 l (p, x) := by
  refine List.ext_getElem? fun t => ?_
  rw [List.getElem?_take]
  by_cases ht : t < 1 + x.size.toNat
  ·rw [if_pos ht, List.getElem?_drop, hwords t ht]
   unfold gM
   rw [List.getElem?_map, List.getElem?_range ht]; rfl
  ·rw [if_neg ht, List.getElem?_eq_none]
   rw [qj]; show 1 + x.size.toNat <= t; omega
 obtain ⟨val', dn2⟩ := dn1.move so hxm hcurp hnext yW hto
 have dn3 := dn1.move so hxm hcurp hnext yW (Nat.le_refl p)
 have hcA : ∀ o ∈ (zX W0 l R0).drop (i + 1), p + (1 + x.size.toNat) <= o.1 := fun o ho => by
  have h1 : (o.1, o.2) ∈ zX W0 l R0 := List.mem_of_mem_drop ho
  have := so.objs.apart (yQ hxm) (yQ h1) (habove o ho)
  omega
 have hcB : ∀ q, qn W0 R0 l q -> p + (1 + x.size.toNat) <= q -> ∃ o ∈ (zX W0 l R0).drop (i + 1), o.1 = q := fun q hq hpq => by
  obtain ⟨o, ho, e⟩ := hcur2 q hq (by omega)
  rw [hdr] at ho
  rcases zl ho with h | h
  ·rw [h] at e; have e : p = q := e; omega
  ·exact ⟨o, h, e⟩
 have hlenn : (yh W0 R0 l ((zX W0 l R0).take (i + 1))).length = (yh W0 R0 l ((zX W0 l R0).take i)).length + (1 + x.size.toNat) := by rw [slid_take hx, zr, qj]
 have wto : IntKind.i64.wrap (((yh W0 R0 l ((zX W0 l R0).take i)).length : Int) + IntKind.i64.wrap ((1 : Int) + x.size)) = ((yh W0 R0 l ((zX W0 l R0).take (i + 1))).length : Int) := by
  rw [wn, hlenn, Go.IntWalk.i64_in _ (by omega)]; omega
 have hfin : (j8 (jB p (yh W0 R0 l ((zX W0 l R0).take i)).length (C p) m).1 p (yh W0 R0 l ((zX W0 l R0).take i)).length (1 + x.size.toNat)).take (yh W0 R0 l ((zX W0 l R0).take (i + 1))).length = yh W0 R0 l ((zX W0 l R0).take (i + 1)) := by
  rw [hlenn, moveW_take hto hpn, hlo, hmid, slid_take hx]
 obtain ⟨sH, capH, rfl, hsH⟩ := s4.hh.shape
 have hhl : ((zX W0 l R0).map Prod.snd).length = (zX W0 l R0).length := List.length_map _
 obtain ⟨mh, clh, junkh, rfl, hmh, hgh⟩ := hsH i (by rw [hhl]; exact hlt)
 have hmhm : mh ∈ sln a sn vW vR (.slice (some (sl, 0)) (zX W0 l R0).length capL) (.slice (some (mh, 0)) ((zX W0 l R0).map Prod.snd).length capH) := zg _ (zi _ (zi _ (by simp [zS])))
 have hzh : nth (flat hdV ((zX W0 l R0).map Prod.snd) ++ junkh) (0 + ((i : Nat) : Int).toNat * 4 + 1) = some (I x.size) := by
  rw [show 0 + ((i : Nat) : Int).toNat * 4 + 1 = i * 4 + 1 from by simp]
  exact jM (k := 4) (cells := hdV) hd_len (by rw [List.getElem?_map, hx]; rfl) (by decide) junkh
 repeat' (first | apply zw | apply zx | apply zK | refine za rfl rfl (fun _ => rfl) ?_ | refine zU ?_ | refine zL rfl rfl (zW rfl rfl rfl hobj4 rfl ⟨(by simp [zc] <;> omega), ?_⟩) | refine zL rfl rfl (zZ (k := 4) rfl rfl rfl rfl ⟨by omega, by rw [hhl]; omega⟩ ⟨(by simp [zc] <;> omega), ?_⟩) | refine zL rfl rfl (zW rfl rfl rfl hgh hzh ⟨(by simp [zc] <;> omega), ?_⟩))
 by_cases hpt : p = (yh W0 R0 l ((zX W0 l R0).take i)).length
 ·have e1 : (((p : Nat) : Int) != ((yh W0 R0 l ((zX W0 l R0).take i)).length : Int)) = false := by simp; omega
  refine zH rfl (fun hb => by rw [show (((p : Nat) : Int) != ((yh W0 R0 l ((zX W0 l R0).take i)).length : Int)) = false from e1] at hb; cases hb) (fun _ => ?_)
  repeat' (first | apply zx | apply zz | apply zK | refine za rfl rfl (fun _ => rfl) ?_ | refine zU ?_)
  obtain ⟨val3, dn3⟩ := dn3
  rw [moveW_self] at dn3
  refine ⟨(i + 1, mv, p + (1 + x.size.toNat), _, _, val3), by simp only; omega, ?_, by simp only; omega, by simp only; omega, s4, dn3, hcA, hcB, ?_, by omega⟩
  ·rw [wi, wto]
   exact fr ⟨rfl, rfl, rfl, rfl, rfl, rfl, trivial⟩
  ·have := hfin
   rw [<- hpt, moveW_self] at this
   simp only
   rw [<- hpt]
   exact this
 ·have e1 : (((p : Nat) : Int) != ((yh W0 R0 l ((zX W0 l R0).take i)).length : Int)) = true := by simp; omega
  refine zH rfl (fun _ => ?_) (fun hb => by rw [show (((p : Nat) : Int) != ((yh W0 R0 l ((zX W0 l R0).take i)).length : Int)) = true from e1] at hb; cases hb)
  repeat' (first | apply zw | apply zx | apply zK | refine za rfl rfl (fun _ => rfl) ?_)
  refine zL rfl rfl (yj rfl (move_okI wn s4 hto hpn) hsubS (by omega) fun v7 h7 c7 hc7 hf7 s7 => ?_)
  repeat' (first | apply zx | apply zK | refine za rfl rfl (fun _ => rfl) ?_ | refine zU ?_)
  refine ⟨(i + 1, mv + 1, p + (1 + x.size.toNat), _, _, val'), by simp only; omega, ?_, by simp only; omega, by simp only; omega, s7, dn2, hcA, hcB, hfin, by omega⟩
  rw [wi, wto, wmv]
  exact fr ⟨rfl, rfl, rfl, rfl, rfl, rfl, trivial⟩
end
open Go.Ab
theorem reps_hd : ∀ n : Nat, reps n (hdV hd0) = flat hdV (List.replicate n hd0)
 | 0 => rfl
 | n + 1 => by rw [List.replicate_succ, jl, <- reps_hd n]; rfl
section
variable {h h' : HH} {c c' a : Nat} {vW vR : V} {W R : List Int} {size : Int} {l : List (Nat × Hd)}
set_option maxHeartbeats 1000000 in
theorem slide_ok (r : Mem h c a vW vR W R size) (so : SoundW W R l) : Does 62 [.ptr (some (a, 0)), vR] h c (mn a vW vR) fun v h' c' => ∃ vG mv vW', v = .tuple [.agg [I (yh W R l (zX W l R)).length, vG, I mv], .bool true] /\
  Mem h' c' a vW' vR (yh W R l (zX W l R)) (R.map (mvW W R l)) size /\ (∀ n ∈ zS vW', n ∈ zS vW) /\ ListOf 1 yG h' c' vG (yx W R l l) /\ ∀ n ∈ zS vG, c <= n := by
 obtain ⟨sR, capR, hvR⟩ : ∃ s cap, vR = .slice s R.length cap := by obtain ⟨s, cap, e, _⟩ := r.rr.shape; exact ⟨s, cap, e⟩
 subst hvR
 have hlw := r.lenW
 have hlr := r.len
 have hok := r.ok
 have hnm := r.names
 have hlL : (zX W l R).length <= W.length := by
  have h1 : (zX W l R).length <= l.length := List.length_filter_le _ _
  have h2 := jS so.objs
  omega
 refine yi (enterH (fn := Tryz.f62) Tryz.func62 rfl rfl (zf rfl) ?_)
 have r1 := r.same (h' := MapI.set h c (.cells true true [I 0, .slice none 0 (.known 0), I 0])) (c' := c + 1) (by omega) fun n hn => zu _ _ _ _ (by omega)
 have hgc1 : MapI.get (MapI.set h c (.cells true true [I 0, .slice none 0 (.known 0), I 0])) c = some (.cells true true [I 0, .slice none 0 (.known 0), I 0]) := zt _ _ _
 repeat' (first | apply zw | apply zx | apply zK | refine za rfl rfl (fun _ => rfl) ?_ | refine zL rfl rfl (yM rfl ⟨(by simp [zc] <;> omega), ?_⟩))
 refine zL rfl rfl (yj rfl (sound_ok r1.ar r1.rr hok (by omega) so) (fun n hn => .inl hn) (by omega) fun v2 h2 c2 hc2 _ hq => ?_)
 obtain ⟨rfl, hf2⟩ := hq
 have r2 := r1.same hc2 hf2
 repeat' (first | apply zK | refine za rfl rfl (fun _ => rfl) ?_ | refine zU ?_)
 refine zd rfl ?_
 repeat' (first | apply zw | apply zx | apply zz | refine za rfl rfl (fun _ => rfl) ?_)
 refine zL rfl rfl (yj rfl (live_words_ok r2.ar r2.rr hok hlr so) (fun n hn => .inl hn) (by omega) fun v3 h3 c3 hc3 _ hq => ?_)
 obtain ⟨vL, rfl, hL3, hLn3, hf3⟩ := hq
 have r3 := r2.same hc3 hf3
 have hLlt := hL3.lt
 obtain ⟨sL, capL, hvL, _⟩ := hL3.shape
 have hlenL : (places (zX W l R)).length = (zX W l R).length := List.length_map _
 rw [hlenL] at hvL
 have hz0 : ∀ {t : Nat}, cx.size t = some 4 -> cx.zero t = some (.agg (hdV hd0)) -> jT cx t (zX W l R).length = some (flat hdV (List.replicate (zX W l R).length hd0)) := fun {t} h1 h2 => by
  unfold jT; rw [h1, h2, <- reps_hd]; rfl
 subst hvL
 repeat' (first | apply zw | apply zx | apply zK | refine za rfl rfl (fun _ => rfl) ?_ | refine zL rfl rfl (qV rfl rfl rfl (hz0 rfl rfl) ⟨_, rfl, by decide⟩ ⟨Nat.le_refl _, by omega⟩ ⟨(by simp [zc] <;> omega), ?_⟩) | refine zL rfl rfl (yK rfl ⟨(by simp [zc] <;> omega), ?_⟩))
 have hL3' : ListOf 1 yG h3 c3 (.slice sL (zX W l R).length capL) (places (zX W l R)) := hL3
 have hnL : ∀ n ∈ zS (.slice sL (zX W l R).length capL), c2 <= n /\ n < c3 := fun n hn => ⟨hLn3 n hn, hLlt n hn⟩
 have s4 : SlAt (MapI.set (MapI.set h3 c3 (.cells true true (flat hdV (List.replicate (zX W l R).length hd0)))) (c3 + 1) (.cells true true [.ptr (some (a, 0)), .slice sR R.length capR, .slice sL (zX W l R).length capL, .slice (some (c3, 0)) (zX W l R).length (.known (zX W l R).length)])) (c3 + 1 + 1) a (c3 + 1) vW (.slice sR R.length capR) (.slice sL (zX W l R).length capL) (.slice (some (c3, 0)) (zX W l R).length (.known (zX W l R).length)) (W, R) size (zX W l R) (List.replicate (zX W l R).length hd0) := by
  refine ⟨r3.same (by omega) fun n hn => ?_, zt _ _ _, hL3'.keep (by omega) fun n hn _ => ?_, ?_, by omega, fun n hn => ⟨?_, fun h => ?_, fun h => ?_⟩, ⟨fun h => ?_, fun h => ?_⟩, fun n hn h => ?_⟩
  ·rw [zu _ _ _ _ (by omega), zu _ _ _ _ (by omega)]
  ·rw [zu _ _ _ _ (by omega), zu _ _ _ _ (by omega)]
  ·refine ⟨_, _, by rw [List.length_replicate], fun n hn => (by have hn : n ∈ [c3] := hn; simp at hn; omega), fun _ => ⟨c3, true, [], rfl, ?_, rfl⟩⟩
   rw [zu _ _ _ _ (by omega), zt, List.append_nil]
  ·have := hnm n hn; omega
  ·have := hnm n hn; have := (hnL n h).1; omega
  ·have := hnm n hn; have h : n ∈ [c3] := h; simp at h; omega
  ·have := (hnL _ h).2; omega
  ·have h : c3 + 1 ∈ [c3] := h; simp at h
  ·have := (hnL n hn).2; have h : n ∈ [c3] := h; simp at h; omega
 have hsln : ∀ n ∈ sln a (c3 + 1) vW (.slice sR R.length capR) (.slice sL (zX W l R).length capL) (.slice (some (c3, 0)) (zX W l R).length (.known (zX W l R).length)), n ∈ mn a vW (.slice sR R.length capR) \/ (c2 <= n /\ n < c3 + 1 + 1) := fun n hn => by
  rcases zl hn with h | h
  ·exact .inr (by omega)
  ·rcases zk h with h | h
   ·exact .inl h
   ·rcases zk h with h | h
    ·exact .inr (by have := hnL n h; omega)
    ·have h : n ∈ [c3] := h; simp at h; exact .inr (by omega)
 generalize hvH : V.slice (some (c3, 0)) (zX W l R).length (.known (zX W l R).length) = vH at s4 hsln
 have hsub : ∀ n ∈ sln a (c3 + 1) vW (.slice sR R.length capR) (.slice sL (zX W l R).length capL) vH, n ∈ mn a vW (.slice sR R.length capR) \/ c <= n := fun n hn => (hsln n hn).imp id fun h => by omega
 generalize hvL : V.slice sL (zX W l R).length capL = vL at s4 hsln hsub
 have hgc4 : MapI.get (MapI.set (MapI.set h3 c3 (.cells true true (flat hdV (List.replicate (zX W l R).length hd0)))) (c3 + 1) (.cells true true [.ptr (some (a, 0)), .slice sR R.length capR, vL, vH])) c = some (.cells true true [I 0, .slice none 0 (.known 0), I 0]) := by
  rw [zu _ _ _ _ (by omega), zu _ _ _ _ (by omega), hf3 c (by omega), hf2 c (by omega)]; exact hgc1
 subst hvL
 subst hvH
 refine zL rfl rfl (yj rfl (gone_ok s4 so) hsub (by omega) fun v5 h5 c5 hc5 _ hq => ?_)
 obtain ⟨hG, hGn, hf5⟩ := hq
 have s5 := s4.same hc5 hf5
 have hgc5 : MapI.get h5 c = some (.cells true true [I 0, .slice none 0 (.known 0), I 0]) := by rw [hf5 c (by omega)]; exact hgc4
 have hGlt := hG.lt
 obtain ⟨sG, capG, hvG⟩ : ∃ s cap, v5 = .slice s (yx W R l l).length cap := by obtain ⟨s, cap, e, _⟩ := hG.shape; exact ⟨s, cap, e⟩
 subst hvG
 repeat' (first | refine zJ (a := Code.seq (Code.region 6 _ _) _) (fun e' h' c' => ∃ m C val, (∃ b0, e' = FR b0 [(0, V.ptr (some (a, 0))), (4, V.ptr (some (c, 0))), (8, V.ptr (some (c3 + 1, 0))), (9, .slice sG (yx W R l l).length capG)]) /\ SlAt h' c' a (c3 + 1) vW (.slice sR R.length capR) (.slice sL (zX W l R).length capL) (.slice (some (c3, 0)) (zX W l R).length (.known (zX W l R).length)) m size (zX W l R) (List.replicate (zX W l R).length hd0) /\ UpI W R l (fun _ => False) (PrOf R []) m C val /\ ListOf 1 yG h' c' (.slice sG (yx W R l l).length capG) (yx W R l l) /\ MapI.get h' c = some (.cells true true [I 0, .slice none 0 (.known 0), I 0]) /\ c5 <= c') ?_ ?_ | apply zw | apply zx | apply zB | apply zK | refine za rfl rfl (fun _ => rfl) ?_)
 ·
  skip
  refine zI ?_
  refine zQ (X := Nat × MM × (Nat -> List Fld) × (Fld -> Int)) (fun y e' h' c' => (∃ b0, e' = FR b0 [(0, V.ptr (some (a, 0))), (1, .slice sR R.length capR), (4, V.ptr (some (c, 0))), (8, V.ptr (some (c3 + 1, 0))), (9, .slice sG (yx W R l l).length capG), (33, .slice sR R.length capR), (34, I R.length), (35, I y.1)]) /\ y.1 <= R.length /\ SlAt h' c' a (c3 + 1) vW (.slice sR R.length capR) (.slice sL (zX W l R).length capL) (.slice (some (c3, 0)) (zX W l R).length (.known (zX W l R).length)) y.2.1 size (zX W l R) (List.replicate (zX W l R).length hd0) /\ UpI W R l (fun _ => False) (fun f => f.1 = true /\ f.2 < y.1) y.2.1 y.2.2.1 y.2.2.2 /\ ListOf 1 yG h' c' (.slice sG (yx W R l l).length capG) (yx W R l l) /\ MapI.get h' c = some (.cells true true [I 0, .slice none 0 (.known 0), I 0]) /\ c5 <= c')
   (fun y => R.length - y.1) ?_ (0, (W, R), _, _) _ _ _ ⟨fr ⟨rfl, rfl, rfl, rfl, rfl, rfl, rfl, rfl, trivial⟩, Nat.zero_le _, s5, (UpI.start so).congr (fun q => Iff.rfl) (fun f => ⟨fun h => h.elim, fun h => by omega⟩), hG, hgc5, Nat.le_refl _⟩
  rintro ⟨j, m, C, val⟩ e' h' c' ⟨⟨b0, rfl⟩, hj, s', u, hG', hg', hc'⟩
  simp only at hj s' u
  repeat' (first | apply zw | apply zx | apply zK | refine za rfl rfl (fun _ => rfl) ?_)
  refine zH rfl (fun hlt => ?_) (fun hge => ?_)
  case refine_2 =>
   have hge : R.length <= j := by simpa using hge
   have hje : j = R.length := by omega
   subst hje
   repeat' (first | apply zF | refine zU ?_ | refine ji ?_ | refine jr rfl ?_)
   refine ⟨m, C, val, fr ?_, s', u.congr (fun q => Iff.rfl) (fun f => ⟨fun h => .inl h, fun h => h.elim id fun ⟨_, p, x, k, hm, _⟩ => (by cases hm)⟩), hG', hg', hc'⟩
   exact ⟨rfl, rfl, rfl, rfl, trivial⟩
  have hlt : j < R.length := by simpa using hlt
  have hfld : gp W R l (true, j) := .inl ⟨rfl, hlt⟩
  have hPr : ¬ ((true, j) : Fld).1 = true \/ ¬ ((true, j) : Fld).2 < j := .inr (Nat.lt_irrefl j)
  have hPr : ¬ (((true, j) : Fld).1 = true /\ ((true, j) : Fld).2 < j) := fun h => Nat.lt_irrefl j h.2
  obtain ⟨w, hw, hlv, _⟩ := fld_val so hfld
  obtain ⟨hm2, _, _⟩ := u.at so hfld hPr hw
  have wj : IntKind.i64.wrap ((j : Int) + 1) = ((j + 1 : Nat) : Int) := by rw [Go.IntWalk.i64_in _ (by omega)]; omega
  have hPK : ∀ f : Fld, (f = (true, j) \/ (f.1 = true /\ f.2 < j)) ↔ (f.1 = true /\ f.2 < j + 1) := fun f => by
   obtain ⟨b, z⟩ := f
   constructor
   ·rintro (h | ⟨h1, h2⟩)
    ·cases h; exact ⟨rfl, Nat.lt_succ_self j⟩
    ·exact ⟨h1, Nat.lt_succ_of_lt h2⟩
   ·rintro ⟨h1, h2⟩
    simp only at h1 h2
    subst h1
    rcases Nat.lt_or_ge z j with h | h
    ·exact .inr ⟨rfl, h⟩
    ·have : z = j := by omega
     subst this; exact .inl rfl
  by_cases t5 : yL w = 5
  ·obtain ⟨q, hq, hLq⟩ := hlv t5
   obtain ⟨hx', hne, u3⟩ := u.thread so hfld hPr hw t5 hq fun d hd => hd.elim
   repeat' (first | apply zw | apply zx | apply zz | apply zB | apply zK | refine za rfl rfl (fun _ => rfl) ?_)
   refine zL rfl rfl (yj rfl (thread_okI (b := true) (i := j) rfl s'.mem hm2 t5 hq hx' (fun h => by cases h.1)) (fun n hn => .inl hn) (by omega) fun v9 h9 c9 hc9 hf9 hq9 => ?_)
   obtain ⟨rfl, r9⟩ := hq9
   repeat' (first | apply zx | apply zK | refine za rfl rfl (fun _ => rfl) ?_ | refine zU ?_)
   refine ⟨(j + 1, _, _, _), by simp only; omega, ?_, by simp only; omega, s'.mems r9 hc9 hf9, u3.congr (fun q => Iff.rfl) hPK, hG'.keep hc9 fun n hn hm => hf9 n hn fun hh => (by have := hnm n hh; have := hGn n hm; omega), by rw [hf9 c (by omega) (fun hh => by have := hnm c hh; omega)]; exact hg', by omega⟩
   rw [wj]
   exact fr ⟨rfl, rfl, rfl, rfl, rfl, rfl, rfl, rfl, trivial⟩
  ·have u3 := u.skip so hfld hPr hw t5
   repeat' (first | apply zw | apply zx | apply zz | apply zB | apply zK | refine za rfl rfl (fun _ => rfl) ?_)
   refine zL rfl rfl (yj rfl (thread_noI (b := true) (i := j) rfl s'.mem hm2 t5) (fun n hn => .inl hn) (by omega) fun v9 h9 c9 hc9 hf9 hq9 => ?_)
   obtain ⟨rfl, hf9'⟩ := hq9
   repeat' (first | apply zx | apply zK | refine za rfl rfl (fun _ => rfl) ?_ | refine zU ?_)
   refine ⟨(j + 1, m, C, val), by simp only; omega, ?_, by simp only; omega, s'.same hc9 hf9', u3.congr (fun q => Iff.rfl) hPK, hG'.keep hc9 fun n hn hm => hf9' n hn, by rw [hf9' c (by omega)]; exact hg', by omega⟩
   rw [wj]
   exact fr ⟨rfl, rfl, rfl, rfl, rfl, rfl, rfl, rfl, trivial⟩
 rintro e h6 c6 ⟨m, C, val, ⟨b0, rfl⟩, s6, u6, hG6, hgc6, hc6⟩
 have hcn : c ∉ sln a (c3 + 1) vW (.slice sR R.length capR) (.slice sL (zX W l R).length capL) (.slice (some (c3, 0)) (zX W l R).length (.known (zX W l R).length)) := fun hh => by
  rcases hsln c hh with h | h
  ·have := hnm c h; omega
  ·omega
 have hGs : ∀ n ∈ zS (.slice sG (yx W R l l).length capG), n ∉ sln a (c3 + 1) vW (.slice sR R.length capR) (.slice sL (zX W l R).length capL) (.slice (some (c3, 0)) (zX W l R).length (.known (zX W l R).length)) := fun n hn hh => by
  have h1 := hGn n hn
  rcases hsln n hh with h | h
  ·have := hnm n h; omega
  ·omega
 repeat' (first | apply zw | apply zx | refine za rfl rfl (fun _ => rfl) ?_)
 refine zL rfl rfl (yj rfl (up_ok so s6 (List.length_replicate ..) u6) hsub (by omega) fun v7 h7 c7 hc7 hf7 hq7 => ?_)
 obtain ⟨m7, C7, val7, s7, u7⟩ := hq7
 have hG7 := hG6.keep hc7 fun n hn hm => hf7 n hn (hGs n hm)
 have hgc7 : MapI.get h7 c = some (.cells true true [I 0, .slice none 0 (.known 0), I 0]) := by rw [hf7 c (by omega) hcn]; exact hgc6
 repeat' (first | apply zw | apply zx | apply zK | refine za rfl rfl (fun _ => rfl) ?_)
 refine zL rfl rfl (yj rfl (down_ok so s7 (DnI.start so u7 (fun q h => h) (fun f h => h))) hsub (by omega) fun v8 h8 c8 hc8 hf8 hq8 => ?_)
 obtain ⟨⟨mv, rfl⟩, vW', r8, hn8⟩ := hq8
 have hG8 := hG7.keep hc8 fun n hn hm => hf8 n hn (hGs n hm)
 have hgc8 : MapI.get h8 c = some (.cells true true [I 0, .slice none 0 (.known 0), I 0]) := by rw [hf8 c (by omega) hcn]; exact hgc7
 have hn8' : ∀ n ∈ an a vW', n ∈ mn a vW (.slice sR R.length capR) \/ c <= n := fun n hn => by
  rcases zl hn with h | h
  ·exact .inl (zh _ (by rw [h]; exact zq ..))
  ·exact .inl (zh _ (zg _ (hn8 n h)))
 have hGone := hG8.one
 repeat' (first | apply zw | apply zx | apply zK | refine za rfl rfl (fun _ => rfl) ?_)
 refine zL rfl rfl (yg rfl (g7 r8.ar) hn8' (by omega) fun v9 h9 c9 hc9 _ hq9 => ?_)
 obtain ⟨rfl, rfl, rfl⟩ := hq9
 repeat' (first | apply zG | apply zK | refine za rfl rfl (fun _ => rfl) ?_ | refine zL rfl rfl (ya (k := 3) rfl rfl rfl rfl hgc8 (zf rfl) rfl ⟨(by simp [zc] <;> omega), ?_⟩))
 have hG9 : ∀ {o : AObj}, ListOf 1 yG (MapI.set h8 c o) c8 (.slice sG (yx W R l l).length capG) (yx W R l l) := fun {o} => hG8.keep (Nat.le_refl _) fun n _ hn => zu _ _ _ _ (by have := hGn n hn; omega)
 have r9 : ∀ {o : AObj}, Mem (MapI.set h8 c o) c8 a vW' (.slice sR R.length capR) (yh W R l (zX W l R)) (R.map (mvW W R l)) size := fun {o} => r8.keep (Nat.le_refl _) fun n _ hn => zu _ _ _ _ (by
  rcases zk hn with h | h
  ·rcases zl h with h | h
   ·have := hnm a (zh _ (zq ..)); omega
   ·have := hnm n (zh _ (zg _ (hn8 n h))); omega
  ·have := hnm n (zi _ h); omega)
 refine jo (.cellA (k := 3) rfl rfl rfl rfl (zt _ _ _) rfl (.tmp rfl .nil)) ?_ ⟨_, mv, vW', rfl, r9, hn8, hG9, fun n hn => by have := hGn n hn; omega⟩
 intro x hx
 simp at hx
 subst hx
 exact .inr (Nat.le_refl _)
end
open Go.Ab
section
variable {e : EE} {h : HH} {c : Nat} {ds : Option Tmp} {ty : Nat} {pos : String} {af : Array Edge} {gd : Option (Nat × Bool)} {K : V -> HH -> Nat -> List Acc -> Prop} {call : Nat -> Tgt -> List V -> M HH V}
theorem op_max {args : Array Operand} {ats : Array Nat} {k : IntKind} {a b z : Int} (ha : evs cx e args.toList = some [.int k a, .int k b]) (hz : (if b > a then b else a) = z) (q : K (.int k z) h c []) :
  WpX (fun n => opM cx (call n) e ⟨ds, .call ⟨.builtin .max, args, ats⟩, ty, pos, af, gd⟩) h c K :=
 zT (fun k' => by
  subst hz
  show callM cx (call k') e ⟨.builtin .max, args, ats⟩ h c = _
  unfold callM
  simp only [ha]
  refine yr (l := []) (l' := []) jG ?_
  simp only [builtinM, maxV, maxI, if_true]
  rfl) q
end
def jE (most n : Int) : Int := min (max (2 * n) 32) most
structure HeapAt (h : HH) (c hp a sp : Nat) (vW : V) (W : List Int) (size most : Int) : Prop where
 obj : MapI.get h hp = some (.cells true true [.ptr (some (a, 0)), .ptr (some (sp, 0)), I most, .bool false])
 ar : ArAt h c a vW W size
 lh : hp < c
 sep : hp ∉ an a vW
 mo : size <= most
 m0 : 0 <= most
 mx : most <= 1048576
abbrev hn (hp a : Nat) (vW : V) : List Nat := hp :: an a vW
section
variable {h h' : HH} {c c' hp a sp : Nat} {vW vR : V} {W R : List Int} {size most : Int} {l : List (Nat × Hd)}
theorem HeapAt.keep (r : HeapAt h c hp a sp vW W size most) (hc : c <= c') (e : ∀ n, n < c -> n ∈ hn hp a vW -> MapI.get h' n = MapI.get h n) : HeapAt h' c' hp a sp vW W size most :=
 ⟨by rw [e hp r.lh (zq ..)]; exact r.obj, r.ar.keep hc fun n h1 h2 => e n h1 (zg _ h2), Nat.lt_of_lt_of_le r.lh hc, r.sep, r.mo, r.m0, r.mx⟩
theorem HeapAt.same (r : HeapAt h c hp a sp vW W size most) (hc : c <= c') (e : ∀ n, n < c -> MapI.get h' n = MapI.get h n) : HeapAt h' c' hp a sp vW W size most := r.keep hc fun n hn _ => e n hn
theorem HeapAt.names (r : HeapAt h c hp a sp vW W size most) : ∀ n ∈ hn hp a vW, n < c := fun n hn => by
 rcases zl hn with h | h
 ·rw [h]; exact r.lh
 ·exact r.ar.names n h
theorem room_ok {n : Int} (ho : MapI.get h hp = some (.cells true true [vW, vR, I most, .bool false])) (hlt : hp < c) (hn : 0 <= n /\ n <= 4000000) : DoesR 26 [.ptr (some (hp, 0)), I n] h c [hp] fun v h' c' => v = I (jE most n) /\ h = h' /\ c = c' := by
 have w2 : IntKind.i64.wrap (2 * n) = 2 * n := Go.IntWalk.i64_in _ (by omega)
 have e1 : (if (32 : Int) > IntKind.i64.wrap (2 * n) then 32 else IntKind.i64.wrap (2 * n)) = max (2 * n) 32 := by rw [w2]; split <;> omega
 have e2 : (if most < max (2 * n) 32 then most else max (2 * n) 32) = jE most n := by unfold jE; split <;> omega
 refine yN (enter (fn := Tryz.f26) Tryz.func26 rfl rfl (zf rfl) ?_)
 repeat' (first | refine zL rfl rfl (op_min rfl e2 ⟨zV, ?_⟩) | refine zL rfl rfl (op_max rfl e1 ⟨zV, ?_⟩) | apply zw | apply zx | apply zG | apply zK | refine za rfl rfl (fun _ => rfl) ?_ | refine zL rfl rfl (zW rfl rfl rfl ho rfl ⟨(by simp [InR, Acc.name, Acc.writes, zS] <;> omega), ?_⟩))
 exact z6 rfl ⟨rfl, rfl, rfl⟩
theorem gt (r : HeapAt h c hp a sp vW W size most) : DoesR 33 [.ptr (some (hp, 0))] h c [hp] fun v h' c' => v = .bool true /\ h = h' /\ c = c' := by
 have hobj := r.obj
 refine yN (enter (fn := Tryz.f33) Tryz.func33 rfl rfl (zf rfl) ?_)
 repeat' (first | apply zw | apply zx | apply zG | apply zK | refine za rfl rfl (fun _ => rfl) ?_ | refine zL rfl rfl (zW rfl rfl rfl hobj rfl ⟨(by simp [InR, Acc.name, Acc.writes, zS] <;> omega), ?_⟩))
 exact z6 rfl ⟨rfl, rfl, rfl⟩
theorem arena_ok (r : HeapAt h c hp a sp vW W size most) : DoesR 21 [.ptr (some (hp, 0))] h c [hp] fun v h' c' => v = .ptr (some (a, 0)) /\ h = h' /\ c = c' := by
 have hobj := r.obj
 refine yN (enter (fn := Tryz.f21) Tryz.func21 rfl rfl (zf rfl) ?_)
 repeat' (first | apply zw | apply zx | apply zK | refine za rfl rfl (fun _ => rfl) ?_ | refine zU ?_)
 refine zd rfl ?_
 repeat' (first | apply zw | apply zx | apply zz | apply zG | apply zK | refine za rfl rfl (fun _ => rfl) ?_ | refine zL rfl rfl (zW rfl rfl rfl hobj rfl ⟨(by simp [InR, Acc.name, Acc.writes, zS] <;> omega), ?_⟩))
 exact z6 rfl ⟨rfl, rfl, rfl⟩
theorem hused_ok (r : HeapAt h c hp a sp vW W size most) : DoesR 19 [.ptr (some (hp, 0))] h c (hn hp a vW) fun v h' c' => v = I W.length /\ h = h' /\ c = c' := by
 refine yN (enter (fn := Tryz.f19) Tryz.func19 rfl rfl (zf rfl) ?_)
 repeat' (first | apply zw | apply zx | apply zK | refine za rfl rfl (fun _ => rfl) ?_)
 refine zL rfl rfl (yZ rfl (arena_ok r) (fun n hn => .inl (by simp at hn; rw [hn]; exact zq ..)) (Nat.le_refl _) fun v h4 c4 hc4 hfr4 hq => ?_)
 obtain ⟨rfl, rfl, rfl⟩ := hq
 skip
 refine zL rfl rfl (yZ rfl (g7 r.ar) (fun n hn => .inl (zg _ hn)) (Nat.le_refl _) fun v h4 c4 hc4 hfr4 hq => ?_)
 obtain ⟨rfl, rfl, rfl⟩ := hq
 repeat' (first | apply zG | apply zK | refine za rfl rfl (fun _ => rfl) ?_)
 exact z6 rfl ⟨rfl, rfl, rfl⟩
theorem hcap_ok (r : HeapAt h c hp a sp vW W size most) : DoesR 18 [.ptr (some (hp, 0))] h c (hn hp a vW) fun v h' c' => v = I size /\ h = h' /\ c = c' := by
 refine yN (enter (fn := Tryz.f18) Tryz.func18 rfl rfl (zf rfl) ?_)
 repeat' (first | apply zw | apply zx | apply zK | refine za rfl rfl (fun _ => rfl) ?_)
 refine zL rfl rfl (yZ rfl (arena_ok r) (fun n hn => .inl (by simp at hn; rw [hn]; exact zq ..)) (Nat.le_refl _) fun v h4 c4 hc4 hfr4 hq => ?_)
 obtain ⟨rfl, rfl, rfl⟩ := hq
 skip
 refine zL rfl rfl (yZ rfl (gA r.ar) (fun n hn => .inl (zg _ hn)) (Nat.le_refl _) fun v h4 c4 hc4 hfr4 hq => ?_)
 obtain ⟨rfl, rfl, rfl⟩ := hq
 repeat' (first | apply zG | apply zK | refine za rfl rfl (fun _ => rfl) ?_)
 exact z6 rfl ⟨rfl, rfl, rfl⟩
theorem anew_ok {n : Int} (hn : 0 <= n /\ n <= 1048576) : Does 25 [I n] h c [] fun v h' c' => v = .ptr (some (c, 0)) /\ c' = c + 1 /\ ArAt h' c' c (.slice none 0 (.known 0)) [] n /\ ∀ m, m < c -> MapI.get h' m = MapI.get h m := by
 have e1 : decide (n < 0) = false := by simp; omega
 have e2 : decide (n > 1048576) = false := by simp; omega
 refine yi (enter (fn := Tryz.f25) Tryz.func25 rfl rfl (zf rfl) ?_)
 repeat' (first | apply zw | apply zx | apply zK | refine za rfl rfl (fun _ => rfl) ?_)
 simp only [e1]
 repeat' (first | apply zK | refine za rfl rfl (fun _ => rfl) ?_ | refine zU ?_)
 refine zH rfl (fun hb => by rw [show decide (n > 1048576) = false from e2] at hb; cases hb) (fun _ => ?_)
 repeat' (first | apply zw | apply zx | apply zz | apply zG | apply zK | refine za rfl rfl (fun _ => rfl) ?_ | refine zL rfl rfl (yK rfl ⟨(by simp [zc] <;> omega), ?_⟩))
 refine z6 rfl ⟨rfl, rfl, ⟨zt _ _ _, .nil, Nat.lt_succ_self _, fun n hn => (by cases hn), fun x hx => (by cases hx), by simp; omega, by omega⟩, fun m hm => zu _ _ _ _ (by omega)⟩
theorem hnew_ok (hm : 0 <= most /\ most <= 1048576) : Does 7 [I most, .ptr (some (sp, 0))] h c [] fun v h' c' => v = .ptr (some (c, 0)) /\ ∃ a, HeapAt h' c' c a sp (.slice none 0 (.known 0)) [] (min 32 most) most /\ c < a /\ ∀ m, m < c -> MapI.get h' m = MapI.get h m := by
 have e1 : decide (most < 0) = false := by simp; omega
 have e2 : decide (most > 1048576) = false := by simp; omega
 have hr : jE most 0 = min 32 most := by unfold jE; omega
 refine yi (enter (fn := Tryz.f7) Tryz.func7 rfl rfl (zf rfl) ?_)
 repeat' (first | apply zw | apply zx | apply zK | refine za rfl rfl (fun _ => rfl) ?_)
 simp only [e1]
 repeat' (first | apply zK | refine za rfl rfl (fun _ => rfl) ?_ | refine zU ?_)
 refine zH rfl (fun hb => by rw [show decide (most > 1048576) = false from e2] at hb; cases hb) (fun _ => ?_)
 repeat' (first | apply zw | apply zx | apply zz | apply zK | refine za rfl rfl (fun _ => rfl) ?_ | refine zL rfl rfl (yK rfl ⟨(by simp [zc] <;> omega), ?_⟩))
 refine zL rfl rfl (yg rfl (room_ok (zt _ _ _) (by omega) (by decide)) (fun n hn => .inr (by simp at hn; omega)) (by omega) fun v4 h4 c4 hc4 _ hq => ?_)
 obtain ⟨rfl, rfl, rfl⟩ := hq
 rw [hr]
 skip
 refine zL rfl rfl (yj rfl (anew_ok (by omega)) (fun n hn => by cases hn) (by omega) fun v5 h5 c5 hc5 _ hq => ?_)
 obtain ⟨rfl, rfl, hA, hf5⟩ := hq
 have hg5 : MapI.get h5 c = some (.cells true true [.ptr none, .ptr (some (sp, 0)), I most, .bool false]) := by rw [hf5 c (by omega)]; exact zt _ _ _
 repeat' (first | apply zw | apply zx | apply zG | apply zK | refine za rfl rfl (fun _ => rfl) ?_ | refine zL rfl rfl (ya (k := 1) rfl rfl rfl rfl hg5 (zf rfl) rfl ⟨(by simp [zc] <;> omega), ?_⟩))
 refine z6 rfl ⟨rfl, c + 1, ⟨zt _ _ _, hA.keep (Nat.le_refl _) fun n hn hm => zu _ _ _ _ ?_, by omega, ?_, by omega, hm.1, hm.2⟩, by omega, fun m hm => ?_⟩
 ·rcases zl hm with h | h
  ·omega
  ·cases h
 ·intro hh
  rcases zl hh with h | h
  ·omega
  ·cases h
 ·rw [zu _ _ _ _ (by omega), hf5 m (by omega)]; exact zu _ _ _ _ (by omega)
end
open Go.Ab
def InP (ns : List Nat) : Acc -> Prop := fun x => x.name ∈ ns /\ x.writes = false
def DoesP (f : Nat) (xs : List V) (h : HH) (c : Nat) (ns : List Nat) (Q : V -> HH -> Nat -> Prop) : Prop := WpX (cl f xs) h c fun v h' c' l => (∀ x ∈ l, InP ns x) /\ Q v h' c'
theorem doesP_of {f : Nat} {xs : List V} {h : HH} {c : Nat} {ns : List Nat} {Q : V -> HH -> Nat -> Prop} (w : WpX (cl f xs) h c fun v h' c' l => (∀ x ∈ l, InP ns x) /\ Q v h' c') : DoesP f xs h c ns Q := w
theorem gP {f : Nat} {args : Array Operand} {ats : Array Nat} {xs : List V} {e : EE} {h : HH} {c c0 : Nat} {ns ms : List Nat} {Q : V -> HH -> Nat -> Prop} {K : V -> HH -> Nat -> List Acc -> Prop} {ds : Option Tmp} {ty : Nat} {pos : String} {af : Array Edge} {gd : Option (Nat × Bool)}
  (ha : evs cx e args.toList = some xs) (w : DoesP f xs h c ns Q) (h1 : ∀ n ∈ ns, n ∈ ms \/ c0 <= n)
  (k : ∀ v h' c' al, (∀ x ∈ al, x.writes = false) -> Q v h' c' -> K v h' c' al) :
  WpX (fun n => opM cx (evFn EE cx pr n) e ⟨ds, .call ⟨.value (.func f), args, ats⟩, ty, pos, af, gd⟩) h c fun v h' c' al => (∀ x ∈ al, InL ms c0 x) /\ K v h' c' al :=
 g9 (call := fun n => evFn EE cx pr n) ha (WpX.mono w fun v h' c' l ⟨a, q⟩ => ⟨fun x hx => h1 _ (a x hx).1, k v h' c' l (fun x hx => (a x hx).2) q⟩)
section
variable {h h' : HH} {c c' hp a sp : Nat} {vW vR : V} {W R : List Int} {size most : Int} {l : List (Nat × Hd)}
theorem used_okP (r : ArAt h c a vW W size) : DoesP 45 [.ptr (some (a, 0))] h c (an a vW) fun v h' c' => v = I W.length /\ h = h' /\ c = c' := by
 have hobj := r.obj
 obtain ⟨s, cap, rfl, hs⟩ := r.w.shape
 refine doesP_of (enter (fn := Tryz.f45) Tryz.func45 rfl rfl (zf rfl) ?_)
 repeat' (first | apply zw | apply zx | apply zK | refine za rfl rfl (fun _ => rfl) ?_ | refine zU ?_)
 refine zd rfl ?_
 repeat' (first | apply zw | apply zx | apply zz | apply zG | apply zK | refine za rfl rfl (fun _ => rfl) ?_ | refine zL rfl rfl (zW rfl rfl rfl hobj rfl ⟨(by simp [InP, Acc.name, Acc.writes, zS]), ?_⟩))
 exact z6 rfl ⟨rfl, rfl, rfl⟩
theorem size_okP (r : ArAt h c a vW W size) : DoesP 44 [.ptr (some (a, 0))] h c (an a vW) fun v h' c' => v = I size /\ h = h' /\ c = c' := by
 have hobj := r.obj
 refine doesP_of (enter (fn := Tryz.f44) Tryz.func44 rfl rfl (zf rfl) ?_)
 repeat' (first | apply zw | apply zx | apply zK | refine za rfl rfl (fun _ => rfl) ?_ | refine zU ?_)
 refine zd rfl ?_
 repeat' (first | apply zw | apply zx | apply zz | apply zG | apply zK | refine za rfl rfl (fun _ => rfl) ?_ | refine zL rfl rfl (zW rfl rfl rfl hobj rfl ⟨(by simp [InP, Acc.name, Acc.writes, zS]), ?_⟩))
 exact z6 rfl ⟨rfl, rfl, rfl⟩
theorem room_okP {n nz : Int} (hnz : nz = n) (ho : MapI.get h hp = some (.cells true true [vW, vR, I most, .bool false])) (hn : 0 <= n /\ n <= 4000000) : DoesP 26 [.ptr (some (hp, 0)), I nz] h c [hp] fun v h' c' => v = I (jE most n) /\ h = h' /\ c = c' := by
 subst hnz
 have w2 : IntKind.i64.wrap (2 * nz) = 2 * nz := Go.IntWalk.i64_in _ (by omega)
 have e1 : (if (32 : Int) > IntKind.i64.wrap (2 * nz) then 32 else IntKind.i64.wrap (2 * nz)) = max (2 * nz) 32 := by rw [w2]; split <;> omega
 have e2 : (if most < max (2 * nz) 32 then most else max (2 * nz) 32) = jE most nz := by unfold jE; split <;> omega
 refine doesP_of (enter (fn := Tryz.f26) Tryz.func26 rfl rfl (zf rfl) ?_)
 repeat' (first | refine zL rfl rfl (op_min rfl e2 ⟨zV, ?_⟩) | refine zL rfl rfl (op_max rfl e1 ⟨zV, ?_⟩) | apply zw | apply zx | apply zG | apply zK | refine za rfl rfl (fun _ => rfl) ?_ | refine zL rfl rfl (zW rfl rfl rfl ho rfl ⟨(by simp [InP, Acc.name, Acc.writes, zS]), ?_⟩))
 exact z6 rfl ⟨rfl, rfl, rfl⟩
structure HM (h : HH) (c hp a sp : Nat) (vW vR : V) (W R : List Int) (size most : Int) : Prop where
 hm : HeapAt h c hp a sp vW W size most
 rr : RowOf 1 ye h c vR R
 sep : ∀ n ∈ zS vR, n ∉ hn hp a vW
 ok : ∀ w ∈ R, okW w
 len : R.length <= 100000000
abbrev hmn (hp a : Nat) (vW vR : V) : List Nat := hn hp a vW ++ zS vR
theorem HM.mem (r : HM h c hp a sp vW vR W R size most) : Mem h c a vW vR W R size :=
 ⟨r.hm.ar, r.rr, fun n hn => ⟨fun e => r.sep n hn (by rw [e]; exact zg _ (zq ..)), fun h => r.sep n hn (zg _ (zg _ h))⟩, r.ok, r.len⟩
theorem HM.keep (r : HM h c hp a sp vW vR W R size most) (hc : c <= c') (e : ∀ n, n < c -> n ∈ hmn hp a vW vR -> MapI.get h' n = MapI.get h n) : HM h' c' hp a sp vW vR W R size most :=
 ⟨r.hm.keep hc fun n hn hm => e n hn (zh _ hm), r.rr.keep hc fun n hn hm => e n hn (zi _ hm), r.sep, r.ok, r.len⟩
theorem HM.same (r : HM h c hp a sp vW vR W R size most) (hc : c <= c') (e : ∀ n, n < c -> MapI.get h' n = MapI.get h n) : HM h' c' hp a sp vW vR W R size most := r.keep hc fun n hn _ => e n hn
theorem HM.names (r : HM h c hp a sp vW vR W R size most) : ∀ n ∈ hmn hp a vW vR, n < c := fun n hn => by
 rcases zk hn with h | h
 ·exact r.hm.names n h
 ·exact r.rr.lt n h
theorem kV (so : SoundW W R l) : (yh W R l (zX W l R)).length <= W.length := by
 have := slid_len_le (W0 := W) (R0 := R) (l := l) so.objs (L := zX W l R) List.filter_sublist
 omega
end
end Go.Proofs.YtjnfjnmgfpffcaaGreat
namespace Go.Proofs.YtjnfjnmgfpffcaaGreat
end Go.Proofs.YtjnfjnmgfpffcaaGreat
