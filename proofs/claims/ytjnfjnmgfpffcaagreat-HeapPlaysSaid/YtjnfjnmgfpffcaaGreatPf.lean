/- The reference: Slide. Heaps of objects that point at nothing: what a slide leaves, what goes. The heap: collecting, where handles go. The heap: Make of a Bin, which holds its handle. The heap: Make of any kind, Need where handles go. The heap: Need, where handles go; a new heap of any size. The reference heap: new, grow, Collect, Need. The reference heap: Need, Make. The reference heap: Make. Handles of all objects: what goes, what stays, what comes. Words of two rows, compared; an arena's words. The law's fields. The document's store: Live, Handles, Look; Ints. -/
import Derived.Test.YtjnfjnmgfpffcaaGreatPe
import Derived.Test.YtjnfjnmgfpffcaaGreatPd
import Derived.Test.YtjnfjnmgfpffcaaGreatPc
set_option linter.unusedVariables false
set_option linter.unusedSectionVars false
set_option linter.unusedSimpArgs false
set_option linter.unnecessarySimpa false
set_option maxRecDepth 10000
namespace Go.Proofs.YtjnfjnmgfpffcaaGreat
open Go.Ab
section
variable {h h' : HH} {c c' a : Nat} {vW vR vF vT : V} {W R : List Int} {size : Int} {l : List (Nat × Hd)}
theorem fin_head (so : SoundW W R l) {p : Nat} {x : Hd} {w : Int} (hp : (p, x) ∈ zX W l R) (hw : W[p]? = some w) : finW W R l p = w := finW_no (fun h => gC so h ⟨x, hp⟩) hw
theorem fin_fld {p j : Nat} {x : Hd} {w : Int} (hp : (p, x) ∈ zX W l R) (h1 : 1 <= j) (h2 : (j : Int) <= yc x) (hw : W[p + j]? = some w) : finW W R l (p + j) = mvW W R l w :=
 finW_fld (.inr ⟨rfl, p, x, j - 1, hp, by omega, by show p + j = p + 1 + (j - 1); omega⟩) hw
theorem fin_raw (so : SoundW W R l) {p j : Nat} {x : Hd} {w : Int} (hp : (p, x) ∈ zX W l R) (h0 : 0 <= yc x) (h2 : yc x < (j : Int)) (h3 : j < 1 + x.size.toNat) (hw : W[p + j]? = some w) : finW W R l (p + j) = w := by
 refine finW_no ?_ hw
 rintro (⟨hb, _⟩ | ⟨_, q, y, k, hq, hk, e⟩)
 ·cases hb
 ·have e : p + j = q + 1 + k := e
  have hle : yc y <= y.size := so.le _ (yQ hq)
  rcases Nat.lt_trichotomy p q with hh | hh | hh
  ·have := so.objs.apart (yQ hp) (yQ hq) hh; omega
  ·subst hh
   have := so.objs.fst_inj (yQ hp) (yQ hq)
   subst this
   omega
  ·have := so.objs.apart (yQ hq) (yQ hp) hh; omega
theorem objF_get {p j : Nat} {x : Hd} (hj : j < 1 + x.size.toNat) : (gM W R l (p, x))[j]? = some (finW W R l (p + j)) := by
 unfold gM
 rw [List.getElem?_map, List.getElem?_range hj]; rfl
theorem objF_snoc {p j : Nat} {x : Hd} (hj : j < 1 + x.size.toNat) : (gM W R l (p, x)).take (j + 1) = (gM W R l (p, x)).take j ++ [finW W R l (p + j)] := by
 rw [List.take_add_one, objF_get hj]; rfl
theorem mv_okW {w : Int} (hw : okW w) : okW (mvW W R l w) := by
 unfold mvW
 split
 ·exact kS ⟨by decide, by decide⟩
 ·exact hw
theorem fin_okW (hW : ∀ x ∈ W, okW x) (i : Nat) : okW (finW W R l i) := by
 have h0 : okW ((W[i]?).getD 0) := by
  cases e : W[i]? with
  | none => exact ⟨by decide, by decide⟩
  | some w => exact hW w (zo e)
 unfold finW
 split
 ·exact mv_okW h0
 ·exact h0
theorem slid_okW (hW : ∀ x ∈ W, okW x) (L : List (Nat × Hd)) : ∀ w ∈ yh W R l L, okW w := fun w hw => by
 unfold yh at hw
 obtain ⟨o, _, ho⟩ := List.mem_flatMap.1 hw
 unfold gM at ho
 obtain ⟨k, _, rfl⟩ := List.mem_map.1 ho
 exact fin_okW hW _
noncomputable def jV (W R : List Int) (l : List (Nat × Hd)) (i : Nat) : List Int := (R.take i).map (mvW W R l) ++ R.drop i
theorem kb (i : Nat) : (jV W R l i).length = R.length := by
 unfold jV
 rw [zr, List.length_map, List.length_take, List.length_drop]; omega
theorem rootsTo_get {i : Nat} {w : Int} (hw : R[i]? = some w) : (jV W R l i)[i]? = some w /\ (jV W R l i).set i (mvW W R l w) = jV W R l (i + 1) := by
 have hi := (zj hw).1
 have hl : ((R.take i).map (mvW W R l)).length = i := by rw [List.length_map, List.length_take]; omega
 have hd : R.drop i = w :: R.drop (i + 1) := by rw [List.drop_eq_getElem_cons hi, (zj hw).2]
 unfold jV
 rw [hd]
 constructor
 ·rw [List.getElem?_append_right (by omega), hl, Nat.sub_self]; rfl
 ·rw [List.set_append_right _ _ (by omega), hl, Nat.sub_self, List.set_cons_zero, List.take_add_one, hw, List.map_append, List.append_assoc]; rfl
theorem mv_eq {w : Int} : (if yL w = 5 then jQ (newPos (zX W l R) (yI w).toNat) else w) = mvW W R l w := rfl
set_option maxHeartbeats 4000000 in
theorem mslide_ok (r : Mem h c a vW vR W R size) (so : SoundW W R l) :
  Does 49 [.ptr (some (a, 0)), vR] h c (mn a vW vR) fun v h' c' => ∃ vG mv vW', v = .tuple [.agg [I (yh W R l (zX W l R)).length, vG, I mv], .bool true] /\
   Mem h' c' a vW' vR (yh W R l (zX W l R)) (R.map (mvW W R l)) size /\ (∀ n ∈ zS vW', c <= n) /\ ListOf 1 yG h' c' vG (yx W R l l) /\ ∀ n ∈ zS vG, c <= n := by
 obtain ⟨sR, capR, hvR⟩ : ∃ s cap, vR = .slice s R.length cap := by obtain ⟨s, cap, e, _⟩ := r.rr.shape; exact ⟨s, cap, e⟩
 subst hvR
 have hlr := r.len
 have hok := r.ok
 have hokW := r.ar.ok
 have hnm := r.names
 have hmx := r.ar.mx
 have hle := r.ar.le
 have hla := r.ar.la
 have hLl := jS so.objs
 have hsl := kV so
 have hlL : (zX W l R).length <= W.length := by
  have h1 : (zX W l R).length <= l.length := List.length_filter_le _ _
  omega
 have hsub1 : ∀ n ∈ an a vW, n ∈ mn a vW (.slice sR R.length capR) \/ c <= n := fun n hn => .inl (zh _ hn)
 refine yi (enterH (fn := Tryz.f49) Tryz.func49 rfl rfl (zf rfl) ?_)
 have r1 : ∀ o, Mem (MapI.set h c o) (c + 1) a vW (.slice sR R.length capR) W R size := fun o => r.same (by omega) fun n hn => zu _ _ _ _ (by omega)
 repeat' (first | apply zw | apply zx | apply zK | refine za rfl rfl (fun _ => rfl) ?_ | refine zL rfl rfl (yM rfl ⟨(by simp [zc] <;> omega), ?_⟩))
 refine zL rfl rfl (yj rfl (mmap_ok (r1 _).ar (r1 _).rr hok hlr so) (fun n hn => .inl hn) (by omega) fun v1 h1 c1 hc1 _ hq => ?_)
 obtain ⟨vF, vT, rfl, hF, hT, hFn, hTn, hf1⟩ := hq
 have hg1 : MapI.get h1 c = some (.cells true true [I 0, .slice none 0 (.known 0), I 0]) := by rw [hf1 c (by omega)]; exact zt _ _ _
 have hf1' : ∀ n, n < c -> MapI.get h1 n = MapI.get h n := fun n hn => by rw [hf1 n (by omega)]; exact zu _ _ _ _ (by omega)
 repeat' (first | apply zw | apply zx | apply zK | refine za rfl rfl (fun _ => rfl) ?_ | refine zU ?_)
 refine zd rfl ?_
 have r2 : ∀ o q, Mem (MapI.set (MapI.set h1 c1 o) c1 q) (c1 + 1) a vW (.slice sR R.length capR) W R size := fun o q => r.same (by omega) fun n hn => by
  rw [zu _ _ _ _ (by omega), zu _ _ _ _ (by omega)]; exact hf1' n hn
 repeat' (first | apply zw | apply zx | apply zz | apply zK | refine za rfl rfl (fun _ => rfl) ?_ | refine zL rfl rfl (yM rfl ⟨(by simp [zc] <;> omega), ?_⟩) | refine zL rfl rfl (ya (k := 3) rfl rfl rfl rfl (zt _ _ _) (zf rfl) rfl ⟨(by simp [zc] <;> omega), ?_⟩))
 refine zL rfl rfl (yj rfl (robjects_ok (r2 _ _).ar so.objs) hsub1 (by omega) fun v3 h3 c3 hc3 _ hq => ?_)
 obtain ⟨vA, rfl, hA, hAn, hf3⟩ := hq
 have hg3 : MapI.get h3 c1 = some (.cells true true [I 0, .slice none 0 (.known 0), I 0]) := by rw [hf3 c1 (by omega)]; exact zt _ _ _
 have hf3' : ∀ n, n < c1 -> MapI.get h3 n = MapI.get h1 n := fun n hn => by
  rw [hf3 n (by omega), zu _ _ _ _ (by omega), zu _ _ _ _ (by omega)]
 have hF3 : ListOf 1 yG h3 c3 vF (places (zX W l R)) := hF.keep (by omega) fun n hn _ => hf3' n hn
 have hT3 : ListOf 1 yG h3 c3 vT (qZ (newPos (zX W l R)) (zX W l R)) := hT.keep (by omega) fun n hn _ => hf3' n hn
 have hFlt := hF.lt
 have hTlt := hT.lt
 have hAlt := hA.lt
 have hL3 : (places (zX W l R)).length = (zX W l R).length := List.length_map _
 obtain ⟨sF, capF, rfl, hsF⟩ := hF3.shapeN hL3
 obtain ⟨sT, capT, rfl, hsT⟩ := hT3.shapeN (List.length_map _)
 obtain ⟨sA, capA, rfl, hsA⟩ := hA.shapeN (List.length_map _)
 have r3 : Mem h3 c3 a vW (.slice sR R.length capR) W R size := (r2 _ _).same hc3 hf3
 have hnp : ∀ o ∈ zX W l R, newPos (zX W l R) o.1 <= 100000000 := fun o ho => by
  have := (kI so (p := o.1) (x := o.2) ho (j := 0) (by omega)).2
  omega
 repeat' (first | refine zJ (a := Code.seq (Code.region 8 _ _) _) (fun e' h' c' => ∃ vO vG mv, (∃ b0, e' = FR b0 [(0, V.ptr (some (a, 0))), (1, .slice sR R.length capR), (4, V.ptr (some (c, 0))), (6, .slice sF (zX W l R).length capF), (7, .slice sT (zX W l R).length capT), (9, V.ptr (some (c1, 0))), (13, vO)]) /\ c3 <= c' /\ MapI.get h' c1 = some (.cells true true [I 0, vG, I mv]) /\ ListOf 1 yG h' c' vG (yx W R l l) /\ ListOf 1 ye h' c' vO (yh W R l (zX W l R)) /\ (∀ n ∈ zS vG, c3 <= n) /\ (∀ n ∈ zS vO, c3 <= n) /\ (∀ n, n < c3 -> n ≠ c1 -> MapI.get h' n = MapI.get h3 n)) ?_ ?_ | apply zw | apply zx | apply zB | apply zK | refine za rfl rfl (fun _ => rfl) ?_)
 ·
  skip
  refine zI ?_
  refine zQ (X := Nat × V × V × Int) (fun y e' h' c' => (∃ b0, e' = FR b0 [(0, V.ptr (some (a, 0))), (1, .slice sR R.length capR), (4, V.ptr (some (c, 0))), (6, .slice sF (zX W l R).length capF), (7, .slice sT (zX W l R).length capT), (9, V.ptr (some (c1, 0))), (10, .slice sA l.length capA), (12, I (yz W R l (l.take y.1)).length), (13, y.2.1), (14, I y.1)]) /\ y.1 <= l.length /\ c3 <= c' /\ MapI.get h' c1 = some (.cells true true [I 0, y.2.2.1, I y.2.2.2]) /\ ListOf (0 + 1) yG h' c' y.2.2.1 (yx W R l (l.take y.1)) /\ ListOf (0 + 1) ye h' c' y.2.1 (yh W R l (yz W R l (l.take y.1))) /\ (yx W R l (l.take y.1)).length <= y.1 /\ (∀ n ∈ zS y.2.2.1, c3 <= n) /\ (∀ n ∈ zS y.2.1, c3 <= n /\ n ∉ zS y.2.2.1) /\ (∀ n, n < c3 -> n ≠ c1 -> MapI.get h' n = MapI.get h3 n))
   (fun y => l.length - y.1) ?_ (0, .slice none 0 (.known 0), .slice none 0 (.known 0), 0) _ _ _ ⟨fr ⟨rfl, rfl, rfl, rfl, rfl, rfl, rfl, rfl, rfl, rfl, trivial⟩, Nat.zero_le _, Nat.le_refl _, hg3, .nil, .nil, Nat.le_refl _, (fun n hn => by cases hn), (fun n hn => by cases hn), fun n _ _ => rfl⟩
  rintro ⟨i, vO, vG, mv⟩ e' h' c' ⟨⟨b0, rfl⟩, hi, hc', hg', hG, hO, hgl, hGn, hOn, hf⟩
  simp only at hi hg' hG hO hgl hGn hOn
  have hGlt := hG.lt
  have hOlt := hO.lt
  repeat' (first | apply zw | apply zx | apply zK | refine za rfl rfl (fun _ => rfl) ?_ | refine zU ?_)
  refine zH rfl (fun hlt => ?_) (fun hge => ?_)
  case refine_2 =>
   have hge : l.length <= i := by simpa using hge
   rw [List.take_of_length_le hge] at hG hO
   repeat' (first | apply zF | refine zU ?_ | refine ji ?_ | refine jr rfl ?_)
   exact ⟨vO, vG, mv, fr ⟨rfl, rfl, rfl, rfl, rfl, rfl, rfl, trivial⟩, hc', hg', hG, hO, hGn, fun n hn => (hOn n hn).1, hf⟩
  have hlt : i < l.length := by simpa using hlt
  obtain ⟨⟨p, x⟩, hx⟩ : ∃ z, l[i]? = some z := ⟨_, zp hlt⟩
  have hxm := zo hx
  have htk : l.take (i + 1) = l.take i ++ [(p, x)] := by rw [List.take_add_one, hx]; rfl
  have hsplit : zX W l R = yz W R l (l.take i) ++ yz W R l ((p, x) :: l.drop (i + 1)) := by
   rw [<- liveIn_all, <- qE]
   congr 1
   have : l.drop i = (p, x) :: l.drop (i + 1) := by
    rw [List.drop_eq_getElem_cons hlt]
    have := (zj hx).2
    rw [this]
   rw [<- this, List.take_append_drop]
  have hob : j4 W ((p : Nat) : Int) = some x := (so.objs.mem _ hxm).2
  obtain ⟨jj, w', ej, hw', _, hsz, hxok⟩ := yJ hob
  have ej : ((p : Nat) : Int) = jj := ej
  have hjp : p = jj := by omega
  subst hjp
  have hfs : yc x <= x.size := so.le _ hxm
  have hf0 := gj hxok
  unfold okH at hxok
  have hxok : 0 <= x.kind /\ x.kind <= 3 /\ 0 <= x.size /\ x.size < 1048576 /\ 0 <= x.tree /\ x.tree < 1048576 := hxok
  have hpl := (zj hw').1
  obtain ⟨rfl, sa, cl, junk, rfl, hsa, hg, _⟩ := hsA i hlt
  have hsac : c1 + 1 <= sa := hAn sa (by simp [zS])
  have hga : MapI.get h' sa = _ := (hf sa hsa (by omega)).trans hg
  have hz : nth (flat yG (places l) ++ junk) (0 + ((i : Nat) : Int).toNat * 1) = some (I p) := by
   rw [show 0 + ((i : Nat) : Int).toNat * 1 = i from by simp]
   exact kQ (by rw [List.getElem?_map, hx]; rfl) junk
  have wi : IntKind.i64.wrap ((i : Int) + 1) = ((i + 1 : Nat) : Int) := by rw [Go.IntWalk.i64_in _ (by omega)]; omega
  have hkl : (yz W R l (l.take i)).length <= i := by
   have := List.length_filter_le (fun p => @decide (Reach W l R p.1) (Classical.propDecidable _)) (l.take i)
   rw [List.length_take] at this
   unfold yz; omega
  -- the words
  obtain ⟨sW, capW, rfl, hsW⟩ := r.ar.w.shape
  obtain ⟨rfl, sw, clw, junkw, rfl, hsw, hgw, _⟩ := hsW 0 (by omega)
  have hac : a < c := r.ar.la
  have r4 : ArAt h' c' a (.slice (some (sw, 0)) W.length (.upTo (0 + 1))) W size := r3.ar.keep hc' fun n hn hm => hf n hn (by have := hnm n (zh _ hm); omega)
  have hobj' := r4.obj
  have hgw' : MapI.get h' sw = _ := (hf sw (by omega) (by omega)).trans ((hf3' sw (by omega)).trans ((hf1' sw hsw).trans hgw))
  repeat' (first | apply zw | apply zx | apply zz | apply zB | refine za rfl rfl (fun _ => rfl) ?_ | refine zL rfl rfl (zZ (k := 1) rfl rfl rfl rfl ⟨by omega, by omega⟩ ⟨(by simp [zc] <;> omega), ?_⟩) | refine zL rfl rfl (zW rfl rfl rfl hga hz ⟨(by simp [zc] <;> omega), ?_⟩))
  refine zL rfl rfl (yg rfl (we r4) hsub1 (by omega) fun v4 h4 c4 hc4 hf4 hq => ?_)
  rw [hob] at hq
  subst hq
  have hf5 : ∀ {o q : AObj}, ∀ n, n < c' -> MapI.get (MapI.set (MapI.set h4 c4 o) c4 q) n = MapI.get h' n := fun {o q} n hn => by
   rw [zu _ _ _ _ (by omega), zu _ _ _ _ (by omega)]; exact hf4 n hn
  repeat' (first | apply zw | apply zy | apply zK | refine za rfl rfl (fun _ => rfl) ?_ | refine zb rfl rfl (fun _ => rfl) ?_ | refine zL rfl rfl (yM rfl ⟨(by simp [zc] <;> omega), ?_⟩) | refine zL rfl rfl (ya (k := 4) rfl rfl rfl rfl (zt _ _ _) (zf rfl) rfl ⟨(by simp [zc] <;> omega), ?_⟩))
  generalize hH5 : MapI.set (MapI.set h4 c4 _) c4 _ = H5
  have hx5 : MapI.get H5 c4 = some (.cells true true (hdV x)) := by rw [<- hH5]; exact zt _ _ _
  have hk5 : ∀ n, n < c' -> MapI.get H5 n = MapI.get h' n := fun n hn => by rw [<- hH5]; exact hf5 n hn
  have hobj5 : MapI.get H5 a = _ := (hk5 a (by omega)).trans hobj'
  have hga5 : MapI.get H5 sa = _ := (hk5 sa (by omega)).trans hga
  have hgw5 : MapI.get H5 sw = _ := (hk5 sw (by omega)).trans hgw'
  have hg5 : MapI.get H5 c1 = _ := (hk5 c1 (by omega)).trans hg'
  have hG5 : ListOf (0 + 1) yG H5 (c4 + 1) vG (yx W R l (l.take i)) := hG.keep (by omega) fun n hn _ => hk5 n hn
  have hO5 : ListOf (0 + 1) ye H5 (c4 + 1) vO (yh W R l (yz W R l (l.take i))) := hO.keep (by omega) fun n hn _ => hk5 n hn
  have hm5 : ∀ n, n < c3 -> n ≠ c1 -> MapI.get H5 n = MapI.get h3 n := fun n hn hne => by rw [hk5 n (by omega)]; exact hf n hn hne
  clear hH5 hf5
  have wp : IntKind.i64.wrap (IntKind.i64.wrap ((p : Int) + 1) + x.size) = ((p + 1 + x.size.toNat : Nat) : Int) := by
   rw [Go.IntWalk.i64_in ((p : Int) + 1) (by omega), Go.IntWalk.i64_in _ (by omega)]; omega
  repeat' (first | refine zb rfl rfl (fun _ => rfl) ?_ | refine zO rfl rfl (zW rfl rfl rfl hobj5 rfl ⟨(by simp [zc] <;> omega), ?_⟩) | refine zO rfl rfl (zZ (k := 1) rfl rfl rfl rfl ⟨by omega, by omega⟩ ⟨(by simp [zc] <;> omega), ?_⟩) | refine zO rfl rfl (zW rfl rfl rfl hga5 hz ⟨(by simp [zc] <;> omega), ?_⟩) | refine zO rfl rfl (zW rfl rfl rfl hx5 rfl ⟨(by simp [zc] <;> omega), ?_⟩) | refine zO rfl rfl (qp (k := 0) (l := p) (u := p + 1 + x.size.toNat) rfl rfl rfl rfl rfl (jq rfl) (jq wp) (by omega) (by omega) rfl ⟨(by simp [zc] <;> omega), ?_⟩))
  refine zN (ym (cs := [0, 1, 3, 7, 0, 0, 48, 112, 0, 0, 768, 1792, 3840, 0, 8192, 32512, 65535, 131071]) (by decide +kernel) ?_) ?_
  ·simp +contextual [jt, apP, Dis, yF, yE, yw, yA, Nat.testBit]
  have eO : 0 + p * (0 + 1) = p := by omega
  have eL : p + 1 + x.size.toNat - p = 1 + x.size.toNat := by omega
  rw [eO, eL]
  by_cases hr : Reach W l R p
  ·-- it stays
   have hk : (zX W l R)[(yz W R l (l.take i)).length]? = some (p, x) := by
    rw [hsplit, List.getElem?_append_right (Nat.le_refl _), Nat.sub_self, gh hr]; rfl
   have hlv : (p, x) ∈ zX W l R := zo hk
   have hkl2 := (zj hk).1
   obtain ⟨rfl, sf, cl2, junk2, rfl, hsf, hgf, _⟩ := hsF _ hkl2
   obtain ⟨rfl, st, cl3, junk3, rfl, hst, hgt, _⟩ := hsT _ hkl2
   have hsfc : c <= sf /\ sf < c1 := ⟨by have := hFn sf (by simp [zS]); omega, hFlt sf (by simp [zS])⟩
   have hstc : c <= st /\ st < c1 := ⟨by have := hTn st (by simp [zS]); omega, hTlt st (by simp [zS])⟩
   have hgf5 : MapI.get H5 sf = _ := (hm5 sf hsf (by omega)).trans hgf
   have hgt5 : MapI.get H5 st = _ := (hm5 st hst (by omega)).trans hgt
   have eoff : 0 + (((yz W R l (l.take i)).length : Nat) : Int).toNat * 1 = (yz W R l (l.take i)).length := by simp
   have hz2 : nth (flat yG (places (zX W l R)) ++ junk2) (0 + (((yz W R l (l.take i)).length : Nat) : Int).toNat * 1) = some (I p) := by
    rw [eoff]; exact kQ (by rw [List.getElem?_map, hk]; rfl) junk2
   have hz3 : nth (flat yG (qZ (newPos (zX W l R)) (zX W l R)) ++ junk3) (0 + (((yz W R l (l.take i)).length : Nat) : Int).toNat * 1) = some (I (newPos (zX W l R) p)) := by
    rw [eoff]; exact kQ (by rw [List.getElem?_map, hk]; rfl) junk3
   have e1 : decide ((((yz W R l (l.take i)).length : Nat) : Int) < (((zX W l R).length : Nat) : Int)) = true := decide_eq_true (by omega)
   have wk : IntKind.i64.wrap (((yz W R l (l.take i)).length : Int) + 1) = ((yz W R l (l.take (i + 1))).length : Int) := by
    rw [htk, qE, gh hr, zr]
    have : (yz W R l []).length = 0 := rfl
    rw [List.length_cons, this, Go.IntWalk.i64_in _ (by omega)]; omega
   have hLin : yz W R l (l.take (i + 1)) = yz W R l (l.take i) ++ [(p, x)] := by
    rw [htk, qE, gh hr]; rfl
   have hSle : (yh W R l (yz W R l (l.take i))).length + (1 + x.size.toNat) <= W.length := by
    have h1 : yh W R l (zX W l R) = yh W R l (yz W R l (l.take i)) ++ (gM W R l (p, x) ++ yh W R l (yz W R l (l.drop (i + 1)))) := by
     rw [hsplit, gF, gh hr, gQ]
    have h2 := congrArg List.length h1
    rw [zr, zr, qj] at h2
    have h2 : _ = _ + ((1 + x.size.toNat) + _) := h2
    omega
   repeat' (first | apply zw | apply zy | refine zb rfl rfl (fun _ => rfl) ?_)
   simp only [e1]
   repeat' (first | refine zb rfl rfl (fun _ => rfl) ?_ | refine zO rfl rfl (zZ (k := 1) rfl rfl rfl rfl ⟨by omega, by omega⟩ ⟨(by simp [zc] <;> omega), ?_⟩) | refine zO rfl rfl (zW rfl rfl rfl hgf5 hz2 ⟨(by simp [zc] <;> omega), ?_⟩) | refine zO rfl rfl (zW rfl rfl rfl hga5 hz ⟨(by simp [zc] <;> omega), ?_⟩))
   refine zN (ym (cs := [0, 0, 2, 7, 15, 31, 31, 127, 255, 31, 31, 1567, 3615, 8191, 16383]) (by decide +kernel) ?_) ?_
   ·simp +contextual [jt, apP, Dis, yF, yE, yw, yA, Nat.testBit]
   refine zH rfl (fun _ => ?_) (fun hb => by simp at hb)
   repeat' (first | refine zJ (a := Code.seq (Code.region 14 _ _) _) (fun e' h' c' => ∃ mv', (∃ b0, e' = FR b0 [(0, V.ptr (some (a, 0))), (1, .slice sR R.length capR), (4, V.ptr (some (c, 0))), (6, .slice (some (sf, 0)) (zX W l R).length (.upTo 1)), (7, .slice (some (st, 0)) (zX W l R).length (.upTo 1)), (9, V.ptr (some (c1, 0))), (10, .slice (some (sa, 0)) l.length (.upTo 1)), (12, I (yz W R l (l.take i)).length), (13, vO), (14, I i), (15, V.ptr (some (c4, 0))), (17, .slice (some (sw, p)) (1 + x.size.toNat) (.upTo (0 + 1)))]) /\ c' = c4 + 1 /\ MapI.get h' c1 = some (.cells true true [I 0, vG, I mv']) /\ (∀ n, n ≠ c1 -> MapI.get h' n = MapI.get H5 n)) ?_ ?_ | apply zw | apply zy | refine zb rfl rfl (fun _ => rfl) ?_)
   ·
    repeat' (first | refine zb rfl rfl (fun _ => rfl) ?_ | refine zO rfl rfl (zZ (k := 1) rfl rfl rfl rfl ⟨by omega, by omega⟩ ⟨(by simp [zc] <;> omega), ?_⟩) | refine zO rfl rfl (zW rfl rfl rfl hgf5 hz2 ⟨(by simp [zc] <;> omega), ?_⟩) | refine zO rfl rfl (zW rfl rfl rfl hgt5 hz3 ⟨(by simp [zc] <;> omega), ?_⟩))
    refine zN (ym (cs := [0, 0, 3, 7, 0, 0, 48, 112, 255]) (by decide +kernel) ?_) ?_
    ·simp +contextual [jt, apP, Dis, yF, yE, yw, yA, Nat.testBit]
    refine zH rfl (fun hne => ?_) (fun heq => ?_)
    ·
     repeat' (first | apply zx | apply zK | refine za rfl rfl (fun _ => rfl) ?_ | refine zU ?_ | refine zL rfl rfl (zW rfl rfl rfl hg5 rfl ⟨(by simp [zc] <;> omega), ?_⟩) | refine zL rfl rfl (ya (k := 1) rfl rfl rfl rfl hg5 (zf rfl) rfl ⟨(by simp [zc] <;> omega), ?_⟩))
     refine ⟨_, fr ?_, rfl, zt _ _ _, fun n hn => zu _ _ _ _ (Ne.symm hn)⟩
     exact ⟨rfl, rfl, rfl, rfl, rfl, rfl, rfl, rfl, rfl, rfl, rfl, rfl, trivial⟩
    ·
     repeat' (first | apply zz | refine zU ?_)
     refine ⟨mv, fr ?_, rfl, hg5, fun n _ => rfl⟩
     exact ⟨rfl, rfl, rfl, rfl, rfl, rfl, rfl, rfl, rfl, rfl, rfl, rfl, trivial⟩
   rintro e6 H6 c6 ⟨mv', ⟨b1, rfl⟩, rfl, hg6, hk6⟩
   have hx6 : MapI.get H6 c4 = some (.cells true true (hdV x)) := (hk6 c4 (by omega)).trans hx5
   have hgw6 : MapI.get H6 sw = _ := (hk6 sw (by omega)).trans hgw5
   have hm6 : ∀ n, n < c3 -> n ≠ c1 -> MapI.get H6 n = MapI.get h3 n := fun n hn hne => (hk6 n hne).trans (hm5 n hn hne)
   have hG6 : ListOf (0 + 1) yG H6 (c4 + 1) vG (yx W R l (l.take i)) := hG5.keep (Nat.le_refl _) fun n _ hn => hk6 n (by have := hGn n hn; omega)
   have hO6 : ∀ {z : AObj}, ListOf (0 + 1) ye (MapI.set H6 (c4 + 1) z) (c4 + 1 + 1) vO (yh W R l (yz W R l (l.take i))) := fun {z} => hO5.keep (by omega) fun n hn hm => by
    rw [zu _ _ _ _ (by omega)]; exact hk6 n (by have := (hOn n hm).1; omega)
   have hzw : nth (flat ye W ++ junkw) (p + (0 : Int).toNat * 1) = some (U w') := by
    rw [show p + (0 : Int).toNat * 1 = p from by simp]; exact yB yq hw' rfl junkw
   repeat' (first | apply zw | apply zx | apply zK | refine za rfl rfl (fun _ => rfl) ?_ | refine zL rfl rfl (zZ (k := 1) rfl rfl rfl rfl ⟨by omega, by omega⟩ ⟨(by simp [zc] <;> omega), ?_⟩) | refine zL rfl rfl (zW rfl rfl rfl hgw6 hzw ⟨(by simp [zc] <;> omega), ?_⟩) | refine zL rfl rfl (yy (k := 1) rfl rfl rfl rfl (by decide) rfl ⟨(by simp [zc] <;> omega), ?_⟩))
   refine zL rfl rfl (qC (cells := ye) (y := w') rfl rfl ⟨rfl, rfl, rfl, ⟨_, rfl, by decide⟩⟩ rfl yq jx hO6 (zt _ _ _) (by omega) (by omega) (fun n h => .inr (by have := (hOn n h).1; omega)) (by omega) fun v7 h7 c7 rv7 hn7 hc7 hf7 => ?_)
   have hn7' : ∀ n ∈ zS v7, c3 <= n /\ n ∉ zS vG /\ n ≠ c4 := fun n hn => by
    rcases hn7 n hn with hh | hh
    ·have h2 := hOn n hh
     have := hOlt n hh
     exact ⟨h2.1, h2.2, by omega⟩
    ·refine ⟨by omega, fun hh2 => ?_, by omega⟩
     have := hGlt n hh2; omega
   have hk7 : ∀ n, n < c4 + 1 -> n ∉ zS vO -> MapI.get h7 n = MapI.get H6 n := fun n hn hm => by
    rw [hf7 n (by omega) hm, zu _ _ _ _ (by omega)]
   have hOc : ∀ n, n < c3 -> n ∉ zS vO := fun n hn hh => by have := (hOn n hh).1; omega
   have hx7 : MapI.get h7 c4 = some (.cells true true (hdV x)) := (hk7 c4 (by omega) (fun hh => by have := hOlt c4 hh; omega)).trans hx6
   have hg7 : MapI.get h7 c1 = _ := (hk7 c1 (by omega) (hOc c1 (by omega))).trans hg6
   have hm7 : ∀ n, n < c3 -> n ≠ c1 -> MapI.get h7 n = MapI.get h3 n := fun n hn hne => (hk7 n (by omega) (hOc n hn)).trans (hm6 n hn hne)
   have hgw7 : MapI.get h7 sw = _ := (hk7 sw (by omega) (hOc sw (by omega))).trans hgw6
   have hG7 : ListOf (0 + 1) yG h7 c7 vG (yx W R l (l.take i)) := hG6.keep (by omega) fun n _ hn => hk7 n (by have := hGlt n hn; omega) fun hh => (hOn n hh).2 hn
   have hF7 : ListOf 1 yG h7 c7 (.slice (some (sf, 0)) (zX W l R).length (.upTo 1)) (places (zX W l R)) := hF3.keep (by omega) fun n hn hm => hm7 n hn (by have := hFlt n hm; omega)
   have hT7 : ListOf 1 yG h7 c7 (.slice (some (st, 0)) (zX W l R).length (.upTo 1)) (qZ (newPos (zX W l R)) (zX W l R)) := hT3.keep (by omega) fun n hn hm => hm7 n hn (by have := hTlt n hm; omega)
   have e1w : [w'] = (gM W R l (p, x)).take 1 := by
    rw [objF_snoc (j := 0) (by omega), Nat.add_zero, fin_head so hlv hw']; rfl
   rw [e1w] at rv7
   repeat' (first | apply zw | apply zx | apply zB | apply zK | refine za rfl rfl (fun _ => rfl) ?_)
   refine zI ?_
   refine zQ (X := Nat × V) (fun y e' h' c' => (∃ b0, e' = FR b0 [(0, V.ptr (some (a, 0))), (1, .slice sR R.length capR), (4, V.ptr (some (c, 0))), (6, .slice (some (sf, 0)) (zX W l R).length (.upTo 1)), (7, .slice (some (st, 0)) (zX W l R).length (.upTo 1)), (9, V.ptr (some (c1, 0))), (10, .slice (some (sa, 0)) l.length (.upTo 1)), (12, I (yz W R l (l.take (i + 1))).length), (13, y.2), (14, I i), (15, V.ptr (some (c4, 0))), (17, .slice (some (sw, p)) (1 + x.size.toNat) (.upTo (0 + 1))), (18, I y.1)]) /\ 1 <= y.1 /\ y.1 <= 1 + x.size.toNat /\ c7 <= c' /\ ListOf (0 + 1) ye h' c' y.2 (yh W R l (yz W R l (l.take i)) ++ (gM W R l (p, x)).take y.1) /\ (∀ n ∈ zS y.2, n ∈ zS v7 \/ c7 <= n) /\ (∀ n, n < c7 -> n ∉ zS v7 -> MapI.get h' n = MapI.get h7 n))
    (fun y => 1 + x.size.toNat - y.1) ?_ (1, v7) _ _ _ ⟨by rw [<- wk]; exact fr ⟨rfl, rfl, rfl, rfl, rfl, rfl, rfl, rfl, rfl, rfl, rfl, rfl, rfl, trivial⟩, Nat.le_refl _, by omega, Nat.le_refl _, rv7, (fun n hn => .inl hn), fun n _ _ => rfl⟩
   rintro ⟨j, v8⟩ e8 h8 c8 ⟨⟨b8, rfl⟩, hj1, hj2, hc8, hv8, hn8, hf8⟩
   simp only at hj1 hj2 hv8 hn8
   have hn8' : ∀ n ∈ zS v8, c3 <= n /\ n ∉ zS vG /\ n ≠ c4 := fun n hn => by
    rcases hn8 n hn with hh | hh
    ·exact hn7' n hh
    ·refine ⟨by omega, fun hh2 => ?_, by omega⟩
     have := hGlt n hh2; omega
   have h7o : ∀ n, n < c3 -> n ∉ zS v7 := fun n hn hh => by have := (hn7' n hh).1; omega
   repeat' (first | apply zw | apply zx | apply zK | refine za rfl rfl (fun _ => rfl) ?_ | refine zU ?_)
   refine zH rfl (fun hlt2 => ?_) (fun hge2 => ?_)
   case refine_2 =>
    have hge2 : ¬ ((j : Int) < ((1 + x.size.toNat : Nat) : Int)) := of_decide_eq_false hge2
    have hge2 : 1 + x.size.toNat <= j := by omega
    have eT : (gM W R l (p, x)).take j = gM W R l (p, x) := List.take_of_length_le (by rw [qj]; exact hge2)
    rw [eT] at hv8
    have hSnew : yh W R l (yz W R l (l.take (i + 1))) = yh W R l (yz W R l (l.take i)) ++ gM W R l (p, x) := by
     rw [hLin, gF, gQ]
     show _ ++ (_ ++ []) = _
     rw [List.append_nil]
    repeat' (first | apply zx | apply zF | apply zK | refine za rfl rfl (fun _ => rfl) ?_ | refine zU ?_)
    refine ⟨(i + 1, v8, vG, mv'), by simp only; omega, ?_, by simp only; omega, by omega, ?_, ?_, ?_, ?_, hGn, fun n hn => ⟨(hn8' n hn).1, (hn8' n hn).2.1⟩, fun n hn hne => ?_⟩
    ·rw [wi]
     exact fr ⟨rfl, rfl, rfl, rfl, rfl, rfl, rfl, rfl, rfl, rfl, trivial⟩
    ·exact (hf8 c1 (by omega) (h7o c1 (by omega))).trans hg7
    ·simp only [htk, gone_live (o := (p, x)) hr]
     exact hG7.keep hc8 fun n hn hm => hf8 n hn fun hh => (hn7' n hh).2.1 hm
    ·simp only [hSnew]; exact hv8
    ·simp only [htk, gone_live (o := (p, x)) hr]; omega
    ·exact (hf8 n (by omega) (h7o n hn)).trans (hm7 n hn hne)
   have hlt2 : (j : Int) < ((1 + x.size.toNat : Nat) : Int) := of_decide_eq_true hlt2
   have hlt2 : j < 1 + x.size.toNat := by omega
   have hx8 : MapI.get h8 c4 = some (.cells true true (hdV x)) := (hf8 c4 (by omega) (fun hh => (hn7' c4 hh).2.2 rfl)).trans hx7
   obtain ⟨w, hw⟩ : ∃ w, W[p + j]? = some w := ⟨_, zp (by omega)⟩
   have hwok : okW w := hokW w (zo hw)
   have wj : IntKind.i64.wrap ((j : Int) + 1) = ((j + 1 : Nat) : Int) := by rw [Go.IntWalk.i64_in _ (by omega)]; omega
   have hzj : nth (flat ye W ++ junkw) (p + ((j : Nat) : Int).toNat * 1) = some (U w) := by
    rw [show p + ((j : Nat) : Int).toNat * 1 = p + j from by simp]; exact yB yq hw rfl junkw
   have hv8lt := hv8.lt
   have hlen8 : (yh W R l (yz W R l (l.take i)) ++ (gM W R l (p, x)).take j).length < 1000000000 := by
    rw [zr, List.length_take]; omega
   repeat' (first | apply zw | apply zx | apply zz | apply zB | refine za rfl rfl (fun _ => rfl) ?_ | refine zL rfl rfl (yC (k := 4) rfl rfl rfl rfl hx8 rfl ⟨(by simp [zc] <;> omega), ?_⟩))
   refine zL rfl rfl (yg rfl (ke (x := x)) (fun n hn => by cases hn) (by omega) fun v9 h9 c9 hc9 hf9 hq => ?_)
   subst hq
   have hgw9 : MapI.get h9 sw = _ := (hf9 sw (by omega)).trans ((hf8 sw (by omega) (h7o sw (by omega))).trans hgw7)
   repeat' (first | apply zK | refine za rfl rfl (fun _ => rfl) ?_ | refine zU ?_)
   refine zH rfl (fun hle2 => ?_) (fun hgt2 => ?_)
   ·have hle2 : (j : Int) <= yc x := by simpa using hle2
    have hF9 : ListOf 1 yG h9 c9 (.slice (some (sf, 0)) (zX W l R).length (.upTo 1)) (places (zX W l R)) := hF7.keep (by omega) fun n hn hm => by
     have := hFlt n hm
     rw [hf9 n (by omega), hf8 n (by omega) (h7o n (by omega))]
    have hT9 : ListOf 1 yG h9 c9 (.slice (some (st, 0)) (zX W l R).length (.upTo 1)) (qZ (newPos (zX W l R)) (zX W l R)) := hT7.keep (by omega) fun n hn hm => by
     have := hTlt n hm
     rw [hf9 n (by omega), hf8 n (by omega) (h7o n (by omega))]
    have hin : yL w = 5 -> ∃ o ∈ zX W l R, yI w = ((o.1 : Nat) : Int) := fun ht => by
     have hw2 : W[p + 1 + (j - 1)]? = some w := by rw [show p + 1 + (j - 1) = p + j from by omega]; exact hw
     obtain ⟨q, hq, hv⟩ := (so.fields (p, x) hxm (j - 1) w (by show ((j - 1 : Nat) : Int) < yc x; omega) hw2).2.2 ht
     exact ⟨q, jN.2 ⟨hq, .field hr hxm (k := j - 1) (by omega) hw2 ht hv⟩, hv⟩
    repeat' (first | apply zx | refine za rfl rfl (fun _ => rfl) ?_ | refine zL rfl rfl (zZ (k := 1) rfl rfl rfl rfl ⟨by omega, by omega⟩ ⟨(by simp [zc] <;> omega), ?_⟩) | refine zL rfl rfl (zW rfl rfl rfl hgw9 hzj ⟨(by simp [zc] <;> omega), ?_⟩))
    refine zL rfl rfl (yj rfl (moved_ok hF9 hT9 hwok (by omega) hnp hin) (fun n hn => .inr (by
     rcases zk hn with hh | hh
     ·simp [zS] at hh; omega
     ·simp [zS] at hh; omega)) (by omega) fun v10 h10 c10 hc10 _ hq => ?_)
    obtain ⟨rfl, rfl, rfl⟩ := hq
    rw [mv_eq]
    repeat' (first | refine zL rfl rfl (yy (k := 1) rfl rfl rfl rfl (by decide) rfl ⟨(by simp [zc] <;> omega), ?_⟩))
    have hO10 : ∀ {z : AObj}, ListOf (0 + 1) ye (MapI.set h9 c9 z) (c9 + 1) v8 (yh W R l (yz W R l (l.take i)) ++ (gM W R l (p, x)).take j) := fun {z} => hv8.keep (by omega) fun n hn hm => by
     rw [zu _ _ _ _ (by omega), hf9 n hn]
    refine zL rfl rfl (qC (cells := ye) (y := mvW W R l w) rfl rfl ⟨rfl, rfl, rfl, ⟨_, rfl, by decide⟩⟩ rfl yq jx hO10 (zt _ _ _) hlen8 (by omega) (fun n h => .inr (by have := (hn8' n h).1; omega)) (by omega) fun v11 h11 c11 rv11 hn11 hc11 hf11 => ?_)
    rw [List.append_assoc, <- fin_fld hlv hj1 hle2 hw, <- objF_snoc hlt2] at rv11
    repeat' (first | apply zx | apply zK | refine za rfl rfl (fun _ => rfl) ?_ | refine zU ?_)
    refine ⟨(j + 1, v11), by simp only; omega, ?_, by simp only; omega, by simp only; omega, by omega, rv11, fun n hn => ?_, fun n hn hm => ?_⟩
    ·rw [wj]
     exact fr ⟨rfl, rfl, rfl, rfl, rfl, rfl, rfl, rfl, rfl, rfl, rfl, rfl, rfl, trivial⟩
    ·rcases hn11 n hn with hh | hh
     ·exact hn8 n hh
     ·exact .inr (by omega)
    ·have hm8 : n ∉ zS v8 := fun hh => by
      rcases hn8 n hh with h2 | h2
      ·exact hm h2
      ·omega
     rw [hf11 n (by omega) hm8, zu _ _ _ _ (by omega), hf9 n (by omega)]; exact hf8 n hn hm
   ·have hgt2 : yc x < (j : Int) := by simpa using hgt2
    repeat' (first | apply zx | refine za rfl rfl (fun _ => rfl) ?_ | refine zL rfl rfl (zZ (k := 1) rfl rfl rfl rfl ⟨by omega, by omega⟩ ⟨(by simp [zc] <;> omega), ?_⟩) | refine zL rfl rfl (zW rfl rfl rfl hgw9 hzj ⟨(by simp [zc] <;> omega), ?_⟩) | refine zL rfl rfl (yy (k := 1) rfl rfl rfl rfl (by decide) rfl ⟨(by simp [zc] <;> omega), ?_⟩))
    have hO10 : ∀ {z : AObj}, ListOf (0 + 1) ye (MapI.set h9 c9 z) (c9 + 1) v8 (yh W R l (yz W R l (l.take i)) ++ (gM W R l (p, x)).take j) := fun {z} => hv8.keep (by omega) fun n hn hm => by
     rw [zu _ _ _ _ (by omega), hf9 n hn]
    refine zL rfl rfl (qC (cells := ye) (y := w) rfl rfl ⟨rfl, rfl, rfl, ⟨_, rfl, by decide⟩⟩ rfl yq jx hO10 (zt _ _ _) hlen8 (by omega) (fun n h => .inr (by have := (hn8' n h).1; omega)) (by omega) fun v11 h11 c11 rv11 hn11 hc11 hf11 => ?_)
    have ew : [w] = [finW W R l (p + j)] := by rw [fin_raw so hlv hf0 hgt2 hlt2 hw]
    rw [List.append_assoc, ew, <- objF_snoc hlt2] at rv11
    repeat' (first | apply zx | apply zK | refine za rfl rfl (fun _ => rfl) ?_ | refine zU ?_)
    refine ⟨(j + 1, v11), by simp only; omega, ?_, by simp only; omega, by simp only; omega, by omega, rv11, fun n hn => ?_, fun n hn hm => ?_⟩
    ·rw [wj]
     exact fr ⟨rfl, rfl, rfl, rfl, rfl, rfl, rfl, rfl, rfl, rfl, rfl, rfl, rfl, trivial⟩
    ·rcases hn11 n hn with hh | hh
     ·exact hn8 n hh
     ·exact .inr (by omega)
    ·have hm8 : n ∉ zS v8 := fun hh => by
      rcases hn8 n hh with h2 | h2
      ·exact hm h2
      ·omega
     rw [hf11 n (by omega) hm8, zu _ _ _ _ (by omega), hf9 n (by omega)]; exact hf8 n hn hm
  -- it goes
  have hlin : yz W R l (l.take (i + 1)) = yz W R l (l.take i) := by
   rw [htk, qE, liveIn_no hr]; exact List.append_nil _
  have hgo : yx W R l (l.take (i + 1)) = yx W R l (l.take i) ++ yY W (p, x) := by rw [htk]; exact gone_dead hr
  repeat' (first | refine zJ (a := Code.seq (Code.region 13 _ _) _) (fun e' h' c' => (∃ b0, e' = FR b0 [(0, V.ptr (some (a, 0))), (1, .slice sR R.length capR), (4, V.ptr (some (c, 0))), (6, .slice sF (zX W l R).length capF), (7, .slice sT (zX W l R).length capT), (9, V.ptr (some (c1, 0))), (10, .slice (some (sa, 0)) l.length (.upTo 1)), (12, I (yz W R l (l.take i)).length), (13, vO), (14, I i), (15, V.ptr (some (c4, 0))), (17, .slice (some (sw, p)) (1 + x.size.toNat) (.upTo (0 + 1)))]) /\ h' = H5 /\ c' = c4 + 1) ?_ ?_ | apply zw | apply zy | refine zb rfl rfl (fun _ => rfl) ?_)
  ·
   skip
   by_cases hk : (yz W R l (l.take i)).length < (zX W l R).length
   ·obtain ⟨⟨q, y⟩, hq⟩ : ∃ z, (zX W l R)[(yz W R l (l.take i)).length]? = some z := ⟨_, zp hk⟩
    have hqp : (((q : Nat) : Int) == ((p : Nat) : Int)) = false := beq_eq_false_iff_ne.2 fun e => by
     have : q = p := by omega
     subst this
     exact hr (jN.1 (zo hq)).2
    obtain ⟨rfl, sf, cl2, junk2, rfl, hsf, hgf, _⟩ := hsF _ hk
    have hsfc : c <= sf /\ sf < c1 := ⟨by have := hFn sf (by simp [zS]); omega, hFlt sf (by simp [zS])⟩
    have hgf5 : MapI.get H5 sf = _ := (hm5 sf hsf (by omega)).trans hgf
    have hz2 : nth (flat yG (places (zX W l R)) ++ junk2) (0 + (((yz W R l (l.take i)).length : Nat) : Int).toNat * 1) = some (I q) := by
     rw [show 0 + (((yz W R l (l.take i)).length : Nat) : Int).toNat * 1 = (yz W R l (l.take i)).length from by simp]
     exact kQ (by rw [List.getElem?_map, hq]; rfl) junk2
    have e1 : decide ((((yz W R l (l.take i)).length : Nat) : Int) < (((zX W l R).length : Nat) : Int)) = true := decide_eq_true (by omega)
    simp only [e1]
    repeat' (first | refine zb rfl rfl (fun _ => rfl) ?_ | refine zO rfl rfl (zZ (k := 1) rfl rfl rfl rfl ⟨by omega, by omega⟩ ⟨(by simp [zc] <;> omega), ?_⟩) | refine zO rfl rfl (zW rfl rfl rfl hgf5 hz2 ⟨(by simp [zc] <;> omega), ?_⟩) | refine zO rfl rfl (zW rfl rfl rfl hga5 hz ⟨(by simp [zc] <;> omega), ?_⟩))
    refine zN (ym (cs := [0, 0, 2, 7, 15, 31, 31, 127, 255, 31, 31, 1567, 3615, 8191, 16383]) (by decide +kernel) ?_) ?_
    ·simp +contextual [jt, apP, Dis, yF, yE, yw, yA, Nat.testBit]
    refine zH rfl (fun hb => by rw [show ((((q : Nat) : Int) == ((p : Nat) : Int)) = false) from hqp] at hb; cases hb) (fun _ => ?_)
    repeat' (first | apply zz | refine zU ?_)
    exact ⟨fr ⟨rfl, rfl, rfl, rfl, rfl, rfl, rfl, rfl, rfl, rfl, rfl, rfl, trivial⟩, rfl, rfl⟩
   ·have e1 : decide ((((yz W R l (l.take i)).length : Nat) : Int) < (((zX W l R).length : Nat) : Int)) = false := decide_eq_false (by omega)
    simp only [e1]
    repeat' (first | refine zb rfl rfl (fun _ => rfl) ?_ | refine zP rfl rfl ?_)
    refine zN (ym (cs := [0, 0, 2, 7, 15, 31, 31, 127, 255, 31, 31, 1567, 3615, 8191, 16383]) (by decide +kernel) ?_) ?_
    ·simp +contextual [jt, apP, Dis, yF, yE, yw, yA, Nat.testBit]
    refine zd rfl ?_
    repeat' (first | apply zz | refine zU ?_)
    exact ⟨fr ⟨rfl, rfl, rfl, rfl, rfl, rfl, rfl, rfl, rfl, rfl, rfl, rfl, trivial⟩, rfl, rfl⟩
  rintro e6 H6 c6 ⟨⟨b1, rfl⟩, hH6, rfl⟩
  subst hH6
  by_cases k3 : x.kind = 3
  case neg =>
   have hgn : yY W (p, x) = [] := by
    unfold yY; split
    ·exact if_neg fun h => k3 h.1
    ·rfl
   have e3 : (x.kind == 3) = false := by simpa using k3
   repeat' (first | apply zw | apply zx | refine za rfl rfl (fun _ => rfl) ?_ | refine zL rfl rfl (zW rfl rfl rfl hx5 rfl ⟨(by simp [zc] <;> omega), ?_⟩))
   simp only [e3]
   repeat' (first | apply zK | refine za rfl rfl (fun _ => rfl) ?_ | refine zM rfl rfl ?_ | refine zU ?_)
   refine zd rfl ?_
   repeat' (first | apply zx | apply zz | apply zK | refine za rfl rfl (fun _ => rfl) ?_ | refine zU ?_)
   refine ⟨(i + 1, vO, vG, mv), by simp only; omega, ?_, by simp only; omega, by omega, hg5, ?_, ?_, ?_, hGn, hOn, hm5⟩
   ·simp only [hlin]
    rw [wi]
    exact fr ⟨rfl, rfl, rfl, rfl, rfl, rfl, rfl, rfl, rfl, rfl, trivial⟩
   ·simp only [hgo, hgn, List.append_nil]; exact hG5
   ·simp only [hlin]; exact hO5
   ·simp only [hgo, hgn, List.append_nil]; omega
  have e3 : (x.kind == 3) = true := by simpa using k3
  by_cases k4 : x.size > 0
  case neg =>
   have hgn : yY W (p, x) = [] := by
    unfold yY; split
    ·exact if_neg fun h => k4 h.2.1
    ·rfl
   have e4 : decide (x.size > 0) = false := by simpa using k4
   repeat' (first | apply zw | apply zx | refine za rfl rfl (fun _ => rfl) ?_ | refine zL rfl rfl (zW rfl rfl rfl hx5 rfl ⟨(by simp [zc] <;> omega), ?_⟩))
   simp only [e3]
   repeat' (first | refine za rfl rfl (fun _ => rfl) ?_ | refine zL rfl rfl (zW rfl rfl rfl hx5 rfl ⟨(by simp [zc] <;> omega), ?_⟩))
   simp only [e4]
   repeat' (first | apply zK | refine za rfl rfl (fun _ => rfl) ?_ | refine zM rfl rfl ?_ | refine zU ?_)
   refine zd rfl ?_
   repeat' (first | apply zx | apply zz | apply zK | refine za rfl rfl (fun _ => rfl) ?_ | refine zU ?_)
   refine ⟨(i + 1, vO, vG, mv), by simp only; omega, ?_, by simp only; omega, by omega, hg5, ?_, ?_, ?_, hGn, hOn, hm5⟩
   ·simp only [hlin]
    rw [wi]
    exact fr ⟨rfl, rfl, rfl, rfl, rfl, rfl, rfl, rfl, rfl, rfl, trivial⟩
   ·simp only [hgo, hgn, List.append_nil]; exact hG5
   ·simp only [hlin]; exact hO5
   ·simp only [hgo, hgn, List.append_nil]; omega
  have e4 : decide (x.size > 0) = true := by simpa using k4
  obtain ⟨w, hw⟩ : ∃ w, W[p + 1]? = some w := ⟨_, zp (by omega)⟩
  have hzj : nth (flat ye W ++ junkw) (p + (1 : Int).toNat * 1) = some (U w) := by
   rw [show p + (1 : Int).toNat * 1 = p + 1 from by simp]; exact yB yq hw rfl junkw
  by_cases k5 : w = 0
  ·have hgn : yY W (p, x) = [] := by unfold yY; rw [show W[(p, x).1 + 1]? = some w from hw]; exact if_neg fun h => h.2.2 k5
   have e5 : (w != 0) = false := by simpa using k5
   repeat' (first | apply zw | apply zx | refine za rfl rfl (fun _ => rfl) ?_ | refine zL rfl rfl (zW rfl rfl rfl hx5 rfl ⟨(by simp [zc] <;> omega), ?_⟩))
   simp only [e3]
   repeat' (first | refine za rfl rfl (fun _ => rfl) ?_ | refine zL rfl rfl (zW rfl rfl rfl hx5 rfl ⟨(by simp [zc] <;> omega), ?_⟩))
   simp only [e4]
   repeat' (first | apply zK | refine za rfl rfl (fun _ => rfl) ?_ | refine zU ?_ | refine zL rfl rfl (zZ (k := 1) rfl rfl rfl rfl ⟨by omega, by omega⟩ ⟨(by simp [zc] <;> omega), ?_⟩) | refine zL rfl rfl (zW rfl rfl rfl hgw5 hzj ⟨(by simp [zc] <;> omega), ?_⟩))
   refine zH rfl (fun hb => by rw [show (w != 0) = false from e5] at hb; cases hb) (fun _ => ?_)
   repeat' (first | apply zx | apply zz | apply zK | refine za rfl rfl (fun _ => rfl) ?_ | refine zU ?_)
   refine ⟨(i + 1, vO, vG, mv), by simp only; omega, ?_, by simp only; omega, by omega, hg5, ?_, ?_, ?_, hGn, hOn, hm5⟩
   ·simp only [hlin]
    rw [wi]
    exact fr ⟨rfl, rfl, rfl, rfl, rfl, rfl, rfl, rfl, rfl, rfl, trivial⟩
   ·simp only [hgo, hgn, List.append_nil]; exact hG5
   ·simp only [hlin]; exact hO5
   ·simp only [hgo, hgn, List.append_nil]; omega
  have e5 : (w != 0) = true := by simpa using k5
  have hgn : yY W (p, x) = [IntKind.i64.wrap w] := by unfold yY; rw [show W[(p, x).1 + 1]? = some w from hw]; exact if_pos ⟨k3, k4, k5⟩
  repeat' (first | apply zw | apply zx | refine za rfl rfl (fun _ => rfl) ?_ | refine zL rfl rfl (zW rfl rfl rfl hx5 rfl ⟨(by simp [zc] <;> omega), ?_⟩))
  simp only [e3]
  repeat' (first | refine za rfl rfl (fun _ => rfl) ?_ | refine zL rfl rfl (zW rfl rfl rfl hx5 rfl ⟨(by simp [zc] <;> omega), ?_⟩))
  simp only [e4]
  repeat' (first | apply zK | refine za rfl rfl (fun _ => rfl) ?_ | refine zU ?_ | refine zL rfl rfl (zZ (k := 1) rfl rfl rfl rfl ⟨by omega, by omega⟩ ⟨(by simp [zc] <;> omega), ?_⟩) | refine zL rfl rfl (zW rfl rfl rfl hgw5 hzj ⟨(by simp [zc] <;> omega), ?_⟩))
  refine zH rfl (fun _ => ?_) (fun hb => by rw [show (w != 0) = true from e5] at hb; cases hb)
  have hG7 : ∀ {z : AObj}, ListOf (0 + 1) yG (MapI.set H6 (c4 + 1) z) (c4 + 1 + 1) vG (yx W R l (l.take i)) := fun {z} => hG5.keep (by omega) fun n hn _ => zu _ _ _ _ (by omega)
  repeat' (first | apply zy | refine zb rfl rfl (fun _ => rfl) ?_ | refine zO rfl rfl (zW rfl rfl rfl hg5 rfl ⟨(by simp [zc] <;> omega), ?_⟩) | refine zO rfl rfl (zZ (k := 1) rfl rfl rfl rfl ⟨by omega, by omega⟩ ⟨(by simp [zc] <;> omega), ?_⟩) | refine zO rfl rfl (zW rfl rfl rfl hgw5 hzj ⟨(by simp [zc] <;> omega), ?_⟩) | refine zO rfl rfl (yy (k := 1) rfl rfl rfl rfl (by decide) rfl ⟨(by simp [zc] <;> omega), ?_⟩))
  refine zO rfl rfl (qh (ys := [IntKind.i64.wrap w]) rfl rfl ⟨rfl, rfl, rfl, ⟨_, rfl, by decide⟩⟩ rfl je qP hG7 (.inr ⟨c4 + 1, 0, .known 1, true, true, _, rfl, by omega, zt _ _ _, rfl⟩) (by simp; omega) (fun n hn => .inr (by simp [zS] at hn; simp [yF]; omega)) (fun n hn => by
   have := hGn n hn
   exact ⟨.inr (by show c <= n; omega), .inr (by show c <= n; omega)⟩) (.inr (by show c <= c4 + 1 + 1; omega)) fun v7 h7 c7 al7 hv7 hn7 hc7 hf7 hal7 => ?_)
  have hg7 : MapI.get h7 c1 = _ := (hf7 c1 (by omega) (fun hh => by have := hGn c1 hh; omega)).trans ((zu _ _ _ _ (by omega)).trans hg5)
  have o7 := hv7.one
  have qa : ∀ x ∈ al7, x.name ≠ c1 := fun x hx e => by
   rcases hal7 x hx with ⟨h, _⟩ | h | ⟨h, _⟩
   ·simp [zS] at h; omega
   ·have := hGn _ h; omega
   ·omega
  have qa' : ∀ x ∈ al7, c1 ≠ x.name := fun x hx e => qa x hx e.symm
  have g1 : c4 + 1 ≠ c1 := by omega
  repeat' (first | refine zb rfl rfl (fun _ => rfl) ?_ | refine zO rfl rfl (ya (k := 1) rfl rfl rfl (by rw [o7.1]; rfl) hg7 (zf rfl) (by rw [o7.1]; simp [o7.2]) ⟨(by simp [zc] <;> omega), ?_⟩))
  refine zN (ym (cs := [0, 1, 0, 4, 12, 28, 60, 127, 255, 511]) (by decide +kernel) ?_) ?_
  ·simp +contextual [jt, apP, Dis, yF, yE, yw, yA, Nat.testBit, qa, qa', g1, Ne.symm g1]
  repeat' (first | apply zx | apply zK | refine za rfl rfl (fun _ => rfl) ?_ | refine zU ?_)
  refine ⟨(i + 1, vO, v7, mv), by simp only; omega, ?_, by simp only; omega, by omega, ?_, ?_, ?_, ?_, fun n hn => ?_, fun n hn => ⟨(hOn n hn).1, fun hh => ?_⟩, fun n hn hne => ?_⟩
  ·simp only [hlin]
   rw [wi]
   exact fr ⟨rfl, rfl, rfl, rfl, rfl, rfl, rfl, rfl, rfl, rfl, trivial⟩
  ·rw [zt, o7.1]; rfl
  ·simp only [hgo, hgn]
   refine hv7.keep (Nat.le_refl _) fun n _ hn => zu _ _ _ _ fun e => ?_
   rcases hn7 n hn with h | ⟨h, _⟩
   ·have := hGn n h; omega
   ·omega
  ·simp only [hlin]
   refine hO5.keep (by omega) fun n hn hm => ?_
   have h1 := hOn n hm
   have h2 := hOlt n hm
   rw [zu _ _ _ _ (by omega), hf7 n (by omega) h1.2, zu _ _ _ _ (by omega)]
  ·simp only [hgo, hgn, zr, List.length_singleton]; omega
  ·rcases hn7 n hn with h | ⟨h, _⟩
   ·exact hGn n h
   ·omega
  ·rcases hn7 n hh with h | ⟨h, _⟩
   ·exact (hOn n hn).2 h
   ·have := hOlt n hn; omega
  ·rw [zu _ _ _ _ (Ne.symm hne), hf7 n (by omega) (fun hh => by have := hGn n hh; omega), zu _ _ _ _ (by omega)]
   exact hm5 n hn hne
 rintro e' h' c' ⟨vO, vG, mv, ⟨b0, rfl⟩, hc', hg', hG, hO, hGn, hOn, hf⟩
 obtain ⟨sO, capO, rfl, _⟩ := hO.shape
 obtain ⟨sG, capG, rfl, _⟩ := hG.shape
 have hRlt := r.rr.lt
 have hRm : ∀ n ∈ zS (V.slice sR R.length capR), n < c := hRlt
 have hRn : ∀ n, c <= n -> n ∉ zS (V.slice sR R.length capR) := fun n hn hh => by have := hRm n hh; omega
 have hrow' : RowOf 1 ye h' c' (.slice sR R.length capR) (jV W R l 0) := by
  have e0 : jV W R l 0 = R := by simp [jV]
  rw [e0]
  exact r3.rr.keep hc' fun n hn hm => hf n hn (by have := hRm n hm; omega)
 have hgc' : MapI.get h' c = some (.cells true true [I 0, .slice none 0 (.known 0), I 0]) := by rw [hf c (by omega) (by omega), hf3' c (by omega)]; exact hg1
 have hobj' : MapI.get h' a = some (.cells true true [vW, I size]) := by rw [hf a (by omega) (by omega)]; exact r3.ar.obj
 have han : a ∉ zS (V.slice sR R.length capR) := fun hh => (r.sep a hh).1 rfl
 repeat' (first | apply zw | apply zx | apply zB | apply zK | refine za rfl rfl (fun _ => rfl) ?_)
 refine zI ?_
 refine zQ (X := Nat) (fun i e2 h2 c2 => (∃ b0, e2 = FR b0 [(0, V.ptr (some (a, 0))), (1, .slice sR R.length capR), (4, V.ptr (some (c, 0))), (6, .slice sF (zX W l R).length capF), (7, .slice sT (zX W l R).length capT), (9, V.ptr (some (c1, 0))), (13, .slice sO (yh W R l (zX W l R)).length capO), (19, I i)]) /\ i <= R.length /\ c' = c2 /\ RowOf 1 ye h2 c' (.slice sR R.length capR) (jV W R l i) /\ (∀ n, n ∉ zS (V.slice sR R.length capR) -> MapI.get h2 n = MapI.get h' n))
  (fun i => R.length - i) ?_ 0 _ _ _ ⟨fr ⟨rfl, rfl, rfl, rfl, rfl, rfl, rfl, rfl, trivial⟩, Nat.zero_le _, rfl, hrow', fun n _ => rfl⟩
 rintro i e2 h2 c2 ⟨⟨b0, rfl⟩, hi, rfl, hrow, hf2⟩
 repeat' (first | apply zw | apply zx | apply zK | refine za rfl rfl (fun _ => rfl) ?_ | refine zU ?_)
 refine zH rfl (fun hlt => ?_) (fun hge => ?_)
 case refine_2 =>
  have hge : R.length <= i := by simpa using hge
  have e0 : jV W R l i = R.map (mvW W R l) := by
   unfold jV
   rw [List.take_of_length_le hge, List.drop_of_length_le hge, List.append_nil]
  rw [e0] at hrow
  have hobj2 : MapI.get h2 a = _ := (hf2 a han).trans hobj'
  have hg2 : ∀ {o : AObj}, MapI.get (MapI.set h2 a o) c1 = _ := fun {o} => (zu _ _ _ _ (by omega)).trans ((hf2 c1 (hRn c1 (by omega))).trans hg')
  have hgc2 : ∀ {o q : AObj}, MapI.get (MapI.set (MapI.set h2 a o) c1 q) c = _ := fun {o q} => (zu _ _ _ _ (by omega)).trans ((zu _ _ _ _ (by omega)).trans ((hf2 c (hRn c (by omega))).trans hgc'))
  repeat' (first | apply zw | apply zx | apply zF | apply zG | apply zK | refine za rfl rfl (fun _ => rfl) ?_ | refine zL rfl rfl (ya (k := 1) rfl rfl rfl rfl hobj2 (zf rfl) rfl ⟨(by simp [zc] <;> omega), ?_⟩) | refine zL rfl rfl (ya (k := 1) rfl rfl rfl rfl hg2 (zf rfl) rfl ⟨(by simp [zc] <;> omega), ?_⟩) | refine zL rfl rfl (yC (k := 3) rfl rfl rfl rfl (zt _ _ _) rfl ⟨(by simp [zc] <;> omega), ?_⟩) | refine zL rfl rfl (ya (k := 3) rfl rfl rfl rfl hgc2 (zf rfl) rfl ⟨(by simp [zc] <;> omega), ?_⟩))
  have hk : ∀ {o q z : AObj}, ∀ n, n ≠ a -> n ≠ c1 -> n ≠ c -> n ∉ zS (V.slice sR R.length capR) -> MapI.get (MapI.set (MapI.set (MapI.set h2 a o) c1 q) c z) n = MapI.get h' n := fun {o q z} n h1 h2' h3' h4 => by
   rw [zu _ _ _ _ (Ne.symm h3'), zu _ _ _ _ (Ne.symm h2'), zu _ _ _ _ (Ne.symm h1)]; exact hf2 n h4
  refine jo (.cellA (k := 3) rfl rfl rfl rfl (zt _ _ _) rfl (.tmp rfl .nil)) ?_ ⟨_, mv, _, rfl, ⟨⟨?_, hO.keep (Nat.le_refl _) fun n _ hn => hk n (by have := hOn n hn; omega) (by have := hOn n hn; omega) (by have := hOn n hn; omega) (hRn n (by have := hOn n hn; omega)), by omega, fun n hn => by have := hOn n hn; omega, slid_okW hokW _, by omega, hmx⟩, ?_, fun n hn => ⟨(r.sep n hn).1, fun hh => by have := hOn n hh; have := hRm n hn; omega⟩, fun w hw => ?_, by rw [List.length_map]; exact hlr⟩, fun n hn => by have := hOn n hn; omega, hG.keep (Nat.le_refl _) fun n _ hn => hk n (by have := hGn n hn; omega) (by have := hGn n hn; omega) (by have := hGn n hn; omega) (hRn n (by have := hGn n hn; omega)), fun n hn => by have := hGn n hn; omega⟩
  ·intro x hx
   simp at hx
   subst hx
   exact .inr (Nat.le_refl _)
  ·rw [zu _ _ _ _ (by omega), zu _ _ _ _ (by omega), zt]; rfl
  ·refine hrow.keep (Nat.le_refl _) fun n hn hm => ?_
   have h1 := hRm n hm
   have h2' := (r.sep n hm).1
   rw [zu _ _ _ _ (by omega), zu _ _ _ _ (by omega), zu _ _ _ _ (Ne.symm h2')]
  ·obtain ⟨w', hw', rfl⟩ := List.mem_map.1 hw
   exact mv_okW (hok w' hw')
 have hlt : i < R.length := by simpa using hlt
 obtain ⟨w, hw⟩ : ∃ w, R[i]? = some w := ⟨_, zp hlt⟩
 have hwm := zo hw
 obtain ⟨hrg, hrs⟩ := rootsTo_get (W := W) (l := l) hw
 have wi : IntKind.i64.wrap ((i : Int) + 1) = ((i + 1 : Nat) : Int) := by rw [Go.IntWalk.i64_in _ (by omega)]; omega
 obtain ⟨s', cap', ev, hs'⟩ := hrow.shape1
 obtain ⟨m, cl, junk, em, hm, hgm, hj⟩ := hs' i (by rw [kb]; exact hlt)
 have eR : sR = some (m, 0) := by
  simp only [V.slice.injEq] at ev
  rw [ev.1, em]
 subst eR
 have hmc : m < c := hRm m (by simp [zS])
 have hz : nth (flat ye (jV W R l i) ++ junk) (0 + ((i : Nat) : Int).toNat * 1) = some (U w) := by
  rw [show 0 + ((i : Nat) : Int).toNat * 1 = i from by simp]; exact yB yq hrg rfl junk
 have hF2 : ListOf 1 yG h2 c' (.slice sF (zX W l R).length capF) (places (zX W l R)) := hF3.keep hc' fun n hn hm => by
  have h1 := hFlt n hm
  have h2' := hFn n hm
  rw [hf2 n (hRn n (by omega)), hf n hn (by omega)]
 have hT2 : ListOf 1 yG h2 c' (.slice sT (zX W l R).length capT) (qZ (newPos (zX W l R)) (zX W l R)) := hT3.keep hc' fun n hn hm => by
  have h1 := hTlt n hm
  have h2' := hTn n hm
  rw [hf2 n (hRn n (by omega)), hf n hn (by omega)]
 have hin : yL w = 5 -> ∃ o ∈ zX W l R, yI w = ((o.1 : Nat) : Int) := fun ht => by
  obtain ⟨q, hq, hv⟩ := (so.roots w hwm).2.2 ht
  exact ⟨q, jN.2 ⟨hq, .root hwm ht hv⟩, hv⟩
 have hb : 0 + ((i : Nat) : Int).toNat * 1 + 1 <= (flat ye (jV W R l i) ++ junk).length := by
  rw [zr, yv yq, kb]; omega
 have hset : RowOf 1 ye (MapI.set h2 m (.cells true cl (yu (flat ye (jV W R l i) ++ junk) (0 + ((i : Nat) : Int).toNat * 1) (yR (U (mvW W R l w)))))) c' (.slice (some (m, 0)) R.length capR) (jV W R l (i + 1)) := by
  have h1 := RowOf.set (n := 0) (h := h2) (c := c') (cap := capR) (cl := cl) yq (xs := jV W R l i) (i := i) (z := mvW W R l w) hm hj (by rw [kb]; exact hlt)
  rw [kb, hrs] at h1
  rw [show 0 + ((i : Nat) : Int).toNat * 1 = i * 1 from by simp]
  exact h1
 repeat' (first | apply zw | apply zx | apply zz | apply zB | refine za rfl rfl (fun _ => rfl) ?_ | refine zL rfl rfl (zZ (k := 1) rfl rfl rfl rfl ⟨by omega, by omega⟩ ⟨(by simp [zc] <;> omega), ?_⟩) | refine zL rfl rfl (zW rfl rfl rfl hgm hz ⟨(by simp [zc] <;> omega), ?_⟩))
 refine zL rfl rfl (yj rfl (moved_ok hF2 hT2 (hok w hwm) (by omega) hnp hin) (fun n hn => .inr (by
  rcases zk hn with hh | hh
  ·exact Nat.le_trans (by omega) (hFn n hh)
  ·exact Nat.le_trans (by omega) (hTn n hh))) (by omega) fun v10 h10 c10 hc10 _ hq => ?_)
 obtain ⟨rfl, rfl, rfl⟩ := hq
 rw [mv_eq]
 repeat' (first | apply zx | apply zK | refine za rfl rfl (fun _ => rfl) ?_ | refine zU ?_ | refine zL rfl rfl (zZ (k := 1) rfl rfl rfl rfl ⟨by omega, by omega⟩ ⟨(by simp [zc] <;> omega), ?_⟩) | refine zL rfl rfl (ya (k := 1) rfl rfl rfl rfl hgm hb rfl ⟨(by simp [zc] <;> omega), ?_⟩))
 refine ⟨i + 1, by omega, ?_, by omega, rfl, hset, fun n hn => ?_⟩
 ·rw [wi]
  exact fr ⟨rfl, rfl, rfl, rfl, rfl, rfl, rfl, rfl, trivial⟩
 ·rw [zu _ _ _ _ (fun e => hn (by simp [zS, e]))]; exact hf2 n hn
end
end Go.Proofs.YtjnfjnmgfpffcaaGreat
namespace Go.Proofs.YtjnfjnmgfpffcaaGreat
open Go.Ab
def Moved (rows rows' : List (Int × Int × Int)) (d : Nat -> Int) : Prop := rows'.length = rows.length /\ ∀ (j : Nat) (q : Int × Int × Int), rows[j]? = some q -> rows'[j]? = some (q.1, q.2.1, q.2.2 + d j)
theorem Moved.refl (rows : List (Int × Int × Int)) {d : Nat -> Int} (h : ∀ j, d j = 0) : Moved rows rows d := ⟨rfl, fun j q hq => by rw [h j, Int.add_zero]; exact hq⟩
theorem Moved.one {rows rows' : List (Int × Int × Int)} {d d' : Nat -> Int} {i : Nat} {q : Int × Int × Int} {n : Int} (m : Moved rows rows' d) (hq : rows[i]? = some q) (hn : n = q.2.2 + d' i) (ho : ∀ j, j ≠ i -> d' j = d j) : Moved rows (rows'.set i (q.1, q.2.1, n)) d' := by
 refine ⟨by rw [List.length_set]; exact m.1, fun j y hy => ?_⟩
 by_cases e : i = j
 ·subst e
  rw [hq] at hy
  cases hy
  have hi := (zj (m.2 i q hq)).1
  rw [List.getElem?_set_self hi, hn]
 ·rw [List.getElem?_set_ne e, ho j (Ne.symm e)]
  exact m.2 j y hy
section
variable {h h' : HH} {c c' hp a sp : Nat} {vW vR vb vr : V} {W R : List Int} {size most : Int} {l : List (Nat × Hd)} {st : St}
abbrev jd (gs : List Int) (j : Nat) : Int := ((gs.count (((j + 1 : Nat) : Int)) : Nat) : Int)
theorem many_snoc {gs : List Int} {i j : Nat} : jd (gs ++ [((i + 1 : Nat) : Int)]) j = jd gs j + if j = i then 1 else 0 := by
 unfold jd
 rw [List.count_append, List.count_singleton]
 by_cases e : j = i
 ·subst e; simp
 ·rw [if_neg e]
  have : ((((i + 1 : Nat) : Int)) == (((j + 1 : Nat) : Int))) = false := by simp; omega
  rw [this]; simp
theorem StoreAt.keepN (s : StoreAt h c sp vb vr st) (hc : c <= c') (e : ∀ n, n < c -> n ∈ sp :: (zS vb ++ zS vr) -> MapI.get h' n = MapI.get h n) : StoreAt h' c' sp vb vr st :=
 ⟨by rw [e sp s.lp (zq ..)]; exact s.obj, s.bytes.keep hc fun n hn hm => e n hn (zg _ (zh _ hm)), s.rows.keep hc fun n hn hm => e n hn (zg _ (zi _ hm)), by have := s.lp; omega, s.nb, s.nr, s.br⟩
theorem many_take {gs : List Int} {i j : Nat} : jd (gs.take i) j <= jd gs j := by
 unfold jd
 have : (gs.take i).count (((j + 1 : Nat) : Int)) <= gs.count (((j + 1 : Nat) : Int)) := (List.take_sublist i gs).count_le _
 omega
set_option maxHeartbeats 2000000 in
theorem collect_gone (r : HM h c hp a sp vW vR W R size most) (so : SoundW W R l) (s : StoreAt h c sp vb vr st) (hap : ∀ n ∈ sp :: (zS vb ++ zS vr), n ∉ hmn hp a vW vR) (hlen : st.rows.length <= 1000)
  (hen : ∀ g ∈ yx W R l l, ∃ i : Nat, g = ((i + 1 : Nat) : Int) /\ ∃ q, st.rows[i]? = some q) (hcnt : ∀ i q, st.rows[i]? = some q -> jd (yx W R l l) i < q.2.2 /\ q.2.2 <= 1000000) (hgl : (yx W R l l).length <= 1000000) :
  Does 46 [.ptr (some (hp, 0)), vR] h c (hmn hp a vW vR ++ sp :: (zS vb ++ zS vr)) fun v h' c' => v = .bool true /\ ∃ vW' rows', HM h' c' hp a sp vW' vR (yh W R l (zX W l R)) (R.map (mvW W R l)) (jE most (yh W R l (zX W l R)).length) most /\ (∀ n ∈ zS vW', n ∈ zS vW) /\ StoreAt h' c' sp vb vr { st with rows := rows' } /\ Moved st.rows rows' fun j => - jd (yx W R l l) j := by
 have hobj := r.hm.obj
 have hlh := r.hm.lh
 have hsep := r.hm.sep
 have hsl := kV so
 have hmo := r.hm.mo
 have hm0 := r.hm.m0
 have hmx := r.hm.mx
 have hle := r.hm.ar.le
 have hnm := r.names
 have hpn : hp ∉ mn a vW vR := fun hh => by
  rcases zk hh with h | h
  ·exact hsep h
  ·exact r.sep hp h (zq ..)
 have hmnsub : ∀ n ∈ mn a vW vR, n ∈ hmn hp a vW vR := fun n hn => by
  rcases zk hn with h | h
  ·exact zh _ (zg _ h)
  ·exact zi _ h
 have hsub1 : ∀ n ∈ mn a vW vR, n ∈ hmn hp a vW vR ++ sp :: (zS vb ++ zS vr) \/ c <= n := fun n hn => .inl (zh _ (hmnsub n hn))
 refine yi (enter (fn := Tryz.f46) Tryz.func46 rfl rfl (zf rfl) ?_)
 repeat' (first | apply zw | apply zx | apply zK | refine za rfl rfl (fun _ => rfl) ?_ | refine zL rfl rfl (zW rfl rfl rfl hobj rfl ⟨(by simp [zc] <;> omega), ?_⟩))
 refine zL rfl rfl (yj rfl (slide_ok r.mem so) hsub1 (Nat.le_refl _) fun v2 h2 c2 hc2 hf2 hq => ?_)
 obtain ⟨vG, mv, vW', rfl, r2, hn2, hG2, hGn⟩ := hq
 have hGlt := hG2.lt
 obtain ⟨sG, capG, rfl, hsG⟩ := hG2.shape
 have hobj2 : MapI.get h2 hp = _ := (hf2 hp hlh hpn).trans hobj
 have hs2 : StoreAt h2 c2 sp vb vr st := s.keepN hc2 fun n hlt hn => hf2 n hlt fun hh => hap n hn (hmnsub n hh)
 have hspn : ∀ n ∈ sp :: (zS vb ++ zS vr), n < c := fun n hn => by
  rcases zl hn with h | h
  ·rw [h]; exact s.lp
  ·rcases zk h with h | h
   ·exact s.bytes.lt n h
   ·exact s.rows.lt n h
 have hsv : ∀ n ∈ sp :: zS vr, n ∈ sp :: (zS vb ++ zS vr) := fun n hn => by
  rcases zl hn with h | h
  ·rw [h]; exact zq ..
  ·exact zg _ (zi _ h)
 have hhp : hp ∉ sp :: zS vr := fun hh => hap hp (hsv hp hh) (zh _ (zq ..))
 generalize hgs : yx W R l l = gs at *
 have hobj3 : ∀ {o q : AObj}, MapI.get (MapI.set (MapI.set h2 c2 o) c2 q) hp = _ := fun {o q} => (show MapI.get (MapI.set (MapI.set h2 c2 o) c2 q) hp = MapI.get h2 hp from by rw [zu _ _ _ _ (by omega), zu _ _ _ _ (by omega)]).trans hobj2
 have r3 : ∀ o q, Mem (MapI.set (MapI.set h2 c2 o) c2 q) (c2 + 1) a vW' vR (yh W R l (zX W l R)) (R.map (mvW W R l)) size := fun o q => r2.same (by omega) fun n hn => by
  rw [zu _ _ _ _ (by omega), zu _ _ _ _ (by omega)]
 have hs3 : ∀ o q, StoreAt (MapI.set (MapI.set h2 c2 o) c2 q) (c2 + 1) sp vb vr st := fun o q => hs2.keepN (by omega) fun n hn _ => by
  rw [zu _ _ _ _ (by omega), zu _ _ _ _ (by omega)]
 have hg3 : ∀ {o q : AObj}, MapI.get (MapI.set (MapI.set h2 c2 o) c2 q) c2 = some q := zt _ _ _
 repeat' (first | apply zw | apply zx | apply zK | refine za rfl rfl (fun _ => rfl) ?_ | refine zU ?_ | refine zL rfl rfl (yM rfl ⟨(by simp [zc] <;> omega), ?_⟩) | refine zL rfl rfl (ya (k := 3) rfl rfl rfl rfl (zt _ _ _) (zf rfl) rfl ⟨(by simp [zc] <;> omega), ?_⟩))
 refine zd rfl ?_
 generalize hH3 : MapI.set (MapI.set h2 c2 _) c2 _ = H3
 have hobjH : MapI.get H3 hp = some (.cells true true [.ptr (some (a, 0)), .ptr (some (sp, 0)), I most, .bool false]) := by rw [<- hH3]; exact hobj3
 have rH : Mem H3 (c2 + 1) a vW' vR (yh W R l (zX W l R)) (R.map (mvW W R l)) size := by rw [<- hH3]; exact r3 _ _
 have sH : StoreAt H3 (c2 + 1) sp vb vr st := by rw [<- hH3]; exact hs3 _ _
 have gH : MapI.get H3 c2 = some (.cells true true [I (yh W R l (zX W l R)).length, .slice sG gs.length capG, I mv]) := by rw [<- hH3]; exact hg3
 have oH : ∀ n, n < c2 -> MapI.get H3 n = MapI.get h2 n := fun n hn => by
  rw [<- hH3, zu _ _ _ _ (by omega), zu _ _ _ _ (by omega)]
 repeat' (first | refine zJ (a := Code.seq (Code.region 4 _ _) _) (fun e' h' c' => (∃ b0, e' = FR b0 [(0, V.ptr (some (hp, 0))), (5, V.ptr (some (c2, 0)))]) /\ c' = c2 + 1 /\ ∃ rows', StoreAt h' (c2 + 1) sp vb vr { st with rows := rows' } /\ (Moved st.rows rows' fun j => - jd gs j) /\ ∀ n, n < c2 + 1 -> n ∉ sp :: zS vr -> MapI.get h' n = MapI.get H3 n) ?_ ?_ | apply zw | apply zx | apply zz | refine za rfl rfl (fun _ => rfl) ?_)
 ·
  repeat' (first | apply zB | apply zK | refine za rfl rfl (fun _ => rfl) ?_ | refine zL rfl rfl (zW rfl rfl rfl gH rfl ⟨(by simp [zc] <;> omega), ?_⟩))
  refine zI ?_
  refine zQ (X := Nat × List (Int × Int × Int)) (fun y e' h' c' => (∃ b0, e' = FR b0 [(0, V.ptr (some (hp, 0))), (5, V.ptr (some (c2, 0))), (21, .slice sG gs.length capG), (22, I gs.length), (23, I y.1)]) /\ y.1 <= gs.length /\ c' = c2 + 1 /\ StoreAt h' (c2 + 1) sp vb vr { st with rows := y.2 } /\ (Moved st.rows y.2 fun j => - jd (gs.take y.1) j) /\ ∀ n, n < c2 + 1 -> n ∉ sp :: zS vr -> MapI.get h' n = MapI.get H3 n)
   (fun y => gs.length - y.1) ?_ (0, st.rows) _ _ _ ⟨fr ⟨rfl, rfl, rfl, rfl, rfl, trivial⟩, Nat.zero_le _, rfl, sH, Moved.refl _ fun j => by simp [jd], fun n _ _ => rfl⟩
  rintro ⟨i, rows⟩ e' h' c' ⟨⟨b0, rfl⟩, hi, rfl, hst, hmv, hfr⟩
  simp only at hi hst hmv
  have hobj' : MapI.get h' hp = _ := (hfr hp (by omega) hhp).trans hobjH
  repeat' (first | apply zw | apply zx | apply zK | refine za rfl rfl (fun _ => rfl) ?_)
  refine zH rfl (fun hlt => ?_) (fun hge => ?_)
  case refine_2 =>
   have hge : gs.length <= i := by simpa using hge
   rw [List.take_of_length_le hge] at hmv
   repeat' (first | apply zF | refine zU ?_ | refine ji ?_ | refine jr rfl ?_)
   refine ⟨fr ?_, rfl, rows, hst, hmv, hfr⟩
   exact ⟨rfl, rfl, trivial⟩
  have hlt' : i < gs.length := by simpa using hlt
  obtain ⟨g, hgi⟩ : ∃ z, gs[i]? = some z := ⟨_, zp hlt'⟩
  obtain ⟨k, rfl, q0, hq0⟩ := hen g (zo hgi)
  obtain ⟨rfl, gn, cl, junk, rfl, hgn, hgg, _⟩ := hsG i hlt'
  have hgnc : c <= gn := hGn gn (by simp [zS])
  have hgg' : MapI.get h' gn = _ := (hfr gn (by omega) (fun hh => by have := hspn gn (hsv gn hh); omega)).trans ((oH gn hgn).trans hgg)
  have hz : nth (flat yG gs ++ junk) (0 + ((i : Nat) : Int).toNat * 1) = some (I ((k + 1 : Nat) : Int)) := by
   rw [show 0 + ((i : Nat) : Int).toNat * 1 = i from by simp]
   exact yB je hgi rfl junk
  have hw3 : IntKind.i64.wrap ((i : Int) + 1) = ((i + 1 : Nat) : Int) := by rw [Go.IntWalk.i64_in _ (by omega)]; omega
  have htake : gs.take (i + 1) = gs.take i ++ [((k + 1 : Nat) : Int)] := by rw [List.take_add_one, hgi]; rfl
  have hm1 : ∀ j, jd (gs.take (i + 1)) j = jd (gs.take i) j + if j = k then 1 else 0 := fun j => by rw [htake, many_snoc]
  have hm2 : jd (gs.take i) k + 1 <= jd gs k := by
   have h1 := hm1 k
   rw [if_pos rfl] at h1
   have h2 : jd (gs.take (i + 1)) k <= jd gs k := many_take
   omega
  obtain ⟨hc1, hc2'⟩ := hcnt k q0 hq0
  have hrow := hmv.2 k q0 hq0
  repeat' (first | apply zw | apply zx | apply zz | apply zB | apply zK | refine za rfl rfl (fun _ => rfl) ?_ | refine zL rfl rfl (zZ (k := 1) rfl rfl rfl rfl ⟨by omega, by omega⟩ ⟨(by simp [zc] <;> omega), ?_⟩) | refine zL rfl rfl (zW rfl rfl rfl hgg' hz ⟨(by simp [zc] <;> omega), ?_⟩) | refine zL rfl rfl (zW rfl rfl rfl hobj' rfl ⟨(by simp [zc] <;> omega), ?_⟩))
  refine zL rfl rfl (yj rfl (drop_ok (hd := ((k + 1 : Nat) : Int)) hst (by show rows.length <= 1000; rw [hmv.1]; exact hlen)) (fun n hn => .inl (zi _ (hsv n hn))) (by omega) fun v4 h4 c4 hc4 hf4 hq => ?_)
  obtain ⟨rfl, hq⟩ := hq
  rcases hq with ⟨i', q, hk, hrow', hne, rfl, hs'⟩ | ⟨hno, _, _⟩
  case inr =>
   have := hno k _ (by push_cast; rfl) hrow
   simp only at this
   have hnn : (0 : Int) <= jd (gs.take i) k := Int.natCast_nonneg _
   omega
  have hik : i' = k := by push_cast at hk; omega
  subst hik
  have hrow' : rows[i']? = some q := hrow'
  rw [hrow] at hrow'
  cases hrow'
  have w1 : IntKind.i64.wrap (q0.2.2 + - jd (gs.take i) i' - 1) = q0.2.2 + - jd (gs.take (i + 1)) i' := by
   have h1 := hm1 i'
   rw [if_pos rfl] at h1
   have hnn : (0 : Int) <= jd (gs.take i) i' := Int.natCast_nonneg _
   rw [Go.IntWalk.i64_in _ (by omega)]; omega
  simp only [w1] at hs'
  rw [if_neg (by have h2 : jd (gs.take (i + 1)) i' <= jd gs i' := many_take; omega)] at hs'
  repeat' (first | apply zx | apply zK | refine za rfl rfl (fun _ => rfl) ?_ | refine zU ?_)
  refine ⟨(i + 1, rows.set i' (q0.1, q0.2.1, q0.2.2 + - jd (gs.take (i + 1)) i')), by simp only; omega, ?_, by simp only; omega, rfl, hs', hmv.one hq0 rfl fun j hj => by rw [hm1 j, if_neg hj, Int.add_zero], fun n hn hm => ?_⟩
  ·rw [hw3]
   exact fr ⟨rfl, rfl, rfl, rfl, rfl, trivial⟩
  ·rw [hf4 n (by omega) hm]; exact hfr n hn hm
 rintro e' h' c' ⟨⟨b0, rfl⟩, rfl, rows', hst, hmv, hfr⟩
 have hobj' : MapI.get h' hp = _ := (hfr hp (by omega) hhp).trans hobjH
 have hg' : MapI.get h' c2 = _ := (hfr c2 (by omega) (fun hh => by have := hspn c2 (hsv c2 hh); omega)).trans gH
 have rF : Mem h' (c2 + 1) a vW' vR (yh W R l (zX W l R)) (R.map (mvW W R l)) size := rH.keep (Nat.le_refl _) fun n hn hm => hfr n hn fun hh => hap n (hsv n hh) (hmnsub n (by
  rcases zk hm with h | h
  ·rcases zl h with h | h
   ·exact zh _ (by rw [h]; exact zq ..)
   ·exact zh _ (zg _ (hn2 n h))
  ·exact zi _ h))
 have hsubA : ∀ n ∈ an a vW', n ∈ hmn hp a vW vR ++ sp :: (zS vb ++ zS vr) \/ c <= n := fun n hn => .inl (zh _ (by
  rcases zl hn with h | h
  ·exact zh _ (zg _ (by rw [h]; exact zq ..))
  ·exact zh _ (zg _ (zg _ (hn2 n h)))))
 repeat' (first | apply zw | apply zy | refine zb rfl rfl (fun _ => rfl) ?_ | refine zO rfl rfl (zW rfl rfl rfl hobj' rfl ⟨(by simp [zc] <;> omega), ?_⟩) | refine zO rfl rfl (zW rfl rfl rfl hg' rfl ⟨(by simp [zc] <;> omega), ?_⟩))
 refine zO rfl rfl (gP rfl (room_okP (n := ((yh W R l (zX W l R)).length : Int)) rfl hobj' (by omega)) (fun n hn => .inl (by simp at hn; rw [hn]; exact zh _ (zh _ (zq ..)))) fun v4 h4 c4 al4 hal4 hq => ?_)
 obtain ⟨rfl, rfl, rfl⟩ := hq
 refine zO rfl rfl (jh rfl (kw rF.ar (m := (yh W R l (zX W l R)).length) rfl (Nat.le_refl _) (by unfold jE; omega) (by unfold jE; omega)) hsubA (by omega) fun v5 h5 c5 al5 hal5 hc5 hf5 hq => ?_)
 obtain ⟨rfl, rfl, vW'', hA, hn5⟩ := hq
 have hal4' : ∀ x ∈ al4, x.writes = false := hal4
 refine zN (ym (cs := [0, 1, 3, 7, 0, 16, 0, 0, 128, 448, 1023]) (by decide +kernel) ?_) ?_
 ·simp +contextual [jt, apP, Dis, yF, yE, yw, yA, Nat.testBit, hal4']
 repeat' (first | apply zw | apply zx | apply zG | apply zK | refine za rfl rfl (fun _ => rfl) ?_)
 rw [List.take_length] at hA
 have hsub2 : ∀ n ∈ zS vW'', n ∈ zS vW := fun n hn => hn2 n (hn5 n hn)
 have hpa : hp ∉ an a vW' := fun hh => hsep (by
  rcases zl hh with h | h
  ·rw [h]; exact zq ..
  ·exact zg _ (hn2 _ h))
 refine z6 rfl ⟨rfl, vW'', rows', ⟨⟨?_, hA, by omega, fun hh => hpa (by
  rcases zl hh with h | h
  ·rw [h]; exact zq ..
  ·exact zg _ (hn5 _ h)), by unfold jE; omega, hm0, hmx⟩, rF.rr.keep (Nat.le_refl _) fun n hn hm => hf5 n hn fun hh => ?_, fun n hn hh => ?_, rF.ok, rF.len⟩, hsub2, hst.keepN (Nat.le_refl _) fun n hn hm => hf5 n hn fun hh => ?_, hmv⟩
 ·rw [hf5 hp (by omega) hpa]; exact hobj'
 ·rcases zl hh with h | h
  ·exact (r2.sep n hm).1 h
  ·exact (r2.sep n hm).2 h
 ·refine r.sep n hn ?_
  rcases zl hh with h | h
  ·rw [h]; exact zq ..
  ·rcases zl h with h | h
   ·rw [h]; exact zg _ (zq ..)
   ·exact zg _ (zg _ (hsub2 n h))
 ·refine hap n hm (zh _ (zg _ ?_))
  rcases zl hh with h | h
  ·rw [h]; exact zq ..
  ·exact zg _ (hn2 n h)
end
open Go.Ab
section
variable {h h' : HH} {c c' hp a sp : Nat} {vW vR vX vb vr : V} {W R X : List Int} {size most : Int} {l : List (Nat × Hd)} {st : St}
abbrev binH (n t : Int) : Hd := ⟨3, n, t, false⟩
theorem wg {n t : Int} {b : Int} (rx : RowOf 1 ye h c vX X) (hX0 : X[0]? = some b) (hb : 0 <= b /\ b <= 2147483647) : Does 34 [.agg (hdV (binH n t)), vX] h c (zS vX) fun v h' c' => v = I b /\ ∀ n, n < c -> MapI.get h' n = MapI.get h n := by
 have hpos := (zj hX0).1
 obtain ⟨s, cap, rfl, hsh⟩ := rx.shape
 obtain ⟨sn, cl, junk, rfl, hsn, hg⟩ := hsh 0 hpos
 have hg' : ∀ {o : AObj}, MapI.get (MapI.set h c o) sn = some (.cells true cl (flat ye X ++ junk)) := yP (by omega) hg
 have hz : nth (flat ye X ++ junk) (0 + (0 : Int).toNat * 1) = some (U b) := yB yq hX0 rfl junk
 have e1 : (if (2147483647 : Int) < b then 2147483647 else b) = b := if_neg (by omega)
 refine yi (enter (fn := Tryz.f34) Tryz.func34 rfl rfl (zf rfl) ?_)
 repeat' (first | apply zw | apply zx | apply zK | refine za rfl rfl (fun _ => rfl) ?_ | refine zU ?_ | refine zL rfl rfl (yK rfl ⟨(by simp [zc] <;> omega), ?_⟩) | refine zL rfl rfl (zW rfl rfl rfl (zt _ _ _) rfl ⟨(by simp [zc] <;> omega), ?_⟩))
 have e2 : ((X.length : Int) == 0) = false := by rw [beq_eq_false_iff_ne]; omega
 refine zH rfl (fun hb => absurd (hb : ((X.length : Int) == 0) = true) (by rw [e2]; decide)) (fun _ => ?_)
 repeat' (first | refine zL rfl rfl (op_min rfl e1 ⟨zV, ?_⟩) | apply zw | apply zx | apply zz | apply zG | apply zK | refine za rfl rfl (fun _ => rfl) ?_ | refine zL rfl rfl (zZ (k := 1) rfl rfl rfl rfl ⟨by omega, by omega⟩ ⟨(by simp [zc] <;> omega), ?_⟩) | refine zL rfl rfl (zW rfl rfl rfl hg' hz ⟨(by simp [zc] <;> omega), ?_⟩))
 refine z6 rfl ⟨?_, fun n hn => zu _ _ _ _ (by omega)⟩
 show V.int .i64 (IntKind.i64.wrap b) = I b
 rw [Go.IntWalk.i64_in _ (by omega)]
set_option maxHeartbeats 1000000 in
theorem hmake_bin {n t : Int} {bi : Nat} {q : Int × Int × Int} (r : HeapAt h c hp a sp vW W size most) (s : StoreAt h c sp vb vr st) (hap : ∀ m ∈ sp :: (zS vb ++ zS vr), m ∉ hn hp a vW /\ m ∉ zS vX) (hlen : st.rows.length <= 1000) (hqb : st.rows[bi]? = some q) (hqc : 0 < q.2.2 /\ q.2.2 <= 1000000) (rx : RowOf 1 ye h c vX X) (hX : (X.length : Int) = n) (hX0 : X[0]? = some ((bi + 1 : Nat) : Int)) (hx : okH (binH n t)) (hXW : ∀ m ∈ zS vX, m ∉ hn hp a vW) (hok : ∀ w ∈ X, okW w) (hle : (W.length : Int) + 1 + n <= size) : Does 12 [.ptr (some (hp, 0)), .agg (hdV (binH n t)), vX] h c (hn hp a vW ++ zS vX ++ sp :: (zS vb ++ zS vr)) fun v h' c' => v = .tuple [U (jQ W.length), .bool true] /\ ∃ vW', HeapAt h' c' hp a sp vW' (W ++ makeW (binH n t) :: X) size most /\ (∀ n ∈ zS vW', n ∈ zS vW \/ c <= n) /\ StoreAt h' c' sp vb vr { st with rows := st.rows.set bi (q.1, q.2.1, IntKind.i64.wrap (q.2.2 + 1)) } /\ ∀ m, m < c -> m ∉ an a vW -> m ∉ sp :: zS vr -> MapI.get h' m = MapI.get h m := by
 have hobj := r.obj
 have hlh := r.lh
 have hsep := r.sep
 have hmo := r.mo
 have hmx := r.mx
 have hla := r.ar.la
 have hnm := r.names
 have hsub1 : ∀ m ∈ [hp], m ∈ hn hp a vW ++ zS vX ++ sp :: (zS vb ++ zS vr) \/ c <= m := fun m hm => .inl (by simp at hm; rw [hm]; exact zh _ (zh _ (zq ..)))
 have hsub2 : ∀ m ∈ an a vW, m ∈ hn hp a vW ++ zS vX ++ sp :: (zS vb ++ zS vr) \/ c <= m := fun m hm => .inl (zh _ (zh _ (zg _ hm)))
 have hsub3 : ∀ m ∈ zS vX, m ∈ hn hp a vW ++ zS vX ++ sp :: (zS vb ++ zS vr) \/ c <= m := fun m hm => .inl (zh _ (zi _ hm))
 have hsub4 : ∀ m ∈ sp :: zS vr, m ∈ hn hp a vW ++ zS vX ++ sp :: (zS vb ++ zS vr) \/ c <= m := fun m hm => .inl (zi _ (by
  rcases zl hm with h | h
  ·rw [h]; exact zq ..
  ·exact zg _ (zi _ h)))
 have hbl : bi < 1000 := by have := (zj hqb).1; omega
 have e0 : ((((bi + 1 : Nat) : Int)) != 0) = true := by rw [bne_iff_ne]; omega
 have hspn : ∀ n ∈ sp :: (zS vb ++ zS vr), n < c := fun n hn => by
  rcases zl hn with h | h
  ·rw [h]; exact s.lp
  ·rcases zk h with h | h
   ·exact s.bytes.lt n h
   ·exact s.rows.lt n h
 obtain ⟨b, cap, rfl, hshape⟩ := rx.shape
 have hlt := rx.lt
 subst hX
 have hx0 := hx
 unfold okH at hx0
 simp only at hx0
 have r1 : ∀ o, HeapAt (MapI.set h c o) (c + 1) hp a sp vW W size most := fun o => r.same (by omega) fun m hm => zu _ _ _ _ (by omega)
 refine yi (enter (fn := Tryz.f12) Tryz.func12 rfl rfl (zf rfl) ?_)
 repeat' (first | apply zw | apply zx | apply zK | refine za rfl rfl (fun _ => rfl) ?_ | refine zL rfl rfl (yK rfl ⟨(by simp [zc] <;> omega), ?_⟩))
 refine zL rfl rfl (yg rfl (gt (r1 _)) hsub1 (by omega) fun v4 h4 c4 hc4 hfr4 hq => ?_)
 obtain ⟨rfl, rfl, rfl⟩ := hq
 repeat' (first | apply zK | refine za rfl rfl (fun _ => rfl) ?_ | refine zU ?_ | refine zL rfl rfl (zW rfl rfl rfl (zt _ _ _) rfl ⟨(by simp [zc] <;> omega), ?_⟩))
 refine zH rfl (fun hb => absurd hb (by simp)) (fun _ => ?_)
 repeat' (first | apply zw | apply zx | apply zz | refine za rfl rfl (fun _ => rfl) ?_ | refine zL rfl rfl (yC rfl rfl rfl rfl (zt _ _ _) rfl ⟨(by simp [zc] <;> omega), ?_⟩))
 refine zL rfl rfl (yj rfl (wg (n := (X.length : Int)) (t := t) (rx.keep (by omega) fun m hm _ => zu _ _ _ _ (by omega)) hX0 (by omega)) hsub3 (by omega) fun v5 h5 c5 hc5 _ hq => ?_)
 obtain ⟨rfl, hf5⟩ := hq
 have r5 := (r1 (.cells true true (hdV (binH X.length t)))).same hc5 hf5
 have hobj5 := r5.obj
 have hg5 : MapI.get h5 c = some (.cells true true (hdV (binH X.length t))) := by rw [hf5 c (by omega)]; exact zt _ _ _
 have s5 : StoreAt h5 c5 sp vb vr st := s.keepN (by omega) fun n hn _ => by rw [hf5 n (by omega)]; exact zu _ _ _ _ (by omega)
 repeat' (first | apply zw | apply zx | apply zK | refine za rfl rfl (fun _ => rfl) ?_)
 simp only [e0]
 repeat' (first | refine za rfl rfl (fun _ => rfl) ?_ | refine zL rfl rfl (zW rfl rfl rfl hobj5 rfl ⟨(by simp [zc] <;> omega), ?_⟩))
 refine zL rfl rfl (yj rfl (count_ok (hd := ((bi + 1 : Nat) : Int)) s5 hlen) hsub4 (by omega) fun v9 h9 c9 hc9 _ hq => ?_)
 obtain ⟨rfl, rfl, hq⟩ := hq
 rcases hq with ⟨i9, q9, hi9, hq9, rfl⟩ | ⟨hno, _⟩
 case inr => have := hno bi q (by push_cast; rfl) hqb; omega
 have hib : i9 = bi := by push_cast at hi9; omega
 subst hib
 rw [hqb] at hq9
 cases hq9
 repeat' (first | apply zK | refine za rfl rfl (fun _ => rfl) ?_ | refine zU ?_)
 refine zH rfl (fun hb => absurd hb (by simp; omega)) (fun _ => ?_)
 repeat' (first | apply zw | apply zy | apply zz | refine zb rfl rfl (fun _ => rfl) ?_ | refine zO rfl rfl (zW rfl rfl rfl hobj5 rfl ⟨(by simp [zc] <;> omega), ?_⟩) | refine zO rfl rfl (yC rfl rfl rfl rfl hg5 rfl ⟨(by simp [zc] <;> omega), ?_⟩))
 refine zO rfl rfl (jh rfl (fresh_ok r5.ar hx (by simp only; omega)) hsub2 (by omega) fun v6 h6 c6 al6 hal6 hc6 hf6 hq => ?_)
 obtain ⟨rfl, vW6, hA6, hn6⟩ := hq
 repeat' (first | refine zb rfl rfl (fun _ => rfl) ?_)
 refine zN (ym (cs := [0, 1, 3, 7, 0, 31, 63, 127, 127, 255, 1023]) (by decide +kernel) ?_) ?_
 ·simp +contextual [jt, apP, Dis, yF, yE, yw, yA, Nat.testBit]
 repeat' (first | apply zw | apply zx | apply zK | refine za rfl rfl (fun _ => rfl) ?_ | refine zU ?_)
 refine zd rfl ?_
 have hsep6 : hp ∉ an a vW6 := fun hh => by
  rcases zl hh with h | h
  ·exact hsep (by rw [h]; exact zq ..)
  ·rcases hn6 _ h with h | h
   ·exact hsep (zg _ h)
   ·omega
 have hfr6 : ∀ m, m < c -> m ∉ an a vW -> MapI.get h6 m = MapI.get h m := fun m hm hna => by
  rw [hf6 m (by omega) hna, hf5 m (by omega)]; exact zu _ _ _ _ (by omega)
 have hn6' : ∀ n ∈ zS vW6, n ∈ zS vW \/ c <= n := fun n hn => (hn6 n hn).imp id fun h => by omega
 rw [show ((binH (X.length : Int) t).size).toNat = X.length from by simp] at hA6
 have hpn : hp ∉ an a vW := hsep
 have hobj6 : MapI.get h6 hp = _ := (hfr6 hp hlh hpn).trans hobj
 have hvp : yI (jQ W.length) = W.length := val_of ⟨by decide, by decide⟩ (by unfold jD; have := r.ar.le; omega)
 have hokp : okW (jQ W.length) := kS ⟨by decide, by decide⟩
 generalize hpw : jQ W.length = pw at hvp hokp
 repeat' (first | refine zJ (a := Code.seq (Code.region 9 _ _) _) (fun e' h' c' => (∃ b0, e' = FR b0 [(0, V.ptr (some (hp, 0))), (8, I ((i9 + 1 : Nat) : Int)), (9, U pw)]) /\ c <= c' /\ ∃ vW', HeapAt h' c' hp a sp vW' (W ++ makeW (binH X.length t) :: X) size most /\ (∀ n ∈ zS vW', n ∈ zS vW \/ c <= n) /\ ∀ m, m < c -> m ∉ an a vW -> MapI.get h' m = MapI.get h m) ?_ ?_ | apply zw | apply zx | apply zz | apply zB | apply zK | refine za rfl rfl (fun _ => rfl) ?_)
 ·
  skip
  refine zI ?_
  refine zQ (X := Nat × V) (fun y e' h' c' => (∃ b0, e' = FR b0 [(0, V.ptr (some (hp, 0))), (8, I ((i9 + 1 : Nat) : Int)), (9, U pw), (48, .slice b X.length cap), (49, I X.length), (50, I y.1)]) /\ y.1 <= X.length /\ c6 <= c' /\ HeapAt h' c' hp a sp y.2 (W ++ makeW (binH X.length t) :: (X.take y.1 ++ List.replicate (X.length - y.1) 0)) size most /\ (∀ n ∈ zS y.2, n ∈ zS vW \/ c <= n) /\ ∀ m, m < c -> m ∉ an a vW -> MapI.get h' m = MapI.get h m)
   (fun y => X.length - y.1) ?_ (0, vW6) _ _ _ ⟨fr ⟨rfl, rfl, rfl, rfl, rfl, rfl, trivial⟩, Nat.zero_le _, Nat.le_refl _, ⟨hobj6, by rw [List.take_zero, List.nil_append, Nat.sub_zero]; exact hA6, by omega, hsep6, hmo, r.m0, hmx⟩, hn6', hfr6⟩
  rintro ⟨i, v⟩ e' h' c' ⟨⟨b0, rfl⟩, hi, hc', rr, hnv, hfv⟩
  simp only at hi rr hnv
  have hobj' := rr.obj
  repeat' (first | apply zw | apply zx | apply zK | refine za rfl rfl (fun _ => rfl) ?_)
  refine zH rfl (fun hlt => ?_) (fun hge => ?_)
  case refine_2 =>
   have hge : X.length <= i := by simpa using hge
   have hie : i = X.length := by omega
   subst hie
   rw [List.take_of_length_le (Nat.le_refl _), Nat.sub_self, List.replicate_zero, List.append_nil] at rr
   repeat' (first | apply zF | refine zU ?_ | refine ji ?_ | refine jr rfl ?_)
   refine ⟨fr ?_, by omega, v, rr, hnv, hfv⟩
   exact ⟨rfl, rfl, rfl, trivial⟩
  have hlt' : i < X.length := by simpa using hlt
  obtain ⟨x, hxi⟩ : ∃ z, X[i]? = some z := ⟨_, zp hlt'⟩
  obtain ⟨sn, cl, junk, rfl, hsn, hg⟩ := hshape i hlt'
  have hsv : sn ∉ an a vW := fun hh => hXW sn (by simp [zS]) (zg _ hh)
  have hg' : MapI.get h' sn = _ := (hfv sn hsn hsv).trans hg
  have hz : nth (flat ye X ++ junk) (0 + ((i : Nat) : Int).toNat * 1) = some (U x) := by
   rw [show 0 + ((i : Nat) : Int).toNat * 1 = i from by simp]
   exact yB yq hxi rfl junk
  have hWl := r.ar.le
  have hw1 : IntKind.i64.wrap ((i : Int) + 1) = ((i + 1 : Nat) : Int) := by rw [Go.IntWalk.i64_in _ (by omega)]; omega
  have hw2 : IntKind.i64.wrap (IntKind.i64.wrap ((W.length : Int) + 1) + (i : Int)) = ((W.length + 1 + i : Nat) : Int) := by rw [Go.IntWalk.i64_in ((W.length : Int) + 1) (by omega), Go.IntWalk.i64_in _ (by omega)]; omega
  repeat' (first | apply zw | apply zx | apply zy | apply zz | apply zB | apply zK | refine za rfl rfl (fun _ => rfl) ?_ | refine zb rfl rfl (fun _ => rfl) ?_ | refine zL rfl rfl (zZ (k := 1) rfl rfl rfl rfl ⟨by omega, by omega⟩ ⟨(by simp [zc] <;> omega), ?_⟩) | refine zL rfl rfl (zW rfl rfl rfl hg' hz ⟨(by simp [zc] <;> omega), ?_⟩) | refine zO rfl rfl (zW rfl rfl rfl hobj' rfl ⟨(by simp [zc] <;> omega), ?_⟩))
  refine zO rfl rfl (jy rfl (gZ hokp) (fun n hn => by cases hn) (by omega) fun v7 h7 c7 al7 hal7 hc7 hf7 hq => ?_)
  obtain ⟨rfl, rfl, rfl⟩ := hq
  rw [hvp]
  repeat' (first | refine zb rfl rfl (fun _ => rfl) ?_)
  refine zO rfl rfl (jh rfl (set_ok rr.ar (j := W.length + 1 + i) hw2 (by simp; omega) (hok x (zo hxi))) (ms := hn hp a vW ++ zS (.slice (some (sn, 0)) X.length cap) ++ sp :: (zS vb ++ zS vr)) (c0 := c) (fun n hn => ?_) (by omega) fun v8 h8 c8 al8 hal8 hc8 hf8 hq => ?_)
  ·rcases zl hn with h | h
   ·exact .inl (zh _ (zh _ (by rw [h]; exact zg _ (zq ..))))
   ·rcases hnv n h with h | h
    ·exact .inl (zh _ (zh _ (zg _ (zg _ h))))
    ·exact .inr h
  obtain ⟨rfl, rfl, r8, _⟩ := hq
  rw [fill_step hxi] at r8
  have hal7' : ∀ x ∈ al7, hp = x.name -> x.writes = false := fun x hx e => by
   cases hw : x.writes with
   | false => rfl
   | true => have := (hal7 x hx).2 hw; have := rr.lh; omega
  skip
  refine zN (ym (cs := [0, 1, 3, 7, 0, 16, 48, 0, 240, 0, 1023]) (by decide +kernel) ?_) ?_
  ·simp +contextual [jt, apP, Dis, yF, yE, yw, yA, Nat.testBit, hal7']
  repeat' (first | apply zx | apply zK | refine za rfl rfl (fun _ => rfl) ?_ | refine zU ?_)
  have hpv : hp ∉ an a v := rr.sep
  refine ⟨(i + 1, v), by simp only; omega, ?_, by simp only; omega, by omega, ⟨?_, r8, rr.lh, rr.sep, rr.mo, rr.m0, rr.mx⟩, hnv, fun m hm hma => ?_⟩
  ·rw [hw1]
   exact fr ⟨rfl, rfl, rfl, rfl, rfl, rfl, trivial⟩
  ·rw [hf8 hp rr.lh hpv]; exact hobj'
  ·rw [hf8 m (by omega) (fun hh => ?_)]
   ·exact hfv m hm hma
   ·rcases zl hh with h | h
    ·exact hma (by rw [h]; exact zq ..)
    ·rcases hnv m h with h | h
     ·exact hma (zg _ h)
     ·omega
 rintro e' h' c' ⟨⟨b0, rfl⟩, hc', vW', rr, hnv, hfv⟩
 have hobjE := rr.obj
 have sE : StoreAt h' c' sp vb vr st := s.keepN hc' fun n hn hm => hfv n hn fun hh => (hap n hm).1 (zg _ hh)
 repeat' (first | apply zw | apply zx | apply zK | refine za rfl rfl (fun _ => rfl) ?_ | refine zU ?_)
 refine zH rfl (fun _ => ?_) (fun hb => absurd hb (by show ¬ ((((i9 + 1 : Nat) : Int)) != 0) = false; rw [e0]; simp))
 repeat' (first | apply zx | refine za rfl rfl (fun _ => rfl) ?_ | refine zL rfl rfl (zW rfl rfl rfl hobjE rfl ⟨(by simp [zc] <;> omega), ?_⟩))
 refine zL rfl rfl (yj rfl (hold_ok (hd := ((i9 + 1 : Nat) : Int)) sE hlen) hsub4 (by omega) fun v8 h8 c8 hc8 hf8 hq => ?_)
 obtain ⟨rfl, hq⟩ := hq
 rcases hq with ⟨j9, q8, hj9, hq8, _, rfl, s8⟩ | ⟨hno, _⟩
 case inr => have := hno i9 q (by push_cast; rfl) hqb; omega
 have hjb : j9 = i9 := by push_cast at hj9; omega
 subst hjb
 rw [hqb] at hq8
 cases hq8
 have hnE := rr.names
 repeat' (first | apply zw | apply zx | apply zG | apply zK | refine za rfl rfl (fun _ => rfl) ?_)
 refine z6 rfl ⟨rfl, vW', rr.keep hc8 fun n hn hm => hf8 n hn fun hh => ?_, hnv, s8, fun m hm h1 h2 => by rw [hf8 m (by omega) h2]; exact hfv m hm h1⟩
 have hsn : n ∈ sp :: (zS vb ++ zS vr) := by
  rcases zl hh with h | h
  ·rw [h]; exact zq ..
  ·exact zg _ (zi _ h)
 have hlt := hspn n hsn
 refine (hap n hsn).1 ?_
 rcases zl hm with h | h
 ·rw [h]; exact zq ..
 ·rcases zl h with h | h
  ·rw [h]; exact zg _ (zq ..)
  ·rcases hnv n h with h | h
   ·exact zg _ (zg _ h)
   ·omega
end
open Go.Ab
section
variable {h h' : HH} {c c' hp a sp : Nat} {vW vR vX vb vr : V} {W R X : List Int} {size most : Int} {l : List (Nat × Hd)} {st : St}
abbrev kH (k n : Int) : Hd := ⟨k, n, 1, false⟩
theorem wmake_no {x : Hd} (hk : x.kind < 0 \/ 3 < x.kind) : Does 56 [.agg (hdV x)] h c [] fun v h' c' => v = U 4 := by
 have hg : MapI.get (MapI.set h c (.cells true true (hdV x))) c = some (.cells true true (hdV x)) := zt _ _ _
 obtain ⟨k, s, t, n⟩ := x
 simp only at hk
 have none_ok : ∀ {h : HH} {c : Nat}, DoesR 73 [] h c [] fun v h' c' => v = U 4 /\ h = h' /\ c = c' := fun {h c} => by
  refine yN (enter (fn := Tryz.f73) Tryz.func73 rfl rfl (zf rfl) ?_)
  repeat' (first | apply zw | apply zx | apply zG | apply zK | refine za rfl rfl (fun _ => rfl) ?_)
  exact z6 rfl ⟨rfl, rfl, rfl⟩
 refine yi (enter (fn := Tryz.f56) Tryz.func56 rfl rfl (zf rfl) ?_)
 cases d1 : decide (k < 0) with
 | true =>
  repeat' (first | apply zw | apply zx | apply zK | refine za rfl rfl (fun _ => rfl) ?_ | refine zL rfl rfl (yK rfl ⟨(by simp [zc] <;> omega), ?_⟩) | refine zL rfl rfl (zW rfl rfl rfl hg rfl ⟨(by simp [zc] <;> omega), ?_⟩))
  simp only [d1]
  repeat' (first | apply zK | refine za rfl rfl (fun _ => rfl) ?_ | refine zM rfl rfl ?_ | refine zU ?_)
  refine ze rfl ?_
  repeat' (first | apply zw | apply zx)
  refine zL rfl rfl (yg rfl none_ok (fun n hn => by cases hn) (by omega) fun v4 h4 c4 hc4 _ hq => ?_)
  obtain ⟨rfl, rfl, rfl⟩ := hq
  repeat' (first | apply zG | apply zK | refine za rfl rfl (fun _ => rfl) ?_ | refine yn ?_)
  exact z6 rfl rfl
 | false =>
  have d1' := of_decide_eq_false d1
  have d2 : decide (k > 3) = true := decide_eq_true (by omega)
  repeat' (first | apply zw | apply zx | apply zK | refine za rfl rfl (fun _ => rfl) ?_ | refine zL rfl rfl (yK rfl ⟨(by simp [zc] <;> omega), ?_⟩) | refine zL rfl rfl (zW rfl rfl rfl hg rfl ⟨(by simp [zc] <;> omega), ?_⟩))
  simp only [d1]
  repeat' (first | refine za rfl rfl (fun _ => rfl) ?_ | refine zL rfl rfl (zW rfl rfl rfl hg rfl ⟨(by simp [zc] <;> omega), ?_⟩))
  simp only [d2]
  repeat' (first | apply zK | refine za rfl rfl (fun _ => rfl) ?_ | refine zM rfl rfl ?_ | refine zU ?_)
  refine ze rfl ?_
  repeat' (first | apply zw | apply zx)
  refine zL rfl rfl (yg rfl none_ok (fun n hn => by cases hn) (by omega) fun v4 h4 c4 hc4 _ hq => ?_)
  obtain ⟨rfl, rfl, rfl⟩ := hq
  repeat' (first | apply zG | apply zK | refine za rfl rfl (fun _ => rfl) ?_ | refine yn ?_)
  exact z6 rfl rfl
theorem fresh_bad {x : Hd} (hk : x.kind < 0 \/ 3 < x.kind) : Does 35 [.ptr (some (a, 0)), .agg (hdV x)] h c (an a vW) fun v h' c' => v = .tuple [U 0, .bool false] /\ ∀ n, n < c -> MapI.get h' n = MapI.get h n := by
 refine yi (enter (fn := Tryz.f35) Tryz.func35 rfl rfl (zf rfl) ?_)
 repeat' (first | apply zw | apply zx | apply zK | refine za rfl rfl (fun _ => rfl) ?_ | refine zL rfl rfl (yK rfl ⟨(by simp [zc] <;> omega), ?_⟩) | refine zL rfl rfl (yC rfl rfl rfl rfl (zt _ _ _) rfl ⟨(by simp [zc] <;> omega), ?_⟩))
 refine zL rfl rfl (yj rfl (wmake_no hk) (fun n hn => by cases hn) (by omega) fun v4 h4 c4 hc4 hf4 hq => ?_)
 subst hq
 have hfr4 : ∀ n, n < c -> MapI.get h4 n = MapI.get h n := fun n hn => by rw [hf4 n (by omega) (fun hh => by cases hh)]; exact zu _ _ _ _ (by omega)
 repeat' (first | apply zw | apply zx | apply zK | refine za rfl rfl (fun _ => rfl) ?_)
 refine zL rfl rfl (yj rfl (tag_ok (w := 4) ⟨by decide, by decide⟩) (fun n hn => by cases hn) (by omega) fun v5 h5 c5 hc5 hf5 hq => ?_)
 obtain ⟨rfl, rfl, rfl⟩ := hq
 repeat' (first | apply zK | refine za rfl rfl (fun _ => rfl) ?_ | refine zU ?_)
 refine ze rfl ?_
 repeat' (first | apply zw | apply zx | apply zG | apply zK | refine za rfl rfl (fun _ => rfl) ?_ | refine yn ?_)
 exact z6 rfl ⟨rfl, hfr4⟩
theorem fresh_none {x : Hd} (r : ArAt h c a vW W size) (hx : (x.kind < 0 \/ 3 < x.kind) \/ (okH x /\ size < (W.length : Int) + 1 + x.size)) : Does 35 [.ptr (some (a, 0)), .agg (hdV x)] h c (an a vW) fun v h' c' => v = .tuple [U 0, .bool false] /\ ∀ n, n < c -> MapI.get h' n = MapI.get h n := by
 rcases hx with hx | ⟨hx, hle⟩
 ·exact fresh_bad hx
 ·exact fresh_no r hx hle
theorem hand0 {k n : Int} (hz0 : k ≠ 3 \/ X[0]? = some 0) (rx : RowOf 1 ye h c vX X) : Does 34 [.agg (hdV (kH k n)), vX] h c (zS vX) fun v h' c' => v = I 0 /\ ∀ n, n < c -> MapI.get h' n = MapI.get h n := by
 by_cases hk : k = 3
 ·subst hk
  rcases hz0 with hz0 | hz0
  ·exact absurd rfl hz0
  ·exact wg rx hz0 ⟨by decide, by decide⟩
 ·have e : (k != 3) = true := by simpa using hk
  refine yi (enter (fn := Tryz.f34) Tryz.func34 rfl rfl (zf rfl) ?_)
  repeat' (first | apply zw | apply zx | apply zK | refine za rfl rfl (fun _ => rfl) ?_ | refine zL rfl rfl (yK rfl ⟨(by simp [zc] <;> omega), ?_⟩) | refine zL rfl rfl (zW rfl rfl rfl (zt _ _ _) rfl ⟨(by simp [zc] <;> omega), ?_⟩))
  simp only [e]
  repeat' (first | apply zK | refine za rfl rfl (fun _ => rfl) ?_ | refine zM rfl rfl ?_ | refine zU ?_)
  refine ze rfl ?_
  repeat' (first | apply zw | apply zx | apply zG | apply zK | refine za rfl rfl (fun _ => rfl) ?_ | refine yn ?_)
  exact z6 rfl ⟨rfl, fun n hn => zu _ _ _ _ (by omega)⟩
theorem hmake_len {x : Hd} (r : HeapAt h c hp a sp vW W size most) (rx : RowOf 1 ye h c vX X) (hX : (X.length : Int) ≠ x.size) : Does 12 [.ptr (some (hp, 0)), .agg (hdV x), vX] h c (hn hp a vW ++ zS vX) fun v h' c' => v = .tuple [U 0, .bool false] /\ ∀ n, n < c -> MapI.get h' n = MapI.get h n := by
 have hsub1 : ∀ m ∈ [hp], m ∈ hn hp a vW ++ zS vX \/ c <= m := fun m hm => .inl (by simp at hm; rw [hm]; exact zh _ (zq ..))
 obtain ⟨b, cap, rfl, hlt, hrow⟩ := rx
 have e1 : ((X.length : Int) != x.size) = true := by simpa using hX
 have r1 : ∀ o, HeapAt (MapI.set h c o) (c + 1) hp a sp vW W size most := fun o => r.same (by omega) fun m hm => zu _ _ _ _ (by omega)
 refine yi (enter (fn := Tryz.f12) Tryz.func12 rfl rfl (zf rfl) ?_)
 repeat' (first | apply zw | apply zx | apply zK | refine za rfl rfl (fun _ => rfl) ?_ | refine zL rfl rfl (yK rfl ⟨(by simp [zc] <;> omega), ?_⟩))
 refine zL rfl rfl (yg rfl (gt (r1 _)) hsub1 (by omega) fun v4 h4 c4 hc4 hfr4 hq => ?_)
 obtain ⟨rfl, rfl, rfl⟩ := hq
 repeat' (first | apply zK | refine za rfl rfl (fun _ => rfl) ?_ | refine zU ?_ | refine zL rfl rfl (zW rfl rfl rfl (zt _ _ _) rfl ⟨(by simp [zc] <;> omega), ?_⟩))
 refine zH rfl (fun _ => ?_) (fun hb => by rw [e1] at hb; cases hb)
 repeat' (first | apply zw | apply zx | apply zG | apply zK | refine za rfl rfl (fun _ => rfl) ?_ | refine yn ?_)
 exact z6 rfl ⟨rfl, fun m hm => zu _ _ _ _ (by omega)⟩
set_option maxHeartbeats 1000000 in
theorem hmake_none {k n : Int} (hz0 : k ≠ 3 \/ X[0]? = some 0) (r : HeapAt h c hp a sp vW W size most) (rx : RowOf 1 ye h c vX X) (hX : (X.length : Int) = n) (hx : (k < 0 \/ 3 < k) \/ (okH (kH k n) /\ size < (W.length : Int) + 1 + n)) : Does 12 [.ptr (some (hp, 0)), .agg (hdV (kH k n)), vX] h c (hn hp a vW ++ zS vX) fun v h' c' => v = .tuple [U 0, .bool false] /\ ∀ n, n < c -> MapI.get h' n = MapI.get h n := by
 have hobj := r.obj
 have hlh := r.lh
 have hsub1 : ∀ m ∈ [hp], m ∈ hn hp a vW ++ zS vX \/ c <= m := fun m hm => .inl (by simp at hm; rw [hm]; exact zh _ (zq ..))
 have hsub2 : ∀ m ∈ an a vW, m ∈ hn hp a vW ++ zS vX \/ c <= m := fun m hm => .inl (zh _ (zg _ hm))
 obtain ⟨b, cap, rfl, hshape⟩ := rx.shape
 subst hX
 have r1 : ∀ o, HeapAt (MapI.set h c o) (c + 1) hp a sp vW W size most := fun o => r.same (by omega) fun m hm => zu _ _ _ _ (by omega)
 refine yi (enter (fn := Tryz.f12) Tryz.func12 rfl rfl (zf rfl) ?_)
 repeat' (first | apply zw | apply zx | apply zK | refine za rfl rfl (fun _ => rfl) ?_ | refine zL rfl rfl (yK rfl ⟨(by simp [zc] <;> omega), ?_⟩))
 refine zL rfl rfl (yg rfl (gt (r1 _)) hsub1 (by omega) fun v4 h4 c4 hc4 hfr4 hq => ?_)
 obtain ⟨rfl, rfl, rfl⟩ := hq
 repeat' (first | apply zK | refine za rfl rfl (fun _ => rfl) ?_ | refine zU ?_ | refine zL rfl rfl (zW rfl rfl rfl (zt _ _ _) rfl ⟨(by simp [zc] <;> omega), ?_⟩))
 refine zH rfl (fun hb => absurd hb (by simp)) (fun _ => ?_)
 repeat' (first | apply zw | apply zx | apply zz | refine za rfl rfl (fun _ => rfl) ?_ | refine zL rfl rfl (yC rfl rfl rfl rfl (zt _ _ _) rfl ⟨(by simp [zc] <;> omega), ?_⟩))
 refine zL rfl rfl (yj rfl (hand0 (k := k) (n := (X.length : Int)) hz0 (rx.keep (c' := c + 1) (by omega) fun m hm _ => zu _ _ _ _ (by omega))) (fun m hm => .inl (zi _ hm)) (by omega) fun v5 h5 c5 hc5 _ hq => ?_)
 obtain ⟨rfl, hf5⟩ := hq
 have r5 := (r1 (.cells true true (hdV (kH k X.length)))).same hc5 hf5
 have hobj5 := r5.obj
 have hg5 : MapI.get h5 c = some (.cells true true (hdV (kH k X.length))) := by rw [hf5 c (by omega)]; exact zt _ _ _
 repeat' (first | apply zw | apply zx | apply zK | refine za rfl rfl (fun _ => rfl) ?_ | refine zM rfl rfl ?_ | refine zU ?_)
 refine zd rfl ?_
 repeat' (first | apply zw | apply zy | apply zz | refine zb rfl rfl (fun _ => rfl) ?_ | refine zO rfl rfl (zW rfl rfl rfl hobj5 rfl ⟨(by simp [zc] <;> omega), ?_⟩) | refine zO rfl rfl (yC rfl rfl rfl rfl hg5 rfl ⟨(by simp [zc] <;> omega), ?_⟩))
 refine zO rfl rfl (jh rfl (fresh_none r5.ar hx) hsub2 (by omega) fun v6 h6 c6 al6 hal6 hc6 _ hq => ?_)
 obtain ⟨rfl, hf6⟩ := hq
 repeat' (first | refine zb rfl rfl (fun _ => rfl) ?_)
 refine zN (ym (cs := [0, 1, 3, 7, 0, 31, 63, 127, 127, 255, 1023]) (by decide +kernel) ?_) ?_
 ·simp +contextual [jt, apP, Dis, yF, yE, yw, yA, Nat.testBit]
 repeat' (first | apply zw | apply zx | apply zK | refine za rfl rfl (fun _ => rfl) ?_ | refine zU ?_)
 refine ze rfl ?_
 repeat' (first | apply zw | apply zx | apply zG | apply zK | refine za rfl rfl (fun _ => rfl) ?_ | refine yn ?_)
 refine z6 rfl ⟨rfl, fun m hm => ?_⟩
 rw [hf6 m (by omega), hf5 m (by omega)]; exact zu _ _ _ _ (by omega)
set_option maxHeartbeats 1000000 in
theorem hmake_zero {k n : Int} (hz0 : k ≠ 3 \/ X[0]? = some 0) (r : HeapAt h c hp a sp vW W size most) (rx : RowOf 1 ye h c vX X) (hX : (X.length : Int) = n) (hx : okH (kH k n)) (hXW : ∀ m ∈ zS vX, m ∉ hn hp a vW) (hok : ∀ w ∈ X, okW w) (hle : (W.length : Int) + 1 + n <= size) : Does 12 [.ptr (some (hp, 0)), .agg (hdV (kH k n)), vX] h c (hn hp a vW ++ zS vX) fun v h' c' => v = .tuple [U (jQ W.length), .bool true] /\ ∃ vW', HeapAt h' c' hp a sp vW' (W ++ makeW (kH k n) :: X) size most /\ (∀ n ∈ zS vW', n ∈ zS vW \/ c <= n) /\ ∀ m, m < c -> m ∉ an a vW -> MapI.get h' m = MapI.get h m := by
 have hobj := r.obj
 have hlh := r.lh
 have hsep := r.sep
 have hmo := r.mo
 have hmx := r.mx
 have hla := r.ar.la
 have hnm := r.names
 have hsub1 : ∀ m ∈ [hp], m ∈ hn hp a vW ++ zS vX \/ c <= m := fun m hm => .inl (by simp at hm; rw [hm]; exact zh _ (zq ..))
 have hsub2 : ∀ m ∈ an a vW, m ∈ hn hp a vW ++ zS vX \/ c <= m := fun m hm => .inl (zh _ (zg _ hm))
 obtain ⟨b, cap, rfl, hshape⟩ := rx.shape
 have hlt := rx.lt
 subst hX
 have hx0 := hx
 unfold okH at hx0
 simp only at hx0
 have r1 : ∀ o, HeapAt (MapI.set h c o) (c + 1) hp a sp vW W size most := fun o => r.same (by omega) fun m hm => zu _ _ _ _ (by omega)
 refine yi (enter (fn := Tryz.f12) Tryz.func12 rfl rfl (zf rfl) ?_)
 repeat' (first | apply zw | apply zx | apply zK | refine za rfl rfl (fun _ => rfl) ?_ | refine zL rfl rfl (yK rfl ⟨(by simp [zc] <;> omega), ?_⟩))
 refine zL rfl rfl (yg rfl (gt (r1 _)) hsub1 (by omega) fun v4 h4 c4 hc4 hfr4 hq => ?_)
 obtain ⟨rfl, rfl, rfl⟩ := hq
 repeat' (first | apply zK | refine za rfl rfl (fun _ => rfl) ?_ | refine zU ?_ | refine zL rfl rfl (zW rfl rfl rfl (zt _ _ _) rfl ⟨(by simp [zc] <;> omega), ?_⟩))
 refine zH rfl (fun hb => absurd hb (by simp)) (fun _ => ?_)
 repeat' (first | apply zw | apply zx | apply zz | refine za rfl rfl (fun _ => rfl) ?_ | refine zL rfl rfl (yC rfl rfl rfl rfl (zt _ _ _) rfl ⟨(by simp [zc] <;> omega), ?_⟩))
 refine zL rfl rfl (yj rfl (hand0 (k := k) (n := (X.length : Int)) hz0 (rx.keep (c' := c + 1) (by omega) fun m hm _ => zu _ _ _ _ (by omega))) (fun m hm => .inl (zi _ hm)) (by omega) fun v5 h5 c5 hc5 _ hq => ?_)
 obtain ⟨rfl, hf5⟩ := hq
 have r5 := (r1 (.cells true true (hdV (kH k X.length)))).same hc5 hf5
 have hobj5 := r5.obj
 have hg5 : MapI.get h5 c = some (.cells true true (hdV (kH k X.length))) := by rw [hf5 c (by omega)]; exact zt _ _ _
 repeat' (first | apply zw | apply zx | apply zK | refine za rfl rfl (fun _ => rfl) ?_ | refine zM rfl rfl ?_ | refine zU ?_)
 refine zd rfl ?_
 repeat' (first | apply zw | apply zy | apply zz | refine zb rfl rfl (fun _ => rfl) ?_ | refine zO rfl rfl (zW rfl rfl rfl hobj5 rfl ⟨(by simp [zc] <;> omega), ?_⟩) | refine zO rfl rfl (yC rfl rfl rfl rfl hg5 rfl ⟨(by simp [zc] <;> omega), ?_⟩))
 refine zO rfl rfl (jh rfl (fresh_ok r5.ar hx (by simp only; omega)) hsub2 (by omega) fun v6 h6 c6 al6 hal6 hc6 hf6 hq => ?_)
 obtain ⟨rfl, vW6, hA6, hn6⟩ := hq
 repeat' (first | refine zb rfl rfl (fun _ => rfl) ?_)
 refine zN (ym (cs := [0, 1, 3, 7, 0, 31, 63, 127, 127, 255, 1023]) (by decide +kernel) ?_) ?_
 ·simp +contextual [jt, apP, Dis, yF, yE, yw, yA, Nat.testBit]
 repeat' (first | apply zw | apply zx | apply zK | refine za rfl rfl (fun _ => rfl) ?_ | refine zU ?_)
 refine zd rfl ?_
 have hsep6 : hp ∉ an a vW6 := fun hh => by
  rcases zl hh with h | h
  ·exact hsep (by rw [h]; exact zq ..)
  ·rcases hn6 _ h with h | h
   ·exact hsep (zg _ h)
   ·omega
 have hfr6 : ∀ m, m < c -> m ∉ an a vW -> MapI.get h6 m = MapI.get h m := fun m hm hna => by
  rw [hf6 m (by omega) hna, hf5 m (by omega)]; exact zu _ _ _ _ (by omega)
 have hn6' : ∀ n ∈ zS vW6, n ∈ zS vW \/ c <= n := fun n hn => (hn6 n hn).imp id fun h => by omega
 rw [show ((kH k (X.length : Int)).size).toNat = X.length from by simp] at hA6
 have hpn : hp ∉ an a vW := hsep
 have hobj6 : MapI.get h6 hp = _ := (hfr6 hp hlh hpn).trans hobj
 have hvp : yI (jQ W.length) = W.length := val_of ⟨by decide, by decide⟩ (by unfold jD; have := r.ar.le; omega)
 have hokp : okW (jQ W.length) := kS ⟨by decide, by decide⟩
 generalize hpw : jQ W.length = pw at hvp hokp
 repeat' (first | refine zJ (a := Code.seq (Code.region 9 _ _) _) (fun e' h' c' => (∃ b0, e' = FR b0 [(8, I 0), (9, U pw)]) /\ c <= c' /\ ∃ vW', HeapAt h' c' hp a sp vW' (W ++ makeW (kH k X.length) :: X) size most /\ (∀ n ∈ zS vW', n ∈ zS vW \/ c <= n) /\ ∀ m, m < c -> m ∉ an a vW -> MapI.get h' m = MapI.get h m) ?_ ?_ | apply zw | apply zx | apply zz | apply zB | apply zK | refine za rfl rfl (fun _ => rfl) ?_)
 ·
  skip
  refine zI ?_
  refine zQ (X := Nat × V) (fun y e' h' c' => (∃ b0, e' = FR b0 [(0, V.ptr (some (hp, 0))), (8, I 0), (9, U pw), (48, .slice b X.length cap), (49, I X.length), (50, I y.1)]) /\ y.1 <= X.length /\ c6 <= c' /\ HeapAt h' c' hp a sp y.2 (W ++ makeW (kH k X.length) :: (X.take y.1 ++ List.replicate (X.length - y.1) 0)) size most /\ (∀ n ∈ zS y.2, n ∈ zS vW \/ c <= n) /\ ∀ m, m < c -> m ∉ an a vW -> MapI.get h' m = MapI.get h m)
   (fun y => X.length - y.1) ?_ (0, vW6) _ _ _ ⟨fr ⟨rfl, rfl, rfl, rfl, rfl, rfl, trivial⟩, Nat.zero_le _, Nat.le_refl _, ⟨hobj6, by rw [List.take_zero, List.nil_append, Nat.sub_zero]; exact hA6, by omega, hsep6, hmo, r.m0, hmx⟩, hn6', hfr6⟩
  rintro ⟨i, v⟩ e' h' c' ⟨⟨b0, rfl⟩, hi, hc', rr, hnv, hfv⟩
  simp only at hi rr hnv
  have hobj' := rr.obj
  repeat' (first | apply zw | apply zx | apply zK | refine za rfl rfl (fun _ => rfl) ?_)
  refine zH rfl (fun hlt => ?_) (fun hge => ?_)
  case refine_2 =>
   have hge : X.length <= i := by simpa using hge
   have hie : i = X.length := by omega
   subst hie
   rw [List.take_of_length_le (Nat.le_refl _), Nat.sub_self, List.replicate_zero, List.append_nil] at rr
   repeat' (first | apply zF | refine zU ?_ | refine ji ?_ | refine jr rfl ?_)
   refine ⟨fr ?_, by omega, v, rr, hnv, hfv⟩
   exact ⟨rfl, rfl, trivial⟩
  have hlt' : i < X.length := by simpa using hlt
  obtain ⟨x, hxi⟩ : ∃ z, X[i]? = some z := ⟨_, zp hlt'⟩
  obtain ⟨sn, cl, junk, rfl, hsn, hg⟩ := hshape i hlt'
  have hsv : sn ∉ an a vW := fun hh => hXW sn (by simp [zS]) (zg _ hh)
  have hg' : MapI.get h' sn = _ := (hfv sn hsn hsv).trans hg
  have hz : nth (flat ye X ++ junk) (0 + ((i : Nat) : Int).toNat * 1) = some (U x) := by
   rw [show 0 + ((i : Nat) : Int).toNat * 1 = i from by simp]
   exact yB yq hxi rfl junk
  have hWl := r.ar.le
  have hw1 : IntKind.i64.wrap ((i : Int) + 1) = ((i + 1 : Nat) : Int) := by rw [Go.IntWalk.i64_in _ (by omega)]; omega
  have hw2 : IntKind.i64.wrap (IntKind.i64.wrap ((W.length : Int) + 1) + (i : Int)) = ((W.length + 1 + i : Nat) : Int) := by rw [Go.IntWalk.i64_in ((W.length : Int) + 1) (by omega), Go.IntWalk.i64_in _ (by omega)]; omega
  repeat' (first | apply zw | apply zx | apply zy | apply zz | apply zB | apply zK | refine za rfl rfl (fun _ => rfl) ?_ | refine zb rfl rfl (fun _ => rfl) ?_ | refine zL rfl rfl (zZ (k := 1) rfl rfl rfl rfl ⟨by omega, by omega⟩ ⟨(by simp [zc] <;> omega), ?_⟩) | refine zL rfl rfl (zW rfl rfl rfl hg' hz ⟨(by simp [zc] <;> omega), ?_⟩) | refine zO rfl rfl (zW rfl rfl rfl hobj' rfl ⟨(by simp [zc] <;> omega), ?_⟩))
  refine zO rfl rfl (jy rfl (gZ hokp) (fun n hn => by cases hn) (by omega) fun v7 h7 c7 al7 hal7 hc7 hf7 hq => ?_)
  obtain ⟨rfl, rfl, rfl⟩ := hq
  rw [hvp]
  repeat' (first | refine zb rfl rfl (fun _ => rfl) ?_)
  refine zO rfl rfl (jh rfl (set_ok rr.ar (j := W.length + 1 + i) hw2 (by simp; omega) (hok x (zo hxi))) (ms := hn hp a vW ++ zS (.slice (some (sn, 0)) X.length cap)) (c0 := c) (fun n hn => ?_) (by omega) fun v8 h8 c8 al8 hal8 hc8 hf8 hq => ?_)
  ·rcases zl hn with h | h
   ·exact .inl (zh _ (by rw [h]; exact zg _ (zq ..)))
   ·rcases hnv n h with h | h
    ·exact .inl (zh _ (zg _ (zg _ h)))
    ·exact .inr h
  obtain ⟨rfl, rfl, r8, _⟩ := hq
  rw [fill_step hxi] at r8
  have hal7' : ∀ x ∈ al7, hp = x.name -> x.writes = false := fun x hx e => by
   cases hw : x.writes with
   | false => rfl
   | true => have := (hal7 x hx).2 hw; have := rr.lh; omega
  skip
  refine zN (ym (cs := [0, 1, 3, 7, 0, 16, 48, 0, 240, 0, 1023]) (by decide +kernel) ?_) ?_
  ·simp +contextual [jt, apP, Dis, yF, yE, yw, yA, Nat.testBit, hal7']
  repeat' (first | apply zx | apply zK | refine za rfl rfl (fun _ => rfl) ?_ | refine zU ?_)
  have hpv : hp ∉ an a v := rr.sep
  refine ⟨(i + 1, v), by simp only; omega, ?_, by simp only; omega, by omega, ⟨?_, r8, rr.lh, rr.sep, rr.mo, rr.m0, rr.mx⟩, hnv, fun m hm hma => ?_⟩
  ·rw [hw1]
   exact fr ⟨rfl, rfl, rfl, rfl, rfl, rfl, trivial⟩
  ·rw [hf8 hp rr.lh hpv]; exact hobj'
  ·rw [hf8 m (by omega) (fun hh => ?_)]
   ·exact hfv m hm hma
   ·rcases zl hh with h | h
    ·exact hma (by rw [h]; exact zq ..)
    ·rcases hnv m h with h | h
     ·exact hma (zg _ h)
     ·omega
 rintro e' h' c' ⟨⟨b0, rfl⟩, hc', vW', rr, hnv, hfv⟩
 repeat' (first | apply zw | apply zx | apply zK | refine za rfl rfl (fun _ => rfl) ?_ | refine zU ?_)
 refine zd rfl ?_
 repeat' (first | apply zw | apply zx | apply zz | apply zG | apply zK | refine za rfl rfl (fun _ => rfl) ?_)
 exact z6 rfl ⟨rfl, vW', rr, hnv, hfv⟩
set_option maxHeartbeats 1000000 in
theorem hmake_bin_gone {n t : Int} {bi : Nat} (r : HeapAt h c hp a sp vW W size most) (s : StoreAt h c sp vb vr st) (hlen : st.rows.length <= 1000) (hqb : st.rows.length <= bi) (hbl : bi < 1000) (rx : RowOf 1 ye h c vX X) (hX : (X.length : Int) = n) (hX0 : X[0]? = some ((bi + 1 : Nat) : Int)) : Does 12 [.ptr (some (hp, 0)), .agg (hdV (binH n t)), vX] h c (hn hp a vW ++ zS vX ++ sp :: (zS vb ++ zS vr)) fun v h' c' => v = .tuple [U 0, .bool false] /\ ∀ m, m < c -> MapI.get h' m = MapI.get h m := by
 have hobj := r.obj
 have hlh := r.lh
 have hsub1 : ∀ m ∈ [hp], m ∈ hn hp a vW ++ zS vX ++ sp :: (zS vb ++ zS vr) \/ c <= m := fun m hm => .inl (by simp at hm; rw [hm]; exact zh _ (zh _ (zq ..)))
 have hsub2 : ∀ m ∈ an a vW, m ∈ hn hp a vW ++ zS vX ++ sp :: (zS vb ++ zS vr) \/ c <= m := fun m hm => .inl (zh _ (zh _ (zg _ hm)))
 have hsub3 : ∀ m ∈ zS vX, m ∈ hn hp a vW ++ zS vX ++ sp :: (zS vb ++ zS vr) \/ c <= m := fun m hm => .inl (zh _ (zi _ hm))
 have hsub4 : ∀ m ∈ sp :: zS vr, m ∈ hn hp a vW ++ zS vX ++ sp :: (zS vb ++ zS vr) \/ c <= m := fun m hm => .inl (zi _ (by
  rcases zl hm with h | h
  ·rw [h]; exact zq ..
  ·exact zg _ (zi _ h)))
 have e0 : ((((bi + 1 : Nat) : Int)) != 0) = true := by rw [bne_iff_ne]; omega
 obtain ⟨b, cap, rfl, hshape⟩ := rx.shape
 have hlt := rx.lt
 subst hX
 have r1 : ∀ o, HeapAt (MapI.set h c o) (c + 1) hp a sp vW W size most := fun o => r.same (by omega) fun m hm => zu _ _ _ _ (by omega)
 refine yi (enter (fn := Tryz.f12) Tryz.func12 rfl rfl (zf rfl) ?_)
 repeat' (first | apply zw | apply zx | apply zK | refine za rfl rfl (fun _ => rfl) ?_ | refine zL rfl rfl (yK rfl ⟨(by simp [zc] <;> omega), ?_⟩))
 refine zL rfl rfl (yg rfl (gt (r1 _)) hsub1 (by omega) fun v4 h4 c4 hc4 hfr4 hq => ?_)
 obtain ⟨rfl, rfl, rfl⟩ := hq
 repeat' (first | apply zK | refine za rfl rfl (fun _ => rfl) ?_ | refine zU ?_ | refine zL rfl rfl (zW rfl rfl rfl (zt _ _ _) rfl ⟨(by simp [zc] <;> omega), ?_⟩))
 refine zH rfl (fun hb => absurd hb (by simp)) (fun _ => ?_)
 repeat' (first | apply zw | apply zx | apply zz | refine za rfl rfl (fun _ => rfl) ?_ | refine zL rfl rfl (yC rfl rfl rfl rfl (zt _ _ _) rfl ⟨(by simp [zc] <;> omega), ?_⟩))
 refine zL rfl rfl (yj rfl (wg (n := (X.length : Int)) (t := t) (rx.keep (by omega) fun m hm _ => zu _ _ _ _ (by omega)) hX0 (by omega)) hsub3 (by omega) fun v5 h5 c5 hc5 _ hq => ?_)
 obtain ⟨rfl, hf5⟩ := hq
 have r5 := (r1 (.cells true true (hdV (binH X.length t)))).same hc5 hf5
 have hobj5 := r5.obj
 have hg5 : MapI.get h5 c = some (.cells true true (hdV (binH X.length t))) := by rw [hf5 c (by omega)]; exact zt _ _ _
 have s5 : StoreAt h5 c5 sp vb vr st := s.keepN (by omega) fun n hn _ => by rw [hf5 n (by omega)]; exact zu _ _ _ _ (by omega)
 repeat' (first | apply zw | apply zx | apply zK | refine za rfl rfl (fun _ => rfl) ?_)
 simp only [e0]
 repeat' (first | refine za rfl rfl (fun _ => rfl) ?_ | refine zL rfl rfl (zW rfl rfl rfl hobj5 rfl ⟨(by simp [zc] <;> omega), ?_⟩))
 refine zL rfl rfl (yj rfl (count_ok (hd := ((bi + 1 : Nat) : Int)) s5 hlen) hsub4 (by omega) fun v9 h9 c9 hc9 _ hq => ?_)
 obtain ⟨rfl, rfl, hq⟩ := hq
 rcases hq with ⟨i9, q9, hi9, hq9, _⟩ | ⟨hno, rfl⟩
 case inl =>
  have hib : i9 = bi := by push_cast at hi9; omega
  subst hib
  have := (zj hq9).1; omega
 repeat' (first | apply zK | refine za rfl rfl (fun _ => rfl) ?_ | refine zU ?_)
 refine ze rfl ?_
 repeat' (first | apply zw | apply zx | apply zG | apply zK | refine za rfl rfl (fun _ => rfl) ?_ | refine yn ?_)
 refine z6 rfl ⟨rfl, fun m hm => ?_⟩
 rw [hf5 m (by omega)]; exact zu _ _ _ _ (by omega)
set_option maxHeartbeats 1000000 in
theorem hmake_bin_no {n t : Int} {bi : Nat} {q : Int × Int × Int} (r : HeapAt h c hp a sp vW W size most) (s : StoreAt h c sp vb vr st) (hlen : st.rows.length <= 1000) (hqb : st.rows[bi]? = some q) (hqc : 0 < q.2.2) (rx : RowOf 1 ye h c vX X) (hX : (X.length : Int) = n) (hX0 : X[0]? = some ((bi + 1 : Nat) : Int)) (hx : okH (binH n t)) (hle : size < (W.length : Int) + 1 + n) : Does 12 [.ptr (some (hp, 0)), .agg (hdV (binH n t)), vX] h c (hn hp a vW ++ zS vX ++ sp :: (zS vb ++ zS vr)) fun v h' c' => v = .tuple [U 0, .bool false] /\ ∀ m, m < c -> MapI.get h' m = MapI.get h m := by
 have hobj := r.obj
 have hlh := r.lh
 have hsub1 : ∀ m ∈ [hp], m ∈ hn hp a vW ++ zS vX ++ sp :: (zS vb ++ zS vr) \/ c <= m := fun m hm => .inl (by simp at hm; rw [hm]; exact zh _ (zh _ (zq ..)))
 have hsub2 : ∀ m ∈ an a vW, m ∈ hn hp a vW ++ zS vX ++ sp :: (zS vb ++ zS vr) \/ c <= m := fun m hm => .inl (zh _ (zh _ (zg _ hm)))
 have hsub3 : ∀ m ∈ zS vX, m ∈ hn hp a vW ++ zS vX ++ sp :: (zS vb ++ zS vr) \/ c <= m := fun m hm => .inl (zh _ (zi _ hm))
 have hsub4 : ∀ m ∈ sp :: zS vr, m ∈ hn hp a vW ++ zS vX ++ sp :: (zS vb ++ zS vr) \/ c <= m := fun m hm => .inl (zi _ (by
  rcases zl hm with h | h
  ·rw [h]; exact zq ..
  ·exact zg _ (zi _ h)))
 have hbl : bi < 1000 := by have := (zj hqb).1; omega
 have e0 : ((((bi + 1 : Nat) : Int)) != 0) = true := by rw [bne_iff_ne]; omega
 obtain ⟨b, cap, rfl, hshape⟩ := rx.shape
 have hlt := rx.lt
 subst hX
 have r1 : ∀ o, HeapAt (MapI.set h c o) (c + 1) hp a sp vW W size most := fun o => r.same (by omega) fun m hm => zu _ _ _ _ (by omega)
 refine yi (enter (fn := Tryz.f12) Tryz.func12 rfl rfl (zf rfl) ?_)
 repeat' (first | apply zw | apply zx | apply zK | refine za rfl rfl (fun _ => rfl) ?_ | refine zL rfl rfl (yK rfl ⟨(by simp [zc] <;> omega), ?_⟩))
 refine zL rfl rfl (yg rfl (gt (r1 _)) hsub1 (by omega) fun v4 h4 c4 hc4 hfr4 hq => ?_)
 obtain ⟨rfl, rfl, rfl⟩ := hq
 repeat' (first | apply zK | refine za rfl rfl (fun _ => rfl) ?_ | refine zU ?_ | refine zL rfl rfl (zW rfl rfl rfl (zt _ _ _) rfl ⟨(by simp [zc] <;> omega), ?_⟩))
 refine zH rfl (fun hb => absurd hb (by simp)) (fun _ => ?_)
 repeat' (first | apply zw | apply zx | apply zz | refine za rfl rfl (fun _ => rfl) ?_ | refine zL rfl rfl (yC rfl rfl rfl rfl (zt _ _ _) rfl ⟨(by simp [zc] <;> omega), ?_⟩))
 refine zL rfl rfl (yj rfl (wg (n := (X.length : Int)) (t := t) (rx.keep (by omega) fun m hm _ => zu _ _ _ _ (by omega)) hX0 (by omega)) hsub3 (by omega) fun v5 h5 c5 hc5 _ hq => ?_)
 obtain ⟨rfl, hf5⟩ := hq
 have r5 := (r1 (.cells true true (hdV (binH X.length t)))).same hc5 hf5
 have hobj5 := r5.obj
 have hg5 : MapI.get h5 c = some (.cells true true (hdV (binH X.length t))) := by rw [hf5 c (by omega)]; exact zt _ _ _
 have s5 : StoreAt h5 c5 sp vb vr st := s.keepN (by omega) fun n hn _ => by rw [hf5 n (by omega)]; exact zu _ _ _ _ (by omega)
 repeat' (first | apply zw | apply zx | apply zK | refine za rfl rfl (fun _ => rfl) ?_)
 simp only [e0]
 repeat' (first | refine za rfl rfl (fun _ => rfl) ?_ | refine zL rfl rfl (zW rfl rfl rfl hobj5 rfl ⟨(by simp [zc] <;> omega), ?_⟩))
 refine zL rfl rfl (yj rfl (count_ok (hd := ((bi + 1 : Nat) : Int)) s5 hlen) hsub4 (by omega) fun v9 h9 c9 hc9 _ hq => ?_)
 obtain ⟨rfl, rfl, hq⟩ := hq
 rcases hq with ⟨i9, q9, hi9, hq9, rfl⟩ | ⟨hno, _⟩
 case inr => have := hno bi q (by push_cast; rfl) hqb; omega
 have hib : i9 = bi := by push_cast at hi9; omega
 subst hib
 rw [hqb] at hq9
 cases hq9
 repeat' (first | apply zK | refine za rfl rfl (fun _ => rfl) ?_ | refine zU ?_)
 refine zH rfl (fun hb => absurd hb (by simp; omega)) (fun _ => ?_)
 repeat' (first | apply zw | apply zy | apply zz | refine zb rfl rfl (fun _ => rfl) ?_ | refine zO rfl rfl (zW rfl rfl rfl hobj5 rfl ⟨(by simp [zc] <;> omega), ?_⟩) | refine zO rfl rfl (yC rfl rfl rfl rfl hg5 rfl ⟨(by simp [zc] <;> omega), ?_⟩))
 refine zO rfl rfl (jh rfl (fresh_no r5.ar hx (by simp only; omega)) hsub2 (by omega) fun v6 h6 c6 al6 hal6 hc6 _ hq => ?_)
 obtain ⟨rfl, hf6⟩ := hq
 repeat' (first | refine zb rfl rfl (fun _ => rfl) ?_)
 refine zN (ym (cs := [0, 1, 3, 7, 0, 31, 63, 127, 127, 255, 1023]) (by decide +kernel) ?_) ?_
 ·simp +contextual [jt, apP, Dis, yF, yE, yw, yA, Nat.testBit]
 repeat' (first | apply zw | apply zx | apply zK | refine za rfl rfl (fun _ => rfl) ?_ | refine zU ?_)
 refine ze rfl ?_
 repeat' (first | apply zw | apply zx | apply zG | apply zK | refine za rfl rfl (fun _ => rfl) ?_ | refine yn ?_)
 refine z6 rfl ⟨rfl, fun m hm => ?_⟩
 rw [hf6 m (by omega), hf5 m (by omega)]; exact zu _ _ _ _ (by omega)
set_option maxHeartbeats 1000000 in
theorem hCollect_gone (r : HM h c hp a sp vW vR W R size most) (so : SoundW W R l) (s : StoreAt h c sp vb vr st) (hap : ∀ n ∈ sp :: (zS vb ++ zS vr), n ∉ hmn hp a vW vR) (hlen : st.rows.length <= 1000)
  (hen : ∀ g ∈ yx W R l l, ∃ i : Nat, g = ((i + 1 : Nat) : Int) /\ ∃ q, st.rows[i]? = some q) (hcnt : ∀ i q, st.rows[i]? = some q -> jd (yx W R l l) i < q.2.2 /\ q.2.2 <= 1000000) (hgl : (yx W R l l).length <= 1000000) :
  Does 16 [.ptr (some (hp, 0)), vR] h c (hmn hp a vW vR ++ sp :: (zS vb ++ zS vr)) fun v h' c' => ∃ vW' rows', HM h' c' hp a sp vW' vR (yh W R l (zX W l R)) (R.map (mvW W R l)) (jE most (yh W R l (zX W l R)).length) most /\ (∀ n ∈ zS vW', n ∈ zS vW) /\ StoreAt h' c' sp vb vr { st with rows := rows' } /\ Moved st.rows rows' fun j => - jd (yx W R l l) j := by
 have hsub1 : ∀ n ∈ [hp], n ∈ hmn hp a vW vR ++ sp :: (zS vb ++ zS vr) \/ c <= n := fun n hn => .inl (by simp at hn; rw [hn]; exact zh _ (zh _ (zq ..)))
 refine yi (enter (fn := Tryz.f16) Tryz.func16 rfl rfl (zf rfl) ?_)
 repeat' (first | apply zw | apply zx | refine za rfl rfl (fun _ => rfl) ?_)
 refine zL rfl rfl (yg rfl (gt r.hm) hsub1 (Nat.le_refl _) fun v4 h4 c4 hc4 hfr4 hq => ?_)
 obtain ⟨rfl, rfl, rfl⟩ := hq
 repeat' (first | apply zK | refine zU ?_)
 refine ze rfl ?_
 repeat' (first | apply zx | refine za rfl rfl (fun _ => rfl) ?_)
 refine zL rfl rfl (yj rfl (collect_gone r so s hap hlen hen hcnt hgl) (fun n hn => .inl hn) (Nat.le_refl _) fun v5 h5 c5 hc5 hfr5 hq => ?_)
 obtain ⟨rfl, hq⟩ := hq
 repeat' (first | apply zK)
 exact gg rfl hq
end
open Go.Ab
section
variable {h h' : HH} {c c' hp a sp : Nat} {vW vR vb vr : V} {W R : List Int} {size most : Int} {l : List (Nat × Hd)} {st : St}
set_option maxHeartbeats 2000000 in
theorem need_gone {n0 n : Int} (e1 : (if (0 : Int) > n0 then 0 else n0) = n) (r : HM h c hp a sp vW vR W R size most) (so : SoundW W R l) (s : StoreAt h c sp vb vr st) (hap : ∀ n ∈ sp :: (zS vb ++ zS vr), n ∉ hmn hp a vW vR) (hlen : st.rows.length <= 1000)
  (hen : ∀ g ∈ yx W R l l, ∃ i : Nat, g = ((i + 1 : Nat) : Int) /\ ∃ q, st.rows[i]? = some q) (hcnt : ∀ i q, st.rows[i]? = some q -> jd (yx W R l l) i < q.2.2 /\ q.2.2 <= 1000000) (hgl : (yx W R l l).length <= 1000000) :
  Does 14 [.ptr (some (hp, 0)), I n0, vR] h c (hmn hp a vW vR ++ sp :: (zS vb ++ zS vr)) fun v h' c' => (n <= size - W.length /\ v = .bool true /\ h = h' /\ c = c') \/ (¬ n <= size - W.length /\ ∃ vW' rows', v = .bool (decide (n <= most - (yh W R l (zX W l R)).length)) /\ HM h' c' hp a sp vW' vR (yh W R l (zX W l R)) (R.map (mvW W R l)) (if n <= most - (yh W R l (zX W l R)).length then jE most ((yh W R l (zX W l R)).length + n) else jE most (yh W R l (zX W l R)).length) most /\ (∀ x ∈ zS vW', x ∈ zS vW) /\ StoreAt h' c' sp vb vr { st with rows := rows' } /\ Moved st.rows rows' fun j => - jd (yx W R l l) j) := by
 have hobj := r.hm.obj
 have hlh := r.hm.lh
 have hmo := r.hm.mo
 have hm0 := r.hm.m0
 have hmx := r.hm.mx
 have hle := r.hm.ar.le
 have hsl := kV so
 have hsub1 : ∀ n ∈ [hp], n ∈ hmn hp a vW vR ++ sp :: (zS vb ++ zS vr) \/ c <= n := fun n hn => .inl (by simp at hn; rw [hn]; exact zh _ (zh _ (zq ..)))
 have hsub2 : ∀ n ∈ an a vW, n ∈ hmn hp a vW vR ++ sp :: (zS vb ++ zS vr) \/ c <= n := fun n hn => .inl (zh _ (zh _ (zg _ hn)))
 have hn0 : 0 <= n := by split at e1 <;> omega
 have w1 : IntKind.i64.wrap (size - (W.length : Int)) = size - W.length := Go.IntWalk.i64_in _ (by omega)
 refine yi (enter (fn := Tryz.f14) Tryz.func14 rfl rfl (zf rfl) ?_)
 repeat' (first | apply zw | apply zx | apply zK | refine za rfl rfl (fun _ => rfl) ?_)
 refine zL rfl rfl (yg rfl (gt r.hm) hsub1 (Nat.le_refl _) fun v4 h4 c4 hc4 hfr4 hq => ?_)
 obtain ⟨rfl, rfl, rfl⟩ := hq
 repeat' (first | apply zK | refine za rfl rfl (fun _ => rfl) ?_ | refine zU ?_)
 refine zd rfl ?_
 repeat' (first | refine zL rfl rfl (op_max rfl e1 ⟨zV, ?_⟩) | apply zw | apply zx | apply zy | apply zz | apply zK | refine za rfl rfl (fun _ => rfl) ?_ | refine zb rfl rfl (fun _ => rfl) ?_ | refine zO rfl rfl (zW rfl rfl rfl hobj rfl ⟨(by simp [zc] <;> omega), ?_⟩))
 refine zO rfl rfl (gP rfl (size_okP r.hm.ar) hsub2 fun v5 h5 c5 al5 hal5 hq => ?_)
 obtain ⟨rfl, rfl, rfl⟩ := hq
 repeat' (first | refine zb rfl rfl (fun _ => rfl) ?_ | refine zO rfl rfl (zW rfl rfl rfl hobj rfl ⟨(by simp [zc] <;> omega), ?_⟩))
 refine zO rfl rfl (gP rfl (used_okP r.hm.ar) hsub2 fun v6 h6 c6 al6 hal6 hq => ?_)
 obtain ⟨rfl, rfl, rfl⟩ := hq
 repeat' (first | refine zb rfl rfl (fun _ => rfl) ?_)
 have hal5' : ∀ x ∈ al5, x.writes = false := hal5
 have hal6' : ∀ x ∈ al6, x.writes = false := hal6
 refine zN (ym (cs := [0, 0, 2, 6, 14, 30, 0, 64, 192, 448, 1022, 2046, 4095]) (by decide +kernel) ?_) ?_
 ·simp +contextual [jt, apP, Dis, yF, yE, yw, yA, Nat.testBit, hal5', hal6']
 repeat' (first | refine zU ?_)
 refine zH rfl (fun hb => ?_) (fun hb => ?_)
 ·have hb := of_decide_eq_true hb
  rw [w1] at hb
  repeat' (first | apply zw | apply zx | apply zG | apply zK | refine za rfl rfl (fun _ => rfl) ?_ | refine yn ?_)
  exact z6 rfl (.inl ⟨hb, rfl, rfl, rfl⟩)
 have hb := of_decide_eq_false hb
 rw [w1] at hb
 have hb0 := hb
 repeat' (first | apply zw | apply zy | apply zz | refine zb rfl rfl (fun _ => rfl) ?_)
 refine zO rfl rfl (jh rfl (collect_gone r so s hap hlen hen hcnt hgl) (fun n hn => .inl hn) (Nat.le_refl _) fun v7 h7 c7 al7 hal7 hc7 hf7 hq => ?_)
 obtain ⟨rfl, vW', rows', r7, hn7, s7, hmv7⟩ := hq
 generalize hWs : yh W R l (zX W l R) = W' at r7 hsl
 generalize hRs : R.map (mvW W R l) = R' at r7
 have hobj7 := r7.hm.obj
 have hle7 := r7.hm.ar.le
 have w2 : IntKind.i64.wrap (most - (W'.length : Int)) = most - W'.length := Go.IntWalk.i64_in _ (by omega)
 have hsub3 : ∀ n ∈ an a vW', n ∈ hmn hp a vW vR ++ sp :: (zS vb ++ zS vr) \/ c <= n := fun n hn => by
  rcases zl hn with h | h
  ·exact .inl (zh _ (zh _ (zg _ (by rw [h]; exact zq ..))))
  ·exact .inl (zh _ (zh _ (zg _ (zg _ (hn7 n h)))))
 repeat' (first | refine zb rfl rfl (fun _ => rfl) ?_ | refine zO rfl rfl (zW rfl rfl rfl hobj7 rfl ⟨(by simp [zc] <;> omega), ?_⟩))
 refine zO rfl rfl (gP rfl (used_okP r7.hm.ar) hsub3 fun v8 h8 c8 al8 hal8 hq => ?_)
 obtain ⟨rfl, rfl, rfl⟩ := hq
 repeat' (first | refine zb rfl rfl (fun _ => rfl) ?_)
 have hal8' : ∀ x ∈ al8, x.writes = false := hal8
 refine zN (ym (cs := [0, 0, 3, 7, 15, 31, 31, 95, 223, 479, 31, 1055, 3103, 7199, 15391, 32735, 65535, 131071]) (by decide +kernel) ?_) ?_
 ·simp +contextual [jt, apP, Dis, yF, yE, yw, yA, Nat.testBit, hal8']
 repeat' (first | refine zU ?_)
 refine zH rfl (fun hb => ?_) (fun hb => ?_)
 ·have hb := of_decide_eq_true hb
  rw [w2] at hb
  repeat' (first | apply zw | apply zx | apply zG | apply zK | refine za rfl rfl (fun _ => rfl) ?_ | refine yn ?_)
  refine z6 rfl (.inr ⟨hb0, vW', rows', ?_, ?_, hn7, s7, hmv7⟩)
  ·exact congrArg V.bool (decide_eq_false (show ¬ n <= most - W'.length from by omega)).symm
  ·rw [if_neg (show ¬ n <= most - W'.length from by omega)]; exact r7
 have hb := of_decide_eq_false hb
 rw [w2] at hb
 have w3 : IntKind.i64.wrap ((W'.length : Int) + n) = W'.length + n := Go.IntWalk.i64_in _ (by omega)
 repeat' (first | apply zw | apply zy | apply zz | refine zb rfl rfl (fun _ => rfl) ?_ | refine zO rfl rfl (zW rfl rfl rfl hobj7 rfl ⟨(by simp [zc] <;> omega), ?_⟩))
 refine zO rfl rfl (gP rfl (used_okP r7.hm.ar) hsub3 fun v9 h9 c9 al9 hal9 hq => ?_)
 obtain ⟨rfl, rfl, rfl⟩ := hq
 repeat' (first | refine zb rfl rfl (fun _ => rfl) ?_ | refine zO rfl rfl (zW rfl rfl rfl hobj7 rfl ⟨(by simp [zc] <;> omega), ?_⟩))
 refine zO rfl rfl (gP rfl (used_okP r7.hm.ar) hsub3 fun v10 h10 c10 al10 hal10 hq => ?_)
 obtain ⟨rfl, rfl, rfl⟩ := hq
 repeat' (first | refine zb rfl rfl (fun _ => rfl) ?_)
 refine zO rfl rfl (gP rfl (room_okP (n := (W'.length : Int) + n) w3 hobj7 (by omega)) hsub1 fun v11 h11 c11 al11 hal11 hq => ?_)
 obtain ⟨rfl, rfl, rfl⟩ := hq
 skip
 refine zO rfl rfl (jh rfl (kw r7.hm.ar (m := W'.length) rfl (Nat.le_refl _) (by unfold jE; omega) (by unfold jE; omega)) hsub3 hc7 fun v12 h12 c12 al12 hal12 hc12 hf12 hq => ?_)
 obtain ⟨rfl, rfl, vW'', hA, hn12⟩ := hq
 repeat' (first | refine zb rfl rfl (fun _ => rfl) ?_)
 have hal9' : ∀ x ∈ al9, x.writes = false := hal9
 have hal10' : ∀ x ∈ al10, x.writes = false := hal10
 have hal11' : ∀ x ∈ al11, x.writes = false := hal11
 refine zN (ym (cs := [0, 1, 3, 7, 0, 16, 48, 112, 240, 0, 0, 1024, 3072, 7168, 15856, 0, 65008, 131056, 262143, 524287]) (by decide +kernel) ?_) ?_
 ·simp +contextual [jt, apP, Dis, yF, yE, yw, yA, Nat.testBit, hal9', hal10', hal11']
 repeat' (first | apply zG)
 rw [List.take_length] at hA
 have hpa : hp ∉ an a vW' := fun hh => r.hm.sep (by
  rcases zl hh with h | h
  ·rw [h]; exact zq ..
  ·exact zg _ (hn7 _ h))
 have hle9 : n <= most - W'.length := by omega
 have hspa : ∀ n ∈ sp :: (zS vb ++ zS vr), n ∉ an a vW' := fun n hm hh => hap n hm (zh _ (zg _ (by
  rcases zl hh with h | h
  ·rw [h]; exact zq ..
  ·exact zg _ (hn7 _ h))))
 refine z6 rfl (.inr ⟨hb0, vW'', rows', ?_, ?_, fun x hx => hn7 x (hn12 x hx), s7.keepN (Nat.le_refl _) fun n hn hm => hf12 n hn (hspa n hm), hmv7⟩)
 ·exact congrArg V.bool (decide_eq_true hle9).symm
 ·rw [if_pos hle9]
  refine ⟨⟨?_, hA, r7.hm.lh, ?_, by unfold jE; omega, hm0, hmx⟩, r7.rr.keep (Nat.le_refl _) fun n hn hm => hf12 n hn ?_, fun n hn hh => ?_, r7.ok, r7.len⟩
  ·rw [hf12 hp r7.hm.lh hpa]; exact hobj7
  ·intro hh
   rcases zl hh with h | h
   ·exact hpa (by rw [h]; exact zq ..)
   ·exact hpa (zg _ (hn12 _ h))
  ·intro hh
   exact r7.sep n hm (zg _ hh)
  ·refine r7.sep n hn ?_
   rcases zl hh with h | h
   ·rw [h]; exact zq ..
   ·rcases zl h with h | h
    ·rw [h]; exact zg _ (zq ..)
    ·exact zg _ (zg _ (hn12 n h))
end
open Go.Ab
section
variable {h h' : HH} {c c' hp a sp mp ma q : Nat} {vW vR vB vP vS vC : V} {W R : List Int} {size most : Int} {l : List (Nat × Hd)} {st : St}
def qo (m : Int) : Int := if m < 0 \/ m > 1048576 then 0 else m
theorem clampM_ok (m : Int) : 0 <= qo m /\ qo m <= 1048576 := by unfold qo; split <;> omega
theorem hnew_any : Does 7 [I most, .ptr (some (sp, 0))] h c [] fun v h' c' => v = .ptr (some (c, 0)) /\ ∃ a, HeapAt h' c' c a sp (.slice none 0 (.known 0)) [] (min 32 (qo most)) (qo most) /\ c < a /\ ∀ m, m < c -> MapI.get h' m = MapI.get h m := by
 by_cases hm : 0 <= most /\ most <= 1048576
 ·have e : qo most = most := if_neg (by omega)
  rw [e]; exact hnew_ok hm
 have e : qo most = 0 := if_pos (by omega)
 rw [e]
 refine yi (enter (fn := Tryz.f7) Tryz.func7 rfl rfl (zf rfl) ?_)
 repeat' (first | refine zJ (a := Code.seq (Code.region 1 _ _) _) (fun e' h' c' => (∃ b0, e' = FR b0 [(0, I 0), (1, .ptr (some (sp, 0)))]) /\ h = h' /\ c = c') ?_ ?_ | apply zw | apply zx | apply zK | refine za rfl rfl (fun _ => rfl) ?_)
 ·cases d1 : decide (most < 0) with
  | true =>
   repeat' (first | apply zK | refine za rfl rfl (fun _ => rfl) ?_ | refine zM rfl rfl ?_ | refine zU ?_)
   simp only [d1]
   skip
   refine ze rfl ?_
   repeat' (first | apply zx | apply zK | refine za rfl rfl (fun _ => rfl) ?_ | refine zU ?_)
   exact ⟨fr ⟨rfl, rfl, trivial⟩, rfl, rfl⟩
  | false =>
   have d1' := of_decide_eq_false d1
   have d2 : decide (most > 1048576) = true := decide_eq_true (by omega)
   repeat' (first | apply zK | refine za rfl rfl (fun _ => rfl) ?_ | refine zU ?_)
   simp only [d1]
   skip
   refine zH rfl (fun _ => ?_) (fun hb => by rw [show decide (most > 1048576) = true from d2] at hb; cases hb)
   repeat' (first | apply zx | apply zK | refine za rfl rfl (fun _ => rfl) ?_ | refine zU ?_)
   exact ⟨fr ⟨rfl, rfl, trivial⟩, rfl, rfl⟩
 rintro e' h' c' ⟨⟨b0, rfl⟩, rfl, rfl⟩
 repeat' (first | apply zw | apply zx | apply zK | refine za rfl rfl (fun _ => rfl) ?_ | refine zL rfl rfl (yK rfl ⟨(by simp [zc] <;> omega), ?_⟩))
 refine zL rfl rfl (yg rfl (room_ok (most := 0) (zt _ _ _) (by omega) (by decide)) (fun n hn => .inr (by simp at hn; omega)) (by omega) fun v4 h4 c4 hc4 _ hq => ?_)
 obtain ⟨rfl, rfl, rfl⟩ := hq
 skip
 refine zL rfl rfl (yj rfl (anew_ok (by decide)) (fun n hn => by cases hn) (by omega) fun v5 h5 c5 hc5 _ hq => ?_)
 obtain ⟨rfl, rfl, hA, hf5⟩ := hq
 have hg5 : MapI.get h5 c = some (.cells true true [.ptr none, .ptr (some (sp, 0)), I 0, .bool false]) := by rw [hf5 c (by omega)]; exact zt _ _ _
 repeat' (first | apply zw | apply zx | apply zG | apply zK | refine za rfl rfl (fun _ => rfl) ?_ | refine zL rfl rfl (ya (k := 1) rfl rfl rfl rfl hg5 (zf rfl) rfl ⟨(by simp [zc] <;> omega), ?_⟩))
 refine z6 rfl ⟨rfl, c + 1, ⟨zt _ _ _, hA.keep (Nat.le_refl _) fun n hn hm => zu _ _ _ _ ?_, by omega, ?_, by decide, by decide, by decide⟩, by omega, fun m hm => ?_⟩
 ·rcases zl hm with h | h
  ·omega
  ·cases h
 ·intro hh
  rcases zl hh with h | h
  ·omega
  ·cases h
 ·rw [zu _ _ _ _ (by omega), hf5 m (by omega)]; exact zu _ _ _ _ (by omega)
theorem mnew_ok {n : Int} (hn : 0 <= n /\ n <= 1048576) : Does 27 [I n] h c [] fun v h' c' => v = .ptr (some (c, 0)) /\ c' = c + 1 /\ ArAt h' c' c (.slice none 0 (.known 0)) [] n /\ ∀ m, m < c -> MapI.get h' m = MapI.get h m := by
 have e1 : decide (n < 0) = false := by simp; omega
 have e2 : decide (n > 1048576) = false := by simp; omega
 refine yi (enter (fn := Tryz.f27) Tryz.func27 rfl rfl (zf rfl) ?_)
 repeat' (first | apply zw | apply zx | apply zK | refine za rfl rfl (fun _ => rfl) ?_)
 simp only [e1]
 repeat' (first | apply zK | refine za rfl rfl (fun _ => rfl) ?_ | refine zU ?_)
 refine zH rfl (fun hb => by rw [show decide (n > 1048576) = false from e2] at hb; cases hb) (fun _ => ?_)
 repeat' (first | apply zw | apply zx | apply zz | apply zG | apply zK | refine za rfl rfl (fun _ => rfl) ?_ | refine zL rfl rfl (yK rfl ⟨(by simp [zc] <;> omega), ?_⟩))
 refine z6 rfl ⟨rfl, rfl, ⟨zt _ _ _, .nil, Nat.lt_succ_self _, fun n hn => (by cases hn), fun x hx => (by cases hx), by simp; omega, by omega⟩, fun m hm => zu _ _ _ _ (by omega)⟩
theorem nmodel_ok : Does 8 [I most, .ptr (some (q, 0))] h c [] fun v h' c' => v = .ptr (some (c + 1, 0)) /\ c' = c + 2 /\ MapI.get h' (c + 1) = some (.cells true true [.ptr (some (c, 0)), I (qo most), .ptr (some (q, 0))]) /\ ArAt h' c' c (.slice none 0 (.known 0)) [] (min 32 (qo most)) /\ ∀ m, m < c -> MapI.get h' m = MapI.get h m := by
 have hcm := clampM_ok most
 refine yi (enter (fn := Tryz.f8) Tryz.func8 rfl rfl (zf rfl) ?_)
 repeat' (first | refine zJ (a := Code.seq (Code.region 1 _ _) _) (fun e' h' c' => (∃ b0, e' = FR b0 [(0, I (qo most)), (1, .ptr (some (q, 0)))]) /\ h = h' /\ c = c') ?_ ?_ | apply zw | apply zx | apply zK | refine za rfl rfl (fun _ => rfl) ?_)
 ·cases d1 : decide (most < 0) with
  | true =>
   have e : qo most = 0 := if_pos (.inl (of_decide_eq_true d1))
   rw [e]
   repeat' (first | apply zK | refine za rfl rfl (fun _ => rfl) ?_ | refine zM rfl rfl ?_ | refine zU ?_)
   simp only [d1]
   skip
   refine ze rfl ?_
   repeat' (first | apply zx | apply zK | refine za rfl rfl (fun _ => rfl) ?_ | refine zU ?_)
   exact ⟨fr ⟨rfl, rfl, trivial⟩, rfl, rfl⟩
  | false =>
   have d1' := of_decide_eq_false d1
   cases d2 : decide (most > 1048576) with
   | true =>
    have e : qo most = 0 := if_pos (.inr (of_decide_eq_true d2))
    rw [e]
    repeat' (first | apply zK | refine za rfl rfl (fun _ => rfl) ?_ | refine zU ?_)
    simp only [d1]
    skip
    refine zH rfl (fun _ => ?_) (fun hb => by rw [show decide (most > 1048576) = true from d2] at hb; cases hb)
    repeat' (first | apply zx | apply zK | refine za rfl rfl (fun _ => rfl) ?_ | refine zU ?_)
    exact ⟨fr ⟨rfl, rfl, trivial⟩, rfl, rfl⟩
   | false =>
    have d2' := of_decide_eq_false d2
    have e : qo most = most := if_neg (by omega)
    rw [e]
    repeat' (first | apply zK | refine za rfl rfl (fun _ => rfl) ?_ | refine zU ?_)
    simp only [d1]
    skip
    refine zH rfl (fun hb => by rw [show decide (most > 1048576) = false from d2] at hb; cases hb) (fun _ => ?_)
    repeat' (first | apply zz | refine zU ?_)
    exact ⟨fr ⟨rfl, rfl, trivial⟩, rfl, rfl⟩
 rintro e' h' c' ⟨⟨b0, rfl⟩, rfl, rfl⟩
 have e1 : (if (32 : Int) < qo most then 32 else qo most) = min 32 (qo most) := by split <;> omega
 repeat' (first | refine zL rfl rfl (op_min rfl e1 ⟨zV, ?_⟩) | apply zw | apply zx | refine za rfl rfl (fun _ => rfl) ?_)
 refine zL rfl rfl (yj rfl (mnew_ok (by omega)) (fun n hn => by cases hn) (by omega) fun v5 h5 c5 hc5 _ hq => ?_)
 obtain ⟨rfl, rfl, hA, hf5⟩ := hq
 repeat' (first | apply zG | apply zK | refine za rfl rfl (fun _ => rfl) ?_ | refine zL rfl rfl (yK rfl ⟨(by simp [zc] <;> omega), ?_⟩))
 exact z6 rfl ⟨rfl, rfl, zt _ _ _, hA.keep (by omega) fun n hn _ => zu _ _ _ _ (by omega), fun m hm => by rw [zu _ _ _ _ (by omega)]; exact hf5 m hm⟩
structure MdH (h : HH) (c mp ma q : Nat) (vW vR : V) (W R : List Int) (size most : Int) : Prop where
 obj : MapI.get h mp = some (.cells true true [.ptr (some (ma, 0)), I most, .ptr (some (q, 0))])
 mem : Mem h c ma vW vR W R size
 lp : mp < c
 sep : mp ∉ mn ma vW vR
 mo : size <= most
 m0 : 0 <= most
 mx : most <= 1048576
theorem MdH.keep (r : MdH h c mp ma q vW vR W R size most) (hc : c <= c') (e : ∀ n, n < c -> n ∈ mp :: mn ma vW vR -> MapI.get h' n = MapI.get h n) : MdH h' c' mp ma q vW vR W R size most :=
 ⟨by rw [e mp r.lp (zq ..)]; exact r.obj, r.mem.keep hc fun n hn hm => e n hn (zg _ hm), by have := r.lp; omega, r.sep, r.mo, r.m0, r.mx⟩
theorem MdH.same (r : MdH h c mp ma q vW vR W R size most) (hc : c <= c') (e : ∀ n, n < c -> MapI.get h' n = MapI.get h n) : MdH h' c' mp ma q vW vR W R size most := r.keep hc fun n hn _ => e n hn
theorem MdH.names (r : MdH h c mp ma q vW vR W R size most) : ∀ n ∈ mp :: mn ma vW vR, n < c := fun n hn => by
 rcases zl hn with h | h
 ·rw [h]; exact r.lp
 ·exact r.mem.names n h
theorem grow_ok {n : Int} (r : MdH h c mp ma q vW vR W R size most) (hn : 0 <= n /\ n <= 1048576) (hWn : (W.length : Int) <= jE most n) : Does 48 [.ptr (some (mp, 0)), I n] h c [mp, ma] fun v h' c' => c = c' /\ MdH h' c' mp ma q vW vR W R (jE most n) most /\ ∀ k, k ≠ ma -> MapI.get h' k = MapI.get h k := by
 have hobj := r.obj
 have hm0 := r.m0
 have hmx := r.mx
 have hlp := r.lp
 have hla := r.mem.ar.la
 have hmn : mp ≠ ma := fun e => r.sep (by rw [e]; exact zh _ (zq ..))
 have hobjA := r.mem.ar.obj
 have hA := r.mem.ar.w.one
 have e1 : (if (32 : Int) > IntKind.i64.wrap (2 * n) then 32 else IntKind.i64.wrap (2 * n)) = max (2 * n) 32 := by
  rw [Go.IntWalk.i64_in _ (by omega)]; split <;> omega
 have e2 : (if most < max (2 * n) 32 then most else max (2 * n) 32) = jE most n := by unfold jE; split <;> omega
 refine yi (enter (fn := Tryz.f48) Tryz.func48 rfl rfl (zf rfl) ?_)
 repeat' (first | refine zO rfl rfl (op_min rfl e2 ⟨zV, ?_⟩) | refine zO rfl rfl (op_max rfl e1 ⟨zV, ?_⟩) | apply zy | refine zb rfl rfl (fun _ => rfl) ?_ | refine zO rfl rfl (zW rfl rfl rfl hobj rfl ⟨(by simp [zc] <;> omega), ?_⟩) | refine zO rfl rfl (ya (k := 1) rfl rfl rfl rfl hobjA (zf rfl) rfl ⟨(by simp [zc] <;> omega), ?_⟩))
 refine zN (ym (cs := [0, 1, 3, 7, 0, 16, 48, 0, 128, 384, 896, 2032, 4095, 8191, 16383]) (by decide +kernel) ?_) ?_
 ·simp +contextual [jt, apP, Dis, yF, yE, yw, yA, Nat.testBit, hmn, Ne.symm hmn]
 skip
 have hrm : jE most n <= most := by unfold jE; omega
 have hk : ∀ {o : AObj}, ∀ k, k ≠ ma -> MapI.get (MapI.set h ma o) k = MapI.get h k := fun k hk => zu _ _ _ _ (Ne.symm hk)
 refine gg rfl ⟨rfl, ⟨(hk mp hmn).trans hobj, ⟨⟨zt _ _ _, r.mem.ar.w.keep (Nat.le_refl _) fun k _ hm => hk k (r.mem.ar.na k hm), hla, r.mem.ar.na, r.mem.ar.ok, hWn, by omega⟩, r.mem.rr.keep (Nat.le_refl _) fun k _ hm => hk k (r.mem.sep k hm).1, r.mem.sep, r.mem.ok, r.mem.len⟩, hlp, r.sep, hrm, hm0, hmx⟩, fun k h1 => hk k h1⟩
theorem RefAt.keepN (s : RefAt h c q vB vP vS vC st) (hc : c <= c') (e : ∀ n, n < c -> n ∈ rn q vB vP vS vC -> MapI.get h' n = MapI.get h n) : RefAt h' c' q vB vP vS vC st := s.keep hc e
set_option maxHeartbeats 2000000 in
theorem mcollect_ok (r : MdH h c mp ma q vW vR W R size most) (so : SoundW W R l) (s : RefAt h c q vB vP vS vC st) (hap : ∀ n ∈ rn q vB vP vS vC, n ∉ mp :: mn ma vW vR) (hlen : st.rows.length <= 1000)
  (hen : ∀ g ∈ yx W R l l, ∃ i : Nat, g = ((i + 1 : Nat) : Int) /\ ∃ q, st.rows[i]? = some q) (hcnt : ∀ i q, st.rows[i]? = some q -> jd (yx W R l l) i < q.2.2 /\ q.2.2 <= 1000000) (hgl : (yx W R l l).length <= 1000000) :
  Does 17 [.ptr (some (mp, 0)), vR] h c (mp :: mn ma vW vR ++ rn q vB vP vS vC) fun v h' c' => v = .bool true /\ ∃ vW' rows', MdH h' c' mp ma q vW' vR (yh W R l (zX W l R)) (R.map (mvW W R l)) (jE most (yh W R l (zX W l R)).length) most /\ (∀ n ∈ zS vW', c <= n) /\ RefAt h' c' q vB vP vS vC { st with rows := rows' } /\ Moved st.rows rows' fun j => - jd (yx W R l l) j := by
 have hobj := r.obj
 have hlp := r.lp
 have hsl := kV so
 have hmo := r.mo
 have hm0 := r.m0
 have hmx := r.mx
 have hle := r.mem.ar.le
 have hla := r.mem.ar.la
 have hnm := r.names
 have hsn := s.names
 have hsub1 : ∀ n ∈ mn ma vW vR, n ∈ mp :: mn ma vW vR ++ rn q vB vP vS vC \/ c <= n := fun n hn => .inl (zh _ (zg _ hn))
 have hpn : mp ∉ rn q vB vP vS vC := fun hh => hap mp hh (zq ..)
 have hqm : ∀ n ∈ mn ma vW vR, n ∉ rn q vB vP vS vC := fun n hn hh => hap n hh (zg _ hn)
 refine yi (enter (fn := Tryz.f17) Tryz.func17 rfl rfl (zf rfl) ?_)
 repeat' (first | apply zw | apply zx | apply zK | refine za rfl rfl (fun _ => rfl) ?_ | refine zL rfl rfl (zW rfl rfl rfl hobj rfl ⟨(by simp [zc] <;> omega), ?_⟩))
 refine zL rfl rfl (yj rfl (mslide_ok r.mem so) hsub1 (Nat.le_refl _) fun v2 h2 c2 hc2 hf2 hq => ?_)
 obtain ⟨vG, mv, vW', rfl, r2, hn2, hG2, hGn⟩ := hq
 have hGlt := hG2.lt
 obtain ⟨sG, capG, rfl, hsG⟩ := hG2.shape
 obtain ⟨sO, capO, rfl, _⟩ := r2.ar.w.shape
 have hobj2 : MapI.get h2 mp = _ := (hf2 mp hlp r.sep).trans hobj
 have hs2 : RefAt h2 c2 q vB vP vS vC st := s.keepN hc2 fun n hlt hn => hf2 n hlt fun hh => hqm n hh hn
 generalize hgs : yx W R l l = gs at *
 generalize hWs : yh W R l (zX W l R) = W' at *
 generalize hRs : R.map (mvW W R l) = R' at *
 repeat' (first | apply zw | apply zx | apply zK | refine za rfl rfl (fun _ => rfl) ?_ | refine zU ?_ | refine zL rfl rfl (yM rfl ⟨(by simp [zc] <;> omega), ?_⟩) | refine zL rfl rfl (ya (k := 3) rfl rfl rfl rfl (zt _ _ _) (zf rfl) rfl ⟨(by simp [zc] <;> omega), ?_⟩))
 generalize hH3 : MapI.set (MapI.set h2 c2 _) c2 _ = H3
 have oH : ∀ n, n < c2 -> MapI.get H3 n = MapI.get h2 n := fun n hn => by
  rw [<- hH3, zu _ _ _ _ (by omega), zu _ _ _ _ (by omega)]
 have gH : MapI.get H3 c2 = some (.cells true true [I W'.length, .slice sG gs.length capG, I mv]) := by rw [<- hH3]; exact zt _ _ _
 have objH : MapI.get H3 mp = some (.cells true true [.ptr (some (ma, 0)), I most, .ptr (some (q, 0))]) := (oH mp (by omega)).trans hobj2
 have sH : RefAt H3 (c2 + 1) q vB vP vS vC st := hs2.keepN (by omega) fun n hn _ => oH n hn
 have rH : Mem H3 (c2 + 1) ma (.slice sO W'.length capO) vR W' R' size := r2.same (by omega) oH
 clear hH3
 refine zd rfl ?_
 repeat' (first | apply zw | apply zx | apply zz | apply zB | apply zK | refine za rfl rfl (fun _ => rfl) ?_)
 refine zI ?_
 refine zQ (X := Nat × List R3) (fun y e' h' c' => (∃ b0, e' = FR b0 [(0, V.ptr (some (mp, 0))), (5, V.ptr (some (c2, 0))), (7, I y.1)]) /\ y.1 <= gs.length /\ c2 + 1 = c' /\ RefAt h' (c2 + 1) q vB vP vS vC { st with rows := y.2 } /\ (Moved st.rows y.2 fun j => - jd (gs.take y.1) j) /\ ∀ n, n < c2 + 1 -> n ∉ rn q vB vP vS vC -> MapI.get h' n = MapI.get H3 n)
  (fun y => gs.length - y.1) ?_ (0, st.rows) _ _ _ ⟨fr ⟨rfl, rfl, rfl, trivial⟩, Nat.zero_le _, rfl, sH, Moved.refl _ fun j => by simp [jd], fun n _ _ => rfl⟩
 rintro ⟨i, rows⟩ e' h' c' ⟨⟨b0, rfl⟩, hi, rfl, hst, hmv, hfr⟩
 simp only at hi hst hmv
 have hc2n : c2 ∉ rn q vB vP vS vC := fun hh => by have := hsn c2 hh; omega
 have hobj' : MapI.get h' mp = _ := (hfr mp (by omega) hpn).trans objH
 have hg' : MapI.get h' c2 = _ := (hfr c2 (by omega) hc2n).trans gH
 repeat' (first | apply zw | apply zx | apply zK | refine za rfl rfl (fun _ => rfl) ?_ | refine zU ?_ | refine zL rfl rfl (zW rfl rfl rfl hg' rfl ⟨(by simp [zc] <;> omega), ?_⟩))
 refine zH rfl (fun hlt => ?_) (fun hge => ?_)
 case refine_2 =>
  have hge : gs.length <= i := by simpa using hge
  rw [List.take_of_length_le hge] at hmv
  have rF : Mem h' (c2 + 1) ma (.slice sO W'.length capO) vR W' R' size := rH.keep (Nat.le_refl _) fun n hn hm => hfr n hn fun hh => by
   rcases zk hm with h | h
   ·rcases zl h with h | h
    ·exact hqm n (by rw [h]; exact zh _ (zq ..)) hh
    ·have := hn2 n h; have := hsn n hh; omega
   ·exact hqm n (zi _ h) hh
  have hobjA := rF.ar.obj
  have rM : MdH h' (c2 + 1) mp ma q (.slice sO W'.length capO) vR W' R' size most := ⟨hobj', rF, by omega, fun hh => by
   rcases zk hh with h | h
   ·rcases zl h with h | h
    ·exact r.sep (by rw [h]; exact zh _ (zq ..))
    ·have := hn2 mp h; omega
   ·exact r.sep (zi _ h), hmo, hm0, hmx⟩
  repeat' (first | apply zw | apply zx | apply zF | refine za rfl rfl (fun _ => rfl) ?_ | refine zL rfl rfl (zW rfl rfl rfl hobj' rfl ⟨(by simp [zc] <;> omega), ?_⟩) | refine zL rfl rfl (zW rfl rfl rfl hobjA rfl ⟨(by simp [zc] <;> omega), ?_⟩))
  refine zL rfl rfl (yj rfl (grow_ok rM (n := (W'.length : Int)) (by omega) (by unfold jE; omega)) (fun n hn => .inl (by
   simp only [List.mem_cons, List.not_mem_nil, or_false] at hn
   rcases hn with h | h
   ·rw [h]; exact zh _ (zq ..)
   ·rw [h]; exact zh _ (zg _ (zh _ (zq ..))))) (by omega) fun v5 h5 c5 hc5 _ hq => ?_)
  obtain ⟨rfl, r5, hf5⟩ := hq
  repeat' (first | apply zw | apply zx | apply zG | apply zK | refine za rfl rfl (fun _ => rfl) ?_)
  refine z6 rfl ⟨rfl, _, rows, r5, hn2, hst.keepN (Nat.le_refl _) fun n hn hm => hf5 n fun e => ?_, hmv⟩
  exact hqm ma (zh _ (zq ..)) (by rw [<- e]; exact hm)
 have hlt' : i < gs.length := by simpa using hlt
 obtain ⟨g, hgi⟩ : ∃ z, gs[i]? = some z := ⟨_, zp hlt'⟩
 obtain ⟨k, rfl, q0, hq0⟩ := hen g (zo hgi)
 obtain ⟨rfl, gn, cl, junk, rfl, hgn, hgg, _⟩ := hsG i hlt'
 have hgnc : c <= gn := hGn gn (by simp [zS])
 have hgg' : MapI.get h' gn = _ := (hfr gn (by omega) (fun hh => by have := hsn gn hh; omega)).trans ((oH gn hgn).trans hgg)
 have hz : nth (flat yG gs ++ junk) (0 + ((i : Nat) : Int).toNat * 1) = some (I ((k + 1 : Nat) : Int)) := by
  rw [show 0 + ((i : Nat) : Int).toNat * 1 = i from by simp]
  exact yB je hgi rfl junk
 have hw3 : IntKind.i64.wrap ((i : Int) + 1) = ((i + 1 : Nat) : Int) := by rw [Go.IntWalk.i64_in _ (by omega)]; omega
 have htake : gs.take (i + 1) = gs.take i ++ [((k + 1 : Nat) : Int)] := by rw [List.take_add_one, hgi]; rfl
 have hm1 : ∀ j, jd (gs.take (i + 1)) j = jd (gs.take i) j + if j = k then 1 else 0 := fun j => by rw [htake, many_snoc]
 have hm2 : jd (gs.take i) k + 1 <= jd gs k := by
  have h1 := hm1 k
  rw [if_pos rfl] at h1
  have h2 : jd (gs.take (i + 1)) k <= jd gs k := many_take
  omega
 obtain ⟨hc1, hc2'⟩ := hcnt k q0 hq0
 have hrow := hmv.2 k q0 hq0
 repeat' (first | apply zw | apply zy | apply zz | apply zB | refine zb rfl rfl (fun _ => rfl) ?_ | refine zO rfl rfl (zW rfl rfl rfl hobj' rfl ⟨(by simp [zc] <;> omega), ?_⟩) | refine zO rfl rfl (zW rfl rfl rfl hg' rfl ⟨(by simp [zc] <;> omega), ?_⟩) | refine zO rfl rfl (zZ (k := 1) rfl rfl rfl rfl ⟨by omega, by omega⟩ ⟨(by simp [zc] <;> omega), ?_⟩) | refine zO rfl rfl (zW rfl rfl rfl hgg' hz ⟨(by simp [zc] <;> omega), ?_⟩))
 refine zO rfl rfl (jh rfl (rdrop_ok (hd := ((k + 1 : Nat) : Int)) hst (by show rows.length <= 1000; rw [hmv.1]; exact hlen)) (fun n hn => .inl (zi _ hn)) (by omega) fun v4 h4 c4 al4 hal4 hc4 hf4 hq => ?_)
 obtain ⟨rfl, hq⟩ := hq
 rcases hq with ⟨i', q', hk, hrow', hne, rfl, hs'⟩ | ⟨hno, _, _⟩
 case inr =>
  have := hno k _ (by push_cast; rfl) hrow
  simp only at this
  have hnn : (0 : Int) <= jd (gs.take i) k := Int.natCast_nonneg _
  omega
 have hik : i' = k := by push_cast at hk; omega
 subst hik
 have hrow' : rows[i']? = some q' := hrow'
 rw [hrow] at hrow'
 cases hrow'
 have w1 : IntKind.i64.wrap (q0.2.2 + - jd (gs.take i) i' - 1) = q0.2.2 + - jd (gs.take (i + 1)) i' := by
  have h1 := hm1 i'
  rw [if_pos rfl] at h1
  have hnn : (0 : Int) <= jd (gs.take i) i' := Int.natCast_nonneg _
  rw [Go.IntWalk.i64_in _ (by omega)]; omega
 simp only [w1] at hs'
 skip
 refine zN (ym (cs := [0, 1, 3, 7, 0, 16, 0, 112, 240, 511]) (by decide +kernel) ?_) ?_
 ·simp +contextual [jt, apP, Dis, yF, yE, yw, yA, Nat.testBit]
 repeat' (first | apply zx | apply zK | refine za rfl rfl (fun _ => rfl) ?_ | refine zU ?_)
 refine ⟨(i + 1, rows.set i' (q0.1, q0.2.1, q0.2.2 + - jd (gs.take (i + 1)) i')), by simp only; omega, ?_, by simp only; omega, rfl, hs', hmv.one hq0 rfl fun j hj => by rw [hm1 j, if_neg hj, Int.add_zero], fun n hn hm => ?_⟩
 ·rw [hw3]
  exact fr ⟨rfl, rfl, rfl, trivial⟩
 ·rw [hf4 n (by omega) hm]; exact hfr n hn hm
end
open Go.Ab
section
variable {h h' : HH} {c c' mp ma q : Nat} {vW vR vX vB vP vS vC : V} {W R X : List Int} {size most : Int} {l : List (Nat × Hd)} {st : St}
set_option maxHeartbeats 2000000 in
theorem mneed_ok {n0 n : Int} (e1 : (if (0 : Int) > n0 then 0 else n0) = n) (r : MdH h c mp ma q vW vR W R size most) (so : SoundW W R l) (s : RefAt h c q vB vP vS vC st) (hap : ∀ n ∈ rn q vB vP vS vC, n ∉ mp :: mn ma vW vR) (hlen : st.rows.length <= 1000)
  (hen : ∀ g ∈ yx W R l l, ∃ i : Nat, g = ((i + 1 : Nat) : Int) /\ ∃ q, st.rows[i]? = some q) (hcnt : ∀ i q, st.rows[i]? = some q -> jd (yx W R l l) i < q.2.2 /\ q.2.2 <= 1000000) (hgl : (yx W R l l).length <= 1000000) :
  Does 15 [.ptr (some (mp, 0)), I n0, vR] h c (mp :: mn ma vW vR ++ rn q vB vP vS vC) fun v h' c' => (n <= size - W.length /\ v = .bool true /\ h = h' /\ c = c') \/ (¬ n <= size - W.length /\ ∃ vW' rows', v = .bool (decide (n <= most - (yh W R l (zX W l R)).length)) /\ MdH h' c' mp ma q vW' vR (yh W R l (zX W l R)) (R.map (mvW W R l)) (if n <= most - (yh W R l (zX W l R)).length then jE most ((yh W R l (zX W l R)).length + n) else jE most (yh W R l (zX W l R)).length) most /\ (∀ n ∈ zS vW', c <= n) /\ RefAt h' c' q vB vP vS vC { st with rows := rows' } /\ Moved st.rows rows' fun j => - jd (yx W R l l) j) := by
 have hobj := r.obj
 have hlp := r.lp
 have hmo := r.mo
 have hm0 := r.m0
 have hmx := r.mx
 have hle := r.mem.ar.le
 have hsl := kV so
 have hn0 : 0 <= n := by split at e1 <;> omega
 have hobjA := r.mem.ar.obj
 obtain ⟨sW, capW, hvW, _⟩ := r.mem.ar.w.shape
 rw [hvW] at hobjA
 have w1 : IntKind.i64.wrap (size - (W.length : Int)) = size - W.length := Go.IntWalk.i64_in _ (by omega)
 refine yi (enter (fn := Tryz.f15) Tryz.func15 rfl rfl (zf rfl) ?_)
 repeat' (first | refine zL rfl rfl (op_max rfl e1 ⟨zV, ?_⟩) | apply zw | apply zx | apply zy | apply zK | refine za rfl rfl (fun _ => rfl) ?_ | refine zb rfl rfl (fun _ => rfl) ?_ | refine zO rfl rfl (zW rfl rfl rfl hobj rfl ⟨(by simp [zc] <;> omega), ?_⟩) | refine zO rfl rfl (zW rfl rfl rfl hobjA rfl ⟨(by simp [zc] <;> omega), ?_⟩))
 refine zN (ym (cs := [0, 0, 2, 6, 14, 30, 62, 126, 0, 256, 768, 1792, 3840, 7936, 16128, 32512, 65534, 131071]) (by decide +kernel) ?_) ?_
 ·simp +contextual [jt, apP, Dis, yF, yE, yw, yA, Nat.testBit]
 repeat' (first | refine zU ?_)
 refine zH rfl (fun hb => ?_) (fun hb => ?_)
 ·have hb := of_decide_eq_true hb
  rw [w1] at hb
  repeat' (first | apply zw | apply zx | apply zG | apply zK | refine za rfl rfl (fun _ => rfl) ?_ | refine yn ?_)
  exact z6 rfl (.inl ⟨hb, rfl, rfl, rfl⟩)
 have hb := of_decide_eq_false hb
 rw [w1] at hb
 have hb0 := hb
 repeat' (first | apply zw | apply zy | apply zz | refine zb rfl rfl (fun _ => rfl) ?_)
 refine zO rfl rfl (jh rfl (mcollect_ok r so s hap hlen hen hcnt hgl) (fun n hn => .inl hn) (Nat.le_refl _) fun v7 h7 c7 al7 hal7 hc7 hf7 hq => ?_)
 obtain ⟨rfl, vW', rows', r7, hn7, s7, hmv7⟩ := hq
 generalize hWs : yh W R l (zX W l R) = W' at r7 hsl
 generalize hRs : R.map (mvW W R l) = R' at r7
 have hobj7 := r7.obj
 have hle7 := r7.mem.ar.le
 have hobjA7 := r7.mem.ar.obj
 obtain ⟨sO, capO, hvO, _⟩ := r7.mem.ar.w.shape
 rw [hvO] at hobjA7
 have w2 : IntKind.i64.wrap (most - (W'.length : Int)) = most - W'.length := Go.IntWalk.i64_in _ (by omega)
 repeat' (first | refine zb rfl rfl (fun _ => rfl) ?_ | refine zO rfl rfl (zW rfl rfl rfl hobj7 rfl ⟨(by simp [zc] <;> omega), ?_⟩) | refine zO rfl rfl (zW rfl rfl rfl hobjA7 rfl ⟨(by simp [zc] <;> omega), ?_⟩))
 refine zN (ym (cs := [0, 0, 3, 7, 15, 31, 31, 95, 223, 479, 31, 1055, 3103, 7199, 15391, 31775, 64543, 130079, 262111, 524287, 1048575]) (by decide +kernel) ?_) ?_
 ·simp +contextual [jt, apP, Dis, yF, yE, yw, yA, Nat.testBit]
 repeat' (first | refine zU ?_)
 refine zH rfl (fun hb => ?_) (fun hb => ?_)
 ·have hb := of_decide_eq_true hb
  rw [w2] at hb
  repeat' (first | apply zw | apply zx | apply zG | apply zK | refine za rfl rfl (fun _ => rfl) ?_ | refine yn ?_)
  refine z6 rfl (.inr ⟨hb0, vW', rows', ?_, ?_, hn7, s7, hmv7⟩)
  ·exact congrArg V.bool (decide_eq_false (show ¬ n <= most - W'.length from by omega)).symm
  ·rw [if_neg (show ¬ n <= most - W'.length from by omega)]; exact r7
 have hb := of_decide_eq_false hb
 rw [w2] at hb
 have hle9 : n <= most - W'.length := by omega
 have w3 : IntKind.i64.wrap ((W'.length : Int) + n) = W'.length + n := Go.IntWalk.i64_in _ (by omega)
 repeat' (first | apply zw | apply zx | apply zz | refine za rfl rfl (fun _ => rfl) ?_ | refine zL rfl rfl (zW rfl rfl rfl hobj7 rfl ⟨(by simp [zc] <;> omega), ?_⟩) | refine zL rfl rfl (zW rfl rfl rfl hobjA7 rfl ⟨(by simp [zc] <;> omega), ?_⟩))
 rw [w3]
 refine zL rfl rfl (yj rfl (grow_ok r7 (n := (W'.length : Int) + n) (by omega) (by unfold jE; omega)) (fun n hn => .inl (by
  simp only [List.mem_cons, List.not_mem_nil, or_false] at hn
  rcases hn with h | h
  ·rw [h]; exact zh _ (zq ..)
  ·rw [h]; exact zh _ (zg _ (zh _ (zq ..))))) hc7 fun v8 h8 c8 hc8 _ hq => ?_)
 obtain ⟨rfl, r8, hf8⟩ := hq
 repeat' (first | apply zw | apply zx | apply zG | apply zK | refine za rfl rfl (fun _ => rfl) ?_)
 refine z6 rfl (.inr ⟨hb0, vW', rows', ?_, ?_, hn7, s7.keepN (Nat.le_refl _) fun n hn hm => hf8 n fun e => hap n hm ?_, hmv7⟩)
 ·exact congrArg V.bool (decide_eq_true hle9).symm
 ·rw [if_pos hle9]; exact r8
 ·rw [e]; exact zg _ (zh _ (zq ..))
theorem mmake_len {k n : Int} (r : MdH h c mp ma q vW vR W R size most) (rx : RowOf 1 ye h c vX X) (hX : (X.length : Int) ≠ n) : Does 13 [.ptr (some (mp, 0)), .agg (hdV (kH k n)), vX] h c (mp :: mn ma vW vR ++ zS vX) fun v h' c' => v = .tuple [U 0, .bool false] /\ ∀ m, m < c -> MapI.get h' m = MapI.get h m := by
 obtain ⟨b, cap, rfl, hlt, hrow⟩ := rx
 have e1 : (n != (X.length : Int)) = true := by simpa using Ne.symm hX
 refine yi (enter (fn := Tryz.f13) Tryz.func13 rfl rfl (zf rfl) ?_)
 repeat' (first | apply zw | apply zx | apply zy | apply zK | refine za rfl rfl (fun _ => rfl) ?_ | refine zb rfl rfl (fun _ => rfl) ?_ | refine zL rfl rfl (yK rfl ⟨(by simp [zc] <;> omega), ?_⟩) | refine zO rfl rfl (zW rfl rfl rfl (zt _ _ _) rfl ⟨(by simp [zc] <;> omega), ?_⟩))
 simp only [e1]
 repeat' (first | refine zb rfl rfl (fun _ => rfl) ?_ | refine zP rfl rfl ?_)
 refine zN (ym (cs := [0, 1, 0, 4, 15, 31, 63, 127, 255, 511, 1023, 2047, 4095, 8191, 16383, 4095, 36863, 102399, 233471, 495615, 1019903, 2068479, 4095, 4198399, 12587007, 29364223, 62918655, 130027519, 264245247, 532680703, 1073713151, 2147483647, 4294967295]) (by decide +kernel) ?_) ?_
 ·simp +contextual [jt, apP, Dis, yF, yE, yw, yA, Nat.testBit]
 repeat' (first | refine zU ?_)
 refine ze rfl ?_
 repeat' (first | apply zw | apply zx | apply zG | apply zK | refine za rfl rfl (fun _ => rfl) ?_ | refine yn ?_)
 exact z6 rfl ⟨rfl, fun m hm => zu _ _ _ _ (by omega)⟩
theorem kH_bad {k n : Int} (h : k < 0 \/ 3 < k) : ¬ okH (kH k n) := by
 unfold okH
 show ¬ (0 <= k /\ k <= 3 /\ _)
 omega
theorem mmake_bad {k : Int} (r : MdH h c mp ma q vW vR W R size most) (rx : RowOf 1 ye h c vX X) (hk : k < 0 \/ 3 < k) : Does 13 [.ptr (some (mp, 0)), .agg (hdV (kH k X.length)), vX] h c (mp :: mn ma vW vR ++ zS vX) fun v h' c' => v = .tuple [U 0, .bool false] /\ ∀ m, m < c -> MapI.get h' m = MapI.get h m := by
 obtain ⟨b, cap, rfl, hlt, hrow⟩ := rx
 have e1 : ((X.length : Int) != (X.length : Int)) = false := by simp
 refine yi (enter (fn := Tryz.f13) Tryz.func13 rfl rfl (zf rfl) ?_)
 repeat' (first | apply zw | apply zx | apply zy | apply zK | refine za rfl rfl (fun _ => rfl) ?_ | refine zb rfl rfl (fun _ => rfl) ?_ | refine zL rfl rfl (yK rfl ⟨(by simp [zc] <;> omega), ?_⟩) | refine zO rfl rfl (zW rfl rfl rfl (zt _ _ _) rfl ⟨(by simp [zc] <;> omega), ?_⟩))
 simp only [e1]
 repeat' (first | refine zO rfl rfl (yC (k := 4) rfl rfl rfl rfl (zt _ _ _) rfl ⟨(by simp [zc] <;> omega), ?_⟩))
 refine zO rfl rfl (jh rfl (rmake_no (kH_bad hk)) (fun n hn => by cases hn) (by omega) fun v4 h4 c4 al4 hal4 hc4 hf4 hq => ?_)
 subst hq
 skip
 refine zO rfl rfl (jy rfl (qS (w := 4) ⟨by decide, by decide⟩) (fun n hn => by cases hn) (by omega) fun v5 h5 c5 al5 hal5 hc5 hf5 hq => ?_)
 obtain ⟨rfl, rfl, rfl⟩ := hq
 have hal4' : ∀ x ∈ al4, x.name ≠ c := fun x hx e => by
  rcases hal4 x hx with h | h
  ·cases h
  ·omega
 have hal4'' : ∀ x ∈ al4, c ≠ x.name := fun x hx e => hal4' x hx e.symm
 have hal5' : ∀ x ∈ al5, x.name ≠ c := fun x hx e => by
  rcases (hal5 x hx).1 with h | h
  ·cases h
  ·omega
 have hal5'' : ∀ x ∈ al5, c ≠ x.name := fun x hx e => hal5' x hx e.symm
 repeat' (first | refine zb rfl rfl (fun _ => rfl) ?_ | refine zP rfl rfl ?_)
 refine zN (ym (cs := [0, 1, 0, 4, 15, 31, 63, 127, 255, 511, 1023, 2047, 4095, 8191, 16383, 4095, 36863, 102399, 233471, 495615, 1019903, 2068479, 4095, 4198399, 12587007, 29364223, 62918655, 130027519, 264245247, 532680703, 1073713151, 2147483647, 4294967295]) (by decide +kernel) ?_) ?_
 ·simp +contextual [jt, apP, Dis, yF, yE, yw, yA, Nat.testBit, hal4', hal4'', hal5', hal5'']
 repeat' (first | refine zU ?_)
 refine ze rfl ?_
 repeat' (first | apply zw | apply zx | apply zG | apply zK | refine za rfl rfl (fun _ => rfl) ?_ | refine yn ?_)
 exact z6 rfl ⟨rfl, fun m hm => by rw [hf4 m (by omega) (fun hh => by cases hh)]; exact zu _ _ _ _ (by omega)⟩
end
open Go.Ab
section
variable {h h' : HH} {c c' mp ma q : Nat} {vW vR vX vB vP vS vC : V} {W R X : List Int} {size most : Int} {l : List (Nat × Hd)} {st : St}
theorem ArAt.put {sn off j a : Nat} {cl : Bool} {junk : List V} {w : Int} (r : ArAt h c a (.slice (some (sn, 0)) W.length (.upTo 1)) W size) (hj : junk.all jR = true) (hjl : j < W.length) (hw : okW w) (ho : off = j) :
  ArAt (MapI.set h sn (.cells true cl (yu (flat ye W ++ junk) off (yR (U w))))) c a (.slice (some (sn, 0)) W.length (.upTo 1)) (W.set j w) size := by
 have hsn : sn < c := r.w.lt sn (by simp [zS])
 have hne : sn ≠ a := r.na sn (by simp [zS])
 have hl := ListOf.set (k := 1) (cells := ye) yq (h := h) (m := sn) (cl := cl) (junk := junk) (xs := W) (i := j) (z := w) hsn hj hjl
 have he : yu (flat ye W ++ junk) off (yR (U w)) = yu (flat ye W ++ junk) (j * 1) (ye w) := by
  rw [show off = j * 1 from by omega]; rfl
 rw [he]
 exact ⟨yP hne r.obj, by simpa using hl, r.la, r.na, fun x hx => by
  rcases List.mem_or_eq_of_mem_set hx with h | rfl
  ·exact r.ok x h
  ·exact hw, by rw [List.length_set]; exact r.le, r.mx⟩
set_option maxHeartbeats 2000000 in
theorem mmake_room {k : Int} (r : MdH h c mp ma q vW vR W R size most) (rx : RowOf 1 ye h c vX X) (hx : okH (kH k X.length)) (hle0 : size < (W.length : Int) + 1 + X.length) : Does 13 [.ptr (some (mp, 0)), .agg (hdV (kH k X.length)), vX] h c (mp :: mn ma vW vR ++ zS vX) fun v h' c' => v = .tuple [U 0, .bool false] /\ ∀ m, m < c -> MapI.get h' m = MapI.get h m := by
 have hobj := r.obj
 have hlp := r.lp
 have hla := r.mem.ar.la
 have hle := r.mem.ar.le
 have hmx := r.mem.ar.mx
 have hobjA := r.mem.ar.obj
 obtain ⟨sW, capW, hvW, _⟩ := r.mem.ar.w.shape
 rw [hvW] at hobjA
 obtain ⟨b, cap, rfl, hlt, hrow⟩ := rx
 have hx0 := hx
 unfold okH at hx0
 simp only at hx0
 have e1 : ((X.length : Int) != (X.length : Int)) = false := by simp
 have w1 : IntKind.i64.wrap (1 + (X.length : Int)) = 1 + X.length := Go.IntWalk.i64_in _ (by omega)
 have w2 : IntKind.i64.wrap (size - (W.length : Int)) = size - W.length := Go.IntWalk.i64_in _ (by omega)
 have e3 : decide (IntKind.i64.wrap (1 + (X.length : Int)) > IntKind.i64.wrap (size - (W.length : Int))) = true := by rw [w1, w2]; exact decide_eq_true (by omega)
 refine yi (enter (fn := Tryz.f13) Tryz.func13 rfl rfl (zf rfl) ?_)
 repeat' (first | apply zw | apply zx | apply zy | apply zK | refine za rfl rfl (fun _ => rfl) ?_ | refine zb rfl rfl (fun _ => rfl) ?_ | refine zL rfl rfl (yK rfl ⟨(by simp [zc] <;> omega), ?_⟩) | refine zO rfl rfl (zW rfl rfl rfl (zt _ _ _) rfl ⟨(by simp [zc] <;> omega), ?_⟩))
 simp only [e1]
 repeat' (first | refine zO rfl rfl (yC (k := 4) rfl rfl rfl rfl (zt _ _ _) rfl ⟨(by simp [zc] <;> omega), ?_⟩))
 refine zO rfl rfl (jh rfl (rmake_ok hx) (fun n hn => by cases hn) (by omega) fun v4 h4 c4 al4 hal4 hc4 hf4 hq => ?_)
 subst hq
 skip
 refine zO rfl rfl (jy rfl (qS (gq hx)) (fun n hn => by cases hn) (by omega) fun v5 h5 c5 al5 hal5 hc5 hf5 hq => ?_)
 obtain ⟨rfl, rfl, rfl⟩ := hq
 rw [kC]
 have hf4' : ∀ m, m < c + 1 -> MapI.get h4 m = _ := fun m hm => hf4 m (by omega) (fun hh => by cases hh)
 have hg4 : MapI.get h4 c = some (.cells true true (hdV (kH k X.length))) := (hf4' c (by omega)).trans (zt _ _ _)
 have hobj4 : MapI.get h4 mp = _ := (hf4' mp (by omega)).trans ((zu _ _ _ _ (by omega)).trans hobj)
 have hobjA4 : MapI.get h4 ma = _ := (hf4' ma (by omega)).trans ((zu _ _ _ _ (by omega)).trans hobjA)
 have hal4' : ∀ n, n < c + 1 -> ∀ x ∈ al4, x.name ≠ n := fun n hn x hx e => by
  rcases hal4 x hx with h | h
  ·cases h
  ·omega
 have a1 := hal4' c (by omega)
 have a2 := hal4' mp (by omega)
 have a3 := hal4' ma (by omega)
 have b1 : ∀ x ∈ al4, c ≠ x.name := fun x hx e => a1 x hx e.symm
 have b2 : ∀ x ∈ al4, mp ≠ x.name := fun x hx e => a2 x hx e.symm
 have b3 : ∀ x ∈ al4, ma ≠ x.name := fun x hx e => a3 x hx e.symm
 have hal5' : ∀ n, n < c + 1 -> ∀ x ∈ al5, x.name ≠ n := fun n hn x hx e => by
  rcases (hal5 x hx).1 with h | h
  ·cases h
  ·omega
 have a4 := hal5' c (by omega)
 have a5 := hal5' mp (by omega)
 have a6 := hal5' ma (by omega)
 have b4 : ∀ x ∈ al5, c ≠ x.name := fun x hx e => a4 x hx e.symm
 have b5 : ∀ x ∈ al5, mp ≠ x.name := fun x hx e => a5 x hx e.symm
 have b6 : ∀ x ∈ al5, ma ≠ x.name := fun x hx e => a6 x hx e.symm
 repeat' (first | refine zb rfl rfl (fun _ => rfl) ?_ | refine zO rfl rfl (zW rfl rfl rfl hg4 rfl ⟨(by simp [zc] <;> omega), ?_⟩) | refine zO rfl rfl (zW rfl rfl rfl hobj4 rfl ⟨(by simp [zc] <;> omega), ?_⟩) | refine zO rfl rfl (zW rfl rfl rfl hobjA4 rfl ⟨(by simp [zc] <;> omega), ?_⟩))
 refine zN (ym (cs := [0, 1, 0, 4, 15, 31, 63, 127, 255, 511, 1023, 2047, 4095, 8191, 16383, 4095, 36863, 102399, 233471, 495615, 1019903, 2068479, 4095, 4198399, 12587007, 29364223, 62918655, 130027519, 264245247, 532680703, 1073713151, 2147483647, 4294967295]) (by decide +kernel) ?_) ?_
 ·simp +contextual [jt, apP, Dis, yF, yE, yw, yA, Nat.testBit, a1, a2, a3, a4, a5, a6, b1, b2, b3, b4, b5, b6]
 repeat' (first | refine zU ?_)
 refine zH rfl (fun _ => ?_) (fun hb => by rw [e3] at hb; cases hb)
 repeat' (first | apply zw | apply zx | apply zG | apply zK | refine za rfl rfl (fun _ => rfl) ?_ | refine yn ?_)
 exact z6 rfl ⟨rfl, fun m hm => by rw [hf4' m (by omega)]; exact zu _ _ _ _ (by omega)⟩
set_option maxHeartbeats 2000000 in
theorem mmake_gone {bi : Nat} (r : MdH h c mp ma q vW vR W R size most) (s : RefAt h c q vB vP vS vC st) (rx : RowOf 1 ye h c vX X) (hlen : st.rows.length <= 1000) (hX0 : X[0]? = some ((bi + 1 : Nat) : Int)) (hqb : st.rows.length <= bi) (hbl : bi < 1000) (hx : okH (kH 3 X.length)) (hle0 : (W.length : Int) + 1 + X.length <= size) : Does 13 [.ptr (some (mp, 0)), .agg (hdV (kH 3 X.length)), vX] h c (mp :: mn ma vW vR ++ zS vX ++ rn q vB vP vS vC) fun v h' c' => v = .tuple [U 0, .bool false] /\ ∀ m, m < c -> MapI.get h' m = MapI.get h m := by
 obtain ⟨k, hk⟩ : ∃ k : Int, k = 3 := ⟨3, rfl⟩
 rw [<- hk] at hx ⊢
 have hobj := r.obj
 have hlp := r.lp
 have hla := r.mem.ar.la
 have hle := r.mem.ar.le
 have hmx := r.mem.ar.mx
 have hnm := r.names
 have hsn := s.names
 have hobjA := r.mem.ar.obj
 obtain ⟨sW, capW, hvW, _⟩ := r.mem.ar.w.shape
 rw [hvW] at hobjA
 obtain ⟨b, cap, rfl, hshape⟩ := rx.shape
 have hlt := rx.lt
 have hx0 := hx
 unfold okH at hx0
 simp only at hx0
 have e1 : ((X.length : Int) != (X.length : Int)) = false := by simp
 have w1 : IntKind.i64.wrap (1 + (X.length : Int)) = 1 + X.length := Go.IntWalk.i64_in _ (by omega)
 have w2 : IntKind.i64.wrap (size - (W.length : Int)) = size - W.length := Go.IntWalk.i64_in _ (by omega)
 have e3 : decide (IntKind.i64.wrap (1 + (X.length : Int)) > IntKind.i64.wrap (size - (W.length : Int))) = false := by rw [w1, w2]; exact decide_eq_false (by omega)
 refine yi (enter (fn := Tryz.f13) Tryz.func13 rfl rfl (zf rfl) ?_)
 repeat' (first | apply zw | apply zx | apply zy | apply zK | refine za rfl rfl (fun _ => rfl) ?_ | refine zb rfl rfl (fun _ => rfl) ?_ | refine zL rfl rfl (yK rfl ⟨(by simp [zc] <;> omega), ?_⟩) | refine zO rfl rfl (zW rfl rfl rfl (zt _ _ _) rfl ⟨(by simp [zc] <;> omega), ?_⟩))
 simp only [e1]
 repeat' (first | refine zO rfl rfl (yC (k := 4) rfl rfl rfl rfl (zt _ _ _) rfl ⟨(by simp [zc] <;> omega), ?_⟩))
 refine zO rfl rfl (jh rfl (rmake_ok hx) (fun n hn => by cases hn) (by omega) fun v4 h4 c4 al4 hal4 hc4 hf4 hq => ?_)
 subst hq
 skip
 refine zO rfl rfl (jy rfl (qS (gq hx)) (fun n hn => by cases hn) (by omega) fun v5 h5 c5 al5 hal5 hc5 hf5 hq => ?_)
 obtain ⟨rfl, rfl, rfl⟩ := hq
 rw [kC]
 have hf4' : ∀ m, m < c + 1 -> MapI.get h4 m = _ := fun m hm => hf4 m (by omega) (fun hh => by cases hh)
 have hg4 : MapI.get h4 c = some (.cells true true (hdV (kH k X.length))) := (hf4' c (by omega)).trans (zt _ _ _)
 have hk4 : ∀ m, m < c -> MapI.get h4 m = MapI.get h m := fun m hm => (hf4' m (by omega)).trans (zu _ _ _ _ (by omega))
 have hobj4 : MapI.get h4 mp = _ := (hk4 mp hlp).trans hobj
 have hobjA4 : MapI.get h4 ma = _ := (hk4 ma hla).trans hobjA
 have hal4' : ∀ n, n < c + 1 -> ∀ x ∈ al4, x.name ≠ n := fun n hn x hx e => by
  rcases hal4 x hx with h | h
  ·cases h
  ·omega
 have a1 := hal4' c (by omega)
 have a2 := hal4' mp (by omega)
 have a3 := hal4' ma (by omega)
 have b1 : ∀ x ∈ al4, c ≠ x.name := fun x hx e => a1 x hx e.symm
 have b2 : ∀ x ∈ al4, mp ≠ x.name := fun x hx e => a2 x hx e.symm
 have b3 : ∀ x ∈ al4, ma ≠ x.name := fun x hx e => a3 x hx e.symm
 have hal5' : ∀ n, n < c + 1 -> ∀ x ∈ al5, x.name ≠ n := fun n hn x hx e => by
  rcases (hal5 x hx).1 with h | h
  ·cases h
  ·omega
 have a4 := hal5' c (by omega)
 have a5 := hal5' mp (by omega)
 have a6 := hal5' ma (by omega)
 have b4 : ∀ x ∈ al5, c ≠ x.name := fun x hx e => a4 x hx e.symm
 have b5 : ∀ x ∈ al5, mp ≠ x.name := fun x hx e => a5 x hx e.symm
 have b6 : ∀ x ∈ al5, ma ≠ x.name := fun x hx e => a6 x hx e.symm
 repeat' (first | refine zb rfl rfl (fun _ => rfl) ?_ | refine zO rfl rfl (zW rfl rfl rfl hg4 rfl ⟨(by simp [zc] <;> omega), ?_⟩) | refine zO rfl rfl (zW rfl rfl rfl hobj4 rfl ⟨(by simp [zc] <;> omega), ?_⟩) | refine zO rfl rfl (zW rfl rfl rfl hobjA4 rfl ⟨(by simp [zc] <;> omega), ?_⟩))
 refine zN (ym (cs := [0, 1, 0, 4, 15, 31, 63, 127, 255, 511, 1023, 2047, 4095, 8191, 16383, 4095, 36863, 102399, 233471, 495615, 1019903, 2068479, 4095, 4198399, 12587007, 29364223, 62918655, 130027519, 264245247, 532680703, 1073713151, 2147483647, 4294967295]) (by decide +kernel) ?_) ?_
 ·simp +contextual [jt, apP, Dis, yF, yE, yw, yA, Nat.testBit, a1, a2, a3, a4, a5, a6, b1, b2, b3, b4, b5, b6]
 repeat' (first | refine zU ?_)
 refine zH rfl (fun hb => by rw [e3] at hb; cases hb) (fun _ => ?_)
 have r4 := r.same (h' := h4) (c' := c4) (by omega) hk4
 have s4 := s.keepN (h' := h4) (c' := c4) (by omega) fun n hn _ => hk4 n hn
 subst hk
 have hpos := (zj hX0).1
 obtain ⟨sn, cl, junk, rfl, hsn, hg⟩ := hshape 0 hpos
 have hg4X : MapI.get h4 sn = _ := (hk4 sn hsn).trans hg
 have hz : nth (flat ye X ++ junk) (0 + (0 : Int).toNat * 1) = some (U ((bi + 1 : Nat) : Int)) := yB yq hX0 rfl junk
 have e4 : decide ((X.length : Int) > 0) = true := decide_eq_true (by omega)
 have e5 : ((((bi + 1 : Nat) : Int)) != 0) = true := by rw [bne_iff_ne]; omega
 have e6 : decide ((((bi + 1 : Nat) : Int)) > 1099511627776) = false := decide_eq_false (by omega)
 have w6 : IntKind.i64.wrap ((bi + 1 : Nat) : Int) = ((bi + 1 : Nat) : Int) := Go.IntWalk.i64_in _ (by omega)
 repeat' (first | apply zw | apply zx | apply zz | refine za rfl rfl (fun _ => rfl) ?_ | refine zL rfl rfl (zW rfl rfl rfl hg4 rfl ⟨(by simp [zc] <;> omega), ?_⟩))
 simp only [e4]
 repeat' (first | apply zK | refine za rfl rfl (fun _ => rfl) ?_ | refine zU ?_ | refine zL rfl rfl (zZ (k := 1) rfl rfl rfl rfl ⟨by omega, by omega⟩ ⟨(by simp [zc] <;> omega), ?_⟩) | refine zL rfl rfl (zW rfl rfl rfl hg4X hz ⟨(by simp [zc] <;> omega), ?_⟩))
 refine zH rfl (fun _ => ?_) (fun hb => by rw [show ((((bi + 1 : Nat) : Int)) != 0) = true from e5] at hb; cases hb)
 repeat' (first | apply zw | apply zy | refine zb rfl rfl (fun _ => rfl) ?_ | refine zO rfl rfl (zZ (k := 1) rfl rfl rfl rfl ⟨by omega, by omega⟩ ⟨(by simp [zc] <;> omega), ?_⟩) | refine zO rfl rfl (zW rfl rfl rfl hg4X hz ⟨(by simp [zc] <;> omega), ?_⟩))
 simp only [e6]
 repeat' (first | refine zb rfl rfl (fun _ => rfl) ?_ | refine zO rfl rfl (zW rfl rfl rfl hobj4 rfl ⟨(by simp [zc] <;> omega), ?_⟩) | refine zO rfl rfl (zZ (k := 1) rfl rfl rfl rfl ⟨by omega, by omega⟩ ⟨(by simp [zc] <;> omega), ?_⟩) | refine zO rfl rfl (zW rfl rfl rfl hg4X hz ⟨(by simp [zc] <;> omega), ?_⟩))
 rw [w6]
 refine zO rfl rfl (jh rfl (rhold_ok (hd := ((bi + 1 : Nat) : Int)) s4 hlen) (fun n hn => .inl (zi _ hn)) (by omega) fun v6 h6 c6 al6 hal6 hc6 hf6 hq => ?_)
 obtain ⟨rfl, hq⟩ := hq
 rcases hq with ⟨i9, q9, hi9, hq9, _⟩ | ⟨_, rfl, rfl⟩
 case inl =>
  have hib : i9 = bi := by push_cast at hi9; omega
  subst hib
  have := (zj hq9).1; omega
 repeat' (first | refine zb rfl rfl (fun _ => rfl) ?_)
 refine zN (ym (cs := [0, 1, 3, 7, 15, 31, 63, 127, 255, 31, 543, 1567, 3615, 8191, 16383, 32767]) (by decide +kernel) ?_) ?_
 ·simp +contextual [jt, apP, Dis, yF, yE, yw, yA, Nat.testBit]
 repeat' (first | refine zU ?_)
 refine ze rfl ?_
 repeat' (first | apply zw | apply zx | apply zG | apply zK | refine za rfl rfl (fun _ => rfl) ?_ | refine yn ?_)
 exact z6 rfl ⟨rfl, hk4⟩
set_option maxHeartbeats 4000000 in
theorem mmake_yes {k : Int} {rows' : List R3} (r : MdH h c mp ma q vW vR W R size most) (s : RefAt h c q vB vP vS vC st) (hap : ∀ n ∈ rn q vB vP vS vC, n ∉ mp :: mn ma vW vR) (rx : RowOf 1 ye h c vX X) (hXm : ∀ n ∈ zS vX, n ∉ mp :: mn ma vW vR) (hXq : ∀ n ∈ zS vX, n ∉ rn q vB vP vS vC) (hok : ∀ w ∈ X, okW w) (hlen : st.rows.length <= 1000) (hx : okH (kH k X.length)) (hle0 : (W.length : Int) + 1 + X.length <= size)
  (hh : ((k ≠ 3 \/ X[0]? = some 0) /\ rows' = st.rows) \/ (k = 3 /\ ∃ (bi : Nat) (qq : R3), X[0]? = some ((bi + 1 : Nat) : Int) /\ st.rows[bi]? = some qq /\ 0 < qq.2.2 /\ qq.2.2 <= 1000000 /\ rows' = st.rows.set bi (qq.1, qq.2.1, qq.2.2 + 1))) :
  Does 13 [.ptr (some (mp, 0)), .agg (hdV (kH k X.length)), vX] h c (mp :: mn ma vW vR ++ zS vX ++ rn q vB vP vS vC) fun v h' c' => v = .tuple [U (jQ W.length), .bool true] /\ ∃ vW', MdH h' c' mp ma q vW' vR (W ++ makeW (kH k X.length) :: X) R size most /\ (∀ n ∈ zS vW', n ∈ zS vW \/ c <= n) /\ RefAt h' c' q vB vP vS vC { st with rows := rows' } := by
 have hobj := r.obj
 have hlp := r.lp
 have hla := r.mem.ar.la
 have hle := r.mem.ar.le
 have hmx := r.mem.ar.mx
 have hnm := r.names
 have hsn := s.names
 have hobjA := r.mem.ar.obj
 obtain ⟨sW, capW, hvW, _⟩ := r.mem.ar.w.shape
 rw [hvW] at hobjA
 obtain ⟨b, cap, rfl, hshape⟩ := rx.shape
 have hlt := rx.lt
 have hx0 := hx
 unfold okH at hx0
 simp only at hx0
 have e1 : ((X.length : Int) != (X.length : Int)) = false := by simp
 have w1 : IntKind.i64.wrap (1 + (X.length : Int)) = 1 + X.length := Go.IntWalk.i64_in _ (by omega)
 have w2 : IntKind.i64.wrap (size - (W.length : Int)) = size - W.length := Go.IntWalk.i64_in _ (by omega)
 have e3 : decide (IntKind.i64.wrap (1 + (X.length : Int)) > IntKind.i64.wrap (size - (W.length : Int))) = false := by rw [w1, w2]; exact decide_eq_false (by omega)
 refine yi (enter (fn := Tryz.f13) Tryz.func13 rfl rfl (zf rfl) ?_)
 repeat' (first | apply zw | apply zx | apply zy | apply zK | refine za rfl rfl (fun _ => rfl) ?_ | refine zb rfl rfl (fun _ => rfl) ?_ | refine zL rfl rfl (yK rfl ⟨(by simp [zc] <;> omega), ?_⟩) | refine zO rfl rfl (zW rfl rfl rfl (zt _ _ _) rfl ⟨(by simp [zc] <;> omega), ?_⟩))
 simp only [e1]
 repeat' (first | refine zO rfl rfl (yC (k := 4) rfl rfl rfl rfl (zt _ _ _) rfl ⟨(by simp [zc] <;> omega), ?_⟩))
 refine zO rfl rfl (jh rfl (rmake_ok hx) (fun n hn => by cases hn) (by omega) fun v4 h4 c4 al4 hal4 hc4 hf4 hq => ?_)
 subst hq
 skip
 refine zO rfl rfl (jy rfl (qS (gq hx)) (fun n hn => by cases hn) (by omega) fun v5 h5 c5 al5 hal5 hc5 hf5 hq => ?_)
 obtain ⟨rfl, rfl, rfl⟩ := hq
 rw [kC]
 have hf4' : ∀ m, m < c + 1 -> MapI.get h4 m = _ := fun m hm => hf4 m (by omega) (fun hh => by cases hh)
 have hg4 : MapI.get h4 c = some (.cells true true (hdV (kH k X.length))) := (hf4' c (by omega)).trans (zt _ _ _)
 have hk4 : ∀ m, m < c -> MapI.get h4 m = MapI.get h m := fun m hm => (hf4' m (by omega)).trans (zu _ _ _ _ (by omega))
 have hobj4 : MapI.get h4 mp = _ := (hk4 mp hlp).trans hobj
 have hobjA4 : MapI.get h4 ma = _ := (hk4 ma hla).trans hobjA
 have hal4' : ∀ n, n < c + 1 -> ∀ x ∈ al4, x.name ≠ n := fun n hn x hx e => by
  rcases hal4 x hx with h | h
  ·cases h
  ·omega
 have a1 := hal4' c (by omega)
 have a2 := hal4' mp (by omega)
 have a3 := hal4' ma (by omega)
 have b1 : ∀ x ∈ al4, c ≠ x.name := fun x hx e => a1 x hx e.symm
 have b2 : ∀ x ∈ al4, mp ≠ x.name := fun x hx e => a2 x hx e.symm
 have b3 : ∀ x ∈ al4, ma ≠ x.name := fun x hx e => a3 x hx e.symm
 have hal5' : ∀ n, n < c + 1 -> ∀ x ∈ al5, x.name ≠ n := fun n hn x hx e => by
  rcases (hal5 x hx).1 with h | h
  ·cases h
  ·omega
 have a4 := hal5' c (by omega)
 have a5 := hal5' mp (by omega)
 have a6 := hal5' ma (by omega)
 have b4 : ∀ x ∈ al5, c ≠ x.name := fun x hx e => a4 x hx e.symm
 have b5 : ∀ x ∈ al5, mp ≠ x.name := fun x hx e => a5 x hx e.symm
 have b6 : ∀ x ∈ al5, ma ≠ x.name := fun x hx e => a6 x hx e.symm
 repeat' (first | refine zb rfl rfl (fun _ => rfl) ?_ | refine zO rfl rfl (zW rfl rfl rfl hg4 rfl ⟨(by simp [zc] <;> omega), ?_⟩) | refine zO rfl rfl (zW rfl rfl rfl hobj4 rfl ⟨(by simp [zc] <;> omega), ?_⟩) | refine zO rfl rfl (zW rfl rfl rfl hobjA4 rfl ⟨(by simp [zc] <;> omega), ?_⟩))
 refine zN (ym (cs := [0, 1, 0, 4, 15, 31, 63, 127, 255, 511, 1023, 2047, 4095, 8191, 16383, 4095, 36863, 102399, 233471, 495615, 1019903, 2068479, 4095, 4198399, 12587007, 29364223, 62918655, 130027519, 264245247, 532680703, 1073713151, 2147483647, 4294967295]) (by decide +kernel) ?_) ?_
 ·simp +contextual [jt, apP, Dis, yF, yE, yw, yA, Nat.testBit, a1, a2, a3, a4, a5, a6, b1, b2, b3, b4, b5, b6]
 repeat' (first | refine zU ?_)
 refine zH rfl (fun hb => by rw [e3] at hb; cases hb) (fun _ => ?_)
 have r4 := r.same (h' := h4) (c' := c4) (by omega) hk4
 have s4 := s.keepN (h' := h4) (c' := c4) (by omega) fun n hn _ => hk4 n hn
 have hcn : ∀ n ∈ rn q vB vP vS vC, n ≠ c := fun n hn e => by have := hsn n hn; omega
 repeat' (first | refine zJ (a := Code.seq (Code.region 3 _ _) _) (fun e' h' c' => (∃ b0, e' = FR b0 [(0, V.ptr (some (mp, 0))), (2, .slice b X.length cap), (4, V.ptr (some (c, 0)))]) /\ c4 = c' /\ RefAt h' c4 q vB vP vS vC { st with rows := rows' } /\ (∀ m, m < c + 1 -> m ∉ rn q vB vP vS vC -> MapI.get h' m = MapI.get h4 m)) ?_ ?_ | apply zw | apply zx | apply zz | refine za rfl rfl (fun _ => rfl) ?_)
 ·rcases hh with ⟨hz0, rfl⟩ | ⟨rfl, bi, qq, hX0, hqb, hqc, hqc2, rfl⟩
  ·by_cases hk : k = 3
   ·subst hk
    have hX0 : X[0]? = some 0 := by
     rcases hz0 with h | h
     ·exact absurd rfl h
     ·exact h
    have hpos := (zj hX0).1
    obtain ⟨sn, cl, junk, rfl, hsn, hg⟩ := hshape 0 hpos
    have hg4X : MapI.get h4 sn = _ := (hk4 sn hsn).trans hg
    have hz : nth (flat ye X ++ junk) (0 + (0 : Int).toNat * 1) = some (U 0) := yB yq hX0 rfl junk
    have e4 : decide ((X.length : Int) > 0) = true := decide_eq_true (by omega)
    repeat' (first | refine za rfl rfl (fun _ => rfl) ?_ | refine zL rfl rfl (zW rfl rfl rfl hg4 rfl ⟨(by simp [zc] <;> omega), ?_⟩))
    simp only [e4]
    repeat' (first | apply zK | refine za rfl rfl (fun _ => rfl) ?_ | refine zU ?_ | refine zL rfl rfl (zZ (k := 1) rfl rfl rfl rfl ⟨by omega, by omega⟩ ⟨(by simp [zc] <;> omega), ?_⟩) | refine zL rfl rfl (zW rfl rfl rfl hg4X hz ⟨(by simp [zc] <;> omega), ?_⟩))
    refine zd rfl ?_
    repeat' (first | apply zz | refine zU ?_)
    exact ⟨fr ⟨rfl, rfl, rfl, trivial⟩, rfl, s4, fun m _ _ => rfl⟩
   ·have e4 : (k == 3) = false := by simpa using hk
    repeat' (first | refine za rfl rfl (fun _ => rfl) ?_ | refine zL rfl rfl (zW rfl rfl rfl hg4 rfl ⟨(by simp [zc] <;> omega), ?_⟩))
    simp only [e4]
    repeat' (first | apply zK | refine za rfl rfl (fun _ => rfl) ?_ | refine zM rfl rfl ?_ | refine zU ?_)
    refine zd rfl ?_
    repeat' (first | apply zz | refine zU ?_)
    exact ⟨fr ⟨rfl, rfl, rfl, trivial⟩, rfl, s4, fun m _ _ => rfl⟩
  ·have hpos := (zj hX0).1
   have hbl := (zj hqb).1
   obtain ⟨sn, cl, junk, rfl, hsn', hg⟩ := hshape 0 hpos
   have hg4X : MapI.get h4 sn = _ := (hk4 sn hsn').trans hg
   have hz : nth (flat ye X ++ junk) (0 + (0 : Int).toNat * 1) = some (U ((bi + 1 : Nat) : Int)) := yB yq hX0 rfl junk
   have e4 : decide ((X.length : Int) > 0) = true := decide_eq_true (by omega)
   have e5 : ((((bi + 1 : Nat) : Int)) != 0) = true := by rw [bne_iff_ne]; omega
   have e6 : decide ((((bi + 1 : Nat) : Int)) > 1099511627776) = false := decide_eq_false (by omega)
   have w6 : IntKind.i64.wrap ((bi + 1 : Nat) : Int) = ((bi + 1 : Nat) : Int) := Go.IntWalk.i64_in _ (by omega)
   have w7 : IntKind.i64.wrap (qq.2.2 + 1) = qq.2.2 + 1 := Go.IntWalk.i64_in _ (by omega)
   repeat' (first | refine za rfl rfl (fun _ => rfl) ?_ | refine zL rfl rfl (zW rfl rfl rfl hg4 rfl ⟨(by simp [zc] <;> omega), ?_⟩))
   simp only [e4]
   repeat' (first | apply zK | refine za rfl rfl (fun _ => rfl) ?_ | refine zU ?_ | refine zL rfl rfl (zZ (k := 1) rfl rfl rfl rfl ⟨by omega, by omega⟩ ⟨(by simp [zc] <;> omega), ?_⟩) | refine zL rfl rfl (zW rfl rfl rfl hg4X hz ⟨(by simp [zc] <;> omega), ?_⟩))
   refine zH rfl (fun _ => ?_) (fun hb => by rw [show ((((bi + 1 : Nat) : Int)) != 0) = true from e5] at hb; cases hb)
   repeat' (first | apply zw | apply zy | refine zb rfl rfl (fun _ => rfl) ?_ | refine zO rfl rfl (zZ (k := 1) rfl rfl rfl rfl ⟨by omega, by omega⟩ ⟨(by simp [zc] <;> omega), ?_⟩) | refine zO rfl rfl (zW rfl rfl rfl hg4X hz ⟨(by simp [zc] <;> omega), ?_⟩))
   simp only [e6]
   repeat' (first | refine zb rfl rfl (fun _ => rfl) ?_ | refine zO rfl rfl (zW rfl rfl rfl hobj4 rfl ⟨(by simp [zc] <;> omega), ?_⟩) | refine zO rfl rfl (zZ (k := 1) rfl rfl rfl rfl ⟨by omega, by omega⟩ ⟨(by simp [zc] <;> omega), ?_⟩) | refine zO rfl rfl (zW rfl rfl rfl hg4X hz ⟨(by simp [zc] <;> omega), ?_⟩))
   rw [w6]
   refine zO rfl rfl (jh rfl (rhold_ok (hd := ((bi + 1 : Nat) : Int)) s4 hlen) (fun n hn => .inl (zi _ hn)) (by omega) fun v6 h6 c6 al6 hal6 hc6 hf6 hq => ?_)
   obtain ⟨rfl, hq⟩ := hq
   rcases hq with ⟨i9, q9, hi9, hq9, hq0, rfl, hs9⟩ | ⟨hno, _, _⟩
   case inr =>
    have := hno bi qq (by push_cast; rfl) hqb
    omega
   have hib : i9 = bi := by push_cast at hi9; omega
   subst hib
   rw [hqb] at hq9
   cases hq9
   rw [w7] at hs9
   have g0 : True := trivial
   repeat' (first | refine zb rfl rfl (fun _ => rfl) ?_)
   refine zN (ym (cs := [0, 1, 3, 7, 15, 31, 63, 127, 255, 31, 543, 1567, 3615, 8191, 16383, 32767]) (by decide +kernel) ?_) ?_
   ·simp +contextual [jt, apP, Dis, yF, yE, yw, yA, Nat.testBit]
   repeat' (first | refine zU ?_)
   refine zd rfl ?_
   repeat' (first | apply zz | refine zU ?_)
   exact ⟨fr ⟨rfl, rfl, rfl, trivial⟩, rfl, hs9, fun m hm hmq => hf6 m (by omega) hmq⟩
 rintro e' h7 c7 ⟨⟨b0, rfl⟩, rfl, s7, hk7⟩
 have hmq : ∀ n ∈ mp :: mn ma vW vR, n ∉ rn q vB vP vS vC := fun n hn hh => hap n hh hn
 have hk7' : ∀ m, m < c -> m ∉ rn q vB vP vS vC -> MapI.get h7 m = MapI.get h m := fun m hm hmq => (hk7 m (by omega) hmq).trans (hk4 m hm)
 have r7 : MdH h7 c4 mp ma q vW vR W R size most := r.keep (by omega) fun n hn hm => hk7' n hn (hmq n hm)
 have hg7 : MapI.get h7 c = _ := (hk7 c (by omega) (fun hh => hcn c hh rfl)).trans hg4
 have hobj7 := r7.obj
 repeat' (first | apply zw | apply zy | refine zb rfl rfl (fun _ => rfl) ?_ | refine zO rfl rfl (zW rfl rfl rfl hobj7 rfl ⟨(by simp [zc] <;> omega), ?_⟩) | refine zO rfl rfl (yC (k := 4) rfl rfl rfl rfl hg7 rfl ⟨(by simp [zc] <;> omega), ?_⟩))
 refine zO rfl rfl (jh rfl (rfresh_ok r7.mem.ar hx (by show _ + 1 + (X.length : Int) <= _; omega)) (fun n hn => .inl (zh _ (zh _ (zg _ (zh _ hn))))) (by omega) fun v8 h8 c8 al8 hal8 hc8 hf8 hq => ?_)
 obtain ⟨rfl, vW8, hA8, hn8⟩ := hq
 repeat' (first | refine zb rfl rfl (fun _ => rfl) ?_)
 refine zN (ym (cs := [0, 1, 3, 7, 0, 31, 63, 127, 127, 255, 1023]) (by decide +kernel) ?_) ?_
 ·simp +contextual [jt, apP, Dis, yF, yE, yw, yA, Nat.testBit]
 rw [show ((kH k (X.length : Int)).size).toNat = X.length from by simp] at hA8
 have hvp : yI (jQ W.length) = W.length := val_of ⟨by decide, by decide⟩ (by unfold jD; omega)
 have hokp : okW (jQ W.length) := kS ⟨by decide, by decide⟩
 generalize hpw : jQ W.length = pw at hvp hokp ⊢
 have hk8 : ∀ m, m < c4 -> m ∉ an ma vW -> MapI.get h8 m = MapI.get h7 m := fun m hm hma => hf8 m hm hma
 have hobj8 : MapI.get h8 mp = _ := (hk8 mp (by omega) (fun hh => r.sep (zh _ hh))).trans hobj7
 have hn8' : ∀ n ∈ zS vW8, n ∈ zS vW \/ c4 <= n := hn8
 repeat' (first | apply zw | apply zx | refine za rfl rfl (fun _ => rfl) ?_)
 refine zL rfl rfl (yg rfl (rval_okR hokp) (fun n hn => by cases hn) (by omega) fun v9 h9 c9 hc9 _ hq => ?_)
 obtain ⟨rfl, rfl, rfl⟩ := hq
 rw [hvp]
 repeat' (first | apply zw | apply zx | apply zB | apply zK | refine za rfl rfl (fun _ => rfl) ?_)
 refine zI ?_
 refine zQ (X := Nat) (fun i e' h' c' => (∃ b0, e' = FR b0 [(0, V.ptr (some (mp, 0))), (2, .slice b X.length cap), (8, U pw), (9, .bool true), (10, I W.length), (11, I i)]) /\ i <= X.length /\ c8 = c' /\ ArAt h' c8 ma vW8 (W ++ makeW (kH k X.length) :: (X.take i ++ List.replicate (X.length - i) 0)) size /\ (∀ m, m ∉ zS vW8 -> MapI.get h' m = MapI.get h8 m))
  (fun i => X.length - i) ?_ 0 _ _ _ ⟨fr ⟨rfl, rfl, rfl, rfl, rfl, rfl, trivial⟩, Nat.zero_le _, rfl, by simpa using hA8, fun m _ => rfl⟩
 rintro i e' h' c' ⟨⟨b1, rfl⟩, hi, rfl, hA, hf⟩
 have hmv : mp ∉ zS vW8 := fun hh => by
  rcases hn8' mp hh with h | h
  ·exact r.sep (zh _ (zg _ h))
  ·omega
 have hobj' : MapI.get h' mp = _ := (hf mp hmv).trans hobj8
 repeat' (first | apply zw | apply zx | apply zK | refine za rfl rfl (fun _ => rfl) ?_ | refine zU ?_)
 refine zH rfl (fun hlt2 => ?_) (fun hge => ?_)
 case refine_2 =>
  have hge : X.length <= i := by simpa using hge
  have hie : i = X.length := by omega
  subst hie
  rw [List.take_of_length_le (Nat.le_refl _), Nat.sub_self, List.replicate_zero, List.append_nil] at hA
  repeat' (first | apply zw | apply zx | apply zF | apply zG | apply zK | refine za rfl rfl (fun _ => rfl) ?_)
  have hqv : ∀ n, n < c -> n ∉ zS vW -> n ∉ zS vW8 := fun n hn hm hh => by
   rcases hn8' n hh with h | h
   ·exact hm h
   ·omega
  refine z6 rfl ⟨rfl, vW8, ⟨hobj', ⟨hA, r7.mem.rr.keep hc8 fun n hn hm => ?_, fun n hn => ⟨(r.mem.sep n hn).1, fun hh => ?_⟩, r.mem.ok, r.mem.len⟩, by omega, fun hh => ?_, r.mo, r.m0, r.mx⟩, fun n hn => (hn8' n hn).imp id fun h => by omega, s7.keepN hc8 fun n hn hm => ?_⟩
  ·have h1 := r.mem.sep n hm
   have h2 := r.mem.rr.lt n hm
   rw [hf n (hqv n h2 h1.2), hk8 n (by omega) (fun hh => by
    rcases zl hh with h | h
    ·exact h1.1 h
    ·exact h1.2 h)]
  ·exact hqv n (r.mem.rr.lt n hn) (r.mem.sep n hn).2 hh
  ·rcases zk hh with h | h
   ·rcases zl h with h | h
    ·exact r.sep (by rw [h]; exact zh _ (zq ..))
    ·exact hmv h
   ·exact r.sep (zi _ h)
  ·have h1 := hsn n hm
   have h2 : n ∉ an ma vW := fun hh => hap n hm (zg _ (zh _ hh))
   rw [hf n (hqv n h1 (fun hh => h2 (zg _ hh))), hk8 n (by omega) h2]
 have hlt2 : i < X.length := by simpa using hlt2
 obtain ⟨x, hxi⟩ : ∃ z, X[i]? = some z := ⟨_, zp hlt2⟩
 obtain ⟨sn, cl, junk, rfl, hsnl, hg⟩ := hshape i hlt2
 have hsX : sn ∉ mp :: mn ma vW vR := hXm sn (by simp [zS])
 have hsQ : sn ∉ rn q vB vP vS vC := hXq sn (by simp [zS])
 have hsA : sn ∉ an ma vW := fun hh => hsX (zg _ (zh _ hh))
 have hs8 : sn ∉ zS vW8 := fun hh => by
  rcases hn8' sn hh with h | h
  ·exact hsA (zg _ h)
  ·omega
 have hg' : MapI.get h' sn = _ := (hf sn hs8).trans ((hk8 sn (by omega) hsA).trans ((hk7' sn hsnl hsQ).trans hg))
 have hz : nth (flat ye X ++ junk) (0 + ((i : Nat) : Int).toNat * 1) = some (U x) := by
  rw [show 0 + ((i : Nat) : Int).toNat * 1 = i from by simp]
  exact yB yq hxi rfl junk
 have hWl : (W ++ makeW (kH k X.length) :: (X.take i ++ List.replicate (X.length - i) 0)).length = W.length + 1 + X.length := by
  simp [zr, List.length_take]; omega
 have hobjA' := hA.obj
 obtain ⟨s8, cap8, rfl, hsh8⟩ := hA.w.shape
 obtain ⟨rfl, s0, cl0, junk0, rfl, hs0, hg0, hj0⟩ := hsh8 (W.length + 1 + i) (by rw [hWl]; omega)
 have hw1 : IntKind.i64.wrap ((i : Int) + 1) = ((i + 1 : Nat) : Int) := by rw [Go.IntWalk.i64_in _ (by omega)]; omega
 have hw2 : IntKind.i64.wrap (IntKind.i64.wrap ((W.length : Int) + 1) + (i : Int)) = ((W.length + 1 + i : Nat) : Int) := by rw [Go.IntWalk.i64_in ((W.length : Int) + 1) (by omega), Go.IntWalk.i64_in _ (by omega)]; omega
 have hof : 0 + (IntKind.i64.wrap (IntKind.i64.wrap ((W.length : Int) + 1) + (i : Int))).toNat * 1 = W.length + 1 + i := by rw [hw2]; omega
 have hb : 0 + (IntKind.i64.wrap (IntKind.i64.wrap ((W.length : Int) + 1) + (i : Int))).toNat * 1 + 1 <= (flat ye (W ++ makeW (kH k X.length) :: (X.take i ++ List.replicate (X.length - i) 0)) ++ junk0).length := by
  rw [hof, zr, yv yq, hWl]; omega
 have hput := hA.put (cl := cl0) (w := x) hj0 (by rw [hWl]; omega) (hok x (zo hxi)) hof
 rw [fill_step hxi] at hput
 have hs0m : s0 ≠ mp := fun e => hmv (by simp [zS, e])
 have hs0a : s0 ≠ ma := hA.na s0 (by simp [zS])
 have hs0x : s0 ≠ sn := fun e => hs8 (by simp [zS, e])
 have hs0q : s0 ∈ mp :: mn ma vW vR ++ zS (V.slice (some (sn, 0)) X.length cap) ++ rn q vB vP vS vC \/ c <= s0 := by
  rcases hn8' s0 (by simp [zS]) with h | h
  ·exact .inl (zh _ (zh _ (zg _ (zh _ (zg _ h)))))
  ·exact .inr (by omega)
 have hput' := hput
 have hsame : ∀ (o : AObj), (V.slice (some (s0, 0)) (W ++ makeW (kH k X.length) :: (X.take i ++ List.replicate (X.length - i) 0)).length (Cap.upTo (0 + 1))) = V.slice (some (s0, 0)) (W ++ makeW (kH k X.length) :: (X.take (i + 1) ++ List.replicate (X.length - (i + 1)) 0)).length (Cap.upTo (0 + 1)) := fun o => by
  congr 1
  rw [hWl]; simp [zr, List.length_take]; omega
 repeat' (first | apply zw | apply zy | apply zz | apply zB | refine zb rfl rfl (fun _ => rfl) ?_ | refine zO rfl rfl (zW rfl rfl rfl hobj' rfl ⟨(by simp [zc] <;> omega), ?_⟩) | refine zO rfl rfl (zW rfl rfl rfl hobjA' rfl ⟨(by simp [zc] <;> omega), ?_⟩) | refine zO rfl rfl (zZ (k := 1) rfl rfl rfl rfl ⟨by omega, by omega⟩ ⟨(by simp [zc] <;> omega), ?_⟩) | refine zO rfl rfl (zW rfl rfl rfl hg' hz ⟨(by simp [zc] <;> omega), ?_⟩) | refine zO rfl rfl (ya (k := 1) rfl rfl rfl rfl hg0 hb rfl ⟨(by intro x hx; simp only [List.mem_cons, List.not_mem_nil, or_false] at hx; rcases hx with rfl | rfl <;> exact hs0q), ?_⟩))
 refine zN (ym (cs := [0, 1, 3, 7, 15, 31, 63, 0, 128, 0, 896, 0, 0, 6144, 14336, 32767, 65535]) (by decide +kernel) ?_) ?_
 ·simp +contextual [jt, apP, Dis, yF, yE, yw, yA, Nat.testBit, hs0m, hs0a, hs0x, Ne.symm hs0m, Ne.symm hs0a, Ne.symm hs0x]
 repeat' (first | apply zx | apply zK | refine za rfl rfl (fun _ => rfl) ?_ | refine zU ?_)
 refine ⟨i + 1, by omega, ?_, by omega, rfl, hput, fun m hm => ?_⟩
 ·rw [hw1]
  exact fr ⟨rfl, rfl, rfl, rfl, rfl, rfl, trivial⟩
 ·rw [zu _ _ _ _ (fun e => hm (by simp [zS, e]))]; exact hf m hm
end
open Go.Ab
section
variable {W R X : List Int} {l : List (Nat × Hd)}
def yX (W : List Int) (l : List (Nat × Hd)) : List Int := l.flatMap (yY W)
theorem gone1_le (W : List Int) (o : Nat × Hd) : (yY W o).length <= 1 := by
 unfold yY; split
 ·split <;> simp
 ·simp
theorem wh {W : List Int} {o : Nat × Hd} (h : ¬ (o.2.kind = 3 /\ 0 < o.2.size)) : yY W o = [] := by
 unfold yY; split
 ·exact if_neg fun hh => h ⟨hh.1, hh.2.1⟩
 ·rfl
theorem hands_le (W : List Int) : ∀ l : List (Nat × Hd), (yX W l).length <= l.length
 | [] => Nat.le_refl _
 | o :: l => by
  have h1 := gone1_le W o
  have h2 := hands_le W l
  show (yY W o ++ yX W l).length <= _
  rw [zr, List.length_cons]; omega
theorem many_app (a b : List Int) (j : Nat) : jd (a ++ b) j = jd a j + jd b j := by
 unfold jd; rw [List.count_append]; push_cast; rfl
theorem hands_split (W R : List Int) (l0 : List (Nat × Hd)) (j : Nat) : ∀ k : List (Nat × Hd), jd (yX W k) j = jd (yx W R l0 k) j + jd (yX W (k.filter fun p => @decide (Reach W l0 R p.1) (Classical.propDecidable _))) j
 | [] => by simp [yX, yx, jd]
 | o :: k => by
  have ih := hands_split W R l0 j k
  have e : yX W (o :: k) = yY W o ++ yX W k := rfl
  by_cases hr : Reach W l0 R o.1
  ·have e1 : yx W R l0 (o :: k) = yx W R l0 k := by
    unfold yx; rw [List.filter_cons]; simp [hr]
   have e2 : (o :: k).filter (fun p => @decide (Reach W l0 R p.1) (Classical.propDecidable _)) = o :: k.filter fun p => @decide (Reach W l0 R p.1) (Classical.propDecidable _) := by
    rw [List.filter_cons]; simp [hr]
   rw [e, e1, e2, many_app, ih]
   have e3 : yX W (o :: k.filter fun p => @decide (Reach W l0 R p.1) (Classical.propDecidable _)) = yY W o ++ yX W (k.filter fun p => @decide (Reach W l0 R p.1) (Classical.propDecidable _)) := rfl
   rw [e3, many_app]; omega
  ·have e1 : yx W R l0 (o :: k) = yY W o ++ yx W R l0 k := by
    unfold yx; rw [List.filter_cons]; simp [hr]
   have e2 : (o :: k).filter (fun p => @decide (Reach W l0 R p.1) (Classical.propDecidable _)) = k.filter fun p => @decide (Reach W l0 R p.1) (Classical.propDecidable _) := by
    rw [List.filter_cons]; simp [hr]
   rw [e, e1, e2, many_app, many_app, ih]; omega
theorem gone_sub {g : Int} (h : g ∈ yx W R l l) : g ∈ yX W l := by
 unfold yx at h
 obtain ⟨o, ho, hg⟩ := List.mem_flatMap.1 h
 exact List.mem_flatMap.2 ⟨o, (List.mem_filter.1 ho).1, hg⟩
theorem gone_le : (yx W R l l).length <= l.length := by
 have h : yx W R l l = yX W (l.filter fun p => !@decide (Reach W l R p.1) (Classical.propDecidable _)) := rfl
 rw [h]
 have h1 := hands_le W (l.filter fun p => !@decide (Reach W l R p.1) (Classical.propDecidable _))
 have h2 := List.length_filter_le (fun p : Nat × Hd => !@decide (Reach W l R p.1) (Classical.propDecidable _)) l
 omega
theorem hands_slid (so : SoundW W R l) : yX (yh W R l (zX W l R)) (newL W R l) = yX W (zX W l R) := by
 unfold yX newL
 rw [List.flatMap_map]
 have key : ∀ o ∈ zX W l R, yY (yh W R l (zX W l R)) (newPos (zX W l R) o.1, o.2) = yY W o := fun o ho => by
  obtain ⟨p, x⟩ := o
  by_cases hk : x.kind = 3 /\ 0 < x.size
  case neg => rw [wh hk, wh hk]
  obtain ⟨_, _, _, hok, hsz⟩ := live_head so ho
  have hf : yc x = 0 := by
   unfold yc
   rw [if_neg (by rw [hk.1]; decide), if_neg (by rw [hk.1]; decide)]
  obtain ⟨w, hw⟩ : ∃ w, W[p + 1]? = some w := ⟨_, zp (by omega)⟩
  have h1 := (kI so ho (j := 1) (by omega)).1
  rw [fin_raw so ho (by omega) (by omega) (by omega) hw] at h1
  unfold yY
  rw [show W[(p, x).1 + 1]? = some w from hw, show (yh W R l (zX W l R))[(newPos (zX W l R) (p, x).1, (p, x).2).1 + 1]? = some w from h1]
 have : ∀ L : List (Nat × Hd), (∀ o ∈ L, o ∈ zX W l R) -> L.flatMap (fun o => yY (yh W R l (zX W l R)) (newPos (zX W l R) o.1, o.2)) = L.flatMap (yY W) := by
  intro L
  induction L with
  | nil => intro _; rfl
  | cons o L ih =>
   intro h
   rw [List.flatMap_cons, List.flatMap_cons, key o (h o (zq ..)), ih fun z hz => h z (zg _ hz)]
 exact this _ fun o ho => ho
theorem hands_after (so : SoundW W R l) (j : Nat) : jd (yX W l) j = jd (yx W R l l) j + jd (yX (yh W R l (zX W l R)) (newL W R l)) j := by
 rw [hands_slid so]; exact hands_split W R l j l
theorem hands_sub (so : SoundW W R l) {g : Int} (h : g ∈ yX (yh W R l (zX W l R)) (newL W R l)) : g ∈ yX W l := by
 rw [hands_slid so] at h
 obtain ⟨o, ho, hg⟩ := List.mem_flatMap.1 h
 exact List.mem_flatMap.2 ⟨o, (jN.1 ho).1, hg⟩
theorem newL_le : (newL W R l).length <= l.length := by
 unfold newL
 rw [List.length_map]
 exact List.length_filter_le _ _
def handN (x : Hd) (X : List Int) : List Int := match X[0]? with
 | some w => if x.kind = 3 /\ 0 < x.size /\ w ≠ 0 then [IntKind.i64.wrap w] else []
 | none => []
theorem hands_made (so : ObjsFrom W 0 l) {x : Hd} : yX (W ++ makeW x :: X) (l ++ [(W.length, x)]) = yX W l ++ handN x X := by
 unfold yX
 rw [List.flatMap_append]
 congr 1
 ·have key : ∀ o ∈ l, yY (W ++ makeW x :: X) o = yY W o := fun o ho => by
   obtain ⟨p, y⟩ := o
   by_cases hk : y.kind = 3 /\ 0 < y.size
   case neg => rw [wh hk, wh hk]
   obtain ⟨i, w, ei, hw, hr, hsz, hok⟩ := yJ (so.mem _ ho).2
   have ei : ((p : Nat) : Int) = i := ei
   have hsz : (i : Int) + 1 + y.size <= W.length := hsz
   unfold yY
   rw [show (W ++ makeW x :: X)[(p, y).1 + 1]? = W[(p, y).1 + 1]? from List.getElem?_append_left (by show p + 1 < W.length; omega)]
  have : ∀ L : List (Nat × Hd), (∀ o ∈ L, o ∈ l) -> L.flatMap (yY (W ++ makeW x :: X)) = L.flatMap (yY W) := by
   intro L
   induction L with
   | nil => intro _; rfl
   | cons o L ih =>
    intro h
    rw [List.flatMap_cons, List.flatMap_cons, key o (h o (zq ..)), ih fun z hz => h z (zg _ hz)]
  exact this _ fun o ho => ho
 ·rw [List.flatMap_cons, List.flatMap_nil, List.append_nil]
  unfold yY handN
  have e : (W ++ makeW x :: X)[W.length + 1]? = X[0]? := by
   rw [List.getElem?_append_right (by omega), show W.length + 1 - W.length = 1 from by omega]; rfl
  show (match (W ++ makeW x :: X)[W.length + 1]? with | some w => _ | none => _) = _
  rw [e]
structure Cnts (rows : List (Int × Int × Int)) (hs : List Int) : Prop where
 three : rows.length = 3
 cnt : ∀ (j : Nat) (q : Int × Int × Int), rows[j]? = some q -> q.2.2 = 1 + jd hs j
def HandsOk (hs : List Int) : Prop := ∀ g ∈ hs, ∃ i : Nat, i < 3 /\ g = ((i + 1 : Nat) : Int)
theorem many_len (hs : List Int) (j : Nat) : 0 <= jd hs j /\ jd hs j <= hs.length := by
 unfold jd
 have := List.count_le_length (a := (((j + 1 : Nat) : Int))) (l := hs)
 omega
theorem Cnts.row {rows : List (Int × Int × Int)} {hs : List Int} (r : Cnts rows hs) {j : Nat} (hj : j < 3) : ∃ q, rows[j]? = some q /\ q.2.2 = 1 + jd hs j := by
 obtain ⟨q, hq⟩ : ∃ q, rows[j]? = some q := ⟨_, zp (by rw [r.three]; exact hj)⟩
 exact ⟨q, hq, r.cnt j q hq⟩
theorem Cnts.moved {rows rows' : List (Int × Int × Int)} {hs hs' g : List Int} (r : Cnts rows hs) (m : Moved rows rows' fun j => - jd g j) (h : ∀ j, jd hs j = jd g j + jd hs' j) : Cnts rows' hs' := by
 refine ⟨m.1.trans r.three, fun j q hq => ?_⟩
 have hj := (zj hq).1
 rw [m.1, r.three] at hj
 obtain ⟨q0, hq0, e⟩ := r.row hj
 have h1 := m.2 j q0 hq0
 rw [hq] at h1
 cases h1
 have := h j
 show q0.2.2 + - jd g j = _
 omega
theorem Cnts.more {rows : List (Int × Int × Int)} {hs : List Int} {i : Nat} {q : Int × Int × Int} (r : Cnts rows hs) (hq : rows[i]? = some q) : Cnts (rows.set i (q.1, q.2.1, q.2.2 + 1)) (hs ++ [((i + 1 : Nat) : Int)]) := by
 have e := r.cnt i q hq
 refine ⟨by rw [List.length_set]; exact r.three, fun j y hy => ?_⟩
 rw [many_snoc]
 by_cases hij : j = i
 ·subst hij
  have hi := (zj hq).1
  rw [List.getElem?_set_self hi] at hy
  cases hy
  rw [if_pos rfl]
  show q.2.2 + 1 = _
  omega
 ·rw [List.getElem?_set_ne (Ne.symm hij)] at hy
  rw [if_neg hij, Int.add_zero]
  exact r.cnt j y hy
theorem kj {rows : List (Int × Int × Int)} (r : Cnts rows (yX W l)) (ho : HandsOk (yX W l)) (hl : l.length <= 1000) (so : SoundW W R l) :
  (∀ g ∈ yx W R l l, ∃ i : Nat, g = ((i + 1 : Nat) : Int) /\ ∃ q, rows[i]? = some q) /\ (∀ i q, rows[i]? = some q -> jd (yx W R l l) i < q.2.2 /\ q.2.2 <= 1000000) /\ (yx W R l l).length <= 1000000 := by
 refine ⟨fun g hg => ?_, fun i q hq => ?_, ?_⟩
 ·obtain ⟨i, hi, rfl⟩ := ho g (gone_sub hg)
  obtain ⟨q, hq, _⟩ := r.row hi
  exact ⟨i, rfl, q, hq⟩
 ·have e := r.cnt i q hq
  have h1 := hands_after so i
  have h2 := many_len (yX (yh W R l (zX W l R)) (newL W R l)) i
  have h3 := many_len (yX W l) i
  have h4 := hands_le W l
  omega
 ·have := gone_le (W := W) (R := R) (l := l); omega
end
open Go.Ab
section
variable {h h' : HH} {c c' a : Nat} {vW v1 v2 : V} {W X : List Int} {size : Int}
def ReadsW (h : HH) (c : Nat) (v : V) (X : List Int) : Prop := ∃ b cap, v = .slice b X.length cap /\ ∀ i, i < X.length -> ∃ m cl junk, b = some (m, 0) /\ m < c /\ MapI.get h m = some (.cells true cl (flat ye X ++ junk))
theorem RowOf.reads (r : RowOf 1 ye h c v1 X) : ReadsW h c v1 X := r.shape
theorem same_ok (r1 : ReadsW h c v1 X) (r2 : ReadsW h c v2 X) (hX : X.length <= 1000000000) : DoesR 20 [v1, v2] h c (zS v1 ++ zS v2) fun v h' c' => v = .bool true /\ h = h' /\ c = c' := by
 obtain ⟨b1, cap1, rfl, hs1⟩ := r1
 obtain ⟨b2, cap2, rfl, hs2⟩ := r2
 have e1 : ((X.length : Int) != (X.length : Int)) = false := by simp
 refine yN (enter (fn := Tryz.f20) Tryz.func20 rfl rfl (zf rfl) ?_)
 repeat' (first | apply zw | apply zx | apply zK | refine za rfl rfl (fun _ => rfl) ?_ | refine zU ?_)
 refine zH rfl (fun hb => by rw [e1] at hb; cases hb) (fun _ => ?_)
 repeat' (first | apply zw | apply zx | apply zz | apply zB | apply zK | refine za rfl rfl (fun _ => rfl) ?_)
 refine zI ?_
 refine zQ (X := Nat) (fun i e' h' c' => (∃ b0, e' = FR b0 [(0, .slice b1 X.length cap1), (1, .slice b2 X.length cap2), (5, I i)]) /\ i <= X.length /\ h = h' /\ c = c')
  (fun i => X.length - i) ?_ 0 _ _ _ ⟨fr ⟨rfl, rfl, rfl, trivial⟩, Nat.zero_le _, rfl, rfl⟩
 rintro i e' h' c' ⟨⟨b0, rfl⟩, hi, rfl, rfl⟩
 repeat' (first | apply zw | apply zx | apply zK | refine za rfl rfl (fun _ => rfl) ?_ | refine zU ?_)
 refine zH rfl (fun hlt => ?_) (fun hge => ?_)
 case refine_2 =>
  repeat' (first | apply zw | apply zx | apply zF | apply zG | apply zK | refine za rfl rfl (fun _ => rfl) ?_)
  exact z6 rfl ⟨rfl, rfl, rfl⟩
 have hlt : i < X.length := by simpa using hlt
 obtain ⟨x, hx⟩ : ∃ z, X[i]? = some z := ⟨_, zp hlt⟩
 obtain ⟨m1, cl1, junk1, rfl, hm1, hg1⟩ := hs1 i hlt
 obtain ⟨m2, cl2, junk2, rfl, hm2, hg2⟩ := hs2 i hlt
 have hz1 : nth (flat ye X ++ junk1) (0 + ((i : Nat) : Int).toNat * 1) = some (U x) := by
  rw [show 0 + ((i : Nat) : Int).toNat * 1 = i from by simp]
  exact yB yq hx rfl junk1
 have hz2 : nth (flat ye X ++ junk2) (0 + ((i : Nat) : Int).toNat * 1) = some (U x) := by
  rw [show 0 + ((i : Nat) : Int).toNat * 1 = i from by simp]
  exact yB yq hx rfl junk2
 have hw1 : IntKind.i64.wrap ((i : Int) + 1) = ((i + 1 : Nat) : Int) := by rw [Go.IntWalk.i64_in _ (by omega)]; omega
 have e2 : (x != x) = false := by simp
 repeat' (first | apply zw | apply zy | apply zz | apply zB | refine zb rfl rfl (fun _ => rfl) ?_ | refine zO rfl rfl (zZ (k := 1) rfl rfl rfl rfl ⟨by omega, by omega⟩ ⟨(by simp [InR, Acc.name, Acc.writes, zS] <;> omega), ?_⟩) | refine zO rfl rfl (zW rfl rfl rfl hg1 hz1 ⟨(by simp [InR, Acc.name, Acc.writes, zS] <;> omega), ?_⟩) | refine zO rfl rfl (zW rfl rfl rfl hg2 hz2 ⟨(by simp [InR, Acc.name, Acc.writes, zS] <;> omega), ?_⟩))
 refine zN (ym (cs := [0, 0, 3, 7, 0, 0, 48, 112, 255]) (by decide +kernel) ?_) ?_
 ·simp +contextual [jt, apP, Dis, yF, yE, yw, yA, Nat.testBit]
 refine zH rfl (fun hb => by rw [e2] at hb; cases hb) (fun _ => ?_)
 repeat' (first | apply zx | apply zz | apply zK | refine za rfl rfl (fun _ => rfl) ?_ | refine zU ?_)
 refine ⟨i + 1, by omega, ?_, by omega, rfl, rfl⟩
 rw [hw1]
 exact fr ⟨rfl, rfl, rfl, trivial⟩
end
open Go.Ab
section
variable {e : EE} {h : HH} {c : Nat} {ds : Option Tmp} {ty : Nat} {pos : String} {af : Array Edge} {gd : Option (Nat × Bool)} {K : V -> HH -> Nat -> List Acc -> Prop} {call : Nat -> Tgt -> List V -> M HH V}
theorem op_rem {t u : Nat} {x y : Operand} {k : IntKind} {a b : Int} (hx : ev1 cx e x = some (.int k a)) (hy : ev1 cx e y = some (.int k b)) (hb : b ≠ 0) (q : K (.int k (a.tmod b)) h c []) :
  WpX (fun n => opM cx (call n) e ⟨ds, .binOp .rem t x y u, ty, pos, af, gd⟩) h c K :=
 zT (fun k' => by
  have e1 : intBin .rem k a b = some (.int k (a.tmod b)) := by unfold intBin; exact if_neg hb
  simp only [opM, hx, hy, lift, bnd, Ab.ret, binM, if_true, e1, List.nil_append, List.append_nil]) q
end
section
variable {h h' : HH} {c c' a : Nat} {vR : V} {R X : List Int}
theorem rfits_noR {n : Int} (hn : ¬ jD n) : DoesR 55 [I n] h c [] fun v h' c' => v = .bool false /\ h = h' /\ c = c' := by
 unfold jD at hn
 refine yN (enter (fn := Tryz.f55) Tryz.func55 rfl rfl (zf rfl) ?_)
 cases e1 : decide (n >= -576460752303423488) with
 | false =>
  repeat' (first | apply zw | apply zx | apply zK | refine za rfl rfl (fun _ => rfl) ?_)
  simp only [e1]
  repeat' (first | apply zG | apply zK | refine za rfl rfl (fun _ => rfl) ?_ | refine zM rfl rfl ?_)
  exact z6 rfl ⟨rfl, rfl, rfl⟩
 | true =>
  have e1' := of_decide_eq_true e1
  have e2 : decide (n <= 576460752303423487) = false := decide_eq_false (by omega)
  repeat' (first | apply zw | apply zx | apply zK | refine za rfl rfl (fun _ => rfl) ?_)
  simp only [e1]
  repeat' (first | apply zG | apply zK | refine za rfl rfl (fun _ => rfl) ?_)
  refine z6 rfl ⟨?_, rfl, rfl⟩
  show V.bool (decide (n <= 576460752303423487)) = _
  rw [e2]
theorem rof_smallR {n : Int} : DoesR 32 [I 0, I n] h c [] fun v h' c' => (∃ w, v = U w /\ okW w /\ (yL w ≠ 5 /\ yL w ≠ 6 /\ yL w ≠ 7)) /\ h = h' /\ c = c' := by
 by_cases hn : jD n
 ·refine WpX.mono (qU (t := 0) (by omega) hn) fun v h' c' l ⟨a1, a2, a3, hv, e1, e2⟩ => ⟨a1, a2, a3, ⟨_, hv, kS ⟨by decide, by decide⟩, ?_⟩, e1, e2⟩
  rw [tag_of ⟨by decide, by decide⟩]
  exact ⟨by decide, by decide, by decide⟩
 refine yN (enter (fn := Tryz.f32) Tryz.func32 rfl rfl (zf rfl) ?_)
 repeat' (first | apply zw | apply zx | apply zK | refine za rfl rfl (fun _ => rfl) ?_)
 refine zL rfl rfl (yZ rfl (rfits_noR hn) (fun x hx => by cases hx) (Nat.le_refl _) fun v h4 c4 hc4 hfr4 hq => ?_)
 obtain ⟨rfl, rfl, rfl⟩ := hq
 repeat' (first | apply zK | refine za rfl rfl (fun _ => rfl) ?_ | refine zU ?_)
 refine ze rfl ?_
 repeat' (first | apply zw | apply zx | apply zG | apply zK | refine za rfl rfl (fun _ => rfl) ?_ | refine yn ?_)
 exact z6 rfl ⟨⟨4, rfl, ⟨by decide, by decide⟩, by decide, by decide, by decide⟩, rfl, rfl⟩
structure FieldsX (k : Int) (R X : List Int) : Prop where
 len : X.length <= 50
 ok : ∀ w ∈ X, okW w
 bin : k = 3 -> ∃ b : Nat, b <= 4 /\ X[0]? = some ((b : Nat) : Int)
 cons : k = 0 -> X.length = 2
 flds : k ≠ 2 -> k ≠ 3 -> ∀ w ∈ X, w ∈ R \/ (yL w ≠ 5 /\ yL w ≠ 6 /\ yL w ≠ 7)
set_option maxHeartbeats 2000000 in
theorem fields_ok {d0 k sz n : Int} (rr : RowOf 1 ye h c vR R) (hRok : ∀ w ∈ R, okW w) (hRl : R.length <= 1000) (hsz : -1 <= sz /\ sz <= 50) :
  Does 11 [.agg [I d0, I k, I sz, I n], vR] h c (zS vR) fun v h' c' => ∃ X, RowOf 1 ye h' c' v X /\ (∀ m ∈ zS v, c <= m) /\ FieldsX k R X /\ ∀ m, m < c -> MapI.get h' m = MapI.get h m := by
 obtain ⟨sR, capR, rfl, hsR⟩ := rr.shape
 have hlt := rr.lt
 obtain ⟨m0, hm0⟩ : ∃ m0 : Nat, ((m0 : Nat) : Int) = max sz 0 := ⟨(max sz 0).toNat, by omega⟩
 have hm1 : m0 <= 50 := by omega
 have e1 : (if (0 : Int) > sz then 0 else sz) = ((m0 : Nat) : Int) := by rw [hm0]; split <;> omega
 have hg : ∀ {o : AObj}, MapI.get (MapI.set h c o) c = some o := zt _ _ _
 refine yi (enter (fn := Tryz.f11) Tryz.func11 rfl rfl (zf rfl) ?_)
 by_cases k3 : k = 3
 ·subst k3
  repeat' (first | refine zL rfl rfl (op_max rfl e1 ⟨zV, ?_⟩) | apply zw | apply zx | apply zB | apply zK | refine za rfl rfl (fun _ => rfl) ?_ | refine zU ?_ | refine zL rfl rfl (yK rfl ⟨(by simp [zc] <;> omega), ?_⟩) | refine zL rfl rfl (zW rfl rfl rfl hg rfl ⟨(by simp [zc] <;> omega), ?_⟩))
  refine ze rfl ?_
  repeat' (first | apply zw | apply zx | apply zG | apply zK | refine za rfl rfl (fun _ => rfl) ?_ | refine yn ?_ | refine qr ?_ | refine zL rfl rfl (yy (k := 1) rfl rfl rfl rfl (by decide) rfl ⟨(by simp [zc] <;> omega), ?_⟩))
  have w5 : IntKind.u64.wrap ((m0 : Int).tmod 5) = ((m0 % 5 : Nat) : Int) := by
   rw [show (m0 : Int).tmod 5 = ((m0 % 5 : Nat) : Int) from rfl, gm]; omega
  refine z6 rfl ⟨[IntKind.u64.wrap ((m0 : Int).tmod 5), 0, 1], ?_, fun m hm => ?_, ⟨(by show 3 <= 50; decide), fun w hw => ?_, fun _ => ⟨m0 % 5, by omega, by rw [w5]; rfl⟩, (fun e => by cases e), fun _ e => absurd rfl e⟩, fun m hm => ?_⟩
  ·exact ⟨some (c + 1, 0), .known 3, rfl, fun n hn => (by have hn : n ∈ [c + 1] := hn; simp at hn; omega), fun _ => ⟨c + 1, true, [], rfl, by rw [zt]; rfl, rfl⟩⟩
  ·have hm : m ∈ [c + 1] := hm
   simp at hm; omega
  ·simp only [List.mem_cons, List.not_mem_nil, or_false] at hw
   rcases hw with rfl | rfl | rfl
   ·rw [w5]; exact ⟨by omega, by omega⟩
   ·exact ⟨by decide, by decide⟩
   ·exact ⟨by decide, by decide⟩
  ·rw [zu _ _ _ _ (by omega)]; exact zu _ _ _ _ (by omega)
 have k3' : (k == 3) = false := by simpa using k3
 have hgd : MapI.get (MapI.set h c (.cells true true [I d0, I k, I sz, I n])) c = some (.cells true true [I d0, I k, I sz, I n]) := zt _ _ _
 repeat' (first | refine zL rfl rfl (op_max rfl e1 ⟨zV, ?_⟩) | refine zJ (a := Code.seq (Code.region 3 _ _) _) (fun e' h' c' => ∃ cnt : Nat, (∃ b0, e' = FR b0 [(1, .slice sR R.length capR), (2, V.ptr (some (c, 0))), (5, .slice none 0 (.known 0)), (6, I cnt)]) /\ cnt <= 50 /\ (k = 0 -> cnt = 2) /\ MapI.set h c (.cells true true [I d0, I k, I sz, I n]) = h' /\ c + 1 = c') ?_ ?_ | apply zw | apply zx | apply zB | apply zK | refine za rfl rfl (fun _ => rfl) ?_ | refine zU ?_ | refine zL rfl rfl (yK rfl ⟨(by simp [zc] <;> omega), ?_⟩) | refine zL rfl rfl (zW rfl rfl rfl hgd rfl ⟨(by simp [zc] <;> omega), ?_⟩))
 ·
  skip
  refine zH rfl (fun hb => by rw [show (k == 3) = false from k3'] at hb; cases hb) (fun _ => ?_)
  repeat' (first | apply zw | apply zx | apply zK | refine za rfl rfl (fun _ => rfl) ?_ | refine zU ?_)
  refine zH rfl (fun hb => ?_) (fun hb => ?_)
  ·have hb : k = 0 := by simpa using hb
   repeat' (first | apply zx | apply zK | refine za rfl rfl (fun _ => rfl) ?_ | refine zU ?_ | refine js ?_)
   exact ⟨2, fr ⟨rfl, rfl, rfl, rfl, trivial⟩, by decide, fun _ => rfl, rfl, rfl⟩
  ·have hb : ¬ k = 0 := by simpa using hb
   repeat' (first | apply zz | refine zU ?_ | refine js ?_)
   exact ⟨m0, fr ⟨rfl, rfl, rfl, rfl, trivial⟩, hm1, fun e => absurd e hb, rfl, rfl⟩
 rintro e' h1 c1 ⟨cnt, ⟨b0, rfl⟩, hcnt, hc0, rfl, rfl⟩
 repeat' (first | apply zw | apply zx | apply zB | apply zK | refine za rfl rfl (fun _ => rfl) ?_)
 refine zI ?_
 refine zQ (X := Nat × V × List Int) (fun y e' h' c' => (∃ b0, e' = FR b0 [(1, .slice sR R.length capR), (2, V.ptr (some (c, 0))), (5, y.2.1), (6, I cnt), (7, I y.1)]) /\ y.1 <= cnt /\ c + 1 <= c' /\ y.2.2.length = y.1 /\ ListOf (0 + 1) ye h' c' y.2.1 y.2.2 /\ (∀ m ∈ zS y.2.1, c + 1 <= m) /\ (∀ m, m < c + 1 -> MapI.get h' m = MapI.get (MapI.set h c (.cells true true [I d0, I k, I sz, I n])) m) /\ (∀ w ∈ y.2.2, okW w) /\ (k ≠ 2 -> k ≠ 3 -> ∀ w ∈ y.2.2, w ∈ R \/ (yL w ≠ 5 /\ yL w ≠ 6 /\ yL w ≠ 7)))
  (fun y => cnt - y.1) ?_ (0, .slice none 0 (.known 0), []) _ _ _ ⟨fr ⟨rfl, rfl, rfl, rfl, rfl, trivial⟩, Nat.zero_le _, Nat.le_refl _, rfl, .nil, (fun m hm => by cases hm), fun m _ => rfl, (fun w hw => by cases hw), fun _ _ w hw => by cases hw⟩
 rintro ⟨i, vX, X⟩ e' h' c' ⟨⟨b1, rfl⟩, hi, hc', hXl, hX, hXn, hf, hXok, hXf⟩
 simp only at hi hXl hX hXn hXok hXf
 have hgd' : MapI.get h' c = _ := (hf c (by omega)).trans hgd
 repeat' (first | apply zw | apply zx | apply zK | refine za rfl rfl (fun _ => rfl) ?_ | refine zU ?_)
 refine zH rfl (fun hlt2 => ?_) (fun hge => ?_)
 case refine_2 =>
  have hge : cnt <= i := by simpa using hge
  have hie : i = cnt := by omega
  repeat' (first | apply zw | apply zx | apply zF | apply zG | apply zK | refine za rfl rfl (fun _ => rfl) ?_)
  exact z6 rfl ⟨X, hX.row, fun m hm => by have := hXn m hm; omega, ⟨by omega, hXok, fun e => absurd e k3, fun e => by rw [hXl, hie]; exact hc0 e, hXf⟩, fun m hm => by rw [hf m (by omega)]; exact zu _ _ _ _ (by omega)⟩
 have hlt2 : i < cnt := by simpa using hlt2
 have hw1 : IntKind.i64.wrap ((i : Int) + 1) = ((i + 1 : Nat) : Int) := by rw [Go.IntWalk.i64_in _ (by omega)]; omega
 have ws : IntKind.i64.wrap (sz + (i : Int)) = sz + i := Go.IntWalk.i64_in _ (by omega)
 repeat' (first | apply zw | apply zx | apply zz | apply zB | refine za rfl rfl (fun _ => rfl) ?_ | refine zL rfl rfl (zW rfl rfl rfl hgd' rfl ⟨(by simp [zc] <;> omega), ?_⟩))
 refine zL rfl rfl (yg rfl rof_smallR (fun x hx => by cases hx) (by omega) fun v4 h4 c4 hc4 _ hq => ?_)
 obtain ⟨⟨w0, rfl, hw0, hw0t⟩, rfl, rfl⟩ := hq
 repeat' (first | refine zJ (a := Code.seq (Code.region 12 _ _) _) (fun e2 h2 c2 => ∃ w, (∃ b0, e2 = FR b0 [(1, .slice sR R.length capR), (2, V.ptr (some (c, 0))), (5, vX), (6, I cnt), (7, I i), (8, U w)]) /\ h' = h2 /\ c' = c2 /\ okW w /\ (k ≠ 2 -> k ≠ 3 -> w ∈ R \/ (yL w ≠ 5 /\ yL w ≠ 6 /\ yL w ≠ 7))) ?_ ?_ | apply zw | apply zx | apply zK | refine za rfl rfl (fun _ => rfl) ?_)
 ·
  repeat' (first | apply zK | refine za rfl rfl (fun _ => rfl) ?_ | refine zU ?_ | refine zL rfl rfl (zW rfl rfl rfl hgd' rfl ⟨(by simp [zc] <;> omega), ?_⟩))
  refine zH rfl (fun hb => ?_) (fun hb => ?_)
  ·have hb : k = 2 := by simpa using hb
   repeat' (first | apply zx | apply zK | refine za rfl rfl (fun _ => rfl) ?_ | refine zU ?_)
   refine ⟨IntKind.u64.wrap (i : Int), fr ⟨rfl, rfl, rfl, rfl, rfl, rfl, trivial⟩, rfl, rfl, ?_, fun e => absurd hb e⟩
   rw [gm]; exact ⟨by omega, by omega⟩
  have stay : ∃ w, (∃ b0 : EE, FR b0 [(1, .slice sR R.length capR), (2, V.ptr (some (c, 0))), (5, vX), (6, I cnt), (7, I i), (8, U w)] = FR b0 [(1, .slice sR R.length capR), (2, V.ptr (some (c, 0))), (5, vX), (6, I cnt), (7, I i), (8, U w)]) /\ w = w0 := ⟨w0, ⟨b1, rfl⟩, rfl⟩
  cases e2 : decide ((R.length : Int) > 0) with
  | false =>
   repeat' (first | apply zw | apply zx | refine za rfl rfl (fun _ => rfl) ?_)
   simp only [e2]
   repeat' (first | apply zK | refine za rfl rfl (fun _ => rfl) ?_ | refine zM rfl rfl ?_ | refine zU ?_)
   refine zd rfl ?_
   repeat' (first | apply zz | refine zU ?_)
   exact ⟨w0, fr ⟨rfl, rfl, rfl, rfl, rfl, rfl, trivial⟩, rfl, rfl, hw0, fun _ _ => .inr hw0t⟩
  | true =>
   have e2' := of_decide_eq_true e2
   repeat' (first | apply zw | apply zx | refine za rfl rfl (fun _ => rfl) ?_)
   simp only [e2]
   repeat' (first | apply zK | refine za rfl rfl (fun _ => rfl) ?_ | refine zU ?_ | refine zL rfl rfl (zW rfl rfl rfl hgd' rfl ⟨(by simp [zc] <;> omega), ?_⟩))
   refine zH rfl (fun hev => ?_) (fun hev => ?_)
   case refine_2 =>
    repeat' (first | apply zz | refine zU ?_)
    exact ⟨w0, fr ⟨rfl, rfl, rfl, rfl, rfl, rfl, trivial⟩, rfl, rfl, hw0, fun _ _ => .inr hw0t⟩
   have hev : ((IntKind.i64.wrap (sz + (i : Int))).tmod 2 == 0) = true := hev
   rw [ws, beq_iff_eq] at hev
   obtain ⟨t, ht⟩ : ∃ t : Nat, sz + (i : Int) = t := by
    by_cases hneg : sz + (i : Int) = -1
    ·rw [hneg] at hev; exact absurd hev (by decide)
    ·exact ⟨(sz + (i : Int)).toNat, by omega⟩
   have hjl : t % R.length < R.length := Nat.mod_lt _ (by omega)
   have wj : (IntKind.i64.wrap (sz + (i : Int))).tmod (R.length : Int) = ((t % R.length : Nat) : Int) := by rw [ws, ht]; rfl
   obtain ⟨w, hw⟩ : ∃ w, R[t % R.length]? = some w := ⟨_, zp hjl⟩
   obtain ⟨sn, cl, junk, rfl, hsn, hg⟩ := hsR _ hjl
   have hg' : MapI.get h' sn = _ := (hf sn (by omega)).trans ((zu _ _ _ _ (by omega)).trans hg)
   have hz : nth (flat ye R ++ junk) (0 + ((IntKind.i64.wrap (sz + (i : Int))).tmod (R.length : Int)).toNat * 1) = some (U w) := by
    rw [wj, show 0 + ((t % R.length : Nat) : Int).toNat * 1 = t % R.length from by omega]
    exact yB yq hw rfl junk
   have hne0 : (R.length : Int) ≠ 0 := by omega
   have hcw : c <= c' := by omega
   repeat' (first | apply zx | apply zK | refine za rfl rfl (fun _ => rfl) ?_ | refine zU ?_ | refine zL rfl rfl (zW rfl rfl rfl hgd' rfl ⟨(by simp [zc] <;> omega), ?_⟩) | refine zL rfl rfl (op_rem rfl rfl hne0 ⟨(by simp [zc] <;> omega), ?_⟩) | refine zL rfl rfl (zZ (k := 1) rfl rfl rfl rfl ⟨by rw [wj]; omega, by rw [wj]; omega⟩ ⟨(by simp [zc] <;> omega), ?_⟩) | refine zL rfl rfl (zW rfl rfl rfl hg' hz ⟨(by simp [zc] <;> omega), ?_⟩))
   exact ⟨w, fr ⟨rfl, rfl, rfl, rfl, rfl, rfl, trivial⟩, rfl, rfl, hRok w (zo hw), fun _ _ => .inl (zo hw)⟩
 rintro e2 h2 c2 ⟨w, ⟨b2, rfl⟩, rfl, rfl, hwok, hwf⟩
 have hX7 : ∀ {z : AObj}, ListOf (0 + 1) ye (MapI.set h' c' z) (c' + 1) vX X := fun {z} => hX.keep (by omega) fun m hm _ => zu _ _ _ _ (by omega)
 repeat' (first | apply zx | refine za rfl rfl (fun _ => rfl) ?_ | refine zL rfl rfl (yy (k := 1) rfl rfl rfl rfl (by decide) rfl ⟨(by simp [zc] <;> omega), ?_⟩))
 refine zL rfl rfl (qC (cells := ye) (y := w) rfl rfl ⟨rfl, rfl, rfl, ⟨_, rfl, by decide⟩⟩ rfl yq jx hX7 (zt _ _ _) (by omega) (by omega) (fun m hm => .inr (by have := hXn m hm; omega)) (by omega) fun v8 h8 c8 rv8 hn8 hc8 hf8 => ?_)
 repeat' (first | apply zx | apply zK | refine za rfl rfl (fun _ => rfl) ?_ | refine zU ?_)
 refine ⟨(i + 1, v8, X ++ [w]), by simp only; omega, ?_, by simp only; omega, by omega, by simp [hXl], rv8, fun m hm => ?_, fun m hm => ?_, fun x hx => ?_, fun e3 e4 x hx => ?_⟩
 ·rw [hw1]
  exact fr ⟨rfl, rfl, rfl, rfl, rfl, trivial⟩
 ·rcases hn8 m hm with h | h
  ·exact hXn m h
  ·omega
 ·rw [hf8 m (by omega) (fun hh => by have := hXn m hh; omega), zu _ _ _ _ (by omega)]; exact hf m hm
 ·rcases zk hx with h | h
  ·exact hXok x h
  ·rw [zm h]; exact hwok
 ·rcases zk hx with h | h
  ·exact hXf e3 e4 x h
  ·rw [zm h]; exact hwf e3 e4
end
open Go.Ab
def Sized (rows : List R3) : Prop := ∀ (i : Nat) (x : R3), rows[i]? = some x -> x.2.2 > 0 -> 0 <= x.2.1 /\ x.2.1 <= 10000000
theorem tot_snoc {rows : List R3} {i : Nat} {x : R3} (h : rows[i]? = some x) : tot (rows.take (i + 1)) = tot (rows.take i) + (if x.2.2 > 0 then x.2.1 else 0) := by
 rw [ql h, tot_append]
 simp [tot]
theorem tot_bound {rows : List R3} (hs : Sized rows) : ∀ i, i <= rows.length -> 0 <= tot (rows.take i) /\ tot (rows.take i) <= (i : Int) * 10000000
 | 0, _ => by simp [tot]
 | i + 1, h => by
  have ih := tot_bound hs i (by omega)
  obtain ⟨x, hx⟩ : ∃ x, rows[i]? = some x := ⟨_, zp (by omega)⟩
  rw [tot_snoc hx]
  split
  ·next hp => have := hs i x hx hp; omega
  ·omega
theorem rliveR {h : HH} {c q : Nat} {vB vP vS vC : V} {st : St} (r : RefAt h c q vB vP vS vC st) (hlen : st.rows.length <= 1000) (hsz : Sized st.rows) :
  DoesR 30 [.ptr (some (q, 0))] h c (rn q vB vP vS vC) fun v h' c' => h' = h /\ c' = c /\ v = I (tot st.rows) := by
 have hobj := r.obj
 obtain ⟨s, cap, rfl, hs⟩ := r.ct.shapeN (List.length_map _)
 obtain ⟨s2, cap2, rfl, hs2⟩ := r.sz.shapeN (List.length_map _)
 refine yN (enter (fn := Tryz.f30) Tryz.func30 rfl rfl (zf rfl) ?_)
 repeat' (first | apply zw | apply zx | apply zB | apply zK | refine za rfl rfl (fun _ => rfl) ?_)
 refine zI ?_
 refine zQ (X := Nat) (fun i e h' c' => (∃ b0, e = MapI.set (MapI.set (MapI.set b0 0 (.ptr (some (q, 0)))) 3 (I (tot (st.rows.take i)))) 4 (I i)) /\ i <= st.rows.length /\ h' = h /\ c' = c)
  (fun i => st.rows.length - i) ?_ 0 _ _ _ ⟨set3 rfl rfl rfl, Nat.zero_le _, rfl, rfl⟩
 rintro i e h' c' ⟨⟨b0, rfl⟩, hi, rfl, rfl⟩
 repeat' (first | apply zw | apply zx | apply zK | refine za rfl rfl (fun _ => rfl) ?_ | refine zU ?_ | refine zL rfl rfl (zW rfl rfl rfl hobj rfl ⟨(by simp [InR, Acc.name, Acc.writes, zS] <;> omega), ?_⟩))
 refine zH rfl (fun hlt => ?_) (fun hge => ?_)
 case refine_2 =>
  have hge : st.rows.length <= i := by
   have : ¬ ((i : Nat) : Int) < (st.rows.length : Nat) := by simpa using hge
   omega
  rw [List.take_of_length_le hge]
  repeat' (first | apply zw | apply zx | apply zF | apply zG | apply zK | refine za rfl rfl (fun _ => rfl) ?_)
  exact z6 rfl ⟨rfl, rfl, rfl⟩
 have hlt : i < st.rows.length := by
  have : ((i : Nat) : Int) < (st.rows.length : Nat) := by simpa using hlt
  omega
 obtain ⟨rfl, sn, cl, junk, rfl, hsn, hg, hj⟩ := hs i hlt
 obtain ⟨rfl, sn2, cl2, junk2, rfl, hsn2, hg2, hj2⟩ := hs2 i hlt
 obtain ⟨x, hx⟩ : ∃ x, st.rows[i]? = some x := ⟨_, zp hlt⟩
 have hb := tot_bound hsz (i + 1) (by omega)
 have hb0 := tot_bound hsz i hi
 have hts := tot_snoc hx
 have hoff : 0 + ((i : Nat) : Int).toNat * 1 = i := by simp
 have hz : nth (flat yG (st.rows.map fun r => r.2.2) ++ junk) (0 + ((i : Nat) : Int).toNat * 1) = some (I x.2.2) := by
  rw [hoff]; exact kQ (by rw [List.getElem?_map, hx]; rfl) junk
 have hz2 : nth (flat yG (st.rows.map fun r => r.2.1) ++ junk2) (0 + ((i : Nat) : Int).toNat * 1) = some (I x.2.1) := by
  rw [hoff]; exact kQ (by rw [List.getElem?_map, hx]; rfl) junk2
 have hw1 : IntKind.i64.wrap ((i : Int) + 1) = ((i + 1 : Nat) : Int) := by rw [Go.IntWalk.i64_in _ (by omega)]; omega
 repeat' (first | apply zw | apply zx | apply zz | apply zB | apply zK | refine za rfl rfl (fun _ => rfl) ?_ | refine zU ?_ | refine zL rfl rfl (zW rfl rfl rfl hobj rfl ⟨(by simp [InR, Acc.name, Acc.writes, zS] <;> omega), ?_⟩) | refine zL rfl rfl (zZ (k := 1) rfl rfl rfl rfl ⟨by omega, by omega⟩ ⟨(by simp [InR, Acc.name, Acc.writes, zS] <;> omega), ?_⟩) | refine zL rfl rfl (zW rfl rfl rfl hg hz ⟨(by simp [InR, Acc.name, Acc.writes, zS] <;> omega), ?_⟩))
 refine zH rfl (fun hp => ?_) (fun hp => ?_)
 ·have hp : x.2.2 > 0 := by simpa using hp
  rw [if_pos hp] at hts
  have hw2 : IntKind.i64.wrap (tot (st.rows.take i) + x.2.1) = tot (st.rows.take (i + 1)) := by rw [hts, Go.IntWalk.i64_in _ (by omega)]
  repeat' (first | apply zx | apply zK | refine za rfl rfl (fun _ => rfl) ?_ | refine zU ?_ | refine zL rfl rfl (zW rfl rfl rfl hobj rfl ⟨(by simp [InR, Acc.name, Acc.writes, zS] <;> omega), ?_⟩) | refine zL rfl rfl (zZ (k := 1) rfl rfl rfl rfl ⟨by omega, by omega⟩ ⟨(by simp [InR, Acc.name, Acc.writes, zS] <;> omega), ?_⟩) | refine zL rfl rfl (zW rfl rfl rfl hg2 hz2 ⟨(by simp [InR, Acc.name, Acc.writes, zS] <;> omega), ?_⟩))
  refine ⟨i + 1, by omega, ?_, by omega, rfl, rfl⟩
  rw [hw1, hw2]
  exact set3 rfl rfl rfl
 ·have hp : ¬ x.2.2 > 0 := by simpa using hp
  rw [if_neg hp, Int.add_zero] at hts
  repeat' (first | apply zx | apply zz | apply zK | refine za rfl rfl (fun _ => rfl) ?_ | refine zU ?_)
  refine ⟨i + 1, by omega, ?_, by omega, rfl, rfl⟩
  rw [hw1, hts]
  exact set3 rfl rfl rfl
end Go.Proofs.YtjnfjnmgfpffcaaGreat
