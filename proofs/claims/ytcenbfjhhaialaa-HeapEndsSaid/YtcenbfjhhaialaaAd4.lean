/- What is handed in, read as data, stands in an abstract heap; and a law's row out of its run. For any program. -/
import Derived.Test.YtcenbfjhhaialaaAd1
import Derived.Test.YtcenbfjhhaialaaAc20
import Derived.ChangeArms
import Derived.OpenShut
import Derived.ReadAgain
import Derived.ChangeBears
set_option linter.unusedVariables false
set_option linter.unusedSectionVars false
set_option linter.unusedSimpArgs false
set_option linter.unnecessarySimpa false
namespace Go.Ab
open Go.RowKit Go.ChangeShapes

/-- Types without pointers, interfaces, maps, functions, channels: a list of them, closed. -/
def plainIn (P : Program) (S : List Nat) (t : Nat) : Bool :=
  decide (t < P.types.size) && match P.underlying t with
  | some .bool | some (.int _) | some .string => decide (P.cellsOf t = 1)
  | some (.slice e) => S.contains e && decide (0 < P.cellsOf e) && decide (P.cellsOf t = 1)
  | some (.array _ e) => S.contains e
  | some (.struct fs) => fs.toList.all fun f => S.contains f.type
  | _ => false
def plainAll (P : Program) (S : List Nat) : Bool := S.all fun t => plainIn P S t

mutual
/-- Cells that read as a datum of a type. -/
inductive AR {T : Type} (P : Program) (h : FM AObj) (c : Nat) : Nat → List V → DataW T → Prop where
  | bool {t : Nat} (b : Bool) : P.underlying t = some .bool → AR P h c t [.bool b] (.lit (.bool b))
  | int {t : Nat} {k : IntKind} {n : Int} : P.underlying t = some (.int k) → (Lit.int k n).wf = true → AR P h c t [.int k n] (.lit (.int k n))
  | str {t : Nat} {s : List UInt8} : P.underlying t = some .string → s.length ≤ maxLen → AR P h c t [.str s] (.lit (.string s))
  | nil {t e : Nat} : P.underlying t = some (.slice e) → AR P h c t [.slice none 0 (.known 0)] .nil
  | slice {t e n cap : Nat} {vss : List (List V)} {elems spare : List (DataW T)} : P.underlying t = some (.slice e) → elems.length ≤ cap → cap ≤ maxLen → n < c →
      (elems ≠ [] → MapI.get h n = some (.cells false false vss.flatten)) → ARs P h c (elems.map fun _ => e) vss elems → AR P h c t [.slice (some (n, 0)) elems.length (.known cap)] (.slice elems spare)
  | array {t e n : Nat} {vss : List (List V)} {ds : List (DataW T)} : P.underlying t = some (.array n e) → ds.length = n → ARs P h c (ds.map fun _ => e) vss ds → AR P h c t vss.flatten (.agg ds)
  | struct {t : Nat} {fs : Array Field} {vss : List (List V)} {ds : List (DataW T)} : P.underlying t = some (.struct fs) → ARs P h c (fs.toList.map (·.type)) vss ds → AR P h c t vss.flatten (.agg ds)
inductive ARs {T : Type} (P : Program) (h : FM AObj) (c : Nat) : List Nat → List (List V) → List (DataW T) → Prop where
  | nil : ARs P h c [] [] []
  | cons {t : Nat} {ts : List Nat} {vs : List V} {vss : List (List V)} {d : DataW T} {ds : List (DataW T)} : AR P h c t vs d → vs.length = P.cellsOf t → ARs P h c ts vss ds → ARs P h c (t :: ts) (vs :: vss) (d :: ds)
end

section
variable {T : Type} {P : Program} {h h' : FM AObj} {c c' : Nat}
mutual
theorem AR.mono (hc : c ≤ c') (he : ∀ n, n < c → MapI.get h' n = MapI.get h n) : ∀ {t : Nat} {vs : List V} {d : DataW T}, AR P h c t vs d → AR P h' c' t vs d
  | _, _, _, .bool b x => .bool b x
  | _, _, _, .int x y => .int x y
  | _, _, _, .str x y => .str x y
  | _, _, _, .nil x => .nil x
  | _, _, _, .slice x y z w g k => .slice x y z (Nat.lt_of_lt_of_le w hc) (fun e => by rw [he _ w]; exact g e) (ARs.mono hc he k)
  | _, _, _, .array x y k => .array x y (ARs.mono hc he k)
  | _, _, _, .struct x k => .struct x (ARs.mono hc he k)
theorem ARs.mono (hc : c ≤ c') (he : ∀ n, n < c → MapI.get h' n = MapI.get h n) : ∀ {ts : List Nat} {vss : List (List V)} {ds : List (DataW T)}, ARs P h c ts vss ds → ARs P h' c' ts vss ds
  | _, _, _, .nil => .nil
  | _, _, _, .cons a b d => .cons (AR.mono hc he a) b (ARs.mono hc he d)
end
end

/-- The world is as it was; names from c on are free. -/
structure Stand (W : World) (φ : Nm) (h : FM AObj) (c : Nat) : Prop where
  rel : Rel 0 W φ h W
  nm : ∀ n, c ≤ n → φ n = none
  hp : ∀ n, c ≤ n → MapI.get h n = none
structure Grow (φ φ' : Nm) (h h' : FM AObj) (c c' : Nat) : Prop where
  le : c ≤ c'
  nm : ∀ n, n < c → φ' n = φ n
  hp : ∀ n, n < c → MapI.get h' n = MapI.get h n
theorem Grow.refl (φ : Nm) (h : FM AObj) (c : Nat) : Grow φ φ h h c c := ⟨Nat.le_refl _, fun _ _ => rfl, fun _ _ => rfl⟩
theorem Grow.trans {φ φ' φ'' : Nm} {h h' h'' : FM AObj} {c c' c'' : Nat} (a : Grow φ φ' h h' c c') (b : Grow φ' φ'' h' h'' c' c'') : Grow φ φ'' h h'' c c'' :=
  ⟨Nat.le_trans a.le b.le, fun n hn => by rw [b.nm n (Nat.lt_of_lt_of_le hn a.le), a.nm n hn], fun n hn => by rw [b.hp n (Nat.lt_of_lt_of_le hn a.le), a.hp n hn]⟩
theorem Stand.ext {W : World} {φ φ' : Nm} {h h' : FM AObj} {c c' : Nat} (i : Stand W φ h c) (g : Grow φ φ' h h' c c') : ∀ n L, φ n = some L → φ' n = some L := fun n L e => by
  have : n < c := Nat.lt_of_not_le fun hn => by rw [i.nm n hn] at e; cases e
  rw [g.nm n this]; exact e

theorem Rel.addRead {W : World} {φ : Nm} {h : FM AObj} {c : Nat} {o : AObj} {L : Loc} (r : Rel 0 W φ h W) (hc : φ c = none) (hw : o.writable = false) (hg : o.gone = false) (ho : ObjR φ o L W.heap[L.blk]?) (hL : L.blk < W.heap.size) :
    Rel 0 W (φ.put c L) (MapI.set h c o) W := by
  have hext : ∀ n K, φ n = some K → (φ.put c L) n = some K := (Ext.put L hc).mono
  refine ⟨r.below, fun m p hm => ?_, fun a d p q K J had ha hd hp hq hK hJ => ?_, fun g hg => by omega⟩
  · by_cases e : c = m
    · subst e
      rw [MapI.get_same] at hm; cases hm
      exact ⟨L, by simp [Nm.put], ho.mono hext, fun e => (by rw [hw] at e; cases e), fun _ _ => hL⟩
    · rw [MapI.get_ne _ _ _ _ e] at hm
      obtain ⟨K, h1, h2, h3, h4⟩ := r.obj m p hm
      exact ⟨K, hext _ _ h1, h2.mono hext, h3, h4⟩
  · have key : ∀ m p K, MapI.get (MapI.set h c o) m = some p → p.writable = true → (φ.put c L) m = some K → MapI.get h m = some p ∧ φ m = some K := fun m p K hm hp hK => by
      by_cases e : c = m
      · subst e; rw [MapI.get_same] at hm; cases hm; rw [hw] at hp; cases hp
      · rw [MapI.get_ne _ _ _ _ e] at hm
        have hK' : φ m = some K := by unfold Nm.put at hK; rw [if_neg (Ne.symm e)] at hK; exact hK
        exact ⟨hm, hK'⟩
    obtain ⟨x1, x2⟩ := key a p K ha hp hK
    obtain ⟨y1, y2⟩ := key d q J hd hq hJ
    exact r.apart a d p q K J had x1 y1 hp hq x2 y2

/-- A name without an object. -/
theorem Rel.addName {W : World} {φ : Nm} {h : FM AObj} {c : Nat} {L : Loc} (r : Rel 0 W φ h W) (hc : φ c = none) (hh : MapI.get h c = none) : Rel 0 W (φ.put c L) h W := by
  have hext : ∀ n K, φ n = some K → (φ.put c L) n = some K := (Ext.put L hc).mono
  refine ⟨r.below, fun m p hm => ?_, fun a d p q K J had ha hd hp hq hK hJ => ?_, fun g hg => by omega⟩
  · obtain ⟨K, h1, h2, h3, h4⟩ := r.obj m p hm
    exact ⟨K, hext _ _ h1, h2.mono hext, h3, h4⟩
  · have key : ∀ m p K, MapI.get h m = some p → (φ.put c L) m = some K → φ m = some K := fun m p K hm hK => by
      by_cases e : c = m
      · subst e; rw [hh] at hm; cases hm
      · unfold Nm.put at hK; rw [if_neg (Ne.symm e)] at hK; exact hK
    exact r.apart a d p q K J had ha hd hp hq (key a p K ha hK) (key d q J hd hJ)

section
variable {T : Type} {enc : TypeId × Value → T} {P : Program} {W : World}

/-- Cells may be taken into the heap. -/
def Emb (P : Program) (W : World) (t : Nat) (cs : List Value) (d : DataW T) : Prop :=
  ∀ φ h c, Stand W φ h c → ∃ φ' h' c' vs, Grow φ φ' h h' c c' ∧ Stand W φ' h' c' ∧ VRs φ' vs cs ∧ AR P h' c' t vs d ∧ vs.length = P.cellsOf t
inductive Embs (P : Program) (W : World) : List Nat → List (List Value) → List (DataW T) → Prop where
  | nil : Embs P W [] [] []
  | cons {t : Nat} {ts : List Nat} {cs : List Value} {css : List (List Value)} {d : DataW T} {ds : List (DataW T)} : Emb P W t cs d → Embs P W ts css ds → Embs P W (t :: ts) (cs :: css) (d :: ds)
inductive VRss (φ : Nm) : List (List V) → List (List Value) → Prop where
  | nil : VRss φ [] []
  | cons {vs : List V} {us : List Value} {vss : List (List V)} {uss : List (List Value)} : VRs φ vs us → VRss φ vss uss → VRss φ (vs :: vss) (us :: uss)
theorem VRss.mono {φ φ' : Nm} (h : ∀ n L, φ n = some L → φ' n = some L) {vss : List (List V)} {uss : List (List Value)} (r : VRss φ vss uss) : VRss φ' vss uss := by
  induction r with
  | nil => exact .nil
  | cons a _ ih => exact .cons (a.mono h) ih
theorem VRss.flat {φ : Nm} {vss : List (List V)} {uss : List (List Value)} (r : VRss φ vss uss) : VRs φ vss.flatten uss.flatten := by
  induction r with
  | nil => exact .nil
  | cons a _ ih => simp only [List.flatten_cons]; exact a.append ih
theorem Embs.run : ∀ {ts : List Nat} {css : List (List Value)} {ds : List (DataW T)}, Embs P W ts css ds → ∀ φ h c, Stand W φ h c →
    ∃ φ' h' c' vss, Grow φ φ' h h' c c' ∧ Stand W φ' h' c' ∧ VRss φ' vss css ∧ ARs P h' c' ts vss ds
  | _, _, _, .nil, φ, h, c, i => ⟨φ, h, c, [], .refl _ _ _, i, .nil, .nil⟩
  | _, _, _, .cons a b, φ, h, c, i => by
    obtain ⟨φ1, h1, c1, vs, g1, i1, r1, a1, n1⟩ := a φ h c i
    obtain ⟨φ2, h2, c2, vss, g2, i2, r2, a2⟩ := b.run φ1 h1 c1 i1
    exact ⟨φ2, h2, c2, vs :: vss, g1.trans g2, i2, .cons (r1.mono (i1.ext g2)) r2, .cons (a1.mono g2.le g2.hp) n1 a2⟩
theorem ARs.total {h : FM AObj} {c : Nat} : ∀ {ts : List Nat} {vss : List (List V)} {ds : List (DataW T)}, ARs P h c ts vss ds → vss.flatten.length = (ts.map fun t => P.cellsOf t).sum
  | _, _, _, .nil => rfl
  | _, _, _, .cons _ b d => by simp [b, d.total]

/-- Rows of one length, laid behind one another. -/
theorem flat_at {α : Type} {f : Nat → Option α} {k : Nat} : ∀ (l : List (List α)) (o : Nat), (∀ i x, l[i]? = some x → x.length = k ∧ ∀ j, j < k → f (o + i * k + j) = x[j]?) → ∀ q, q < l.length * k → f (o + q) = l.flatten[q]?
  | [], o, _, q, hq => by simp at hq
  | x :: l, o, hx, q, hq => by
    obtain ⟨hk, h0⟩ := hx 0 x (by simp)
    rw [List.flatten_cons]
    by_cases h : q < k
    · rw [List.getElem?_append_left (by omega), ← h0 q h]; simp
    · rw [List.getElem?_append_right (by omega), hk]
      have hq' : q - k < l.length * k := by
        have : (l.length + 1) * k = l.length * k + k := by rw [Nat.add_mul]; omega
        rw [List.length_cons, this] at hq
        omega
      have := flat_at (f := f) (k := k) l (o + k) (fun i y hy => ⟨(hx (i + 1) y (by simpa using hy)).1, fun j hj => by
        have := (hx (i + 1) y (by simpa using hy)).2 j hj
        rw [← this]
        congr 1
        rw [Nat.add_mul]; omega⟩) (q - k) hq'
      rw [← this]
      congr 1
      omega

theorem sum_const {α : Type} (k : Nat) : ∀ l : List α, (l.map fun _ => k).sum = l.length * k
  | [] => by simp
  | _ :: l => by rw [List.map_cons, List.sum_cons, sum_const k l, List.length_cons, Nat.add_mul]; omega
theorem add_at {a : Addr} (h : a.spot = none) (n : Nat) : a.add n = ⟨a.block, a.off + n, none⟩ := by
  obtain ⟨b, o, s⟩ := a
  have : s = none := h
  subst this
  unfold Addr.add
  split
  · next e => subst e; rfl
  · rfl
theorem slices_cut {α : Type} : ∀ (l : List α) (ns : List Nat), l.length = ns.sum → ∃ ls : List (List α), ls.flatten = l ∧ ls.length = ns.length ∧ ∀ j, j < ns.length → ls[j]? = some ((l.drop ((ns.take j).sum)).take (ns.getD j 0))
  | l, [], h => ⟨[], by simp at h; simp [h], rfl, fun j hj => by simp at hj⟩
  | l, n :: ns, h => by
    obtain ⟨ls, h1, h2, h3⟩ := slices_cut (l.drop n) ns (by simp at h ⊢; omega)
    refine ⟨l.take n :: ls, by rw [List.flatten_cons, h1, List.take_append_drop], by simp [h2], fun j hj => ?_⟩
    cases j with
    | zero => simp
    | succ j =>
      have := h3 j (by simpa using hj)
      simp only [List.getElem?_cons_succ, this, List.take_succ_cons, List.sum_cons, List.drop_drop, List.getD_cons_succ]

theorem embs_of {ts : List Nat} {css : List (List Value)} {ds : List (DataW T)} : ts.length = css.length → ts.length = ds.length →
    (∀ (j : Nat) (t : Nat) (cs : List Value) (d : DataW T), ts[j]? = some t → css[j]? = some cs → ds[j]? = some d → Emb P W t cs d) → Embs P W ts css ds := by
  induction ts generalizing css ds with
  | nil => intro h1 h2 _; cases css <;> cases ds <;> simp at h1 h2; exact .nil
  | cons t ts ih =>
    intro h1 h2 hx
    cases css with
    | nil => simp at h1
    | cons cs css =>
      cases ds with
      | nil => simp at h2
      | cons d ds => exact .cons (hx 0 _ _ _ rfl rfl rfl) (ih (by simpa using h1) (by simpa using h2) fun j t cs d a b e => hx (j + 1) t cs d (by simpa using a) (by simpa using b) (by simpa using e))

theorem emb_of (K : Kids P (· < P.types.size)) {S : List Nat} (hS : plainAll P S = true) : ∀ (n : Nat) (t : Nat) (cs : List Value) (x : DataW T × List MemPlace), t ∈ S → DataW.trod enc P W 0 (fun _ => true) true n t cs = some x → Emb P W t cs x.1 := by
  intro n
  induction n with
  | zero => intro t cs x _ h; simp [DataW.trod] at h
  | succ n ih =>
    intro t cs x ht h φ hp c i
    have hpl := List.all_eq_true.1 hS t ht
    simp only [plainIn, Bool.and_eq_true, decide_eq_true_eq] at hpl
    obtain ⟨hlt, hpl⟩ := hpl
    split at hpl
    · next hu =>
      obtain ⟨b, rfl, rfl⟩ := DataW.trod_bool hu h
      exact ⟨φ, hp, c, [.bool b], .refl _ _ _, i, .single (.bool b), .bool b hu, (of_decide_eq_true hpl).symm⟩
    · next k hu =>
      obtain ⟨z, rfl, rfl, hw⟩ := DataW.trod_int hu h
      exact ⟨φ, hp, c, [.int k z], .refl _ _ _, i, .single (.int k z), .int hu hw, (of_decide_eq_true hpl).symm⟩
    · next hu =>
      obtain ⟨s, rfl, rfl, hw⟩ := DataW.trod_string hu h
      exact ⟨φ, hp, c, [.str s.data.toList], .refl _ _ _, i, .single (.str s.data.toList), .str hu (by simpa using hw), (of_decide_eq_true hpl).symm⟩
    · next e hu =>
      simp only [Bool.and_eq_true, decide_eq_true_eq, List.contains_iff_mem] at hpl
      obtain ⟨⟨he, hk⟩, hc1⟩ := hpl
      rcases DataW.trod_slice hu h with ⟨rfl, rfl⟩ | ⟨a, len, cap, elems, rest, m, hm, rfl, rfl, _, hl, hcap, hlen, hel, hsp, _⟩
      · exact ⟨φ, hp, c, [.slice none 0 (.known 0)], .refl _ _ _, i, .single .sliceNil, .nil hu, by simpa using hc1.symm⟩
      · obtain rfl : m = n := by omega
        -- the elements' cells
        have each : ∀ i, i < len → ∃ cs y, W.cells? 0 (a.add (i * P.cellsOf e)) (P.cellsOf e) = some cs ∧ elems[i]? = some y ∧ DataW.trod enc P W 0 (fun _ => true) true m e cs = some y := fun i hi => by
          have := hel i hi
          rw [List.getElem?_eq_getElem (by omega)] at this
          obtain ⟨cs, h1, h2⟩ := Option.bind_eq_some_iff.1 this
          exact ⟨cs, _, h1, List.getElem?_eq_getElem (by omega), h2⟩
        let css : List (List Value) := (List.range len).map fun i => (W.cells? 0 (a.add (i * P.cellsOf e)) (P.cellsOf e)).getD []
        have hcss : ∀ i cs, css[i]? = some cs → i < len ∧ W.cells? 0 (a.add (i * P.cellsOf e)) (P.cellsOf e) = some cs := fun i cs hcs => by
          have hi : i < len := by have := (List.getElem?_eq_some_iff.1 hcs).1; simpa [css] using this
          obtain ⟨cs', _, h1, _⟩ := each i hi
          have : css[i]? = some ((W.cells? 0 (a.add (i * P.cellsOf e)) (P.cellsOf e)).getD []) := by simp [css, hi]
          rw [this, h1] at hcs
          cases hcs
          exact ⟨hi, h1⟩
        have hE : Embs P W ((elems.map (·.1)).map fun _ => e) css (elems.map (·.1)) := embs_of (by simp [css, hlen]) (by simp) fun j t cs d h1 h2 h3 => by
          obtain ⟨hj, h4⟩ := hcss j cs h2
          obtain ⟨cs', y, h5, h6, h7⟩ := each j hj
          rw [h4] at h5; cases h5
          simp only [List.getElem?_map, h6, Option.map_some, Option.some.injEq] at h1 h3
          subst h1; subst h3
          exact ih _ _ _ he h7
        obtain ⟨φ1, h1, c1, vss, g1, i1, r1, a1⟩ := hE.run φ hp c i
        have hn1 : φ1 c1 = none := i1.nm c1 (Nat.le_refl _)
        have hh1 : MapI.get h1 c1 = none := i1.hp c1 (Nat.le_refl _)
        have hfl : vss.flatten.length = len * P.cellsOf e := by rw [a1.total, List.map_map, List.map_map, ← hlen]; exact sum_const _ _
        let L : Loc := ⟨a.block, a.off, a.off + len * P.cellsOf e⟩
        have hput : (φ1.put c1 L) c1 = some L := by simp [Nm.put]
        have hlow : ∀ n, n < c1 → (φ1.put c1 L) n = φ1 n := fun n hn => by unfold Nm.put; rw [if_neg (by omega)]
        have hext : ∀ n K, φ1 n = some K → (φ1.put c1 L) n = some K := (Ext.put L hn1).mono
        -- the first cell tells the block
        have hspot : 0 < cap → a.spot = none := fun hcp => by
          have aux : ∀ cs, W.cells? 0 (a.add (0 * P.cellsOf e)) (P.cellsOf e) = some cs → a.spot = none := fun cs h1 => by
            obtain ⟨_, hln, hcell⟩ := World.cells?_some h1
            have h0 := hcell 0 hk
            rw [List.getElem?_eq_getElem (by omega)] at h0
            have e0 : (a.add (0 * P.cellsOf e)).add 0 = a := by simp [Addr.add]
            rw [e0] at h0
            unfold World.cell? at h0
            split at h0
            · split at h0
              · cases h0
              · next hs => simpa using hs
            · cases h0
          by_cases hl0 : 0 < len
          · obtain ⟨cs, _, h1, _⟩ := each 0 hl0
            exact aux cs h1
          · obtain ⟨hrl, hr⟩ := hsp rfl
            have h2 := hr 0 (by omega)
            rw [List.getElem?_eq_getElem (by omega)] at h2
            obtain ⟨cs, h1, _⟩ := Option.bind_eq_some_iff.1 h2
            have h00 : len + 0 = 0 := by omega
            rw [h00] at h1
            exact aux cs h1
        have hv : VR (φ1.put c1 L) (.slice (some (c1, 0)) len (.known cap)) (.slice (some a) len cap) := by
          by_cases hcp : 0 < cap
          · have := VR.sliceK (φ := φ1.put c1 L) (n := c1) (L := L) 0 len cap hput hl
            have ha : a = ⟨L.blk, L.off + 0, none⟩ := by
              obtain ⟨b, o, s⟩ := a
              have : s = none := hspot hcp
              subst this; rfl
            rw [ha]; exact this
          · have h0 : cap = 0 := by omega
            have h00 : len = 0 := by omega
            subst h0; subst h00
            exact .sliceK0 0 a hput
        have hlenm : (elems.map (·.1)).length = len := by simpa using hlen
        by_cases hl0 : 0 < len
        · -- the row is read
          have hobj : ObjR φ1 (.cells false false vss.flatten) L W.heap[L.blk]? ∧ L.blk < W.heap.size := by
            obtain ⟨cs, _, h2, _⟩ := each 0 hl0
            obtain ⟨_, hln, hcell⟩ := World.cells?_some h2
            have h0 := hcell 0 hk
            rw [List.getElem?_eq_getElem (by omega)] at h0
            have hsp0 := hspot (by omega)
            have e0 : (a.add (0 * P.cellsOf e)).add 0 = a := by simp [Addr.add]
            rw [e0] at h0
            unfold World.cell? at h0
            cases hb : W.heap[a.block]? with
            | none => rw [hb] at h0; cases h0
            | some ob =>
              have hb' : W.heap[a.block]? = some ob := hb
              cases ob <;> (try (rw [hb] at h0; cases h0; done))
              rename_i C el fr
              have hcells : ∀ off, W.cell? (⟨a.block, off, none⟩ : Addr) = C[off]? := fun off => by unfold World.cell?; rw [hb']; rfl
              have hflat := flat_at (f := fun q => C[q]?) (k := P.cellsOf e) css a.off (fun i x hx => by
                obtain ⟨hi, hx'⟩ := hcss i x hx
                obtain ⟨_, hln, hcell⟩ := World.cells?_some hx'
                refine ⟨hln, fun j hj => ?_⟩
                rw [← hcell j hj, ← hcells, add_at hsp0, add_at rfl])
              have hcl : css.length = len := by simp [css]
              have hfr := r1.flat
              have hsz : ∀ q, q < len * P.cellsOf e → a.off + q < C.size := fun q hq => by
                have := hflat q (by rw [hcl]; exact hq)
                have hl2 : css.flatten.length = len * P.cellsOf e := by rw [← hfr.length]; exact hfl
                rw [List.getElem?_eq_getElem (by omega)] at this
                exact (Array.getElem?_eq_some_iff.1 this).1
              refine ⟨⟨C, el, fr, rfl, ?_, ?_, fun i v hv => ?_, fun e => (by cases e), fun e => (by cases e)⟩, (Array.getElem?_eq_some_iff.1 hb').1⟩
              · show a.off + vss.flatten.length ≤ a.off + len * P.cellsOf e
                omega
              · show a.off + len * P.cellsOf e ≤ C.size
                have hpos : 0 < len * P.cellsOf e := Nat.mul_pos hl0 hk
                have := hsz (len * P.cellsOf e - 1) (by omega)
                omega
              · obtain ⟨u, h3, h4⟩ := hfr.get hv
                have hi : i < len * P.cellsOf e := by rw [← hfl]; exact (List.getElem?_eq_some_iff.1 hv).1
                exact ⟨u, by rw [show C[L.off + i]? = C[a.off + i]? from rfl, hflat i (by rw [hcl]; exact hi)]; exact h3, h4⟩
          refine ⟨φ1.put c1 L, MapI.set h1 c1 (.cells false false vss.flatten), c1 + 1, [.slice (some (c1, 0)) len (.known cap)], g1.trans ⟨by omega, hlow, fun n hn => MapI.get_ne _ _ _ _ (by omega)⟩,
            ⟨i1.rel.addRead hn1 rfl rfl hobj.1 hobj.2, fun n hn => by unfold Nm.put; rw [if_neg (by omega)]; exact i1.nm n (by omega), fun n hn => by rw [MapI.get_ne _ _ _ _ (by omega)]; exact i1.hp n (by omega)⟩, .single hv, ?_, by simpa using hc1.symm⟩
          have := AR.slice (P := P) (h := MapI.set h1 c1 (.cells false false vss.flatten)) (c := c1 + 1) (n := c1) (cap := cap) (spare := rest.map (·.1)) hu (by rw [hlenm]; exact hl) hcap (by omega) (fun _ => MapI.get_same _ _ _)
            (a1.mono (by omega) fun n hn => MapI.get_ne _ _ _ _ (by omega))
          rw [hlenm] at this
          exact this
        · have h00 : len = 0 := by omega
          have hnil : elems = [] := List.length_eq_zero_iff.1 (by omega)
          refine ⟨φ1.put c1 L, h1, c1 + 1, [.slice (some (c1, 0)) len (.known cap)], g1.trans ⟨by omega, hlow, fun n hn => rfl⟩,
            ⟨i1.rel.addName hn1 hh1, fun n hn => by unfold Nm.put; rw [if_neg (by omega)]; exact i1.nm n (by omega), fun n hn => i1.hp n (by omega)⟩, .single hv, ?_, by simpa using hc1.symm⟩
          have := AR.slice (P := P) (h := h1) (c := c1 + 1) (n := c1) (cap := cap) (spare := rest.map (·.1)) hu (by rw [hlenm]; exact hl) hcap (by omega) (fun hne => (hne (by simp [hnil])).elim) (a1.mono (by omega) fun n hn => rfl)
          rw [hlenm] at this
          exact this
    · next m e hu =>
      simp only [List.contains_iff_mem] at hpl
      obtain ⟨xs, k, hk, rfl, hln, hxl, hx⟩ := DataW.trod_array hu h
      obtain rfl : k = n := by omega
      obtain ⟨_, hsz⟩ := K.array hlt hu
      have hsum : cs.length = (List.replicate m (P.cellsOf e)).sum := by rw [hln, hsz]; simp
      obtain ⟨css, f1, f2, f3⟩ := slices_cut cs _ hsum
      have hE : Embs P W ((xs.map (·.1)).map fun _ => e) css (xs.map (·.1)) := embs_of (by simp [f2, hxl]) (by simp) fun j t cs' d h1 h2 h3 => by
        have hj : j < m := by have := (List.getElem?_eq_some_iff.1 h3).1; simpa [hxl] using this
        have h4 := f3 j (by simpa using hj)
        rw [h2] at h4
        have hy := hx j hj
        cases hxy : xs[j]? with
        | none => rw [List.getElem?_map, hxy] at h3; cases h3
        | some y =>
          rw [hxy] at hy
          simp only [List.getElem?_map, hxy, Option.map_some, Option.some.injEq] at h1 h3
          subst h1; subst h3
          refine ih _ _ _ hpl ?_
          have e1 : ((List.replicate m (P.cellsOf e)).take j).sum = j * P.cellsOf e := by
            rw [List.take_replicate, Nat.min_eq_left (by omega)]; simp
          have e2 : (List.replicate m (P.cellsOf e)).getD j 0 = P.cellsOf e := by simp [List.getD, hj]
          rw [e1, e2] at h4
          cases h4
          exact hy
      obtain ⟨φ1, h1, c1, vss, g1, i1, r1, a1⟩ := hE.run φ hp c i
      refine ⟨φ1, h1, c1, vss.flatten, g1, i1, by rw [← f1]; exact r1.flat, .array hu (by simpa using hxl) a1, ?_⟩
      rw [a1.total, hsz, List.map_map, List.map_map, ← hxl]; exact sum_const _ _
    · next fs hu =>
      simp only [List.all_eq_true, List.contains_iff_mem] at hpl
      obtain ⟨xs, k, hk, rfl, hln, hxl, hx⟩ := DataW.trod_struct hu h
      obtain rfl : k = n := by omega
      obtain ⟨_, hsz, hoff⟩ := K.struct hlt hu
      have hsum : cs.length = (fs.toList.map fun f => P.cellsOf f.type).sum := by rw [hln, hsz]
      obtain ⟨css, f1, f2, f3⟩ := slices_cut cs _ hsum
      have hE : Embs P W (fs.toList.map (·.type)) css (xs.map (·.1)) := embs_of (by simp [f2]) (by simp [hxl]) fun j t cs' d h1 h2 h3 => by
        have hj : j < fs.size := by have := (List.getElem?_eq_some_iff.1 h3).1; simpa [hxl] using this
        have hfj : fs.toList[j]? = some fs[j] := by simp [hj]
        have h4 := f3 j (by simpa using hj)
        rw [h2] at h4
        have hy := hx j fs[j] (by simp [hj])
        cases hxy : xs[j]? with
        | none => rw [List.getElem?_map, hxy] at h3; cases h3
        | some y =>
          rw [hxy] at hy
          simp only [List.getElem?_map, hxy, hfj, Option.map_some, Option.some.injEq] at h1 h3
          subst h1; subst h3
          refine ih _ _ _ (hpl _ (by simp)) ?_
          have e1 : ((fs.toList.map fun f => P.cellsOf f.type).take j).sum = fs[j].offset := by rw [hoff j _ hfj, List.map_take]
          have e2 : (fs.toList.map fun f => P.cellsOf f.type).getD j 0 = P.cellsOf fs[j].type := by simp [List.getD, hfj, hj]
          rw [e1, e2] at h4
          cases h4
          exact hy
      obtain ⟨φ1, h1, c1, vss, g1, i1, r1, a1⟩ := hE.run φ hp c i
      refine ⟨φ1, h1, c1, vss.flatten, g1, i1, by rw [← f1]; exact r1.flat, .struct hu a1, ?_⟩
      rw [a1.total, hsz]; simp [Function.comp_def]
    · cases hpl
end
end Go.Ab
