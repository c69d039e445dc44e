/- A law's row out of its run by the evaluator. For any program. -/
import Derived.Test.YtcenbfjhhaialaaAd4
set_option linter.unusedVariables false
set_option linter.unusedSectionVars false
set_option linter.unusedSimpArgs false
set_option linter.unnecessarySimpa false
namespace Go.Ab
open Go.RowKit Go.ChangeShapes

def aggT (P : Program) (t : Nat) : Bool :=
  match P.underlying t with
  | some (.struct _) | some (.array _ _) => true
  | _ => false
def isAggV : V → Bool
  | .agg _ => true
  | _ => false
/-- Arguments that read as data. -/
inductive ArgsR {T : Type} (P : Program) (h : FM AObj) (c : Nat) : List Nat → List V → List (DataW T) → Prop where
  | nil : ArgsR P h c [] [] []
  | cons {t : Nat} {ts : List Nat} {x : V} {xs : List V} {d : DataW T} {ds : List (DataW T)} : AR P h c t (cellsV x) d → isAggV x = aggT P t → ArgsR P h c ts xs ds → ArgsR P h c (t :: ts) (x :: xs) (d :: ds)

section
variable {T : Type} {enc : TypeId × Value → T} {P : Program} {W : World}

theorem ArgsR.mono {h h' : FM AObj} {c c' : Nat} (hc : c ≤ c') (he : ∀ n, n < c → MapI.get h' n = MapI.get h n) {ts : List Nat} {xs : List V} {ds : List (DataW T)} (r : ArgsR P h c ts xs ds) : ArgsR P h' c' ts xs ds := by
  induction r with
  | nil => exact .nil
  | cons a b _ ih => exact .cons (a.mono hc he) b ih

theorem agg_of {S : List Nat} {r : Reach} {base t : Nat} {v : Value} (hp : plainIn P S t = true) (h : Value.okWide P W r base t v) : (aggT P t = true ∧ ∃ us, v = .agg us) ∨ (aggT P t = false ∧ ∀ us, v ≠ .agg us) := by
  simp only [plainIn, Bool.and_eq_true] at hp
  obtain ⟨_, hp⟩ := hp
  unfold Value.okWide at h
  cases hu : P.underlying t with
  | none => rw [hu] at hp; cases hp
  | some d =>
    rw [hu] at hp h
    cases d <;> simp only at hp h <;> first | (cases hp; done) | skip
    all_goals first
      | (left; exact ⟨by simp [aggT, hu], h.elim fun cs hcs => ⟨cs, hcs.1⟩⟩)
      | (right; exact ⟨by simp [aggT, hu], fun us e => by subst e; simp [Cell.okWide, Cell.ok, hu] at h⟩)
theorem cells_val {φ : Nm} {vs : List V} {v : Value} (r : VRs φ vs v.cells.toList) : ∃ x, VR φ x v ∧ cellsV x = vs ∧ ((isAggV x = true ∧ ∃ us, v = .agg us) ∨ (isAggV x = false ∧ ¬ ∃ us, v = .agg us)) := by
  by_cases ha : ∃ us, v = .agg us
  · obtain ⟨⟨us⟩, rfl⟩ := ha
    exact ⟨.agg vs, .agg r, rfl, .inl ⟨rfl, _, rfl⟩⟩
  · have hc : v.cells.toList = [v] := by
      unfold Value.cells
      split
      · next cs => exact absurd ⟨cs, rfl⟩ ha
      · rfl
    rw [hc] at r
    cases r with
    | cons a b =>
      cases b
      refine ⟨_, a, ?_, .inr ⟨?_, ha⟩⟩ <;> (cases a <;> first | rfl | exact absurd ⟨_, rfl⟩ ha)

theorem args_in (K : Kids P (· < P.types.size)) {S : List Nat} (hS : plainAll P S = true) : ∀ {ts : List Nat} {vs : List Value} {ds : List (DataW T)} {ps : List MemPlace}, (∀ t ∈ ts, t ∈ S) → (∀ (j : Nat) t v, ts[j]? = some t → vs[j]? = some v → ∃ r b, Value.okWide P W r b t v) →
    DataW.TrodAll enc P W 0 (fun _ => true) true ts vs ds ps → ∀ φ h c, Stand W φ h c → ∃ φ' h' c' xs, Grow φ φ' h h' c c' ∧ Stand W φ' h' c' ∧ VRs φ' xs vs ∧ ArgsR P h' c' ts xs ds
  | [], [], [], _, _, _, _, φ, h, c, i => ⟨φ, h, c, [], .refl _ _ _, i, .nil, .nil⟩
  | t :: ts, v :: vs, d :: ds, _, hT, hv, ⟨p, q, ⟨n, h1⟩, h2, _⟩, φ, h, c, i => by
    obtain ⟨φ1, hh1, c1, ws, g1, i1, r1, a1, _⟩ := emb_of K hS n t _ _ (hT t (by simp)) h1 φ h c i
    obtain ⟨φ2, hh2, c2, xs, g2, i2, r2, a2⟩ := args_in K hS (fun t ht => hT t (by simp [ht])) (fun j t v a b => hv (j + 1) t v (by simpa using a) (by simpa using b)) h2 φ1 hh1 c1 i1
    obtain ⟨x, hx, hxc, hxa⟩ := cells_val r1
    subst hxc
    obtain ⟨r, b, hok⟩ := hv 0 t v rfl rfl
    have hsh : isAggV x = aggT P t := by
      rcases agg_of (List.all_eq_true.1 hS t (hT t (by simp))) hok with ⟨e1, e2⟩ | ⟨e1, e2⟩ <;> rcases hxa with ⟨e3, e4⟩ | ⟨e3, e4⟩
      · rw [e1, e3]
      · exact absurd e2 e4
      · obtain ⟨us, e4⟩ := e4; exact absurd e4 (e2 us)
      · rw [e1, e3]
    exact ⟨φ2, hh2, c2, x :: xs, g1.trans g2, i2, .cons (hx.mono (i1.ext g2)) r2, .cons (a1.mono g2.le g2.hp) hsh a2⟩

/-- A slice that was handed in and is read alone: so many cells an element, how many, the cells. -/
structure RowArg (h : FM AObj) (c : Nat) (v : V) (k len : Nat) (cs : List V) : Prop where
  is : (v = .slice none 0 (.known 0) ∧ len = 0) ∨ ∃ s cap, v = .slice (some (s, 0)) len (.known cap) ∧ s < c ∧ len ≤ cap ∧ cap ≤ maxLen ∧ (0 < len → MapI.get h s = some (.cells false false cs))
  size : cs.length = len * k
theorem AR.inv_int {h : FM AObj} {c t : Nat} {k : IntKind} {vs : List V} {d : DataW T} (hu : P.underlying t = some (.int k)) (r : AR P h c t vs d) : ∃ n, vs = [.int k n] ∧ d = .lit (.int k n) ∧ (Lit.int k n).wf = true := by
  cases r with
  | bool b hu' => rw [hu] at hu'; cases hu'
  | int hu' hw => rw [hu] at hu'; cases hu'; exact ⟨_, rfl, rfl, hw⟩
  | str hu' _ => rw [hu] at hu'; cases hu'
  | nil hu' => rw [hu] at hu'; cases hu'
  | slice hu' _ _ _ _ _ => rw [hu] at hu'; cases hu'
  | array hu' _ _ => rw [hu] at hu'; cases hu'
  | struct hu' _ => rw [hu] at hu'; cases hu'
theorem AR.inv_bool {h : FM AObj} {c t : Nat} {vs : List V} {d : DataW T} (hu : P.underlying t = some .bool) (r : AR P h c t vs d) : ∃ b, vs = [.bool b] ∧ d = .lit (.bool b) := by
  cases r with
  | bool b _ => exact ⟨b, rfl, rfl⟩
  | int hu' _ => rw [hu] at hu'; cases hu'
  | str hu' _ => rw [hu] at hu'; cases hu'
  | nil hu' => rw [hu] at hu'; cases hu'
  | slice hu' _ _ _ _ _ => rw [hu] at hu'; cases hu'
  | array hu' _ _ => rw [hu] at hu'; cases hu'
  | struct hu' _ => rw [hu] at hu'; cases hu'
theorem AR.inv_str {h : FM AObj} {c t : Nat} {vs : List V} {d : DataW T} (hu : P.underlying t = some .string) (r : AR P h c t vs d) : ∃ s : List UInt8, vs = [.str s] ∧ d = .lit (.string s) ∧ s.length ≤ maxLen := by
  cases r with
  | bool b hu' => rw [hu] at hu'; cases hu'
  | int hu' _ => rw [hu] at hu'; cases hu'
  | str _ hl => exact ⟨_, rfl, rfl, hl⟩
  | nil hu' => rw [hu] at hu'; cases hu'
  | slice hu' _ _ _ _ _ => rw [hu] at hu'; cases hu'
  | array hu' _ _ => rw [hu] at hu'; cases hu'
  | struct hu' _ => rw [hu] at hu'; cases hu'
theorem AR.inv_slice {h : FM AObj} {c t e : Nat} {vs : List V} {d : DataW T} (hu : P.underlying t = some (.slice e)) (r : AR P h c t vs d) : (vs = [.slice none 0 (.known 0)] ∧ d = .nil) ∨
    ∃ n cap vss elems spare, vs = [.slice (some (n, 0)) elems.length (.known cap)] ∧ d = .slice elems spare ∧ elems.length ≤ cap ∧ cap ≤ maxLen ∧ n < c ∧ (elems ≠ [] → MapI.get h n = some (.cells false false vss.flatten)) ∧ ARs P h c (elems.map fun _ => e) vss elems := by
  cases r with
  | bool b hu' => rw [hu] at hu'; cases hu'
  | int hu' _ => rw [hu] at hu'; cases hu'
  | str hu' _ => rw [hu] at hu'; cases hu'
  | nil hu' => exact .inl ⟨rfl, rfl⟩
  | slice hu' a b d e f => rw [hu] at hu'; cases hu'; exact .inr ⟨_, _, _, _, _, rfl, rfl, a, b, d, e, f⟩
  | array hu' _ _ => rw [hu] at hu'; cases hu'
  | struct hu' _ => rw [hu] at hu'; cases hu'
theorem AR.inv_array {h : FM AObj} {c t e n : Nat} {vs : List V} {d : DataW T} (hu : P.underlying t = some (.array n e)) (r : AR P h c t vs d) : ∃ vss ds, vs = vss.flatten ∧ d = .agg ds ∧ ds.length = n ∧ ARs P h c (ds.map fun _ => e) vss ds := by
  cases r with
  | bool b hu' => rw [hu] at hu'; cases hu'
  | int hu' _ => rw [hu] at hu'; cases hu'
  | str hu' _ => rw [hu] at hu'; cases hu'
  | nil hu' => rw [hu] at hu'; cases hu'
  | slice hu' _ _ _ _ _ => rw [hu] at hu'; cases hu'
  | array hu' a b => rw [hu] at hu'; cases hu'; exact ⟨_, _, rfl, rfl, a, b⟩
  | struct hu' _ => rw [hu] at hu'; cases hu'
theorem AR.inv_struct {h : FM AObj} {c t : Nat} {fs : Array Field} {vs : List V} {d : DataW T} (hu : P.underlying t = some (.struct fs)) (r : AR P h c t vs d) : ∃ vss ds, vs = vss.flatten ∧ d = .agg ds ∧ ARs P h c (fs.toList.map (·.type)) vss ds := by
  cases r with
  | bool b hu' => rw [hu] at hu'; cases hu'
  | int hu' _ => rw [hu] at hu'; cases hu'
  | str hu' _ => rw [hu] at hu'; cases hu'
  | nil hu' => rw [hu] at hu'; cases hu'
  | slice hu' _ _ _ _ _ => rw [hu] at hu'; cases hu'
  | array hu' _ _ => rw [hu] at hu'; cases hu'
  | struct hu' a => rw [hu] at hu'; cases hu'; exact ⟨_, _, rfl, rfl, a⟩
/-- Elements, each read as so many cells of a form. -/
theorem ARs.each {h : FM AObj} {c e : Nat} {α : Type} {cells : α → List V} {good : α → Prop} (hx : ∀ vs (d : DataW T), AR P h c e vs d → ∃ a, vs = cells a ∧ good a) : ∀ {ds : List (DataW T)} {vss : List (List V)}, ARs P h c (ds.map fun _ => e) vss ds →
    ∃ as : List α, vss.flatten = (as.map cells).flatten ∧ as.length = ds.length ∧ ∀ a ∈ as, good a
  | [], _, r => by cases r; exact ⟨[], rfl, rfl, fun z hz => by cases hz⟩
  | d :: ds, _, r => by
    cases r with
    | cons a b r' =>
      obtain ⟨as, h1, h2, h3⟩ := ARs.each hx r'
      obtain ⟨y, rfl, hy⟩ := hx _ _ a
      exact ⟨y :: as, by simp [h1], by simp [h2], fun z hz => by
        rcases List.mem_cons.1 hz with rfl | hz
        · exact hy
        · exact h3 z hz⟩
/-- A slice of elements, each of so many cells of a form. -/
theorem AR.rows {h : FM AObj} {c t e : Nat} {x : V} {d : DataW T} {α : Type} {cells : α → List V} {good : α → Prop} {k : Nat} (ht : P.underlying t = some (.slice e)) (hx : isAggV x = false) (hk : ∀ a, (cells a).length = k)
    (he : ∀ vs (d : DataW T), AR P h c e vs d → ∃ a, vs = cells a ∧ good a) (r : AR P h c t (cellsV x) d) :
    ∃ as : List α, RowArg h c x k as.length (as.map cells).flatten ∧ ∀ a ∈ as, good a := by
  have hc : cellsV x = [x] := by cases x <;> first | rfl | cases hx
  rw [hc] at r
  rcases r.inv_slice ht with ⟨h1, _⟩ | ⟨n, cap, vss, elems, spare, h1, _, h2, h3, h4, h5, h6⟩
  · cases h1
    exact ⟨[], ⟨.inl ⟨rfl, rfl⟩, by simp⟩, fun z hz => by cases hz⟩
  · cases h1
    obtain ⟨as, e1, e2, e3⟩ := h6.each he
    refine ⟨as, ⟨.inr ⟨n, cap, by rw [e2], h4, by omega, h3, fun hl => ?_⟩, ?_⟩, e3⟩
    · rw [← e1]
      exact h5 (fun e => by rw [e] at e2; simp at e2; rw [e2] at hl; simp at hl)
    · rw [List.length_flatten, List.map_map]
      have : (List.length ∘ cells) = fun _ => k := by funext a; exact hk a
      rw [this]
      exact sum_const _ _
theorem flat_one {α : Type} {f : α → V} (l : List α) : (l.map fun z => [f z]).flatten = l.map f := by
  induction l with
  | nil => rfl
  | cons a l ih => simp [ih]
/-- A slice of whole numbers. -/
theorem AR.ints {h : FM AObj} {c t e : Nat} {k : IntKind} {x : V} {d : DataW T} (ht : P.underlying t = some (.slice e)) (he : P.underlying e = some (.int k)) (hx : isAggV x = false) (r : AR P h c t (cellsV x) d) :
    ∃ zs : List Int, RowArg h c x 1 zs.length (zs.map (.int k)) ∧ ∀ z ∈ zs, (Lit.int k z).wf = true := by
  obtain ⟨zs, h1, h2⟩ := AR.rows (cells := fun z => [V.int k z]) (good := fun z => (Lit.int k z).wf = true) (k := 1) ht hx (fun _ => rfl) (fun vs d a => by obtain ⟨n, e1, _, e2⟩ := a.inv_int he; exact ⟨n, e1, e2⟩) r
  rw [flat_one] at h1
  exact ⟨zs, h1, h2⟩
theorem Stand.start (W : World) : Stand W (fun _ => none) (MapI.emp : FM AObj) 0 := ⟨Rel.start W, fun _ _ => rfl, fun _ _ => rfl⟩

/-- What the evaluator answers of the arguments as data, the model's call returns. -/
theorem law_calls (F : Fit P) (K : Kids P (· < P.types.size)) {S : List Nat} (hS : plainAll P S = true) {f : Nat} {fn : Func} {code : Code} (hP : P.funcs[f]? = some fn) (hb : fn.body = some code)
    {ts : List Nat} {vs : List Value} {ds : List (DataW T)} {ps : List MemPlace} (hT : ∀ t ∈ ts, t ∈ S) (hv : ∀ (j : Nat) t v, ts[j]? = some t → vs[j]? = some v → ∃ r b, Value.okWide P W r b t v) (hA : DataW.TrodAll enc P W 0 (fun _ => true) true ts vs ds ps)
    (hrun : ∀ (h : FM AObj) (c : Nat) (xs : List V), ArgsR P h c ts xs ds → WpX (fun n => evFn (FM V) (cxOf P) (fun _ => none) n (.fn f) xs) h c fun v _ _ _ => v = .bool true) :
    Calls P f ⟨vs⟩ W fun e w' => e = .returned (.bool true) ∧ Below W.heap.size W w' := by
  obtain ⟨φ, h, c, xs, _, i, r, a⟩ := args_in K hS hT hv hA _ _ _ (Stand.start W)
  obtain ⟨v, h', c', l, rfl, k, hk⟩ := hrun h c xs a
  have := evFn_ok F.cx rfl F.mixed F.good (fun _ _ h => by cases h) k (.fn f) xs h c _ _ _ _ _ W vs (hk k (Nat.le_refl _)) i.rel r (fun n hn _ => i.nm n hn)
  refine (this.calls hP (F.name hP) hb).2.mono fun e w' ⟨u, he, φ', _, _, hrel, hv⟩ => ?_
  cases hv
  exact ⟨he, hrel.below⟩

theorem TrodAll.carry {W' : World} {sp : Nat → Bool} : ∀ {ts : List Nat} {vs : List Value} {ds : List (DataW T)} {ps : List MemPlace}, DataW.TrodAll enc P W 0 sp true ts vs ds ps → (∀ p ∈ ps, W.sameAt W' p) → DataW.TrodAll enc P W' 0 sp true ts vs ds ps
  | [], [], [], _, h, _ => h
  | _ :: _, _ :: _, _ :: _, _, ⟨p, q, ⟨n, h1⟩, h2, e⟩, hs => ⟨p, q, ⟨n, DataW.trod_carry n _ _ _ h1 fun x hx => hs x (by rw [e]; exact List.mem_append_left _ hx)⟩, TrodAll.carry h2 fun x hx => hs x (by rw [e]; exact List.mem_append_right _ hx), e⟩

/-- Behind the call the arguments read as ahead of it. -/
theorem args_after {W' : World} (K : Kids P (· < P.types.size)) (hz : ∀ t e, t < P.types.size → P.underlying t = some (.slice e) → 0 < P.cellsOf e) {ts : List Nat} {vs : List Value} {ds : List (DataW T)} {ps : List MemPlace} (hT : ∀ t ∈ ts, t < P.types.size)
    (hA : DataW.TrodAll enc P W 0 (fun _ => true) true ts vs ds ps) (hlt : ∀ p ∈ ps, p.block < W.heap.size) (hk : Below W.heap.size W W') (sp : Nat → Bool) (hsp : ∀ p ∈ ps, sp p.block = true) :
    DataW.TrodAll enc P W' 0 sp true ts vs ds ps :=
  TrodAll.carry (hA.respare K hz hT hsp) fun p hp => by
    have hl := hlt p hp
    cases p with
    | cell b off => show W'.cell? _ = W.cell? _; unfold World.cell?; rw [hk.block b hl]
    | map b => exact hk.block b hl
end
end Go.Ab
