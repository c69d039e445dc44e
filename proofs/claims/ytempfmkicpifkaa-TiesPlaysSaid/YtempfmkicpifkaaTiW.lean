/- Ties: maps of whole numbers as rising rows. -/
import Derived.Test.YtempfmkicpifkaaAd8
import Derived.Test.YtempfmkicpifkaaAdK
set_option linter.unusedVariables false
set_option linter.unusedSectionVars false
set_option linter.unusedSimpArgs false
set_option linter.unnecessarySimpa false
namespace Go.Proofs.Ytempfmkicpifkaa.Ti
open Go.Ab
set_option maxRecDepth 10000

section
variable {β : Type} {val : β → V}
def eraG (k : Int) : List (Int × β) → List (Int × β)
  | [] => []
  | (q, v) :: m => if q = k then m else (q, v) :: eraG k m
/-- A map's entries, in the order in which they came. -/
structure MapG (val : β → V) (es : List (V × V × Nat)) (ck : Nat) (m : List (Int × β)) : Prop where
  eq : es.map (fun x => (x.1, x.2.1)) = m.map fun kv => (I kv.1, val kv.2)
  lt : ∀ x ∈ es, x.2.2 < ck
  nd : (es.map fun x => x.2.2).Nodup
theorem MapG.length {es : List (V × V × Nat)} {ck : Nat} {m : List (Int × β)} (r : MapG val es ck m) : es.length = m.length := by
  have := congrArg List.length r.eq
  simpa using this
theorem MapG.add {es : List (V × V × Nat)} {ck : Nat} {m : List (Int × β)} (r : MapG val es ck m) (k : Int) (v : β) : MapG val (es ++ [(I k, val v, ck)]) (ck + 1) (m ++ [(k, v)]) :=
  ⟨by simp [r.eq], fun x hx => by
    rcases List.mem_append.1 hx with h | h
    · have := r.lt x h; omega
    · simp at h; subst h; exact Nat.lt_succ_self _, by
    rw [List.map_append, List.nodup_append]
    refine ⟨r.nd, by simp, fun a ha b hb => ?_⟩
    simp at hb; subst hb
    obtain ⟨x, hx, rfl⟩ := List.mem_map.1 ha
    have := r.lt x hx; omega⟩
theorem delNth_sub {α : Type} : ∀ {l : List α} {i : Nat} {x : α}, x ∈ delNth l i → x ∈ l
  | [], _, _, h => by simp [delNth] at h
  | y :: l, 0, x, h => List.mem_cons_of_mem _ h
  | y :: l, i + 1, x, h => by
    simp only [delNth, List.mem_cons] at h
    rcases h with rfl | h
    · exact List.mem_cons_self ..
    · exact List.mem_cons_of_mem _ (delNth_sub h)
theorem delNth_map {α γ : Type} {f : α → γ} : ∀ {l : List α} {i : Nat}, (delNth l i).map f = delNth (l.map f) i
  | [], _ => rfl
  | _ :: _, 0 => rfl
  | y :: l, i + 1 => by simp [delNth, delNth_map (l := l)]
theorem delNth_nodup {α : Type} : ∀ {l : List α} {i : Nat}, l.Nodup → (delNth l i).Nodup
  | [], _, _ => List.nodup_nil
  | _ :: _, 0, h => (List.nodup_cons.1 h).2
  | y :: l, i + 1, h => by
    obtain ⟨h1, h2⟩ := List.nodup_cons.1 h
    exact List.nodup_cons.2 ⟨fun hm => h1 (delNth_sub hm), delNth_nodup h2⟩
/-- What a look-up finds. -/
inductive FoundG (val : β → V) (es : List (V × V × Nat)) (ck : Nat) (m : List (Int × β)) (k : Int) : Option (Nat × V × Nat) → Option β → Prop where
  | no : FoundG val es ck m k none none
  | yes {i : Nat} {v : β} {b : Nat} : MapG val (delNth es i) ck (eraG k m) → FoundG val es ck m k (some (i, val v, b)) (some v)
theorem MapG.find {ck : Nat} {k : Int} : ∀ {es : List (V × V × Nat)} {m : List (Int × β)}, MapG val es ck m → ∃ r, findK (I k) es = some r ∧ FoundG val es ck m k r (m.lookup k)
  | [], [], _ => ⟨none, rfl, .no⟩
  | [], _ :: _, r => by have := r.length; simp at this
  | _ :: _, [], r => by have := r.length; simp at this
  | (q, u, b) :: es, (k', v) :: m, r => by
    have he := r.eq
    simp only [List.map_cons, List.cons.injEq, Prod.mk.injEq] at he
    obtain ⟨⟨rfl, rfl⟩, he⟩ := he
    have hnd := r.nd
    simp only [List.map_cons] at hnd
    have r' : MapG val es ck m := ⟨he, fun x hx => r.lt x (List.mem_cons_of_mem _ hx), (List.nodup_cons.1 hnd).2⟩
    by_cases hk : k = k'
    · subst hk
      refine ⟨some (0, val v, b), by simp [findK, keyEq], ?_⟩
      rw [List.lookup_cons_self]
      exact .yes (by simpa [delNth, eraG] using r')
    · obtain ⟨r0, h1, h2⟩ := r'.find (k := k)
      have hl : ((k', v) :: m).lookup k = m.lookup k := by
        rw [List.lookup_cons]
        have : (k == k') = false := by simpa using hk
        rw [this]
      rw [hl]
      have hf : keyEq (I k) (I k') = some false := by simp [keyEq, hk]
      generalize m.lookup k = o at h2 ⊢
      cases h2 with
      | no => exact ⟨none, by simp [findK, hf, h1], .no⟩
      | yes hm =>
        rename_i i v' b'
        refine ⟨some (i + 1, val v', b'), by simp [findK, hf, h1], .yes ?_⟩
        have hne : ¬ k' = k := fun e => hk e.symm
        refine ⟨by simp [delNth, eraG, hne, hm.eq], fun x hx => ?_, ?_⟩
        · simp only [delNth, List.mem_cons] at hx
          rcases hx with rfl | hx
          · exact r.lt _ (by simp)
          · exact hm.lt x hx
        · rw [delNth_map]; exact delNth_nodup (by simpa using hnd)

/-! ## Rising rows -/

def Up (S : List (Int × β)) : Prop := S.Pairwise fun a b => a.1 < b.1
def insG (x : Int × β) : List (Int × β) → List (Int × β)
  | [] => [x]
  | y :: l => if x.1 < y.1 then x :: y :: l else y :: insG x l
theorem insG_perm {x : Int × β} : ∀ {l : List (Int × β)}, (insG x l).Perm (x :: l)
  | [] => List.Perm.refl _
  | y :: l => by
    unfold insG
    split
    · exact List.Perm.refl _
    · exact ((insG_perm (l := l)).cons y).trans (List.Perm.swap x y l)
theorem look_none {S : List (Int × β)} {k : Int} : S.lookup k = none ↔ ∀ x ∈ S, x.1 ≠ k := by
  induction S with
  | nil => simp
  | cons a S ih =>
    obtain ⟨q, v⟩ := a
    rw [List.lookup_cons]
    by_cases h : k = q
    · subst h; simp
    · have : (k == q) = false := by simpa using h
      rw [this]
      simp only [ih, List.mem_cons, forall_eq_or_imp]
      exact ⟨fun h2 => ⟨fun e => h e.symm, h2⟩, fun h2 => h2.2⟩
theorem insG_up {x : Int × β} : ∀ {l : List (Int × β)}, Up l → l.lookup x.1 = none → Up (insG x l)
  | [], _, _ => by simp [insG, Up]
  | y :: l, h, hn => by
    have hne := look_none.1 hn
    unfold insG
    split
    · next hlt =>
      refine List.pairwise_cons.2 ⟨fun z hz => ?_, h⟩
      rcases List.mem_cons.1 hz with rfl | hz
      · exact hlt
      · exact Int.lt_trans hlt ((List.pairwise_cons.1 h).1 z hz)
    · next hlt =>
      refine List.pairwise_cons.2 ⟨fun z hz => ?_, insG_up (List.pairwise_cons.1 h).2 (look_none.2 fun z hz => hne z (List.mem_cons_of_mem _ hz))⟩
      rcases List.mem_cons.1 (insG_perm.mem_iff.1 hz) with rfl | hz
      · have := hne y (List.mem_cons_self ..)
        omega
      · exact (List.pairwise_cons.1 h).1 z hz
theorem eraG_sub {k : Int} : ∀ {l : List (Int × β)}, (eraG k l).Sublist l
  | [] => List.Sublist.slnil
  | (q, v) :: l => by
    unfold eraG
    split
    · exact List.sublist_cons_self ..
    · exact (eraG_sub (l := l)).cons_cons _
theorem eraG_up {k : Int} {S : List (Int × β)} (h : Up S) : Up (eraG k S) := List.Pairwise.sublist eraG_sub h
theorem eraG_none {k : Int} : ∀ {m : List (Int × β)}, m.lookup k = none → eraG k m = m
  | [], _ => rfl
  | (q, v) :: m, h => by
    rw [List.lookup_cons] at h
    by_cases e : q = k
    · subst e; simp at h
    · have : (k == q) = false := by simpa using fun x => e x.symm
      rw [this] at h
      simp only [eraG, if_neg e, eraG_none h]
theorem eraG_filter {k : Int} : ∀ {m : List (Int × β)}, (m.map (·.1)).Nodup → eraG k m = m.filter fun x => !(x.1 == k)
  | [], _ => rfl
  | (q, v) :: m, h => by
    simp only [List.map_cons, List.nodup_cons] at h
    by_cases e : q = k
    · subst e
      have : m.filter (fun x => !(x.1 == q)) = m := List.filter_eq_self.2 fun x hx => by
        have : x.1 ≠ q := fun e => h.1 (List.mem_map.2 ⟨x, hx, e⟩)
        simpa using this
      simp [eraG, this]
    · simp [eraG, e, eraG_filter h.2]
theorem Up.nodup {S : List (Int × β)} (h : Up S) : (S.map (·.1)).Nodup := List.pairwise_map.2 (h.imp fun h => by omega)
theorem perm_look {m S : List (Int × β)} (hp : m.Perm S) (hu : Up S) (k : Int) : m.lookup k = S.lookup k := by
  have key : ∀ {l : List (Int × β)} {k : Int} {v : β}, (l.map (·.1)).Nodup → (l.lookup k = some v ↔ (k, v) ∈ l) := fun {l k v} hn => by
    induction l with
    | nil => simp
    | cons a l ih =>
      obtain ⟨q, u⟩ := a
      simp only [List.map_cons, List.nodup_cons] at hn
      rw [List.lookup_cons]
      by_cases e : k = q
      · subst e
        simp only [beq_self_eq_true, Option.some.injEq, List.mem_cons, Prod.mk.injEq, true_and]
        constructor
        · intro h; exact .inl h.symm
        · rintro (h | h)
          · exact h.symm
          · exact absurd (List.mem_map.2 ⟨_, h, rfl⟩) hn.1
      · have : (k == q) = false := by simpa using e
        simp only [this, List.mem_cons, Prod.mk.injEq, e, false_and, false_or, ih hn.2]
  have hS := hu.nodup
  have hm : (m.map (·.1)).Nodup := (hp.map (·.1)).nodup_iff.2 hS
  cases h : S.lookup k with
  | none =>
    rw [look_none] at h ⊢
    exact fun x hx => h x (hp.mem_iff.1 hx)
  | some v => exact (key hm).2 (hp.mem_iff.2 ((key hS).1 h))
theorem perm_era {m S : List (Int × β)} (hp : m.Perm S) (hu : Up S) (k : Int) : (eraG k m).Perm (eraG k S) := by
  have hS := hu.nodup
  have hm : (m.map (·.1)).Nodup := (hp.map (·.1)).nodup_iff.2 hS
  rw [eraG_filter hm, eraG_filter hS]
  exact hp.filter _
def InK (S : List (Int × β)) : Prop := ∀ x ∈ S, -9223372036854775808 ≤ x.1 ∧ x.1 ≤ 9223372036854775807

/-- The map at a name, as a rising row. -/
def MapS (val : β → V) (h : HH) (a : Nat) (S : List (Int × β)) : Prop := ∃ es ck m, MapI.get h a = some (.map true es ck) ∧ MapG val es ck m ∧ m.Perm S ∧ Up S ∧ InK S ∧ S.length ≤ 1000
theorem MapS.keep {h h' : HH} {a : Nat} {S : List (Int × β)} (r : MapS val h a S) (e : MapI.get h' a = MapI.get h a) : MapS val h' a S := by
  obtain ⟨es, ck, m, h1, h2⟩ := r
  exact ⟨es, ck, m, by rw [e]; exact h1, h2⟩
theorem sortZ_rising {l l' : List Int} (hp : l.Perm l') (hs : l'.Pairwise (· < ·)) : sortZ l = l' := by
  refine List.Perm.eq_of_pairwise (le := fun a b => a ≤ b) (fun a b _ _ h1 h2 => Int.le_antisymm h1 h2) sortZ_sorted (hs.imp fun h => Int.le_of_lt h) (sortZ_perm.trans hp)
theorem noDupZ_of : ∀ {l : List Int}, l.Nodup → noDupZ l = true
  | [], _ => rfl
  | x :: l, h => by
    obtain ⟨h1, h2⟩ := List.nodup_cons.1 h
    have : hasZ x l = false := by
      rw [Bool.eq_false_iff]; intro e; exact h1 (hasZ_iff.1 e)
    simp [noDupZ, this, noDupZ_of h2]
theorem noDupN_of : ∀ {l : List Nat}, l.Nodup → noDupN l = true
  | [], _ => rfl
  | x :: l, h => by
    obtain ⟨h1, h2⟩ := List.nodup_cons.1 h
    have : hasN x l = false := by
      rw [Bool.eq_false_iff]; intro e; rw [hasN_ok] at e; exact h1 (by simpa using e)
    simp [noDupN, this, noDupN_of h2]
theorem keysZ_of : ∀ {es : List (V × V × Nat)} {m : List (Int × β)}, es.map (fun x => (x.1, x.2.1)) = m.map (fun kv => (I kv.1, val kv.2)) → InK m → keysZ es = some (m.map (·.1))
  | [], [], _, _ => rfl
  | [], _ :: _, h, _ => by cases h
  | _ :: _, [], h, _ => by cases h
  | (q, u, b) :: es, (k, v) :: m, h, hi => by
    simp only [List.map_cons, List.cons.injEq, Prod.mk.injEq] at h
    obtain ⟨⟨rfl, _⟩, h⟩ := h
    have h0 := hi (k, v) (List.mem_cons_self ..)
    have ih := keysZ_of h fun x hx => hi x (List.mem_cons_of_mem _ hx)
    have hd : (decide (-9223372036854775808 ≤ k) && decide (k ≤ 9223372036854775807)) = true := by
      simp only [Bool.and_eq_true, decide_eq_true_eq]; exact h0
    show (bif decide (-9223372036854775808 ≤ k) && decide (k ≤ 9223372036854775807) then match keysZ es with | some l => some (k :: l) | none => none else none) = _
    rw [hd, ih]; rfl
/-- What the sort asks. -/
theorem MapS.sorts {h : HH} {a : Nat} {S : List (Int × β)} (r : MapS val h a S) : ∃ es ck ks, MapI.get h a = some (.map true es ck) ∧ keysZ es = some ks ∧ goodMap es ck ks = true ∧ sortZ ks = S.map (·.1) ∧ ks.length = S.length := by
  obtain ⟨es, ck, m, h1, h2, h3, h4, h5, h6⟩ := r
  have hmk : InK m := fun x hx => h5 x (h3.mem_iff.1 hx)
  have hl := h2.length
  have hl2 := h3.length_eq
  refine ⟨es, ck, m.map (·.1), h1, keysZ_of h2.eq hmk, ?_, sortZ_rising (h3.map (·.1)) (List.pairwise_map.2 h4), by simp [hl2]⟩
  unfold goodMap
  simp only [Bool.and_eq_true]
  refine ⟨noDupZ_of ((h3.map (·.1)).nodup_iff.2 h4.nodup), noDupN_of h2.nd, List.all_eq_true.2 fun x hx => Nat.ble_eq_true_of_le (h2.lt x hx), Nat.ble_eq_true_of_le (by omega)⟩
end

/-! ## Operations -/

section
variable {h : HH} {c : Nat} {e : EE}
variable {call : Nat → Tgt → List V → M HH V} {W : V → HH → Nat → List Acc → Prop} {ds : Option Tmp} {ty : Nat} {pos : String} {af : Array Edge} {gd : Option (Nat × Bool)}
theorem op_mapNew {t kt et : Nat} {x y z : Operand} {n : Nat} {es : List (V × V × Nat)} {ck : Nat} {k v : V} {kd : TypeDesc} (hx : ev1 cx e x = some (.map (some n))) (hy : ev1 cx e y = some k) (hz : ev1 cx e z = some v)
    (hd : cx.desc t = some (.map kt et)) (hkd : cx.desc kt = some kd) (hk : keyOk kd k = true) (hh : MapI.get h n = some (.map true es ck)) (hf : findK k es = some none)
    (q : W (.tuple []) (MapI.set h n (.map true (es ++ [(k, v, ck)]) (ck + 1))) c [.rd n, .wr n]) :
    WpX (fun k => opM cx (call k) e ⟨ds, .mapUpdate t x y z, ty, pos, af, gd⟩) h c W :=
  WpX.pure (fun k' => by
    show bnd (lift "operand" (ev1 cx e x)) (fun a => bnd (lift "operand" (ev1 cx e y)) fun b => bnd (lift "operand" (ev1 cx e z)) fun c => mapUpdateM cx t a b c) h c = _
    rw [hx, hy, hz]
    refine bnd_eq (l := []) (l' := [.rd n, .wr n]) lift_eq (bnd_eq (l := []) (l' := [.rd n, .wr n]) lift_eq (bnd_eq (l := []) (l' := [.rd n, .wr n]) lift_eq ?_))
    unfold mapUpdateM
    simp only [hd, hkd, hk, if_true]
    refine bnd_eq (l := [.rd n]) (l' := [.wr n]) (getM_eq hh) ?_
    simp only [hf]
    exact bnd_eq (l := [.wr n]) (l' := []) (setM_eq hh) rfl) q
end
end Go.Proofs.Ytempfmkicpifkaa.Ti
