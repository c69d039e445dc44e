/- The abstract evaluator: what an operation reads of the frame; which operations of a region are tied. -/
import Derived.Test.YtcenbfjhhaialaaAc16
set_option linter.unusedVariables false
set_option linter.unusedSectionVars false
set_option linter.unusedSimpArgs false
set_option linter.unnecessarySimpa false
namespace Go.Ab
open Go.RowKit

section
variable {H E : Type} [MapI H AObj] [MapI E V] {cx : Cx} {call : Tgt → List V → M H V}

theorem evs_congr {e e' : E} : ∀ {xs : List Operand}, (∀ x ∈ xs, ev1 cx e x = ev1 cx e' x) → evs cx e xs = evs cx e' xs
  | [], _ => rfl
  | x :: xs, h => by
    unfold evs
    rw [h x (List.mem_cons_self ..), evs_congr fun y hy => h y (List.mem_cons_of_mem _ hy)]
theorem evParts_congr {e e' : E} : ∀ {xs : List (Nat × Operand)}, (∀ x ∈ xs.map (·.2), ev1 cx e x = ev1 cx e' x) → evParts cx e xs = evParts cx e' xs
  | [], _ => rfl
  | (i, x) :: xs, h => by
    unfold evParts
    rw [h x (List.mem_cons_self ..), evParts_congr fun y hy => h y (List.mem_cons_of_mem _ hy)]

theorem callM_congr {e e' : E} {c : Call} (h : ∀ x ∈ c.operands, ev1 cx e x = ev1 cx e' x) : callM cx call e c = callM cx call e' c := by
  have h1 : evs cx e c.args.toList = evs cx e' c.args.toList := evs_congr fun x hx => h x (by simp [Call.operands]; exact .inr (by simpa using hx))
  unfold callM
  rw [h1]
  cases hc : c.callee with
  | builtin b => rfl
  | value f => dsimp only; rw [h f (by simp [Call.operands, hc])]
  | invoke r m => dsimp only; rw [h r (by simp [Call.operands, hc])]

theorem opM_congr {e e' : E} {o : Oper} (h : ∀ x ∈ o.op.operands, ev1 cx e x = ev1 cx e' x) : opM cx call e o = opM cx call e' o := by
  obtain ⟨dst, op, type, pos, after, guard⟩ := o
  cases op <;> simp only [Op.operands] at h <;> simp only [opM]
  case build t ps => rw [evParts_congr fun x hx => h x (by simpa using hx)]
  case buildSlice t n ps => rw [evParts_congr fun x hx => h x (by simpa using hx)]
  case makeFunc fn first captured =>
    cases fn <;> dsimp only
    rw [evs_congr (xs := first.toList) fun x hx => h x (by simp at hx; simp [hx]), evs_congr (xs := captured.toList) fun x hx => h x (by simp at hx; simp [hx])]
  case call c => exact callM_congr h
  case makeMap t r => cases r <;> simp_all
  case slice t x lo hi mx => cases lo <;> cases hi <;> cases mx <;> simp_all [evO]
  case next x b => cases b <;> simp_all
  all_goals (first | rfl | (simp_all; done))

theorem mem_tmpsOf {t : Nat} : ∀ {l : List Operand}, Operand.tmp t ∈ l → t ∈ tmpsOf l
  | x :: l, h => by
    rcases List.mem_cons.1 h with rfl | h
    · exact List.mem_cons_self ..
    · have := mem_tmpsOf h
      cases x <;> unfold tmpsOf <;> first | exact this | exact List.mem_cons_of_mem _ this
theorem opM_looks {ops : List Oper} {e e' : E} {o : Oper} (h : ∀ t ∈ looks ops o, MapI.get e t = MapI.get e' t) : opM cx call e o = opM cx call e' o :=
  opM_congr fun x hx => by
    cases x <;> try rfl
    rename_i t
    refine h t ?_
    have := mem_tmpsOf (l := o.op.operands.toList) (by simpa using hx)
    unfold looks
    split
    · exact this
    · split
      · exact List.mem_cons_of_mem _ this
      · exact this
theorem wantedV_looks {ops : List Oper} {e e' : E} {o : Oper} (h : ∀ t ∈ looks ops o, MapI.get e t = MapI.get e' t) : wantedV ops e o = wantedV ops e' o := by
  unfold wantedV
  unfold looks at h
  split
  · rfl
  · next j want hg =>
    simp only [hg] at h
    split
    · rfl
    · next d hd =>
      simp only [hd] at h
      rw [h d (List.mem_cons_self ..)]
end

/-! ## Which operations are tied -/

def Deps (ops : List Oper) (i j : Nat) : Prop := ∃ d, (closure ops [])[j]? = some d ∧ d.testBit i = true

theorem depsOf_bit {acc : List Nat} {o : Oper} {i : Nat} (h : (depsOf acc o).testBit i = true) :
    ∃ x ∈ o.after.toList, Region.binds .any x = true ∧ (x.on = i ∨ ((nth acc x.on).getD 0).testBit i = true) := by
  unfold depsOf at h
  have key : ∀ (l : List Edge) (s : Nat), (l.foldl (fun s x => if Region.binds .any x then s ||| 2 ^ x.on ||| (nth acc x.on).getD 0 else s) s).testBit i = true →
      s.testBit i = true ∨ ∃ x ∈ l, Region.binds .any x = true ∧ (x.on = i ∨ ((nth acc x.on).getD 0).testBit i = true) := by
    intro l
    induction l with
    | nil => intro s h; exact .inl h
    | cons x l ih =>
      intro s h
      rw [List.foldl_cons] at h
      rcases ih _ h with h | ⟨y, hy, h⟩
      · cases hb : Region.binds .any x with
        | false => rw [hb] at h; exact .inl h
        | true =>
          rw [hb] at h
          simp only [if_true, Nat.testBit_or, Nat.testBit_two_pow, Bool.or_eq_true, decide_eq_true_eq] at h
          rcases h with (h | h) | h
          · exact .inl h
          · exact .inr ⟨x, List.mem_cons_self .., hb, .inl h⟩
          · exact .inr ⟨x, List.mem_cons_self .., hb, .inr h⟩
      · exact .inr ⟨y, List.mem_cons_of_mem _ hy, h⟩
  rcases key _ _ h with h | h
  · simp at h
  · exact h

theorem closure_spec : ∀ (l : List Oper) (acc : List Nat), (closure l acc).length = acc.length + l.length ∧ (∀ i, i < acc.length → (closure l acc)[i]? = acc[i]?) ∧
    ∀ i o, l[i]? = some o → (closure l acc)[acc.length + i]? = some (depsOf ((closure l acc).take (acc.length + i)) o)
  | [], acc => ⟨rfl, fun _ _ => rfl, fun i o h => by simp at h⟩
  | o :: l, acc => by
    obtain ⟨h1, h2, h3⟩ := closure_spec l (acc ++ [depsOf acc o])
    unfold closure
    rw [List.length_append, List.length_singleton] at h1 h2 h3
    refine ⟨by rw [h1, List.length_cons]; omega, fun i hi => ?_, fun i o' ho => ?_⟩
    · rw [h2 i (by omega), List.getElem?_append_left hi]
    · cases i with
      | zero =>
        cases ho
        have e1 : (closure l (acc ++ [depsOf acc o])).take acc.length = acc := by
          apply List.ext_getElem?
          intro k
          rw [List.getElem?_take]
          split
          · next hk => rw [h2 k (by omega), List.getElem?_append_left hk]
          · next hk => rw [List.getElem?_eq_none (by omega)]
        rw [Nat.add_zero, e1, h2 _ (by omega)]
        simp
      | succ i =>
        have := h3 i o' ho
        rw [show acc.length + (i + 1) = acc.length + 1 + i by omega]; exact this

theorem deps_in {ops : List Oper} {S : Nat → Bool} (hc : ∀ j o, ops[j]? = some o → S j = true → ∀ x ∈ o.after.toList, Region.binds .any x = true → S x.on = true) :
    ∀ (j : Nat) (o : Oper), ops[j]? = some o → (∀ x ∈ o.after.toList, Region.binds .any x = true → S x.on = true) → ∀ i, Deps ops i j → S i = true := by
  intro j
  induction j using Nat.strongRecOn with
  | _ j ih =>
    intro o ho hd i ⟨d, h1, h2⟩
    have h3 := (closure_spec ops []).2.2 j o ho
    rw [List.length_nil, Nat.zero_add, h1] at h3
    cases h3
    obtain ⟨x, hx, hb, hor⟩ := depsOf_bit h2
    have hs := hd x hx hb
    rcases hor with rfl | hor
    · exact hs
    · rw [nth_eq, List.getElem?_take] at hor
      split at hor
      · next hlt =>
        cases hq : (closure ops [])[x.on]? with
        | none => rw [hq] at hor; simp at hor
        | some q =>
          rw [hq] at hor
          have hlen := (List.getElem?_eq_some_iff.1 hq).1
          rw [(closure_spec ops []).1] at hlen
          simp at hlen
          exact ih x.on hlt ops[x.on] (by simp [hlen]) (fun y hy hyb => hc x.on _ (by simp [hlen]) hs y hy hyb) i ⟨q, hq, hor⟩
      · simp at hor

/-! ## Where operations meet -/

theorem hitsOne_false {n : Nat} {w : Bool} : ∀ {l : List Acc}, hitsOne n w l = false → ∀ y ∈ l, y.name = n → w = false ∧ y.writes = false
  | a :: l, h, y, hy, hn => by
    unfold hitsOne at h
    rw [Bool.or_eq_false_iff] at h
    rcases List.mem_cons.1 hy with rfl | hy
    · have : Nat.beq y.name n = true := by rw [hn]; exact Nat.beq_refl _
      have h1 := h.1
      rw [this, Bool.true_and, Bool.or_eq_false_iff] at h1
      exact h1
    · exact hitsOne_false h.2 y hy hn
theorem meet_false {m : List Acc} : ∀ {l : List Acc}, meet l m = false → ∀ x ∈ l, ∀ y ∈ m, x.name = y.name → x.writes = false ∧ y.writes = false
  | a :: l, h, x, hx, y, hy, hn => by
    unfold meet at h
    rw [Bool.or_eq_false_iff] at h
    rcases List.mem_cons.1 hx with rfl | hx
    · exact hitsOne_false h.1 y hy hn.symm
    · exact meet_false h.2 x hx y hy hn
theorem apartFrom_ok {i : Nat} {a : List Acc} : ∀ {l : List (Nat × List Acc)}, apartFrom i a l = true → ∀ p ∈ l, p.1.testBit i = true ∨ meet a p.2 = false
  | (d, b) :: l, h, p, hp => by
    unfold apartFrom at h
    rw [Bool.and_eq_true, Bool.or_eq_true] at h
    rcases List.mem_cons.1 hp with rfl | hp
    · rcases h.1 with h | h
      · exact .inl h
      · exact .inr (by simpa using h)
    · exact apartFrom_ok h.2 p hp
theorem allApart_ok : ∀ {k : Nat} {l : List (Nat × List Acc)}, allApart k l = true → ∀ (i j : Nat) (p q : Nat × List Acc), i < j → l[i]? = some p → l[j]? = some q → q.1.testBit (k + i) = true ∨ meet p.2 q.2 = false
  | k, (d, a) :: l, h, i, j, p, q, hij, hp, hq => by
    unfold allApart at h
    rw [Bool.and_eq_true] at h
    cases j with
    | zero => omega
    | succ j =>
      rw [List.getElem?_cons_succ] at hq
      cases i with
      | zero =>
        cases hp
        have h1 := h.1
        split at h1
        · exact .inr rfl
        · exact apartFrom_ok h1 q (List.mem_of_getElem? hq)
      | succ i =>
        rw [List.getElem?_cons_succ] at hp
        have := allApart_ok h.2 i j p q (by omega) hp hq
        rw [show k + (i + 1) = k + 1 + i by omega]; exact this
theorem anyWrite_ok : ∀ {l : List (List Acc)}, anyWrite l = false → ∀ a ∈ l, ∀ x ∈ a, x.writes = false
  | b :: l, h, a, ha, x, hx => by
    unfold anyWrite at h
    rw [Bool.or_eq_false_iff] at h
    rcases List.mem_cons.1 ha with rfl | ha
    · have := List.any_eq_false.1 h.1 x hx
      simpa using this
    · exact anyWrite_ok h.2 a ha x hx
theorem logsOk_ok {ops : List Oper} {logs : List (List Acc)} (h : logsOk ops logs = true) {i j : Nat} {a b : List Acc} (hij : i < j) (hj : j < ops.length) (ha : logs[i]? = some a) (hb : logs[j]? = some b)
    {x y : Acc} (hx : x ∈ a) (hy : y ∈ b) (hn : x.name = y.name) (hw : x.writes = true ∨ y.writes = true) : Deps ops i j := by
  unfold logsOk at h
  rw [Bool.or_eq_true] at h
  rcases h with h | h
  · have h : anyWrite logs = false := by simpa using h
    have h1 := anyWrite_ok h a (List.mem_of_getElem? ha) x hx
    have h2 := anyWrite_ok h b (List.mem_of_getElem? hb) y hy
    rw [h1, h2] at hw; simp at hw
  · have hl := (closure_spec ops []).1
    simp at hl
    have hz : ∀ k c, k < ops.length → logs[k]? = some c → ((closure ops []).zip logs)[k]? = some ((closure ops [])[k]?.getD 0, c) := fun k c hk hc => by
      rw [List.getElem?_zip_eq_some]
      refine ⟨?_, hc⟩
      rw [List.getElem?_eq_getElem (by omega)]; rfl
    rcases allApart_ok h i j _ _ hij (hz i a (by omega) ha) (hz j b hj hb) with h | h
    · rw [Nat.zero_add] at h
      refine ⟨_, ?_, h⟩
      simp only
      rw [List.getElem?_eq_getElem (by omega)]; rfl
    · obtain ⟨h1, h2⟩ := meet_false h x hx y hy hn
      rw [h1, h2] at hw; simp at hw

/-! ## A region's own looks: the temporaries, the edges -/

theorem hasNat_mem {n : Nat} : ∀ {l : List Nat}, n ∈ l → hasNat n l = true
  | m :: l, h => by
    unfold hasNat
    rcases List.mem_cons.1 h with rfl | h
    · rw [Nat.beq_refl]; rfl
    · rw [hasNat_mem h, Bool.or_true]
theorem edgesOk_ok : ∀ {k : Nat} {l : List Oper}, edgesOk k l = true → ∀ (j : Nat) (o : Oper), l[j]? = some o → ∀ x ∈ o.after.toList, Region.binds .any x = true → x.on < k + j
  | k, [], h, j, o', ho, x, hx, hb => by simp at ho
  | k, o :: l, h, j, o', ho, x, hx, hb => by
    unfold edgesOk at h
    rw [Bool.and_eq_true] at h
    cases j with
    | zero =>
      cases ho
      have h1 := List.all_eq_true.1 h.1 x hx
      rw [hb] at h1
      exact Nat.le_of_ble_eq_true h1
    | succ j =>
      rw [List.getElem?_cons_succ] at ho
      have := edgesOk_ok h.2 j o' ho x hx hb
      omega
theorem freeOf_ok {i : Nat} {d : Option Nat} {ls : List Nat} : ∀ {l : List (Nat × Option Nat × List Nat)}, freeOf i d ls l = true → ∀ p ∈ l,
    p.1.testBit i = true ∨ (dstIn d p.2.2 = false ∧ dstIn p.2.1 ls = false ∧ sameDst d p.2.1 = false)
  | (dep, d', ls') :: l, h, p, hp => by
    unfold freeOf at h
    rw [Bool.and_eq_true, Bool.or_eq_true] at h
    rcases List.mem_cons.1 hp with rfl | hp
    · rcases h.1 with h | h
      · exact .inl h
      · simp at h; exact .inr ⟨h.1.1, h.1.2, h.2⟩
    · exact freeOf_ok h.2 p hp
theorem allFree_ok : ∀ {k : Nat} {l : List (Nat × Option Nat × List Nat)}, allFree k l = true → ∀ (i j : Nat) (p q : Nat × Option Nat × List Nat), i < j → l[i]? = some p → l[j]? = some q →
    q.1.testBit (k + i) = true ∨ (dstIn p.2.1 q.2.2 = false ∧ dstIn q.2.1 p.2.2 = false ∧ sameDst p.2.1 q.2.1 = false)
  | k, (dep, d, ls) :: l, h, i, j, p, q, hij, hp, hq => by
    unfold allFree at h
    rw [Bool.and_eq_true] at h
    cases j with
    | zero => omega
    | succ j =>
      rw [List.getElem?_cons_succ] at hq
      cases i with
      | zero => cases hp; exact freeOf_ok h.1 q (List.mem_of_getElem? hq)
      | succ i =>
        rw [List.getElem?_cons_succ] at hp
        have := allFree_ok h.2 i j p q (by omega) hp hq
        rw [show k + (i + 1) = k + 1 + i by omega]; exact this
theorem regOk_edges {ops : List Oper} (h : regOk ops = true) {j : Nat} {o : Oper} (ho : ops[j]? = some o) {x : Edge} (hx : x ∈ o.after.toList) (hb : Region.binds .any x = true) : x.on < j := by
  unfold regOk at h
  rw [Bool.and_eq_true] at h
  have := edgesOk_ok h.1 j o ho x hx hb
  omega
theorem regOk_tmps {ops : List Oper} (h : regOk ops = true) {i j : Nat} {oi oj : Oper} (hij : i < j) (hi : ops[i]? = some oi) (hj : ops[j]? = some oj) {t : Nat}
    (ht : (oi.dst = some t ∧ (t ∈ looks ops oj ∨ oj.dst = some t)) ∨ (oj.dst = some t ∧ t ∈ looks ops oi)) : Deps ops i j := by
  unfold regOk at h
  rw [Bool.and_eq_true] at h
  have hl := (closure_spec ops []).1
  simp at hl
  have hlen := (List.getElem?_eq_some_iff.1 hj).1
  have hz : ∀ k o, ops[k]? = some o → ((closure ops []).zip (ops.map fun o => (o.dst, looks ops o)))[k]? = some ((closure ops [])[k]?.getD 0, o.dst, looks ops o) := fun k o ho => by
    have hk := (List.getElem?_eq_some_iff.1 ho).1
    rw [List.getElem?_zip_eq_some]
    refine ⟨?_, by rw [List.getElem?_map, ho]; rfl⟩
    rw [List.getElem?_eq_getElem (by omega)]; rfl
  rcases allFree_ok h.2 i j _ _ hij (hz i oi hi) (hz j oj hj) with h | ⟨h1, h2, h3⟩
  · rw [Nat.zero_add] at h
    refine ⟨_, ?_, h⟩
    simp only
    rw [List.getElem?_eq_getElem (by omega)]; rfl
  · exfalso
    simp only at h1 h2 h3
    rcases ht with ⟨hd, ht | ht⟩ | ⟨hd, ht⟩
    · rw [hd] at h1; unfold dstIn at h1; simp only at h1; rw [hasNat_mem ht] at h1; cases h1
    · rw [hd, ht] at h3; unfold sameDst at h3; simp only at h3; rw [Nat.beq_refl] at h3; cases h3
    · rw [hd] at h2; unfold dstIn at h2; simp only at h2; rw [hasNat_mem ht] at h2; cases h2
end Go.Ab
