/- The abstract evaluator against the model: conversions, built-ins, operations. The abstract evaluator against the model: one operation. The abstract evaluator against the model: every operation. The abstract evaluator: what an operation does hangs on the names that it accesses alone. The abstract evaluator: what an operation reads of the frame; which operations of a region are tied. The abstract evaluator against the model: regions. The abstract evaluator against the model: code, functions. A lawful finite map over the natural numbers: a tree of bits. A function that the abstract evaluator answers with 'true' returns true and turns nothing that was there; a row's step out of that. Functions that stand as 'prim' (their proofs: AdC). The abstract evaluator: from a heap without entries at the next name or beyond, a run touches names below its last next name alone (its lower part is Ac16's with another word). slices.Sorted of a map's keys, as a 'prim' (its proof: AdK). slices.SortFunc of a row of pointers, by a whole number that each points at, as a 'prim' (its proof: AdO). This seat's functions that stand as 'prim'. The calculus at this seat's program. Contracts with footprints; maps of ints. What is handed in, read as data, stands in an abstract heap; and a law's row out of its run. For any program. A law's row out of its run by the evaluator. For any program. A function without parameters that the evaluator runs to 'true' on an empty heap answers 'true' on any: as a 'prim'. The calculus: bounds of what a call touches. -/
import Derived.Test.YtjnfjnmgfpffcaaGreatPa
import Derived.Maps.RangeRun
import Derived.OrdersIn
import Derived.RangeFuncSeq
import Derived.LoopNIn
import Derived.RangeFuncLeaves
import Derived.RangeFuncRecord
import Derived.ChangeSame
import Derived.Test.YtjnfjnmgfpffcaaGreatChecked
import Derived.KernelRfl
import Derived.ChangeArms
import Derived.OpenShut
import Derived.ReadAgain
import Derived.ChangeBears
set_option linter.unusedVariables false
set_option linter.unusedSectionVars false
set_option linter.unusedSimpArgs false
set_option linter.unnecessarySimpa false
namespace Go.Ab
open Go.RowKit
section
variable {H : Type} [MapI H AObj] {P : Program} {ng : Nat} {w0 w : World} {φ : Nm} {h h' : H} {c c' : Nat} {l : List Acc}
theorem foldl_push (ns : List Int) : ∀ (acc : ByteArray), ns.foldl (fun (r : ByteArray) n => r.push (UInt8.ofNat n.toNat)) acc = ⟨⟨acc.data.toList ++ ns.map (fun n => UInt8.ofNat n.toNat)⟩⟩ := by
 induction ns with
 | nil => intro acc; simp
 | cons n ns ih => intro acc; simp only [List.foldl_cons, ih, List.map_cons]; simp
theorem Done.value {v : V} {s : Sem Value} (hd : Done P ng w0 φ c c' h' w v s) : ∃ φ' u w', Ext φ φ' c c' /\ c <= c' /\ Rel ng w0 φ' h' w' /\ VR φ' v u /\ (do pure (.value (<- s)) : Sem Next).run P w = .ok (.value u) w' := by
 obtain ⟨φ', u, w', h1, h2, h3, h4, h5⟩ := hd
 exact ⟨φ', u, w', h1, h2, h3, h4, by simp [h5]⟩
theorem runes_eq {s : ByteArray} : ∀ (b i : Nat) (acc : Array Value), (Conv.runesFrom s b i acc).toList = acc.toList ++ (runesL s b i).map fun z => Value.int .i32 z
 | 0, i, acc => by simp [Conv.runesFrom, runesL]
 | b + 1, i, acc => by
  unfold Conv.runesFrom runesL
  by_cases h : i < s.size
  ·simp only [if_pos h]
   rw [runes_eq b]
   simp
  ·simp [if_neg h]
theorem i32s_ok {φ : Nm} : ∀ l : List Int, VRs φ (i32s l) (l.map fun z => Value.int .i32 z)
 | [] => .nil
 | z :: l => .cons (.int _ _) (i32s_ok l)
variable {cx : Cx} (hcx : qJ P cx)
include hcx
theorem convertM_ok (r : Rel ng w0 φ h w) {s d : Nat} {x v : V} {x' : Value} (hx : VR φ x x') (e : convertM cx s d x h c = .ok v h' c' l) (hf : Fresh φ c c') :
  Done P ng w0 φ c c' h' w v (convert s d x') := by
 unfold convertM at e
 generalize hs : cx.desc s = ds at e
 generalize hd : cx.desc d = dd at e
 split at e
 ·next k1 k n =>
  cases hx
  obtain ⟨rfl, rfl, rfl, _⟩ := z7 e
  exact j7 r (.int _ _) (by simp [convert, jv hcx hs, jv hcx hd, Conv.intToInt])
 ·next b =>
  cases hx
  obtain ⟨rfl, rfl, rfl, _⟩ := z7 e
  exact j7 r (.str _) (by simp [convert, jv hcx hs, jv hcx hd])
 ·next el b =>
  cases hx
  cases he : cx.desc el with
  | none => simp only [he] at e; exact (zY e).elim
  | some de =>
   simp only [he] at e
   cases de <;> try exact (zY e).elim
   rename_i ik
   cases ik <;> try exact (zY e).elim
   case i32 =>
    simp only at e
    obtain ⟨n, h1, c1, l1, l2, e1, e2, _⟩ := z8 e
    obtain ⟨rfl, rfl, rfl, _⟩ := jF e1
    obtain ⟨rfl, rfl, rfl, _⟩ := z7 e2
    have hc := hf n (by omega) (by omega)
    have hsz : (⟨⟨b⟩⟩ : ByteArray).size = b.length := rfl
    have hR : Conv.runesFrom ⟨⟨b⟩⟩ b.length 0 #[] = ⟨(runesL ⟨⟨b⟩⟩ b.length 0).map fun z => Value.int .i32 z⟩ := by
     apply Array.toList_inj.1
     rw [runes_eq]; simp
    generalize hrl : runesL ⟨⟨b⟩⟩ b.length 0 = rl at hR
    have hcap : rl.length <= grownCap w rl.length 0 el := grownCap_ge _ _ _ _
    let C : Array Value := (⟨rl.map fun z => Value.int .i32 z⟩ : Array Value) ++ Array.replicate (grownCap w rl.length 0 el - rl.length) (.int .i32 0)
    have hCs : C.size = grownCap w rl.length 0 el := by simp only [C, Array.size_append, Array.size_replicate, List.size_toArray, List.length_map]; omega
    have hrow := (r.drew (w.drawn + 1)).newRow (c := n) (e := el) (C := C) (vs := i32s rl) (fr := (0, 0)) (cl := true) hc
     (by rw [hCs]; simp [i32s]; exact hcap) (fun i v hi => by
      obtain ⟨u, h1, h2⟩ := (i32s_ok (φ := φ) rl).get hi
      refine ⟨u, ?_, h2⟩
      have hlt : i < rl.length := by
       rcases Nat.lt_or_ge i rl.length with h | h
       ·exact h
       ·rw [List.getElem?_eq_none (by simpa using h)] at h1; cases h1
      have : C[i]? = (⟨rl.map fun z => Value.int .i32 z⟩ : Array Value)[i]? := Array.getElem?_append_left (by simpa using hlt)
      rw [this, <- h1]; simp) (fun j hj => by simp) (fun _ => rfl)
    refine ⟨_, .slice (some ⟨w.heap.size, 0, none⟩) rl.length (grownCap w rl.length 0 el), _, Ext.put _ hc, by omega, hrow, ?_, ?_⟩
    ·refine VR.sliceU (L := ⟨w.heap.size, 0, C.size⟩) 0 _ _ _ j1 ?_ hcap (by omega)
     simp only [hCs]; omega
    ·have hdraw : (choose (.appendCap rl.length 0 el)).run P w = .ok (grownCap w rl.length 0 el) { w with drawn := w.drawn + 1 } := by simp [Question.forced, grownCap]
     have hlen : (⟨rl.map fun z => Value.int .i32 z⟩ : Array Value).size = rl.length := by simp
     simp only [convert, Sem.run_bind, jv hcx hs, jv hcx hd, jv hcx he, Result.andThen_ok, Conv.stringToRunes, hsz, hR, hlen, hdraw, newRow, run_newObj, Sem.run_pure]
     rfl
   simp only at e
   by_cases hl : b.length <= 1000000000
   rotate_left
   ·rw [if_neg hl] at e; exact (zY e).elim
   rw [if_pos hl] at e
   obtain ⟨n, h1, c1, l1, l2, e1, e2, _⟩ := z8 e
   obtain ⟨rfl, rfl, rfl, _⟩ := jF e1
   obtain ⟨rfl, rfl, rfl, _⟩ := z7 e2
   have hc := hf n (by omega) (by omega)
   -- the row: the bytes, and nulls up to the capacity that is drawn
   have hcap : b.length <= grownCap w b.length 0 el := grownCap_ge _ _ _ _
   have hsz : (⟨⟨b⟩⟩ : ByteArray).size = b.length := rfl
   let C : Array Value := (⟨⟨b⟩⟩ : ByteArray).data.map (fun (x : UInt8) => Value.int .u8 x.toNat) ++ Array.replicate (grownCap w b.length 0 el - b.length) (.int .u8 0)
   have hCs : C.size = grownCap w b.length 0 el := by simp only [C, Array.size_append, Array.size_map, Array.size_replicate, List.size_toArray]; omega
   have hrow := (r.drew (w.drawn + 1)).newRow (c := n) (e := el) (C := C) (vs := u8s b) (fr := (grownCap w b.length 0 el, grownCap w b.length 0 el + 1)) (cl := false) hc
    (by rw [hCs]; simp [u8s]; exact hcap) (fun i v hi => by
     obtain ⟨u, h1, h2⟩ := (u8s_ok (φ := φ) b).get hi
     refine ⟨u, ?_, h2⟩
     have hlt : i < b.length := by
      rcases Nat.lt_or_ge i b.length with h | h
      ·exact h
      ·rw [List.getElem?_eq_none (by simpa using h)] at h1; cases h1
     have : C[i]? = ((⟨⟨b⟩⟩ : ByteArray).data.map (fun (x : UInt8) => Value.int .u8 x.toNat))[i]? := Array.getElem?_append_left (by simpa using hlt)
     rw [this, <- h1]; simp) (fun j hj => by rw [hCs] at hj; simp; omega) (fun h => by cases h)
   refine ⟨_, .slice (some ⟨w.heap.size, 0, none⟩) b.length (grownCap w b.length 0 el), _, Ext.put _ hc, by omega, hrow, ?_, ?_⟩
   ·refine VR.sliceU (L := ⟨w.heap.size, 0, C.size⟩) 0 _ _ _ j1 ?_ hcap (by omega)
    simp only [hCs]; omega
   ·have hdraw : (choose (.appendCap b.length 0 el)).run P w = .ok (grownCap w b.length 0 el) { w with drawn := w.drawn + 1 } := by simp [Question.forced, grownCap]
    simp only [convert, Sem.run_bind, jv hcx hs, jv hcx hd, jv hcx he, Result.andThen_ok, Conv.stringToBytes, hsz, hdraw, newRow, run_newObj, Sem.run_pure, markStringish, run_shape]
    have hsh : ({ ({ w with drawn := w.drawn + 1 } : World) with heap := w.heap.push (Obj.cells C el) } : World).shape? w.heap.size = some (el, grownCap w b.length 0 el) := by
     simp [World.shape?, hCs]
    simp only [C] at hsh
    simp only [hsh, run_freeze, Result.andThen_ok]
    congr 1
    unfold World.freeze
    rw [if_neg (by decide)]
    simp only [World.alloc]
    congr 1
    apply Array.ext_getElem?
    intro j
    by_cases hj : w.heap.size = j
    ·subst hj
     rw [Array.getElem?_modify, if_pos rfl]
     simp only [Array.getElem?_push_size, Option.map_some, C]
     rfl
    ·rw [Array.getElem?_modify, if_neg hj, Array.getElem?_push, Array.getElem?_push, if_neg (Ne.symm hj), if_neg (Ne.symm hj)]
 ·next el a len cap =>
  cases he : cx.desc el with
  | none => simp only [he] at e; exact (zY e).elim
  | some de =>
   simp only [he] at e
   cases de <;> try exact (zY e).elim
   rename_i ik
   cases ik <;> try exact (zY e).elim
   have conv : ∀ q lq cq, (convert s d (.slice q lq cq)).run P w = (Conv.bytesToString (.slice q lq cq)).run P w := fun q lq cq => by
    simp [convert, jv hcx hs, jv hcx hd, jv hcx he]
   have main : ∀ (m o : Nat) (L : Loc) (cc : Nat) (b : Addr), a = some (m, o) -> x' = .slice (some b) len cc -> φ m = some L -> (0 < len -> b = ⟨L.blk, L.off + o, none⟩) -> Done P ng w0 φ c c' h' w v (convert s d x') := by
    intro m o L cc b ha hxe hL hba
    subst ha; subst hxe
    simp only at e
    by_cases h0 : len = 0
    ·rw [if_pos h0] at e
     obtain ⟨rfl, rfl, rfl, _⟩ := z7 e
     subst h0
     refine j7 r (.str _) ?_
     rw [conv, run_bytesToString w b 0 cc [] (by rfl)]
     rfl
    ·rw [if_neg h0] at e
     obtain ⟨cs, h1, c1, l1, l2, e1, e2, _⟩ := z8 e
     obtain ⟨rfl, rfl, hl, L', us, hL', hul, hv, hrun, _⟩ := loadC_ok (P := P) r e1
     rw [hL] at hL'; cases hL'
     obtain ⟨st, h2, c2, l3, l4, e3, e4, _⟩ := z8 e2
     obtain ⟨hst, rfl, rfl, _⟩ := yH e3
     obtain ⟨rfl, rfl, rfl, _⟩ := z7 e4
     obtain ⟨ns, hns, hss⟩ := bytesOfV_ok hv hst
     have hba := hba (by omega)
     subst hba
     rw [hns] at hrun
     refine j7 r (.str _) ?_
     rw [conv, run_bytesToString w _ len cc ns hrun, foldl_push, hss]
     rfl
   cases hx
   case sliceNil =>
    obtain ⟨rfl, rfl, rfl, _⟩ := z7 e
    refine j7 r (.str _) ?_
    rw [conv]; rfl
   case sliceK hL hle => exact main _ _ _ _ _ rfl rfl hL (fun _ => rfl)
   case sliceK0 hL => exact main _ _ _ _ _ rfl rfl hL (fun h => by omega)
   case sliceU hL _ _ _ => exact main _ _ _ _ _ rfl rfl hL (fun _ => rfl)
   case sliceZ hL _ _ => exact main _ _ _ _ _ rfl rfl hL (fun h => by omega)
 ·exact (zY e).elim
end
open Go.RowKit
def fe (ro : Option Nat) : Fence := { Fence.wide with round := ro }
theorem callsIn_fe {ro : Option Nat} {n : Nat} {P : Program} {f : FuncId} {args : Array Value} {w : World} {R : Ending -> World -> Prop} : CallsIn (fe ro) n P f args w R ↔ Calls P f args w R :=
 (Iff.rfl : CallsIn (fe ro) n P f args w R ↔ CallsIn Fence.wide n P f args w R).trans callsIn_wide
def Answers (P : Program) (φ : Nm) (t : Tgt) (xs : Array Value) (w : World) (R : Value -> World -> Prop) : Prop :=
 match t with
 | .fn f =>
  ((callFunc f xs).run P w = .ok (.enter f xs) w /\ Calls P f xs w fun e w' => ∃ u, e = .returned u /\ R u w') \/
  (∃ u w', (callFunc f xs).run P w = .ok (.value u) w' /\ R u w')
 | .yl n => ∃ L, φ n = some L /\ YieldAt Fence.wide 0 P L.blk xs w fun e w' => ∃ u, e = .returned u /\ R u w'
section
variable {H : Type} [MapI H AObj]
def gy (P : Program) (ng : Nat) (w0 : World) (call : Tgt -> List V -> M H V) : Prop :=
 ∀ t xs h c v h' c' l φ w xs', call t xs h c = .ok v h' c' l -> Rel ng w0 φ h w -> VRs φ xs xs' -> Fresh φ c c' ->
  Answers P φ t ⟨xs'⟩ w fun u w' => ∃ φ', Ext φ φ' c c' /\ c <= c' /\ Rel ng w0 φ' h' w' /\ VR φ' v u
end
section
variable {H E : Type} [MapI H AObj] [MapI E V] {P : Program} {ng : Nat} {w0 w : World} {φ : Nm} {h h' : H} {c c' : Nat} {l : List Acc}
def ER (φ : Nm) (e : E) (ts : Array Value) : Prop := ∀ t v, MapI.get e t = some v -> ∃ u, ts[t]? = some u /\ VR φ v u
theorem ER.mono {φ φ' : Nm} (hm : ∀ n L, φ n = some L -> φ' n = some L) {e : E} {ts : Array Value} (r : ER φ e ts) : ER φ' e ts := fun t v hv => by
 obtain ⟨u, h1, h2⟩ := r t v hv; exact ⟨u, h1, h2.mono hm⟩
variable {a : Act} {e : E} {cx : Cx}
theorem q7 (he : ER φ e a.tmps) (r : Rel ng w0 φ h w) (hng : cx.ng = ng) {x : Operand} {v : V} (hv : ev1 cx e x = some v) : VR φ v (a.eval x) := by
 cases x with
 | tmp t =>
  obtain ⟨u, h1, h2⟩ := he t v hv
  have : a.eval (.tmp t) = u := by simp [Act.eval, Array.getD_eq_getD_getElem?, h1]
  rw [this]; exact h2
 | const c => exact toV_ok hv
 | global g =>
  have hv : (if g < cx.ng then some (V.ptr (some (g, 0))) else none) = some v := hv
  split at hv
  ·next hg =>
   cases hv
   obtain ⟨L, h1, h2, h3⟩ := r.glob g (by rw [<- hng]; exact hg)
   have := VR.ptr (φ := φ) 0 h1
   rw [h2, h3] at this; exact this
  ·cases hv
 | func f =>
  have hv : some (V.func (.func f) [] []) = some v := hv
  cases hv; exact .func .nil .nil
theorem evs_ok (he : ER φ e a.tmps) (r : Rel ng w0 φ h w) (hng : cx.ng = ng) : ∀ {xs : List Operand} {vs : List V}, evs cx e xs = some vs -> VRs φ vs (xs.map a.eval)
 | [], vs, hv => by unfold evs at hv; cases hv; exact .nil
 | x :: xs, vs, hv => by
  unfold evs at hv
  split at hv
  ·cases hv
  ·next v h1 =>
   split at hv
   ·cases hv
   ·next ws h2 => cases hv; exact .cons (q7 he r hng h1) (evs_ok he r hng h2)
theorem evParts_ok (he : ER φ e a.tmps) (r : Rel ng w0 φ h w) (hng : cx.ng = ng) : ∀ {xs : List (Nat × Operand)} {vs : List (Nat × V)}, qQ cx e xs = some vs -> PRs φ vs (xs.map fun (i, x) => (i, a.eval x))
 | [], vs, hv => by unfold qQ at hv; cases hv; exact .nil
 | (i, x) :: xs, vs, hv => by
  unfold qQ at hv
  split at hv
  ·cases hv
  ·next v h1 =>
   split at hv
   ·cases hv
   ·next ws h2 => cases hv; exact .cons (q7 he r hng h1) (evParts_ok he r hng h2)
theorem evO_ok (he : ER φ e a.tmps) (r : Rel ng w0 φ h w) (hng : cx.ng = ng) {x : Option Operand} {v : Option V} (hv : evO cx e x = some v) : VRo φ v (x.map a.eval) := by
 unfold evO at hv
 cases x with
 | none => cases hv; exact .none
 | some x =>
  simp only at hv
  split at hv
  ·next v' h1 => cases hv; exact .some (q7 he r hng h1)
  ·cases hv
theorem arr_map {α β : Type} (xs : Array α) (f : α -> β) : xs.map f = ⟨xs.toList.map f⟩ := by apply Array.ext'; simp
variable {o : Oper} {next : Act -> World -> Prop} {Q : Exit -> Act -> World -> Prop}
variable {ro : Option Nat}
theorem kF {x : Result Next} (hnd : ∀ c, o.op ≠ .defer c) (hr : (execOp a.eval o).run P w = x) (hn : o.uponIn (fe ro) 0 P a next Q x) : o.wpIn (fe ro) 0 P a w next Q := by
 unfold Oper.wpIn
 refine ⟨fun _ _ => trivial, ?_⟩
 rw [show (fe ro).round = ro from rfl, Oper.semAt_eq ro a.eval o hnd, hr]; exact hn
theorem yD {u : Value} {w' : World} (hnd : ∀ c, o.op ≠ .defer c) (hr : (execOp a.eval o).run P w = .ok (.value u) w') (hn : next (a.put o.dst u) w') : o.wpIn (fe ro) 0 P a w next Q :=
 kF hnd hr hn
theorem wd {w' : World} (hnd : ∀ c, o.op ≠ .defer c) (hr : (execOp a.eval o).run P w = .ok .skip w') (hn : next (a.put o.dst undef) w') : o.wpIn (fe ro) 0 P a w next Q :=
 kF hnd hr hn
theorem wp_of_answers {f : Nat} {xs : Array Value} {R : Value -> World -> Prop} {φ : Nm} (hnd : ∀ c, o.op ≠ .defer c) (hr : (execOp a.eval o).run P w = (callFunc f xs).run P w) (ha : Answers P φ (.fn f) xs w R)
  (hn : ∀ u w', R u w' -> next (a.put o.dst u) w') : o.wpIn (fe ro) 0 P a w next Q := by
 rcases ha with ⟨h1, h2⟩ | ⟨u, w', h1, h2⟩
 ·refine kF hnd (hr.trans h1) ?_
  rw [Oper.uponIn_enter]
  refine ⟨fun h => (by cases h), callsIn_fe.2 (h2.mono fun e w' ⟨u, he, hR⟩ => ?_)⟩
  subst he; exact hn u w' hR
 ·exact kF hnd (hr.trans h1) (hn u w' h2)
theorem wp_of_yield {l : Nat} {xs : Array Value} {R : Value -> World -> Prop} {φ : Nm} {n : Nat} {L : Loc} (hnd : ∀ c, o.op ≠ .defer c) (hL : φ n = some L) (hl : l = L.blk) (hr : (execOp a.eval o).run P w = (Instr.yield l xs).run P w)
  (ha : Answers P φ (.yl n) xs w R) (hn : ∀ u w', R u w' -> next (a.put o.dst u) w') : o.wpIn (fe ro) 0 P a w next Q := by
 obtain ⟨K, hK, fn, tmps, assign, body, h1, h2⟩ := ha
 rw [hL] at hK; cases hK
 subst hl
 refine kF hnd (hr.trans h1) ?_
 rw [Oper.uponIn_round]
 refine ⟨fun h => (by cases h), RoundIn.mono (R := fun e w' => ∃ u, e = .returned u /\ R u w') h2 fun e w' ⟨u, he, hR⟩ => ?_⟩
 subst he; exact hn u w' hR
theorem VRs.inv {x : V} {xs : List V} {us : List Value} (hx : VRs φ (x :: xs) us) : ∃ u us', us = u :: us' /\ VR φ x u /\ VRs φ xs us' := by
 cases hx with
 | cons a b => exact ⟨_, _, rfl, a, b⟩
theorem clearM_ok (hcx : qJ P cx) (r : Rel ng w0 φ h w) {t ty : Nat} {x v : V} {x' : Value} {ts : List Nat} {xs : List Value} (hx : VR φ x x') (e : clearM cx t x h c = .ok v h' c' l) :
  c' = c /\ v = .tuple [] /\ ∃ w', Rel ng w0 φ h' w' /\ (Builtin.clear_ ⟨t :: ts⟩ ty ⟨x' :: xs⟩).run P w = .ok (.tuple #[]) w' := by
 unfold clearM at e
 cases hd : cx.desc t with
 | none => simp only [hd] at e; exact (zY e).elim
 | some d =>
  have hu := jf hcx hd
  simp only [hd] at e
  cases d <;> try exact (zY e).elim
  rename_i el
  cases x <;> try exact (zY e).elim
  rename_i a n cap
  cases a with
  | none =>
   cases hx with | sliceNil => ?_
   obtain ⟨rfl, rfl, rfl, _⟩ := z7 e
   exact ⟨rfl, rfl, w, r, by simp [Builtin.clear_, run_underlying hu]⟩
  | some p =>
   obtain ⟨m, o⟩ := p
   simp only at e
   have main : ∀ (L : Loc) (cp : Nat), φ m = some L -> x' = .slice (some ⟨L.blk, L.off + o, none⟩) n cp -> n ≠ 0 -> c' = c /\ v = .tuple [] /\ ∃ w', Rel ng w0 φ h' w' /\ (Builtin.clear_ ⟨t :: ts⟩ ty ⟨x' :: xs⟩).run P w = .ok (.tuple #[]) w' := by
    intro L cp hL hx' hn
    subst hx'
    rw [if_neg hn] at e
    obtain ⟨z, h1, c1, l1, l2, e1, e2, _⟩ := z8 e
    obtain ⟨hz, rfl, rfl, _⟩ := yH e1
    obtain ⟨i, zv, hi, hiz, hpos, hzs, hzl, hzr⟩ := wc hcx hz
    split at e2
    rotate_left
    ·exact (zY e2).elim
    next h1z =>
    obtain ⟨u, h2, c2, l3, l4, e3, e4, _⟩ := z8 e2
    obtain ⟨rfl, rfl, rfl, _⟩ := z7 e4
    obtain ⟨hcc, K, w', hK, hrun, hr'⟩ := storeC_ok (P := P) r (hzr φ) e3
    rw [hL] at hK; cases hK
    refine ⟨hcc, rfl, w', hr', ?_⟩
    have hzz : Builtin.zeroCells zv.cells n = (Array.range (n * i.size)).map (fun j => zv.cells[j % zv.cells.size]!) := by unfold Builtin.zeroCells; rw [hzs]
    have hzero : (zeroValue el).run P w = .ok zv w := by simp [zeroValue, run_typeInfo w hi, hiz]
    cases n with
    | zero => exact absurd rfl hn
    | succ n =>
     simp only [Builtin.clear_, List.getElem?_toArray, List.getElem?_cons_zero, Sem.run_bind, run_underlying hu, Result.andThen_ok, hzero, hzz, hrun, Sem.run_pure]
   have zero : n = 0 -> (∃ (A : Addr) (cp : Nat), x' = .slice (some A) 0 cp) -> c' = c /\ v = .tuple [] /\ ∃ w', Rel ng w0 φ h' w' /\ (Builtin.clear_ ⟨t :: ts⟩ ty ⟨x' :: xs⟩).run P w = .ok (.tuple #[]) w' := by
    intro hn ⟨A, cp, hx'⟩
    subst hx'
    rw [if_pos hn] at e
    obtain ⟨rfl, rfl, rfl, _⟩ := z7 e
    exact ⟨rfl, rfl, w, r, by simp [Builtin.clear_, run_underlying hu]⟩
   by_cases hn : n = 0
   ·subst hn
    refine zero rfl ?_
    cases hx <;> exact ⟨_, _, rfl⟩
   ·cases hx with
    | sliceK o len k hL hk => exact main _ _ hL rfl hn
    | sliceK0 o a hL => exact absurd rfl hn
    | sliceU o len cap sz hL h1 h2 h3 => exact main _ _ hL rfl hn
    | sliceZ o sz a hL h1 h2 => exact absurd rfl hn
theorem capM_ok (hcx : qJ P cx) {t ty : Nat} {x v : V} {x' : Value} {ts : List Nat} {xs : List Value} (hx : VR φ x x') (e : capM cx t x h c = .ok v h' c' l) :
  h' = h /\ c' = c /\ ∃ u, VR φ v u /\ (Builtin.cap_ ⟨t :: ts⟩ ty ⟨x' :: xs⟩).run P w = .ok u w := by
 unfold capM at e
 cases hd : cx.desc t with
 | none => simp only [hd] at e; exact (zY e).elim
 | some d =>
  have hu := jf hcx hd
  simp only [hd] at e
  cases d <;> try exact (zY e).elim
  cases hx <;> try exact (zY e).elim
  all_goals
   obtain ⟨rfl, rfl, rfl, _⟩ := z7 e
   exact ⟨rfl, rfl, _, .int _ _, by simp [Builtin.cap_, run_underlying hu, goInt]⟩
theorem builtinM_ok (hcx : qJ P cx) (r : Rel ng w0 φ h w) {b : Builtin} {ts : List Nat} {xs : List V} {xs' : List Value} {v : V} {ty : Nat} {cs : Array Bool} (hx : VRs φ xs xs')
  (e : builtinM cx b ts xs h c = .ok v h' c' l) (hf : Fresh φ c c') :
  ∃ φ' u w', Ext φ φ' c c' /\ c <= c' /\ Rel ng w0 φ' h' w' /\ VR φ' v u /\ (builtin b ⟨ts⟩ ty cs ⟨xs'⟩).run P w = .ok (.value u) w' := by
 have no : (fail "builtin" : M H V) h c = .ok v h' c' l -> False := fun e => zY e
 have noA : (fail "append: arguments" : M H V) h c = .ok v h' c' l -> False := fun e => zY e
 cases b <;> try exact (no e).elim
 case append =>
  have e : appendM cx ts xs h c = .ok v h' c' l := e
  cases ts with
  | nil => exact (noA e).elim
  | cons st xt =>
   cases xs with
   | nil => exact (noA e).elim
   | cons s xs =>
    cases xs with
    | nil => exact (noA e).elim
    | cons x xs =>
     obtain ⟨s', us, rfl, hs, hx⟩ := hx.inv
     obtain ⟨x', us, rfl, hx, hr⟩ := hx.inv
     exact (appendM_ok (ty := ty) hcx r hs hx e hf).value
 case len =>
  cases ts with
  | nil => exact (no e).elim
  | cons t ts =>
   cases xs with
   | nil => exact (no e).elim
   | cons x xs =>
    obtain ⟨x', us, rfl, hx, hr⟩ := hx.inv
    have e1 : lenM cx t x h c = .ok v h' c' l := e
    clear e no noA
    obtain ⟨hh, hcc, u, hv, hrun⟩ := lenM_ok (P := P) (ty := ty) (ts := ts) (xs := us) hcx r hx e1
    rw [hh, hcc]
    exact (j7 r hv hrun).value
 case copy =>
  cases ts with
  | nil => exact (no e).elim
  | cons t ts =>
   cases xs with
   | nil => exact (no e).elim
   | cons d xs =>
    cases xs with
    | nil => exact (no e).elim
    | cons s xs =>
     obtain ⟨d', us, rfl, hd, hx⟩ := hx.inv
     obtain ⟨s', us, rfl, hs, hr⟩ := hx.inv
     have e1 : copyM cx t d s h c = .ok v h' c' l := e
     clear e no noA
     obtain ⟨hcc, w', u, hr', hv, hrun⟩ := copyM_ok (P := P) (ty := ty) (ts := ts) (rest := us) hcx r hd hs e1
     rw [hcc]
     exact ⟨φ, u, w', Ext.refl _ _ _, Nat.le_refl _, hr', hv, by simp only [builtin, Sem.run_bind, hrun, Result.andThen_ok, Sem.run_pure]⟩
 case delete =>
  cases ts with
  | nil => exact (no e).elim
  | cons t ts =>
   cases xs with
   | nil => exact (no e).elim
   | cons m xs =>
    cases xs with
    | nil => exact (no e).elim
    | cons k xs =>
     obtain ⟨m', us, rfl, hm, hx⟩ := hx.inv
     obtain ⟨k', us, rfl, hk, hr⟩ := hx.inv
     have e1 : deleteM cx t m k h c = .ok v h' c' l := e
     clear e no noA
     obtain ⟨hcc, hvv, w', hr', hrun⟩ := deleteM_ok (P := P) (ty := ty) (ts := ts) (xs := us) hcx r hm hk e1
     rw [hcc, hvv]
     exact ⟨φ, _, w', Ext.refl _ _ _, Nat.le_refl _, hr', .tuple .nil, by simp only [builtin, Sem.run_bind, hrun, Result.andThen_ok, Sem.run_pure]⟩
 case clear =>
  cases ts with
  | nil => exact (no e).elim
  | cons t ts =>
   cases xs with
   | nil => exact (no e).elim
   | cons x xs =>
    obtain ⟨x', us, rfl, hx, hr⟩ := hx.inv
    have e1 : clearM cx t x h c = .ok v h' c' l := e
    clear e no noA
    obtain ⟨hcc, hvv, w', hr', hrun⟩ := clearM_ok (P := P) (ty := ty) (ts := ts) (xs := us) hcx r hx e1
    rw [hcc, hvv]
    exact ⟨φ, _, w', Ext.refl _ _ _, Nat.le_refl _, hr', .tuple .nil, by simp only [builtin, Sem.run_bind, hrun, Result.andThen_ok, Sem.run_pure]⟩
 case cap =>
  cases ts with
  | nil => exact (no e).elim
  | cons t ts =>
   cases xs with
   | nil => exact (no e).elim
   | cons x xs =>
    obtain ⟨x', us, rfl, hx, hr⟩ := hx.inv
    have e1 : capM cx t x h c = .ok v h' c' l := e
    clear e no noA
    obtain ⟨hh, hcc, u, hv, hrun⟩ := capM_ok (P := P) (w := w) (ty := ty) (ts := ts) (xs := us) hcx hx e1
    rw [hh, hcc]
    exact (j7 r hv hrun).value
 case min =>
  have e1 : (lift "min" (minV xs) : M H V) h c = .ok v h' c' l := e
  clear e no noA
  obtain ⟨e1, hh, hcc, _⟩ := yH e1
  rw [hh, hcc]
  obtain ⟨u, hv, hrun⟩ := minV_ok (P := P) (w := w) (ts := ⟨ts⟩) (ty := ty) hx e1
  exact (j7 r hv hrun).value
 case max =>
  have e1 : (lift "max" (maxV xs) : M H V) h c = .ok v h' c' l := e
  clear e no noA
  obtain ⟨e1, hh, hcc, _⟩ := yH e1
  rw [hh, hcc]
  obtain ⟨u, hv, hrun⟩ := maxV_ok (P := P) (w := w) (ts := ⟨ts⟩) (ty := ty) hx e1
  exact (j7 r hv hrun).value
end
open Go.RowKit
section
variable {H E : Type} [MapI H AObj] [MapI E V] {P : Program} {ng : Nat} {w0 w : World} {φ : Nm} {h h' : H} {c c' : Nat} {l : List Acc}
variable {a : Act} {e : E} {cx : Cx} {o : Oper} {next : Act -> World -> Prop} {Q : Exit -> Act -> World -> Prop} {call : Tgt -> List V -> M H V} {ro : Option Nat}
def Goes (ng : Nat) (w0 : World) (φ : Nm) (c c' : Nat) (h' : H) (v : V) (a : Act) (o : Oper) (next : Act -> World -> Prop) : Prop :=
 ∀ φ' u w', Ext φ φ' c c' -> c <= c' -> Rel ng w0 φ' h' w' -> VR φ' v u -> next (a.put o.dst u) w'
theorem wm {v : V} {s : Sem Value} (hnd : ∀ c, o.op ≠ .defer c) (hn : Goes ng w0 φ c c' h' v a o next) (hs : Done P ng w0 φ c c' h' w v s)
  (hx : (execOp a.eval o) = (do pure (.value (<- s)) : Sem Next)) : o.wpIn (fe ro) 0 P a w next Q := by
 obtain ⟨φ', u, w', h1, h2, h3, h4, h5⟩ := hs
 exact yD hnd (by rw [hx]; simp [h5]) (hn φ' u w' h1 h2 h3 h4)
theorem j6 {v : V} {u : Value} {s : Sem Value} (hnd : ∀ c, o.op ≠ .defer c) (hn : Goes ng w0 φ c c h v a o next) (r : Rel ng w0 φ h w) (hv : VR φ v u) (hs : s.run P w = .ok u w)
  (hx : (execOp a.eval o) = (do pure (.value (<- s)) : Sem Next)) : o.wpIn (fe ro) 0 P a w next Q := wm hnd hn (j7 r hv hs) hx
theorem asP_ok {q : V} {p : Nat × Nat} {c1 : Nat} {h1 : H} {l1 : List Acc} (e : asP q h c = .ok p h1 c1 l1) : q = .ptr (some p) /\ h1 = h /\ c1 = c := by
 unfold asP at e
 split at e
 ·obtain ⟨rfl, rfl, rfl, _⟩ := z7 e; exact ⟨rfl, rfl, rfl⟩
 ·exact (zY e).elim
theorem ptr_inv {n off : Nat} {u : Value} (h : VR φ (.ptr (some (n, off))) u) : ∃ L : Loc, φ n = some L /\ u = .pointer (some ⟨L.blk, L.off + off, none⟩) := by
 cases h with
 | ptr _ hL => exact ⟨_, hL, rfl⟩
theorem callM_ok (hcx : qJ P cx) (hng : cx.ng = ng) (hcall : gy P ng w0 call) (he : ER φ e a.tmps) (r : Rel ng w0 φ h w) {cl : Call} {v : V} (hop : o.op = .call cl)
  (hrun : callM cx call e cl h c = .ok v h' c' l) (hf : Fresh φ c c') (hn : Goes ng w0 φ c c' h' v a o next) : o.wpIn (fe ro) 0 P a w next Q := by
 have hnd : ∀ c, o.op ≠ .defer c := fun c e => by rw [hop] at e; cases e
 unfold callM at hrun
 obtain ⟨xs, h1, c1, l1, l2, e1, e2, _⟩ := z8 hrun
 obtain ⟨hxs, rfl, rfl, _⟩ := yH e1
 have hargs := evs_ok he r hng hxs
 have harr : cl.args.map a.eval = ⟨cl.args.toList.map a.eval⟩ := arr_map _ _
 have hex : execOp a.eval o = (do let d <- resolve a.eval cl o.type; invoke d.target d.args) := by simp only [execOp, hop]
 cases hcal : cl.callee with
 | builtin b =>
  simp only [hcal] at e2
  obtain ⟨φ', u, w', k1, k2, k3, k4, k5⟩ := builtinM_ok (ty := o.type) (cs := cl.args.map fun | .const _ => true | _ => false) hcx r hargs e2 hf
  refine yD hnd ?_ (hn φ' u w' k1 k2 k3 k4)
  rw [hex]
  simp only [resolve, hcal, Sem.run_bind, Sem.run_pure, Result.andThen_ok, invoke, harr]
  exact k5
 | value f =>
  simp only [hcal] at e2
  obtain ⟨fv, h2, c2, l3, l4, e3, e4, _⟩ := z8 e2
  obtain ⟨hfv, rfl, rfl, _⟩ := yH e3
  have hfr := q7 he r hng hfv
  cases fv <;> try exact (zY e4).elim
  case yld n =>
   simp only at e4
   generalize hfe : a.eval f = fu at hfr
   cases hfr with | yld hL => ?_
   rename_i L
   have hans := hcall _ _ _ _ _ _ _ _ _ _ _ e4 r hargs hf
   refine wp_of_yield hnd hL rfl ?_ hans (fun u w' ⟨φ', k1, k2, k3, k4⟩ => hn φ' u w' k1 k2 k3 k4)
   rw [hex]
   simp only [resolve, hcal, hfe, Deferred.ofValue, Sem.run_bind, Sem.run_pure, Result.andThen_ok, invoke, harr]
   simp
  rename_i fn first cap
  cases fn <;> try exact (zY e4).elim
  rename_i f0
  simp only at e4
  generalize hfe : a.eval f = fu at hfr
  cases hfr with | func hfirst hcap => ?_
  rename_i first' cap'
  have hans := hcall _ _ _ _ _ _ _ _ _ _ _ e4 r ((hfirst.append hargs).append hcap) hf
  refine wp_of_answers hnd ?_ hans (fun u w' ⟨φ', k1, k2, k3, k4⟩ => hn φ' u w' k1 k2 k3 k4)
  rw [hex]
  simp only [resolve, hcal, hfe, Deferred.ofValue, Sem.run_bind, Sem.run_pure, Result.andThen_ok, invoke, harr]
  congr 2
  apply Array.ext'; simp
 | invoke rc name =>
  simp only [hcal] at e2
  obtain ⟨fv, h2, c2, l3, l4, e3, e4, _⟩ := z8 e2
  obtain ⟨hfv, rfl, rfl, _⟩ := yH e3
  have hfr := q7 he r hng hfv
  cases fv <;> try exact (zY e4).elim
  rename_i t rv
  simp only at e4
  obtain ⟨f0, h3, c3, l5, l6, e5, e6, _⟩ := z8 e4
  obtain ⟨hm, rfl, rfl, _⟩ := yH e5
  generalize hfe : a.eval rc = fu at hfr
  cases hfr with | iface _ hrv => ?_
  rename_i ru
  have hans := hcall _ _ _ _ _ _ _ _ _ _ _ e6 r (VRs.cons hrv hargs) hf
  refine wp_of_answers hnd ?_ hans (fun u w' ⟨φ', k1, k2, k3, k4⟩ => hn φ' u w' k1 k2 k3 k4)
  rw [hex]
  have hmr := methodV_ok (w := w) (v := ru) hcx hm
  simp only [Sem.run_bind, run_program, Result.andThen_ok] at hmr
  have e7 : (#[Value.iface t ru] ++ (⟨cl.args.toList.map a.eval⟩ : Array Value)).extract 1 (#[Value.iface t ru] ++ (⟨cl.args.toList.map a.eval⟩ : Array Value)).size = ⟨cl.args.toList.map a.eval⟩ := by
   apply Array.ext'
   have : cl.args.size = (cl.args.toList.map a.eval).length := by simp
   simp only [Array.toList_extract, Array.toList_append, List.extract_eq_take_drop, Array.size_append]
   simp
   exact List.take_of_length_le (by simp)
  have e8 : (#[Value.iface t ru] ++ (⟨cl.args.toList.map a.eval⟩ : Array Value))[0]? = some (Value.iface t ru) := by simp
  simp only [resolve, hcal, hfe, Sem.run_bind, Sem.run_pure, Result.andThen_ok, invoke, harr, e8, e7, callMethod, run_program, hmr]
  congr 2
  apply Array.ext'; simp
theorem hasN_ok (n : Nat) : ∀ l : List Nat, hasN n l = l.contains n
 | [] => rfl
 | m :: l => by
  rw [hasN, hasN_ok n l, List.contains_cons, Bool.eq_iff_iff]
  simp
theorem MRs.left {seen : List Nat} : ∀ {es : List (V × V × Nat)} {us : List MapEntry}, MRs φ es us -> MRs φ (leftV es seen) (us.filter fun e => !(⟨seen⟩ : Array Nat).contains e.born)
 | _, _, .nil => .nil
 | _, _, .cons (b := b) (e := e) hk hv hb hr => by
  have ih := MRs.left (seen := seen) hr
  have hc : (⟨seen⟩ : Array Nat).contains e.born = hasN b seen := by rw [hasN_ok, hb]; simp
  rw [leftV, List.filter_cons, hc]
  cases hasN b seen with
  | true => exact ih
  | false => exact .cons hk hv hb ih
theorem MRs.findB {b : Nat} {k v : V} : ∀ {es : List (V × V × Nat)} {us : List MapEntry}, MRs φ es us -> findB b es = some (k, v) -> ∃ e, us.find? (·.born == b) = some e /\ VR φ k e.key /\ VR φ v e.val
 | _, _, .nil, h => by cases h
 | _, _, .cons (b := c) (e := e) hk hv hb hr, h => by
  unfold Ab.findB at h
  rw [List.find?_cons]
  cases hc : Nat.beq c b with
  | true =>
   rw [hc] at h
   have : (e.born == b) = true := by rw [hb]; simpa using Nat.eq_of_beq_eq_true hc
   rw [this]
   cases h
   exact ⟨e, rfl, hk, hv⟩
  | false =>
   rw [hc] at h
   have : (e.born == b) = false := by
    rw [hb, beq_eq_false_iff_ne]; intro x; subst x; rw [Nat.beq_refl] at hc; cases hc
   rw [this]
   exact MRs.findB hr h
theorem MRs.olds {since : Nat} : ∀ {es : List (V × V × Nat)} {us : List MapEntry}, MRs φ es us -> (es.all fun x => Nat.blt x.2.2 since) = true -> ∀ x ∈ us, x.born < since
 | _, _, .nil, _, x, hx => by cases hx
 | _, _, .cons (b := c) (e := e) _ _ hb hr, h, x, hx => by
  rw [List.all_cons, Bool.and_eq_true] at h
  rcases zl hx with rfl | hx
  ·rw [hb]; exact zf h.1
  ·exact MRs.olds hr h.2 x hx
theorem lastNat_ok : ∀ {l : List Nat} {b : Nat}, lastNat l = some b -> (⟨l⟩ : Array Nat).back? = some b
 | [], _, h => by cases h
 | [a], _, h => by cases h; rfl
 | a :: c :: l, b, h => by
  have ih := lastNat_ok (l := c :: l) (b := b) h
  simpa using ih
theorem opM_ok (hcx : qJ P cx) (hng : cx.ng = ng) (hcall : gy P ng w0 call) (he : ER φ e a.tmps) (r : Rel ng w0 φ h w) {v : V}
  (hrun : opM cx call e o h c = .ok v h' c' l) (hf : Fresh φ c c') (hn : Goes ng w0 φ c c' h' v a o next) : o.wpIn (fe ro) 0 P a w next Q := by
 have v1 : ∀ {l : List Acc} {x : Operand} {k : V -> M H V}, (bnd (lift "operand" (ev1 cx e x)) k) h c = .ok v h' c' l -> ∃ q l', ev1 cx e x = some q /\ VR φ q (a.eval x) /\ k q h c = .ok v h' c' l' := fun {l x k} e0 => by
  obtain ⟨q, h1, c1, l1, l2, e1, e2, _⟩ := z8 e0
  obtain ⟨hq, rfl, rfl, _⟩ := yH e1
  exact ⟨q, l2, hq, q7 he r hng hq, e2⟩
 have hnd : ∀ c, o.op ≠ .defer c := fun c e => by
  unfold opM at hrun
  simp only [e] at hrun
  exact zY hrun
 unfold opM at hrun
 cases hop : o.op <;> simp only [hop] at hrun <;> try exact (zY hrun).elim
 case move x =>
  obtain ⟨hq, rfl, rfl, _⟩ := yH hrun
  exact yD hnd (by simp [execOp, hop]) (hn φ _ w (Ext.refl _ _ _) (Nat.le_refl _) r (q7 he r hng hq))
 case assign x =>
  obtain ⟨hq, rfl, rfl, _⟩ := yH hrun
  exact yD hnd (by simp [execOp, hop]) (hn φ _ w (Ext.refl _ _ _) (Nat.le_refl _) r (q7 he r hng hq))
 case pick cnd x y =>
  obtain ⟨q, _, hevq, hq, e1⟩ := v1 hrun
  generalize hce : a.eval cnd = cu at hq
  cases hq <;> try exact (zY e1).elim
  rename_i b
  cases b with
  | true =>
   obtain ⟨hx, rfl, rfl, _⟩ := yH e1
   exact yD hnd (by simp [execOp, hop, hce, asBool]) (hn φ _ w (Ext.refl _ _ _) (Nat.le_refl _) r (q7 he r hng hx))
  | false =>
   obtain ⟨hx, rfl, rfl, _⟩ := yH e1
   exact yD hnd (by simp [execOp, hop, hce, asBool]) (hn φ _ w (Ext.refl _ _ _) (Nat.le_refl _) r (q7 he r hng hx))
 case alloc t =>
  obtain ⟨z, h1, c1, l1, l2, e1, e2, _⟩ := z8 hrun
  obtain ⟨hz, rfl, rfl, _⟩ := yH e1
  obtain ⟨n, h2, c2, l3, l4, e3, e4, _⟩ := z8 e2
  obtain ⟨rfl, rfl, rfl, _⟩ := jF e3
  obtain ⟨rfl, rfl, rfl, _⟩ := z7 e4
  obtain ⟨zv, hzr, hzv⟩ := run_zero hcx hz φ w
  have hc := hf n (Nat.le_refl _) (Nat.lt_succ_self _)
  have hr := r.newCells (c := n) (e := t) hc hzv.cells
  refine yD hnd ?_ (hn _ (.pointer (some ⟨w.heap.size, 0, none⟩)) _ (Ext.put _ hc) (Nat.le_succ _) hr (VR.ptr (L := ⟨w.heap.size, 0, _⟩) 0 j1))
  simp only [execOp, hop, Instr.alloc, Sem.run_bind, hzr, Result.andThen_ok, newVar, newRow, run_newObj, Sem.run_pure]; rfl
 case box t x =>
  obtain ⟨q, _, hevq, hq, e1⟩ := v1 hrun
  obtain ⟨n, h2, c2, l3, l4, e3, e4, _⟩ := z8 e1
  obtain ⟨rfl, rfl, rfl, _⟩ := jF e3
  obtain ⟨rfl, rfl, rfl, _⟩ := z7 e4
  have hc := hf n (Nat.le_refl _) (Nat.lt_succ_self _)
  have hr := r.newCells (c := n) (e := t) hc hq.cells
  refine yD hnd ?_ (hn _ (.pointer (some ⟨w.heap.size, 0, none⟩)) _ (Ext.put _ hc) (Nat.le_succ _) hr (VR.ptr (L := ⟨w.heap.size, 0, _⟩) 0 j1))
  simp only [execOp, hop, Instr.box, Sem.run_bind, Result.andThen_ok, newVar, newRow, run_newObj, Sem.run_pure]; rfl
 case build t ps =>
  obtain ⟨qs, h1, c1, l1, l2, e1, e2, _⟩ := z8 hrun
  obtain ⟨hq, rfl, rfl, _⟩ := yH e1
  obtain ⟨hb, rfl, rfl, _⟩ := yH e2
  obtain ⟨u, hv, hr⟩ := buildV_ok (P := P) (w := w) hcx (evParts_ok he r hng hq) hb
  refine j6 hnd hn r hv hr ?_
  simp only [execOp, hop, arr_map]
 case buildSlice t len ps =>
  obtain ⟨qs, h1, c1, l1, l2, e1, e2, _⟩ := z8 hrun
  obtain ⟨hq, rfl, rfl, _⟩ := yH e1
  refine wm hnd hn (buildSliceM_ok hcx r (evParts_ok he r hng hq) e2 hf) ?_
  simp only [execOp, hop, arr_map]
 case insert t m k x =>
  obtain ⟨q1, _, hevq1, hq1, e1⟩ := v1 hrun
  obtain ⟨q2, _, hevq2, hq2, e1⟩ := v1 e1
  obtain ⟨q3, _, hevq3, hq3, e1⟩ := v1 e1
  obtain ⟨rfl, rfl, w', hr, hrr⟩ := mapUpdateM_ok (P := P) hcx r hq1 hq2 hq3 e1
  exact wd hnd (by simp [execOp, hop, hrr]) (hn φ _ w' (Ext.refl _ _ _) (Nat.le_refl _) hr (.tuple .nil))
 case load t x =>
  obtain ⟨q, _, hevq, hq, e1⟩ := v1 hrun
  obtain ⟨p, h1, c1, l1, l2, e2, e3, _⟩ := z8 e1
  obtain ⟨rfl, rfl, rfl⟩ := asP_ok e2
  obtain ⟨n, off⟩ := p
  obtain ⟨L, hL, hce⟩ := ptr_inv hq
  obtain ⟨rfl, rfl, K, u, hK, hv, hr⟩ := loadT_ok (P := P) hcx r e3
  rw [hL] at hK; cases hK
  refine j6 hnd hn r hv hr ?_
  simp only [execOp, hop, Instr.loadAt, hce, Instr.sureAddr, pure_bind]
 case store t x y =>
  obtain ⟨q, _, hevq, hq, e1⟩ := v1 hrun
  obtain ⟨q2, _, hevq2, hq2, e1⟩ := v1 e1
  obtain ⟨p, h1, c1, l1, l2, e2, e3, _⟩ := z8 e1
  obtain ⟨rfl, rfl, rfl⟩ := asP_ok e2
  obtain ⟨n, off⟩ := p
  obtain ⟨L, hL, hce⟩ := ptr_inv hq
  obtain ⟨u0, h2, c2, l3, l4, e4, e5, _⟩ := z8 e3
  obtain ⟨rfl, K, w', hK, hr, hrr⟩ := storeT_ok (P := P) hcx r hq2 e4
  rw [hL] at hK; cases hK
  obtain ⟨rfl, rfl, rfl, _⟩ := z7 e5
  refine wd hnd ?_ (hn φ _ w' (Ext.refl _ _ _) (Nat.le_refl _) hrr (.tuple .nil))
  simp only [execOp, hop, Instr.storeAt, hce, Instr.sureAddr, pure_bind, Sem.run_bind, hr, Result.andThen_ok, Sem.run_pure]
 case nilCheck x =>
  obtain ⟨q, _, hevq, hq, e1⟩ := v1 hrun
  generalize hce : a.eval x = cu at hq
  cases hq <;> try exact (zY e1).elim
  case ptr n L off hL =>
   obtain ⟨rfl, rfl, rfl, _⟩ := z7 e1
   exact yD hnd (by simp [execOp, hop, hce]) (hn φ _ w (Ext.refl _ _ _) (Nat.le_refl _) r (.ptr _ hL))
  case func fn f1 f2 g1 g2 hf1 hf2 =>
   cases fn <;> try exact (zY e1).elim
   obtain ⟨rfl, rfl, rfl, _⟩ := z7 e1
   exact yD hnd (by simp [execOp, hop, hce]) (hn φ _ w (Ext.refl _ _ _) (Nat.le_refl _) r (.func hf1 hf2))
  case yld n L hL =>
   obtain ⟨rfl, rfl, rfl, _⟩ := z7 e1
   exact yD hnd (by simp [execOp, hop, hce]) (hn φ _ w (Ext.refl _ _ _) (Nat.le_refl _) r (.yld hL))
  case iface t v2 u2 hv2 =>
   obtain ⟨rfl, rfl, rfl, _⟩ := z7 e1
   exact yD hnd (by simp [execOp, hop, hce]) (hn φ _ w (Ext.refl _ _ _) (Nat.le_refl _) r (.iface _ hv2))
 case binOp op t x y yt =>
  obtain ⟨q, _, hevq, hq, e1⟩ := v1 hrun
  obtain ⟨q2, _, hevq2, hq2, e1⟩ := v1 e1
  obtain ⟨rfl, rfl, u, hv, hr⟩ := binM_ok (P := P) hcx r hq hq2 e1
  refine j6 hnd hn r hv hr ?_
  simp only [execOp, hop]
 case unOp op t x =>
  obtain ⟨q, _, hevq, hq, e1⟩ := v1 hrun
  obtain ⟨hu, rfl, rfl, _⟩ := yH e1
  generalize hce : a.eval x = cu at hq
  cases hq <;> simp only [unV] at hu <;> try (cases hu; done)
  ·cases op <;> simp only at hu <;> try (cases hu; done)
   cases hu
   exact yD hnd (by simp [execOp, hop, hce, Op.unary]) (hn φ _ w (Ext.refl _ _ _) (Nat.le_refl _) r (.bool _))
  ·cases op <;> simp only at hu <;> try (cases hu; done)
   ·cases hu
    exact yD hnd (by simp [execOp, hop, hce, Op.unary, Op.intArith]) (hn φ _ w (Ext.refl _ _ _) (Nat.le_refl _) r (.int _ _))
   ·cases hu
    exact yD hnd (by simp [execOp, hop, hce, Op.unary, Op.intBits]) (hn φ _ w (Ext.refl _ _ _) (Nat.le_refl _) r (.int _ _))
 case convert s d x =>
  obtain ⟨q, _, hevq, hq, e1⟩ := v1 hrun
  exact wm hnd hn (convertM_ok hcx r hq e1 hf) (by simp only [execOp, hop])
 case makeInterface t x =>
  obtain ⟨q, _, hevq, hq, e1⟩ := v1 hrun
  cases hd : cx.desc t with
  | none => simp only [hd] at e1; exact (zY e1).elim
  | some d =>
   simp only [hd] at e1
   cases d <;> first
    | exact (zY e1).elim
    | (obtain ⟨rfl, rfl, rfl, _⟩ := z7 e1
       exact yD hnd (by simp [execOp, hop, Instr.makeInterface, jv hcx hd]) (hn φ _ w (Ext.refl _ _ _) (Nat.le_refl _) r (.iface _ hq)))
 case makeFunc fn f1 f2 =>
  cases fn <;> try exact (zY hrun).elim
  simp only at hrun
  obtain ⟨q1, h1, c1, l1, l2, e1, e2, _⟩ := z8 hrun
  obtain ⟨hq1, rfl, rfl, _⟩ := yH e1
  obtain ⟨q2, h2, c2, l3, l4, e3, e4, _⟩ := z8 e2
  obtain ⟨hq2, rfl, rfl, _⟩ := yH e3
  obtain ⟨rfl, rfl, rfl, _⟩ := z7 e4
  exact yD hnd (by simp [execOp, hop, Instr.makeFunc, arr_map]) (hn φ _ w (Ext.refl _ _ _) (Nat.le_refl _) r (.func (evs_ok he r hng hq1) (evs_ok he r hng hq2)))
 case makeMap t rs =>
  obtain ⟨u0, h1, c1, l1, l2, e1, e2, _⟩ := z8 hrun
  obtain ⟨n, h2, c2, l3, l4, e3, e4, _⟩ := z8 e2
  obtain ⟨rfl, rfl, rfl, _⟩ := jF e3
  obtain ⟨rfl, rfl, rfl, _⟩ := z7 e4
  have key : h1 = h /\ n = c /\ (execOp a.eval o).run P w = (do let m <- newObj (.map #[] 0); pure (.value (.map (some m))) : Sem Next).run P w := by
   cases rs with
   | none =>
    obtain ⟨_, rfl, rfl, _⟩ := z7 e1
    exact ⟨rfl, rfl, by simp [execOp, hop, Instr.makeMap]⟩
   | some x =>
    obtain ⟨u1, h4, c4, l5, l6, e5, e6, _⟩ := z8 e1
    obtain ⟨_, rfl, rfl, _⟩ := z7 e6
    obtain ⟨q, h5, c5, l7, l8, e7, e8, _⟩ := z8 e5
    obtain ⟨hq, rfl, rfl, _⟩ := yH e7
    have hqv := q7 he r hng hq
    generalize hce : a.eval x = cu at hqv
    cases hqv <;> try exact (zY e8).elim
    rename_i k z
    cases hd : cx.desc t with
    | none => simp only [hd] at e8; exact (zY e8).elim
    | some d =>
     simp only [hd] at e8
     cases d <;> try exact (zY e8).elim
     obtain ⟨_, rfl, rfl, _⟩ := z7 e8
     exact ⟨rfl, rfl, by simp [execOp, hop, Instr.makeMap, hce, jv hcx hd, asInt, asIntOf]⟩
  obtain ⟨rfl, rfl, hex⟩ := key
  have hc := hf n (Nat.le_refl _) (Nat.lt_succ_self _)
  refine yD hnd (u := .map (some w.heap.size)) (w' := w.alloc (.map #[] 0)) ?_ (hn _ _ _ (Ext.put ⟨w.heap.size, 0, 0⟩ hc) (Nat.le_succ _) (r.alloc hc rfl rfl ⟨#[], rfl, .nil⟩) ?_)
  ·rw [hex]; simp only [Sem.run_bind, run_newObj, Result.andThen_ok, Sem.run_pure]; rfl
  ·exact .map j1
 case makeSlice t x y =>
  obtain ⟨q, _, hevq, hq, e1⟩ := v1 hrun
  obtain ⟨q2, _, hevq2, hq2, e1⟩ := v1 e1
  exact wm hnd hn (makeSliceM_ok hcx r hq hq2 e1 hf) (by simp only [execOp, hop])
 case slice t x lo hi mx =>
  obtain ⟨q, _, hevq, hq, e1⟩ := v1 hrun
  obtain ⟨q1, h1, c1, l1, l2, e2, e3, _⟩ := z8 e1
  obtain ⟨hq1, rfl, rfl, _⟩ := yH e2
  obtain ⟨q2, h2, c2, l3, l4, e4, e5, _⟩ := z8 e3
  obtain ⟨hq2, rfl, rfl, _⟩ := yH e4
  obtain ⟨q3, h3, c3, l5, l6, e6, e7, _⟩ := z8 e5
  obtain ⟨hq3, rfl, rfl, _⟩ := yH e6
  obtain ⟨rfl, rfl, u, hv, hr⟩ := sliceM_ok (P := P) hcx r hq (evO_ok he r hng hq1) (evO_ok he r hng hq2) (evO_ok he r hng hq3) e7
  exact j6 hnd hn r hv hr (by simp only [execOp, hop])
 case fieldAddr s x f =>
  obtain ⟨q, _, hevq, hq, e1⟩ := v1 hrun
  obtain ⟨hu, rfl, rfl, _⟩ := yH e1
  obtain ⟨u, hv, hr⟩ := fieldAddrV_ok (P := P) (w := w) hcx hq hu
  exact j6 hnd hn r hv hr (by simp only [execOp, hop])
 case field s x f =>
  obtain ⟨q, _, hevq, hq, e1⟩ := v1 hrun
  obtain ⟨hu, rfl, rfl, _⟩ := yH e1
  obtain ⟨u, hv, hr⟩ := fieldV_ok (P := P) (w := w) hcx hq hu
  exact j6 hnd hn r hv hr (by simp only [execOp, hop])
 case indexAddr t x i =>
  obtain ⟨q, _, hevq, hq, e1⟩ := v1 hrun
  obtain ⟨q2, _, hevq2, hq2, e1⟩ := v1 e1
  obtain ⟨rfl, rfl, u, hv, hr⟩ := indexAddrM_ok (P := P) (w := w) hcx hq hq2 e1
  exact j6 hnd hn r hv hr (by simp only [execOp, hop])
 case index t x i =>
  obtain ⟨q, _, hevq, hq, e1⟩ := v1 hrun
  obtain ⟨q2, _, hevq2, hq2, e1⟩ := v1 e1
  obtain ⟨hu, rfl, rfl, _⟩ := yH e1
  obtain ⟨u, hv, hr⟩ := indexV_ok (P := P) (w := w) hcx hq hq2 hu
  exact j6 hnd hn r hv hr (by simp only [execOp, hop])
 case lookup t x i ok =>
  obtain ⟨q, _, hevq, hq, e1⟩ := v1 hrun
  obtain ⟨q2, _, hevq2, hq2, e1⟩ := v1 e1
  obtain ⟨rfl, rfl, u, hv, hr⟩ := lookupM_ok (P := P) hcx r hq hq2 e1
  exact j6 hnd hn r hv hr (by simp only [execOp, hop])
 case mapUpdate t m k x =>
  obtain ⟨q1, _, hevq1, hq1, e1⟩ := v1 hrun
  obtain ⟨q2, _, hevq2, hq2, e1⟩ := v1 e1
  obtain ⟨q3, _, hevq3, hq3, e1⟩ := v1 e1
  obtain ⟨rfl, rfl, w', hr, hrr⟩ := mapUpdateM_ok (P := P) hcx r hq1 hq2 hq3 e1
  exact wd hnd (by simp [execOp, hop, hrr]) (hn φ _ w' (Ext.refl _ _ _) (Nat.le_refl _) hr (.tuple .nil))
 case mapEntry t m k =>
  obtain ⟨q1, _, hevq1, hq1, e1⟩ := v1 hrun
  obtain ⟨q2, _, hevq2, hq2, e1⟩ := v1 e1
  obtain ⟨rfl, w', u, hr, hv, hrr⟩ := mapEntryM_ok (P := P) hcx r hq1 hq2 e1
  exact yD hnd (by simp [execOp, hop, hrr]) (hn φ _ w' (Ext.refl _ _ _) (Nat.le_refl _) hr hv)
 case entryStore t m s x =>
  obtain ⟨q1, _, hevq1, hq1, e1⟩ := v1 hrun
  obtain ⟨q2, _, hevq2, hq2, e1⟩ := v1 e1
  obtain ⟨q3, _, hevq3, hq3, e1⟩ := v1 e1
  obtain ⟨rfl, rfl, w', hr, hrr⟩ := entryStoreM_ok (P := P) (t := t) r hq1 hq2 hq3 e1
  exact wd hnd (by simp [execOp, hop, hrr]) (hn φ _ w' (Ext.refl _ _ _) (Nat.le_refl _) hr (.tuple .nil))
 case range t x =>
  obtain ⟨q, _, hevq, hq, e1⟩ := v1 hrun
  generalize hce : a.eval x = cu at hq
  cases hq <;> try exact (zY e1).elim
  case mapNil =>
   cases hd : cx.desc t with
   | none => simp only [hd] at e1; exact (zY e1).elim
   | some d =>
    simp only [hd] at e1
    cases d <;> try exact (zY e1).elim
    obtain ⟨n, h2, c2, l3, l4, e3, e4, _⟩ := z8 e1
    obtain ⟨rfl, rfl, rfl, _⟩ := jF e3
    obtain ⟨rfl, rfl, rfl, _⟩ := z7 e4
    have hc := hf n (Nat.le_refl _) (Nat.lt_succ_self _)
    refine yD hnd (u := .pointer (some ⟨w.heap.size, 0, none⟩)) (w' := w.alloc (.mapIter none 0 #[] 0)) ?_ (hn _ _ _ (Ext.put ⟨w.heap.size, 0, 0⟩ hc) (Nat.le_succ _) (r.alloc hc rfl rfl ⟨rfl, .inl ⟨rfl, _, _, _, rfl⟩⟩) (VR.ptr (L := ⟨w.heap.size, 0, _⟩) 0 j1))
    simp [execOp, hop, Instr.range, hce, jv hcx hd, Sem.run_bind, Result.andThen_ok]
  case map q K hK =>
   cases hd : cx.desc t with
   | none => simp only [hd] at e1; exact (zY e1).elim
   | some d =>
    simp only [hd] at e1
    cases d <;> try exact (zY e1).elim
    obtain ⟨ob, h1, c1, l1, l2, e2, e1, _⟩ := z8 e1
    obtain ⟨hg, rfl, rfl, _⟩ := y9 e2
    cases ob <;> try exact (zY e1).elim
    rename_i rw es ck
    obtain ⟨E, hb, hmr⟩ := kq r hg hK
    obtain ⟨n, h2, c2, l3, l4, e3, e4, _⟩ := z8 e1
    obtain ⟨rfl, rfl, rfl, _⟩ := jF e3
    obtain ⟨rfl, rfl, rfl, _⟩ := z7 e4
    have hc := hf n (Nat.le_refl _) (Nat.lt_succ_self _)
    refine yD hnd (u := .pointer (some ⟨w.heap.size, 0, none⟩)) (w' := w.alloc (.mapIter (some K.blk) ck #[] ck)) ?_ (hn _ _ _ (Ext.put ⟨w.heap.size, 0, 0⟩ hc) (Nat.le_succ _) (r.alloc hc rfl rfl ⟨rfl, .inr ⟨q, K, rfl, (Ext.put _ hc).mono _ _ hK, rfl⟩⟩) (VR.ptr (L := ⟨w.heap.size, 0, _⟩) 0 j1))
    simp [execOp, hop, Instr.range, hce, jv hcx hd, Sem.run_bind, Result.andThen_ok, getObj, Sem.run, hb, Result.andThen]
  rename_i s
  cases hd : cx.desc t with
  | none => simp only [hd] at e1; exact (zY e1).elim
  | some d =>
   simp only [hd] at e1
   cases d <;> try exact (zY e1).elim
   obtain ⟨n, h2, c2, l3, l4, e3, e4, _⟩ := z8 e1
   obtain ⟨rfl, rfl, rfl, _⟩ := jF e3
   obtain ⟨rfl, rfl, rfl, _⟩ := z7 e4
   have hc := hf n (Nat.le_refl _) (Nat.lt_succ_self _)
   refine yD hnd (u := .pointer (some ⟨w.heap.size, 0, none⟩)) (w' := w.alloc (.stringIter ⟨⟨s⟩⟩ 0)) ?_ (hn _ _ _ (Ext.put ⟨w.heap.size, 0, 0⟩ hc) (Nat.le_succ _) (r.alloc hc rfl rfl ⟨rfl, rfl⟩) (VR.ptr (L := ⟨w.heap.size, 0, _⟩) 0 j1))
   simp [execOp, hop, Instr.range, hce, jv hcx hd, Sem.run_bind, Result.andThen_ok]
 case next x b =>
  cases b with
  | false =>
   obtain ⟨q, _, hevq, hq, e1⟩ := v1 hrun
   cases q <;> try exact (zY e1).elim
   rename_i p
   cases p <;> try exact (zY e1).elim
   rename_i p
   obtain ⟨n, off⟩ := p
   cases off <;> try exact (zY e1).elim
   obtain ⟨L, hL, hce⟩ := ptr_inv hq
   obtain ⟨ob, h1, c1, l1, l2, e2, e3, _⟩ := z8 e1
   obtain ⟨hg, rfl, rfl, _⟩ := y9 e2
   cases ob <;> try exact (zY e3).elim
   rename_i m since seen last
   obtain ⟨K, hK, hob, _⟩ := r.obj _ _ hg
   rw [hL] at hK; cases hK
   obtain ⟨ho, hb⟩ := hob
   cases m with
   | none =>
    obtain ⟨rfl, rfl, rfl, _⟩ := z7 e3
    rcases hb with ⟨_, s1, s2, s3, hb⟩ | ⟨_, _, hb, _⟩
    ·refine yD hnd (u := .tuple #[.bool false]) (w' := w) ?_ (hn φ _ _ (Ext.refl _ _ _) (Nat.le_refl _) r (.tuple (.cons (.bool _) .nil)))
     simp [execOp, hop, Instr.next, hce, ho, getObj, Sem.run_bind, Sem.run, hb, Result.andThen]
    ·cases hb
   | some q =>
    rcases hb with ⟨hb, _⟩ | ⟨q', K, hq', hK, hb⟩
    ·cases hb
    cases hq'
    obtain ⟨ob, h2, c2, l3, l4, e4, e5, _⟩ := z8 e3
    obtain ⟨hgm, rfl, rfl, _⟩ := y9 e4
    cases ob <;> try exact (zY e5).elim
    rename_i rw es ck
    obtain ⟨E, hbm, hmr⟩ := kq r hgm hK
    simp only at e5
    split at e5
    rotate_left
    ·exact (zY e5).elim
    next hold =>
    have hleft := MRs.left (seen := seen) hmr
    have hrun2 := run_next_at (P := P) w o.type L.blk K.blk since last ⟨seen⟩ E ck hb hbm (hmr.olds hold.1) hold.2
    have hlo : (leftOf E ⟨seen⟩).toList = E.toList.filter fun e => !(⟨seen⟩ : Array Nat).contains e.born := by unfold leftOf; exact Array.toList_filter ..
    rw [<- hlo] at hleft
    cases hl1 : leftV es seen with
    | nil =>
     simp only [hl1] at e5
     obtain ⟨rfl, rfl, rfl, _⟩ := z7 e5
     rw [hl1] at hleft
     rcases hrun2 with ⟨_, hrun2⟩ | ⟨en, hen, _⟩
     ·refine yD hnd (u := .tuple #[.bool false]) (w' := w) ?_ (hn φ _ _ (Ext.refl _ _ _) (Nat.le_refl _) r (.tuple (.cons (.bool _) .nil)))
      simp [execOp, hop, hce, ho, hrun2]
     ·cases hleft2 : (leftOf E ⟨seen⟩).toList with
      | nil => rw [hleft2] at hen; cases hen
      | cons _ _ => rw [hleft2] at hleft; cases hleft
    | cons x0 xs0 =>
     obtain ⟨k, v, b⟩ := x0
     cases xs0 with
     | cons _ _ => simp only [hl1] at e5; exact (zY e5).elim
     | nil =>
     simp only [hl1] at e5
     obtain ⟨u0, h3, c3, l5, l6, e6, e7, _⟩ := z8 e5
     obtain ⟨_, rfl, rfl, _⟩ := ju e6
     obtain ⟨rfl, rfl, rfl, _⟩ := z7 e7
     rw [hl1] at hleft
     cases hleft2 : (leftOf E ⟨seen⟩).toList with
     | nil => rw [hleft2] at hleft; cases hleft
     | cons e0 r0 =>
     rw [hleft2] at hleft
     cases hleft with | cons hk hv hborn hr0 => ?_
     cases hr0
     rcases hrun2 with ⟨h0, _⟩ | ⟨en, hen, w1, hw1, hrun2⟩
     ·rw [<- Array.length_toList, hleft2] at h0; cases h0
     rw [hleft2] at hen
     have hen : en = e0 := by simpa using hen
     subst hen
     have hseen : (⟨seen⟩ : Array Nat).push en.born = ⟨seen ++ [b]⟩ := by rw [hborn]; simp
     rw [hseen] at hrun2
     rcases hw1 with rfl | rfl
     ·refine yD hnd (u := .tuple #[.bool true, en.key, en.val]) (w' := World.setBlk w1 L.blk (.mapIter (some K.blk) since ⟨seen ++ [b]⟩ ck)) ?_
       (hn φ _ _ (Ext.refl _ _ _) (Nat.le_refl _) (r.setBlk hg rfl hL rfl ⟨ho, .inr ⟨q, K, rfl, hK, rfl⟩⟩) (.tuple (.cons (.bool _) (.cons hk (.cons hv .nil)))))
      simp only [execOp, hop, hce, ho, Nat.zero_add, Nat.add_zero]
      simp only [ho, Nat.zero_add, Nat.add_zero, Sem.run_bind, hrun2, Result.andThen_ok, Sem.run_pure]
      rfl
     ·refine yD hnd (u := .tuple #[.bool true, en.key, en.val]) (w' := World.setBlk w.drew L.blk (.mapIter (some K.blk) since ⟨seen ++ [b]⟩ ck)) ?_
       (hn φ _ _ (Ext.refl _ _ _) (Nat.le_refl _) ((r.drew (w.drawn + 1)).setBlk hg rfl hL rfl ⟨ho, .inr ⟨q, K, rfl, hK, rfl⟩⟩) (.tuple (.cons (.bool _) (.cons hk (.cons hv .nil)))))
      simp only [execOp, hop, hce, ho, Nat.zero_add, Nat.add_zero]
      simp only [ho, Nat.zero_add, Nat.add_zero, Sem.run_bind, hrun2, Result.andThen_ok, Sem.run_pure]
      rfl
  | true =>
   obtain ⟨q, _, hevq, hq, e1⟩ := v1 hrun
   cases q <;> try exact (zY e1).elim
   rename_i p
   cases p <;> try exact (zY e1).elim
   rename_i p
   obtain ⟨n, off⟩ := p
   cases off <;> try exact (zY e1).elim
   obtain ⟨L, hL, hce⟩ := ptr_inv hq
   obtain ⟨ob, h1, c1, l1, l2, e2, e3, _⟩ := z8 e1
   obtain ⟨hg, rfl, rfl, _⟩ := y9 e2
   cases ob <;> try exact (zY e3).elim
   rename_i s pos
   obtain ⟨K, hK, hob, _⟩ := r.obj _ _ hg
   rw [hL] at hK; cases hK
   obtain ⟨ho, hb⟩ := hob
   simp only at e3
   split at e3
   ·next hlt =>
    obtain ⟨u0, h2, c2, l3, l4, e4, e5, _⟩ := z8 e3
    obtain ⟨_, rfl, rfl, _⟩ := ju e4
    obtain ⟨rfl, rfl, rfl, _⟩ := z7 e5
    refine yD hnd (u := .tuple #[.bool true, goInt pos, .int .i32 (Utf8.decode ⟨⟨s⟩⟩ pos).1]) (w' := World.setBlk w L.blk (.stringIter ⟨⟨s⟩⟩ (pos + (Utf8.decode ⟨⟨s⟩⟩ pos).2))) ?_
     (hn φ _ _ (Ext.refl _ _ _) (Nat.le_refl _) (r.setBlk hg rfl hL rfl ⟨ho, rfl⟩) (.tuple (.cons (.bool _) (.cons (.int _ _) (.cons (.int _ _) .nil)))))
    have hsz : pos < (ByteArray.mk ⟨s⟩).size := hlt
    simp [execOp, hop, Instr.next, hce, ho, getObj, Sem.run_bind, Sem.run, hb, Result.andThen, hsz, setObj, World.setBlk]
   ·next hlt =>
    obtain ⟨rfl, rfl, rfl, _⟩ := z7 e3
    refine yD hnd (u := .tuple #[.bool false]) (w' := w) ?_ (hn φ _ _ (Ext.refl _ _ _) (Nat.le_refl _) r (.tuple (.cons (.bool _) .nil)))
    have hsz : ¬ pos < (ByteArray.mk ⟨s⟩).size := hlt
    simp [execOp, hop, Instr.next, hce, ho, getObj, Sem.run_bind, Sem.run, hb, Result.andThen, hsz]
 case entry x =>
  obtain ⟨q, _, hevq, hq, e1⟩ := v1 hrun
  cases q <;> try exact (zY e1).elim
  rename_i p
  cases p <;> try exact (zY e1).elim
  rename_i p
  obtain ⟨n, off⟩ := p
  cases off <;> try exact (zY e1).elim
  obtain ⟨L, hL, hce⟩ := ptr_inv hq
  obtain ⟨ob, h1, c1, l1, l2, e2, e3, _⟩ := z8 e1
  obtain ⟨hg, rfl, rfl, _⟩ := y9 e2
  cases ob <;> try exact (zY e3).elim
  rename_i m since seen last
  cases m <;> try exact (zY e3).elim
  rename_i q
  obtain ⟨K, hK, hob, _⟩ := r.obj _ _ hg
  rw [hL] at hK; cases hK
  obtain ⟨ho, hb⟩ := hob
  rcases hb with ⟨hb, _⟩ | ⟨q', K, hq', hK, hb⟩
  ·cases hb
  cases hq'
  obtain ⟨ob, h2, c2, l3, l4, e4, e5, _⟩ := z8 e3
  obtain ⟨hgm, rfl, rfl, _⟩ := y9 e4
  cases ob <;> try exact (zY e5).elim
  rename_i rw es ck
  obtain ⟨E, hbm, hmr⟩ := kq r hgm hK
  simp only at e5
  split at e5
  rotate_left
  ·exact (zY e5).elim
  next hck =>
  subst hck
  cases hlast : lastNat seen with
  | none => simp only [hlast] at e5; exact (zY e5).elim
  | some b =>
   simp only [hlast] at e5
   cases hfb : findB b es with
   | none => simp only [hfb] at e5; exact (zY e5).elim
   | some kv =>
    obtain ⟨k, v⟩ := kv
    simp only [hfb] at e5
    obtain ⟨rfl, rfl, rfl, _⟩ := z7 e5
    obtain ⟨en, hf1, hk, hv⟩ := hmr.findB hfb
    have hf2 : E.find? (·.born == b) = some en := by rw [<- Array.find?_toList]; exact hf1
    have hback := lastNat_ok hlast
    refine yD hnd (u := .tuple #[en.key, en.val]) (w' := w) ?_ (hn φ _ _ (Ext.refl _ _ _) (Nat.le_refl _) r (.tuple (.cons hk (.cons hv .nil))))
    simp only [execOp, hop, hce, ho, Nat.zero_add, Nat.add_zero]
    simp only [Instr.entry, getObj, Sem.run_bind, Sem.run, hb, hbm, Result.andThen, hback, bne_self_eq_false, Bool.false_eq_true, if_false, hf2]
    rfl
 case typeAssert x xt t ok =>
  obtain ⟨q, _, hevq, hq, e1⟩ := v1 hrun
  obtain ⟨hh, hcc, u, hv, hr⟩ := assertM_ok (P := P) (w := w) (xt := xt) hcx hq e1
  rw [hh, hcc] at hn
  exact j6 hnd hn r hv hr (by simp only [execOp, hop])
 case extract x i =>
  obtain ⟨q, _, hevq, hq, e1⟩ := v1 hrun
  generalize hce : a.eval x = cu at hq
  cases hq <;> try exact (zY e1).elim
  rename_i vs us hvs
  obtain ⟨hu, rfl, rfl, _⟩ := yH e1
  rw [qL] at hu
  obtain ⟨u, h1, h2⟩ := hvs.get hu
  refine j6 hnd hn r h2 (s := Instr.extract (.tuple ⟨us⟩) i) ?_ (by simp only [execOp, hop, hce])
  have : (⟨us⟩ : Array Value)[i]? = some u := by simpa using h1
  simp only [Instr.extract, this, Sem.run_pure]
 case call cl => exact callM_ok hcx hng hcall he r hop hrun hf hn
end
open Go.RowKit
section
variable {H : Type} [MapI H AObj] {α β : Type}
def Fr (h h1 : H) (l : List Acc) : Prop := ∀ n, (∀ x ∈ l, x.name = n -> x.writes = false) -> MapI.get h1 n = MapI.get h n
def Agree (h h' : H) (l : List Acc) : Prop := ∀ x ∈ l, MapI.get h' x.name = MapI.get h x.name
def Local (m : M H α) : Prop := ∀ h c a h1 c1 l, m h c = .ok a h1 c1 l -> c <= c1 /\ Fr h h1 l /\ ∀ h', Agree h h' l -> ∃ h1', m h' c = .ok a h1' c1 l /\ Agree h1 h1' l
theorem Local.ret {a : α} : Local (ret a : M H α) := fun h c b h1 c1 l e => by
 obtain ⟨rfl, rfl, rfl, rfl⟩ := z7 e
 exact ⟨Nat.le_refl _, fun _ _ => rfl, fun h' _ => ⟨h', rfl, fun x hx => by cases hx⟩⟩
theorem yf {s : String} : Local (fail s : M H α) := fun h c b h1 c1 l e => (zY e).elim
theorem yO {s : String} {x : Option α} : Local (lift s x : M H α) := by
 cases x
 ·exact yf
 ·exact Local.ret
theorem yb {m : M H α} {f : α -> M H β} (hm : Local m) (hf : ∀ a, Local (f a)) : Local (bnd m f) := fun h c b h2 c2 l e => by
 obtain ⟨a, h1, c1, l1, l2, e1, e2, rfl⟩ := z8 e
 obtain ⟨p1, p2, p3⟩ := hm _ _ _ _ _ _ e1
 obtain ⟨q1, q2, q3⟩ := hf a _ _ _ _ _ _ e2
 refine ⟨Nat.le_trans p1 q1, fun n hn => ?_, fun h' ha => ?_⟩
 ·rw [q2 n fun x hx => hn x (zi _ hx), p2 n fun x hx => hn x (zh _ hx)]
 ·obtain ⟨h1', e1', a1⟩ := p3 h' fun x hx => ha x (zh _ hx)
  obtain ⟨_, p2', _⟩ := hm _ _ _ _ _ _ e1'
  obtain ⟨h2', e2', a2⟩ := q3 h1' fun x hx => by
   by_cases hy : ∃ y ∈ l1, y.name = x.name
   ·obtain ⟨y, hy, hn⟩ := hy; rw [<- hn]; exact a1 y hy
   ·have hno : ∀ y ∈ l1, y.name = x.name -> y.writes = false := fun y hy' hn => (hy ⟨y, hy', hn⟩).elim
    rw [p2 _ hno, p2' _ hno]; exact ha x (zi _ hx)
  obtain ⟨_, q2', _⟩ := hf a _ _ _ _ _ _ e2'
  refine ⟨h2', by unfold Ab.bnd; rw [e1']; simp only [e2'], fun x hx => ?_⟩
  by_cases hy : ∃ y ∈ l2, y.name = x.name
  ·obtain ⟨y, hy, hn⟩ := hy; rw [<- hn]; exact a2 y hy
  ·have hno : ∀ y ∈ l2, y.name = x.name -> y.writes = false := fun y hy' hn => (hy ⟨y, hy', hn⟩).elim
   rcases zk hx with hx | hx
   ·rw [q2 _ hno, q2' _ hno]; exact a1 x hx
   ·exact (hy ⟨x, hx, rfl⟩).elim
theorem Local.listen {m : M H α} (hm : Local m) : Local (listen m) := fun h c b h2 c2 l e => by
 unfold Ab.listen at e
 cases e1 : m h c with
 | err s => rw [e1] at e; cases e
 | ok a h1 c1 l1 =>
  rw [e1] at e; cases e
  obtain ⟨p1, p2, p3⟩ := hm _ _ _ _ _ _ e1
  refine ⟨p1, p2, fun h' ha => ?_⟩
  obtain ⟨h1', e1', a1⟩ := p3 h' ha
  exact ⟨h1', by unfold Ab.listen; rw [e1'], a1⟩
theorem Local.get {n : Nat} : Local (getM n : M H AObj) := fun h c o h1 c1 l e => by
 obtain ⟨hg, rfl, rfl, rfl⟩ := y9 e
 refine ⟨Nat.le_refl _, fun _ _ => rfl, fun h' ha => ⟨h', ?_, ha⟩⟩
 have := ha (.rd n) (List.mem_singleton.2 rfl)
 unfold getM
 rw [show MapI.get h' n = MapI.get h1 n from this, hg]
theorem Local.set {n : Nat} {o : AObj} : Local (setM n o : M H Unit) := fun h c u h1 c1 l e => by
 obtain ⟨⟨p, hg⟩, rfl, rfl, rfl⟩ := ju e
 refine ⟨Nat.le_refl _, fun m hm => ?_, fun h' ha => ⟨MapI.set h' n o, ?_, fun x hx => ?_⟩⟩
 ·have : n ≠ m := fun e => by have := hm (.wr n) (List.mem_singleton.2 rfl) e; cases this
  exact zu _ _ _ _ this
 ·have := ha (.wr n) (List.mem_singleton.2 rfl)
  unfold setM
  rw [show MapI.get h' n = MapI.get h n from this, hg]
 ·cases zm hx
  show MapI.get (MapI.set h' n o) n = MapI.get (MapI.set h n o) n
  rw [zt, zt]
theorem Local.new {o : AObj} : Local (newM o : M H Nat) := fun h c u h1 c1 l e => by
 obtain ⟨rfl, rfl, rfl, rfl⟩ := jF e
 refine ⟨Nat.le_succ _, fun m hm => ?_, fun h' ha => ⟨MapI.set h' u o, rfl, fun x hx => ?_⟩⟩
 ·have : u ≠ m := fun e => by have := hm (.wr u) (List.mem_singleton.2 rfl) e; cases this
  exact zu _ _ _ _ this
 ·cases zm hx
  show MapI.get (MapI.set h' u o) u = MapI.get (MapI.set h u o) u
  rw [zt, zt]
variable {cx : Cx}
theorem Local.loadC {n o k : Nat} : Local (loadC n o k : M H (List V)) := by
 unfold Ab.loadC
 repeat' first | with_reducible exact yf | with_reducible exact yO | with_reducible exact Local.get | (with_reducible refine yb ?_ fun _ => ?_) | split
theorem gD {n o : Nat} {vs : List V} : Local (storeC n o vs : M H Unit) := by
 unfold Ab.storeC
 repeat' first | with_reducible exact yf | with_reducible exact Local.set | with_reducible exact Local.get | (with_reducible refine yb ?_ fun _ => ?_) | split
theorem Local.loadT {t n o : Nat} : Local (loadT cx t n o : M H V) := by
 unfold Ab.loadT
 repeat' first | with_reducible exact yf | with_reducible exact Local.ret | with_reducible exact yO | with_reducible exact Local.loadC | (with_reducible refine yb ?_ fun _ => ?_) | split
theorem Local.storeT {t n o : Nat} {v : V} : Local (storeT cx t n o v : M H Unit) := by
 unfold Ab.storeT
 repeat' first | with_reducible exact yf | with_reducible exact gD | split
theorem Local.asP {v : V} : Local (asP v : M H (Nat × Nat)) := by
 unfold Ab.asP
 repeat' first | with_reducible exact yf | with_reducible exact Local.ret | split
theorem Local.eqM {t : Nat} {x y : V} : Local (eqM cx t x y : M H Bool) := by
 unfold Ab.eqM
 repeat' first | with_reducible exact yf | with_reducible exact Local.ret | with_reducible exact yO | with_reducible exact Local.get | (with_reducible refine yb ?_ fun _ => ?_) | split
theorem Local.binM {op : BinOp} {t : Nat} {b : Bool} {x y : V} : Local (binM cx op t b x y : M H V) := by
 unfold Ab.binM
 repeat' first | with_reducible exact yf | with_reducible exact Local.ret | with_reducible exact yO | with_reducible exact Local.eqM | (with_reducible refine yb ?_ fun _ => ?_) | split
theorem Local.buildSliceM {t n : Nat} {ps : List (Nat × V)} : Local (buildSliceM cx t n ps : M H V) := by
 unfold Ab.buildSliceM
 repeat' first | with_reducible exact yf | with_reducible exact Local.ret | with_reducible exact yO | with_reducible exact Local.new | (with_reducible refine yb ?_ fun _ => ?_) | split
theorem Local.makeSliceM {t : Nat} {x y : V} : Local (makeSliceM cx t x y : M H V) := by
 unfold Ab.makeSliceM
 repeat' first | with_reducible exact yf | with_reducible exact Local.ret | with_reducible exact yO | with_reducible exact Local.new | (with_reducible refine yb ?_ fun _ => ?_) | split
theorem Local.sliceM {t : Nat} {x : V} {a b c : Option V} : Local (sliceM cx t x a b c : M H V) := by
 unfold Ab.sliceM
 repeat' first | with_reducible exact yf | with_reducible exact Local.ret | with_reducible exact yO | with_reducible exact Local.get | (with_reducible refine yb ?_ fun _ => ?_) | split
theorem Local.indexAddrM {t : Nat} {x i : V} : Local (indexAddrM cx t x i : M H V) := by
 unfold Ab.indexAddrM
 repeat' first | with_reducible exact yf | with_reducible exact Local.ret | with_reducible exact yO | with_reducible exact Local.get | (with_reducible refine yb ?_ fun _ => ?_) | split
theorem Local.lookupM {t : Nat} {x i : V} {ok : Bool} : Local (lookupM cx t x i ok : M H V) := by
 unfold Ab.lookupM
 repeat' first | with_reducible exact yf | with_reducible exact Local.ret | with_reducible exact yO | with_reducible exact Local.get | (with_reducible refine yb ?_ fun _ => ?_) | split
theorem Local.mapUpdateM {t : Nat} {m k x : V} : Local (mapUpdateM cx t m k x : M H V) := by
 unfold Ab.mapUpdateM
 repeat' first | with_reducible exact yf | with_reducible exact Local.ret | with_reducible exact yO | with_reducible exact Local.get | with_reducible exact Local.set | (with_reducible refine yb ?_ fun _ => ?_) | split
theorem Local.mapEntryM {t : Nat} {m k : V} : Local (mapEntryM cx t m k : M H V) := by
 unfold Ab.mapEntryM
 repeat' first | with_reducible exact yf | with_reducible exact Local.ret | with_reducible exact yO | with_reducible exact Local.get | with_reducible exact Local.set | (with_reducible refine yb ?_ fun _ => ?_) | split
theorem Local.entryStoreM {m s x : V} : Local (entryStoreM m s x : M H V) := by
 unfold Ab.entryStoreM
 repeat' first | with_reducible exact yf | with_reducible exact Local.ret | with_reducible exact yO | with_reducible exact Local.get | with_reducible exact Local.set | (with_reducible refine yb ?_ fun _ => ?_) | split
theorem Local.deleteM {t : Nat} {m k : V} : Local (deleteM cx t m k : M H V) := by
 unfold Ab.deleteM
 repeat' first | with_reducible exact yf | with_reducible exact Local.ret | with_reducible exact yO | with_reducible exact Local.get | with_reducible exact Local.set | (with_reducible refine yb ?_ fun _ => ?_) | split
theorem Local.lenM {t : Nat} {x : V} : Local (lenM cx t x : M H V) := by
 unfold Ab.lenM
 repeat' first | with_reducible exact yf | with_reducible exact Local.ret | with_reducible exact yO | with_reducible exact Local.get | (with_reducible refine yb ?_ fun _ => ?_) | split
theorem wv {k n : Nat} {x : V} : Local (firstM k n x : M H (List V)) := by
 unfold Ab.firstM
 repeat' first | with_reducible exact yf | with_reducible exact Local.ret | with_reducible exact Local.loadC | split
theorem Local.appendedM {e k : Nat} {xt : Option Nat} {x : V} : Local (appendedM cx e k xt x : M H (Nat × List V)) := by
 unfold Ab.appendedM
 repeat' first | with_reducible exact yf | with_reducible exact Local.ret | with_reducible exact yO | with_reducible exact wv | (with_reducible refine yb ?_ fun _ => ?_) | split
theorem Local.growM {k n : Nat} {a b : List V} : Local (growM k a b n : M H V) := by
 unfold Ab.growM
 repeat' first | with_reducible exact Local.ret | with_reducible exact Local.new | (with_reducible refine yb ?_ fun _ => ?_)
theorem Local.appendM {ts : List Nat} {xs : List V} : Local (appendM cx ts xs : M H V) := by
 unfold Ab.appendM
 repeat' first | with_reducible exact yf | with_reducible exact Local.ret | with_reducible exact yO | with_reducible exact Local.get | with_reducible exact Local.set | with_reducible exact Local.new | with_reducible exact Local.appendedM | with_reducible exact Local.growM | with_reducible exact wv | with_reducible exact gD | (with_reducible refine yb ?_ fun _ => ?_) | split
theorem Local.copyM {t : Nat} {d s : V} : Local (copyM cx t d s : M H V) := by
 unfold Ab.copyM
 repeat' first | with_reducible exact yf | with_reducible exact Local.ret | with_reducible exact wv | with_reducible exact gD | (with_reducible refine yb ?_ fun _ => ?_) | split
theorem Local.clearM {t : Nat} {x : V} : Local (clearM cx t x : M H V) := by
 unfold Ab.clearM
 repeat' first | with_reducible exact yf | with_reducible exact Local.ret | with_reducible exact yO | with_reducible exact gD | (with_reducible refine yb ?_ fun _ => ?_) | split
theorem Local.capM {t : Nat} {x : V} : Local (capM cx t x : M H V) := by
 unfold Ab.capM
 repeat' first | with_reducible exact yf | with_reducible exact Local.ret | split
theorem Local.builtinM {b : Builtin} {ts : List Nat} {xs : List V} : Local (builtinM cx b ts xs : M H V) := by
 unfold Ab.builtinM
 repeat' first | with_reducible exact yf | with_reducible exact yO | with_reducible exact Local.appendM | with_reducible exact Local.lenM | with_reducible exact Local.copyM | with_reducible exact Local.deleteM | with_reducible exact Local.clearM | with_reducible exact Local.capM | split
theorem Local.convertM {s d : Nat} {x : V} : Local (convertM cx s d x : M H V) := by
 unfold Ab.convertM
 repeat' first | with_reducible exact yf | with_reducible exact Local.ret | with_reducible exact yO | with_reducible exact Local.new | with_reducible exact Local.loadC | (with_reducible refine yb ?_ fun _ => ?_) | split
theorem Local.assertM {t : Nat} {x : V} {ok : Bool} : Local (assertM cx x t ok : M H V) := by
 unfold Ab.assertM
 repeat' first | with_reducible exact yf | with_reducible exact Local.ret | with_reducible exact yO | (with_reducible refine yb ?_ fun _ => ?_) | split
variable {E : Type} [MapI E V] {call : Tgt -> List V -> M H V}
theorem Local.callM (hc : ∀ f xs, Local (call f xs)) {e : E} {c : Call} : Local (callM cx call e c : M H V) := by
 unfold Ab.callM
 repeat' first | exact hc _ _ | with_reducible exact yf | with_reducible exact yO | with_reducible exact Local.builtinM | (with_reducible refine yb ?_ fun _ => ?_) | split
theorem Local.opM (hc : ∀ f xs, Local (call f xs)) {e : E} {o : Oper} : Local (opM cx call e o : M H V) := by
 unfold Ab.opM
 split
 all_goals (try dsimp only)
 all_goals repeat' first | with_reducible exact Local.callM hc | with_reducible exact yf | with_reducible exact Local.ret | with_reducible exact yO | with_reducible exact Local.get | with_reducible exact Local.set | with_reducible exact Local.new | with_reducible exact Local.asP | with_reducible exact Local.loadT | with_reducible exact Local.storeT | with_reducible exact Local.binM | with_reducible exact Local.buildSliceM | with_reducible exact Local.makeSliceM | with_reducible exact Local.sliceM | with_reducible exact Local.indexAddrM | with_reducible exact Local.lookupM | with_reducible exact Local.mapUpdateM | with_reducible exact Local.mapEntryM | with_reducible exact Local.entryStoreM | with_reducible exact Local.convertM | with_reducible exact Local.assertM | (with_reducible refine yb ?_ fun _ => ?_) | split
theorem Local.putE {N : Nat} {e : E} {d : Option Tmp} {v : V} : Local (putE N e d v : M H E) := by
 unfold Ab.putE
 repeat' first | with_reducible exact yf | with_reducible exact Local.ret | split
theorem wu (hc : ∀ f xs, Local (call f xs)) {N : Nat} {ops : List Oper} {o : Oper} {e : E} : Local (stepOp cx call N ops o e : M H E) := by
 unfold Ab.stepOp
 split
 ·exact yb (Local.opM hc) fun _ => Local.putE
 ·exact Local.putE
 ·exact yf
theorem Local.evOps (hc : ∀ f xs, Local (call f xs)) {N : Nat} {ops : List Oper} : ∀ {l : List Oper} {e : E}, Local (evOps cx call N ops l e : M H E)
 | [], e => by unfold Ab.evOps; exact Local.ret
 | o :: l, e => by unfold Ab.evOps; exact yb (wu hc) fun _ => Local.evOps hc
theorem Local.evLog (hc : ∀ f xs, Local (call f xs)) {N : Nat} {ops : List Oper} : ∀ {l : List Oper} {e : E}, Local (evLog cx call N ops l e : M H (E × List (List Acc)))
 | [], e => by unfold Ab.evLog; exact Local.ret
 | o :: l, e => by unfold Ab.evLog; exact yb (Local.listen (wu hc)) fun _ => yb (Local.evLog hc) fun _ => Local.ret
theorem Local.evDrawn (hc : ∀ f xs, Local (call f xs)) {N : Nat} {ops : List Oper} {e : E} : Local (evDrawn cx call N ops e : M H E) := by
 unfold Ab.evDrawn
 refine yb (Local.evLog hc) fun _ => ?_
 dsimp only
 split
 ·exact Local.ret
 ·exact yf
theorem Local.loopM {body : List Nat -> E -> M H (Out E)} (hb : ∀ ms e, Local (body ms e)) : ∀ {n : Nat} {ms : List Nat} {e : E}, Local (loopM body n ms e)
 | 0, ms, e => by unfold Ab.loopM; exact yf
 | n + 1, ms, e => by
  unfold Ab.loopM
  refine yb (hb _ _) fun r => ?_
  split
  ·exact Local.loopM hb
  ·exact Local.ret
theorem ja (hc : ∀ t xs, Local (call t xs)) {rd : Bool} {N n : Nat} : ∀ {c : Code} {ms : List Nat} {e : E}, Local (evCode cx call rd N n c ms e : M H (Out E))
 | .skip, ms, e => by unfold Ab.evCode; exact Local.ret
 | .region _ ops draw, ms, e => by
  unfold Ab.evCode
  refine yb ?_ fun _ => Local.ret
  split
  ·exact Local.evDrawn hc
  ·exact Local.evOps hc
 | .seq a b, ms, e => by
  unfold Ab.evCode
  refine yb (ja hc) fun _ => ?_
  split
  ·exact ja hc
  ·exact Local.ret
 | .cond c a b, ms, e => by
  unfold Ab.evCode
  refine yb yO fun _ => ?_
  split
  ·exact ja hc
  ·exact ja hc
  ·exact yf
 | .block id b, ms, e => by
  unfold Ab.evCode
  refine yb (ja hc) fun _ => ?_
  split
  ·split
   ·exact Local.ret
   ·exact Local.ret
  ·exact Local.ret
 | .loop b, ms, e => by
  unfold Ab.evCode
  exact Local.loopM (fun ms e => ja hc)
 | .exit id, ms, e => by unfold Ab.evCode; exact Local.ret
 | .label _, ms, e => by unfold Ab.evCode; exact Local.ret
 | .ret, ms, e => by unfold Ab.evCode; exact Local.ret
 | .refuse w, _, _ => by unfold Ab.evCode; exact yf
 | .scope _, _, _ => by unfold Ab.evCode; exact yf
 | .goto _, _, _ => by unfold Ab.evCode; exact yf
 | .rangeFunc g ps zR bo, ms, e => by
  unfold Ab.evCode
  split
  ·exact yf
  ·refine yb yO fun _ => ?_
   split
   ·split
    ·refine yb Local.new fun _ => yb Local.new fun _ => yb (hc _ _) fun _ => yb Local.get fun _ => ?_
     split
     ·exact yb Local.set fun _ => Local.ret
     ·exact yb Local.set fun _ => Local.ret
     ·exact yf
    ·exact yf
   ·exact yf
theorem gU {e : E} : ∀ {l : List ResultVar}, Local (resM cx e l : M H (List V))
 | [] => by unfold Ab.resM; exact Local.ret
 | .tmp t :: l => by unfold Ab.resM; exact yb yO fun _ => yb gU fun _ => Local.ret
 | .cell a t :: l => by
  unfold Ab.resM
  exact yb yO fun _ => yb Local.asP fun _ => yb Local.loadT fun _ => yb gU fun _ => Local.ret
theorem gE : ∀ {ms : List Nat}, Local (spendM ms : M H Unit)
 | [] => by unfold Ab.spendM; exact Local.ret
 | d :: ms => by
  unfold Ab.spendM
  refine yb Local.get fun _ => ?_
  split
  ·exact yb Local.set fun _ => gE
  ·exact yf
theorem Local.bodyM (hc : ∀ t xs, Local (call t xs)) {n f : Nat} {xs : List V} : Local (bodyM E cx call n f xs : M H V) := by
 unfold Ab.bodyM
 split
 ·exact yf
 ·split
  ·exact yf
  ·split
   ·refine yb (ja hc) fun _ => ?_
    split
    ·exact yf
    ·exact yb gE fun _ => yb gU fun _ => Local.ret
   ·exact yf
theorem Local.roundM (hc : ∀ t xs, Local (call t xs)) {n l : Nat} {xs : List V} : Local (roundM E cx call n l xs : M H V) := by
 unfold Ab.roundM
 refine yb Local.get fun _ => ?_
 split
 ·split
  ·refine yb (ja hc) fun _ => ?_
   split
   ·refine yb Local.get fun _ => ?_
    split
    ·refine yb Local.set fun _ => yb (ja hc) fun r => ?_
     dsimp only
     refine yb Local.get fun _ => ?_
     split
     ·split
      ·exact yb Local.set fun _ => Local.ret
      ·exact yb Local.set fun _ => Local.ret
     ·exact yf
    ·exact yf
   ·exact yf
  ·exact yf
 ·exact yf
theorem gV {prim : Nat -> Option ((Tgt -> List V -> M H V) -> List V -> M H V)} (hp : ∀ f m call xs, prim f = some m -> (∀ t xs, Local (call t xs)) -> Local (m call xs)) :
  ∀ {n : Nat} {t : Tgt} {xs : List V}, Local (evFn E cx prim n t xs : M H V)
 | 0, t, xs => by unfold Ab.evFn; exact yf
 | n + 1, .fn f, xs => by
  unfold Ab.evFn
  split
  ·next h => exact hp _ _ _ _ h fun t xs => gV hp
  ·exact Local.bodyM fun t xs => gV hp
 | n + 1, .yl l, xs => by
  unfold Ab.evFn
  exact Local.roundM fun t xs => gV hp
end
open Go.RowKit
section
variable {H E : Type} [MapI H AObj] [MapI E V] {cx : Cx} {call : Tgt -> List V -> M H V}
theorem evs_congr {e e' : E} : ∀ {xs : List Operand}, (∀ x ∈ xs, ev1 cx e x = ev1 cx e' x) -> evs cx e xs = evs cx e' xs
 | [], _ => rfl
 | x :: xs, h => by
  unfold evs
  rw [h x (zq ..), evs_congr fun y hy => h y (zg _ hy)]
theorem kz {e e' : E} : ∀ {xs : List (Nat × Operand)}, (∀ x ∈ xs.map (·.2), ev1 cx e x = ev1 cx e' x) -> qQ cx e xs = qQ cx e' xs
 | [], _ => rfl
 | (i, x) :: xs, h => by
  unfold qQ
  rw [h x (zq ..), kz fun y hy => h y (zg _ hy)]
theorem callM_congr {e e' : E} {c : Call} (h : ∀ x ∈ c.operands, ev1 cx e x = ev1 cx e' x) : callM cx call e c = callM cx call e' c := by
 have h1 : evs cx e c.args.toList = evs cx e' c.args.toList := evs_congr fun x hx => h x (by simp [Call.operands]; exact .inr (by simpa using hx))
 unfold callM
 rw [h1]
 cases hc : c.callee with
 | builtin b => rfl
 | value f => dsimp only; rw [h f (by simp [Call.operands, hc])]
 | invoke r m => dsimp only; rw [h r (by simp [Call.operands, hc])]
theorem opM_congr {e e' : E} {o : Oper} (h : ∀ x ∈ o.op.operands, ev1 cx e x = ev1 cx e' x) : opM cx call e o = opM cx call e' o := by
 obtain ⟨dst, op, type, pos, after, guard⟩ := o
 cases op <;> simp only [Op.operands] at h <;> simp only [opM]
 case build t ps => rw [kz fun x hx => h x (by simpa using hx)]
 case buildSlice t n ps => rw [kz fun x hx => h x (by simpa using hx)]
 case makeFunc fn first captured =>
  cases fn <;> dsimp only
  rw [evs_congr (xs := first.toList) fun x hx => h x (by simp at hx; simp [hx]), evs_congr (xs := captured.toList) fun x hx => h x (by simp at hx; simp [hx])]
 case call c => exact callM_congr h
 case makeMap t r => cases r <;> simp_all
 case slice t x lo hi mx => cases lo <;> cases hi <;> cases mx <;> simp_all [evO]
 case next x b => cases b <;> simp_all
 all_goals (first | rfl | (simp_all; done))
theorem mem_tmpsOf {t : Nat} : ∀ {l : List Operand}, Operand.tmp t ∈ l -> t ∈ tmpsOf l
 | x :: l, h => by
  rcases zl h with rfl | h
  ·exact zq ..
  ·have := mem_tmpsOf h
   cases x <;> unfold tmpsOf <;> first | exact this | exact zg _ this
theorem opM_looks {ops : List Oper} {e e' : E} {o : Oper} (h : ∀ t ∈ looks ops o, MapI.get e t = MapI.get e' t) : opM cx call e o = opM cx call e' o :=
 opM_congr fun x hx => by
  cases x <;> try rfl
  rename_i t
  refine h t ?_
  have := mem_tmpsOf (l := o.op.operands.toList) (by simpa using hx)
  unfold looks
  split
  ·exact this
  ·split
   ·exact zg _ this
   ·exact this
theorem wantedV_looks {ops : List Oper} {e e' : E} {o : Oper} (h : ∀ t ∈ looks ops o, MapI.get e t = MapI.get e' t) : qx ops e o = qx ops e' o := by
 unfold qx
 unfold looks at h
 split
 ·rfl
 ·next j want hg =>
  simp only [hg] at h
  split
  ·rfl
  ·next d hd =>
   simp only [hd] at h
   rw [h d (zq ..)]
end
def Deps (ops : List Oper) (i j : Nat) : Prop := ∃ d, (j3 ops [])[j]? = some d /\ d.testBit i = true
theorem depsOf_bit {acc : List Nat} {o : Oper} {i : Nat} (h : (depsOf acc o).testBit i = true) :
  ∃ x ∈ o.after.toList, Region.binds .any x = true /\ (x.on = i \/ ((nth acc x.on).getD 0).testBit i = true) := by
 unfold depsOf at h
 have key : ∀ (l : List Edge) (s : Nat), (l.foldl (fun s x => if Region.binds .any x then s ||| 2 ^ x.on ||| (nth acc x.on).getD 0 else s) s).testBit i = true ->
   s.testBit i = true \/ ∃ x ∈ l, Region.binds .any x = true /\ (x.on = i \/ ((nth acc x.on).getD 0).testBit i = true) := by
  intro l
  induction l with
  | nil => intro s h; exact .inl h
  | cons x l ih =>
   intro s h
   rw [List.foldl_cons] at h
   rcases ih _ h with h | ⟨y, hy, h⟩
   ·cases hb : Region.binds .any x with
    | false => rw [hb] at h; exact .inl h
    | true =>
     rw [hb] at h
     simp only [if_true, Nat.testBit_or, Nat.testBit_two_pow, Bool.or_eq_true, decide_eq_true_eq] at h
     rcases h with (h | h) | h
     ·exact .inl h
     ·exact .inr ⟨x, zq .., hb, .inl h⟩
     ·exact .inr ⟨x, zq .., hb, .inr h⟩
   ·exact .inr ⟨y, zg _ hy, h⟩
 rcases key _ _ h with h | h
 ·simp at h
 ·exact h
theorem qX : ∀ (l : List Oper) (acc : List Nat), (j3 l acc).length = acc.length + l.length /\ (∀ i, i < acc.length -> (j3 l acc)[i]? = acc[i]?) /\
  ∀ i o, l[i]? = some o -> (j3 l acc)[acc.length + i]? = some (depsOf ((j3 l acc).take (acc.length + i)) o)
 | [], acc => ⟨rfl, fun _ _ => rfl, fun i o h => by simp at h⟩
 | o :: l, acc => by
  obtain ⟨h1, h2, h3⟩ := qX l (acc ++ [depsOf acc o])
  unfold j3
  rw [zr, List.length_singleton] at h1 h2 h3
  refine ⟨by rw [h1, List.length_cons]; omega, fun i hi => ?_, fun i o' ho => ?_⟩
  ·rw [h2 i (by omega), List.getElem?_append_left hi]
  ·cases i with
   | zero =>
    cases ho
    have e1 : (j3 l (acc ++ [depsOf acc o])).take acc.length = acc := by
     apply List.ext_getElem?
     intro k
     rw [List.getElem?_take]
     split
     ·next hk => rw [h2 k (by omega), List.getElem?_append_left hk]
     ·next hk => rw [List.getElem?_eq_none (by omega)]
    rw [Nat.add_zero, e1, h2 _ (by omega)]
    simp
   | succ i =>
    have := h3 i o' ho
    rw [show acc.length + (i + 1) = acc.length + 1 + i by omega]; exact this
theorem deps_in {ops : List Oper} {S : Nat -> Bool} (hc : ∀ j o, ops[j]? = some o -> S j = true -> ∀ x ∈ o.after.toList, Region.binds .any x = true -> S x.on = true) :
  ∀ (j : Nat) (o : Oper), ops[j]? = some o -> (∀ x ∈ o.after.toList, Region.binds .any x = true -> S x.on = true) -> ∀ i, Deps ops i j -> S i = true := by
 intro j
 induction j using Nat.strongRecOn with
 | _ j ih =>
  intro o ho hd i ⟨d, h1, h2⟩
  have h3 := (qX ops []).2.2 j o ho
  rw [List.length_nil, Nat.zero_add, h1] at h3
  cases h3
  obtain ⟨x, hx, hb, hor⟩ := depsOf_bit h2
  have hs := hd x hx hb
  rcases hor with rfl | hor
  ·exact hs
  ·rw [qL, List.getElem?_take] at hor
   split at hor
   ·next hlt =>
    cases hq : (j3 ops [])[x.on]? with
    | none => rw [hq] at hor; simp at hor
    | some q =>
     rw [hq] at hor
     have hlen := (zj hq).1
     rw [(qX ops []).1] at hlen
     simp at hlen
     exact ih x.on hlt ops[x.on] (by simp [hlen]) (fun y hy hyb => hc x.on _ (by simp [hlen]) hs y hy hyb) i ⟨q, hq, hor⟩
   ·simp at hor
theorem hitsOne_false {n : Nat} {w : Bool} : ∀ {l : List Acc}, hitsOne n w l = false -> ∀ y ∈ l, y.name = n -> w = false /\ y.writes = false
 | a :: l, h, y, hy, hn => by
  unfold hitsOne at h
  rw [Bool.or_eq_false_iff] at h
  rcases zl hy with rfl | hy
  ·have : Nat.beq y.name n = true := by rw [hn]; exact Nat.beq_refl _
   have h1 := h.1
   rw [this, Bool.true_and, Bool.or_eq_false_iff] at h1
   exact h1
  ·exact hitsOne_false h.2 y hy hn
theorem meet_false {m : List Acc} : ∀ {l : List Acc}, meet l m = false -> ∀ x ∈ l, ∀ y ∈ m, x.name = y.name -> x.writes = false /\ y.writes = false
 | a :: l, h, x, hx, y, hy, hn => by
  unfold meet at h
  rw [Bool.or_eq_false_iff] at h
  rcases zl hx with rfl | hx
  ·exact hitsOne_false h.1 y hy hn.symm
  ·exact meet_false h.2 x hx y hy hn
theorem apartFrom_ok {i : Nat} {a : List Acc} : ∀ {l : List (Nat × List Acc)}, gL i a l = true -> ∀ p ∈ l, p.1.testBit i = true \/ meet a p.2 = false
 | (d, b) :: l, h, p, hp => by
  unfold gL at h
  rw [Bool.and_eq_true, Bool.or_eq_true] at h
  rcases zl hp with rfl | hp
  ·rcases h.1 with h | h
   ·exact .inl h
   ·exact .inr (by simpa using h)
  ·exact apartFrom_ok h.2 p hp
theorem allApart_ok : ∀ {k : Nat} {l : List (Nat × List Acc)}, kE k l = true -> ∀ (i j : Nat) (p q : Nat × List Acc), i < j -> l[i]? = some p -> l[j]? = some q -> q.1.testBit (k + i) = true \/ meet p.2 q.2 = false
 | k, (d, a) :: l, h, i, j, p, q, hij, hp, hq => by
  unfold kE at h
  rw [Bool.and_eq_true] at h
  cases j with
  | zero => omega
  | succ j =>
   rw [List.getElem?_cons_succ] at hq
   cases i with
   | zero =>
    cases hp
    have h1 := h.1
    split at h1
    ·exact .inr rfl
    ·exact apartFrom_ok h1 q (zo hq)
   | succ i =>
    rw [List.getElem?_cons_succ] at hp
    have := allApart_ok h.2 i j p q (by omega) hp hq
    rw [show k + (i + 1) = k + 1 + i by omega]; exact this
theorem anyWrite_ok : ∀ {l : List (List Acc)}, jX l = false -> ∀ a ∈ l, ∀ x ∈ a, x.writes = false
 | b :: l, h, a, ha, x, hx => by
  unfold jX at h
  rw [Bool.or_eq_false_iff] at h
  rcases zl ha with rfl | ha
  ·have := List.any_eq_false.1 h.1 x hx
   simpa using this
  ·exact anyWrite_ok h.2 a ha x hx
theorem logsOk_ok {ops : List Oper} {logs : List (List Acc)} (h : kr ops logs = true) {i j : Nat} {a b : List Acc} (hij : i < j) (hj : j < ops.length) (ha : logs[i]? = some a) (hb : logs[j]? = some b)
  {x y : Acc} (hx : x ∈ a) (hy : y ∈ b) (hn : x.name = y.name) (hw : x.writes = true \/ y.writes = true) : Deps ops i j := by
 unfold kr at h
 rw [Bool.or_eq_true] at h
 rcases h with h | h
 ·have h : jX logs = false := by simpa using h
  have h1 := anyWrite_ok h a (zo ha) x hx
  have h2 := anyWrite_ok h b (zo hb) y hy
  rw [h1, h2] at hw; simp at hw
 ·have hl := (qX ops []).1
  simp at hl
  have hz : ∀ k c, k < ops.length -> logs[k]? = some c -> ((j3 ops []).zip logs)[k]? = some ((j3 ops [])[k]?.getD 0, c) := fun k c hk hc => by
   rw [List.getElem?_zip_eq_some]
   refine ⟨?_, hc⟩
   rw [zp (by omega)]; rfl
  rcases allApart_ok h i j _ _ hij (hz i a (by omega) ha) (hz j b hj hb) with h | h
  ·rw [Nat.zero_add] at h
   refine ⟨_, ?_, h⟩
   simp only
   rw [zp (by omega)]; rfl
  ·obtain ⟨h1, h2⟩ := meet_false h x hx y hy hn
   rw [h1, h2] at hw; simp at hw
theorem hasNat_mem {n : Nat} : ∀ {l : List Nat}, n ∈ l -> hasNat n l = true
 | m :: l, h => by
  unfold hasNat
  rcases zl h with rfl | h
  ·rw [Nat.beq_refl]; rfl
  ·rw [hasNat_mem h, Bool.or_true]
theorem edgesOk_ok : ∀ {k : Nat} {l : List Oper}, edgesOk k l = true -> ∀ (j : Nat) (o : Oper), l[j]? = some o -> ∀ x ∈ o.after.toList, Region.binds .any x = true -> x.on < k + j
 | k, [], h, j, o', ho, x, hx, hb => by simp at ho
 | k, o :: l, h, j, o', ho, x, hx, hb => by
  unfold edgesOk at h
  rw [Bool.and_eq_true] at h
  cases j with
  | zero =>
   cases ho
   have h1 := List.all_eq_true.1 h.1 x hx
   rw [hb] at h1
   exact zf h1
  | succ j =>
   rw [List.getElem?_cons_succ] at ho
   have := edgesOk_ok h.2 j o' ho x hx hb
   omega
theorem freeOf_ok {i : Nat} {d : Option Nat} {ls : List Nat} : ∀ {l : List (Nat × Option Nat × List Nat)}, freeOf i d ls l = true -> ∀ p ∈ l,
  p.1.testBit i = true \/ (dstIn d p.2.2 = false /\ dstIn p.2.1 ls = false /\ sameDst d p.2.1 = false)
 | (dep, d', ls') :: l, h, p, hp => by
  unfold freeOf at h
  rw [Bool.and_eq_true, Bool.or_eq_true] at h
  rcases zl hp with rfl | hp
  ·rcases h.1 with h | h
   ·exact .inl h
   ·simp at h; exact .inr ⟨h.1.1, h.1.2, h.2⟩
  ·exact freeOf_ok h.2 p hp
theorem allFree_ok : ∀ {k : Nat} {l : List (Nat × Option Nat × List Nat)}, allFree k l = true -> ∀ (i j : Nat) (p q : Nat × Option Nat × List Nat), i < j -> l[i]? = some p -> l[j]? = some q ->
  q.1.testBit (k + i) = true \/ (dstIn p.2.1 q.2.2 = false /\ dstIn q.2.1 p.2.2 = false /\ sameDst p.2.1 q.2.1 = false)
 | k, (dep, d, ls) :: l, h, i, j, p, q, hij, hp, hq => by
  unfold allFree at h
  rw [Bool.and_eq_true] at h
  cases j with
  | zero => omega
  | succ j =>
   rw [List.getElem?_cons_succ] at hq
   cases i with
   | zero => cases hp; exact freeOf_ok h.1 q (zo hq)
   | succ i =>
    rw [List.getElem?_cons_succ] at hp
    have := allFree_ok h.2 i j p q (by omega) hp hq
    rw [show k + (i + 1) = k + 1 + i by omega]; exact this
theorem regOk_edges {ops : List Oper} (h : regOk ops = true) {j : Nat} {o : Oper} (ho : ops[j]? = some o) {x : Edge} (hx : x ∈ o.after.toList) (hb : Region.binds .any x = true) : x.on < j := by
 unfold regOk at h
 rw [Bool.and_eq_true] at h
 have := edgesOk_ok h.1 j o ho x hx hb
 omega
theorem regOk_tmps {ops : List Oper} (h : regOk ops = true) {i j : Nat} {oi oj : Oper} (hij : i < j) (hi : ops[i]? = some oi) (hj : ops[j]? = some oj) {t : Nat}
  (ht : (oi.dst = some t /\ (t ∈ looks ops oj \/ oj.dst = some t)) \/ (oj.dst = some t /\ t ∈ looks ops oi)) : Deps ops i j := by
 unfold regOk at h
 rw [Bool.and_eq_true] at h
 have hl := (qX ops []).1
 simp at hl
 have hlen := (zj hj).1
 have hz : ∀ k o, ops[k]? = some o -> ((j3 ops []).zip (ops.map fun o => (o.dst, looks ops o)))[k]? = some ((j3 ops [])[k]?.getD 0, o.dst, looks ops o) := fun k o ho => by
  have hk := (zj ho).1
  rw [List.getElem?_zip_eq_some]
  refine ⟨?_, by rw [List.getElem?_map, ho]; rfl⟩
  rw [zp (by omega)]; rfl
 rcases allFree_ok h.2 i j _ _ hij (hz i oi hi) (hz j oj hj) with h | ⟨h1, h2, h3⟩
 ·rw [Nat.zero_add] at h
  refine ⟨_, ?_, h⟩
  simp only
  rw [zp (by omega)]; rfl
 ·exfalso
  simp only at h1 h2 h3
  rcases ht with ⟨hd, ht | ht⟩ | ⟨hd, ht⟩
  ·rw [hd] at h1; unfold dstIn at h1; simp only at h1; rw [hasNat_mem ht] at h1; cases h1
  ·rw [hd, ht] at h3; unfold sameDst at h3; simp only at h3; rw [Nat.beq_refl] at h3; cases h3
  ·rw [hd] at h2; unfold dstIn at h2; simp only at h2; rw [hasNat_mem ht] at h2; cases h2
open Go.RowKit
section
variable {H E : Type} [MapI H AObj] [MapI E V] {P : Program} {ng : Nat} {w0 : World} {cx : Cx} {call : Tgt -> List V -> M H V} {ro : Option Nat}
def putF (e : E) (d : Option Tmp) (v : V) : E :=
 match d with
 | none => e
 | some d => MapI.set e d v
theorem ER.put {φ : Nm} {e : E} {a : Act} {N : Nat} (r : ER φ e a.tmps) (hs : a.tmps.size = N) {d : Option Tmp} (hd : ∀ t, d = some t -> t < N) {v : V} {u : Value} (hv : VR φ v u) :
  ER φ (putF e d v) (a.put d u).tmps := by
 cases d with
 | none => exact r
 | some d =>
  have hlt := hd d rfl
  intro t x hx
  show ∃ u', (a.tmps.setIfInBounds d u)[t]? = some u' /\ VR φ x u'
  have hx : MapI.get (MapI.set e d v) t = some x := hx
  by_cases h : d = t
  ·subst h
   rw [zt] at hx; cases hx
   have hlt' : d < a.tmps.size := by rw [hs]; exact hlt
   exact ⟨u, by rw [Array.getElem?_setIfInBounds_self_of_lt hlt'], hv⟩
  ·rw [zu _ _ _ _ h] at hx
   obtain ⟨u', h1, h2⟩ := r t x hx
   exact ⟨u', by rw [Array.getElem?_setIfInBounds_ne h]; exact h1, h2⟩
theorem put_size {a : Act} {d : Option Tmp} {u : Value} : (a.put d u).tmps.size = a.tmps.size := by
 cases d
 ·rfl
 ·exact Array.size_setIfInBounds
theorem put_defers {a : Act} {d : Option Tmp} {u : Value} : (a.put d u).defers = a.defers := by cases d <;> rfl
theorem wanted_ok {φ : Nm} {e : E} {a : Act} (he : ER φ e a.tmps) {ops : Array Oper} {o : Oper} {b : Bool} (h : qx ops.toList e o = some b) :
  Region.wanted o (yielded ops a.tmps) = b := by
 unfold qx at h
 unfold Region.wanted
 cases hg : o.guard with
 | none => rw [hg] at h; cases h; rfl
 | some jw =>
  obtain ⟨j, want⟩ := jw
  rw [hg] at h
  have hd : dstOf ops.toList j = (ops[j]?).bind (·.dst) := by
   unfold dstOf
   rw [qL]
   have : ops.toList[j]? = ops[j]? := by simp
   rw [this]
   cases ops[j]? <;> rfl
  simp only [hd] at h
  simp only
  unfold yielded
  cases hq : (ops[j]?).bind (·.dst) with
  | none => rw [hq] at h; cases h; rfl
  | some d =>
   rw [hq] at h
   simp only at h
   cases hv : MapI.get e d with
   | none => rw [hv] at h; cases h
   | some v =>
    rw [hv] at h
    obtain ⟨u, h1, h2⟩ := he d v hv
    simp only [Option.bind_some, h1]
    cases h2 <;> cases h <;> rfl
def StepAt (cx : Cx) (call : Tgt -> List V -> M H V) (N : Nat) (ops : List Oper) (o : Oper) (e : E) (h : H) (c : Nat) (e' : E) (h' : H) (c' : Nat) (l : List Acc) : Prop :=
 (∀ d, o.dst = some d -> d < N) /\ ∃ v, e' = putF e o.dst v /\
  ((qx ops e o = some true /\ opM cx call e o h c = .ok v h' c' l) \/ (qx ops e o = some false /\ v = undefV /\ h' = h /\ c' = c /\ l = []))
theorem putE_ok {N : Nat} {e e' : E} {d : Option Tmp} {v : V} {h h' : H} {c c' : Nat} {l : List Acc} (h0 : putE N e d v h c = .ok e' h' c' l) :
  (∀ t, d = some t -> t < N) /\ e' = putF e d v /\ h' = h /\ c' = c /\ l = [] := by
 unfold putE at h0
 cases d with
 | none => obtain ⟨rfl, rfl, rfl, rfl⟩ := z7 h0; exact ⟨fun t ht => (by cases ht), rfl, rfl, rfl, rfl⟩
 | some d =>
  simp only at h0
  split at h0
  ·next hlt => obtain ⟨rfl, rfl, rfl, rfl⟩ := z7 h0; exact ⟨fun t ht => (by cases ht; exact hlt), rfl, rfl, rfl, rfl⟩
  ·exact (zY h0).elim
theorem stepOp_ok {N : Nat} {ops : List Oper} {o : Oper} {e e' : E} {h h' : H} {c c' : Nat} {l : List Acc} (h0 : stepOp cx call N ops o e h c = .ok e' h' c' l) :
  StepAt cx call N ops o e h c e' h' c' l := by
 unfold stepOp at h0
 cases hw : qx ops e o with
 | none => rw [hw] at h0; exact (zY h0).elim
 | some b =>
 rw [hw] at h0
 cases b
 case true =>
  obtain ⟨v, h1, c1, l1, l2, e1, e2, rfl⟩ := z8 h0
  obtain ⟨hN, rfl, rfl, rfl, rfl⟩ := putE_ok e2
  exact ⟨hN, v, rfl, .inl ⟨hw, by rw [List.append_nil]; exact e1⟩⟩
 case false =>
  obtain ⟨hN, rfl, rfl, rfl, rfl⟩ := putE_ok h0
  exact ⟨hN, _, rfl, .inr ⟨hw, rfl, rfl, rfl, rfl⟩⟩
theorem evLog_run {N : Nat} {ops : List Oper} : ∀ {l : List Oper} {e e' : E} {h h' : H} {c c' : Nat} {logs : List (List Acc)} {al : List Acc}, evLog cx call N ops l e h c = .ok (e', logs) h' c' al ->
  ∃ (es : Nat -> E) (hs : Nat -> H) (cs : Nat -> Nat) (lg : Nat -> List Acc), es 0 = e /\ hs 0 = h /\ cs 0 = c /\ es l.length = e' /\ hs l.length = h' /\ cs l.length = c' /\
   (∀ i, i < l.length -> logs[i]? = some (lg i)) /\ ∀ i o, l[i]? = some o -> StepAt cx call N ops o (es i) (hs i) (cs i) (es (i + 1)) (hs (i + 1)) (cs (i + 1)) (lg i)
 | [], e, e', h, h', c, c', logs, al, h0 => by
  unfold evLog at h0
  obtain ⟨hr, rfl, rfl, _⟩ := z7 h0
  cases hr
  exact ⟨fun _ => e, fun _ => h', fun _ => c', fun _ => [], rfl, rfl, rfl, rfl, rfl, rfl, fun i hi => by simp at hi, fun i o ho => by simp at ho⟩
 | o :: l, e, e', h, h', c, c', logs, al, h0 => by
  unfold evLog at h0
  obtain ⟨⟨e1, a1⟩, h1, c1, l1, l2, x1, x2, _⟩ := z8 h0
  simp only at x2
  obtain ⟨⟨e2, a2⟩, h2, c2, l3, l4, x3, x4, _⟩ := z8 x2
  obtain ⟨hr, rfl, rfl, _⟩ := z7 x4
  simp only at hr
  cases hr
  have x5 : stepOp cx call N ops o e h c = .ok e1 h1 c1 a1 := by
   unfold listen at x1
   cases q : stepOp cx call N ops o e h c with
   | err s => rw [q] at x1; cases x1
   | ok a b d f => rw [q] at x1; cases x1; rfl
  obtain ⟨es, hs, cs, lg, y1, y2, y3, y4, y5, y6, y7, y8⟩ := evLog_run x3
  refine ⟨fun i => match i with | 0 => e | i + 1 => es i, fun i => match i with | 0 => h | i + 1 => hs i, fun i => match i with | 0 => c | i + 1 => cs i, fun i => match i with | 0 => a1 | i + 1 => lg i,
   rfl, rfl, rfl, y4, y5, y6, fun i hi => ?_, fun i o' ho => ?_⟩
  ·cases i with
   | zero => rfl
   | succ i => exact y7 i (by simpa using hi)
  ·cases i with
   | zero =>
    cases ho
    simp only
    rw [y1, y2, y3]
    exact stepOp_ok x5
   | succ i => exact y8 i o' ho
def Wr (l : List Acc) (n : Nat) : Prop := ∃ x ∈ l, x.name = n /\ x.writes = true
theorem Rel.same {φ : Nm} {h h' : H} {w : World} (hh : ∀ n, MapI.get h' n = MapI.get h n) (r : Rel ng w0 φ h w) : Rel ng w0 φ h' w :=
 ⟨r.below, fun n o hn => r.obj n o (by rw [<- hh]; exact hn), fun n m o p L K hnm hn hm => r.apart n m o p L K hnm (by rw [<- hh]; exact hn) (by rw [<- hh]; exact hm), r.glob⟩
theorem Ext.trans2 {φ φ' φ'' : Nm} {a b : Nat} (h : Ext φ φ' a b) (k : Ext φ' φ'' a b) : Ext φ φ'' a b :=
 ⟨fun n L e => k.mono n L (h.mono n L e), fun n e => by
  by_cases x : φ'' n = φ' n
  ·exact h.only n (by rw [<- x]; exact e)
  ·exact k.only n x⟩
structure RunD (cx : Cx) (call : Tgt -> List V -> M H V) (N : Nat) (ops : List Oper) (es : Nat -> E) (hs : Nat -> H) (cs : Nat -> Nat) (lg : Nat -> List Acc) : Prop where
 step : ∀ i o, ops[i]? = some o -> StepAt cx call N ops o (es i) (hs i) (cs i) (es (i + 1)) (hs (i + 1)) (cs (i + 1)) (lg i)
 meets : ∀ i j x y, i < j -> j < ops.length -> x ∈ lg i -> y ∈ lg j -> x.name = y.name -> (x.writes = true \/ y.writes = true) -> Deps ops i j
 reg : regOk ops = true
 loc : ∀ f xs, Local (call f xs)
variable {N : Nat} {ops : Array Oper} {es : Nat -> E} {hs : Nat -> H} {cs : Nat -> Nat} {lg : Nat -> List Acc}
theorem RunD.fr (R : RunD cx call N ops.toList es hs cs lg) {i : Nat} (hi : i < ops.toList.length) : cs i <= cs (i + 1) /\ Fr (hs i) (hs (i + 1)) (lg i) := by
 obtain ⟨_, v, _, h | h⟩ := R.step i ops.toList[i] (by simp [hi])
 ·have := Local.opM R.loc _ _ _ _ _ _ h.2
  exact ⟨this.1, this.2.1⟩
 ·rw [h.2.2.2.1, h.2.2.1]; exact ⟨Nat.le_refl _, fun _ _ => rfl⟩
theorem RunD.mono (R : RunD cx call N ops.toList es hs cs lg) {i : Nat} : ∀ {k : Nat}, i <= k -> k <= ops.toList.length -> cs i <= cs k
 | 0, hik, _ => by have : i = 0 := by omega
                   subst this; exact Nat.le_refl _
 | k + 1, hik, hk => by
  by_cases h : i = k + 1
  ·subst h; exact Nat.le_refl _
  ·exact Nat.le_trans (R.mono (k := k) (by omega) (by omega)) (R.fr (by omega)).1
def In (S : Array Bool) (i : Nat) : Prop := S.getD i false = true
structure Inv (ng : Nat) (w0 : World) (N : Nat) (ops : Array Oper) (es : Nat -> E) (hs : Nat -> H) (cs : Nat -> Nat) (lg : Nat -> List Acc) (φ0 : Nm) (a0 : Act)
  (S : Array Bool) (φ : Nm) (e : E) (h : H) (a : Act) (w : World) : Prop where
 rel : Rel ng w0 φ h w
 fr : ER φ e a.tmps
 size : a.tmps.size = N
 defers : a.defers = a0.defers
 heap : ∀ j n, j <= ops.toList.length -> (∀ i, i < ops.toList.length -> Wr (lg i) n -> (In S i ↔ i < j)) -> MapI.get h n = MapI.get (hs j) n
 tmp : ∀ j t, j <= ops.toList.length -> (∀ i o, ops.toList[i]? = some o -> o.dst = some t -> (In S i ↔ i < j)) -> MapI.get e t = MapI.get (es j) t
 ext : Ext φ0 φ (cs 0) (cs ops.toList.length)
 fresh : ∀ j, j < ops.toList.length -> ¬ In S j -> Fresh φ (cs j) (cs (j + 1))
 closed : ∀ j o, ops.toList[j]? = some o -> In S j -> ∀ x ∈ o.after.toList, Region.binds .any x = true -> In S x.on
 lsize : S.size = ops.size
theorem In.set {S : Array Bool} {j i : Nat} (hj : j < S.size) : In (S.setIfInBounds j true) i ↔ (i = j \/ In S i) := by
 unfold In
 by_cases h : j = i
 ·subst h; simp [hj]
 ·rw [getD_set_ne false h]
  constructor
  ·exact .inr
  ·rintro (e | e)
   ·exact (h e.symm).elim
   ·exact e
variable {φ0 : Nm} {a0 : Act}
theorem Inv.tied {S : Array Bool} {φ : Nm} {e : E} {h : H} {a : Act} {w : World} (I : Inv ng w0 N ops es hs cs lg φ0 a0 S φ e h a w) {j : Nat} {o : Oper} (ho : ops.toList[j]? = some o) (hj : ¬ In S j)
  (hed : ∀ x ∈ o.after.toList, Region.binds .any x = true -> In S x.on) {i : Nat} {oi : Oper} (hoi : ops.toList[i]? = some oi)
  (ht : i ≠ j -> (i < j -> Deps ops.toList i j) /\ (j < i -> Deps ops.toList j i)) : In S i ↔ i < j := by
 have hin := deps_in (ops := ops.toList) (S := fun i => S.getD i false) (fun j o ho hs => I.closed j o ho hs)
 rcases Nat.lt_trichotomy i j with h | h | h
 ·exact ⟨fun _ => h, fun _ => hin j o ho hed i ((ht (by omega)).1 h)⟩
 ·subst h; exact ⟨fun x => (hj x).elim, fun x => by omega⟩
 ·exact ⟨fun x => (hj (hin i oi hoi (fun y hy hb => I.closed i oi hoi x y hy hb) j ((ht (by omega)).2 h))).elim, fun x => by omega⟩
theorem Inv.step (R : RunD cx call N ops.toList es hs cs lg) {S : Array Bool} {φ : Nm} {e : E} {h : H} {a : Act} {w : World} (I : Inv ng w0 N ops es hs cs lg φ0 a0 S φ e h a w) {j : Nat} {o : Oper}
  (ho : ops.toList[j]? = some o) (hj : ¬ In S j) (hed : ∀ x ∈ o.after.toList, Region.binds .any x = true -> In S x.on) {v : V} (hv : es (j + 1) = putF (es j) o.dst v) (hd : ∀ d, o.dst = some d -> d < N)
  {h1 : H} (f1 : Fr h h1 (lg j)) (f2 : Agree (hs (j + 1)) h1 (lg j)) {φ' : Nm} {u : Value} {w' : World} (hx : Ext φ φ' (cs j) (cs (j + 1))) (hr : Rel ng w0 φ' h1 w') (hu : VR φ' v u) :
  Inv ng w0 N ops es hs cs lg φ0 a0 (S.setIfInBounds j true) φ' (putF e o.dst v) h1 (a.put o.dst u) w' := by
 have hjl : j < ops.toList.length := (zj ho).1
 have hjs : j < S.size := by rw [I.lsize]; simpa using hjl
 have hin := deps_in (ops := ops.toList) (S := fun i => S.getD i false) (fun j o ho hs => I.closed j o ho hs)
 have back : ∀ k, j < k -> k < ops.toList.length -> In S k -> Deps ops.toList j k -> False := fun k hk hkl hks hdep =>
  hj (hin k ops.toList[k] (by simp [hkl]) (fun y hy hb => I.closed k _ (by simp [hkl]) hks y hy hb) j hdep)
 refine ⟨hr, ER.put (I.fr.mono hx.mono) I.size hd hu, by rw [put_size]; exact I.size, by rw [put_defers]; exact I.defers, fun j' n hj' hw => ?_, fun j' t hj' hw => ?_, ?_, fun i hi hni => ?_, fun i oi hoi hi x hx' hb => ?_, ?_⟩
 ·by_cases hW : Wr (lg j) n
  ·have hlt : j < j' := (hw j hjl hW).1 ((In.set hjs).2 (.inl rfl))
   have key : ∀ k, j + 1 <= k -> k <= j' -> MapI.get (hs k) n = MapI.get (hs (j + 1)) n := by
    intro k
    induction k with
    | zero => intro hk; omega
    | succ k ih =>
     intro hk hk'
     by_cases hkj : k = j
     ·subst hkj; rfl
     ·rw [<- ih (by omega) (by omega)]
      refine (R.fr (by omega)).2 n fun x hx hn => ?_
      cases hxw : x.writes
      ·rfl
      ·exfalso
       have hk1 := (hw k (by omega) ⟨x, hx, hn, hxw⟩).2 (by omega)
       obtain ⟨y, hy, hyn, hyw⟩ := hW
       rcases (In.set hjs).1 hk1 with e | e
       ·exact hkj e
       ·exact back k (by omega) (by omega) e (R.meets j k y x (by omega) (by omega) hy hx (by rw [hyn, hn]) (.inl hyw))
   obtain ⟨y, hy, hyn, hyw⟩ := hW
   rw [key j' (by omega) (Nat.le_refl _), <- hyn]
   exact f2 y hy
  ·rw [f1 n fun x hx hn => by
    cases hxw : x.writes
    ·rfl
    ·exact (hW ⟨x, hx, hn, hxw⟩).elim]
   refine I.heap j' n hj' fun i hi hwi => ?_
   rw [<- hw i hi hwi, In.set hjs]
   exact ⟨.inr, fun x => x.resolve_left fun e => by subst e; exact hW hwi⟩
 ·by_cases hW : o.dst = some t
  ·have hlt : j < j' := (hw j o ho hW).1 ((In.set hjs).2 (.inl rfl))
   have key : ∀ k, j + 1 <= k -> k <= j' -> MapI.get (es k) t = some v := by
    intro k
    induction k with
    | zero => intro hk; omega
    | succ k ih =>
     intro hk hk'
     by_cases hkj : k = j
     ·subst hkj; rw [hv, hW]; exact zt _ _ _
     ·have hkl : k < ops.toList.length := by omega
      have hk0 : ops.toList[k]? = some ops.toList[k] := by simp [hkl]
      obtain ⟨_, vk, hvk, _⟩ := R.step k _ hk0
      rw [<- ih (by omega) (by omega), hvk]
      cases hdk : ops.toList[k].dst with
      | none => rfl
      | some d =>
       refine zu _ _ _ _ fun e => ?_
       subst e
       have hk1 := (hw k _ hk0 hdk).2 (by omega)
       rcases (In.set hjs).1 hk1 with e | e
       ·exact hkj e
       ·exact back k (by omega) (by omega) e (regOk_tmps R.reg (by omega) ho hk0 (.inl ⟨hW, .inr hdk⟩))
   rw [key j' (by omega) (Nat.le_refl _), hW]
   exact zt _ _ _
  ·have : MapI.get (putF e o.dst v) t = MapI.get e t := by
    cases hd : o.dst with
    | none => rfl
    | some d => exact zu _ _ _ _ fun e => hW (by rw [hd, e])
   rw [this]
   refine I.tmp j' t hj' fun i oi hi hwi => ?_
   rw [<- hw i oi hi hwi, In.set hjs]
   exact ⟨.inr, fun x => x.resolve_left fun e => by subst e; rw [ho] at hi; cases hi; exact hW hwi⟩
 ·exact I.ext.trans2 (hx.wide (R.mono (Nat.zero_le _) (by omega)) (R.mono (by omega) (Nat.le_refl _)))
 ·have hij : i ≠ j := fun e => hni ((In.set hjs).2 (.inl e))
  have h0 := I.fresh i hi fun e => hni ((In.set hjs).2 (.inr e))
  intro n h1 h2
  have h3 := h0 n h1 h2
  cases h4 : φ' n with
  | none => rfl
  | some L =>
   exfalso
   have h5 := hx.only n (by rw [h3, h4]; exact fun e => by cases e)
   rcases Nat.lt_or_gt_of_ne hij with h | h
   ·have := R.mono (i := i + 1) (k := j) (by omega) (by omega); omega
   ·have := R.mono (i := j + 1) (k := i) (by omega) (by omega); omega
 ·rw [In.set hjs] at hi ⊢
  rcases hi with e | hi
  ·subst e; rw [ho] at hoi; cases hoi; exact .inr (hed x hx' hb)
  ·exact .inr (I.closed i oi hoi hi x hx' hb)
 ·rw [Array.size_setIfInBounds]; exact I.lsize
theorem Inv.wpOp (hcx : qJ P cx) (hng : cx.ng = ng) (hcall : gy P ng w0 call) (R : RunD cx call N ops.toList es hs cs lg) {S : Array Bool} {φ : Nm} {e : E} {h : H} {a : Act} {w : World}
  (I : Inv ng w0 N ops es hs cs lg φ0 a0 S φ e h a w) {Q : Exit -> Act -> World -> Prop} {K : Act -> World -> Prop} {j : Nat} (hjr : j ∈ Region.ready .any ops S)
  (hK : ∀ φ' e' h' a' w', Inv ng w0 N ops es hs cs lg φ0 a0 (S.setIfInBounds j true) φ' e' h' a' w' -> K a' w') : wpOpIn (fe ro) 0 P ops Q j K a w := by
 obtain ⟨hjS, o, ho, hall⟩ := mem_ready.1 hjr
 have hol : ops.toList[j]? = some o := by simpa using ho
 have hjl : j < ops.toList.length := (zj hol).1
 have hnj : ¬ In S j := fun e => by
  unfold In at e
  have : j < S.size := by rw [I.lsize]; simpa using hjl
  simp [this] at e hjS
  rw [e] at hjS; cases hjS
 have hed : ∀ x ∈ o.after.toList, Region.binds .any x = true -> In S x.on := fun x hx hb => hall x (by simpa using hx) hb
 obtain ⟨hd, v, hv, hcase⟩ := R.step j o hol
 have hlooks : ∀ t ∈ looks ops.toList o, MapI.get e t = MapI.get (es j) t := fun t ht =>
  I.tmp j t (by omega) fun i oi hoi hdi => I.tied hol hnj hed hoi fun hij =>
   ⟨fun hlt => regOk_tmps R.reg hlt hoi hol (.inl ⟨hdi, .inl ht⟩), fun hlt => regOk_tmps R.reg hlt hol hoi (.inr ⟨hdi, ht⟩)⟩
 unfold wpOpIn
 simp only [ho]
 rcases hcase with ⟨hw, hrun⟩ | ⟨hw, rfl, hh, hc, hl⟩
 ·rw [<- wantedV_looks hlooks] at hw
  rw [wanted_ok I.fr hw]
  simp only [if_true]
  rw [<- opM_looks hlooks] at hrun
  obtain ⟨_, f3, hloc⟩ := Local.opM R.loc _ _ _ _ _ _ hrun
  obtain ⟨h1, hrun', f2⟩ := hloc h fun x hx => I.heap j x.name (by omega) fun i hi ⟨y, hy, hyn, hyw⟩ =>
   I.tied hol hnj hed (i := i) (oi := ops.toList[i]) (by simp [hi]) fun hij =>
    ⟨fun hlt => R.meets i j y x hlt hjl hy hx hyn (.inl hyw), fun hlt => R.meets j i x y hlt hi hx hy hyn.symm (.inr hyw)⟩
  obtain ⟨_, f1, _⟩ := Local.opM R.loc _ _ _ _ _ _ hrun'
  exact opM_ok hcx hng hcall I.fr I.rel hrun' (I.fresh j hjl hnj) fun φ' u w' k1 k2 k3 k4 => hK φ' _ _ _ _ (I.step R hol hnj hed hv hd f1 f2 k1 k3 k4)
 ·rw [<- wantedV_looks hlooks] at hw
  rw [wanted_ok I.fr hw]
  simp only [Bool.false_eq_true, if_false]
  refine ⟨fun _ _ => trivial, hK φ _ h _ w (I.step R hol hnj hed hv hd (fun _ _ => rfl) (fun x hx => by rw [hl] at hx; cases hx) (Ext.refl _ _ _) I.rel (.tuple .nil))⟩
theorem Inv.full {S : Array Bool} {φ : Nm} {e : E} {h : H} {a : Act} {w : World} (R : RunD cx call N ops.toList es hs cs lg) (I : Inv ng w0 N ops es hs cs lg φ0 a0 S φ e h a w)
  (hr : Region.ready .any ops S = []) : ∀ j, j < ops.toList.length -> In S j := by
 intro j
 induction j using Nat.strongRecOn with
 | _ j ih =>
  intro hj
  have ho : ops.toList[j]? = some ops.toList[j] := by simp [hj]
  cases hS : S.getD j false with
  | true => exact hS
  | false =>
   exfalso
   have : j ∈ Region.ready .any ops S := by
    rw [mem_ready]
    refine ⟨?_, ops.toList[j], by simpa using ho, fun x hx hb => ?_⟩
    ·have : j < S.size := by rw [I.lsize]; simpa using hj
     simp [this] at hS ⊢; exact hS
    ·have := regOk_edges R.reg ho (x := x) (by simpa using hx) hb
     exact ih x.on this (by omega)
   rw [hr] at this; cases this
theorem region_any (hcx : qJ P cx) (hng : cx.ng = ng) (hcall : gy P ng w0 call) (R : RunD cx call N ops.toList es hs cs lg) {Q : Exit -> Act -> World -> Prop}
  (hQ : ∀ φ' a' w', Ext φ0 φ' (cs 0) (cs ops.toList.length) -> Rel ng w0 φ' (hs ops.toList.length) w' -> ER φ' (es ops.toList.length) a'.tmps -> a'.tmps.size = N -> a'.defers = a0.defers -> Q .normal a' w') :
  ∀ (fuel : Nat) (S : Array Bool) (φ : Nm) (e : E) (h : H) (a : Act) (w : World), S.toList.count false <= fuel -> Inv ng w0 N ops es hs cs lg φ0 a0 S φ e h a w -> wpAnyIn (fe ro) 0 P .any ops Q fuel S a w := by
 have done : ∀ (S : Array Bool) (φ : Nm) (e : E) (h : H) (a : Act) (w : World), Inv ng w0 N ops es hs cs lg φ0 a0 S φ e h a w -> (∀ j, j < ops.toList.length -> In S j) -> Q .normal a w := by
  intro S φ e h a w I hall
  refine hQ φ a w I.ext (I.rel.same fun n => ?_) (fun t v hv => I.fr t v ?_) I.size I.defers
  ·exact (I.heap _ n (Nat.le_refl _) fun i hi _ => ⟨fun _ => hi, fun _ => hall i hi⟩).symm
  ·rw [I.tmp _ t (Nat.le_refl _) fun i o ho _ => ⟨fun _ => (zj ho).1, fun _ => hall i (zj ho).1⟩]; exact hv
 intro fuel
 induction fuel with
 | zero =>
  intro S φ e h a w hc I
  have hnil : Region.ready .any ops S = [] := by
   apply List.eq_nil_iff_forall_not_mem.2
   intro j hj
   obtain ⟨h0, o, ho, _⟩ := mem_ready.1 hj
   have hlt : j < S.size := by rw [I.lsize]; exact (Array.getElem?_eq_some_iff.1 ho).1
   simp [hlt] at h0
   have : false ∈ S.toList := by rw [<- h0]; simp
   have := List.count_pos_iff.2 this
   omega
  exact ⟨hnil, done S φ e h a w I (I.full R hnil)⟩
 | succ fuel ih =>
  intro S φ e h a w hc I
  refine ⟨fun hnil => done S φ e h a w I (I.full R hnil), fun j hj => I.wpOp hcx hng hcall R hj fun φ' e' h' a' w' I' => ih _ φ' e' h' a' w' ?_ I'⟩
  obtain ⟨h0, o, ho, _⟩ := mem_ready.1 hj
  have hlt : j < S.size := by rw [I.lsize]; exact (Array.getElem?_eq_some_iff.1 ho).1
  simp [hlt] at h0
  rw [Array.toList_setIfInBounds, List.count_set (by simpa using hlt)]
  have h1 : S.toList[j]'(by simpa using hlt) = false := by simpa using h0
  have : 0 < S.toList.count false := List.count_pos_iff.2 (by rw [<- h1]; exact List.getElem_mem _)
  rw [h1]
  show S.toList.count false - 1 + 0 <= fuel
  omega
theorem evDrawn_ok (hcx : qJ P cx) (hng : cx.ng = ng) (hcall : gy P ng w0 call) (hloc : ∀ f xs, Local (call f xs)) (hmix : P.follows .mixedOrders = true) (hreg : regOk ops.toList = true)
  {φ : Nm} {e e' : E} {h h' : H} {c c' : Nat} {l : List Acc} {a : Act} {w : World} (he : ER φ e a.tmps) (hsz : a.tmps.size = N) (r : Rel ng w0 φ h w)
  (hrun : evDrawn cx call N ops.toList e h c = .ok e' h' c' l) (hf : Fresh φ c c') {Q : Exit -> Act -> World -> Prop} {id : Nat}
  (hQ : ∀ φ' a' w', Ext φ φ' c c' -> Rel ng w0 φ' h' w' -> ER φ' e' a'.tmps -> a'.tmps.size = N -> a'.defers = a.defers -> Q .normal a' w') : (Code.region id ops true).wpIn (fe ro) 0 P Q a w := by
 unfold evDrawn at hrun
 obtain ⟨⟨e1, logs⟩, h1, c1, l1, l2, x1, x2, _⟩ := z8 hrun
 simp only at x2
 split at x2
 ·next hlogs =>
  obtain ⟨rfl, rfl, rfl, _⟩ := z7 x2
  obtain ⟨es, hs, cs, lg, y1, y2, y3, y4, y5, y6, y7, y8⟩ := evLog_run x1
  have R : RunD cx call N ops.toList es hs cs lg := ⟨y8, fun i j x y hij hj hx hy hn hw => logsOk_ok hlogs hij hj (y7 i (by omega)) (y7 j hj) hx hy hn hw, hreg, hloc⟩
  refine wpIn_region_any hmix (region_any (φ0 := φ) (a0 := a) hcx hng hcall R (fun φ' a' w' k1 k2 k3 k4 k5 => ?_) ops.size _ φ e h a _ ?_ ?_)
  ·rw [y4, ] at k3
   rw [y5] at k2
   rw [y3, y6] at k1
   exact hQ φ' a' w' k1 k2 k3 k4 k5
  ·have := List.count_le_length (a := false) (l := (Array.replicate ops.size false).toList)
   simpa using this
  ·have no : ∀ i, ¬ In (Array.replicate ops.size false) i := fun i hi => by
    unfold In at hi
    by_cases h : i < ops.size
    ·simp [h] at hi
    ·simp [h] at hi
   refine ⟨r.drew _, he, hsz, rfl, fun j n hj hw => ?_, fun j t hj hw => ?_, Ext.refl _ _ _, fun j hj _ => ?_, fun j o ho hi => (no j hi).elim, by simp⟩
   ·have key : ∀ k, k <= j -> MapI.get (hs k) n = MapI.get h n := by
     intro k
     induction k with
     | zero => intro _; rw [y2]
     | succ k ih =>
      intro hk
      rw [<- ih (by omega)]
      refine (R.fr (by omega)).2 n fun x hx hn => ?_
      cases hxw : x.writes
      ·rfl
      ·exact (no k ((hw k (by omega) ⟨x, hx, hn, hxw⟩).2 (by omega))).elim
    exact (key j (Nat.le_refl _)).symm
   ·have key : ∀ k, k <= j -> MapI.get (es k) t = MapI.get e t := by
     intro k
     induction k with
     | zero => intro _; rw [y1]
     | succ k ih =>
      intro hk
      have hkl : k < ops.toList.length := by omega
      have hk0 : ops.toList[k]? = some ops.toList[k] := by simp [hkl]
      obtain ⟨_, vk, hvk, _⟩ := R.step k _ hk0
      rw [<- ih (by omega), hvk]
      cases hdk : ops.toList[k].dst with
      | none => rfl
      | some d =>
       refine zu _ _ _ _ fun e => ?_
       subst e
       exact (no k ((hw k _ hk0 hdk).2 (by omega))).elim
    exact (key j (Nat.le_refl _)).symm
   ·intro n h2 h3
    refine hf n ?_ ?_
    ·have := R.mono (i := 0) (k := j) (by omega) (by omega); rw [y3] at this; omega
    ·have := R.mono (i := j + 1) (k := ops.toList.length) (by omega) (Nat.le_refl _); rw [y6] at this; omega
 ·exact (zY x2).elim
end
open Go.RowKit
def exOf : Ex -> Exit
 | .normal => .normal
 | .exit i => .exit i
 | .ret => .ret
section
variable {H E : Type} [MapI H AObj] [MapI E V] {P : Program} {ng : Nat} {w0 : World} {cx : Cx} {call : Tgt -> List V -> M H V} {ro : Option Nat}
inductive MarksR (φ : Nm) : List Nat -> List Deferred -> Prop where
 | nil : MarksR φ [] []
 | cons {n : Nat} {L : Loc} {ms : List Nat} {ds : List Deferred} : φ n = some L -> MarksR φ ms ds -> MarksR φ (n :: ms) ({ target := .collected L.blk, args := #[] } :: ds)
theorem MarksR.mono {φ φ' : Nm} (h : ∀ n L, φ n = some L -> φ' n = some L) {ms : List Nat} {ds : List Deferred} (r : MarksR φ ms ds) : MarksR φ' ms ds := by
 induction r with
 | nil => exact .nil
 | cons a _ ih => exact .cons (h _ _ a) ih
def Lands (ng : Nat) (w0 : World) (N : Nat) (φ : Nm) (c c' : Nat) (h' : H) (e' : E) (ms' : List Nat) (K : Act -> World -> Prop) : Prop :=
 ∀ φ' a' w', Ext φ φ' c c' -> Rel ng w0 φ' h' w' -> ER φ' e' a'.tmps -> a'.tmps.size = N -> MarksR φ' ms' a'.defers -> K a' w'
theorem Fresh.sub {φ : Nm} {a b a' b' : Nat} (h : Fresh φ a b) (h1 : a <= a') (h2 : b' <= b) : Fresh φ a' b' := fun n x y => h n (by omega) (by omega)
theorem Fresh.ext {φ φ' : Nm} {a b c : Nat} (h : Fresh φ a c) (hx : Ext φ φ' a b) (hab : a <= b) : Fresh φ' b c := fun n h1 h2 => by
 cases h3 : φ' n with
 | none => rfl
 | some L =>
  have := hx.only n (by rw [h n (by omega) h2, h3]; exact fun e => by cases e)
  omega
theorem evOps_ok (hcx : qJ P cx) (hng : cx.ng = ng) (hcall : gy P ng w0 call) (hloc : ∀ t xs, Local (call t xs)) {N : Nat} {ops : Array Oper} {Q : Exit -> Act -> World -> Prop} :
  ∀ {l : List Oper} {k : Nat} {e e' : E} {h h' : H} {c c' : Nat} {al : List Acc} {φ : Nm} {a : Act} {w : World} {ms : List Nat}, ops.toList.drop k = l -> evOps cx call N ops.toList l e h c = .ok e' h' c' al ->
   ER φ e a.tmps -> a.tmps.size = N -> MarksR φ ms a.defers -> Rel ng w0 φ h w -> Fresh φ c c' -> Lands ng w0 N φ c c' h' e' ms (Q .normal) -> wpOpsIn (fe ro) 0 P ops Q (List.range' k l.length) a w
 | [], k, e, e', h, h', c, c', al, φ, a, w, ms, hl, hrun, he, hs, hm, r, hf, hQ => by
  unfold evOps at hrun
  obtain ⟨rfl, rfl, rfl, _⟩ := z7 hrun
  exact hQ φ a w (Ext.refl _ _ _) r he hs hm
 | o :: l, k, e, e', h, h', c, c', al, φ, a, w, ms, hl, hrun, he, hs, hm, r, hf, hQ => by
  unfold evOps at hrun
  obtain ⟨e1, h1, c1, l1, l2, x1, x2, _⟩ := z8 hrun
  have hc1 := (wu hloc _ _ _ _ _ _ x1).1
  have hc2 := (Local.evOps hloc _ _ _ _ _ _ x2).1
  have ho : ops.toList[k]? = some o := by
   have := congrArg (·[0]?) hl
   simp only [List.getElem?_drop, Nat.add_zero, List.getElem?_cons_zero] at this
   exact this
  have hl' : ops.toList.drop (k + 1) = l := by rw [<- List.tail_drop, hl]; rfl
  obtain ⟨hd, v, rfl, hcase⟩ := stepOp_ok x1
  have go : ∀ φ' u w', Ext φ φ' c c1 -> Rel ng w0 φ' h1 w' -> VR φ' v u -> wpOpsIn (fe ro) 0 P ops Q (List.range' (k + 1) l.length) (a.put o.dst u) w' := fun φ' u w' k1 k2 k3 =>
   evOps_ok hcx hng hcall hloc hl' x2 (ER.put (he.mono k1.mono) hs hd k3) (by rw [put_size]; exact hs) (by rw [put_defers]; exact hm.mono k1.mono) k2 (hf.ext k1 hc1) fun φ'' a'' w'' m1 m2 m3 m4 m5 =>
    hQ φ'' a'' w'' (k1.trans m1 hc1 hc2) m2 m3 m4 m5
  have ho' : ops[k]? = some o := by simpa using ho
  rw [List.length_cons, List.range'_succ]
  unfold wpOpsIn
  simp only [ho']
  rcases hcase with ⟨hw, hop⟩ | ⟨hw, rfl, rfl, rfl, _⟩
  ·rw [wanted_ok he hw]
   simp only [if_true]
   exact opM_ok hcx hng hcall he r hop (hf.sub (Nat.le_refl _) hc2) fun φ' u w' k1 k2 k3 k4 => go φ' u w' k1 k3 k4
  ·rw [wanted_ok he hw]
   simp only [Bool.false_eq_true, if_false]
   exact ⟨fun _ _ => trivial, go φ _ w (Ext.refl _ _ _) r (.tuple .nil)⟩
theorem loopM_ok {N : Nat} {Q : Exit -> Act -> World -> Prop} {b : Code} {body : List Nat -> E -> M H (Out E)} (hloc : ∀ ms e, Local (body ms e))
  (hb : ∀ {ex : Ex} {e e' : E} {ms ms' : List Nat} {h h' : H} {c c' : Nat} {al : List Acc} {φ : Nm} {a : Act} {w : World} {Q : Exit -> Act -> World -> Prop}, body ms e h c = .ok (ex, e', ms') h' c' al ->
   ER φ e a.tmps -> a.tmps.size = N -> MarksR φ ms a.defers -> Rel ng w0 φ h w -> Fresh φ c c' -> Lands ng w0 N φ c c' h' e' ms' (Q (exOf ex)) -> b.wpIn (fe ro) 0 P Q a w) :
  ∀ {n : Nat} {ex : Ex} {e e' : E} {ms ms' : List Nat} {h h' : H} {c c' : Nat} {al : List Acc} {φ : Nm} {a : Act} {w : World}, loopM body n ms e h c = .ok (ex, e', ms') h' c' al ->
   ER φ e a.tmps -> a.tmps.size = N -> MarksR φ ms a.defers -> Rel ng w0 φ h w -> Fresh φ c c' -> Lands ng w0 N φ c c' h' e' ms' (Q (exOf ex)) -> Code.roundsIn (fe ro) 0 P b Q n a w
 | 0, ex, e, e', ms, ms', h, h', c, c', al, φ, a, w, hrun, _, _, _, _, _, _ => by unfold loopM at hrun; exact (zY hrun).elim
 | n + 1, ex, e, e', ms, ms', h, h', c, c', al, φ, a, w, hrun, he, hs, hm, r, hf, hQ => by
  unfold loopM at hrun
  obtain ⟨⟨ex1, e1, ms1⟩, h1, c1, l1, l2, x1, x2, _⟩ := z8 hrun
  have hc1 := (hloc _ _ _ _ _ _ _ _ x1).1
  rw [roundsIn_succ]
  cases ex1 with
  | normal =>
   simp only at x2
   have hc2 := (Local.loopM hloc _ _ _ _ _ _ x2).1
   refine hb x1 he hs hm r (hf.sub (Nat.le_refl _) hc2) fun φ' a' w' k1 k2 k3 k4 k5 => ?_
   exact loopM_ok hloc hb x2 k3 k4 k5 k2 (hf.ext k1 hc1) fun φ'' a'' w'' m1 m2 m3 m4 m5 => hQ φ'' a'' w'' (k1.trans m1 hc1 hc2) m2 m3 m4 m5
  | exit i =>
   simp only at x2
   obtain ⟨hr, rfl, rfl, _⟩ := z7 x2
   cases hr
   exact hb x1 he hs hm r hf hQ
  | ret =>
   simp only at x2
   obtain ⟨hr, rfl, rfl, _⟩ := z7 x2
   cases hr
   exact hb x1 he hs hm r hf hQ
theorem known_ok {φ : Nm} {e : E} {ts : Array Value} (he : ER φ e ts) : ∀ n, KnownR φ (known e n) ts
 | 0 => fun t v hv => by cases hv
 | n + 1 => fun t v hv => by
  unfold known at hv
  split at hv
  ·next x hx =>
   rcases zl hv with h | h
   ·cases h; exact he _ _ hx
   ·exact known_ok he n t v h
  ·exact known_ok he n t v hv
theorem bodied_ok (hcx : qJ P cx) {f : Nat} (h : bodied cx f = true) : ∃ fn c, P.funcs[f]? = some fn /\ (fn.name == "runtime.NumGoroutine") = false /\ fn.body = some c := by
 unfold bodied at h
 cases hf : cx.fn f with
 | none => rw [hf] at h; cases h
 | some fn =>
  rw [hf] at h
  obtain ⟨h1, h2⟩ := hcx.fn _ _ hf
  cases hb : fn.body with
  | none => simp only [hb] at h; cases h
  | some c => exact ⟨fn, c, h1, h2, hb⟩
theorem Answers.calls {φ : Nm} {f : Nat} {xs : Array Value} {w : World} {R : Value -> World -> Prop} {fn : Func} {code : Code} (hP : P.funcs[f]? = some fn) (hname : (fn.name == "runtime.NumGoroutine") = false)
  (hb : fn.body = some code) (h : Answers P φ (.fn f) xs w R) : (callFunc f xs).run P w = .ok (.enter f xs) w /\ Calls P f xs w fun e w' => ∃ u, e = .returned u /\ R u w' := by
 have hc : (callFunc f xs).run P w = .ok (.enter f xs) w := by
  simp only [callFunc, Sem.run_bind, run_program, Result.andThen_ok, hP, hname, hb]; rfl
 rcases h with h | ⟨u, w', h, _⟩
 ·exact h
 ·rw [hc] at h; cases h
theorem rangeFunc_ok (hcx : qJ P cx) (hng : cx.ng = ng) (hcall : gy P ng w0 call) (hloc : ∀ t xs, Local (call t xs)) {N n : Nat} {g : Operand} {ps : Array Tmp} {zR bo : Code}
  {ex : Ex} {e e' : E} {ms ms' : List Nat} {h h' : H} {c c' : Nat} {al : List Acc} {φ : Nm} {a : Act} {w : World} {Q : Exit -> Act -> World -> Prop}
  (hgo : jg (.rangeFunc g ps zR bo) = true) (hrun : evCode cx call false N n (.rangeFunc g ps zR bo) ms e h c = .ok (ex, e', ms') h' c' al) (he : ER φ e a.tmps) (hs : a.tmps.size = N) (hm : MarksR φ ms a.defers) (r : Rel ng w0 φ h w)
  (hf : Fresh φ c c') (hQ : Lands ng w0 N φ c c' h' e' ms' (Q (exOf ex))) : (Code.rangeFunc g ps zR bo).wpIn (fe none) 0 P Q a w := by
 have hgo' : jg zR = true /\ jg bo = true := by unfold jg at hgo; simpa using hgo
 unfold evCode at hrun
 simp only [Bool.false_eq_true, if_false] at hrun
 obtain ⟨v, h1, c1, l1, l2, x1, x2, _⟩ := z8 hrun
 obtain ⟨hv, rfl, rfl, _⟩ := yH x1
 have hvr := q7 he r hng hv
 cases v <;> try exact (zY x2).elim
 rename_i fn first cap
 cases fn <;> try exact (zY x2).elim
 cases first <;> try exact (zY x2).elim
 rename_i gf
 simp only at x2
 split at x2
 ·next hbod =>
  obtain ⟨fnn, code, hP, hname, hbody⟩ := bodied_ok hcx hbod
  obtain ⟨d, h2, c2, l3, l4, x3, x4, _⟩ := z8 x2
  obtain ⟨rfl, rfl, rfl, _⟩ := jF x3
  obtain ⟨l, h3, c3, l5, l6, x5, x6, _⟩ := z8 x4
  obtain ⟨rfl, rfl, rfl, _⟩ := jF x5
  obtain ⟨rv, h4, c4, l7, l8, x7, x8, _⟩ := z8 x6
  obtain ⟨ob, h5, c5, l9, l10, x9, x10, _⟩ := z8 x8
  obtain ⟨hg, rfl, rfl, _⟩ := y9 x9
  have hc4 := (hloc _ _ _ _ _ _ _ _ x7).1
  have hc5 : c5 <= c' := by
   cases ob <;> try exact (zY x10).elim
   rename_i st d' N' es' ps' as' bo'
   cases st <;> try exact (zY x10).elim
   ·exact (yb Local.set (fun _ => Local.ret) _ _ _ _ _ _ x10).1
   ·exact (yb Local.set (fun _ => Local.ret) _ _ _ _ _ _ x10).1
  generalize hce : a.eval g = gu at hvr
  cases hvr with | func hfirst hcap => ?_
  rename_i first' cap'
  cases hfirst
  -- the two blocks
  have hd0 := hf d (Nat.le_refl _) (by omega)
  let L1 : Loc := ⟨w.heap.size, 0, 0⟩
  let L2 : Loc := ⟨w.heap.size + 1, 0, 0⟩
  have r1 := r.alloc (b := .deferred (some [])) (L := L1) (o := .defs) hd0 rfl rfl rfl
  have hl0 : (φ.put d L1) (d + 1) = none := by
   have := hf (d + 1) (by omega) (by omega)
   unfold Nm.put; rw [if_neg (by omega)]; exact this
  have hsz1 : (w.alloc (.deferred (some []))).heap.size = w.heap.size + 1 := by rw [World.size_alloc]
  have hx1 : Ext φ (φ.put d L1) d (d + 1) := Ext.put L1 hd0
  have hx2 : Ext (φ.put d L1) ((φ.put d L1).put (d + 1) L2) (d + 1) (d + 1 + 1) := Ext.put L2 hl0
  refine wpIn_rangeFunc fun fn _ => ?_
  have r2 := r1.alloc (b := .loop { state := .ready, pending := none, fn, tmps := a.tmps, params := ps, assign := zR, body := bo, defers := w.heap.size }) (L := L2) (o := .loop .ready d N (known e N) ps.toList zR bo) hl0
   hsz1.symm rfl ⟨rfl, _, rfl, rfl, rfl, hs, known_ok (he.mono fun n L e => hx2.mono _ _ (hx1.mono _ _ e)) N, rfl, rfl, rfl, hgo'.1, hgo'.2⟩
  have hput : ((φ.put d L1).put (d + 1) L2) (d + 1) = some L2 := j1
  have hargs : VRs ((φ.put d L1).put (d + 1) L2) (.yld (d + 1) :: cap) (.func (.yield L2.blk) #[] #[] :: cap') := .cons (.yld hput) (hcap.mono fun n L e => hx2.mono _ _ (hx1.mono _ _ e))
  have hx12 : Ext φ ((φ.put d L1).put (d + 1) L2) d (d + 1 + 1) := hx1.trans hx2 (by omega) (by omega)
  have hf2 : Fresh ((φ.put d L1).put (d + 1) L2) (d + 1 + 1) c' := hf.ext hx12 (by omega)
  have hans := hcall _ _ _ _ _ _ _ _ _ _ _ x7 r2 hargs (hf2.sub (Nat.le_refl _) hc5)
  obtain ⟨hent, hcalls⟩ := Answers.calls hP hname hbody hans
  refine ⟨w.heap.size + 1, [{ target := .collected w.heap.size, args := #[] }], _, { target := .fn (.func gf) ⟨cap'⟩, args := #[.func (.yield (w.heap.size + 1)) #[] #[]] }, ((w.alloc (.deferred (some []))).alloc (.loop { state := .ready, pending := none, fn, tmps := a.tmps, params := ps, assign := zR, body := bo, defers := w.heap.size })), gf,
   ⟨.func (.yield (w.heap.size + 1)) #[] #[] :: cap'⟩, _, run_enterLoop_outer _ _ _ _ _, ?_, fun _ _ => trivial, ?_, fun h => (by cases h), callsIn_fe.2 (hcalls.mono fun e3 w3 ⟨u, he3, φ3, k1, k2, k3, k4⟩ => ?_)⟩
  ·simp only [rangeCall, resolve, hce]
   simp [go_sem]
  ·have e9 : (#[Value.func (.yield (w.heap.size + 1)) #[] #[]] ++ (⟨cap'⟩ : Array Value)) = ⟨.func (.yield (w.heap.size + 1)) #[] #[] :: cap'⟩ := by apply Array.ext'; simp
   have hent' := hent
   simp only [invoke, e9]
   simp only [callFunc, Sem.run_bind, run_program, Result.andThen_ok, hP, hname, hbody]; rfl
  ·subst he3
   have hx3 : Ext φ φ3 d c5 := hx12.trans k1 (by omega) k2
   have hL2 := k1.mono _ _ hput
   obtain ⟨K, hK, hob, hwr⟩ := k3.obj _ _ hg
   clear hwr
   rw [hL2] at hK; cases hK
   have fin : ∀ (d' N' : Nat) (es' : List (Nat × V)) (ps' : List Nat) (as' bo' : Code) (st : LSt) (q : Loop), ob = .loop st d' N' es' ps' as' bo' -> ObjR φ3 (.loop st d' N' es' ps' as' bo') L2 w3.heap[L2.blk]? ->
     w3.heap[L2.blk]? = some (.loop q) -> q.state ≠ .busy ->
     Rel ng w0 φ3 (MapI.set h5 (d + 1) (.loop .over d' N' es' ps' as' bo')) (w3.putObj (w.heap.size + 1) (.loop { q with state := .exhausted })) := by
    intro d' N' es' ps' as' bo' st q hob' hor hq _
    subst hob'
    obtain ⟨ho, q', hb', _, _, t1, t2, t3, t4, t5⟩ := hor
    rw [hq] at hb'; cases hb'
    exact k3.setBlk hg rfl hL2 rfl ⟨ho, _, rfl, rfl, trivial, t1, t2, t3, t4, t5⟩
   cases ob <;> try exact (zY x10).elim
   case loop st d' N' es' ps' as' bo' =>
    obtain ⟨ho, q, hb, hst, hpe, hrest⟩ := hob
    have hob2 : ObjR φ3 (.loop st d' N' es' ps' as' bo') L2 w3.heap[L2.blk]? := ⟨ho, q, hb, hst, hpe, hrest⟩
    have hb' : w3.heap[w.heap.size + 1]? = some (.loop q) := hb
    cases st <;> try exact (zY x10).elim
    case ready =>
     simp only at x10
     obtain ⟨_, h6, c6, l11, l12, y1, y2, _⟩ := z8 x10
     obtain ⟨_, rfl, rfl, _⟩ := ju y1
     obtain ⟨hr, rfl, rfl, _⟩ := z7 y2
     cases hr
     have hnb : q.state ≠ .busy := by rw [hst]; exact fun e => by cases e
     have hpe : q.pending = none := hpe
     refine ⟨none, _, by rw [<- hpe]; exact run_endLoop hb' hnb, ?_⟩
     exact hQ φ3 _ _ (hx3.wide (Nat.le_refl _) hc5) (fin _ _ _ _ _ _ _ q rfl hob2 hb hnb) (he.mono hx3.mono) hs (.cons (k1.mono _ _ (hx2.mono _ _ j1)) (hm.mono hx3.mono))
    case done j =>
     simp only at x10
     obtain ⟨_, h6, c6, l11, l12, y1, y2, _⟩ := z8 x10
     obtain ⟨_, rfl, rfl, _⟩ := ju y1
     obtain ⟨hr, rfl, rfl, _⟩ := z7 y2
     cases hr
     have hnb : q.state ≠ .busy := by rw [hst]; exact fun e => by cases e
     have hpe : q.pending = some (codeOf ex) := hpe
     refine ⟨some (codeOf ex), _, by rw [<- hpe]; exact run_endLoop hb' hnb, ?_⟩
     have hq := hQ φ3 { a with defers := [{ target := .collected w.heap.size, args := #[] }] ++ a.defers } _ (hx3.wide (Nat.le_refl _) hc5) (fin _ _ _ _ _ _ _ q rfl hob2 hb hnb) (he.mono hx3.mono) hs
      (.cons (k1.mono _ _ (hx2.mono _ _ j1)) (hm.mono hx3.mono))
     cases ex with
     | normal => exact wpIn_skip hq
     | exit i => exact wpIn_exit hq
     | ret => exact wpIn_ret hq
 ·exact (zY x2).elim
theorem jI (hcx : qJ P cx) (hng : cx.ng = ng) (hcall : gy P ng w0 call) (hloc : ∀ t xs, Local (call t xs)) (hmix : P.follows .mixedOrders = true) {rd : Bool} (hro : rd = false -> ro = none) {N n : Nat} :
  ∀ {code : Code} {ex : Ex} {e e' : E} {ms ms' : List Nat} {h h' : H} {c c' : Nat} {al : List Acc} {φ : Nm} {a : Act} {w : World} {Q : Exit -> Act -> World -> Prop}, jg code = true ->
   evCode cx call rd N n code ms e h c = .ok (ex, e', ms') h' c' al -> ER φ e a.tmps -> a.tmps.size = N -> MarksR φ ms a.defers -> Rel ng w0 φ h w -> Fresh φ c c' ->
   Lands ng w0 N φ c c' h' e' ms' (Q (exOf ex)) -> code.wpIn (fe ro) 0 P Q a w
 | .skip, ex, e, e', ms, ms', h, h', c, c', al, φ, a, w, Q, hg, hrun, he, hs, hm, r, hf, hQ => by
  unfold evCode at hrun
  obtain ⟨hr, rfl, rfl, _⟩ := z7 hrun
  cases hr
  exact wpIn_skip (hQ φ a w (Ext.refl _ _ _) r he hs hm)
 | .label _, ex, e, e', ms, ms', h, h', c, c', al, φ, a, w, Q, hg, hrun, he, hs, hm, r, hf, hQ => by
  unfold evCode at hrun
  obtain ⟨hr, rfl, rfl, _⟩ := z7 hrun
  cases hr
  exact wpIn_label (hQ φ a w (Ext.refl _ _ _) r he hs hm)
 | .exit id, ex, e, e', ms, ms', h, h', c, c', al, φ, a, w, Q, hg, hrun, he, hs, hm, r, hf, hQ => by
  unfold evCode at hrun
  obtain ⟨hr, rfl, rfl, _⟩ := z7 hrun
  cases hr
  exact wpIn_exit (hQ φ a w (Ext.refl _ _ _) r he hs hm)
 | .ret, ex, e, e', ms, ms', h, h', c, c', al, φ, a, w, Q, hg, hrun, he, hs, hm, r, hf, hQ => by
  unfold evCode at hrun
  obtain ⟨hr, rfl, rfl, _⟩ := z7 hrun
  cases hr
  exact wpIn_ret (hQ φ a w (Ext.refl _ _ _) r he hs hm)
 | .refuse w1, ex, e, e', ms, ms', h, h', c, c', al, φ, a, w, Q, hg, hrun, _, _, _, _, _, _ => by unfold evCode at hrun; exact (zY hrun).elim
 | .scope _, ex, e, e', ms, ms', h, h', c, c', al, φ, a, w, Q, hg, hrun, _, _, _, _, _, _ => by unfold evCode at hrun; exact (zY hrun).elim
 | .goto _, ex, e, e', ms, ms', h, h', c, c', al, φ, a, w, Q, hg, hrun, _, _, _, _, _, _ => by unfold evCode at hrun; exact (zY hrun).elim
 | .rangeFunc g ps zR bo, ex, e, e', ms, ms', h, h', c, c', al, φ, a, w, Q, hg, hrun, he, hs, hm, r, hf, hQ => by
  cases rd with
  | true => unfold evCode at hrun; simp only [if_true] at hrun; exact (zY hrun).elim
  | false => rw [hro rfl]; exact rangeFunc_ok hcx hng hcall hloc hg hrun he hs hm r hf hQ
 | .region id ops draw, ex, e, e', ms, ms', h, h', c, c', al, φ, a, w, Q, hg, hrun, he, hs, hm, r, hf, hQ => by
  unfold evCode at hrun
  obtain ⟨e1, h1, c1, l1, l2, x1, x2, _⟩ := z8 hrun
  obtain ⟨hr, rfl, rfl, _⟩ := z7 x2
  cases hr
  cases draw with
  | true =>
   simp only [if_true] at x1
   exact evDrawn_ok hcx hng hcall hloc hmix (by simpa [jg] using hg) he hs r x1 hf fun φ' a' w' k1 k2 k3 k4 k5 => hQ φ' a' w' k1 k2 k3 k4 (by rw [k5]; exact hm.mono k1.mono)
  | false =>
   simp only [Bool.false_eq_true, if_false] at x1
   refine wpIn_region ?_
   rw [List.range_eq_range']
   have := evOps_ok (ro := ro) hcx hng hcall hloc (ops := ops) (k := 0) rfl x1 he hs hm r hf hQ
   simpa using this
 | .seq x y, ex, e, e', ms, ms', h, h', c, c', al, φ, a, w, Q, hg, hrun, he, hs, hm, r, hf, hQ => by
  unfold evCode at hrun
  unfold jg at hg
  rw [Bool.and_eq_true] at hg
  obtain ⟨⟨ex1, e1, ms1⟩, h1, c1, l1, l2, x1, x2, _⟩ := z8 hrun
  have hc1 := (ja hloc _ _ _ _ _ _ x1).1
  refine wpIn_seq ?_
  cases ex1 with
  | normal =>
   simp only at x2
   have hc2 := (ja hloc _ _ _ _ _ _ x2).1
   refine jI hcx hng hcall hloc hmix hro hg.1 x1 he hs hm r (hf.sub (Nat.le_refl _) hc2) fun φ' a' w' k1 k2 k3 k4 k5 => ?_
   exact jI hcx hng hcall hloc hmix hro hg.2 x2 k3 k4 k5 k2 (hf.ext k1 hc1) fun φ'' a'' w'' m1 m2 m3 m4 m5 => hQ φ'' a'' w'' (k1.trans m1 hc1 hc2) m2 m3 m4 m5
  | exit i =>
   simp only at x2
   obtain ⟨hr, rfl, rfl, _⟩ := z7 x2
   cases hr
   exact jI hcx hng hcall hloc hmix hro hg.1 x1 he hs hm r hf hQ
  | ret =>
   simp only at x2
   obtain ⟨hr, rfl, rfl, _⟩ := z7 x2
   cases hr
   exact jI hcx hng hcall hloc hmix hro hg.1 x1 he hs hm r hf hQ
 | .cond x p q, ex, e, e', ms, ms', h, h', c, c', al, φ, a, w, Q, hg, hrun, he, hs, hm, r, hf, hQ => by
  unfold evCode at hrun
  unfold jg at hg
  rw [Bool.and_eq_true] at hg
  obtain ⟨v, h1, c1, l1, l2, x1, x2, _⟩ := z8 hrun
  obtain ⟨hv, rfl, rfl, _⟩ := yH x1
  have hvr := q7 he r hng hv
  generalize hce : a.eval x = u at hvr
  cases hvr <;> try exact (zY x2).elim
  rename_i b
  cases b with
  | true => exact wpIn_cond_true hce (jI hcx hng hcall hloc hmix hro hg.1 x2 he hs hm r hf hQ)
  | false => exact wpIn_cond_false hce (jI hcx hng hcall hloc hmix hro hg.2 x2 he hs hm r hf hQ)
 | .block id b, ex, e, e', ms, ms', h, h', c, c', al, φ, a, w, Q, hg, hrun, he, hs, hm, r, hf, hQ => by
  unfold evCode at hrun
  unfold jg at hg
  obtain ⟨⟨ex1, e1, ms1⟩, h1, c1, l1, l2, x1, x2, _⟩ := z8 hrun
  refine wpIn_block ?_
  cases ex1 with
  | normal =>
   simp only at x2
   obtain ⟨hr, rfl, rfl, _⟩ := z7 x2
   cases hr
   exact jI hcx hng hcall hloc hmix hro hg x1 he hs hm r hf hQ
  | ret =>
   simp only at x2
   obtain ⟨hr, rfl, rfl, _⟩ := z7 x2
   cases hr
   exact jI hcx hng hcall hloc hmix hro hg x1 he hs hm r hf hQ
  | exit i =>
   simp only at x2
   split at x2
   ·next hi =>
    obtain ⟨hr, rfl, rfl, _⟩ := z7 x2
    cases hr
    refine jI hcx hng hcall hloc hmix hro hg x1 he hs hm r hf fun φ' a' w' k1 k2 k3 k4 k5 => ?_
    simp only [exOf, Exit.inBlock, hi, if_true]
    exact hQ φ' a' w' k1 k2 k3 k4 k5
   ·next hi =>
    obtain ⟨hr, rfl, rfl, _⟩ := z7 x2
    cases hr
    refine jI hcx hng hcall hloc hmix hro hg x1 he hs hm r hf fun φ' a' w' k1 k2 k3 k4 k5 => ?_
    simp only [exOf, Exit.inBlock, hi, if_false]
    exact hQ φ' a' w' k1 k2 k3 k4 k5
 | .loop b, ex, e, e', ms, ms', h, h', c, c', al, φ, a, w, Q, hg, hrun, he, hs, hm, r, hf, hQ => by
  unfold evCode at hrun
  unfold jg at hg
  exact wpIn_loop_rounds n (loopM_ok (fun ms e => ja hloc) (fun x1 he hs hm r hf hQ => jI hcx hng hcall hloc hmix hro hg x1 he hs hm r hf hQ) hrun he hs hm r hf hQ)
theorem initE_ok {φ : Nm} : ∀ {vs : List V} {us : List Value} {i : Nat} {e : E} {ts : Array Value}, VRs φ vs us -> ER φ e ts -> (∀ k, k < us.length -> ts[i + k]? = us[k]?) -> ER φ (initE vs i e) ts
 | [], us, i, e, ts, hv, he, ht => he
 | v :: vs, us, i, e, ts, hv, he, ht => by
  obtain ⟨u, us, rfl, h1, h2⟩ := hv.inv
  unfold initE
  refine initE_ok h2 (fun t x hx => ?_) fun k hk => ?_
  ·by_cases h : i = t
   ·subst h
    rw [zt] at hx; cases hx
    exact ⟨u, by have := ht 0 (by simp); simpa using this, h1⟩
   ·rw [zu _ _ _ _ h] at hx
    exact he t x hx
  ·have := ht (k + 1) (by simpa using hk)
   rw [show i + 1 + k = i + (k + 1) by omega, this]; rfl
def resOp (ts : Array Value) : ResultVar -> Sem Value
 | .tmp t => pure (ts.getD t undef)
 | .cell a t => do loadVar t (<- asAddr (ts.getD a undef))
theorem results_eq (fn : Func) (ts : Array Value) : results fn ts = (do let vs <- fn.results.mapM (resOp ts); pure (if h : vs.size = 1 then vs[0] else .tuple vs)) := rfl
theorem resM_ok (hcx : qJ P cx) {φ : Nm} {h h' : H} {c c' : Nat} {e : E} {w : World} {ts : Array Value} (he : ER φ e ts) (r : Rel ng w0 φ h w) :
  ∀ {l : List ResultVar} {vs : List V} {al : List Acc}, resM cx e l h c = .ok vs h' c' al -> h' = h /\ c' = c /\ ∃ us, VRs φ vs us /\
   (l.mapM (resOp ts)).run P w = .ok us w
 | [], vs, al, hrun => by
  unfold resM at hrun
  obtain ⟨rfl, rfl, rfl, _⟩ := z7 hrun
  exact ⟨rfl, rfl, [], .nil, rfl⟩
 | .tmp t :: l, vs, al, hrun => by
  unfold resM at hrun
  obtain ⟨v, h1, c1, l1, l2, x1, x2, _⟩ := z8 hrun
  obtain ⟨hv, hh, hcc, _⟩ := yH x1
  rw [hh, hcc] at x2
  obtain ⟨ws, h2, c2, l3, l4, x3, x4, _⟩ := z8 x2
  obtain ⟨rfl, hh, hcc, _⟩ := z7 x4
  rw [hh, hcc]
  obtain ⟨rfl, rfl, us, hus, hr⟩ := resM_ok hcx he r x3
  obtain ⟨u, hu, huv⟩ := he t v hv
  refine ⟨rfl, rfl, u :: us, .cons huv hus, ?_⟩
  have : ts.getD t undef = u := by simp [Array.getD_eq_getD_getElem?, hu]
  simp only [List.mapM_cons, resOp, Sem.run_bind, Sem.run_pure, Result.andThen_ok, hr, this]
 | .cell a t :: l, vs, al, hrun => by
  unfold resM at hrun
  obtain ⟨v, h1, c1, l1, l2, x1, x2, _⟩ := z8 hrun
  obtain ⟨hv, hh, hcc, _⟩ := yH x1
  rw [hh, hcc] at x2
  obtain ⟨p, h2, c2, l3, l4, y1, y2, _⟩ := z8 x2
  obtain ⟨rfl, hh2, hcc2⟩ := asP_ok y1
  rw [hh2, hcc2] at y2
  obtain ⟨n, o⟩ := p
  obtain ⟨v2, h3, c3, l5, l6, z1, z2, _⟩ := z8 y2
  obtain ⟨hh3, hcc3, L, u2, hL, hu2, hr2⟩ := loadT_ok (P := P) hcx r z1
  rw [hh3, hcc3] at z2
  obtain ⟨ws, h4, c4, l7, l8, x3, x4, _⟩ := z8 z2
  obtain ⟨rfl, hh4, hcc4, _⟩ := z7 x4
  rw [hh4, hcc4]
  obtain ⟨rfl, rfl, us, hus, hr⟩ := resM_ok hcx he r x3
  obtain ⟨u, hu, huv⟩ := he a _ hv
  obtain ⟨K, hK, rfl⟩ := ptr_inv huv
  rw [hL] at hK; cases hK
  refine ⟨rfl, rfl, u2 :: us, .cons hu2 hus, ?_⟩
  have : ts.getD a undef = .pointer (some ⟨L.blk, L.off + o, none⟩) := by simp [Array.getD_eq_getD_getElem?, hu]
  simp only [List.mapM_cons, resOp, Sem.run_bind, Sem.run_pure, Result.andThen_ok, hr, this, asAddr, hr2]
theorem results_ok (hcx : qJ P cx) {φ : Nm} {h h' : H} {c c' : Nat} {e : E} {w : World} {ts : Array Value} (he : ER φ e ts) (r : Rel ng w0 φ h w) {fn : Func} {vs : List V} {al : List Acc}
  (hrun : resM cx e fn.results.toList h c = .ok vs h' c' al) : h' = h /\ c' = c /\ ∃ u, VR φ (tup vs) u /\ (results fn ts).run P w = .ok u w := by
 obtain ⟨hh, hcc, us, hus, hr⟩ := resM_ok hcx he r hrun
 have hlen := hus.length
 refine ⟨hh, hcc, if h : (⟨us⟩ : Array Value).size = 1 then (⟨us⟩ : Array Value)[0] else .tuple ⟨us⟩, ?_, ?_⟩
 ·cases hus with
  | nil => exact .tuple .nil
  | cons h1 h2 =>
   cases h2 with
   | nil => exact h1
   | cons h3 h4 => simp [tup]; exact .tuple (.cons h1 (.cons h3 h4))
 ·rw [results_eq, Array.mapM_eq_mapM_toList]
  simp only [map_eq_pure_bind, bind_assoc, pure_bind, Sem.run_bind]
  rw [hr]
  simp only [Result.andThen_ok, Sem.run_pure]
theorem spendM_ok {φ : Nm} {R : Ending -> World -> Prop} {fn : Func} {ts : Array Value} : ∀ {ms : List Nat} {ds : List Deferred} {h h' : H} {c c' : Nat} {u : Unit} {al : List Acc} {w : World}, spendM ms h c = .ok u h' c' al -> MarksR φ ms ds -> Rel ng w0 φ h w ->
  c' = c /\ ((∀ w', Rel ng w0 φ h' w' -> ∃ v, (results fn ts).run P w' = .ok v w' /\ R (.returned v) w') -> LeavesInM (fe none) 0 P fn ts R ds .returning w)
 | [], ds, h, h', c, c', u, al, w, hrun, hm, r => by
  unfold spendM at hrun
  obtain ⟨_, rfl, rfl, _⟩ := z7 hrun
  cases hm
  exact ⟨rfl, fun hR => hR w r⟩
 | d :: ms, ds, h, h', c, c', u, al, w, hrun, hm, r => by
  unfold spendM at hrun
  obtain ⟨ob, h1, c1, l1, l2, x1, x2, _⟩ := z8 hrun
  obtain ⟨hg, rfl, rfl, _⟩ := y9 x1
  cases ob <;> try exact (zY x2).elim
  simp only at x2
  obtain ⟨_, h2, c2, l3, l4, x3, x4, _⟩ := z8 x2
  obtain ⟨_, rfl, rfl, _⟩ := ju x3
  cases hm with
  | cons hL hm =>
   rename_i L ds
   obtain ⟨K, hK, hob, _⟩ := r.obj _ _ hg
   rw [hL] at hK; cases hK
   have hb : w.heap[L.blk]? = some (.deferred (some [])) := hob
   have r' := r.setBlk (o' := .spent) (b := .deferred none) hg rfl hL rfl ⟨_, rfl⟩
   obtain ⟨hc, hl⟩ := spendM_ok (fn := fn) (ts := ts) (R := R) x4 hm r'
   refine ⟨hc, fun hR => ⟨fun e => (by cases e), .inl ⟨L.blk, _, rfl, run_takeDeferred hb, hl hR⟩⟩⟩
structure kU (P : Program) (ng : Nat) (w0 : World) (f : Nat) (m : (Tgt -> List V -> M H V) -> List V -> M H V) : Prop where
 ok : ∀ call, gy P ng w0 call -> (∀ t xs, Local (call t xs)) -> ∀ xs h c v h' c' l φ w xs', m call xs h c = .ok v h' c' l -> Rel ng w0 φ h w -> VRs φ xs xs' -> Fresh φ c c' ->
  Answers P φ (.fn f) ⟨xs'⟩ w fun u w' => ∃ φ', Ext φ φ' c c' /\ c <= c' /\ Rel ng w0 φ' h' w' /\ VR φ' v u
 loc : ∀ call xs, (∀ t xs, Local (call t xs)) -> Local (m call xs)
theorem bodyM_ok (hcx : qJ P cx) (hng : cx.ng = ng) (hcall : gy P ng w0 call) (hloc : ∀ t xs, Local (call t xs)) (hmix : P.follows .mixedOrders = true)
  (hgood : ∀ f fn c, cx.fn f = some fn -> fn.body = some c -> jg c = true) {n f : Nat} {xs : List V} {h h' : H} {c c' : Nat} {v : V} {l : List Acc} {φ : Nm} {w : World} {xs' : List Value}
  (hrun : bodyM E cx call n f xs h c = .ok v h' c' l) (r : Rel ng w0 φ h w) (hx : VRs φ xs xs') (hf : Fresh φ c c') :
  Answers P φ (.fn f) ⟨xs'⟩ w fun u w' => ∃ φ', Ext φ φ' c c' /\ c <= c' /\ Rel ng w0 φ' h' w' /\ VR φ' v u := by
 unfold bodyM at hrun
 cases hfn : cx.fn f with
 | none => rw [hfn] at hrun; exact (zY hrun).elim
 | some fn =>
  simp only [hfn] at hrun
  cases hb : fn.body with
  | none => simp only [hb] at hrun; exact (zY hrun).elim
  | some code =>
   simp only [hb] at hrun
   split at hrun
   ·next hle =>
    obtain ⟨hP, hname⟩ := hcx.fn _ _ hfn
    obtain ⟨⟨ex, e1, ms1⟩, h1, c1, l1, l2, x1, x2, _⟩ := z8 hrun
    have hc01 := (ja hloc _ _ _ _ _ _ x1).1
    have fin : ∀ {φ' : Nm} {a' : Act} {w' : World}, Ext φ φ' c c1 -> Rel ng w0 φ' h1 w' -> ER φ' e1 a'.tmps -> MarksR φ' ms1 a'.defers ->
      (bnd (spendM ms1) fun _ => bnd (resM cx e1 fn.results.toList) fun vs => ret (tup vs)) h1 c1 = .ok v h' c' l2 ->
      LeavesInM (fe none) 0 P fn a'.tmps (fun e w' => ∃ u', e = .returned u' /\ ∃ φ', Ext φ φ' c c' /\ c <= c' /\ Rel ng w0 φ' h' w' /\ VR φ' v u') a'.defers .returning w' := by
     intro φ' a' w' k1 k2 k3 k4 x2
     obtain ⟨_, h2, c2, l3, l4, x3, x4, _⟩ := z8 x2
     obtain ⟨hcc2, hl⟩ := spendM_ok (P := P) (fn := fn) (ts := a'.tmps) (R := fun e w' => ∃ u', e = .returned u' /\ ∃ φ', Ext φ φ' c c' /\ c <= c' /\ Rel ng w0 φ' h' w' /\ VR φ' v u') x3 k4 k2
     refine hl fun w2 r2 => ?_
     obtain ⟨vs, h3, c3, l5, l6, x5, x6, _⟩ := z8 x4
     obtain ⟨hvv, hh, hcc, _⟩ := z7 x6
     obtain ⟨hh3, hcc3, u, hu, hr⟩ := results_ok (P := P) hcx k3 r2 x5
     have ec : c' = c1 := by rw [hcc, hcc3, hcc2]
     refine ⟨u, hr, u, rfl, φ', ?_, ?_, ?_, ?_⟩
     ·rw [ec]; exact k1
     ·rw [ec]; exact hc01
     ·rw [hh, hh3]; exact r2
     ·rw [hvv]; exact hu
    refine .inl ⟨?_, (callsIn_fe (ro := none) (n := 0)).1 (callsIn_of_wp_marks hP hb trivial ?_)⟩
    ·simp only [callFunc, Sem.run_bind, run_program, Result.andThen_ok, hP, hname, hb]; rfl
    ·have hlen := hx.length
     have hc1 : c1 <= c' := by
      cases ex with
      | exit i => exact (zY x2).elim
      | normal => exact (yb gE (fun _ => yb gU (fun _ => Local.ret)) _ _ _ _ _ _ x2).1
      | ret => exact (yb gE (fun _ => yb gU (fun _ => Local.ret)) _ _ _ _ _ _ x2).1
     refine jI hcx hng hcall hloc hmix (fun _ => rfl) (hgood _ _ _ hfn hb) x1 (initE_ok hx (fun t x hx => by rw [MapI.get_emp] at hx; cases hx) fun k hk => ?_) ?_ .nil r (hf.sub (Nat.le_refl _) hc1) fun φ' a' w' k1 k2 k3 k4 k5 => ?_
     ·rw [Nat.zero_add, Array.getElem?_append_left (by simpa using hk)]; simp
     ·simp; omega
     ·cases ex with
      | exit i => exact (zY x2).elim
      | normal => exact fin k1 k2 k3 k5 x2
      | ret => exact fin k1 k2 k3 k5 x2
   ·exact (zY hrun).elim
theorem initL_ok {φ : Nm} {ts : Array Value} : ∀ {es : List (Nat × V)} {e : E}, KnownR φ es ts -> ER φ e ts -> ER φ (initL es e) ts
 | [], e, hk, he => he
 | (t, v) :: es, e, hk, he => by
  unfold initL
  refine initL_ok (fun t' v' h => hk t' v' (zg _ h)) fun t' v' h => ?_
  by_cases ht : t = t'
  ·subst ht
   rw [zt] at h; cases h
   exact hk _ _ (zq ..)
  ·rw [zu _ _ _ _ ht] at h
   exact he _ _ h
theorem initP_ok {φ : Nm} {N : Nat} : ∀ {ps : List Nat} {xs : List V} {xs' : List Value} {e : E} {ts : Array Value}, VRs φ xs xs' -> xs.length = ps.length -> (ps.all fun t => Nat.blt t N) = true -> ts.size = N -> ER φ e ts ->
  ER φ (initL (ps.zip xs) e) ((ps.zip xs').foldl (fun tmps (t, a) => tmps.setIfInBounds t a) ts) /\ ((ps.zip xs').foldl (fun tmps (t, a) => tmps.setIfInBounds t a) ts).size = N
 | [], xs, xs', e, ts, hx, hl, ha, hs, he => by
  exact ⟨he, hs⟩
 | p :: ps, [], xs', e, ts, hx, hl, ha, hs, he => by simp at hl
 | p :: ps, x :: xs, xs', e, ts, hx, hl, ha, hs, he => by
  obtain ⟨u, us, rfl, h1, h2⟩ := hx.inv
  rw [List.all_cons, Bool.and_eq_true] at ha
  have hp : p < ts.size := by rw [hs]; exact zf ha.1
  simp only [List.zip_cons_cons, List.foldl_cons]
  unfold initL
  exact initP_ok h2 (by simpa using hl) ha.2 (by rw [Array.size_setIfInBounds]; exact hs)
   (ER.put (a := { tmps := ts, defers := [] }) (d := some p) he rfl (fun t ht => by cases ht; exact hp) h1)
theorem roundM_ok (hcx : qJ P cx) (hng : cx.ng = ng) (hcall : gy P ng w0 call) (hloc : ∀ t xs, Local (call t xs)) (hmix : P.follows .mixedOrders = true)
  {n l0 : Nat} {xs : List V} {h h' : H} {c c' : Nat} {v : V} {al : List Acc} {φ : Nm} {w : World} {xs' : List Value}
  (hrun : roundM E cx call n l0 xs h c = .ok v h' c' al) (r : Rel ng w0 φ h w) (hx : VRs φ xs xs') (hf : Fresh φ c c') :
  Answers P φ (.yl l0) ⟨xs'⟩ w fun u w' => ∃ φ', Ext φ φ' c c' /\ c <= c' /\ Rel ng w0 φ' h' w' /\ VR φ' v u := by
 unfold roundM at hrun
 obtain ⟨ob, h1, c1, l1, l2, x1, x2, _⟩ := z8 hrun
 obtain ⟨hg, rfl, rfl, _⟩ := y9 x1
 obtain ⟨L, hL, hob, hwr⟩ := r.obj _ _ hg
 clear hwr x1
 cases ob <;> try exact (zY x2).elim
 case loop st d N es ps zR bo =>
  cases st <;> try exact (zY x2).elim
  obtain ⟨ho, q, hq, hst, hpe, hsz, hkn, hps, has, hbo, hga, hgb⟩ := hob
  simp only at x2
  split at x2
  ·next hle =>
   obtain ⟨hlen, hall⟩ := hle
   obtain ⟨⟨ex1, e1, ms1⟩, h2, c2, l3, l4, x3, x4, _⟩ := z8 x2
   cases ex1 <;> try exact (zY x4).elim
   simp only at x4
   obtain ⟨ob2, h3, c3, l5, l6, x5, x6, _⟩ := z8 x4
   obtain ⟨hg2, rfl, rfl, _⟩ := y9 x5
   have hc2 := (ja hloc _ _ _ _ _ _ x3).1
   cases ob2 <;> try exact (zY x6).elim
   case loop st2 d2 N2 es2 ps2 as2 bo2 =>
    cases st2 <;> try exact (zY x6).elim
    simp only at x6
    obtain ⟨_, h4, c4, l7, l8, x7, x8, _⟩ := z8 x6
    obtain ⟨_, rfl, rfl, _⟩ := ju x7
    obtain ⟨⟨ex2, e2, ms2⟩, h5, c5, l9, l10, x9, x10, _⟩ := z8 x8
    simp only at x10
    obtain ⟨ob3, h6, c6, l11, l12, x11, x12, _⟩ := z8 x10
    obtain ⟨hg3, rfl, rfl, _⟩ := y9 x11
    have hc5 := (ja hloc _ _ _ _ _ _ x9).1
    cases ob3 <;> try exact (zY x12).elim
    case loop st3 d3 N3 es3 ps3 as3 bo3 =>
     cases st3 <;> try exact (zY x12).elim
     simp only at x12
     have hfin : c' = c6 /\ ((ex2 = .normal /\ v = .bool true /\ h' = MapI.set h6 l0 (.loop .ready d3 N3 es3 ps3 as3 bo3)) \/ (ex2 ≠ .normal /\ v = .bool false /\ h' = MapI.set h6 l0 (.loop (.done ex2) d3 N3 es3 ps3 as3 bo3))) := by
      cases ex2 with
      | normal =>
       simp only at x12
       obtain ⟨_, h7, c7, l13, l14, x13, x14, _⟩ := z8 x12
       obtain ⟨_, rfl, rfl, _⟩ := ju x13
       obtain ⟨rfl, rfl, rfl, _⟩ := z7 x14
       exact ⟨rfl, .inl ⟨rfl, rfl, rfl⟩⟩
      | exit i =>
       simp only at x12
       obtain ⟨_, h7, c7, l13, l14, x13, x14, _⟩ := z8 x12
       obtain ⟨_, rfl, rfl, _⟩ := ju x13
       obtain ⟨rfl, rfl, rfl, _⟩ := z7 x14
       exact ⟨rfl, .inr ⟨fun e => (by cases e), rfl, rfl⟩⟩
      | ret =>
       simp only at x12
       obtain ⟨_, h7, c7, l13, l14, x13, x14, _⟩ := z8 x12
       obtain ⟨_, rfl, rfl, _⟩ := ju x13
       obtain ⟨rfl, rfl, rfl, _⟩ := z7 x14
       exact ⟨rfl, .inr ⟨fun e => (by cases e), rfl, rfl⟩⟩
     obtain ⟨rfl, hfin⟩ := hfin
     have hxl := hx.length
     have hpl : (⟨xs'⟩ : Array Value).size = q.params.size := by
      have : q.params.toList.length = ps.length := by rw [hps]
      simp at this ⊢
      omega
     refine ⟨L, hL, q.fn, _, q.assign, q.body, run_yield hq hpl, roundIn_of_wpIn trivial ?_⟩
     have hT : (q.params.zip (⟨xs'⟩ : Array Value)).foldl (fun tmps (t, a) => tmps.setIfInBounds t a) q.tmps = (ps.zip xs').foldl (fun tmps (t, a) => tmps.setIfInBounds t a) q.tmps := by
      rw [<- Array.foldl_toList, Array.toList_zip, hps]
     obtain ⟨hEr, hSz⟩ := initP_ok (E := E) hx hlen hall hsz (initL_ok hkn fun t x hx => by rw [MapI.get_emp] at hx; cases hx)
     rw [hT, has, hbo]
     refine jI (ro := some L.blk) hcx hng hcall hloc hmix (fun e => by cases e) hga x3 hEr hSz .nil r (hf.sub (Nat.le_refl _) hc5) fun φ1 a1 w1 k1 k2 k3 k4 k5 => ?_
     obtain ⟨K, hK, hob2, hwr⟩ := k2.obj _ _ hg2
     clear hwr
     have hL1 := k1.mono _ _ hL
     rw [hL1] at hK; cases hK
     obtain ⟨ho2, q2, hq2, hst2, hpe2, hrest2⟩ := hob2
     have hpe2 : q2.pending = none := hpe2
     have r2 := k2.setBlk (o' := .loop .busy d2 N2 es2 ps2 as2 bo2) (b := .loop { q2 with state := .busy }) hg2 rfl hL1 rfl ⟨ho2, _, rfl, rfl, hpe2, hrest2⟩
     refine ⟨_, run_beginRound hq2 hst2, ?_⟩
     refine jI (ro := some L.blk) hcx hng hcall hloc hmix (fun e => by cases e) hgb x9 k3 k4 k5 r2 (hf.ext k1 hc2) fun φ2 a2 w2 m1 m2 m3 m4 m5 => ?_
     obtain ⟨K, hK, hob3, hwr⟩ := m2.obj _ _ hg3
     clear hwr
     have hL2 := m1.mono _ _ hL1
     rw [hL2] at hK; cases hK
     obtain ⟨ho3, q3, hq3, hst3, hpe3, hrest3⟩ := hob3
     rcases hfin with ⟨rfl, rfl, rfl⟩ | ⟨hne, rfl, rfl⟩
     ·have r3 := m2.setBlk (o' := .loop .ready d3 N3 es3 ps3 as3 bo3) (b := .loop { q3 with state := .ready, pending := none }) hg3 rfl hL2 rfl ⟨ho3, _, rfl, rfl, rfl, hrest3⟩
      exact ⟨_, _, run_endRound none hq3, _, rfl, φ2, k1.trans m1 hc2 hc5, Nat.le_trans hc2 hc5, r3, .bool _⟩
     ·have r3 := m2.setBlk (o' := .loop (.done ex2) d3 N3 es3 ps3 as3 bo3) (b := .loop { q3 with state := .done, pending := some (codeOf ex2) }) hg3 rfl hL2 rfl ⟨ho3, _, rfl, rfl, rfl, hrest3⟩
      cases ex2 with
      | normal => exact (hne rfl).elim
      | exit i => exact ⟨_, _, run_endRound (some (.exit i)) hq3, _, rfl, φ2, k1.trans m1 hc2 hc5, Nat.le_trans hc2 hc5, r3, .bool _⟩
      | ret => exact ⟨_, _, run_endRound (some .ret) hq3, _, rfl, φ2, k1.trans m1 hc2 hc5, Nat.le_trans hc2 hc5, r3, .bool _⟩
  ·exact (zY x2).elim
theorem kZ (hcx : qJ P cx) (hng : cx.ng = ng) (hmix : P.follows .mixedOrders = true) (hgood : ∀ f fn c, cx.fn f = some fn -> fn.body = some c -> jg c = true)
  {prim : Nat -> Option ((Tgt -> List V -> M H V) -> List V -> M H V)} (hprim : ∀ f m, prim f = some m -> kU P ng w0 f m) : ∀ n, gy P ng w0 (evFn E cx prim n)
 | 0 => fun t xs h c v h' c' l φ w xs' hrun r hx hf => by unfold evFn at hrun; exact (zY hrun).elim
 | n + 1 => fun t xs h c v h' c' l φ w xs' hrun r hx hf => by
  have hl : ∀ t xs, Local (evFn E cx prim n t xs : M H V) := fun t xs => gV fun f m call xs hm hc => (hprim f m hm).loc call xs hc
  unfold evFn at hrun
  cases t with
  | fn f =>
   simp only at hrun
   cases hp : prim f with
   | some m =>
    rw [hp] at hrun
    exact (hprim f m hp).ok _ (kZ hcx hng hmix hgood hprim n) hl _ _ _ _ _ _ _ _ _ _ hrun r hx hf
   | none =>
    rw [hp] at hrun
    exact bodyM_ok hcx hng (kZ hcx hng hmix hgood hprim n) hl hmix hgood hrun r hx hf
  | yl l0 => exact roundM_ok hcx hng (kZ hcx hng hmix hgood hprim n) hl hmix hrun r hx hf
end
inductive Tr (α : Type) where
 | e
 | n (l : Tr α) (v : Option α) (r : Tr α)
namespace Tr
variable {α : Type}
def ko : Nat -> Tr α -> Nat -> Option α
 | 0, _, _ => none
 | _ + 1, .e, _ => none
 | f + 1, .n l v r, k => bif Nat.beq k 0 then v else bif Nat.beq (Nat.mod k 2) 1 then ko f l (Nat.div k 2) else ko f r (Nat.pred (Nat.div k 2))
def setF : Nat -> Tr α -> Nat -> α -> Tr α
 | 0, t, _, _ => t
 | f + 1, .e, k, x =>
  bif Nat.beq k 0 then .n .e (some x) .e else bif Nat.beq (Nat.mod k 2) 1 then .n (setF f .e (Nat.div k 2) x) none .e else .n .e none (setF f .e (Nat.pred (Nat.div k 2)) x)
 | f + 1, .n l v r, k, x =>
  bif Nat.beq k 0 then .n l (some x) r else bif Nat.beq (Nat.mod k 2) 1 then .n (setF f l (Nat.div k 2) x) v r else .n l v (setF f r (Nat.pred (Nat.div k 2)) x)
theorem parts (k : Nat) : k = 0 \/ (Nat.mod k 2 = 1 /\ k = 2 * (Nat.div k 2) + 1) \/ (k ≠ 0 /\ Nat.mod k 2 = 0 /\ k = 2 * (Nat.pred (Nat.div k 2)) + 2) := by
 show k = 0 \/ (k % 2 = 1 /\ k = 2 * (k / 2) + 1) \/ (k ≠ 0 /\ k % 2 = 0 /\ k = 2 * ((k / 2) - 1) + 2)
 omega
theorem gJ : ∀ (f g : Nat) (t : Tr α) (k : Nat), k < f -> k < g -> ko f t k = ko g t k
 | 0, _, _, _, h, _ => absurd h (Nat.not_lt_zero _)
 | _, 0, _, _, _, h => absurd h (Nat.not_lt_zero _)
 | f + 1, g + 1, .e, _, _, _ => rfl
 | f + 1, g + 1, .n l v r, k, h, h' => by
  simp only [ko]
  rcases parts k with e | ⟨a, b⟩ | ⟨z, a, b⟩
  ·subst e; rfl
  ·have := gJ f g l (Nat.div k 2) (by omega) (by omega)
   rw [this]
   have h2 : Nat.pred (Nat.div k 2) <= Nat.div k 2 := Nat.pred_le _
   rw [gJ f g r (Nat.pred (Nat.div k 2)) (by omega) (by omega)]
  ·have h2 : Nat.div k 2 = Nat.pred (Nat.div k 2) + 1 := by
    have : Nat.pred (Nat.div k 2) = k / 2 - 1 := rfl
    have e2 : Nat.div k 2 = k / 2 := rfl
    omega
   rw [gJ f g l (Nat.div k 2) (by omega) (by omega), gJ f g r (Nat.pred (Nat.div k 2)) (by omega) (by omega)]
theorem qv : ∀ (f : Nat) (t : Tr α) (k : Nat) (x : α), k < f -> ko f (setF f t k x) k = some x
 | 0, _, _, _, h => absurd h (Nat.not_lt_zero _)
 | f + 1, .e, k, x, h => by
  simp only [setF]
  rcases parts k with e | ⟨a, b⟩ | ⟨z, a, b⟩
  ·subst e; rfl
  ·have z : Nat.beq k 0 = false := by rw [Bool.eq_false_iff]; intro hh; have := Nat.eq_of_beq_eq_true hh; omega
   have c : Nat.beq (Nat.mod k 2) 1 = true := by rw [a]; rfl
   simp only [z, c, cond_false, cond_true, ko]
   exact qv f .e _ x (by omega)
  ·have z : Nat.beq k 0 = false := by rw [Bool.eq_false_iff]; intro hh; have := Nat.eq_of_beq_eq_true hh; omega
   have c : Nat.beq (Nat.mod k 2) 1 = false := by rw [a]; rfl
   simp only [z, c, cond_false, ko]
   exact qv f .e _ x (by omega)
 | f + 1, .n l v r, k, x, h => by
  simp only [setF]
  rcases parts k with e | ⟨a, b⟩ | ⟨z, a, b⟩
  ·subst e; rfl
  ·have z : Nat.beq k 0 = false := by rw [Bool.eq_false_iff]; intro hh; have := Nat.eq_of_beq_eq_true hh; omega
   have c : Nat.beq (Nat.mod k 2) 1 = true := by rw [a]; rfl
   simp only [z, c, cond_false, cond_true, ko]
   exact qv f l _ x (by omega)
  ·have z : Nat.beq k 0 = false := by rw [Bool.eq_false_iff]; intro hh; have := Nat.eq_of_beq_eq_true hh; omega
   have c : Nat.beq (Nat.mod k 2) 1 = false := by rw [a]; rfl
   simp only [z, c, cond_false, ko]
   exact qv f r _ x (by omega)
theorem getF_e (f k : Nat) : ko f (.e : Tr α) k = none := by cases f <;> rfl
theorem qW : ∀ (f : Nat) (t : Tr α) (k m : Nat) (x : α), k ≠ m -> k < f -> m < f -> ko f (setF f t k x) m = ko f t m
 | 0, _, _, _, _, _, h, _ => absurd h (Nat.not_lt_zero _)
 | f + 1, .e, k, m, x, hne, h, h' => by
  simp only [setF]
  have nz : ∀ q, q ≠ 0 -> Nat.beq q 0 = false := fun q hq => by rw [Bool.eq_false_iff]; intro hh; exact hq (Nat.eq_of_beq_eq_true hh)
  rcases parts k with e | ⟨a, b⟩ | ⟨z, a, b⟩
  ·subst e
   have : Nat.beq m 0 = false := nz m (by omega)
   show ko (f + 1) (.n .e (some x) .e) m = none
   simp only [ko, this, cond_false, getF_e]
   cases Nat.beq (Nat.mod m 2) 1 <;> rfl
  ·have c : Nat.beq (Nat.mod k 2) 1 = true := by rw [a]; rfl
   simp only [nz k (by omega), c, cond_false, cond_true, ko]
   rcases parts m with e' | ⟨a', b'⟩ | ⟨z', a', b'⟩
   ·subst e'; rfl
   ·have c' : Nat.beq (Nat.mod m 2) 1 = true := by rw [a']; rfl
    simp only [nz m (by omega), c', cond_false, cond_true]
    rw [qW f .e _ _ x (by omega) (by omega) (by omega), getF_e]
   ·have c' : Nat.beq (Nat.mod m 2) 1 = false := by rw [a']; rfl
    simp only [nz m z', c', cond_false, getF_e]
  ·have c : Nat.beq (Nat.mod k 2) 1 = false := by rw [a]; rfl
   simp only [nz k z, c, cond_false, ko]
   rcases parts m with e' | ⟨a', b'⟩ | ⟨z', a', b'⟩
   ·subst e'; rfl
   ·have c' : Nat.beq (Nat.mod m 2) 1 = true := by rw [a']; rfl
    simp only [nz m (by omega), c', cond_false, cond_true, getF_e]
   ·have c' : Nat.beq (Nat.mod m 2) 1 = false := by rw [a']; rfl
    simp only [nz m z', c', cond_false]
    rw [qW f .e _ _ x (by omega) (by omega) (by omega), getF_e]
 | f + 1, .n l v r, k, m, x, hne, h, h' => by
  simp only [setF]
  have nz : ∀ q, q ≠ 0 -> Nat.beq q 0 = false := fun q hq => by rw [Bool.eq_false_iff]; intro hh; exact hq (Nat.eq_of_beq_eq_true hh)
  rcases parts k with e | ⟨a, b⟩ | ⟨z, a, b⟩
  ·subst e
   have : Nat.beq m 0 = false := nz m (by omega)
   simp only [Nat.beq_refl, cond_true, ko, this, cond_false]
  ·have c : Nat.beq (Nat.mod k 2) 1 = true := by rw [a]; rfl
   simp only [nz k (by omega), c, cond_false, cond_true, ko]
   rcases parts m with e' | ⟨a', b'⟩ | ⟨z', a', b'⟩
   ·subst e'; rfl
   ·have c' : Nat.beq (Nat.mod m 2) 1 = true := by rw [a']; rfl
    simp only [nz m (by omega), c', cond_false, cond_true]
    rw [qW f l _ _ x (by omega) (by omega) (by omega)]
   ·have c' : Nat.beq (Nat.mod m 2) 1 = false := by rw [a']; rfl
    simp only [nz m z', c', cond_false]
  ·have c : Nat.beq (Nat.mod k 2) 1 = false := by rw [a]; rfl
   simp only [nz k z, c, cond_false, ko]
   rcases parts m with e' | ⟨a', b'⟩ | ⟨z', a', b'⟩
   ·subst e'; rfl
   ·have c' : Nat.beq (Nat.mod m 2) 1 = true := by rw [a']; rfl
    simp only [nz m (by omega), c', cond_false, cond_true]
   ·have c' : Nat.beq (Nat.mod m 2) 1 = false := by rw [a']; rfl
    simp only [nz m z', c', cond_false]
    rw [qW f r _ _ x (by omega) (by omega) (by omega)]
theorem kJ : ∀ (f g : Nat) (t : Tr α) (k : Nat) (x : α), k < f -> k < g -> setF f t k x = setF g t k x
 | 0, _, _, _, _, h, _ => absurd h (Nat.not_lt_zero _)
 | _, 0, _, _, _, _, h => absurd h (Nat.not_lt_zero _)
 | f + 1, g + 1, .e, k, x, h, h' => by
  simp only [setF]
  rcases parts k with e | ⟨a, b⟩ | ⟨z, a, b⟩
  ·subst e; rfl
  ·have c : Nat.beq (Nat.mod k 2) 1 = true := by rw [a]; rfl
   simp only [c, cond_true]
   rw [kJ f g .e _ x (by omega) (by omega)]
  ·have c : Nat.beq (Nat.mod k 2) 1 = false := by rw [a]; rfl
   simp only [c, cond_false]
   rw [kJ f g .e (Nat.pred (Nat.div k 2)) x (by omega) (by omega)]
 | f + 1, g + 1, .n l v r, k, x, h, h' => by
  simp only [setF]
  rcases parts k with e | ⟨a, b⟩ | ⟨z, a, b⟩
  ·subst e; rfl
  ·have c : Nat.beq (Nat.mod k 2) 1 = true := by rw [a]; rfl
   simp only [c, cond_true]
   rw [kJ f g l _ x (by omega) (by omega)]
  ·have c : Nat.beq (Nat.mod k 2) 1 = false := by rw [a]; rfl
   simp only [c, cond_false]
   rw [kJ f g r (Nat.pred (Nat.div k 2)) x (by omega) (by omega)]
instance instMapI : MapI (Tr α) α where
 emp := .e
 get t k := ko (Nat.succ k) t k
 set t k x := setF (Nat.succ k) t k x
 get_emp k := getF_e _ k
 get_same t k x := qv _ t k x (Nat.lt_succ_self k)
 get_ne t k m x h := by
  rw [gJ (Nat.succ m) (k + m + 1) _ m (by omega) (by omega), kJ (Nat.succ k) (k + m + 1) t k x (by omega) (by omega),
   qW _ t k m x h (by omega) (by omega), gJ (k + m + 1) (Nat.succ m) _ m (by omega) (by omega)]
end Tr
open Go.RowKit
def isTrue {H : Type} : Res H V -> Bool
 | .ok (.bool b) _ _ _ => b
 | _ => false
theorem isTrue_ok {H : Type} {r : Res H V} (h : isTrue r = true) : ∃ h' c l, r = .ok (.bool true) h' c l := by
 cases r with
 | err e => cases h
 | ok v h' c l =>
  cases v <;> try (cases h; done)
  rename_i b
  have : b = true := h
  subst this
  exact ⟨_, _, _, rfl⟩
section
variable {H E : Type} [MapI H AObj] [MapI E V] {P : Program} {cx : Cx}
theorem Rel.start (w : World) : Rel 0 w (fun _ => none) (MapI.emp : H) w :=
 ⟨.refl _ _, fun n o h => (by rw [MapI.get_emp] at h; cases h), fun n m o p L K _ h => (by rw [MapI.get_emp] at h; cases h), fun g hg => (by omega)⟩
end
def cxOf (P : Program) : Cx := { fn := fun f => P.funcs[f]?, ty := fun t => P.info? t, ng := 0, eqOk := fun t => !P.stoodInHeld t && !P.eqGuardType P.depth t }
structure Fit (P : Program) : Prop where
 names : (P.funcs.toList.all fun f => !(f.name == "runtime.NumGoroutine")) = true
 goods : (P.funcs.toList.all fun f => match f.body with | some c => jg c | none => true) = true
 mixed : P.follows .mixedOrders = true
theorem Fit.name {P : Program} (F : Fit P) {f : Nat} {x : Func} (h : P.funcs[f]? = some x) : (x.name == "runtime.NumGoroutine") = false := by
 have := List.all_eq_true.1 F.names x (by simpa using Array.mem_of_getElem? h)
 simpa using this
theorem Fit.cx {P : Program} (F : Fit P) : qJ P (cxOf P) where
 fn _ _ h := ⟨h, F.name h⟩
 ty _ _ h := h
 eqOk t h := by
  have h : (!P.stoodInHeld t && !P.eqGuardType P.depth t) = true := h
  simpa using h
theorem Fit.good {P : Program} (F : Fit P) (f : Nat) (fn : Func) (c : Code) (h : (cxOf P).fn f = some fn) (hb : fn.body = some c) : jg c = true := by
 have h : P.funcs[f]? = some fn := h
 have := List.all_eq_true.1 F.goods fn (by simpa using Array.mem_of_getElem? h)
 simpa only [hb] using this
open Go.WideShapes Go.ChangeShapes in
theorem post_below {H : Type} {enc : TypeId × Value -> H} {P : Program} {f : Func} {s : ChangeSpec} {apart fresh handsOn again : Bool} {W W' : World} {args : Array Value} {v : Value} {ds gs : List (DataW H)} {before pa pv : List MemPlace}
  (hW : DataW.Whole enc P f.params.toList s.vars apart W args.toList ds gs before)
  (hres : ∀ (b : Nat) (sp : Nat -> Bool) (hd : Bool), DataW.TrodAll enc P W' b sp hd f.resultTypes.toList (v.resultList f.resultTypes.size) (s.fn H (ds ++ gs)).results [])
  (hargs : ∀ sp : Nat -> Bool, (∀ p ∈ before, sp p.block = true) -> DataW.TrodAll enc P W' 0 sp true f.params.toList args.toList (s.fn H (ds ++ gs)).args pa)
  (hvars : ∀ sp : Nat -> Bool, (∀ p ∈ before, sp p.block = true) -> DataW.TrodVars enc P W' sp s.vars (s.fn H (ds ++ gs)).vars pv)
  (hps : before = pa ++ pv) (hk : Below W.heap.size W W')
  (hok : ∀ (j : Nat) (t : TypeId) (r : Value), f.resultTypes[j]? = some t -> (v.resultList f.resultTypes.size)[j]? = some r -> Value.okWide P W' .any 0 t r) :
  s.post enc P f apart fresh handsOn again W args v W' := by
 have hlt := hW.lt
 have hold : ∀ p ∈ before, (fun b => decide (b < W.heap.size)) p.block = true := fun p hp => by simpa using hlt p hp
 refine ⟨ds, gs, before, [], pa, pv, hW, hres _ _ _, hargs _ hold, hvars _ hold, World.keptBut_mono (fun p hp => ⟨hp, ?_⟩) (hk.frame (· ∈ before)), fun _ => ?_⟩
 ·rw [hps, List.mem_append] at hp
  exact Or.inr hp
 ·obtain ⟨_, _, _, _, _, hz, hn⟩ := hW
  refine ⟨hok, _, _, ([] ++ pa) ++ pv, ⟨[] ++ pa, pv, trodAll_append (hargs _ (fun _ _ => rfl)) (hres _ _ _), hvars _ (fun _ _ => rfl), rfl, ?_, ?_⟩, ?_⟩
  ·intro b off hp
   have hp' : MemPlace.cell b off ∈ before := by rw [hps]; simpa using hp
   have hb := hlt _ hp'
   rw [hk.frozen (p := ⟨b, off, none⟩) hb]
   exact hz b off hp'
  ·intro ha
   have := hn ha
   rw [hps] at this
   simpa using this
  ·intro p hp _
   rw [hps]
   simpa using hp
section
variable {H : Type} [MapI H AObj]
def shutPrim : (Tgt -> List V -> M H V) -> List V -> M H V := fun _ xs => match xs with
 | [] => ret (.bool true)
 | _ :: _ => fail "shut"
theorem gX {call : Tgt -> List V -> M H V} {xs : List V} : Local (shutPrim call xs : M H V) := by
 cases xs with
 | nil => exact Local.ret
 | cons _ _ => exact yf
def ga (l : List Nat) : Nat -> Option ((Tgt -> List V -> M H V) -> List V -> M H V) := fun f => if l.contains f then some shutPrim else none
theorem shutPrims_local {l : List Nat} {f : Nat} {m : (Tgt -> List V -> M H V) -> List V -> M H V} {call : Tgt -> List V -> M H V} {xs : List V} (h : ga l f = some m) : Local (m call xs) := by
 unfold ga at h
 split at h
 ·cases h; exact gX
 ·cases h
end
open Go.RowKit
section
variable {H : Type} [MapI H AObj] {α β : Type}
def Clear (h : H) (c : Nat) : Prop := ∀ n, c <= n -> MapI.get h n = none
def Tidy (m : M H α) : Prop := ∀ h c a h1 c1 l, m h c = .ok a h1 c1 l -> Clear h c -> c <= c1 /\ Clear h1 c1 /\ ∀ x ∈ l, x.name < c1
theorem Tidy.ret {a : α} : Tidy (ret a : M H α) := fun h c b h1 c1 l e t => by
 obtain ⟨rfl, rfl, rfl, rfl⟩ := z7 e
 exact ⟨Nat.le_refl _, t, fun x hx => by cases hx⟩
theorem yo {s : String} : Tidy (fail s : M H α) := fun h c b h1 c1 l e => (zY e).elim
theorem yS {s : String} {x : Option α} : Tidy (lift s x : M H α) := by
 cases x
 ·exact yo
 ·exact Tidy.ret
theorem yp {m : M H α} {f : α -> M H β} (hm : Tidy m) (hf : ∀ a, Tidy (f a)) : Tidy (bnd m f) := fun h c b h2 c2 l e t => by
 obtain ⟨a, h1, c1, l1, l2, e1, e2, rfl⟩ := z8 e
 obtain ⟨p1, p2, p3⟩ := hm _ _ _ _ _ _ e1 t
 obtain ⟨q1, q2, q3⟩ := hf a _ _ _ _ _ _ e2 p2
 refine ⟨Nat.le_trans p1 q1, q2, fun x hx => ?_⟩
 rcases zk hx with h | h
 ·exact Nat.lt_of_lt_of_le (p3 x h) q1
 ·exact q3 x h
theorem Tidy.listen {m : M H α} (hm : Tidy m) : Tidy (listen m) := fun h c b h2 c2 l e t => by
 unfold Ab.listen at e
 cases e1 : m h c with
 | err s => rw [e1] at e; cases e
 | ok a h1 c1 l1 =>
  rw [e1] at e; cases e
  exact hm _ _ _ _ _ _ e1 t
theorem Tidy.get {n : Nat} : Tidy (getM n : M H AObj) := fun h c o h1 c1 l e t => by
 obtain ⟨hg, rfl, rfl, rfl⟩ := y9 e
 refine ⟨Nat.le_refl _, t, fun x hx => ?_⟩
 cases zm hx
 show n < _
 rcases Nat.lt_or_ge n c1 with h | h
 ·exact h
 ·rw [t n h] at hg; cases hg
theorem Tidy.set {n : Nat} {o : AObj} : Tidy (setM n o : M H Unit) := fun h c u h1 c1 l e t => by
 obtain ⟨⟨p, hg⟩, rfl, rfl, rfl⟩ := ju e
 have hn : n < c1 := by
  rcases Nat.lt_or_ge n c1 with h | h
  ·exact h
  ·rw [t n h] at hg; cases hg
 refine ⟨Nat.le_refl _, fun m hm => ?_, fun x hx => ?_⟩
 ·rw [zu _ _ _ _ (by omega)]; exact t m hm
 ·cases zm hx; exact hn
theorem Tidy.new {o : AObj} : Tidy (newM o : M H Nat) := fun h c u h1 c1 l e t => by
 obtain ⟨rfl, rfl, rfl, rfl⟩ := jF e
 refine ⟨Nat.le_succ _, fun m hm => ?_, fun x hx => ?_⟩
 ·rw [zu _ _ _ _ (by omega)]; exact t m (by omega)
 ·cases zm hx; exact Nat.lt_succ_self _
variable {cx : Cx}
theorem Tidy.loadC {n o k : Nat} : Tidy (loadC n o k : M H (List V)) := by
 unfold Ab.loadC
 repeat' first | with_reducible exact yo | with_reducible exact yS | with_reducible exact Tidy.get | (with_reducible refine yp ?_ fun _ => ?_) | split
theorem kn {n o : Nat} {vs : List V} : Tidy (storeC n o vs : M H Unit) := by
 unfold Ab.storeC
 repeat' first | with_reducible exact yo | with_reducible exact Tidy.set | with_reducible exact Tidy.get | (with_reducible refine yp ?_ fun _ => ?_) | split
theorem Tidy.loadT {t n o : Nat} : Tidy (loadT cx t n o : M H V) := by
 unfold Ab.loadT
 repeat' first | with_reducible exact yo | with_reducible exact Tidy.ret | with_reducible exact yS | with_reducible exact Tidy.loadC | (with_reducible refine yp ?_ fun _ => ?_) | split
theorem Tidy.storeT {t n o : Nat} {v : V} : Tidy (storeT cx t n o v : M H Unit) := by
 unfold Ab.storeT
 repeat' first | with_reducible exact yo | with_reducible exact kn | split
theorem Tidy.asP {v : V} : Tidy (asP v : M H (Nat × Nat)) := by
 unfold Ab.asP
 repeat' first | with_reducible exact yo | with_reducible exact Tidy.ret | split
theorem Tidy.eqM {t : Nat} {x y : V} : Tidy (eqM cx t x y : M H Bool) := by
 unfold Ab.eqM
 repeat' first | with_reducible exact yo | with_reducible exact Tidy.ret | with_reducible exact yS | with_reducible exact Tidy.get | (with_reducible refine yp ?_ fun _ => ?_) | split
theorem Tidy.binM {op : BinOp} {t : Nat} {b : Bool} {x y : V} : Tidy (binM cx op t b x y : M H V) := by
 unfold Ab.binM
 repeat' first | with_reducible exact yo | with_reducible exact Tidy.ret | with_reducible exact yS | with_reducible exact Tidy.eqM | (with_reducible refine yp ?_ fun _ => ?_) | split
theorem Tidy.buildSliceM {t n : Nat} {ps : List (Nat × V)} : Tidy (buildSliceM cx t n ps : M H V) := by
 unfold Ab.buildSliceM
 repeat' first | with_reducible exact yo | with_reducible exact Tidy.ret | with_reducible exact yS | with_reducible exact Tidy.new | (with_reducible refine yp ?_ fun _ => ?_) | split
theorem Tidy.makeSliceM {t : Nat} {x y : V} : Tidy (makeSliceM cx t x y : M H V) := by
 unfold Ab.makeSliceM
 repeat' first | with_reducible exact yo | with_reducible exact Tidy.ret | with_reducible exact yS | with_reducible exact Tidy.new | (with_reducible refine yp ?_ fun _ => ?_) | split
theorem Tidy.sliceM {t : Nat} {x : V} {a b c : Option V} : Tidy (sliceM cx t x a b c : M H V) := by
 unfold Ab.sliceM
 repeat' first | with_reducible exact yo | with_reducible exact Tidy.ret | with_reducible exact yS | with_reducible exact Tidy.get | (with_reducible refine yp ?_ fun _ => ?_) | split
theorem Tidy.indexAddrM {t : Nat} {x i : V} : Tidy (indexAddrM cx t x i : M H V) := by
 unfold Ab.indexAddrM
 repeat' first | with_reducible exact yo | with_reducible exact Tidy.ret | with_reducible exact yS | with_reducible exact Tidy.get | (with_reducible refine yp ?_ fun _ => ?_) | split
theorem Tidy.lookupM {t : Nat} {x i : V} {ok : Bool} : Tidy (lookupM cx t x i ok : M H V) := by
 unfold Ab.lookupM
 repeat' first | with_reducible exact yo | with_reducible exact Tidy.ret | with_reducible exact yS | with_reducible exact Tidy.get | (with_reducible refine yp ?_ fun _ => ?_) | split
theorem Tidy.mapUpdateM {t : Nat} {m k x : V} : Tidy (mapUpdateM cx t m k x : M H V) := by
 unfold Ab.mapUpdateM
 repeat' first | with_reducible exact yo | with_reducible exact Tidy.ret | with_reducible exact yS | with_reducible exact Tidy.get | with_reducible exact Tidy.set | (with_reducible refine yp ?_ fun _ => ?_) | split
theorem Tidy.mapEntryM {t : Nat} {m k : V} : Tidy (mapEntryM cx t m k : M H V) := by
 unfold Ab.mapEntryM
 repeat' first | with_reducible exact yo | with_reducible exact Tidy.ret | with_reducible exact yS | with_reducible exact Tidy.get | with_reducible exact Tidy.set | (with_reducible refine yp ?_ fun _ => ?_) | split
theorem Tidy.entryStoreM {m s x : V} : Tidy (entryStoreM m s x : M H V) := by
 unfold Ab.entryStoreM
 repeat' first | with_reducible exact yo | with_reducible exact Tidy.ret | with_reducible exact yS | with_reducible exact Tidy.get | with_reducible exact Tidy.set | (with_reducible refine yp ?_ fun _ => ?_) | split
theorem Tidy.deleteM {t : Nat} {m k : V} : Tidy (deleteM cx t m k : M H V) := by
 unfold Ab.deleteM
 repeat' first | with_reducible exact yo | with_reducible exact Tidy.ret | with_reducible exact yS | with_reducible exact Tidy.get | with_reducible exact Tidy.set | (with_reducible refine yp ?_ fun _ => ?_) | split
theorem Tidy.lenM {t : Nat} {x : V} : Tidy (lenM cx t x : M H V) := by
 unfold Ab.lenM
 repeat' first | with_reducible exact yo | with_reducible exact Tidy.ret | with_reducible exact yS | with_reducible exact Tidy.get | (with_reducible refine yp ?_ fun _ => ?_) | split
theorem Tidy.firstM {k n : Nat} {x : V} : Tidy (firstM k n x : M H (List V)) := by
 unfold Ab.firstM
 repeat' first | with_reducible exact yo | with_reducible exact Tidy.ret | with_reducible exact Tidy.loadC | split
theorem Tidy.appendedM {e k : Nat} {xt : Option Nat} {x : V} : Tidy (appendedM cx e k xt x : M H (Nat × List V)) := by
 unfold Ab.appendedM
 repeat' first | with_reducible exact yo | with_reducible exact Tidy.ret | with_reducible exact yS | with_reducible exact Tidy.firstM | (with_reducible refine yp ?_ fun _ => ?_) | split
theorem Tidy.growM {k n : Nat} {a b : List V} : Tidy (growM k a b n : M H V) := by
 unfold Ab.growM
 repeat' first | with_reducible exact Tidy.ret | with_reducible exact Tidy.new | (with_reducible refine yp ?_ fun _ => ?_)
theorem Tidy.appendM {ts : List Nat} {xs : List V} : Tidy (appendM cx ts xs : M H V) := by
 unfold Ab.appendM
 repeat' first | with_reducible exact yo | with_reducible exact Tidy.ret | with_reducible exact yS | with_reducible exact Tidy.get | with_reducible exact Tidy.set | with_reducible exact Tidy.new | with_reducible exact Tidy.appendedM | with_reducible exact Tidy.growM | with_reducible exact Tidy.firstM | with_reducible exact kn | (with_reducible refine yp ?_ fun _ => ?_) | split
theorem Tidy.copyM {t : Nat} {d s : V} : Tidy (copyM cx t d s : M H V) := by
 unfold Ab.copyM
 repeat' first | with_reducible exact yo | with_reducible exact Tidy.ret | with_reducible exact Tidy.firstM | with_reducible exact kn | (with_reducible refine yp ?_ fun _ => ?_) | split
theorem Tidy.clearM {t : Nat} {x : V} : Tidy (clearM cx t x : M H V) := by
 unfold Ab.clearM
 repeat' first | with_reducible exact yo | with_reducible exact Tidy.ret | with_reducible exact yS | with_reducible exact kn | (with_reducible refine yp ?_ fun _ => ?_) | split
theorem Tidy.capM {t : Nat} {x : V} : Tidy (capM cx t x : M H V) := by
 unfold Ab.capM
 repeat' first | with_reducible exact yo | with_reducible exact Tidy.ret | split
theorem Tidy.builtinM {b : Builtin} {ts : List Nat} {xs : List V} : Tidy (builtinM cx b ts xs : M H V) := by
 unfold Ab.builtinM
 repeat' first | with_reducible exact yo | with_reducible exact yS | with_reducible exact Tidy.appendM | with_reducible exact Tidy.lenM | with_reducible exact Tidy.copyM | with_reducible exact Tidy.deleteM | with_reducible exact Tidy.clearM | with_reducible exact Tidy.capM | split
theorem Tidy.convertM {s d : Nat} {x : V} : Tidy (convertM cx s d x : M H V) := by
 unfold Ab.convertM
 repeat' first | with_reducible exact yo | with_reducible exact Tidy.ret | with_reducible exact yS | with_reducible exact Tidy.new | with_reducible exact Tidy.loadC | (with_reducible refine yp ?_ fun _ => ?_) | split
theorem Tidy.assertM {t : Nat} {x : V} {ok : Bool} : Tidy (assertM cx x t ok : M H V) := by
 unfold Ab.assertM
 repeat' first | with_reducible exact yo | with_reducible exact Tidy.ret | with_reducible exact yS | (with_reducible refine yp ?_ fun _ => ?_) | split
variable {E : Type} [MapI E V] {call : Tgt -> List V -> M H V}
theorem Tidy.callM (hc : ∀ f xs, Tidy (call f xs)) {e : E} {c : Call} : Tidy (callM cx call e c : M H V) := by
 unfold Ab.callM
 repeat' first | exact hc _ _ | with_reducible exact yo | with_reducible exact yS | with_reducible exact Tidy.builtinM | (with_reducible refine yp ?_ fun _ => ?_) | split
theorem Tidy.opM (hc : ∀ f xs, Tidy (call f xs)) {e : E} {o : Oper} : Tidy (opM cx call e o : M H V) := by
 unfold Ab.opM
 split
 all_goals (try dsimp only)
 all_goals repeat' first | with_reducible exact Tidy.callM hc | with_reducible exact yo | with_reducible exact Tidy.ret | with_reducible exact yS | with_reducible exact Tidy.get | with_reducible exact Tidy.set | with_reducible exact Tidy.new | with_reducible exact Tidy.asP | with_reducible exact Tidy.loadT | with_reducible exact Tidy.storeT | with_reducible exact Tidy.binM | with_reducible exact Tidy.buildSliceM | with_reducible exact Tidy.makeSliceM | with_reducible exact Tidy.sliceM | with_reducible exact Tidy.indexAddrM | with_reducible exact Tidy.lookupM | with_reducible exact Tidy.mapUpdateM | with_reducible exact Tidy.mapEntryM | with_reducible exact Tidy.entryStoreM | with_reducible exact Tidy.convertM | with_reducible exact Tidy.assertM | (with_reducible refine yp ?_ fun _ => ?_) | split
theorem Tidy.putE {N : Nat} {e : E} {d : Option Tmp} {v : V} : Tidy (putE N e d v : M H E) := by
 unfold Ab.putE
 repeat' first | with_reducible exact yo | with_reducible exact Tidy.ret | split
theorem Tidy.stepOp (hc : ∀ f xs, Tidy (call f xs)) {N : Nat} {ops : List Oper} {o : Oper} {e : E} : Tidy (stepOp cx call N ops o e : M H E) := by
 unfold Ab.stepOp
 split
 ·exact yp (Tidy.opM hc) fun _ => Tidy.putE
 ·exact Tidy.putE
 ·exact yo
theorem Tidy.evOps (hc : ∀ f xs, Tidy (call f xs)) {N : Nat} {ops : List Oper} : ∀ {l : List Oper} {e : E}, Tidy (evOps cx call N ops l e : M H E)
 | [], e => by unfold Ab.evOps; exact Tidy.ret
 | o :: l, e => by unfold Ab.evOps; exact yp (Tidy.stepOp hc) fun _ => Tidy.evOps hc
theorem Tidy.evLog (hc : ∀ f xs, Tidy (call f xs)) {N : Nat} {ops : List Oper} : ∀ {l : List Oper} {e : E}, Tidy (evLog cx call N ops l e : M H (E × List (List Acc)))
 | [], e => by unfold Ab.evLog; exact Tidy.ret
 | o :: l, e => by unfold Ab.evLog; exact yp (Tidy.listen (Tidy.stepOp hc)) fun _ => yp (Tidy.evLog hc) fun _ => Tidy.ret
theorem Tidy.evDrawn (hc : ∀ f xs, Tidy (call f xs)) {N : Nat} {ops : List Oper} {e : E} : Tidy (evDrawn cx call N ops e : M H E) := by
 unfold Ab.evDrawn
 refine yp (Tidy.evLog hc) fun _ => ?_
 dsimp only
 split
 ·exact Tidy.ret
 ·exact yo
theorem Tidy.loopM {body : List Nat -> E -> M H (Out E)} (hb : ∀ ms e, Tidy (body ms e)) : ∀ {n : Nat} {ms : List Nat} {e : E}, Tidy (loopM body n ms e)
 | 0, ms, e => by unfold Ab.loopM; exact yo
 | n + 1, ms, e => by
  unfold Ab.loopM
  refine yp (hb _ _) fun r => ?_
  split
  ·exact Tidy.loopM hb
  ·exact Tidy.ret
theorem jJ (hc : ∀ t xs, Tidy (call t xs)) {rd : Bool} {N n : Nat} : ∀ {c : Code} {ms : List Nat} {e : E}, Tidy (evCode cx call rd N n c ms e : M H (Out E))
 | .skip, ms, e => by unfold Ab.evCode; exact Tidy.ret
 | .region _ ops draw, ms, e => by
  unfold Ab.evCode
  refine yp ?_ fun _ => Tidy.ret
  split
  ·exact Tidy.evDrawn hc
  ·exact Tidy.evOps hc
 | .seq a b, ms, e => by
  unfold Ab.evCode
  refine yp (jJ hc) fun _ => ?_
  split
  ·exact jJ hc
  ·exact Tidy.ret
 | .cond c a b, ms, e => by
  unfold Ab.evCode
  refine yp yS fun _ => ?_
  split
  ·exact jJ hc
  ·exact jJ hc
  ·exact yo
 | .block id b, ms, e => by
  unfold Ab.evCode
  refine yp (jJ hc) fun _ => ?_
  split
  ·split
   ·exact Tidy.ret
   ·exact Tidy.ret
  ·exact Tidy.ret
 | .loop b, ms, e => by
  unfold Ab.evCode
  exact Tidy.loopM (fun ms e => jJ hc)
 | .exit id, ms, e => by unfold Ab.evCode; exact Tidy.ret
 | .label _, ms, e => by unfold Ab.evCode; exact Tidy.ret
 | .ret, ms, e => by unfold Ab.evCode; exact Tidy.ret
 | .refuse w, _, _ => by unfold Ab.evCode; exact yo
 | .scope _, _, _ => by unfold Ab.evCode; exact yo
 | .goto _, _, _ => by unfold Ab.evCode; exact yo
 | .rangeFunc g ps zR bo, ms, e => by
  unfold Ab.evCode
  split
  ·exact yo
  ·refine yp yS fun _ => ?_
   split
   ·split
    ·refine yp Tidy.new fun _ => yp Tidy.new fun _ => yp (hc _ _) fun _ => yp Tidy.get fun _ => ?_
     split
     ·exact yp Tidy.set fun _ => Tidy.ret
     ·exact yp Tidy.set fun _ => Tidy.ret
     ·exact yo
    ·exact yo
   ·exact yo
theorem Tidy.resM {e : E} : ∀ {l : List ResultVar}, Tidy (resM cx e l : M H (List V))
 | [] => by unfold Ab.resM; exact Tidy.ret
 | .tmp t :: l => by unfold Ab.resM; exact yp yS fun _ => yp Tidy.resM fun _ => Tidy.ret
 | .cell a t :: l => by
  unfold Ab.resM
  exact yp yS fun _ => yp Tidy.asP fun _ => yp Tidy.loadT fun _ => yp Tidy.resM fun _ => Tidy.ret
theorem Tidy.spendM : ∀ {ms : List Nat}, Tidy (spendM ms : M H Unit)
 | [] => by unfold Ab.spendM; exact Tidy.ret
 | d :: ms => by
  unfold Ab.spendM
  refine yp Tidy.get fun _ => ?_
  split
  ·exact yp Tidy.set fun _ => Tidy.spendM
  ·exact yo
theorem Tidy.bodyM (hc : ∀ t xs, Tidy (call t xs)) {n f : Nat} {xs : List V} : Tidy (bodyM E cx call n f xs : M H V) := by
 unfold Ab.bodyM
 split
 ·exact yo
 ·split
  ·exact yo
  ·split
   ·refine yp (jJ hc) fun _ => ?_
    split
    ·exact yo
    ·exact yp Tidy.spendM fun _ => yp Tidy.resM fun _ => Tidy.ret
   ·exact yo
theorem Tidy.roundM (hc : ∀ t xs, Tidy (call t xs)) {n l : Nat} {xs : List V} : Tidy (roundM E cx call n l xs : M H V) := by
 unfold Ab.roundM
 refine yp Tidy.get fun _ => ?_
 split
 ·split
  ·refine yp (jJ hc) fun _ => ?_
   split
   ·refine yp Tidy.get fun _ => ?_
    split
    ·refine yp Tidy.set fun _ => yp (jJ hc) fun r => ?_
     dsimp only
     refine yp Tidy.get fun _ => ?_
     split
     ·split
      ·exact yp Tidy.set fun _ => Tidy.ret
      ·exact yp Tidy.set fun _ => Tidy.ret
     ·exact yo
    ·exact yo
   ·exact yo
  ·exact yo
 ·exact yo
theorem kO {prim : Nat -> Option ((Tgt -> List V -> M H V) -> List V -> M H V)} (hp : ∀ f m call xs, prim f = some m -> (∀ t xs, Tidy (call t xs)) -> Tidy (m call xs)) :
  ∀ {n : Nat} {t : Tgt} {xs : List V}, Tidy (evFn E cx prim n t xs : M H V)
 | 0, t, xs => by unfold Ab.evFn; exact yo
 | n + 1, .fn f, xs => by
  unfold Ab.evFn
  split
  ·next h => exact hp _ _ _ _ h fun t xs => kO hp
  ·exact Tidy.bodyM fun t xs => kO hp
 | n + 1, .yl l, xs => by
  unfold Ab.evFn
  exact Tidy.roundM fun t xs => kO hp
end
section
variable {H : Type} [MapI H AObj]
def hasZ (x : Int) : List Int -> Bool
 | [] => false
 | y :: l => (x == y) || hasZ x l
def kp : List Int -> Bool
 | [] => true
 | x :: l => !hasZ x l && kp l
def noDupN : List Nat -> Bool
 | [] => true
 | x :: l => !hasN x l && noDupN l
def insZ (x : Int) : List Int -> List Int
 | [] => [x]
 | y :: l => bif decide (x <= y) then x :: y :: l else y :: insZ x l
def sortZ : List Int -> List Int
 | [] => []
 | x :: l => insZ x (sortZ l)
def keysZ : List (V × V × Nat) -> Option (List Int)
 | [] => some []
 | (.int .i64 x, _, _) :: es => bif decide (-9223372036854775808 <= x) && decide (x <= 9223372036854775807) then match keysZ es with
   | some l => some (x :: l)
   | none => none
  else none
 | _ :: _ => none
def goodMap (es : List (V × V × Nat)) (ck : Nat) (ks : List Int) : Bool :=
 kp ks && (noDupN (es.map fun x => x.2.2) && ((es.all fun x => Nat.blt x.2.2 ck) && Nat.ble es.length 1000000))
def sortedPrim (gs : List Nat) : (Tgt -> List V -> M H V) -> List V -> M H V := fun _ xs => match xs with
 | [.func (.func g) [] [.ptr (some (n, 0))]] =>
  if hasN g gs = true then bnd (getM n) fun
   | .cells true true [.map none] => ret (.slice none 0 (.known 0))
   | .cells true true [.map (some q)] => bnd (getM q) fun
    | .map _ es ck => match keysZ es with
     | some ks => if goodMap es ck ks = true then
       match ks with
       | [] => ret (.slice none 0 (.known 0))
       | k :: ks => bnd (newM (.cells true true ((sortZ (k :: ks)).map (V.int .i64)))) fun r => ret (.slice (some (r, 0)) (ks.length + 1) (.upTo 1))
      else fail "sorted: a map"
     | none => fail "sorted: keys"
    | _ => fail "sorted: map"
   | _ => fail "sorted: box"
  else fail "sorted: iterator"
 | _ => fail "sorted: what"
theorem kP {gs : List Nat} {call : Tgt -> List V -> M H V} {xs : List V} : Local (sortedPrim gs call xs : M H V) := by
 unfold sortedPrim
 repeat' first | with_reducible exact yf | with_reducible exact Local.ret | with_reducible exact Local.get | with_reducible exact Local.new | (with_reducible refine yb ?_ fun _ => ?_) | split
end
section
variable {H : Type} [MapI H AObj]
def insP {α : Type} (x : α × Int) : List (α × Int) -> List (α × Int)
 | [] => [x]
 | y :: l => bif decide (x.2 <= y.2) then x :: y :: l else y :: insP x l
def qy {α : Type} : List (α × Int) -> List (α × Int)
 | [] => []
 | x :: l => insP x (qy l)
def keysM (n : Nat) : List V -> M H (List ((Nat × Nat) × Int))
 | [] => ret []
 | v :: vs => match v with
  | .ptr (some (b, o)) => bnd (getM b) fun
   | .cells true _ cs => match cs[o]? with
    | some (.int .i64 k) => if Nat.beq b n = false then bnd (keysM n vs) fun ps => ret (((b, o), k) :: ps) else fail "sort: itself"
    | _ => fail "sort: key"
   | _ => fail "sort: object"
  | _ => fail "sort: pointer"
def qG (x : (Nat × Nat) × Int) : V := .ptr (some x.1)
def goodKeys (len : Nat) (cs : List V) (ps : List ((Nat × Nat) × Int)) : Bool := (Nat.ble len cs.length && Nat.ble len 1000000) && kp (ps.map fun x => x.2)
def cmpPrim (gs : List Nat) : (Tgt -> List V -> M H V) -> List V -> M H V := fun _ xs => match xs with
 | [.slice s len cap, .func (.func g) [] []] =>
  if hasN g gs = true then
   match len with
   | 0 => ret (.tuple [])
   | len + 1 => match s with
    | some (n, 0) => bnd (getM n) fun
     | .cells true cl cs => bnd (keysM n (cs.take (len + 1))) fun ps =>
       if goodKeys (len + 1) cs ps = true then bnd (setM n (.cells true cl (yu cs 0 ((qy ps).map qG)))) fun _ => ret (.tuple [])
       else fail "sort: keys"
     | _ => fail "sort: row"
    | _ => fail "sort: slice"
  else fail "sort: by what"
 | _ => fail "sort: what"
theorem keysM_local {n : Nat} : ∀ {vs : List V}, Local (keysM n vs : M H (List ((Nat × Nat) × Int)))
 | [] => Local.ret
 | v :: vs => by
  unfold keysM
  have : Local (keysM n vs : M H (List ((Nat × Nat) × Int))) := keysM_local
  repeat' first | exact this | with_reducible exact yf | with_reducible exact Local.ret | with_reducible exact Local.get | (with_reducible refine yb ?_ fun _ => ?_) | split
theorem cmpPrim_local {gs : List Nat} {call : Tgt -> List V -> M H V} {xs : List V} : Local (cmpPrim gs call xs : M H V) := by
 unfold cmpPrim
 repeat' first | exact keysM_local | with_reducible exact yf | with_reducible exact Local.ret | with_reducible exact Local.get | with_reducible exact Local.set | (with_reducible refine yb ?_ fun _ => ?_) | split
def qK (f : Nat) : List (Nat × List Nat) -> Option (List Nat)
 | [] => none
 | (g, l) :: r => bif Nat.beq f g then some l else qK f r
def seatPrims (l : List Nat) (s t : List (Nat × List Nat)) : Nat -> Option ((Tgt -> List V -> M H V) -> List V -> M H V) := fun f => match qK f s with
 | some gs => some (sortedPrim gs)
 | none => match qK f t with
  | some gs => some (cmpPrim gs)
  | none => ga l f
theorem seatPrims_local {l : List Nat} {s t : List (Nat × List Nat)} {f : Nat} {m : (Tgt -> List V -> M H V) -> List V -> M H V} {call : Tgt -> List V -> M H V} {xs : List V} (h : seatPrims l s t f = some m) : Local (m call xs) := by
 unfold seatPrims at h
 split at h
 ·cases h; exact kP
 ·split at h
  ·cases h; exact cmpPrim_local
  ·exact shutPrims_local h
theorem seatShut_wp {E : Type} [MapI E V] {cx : Cx} {l : List Nat} {s t : List (Nat × List Nat)} {f : Nat} {h : H} {c : Nat} (hf : (l.contains f && ((qK f s).isNone && (qK f t).isNone)) = true) :
  WpX (fun n => evFn E cx (seatPrims l s t) n (.fn f) []) h c fun v h' c' al => al = [] /\ v = .bool true /\ h' = h /\ c' = c :=
 ⟨.bool true, h, c, [], ⟨rfl, rfl, rfl, rfl⟩, 1, fun n hn => by
  obtain ⟨n, rfl⟩ : ∃ m, n = m + 1 := ⟨n - 1, by omega⟩
  unfold evFn
  rw [Bool.and_eq_true, Bool.and_eq_true] at hf
  have none_of : ∀ {r : List (Nat × List Nat)}, (qK f r).isNone = true -> qK f r = none := fun {r} h => by cases hx : qK f r with
   | none => rfl
   | some x => rw [hx] at h; cases h
  have : (seatPrims l s t f : Option ((Tgt -> List V -> M H V) -> List V -> M H V)) = some shutPrim := by
   unfold seatPrims
   rw [none_of hf.2.1, none_of hf.2.2]
   exact if_pos hf.1
  simp only [this]
  rfl⟩
theorem keysM_run {n : Nat} {h : H} {c : Nat} : ∀ {ps : List ((Nat × Nat) × Int)}, (∀ p ∈ ps, p.1.1 ≠ n /\ ∃ cl cs, MapI.get h p.1.1 = some (.cells true cl cs) /\ cs[p.1.2]? = some (.int .i64 p.2)) ->
  ∃ l, keysM n (ps.map qG) h c = .ok ps h c l /\ ∀ a ∈ l, ∃ p ∈ ps, a.name = p.1.1
 | [], _ => ⟨[], rfl, fun a ha => by cases ha⟩
 | ((b, o), k) :: ps, hp => by
  obtain ⟨h1, cl, cs, h2, h3⟩ := hp _ (zq ..)
  obtain ⟨l, e, hl⟩ := keysM_run (ps := ps) (n := n) (h := h) (c := c) fun p hm => hp p (zg _ hm)
  have hb : Nat.beq b n = false := by
   cases hx : Nat.beq b n with
   | false => rfl
   | true => exact absurd (Nat.eq_of_beq_eq_true hx) h1
  have eg : (getM b : M H AObj) h c = .ok (.cells true cl cs) h c [.rd b] := by unfold getM; rw [h2]
  have h3 : cs[o]? = some (.int .i64 k) := h3
  refine ⟨[.rd b] ++ (l ++ []), ?_, fun a ha => ?_⟩
  ·show keysM n (.ptr (some (b, o)) :: ps.map qG) h c = _
   unfold keysM
   refine yr eg ?_
   simp only [h3]
   rw [if_pos hb]
   exact yr e rfl
  ·rw [List.append_nil] at ha
   rcases zk ha with ha | ha
   ·rw [List.mem_singleton] at ha
    exact ⟨_, zq .., by rw [ha]; rfl⟩
   ·obtain ⟨p, hm, e⟩ := hl a ha
    exact ⟨p, zg _ hm, e⟩
theorem cmpPrim_run {gs : List Nat} {call : Tgt -> List V -> M H V} {g m : Nat} {cap : Cap} {h : H} {c : Nat} {cl : Bool} {ps : List ((Nat × Nat) × Int)} {junk : List V} (hg : hasN g gs = true) (hne : ps ≠ []) (hm : MapI.get h m = some (.cells true cl (ps.map qG ++ junk)))
  (hp : ∀ p ∈ ps, p.1.1 ≠ m /\ ∃ cl cs, MapI.get h p.1.1 = some (.cells true cl cs) /\ cs[p.1.2]? = some (.int .i64 p.2)) (hd : kp (ps.map fun x => x.2) = true) (hl : ps.length <= 1000000) :
  ∃ l, cmpPrim gs call [.slice (some (m, 0)) ps.length cap, .func (.func g) [] []] h c = .ok (.tuple []) (MapI.set h m (.cells true cl (yu (ps.map qG ++ junk) 0 ((qy ps).map qG)))) c l /\ ∀ a ∈ l, a.name = m \/ ∃ p ∈ ps, a.name = p.1.1 := by
 obtain ⟨n, hn⟩ : ∃ n, ps.length = n + 1 := ⟨ps.length - 1, by have := List.length_pos_iff.2 hne; omega⟩
 obtain ⟨l, e, hl2⟩ := keysM_run (n := m) (h := h) (c := c) hp
 have eg : (getM m : M H AObj) h c = .ok (.cells true cl (ps.map qG ++ junk)) h c [.rd m] := by unfold getM; rw [hm]
 have es : ∀ o, (setM m o : M H Unit) h c = .ok () (MapI.set h m o) c [.wr m] := fun o => by unfold setM; rw [hm]
 have et : (ps.map qG ++ junk).take (n + 1) = ps.map qG := by rw [List.take_append_of_le_length (by simp; omega), List.take_of_length_le (by simp; omega)]
 have gk : goodKeys (n + 1) (ps.map qG ++ junk) ps = true := by
  unfold goodKeys
  rw [hd, Nat.ble_eq_true_of_le (by simp; omega), Nat.ble_eq_true_of_le (by omega)]; rfl
 refine ⟨[.rd m] ++ (l ++ ([.wr m] ++ [])), ?_, fun a ha => ?_⟩
 ·unfold cmpPrim
  simp only [hg, if_true, hn]
  refine yr eg ?_
  simp only [et]
  refine yr e ?_
  rw [if_pos gk]
  exact yr (es _) rfl
 ·simp only [List.append_nil, List.mem_append, List.mem_singleton] at ha
  rcases ha with ha | ha | ha
  ·exact .inl (by rw [ha]; rfl)
  ·exact .inr (hl2 a ha)
  ·exact .inl (by rw [ha]; rfl)
end
end Go.Ab
namespace Go.Proofs.YtjnfjnmgfpffcaaGreat
abbrev shutFns : List Nat := [4]
abbrev gz : List (Nat × List Nat) := []
abbrev kT : List (Nat × List Nat) := [(69, [70])]
open Go.Ab
noncomputable abbrev cx : Cx := cxOf Tryz.prog
abbrev pr {H : Type} [MapI H AObj] : Nat -> Option ((Tgt -> List V -> M H V) -> List V -> M H V) := seatPrims shutFns gz kT
abbrev HH := FM AObj
abbrev EE := FM V
noncomputable abbrev cl (f : Nat) (xs : List V) : Nat -> M HH V := fun n => evFn EE cx pr n (.fn f) xs
theorem yP {h : HH} {n m : Nat} {x : AObj} {r : Option AObj} (hne : n ≠ m) (hg : MapI.get h m = r) : MapI.get (MapI.set h n x) m = r := by rw [zu _ _ _ _ hne]; exact hg
theorem z6 {rs : List ResultVar} {Q : V -> HH -> Nat -> Prop} {e : EE} {h : HH} {c : Nat} {vs : List V} (hv : resV e rs = some vs) (q : Q (tup vs) h c) : outQ rs Q .ret e h c := ⟨vs, hv, q⟩
theorem gg {rs : List ResultVar} {Q : V -> HH -> Nat -> Prop} {e : EE} {h : HH} {c : Nat} {vs : List V} (hv : resV e rs = some vs) (q : Q (tup vs) h c) : outQ rs Q .normal e h c := ⟨vs, hv, q⟩
def InL (ns : List Nat) (c : Nat) : Acc -> Prop := fun x => x.name ∈ ns \/ c <= x.name
open Go.Ab
def zS (v : V) : List Nat :=
 match v with
 | .slice (some (s, _)) _ _ => [s]
 | _ => []
theorem zc : (∀ ns c x, InL ns c x = (x.name ∈ ns \/ c <= x.name)) /\ (∀ n, (Acc.rd n).name = n) /\ (∀ n, (Acc.wr n).name = n) /\ (∀ n o l k, zS (.slice (some (n, o)) l k) = [n]) /\ ∀ l k, zS (.slice none l k) = [] :=
 ⟨fun _ _ _ => rfl, fun _ => rfl, fun _ => rfl, fun _ _ _ _ => rfl, fun _ _ => rfl⟩
def Does (f : Nat) (xs : List V) (h : HH) (c : Nat) (ns : List Nat) (Q : V -> HH -> Nat -> Prop) : Prop :=
 WpX (cl f xs) h c fun v h' c' l => (∀ x ∈ l, InL ns c x) /\ c <= c' /\ (∀ n, n < c -> n ∉ ns -> MapI.get h' n = MapI.get h n) /\ Q v h' c'
theorem local_cl {f : Nat} {xs : List V} {n : Nat} : Local (cl f xs n) := gV fun f m call xs hm hc => seatPrims_local hm
theorem yi {f : Nat} {xs : List V} {h : HH} {c : Nat} {ns : List Nat} {Q : V -> HH -> Nat -> Prop} (w : WpX (cl f xs) h c fun v h' c' l => (∀ x ∈ l, InL ns c x) /\ Q v h' c') : Does f xs h c ns Q := by
 obtain ⟨a, h', c', l, ⟨hl, q⟩, k, hk⟩ := w
 have hloc := local_cl _ _ _ _ _ _ (hk k (Nat.le_refl _))
 refine ⟨a, h', c', l, ⟨hl, hloc.1, fun n hn hns => hloc.2.1 n fun x hx e => ?_, q⟩, k, hk⟩
 have := hl x hx
 unfold InL at this
 rw [e] at this
 rcases this with h | h
 ·exact absurd h hns
 ·omega
theorem shut_ok {f : Nat} (hf : (shutFns.contains f && ((qK f gz).isNone && (qK f kT).isNone)) = true) {h : HH} {c : Nat} : Does f [] h c [] fun v h' c' => v = .bool true /\ h' = h /\ c' = c :=
 yi ((seatShut_wp (E := EE) (cx := cx) hf).mono fun v h' c' al ⟨e, q⟩ => ⟨fun x hx => (by rw [e] at hx; cases hx), q⟩)
theorem Does.mono {f : Nat} {xs : List V} {h : HH} {c : Nat} {ns : List Nat} {Q R : V -> HH -> Nat -> Prop} (w : Does f xs h c ns Q) (hq : ∀ v h' c', c <= c' -> (∀ n, n < c -> n ∉ ns -> MapI.get h' n = MapI.get h n) -> Q v h' c' -> R v h' c') : Does f xs h c ns R :=
 WpX.mono w fun v h' c' l ⟨a, b, d, q⟩ => ⟨a, b, d, hq v h' c' b d q⟩
theorem inL_sub {ns ms : List Nat} {c c0 : Nat} (h1 : ∀ n ∈ ns, n ∈ ms \/ c0 <= n) (h2 : c0 <= c) {x : Acc} (h : InL ns c x) : InL ms c0 x := by
 rcases h with h | h
 ·exact h1 _ h
 ·exact .inr (by omega)
theorem yj {f : Nat} {args : Array Operand} {ats : Array Nat} {xs : List V} {e : EE} {h : HH} {c c0 : Nat} {ns ms : List Nat} {Q : V -> HH -> Nat -> Prop} {K : V -> HH -> Nat -> Prop} {ds : Option Tmp} {ty : Nat} {pos : String} {af : Array Edge} {gd : Option (Nat × Bool)}
  (ha : evs cx e args.toList = some xs) (w : Does f xs h c ns Q) (h1 : ∀ n ∈ ns, n ∈ ms \/ c0 <= n) (h2 : c0 <= c)
  (k : ∀ v h' c', c <= c' -> (∀ n, n < c -> n ∉ ns -> MapI.get h' n = MapI.get h n) -> Q v h' c' -> K v h' c') :
  WpX (fun n => opM cx (evFn EE cx pr n) e ⟨ds, .call ⟨.value (.func f), args, ats⟩, ty, pos, af, gd⟩) h c fun v h' c' al => (∀ x ∈ al, InL ms c0 x) /\ K v h' c' :=
 g9 (call := fun n => evFn EE cx pr n) ha (WpX.mono w fun v h' c' l ⟨a, b, d, q⟩ => ⟨fun x hx => inL_sub h1 h2 (a x hx), k v h' c' b d q⟩)
theorem jh {f : Nat} {args : Array Operand} {ats : Array Nat} {xs : List V} {e : EE} {h : HH} {c c0 : Nat} {ns ms : List Nat} {Q : V -> HH -> Nat -> Prop} {K : V -> HH -> Nat -> List Acc -> Prop} {ds : Option Tmp} {ty : Nat} {pos : String} {af : Array Edge} {gd : Option (Nat × Bool)}
  (ha : evs cx e args.toList = some xs) (w : Does f xs h c ns Q) (h1 : ∀ n ∈ ns, n ∈ ms \/ c0 <= n) (h2 : c0 <= c)
  (k : ∀ v h' c' al, (∀ x ∈ al, InL ns c x) -> c <= c' -> (∀ n, n < c -> n ∉ ns -> MapI.get h' n = MapI.get h n) -> Q v h' c' -> K v h' c' al) :
  WpX (fun n => opM cx (evFn EE cx pr n) e ⟨ds, .call ⟨.value (.func f), args, ats⟩, ty, pos, af, gd⟩) h c fun v h' c' al => (∀ x ∈ al, InL ms c0 x) /\ K v h' c' al :=
 g9 (call := fun n => evFn EE cx pr n) ha (WpX.mono w fun v h' c' l ⟨a, b, d, q⟩ => ⟨fun x hx => inL_sub h1 h2 (a x hx), k v h' c' l a b d q⟩)
abbrev I (n : Int) : V := .int .i64 n
end Go.Proofs.YtjnfjnmgfpffcaaGreat
namespace Go.Ab
open Go.RowKit Go.ChangeShapes
def plainIn (P : Program) (S : List Nat) (t : Nat) : Bool :=
 decide (t < P.types.size) && match P.underlying t with
 | some .bool | some (.int _) | some .string => decide (P.cellsOf t = 1)
 | some (.slice e) => S.contains e && decide (0 < P.cellsOf e) && decide (P.cellsOf t = 1)
 | some (.array _ e) => S.contains e
 | some (.struct fs) => fs.toList.all fun f => S.contains f.type
 | _ => false
def plainAll (P : Program) (S : List Nat) : Bool := S.all fun t => plainIn P S t
mutual
inductive AR {T : Type} (P : Program) (h : FM AObj) (c : Nat) : Nat -> List V -> DataW T -> Prop where
 | bool {t : Nat} (b : Bool) : P.underlying t = some .bool -> AR P h c t [.bool b] (.lit (.bool b))
 | int {t : Nat} {k : IntKind} {n : Int} : P.underlying t = some (.int k) -> (Lit.int k n).wf = true -> AR P h c t [.int k n] (.lit (.int k n))
 | str {t : Nat} {s : List UInt8} : P.underlying t = some .string -> s.length <= maxLen -> AR P h c t [.str s] (.lit (.string s))
 | nil {t e : Nat} : P.underlying t = some (.slice e) -> AR P h c t [.slice none 0 (.known 0)] .nil
 | slice {t e n cap : Nat} {vss : List (List V)} {elems spare : List (DataW T)} : P.underlying t = some (.slice e) -> elems.length <= cap -> cap <= maxLen -> n < c ->
   (elems ≠ [] -> MapI.get h n = some (.cells false false vss.flatten)) -> ARs P h c (elems.map fun _ => e) vss elems -> AR P h c t [.slice (some (n, 0)) elems.length (.known cap)] (.slice elems spare)
 | array {t e n : Nat} {vss : List (List V)} {ds : List (DataW T)} : P.underlying t = some (.array n e) -> ds.length = n -> ARs P h c (ds.map fun _ => e) vss ds -> AR P h c t vss.flatten (.agg ds)
 | struct {t : Nat} {fs : Array Field} {vss : List (List V)} {ds : List (DataW T)} : P.underlying t = some (.struct fs) -> ARs P h c (fs.toList.map (·.type)) vss ds -> AR P h c t vss.flatten (.agg ds)
inductive ARs {T : Type} (P : Program) (h : FM AObj) (c : Nat) : List Nat -> List (List V) -> List (DataW T) -> Prop where
 | nil : ARs P h c [] [] []
 | cons {t : Nat} {ts : List Nat} {vs : List V} {vss : List (List V)} {d : DataW T} {ds : List (DataW T)} : AR P h c t vs d -> vs.length = P.cellsOf t -> ARs P h c ts vss ds -> ARs P h c (t :: ts) (vs :: vss) (d :: ds)
end
section
variable {T : Type} {P : Program} {h h' : FM AObj} {c c' : Nat}
mutual
theorem AR.mono (hc : c <= c') (he : ∀ n, n < c -> MapI.get h' n = MapI.get h n) : ∀ {t : Nat} {vs : List V} {d : DataW T}, AR P h c t vs d -> AR P h' c' t vs d
 | _, _, _, .bool b x => .bool b x
 | _, _, _, .int x y => .int x y
 | _, _, _, .str x y => .str x y
 | _, _, _, .nil x => .nil x
 | _, _, _, .slice x y z w g k => .slice x y z (Nat.lt_of_lt_of_le w hc) (fun e => by rw [he _ w]; exact g e) (ARs.mono hc he k)
 | _, _, _, .array x y k => .array x y (ARs.mono hc he k)
 | _, _, _, .struct x k => .struct x (ARs.mono hc he k)
theorem ARs.mono (hc : c <= c') (he : ∀ n, n < c -> MapI.get h' n = MapI.get h n) : ∀ {ts : List Nat} {vss : List (List V)} {ds : List (DataW T)}, ARs P h c ts vss ds -> ARs P h' c' ts vss ds
 | _, _, _, .nil => .nil
 | _, _, _, .cons a b d => .cons (AR.mono hc he a) b (ARs.mono hc he d)
end
end
structure Stand (W : World) (φ : Nm) (h : FM AObj) (c : Nat) : Prop where
 rel : Rel 0 W φ h W
 nm : ∀ n, c <= n -> φ n = none
 hp : ∀ n, c <= n -> MapI.get h n = none
structure Grow (φ φ' : Nm) (h h' : FM AObj) (c c' : Nat) : Prop where
 le : c <= c'
 nm : ∀ n, n < c -> φ' n = φ n
 hp : ∀ n, n < c -> MapI.get h' n = MapI.get h n
theorem Grow.refl (φ : Nm) (h : FM AObj) (c : Nat) : Grow φ φ h h c c := ⟨Nat.le_refl _, fun _ _ => rfl, fun _ _ => rfl⟩
theorem Grow.trans {φ φ' φ'' : Nm} {h h' h'' : FM AObj} {c c' c'' : Nat} (a : Grow φ φ' h h' c c') (b : Grow φ' φ'' h' h'' c' c'') : Grow φ φ'' h h'' c c'' :=
 ⟨Nat.le_trans a.le b.le, fun n hn => by rw [b.nm n (Nat.lt_of_lt_of_le hn a.le), a.nm n hn], fun n hn => by rw [b.hp n (Nat.lt_of_lt_of_le hn a.le), a.hp n hn]⟩
theorem Stand.ext {W : World} {φ φ' : Nm} {h h' : FM AObj} {c c' : Nat} (i : Stand W φ h c) (g : Grow φ φ' h h' c c') : ∀ n L, φ n = some L -> φ' n = some L := fun n L e => by
 have : n < c := Nat.lt_of_not_le fun hn => by rw [i.nm n hn] at e; cases e
 rw [g.nm n this]; exact e
theorem Rel.addRead {W : World} {φ : Nm} {h : FM AObj} {c : Nat} {o : AObj} {L : Loc} (r : Rel 0 W φ h W) (hc : φ c = none) (hw : o.writable = false) (hg : o.gone = false) (ho : ObjR φ o L W.heap[L.blk]?) (hL : L.blk < W.heap.size) :
  Rel 0 W (φ.put c L) (MapI.set h c o) W := by
 have hext : ∀ n K, φ n = some K -> (φ.put c L) n = some K := (Ext.put L hc).mono
 refine ⟨r.below, fun m p hm => ?_, fun a d p q K J had ha hd hp hq hK hJ => ?_, fun g hg => by omega⟩
 ·by_cases e : c = m
  ·subst e
   rw [zt] at hm; cases hm
   exact ⟨L, by simp [Nm.put], ho.mono hext, fun e => (by rw [hw] at e; cases e), fun _ _ => hL⟩
  ·rw [zu _ _ _ _ e] at hm
   obtain ⟨K, h1, h2, h3, h4⟩ := r.obj m p hm
   exact ⟨K, hext _ _ h1, h2.mono hext, h3, h4⟩
 ·have key : ∀ m p K, MapI.get (MapI.set h c o) m = some p -> p.writable = true -> (φ.put c L) m = some K -> MapI.get h m = some p /\ φ m = some K := fun m p K hm hp hK => by
   by_cases e : c = m
   ·subst e; rw [zt] at hm; cases hm; rw [hw] at hp; cases hp
   ·rw [zu _ _ _ _ e] at hm
    have hK' : φ m = some K := by unfold Nm.put at hK; rw [if_neg (Ne.symm e)] at hK; exact hK
    exact ⟨hm, hK'⟩
  obtain ⟨x1, x2⟩ := key a p K ha hp hK
  obtain ⟨y1, y2⟩ := key d q J hd hq hJ
  exact r.apart a d p q K J had x1 y1 hp hq x2 y2
theorem Rel.addName {W : World} {φ : Nm} {h : FM AObj} {c : Nat} {L : Loc} (r : Rel 0 W φ h W) (hc : φ c = none) (hh : MapI.get h c = none) : Rel 0 W (φ.put c L) h W := by
 have hext : ∀ n K, φ n = some K -> (φ.put c L) n = some K := (Ext.put L hc).mono
 refine ⟨r.below, fun m p hm => ?_, fun a d p q K J had ha hd hp hq hK hJ => ?_, fun g hg => by omega⟩
 ·obtain ⟨K, h1, h2, h3, h4⟩ := r.obj m p hm
  exact ⟨K, hext _ _ h1, h2.mono hext, h3, h4⟩
 ·have key : ∀ m p K, MapI.get h m = some p -> (φ.put c L) m = some K -> φ m = some K := fun m p K hm hK => by
   by_cases e : c = m
   ·subst e; rw [hh] at hm; cases hm
   ·unfold Nm.put at hK; rw [if_neg (Ne.symm e)] at hK; exact hK
  exact r.apart a d p q K J had ha hd hp hq (key a p K ha hK) (key d q J hd hJ)
section
variable {T : Type} {enc : TypeId × Value -> T} {P : Program} {W : World}
def Emb (P : Program) (W : World) (t : Nat) (cs : List Value) (d : DataW T) : Prop :=
 ∀ φ h c, Stand W φ h c -> ∃ φ' h' c' vs, Grow φ φ' h h' c c' /\ Stand W φ' h' c' /\ VRs φ' vs cs /\ AR P h' c' t vs d /\ vs.length = P.cellsOf t
inductive Embs (P : Program) (W : World) : List Nat -> List (List Value) -> List (DataW T) -> Prop where
 | nil : Embs P W [] [] []
 | cons {t : Nat} {ts : List Nat} {cs : List Value} {css : List (List Value)} {d : DataW T} {ds : List (DataW T)} : Emb P W t cs d -> Embs P W ts css ds -> Embs P W (t :: ts) (cs :: css) (d :: ds)
inductive VRss (φ : Nm) : List (List V) -> List (List Value) -> Prop where
 | nil : VRss φ [] []
 | cons {vs : List V} {us : List Value} {vss : List (List V)} {uss : List (List Value)} : VRs φ vs us -> VRss φ vss uss -> VRss φ (vs :: vss) (us :: uss)
theorem VRss.flat {φ : Nm} {vss : List (List V)} {uss : List (List Value)} (r : VRss φ vss uss) : VRs φ vss.flatten uss.flatten := by
 induction r with
 | nil => exact .nil
 | cons a _ ih => simp only [List.flatten_cons]; exact a.append ih
theorem Embs.run : ∀ {ts : List Nat} {css : List (List Value)} {ds : List (DataW T)}, Embs P W ts css ds -> ∀ φ h c, Stand W φ h c ->
  ∃ φ' h' c' vss, Grow φ φ' h h' c c' /\ Stand W φ' h' c' /\ VRss φ' vss css /\ ARs P h' c' ts vss ds
 | _, _, _, .nil, φ, h, c, i => ⟨φ, h, c, [], .refl _ _ _, i, .nil, .nil⟩
 | _, _, _, .cons a b, φ, h, c, i => by
  obtain ⟨φ1, h1, c1, vs, g1, i1, r1, a1, n1⟩ := a φ h c i
  obtain ⟨φ2, h2, c2, vss, g2, i2, r2, a2⟩ := b.run φ1 h1 c1 i1
  exact ⟨φ2, h2, c2, vs :: vss, g1.trans g2, i2, .cons (r1.mono (i1.ext g2)) r2, .cons (a1.mono g2.le g2.hp) n1 a2⟩
theorem ARs.total {h : FM AObj} {c : Nat} : ∀ {ts : List Nat} {vss : List (List V)} {ds : List (DataW T)}, ARs P h c ts vss ds -> vss.flatten.length = (ts.map fun t => P.cellsOf t).sum
 | _, _, _, .nil => rfl
 | _, _, _, .cons _ b d => by simp [b, d.total]
theorem flat_at {α : Type} {f : Nat -> Option α} {k : Nat} : ∀ (l : List (List α)) (o : Nat), (∀ i x, l[i]? = some x -> x.length = k /\ ∀ j, j < k -> f (o + i * k + j) = x[j]?) -> ∀ q, q < l.length * k -> f (o + q) = l.flatten[q]?
 | [], o, _, q, hq => by simp at hq
 | x :: l, o, hx, q, hq => by
  obtain ⟨hk, h0⟩ := hx 0 x (by simp)
  rw [List.flatten_cons]
  by_cases h : q < k
  ·rw [List.getElem?_append_left (by omega), <- h0 q h]; simp
  ·rw [List.getElem?_append_right (by omega), hk]
   have hq' : q - k < l.length * k := by
    have : (l.length + 1) * k = l.length * k + k := by rw [Nat.add_mul]; omega
    rw [List.length_cons, this] at hq
    omega
   have := flat_at (f := f) (k := k) l (o + k) (fun i y hy => ⟨(hx (i + 1) y (by simpa using hy)).1, fun j hj => by
    have := (hx (i + 1) y (by simpa using hy)).2 j hj
    rw [<- this]
    congr 1
    rw [Nat.add_mul]; omega⟩) (q - k) hq'
   rw [<- this]
   congr 1
   omega
theorem sum_const {α : Type} (k : Nat) : ∀ l : List α, (l.map fun _ => k).sum = l.length * k
 | [] => by simp
 | _ :: l => by rw [List.map_cons, List.sum_cons, sum_const k l, List.length_cons, Nat.add_mul]; omega
theorem add_at {a : Addr} (h : a.spot = none) (n : Nat) : a.add n = ⟨a.block, a.off + n, none⟩ := by
 obtain ⟨b, o, s⟩ := a
 have : s = none := h
 subst this
 unfold Addr.add
 split
 ·next e => subst e; rfl
 ·rfl
theorem slices_cut {α : Type} : ∀ (l : List α) (ns : List Nat), l.length = ns.sum -> ∃ ls : List (List α), ls.flatten = l /\ ls.length = ns.length /\ ∀ j, j < ns.length -> ls[j]? = some ((l.drop ((ns.take j).sum)).take (ns.getD j 0))
 | l, [], h => ⟨[], by simp at h; simp [h], rfl, fun j hj => by simp at hj⟩
 | l, n :: ns, h => by
  obtain ⟨ls, h1, h2, h3⟩ := slices_cut (l.drop n) ns (by simp at h ⊢; omega)
  refine ⟨l.take n :: ls, by rw [List.flatten_cons, h1, List.take_append_drop], by simp [h2], fun j hj => ?_⟩
  cases j with
  | zero => simp
  | succ j =>
   have := h3 j (by simpa using hj)
   simp only [List.getElem?_cons_succ, this, List.take_succ_cons, List.sum_cons, List.drop_drop, List.getD_cons_succ]
theorem embs_of {ts : List Nat} {css : List (List Value)} {ds : List (DataW T)} : ts.length = css.length -> ts.length = ds.length ->
  (∀ (j : Nat) (t : Nat) (cs : List Value) (d : DataW T), ts[j]? = some t -> css[j]? = some cs -> ds[j]? = some d -> Emb P W t cs d) -> Embs P W ts css ds := by
 induction ts generalizing css ds with
 | nil => intro h1 h2 _; cases css <;> cases ds <;> simp at h1 h2; exact .nil
 | cons t ts ih =>
  intro h1 h2 hx
  cases css with
  | nil => simp at h1
  | cons cs css =>
   cases ds with
   | nil => simp at h2
   | cons d ds => exact .cons (hx 0 _ _ _ rfl rfl rfl) (ih (by simpa using h1) (by simpa using h2) fun j t cs d a b e => hx (j + 1) t cs d (by simpa using a) (by simpa using b) (by simpa using e))
theorem emb_of (K : Kids P (· < P.types.size)) {S : List Nat} (hS : plainAll P S = true) : ∀ (n : Nat) (t : Nat) (cs : List Value) (x : DataW T × List MemPlace), t ∈ S -> DataW.trod enc P W 0 (fun _ => true) true n t cs = some x -> Emb P W t cs x.1 := by
 intro n
 induction n with
 | zero => intro t cs x _ h; simp [DataW.trod] at h
 | succ n ih =>
  intro t cs x ht h φ hp c i
  have hpl := List.all_eq_true.1 hS t ht
  simp only [plainIn, Bool.and_eq_true, decide_eq_true_eq] at hpl
  obtain ⟨hlt, hpl⟩ := hpl
  split at hpl
  ·next hu =>
   obtain ⟨b, rfl, rfl⟩ := DataW.trod_bool hu h
   exact ⟨φ, hp, c, [.bool b], .refl _ _ _, i, .single (.bool b), .bool b hu, (of_decide_eq_true hpl).symm⟩
  ·next k hu =>
   obtain ⟨z, rfl, rfl, hw⟩ := DataW.trod_int hu h
   exact ⟨φ, hp, c, [.int k z], .refl _ _ _, i, .single (.int k z), .int hu hw, (of_decide_eq_true hpl).symm⟩
  ·next hu =>
   obtain ⟨s, rfl, rfl, hw⟩ := DataW.trod_string hu h
   exact ⟨φ, hp, c, [.str s.data.toList], .refl _ _ _, i, .single (.str s.data.toList), .str hu (by simpa using hw), (of_decide_eq_true hpl).symm⟩
  ·next e hu =>
   simp only [Bool.and_eq_true, decide_eq_true_eq, List.contains_iff_mem] at hpl
   obtain ⟨⟨he, hk⟩, hc1⟩ := hpl
   rcases DataW.trod_slice hu h with ⟨rfl, rfl⟩ | ⟨a, len, cap, elems, rest, m, hm, rfl, rfl, _, hl, hcap, hlen, hel, hsp, _⟩
   ·exact ⟨φ, hp, c, [.slice none 0 (.known 0)], .refl _ _ _, i, .single .sliceNil, .nil hu, by simpa using hc1.symm⟩
   ·obtain rfl : m = n := by omega
    -- the elements' cells
    have each : ∀ i, i < len -> ∃ cs y, W.cells? 0 (a.add (i * P.cellsOf e)) (P.cellsOf e) = some cs /\ elems[i]? = some y /\ DataW.trod enc P W 0 (fun _ => true) true m e cs = some y := fun i hi => by
     have := hel i hi
     rw [zp (by omega)] at this
     obtain ⟨cs, h1, h2⟩ := Option.bind_eq_some_iff.1 this
     exact ⟨cs, _, h1, zp (by omega), h2⟩
    let css : List (List Value) := (List.range len).map fun i => (W.cells? 0 (a.add (i * P.cellsOf e)) (P.cellsOf e)).getD []
    have hcss : ∀ i cs, css[i]? = some cs -> i < len /\ W.cells? 0 (a.add (i * P.cellsOf e)) (P.cellsOf e) = some cs := fun i cs hcs => by
     have hi : i < len := by have := (zj hcs).1; simpa [css] using this
     obtain ⟨cs', _, h1, _⟩ := each i hi
     have : css[i]? = some ((W.cells? 0 (a.add (i * P.cellsOf e)) (P.cellsOf e)).getD []) := by simp [css, hi]
     rw [this, h1] at hcs
     cases hcs
     exact ⟨hi, h1⟩
    have hE : Embs P W ((elems.map (·.1)).map fun _ => e) css (elems.map (·.1)) := embs_of (by simp [css, hlen]) (by simp) fun j t cs d h1 h2 h3 => by
     obtain ⟨hj, h4⟩ := hcss j cs h2
     obtain ⟨cs', y, h5, h6, h7⟩ := each j hj
     rw [h4] at h5; cases h5
     simp only [List.getElem?_map, h6, Option.map_some, Option.some.injEq] at h1 h3
     subst h1; subst h3
     exact ih _ _ _ he h7
    obtain ⟨φ1, h1, c1, vss, g1, i1, r1, a1⟩ := hE.run φ hp c i
    have hn1 : φ1 c1 = none := i1.nm c1 (Nat.le_refl _)
    have hh1 : MapI.get h1 c1 = none := i1.hp c1 (Nat.le_refl _)
    have hfl : vss.flatten.length = len * P.cellsOf e := by rw [a1.total, List.map_map, List.map_map, <- hlen]; exact sum_const _ _
    let L : Loc := ⟨a.block, a.off, a.off + len * P.cellsOf e⟩
    have hput : (φ1.put c1 L) c1 = some L := by simp [Nm.put]
    have hlow : ∀ n, n < c1 -> (φ1.put c1 L) n = φ1 n := fun n hn => by unfold Nm.put; rw [if_neg (by omega)]
    have hext : ∀ n K, φ1 n = some K -> (φ1.put c1 L) n = some K := (Ext.put L hn1).mono
    -- the first cell tells the block
    have hspot : 0 < cap -> a.spot = none := fun hcp => by
     have aux : ∀ cs, W.cells? 0 (a.add (0 * P.cellsOf e)) (P.cellsOf e) = some cs -> a.spot = none := fun cs h1 => by
      obtain ⟨_, hln, hcell⟩ := World.cells?_some h1
      have h0 := hcell 0 hk
      rw [zp (by omega)] at h0
      have e0 : (a.add (0 * P.cellsOf e)).add 0 = a := by simp [Addr.add]
      rw [e0] at h0
      unfold World.cell? at h0
      split at h0
      ·split at h0
       ·cases h0
       ·next hs => simpa using hs
      ·cases h0
     by_cases hl0 : 0 < len
     ·obtain ⟨cs, _, h1, _⟩ := each 0 hl0
      exact aux cs h1
     ·obtain ⟨hrl, hr⟩ := hsp rfl
      have h2 := hr 0 (by omega)
      rw [zp (by omega)] at h2
      obtain ⟨cs, h1, _⟩ := Option.bind_eq_some_iff.1 h2
      have h00 : len + 0 = 0 := by omega
      rw [h00] at h1
      exact aux cs h1
    have hv : VR (φ1.put c1 L) (.slice (some (c1, 0)) len (.known cap)) (.slice (some a) len cap) := by
     by_cases hcp : 0 < cap
     ·have := VR.sliceK (φ := φ1.put c1 L) (n := c1) (L := L) 0 len cap hput hl
      have ha : a = ⟨L.blk, L.off + 0, none⟩ := by
       obtain ⟨b, o, s⟩ := a
       have : s = none := hspot hcp
       subst this; rfl
      rw [ha]; exact this
     ·have h0 : cap = 0 := by omega
      have h00 : len = 0 := by omega
      subst h0; subst h00
      exact .sliceK0 0 a hput
    have hlenm : (elems.map (·.1)).length = len := by simpa using hlen
    by_cases hl0 : 0 < len
    ·-- the row is read
     have hobj : ObjR φ1 (.cells false false vss.flatten) L W.heap[L.blk]? /\ L.blk < W.heap.size := by
      obtain ⟨cs, _, h2, _⟩ := each 0 hl0
      obtain ⟨_, hln, hcell⟩ := World.cells?_some h2
      have h0 := hcell 0 hk
      rw [zp (by omega)] at h0
      have hsp0 := hspot (by omega)
      have e0 : (a.add (0 * P.cellsOf e)).add 0 = a := by simp [Addr.add]
      rw [e0] at h0
      unfold World.cell? at h0
      cases hb : W.heap[a.block]? with
      | none => rw [hb] at h0; cases h0
      | some ob =>
       have hb' : W.heap[a.block]? = some ob := hb
       cases ob <;> (try (rw [hb] at h0; cases h0; done))
       rename_i C el fr
       have hcells : ∀ off, W.cell? (⟨a.block, off, none⟩ : Addr) = C[off]? := fun off => by unfold World.cell?; rw [hb']; rfl
       have hflat := flat_at (f := fun q => C[q]?) (k := P.cellsOf e) css a.off (fun i x hx => by
        obtain ⟨hi, hx'⟩ := hcss i x hx
        obtain ⟨_, hln, hcell⟩ := World.cells?_some hx'
        refine ⟨hln, fun j hj => ?_⟩
        rw [<- hcell j hj, <- hcells, add_at hsp0, add_at rfl])
       have hcl : css.length = len := by simp [css]
       have hfr := r1.flat
       have hsz : ∀ q, q < len * P.cellsOf e -> a.off + q < C.size := fun q hq => by
        have := hflat q (by rw [hcl]; exact hq)
        have hl2 : css.flatten.length = len * P.cellsOf e := by rw [<- hfr.length]; exact hfl
        rw [zp (by omega)] at this
        exact (Array.getElem?_eq_some_iff.1 this).1
       refine ⟨⟨C, el, fr, rfl, ?_, ?_, fun i v hv => ?_, fun e => (by cases e), fun e => (by cases e)⟩, (Array.getElem?_eq_some_iff.1 hb').1⟩
       ·show a.off + vss.flatten.length <= a.off + len * P.cellsOf e
        omega
       ·show a.off + len * P.cellsOf e <= C.size
        have hpos : 0 < len * P.cellsOf e := Nat.mul_pos hl0 hk
        have := hsz (len * P.cellsOf e - 1) (by omega)
        omega
       ·obtain ⟨u, h3, h4⟩ := hfr.get hv
        have hi : i < len * P.cellsOf e := by rw [<- hfl]; exact (zj hv).1
        exact ⟨u, by rw [show C[L.off + i]? = C[a.off + i]? from rfl, hflat i (by rw [hcl]; exact hi)]; exact h3, h4⟩
     refine ⟨φ1.put c1 L, MapI.set h1 c1 (.cells false false vss.flatten), c1 + 1, [.slice (some (c1, 0)) len (.known cap)], g1.trans ⟨by omega, hlow, fun n hn => zu _ _ _ _ (by omega)⟩,
      ⟨i1.rel.addRead hn1 rfl rfl hobj.1 hobj.2, fun n hn => by unfold Nm.put; rw [if_neg (by omega)]; exact i1.nm n (by omega), fun n hn => by rw [zu _ _ _ _ (by omega)]; exact i1.hp n (by omega)⟩, .single hv, ?_, by simpa using hc1.symm⟩
     have := AR.slice (P := P) (h := MapI.set h1 c1 (.cells false false vss.flatten)) (c := c1 + 1) (n := c1) (cap := cap) (spare := rest.map (·.1)) hu (by rw [hlenm]; exact hl) hcap (by omega) (fun _ => zt _ _ _)
      (a1.mono (by omega) fun n hn => zu _ _ _ _ (by omega))
     rw [hlenm] at this
     exact this
    ·have h00 : len = 0 := by omega
     have hnil : elems = [] := List.length_eq_zero_iff.1 (by omega)
     refine ⟨φ1.put c1 L, h1, c1 + 1, [.slice (some (c1, 0)) len (.known cap)], g1.trans ⟨by omega, hlow, fun n hn => rfl⟩,
      ⟨i1.rel.addName hn1 hh1, fun n hn => by unfold Nm.put; rw [if_neg (by omega)]; exact i1.nm n (by omega), fun n hn => i1.hp n (by omega)⟩, .single hv, ?_, by simpa using hc1.symm⟩
     have := AR.slice (P := P) (h := h1) (c := c1 + 1) (n := c1) (cap := cap) (spare := rest.map (·.1)) hu (by rw [hlenm]; exact hl) hcap (by omega) (fun hne => (hne (by simp [hnil])).elim) (a1.mono (by omega) fun n hn => rfl)
     rw [hlenm] at this
     exact this
  ·next m e hu =>
   simp only [List.contains_iff_mem] at hpl
   obtain ⟨xs, k, hk, rfl, hln, hxl, hx⟩ := DataW.trod_array hu h
   obtain rfl : k = n := by omega
   obtain ⟨_, hsz⟩ := K.array hlt hu
   have hsum : cs.length = (List.replicate m (P.cellsOf e)).sum := by rw [hln, hsz]; simp
   obtain ⟨css, f1, f2, f3⟩ := slices_cut cs _ hsum
   have hE : Embs P W ((xs.map (·.1)).map fun _ => e) css (xs.map (·.1)) := embs_of (by simp [f2, hxl]) (by simp) fun j t cs' d h1 h2 h3 => by
    have hj : j < m := by have := (zj h3).1; simpa [hxl] using this
    have h4 := f3 j (by simpa using hj)
    rw [h2] at h4
    have hy := hx j hj
    cases hxy : xs[j]? with
    | none => rw [List.getElem?_map, hxy] at h3; cases h3
    | some y =>
     rw [hxy] at hy
     simp only [List.getElem?_map, hxy, Option.map_some, Option.some.injEq] at h1 h3
     subst h1; subst h3
     refine ih _ _ _ hpl ?_
     have e1 : ((List.replicate m (P.cellsOf e)).take j).sum = j * P.cellsOf e := by
      rw [List.take_replicate, Nat.min_eq_left (by omega)]; simp
     have e2 : (List.replicate m (P.cellsOf e)).getD j 0 = P.cellsOf e := by simp [List.getD, hj]
     rw [e1, e2] at h4
     cases h4
     exact hy
   obtain ⟨φ1, h1, c1, vss, g1, i1, r1, a1⟩ := hE.run φ hp c i
   refine ⟨φ1, h1, c1, vss.flatten, g1, i1, by rw [<- f1]; exact r1.flat, .array hu (by simpa using hxl) a1, ?_⟩
   rw [a1.total, hsz, List.map_map, List.map_map, <- hxl]; exact sum_const _ _
  ·next fs hu =>
   simp only [List.all_eq_true, List.contains_iff_mem] at hpl
   obtain ⟨xs, k, hk, rfl, hln, hxl, hx⟩ := DataW.trod_struct hu h
   obtain rfl : k = n := by omega
   obtain ⟨_, hsz, hoff⟩ := K.struct hlt hu
   have hsum : cs.length = (fs.toList.map fun f => P.cellsOf f.type).sum := by rw [hln, hsz]
   obtain ⟨css, f1, f2, f3⟩ := slices_cut cs _ hsum
   have hE : Embs P W (fs.toList.map (·.type)) css (xs.map (·.1)) := embs_of (by simp [f2]) (by simp [hxl]) fun j t cs' d h1 h2 h3 => by
    have hj : j < fs.size := by have := (zj h3).1; simpa [hxl] using this
    have hfj : fs.toList[j]? = some fs[j] := by simp [hj]
    have h4 := f3 j (by simpa using hj)
    rw [h2] at h4
    have hy := hx j fs[j] (by simp [hj])
    cases hxy : xs[j]? with
    | none => rw [List.getElem?_map, hxy] at h3; cases h3
    | some y =>
     rw [hxy] at hy
     simp only [List.getElem?_map, hxy, hfj, Option.map_some, Option.some.injEq] at h1 h3
     subst h1; subst h3
     refine ih _ _ _ (hpl _ (by simp)) ?_
     have e1 : ((fs.toList.map fun f => P.cellsOf f.type).take j).sum = fs[j].offset := by rw [hoff j _ hfj, List.map_take]
     have e2 : (fs.toList.map fun f => P.cellsOf f.type).getD j 0 = P.cellsOf fs[j].type := by simp [List.getD, hfj, hj]
     rw [e1, e2] at h4
     cases h4
     exact hy
   obtain ⟨φ1, h1, c1, vss, g1, i1, r1, a1⟩ := hE.run φ hp c i
   refine ⟨φ1, h1, c1, vss.flatten, g1, i1, by rw [<- f1]; exact r1.flat, .struct hu a1, ?_⟩
   rw [a1.total, hsz]; simp [Function.comp_def]
  ·cases hpl
end
open Go.RowKit Go.ChangeShapes
def aggT (P : Program) (t : Nat) : Bool :=
 match P.underlying t with
 | some (.struct _) | some (.array _ _) => true
 | _ => false
def isAggV : V -> Bool
 | .agg _ => true
 | _ => false
inductive ArgsR {T : Type} (P : Program) (h : FM AObj) (c : Nat) : List Nat -> List V -> List (DataW T) -> Prop where
 | nil : ArgsR P h c [] [] []
 | cons {t : Nat} {ts : List Nat} {x : V} {xs : List V} {d : DataW T} {ds : List (DataW T)} : AR P h c t (yR x) d -> isAggV x = aggT P t -> ArgsR P h c ts xs ds -> ArgsR P h c (t :: ts) (x :: xs) (d :: ds)
section
variable {T : Type} {enc : TypeId × Value -> T} {P : Program} {W : World}
theorem agg_of {S : List Nat} {r : Reach} {base t : Nat} {v : Value} (hp : plainIn P S t = true) (h : Value.okWide P W r base t v) : (aggT P t = true /\ ∃ us, v = .agg us) \/ (aggT P t = false /\ ∀ us, v ≠ .agg us) := by
 simp only [plainIn, Bool.and_eq_true] at hp
 obtain ⟨_, hp⟩ := hp
 unfold Value.okWide at h
 cases hu : P.underlying t with
 | none => rw [hu] at hp; cases hp
 | some d =>
  rw [hu] at hp h
  cases d <;> simp only at hp h <;> first | (cases hp; done) | skip
  all_goals first
   | (left; exact ⟨by simp [aggT, hu], h.elim fun cs hcs => ⟨cs, hcs.1⟩⟩)
   | (right; exact ⟨by simp [aggT, hu], fun us e => by subst e; simp [Cell.okWide, Cell.ok, hu] at h⟩)
theorem cells_val {φ : Nm} {vs : List V} {v : Value} (r : VRs φ vs v.cells.toList) : ∃ x, VR φ x v /\ yR x = vs /\ ((isAggV x = true /\ ∃ us, v = .agg us) \/ (isAggV x = false /\ ¬ ∃ us, v = .agg us)) := by
 by_cases ha : ∃ us, v = .agg us
 ·obtain ⟨⟨us⟩, rfl⟩ := ha
  exact ⟨.agg vs, .agg r, rfl, .inl ⟨rfl, _, rfl⟩⟩
 ·have hc : v.cells.toList = [v] := by
   unfold Value.cells
   split
   ·next cs => exact absurd ⟨cs, rfl⟩ ha
   ·rfl
  rw [hc] at r
  cases r with
  | cons a b =>
   cases b
   refine ⟨_, a, ?_, .inr ⟨?_, ha⟩⟩ <;> (cases a <;> first | rfl | exact absurd ⟨_, rfl⟩ ha)
theorem args_in (K : Kids P (· < P.types.size)) {S : List Nat} (hS : plainAll P S = true) : ∀ {ts : List Nat} {vs : List Value} {ds : List (DataW T)} {ps : List MemPlace}, (∀ t ∈ ts, t ∈ S) -> (∀ (j : Nat) t v, ts[j]? = some t -> vs[j]? = some v -> ∃ r b, Value.okWide P W r b t v) ->
  DataW.TrodAll enc P W 0 (fun _ => true) true ts vs ds ps -> ∀ φ h c, Stand W φ h c -> ∃ φ' h' c' xs, Grow φ φ' h h' c c' /\ Stand W φ' h' c' /\ VRs φ' xs vs /\ ArgsR P h' c' ts xs ds
 | [], [], [], _, _, _, _, φ, h, c, i => ⟨φ, h, c, [], .refl _ _ _, i, .nil, .nil⟩
 | t :: ts, v :: vs, d :: ds, _, hT, hv, ⟨p, q, ⟨n, h1⟩, h2, _⟩, φ, h, c, i => by
  obtain ⟨φ1, hh1, c1, ws, g1, i1, r1, a1, _⟩ := emb_of K hS n t _ _ (hT t (by simp)) h1 φ h c i
  obtain ⟨φ2, hh2, c2, xs, g2, i2, r2, a2⟩ := args_in K hS (fun t ht => hT t (by simp [ht])) (fun j t v a b => hv (j + 1) t v (by simpa using a) (by simpa using b)) h2 φ1 hh1 c1 i1
  obtain ⟨x, hx, hxc, hxa⟩ := cells_val r1
  subst hxc
  obtain ⟨r, b, hok⟩ := hv 0 t v rfl rfl
  have hsh : isAggV x = aggT P t := by
   rcases agg_of (List.all_eq_true.1 hS t (hT t (by simp))) hok with ⟨e1, e2⟩ | ⟨e1, e2⟩ <;> rcases hxa with ⟨e3, e4⟩ | ⟨e3, e4⟩
   ·rw [e1, e3]
   ·exact absurd e2 e4
   ·obtain ⟨us, e4⟩ := e4; exact absurd e4 (e2 us)
   ·rw [e1, e3]
  exact ⟨φ2, hh2, c2, x :: xs, g1.trans g2, i2, .cons (hx.mono (i1.ext g2)) r2, .cons (a1.mono g2.le g2.hp) hsh a2⟩
structure RowArg (h : FM AObj) (c : Nat) (v : V) (k len : Nat) (cs : List V) : Prop where
 is : (v = .slice none 0 (.known 0) /\ len = 0) \/ ∃ s cap, v = .slice (some (s, 0)) len (.known cap) /\ s < c /\ len <= cap /\ cap <= maxLen /\ (0 < len -> MapI.get h s = some (.cells false false cs))
 size : cs.length = len * k
theorem AR.inv_int {h : FM AObj} {c t : Nat} {k : IntKind} {vs : List V} {d : DataW T} (hu : P.underlying t = some (.int k)) (r : AR P h c t vs d) : ∃ n, vs = [.int k n] /\ d = .lit (.int k n) /\ (Lit.int k n).wf = true := by
 cases r with
 | bool b hu' => rw [hu] at hu'; cases hu'
 | int hu' hw => rw [hu] at hu'; cases hu'; exact ⟨_, rfl, rfl, hw⟩
 | str hu' _ => rw [hu] at hu'; cases hu'
 | nil hu' => rw [hu] at hu'; cases hu'
 | slice hu' _ _ _ _ _ => rw [hu] at hu'; cases hu'
 | array hu' _ _ => rw [hu] at hu'; cases hu'
 | struct hu' _ => rw [hu] at hu'; cases hu'
theorem AR.inv_slice {h : FM AObj} {c t e : Nat} {vs : List V} {d : DataW T} (hu : P.underlying t = some (.slice e)) (r : AR P h c t vs d) : (vs = [.slice none 0 (.known 0)] /\ d = .nil) \/
  ∃ n cap vss elems spare, vs = [.slice (some (n, 0)) elems.length (.known cap)] /\ d = .slice elems spare /\ elems.length <= cap /\ cap <= maxLen /\ n < c /\ (elems ≠ [] -> MapI.get h n = some (.cells false false vss.flatten)) /\ ARs P h c (elems.map fun _ => e) vss elems := by
 cases r with
 | bool b hu' => rw [hu] at hu'; cases hu'
 | int hu' _ => rw [hu] at hu'; cases hu'
 | str hu' _ => rw [hu] at hu'; cases hu'
 | nil hu' => exact .inl ⟨rfl, rfl⟩
 | slice hu' a b d e f => rw [hu] at hu'; cases hu'; exact .inr ⟨_, _, _, _, _, rfl, rfl, a, b, d, e, f⟩
 | array hu' _ _ => rw [hu] at hu'; cases hu'
 | struct hu' _ => rw [hu] at hu'; cases hu'
theorem AR.inv_struct {h : FM AObj} {c t : Nat} {fs : Array Field} {vs : List V} {d : DataW T} (hu : P.underlying t = some (.struct fs)) (r : AR P h c t vs d) : ∃ vss ds, vs = vss.flatten /\ d = .agg ds /\ ARs P h c (fs.toList.map (·.type)) vss ds := by
 cases r with
 | bool b hu' => rw [hu] at hu'; cases hu'
 | int hu' _ => rw [hu] at hu'; cases hu'
 | str hu' _ => rw [hu] at hu'; cases hu'
 | nil hu' => rw [hu] at hu'; cases hu'
 | slice hu' _ _ _ _ _ => rw [hu] at hu'; cases hu'
 | array hu' _ _ => rw [hu] at hu'; cases hu'
 | struct hu' a => rw [hu] at hu'; cases hu'; exact ⟨_, _, rfl, rfl, a⟩
theorem ARs.each {h : FM AObj} {c e : Nat} {α : Type} {cells : α -> List V} {good : α -> Prop} (hx : ∀ vs (d : DataW T), AR P h c e vs d -> ∃ a, vs = cells a /\ good a) : ∀ {ds : List (DataW T)} {vss : List (List V)}, ARs P h c (ds.map fun _ => e) vss ds ->
  ∃ zR : List α, vss.flatten = (zR.map cells).flatten /\ zR.length = ds.length /\ ∀ a ∈ zR, good a
 | [], _, r => by cases r; exact ⟨[], rfl, rfl, fun z hz => by cases hz⟩
 | d :: ds, _, r => by
  cases r with
  | cons a b r' =>
   obtain ⟨zR, h1, h2, h3⟩ := ARs.each hx r'
   obtain ⟨y, rfl, hy⟩ := hx _ _ a
   exact ⟨y :: zR, by simp [h1], by simp [h2], fun z hz => by
    rcases zl hz with rfl | hz
    ·exact hy
    ·exact h3 z hz⟩
theorem AR.rows {h : FM AObj} {c t e : Nat} {x : V} {d : DataW T} {α : Type} {cells : α -> List V} {good : α -> Prop} {k : Nat} (ht : P.underlying t = some (.slice e)) (hx : isAggV x = false) (hk : ∀ a, (cells a).length = k)
  (he : ∀ vs (d : DataW T), AR P h c e vs d -> ∃ a, vs = cells a /\ good a) (r : AR P h c t (yR x) d) :
  ∃ zR : List α, RowArg h c x k zR.length (zR.map cells).flatten /\ ∀ a ∈ zR, good a := by
 have hc : yR x = [x] := by cases x <;> first | rfl | cases hx
 rw [hc] at r
 rcases r.inv_slice ht with ⟨h1, _⟩ | ⟨n, cap, vss, elems, spare, h1, _, h2, h3, h4, h5, h6⟩
 ·cases h1
  exact ⟨[], ⟨.inl ⟨rfl, rfl⟩, by simp⟩, fun z hz => by cases hz⟩
 ·cases h1
  obtain ⟨zR, e1, e2, e3⟩ := h6.each he
  refine ⟨zR, ⟨.inr ⟨n, cap, by rw [e2], h4, by omega, h3, fun hl => ?_⟩, ?_⟩, e3⟩
  ·rw [<- e1]
   exact h5 (fun e => by rw [e] at e2; simp at e2; rw [e2] at hl; simp at hl)
  ·rw [List.length_flatten, List.map_map]
   have : (List.length ∘ cells) = fun _ => k := by funext a; exact hk a
   rw [this]
   exact sum_const _ _
theorem Stand.start (W : World) : Stand W (fun _ => none) (MapI.emp : FM AObj) 0 := ⟨Rel.start W, fun _ _ => rfl, fun _ _ => rfl⟩
theorem TrodAll.carry {W' : World} {sp : Nat -> Bool} : ∀ {ts : List Nat} {vs : List Value} {ds : List (DataW T)} {ps : List MemPlace}, DataW.TrodAll enc P W 0 sp true ts vs ds ps -> (∀ p ∈ ps, W.sameAt W' p) -> DataW.TrodAll enc P W' 0 sp true ts vs ds ps
 | [], [], [], _, h, _ => h
 | _ :: _, _ :: _, _ :: _, _, ⟨p, q, ⟨n, h1⟩, h2, e⟩, hs => ⟨p, q, ⟨n, DataW.trod_carry n _ _ _ h1 fun x hx => hs x (by rw [e]; exact zh _ hx)⟩, TrodAll.carry h2 fun x hx => hs x (by rw [e]; exact zi _ hx), e⟩
theorem args_after {W' : World} (K : Kids P (· < P.types.size)) (hz : ∀ t e, t < P.types.size -> P.underlying t = some (.slice e) -> 0 < P.cellsOf e) {ts : List Nat} {vs : List Value} {ds : List (DataW T)} {ps : List MemPlace} (hT : ∀ t ∈ ts, t < P.types.size)
  (hA : DataW.TrodAll enc P W 0 (fun _ => true) true ts vs ds ps) (hlt : ∀ p ∈ ps, p.block < W.heap.size) (hk : Below W.heap.size W W') (sp : Nat -> Bool) (hsp : ∀ p ∈ ps, sp p.block = true) :
  DataW.TrodAll enc P W' 0 sp true ts vs ds ps :=
 TrodAll.carry (hA.respare K hz hT hsp) fun p hp => by
  have hl := hlt p hp
  cases p with
  | cell b off => show W'.cell? _ = W.cell? _; unfold World.cell?; rw [hk.block b hl]
  | map b => exact hk.block b hl
end
open Go.RowKit Go.ChangeShapes Go.WideShapes
section
variable {H : Type} [MapI H AObj] {P : Program}
theorem Rel.carry {ng : Nat} {w0 w w' : World} {φ : Nm} {h : H} (r : Rel ng w0 φ h w) (k : Below w.heap.size w w') : Rel ng w0 φ h w' where
 below := r.below.trans (k.mono r.below.size)
 obj n o hn := by
  obtain ⟨L, h1, h2, h3⟩ := r.obj n o hn
  refine ⟨L, h1, ?_, h3⟩
  cases hg : o.gone with
  | true => cases o <;> first | (cases hg; done) | trivial
  | false => rw [k.block _ (r.lt hn hg h1)]; exact h2
 apart := r.apart
 glob := r.glob
theorem shutPrim_ok (F : Fit P) {n f : Nat} {fn : Func} {code : Code} (hP : P.funcs[f]? = some fn) (hb : fn.body = some code)
  (hrun : isTrue (evFn (H := Tr AObj) (Tr V) (cxOf P) (fun _ => none) n (.fn f) [] MapI.emp 0) = true) (w0 : World) : kU P 0 w0 f (shutPrim (H := H)) where
 ok call hc hl xs h c v h' c' l φ w xs' hr r hx hf := by
  cases hx with
  | nil =>
   obtain ⟨rfl, rfl, rfl, _⟩ := z7 hr
   obtain ⟨h1, c1, l1, h2⟩ := isTrue_ok hrun
   have a := kZ F.cx rfl F.mixed F.good (fun _ _ h => by cases h) n (.fn f) [] MapI.emp 0 _ _ _ _ _ w [] h2 (Rel.start w) .nil (fun _ _ _ => rfl)
   have cl := a.calls hP (F.name hP) hb
   refine .inl ⟨cl.1, cl.2.mono fun e w' ⟨u, he, φ', _, _, hrel, hv⟩ => ?_⟩
   cases hv
   exact ⟨_, he, φ, .refl _ _ _, Nat.le_refl _, r.carry hrel.below, .bool _⟩
  | cons _ _ => exact (zY (h := h) (c := c) hr).elim
 loc call xs hl := gX
theorem law_callsP {T : Type} {enc : TypeId × Value -> T} {W : World} (F : Fit P) (K : Kids P (· < P.types.size)) {S : List Nat} (hS : plainAll P S = true) {prim : Nat -> Option ((Tgt -> List V -> M (FM AObj) V) -> List V -> M (FM AObj) V)} (hprim : ∀ w f m, prim f = some m -> kU P 0 w f m)
  {f : Nat} {fn : Func} {code : Code} (hP : P.funcs[f]? = some fn) (hb : fn.body = some code)
  {ts : List Nat} {vs : List Value} {ds : List (DataW T)} {ps : List MemPlace} (hT : ∀ t ∈ ts, t ∈ S) (hv : ∀ (j : Nat) t v, ts[j]? = some t -> vs[j]? = some v -> ∃ r b, Value.okWide P W r b t v) (hA : DataW.TrodAll enc P W 0 (fun _ => true) true ts vs ds ps)
  (hrun : ∀ (h : FM AObj) (c : Nat) (xs : List V), ArgsR P h c ts xs ds -> WpX (fun n => evFn (FM V) (cxOf P) prim n (.fn f) xs) h c fun v _ _ _ => v = .bool true) :
  Calls P f ⟨vs⟩ W fun e w' => e = .returned (.bool true) /\ Below W.heap.size W w' := by
 obtain ⟨φ, h, c, xs, _, i, r, a⟩ := args_in K hS hT hv hA _ _ _ (Stand.start W)
 obtain ⟨v, h', c', l, rfl, k, hk⟩ := hrun h c xs a
 have := kZ F.cx rfl F.mixed F.good (hprim W) k (.fn f) xs h c _ _ _ _ _ W vs (hk k (Nat.le_refl _)) i.rel r (fun n hn _ => i.nm n hn)
 refine (this.calls hP (F.name hP) hb).2.mono fun e w' ⟨u, he, φ', _, _, hrel, hv⟩ => ?_
 cases hv
 exact ⟨he, hrel.below⟩
end
end Go.Ab
namespace Go.Proofs.YtjnfjnmgfpffcaaGreat
open Go.Ab Go.RowKit Go.ChangeShapes Go.WideShapes
theorem Tidy.sortedPrim {H : Type} [MapI H AObj] {gs : List Nat} {call : Tgt -> List V -> M H V} {xs : List V} : Tidy (sortedPrim gs call xs : M H V) := by
 unfold Go.Ab.sortedPrim
 repeat' first | with_reducible exact yo | with_reducible exact Tidy.ret | with_reducible exact Tidy.get | with_reducible exact Tidy.new | (with_reducible refine yp ?_ fun _ => ?_) | split
theorem Tidy.keysM {H : Type} [MapI H AObj] {n : Nat} : ∀ {vs : List V}, Tidy (keysM n vs : M H (List ((Nat × Nat) × Int)))
 | [] => Tidy.ret
 | v :: vs => by
  unfold Go.Ab.keysM
  have : Tidy (Go.Ab.keysM n vs : M H (List ((Nat × Nat) × Int))) := Tidy.keysM
  repeat' first | exact this | with_reducible exact yo | with_reducible exact Tidy.ret | with_reducible exact Tidy.get | (with_reducible refine yp ?_ fun _ => ?_) | split
theorem Tidy.cmpPrim {H : Type} [MapI H AObj] {gs : List Nat} {call : Tgt -> List V -> M H V} {xs : List V} : Tidy (cmpPrim gs call xs : M H V) := by
 unfold Go.Ab.cmpPrim
 repeat' first | exact Tidy.keysM | with_reducible exact yo | with_reducible exact Tidy.ret | with_reducible exact Tidy.get | with_reducible exact Tidy.set | (with_reducible refine yp ?_ fun _ => ?_) | split
theorem tidy_cl {f : Nat} {xs : List V} {n : Nat} : Tidy (cl f xs n) := kO fun f m call xs hm hc => by
 have hm : seatPrims shutFns gz kT f = some m := hm
 unfold seatPrims at hm
 split at hm
 ·cases hm; exact Tidy.sortedPrim
 ·split at hm
  ·cases hm; exact Tidy.cmpPrim
  ·unfold ga at hm
   split at hm
   ·cases hm
    cases xs with
    | nil => exact Tidy.ret
    | cons _ _ => exact yo
   ·cases hm
theorem Clear.set {h : HH} {c n : Nat} {x : AObj} (t : Clear h c) (hn : n < c) : Clear (MapI.set h n x) c := fun m hm => by rw [zu _ _ _ _ (by omega)]; exact t m hm
theorem Clear.new {h : HH} {c : Nat} {x : AObj} (t : Clear h c) : Clear (MapI.set h c x) (c + 1) := fun m hm => by rw [zu _ _ _ _ (by omega)]; exact t m (by omega)
theorem Does.tidy {f : Nat} {xs : List V} {h : HH} {c : Nat} {ns : List Nat} {Q : V -> HH -> Nat -> Prop} (w : Does f xs h c ns Q) (t : Clear h c) :
  WpX (cl f xs) h c fun v h' c' l => (∀ x ∈ l, InL ns c x /\ x.name < c') /\ Clear h' c' /\ c <= c' /\ (∀ n, n < c -> n ∉ ns -> MapI.get h' n = MapI.get h n) /\ Q v h' c' := by
 obtain ⟨a, h', c', l, ⟨q1, q2, q3, q4⟩, k, hk⟩ := w
 obtain ⟨_, t2, t3⟩ := tidy_cl _ _ _ _ _ _ (hk k (Nat.le_refl _)) t
 exact ⟨a, h', c', l, ⟨fun x hx => ⟨q1 x hx, t3 x hx⟩, t2, q2, q3, q4⟩, k, hk⟩
theorem call_atT {f : Nat} {args : Array Operand} {ats : Array Nat} {xs : List V} {e : EE} {h : HH} {c c0 : Nat} {ns ms : List Nat} {Q : V -> HH -> Nat -> Prop} {K : V -> HH -> Nat -> List Acc -> Prop} {ds : Option Tmp} {ty : Nat} {pos : String} {af : Array Edge} {gd : Option (Nat × Bool)}
  (ha : evs cx e args.toList = some xs) (w : Does f xs h c ns Q) (t : Clear h c) (h1 : ∀ n ∈ ns, n ∈ ms \/ c0 <= n) (h2 : c0 <= c)
  (k : ∀ v h' c' al, (∀ x ∈ al, InL ns c x /\ x.name < c') -> Clear h' c' -> c <= c' -> (∀ n, n < c -> n ∉ ns -> MapI.get h' n = MapI.get h n) -> Q v h' c' -> K v h' c' al) :
  WpX (fun n => opM cx (evFn EE cx pr n) e ⟨ds, .call ⟨.value (.func f), args, ats⟩, ty, pos, af, gd⟩) h c fun v h' c' al => (∀ x ∈ al, InL ms c0 x) /\ K v h' c' al :=
 g9 (call := fun n => evFn EE cx pr n) ha (WpX.mono (w.tidy t) fun v h' c' l ⟨a, b, d, e, q⟩ => ⟨fun x hx => inL_sub h1 h2 (a x hx).1, k v h' c' l a b d e q⟩)
theorem law_callsT {P : Program} {T : Type} {enc : TypeId × Value -> T} {W : World} (F : Fit P) (K : Kids P (· < P.types.size)) {S : List Nat} (hS : plainAll P S = true) {prim : Nat -> Option ((Tgt -> List V -> M (FM AObj) V) -> List V -> M (FM AObj) V)} (hprim : ∀ w f m, prim f = some m -> kU P 0 w f m)
  {f : Nat} {fn : Func} {code : Code} (hP : P.funcs[f]? = some fn) (hb : fn.body = some code)
  {ts : List Nat} {vs : List Value} {ds : List (DataW T)} {ps : List MemPlace} (hT : ∀ t ∈ ts, t ∈ S) (hv : ∀ (j : Nat) t v, ts[j]? = some t -> vs[j]? = some v -> ∃ r b, Value.okWide P W r b t v) (hA : DataW.TrodAll enc P W 0 (fun _ => true) true ts vs ds ps)
  (hrun : ∀ (h : FM AObj) (c : Nat) (xs : List V), ArgsR P h c ts xs ds -> Clear h c -> WpX (fun n => evFn (FM V) (cxOf P) prim n (.fn f) xs) h c fun v _ _ _ => v = .bool true) :
  Calls P f ⟨vs⟩ W fun e w' => e = .returned (.bool true) /\ Below W.heap.size W w' := by
 obtain ⟨φ, h, c, xs, _, i, r, a⟩ := args_in K hS hT hv hA _ _ _ (Stand.start W)
 have t : Clear h c := fun n hn => by
  cases hg : MapI.get h n with
  | none => rfl
  | some o =>
   obtain ⟨L, hL, _⟩ := i.rel.obj n o hg
   rw [i.nm n hn] at hL; cases hL
 obtain ⟨v, h', c', l, rfl, k, hk⟩ := hrun h c xs a t
 have := kZ F.cx rfl F.mixed F.good (hprim W) k (.fn f) xs h c _ _ _ _ _ W vs (hk k (Nat.le_refl _)) i.rel r (fun n hn _ => i.nm n hn)
 refine (this.calls hP (F.name hP) hb).2.mono fun e w' ⟨u, he, φ', _, _, hrel, hv⟩ => ?_
 cases hv
 exact ⟨he, hrel.below⟩
end Go.Proofs.YtjnfjnmgfpffcaaGreat
