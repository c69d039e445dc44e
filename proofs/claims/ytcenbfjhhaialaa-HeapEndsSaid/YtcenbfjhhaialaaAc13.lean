/- The abstract evaluator against the model: conversions, built-ins, operations. -/
import Derived.Test.YtcenbfjhhaialaaAc7
import Derived.Test.YtcenbfjhhaialaaAc12
set_option linter.unusedVariables false
set_option linter.unusedSectionVars false
set_option linter.unusedSimpArgs false
set_option linter.unnecessarySimpa false
namespace Go.Ab
open Go.RowKit

section
variable {H : Type} [MapI H AObj] {P : Program} {ng : Nat} {w0 w : World} {φ : Nm} {h h' : H} {c c' : Nat} {l : List Acc}

theorem foldl_push (ns : List Int) : ∀ (acc : ByteArray), ns.foldl (fun (r : ByteArray) n => r.push (UInt8.ofNat n.toNat)) acc = ⟨⟨acc.data.toList ++ ns.map (fun n => UInt8.ofNat n.toNat)⟩⟩ := by
  induction ns with
  | nil => intro acc; simp
  | cons n ns ih => intro acc; simp only [List.foldl_cons, ih, List.map_cons]; simp

theorem Done.value {v : V} {s : Sem Value} (hd : Done P ng w0 φ c c' h' w v s) : ∃ φ' u w', Ext φ φ' c c' ∧ c ≤ c' ∧ Rel ng w0 φ' h' w' ∧ VR φ' v u ∧ (do pure (.value (← s)) : Sem Next).run P w = .ok (.value u) w' := by
  obtain ⟨φ', u, w', h1, h2, h3, h4, h5⟩ := hd
  exact ⟨φ', u, w', h1, h2, h3, h4, by simp [h5]⟩

theorem runes_eq {s : ByteArray} : ∀ (b i : Nat) (acc : Array Value), (Conv.runesFrom s b i acc).toList = acc.toList ++ (runesL s b i).map fun z => Value.int .i32 z
  | 0, i, acc => by simp [Conv.runesFrom, runesL]
  | b + 1, i, acc => by
    unfold Conv.runesFrom runesL
    by_cases h : i < s.size
    · simp only [if_pos h]
      rw [runes_eq b]
      simp
    · simp [if_neg h]
theorem i32s_ok {φ : Nm} : ∀ l : List Int, VRs φ (i32s l) (l.map fun z => Value.int .i32 z)
  | [] => .nil
  | z :: l => .cons (.int _ _) (i32s_ok l)

variable {cx : Cx} (hcx : CxOk P cx)
include hcx

theorem convertM_ok (r : Rel ng w0 φ h w) {s d : Nat} {x v : V} {x' : Value} (hx : VR φ x x') (e : convertM cx s d x h c = .ok v h' c' l) (hf : Fresh φ c c') :
    Done P ng w0 φ c c' h' w v (convert s d x') := by
  unfold convertM at e
  generalize hs : cx.desc s = ds at e
  generalize hd : cx.desc d = dd at e
  split at e
  · next k1 k n =>
    cases hx
    obtain ⟨rfl, rfl, rfl, _⟩ := ret_ok e
    exact Done.here r (.int _ _) (by simp [convert, run_und hcx hs, run_und hcx hd, Conv.intToInt])
  · next b =>
    cases hx
    obtain ⟨rfl, rfl, rfl, _⟩ := ret_ok e
    exact Done.here r (.str _) (by simp [convert, run_und hcx hs, run_und hcx hd])
  · next el b =>
    cases hx
    cases he : cx.desc el with
    | none => simp only [he] at e; exact (fail_ok e).elim
    | some de =>
      simp only [he] at e
      cases de <;> try exact (fail_ok e).elim
      rename_i ik
      cases ik <;> try exact (fail_ok e).elim
      case i32 =>
        simp only at e
        obtain ⟨n, h1, c1, l1, l2, e1, e2, _⟩ := bnd_ok e
        obtain ⟨rfl, rfl, rfl, _⟩ := newM_ok e1
        obtain ⟨rfl, rfl, rfl, _⟩ := ret_ok e2
        have hc := hf n (by omega) (by omega)
        have hsz : (⟨⟨b⟩⟩ : ByteArray).size = b.length := rfl
        have hR : Conv.runesFrom ⟨⟨b⟩⟩ b.length 0 #[] = ⟨(runesL ⟨⟨b⟩⟩ b.length 0).map fun z => Value.int .i32 z⟩ := by
          apply Array.toList_inj.1
          rw [runes_eq]; simp
        generalize hrl : runesL ⟨⟨b⟩⟩ b.length 0 = rl at hR
        have hcap : rl.length ≤ grownCap w rl.length 0 el := grownCap_ge _ _ _ _
        let C : Array Value := (⟨rl.map fun z => Value.int .i32 z⟩ : Array Value) ++ Array.replicate (grownCap w rl.length 0 el - rl.length) (.int .i32 0)
        have hCs : C.size = grownCap w rl.length 0 el := by simp only [C, Array.size_append, Array.size_replicate, List.size_toArray, List.length_map]; omega
        have hrow := (r.drew (w.drawn + 1)).newRow (c := n) (e := el) (C := C) (vs := i32s rl) (fr := (0, 0)) (cl := true) hc
          (by rw [hCs]; simp [i32s]; exact hcap) (fun i v hi => by
            obtain ⟨u, h1, h2⟩ := (i32s_ok (φ := φ) rl).get hi
            refine ⟨u, ?_, h2⟩
            have hlt : i < rl.length := by
              rcases Nat.lt_or_ge i rl.length with h | h
              · exact h
              · rw [List.getElem?_eq_none (by simpa using h)] at h1; cases h1
            have : C[i]? = (⟨rl.map fun z => Value.int .i32 z⟩ : Array Value)[i]? := Array.getElem?_append_left (by simpa using hlt)
            rw [this, ← h1]; simp) (fun j hj => by simp) (fun _ => rfl)
        refine ⟨_, .slice (some ⟨w.heap.size, 0, none⟩) rl.length (grownCap w rl.length 0 el), _, Ext.put _ hc, by omega, hrow, ?_, ?_⟩
        · refine VR.sliceU (L := ⟨w.heap.size, 0, C.size⟩) 0 _ _ _ put_get ?_ hcap (by omega)
          simp only [hCs]; omega
        · have hdraw : (choose (.appendCap rl.length 0 el)).run P w = .ok (grownCap w rl.length 0 el) { w with drawn := w.drawn + 1 } := by simp [Question.forced, grownCap]
          have hlen : (⟨rl.map fun z => Value.int .i32 z⟩ : Array Value).size = rl.length := by simp
          simp only [convert, Sem.run_bind, run_und hcx hs, run_und hcx hd, run_und hcx he, Result.andThen_ok, Conv.stringToRunes, hsz, hR, hlen, hdraw, newRow, run_newObj, Sem.run_pure]
          rfl
      simp only at e
      by_cases hl : b.length ≤ 1000000000
      rotate_left
      · rw [if_neg hl] at e; exact (fail_ok e).elim
      rw [if_pos hl] at e
      obtain ⟨n, h1, c1, l1, l2, e1, e2, _⟩ := bnd_ok e
      obtain ⟨rfl, rfl, rfl, _⟩ := newM_ok e1
      obtain ⟨rfl, rfl, rfl, _⟩ := ret_ok e2
      have hc := hf n (by omega) (by omega)
      -- the row: the bytes, and nulls up to the capacity that is drawn
      have hcap : b.length ≤ grownCap w b.length 0 el := grownCap_ge _ _ _ _
      have hsz : (⟨⟨b⟩⟩ : ByteArray).size = b.length := rfl
      let C : Array Value := (⟨⟨b⟩⟩ : ByteArray).data.map (fun (x : UInt8) => Value.int .u8 x.toNat) ++ Array.replicate (grownCap w b.length 0 el - b.length) (.int .u8 0)
      have hCs : C.size = grownCap w b.length 0 el := by simp only [C, Array.size_append, Array.size_map, Array.size_replicate, List.size_toArray]; omega
      have hrow := (r.drew (w.drawn + 1)).newRow (c := n) (e := el) (C := C) (vs := u8s b) (fr := (grownCap w b.length 0 el, grownCap w b.length 0 el + 1)) (cl := false) hc
        (by rw [hCs]; simp [u8s]; exact hcap) (fun i v hi => by
          obtain ⟨u, h1, h2⟩ := (u8s_ok (φ := φ) b).get hi
          refine ⟨u, ?_, h2⟩
          have hlt : i < b.length := by
            rcases Nat.lt_or_ge i b.length with h | h
            · exact h
            · rw [List.getElem?_eq_none (by simpa using h)] at h1; cases h1
          have : C[i]? = ((⟨⟨b⟩⟩ : ByteArray).data.map (fun (x : UInt8) => Value.int .u8 x.toNat))[i]? := Array.getElem?_append_left (by simpa using hlt)
          rw [this, ← h1]; simp) (fun j hj => by rw [hCs] at hj; simp; omega) (fun h => by cases h)
      refine ⟨_, .slice (some ⟨w.heap.size, 0, none⟩) b.length (grownCap w b.length 0 el), _, Ext.put _ hc, by omega, hrow, ?_, ?_⟩
      · refine VR.sliceU (L := ⟨w.heap.size, 0, C.size⟩) 0 _ _ _ put_get ?_ hcap (by omega)
        simp only [hCs]; omega
      · have hdraw : (choose (.appendCap b.length 0 el)).run P w = .ok (grownCap w b.length 0 el) { w with drawn := w.drawn + 1 } := by simp [Question.forced, grownCap]
        simp only [convert, Sem.run_bind, run_und hcx hs, run_und hcx hd, run_und hcx he, Result.andThen_ok, Conv.stringToBytes, hsz, hdraw, newRow, run_newObj, Sem.run_pure, markStringish, run_shape]
        have hsh : ({ ({ w with drawn := w.drawn + 1 } : World) with heap := w.heap.push (Obj.cells C el) } : World).shape? w.heap.size = some (el, grownCap w b.length 0 el) := by
          simp [World.shape?, hCs]
        simp only [C] at hsh
        simp only [hsh, run_freeze, Result.andThen_ok]
        congr 1
        unfold World.freeze
        rw [if_neg (by decide)]
        simp only [World.alloc]
        congr 1
        apply Array.ext_getElem?
        intro j
        by_cases hj : w.heap.size = j
        · subst hj
          rw [Array.getElem?_modify, if_pos rfl]
          simp only [Array.getElem?_push_size, Option.map_some, C]
          rfl
        · rw [Array.getElem?_modify, if_neg hj, Array.getElem?_push, Array.getElem?_push, if_neg (Ne.symm hj), if_neg (Ne.symm hj)]
  · next el a len cap =>
    cases he : cx.desc el with
    | none => simp only [he] at e; exact (fail_ok e).elim
    | some de =>
      simp only [he] at e
      cases de <;> try exact (fail_ok e).elim
      rename_i ik
      cases ik <;> try exact (fail_ok e).elim
      have conv : ∀ q lq cq, (convert s d (.slice q lq cq)).run P w = (Conv.bytesToString (.slice q lq cq)).run P w := fun q lq cq => by
        simp [convert, run_und hcx hs, run_und hcx hd, run_und hcx he]
      have main : ∀ (m o : Nat) (L : Loc) (cc : Nat) (b : Addr), a = some (m, o) → x' = .slice (some b) len cc → φ m = some L → (0 < len → b = ⟨L.blk, L.off + o, none⟩) → Done P ng w0 φ c c' h' w v (convert s d x') := by
        intro m o L cc b ha hxe hL hba
        subst ha; subst hxe
        simp only at e
        by_cases h0 : len = 0
        · rw [if_pos h0] at e
          obtain ⟨rfl, rfl, rfl, _⟩ := ret_ok e
          subst h0
          refine Done.here r (.str _) ?_
          rw [conv, run_bytesToString w b 0 cc [] (by rfl)]
          rfl
        · rw [if_neg h0] at e
          obtain ⟨cs, h1, c1, l1, l2, e1, e2, _⟩ := bnd_ok e
          obtain ⟨rfl, rfl, hl, L', us, hL', hul, hv, hrun, _⟩ := loadC_ok (P := P) r e1
          rw [hL] at hL'; cases hL'
          obtain ⟨st, h2, c2, l3, l4, e3, e4, _⟩ := bnd_ok e2
          obtain ⟨hst, rfl, rfl, _⟩ := lift_ok e3
          obtain ⟨rfl, rfl, rfl, _⟩ := ret_ok e4
          obtain ⟨ns, hns, hss⟩ := bytesOfV_ok hv hst
          have hba := hba (by omega)
          subst hba
          rw [hns] at hrun
          refine Done.here r (.str _) ?_
          rw [conv, run_bytesToString w _ len cc ns hrun, foldl_push, hss]
          rfl
      cases hx
      case sliceNil =>
        obtain ⟨rfl, rfl, rfl, _⟩ := ret_ok e
        refine Done.here r (.str _) ?_
        rw [conv]; rfl
      case sliceK hL hle => exact main _ _ _ _ _ rfl rfl hL (fun _ => rfl)
      case sliceK0 hL => exact main _ _ _ _ _ rfl rfl hL (fun h => by omega)
      case sliceU hL _ _ _ => exact main _ _ _ _ _ rfl rfl hL (fun _ => rfl)
      case sliceZ hL _ _ => exact main _ _ _ _ _ rfl rfl hL (fun h => by omega)
  · exact (fail_ok e).elim
end
end Go.Ab
