/- HeapEnds: what stands while Bins are made. -/
/- HeapEnds. -/
/- HeapEnds: its arguments as data. -/
import Derived.Test.YtcenbfjhhaialaaHeF
import Derived.Test.YtcenbfjhhaialaaHeG
import Derived.Test.YtcenbfjhhaialaaAdC
import Derived.Test.YtcenbfjhhaialaaAdT
import Derived.DataShut


set_option linter.unusedVariables false
set_option linter.unusedSectionVars false
set_option linter.unusedSimpArgs false
set_option linter.unnecessarySimpa false
namespace Go.Proofs.Ytcenbfjhhaialaa
open Go.Ab
set_option maxRecDepth 10000

/-- The counts that the law keeps itself. -/
def cntV (gs : List Int) : List V := [I (1 + many gs 0), I (1 + many gs 1), I (1 + many gs 2), I (1 + many gs 3), I (1 + many gs 4)]
theorem cnt_get {gs : List Int} {n : Nat} (h : n < 5) : nth (cntV gs) (0 + ((n : Nat) : Int).toNat * 1) = some (I (1 + many gs n)) := by
  rcases (show n = 0 ∨ n = 1 ∨ n = 2 ∨ n = 3 ∨ n = 4 from by omega) with rfl | rfl | rfl | rfl | rfl <;> rfl
theorem cnt_set {gs : List Int} {n : Nat} {x : Int} (h : n < 5) (hx : x = 1 + many gs n + 1) : setAll (cntV gs) (0 + ((n : Nat) : Int).toNat * 1) [I x] = cntV (gs ++ [((n + 1 : Nat) : Int)]) := by
  subst hx
  simp only [cntV, many_snoc]
  rcases (show n = 0 ∨ n = 1 ∨ n = 2 ∨ n = 3 ∨ n = 4 from by omega) with rfl | rfl | rfl | rfl | rfl <;>
    simp [setAll, ovr, Int.add_assoc]
section
variable {h h' h0 : HH} {c c' c0 hp a sp nh : Nat} {vW vR vX vb vr : V} {size most : Int} {st : St} {os : List Ob} {ps : List Nat} {rows : List (Int × Int × Int)}
/-- How often a handle is held. -/
theorem count_held {rows0 : List (Int × Int × Int)} {i : Nat} {hd : Int} (s : StoreAt h c sp vb vr st) (hh : Held rows0 st.rows os) (hi : i < 5) (he : hd = (i : Int) + 1) : Does 9 [.ptr (some (sp, 0)), I hd] h c (sp :: rowName vr) fun v h' c' => h = h' ∧ c = c' ∧ v = I (1 + many (handsO os) i) := by
  have hlen : st.rows.length = 5 := by rw [hh.moved.1, hh.five]
  obtain ⟨q, hq, e⟩ := hh.row hi
  refine WpX.mono (count_ok (hd := hd) s (by omega)) fun v h' c' l ⟨a1, a2, a3, e1, e2, hor⟩ => ⟨a1, a2, a3, e1.symm, e2.symm, ?_⟩
  rcases hor with ⟨j, q', hj, hq', rfl⟩ | ⟨hno, _⟩
  · have : j = i := by omega
    subst this
    rw [hq] at hq'
    cases hq'
    rw [e]
  · have h1 := hno i q he hq
    have h2 := many_nonneg (handsO os) i
    omega
/-- What stands while Bins are made. -/
structure EndI (h0 : HH) (c0 : Nat) (h : HH) (c hp a sp nh : Nat) (vW vR vb vr : V) (st : St) (rows : List (Int × Int × Int)) (os : List Ob) (ps : List Nat) (size : Int) : Prop where
  b : BagH h c hp a sp vW vR vb vr { st with rows := rows } os ps size 400
  bins : Bins os
  held : Held st.rows rows os
  cnt : MapI.get h nh = some (.cells true true (cntV (handsO os)))
  nhc : nh < c
  nh0 : c0 ≤ nh
  own : ∀ n ∈ hmn hp a vW vR, c0 ≤ n ∧ n ≠ nh
  sown : ∀ n ∈ sp :: (rowName vb ++ rowName vr), c0 ≤ n ∧ n ≠ nh
  keep0 : ∀ n, n < c0 → MapI.get h n = MapI.get h0 n
theorem EndI.same (r : EndI h0 c0 h c hp a sp nh vW vR vb vr st rows os ps size) (hc : c ≤ c') (e : ∀ n, n < c → MapI.get h' n = MapI.get h n) : EndI h0 c0 h' c' hp a sp nh vW vR vb vr st rows os ps size := by
  have h1 := r.nhc
  have h2 := r.nh0
  exact ⟨r.b.same hc e, r.bins, r.held, (e nh h1).trans r.cnt, by omega, h2, r.own, r.sown, fun n hn => (e n (by omega)).trans (r.keep0 n hn)⟩
/-- A Bin more, and its count. -/
theorem EndI.made {vW' : V} {n : Nat} {q : Int × Int × Int} {cs : List V} (r : EndI h0 c0 h c hp a sp nh vW vR vb vr st rows os ps size) (hn5 : n < 5) (hq : rows[n]? = some q)
    (b : BagH h' c' hp a sp vW' vR vb vr { st with rows := rows.set n (q.1, q.2.1, q.2.2 + 1) } (os ++ [binO n]) ps size 400) (hnm : ∀ m ∈ rowName vW', m ∈ rowName vW ∨ c ≤ m) (hc : c ≤ c') (hf : ∀ m, m < c → m ∉ an a vW → m ∉ sp :: rowName vr → MapI.get h' m = MapI.get h m)
    (hcs : cs = cntV (handsO os ++ [((n + 1 : Nat) : Int)])) : EndI h0 c0 (MapI.set h' nh (.cells true true cs)) c' hp a sp nh vW' vR vb vr st (rows.set n (q.1, q.2.1, q.2.2 + 1)) (os ++ [binO n]) ps size := by
  have h1 := r.nhc
  have h2 := r.nh0
  have hown : ∀ m ∈ hmn hp a vW' vR, c0 ≤ m ∧ m ≠ nh := fun m hm => by
    rcases List.mem_append.1 hm with h | h
    · rcases List.mem_cons.1 h with h | h
      · exact r.own m (List.mem_append_left _ (by rw [h]; exact List.mem_cons_self ..))
      · rcases List.mem_cons.1 h with h | h
        · exact r.own m (List.mem_append_left _ (by rw [h]; exact List.mem_cons_of_mem _ (List.mem_cons_self ..)))
        · rcases hnm m h with h | h
          · exact r.own m (List.mem_append_left _ (List.mem_cons_of_mem _ (List.mem_cons_of_mem _ h)))
          · omega
    · exact r.own m (List.mem_append_right _ h)
  have e : handsO (os ++ [binO n]) = handsO os ++ [((n + 1 : Nat) : Int)] := by
    rw [handsO_app]
    show handsO os ++ (handO (binO n) ++ []) = _
    rw [bin_hand hn5]; rfl
  refine ⟨⟨b.hm.keep (Nat.le_refl _) fun m _ hm => MapI.get_ne _ _ _ _ (Ne.symm (hown m hm).2), b.f, b.ly, b.st.keepN (Nat.le_refl _) fun m _ hm => MapI.get_ne _ _ _ _ (Ne.symm (r.sown m hm).2), b.ap⟩, bins_more r.bins hn5, r.held.more hn5 hq, ?_, by omega, h2, hown, r.sown, fun m hm => ?_⟩
  · rw [MapI.get_same, hcs, e]
  · rw [MapI.get_ne _ _ _ _ (by omega), hf m (by omega) (fun hh => ?_) (fun hh => ?_)]
    · exact r.keep0 m hm
    · have := (r.own m (List.mem_append_left _ (List.mem_cons_of_mem _ hh))).1
      omega
    · have := (r.sown m (by
        rcases List.mem_cons.1 hh with h | h
        · rw [h]; exact List.mem_cons_self ..
        · exact List.mem_cons_of_mem _ (List.mem_append_right _ h))).1
      omega
theorem EndI.push {q : Nat} {vR' : V} (r : EndI h0 c0 h c hp a sp nh vW vR vb vr st rows os ps size) (f : BagI os (ps ++ [q])) (lv : ListOf 1 wordV h' c' vR' (ps.map ptrW ++ [ptrW q])) (hn : ∀ n ∈ rowName vR', n ∈ rowName vR ∨ c ≤ n) (hc : c ≤ c') (hf : ∀ a, a ≠ c → a ∉ rowName vR → MapI.get h' a = MapI.get h a) (hl : ps.length < 1000) :
    EndI h0 c0 h' c' hp a sp nh vW vR' vb vr st rows os (ps ++ [q]) size := by
  have h1 := r.nhc
  have h2 := r.nh0
  have hR : ∀ m ∈ rowName vR, c0 ≤ m ∧ m ≠ nh := fun m hm => r.own m (List.mem_append_right _ hm)
  refine ⟨r.b.push f lv hn hc hf hl, r.bins, r.held, ?_, by omega, h2, fun m hm => ?_, r.sown, fun m hm => ?_⟩
  · rw [hf nh (by omega) (fun hh => (hR nh hh).2 rfl)]; exact r.cnt
  · rcases List.mem_append.1 hm with h | h
    · exact r.own m (List.mem_append_left _ h)
    · rcases hn m h with h | h
      · exact hR m h
      · omega
  · rw [hf m (by omega) (fun hh => by have := (hR m hh).1; omega)]; exact r.keep0 m hm
/-- A row of words of one's own. -/
theorem row_lit {xs : List Int} {n : Nat} (hl : xs.length = n) (hg : MapI.get h c = some (.cells true true (flat wordV xs))) (hc : c < c') : RowOf 1 wordV h c' (.slice (some (c, 0)) n (.known n)) xs :=
  ⟨some (c, 0), .known n, by rw [hl], fun n hn => (by have hn : n ∈ [c] := hn; simp at hn; omega), fun _ => ⟨c, true, [], rfl, by rw [List.append_nil]; exact hg, rfl⟩⟩
theorem held_start {rows : List (Int × Int × Int)} (h5 : rows.length = 5) (h1 : ∀ (j : Nat) (q : Int × Int × Int), rows[j]? = some q → q.2.2 = 1) : Held rows rows [] := ⟨h5, h1, Moved.refl _ fun j => rfl⟩
end
end Go.Proofs.Ytcenbfjhhaialaa


set_option linter.unusedVariables false
set_option linter.unusedSectionVars false
set_option linter.unusedSimpArgs false
set_option linter.unnecessarySimpa false
namespace Go.Proofs.Ytcenbfjhhaialaa
open Go.Ab
set_option maxRecDepth 10000

set_option maxHeartbeats 4000000 in
theorem ends_law {h : HH} {c : Nat} {l k : V} {zs : List Int} {bs : List Bool} (hl : RowArg h c l 1 zs.length (zs.map (.int .u8))) (hz : ∀ z ∈ zs, 0 ≤ z ∧ z < 256) (hk : RowArg h c k 1 bs.length (flat boolV bs)) : Does 3 [l, k] h c (rowName l ++ rowName k) fun v h' c' => v = .bool true := by
  refine does_of (enter (fn := Try.f3) Try.func3 rfl rfl (Nat.le_of_ble_eq_true rfl) ?_)
  repeat' (first | refine WpC.seq ?_ | refine WpC.region ?_ | refine WpO.nil ?_ | refine WpO.cons rfl rfl (WpX.pure (fun _ => rfl) ⟨nolog, ?_⟩))
  refine WpO.cons rfl rfl (call_at rfl (shut_ok rfl) (by simp) (Nat.le_refl _) fun v h1 c1 hc1 hfr1 hq => ?_)
  obtain ⟨rfl, rfl, rfl⟩ := hq
  repeat' (first | refine WpO.nil ?_ | refine WpO.cons rfl rfl (WpX.pure (fun _ => rfl) ⟨nolog, ?_⟩) | refine seqQ_normal ?_)
  refine WpC.cond rfl (fun hb => by cases hb) (fun _ => ?_)
  obtain ⟨s, cap, rfl, hs⟩ : ∃ a cap, l = .slice a zs.length cap ∧ (∀ i, i < zs.length → ∃ s, a = some (s, 0) ∧ s < c1 ∧ MapI.get h1 s = some (.cells false false (zs.map (.int .u8)))) := by
    rcases hl.is with ⟨rfl, hz⟩ | ⟨s, cap, rfl, h1, _, _, h2⟩
    · exact ⟨none, .known 0, by rw [hz], fun i hi => by omega⟩
    · exact ⟨_, .known cap, rfl, fun i hi => ⟨s, rfl, h1, h2 (by omega)⟩⟩
  obtain ⟨t, capt, rfl, ht⟩ : ∃ a cap, k = .slice a bs.length cap ∧ (∀ i, i < bs.length → ∃ s, a = some (s, 0) ∧ s < c1 ∧ MapI.get h1 s = some (.cells false false (flat boolV bs))) := by
    rcases hk.is with ⟨rfl, hz⟩ | ⟨s, cap, rfl, h1, _, _, h2⟩
    · exact ⟨none, .known 0, by rw [hz], fun i hi => by omega⟩
    · exact ⟨_, .known cap, rfl, fun i hi => ⟨s, rfl, h1, h2 (by omega)⟩⟩
  by_cases hlen : zs.length ≤ 60
  case neg =>
    have e1 : decide ((zs.length : Int) > 60) = true := by simp; omega
    repeat' (first | refine WpC.seq ?_ | refine WpC.region ?_ | refine WpC.skip ?_ | refine WpO.cons rfl rfl (WpX.pure (fun _ => rfl) ⟨nolog, ?_⟩))
    simp only [e1]
    repeat' (first | refine WpO.nil ?_ | refine WpO.cons rfl rfl (WpX.pure (fun _ => rfl) ⟨nolog, ?_⟩) | refine WpO.skip rfl rfl ?_ | refine seqQ_normal ?_)
    refine WpC.cond rfl (fun _ => ?_) (fun hb => by cases hb)
    repeat' (first | refine WpC.seq ?_ | refine WpC.region ?_ | refine WpC.ret ?_ | refine WpO.nil ?_ | refine WpO.cons rfl rfl (WpX.pure (fun _ => rfl) ⟨nolog, ?_⟩) | refine seqQ_ret ?_)
    exact out_ret rfl rfl
  have e1 : decide ((zs.length : Int) > 60) = false := by simp; omega
  repeat' (first | refine WpC.seq ?_ | refine WpC.region ?_ | refine WpC.skip ?_ | refine WpO.cons rfl rfl (WpX.pure (fun _ => rfl) ⟨nolog, ?_⟩))
  simp only [e1]
  repeat' (first | refine WpO.nil ?_ | refine WpO.cons rfl rfl (WpX.pure (fun _ => rfl) ⟨nolog, ?_⟩) | refine seqQ_normal ?_)
  refine WpC.cond rfl (fun _ => ?_) (fun _ => ?_)
  ·
    repeat' (first | refine WpC.seq ?_ | refine WpC.region ?_ | refine WpC.ret ?_ | refine WpO.nil ?_ | refine WpO.cons rfl rfl (WpX.pure (fun _ => rfl) ⟨nolog, ?_⟩) | refine seqQ_ret ?_)
    exact out_ret rfl rfl
  repeat' (first | refine WpC.seq ?_ | refine WpC.region ?_ | refine WpC.skip ?_)
  refine WpO.cons rfl rfl (call_at rfl (snew_ok (most := 50) (by decide) (by decide)) (by simp) (Nat.le_refl _) fun v h2 c2 hc2 hfr2 hq => ?_)
  obtain ⟨rfl, rfl, hst⟩ := hq
  repeat' (first | refine WpC.seq ?_ | refine WpC.region ?_ | refine WpO.nil ?_ | refine WpO.cons rfl rfl (WpX.pure (fun _ => rfl) ⟨nolog, ?_⟩))
  refine WpO.cons rfl rfl (call_at rfl (hnew_ok (most := 400) (by decide)) (by simp) (by omega) fun v h3 c3 hc3 hfr3 hq => ?_)
  obtain ⟨rfl, a, hH, ha, hf3⟩ := hq
  have hst3 := hst.keep hc3 hf3
  have hfr3' : ∀ n, n < c1 → MapI.get h3 n = MapI.get h1 n := fun n hn => by rw [hf3 n (by omega), hfr2 n hn (by simp)]
  have hac3 : a < c3 := hH.names a (by simp)
  rw [show min (32 : Int) 400 = 32 from by decide] at hH
  repeat' (first | refine WpC.seq ?_ | refine WpC.region ?_ | refine WpO.nil ?_ | refine WpO.cons rfl rfl (WpX.pure (fun _ => rfl) ⟨nolog, ?_⟩) | refine seqQ_normal ?_)
  refine WpC.cond rfl (fun hb => by cases hb) (fun _ => ?_)
  have hhp : c1 < c1 + 1 := Nat.lt_succ_self _
  generalize c1 + 1 = hp at *
  have hlh3 := hH.lh
  repeat' (first | refine WpC.seqI (a := Code.seq (Code.region 9 _ _) _) (fun e' h' c' => (∃ b0, e' = FR b0 [(0, .slice s zs.length cap), (1, .slice t bs.length capt), (5, V.ptr (some (c1, 0))), (6, V.ptr (some (hp, 0)))]) ∧ c3 ≤ c' ∧ ∃ vb vr st, StoreAt h' c' c1 vb vr st ∧ Good st ∧ st.live = 10 ∧ Held st.rows st.rows [] ∧ (∀ n ∈ rowName vb ++ rowName vr, c3 ≤ n) ∧ HeapAt h' c' hp a c1 (.slice none 0 (.known 0)) [] 32 400 ∧ ∀ n, n < c1 → MapI.get h' n = MapI.get h1 n) ?_ ?_ | refine WpC.seq ?_ | refine WpC.region ?_ | refine WpC.skip ?_ | refine WpC.block ?_ | refine WpO.nil ?_ | refine WpO.cons rfl rfl (WpX.pure (fun _ => rfl) ⟨nolog, ?_⟩))
  ·
    skip
    refine WpC.loop ?_
    refine WpLoop.ind (X := Nat × V × V × St) (fun y e' h' c' => (∃ b0, e' = FR b0 [(0, .slice s zs.length cap), (1, .slice t bs.length capt), (5, V.ptr (some (c1, 0))), (6, V.ptr (some (hp, 0))), (7, I y.1)]) ∧ y.1 ≤ 5 ∧ c3 ≤ c' ∧ StoreAt h' c' c1 y.2.1 y.2.2.1 y.2.2.2 ∧ Good y.2.2.2 ∧ y.2.2.2.live = 2 * (y.1 : Int) ∧ y.2.2.2.most = 50 ∧ y.2.2.2.rows.length = y.1 ∧ (∀ j, j < y.1 → ∃ ys, Holds y.2.2.2 j ys 1) ∧ (∀ n ∈ rowName y.2.1 ++ rowName y.2.2.1, c3 ≤ n) ∧ HeapAt h' c' hp a c1 (.slice none 0 (.known 0)) [] 32 400 ∧ ∀ n, n < c1 → MapI.get h' n = MapI.get h1 n)
      (fun y => 5 - y.1) ?_ (0, .slice none 0 (.known 0), .slice none 0 (.known 0), ⟨[], 50, [], 0⟩) _ _ _ ⟨fr ⟨rfl, rfl, rfl, rfl, rfl, trivial⟩, Nat.zero_le _, Nat.le_refl _, hst3, good_new (by decide) (by decide), rfl, rfl, rfl, fun j hj => by omega, fun n hn => (by cases hn), hH, hfr3'⟩
    rintro ⟨i, vb, vr, st⟩ e' h' c' ⟨⟨b0, rfl⟩, hi, hc', rs, hg, hlv, hmo, hrl, hho, hown, rh, hfv⟩
    simp only at hi rs hg hlv hmo hrl hho hown
    repeat' (first | refine WpC.seq ?_ | refine WpC.region ?_ | refine WpO.nil ?_ | refine WpO.cons rfl rfl (WpX.pure (fun _ => rfl) ⟨nolog, ?_⟩) | refine seqQ_normal ?_)
    refine WpC.cond rfl (fun hlt => ?_) (fun hge => ?_)
    case refine_2 =>
      have hi5 : i = 5 := by have : 5 ≤ (i : Int) := by simpa using hge
                             omega
      subst hi5
      repeat' (first | refine WpC.exit ?_ | refine seqQ_normal ?_ | refine seqQ_exit ?_ | refine blkQ_out rfl ?_)
      refine ⟨fr ?_, hc', vb, vr, st, rs, hg, by omega, held_start hrl fun j q hq => ?_, hown, rh, hfv⟩
      · exact ⟨rfl, rfl, rfl, rfl, trivial⟩
      · have hj := (List.getElem?_eq_some_iff.1 hq).1
        obtain ⟨ys, _, x, hx, _⟩ := hho j (by omega)
        rw [hq] at hx
        cases hx
        rfl
    have hlt' : i < 5 := by have : (i : Int) < 5 := by simpa using hlt
                            omega
    have hw3 : IntKind.i64.wrap ((i : Int) + 1) = ((i + 1 : Nat) : Int) := by rw [Go.IntWalk.i64_in _ (by omega)]; omega
    have hnm := rs.names
    repeat' (first | refine WpC.seq ?_ | refine WpC.region ?_ | refine WpC.skip ?_ | refine WpC.block ?_ | refine WpO.cons rfl rfl (WpX.pure (fun _ => rfl) ⟨nolog, ?_⟩) | refine WpO.cons rfl rfl (op_buildSlice (k := 1) rfl rfl rfl rfl (by decide) rfl ⟨(by simp [InL, Acc.name, rowName] <;> omega), ?_⟩))
    have rs1 : ∀ o, StoreAt (MapI.set h' c' o) (c' + 1) c1 vb vr st := fun o => rs.keep (by omega) fun n hn => MapI.get_ne _ _ _ _ (by omega)
    have rh1 : ∀ o, HeapAt (MapI.set h' c' o) (c' + 1) hp a c1 (.slice none 0 (.known 0)) [] 32 400 := fun o => rh.same (by omega) fun n hn => MapI.get_ne _ _ _ _ (by omega)
    have hcn : c' ∉ c1 :: (rowName vb ++ rowName vr) := fun hh => by have := hnm c' hh; omega
    have hsub : ∀ n ∈ c' :: c1 :: (rowName vb ++ rowName vr), n ∈ rowName (V.slice s zs.length cap) ++ rowName (V.slice t bs.length capt) ∨ c1 ≤ n := fun n hn => .inr (by
      rcases List.mem_cons.1 hn with h | h
      · omega
      · rcases List.mem_cons.1 h with h | h
        · omega
        · have := hown n h; omega)
    refine WpO.cons rfl rfl (call_at rfl (grant_good (n := 2) (o := 0) (ys := [IntKind.u8.wrap (i : Int), 1]) (rs1 _) hg (by decide) (by decide) rfl (MapI.get_same _ _ _) rfl (by omega) (by omega) (Nat.lt_succ_self _) hcn) hsub (by omega) fun v4 h4 c4 hc4 hf4 hq => ?_)
    obtain ⟨_, i', vb', vr', st', rfl, rs', hnm', hg', hlv', hmo', hrl', hz0, hh', hkeep, _⟩ := hq
    have hi' : i' = i := by
      have h1 : i' < st'.rows.length := by
        obtain ⟨_, x, hx, _⟩ := hh'
        exact (List.getElem?_eq_some_iff.1 hx).1
      by_cases hlt2 : i' < i
      · obtain ⟨ys, _, x, hx, _⟩ := hho i' hlt2
        have := hz0 _ _ _ hx
        omega
      · omega
    subst hi'
    have hrl2 : st'.rows.length = i' + 1 := by
      obtain ⟨_, x, hx, _⟩ := hh'
      have := (List.getElem?_eq_some_iff.1 hx).1
      omega
    repeat' (first | refine WpC.region ?_ | refine WpO.nil ?_ | refine WpO.cons rfl rfl (WpX.pure (fun _ => rfl) ⟨nolog, ?_⟩) | refine seqQ_normal ?_)
    refine ⟨(i' + 1, vb', vr', st'), by simp only; omega, ?_, by simp only; omega, by omega, rs', hg', by simp only; omega, by simp only; omega, hrl2, fun j hj => ?_, fun n hn => ?_, (rh1 _).keep hc4 fun n hn hm => hf4 n hn fun hh => ?_, fun n hn => ?_⟩
    · rw [hw3]
      exact fr ⟨rfl, rfl, rfl, rfl, rfl, trivial⟩
    · simp only at hj
      by_cases e : j = i'
      · subst e; exact ⟨_, hh'⟩
      · obtain ⟨ys, hy⟩ := hho j (by omega)
        exact ⟨ys, hkeep _ _ _ hy⟩
    · rcases hnm' n hn with h | h
      · exact hown n h
      · omega
    · have hm : n ∈ [hp, a] := hm
      simp only [List.mem_cons, List.not_mem_nil, or_false] at hm
      have hc3' : n < c3 := by omega
      rcases List.mem_cons.1 hh with h | h
      · omega
      · rcases List.mem_cons.1 h with h | h
        · omega
        · have := hown n h; omega
    · rw [hf4 n (by omega) (fun hh => by
        rcases List.mem_cons.1 hh with h | h
        · omega
        · rcases List.mem_cons.1 h with h | h
          · omega
          · have := hown n h; omega), MapI.get_ne _ _ _ _ (by omega)]
      exact hfv n hn
  rintro e' h' nh ⟨⟨b0, rfl⟩, hc', vb, vr, st, rs, hg, hlv, hd0, hown, rh, hfv⟩
  have hsn : ∀ n ∈ c1 :: (rowName vb ++ rowName vr), c1 ≤ n ∧ n ≠ nh := fun n hn => by
    have := rs.names n hn
    rcases List.mem_cons.1 hn with h | h
    · omega
    · have := hown n h; omega
  have rE : EndI h1 c1 (MapI.set h' nh (.cells true true [I 1, I 1, I 1, I 1, I 1])) (nh + 1) hp a c1 nh (.slice none 0 (.known 0)) (.slice none 0 (.known 0)) vb vr st st.rows [] [] 32 := by
    have hk : ∀ n, n < nh → MapI.get (MapI.set h' nh (.cells true true [I 1, I 1, I 1, I 1, I 1])) n = MapI.get h' n := fun n hn => MapI.get_ne _ _ _ _ (by omega)
    have hpa : ∀ n ∈ hmn hp a (.slice none 0 (.known 0)) (.slice none 0 (.known 0)), c1 ≤ n ∧ n < c3 ∧ n ≠ c1 := fun n hn => by
      have hn : n ∈ [hp, a] := hn
      simp only [List.mem_cons, List.not_mem_nil, or_false] at hn
      omega
    refine ⟨⟨⟨rh.same (by omega) hk, .nil fun n hn => (by cases hn), fun n hn => (by cases hn), fun w hw => (by cases hw), Nat.zero_le _⟩, BagI.start, .inl ⟨rfl, rfl⟩, rs.keep (by omega) hk, fun n hn hm => ?_⟩, fun o ho => (by cases ho), hd0, MapI.get_same _ _ _, by omega, by omega, fun n hn => by have := hpa n hn; omega, hsn, fun n hn => by rw [hk n (by omega)]; exact hfv n hn⟩
    have h1 := hpa n hm
    rcases List.mem_cons.1 hn with h | h
    · omega
    · have := hown n h; omega
  clear hfv rs rh hst3 hst hH hfr3'
  repeat' (first | refine WpC.seqI (a := Code.seq (Code.region 15 _ _) _) (fun e' h' c' => ∃ vR vW rows os ps, (∃ b0, e' = FR b0 [(5, V.ptr (some (c1, 0))), (6, V.ptr (some (hp, 0))), (8, .slice (some (nh, 0)) 5 (.known 5)), (9, vR)]) ∧ EndI h1 c1 h' c' hp a c1 nh vW vR vb vr st rows os ps 32 ∧ os.length ≤ 60 ∧ ps.length ≤ 60) ?_ ?_ | refine WpC.seq ?_ | refine WpC.region ?_ | refine WpC.block ?_ | refine WpO.nil ?_ | refine WpO.cons rfl rfl (WpX.pure (fun _ => rfl) ⟨nolog, ?_⟩) | refine WpO.cons rfl rfl (op_buildSlice (k := 1) rfl rfl rfl rfl (by decide) rfl ⟨(by simp [InL, Acc.name, rowName] <;> omega), ?_⟩))
  ·
    skip
    refine WpC.loop ?_
    refine WpLoop.ind (X := Nat × V × V × List (Int × Int × Int) × List Ob × List Nat) (fun y e' h' c' => (∃ b0, e' = FR b0 [(0, .slice s zs.length cap), (1, .slice t bs.length capt), (5, V.ptr (some (c1, 0))), (6, V.ptr (some (hp, 0))), (8, .slice (some (nh, 0)) 5 (.known 5)), (9, y.2.1), (10, I y.1)]) ∧ y.1 ≤ zs.length ∧ nh + 1 ≤ c' ∧ EndI h1 c1 h' c' hp a c1 nh y.2.2.1 y.2.1 vb vr st y.2.2.2.1 y.2.2.2.2.1 y.2.2.2.2.2 32 ∧ y.2.2.2.2.1.length ≤ y.1 ∧ y.2.2.2.2.2.length ≤ y.1)
      (fun y => zs.length - y.1) ?_ (0, .slice none 0 (.known 0), .slice none 0 (.known 0), st.rows, [], []) _ _ _ ⟨fr ⟨rfl, rfl, rfl, rfl, rfl, rfl, rfl, trivial⟩, Nat.zero_le _, Nat.le_refl _, rE, Nat.zero_le _, Nat.zero_le _⟩
    rintro ⟨i, vR, vW, rows, os, ps⟩ e' h' c' ⟨⟨b0, rfl⟩, hi, hc', rr, hol, hpl⟩
    simp only at hi rr hol hpl
    repeat' (first | refine WpC.seq ?_ | refine WpC.region ?_ | refine WpO.nil ?_ | refine WpO.cons rfl rfl (WpX.pure (fun _ => rfl) ⟨nolog, ?_⟩) | refine seqQ_normal ?_)
    refine WpC.cond rfl (fun hlt => ?_) (fun hge => ?_)
    case refine_2 =>
      repeat' (first | refine WpC.exit ?_ | refine seqQ_normal ?_ | refine seqQ_exit ?_ | refine blkQ_out rfl ?_)
      refine ⟨vR, vW, rows, os, ps, fr ?_, rr, by omega, by omega⟩
      exact ⟨rfl, rfl, rfl, rfl, trivial⟩
    have hlt' : i < zs.length := by simpa using hlt
    obtain ⟨z, hzi⟩ : ∃ z, zs[i]? = some z := ⟨_, List.getElem?_eq_getElem hlt'⟩
    obtain ⟨sn, rfl, hsn', hgz⟩ := hs i hlt'
    have hg' : MapI.get h' sn = _ := (rr.keep0 sn hsn').trans hgz
    have hzz := hz z (List.mem_of_getElem? hzi)
    obtain ⟨z, rfl⟩ : ∃ k : Nat, z = k := ⟨z.toNat, by omega⟩
    have hnz : nth (zs.map (V.int .u8)) (0 + ((i : Nat) : Int).toNat * 1) = some (.int .u8 (z : Int)) := by
      rw [show 0 + ((i : Nat) : Int).toNat * 1 = i from by simp, nth_eq, List.getElem?_map, hzi]; rfl
    have eK : (IntKind.i64.wrap (z : Int)).tmod 5 = ((z % 5 : Nat) : Int) := by
      rw [Go.IntWalk.i64_in (z : Int) (by omega), Int.tmod_eq_emod_of_nonneg (by omega)]; omega
    have hw3 : IntKind.i64.wrap ((i : Int) + 1) = ((i + 1 : Nat) : Int) := by rw [Go.IntWalk.i64_in _ (by omega)]; omega
    repeat' (first | refine WpC.seq ?_ | refine WpC.region ?_ | refine WpC.skip ?_ | refine WpC.block ?_ | refine WpO.nil ?_ | refine WpO.cons rfl rfl (WpX.pure (fun _ => rfl) ⟨nolog, ?_⟩) | refine WpO.cons rfl rfl (op_indexAddr (k := 1) rfl rfl rfl rfl ⟨by omega, by omega⟩ ⟨(by simp [InL, Acc.name, rowName] <;> omega), ?_⟩) | refine WpO.cons rfl rfl (op_load rfl rfl rfl hg' hnz ⟨(by simp [InL, Acc.name, rowName] <;> omega), ?_⟩) | refine WpO.cons rfl rfl (op_buildSlice (k := 1) rfl rfl rfl rfl (by decide) rfl ⟨(by simp [InL, Acc.name, rowName] <;> omega), ?_⟩))
    rw [eK]
    have hk5 : z % 5 < 5 := Nat.mod_lt _ (by omega)
    generalize z % 5 = n at hk5
    have hw1 : IntKind.u64.wrap (IntKind.i64.wrap (1 + (n : Int))) = ((n + 1 : Nat) : Int) := by
      rw [Go.IntWalk.i64_in (1 + (n : Int)) (by omega), Go.IntWalk.u64_in _ (by omega)]; omega
    rw [hw1]
    obtain ⟨q, hqn, hqc⟩ := rr.held.row hk5
    have hml := many_le (handsO os) n
    have hm0 := many_nonneg (handsO os) n
    have hhl := (bins_hands rr.bins).1
    have hbl := (bins_hands rr.bins).2.1
    have hrl : rows.length = 5 := by rw [rr.held.moved.1, rr.held.five]
    have hnmH := rr.b.hm.names
    have hnmS := rr.b.snames
    have rr1 : ∀ o, EndI h1 c1 (MapI.set h' c' o) (c' + 1) hp a c1 nh vW vR vb vr st rows os ps 32 := fun o => rr.same (by omega) fun n hn => MapI.get_ne _ _ _ _ (by omega)
    have hnhc := rr.nhc
    have hnh0 := rr.nh0
    have hsub : ∀ m ∈ hn hp a vW ++ rowName (V.slice (some (c', 0)) 3 (.known 3)) ++ c1 :: (rowName vb ++ rowName vr), m ∈ rowName (V.slice (some (sn, 0)) zs.length cap) ++ rowName (V.slice t bs.length capt) ∨ c1 ≤ m := fun m hm => .inr (by
      rcases List.mem_append.1 hm with h | h
      · rcases List.mem_append.1 h with h | h
        · exact (rr.own m (List.mem_append_left _ h)).1
        · have h : m ∈ [c'] := h; simp at h; omega
      · exact (rr.sown m h).1)
    by_cases hfit : ((bagW os).length : Int) + 4 ≤ 32
    case neg =>
      refine WpO.cons rfl rfl (call_at rfl (hmake_bin_no (n := 3) (t := 1) (bi := n) (rr1 _).b.hm.hm (rr1 _).b.st (by simp only; omega) hqn (by omega) (row_lit (xs := [((n + 1 : Nat) : Int), 0, 2]) rfl (MapI.get_same _ _ _) (Nat.lt_succ_self _)) rfl rfl bin_okH (by omega)) hsub (by omega) fun v5 h5 c5 hc5 _ hq => ?_)
      obtain ⟨rfl, hf5⟩ := hq
      repeat' (first | refine WpC.seq ?_ | refine WpC.region ?_ | refine WpO.nil ?_ | refine WpO.cons rfl rfl (WpX.pure (fun _ => rfl) ⟨nolog, ?_⟩) | refine seqQ_normal ?_)
      refine WpC.cond rfl (fun _ => ?_) (fun hb => by cases hb)
      repeat' (first | refine WpC.exit ?_ | refine seqQ_normal ?_ | refine seqQ_exit ?_ | refine blkQ_out rfl ?_ | refine blkQ_by rfl ?_)
      refine ⟨vR, vW, rows, os, ps, fr ?_, (rr1 _).same (by omega) hf5, by omega, by omega⟩
      exact ⟨rfl, rfl, rfl, rfl, trivial⟩
    refine WpO.cons rfl rfl (call_at rfl (make_bag (n := n) (rr1 _).b hk5 (by simp only; omega) hqn (by omega) (row_lit (xs := [((n + 1 : Nat) : Int), 0, 2]) rfl (MapI.get_same _ _ _) (Nat.lt_succ_self _)) (fun m hm hh => ?_) (fun m hm hh => ?_) hfit) hsub (by omega) fun v5 h5 c5 hc5 _ hq => ?_)
    · have hm : m ∈ [c'] := hm
      simp at hm
      have := hnmH m (List.mem_append_left _ hh); omega
    · have hh : m ∈ [c'] := hh
      simp at hh
      have := hnmS m hm; omega
    obtain ⟨rfl, vW5, b5, f5, hn5, hk5'⟩ := hq
    have hcn : MapI.get h5 nh = some (.cells true true (cntV (handsO os))) := by
      rw [hk5' nh (by omega) (fun hh => (rr.own nh (List.mem_append_left _ (List.mem_cons_of_mem _ hh))).2 rfl) (fun hh => (rr.sown nh (by
        rcases List.mem_cons.1 hh with h | h
        · rw [h]; exact List.mem_cons_self ..
        · exact List.mem_cons_of_mem _ (List.mem_append_right _ h))).2 rfl)]
      exact (rr1 _).cnt
    have hwc : IntKind.i64.wrap (1 + many (handsO os) n + 1) = 1 + many (handsO os) n + 1 := Go.IntWalk.i64_in _ (by omega)
    have hset : setAll (cntV (handsO os)) (0 + ((n : Nat) : Int).toNat * 1) (cellsV (I (IntKind.i64.wrap (1 + many (handsO os) n + 1)))) = cntV (handsO os ++ [((n + 1 : Nat) : Int)]) := cnt_set hk5 hwc
    have hbound : 0 + ((n : Nat) : Int).toNat * 1 + 1 ≤ (cntV (handsO os)).length := by
      show _ ≤ 5
      omega
    repeat' (first | refine WpC.seq ?_ | refine WpC.region ?_ | refine WpO.nil ?_ | refine WpO.cons rfl rfl (WpX.pure (fun _ => rfl) ⟨nolog, ?_⟩) | refine seqQ_normal ?_)
    refine WpC.cond rfl (fun hb => by cases hb) (fun _ => ?_)
    repeat' (first | refine WpC.seq ?_ | refine WpC.region ?_ | refine WpC.skip ?_ | refine WpO.nil ?_ | refine WpO.cons rfl rfl (WpX.pure (fun _ => rfl) ⟨nolog, ?_⟩) | refine WpO.cons rfl rfl (op_indexAddr (k := 1) rfl rfl rfl rfl ⟨by omega, by omega⟩ ⟨(by simp [InL, Acc.name, rowName] <;> omega), ?_⟩) | refine WpO.cons rfl rfl (op_load rfl rfl rfl hcn (cnt_get hk5) ⟨(by simp [InL, Acc.name, rowName] <;> omega), ?_⟩) | refine WpO.cons rfl rfl (op_store (k := 1) rfl rfl rfl rfl hcn hbound rfl ⟨(by simp [InL, Acc.name, rowName] <;> omega), ?_⟩))
    have r6 : EndI h1 c1 (MapI.set h5 nh (.cells true true (setAll (cntV (handsO os)) (0 + ((n : Nat) : Int).toNat * 1) (cellsV (I (IntKind.i64.wrap (1 + many (handsO os) n + 1))))))) c5 hp a c1 nh vW5 vR vb vr st _ _ ps 32 := (rr1 _).made hk5 hqn b5 hn5 hc5 hk5' hset
    generalize hH6 : MapI.set h5 nh _ = h6 at r6
    have hol6 : (os ++ [binO n]).length = os.length + 1 := by simp
    by_cases hib : i < bs.length
    case neg =>
      have e2 : decide ((i : Int) < (bs.length : Int)) = false := by simp; omega
      simp only [e2]
      repeat' (first | refine WpO.nil ?_ | refine WpO.cons rfl rfl (WpX.pure (fun _ => rfl) ⟨nolog, ?_⟩) | refine WpO.skip rfl rfl ?_ | refine seqQ_normal ?_)
      refine WpC.cond rfl (fun hb => by cases hb) (fun _ => ?_)
      repeat' (first | refine WpC.region ?_ | refine WpC.skip ?_ | refine WpO.nil ?_ | refine WpO.cons rfl rfl (WpX.pure (fun _ => rfl) ⟨nolog, ?_⟩) | refine seqQ_normal ?_)
      refine ⟨(i + 1, vR, vW5, _, _, ps), by simp only; omega, ?_, by simp only; omega, by omega, r6, by simp only [hol6]; omega, by simp only; omega⟩
      rw [hw3]
      exact fr ⟨rfl, rfl, rfl, rfl, rfl, rfl, rfl, trivial⟩
    have e2 : decide ((i : Int) < (bs.length : Int)) = true := by simp; omega
    obtain ⟨y, hyi⟩ : ∃ z, bs[i]? = some z := ⟨_, List.getElem?_eq_getElem hib⟩
    obtain ⟨tn, rfl, htn, hgt⟩ := ht i hib
    have hgt' : MapI.get h6 tn = _ := (r6.keep0 tn htn).trans hgt
    have hny : nth (flat boolV bs) (0 + ((i : Nat) : Int).toNat * 1) = some (.bool y) := by
      rw [show 0 + ((i : Nat) : Int).toNat * 1 = i from by simp]
      have := nth_flat0 (cells := boolV) bool_len hyi rfl []
      rwa [List.append_nil] at this
    simp only [e2]
    repeat' (first | refine WpO.nil ?_ | refine WpO.cons rfl rfl (WpX.pure (fun _ => rfl) ⟨nolog, ?_⟩) | refine seqQ_normal ?_ | refine WpO.cons rfl rfl (op_indexAddr (k := 1) rfl rfl rfl rfl ⟨by omega, by omega⟩ ⟨(by simp [InL, Acc.name, rowName] <;> omega), ?_⟩) | refine WpO.cons rfl rfl (op_load rfl rfl rfl hgt' hny ⟨(by simp [InL, Acc.name, rowName] <;> omega), ?_⟩))
    refine WpC.cond rfl (fun hb => ?_) (fun hb => ?_)
    case refine_2 =>
      repeat' (first | refine WpC.region ?_ | refine WpC.skip ?_ | refine WpO.nil ?_ | refine WpO.cons rfl rfl (WpX.pure (fun _ => rfl) ⟨nolog, ?_⟩) | refine seqQ_normal ?_)
      refine ⟨(i + 1, vR, vW5, _, _, ps), by simp only; omega, ?_, by simp only; omega, by omega, r6, by simp only [hol6]; omega, by simp only; omega⟩
      rw [hw3]
      exact fr ⟨rfl, rfl, rfl, rfl, rfl, rfl, rfl, trivial⟩
    repeat' (first | refine WpC.region ?_ | refine WpO.cons rfl rfl (WpX.pure (fun _ => rfl) ⟨nolog, ?_⟩) | refine WpO.cons rfl rfl (op_buildSlice (k := 1) rfl rfl rfl rfl (by decide) rfl ⟨(by simp [InL, Acc.name, rowName] <;> omega), ?_⟩))
    have r7 : ∀ o, EndI h1 c1 (MapI.set h6 c5 o) (c5 + 1) hp a c1 nh vW5 vR vb vr st _ _ ps 32 := fun o => r6.same (by omega) fun n hn => MapI.get_ne _ _ _ _ (by omega)
    have hlyR : ListOf (0 + 1) wordV (MapI.set h6 c5 (.cells true true [U (ptrW (bagW os).length)])) (c5 + 1) vR (ps.map ptrW) := (r7 _).b.hm.rr.list r6.b.ly
    refine WpO.cons rfl rfl (append1 (cells := wordV) (y := ptrW (bagW os).length) rfl rfl ⟨rfl, rfl, rfl, ⟨_, rfl, by decide⟩⟩ rfl word_len word_all hlyR (MapI.get_same _ _ _) (by rw [List.length_map]; omega) (by omega) (fun n h => .inr (rr.own n (List.mem_append_right _ h)).1) (by omega) fun v8 h8 c8 rv8 hn8 hc8 hf8 => ?_)
    have r8 := (r7 _).push f5 rv8 hn8 hc8 hf8 (by omega)
    repeat' (first | refine WpC.region ?_ | refine WpO.nil ?_ | refine WpO.cons rfl rfl (WpX.pure (fun _ => rfl) ⟨nolog, ?_⟩) | refine seqQ_normal ?_)
    refine ⟨(i + 1, v8, vW5, _, _, ps ++ [(bagW os).length]), by simp only; omega, ?_, by simp only; omega, by omega, r8, by simp only [hol6]; omega, by simp only [List.length_append, List.length_singleton]; omega⟩
    rw [hw3]
    exact fr ⟨rfl, rfl, rfl, rfl, rfl, rfl, rfl, trivial⟩
  rintro e' h' c' ⟨vR, vW, rows, os, ps, ⟨b0, rfl⟩, rr, hol, hpl⟩
  obtain ⟨sR, capR, hvR, _⟩ := rr.b.hm.rr.shape
  rw [List.length_map] at hvR
  subst hvR
  have hnmS := rr.b.snames
  have hsubS : ∀ n ∈ c1 :: rowName vr, n ∈ rowName (V.slice s zs.length cap) ++ rowName (V.slice t bs.length capt) ∨ c1 ≤ n := fun n hn => .inr (rr.sown n (by
    rcases List.mem_cons.1 hn with h | h
    · rw [h]; exact List.mem_cons_self ..
    · exact List.mem_cons_of_mem _ (List.mem_append_right _ h))).1
  have hnhS : nh ∉ c1 :: rowName vr := fun hh => (rr.sown nh (by
    rcases List.mem_cons.1 hh with h | h
    · rw [h]; exact List.mem_cons_self ..
    · exact List.mem_cons_of_mem _ (List.mem_append_right _ h))).2 rfl
  have hnhc := rr.nhc
  have hcn := rr.cnt
  have hc0 : c1 ≤ c' := by have := rr.nh0; omega
  repeat' (first | refine WpC.seqI (a := Code.seq (Code.region 24 _ _) _) (fun e2 h2 c2 => (∃ b0, e2 = FR b0 [(5, V.ptr (some (c1, 0))), (6, V.ptr (some (hp, 0))), (9, V.slice sR ps.length capR)]) ∧ h' = h2 ∧ c' = c2) ?_ ?_ | refine WpC.seq ?_ | refine WpC.region ?_ | refine WpC.block ?_ | refine WpO.nil ?_ | refine WpO.cons rfl rfl (WpX.pure (fun _ => rfl) ⟨nolog, ?_⟩))
  ·
    skip
    refine WpC.loop ?_
    refine WpLoop.ind (X := Nat) (fun i e2 h2 c2 => (∃ b0, e2 = FR b0 [(5, V.ptr (some (c1, 0))), (6, V.ptr (some (hp, 0))), (8, .slice (some (nh, 0)) 5 (.known 5)), (9, V.slice sR ps.length capR), (14, I i)]) ∧ i ≤ 5 ∧ h' = h2 ∧ c' = c2)
      (fun i => 5 - i) ?_ 0 _ _ _ ⟨fr ⟨rfl, rfl, rfl, rfl, rfl, trivial⟩, Nat.zero_le _, rfl, rfl⟩
    rintro i e2 h2 c2 ⟨⟨b0, rfl⟩, hi, rfl, rfl⟩
    repeat' (first | refine WpC.seq ?_ | refine WpC.region ?_ | refine WpO.nil ?_ | refine WpO.cons rfl rfl (WpX.pure (fun _ => rfl) ⟨nolog, ?_⟩) | refine seqQ_normal ?_)
    refine WpC.cond rfl (fun hlt => ?_) (fun hge => ?_)
    case refine_2 =>
      repeat' (first | refine WpC.exit ?_ | refine seqQ_normal ?_ | refine seqQ_exit ?_ | refine blkQ_out rfl ?_)
      refine ⟨fr ?_, rfl, rfl⟩
      exact ⟨rfl, rfl, rfl, trivial⟩
    have hlt' : i < 5 := by have : (i : Int) < 5 := by simpa using hlt
                            omega
    have hw3 : IntKind.i64.wrap ((i : Int) + 1) = ((i + 1 : Nat) : Int) := by rw [Go.IntWalk.i64_in _ (by omega)]; omega
    have hw4 : IntKind.i64.wrap (1 + (i : Int)) = (i : Int) + 1 := by rw [Go.IntWalk.i64_in _ (by omega)]; omega
    repeat' (first | refine WpC.seq ?_ | refine WpC.drawn ?_ | refine WpC.skip ?_ | refine WpC.block ?_ | refine WpL.cons rfl rfl (WpX.pure (fun _ => rfl) ⟨nolog, ?_⟩))
    refine WpL.cons rfl rfl (call_atL rfl (count_held rr.b.st rr.held hlt' hw4) hsubS hc0 fun v4 h4 c4' al4 hal4 hc4' hf4 hq => ?_)
    obtain ⟨rfl, rfl, rfl⟩ := hq
    have hal4' : ∀ x ∈ al4, nh = x.name → x.writes = false := fun x hx e => by
      rcases hal4 x hx with h | h
      · exact absurd (by rw [e]; exact h) hnhS
      · omega
    repeat' (first | refine WpL.cons rfl rfl (WpX.pure (fun _ => rfl) ⟨nolog, ?_⟩) | refine WpL.cons rfl rfl (op_indexAddr (k := 1) rfl rfl rfl rfl ⟨by omega, by omega⟩ ⟨(by simp [InL, Acc.name, rowName] <;> omega), ?_⟩) | refine WpL.cons rfl rfl (op_load rfl rfl rfl hcn (cnt_get hlt') ⟨(by simp [InL, Acc.name, rowName] <;> omega), ?_⟩))
    refine WpL.nil (logsOk_of (cs := [0, 0, 2, 7, 0, 0, 48, 112, 255]) (by decide +kernel) ?_) ?_
    · simp +contextual [allP, apP, Dis, acc_rd, acc_wr, accw_rd, accw_wr, Nat.testBit, hal4']
    repeat' (first | refine seqQ_normal ?_)
    refine WpC.cond rfl (fun hb => absurd hb (by simp)) (fun _ => ?_)
    repeat' (first | refine WpC.region ?_ | refine WpC.skip ?_ | refine WpO.nil ?_ | refine WpO.cons rfl rfl (WpX.pure (fun _ => rfl) ⟨nolog, ?_⟩) | refine seqQ_normal ?_)
    refine ⟨i + 1, by omega, ?_, by omega, rfl, rfl⟩
    rw [hw3]
    exact fr ⟨rfl, rfl, rfl, rfl, rfl, trivial⟩
  rintro e2 h2 c2 ⟨⟨b0, rfl⟩, rfl, rfl⟩
  have hsubC : ∀ n ∈ hmn hp a vW (.slice sR ps.length capR) ++ c1 :: (rowName vb ++ rowName vr), n ∈ rowName (V.slice s zs.length cap) ++ rowName (V.slice t bs.length capt) ∨ c1 ≤ n := fun n hn => .inr (by
    rcases List.mem_append.1 hn with h | h
    · exact (rr.own n h).1
    · exact (rr.sown n h).1)
  repeat' (first | refine WpC.seq ?_ | refine WpC.region ?_ | refine WpO.cons rfl rfl (WpX.pure (fun _ => rfl) ⟨nolog, ?_⟩))
  refine WpO.cons rfl rfl (call_at rfl (collect_bag rr.b rr.bins (by omega) rr.held) hsubC hc0 fun v5 h5 c5 hc5 hf5 hq => ?_)
  obtain ⟨vW5, rows5, os5, ps5, size5, b5, hn5, hb5, hol5, hpl5, hd5⟩ := hq
  have hh5 := bins_hands hb5
  have hsum := sum_many hh5.2.2
  rw [hh5.1, hol5] at hsum
  repeat' (first | refine WpC.seqI (a := Code.seq (Code.region 31 _ _) _) (fun e2 h2 c2 => (∃ b0, e2 = FR b0 [(5, V.ptr (some (c1, 0))), (6, V.ptr (some (hp, 0))), (9, V.slice sR ps.length capR), (15, I (sumTo (many (handsO os5)) 5))]) ∧ h5 = h2 ∧ c5 = c2) ?_ ?_ | refine WpC.seq ?_ | refine WpC.region ?_ | refine WpC.block ?_ | refine WpO.nil ?_ | refine WpO.cons rfl rfl (WpX.pure (fun _ => rfl) ⟨nolog, ?_⟩))
  ·
    skip
    refine WpC.loop ?_
    refine WpLoop.ind (X := Nat) (fun i e2 h2 c2 => (∃ b0, e2 = FR b0 [(5, V.ptr (some (c1, 0))), (6, V.ptr (some (hp, 0))), (9, V.slice sR ps.length capR), (15, I (sumTo (many (handsO os5)) i)), (16, I i)]) ∧ i ≤ 5 ∧ (0 ≤ sumTo (many (handsO os5)) i ∧ sumTo (many (handsO os5)) i ≤ 1000 * i) ∧ h5 = h2 ∧ c5 = c2)
      (fun i => 5 - i) ?_ 0 _ _ _ ⟨fr ⟨rfl, rfl, rfl, rfl, rfl, trivial⟩, Nat.zero_le _, ⟨Int.le_refl _, Int.le_refl _⟩, rfl, rfl⟩
    rintro i e2 h2 c2 ⟨⟨b0, rfl⟩, hi, hsm, rfl, rfl⟩
    repeat' (first | refine WpC.seq ?_ | refine WpC.region ?_ | refine WpO.nil ?_ | refine WpO.cons rfl rfl (WpX.pure (fun _ => rfl) ⟨nolog, ?_⟩) | refine seqQ_normal ?_)
    refine WpC.cond rfl (fun hlt => ?_) (fun hge => ?_)
    case refine_2 =>
      have hi5 : i = 5 := by have : 5 ≤ (i : Int) := by simpa using hge
                             omega
      subst hi5
      repeat' (first | refine WpC.exit ?_ | refine seqQ_normal ?_ | refine seqQ_exit ?_ | refine blkQ_out rfl ?_)
      refine ⟨fr ?_, rfl, rfl⟩
      exact ⟨rfl, rfl, rfl, rfl, trivial⟩
    have hlt' : i < 5 := by have : (i : Int) < 5 := by simpa using hlt
                            omega
    have hw3 : IntKind.i64.wrap ((i : Int) + 1) = ((i + 1 : Nat) : Int) := by rw [Go.IntWalk.i64_in _ (by omega)]; omega
    have hw4 : IntKind.i64.wrap (1 + (i : Int)) = (i : Int) + 1 := by rw [Go.IntWalk.i64_in _ (by omega)]; omega
    have hm1 := many_le (handsO os5) i
    have hm0 := many_nonneg (handsO os5) i
    have hhl := hh5.1
    have hw5 : IntKind.i64.wrap (IntKind.i64.wrap (sumTo (many (handsO os5)) i + (1 + many (handsO os5) i)) - 1) = sumTo (many (handsO os5)) (i + 1) := by
      rw [Go.IntWalk.i64_in (sumTo (many (handsO os5)) i + (1 + many (handsO os5) i)) (by omega), Go.IntWalk.i64_in _ (by omega)]
      show _ = sumTo (many (handsO os5)) i + many (handsO os5) i
      omega
    repeat' (first | refine WpC.seq ?_ | refine WpC.region ?_ | refine WpC.skip ?_ | refine WpC.block ?_ | refine WpO.cons rfl rfl (WpX.pure (fun _ => rfl) ⟨nolog, ?_⟩))
    refine WpO.cons rfl rfl (call_at rfl (count_held b5.st hd5 hlt' hw4) hsubS (by omega) fun v4 h4 c4' hc4' hf4 hq => ?_)
    obtain ⟨rfl, rfl, rfl⟩ := hq
    repeat' (first | refine WpC.region ?_ | refine WpO.nil ?_ | refine WpO.cons rfl rfl (WpX.pure (fun _ => rfl) ⟨nolog, ?_⟩) | refine seqQ_normal ?_)
    refine ⟨i + 1, by omega, ?_, by omega, ?_, rfl, rfl⟩
    · rw [hw3, hw5]
      exact fr ⟨rfl, rfl, rfl, rfl, rfl, trivial⟩
    · have : sumTo (many (handsO os5)) (i + 1) = sumTo (many (handsO os5)) i + many (handsO os5) i := rfl
      omega
  rintro e2 h2 c2 ⟨⟨b0, rfl⟩, rfl, rfl⟩
  have hne : ((ps.length : Int) != (ps.length : Int)) = false := by simp
  have hownH : ∀ n ∈ hn hp a vW5, c1 ≤ n := fun n hm => by
    rcases List.mem_cons.1 hm with h | h
    · exact (rr.own n (List.mem_append_left _ (by rw [h]; exact List.mem_cons_self ..))).1
    · rcases List.mem_cons.1 h with h | h
      · exact (rr.own n (List.mem_append_left _ (by rw [h]; exact List.mem_cons_of_mem _ (List.mem_cons_self ..)))).1
      · exact (rr.own n (List.mem_append_left _ (List.mem_cons_of_mem _ (List.mem_cons_of_mem _ (hn5 n h))))).1
  rw [hsum]
  repeat' (first | refine WpC.seq ?_ | refine WpC.region ?_ | refine WpO.cons rfl rfl (WpX.pure (fun _ => rfl) ⟨nolog, ?_⟩))
  simp only [hne]
  repeat' (first | refine WpO.cons rfl rfl (WpX.pure (fun _ => rfl) ⟨nolog, ?_⟩))
  refine WpO.cons rfl rfl (call_at rfl (hands_ok (l := bagL 0 os5) b5.hm.hm b5.f.objs) (fun n hn => .inr (hownH n hn)) (by omega) fun v6 h6 c6 hc6 _ hq => ?_)
  obtain ⟨hl6, hl6n, hf6⟩ := hq
  rw [b5.f.hands] at hl6
  obtain ⟨s6, cap6, rfl, _⟩ := hl6.shape
  have b6 := b5.same hc6 hf6
  have hl7 : (handsO os5).length = ps.length := by rw [hh5.1, hol5]
  repeat' (first | refine WpO.nil ?_ | refine WpO.cons rfl rfl (WpX.pure (fun _ => rfl) ⟨nolog, ?_⟩) | refine seqQ_normal ?_)
  rw [hl7]
  refine WpC.cond rfl (fun hb => absurd (hb : ((ps.length : Int) != (ps.length : Int)) = true) (by rw [hne]; decide)) (fun _ => ?_)
  have hsubE : ∀ n ∈ hn hp a vW5 ++ c1 :: (rowName vb ++ rowName vr), n ∈ rowName (V.slice s zs.length cap) ++ rowName (V.slice t bs.length capt) ∨ c1 ≤ n := fun n hn => .inr (by
    rcases List.mem_append.1 hn with h | h
    · exact hownH n h
    · exact (rr.sown n h).1)
  repeat' (first | refine WpC.seq ?_ | refine WpC.region ?_ | refine WpC.skip ?_ | refine WpO.cons rfl rfl (WpX.pure (fun _ => rfl) ⟨nolog, ?_⟩))
  refine WpO.cons rfl rfl (call_at rfl (end_bag b6 hb5 (by omega) hd5) hsubE (by omega) fun v7 h7 c7 hc7 _ hq => ?_)
  have s7 : StoreAt h7 c7 c1 vb vr st := hq
  repeat' (first | refine WpC.seqI (a := Code.seq (Code.region 38 _ _) _) (fun e2 h2 c2 => (∃ b0, e2 = FR b0 [(5, V.ptr (some (c1, 0)))]) ∧ h7 = h2 ∧ c7 = c2) ?_ ?_ | refine WpC.seq ?_ | refine WpC.region ?_ | refine WpC.block ?_ | refine WpO.nil ?_ | refine WpO.cons rfl rfl (WpX.pure (fun _ => rfl) ⟨nolog, ?_⟩))
  ·
    skip
    refine WpC.loop ?_
    refine WpLoop.ind (X := Nat) (fun i e2 h2 c2 => (∃ b0, e2 = FR b0 [(5, V.ptr (some (c1, 0))), (17, I i)]) ∧ i ≤ 5 ∧ h7 = h2 ∧ c7 = c2)
      (fun i => 5 - i) ?_ 0 _ _ _ ⟨fr ⟨rfl, rfl, trivial⟩, Nat.zero_le _, rfl, rfl⟩
    rintro i e2 h2 c2 ⟨⟨b0, rfl⟩, hi, rfl, rfl⟩
    repeat' (first | refine WpC.seq ?_ | refine WpC.region ?_ | refine WpO.nil ?_ | refine WpO.cons rfl rfl (WpX.pure (fun _ => rfl) ⟨nolog, ?_⟩) | refine seqQ_normal ?_)
    refine WpC.cond rfl (fun hlt => ?_) (fun hge => ?_)
    case refine_2 =>
      repeat' (first | refine WpC.exit ?_ | refine seqQ_normal ?_ | refine seqQ_exit ?_ | refine blkQ_out rfl ?_)
      refine ⟨fr ?_, rfl, rfl⟩
      exact ⟨rfl, trivial⟩
    have hlt' : i < 5 := by have : (i : Int) < 5 := by simpa using hlt
                            omega
    have hw3 : IntKind.i64.wrap ((i : Int) + 1) = ((i + 1 : Nat) : Int) := by rw [Go.IntWalk.i64_in _ (by omega)]; omega
    have hw4 : IntKind.i64.wrap (1 + (i : Int)) = (i : Int) + 1 := by rw [Go.IntWalk.i64_in _ (by omega)]; omega
    repeat' (first | refine WpC.seq ?_ | refine WpC.region ?_ | refine WpC.skip ?_ | refine WpC.block ?_ | refine WpO.cons rfl rfl (WpX.pure (fun _ => rfl) ⟨nolog, ?_⟩))
    refine WpO.cons rfl rfl (call_at rfl (count_held (os := []) s7 hd0 hlt' hw4) hsubS (by omega) fun v4 h4 c4' hc4' hf4 hq => ?_)
    obtain ⟨rfl, rfl, rfl⟩ := hq
    repeat' (first | refine WpO.nil ?_ | refine WpO.cons rfl rfl (WpX.pure (fun _ => rfl) ⟨nolog, ?_⟩) | refine seqQ_normal ?_)
    have hz0 : (1 : Int) + many (handsO []) i = 1 := rfl
    refine WpC.cond rfl (fun hb => absurd (hb : ((1 : Int) + many (handsO []) i != 1) = true) (by rw [hz0]; decide)) (fun _ => ?_)
    repeat' (first | refine WpC.region ?_ | refine WpC.skip ?_ | refine WpO.nil ?_ | refine WpO.cons rfl rfl (WpX.pure (fun _ => rfl) ⟨nolog, ?_⟩) | refine seqQ_normal ?_)
    refine ⟨i + 1, by omega, ?_, by omega, rfl, rfl⟩
    rw [hw3]
    exact fr ⟨rfl, rfl, trivial⟩
  rintro e2 h2 c2 ⟨⟨b0, rfl⟩, rfl, rfl⟩
  have hrl0 : st.rows.length ≤ 1000 := by rw [hd0.five]; decide
  repeat' (first | refine WpC.seq ?_ | refine WpC.region ?_ | refine WpO.cons rfl rfl (WpX.pure (fun _ => rfl) ⟨nolog, ?_⟩))
  refine WpO.cons rfl rfl (call_at rfl (check_ok s7 hg hrl0) hsubS (by omega) fun v8 h8 c8 hc8 _ hq => ?_)
  obtain ⟨rfl, hf8⟩ := hq
  have s8 := s7.keep hc8 hf8
  repeat' (first | refine WpO.cons rfl rfl (WpX.pure (fun _ => rfl) ⟨nolog, ?_⟩))
  refine WpO.cons rfl rfl (call_at rfl (live_ok s8) (fun n hn => .inr (by simp at hn; omega)) (by omega) fun v9 h9 c9 hc9 _ hq => ?_)
  obtain ⟨rfl, rfl, rfl⟩ := hq
  rw [hlv]
  repeat' (first | refine WpC.ret ?_ | refine WpO.nil ?_ | refine WpO.cons rfl rfl (WpX.pure (fun _ => rfl) ⟨nolog, ?_⟩))
  exact out_ret rfl rfl
end Go.Proofs.Ytcenbfjhhaialaa


set_option linter.unusedVariables false
set_option linter.unnecessarySimpa false
set_option linter.unusedSimpArgs false
set_option maxRecDepth 10000
namespace Go.Proofs.Ytcenbfjhhaialaa
open Go.Ab
theorem u8_in {z : Int} (h : (Lit.int .u8 z).wf = true) : 0 ≤ z ∧ z < 256 := by
  have e := (Lit.wf_int_iff _ _).1 h
  have h1 : IntKind.min .u8 = 0 := rfl
  have h2 : IntKind.max .u8 = 255 := rfl
  omega
theorem ends_walk {T : Type} {ds : List (DataW T)} : ∀ (h : HH) (c : Nat) (xs : List V), ArgsR Try.prog h c [22, 23] xs ds → Clear h c → WpX (cl 3 xs) h c fun v _ _ _ => v = .bool true := by
  intro h c xs r _
  cases r with
  | @cons _ _ x1 _ _ _ a ha r =>
    cases r with
    | @cons _ _ x2 _ _ _ b hb r =>
      cases r
      obtain ⟨ys, hl, hys⟩ := a.ints (e := 5) (k := .u8) rfl rfl (ha.trans rfl)
      obtain ⟨bl, hb1, _⟩ := AR.rows (cells := boolV) (good := fun _ => True) (k := 1) (e := 4) Try.underlying23 (hb.trans rfl) (fun _ => rfl) (fun vs d a => by obtain ⟨z, e1, _⟩ := a.inv_bool rfl; exact ⟨z, e1, trivial⟩) b
      exact WpX.mono (ends_law hl (fun z hz => u8_in (hys z hz)) hb1) fun v h' c' l q => q.2.2.2
end Go.Proofs.Ytcenbfjhhaialaa
