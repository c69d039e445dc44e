/- HeapGives. -/
/- HeapGives: its arguments as data. -/
import Derived.Test.YtempfmkicpifkaaHpF
import Derived.Test.YtempfmkicpifkaaAdC
import Derived.Test.YtempfmkicpifkaaAdT
import Derived.DataShut


set_option linter.unusedVariables false
set_option linter.unusedSectionVars false
set_option linter.unusedSimpArgs false
set_option linter.unnecessarySimpa false
namespace Go.Proofs.Ytempfmkicpifkaa
open Go.Ab
set_option maxRecDepth 10000

theorem flat_snoc {ss : List Hd} {n t : Int} (h : 0 ≤ n) : ((flatW (ss ++ [tupH n t])).length : Int) = (flatW ss).length + 1 + n := by
  rw [flatW_app, flatW_one, List.length_append, tupW_len]
  show (((flatW ss).length + (1 + n.toNat) : Nat) : Int) = _
  omega
theorem pos_snoc {ss : List Hd} {x : Hd} : posL (ss ++ [x]) = posL ss ++ [(flatW ss).length] := by
  rw [posL, objL_app, List.map_append]
  simp [objL]
theorem zero_words (k : Nat) {t : Nat} (h1 : cx.size t = some 1) (h2 : cx.zero t = some (.int .u64 0)) : zeroRow cx t k = some (flat wordV (List.replicate k 0)) := by
  unfold zeroRow
  rw [h1, h2, ← reps_word]; rfl

set_option maxHeartbeats 4000000 in
theorem gives_law {h : HH} {c : Nat} {m : Int} {l : V} {zs : List Int} (hm : 0 ≤ m ∧ m < 65536) (hl : RowArg h c l 1 zs.length (zs.map (.int .u8))) (hz : ∀ z ∈ zs, 0 ≤ z ∧ z < 256) : Does 5 [.int .u16 m, l] h c (rowName l) fun v h' c' => v = .bool true := by
  obtain ⟨m, rfl⟩ : ∃ k : Nat, m = k := ⟨m.toNat, by omega⟩
  refine does_of (enter (fn := Try.f5) Try.func5 rfl rfl (Nat.le_of_ble_eq_true rfl) ?_)
  repeat' (first | refine WpC.seq ?_ | refine WpC.region ?_ | refine WpC.drawn ?_ | refine WpC.skip ?_ | refine WpC.block ?_ | refine WpC.exit ?_ | refine WpC.ret ?_ | refine WpO.nil ?_ | refine WpO.cons rfl rfl (WpX.pure (fun _ => rfl) ⟨nolog, ?_⟩) | refine WpO.skip rfl rfl ?_ | refine WpL.cons rfl rfl (WpX.pure (fun _ => rfl) ⟨nolog, ?_⟩) | refine WpL.skip rfl rfl ?_ | refine seqQ_normal ?_ | refine seqQ_ret ?_ | refine seqQ_exit ?_ | refine blkQ_normal ?_ | refine blkQ_ret ?_ | refine blkQ_out rfl ?_ | refine blkQ_by rfl ?_)
  refine WpO.cons rfl rfl (call_at rfl (shut_ok rfl) (by simp) (Nat.le_refl _) fun v h1 c1 hc1 hfr1 hq => ?_)
  obtain ⟨rfl, rfl, rfl⟩ := hq
  repeat' (first | refine WpC.seq ?_ | refine WpC.region ?_ | refine WpC.drawn ?_ | refine WpC.skip ?_ | refine WpC.block ?_ | refine WpC.exit ?_ | refine WpC.ret ?_ | refine WpO.nil ?_ | refine WpO.cons rfl rfl (WpX.pure (fun _ => rfl) ⟨nolog, ?_⟩) | refine WpO.skip rfl rfl ?_ | refine WpL.cons rfl rfl (WpX.pure (fun _ => rfl) ⟨nolog, ?_⟩) | refine WpL.skip rfl rfl ?_ | refine seqQ_normal ?_ | refine seqQ_ret ?_ | refine seqQ_exit ?_ | refine blkQ_normal ?_ | refine blkQ_ret ?_ | refine blkQ_out rfl ?_ | refine blkQ_by rfl ?_)
  refine WpC.cond rfl (fun hb => by cases hb) (fun _ => ?_)
  obtain ⟨s, cap, rfl, hs⟩ : ∃ a cap, l = .slice a zs.length cap ∧ (∀ i, i < zs.length → ∃ s, a = some (s, 0) ∧ s < c1 ∧ MapI.get h1 s = some (.cells false false (zs.map (.int .u8)))) := by
    rcases hl.is with ⟨rfl, hz⟩ | ⟨s, cap, rfl, h1, _, _, h2⟩
    · exact ⟨none, .known 0, by rw [hz], fun i hi => by omega⟩
    · exact ⟨_, .known cap, rfl, fun i hi => ⟨s, rfl, h1, h2 (by omega)⟩⟩
  repeat' (first | refine WpC.seq ?_ | refine WpC.region ?_ | refine WpC.drawn ?_ | refine WpC.skip ?_ | refine WpC.block ?_ | refine WpC.exit ?_ | refine WpC.ret ?_ | refine WpO.nil ?_ | refine WpO.cons rfl rfl (WpX.pure (fun _ => rfl) ⟨nolog, ?_⟩) | refine WpO.skip rfl rfl ?_ | refine WpL.cons rfl rfl (WpX.pure (fun _ => rfl) ⟨nolog, ?_⟩) | refine WpL.skip rfl rfl ?_ | refine seqQ_normal ?_ | refine seqQ_ret ?_ | refine seqQ_exit ?_ | refine blkQ_normal ?_ | refine blkQ_ret ?_ | refine blkQ_out rfl ?_ | refine blkQ_by rfl ?_ | refine WpO.cons rfl rfl (op_len rfl rfl rfl ⟨(by simp [InL, Acc.name, rowName] <;> omega), ?_⟩) | refine WpL.cons rfl rfl (op_len rfl rfl rfl ⟨(by simp [InL, Acc.name, rowName] <;> omega), ?_⟩))
  refine WpC.cond rfl (fun _ => ?_) (fun hgt => ?_)
  ·
    repeat' (first | refine WpC.seq ?_ | refine WpC.region ?_ | refine WpC.drawn ?_ | refine WpC.skip ?_ | refine WpC.block ?_ | refine WpC.exit ?_ | refine WpC.ret ?_ | refine WpO.nil ?_ | refine WpO.cons rfl rfl (WpX.pure (fun _ => rfl) ⟨nolog, ?_⟩) | refine WpO.skip rfl rfl ?_ | refine WpL.cons rfl rfl (WpX.pure (fun _ => rfl) ⟨nolog, ?_⟩) | refine WpL.skip rfl rfl ?_ | refine seqQ_normal ?_ | refine seqQ_ret ?_ | refine seqQ_exit ?_ | refine blkQ_normal ?_ | refine blkQ_ret ?_ | refine blkQ_out rfl ?_ | refine blkQ_by rfl ?_)
    exact out_ret rfl rfl
  have hlen : zs.length ≤ 60 := by have : (zs.length : Int) ≤ 60 := by simpa using hgt
                                   omega
  have eM : IntKind.i64.wrap (32 + (IntKind.i64.wrap (m : Int)).tmod 400) = ((32 + m % 400 : Nat) : Int) := by
    rw [Go.IntWalk.i64_in (m : Int) (by omega), Int.tmod_eq_emod_of_nonneg (by omega), Go.IntWalk.i64_in _ (by omega)]; omega
  repeat' (first | refine WpC.seq ?_ | refine WpC.region ?_ | refine WpC.drawn ?_ | refine WpC.skip ?_ | refine WpC.block ?_ | refine WpC.exit ?_ | refine WpC.ret ?_ | refine WpO.nil ?_ | refine WpO.cons rfl rfl (WpX.pure (fun _ => rfl) ⟨nolog, ?_⟩) | refine WpO.skip rfl rfl ?_ | refine WpL.cons rfl rfl (WpX.pure (fun _ => rfl) ⟨nolog, ?_⟩) | refine WpL.skip rfl rfl ?_ | refine seqQ_normal ?_ | refine seqQ_ret ?_ | refine seqQ_exit ?_ | refine blkQ_normal ?_ | refine blkQ_ret ?_ | refine blkQ_out rfl ?_ | refine blkQ_by rfl ?_)
  rw [eM]
  have hM1 : 32 ≤ 32 + m % 400 ∧ 32 + m % 400 ≤ 431 := by omega
  generalize 32 + m % 400 = M at hM1
  refine WpO.cons rfl rfl (call_at rfl (snew_ok (most := 0) (by decide) (by decide)) (by simp) (Nat.le_refl _) fun v h2 c2 hc2 hfr2 hq => ?_)
  obtain ⟨rfl, rfl, _⟩ := hq
  repeat' (first | refine WpC.seq ?_ | refine WpC.region ?_ | refine WpC.drawn ?_ | refine WpC.skip ?_ | refine WpC.block ?_ | refine WpC.exit ?_ | refine WpC.ret ?_ | refine WpO.nil ?_ | refine WpO.cons rfl rfl (WpX.pure (fun _ => rfl) ⟨nolog, ?_⟩) | refine WpO.skip rfl rfl ?_ | refine WpL.cons rfl rfl (WpX.pure (fun _ => rfl) ⟨nolog, ?_⟩) | refine WpL.skip rfl rfl ?_ | refine seqQ_normal ?_ | refine seqQ_ret ?_ | refine seqQ_exit ?_ | refine blkQ_normal ?_ | refine blkQ_ret ?_ | refine blkQ_out rfl ?_ | refine blkQ_by rfl ?_)
  refine WpO.cons rfl rfl (call_at rfl (hnew_ok (most := (M : Int)) (by omega)) (by simp) (by omega) fun v h3 c3 hc3 hfr3 hq => ?_)
  obtain ⟨rfl, a, hH, ha, hf3⟩ := hq
  have hr3 := FlatH.start hH
  have hfr3' : ∀ n, n < c1 → MapI.get h3 n = MapI.get h1 n := fun n hn => by rw [hf3 n (by omega), hfr2 n hn (by simp)]
  have hown3 : ∀ n ∈ hmn (c1 + 1) a (V.slice none 0 (.known 0)) (V.slice none 0 (.known 0)), c1 ≤ n := fun n hn => by
    have hn : n ∈ [c1 + 1, a] := hn
    simp at hn; omega
  have hlt3 := hr3.hm.names
  repeat' (first | refine WpC.seq ?_ | refine WpC.region ?_ | refine WpC.drawn ?_ | refine WpC.skip ?_ | refine WpC.block ?_ | refine WpC.exit ?_ | refine WpC.ret ?_ | refine WpO.nil ?_ | refine WpO.cons rfl rfl (WpX.pure (fun _ => rfl) ⟨nolog, ?_⟩) | refine WpO.skip rfl rfl ?_ | refine WpL.cons rfl rfl (WpX.pure (fun _ => rfl) ⟨nolog, ?_⟩) | refine WpL.skip rfl rfl ?_ | refine seqQ_normal ?_ | refine seqQ_ret ?_ | refine seqQ_exit ?_ | refine blkQ_normal ?_ | refine blkQ_ret ?_ | refine blkQ_out rfl ?_ | refine blkQ_by rfl ?_)
  refine WpC.cond rfl (fun hb => by cases hb) (fun _ => ?_)
  generalize c1 + 1 = hp at *
  repeat' (first | refine WpC.seqI (a := Code.seq (Code.region 12 _ _) _) (fun e' h' c' => ∃ vR vW ss size, (∃ b0, e' = FR b0 [(5, I M), (7, V.ptr (some (hp, 0))), (8, vR)]) ∧ c1 ≤ c' ∧ FlatH h' c' hp a c1 vW vR ss (posL ss) size M ∧ (∀ n ∈ hmn hp a vW vR, c1 ≤ n)) ?_ ?_ | refine WpC.seq ?_ | refine WpC.region ?_ | refine WpC.drawn ?_ | refine WpC.skip ?_ | refine WpC.block ?_ | refine WpC.exit ?_ | refine WpC.ret ?_ | refine WpO.nil ?_ | refine WpO.cons rfl rfl (WpX.pure (fun _ => rfl) ⟨nolog, ?_⟩) | refine WpO.skip rfl rfl ?_ | refine WpL.cons rfl rfl (WpX.pure (fun _ => rfl) ⟨nolog, ?_⟩) | refine WpL.skip rfl rfl ?_ | refine seqQ_normal ?_ | refine seqQ_ret ?_ | refine seqQ_exit ?_ | refine blkQ_normal ?_ | refine blkQ_ret ?_ | refine blkQ_out rfl ?_ | refine blkQ_by rfl ?_)
  ·
    repeat' (first | refine WpC.seq ?_ | refine WpC.region ?_ | refine WpC.drawn ?_ | refine WpC.skip ?_ | refine WpC.block ?_ | refine WpC.exit ?_ | refine WpC.ret ?_ | refine WpO.nil ?_ | refine WpO.cons rfl rfl (WpX.pure (fun _ => rfl) ⟨nolog, ?_⟩) | refine WpO.skip rfl rfl ?_ | refine WpL.cons rfl rfl (WpX.pure (fun _ => rfl) ⟨nolog, ?_⟩) | refine WpL.skip rfl rfl ?_ | refine seqQ_normal ?_ | refine seqQ_ret ?_ | refine seqQ_exit ?_ | refine blkQ_normal ?_ | refine blkQ_ret ?_ | refine blkQ_out rfl ?_ | refine blkQ_by rfl ?_)
    refine WpC.loop ?_
    refine WpLoop.ind (X := Nat × V × V × List Hd × Int) (fun y e' h' c' => (∃ b0, e' = FR b0 [(1, .slice s zs.length cap), (5, I M), (7, V.ptr (some (hp, 0))), (8, y.2.1), (9, I (flatW y.2.2.2.1).length), (10, I y.1)]) ∧ y.1 ≤ zs.length ∧ y.2.2.2.1.length ≤ y.1 ∧ c3 ≤ c' ∧ FlatH h' c' hp a c1 y.2.2.1 y.2.1 y.2.2.2.1 (posL y.2.2.2.1) y.2.2.2.2 M ∧ (∀ n ∈ hmn hp a y.2.2.1 y.2.1, c1 ≤ n) ∧ ∀ n, n < c1 → MapI.get h' n = MapI.get h1 n)
      (fun y => zs.length - y.1) ?_ (0, .slice none 0 (.known 0), .slice none 0 (.known 0), [], _) _ _ _ ⟨fr ⟨rfl, rfl, rfl, rfl, rfl, rfl, trivial⟩, Nat.zero_le _, Nat.zero_le _, Nat.le_refl _, hr3, hown3, hfr3'⟩
    rintro ⟨i, vR, vW, ss, size⟩ e' h' c' ⟨⟨b0, rfl⟩, hi, hsl, hc', rr, hown, hfv⟩
    simp only at hi hsl rr hown
    repeat' (first | refine WpC.seq ?_ | refine WpC.region ?_ | refine WpC.drawn ?_ | refine WpC.skip ?_ | refine WpC.block ?_ | refine WpC.exit ?_ | refine WpC.ret ?_ | refine WpO.nil ?_ | refine WpO.cons rfl rfl (WpX.pure (fun _ => rfl) ⟨nolog, ?_⟩) | refine WpO.skip rfl rfl ?_ | refine WpL.cons rfl rfl (WpX.pure (fun _ => rfl) ⟨nolog, ?_⟩) | refine WpL.skip rfl rfl ?_ | refine seqQ_normal ?_ | refine seqQ_ret ?_ | refine seqQ_exit ?_ | refine blkQ_normal ?_ | refine blkQ_ret ?_ | refine blkQ_out rfl ?_ | refine blkQ_by rfl ?_ | refine WpO.cons rfl rfl (op_len rfl rfl rfl ⟨(by simp [InL, Acc.name, rowName] <;> omega), ?_⟩) | refine WpL.cons rfl rfl (op_len rfl rfl rfl ⟨(by simp [InL, Acc.name, rowName] <;> omega), ?_⟩))
    refine WpC.cond rfl (fun hlt => ?_) (fun hge => ?_)
    case refine_2 =>
      repeat' (first | refine WpC.seq ?_ | refine WpC.region ?_ | refine WpC.drawn ?_ | refine WpC.skip ?_ | refine WpC.block ?_ | refine WpC.exit ?_ | refine WpC.ret ?_ | refine WpO.nil ?_ | refine WpO.cons rfl rfl (WpX.pure (fun _ => rfl) ⟨nolog, ?_⟩) | refine WpO.skip rfl rfl ?_ | refine WpL.cons rfl rfl (WpX.pure (fun _ => rfl) ⟨nolog, ?_⟩) | refine WpL.skip rfl rfl ?_ | refine seqQ_normal ?_ | refine seqQ_ret ?_ | refine seqQ_exit ?_ | refine blkQ_normal ?_ | refine blkQ_ret ?_ | refine blkQ_out rfl ?_ | refine blkQ_by rfl ?_)
      refine ⟨vR, vW, ss, size, fr ?_, by omega, rr, hown⟩
      exact ⟨rfl, rfl, rfl, trivial⟩
    have hlt' : i < zs.length := by simpa using hlt
    obtain ⟨z, hzi⟩ : ∃ z, zs[i]? = some z := ⟨_, List.getElem?_eq_getElem hlt'⟩
    obtain ⟨sn, rfl, hsn, hg⟩ := hs i hlt'
    have hg' : MapI.get h' sn = _ := (hfv sn hsn).trans hg
    have hzz := hz z (List.mem_of_getElem? hzi)
    obtain ⟨z, rfl⟩ : ∃ k : Nat, z = k := ⟨z.toNat, by omega⟩
    have hnz : nth (zs.map (V.int .u8)) (0 + ((i : Nat) : Int).toNat * 1) = some (.int .u8 (z : Int)) := by
      rw [show 0 + ((i : Nat) : Int).toNat * 1 = i from by simp, nth_eq, List.getElem?_map, hzi]; rfl
    have eK : (IntKind.i64.wrap (z : Int)).tmod 40 = ((z % 40 : Nat) : Int) := by
      rw [Go.IntWalk.i64_in (z : Int) (by omega), Int.tmod_eq_emod_of_nonneg (by omega)]; omega
    repeat' (first | refine WpC.seq ?_ | refine WpC.region ?_ | refine WpC.drawn ?_ | refine WpC.skip ?_ | refine WpC.block ?_ | refine WpC.exit ?_ | refine WpC.ret ?_ | refine WpO.nil ?_ | refine WpO.cons rfl rfl (WpX.pure (fun _ => rfl) ⟨nolog, ?_⟩) | refine WpO.skip rfl rfl ?_ | refine WpL.cons rfl rfl (WpX.pure (fun _ => rfl) ⟨nolog, ?_⟩) | refine WpL.skip rfl rfl ?_ | refine seqQ_normal ?_ | refine seqQ_ret ?_ | refine seqQ_exit ?_ | refine blkQ_normal ?_ | refine blkQ_ret ?_ | refine blkQ_out rfl ?_ | refine blkQ_by rfl ?_ | refine WpO.cons rfl rfl (op_indexAddr (k := 1) rfl rfl rfl rfl ⟨by omega, by omega⟩ ⟨(by simp [InL, Acc.name, rowName] <;> omega), ?_⟩) | refine WpL.cons rfl rfl (op_indexAddr (k := 1) rfl rfl rfl rfl ⟨by omega, by omega⟩ ⟨(by simp [InL, Acc.name, rowName] <;> omega), ?_⟩) | refine WpO.cons rfl rfl (op_load rfl rfl rfl hg' hnz ⟨(by simp [InL, Acc.name, rowName] <;> omega), ?_⟩) | refine WpL.cons rfl rfl (op_load rfl rfl rfl hg' hnz ⟨(by simp [InL, Acc.name, rowName] <;> omega), ?_⟩))
    rw [eK]
    have hk : z % 40 < 40 := Nat.mod_lt _ (by omega)
    generalize z % 40 = k at hk
    have w1 : IntKind.i64.wrap (1 + (k : Int)) = 1 + k := Go.IntWalk.i64_in _ (by omega)
    have hT : ((flatW ss).length : Int) ≤ M := by have := rr.hm.hm.ar.le; have := rr.hm.hm.mo; omega
    have hw2 : IntKind.i64.wrap (IntKind.i64.wrap (((flatW ss).length : Int) + 1) + (k : Int)) = (flatW ss).length + 1 + k := by
      rw [Go.IntWalk.i64_in (((flatW ss).length : Int) + 1) (by omega), Go.IntWalk.i64_in _ (by omega)]
    have hw3 : IntKind.i64.wrap ((i : Int) + 1) = ((i + 1 : Nat) : Int) := by rw [Go.IntWalk.i64_in _ (by omega)]; omega
    have hsub : ∀ n ∈ hmn hp a vW vR, n ∈ rowName (V.slice (some (sn, 0)) zs.length cap) ∨ c1 ≤ n := fun n hn => .inr (hown n hn)
    refine WpO.cons rfl rfl (call_at rfl (need_flat (n := IntKind.i64.wrap (1 + (k : Int))) rr (by rw [w1]; omega)) hsub (by omega) fun v4 h4 c4 hc4 hf4 hq => ?_)
    rw [w1] at hq
    obtain ⟨vW4, ss4, ps4, size4, rfl, r4, hn4, hfit, hor⟩ := hq
    have hss : ss4 = ss ∧ ps4 = posL ss := by
      rcases hor with ⟨rfl, rfl, _⟩ | ⟨rfl, _, _, h⟩
      · exact ⟨rfl, rfl⟩
      · exact ⟨h rfl, by rw [h rfl]⟩
    obtain ⟨rfl, rfl⟩ := hss
    have hown4 : ∀ n ∈ hmn hp a vW4 vR, c1 ≤ n := fun n hn => by
      rcases List.mem_append.1 hn with h | h
      · rcases List.mem_cons.1 h with h | h
        · exact hown n (List.mem_append_left _ (by rw [h]; exact List.mem_cons_self ..))
        · rcases List.mem_cons.1 h with h | h
          · exact hown n (List.mem_append_left _ (by rw [h]; exact List.mem_cons_of_mem _ (List.mem_cons_self ..)))
          · exact hown n (List.mem_append_left _ (List.mem_cons_of_mem _ (List.mem_cons_of_mem _ (hn4 n h))))
      · exact hown n (List.mem_append_right _ h)
    have hfv4 : ∀ n, n < c1 → MapI.get h4 n = MapI.get h1 n := fun n hn => by
      rw [hf4 n (by omega) (fun hh => by have := hown n hh; omega)]; exact hfv n hn
    by_cases hle : 1 + (k : Int) ≤ M - (flatW ss4).length
    case neg =>
      have e3 : decide (IntKind.i64.wrap (IntKind.i64.wrap (((flatW ss4).length : Int) + 1) + (k : Int)) ≤ (M : Int)) = false := by rw [hw2]; simp; omega
      rw [decide_eq_false hle]
      repeat' (first | refine WpC.seq ?_ | refine WpC.region ?_ | refine WpC.drawn ?_ | refine WpC.skip ?_ | refine WpC.block ?_ | refine WpC.exit ?_ | refine WpC.ret ?_ | refine WpO.nil ?_ | refine WpO.cons rfl rfl (WpX.pure (fun _ => rfl) ⟨nolog, ?_⟩) | refine WpO.skip rfl rfl ?_ | refine WpL.cons rfl rfl (WpX.pure (fun _ => rfl) ⟨nolog, ?_⟩) | refine WpL.skip rfl rfl ?_ | refine seqQ_normal ?_ | refine seqQ_ret ?_ | refine seqQ_exit ?_ | refine blkQ_normal ?_ | refine blkQ_ret ?_ | refine blkQ_out rfl ?_ | refine blkQ_by rfl ?_)
      refine WpC.cond rfl (fun hb => by rw [e3] at hb; cases hb) (fun _ => ?_)
      repeat' (first | refine WpC.seq ?_ | refine WpC.region ?_ | refine WpC.drawn ?_ | refine WpC.skip ?_ | refine WpC.block ?_ | refine WpC.exit ?_ | refine WpC.ret ?_ | refine WpO.nil ?_ | refine WpO.cons rfl rfl (WpX.pure (fun _ => rfl) ⟨nolog, ?_⟩) | refine WpO.skip rfl rfl ?_ | refine WpL.cons rfl rfl (WpX.pure (fun _ => rfl) ⟨nolog, ?_⟩) | refine WpL.skip rfl rfl ?_ | refine seqQ_normal ?_ | refine seqQ_ret ?_ | refine seqQ_exit ?_ | refine blkQ_normal ?_ | refine blkQ_ret ?_ | refine blkQ_out rfl ?_ | refine blkQ_by rfl ?_)
      refine WpC.cond rfl (fun _ => ?_) (fun hb => by cases hb)
      repeat' (first | refine WpC.seq ?_ | refine WpC.region ?_ | refine WpC.drawn ?_ | refine WpC.skip ?_ | refine WpC.block ?_ | refine WpC.exit ?_ | refine WpC.ret ?_ | refine WpO.nil ?_ | refine WpO.cons rfl rfl (WpX.pure (fun _ => rfl) ⟨nolog, ?_⟩) | refine WpO.skip rfl rfl ?_ | refine WpL.cons rfl rfl (WpX.pure (fun _ => rfl) ⟨nolog, ?_⟩) | refine WpL.skip rfl rfl ?_ | refine seqQ_normal ?_ | refine seqQ_ret ?_ | refine seqQ_exit ?_ | refine blkQ_normal ?_ | refine blkQ_ret ?_ | refine blkQ_out rfl ?_ | refine blkQ_by rfl ?_)
      refine ⟨(i + 1, vR, vW4, ss4, size4), by simp only; omega, ?_, by simp only; omega, by simp only; omega, by omega, r4, hown4, hfv4⟩
      rw [hw3]
      exact fr ⟨rfl, rfl, rfl, rfl, rfl, rfl, trivial⟩
    have e3 : decide (IntKind.i64.wrap (IntKind.i64.wrap (((flatW ss4).length : Int) + 1) + (k : Int)) ≤ (M : Int)) = true := by rw [hw2]; simp; omega
    have hfit := hfit hle
    rw [decide_eq_true hle]
    repeat' (first | refine WpC.seq ?_ | refine WpC.region ?_ | refine WpC.drawn ?_ | refine WpC.skip ?_ | refine WpC.block ?_ | refine WpC.exit ?_ | refine WpC.ret ?_ | refine WpO.nil ?_ | refine WpO.cons rfl rfl (WpX.pure (fun _ => rfl) ⟨nolog, ?_⟩) | refine WpO.skip rfl rfl ?_ | refine WpL.cons rfl rfl (WpX.pure (fun _ => rfl) ⟨nolog, ?_⟩) | refine WpL.skip rfl rfl ?_ | refine seqQ_normal ?_ | refine seqQ_ret ?_ | refine seqQ_exit ?_ | refine blkQ_normal ?_ | refine blkQ_ret ?_ | refine blkQ_out rfl ?_ | refine blkQ_by rfl ?_)
    refine WpC.cond rfl (fun hb => by rw [e3] at hb; cases hb) (fun _ => ?_)
    repeat' (first | refine WpC.seq ?_ | refine WpC.region ?_ | refine WpC.drawn ?_ | refine WpC.skip ?_ | refine WpC.block ?_ | refine WpC.exit ?_ | refine WpC.ret ?_ | refine WpO.nil ?_ | refine WpO.cons rfl rfl (WpX.pure (fun _ => rfl) ⟨nolog, ?_⟩) | refine WpO.skip rfl rfl ?_ | refine WpL.cons rfl rfl (WpX.pure (fun _ => rfl) ⟨nolog, ?_⟩) | refine WpL.skip rfl rfl ?_ | refine seqQ_normal ?_ | refine seqQ_ret ?_ | refine seqQ_exit ?_ | refine blkQ_normal ?_ | refine blkQ_ret ?_ | refine blkQ_out rfl ?_ | refine blkQ_by rfl ?_)
    refine WpC.cond rfl (fun hb => by cases hb) (fun _ => ?_)
    repeat' (first | refine WpC.seq ?_ | refine WpC.region ?_ | refine WpC.drawn ?_ | refine WpC.skip ?_ | refine WpC.block ?_ | refine WpC.exit ?_ | refine WpC.ret ?_ | refine WpO.nil ?_ | refine WpO.cons rfl rfl (WpX.pure (fun _ => rfl) ⟨nolog, ?_⟩) | refine WpO.skip rfl rfl ?_ | refine WpL.cons rfl rfl (WpX.pure (fun _ => rfl) ⟨nolog, ?_⟩) | refine WpL.skip rfl rfl ?_ | refine seqQ_normal ?_ | refine seqQ_ret ?_ | refine seqQ_exit ?_ | refine blkQ_normal ?_ | refine blkQ_ret ?_ | refine blkQ_out rfl ?_ | refine blkQ_by rfl ?_ | refine WpO.cons rfl rfl (op_makeSlice rfl rfl rfl (zero_words k rfl rfl) ⟨_, rfl, by decide⟩ ⟨Nat.le_refl _, by omega⟩ ⟨(by simp [InL, Acc.name, rowName] <;> omega), ?_⟩) | refine WpL.cons rfl rfl (op_makeSlice rfl rfl rfl (zero_words k rfl rfl) ⟨_, rfl, by decide⟩ ⟨Nat.le_refl _, by omega⟩ ⟨(by simp [InL, Acc.name, rowName] <;> omega), ?_⟩))
    have hnm4 := r4.hm.names
    have r5 : ∀ o, FlatH (MapI.set h4 c4 o) (c4 + 1) hp a c1 vW4 vR ss4 (posL ss4) size4 M := fun o => r4.same (by omega) fun n hn => MapI.get_ne _ _ _ _ (by omega)
    have hx : okH (tupH k (IntKind.i64.wrap (1 + (k : Int)))) := by rw [w1]; exact ⟨by simp, by simp, by simp, by simp only; omega, by simp only; omega, by simp only; omega⟩
    have hsub5 : ∀ n ∈ hn hp a vW4 ++ rowName (V.slice (some (c4, 0)) k (.known k)), n ∈ rowName (V.slice (some (sn, 0)) zs.length cap) ∨ c1 ≤ n := fun n hn => by
      rcases List.mem_append.1 hn with h | h
      · exact .inr (hown4 n (List.mem_append_left _ h))
      · have h : n ∈ [c4] := h; simp at h; exact .inr (by omega)
    refine WpO.cons rfl rfl (call_at rfl (make_flat (n := (k : Int)) (t := IntKind.i64.wrap (1 + (k : Int))) (r5 _) (row_zeros (k := k) (MapI.get_same _ _ _) (by omega)) rfl hx (fun n hn1 hn2 => ?_) (by omega)) hsub5 (by omega) fun v5 h5 c5 hc5 hf5 hq => ?_)
    · have hn1 : n ∈ [c4] := hn1
      simp at hn1
      have := hnm4 n (List.mem_append_left _ hn2); omega
    obtain ⟨rfl, vW5, hm5, hi5, hj5, hn5, hk5⟩ := hq
    repeat' (first | refine WpC.seq ?_ | refine WpC.region ?_ | refine WpC.drawn ?_ | refine WpC.skip ?_ | refine WpC.block ?_ | refine WpC.exit ?_ | refine WpC.ret ?_ | refine WpO.nil ?_ | refine WpO.cons rfl rfl (WpX.pure (fun _ => rfl) ⟨nolog, ?_⟩) | refine WpO.skip rfl rfl ?_ | refine WpL.cons rfl rfl (WpX.pure (fun _ => rfl) ⟨nolog, ?_⟩) | refine WpL.skip rfl rfl ?_ | refine seqQ_normal ?_ | refine seqQ_ret ?_ | refine seqQ_exit ?_ | refine blkQ_normal ?_ | refine blkQ_ret ?_ | refine blkQ_out rfl ?_ | refine blkQ_by rfl ?_)
    refine WpC.cond rfl (fun hb => by cases hb) (fun _ => ?_)
    repeat' (first | refine WpC.seq ?_ | refine WpC.region ?_ | refine WpC.drawn ?_ | refine WpC.skip ?_ | refine WpC.block ?_ | refine WpC.exit ?_ | refine WpC.ret ?_ | refine WpO.nil ?_ | refine WpO.cons rfl rfl (WpX.pure (fun _ => rfl) ⟨nolog, ?_⟩) | refine WpO.skip rfl rfl ?_ | refine WpL.cons rfl rfl (WpX.pure (fun _ => rfl) ⟨nolog, ?_⟩) | refine WpL.skip rfl rfl ?_ | refine seqQ_normal ?_ | refine seqQ_ret ?_ | refine seqQ_exit ?_ | refine blkQ_normal ?_ | refine blkQ_ret ?_ | refine blkQ_out rfl ?_ | refine blkQ_by rfl ?_ | refine WpO.cons rfl rfl (op_buildSlice (k := 1) rfl rfl rfl rfl (by decide) rfl ⟨(by simp [InL, Acc.name, rowName] <;> omega), ?_⟩) | refine WpL.cons rfl rfl (op_buildSlice (k := 1) rfl rfl rfl rfl (by decide) rfl ⟨(by simp [InL, Acc.name, rowName] <;> omega), ?_⟩))
    have hnm5 := hm5.names
    have hm6 : ∀ o, HM (MapI.set h5 c5 o) (c5 + 1) hp a c1 vW5 vR _ _ size4 M := fun o => hm5.same (by omega) fun n hn => MapI.get_ne _ _ _ _ (by omega)
    have hlyR : ListOf (0 + 1) wordV (MapI.set h5 c5 (.cells true true [U (ptrW (flatW ss4).length)])) (c5 + 1) vR ((posL ss4).map ptrW) := (hm6 _).rr.list r4.ly
    have hpl : (posL ss4).length ≤ 60 := by rw [pos_len]; omega
    refine WpO.cons rfl rfl (append1 (cells := wordV) (y := ptrW (flatW ss4).length) rfl rfl ⟨rfl, rfl, rfl, ⟨_, rfl, by decide⟩⟩ rfl word_len word_all hlyR (MapI.get_same _ _ _) (by rw [List.length_map]; omega) (by omega) (fun n h => .inr (hown n (List.mem_append_right _ h))) (by omega) fun v6 h6 c6 rv6 hn6 hc6 hf6 => ?_)
    have r6 := FlatH.push (hm6 _) hj5 rv6 hn6 hc6 hf6 (by omega)
    rw [← pos_snoc (x := tupH k (IntKind.i64.wrap (1 + (k : Int))))] at r6
    have hown6 : ∀ n ∈ hmn hp a vW5 v6, c1 ≤ n := fun n hn => by
      rcases List.mem_append.1 hn with h | h
      · rcases List.mem_cons.1 h with h | h
        · exact hown4 n (List.mem_append_left _ (by rw [h]; exact List.mem_cons_self ..))
        · rcases List.mem_cons.1 h with h | h
          · exact hown4 n (List.mem_append_left _ (by rw [h]; exact List.mem_cons_of_mem _ (List.mem_cons_self ..)))
          · rcases hn5 n h with h | h
            · exact hown4 n (List.mem_append_left _ (List.mem_cons_of_mem _ (List.mem_cons_of_mem _ h)))
            · omega
      · rcases hn6 n h with h | h
        · exact hown n (List.mem_append_right _ h)
        · omega
    have hfl : ((flatW (ss4 ++ [tupH (k : Int) (IntKind.i64.wrap (1 + (k : Int)))])).length : Int) = (flatW ss4).length + 1 + k := flat_snoc (by omega)
    repeat' (first | refine WpC.seq ?_ | refine WpC.region ?_ | refine WpC.drawn ?_ | refine WpC.skip ?_ | refine WpC.block ?_ | refine WpC.exit ?_ | refine WpC.ret ?_ | refine WpO.nil ?_ | refine WpO.cons rfl rfl (WpX.pure (fun _ => rfl) ⟨nolog, ?_⟩) | refine WpO.skip rfl rfl ?_ | refine WpL.cons rfl rfl (WpX.pure (fun _ => rfl) ⟨nolog, ?_⟩) | refine WpL.skip rfl rfl ?_ | refine seqQ_normal ?_ | refine seqQ_ret ?_ | refine seqQ_exit ?_ | refine blkQ_normal ?_ | refine blkQ_ret ?_ | refine blkQ_out rfl ?_ | refine blkQ_by rfl ?_)
    rw [hw2]
    refine WpO.cons rfl rfl (call_atD rfl (hused_ok r6.hm.hm) (fun n hn => .inr (hown6 n (List.mem_append_left _ hn))) (by omega) fun v7 h7 c7 hc7 hf7 hq => ?_)
    obtain ⟨rfl, rfl, rfl⟩ := hq
    rw [hfl]
    repeat' (first | refine WpC.seq ?_ | refine WpC.region ?_ | refine WpC.drawn ?_ | refine WpC.skip ?_ | refine WpC.block ?_ | refine WpC.exit ?_ | refine WpC.ret ?_ | refine WpO.nil ?_ | refine WpO.cons rfl rfl (WpX.pure (fun _ => rfl) ⟨nolog, ?_⟩) | refine WpO.skip rfl rfl ?_ | refine WpL.cons rfl rfl (WpX.pure (fun _ => rfl) ⟨nolog, ?_⟩) | refine WpL.skip rfl rfl ?_ | refine seqQ_normal ?_ | refine seqQ_ret ?_ | refine seqQ_exit ?_ | refine blkQ_normal ?_ | refine blkQ_ret ?_ | refine blkQ_out rfl ?_ | refine blkQ_by rfl ?_)
    refine WpC.cond rfl (fun hb => absurd hb (by simp)) (fun _ => ?_)
    repeat' (first | refine WpC.seq ?_ | refine WpC.region ?_ | refine WpC.drawn ?_ | refine WpC.skip ?_ | refine WpC.block ?_ | refine WpC.exit ?_ | refine WpC.ret ?_ | refine WpO.nil ?_ | refine WpO.cons rfl rfl (WpX.pure (fun _ => rfl) ⟨nolog, ?_⟩) | refine WpO.skip rfl rfl ?_ | refine WpL.cons rfl rfl (WpX.pure (fun _ => rfl) ⟨nolog, ?_⟩) | refine WpL.skip rfl rfl ?_ | refine seqQ_normal ?_ | refine seqQ_ret ?_ | refine seqQ_exit ?_ | refine blkQ_normal ?_ | refine blkQ_ret ?_ | refine blkQ_out rfl ?_ | refine blkQ_by rfl ?_)
    refine ⟨(i + 1, v6, vW5, ss4 ++ [tupH (k : Int) (IntKind.i64.wrap (1 + (k : Int)))], size4), by simp only; omega, ?_, by simp only; omega, by simp only [List.length_append, List.length_singleton]; omega, by omega, r6, hown6, fun n hn => ?_⟩
    · rw [hw3, hfl]
      exact fr ⟨rfl, rfl, rfl, rfl, rfl, rfl, trivial⟩
    · rw [hf6 n (by omega) (fun hh => by have := hown n (List.mem_append_right _ hh); omega), MapI.get_ne _ _ _ _ (by omega), hf5 n (by omega) (fun hh => by
        rcases List.mem_append.1 hh with h | h
        · have := hown4 n (List.mem_append_left _ h); omega
        · have h : n ∈ [c4] := h; simp at h; omega), MapI.get_ne _ _ _ _ (by omega)]
      exact hfv4 n hn
  rintro e' h' c' ⟨vR, vW, ss, size, ⟨b0, rfl⟩, hc', rr, hown⟩
  have hle := rr.hm.hm.ar.le
  have hmo := rr.hm.hm.mo
  have hnm := rr.hm.names
  have hsubH : ∀ n ∈ hn hp a vW, n ∈ rowName (V.slice s zs.length cap) ∨ c1 ≤ n := fun n hh => .inr (hown n (List.mem_append_left _ hh))
  have w1 : IntKind.i64.wrap (size - ((flatW ss).length : Int)) = size - (flatW ss).length := Go.IntWalk.i64_in _ (by omega)
  repeat' (first | refine WpC.seq ?_ | refine WpC.region ?_ | refine WpC.drawn ?_ | refine WpC.skip ?_ | refine WpC.block ?_ | refine WpC.exit ?_ | refine WpC.ret ?_ | refine WpO.nil ?_ | refine WpO.cons rfl rfl (WpX.pure (fun _ => rfl) ⟨nolog, ?_⟩) | refine WpO.skip rfl rfl ?_ | refine WpL.cons rfl rfl (WpX.pure (fun _ => rfl) ⟨nolog, ?_⟩) | refine WpL.skip rfl rfl ?_ | refine seqQ_normal ?_ | refine seqQ_ret ?_ | refine seqQ_exit ?_ | refine blkQ_normal ?_ | refine blkQ_ret ?_ | refine blkQ_out rfl ?_ | refine blkQ_by rfl ?_)
  refine WpO.cons rfl rfl (call_atD rfl (hcap_ok rr.hm.hm) hsubH (by omega) fun v1 h1' c1' _ _ hq => ?_)
  obtain ⟨rfl, rfl, rfl⟩ := hq
  repeat' (first | refine WpC.seq ?_ | refine WpC.region ?_ | refine WpC.drawn ?_ | refine WpC.skip ?_ | refine WpC.block ?_ | refine WpC.exit ?_ | refine WpC.ret ?_ | refine WpO.nil ?_ | refine WpO.cons rfl rfl (WpX.pure (fun _ => rfl) ⟨nolog, ?_⟩) | refine WpO.skip rfl rfl ?_ | refine WpL.cons rfl rfl (WpX.pure (fun _ => rfl) ⟨nolog, ?_⟩) | refine WpL.skip rfl rfl ?_ | refine seqQ_normal ?_ | refine seqQ_ret ?_ | refine seqQ_exit ?_ | refine blkQ_normal ?_ | refine blkQ_ret ?_ | refine blkQ_out rfl ?_ | refine blkQ_by rfl ?_)
  refine WpO.cons rfl rfl (call_atD rfl (hused_ok rr.hm.hm) hsubH (by omega) fun v1 h1' c1' _ _ hq => ?_)
  obtain ⟨rfl, rfl, rfl⟩ := hq
  repeat' (first | refine WpC.seq ?_ | refine WpC.region ?_ | refine WpC.drawn ?_ | refine WpC.skip ?_ | refine WpC.block ?_ | refine WpC.exit ?_ | refine WpC.ret ?_ | refine WpO.nil ?_ | refine WpO.cons rfl rfl (WpX.pure (fun _ => rfl) ⟨nolog, ?_⟩) | refine WpO.skip rfl rfl ?_ | refine WpL.cons rfl rfl (WpX.pure (fun _ => rfl) ⟨nolog, ?_⟩) | refine WpL.skip rfl rfl ?_ | refine seqQ_normal ?_ | refine seqQ_ret ?_ | refine seqQ_exit ?_ | refine blkQ_normal ?_ | refine blkQ_ret ?_ | refine blkQ_out rfl ?_ | refine blkQ_by rfl ?_)
  rw [w1]
  obtain ⟨k, hk⟩ : ∃ k : Nat, size - ((flatW ss).length : Int) = k := ⟨(size - ((flatW ss).length : Int)).toNat, by omega⟩
  rw [hk]
  have hsub5 : ∀ (n c : Nat) (j : Nat) (cp : Cap), c1 ≤ c → n ∈ hn hp a vW ++ rowName (V.slice (some (c, 0)) j cp) → n ∈ rowName (V.slice s zs.length cap) ∨ c1 ≤ n := fun n c j cp hc hn => by
    rcases List.mem_append.1 hn with h | h
    · exact hsubH n h
    · have h : n ∈ [c] := h; simp at h; exact .inr (by omega)
  repeat' (first | refine WpC.seq ?_ | refine WpC.region ?_ | refine WpC.drawn ?_ | refine WpC.skip ?_ | refine WpC.block ?_ | refine WpC.exit ?_ | refine WpC.ret ?_ | refine WpO.nil ?_ | refine WpO.cons rfl rfl (WpX.pure (fun _ => rfl) ⟨nolog, ?_⟩) | refine WpO.skip rfl rfl ?_ | refine WpL.cons rfl rfl (WpX.pure (fun _ => rfl) ⟨nolog, ?_⟩) | refine WpL.skip rfl rfl ?_ | refine seqQ_normal ?_ | refine seqQ_ret ?_ | refine seqQ_exit ?_ | refine blkQ_normal ?_ | refine blkQ_ret ?_ | refine blkQ_out rfl ?_ | refine blkQ_by rfl ?_ | refine WpO.cons rfl rfl (op_makeSlice rfl rfl rfl (zero_words k rfl rfl) ⟨_, rfl, by decide⟩ ⟨Nat.le_refl _, by omega⟩ ⟨(by simp [InL, Acc.name, rowName] <;> omega), ?_⟩) | refine WpL.cons rfl rfl (op_makeSlice rfl rfl rfl (zero_words k rfl rfl) ⟨_, rfl, by decide⟩ ⟨Nat.le_refl _, by omega⟩ ⟨(by simp [InL, Acc.name, rowName] <;> omega), ?_⟩))
  have hsepX : ∀ (C : Nat) (j : Nat) (cp : Cap), c' ≤ C → ∀ n ∈ rowName (V.slice (some (C, 0)) j cp), n ∉ hn hp a vW := fun C j cp hC n hn1 hn2 => by
    have hn1 : n ∈ [C] := hn1
    simp at hn1
    have := hnm n (List.mem_append_left _ hn2); omega
  have r5 : ∀ o, FlatH (MapI.set h' c' o) (c' + 1) hp a c1 vW vR ss (posL ss) size M := fun o => rr.same (by omega) fun n hn => MapI.get_ne _ _ _ _ (by omega)
  have hxk : okH (tupH (k : Int) 1) := ⟨by simp, by simp, by simp, by simp only; omega, by simp, by simp⟩
  refine WpO.cons rfl rfl (call_at rfl (hmake_no (n := (k : Int)) (t := 1) (r5 _).hm.hm (row_zeros (k := k) (MapI.get_same _ _ _) (by omega)) (by simp) hxk (by omega)) (fun n hn => hsub5 n c' k _ hc' hn) (by omega) fun v6 h6 c6 hc6 _ hq => ?_)
  obtain ⟨rfl, hf6⟩ := hq
  have r6 : FlatH h6 c6 hp a c1 vW vR ss (posL ss) size M := rr.same (by omega) fun n hn => by rw [hf6 n (by omega)]; exact MapI.get_ne _ _ _ _ (by omega)
  repeat' (first | refine WpC.seq ?_ | refine WpC.region ?_ | refine WpC.drawn ?_ | refine WpC.skip ?_ | refine WpC.block ?_ | refine WpC.exit ?_ | refine WpC.ret ?_ | refine WpO.nil ?_ | refine WpO.cons rfl rfl (WpX.pure (fun _ => rfl) ⟨nolog, ?_⟩) | refine WpO.skip rfl rfl ?_ | refine WpL.cons rfl rfl (WpX.pure (fun _ => rfl) ⟨nolog, ?_⟩) | refine WpL.skip rfl rfl ?_ | refine seqQ_normal ?_ | refine seqQ_ret ?_ | refine seqQ_exit ?_ | refine blkQ_normal ?_ | refine blkQ_ret ?_ | refine blkQ_out rfl ?_ | refine blkQ_by rfl ?_)
  refine WpC.cond rfl (fun hb => ?_) (fun hb => ?_)
  · have hb : 0 < k := by have : (0 : Int) < k := by simpa using hb
                          omega
    obtain ⟨j, rfl⟩ : ∃ j, k = j + 1 := ⟨k - 1, by omega⟩
    have w2 : IntKind.i64.wrap (((j + 1 : Nat) : Int) - 1) = (j : Nat) := by rw [Go.IntWalk.i64_in _ (by omega)]; omega
    repeat' (first | refine WpC.seq ?_ | refine WpC.region ?_ | refine WpC.drawn ?_ | refine WpC.skip ?_ | refine WpC.block ?_ | refine WpC.exit ?_ | refine WpC.ret ?_ | refine WpO.nil ?_ | refine WpO.cons rfl rfl (WpX.pure (fun _ => rfl) ⟨nolog, ?_⟩) | refine WpO.skip rfl rfl ?_ | refine WpL.cons rfl rfl (WpX.pure (fun _ => rfl) ⟨nolog, ?_⟩) | refine WpL.skip rfl rfl ?_ | refine seqQ_normal ?_ | refine seqQ_ret ?_ | refine seqQ_exit ?_ | refine blkQ_normal ?_ | refine blkQ_ret ?_ | refine blkQ_out rfl ?_ | refine blkQ_by rfl ?_)
    rw [w2]
    repeat' (first | refine WpC.seq ?_ | refine WpC.region ?_ | refine WpC.drawn ?_ | refine WpC.skip ?_ | refine WpC.block ?_ | refine WpC.exit ?_ | refine WpC.ret ?_ | refine WpO.nil ?_ | refine WpO.cons rfl rfl (WpX.pure (fun _ => rfl) ⟨nolog, ?_⟩) | refine WpO.skip rfl rfl ?_ | refine WpL.cons rfl rfl (WpX.pure (fun _ => rfl) ⟨nolog, ?_⟩) | refine WpL.skip rfl rfl ?_ | refine seqQ_normal ?_ | refine seqQ_ret ?_ | refine seqQ_exit ?_ | refine blkQ_normal ?_ | refine blkQ_ret ?_ | refine blkQ_out rfl ?_ | refine blkQ_by rfl ?_ | refine WpO.cons rfl rfl (op_makeSlice rfl rfl rfl (zero_words j rfl rfl) ⟨_, rfl, by decide⟩ ⟨Nat.le_refl _, by omega⟩ ⟨(by simp [InL, Acc.name, rowName] <;> omega), ?_⟩) | refine WpL.cons rfl rfl (op_makeSlice rfl rfl rfl (zero_words j rfl rfl) ⟨_, rfl, by decide⟩ ⟨Nat.le_refl _, by omega⟩ ⟨(by simp [InL, Acc.name, rowName] <;> omega), ?_⟩))
    have r7 : ∀ o, FlatH (MapI.set h6 c6 o) (c6 + 1) hp a c1 vW vR ss (posL ss) size M := fun o => r6.same (by omega) fun n hn => MapI.get_ne _ _ _ _ (by omega)
    have hxj : okH (tupH (j : Int) 1) := ⟨by simp, by simp, by simp, by simp only; omega, by simp, by simp⟩
    refine WpO.cons rfl rfl (call_at rfl (make_flat (n := (j : Int)) (t := 1) (r7 _) (row_zeros (k := j) (MapI.get_same _ _ _) (by omega)) rfl hxj (hsepX c6 j _ (by omega)) (by omega)) (fun n hn => hsub5 n c6 j _ (by omega) hn) (by omega) fun v8 h8 c8 hc8 _ hq => ?_)
    obtain ⟨rfl, vW8, hm8, _, _, hn8, _⟩ := hq
    have hsub8 : ∀ n ∈ hn hp a vW8, n ∈ rowName (V.slice s zs.length cap) ∨ c1 ≤ n := fun n hh => by
      rcases List.mem_cons.1 hh with h | h
      · exact hsubH n (by rw [h]; exact List.mem_cons_self ..)
      · rcases List.mem_cons.1 h with h | h
        · exact hsubH n (by rw [h]; exact List.mem_cons_of_mem _ (List.mem_cons_self ..))
        · rcases hn8 n h with h | h
          · exact hsubH n (List.mem_cons_of_mem _ (List.mem_cons_of_mem _ h))
          · exact .inr (by omega)
    have hfl : ((flatW (ss ++ [tupH (j : Int) 1])).length : Int) = (flatW ss).length + 1 + j := flat_snoc (by omega)
    repeat' (first | refine WpC.seq ?_ | refine WpC.region ?_ | refine WpC.drawn ?_ | refine WpC.skip ?_ | refine WpC.block ?_ | refine WpC.exit ?_ | refine WpC.ret ?_ | refine WpO.nil ?_ | refine WpO.cons rfl rfl (WpX.pure (fun _ => rfl) ⟨nolog, ?_⟩) | refine WpO.skip rfl rfl ?_ | refine WpL.cons rfl rfl (WpX.pure (fun _ => rfl) ⟨nolog, ?_⟩) | refine WpL.skip rfl rfl ?_ | refine seqQ_normal ?_ | refine seqQ_ret ?_ | refine seqQ_exit ?_ | refine blkQ_normal ?_ | refine blkQ_ret ?_ | refine blkQ_out rfl ?_ | refine blkQ_by rfl ?_)
    refine WpO.cons rfl rfl (call_atD rfl (hused_ok hm8.hm) hsub8 (by omega) fun v1 h1' c1' _ _ hq => ?_)
    obtain ⟨rfl, rfl, rfl⟩ := hq
    repeat' (first | refine WpC.seq ?_ | refine WpC.region ?_ | refine WpC.drawn ?_ | refine WpC.skip ?_ | refine WpC.block ?_ | refine WpC.exit ?_ | refine WpC.ret ?_ | refine WpO.nil ?_ | refine WpO.cons rfl rfl (WpX.pure (fun _ => rfl) ⟨nolog, ?_⟩) | refine WpO.skip rfl rfl ?_ | refine WpL.cons rfl rfl (WpX.pure (fun _ => rfl) ⟨nolog, ?_⟩) | refine WpL.skip rfl rfl ?_ | refine seqQ_normal ?_ | refine seqQ_ret ?_ | refine seqQ_exit ?_ | refine blkQ_normal ?_ | refine blkQ_ret ?_ | refine blkQ_out rfl ?_ | refine blkQ_by rfl ?_)
    refine WpO.cons rfl rfl (call_atD rfl (hcap_ok hm8.hm) hsub8 (by omega) fun v1 h1' c1' _ _ hq => ?_)
    obtain ⟨rfl, rfl, rfl⟩ := hq
    rw [hfl]
    repeat' (first | refine WpC.seq ?_ | refine WpC.region ?_ | refine WpC.drawn ?_ | refine WpC.skip ?_ | refine WpC.block ?_ | refine WpC.exit ?_ | refine WpC.ret ?_ | refine WpO.nil ?_ | refine WpO.cons rfl rfl (WpX.pure (fun _ => rfl) ⟨nolog, ?_⟩) | refine WpO.skip rfl rfl ?_ | refine WpL.cons rfl rfl (WpX.pure (fun _ => rfl) ⟨nolog, ?_⟩) | refine WpL.skip rfl rfl ?_ | refine seqQ_normal ?_ | refine seqQ_ret ?_ | refine seqQ_exit ?_ | refine blkQ_normal ?_ | refine blkQ_ret ?_ | refine blkQ_out rfl ?_ | refine blkQ_by rfl ?_)
    refine out_ret rfl ?_
    show V.bool (((flatW ss).length : Int) + 1 + j == size) = V.bool true
    rw [show ((flatW ss).length : Int) + 1 + j = size from by omega]
    simp
  have hb : k = 0 := by have : ¬ (0 : Int) < k := by simpa using hb
                        omega
  subst hb
  repeat' (first | refine WpC.seq ?_ | refine WpC.region ?_ | refine WpC.drawn ?_ | refine WpC.skip ?_ | refine WpC.block ?_ | refine WpC.exit ?_ | refine WpC.ret ?_ | refine WpO.nil ?_ | refine WpO.cons rfl rfl (WpX.pure (fun _ => rfl) ⟨nolog, ?_⟩) | refine WpO.skip rfl rfl ?_ | refine WpL.cons rfl rfl (WpX.pure (fun _ => rfl) ⟨nolog, ?_⟩) | refine WpL.skip rfl rfl ?_ | refine seqQ_normal ?_ | refine seqQ_ret ?_ | refine seqQ_exit ?_ | refine blkQ_normal ?_ | refine blkQ_ret ?_ | refine blkQ_out rfl ?_ | refine blkQ_by rfl ?_)
  refine WpO.cons rfl rfl (call_atD rfl (hused_ok r6.hm.hm) hsubH (by omega) fun v1 h1' c1' _ _ hq => ?_)
  obtain ⟨rfl, rfl, rfl⟩ := hq
  repeat' (first | refine WpC.seq ?_ | refine WpC.region ?_ | refine WpC.drawn ?_ | refine WpC.skip ?_ | refine WpC.block ?_ | refine WpC.exit ?_ | refine WpC.ret ?_ | refine WpO.nil ?_ | refine WpO.cons rfl rfl (WpX.pure (fun _ => rfl) ⟨nolog, ?_⟩) | refine WpO.skip rfl rfl ?_ | refine WpL.cons rfl rfl (WpX.pure (fun _ => rfl) ⟨nolog, ?_⟩) | refine WpL.skip rfl rfl ?_ | refine seqQ_normal ?_ | refine seqQ_ret ?_ | refine seqQ_exit ?_ | refine blkQ_normal ?_ | refine blkQ_ret ?_ | refine blkQ_out rfl ?_ | refine blkQ_by rfl ?_)
  refine WpO.cons rfl rfl (call_atD rfl (hcap_ok r6.hm.hm) hsubH (by omega) fun v1 h1' c1' _ _ hq => ?_)
  obtain ⟨rfl, rfl, rfl⟩ := hq
  repeat' (first | refine WpC.seq ?_ | refine WpC.region ?_ | refine WpC.drawn ?_ | refine WpC.skip ?_ | refine WpC.block ?_ | refine WpC.exit ?_ | refine WpC.ret ?_ | refine WpO.nil ?_ | refine WpO.cons rfl rfl (WpX.pure (fun _ => rfl) ⟨nolog, ?_⟩) | refine WpO.skip rfl rfl ?_ | refine WpL.cons rfl rfl (WpX.pure (fun _ => rfl) ⟨nolog, ?_⟩) | refine WpL.skip rfl rfl ?_ | refine seqQ_normal ?_ | refine seqQ_ret ?_ | refine seqQ_exit ?_ | refine blkQ_normal ?_ | refine blkQ_ret ?_ | refine blkQ_out rfl ?_ | refine blkQ_by rfl ?_)
  refine out_ret rfl ?_
  show V.bool (((flatW ss).length : Int) == size) = V.bool true
  rw [show ((flatW ss).length : Int) = size from by omega]
  simp
end Go.Proofs.Ytempfmkicpifkaa


set_option linter.unusedVariables false
set_option maxRecDepth 10000
set_option linter.unnecessarySimpa false
namespace Go.Proofs.Ytempfmkicpifkaa
open Go.Ab
theorem u8_in {z : Int} (h : (Lit.int .u8 z).wf = true) : 0 ≤ z ∧ z < 256 := by
  have e := (Lit.wf_int_iff _ _).1 h
  have h1 : IntKind.min .u8 = 0 := rfl
  have h2 : IntKind.max .u8 = 255 := rfl
  omega
theorem u16_in {z : Int} (h : (Lit.int .u16 z).wf = true) : 0 ≤ z ∧ z < 65536 := by
  have e := (Lit.wf_int_iff _ _).1 h
  have h1 : IntKind.min .u16 = 0 := rfl
  have h2 : IntKind.max .u16 = 65535 := rfl
  omega
theorem gives_walk {T : Type} {ds : List (DataW T)} : ∀ (h : HH) (c : Nat) (xs : List V), ArgsR Try.prog h c [50, 22] xs ds → Clear h c → WpX (cl 5 xs) h c fun v _ _ _ => v = .bool true := by
  intro h c xs r _
  cases r with
  | @cons _ _ x1 _ _ _ a ha r =>
    cases r with
    | @cons _ _ x2 _ _ _ b hb r =>
      cases r
      obtain ⟨z, hz, _, hzw⟩ := a.inv_int (k := .u16) rfl
      obtain ⟨ys, hl, hys⟩ := b.ints (e := 5) (k := .u8) rfl rfl (hb.trans rfl)
      have e1 : x1 = .int .u16 z := by
        have ha : isAggV x1 = false := ha.trans rfl
        cases x1 <;> first | (cases ha; done) | (simpa [cellsV] using hz)
      subst e1
      exact WpX.mono (gives_law (u16_in hzw) hl (fun z hz => u8_in (hys z hz))) fun v h' c' l q => q.2.2.2
end Go.Proofs.Ytempfmkicpifkaa
