/- HeapLive: what is live. -/
/- HeapLive: its arguments as data. -/
import Derived.Test.YtempfmkicpifkaaHpF
import Derived.Test.YtempfmkicpifkaaAdC
import Derived.Test.YtempfmkicpifkaaAdT
import Derived.DataShut


set_option linter.unusedVariables false
set_option linter.unusedSectionVars false
set_option linter.unusedSimpArgs false
set_option linter.unnecessarySimpa false
namespace Go.Proofs.Ytempfmkicpifkaa
open Go.Ab
set_option maxRecDepth 10000

abbrev four : Hd := tupH 3 4
def all4 (ss : List Hd) : Prop := ∀ x ∈ ss, x = four
theorem flat4 : ∀ {ss : List Hd}, all4 ss → (flatW ss).length = 4 * ss.length
  | [], _ => rfl
  | x :: ss, h => by
    have hx : x = four := h x (List.mem_cons_self ..)
    subst hx
    rw [flatW_cons, List.length_append, flat4 fun y hy => h y (List.mem_cons_of_mem _ hy), List.length_cons]
    show 4 + 4 * ss.length = _
    omega
theorem FlatI.few {ss : List Hd} {ps : List Nat} (f : FlatI ss ps) : ps.length ≤ ss.length := by
  have h := congrArg List.length f.live
  rw [List.length_map] at h
  have h2 : (liveOf (flatW ss) (objL 0 ss) (ps.map ptrW)).length ≤ (objL 0 ss).length := List.length_filter_le _ _
  have h3 := congrArg List.length (objL_snd ss 0)
  rw [List.length_map] at h3
  omega
theorem four_ok : okH four := ⟨by simp, by simp, by simp, by simp, by simp, by simp⟩

set_option maxHeartbeats 4000000 in
theorem live_law {h : HH} {c m more : Nat} {b : Bool} {l : V} {bs : List Bool} (hm : m < 65536) (hmore : more < 700) (hl : RowArg h c l 1 bs.length (flat boolV bs)) : Does 41 [.int .u16 m, l, I more, .bool b] h c (rowName l) fun v h' c' => v = .bool true := by
  obtain ⟨s, cap, rfl, hs⟩ : ∃ a cap, l = .slice a bs.length cap ∧ (∀ i, i < bs.length → ∃ s, a = some (s, 0) ∧ s < c ∧ MapI.get h s = some (.cells false false (flat boolV bs))) := by
    rcases hl.is with ⟨rfl, hz⟩ | ⟨s, cap, rfl, h1, _, _, h2⟩
    · exact ⟨none, .known 0, by rw [hz], fun i hi => by omega⟩
    · exact ⟨_, .known cap, rfl, fun i hi => ⟨s, rfl, h1, h2 (by omega)⟩⟩
  refine does_of (enter (fn := Try.f41) Try.func41 rfl rfl (Nat.le_of_ble_eq_true rfl) ?_)
  repeat' (first | refine WpC.seq ?_ | refine WpC.region ?_ | refine WpC.drawn ?_ | refine WpC.skip ?_ | refine WpC.block ?_ | refine WpC.exit ?_ | refine WpC.ret ?_ | refine WpO.nil ?_ | refine WpO.cons rfl rfl (WpX.pure (fun _ => rfl) ⟨nolog, ?_⟩) | refine WpO.skip rfl rfl ?_ | refine WpL.cons rfl rfl (WpX.pure (fun _ => rfl) ⟨nolog, ?_⟩) | refine WpL.skip rfl rfl ?_ | refine seqQ_normal ?_ | refine seqQ_ret ?_ | refine seqQ_exit ?_ | refine blkQ_normal ?_ | refine blkQ_ret ?_ | refine blkQ_out rfl ?_ | refine blkQ_by rfl ?_ | refine WpO.cons rfl rfl (op_len rfl rfl rfl ⟨(by simp [InL, Acc.name, rowName] <;> omega), ?_⟩) | refine WpL.cons rfl rfl (op_len rfl rfl rfl ⟨(by simp [InL, Acc.name, rowName] <;> omega), ?_⟩))
  refine WpC.cond rfl (fun _ => ?_) (fun hgt => ?_)
  ·
    repeat' (first | refine WpC.seq ?_ | refine WpC.region ?_ | refine WpC.drawn ?_ | refine WpC.skip ?_ | refine WpC.block ?_ | refine WpC.exit ?_ | refine WpC.ret ?_ | refine WpO.nil ?_ | refine WpO.cons rfl rfl (WpX.pure (fun _ => rfl) ⟨nolog, ?_⟩) | refine WpO.skip rfl rfl ?_ | refine WpL.cons rfl rfl (WpX.pure (fun _ => rfl) ⟨nolog, ?_⟩) | refine WpL.skip rfl rfl ?_ | refine seqQ_normal ?_ | refine seqQ_ret ?_ | refine seqQ_exit ?_ | refine blkQ_normal ?_ | refine blkQ_ret ?_ | refine blkQ_out rfl ?_ | refine blkQ_by rfl ?_)
    refine WpO.cons rfl rfl (call_at rfl (shut_ok rfl) (by simp) (Nat.le_refl _) fun v h1 c1 hc1 hfr1 hq => ?_)
    obtain ⟨rfl, rfl, rfl⟩ := hq
    repeat' (first | refine WpC.seq ?_ | refine WpC.region ?_ | refine WpC.drawn ?_ | refine WpC.skip ?_ | refine WpC.block ?_ | refine WpC.exit ?_ | refine WpC.ret ?_ | refine WpO.nil ?_ | refine WpO.cons rfl rfl (WpX.pure (fun _ => rfl) ⟨nolog, ?_⟩) | refine WpO.skip rfl rfl ?_ | refine WpL.cons rfl rfl (WpX.pure (fun _ => rfl) ⟨nolog, ?_⟩) | refine WpL.skip rfl rfl ?_ | refine seqQ_normal ?_ | refine seqQ_ret ?_ | refine seqQ_exit ?_ | refine blkQ_normal ?_ | refine blkQ_ret ?_ | refine blkQ_out rfl ?_ | refine blkQ_by rfl ?_)
    exact out_ret rfl rfl
  have hlen : bs.length ≤ 100 := by have : (bs.length : Int) ≤ 100 := by simpa using hgt
                                    omega
  have eM : IntKind.i64.wrap (32 + (IntKind.i64.wrap (m : Int)).tmod 500) = ((32 + m % 500 : Nat) : Int) := by
    rw [Go.IntWalk.i64_in (m : Int) (by omega), Int.tmod_eq_emod_of_nonneg (by omega), Go.IntWalk.i64_in _ (by omega)]; omega
  repeat' (first | refine WpC.seq ?_ | refine WpC.region ?_ | refine WpC.drawn ?_ | refine WpC.skip ?_ | refine WpC.block ?_ | refine WpC.exit ?_ | refine WpC.ret ?_ | refine WpO.nil ?_ | refine WpO.cons rfl rfl (WpX.pure (fun _ => rfl) ⟨nolog, ?_⟩) | refine WpO.skip rfl rfl ?_ | refine WpL.cons rfl rfl (WpX.pure (fun _ => rfl) ⟨nolog, ?_⟩) | refine WpL.skip rfl rfl ?_ | refine seqQ_normal ?_ | refine seqQ_ret ?_ | refine seqQ_exit ?_ | refine blkQ_normal ?_ | refine blkQ_ret ?_ | refine blkQ_out rfl ?_ | refine blkQ_by rfl ?_)
  rw [eM]
  have hM1 : 32 ≤ 32 + m % 500 ∧ 32 + m % 500 ≤ 531 := by omega
  generalize 32 + m % 500 = M at hM1
  refine WpO.cons rfl rfl (call_at rfl (snew_ok (most := 0) (by decide) (by decide)) (by simp) (Nat.le_refl _) fun v h2 c2 hc2 hfr2 hq => ?_)
  obtain ⟨rfl, rfl, _⟩ := hq
  repeat' (first | refine WpC.seq ?_ | refine WpC.region ?_ | refine WpC.drawn ?_ | refine WpC.skip ?_ | refine WpC.block ?_ | refine WpC.exit ?_ | refine WpC.ret ?_ | refine WpO.nil ?_ | refine WpO.cons rfl rfl (WpX.pure (fun _ => rfl) ⟨nolog, ?_⟩) | refine WpO.skip rfl rfl ?_ | refine WpL.cons rfl rfl (WpX.pure (fun _ => rfl) ⟨nolog, ?_⟩) | refine WpL.skip rfl rfl ?_ | refine seqQ_normal ?_ | refine seqQ_ret ?_ | refine seqQ_exit ?_ | refine blkQ_normal ?_ | refine blkQ_ret ?_ | refine blkQ_out rfl ?_ | refine blkQ_by rfl ?_)
  refine WpO.cons rfl rfl (call_at rfl (hnew_ok (most := (M : Int)) (by omega)) (by simp) (by omega) fun v h3 c3 hc3 hfr3 hq => ?_)
  obtain ⟨rfl, a, hH, ha, hf3⟩ := hq
  have hr3 := FlatH.start hH
  have hfr3' : ∀ n, n < c → MapI.get h3 n = MapI.get h n := fun n hn => by rw [hf3 n (by omega), hfr2 n hn (by simp)]
  have hown3 : ∀ n ∈ hmn (c + 1) a (V.slice none 0 (.known 0)) (V.slice none 0 (.known 0)), c ≤ n := fun n hn => by
    have hn : n ∈ [c + 1, a] := hn
    simp at hn; omega
  have hlt3 := hr3.hm.names
  repeat' (first | refine WpC.seq ?_ | refine WpC.region ?_ | refine WpC.drawn ?_ | refine WpC.skip ?_ | refine WpC.block ?_ | refine WpC.exit ?_ | refine WpC.ret ?_ | refine WpO.nil ?_ | refine WpO.cons rfl rfl (WpX.pure (fun _ => rfl) ⟨nolog, ?_⟩) | refine WpO.skip rfl rfl ?_ | refine WpL.cons rfl rfl (WpX.pure (fun _ => rfl) ⟨nolog, ?_⟩) | refine WpL.skip rfl rfl ?_ | refine seqQ_normal ?_ | refine seqQ_ret ?_ | refine seqQ_exit ?_ | refine blkQ_normal ?_ | refine blkQ_ret ?_ | refine blkQ_out rfl ?_ | refine blkQ_by rfl ?_)
  refine WpC.cond rfl (fun hb => by cases hb) (fun _ => ?_)
  generalize c + 1 = hp at *
  repeat' (first | refine WpC.seqI (a := Code.seq (Code.region 9 _ _) _) (fun e' h' c' => ∃ vR vW ss ps size, (∃ b0, e' = FR b0 [(2, I more), (3, V.bool b), (9, I M), (11, V.ptr (some (hp, 0))), (12, vR)]) ∧ c ≤ c' ∧ all4 ss ∧ ps.length ≤ 100 ∧ FlatH h' c' hp a c vW vR ss ps size M ∧ (∀ n ∈ hmn hp a vW vR, c ≤ n)) ?_ ?_ | refine WpC.seq ?_ | refine WpC.region ?_ | refine WpC.drawn ?_ | refine WpC.skip ?_ | refine WpC.block ?_ | refine WpC.exit ?_ | refine WpC.ret ?_ | refine WpO.nil ?_ | refine WpO.cons rfl rfl (WpX.pure (fun _ => rfl) ⟨nolog, ?_⟩) | refine WpO.skip rfl rfl ?_ | refine WpL.cons rfl rfl (WpX.pure (fun _ => rfl) ⟨nolog, ?_⟩) | refine WpL.skip rfl rfl ?_ | refine seqQ_normal ?_ | refine seqQ_ret ?_ | refine seqQ_exit ?_ | refine blkQ_normal ?_ | refine blkQ_ret ?_ | refine blkQ_out rfl ?_ | refine blkQ_by rfl ?_)
  ·
    repeat' (first | refine WpC.seq ?_ | refine WpC.region ?_ | refine WpC.drawn ?_ | refine WpC.skip ?_ | refine WpC.block ?_ | refine WpC.exit ?_ | refine WpC.ret ?_ | refine WpO.nil ?_ | refine WpO.cons rfl rfl (WpX.pure (fun _ => rfl) ⟨nolog, ?_⟩) | refine WpO.skip rfl rfl ?_ | refine WpL.cons rfl rfl (WpX.pure (fun _ => rfl) ⟨nolog, ?_⟩) | refine WpL.skip rfl rfl ?_ | refine seqQ_normal ?_ | refine seqQ_ret ?_ | refine seqQ_exit ?_ | refine blkQ_normal ?_ | refine blkQ_ret ?_ | refine blkQ_out rfl ?_ | refine blkQ_by rfl ?_)
    refine WpC.loop ?_
    refine WpLoop.ind (X := Nat × V × V × List Hd × List Nat × Int) (fun y e' h' c' => (∃ b0, e' = FR b0 [(1, .slice s bs.length cap), (2, I more), (3, V.bool b), (9, I M), (11, V.ptr (some (hp, 0))), (12, y.2.1), (13, I y.1)]) ∧ y.1 ≤ bs.length ∧ all4 y.2.2.2.1 ∧ y.2.2.2.2.1.length ≤ y.1 ∧ c3 ≤ c' ∧ FlatH h' c' hp a c y.2.2.1 y.2.1 y.2.2.2.1 y.2.2.2.2.1 y.2.2.2.2.2 M ∧ (∀ n ∈ hmn hp a y.2.2.1 y.2.1, c ≤ n) ∧ ∀ n, n < c → MapI.get h' n = MapI.get h n)
      (fun y => bs.length - y.1) ?_ (0, .slice none 0 (.known 0), .slice none 0 (.known 0), [], [], _) _ _ _ ⟨fr ⟨rfl, rfl, rfl, rfl, rfl, rfl, rfl, trivial⟩, Nat.zero_le _, fun x hx => (by cases hx), Nat.zero_le _, Nat.le_refl _, hr3, hown3, hfr3'⟩
    rintro ⟨i, vR, vW, ss, ps, size⟩ e' h' c' ⟨⟨b0, rfl⟩, hi, h4, hpl, hc', rr, hown, hfv⟩
    simp only at hi h4 hpl rr hown
    repeat' (first | refine WpC.seq ?_ | refine WpC.region ?_ | refine WpC.drawn ?_ | refine WpC.skip ?_ | refine WpC.block ?_ | refine WpC.exit ?_ | refine WpC.ret ?_ | refine WpO.nil ?_ | refine WpO.cons rfl rfl (WpX.pure (fun _ => rfl) ⟨nolog, ?_⟩) | refine WpO.skip rfl rfl ?_ | refine WpL.cons rfl rfl (WpX.pure (fun _ => rfl) ⟨nolog, ?_⟩) | refine WpL.skip rfl rfl ?_ | refine seqQ_normal ?_ | refine seqQ_ret ?_ | refine seqQ_exit ?_ | refine blkQ_normal ?_ | refine blkQ_ret ?_ | refine blkQ_out rfl ?_ | refine blkQ_by rfl ?_ | refine WpO.cons rfl rfl (op_len rfl rfl rfl ⟨(by simp [InL, Acc.name, rowName] <;> omega), ?_⟩) | refine WpL.cons rfl rfl (op_len rfl rfl rfl ⟨(by simp [InL, Acc.name, rowName] <;> omega), ?_⟩))
    refine WpC.cond rfl (fun hlt => ?_) (fun hge => ?_)
    case refine_2 =>
      repeat' (first | refine WpC.seq ?_ | refine WpC.region ?_ | refine WpC.drawn ?_ | refine WpC.skip ?_ | refine WpC.block ?_ | refine WpC.exit ?_ | refine WpC.ret ?_ | refine WpO.nil ?_ | refine WpO.cons rfl rfl (WpX.pure (fun _ => rfl) ⟨nolog, ?_⟩) | refine WpO.skip rfl rfl ?_ | refine WpL.cons rfl rfl (WpX.pure (fun _ => rfl) ⟨nolog, ?_⟩) | refine WpL.skip rfl rfl ?_ | refine seqQ_normal ?_ | refine seqQ_ret ?_ | refine seqQ_exit ?_ | refine blkQ_normal ?_ | refine blkQ_ret ?_ | refine blkQ_out rfl ?_ | refine blkQ_by rfl ?_)
      refine ⟨vR, vW, ss, ps, size, fr ?_, by omega, h4, by omega, rr, hown⟩
      exact ⟨rfl, rfl, rfl, rfl, rfl, trivial⟩
    have hlt' : i < bs.length := by simpa using hlt
    obtain ⟨z, hzi⟩ : ∃ z, bs[i]? = some z := ⟨_, List.getElem?_eq_getElem hlt'⟩
    obtain ⟨sn, rfl, hsn, hg⟩ := hs i hlt'
    have hnz : nth (flat boolV bs) (0 + ((i : Nat) : Int).toNat * 1) = some (.bool z) := by
      rw [show 0 + ((i : Nat) : Int).toNat * 1 = i from by simp]
      have := nth_flat0 (cells := boolV) bool_len hzi rfl []
      rwa [List.append_nil] at this
    have hw3 : IntKind.i64.wrap ((i : Int) + 1) = ((i + 1 : Nat) : Int) := by rw [Go.IntWalk.i64_in _ (by omega)]; omega
    have hT : ((flatW ss).length : Int) ≤ M := by have := rr.hm.hm.ar.le; have := rr.hm.hm.mo; omega
    have hsub : ∀ n ∈ hmn hp a vW vR, n ∈ rowName (V.slice (some (sn, 0)) bs.length cap) ∨ c ≤ n := fun n hn => .inr (hown n hn)
    repeat' (first | refine WpC.seq ?_ | refine WpC.region ?_ | refine WpC.drawn ?_ | refine WpC.skip ?_ | refine WpC.block ?_ | refine WpC.exit ?_ | refine WpC.ret ?_ | refine WpO.nil ?_ | refine WpO.cons rfl rfl (WpX.pure (fun _ => rfl) ⟨nolog, ?_⟩) | refine WpO.skip rfl rfl ?_ | refine WpL.cons rfl rfl (WpX.pure (fun _ => rfl) ⟨nolog, ?_⟩) | refine WpL.skip rfl rfl ?_ | refine seqQ_normal ?_ | refine seqQ_ret ?_ | refine seqQ_exit ?_ | refine blkQ_normal ?_ | refine blkQ_ret ?_ | refine blkQ_out rfl ?_ | refine blkQ_by rfl ?_)
    refine WpO.cons rfl rfl (call_at rfl (need_flat (n := 4) rr (by omega)) hsub (by omega) fun v4 h4' c4 hc4 hf4 hq => ?_)
    obtain ⟨vW4, ss4, ps4, size4, rfl, r4, hn4, hfit, hor⟩ := hq
    have h44 : all4 ss4 ∧ ps4.length = ps.length := by
      rcases hor with ⟨rfl, rfl, _⟩ | ⟨rfl, hin, hl, _⟩
      · exact ⟨h4, rfl⟩
      · exact ⟨fun x hx => h4 x (hin x hx), by rw [pos_len]; exact hl⟩
    obtain ⟨h44, hpl4⟩ := h44
    have hown4 : ∀ n ∈ hmn hp a vW4 vR, c ≤ n := fun n hn => by
      rcases List.mem_append.1 hn with h | h
      · rcases List.mem_cons.1 h with h | h
        · exact hown n (List.mem_append_left _ (by rw [h]; exact List.mem_cons_self ..))
        · rcases List.mem_cons.1 h with h | h
          · exact hown n (List.mem_append_left _ (by rw [h]; exact List.mem_cons_of_mem _ (List.mem_cons_self ..)))
          · exact hown n (List.mem_append_left _ (List.mem_cons_of_mem _ (List.mem_cons_of_mem _ (hn4 n h))))
      · exact hown n (List.mem_append_right _ h)
    have hfv4 : ∀ n, n < c → MapI.get h4' n = MapI.get h n := fun n hn => by
      rw [hf4 n (by omega) (fun hh => by have := hown n hh; omega)]; exact hfv n hn
    by_cases hle : (4 : Int) ≤ M - (flatW ss4).length
    case neg =>
      rw [decide_eq_false hle]
      repeat' (first | refine WpC.seq ?_ | refine WpC.region ?_ | refine WpC.drawn ?_ | refine WpC.skip ?_ | refine WpC.block ?_ | refine WpC.exit ?_ | refine WpC.ret ?_ | refine WpO.nil ?_ | refine WpO.cons rfl rfl (WpX.pure (fun _ => rfl) ⟨nolog, ?_⟩) | refine WpO.skip rfl rfl ?_ | refine WpL.cons rfl rfl (WpX.pure (fun _ => rfl) ⟨nolog, ?_⟩) | refine WpL.skip rfl rfl ?_ | refine seqQ_normal ?_ | refine seqQ_ret ?_ | refine seqQ_exit ?_ | refine blkQ_normal ?_ | refine blkQ_ret ?_ | refine blkQ_out rfl ?_ | refine blkQ_by rfl ?_)
      refine WpC.cond rfl (fun _ => ?_) (fun hb => by cases hb)
      repeat' (first | refine WpC.seq ?_ | refine WpC.region ?_ | refine WpC.drawn ?_ | refine WpC.skip ?_ | refine WpC.block ?_ | refine WpC.exit ?_ | refine WpC.ret ?_ | refine WpO.nil ?_ | refine WpO.cons rfl rfl (WpX.pure (fun _ => rfl) ⟨nolog, ?_⟩) | refine WpO.skip rfl rfl ?_ | refine WpL.cons rfl rfl (WpX.pure (fun _ => rfl) ⟨nolog, ?_⟩) | refine WpL.skip rfl rfl ?_ | refine seqQ_normal ?_ | refine seqQ_ret ?_ | refine seqQ_exit ?_ | refine blkQ_normal ?_ | refine blkQ_ret ?_ | refine blkQ_out rfl ?_ | refine blkQ_by rfl ?_)
      refine ⟨vR, vW4, ss4, ps4, size4, fr ?_, by omega, h44, by omega, r4, hown4⟩
      exact ⟨rfl, rfl, rfl, rfl, rfl, trivial⟩
    have hfit := hfit hle
    rw [decide_eq_true hle]
    repeat' (first | refine WpC.seq ?_ | refine WpC.region ?_ | refine WpC.drawn ?_ | refine WpC.skip ?_ | refine WpC.block ?_ | refine WpC.exit ?_ | refine WpC.ret ?_ | refine WpO.nil ?_ | refine WpO.cons rfl rfl (WpX.pure (fun _ => rfl) ⟨nolog, ?_⟩) | refine WpO.skip rfl rfl ?_ | refine WpL.cons rfl rfl (WpX.pure (fun _ => rfl) ⟨nolog, ?_⟩) | refine WpL.skip rfl rfl ?_ | refine seqQ_normal ?_ | refine seqQ_ret ?_ | refine seqQ_exit ?_ | refine blkQ_normal ?_ | refine blkQ_ret ?_ | refine blkQ_out rfl ?_ | refine blkQ_by rfl ?_)
    refine WpC.cond rfl (fun hb => by cases hb) (fun _ => ?_)
    repeat' (first | refine WpC.seq ?_ | refine WpC.region ?_ | refine WpC.drawn ?_ | refine WpC.skip ?_ | refine WpC.block ?_ | refine WpC.exit ?_ | refine WpC.ret ?_ | refine WpO.nil ?_ | refine WpO.cons rfl rfl (WpX.pure (fun _ => rfl) ⟨nolog, ?_⟩) | refine WpO.skip rfl rfl ?_ | refine WpL.cons rfl rfl (WpX.pure (fun _ => rfl) ⟨nolog, ?_⟩) | refine WpL.skip rfl rfl ?_ | refine seqQ_normal ?_ | refine seqQ_ret ?_ | refine seqQ_exit ?_ | refine blkQ_normal ?_ | refine blkQ_ret ?_ | refine blkQ_out rfl ?_ | refine blkQ_by rfl ?_ | refine WpO.cons rfl rfl (op_buildSlice (k := 1) rfl rfl rfl rfl (by decide) rfl ⟨(by simp [InL, Acc.name, rowName] <;> omega), ?_⟩) | refine WpL.cons rfl rfl (op_buildSlice (k := 1) rfl rfl rfl rfl (by decide) rfl ⟨(by simp [InL, Acc.name, rowName] <;> omega), ?_⟩))
    have hnm4 := r4.hm.names
    have r5 : ∀ o, FlatH (MapI.set h4' c4 o) (c4 + 1) hp a c vW4 vR ss4 ps4 size4 M := fun o => r4.same (by omega) fun n hn => MapI.get_ne _ _ _ _ (by omega)
    have hsub5 : ∀ n ∈ hn hp a vW4 ++ rowName (V.slice (some (c4, 0)) 3 (.known 3)), n ∈ rowName (V.slice (some (sn, 0)) bs.length cap) ∨ c ≤ n := fun n hn => by
      rcases List.mem_append.1 hn with h | h
      · exact .inr (hown4 n (List.mem_append_left _ h))
      · have h : n ∈ [c4] := h; simp at h; exact .inr (by omega)
    refine WpO.cons rfl rfl (call_at rfl (make_flat (n := 3) (t := 4) (k := 3) (r5 (.cells true true [U 0, U 0, U 0])) (row_zeros (k := 3) (MapI.get_same _ _ _) (by omega)) rfl four_ok (fun n hn1 hn2 => ?_) (by omega)) hsub5 (by omega) fun v5 h5 c5 hc5 hf5 hq => ?_)
    · have hn1 : n ∈ [c4] := hn1
      simp at hn1
      have := hnm4 n (List.mem_append_left _ hn2); omega
    obtain ⟨rfl, vW5, hm5, hi5, hj5, hn5, hk5⟩ := hq
    have h45 : all4 (ss4 ++ [four]) := fun x hx => by
      rcases List.mem_append.1 hx with h | h
      · exact h44 x h
      · exact List.mem_singleton.1 h
    have hfv5 : ∀ n, n < c → MapI.get h5 n = MapI.get h n := fun n hn => by
      rw [hf5 n (by omega) (fun hh => by
        rcases List.mem_append.1 hh with h | h
        · have := hown4 n (List.mem_append_left _ h); omega
        · have h : n ∈ [c4] := h; simp at h; omega), MapI.get_ne _ _ _ _ (by omega)]
      exact hfv4 n hn
    have hownW : ∀ n ∈ hn hp a vW5, c ≤ n := fun n h => by
      rcases List.mem_cons.1 h with h | h
      · exact hown4 n (List.mem_append_left _ (by rw [h]; exact List.mem_cons_self ..))
      · rcases List.mem_cons.1 h with h | h
        · exact hown4 n (List.mem_append_left _ (by rw [h]; exact List.mem_cons_of_mem _ (List.mem_cons_self ..)))
        · rcases hn5 n h with h | h
          · exact hown4 n (List.mem_append_left _ (List.mem_cons_of_mem _ (List.mem_cons_of_mem _ h)))
          · omega
    have hg5 : MapI.get h5 sn = _ := (hfv5 sn hsn).trans hg
    repeat' (first | refine WpC.seq ?_ | refine WpC.region ?_ | refine WpC.drawn ?_ | refine WpC.skip ?_ | refine WpC.block ?_ | refine WpC.exit ?_ | refine WpC.ret ?_ | refine WpO.nil ?_ | refine WpO.cons rfl rfl (WpX.pure (fun _ => rfl) ⟨nolog, ?_⟩) | refine WpO.skip rfl rfl ?_ | refine WpL.cons rfl rfl (WpX.pure (fun _ => rfl) ⟨nolog, ?_⟩) | refine WpL.skip rfl rfl ?_ | refine seqQ_normal ?_ | refine seqQ_ret ?_ | refine seqQ_exit ?_ | refine blkQ_normal ?_ | refine blkQ_ret ?_ | refine blkQ_out rfl ?_ | refine blkQ_by rfl ?_)
    refine WpC.cond rfl (fun hb => by cases hb) (fun _ => ?_)
    repeat' (first | refine WpC.seq ?_ | refine WpC.region ?_ | refine WpC.drawn ?_ | refine WpC.skip ?_ | refine WpC.block ?_ | refine WpC.exit ?_ | refine WpC.ret ?_ | refine WpO.nil ?_ | refine WpO.cons rfl rfl (WpX.pure (fun _ => rfl) ⟨nolog, ?_⟩) | refine WpO.skip rfl rfl ?_ | refine WpL.cons rfl rfl (WpX.pure (fun _ => rfl) ⟨nolog, ?_⟩) | refine WpL.skip rfl rfl ?_ | refine seqQ_normal ?_ | refine seqQ_ret ?_ | refine seqQ_exit ?_ | refine blkQ_normal ?_ | refine blkQ_ret ?_ | refine blkQ_out rfl ?_ | refine blkQ_by rfl ?_ | refine WpO.cons rfl rfl (op_indexAddr (k := 1) rfl rfl rfl rfl ⟨by omega, by omega⟩ ⟨(by simp [InL, Acc.name, rowName] <;> omega), ?_⟩) | refine WpL.cons rfl rfl (op_indexAddr (k := 1) rfl rfl rfl rfl ⟨by omega, by omega⟩ ⟨(by simp [InL, Acc.name, rowName] <;> omega), ?_⟩) | refine WpO.cons rfl rfl (op_load rfl rfl rfl hg5 hnz ⟨(by simp [InL, Acc.name, rowName] <;> omega), ?_⟩) | refine WpL.cons rfl rfl (op_load rfl rfl rfl hg5 hnz ⟨(by simp [InL, Acc.name, rowName] <;> omega), ?_⟩))
    refine WpC.cond rfl (fun hb => ?_) (fun hb => ?_)
    case refine_2 =>
      repeat' (first | refine WpC.seq ?_ | refine WpC.region ?_ | refine WpC.drawn ?_ | refine WpC.skip ?_ | refine WpC.block ?_ | refine WpC.exit ?_ | refine WpC.ret ?_ | refine WpO.nil ?_ | refine WpO.cons rfl rfl (WpX.pure (fun _ => rfl) ⟨nolog, ?_⟩) | refine WpO.skip rfl rfl ?_ | refine WpL.cons rfl rfl (WpX.pure (fun _ => rfl) ⟨nolog, ?_⟩) | refine WpL.skip rfl rfl ?_ | refine seqQ_normal ?_ | refine seqQ_ret ?_ | refine seqQ_exit ?_ | refine blkQ_normal ?_ | refine blkQ_ret ?_ | refine blkQ_out rfl ?_ | refine blkQ_by rfl ?_)
      refine ⟨(i + 1, vR, vW5, ss4 ++ [four], ps4, size4), by simp only; omega, ?_, by simp only; omega, h45, by simp only; omega, by omega, ⟨hm5, hi5, r4.ly⟩, fun n hn => ?_, hfv5⟩
      · rw [hw3]
        exact fr ⟨rfl, rfl, rfl, rfl, rfl, rfl, rfl, trivial⟩
      · rcases List.mem_append.1 hn with h | h
        · exact hownW n h
        · exact hown n (List.mem_append_right _ h)
    repeat' (first | refine WpC.seq ?_ | refine WpC.region ?_ | refine WpC.drawn ?_ | refine WpC.skip ?_ | refine WpC.block ?_ | refine WpC.exit ?_ | refine WpC.ret ?_ | refine WpO.nil ?_ | refine WpO.cons rfl rfl (WpX.pure (fun _ => rfl) ⟨nolog, ?_⟩) | refine WpO.skip rfl rfl ?_ | refine WpL.cons rfl rfl (WpX.pure (fun _ => rfl) ⟨nolog, ?_⟩) | refine WpL.skip rfl rfl ?_ | refine seqQ_normal ?_ | refine seqQ_ret ?_ | refine seqQ_exit ?_ | refine blkQ_normal ?_ | refine blkQ_ret ?_ | refine blkQ_out rfl ?_ | refine blkQ_by rfl ?_ | refine WpO.cons rfl rfl (op_buildSlice (k := 1) rfl rfl rfl rfl (by decide) rfl ⟨(by simp [InL, Acc.name, rowName] <;> omega), ?_⟩) | refine WpL.cons rfl rfl (op_buildSlice (k := 1) rfl rfl rfl rfl (by decide) rfl ⟨(by simp [InL, Acc.name, rowName] <;> omega), ?_⟩))
    have hnm5 := hm5.names
    have hm6 : ∀ o, HM (MapI.set h5 c5 o) (c5 + 1) hp a c vW5 vR _ _ size4 M := fun o => hm5.same (by omega) fun n hn => MapI.get_ne _ _ _ _ (by omega)
    have hlyR : ListOf (0 + 1) wordV (MapI.set h5 c5 (.cells true true [U (ptrW (flatW ss4).length)])) (c5 + 1) vR (ps4.map ptrW) := (hm6 _).rr.list r4.ly
    refine WpO.cons rfl rfl (append1 (cells := wordV) (y := ptrW (flatW ss4).length) rfl rfl ⟨rfl, rfl, rfl, ⟨_, rfl, by decide⟩⟩ rfl word_len word_all hlyR (MapI.get_same _ _ _) (by rw [List.length_map]; omega) (by omega) (fun n h => .inr (hown n (List.mem_append_right _ h))) (by omega) fun v6 h6 c6 rv6 hn6 hc6 hf6 => ?_)
    have r6 := FlatH.push (hm6 _) hj5 rv6 hn6 hc6 hf6 (by omega)
    repeat' (first | refine WpC.seq ?_ | refine WpC.region ?_ | refine WpC.drawn ?_ | refine WpC.skip ?_ | refine WpC.block ?_ | refine WpC.exit ?_ | refine WpC.ret ?_ | refine WpO.nil ?_ | refine WpO.cons rfl rfl (WpX.pure (fun _ => rfl) ⟨nolog, ?_⟩) | refine WpO.skip rfl rfl ?_ | refine WpL.cons rfl rfl (WpX.pure (fun _ => rfl) ⟨nolog, ?_⟩) | refine WpL.skip rfl rfl ?_ | refine seqQ_normal ?_ | refine seqQ_ret ?_ | refine seqQ_exit ?_ | refine blkQ_normal ?_ | refine blkQ_ret ?_ | refine blkQ_out rfl ?_ | refine blkQ_by rfl ?_)
    refine ⟨(i + 1, v6, vW5, ss4 ++ [four], ps4 ++ [(flatW ss4).length], size4), by simp only; omega, ?_, by simp only; omega, h45, by simp only [List.length_append, List.length_singleton]; omega, by omega, r6, fun n hn => ?_, fun n hn => ?_⟩
    · rw [hw3]
      exact fr ⟨rfl, rfl, rfl, rfl, rfl, rfl, rfl, trivial⟩
    · rcases List.mem_append.1 hn with h | h
      · exact hownW n h
      · rcases hn6 n h with h | h
        · exact hown n (List.mem_append_right _ h)
        · omega
    · rw [hf6 n (by omega) (fun hh => by have := hown n (List.mem_append_right _ hh); omega), MapI.get_ne _ _ _ _ (by omega)]
      exact hfv5 n hn
  rintro e' h' c' ⟨vR, vW, ss, ps, size, ⟨b0, rfl⟩, hc', h4, hpl, rr, hown⟩
  obtain ⟨sR, capR, hvR, _⟩ := rr.hm.rr.shape
  rw [List.length_map] at hvR
  subst hvR
  have w18 : IntKind.i64.wrap (IntKind.i64.wrap (4 * (ps.length : Int)) + (more : Int)) = 4 * ps.length + more := by
    rw [Go.IntWalk.i64_in (4 * (ps.length : Int)) (by omega), Go.IntWalk.i64_in _ (by omega)]
  have w4 : IntKind.i64.wrap (4 * (ps.length : Int)) = 4 * ps.length := Go.IntWalk.i64_in _ (by omega)
  generalize hfb : decide (IntKind.i64.wrap (IntKind.i64.wrap (4 * (ps.length : Int)) + (more : Int)) ≤ (M : Int)) = fb
  rw [w18] at hfb
  repeat' (first | refine WpC.seqI (a := Code.seq (Code.region 19 _ _) _) (fun e' h' c' => ∃ vW ss' ps' size', (∃ b0, e' = FR b0 [(2, I more), (9, I M), (11, V.ptr (some (hp, 0))), (12, .slice sR ps.length capR), (16, V.bool (decide (IntKind.i64.wrap (IntKind.i64.wrap (4 * (ps.length : Int)) + (more : Int)) ≤ (M : Int))))]) ∧ c ≤ c' ∧ all4 ss' ∧ ps'.length = ps.length ∧ FlatH h' c' hp a c vW (.slice sR ps.length capR) ss' ps' size' M ∧ (∀ n ∈ hmn hp a vW (.slice sR ps.length capR), c ≤ n)) ?_ ?_ | refine WpC.seq ?_ | refine WpC.region ?_ | refine WpC.drawn ?_ | refine WpC.skip ?_ | refine WpC.block ?_ | refine WpC.exit ?_ | refine WpC.ret ?_ | refine WpO.nil ?_ | refine WpO.cons rfl rfl (WpX.pure (fun _ => rfl) ⟨nolog, ?_⟩) | refine WpO.skip rfl rfl ?_ | refine WpL.cons rfl rfl (WpX.pure (fun _ => rfl) ⟨nolog, ?_⟩) | refine WpL.skip rfl rfl ?_ | refine seqQ_normal ?_ | refine seqQ_ret ?_ | refine seqQ_exit ?_ | refine blkQ_normal ?_ | refine blkQ_ret ?_ | refine blkQ_out rfl ?_ | refine blkQ_by rfl ?_ | refine WpO.cons rfl rfl (op_len rfl rfl rfl ⟨(by simp [InL, Acc.name, rowName] <;> omega), ?_⟩) | refine WpL.cons rfl rfl (op_len rfl rfl rfl ⟨(by simp [InL, Acc.name, rowName] <;> omega), ?_⟩))
  ·
    repeat' (first | refine WpC.seq ?_ | refine WpC.region ?_ | refine WpC.drawn ?_ | refine WpC.skip ?_ | refine WpC.block ?_ | refine WpC.exit ?_ | refine WpC.ret ?_ | refine WpO.nil ?_ | refine WpO.cons rfl rfl (WpX.pure (fun _ => rfl) ⟨nolog, ?_⟩) | refine WpO.skip rfl rfl ?_ | refine WpL.cons rfl rfl (WpX.pure (fun _ => rfl) ⟨nolog, ?_⟩) | refine WpL.skip rfl rfl ?_ | refine seqQ_normal ?_ | refine seqQ_ret ?_ | refine seqQ_exit ?_ | refine blkQ_normal ?_ | refine blkQ_ret ?_ | refine blkQ_out rfl ?_ | refine blkQ_by rfl ?_)
    refine WpC.cond rfl (fun hb => ?_) (fun hb => ?_)
    case refine_2 =>
      repeat' (first | refine WpC.seq ?_ | refine WpC.region ?_ | refine WpC.drawn ?_ | refine WpC.skip ?_ | refine WpC.block ?_ | refine WpC.exit ?_ | refine WpC.ret ?_ | refine WpO.nil ?_ | refine WpO.cons rfl rfl (WpX.pure (fun _ => rfl) ⟨nolog, ?_⟩) | refine WpO.skip rfl rfl ?_ | refine WpL.cons rfl rfl (WpX.pure (fun _ => rfl) ⟨nolog, ?_⟩) | refine WpL.skip rfl rfl ?_ | refine seqQ_normal ?_ | refine seqQ_ret ?_ | refine seqQ_exit ?_ | refine blkQ_normal ?_ | refine blkQ_ret ?_ | refine blkQ_out rfl ?_ | refine blkQ_by rfl ?_)
      refine ⟨vW, ss, ps, size, fr ?_, hc', h4, rfl, rr, hown⟩
      exact ⟨rfl, rfl, rfl, rfl, rfl, trivial⟩
    repeat' (first | refine WpC.seq ?_ | refine WpC.region ?_ | refine WpC.drawn ?_ | refine WpC.skip ?_ | refine WpC.block ?_ | refine WpC.exit ?_ | refine WpC.ret ?_ | refine WpO.nil ?_ | refine WpO.cons rfl rfl (WpX.pure (fun _ => rfl) ⟨nolog, ?_⟩) | refine WpO.skip rfl rfl ?_ | refine WpL.cons rfl rfl (WpX.pure (fun _ => rfl) ⟨nolog, ?_⟩) | refine WpL.skip rfl rfl ?_ | refine seqQ_normal ?_ | refine seqQ_ret ?_ | refine seqQ_exit ?_ | refine blkQ_normal ?_ | refine blkQ_ret ?_ | refine blkQ_out rfl ?_ | refine blkQ_by rfl ?_)
    refine WpO.cons rfl rfl (call_at rfl (collect_flat rr) (fun n hn => .inr (hown n hn)) (by omega) fun v4 h4' c4 hc4 hf4 hq => ?_)
    obtain ⟨vW4, ss4, r4, hn4, hin, hl4⟩ := hq
    have h44 : all4 ss4 := fun x hx => h4 x (hin x hx)
    have hown4 : ∀ n ∈ hmn hp a vW4 (V.slice sR ps.length capR), c ≤ n := fun n hn => by
      rcases List.mem_append.1 hn with h | h
      · rcases List.mem_cons.1 h with h | h
        · exact hown n (List.mem_append_left _ (by rw [h]; exact List.mem_cons_self ..))
        · rcases List.mem_cons.1 h with h | h
          · exact hown n (List.mem_append_left _ (by rw [h]; exact List.mem_cons_of_mem _ (List.mem_cons_self ..)))
          · exact hown n (List.mem_append_left _ (List.mem_cons_of_mem _ (List.mem_cons_of_mem _ (hn4 n h))))
      · exact hown n (List.mem_append_right _ h)
    have hsub4 : ∀ n ∈ hn hp a vW4, n ∈ rowName (V.slice s bs.length cap) ∨ c ≤ n := fun n hh => .inr (hown4 n (List.mem_append_left _ hh))
    have hU : ((flatW ss4).length : Int) = 4 * ps.length := by rw [flat4 h44, hl4]; omega
    repeat' (first | refine WpC.seq ?_ | refine WpC.region ?_ | refine WpC.drawn ?_ | refine WpC.skip ?_ | refine WpC.block ?_ | refine WpC.exit ?_ | refine WpC.ret ?_ | refine WpO.nil ?_ | refine WpO.cons rfl rfl (WpX.pure (fun _ => rfl) ⟨nolog, ?_⟩) | refine WpO.skip rfl rfl ?_ | refine WpL.cons rfl rfl (WpX.pure (fun _ => rfl) ⟨nolog, ?_⟩) | refine WpL.skip rfl rfl ?_ | refine seqQ_normal ?_ | refine seqQ_ret ?_ | refine seqQ_exit ?_ | refine blkQ_normal ?_ | refine blkQ_ret ?_ | refine blkQ_out rfl ?_ | refine blkQ_by rfl ?_)
    refine WpO.cons rfl rfl (call_atD rfl (hused_ok r4.hm.hm) hsub4 (by omega) fun v1 h1' c1' _ _ hq => ?_)
    obtain ⟨rfl, rfl, rfl⟩ := hq
    have hne : (((flatW ss4).length : Int) != IntKind.i64.wrap (4 * (ps.length : Int))) = false := by rw [w4, hU]; simp
    repeat' (first | refine WpC.seq ?_ | refine WpC.region ?_ | refine WpC.drawn ?_ | refine WpC.skip ?_ | refine WpC.block ?_ | refine WpC.exit ?_ | refine WpC.ret ?_ | refine WpO.nil ?_ | refine WpO.cons rfl rfl (WpX.pure (fun _ => rfl) ⟨nolog, ?_⟩) | refine WpO.skip rfl rfl ?_ | refine WpL.cons rfl rfl (WpX.pure (fun _ => rfl) ⟨nolog, ?_⟩) | refine WpL.skip rfl rfl ?_ | refine seqQ_normal ?_ | refine seqQ_ret ?_ | refine seqQ_exit ?_ | refine blkQ_normal ?_ | refine blkQ_ret ?_ | refine blkQ_out rfl ?_ | refine blkQ_by rfl ?_ | refine WpO.cons rfl rfl (op_len rfl rfl rfl ⟨(by simp [InL, Acc.name, rowName] <;> omega), ?_⟩) | refine WpL.cons rfl rfl (op_len rfl rfl rfl ⟨(by simp [InL, Acc.name, rowName] <;> omega), ?_⟩))
    simp only [hne]
    repeat' (first | refine WpC.seq ?_ | refine WpC.region ?_ | refine WpC.drawn ?_ | refine WpC.skip ?_ | refine WpC.block ?_ | refine WpC.exit ?_ | refine WpC.ret ?_ | refine WpO.nil ?_ | refine WpO.cons rfl rfl (WpX.pure (fun _ => rfl) ⟨nolog, ?_⟩) | refine WpO.skip rfl rfl ?_ | refine WpL.cons rfl rfl (WpX.pure (fun _ => rfl) ⟨nolog, ?_⟩) | refine WpL.skip rfl rfl ?_ | refine seqQ_normal ?_ | refine seqQ_ret ?_ | refine seqQ_exit ?_ | refine blkQ_normal ?_ | refine blkQ_ret ?_ | refine blkQ_out rfl ?_ | refine blkQ_by rfl ?_)
    refine WpO.cons rfl rfl (call_atD rfl (hcap_ok r4.hm.hm) hsub4 (by omega) fun v1 h1' c1' _ _ hq => ?_)
    obtain ⟨rfl, rfl, rfl⟩ := hq
    repeat' (first | refine WpC.seq ?_ | refine WpC.region ?_ | refine WpC.drawn ?_ | refine WpC.skip ?_ | refine WpC.block ?_ | refine WpC.exit ?_ | refine WpC.ret ?_ | refine WpO.nil ?_ | refine WpO.cons rfl rfl (WpX.pure (fun _ => rfl) ⟨nolog, ?_⟩) | refine WpO.skip rfl rfl ?_ | refine WpL.cons rfl rfl (WpX.pure (fun _ => rfl) ⟨nolog, ?_⟩) | refine WpL.skip rfl rfl ?_ | refine seqQ_normal ?_ | refine seqQ_ret ?_ | refine seqQ_exit ?_ | refine blkQ_normal ?_ | refine blkQ_ret ?_ | refine blkQ_out rfl ?_ | refine blkQ_by rfl ?_)
    refine WpO.cons rfl rfl (call_atD rfl (hused_ok r4.hm.hm) hsub4 (by omega) fun v1 h1' c1' _ _ hq => ?_)
    obtain ⟨rfl, rfl, rfl⟩ := hq
    have w2 : IntKind.i64.wrap (2 * ((flatW ss4).length : Int)) = 2 * (flatW ss4).length := Go.IntWalk.i64_in _ (by omega)
    have e1 : (if IntKind.i64.wrap (2 * ((flatW ss4).length : Int)) > 32 then IntKind.i64.wrap (2 * ((flatW ss4).length : Int)) else 32) = max 32 (2 * ((flatW ss4).length : Int)) := by rw [w2]; split <;> omega
    repeat' (first | refine WpO.cons rfl rfl (op_max rfl e1 ⟨nolog, ?_⟩) | refine WpC.seq ?_ | refine WpC.region ?_ | refine WpC.drawn ?_ | refine WpC.skip ?_ | refine WpC.block ?_ | refine WpC.exit ?_ | refine WpC.ret ?_ | refine WpO.nil ?_ | refine WpO.cons rfl rfl (WpX.pure (fun _ => rfl) ⟨nolog, ?_⟩) | refine WpO.skip rfl rfl ?_ | refine WpL.cons rfl rfl (WpX.pure (fun _ => rfl) ⟨nolog, ?_⟩) | refine WpL.skip rfl rfl ?_ | refine seqQ_normal ?_ | refine seqQ_ret ?_ | refine seqQ_exit ?_ | refine blkQ_normal ?_ | refine blkQ_ret ?_ | refine blkQ_out rfl ?_ | refine blkQ_by rfl ?_)
    refine WpC.cond rfl (fun hb => absurd (of_decide_eq_true hb) (by unfold roomZ; omega)) (fun _ => ?_)
    repeat' (first | refine WpC.seq ?_ | refine WpC.region ?_ | refine WpC.drawn ?_ | refine WpC.skip ?_ | refine WpC.block ?_ | refine WpC.exit ?_ | refine WpC.ret ?_ | refine WpO.nil ?_ | refine WpO.cons rfl rfl (WpX.pure (fun _ => rfl) ⟨nolog, ?_⟩) | refine WpO.skip rfl rfl ?_ | refine WpL.cons rfl rfl (WpX.pure (fun _ => rfl) ⟨nolog, ?_⟩) | refine WpL.skip rfl rfl ?_ | refine seqQ_normal ?_ | refine seqQ_ret ?_ | refine seqQ_exit ?_ | refine blkQ_normal ?_ | refine blkQ_ret ?_ | refine blkQ_out rfl ?_ | refine blkQ_by rfl ?_)
    refine ⟨vW4, ss4, posL ss4, _, fr ?_, by omega, h44, by rw [pos_len]; exact hl4, r4, hown4⟩
    exact ⟨rfl, rfl, rfl, rfl, rfl, trivial⟩
  rintro e' h' c' ⟨vW2, ss2, ps2, size2, ⟨b0, rfl⟩, hc2, h42, hpl2, r2, hown2⟩
  repeat' (first | refine WpC.seq ?_ | refine WpC.region ?_ | refine WpC.drawn ?_ | refine WpC.skip ?_ | refine WpC.block ?_ | refine WpC.exit ?_ | refine WpC.ret ?_ | refine WpO.nil ?_ | refine WpO.cons rfl rfl (WpX.pure (fun _ => rfl) ⟨nolog, ?_⟩) | refine WpO.skip rfl rfl ?_ | refine WpL.cons rfl rfl (WpX.pure (fun _ => rfl) ⟨nolog, ?_⟩) | refine WpL.skip rfl rfl ?_ | refine seqQ_normal ?_ | refine seqQ_ret ?_ | refine seqQ_exit ?_ | refine blkQ_normal ?_ | refine blkQ_ret ?_ | refine blkQ_out rfl ?_ | refine blkQ_by rfl ?_)
  refine WpO.cons rfl rfl (call_at rfl (need_flat (n := (more : Int)) r2 (by omega)) (fun n hn => .inr (hown2 n hn)) (by omega) fun v3 h3' c3' hc3' hf3' hq => ?_)
  obtain ⟨vW3, ss3, ps3, size3, rfl, r3, hn3, hfit, hor⟩ := hq
  have hfew := r2.f.few
  have hfits : decide ((more : Int) ≤ M - (flatW ss3).length) = decide (IntKind.i64.wrap (IntKind.i64.wrap (4 * (ps.length : Int)) + (more : Int)) ≤ (M : Int)) := by
    rw [w18]
    rcases hor with ⟨rfl, rfl, hle⟩ | ⟨_, hin, hl, _⟩
    · have h1 := flat4 h42
      rw [decide_eq_true hle, decide_eq_true]
      omega
    · have h1 : (flatW ss3).length = 4 * ss3.length := flat4 fun x hx => h42 x (hin x hx)
      rw [decide_eq_decide]
      omega
  have hown3' : ∀ n ∈ hn hp a vW3, n ∈ rowName (V.slice s bs.length cap) ∨ c ≤ n := fun n h => .inr (by
    rcases List.mem_cons.1 h with h | h
    · exact hown2 n (List.mem_append_left _ (by rw [h]; exact List.mem_cons_self ..))
    · rcases List.mem_cons.1 h with h | h
      · exact hown2 n (List.mem_append_left _ (by rw [h]; exact List.mem_cons_of_mem _ (List.mem_cons_self ..)))
      · exact hown2 n (List.mem_append_left _ (List.mem_cons_of_mem _ (List.mem_cons_of_mem _ (hn3 n h)))))
  have hmo := r3.hm.hm.mo
  have hle3 := r3.hm.hm.ar.le
  have e4 : decide (size3 ≤ (M : Int)) = true := decide_eq_true hmo
  rw [← hfits]
  by_cases hle : (more : Int) ≤ M - (flatW ss3).length
  · have hfit := hfit hle
    have w5 : IntKind.i64.wrap (size3 - ((flatW ss3).length : Int)) = size3 - (flatW ss3).length := Go.IntWalk.i64_in _ (by omega)
    rw [decide_eq_true hle]
    repeat' (first | refine WpC.seq ?_ | refine WpC.region ?_ | refine WpC.drawn ?_ | refine WpC.skip ?_ | refine WpC.block ?_ | refine WpC.exit ?_ | refine WpC.ret ?_ | refine WpO.nil ?_ | refine WpO.cons rfl rfl (WpX.pure (fun _ => rfl) ⟨nolog, ?_⟩) | refine WpO.skip rfl rfl ?_ | refine WpL.cons rfl rfl (WpX.pure (fun _ => rfl) ⟨nolog, ?_⟩) | refine WpL.skip rfl rfl ?_ | refine seqQ_normal ?_ | refine seqQ_ret ?_ | refine seqQ_exit ?_ | refine blkQ_normal ?_ | refine blkQ_ret ?_ | refine blkQ_out rfl ?_ | refine blkQ_by rfl ?_)
    refine WpO.cons rfl rfl (call_at rfl (shut_ok rfl) (by simp) (by omega) fun v h1 c1 hc1 hfr1 hq => ?_)
    obtain ⟨rfl, rfl, rfl⟩ := hq
    repeat' (first | refine WpC.seq ?_ | refine WpC.region ?_ | refine WpC.drawn ?_ | refine WpC.skip ?_ | refine WpC.block ?_ | refine WpC.exit ?_ | refine WpC.ret ?_ | refine WpO.nil ?_ | refine WpO.cons rfl rfl (WpX.pure (fun _ => rfl) ⟨nolog, ?_⟩) | refine WpO.skip rfl rfl ?_ | refine WpL.cons rfl rfl (WpX.pure (fun _ => rfl) ⟨nolog, ?_⟩) | refine WpL.skip rfl rfl ?_ | refine seqQ_normal ?_ | refine seqQ_ret ?_ | refine seqQ_exit ?_ | refine blkQ_normal ?_ | refine blkQ_ret ?_ | refine blkQ_out rfl ?_ | refine blkQ_by rfl ?_)
    refine WpO.cons rfl rfl (call_atD rfl (hcap_ok r3.hm.hm) hown3' (by omega) fun v1 h1' c1' _ _ hq => ?_)
    obtain ⟨rfl, rfl, rfl⟩ := hq
    repeat' (first | refine WpC.seq ?_ | refine WpC.region ?_ | refine WpC.drawn ?_ | refine WpC.skip ?_ | refine WpC.block ?_ | refine WpC.exit ?_ | refine WpC.ret ?_ | refine WpO.nil ?_ | refine WpO.cons rfl rfl (WpX.pure (fun _ => rfl) ⟨nolog, ?_⟩) | refine WpO.skip rfl rfl ?_ | refine WpL.cons rfl rfl (WpX.pure (fun _ => rfl) ⟨nolog, ?_⟩) | refine WpL.skip rfl rfl ?_ | refine seqQ_normal ?_ | refine seqQ_ret ?_ | refine seqQ_exit ?_ | refine blkQ_normal ?_ | refine blkQ_ret ?_ | refine blkQ_out rfl ?_ | refine blkQ_by rfl ?_)
    simp only [e4]
    repeat' (first | refine WpC.seq ?_ | refine WpC.region ?_ | refine WpC.drawn ?_ | refine WpC.skip ?_ | refine WpC.block ?_ | refine WpC.exit ?_ | refine WpC.ret ?_ | refine WpO.nil ?_ | refine WpO.cons rfl rfl (WpX.pure (fun _ => rfl) ⟨nolog, ?_⟩) | refine WpO.skip rfl rfl ?_ | refine WpL.cons rfl rfl (WpX.pure (fun _ => rfl) ⟨nolog, ?_⟩) | refine WpL.skip rfl rfl ?_ | refine seqQ_normal ?_ | refine seqQ_ret ?_ | refine seqQ_exit ?_ | refine blkQ_normal ?_ | refine blkQ_ret ?_ | refine blkQ_out rfl ?_ | refine blkQ_by rfl ?_)
    refine WpO.cons rfl rfl (call_atD rfl (hcap_ok r3.hm.hm) hown3' (by omega) fun v1 h1' c1' _ _ hq => ?_)
    obtain ⟨rfl, rfl, rfl⟩ := hq
    repeat' (first | refine WpC.seq ?_ | refine WpC.region ?_ | refine WpC.drawn ?_ | refine WpC.skip ?_ | refine WpC.block ?_ | refine WpC.exit ?_ | refine WpC.ret ?_ | refine WpO.nil ?_ | refine WpO.cons rfl rfl (WpX.pure (fun _ => rfl) ⟨nolog, ?_⟩) | refine WpO.skip rfl rfl ?_ | refine WpL.cons rfl rfl (WpX.pure (fun _ => rfl) ⟨nolog, ?_⟩) | refine WpL.skip rfl rfl ?_ | refine seqQ_normal ?_ | refine seqQ_ret ?_ | refine seqQ_exit ?_ | refine blkQ_normal ?_ | refine blkQ_ret ?_ | refine blkQ_out rfl ?_ | refine blkQ_by rfl ?_)
    refine WpO.cons rfl rfl (call_atD rfl (hused_ok r3.hm.hm) hown3' (by omega) fun v1 h1' c1' _ _ hq => ?_)
    obtain ⟨rfl, rfl, rfl⟩ := hq
    repeat' (first | refine WpC.seq ?_ | refine WpC.region ?_ | refine WpC.drawn ?_ | refine WpC.skip ?_ | refine WpC.block ?_ | refine WpC.exit ?_ | refine WpC.ret ?_ | refine WpO.nil ?_ | refine WpO.cons rfl rfl (WpX.pure (fun _ => rfl) ⟨nolog, ?_⟩) | refine WpO.skip rfl rfl ?_ | refine WpL.cons rfl rfl (WpX.pure (fun _ => rfl) ⟨nolog, ?_⟩) | refine WpL.skip rfl rfl ?_ | refine seqQ_normal ?_ | refine seqQ_ret ?_ | refine seqQ_exit ?_ | refine blkQ_normal ?_ | refine blkQ_ret ?_ | refine blkQ_out rfl ?_ | refine blkQ_by rfl ?_)
    refine out_ret rfl (congrArg V.bool (decide_eq_true ?_))
    rw [w5]
    exact hfit
  rw [decide_eq_false hle]
  repeat' (first | refine WpC.seq ?_ | refine WpC.region ?_ | refine WpC.drawn ?_ | refine WpC.skip ?_ | refine WpC.block ?_ | refine WpC.exit ?_ | refine WpC.ret ?_ | refine WpO.nil ?_ | refine WpO.cons rfl rfl (WpX.pure (fun _ => rfl) ⟨nolog, ?_⟩) | refine WpO.skip rfl rfl ?_ | refine WpL.cons rfl rfl (WpX.pure (fun _ => rfl) ⟨nolog, ?_⟩) | refine WpL.skip rfl rfl ?_ | refine seqQ_normal ?_ | refine seqQ_ret ?_ | refine seqQ_exit ?_ | refine blkQ_normal ?_ | refine blkQ_ret ?_ | refine blkQ_out rfl ?_ | refine blkQ_by rfl ?_)
  refine WpO.cons rfl rfl (call_at rfl (shut_ok rfl) (by simp) (by omega) fun v h1 c1 hc1 hfr1 hq => ?_)
  obtain ⟨rfl, rfl, rfl⟩ := hq
  repeat' (first | refine WpC.seq ?_ | refine WpC.region ?_ | refine WpC.drawn ?_ | refine WpC.skip ?_ | refine WpC.block ?_ | refine WpC.exit ?_ | refine WpC.ret ?_ | refine WpO.nil ?_ | refine WpO.cons rfl rfl (WpX.pure (fun _ => rfl) ⟨nolog, ?_⟩) | refine WpO.skip rfl rfl ?_ | refine WpL.cons rfl rfl (WpX.pure (fun _ => rfl) ⟨nolog, ?_⟩) | refine WpL.skip rfl rfl ?_ | refine seqQ_normal ?_ | refine seqQ_ret ?_ | refine seqQ_exit ?_ | refine blkQ_normal ?_ | refine blkQ_ret ?_ | refine blkQ_out rfl ?_ | refine blkQ_by rfl ?_)
  refine WpO.cons rfl rfl (call_atD rfl (hcap_ok r3.hm.hm) hown3' (by omega) fun v1 h1' c1' _ _ hq => ?_)
  obtain ⟨rfl, rfl, rfl⟩ := hq
  repeat' (first | refine WpC.seq ?_ | refine WpC.region ?_ | refine WpC.drawn ?_ | refine WpC.skip ?_ | refine WpC.block ?_ | refine WpC.exit ?_ | refine WpC.ret ?_ | refine WpO.nil ?_ | refine WpO.cons rfl rfl (WpX.pure (fun _ => rfl) ⟨nolog, ?_⟩) | refine WpO.skip rfl rfl ?_ | refine WpL.cons rfl rfl (WpX.pure (fun _ => rfl) ⟨nolog, ?_⟩) | refine WpL.skip rfl rfl ?_ | refine seqQ_normal ?_ | refine seqQ_ret ?_ | refine seqQ_exit ?_ | refine blkQ_normal ?_ | refine blkQ_ret ?_ | refine blkQ_out rfl ?_ | refine blkQ_by rfl ?_)
  simp only [e4]
  repeat' (first | refine WpC.seq ?_ | refine WpC.region ?_ | refine WpC.drawn ?_ | refine WpC.skip ?_ | refine WpC.block ?_ | refine WpC.exit ?_ | refine WpC.ret ?_ | refine WpO.nil ?_ | refine WpO.cons rfl rfl (WpX.pure (fun _ => rfl) ⟨nolog, ?_⟩) | refine WpO.skip rfl rfl ?_ | refine WpL.cons rfl rfl (WpX.pure (fun _ => rfl) ⟨nolog, ?_⟩) | refine WpL.skip rfl rfl ?_ | refine seqQ_normal ?_ | refine seqQ_ret ?_ | refine seqQ_exit ?_ | refine blkQ_normal ?_ | refine blkQ_ret ?_ | refine blkQ_out rfl ?_ | refine blkQ_by rfl ?_)
  exact out_ret rfl rfl
end Go.Proofs.Ytempfmkicpifkaa


set_option linter.unusedVariables false
set_option linter.unnecessarySimpa false
set_option linter.unusedSimpArgs false
set_option maxRecDepth 10000
namespace Go.Proofs.Ytempfmkicpifkaa
open Go.Ab
theorem live_outer {h : HH} {c : Nat} {a b : Int} {k : Bool} {l : V} {bs : List Bool} (ha : 0 ≤ a ∧ a < 65536) (hb : 0 ≤ b ∧ b < 65536) (hl : RowArg h c l 1 bs.length (flat boolV bs)) : Does 6 [.agg [.int .u16 a, .int .u16 b], l, .bool k] h c (rowName l) fun v h' c' => v = .bool true := by
  obtain ⟨a, rfl⟩ : ∃ n : Nat, a = n := ⟨a.toNat, by omega⟩
  obtain ⟨b, rfl⟩ : ∃ n : Nat, b = n := ⟨b.toNat, by omega⟩
  have hrem : (IntKind.i64.wrap (b : Int)).tmod 700 = ((b % 700 : Nat) : Int) := by
    rw [Go.IntWalk.i64_in (b : Int) (by omega), Int.tmod_eq_emod_of_nonneg (by omega)]; omega
  refine does_of (enter (fn := Try.f6) Try.func6 rfl rfl (Nat.le_of_ble_eq_true rfl) ?_)
  repeat' (first | refine WpC.seq ?_ | refine WpC.region ?_ | refine WpC.drawn ?_ | refine WpC.skip ?_ | refine WpC.block ?_ | refine WpC.exit ?_ | refine WpC.ret ?_ | refine WpO.nil ?_ | refine WpO.cons rfl rfl (WpX.pure (fun _ => rfl) ⟨nolog, ?_⟩) | refine WpO.skip rfl rfl ?_ | refine WpL.cons rfl rfl (WpX.pure (fun _ => rfl) ⟨nolog, ?_⟩) | refine WpL.skip rfl rfl ?_ | refine seqQ_normal ?_ | refine seqQ_ret ?_ | refine seqQ_exit ?_ | refine blkQ_normal ?_ | refine blkQ_ret ?_ | refine blkQ_out rfl ?_ | refine blkQ_by rfl ?_ | refine WpO.cons rfl rfl (op_box rfl ⟨(by simp [InL, Acc.name, rowName] <;> omega), ?_⟩) | refine WpL.cons rfl rfl (op_box rfl ⟨(by simp [InL, Acc.name, rowName] <;> omega), ?_⟩))
  refine WpO.cons rfl rfl (call_at rfl (shut_ok rfl) (by simp) (by omega) fun v h1 c1 hc1 hfr1 hq => ?_)
  obtain ⟨rfl, rfl, rfl⟩ := hq
  have hl1 : RowArg (MapI.set h c (.cells true true [.int .u16 (a : Int), .int .u16 (b : Int)])) (c + 1) l 1 bs.length (flat boolV bs) := by
    refine ⟨?_, hl.size⟩
    rcases hl.is with ⟨h1, h2⟩ | ⟨s, cap, h1, h2, h3, h4, h5⟩
    · exact .inl ⟨h1, h2⟩
    · exact .inr ⟨s, cap, h1, by omega, h3, h4, fun hp => by rw [MapI.get_ne _ _ _ _ (by omega)]; exact h5 hp⟩
  repeat' (first | refine WpC.seq ?_ | refine WpC.region ?_ | refine WpC.drawn ?_ | refine WpC.skip ?_ | refine WpC.block ?_ | refine WpC.exit ?_ | refine WpC.ret ?_ | refine WpO.nil ?_ | refine WpO.cons rfl rfl (WpX.pure (fun _ => rfl) ⟨nolog, ?_⟩) | refine WpO.skip rfl rfl ?_ | refine WpL.cons rfl rfl (WpX.pure (fun _ => rfl) ⟨nolog, ?_⟩) | refine WpL.skip rfl rfl ?_ | refine seqQ_normal ?_ | refine seqQ_ret ?_ | refine seqQ_exit ?_ | refine blkQ_normal ?_ | refine blkQ_ret ?_ | refine blkQ_out rfl ?_ | refine blkQ_by rfl ?_)
  refine WpC.cond rfl (fun hb => by cases hb) (fun _ => ?_)
  repeat' (first | refine WpC.seq ?_ | refine WpC.region ?_ | refine WpC.drawn ?_ | refine WpC.skip ?_ | refine WpC.block ?_ | refine WpC.exit ?_ | refine WpC.ret ?_ | refine WpO.nil ?_ | refine WpO.cons rfl rfl (WpX.pure (fun _ => rfl) ⟨nolog, ?_⟩) | refine WpO.skip rfl rfl ?_ | refine WpL.cons rfl rfl (WpX.pure (fun _ => rfl) ⟨nolog, ?_⟩) | refine WpL.skip rfl rfl ?_ | refine seqQ_normal ?_ | refine seqQ_ret ?_ | refine seqQ_exit ?_ | refine blkQ_normal ?_ | refine blkQ_ret ?_ | refine blkQ_out rfl ?_ | refine blkQ_by rfl ?_ | refine WpO.cons rfl rfl (op_indexAddrA (k := 1) rfl rfl rfl rfl ⟨by decide, by decide⟩ ⟨(by simp [InL, Acc.name, rowName] <;> omega), ?_⟩) | refine WpL.cons rfl rfl (op_indexAddrA (k := 1) rfl rfl rfl rfl ⟨by decide, by decide⟩ ⟨(by simp [InL, Acc.name, rowName] <;> omega), ?_⟩) | refine WpO.cons rfl rfl (op_load rfl rfl rfl (MapI.get_same _ _ _) rfl ⟨(by simp [InL, Acc.name, rowName] <;> omega), ?_⟩) | refine WpL.cons rfl rfl (op_load rfl rfl rfl (MapI.get_same _ _ _) rfl ⟨(by simp [InL, Acc.name, rowName] <;> omega), ?_⟩))
  rw [hrem]
  refine WpO.cons rfl rfl (call_at rfl (live_law (more := b % 700) (by omega) (Nat.mod_lt _ (by omega)) hl1) (fun n hn => .inl hn) (by omega) fun v h2 c2 hc2 hfr2 hq => ?_)
  subst hq
  repeat' (first | refine WpC.seq ?_ | refine WpC.region ?_ | refine WpC.drawn ?_ | refine WpC.skip ?_ | refine WpC.block ?_ | refine WpC.exit ?_ | refine WpC.ret ?_ | refine WpO.nil ?_ | refine WpO.cons rfl rfl (WpX.pure (fun _ => rfl) ⟨nolog, ?_⟩) | refine WpO.skip rfl rfl ?_ | refine WpL.cons rfl rfl (WpX.pure (fun _ => rfl) ⟨nolog, ?_⟩) | refine WpL.skip rfl rfl ?_ | refine seqQ_normal ?_ | refine seqQ_ret ?_ | refine seqQ_exit ?_ | refine blkQ_normal ?_ | refine blkQ_ret ?_ | refine blkQ_out rfl ?_ | refine blkQ_by rfl ?_)
  exact out_ret rfl rfl
theorem u16_of {z : Int} (h : (Lit.int .u16 z).wf = true) : 0 ≤ z ∧ z < 65536 := by
  have e := (Lit.wf_int_iff _ _).1 h
  have h1 : IntKind.min .u16 = 0 := rfl
  have h2 : IntKind.max .u16 = 65535 := rfl
  omega
theorem live_walk {T : Type} {ds : List (DataW T)} : ∀ (h : HH) (c : Nat) (xs : List V), ArgsR Try.prog h c [60, 61, 4] xs ds → Clear h c → WpX (cl 6 xs) h c fun v _ _ _ => v = .bool true := by
  intro h c xs r _
  cases r with
  | @cons _ _ x1 _ _ _ a ha r =>
    cases r with
    | @cons _ _ x2 _ _ _ b hb r =>
      cases r with
      | @cons _ _ x3 _ _ _ d hd r =>
        cases r
        obtain ⟨vss, ds', hv, _, hlen, hr⟩ := a.inv_array (n := 2) (e := 50) rfl
        obtain ⟨ks, h1, h2, h3⟩ := hr.each (cells := fun z => [V.int .u16 z]) (good := fun z => (Lit.int .u16 z).wf = true) (fun vs d a => by obtain ⟨n, e1, _, e2⟩ := a.inv_int (k := .u16) rfl; exact ⟨n, e1, e2⟩)
        obtain ⟨bl, hb1, _⟩ := AR.rows (cells := boolV) (good := fun _ => True) (k := 1) (e := 4) Try.underlying61 (hb.trans rfl) (fun _ => rfl) (fun vs d a => by obtain ⟨z, e1, _⟩ := a.inv_bool rfl; exact ⟨z, e1, trivial⟩) b
        obtain ⟨k, hk, _⟩ := d.inv_bool rfl
        have e1 : x3 = .bool k := by
          have hd : isAggV x3 = false := hd.trans rfl
          cases x3 <;> first | (cases hd; done) | (simpa [cellsV] using hk)
        have e2 : x1 = .agg (ks.map (V.int .u16)) := by
          have ha : isAggV x1 = true := ha.trans rfl
          cases x1 <;> first | (cases ha; done) | (rw [h1, flat_one] at hv; exact congrArg V.agg hv)
        subst e1
        subst e2
        rw [hlen] at h2
        match ks, h2, h3 with
        | [p, q], _, h3 =>
          have hp := u16_of (h3 p (by simp))
          have hq := u16_of (h3 q (by simp))
          exact WpX.mono (live_outer hp hq hb1) fun v h' c' l q => q.2.2.2
end Go.Proofs.Ytempfmkicpifkaa
