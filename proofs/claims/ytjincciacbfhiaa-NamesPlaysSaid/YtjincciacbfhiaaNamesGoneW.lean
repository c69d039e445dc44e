/- NamesGone answers true. -/
import Derived.Test.YtjincciacbfhiaaNamesW
import Derived.Test.YtjincciacbfhiaaAd3
set_option linter.unusedVariables false
set_option linter.unusedSectionVars false
set_option linter.unusedSimpArgs false
set_option linter.unnecessarySimpa false
namespace Go.Proofs.Ytjincciacbfhiaa
open Go.Ab
set_option maxRecDepth 10000

theorem awake_ok {h : HH} {c : Nat} : Does 6 [] h c [] fun v h' c' => v = .bool true := by
  refine does_of (enter (fn := Try.f6) Try.func6 rfl rfl (Nat.le_of_ble_eq_true rfl) ?_)
  repeat' (first
    | refine WpC.seq ?_
    | refine WpC.region ?_
    | refine WpC.drawn ?_
    | refine WpC.skip ?_
    | refine WpC.block ?_
    | refine WpC.exit ?_
    | refine WpC.ret ?_
    | refine WpO.nil ?_
    | refine WpO.cons rfl rfl (WpX.pure (fun _ => rfl) ⟨nolog, ?_⟩)
    | refine WpO.skip rfl rfl ?_
    | refine WpL.cons rfl rfl (WpX.pure (fun _ => rfl) ⟨nolog, ?_⟩)
    | refine WpL.skip rfl rfl ?_
    | refine seqQ_normal ?_
    | refine seqQ_ret ?_
    | refine seqQ_exit ?_
    | refine blkQ_normal ?_
    | refine blkQ_ret ?_
    | refine blkQ_out rfl ?_
    | refine blkQ_by rfl ?_)
  refine WpO.cons rfl rfl (call_at rfl new_ok (by simp) (Nat.le_refl _) fun v h' c' hc hfr hq => ?_)
  obtain ⟨rfl, rfl, r⟩ := hq
  repeat' (first
    | refine WpC.seq ?_
    | refine WpC.region ?_
    | refine WpC.drawn ?_
    | refine WpC.skip ?_
    | refine WpC.block ?_
    | refine WpC.exit ?_
    | refine WpC.ret ?_
    | refine WpO.nil ?_
    | refine WpO.cons rfl rfl (WpX.pure (fun _ => rfl) ⟨nolog, ?_⟩)
    | refine WpO.skip rfl rfl ?_
    | refine WpL.cons rfl rfl (WpX.pure (fun _ => rfl) ⟨nolog, ?_⟩)
    | refine WpL.skip rfl rfl ?_
    | refine seqQ_normal ?_
    | refine seqQ_ret ?_
    | refine seqQ_exit ?_
    | refine blkQ_normal ?_
    | refine blkQ_ret ?_
    | refine blkQ_out rfl ?_
    | refine blkQ_by rfl ?_)
  refine WpC.cond rfl (fun hb => by cases hb) (fun _ => ?_)
  repeat' (first
    | refine WpC.seq ?_
    | refine WpC.region ?_
    | refine WpC.drawn ?_
    | refine WpC.skip ?_
    | refine WpC.block ?_
    | refine WpC.exit ?_
    | refine WpC.ret ?_
    | refine WpO.nil ?_
    | refine WpO.cons rfl rfl (WpX.pure (fun _ => rfl) ⟨nolog, ?_⟩)
    | refine WpO.skip rfl rfl ?_
    | refine WpL.cons rfl rfl (WpX.pure (fun _ => rfl) ⟨nolog, ?_⟩)
    | refine WpL.skip rfl rfl ?_
    | refine seqQ_normal ?_
    | refine seqQ_ret ?_
    | refine seqQ_exit ?_
    | refine blkQ_normal ?_
    | refine blkQ_ret ?_
    | refine blkQ_out rfl ?_
    | refine blkQ_by rfl ?_)
  refine WpO.cons rfl rfl (call_at rfl (register_ok r) (fun n hn => .inr (by simp at hn; omega)) (by omega) fun v h' c' hc hfr hq => ?_)
  simp only [List.lookup, true_and, Option.isSome_none, Bool.false_eq_true, or_self, false_and, or_false] at hq
  obtain ⟨rfl, rfl, r1⟩ := hq
  repeat' (first
    | refine WpC.seq ?_
    | refine WpC.region ?_
    | refine WpC.drawn ?_
    | refine WpC.skip ?_
    | refine WpC.block ?_
    | refine WpC.exit ?_
    | refine WpC.ret ?_
    | refine WpO.nil ?_
    | refine WpO.cons rfl rfl (WpX.pure (fun _ => rfl) ⟨nolog, ?_⟩)
    | refine WpO.skip rfl rfl ?_
    | refine WpL.cons rfl rfl (WpX.pure (fun _ => rfl) ⟨nolog, ?_⟩)
    | refine WpL.skip rfl rfl ?_
    | refine seqQ_normal ?_
    | refine seqQ_ret ?_
    | refine seqQ_exit ?_
    | refine blkQ_normal ?_
    | refine blkQ_ret ?_
    | refine blkQ_out rfl ?_
    | refine blkQ_by rfl ?_)
  refine WpO.cons rfl rfl (call_at rfl (register_ok r1) (fun n hn => .inr (by simp at hn; omega)) (by omega) fun v h' c' hc hfr hq => ?_)
  simp [List.lookup] at hq
  obtain ⟨rfl, rfl, rfl⟩ := hq
  repeat' (first
    | refine WpC.seq ?_
    | refine WpC.region ?_
    | refine WpC.drawn ?_
    | refine WpC.skip ?_
    | refine WpC.block ?_
    | refine WpC.exit ?_
    | refine WpC.ret ?_
    | refine WpO.nil ?_
    | refine WpO.cons rfl rfl (WpX.pure (fun _ => rfl) ⟨nolog, ?_⟩)
    | refine WpO.skip rfl rfl ?_
    | refine WpL.cons rfl rfl (WpX.pure (fun _ => rfl) ⟨nolog, ?_⟩)
    | refine WpL.skip rfl rfl ?_
    | refine seqQ_normal ?_
    | refine seqQ_ret ?_
    | refine seqQ_exit ?_
    | refine blkQ_normal ?_
    | refine blkQ_ret ?_
    | refine blkQ_out rfl ?_
    | refine blkQ_by rfl ?_)
  refine WpO.cons rfl rfl (call_at rfl (whereis_ok r1) (fun n hn => .inr (by simp at hn; omega)) (by omega) fun v h' c' hc hfr hq => ?_)
  simp [List.lookup] at hq
  obtain ⟨rfl, rfl, rfl⟩ := hq
  repeat' (first
    | refine WpC.seq ?_
    | refine WpC.region ?_
    | refine WpC.drawn ?_
    | refine WpC.skip ?_
    | refine WpC.block ?_
    | refine WpC.exit ?_
    | refine WpC.ret ?_
    | refine WpO.nil ?_
    | refine WpO.cons rfl rfl (WpX.pure (fun _ => rfl) ⟨nolog, ?_⟩)
    | refine WpO.skip rfl rfl ?_
    | refine WpL.cons rfl rfl (WpX.pure (fun _ => rfl) ⟨nolog, ?_⟩)
    | refine WpL.skip rfl rfl ?_
    | refine seqQ_normal ?_
    | refine seqQ_ret ?_
    | refine seqQ_exit ?_
    | refine blkQ_normal ?_
    | refine blkQ_ret ?_
    | refine blkQ_out rfl ?_
    | refine blkQ_by rfl ?_)
  refine WpO.cons rfl rfl (call_at rfl (gone_ok r1) (fun n hn => .inr (by simp at hn; omega)) (by omega) fun v h' c' hc hfr hq => ?_)
  simp [List.lookup, era] at hq
  obtain ⟨rfl, rfl, r2⟩ := hq
  repeat' (first
    | refine WpC.seq ?_
    | refine WpC.region ?_
    | refine WpC.drawn ?_
    | refine WpC.skip ?_
    | refine WpC.block ?_
    | refine WpC.exit ?_
    | refine WpC.ret ?_
    | refine WpO.nil ?_
    | refine WpO.cons rfl rfl (WpX.pure (fun _ => rfl) ⟨nolog, ?_⟩)
    | refine WpO.skip rfl rfl ?_
    | refine WpL.cons rfl rfl (WpX.pure (fun _ => rfl) ⟨nolog, ?_⟩)
    | refine WpL.skip rfl rfl ?_
    | refine seqQ_normal ?_
    | refine seqQ_ret ?_
    | refine seqQ_exit ?_
    | refine blkQ_normal ?_
    | refine blkQ_ret ?_
    | refine blkQ_out rfl ?_
    | refine blkQ_by rfl ?_)
  refine WpO.cons rfl rfl (call_at rfl (len_ok r2) (fun n hn => .inr (by simp at hn; omega)) (by omega) fun v h' c' hc hfr hq => ?_)
  obtain ⟨rfl, rfl, rfl⟩ := hq
  repeat' (first
    | refine WpC.seq ?_
    | refine WpC.region ?_
    | refine WpC.drawn ?_
    | refine WpC.skip ?_
    | refine WpC.block ?_
    | refine WpC.exit ?_
    | refine WpC.ret ?_
    | refine WpO.nil ?_
    | refine WpO.cons rfl rfl (WpX.pure (fun _ => rfl) ⟨nolog, ?_⟩)
    | refine WpO.skip rfl rfl ?_
    | refine WpL.cons rfl rfl (WpX.pure (fun _ => rfl) ⟨nolog, ?_⟩)
    | refine WpL.skip rfl rfl ?_
    | refine seqQ_normal ?_
    | refine seqQ_ret ?_
    | refine seqQ_exit ?_
    | refine blkQ_normal ?_
    | refine blkQ_ret ?_
    | refine blkQ_out rfl ?_
    | refine blkQ_by rfl ?_)
  exact out_ret rfl rfl

theorem gone_law {h : HH} {c : Nat} {l : V} {zs : List Int} (hl : RowArg h c l 1 zs.length (zs.map (.int .u8))) : Does 5 [l] h c (rowName l) fun v h' c' => v = .bool true := by
  refine does_of (enter (fn := Try.f5) Try.func5 rfl rfl (Nat.le_of_ble_eq_true rfl) ?_)
  repeat' (first
    | refine WpC.seq ?_
    | refine WpC.region ?_
    | refine WpC.drawn ?_
    | refine WpC.skip ?_
    | refine WpC.block ?_
    | refine WpC.exit ?_
    | refine WpC.ret ?_
    | refine WpO.nil ?_
    | refine WpO.cons rfl rfl (WpX.pure (fun _ => rfl) ⟨nolog, ?_⟩)
    | refine WpO.skip rfl rfl ?_
    | refine WpL.cons rfl rfl (WpX.pure (fun _ => rfl) ⟨nolog, ?_⟩)
    | refine WpL.skip rfl rfl ?_
    | refine seqQ_normal ?_
    | refine seqQ_ret ?_
    | refine seqQ_exit ?_
    | refine blkQ_normal ?_
    | refine blkQ_ret ?_
    | refine blkQ_out rfl ?_
    | refine blkQ_by rfl ?_)
  refine WpO.cons rfl rfl (call_at rfl awake_ok (by simp) (Nat.le_refl _) fun v h1 c1 hc1 hfr1 hq => ?_)
  subst hq
  repeat' (first
    | refine WpC.seq ?_
    | refine WpC.region ?_
    | refine WpC.drawn ?_
    | refine WpC.skip ?_
    | refine WpC.block ?_
    | refine WpC.exit ?_
    | refine WpC.ret ?_
    | refine WpO.nil ?_
    | refine WpO.cons rfl rfl (WpX.pure (fun _ => rfl) ⟨nolog, ?_⟩)
    | refine WpO.skip rfl rfl ?_
    | refine WpL.cons rfl rfl (WpX.pure (fun _ => rfl) ⟨nolog, ?_⟩)
    | refine WpL.skip rfl rfl ?_
    | refine seqQ_normal ?_
    | refine seqQ_ret ?_
    | refine seqQ_exit ?_
    | refine blkQ_normal ?_
    | refine blkQ_ret ?_
    | refine blkQ_out rfl ?_
    | refine blkQ_by rfl ?_)
  refine WpC.cond rfl (fun hb => by cases hb) (fun _ => ?_)
  obtain ⟨s, cap, rfl, hs⟩ : ∃ a cap, l = .slice a zs.length cap ∧ (∀ i, i < zs.length → ∃ s, a = some (s, 0) ∧ s < c ∧ MapI.get h s = some (.cells false false (zs.map (.int .u8)))) := by
    rcases hl.is with ⟨rfl, hz⟩ | ⟨s, cap, rfl, h1, _, _, h2⟩
    · exact ⟨none, .known 0, by rw [hz], fun i hi => by omega⟩
    · exact ⟨_, .known cap, rfl, fun i hi => ⟨s, rfl, h1, h2 (by omega)⟩⟩
  repeat' (first
    | refine WpC.seq ?_
    | refine WpC.region ?_
    | refine WpC.drawn ?_
    | refine WpC.skip ?_
    | refine WpC.block ?_
    | refine WpC.exit ?_
    | refine WpC.ret ?_
    | refine WpO.nil ?_
    | refine WpO.cons rfl rfl (WpX.pure (fun _ => rfl) ⟨nolog, ?_⟩)
    | refine WpO.skip rfl rfl ?_
    | refine WpL.cons rfl rfl (WpX.pure (fun _ => rfl) ⟨nolog, ?_⟩)
    | refine WpL.skip rfl rfl ?_
    | refine seqQ_normal ?_
    | refine seqQ_ret ?_
    | refine seqQ_exit ?_
    | refine blkQ_normal ?_
    | refine blkQ_ret ?_
    | refine blkQ_out rfl ?_
    | refine blkQ_by rfl ?_
    | refine WpO.cons rfl rfl (op_len rfl rfl rfl ⟨(by simp [InL, Acc.name, rowName] <;> omega), ?_⟩)
    | refine WpL.cons rfl rfl (op_len rfl rfl rfl ⟨(by simp [InL, Acc.name, rowName] <;> omega), ?_⟩))
  refine WpC.cond rfl (fun _ => ?_) (fun hn => ?_)
  · 
    repeat' (first
      | refine WpC.seq ?_
      | refine WpC.region ?_
      | refine WpC.drawn ?_
      | refine WpC.skip ?_
      | refine WpC.block ?_
      | refine WpC.exit ?_
      | refine WpC.ret ?_
      | refine WpO.nil ?_
      | refine WpO.cons rfl rfl (WpX.pure (fun _ => rfl) ⟨nolog, ?_⟩)
      | refine WpO.skip rfl rfl ?_
      | refine WpL.cons rfl rfl (WpX.pure (fun _ => rfl) ⟨nolog, ?_⟩)
      | refine WpL.skip rfl rfl ?_
      | refine seqQ_normal ?_
      | refine seqQ_ret ?_
      | refine seqQ_exit ?_
      | refine blkQ_normal ?_
      | refine blkQ_ret ?_
      | refine blkQ_out rfl ?_
      | refine blkQ_by rfl ?_)
    exact out_ret rfl rfl
  repeat' (first
    | refine WpC.seq ?_
    | refine WpC.region ?_
    | refine WpC.drawn ?_
    | refine WpC.skip ?_
    | refine WpC.block ?_
    | refine WpC.exit ?_
    | refine WpC.ret ?_
    | refine WpO.nil ?_
    | refine WpO.cons rfl rfl (WpX.pure (fun _ => rfl) ⟨nolog, ?_⟩)
    | refine WpO.skip rfl rfl ?_
    | refine WpL.cons rfl rfl (WpX.pure (fun _ => rfl) ⟨nolog, ?_⟩)
    | refine WpL.skip rfl rfl ?_
    | refine seqQ_normal ?_
    | refine seqQ_ret ?_
    | refine seqQ_exit ?_
    | refine blkQ_normal ?_
    | refine blkQ_ret ?_
    | refine blkQ_out rfl ?_
    | refine blkQ_by rfl ?_)
  refine WpO.cons rfl rfl (call_at rfl new_ok (by simp) (by omega) fun v h2 c2 hc2 hfr2 hq => ?_)
  obtain ⟨rfl, rfl, r⟩ := hq
  repeat' (first
    | refine WpC.seq ?_
    | refine WpC.region ?_
    | refine WpC.drawn ?_
    | refine WpC.skip ?_
    | refine WpC.block ?_
    | refine WpC.exit ?_
    | refine WpC.ret ?_
    | refine WpO.nil ?_
    | refine WpO.cons rfl rfl (WpX.pure (fun _ => rfl) ⟨nolog, ?_⟩)
    | refine WpO.skip rfl rfl ?_
    | refine WpL.cons rfl rfl (WpX.pure (fun _ => rfl) ⟨nolog, ?_⟩)
    | refine WpL.skip rfl rfl ?_
    | refine seqQ_normal ?_
    | refine seqQ_ret ?_
    | refine seqQ_exit ?_
    | refine blkQ_normal ?_
    | refine blkQ_ret ?_
    | refine blkQ_out rfl ?_
    | refine blkQ_by rfl ?_)
  refine WpC.cond rfl (fun hb => by cases hb) (fun _ => ?_)
  repeat' (first
    | refine WpC.seq ?_
    | refine WpC.region ?_
    | refine WpC.drawn ?_
    | refine WpC.skip ?_
    | refine WpC.block ?_
    | refine WpC.exit ?_
    | refine WpC.ret ?_
    | refine WpO.nil ?_
    | refine WpO.cons rfl rfl (WpX.pure (fun _ => rfl) ⟨nolog, ?_⟩)
    | refine WpO.skip rfl rfl ?_
    | refine WpL.cons rfl rfl (WpX.pure (fun _ => rfl) ⟨nolog, ?_⟩)
    | refine WpL.skip rfl rfl ?_
    | refine seqQ_normal ?_
    | refine seqQ_ret ?_
    | refine seqQ_exit ?_
    | refine blkQ_normal ?_
    | refine blkQ_ret ?_
    | refine blkQ_out rfl ?_
    | refine blkQ_by rfl ?_)
  refine WpC.loop ?_
  refine WpLoop.ind (X := Nat) (fun i e h' c' => (∃ b0, e = MapI.set (MapI.set (MapI.set b0 0 (.slice s zs.length cap)) 3 (.ptr (some (c1 + 2, 0)))) 4 (I i)) ∧ i ≤ zs.length ∧ NamesAt h' c' (c1 + 2) c1 (c1 + 1) [] [] ∧
    c1 ≤ c' ∧ ∀ n, n < c → MapI.get h' n = MapI.get h n) (fun i => zs.length - i) ?_ 0 _ _ _ ⟨set3 rfl rfl rfl, Nat.zero_le _, r, by omega, fun n hn => by rw [hfr2 n (by omega) (by simp), hfr1 n hn (by simp)]⟩
  rintro i e h' c' ⟨⟨b0, rfl⟩, hi, r, hc, hfr⟩
  have hlen : (zs.length : Int) ≤ 100 := by simpa using hn
  repeat' (first
    | refine WpC.seq ?_
    | refine WpC.region ?_
    | refine WpC.drawn ?_
    | refine WpC.skip ?_
    | refine WpC.block ?_
    | refine WpC.exit ?_
    | refine WpC.ret ?_
    | refine WpO.nil ?_
    | refine WpO.cons rfl rfl (WpX.pure (fun _ => rfl) ⟨nolog, ?_⟩)
    | refine WpO.skip rfl rfl ?_
    | refine WpL.cons rfl rfl (WpX.pure (fun _ => rfl) ⟨nolog, ?_⟩)
    | refine WpL.skip rfl rfl ?_
    | refine seqQ_normal ?_
    | refine seqQ_ret ?_
    | refine seqQ_exit ?_
    | refine blkQ_normal ?_
    | refine blkQ_ret ?_
    | refine blkQ_out rfl ?_
    | refine blkQ_by rfl ?_
    | refine WpO.cons rfl rfl (op_len rfl rfl rfl ⟨(by simp [InL, Acc.name, rowName] <;> omega), ?_⟩)
    | refine WpL.cons rfl rfl (op_len rfl rfl rfl ⟨(by simp [InL, Acc.name, rowName] <;> omega), ?_⟩))
  refine WpC.cond rfl (fun hlt => ?_) (fun hge => ?_)
  case refine_2 =>
    repeat' (first
      | refine WpC.seq ?_
      | refine WpC.region ?_
      | refine WpC.drawn ?_
      | refine WpC.skip ?_
      | refine WpC.block ?_
      | refine WpC.exit ?_
      | refine WpC.ret ?_
      | refine WpO.nil ?_
      | refine WpO.cons rfl rfl (WpX.pure (fun _ => rfl) ⟨nolog, ?_⟩)
      | refine WpO.skip rfl rfl ?_
      | refine WpL.cons rfl rfl (WpX.pure (fun _ => rfl) ⟨nolog, ?_⟩)
      | refine WpL.skip rfl rfl ?_
      | refine seqQ_normal ?_
      | refine seqQ_ret ?_
      | refine seqQ_exit ?_
      | refine blkQ_normal ?_
      | refine blkQ_ret ?_
      | refine blkQ_out rfl ?_
      | refine blkQ_by rfl ?_)
    exact out_ret rfl rfl
  have hlt : i < zs.length := by simpa using hlt
  obtain ⟨sn, rfl, hsn, hget⟩ := hs i hlt
  have hg : MapI.get h' sn = some (.cells false false (zs.map (.int .u8))) := by rw [hfr sn hsn]; exact hget
  obtain ⟨z, hz⟩ : ∃ z, zs[i]? = some z := ⟨_, List.getElem?_eq_getElem hlt⟩
  have hz : nth (zs.map (V.int .u8)) (0 + ((i : Nat) : Int).toNat * 1) = some (.int .u8 z) := by
    have : 0 + ((i : Nat) : Int).toNat * 1 = i := by omega
    rw [this]; exact nth_map hz
  have hw1 : IntKind.i64.wrap ((i : Int) + 1) = ((i + 1 : Nat) : Int) := by rw [Go.IntWalk.i64_in _ (by omega)]; omega
  repeat' (first
    | refine WpC.seq ?_
    | refine WpC.region ?_
    | refine WpC.drawn ?_
    | refine WpC.skip ?_
    | refine WpC.block ?_
    | refine WpC.exit ?_
    | refine WpC.ret ?_
    | refine WpO.nil ?_
    | refine WpO.cons rfl rfl (WpX.pure (fun _ => rfl) ⟨nolog, ?_⟩)
    | refine WpO.skip rfl rfl ?_
    | refine WpL.cons rfl rfl (WpX.pure (fun _ => rfl) ⟨nolog, ?_⟩)
    | refine WpL.skip rfl rfl ?_
    | refine seqQ_normal ?_
    | refine seqQ_ret ?_
    | refine seqQ_exit ?_
    | refine blkQ_normal ?_
    | refine blkQ_ret ?_
    | refine blkQ_out rfl ?_
    | refine blkQ_by rfl ?_
    | refine WpO.cons rfl rfl (op_indexAddr rfl rfl rfl rfl ⟨by omega, by omega⟩ ⟨(by simp [InL, Acc.name, rowName] <;> omega), ?_⟩)
    | refine WpL.cons rfl rfl (op_indexAddr rfl rfl rfl rfl ⟨by omega, by omega⟩ ⟨(by simp [InL, Acc.name, rowName] <;> omega), ?_⟩)
    | refine WpO.cons rfl rfl (op_load rfl rfl rfl hg hz ⟨(by simp [InL, Acc.name, rowName] <;> omega), ?_⟩)
    | refine WpL.cons rfl rfl (op_load rfl rfl rfl hg hz ⟨(by simp [InL, Acc.name, rowName] <;> omega), ?_⟩))
  refine WpO.cons rfl rfl (call_at rfl (register_ok r) (fun n hn => .inr (by simp at hn; omega)) (by omega) fun v h4 c4 hc4 hfr4 hq => ?_)
  simp [List.lookup] at hq
  obtain ⟨rfl, rfl, r1⟩ := hq
  have hg : MapI.get h4 sn = some (.cells false false (zs.map (.int .u8))) := by rw [hfr4 sn (by omega) (by simp <;> omega)]; exact hg
  have hfr : ∀ n, n < c → MapI.get h4 n = MapI.get h n := fun n hn => by rw [hfr4 n (by omega) (by simp <;> omega)]; exact hfr n hn
  repeat' (first
    | refine WpC.seq ?_
    | refine WpC.region ?_
    | refine WpC.drawn ?_
    | refine WpC.skip ?_
    | refine WpC.block ?_
    | refine WpC.exit ?_
    | refine WpC.ret ?_
    | refine WpO.nil ?_
    | refine WpO.cons rfl rfl (WpX.pure (fun _ => rfl) ⟨nolog, ?_⟩)
    | refine WpO.skip rfl rfl ?_
    | refine WpL.cons rfl rfl (WpX.pure (fun _ => rfl) ⟨nolog, ?_⟩)
    | refine WpL.skip rfl rfl ?_
    | refine seqQ_normal ?_
    | refine seqQ_ret ?_
    | refine seqQ_exit ?_
    | refine blkQ_normal ?_
    | refine blkQ_ret ?_
    | refine blkQ_out rfl ?_
    | refine blkQ_by rfl ?_
    | refine WpO.cons rfl rfl (op_indexAddr rfl rfl rfl rfl ⟨by omega, by omega⟩ ⟨(by simp [InL, Acc.name, rowName] <;> omega), ?_⟩)
    | refine WpL.cons rfl rfl (op_indexAddr rfl rfl rfl rfl ⟨by omega, by omega⟩ ⟨(by simp [InL, Acc.name, rowName] <;> omega), ?_⟩)
    | refine WpO.cons rfl rfl (op_load rfl rfl rfl hg hz ⟨(by simp [InL, Acc.name, rowName] <;> omega), ?_⟩)
    | refine WpL.cons rfl rfl (op_load rfl rfl rfl hg hz ⟨(by simp [InL, Acc.name, rowName] <;> omega), ?_⟩))
  refine WpC.cond rfl (fun hb => by cases hb) (fun _ => ?_)
  repeat' (first
    | refine WpC.seq ?_
    | refine WpC.region ?_
    | refine WpC.drawn ?_
    | refine WpC.skip ?_
    | refine WpC.block ?_
    | refine WpC.exit ?_
    | refine WpC.ret ?_
    | refine WpO.nil ?_
    | refine WpO.cons rfl rfl (WpX.pure (fun _ => rfl) ⟨nolog, ?_⟩)
    | refine WpO.skip rfl rfl ?_
    | refine WpL.cons rfl rfl (WpX.pure (fun _ => rfl) ⟨nolog, ?_⟩)
    | refine WpL.skip rfl rfl ?_
    | refine seqQ_normal ?_
    | refine seqQ_ret ?_
    | refine seqQ_exit ?_
    | refine blkQ_normal ?_
    | refine blkQ_ret ?_
    | refine blkQ_out rfl ?_
    | refine blkQ_by rfl ?_
    | refine WpO.cons rfl rfl (op_indexAddr rfl rfl rfl rfl ⟨by omega, by omega⟩ ⟨(by simp [InL, Acc.name, rowName] <;> omega), ?_⟩)
    | refine WpL.cons rfl rfl (op_indexAddr rfl rfl rfl rfl ⟨by omega, by omega⟩ ⟨(by simp [InL, Acc.name, rowName] <;> omega), ?_⟩)
    | refine WpO.cons rfl rfl (op_load rfl rfl rfl hg hz ⟨(by simp [InL, Acc.name, rowName] <;> omega), ?_⟩)
    | refine WpL.cons rfl rfl (op_load rfl rfl rfl hg hz ⟨(by simp [InL, Acc.name, rowName] <;> omega), ?_⟩))
  refine WpO.cons rfl rfl (call_at rfl (whereis_ok r1) (fun n hn => .inr (by simp at hn; omega)) (by omega) fun v h4 c4 hc4 hfr4 hq => ?_)
  simp [List.lookup] at hq
  obtain ⟨rfl, rfl, rfl⟩ := hq
  repeat' (first
    | refine WpC.seq ?_
    | refine WpC.region ?_
    | refine WpC.drawn ?_
    | refine WpC.skip ?_
    | refine WpC.block ?_
    | refine WpC.exit ?_
    | refine WpC.ret ?_
    | refine WpO.nil ?_
    | refine WpO.cons rfl rfl (WpX.pure (fun _ => rfl) ⟨nolog, ?_⟩)
    | refine WpO.skip rfl rfl ?_
    | refine WpL.cons rfl rfl (WpX.pure (fun _ => rfl) ⟨nolog, ?_⟩)
    | refine WpL.skip rfl rfl ?_
    | refine seqQ_normal ?_
    | refine seqQ_ret ?_
    | refine seqQ_exit ?_
    | refine blkQ_normal ?_
    | refine blkQ_ret ?_
    | refine blkQ_out rfl ?_
    | refine blkQ_by rfl ?_
    | refine WpO.cons rfl rfl (op_indexAddr rfl rfl rfl rfl ⟨by omega, by omega⟩ ⟨(by simp [InL, Acc.name, rowName] <;> omega), ?_⟩)
    | refine WpL.cons rfl rfl (op_indexAddr rfl rfl rfl rfl ⟨by omega, by omega⟩ ⟨(by simp [InL, Acc.name, rowName] <;> omega), ?_⟩)
    | refine WpO.cons rfl rfl (op_load rfl rfl rfl hg hz ⟨(by simp [InL, Acc.name, rowName] <;> omega), ?_⟩)
    | refine WpL.cons rfl rfl (op_load rfl rfl rfl hg hz ⟨(by simp [InL, Acc.name, rowName] <;> omega), ?_⟩))
  simp only [bne_self_eq_false]
  repeat' (first
    | refine WpC.seq ?_
    | refine WpC.region ?_
    | refine WpC.drawn ?_
    | refine WpC.skip ?_
    | refine WpC.block ?_
    | refine WpC.exit ?_
    | refine WpC.ret ?_
    | refine WpO.nil ?_
    | refine WpO.cons rfl rfl (WpX.pure (fun _ => rfl) ⟨nolog, ?_⟩)
    | refine WpO.skip rfl rfl ?_
    | refine WpL.cons rfl rfl (WpX.pure (fun _ => rfl) ⟨nolog, ?_⟩)
    | refine WpL.skip rfl rfl ?_
    | refine seqQ_normal ?_
    | refine seqQ_ret ?_
    | refine seqQ_exit ?_
    | refine blkQ_normal ?_
    | refine blkQ_ret ?_
    | refine blkQ_out rfl ?_
    | refine blkQ_by rfl ?_
    | refine WpO.cons rfl rfl (op_indexAddr rfl rfl rfl rfl ⟨by omega, by omega⟩ ⟨(by simp [InL, Acc.name, rowName] <;> omega), ?_⟩)
    | refine WpL.cons rfl rfl (op_indexAddr rfl rfl rfl rfl ⟨by omega, by omega⟩ ⟨(by simp [InL, Acc.name, rowName] <;> omega), ?_⟩)
    | refine WpO.cons rfl rfl (op_load rfl rfl rfl hg hz ⟨(by simp [InL, Acc.name, rowName] <;> omega), ?_⟩)
    | refine WpL.cons rfl rfl (op_load rfl rfl rfl hg hz ⟨(by simp [InL, Acc.name, rowName] <;> omega), ?_⟩))
  refine WpO.cons rfl rfl (call_at rfl (register_ok r1) (fun n hn => .inr (by simp at hn; omega)) (by omega) fun v h4 c4 hc4 hfr4 hq => ?_)
  simp [List.lookup] at hq
  obtain ⟨rfl, rfl, rfl⟩ := hq
  repeat' (first
    | refine WpC.seq ?_
    | refine WpC.region ?_
    | refine WpC.drawn ?_
    | refine WpC.skip ?_
    | refine WpC.block ?_
    | refine WpC.exit ?_
    | refine WpC.ret ?_
    | refine WpO.nil ?_
    | refine WpO.cons rfl rfl (WpX.pure (fun _ => rfl) ⟨nolog, ?_⟩)
    | refine WpO.skip rfl rfl ?_
    | refine WpL.cons rfl rfl (WpX.pure (fun _ => rfl) ⟨nolog, ?_⟩)
    | refine WpL.skip rfl rfl ?_
    | refine seqQ_normal ?_
    | refine seqQ_ret ?_
    | refine seqQ_exit ?_
    | refine blkQ_normal ?_
    | refine blkQ_ret ?_
    | refine blkQ_out rfl ?_
    | refine blkQ_by rfl ?_
    | refine WpO.cons rfl rfl (op_indexAddr rfl rfl rfl rfl ⟨by omega, by omega⟩ ⟨(by simp [InL, Acc.name, rowName] <;> omega), ?_⟩)
    | refine WpL.cons rfl rfl (op_indexAddr rfl rfl rfl rfl ⟨by omega, by omega⟩ ⟨(by simp [InL, Acc.name, rowName] <;> omega), ?_⟩)
    | refine WpO.cons rfl rfl (op_load rfl rfl rfl hg hz ⟨(by simp [InL, Acc.name, rowName] <;> omega), ?_⟩)
    | refine WpL.cons rfl rfl (op_load rfl rfl rfl hg hz ⟨(by simp [InL, Acc.name, rowName] <;> omega), ?_⟩))
  refine WpO.cons rfl rfl (call_at rfl (gone_ok r1) (fun n hn => .inr (by simp at hn; omega)) (by omega) fun v h4 c4 hc4 hfr4 hq => ?_)
  simp [List.lookup, era] at hq
  obtain ⟨rfl, rfl, r2⟩ := hq
  have hg : MapI.get h4 sn = some (.cells false false (zs.map (.int .u8))) := by rw [hfr4 sn (by omega) (by simp <;> omega)]; exact hg
  have hfr : ∀ n, n < c → MapI.get h4 n = MapI.get h n := fun n hn => by rw [hfr4 n (by omega) (by simp <;> omega)]; exact hfr n hn
  repeat' (first
    | refine WpC.seq ?_
    | refine WpC.region ?_
    | refine WpC.drawn ?_
    | refine WpC.skip ?_
    | refine WpC.block ?_
    | refine WpC.exit ?_
    | refine WpC.ret ?_
    | refine WpO.nil ?_
    | refine WpO.cons rfl rfl (WpX.pure (fun _ => rfl) ⟨nolog, ?_⟩)
    | refine WpO.skip rfl rfl ?_
    | refine WpL.cons rfl rfl (WpX.pure (fun _ => rfl) ⟨nolog, ?_⟩)
    | refine WpL.skip rfl rfl ?_
    | refine seqQ_normal ?_
    | refine seqQ_ret ?_
    | refine seqQ_exit ?_
    | refine blkQ_normal ?_
    | refine blkQ_ret ?_
    | refine blkQ_out rfl ?_
    | refine blkQ_by rfl ?_
    | refine WpO.cons rfl rfl (op_indexAddr rfl rfl rfl rfl ⟨by omega, by omega⟩ ⟨(by simp [InL, Acc.name, rowName] <;> omega), ?_⟩)
    | refine WpL.cons rfl rfl (op_indexAddr rfl rfl rfl rfl ⟨by omega, by omega⟩ ⟨(by simp [InL, Acc.name, rowName] <;> omega), ?_⟩)
    | refine WpO.cons rfl rfl (op_load rfl rfl rfl hg hz ⟨(by simp [InL, Acc.name, rowName] <;> omega), ?_⟩)
    | refine WpL.cons rfl rfl (op_load rfl rfl rfl hg hz ⟨(by simp [InL, Acc.name, rowName] <;> omega), ?_⟩))
  refine WpO.cons rfl rfl (call_at rfl (gone_ok r2) (fun n hn => .inr (by simp at hn; omega)) (by omega) fun v h4 c4 hc4 hfr4 hq => ?_)
  simp [List.lookup] at hq
  obtain ⟨rfl, rfl, rfl⟩ := hq
  repeat' (first
    | refine WpC.seq ?_
    | refine WpC.region ?_
    | refine WpC.drawn ?_
    | refine WpC.skip ?_
    | refine WpC.block ?_
    | refine WpC.exit ?_
    | refine WpC.ret ?_
    | refine WpO.nil ?_
    | refine WpO.cons rfl rfl (WpX.pure (fun _ => rfl) ⟨nolog, ?_⟩)
    | refine WpO.skip rfl rfl ?_
    | refine WpL.cons rfl rfl (WpX.pure (fun _ => rfl) ⟨nolog, ?_⟩)
    | refine WpL.skip rfl rfl ?_
    | refine seqQ_normal ?_
    | refine seqQ_ret ?_
    | refine seqQ_exit ?_
    | refine blkQ_normal ?_
    | refine blkQ_ret ?_
    | refine blkQ_out rfl ?_
    | refine blkQ_by rfl ?_
    | refine WpO.cons rfl rfl (op_indexAddr rfl rfl rfl rfl ⟨by omega, by omega⟩ ⟨(by simp [InL, Acc.name, rowName] <;> omega), ?_⟩)
    | refine WpL.cons rfl rfl (op_indexAddr rfl rfl rfl rfl ⟨by omega, by omega⟩ ⟨(by simp [InL, Acc.name, rowName] <;> omega), ?_⟩)
    | refine WpO.cons rfl rfl (op_load rfl rfl rfl hg hz ⟨(by simp [InL, Acc.name, rowName] <;> omega), ?_⟩)
    | refine WpL.cons rfl rfl (op_load rfl rfl rfl hg hz ⟨(by simp [InL, Acc.name, rowName] <;> omega), ?_⟩))
  refine WpC.cond rfl (fun hb => by cases hb) (fun _ => ?_)
  repeat' (first
    | refine WpC.seq ?_
    | refine WpC.region ?_
    | refine WpC.drawn ?_
    | refine WpC.skip ?_
    | refine WpC.block ?_
    | refine WpC.exit ?_
    | refine WpC.ret ?_
    | refine WpO.nil ?_
    | refine WpO.cons rfl rfl (WpX.pure (fun _ => rfl) ⟨nolog, ?_⟩)
    | refine WpO.skip rfl rfl ?_
    | refine WpL.cons rfl rfl (WpX.pure (fun _ => rfl) ⟨nolog, ?_⟩)
    | refine WpL.skip rfl rfl ?_
    | refine seqQ_normal ?_
    | refine seqQ_ret ?_
    | refine seqQ_exit ?_
    | refine blkQ_normal ?_
    | refine blkQ_ret ?_
    | refine blkQ_out rfl ?_
    | refine blkQ_by rfl ?_
    | refine WpO.cons rfl rfl (op_indexAddr rfl rfl rfl rfl ⟨by omega, by omega⟩ ⟨(by simp [InL, Acc.name, rowName] <;> omega), ?_⟩)
    | refine WpL.cons rfl rfl (op_indexAddr rfl rfl rfl rfl ⟨by omega, by omega⟩ ⟨(by simp [InL, Acc.name, rowName] <;> omega), ?_⟩)
    | refine WpO.cons rfl rfl (op_load rfl rfl rfl hg hz ⟨(by simp [InL, Acc.name, rowName] <;> omega), ?_⟩)
    | refine WpL.cons rfl rfl (op_load rfl rfl rfl hg hz ⟨(by simp [InL, Acc.name, rowName] <;> omega), ?_⟩))
  refine WpO.cons rfl rfl (call_at rfl (whereis_ok r2) (fun n hn => .inr (by simp at hn; omega)) (by omega) fun v h4 c4 hc4 hfr4 hq => ?_)
  simp [List.lookup] at hq
  obtain ⟨rfl, rfl, rfl⟩ := hq
  repeat' (first
    | refine WpC.seq ?_
    | refine WpC.region ?_
    | refine WpC.drawn ?_
    | refine WpC.skip ?_
    | refine WpC.block ?_
    | refine WpC.exit ?_
    | refine WpC.ret ?_
    | refine WpO.nil ?_
    | refine WpO.cons rfl rfl (WpX.pure (fun _ => rfl) ⟨nolog, ?_⟩)
    | refine WpO.skip rfl rfl ?_
    | refine WpL.cons rfl rfl (WpX.pure (fun _ => rfl) ⟨nolog, ?_⟩)
    | refine WpL.skip rfl rfl ?_
    | refine seqQ_normal ?_
    | refine seqQ_ret ?_
    | refine seqQ_exit ?_
    | refine blkQ_normal ?_
    | refine blkQ_ret ?_
    | refine blkQ_out rfl ?_
    | refine blkQ_by rfl ?_
    | refine WpO.cons rfl rfl (op_indexAddr rfl rfl rfl rfl ⟨by omega, by omega⟩ ⟨(by simp [InL, Acc.name, rowName] <;> omega), ?_⟩)
    | refine WpL.cons rfl rfl (op_indexAddr rfl rfl rfl rfl ⟨by omega, by omega⟩ ⟨(by simp [InL, Acc.name, rowName] <;> omega), ?_⟩)
    | refine WpO.cons rfl rfl (op_load rfl rfl rfl hg hz ⟨(by simp [InL, Acc.name, rowName] <;> omega), ?_⟩)
    | refine WpL.cons rfl rfl (op_load rfl rfl rfl hg hz ⟨(by simp [InL, Acc.name, rowName] <;> omega), ?_⟩))
  refine WpO.cons rfl rfl (call_at rfl (name_ok r2) (fun n hn => .inr (by simp at hn; omega)) (by omega) fun v h4 c4 hc4 hfr4 hq => ?_)
  simp [List.lookup] at hq
  obtain ⟨rfl, rfl, rfl⟩ := hq
  repeat' (first
    | refine WpC.seq ?_
    | refine WpC.region ?_
    | refine WpC.drawn ?_
    | refine WpC.skip ?_
    | refine WpC.block ?_
    | refine WpC.exit ?_
    | refine WpC.ret ?_
    | refine WpO.nil ?_
    | refine WpO.cons rfl rfl (WpX.pure (fun _ => rfl) ⟨nolog, ?_⟩)
    | refine WpO.skip rfl rfl ?_
    | refine WpL.cons rfl rfl (WpX.pure (fun _ => rfl) ⟨nolog, ?_⟩)
    | refine WpL.skip rfl rfl ?_
    | refine seqQ_normal ?_
    | refine seqQ_ret ?_
    | refine seqQ_exit ?_
    | refine blkQ_normal ?_
    | refine blkQ_ret ?_
    | refine blkQ_out rfl ?_
    | refine blkQ_by rfl ?_
    | refine WpO.cons rfl rfl (op_indexAddr rfl rfl rfl rfl ⟨by omega, by omega⟩ ⟨(by simp [InL, Acc.name, rowName] <;> omega), ?_⟩)
    | refine WpL.cons rfl rfl (op_indexAddr rfl rfl rfl rfl ⟨by omega, by omega⟩ ⟨(by simp [InL, Acc.name, rowName] <;> omega), ?_⟩)
    | refine WpO.cons rfl rfl (op_load rfl rfl rfl hg hz ⟨(by simp [InL, Acc.name, rowName] <;> omega), ?_⟩)
    | refine WpL.cons rfl rfl (op_load rfl rfl rfl hg hz ⟨(by simp [InL, Acc.name, rowName] <;> omega), ?_⟩))
  refine WpO.cons rfl rfl (call_at rfl (unregister_ok r2) (fun n hn => .inr (by simp at hn; omega)) (by omega) fun v h4 c4 hc4 hfr4 hq => ?_)
  simp [List.lookup] at hq
  obtain ⟨rfl, rfl, rfl⟩ := hq
  repeat' (first
    | refine WpC.seq ?_
    | refine WpC.region ?_
    | refine WpC.drawn ?_
    | refine WpC.skip ?_
    | refine WpC.block ?_
    | refine WpC.exit ?_
    | refine WpC.ret ?_
    | refine WpO.nil ?_
    | refine WpO.cons rfl rfl (WpX.pure (fun _ => rfl) ⟨nolog, ?_⟩)
    | refine WpO.skip rfl rfl ?_
    | refine WpL.cons rfl rfl (WpX.pure (fun _ => rfl) ⟨nolog, ?_⟩)
    | refine WpL.skip rfl rfl ?_
    | refine seqQ_normal ?_
    | refine seqQ_ret ?_
    | refine seqQ_exit ?_
    | refine blkQ_normal ?_
    | refine blkQ_ret ?_
    | refine blkQ_out rfl ?_
    | refine blkQ_by rfl ?_
    | refine WpO.cons rfl rfl (op_indexAddr rfl rfl rfl rfl ⟨by omega, by omega⟩ ⟨(by simp [InL, Acc.name, rowName] <;> omega), ?_⟩)
    | refine WpL.cons rfl rfl (op_indexAddr rfl rfl rfl rfl ⟨by omega, by omega⟩ ⟨(by simp [InL, Acc.name, rowName] <;> omega), ?_⟩)
    | refine WpO.cons rfl rfl (op_load rfl rfl rfl hg hz ⟨(by simp [InL, Acc.name, rowName] <;> omega), ?_⟩)
    | refine WpL.cons rfl rfl (op_load rfl rfl rfl hg hz ⟨(by simp [InL, Acc.name, rowName] <;> omega), ?_⟩))
  refine WpO.cons rfl rfl (call_at rfl (len_ok r2) (fun n hn => .inr (by simp at hn; omega)) (by omega) fun v h4 c4 hc4 hfr4 hq => ?_)
  simp [List.length] at hq
  obtain ⟨rfl, rfl, rfl⟩ := hq
  repeat' (first
    | refine WpC.seq ?_
    | refine WpC.region ?_
    | refine WpC.drawn ?_
    | refine WpC.skip ?_
    | refine WpC.block ?_
    | refine WpC.exit ?_
    | refine WpC.ret ?_
    | refine WpO.nil ?_
    | refine WpO.cons rfl rfl (WpX.pure (fun _ => rfl) ⟨nolog, ?_⟩)
    | refine WpO.skip rfl rfl ?_
    | refine WpL.cons rfl rfl (WpX.pure (fun _ => rfl) ⟨nolog, ?_⟩)
    | refine WpL.skip rfl rfl ?_
    | refine seqQ_normal ?_
    | refine seqQ_ret ?_
    | refine seqQ_exit ?_
    | refine blkQ_normal ?_
    | refine blkQ_ret ?_
    | refine blkQ_out rfl ?_
    | refine blkQ_by rfl ?_
    | refine WpO.cons rfl rfl (op_indexAddr rfl rfl rfl rfl ⟨by omega, by omega⟩ ⟨(by simp [InL, Acc.name, rowName] <;> omega), ?_⟩)
    | refine WpL.cons rfl rfl (op_indexAddr rfl rfl rfl rfl ⟨by omega, by omega⟩ ⟨(by simp [InL, Acc.name, rowName] <;> omega), ?_⟩)
    | refine WpO.cons rfl rfl (op_load rfl rfl rfl hg hz ⟨(by simp [InL, Acc.name, rowName] <;> omega), ?_⟩)
    | refine WpL.cons rfl rfl (op_load rfl rfl rfl hg hz ⟨(by simp [InL, Acc.name, rowName] <;> omega), ?_⟩))
  refine WpC.cond rfl (fun hb => by cases hb) (fun _ => ?_)
  repeat' (first
    | refine WpC.seq ?_
    | refine WpC.region ?_
    | refine WpC.drawn ?_
    | refine WpC.skip ?_
    | refine WpC.block ?_
    | refine WpC.exit ?_
    | refine WpC.ret ?_
    | refine WpO.nil ?_
    | refine WpO.cons rfl rfl (WpX.pure (fun _ => rfl) ⟨nolog, ?_⟩)
    | refine WpO.skip rfl rfl ?_
    | refine WpL.cons rfl rfl (WpX.pure (fun _ => rfl) ⟨nolog, ?_⟩)
    | refine WpL.skip rfl rfl ?_
    | refine seqQ_normal ?_
    | refine seqQ_ret ?_
    | refine seqQ_exit ?_
    | refine blkQ_normal ?_
    | refine blkQ_ret ?_
    | refine blkQ_out rfl ?_
    | refine blkQ_by rfl ?_
    | refine WpO.cons rfl rfl (op_indexAddr rfl rfl rfl rfl ⟨by omega, by omega⟩ ⟨(by simp [InL, Acc.name, rowName] <;> omega), ?_⟩)
    | refine WpL.cons rfl rfl (op_indexAddr rfl rfl rfl rfl ⟨by omega, by omega⟩ ⟨(by simp [InL, Acc.name, rowName] <;> omega), ?_⟩)
    | refine WpO.cons rfl rfl (op_load rfl rfl rfl hg hz ⟨(by simp [InL, Acc.name, rowName] <;> omega), ?_⟩)
    | refine WpL.cons rfl rfl (op_load rfl rfl rfl hg hz ⟨(by simp [InL, Acc.name, rowName] <;> omega), ?_⟩))
  refine ⟨i + 1, by omega, ?_, by omega, r2, by omega, hfr⟩
  rw [hw1]
  exact set3 rfl rfl rfl
theorem gone_walk {T : Type} {ds : List (DataW T)} : ∀ (h : HH) (c : Nat) (xs : List V), ArgsR Try.prog h c [41] xs ds → WpX (cl 5 xs) h c fun v _ _ _ => v = .bool true := by
  intro h c xs r
  cases r with
  | cons a ha r =>
    cases r
    obtain ⟨zs, hl, _⟩ := a.ints (e := 5) (k := .u8) rfl rfl (ha.trans rfl)
    exact WpX.mono (gone_law hl) fun v h' c' l q => q.2.2.2
end Go.Proofs.Ytjincciacbfhiaa
