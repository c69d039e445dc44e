/- The store's awake. Counting. -/
import Derived.Test.YtempfmkicpifkaaStore4W
set_option linter.unusedVariables false
set_option linter.unusedSectionVars false
set_option linter.unusedSimpArgs false
set_option linter.unnecessarySimpa false
namespace Go.Proofs.Ytempfmkicpifkaa
open Go.Ab
set_option maxRecDepth 10000

theorem sawake_ok {h : HH} {c : Nat} : Does 60 [] h c [] fun v h' c' => v = .bool true := by
  refine does_of (enter (fn := Try.f60) Try.func60 rfl rfl (Nat.le_of_ble_eq_true rfl) ?_)
  repeat' (first
    | refine WpC.seq ?_
    | refine WpC.region ?_
    | refine WpC.drawn ?_
    | refine WpC.skip ?_
    | refine WpC.block ?_
    | refine WpC.exit ?_
    | refine WpC.ret ?_
    | refine WpO.nil ?_
    | refine WpO.cons rfl rfl (WpX.pure (fun _ => rfl) ⟨nolog, ?_⟩)
    | refine WpO.skip rfl rfl ?_
    | refine WpL.cons rfl rfl (WpX.pure (fun _ => rfl) ⟨nolog, ?_⟩)
    | refine WpL.skip rfl rfl ?_
    | refine seqQ_normal ?_
    | refine seqQ_ret ?_
    | refine seqQ_exit ?_
    | refine blkQ_normal ?_
    | refine blkQ_ret ?_
    | refine blkQ_out rfl ?_
    | refine blkQ_by rfl ?_)
  refine WpO.cons rfl rfl (call_at rfl (snew_ok (by omega) (by omega)) (by simp) (Nat.le_refl _) fun v h1 c1 hc1 hfr1 hq => ?_)
  obtain ⟨rfl, rfl, r⟩ := hq
  repeat' (first
    | refine WpC.seq ?_
    | refine WpC.region ?_
    | refine WpC.drawn ?_
    | refine WpC.skip ?_
    | refine WpC.block ?_
    | refine WpC.exit ?_
    | refine WpC.ret ?_
    | refine WpO.nil ?_
    | refine WpO.cons rfl rfl (WpX.pure (fun _ => rfl) ⟨nolog, ?_⟩)
    | refine WpO.skip rfl rfl ?_
    | refine WpL.cons rfl rfl (WpX.pure (fun _ => rfl) ⟨nolog, ?_⟩)
    | refine WpL.skip rfl rfl ?_
    | refine seqQ_normal ?_
    | refine seqQ_ret ?_
    | refine seqQ_exit ?_
    | refine blkQ_normal ?_
    | refine blkQ_ret ?_
    | refine blkQ_out rfl ?_
    | refine blkQ_by rfl ?_)
  refine WpC.cond rfl (fun hb => by cases hb) (fun _ => ?_)
  repeat' (first
    | refine WpC.seq ?_
    | refine WpC.region ?_
    | refine WpC.drawn ?_
    | refine WpC.skip ?_
    | refine WpC.block ?_
    | refine WpC.exit ?_
    | refine WpC.ret ?_
    | refine WpO.nil ?_
    | refine WpO.cons rfl rfl (WpX.pure (fun _ => rfl) ⟨nolog, ?_⟩)
    | refine WpO.skip rfl rfl ?_
    | refine WpL.cons rfl rfl (WpX.pure (fun _ => rfl) ⟨nolog, ?_⟩)
    | refine WpL.skip rfl rfl ?_
    | refine seqQ_normal ?_
    | refine seqQ_ret ?_
    | refine seqQ_exit ?_
    | refine blkQ_normal ?_
    | refine blkQ_ret ?_
    | refine blkQ_out rfl ?_
    | refine blkQ_by rfl ?_
    | refine WpO.cons rfl rfl (op_buildSlice (k := 1) rfl rfl rfl rfl (by decide) rfl ⟨(by simp [InL, Acc.name, rowName] <;> omega), ?_⟩)
    | refine WpL.cons rfl rfl (op_buildSlice (k := 1) rfl rfl rfl rfl (by decide) rfl ⟨(by simp [InL, Acc.name, rowName] <;> omega), ?_⟩))
  have b1 : MapI.get (MapI.set h1 (c + 1) (.cells true true [.int .u8 1, .int .u8 2, .int .u8 3])) (c + 1) = some (.cells true true [.int .u8 1, .int .u8 2, .int .u8 3]) := MapI.get_same _ _ _
  have r1 : StoreAt (MapI.set h1 (c + 1) (.cells true true [.int .u8 1, .int .u8 2, .int .u8 3])) (c + 1 + 1) c (.slice none 0 (.known 0)) (.slice none 0 (.known 0)) ⟨[], 4, [], 0⟩ := r.keep (by omega) fun n hn => MapI.get_ne _ _ _ _ (by omega)
  refine WpO.cons rfl rfl (call_at rfl (grant_ok (n := 3) (ys := [1, 2, 3]) r1 (by omega) (by omega) rfl b1 rfl ⟨by simp, by simp⟩ ⟨by simp, by simp⟩ (by simp) (by simp) (by simp) (by omega) (by simp [rowName])) (fun n hn => .inr (by simp [rowName] at hn; omega)) (by omega) fun v h2 c2 hc2 hfr2 hq => ?_)
  obtain ⟨i, vb2, vr2, rows2, rfl, r2, hn2, hi, _, hrows⟩ := hq
  have hi0 : i = 0 := by simpa using hi
  subst hi0
  have hr2 : rows2 = [(0, 3, 1)] := by
    rcases hrows with ⟨q, h, _⟩ | ⟨_, h⟩
    · simp at h
    · rw [h]; rfl
  subst hr2
  repeat' (first
    | refine WpC.seq ?_
    | refine WpC.region ?_
    | refine WpC.drawn ?_
    | refine WpC.skip ?_
    | refine WpC.block ?_
    | refine WpC.exit ?_
    | refine WpC.ret ?_
    | refine WpO.nil ?_
    | refine WpO.cons rfl rfl (WpX.pure (fun _ => rfl) ⟨nolog, ?_⟩)
    | refine WpO.skip rfl rfl ?_
    | refine WpL.cons rfl rfl (WpX.pure (fun _ => rfl) ⟨nolog, ?_⟩)
    | refine WpL.skip rfl rfl ?_
    | refine seqQ_normal ?_
    | refine seqQ_ret ?_
    | refine seqQ_exit ?_
    | refine blkQ_normal ?_
    | refine blkQ_ret ?_
    | refine blkQ_out rfl ?_
    | refine blkQ_by rfl ?_
    | refine WpO.cons rfl rfl (op_buildSlice (k := 1) rfl rfl rfl rfl (by decide) rfl ⟨(by simp [InL, Acc.name, rowName] <;> omega), ?_⟩)
    | refine WpL.cons rfl rfl (op_buildSlice (k := 1) rfl rfl rfl rfl (by decide) rfl ⟨(by simp [InL, Acc.name, rowName] <;> omega), ?_⟩))
  have r3 : ∀ x : AObj, StoreAt (MapI.set h2 c2 x) (c2 + 1) c vb2 vr2 ⟨[] ++ [1, 2, 3], 4, [(0, 3, 1)], 0 + 3⟩ := fun x => r2.keep (by omega) fun n hn => MapI.get_ne _ _ _ _ (by omega)
  refine WpO.cons rfl rfl (call_at rfl (grant_no (r3 _) (n := 2) (by omega) (by omega) ⟨by simp, by simp⟩ (by simp)) (fun n hn => .inr (by simp at hn; omega)) (by omega) fun v h3 c3 hc3 hfr3 hq => ?_)
  obtain ⟨rfl, rfl, rfl⟩ := hq
  repeat' (first
    | refine WpC.seq ?_
    | refine WpC.region ?_
    | refine WpC.drawn ?_
    | refine WpC.skip ?_
    | refine WpC.block ?_
    | refine WpC.exit ?_
    | refine WpC.ret ?_
    | refine WpO.nil ?_
    | refine WpO.cons rfl rfl (WpX.pure (fun _ => rfl) ⟨nolog, ?_⟩)
    | refine WpO.skip rfl rfl ?_
    | refine WpL.cons rfl rfl (WpX.pure (fun _ => rfl) ⟨nolog, ?_⟩)
    | refine WpL.skip rfl rfl ?_
    | refine seqQ_normal ?_
    | refine seqQ_ret ?_
    | refine seqQ_exit ?_
    | refine blkQ_normal ?_
    | refine blkQ_ret ?_
    | refine blkQ_out rfl ?_
    | refine blkQ_by rfl ?_)
  refine WpO.cons rfl rfl (call_at rfl (drop_ok (r3 _) (by simp)) (fun n hn => .inr (by
    rcases List.mem_cons.1 hn with e | e
    · omega
    · have := hn2 n (List.mem_append_right _ e); simp [rowName] at this; omega)) (by omega) fun v h4 c4 hc4 hfr4 hq => ?_)
  obtain ⟨rfl, hq⟩ := hq
  rcases hq with ⟨i, q, hi, hqi, hq0, rfl, r4⟩ | ⟨hno, _⟩
  case inr => exact absurd (hno 0 (0, 3, 1) rfl rfl) (by decide)
  have hi0 : i = 0 := by omega
  subst hi0
  simp at hqi
  subst hqi
  repeat' (first
    | refine WpC.seq ?_
    | refine WpC.region ?_
    | refine WpC.drawn ?_
    | refine WpC.skip ?_
    | refine WpC.block ?_
    | refine WpC.exit ?_
    | refine WpC.ret ?_
    | refine WpO.nil ?_
    | refine WpO.cons rfl rfl (WpX.pure (fun _ => rfl) ⟨nolog, ?_⟩)
    | refine WpO.skip rfl rfl ?_
    | refine WpL.cons rfl rfl (WpX.pure (fun _ => rfl) ⟨nolog, ?_⟩)
    | refine WpL.skip rfl rfl ?_
    | refine seqQ_normal ?_
    | refine seqQ_ret ?_
    | refine seqQ_exit ?_
    | refine blkQ_normal ?_
    | refine blkQ_ret ?_
    | refine blkQ_out rfl ?_
    | refine blkQ_by rfl ?_)
  refine WpO.cons rfl rfl (call_at rfl (live_ok r4) (fun n hn => .inr (by simp at hn; omega)) (by omega) fun v h5 c5 hc5 hfr5 hq => ?_)
  obtain ⟨rfl, rfl, rfl⟩ := hq
  have hl : (if IntKind.i64.wrap ((1 : Int) - 1) = 0 then IntKind.i64.wrap ((0 + 3 : Int) - 3) else 0 + 3) = 0 := by decide
  simp only [hl]
  repeat' (first
    | refine WpC.seq ?_
    | refine WpC.region ?_
    | refine WpC.drawn ?_
    | refine WpC.skip ?_
    | refine WpC.block ?_
    | refine WpC.exit ?_
    | refine WpC.ret ?_
    | refine WpO.nil ?_
    | refine WpO.cons rfl rfl (WpX.pure (fun _ => rfl) ⟨nolog, ?_⟩)
    | refine WpO.skip rfl rfl ?_
    | refine WpL.cons rfl rfl (WpX.pure (fun _ => rfl) ⟨nolog, ?_⟩)
    | refine WpL.skip rfl rfl ?_
    | refine seqQ_normal ?_
    | refine seqQ_ret ?_
    | refine seqQ_exit ?_
    | refine blkQ_normal ?_
    | refine blkQ_ret ?_
    | refine blkQ_out rfl ?_
    | refine blkQ_by rfl ?_)
  exact out_ret rfl rfl

/-- How many are positive. -/
def pos : List Int → Nat
  | [] => 0
  | x :: l => (if x > 0 then 1 else 0) + pos l
theorem pos_le : ∀ l, pos l ≤ l.length
  | [] => Nat.le_refl _
  | x :: l => by have := pos_le l; simp only [pos, List.length_cons]; split <;> omega
theorem pos_app : ∀ a b, pos (a ++ b) = pos a + pos b
  | [], b => by simp [pos]
  | x :: a, b => by have := pos_app a b; simp only [List.cons_append, pos, this]; omega
theorem pos_set : ∀ {l : List Int} {k : Nat} {x y : Int}, l[k]? = some x → pos (l.set k y) + (if x > 0 then 1 else 0) = pos l + (if y > 0 then 1 else 0)
  | [], _, _, _, h => by simp at h
  | a :: l, 0, x, y, h => by simp at h; subst h; simp only [List.set_cons_zero, pos]; omega
  | a :: l, k + 1, x, y, h => by
    have := pos_set (l := l) (k := k) (x := x) (y := y) (by simpa using h)
    simp only [List.set_cons_succ, pos]
    omega
theorem hnd_pos : ∀ (rows : List (Int × Int × Int)) (k : Nat), (hnd rows k).length = pos (rows.map fun q => q.2.2)
  | [], _ => rfl
  | q :: rows, k => by
    have := hnd_pos rows (k + 1)
    simp only [hnd, List.map_cons, pos]
    split <;> simp [this] <;> omega
theorem map_set {rows : List (Int × Int × Int)} {k : Nat} {q : Int × Int × Int} : (rows.set k q).map (fun q => q.2.2) = (rows.map fun q => q.2.2).set k q.2.2 := by simp [List.map_set]
end Go.Proofs.Ytempfmkicpifkaa
