/- TiesPlays: the reference's rows of pairs. -/
import Derived.Test.YtempfmkicpifkaaTi6W
set_option linter.unusedVariables false
set_option linter.unusedSectionVars false
set_option linter.unusedSimpArgs false
set_option linter.unnecessarySimpa false
namespace Go.Proofs.Ytempfmkicpifkaa.Ti
open Go.Ab
set_option maxRecDepth 10000
theorem elW : ElT cx 73 80 1 := ⟨rfl, rfl, rfl, ⟨_, rfl, by decide⟩⟩
variable {h h' : HH} {c c' : Nat} {O : List (Int × Int)} {v w : V} {k u : Int}
theorem pair_at {O : List (Int × Int)} {i : Nat} {z : Int × Int} (hz : O[i]? = some z) (jk : List V) : nth (flat pairV O ++ jk) (0 + ((i : Nat) : Int).toNat * 2 + 0) = some (I z.1) ∧ nth (flat pairV O ++ jk) (0 + ((i : Nat) : Int).toNat * 2 + 1) = some (I z.2) ∧
    cut (flat pairV O ++ jk) (0 + ((i : Nat) : Int).toNat * 2) 2 = some [I z.1, I z.2] := by
  have e : 0 + ((i : Nat) : Int).toNat * 2 = i * 2 := by simp
  rw [e]
  exact ⟨(nth_flat pair_len hz (by omega) jk).trans rfl, (nth_flat pair_len hz (by omega) jk).trans rfl, cut_flat pair_len hz jk⟩
set_option maxHeartbeats 8000000 in
theorem addw_ok (r : ListOf 2 pairV h c v O) (hu : Up O) (hlen : O.length ≤ 1000) : Does 54 [v, .agg [I k, I u]] h c (rowName v) fun q h' c' => (∀ n, n < c → MapI.get h' n = MapI.get h n) ∧
    ((O.lookup k ≠ none ∧ q = .tuple [v, .bool false]) ∨ (O.lookup k = none ∧ ∃ v', q = .tuple [v', .bool true] ∧ ListOf 2 pairV h' c' v' (insG (k, u) O) ∧ (∀ n ∈ rowName v', c ≤ n))) := by
  have hpl := posG_le (k := k) (S := O)
  have hlt := r.lt
  have rS := r
  obtain ⟨s, cap, rfl, hs⟩ := r.shape
  refine does_of (enter (fn := Try.f54) Try.func54 rfl rfl (Nat.le_of_ble_eq_true rfl) ?_)
  have hbx : MapI.get (MapI.set h c (.cells true true [I k, I u])) c = some (.cells true true [I k, I u]) := MapI.get_same _ _ _
  have hk1 : ∀ n, n < c → MapI.get (MapI.set h c (.cells true true [I k, I u])) n = MapI.get h n := fun n hn => MapI.get_ne _ _ _ _ (by omega)
  let M : EE → HH → Nat → Prop := fun e h' c' => (∃ b0, e = MapI.set (MapI.set (MapI.set b0 0 (.slice s O.length cap)) 3 (V.ptr (some (c, 0)))) 6 (I (posG k O))) ∧ h' = MapI.set h c (.cells true true [I k, I u]) ∧ c' = c + 1
  have hs1 : ∀ i, i < O.length → cap = .upTo 2 ∧ ∃ n cl junk, s = some (n, 0) ∧ n < c ∧ MapI.get (MapI.set h c (.cells true true [I k, I u])) n = some (.cells true cl (flat pairV O ++ junk)) := fun i hi => by
    obtain ⟨e1, n, cl, junk, e2, e3, e4, _⟩ := hs i hi
    exact ⟨e1, n, cl, junk, e2, e3, by rw [hk1 n e3]; exact e4⟩
  repeat' (first
    | refine WpC.seqI (a := Code.block 0 _) M ?_ ?_
    | refine WpC.seq ?_
    | refine WpC.region ?_
    | refine WpC.drawn ?_
    | refine WpC.skip ?_
    | refine WpC.block ?_
    | refine WpC.exit ?_
    | refine WpC.ret ?_
    | refine WpO.nil ?_
    | refine WpO.cons rfl rfl (WpX.pure (fun _ => rfl) ⟨nolog, ?_⟩)
    | refine WpO.skip rfl rfl ?_
    | refine WpL.cons rfl rfl (WpX.pure (fun _ => rfl) ⟨nolog, ?_⟩)
    | refine WpL.skip rfl rfl ?_
    | refine seqQ_normal ?_
    | refine seqQ_ret ?_
    | refine seqQ_exit ?_
    | refine blkQ_normal ?_
    | refine blkQ_ret ?_
    | refine blkQ_out rfl ?_
    | refine blkQ_by rfl ?_
    | refine WpO.cons rfl rfl (op_box rfl ⟨(by simp [InL, Acc.name, rowName] <;> omega), ?_⟩)
    | refine WpL.cons rfl rfl (op_box rfl ⟨(by simp [InL, Acc.name, rowName] <;> omega), ?_⟩))
  · refine WpC.loop ?_
    refine WpLoop.ind (X := Nat) (fun i e h' c' => (∃ b0, e = MapI.set (MapI.set (MapI.set b0 0 (.slice s O.length cap)) 3 (V.ptr (some (c, 0)))) 6 (I i)) ∧ i ≤ O.length ∧ (∀ j q, j < i → O[j]? = some q → q.1 < k) ∧ h' = MapI.set h c (.cells true true [I k, I u]) ∧ c' = c + 1) (fun i => O.length - i) ?_ 0 _ _ _ ⟨set3 rfl rfl rfl, Nat.zero_le _, fun j q hj => by omega, rfl, rfl⟩
    rintro i e h' c' ⟨⟨b0, rfl⟩, hi, hb, rfl, rfl⟩
    by_cases hlti : i < O.length
    · have e1 : decide (((i : Nat) : Int) < (O.length : Int)) = true := decide_eq_true (by omega)
      obtain ⟨rfl, sn, cl, junk, rfl, hsn, hg⟩ := hs1 i hlti
      obtain ⟨⟨z, y⟩, hz⟩ : ∃ z, O[i]? = some z := ⟨_, List.getElem?_eq_getElem hlti⟩
      obtain ⟨p0, p1, _⟩ := pair_at hz junk
      have hw1 : IntKind.i64.wrap ((i : Int) + 1) = ((i + 1 : Nat) : Int) := by rw [Go.IntWalk.i64_in _ (by omega)]; omega
      repeat' (first
        | refine WpC.seq ?_
        | refine WpC.region ?_
        | refine WpC.drawn ?_
        | refine WpC.skip ?_
        | refine WpC.block ?_
        | refine WpC.exit ?_
        | refine WpC.ret ?_
        | refine WpO.nil ?_
        | refine WpO.cons rfl rfl (WpX.pure (fun _ => rfl) ⟨nolog, ?_⟩)
        | refine WpO.skip rfl rfl ?_
        | refine WpL.cons rfl rfl (WpX.pure (fun _ => rfl) ⟨nolog, ?_⟩)
        | refine WpL.skip rfl rfl ?_
        | refine seqQ_normal ?_
        | refine seqQ_ret ?_
        | refine seqQ_exit ?_
        | refine blkQ_normal ?_
        | refine blkQ_ret ?_
        | refine blkQ_out rfl ?_
        | refine blkQ_by rfl ?_
        | refine WpO.cons rfl rfl (op_len rfl rfl rfl ⟨(by simp [InL, Acc.name, rowName] <;> omega), ?_⟩)
        | refine WpL.cons rfl rfl (op_len rfl rfl rfl ⟨(by simp [InL, Acc.name, rowName] <;> omega), ?_⟩))
      simp only [e1]
      repeat' (first
        | refine WpC.seq ?_
        | refine WpC.region ?_
        | refine WpC.drawn ?_
        | refine WpC.skip ?_
        | refine WpC.block ?_
        | refine WpC.exit ?_
        | refine WpC.ret ?_
        | refine WpO.nil ?_
        | refine WpO.cons rfl rfl (WpX.pure (fun _ => rfl) ⟨nolog, ?_⟩)
        | refine WpO.skip rfl rfl ?_
        | refine WpL.cons rfl rfl (WpX.pure (fun _ => rfl) ⟨nolog, ?_⟩)
        | refine WpL.skip rfl rfl ?_
        | refine seqQ_normal ?_
        | refine seqQ_ret ?_
        | refine seqQ_exit ?_
        | refine blkQ_normal ?_
        | refine blkQ_ret ?_
        | refine blkQ_out rfl ?_
        | refine blkQ_by rfl ?_
        | refine WpO.cons rfl rfl (op_indexAddr (k := 2) rfl rfl rfl rfl ⟨by omega, by omega⟩ ⟨(by simp [InL, Acc.name, rowName] <;> omega), ?_⟩)
        | refine WpL.cons rfl rfl (op_indexAddr (k := 2) rfl rfl rfl rfl ⟨by omega, by omega⟩ ⟨(by simp [InL, Acc.name, rowName] <;> omega), ?_⟩)
        | refine WpO.cons rfl rfl (op_load rfl rfl rfl hg p0 ⟨(by simp [InL, Acc.name, rowName] <;> omega), ?_⟩)
        | refine WpL.cons rfl rfl (op_load rfl rfl rfl hg p0 ⟨(by simp [InL, Acc.name, rowName] <;> omega), ?_⟩)
        | refine WpO.cons rfl rfl (op_load rfl rfl rfl hbx rfl ⟨(by simp [InL, Acc.name, rowName] <;> omega), ?_⟩)
        | refine WpL.cons rfl rfl (op_load rfl rfl rfl hbx rfl ⟨(by simp [InL, Acc.name, rowName] <;> omega), ?_⟩))
      refine WpL.nil (logsOk_reads (by simp only [List.nil_append, List.cons_append, anyWrite, List.any_nil, List.any_cons, accw_rd, Bool.or_self])) ?_
      refine WpC.cond rfl (fun hc => ?_) (fun hc => ?_)
      · have hc : z < k := by simpa using hc
        repeat' (first
          | refine WpC.seq ?_
          | refine WpC.region ?_
          | refine WpC.drawn ?_
          | refine WpC.skip ?_
          | refine WpC.block ?_
          | refine WpC.exit ?_
          | refine WpC.ret ?_
          | refine WpO.nil ?_
          | refine WpO.cons rfl rfl (WpX.pure (fun _ => rfl) ⟨nolog, ?_⟩)
          | refine WpO.skip rfl rfl ?_
          | refine WpL.cons rfl rfl (WpX.pure (fun _ => rfl) ⟨nolog, ?_⟩)
          | refine WpL.skip rfl rfl ?_
          | refine seqQ_normal ?_
          | refine seqQ_ret ?_
          | refine seqQ_exit ?_
          | refine blkQ_normal ?_
          | refine blkQ_ret ?_
          | refine blkQ_out rfl ?_
          | refine blkQ_by rfl ?_)
        refine ⟨i + 1, by omega, ?_, by omega, fun j q hj hq => ?_, rfl, rfl⟩
        · rw [hw1]
          exact set3 rfl rfl rfl
        · by_cases e : j = i
          · subst e; rw [hz] at hq; cases hq; exact hc
          · exact hb j q (by omega) hq
      · have hc : k ≤ z := by simpa using hc
        have hp : i = posG k O := pos_of (by omega) hb (fun q hq => by rw [hz] at hq; cases hq; exact hc)
        subst hp
        repeat' (first
          | refine WpC.seq ?_
          | refine WpC.region ?_
          | refine WpC.drawn ?_
          | refine WpC.skip ?_
          | refine WpC.block ?_
          | refine WpC.exit ?_
          | refine WpC.ret ?_
          | refine WpO.nil ?_
          | refine WpO.cons rfl rfl (WpX.pure (fun _ => rfl) ⟨nolog, ?_⟩)
          | refine WpO.skip rfl rfl ?_
          | refine WpL.cons rfl rfl (WpX.pure (fun _ => rfl) ⟨nolog, ?_⟩)
          | refine WpL.skip rfl rfl ?_
          | refine seqQ_normal ?_
          | refine seqQ_ret ?_
          | refine seqQ_exit ?_
          | refine blkQ_normal ?_
          | refine blkQ_ret ?_
          | refine blkQ_out rfl ?_
          | refine blkQ_by rfl ?_)
        exact ⟨set3 rfl rfl rfl, rfl, rfl⟩
    · have e1 : decide (((i : Nat) : Int) < (O.length : Int)) = false := decide_eq_false (by omega)
      have hp : i = posG k O := pos_of (by omega) hb (fun q hq => by have := (List.getElem?_eq_some_iff.1 hq).1; omega)
      repeat' (first
        | refine WpC.seq ?_
        | refine WpC.region ?_
        | refine WpC.drawn ?_
        | refine WpC.skip ?_
        | refine WpC.block ?_
        | refine WpC.exit ?_
        | refine WpC.ret ?_
        | refine WpO.nil ?_
        | refine WpO.cons rfl rfl (WpX.pure (fun _ => rfl) ⟨nolog, ?_⟩)
        | refine WpO.skip rfl rfl ?_
        | refine WpL.cons rfl rfl (WpX.pure (fun _ => rfl) ⟨nolog, ?_⟩)
        | refine WpL.skip rfl rfl ?_
        | refine seqQ_normal ?_
        | refine seqQ_ret ?_
        | refine seqQ_exit ?_
        | refine blkQ_normal ?_
        | refine blkQ_ret ?_
        | refine blkQ_out rfl ?_
        | refine blkQ_by rfl ?_
        | refine WpO.cons rfl rfl (op_len rfl rfl rfl ⟨(by simp [InL, Acc.name, rowName] <;> omega), ?_⟩)
        | refine WpL.cons rfl rfl (op_len rfl rfl rfl ⟨(by simp [InL, Acc.name, rowName] <;> omega), ?_⟩))
      simp only [e1]
      repeat' (first
        | refine WpC.seq ?_
        | refine WpC.region ?_
        | refine WpC.drawn ?_
        | refine WpC.skip ?_
        | refine WpC.block ?_
        | refine WpC.exit ?_
        | refine WpC.ret ?_
        | refine WpO.nil ?_
        | refine WpO.cons rfl rfl (WpX.pure (fun _ => rfl) ⟨nolog, ?_⟩)
        | refine WpO.skip rfl rfl ?_
        | refine WpL.cons rfl rfl (WpX.pure (fun _ => rfl) ⟨nolog, ?_⟩)
        | refine WpL.skip rfl rfl ?_
        | refine seqQ_normal ?_
        | refine seqQ_ret ?_
        | refine seqQ_exit ?_
        | refine blkQ_normal ?_
        | refine blkQ_ret ?_
        | refine blkQ_out rfl ?_
        | refine blkQ_by rfl ?_)
      refine WpL.nil (logsOk_reads (by simp only [List.nil_append, List.cons_append, anyWrite, List.any_nil, List.any_cons, accw_rd, Bool.or_self])) ?_
      refine WpC.cond rfl (fun hb => by cases hb) (fun _ => ?_)
      subst hp
      repeat' (first
        | refine WpC.seq ?_
        | refine WpC.region ?_
        | refine WpC.drawn ?_
        | refine WpC.skip ?_
        | refine WpC.block ?_
        | refine WpC.exit ?_
        | refine WpC.ret ?_
        | refine WpO.nil ?_
        | refine WpO.cons rfl rfl (WpX.pure (fun _ => rfl) ⟨nolog, ?_⟩)
        | refine WpO.skip rfl rfl ?_
        | refine WpL.cons rfl rfl (WpX.pure (fun _ => rfl) ⟨nolog, ?_⟩)
        | refine WpL.skip rfl rfl ?_
        | refine seqQ_normal ?_
        | refine seqQ_ret ?_
        | refine seqQ_exit ?_
        | refine blkQ_normal ?_
        | refine blkQ_ret ?_
        | refine blkQ_out rfl ?_
        | refine blkQ_by rfl ?_)
      exact ⟨set3 rfl rfl rfl, rfl, rfl⟩
  · rintro e h' c' ⟨⟨b0, rfl⟩, rfl, rfl⟩
    let M2 : EE → HH → Nat → Prop := fun e h' c' => O.lookup k = none ∧ (∃ b0, e = MapI.set (MapI.set (MapI.set b0 0 (.slice s O.length cap)) 3 (V.ptr (some (c, 0)))) 6 (I (posG k O))) ∧ h' = MapI.set h c (.cells true true [I k, I u]) ∧ c' = c + 1
    refine WpC.seqI (a := Code.seq (Code.region 4 _ true) _) M2 ?_ ?_
    · rcases look_pos (k := k) hu with ⟨y, hz, hlk⟩ | ⟨hgt, hlk⟩
      ·
        have hlti := (List.getElem?_eq_some_iff.1 hz).1
        have e1 : decide (((posG k O : Nat) : Int) < (O.length : Int)) = true := decide_eq_true (by omega)
        obtain ⟨rfl, sn, cl, junk, rfl, hsn, hg⟩ := hs1 _ hlti
        obtain ⟨p0, p1, _⟩ := pair_at hz junk
        repeat' (first
          | refine WpC.seq ?_
          | refine WpC.region ?_
          | refine WpC.drawn ?_
          | refine WpC.skip ?_
          | refine WpC.block ?_
          | refine WpC.exit ?_
          | refine WpC.ret ?_
          | refine WpO.nil ?_
          | refine WpO.cons rfl rfl (WpX.pure (fun _ => rfl) ⟨nolog, ?_⟩)
          | refine WpO.skip rfl rfl ?_
          | refine WpL.cons rfl rfl (WpX.pure (fun _ => rfl) ⟨nolog, ?_⟩)
          | refine WpL.skip rfl rfl ?_
          | refine seqQ_normal ?_
          | refine seqQ_ret ?_
          | refine seqQ_exit ?_
          | refine blkQ_normal ?_
          | refine blkQ_ret ?_
          | refine blkQ_out rfl ?_
          | refine blkQ_by rfl ?_
          | refine WpO.cons rfl rfl (op_len rfl rfl rfl ⟨(by simp [InL, Acc.name, rowName] <;> omega), ?_⟩)
          | refine WpL.cons rfl rfl (op_len rfl rfl rfl ⟨(by simp [InL, Acc.name, rowName] <;> omega), ?_⟩))
        simp only [e1]
        repeat' (first
          | refine WpC.seq ?_
          | refine WpC.region ?_
          | refine WpC.drawn ?_
          | refine WpC.skip ?_
          | refine WpC.block ?_
          | refine WpC.exit ?_
          | refine WpC.ret ?_
          | refine WpO.nil ?_
          | refine WpO.cons rfl rfl (WpX.pure (fun _ => rfl) ⟨nolog, ?_⟩)
          | refine WpO.skip rfl rfl ?_
          | refine WpL.cons rfl rfl (WpX.pure (fun _ => rfl) ⟨nolog, ?_⟩)
          | refine WpL.skip rfl rfl ?_
          | refine seqQ_normal ?_
          | refine seqQ_ret ?_
          | refine seqQ_exit ?_
          | refine blkQ_normal ?_
          | refine blkQ_ret ?_
          | refine blkQ_out rfl ?_
          | refine blkQ_by rfl ?_
          | refine WpO.cons rfl rfl (op_indexAddr (k := 2) rfl rfl rfl rfl ⟨by omega, by omega⟩ ⟨(by simp [InL, Acc.name, rowName] <;> omega), ?_⟩)
          | refine WpL.cons rfl rfl (op_indexAddr (k := 2) rfl rfl rfl rfl ⟨by omega, by omega⟩ ⟨(by simp [InL, Acc.name, rowName] <;> omega), ?_⟩)
          | refine WpO.cons rfl rfl (op_load rfl rfl rfl hg p0 ⟨(by simp [InL, Acc.name, rowName] <;> omega), ?_⟩)
          | refine WpL.cons rfl rfl (op_load rfl rfl rfl hg p0 ⟨(by simp [InL, Acc.name, rowName] <;> omega), ?_⟩)
          | refine WpO.cons rfl rfl (op_load rfl rfl rfl hbx rfl ⟨(by simp [InL, Acc.name, rowName] <;> omega), ?_⟩)
          | refine WpL.cons rfl rfl (op_load rfl rfl rfl hbx rfl ⟨(by simp [InL, Acc.name, rowName] <;> omega), ?_⟩))
        simp only [beq_self_eq_true]
        repeat' (first
          | refine WpC.seq ?_
          | refine WpC.region ?_
          | refine WpC.drawn ?_
          | refine WpC.skip ?_
          | refine WpC.block ?_
          | refine WpC.exit ?_
          | refine WpC.ret ?_
          | refine WpO.nil ?_
          | refine WpO.cons rfl rfl (WpX.pure (fun _ => rfl) ⟨nolog, ?_⟩)
          | refine WpO.skip rfl rfl ?_
          | refine WpL.cons rfl rfl (WpX.pure (fun _ => rfl) ⟨nolog, ?_⟩)
          | refine WpL.skip rfl rfl ?_
          | refine seqQ_normal ?_
          | refine seqQ_ret ?_
          | refine seqQ_exit ?_
          | refine blkQ_normal ?_
          | refine blkQ_ret ?_
          | refine blkQ_out rfl ?_
          | refine blkQ_by rfl ?_)
        refine WpL.nil (logsOk_reads (by simp only [List.nil_append, List.cons_append, anyWrite, List.any_nil, List.any_cons, accw_rd, Bool.or_self])) ?_
        refine WpC.cond rfl (fun _ => ?_) (fun hb => by cases hb)
        repeat' (first
          | refine WpC.seq ?_
          | refine WpC.region ?_
          | refine WpC.drawn ?_
          | refine WpC.skip ?_
          | refine WpC.block ?_
          | refine WpC.exit ?_
          | refine WpC.ret ?_
          | refine WpO.nil ?_
          | refine WpO.cons rfl rfl (WpX.pure (fun _ => rfl) ⟨nolog, ?_⟩)
          | refine WpO.skip rfl rfl ?_
          | refine WpL.cons rfl rfl (WpX.pure (fun _ => rfl) ⟨nolog, ?_⟩)
          | refine WpL.skip rfl rfl ?_
          | refine seqQ_normal ?_
          | refine seqQ_ret ?_
          | refine seqQ_exit ?_
          | refine blkQ_normal ?_
          | refine blkQ_ret ?_
          | refine blkQ_out rfl ?_
          | refine blkQ_by rfl ?_)
        exact out_ret rfl ⟨hk1, .inl ⟨by rw [hlk]; simp, rfl⟩⟩
      · by_cases hlti : posG k O < O.length
        · have e1 : decide (((posG k O : Nat) : Int) < (O.length : Int)) = true := decide_eq_true (by omega)
          obtain ⟨⟨z, y⟩, hz⟩ : ∃ z, O[posG k O]? = some z := ⟨_, List.getElem?_eq_getElem hlti⟩
          have hzk := hgt _ hz
          obtain ⟨hcap, sn, cl, junk, hsn', hsn, hg⟩ := hs1 _ hlti
          obtain ⟨p0, p1, _⟩ := pair_at hz junk
          have e2 : (z == k) = false := beq_eq_false_iff_ne.2 (by simp at hzk; omega)
          subst hcap
          subst hsn'
          repeat' (first
            | refine WpC.seq ?_
            | refine WpC.region ?_
            | refine WpC.drawn ?_
            | refine WpC.skip ?_
            | refine WpC.block ?_
            | refine WpC.exit ?_
            | refine WpC.ret ?_
            | refine WpO.nil ?_
            | refine WpO.cons rfl rfl (WpX.pure (fun _ => rfl) ⟨nolog, ?_⟩)
            | refine WpO.skip rfl rfl ?_
            | refine WpL.cons rfl rfl (WpX.pure (fun _ => rfl) ⟨nolog, ?_⟩)
            | refine WpL.skip rfl rfl ?_
            | refine seqQ_normal ?_
            | refine seqQ_ret ?_
            | refine seqQ_exit ?_
            | refine blkQ_normal ?_
            | refine blkQ_ret ?_
            | refine blkQ_out rfl ?_
            | refine blkQ_by rfl ?_
            | refine WpO.cons rfl rfl (op_len rfl rfl rfl ⟨(by simp [InL, Acc.name, rowName] <;> omega), ?_⟩)
            | refine WpL.cons rfl rfl (op_len rfl rfl rfl ⟨(by simp [InL, Acc.name, rowName] <;> omega), ?_⟩))
          simp only [e1]
          repeat' (first
            | refine WpC.seq ?_
            | refine WpC.region ?_
            | refine WpC.drawn ?_
            | refine WpC.skip ?_
            | refine WpC.block ?_
            | refine WpC.exit ?_
            | refine WpC.ret ?_
            | refine WpO.nil ?_
            | refine WpO.cons rfl rfl (WpX.pure (fun _ => rfl) ⟨nolog, ?_⟩)
            | refine WpO.skip rfl rfl ?_
            | refine WpL.cons rfl rfl (WpX.pure (fun _ => rfl) ⟨nolog, ?_⟩)
            | refine WpL.skip rfl rfl ?_
            | refine seqQ_normal ?_
            | refine seqQ_ret ?_
            | refine seqQ_exit ?_
            | refine blkQ_normal ?_
            | refine blkQ_ret ?_
            | refine blkQ_out rfl ?_
            | refine blkQ_by rfl ?_
            | refine WpO.cons rfl rfl (op_indexAddr (k := 2) rfl rfl rfl rfl ⟨by omega, by omega⟩ ⟨(by simp [InL, Acc.name, rowName] <;> omega), ?_⟩)
            | refine WpL.cons rfl rfl (op_indexAddr (k := 2) rfl rfl rfl rfl ⟨by omega, by omega⟩ ⟨(by simp [InL, Acc.name, rowName] <;> omega), ?_⟩)
            | refine WpO.cons rfl rfl (op_load rfl rfl rfl hg p0 ⟨(by simp [InL, Acc.name, rowName] <;> omega), ?_⟩)
            | refine WpL.cons rfl rfl (op_load rfl rfl rfl hg p0 ⟨(by simp [InL, Acc.name, rowName] <;> omega), ?_⟩)
            | refine WpO.cons rfl rfl (op_load rfl rfl rfl hbx rfl ⟨(by simp [InL, Acc.name, rowName] <;> omega), ?_⟩)
            | refine WpL.cons rfl rfl (op_load rfl rfl rfl hbx rfl ⟨(by simp [InL, Acc.name, rowName] <;> omega), ?_⟩))
          simp only [e2]
          repeat' (first
            | refine WpC.seq ?_
            | refine WpC.region ?_
            | refine WpC.drawn ?_
            | refine WpC.skip ?_
            | refine WpC.block ?_
            | refine WpC.exit ?_
            | refine WpC.ret ?_
            | refine WpO.nil ?_
            | refine WpO.cons rfl rfl (WpX.pure (fun _ => rfl) ⟨nolog, ?_⟩)
            | refine WpO.skip rfl rfl ?_
            | refine WpL.cons rfl rfl (WpX.pure (fun _ => rfl) ⟨nolog, ?_⟩)
            | refine WpL.skip rfl rfl ?_
            | refine seqQ_normal ?_
            | refine seqQ_ret ?_
            | refine seqQ_exit ?_
            | refine blkQ_normal ?_
            | refine blkQ_ret ?_
            | refine blkQ_out rfl ?_
            | refine blkQ_by rfl ?_)
          refine WpL.nil (logsOk_reads (by simp only [List.nil_append, List.cons_append, anyWrite, List.any_nil, List.any_cons, accw_rd, Bool.or_self])) ?_
          refine WpC.cond rfl (fun hb => by cases hb) (fun _ => ?_)
          refine WpC.skip ?_
          refine seqQ_normal ?_
          exact ⟨hlk, set3 rfl rfl rfl, rfl, rfl⟩
        · have e1 : decide (((posG k O : Nat) : Int) < (O.length : Int)) = false := decide_eq_false (by omega)
          repeat' (first
            | refine WpC.seq ?_
            | refine WpC.region ?_
            | refine WpC.drawn ?_
            | refine WpC.skip ?_
            | refine WpC.block ?_
            | refine WpC.exit ?_
            | refine WpC.ret ?_
            | refine WpO.nil ?_
            | refine WpO.cons rfl rfl (WpX.pure (fun _ => rfl) ⟨nolog, ?_⟩)
            | refine WpO.skip rfl rfl ?_
            | refine WpL.cons rfl rfl (WpX.pure (fun _ => rfl) ⟨nolog, ?_⟩)
            | refine WpL.skip rfl rfl ?_
            | refine seqQ_normal ?_
            | refine seqQ_ret ?_
            | refine seqQ_exit ?_
            | refine blkQ_normal ?_
            | refine blkQ_ret ?_
            | refine blkQ_out rfl ?_
            | refine blkQ_by rfl ?_
            | refine WpO.cons rfl rfl (op_len rfl rfl rfl ⟨(by simp [InL, Acc.name, rowName] <;> omega), ?_⟩)
            | refine WpL.cons rfl rfl (op_len rfl rfl rfl ⟨(by simp [InL, Acc.name, rowName] <;> omega), ?_⟩))
          simp only [e1]
          repeat' (first
            | refine WpC.seq ?_
            | refine WpC.region ?_
            | refine WpC.drawn ?_
            | refine WpC.skip ?_
            | refine WpC.block ?_
            | refine WpC.exit ?_
            | refine WpC.ret ?_
            | refine WpO.nil ?_
            | refine WpO.cons rfl rfl (WpX.pure (fun _ => rfl) ⟨nolog, ?_⟩)
            | refine WpO.skip rfl rfl ?_
            | refine WpL.cons rfl rfl (WpX.pure (fun _ => rfl) ⟨nolog, ?_⟩)
            | refine WpL.skip rfl rfl ?_
            | refine seqQ_normal ?_
            | refine seqQ_ret ?_
            | refine seqQ_exit ?_
            | refine blkQ_normal ?_
            | refine blkQ_ret ?_
            | refine blkQ_out rfl ?_
            | refine blkQ_by rfl ?_)
          refine WpL.nil (logsOk_reads (by simp only [List.nil_append, List.cons_append, anyWrite, List.any_nil, List.any_cons, accw_rd, Bool.or_self])) ?_
          refine WpC.cond rfl (fun hb => by cases hb) (fun _ => ?_)
          refine WpC.skip ?_
          refine seqQ_normal ?_
          exact ⟨hlk, set3 rfl rfl rfl, rfl, rfl⟩
    · rintro e h' c' ⟨hlk, ⟨b0, rfl⟩, rfl, rfl⟩
      have r1 : ListOf 2 pairV (MapI.set h c (.cells true true [I k, I u])) (c + 1) (.slice s O.length cap) O := rS.keep (by omega) fun n hn _ => hk1 n hn
      repeat' (first
        | refine WpC.seq ?_
        | refine WpC.region ?_
        | refine WpC.drawn ?_
        | refine WpC.skip ?_
        | refine WpC.block ?_
        | refine WpC.exit ?_
        | refine WpC.ret ?_
        | refine WpO.nil ?_
        | refine WpO.cons rfl rfl (WpX.pure (fun _ => rfl) ⟨nolog, ?_⟩)
        | refine WpO.skip rfl rfl ?_
        | refine WpL.cons rfl rfl (WpX.pure (fun _ => rfl) ⟨nolog, ?_⟩)
        | refine WpL.skip rfl rfl ?_
        | refine seqQ_normal ?_
        | refine seqQ_ret ?_
        | refine seqQ_exit ?_
        | refine blkQ_normal ?_
        | refine blkQ_ret ?_
        | refine blkQ_out rfl ?_
        | refine blkQ_by rfl ?_)
      refine WpL.cons rfl rfl (op_take (k := 1) r1 pair_len rfl rfl rfl rfl rfl hpl fun w1 hw1 hn1 => ⟨nolog, ?_⟩)
      refine WpL.cons rfl rfl (append_sub (xs := []) rfl rfl elW rfl pair_len pair_all .nil hw1 (by simp; omega) (fun a ha => .inl (hn1 a ha)) (fun a ha => (by cases ha)) (.inr (by simp [Acc.name])) fun v2 h2 c2 al2 hl2 hn2 hc2 hf2 hal2 => ?_)
      have hbx2 : MapI.get h2 c = some (.cells true true [I k, I u]) := by rw [hf2 c (by omega) (fun hm => by cases hm)]; exact hbx
      have hl2' : ∀ x : AObj, ListOf 2 pairV (MapI.set h2 c2 x) (c2 + 1) v2 ([] ++ O.take (posG k O)) := fun x => hl2.keep (by omega) fun n hn _ => MapI.get_ne _ _ _ _ (by omega)
      have hg2 : ∀ x : AObj, MapI.get (MapI.set h2 c2 x) c2 = some x := fun x => MapI.get_same _ _ _
      have nv2 : ∀ a ∈ rowName v2, c + 1 ≤ a := fun a ha => by
        rcases hn2 a ha with h | ⟨h, _⟩
        · cases h
        · omega
      have lt2 := hl2.lt
      repeat' (first
        | refine WpC.seq ?_
        | refine WpC.region ?_
        | refine WpC.drawn ?_
        | refine WpC.skip ?_
        | refine WpC.block ?_
        | refine WpC.exit ?_
        | refine WpC.ret ?_
        | refine WpO.nil ?_
        | refine WpO.cons rfl rfl (WpX.pure (fun _ => rfl) ⟨nolog, ?_⟩)
        | refine WpO.skip rfl rfl ?_
        | refine WpL.cons rfl rfl (WpX.pure (fun _ => rfl) ⟨nolog, ?_⟩)
        | refine WpL.skip rfl rfl ?_
        | refine seqQ_normal ?_
        | refine seqQ_ret ?_
        | refine seqQ_exit ?_
        | refine blkQ_normal ?_
        | refine blkQ_ret ?_
        | refine blkQ_out rfl ?_
        | refine blkQ_by rfl ?_
        | refine WpO.cons rfl rfl (op_loadA rfl rfl rfl rfl hbx2 rfl ⟨(by simp [InL, Acc.name, rowName] <;> omega), ?_⟩)
        | refine WpL.cons rfl rfl (op_loadA rfl rfl rfl rfl hbx2 rfl ⟨(by simp [InL, Acc.name, rowName] <;> omega), ?_⟩)
        | refine WpO.cons rfl rfl (op_buildSlice (k := 2) rfl rfl rfl rfl (by decide) rfl ⟨(by simp [InL, Acc.name, rowName] <;> omega), ?_⟩)
        | refine WpL.cons rfl rfl (op_buildSlice (k := 2) rfl rfl rfl rfl (by decide) rfl ⟨(by simp [InL, Acc.name, rowName] <;> omega), ?_⟩))
      refine WpL.cons rfl rfl (append_sub (ys := [(k, u)]) rfl rfl elW rfl pair_len pair_all (hl2' _) (.inr ⟨c2, 0, .known 1, true, true, _, rfl, by omega, hg2 _, rfl⟩) (by simp; omega) (fun a ha => .inr (by simp [rowName] at ha; simp [Acc.name]; omega)) (fun a ha => by have := nv2 a ha; exact ⟨.inr (by simp [Acc.name]; omega), .inr (by simp [Acc.name]; omega)⟩) (.inr (by simp [Acc.name]; omega)) fun v3 h3 c3 al3 hl3 hn3 hc3 hf3 hal3 => ?_)
      have nv3 : ∀ a ∈ rowName v3, c + 1 ≤ a := fun a ha => by
        rcases hn3 a ha with h | ⟨h, _⟩
        · exact nv2 a h
        · omega
      have e3 : ∀ n, n < c + 1 → MapI.get h3 n = MapI.get (MapI.set h c (.cells true true [I k, I u])) n := fun n hn => by
        rw [hf3 n (by omega) (fun hm => by have := nv2 n hm; omega), MapI.get_ne _ _ _ _ (by omega), hf2 n (by omega) (fun hm => by cases hm)]
      have r3 : ListOf 2 pairV h3 c3 (.slice s O.length cap) O := r1.keep (by omega) fun n hn _ => e3 n hn
      repeat' (first
        | refine WpC.seq ?_
        | refine WpC.region ?_
        | refine WpC.drawn ?_
        | refine WpC.skip ?_
        | refine WpC.block ?_
        | refine WpC.exit ?_
        | refine WpC.ret ?_
        | refine WpO.nil ?_
        | refine WpO.cons rfl rfl (WpX.pure (fun _ => rfl) ⟨nolog, ?_⟩)
        | refine WpO.skip rfl rfl ?_
        | refine WpL.cons rfl rfl (WpX.pure (fun _ => rfl) ⟨nolog, ?_⟩)
        | refine WpL.skip rfl rfl ?_
        | refine seqQ_normal ?_
        | refine seqQ_ret ?_
        | refine seqQ_exit ?_
        | refine blkQ_normal ?_
        | refine blkQ_ret ?_
        | refine blkQ_out rfl ?_
        | refine blkQ_by rfl ?_)
      refine WpL.cons rfl rfl (op_drop (k := 1) r3 pair_len rfl rfl rfl rfl rfl hpl fun w4 hw4 hn4 => ⟨nolog, ?_⟩)
      refine WpL.cons rfl rfl (append_sub rfl rfl elW rfl pair_len pair_all hl3 hw4 (by simp; omega) (fun a ha => .inl (hn4 a ha)) (fun a ha => by have := nv3 a ha; exact ⟨.inr (by simp [Acc.name]; omega), .inr (by simp [Acc.name]; omega)⟩) (.inr (by simp [Acc.name]; omega)) fun v5 h5 c5 al5 hl5 hn5 hc5 hf5 hal5 => ?_)
      have b2 : ∀ x ∈ al2, x.name ≠ c2 := fun x hx e => by
        rcases hal2 x hx with ⟨h, _⟩ | h | ⟨h, h'⟩
        · have := hlt x.name (hn1 _ h); omega
        · cases h
        · omega
      have b2' : ∀ x ∈ al2, c2 ≠ x.name := fun x hx e => b2 x hx e.symm
      have b3 : ∀ x ∈ al2, x.name ≠ c := fun x hx e => by
        rcases hal2 x hx with ⟨h, _⟩ | h | ⟨h, h'⟩
        · have := hlt x.name (hn1 _ h); omega
        · cases h
        · omega
      have b3' : ∀ x ∈ al2, c ≠ x.name := fun x hx e => b3 x hx e.symm
      have hcc : c ≠ c2 := by omega
      have hcc' : c2 ≠ c := by omega
      repeat' (first
        | refine WpC.seq ?_
        | refine WpC.region ?_
        | refine WpC.drawn ?_
        | refine WpC.skip ?_
        | refine WpC.block ?_
        | refine WpC.exit ?_
        | refine WpC.ret ?_
        | refine WpO.nil ?_
        | refine WpO.cons rfl rfl (WpX.pure (fun _ => rfl) ⟨nolog, ?_⟩)
        | refine WpO.skip rfl rfl ?_
        | refine WpL.cons rfl rfl (WpX.pure (fun _ => rfl) ⟨nolog, ?_⟩)
        | refine WpL.skip rfl rfl ?_
        | refine seqQ_normal ?_
        | refine seqQ_ret ?_
        | refine seqQ_exit ?_
        | refine blkQ_normal ?_
        | refine blkQ_ret ?_
        | refine blkQ_out rfl ?_
        | refine blkQ_by rfl ?_)
      refine WpL.nil (logsOk_of (cs := [0, 0, 3, 7, 0, 16, 63, 0, 0, 384, 1023, 2047, 4095]) (by decide +kernel) ?_) ?_
      · simp +contextual [allP, apP, Dis, acc_rd, acc_wr, accw_rd, accw_wr, Nat.testBit, b2, b2', b3, b3', hcc, hcc']
      repeat' (first
        | refine WpC.seq ?_
        | refine WpC.region ?_
        | refine WpC.drawn ?_
        | refine WpC.skip ?_
        | refine WpC.block ?_
        | refine WpC.exit ?_
        | refine WpC.ret ?_
        | refine WpO.nil ?_
        | refine WpO.cons rfl rfl (WpX.pure (fun _ => rfl) ⟨nolog, ?_⟩)
        | refine WpO.skip rfl rfl ?_
        | refine WpL.cons rfl rfl (WpX.pure (fun _ => rfl) ⟨nolog, ?_⟩)
        | refine WpL.skip rfl rfl ?_
        | refine seqQ_normal ?_
        | refine seqQ_ret ?_
        | refine seqQ_exit ?_
        | refine blkQ_normal ?_
        | refine blkQ_ret ?_
        | refine blkQ_out rfl ?_
        | refine blkQ_by rfl ?_)
      refine out_ret rfl ⟨fun n hn => ?_, .inr ⟨hlk, v5, rfl, ?_, fun n hn => ?_⟩⟩
      · rw [hf5 n (by omega) (fun hm => by have := nv3 n hm; omega), e3 n (by omega)]; exact hk1 n hn
      · rw [ins_at hlk]
        simpa using hl5
      · rcases hn5 n hn with h | ⟨h, _⟩
        · have := nv3 n h; omega
        · omega
end Go.Proofs.Ytempfmkicpifkaa.Ti
