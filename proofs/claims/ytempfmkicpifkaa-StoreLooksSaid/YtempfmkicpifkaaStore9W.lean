/- StoreLooks answers true. -/
import Derived.Test.YtempfmkicpifkaaStore8W
set_option linter.unusedVariables false
set_option linter.unusedSectionVars false
set_option linter.unusedSimpArgs false
set_option linter.unnecessarySimpa false
namespace Go.Proofs.Ytempfmkicpifkaa
open Go.Ab
set_option maxRecDepth 10000

theorem set7 {X : EE} {k0 k1 k2 k3 k4 k5 k6 : Nat} {v0 v1 v2 v3 v4 v5 v6 : V} (h0 : X k0 = some v0) (h1 : X k1 = some v1) (h2 : X k2 = some v2) (h3 : X k3 = some v3) (h4 : X k4 = some v4) (h5 : X k5 = some v5) (h6 : X k6 = some v6) : ∃ b, X = MapI.set (MapI.set (MapI.set (MapI.set (MapI.set (MapI.set (MapI.set b k0 v0) k1 v1) k2 v2) k3 v3) k4 v4) k5 v5) k6 v6 :=
  ⟨X, by rw [FM.add h0, FM.add h1, FM.add h2, FM.add h3, FM.add h4, FM.add h5, FM.add h6]⟩
theorem reps_flat : ∀ n : Nat, reps n [V.int .u8 0] = flat byteV (List.replicate n 0)
  | 0 => rfl
  | n + 1 => by rw [reps, reps_flat n, List.replicate_succ, flat_cons]; rfl
theorem drop_rep {ys : List Int} {a b : Nat} : (List.replicate a (0 : Int) ++ ys).drop (a + b) = ys.drop b := by
  rw [List.drop_append, List.drop_eq_nil_of_le (by simp)]
  simp

/-- What is within. -/
def Within (at' n : Int) (len : Nat) : Prop := 0 ≤ at' ∧ 0 ≤ n ∧ at' ≤ len ∧ n ≤ len - at'

theorem look_front {b : Bool} {ys : List Int} {ahead : Nat} {at' n : Int} (h : b = true → 0 ≤ at') : (if b then ((([] : List Int) ++ List.replicate ahead 0 ++ ys).drop ((ahead : Int) + at').toNat).take n.toNat else []) = if b then (ys.drop at'.toNat).take n.toNat else [] := by
  cases b with
  | false => rfl
  | true =>
    have h0 := h rfl
    rw [List.nil_append, show ((ahead : Int) + at').toNat = ahead + at'.toNat from by omega, drop_rep]
theorem hone2 {a b c d z : Int} (hz : z = 0) : ∀ (i : Nat) (q : Int × Int × Int), ([(a, b, z), (c, d, 1)] : List (Int × Int × Int))[i]? = some q → (q.2.2 > 0 ↔ i = 1)
  | 0, q, h => by cases h; simp [hz]
  | 1, q, h => by cases h; simp
  | i + 2, q, h => by simp at h
theorem look_any {h : HH} {c p i : Nat} {vb vr : V} {st : St} {a ln cnt at' n : Int} {b : Bool} (r : StoreAt h c p vb vr st) (hlen : st.rows.length ≤ 1000) (hq : st.rows[i]? = some (a, ln, cnt)) (hq0 : cnt ≠ 0) (ha : 0 ≤ a) (hl : 0 ≤ ln) (hal : a + ln ≤ st.bs.length) (hb : st.bs.length ≤ 10000000) (hb0 : 0 < st.bs.length)
    (h64 : -9223372036854775808 ≤ at' ∧ at' ≤ 9223372036854775807 ∧ -9223372036854775808 ≤ n ∧ n ≤ 9223372036854775807) (hbb : b = true ↔ (0 ≤ at' ∧ 0 ≤ n ∧ at' ≤ ln ∧ n ≤ ln - at')) :
    Does 67 [.ptr (some (p, 0)), I ((i : Int) + 1), I at', I n] h c (p :: (rowName vb ++ rowName vr)) fun v h' c' =>
      ∃ v1, v = .tuple [v1, .bool b] ∧ ByteSl h' v1 (if b then (st.bs.drop (a + at').toNat).take n.toNat else []) ∧ (∀ x ∈ rowName v1, c ≤ x ∧ x < c') ∧ ∀ x, x < c → MapI.get h' x = MapI.get h x := by
  refine (look_ok r hlen hq hq0 ha hl hal hb hb0 h64).mono fun v h' c' hc hf hq => ?_
  rcases hq with ⟨hw, v1, rfl, hbs, hn, ho⟩ | ⟨hw, rfl, rfl, rfl⟩
  · have := hbb.2 hw
    subst this
    exact ⟨v1, rfl, by simpa using hbs, hn, ho⟩
  · have : b = false := by
      cases hb : b with
      | false => rfl
      | true => exact absurd (hbb.1 hb) hw
    subst this
    exact ⟨_, rfl, by simpa using .inl ⟨none, .known 0, rfl, rfl⟩, fun x hx => (by cases hx), fun x _ => rfl⟩

set_option maxHeartbeats 16000000 in
theorem looks_ok {h : HH} {c : Nat} {l : V} {ys : List Int} {ahead : Nat} {at' n : Int} (hl : RowArg h c l 1 ys.length (ys.map (.int .u8))) (hys : ∀ z ∈ ys, 0 ≤ z ∧ z < 256) (hah : ahead < 50)
    (h64 : -9223372036854775808 ≤ at' ∧ at' ≤ 9223372036854775807 ∧ -9223372036854775808 ≤ n ∧ n ≤ 9223372036854775807) :
    Does 61 [l, I ahead, I at', I n] h c (rowName l) fun v h' c' => v = .bool true := by
  refine does_of (enter (fn := Try.f61) Try.func61 rfl rfl (Nat.le_of_ble_eq_true rfl) ?_)
  obtain ⟨s, cap, hlv⟩ : ∃ a cap, l = .slice a ys.length (.known cap) := by
    rcases hl.is with ⟨rfl, hz⟩ | ⟨s, cap, rfl, _⟩
    · exact ⟨none, 0, by rw [hz]⟩
    · exact ⟨_, cap, rfl⟩
  by_cases y0 : ys.length = 0
  · have e1 : (((ys.length : Nat) : Int) == 0) = true := by simp [y0]
    subst hlv
    repeat' (first
      | refine WpC.seq ?_
      | refine WpC.region ?_
      | refine WpC.drawn ?_
      | refine WpC.skip ?_
      | refine WpC.block ?_
      | refine WpC.exit ?_
      | refine WpC.ret ?_
      | refine WpO.nil ?_
      | refine WpO.cons rfl rfl (WpX.pure (fun _ => rfl) ⟨nolog, ?_⟩)
      | refine WpO.skip rfl rfl ?_
      | refine WpL.cons rfl rfl (WpX.pure (fun _ => rfl) ⟨nolog, ?_⟩)
      | refine WpL.skip rfl rfl ?_
      | refine seqQ_normal ?_
      | refine seqQ_ret ?_
      | refine seqQ_exit ?_
      | refine blkQ_normal ?_
      | refine blkQ_ret ?_
      | refine blkQ_out rfl ?_
      | refine blkQ_by rfl ?_
      | refine WpO.cons rfl rfl (op_len rfl rfl rfl ⟨(by simp [InL, Acc.name, rowName] <;> omega), ?_⟩)
      | refine WpL.cons rfl rfl (op_len rfl rfl rfl ⟨(by simp [InL, Acc.name, rowName] <;> omega), ?_⟩))
    simp only [e1]
    repeat' (first
      | refine WpC.seq ?_
      | refine WpC.region ?_
      | refine WpC.drawn ?_
      | refine WpC.skip ?_
      | refine WpC.block ?_
      | refine WpC.exit ?_
      | refine WpC.ret ?_
      | refine WpO.nil ?_
      | refine WpO.cons rfl rfl (WpX.pure (fun _ => rfl) ⟨nolog, ?_⟩)
      | refine WpO.skip rfl rfl ?_
      | refine WpL.cons rfl rfl (WpX.pure (fun _ => rfl) ⟨nolog, ?_⟩)
      | refine WpL.skip rfl rfl ?_
      | refine seqQ_normal ?_
      | refine seqQ_ret ?_
      | refine seqQ_exit ?_
      | refine blkQ_normal ?_
      | refine blkQ_ret ?_
      | refine blkQ_out rfl ?_
      | refine blkQ_by rfl ?_)
    refine WpC.cond rfl (fun _ => ?_) (fun hb => by cases hb)
    repeat' (first
      | refine WpC.seq ?_
      | refine WpC.region ?_
      | refine WpC.drawn ?_
      | refine WpC.skip ?_
      | refine WpC.block ?_
      | refine WpC.exit ?_
      | refine WpC.ret ?_
      | refine WpO.nil ?_
      | refine WpO.cons rfl rfl (WpX.pure (fun _ => rfl) ⟨nolog, ?_⟩)
      | refine WpO.skip rfl rfl ?_
      | refine WpL.cons rfl rfl (WpX.pure (fun _ => rfl) ⟨nolog, ?_⟩)
      | refine WpL.skip rfl rfl ?_
      | refine seqQ_normal ?_
      | refine seqQ_ret ?_
      | refine seqQ_exit ?_
      | refine blkQ_normal ?_
      | refine blkQ_ret ?_
      | refine blkQ_out rfl ?_
      | refine blkQ_by rfl ?_)
    refine WpO.cons rfl rfl (call_at rfl sawake_ok (by simp) (Nat.le_refl _) fun v h1 c1 hc1 hfr1 hq => ?_)
    subst hq
    repeat' (first
      | refine WpC.seq ?_
      | refine WpC.region ?_
      | refine WpC.drawn ?_
      | refine WpC.skip ?_
      | refine WpC.block ?_
      | refine WpC.exit ?_
      | refine WpC.ret ?_
      | refine WpO.nil ?_
      | refine WpO.cons rfl rfl (WpX.pure (fun _ => rfl) ⟨nolog, ?_⟩)
      | refine WpO.skip rfl rfl ?_
      | refine WpL.cons rfl rfl (WpX.pure (fun _ => rfl) ⟨nolog, ?_⟩)
      | refine WpL.skip rfl rfl ?_
      | refine seqQ_normal ?_
      | refine seqQ_ret ?_
      | refine seqQ_exit ?_
      | refine blkQ_normal ?_
      | refine blkQ_ret ?_
      | refine blkQ_out rfl ?_
      | refine blkQ_by rfl ?_)
    exact out_ret rfl rfl
  have e1 : (((ys.length : Nat) : Int) == 0) = false := beq_eq_false_iff_ne.2 (by omega)
  by_cases y2 : ys.length > 2000
  · have e2 : decide (((ys.length : Nat) : Int) > 2000) = true := by simp; omega
    subst hlv
    repeat' (first
      | refine WpC.seq ?_
      | refine WpC.region ?_
      | refine WpC.drawn ?_
      | refine WpC.skip ?_
      | refine WpC.block ?_
      | refine WpC.exit ?_
      | refine WpC.ret ?_
      | refine WpO.nil ?_
      | refine WpO.cons rfl rfl (WpX.pure (fun _ => rfl) ⟨nolog, ?_⟩)
      | refine WpO.skip rfl rfl ?_
      | refine WpL.cons rfl rfl (WpX.pure (fun _ => rfl) ⟨nolog, ?_⟩)
      | refine WpL.skip rfl rfl ?_
      | refine seqQ_normal ?_
      | refine seqQ_ret ?_
      | refine seqQ_exit ?_
      | refine blkQ_normal ?_
      | refine blkQ_ret ?_
      | refine blkQ_out rfl ?_
      | refine blkQ_by rfl ?_
      | refine WpO.cons rfl rfl (op_len rfl rfl rfl ⟨(by simp [InL, Acc.name, rowName] <;> omega), ?_⟩)
      | refine WpL.cons rfl rfl (op_len rfl rfl rfl ⟨(by simp [InL, Acc.name, rowName] <;> omega), ?_⟩))
    simp only [e1]
    repeat' (first
      | refine WpC.seq ?_
      | refine WpC.region ?_
      | refine WpC.drawn ?_
      | refine WpC.skip ?_
      | refine WpC.block ?_
      | refine WpC.exit ?_
      | refine WpC.ret ?_
      | refine WpO.nil ?_
      | refine WpO.cons rfl rfl (WpX.pure (fun _ => rfl) ⟨nolog, ?_⟩)
      | refine WpO.skip rfl rfl ?_
      | refine WpL.cons rfl rfl (WpX.pure (fun _ => rfl) ⟨nolog, ?_⟩)
      | refine WpL.skip rfl rfl ?_
      | refine seqQ_normal ?_
      | refine seqQ_ret ?_
      | refine seqQ_exit ?_
      | refine blkQ_normal ?_
      | refine blkQ_ret ?_
      | refine blkQ_out rfl ?_
      | refine blkQ_by rfl ?_
      | refine WpO.cons rfl rfl (op_len rfl rfl rfl ⟨(by simp [InL, Acc.name, rowName] <;> omega), ?_⟩)
      | refine WpL.cons rfl rfl (op_len rfl rfl rfl ⟨(by simp [InL, Acc.name, rowName] <;> omega), ?_⟩))
    simp only [e2]
    repeat' (first
      | refine WpC.seq ?_
      | refine WpC.region ?_
      | refine WpC.drawn ?_
      | refine WpC.skip ?_
      | refine WpC.block ?_
      | refine WpC.exit ?_
      | refine WpC.ret ?_
      | refine WpO.nil ?_
      | refine WpO.cons rfl rfl (WpX.pure (fun _ => rfl) ⟨nolog, ?_⟩)
      | refine WpO.skip rfl rfl ?_
      | refine WpL.cons rfl rfl (WpX.pure (fun _ => rfl) ⟨nolog, ?_⟩)
      | refine WpL.skip rfl rfl ?_
      | refine seqQ_normal ?_
      | refine seqQ_ret ?_
      | refine seqQ_exit ?_
      | refine blkQ_normal ?_
      | refine blkQ_ret ?_
      | refine blkQ_out rfl ?_
      | refine blkQ_by rfl ?_)
    refine WpC.cond rfl (fun _ => ?_) (fun hb => by cases hb)
    repeat' (first
      | refine WpC.seq ?_
      | refine WpC.region ?_
      | refine WpC.drawn ?_
      | refine WpC.skip ?_
      | refine WpC.block ?_
      | refine WpC.exit ?_
      | refine WpC.ret ?_
      | refine WpO.nil ?_
      | refine WpO.cons rfl rfl (WpX.pure (fun _ => rfl) ⟨nolog, ?_⟩)
      | refine WpO.skip rfl rfl ?_
      | refine WpL.cons rfl rfl (WpX.pure (fun _ => rfl) ⟨nolog, ?_⟩)
      | refine WpL.skip rfl rfl ?_
      | refine seqQ_normal ?_
      | refine seqQ_ret ?_
      | refine seqQ_exit ?_
      | refine blkQ_normal ?_
      | refine blkQ_ret ?_
      | refine blkQ_out rfl ?_
      | refine blkQ_by rfl ?_)
    refine WpO.cons rfl rfl (call_at rfl sawake_ok (by simp) (Nat.le_refl _) fun v h1 c1 hc1 hfr1 hq => ?_)
    subst hq
    repeat' (first
      | refine WpC.seq ?_
      | refine WpC.region ?_
      | refine WpC.drawn ?_
      | refine WpC.skip ?_
      | refine WpC.block ?_
      | refine WpC.exit ?_
      | refine WpC.ret ?_
      | refine WpO.nil ?_
      | refine WpO.cons rfl rfl (WpX.pure (fun _ => rfl) ⟨nolog, ?_⟩)
      | refine WpO.skip rfl rfl ?_
      | refine WpL.cons rfl rfl (WpX.pure (fun _ => rfl) ⟨nolog, ?_⟩)
      | refine WpL.skip rfl rfl ?_
      | refine seqQ_normal ?_
      | refine seqQ_ret ?_
      | refine seqQ_exit ?_
      | refine blkQ_normal ?_
      | refine blkQ_ret ?_
      | refine blkQ_out rfl ?_
      | refine blkQ_by rfl ?_)
    exact out_ret rfl rfl
  have e2 : decide (((ys.length : Nat) : Int) > 2000) = false := by simp; omega
  obtain ⟨sn, rfl, hsn, hcap, hcap2, hg⟩ : ∃ sn, l = .slice (some (sn, 0)) ys.length (.known cap) ∧ sn < c ∧ ys.length ≤ cap ∧ cap ≤ maxLen ∧ MapI.get h sn = some (.cells false false (ys.map (.int .u8))) := by
    rcases hl.is with ⟨_, hz⟩ | ⟨s', cap', h1, h2, h3, h4, h5⟩
    · omega
    · rw [h1] at hlv; cases hlv
      exact ⟨s', h1, h2, h3, h4, h5 (by omega)⟩
  rw [← flat_byte] at hg
  clear hlv
  have hcy : cut (flat byteV ys) 0 (ys.length * 1) = some (flat byteV ys) := by
    have := cut_all (cs := flat byteV ys)
    rw [flat_length byte_len] at this
    exact this
  repeat' (first
    | refine WpC.seq ?_
    | refine WpC.region ?_
    | refine WpC.drawn ?_
    | refine WpC.skip ?_
    | refine WpC.block ?_
    | refine WpC.exit ?_
    | refine WpC.ret ?_
    | refine WpO.nil ?_
    | refine WpO.cons rfl rfl (WpX.pure (fun _ => rfl) ⟨nolog, ?_⟩)
    | refine WpO.skip rfl rfl ?_
    | refine WpL.cons rfl rfl (WpX.pure (fun _ => rfl) ⟨nolog, ?_⟩)
    | refine WpL.skip rfl rfl ?_
    | refine seqQ_normal ?_
    | refine seqQ_ret ?_
    | refine seqQ_exit ?_
    | refine blkQ_normal ?_
    | refine blkQ_ret ?_
    | refine blkQ_out rfl ?_
    | refine blkQ_by rfl ?_
    | refine WpO.cons rfl rfl (op_len rfl rfl rfl ⟨(by simp [InL, Acc.name, rowName] <;> omega), ?_⟩)
    | refine WpL.cons rfl rfl (op_len rfl rfl rfl ⟨(by simp [InL, Acc.name, rowName] <;> omega), ?_⟩))
  simp only [e1]
  repeat' (first
    | refine WpC.seq ?_
    | refine WpC.region ?_
    | refine WpC.drawn ?_
    | refine WpC.skip ?_
    | refine WpC.block ?_
    | refine WpC.exit ?_
    | refine WpC.ret ?_
    | refine WpO.nil ?_
    | refine WpO.cons rfl rfl (WpX.pure (fun _ => rfl) ⟨nolog, ?_⟩)
    | refine WpO.skip rfl rfl ?_
    | refine WpL.cons rfl rfl (WpX.pure (fun _ => rfl) ⟨nolog, ?_⟩)
    | refine WpL.skip rfl rfl ?_
    | refine seqQ_normal ?_
    | refine seqQ_ret ?_
    | refine seqQ_exit ?_
    | refine blkQ_normal ?_
    | refine blkQ_ret ?_
    | refine blkQ_out rfl ?_
    | refine blkQ_by rfl ?_
    | refine WpO.cons rfl rfl (op_len rfl rfl rfl ⟨(by simp [InL, Acc.name, rowName] <;> omega), ?_⟩)
    | refine WpL.cons rfl rfl (op_len rfl rfl rfl ⟨(by simp [InL, Acc.name, rowName] <;> omega), ?_⟩))
  simp only [e2]
  repeat' (first
    | refine WpC.seq ?_
    | refine WpC.region ?_
    | refine WpC.drawn ?_
    | refine WpC.skip ?_
    | refine WpC.block ?_
    | refine WpC.exit ?_
    | refine WpC.ret ?_
    | refine WpO.nil ?_
    | refine WpO.cons rfl rfl (WpX.pure (fun _ => rfl) ⟨nolog, ?_⟩)
    | refine WpO.skip rfl rfl ?_
    | refine WpL.cons rfl rfl (WpX.pure (fun _ => rfl) ⟨nolog, ?_⟩)
    | refine WpL.skip rfl rfl ?_
    | refine seqQ_normal ?_
    | refine seqQ_ret ?_
    | refine seqQ_exit ?_
    | refine blkQ_normal ?_
    | refine blkQ_ret ?_
    | refine blkQ_out rfl ?_
    | refine blkQ_by rfl ?_)
  refine WpC.cond rfl (fun hb => by cases hb) (fun _ => ?_)
  repeat' (first
    | refine WpC.seq ?_
    | refine WpC.region ?_
    | refine WpC.drawn ?_
    | refine WpC.skip ?_
    | refine WpC.block ?_
    | refine WpC.exit ?_
    | refine WpC.ret ?_
    | refine WpO.nil ?_
    | refine WpO.cons rfl rfl (WpX.pure (fun _ => rfl) ⟨nolog, ?_⟩)
    | refine WpO.skip rfl rfl ?_
    | refine WpL.cons rfl rfl (WpX.pure (fun _ => rfl) ⟨nolog, ?_⟩)
    | refine WpL.skip rfl rfl ?_
    | refine seqQ_normal ?_
    | refine seqQ_ret ?_
    | refine seqQ_exit ?_
    | refine blkQ_normal ?_
    | refine blkQ_ret ?_
    | refine blkQ_out rfl ?_
    | refine blkQ_by rfl ?_)
  refine WpO.cons rfl rfl (call_at rfl (snew_ok (by omega) (by omega)) (by simp) (Nat.le_refl _) fun v h1 c1 hc1 hfr1 hq => ?_)
  obtain ⟨rfl, rfl, r⟩ := hq
  repeat' (first
    | refine WpC.seq ?_
    | refine WpC.region ?_
    | refine WpC.drawn ?_
    | refine WpC.skip ?_
    | refine WpC.block ?_
    | refine WpC.exit ?_
    | refine WpC.ret ?_
    | refine WpO.nil ?_
    | refine WpO.cons rfl rfl (WpX.pure (fun _ => rfl) ⟨nolog, ?_⟩)
    | refine WpO.skip rfl rfl ?_
    | refine WpL.cons rfl rfl (WpX.pure (fun _ => rfl) ⟨nolog, ?_⟩)
    | refine WpL.skip rfl rfl ?_
    | refine seqQ_normal ?_
    | refine seqQ_ret ?_
    | refine seqQ_exit ?_
    | refine blkQ_normal ?_
    | refine blkQ_ret ?_
    | refine blkQ_out rfl ?_
    | refine blkQ_by rfl ?_)
  refine WpC.cond rfl (fun hb => by cases hb) (fun _ => ?_)
  repeat' (first
    | refine WpC.seq ?_
    | refine WpC.region ?_
    | refine WpC.drawn ?_
    | refine WpC.skip ?_
    | refine WpC.block ?_
    | refine WpC.exit ?_
    | refine WpC.ret ?_
    | refine WpO.nil ?_
    | refine WpO.cons rfl rfl (WpX.pure (fun _ => rfl) ⟨nolog, ?_⟩)
    | refine WpO.skip rfl rfl ?_
    | refine WpL.cons rfl rfl (WpX.pure (fun _ => rfl) ⟨nolog, ?_⟩)
    | refine WpL.skip rfl rfl ?_
    | refine seqQ_normal ?_
    | refine seqQ_ret ?_
    | refine seqQ_exit ?_
    | refine blkQ_normal ?_
    | refine blkQ_ret ?_
    | refine blkQ_out rfl ?_
    | refine blkQ_by rfl ?_
    | refine WpO.cons rfl rfl (op_makeSlice rfl rfl rfl rfl ⟨_, rfl, by decide⟩ ⟨Nat.le_refl _, by omega⟩ ⟨(by simp [InL, Acc.name, rowName] <;> omega), ?_⟩)
    | refine WpL.cons rfl rfl (op_makeSlice rfl rfl rfl rfl ⟨_, rfl, by decide⟩ ⟨Nat.le_refl _, by omega⟩ ⟨(by simp [InL, Acc.name, rowName] <;> omega), ?_⟩))
  have hg1 : MapI.get h1 sn = some (.cells false false (flat byteV ys)) := by rw [hfr1 sn hsn (by simp)]; exact hg
  have r1 : ∀ x : AObj, StoreAt (MapI.set h1 (c + 1) x) (c + 1 + 1) c (.slice none 0 (.known 0)) (.slice none 0 (.known 0)) ⟨[], 5000, [], 0⟩ := fun x => r.keep (by omega) fun n hn => MapI.get_ne _ _ _ _ (by omega)
  have hg2 : ∀ x : AObj, MapI.get (MapI.set h1 (c + 1) x) sn = some (.cells false false (flat byteV ys)) := fun x => by rw [MapI.get_ne _ _ _ _ (by omega)]; exact hg1
  by_cases a0 : ahead = 0
  · subst a0
    have hb0 : 0 < ys.length := by omega
    have hb7 : ys.length ≤ 10000000 := by omega
    have hl0 : 0 ≤ (ys.length : Int) := by omega
    have hal1 : 0 + (ys.length : Int) ≤ (ys.length : Int) := by omega
    refine WpO.cons rfl rfl (call_at rfl grant_zero (by simp) (by omega) fun v h2 c2 hc2 hfr2 hq => ?_)
    obtain ⟨rfl, rfl, rfl⟩ := hq
    repeat' (first
      | refine WpC.seq ?_
      | refine WpC.region ?_
      | refine WpC.drawn ?_
      | refine WpC.skip ?_
      | refine WpC.block ?_
      | refine WpC.exit ?_
      | refine WpC.ret ?_
      | refine WpO.nil ?_
      | refine WpO.cons rfl rfl (WpX.pure (fun _ => rfl) ⟨nolog, ?_⟩)
      | refine WpO.skip rfl rfl ?_
      | refine WpL.cons rfl rfl (WpX.pure (fun _ => rfl) ⟨nolog, ?_⟩)
      | refine WpL.skip rfl rfl ?_
      | refine seqQ_normal ?_
      | refine seqQ_ret ?_
      | refine seqQ_exit ?_
      | refine blkQ_normal ?_
      | refine blkQ_ret ?_
      | refine blkQ_out rfl ?_
      | refine blkQ_by rfl ?_)
    refine WpO.cons rfl rfl (call_at rfl (grant_ok (n := ys.length) (ys := ys) (r1 _) (by omega) (by omega) rfl (hg2 _) hcy ⟨by simp, by simp⟩ ⟨by simp, by simp⟩ (by simp; omega) (by simp; omega) (by simp) (by omega) (by simp [rowName]; omega)) (fun n hn => by
      have : n = sn ∨ n = c := by simpa [rowName] using hn
      rcases this with rfl | rfl
      · exact .inl (by simp [rowName])
      · exact .inr (Nat.le_refl _)) (by omega) fun v h2 c2 hc2 hfr2 hq => ?_)
    obtain ⟨i, vb2, vr2, rows2, rfl, r2, hn2, hi, _, hrows⟩ := hq
    have hi0 : i = 0 := by simpa using hi
    subst hi0
    have hr2 : rows2 = [(0, (ys.length : Int), 1)] := by
      rcases hrows with ⟨q, hq, _⟩ | ⟨_, hq⟩
      · simp at hq
      · rw [hq]; rfl
    subst hr2
    have hnm : ∀ n ∈ c :: (rowName vb2 ++ rowName vr2), c ≤ n := fun n hn => by
      rcases List.mem_cons.1 hn with e | e
      · omega
      · rcases hn2 n e with e2 | e2
        · cases e2
        · omega
    repeat' (first
      | refine WpC.seq ?_
      | refine WpC.region ?_
      | refine WpC.drawn ?_
      | refine WpC.skip ?_
      | refine WpC.block ?_
      | refine WpC.exit ?_
      | refine WpC.ret ?_
      | refine WpO.nil ?_
      | refine WpO.cons rfl rfl (WpX.pure (fun _ => rfl) ⟨nolog, ?_⟩)
      | refine WpO.skip rfl rfl ?_
      | refine WpL.cons rfl rfl (WpX.pure (fun _ => rfl) ⟨nolog, ?_⟩)
      | refine WpL.skip rfl rfl ?_
      | refine seqQ_normal ?_
      | refine seqQ_ret ?_
      | refine seqQ_exit ?_
      | refine blkQ_normal ?_
      | refine blkQ_ret ?_
      | refine blkQ_out rfl ?_
      | refine blkQ_by rfl ?_)
    refine WpC.cond rfl (fun hb => by cases hb) (fun _ => ?_)
    repeat' (first
      | refine WpC.seqI (a := Code.region 10 _ _) (fun e h4 c4 => ∃ b : Bool, (∃ b0, e = MapI.set (MapI.set (MapI.set (MapI.set (MapI.set (MapI.set (MapI.set b0 0 (.slice (some (sn, 0)) ys.length (.known cap))) 1 (I ((0 : Nat) : Int))) 2 (I at')) 3 (I n)) 9 (.ptr (some (c, 0)))) 10 (I (((0 : Nat) : Int) + 1))) 12 (.bool b)) ∧ (b = true ↔ (0 ≤ at' ∧ 0 ≤ n ∧ at' ≤ (ys.length : Int) ∧ n ≤ (ys.length : Int) - at')) ∧ h4 = h2 ∧ c4 = c2) ?_ ?_
      | refine WpC.seq ?_
      | refine WpC.region ?_
      | refine WpC.drawn ?_
      | refine WpC.skip ?_
      | refine WpC.block ?_
      | refine WpC.exit ?_
      | refine WpC.ret ?_
      | refine WpO.nil ?_
      | refine WpO.cons rfl rfl (WpX.pure (fun _ => rfl) ⟨nolog, ?_⟩)
      | refine WpO.skip rfl rfl ?_
      | refine WpL.cons rfl rfl (WpX.pure (fun _ => rfl) ⟨nolog, ?_⟩)
      | refine WpL.skip rfl rfl ?_
      | refine seqQ_normal ?_
      | refine seqQ_ret ?_
      | refine seqQ_exit ?_
      | refine blkQ_normal ?_
      | refine blkQ_ret ?_
      | refine blkQ_out rfl ?_
      | refine blkQ_by rfl ?_)
    · by_cases g1 : at' ≥ 0
      · have e1 : decide (at' ≥ 0) = true := by simpa using g1
        by_cases g2 : n ≥ 0
        · have e2 : decide (n ≥ 0) = true := by simpa using g2
          by_cases g3 : at' ≤ (ys.length : Int)
          · have e3 : decide (at' ≤ (ys.length : Int)) = true := by simpa using g3
            have hw : IntKind.i64.wrap ((ys.length : Int) - at') = ys.length - at' := Go.IntWalk.i64_in _ (by omega)
            repeat' (first
              | refine WpC.seq ?_
              | refine WpC.region ?_
              | refine WpC.drawn ?_
              | refine WpC.skip ?_
              | refine WpC.block ?_
              | refine WpC.exit ?_
              | refine WpC.ret ?_
              | refine WpO.nil ?_
              | refine WpO.cons rfl rfl (WpX.pure (fun _ => rfl) ⟨nolog, ?_⟩)
              | refine WpO.skip rfl rfl ?_
              | refine WpL.cons rfl rfl (WpX.pure (fun _ => rfl) ⟨nolog, ?_⟩)
              | refine WpL.skip rfl rfl ?_
              | refine seqQ_normal ?_
              | refine seqQ_ret ?_
              | refine seqQ_exit ?_
              | refine blkQ_normal ?_
              | refine blkQ_ret ?_
              | refine blkQ_out rfl ?_
              | refine blkQ_by rfl ?_)
            simp only [e1]
            repeat' (first
              | refine WpC.seq ?_
              | refine WpC.region ?_
              | refine WpC.drawn ?_
              | refine WpC.skip ?_
              | refine WpC.block ?_
              | refine WpC.exit ?_
              | refine WpC.ret ?_
              | refine WpO.nil ?_
              | refine WpO.cons rfl rfl (WpX.pure (fun _ => rfl) ⟨nolog, ?_⟩)
              | refine WpO.skip rfl rfl ?_
              | refine WpL.cons rfl rfl (WpX.pure (fun _ => rfl) ⟨nolog, ?_⟩)
              | refine WpL.skip rfl rfl ?_
              | refine seqQ_normal ?_
              | refine seqQ_ret ?_
              | refine seqQ_exit ?_
              | refine blkQ_normal ?_
              | refine blkQ_ret ?_
              | refine blkQ_out rfl ?_
              | refine blkQ_by rfl ?_)
            simp only [e2]
            repeat' (first
              | refine WpC.seq ?_
              | refine WpC.region ?_
              | refine WpC.drawn ?_
              | refine WpC.skip ?_
              | refine WpC.block ?_
              | refine WpC.exit ?_
              | refine WpC.ret ?_
              | refine WpO.nil ?_
              | refine WpO.cons rfl rfl (WpX.pure (fun _ => rfl) ⟨nolog, ?_⟩)
              | refine WpO.skip rfl rfl ?_
              | refine WpL.cons rfl rfl (WpX.pure (fun _ => rfl) ⟨nolog, ?_⟩)
              | refine WpL.skip rfl rfl ?_
              | refine seqQ_normal ?_
              | refine seqQ_ret ?_
              | refine seqQ_exit ?_
              | refine blkQ_normal ?_
              | refine blkQ_ret ?_
              | refine blkQ_out rfl ?_
              | refine blkQ_by rfl ?_
              | refine WpO.cons rfl rfl (op_len rfl rfl rfl ⟨(by simp [InL, Acc.name, rowName] <;> omega), ?_⟩)
              | refine WpL.cons rfl rfl (op_len rfl rfl rfl ⟨(by simp [InL, Acc.name, rowName] <;> omega), ?_⟩))
            simp only [e3]
            repeat' (first
              | refine WpC.seq ?_
              | refine WpC.region ?_
              | refine WpC.drawn ?_
              | refine WpC.skip ?_
              | refine WpC.block ?_
              | refine WpC.exit ?_
              | refine WpC.ret ?_
              | refine WpO.nil ?_
              | refine WpO.cons rfl rfl (WpX.pure (fun _ => rfl) ⟨nolog, ?_⟩)
              | refine WpO.skip rfl rfl ?_
              | refine WpL.cons rfl rfl (WpX.pure (fun _ => rfl) ⟨nolog, ?_⟩)
              | refine WpL.skip rfl rfl ?_
              | refine seqQ_normal ?_
              | refine seqQ_ret ?_
              | refine seqQ_exit ?_
              | refine blkQ_normal ?_
              | refine blkQ_ret ?_
              | refine blkQ_out rfl ?_
              | refine blkQ_by rfl ?_
              | refine WpO.cons rfl rfl (op_len rfl rfl rfl ⟨(by simp [InL, Acc.name, rowName] <;> omega), ?_⟩)
              | refine WpL.cons rfl rfl (op_len rfl rfl rfl ⟨(by simp [InL, Acc.name, rowName] <;> omega), ?_⟩))
            refine ⟨decide (n ≤ IntKind.i64.wrap ((ys.length : Int) - at')), ⟨_, (set7 rfl rfl rfl rfl rfl rfl rfl).choose_spec⟩, ?_, rfl, rfl⟩
            rw [decide_eq_true_iff, hw]
            exact ⟨fun hp => ⟨g1, g2, g3, hp⟩, fun hp => hp.2.2.2⟩
          · have e3 : decide (at' ≤ (ys.length : Int)) = false := by simpa using g3
            repeat' (first
              | refine WpC.seq ?_
              | refine WpC.region ?_
              | refine WpC.drawn ?_
              | refine WpC.skip ?_
              | refine WpC.block ?_
              | refine WpC.exit ?_
              | refine WpC.ret ?_
              | refine WpO.nil ?_
              | refine WpO.cons rfl rfl (WpX.pure (fun _ => rfl) ⟨nolog, ?_⟩)
              | refine WpO.skip rfl rfl ?_
              | refine WpL.cons rfl rfl (WpX.pure (fun _ => rfl) ⟨nolog, ?_⟩)
              | refine WpL.skip rfl rfl ?_
              | refine seqQ_normal ?_
              | refine seqQ_ret ?_
              | refine seqQ_exit ?_
              | refine blkQ_normal ?_
              | refine blkQ_ret ?_
              | refine blkQ_out rfl ?_
              | refine blkQ_by rfl ?_)
            simp only [e1]
            repeat' (first
              | refine WpC.seq ?_
              | refine WpC.region ?_
              | refine WpC.drawn ?_
              | refine WpC.skip ?_
              | refine WpC.block ?_
              | refine WpC.exit ?_
              | refine WpC.ret ?_
              | refine WpO.nil ?_
              | refine WpO.cons rfl rfl (WpX.pure (fun _ => rfl) ⟨nolog, ?_⟩)
              | refine WpO.skip rfl rfl ?_
              | refine WpL.cons rfl rfl (WpX.pure (fun _ => rfl) ⟨nolog, ?_⟩)
              | refine WpL.skip rfl rfl ?_
              | refine seqQ_normal ?_
              | refine seqQ_ret ?_
              | refine seqQ_exit ?_
              | refine blkQ_normal ?_
              | refine blkQ_ret ?_
              | refine blkQ_out rfl ?_
              | refine blkQ_by rfl ?_)
            simp only [e2]
            repeat' (first
              | refine WpC.seq ?_
              | refine WpC.region ?_
              | refine WpC.drawn ?_
              | refine WpC.skip ?_
              | refine WpC.block ?_
              | refine WpC.exit ?_
              | refine WpC.ret ?_
              | refine WpO.nil ?_
              | refine WpO.cons rfl rfl (WpX.pure (fun _ => rfl) ⟨nolog, ?_⟩)
              | refine WpO.skip rfl rfl ?_
              | refine WpL.cons rfl rfl (WpX.pure (fun _ => rfl) ⟨nolog, ?_⟩)
              | refine WpL.skip rfl rfl ?_
              | refine seqQ_normal ?_
              | refine seqQ_ret ?_
              | refine seqQ_exit ?_
              | refine blkQ_normal ?_
              | refine blkQ_ret ?_
              | refine blkQ_out rfl ?_
              | refine blkQ_by rfl ?_
              | refine WpO.cons rfl rfl (op_len rfl rfl rfl ⟨(by simp [InL, Acc.name, rowName] <;> omega), ?_⟩)
              | refine WpL.cons rfl rfl (op_len rfl rfl rfl ⟨(by simp [InL, Acc.name, rowName] <;> omega), ?_⟩))
            simp only [e3]
            repeat' (first
              | refine WpC.seq ?_
              | refine WpC.region ?_
              | refine WpC.drawn ?_
              | refine WpC.skip ?_
              | refine WpC.block ?_
              | refine WpC.exit ?_
              | refine WpC.ret ?_
              | refine WpO.nil ?_
              | refine WpO.cons rfl rfl (WpX.pure (fun _ => rfl) ⟨nolog, ?_⟩)
              | refine WpO.skip rfl rfl ?_
              | refine WpL.cons rfl rfl (WpX.pure (fun _ => rfl) ⟨nolog, ?_⟩)
              | refine WpL.skip rfl rfl ?_
              | refine seqQ_normal ?_
              | refine seqQ_ret ?_
              | refine seqQ_exit ?_
              | refine blkQ_normal ?_
              | refine blkQ_ret ?_
              | refine blkQ_out rfl ?_
              | refine blkQ_by rfl ?_)
            refine ⟨false, ⟨_, (set7 rfl rfl rfl rfl rfl rfl rfl).choose_spec⟩, ?_, rfl, rfl⟩
            exact ⟨fun hp => (by cases hp), fun hp => absurd hp.2.2.1 g3⟩
        · have e2 : decide (n ≥ 0) = false := by simpa using g2
          repeat' (first
            | refine WpC.seq ?_
            | refine WpC.region ?_
            | refine WpC.drawn ?_
            | refine WpC.skip ?_
            | refine WpC.block ?_
            | refine WpC.exit ?_
            | refine WpC.ret ?_
            | refine WpO.nil ?_
            | refine WpO.cons rfl rfl (WpX.pure (fun _ => rfl) ⟨nolog, ?_⟩)
            | refine WpO.skip rfl rfl ?_
            | refine WpL.cons rfl rfl (WpX.pure (fun _ => rfl) ⟨nolog, ?_⟩)
            | refine WpL.skip rfl rfl ?_
            | refine seqQ_normal ?_
            | refine seqQ_ret ?_
            | refine seqQ_exit ?_
            | refine blkQ_normal ?_
            | refine blkQ_ret ?_
            | refine blkQ_out rfl ?_
            | refine blkQ_by rfl ?_)
          simp only [e1]
          repeat' (first
            | refine WpC.seq ?_
            | refine WpC.region ?_
            | refine WpC.drawn ?_
            | refine WpC.skip ?_
            | refine WpC.block ?_
            | refine WpC.exit ?_
            | refine WpC.ret ?_
            | refine WpO.nil ?_
            | refine WpO.cons rfl rfl (WpX.pure (fun _ => rfl) ⟨nolog, ?_⟩)
            | refine WpO.skip rfl rfl ?_
            | refine WpL.cons rfl rfl (WpX.pure (fun _ => rfl) ⟨nolog, ?_⟩)
            | refine WpL.skip rfl rfl ?_
            | refine seqQ_normal ?_
            | refine seqQ_ret ?_
            | refine seqQ_exit ?_
            | refine blkQ_normal ?_
            | refine blkQ_ret ?_
            | refine blkQ_out rfl ?_
            | refine blkQ_by rfl ?_)
          simp only [e2]
          repeat' (first
            | refine WpC.seq ?_
            | refine WpC.region ?_
            | refine WpC.drawn ?_
            | refine WpC.skip ?_
            | refine WpC.block ?_
            | refine WpC.exit ?_
            | refine WpC.ret ?_
            | refine WpO.nil ?_
            | refine WpO.cons rfl rfl (WpX.pure (fun _ => rfl) ⟨nolog, ?_⟩)
            | refine WpO.skip rfl rfl ?_
            | refine WpL.cons rfl rfl (WpX.pure (fun _ => rfl) ⟨nolog, ?_⟩)
            | refine WpL.skip rfl rfl ?_
            | refine seqQ_normal ?_
            | refine seqQ_ret ?_
            | refine seqQ_exit ?_
            | refine blkQ_normal ?_
            | refine blkQ_ret ?_
            | refine blkQ_out rfl ?_
            | refine blkQ_by rfl ?_)
          refine ⟨false, ⟨_, (set7 rfl rfl rfl rfl rfl rfl rfl).choose_spec⟩, ?_, rfl, rfl⟩
          exact ⟨fun hp => (by cases hp), fun hp => absurd hp.2.1 g2⟩
      · have e1 : decide (at' ≥ 0) = false := by simpa using g1
        repeat' (first
          | refine WpC.seq ?_
          | refine WpC.region ?_
          | refine WpC.drawn ?_
          | refine WpC.skip ?_
          | refine WpC.block ?_
          | refine WpC.exit ?_
          | refine WpC.ret ?_
          | refine WpO.nil ?_
          | refine WpO.cons rfl rfl (WpX.pure (fun _ => rfl) ⟨nolog, ?_⟩)
          | refine WpO.skip rfl rfl ?_
          | refine WpL.cons rfl rfl (WpX.pure (fun _ => rfl) ⟨nolog, ?_⟩)
          | refine WpL.skip rfl rfl ?_
          | refine seqQ_normal ?_
          | refine seqQ_ret ?_
          | refine seqQ_exit ?_
          | refine blkQ_normal ?_
          | refine blkQ_ret ?_
          | refine blkQ_out rfl ?_
          | refine blkQ_by rfl ?_)
        simp only [e1]
        repeat' (first
          | refine WpC.seq ?_
          | refine WpC.region ?_
          | refine WpC.drawn ?_
          | refine WpC.skip ?_
          | refine WpC.block ?_
          | refine WpC.exit ?_
          | refine WpC.ret ?_
          | refine WpO.nil ?_
          | refine WpO.cons rfl rfl (WpX.pure (fun _ => rfl) ⟨nolog, ?_⟩)
          | refine WpO.skip rfl rfl ?_
          | refine WpL.cons rfl rfl (WpX.pure (fun _ => rfl) ⟨nolog, ?_⟩)
          | refine WpL.skip rfl rfl ?_
          | refine seqQ_normal ?_
          | refine seqQ_ret ?_
          | refine seqQ_exit ?_
          | refine blkQ_normal ?_
          | refine blkQ_ret ?_
          | refine blkQ_out rfl ?_
          | refine blkQ_by rfl ?_)
        refine ⟨false, ⟨_, (set7 rfl rfl rfl rfl rfl rfl rfl).choose_spec⟩, ?_, rfl, rfl⟩
        exact ⟨fun hp => (by cases hp), fun hp => absurd hp.1 g1⟩
    rintro e4 h4 c4 ⟨b, ⟨b4, rfl⟩, hbb, e4a, e4b⟩
    subst e4a
    subst e4b
    repeat' (first
      | refine WpC.seq ?_
      | refine WpC.region ?_
      | refine WpC.drawn ?_
      | refine WpC.skip ?_
      | refine WpC.block ?_
      | refine WpC.exit ?_
      | refine WpC.ret ?_
      | refine WpO.nil ?_
      | refine WpO.cons rfl rfl (WpX.pure (fun _ => rfl) ⟨nolog, ?_⟩)
      | refine WpO.skip rfl rfl ?_
      | refine WpL.cons rfl rfl (WpX.pure (fun _ => rfl) ⟨nolog, ?_⟩)
      | refine WpL.skip rfl rfl ?_
      | refine seqQ_normal ?_
      | refine seqQ_ret ?_
      | refine seqQ_exit ?_
      | refine blkQ_normal ?_
      | refine blkQ_ret ?_
      | refine blkQ_out rfl ?_
      | refine blkQ_by rfl ?_)
    refine WpO.cons rfl rfl (call_at rfl (look_any (i := 0) (b := b) (a := 0) (ln := (ys.length : Int)) (cnt := 1) r2 (by simp) rfl (by decide) (by decide) hl0 hal1 hb7 hb0 h64 hbb) (fun n hn => .inr (hnm n hn)) (by omega) fun v h5 c5 hc5 hfr5 hq => ?_)
    obtain ⟨v1, rfl, hb1, hn1, ho1⟩ := hq
    have r5 := r2.keep hc5 ho1
    repeat' (first
      | refine WpC.seq ?_
      | refine WpC.region ?_
      | refine WpC.drawn ?_
      | refine WpC.skip ?_
      | refine WpC.block ?_
      | refine WpC.exit ?_
      | refine WpC.ret ?_
      | refine WpO.nil ?_
      | refine WpO.cons rfl rfl (WpX.pure (fun _ => rfl) ⟨nolog, ?_⟩)
      | refine WpO.skip rfl rfl ?_
      | refine WpL.cons rfl rfl (WpX.pure (fun _ => rfl) ⟨nolog, ?_⟩)
      | refine WpL.skip rfl rfl ?_
      | refine seqQ_normal ?_
      | refine seqQ_ret ?_
      | refine seqQ_exit ?_
      | refine blkQ_normal ?_
      | refine blkQ_ret ?_
      | refine blkQ_out rfl ?_
      | refine blkQ_by rfl ?_)
    refine WpO.cons rfl rfl (call_at rfl (drop_ok r5 (by simp)) (fun n hn => .inr (hnm n (by rcases List.mem_cons.1 hn with e | e <;> simp [e]))) (by omega) fun v h6 c6 hc6 hfr6 hq => ?_)
    repeat' (first
      | refine WpC.seq ?_
      | refine WpC.region ?_
      | refine WpC.drawn ?_
      | refine WpC.skip ?_
      | refine WpC.block ?_
      | refine WpC.exit ?_
      | refine WpC.ret ?_
      | refine WpO.nil ?_
      | refine WpO.cons rfl rfl (WpX.pure (fun _ => rfl) ⟨nolog, ?_⟩)
      | refine WpO.skip rfl rfl ?_
      | refine WpL.cons rfl rfl (WpX.pure (fun _ => rfl) ⟨nolog, ?_⟩)
      | refine WpL.skip rfl rfl ?_
      | refine seqQ_normal ?_
      | refine seqQ_ret ?_
      | refine seqQ_exit ?_
      | refine blkQ_normal ?_
      | refine blkQ_ret ?_
      | refine blkQ_out rfl ?_
      | refine blkQ_by rfl ?_)
    refine WpC.cond rfl (fun _ => ?_) (fun hb => by cases hb)
    repeat' (first
      | refine WpC.seq ?_
      | refine WpC.region ?_
      | refine WpC.drawn ?_
      | refine WpC.skip ?_
      | refine WpC.block ?_
      | refine WpC.exit ?_
      | refine WpC.ret ?_
      | refine WpO.nil ?_
      | refine WpO.cons rfl rfl (WpX.pure (fun _ => rfl) ⟨nolog, ?_⟩)
      | refine WpO.skip rfl rfl ?_
      | refine WpL.cons rfl rfl (WpX.pure (fun _ => rfl) ⟨nolog, ?_⟩)
      | refine WpL.skip rfl rfl ?_
      | refine seqQ_normal ?_
      | refine seqQ_ret ?_
      | refine seqQ_exit ?_
      | refine blkQ_normal ?_
      | refine blkQ_ret ?_
      | refine blkQ_out rfl ?_
      | refine blkQ_by rfl ?_)
    refine WpO.cons rfl rfl (call_at rfl sawake_ok (by simp) (by omega) fun v h7 c7 hc7 hfr7 hq => ?_)
    subst hq
    repeat' (first
      | refine WpC.seq ?_
      | refine WpC.region ?_
      | refine WpC.drawn ?_
      | refine WpC.skip ?_
      | refine WpC.block ?_
      | refine WpC.exit ?_
      | refine WpC.ret ?_
      | refine WpO.nil ?_
      | refine WpO.cons rfl rfl (WpX.pure (fun _ => rfl) ⟨nolog, ?_⟩)
      | refine WpO.skip rfl rfl ?_
      | refine WpL.cons rfl rfl (WpX.pure (fun _ => rfl) ⟨nolog, ?_⟩)
      | refine WpL.skip rfl rfl ?_
      | refine seqQ_normal ?_
      | refine seqQ_ret ?_
      | refine seqQ_exit ?_
      | refine blkQ_normal ?_
      | refine blkQ_ret ?_
      | refine blkQ_out rfl ?_
      | refine blkQ_by rfl ?_)
    exact out_ret rfl rfl
  · have hb0 : 0 < ys.length := by omega
    have hb7 : ys.length ≤ 10000000 := by omega
    have hl0 : 0 ≤ (ys.length : Int) := by omega
    have ha0 : 0 < ahead := by omega
    have hbL : (List.replicate ahead (0 : Int) ++ ys).length = ahead + ys.length := by simp
    have hah0 : 0 ≤ (ahead : Int) := by omega
    have hal2 : (ahead : Int) + (ys.length : Int) ≤ ((([] : List Int) ++ List.replicate ahead 0 ++ ys).length : Int) := by simp
    have hbl7 : (([] : List Int) ++ List.replicate ahead 0 ++ ys).length ≤ 10000000 := by simp; omega
    have hbl0 : 0 < (([] : List Int) ++ List.replicate ahead 0 ++ ys).length := by simp; omega
    have haln : ahead + ys.length ≤ (([] : List Int) ++ List.replicate ahead 0 ++ ys).length := by simp
    have hgain : (([] : List Int) ++ List.replicate ahead 0 ++ ys).length - ys.length = ahead := by simp
    have hbs7 : ((([] : List Int) ++ List.replicate ahead 0 ++ ys).drop ahead).take ys.length = ys := by
      have e := drop_rep (ys := ys) (a := ahead) (b := 0)
      rw [Nat.add_zero] at e
      rw [List.nil_append, e]; simp
    have hal1 : 0 + (ys.length : Int) ≤ (ys.length : Int) := by omega
    have hea : (((ahead : Nat) : Int) == 0) = false := beq_eq_false_iff_ne.2 (by omega)
    have hca : cut (reps ahead (cellsV (V.int .u8 0))) 0 (ahead * 1) = some (flat byteV (List.replicate ahead 0)) := by
      have e : reps ahead (cellsV (V.int .u8 0)) = flat byteV (List.replicate ahead 0) := reps_flat ahead
      rw [e]
      have := cut_all (cs := flat byteV (List.replicate ahead 0))
      rw [flat_length byte_len, List.length_replicate] at this
      exact this
    refine WpO.cons rfl rfl (call_at rfl (grant_ok (n := ahead) (ys := List.replicate ahead 0) (m := c + 1) (r1 _) ha0 (by omega) (by simp) (MapI.get_same _ _ _) hca ⟨by simp, by simp⟩ ⟨by simp, by simp⟩ (by simp; omega) (by simp; omega) (by simp) (by omega) (by simp [rowName])) (fun n hn => by
      have : n = c + 1 ∨ n = c := by simpa [rowName] using hn
      exact .inr (by omega)) (by omega) fun v h2 c2 hc2 hfr2 hq => ?_)
    obtain ⟨i, vb2, vr2, rows2, rfl, r2, hn2, hi, _, hrows⟩ := hq
    have hi0 : i = 0 := by simpa using hi
    subst hi0
    have hr2 : rows2 = [(0, (ahead : Int), 1)] := by
      rcases hrows with ⟨q, hq, _⟩ | ⟨_, hq⟩
      · simp at hq
      · rw [hq]; rfl
    subst hr2
    have hnm : ∀ n ∈ c :: (rowName vb2 ++ rowName vr2), c ≤ n := fun n hn => by
      rcases List.mem_cons.1 hn with e | e
      · omega
      · rcases hn2 n e with e2 | e2
        · cases e2
        · omega
    have hg3 : MapI.get h2 sn = some (.cells false false (flat byteV ys)) := by
      rw [hfr2 sn (by omega) (by simp [rowName]; omega)]; exact hg2 _
    repeat' (first
      | refine WpC.seq ?_
      | refine WpC.region ?_
      | refine WpC.drawn ?_
      | refine WpC.skip ?_
      | refine WpC.block ?_
      | refine WpC.exit ?_
      | refine WpC.ret ?_
      | refine WpO.nil ?_
      | refine WpO.cons rfl rfl (WpX.pure (fun _ => rfl) ⟨nolog, ?_⟩)
      | refine WpO.skip rfl rfl ?_
      | refine WpL.cons rfl rfl (WpX.pure (fun _ => rfl) ⟨nolog, ?_⟩)
      | refine WpL.skip rfl rfl ?_
      | refine seqQ_normal ?_
      | refine seqQ_ret ?_
      | refine seqQ_exit ?_
      | refine blkQ_normal ?_
      | refine blkQ_ret ?_
      | refine blkQ_out rfl ?_
      | refine blkQ_by rfl ?_)
    refine WpO.cons rfl rfl (call_at rfl (grant_at (n := ys.length) (ys := ys) r2 (by omega) (by omega) rfl hg3 hcy ⟨by simp, by simp⟩ ⟨by simp, by simp; omega⟩ (by simp; omega) (by simp; omega) (by simp) (by omega) (fun hm => by have := hnm sn hm; omega)) (fun n hn => by
      rcases List.mem_cons.1 hn with e | e
      · exact .inl (by simp [rowName, e])
      · exact .inr (hnm n e)) (by omega) fun v h3 c3 hc3 hfr3 hq => ?_)
    obtain ⟨hsame3, i, vb3, vr3, rows3, rfl, r3, hn3, hi, hlow, hrows⟩ := hq
    have hi1 : i = 1 ∧ rows3 = [(0, (ahead : Int), 1), ((ahead : Int), (ys.length : Int), 1)] := by
      rcases hrows with ⟨q, hq, hq0, _⟩ | ⟨hi, hq⟩
      · match i, hq with
        | 0, hq => simp at hq; rw [← hq] at hq0; cases hq0
        | 1, hq => simp at hq
        | k + 2, hq => simp at hq
      · refine ⟨by simpa using hi, ?_⟩
        rw [hq]; simp
    obtain ⟨rfl, rfl⟩ := hi1
    have hnm3 : ∀ n ∈ c :: (rowName vb3 ++ rowName vr3), c ≤ n := fun n hn => by
      rcases List.mem_cons.1 hn with e | e
      · omega
      · rcases hn3 n e with e2 | e2
        · exact hnm n (by simp only [List.mem_cons]; exact .inr e2)
        · omega
    have hg4 : MapI.get h3 sn = some (.cells false false (flat byteV ys)) := by
      rw [hsame3]; exact hg3
    repeat' (first
      | refine WpC.seq ?_
      | refine WpC.region ?_
      | refine WpC.drawn ?_
      | refine WpC.skip ?_
      | refine WpC.block ?_
      | refine WpC.exit ?_
      | refine WpC.ret ?_
      | refine WpO.nil ?_
      | refine WpO.cons rfl rfl (WpX.pure (fun _ => rfl) ⟨nolog, ?_⟩)
      | refine WpO.skip rfl rfl ?_
      | refine WpL.cons rfl rfl (WpX.pure (fun _ => rfl) ⟨nolog, ?_⟩)
      | refine WpL.skip rfl rfl ?_
      | refine seqQ_normal ?_
      | refine seqQ_ret ?_
      | refine seqQ_exit ?_
      | refine blkQ_normal ?_
      | refine blkQ_ret ?_
      | refine blkQ_out rfl ?_
      | refine blkQ_by rfl ?_)
    refine WpC.cond rfl (fun hb => by cases hb) (fun _ => ?_)
    repeat' (first
      | refine WpC.seqI (a := Code.region 10 _ _) (fun e h4 c4 => ∃ b : Bool, (∃ b0, e = MapI.set (MapI.set (MapI.set (MapI.set (MapI.set (MapI.set (MapI.set b0 0 (.slice (some (sn, 0)) ys.length (.known cap))) 1 (I ((ahead : Nat) : Int))) 2 (I at')) 3 (I n)) 9 (.ptr (some (c, 0)))) 10 (I (((1 : Nat) : Int) + 1))) 12 (.bool b)) ∧ (b = true ↔ (0 ≤ at' ∧ 0 ≤ n ∧ at' ≤ (ys.length : Int) ∧ n ≤ (ys.length : Int) - at')) ∧ h4 = h3 ∧ c4 = c3) ?_ ?_
      | refine WpC.seq ?_
      | refine WpC.region ?_
      | refine WpC.drawn ?_
      | refine WpC.skip ?_
      | refine WpC.block ?_
      | refine WpC.exit ?_
      | refine WpC.ret ?_
      | refine WpO.nil ?_
      | refine WpO.cons rfl rfl (WpX.pure (fun _ => rfl) ⟨nolog, ?_⟩)
      | refine WpO.skip rfl rfl ?_
      | refine WpL.cons rfl rfl (WpX.pure (fun _ => rfl) ⟨nolog, ?_⟩)
      | refine WpL.skip rfl rfl ?_
      | refine seqQ_normal ?_
      | refine seqQ_ret ?_
      | refine seqQ_exit ?_
      | refine blkQ_normal ?_
      | refine blkQ_ret ?_
      | refine blkQ_out rfl ?_
      | refine blkQ_by rfl ?_)
    · by_cases g1 : at' ≥ 0
      · have e1 : decide (at' ≥ 0) = true := by simpa using g1
        by_cases g2 : n ≥ 0
        · have e2 : decide (n ≥ 0) = true := by simpa using g2
          by_cases g3 : at' ≤ (ys.length : Int)
          · have e3 : decide (at' ≤ (ys.length : Int)) = true := by simpa using g3
            have hw : IntKind.i64.wrap ((ys.length : Int) - at') = ys.length - at' := Go.IntWalk.i64_in _ (by omega)
            repeat' (first
              | refine WpC.seq ?_
              | refine WpC.region ?_
              | refine WpC.drawn ?_
              | refine WpC.skip ?_
              | refine WpC.block ?_
              | refine WpC.exit ?_
              | refine WpC.ret ?_
              | refine WpO.nil ?_
              | refine WpO.cons rfl rfl (WpX.pure (fun _ => rfl) ⟨nolog, ?_⟩)
              | refine WpO.skip rfl rfl ?_
              | refine WpL.cons rfl rfl (WpX.pure (fun _ => rfl) ⟨nolog, ?_⟩)
              | refine WpL.skip rfl rfl ?_
              | refine seqQ_normal ?_
              | refine seqQ_ret ?_
              | refine seqQ_exit ?_
              | refine blkQ_normal ?_
              | refine blkQ_ret ?_
              | refine blkQ_out rfl ?_
              | refine blkQ_by rfl ?_)
            simp only [e1]
            repeat' (first
              | refine WpC.seq ?_
              | refine WpC.region ?_
              | refine WpC.drawn ?_
              | refine WpC.skip ?_
              | refine WpC.block ?_
              | refine WpC.exit ?_
              | refine WpC.ret ?_
              | refine WpO.nil ?_
              | refine WpO.cons rfl rfl (WpX.pure (fun _ => rfl) ⟨nolog, ?_⟩)
              | refine WpO.skip rfl rfl ?_
              | refine WpL.cons rfl rfl (WpX.pure (fun _ => rfl) ⟨nolog, ?_⟩)
              | refine WpL.skip rfl rfl ?_
              | refine seqQ_normal ?_
              | refine seqQ_ret ?_
              | refine seqQ_exit ?_
              | refine blkQ_normal ?_
              | refine blkQ_ret ?_
              | refine blkQ_out rfl ?_
              | refine blkQ_by rfl ?_)
            simp only [e2]
            repeat' (first
              | refine WpC.seq ?_
              | refine WpC.region ?_
              | refine WpC.drawn ?_
              | refine WpC.skip ?_
              | refine WpC.block ?_
              | refine WpC.exit ?_
              | refine WpC.ret ?_
              | refine WpO.nil ?_
              | refine WpO.cons rfl rfl (WpX.pure (fun _ => rfl) ⟨nolog, ?_⟩)
              | refine WpO.skip rfl rfl ?_
              | refine WpL.cons rfl rfl (WpX.pure (fun _ => rfl) ⟨nolog, ?_⟩)
              | refine WpL.skip rfl rfl ?_
              | refine seqQ_normal ?_
              | refine seqQ_ret ?_
              | refine seqQ_exit ?_
              | refine blkQ_normal ?_
              | refine blkQ_ret ?_
              | refine blkQ_out rfl ?_
              | refine blkQ_by rfl ?_
              | refine WpO.cons rfl rfl (op_len rfl rfl rfl ⟨(by simp [InL, Acc.name, rowName] <;> omega), ?_⟩)
              | refine WpL.cons rfl rfl (op_len rfl rfl rfl ⟨(by simp [InL, Acc.name, rowName] <;> omega), ?_⟩))
            simp only [e3]
            repeat' (first
              | refine WpC.seq ?_
              | refine WpC.region ?_
              | refine WpC.drawn ?_
              | refine WpC.skip ?_
              | refine WpC.block ?_
              | refine WpC.exit ?_
              | refine WpC.ret ?_
              | refine WpO.nil ?_
              | refine WpO.cons rfl rfl (WpX.pure (fun _ => rfl) ⟨nolog, ?_⟩)
              | refine WpO.skip rfl rfl ?_
              | refine WpL.cons rfl rfl (WpX.pure (fun _ => rfl) ⟨nolog, ?_⟩)
              | refine WpL.skip rfl rfl ?_
              | refine seqQ_normal ?_
              | refine seqQ_ret ?_
              | refine seqQ_exit ?_
              | refine blkQ_normal ?_
              | refine blkQ_ret ?_
              | refine blkQ_out rfl ?_
              | refine blkQ_by rfl ?_
              | refine WpO.cons rfl rfl (op_len rfl rfl rfl ⟨(by simp [InL, Acc.name, rowName] <;> omega), ?_⟩)
              | refine WpL.cons rfl rfl (op_len rfl rfl rfl ⟨(by simp [InL, Acc.name, rowName] <;> omega), ?_⟩))
            refine ⟨decide (n ≤ IntKind.i64.wrap ((ys.length : Int) - at')), ⟨_, (set7 rfl rfl rfl rfl rfl rfl rfl).choose_spec⟩, ?_, rfl, rfl⟩
            rw [decide_eq_true_iff, hw]
            exact ⟨fun hp => ⟨g1, g2, g3, hp⟩, fun hp => hp.2.2.2⟩
          · have e3 : decide (at' ≤ (ys.length : Int)) = false := by simpa using g3
            repeat' (first
              | refine WpC.seq ?_
              | refine WpC.region ?_
              | refine WpC.drawn ?_
              | refine WpC.skip ?_
              | refine WpC.block ?_
              | refine WpC.exit ?_
              | refine WpC.ret ?_
              | refine WpO.nil ?_
              | refine WpO.cons rfl rfl (WpX.pure (fun _ => rfl) ⟨nolog, ?_⟩)
              | refine WpO.skip rfl rfl ?_
              | refine WpL.cons rfl rfl (WpX.pure (fun _ => rfl) ⟨nolog, ?_⟩)
              | refine WpL.skip rfl rfl ?_
              | refine seqQ_normal ?_
              | refine seqQ_ret ?_
              | refine seqQ_exit ?_
              | refine blkQ_normal ?_
              | refine blkQ_ret ?_
              | refine blkQ_out rfl ?_
              | refine blkQ_by rfl ?_)
            simp only [e1]
            repeat' (first
              | refine WpC.seq ?_
              | refine WpC.region ?_
              | refine WpC.drawn ?_
              | refine WpC.skip ?_
              | refine WpC.block ?_
              | refine WpC.exit ?_
              | refine WpC.ret ?_
              | refine WpO.nil ?_
              | refine WpO.cons rfl rfl (WpX.pure (fun _ => rfl) ⟨nolog, ?_⟩)
              | refine WpO.skip rfl rfl ?_
              | refine WpL.cons rfl rfl (WpX.pure (fun _ => rfl) ⟨nolog, ?_⟩)
              | refine WpL.skip rfl rfl ?_
              | refine seqQ_normal ?_
              | refine seqQ_ret ?_
              | refine seqQ_exit ?_
              | refine blkQ_normal ?_
              | refine blkQ_ret ?_
              | refine blkQ_out rfl ?_
              | refine blkQ_by rfl ?_)
            simp only [e2]
            repeat' (first
              | refine WpC.seq ?_
              | refine WpC.region ?_
              | refine WpC.drawn ?_
              | refine WpC.skip ?_
              | refine WpC.block ?_
              | refine WpC.exit ?_
              | refine WpC.ret ?_
              | refine WpO.nil ?_
              | refine WpO.cons rfl rfl (WpX.pure (fun _ => rfl) ⟨nolog, ?_⟩)
              | refine WpO.skip rfl rfl ?_
              | refine WpL.cons rfl rfl (WpX.pure (fun _ => rfl) ⟨nolog, ?_⟩)
              | refine WpL.skip rfl rfl ?_
              | refine seqQ_normal ?_
              | refine seqQ_ret ?_
              | refine seqQ_exit ?_
              | refine blkQ_normal ?_
              | refine blkQ_ret ?_
              | refine blkQ_out rfl ?_
              | refine blkQ_by rfl ?_
              | refine WpO.cons rfl rfl (op_len rfl rfl rfl ⟨(by simp [InL, Acc.name, rowName] <;> omega), ?_⟩)
              | refine WpL.cons rfl rfl (op_len rfl rfl rfl ⟨(by simp [InL, Acc.name, rowName] <;> omega), ?_⟩))
            simp only [e3]
            repeat' (first
              | refine WpC.seq ?_
              | refine WpC.region ?_
              | refine WpC.drawn ?_
              | refine WpC.skip ?_
              | refine WpC.block ?_
              | refine WpC.exit ?_
              | refine WpC.ret ?_
              | refine WpO.nil ?_
              | refine WpO.cons rfl rfl (WpX.pure (fun _ => rfl) ⟨nolog, ?_⟩)
              | refine WpO.skip rfl rfl ?_
              | refine WpL.cons rfl rfl (WpX.pure (fun _ => rfl) ⟨nolog, ?_⟩)
              | refine WpL.skip rfl rfl ?_
              | refine seqQ_normal ?_
              | refine seqQ_ret ?_
              | refine seqQ_exit ?_
              | refine blkQ_normal ?_
              | refine blkQ_ret ?_
              | refine blkQ_out rfl ?_
              | refine blkQ_by rfl ?_)
            refine ⟨false, ⟨_, (set7 rfl rfl rfl rfl rfl rfl rfl).choose_spec⟩, ?_, rfl, rfl⟩
            exact ⟨fun hp => (by cases hp), fun hp => absurd hp.2.2.1 g3⟩
        · have e2 : decide (n ≥ 0) = false := by simpa using g2
          repeat' (first
            | refine WpC.seq ?_
            | refine WpC.region ?_
            | refine WpC.drawn ?_
            | refine WpC.skip ?_
            | refine WpC.block ?_
            | refine WpC.exit ?_
            | refine WpC.ret ?_
            | refine WpO.nil ?_
            | refine WpO.cons rfl rfl (WpX.pure (fun _ => rfl) ⟨nolog, ?_⟩)
            | refine WpO.skip rfl rfl ?_
            | refine WpL.cons rfl rfl (WpX.pure (fun _ => rfl) ⟨nolog, ?_⟩)
            | refine WpL.skip rfl rfl ?_
            | refine seqQ_normal ?_
            | refine seqQ_ret ?_
            | refine seqQ_exit ?_
            | refine blkQ_normal ?_
            | refine blkQ_ret ?_
            | refine blkQ_out rfl ?_
            | refine blkQ_by rfl ?_)
          simp only [e1]
          repeat' (first
            | refine WpC.seq ?_
            | refine WpC.region ?_
            | refine WpC.drawn ?_
            | refine WpC.skip ?_
            | refine WpC.block ?_
            | refine WpC.exit ?_
            | refine WpC.ret ?_
            | refine WpO.nil ?_
            | refine WpO.cons rfl rfl (WpX.pure (fun _ => rfl) ⟨nolog, ?_⟩)
            | refine WpO.skip rfl rfl ?_
            | refine WpL.cons rfl rfl (WpX.pure (fun _ => rfl) ⟨nolog, ?_⟩)
            | refine WpL.skip rfl rfl ?_
            | refine seqQ_normal ?_
            | refine seqQ_ret ?_
            | refine seqQ_exit ?_
            | refine blkQ_normal ?_
            | refine blkQ_ret ?_
            | refine blkQ_out rfl ?_
            | refine blkQ_by rfl ?_)
          simp only [e2]
          repeat' (first
            | refine WpC.seq ?_
            | refine WpC.region ?_
            | refine WpC.drawn ?_
            | refine WpC.skip ?_
            | refine WpC.block ?_
            | refine WpC.exit ?_
            | refine WpC.ret ?_
            | refine WpO.nil ?_
            | refine WpO.cons rfl rfl (WpX.pure (fun _ => rfl) ⟨nolog, ?_⟩)
            | refine WpO.skip rfl rfl ?_
            | refine WpL.cons rfl rfl (WpX.pure (fun _ => rfl) ⟨nolog, ?_⟩)
            | refine WpL.skip rfl rfl ?_
            | refine seqQ_normal ?_
            | refine seqQ_ret ?_
            | refine seqQ_exit ?_
            | refine blkQ_normal ?_
            | refine blkQ_ret ?_
            | refine blkQ_out rfl ?_
            | refine blkQ_by rfl ?_)
          refine ⟨false, ⟨_, (set7 rfl rfl rfl rfl rfl rfl rfl).choose_spec⟩, ?_, rfl, rfl⟩
          exact ⟨fun hp => (by cases hp), fun hp => absurd hp.2.1 g2⟩
      · have e1 : decide (at' ≥ 0) = false := by simpa using g1
        repeat' (first
          | refine WpC.seq ?_
          | refine WpC.region ?_
          | refine WpC.drawn ?_
          | refine WpC.skip ?_
          | refine WpC.block ?_
          | refine WpC.exit ?_
          | refine WpC.ret ?_
          | refine WpO.nil ?_
          | refine WpO.cons rfl rfl (WpX.pure (fun _ => rfl) ⟨nolog, ?_⟩)
          | refine WpO.skip rfl rfl ?_
          | refine WpL.cons rfl rfl (WpX.pure (fun _ => rfl) ⟨nolog, ?_⟩)
          | refine WpL.skip rfl rfl ?_
          | refine seqQ_normal ?_
          | refine seqQ_ret ?_
          | refine seqQ_exit ?_
          | refine blkQ_normal ?_
          | refine blkQ_ret ?_
          | refine blkQ_out rfl ?_
          | refine blkQ_by rfl ?_)
        simp only [e1]
        repeat' (first
          | refine WpC.seq ?_
          | refine WpC.region ?_
          | refine WpC.drawn ?_
          | refine WpC.skip ?_
          | refine WpC.block ?_
          | refine WpC.exit ?_
          | refine WpC.ret ?_
          | refine WpO.nil ?_
          | refine WpO.cons rfl rfl (WpX.pure (fun _ => rfl) ⟨nolog, ?_⟩)
          | refine WpO.skip rfl rfl ?_
          | refine WpL.cons rfl rfl (WpX.pure (fun _ => rfl) ⟨nolog, ?_⟩)
          | refine WpL.skip rfl rfl ?_
          | refine seqQ_normal ?_
          | refine seqQ_ret ?_
          | refine seqQ_exit ?_
          | refine blkQ_normal ?_
          | refine blkQ_ret ?_
          | refine blkQ_out rfl ?_
          | refine blkQ_by rfl ?_)
        refine ⟨false, ⟨_, (set7 rfl rfl rfl rfl rfl rfl rfl).choose_spec⟩, ?_, rfl, rfl⟩
        exact ⟨fun hp => (by cases hp), fun hp => absurd hp.1 g1⟩
    rintro e4 h4 c4 ⟨b, ⟨b4, rfl⟩, hbb, e4a, e4b⟩
    subst e4a
    subst e4b
    repeat' (first
      | refine WpC.seq ?_
      | refine WpC.region ?_
      | refine WpC.drawn ?_
      | refine WpC.skip ?_
      | refine WpC.block ?_
      | refine WpC.exit ?_
      | refine WpC.ret ?_
      | refine WpO.nil ?_
      | refine WpO.cons rfl rfl (WpX.pure (fun _ => rfl) ⟨nolog, ?_⟩)
      | refine WpO.skip rfl rfl ?_
      | refine WpL.cons rfl rfl (WpX.pure (fun _ => rfl) ⟨nolog, ?_⟩)
      | refine WpL.skip rfl rfl ?_
      | refine seqQ_normal ?_
      | refine seqQ_ret ?_
      | refine seqQ_exit ?_
      | refine blkQ_normal ?_
      | refine blkQ_ret ?_
      | refine blkQ_out rfl ?_
      | refine blkQ_by rfl ?_)
    refine WpO.cons rfl rfl (call_at rfl (look_any (i := 1) (b := b) (a := (ahead : Int)) (ln := (ys.length : Int)) (cnt := 1) r3 (by simp) rfl (by decide) hah0 hl0 hal2 hbl7 hbl0 h64 hbb) (fun n hn => .inr (hnm3 n hn)) (by omega) fun v h5 c5 hc5 hfr5 hq => ?_)
    obtain ⟨v1, rfl, hb1, hn1, ho1⟩ := hq
    rw [look_front (fun e => (hbb.1 e).1)] at hb1
    have r5 := r3.keep hc5 ho1
    have hlt3 := r3.names
    repeat' (first
      | refine WpC.seq ?_
      | refine WpC.region ?_
      | refine WpC.drawn ?_
      | refine WpC.skip ?_
      | refine WpC.block ?_
      | refine WpC.exit ?_
      | refine WpC.ret ?_
      | refine WpO.nil ?_
      | refine WpO.cons rfl rfl (WpX.pure (fun _ => rfl) ⟨nolog, ?_⟩)
      | refine WpO.skip rfl rfl ?_
      | refine WpL.cons rfl rfl (WpX.pure (fun _ => rfl) ⟨nolog, ?_⟩)
      | refine WpL.skip rfl rfl ?_
      | refine seqQ_normal ?_
      | refine seqQ_ret ?_
      | refine seqQ_exit ?_
      | refine blkQ_normal ?_
      | refine blkQ_ret ?_
      | refine blkQ_out rfl ?_
      | refine blkQ_by rfl ?_)
    refine WpO.cons rfl rfl (call_at rfl (drop_ok r5 (by simp)) (fun n hn => .inr (hnm3 n (by rcases List.mem_cons.1 hn with e | e <;> simp [e]))) (by omega) fun v h6 c6 hc6 hfr6 hq => ?_)
    obtain ⟨hc6e, hq⟩ := hq
    subst hc6e
    rcases hq with ⟨i, q, hi, hq, hq0, rfl, r6⟩ | ⟨hno, _⟩
    case inr => exact absurd (show (1 : Int) = 0 from hno 0 (0, (ahead : Int), 1) rfl rfl) (by decide)
    have hi0 : i = 0 := by omega
    subst hi0
    have hq := Option.some.inj hq
    subst hq
    obtain ⟨L6, r6⟩ : ∃ L, StoreAt h6 c6 c vb3 vr3 ⟨[] ++ List.replicate ahead 0 ++ ys, 5000, [(0, (ahead : Int), IntKind.i64.wrap (1 - 1)), ((ahead : Int), (ys.length : Int), 1)], L⟩ := ⟨_, r6⟩
    have hb6 : ByteSl h6 v1 (if b then (ys.drop at'.toNat).take n.toNat else []) := hb1.keep fun x hx => hfr6 x (hn1 x hx).2 (fun hm => by
      have h1 := hlt3 x (by rcases List.mem_cons.1 hm with e | e <;> simp [e])
      have h2 := (hn1 x hx).1
      omega)
    repeat' (first
      | refine WpC.seq ?_
      | refine WpC.region ?_
      | refine WpC.drawn ?_
      | refine WpC.skip ?_
      | refine WpC.block ?_
      | refine WpC.exit ?_
      | refine WpC.ret ?_
      | refine WpO.nil ?_
      | refine WpO.cons rfl rfl (WpX.pure (fun _ => rfl) ⟨nolog, ?_⟩)
      | refine WpO.skip rfl rfl ?_
      | refine WpL.cons rfl rfl (WpX.pure (fun _ => rfl) ⟨nolog, ?_⟩)
      | refine WpL.skip rfl rfl ?_
      | refine seqQ_normal ?_
      | refine seqQ_ret ?_
      | refine seqQ_exit ?_
      | refine blkQ_normal ?_
      | refine blkQ_ret ?_
      | refine blkQ_out rfl ?_
      | refine blkQ_by rfl ?_)
    simp only [hea]
    repeat' (first
      | refine WpC.seq ?_
      | refine WpC.region ?_
      | refine WpC.drawn ?_
      | refine WpC.skip ?_
      | refine WpC.block ?_
      | refine WpC.exit ?_
      | refine WpC.ret ?_
      | refine WpO.nil ?_
      | refine WpO.cons rfl rfl (WpX.pure (fun _ => rfl) ⟨nolog, ?_⟩)
      | refine WpO.skip rfl rfl ?_
      | refine WpL.cons rfl rfl (WpX.pure (fun _ => rfl) ⟨nolog, ?_⟩)
      | refine WpL.skip rfl rfl ?_
      | refine seqQ_normal ?_
      | refine seqQ_ret ?_
      | refine seqQ_exit ?_
      | refine blkQ_normal ?_
      | refine blkQ_ret ?_
      | refine blkQ_out rfl ?_
      | refine blkQ_by rfl ?_)
    refine WpC.cond rfl (fun hb => by cases hb) (fun _ => ?_)
    repeat' (first
      | refine WpC.seq ?_
      | refine WpC.region ?_
      | refine WpC.drawn ?_
      | refine WpC.skip ?_
      | refine WpC.block ?_
      | refine WpC.exit ?_
      | refine WpC.ret ?_
      | refine WpO.nil ?_
      | refine WpO.cons rfl rfl (WpX.pure (fun _ => rfl) ⟨nolog, ?_⟩)
      | refine WpO.skip rfl rfl ?_
      | refine WpL.cons rfl rfl (WpX.pure (fun _ => rfl) ⟨nolog, ?_⟩)
      | refine WpL.skip rfl rfl ?_
      | refine seqQ_normal ?_
      | refine seqQ_ret ?_
      | refine seqQ_exit ?_
      | refine blkQ_normal ?_
      | refine blkQ_ret ?_
      | refine blkQ_out rfl ?_
      | refine blkQ_by rfl ?_)
    refine WpO.cons rfl rfl (call_at rfl (slide_one (j := 1) (a := ahead) (n := ys.length) (cnt := 1) r6 (by simp) rfl (hone2 (by decide)) hb0 haln hbl7) (fun n hn => .inr (hnm3 n hn)) (by omega) fun v h7 c7 hc7 hfr7 hq => ?_)
    obtain ⟨hv7, vb7, hvb7, r7⟩ := hq
    have hv7 : v = I ((ahead : Nat) : Int) := hv7.trans (congrArg (fun k : Nat => I (k : Int)) hgain)
    subst hv7
    obtain ⟨L7, r7⟩ : ∃ L, StoreAt h7 c7 c vb7 vr3 ⟨(([] ++ List.replicate ahead 0 ++ ys).drop ahead).take ys.length, 5000, [(0, (ahead : Int), IntKind.i64.wrap (1 - 1)), (0, (ys.length : Int), 1)], L⟩ := ⟨_, r7⟩
    rw [hbs7] at r7
    have hnm3c : ∀ x ∈ c :: (rowName vb3 ++ rowName vr3), x < c4 := fun x hx => hlt3 x hx
    have hb7' : ByteSl h7 v1 (if b then (ys.drop at'.toNat).take n.toNat else []) := hb6.keep fun x hx => hfr7 x (hn1 x hx).2 (fun hm => by
      have h1 := hlt3 x hm
      have h2 := (hn1 x hx).1
      omega)
    repeat' (first
      | refine WpC.seq ?_
      | refine WpC.region ?_
      | refine WpC.drawn ?_
      | refine WpC.skip ?_
      | refine WpC.block ?_
      | refine WpC.exit ?_
      | refine WpC.ret ?_
      | refine WpO.nil ?_
      | refine WpO.cons rfl rfl (WpX.pure (fun _ => rfl) ⟨nolog, ?_⟩)
      | refine WpO.skip rfl rfl ?_
      | refine WpL.cons rfl rfl (WpX.pure (fun _ => rfl) ⟨nolog, ?_⟩)
      | refine WpL.skip rfl rfl ?_
      | refine seqQ_normal ?_
      | refine seqQ_ret ?_
      | refine seqQ_exit ?_
      | refine blkQ_normal ?_
      | refine blkQ_ret ?_
      | refine blkQ_out rfl ?_
      | refine blkQ_by rfl ?_)
    refine WpO.cons rfl rfl (call_at rfl (look_any (i := 1) (b := b) (a := 0) (ln := (ys.length : Int)) (cnt := 1) r7 (by simp) rfl (by decide) (by decide) hl0 hal1 hb7 hb0 h64 hbb) (fun n hn => .inr (hnm3 n (by rw [hvb7] at hn; exact hn))) (by omega) fun v h8 c8 hc8 hfr8 hq => ?_)
    obtain ⟨v2, rfl, hb2, hn4, ho2⟩ := hq
    rw [Int.zero_add] at hb2
    have r8 := r7.keep hc8 ho2
    have hb8 : ByteSl h8 v1 (if b then (ys.drop at'.toNat).take n.toNat else []) := hb7'.keep fun x hx => ho2 x (by have := (hn1 x hx).2; omega)
    have hg8 : MapI.get h8 sn = some (.cells false false (flat byteV ys)) := by
      have hno : sn ∉ c :: (rowName vb3 ++ rowName vr3) := fun hm => by have := hnm3 sn hm; omega
      rw [ho2 sn (by omega), hfr7 sn (by omega) hno, hfr6 sn (by omega) (fun hm => hno (by rcases List.mem_cons.1 hm with e | e <;> simp [e])), ho1 sn (by omega)]
      exact hg4
    repeat' (first
      | refine WpC.seq ?_
      | refine WpC.region ?_
      | refine WpC.drawn ?_
      | refine WpC.skip ?_
      | refine WpC.block ?_
      | refine WpC.exit ?_
      | refine WpC.ret ?_
      | refine WpO.nil ?_
      | refine WpO.cons rfl rfl (WpX.pure (fun _ => rfl) ⟨nolog, ?_⟩)
      | refine WpO.skip rfl rfl ?_
      | refine WpL.cons rfl rfl (WpX.pure (fun _ => rfl) ⟨nolog, ?_⟩)
      | refine WpL.skip rfl rfl ?_
      | refine seqQ_normal ?_
      | refine seqQ_ret ?_
      | refine seqQ_exit ?_
      | refine blkQ_normal ?_
      | refine blkQ_ret ?_
      | refine blkQ_out rfl ?_
      | refine blkQ_by rfl ?_)
    refine WpO.cons rfl rfl (call_at rfl (place_ok (i := 1) r8 (by simp) rfl (show (1 : Int) ≠ 0 by decide)) (fun n hn => .inr (hnm3 n (by rcases List.mem_cons.1 hn with e | e <;> simp [e]))) (by omega) fun v h9 c9 hc9 hfr9 hq => ?_)
    obtain ⟨e9v, e9h, e9c⟩ := hq
    subst e9v
    have e9h := e9h.symm
    subst e9h
    have e9c := e9c.symm
    subst e9c
    have hr : ∀ z ∈ (if b then (ys.drop at'.toNat).take n.toNat else []), 0 ≤ z ∧ z < 256 := fun z hz => by
      cases b with
      | false => cases hz
      | true => exact hys z (List.mem_of_mem_drop (List.mem_of_mem_take hz))
    have hft : ∀ x ∈ rowName v1 ++ rowName v2, c ≤ x := fun x hx => by
      rcases List.mem_append.1 hx with e | e
      · have := (hn1 x e).1; omega
      · have := (hn4 x e).1; omega
    have hge : (((ahead : Nat) : Int) == ((ahead : Nat) : Int)) = true := beq_self_eq_true _
    have hle : (((ys.length : Nat) : Int) == ((ys.length : Nat) : Int)) = true := beq_self_eq_true _
    cases b with
    | false =>
      repeat' (first
        | refine WpC.seq ?_
        | refine WpC.region ?_
        | refine WpC.drawn ?_
        | refine WpC.skip ?_
        | refine WpC.block ?_
        | refine WpC.exit ?_
        | refine WpC.ret ?_
        | refine WpO.nil ?_
        | refine WpO.cons rfl rfl (WpX.pure (fun _ => rfl) ⟨nolog, ?_⟩)
        | refine WpO.skip rfl rfl ?_
        | refine WpL.cons rfl rfl (WpX.pure (fun _ => rfl) ⟨nolog, ?_⟩)
        | refine WpL.skip rfl rfl ?_
        | refine seqQ_normal ?_
        | refine seqQ_ret ?_
        | refine seqQ_exit ?_
        | refine blkQ_normal ?_
        | refine blkQ_ret ?_
        | refine blkQ_out rfl ?_
        | refine blkQ_by rfl ?_)
      refine WpO.cons rfl rfl (call_at rfl (same_ok hb8 hb2 hr) (fun x hx => .inr (hft x hx)) (by omega) fun v h10 c10 hc10 hfr10 hq => ?_)
      obtain ⟨rfl, _, _⟩ := hq
      repeat' (first
        | refine WpC.seq ?_
        | refine WpC.region ?_
        | refine WpC.drawn ?_
        | refine WpC.skip ?_
        | refine WpC.block ?_
        | refine WpC.exit ?_
        | refine WpC.ret ?_
        | refine WpO.nil ?_
        | refine WpO.cons rfl rfl (WpX.pure (fun _ => rfl) ⟨nolog, ?_⟩)
        | refine WpO.skip rfl rfl ?_
        | refine WpL.cons rfl rfl (WpX.pure (fun _ => rfl) ⟨nolog, ?_⟩)
        | refine WpL.skip rfl rfl ?_
        | refine seqQ_normal ?_
        | refine seqQ_ret ?_
        | refine seqQ_exit ?_
        | refine blkQ_normal ?_
        | refine blkQ_ret ?_
        | refine blkQ_out rfl ?_
        | refine blkQ_by rfl ?_)
      refine WpC.cond rfl (fun hb => by cases hb) (fun _ => ?_)
      repeat' (first
        | refine WpC.seq ?_
        | refine WpC.region ?_
        | refine WpC.drawn ?_
        | refine WpC.skip ?_
        | refine WpC.block ?_
        | refine WpC.exit ?_
        | refine WpC.ret ?_
        | refine WpO.nil ?_
        | refine WpO.cons rfl rfl (WpX.pure (fun _ => rfl) ⟨nolog, ?_⟩)
        | refine WpO.skip rfl rfl ?_
        | refine WpL.cons rfl rfl (WpX.pure (fun _ => rfl) ⟨nolog, ?_⟩)
        | refine WpL.skip rfl rfl ?_
        | refine seqQ_normal ?_
        | refine seqQ_ret ?_
        | refine seqQ_exit ?_
        | refine blkQ_normal ?_
        | refine blkQ_ret ?_
        | refine blkQ_out rfl ?_
        | refine blkQ_by rfl ?_)
      refine WpO.cons rfl rfl (call_at rfl sawake_ok (by simp) (by omega) fun v h11 c11 hc11 hfr11 hq => ?_)
      subst hq
      repeat' (first
        | refine WpC.seq ?_
        | refine WpC.region ?_
        | refine WpC.drawn ?_
        | refine WpC.skip ?_
        | refine WpC.block ?_
        | refine WpC.exit ?_
        | refine WpC.ret ?_
        | refine WpO.nil ?_
        | refine WpO.cons rfl rfl (WpX.pure (fun _ => rfl) ⟨nolog, ?_⟩)
        | refine WpO.skip rfl rfl ?_
        | refine WpL.cons rfl rfl (WpX.pure (fun _ => rfl) ⟨nolog, ?_⟩)
        | refine WpL.skip rfl rfl ?_
        | refine seqQ_normal ?_
        | refine seqQ_ret ?_
        | refine seqQ_exit ?_
        | refine blkQ_normal ?_
        | refine blkQ_ret ?_
        | refine blkQ_out rfl ?_
        | refine blkQ_by rfl ?_)
      simp only [hge]
      repeat' (first
        | refine WpC.seq ?_
        | refine WpC.region ?_
        | refine WpC.drawn ?_
        | refine WpC.skip ?_
        | refine WpC.block ?_
        | refine WpC.exit ?_
        | refine WpC.ret ?_
        | refine WpO.nil ?_
        | refine WpO.cons rfl rfl (WpX.pure (fun _ => rfl) ⟨nolog, ?_⟩)
        | refine WpO.skip rfl rfl ?_
        | refine WpL.cons rfl rfl (WpX.pure (fun _ => rfl) ⟨nolog, ?_⟩)
        | refine WpL.skip rfl rfl ?_
        | refine seqQ_normal ?_
        | refine seqQ_ret ?_
        | refine seqQ_exit ?_
        | refine blkQ_normal ?_
        | refine blkQ_ret ?_
        | refine blkQ_out rfl ?_
        | refine blkQ_by rfl ?_
        | refine WpO.cons rfl rfl (op_len rfl rfl rfl ⟨(by simp [InL, Acc.name, rowName] <;> omega), ?_⟩)
        | refine WpL.cons rfl rfl (op_len rfl rfl rfl ⟨(by simp [InL, Acc.name, rowName] <;> omega), ?_⟩))
      simp only [hle]
      exact out_ret rfl rfl
    | true =>
      obtain ⟨w1, w2, w3, w4⟩ := hbb.1 rfl
      have hwa : IntKind.i64.wrap (at' + n) = at' + n := Go.IntWalk.i64_in _ (by omega)
      have hlb : bound (some (I at')) 0 = some at'.toNat := if_pos w1
      have hub : bound (some (I (IntKind.i64.wrap (at' + n)))) ys.length = some (at'.toNat + n.toNat) := by
        rw [hwa]
        exact (if_pos (by omega)).trans (congrArg some (by omega))
      have hsl : ByteSl h8 (.slice (some (sn, if cap = at'.toNat then 0 else 0 + at'.toNat * 1)) (at'.toNat + n.toNat - at'.toNat) (.known (cap - at'.toNat))) (if true then (ys.drop at'.toNat).take n.toNat else []) := by
        rw [if_pos rfl, Nat.add_sub_cancel_left]
        by_cases n0 : n.toNat = 0
        · rw [n0]; exact .inl ⟨_, _, rfl, rfl⟩
        · have e := cut_bytes (bs := ys) (junk := []) (L := at'.toNat) (n := n.toNat) (by omega)
          rw [List.append_nil] at e
          rw [if_neg (show ¬ cap = at'.toNat by omega), Nat.zero_add, Nat.mul_one]
          exact .inr ⟨sn, at'.toNat, n.toNat, _, _, _, _, rfl, by simp; omega, by omega, hg8, e⟩
      repeat' (first
        | refine WpC.seq ?_
        | refine WpC.region ?_
        | refine WpC.drawn ?_
        | refine WpC.skip ?_
        | refine WpC.block ?_
        | refine WpC.exit ?_
        | refine WpC.ret ?_
        | refine WpO.nil ?_
        | refine WpO.cons rfl rfl (WpX.pure (fun _ => rfl) ⟨nolog, ?_⟩)
        | refine WpO.skip rfl rfl ?_
        | refine WpL.cons rfl rfl (WpX.pure (fun _ => rfl) ⟨nolog, ?_⟩)
        | refine WpL.skip rfl rfl ?_
        | refine seqQ_normal ?_
        | refine seqQ_ret ?_
        | refine seqQ_exit ?_
        | refine blkQ_normal ?_
        | refine blkQ_ret ?_
        | refine blkQ_out rfl ?_
        | refine blkQ_by rfl ?_)
      refine WpO.cons rfl rfl (call_at rfl (same_ok hb8 hb2 hr) (fun x hx => .inr (hft x hx)) (by omega) fun v h10 c10 hc10 hfr10 hq => ?_)
      obtain ⟨rfl, e10, _⟩ := hq
      have e10 := e10.symm
      subst e10
      repeat' (first
        | refine WpC.seq ?_
        | refine WpC.region ?_
        | refine WpC.drawn ?_
        | refine WpC.skip ?_
        | refine WpC.block ?_
        | refine WpC.exit ?_
        | refine WpC.ret ?_
        | refine WpO.nil ?_
        | refine WpO.cons rfl rfl (WpX.pure (fun _ => rfl) ⟨nolog, ?_⟩)
        | refine WpO.skip rfl rfl ?_
        | refine WpL.cons rfl rfl (WpX.pure (fun _ => rfl) ⟨nolog, ?_⟩)
        | refine WpL.skip rfl rfl ?_
        | refine seqQ_normal ?_
        | refine seqQ_ret ?_
        | refine seqQ_exit ?_
        | refine blkQ_normal ?_
        | refine blkQ_ret ?_
        | refine blkQ_out rfl ?_
        | refine blkQ_by rfl ?_
        | refine WpO.cons rfl rfl (op_sliceK (k := 1) rfl rfl rfl rfl rfl hlb hub (by omega) (by omega) ⟨(by simp [InL, Acc.name, rowName] <;> omega), ?_⟩)
        | refine WpL.cons rfl rfl (op_sliceK (k := 1) rfl rfl rfl rfl rfl hlb hub (by omega) (by omega) ⟨(by simp [InL, Acc.name, rowName] <;> omega), ?_⟩))
      refine WpO.cons rfl rfl (call_at rfl (same_ok hb8 hsl hr) (fun x hx => by
        rcases List.mem_append.1 hx with e | e
        · exact .inr (hft x (List.mem_append_left _ e))
        · exact .inl (by simpa [rowName] using e)) (by omega) fun v h12 c12 hc12 hfr12 hq => ?_)
      obtain ⟨rfl, _, _⟩ := hq
      repeat' (first
        | refine WpC.seq ?_
        | refine WpC.region ?_
        | refine WpC.drawn ?_
        | refine WpC.skip ?_
        | refine WpC.block ?_
        | refine WpC.exit ?_
        | refine WpC.ret ?_
        | refine WpO.nil ?_
        | refine WpO.cons rfl rfl (WpX.pure (fun _ => rfl) ⟨nolog, ?_⟩)
        | refine WpO.skip rfl rfl ?_
        | refine WpL.cons rfl rfl (WpX.pure (fun _ => rfl) ⟨nolog, ?_⟩)
        | refine WpL.skip rfl rfl ?_
        | refine seqQ_normal ?_
        | refine seqQ_ret ?_
        | refine seqQ_exit ?_
        | refine blkQ_normal ?_
        | refine blkQ_ret ?_
        | refine blkQ_out rfl ?_
        | refine blkQ_by rfl ?_)
      refine WpC.cond rfl (fun hb => by cases hb) (fun _ => ?_)
      repeat' (first
        | refine WpC.seq ?_
        | refine WpC.region ?_
        | refine WpC.drawn ?_
        | refine WpC.skip ?_
        | refine WpC.block ?_
        | refine WpC.exit ?_
        | refine WpC.ret ?_
        | refine WpO.nil ?_
        | refine WpO.cons rfl rfl (WpX.pure (fun _ => rfl) ⟨nolog, ?_⟩)
        | refine WpO.skip rfl rfl ?_
        | refine WpL.cons rfl rfl (WpX.pure (fun _ => rfl) ⟨nolog, ?_⟩)
        | refine WpL.skip rfl rfl ?_
        | refine seqQ_normal ?_
        | refine seqQ_ret ?_
        | refine seqQ_exit ?_
        | refine blkQ_normal ?_
        | refine blkQ_ret ?_
        | refine blkQ_out rfl ?_
        | refine blkQ_by rfl ?_)
      refine WpO.cons rfl rfl (call_at rfl sawake_ok (by simp) (by omega) fun v h11 c11 hc11 hfr11 hq => ?_)
      subst hq
      repeat' (first
        | refine WpC.seq ?_
        | refine WpC.region ?_
        | refine WpC.drawn ?_
        | refine WpC.skip ?_
        | refine WpC.block ?_
        | refine WpC.exit ?_
        | refine WpC.ret ?_
        | refine WpO.nil ?_
        | refine WpO.cons rfl rfl (WpX.pure (fun _ => rfl) ⟨nolog, ?_⟩)
        | refine WpO.skip rfl rfl ?_
        | refine WpL.cons rfl rfl (WpX.pure (fun _ => rfl) ⟨nolog, ?_⟩)
        | refine WpL.skip rfl rfl ?_
        | refine seqQ_normal ?_
        | refine seqQ_ret ?_
        | refine seqQ_exit ?_
        | refine blkQ_normal ?_
        | refine blkQ_ret ?_
        | refine blkQ_out rfl ?_
        | refine blkQ_by rfl ?_)
      simp only [hge]
      repeat' (first
        | refine WpC.seq ?_
        | refine WpC.region ?_
        | refine WpC.drawn ?_
        | refine WpC.skip ?_
        | refine WpC.block ?_
        | refine WpC.exit ?_
        | refine WpC.ret ?_
        | refine WpO.nil ?_
        | refine WpO.cons rfl rfl (WpX.pure (fun _ => rfl) ⟨nolog, ?_⟩)
        | refine WpO.skip rfl rfl ?_
        | refine WpL.cons rfl rfl (WpX.pure (fun _ => rfl) ⟨nolog, ?_⟩)
        | refine WpL.skip rfl rfl ?_
        | refine seqQ_normal ?_
        | refine seqQ_ret ?_
        | refine seqQ_exit ?_
        | refine blkQ_normal ?_
        | refine blkQ_ret ?_
        | refine blkQ_out rfl ?_
        | refine blkQ_by rfl ?_
        | refine WpO.cons rfl rfl (op_len rfl rfl rfl ⟨(by simp [InL, Acc.name, rowName] <;> omega), ?_⟩)
        | refine WpL.cons rfl rfl (op_len rfl rfl rfl ⟨(by simp [InL, Acc.name, rowName] <;> omega), ?_⟩))
      simp only [hle]
      exact out_ret rfl rfl
end Go.Proofs.Ytempfmkicpifkaa
