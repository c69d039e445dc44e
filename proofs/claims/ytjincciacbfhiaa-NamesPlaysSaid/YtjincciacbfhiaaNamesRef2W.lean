/- The reference's registry: its methods. -/
import Derived.Test.YtjincciacbfhiaaNamesRefW
set_option linter.unusedVariables false
set_option linter.unusedSectionVars false
set_option linter.unusedSimpArgs false
set_option linter.unnecessarySimpa false
namespace Go.Proofs.Ytjincciacbfhiaa
open Go.Ab
set_option maxRecDepth 10000

structure RefAt (h : HH) (c q : Nat) (v : V) (L : List (Int × Int)) : Prop where
  obj : MapI.get h q = some (.cells true true [v])
  list : ListAt h c v L
  lq : q < c
  ne : ∀ n ∈ rowName v, n ≠ q
theorem ListAt.lt {h : HH} {c : Nat} {v : V} {L : List (Int × Int)} (r : ListAt h c v L) : ∀ n ∈ rowName v, n < c := fun n hn => by
  rcases r with ⟨rfl, _⟩ | ⟨s, rfl, h1, _, _⟩
  · cases hn
  · simp [rowName] at hn; subst hn; exact h1
theorem RefAt.keep {h h' : HH} {c c' q : Nat} {v : V} {L : List (Int × Int)} (r : RefAt h c q v L) (hc : c ≤ c') (e : ∀ n, n < c → n = q ∨ n ∈ rowName v → MapI.get h' n = MapI.get h n) : RefAt h' c' q v L :=
  ⟨by rw [e q r.lq (.inl rfl)]; exact r.obj, r.list.keep hc fun n hn hl => e n hl (.inr hn), Nat.lt_of_lt_of_le r.lq hc, r.ne⟩
def sw (L : List (Int × Int)) : List (Int × Int) := L.map fun p => (p.2, p.1)
/-- The list as the code indexes it. -/
theorem RefAt.shape {h : HH} {c q : Nat} {v : V} {L : List (Int × Int)} (r : RefAt h c q v L) : ∃ s cap, v = .slice s L.length cap ∧ (∀ i, i < L.length → cap = .upTo 2 ∧ ∃ n, s = some (n, 0) ∧ n < c ∧ MapI.get h n = some (.cells true true (flatI L))) := by
  rcases r.list with ⟨rfl, rfl⟩ | ⟨s, rfl, h1, h2, _⟩
  · exact ⟨none, .known 0, rfl, fun i hi => by simp at hi⟩
  · exact ⟨_, _, rfl, fun i hi => ⟨rfl, s, rfl, h1, h2⟩⟩
theorem sw_get {L : List (Int × Int)} {i : Nat} {q : Int × Int} (h : (sw L)[i]? = some q) : L[i]? = some (q.2, q.1) := by
  unfold sw at h
  rw [List.getElem?_map] at h
  cases hl : L[i]? with
  | none => rw [hl] at h; cases h
  | some x => rw [hl] at h; cases h; rfl

theorem rwhereis_ok {h : HH} {c q : Nat} {l : V} {L : List (Int × Int)} {name : Int} (r : RefAt h c q l L) (hlen : L.length ≤ 1000) :
    Does 16 [.ptr (some (q, 0)), I name] h c (q :: rowName l) fun v h' c' => v = .tuple [I ((L.lookup name).getD 0), .bool (L.lookup name).isSome] ∧ ∀ n, n < c → MapI.get h' n = MapI.get h n := by
  have hp := r.obj
  obtain ⟨s, cap, rfl, hs⟩ := r.shape
  refine does_of (enter (fn := Try.f16) Try.func16 rfl rfl (Nat.le_of_ble_eq_true rfl) ?_)
  repeat' (first
    | refine WpC.seq ?_
    | refine WpC.region ?_
    | refine WpC.drawn ?_
    | refine WpC.skip ?_
    | refine WpC.block ?_
    | refine WpC.exit ?_
    | refine WpC.ret ?_
    | refine WpO.nil ?_
    | refine WpO.cons rfl rfl (WpX.pure (fun _ => rfl) ⟨nolog, ?_⟩)
    | refine WpO.skip rfl rfl ?_
    | refine WpL.cons rfl rfl (WpX.pure (fun _ => rfl) ⟨nolog, ?_⟩)
    | refine WpL.skip rfl rfl ?_
    | refine seqQ_normal ?_
    | refine seqQ_ret ?_
    | refine seqQ_exit ?_
    | refine blkQ_normal ?_
    | refine blkQ_ret ?_
    | refine blkQ_out rfl ?_
    | refine blkQ_by rfl ?_
    | refine WpO.cons rfl rfl (op_load rfl rfl rfl hp rfl ⟨(by simp [InL, Acc.name, rowName] <;> omega), ?_⟩)
    | refine WpL.cons rfl rfl (op_load rfl rfl rfl hp rfl ⟨(by simp [InL, Acc.name, rowName] <;> omega), ?_⟩))
  refine WpO.cons rfl rfl (call_at rfl (take_ok r.list hlen) (fun n hn => .inl (List.mem_cons_of_mem _ hn)) (Nat.le_refl _) fun v h4 c4 hc4 hfr4 hq => ?_)
  obtain ⟨l', rfl, _, _, hk⟩ := hq
  repeat' (first
    | refine WpC.seq ?_
    | refine WpC.region ?_
    | refine WpC.drawn ?_
    | refine WpC.skip ?_
    | refine WpC.block ?_
    | refine WpC.exit ?_
    | refine WpC.ret ?_
    | refine WpO.nil ?_
    | refine WpO.cons rfl rfl (WpX.pure (fun _ => rfl) ⟨nolog, ?_⟩)
    | refine WpO.skip rfl rfl ?_
    | refine WpL.cons rfl rfl (WpX.pure (fun _ => rfl) ⟨nolog, ?_⟩)
    | refine WpL.skip rfl rfl ?_
    | refine seqQ_normal ?_
    | refine seqQ_ret ?_
    | refine seqQ_exit ?_
    | refine blkQ_normal ?_
    | refine blkQ_ret ?_
    | refine blkQ_out rfl ?_
    | refine blkQ_by rfl ?_)
  exact out_ret rfl ⟨rfl, hk⟩

theorem runregister_ok {h : HH} {c q : Nat} {l : V} {L : List (Int × Int)} {name : Int} (r : RefAt h c q l L) (hlen : L.length ≤ 1000) :
    Does 11 [.ptr (some (q, 0)), I name] h c (q :: rowName l) fun v h' c' => v = .bool (L.lookup name).isSome ∧ ∃ l', RefAt h' c' q l' (era name L) ∧ ∀ n ∈ rowName l', n ∈ rowName l ∨ c ≤ n := by
  have hp := r.obj
  have hne := r.ne
  have hlt := r.list.lt
  obtain ⟨s, cap, rfl, hs⟩ := r.shape
  refine does_of (enter (fn := Try.f11) Try.func11 rfl rfl (Nat.le_of_ble_eq_true rfl) ?_)
  repeat' (first
    | refine WpC.seq ?_
    | refine WpC.region ?_
    | refine WpC.drawn ?_
    | refine WpC.skip ?_
    | refine WpC.block ?_
    | refine WpC.exit ?_
    | refine WpC.ret ?_
    | refine WpO.nil ?_
    | refine WpO.cons rfl rfl (WpX.pure (fun _ => rfl) ⟨nolog, ?_⟩)
    | refine WpO.skip rfl rfl ?_
    | refine WpL.cons rfl rfl (WpX.pure (fun _ => rfl) ⟨nolog, ?_⟩)
    | refine WpL.skip rfl rfl ?_
    | refine seqQ_normal ?_
    | refine seqQ_ret ?_
    | refine seqQ_exit ?_
    | refine blkQ_normal ?_
    | refine blkQ_ret ?_
    | refine blkQ_out rfl ?_
    | refine blkQ_by rfl ?_
    | refine WpO.cons rfl rfl (op_load rfl rfl rfl hp rfl ⟨(by simp [InL, Acc.name, rowName] <;> omega), ?_⟩)
    | refine WpL.cons rfl rfl (op_load rfl rfl rfl hp rfl ⟨(by simp [InL, Acc.name, rowName] <;> omega), ?_⟩))
  refine WpO.cons rfl rfl (call_at rfl (take_ok r.list hlen) (fun n hn => .inl (List.mem_cons_of_mem _ hn)) (Nat.le_refl _) fun v h4 c4 hc4 hfr4 hq => ?_)
  obtain ⟨l', rfl, hl', hn', hk⟩ := hq
  have hp4 : MapI.get h4 q = some (.cells true true [.slice s L.length cap]) := by rw [hk q r.lq]; exact hp
  have hone : cellsV l' = [l'] ∧ one1 l' = true := by
    rcases hl' with ⟨rfl, _⟩ | ⟨s, rfl, _⟩ <;> exact ⟨rfl, rfl⟩
  repeat' (first
    | refine WpC.seq ?_
    | refine WpC.region ?_
    | refine WpC.drawn ?_
    | refine WpC.skip ?_
    | refine WpC.block ?_
    | refine WpC.exit ?_
    | refine WpC.ret ?_
    | refine WpO.nil ?_
    | refine WpO.cons rfl rfl (WpX.pure (fun _ => rfl) ⟨nolog, ?_⟩)
    | refine WpO.skip rfl rfl ?_
    | refine WpL.cons rfl rfl (WpX.pure (fun _ => rfl) ⟨nolog, ?_⟩)
    | refine WpL.skip rfl rfl ?_
    | refine seqQ_normal ?_
    | refine seqQ_ret ?_
    | refine seqQ_exit ?_
    | refine blkQ_normal ?_
    | refine blkQ_ret ?_
    | refine blkQ_out rfl ?_
    | refine blkQ_by rfl ?_
    | refine WpO.cons rfl rfl (op_store rfl rfl rfl (by rw [hone.1]; rfl) hp4 (Nat.le_refl _) (by rw [hone.1]; simp [hone.2]) ⟨(by simp [InL, Acc.name, rowName] <;> omega), ?_⟩)
    | refine WpL.cons rfl rfl (op_store rfl rfl rfl (by rw [hone.1]; rfl) hp4 (Nat.le_refl _) (by rw [hone.1]; simp [hone.2]) ⟨(by simp [InL, Acc.name, rowName] <;> omega), ?_⟩))
  have hq4 : ∀ n ∈ rowName l', n ≠ q := fun n hn e => by
    subst e
    rcases hn' _ hn with h1 | h1
    · exact hne _ h1 rfl
    · have := r.lq; omega
  refine out_ret rfl ⟨rfl, l', ⟨?_, hl'.keep (Nat.le_refl _) fun n hn hl => MapI.get_ne _ _ _ _ (Ne.symm (hq4 n hn)), by have := r.lq; omega, hq4⟩, hn'⟩
  rw [MapI.get_same, hone.1]
  rfl

theorem rname_ok {h : HH} {c q : Nat} {l : V} {L : List (Int × Int)} {pid : Int} (r : RefAt h c q l L) (hlen : L.length ≤ 1000) :
    Does 18 [.ptr (some (q, 0)), I pid] h c (q :: rowName l) fun v h' c' => v = .tuple [I (((sw L).lookup pid).getD 0), .bool ((sw L).lookup pid).isSome] ∧ h' = h ∧ c' = c := by
  have hp := r.obj
  obtain ⟨s, cap, rfl, hs⟩ := r.shape
  refine does_of (enter (fn := Try.f18) Try.func18 rfl rfl (Nat.le_of_ble_eq_true rfl) ?_)
  repeat' (first
    | refine WpC.seq ?_
    | refine WpC.region ?_
    | refine WpC.drawn ?_
    | refine WpC.skip ?_
    | refine WpC.block ?_
    | refine WpC.exit ?_
    | refine WpC.ret ?_
    | refine WpO.nil ?_
    | refine WpO.cons rfl rfl (WpX.pure (fun _ => rfl) ⟨nolog, ?_⟩)
    | refine WpO.skip rfl rfl ?_
    | refine WpL.cons rfl rfl (WpX.pure (fun _ => rfl) ⟨nolog, ?_⟩)
    | refine WpL.skip rfl rfl ?_
    | refine seqQ_normal ?_
    | refine seqQ_ret ?_
    | refine seqQ_exit ?_
    | refine blkQ_normal ?_
    | refine blkQ_ret ?_
    | refine blkQ_out rfl ?_
    | refine blkQ_by rfl ?_)
  refine WpC.loop ?_
  refine WpLoop.ind (X := Nat) (fun i e h' c' => (∃ b0, e = MapI.set (MapI.set (MapI.set b0 0 (.ptr (some (q, 0)))) 1 (I pid)) 6 (I i)) ∧ i ≤ L.length ∧ (∀ j p, j < i → L[j]? = some p → p.2 ≠ pid) ∧ h' = h ∧ c' = c) (fun i => L.length - i) ?_ 0 _ _ _ ⟨set3 rfl rfl rfl, Nat.zero_le _, fun j q hj => by omega, rfl, rfl⟩
  rintro i e h' c' ⟨⟨b0, rfl⟩, hi, hb, rfl, rfl⟩
  repeat' (first
    | refine WpC.seq ?_
    | refine WpC.region ?_
    | refine WpC.drawn ?_
    | refine WpC.skip ?_
    | refine WpC.block ?_
    | refine WpC.exit ?_
    | refine WpC.ret ?_
    | refine WpO.nil ?_
    | refine WpO.cons rfl rfl (WpX.pure (fun _ => rfl) ⟨nolog, ?_⟩)
    | refine WpO.skip rfl rfl ?_
    | refine WpL.cons rfl rfl (WpX.pure (fun _ => rfl) ⟨nolog, ?_⟩)
    | refine WpL.skip rfl rfl ?_
    | refine seqQ_normal ?_
    | refine seqQ_ret ?_
    | refine seqQ_exit ?_
    | refine blkQ_normal ?_
    | refine blkQ_ret ?_
    | refine blkQ_out rfl ?_
    | refine blkQ_by rfl ?_
    | refine WpO.cons rfl rfl (op_load rfl rfl rfl hp rfl ⟨(by simp [InL, Acc.name, rowName] <;> omega), ?_⟩)
    | refine WpL.cons rfl rfl (op_load rfl rfl rfl hp rfl ⟨(by simp [InL, Acc.name, rowName] <;> omega), ?_⟩)
    | refine WpO.cons rfl rfl (op_len rfl rfl rfl ⟨(by simp [InL, Acc.name, rowName] <;> omega), ?_⟩)
    | refine WpL.cons rfl rfl (op_len rfl rfl rfl ⟨(by simp [InL, Acc.name, rowName] <;> omega), ?_⟩))
  refine WpC.cond rfl (fun hlt => ?_) (fun hge => ?_)
  case refine_2 =>
    have hge : L.length ≤ i := by simpa using hge
    repeat' (first
      | refine WpC.seq ?_
      | refine WpC.region ?_
      | refine WpC.drawn ?_
      | refine WpC.skip ?_
      | refine WpC.block ?_
      | refine WpC.exit ?_
      | refine WpC.ret ?_
      | refine WpO.nil ?_
      | refine WpO.cons rfl rfl (WpX.pure (fun _ => rfl) ⟨nolog, ?_⟩)
      | refine WpO.skip rfl rfl ?_
      | refine WpL.cons rfl rfl (WpX.pure (fun _ => rfl) ⟨nolog, ?_⟩)
      | refine WpL.skip rfl rfl ?_
      | refine seqQ_normal ?_
      | refine seqQ_ret ?_
      | refine seqQ_exit ?_
      | refine blkQ_normal ?_
      | refine blkQ_ret ?_
      | refine blkQ_out rfl ?_
      | refine blkQ_by rfl ?_)
    have hno : (sw L).lookup pid = none := none_at fun j p hj hp => hb j (p.2, p.1) (by simp [sw] at hj; omega) (sw_get hp)
    exact out_ret rfl ⟨by rw [hno]; rfl, rfl, rfl⟩
  have hlt : i < L.length := by simpa using hlt
  obtain ⟨rfl, sn, rfl, hsn, hg⟩ := hs i hlt
  obtain ⟨⟨z0, z1⟩, hz⟩ : ∃ z, L[i]? = some z := ⟨_, List.getElem?_eq_getElem hlt⟩
  obtain ⟨hz0, hz1⟩ := nth_flatI hz
  have hz0 : nth (flatI L) (0 + ((i : Nat) : Int).toNat * 2 + 0) = some (I z0) := by
    have : 0 + ((i : Nat) : Int).toNat * 2 + 0 = i * 2 := by simp
    rw [this]; exact hz0
  have hz1 : nth (flatI L) (0 + ((i : Nat) : Int).toNat * 2 + 1) = some (I z1) := by
    have : 0 + ((i : Nat) : Int).toNat * 2 + 1 = i * 2 + 1 := by simp
    rw [this]; exact hz1
  have hw1 : IntKind.i64.wrap ((i : Int) + 1) = ((i + 1 : Nat) : Int) := by rw [Go.IntWalk.i64_in _ (by omega)]; omega
  repeat' (first
    | refine WpC.seq ?_
    | refine WpC.region ?_
    | refine WpC.drawn ?_
    | refine WpC.skip ?_
    | refine WpC.block ?_
    | refine WpC.exit ?_
    | refine WpC.ret ?_
    | refine WpO.nil ?_
    | refine WpO.cons rfl rfl (WpX.pure (fun _ => rfl) ⟨nolog, ?_⟩)
    | refine WpO.skip rfl rfl ?_
    | refine WpL.cons rfl rfl (WpX.pure (fun _ => rfl) ⟨nolog, ?_⟩)
    | refine WpL.skip rfl rfl ?_
    | refine seqQ_normal ?_
    | refine seqQ_ret ?_
    | refine seqQ_exit ?_
    | refine blkQ_normal ?_
    | refine blkQ_ret ?_
    | refine blkQ_out rfl ?_
    | refine blkQ_by rfl ?_
    | refine WpO.cons rfl rfl (op_load rfl rfl rfl hp rfl ⟨(by simp [InL, Acc.name, rowName] <;> omega), ?_⟩)
    | refine WpL.cons rfl rfl (op_load rfl rfl rfl hp rfl ⟨(by simp [InL, Acc.name, rowName] <;> omega), ?_⟩)
    | refine WpO.cons rfl rfl (op_indexAddr rfl rfl rfl rfl ⟨by omega, by omega⟩ ⟨(by simp [InL, Acc.name, rowName] <;> omega), ?_⟩)
    | refine WpL.cons rfl rfl (op_indexAddr rfl rfl rfl rfl ⟨by omega, by omega⟩ ⟨(by simp [InL, Acc.name, rowName] <;> omega), ?_⟩)
    | refine WpO.cons rfl rfl (op_load rfl rfl rfl hg hz0 ⟨(by simp [InL, Acc.name, rowName] <;> omega), ?_⟩)
    | refine WpL.cons rfl rfl (op_load rfl rfl rfl hg hz0 ⟨(by simp [InL, Acc.name, rowName] <;> omega), ?_⟩)
    | refine WpO.cons rfl rfl (op_load rfl rfl rfl hg hz1 ⟨(by simp [InL, Acc.name, rowName] <;> omega), ?_⟩)
    | refine WpL.cons rfl rfl (op_load rfl rfl rfl hg hz1 ⟨(by simp [InL, Acc.name, rowName] <;> omega), ?_⟩))
  refine WpC.cond rfl (fun heq => ?_) (fun hne => ?_)
  case refine_2 =>
    have hne : z1 ≠ pid := by simpa using hne
    repeat' (first
      | refine WpC.seq ?_
      | refine WpC.region ?_
      | refine WpC.drawn ?_
      | refine WpC.skip ?_
      | refine WpC.block ?_
      | refine WpC.exit ?_
      | refine WpC.ret ?_
      | refine WpO.nil ?_
      | refine WpO.cons rfl rfl (WpX.pure (fun _ => rfl) ⟨nolog, ?_⟩)
      | refine WpO.skip rfl rfl ?_
      | refine WpL.cons rfl rfl (WpX.pure (fun _ => rfl) ⟨nolog, ?_⟩)
      | refine WpL.skip rfl rfl ?_
      | refine seqQ_normal ?_
      | refine seqQ_ret ?_
      | refine seqQ_exit ?_
      | refine blkQ_normal ?_
      | refine blkQ_ret ?_
      | refine blkQ_out rfl ?_
      | refine blkQ_by rfl ?_)
    refine ⟨i + 1, by omega, ?_, by omega, fun j q hj hq => ?_, rfl, rfl⟩
    · rw [hw1]
      exact set3 rfl rfl rfl
    · by_cases e : j = i
      · subst e; rw [hz] at hq; cases hq; exact hne
      · exact hb j q (by omega) hq
  have heq : z1 = pid := by simpa using heq
  subst heq
  repeat' (first
    | refine WpC.seq ?_
    | refine WpC.region ?_
    | refine WpC.drawn ?_
    | refine WpC.skip ?_
    | refine WpC.block ?_
    | refine WpC.exit ?_
    | refine WpC.ret ?_
    | refine WpO.nil ?_
    | refine WpO.cons rfl rfl (WpX.pure (fun _ => rfl) ⟨nolog, ?_⟩)
    | refine WpO.skip rfl rfl ?_
    | refine WpL.cons rfl rfl (WpX.pure (fun _ => rfl) ⟨nolog, ?_⟩)
    | refine WpL.skip rfl rfl ?_
    | refine seqQ_normal ?_
    | refine seqQ_ret ?_
    | refine seqQ_exit ?_
    | refine blkQ_normal ?_
    | refine blkQ_ret ?_
    | refine blkQ_out rfl ?_
    | refine blkQ_by rfl ?_
    | refine WpO.cons rfl rfl (op_load rfl rfl rfl hp rfl ⟨(by simp [InL, Acc.name, rowName] <;> omega), ?_⟩)
    | refine WpL.cons rfl rfl (op_load rfl rfl rfl hp rfl ⟨(by simp [InL, Acc.name, rowName] <;> omega), ?_⟩)
    | refine WpO.cons rfl rfl (op_indexAddr rfl rfl rfl rfl ⟨by omega, by omega⟩ ⟨(by simp [InL, Acc.name, rowName] <;> omega), ?_⟩)
    | refine WpL.cons rfl rfl (op_indexAddr rfl rfl rfl rfl ⟨by omega, by omega⟩ ⟨(by simp [InL, Acc.name, rowName] <;> omega), ?_⟩)
    | refine WpO.cons rfl rfl (op_load rfl rfl rfl hg hz0 ⟨(by simp [InL, Acc.name, rowName] <;> omega), ?_⟩)
    | refine WpL.cons rfl rfl (op_load rfl rfl rfl hg hz0 ⟨(by simp [InL, Acc.name, rowName] <;> omega), ?_⟩)
    | refine WpO.cons rfl rfl (op_load rfl rfl rfl hg hz1 ⟨(by simp [InL, Acc.name, rowName] <;> omega), ?_⟩)
    | refine WpL.cons rfl rfl (op_load rfl rfl rfl hg hz1 ⟨(by simp [InL, Acc.name, rowName] <;> omega), ?_⟩))
  have hlk := (split_at (L := sw L) (k := z1) (i := i) (p := z0) (by simp [sw, hz]) fun j p hj hp => hb j (p.2, p.1) hj (sw_get hp)).1
  exact out_ret rfl ⟨by rw [hlk]; rfl, rfl, rfl⟩

theorem rgone_ok {h : HH} {c q : Nat} {l : V} {L : List (Int × Int)} {pid : Int} (r : RefAt h c q l L) (hlen : L.length ≤ 1000) :
    Does 13 [.ptr (some (q, 0)), I pid] h c (q :: rowName l) fun v h' c' => ((sw L).lookup pid = none ∧ v = .bool false ∧ h' = h ∧ c' = c) ∨
      ∃ name, (sw L).lookup pid = some name ∧ v = .bool (L.lookup name).isSome ∧ ∃ l', RefAt h' c' q l' (era name L) ∧ ∀ n ∈ rowName l', n ∈ rowName l ∨ c ≤ n := by
  refine does_of (enter (fn := Try.f13) Try.func13 rfl rfl (Nat.le_of_ble_eq_true rfl) ?_)
  repeat' (first
    | refine WpC.seq ?_
    | refine WpC.region ?_
    | refine WpC.drawn ?_
    | refine WpC.skip ?_
    | refine WpC.block ?_
    | refine WpC.exit ?_
    | refine WpC.ret ?_
    | refine WpO.nil ?_
    | refine WpO.cons rfl rfl (WpX.pure (fun _ => rfl) ⟨nolog, ?_⟩)
    | refine WpO.skip rfl rfl ?_
    | refine WpL.cons rfl rfl (WpX.pure (fun _ => rfl) ⟨nolog, ?_⟩)
    | refine WpL.skip rfl rfl ?_
    | refine seqQ_normal ?_
    | refine seqQ_ret ?_
    | refine seqQ_exit ?_
    | refine blkQ_normal ?_
    | refine blkQ_ret ?_
    | refine blkQ_out rfl ?_
    | refine blkQ_by rfl ?_)
  refine WpO.cons rfl rfl (call_at rfl (rname_ok (pid := pid) r hlen) (fun n hn => .inl hn) (Nat.le_refl _) fun v h4 c4 hc4 hfr4 hq => ?_)
  obtain ⟨rfl, rfl, rfl⟩ := hq
  cases ho : (sw L).lookup pid with
  | none =>
    repeat' (first
      | refine WpC.seq ?_
      | refine WpC.region ?_
      | refine WpC.drawn ?_
      | refine WpC.skip ?_
      | refine WpC.block ?_
      | refine WpC.exit ?_
      | refine WpC.ret ?_
      | refine WpO.nil ?_
      | refine WpO.cons rfl rfl (WpX.pure (fun _ => rfl) ⟨nolog, ?_⟩)
      | refine WpO.skip rfl rfl ?_
      | refine WpL.cons rfl rfl (WpX.pure (fun _ => rfl) ⟨nolog, ?_⟩)
      | refine WpL.skip rfl rfl ?_
      | refine seqQ_normal ?_
      | refine seqQ_ret ?_
      | refine seqQ_exit ?_
      | refine blkQ_normal ?_
      | refine blkQ_ret ?_
      | refine blkQ_out rfl ?_
      | refine blkQ_by rfl ?_)
    exact out_ret rfl (.inl ⟨rfl, rfl, rfl, rfl⟩)
  | some name =>
    repeat' (first
      | refine WpC.seq ?_
      | refine WpC.region ?_
      | refine WpC.drawn ?_
      | refine WpC.skip ?_
      | refine WpC.block ?_
      | refine WpC.exit ?_
      | refine WpC.ret ?_
      | refine WpO.nil ?_
      | refine WpO.cons rfl rfl (WpX.pure (fun _ => rfl) ⟨nolog, ?_⟩)
      | refine WpO.skip rfl rfl ?_
      | refine WpL.cons rfl rfl (WpX.pure (fun _ => rfl) ⟨nolog, ?_⟩)
      | refine WpL.skip rfl rfl ?_
      | refine seqQ_normal ?_
      | refine seqQ_ret ?_
      | refine seqQ_exit ?_
      | refine blkQ_normal ?_
      | refine blkQ_ret ?_
      | refine blkQ_out rfl ?_
      | refine blkQ_by rfl ?_)
    refine WpO.cons rfl rfl (call_at rfl (runregister_ok (name := name) r hlen) (fun n hn => .inl hn) (Nat.le_refl _) fun v h5 c5 hc5 hfr5 hq => ?_)
    obtain ⟨rfl, l', r', hn'⟩ := hq
    repeat' (first
      | refine WpC.seq ?_
      | refine WpC.region ?_
      | refine WpC.drawn ?_
      | refine WpC.skip ?_
      | refine WpC.block ?_
      | refine WpC.exit ?_
      | refine WpC.ret ?_
      | refine WpO.nil ?_
      | refine WpO.cons rfl rfl (WpX.pure (fun _ => rfl) ⟨nolog, ?_⟩)
      | refine WpO.skip rfl rfl ?_
      | refine WpL.cons rfl rfl (WpX.pure (fun _ => rfl) ⟨nolog, ?_⟩)
      | refine WpL.skip rfl rfl ?_
      | refine seqQ_normal ?_
      | refine seqQ_ret ?_
      | refine seqQ_exit ?_
      | refine blkQ_normal ?_
      | refine blkQ_ret ?_
      | refine blkQ_out rfl ?_
      | refine blkQ_by rfl ?_)
    exact out_ret rfl (.inr ⟨name, rfl, rfl, l', r', hn'⟩)

theorem rregister_ok {h : HH} {c q : Nat} {l : V} {L : List (Int × Int)} {name pid : Int} (r : RefAt h c q l L) (hlen : L.length ≤ 1000) :
    Does 9 [.ptr (some (q, 0)), I name, I pid] h c (q :: rowName l) fun v h' c' => (((L.lookup name).isSome = true ∨ ((sw L).lookup pid).isSome = true) ∧ v = .bool false ∧ h' = h ∧ c' = c) ∨
      (L.lookup name = none ∧ (sw L).lookup pid = none ∧ v = .bool true ∧ ∃ l', RefAt h' c' q l' (L ++ [(name, pid)]) ∧ ∀ n ∈ rowName l', n ∈ rowName l ∨ c ≤ n) := by
  have hp := r.obj
  have hne := r.ne
  have hlq := r.lq
  obtain ⟨s, cap, rfl, hs⟩ := r.shape
  refine does_of (enter (fn := Try.f9) Try.func9 rfl rfl (Nat.le_of_ble_eq_true rfl) ?_)
  repeat' (first
    | refine WpC.seq ?_
    | refine WpC.region ?_
    | refine WpC.drawn ?_
    | refine WpC.skip ?_
    | refine WpC.block ?_
    | refine WpC.exit ?_
    | refine WpC.ret ?_
    | refine WpO.nil ?_
    | refine WpO.cons rfl rfl (WpX.pure (fun _ => rfl) ⟨nolog, ?_⟩)
    | refine WpO.skip rfl rfl ?_
    | refine WpL.cons rfl rfl (WpX.pure (fun _ => rfl) ⟨nolog, ?_⟩)
    | refine WpL.skip rfl rfl ?_
    | refine seqQ_normal ?_
    | refine seqQ_ret ?_
    | refine seqQ_exit ?_
    | refine blkQ_normal ?_
    | refine blkQ_ret ?_
    | refine blkQ_out rfl ?_
    | refine blkQ_by rfl ?_)
  refine WpC.loop ?_
  refine WpLoop.ind (X := Nat) (fun i e h' c' => (∃ b0, e = MapI.set (MapI.set (MapI.set (MapI.set b0 0 (.ptr (some (q, 0)))) 1 (I name)) 2 (I pid)) 7 (I i)) ∧ i ≤ L.length ∧ (∀ j p, j < i → L[j]? = some p → p.1 ≠ name ∧ p.2 ≠ pid) ∧ h' = h ∧ c' = c) (fun i => L.length - i) ?_ 0 _ _ _ ⟨set4 rfl rfl rfl rfl, Nat.zero_le _, fun j q hj => by omega, rfl, rfl⟩
  rintro i e h' c' ⟨⟨b0, rfl⟩, hi, hb, rfl, rfl⟩
  repeat' (first
    | refine WpC.seq ?_
    | refine WpC.region ?_
    | refine WpC.drawn ?_
    | refine WpC.skip ?_
    | refine WpC.block ?_
    | refine WpC.exit ?_
    | refine WpC.ret ?_
    | refine WpO.nil ?_
    | refine WpO.cons rfl rfl (WpX.pure (fun _ => rfl) ⟨nolog, ?_⟩)
    | refine WpO.skip rfl rfl ?_
    | refine WpL.cons rfl rfl (WpX.pure (fun _ => rfl) ⟨nolog, ?_⟩)
    | refine WpL.skip rfl rfl ?_
    | refine seqQ_normal ?_
    | refine seqQ_ret ?_
    | refine seqQ_exit ?_
    | refine blkQ_normal ?_
    | refine blkQ_ret ?_
    | refine blkQ_out rfl ?_
    | refine blkQ_by rfl ?_
    | refine WpO.cons rfl rfl (op_load rfl rfl rfl hp rfl ⟨(by simp [InL, Acc.name, rowName] <;> omega), ?_⟩)
    | refine WpL.cons rfl rfl (op_load rfl rfl rfl hp rfl ⟨(by simp [InL, Acc.name, rowName] <;> omega), ?_⟩)
    | refine WpO.cons rfl rfl (op_len rfl rfl rfl ⟨(by simp [InL, Acc.name, rowName] <;> omega), ?_⟩)
    | refine WpL.cons rfl rfl (op_len rfl rfl rfl ⟨(by simp [InL, Acc.name, rowName] <;> omega), ?_⟩))
  refine WpC.cond rfl (fun hlt => ?_) (fun hge => ?_)
  case refine_2 =>
    have hge : L.length ≤ i := by simpa using hge
    have hno : (sw L).lookup pid = none := none_at fun j p hj hp => (hb j (p.2, p.1) (by simp [sw] at hj; omega) (sw_get hp)).2
    have hno' : L.lookup name = none := none_at fun j p hj hp => (hb j p (by omega) hp).1
    have b1 : MapI.get (MapI.set h' c' (.cells true true [I name, I pid])) c' = some (.cells true true [I name, I pid]) := MapI.get_same _ _ _
    have b2 : MapI.get (MapI.set h' c' (.cells true true [I name, I pid])) q = some (.cells true true [.slice s L.length cap]) := by rw [MapI.get_ne _ _ _ _ (by omega)]; exact hp
    by_cases h0 : L.length = 0
    · have hL : L = [] := List.length_eq_zero_iff.1 h0
      subst hL
      obtain ⟨rfl, rfl⟩ : s = none ∧ cap = .known 0 := by
        rcases r.list with ⟨e1, _⟩ | ⟨n, e1, e2, e3, e4⟩
        · cases e1; exact ⟨rfl, rfl⟩
        · exact absurd rfl e4
      have b3 : ∀ x : AObj, MapI.get (MapI.set (MapI.set h' c' (.cells true true [I name, I pid])) (c' + 1) x) q = some (.cells true true [.slice none 0 (.known 0)]) := fun x => by rw [MapI.get_ne _ _ _ _ (by omega)]; exact b2
      repeat' (first
        | refine WpC.seq ?_
        | refine WpC.region ?_
        | refine WpC.drawn ?_
        | refine WpC.skip ?_
        | refine WpC.block ?_
        | refine WpC.exit ?_
        | refine WpC.ret ?_
        | refine WpO.nil ?_
        | refine WpO.cons rfl rfl (WpX.pure (fun _ => rfl) ⟨nolog, ?_⟩)
        | refine WpO.skip rfl rfl ?_
        | refine WpL.cons rfl rfl (WpX.pure (fun _ => rfl) ⟨nolog, ?_⟩)
        | refine WpL.skip rfl rfl ?_
        | refine seqQ_normal ?_
        | refine seqQ_ret ?_
        | refine seqQ_exit ?_
        | refine blkQ_normal ?_
        | refine blkQ_ret ?_
        | refine blkQ_out rfl ?_
        | refine blkQ_by rfl ?_
        | refine WpO.cons rfl rfl (op_load rfl rfl rfl hp rfl ⟨(by simp [InL, Acc.name, rowName] <;> omega), ?_⟩)
        | refine WpL.cons rfl rfl (op_load rfl rfl rfl hp rfl ⟨(by simp [InL, Acc.name, rowName] <;> omega), ?_⟩)
        | refine WpO.cons rfl rfl (op_buildSlice rfl rfl rfl rfl (by decide) rfl ⟨(by simp [InL, Acc.name, rowName] <;> omega), ?_⟩)
        | refine WpL.cons rfl rfl (op_buildSlice rfl rfl rfl rfl (by decide) rfl ⟨(by simp [InL, Acc.name, rowName] <;> omega), ?_⟩)
        | refine WpO.cons rfl rfl (op_append rfl rfl (append_nil elT rfl (by omega) (by omega) b1 rfl) ⟨(by simp [InL, Acc.name, rowName] <;> omega), ?_⟩)
        | refine WpL.cons rfl rfl (op_append rfl rfl (append_nil elT rfl (by omega) (by omega) b1 rfl) ⟨(by simp [InL, Acc.name, rowName] <;> omega), ?_⟩)
        | refine WpO.cons rfl rfl (op_store rfl rfl rfl rfl (b3 _) (Nat.le_refl _) rfl ⟨(by simp [InL, Acc.name, rowName] <;> omega), ?_⟩)
        | refine WpL.cons rfl rfl (op_store rfl rfl rfl rfl (b3 _) (Nat.le_refl _) rfl ⟨(by simp [InL, Acc.name, rowName] <;> omega), ?_⟩))
      refine out_ret rfl (.inr ⟨rfl, rfl, rfl, .slice (some (c' + 1, 0)) 1 (.upTo 2), ⟨MapI.get_same _ _ _, .inr ⟨c' + 1, rfl, by omega, ?_, by simp⟩, by omega, fun n hn => ?_⟩, fun n hn => ?_⟩)
      · rw [MapI.get_ne _ _ _ _ (by omega), MapI.get_same]; rfl
      · simp [rowName] at hn; omega
      · simp [rowName] at hn; omega
    · obtain ⟨rfl, sn, rfl, hsn, hg⟩ := hs 0 (by omega)
      have hsq : sn ≠ q := hne sn (by simp [rowName])
      have b4 : MapI.get (MapI.set h' c' (.cells true true [I name, I pid])) sn = some (.cells true true (flatI L)) := by rw [MapI.get_ne _ _ _ _ (by omega)]; exact hg
      have b3 : ∀ x y : AObj, MapI.get (MapI.set (MapI.set (MapI.set h' c' (.cells true true [I name, I pid])) sn x) (c' + 1) y) q = some (.cells true true [.slice (some (sn, 0)) L.length (.upTo 2)]) := fun x y => by rw [MapI.get_ne _ _ _ _ (by omega), MapI.get_ne _ _ _ _ hsq]; exact b2
      have hold : cut (flatI L) 0 (L.length * (1 + 1)) = some (flatI L) := by rw [show L.length * (1 + 1) = (flatI L).length from (flatI_length L).symm]; exact cut_all
      repeat' (first
        | refine WpC.seq ?_
        | refine WpC.region ?_
        | refine WpC.drawn ?_
        | refine WpC.skip ?_
        | refine WpC.block ?_
        | refine WpC.exit ?_
        | refine WpC.ret ?_
        | refine WpO.nil ?_
        | refine WpO.cons rfl rfl (WpX.pure (fun _ => rfl) ⟨nolog, ?_⟩)
        | refine WpO.skip rfl rfl ?_
        | refine WpL.cons rfl rfl (WpX.pure (fun _ => rfl) ⟨nolog, ?_⟩)
        | refine WpL.skip rfl rfl ?_
        | refine seqQ_normal ?_
        | refine seqQ_ret ?_
        | refine seqQ_exit ?_
        | refine blkQ_normal ?_
        | refine blkQ_ret ?_
        | refine blkQ_out rfl ?_
        | refine blkQ_by rfl ?_
        | refine WpO.cons rfl rfl (op_load rfl rfl rfl hp rfl ⟨(by simp [InL, Acc.name, rowName] <;> omega), ?_⟩)
        | refine WpL.cons rfl rfl (op_load rfl rfl rfl hp rfl ⟨(by simp [InL, Acc.name, rowName] <;> omega), ?_⟩)
        | refine WpO.cons rfl rfl (op_buildSlice rfl rfl rfl rfl (by decide) rfl ⟨(by simp [InL, Acc.name, rowName] <;> omega), ?_⟩)
        | refine WpL.cons rfl rfl (op_buildSlice rfl rfl rfl rfl (by decide) rfl ⟨(by simp [InL, Acc.name, rowName] <;> omega), ?_⟩)
        | refine WpO.cons rfl rfl (op_append rfl rfl (append_move elT rfl (by omega) (by omega) b1 rfl b4 (by rw [flatI_length]; omega) hold (by rw [List.all_append, flatI_one]; rfl)) ⟨(by simp [InL, Acc.name, rowName] <;> omega), ?_⟩)
        | refine WpL.cons rfl rfl (op_append rfl rfl (append_move elT rfl (by omega) (by omega) b1 rfl b4 (by rw [flatI_length]; omega) hold (by rw [List.all_append, flatI_one]; rfl)) ⟨(by simp [InL, Acc.name, rowName] <;> omega), ?_⟩)
        | refine WpO.cons rfl rfl (op_store rfl rfl rfl rfl (b3 _ _) (Nat.le_refl _) rfl ⟨(by simp [InL, Acc.name, rowName] <;> omega), ?_⟩)
        | refine WpL.cons rfl rfl (op_store rfl rfl rfl rfl (b3 _ _) (Nat.le_refl _) rfl ⟨(by simp [InL, Acc.name, rowName] <;> omega), ?_⟩))
      refine out_ret rfl (.inr ⟨hno', hno, rfl, .slice (some (c' + 1, 0)) (L.length + 1) (.upTo 2), ⟨MapI.get_same _ _ _, .inr ⟨c' + 1, by simp, by omega, ?_, by simp⟩, by omega, fun n hn => ?_⟩, fun n hn => ?_⟩)
      · rw [MapI.get_ne _ _ _ _ (by omega), MapI.get_same, flatI_append]; rfl
      · simp [rowName] at hn; omega
      · simp [rowName] at hn; omega
  have hlt : i < L.length := by simpa using hlt
  obtain ⟨rfl, sn, rfl, hsn, hg⟩ := hs i hlt
  obtain ⟨⟨z0, z1⟩, hz⟩ : ∃ z, L[i]? = some z := ⟨_, List.getElem?_eq_getElem hlt⟩
  obtain ⟨hz0, hz1⟩ := nth_flatI hz
  have hz0 : nth (flatI L) (0 + ((i : Nat) : Int).toNat * 2 + 0) = some (I z0) := by
    have : 0 + ((i : Nat) : Int).toNat * 2 + 0 = i * 2 := by simp
    rw [this]; exact hz0
  have hz1 : nth (flatI L) (0 + ((i : Nat) : Int).toNat * 2 + 1) = some (I z1) := by
    have : 0 + ((i : Nat) : Int).toNat * 2 + 1 = i * 2 + 1 := by simp
    rw [this]; exact hz1
  have hw1 : IntKind.i64.wrap ((i : Int) + 1) = ((i + 1 : Nat) : Int) := by rw [Go.IntWalk.i64_in _ (by omega)]; omega
  repeat' (first
    | refine WpC.seq ?_
    | refine WpC.region ?_
    | refine WpC.drawn ?_
    | refine WpC.skip ?_
    | refine WpC.block ?_
    | refine WpC.exit ?_
    | refine WpC.ret ?_
    | refine WpO.nil ?_
    | refine WpO.cons rfl rfl (WpX.pure (fun _ => rfl) ⟨nolog, ?_⟩)
    | refine WpO.skip rfl rfl ?_
    | refine WpL.cons rfl rfl (WpX.pure (fun _ => rfl) ⟨nolog, ?_⟩)
    | refine WpL.skip rfl rfl ?_
    | refine seqQ_normal ?_
    | refine seqQ_ret ?_
    | refine seqQ_exit ?_
    | refine blkQ_normal ?_
    | refine blkQ_ret ?_
    | refine blkQ_out rfl ?_
    | refine blkQ_by rfl ?_
    | refine WpO.cons rfl rfl (op_load rfl rfl rfl hp rfl ⟨(by simp [InL, Acc.name, rowName] <;> omega), ?_⟩)
    | refine WpL.cons rfl rfl (op_load rfl rfl rfl hp rfl ⟨(by simp [InL, Acc.name, rowName] <;> omega), ?_⟩)
    | refine WpO.cons rfl rfl (op_indexAddr rfl rfl rfl rfl ⟨by omega, by omega⟩ ⟨(by simp [InL, Acc.name, rowName] <;> omega), ?_⟩)
    | refine WpL.cons rfl rfl (op_indexAddr rfl rfl rfl rfl ⟨by omega, by omega⟩ ⟨(by simp [InL, Acc.name, rowName] <;> omega), ?_⟩)
    | refine WpO.cons rfl rfl (op_load rfl rfl rfl hg hz0 ⟨(by simp [InL, Acc.name, rowName] <;> omega), ?_⟩)
    | refine WpL.cons rfl rfl (op_load rfl rfl rfl hg hz0 ⟨(by simp [InL, Acc.name, rowName] <;> omega), ?_⟩)
    | refine WpO.cons rfl rfl (op_load rfl rfl rfl hg hz1 ⟨(by simp [InL, Acc.name, rowName] <;> omega), ?_⟩)
    | refine WpL.cons rfl rfl (op_load rfl rfl rfl hg hz1 ⟨(by simp [InL, Acc.name, rowName] <;> omega), ?_⟩))
  cases h0 : (z0 == name) with
  | true =>
    have h0' : z0 = name := by simpa using h0
    repeat' (first
      | refine WpC.seq ?_
      | refine WpC.region ?_
      | refine WpC.drawn ?_
      | refine WpC.skip ?_
      | refine WpC.block ?_
      | refine WpC.exit ?_
      | refine WpC.ret ?_
      | refine WpO.nil ?_
      | refine WpO.cons rfl rfl (WpX.pure (fun _ => rfl) ⟨nolog, ?_⟩)
      | refine WpO.skip rfl rfl ?_
      | refine WpL.cons rfl rfl (WpX.pure (fun _ => rfl) ⟨nolog, ?_⟩)
      | refine WpL.skip rfl rfl ?_
      | refine seqQ_normal ?_
      | refine seqQ_ret ?_
      | refine seqQ_exit ?_
      | refine blkQ_normal ?_
      | refine blkQ_ret ?_
      | refine blkQ_out rfl ?_
      | refine blkQ_by rfl ?_
      | refine WpO.cons rfl rfl (op_load rfl rfl rfl hp rfl ⟨(by simp [InL, Acc.name, rowName] <;> omega), ?_⟩)
      | refine WpL.cons rfl rfl (op_load rfl rfl rfl hp rfl ⟨(by simp [InL, Acc.name, rowName] <;> omega), ?_⟩)
      | refine WpO.cons rfl rfl (op_indexAddr rfl rfl rfl rfl ⟨by omega, by omega⟩ ⟨(by simp [InL, Acc.name, rowName] <;> omega), ?_⟩)
      | refine WpL.cons rfl rfl (op_indexAddr rfl rfl rfl rfl ⟨by omega, by omega⟩ ⟨(by simp [InL, Acc.name, rowName] <;> omega), ?_⟩)
      | refine WpO.cons rfl rfl (op_load rfl rfl rfl hg hz0 ⟨(by simp [InL, Acc.name, rowName] <;> omega), ?_⟩)
      | refine WpL.cons rfl rfl (op_load rfl rfl rfl hg hz0 ⟨(by simp [InL, Acc.name, rowName] <;> omega), ?_⟩)
      | refine WpO.cons rfl rfl (op_load rfl rfl rfl hg hz1 ⟨(by simp [InL, Acc.name, rowName] <;> omega), ?_⟩)
      | refine WpL.cons rfl rfl (op_load rfl rfl rfl hg hz1 ⟨(by simp [InL, Acc.name, rowName] <;> omega), ?_⟩))
    refine WpC.cond rfl (fun _ => ?_) (fun hb => by cases hb)
    repeat' (first
      | refine WpC.seq ?_
      | refine WpC.region ?_
      | refine WpC.drawn ?_
      | refine WpC.skip ?_
      | refine WpC.block ?_
      | refine WpC.exit ?_
      | refine WpC.ret ?_
      | refine WpO.nil ?_
      | refine WpO.cons rfl rfl (WpX.pure (fun _ => rfl) ⟨nolog, ?_⟩)
      | refine WpO.skip rfl rfl ?_
      | refine WpL.cons rfl rfl (WpX.pure (fun _ => rfl) ⟨nolog, ?_⟩)
      | refine WpL.skip rfl rfl ?_
      | refine seqQ_normal ?_
      | refine seqQ_ret ?_
      | refine seqQ_exit ?_
      | refine blkQ_normal ?_
      | refine blkQ_ret ?_
      | refine blkQ_out rfl ?_
      | refine blkQ_by rfl ?_)
    have hlk := (split_at (L := L) (k := name) (i := i) (p := z1) (by rw [← h0']; exact hz) fun j p hj hp => (hb j p hj hp).1).1
    exact out_ret rfl (.inl ⟨.inl (by rw [hlk]; rfl), rfl, rfl, rfl⟩)
  | false =>
    repeat' (first
      | refine WpC.seq ?_
      | refine WpC.region ?_
      | refine WpC.drawn ?_
      | refine WpC.skip ?_
      | refine WpC.block ?_
      | refine WpC.exit ?_
      | refine WpC.ret ?_
      | refine WpO.nil ?_
      | refine WpO.cons rfl rfl (WpX.pure (fun _ => rfl) ⟨nolog, ?_⟩)
      | refine WpO.skip rfl rfl ?_
      | refine WpL.cons rfl rfl (WpX.pure (fun _ => rfl) ⟨nolog, ?_⟩)
      | refine WpL.skip rfl rfl ?_
      | refine seqQ_normal ?_
      | refine seqQ_ret ?_
      | refine seqQ_exit ?_
      | refine blkQ_normal ?_
      | refine blkQ_ret ?_
      | refine blkQ_out rfl ?_
      | refine blkQ_by rfl ?_
      | refine WpO.cons rfl rfl (op_load rfl rfl rfl hp rfl ⟨(by simp [InL, Acc.name, rowName] <;> omega), ?_⟩)
      | refine WpL.cons rfl rfl (op_load rfl rfl rfl hp rfl ⟨(by simp [InL, Acc.name, rowName] <;> omega), ?_⟩)
      | refine WpO.cons rfl rfl (op_indexAddr rfl rfl rfl rfl ⟨by omega, by omega⟩ ⟨(by simp [InL, Acc.name, rowName] <;> omega), ?_⟩)
      | refine WpL.cons rfl rfl (op_indexAddr rfl rfl rfl rfl ⟨by omega, by omega⟩ ⟨(by simp [InL, Acc.name, rowName] <;> omega), ?_⟩)
      | refine WpO.cons rfl rfl (op_load rfl rfl rfl hg hz0 ⟨(by simp [InL, Acc.name, rowName] <;> omega), ?_⟩)
      | refine WpL.cons rfl rfl (op_load rfl rfl rfl hg hz0 ⟨(by simp [InL, Acc.name, rowName] <;> omega), ?_⟩)
      | refine WpO.cons rfl rfl (op_load rfl rfl rfl hg hz1 ⟨(by simp [InL, Acc.name, rowName] <;> omega), ?_⟩)
      | refine WpL.cons rfl rfl (op_load rfl rfl rfl hg hz1 ⟨(by simp [InL, Acc.name, rowName] <;> omega), ?_⟩))
    refine WpC.cond rfl (fun heq => ?_) (fun hn => ?_)
    · have heq : z1 = pid := by simpa using heq
      repeat' (first
        | refine WpC.seq ?_
        | refine WpC.region ?_
        | refine WpC.drawn ?_
        | refine WpC.skip ?_
        | refine WpC.block ?_
        | refine WpC.exit ?_
        | refine WpC.ret ?_
        | refine WpO.nil ?_
        | refine WpO.cons rfl rfl (WpX.pure (fun _ => rfl) ⟨nolog, ?_⟩)
        | refine WpO.skip rfl rfl ?_
        | refine WpL.cons rfl rfl (WpX.pure (fun _ => rfl) ⟨nolog, ?_⟩)
        | refine WpL.skip rfl rfl ?_
        | refine seqQ_normal ?_
        | refine seqQ_ret ?_
        | refine seqQ_exit ?_
        | refine blkQ_normal ?_
        | refine blkQ_ret ?_
        | refine blkQ_out rfl ?_
        | refine blkQ_by rfl ?_)
      have hlk := (split_at (L := sw L) (k := pid) (i := i) (p := z0) (by simp [sw, hz, heq]) fun j p hj hp => (hb j (p.2, p.1) hj (sw_get hp)).2).1
      exact out_ret rfl (.inl ⟨.inr (by rw [hlk]; rfl), rfl, rfl, rfl⟩)
    · have hn : z1 ≠ pid := by simpa using hn
      have h0' : z0 ≠ name := by simpa using h0
      repeat' (first
        | refine WpC.seq ?_
        | refine WpC.region ?_
        | refine WpC.drawn ?_
        | refine WpC.skip ?_
        | refine WpC.block ?_
        | refine WpC.exit ?_
        | refine WpC.ret ?_
        | refine WpO.nil ?_
        | refine WpO.cons rfl rfl (WpX.pure (fun _ => rfl) ⟨nolog, ?_⟩)
        | refine WpO.skip rfl rfl ?_
        | refine WpL.cons rfl rfl (WpX.pure (fun _ => rfl) ⟨nolog, ?_⟩)
        | refine WpL.skip rfl rfl ?_
        | refine seqQ_normal ?_
        | refine seqQ_ret ?_
        | refine seqQ_exit ?_
        | refine blkQ_normal ?_
        | refine blkQ_ret ?_
        | refine blkQ_out rfl ?_
        | refine blkQ_by rfl ?_)
      refine ⟨i + 1, by omega, ?_, by omega, fun j q hj hq => ?_, rfl, rfl⟩
      · rw [hw1]
        exact set4 rfl rfl rfl rfl
      · by_cases e : j = i
        · subst e; rw [hz] at hq; cases hq; exact ⟨h0', hn⟩
        · exact hb j q (by omega) hq
end Go.Proofs.Ytjincciacbfhiaa
