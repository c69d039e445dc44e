/- NamesPlays answers true. -/
import Derived.Test.YtjincciacbfhiaaNamesRef2W
set_option linter.unusedVariables false
set_option linter.unusedSectionVars false
set_option linter.unusedSimpArgs false
set_option linter.unnecessarySimpa false
namespace Go.Proofs.Ytjincciacbfhiaa
open Go.Ab
set_option maxRecDepth 10000

/-- No name twice, no process twice. -/
theorem acc_rd (n : Nat) : (Acc.rd n).name = n := rfl
theorem acc_wr (n : Nat) : (Acc.wr n).name = n := rfl
theorem accw_rd (n : Nat) : (Acc.rd n).writes = false := rfl
theorem accw_wr (n : Nat) : (Acc.wr n).writes = true := rfl
def Uniq (L : List (Int × Int)) : Prop := (L.map (·.1)).Nodup ∧ (L.map (·.2)).Nodup
theorem lookup_mem {L : List (Int × Int)} {n p : Int} (h : L.lookup n = some p) : (n, p) ∈ L := by
  induction L with
  | nil => cases h
  | cons a L ih =>
    obtain ⟨x, y⟩ := a
    rw [List.lookup_cons] at h
    cases hb : n == x with
    | true => rw [hb] at h; cases h; have : n = x := by simpa using hb
              subst this; simp
    | false => rw [hb] at h; exact List.mem_cons_of_mem _ (ih h)
theorem mem_lookup {L : List (Int × Int)} {n p : Int} (u : (L.map (·.1)).Nodup) (h : (n, p) ∈ L) : L.lookup n = some p := by
  induction L with
  | nil => cases h
  | cons a L ih =>
    obtain ⟨x, y⟩ := a
    rw [List.map_cons, List.nodup_cons] at u
    rcases List.mem_cons.1 h with e | e
    · cases e; simp [List.lookup]
    · have hne : n ≠ x := fun e' => u.1 (by rw [← e']; exact List.mem_map_of_mem (f := (·.1)) e)
      have hb : (n == x) = false := by simpa using hne
      rw [List.lookup_cons, hb]
      exact ih u.2 e
theorem sw_sw (L : List (Int × Int)) : sw (sw L) = L := by simp [sw, Function.comp_def]
theorem sw_mem {L : List (Int × Int)} {n p : Int} : (p, n) ∈ sw L ↔ (n, p) ∈ L := by
  simp only [sw, List.mem_map, Prod.mk.injEq, Prod.exists]
  exact ⟨fun ⟨a, b, h, e1, e2⟩ => by subst e1; subst e2; exact h, fun h => ⟨n, p, h, rfl, rfl⟩⟩
theorem sw_fst (L : List (Int × Int)) : (sw L).map (·.1) = L.map (·.2) := by simp [sw, Function.comp_def]
theorem Uniq.back {L : List (Int × Int)} (u : Uniq L) {n p : Int} (h : (sw L).lookup p = some n) : L.lookup n = some p := mem_lookup u.1 (sw_mem.1 (lookup_mem h))
theorem era_sub : ∀ (k : Int) (L : List (Int × Int)), (era k L).Sublist L
  | _, [] => .slnil
  | k, (q, v) :: L => by
    unfold era
    split
    · exact List.sublist_cons_self _ _
    · exact (era_sub k L).cons_cons _
theorem Uniq.era {L : List (Int × Int)} (u : Uniq L) (k : Int) : Uniq (era k L) := ⟨u.1.sublist ((era_sub k L).map _), u.2.sublist ((era_sub k L).map _)⟩
theorem Uniq.swap {L : List (Int × Int)} {n p : Int} (u : Uniq L) (h : L.lookup n = some p) : Go.Proofs.Ytjincciacbfhiaa.era p (sw L) = sw (Go.Proofs.Ytjincciacbfhiaa.era n L) := by
  induction L with
  | nil => cases h
  | cons a L ih =>
    obtain ⟨x, y⟩ := a
    have u1 := u.1; have u2 := u.2
    rw [List.map_cons, List.nodup_cons] at u1 u2
    have hs : sw ((x, y) :: L) = (y, x) :: sw L := rfl
    rw [hs, List.lookup_cons] at *
    cases hb : n == x with
    | true =>
      rw [hb] at h; cases h
      have : n = x := by simpa using hb
      subst this
      simp [Go.Proofs.Ytjincciacbfhiaa.era]
    | false =>
      rw [hb] at h
      have hne : x ≠ n := fun e => by subst e; simp at hb
      have hne2 : y ≠ p := fun e => u2.1 (by rw [e]; exact List.mem_map_of_mem (f := (·.2)) (lookup_mem h))
      simp only [Go.Proofs.Ytjincciacbfhiaa.era, if_neg hne, if_neg hne2, ih ⟨u1.2, u2.2⟩ h]
      rfl
theorem Uniq.add {L : List (Int × Int)} {n p : Int} (u : Uniq L) (h1 : L.lookup n = none) (h2 : (sw L).lookup p = none) : Uniq (L ++ [(n, p)]) := by
  have a1 : n ∉ L.map (·.1) := fun hm => by
    obtain ⟨q, hq, e⟩ := List.mem_map.1 hm
    subst e
    rw [mem_lookup u.1 (p := q.2) hq] at h1; cases h1
  have a2 : p ∉ L.map (·.2) := fun hm => by
    rw [← sw_fst] at hm
    obtain ⟨q, hq, e⟩ := List.mem_map.1 hm
    subst e
    rw [mem_lookup (by rw [sw_fst]; exact u.2) (p := q.2) hq] at h2; cases h2
  refine ⟨?_, ?_⟩
  · rw [List.map_append, List.nodup_append]
    refine ⟨u.1, by simp, fun x hx y hy => ?_⟩
    simp at hy; subst hy
    exact fun e => a1 (by rw [← e]; exact hx)
  · rw [List.map_append, List.nodup_append]
    refine ⟨u.2, by simp, fun x hx y hy => ?_⟩
    simp at hy; subst hy
    exact fun e => a2 (by rw [← e]; exact hx)
theorem era_length (k : Int) (L : List (Int × Int)) : (era k L).length ≤ L.length := (era_sub k L).length_le
theorem sw_add (L : List (Int × Int)) (n p : Int) : sw (L ++ [(n, p)]) = sw L ++ [(p, n)] := by simp [sw]
def tri (p : Int × Int × Int) : List V := [I p.1, I p.2.1, I p.2.2]
theorem nth_tri : ∀ {zs : List (Int × Int × Int)} {i : Nat} {z : Int × Int × Int}, zs[i]? = some z → nth (zs.map tri).flatten (i * 3) = some (I z.1) ∧ nth (zs.map tri).flatten (i * 3 + 1) = some (I z.2.1) ∧ nth (zs.map tri).flatten (i * 3 + 2) = some (I z.2.2)
  | [], _, _, h => by simp at h
  | a :: zs, 0, z, h => by simp at h; subst h; exact ⟨rfl, rfl, rfl⟩
  | a :: zs, i + 1, z, h => by
    have := nth_tri (zs := zs) (i := i) (z := z) (by simpa using h)
    rw [show (i + 1) * 3 = i * 3 + 3 from by omega]
    exact this
theorem cut_tri {zs : List (Int × Int × Int)} {i : Nat} {z : Int × Int × Int} (h : zs[i]? = some z) : cut (zs.map tri).flatten (i * 3) 3 = some (tri z) := by
  induction zs generalizing i with
  | nil => simp at h
  | cons a zs ih =>
    cases i with
    | zero => simp at h; subst h; simp [cut, tri]
    | succ i =>
      have := ih (i := i) (by simpa using h)
      rw [show (i + 1) * 3 = i * 3 + 3 from by omega]
      unfold cut at this ⊢
      simp only [List.map_cons, List.flatten_cons, List.length_append] at this ⊢
      have hl : (tri a).length = 3 := rfl
      split at this
      · rw [if_pos (by omega), List.drop_append, List.drop_eq_nil_of_le (by omega)]
        simpa [hl] using this
      · cases this

/-- Both registries, and what was handed in. -/
structure Both (h0 h : HH) (c0 c1 c : Nat) (v : V) (L : List (Int × Int)) : Prop where
  nm : NamesAt h c (c1 + 2) c1 (c1 + 1) L (sw L)
  rf : RefAt h c (c1 + 3) v L
  uq : Uniq L
  row : ∀ n ∈ rowName v, c1 + 4 ≤ n
  le : c1 + 4 ≤ c
  old : ∀ n, n < c0 → MapI.get h n = MapI.get h0 n
theorem Both.foot {h0 h : HH} {c0 c1 c : Nat} {v : V} {L : List (Int × Int)} (r : Both h0 h c0 c1 c v L) : ∀ n ∈ (c1 + 3) :: rowName v, c1 ≤ n := fun n hn => by
  rcases List.mem_cons.1 hn with e | e
  · omega
  · have := r.row n e; omega
theorem Both.apart {h0 h : HH} {c0 c1 c : Nat} {v : V} {L : List (Int × Int)} (r : Both h0 h c0 c1 c v L) : ∀ n ∈ (c1 + 3) :: rowName v, n ∉ [c1 + 2, c1, c1 + 1] := fun n hn => by
  rcases List.mem_cons.1 hn with e | e
  · simp; omega
  · have := r.row n e; simp; omega
theorem Both.apart2 {h0 h : HH} {c0 c1 c : Nat} {v : V} {L : List (Int × Int)} (r : Both h0 h c0 c1 c v L) : ∀ n, n < c1 + 3 → n ∉ (c1 + 3) :: rowName v := fun n hn h => by
  rcases List.mem_cons.1 h with e | e
  · omega
  · have := r.row n e; omega
theorem Both.keep {h0 h h' : HH} {c0 c1 c c' : Nat} {v : V} {L : List (Int × Int)} (r : Both h0 h c0 c1 c v L) (h01 : c0 ≤ c1) (hc : c ≤ c') (e : ∀ n, n < c → MapI.get h' n = MapI.get h n) : Both h0 h' c0 c1 c' v L :=
  ⟨r.nm.keep hc fun n hn _ => e n hn, r.rf.keep hc fun n hn _ => e n hn, r.uq, r.row, by have := r.le; omega, fun n hn => by rw [e n (by have := r.le; omega)]; exact r.old n hn⟩

theorem set5 {X : EE} {k0 k1 k2 k3 k4 : Nat} {v0 v1 v2 v3 v4 : V} (h0 : X k0 = some v0) (h1 : X k1 = some v1) (h2 : X k2 = some v2) (h3 : X k3 = some v3) (h4 : X k4 = some v4) : ∃ b, X = MapI.set (MapI.set (MapI.set (MapI.set (MapI.set b k0 v0) k1 v1) k2 v2) k3 v3) k4 v4 :=
  ⟨X, by rw [FM.add h0, FM.add h1, FM.add h2, FM.add h3, FM.add h4]⟩
set_option maxHeartbeats 16000000 in
theorem plays_law {h : HH} {c : Nat} {l : V} {zs : List (Int × Int × Int)} (hl : RowArg h c l 3 zs.length (zs.map tri).flatten) : Does 3 [l] h c (rowName l) fun v h' c' => v = .bool true := by
  refine does_of (enter (fn := Try.f3) Try.func3 rfl rfl (Nat.le_of_ble_eq_true rfl) ?_)
  repeat' (first
    | refine WpC.seq ?_
    | refine WpC.region ?_
    | refine WpC.drawn ?_
    | refine WpC.skip ?_
    | refine WpC.block ?_
    | refine WpC.exit ?_
    | refine WpC.ret ?_
    | refine WpO.nil ?_
    | refine WpO.cons rfl rfl (WpX.pure (fun _ => rfl) ⟨nolog, ?_⟩)
    | refine WpO.skip rfl rfl ?_
    | refine WpL.cons rfl rfl (WpX.pure (fun _ => rfl) ⟨nolog, ?_⟩)
    | refine WpL.skip rfl rfl ?_
    | refine seqQ_normal ?_
    | refine seqQ_ret ?_
    | refine seqQ_exit ?_
    | refine blkQ_normal ?_
    | refine blkQ_ret ?_
    | refine blkQ_out rfl ?_
    | refine blkQ_by rfl ?_)
  refine WpO.cons rfl rfl (call_at rfl awake_ok (by simp) (Nat.le_refl _) fun v h1 c1 hc1 hfr1 hq => ?_)
  subst hq
  repeat' (first
    | refine WpC.seq ?_
    | refine WpC.region ?_
    | refine WpC.drawn ?_
    | refine WpC.skip ?_
    | refine WpC.block ?_
    | refine WpC.exit ?_
    | refine WpC.ret ?_
    | refine WpO.nil ?_
    | refine WpO.cons rfl rfl (WpX.pure (fun _ => rfl) ⟨nolog, ?_⟩)
    | refine WpO.skip rfl rfl ?_
    | refine WpL.cons rfl rfl (WpX.pure (fun _ => rfl) ⟨nolog, ?_⟩)
    | refine WpL.skip rfl rfl ?_
    | refine seqQ_normal ?_
    | refine seqQ_ret ?_
    | refine seqQ_exit ?_
    | refine blkQ_normal ?_
    | refine blkQ_ret ?_
    | refine blkQ_out rfl ?_
    | refine blkQ_by rfl ?_)
  refine WpC.cond rfl (fun hb => by cases hb) (fun _ => ?_)
  obtain ⟨s, cap, rfl, hs⟩ : ∃ a cap, l = .slice a zs.length cap ∧ (∀ i, i < zs.length → ∃ s, a = some (s, 0) ∧ s < c ∧ MapI.get h s = some (.cells false false (zs.map tri).flatten)) := by
    rcases hl.is with ⟨rfl, hz⟩ | ⟨s, cap, rfl, h1, _, _, h2⟩
    · exact ⟨none, .known 0, by rw [hz], fun i hi => by omega⟩
    · exact ⟨_, .known cap, rfl, fun i hi => ⟨s, rfl, h1, h2 (by omega)⟩⟩
  repeat' (first
    | refine WpC.seq ?_
    | refine WpC.region ?_
    | refine WpC.drawn ?_
    | refine WpC.skip ?_
    | refine WpC.block ?_
    | refine WpC.exit ?_
    | refine WpC.ret ?_
    | refine WpO.nil ?_
    | refine WpO.cons rfl rfl (WpX.pure (fun _ => rfl) ⟨nolog, ?_⟩)
    | refine WpO.skip rfl rfl ?_
    | refine WpL.cons rfl rfl (WpX.pure (fun _ => rfl) ⟨nolog, ?_⟩)
    | refine WpL.skip rfl rfl ?_
    | refine seqQ_normal ?_
    | refine seqQ_ret ?_
    | refine seqQ_exit ?_
    | refine blkQ_normal ?_
    | refine blkQ_ret ?_
    | refine blkQ_out rfl ?_
    | refine blkQ_by rfl ?_
    | refine WpO.cons rfl rfl (op_len rfl rfl rfl ⟨(by simp [InL, Acc.name, rowName] <;> omega), ?_⟩)
    | refine WpL.cons rfl rfl (op_len rfl rfl rfl ⟨(by simp [InL, Acc.name, rowName] <;> omega), ?_⟩))
  refine WpC.cond rfl (fun _ => ?_) (fun hn => ?_)
  ·
    repeat' (first
      | refine WpC.seq ?_
      | refine WpC.region ?_
      | refine WpC.drawn ?_
      | refine WpC.skip ?_
      | refine WpC.block ?_
      | refine WpC.exit ?_
      | refine WpC.ret ?_
      | refine WpO.nil ?_
      | refine WpO.cons rfl rfl (WpX.pure (fun _ => rfl) ⟨nolog, ?_⟩)
      | refine WpO.skip rfl rfl ?_
      | refine WpL.cons rfl rfl (WpX.pure (fun _ => rfl) ⟨nolog, ?_⟩)
      | refine WpL.skip rfl rfl ?_
      | refine seqQ_normal ?_
      | refine seqQ_ret ?_
      | refine seqQ_exit ?_
      | refine blkQ_normal ?_
      | refine blkQ_ret ?_
      | refine blkQ_out rfl ?_
      | refine blkQ_by rfl ?_)
    exact out_ret rfl rfl
  repeat' (first
    | refine WpC.seq ?_
    | refine WpC.region ?_
    | refine WpC.drawn ?_
    | refine WpC.skip ?_
    | refine WpC.block ?_
    | refine WpC.exit ?_
    | refine WpC.ret ?_
    | refine WpO.nil ?_
    | refine WpO.cons rfl rfl (WpX.pure (fun _ => rfl) ⟨nolog, ?_⟩)
    | refine WpO.skip rfl rfl ?_
    | refine WpL.cons rfl rfl (WpX.pure (fun _ => rfl) ⟨nolog, ?_⟩)
    | refine WpL.skip rfl rfl ?_
    | refine seqQ_normal ?_
    | refine seqQ_ret ?_
    | refine seqQ_exit ?_
    | refine blkQ_normal ?_
    | refine blkQ_ret ?_
    | refine blkQ_out rfl ?_
    | refine blkQ_by rfl ?_)
  refine WpO.cons rfl rfl (call_at rfl new_ok (by simp) (by omega) fun v h2 c2 hc2 hfr2 hq => ?_)
  obtain ⟨rfl, rfl, r⟩ := hq
  repeat' (first
    | refine WpC.seq ?_
    | refine WpC.region ?_
    | refine WpC.drawn ?_
    | refine WpC.skip ?_
    | refine WpC.block ?_
    | refine WpC.exit ?_
    | refine WpC.ret ?_
    | refine WpO.nil ?_
    | refine WpO.cons rfl rfl (WpX.pure (fun _ => rfl) ⟨nolog, ?_⟩)
    | refine WpO.skip rfl rfl ?_
    | refine WpL.cons rfl rfl (WpX.pure (fun _ => rfl) ⟨nolog, ?_⟩)
    | refine WpL.skip rfl rfl ?_
    | refine seqQ_normal ?_
    | refine seqQ_ret ?_
    | refine seqQ_exit ?_
    | refine blkQ_normal ?_
    | refine blkQ_ret ?_
    | refine blkQ_out rfl ?_
    | refine blkQ_by rfl ?_
    | refine WpO.cons rfl rfl (op_box rfl ⟨(by simp [InL, Acc.name, rowName] <;> omega), ?_⟩)
    | refine WpL.cons rfl rfl (op_box rfl ⟨(by simp [InL, Acc.name, rowName] <;> omega), ?_⟩))
  refine WpC.cond rfl (fun hb => by cases hb) (fun _ => ?_)
  repeat' (first
    | refine WpC.seq ?_
    | refine WpC.region ?_
    | refine WpC.drawn ?_
    | refine WpC.skip ?_
    | refine WpC.block ?_
    | refine WpC.exit ?_
    | refine WpC.ret ?_
    | refine WpO.nil ?_
    | refine WpO.cons rfl rfl (WpX.pure (fun _ => rfl) ⟨nolog, ?_⟩)
    | refine WpO.skip rfl rfl ?_
    | refine WpL.cons rfl rfl (WpX.pure (fun _ => rfl) ⟨nolog, ?_⟩)
    | refine WpL.skip rfl rfl ?_
    | refine seqQ_normal ?_
    | refine seqQ_ret ?_
    | refine seqQ_exit ?_
    | refine blkQ_normal ?_
    | refine blkQ_ret ?_
    | refine blkQ_out rfl ?_
    | refine blkQ_by rfl ?_)
  refine WpC.loop ?_
  have start : Both h (MapI.set h2 (c1 + 3) (.cells true true [.slice none 0 (.known 0)])) c c1 (c1 + 3 + 1) (.slice none 0 (.known 0)) [] :=
    ⟨r.keep (by omega) fun n hn _ => MapI.get_ne _ _ _ _ (by omega), ⟨MapI.get_same _ _ _, .inl ⟨rfl, rfl⟩, by omega, fun n hn => by cases hn⟩, ⟨by simp, by simp⟩, fun n hn => (by cases hn), by omega,
      fun n hn => by rw [MapI.get_ne _ _ _ _ (by omega), hfr2 n (by omega) (by simp), hfr1 n hn (by simp)]⟩
  refine WpLoop.ind (X := Nat × V × List (Int × Int)) (fun x e h' c' => (∃ b0, e = MapI.set (MapI.set (MapI.set (MapI.set b0 0 (.slice s zs.length cap)) 3 (.ptr (some (c1 + 2, 0)))) 4 (.ptr (some (c1 + 3, 0)))) 5 (I x.1)) ∧ x.1 ≤ zs.length ∧ Both h h' c c1 c' x.2.1 x.2.2 ∧ x.2.2.length ≤ x.1)
    (fun x => zs.length - x.1) ?_ (0, .slice none 0 (.known 0), []) _ _ _ ⟨set4 rfl rfl rfl rfl, Nat.zero_le _, start, Nat.le_refl _⟩
  rintro ⟨i, v, L⟩ e h' c' ⟨⟨b0, rfl⟩, hi, B, hLi⟩
  simp only at hi B hLi
  have hlen : (zs.length : Int) ≤ 120 := by simpa using hn
  repeat' (first
    | refine WpC.seq ?_
    | refine WpC.region ?_
    | refine WpC.drawn ?_
    | refine WpC.skip ?_
    | refine WpC.block ?_
    | refine WpC.exit ?_
    | refine WpC.ret ?_
    | refine WpO.nil ?_
    | refine WpO.cons rfl rfl (WpX.pure (fun _ => rfl) ⟨nolog, ?_⟩)
    | refine WpO.skip rfl rfl ?_
    | refine WpL.cons rfl rfl (WpX.pure (fun _ => rfl) ⟨nolog, ?_⟩)
    | refine WpL.skip rfl rfl ?_
    | refine seqQ_normal ?_
    | refine seqQ_ret ?_
    | refine seqQ_exit ?_
    | refine blkQ_normal ?_
    | refine blkQ_ret ?_
    | refine blkQ_out rfl ?_
    | refine blkQ_by rfl ?_
    | refine WpO.cons rfl rfl (op_len rfl rfl rfl ⟨(by simp [InL, Acc.name, rowName] <;> omega), ?_⟩)
    | refine WpL.cons rfl rfl (op_len rfl rfl rfl ⟨(by simp [InL, Acc.name, rowName] <;> omega), ?_⟩))
  refine WpC.cond rfl (fun hlt => ?_) (fun hge => ?_)
  case refine_2 =>
    repeat' (first
      | refine WpC.seq ?_
      | refine WpC.region ?_
      | refine WpC.drawn ?_
      | refine WpC.skip ?_
      | refine WpC.block ?_
      | refine WpC.exit ?_
      | refine WpC.ret ?_
      | refine WpO.nil ?_
      | refine WpO.cons rfl rfl (WpX.pure (fun _ => rfl) ⟨nolog, ?_⟩)
      | refine WpO.skip rfl rfl ?_
      | refine WpL.cons rfl rfl (WpX.pure (fun _ => rfl) ⟨nolog, ?_⟩)
      | refine WpL.skip rfl rfl ?_
      | refine seqQ_normal ?_
      | refine seqQ_ret ?_
      | refine seqQ_exit ?_
      | refine blkQ_normal ?_
      | refine blkQ_ret ?_
      | refine blkQ_out rfl ?_
      | refine blkQ_by rfl ?_)
    exact out_ret rfl rfl
  have hlt : i < zs.length := by simpa using hlt
  obtain ⟨sn, rfl, hsn, hget⟩ := hs i hlt
  have hg : MapI.get h' sn = some (.cells false false (zs.map tri).flatten) := by rw [B.old sn hsn]; exact hget
  obtain ⟨⟨z0, z1, z2⟩, hz⟩ : ∃ z, zs[i]? = some z := ⟨_, List.getElem?_eq_getElem hlt⟩
  have hct : cut (zs.map tri).flatten (0 + ((i : Nat) : Int).toNat * 3) 3 = some (tri (z0, z1, z2)) := by
    have : 0 + ((i : Nat) : Int).toNat * 3 = i * 3 := by simp
    rw [this]; exact cut_tri hz
  have hw1 : IntKind.i64.wrap ((i : Int) + 1) = ((i + 1 : Nat) : Int) := by rw [Go.IntWalk.i64_in _ (by omega)]; omega
  have hle4 := B.le
  have hgc : ∀ x : AObj, MapI.get (MapI.set h' c' x) c' = some x := fun x => MapI.get_same _ _ _
  repeat' (first
    | refine WpC.seqI (a := Code.block 2 _) (fun e h4 c4 => ∃ v' L', (∃ b0, e = MapI.set (MapI.set (MapI.set (MapI.set (MapI.set b0 0 (.slice (some (sn, 0)) zs.length cap)) 3 (.ptr (some (c1 + 2, 0)))) 4 (.ptr (some (c1 + 3, 0)))) 5 (I i)) 7 (.bool true)) ∧ Both h h4 c c1 c4 v' L' ∧ L'.length ≤ i + 1) ?_ ?_
    | refine WpC.seq ?_
    | refine WpC.region ?_
    | refine WpC.drawn ?_
    | refine WpC.skip ?_
    | refine WpC.block ?_
    | refine WpC.exit ?_
    | refine WpC.ret ?_
    | refine WpO.nil ?_
    | refine WpO.cons rfl rfl (WpX.pure (fun _ => rfl) ⟨nolog, ?_⟩)
    | refine WpO.skip rfl rfl ?_
    | refine WpL.cons rfl rfl (WpX.pure (fun _ => rfl) ⟨nolog, ?_⟩)
    | refine WpL.skip rfl rfl ?_
    | refine seqQ_normal ?_
    | refine seqQ_ret ?_
    | refine seqQ_exit ?_
    | refine blkQ_normal ?_
    | refine blkQ_ret ?_
    | refine blkQ_out rfl ?_
    | refine blkQ_by rfl ?_
    | refine WpO.cons rfl rfl (op_indexAddr (k := 3) rfl rfl rfl rfl ⟨by omega, by omega⟩ ⟨(by simp [InL, Acc.name, rowName] <;> omega), ?_⟩)
    | refine WpL.cons rfl rfl (op_indexAddr (k := 3) rfl rfl rfl rfl ⟨by omega, by omega⟩ ⟨(by simp [InL, Acc.name, rowName] <;> omega), ?_⟩)
    | refine WpO.cons rfl rfl (op_loadA rfl rfl rfl rfl hg hct ⟨(by simp [InL, Acc.name, rowName] <;> omega), ?_⟩)
    | refine WpL.cons rfl rfl (op_loadA rfl rfl rfl rfl hg hct ⟨(by simp [InL, Acc.name, rowName] <;> omega), ?_⟩)
    | refine WpO.cons rfl rfl (op_alloc rfl ⟨(by simp [InL, Acc.name, rowName] <;> omega), ?_⟩)
    | refine WpL.cons rfl rfl (op_alloc rfl ⟨(by simp [InL, Acc.name, rowName] <;> omega), ?_⟩)
    | refine WpO.cons rfl rfl (op_store rfl rfl rfl rfl (hgc _) (Nat.le_refl _) rfl ⟨(by simp [InL, Acc.name, rowName] <;> omega), ?_⟩)
    | refine WpL.cons rfl rfl (op_store rfl rfl rfl rfl (hgc _) (Nat.le_refl _) rfl ⟨(by simp [InL, Acc.name, rowName] <;> omega), ?_⟩))
  · have B1 : Both h (MapI.set (MapI.set h' c' (.cells true true [I 0, I 0, I 0])) c' (.cells true true (tri (z0, z1, z2)))) c c1 (c' + 1) v L :=
      B.keep (by omega) (by omega) fun n hn => by rw [MapI.get_ne _ _ _ _ (by omega), MapI.get_ne _ _ _ _ (by omega)]
    have hd : ∀ (x : AObj) (y : AObj), MapI.get (MapI.set (MapI.set h' c' x) c' y) c' = some y := fun x y => MapI.get_same _ _ _
    repeat' (first
      | refine WpC.seq ?_
      | refine WpC.region ?_
      | refine WpC.drawn ?_
      | refine WpC.skip ?_
      | refine WpC.block ?_
      | refine WpC.exit ?_
      | refine WpC.ret ?_
      | refine WpO.nil ?_
      | refine WpO.cons rfl rfl (WpX.pure (fun _ => rfl) ⟨nolog, ?_⟩)
      | refine WpO.skip rfl rfl ?_
      | refine WpL.cons rfl rfl (WpX.pure (fun _ => rfl) ⟨nolog, ?_⟩)
      | refine WpL.skip rfl rfl ?_
      | refine seqQ_normal ?_
      | refine seqQ_ret ?_
      | refine seqQ_exit ?_
      | refine blkQ_normal ?_
      | refine blkQ_ret ?_
      | refine blkQ_out rfl ?_
      | refine blkQ_by rfl ?_
      | refine WpO.cons rfl rfl (op_load rfl rfl rfl (hd _ _) rfl ⟨(by simp [InL, Acc.name, rowName] <;> omega), ?_⟩)
      | refine WpL.cons rfl rfl (op_load rfl rfl rfl (hd _ _) rfl ⟨(by simp [InL, Acc.name, rowName] <;> omega), ?_⟩))
    refine WpC.cond rfl (fun hdo => ?_) (fun hdo => ?_)
    · cases hA : L.lookup z1 with
      | none =>
        cases hB : (sw L).lookup z2 with
        | none =>
          repeat' (first
            | refine WpC.seq ?_
            | refine WpC.region ?_
            | refine WpC.drawn ?_
            | refine WpC.skip ?_
            | refine WpC.block ?_
            | refine WpC.exit ?_
            | refine WpC.ret ?_
            | refine WpO.nil ?_
            | refine WpO.cons rfl rfl (WpX.pure (fun _ => rfl) ⟨nolog, ?_⟩)
            | refine WpO.skip rfl rfl ?_
            | refine WpL.cons rfl rfl (WpX.pure (fun _ => rfl) ⟨nolog, ?_⟩)
            | refine WpL.skip rfl rfl ?_
            | refine seqQ_normal ?_
            | refine seqQ_ret ?_
            | refine seqQ_exit ?_
            | refine blkQ_normal ?_
            | refine blkQ_ret ?_
            | refine blkQ_out rfl ?_
            | refine blkQ_by rfl ?_
            | refine WpO.cons rfl rfl (op_load rfl rfl rfl (hd _ _) rfl ⟨(by simp [InL, Acc.name, rowName] <;> omega), ?_⟩)
            | refine WpL.cons rfl rfl (op_load rfl rfl rfl (hd _ _) rfl ⟨(by simp [InL, Acc.name, rowName] <;> omega), ?_⟩))
          refine WpL.cons rfl rfl (call_atL rfl (register_ok B1.nm) (fun n hn => .inr (by simp at hn; omega)) (by omega) fun v4 h4 c4 al1 hal1 hc4 hfr4 hq => ?_)
          simp [hA, hB] at hq
          obtain ⟨rfl, rfl, n4⟩ := hq
          have ha1 : ∀ x ∈ al1, x.name ≠ c' := fun x hx e => (hal1 x hx).elim (fun h => by simp at h; omega) (fun h => by omega)
          have hd4 : MapI.get h4 c' = some (.cells true true (tri (z0, z1, z2))) := by first | exact hd _ _ | (rw [hfr4 c' (by omega) (by simp; omega)]; exact hd _ _)
          have r4 : RefAt h4 (c' + 1) (c1 + 3) v L := by first | exact B1.rf | exact B1.rf.keep (Nat.le_refl _) fun n hn hm => hfr4 n hn (B1.apart n (by simp; exact hm))
          repeat' (first
            | refine WpC.seq ?_
            | refine WpC.region ?_
            | refine WpC.drawn ?_
            | refine WpC.skip ?_
            | refine WpC.block ?_
            | refine WpC.exit ?_
            | refine WpC.ret ?_
            | refine WpO.nil ?_
            | refine WpO.cons rfl rfl (WpX.pure (fun _ => rfl) ⟨nolog, ?_⟩)
            | refine WpO.skip rfl rfl ?_
            | refine WpL.cons rfl rfl (WpX.pure (fun _ => rfl) ⟨nolog, ?_⟩)
            | refine WpL.skip rfl rfl ?_
            | refine seqQ_normal ?_
            | refine seqQ_ret ?_
            | refine seqQ_exit ?_
            | refine blkQ_normal ?_
            | refine blkQ_ret ?_
            | refine blkQ_out rfl ?_
            | refine blkQ_by rfl ?_
            | refine WpO.cons rfl rfl (op_load rfl rfl rfl hd4 rfl ⟨(by simp [InL, Acc.name, rowName] <;> omega), ?_⟩)
            | refine WpL.cons rfl rfl (op_load rfl rfl rfl hd4 rfl ⟨(by simp [InL, Acc.name, rowName] <;> omega), ?_⟩))
          refine WpL.cons rfl rfl (call_atL rfl (rregister_ok r4 (by omega)) (fun n hn => .inr (by have := B1.foot n hn; omega)) (by omega) fun v5 h5 c5 al2 hal2 hc5 hfr5 hq => ?_)
          simp [hA, hB] at hq
          obtain ⟨rfl, l', r5, hn5⟩ := hq
          have ha2 : ∀ x ∈ al2, x.name ≠ c' := fun x hx e => by
            rcases hal2 x hx with h | h
            · have := B1.rf.ne; rcases List.mem_cons.1 h with h | h
              · omega
              · have := B.rf.list.lt _ h; omega
            · omega
          repeat' (first
            | refine WpC.seq ?_
            | refine WpC.region ?_
            | refine WpC.drawn ?_
            | refine WpC.skip ?_
            | refine WpC.block ?_
            | refine WpC.exit ?_
            | refine WpC.ret ?_
            | refine WpO.nil ?_
            | refine WpO.cons rfl rfl (WpX.pure (fun _ => rfl) ⟨nolog, ?_⟩)
            | refine WpO.skip rfl rfl ?_
            | refine WpL.cons rfl rfl (WpX.pure (fun _ => rfl) ⟨nolog, ?_⟩)
            | refine WpL.skip rfl rfl ?_
            | refine seqQ_normal ?_
            | refine seqQ_ret ?_
            | refine seqQ_exit ?_
            | refine blkQ_normal ?_
            | refine blkQ_ret ?_
            | refine blkQ_out rfl ?_
            | refine blkQ_by rfl ?_)
          refine WpL.nil (logsOk_of (cs := [0, 0, 2, 0, 8, 31, 0, 0, 128, 0, 512, 2047, 4095, 8191]) (by decide +kernel) ?_) ?_
          · simp +contextual [allP, apP, Dis, acc_rd, acc_wr, accw_rd, accw_wr, Nat.testBit, ha1, ha2]
          repeat' (first
            | refine WpC.seq ?_
            | refine WpC.region ?_
            | refine WpC.drawn ?_
            | refine WpC.skip ?_
            | refine WpC.block ?_
            | refine WpC.exit ?_
            | refine WpC.ret ?_
            | refine WpO.nil ?_
            | refine WpO.cons rfl rfl (WpX.pure (fun _ => rfl) ⟨nolog, ?_⟩)
            | refine WpO.skip rfl rfl ?_
            | refine WpL.cons rfl rfl (WpX.pure (fun _ => rfl) ⟨nolog, ?_⟩)
            | refine WpL.skip rfl rfl ?_
            | refine seqQ_normal ?_
            | refine seqQ_ret ?_
            | refine seqQ_exit ?_
            | refine blkQ_normal ?_
            | refine blkQ_ret ?_
            | refine blkQ_out rfl ?_
            | refine blkQ_by rfl ?_)
          have n5 : NamesAt h5 c5 (c1 + 2) c1 (c1 + 1) (L ++ [(z1, z2)]) (sw (L ++ [(z1, z2)])) := by
            rw [sw_add]
            exact n4.keep hc5 fun n hn hm => hfr5 n hn (B1.apart2 n (by omega))
          refine ⟨l', L ++ [(z1, z2)], set5 rfl rfl rfl rfl rfl, ⟨n5, r5, B.uq.add hA hB, fun n hn => ?_, by omega, fun n hn => ?_⟩, by simp; omega⟩
          · rcases hn5 n hn with h | h
            · exact B.row n h
            · omega
          · rw [hfr5 n (by omega) (B1.apart2 n (by omega)), hfr4 n (by omega) (by simp; omega)]
            exact B1.old n hn
        | some q0 =>
          repeat' (first
            | refine WpC.seq ?_
            | refine WpC.region ?_
            | refine WpC.drawn ?_
            | refine WpC.skip ?_
            | refine WpC.block ?_
            | refine WpC.exit ?_
            | refine WpC.ret ?_
            | refine WpO.nil ?_
            | refine WpO.cons rfl rfl (WpX.pure (fun _ => rfl) ⟨nolog, ?_⟩)
            | refine WpO.skip rfl rfl ?_
            | refine WpL.cons rfl rfl (WpX.pure (fun _ => rfl) ⟨nolog, ?_⟩)
            | refine WpL.skip rfl rfl ?_
            | refine seqQ_normal ?_
            | refine seqQ_ret ?_
            | refine seqQ_exit ?_
            | refine blkQ_normal ?_
            | refine blkQ_ret ?_
            | refine blkQ_out rfl ?_
            | refine blkQ_by rfl ?_
            | refine WpO.cons rfl rfl (op_load rfl rfl rfl (hd _ _) rfl ⟨(by simp [InL, Acc.name, rowName] <;> omega), ?_⟩)
            | refine WpL.cons rfl rfl (op_load rfl rfl rfl (hd _ _) rfl ⟨(by simp [InL, Acc.name, rowName] <;> omega), ?_⟩))
          refine WpL.cons rfl rfl (call_atL rfl (register_ok B1.nm) (fun n hn => .inr (by simp at hn; omega)) (by omega) fun v4 h4 c4 al1 hal1 hc4 hfr4 hq => ?_)
          simp [hA, hB] at hq
          obtain ⟨rfl, rfl, e4⟩ := hq
          have B4 : Both h h4 c c1 (c' + 1) v L := by rw [e4]; exact B1
          have ha1 : ∀ x ∈ al1, x.name ≠ c' := fun x hx e => (hal1 x hx).elim (fun h => by simp at h; omega) (fun h => by omega)
          have hd4 : MapI.get h4 c' = some (.cells true true (tri (z0, z1, z2))) := by rw [e4]; exact hd _ _
          have r4 : RefAt h4 (c' + 1) (c1 + 3) v L := by rw [e4]; exact B1.rf
          repeat' (first
            | refine WpC.seq ?_
            | refine WpC.region ?_
            | refine WpC.drawn ?_
            | refine WpC.skip ?_
            | refine WpC.block ?_
            | refine WpC.exit ?_
            | refine WpC.ret ?_
            | refine WpO.nil ?_
            | refine WpO.cons rfl rfl (WpX.pure (fun _ => rfl) ⟨nolog, ?_⟩)
            | refine WpO.skip rfl rfl ?_
            | refine WpL.cons rfl rfl (WpX.pure (fun _ => rfl) ⟨nolog, ?_⟩)
            | refine WpL.skip rfl rfl ?_
            | refine seqQ_normal ?_
            | refine seqQ_ret ?_
            | refine seqQ_exit ?_
            | refine blkQ_normal ?_
            | refine blkQ_ret ?_
            | refine blkQ_out rfl ?_
            | refine blkQ_by rfl ?_
            | refine WpO.cons rfl rfl (op_load rfl rfl rfl hd4 rfl ⟨(by simp [InL, Acc.name, rowName] <;> omega), ?_⟩)
            | refine WpL.cons rfl rfl (op_load rfl rfl rfl hd4 rfl ⟨(by simp [InL, Acc.name, rowName] <;> omega), ?_⟩))
          refine WpL.cons rfl rfl (call_atL rfl (rregister_ok r4 (by omega)) (fun n hn => .inr (by have := B1.foot n hn; omega)) (by omega) fun v5 h5 c5 al2 hal2 hc5 hfr5 hq => ?_)
          simp [hA, hB] at hq
          obtain ⟨rfl, e5, rfl⟩ := hq
          have ha2 : ∀ x ∈ al2, x.name ≠ c' := fun x hx e => by
            rcases hal2 x hx with h | h
            · have := B1.rf.ne; rcases List.mem_cons.1 h with h | h
              · omega
              · have := B.rf.list.lt _ h; omega
            · omega
          repeat' (first
            | refine WpC.seq ?_
            | refine WpC.region ?_
            | refine WpC.drawn ?_
            | refine WpC.skip ?_
            | refine WpC.block ?_
            | refine WpC.exit ?_
            | refine WpC.ret ?_
            | refine WpO.nil ?_
            | refine WpO.cons rfl rfl (WpX.pure (fun _ => rfl) ⟨nolog, ?_⟩)
            | refine WpO.skip rfl rfl ?_
            | refine WpL.cons rfl rfl (WpX.pure (fun _ => rfl) ⟨nolog, ?_⟩)
            | refine WpL.skip rfl rfl ?_
            | refine seqQ_normal ?_
            | refine seqQ_ret ?_
            | refine seqQ_exit ?_
            | refine blkQ_normal ?_
            | refine blkQ_ret ?_
            | refine blkQ_out rfl ?_
            | refine blkQ_by rfl ?_)
          refine WpL.nil (logsOk_of (cs := [0, 0, 2, 0, 8, 31, 0, 0, 128, 0, 512, 2047, 4095, 8191]) (by decide +kernel) ?_) ?_
          · simp +contextual [allP, apP, Dis, acc_rd, acc_wr, accw_rd, accw_wr, Nat.testBit, ha1, ha2]
          repeat' (first
            | refine WpC.seq ?_
            | refine WpC.region ?_
            | refine WpC.drawn ?_
            | refine WpC.skip ?_
            | refine WpC.block ?_
            | refine WpC.exit ?_
            | refine WpC.ret ?_
            | refine WpO.nil ?_
            | refine WpO.cons rfl rfl (WpX.pure (fun _ => rfl) ⟨nolog, ?_⟩)
            | refine WpO.skip rfl rfl ?_
            | refine WpL.cons rfl rfl (WpX.pure (fun _ => rfl) ⟨nolog, ?_⟩)
            | refine WpL.skip rfl rfl ?_
            | refine seqQ_normal ?_
            | refine seqQ_ret ?_
            | refine seqQ_exit ?_
            | refine blkQ_normal ?_
            | refine blkQ_ret ?_
            | refine blkQ_out rfl ?_
            | refine blkQ_by rfl ?_)
          exact ⟨v, L, set5 rfl rfl rfl rfl rfl, by rw [e5]; exact B4, by omega⟩
      | some q0 =>
        repeat' (first
          | refine WpC.seq ?_
          | refine WpC.region ?_
          | refine WpC.drawn ?_
          | refine WpC.skip ?_
          | refine WpC.block ?_
          | refine WpC.exit ?_
          | refine WpC.ret ?_
          | refine WpO.nil ?_
          | refine WpO.cons rfl rfl (WpX.pure (fun _ => rfl) ⟨nolog, ?_⟩)
          | refine WpO.skip rfl rfl ?_
          | refine WpL.cons rfl rfl (WpX.pure (fun _ => rfl) ⟨nolog, ?_⟩)
          | refine WpL.skip rfl rfl ?_
          | refine seqQ_normal ?_
          | refine seqQ_ret ?_
          | refine seqQ_exit ?_
          | refine blkQ_normal ?_
          | refine blkQ_ret ?_
          | refine blkQ_out rfl ?_
          | refine blkQ_by rfl ?_
          | refine WpO.cons rfl rfl (op_load rfl rfl rfl (hd _ _) rfl ⟨(by simp [InL, Acc.name, rowName] <;> omega), ?_⟩)
          | refine WpL.cons rfl rfl (op_load rfl rfl rfl (hd _ _) rfl ⟨(by simp [InL, Acc.name, rowName] <;> omega), ?_⟩))
        refine WpL.cons rfl rfl (call_atL rfl (register_ok B1.nm) (fun n hn => .inr (by simp at hn; omega)) (by omega) fun v4 h4 c4 al1 hal1 hc4 hfr4 hq => ?_)
        simp [hA] at hq
        obtain ⟨rfl, rfl, e4⟩ := hq
        have B4 : Both h h4 c c1 (c' + 1) v L := by rw [e4]; exact B1
        have ha1 : ∀ x ∈ al1, x.name ≠ c' := fun x hx e => (hal1 x hx).elim (fun h => by simp at h; omega) (fun h => by omega)
        have hd4 : MapI.get h4 c' = some (.cells true true (tri (z0, z1, z2))) := by rw [e4]; exact hd _ _
        have r4 : RefAt h4 (c' + 1) (c1 + 3) v L := by rw [e4]; exact B1.rf
        repeat' (first
          | refine WpC.seq ?_
          | refine WpC.region ?_
          | refine WpC.drawn ?_
          | refine WpC.skip ?_
          | refine WpC.block ?_
          | refine WpC.exit ?_
          | refine WpC.ret ?_
          | refine WpO.nil ?_
          | refine WpO.cons rfl rfl (WpX.pure (fun _ => rfl) ⟨nolog, ?_⟩)
          | refine WpO.skip rfl rfl ?_
          | refine WpL.cons rfl rfl (WpX.pure (fun _ => rfl) ⟨nolog, ?_⟩)
          | refine WpL.skip rfl rfl ?_
          | refine seqQ_normal ?_
          | refine seqQ_ret ?_
          | refine seqQ_exit ?_
          | refine blkQ_normal ?_
          | refine blkQ_ret ?_
          | refine blkQ_out rfl ?_
          | refine blkQ_by rfl ?_
          | refine WpO.cons rfl rfl (op_load rfl rfl rfl hd4 rfl ⟨(by simp [InL, Acc.name, rowName] <;> omega), ?_⟩)
          | refine WpL.cons rfl rfl (op_load rfl rfl rfl hd4 rfl ⟨(by simp [InL, Acc.name, rowName] <;> omega), ?_⟩))
        refine WpL.cons rfl rfl (call_atL rfl (rregister_ok r4 (by omega)) (fun n hn => .inr (by have := B1.foot n hn; omega)) (by omega) fun v5 h5 c5 al2 hal2 hc5 hfr5 hq => ?_)
        simp [hA] at hq
        obtain ⟨rfl, e5, rfl⟩ := hq
        have ha2 : ∀ x ∈ al2, x.name ≠ c' := fun x hx e => by
          rcases hal2 x hx with h | h
          · have := B1.rf.ne; rcases List.mem_cons.1 h with h | h
            · omega
            · have := B.rf.list.lt _ h; omega
          · omega
        repeat' (first
          | refine WpC.seq ?_
          | refine WpC.region ?_
          | refine WpC.drawn ?_
          | refine WpC.skip ?_
          | refine WpC.block ?_
          | refine WpC.exit ?_
          | refine WpC.ret ?_
          | refine WpO.nil ?_
          | refine WpO.cons rfl rfl (WpX.pure (fun _ => rfl) ⟨nolog, ?_⟩)
          | refine WpO.skip rfl rfl ?_
          | refine WpL.cons rfl rfl (WpX.pure (fun _ => rfl) ⟨nolog, ?_⟩)
          | refine WpL.skip rfl rfl ?_
          | refine seqQ_normal ?_
          | refine seqQ_ret ?_
          | refine seqQ_exit ?_
          | refine blkQ_normal ?_
          | refine blkQ_ret ?_
          | refine blkQ_out rfl ?_
          | refine blkQ_by rfl ?_)
        refine WpL.nil (logsOk_of (cs := [0, 0, 2, 0, 8, 31, 0, 0, 128, 0, 512, 2047, 4095, 8191]) (by decide +kernel) ?_) ?_
        · simp +contextual [allP, apP, Dis, acc_rd, acc_wr, accw_rd, accw_wr, Nat.testBit, ha1, ha2]
        repeat' (first
          | refine WpC.seq ?_
          | refine WpC.region ?_
          | refine WpC.drawn ?_
          | refine WpC.skip ?_
          | refine WpC.block ?_
          | refine WpC.exit ?_
          | refine WpC.ret ?_
          | refine WpO.nil ?_
          | refine WpO.cons rfl rfl (WpX.pure (fun _ => rfl) ⟨nolog, ?_⟩)
          | refine WpO.skip rfl rfl ?_
          | refine WpL.cons rfl rfl (WpX.pure (fun _ => rfl) ⟨nolog, ?_⟩)
          | refine WpL.skip rfl rfl ?_
          | refine seqQ_normal ?_
          | refine seqQ_ret ?_
          | refine seqQ_exit ?_
          | refine blkQ_normal ?_
          | refine blkQ_ret ?_
          | refine blkQ_out rfl ?_
          | refine blkQ_by rfl ?_)
        exact ⟨v, L, set5 rfl rfl rfl rfl rfl, by rw [e5]; exact B4, by omega⟩
    ·
      repeat' (first
        | refine WpC.seq ?_
        | refine WpC.region ?_
        | refine WpC.drawn ?_
        | refine WpC.skip ?_
        | refine WpC.block ?_
        | refine WpC.exit ?_
        | refine WpC.ret ?_
        | refine WpO.nil ?_
        | refine WpO.cons rfl rfl (WpX.pure (fun _ => rfl) ⟨nolog, ?_⟩)
        | refine WpO.skip rfl rfl ?_
        | refine WpL.cons rfl rfl (WpX.pure (fun _ => rfl) ⟨nolog, ?_⟩)
        | refine WpL.skip rfl rfl ?_
        | refine seqQ_normal ?_
        | refine seqQ_ret ?_
        | refine seqQ_exit ?_
        | refine blkQ_normal ?_
        | refine blkQ_ret ?_
        | refine blkQ_out rfl ?_
        | refine blkQ_by rfl ?_
        | refine WpO.cons rfl rfl (op_load rfl rfl rfl (hd _ _) rfl ⟨(by simp [InL, Acc.name, rowName] <;> omega), ?_⟩)
        | refine WpL.cons rfl rfl (op_load rfl rfl rfl (hd _ _) rfl ⟨(by simp [InL, Acc.name, rowName] <;> omega), ?_⟩))
      refine WpC.cond rfl (fun hdo2 => ?_) (fun hdo2 => ?_)
      · cases hA : L.lookup z1 with
        | none =>
          repeat' (first
            | refine WpC.seq ?_
            | refine WpC.region ?_
            | refine WpC.drawn ?_
            | refine WpC.skip ?_
            | refine WpC.block ?_
            | refine WpC.exit ?_
            | refine WpC.ret ?_
            | refine WpO.nil ?_
            | refine WpO.cons rfl rfl (WpX.pure (fun _ => rfl) ⟨nolog, ?_⟩)
            | refine WpO.skip rfl rfl ?_
            | refine WpL.cons rfl rfl (WpX.pure (fun _ => rfl) ⟨nolog, ?_⟩)
            | refine WpL.skip rfl rfl ?_
            | refine seqQ_normal ?_
            | refine seqQ_ret ?_
            | refine seqQ_exit ?_
            | refine blkQ_normal ?_
            | refine blkQ_ret ?_
            | refine blkQ_out rfl ?_
            | refine blkQ_by rfl ?_
            | refine WpO.cons rfl rfl (op_load rfl rfl rfl (hd _ _) rfl ⟨(by simp [InL, Acc.name, rowName] <;> omega), ?_⟩)
            | refine WpL.cons rfl rfl (op_load rfl rfl rfl (hd _ _) rfl ⟨(by simp [InL, Acc.name, rowName] <;> omega), ?_⟩))
          refine WpL.cons rfl rfl (call_atL rfl (unregister_ok B1.nm) (fun n hn => .inr (by simp at hn; omega)) (by omega) fun v4 h4 c4 al1 hal1 hc4 hfr4 hq => ?_)
          simp [hA] at hq
          obtain ⟨rfl, rfl, e4⟩ := hq
          have B4 : Both h h4 c c1 (c' + 1) v L := by rw [e4]; exact B1
          have ha1 : ∀ x ∈ al1, x.name ≠ c' := fun x hx e => (hal1 x hx).elim (fun h => by simp at h; omega) (fun h => by omega)
          have hd4 : MapI.get h4 c' = some (.cells true true (tri (z0, z1, z2))) := by rw [e4]; exact hd _ _
          have r4 : RefAt h4 (c' + 1) (c1 + 3) v L := by rw [e4]; exact B1.rf
          repeat' (first
            | refine WpC.seq ?_
            | refine WpC.region ?_
            | refine WpC.drawn ?_
            | refine WpC.skip ?_
            | refine WpC.block ?_
            | refine WpC.exit ?_
            | refine WpC.ret ?_
            | refine WpO.nil ?_
            | refine WpO.cons rfl rfl (WpX.pure (fun _ => rfl) ⟨nolog, ?_⟩)
            | refine WpO.skip rfl rfl ?_
            | refine WpL.cons rfl rfl (WpX.pure (fun _ => rfl) ⟨nolog, ?_⟩)
            | refine WpL.skip rfl rfl ?_
            | refine seqQ_normal ?_
            | refine seqQ_ret ?_
            | refine seqQ_exit ?_
            | refine blkQ_normal ?_
            | refine blkQ_ret ?_
            | refine blkQ_out rfl ?_
            | refine blkQ_by rfl ?_
            | refine WpO.cons rfl rfl (op_load rfl rfl rfl hd4 rfl ⟨(by simp [InL, Acc.name, rowName] <;> omega), ?_⟩)
            | refine WpL.cons rfl rfl (op_load rfl rfl rfl hd4 rfl ⟨(by simp [InL, Acc.name, rowName] <;> omega), ?_⟩))
          refine WpL.cons rfl rfl (call_atL rfl (runregister_ok r4 (by omega)) (fun n hn => .inr (by have := B1.foot n hn; omega)) (by omega) fun v5 h5 c5 al2 hal2 hc5 hfr5 hq => ?_)
          simp only [hA, Option.isSome_none] at hq
          obtain ⟨rfl, l', r5, hn5⟩ := hq
          have ha2 : ∀ x ∈ al2, x.name ≠ c' := fun x hx e => by
            rcases hal2 x hx with h | h
            · have := B1.rf.ne; rcases List.mem_cons.1 h with h | h
              · omega
              · have := B.rf.list.lt _ h; omega
            · omega
          repeat' (first
            | refine WpC.seq ?_
            | refine WpC.region ?_
            | refine WpC.drawn ?_
            | refine WpC.skip ?_
            | refine WpC.block ?_
            | refine WpC.exit ?_
            | refine WpC.ret ?_
            | refine WpO.nil ?_
            | refine WpO.cons rfl rfl (WpX.pure (fun _ => rfl) ⟨nolog, ?_⟩)
            | refine WpO.skip rfl rfl ?_
            | refine WpL.cons rfl rfl (WpX.pure (fun _ => rfl) ⟨nolog, ?_⟩)
            | refine WpL.skip rfl rfl ?_
            | refine seqQ_normal ?_
            | refine seqQ_ret ?_
            | refine seqQ_exit ?_
            | refine blkQ_normal ?_
            | refine blkQ_ret ?_
            | refine blkQ_out rfl ?_
            | refine blkQ_by rfl ?_)
          refine WpL.nil (logsOk_of (cs := [0, 0, 2, 7, 0, 0, 32, 127, 255, 511]) (by decide +kernel) ?_) ?_
          · simp +contextual [allP, apP, Dis, acc_rd, acc_wr, accw_rd, accw_wr, Nat.testBit, ha1, ha2]
          repeat' (first
            | refine WpC.seq ?_
            | refine WpC.region ?_
            | refine WpC.drawn ?_
            | refine WpC.skip ?_
            | refine WpC.block ?_
            | refine WpC.exit ?_
            | refine WpC.ret ?_
            | refine WpO.nil ?_
            | refine WpO.cons rfl rfl (WpX.pure (fun _ => rfl) ⟨nolog, ?_⟩)
            | refine WpO.skip rfl rfl ?_
            | refine WpL.cons rfl rfl (WpX.pure (fun _ => rfl) ⟨nolog, ?_⟩)
            | refine WpL.skip rfl rfl ?_
            | refine seqQ_normal ?_
            | refine seqQ_ret ?_
            | refine seqQ_exit ?_
            | refine blkQ_normal ?_
            | refine blkQ_ret ?_
            | refine blkQ_out rfl ?_
            | refine blkQ_by rfl ?_)
          have e0 : era z1 L = L := era_none hA
          rw [e0] at r5
          refine ⟨l', L, set5 rfl rfl rfl rfl rfl, ⟨B4.nm.keep hc5 fun n hn hm => hfr5 n hn (B4.apart2 n (by omega)), r5, B.uq, fun n hn => ?_, by omega, fun n hn => ?_⟩, by omega⟩
          · rcases hn5 n hn with h | h
            · exact B.row n h
            · omega
          · rw [hfr5 n (by omega) (B4.apart2 n (by omega))]
            exact B4.old n hn
        | some q0 =>
          repeat' (first
            | refine WpC.seq ?_
            | refine WpC.region ?_
            | refine WpC.drawn ?_
            | refine WpC.skip ?_
            | refine WpC.block ?_
            | refine WpC.exit ?_
            | refine WpC.ret ?_
            | refine WpO.nil ?_
            | refine WpO.cons rfl rfl (WpX.pure (fun _ => rfl) ⟨nolog, ?_⟩)
            | refine WpO.skip rfl rfl ?_
            | refine WpL.cons rfl rfl (WpX.pure (fun _ => rfl) ⟨nolog, ?_⟩)
            | refine WpL.skip rfl rfl ?_
            | refine seqQ_normal ?_
            | refine seqQ_ret ?_
            | refine seqQ_exit ?_
            | refine blkQ_normal ?_
            | refine blkQ_ret ?_
            | refine blkQ_out rfl ?_
            | refine blkQ_by rfl ?_
            | refine WpO.cons rfl rfl (op_load rfl rfl rfl (hd _ _) rfl ⟨(by simp [InL, Acc.name, rowName] <;> omega), ?_⟩)
            | refine WpL.cons rfl rfl (op_load rfl rfl rfl (hd _ _) rfl ⟨(by simp [InL, Acc.name, rowName] <;> omega), ?_⟩))
          refine WpL.cons rfl rfl (call_atL rfl (unregister_ok B1.nm) (fun n hn => .inr (by simp at hn; omega)) (by omega) fun v4 h4 c4 al1 hal1 hc4 hfr4 hq => ?_)
          simp [hA] at hq
          obtain ⟨rfl, rfl, n4⟩ := hq
          have ha1 : ∀ x ∈ al1, x.name ≠ c' := fun x hx e => (hal1 x hx).elim (fun h => by simp at h; omega) (fun h => by omega)
          have hd4 : MapI.get h4 c' = some (.cells true true (tri (z0, z1, z2))) := by first | exact hd _ _ | (rw [hfr4 c' (by omega) (by simp; omega)]; exact hd _ _)
          have r4 : RefAt h4 (c' + 1) (c1 + 3) v L := by first | exact B1.rf | exact B1.rf.keep (Nat.le_refl _) fun n hn hm => hfr4 n hn (B1.apart n (by simp; exact hm))
          repeat' (first
            | refine WpC.seq ?_
            | refine WpC.region ?_
            | refine WpC.drawn ?_
            | refine WpC.skip ?_
            | refine WpC.block ?_
            | refine WpC.exit ?_
            | refine WpC.ret ?_
            | refine WpO.nil ?_
            | refine WpO.cons rfl rfl (WpX.pure (fun _ => rfl) ⟨nolog, ?_⟩)
            | refine WpO.skip rfl rfl ?_
            | refine WpL.cons rfl rfl (WpX.pure (fun _ => rfl) ⟨nolog, ?_⟩)
            | refine WpL.skip rfl rfl ?_
            | refine seqQ_normal ?_
            | refine seqQ_ret ?_
            | refine seqQ_exit ?_
            | refine blkQ_normal ?_
            | refine blkQ_ret ?_
            | refine blkQ_out rfl ?_
            | refine blkQ_by rfl ?_
            | refine WpO.cons rfl rfl (op_load rfl rfl rfl hd4 rfl ⟨(by simp [InL, Acc.name, rowName] <;> omega), ?_⟩)
            | refine WpL.cons rfl rfl (op_load rfl rfl rfl hd4 rfl ⟨(by simp [InL, Acc.name, rowName] <;> omega), ?_⟩))
          refine WpL.cons rfl rfl (call_atL rfl (runregister_ok r4 (by omega)) (fun n hn => .inr (by have := B1.foot n hn; omega)) (by omega) fun v5 h5 c5 al2 hal2 hc5 hfr5 hq => ?_)
          simp only [hA, Option.isSome_some] at hq
          obtain ⟨rfl, l', r5, hn5⟩ := hq
          have ha2 : ∀ x ∈ al2, x.name ≠ c' := fun x hx e => by
            rcases hal2 x hx with h | h
            · have := B1.rf.ne; rcases List.mem_cons.1 h with h | h
              · omega
              · have := B.rf.list.lt _ h; omega
            · omega
          repeat' (first
            | refine WpC.seq ?_
            | refine WpC.region ?_
            | refine WpC.drawn ?_
            | refine WpC.skip ?_
            | refine WpC.block ?_
            | refine WpC.exit ?_
            | refine WpC.ret ?_
            | refine WpO.nil ?_
            | refine WpO.cons rfl rfl (WpX.pure (fun _ => rfl) ⟨nolog, ?_⟩)
            | refine WpO.skip rfl rfl ?_
            | refine WpL.cons rfl rfl (WpX.pure (fun _ => rfl) ⟨nolog, ?_⟩)
            | refine WpL.skip rfl rfl ?_
            | refine seqQ_normal ?_
            | refine seqQ_ret ?_
            | refine seqQ_exit ?_
            | refine blkQ_normal ?_
            | refine blkQ_ret ?_
            | refine blkQ_out rfl ?_
            | refine blkQ_by rfl ?_)
          refine WpL.nil (logsOk_of (cs := [0, 0, 2, 7, 0, 0, 32, 127, 255, 511]) (by decide +kernel) ?_) ?_
          · simp +contextual [allP, apP, Dis, acc_rd, acc_wr, accw_rd, accw_wr, Nat.testBit, ha1, ha2]
          repeat' (first
            | refine WpC.seq ?_
            | refine WpC.region ?_
            | refine WpC.drawn ?_
            | refine WpC.skip ?_
            | refine WpC.block ?_
            | refine WpC.exit ?_
            | refine WpC.ret ?_
            | refine WpO.nil ?_
            | refine WpO.cons rfl rfl (WpX.pure (fun _ => rfl) ⟨nolog, ?_⟩)
            | refine WpO.skip rfl rfl ?_
            | refine WpL.cons rfl rfl (WpX.pure (fun _ => rfl) ⟨nolog, ?_⟩)
            | refine WpL.skip rfl rfl ?_
            | refine seqQ_normal ?_
            | refine seqQ_ret ?_
            | refine seqQ_exit ?_
            | refine blkQ_normal ?_
            | refine blkQ_ret ?_
            | refine blkQ_out rfl ?_
            | refine blkQ_by rfl ?_)
          have n5 : NamesAt h5 c5 (c1 + 2) c1 (c1 + 1) (era z1 L) (sw (era z1 L)) := by
            rw [← B.uq.swap hA]
            exact n4.keep hc5 fun n hn hm => hfr5 n hn (B1.apart2 n (by omega))
          refine ⟨l', era z1 L, set5 rfl rfl rfl rfl rfl, ⟨n5, r5, B.uq.era z1, fun n hn => ?_, by omega, fun n hn => ?_⟩, by have := era_length z1 L; omega⟩
          · rcases hn5 n hn with h | h
            · exact B.row n h
            · omega
          · rw [hfr5 n (by omega) (B1.apart2 n (by omega)), hfr4 n (by omega) (by simp; omega)]
            exact B1.old n hn
      · cases hA : (sw L).lookup z2 with
        | none =>
          repeat' (first
            | refine WpC.seq ?_
            | refine WpC.region ?_
            | refine WpC.drawn ?_
            | refine WpC.skip ?_
            | refine WpC.block ?_
            | refine WpC.exit ?_
            | refine WpC.ret ?_
            | refine WpO.nil ?_
            | refine WpO.cons rfl rfl (WpX.pure (fun _ => rfl) ⟨nolog, ?_⟩)
            | refine WpO.skip rfl rfl ?_
            | refine WpL.cons rfl rfl (WpX.pure (fun _ => rfl) ⟨nolog, ?_⟩)
            | refine WpL.skip rfl rfl ?_
            | refine seqQ_normal ?_
            | refine seqQ_ret ?_
            | refine seqQ_exit ?_
            | refine blkQ_normal ?_
            | refine blkQ_ret ?_
            | refine blkQ_out rfl ?_
            | refine blkQ_by rfl ?_
            | refine WpO.cons rfl rfl (op_load rfl rfl rfl (hd _ _) rfl ⟨(by simp [InL, Acc.name, rowName] <;> omega), ?_⟩)
            | refine WpL.cons rfl rfl (op_load rfl rfl rfl (hd _ _) rfl ⟨(by simp [InL, Acc.name, rowName] <;> omega), ?_⟩))
          refine WpL.cons rfl rfl (call_atL rfl (gone_ok B1.nm) (fun n hn => .inr (by simp at hn; omega)) (by omega) fun v4 h4 c4 al1 hal1 hc4 hfr4 hq => ?_)
          simp [hA] at hq
          obtain ⟨rfl, rfl, e4⟩ := hq
          have B4 : Both h h4 c c1 (c' + 1) v L := by rw [e4]; exact B1
          have ha1 : ∀ x ∈ al1, x.name ≠ c' := fun x hx e => (hal1 x hx).elim (fun h => by simp at h; omega) (fun h => by omega)
          have hd4 : MapI.get h4 c' = some (.cells true true (tri (z0, z1, z2))) := by rw [e4]; exact hd _ _
          have r4 : RefAt h4 (c' + 1) (c1 + 3) v L := by rw [e4]; exact B1.rf
          repeat' (first
            | refine WpC.seq ?_
            | refine WpC.region ?_
            | refine WpC.drawn ?_
            | refine WpC.skip ?_
            | refine WpC.block ?_
            | refine WpC.exit ?_
            | refine WpC.ret ?_
            | refine WpO.nil ?_
            | refine WpO.cons rfl rfl (WpX.pure (fun _ => rfl) ⟨nolog, ?_⟩)
            | refine WpO.skip rfl rfl ?_
            | refine WpL.cons rfl rfl (WpX.pure (fun _ => rfl) ⟨nolog, ?_⟩)
            | refine WpL.skip rfl rfl ?_
            | refine seqQ_normal ?_
            | refine seqQ_ret ?_
            | refine seqQ_exit ?_
            | refine blkQ_normal ?_
            | refine blkQ_ret ?_
            | refine blkQ_out rfl ?_
            | refine blkQ_by rfl ?_
            | refine WpO.cons rfl rfl (op_load rfl rfl rfl hd4 rfl ⟨(by simp [InL, Acc.name, rowName] <;> omega), ?_⟩)
            | refine WpL.cons rfl rfl (op_load rfl rfl rfl hd4 rfl ⟨(by simp [InL, Acc.name, rowName] <;> omega), ?_⟩))
          refine WpL.cons rfl rfl (call_atL rfl (rgone_ok r4 (by omega)) (fun n hn => .inr (by have := B1.foot n hn; omega)) (by omega) fun v5 h5 c5 al2 hal2 hc5 hfr5 hq => ?_)
          simp [hA] at hq
          obtain ⟨rfl, e5, rfl⟩ := hq
          have ha2 : ∀ x ∈ al2, x.name ≠ c' := fun x hx e => by
            rcases hal2 x hx with h | h
            · have := B1.rf.ne; rcases List.mem_cons.1 h with h | h
              · omega
              · have := B.rf.list.lt _ h; omega
            · omega
          repeat' (first
            | refine WpC.seq ?_
            | refine WpC.region ?_
            | refine WpC.drawn ?_
            | refine WpC.skip ?_
            | refine WpC.block ?_
            | refine WpC.exit ?_
            | refine WpC.ret ?_
            | refine WpO.nil ?_
            | refine WpO.cons rfl rfl (WpX.pure (fun _ => rfl) ⟨nolog, ?_⟩)
            | refine WpO.skip rfl rfl ?_
            | refine WpL.cons rfl rfl (WpX.pure (fun _ => rfl) ⟨nolog, ?_⟩)
            | refine WpL.skip rfl rfl ?_
            | refine seqQ_normal ?_
            | refine seqQ_ret ?_
            | refine seqQ_exit ?_
            | refine blkQ_normal ?_
            | refine blkQ_ret ?_
            | refine blkQ_out rfl ?_
            | refine blkQ_by rfl ?_)
          refine WpL.nil (logsOk_of (cs := [0, 0, 2, 7, 0, 0, 32, 127, 255, 511]) (by decide +kernel) ?_) ?_
          · simp +contextual [allP, apP, Dis, acc_rd, acc_wr, accw_rd, accw_wr, Nat.testBit, ha1, ha2]
          repeat' (first
            | refine WpC.seq ?_
            | refine WpC.region ?_
            | refine WpC.drawn ?_
            | refine WpC.skip ?_
            | refine WpC.block ?_
            | refine WpC.exit ?_
            | refine WpC.ret ?_
            | refine WpO.nil ?_
            | refine WpO.cons rfl rfl (WpX.pure (fun _ => rfl) ⟨nolog, ?_⟩)
            | refine WpO.skip rfl rfl ?_
            | refine WpL.cons rfl rfl (WpX.pure (fun _ => rfl) ⟨nolog, ?_⟩)
            | refine WpL.skip rfl rfl ?_
            | refine seqQ_normal ?_
            | refine seqQ_ret ?_
            | refine seqQ_exit ?_
            | refine blkQ_normal ?_
            | refine blkQ_ret ?_
            | refine blkQ_out rfl ?_
            | refine blkQ_by rfl ?_)
          exact ⟨v, L, set5 rfl rfl rfl rfl rfl, by rw [e5]; exact B4, by omega⟩
        | some n0 =>
          have hlk : L.lookup n0 = some z2 := B.uq.back hA
          repeat' (first
            | refine WpC.seq ?_
            | refine WpC.region ?_
            | refine WpC.drawn ?_
            | refine WpC.skip ?_
            | refine WpC.block ?_
            | refine WpC.exit ?_
            | refine WpC.ret ?_
            | refine WpO.nil ?_
            | refine WpO.cons rfl rfl (WpX.pure (fun _ => rfl) ⟨nolog, ?_⟩)
            | refine WpO.skip rfl rfl ?_
            | refine WpL.cons rfl rfl (WpX.pure (fun _ => rfl) ⟨nolog, ?_⟩)
            | refine WpL.skip rfl rfl ?_
            | refine seqQ_normal ?_
            | refine seqQ_ret ?_
            | refine seqQ_exit ?_
            | refine blkQ_normal ?_
            | refine blkQ_ret ?_
            | refine blkQ_out rfl ?_
            | refine blkQ_by rfl ?_
            | refine WpO.cons rfl rfl (op_load rfl rfl rfl (hd _ _) rfl ⟨(by simp [InL, Acc.name, rowName] <;> omega), ?_⟩)
            | refine WpL.cons rfl rfl (op_load rfl rfl rfl (hd _ _) rfl ⟨(by simp [InL, Acc.name, rowName] <;> omega), ?_⟩))
          refine WpL.cons rfl rfl (call_atL rfl (gone_ok B1.nm) (fun n hn => .inr (by simp at hn; omega)) (by omega) fun v4 h4 c4 al1 hal1 hc4 hfr4 hq => ?_)
          obtain ⟨rfl, hq⟩ := hq
          rcases hq with ⟨h9, _⟩ | ⟨nm9, h9, hq⟩
          · rw [hA] at h9; cases h9
          rw [hA] at h9; cases h9
          rcases hq with ⟨h9, _⟩ | ⟨q9, h9, rfl, n4⟩
          · rw [hlk] at h9; cases h9
          rw [hlk] at h9; cases h9
          have ha1 : ∀ x ∈ al1, x.name ≠ c' := fun x hx e => (hal1 x hx).elim (fun h => by simp at h; omega) (fun h => by omega)
          have hd4 : MapI.get h4 c' = some (.cells true true (tri (z0, z1, z2))) := by first | exact hd _ _ | (rw [hfr4 c' (by omega) (by simp; omega)]; exact hd _ _)
          have r4 : RefAt h4 (c' + 1) (c1 + 3) v L := by first | exact B1.rf | exact B1.rf.keep (Nat.le_refl _) fun n hn hm => hfr4 n hn (B1.apart n (by simp; exact hm))
          repeat' (first
            | refine WpC.seq ?_
            | refine WpC.region ?_
            | refine WpC.drawn ?_
            | refine WpC.skip ?_
            | refine WpC.block ?_
            | refine WpC.exit ?_
            | refine WpC.ret ?_
            | refine WpO.nil ?_
            | refine WpO.cons rfl rfl (WpX.pure (fun _ => rfl) ⟨nolog, ?_⟩)
            | refine WpO.skip rfl rfl ?_
            | refine WpL.cons rfl rfl (WpX.pure (fun _ => rfl) ⟨nolog, ?_⟩)
            | refine WpL.skip rfl rfl ?_
            | refine seqQ_normal ?_
            | refine seqQ_ret ?_
            | refine seqQ_exit ?_
            | refine blkQ_normal ?_
            | refine blkQ_ret ?_
            | refine blkQ_out rfl ?_
            | refine blkQ_by rfl ?_
            | refine WpO.cons rfl rfl (op_load rfl rfl rfl hd4 rfl ⟨(by simp [InL, Acc.name, rowName] <;> omega), ?_⟩)
            | refine WpL.cons rfl rfl (op_load rfl rfl rfl hd4 rfl ⟨(by simp [InL, Acc.name, rowName] <;> omega), ?_⟩))
          refine WpL.cons rfl rfl (call_atL rfl (rgone_ok r4 (by omega)) (fun n hn => .inr (by have := B1.foot n hn; omega)) (by omega) fun v5 h5 c5 al2 hal2 hc5 hfr5 hq => ?_)
          rcases hq with ⟨h9, _⟩ | ⟨nm9, h9, hv9, l', r5, hn5⟩
          · rw [hA] at h9; cases h9
          rw [hA] at h9; cases h9
          rw [hlk] at hv9
          subst hv9
          have ha2 : ∀ x ∈ al2, x.name ≠ c' := fun x hx e => by
            rcases hal2 x hx with h | h
            · have := B1.rf.ne; rcases List.mem_cons.1 h with h | h
              · omega
              · have := B.rf.list.lt _ h; omega
            · omega
          repeat' (first
            | refine WpC.seq ?_
            | refine WpC.region ?_
            | refine WpC.drawn ?_
            | refine WpC.skip ?_
            | refine WpC.block ?_
            | refine WpC.exit ?_
            | refine WpC.ret ?_
            | refine WpO.nil ?_
            | refine WpO.cons rfl rfl (WpX.pure (fun _ => rfl) ⟨nolog, ?_⟩)
            | refine WpO.skip rfl rfl ?_
            | refine WpL.cons rfl rfl (WpX.pure (fun _ => rfl) ⟨nolog, ?_⟩)
            | refine WpL.skip rfl rfl ?_
            | refine seqQ_normal ?_
            | refine seqQ_ret ?_
            | refine seqQ_exit ?_
            | refine blkQ_normal ?_
            | refine blkQ_ret ?_
            | refine blkQ_out rfl ?_
            | refine blkQ_by rfl ?_)
          refine WpL.nil (logsOk_of (cs := [0, 0, 2, 7, 0, 0, 32, 127, 255, 511]) (by decide +kernel) ?_) ?_
          · simp +contextual [allP, apP, Dis, acc_rd, acc_wr, accw_rd, accw_wr, Nat.testBit, ha1, ha2]
          repeat' (first
            | refine WpC.seq ?_
            | refine WpC.region ?_
            | refine WpC.drawn ?_
            | refine WpC.skip ?_
            | refine WpC.block ?_
            | refine WpC.exit ?_
            | refine WpC.ret ?_
            | refine WpO.nil ?_
            | refine WpO.cons rfl rfl (WpX.pure (fun _ => rfl) ⟨nolog, ?_⟩)
            | refine WpO.skip rfl rfl ?_
            | refine WpL.cons rfl rfl (WpX.pure (fun _ => rfl) ⟨nolog, ?_⟩)
            | refine WpL.skip rfl rfl ?_
            | refine seqQ_normal ?_
            | refine seqQ_ret ?_
            | refine seqQ_exit ?_
            | refine blkQ_normal ?_
            | refine blkQ_ret ?_
            | refine blkQ_out rfl ?_
            | refine blkQ_by rfl ?_)
          have n5 : NamesAt h5 c5 (c1 + 2) c1 (c1 + 1) (era n0 L) (sw (era n0 L)) := by
            rw [← B.uq.swap hlk]
            exact n4.keep hc5 fun n hn hm => hfr5 n hn (B1.apart2 n (by omega))
          refine ⟨l', era n0 L, set5 rfl rfl rfl rfl rfl, ⟨n5, r5, B.uq.era n0, fun n hn => ?_, by omega, fun n hn => ?_⟩, by have := era_length n0 L; omega⟩
          · rcases hn5 n hn with h | h
            · exact B.row n h
            · omega
          · rw [hfr5 n (by omega) (B1.apart2 n (by omega)), hfr4 n (by omega) (by simp; omega)]
            exact B1.old n hn
  · rintro e4 h4 c4 ⟨v', L', ⟨b4, rfl⟩, B4, hL4⟩
    have hle44 := B4.le
    obtain ⟨s4, cap4, hv4, _⟩ := B4.rf.shape
    have hobj4 := B4.rf.obj
    rw [hv4] at hobj4
    repeat' (first
      | refine WpC.seq ?_
      | refine WpC.region ?_
      | refine WpC.drawn ?_
      | refine WpC.skip ?_
      | refine WpC.block ?_
      | refine WpC.exit ?_
      | refine WpC.ret ?_
      | refine WpO.nil ?_
      | refine WpO.cons rfl rfl (WpX.pure (fun _ => rfl) ⟨nolog, ?_⟩)
      | refine WpO.skip rfl rfl ?_
      | refine WpL.cons rfl rfl (WpX.pure (fun _ => rfl) ⟨nolog, ?_⟩)
      | refine WpL.skip rfl rfl ?_
      | refine seqQ_normal ?_
      | refine seqQ_ret ?_
      | refine seqQ_exit ?_
      | refine blkQ_normal ?_
      | refine blkQ_ret ?_
      | refine blkQ_out rfl ?_
      | refine blkQ_by rfl ?_)
    refine WpL.cons rfl rfl (call_atL rfl (len_ok B4.nm) (fun n hn => .inr (by simp at hn; omega)) (by omega) fun v5 h5 c5 al1 hal1 hc5 hfr5 hq => ?_)
    obtain ⟨rfl, rfl, rfl⟩ := hq
    have ha1 : ∀ x ∈ al1, x.name ≠ c1 + 3 := fun x hx e => (hal1 x hx).elim (fun h => by simp at h; omega) (fun h => by omega)
    repeat' (first
      | refine WpC.seq ?_
      | refine WpC.region ?_
      | refine WpC.drawn ?_
      | refine WpC.skip ?_
      | refine WpC.block ?_
      | refine WpC.exit ?_
      | refine WpC.ret ?_
      | refine WpO.nil ?_
      | refine WpO.cons rfl rfl (WpX.pure (fun _ => rfl) ⟨nolog, ?_⟩)
      | refine WpO.skip rfl rfl ?_
      | refine WpL.cons rfl rfl (WpX.pure (fun _ => rfl) ⟨nolog, ?_⟩)
      | refine WpL.skip rfl rfl ?_
      | refine seqQ_normal ?_
      | refine seqQ_ret ?_
      | refine seqQ_exit ?_
      | refine blkQ_normal ?_
      | refine blkQ_ret ?_
      | refine blkQ_out rfl ?_
      | refine blkQ_by rfl ?_
      | refine WpO.cons rfl rfl (op_load rfl rfl rfl hobj4 rfl ⟨(by simp [InL, Acc.name, rowName] <;> omega), ?_⟩)
      | refine WpL.cons rfl rfl (op_load rfl rfl rfl hobj4 rfl ⟨(by simp [InL, Acc.name, rowName] <;> omega), ?_⟩)
      | refine WpO.cons rfl rfl (op_len rfl rfl rfl ⟨(by simp [InL, Acc.name, rowName] <;> omega), ?_⟩)
      | refine WpL.cons rfl rfl (op_len rfl rfl rfl ⟨(by simp [InL, Acc.name, rowName] <;> omega), ?_⟩))
    simp only [bne_self_eq_false, beq_self_eq_true, Bool.not_true]
    repeat' (first
      | refine WpC.seq ?_
      | refine WpC.region ?_
      | refine WpC.drawn ?_
      | refine WpC.skip ?_
      | refine WpC.block ?_
      | refine WpC.exit ?_
      | refine WpC.ret ?_
      | refine WpO.nil ?_
      | refine WpO.cons rfl rfl (WpX.pure (fun _ => rfl) ⟨nolog, ?_⟩)
      | refine WpO.skip rfl rfl ?_
      | refine WpL.cons rfl rfl (WpX.pure (fun _ => rfl) ⟨nolog, ?_⟩)
      | refine WpL.skip rfl rfl ?_
      | refine seqQ_normal ?_
      | refine seqQ_ret ?_
      | refine seqQ_exit ?_
      | refine blkQ_normal ?_
      | refine blkQ_ret ?_
      | refine blkQ_out rfl ?_
      | refine blkQ_by rfl ?_)
    refine WpL.nil (logsOk_of (cs := [0, 1, 3, 7, 15, 7, 39, 103, 231, 487, 1023, 2047]) (by decide +kernel) ?_) ?_
    · simp +contextual [allP, apP, Dis, acc_rd, acc_wr, accw_rd, accw_wr, Nat.testBit, ha1]
    repeat' (first
      | refine WpC.seq ?_
      | refine WpC.region ?_
      | refine WpC.drawn ?_
      | refine WpC.skip ?_
      | refine WpC.block ?_
      | refine WpC.exit ?_
      | refine WpC.ret ?_
      | refine WpO.nil ?_
      | refine WpO.cons rfl rfl (WpX.pure (fun _ => rfl) ⟨nolog, ?_⟩)
      | refine WpO.skip rfl rfl ?_
      | refine WpL.cons rfl rfl (WpX.pure (fun _ => rfl) ⟨nolog, ?_⟩)
      | refine WpL.skip rfl rfl ?_
      | refine seqQ_normal ?_
      | refine seqQ_ret ?_
      | refine seqQ_exit ?_
      | refine blkQ_normal ?_
      | refine blkQ_ret ?_
      | refine blkQ_out rfl ?_
      | refine blkQ_by rfl ?_)
    refine WpC.cond rfl (fun hb => by cases hb) (fun _ => ?_)
    repeat' (first
      | refine WpC.seq ?_
      | refine WpC.region ?_
      | refine WpC.drawn ?_
      | refine WpC.skip ?_
      | refine WpC.block ?_
      | refine WpC.exit ?_
      | refine WpC.ret ?_
      | refine WpO.nil ?_
      | refine WpO.cons rfl rfl (WpX.pure (fun _ => rfl) ⟨nolog, ?_⟩)
      | refine WpO.skip rfl rfl ?_
      | refine WpL.cons rfl rfl (WpX.pure (fun _ => rfl) ⟨nolog, ?_⟩)
      | refine WpL.skip rfl rfl ?_
      | refine seqQ_normal ?_
      | refine seqQ_ret ?_
      | refine seqQ_exit ?_
      | refine blkQ_normal ?_
      | refine blkQ_ret ?_
      | refine blkQ_out rfl ?_
      | refine blkQ_by rfl ?_)
    refine WpC.loop ?_
    refine WpLoop.ind (X := Nat) (fun k e h' c' => (∃ b0, e = MapI.set (MapI.set (MapI.set (MapI.set (MapI.set b0 0 (.slice (some (sn, 0)) zs.length cap)) 3 (.ptr (some (c1 + 2, 0)))) 4 (.ptr (some (c1 + 3, 0)))) 5 (I i)) 8 (I k)) ∧ k ≤ i + 1 ∧ Both h h' c c1 c' v' L')
      (fun k => i + 1 - k) ?_ 0 _ _ _ ⟨set5 rfl rfl rfl rfl rfl, by omega, B4⟩
    rintro k e h6 c6 ⟨⟨b6, rfl⟩, hk, B6⟩
    have hle6 := B6.le
    repeat' (first
      | refine WpC.seq ?_
      | refine WpC.region ?_
      | refine WpC.drawn ?_
      | refine WpC.skip ?_
      | refine WpC.block ?_
      | refine WpC.exit ?_
      | refine WpC.ret ?_
      | refine WpO.nil ?_
      | refine WpO.cons rfl rfl (WpX.pure (fun _ => rfl) ⟨nolog, ?_⟩)
      | refine WpO.skip rfl rfl ?_
      | refine WpL.cons rfl rfl (WpX.pure (fun _ => rfl) ⟨nolog, ?_⟩)
      | refine WpL.skip rfl rfl ?_
      | refine seqQ_normal ?_
      | refine seqQ_ret ?_
      | refine seqQ_exit ?_
      | refine blkQ_normal ?_
      | refine blkQ_ret ?_
      | refine blkQ_out rfl ?_
      | refine blkQ_by rfl ?_)
    refine WpC.cond rfl (fun hlt6 => ?_) (fun hge6 => ?_)
    case refine_2 =>
      repeat' (first
        | refine WpC.seq ?_
        | refine WpC.region ?_
        | refine WpC.drawn ?_
        | refine WpC.skip ?_
        | refine WpC.block ?_
        | refine WpC.exit ?_
        | refine WpC.ret ?_
        | refine WpO.nil ?_
        | refine WpO.cons rfl rfl (WpX.pure (fun _ => rfl) ⟨nolog, ?_⟩)
        | refine WpO.skip rfl rfl ?_
        | refine WpL.cons rfl rfl (WpX.pure (fun _ => rfl) ⟨nolog, ?_⟩)
        | refine WpL.skip rfl rfl ?_
        | refine seqQ_normal ?_
        | refine seqQ_ret ?_
        | refine seqQ_exit ?_
        | refine blkQ_normal ?_
        | refine blkQ_ret ?_
        | refine blkQ_out rfl ?_
        | refine blkQ_by rfl ?_)
      refine ⟨(i + 1, v', L'), by simp only; omega, ?_, by omega, B6, hL4⟩
      rw [hw1]
      exact set4 rfl rfl rfl rfl
    have hki : k ≤ i := by simpa using hlt6
    obtain ⟨⟨y0, y1, y2⟩, hy⟩ : ∃ z, zs[k]? = some z := ⟨_, List.getElem?_eq_getElem (by omega)⟩
    obtain ⟨_, hy1, hy2⟩ := nth_tri hy
    have hy1 : nth (zs.map tri).flatten (0 + ((k : Nat) : Int).toNat * 3 + 1) = some (I y1) := by
      have : 0 + ((k : Nat) : Int).toNat * 3 + 1 = k * 3 + 1 := by simp
      rw [this]; exact hy1
    have hy2 : nth (zs.map tri).flatten (0 + ((k : Nat) : Int).toNat * 3 + 2) = some (I y2) := by
      have : 0 + ((k : Nat) : Int).toNat * 3 + 2 = k * 3 + 2 := by simp
      rw [this]; exact hy2
    have hg6 : MapI.get h6 sn = some (.cells false false (zs.map tri).flatten) := by rw [B6.old sn hsn]; exact hget
    have hwk : IntKind.i64.wrap ((k : Int) + 1) = ((k + 1 : Nat) : Int) := by rw [Go.IntWalk.i64_in _ (by omega)]; omega
    repeat' (first
      | refine WpC.seq ?_
      | refine WpC.region ?_
      | refine WpC.drawn ?_
      | refine WpC.skip ?_
      | refine WpC.block ?_
      | refine WpC.exit ?_
      | refine WpC.ret ?_
      | refine WpO.nil ?_
      | refine WpO.cons rfl rfl (WpX.pure (fun _ => rfl) ⟨nolog, ?_⟩)
      | refine WpO.skip rfl rfl ?_
      | refine WpL.cons rfl rfl (WpX.pure (fun _ => rfl) ⟨nolog, ?_⟩)
      | refine WpL.skip rfl rfl ?_
      | refine seqQ_normal ?_
      | refine seqQ_ret ?_
      | refine seqQ_exit ?_
      | refine blkQ_normal ?_
      | refine blkQ_ret ?_
      | refine blkQ_out rfl ?_
      | refine blkQ_by rfl ?_
      | refine WpO.cons rfl rfl (op_indexAddr (k := 3) rfl rfl rfl rfl ⟨by omega, by omega⟩ ⟨(by simp [InL, Acc.name, rowName] <;> omega), ?_⟩)
      | refine WpL.cons rfl rfl (op_indexAddr (k := 3) rfl rfl rfl rfl ⟨by omega, by omega⟩ ⟨(by simp [InL, Acc.name, rowName] <;> omega), ?_⟩)
      | refine WpO.cons rfl rfl (op_load rfl rfl rfl hg6 hy1 ⟨(by simp [InL, Acc.name, rowName] <;> omega), ?_⟩)
      | refine WpL.cons rfl rfl (op_load rfl rfl rfl hg6 hy1 ⟨(by simp [InL, Acc.name, rowName] <;> omega), ?_⟩)
      | refine WpO.cons rfl rfl (op_load rfl rfl rfl hg6 hy2 ⟨(by simp [InL, Acc.name, rowName] <;> omega), ?_⟩)
      | refine WpL.cons rfl rfl (op_load rfl rfl rfl hg6 hy2 ⟨(by simp [InL, Acc.name, rowName] <;> omega), ?_⟩))
    refine WpO.cons rfl rfl (call_at rfl (whereis_ok B6.nm) (fun n hn => .inr (by simp at hn; omega)) (by omega) fun v7 h7 c7 hc7 hfr7 hq => ?_)
    obtain ⟨rfl, rfl, rfl⟩ := hq
    repeat' (first
      | refine WpC.seq ?_
      | refine WpC.region ?_
      | refine WpC.drawn ?_
      | refine WpC.skip ?_
      | refine WpC.block ?_
      | refine WpC.exit ?_
      | refine WpC.ret ?_
      | refine WpO.nil ?_
      | refine WpO.cons rfl rfl (WpX.pure (fun _ => rfl) ⟨nolog, ?_⟩)
      | refine WpO.skip rfl rfl ?_
      | refine WpL.cons rfl rfl (WpX.pure (fun _ => rfl) ⟨nolog, ?_⟩)
      | refine WpL.skip rfl rfl ?_
      | refine seqQ_normal ?_
      | refine seqQ_ret ?_
      | refine seqQ_exit ?_
      | refine blkQ_normal ?_
      | refine blkQ_ret ?_
      | refine blkQ_out rfl ?_
      | refine blkQ_by rfl ?_
      | refine WpO.cons rfl rfl (op_indexAddr (k := 3) rfl rfl rfl rfl ⟨by omega, by omega⟩ ⟨(by simp [InL, Acc.name, rowName] <;> omega), ?_⟩)
      | refine WpL.cons rfl rfl (op_indexAddr (k := 3) rfl rfl rfl rfl ⟨by omega, by omega⟩ ⟨(by simp [InL, Acc.name, rowName] <;> omega), ?_⟩)
      | refine WpO.cons rfl rfl (op_load rfl rfl rfl hg6 hy1 ⟨(by simp [InL, Acc.name, rowName] <;> omega), ?_⟩)
      | refine WpL.cons rfl rfl (op_load rfl rfl rfl hg6 hy1 ⟨(by simp [InL, Acc.name, rowName] <;> omega), ?_⟩)
      | refine WpO.cons rfl rfl (op_load rfl rfl rfl hg6 hy2 ⟨(by simp [InL, Acc.name, rowName] <;> omega), ?_⟩)
      | refine WpL.cons rfl rfl (op_load rfl rfl rfl hg6 hy2 ⟨(by simp [InL, Acc.name, rowName] <;> omega), ?_⟩))
    refine WpO.cons rfl rfl (call_at rfl (rwhereis_ok B6.rf (by omega)) (fun n hn => .inr (by have := B6.foot n hn; omega)) (by omega) fun v8 h8 c8 hc8 hfr8 hq => ?_)
    obtain ⟨rfl, hk8⟩ := hq
    have B8 : Both h h8 c c1 c8 v' L' := B6.keep (by omega) hc8 hk8
    have hg8 : MapI.get h8 sn = some (.cells false false (zs.map tri).flatten) := by rw [B8.old sn hsn]; exact hget
    repeat' (first
      | refine WpC.seq ?_
      | refine WpC.region ?_
      | refine WpC.drawn ?_
      | refine WpC.skip ?_
      | refine WpC.block ?_
      | refine WpC.exit ?_
      | refine WpC.ret ?_
      | refine WpO.nil ?_
      | refine WpO.cons rfl rfl (WpX.pure (fun _ => rfl) ⟨nolog, ?_⟩)
      | refine WpO.skip rfl rfl ?_
      | refine WpL.cons rfl rfl (WpX.pure (fun _ => rfl) ⟨nolog, ?_⟩)
      | refine WpL.skip rfl rfl ?_
      | refine seqQ_normal ?_
      | refine seqQ_ret ?_
      | refine seqQ_exit ?_
      | refine blkQ_normal ?_
      | refine blkQ_ret ?_
      | refine blkQ_out rfl ?_
      | refine blkQ_by rfl ?_
      | refine WpO.cons rfl rfl (op_indexAddr (k := 3) rfl rfl rfl rfl ⟨by omega, by omega⟩ ⟨(by simp [InL, Acc.name, rowName] <;> omega), ?_⟩)
      | refine WpL.cons rfl rfl (op_indexAddr (k := 3) rfl rfl rfl rfl ⟨by omega, by omega⟩ ⟨(by simp [InL, Acc.name, rowName] <;> omega), ?_⟩)
      | refine WpO.cons rfl rfl (op_load rfl rfl rfl hg8 hy1 ⟨(by simp [InL, Acc.name, rowName] <;> omega), ?_⟩)
      | refine WpL.cons rfl rfl (op_load rfl rfl rfl hg8 hy1 ⟨(by simp [InL, Acc.name, rowName] <;> omega), ?_⟩)
      | refine WpO.cons rfl rfl (op_load rfl rfl rfl hg8 hy2 ⟨(by simp [InL, Acc.name, rowName] <;> omega), ?_⟩)
      | refine WpL.cons rfl rfl (op_load rfl rfl rfl hg8 hy2 ⟨(by simp [InL, Acc.name, rowName] <;> omega), ?_⟩))
    refine WpO.cons rfl rfl (call_at rfl (name_ok B8.nm) (fun n hn => .inr (by simp at hn; omega)) (by omega) fun v9 h9 c9 hc9 hfr9 hq => ?_)
    obtain ⟨rfl, rfl, rfl⟩ := hq
    repeat' (first
      | refine WpC.seq ?_
      | refine WpC.region ?_
      | refine WpC.drawn ?_
      | refine WpC.skip ?_
      | refine WpC.block ?_
      | refine WpC.exit ?_
      | refine WpC.ret ?_
      | refine WpO.nil ?_
      | refine WpO.cons rfl rfl (WpX.pure (fun _ => rfl) ⟨nolog, ?_⟩)
      | refine WpO.skip rfl rfl ?_
      | refine WpL.cons rfl rfl (WpX.pure (fun _ => rfl) ⟨nolog, ?_⟩)
      | refine WpL.skip rfl rfl ?_
      | refine seqQ_normal ?_
      | refine seqQ_ret ?_
      | refine seqQ_exit ?_
      | refine blkQ_normal ?_
      | refine blkQ_ret ?_
      | refine blkQ_out rfl ?_
      | refine blkQ_by rfl ?_
      | refine WpO.cons rfl rfl (op_indexAddr (k := 3) rfl rfl rfl rfl ⟨by omega, by omega⟩ ⟨(by simp [InL, Acc.name, rowName] <;> omega), ?_⟩)
      | refine WpL.cons rfl rfl (op_indexAddr (k := 3) rfl rfl rfl rfl ⟨by omega, by omega⟩ ⟨(by simp [InL, Acc.name, rowName] <;> omega), ?_⟩)
      | refine WpO.cons rfl rfl (op_load rfl rfl rfl hg8 hy1 ⟨(by simp [InL, Acc.name, rowName] <;> omega), ?_⟩)
      | refine WpL.cons rfl rfl (op_load rfl rfl rfl hg8 hy1 ⟨(by simp [InL, Acc.name, rowName] <;> omega), ?_⟩)
      | refine WpO.cons rfl rfl (op_load rfl rfl rfl hg8 hy2 ⟨(by simp [InL, Acc.name, rowName] <;> omega), ?_⟩)
      | refine WpL.cons rfl rfl (op_load rfl rfl rfl hg8 hy2 ⟨(by simp [InL, Acc.name, rowName] <;> omega), ?_⟩))
    refine WpO.cons rfl rfl (call_at rfl (rname_ok B8.rf (by omega)) (fun n hn => .inr (by have := B8.foot n hn; omega)) (by omega) fun v9 h9 c9 hc9 hfr9 hq => ?_)
    obtain ⟨rfl, rfl, rfl⟩ := hq
    repeat' (first
      | refine WpC.seq ?_
      | refine WpC.region ?_
      | refine WpC.drawn ?_
      | refine WpC.skip ?_
      | refine WpC.block ?_
      | refine WpC.exit ?_
      | refine WpC.ret ?_
      | refine WpO.nil ?_
      | refine WpO.cons rfl rfl (WpX.pure (fun _ => rfl) ⟨nolog, ?_⟩)
      | refine WpO.skip rfl rfl ?_
      | refine WpL.cons rfl rfl (WpX.pure (fun _ => rfl) ⟨nolog, ?_⟩)
      | refine WpL.skip rfl rfl ?_
      | refine seqQ_normal ?_
      | refine seqQ_ret ?_
      | refine seqQ_exit ?_
      | refine blkQ_normal ?_
      | refine blkQ_ret ?_
      | refine blkQ_out rfl ?_
      | refine blkQ_by rfl ?_)
    simp only [bne_self_eq_false, beq_self_eq_true, Bool.not_true]
    repeat' (first
      | refine WpC.seq ?_
      | refine WpC.region ?_
      | refine WpC.drawn ?_
      | refine WpC.skip ?_
      | refine WpC.block ?_
      | refine WpC.exit ?_
      | refine WpC.ret ?_
      | refine WpO.nil ?_
      | refine WpO.cons rfl rfl (WpX.pure (fun _ => rfl) ⟨nolog, ?_⟩)
      | refine WpO.skip rfl rfl ?_
      | refine WpL.cons rfl rfl (WpX.pure (fun _ => rfl) ⟨nolog, ?_⟩)
      | refine WpL.skip rfl rfl ?_
      | refine seqQ_normal ?_
      | refine seqQ_ret ?_
      | refine seqQ_exit ?_
      | refine blkQ_normal ?_
      | refine blkQ_ret ?_
      | refine blkQ_out rfl ?_
      | refine blkQ_by rfl ?_)
    simp only [bne_self_eq_false, beq_self_eq_true, Bool.not_true]
    repeat' (first
      | refine WpC.seq ?_
      | refine WpC.region ?_
      | refine WpC.drawn ?_
      | refine WpC.skip ?_
      | refine WpC.block ?_
      | refine WpC.exit ?_
      | refine WpC.ret ?_
      | refine WpO.nil ?_
      | refine WpO.cons rfl rfl (WpX.pure (fun _ => rfl) ⟨nolog, ?_⟩)
      | refine WpO.skip rfl rfl ?_
      | refine WpL.cons rfl rfl (WpX.pure (fun _ => rfl) ⟨nolog, ?_⟩)
      | refine WpL.skip rfl rfl ?_
      | refine seqQ_normal ?_
      | refine seqQ_ret ?_
      | refine seqQ_exit ?_
      | refine blkQ_normal ?_
      | refine blkQ_ret ?_
      | refine blkQ_out rfl ?_
      | refine blkQ_by rfl ?_)
    simp only [bne_self_eq_false, beq_self_eq_true, Bool.not_true]
    repeat' (first
      | refine WpC.seq ?_
      | refine WpC.region ?_
      | refine WpC.drawn ?_
      | refine WpC.skip ?_
      | refine WpC.block ?_
      | refine WpC.exit ?_
      | refine WpC.ret ?_
      | refine WpO.nil ?_
      | refine WpO.cons rfl rfl (WpX.pure (fun _ => rfl) ⟨nolog, ?_⟩)
      | refine WpO.skip rfl rfl ?_
      | refine WpL.cons rfl rfl (WpX.pure (fun _ => rfl) ⟨nolog, ?_⟩)
      | refine WpL.skip rfl rfl ?_
      | refine seqQ_normal ?_
      | refine seqQ_ret ?_
      | refine seqQ_exit ?_
      | refine blkQ_normal ?_
      | refine blkQ_ret ?_
      | refine blkQ_out rfl ?_
      | refine blkQ_by rfl ?_)
    simp only [bne_self_eq_false, beq_self_eq_true, Bool.not_true]
    repeat' (first
      | refine WpC.seq ?_
      | refine WpC.region ?_
      | refine WpC.drawn ?_
      | refine WpC.skip ?_
      | refine WpC.block ?_
      | refine WpC.exit ?_
      | refine WpC.ret ?_
      | refine WpO.nil ?_
      | refine WpO.cons rfl rfl (WpX.pure (fun _ => rfl) ⟨nolog, ?_⟩)
      | refine WpO.skip rfl rfl ?_
      | refine WpL.cons rfl rfl (WpX.pure (fun _ => rfl) ⟨nolog, ?_⟩)
      | refine WpL.skip rfl rfl ?_
      | refine seqQ_normal ?_
      | refine seqQ_ret ?_
      | refine seqQ_exit ?_
      | refine blkQ_normal ?_
      | refine blkQ_ret ?_
      | refine blkQ_out rfl ?_
      | refine blkQ_by rfl ?_)
    refine WpC.cond rfl (fun hb => by cases hb) (fun _ => ?_)
    repeat' (first
      | refine WpC.seq ?_
      | refine WpC.region ?_
      | refine WpC.drawn ?_
      | refine WpC.skip ?_
      | refine WpC.block ?_
      | refine WpC.exit ?_
      | refine WpC.ret ?_
      | refine WpO.nil ?_
      | refine WpO.cons rfl rfl (WpX.pure (fun _ => rfl) ⟨nolog, ?_⟩)
      | refine WpO.skip rfl rfl ?_
      | refine WpL.cons rfl rfl (WpX.pure (fun _ => rfl) ⟨nolog, ?_⟩)
      | refine WpL.skip rfl rfl ?_
      | refine seqQ_normal ?_
      | refine seqQ_ret ?_
      | refine seqQ_exit ?_
      | refine blkQ_normal ?_
      | refine blkQ_ret ?_
      | refine blkQ_out rfl ?_
      | refine blkQ_by rfl ?_)
    refine ⟨k + 1, by omega, ?_, by omega, B8⟩
    rw [hwk]
    exact set5 rfl rfl rfl rfl rfl

theorem plays_walk {T : Type} {ds : List (DataW T)} : ∀ (h : HH) (c : Nat) (xs : List V), ArgsR Try.prog h c [22] xs ds → WpX (cl 3 xs) h c fun v _ _ _ => v = .bool true := by
  intro h c xs r
  cases r with
  | cons a ha r =>
    cases r
    obtain ⟨zs, hl, _⟩ := AR.rows (e := 31) (cells := tri) (good := fun _ => True) (k := 3) rfl (ha.trans rfl) (fun _ => rfl) (fun vs d a => by
      obtain ⟨vss, ds, rfl, rfl, b⟩ := a.inv_struct (fs := _) rfl
      cases b with
      | cons b0 _ b =>
        cases b with
        | cons b1 _ b =>
          cases b with
          | cons b2 _ b =>
            cases b
            obtain ⟨z0, rfl, _⟩ := b0.inv_int (k := .i64) rfl
            obtain ⟨z1, rfl, _⟩ := b1.inv_int (k := .i64) rfl
            obtain ⟨z2, rfl, _⟩ := b2.inv_int (k := .i64) rfl
            exact ⟨(z0, z1, z2), rfl, trivial⟩) a
    exact WpX.mono (plays_law hl) fun v h' c' l q => q.2.2.2
end Go.Proofs.Ytjincciacbfhiaa
