/- ProcStack: the law's walk. -/
import Derived.Test.YtempfmkicpifkaaPs13W
set_option linter.unusedVariables false
set_option linter.unusedSectionVars false
set_option linter.unusedSimpArgs false
set_option linter.unnecessarySimpa false
namespace Go.Proofs.Ytempfmkicpifkaa.Ps
open Go.Ab
set_option maxRecDepth 10000
abbrev FR (b0 : EE) (l : V) (q p : Nat) (vb vf : V) (d f i : Nat) : EE :=
  MapI.set (MapI.set (MapI.set (MapI.set (MapI.set (MapI.set (MapI.set (MapI.set b0 0 l) 5 (.ptr (some (q, 0)))) 6 (.ptr (some (p, 0)))) 9 vb) 10 vf) 11 (I d)) 12 (I f)) 13 (I i)
set_option maxHeartbeats 16000000 in
theorem stack_law {h : HH} {c m : Nat} {l : V} {zs : List Int} (hl : RowArg h c l 1 zs.length (zs.map (.int .u8))) (hz : ∀ z ∈ zs, 0 ≤ z ∧ z < 256) (hm : m < 256) (hcl : Clear h c) : Does 3 [l, .int .u8 m] h c (rowName l) fun v h' c' => v = .bool true := by
  refine does_of (enter (fn := Try.f3) Try.func3 rfl rfl (Nat.le_of_ble_eq_true rfl) ?_)
  repeat' (first
    | refine WpC.seq ?_
    | refine WpC.region ?_
    | refine WpC.drawn ?_
    | refine WpC.skip ?_
    | refine WpC.block ?_
    | refine WpC.exit ?_
    | refine WpC.ret ?_
    | refine WpO.nil ?_
    | refine WpO.cons rfl rfl (WpX.pure (fun _ => rfl) ⟨nolog, ?_⟩)
    | refine WpO.skip rfl rfl ?_
    | refine WpL.cons rfl rfl (WpX.pure (fun _ => rfl) ⟨nolog, ?_⟩)
    | refine WpL.skip rfl rfl ?_
    | refine seqQ_normal ?_
    | refine seqQ_ret ?_
    | refine seqQ_exit ?_
    | refine blkQ_normal ?_
    | refine blkQ_ret ?_
    | refine blkQ_out rfl ?_
    | refine blkQ_by rfl ?_)
  refine WpO.cons rfl rfl (call_at rfl (shut_ok rfl) (by simp) (Nat.le_refl _) fun v h1 c1 hc1 hfr1 hq => ?_)
  obtain ⟨rfl, rfl, rfl⟩ := hq
  repeat' (first
    | refine WpC.seq ?_
    | refine WpC.region ?_
    | refine WpC.drawn ?_
    | refine WpC.skip ?_
    | refine WpC.block ?_
    | refine WpC.exit ?_
    | refine WpC.ret ?_
    | refine WpO.nil ?_
    | refine WpO.cons rfl rfl (WpX.pure (fun _ => rfl) ⟨nolog, ?_⟩)
    | refine WpO.skip rfl rfl ?_
    | refine WpL.cons rfl rfl (WpX.pure (fun _ => rfl) ⟨nolog, ?_⟩)
    | refine WpL.skip rfl rfl ?_
    | refine seqQ_normal ?_
    | refine seqQ_ret ?_
    | refine seqQ_exit ?_
    | refine blkQ_normal ?_
    | refine blkQ_ret ?_
    | refine blkQ_out rfl ?_
    | refine blkQ_by rfl ?_)
  refine WpC.cond rfl (fun hb => by cases hb) (fun _ => ?_)
  obtain ⟨s, cap, rfl, hs⟩ : ∃ a cap, l = .slice a zs.length cap ∧ (∀ i, i < zs.length → ∃ s, a = some (s, 0) ∧ s < c1 ∧ MapI.get h1 s = some (.cells false false (zs.map (.int .u8)))) := by
    rcases hl.is with ⟨rfl, hz⟩ | ⟨s, cap, rfl, h1, _, _, h2⟩
    · exact ⟨none, .known 0, by rw [hz], fun i hi => by omega⟩
    · exact ⟨_, .known cap, rfl, fun i hi => ⟨s, rfl, h1, h2 (by omega)⟩⟩
  repeat' (first
    | refine WpC.seq ?_
    | refine WpC.region ?_
    | refine WpC.drawn ?_
    | refine WpC.skip ?_
    | refine WpC.block ?_
    | refine WpC.exit ?_
    | refine WpC.ret ?_
    | refine WpO.nil ?_
    | refine WpO.cons rfl rfl (WpX.pure (fun _ => rfl) ⟨nolog, ?_⟩)
    | refine WpO.skip rfl rfl ?_
    | refine WpL.cons rfl rfl (WpX.pure (fun _ => rfl) ⟨nolog, ?_⟩)
    | refine WpL.skip rfl rfl ?_
    | refine seqQ_normal ?_
    | refine seqQ_ret ?_
    | refine seqQ_exit ?_
    | refine blkQ_normal ?_
    | refine blkQ_ret ?_
    | refine blkQ_out rfl ?_
    | refine blkQ_by rfl ?_
    | refine WpO.cons rfl rfl (op_len rfl rfl rfl ⟨(by simp [InL, Acc.name, rowName] <;> omega), ?_⟩)
    | refine WpL.cons rfl rfl (op_len rfl rfl rfl ⟨(by simp [InL, Acc.name, rowName] <;> omega), ?_⟩))
  refine WpC.cond rfl (fun _ => ?_) (fun hn => ?_)
  ·
    repeat' (first
      | refine WpC.seq ?_
      | refine WpC.region ?_
      | refine WpC.drawn ?_
      | refine WpC.skip ?_
      | refine WpC.block ?_
      | refine WpC.exit ?_
      | refine WpC.ret ?_
      | refine WpO.nil ?_
      | refine WpO.cons rfl rfl (WpX.pure (fun _ => rfl) ⟨nolog, ?_⟩)
      | refine WpO.skip rfl rfl ?_
      | refine WpL.cons rfl rfl (WpX.pure (fun _ => rfl) ⟨nolog, ?_⟩)
      | refine WpL.skip rfl rfl ?_
      | refine seqQ_normal ?_
      | refine seqQ_ret ?_
      | refine seqQ_exit ?_
      | refine blkQ_normal ?_
      | refine blkQ_ret ?_
      | refine blkQ_out rfl ?_
      | refine blkQ_by rfl ?_)
    exact out_ret rfl rfl
  have hlen : (zs.length : Int) ≤ 60 := by simpa using hn
  repeat' (first
    | refine WpC.seq ?_
    | refine WpC.region ?_
    | refine WpC.drawn ?_
    | refine WpC.skip ?_
    | refine WpC.block ?_
    | refine WpC.exit ?_
    | refine WpC.ret ?_
    | refine WpO.nil ?_
    | refine WpO.cons rfl rfl (WpX.pure (fun _ => rfl) ⟨nolog, ?_⟩)
    | refine WpO.skip rfl rfl ?_
    | refine WpL.cons rfl rfl (WpX.pure (fun _ => rfl) ⟨nolog, ?_⟩)
    | refine WpL.skip rfl rfl ?_
    | refine seqQ_normal ?_
    | refine seqQ_ret ?_
    | refine seqQ_exit ?_
    | refine blkQ_normal ?_
    | refine blkQ_ret ?_
    | refine blkQ_out rfl ?_
    | refine blkQ_by rfl ?_)
  refine WpO.cons rfl rfl (call_atT rfl limits_ok hcl (by simp) (Nat.le_refl _) fun v h2 q al2 hal2 k2 hc2 hfr2 hq => ?_)
  obtain ⟨rfl, _⟩ := hq
  have hg2 : ∀ x : AObj, MapI.get (MapI.set h2 q x) q = some x := fun x => MapI.get_same _ _ _
  have hg3 : ∀ x y : AObj, MapI.get (MapI.set (MapI.set h2 q x) q y) q = some y := fun x y => MapI.get_same _ _ _
  have hg4 : ∀ x y z : AObj, MapI.get (MapI.set (MapI.set (MapI.set h2 q x) q y) q z) q = some z := fun x y z => MapI.get_same _ _ _
  have k4 : ∀ x y z : AObj, Clear (MapI.set (MapI.set (MapI.set h2 q x) q y) q z) (q + 1) := fun x y z => Clear.set (Clear.set (Clear.new k2) (by omega)) (by omega)
  have hst := num_st m hm
  have hst1 : 1 ≤ 1 + m % 40 ∧ 1 + m % 40 ≤ 40 := by omega
  generalize 1 + m % 40 = st at hst hst1
  repeat' (first
    | refine WpC.seq ?_
    | refine WpC.region ?_
    | refine WpC.drawn ?_
    | refine WpC.skip ?_
    | refine WpC.block ?_
    | refine WpC.exit ?_
    | refine WpC.ret ?_
    | refine WpO.nil ?_
    | refine WpO.cons rfl rfl (WpX.pure (fun _ => rfl) ⟨nolog, ?_⟩)
    | refine WpO.skip rfl rfl ?_
    | refine WpL.cons rfl rfl (WpX.pure (fun _ => rfl) ⟨nolog, ?_⟩)
    | refine WpL.skip rfl rfl ?_
    | refine seqQ_normal ?_
    | refine seqQ_ret ?_
    | refine seqQ_exit ?_
    | refine blkQ_normal ?_
    | refine blkQ_ret ?_
    | refine blkQ_out rfl ?_
    | refine blkQ_by rfl ?_
    | refine WpO.cons rfl rfl (op_alloc rfl ⟨(by simp [InL, Acc.name, rowName] <;> omega), ?_⟩)
    | refine WpL.cons rfl rfl (op_alloc rfl ⟨(by simp [InL, Acc.name, rowName] <;> omega), ?_⟩)
    | refine WpO.cons rfl rfl (op_store (k := 5) rfl rfl rfl rfl (hg2 _) (Nat.le_of_ble_eq_true rfl) rfl ⟨(by simp [InL, Acc.name, rowName] <;> omega), ?_⟩)
    | refine WpL.cons rfl rfl (op_store (k := 5) rfl rfl rfl rfl (hg2 _) (Nat.le_of_ble_eq_true rfl) rfl ⟨(by simp [InL, Acc.name, rowName] <;> omega), ?_⟩)
    | refine WpO.cons rfl rfl (op_store (k := 1) rfl rfl rfl rfl (hg3 _ _) (Nat.le_of_ble_eq_true rfl) rfl ⟨(by simp [InL, Acc.name, rowName] <;> omega), ?_⟩)
    | refine WpL.cons rfl rfl (op_store (k := 1) rfl rfl rfl rfl (hg3 _ _) (Nat.le_of_ble_eq_true rfl) rfl ⟨(by simp [InL, Acc.name, rowName] <;> omega), ?_⟩))
  simp only [hst]
  have hct : cut [I 400, I 200, I 9, I 6, I st] 0 5 = some [I 400, I 200, I 9, I 6, I st] := rfl
  repeat' (first
    | refine WpC.seq ?_
    | refine WpC.region ?_
    | refine WpC.drawn ?_
    | refine WpC.skip ?_
    | refine WpC.block ?_
    | refine WpC.exit ?_
    | refine WpC.ret ?_
    | refine WpO.nil ?_
    | refine WpO.cons rfl rfl (WpX.pure (fun _ => rfl) ⟨nolog, ?_⟩)
    | refine WpO.skip rfl rfl ?_
    | refine WpL.cons rfl rfl (WpX.pure (fun _ => rfl) ⟨nolog, ?_⟩)
    | refine WpL.skip rfl rfl ?_
    | refine seqQ_normal ?_
    | refine seqQ_ret ?_
    | refine seqQ_exit ?_
    | refine blkQ_normal ?_
    | refine blkQ_ret ?_
    | refine blkQ_out rfl ?_
    | refine blkQ_by rfl ?_
    | refine WpO.cons rfl rfl (op_loadA rfl rfl rfl rfl (hg4 _ _ _) hct ⟨(by simp [InL, Acc.name, rowName] <;> omega), ?_⟩)
    | refine WpL.cons rfl rfl (op_loadA rfl rfl rfl rfl (hg4 _ _ _) hct ⟨(by simp [InL, Acc.name, rowName] <;> omega), ?_⟩))
  refine WpO.cons rfl rfl (call_at rfl (fresh_ok (st := st) (by omega) (k4 _ _ _)) (by simp) (by omega) fun v h3 c3 hc3 hfr3 hq => ?_)
  obtain ⟨p, R, cv, v1, v2, rfl, hp, hnm, r⟩ := hq
  repeat' (first
    | refine WpC.seq ?_
    | refine WpC.region ?_
    | refine WpC.drawn ?_
    | refine WpC.skip ?_
    | refine WpC.block ?_
    | refine WpC.exit ?_
    | refine WpC.ret ?_
    | refine WpO.nil ?_
    | refine WpO.cons rfl rfl (WpX.pure (fun _ => rfl) ⟨nolog, ?_⟩)
    | refine WpO.skip rfl rfl ?_
    | refine WpL.cons rfl rfl (WpX.pure (fun _ => rfl) ⟨nolog, ?_⟩)
    | refine WpL.skip rfl rfl ?_
    | refine seqQ_normal ?_
    | refine seqQ_ret ?_
    | refine seqQ_exit ?_
    | refine blkQ_normal ?_
    | refine blkQ_ret ?_
    | refine blkQ_out rfl ?_
    | refine blkQ_by rfl ?_)
  refine WpC.cond rfl (fun hb => by cases hb) (fun _ => ?_)
  repeat' (first
    | refine WpC.seq ?_
    | refine WpC.region ?_
    | refine WpC.drawn ?_
    | refine WpC.skip ?_
    | refine WpC.block ?_
    | refine WpC.exit ?_
    | refine WpC.ret ?_
    | refine WpO.nil ?_
    | refine WpO.cons rfl rfl (WpX.pure (fun _ => rfl) ⟨nolog, ?_⟩)
    | refine WpO.skip rfl rfl ?_
    | refine WpL.cons rfl rfl (WpX.pure (fun _ => rfl) ⟨nolog, ?_⟩)
    | refine WpL.skip rfl rfl ?_
    | refine seqQ_normal ?_
    | refine seqQ_ret ?_
    | refine seqQ_exit ?_
    | refine blkQ_normal ?_
    | refine blkQ_ret ?_
    | refine blkQ_out rfl ?_
    | refine blkQ_by rfl ?_)
  refine WpC.loop ?_
  have hbox : MapI.get h3 q = some (.cells true true [I 400, I 200, I 9, I 6, I st]) := (hfr3 q (by omega) (by simp)).trans (hg4 _ _ _)
  have hold : ∀ n, n < c1 → MapI.get h3 n = MapI.get h1 n := fun n hn => by
    rw [hfr3 n (by omega) (by simp), MapI.get_ne _ _ _ _ (by omega), MapI.get_ne _ _ _ _ (by omega), MapI.get_ne _ _ _ _ (by omega), hfr2 n hn (by simp)]
  have start : PI h1 h3 c1 (q + 1) c3 q p R st cv (.slice none 0 (.known 0)) (.slice none 0 (.known 0)) [] ⟨0, none, []⟩ 0 :=
    ⟨⟨r, hbox, .nil, .nil, hold, fun n hn => (by
      rcases pn_cases hn with h | h | ⟨b, hb, h⟩
      · omega
      · exact hnm n h
      · simp at hb; subst hb; cases h), fun n hn => (by cases hn), fun n hn => (by cases hn), fun n hn => (by cases hn), fun n hn => (by cases hn), ⟨hc2, by omega⟩, hc3⟩,
      by simp [depth]; omega, Nat.zero_le _, fun a ha hne => (by simp at ha; subst ha; exact absurd rfl hne), hst1⟩
  refine WpLoop.ind (X := Nat × List Cal × Cal × V × V × V) (fun x e h' c' => (∃ b0, e = FR b0 (.slice s zs.length cap) q p x.2.2.2.2.1 x.2.2.2.2.2 (depth (x.2.1 ++ [x.2.2.1])) x.2.2.1.ws.length x.1) ∧ x.1 ≤ zs.length ∧
      PI h1 h' c1 (q + 1) c' q p R st x.2.2.2.1 x.2.2.2.2.1 x.2.2.2.2.2 x.2.1 x.2.2.1 x.1)
    (fun x => zs.length - x.1) ?_ (0, [], ⟨0, none, []⟩, cv, .slice none 0 (.known 0), .slice none 0 (.known 0)) _ _ _ ⟨set8 rfl rfl rfl rfl rfl rfl rfl rfl, Nat.zero_le _, start⟩
  rintro ⟨i, cs, a, cv, vb, vf⟩ e h' c' ⟨⟨b0, rfl⟩, hi, B⟩
  simp only at hi B
  repeat' (first
    | refine WpC.seq ?_
    | refine WpC.region ?_
    | refine WpC.drawn ?_
    | refine WpC.skip ?_
    | refine WpC.block ?_
    | refine WpC.exit ?_
    | refine WpC.ret ?_
    | refine WpO.nil ?_
    | refine WpO.cons rfl rfl (WpX.pure (fun _ => rfl) ⟨nolog, ?_⟩)
    | refine WpO.skip rfl rfl ?_
    | refine WpL.cons rfl rfl (WpX.pure (fun _ => rfl) ⟨nolog, ?_⟩)
    | refine WpL.skip rfl rfl ?_
    | refine seqQ_normal ?_
    | refine seqQ_ret ?_
    | refine seqQ_exit ?_
    | refine blkQ_normal ?_
    | refine blkQ_ret ?_
    | refine blkQ_out rfl ?_
    | refine blkQ_by rfl ?_
    | refine WpO.cons rfl rfl (op_len rfl rfl rfl ⟨(by simp [InL, Acc.name, rowName] <;> omega), ?_⟩)
    | refine WpL.cons rfl rfl (op_len rfl rfl rfl ⟨(by simp [InL, Acc.name, rowName] <;> omega), ?_⟩))
  refine WpC.cond rfl (fun hlt => ?_) (fun hge => ?_)
  case refine_2 =>
    repeat' (first
      | refine WpC.seq ?_
      | refine WpC.region ?_
      | refine WpC.drawn ?_
      | refine WpC.skip ?_
      | refine WpC.block ?_
      | refine WpC.exit ?_
      | refine WpC.ret ?_
      | refine WpO.nil ?_
      | refine WpO.cons rfl rfl (WpX.pure (fun _ => rfl) ⟨nolog, ?_⟩)
      | refine WpO.skip rfl rfl ?_
      | refine WpL.cons rfl rfl (WpX.pure (fun _ => rfl) ⟨nolog, ?_⟩)
      | refine WpL.skip rfl rfl ?_
      | refine seqQ_normal ?_
      | refine seqQ_ret ?_
      | refine seqQ_exit ?_
      | refine blkQ_normal ?_
      | refine blkQ_ret ?_
      | refine blkQ_out rfl ?_
      | refine blkQ_by rfl ?_)
    exact out_ret rfl rfl
  have hlt : i < zs.length := by simpa using hlt
  obtain ⟨sn, rfl, hsn, hg⟩ := hs i hlt
  have hg' : MapI.get h' sn = some (.cells false false (zs.map (.int .u8))) := by rw [B.pj.old sn hsn]; exact hg
  obtain ⟨z, hzz⟩ : ∃ z, zs[i]? = some z := ⟨_, List.getElem?_eq_getElem hlt⟩
  have hz1 := hz z (List.mem_of_getElem? hzz)
  obtain ⟨k, rfl⟩ : ∃ k : Nat, z = k := ⟨z.toNat, by omega⟩
  have hk : k < 256 := by omega
  have hnx : nth (zs.map (V.int .u8)) (0 + ((i : Nat) : Int).toNat * 1) = some (.int .u8 (k : Int)) := by simpa using nth_map (f := V.int .u8) hzz
  obtain ⟨n, hn1, hnn⟩ := num_n k hk
  have hr := num_r k hk
  let M : EE → HH → Nat → Prop := fun e h'' c'' => ∃ cs' a' cv' vb' vf', (∃ b0, e = FR b0 (.slice (some (sn, 0)) zs.length cap) q p vb' vf' (depth (cs' ++ [a'])) a'.ws.length i) ∧ PI h1 h'' c1 (q + 1) c'' q p R st cv' vb' vf' cs' a' (i + 1)
  let M1 : EE → HH → Nat → Prop := fun e h'' c'' => (∃ b0 b, e = MapI.set (MapI.set (MapI.set (FR b0 (.slice (some (sn, 0)) zs.length cap) q p vb vf (depth (cs ++ [a])) a.ws.length i) 14 (I n)) 61 (.int .u8 ((k % 4 : Nat) : Int))) 134 (.bool b) ∧ (b = true ↔ k % 4 = 0 ∨ k % 4 = 1)) ∧ h'' = h' ∧ c'' = c'
  have hl1 : (cs ++ [a]).length ≤ 900 := by have := B.len; simp; omega
  have hdp := B.dep
  have hst2 := B.st
  have hd : ∀ i, depth ((cs ++ [a]).take i) ≤ 100000 := fun i => by have := depth_take (cs := cs ++ [a]) i; omega
  have hw : ∀ (i : Nat) (b : Cal), (cs ++ [a])[i]? = some b → b.ws.length ≤ 100000 := fun i b hb => by have := depth_mem hb; omega
  have hda : a.ws.length ≤ depth (cs ++ [a]) := depth_mem (get_last (cs := cs))
  have hbx := B.pj.box
  have r := B.pj.pr
  have hlo := B.pj.lo
  have hqc := B.pj.lq
  have hcc := B.pj.lc
  repeat' (first
    | refine WpC.seqI (a := Code.seq (Code.region 31 _ _) _) M1 ?_ ?_
    | refine WpC.seqI (a := Code.seq (Code.region 16 _ _) _) M ?_ ?_
    | refine WpC.seq ?_
    | refine WpC.region ?_
    | refine WpC.drawn ?_
    | refine WpC.skip ?_
    | refine WpC.block ?_
    | refine WpC.exit ?_
    | refine WpC.ret ?_
    | refine WpO.nil ?_
    | refine WpO.cons rfl rfl (WpX.pure (fun _ => rfl) ⟨nolog, ?_⟩)
    | refine WpO.skip rfl rfl ?_
    | refine WpL.cons rfl rfl (WpX.pure (fun _ => rfl) ⟨nolog, ?_⟩)
    | refine WpL.skip rfl rfl ?_
    | refine seqQ_normal ?_
    | refine seqQ_ret ?_
    | refine seqQ_exit ?_
    | refine blkQ_normal ?_
    | refine blkQ_ret ?_
    | refine blkQ_out rfl ?_
    | refine blkQ_by rfl ?_
    | refine WpO.cons rfl rfl (op_indexAddr (k := 1) rfl rfl rfl rfl ⟨by omega, by omega⟩ ⟨(by simp [InL, Acc.name, rowName] <;> omega), ?_⟩)
    | refine WpL.cons rfl rfl (op_indexAddr (k := 1) rfl rfl rfl rfl ⟨by omega, by omega⟩ ⟨(by simp [InL, Acc.name, rowName] <;> omega), ?_⟩)
    | refine WpO.cons rfl rfl (op_load rfl rfl rfl hg' hnx ⟨(by simp [InL, Acc.name, rowName] <;> omega), ?_⟩)
    | refine WpL.cons rfl rfl (op_load rfl rfl rfl hg' hnx ⟨(by simp [InL, Acc.name, rowName] <;> omega), ?_⟩))
  · simp only [hr, hnn]
    have e0 : ((((k % 4 : Nat) : Int) == 0) = true) ↔ k % 4 = 0 := by rw [beq_iff_eq]; omega
    have e1 : ((((k % 4 : Nat) : Int) == 1) = true) ↔ k % 4 = 1 := by rw [beq_iff_eq]; omega
    refine WpC.cond rfl (fun hb => ?_) (fun hb => ?_)
    ·
      repeat' (first
        | refine WpC.seq ?_
        | refine WpC.region ?_
        | refine WpC.drawn ?_
        | refine WpC.skip ?_
        | refine WpC.block ?_
        | refine WpC.exit ?_
        | refine WpC.ret ?_
        | refine WpO.nil ?_
        | refine WpO.cons rfl rfl (WpX.pure (fun _ => rfl) ⟨nolog, ?_⟩)
        | refine WpO.skip rfl rfl ?_
        | refine WpL.cons rfl rfl (WpX.pure (fun _ => rfl) ⟨nolog, ?_⟩)
        | refine WpL.skip rfl rfl ?_
        | refine seqQ_normal ?_
        | refine seqQ_ret ?_
        | refine seqQ_exit ?_
        | refine blkQ_normal ?_
        | refine blkQ_ret ?_
        | refine blkQ_out rfl ?_
        | refine blkQ_by rfl ?_)
      exact ⟨set11b rfl rfl rfl rfl rfl rfl rfl rfl rfl rfl rfl ⟨fun _ => .inl (e0.1 hb), fun _ => hb⟩, rfl, rfl⟩
    ·
      repeat' (first
        | refine WpC.seq ?_
        | refine WpC.region ?_
        | refine WpC.drawn ?_
        | refine WpC.skip ?_
        | refine WpC.block ?_
        | refine WpC.exit ?_
        | refine WpC.ret ?_
        | refine WpO.nil ?_
        | refine WpO.cons rfl rfl (WpX.pure (fun _ => rfl) ⟨nolog, ?_⟩)
        | refine WpO.skip rfl rfl ?_
        | refine WpL.cons rfl rfl (WpX.pure (fun _ => rfl) ⟨nolog, ?_⟩)
        | refine WpL.skip rfl rfl ?_
        | refine seqQ_normal ?_
        | refine seqQ_ret ?_
        | refine seqQ_exit ?_
        | refine blkQ_normal ?_
        | refine blkQ_ret ?_
        | refine blkQ_out rfl ?_
        | refine blkQ_by rfl ?_)
      exact ⟨set11b rfl rfl rfl rfl rfl rfl rfl rfl rfl rfl rfl ⟨fun h => .inr (e1.1 h), fun h => e1.2 (by
        rcases h with h | h
        · rw [e0.2 h] at hb; cases hb
        · exact h)⟩, rfl, rfl⟩
  · rintro e h'' c'' ⟨⟨b0, b, rfl, hbb⟩, rfl, rfl⟩
    refine WpC.cond rfl (fun hb => ?_) (fun hb => ?_)
    · have hw1 : IntKind.i64.wrap ((depth (cs ++ [a]) : Int) + 1) = ((depth (cs ++ [a]) + 1 : Nat) : Int) := by rw [Go.IntWalk.i64_in _ (by omega)]; omega
      repeat' (first
        | refine WpC.seq ?_
        | refine WpC.region ?_
        | refine WpC.drawn ?_
        | refine WpC.skip ?_
        | refine WpC.block ?_
        | refine WpC.exit ?_
        | refine WpC.ret ?_
        | refine WpO.nil ?_
        | refine WpO.cons rfl rfl (WpX.pure (fun _ => rfl) ⟨nolog, ?_⟩)
        | refine WpO.skip rfl rfl ?_
        | refine WpL.cons rfl rfl (WpX.pure (fun _ => rfl) ⟨nolog, ?_⟩)
        | refine WpL.skip rfl rfl ?_
        | refine seqQ_normal ?_
        | refine seqQ_ret ?_
        | refine seqQ_exit ?_
        | refine blkQ_normal ?_
        | refine blkQ_ret ?_
        | refine blkQ_out rfl ?_
        | refine blkQ_by rfl ?_
        | refine WpO.cons rfl rfl (op_load rfl rfl rfl hbx rfl ⟨(by simp [InL, Acc.name, rowName] <;> omega), ?_⟩)
        | refine WpL.cons rfl rfl (op_load rfl rfl rfl hbx rfl ⟨(by simp [InL, Acc.name, rowName] <;> omega), ?_⟩))
      refine WpO.cons rfl rfl (call_at rfl (call_ok (k := i) r hl1 hd hw) (fun n hn => .inr (by have := hlo n (pn1 hn); omega)) (by omega) fun v h5 c5 hc5 hfr5 hq => ?_)
      rcases hq with ⟨hs1, rfl, hsame⟩ | ⟨hs1, rfl, cv', r5, hnm5⟩
      · have e1 : decide (IntKind.i64.wrap ((depth (cs ++ [a]) : Int) + 1) ≤ (st : Int)) = false := by rw [hw1]; simpa using by omega
        simp only [e1]
        repeat' (first
          | refine WpC.seq ?_
          | refine WpC.region ?_
          | refine WpC.drawn ?_
          | refine WpC.skip ?_
          | refine WpC.block ?_
          | refine WpC.exit ?_
          | refine WpC.ret ?_
          | refine WpO.nil ?_
          | refine WpO.cons rfl rfl (WpX.pure (fun _ => rfl) ⟨nolog, ?_⟩)
          | refine WpO.skip rfl rfl ?_
          | refine WpL.cons rfl rfl (WpX.pure (fun _ => rfl) ⟨nolog, ?_⟩)
          | refine WpL.skip rfl rfl ?_
          | refine seqQ_normal ?_
          | refine seqQ_ret ?_
          | refine seqQ_exit ?_
          | refine blkQ_normal ?_
          | refine blkQ_ret ?_
          | refine blkQ_out rfl ?_
          | refine blkQ_by rfl ?_)
        refine WpC.cond rfl (fun hb => by cases hb) (fun _ => ?_)
        repeat' (first
          | refine WpC.seq ?_
          | refine WpC.region ?_
          | refine WpC.drawn ?_
          | refine WpC.skip ?_
          | refine WpC.block ?_
          | refine WpC.exit ?_
          | refine WpC.ret ?_
          | refine WpO.nil ?_
          | refine WpO.cons rfl rfl (WpX.pure (fun _ => rfl) ⟨nolog, ?_⟩)
          | refine WpO.skip rfl rfl ?_
          | refine WpL.cons rfl rfl (WpX.pure (fun _ => rfl) ⟨nolog, ?_⟩)
          | refine WpL.skip rfl rfl ?_
          | refine seqQ_normal ?_
          | refine seqQ_ret ?_
          | refine seqQ_exit ?_
          | refine blkQ_normal ?_
          | refine blkQ_ret ?_
          | refine blkQ_out rfl ?_
          | refine blkQ_by rfl ?_)
        refine WpC.cond rfl (fun hb => by cases hb) (fun _ => ?_)
        repeat' (first
          | refine WpC.seq ?_
          | refine WpC.region ?_
          | refine WpC.drawn ?_
          | refine WpC.skip ?_
          | refine WpC.block ?_
          | refine WpC.exit ?_
          | refine WpC.ret ?_
          | refine WpO.nil ?_
          | refine WpO.cons rfl rfl (WpX.pure (fun _ => rfl) ⟨nolog, ?_⟩)
          | refine WpO.skip rfl rfl ?_
          | refine WpL.cons rfl rfl (WpX.pure (fun _ => rfl) ⟨nolog, ?_⟩)
          | refine WpL.skip rfl rfl ?_
          | refine seqQ_normal ?_
          | refine seqQ_ret ?_
          | refine seqQ_exit ?_
          | refine blkQ_normal ?_
          | refine blkQ_ret ?_
          | refine blkQ_out rfl ?_
          | refine blkQ_by rfl ?_)
        exact ⟨cs, a, cv, vb, vf, set8 rfl rfl rfl rfl rfl rfl rfl rfl, ⟨B.pj.keep hc5 hsame, B.dep, by have := B.len; omega, B.wp, B.st⟩⟩
      · have e1 : decide (IntKind.i64.wrap ((depth (cs ++ [a]) : Int) + 1) ≤ (st : Int)) = true := by rw [hw1]; simpa using by omega
        simp only [e1]
        repeat' (first
          | refine WpC.seq ?_
          | refine WpC.region ?_
          | refine WpC.drawn ?_
          | refine WpC.skip ?_
          | refine WpC.block ?_
          | refine WpC.exit ?_
          | refine WpC.ret ?_
          | refine WpO.nil ?_
          | refine WpO.cons rfl rfl (WpX.pure (fun _ => rfl) ⟨nolog, ?_⟩)
          | refine WpO.skip rfl rfl ?_
          | refine WpL.cons rfl rfl (WpX.pure (fun _ => rfl) ⟨nolog, ?_⟩)
          | refine WpL.skip rfl rfl ?_
          | refine seqQ_normal ?_
          | refine seqQ_ret ?_
          | refine seqQ_exit ?_
          | refine blkQ_normal ?_
          | refine blkQ_ret ?_
          | refine blkQ_out rfl ?_
          | refine blkQ_by rfl ?_)
        refine WpC.cond rfl (fun hb => by cases hb) (fun _ => ?_)
        repeat' (first
          | refine WpC.seq ?_
          | refine WpC.region ?_
          | refine WpC.drawn ?_
          | refine WpC.skip ?_
          | refine WpC.block ?_
          | refine WpC.exit ?_
          | refine WpC.ret ?_
          | refine WpO.nil ?_
          | refine WpO.cons rfl rfl (WpX.pure (fun _ => rfl) ⟨nolog, ?_⟩)
          | refine WpO.skip rfl rfl ?_
          | refine WpL.cons rfl rfl (WpX.pure (fun _ => rfl) ⟨nolog, ?_⟩)
          | refine WpL.skip rfl rfl ?_
          | refine seqQ_normal ?_
          | refine seqQ_ret ?_
          | refine seqQ_exit ?_
          | refine blkQ_normal ?_
          | refine blkQ_ret ?_
          | refine blkQ_out rfl ?_
          | refine blkQ_by rfl ?_)
        refine WpC.cond rfl (fun _ => ?_) (fun hb => by cases hb)
        have hba := B.pj.bk
        have J5 := B.pj.move r5 hc5 (pn_push hnm5) (fun n hn hm => hfr5 n hn (fun h => hm (pn1 h)))
        have J6 := fun x : AObj => J5.keep (c' := c5 + 1) (h' := MapI.set h5 c5 x) (by omega) (fun n hn => MapI.get_ne _ _ _ _ (by omega))
        have hlen1 := B.len
        repeat' (first
          | refine WpC.seq ?_
          | refine WpC.region ?_
          | refine WpC.drawn ?_
          | refine WpC.skip ?_
          | refine WpC.block ?_
          | refine WpC.exit ?_
          | refine WpC.ret ?_
          | refine WpO.nil ?_
          | refine WpO.cons rfl rfl (WpX.pure (fun _ => rfl) ⟨nolog, ?_⟩)
          | refine WpO.skip rfl rfl ?_
          | refine WpL.cons rfl rfl (WpX.pure (fun _ => rfl) ⟨nolog, ?_⟩)
          | refine WpL.skip rfl rfl ?_
          | refine seqQ_normal ?_
          | refine seqQ_ret ?_
          | refine seqQ_exit ?_
          | refine blkQ_normal ?_
          | refine blkQ_ret ?_
          | refine blkQ_out rfl ?_
          | refine blkQ_by rfl ?_
          | refine WpO.cons rfl rfl (op_buildSlice (k := 1) rfl rfl rfl rfl (by decide) rfl ⟨(by simp [InL, Acc.name, rowName] <;> omega), ?_⟩)
          | refine WpL.cons rfl rfl (op_buildSlice (k := 1) rfl rfl rfl rfl (by decide) rfl ⟨(by simp [InL, Acc.name, rowName] <;> omega), ?_⟩))
        refine WpO.cons rfl rfl (append_at (ys := [(i : Int)]) rfl rfl elI rfl int_len int_all (J6 _).bk (MapI.get_same _ _ _) rfl rfl (by simp; omega) (.inr (by simp [Acc.name]; omega)) (fun x hx => by have := J5.lob x hx; exact ⟨.inr (by simp [Acc.name]; omega), .inr (by simp [Acc.name]; omega)⟩) (.inr (by simp [Acc.name]; omega)) fun v7 h7 c7 hl7 hn7 hc7 hf7 => ?_)
        have J7 := (J6 _).setB hl7 hc7 (fun x hx => (hn7 x hx).imp id fun h => by omega) (fun x hx hm => hf7 x (by omega) hm)
        have J8 := fun x : AObj => J7.keep (c' := c7 + 1) (h' := MapI.set h7 c7 x) (by omega) (fun n hn => MapI.get_ne _ _ _ _ (by omega))
        repeat' (first
          | refine WpC.seq ?_
          | refine WpC.region ?_
          | refine WpC.drawn ?_
          | refine WpC.skip ?_
          | refine WpC.block ?_
          | refine WpC.exit ?_
          | refine WpC.ret ?_
          | refine WpO.nil ?_
          | refine WpO.cons rfl rfl (WpX.pure (fun _ => rfl) ⟨nolog, ?_⟩)
          | refine WpO.skip rfl rfl ?_
          | refine WpL.cons rfl rfl (WpX.pure (fun _ => rfl) ⟨nolog, ?_⟩)
          | refine WpL.skip rfl rfl ?_
          | refine seqQ_normal ?_
          | refine seqQ_ret ?_
          | refine seqQ_exit ?_
          | refine blkQ_normal ?_
          | refine blkQ_ret ?_
          | refine blkQ_out rfl ?_
          | refine blkQ_by rfl ?_
          | refine WpO.cons rfl rfl (op_buildSlice (k := 1) rfl rfl rfl rfl (by decide) rfl ⟨(by simp [InL, Acc.name, rowName] <;> omega), ?_⟩)
          | refine WpL.cons rfl rfl (op_buildSlice (k := 1) rfl rfl rfl rfl (by decide) rfl ⟨(by simp [InL, Acc.name, rowName] <;> omega), ?_⟩))
        refine WpO.cons rfl rfl (append_at (ys := [(a.ws.length : Int)]) rfl rfl elI rfl int_len int_all (J8 _).fs (MapI.get_same _ _ _) rfl rfl (by simp; omega) (.inr (by simp [Acc.name]; omega)) (fun x hx => by have := J5.lof x hx; exact ⟨.inr (by simp [Acc.name]; omega), .inr (by simp [Acc.name]; omega)⟩) (.inr (by simp [Acc.name]; omega)) fun v9 h9 c9 hl9 hn9 hc9 hf9 => ?_)
        have J9 := (J8 _).setF hl9 hc9 (fun x hx => (hn9 x hx).imp id fun h => by omega) (fun x hx hm => hf9 x (by omega) hm)
        repeat' (first
          | refine WpC.seq ?_
          | refine WpC.region ?_
          | refine WpC.drawn ?_
          | refine WpC.skip ?_
          | refine WpC.block ?_
          | refine WpC.exit ?_
          | refine WpC.ret ?_
          | refine WpO.nil ?_
          | refine WpO.cons rfl rfl (WpX.pure (fun _ => rfl) ⟨nolog, ?_⟩)
          | refine WpO.skip rfl rfl ?_
          | refine WpL.cons rfl rfl (WpX.pure (fun _ => rfl) ⟨nolog, ?_⟩)
          | refine WpL.skip rfl rfl ?_
          | refine seqQ_normal ?_
          | refine seqQ_ret ?_
          | refine seqQ_exit ?_
          | refine blkQ_normal ?_
          | refine blkQ_ret ?_
          | refine blkQ_out rfl ?_
          | refine blkQ_by rfl ?_)
        simp only [hw1]
        refine ⟨cs ++ [a], ⟨i, none, []⟩, cv', v7, v9, ?_, ⟨?_, ?_, ?_, ?_, B.st⟩⟩
        · have hdd : depth (cs ++ [a] ++ [(⟨i, none, []⟩ : Cal)]) = depth (cs ++ [a]) + 1 := by rw [depth_app, depth_one]; rfl
          rw [hdd]
          exact set8 rfl rfl rfl rfl rfl rfl rfl rfl
        · rw [back_push, List.map_append]
          exact J9
        · rw [depth_app, depth_one]; simp; omega
        · simp; omega
        · intro x hx hne
          rcases List.mem_append.1 hx with h | h
          · exact B.wp x h hne
          · simp at h; subst h; exact absurd rfl hne
    · have hb4 : ¬ (k % 4 = 0 ∨ k % 4 = 1) := fun h => by rw [hbb.2 h] at hb; cases hb
      repeat' (first
        | refine WpC.seq ?_
        | refine WpC.region ?_
        | refine WpC.drawn ?_
        | refine WpC.skip ?_
        | refine WpC.block ?_
        | refine WpC.exit ?_
        | refine WpC.ret ?_
        | refine WpO.nil ?_
        | refine WpO.cons rfl rfl (WpX.pure (fun _ => rfl) ⟨nolog, ?_⟩)
        | refine WpO.skip rfl rfl ?_
        | refine WpL.cons rfl rfl (WpX.pure (fun _ => rfl) ⟨nolog, ?_⟩)
        | refine WpL.skip rfl rfl ?_
        | refine seqQ_normal ?_
        | refine seqQ_ret ?_
        | refine seqQ_exit ?_
        | refine blkQ_normal ?_
        | refine blkQ_ret ?_
        | refine blkQ_out rfl ?_
        | refine blkQ_by rfl ?_)
      refine WpC.cond rfl (fun hb => ?_) (fun hb => ?_)
      · have hkn : n ≤ 4 := hn1.2
        have hnm : ((n : Nat) : Int) = n := rfl
        have fin1 : ∀ {h5 : HH} {c5 : Nat} {e5 : EE}, c'' ≤ c5 → (∀ n, n < c'' → MapI.get h5 n = MapI.get h'' n) → (∃ b0, e5 = FR b0 (.slice (some (sn, 0)) zs.length cap) q p vb vf (depth (cs ++ [a])) a.ws.length i) → M e5 h5 c5 := fun hc5 hsame he =>
          ⟨cs, a, cv, vb, vf, he, ⟨B.pj.keep hc5 hsame, B.dep, by have := B.len; omega, B.wp, B.st⟩⟩
        by_cases g : a.ws = []
        · have e2 : (((a.ws.length : Nat) : Int) == 0) = true := by simp [g]
          have hw1 : IntKind.i64.wrap ((depth (cs ++ [a]) : Int) + n) = ((depth (cs ++ [a]) + n : Nat) : Int) := by rw [Go.IntWalk.i64_in _ (by omega)]; omega
          repeat' (first
            | refine WpC.seq ?_
            | refine WpC.region ?_
            | refine WpC.drawn ?_
            | refine WpC.skip ?_
            | refine WpC.block ?_
            | refine WpC.exit ?_
            | refine WpC.ret ?_
            | refine WpO.nil ?_
            | refine WpO.cons rfl rfl (WpX.pure (fun _ => rfl) ⟨nolog, ?_⟩)
            | refine WpO.skip rfl rfl ?_
            | refine WpL.cons rfl rfl (WpX.pure (fun _ => rfl) ⟨nolog, ?_⟩)
            | refine WpL.skip rfl rfl ?_
            | refine seqQ_normal ?_
            | refine seqQ_ret ?_
            | refine seqQ_exit ?_
            | refine blkQ_normal ?_
            | refine blkQ_ret ?_
            | refine blkQ_out rfl ?_
            | refine blkQ_by rfl ?_)
          simp only [e2]
          repeat' (first
            | refine WpC.seq ?_
            | refine WpC.region ?_
            | refine WpC.drawn ?_
            | refine WpC.skip ?_
            | refine WpC.block ?_
            | refine WpC.exit ?_
            | refine WpC.ret ?_
            | refine WpO.nil ?_
            | refine WpO.cons rfl rfl (WpX.pure (fun _ => rfl) ⟨nolog, ?_⟩)
            | refine WpO.skip rfl rfl ?_
            | refine WpL.cons rfl rfl (WpX.pure (fun _ => rfl) ⟨nolog, ?_⟩)
            | refine WpL.skip rfl rfl ?_
            | refine seqQ_normal ?_
            | refine seqQ_ret ?_
            | refine seqQ_exit ?_
            | refine blkQ_normal ?_
            | refine blkQ_ret ?_
            | refine blkQ_out rfl ?_
            | refine blkQ_by rfl ?_
            | refine WpO.cons rfl rfl (op_load rfl rfl rfl hbx rfl ⟨(by simp [InL, Acc.name, rowName] <;> omega), ?_⟩)
            | refine WpL.cons rfl rfl (op_load rfl rfl rfl hbx rfl ⟨(by simp [InL, Acc.name, rowName] <;> omega), ?_⟩))
          refine WpO.cons rfl rfl (call_at rfl (frame_ok (n := n) r hl1 hd hw get_last (by omega)) (fun n hn => .inr (by have := hlo n (pn1 hn); omega)) (by omega) fun v h5 c5 hc5 hfr5 hq => ?_)
          rcases hq with ⟨hs1, rfl, hsame⟩ | ⟨_, hs1, rfl, s2, ws, hwl, hs2, r5⟩
          · have hs1 : (st : Int) < (depth (cs ++ [a]) : Int) + n := by
              rcases hs1 with h | h
              · exact absurd g h
              · exact h
            have e3 : decide (IntKind.i64.wrap ((depth (cs ++ [a]) : Int) + n) ≤ (st : Int)) = false := by rw [hw1]; simpa using by omega
            simp only [e3]
            repeat' (first
              | refine WpC.seq ?_
              | refine WpC.region ?_
              | refine WpC.drawn ?_
              | refine WpC.skip ?_
              | refine WpC.block ?_
              | refine WpC.exit ?_
              | refine WpC.ret ?_
              | refine WpO.nil ?_
              | refine WpO.cons rfl rfl (WpX.pure (fun _ => rfl) ⟨nolog, ?_⟩)
              | refine WpO.skip rfl rfl ?_
              | refine WpL.cons rfl rfl (WpX.pure (fun _ => rfl) ⟨nolog, ?_⟩)
              | refine WpL.skip rfl rfl ?_
              | refine seqQ_normal ?_
              | refine seqQ_ret ?_
              | refine seqQ_exit ?_
              | refine blkQ_normal ?_
              | refine blkQ_ret ?_
              | refine blkQ_out rfl ?_
              | refine blkQ_by rfl ?_)
            refine WpC.cond rfl (fun hb => by cases hb) (fun _ => ?_)
            repeat' (first
              | refine WpC.seq ?_
              | refine WpC.region ?_
              | refine WpC.drawn ?_
              | refine WpC.skip ?_
              | refine WpC.block ?_
              | refine WpC.exit ?_
              | refine WpC.ret ?_
              | refine WpO.nil ?_
              | refine WpO.cons rfl rfl (WpX.pure (fun _ => rfl) ⟨nolog, ?_⟩)
              | refine WpO.skip rfl rfl ?_
              | refine WpL.cons rfl rfl (WpX.pure (fun _ => rfl) ⟨nolog, ?_⟩)
              | refine WpL.skip rfl rfl ?_
              | refine seqQ_normal ?_
              | refine seqQ_ret ?_
              | refine seqQ_exit ?_
              | refine blkQ_normal ?_
              | refine blkQ_ret ?_
              | refine blkQ_out rfl ?_
              | refine blkQ_by rfl ?_)
            refine WpC.cond rfl (fun hb => by cases hb) (fun _ => ?_)
            repeat' (first
              | refine WpC.seq ?_
              | refine WpC.region ?_
              | refine WpC.drawn ?_
              | refine WpC.skip ?_
              | refine WpC.block ?_
              | refine WpC.exit ?_
              | refine WpC.ret ?_
              | refine WpO.nil ?_
              | refine WpO.cons rfl rfl (WpX.pure (fun _ => rfl) ⟨nolog, ?_⟩)
              | refine WpO.skip rfl rfl ?_
              | refine WpL.cons rfl rfl (WpX.pure (fun _ => rfl) ⟨nolog, ?_⟩)
              | refine WpL.skip rfl rfl ?_
              | refine seqQ_normal ?_
              | refine seqQ_ret ?_
              | refine seqQ_exit ?_
              | refine blkQ_normal ?_
              | refine blkQ_ret ?_
              | refine blkQ_out rfl ?_
              | refine blkQ_by rfl ?_)
            exact fin1 hc5 hsame (set8 rfl rfl rfl rfl rfl rfl rfl rfl)
          · have e3 : decide (IntKind.i64.wrap ((depth (cs ++ [a]) : Int) + n) ≤ (st : Int)) = true := by rw [hw1]; simpa using by omega
            simp only [e3]
            repeat' (first
              | refine WpC.seq ?_
              | refine WpC.region ?_
              | refine WpC.drawn ?_
              | refine WpC.skip ?_
              | refine WpC.block ?_
              | refine WpC.exit ?_
              | refine WpC.ret ?_
              | refine WpO.nil ?_
              | refine WpO.cons rfl rfl (WpX.pure (fun _ => rfl) ⟨nolog, ?_⟩)
              | refine WpO.skip rfl rfl ?_
              | refine WpL.cons rfl rfl (WpX.pure (fun _ => rfl) ⟨nolog, ?_⟩)
              | refine WpL.skip rfl rfl ?_
              | refine seqQ_normal ?_
              | refine seqQ_ret ?_
              | refine seqQ_exit ?_
              | refine blkQ_normal ?_
              | refine blkQ_ret ?_
              | refine blkQ_out rfl ?_
              | refine blkQ_by rfl ?_)
            refine WpC.cond rfl (fun hb => by cases hb) (fun _ => ?_)
            repeat' (first
              | refine WpC.seq ?_
              | refine WpC.region ?_
              | refine WpC.drawn ?_
              | refine WpC.skip ?_
              | refine WpC.block ?_
              | refine WpC.exit ?_
              | refine WpC.ret ?_
              | refine WpO.nil ?_
              | refine WpO.cons rfl rfl (WpX.pure (fun _ => rfl) ⟨nolog, ?_⟩)
              | refine WpO.skip rfl rfl ?_
              | refine WpL.cons rfl rfl (WpX.pure (fun _ => rfl) ⟨nolog, ?_⟩)
              | refine WpL.skip rfl rfl ?_
              | refine seqQ_normal ?_
              | refine seqQ_ret ?_
              | refine seqQ_exit ?_
              | refine blkQ_normal ?_
              | refine blkQ_ret ?_
              | refine blkQ_out rfl ?_
              | refine blkQ_by rfl ?_)
            refine WpC.cond rfl (fun _ => ?_) (fun hb => by cases hb)
            rw [set_last] at r5
            have hw2 : IntKind.i64.wrap ((n : Int) - 1) = ((n - 1 : Nat) : Int) := by rw [Go.IntWalk.i64_in _ (by omega)]; omega
            repeat' (first
              | refine WpC.seq ?_
              | refine WpC.region ?_
              | refine WpC.drawn ?_
              | refine WpC.skip ?_
              | refine WpC.block ?_
              | refine WpC.exit ?_
              | refine WpC.ret ?_
              | refine WpO.nil ?_
              | refine WpO.cons rfl rfl (WpX.pure (fun _ => rfl) ⟨nolog, ?_⟩)
              | refine WpO.skip rfl rfl ?_
              | refine WpL.cons rfl rfl (WpX.pure (fun _ => rfl) ⟨nolog, ?_⟩)
              | refine WpL.skip rfl rfl ?_
              | refine seqQ_normal ?_
              | refine seqQ_ret ?_
              | refine seqQ_exit ?_
              | refine blkQ_normal ?_
              | refine blkQ_ret ?_
              | refine blkQ_out rfl ?_
              | refine blkQ_by rfl ?_)
            refine WpO.cons rfl rfl (call_at rfl (of_ok (i := i) (by omega)) (by simp) (by omega) fun v h6 c6 hc6 hfr6 hq => ?_)
            obtain ⟨rfl, rfl, rfl⟩ := hq
            simp only [hw1, hw2]
            have J5 := B.pj.move r5 hc5 (pn_repl (b := ⟨a.back, some s2, ws⟩) fun n hn => .inr (by simp [Cal.fr, rowName] at hn; omega)) (fun n hn hm => hfr5 n hn (fun h => hm (pn1 h)))
            have hl5 : (cs ++ [(⟨a.back, some s2, ws⟩ : Cal)]).length ≤ 1000 := by simp; have := B.len; omega
            refine WpO.cons rfl rfl (call_at rfl (setY_ok (k := n - 1) (z := (i : Int) * 16) r5 hl5 get_last (by simp; omega)) (fun n hn => .inr (by have := J5.lo n (pn2 get_last hn); omega)) (by omega) fun v h7 c7 hc7 hfr7 hq => ?_)
            obtain ⟨rfl, r7⟩ := hq
            rw [set_last] at r7
            have J7 := J5.move r7 (Nat.le_refl _) (pn_repl (b := ⟨a.back, some s2, ws.set (n - 1) ((i : Int) * 16)⟩) fun n hn => .inl (by simpa [Cal.fr, rowName] using hn)) (fun n hn hm => hfr7 n hn (fun h => hm (pn2 get_last h)))
            repeat' (first
              | refine WpC.seq ?_
              | refine WpC.region ?_
              | refine WpC.drawn ?_
              | refine WpC.skip ?_
              | refine WpC.block ?_
              | refine WpC.exit ?_
              | refine WpC.ret ?_
              | refine WpO.nil ?_
              | refine WpO.cons rfl rfl (WpX.pure (fun _ => rfl) ⟨nolog, ?_⟩)
              | refine WpO.skip rfl rfl ?_
              | refine WpL.cons rfl rfl (WpX.pure (fun _ => rfl) ⟨nolog, ?_⟩)
              | refine WpL.skip rfl rfl ?_
              | refine seqQ_normal ?_
              | refine seqQ_ret ?_
              | refine seqQ_exit ?_
              | refine blkQ_normal ?_
              | refine blkQ_ret ?_
              | refine blkQ_out rfl ?_
              | refine blkQ_by rfl ?_)
            have hdep : depth (cs ++ [a]) = depth cs + 1 := by rw [depth_app, depth_one, g]; rfl
            have hdd : depth (cs ++ [(⟨a.back, some s2, ws.set (n - 1) ((i : Int) * 16)⟩ : Cal)]) = depth (cs ++ [a]) + n := by
              rw [hdep, depth_app, depth_one]; simp [hwl]; omega
            refine ⟨cs, ⟨a.back, some s2, ws.set (n - 1) ((i : Int) * 16)⟩, cv, vb, vf, ?_, ⟨?_, ?_, ?_, ?_, B.st⟩⟩
            · have hwl2 : (ws.set (n - 1) ((i : Int) * 16)).length = n := by simp [hwl]
              simp only [hdd, hwl2]
              exact set8 rfl rfl rfl rfl rfl rfl rfl rfl
            · rw [back_repl (cs := cs) (a := a) (b := ⟨a.back, some s2, ws.set (n - 1) ((i : Int) * 16)⟩) rfl]
              exact J7
            · rw [hdd]; omega
            · have := B.len; omega
            · intro x hx hne
              rcases List.mem_append.1 hx with h | h
              · exact B.wp x (List.mem_append_left _ h) hne
              · simp at h; subst h
                refine ⟨i, by omega, ?_⟩
                show (ws.set (n - 1) ((i : Int) * 16))[(ws.set (n - 1) ((i : Int) * 16)).length - 1]? = _
                rw [List.length_set, hwl, List.getElem?_set_self (by omega)]
        · have e2 : (((a.ws.length : Nat) : Int) == 0) = false := beq_eq_false_iff_ne.2 (by have := List.length_pos_iff.2 g; omega)
          repeat' (first
            | refine WpC.seq ?_
            | refine WpC.region ?_
            | refine WpC.drawn ?_
            | refine WpC.skip ?_
            | refine WpC.block ?_
            | refine WpC.exit ?_
            | refine WpC.ret ?_
            | refine WpO.nil ?_
            | refine WpO.cons rfl rfl (WpX.pure (fun _ => rfl) ⟨nolog, ?_⟩)
            | refine WpO.skip rfl rfl ?_
            | refine WpL.cons rfl rfl (WpX.pure (fun _ => rfl) ⟨nolog, ?_⟩)
            | refine WpL.skip rfl rfl ?_
            | refine seqQ_normal ?_
            | refine seqQ_ret ?_
            | refine seqQ_exit ?_
            | refine blkQ_normal ?_
            | refine blkQ_ret ?_
            | refine blkQ_out rfl ?_
            | refine blkQ_by rfl ?_)
          simp only [e2]
          repeat' (first
            | refine WpC.seq ?_
            | refine WpC.region ?_
            | refine WpC.drawn ?_
            | refine WpC.skip ?_
            | refine WpC.block ?_
            | refine WpC.exit ?_
            | refine WpC.ret ?_
            | refine WpO.nil ?_
            | refine WpO.cons rfl rfl (WpX.pure (fun _ => rfl) ⟨nolog, ?_⟩)
            | refine WpO.skip rfl rfl ?_
            | refine WpL.cons rfl rfl (WpX.pure (fun _ => rfl) ⟨nolog, ?_⟩)
            | refine WpL.skip rfl rfl ?_
            | refine seqQ_normal ?_
            | refine seqQ_ret ?_
            | refine seqQ_exit ?_
            | refine blkQ_normal ?_
            | refine blkQ_ret ?_
            | refine blkQ_out rfl ?_
            | refine blkQ_by rfl ?_)
          refine WpO.cons rfl rfl (call_at rfl (frame_ok (n := n) r hl1 hd hw get_last (by omega)) (fun n hn => .inr (by have := hlo n (pn1 hn); omega)) (by omega) fun v h5 c5 hc5 hfr5 hq => ?_)
          rcases hq with ⟨hs1, rfl, hsame⟩ | ⟨hg0, _⟩
          · 
            repeat' (first
              | refine WpC.seq ?_
              | refine WpC.region ?_
              | refine WpC.drawn ?_
              | refine WpC.skip ?_
              | refine WpC.block ?_
              | refine WpC.exit ?_
              | refine WpC.ret ?_
              | refine WpO.nil ?_
              | refine WpO.cons rfl rfl (WpX.pure (fun _ => rfl) ⟨nolog, ?_⟩)
              | refine WpO.skip rfl rfl ?_
              | refine WpL.cons rfl rfl (WpX.pure (fun _ => rfl) ⟨nolog, ?_⟩)
              | refine WpL.skip rfl rfl ?_
              | refine seqQ_normal ?_
              | refine seqQ_ret ?_
              | refine seqQ_exit ?_
              | refine blkQ_normal ?_
              | refine blkQ_ret ?_
              | refine blkQ_out rfl ?_
              | refine blkQ_by rfl ?_)
            refine WpC.cond rfl (fun hb => by cases hb) (fun _ => ?_)
            repeat' (first
              | refine WpC.seq ?_
              | refine WpC.region ?_
              | refine WpC.drawn ?_
              | refine WpC.skip ?_
              | refine WpC.block ?_
              | refine WpC.exit ?_
              | refine WpC.ret ?_
              | refine WpO.nil ?_
              | refine WpO.cons rfl rfl (WpX.pure (fun _ => rfl) ⟨nolog, ?_⟩)
              | refine WpO.skip rfl rfl ?_
              | refine WpL.cons rfl rfl (WpX.pure (fun _ => rfl) ⟨nolog, ?_⟩)
              | refine WpL.skip rfl rfl ?_
              | refine seqQ_normal ?_
              | refine seqQ_ret ?_
              | refine seqQ_exit ?_
              | refine blkQ_normal ?_
              | refine blkQ_ret ?_
              | refine blkQ_out rfl ?_
              | refine blkQ_by rfl ?_)
            refine WpC.cond rfl (fun hb => by cases hb) (fun _ => ?_)
            repeat' (first
              | refine WpC.seq ?_
              | refine WpC.region ?_
              | refine WpC.drawn ?_
              | refine WpC.skip ?_
              | refine WpC.block ?_
              | refine WpC.exit ?_
              | refine WpC.ret ?_
              | refine WpO.nil ?_
              | refine WpO.cons rfl rfl (WpX.pure (fun _ => rfl) ⟨nolog, ?_⟩)
              | refine WpO.skip rfl rfl ?_
              | refine WpL.cons rfl rfl (WpX.pure (fun _ => rfl) ⟨nolog, ?_⟩)
              | refine WpL.skip rfl rfl ?_
              | refine seqQ_normal ?_
              | refine seqQ_ret ?_
              | refine seqQ_exit ?_
              | refine blkQ_normal ?_
              | refine blkQ_ret ?_
              | refine blkQ_out rfl ?_
              | refine blkQ_by rfl ?_)
            exact fin1 hc5 hsame (set8 rfl rfl rfl rfl rfl rfl rfl rfl)
          · exact absurd hg0 g
      · let M2 : EE → HH → Nat → Prop := fun e h'' c'' => ∃ a', a'.ws = [] ∧ a'.back = a.back ∧ (∃ b0, e = FR b0 (.slice (some (sn, 0)) zs.length cap) q p vb vf (depth (cs ++ [a'])) a'.ws.length i) ∧ PI h1 h'' c1 (q + 1) c'' q p R st cv vb vf cs a' i
        repeat' (first
          | refine WpC.seqI (a := Code.seq (Code.region 17 _ _) _) M2 ?_ ?_
          | refine WpC.seq ?_
          | refine WpC.region ?_
          | refine WpC.drawn ?_
          | refine WpC.skip ?_
          | refine WpC.block ?_
          | refine WpC.exit ?_
          | refine WpC.ret ?_
          | refine WpO.nil ?_
          | refine WpO.cons rfl rfl (WpX.pure (fun _ => rfl) ⟨nolog, ?_⟩)
          | refine WpO.skip rfl rfl ?_
          | refine WpL.cons rfl rfl (WpX.pure (fun _ => rfl) ⟨nolog, ?_⟩)
          | refine WpL.skip rfl rfl ?_
          | refine seqQ_normal ?_
          | refine seqQ_ret ?_
          | refine seqQ_exit ?_
          | refine blkQ_normal ?_
          | refine blkQ_ret ?_
          | refine blkQ_out rfl ?_
          | refine blkQ_by rfl ?_)
        · by_cases g : a.ws = []
          · have e3 : decide (((a.ws.length : Nat) : Int) > 0) = false := by simp [g]
            simp only [e3]
            refine WpC.cond rfl (fun hb => by cases hb) (fun _ => ?_)
            repeat' (first
              | refine WpC.seq ?_
              | refine WpC.region ?_
              | refine WpC.drawn ?_
              | refine WpC.skip ?_
              | refine WpC.block ?_
              | refine WpC.exit ?_
              | refine WpC.ret ?_
              | refine WpO.nil ?_
              | refine WpO.cons rfl rfl (WpX.pure (fun _ => rfl) ⟨nolog, ?_⟩)
              | refine WpO.skip rfl rfl ?_
              | refine WpL.cons rfl rfl (WpX.pure (fun _ => rfl) ⟨nolog, ?_⟩)
              | refine WpL.skip rfl rfl ?_
              | refine seqQ_normal ?_
              | refine seqQ_ret ?_
              | refine seqQ_exit ?_
              | refine blkQ_normal ?_
              | refine blkQ_ret ?_
              | refine blkQ_out rfl ?_
              | refine blkQ_by rfl ?_)
            exact ⟨a, g, rfl, set8 rfl rfl rfl rfl rfl rfl rfl rfl, B⟩
          · have hgt := List.length_pos_iff.2 g
            have e3 : decide (((a.ws.length : Nat) : Int) > 0) = true := by simp; omega
            simp only [e3]
            refine WpC.cond rfl (fun _ => ?_) (fun hb => by cases hb)
            have hw1 : IntKind.i64.wrap ((a.ws.length : Int) - 1) = ((a.ws.length - 1 : Nat) : Int) := by rw [Go.IntWalk.i64_in _ (by omega)]; omega
            have hw2 : IntKind.i64.wrap ((depth (cs ++ [a]) : Int) - (a.ws.length : Int)) = ((depth (cs ++ [a]) - a.ws.length : Nat) : Int) := by rw [Go.IntWalk.i64_in _ (by omega)]; omega
            obtain ⟨k0, hk0, hk1⟩ := B.wp a (by simp) g
            repeat' (first
              | refine WpC.seq ?_
              | refine WpC.region ?_
              | refine WpC.drawn ?_
              | refine WpC.skip ?_
              | refine WpC.block ?_
              | refine WpC.exit ?_
              | refine WpC.ret ?_
              | refine WpO.nil ?_
              | refine WpO.cons rfl rfl (WpX.pure (fun _ => rfl) ⟨nolog, ?_⟩)
              | refine WpO.skip rfl rfl ?_
              | refine WpL.cons rfl rfl (WpX.pure (fun _ => rfl) ⟨nolog, ?_⟩)
              | refine WpL.skip rfl rfl ?_
              | refine seqQ_normal ?_
              | refine seqQ_ret ?_
              | refine seqQ_exit ?_
              | refine blkQ_normal ?_
              | refine blkQ_ret ?_
              | refine blkQ_out rfl ?_
              | refine blkQ_by rfl ?_)
            refine WpO.cons rfl rfl (call_at rfl (y_ok (i := IntKind.i64.wrap ((a.ws.length : Int) - 1)) r (by omega) get_last) (fun n hn => .inr (by have := hlo n (pn2 get_last hn); omega)) (by omega) fun v h5 c5 hc5 hfr5 hq => ?_)
            obtain ⟨rfl, rfl, hq⟩ := hq
            rcases hq with ⟨k2, z2, h6, h7, rfl⟩ | ⟨h6, _⟩
            rotate_left
            · rw [hw1] at h6; omega
            rw [hw1] at h6
            obtain rfl : k2 = a.ws.length - 1 := by omega
            rw [hk1] at h7
            cases h7
            repeat' (first
              | refine WpC.seq ?_
              | refine WpC.region ?_
              | refine WpC.drawn ?_
              | refine WpC.skip ?_
              | refine WpC.block ?_
              | refine WpC.exit ?_
              | refine WpC.ret ?_
              | refine WpO.nil ?_
              | refine WpO.cons rfl rfl (WpX.pure (fun _ => rfl) ⟨nolog, ?_⟩)
              | refine WpO.skip rfl rfl ?_
              | refine WpL.cons rfl rfl (WpX.pure (fun _ => rfl) ⟨nolog, ?_⟩)
              | refine WpL.skip rfl rfl ?_
              | refine seqQ_normal ?_
              | refine seqQ_ret ?_
              | refine seqQ_exit ?_
              | refine blkQ_normal ?_
              | refine blkQ_ret ?_
              | refine blkQ_out rfl ?_
              | refine blkQ_by rfl ?_)
            refine WpO.cons rfl rfl (call_at rfl (y_ok (i := (a.ws.length : Int)) r (by omega) get_last) (fun n hn => .inr (by have := hlo n (pn2 get_last hn); omega)) (by omega) fun v h5 c5 hc5 hfr5 hq => ?_)
            obtain ⟨rfl, rfl, hq⟩ := hq
            rcases hq with ⟨k2, z2, h6, h7, rfl⟩ | ⟨_, rfl⟩
            · have := (List.getElem?_eq_some_iff.1 h7).1; omega
            repeat' (first
              | refine WpC.seq ?_
              | refine WpC.region ?_
              | refine WpC.drawn ?_
              | refine WpC.skip ?_
              | refine WpC.block ?_
              | refine WpC.exit ?_
              | refine WpC.ret ?_
              | refine WpO.nil ?_
              | refine WpO.cons rfl rfl (WpX.pure (fun _ => rfl) ⟨nolog, ?_⟩)
              | refine WpO.skip rfl rfl ?_
              | refine WpL.cons rfl rfl (WpX.pure (fun _ => rfl) ⟨nolog, ?_⟩)
              | refine WpL.skip rfl rfl ?_
              | refine seqQ_normal ?_
              | refine seqQ_ret ?_
              | refine seqQ_exit ?_
              | refine blkQ_normal ?_
              | refine blkQ_ret ?_
              | refine blkQ_out rfl ?_
              | refine blkQ_by rfl ?_)
            refine WpO.cons rfl rfl (call_at rfl (tag_ok hk0) (by simp) (by omega) fun v h5 c5 hc5 hfr5 hq => ?_)
            obtain ⟨rfl, rfl, rfl⟩ := hq
            repeat' (first
              | refine WpC.seq ?_
              | refine WpC.region ?_
              | refine WpC.drawn ?_
              | refine WpC.skip ?_
              | refine WpC.block ?_
              | refine WpC.exit ?_
              | refine WpC.ret ?_
              | refine WpO.nil ?_
              | refine WpO.cons rfl rfl (WpX.pure (fun _ => rfl) ⟨nolog, ?_⟩)
              | refine WpO.skip rfl rfl ?_
              | refine WpL.cons rfl rfl (WpX.pure (fun _ => rfl) ⟨nolog, ?_⟩)
              | refine WpL.skip rfl rfl ?_
              | refine seqQ_normal ?_
              | refine seqQ_ret ?_
              | refine seqQ_exit ?_
              | refine blkQ_normal ?_
              | refine blkQ_ret ?_
              | refine blkQ_out rfl ?_
              | refine blkQ_by rfl ?_)
            refine WpO.cons rfl rfl (call_at rfl (leave_ok r (by omega) get_last) (fun n hn => .inr (by have := hlo n (pn1 hn); omega)) (by omega) fun v h5 c5 hc5 hfr5 hq => ?_)
            obtain ⟨rfl, hq⟩ := hq
            rcases hq with ⟨h6, _⟩ | ⟨_, rfl, r5⟩
            · exact absurd h6 g
            rw [set_last] at r5
            have J5 := B.pj.move r5 hc5 (pn_repl (b := ⟨a.back, none, []⟩) fun n hn => (by cases hn)) (fun n hn hm => hfr5 n hn (fun h => hm (pn1 h)))
            repeat' (first
              | refine WpC.seq ?_
              | refine WpC.region ?_
              | refine WpC.drawn ?_
              | refine WpC.skip ?_
              | refine WpC.block ?_
              | refine WpC.exit ?_
              | refine WpC.ret ?_
              | refine WpO.nil ?_
              | refine WpO.cons rfl rfl (WpX.pure (fun _ => rfl) ⟨nolog, ?_⟩)
              | refine WpO.skip rfl rfl ?_
              | refine WpL.cons rfl rfl (WpX.pure (fun _ => rfl) ⟨nolog, ?_⟩)
              | refine WpL.skip rfl rfl ?_
              | refine seqQ_normal ?_
              | refine seqQ_ret ?_
              | refine seqQ_exit ?_
              | refine blkQ_normal ?_
              | refine blkQ_ret ?_
              | refine blkQ_out rfl ?_
              | refine blkQ_by rfl ?_)
            refine WpC.cond rfl (fun hb => by cases hb) (fun _ => ?_)
            repeat' (first
              | refine WpC.seq ?_
              | refine WpC.region ?_
              | refine WpC.drawn ?_
              | refine WpC.skip ?_
              | refine WpC.block ?_
              | refine WpC.exit ?_
              | refine WpC.ret ?_
              | refine WpO.nil ?_
              | refine WpO.cons rfl rfl (WpX.pure (fun _ => rfl) ⟨nolog, ?_⟩)
              | refine WpO.skip rfl rfl ?_
              | refine WpL.cons rfl rfl (WpX.pure (fun _ => rfl) ⟨nolog, ?_⟩)
              | refine WpL.skip rfl rfl ?_
              | refine seqQ_normal ?_
              | refine seqQ_ret ?_
              | refine seqQ_exit ?_
              | refine blkQ_normal ?_
              | refine blkQ_ret ?_
              | refine blkQ_out rfl ?_
              | refine blkQ_by rfl ?_)
            simp only [hw2]
            have hdd : depth (cs ++ [(⟨a.back, none, []⟩ : Cal)]) = depth (cs ++ [a]) - a.ws.length := by
              rw [depth_app, depth_one, depth_app, depth_one]; simp; omega
            refine ⟨⟨a.back, none, []⟩, rfl, rfl, ?_, ⟨?_, ?_, B.len, ?_, B.st⟩⟩
            · rw [hdd]
              exact set8 rfl rfl rfl rfl rfl rfl rfl rfl
            · rw [back_repl (cs := cs) (a := a) (b := ⟨a.back, none, []⟩) rfl]
              exact J5
            · rw [hdd]; omega
            · intro x hx hne
              rcases List.mem_append.1 hx with h | h
              · exact B.wp x (List.mem_append_left _ h) hne
              · simp at h; subst h; exact absurd rfl hne
        · rintro e h5 c5 ⟨a', hga, hba, ⟨b0, rfl⟩, B'⟩
          have hlo' := B'.pj.lo
          have hcc' := B'.pj.lc
          have hdp' := B'.dep
          have hle' := B'.len
          have hl1' : (cs ++ [a']).length ≤ 1000 := by simp; omega
          repeat' (first
            | refine WpC.seq ?_
            | refine WpC.region ?_
            | refine WpC.drawn ?_
            | refine WpC.skip ?_
            | refine WpC.block ?_
            | refine WpC.exit ?_
            | refine WpC.ret ?_
            | refine WpO.nil ?_
            | refine WpO.cons rfl rfl (WpX.pure (fun _ => rfl) ⟨nolog, ?_⟩)
            | refine WpO.skip rfl rfl ?_
            | refine WpL.cons rfl rfl (WpX.pure (fun _ => rfl) ⟨nolog, ?_⟩)
            | refine WpL.skip rfl rfl ?_
            | refine seqQ_normal ?_
            | refine seqQ_ret ?_
            | refine seqQ_exit ?_
            | refine blkQ_normal ?_
            | refine blkQ_ret ?_
            | refine blkQ_out rfl ?_
            | refine blkQ_by rfl ?_)
          refine WpO.cons rfl rfl (call_at rfl (back_ok B'.pj.pr hl1' get_last) (fun n hn => .inr (by have := hlo' n (pn1 hn); omega)) (by omega) fun v h6 c6 hc6 hfr6 hq => ?_)
          obtain ⟨rfl, hq⟩ := hq
          rcases hq with ⟨h7, rfl, rfl⟩ | ⟨h7, _, rfl, cv', hnm', r6⟩
          · have hcs : cs = [] := by
              rcases h7 with h | h
              · simpa using h
              · exact absurd hga h
            subst hcs
            obtain ⟨sb, capb, rfl, hsb⟩ := B'.pj.bk.shape
            have e3 : decide (((((([] : List Cal) ++ [a']).tail.map (·.back)).length : Nat) : Int) > 0) = false := by simp
            repeat' (first
              | refine WpC.seq ?_
              | refine WpC.region ?_
              | refine WpC.drawn ?_
              | refine WpC.skip ?_
              | refine WpC.block ?_
              | refine WpC.exit ?_
              | refine WpC.ret ?_
              | refine WpO.nil ?_
              | refine WpO.cons rfl rfl (WpX.pure (fun _ => rfl) ⟨nolog, ?_⟩)
              | refine WpO.skip rfl rfl ?_
              | refine WpL.cons rfl rfl (WpX.pure (fun _ => rfl) ⟨nolog, ?_⟩)
              | refine WpL.skip rfl rfl ?_
              | refine seqQ_normal ?_
              | refine seqQ_ret ?_
              | refine seqQ_exit ?_
              | refine blkQ_normal ?_
              | refine blkQ_ret ?_
              | refine blkQ_out rfl ?_
              | refine blkQ_by rfl ?_
              | refine WpO.cons rfl rfl (op_len rfl rfl rfl ⟨(by simp [InL, Acc.name, rowName] <;> omega), ?_⟩)
              | refine WpL.cons rfl rfl (op_len rfl rfl rfl ⟨(by simp [InL, Acc.name, rowName] <;> omega), ?_⟩))
            simp only [e3]
            repeat' (first
              | refine WpC.seq ?_
              | refine WpC.region ?_
              | refine WpC.drawn ?_
              | refine WpC.skip ?_
              | refine WpC.block ?_
              | refine WpC.exit ?_
              | refine WpC.ret ?_
              | refine WpO.nil ?_
              | refine WpO.cons rfl rfl (WpX.pure (fun _ => rfl) ⟨nolog, ?_⟩)
              | refine WpO.skip rfl rfl ?_
              | refine WpL.cons rfl rfl (WpX.pure (fun _ => rfl) ⟨nolog, ?_⟩)
              | refine WpL.skip rfl rfl ?_
              | refine seqQ_normal ?_
              | refine seqQ_ret ?_
              | refine seqQ_exit ?_
              | refine blkQ_normal ?_
              | refine blkQ_ret ?_
              | refine blkQ_out rfl ?_
              | refine blkQ_by rfl ?_)
            refine WpC.cond rfl (fun hb => by cases hb) (fun _ => ?_)
            repeat' (first
              | refine WpC.seq ?_
              | refine WpC.region ?_
              | refine WpC.drawn ?_
              | refine WpC.skip ?_
              | refine WpC.block ?_
              | refine WpC.exit ?_
              | refine WpC.ret ?_
              | refine WpO.nil ?_
              | refine WpO.cons rfl rfl (WpX.pure (fun _ => rfl) ⟨nolog, ?_⟩)
              | refine WpO.skip rfl rfl ?_
              | refine WpL.cons rfl rfl (WpX.pure (fun _ => rfl) ⟨nolog, ?_⟩)
              | refine WpL.skip rfl rfl ?_
              | refine seqQ_normal ?_
              | refine seqQ_ret ?_
              | refine seqQ_exit ?_
              | refine blkQ_normal ?_
              | refine blkQ_ret ?_
              | refine blkQ_out rfl ?_
              | refine blkQ_by rfl ?_)
            refine WpC.cond rfl (fun hb => by cases hb) (fun _ => ?_)
            repeat' (first
              | refine WpC.seq ?_
              | refine WpC.region ?_
              | refine WpC.drawn ?_
              | refine WpC.skip ?_
              | refine WpC.block ?_
              | refine WpC.exit ?_
              | refine WpC.ret ?_
              | refine WpO.nil ?_
              | refine WpO.cons rfl rfl (WpX.pure (fun _ => rfl) ⟨nolog, ?_⟩)
              | refine WpO.skip rfl rfl ?_
              | refine WpL.cons rfl rfl (WpX.pure (fun _ => rfl) ⟨nolog, ?_⟩)
              | refine WpL.skip rfl rfl ?_
              | refine seqQ_normal ?_
              | refine seqQ_ret ?_
              | refine seqQ_exit ?_
              | refine blkQ_normal ?_
              | refine blkQ_ret ?_
              | refine blkQ_out rfl ?_
              | refine blkQ_by rfl ?_)
            exact ⟨[], a', _, _, _, set8 rfl rfl rfl rfl rfl rfl rfl rfl, ⟨B'.pj, B'.dep, by simp, B'.wp, B'.st⟩⟩
          · obtain ⟨cs1, b1, rfl⟩ : ∃ cs1 b1, cs = cs1 ++ [b1] := by
              refine ⟨cs.dropLast, cs.getLast (fun h => ?_), (List.dropLast_concat_getLast _).symm⟩
              rw [h] at h7; simp at h7
            rw [List.dropLast_concat] at r6
            have hbk := B'.pj.bk
            rw [back_push] at hbk
            have hfs := B'.pj.fs
            rw [List.map_append] at hfs
            obtain ⟨s8, cl8, jk8, e8, hs8, hg8, hn8, hl8⟩ := snoc_list hbk
            obtain ⟨s9, cl9, jk9, e9, hs9, hg9, hn9, hl9⟩ := snoc_list hfs
            have J5 := B'.pj.move r6 hc6 (pn_pop hnm') (fun n hn hm => hfr6 n hn (fun h => hm (pn1 h)))
            have hx8 : MapI.get h6 s8 = some (.cells true cl8 (flat intV ((cs1 ++ [b1]).tail.map (·.back) ++ [a'.back]) ++ jk8)) := by
              rw [hfr6 s8 hs8 (fun h => (B'.pj.nb s8 (by rw [e8]; simp [rowName])).1 (pn1 h))]; exact hg8
            have hx9 : MapI.get h6 s9 = some (.cells true cl9 (flat intV (cs1.map (fun b => (b.ws.length : Int)) ++ [(b1.ws.length : Int)]) ++ jk9)) := by
              rw [hfr6 s9 hs9 (fun h => B'.pj.nf s9 (by rw [e9]; simp [rowName]) (pn1 h))]; exact hg9
            have J6 := J5.setB (vb' := .slice (some (s8, 0)) ((cs1 ++ [b1]).tail.map (·.back)).length (.upTo 1)) (hl8.keep hc6 fun n hn hm => hfr6 n hn (fun h => (B'.pj.nb n (by rw [e8]; simpa [rowName] using hm)).1 (pn1 h))) (Nat.le_refl _) (fun n hn => .inl (by rw [e8]; simpa [rowName] using hn)) (fun n _ _ => rfl)
            have J7 := J6.setF (vf' := .slice (some (s9, 0)) (cs1.map (fun b => (b.ws.length : Int))).length (.upTo 1)) (hl9.keep hc6 fun n hn hm => hfr6 n hn (fun h => B'.pj.nf n (by rw [e9]; simpa [rowName] using hm) (pn1 h))) (Nat.le_refl _) (fun n hn => .inl (by rw [e9]; simpa [rowName] using hn)) (fun n _ _ => rfl)
            clear J5 J6 hbk hfs
            have hs8c : q + 1 ≤ s8 := B'.pj.lob s8 (by rw [e8]; simp [rowName])
            have hs9c : q + 1 ≤ s9 := B'.pj.lof s9 (by rw [e9]; simp [rowName])
            subst e8
            subst e9
            have hll : ((cs1 ++ [b1]).tail.map (·.back)).length = cs1.length := by simp
            have hll2 : (cs1.map (fun b => (b.ws.length : Int))).length = cs1.length := by simp
            have hle2 : cs1.length + 1 ≤ i := by simpa using hle'
            generalize hys : ((cs1 ++ [b1]).tail.map (·.back)) = ys at *
            generalize hfl : (cs1.map (fun b => (b.ws.length : Int))) = fl at *
            have e3 : decide (((ys.length + 1 : Nat) : Int) > 0) = true := decide_eq_true (by omega)
            have hw1 : IntKind.i64.wrap (((ys.length + 1 : Nat) : Int) - 1) = ((ys.length : Nat) : Int) := by rw [Go.IntWalk.i64_in _ (by omega)]; omega
            have hy8 : nth (flat intV (ys ++ [a'.back]) ++ jk8) (0 + (IntKind.i64.wrap (((ys.length + 1 : Nat) : Int) - 1)).toNat * 1) = some (I a'.back) := by
              rw [hw1]; simpa using hn8
            have hy9 : nth (flat intV (fl ++ [(b1.ws.length : Int)]) ++ jk9) (0 + (IntKind.i64.wrap (((ys.length + 1 : Nat) : Int) - 1)).toNat * 1) = some (I b1.ws.length) := by
              rw [hw1, hll, ← hll2]; simpa using hn9
            have hub8 : bound (some (I (IntKind.i64.wrap (((ys.length + 1 : Nat) : Int) - 1)))) (ys.length + 1) = some ys.length := bound_at hw1
            have hub9 : bound (some (I (IntKind.i64.wrap (((ys.length + 1 : Nat) : Int) - 1)))) (fl.length + 1) = some fl.length := bound_at (by rw [hw1, hll, hll2])
            have hw2 : IntKind.i64.wrap ((depth (cs1 ++ [b1] ++ [a']) : Int) - 1) = ((depth (cs1 ++ [b1]) : Nat) : Int) := by
              rw [depth_app, depth_one, hga]
              have hdp2 := hdp'
              rw [depth_app, depth_one, hga] at hdp2
              simp only [List.length_nil] at hdp2 ⊢
              rw [Go.IntWalk.i64_in _ (by omega)]; omega
            repeat' (first
              | refine WpC.seq ?_
              | refine WpC.region ?_
              | refine WpC.drawn ?_
              | refine WpC.skip ?_
              | refine WpC.block ?_
              | refine WpC.exit ?_
              | refine WpC.ret ?_
              | refine WpO.nil ?_
              | refine WpO.cons rfl rfl (WpX.pure (fun _ => rfl) ⟨nolog, ?_⟩)
              | refine WpO.skip rfl rfl ?_
              | refine WpL.cons rfl rfl (WpX.pure (fun _ => rfl) ⟨nolog, ?_⟩)
              | refine WpL.skip rfl rfl ?_
              | refine seqQ_normal ?_
              | refine seqQ_ret ?_
              | refine seqQ_exit ?_
              | refine blkQ_normal ?_
              | refine blkQ_ret ?_
              | refine blkQ_out rfl ?_
              | refine blkQ_by rfl ?_
              | refine WpO.cons rfl rfl (op_len rfl rfl rfl ⟨(by simp [InL, Acc.name, rowName] <;> omega), ?_⟩)
              | refine WpL.cons rfl rfl (op_len rfl rfl rfl ⟨(by simp [InL, Acc.name, rowName] <;> omega), ?_⟩))
            simp only [e3]
            repeat' (first
              | refine WpC.seq ?_
              | refine WpC.region ?_
              | refine WpC.drawn ?_
              | refine WpC.skip ?_
              | refine WpC.block ?_
              | refine WpC.exit ?_
              | refine WpC.ret ?_
              | refine WpO.nil ?_
              | refine WpO.cons rfl rfl (WpX.pure (fun _ => rfl) ⟨nolog, ?_⟩)
              | refine WpO.skip rfl rfl ?_
              | refine WpL.cons rfl rfl (WpX.pure (fun _ => rfl) ⟨nolog, ?_⟩)
              | refine WpL.skip rfl rfl ?_
              | refine seqQ_normal ?_
              | refine seqQ_ret ?_
              | refine seqQ_exit ?_
              | refine blkQ_normal ?_
              | refine blkQ_ret ?_
              | refine blkQ_out rfl ?_
              | refine blkQ_by rfl ?_
              | refine WpO.cons rfl rfl (op_len rfl rfl rfl ⟨(by simp [InL, Acc.name, rowName] <;> omega), ?_⟩)
              | refine WpL.cons rfl rfl (op_len rfl rfl rfl ⟨(by simp [InL, Acc.name, rowName] <;> omega), ?_⟩)
              | refine WpO.cons rfl rfl (op_indexAddr (k := 1) rfl rfl rfl rfl ⟨by rw [hw1]; omega, by rw [hw1]; omega⟩ ⟨(by simp [InL, Acc.name, rowName] <;> omega), ?_⟩)
              | refine WpL.cons rfl rfl (op_indexAddr (k := 1) rfl rfl rfl rfl ⟨by rw [hw1]; omega, by rw [hw1]; omega⟩ ⟨(by simp [InL, Acc.name, rowName] <;> omega), ?_⟩)
              | refine WpO.cons rfl rfl (op_load rfl rfl rfl hx8 hy8 ⟨(by simp [InL, Acc.name, rowName] <;> omega), ?_⟩)
              | refine WpL.cons rfl rfl (op_load rfl rfl rfl hx8 hy8 ⟨(by simp [InL, Acc.name, rowName] <;> omega), ?_⟩))
            simp only [bne_self_eq_false]
            repeat' (first
              | refine WpC.seq ?_
              | refine WpC.region ?_
              | refine WpC.drawn ?_
              | refine WpC.skip ?_
              | refine WpC.block ?_
              | refine WpC.exit ?_
              | refine WpC.ret ?_
              | refine WpO.nil ?_
              | refine WpO.cons rfl rfl (WpX.pure (fun _ => rfl) ⟨nolog, ?_⟩)
              | refine WpO.skip rfl rfl ?_
              | refine WpL.cons rfl rfl (WpX.pure (fun _ => rfl) ⟨nolog, ?_⟩)
              | refine WpL.skip rfl rfl ?_
              | refine seqQ_normal ?_
              | refine seqQ_ret ?_
              | refine seqQ_exit ?_
              | refine blkQ_normal ?_
              | refine blkQ_ret ?_
              | refine blkQ_out rfl ?_
              | refine blkQ_by rfl ?_)
            refine WpC.cond rfl (fun hb => by cases hb) (fun _ => ?_)
            repeat' (first
              | refine WpC.seq ?_
              | refine WpC.region ?_
              | refine WpC.drawn ?_
              | refine WpC.skip ?_
              | refine WpC.block ?_
              | refine WpC.exit ?_
              | refine WpC.ret ?_
              | refine WpO.nil ?_
              | refine WpO.cons rfl rfl (WpX.pure (fun _ => rfl) ⟨nolog, ?_⟩)
              | refine WpO.skip rfl rfl ?_
              | refine WpL.cons rfl rfl (WpX.pure (fun _ => rfl) ⟨nolog, ?_⟩)
              | refine WpL.skip rfl rfl ?_
              | refine seqQ_normal ?_
              | refine seqQ_ret ?_
              | refine seqQ_exit ?_
              | refine blkQ_normal ?_
              | refine blkQ_ret ?_
              | refine blkQ_out rfl ?_
              | refine blkQ_by rfl ?_)
            refine WpC.cond rfl (fun _ => ?_) (fun hb => by cases hb)
            repeat' (first
              | refine WpC.seq ?_
              | refine WpC.region ?_
              | refine WpC.drawn ?_
              | refine WpC.skip ?_
              | refine WpC.block ?_
              | refine WpC.exit ?_
              | refine WpC.ret ?_
              | refine WpO.nil ?_
              | refine WpO.cons rfl rfl (WpX.pure (fun _ => rfl) ⟨nolog, ?_⟩)
              | refine WpO.skip rfl rfl ?_
              | refine WpL.cons rfl rfl (WpX.pure (fun _ => rfl) ⟨nolog, ?_⟩)
              | refine WpL.skip rfl rfl ?_
              | refine seqQ_normal ?_
              | refine seqQ_ret ?_
              | refine seqQ_exit ?_
              | refine blkQ_normal ?_
              | refine blkQ_ret ?_
              | refine blkQ_out rfl ?_
              | refine blkQ_by rfl ?_
              | refine WpO.cons rfl rfl (op_len rfl rfl rfl ⟨(by simp [InL, Acc.name, rowName] <;> omega), ?_⟩)
              | refine WpL.cons rfl rfl (op_len rfl rfl rfl ⟨(by simp [InL, Acc.name, rowName] <;> omega), ?_⟩)
              | refine WpO.cons rfl rfl (op_indexAddr (k := 1) rfl rfl rfl rfl ⟨by rw [hw1]; omega, by rw [hw1]; omega⟩ ⟨(by simp [InL, Acc.name, rowName] <;> omega), ?_⟩)
              | refine WpL.cons rfl rfl (op_indexAddr (k := 1) rfl rfl rfl rfl ⟨by rw [hw1]; omega, by rw [hw1]; omega⟩ ⟨(by simp [InL, Acc.name, rowName] <;> omega), ?_⟩)
              | refine WpO.cons rfl rfl (op_load rfl rfl rfl hx9 hy9 ⟨(by simp [InL, Acc.name, rowName] <;> omega), ?_⟩)
              | refine WpL.cons rfl rfl (op_load rfl rfl rfl hx9 hy9 ⟨(by simp [InL, Acc.name, rowName] <;> omega), ?_⟩))
            refine WpL.cons rfl rfl (op_slice (k := 0) rfl rfl rfl rfl rfl (l := 0) rfl hub8 (Nat.zero_le _) (by omega) rfl ⟨nolog, ?_⟩)
            repeat' (first
              | refine WpC.seq ?_
              | refine WpC.region ?_
              | refine WpC.drawn ?_
              | refine WpC.skip ?_
              | refine WpC.block ?_
              | refine WpC.exit ?_
              | refine WpC.ret ?_
              | refine WpO.nil ?_
              | refine WpO.cons rfl rfl (WpX.pure (fun _ => rfl) ⟨nolog, ?_⟩)
              | refine WpO.skip rfl rfl ?_
              | refine WpL.cons rfl rfl (WpX.pure (fun _ => rfl) ⟨nolog, ?_⟩)
              | refine WpL.skip rfl rfl ?_
              | refine seqQ_normal ?_
              | refine seqQ_ret ?_
              | refine seqQ_exit ?_
              | refine blkQ_normal ?_
              | refine blkQ_ret ?_
              | refine blkQ_out rfl ?_
              | refine blkQ_by rfl ?_)
            refine WpL.cons rfl rfl (op_slice (k := 0) rfl rfl rfl rfl rfl (l := 0) rfl hub9 (Nat.zero_le _) (by omega) rfl ⟨nolog, ?_⟩)
            repeat' (first
              | refine WpC.seq ?_
              | refine WpC.region ?_
              | refine WpC.drawn ?_
              | refine WpC.skip ?_
              | refine WpC.block ?_
              | refine WpC.exit ?_
              | refine WpC.ret ?_
              | refine WpO.nil ?_
              | refine WpO.cons rfl rfl (WpX.pure (fun _ => rfl) ⟨nolog, ?_⟩)
              | refine WpO.skip rfl rfl ?_
              | refine WpL.cons rfl rfl (WpX.pure (fun _ => rfl) ⟨nolog, ?_⟩)
              | refine WpL.skip rfl rfl ?_
              | refine seqQ_normal ?_
              | refine seqQ_ret ?_
              | refine seqQ_exit ?_
              | refine blkQ_normal ?_
              | refine blkQ_ret ?_
              | refine blkQ_out rfl ?_
              | refine blkQ_by rfl ?_)
            refine WpL.nil (logsOk_of (cs := [0, 0, 3, 0, 0, 24, 7, 127]) (by decide +kernel) ?_) ?_
            · simp +contextual [allP, apP, Dis, acc_rd, acc_wr, accw_rd, accw_wr, Nat.testBit]
            repeat' (first
              | refine WpC.seq ?_
              | refine WpC.region ?_
              | refine WpC.drawn ?_
              | refine WpC.skip ?_
              | refine WpC.block ?_
              | refine WpC.exit ?_
              | refine WpC.ret ?_
              | refine WpO.nil ?_
              | refine WpO.cons rfl rfl (WpX.pure (fun _ => rfl) ⟨nolog, ?_⟩)
              | refine WpO.skip rfl rfl ?_
              | refine WpL.cons rfl rfl (WpX.pure (fun _ => rfl) ⟨nolog, ?_⟩)
              | refine WpL.skip rfl rfl ?_
              | refine seqQ_normal ?_
              | refine seqQ_ret ?_
              | refine seqQ_exit ?_
              | refine blkQ_normal ?_
              | refine blkQ_ret ?_
              | refine blkQ_out rfl ?_
              | refine blkQ_by rfl ?_)
            simp only [hw2]
            have e8 : V.slice (some (s8, 0 + 0 * (0 + 1))) (ys.length - 0) (.upTo 1) = .slice (some (s8, 0)) ys.length (.upTo 1) := by simp
            have e9 : V.slice (some (s9, 0 + 0 * (0 + 1))) (fl.length - 0) (.upTo 1) = .slice (some (s9, 0)) fl.length (.upTo 1) := by simp
            refine ⟨cs1, b1, cv', .slice (some (s8, 0)) ys.length (.upTo 1), .slice (some (s9, 0)) fl.length (.upTo 1), ?_, ⟨?_, ?_, ?_, ?_, B.st⟩⟩
            · simp only [← e8, ← e9]
              exact set8 rfl rfl rfl rfl rfl rfl rfl rfl
            · rw [hys, hfl]; exact J7
            · have := B'.dep; rw [depth_app] at this; omega
            · omega
            · exact fun x hx hne => B'.wp x (List.mem_append_left _ hx) hne
  · rintro e h5 c5 ⟨cs', a', cv', vb', vf', ⟨b0, rfl⟩, B'⟩
    have hlo' := B'.pj.lo
    have hcc' := B'.pj.lc
    have hdp' := B'.dep
    have hle' := B'.len
    have hl1' : (cs' ++ [a']).length ≤ 1000 := by simp; omega
    have hd' : ∀ i, depth ((cs' ++ [a']).take i) ≤ 100000 := fun i => by have := depth_take (cs := cs' ++ [a']) i; omega
    have hw' : ∀ (i : Nat) (b : Cal), (cs' ++ [a'])[i]? = some b → b.ws.length ≤ 100000 := fun i b hb => by have := depth_mem hb; omega
    have hwi : IntKind.i64.wrap ((i : Int) + 1) = ((i + 1 : Nat) : Int) := by rw [Go.IntWalk.i64_in _ (by omega)]; omega
    repeat' (first
      | refine WpC.seq ?_
      | refine WpC.region ?_
      | refine WpC.drawn ?_
      | refine WpC.skip ?_
      | refine WpC.block ?_
      | refine WpC.exit ?_
      | refine WpC.ret ?_
      | refine WpO.nil ?_
      | refine WpO.cons rfl rfl (WpX.pure (fun _ => rfl) ⟨nolog, ?_⟩)
      | refine WpO.skip rfl rfl ?_
      | refine WpL.cons rfl rfl (WpX.pure (fun _ => rfl) ⟨nolog, ?_⟩)
      | refine WpL.skip rfl rfl ?_
      | refine seqQ_normal ?_
      | refine seqQ_ret ?_
      | refine seqQ_exit ?_
      | refine blkQ_normal ?_
      | refine blkQ_ret ?_
      | refine blkQ_out rfl ?_
      | refine blkQ_by rfl ?_)
    refine WpO.cons rfl rfl (call_at rfl (depth_ok B'.pj.pr hl1' hd' hw') (fun n hn => .inr (by have := hlo' n (pn1 hn); omega)) (by omega) fun v h6 c6 hc6 hfr6 hq => ?_)
    obtain ⟨rfl, hsame⟩ := hq
    have B6 := B'.pj.keep hc6 hsame
    have hbx6 := B6.box
    have e4 : decide (((depth (cs' ++ [a']) : Nat) : Int) > (st : Int)) = false := by simp; omega
    repeat' (first
      | refine WpC.seq ?_
      | refine WpC.region ?_
      | refine WpC.drawn ?_
      | refine WpC.skip ?_
      | refine WpC.block ?_
      | refine WpC.exit ?_
      | refine WpC.ret ?_
      | refine WpO.nil ?_
      | refine WpO.cons rfl rfl (WpX.pure (fun _ => rfl) ⟨nolog, ?_⟩)
      | refine WpO.skip rfl rfl ?_
      | refine WpL.cons rfl rfl (WpX.pure (fun _ => rfl) ⟨nolog, ?_⟩)
      | refine WpL.skip rfl rfl ?_
      | refine seqQ_normal ?_
      | refine seqQ_ret ?_
      | refine seqQ_exit ?_
      | refine blkQ_normal ?_
      | refine blkQ_ret ?_
      | refine blkQ_out rfl ?_
      | refine blkQ_by rfl ?_)
    simp only [bne_self_eq_false]
    repeat' (first
      | refine WpC.seq ?_
      | refine WpC.region ?_
      | refine WpC.drawn ?_
      | refine WpC.skip ?_
      | refine WpC.block ?_
      | refine WpC.exit ?_
      | refine WpC.ret ?_
      | refine WpO.nil ?_
      | refine WpO.cons rfl rfl (WpX.pure (fun _ => rfl) ⟨nolog, ?_⟩)
      | refine WpO.skip rfl rfl ?_
      | refine WpL.cons rfl rfl (WpX.pure (fun _ => rfl) ⟨nolog, ?_⟩)
      | refine WpL.skip rfl rfl ?_
      | refine seqQ_normal ?_
      | refine seqQ_ret ?_
      | refine seqQ_exit ?_
      | refine blkQ_normal ?_
      | refine blkQ_ret ?_
      | refine blkQ_out rfl ?_
      | refine blkQ_by rfl ?_
      | refine WpO.cons rfl rfl (op_load rfl rfl rfl hbx6 rfl ⟨(by simp [InL, Acc.name, rowName] <;> omega), ?_⟩)
      | refine WpL.cons rfl rfl (op_load rfl rfl rfl hbx6 rfl ⟨(by simp [InL, Acc.name, rowName] <;> omega), ?_⟩))
    simp only [e4]
    repeat' (first
      | refine WpC.seq ?_
      | refine WpC.region ?_
      | refine WpC.drawn ?_
      | refine WpC.skip ?_
      | refine WpC.block ?_
      | refine WpC.exit ?_
      | refine WpC.ret ?_
      | refine WpO.nil ?_
      | refine WpO.cons rfl rfl (WpX.pure (fun _ => rfl) ⟨nolog, ?_⟩)
      | refine WpO.skip rfl rfl ?_
      | refine WpL.cons rfl rfl (WpX.pure (fun _ => rfl) ⟨nolog, ?_⟩)
      | refine WpL.skip rfl rfl ?_
      | refine seqQ_normal ?_
      | refine seqQ_ret ?_
      | refine seqQ_exit ?_
      | refine blkQ_normal ?_
      | refine blkQ_ret ?_
      | refine blkQ_out rfl ?_
      | refine blkQ_by rfl ?_)
    refine WpC.cond rfl (fun hb => by cases hb) (fun _ => ?_)
    repeat' (first
      | refine WpC.seq ?_
      | refine WpC.region ?_
      | refine WpC.drawn ?_
      | refine WpC.skip ?_
      | refine WpC.block ?_
      | refine WpC.exit ?_
      | refine WpC.ret ?_
      | refine WpO.nil ?_
      | refine WpO.cons rfl rfl (WpX.pure (fun _ => rfl) ⟨nolog, ?_⟩)
      | refine WpO.skip rfl rfl ?_
      | refine WpL.cons rfl rfl (WpX.pure (fun _ => rfl) ⟨nolog, ?_⟩)
      | refine WpL.skip rfl rfl ?_
      | refine seqQ_normal ?_
      | refine seqQ_ret ?_
      | refine seqQ_exit ?_
      | refine blkQ_normal ?_
      | refine blkQ_ret ?_
      | refine blkQ_out rfl ?_
      | refine blkQ_by rfl ?_)
    simp only [hwi]
    exact ⟨(i + 1, cs', a', cv', vb', vf'), by simp only; omega, set8 rfl rfl rfl rfl rfl rfl rfl rfl, by simp only; omega, ⟨B6, B'.dep, B'.len, B'.wp, B'.st⟩⟩
end Go.Proofs.Ytempfmkicpifkaa.Ps
