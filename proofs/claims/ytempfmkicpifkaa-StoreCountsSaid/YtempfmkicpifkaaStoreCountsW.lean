/- StoreCounts answers true. -/
import Derived.Test.YtempfmkicpifkaaStore5W
set_option linter.unusedVariables false
set_option linter.unusedSectionVars false
set_option linter.unusedSimpArgs false
set_option linter.unnecessarySimpa false
namespace Go.Proofs.Ytempfmkicpifkaa
open Go.Ab
set_option maxRecDepth 10000

theorem set5 {X : EE} {k0 k1 k2 k3 k4 : Nat} {v0 v1 v2 v3 v4 : V} (h0 : X k0 = some v0) (h1 : X k1 = some v1) (h2 : X k2 = some v2) (h3 : X k3 = some v3) (h4 : X k4 = some v4) : ∃ b, X = MapI.set (MapI.set (MapI.set (MapI.set (MapI.set b k0 v0) k1 v1) k2 v2) k3 v3) k4 v4 :=
  ⟨X, by rw [FM.add h0, FM.add h1, FM.add h2, FM.add h3, FM.add h4]⟩
theorem set6 {X : EE} {k0 k1 k2 k3 k4 k5 : Nat} {v0 v1 v2 v3 v4 v5 : V} (h0 : X k0 = some v0) (h1 : X k1 = some v1) (h2 : X k2 = some v2) (h3 : X k3 = some v3) (h4 : X k4 = some v4) (h5 : X k5 = some v5) : ∃ b, X = MapI.set (MapI.set (MapI.set (MapI.set (MapI.set (MapI.set b k0 v0) k1 v1) k2 v2) k3 v3) k4 v4) k5 v5 :=
  ⟨X, by rw [FM.add h0, FM.add h1, FM.add h2, FM.add h3, FM.add h4, FM.add h5]⟩
theorem set_int {junk : List V} {y : Int} : ∀ {cs : List Int} {k : Nat}, k < cs.length → setAll (flat intV cs ++ junk) k [I y] = flat intV (cs.set k y) ++ junk
  | [], _, h => by simp at h
  | x :: cs, 0, _ => by simp [flat, intV, setAll, ovr]
  | x :: cs, k + 1, h => by
    have := set_int (junk := junk) (y := y) (cs := cs) (k := k) (by simpa using h)
    simp only [flat_cons, List.append_assoc, List.set_cons_succ] at this ⊢
    simp only [intV, List.cons_append, List.nil_append, setAll, this]

/-- The store beside the counts. -/
structure CI (h0 h : HH) (c0 c1 c p : Nat) (vb vr vc : V) (cs bs : List Int) (rows : List (Int × Int × Int)) (i : Nat) : Prop where
  st : StoreAt h c p vb vr ⟨bs, 4000, rows, pos cs⟩
  rc : rows.map (fun q => q.2.2) = cs
  one : ∀ q ∈ rows, q.2.1 = 1
  cn : ListOf 1 intV h c vc cs
  lb : bs.length ≤ i
  lc : cs.length ≤ i
  rg : ∀ x ∈ cs, 0 ≤ x ∧ x ≤ i
  foot : ∀ n ∈ p :: (rowName vb ++ rowName vr ++ rowName vc), c1 ≤ n
  dis : ∀ n ∈ rowName vc, n ∉ p :: (rowName vb ++ rowName vr)
  old : ∀ n, n < c0 → MapI.get h n = MapI.get h0 n
  le1 : c0 ≤ c1
  le2 : c1 ≤ c
section
variable {h0 h h' : HH} {c0 c1 c c' p i : Nat} {vb vr vc : V} {cs bs : List Int} {rows : List (Int × Int × Int)}
theorem CI.rl (B : CI h0 h c0 c1 c p vb vr vc cs bs rows i) : rows.length = cs.length := by rw [← B.rc]; simp
theorem CI.foot2 (B : CI h0 h c0 c1 c p vb vr vc cs bs rows i) : ∀ n ∈ p :: (rowName vb ++ rowName vr), c1 ≤ n := fun n hn => B.foot n (by
  rcases List.mem_cons.1 hn with e | e
  · simp [e]
  · rcases List.mem_append.1 e with e | e <;> simp [e])
theorem CI.more (B : CI h0 h c0 c1 c p vb vr vc cs bs rows i) : CI h0 h c0 c1 c p vb vr vc cs bs rows (i + 1) :=
  ⟨B.st, B.rc, B.one, B.cn, by have := B.lb; omega, by have := B.lc; omega, fun x hx => by have := B.rg x hx; omega, B.foot, B.dis, B.old, B.le1, B.le2⟩
theorem CI.keep (B : CI h0 h c0 c1 c p vb vr vc cs bs rows i) (hc : c ≤ c') (e : ∀ n, n < c → MapI.get h' n = MapI.get h n) : CI h0 h' c0 c1 c' p vb vr vc cs bs rows i :=
  ⟨B.st.keep hc e, B.rc, B.one, B.cn.keep hc fun n hn _ => e n hn, B.lb, B.lc, B.rg, B.foot, B.dis, fun n hn => by have := B.le1; have := B.le2; rw [e n (by omega)]; exact B.old n hn, B.le1, by have := B.le2; omega⟩
/-- Behind a grant. -/
theorem CI.fin {h5 hF : HH} {c5 cF : Nat} {vb2 vr2 vcF : V} {bs2 csF : List Int} {rows2 : List (Int × Int × Int)} {lv : Int} (B : CI h0 h c0 c1 c p vb vr vc cs bs rows i) (r2 : StoreAt h5 c5 p vb2 vr2 ⟨bs2, 4000, rows2, lv⟩) (hn2 : ∀ a ∈ rowName vb2 ++ rowName vr2, a ∈ rowName vb ++ rowName vr ∨ c ≤ a) (hc5 : c ≤ c5)
    (hold : ∀ n, n < c0 → MapI.get h5 n = MapI.get h0 n) (hF5 : ∀ n, n < c5 → n ∉ rowName vc → n ∉ rowName vcF → MapI.get hF n = MapI.get h5 n) (hcF : c5 ≤ cF) (hcn : ListOf 1 intV hF cF vcF csF) (hnF : ∀ a ∈ rowName vcF, a ∈ rowName vc ∨ c5 ≤ a)
    (rc : rows2.map (fun q => q.2.2) = csF) (one : ∀ q ∈ rows2, q.2.1 = 1) (lb : bs2.length ≤ i + 1) (lc : csF.length ≤ i + 1) (rg : ∀ x ∈ csF, 0 ≤ x ∧ x ≤ ((i + 1 : Nat) : Int)) (hlv : lv = pos csF) : CI h0 hF c0 c1 cF p vb2 vr2 vcF csF bs2 rows2 (i + 1) := by
  subst hlv
  have l1 := B.le1
  have l2 := B.le2
  have hdc : ∀ n ∈ rowName vc, n ∉ p :: (rowName vb2 ++ rowName vr2) := fun n h1 hb => by
    rcases List.mem_cons.1 hb with e | e
    · exact B.dis n h1 (by simp [e])
    · rcases hn2 n e with h2 | h2
      · exact B.dis n h1 (List.mem_cons_of_mem _ h2)
      · have := B.cn.lt n h1; omega
  have hdis : ∀ n ∈ rowName vcF, n ∉ p :: (rowName vb2 ++ rowName vr2) := fun n hn hb => by
    rcases hnF n hn with h1 | h1
    · exact hdc n h1 hb
    · have := r2.names n hb; omega
  refine ⟨⟨?_, r2.bytes.keep hcF fun n hn hm => ?_, r2.rows.keep hcF fun n hn hm => ?_, by have := r2.lp; omega, r2.nb, r2.nr, r2.br⟩, rc, one, hcn, lb, lc, rg, fun n hn => ?_, hdis, fun n hn => ?_, l1, by omega⟩
  · rw [hF5 p r2.lp (fun hm => hdc p hm (by simp)) (fun hm => hdis p hm (by simp))]; exact r2.obj
  · exact hF5 n hn (fun hb => hdc n hb (by simp [hm])) (fun hb => hdis n hb (by simp [hm]))
  · exact hF5 n hn (fun hb => hdc n hb (by simp [hm])) (fun hb => hdis n hb (by simp [hm]))
  · rcases List.mem_cons.1 hn with e | e
    · exact B.foot n (by simp [e])
    · rcases List.mem_append.1 e with e | e
      · rcases hn2 n e with h1 | h1
        · exact B.foot2 n (List.mem_cons_of_mem _ h1)
        · omega
      · rcases hnF n e with h1 | h1
        · exact B.foot n (by simp [h1])
        · omega
  · rw [hF5 n (by omega) (fun hm => by have := B.foot n (by simp [hm]); omega) (fun hm => by
      rcases hnF n hm with h1 | h1
      · have := B.foot n (by simp [h1]); omega
      · omega)]
    exact hold n hn
/-- One count is turned, in the store and in the list. -/
theorem CI.upd {j : Nat} {q : Int × Int × Int} {y : Int} {lv : Int} {h5 : HH} {scn : Nat} {o : AObj} {x0 : Int} (B : CI h0 h c0 c1 c p vb vr vc cs bs rows i) (r5 : StoreAt h5 c p vb vr ⟨bs, 4000, rows.set j (q.1, q.2.1, IntKind.i64.wrap y), lv⟩) (hjl : j < cs.length) (hcj : cs[j]? = some x0) (hqj : rows[j]? = some q)
    (hw : IntKind.i64.wrap y = y) (hold : ∀ n, n < c0 → MapI.get h5 n = MapI.get h0 n) (hcn : ListOf 1 intV (MapI.set h5 scn o) c vc (cs.set j y)) (hlv : lv = pos (cs.set j y)) (hy : 0 ≤ y ∧ y ≤ i + 1) (hvc : rowName vc = [scn]) :
    CI h0 (MapI.set h5 scn o) c0 c1 c p vb vr vc (cs.set j y) bs (rows.set j (q.1, q.2.1, y)) (i + 1) := by
  rw [hw] at r5
  subst hlv
  have hs := B.dis scn (by rw [hvc]; simp)
  simp only [List.mem_cons, List.mem_append, not_or] at hs
  have hfs := B.foot scn (by rw [hvc]; simp)
  have l1 := B.le1
  refine ⟨⟨?_, r5.bytes.keep (Nat.le_refl _) fun n _ hm => ?_, r5.rows.keep (Nat.le_refl _) fun n _ hm => ?_, r5.lp, r5.nb, r5.nr, r5.br⟩, ?_, ?_, hcn, by have := B.lb; omega, by rw [List.length_set]; have := B.lc; omega, fun x hx => ?_, B.foot, B.dis, fun n hn => ?_, B.le1, B.le2⟩
  · rw [MapI.get_ne _ _ _ _ hs.1]; exact r5.obj
  · exact MapI.get_ne _ _ _ _ (fun e => hs.2.1 (by rw [e]; exact hm))
  · exact MapI.get_ne _ _ _ _ (fun e => hs.2.2 (by rw [e]; exact hm))
  · rw [map_set, B.rc]
  · intro q' hq'
    rcases List.mem_or_eq_of_mem_set hq' with h | h
    · exact B.one q' h
    · rw [h]; exact B.one q (List.mem_of_getElem? hqj)
  · rcases List.mem_or_eq_of_mem_set hx with h | h
    · have := B.rg x h; omega
    · omega
  · rw [MapI.get_ne _ _ _ _ (by omega)]; exact hold n hn
end

theorem dropLive {x n : Int} {a b : Nat} (hw : IntKind.i64.wrap (x - 1) = x - 1) (h1 : n = 1) (hx : x > 0) (hp : a + (if x > 0 then 1 else 0) = b + (if x - 1 > 0 then 1 else 0)) (hb : b ≤ 1000) :
    (if IntKind.i64.wrap (x - 1) = 0 then IntKind.i64.wrap ((b : Int) - n) else (b : Int)) = (a : Int) := by
  rw [if_pos hx] at hp
  rw [hw, h1]
  by_cases hz : x - 1 = 0
  · rw [if_pos hz, Go.IntWalk.i64_in _ (by omega)]
    rw [if_neg (by omega)] at hp
    omega
  · rw [if_neg hz]
    rw [if_pos (by omega)] at hp
    omega
set_option maxHeartbeats 16000000 in
theorem counts_law {h : HH} {c : Nat} {l : V} {zs : List Int} (hl : RowArg h c l 1 zs.length (zs.map (.int .u8))) : Does 13 [l] h c (rowName l) fun v h' c' => v = .bool true := by
  refine does_of (enter (fn := Try.f13) Try.func13 rfl rfl (Nat.le_of_ble_eq_true rfl) ?_)
  repeat' (first
    | refine WpC.seq ?_
    | refine WpC.region ?_
    | refine WpC.drawn ?_
    | refine WpC.skip ?_
    | refine WpC.block ?_
    | refine WpC.exit ?_
    | refine WpC.ret ?_
    | refine WpO.nil ?_
    | refine WpO.cons rfl rfl (WpX.pure (fun _ => rfl) ⟨nolog, ?_⟩)
    | refine WpO.skip rfl rfl ?_
    | refine WpL.cons rfl rfl (WpX.pure (fun _ => rfl) ⟨nolog, ?_⟩)
    | refine WpL.skip rfl rfl ?_
    | refine seqQ_normal ?_
    | refine seqQ_ret ?_
    | refine seqQ_exit ?_
    | refine blkQ_normal ?_
    | refine blkQ_ret ?_
    | refine blkQ_out rfl ?_
    | refine blkQ_by rfl ?_)
  refine WpO.cons rfl rfl (call_at rfl sawake_ok (by simp) (Nat.le_refl _) fun v h1 p hc1 hfr1 hq => ?_)
  subst hq
  repeat' (first
    | refine WpC.seq ?_
    | refine WpC.region ?_
    | refine WpC.drawn ?_
    | refine WpC.skip ?_
    | refine WpC.block ?_
    | refine WpC.exit ?_
    | refine WpC.ret ?_
    | refine WpO.nil ?_
    | refine WpO.cons rfl rfl (WpX.pure (fun _ => rfl) ⟨nolog, ?_⟩)
    | refine WpO.skip rfl rfl ?_
    | refine WpL.cons rfl rfl (WpX.pure (fun _ => rfl) ⟨nolog, ?_⟩)
    | refine WpL.skip rfl rfl ?_
    | refine seqQ_normal ?_
    | refine seqQ_ret ?_
    | refine seqQ_exit ?_
    | refine blkQ_normal ?_
    | refine blkQ_ret ?_
    | refine blkQ_out rfl ?_
    | refine blkQ_by rfl ?_)
  refine WpC.cond rfl (fun hb => by cases hb) (fun _ => ?_)
  obtain ⟨s, cap, rfl, hs⟩ : ∃ a cap, l = .slice a zs.length cap ∧ (∀ i, i < zs.length → ∃ s, a = some (s, 0) ∧ s < c ∧ MapI.get h s = some (.cells false false (zs.map (.int .u8)))) := by
    rcases hl.is with ⟨rfl, hz⟩ | ⟨s, cap, rfl, h1, _, _, h2⟩
    · exact ⟨none, .known 0, by rw [hz], fun i hi => by omega⟩
    · exact ⟨_, .known cap, rfl, fun i hi => ⟨s, rfl, h1, h2 (by omega)⟩⟩
  repeat' (first
    | refine WpC.seq ?_
    | refine WpC.region ?_
    | refine WpC.drawn ?_
    | refine WpC.skip ?_
    | refine WpC.block ?_
    | refine WpC.exit ?_
    | refine WpC.ret ?_
    | refine WpO.nil ?_
    | refine WpO.cons rfl rfl (WpX.pure (fun _ => rfl) ⟨nolog, ?_⟩)
    | refine WpO.skip rfl rfl ?_
    | refine WpL.cons rfl rfl (WpX.pure (fun _ => rfl) ⟨nolog, ?_⟩)
    | refine WpL.skip rfl rfl ?_
    | refine seqQ_normal ?_
    | refine seqQ_ret ?_
    | refine seqQ_exit ?_
    | refine blkQ_normal ?_
    | refine blkQ_ret ?_
    | refine blkQ_out rfl ?_
    | refine blkQ_by rfl ?_
    | refine WpO.cons rfl rfl (op_len rfl rfl rfl ⟨(by simp [InL, Acc.name, rowName] <;> omega), ?_⟩)
    | refine WpL.cons rfl rfl (op_len rfl rfl rfl ⟨(by simp [InL, Acc.name, rowName] <;> omega), ?_⟩))
  refine WpC.cond rfl (fun _ => ?_) (fun hn => ?_)
  ·
    repeat' (first
      | refine WpC.seq ?_
      | refine WpC.region ?_
      | refine WpC.drawn ?_
      | refine WpC.skip ?_
      | refine WpC.block ?_
      | refine WpC.exit ?_
      | refine WpC.ret ?_
      | refine WpO.nil ?_
      | refine WpO.cons rfl rfl (WpX.pure (fun _ => rfl) ⟨nolog, ?_⟩)
      | refine WpO.skip rfl rfl ?_
      | refine WpL.cons rfl rfl (WpX.pure (fun _ => rfl) ⟨nolog, ?_⟩)
      | refine WpL.skip rfl rfl ?_
      | refine seqQ_normal ?_
      | refine seqQ_ret ?_
      | refine seqQ_exit ?_
      | refine blkQ_normal ?_
      | refine blkQ_ret ?_
      | refine blkQ_out rfl ?_
      | refine blkQ_by rfl ?_)
    exact out_ret rfl rfl
  repeat' (first
    | refine WpC.seq ?_
    | refine WpC.region ?_
    | refine WpC.drawn ?_
    | refine WpC.skip ?_
    | refine WpC.block ?_
    | refine WpC.exit ?_
    | refine WpC.ret ?_
    | refine WpO.nil ?_
    | refine WpO.cons rfl rfl (WpX.pure (fun _ => rfl) ⟨nolog, ?_⟩)
    | refine WpO.skip rfl rfl ?_
    | refine WpL.cons rfl rfl (WpX.pure (fun _ => rfl) ⟨nolog, ?_⟩)
    | refine WpL.skip rfl rfl ?_
    | refine seqQ_normal ?_
    | refine seqQ_ret ?_
    | refine seqQ_exit ?_
    | refine blkQ_normal ?_
    | refine blkQ_ret ?_
    | refine blkQ_out rfl ?_
    | refine blkQ_by rfl ?_)
  refine WpO.cons rfl rfl (call_at rfl (snew_ok (by omega) (by omega)) (by simp) (by omega) fun v h2 c2 hc2 hfr2 hq => ?_)
  obtain ⟨rfl, rfl, r⟩ := hq
  repeat' (first
    | refine WpC.seq ?_
    | refine WpC.region ?_
    | refine WpC.drawn ?_
    | refine WpC.skip ?_
    | refine WpC.block ?_
    | refine WpC.exit ?_
    | refine WpC.ret ?_
    | refine WpO.nil ?_
    | refine WpO.cons rfl rfl (WpX.pure (fun _ => rfl) ⟨nolog, ?_⟩)
    | refine WpO.skip rfl rfl ?_
    | refine WpL.cons rfl rfl (WpX.pure (fun _ => rfl) ⟨nolog, ?_⟩)
    | refine WpL.skip rfl rfl ?_
    | refine seqQ_normal ?_
    | refine seqQ_ret ?_
    | refine seqQ_exit ?_
    | refine blkQ_normal ?_
    | refine blkQ_ret ?_
    | refine blkQ_out rfl ?_
    | refine blkQ_by rfl ?_)
  refine WpC.cond rfl (fun hb => by cases hb) (fun _ => ?_)
  repeat' (first
    | refine WpC.seq ?_
    | refine WpC.region ?_
    | refine WpC.drawn ?_
    | refine WpC.skip ?_
    | refine WpC.block ?_
    | refine WpC.exit ?_
    | refine WpC.ret ?_
    | refine WpO.nil ?_
    | refine WpO.cons rfl rfl (WpX.pure (fun _ => rfl) ⟨nolog, ?_⟩)
    | refine WpO.skip rfl rfl ?_
    | refine WpL.cons rfl rfl (WpX.pure (fun _ => rfl) ⟨nolog, ?_⟩)
    | refine WpL.skip rfl rfl ?_
    | refine seqQ_normal ?_
    | refine seqQ_ret ?_
    | refine seqQ_exit ?_
    | refine blkQ_normal ?_
    | refine blkQ_ret ?_
    | refine blkQ_out rfl ?_
    | refine blkQ_by rfl ?_)
  refine WpC.loop ?_
  have start : CI h h2 c p (p + 1) p (.slice none 0 (.known 0)) (.slice none 0 (.known 0)) (.slice none 0 (.known 0)) [] [] [] 0 :=
    ⟨r, rfl, fun q hq => (by cases hq), .nil, Nat.le_refl _, Nat.le_refl _, fun x hx => (by cases hx), fun n hn => by simp [rowName] at hn; omega, fun n hn => (by cases hn), fun n hn => by rw [hfr2 n (by omega) (by simp), hfr1 n hn (by simp)], hc1, by omega⟩
  refine WpLoop.ind (X := Nat × V × V × V × List Int × List Int × List (Int × Int × Int)) (fun x e h' c' => (∃ b0, e = MapI.set (MapI.set (MapI.set (MapI.set b0 0 (.slice s zs.length cap)) 3 (.ptr (some (p, 0)))) 4 x.2.2.2.1) 5 (I x.1)) ∧ x.1 ≤ zs.length ∧ CI h h' c p c' p x.2.1 x.2.2.1 x.2.2.2.1 x.2.2.2.2.1 x.2.2.2.2.2.1 x.2.2.2.2.2.2 x.1)
    (fun x => zs.length - x.1) ?_ (0, .slice none 0 (.known 0), .slice none 0 (.known 0), .slice none 0 (.known 0), [], [], []) _ _ _ ⟨set4 rfl rfl rfl rfl, Nat.zero_le _, start⟩
  rintro ⟨i, vb, vr, vc, cs, bs, rows⟩ e h' c' ⟨⟨b0, rfl⟩, hi, B⟩
  simp only at hi B
  have hlen : (zs.length : Int) ≤ 100 := by simpa using hn
  have hlb := B.lb
  have hlc := B.lc
  have hle2 := B.le2
  have hpl0 := pos_le cs
  repeat' (first
    | refine WpC.seq ?_
    | refine WpC.region ?_
    | refine WpC.drawn ?_
    | refine WpC.skip ?_
    | refine WpC.block ?_
    | refine WpC.exit ?_
    | refine WpC.ret ?_
    | refine WpO.nil ?_
    | refine WpO.cons rfl rfl (WpX.pure (fun _ => rfl) ⟨nolog, ?_⟩)
    | refine WpO.skip rfl rfl ?_
    | refine WpL.cons rfl rfl (WpX.pure (fun _ => rfl) ⟨nolog, ?_⟩)
    | refine WpL.skip rfl rfl ?_
    | refine seqQ_normal ?_
    | refine seqQ_ret ?_
    | refine seqQ_exit ?_
    | refine blkQ_normal ?_
    | refine blkQ_ret ?_
    | refine blkQ_out rfl ?_
    | refine blkQ_by rfl ?_
    | refine WpO.cons rfl rfl (op_len rfl rfl rfl ⟨(by simp [InL, Acc.name, rowName] <;> omega), ?_⟩)
    | refine WpL.cons rfl rfl (op_len rfl rfl rfl ⟨(by simp [InL, Acc.name, rowName] <;> omega), ?_⟩))
  refine WpC.cond rfl (fun hlt => ?_) (fun hge => ?_)
  case refine_2 =>
    repeat' (first
      | refine WpC.seq ?_
      | refine WpC.region ?_
      | refine WpC.drawn ?_
      | refine WpC.skip ?_
      | refine WpC.block ?_
      | refine WpC.exit ?_
      | refine WpC.ret ?_
      | refine WpO.nil ?_
      | refine WpO.cons rfl rfl (WpX.pure (fun _ => rfl) ⟨nolog, ?_⟩)
      | refine WpO.skip rfl rfl ?_
      | refine WpL.cons rfl rfl (WpX.pure (fun _ => rfl) ⟨nolog, ?_⟩)
      | refine WpL.skip rfl rfl ?_
      | refine seqQ_normal ?_
      | refine seqQ_ret ?_
      | refine seqQ_exit ?_
      | refine blkQ_normal ?_
      | refine blkQ_ret ?_
      | refine blkQ_out rfl ?_
      | refine blkQ_by rfl ?_)
    exact out_ret rfl rfl
  have hlt : i < zs.length := by simpa using hlt
  obtain ⟨sn, rfl, hsn, hget⟩ := hs i hlt
  have hg : MapI.get h' sn = some (.cells false false (zs.map (.int .u8))) := by rw [B.old sn hsn]; exact hget
  obtain ⟨z, hz⟩ : ∃ z, zs[i]? = some z := ⟨_, List.getElem?_eq_getElem hlt⟩
  have hz : nth (zs.map (V.int .u8)) (0 + ((i : Nat) : Int).toNat * 1) = some (.int .u8 z) := by
    have : 0 + ((i : Nat) : Int).toNat * 1 = i := by omega
    rw [this]; exact nth_map hz
  have hw1 : IntKind.i64.wrap ((i : Int) + 1) = ((i + 1 : Nat) : Int) := by rw [Go.IntWalk.i64_in _ (by omega)]; omega
  repeat' (first
    | refine WpC.seqI (a := Code.seq _ (Code.block 2 _)) (fun e h4 c4 => ∃ vb' vr' vc' cs' bs' rows', (∃ b0, e = MapI.set (MapI.set (MapI.set (MapI.set b0 0 (.slice (some (sn, 0)) zs.length cap)) 3 (.ptr (some (p, 0)))) 4 vc') 5 (I i)) ∧ CI h h4 c p c4 p vb' vr' vc' cs' bs' rows' (i + 1)) ?_ ?_
    | refine WpC.seq ?_
    | refine WpC.region ?_
    | refine WpC.drawn ?_
    | refine WpC.skip ?_
    | refine WpC.block ?_
    | refine WpC.exit ?_
    | refine WpC.ret ?_
    | refine WpO.nil ?_
    | refine WpO.cons rfl rfl (WpX.pure (fun _ => rfl) ⟨nolog, ?_⟩)
    | refine WpO.skip rfl rfl ?_
    | refine WpL.cons rfl rfl (WpX.pure (fun _ => rfl) ⟨nolog, ?_⟩)
    | refine WpL.skip rfl rfl ?_
    | refine seqQ_normal ?_
    | refine seqQ_ret ?_
    | refine seqQ_exit ?_
    | refine blkQ_normal ?_
    | refine blkQ_ret ?_
    | refine blkQ_out rfl ?_
    | refine blkQ_by rfl ?_
    | refine WpO.cons rfl rfl (op_indexAddr (k := 1) rfl rfl rfl rfl ⟨by omega, by omega⟩ ⟨(by simp [InL, Acc.name, rowName] <;> omega), ?_⟩)
    | refine WpL.cons rfl rfl (op_indexAddr (k := 1) rfl rfl rfl rfl ⟨by omega, by omega⟩ ⟨(by simp [InL, Acc.name, rowName] <;> omega), ?_⟩)
    | refine WpO.cons rfl rfl (op_load rfl rfl rfl hg hz ⟨(by simp [InL, Acc.name, rowName] <;> omega), ?_⟩)
    | refine WpL.cons rfl rfl (op_load rfl rfl rfl hg hz ⟨(by simp [InL, Acc.name, rowName] <;> omega), ?_⟩))
  · generalize (IntKind.i64.wrap (z.fdiv (2 ^ min (2 : Int).toNat IntKind.u8.bits))).tmod 9 = H
    refine WpC.cond rfl (fun hz0 => ?_) (fun hz0 => ?_)
    ·
      obtain ⟨sc, capc, hvc, hsc⟩ := B.cn.shape
      subst hvc
      repeat' (first
        | refine WpC.seqI (a := Code.seq _ (Code.block 3 _)) (fun e h4 c4 => ∃ k : Nat, (∃ b0, e = MapI.set (MapI.set (MapI.set (MapI.set (MapI.set b0 0 (.slice (some (sn, 0)) zs.length cap)) 3 (.ptr (some (p, 0)))) 4 (.slice sc cs.length capc)) 5 (I i)) 7 (I ((k + 1 : Nat) : Int))) ∧ k ≤ cs.length ∧ (∀ (j : Nat) (x : Int), j < k → cs[j]? = some x → x > 0) ∧ (∀ x, cs[k]? = some x → ¬ x > 0) ∧ h4 = h' ∧ c4 = c') ?_ ?_
        | refine WpC.seqI (a := Code.block 3 _) (fun e h4 c4 => ∃ k : Nat, (∃ b0, e = MapI.set (MapI.set (MapI.set (MapI.set (MapI.set b0 0 (.slice (some (sn, 0)) zs.length cap)) 3 (.ptr (some (p, 0)))) 4 (.slice sc cs.length capc)) 5 (I i)) 7 (I ((k + 1 : Nat) : Int))) ∧ k ≤ cs.length ∧ (∀ (j : Nat) (x : Int), j < k → cs[j]? = some x → x > 0) ∧ (∀ x, cs[k]? = some x → ¬ x > 0) ∧ h4 = h' ∧ c4 = c') ?_ ?_
        | refine WpC.seq ?_
        | refine WpC.region ?_
        | refine WpC.drawn ?_
        | refine WpC.skip ?_
        | refine WpC.block ?_
        | refine WpC.exit ?_
        | refine WpC.ret ?_
        | refine WpO.nil ?_
        | refine WpO.cons rfl rfl (WpX.pure (fun _ => rfl) ⟨nolog, ?_⟩)
        | refine WpO.skip rfl rfl ?_
        | refine WpL.cons rfl rfl (WpX.pure (fun _ => rfl) ⟨nolog, ?_⟩)
        | refine WpL.skip rfl rfl ?_
        | refine seqQ_normal ?_
        | refine seqQ_ret ?_
        | refine seqQ_exit ?_
        | refine blkQ_normal ?_
        | refine blkQ_ret ?_
        | refine blkQ_out rfl ?_
        | refine blkQ_by rfl ?_)
      · refine WpC.loop ?_
        refine WpLoop.ind (X := Nat) (fun k e h4 c4 => (∃ b0, e = MapI.set (MapI.set (MapI.set (MapI.set (MapI.set b0 0 (.slice (some (sn, 0)) zs.length cap)) 3 (.ptr (some (p, 0)))) 4 (.slice sc cs.length capc)) 5 (I i)) 7 (I ((k + 1 : Nat) : Int))) ∧ k ≤ cs.length ∧ (∀ (j : Nat) (x : Int), j < k → cs[j]? = some x → x > 0) ∧ h4 = h' ∧ c4 = c')
          (fun k => cs.length - k) ?_ 0 _ _ _ ⟨set5 rfl rfl rfl rfl rfl, Nat.zero_le _, fun j x hj => by omega, rfl, rfl⟩
        rintro k e h4 c4 ⟨⟨b4, rfl⟩, hk, hb, e1, e2⟩
        subst e1; subst e2
        by_cases hk2 : k < cs.length
        · have e1 : decide (((k + 1 : Nat) : Int) ≤ (cs.length : Int)) = true := by simp; omega
          obtain ⟨rfl, scn, clc, jkc, rfl, hsc1, hgc, hjc⟩ := hsc k hk2
          obtain ⟨x, hx⟩ : ∃ x, cs[k]? = some x := ⟨_, List.getElem?_eq_getElem hk2⟩
          have hwk : IntKind.i64.wrap (((k + 1 : Nat) : Int) - 1) = (k : Int) := by rw [Go.IntWalk.i64_in _ (by omega)]; omega
          have hwk2 : IntKind.i64.wrap (((k + 1 : Nat) : Int) + 1) = ((k + 1 + 1 : Nat) : Int) := by rw [Go.IntWalk.i64_in _ (by omega)]; omega
          have hnx : nth (flat intV cs ++ jkc) (0 + (IntKind.i64.wrap (((k + 1 : Nat) : Int) - 1)).toNat * 1) = some (I x) := by
            rw [hwk, show 0 + ((k : Nat) : Int).toNat * 1 = k * 1 + 0 from by simp]
            exact (nth_flat int_len hx (by omega) jkc).trans rfl
          have hfc := B.foot scn (by simp [rowName])
          repeat' (first
            | refine WpC.seq ?_
            | refine WpC.region ?_
            | refine WpC.drawn ?_
            | refine WpC.skip ?_
            | refine WpC.block ?_
            | refine WpC.exit ?_
            | refine WpC.ret ?_
            | refine WpO.nil ?_
            | refine WpO.cons rfl rfl (WpX.pure (fun _ => rfl) ⟨nolog, ?_⟩)
            | refine WpO.skip rfl rfl ?_
            | refine WpL.cons rfl rfl (WpX.pure (fun _ => rfl) ⟨nolog, ?_⟩)
            | refine WpL.skip rfl rfl ?_
            | refine seqQ_normal ?_
            | refine seqQ_ret ?_
            | refine seqQ_exit ?_
            | refine blkQ_normal ?_
            | refine blkQ_ret ?_
            | refine blkQ_out rfl ?_
            | refine blkQ_by rfl ?_
            | refine WpO.cons rfl rfl (op_len rfl rfl rfl ⟨(by simp [InL, Acc.name, rowName] <;> omega), ?_⟩)
            | refine WpL.cons rfl rfl (op_len rfl rfl rfl ⟨(by simp [InL, Acc.name, rowName] <;> omega), ?_⟩))
          simp only [e1]
          repeat' (first
            | refine WpC.seq ?_
            | refine WpC.region ?_
            | refine WpC.drawn ?_
            | refine WpC.skip ?_
            | refine WpC.block ?_
            | refine WpC.exit ?_
            | refine WpC.ret ?_
            | refine WpO.nil ?_
            | refine WpO.cons rfl rfl (WpX.pure (fun _ => rfl) ⟨nolog, ?_⟩)
            | refine WpO.skip rfl rfl ?_
            | refine WpL.cons rfl rfl (WpX.pure (fun _ => rfl) ⟨nolog, ?_⟩)
            | refine WpL.skip rfl rfl ?_
            | refine seqQ_normal ?_
            | refine seqQ_ret ?_
            | refine seqQ_exit ?_
            | refine blkQ_normal ?_
            | refine blkQ_ret ?_
            | refine blkQ_out rfl ?_
            | refine blkQ_by rfl ?_
            | refine WpO.cons rfl rfl (op_indexAddr (k := 1) rfl rfl rfl rfl ⟨by omega, by omega⟩ ⟨(by simp [InL, Acc.name, rowName] <;> omega), ?_⟩)
            | refine WpL.cons rfl rfl (op_indexAddr (k := 1) rfl rfl rfl rfl ⟨by omega, by omega⟩ ⟨(by simp [InL, Acc.name, rowName] <;> omega), ?_⟩)
            | refine WpO.cons rfl rfl (op_load rfl rfl rfl hgc hnx ⟨(by simp [InL, Acc.name, rowName] <;> omega), ?_⟩)
            | refine WpL.cons rfl rfl (op_load rfl rfl rfl hgc hnx ⟨(by simp [InL, Acc.name, rowName] <;> omega), ?_⟩))
          refine WpC.cond rfl (fun hpx => ?_) (fun hpx => ?_)
          · have hpx : x > 0 := by simpa using hpx
            repeat' (first
              | refine WpC.seq ?_
              | refine WpC.region ?_
              | refine WpC.drawn ?_
              | refine WpC.skip ?_
              | refine WpC.block ?_
              | refine WpC.exit ?_
              | refine WpC.ret ?_
              | refine WpO.nil ?_
              | refine WpO.cons rfl rfl (WpX.pure (fun _ => rfl) ⟨nolog, ?_⟩)
              | refine WpO.skip rfl rfl ?_
              | refine WpL.cons rfl rfl (WpX.pure (fun _ => rfl) ⟨nolog, ?_⟩)
              | refine WpL.skip rfl rfl ?_
              | refine seqQ_normal ?_
              | refine seqQ_ret ?_
              | refine seqQ_exit ?_
              | refine blkQ_normal ?_
              | refine blkQ_ret ?_
              | refine blkQ_out rfl ?_
              | refine blkQ_by rfl ?_)
            refine ⟨k + 1, by omega, ?_, by omega, fun j y hj hy => ?_, rfl, rfl⟩
            · rw [hwk2]
              exact set5 rfl rfl rfl rfl rfl
            · by_cases e : j = k
              · subst e; rw [hx] at hy; cases hy; exact hpx
              · exact hb j y (by omega) hy
          · have hpx : ¬ x > 0 := by simpa using hpx
            repeat' (first
              | refine WpC.seq ?_
              | refine WpC.region ?_
              | refine WpC.drawn ?_
              | refine WpC.skip ?_
              | refine WpC.block ?_
              | refine WpC.exit ?_
              | refine WpC.ret ?_
              | refine WpO.nil ?_
              | refine WpO.cons rfl rfl (WpX.pure (fun _ => rfl) ⟨nolog, ?_⟩)
              | refine WpO.skip rfl rfl ?_
              | refine WpL.cons rfl rfl (WpX.pure (fun _ => rfl) ⟨nolog, ?_⟩)
              | refine WpL.skip rfl rfl ?_
              | refine seqQ_normal ?_
              | refine seqQ_ret ?_
              | refine seqQ_exit ?_
              | refine blkQ_normal ?_
              | refine blkQ_ret ?_
              | refine blkQ_out rfl ?_
              | refine blkQ_by rfl ?_)
            exact ⟨k, set5 rfl rfl rfl rfl rfl, hk, hb, fun y hy => by rw [hx] at hy; cases hy; exact hpx, rfl, rfl⟩
        · have e1 : decide (((k + 1 : Nat) : Int) ≤ (cs.length : Int)) = false := by simp; omega
          repeat' (first
            | refine WpC.seq ?_
            | refine WpC.region ?_
            | refine WpC.drawn ?_
            | refine WpC.skip ?_
            | refine WpC.block ?_
            | refine WpC.exit ?_
            | refine WpC.ret ?_
            | refine WpO.nil ?_
            | refine WpO.cons rfl rfl (WpX.pure (fun _ => rfl) ⟨nolog, ?_⟩)
            | refine WpO.skip rfl rfl ?_
            | refine WpL.cons rfl rfl (WpX.pure (fun _ => rfl) ⟨nolog, ?_⟩)
            | refine WpL.skip rfl rfl ?_
            | refine seqQ_normal ?_
            | refine seqQ_ret ?_
            | refine seqQ_exit ?_
            | refine blkQ_normal ?_
            | refine blkQ_ret ?_
            | refine blkQ_out rfl ?_
            | refine blkQ_by rfl ?_
            | refine WpO.cons rfl rfl (op_len rfl rfl rfl ⟨(by simp [InL, Acc.name, rowName] <;> omega), ?_⟩)
            | refine WpL.cons rfl rfl (op_len rfl rfl rfl ⟨(by simp [InL, Acc.name, rowName] <;> omega), ?_⟩))
          simp only [e1]
          repeat' (first
            | refine WpC.seq ?_
            | refine WpC.region ?_
            | refine WpC.drawn ?_
            | refine WpC.skip ?_
            | refine WpC.block ?_
            | refine WpC.exit ?_
            | refine WpC.ret ?_
            | refine WpO.nil ?_
            | refine WpO.cons rfl rfl (WpX.pure (fun _ => rfl) ⟨nolog, ?_⟩)
            | refine WpO.skip rfl rfl ?_
            | refine WpL.cons rfl rfl (WpX.pure (fun _ => rfl) ⟨nolog, ?_⟩)
            | refine WpL.skip rfl rfl ?_
            | refine seqQ_normal ?_
            | refine seqQ_ret ?_
            | refine seqQ_exit ?_
            | refine blkQ_normal ?_
            | refine blkQ_ret ?_
            | refine blkQ_out rfl ?_
            | refine blkQ_by rfl ?_)
          refine WpC.cond rfl (fun hb => by cases hb) (fun _ => ?_)
          repeat' (first
            | refine WpC.seq ?_
            | refine WpC.region ?_
            | refine WpC.drawn ?_
            | refine WpC.skip ?_
            | refine WpC.block ?_
            | refine WpC.exit ?_
            | refine WpC.ret ?_
            | refine WpO.nil ?_
            | refine WpO.cons rfl rfl (WpX.pure (fun _ => rfl) ⟨nolog, ?_⟩)
            | refine WpO.skip rfl rfl ?_
            | refine WpL.cons rfl rfl (WpX.pure (fun _ => rfl) ⟨nolog, ?_⟩)
            | refine WpL.skip rfl rfl ?_
            | refine seqQ_normal ?_
            | refine seqQ_ret ?_
            | refine seqQ_exit ?_
            | refine blkQ_normal ?_
            | refine blkQ_ret ?_
            | refine blkQ_out rfl ?_
            | refine blkQ_by rfl ?_)
          exact ⟨k, set5 rfl rfl rfl rfl rfl, hk, hb, fun y hy => by have := (List.getElem?_eq_some_iff.1 hy).1; omega, rfl, rfl⟩
      rintro e4 h4 c4 ⟨k, ⟨b4, rfl⟩, hk, hb, hstop, e1, e2⟩
      subst e1; subst e2
      repeat' (first
        | refine WpC.seq ?_
        | refine WpC.region ?_
        | refine WpC.drawn ?_
        | refine WpC.skip ?_
        | refine WpC.block ?_
        | refine WpC.exit ?_
        | refine WpC.ret ?_
        | refine WpO.nil ?_
        | refine WpO.cons rfl rfl (WpX.pure (fun _ => rfl) ⟨nolog, ?_⟩)
        | refine WpO.skip rfl rfl ?_
        | refine WpL.cons rfl rfl (WpX.pure (fun _ => rfl) ⟨nolog, ?_⟩)
        | refine WpL.skip rfl rfl ?_
        | refine seqQ_normal ?_
        | refine seqQ_ret ?_
        | refine seqQ_exit ?_
        | refine blkQ_normal ?_
        | refine blkQ_ret ?_
        | refine blkQ_out rfl ?_
        | refine blkQ_by rfl ?_
        | refine WpO.cons rfl rfl (op_indexAddr (k := 1) rfl rfl rfl rfl ⟨by omega, by omega⟩ ⟨(by simp [InL, Acc.name, rowName] <;> omega), ?_⟩)
        | refine WpL.cons rfl rfl (op_indexAddr (k := 1) rfl rfl rfl rfl ⟨by omega, by omega⟩ ⟨(by simp [InL, Acc.name, rowName] <;> omega), ?_⟩)
        | refine WpO.cons rfl rfl (op_load rfl rfl rfl hg hz ⟨(by simp [InL, Acc.name, rowName] <;> omega), ?_⟩)
        | refine WpL.cons rfl rfl (op_load rfl rfl rfl hg hz ⟨(by simp [InL, Acc.name, rowName] <;> omega), ?_⟩)
        | refine WpO.cons rfl rfl (op_buildSlice (k := 1) rfl rfl rfl rfl (by decide) rfl ⟨(by simp [InL, Acc.name, rowName] <;> omega), ?_⟩)
        | refine WpL.cons rfl rfl (op_buildSlice (k := 1) rfl rfl rfl rfl (by decide) rfl ⟨(by simp [InL, Acc.name, rowName] <;> omega), ?_⟩))
      have B1 : CI h (MapI.set h4 c4 (.cells true true [.int .u8 z])) c p (c4 + 1) p vb vr (.slice sc cs.length capc) cs bs rows i := B.keep (by omega) fun n hn => MapI.get_ne _ _ _ _ (by omega)
      have b1 : MapI.get (MapI.set h4 c4 (.cells true true [.int .u8 z])) c4 = some (.cells true true [.int .u8 z]) := MapI.get_same _ _ _
      have hrl := B.rl
      have hnames := B.st.names
      refine WpO.cons rfl rfl (call_at rfl (grant_ok (n := 1) (ys := [z]) B1.st (by omega) (by omega) rfl b1 rfl ⟨by simp, by simp⟩ ⟨by simp, by simp; omega⟩ (by simp; omega) (by simp; omega) (by simp; omega) (by omega) (fun hm => by have := hnames c4 hm; omega))
        (fun n hn => .inr (by
          rcases List.mem_cons.1 hn with e | e
          · omega
          · have := B.foot2 n e
            omega)) (by omega) fun v h5 c5 hc5 hfr5 hq => ?_)
      obtain ⟨i', vb2, vr2, rows2, rfl, r2, hn2, hi', hbefore, hrows⟩ := hq
      simp only at hi' hbefore hrows r2 hn2
      have hik : i' = k := by
        rcases Nat.lt_trichotomy i' k with h | h | h
        · exfalso
          rcases hrows with ⟨q, hq1, hq2, _⟩ | ⟨hq1, _⟩
          · have hc1 : cs[i']? = some q.2.2 := by rw [← B.rc, List.getElem?_map, hq1]; rfl
            have := hb i' _ h hc1
            omega
          · omega
        · exact h
        · exfalso
          obtain ⟨q, hq1⟩ : ∃ q, rows[k]? = some q := ⟨_, List.getElem?_eq_getElem (by omega)⟩
          have hc1 : cs[k]? = some q.2.2 := by rw [← B.rc, List.getElem?_map, hq1]; rfl
          have := hstop _ hc1
          have := (B.rg _ (List.mem_of_getElem? hc1)).1
          exact hbefore k q h hq1 (by omega)
      subst hik
      have hcn5 : ListOf 1 intV h5 c5 (.slice sc cs.length capc) cs := B1.cn.keep hc5 fun n hn hm => hfr5 n hn (fun hbad => by
        rcases List.mem_cons.1 hbad with e | e
        · have := B.cn.lt n hm; omega
        · exact B.dis n hm e)
      have hold5 : ∀ n, n < c → MapI.get h5 n = MapI.get h n := fun n hn => by
        rw [hfr5 n (by omega) (fun hbad => by
          rcases List.mem_cons.1 hbad with e | e
          · omega
          · have := B.foot2 n e; omega)]
        exact B1.old n hn
      have hn2' : ∀ a ∈ rowName vb2 ++ rowName vr2, a ∈ rowName vb ++ rowName vr ∨ c4 ≤ a := fun a ha => (hn2 a ha).imp id fun h => by omega
      have hwi : IntKind.i64.wrap (((i' + 1 : Nat) : Int) - 1) = (i' : Int) := by rw [Go.IntWalk.i64_in _ (by omega)]; omega
      repeat' (first
        | refine WpC.seq ?_
        | refine WpC.region ?_
        | refine WpC.drawn ?_
        | refine WpC.skip ?_
        | refine WpC.block ?_
        | refine WpC.exit ?_
        | refine WpC.ret ?_
        | refine WpO.nil ?_
        | refine WpO.cons rfl rfl (WpX.pure (fun _ => rfl) ⟨nolog, ?_⟩)
        | refine WpO.skip rfl rfl ?_
        | refine WpL.cons rfl rfl (WpX.pure (fun _ => rfl) ⟨nolog, ?_⟩)
        | refine WpL.skip rfl rfl ?_
        | refine seqQ_normal ?_
        | refine seqQ_ret ?_
        | refine seqQ_exit ?_
        | refine blkQ_normal ?_
        | refine blkQ_ret ?_
        | refine blkQ_out rfl ?_
        | refine blkQ_by rfl ?_)
      simp only [bne_self_eq_false]
      repeat' (first
        | refine WpC.seq ?_
        | refine WpC.region ?_
        | refine WpC.drawn ?_
        | refine WpC.skip ?_
        | refine WpC.block ?_
        | refine WpC.exit ?_
        | refine WpC.ret ?_
        | refine WpO.nil ?_
        | refine WpO.cons rfl rfl (WpX.pure (fun _ => rfl) ⟨nolog, ?_⟩)
        | refine WpO.skip rfl rfl ?_
        | refine WpL.cons rfl rfl (WpX.pure (fun _ => rfl) ⟨nolog, ?_⟩)
        | refine WpL.skip rfl rfl ?_
        | refine seqQ_normal ?_
        | refine seqQ_ret ?_
        | refine seqQ_exit ?_
        | refine blkQ_normal ?_
        | refine blkQ_ret ?_
        | refine blkQ_out rfl ?_
        | refine blkQ_by rfl ?_)
      refine WpC.cond rfl (fun hb => by cases hb) (fun _ => ?_)
      repeat' (first
        | refine WpC.seq ?_
        | refine WpC.region ?_
        | refine WpC.drawn ?_
        | refine WpC.skip ?_
        | refine WpC.block ?_
        | refine WpC.exit ?_
        | refine WpC.ret ?_
        | refine WpO.nil ?_
        | refine WpO.cons rfl rfl (WpX.pure (fun _ => rfl) ⟨nolog, ?_⟩)
        | refine WpO.skip rfl rfl ?_
        | refine WpL.cons rfl rfl (WpX.pure (fun _ => rfl) ⟨nolog, ?_⟩)
        | refine WpL.skip rfl rfl ?_
        | refine seqQ_normal ?_
        | refine seqQ_ret ?_
        | refine seqQ_exit ?_
        | refine blkQ_normal ?_
        | refine blkQ_ret ?_
        | refine blkQ_out rfl ?_
        | refine blkQ_by rfl ?_
        | refine WpO.cons rfl rfl (op_len rfl rfl rfl ⟨(by simp [InL, Acc.name, rowName] <;> omega), ?_⟩)
        | refine WpL.cons rfl rfl (op_len rfl rfl rfl ⟨(by simp [InL, Acc.name, rowName] <;> omega), ?_⟩))
      by_cases hil : i' < cs.length
      · have hr2 : rows2 = rows.set i' ((bs.length : Int), 1, 1) ∧ cs[i']? = some 0 := by
          rcases hrows with ⟨q, hq1, hq2, hq3⟩ | ⟨hq1, _⟩
          · exact ⟨hq3, by rw [← B.rc, List.getElem?_map, hq1]; simp [hq2]⟩
          · omega
        obtain ⟨rfl, hci⟩ := hr2
        have hposs := pos_set (y := 1) hci
        refine WpC.cond rfl (fun hb => by simp at hb; omega) (fun _ => ?_)
        obtain ⟨s5, cap5, hv5, hsc5⟩ := hcn5.shape
        obtain ⟨rfl, scn, clc, jkc, rfl, hsc1, hgc, hjc⟩ := hsc5 i' hil
        cases hv5
        have hfl : 0 + (IntKind.i64.wrap (((i' + 1 : Nat) : Int) - 1)).toNat * 1 + 1 ≤ (flat intV cs ++ jkc).length := by
          rw [hwi, List.length_append, flat_length int_len]; simp; omega
        have hfc := B.foot scn (by simp [rowName])
        repeat' (first
          | refine WpC.seq ?_
          | refine WpC.region ?_
          | refine WpC.drawn ?_
          | refine WpC.skip ?_
          | refine WpC.block ?_
          | refine WpC.exit ?_
          | refine WpC.ret ?_
          | refine WpO.nil ?_
          | refine WpO.cons rfl rfl (WpX.pure (fun _ => rfl) ⟨nolog, ?_⟩)
          | refine WpO.skip rfl rfl ?_
          | refine WpL.cons rfl rfl (WpX.pure (fun _ => rfl) ⟨nolog, ?_⟩)
          | refine WpL.skip rfl rfl ?_
          | refine seqQ_normal ?_
          | refine seqQ_ret ?_
          | refine seqQ_exit ?_
          | refine blkQ_normal ?_
          | refine blkQ_ret ?_
          | refine blkQ_out rfl ?_
          | refine blkQ_by rfl ?_
          | refine WpO.cons rfl rfl (op_indexAddr (k := 1) rfl rfl rfl rfl ⟨by omega, by omega⟩ ⟨(by simp [InL, Acc.name, rowName] <;> omega), ?_⟩)
          | refine WpL.cons rfl rfl (op_indexAddr (k := 1) rfl rfl rfl rfl ⟨by omega, by omega⟩ ⟨(by simp [InL, Acc.name, rowName] <;> omega), ?_⟩)
          | refine WpO.cons rfl rfl (op_store (k := 1) rfl rfl rfl rfl hgc hfl rfl ⟨(by simp [InL, Acc.name, rowName] <;> omega), ?_⟩)
          | refine WpL.cons rfl rfl (op_store (k := 1) rfl rfl rfl rfl hgc hfl rfl ⟨(by simp [InL, Acc.name, rowName] <;> omega), ?_⟩))
        have es : setAll (flat intV cs ++ jkc) (0 + (IntKind.i64.wrap (((i' + 1 : Nat) : Int) - 1)).toNat * 1) [I 1] = flat intV (cs.set i' 1) ++ jkc := by
          rw [hwi, show 0 + ((i' : Nat) : Int).toNat * 1 = i' from by simp]; exact set_int hil
        refine ⟨vb2, vr2, .slice (some (scn, 0)) cs.length (.upTo 1), cs.set i' 1, bs ++ [z], _, set4 rfl rfl rfl rfl, B.fin r2 hn2' (by omega) hold5 (fun n hn _ hm => MapI.get_ne _ _ _ _ (fun e => hm (by simp [rowName, e]))) (Nat.le_refl _) ?_ (fun a ha => .inl ha) (by rw [map_set, B.rc]) ?_ (by simp; omega) (by simp; omega) ?_ ?_⟩
        · exact .inr ⟨scn, clc, jkc, by simp, hsc1, (MapI.get_same (S := HH) (α := AObj) _ _ _).trans (congrArg (fun x => some (AObj.cells true clc x)) es), hjc⟩
        · intro q hq
          rcases List.mem_or_eq_of_mem_set hq with h | h
          · exact B.one q h
          · rw [h]
        · intro x hx
          rcases List.mem_or_eq_of_mem_set hx with h | h
          · have := B.rg x h; omega
          · omega
        · show ((pos cs : Nat) : Int) + 1 = _
          simp at hposs
          omega
      · have hie : i' = cs.length := by omega
        have hr2 : rows2 = rows ++ [((bs.length : Int), 1, 1)] := by
          rcases hrows with ⟨q, hq1, _, _⟩ | ⟨_, hq2⟩
          · have := (List.getElem?_eq_some_iff.1 hq1).1; omega
          · exact hq2
        subst hr2
        refine WpC.cond rfl (fun _ => ?_) (fun hb => by simp at hb; omega)
        repeat' (first
          | refine WpC.seq ?_
          | refine WpC.region ?_
          | refine WpC.drawn ?_
          | refine WpC.skip ?_
          | refine WpC.block ?_
          | refine WpC.exit ?_
          | refine WpC.ret ?_
          | refine WpO.nil ?_
          | refine WpO.cons rfl rfl (WpX.pure (fun _ => rfl) ⟨nolog, ?_⟩)
          | refine WpO.skip rfl rfl ?_
          | refine WpL.cons rfl rfl (WpX.pure (fun _ => rfl) ⟨nolog, ?_⟩)
          | refine WpL.skip rfl rfl ?_
          | refine seqQ_normal ?_
          | refine seqQ_ret ?_
          | refine seqQ_exit ?_
          | refine blkQ_normal ?_
          | refine blkQ_ret ?_
          | refine blkQ_out rfl ?_
          | refine blkQ_by rfl ?_
          | refine WpO.cons rfl rfl (op_buildSlice (k := 1) rfl rfl rfl rfl (by decide) rfl ⟨(by simp [InL, Acc.name, rowName] <;> omega), ?_⟩)
          | refine WpL.cons rfl rfl (op_buildSlice (k := 1) rfl rfl rfl rfl (by decide) rfl ⟨(by simp [InL, Acc.name, rowName] <;> omega), ?_⟩))
        have hb5 : MapI.get (MapI.set h5 c5 (.cells true true [I 0])) c5 = some (.cells true true [I 0]) := MapI.get_same _ _ _
        have hcn5' : ListOf (0 + 1) intV (MapI.set h5 c5 (.cells true true [I 0])) (c5 + 1) (.slice sc cs.length capc) cs := hcn5.keep (by omega) fun n hn _ => MapI.get_ne _ _ _ _ (by omega)
        have hltc := hcn5.lt
        have hfoot := B.foot
        refine WpO.cons rfl rfl (append_at (ys := [(0 : Int)]) rfl rfl elI rfl int_len int_all hcn5' hb5 rfl rfl (by omega) (.inr (by simp [acc_rd]; omega)) (fun a ha => ⟨.inr (by have := hfoot a (by simp [ha]); simp [acc_rd]; omega), .inr (by have := hfoot a (by simp [ha]); simp [acc_wr]; omega)⟩) (.inr (by simp [acc_wr]; omega)) fun v6 h6 c6 hl6 hn6 hc6 hf6 => ?_)
        obtain ⟨s6, cap6, rfl, hsc6⟩ := hl6.shape
        obtain ⟨rfl, scn, clc, jkc, rfl, hsc1, hgc, hjc⟩ := hsc6 i' (by simp; omega)
        have hfl : 0 + (IntKind.i64.wrap (((i' + 1 : Nat) : Int) - 1)).toNat * 1 + 1 ≤ (flat intV (cs ++ [0]) ++ jkc).length := by
          rw [hwi, List.length_append, flat_length int_len]; simp; omega
        have hfc : c ≤ scn := by
          rcases hn6 scn (by simp [rowName]) with h | ⟨h, _⟩
          · have := hfoot scn (by simp [h]); omega
          · omega
        have hil6 : (i' : Int) < ((cs ++ [(0 : Int)]).length : Int) := by simp; omega
        repeat' (first
          | refine WpC.seq ?_
          | refine WpC.region ?_
          | refine WpC.drawn ?_
          | refine WpC.skip ?_
          | refine WpC.block ?_
          | refine WpC.exit ?_
          | refine WpC.ret ?_
          | refine WpO.nil ?_
          | refine WpO.cons rfl rfl (WpX.pure (fun _ => rfl) ⟨nolog, ?_⟩)
          | refine WpO.skip rfl rfl ?_
          | refine WpL.cons rfl rfl (WpX.pure (fun _ => rfl) ⟨nolog, ?_⟩)
          | refine WpL.skip rfl rfl ?_
          | refine seqQ_normal ?_
          | refine seqQ_ret ?_
          | refine seqQ_exit ?_
          | refine blkQ_normal ?_
          | refine blkQ_ret ?_
          | refine blkQ_out rfl ?_
          | refine blkQ_by rfl ?_
          | refine WpO.cons rfl rfl (op_indexAddr (k := 1) rfl rfl rfl rfl ⟨by omega, by omega⟩ ⟨(by simp [InL, Acc.name, rowName] <;> omega), ?_⟩)
          | refine WpL.cons rfl rfl (op_indexAddr (k := 1) rfl rfl rfl rfl ⟨by omega, by omega⟩ ⟨(by simp [InL, Acc.name, rowName] <;> omega), ?_⟩)
          | refine WpO.cons rfl rfl (op_store (k := 1) rfl rfl rfl rfl hgc hfl rfl ⟨(by simp [InL, Acc.name, rowName] <;> omega), ?_⟩)
          | refine WpL.cons rfl rfl (op_store (k := 1) rfl rfl rfl rfl hgc hfl rfl ⟨(by simp [InL, Acc.name, rowName] <;> omega), ?_⟩))
        have es : setAll (flat intV (cs ++ [0]) ++ jkc) (0 + (IntKind.i64.wrap (((i' + 1 : Nat) : Int) - 1)).toNat * 1) [I 1] = flat intV (cs ++ [1]) ++ jkc := by
          rw [hwi, show 0 + ((i' : Nat) : Int).toNat * 1 = i' from by simp, set_int (by simp; omega), hie]; simp
        refine ⟨vb2, vr2, .slice (some (scn, 0)) (cs ++ [(0 : Int)]).length (.upTo 1), cs ++ [1], bs ++ [z], _, set4 rfl rfl rfl rfl, B.fin r2 hn2' (by omega) hold5 (fun n hn hm0 hm => ?_) (by omega) ?_ (fun a ha => ?_) (by rw [List.map_append, B.rc]; rfl) ?_ (by simp; omega) (by simp; omega) ?_ ?_⟩
        · rw [MapI.get_ne _ _ _ _ (fun e => hm (by simp [rowName, e])), hf6 n (by omega) hm0, MapI.get_ne _ _ _ _ (by omega)]
        · exact .inr ⟨scn, clc, jkc, by simp, hsc1, (MapI.get_same (S := HH) (α := AObj) _ _ _).trans (congrArg (fun x => some (AObj.cells true clc x)) es), hjc⟩
        · rcases hn6 a ha with h | ⟨h, _⟩
          · exact .inl h
          · exact .inr (by omega)
        · intro q hq
          rcases List.mem_append.1 hq with h | h
          · exact B.one q h
          · simp at h; rw [h]
        · intro x hx
          rcases List.mem_append.1 hx with h | h
          · have := B.rg x h; omega
          · simp at h; omega
        · show ((pos cs : Nat) : Int) + 1 = _
          rw [pos_app]; simp [pos]
    ·
      repeat' (first
        | refine WpC.seq ?_
        | refine WpC.region ?_
        | refine WpC.drawn ?_
        | refine WpC.skip ?_
        | refine WpC.block ?_
        | refine WpC.exit ?_
        | refine WpC.ret ?_
        | refine WpO.nil ?_
        | refine WpO.cons rfl rfl (WpX.pure (fun _ => rfl) ⟨nolog, ?_⟩)
        | refine WpO.skip rfl rfl ?_
        | refine WpL.cons rfl rfl (WpX.pure (fun _ => rfl) ⟨nolog, ?_⟩)
        | refine WpL.skip rfl rfl ?_
        | refine seqQ_normal ?_
        | refine seqQ_ret ?_
        | refine seqQ_exit ?_
        | refine blkQ_normal ?_
        | refine blkQ_ret ?_
        | refine blkQ_out rfl ?_
        | refine blkQ_by rfl ?_)
      refine WpC.cond rfl (fun hz1 => ?_) (fun hz1 => ?_)
      ·
        repeat' (first
          | refine WpC.seqI (a := Code.region 30 _ _) (fun e h4 c4 => (∃ b0 b, e = MapI.set (MapI.set (MapI.set (MapI.set (MapI.set (MapI.set b0 0 (.slice (some (sn, 0)) zs.length cap)) 3 (.ptr (some (p, 0)))) 4 vc) 5 (I i)) 6 (I H)) 10 (.bool b) ∧ (b = true ↔ ∃ (j : Nat) (x : Int), H = j + 1 ∧ cs[j]? = some x ∧ x > 0)) ∧ h4 = h' ∧ c4 = c') ?_ ?_
          | refine WpC.seq ?_
          | refine WpC.region ?_
          | refine WpC.drawn ?_
          | refine WpC.skip ?_
          | refine WpC.block ?_
          | refine WpC.exit ?_
          | refine WpC.ret ?_
          | refine WpO.nil ?_
          | refine WpO.cons rfl rfl (WpX.pure (fun _ => rfl) ⟨nolog, ?_⟩)
          | refine WpO.skip rfl rfl ?_
          | refine WpL.cons rfl rfl (WpX.pure (fun _ => rfl) ⟨nolog, ?_⟩)
          | refine WpL.skip rfl rfl ?_
          | refine seqQ_normal ?_
          | refine seqQ_ret ?_
          | refine seqQ_exit ?_
          | refine blkQ_normal ?_
          | refine blkQ_ret ?_
          | refine blkQ_out rfl ?_
          | refine blkQ_by rfl ?_)
        · obtain ⟨sc, capc, hvc, hsc⟩ := B.cn.shape
          rw [hvc]
          by_cases g1 : H ≥ 1
          · have e1 : decide (H ≥ 1) = true := by simpa using g1
            by_cases g2 : H ≤ (cs.length : Int)
            · have e2 : decide (H ≤ (cs.length : Int)) = true := by simpa using g2
              obtain ⟨j, hj⟩ : ∃ j : Nat, H = j + 1 := ⟨(H - 1).toNat, by omega⟩
              have hjl : j < cs.length := by omega
              obtain ⟨x, hx⟩ : ∃ x, cs[j]? = some x := ⟨_, List.getElem?_eq_getElem hjl⟩
              obtain ⟨rfl, scn, clc, jkc, rfl, hsc1, hgc, _⟩ := hsc j hjl
              have hwH : IntKind.i64.wrap (H - 1) = (j : Int) := by rw [Go.IntWalk.i64_in _ (by omega)]; omega
              have hnx : nth (flat intV cs ++ jkc) (0 + (IntKind.i64.wrap (H - 1)).toNat * 1) = some (I x) := by
                rw [hwH, show 0 + ((j : Nat) : Int).toNat * 1 = j * 1 + 0 from by simp]
                exact (nth_flat int_len hx (by omega) jkc).trans rfl
              have hfc := B.foot scn (by rw [hvc]; simp [rowName])
              repeat' (first
                | refine WpC.seq ?_
                | refine WpC.region ?_
                | refine WpC.drawn ?_
                | refine WpC.skip ?_
                | refine WpC.block ?_
                | refine WpC.exit ?_
                | refine WpC.ret ?_
                | refine WpO.nil ?_
                | refine WpO.cons rfl rfl (WpX.pure (fun _ => rfl) ⟨nolog, ?_⟩)
                | refine WpO.skip rfl rfl ?_
                | refine WpL.cons rfl rfl (WpX.pure (fun _ => rfl) ⟨nolog, ?_⟩)
                | refine WpL.skip rfl rfl ?_
                | refine seqQ_normal ?_
                | refine seqQ_ret ?_
                | refine seqQ_exit ?_
                | refine blkQ_normal ?_
                | refine blkQ_ret ?_
                | refine blkQ_out rfl ?_
                | refine blkQ_by rfl ?_
                | refine WpO.cons rfl rfl (op_len rfl rfl rfl ⟨(by simp [InL, Acc.name, rowName] <;> omega), ?_⟩)
                | refine WpL.cons rfl rfl (op_len rfl rfl rfl ⟨(by simp [InL, Acc.name, rowName] <;> omega), ?_⟩))
              simp only [e1]
              repeat' (first
                | refine WpC.seq ?_
                | refine WpC.region ?_
                | refine WpC.drawn ?_
                | refine WpC.skip ?_
                | refine WpC.block ?_
                | refine WpC.exit ?_
                | refine WpC.ret ?_
                | refine WpO.nil ?_
                | refine WpO.cons rfl rfl (WpX.pure (fun _ => rfl) ⟨nolog, ?_⟩)
                | refine WpO.skip rfl rfl ?_
                | refine WpL.cons rfl rfl (WpX.pure (fun _ => rfl) ⟨nolog, ?_⟩)
                | refine WpL.skip rfl rfl ?_
                | refine seqQ_normal ?_
                | refine seqQ_ret ?_
                | refine seqQ_exit ?_
                | refine blkQ_normal ?_
                | refine blkQ_ret ?_
                | refine blkQ_out rfl ?_
                | refine blkQ_by rfl ?_
                | refine WpO.cons rfl rfl (op_len rfl rfl rfl ⟨(by simp [InL, Acc.name, rowName] <;> omega), ?_⟩)
                | refine WpL.cons rfl rfl (op_len rfl rfl rfl ⟨(by simp [InL, Acc.name, rowName] <;> omega), ?_⟩))
              simp only [e2]
              repeat' (first
                | refine WpC.seq ?_
                | refine WpC.region ?_
                | refine WpC.drawn ?_
                | refine WpC.skip ?_
                | refine WpC.block ?_
                | refine WpC.exit ?_
                | refine WpC.ret ?_
                | refine WpO.nil ?_
                | refine WpO.cons rfl rfl (WpX.pure (fun _ => rfl) ⟨nolog, ?_⟩)
                | refine WpO.skip rfl rfl ?_
                | refine WpL.cons rfl rfl (WpX.pure (fun _ => rfl) ⟨nolog, ?_⟩)
                | refine WpL.skip rfl rfl ?_
                | refine seqQ_normal ?_
                | refine seqQ_ret ?_
                | refine seqQ_exit ?_
                | refine blkQ_normal ?_
                | refine blkQ_ret ?_
                | refine blkQ_out rfl ?_
                | refine blkQ_by rfl ?_
                | refine WpO.cons rfl rfl (op_indexAddr (k := 1) rfl rfl rfl rfl ⟨by omega, by omega⟩ ⟨(by simp [InL, Acc.name, rowName] <;> omega), ?_⟩)
                | refine WpL.cons rfl rfl (op_indexAddr (k := 1) rfl rfl rfl rfl ⟨by omega, by omega⟩ ⟨(by simp [InL, Acc.name, rowName] <;> omega), ?_⟩)
                | refine WpO.cons rfl rfl (op_load rfl rfl rfl hgc hnx ⟨(by simp [InL, Acc.name, rowName] <;> omega), ?_⟩)
                | refine WpL.cons rfl rfl (op_load rfl rfl rfl hgc hnx ⟨(by simp [InL, Acc.name, rowName] <;> omega), ?_⟩))
              refine ⟨⟨_, decide (x > 0), (set6 rfl rfl rfl rfl rfl rfl).choose_spec, ?_⟩, rfl, rfl⟩
              rw [decide_eq_true_iff]
              exact ⟨fun hp => ⟨j, x, hj, hx, hp⟩, fun ⟨j', x', h1, h2, h3⟩ => by
                have : j' = j := by omega
                subst this
                rw [hx] at h2; cases h2; exact h3⟩
            · have e2 : decide (H ≤ (cs.length : Int)) = false := by simpa using g2
              repeat' (first
                | refine WpC.seq ?_
                | refine WpC.region ?_
                | refine WpC.drawn ?_
                | refine WpC.skip ?_
                | refine WpC.block ?_
                | refine WpC.exit ?_
                | refine WpC.ret ?_
                | refine WpO.nil ?_
                | refine WpO.cons rfl rfl (WpX.pure (fun _ => rfl) ⟨nolog, ?_⟩)
                | refine WpO.skip rfl rfl ?_
                | refine WpL.cons rfl rfl (WpX.pure (fun _ => rfl) ⟨nolog, ?_⟩)
                | refine WpL.skip rfl rfl ?_
                | refine seqQ_normal ?_
                | refine seqQ_ret ?_
                | refine seqQ_exit ?_
                | refine blkQ_normal ?_
                | refine blkQ_ret ?_
                | refine blkQ_out rfl ?_
                | refine blkQ_by rfl ?_
                | refine WpO.cons rfl rfl (op_len rfl rfl rfl ⟨(by simp [InL, Acc.name, rowName] <;> omega), ?_⟩)
                | refine WpL.cons rfl rfl (op_len rfl rfl rfl ⟨(by simp [InL, Acc.name, rowName] <;> omega), ?_⟩))
              simp only [e1]
              repeat' (first
                | refine WpC.seq ?_
                | refine WpC.region ?_
                | refine WpC.drawn ?_
                | refine WpC.skip ?_
                | refine WpC.block ?_
                | refine WpC.exit ?_
                | refine WpC.ret ?_
                | refine WpO.nil ?_
                | refine WpO.cons rfl rfl (WpX.pure (fun _ => rfl) ⟨nolog, ?_⟩)
                | refine WpO.skip rfl rfl ?_
                | refine WpL.cons rfl rfl (WpX.pure (fun _ => rfl) ⟨nolog, ?_⟩)
                | refine WpL.skip rfl rfl ?_
                | refine seqQ_normal ?_
                | refine seqQ_ret ?_
                | refine seqQ_exit ?_
                | refine blkQ_normal ?_
                | refine blkQ_ret ?_
                | refine blkQ_out rfl ?_
                | refine blkQ_by rfl ?_
                | refine WpO.cons rfl rfl (op_len rfl rfl rfl ⟨(by simp [InL, Acc.name, rowName] <;> omega), ?_⟩)
                | refine WpL.cons rfl rfl (op_len rfl rfl rfl ⟨(by simp [InL, Acc.name, rowName] <;> omega), ?_⟩))
              simp only [e2]
              repeat' (first
                | refine WpC.seq ?_
                | refine WpC.region ?_
                | refine WpC.drawn ?_
                | refine WpC.skip ?_
                | refine WpC.block ?_
                | refine WpC.exit ?_
                | refine WpC.ret ?_
                | refine WpO.nil ?_
                | refine WpO.cons rfl rfl (WpX.pure (fun _ => rfl) ⟨nolog, ?_⟩)
                | refine WpO.skip rfl rfl ?_
                | refine WpL.cons rfl rfl (WpX.pure (fun _ => rfl) ⟨nolog, ?_⟩)
                | refine WpL.skip rfl rfl ?_
                | refine seqQ_normal ?_
                | refine seqQ_ret ?_
                | refine seqQ_exit ?_
                | refine blkQ_normal ?_
                | refine blkQ_ret ?_
                | refine blkQ_out rfl ?_
                | refine blkQ_by rfl ?_)
              refine ⟨⟨_, false, (set6 rfl rfl rfl rfl rfl rfl).choose_spec, ?_⟩, rfl, rfl⟩
              exact ⟨fun hp => (by cases hp), fun ⟨j', x', h1, h2, h3⟩ => by have := (List.getElem?_eq_some_iff.1 h2).1; omega⟩
          · have e1 : decide (H ≥ 1) = false := by simpa using g1
            repeat' (first
              | refine WpC.seq ?_
              | refine WpC.region ?_
              | refine WpC.drawn ?_
              | refine WpC.skip ?_
              | refine WpC.block ?_
              | refine WpC.exit ?_
              | refine WpC.ret ?_
              | refine WpO.nil ?_
              | refine WpO.cons rfl rfl (WpX.pure (fun _ => rfl) ⟨nolog, ?_⟩)
              | refine WpO.skip rfl rfl ?_
              | refine WpL.cons rfl rfl (WpX.pure (fun _ => rfl) ⟨nolog, ?_⟩)
              | refine WpL.skip rfl rfl ?_
              | refine seqQ_normal ?_
              | refine seqQ_ret ?_
              | refine seqQ_exit ?_
              | refine blkQ_normal ?_
              | refine blkQ_ret ?_
              | refine blkQ_out rfl ?_
              | refine blkQ_by rfl ?_
              | refine WpO.cons rfl rfl (op_len rfl rfl rfl ⟨(by simp [InL, Acc.name, rowName] <;> omega), ?_⟩)
              | refine WpL.cons rfl rfl (op_len rfl rfl rfl ⟨(by simp [InL, Acc.name, rowName] <;> omega), ?_⟩))
            simp only [e1]
            repeat' (first
              | refine WpC.seq ?_
              | refine WpC.region ?_
              | refine WpC.drawn ?_
              | refine WpC.skip ?_
              | refine WpC.block ?_
              | refine WpC.exit ?_
              | refine WpC.ret ?_
              | refine WpO.nil ?_
              | refine WpO.cons rfl rfl (WpX.pure (fun _ => rfl) ⟨nolog, ?_⟩)
              | refine WpO.skip rfl rfl ?_
              | refine WpL.cons rfl rfl (WpX.pure (fun _ => rfl) ⟨nolog, ?_⟩)
              | refine WpL.skip rfl rfl ?_
              | refine seqQ_normal ?_
              | refine seqQ_ret ?_
              | refine seqQ_exit ?_
              | refine blkQ_normal ?_
              | refine blkQ_ret ?_
              | refine blkQ_out rfl ?_
              | refine blkQ_by rfl ?_)
            refine ⟨⟨_, false, (set6 rfl rfl rfl rfl rfl rfl).choose_spec, ?_⟩, rfl, rfl⟩
            exact ⟨fun hp => (by cases hp), fun ⟨j', x', h1, h2, h3⟩ => by omega⟩
        rintro e4 h4 c4 ⟨⟨b4, bb, rfl, hbb⟩, rfl, rfl⟩
        repeat' (first
          | refine WpC.seq ?_
          | refine WpC.region ?_
          | refine WpC.drawn ?_
          | refine WpC.skip ?_
          | refine WpC.block ?_
          | refine WpC.exit ?_
          | refine WpC.ret ?_
          | refine WpO.nil ?_
          | refine WpO.cons rfl rfl (WpX.pure (fun _ => rfl) ⟨nolog, ?_⟩)
          | refine WpO.skip rfl rfl ?_
          | refine WpL.cons rfl rfl (WpX.pure (fun _ => rfl) ⟨nolog, ?_⟩)
          | refine WpL.skip rfl rfl ?_
          | refine seqQ_normal ?_
          | refine seqQ_ret ?_
          | refine seqQ_exit ?_
          | refine blkQ_normal ?_
          | refine blkQ_ret ?_
          | refine blkQ_out rfl ?_
          | refine blkQ_by rfl ?_)
        refine WpO.cons rfl rfl (call_at rfl (hold_ok B.st (by rw [B.rl]; omega)) (fun n hn => .inr (by have := B.foot n (by rcases List.mem_cons.1 hn with e | e <;> simp [e]); omega)) (by omega) fun v h5 c5 hc5 hfr5 hq => ?_)
        obtain ⟨rfl, hq⟩ := hq
        have hcn5 : ListOf 1 intV h5 c5 vc cs := B.cn.keep (Nat.le_refl _) fun n hn hm => hfr5 n hn (fun hb => B.dis n hm (by rcases List.mem_cons.1 hb with e | e <;> simp [e]))
        have hold5 : ∀ n, n < c → MapI.get h5 n = MapI.get h n := fun n hn => by
          rw [hfr5 n (by omega) (fun hb => by have := B.foot n (by rcases List.mem_cons.1 hb with e | e <;> simp [e]); omega)]; exact B.old n hn
        rcases hq with ⟨j, q, hj, hqj, hq0, rfl, r5⟩ | ⟨hno, rfl, rfl⟩
        · have hcj : cs[j]? = some q.2.2 := by rw [← B.rc, List.getElem?_map, hqj]; rfl
          have hqr := B.rg _ (List.mem_of_getElem? hcj)
          have hqp : q.2.2 > 0 := by omega
          have hbt : bb = true := hbb.2 ⟨j, q.2.2, hj, hcj, hqp⟩
          subst hbt
          have hjl := (List.getElem?_eq_some_iff.1 hcj).1
          obtain ⟨sc, capc, hvc, hsc⟩ := hcn5.shape
          obtain ⟨rfl, scn, clc, jkc, rfl, hsc1, hgc, hjc⟩ := hsc j hjl
          have hwH : IntKind.i64.wrap (H - 1) = (j : Int) := by rw [Go.IntWalk.i64_in _ (by omega)]; omega
          have hnx : nth (flat intV cs ++ jkc) (0 + (IntKind.i64.wrap (H - 1)).toNat * 1) = some (I q.2.2) := by
            rw [hwH, show 0 + ((j : Nat) : Int).toNat * 1 = j * 1 + 0 from by simp]
            exact (nth_flat int_len hcj (by omega) jkc).trans rfl
          have hfl : 0 + (IntKind.i64.wrap (H - 1)).toNat * 1 + 1 ≤ (flat intV cs ++ jkc).length := by
            rw [hwH, List.length_append, flat_length int_len]; simp; omega
          have hfc := B.foot scn (by rw [hvc]; simp [rowName])
          have hw5 : IntKind.i64.wrap (q.2.2 + 1) = q.2.2 + 1 := Go.IntWalk.i64_in _ (by omega)
          subst hvc
          repeat' (first
            | refine WpC.seq ?_
            | refine WpC.region ?_
            | refine WpC.drawn ?_
            | refine WpC.skip ?_
            | refine WpC.block ?_
            | refine WpC.exit ?_
            | refine WpC.ret ?_
            | refine WpO.nil ?_
            | refine WpO.cons rfl rfl (WpX.pure (fun _ => rfl) ⟨nolog, ?_⟩)
            | refine WpO.skip rfl rfl ?_
            | refine WpL.cons rfl rfl (WpX.pure (fun _ => rfl) ⟨nolog, ?_⟩)
            | refine WpL.skip rfl rfl ?_
            | refine seqQ_normal ?_
            | refine seqQ_ret ?_
            | refine seqQ_exit ?_
            | refine blkQ_normal ?_
            | refine blkQ_ret ?_
            | refine blkQ_out rfl ?_
            | refine blkQ_by rfl ?_)
          refine WpC.cond rfl (fun hb => by cases hb) (fun _ => ?_)
          repeat' (first
            | refine WpC.seq ?_
            | refine WpC.region ?_
            | refine WpC.drawn ?_
            | refine WpC.skip ?_
            | refine WpC.block ?_
            | refine WpC.exit ?_
            | refine WpC.ret ?_
            | refine WpO.nil ?_
            | refine WpO.cons rfl rfl (WpX.pure (fun _ => rfl) ⟨nolog, ?_⟩)
            | refine WpO.skip rfl rfl ?_
            | refine WpL.cons rfl rfl (WpX.pure (fun _ => rfl) ⟨nolog, ?_⟩)
            | refine WpL.skip rfl rfl ?_
            | refine seqQ_normal ?_
            | refine seqQ_ret ?_
            | refine seqQ_exit ?_
            | refine blkQ_normal ?_
            | refine blkQ_ret ?_
            | refine blkQ_out rfl ?_
            | refine blkQ_by rfl ?_)
          refine WpC.cond rfl (fun _ => ?_) (fun hb => by cases hb)
          repeat' (first
            | refine WpC.seq ?_
            | refine WpC.region ?_
            | refine WpC.drawn ?_
            | refine WpC.skip ?_
            | refine WpC.block ?_
            | refine WpC.exit ?_
            | refine WpC.ret ?_
            | refine WpO.nil ?_
            | refine WpO.cons rfl rfl (WpX.pure (fun _ => rfl) ⟨nolog, ?_⟩)
            | refine WpO.skip rfl rfl ?_
            | refine WpL.cons rfl rfl (WpX.pure (fun _ => rfl) ⟨nolog, ?_⟩)
            | refine WpL.skip rfl rfl ?_
            | refine seqQ_normal ?_
            | refine seqQ_ret ?_
            | refine seqQ_exit ?_
            | refine blkQ_normal ?_
            | refine blkQ_ret ?_
            | refine blkQ_out rfl ?_
            | refine blkQ_by rfl ?_
            | refine WpO.cons rfl rfl (op_indexAddr (k := 1) rfl rfl rfl rfl ⟨by omega, by omega⟩ ⟨(by simp [InL, Acc.name, rowName] <;> omega), ?_⟩)
            | refine WpL.cons rfl rfl (op_indexAddr (k := 1) rfl rfl rfl rfl ⟨by omega, by omega⟩ ⟨(by simp [InL, Acc.name, rowName] <;> omega), ?_⟩)
            | refine WpO.cons rfl rfl (op_load rfl rfl rfl hgc hnx ⟨(by simp [InL, Acc.name, rowName] <;> omega), ?_⟩)
            | refine WpL.cons rfl rfl (op_load rfl rfl rfl hgc hnx ⟨(by simp [InL, Acc.name, rowName] <;> omega), ?_⟩)
            | refine WpO.cons rfl rfl (op_store (k := 1) rfl rfl rfl rfl hgc hfl rfl ⟨(by simp [InL, Acc.name, rowName] <;> omega), ?_⟩)
            | refine WpL.cons rfl rfl (op_store (k := 1) rfl rfl rfl rfl hgc hfl rfl ⟨(by simp [InL, Acc.name, rowName] <;> omega), ?_⟩))
          have es : setAll (flat intV cs ++ jkc) (0 + (IntKind.i64.wrap (H - 1)).toNat * 1) [I (IntKind.i64.wrap (q.2.2 + 1))] = flat intV (cs.set j (q.2.2 + 1)) ++ jkc := by
            rw [hwH, hw5, show 0 + ((j : Nat) : Int).toNat * 1 = j from by simp]; exact set_int hjl
          have hposs := pos_set (y := q.2.2 + 1) hcj
          have hpl := pos_le cs
          refine ⟨vb, vr, .slice (some (scn, 0)) cs.length (.upTo 1), cs.set j (q.2.2 + 1), bs, rows.set j (q.1, q.2.1, q.2.2 + 1), set4 rfl rfl rfl rfl, B.upd r5 hjl hcj hqj hw5 hold5 ?_ (by show ((pos cs : Nat) : Int) = _; rw [if_pos hqp, if_pos (by omega)] at hposs; omega) (by omega) rfl⟩
          exact .inr ⟨scn, clc, jkc, by simp, hsc1, (MapI.get_same (S := HH) (α := AObj) _ _ _).trans (congrArg (fun x => some (AObj.cells true clc x)) es), hjc⟩
        · have hbf : bb = false := by
            cases hb : bb with
            | false => rfl
            | true =>
              obtain ⟨j, x, h1, h2, h3⟩ := hbb.1 hb
              rw [← B.rc, List.getElem?_map] at h2
              cases hr : rows[j]? with
              | none => rw [hr] at h2; cases h2
              | some q => rw [hr] at h2; have := hno j q h1 hr; simp at h2; omega
          subst hbf
          repeat' (first
            | refine WpC.seq ?_
            | refine WpC.region ?_
            | refine WpC.drawn ?_
            | refine WpC.skip ?_
            | refine WpC.block ?_
            | refine WpC.exit ?_
            | refine WpC.ret ?_
            | refine WpO.nil ?_
            | refine WpO.cons rfl rfl (WpX.pure (fun _ => rfl) ⟨nolog, ?_⟩)
            | refine WpO.skip rfl rfl ?_
            | refine WpL.cons rfl rfl (WpX.pure (fun _ => rfl) ⟨nolog, ?_⟩)
            | refine WpL.skip rfl rfl ?_
            | refine seqQ_normal ?_
            | refine seqQ_ret ?_
            | refine seqQ_exit ?_
            | refine blkQ_normal ?_
            | refine blkQ_ret ?_
            | refine blkQ_out rfl ?_
            | refine blkQ_by rfl ?_)
          refine WpC.cond rfl (fun hb => by cases hb) (fun _ => ?_)
          repeat' (first
            | refine WpC.seq ?_
            | refine WpC.region ?_
            | refine WpC.drawn ?_
            | refine WpC.skip ?_
            | refine WpC.block ?_
            | refine WpC.exit ?_
            | refine WpC.ret ?_
            | refine WpO.nil ?_
            | refine WpO.cons rfl rfl (WpX.pure (fun _ => rfl) ⟨nolog, ?_⟩)
            | refine WpO.skip rfl rfl ?_
            | refine WpL.cons rfl rfl (WpX.pure (fun _ => rfl) ⟨nolog, ?_⟩)
            | refine WpL.skip rfl rfl ?_
            | refine seqQ_normal ?_
            | refine seqQ_ret ?_
            | refine seqQ_exit ?_
            | refine blkQ_normal ?_
            | refine blkQ_ret ?_
            | refine blkQ_out rfl ?_
            | refine blkQ_by rfl ?_)
          refine WpC.cond rfl (fun hb => by cases hb) (fun _ => ?_)
          repeat' (first
            | refine WpC.seq ?_
            | refine WpC.region ?_
            | refine WpC.drawn ?_
            | refine WpC.skip ?_
            | refine WpC.block ?_
            | refine WpC.exit ?_
            | refine WpC.ret ?_
            | refine WpO.nil ?_
            | refine WpO.cons rfl rfl (WpX.pure (fun _ => rfl) ⟨nolog, ?_⟩)
            | refine WpO.skip rfl rfl ?_
            | refine WpL.cons rfl rfl (WpX.pure (fun _ => rfl) ⟨nolog, ?_⟩)
            | refine WpL.skip rfl rfl ?_
            | refine seqQ_normal ?_
            | refine seqQ_ret ?_
            | refine seqQ_exit ?_
            | refine blkQ_normal ?_
            | refine blkQ_ret ?_
            | refine blkQ_out rfl ?_
            | refine blkQ_by rfl ?_)
          exact ⟨vb, vr, vc, cs, bs, rows, set4 rfl rfl rfl rfl, B.more⟩
      ·
        repeat' (first
          | refine WpC.seqI (a := Code.region 14 _ _) (fun e h4 c4 => (∃ b0 b, e = MapI.set (MapI.set (MapI.set (MapI.set (MapI.set (MapI.set b0 0 (.slice (some (sn, 0)) zs.length cap)) 3 (.ptr (some (p, 0)))) 4 vc) 5 (I i)) 6 (I H)) 11 (.bool b) ∧ (b = true ↔ ∃ (j : Nat) (x : Int), H = j + 1 ∧ cs[j]? = some x ∧ x > 0)) ∧ h4 = h' ∧ c4 = c') ?_ ?_
          | refine WpC.seq ?_
          | refine WpC.region ?_
          | refine WpC.drawn ?_
          | refine WpC.skip ?_
          | refine WpC.block ?_
          | refine WpC.exit ?_
          | refine WpC.ret ?_
          | refine WpO.nil ?_
          | refine WpO.cons rfl rfl (WpX.pure (fun _ => rfl) ⟨nolog, ?_⟩)
          | refine WpO.skip rfl rfl ?_
          | refine WpL.cons rfl rfl (WpX.pure (fun _ => rfl) ⟨nolog, ?_⟩)
          | refine WpL.skip rfl rfl ?_
          | refine seqQ_normal ?_
          | refine seqQ_ret ?_
          | refine seqQ_exit ?_
          | refine blkQ_normal ?_
          | refine blkQ_ret ?_
          | refine blkQ_out rfl ?_
          | refine blkQ_by rfl ?_)
        · obtain ⟨sc, capc, hvc, hsc⟩ := B.cn.shape
          rw [hvc]
          by_cases g1 : H ≥ 1
          · have e1 : decide (H ≥ 1) = true := by simpa using g1
            by_cases g2 : H ≤ (cs.length : Int)
            · have e2 : decide (H ≤ (cs.length : Int)) = true := by simpa using g2
              obtain ⟨j, hj⟩ : ∃ j : Nat, H = j + 1 := ⟨(H - 1).toNat, by omega⟩
              have hjl : j < cs.length := by omega
              obtain ⟨x, hx⟩ : ∃ x, cs[j]? = some x := ⟨_, List.getElem?_eq_getElem hjl⟩
              obtain ⟨rfl, scn, clc, jkc, rfl, hsc1, hgc, _⟩ := hsc j hjl
              have hwH : IntKind.i64.wrap (H - 1) = (j : Int) := by rw [Go.IntWalk.i64_in _ (by omega)]; omega
              have hnx : nth (flat intV cs ++ jkc) (0 + (IntKind.i64.wrap (H - 1)).toNat * 1) = some (I x) := by
                rw [hwH, show 0 + ((j : Nat) : Int).toNat * 1 = j * 1 + 0 from by simp]
                exact (nth_flat int_len hx (by omega) jkc).trans rfl
              have hfc := B.foot scn (by rw [hvc]; simp [rowName])
              repeat' (first
                | refine WpC.seq ?_
                | refine WpC.region ?_
                | refine WpC.drawn ?_
                | refine WpC.skip ?_
                | refine WpC.block ?_
                | refine WpC.exit ?_
                | refine WpC.ret ?_
                | refine WpO.nil ?_
                | refine WpO.cons rfl rfl (WpX.pure (fun _ => rfl) ⟨nolog, ?_⟩)
                | refine WpO.skip rfl rfl ?_
                | refine WpL.cons rfl rfl (WpX.pure (fun _ => rfl) ⟨nolog, ?_⟩)
                | refine WpL.skip rfl rfl ?_
                | refine seqQ_normal ?_
                | refine seqQ_ret ?_
                | refine seqQ_exit ?_
                | refine blkQ_normal ?_
                | refine blkQ_ret ?_
                | refine blkQ_out rfl ?_
                | refine blkQ_by rfl ?_
                | refine WpO.cons rfl rfl (op_len rfl rfl rfl ⟨(by simp [InL, Acc.name, rowName] <;> omega), ?_⟩)
                | refine WpL.cons rfl rfl (op_len rfl rfl rfl ⟨(by simp [InL, Acc.name, rowName] <;> omega), ?_⟩))
              simp only [e1]
              repeat' (first
                | refine WpC.seq ?_
                | refine WpC.region ?_
                | refine WpC.drawn ?_
                | refine WpC.skip ?_
                | refine WpC.block ?_
                | refine WpC.exit ?_
                | refine WpC.ret ?_
                | refine WpO.nil ?_
                | refine WpO.cons rfl rfl (WpX.pure (fun _ => rfl) ⟨nolog, ?_⟩)
                | refine WpO.skip rfl rfl ?_
                | refine WpL.cons rfl rfl (WpX.pure (fun _ => rfl) ⟨nolog, ?_⟩)
                | refine WpL.skip rfl rfl ?_
                | refine seqQ_normal ?_
                | refine seqQ_ret ?_
                | refine seqQ_exit ?_
                | refine blkQ_normal ?_
                | refine blkQ_ret ?_
                | refine blkQ_out rfl ?_
                | refine blkQ_by rfl ?_
                | refine WpO.cons rfl rfl (op_len rfl rfl rfl ⟨(by simp [InL, Acc.name, rowName] <;> omega), ?_⟩)
                | refine WpL.cons rfl rfl (op_len rfl rfl rfl ⟨(by simp [InL, Acc.name, rowName] <;> omega), ?_⟩))
              simp only [e2]
              repeat' (first
                | refine WpC.seq ?_
                | refine WpC.region ?_
                | refine WpC.drawn ?_
                | refine WpC.skip ?_
                | refine WpC.block ?_
                | refine WpC.exit ?_
                | refine WpC.ret ?_
                | refine WpO.nil ?_
                | refine WpO.cons rfl rfl (WpX.pure (fun _ => rfl) ⟨nolog, ?_⟩)
                | refine WpO.skip rfl rfl ?_
                | refine WpL.cons rfl rfl (WpX.pure (fun _ => rfl) ⟨nolog, ?_⟩)
                | refine WpL.skip rfl rfl ?_
                | refine seqQ_normal ?_
                | refine seqQ_ret ?_
                | refine seqQ_exit ?_
                | refine blkQ_normal ?_
                | refine blkQ_ret ?_
                | refine blkQ_out rfl ?_
                | refine blkQ_by rfl ?_
                | refine WpO.cons rfl rfl (op_indexAddr (k := 1) rfl rfl rfl rfl ⟨by omega, by omega⟩ ⟨(by simp [InL, Acc.name, rowName] <;> omega), ?_⟩)
                | refine WpL.cons rfl rfl (op_indexAddr (k := 1) rfl rfl rfl rfl ⟨by omega, by omega⟩ ⟨(by simp [InL, Acc.name, rowName] <;> omega), ?_⟩)
                | refine WpO.cons rfl rfl (op_load rfl rfl rfl hgc hnx ⟨(by simp [InL, Acc.name, rowName] <;> omega), ?_⟩)
                | refine WpL.cons rfl rfl (op_load rfl rfl rfl hgc hnx ⟨(by simp [InL, Acc.name, rowName] <;> omega), ?_⟩))
              refine ⟨⟨_, decide (x > 0), (set6 rfl rfl rfl rfl rfl rfl).choose_spec, ?_⟩, rfl, rfl⟩
              rw [decide_eq_true_iff]
              exact ⟨fun hp => ⟨j, x, hj, hx, hp⟩, fun ⟨j', x', h1, h2, h3⟩ => by
                have : j' = j := by omega
                subst this
                rw [hx] at h2; cases h2; exact h3⟩
            · have e2 : decide (H ≤ (cs.length : Int)) = false := by simpa using g2
              repeat' (first
                | refine WpC.seq ?_
                | refine WpC.region ?_
                | refine WpC.drawn ?_
                | refine WpC.skip ?_
                | refine WpC.block ?_
                | refine WpC.exit ?_
                | refine WpC.ret ?_
                | refine WpO.nil ?_
                | refine WpO.cons rfl rfl (WpX.pure (fun _ => rfl) ⟨nolog, ?_⟩)
                | refine WpO.skip rfl rfl ?_
                | refine WpL.cons rfl rfl (WpX.pure (fun _ => rfl) ⟨nolog, ?_⟩)
                | refine WpL.skip rfl rfl ?_
                | refine seqQ_normal ?_
                | refine seqQ_ret ?_
                | refine seqQ_exit ?_
                | refine blkQ_normal ?_
                | refine blkQ_ret ?_
                | refine blkQ_out rfl ?_
                | refine blkQ_by rfl ?_
                | refine WpO.cons rfl rfl (op_len rfl rfl rfl ⟨(by simp [InL, Acc.name, rowName] <;> omega), ?_⟩)
                | refine WpL.cons rfl rfl (op_len rfl rfl rfl ⟨(by simp [InL, Acc.name, rowName] <;> omega), ?_⟩))
              simp only [e1]
              repeat' (first
                | refine WpC.seq ?_
                | refine WpC.region ?_
                | refine WpC.drawn ?_
                | refine WpC.skip ?_
                | refine WpC.block ?_
                | refine WpC.exit ?_
                | refine WpC.ret ?_
                | refine WpO.nil ?_
                | refine WpO.cons rfl rfl (WpX.pure (fun _ => rfl) ⟨nolog, ?_⟩)
                | refine WpO.skip rfl rfl ?_
                | refine WpL.cons rfl rfl (WpX.pure (fun _ => rfl) ⟨nolog, ?_⟩)
                | refine WpL.skip rfl rfl ?_
                | refine seqQ_normal ?_
                | refine seqQ_ret ?_
                | refine seqQ_exit ?_
                | refine blkQ_normal ?_
                | refine blkQ_ret ?_
                | refine blkQ_out rfl ?_
                | refine blkQ_by rfl ?_
                | refine WpO.cons rfl rfl (op_len rfl rfl rfl ⟨(by simp [InL, Acc.name, rowName] <;> omega), ?_⟩)
                | refine WpL.cons rfl rfl (op_len rfl rfl rfl ⟨(by simp [InL, Acc.name, rowName] <;> omega), ?_⟩))
              simp only [e2]
              repeat' (first
                | refine WpC.seq ?_
                | refine WpC.region ?_
                | refine WpC.drawn ?_
                | refine WpC.skip ?_
                | refine WpC.block ?_
                | refine WpC.exit ?_
                | refine WpC.ret ?_
                | refine WpO.nil ?_
                | refine WpO.cons rfl rfl (WpX.pure (fun _ => rfl) ⟨nolog, ?_⟩)
                | refine WpO.skip rfl rfl ?_
                | refine WpL.cons rfl rfl (WpX.pure (fun _ => rfl) ⟨nolog, ?_⟩)
                | refine WpL.skip rfl rfl ?_
                | refine seqQ_normal ?_
                | refine seqQ_ret ?_
                | refine seqQ_exit ?_
                | refine blkQ_normal ?_
                | refine blkQ_ret ?_
                | refine blkQ_out rfl ?_
                | refine blkQ_by rfl ?_)
              refine ⟨⟨_, false, (set6 rfl rfl rfl rfl rfl rfl).choose_spec, ?_⟩, rfl, rfl⟩
              exact ⟨fun hp => (by cases hp), fun ⟨j', x', h1, h2, h3⟩ => by have := (List.getElem?_eq_some_iff.1 h2).1; omega⟩
          · have e1 : decide (H ≥ 1) = false := by simpa using g1
            repeat' (first
              | refine WpC.seq ?_
              | refine WpC.region ?_
              | refine WpC.drawn ?_
              | refine WpC.skip ?_
              | refine WpC.block ?_
              | refine WpC.exit ?_
              | refine WpC.ret ?_
              | refine WpO.nil ?_
              | refine WpO.cons rfl rfl (WpX.pure (fun _ => rfl) ⟨nolog, ?_⟩)
              | refine WpO.skip rfl rfl ?_
              | refine WpL.cons rfl rfl (WpX.pure (fun _ => rfl) ⟨nolog, ?_⟩)
              | refine WpL.skip rfl rfl ?_
              | refine seqQ_normal ?_
              | refine seqQ_ret ?_
              | refine seqQ_exit ?_
              | refine blkQ_normal ?_
              | refine blkQ_ret ?_
              | refine blkQ_out rfl ?_
              | refine blkQ_by rfl ?_
              | refine WpO.cons rfl rfl (op_len rfl rfl rfl ⟨(by simp [InL, Acc.name, rowName] <;> omega), ?_⟩)
              | refine WpL.cons rfl rfl (op_len rfl rfl rfl ⟨(by simp [InL, Acc.name, rowName] <;> omega), ?_⟩))
            simp only [e1]
            repeat' (first
              | refine WpC.seq ?_
              | refine WpC.region ?_
              | refine WpC.drawn ?_
              | refine WpC.skip ?_
              | refine WpC.block ?_
              | refine WpC.exit ?_
              | refine WpC.ret ?_
              | refine WpO.nil ?_
              | refine WpO.cons rfl rfl (WpX.pure (fun _ => rfl) ⟨nolog, ?_⟩)
              | refine WpO.skip rfl rfl ?_
              | refine WpL.cons rfl rfl (WpX.pure (fun _ => rfl) ⟨nolog, ?_⟩)
              | refine WpL.skip rfl rfl ?_
              | refine seqQ_normal ?_
              | refine seqQ_ret ?_
              | refine seqQ_exit ?_
              | refine blkQ_normal ?_
              | refine blkQ_ret ?_
              | refine blkQ_out rfl ?_
              | refine blkQ_by rfl ?_)
            refine ⟨⟨_, false, (set6 rfl rfl rfl rfl rfl rfl).choose_spec, ?_⟩, rfl, rfl⟩
            exact ⟨fun hp => (by cases hp), fun ⟨j', x', h1, h2, h3⟩ => by omega⟩
        rintro e4 h4 c4 ⟨⟨b4, bb, rfl, hbb⟩, rfl, rfl⟩
        repeat' (first
          | refine WpC.seq ?_
          | refine WpC.region ?_
          | refine WpC.drawn ?_
          | refine WpC.skip ?_
          | refine WpC.block ?_
          | refine WpC.exit ?_
          | refine WpC.ret ?_
          | refine WpO.nil ?_
          | refine WpO.cons rfl rfl (WpX.pure (fun _ => rfl) ⟨nolog, ?_⟩)
          | refine WpO.skip rfl rfl ?_
          | refine WpL.cons rfl rfl (WpX.pure (fun _ => rfl) ⟨nolog, ?_⟩)
          | refine WpL.skip rfl rfl ?_
          | refine seqQ_normal ?_
          | refine seqQ_ret ?_
          | refine seqQ_exit ?_
          | refine blkQ_normal ?_
          | refine blkQ_ret ?_
          | refine blkQ_out rfl ?_
          | refine blkQ_by rfl ?_)
        refine WpO.cons rfl rfl (call_at rfl (drop_ok B.st (by rw [B.rl]; omega)) (fun n hn => .inr (by have := B.foot n (by rcases List.mem_cons.1 hn with e | e <;> simp [e]); omega)) (by omega) fun v h5 c5 hc5 hfr5 hq => ?_)
        obtain ⟨rfl, hq⟩ := hq
        have hcn5 : ListOf 1 intV h5 c5 vc cs := B.cn.keep (Nat.le_refl _) fun n hn hm => hfr5 n hn (fun hb => B.dis n hm (by rcases List.mem_cons.1 hb with e | e <;> simp [e]))
        have hold5 : ∀ n, n < c → MapI.get h5 n = MapI.get h n := fun n hn => by
          rw [hfr5 n (by omega) (fun hb => by have := B.foot n (by rcases List.mem_cons.1 hb with e | e <;> simp [e]); omega)]; exact B.old n hn
        rcases hq with ⟨j, q, hj, hqj, hq0, rfl, r5⟩ | ⟨hno, rfl, rfl⟩
        · have hcj : cs[j]? = some q.2.2 := by rw [← B.rc, List.getElem?_map, hqj]; rfl
          have hqr := B.rg _ (List.mem_of_getElem? hcj)
          have hqp : q.2.2 > 0 := by omega
          have hbt : bb = true := hbb.2 ⟨j, q.2.2, hj, hcj, hqp⟩
          subst hbt
          have hjl := (List.getElem?_eq_some_iff.1 hcj).1
          obtain ⟨sc, capc, hvc, hsc⟩ := hcn5.shape
          obtain ⟨rfl, scn, clc, jkc, rfl, hsc1, hgc, hjc⟩ := hsc j hjl
          have hwH : IntKind.i64.wrap (H - 1) = (j : Int) := by rw [Go.IntWalk.i64_in _ (by omega)]; omega
          have hnx : nth (flat intV cs ++ jkc) (0 + (IntKind.i64.wrap (H - 1)).toNat * 1) = some (I q.2.2) := by
            rw [hwH, show 0 + ((j : Nat) : Int).toNat * 1 = j * 1 + 0 from by simp]
            exact (nth_flat int_len hcj (by omega) jkc).trans rfl
          have hfl : 0 + (IntKind.i64.wrap (H - 1)).toNat * 1 + 1 ≤ (flat intV cs ++ jkc).length := by
            rw [hwH, List.length_append, flat_length int_len]; simp; omega
          have hfc := B.foot scn (by rw [hvc]; simp [rowName])
          have hw5 : IntKind.i64.wrap (q.2.2 - 1) = q.2.2 - 1 := Go.IntWalk.i64_in _ (by omega)
          subst hvc
          repeat' (first
            | refine WpC.seq ?_
            | refine WpC.region ?_
            | refine WpC.drawn ?_
            | refine WpC.skip ?_
            | refine WpC.block ?_
            | refine WpC.exit ?_
            | refine WpC.ret ?_
            | refine WpO.nil ?_
            | refine WpO.cons rfl rfl (WpX.pure (fun _ => rfl) ⟨nolog, ?_⟩)
            | refine WpO.skip rfl rfl ?_
            | refine WpL.cons rfl rfl (WpX.pure (fun _ => rfl) ⟨nolog, ?_⟩)
            | refine WpL.skip rfl rfl ?_
            | refine seqQ_normal ?_
            | refine seqQ_ret ?_
            | refine seqQ_exit ?_
            | refine blkQ_normal ?_
            | refine blkQ_ret ?_
            | refine blkQ_out rfl ?_
            | refine blkQ_by rfl ?_)
          refine WpC.cond rfl (fun hb => by cases hb) (fun _ => ?_)
          repeat' (first
            | refine WpC.seq ?_
            | refine WpC.region ?_
            | refine WpC.drawn ?_
            | refine WpC.skip ?_
            | refine WpC.block ?_
            | refine WpC.exit ?_
            | refine WpC.ret ?_
            | refine WpO.nil ?_
            | refine WpO.cons rfl rfl (WpX.pure (fun _ => rfl) ⟨nolog, ?_⟩)
            | refine WpO.skip rfl rfl ?_
            | refine WpL.cons rfl rfl (WpX.pure (fun _ => rfl) ⟨nolog, ?_⟩)
            | refine WpL.skip rfl rfl ?_
            | refine seqQ_normal ?_
            | refine seqQ_ret ?_
            | refine seqQ_exit ?_
            | refine blkQ_normal ?_
            | refine blkQ_ret ?_
            | refine blkQ_out rfl ?_
            | refine blkQ_by rfl ?_)
          refine WpC.cond rfl (fun _ => ?_) (fun hb => by cases hb)
          repeat' (first
            | refine WpC.seq ?_
            | refine WpC.region ?_
            | refine WpC.drawn ?_
            | refine WpC.skip ?_
            | refine WpC.block ?_
            | refine WpC.exit ?_
            | refine WpC.ret ?_
            | refine WpO.nil ?_
            | refine WpO.cons rfl rfl (WpX.pure (fun _ => rfl) ⟨nolog, ?_⟩)
            | refine WpO.skip rfl rfl ?_
            | refine WpL.cons rfl rfl (WpX.pure (fun _ => rfl) ⟨nolog, ?_⟩)
            | refine WpL.skip rfl rfl ?_
            | refine seqQ_normal ?_
            | refine seqQ_ret ?_
            | refine seqQ_exit ?_
            | refine blkQ_normal ?_
            | refine blkQ_ret ?_
            | refine blkQ_out rfl ?_
            | refine blkQ_by rfl ?_
            | refine WpO.cons rfl rfl (op_indexAddr (k := 1) rfl rfl rfl rfl ⟨by omega, by omega⟩ ⟨(by simp [InL, Acc.name, rowName] <;> omega), ?_⟩)
            | refine WpL.cons rfl rfl (op_indexAddr (k := 1) rfl rfl rfl rfl ⟨by omega, by omega⟩ ⟨(by simp [InL, Acc.name, rowName] <;> omega), ?_⟩)
            | refine WpO.cons rfl rfl (op_load rfl rfl rfl hgc hnx ⟨(by simp [InL, Acc.name, rowName] <;> omega), ?_⟩)
            | refine WpL.cons rfl rfl (op_load rfl rfl rfl hgc hnx ⟨(by simp [InL, Acc.name, rowName] <;> omega), ?_⟩)
            | refine WpO.cons rfl rfl (op_store (k := 1) rfl rfl rfl rfl hgc hfl rfl ⟨(by simp [InL, Acc.name, rowName] <;> omega), ?_⟩)
            | refine WpL.cons rfl rfl (op_store (k := 1) rfl rfl rfl rfl hgc hfl rfl ⟨(by simp [InL, Acc.name, rowName] <;> omega), ?_⟩))
          have es : setAll (flat intV cs ++ jkc) (0 + (IntKind.i64.wrap (H - 1)).toNat * 1) [I (IntKind.i64.wrap (q.2.2 - 1))] = flat intV (cs.set j (q.2.2 - 1)) ++ jkc := by
            rw [hwH, hw5, show 0 + ((j : Nat) : Int).toNat * 1 = j from by simp]; exact set_int hjl
          have hposs := pos_set (y := q.2.2 - 1) hcj
          have hpl := pos_le cs
          refine ⟨vb, vr, .slice (some (scn, 0)) cs.length (.upTo 1), cs.set j (q.2.2 - 1), bs, rows.set j (q.1, q.2.1, q.2.2 - 1), set4 rfl rfl rfl rfl, B.upd r5 hjl hcj hqj hw5 hold5 ?_ (dropLive hw5 (B.one q (List.mem_of_getElem? hqj)) hqp hposs (by omega)) (by omega) rfl⟩
          exact .inr ⟨scn, clc, jkc, by simp, hsc1, (MapI.get_same (S := HH) (α := AObj) _ _ _).trans (congrArg (fun x => some (AObj.cells true clc x)) es), hjc⟩
        · have hbf : bb = false := by
            cases hb : bb with
            | false => rfl
            | true =>
              obtain ⟨j, x, h1, h2, h3⟩ := hbb.1 hb
              rw [← B.rc, List.getElem?_map] at h2
              cases hr : rows[j]? with
              | none => rw [hr] at h2; cases h2
              | some q => rw [hr] at h2; have := hno j q h1 hr; simp at h2; omega
          subst hbf
          repeat' (first
            | refine WpC.seq ?_
            | refine WpC.region ?_
            | refine WpC.drawn ?_
            | refine WpC.skip ?_
            | refine WpC.block ?_
            | refine WpC.exit ?_
            | refine WpC.ret ?_
            | refine WpO.nil ?_
            | refine WpO.cons rfl rfl (WpX.pure (fun _ => rfl) ⟨nolog, ?_⟩)
            | refine WpO.skip rfl rfl ?_
            | refine WpL.cons rfl rfl (WpX.pure (fun _ => rfl) ⟨nolog, ?_⟩)
            | refine WpL.skip rfl rfl ?_
            | refine seqQ_normal ?_
            | refine seqQ_ret ?_
            | refine seqQ_exit ?_
            | refine blkQ_normal ?_
            | refine blkQ_ret ?_
            | refine blkQ_out rfl ?_
            | refine blkQ_by rfl ?_)
          refine WpC.cond rfl (fun hb => by cases hb) (fun _ => ?_)
          repeat' (first
            | refine WpC.seq ?_
            | refine WpC.region ?_
            | refine WpC.drawn ?_
            | refine WpC.skip ?_
            | refine WpC.block ?_
            | refine WpC.exit ?_
            | refine WpC.ret ?_
            | refine WpO.nil ?_
            | refine WpO.cons rfl rfl (WpX.pure (fun _ => rfl) ⟨nolog, ?_⟩)
            | refine WpO.skip rfl rfl ?_
            | refine WpL.cons rfl rfl (WpX.pure (fun _ => rfl) ⟨nolog, ?_⟩)
            | refine WpL.skip rfl rfl ?_
            | refine seqQ_normal ?_
            | refine seqQ_ret ?_
            | refine seqQ_exit ?_
            | refine blkQ_normal ?_
            | refine blkQ_ret ?_
            | refine blkQ_out rfl ?_
            | refine blkQ_by rfl ?_)
          refine WpC.cond rfl (fun hb => by cases hb) (fun _ => ?_)
          repeat' (first
            | refine WpC.seq ?_
            | refine WpC.region ?_
            | refine WpC.drawn ?_
            | refine WpC.skip ?_
            | refine WpC.block ?_
            | refine WpC.exit ?_
            | refine WpC.ret ?_
            | refine WpO.nil ?_
            | refine WpO.cons rfl rfl (WpX.pure (fun _ => rfl) ⟨nolog, ?_⟩)
            | refine WpO.skip rfl rfl ?_
            | refine WpL.cons rfl rfl (WpX.pure (fun _ => rfl) ⟨nolog, ?_⟩)
            | refine WpL.skip rfl rfl ?_
            | refine seqQ_normal ?_
            | refine seqQ_ret ?_
            | refine seqQ_exit ?_
            | refine blkQ_normal ?_
            | refine blkQ_ret ?_
            | refine blkQ_out rfl ?_
            | refine blkQ_by rfl ?_)
          exact ⟨vb, vr, vc, cs, bs, rows, set4 rfl rfl rfl rfl, B.more⟩
  ·
    rintro e4 h4 c4 ⟨vb', vr', vc', cs', bs', rows', ⟨b4, rfl⟩, B'⟩
    obtain ⟨sc, capc, hvc, hsc⟩ := B'.cn.shape
    subst hvc
    have hle4 := B'.le2
    have hrl := B'.rl
    have hlc' := B'.lc
    have hfoot2 := B'.foot2
    repeat' (first
      | refine WpC.seq ?_
      | refine WpC.region ?_
      | refine WpC.drawn ?_
      | refine WpC.skip ?_
      | refine WpC.block ?_
      | refine WpC.exit ?_
      | refine WpC.ret ?_
      | refine WpO.nil ?_
      | refine WpO.cons rfl rfl (WpX.pure (fun _ => rfl) ⟨nolog, ?_⟩)
      | refine WpO.skip rfl rfl ?_
      | refine WpL.cons rfl rfl (WpX.pure (fun _ => rfl) ⟨nolog, ?_⟩)
      | refine WpL.skip rfl rfl ?_
      | refine seqQ_normal ?_
      | refine seqQ_ret ?_
      | refine seqQ_exit ?_
      | refine blkQ_normal ?_
      | refine blkQ_ret ?_
      | refine blkQ_out rfl ?_
      | refine blkQ_by rfl ?_)
    refine WpC.loop ?_
    refine WpLoop.ind (X := Nat) (fun k e h5 c5 => (∃ b0, e = MapI.set (MapI.set (MapI.set (MapI.set (MapI.set (MapI.set b0 0 (.slice (some (sn, 0)) zs.length cap)) 3 (.ptr (some (p, 0)))) 4 (.slice sc cs'.length capc)) 5 (I i)) 12 (I (pos (cs'.take k)))) 13 (I k)) ∧ k ≤ cs'.length ∧ h5 = h4 ∧ c5 = c4)
      (fun k => cs'.length - k) ?_ 0 _ _ _ ⟨set6 rfl rfl rfl rfl rfl rfl, Nat.zero_le _, rfl, rfl⟩
    rintro k e h5 c5 ⟨⟨b5, rfl⟩, hk, e1, e2⟩
    subst e1; subst e2
    repeat' (first
      | refine WpC.seq ?_
      | refine WpC.region ?_
      | refine WpC.drawn ?_
      | refine WpC.skip ?_
      | refine WpC.block ?_
      | refine WpC.exit ?_
      | refine WpC.ret ?_
      | refine WpO.nil ?_
      | refine WpO.cons rfl rfl (WpX.pure (fun _ => rfl) ⟨nolog, ?_⟩)
      | refine WpO.skip rfl rfl ?_
      | refine WpL.cons rfl rfl (WpX.pure (fun _ => rfl) ⟨nolog, ?_⟩)
      | refine WpL.skip rfl rfl ?_
      | refine seqQ_normal ?_
      | refine seqQ_ret ?_
      | refine seqQ_exit ?_
      | refine blkQ_normal ?_
      | refine blkQ_ret ?_
      | refine blkQ_out rfl ?_
      | refine blkQ_by rfl ?_
      | refine WpO.cons rfl rfl (op_len rfl rfl rfl ⟨(by simp [InL, Acc.name, rowName] <;> omega), ?_⟩)
      | refine WpL.cons rfl rfl (op_len rfl rfl rfl ⟨(by simp [InL, Acc.name, rowName] <;> omega), ?_⟩))
    refine WpC.cond rfl (fun hlt5 => ?_) (fun hge5 => ?_)
    case refine_2 =>
      have hge5 : cs'.length ≤ k := by simpa using hge5
      have ht : cs'.take k = cs' := List.take_of_length_le hge5
      have e6 : (hnd rows' 0).length = pos cs' := by rw [hnd_pos, B'.rc]
      simp only [ht]
      repeat' (first
        | refine WpC.seq ?_
        | refine WpC.region ?_
        | refine WpC.drawn ?_
        | refine WpC.skip ?_
        | refine WpC.block ?_
        | refine WpC.exit ?_
        | refine WpC.ret ?_
        | refine WpO.nil ?_
        | refine WpO.cons rfl rfl (WpX.pure (fun _ => rfl) ⟨nolog, ?_⟩)
        | refine WpO.skip rfl rfl ?_
        | refine WpL.cons rfl rfl (WpX.pure (fun _ => rfl) ⟨nolog, ?_⟩)
        | refine WpL.skip rfl rfl ?_
        | refine seqQ_normal ?_
        | refine seqQ_ret ?_
        | refine seqQ_exit ?_
        | refine blkQ_normal ?_
        | refine blkQ_ret ?_
        | refine blkQ_out rfl ?_
        | refine blkQ_by rfl ?_)
      refine WpO.cons rfl rfl (call_at rfl (live_ok B'.st) (fun n hn => .inr (by simp at hn; have := hfoot2 p (by simp); omega)) (by omega) fun v h6 c6 hc6 hfr6 hq => ?_)
      obtain ⟨rfl, rfl, hv⟩ := hq
      have hv : v = I ((pos cs' : Nat) : Int) := hv
      subst hv
      repeat' (first
        | refine WpC.seq ?_
        | refine WpC.region ?_
        | refine WpC.drawn ?_
        | refine WpC.skip ?_
        | refine WpC.block ?_
        | refine WpC.exit ?_
        | refine WpC.ret ?_
        | refine WpO.nil ?_
        | refine WpO.cons rfl rfl (WpX.pure (fun _ => rfl) ⟨nolog, ?_⟩)
        | refine WpO.skip rfl rfl ?_
        | refine WpL.cons rfl rfl (WpX.pure (fun _ => rfl) ⟨nolog, ?_⟩)
        | refine WpL.skip rfl rfl ?_
        | refine seqQ_normal ?_
        | refine seqQ_ret ?_
        | refine seqQ_exit ?_
        | refine blkQ_normal ?_
        | refine blkQ_ret ?_
        | refine blkQ_out rfl ?_
        | refine blkQ_by rfl ?_)
      simp only [bne_self_eq_false]
      repeat' (first
        | refine WpC.seq ?_
        | refine WpC.region ?_
        | refine WpC.drawn ?_
        | refine WpC.skip ?_
        | refine WpC.block ?_
        | refine WpC.exit ?_
        | refine WpC.ret ?_
        | refine WpO.nil ?_
        | refine WpO.cons rfl rfl (WpX.pure (fun _ => rfl) ⟨nolog, ?_⟩)
        | refine WpO.skip rfl rfl ?_
        | refine WpL.cons rfl rfl (WpX.pure (fun _ => rfl) ⟨nolog, ?_⟩)
        | refine WpL.skip rfl rfl ?_
        | refine seqQ_normal ?_
        | refine seqQ_ret ?_
        | refine seqQ_exit ?_
        | refine blkQ_normal ?_
        | refine blkQ_ret ?_
        | refine blkQ_out rfl ?_
        | refine blkQ_by rfl ?_)
      refine WpO.cons rfl rfl (call_at rfl (handles_ok B'.st (by simp only; omega)) (fun n hn => .inr (by have := hfoot2 n (by rcases List.mem_cons.1 hn with e | e <;> simp [e]); omega)) (by omega) fun v h7 c7 hc7 hfr7 hq => ?_)
      obtain ⟨hl7, _, hk7⟩ := hq
      have hl7 : ListOf 1 intV h7 c7 v (hnd rows' 0) := hl7
      obtain ⟨s7, cap7, hv7, _⟩ := hl7.shape
      rw [e6] at hv7
      subst hv7
      repeat' (first
        | refine WpC.seq ?_
        | refine WpC.region ?_
        | refine WpC.drawn ?_
        | refine WpC.skip ?_
        | refine WpC.block ?_
        | refine WpC.exit ?_
        | refine WpC.ret ?_
        | refine WpO.nil ?_
        | refine WpO.cons rfl rfl (WpX.pure (fun _ => rfl) ⟨nolog, ?_⟩)
        | refine WpO.skip rfl rfl ?_
        | refine WpL.cons rfl rfl (WpX.pure (fun _ => rfl) ⟨nolog, ?_⟩)
        | refine WpL.skip rfl rfl ?_
        | refine seqQ_normal ?_
        | refine seqQ_ret ?_
        | refine seqQ_exit ?_
        | refine blkQ_normal ?_
        | refine blkQ_ret ?_
        | refine blkQ_out rfl ?_
        | refine blkQ_by rfl ?_
        | refine WpO.cons rfl rfl (op_len rfl rfl rfl ⟨(by simp [InL, Acc.name, rowName] <;> omega), ?_⟩)
        | refine WpL.cons rfl rfl (op_len rfl rfl rfl ⟨(by simp [InL, Acc.name, rowName] <;> omega), ?_⟩))
      simp only [bne_self_eq_false]
      repeat' (first
        | refine WpC.seq ?_
        | refine WpC.region ?_
        | refine WpC.drawn ?_
        | refine WpC.skip ?_
        | refine WpC.block ?_
        | refine WpC.exit ?_
        | refine WpC.ret ?_
        | refine WpO.nil ?_
        | refine WpO.cons rfl rfl (WpX.pure (fun _ => rfl) ⟨nolog, ?_⟩)
        | refine WpO.skip rfl rfl ?_
        | refine WpL.cons rfl rfl (WpX.pure (fun _ => rfl) ⟨nolog, ?_⟩)
        | refine WpL.skip rfl rfl ?_
        | refine seqQ_normal ?_
        | refine seqQ_ret ?_
        | refine seqQ_exit ?_
        | refine blkQ_normal ?_
        | refine blkQ_ret ?_
        | refine blkQ_out rfl ?_
        | refine blkQ_by rfl ?_)
      refine WpC.cond rfl (fun hb => by cases hb) (fun _ => ?_)
      repeat' (first
        | refine WpC.seq ?_
        | refine WpC.region ?_
        | refine WpC.drawn ?_
        | refine WpC.skip ?_
        | refine WpC.block ?_
        | refine WpC.exit ?_
        | refine WpC.ret ?_
        | refine WpO.nil ?_
        | refine WpO.cons rfl rfl (WpX.pure (fun _ => rfl) ⟨nolog, ?_⟩)
        | refine WpO.skip rfl rfl ?_
        | refine WpL.cons rfl rfl (WpX.pure (fun _ => rfl) ⟨nolog, ?_⟩)
        | refine WpL.skip rfl rfl ?_
        | refine seqQ_normal ?_
        | refine seqQ_ret ?_
        | refine seqQ_exit ?_
        | refine blkQ_normal ?_
        | refine blkQ_ret ?_
        | refine blkQ_out rfl ?_
        | refine blkQ_by rfl ?_)
      refine ⟨(i + 1, vb', vr', .slice sc cs'.length capc, cs', bs', rows'), by simp only; omega, ?_, by simp only; omega, B'.keep hc7 hk7⟩
      rw [hw1]
      exact set4 rfl rfl rfl rfl
    have hlt5 : k < cs'.length := by simpa using hlt5
    obtain ⟨rfl, scn, clc, jkc, rfl, hsc1, hgc, hjc⟩ := hsc k hlt5
    obtain ⟨x, hx⟩ : ∃ x, cs'[k]? = some x := ⟨_, List.getElem?_eq_getElem hlt5⟩
    obtain ⟨q, hq⟩ : ∃ q, rows'[k]? = some q := ⟨_, List.getElem?_eq_getElem (by omega)⟩
    have hqx : x = q.2.2 := by
      have : cs'[k]? = some q.2.2 := by rw [← B'.rc, List.getElem?_map, hq]; rfl
      rw [hx] at this; cases this; rfl
    have hwk : IntKind.i64.wrap ((k : Int) + 1) = ((k + 1 : Nat) : Int) := by rw [Go.IntWalk.i64_in _ (by omega)]; omega
    have hnx : nth (flat intV cs' ++ jkc) (0 + ((k : Nat) : Int).toNat * 1) = some (I x) := by
      rw [show 0 + ((k : Nat) : Int).toNat * 1 = k * 1 + 0 from by simp]
      exact (nth_flat int_len hx (by omega) jkc).trans rfl
    have hfc := B'.foot scn (by simp [rowName])
    have hds := B'.dis scn (by simp [rowName])
    have htk : cs'.take (k + 1) = cs'.take k ++ [x] := take_snoc hx
    have hpk := pos_le (cs'.take k)
    rw [List.length_take] at hpk
    repeat' (first
      | refine WpC.seq ?_
      | refine WpC.region ?_
      | refine WpC.drawn ?_
      | refine WpC.skip ?_
      | refine WpC.block ?_
      | refine WpC.exit ?_
      | refine WpC.ret ?_
      | refine WpO.nil ?_
      | refine WpO.cons rfl rfl (WpX.pure (fun _ => rfl) ⟨nolog, ?_⟩)
      | refine WpO.skip rfl rfl ?_
      | refine WpL.cons rfl rfl (WpX.pure (fun _ => rfl) ⟨nolog, ?_⟩)
      | refine WpL.skip rfl rfl ?_
      | refine seqQ_normal ?_
      | refine seqQ_ret ?_
      | refine seqQ_exit ?_
      | refine blkQ_normal ?_
      | refine blkQ_ret ?_
      | refine blkQ_out rfl ?_
      | refine blkQ_by rfl ?_)
    refine WpL.cons rfl rfl (call_atL rfl (count_ok B'.st (by simp only; omega)) (fun n hn => .inr (by have := hfoot2 n (by rcases List.mem_cons.1 hn with e | e <;> simp [e]); omega)) (by omega) fun v h6 c6 al hal hc6 hfr6 hq6 => ?_)
    obtain ⟨rfl, rfl, hq6⟩ := hq6
    have hv : v = I x := by
      rcases hq6 with ⟨j, q', hj, hqj, rfl⟩ | ⟨hno, rfl⟩
      · rw [hwk] at hj
        have : j = k := by omega
        subst this
        have hqj : rows'[j]? = some q' := hqj
        rw [hq] at hqj; cases hqj; rw [hqx]
      · have := hno k q (by rw [hwk]; omega) hq
        rw [hqx, this]
    subst hv
    have ha : ∀ y ∈ al, y.name ≠ scn := fun y hy e => by
      rcases hal y hy with h | h
      · rw [e] at h
        exact hds (by rcases List.mem_cons.1 h with e | e <;> simp [e])
      · omega
    repeat' (first
      | refine WpC.seq ?_
      | refine WpC.region ?_
      | refine WpC.drawn ?_
      | refine WpC.skip ?_
      | refine WpC.block ?_
      | refine WpC.exit ?_
      | refine WpC.ret ?_
      | refine WpO.nil ?_
      | refine WpO.cons rfl rfl (WpX.pure (fun _ => rfl) ⟨nolog, ?_⟩)
      | refine WpO.skip rfl rfl ?_
      | refine WpL.cons rfl rfl (WpX.pure (fun _ => rfl) ⟨nolog, ?_⟩)
      | refine WpL.skip rfl rfl ?_
      | refine seqQ_normal ?_
      | refine seqQ_ret ?_
      | refine seqQ_exit ?_
      | refine blkQ_normal ?_
      | refine blkQ_ret ?_
      | refine blkQ_out rfl ?_
      | refine blkQ_by rfl ?_
      | refine WpO.cons rfl rfl (op_indexAddr (k := 1) rfl rfl rfl rfl ⟨by omega, by omega⟩ ⟨(by simp [InL, Acc.name, rowName] <;> omega), ?_⟩)
      | refine WpL.cons rfl rfl (op_indexAddr (k := 1) rfl rfl rfl rfl ⟨by omega, by omega⟩ ⟨(by simp [InL, Acc.name, rowName] <;> omega), ?_⟩)
      | refine WpO.cons rfl rfl (op_load rfl rfl rfl hgc hnx ⟨(by simp [InL, Acc.name, rowName] <;> omega), ?_⟩)
      | refine WpL.cons rfl rfl (op_load rfl rfl rfl hgc hnx ⟨(by simp [InL, Acc.name, rowName] <;> omega), ?_⟩))
    refine WpL.nil (logsOk_of (cs := [0, 0, 2, 7, 0, 0, 48, 112, 255]) (by decide +kernel) ?_) ?_
    · simp +contextual [allP, apP, Dis, acc_rd, acc_wr, accw_rd, accw_wr, Nat.testBit, ha]
    simp only [bne_self_eq_false]
    repeat' (first
      | refine WpC.seq ?_
      | refine WpC.region ?_
      | refine WpC.drawn ?_
      | refine WpC.skip ?_
      | refine WpC.block ?_
      | refine WpC.exit ?_
      | refine WpC.ret ?_
      | refine WpO.nil ?_
      | refine WpO.cons rfl rfl (WpX.pure (fun _ => rfl) ⟨nolog, ?_⟩)
      | refine WpO.skip rfl rfl ?_
      | refine WpL.cons rfl rfl (WpX.pure (fun _ => rfl) ⟨nolog, ?_⟩)
      | refine WpL.skip rfl rfl ?_
      | refine seqQ_normal ?_
      | refine seqQ_ret ?_
      | refine seqQ_exit ?_
      | refine blkQ_normal ?_
      | refine blkQ_ret ?_
      | refine blkQ_out rfl ?_
      | refine blkQ_by rfl ?_)
    refine WpC.cond rfl (fun hb => by cases hb) (fun _ => ?_)
    repeat' (first
      | refine WpC.seq ?_
      | refine WpC.region ?_
      | refine WpC.drawn ?_
      | refine WpC.skip ?_
      | refine WpC.block ?_
      | refine WpC.exit ?_
      | refine WpC.ret ?_
      | refine WpO.nil ?_
      | refine WpO.cons rfl rfl (WpX.pure (fun _ => rfl) ⟨nolog, ?_⟩)
      | refine WpO.skip rfl rfl ?_
      | refine WpL.cons rfl rfl (WpX.pure (fun _ => rfl) ⟨nolog, ?_⟩)
      | refine WpL.skip rfl rfl ?_
      | refine seqQ_normal ?_
      | refine seqQ_ret ?_
      | refine seqQ_exit ?_
      | refine blkQ_normal ?_
      | refine blkQ_ret ?_
      | refine blkQ_out rfl ?_
      | refine blkQ_by rfl ?_
      | refine WpO.cons rfl rfl (op_indexAddr (k := 1) rfl rfl rfl rfl ⟨by omega, by omega⟩ ⟨(by simp [InL, Acc.name, rowName] <;> omega), ?_⟩)
      | refine WpL.cons rfl rfl (op_indexAddr (k := 1) rfl rfl rfl rfl ⟨by omega, by omega⟩ ⟨(by simp [InL, Acc.name, rowName] <;> omega), ?_⟩)
      | refine WpO.cons rfl rfl (op_load rfl rfl rfl hgc hnx ⟨(by simp [InL, Acc.name, rowName] <;> omega), ?_⟩)
      | refine WpL.cons rfl rfl (op_load rfl rfl rfl hgc hnx ⟨(by simp [InL, Acc.name, rowName] <;> omega), ?_⟩))
    refine WpC.cond rfl (fun hp => ?_) (fun hp => ?_)
    · have hp : x > 0 := by simpa using hp
      have hp1 : IntKind.i64.wrap (((pos (cs'.take k) : Nat) : Int) + 1) = ((pos (cs'.take (k + 1)) : Nat) : Int) := by
        rw [Go.IntWalk.i64_in _ (by omega), htk, pos_app]; simp [pos, hp]
      repeat' (first
        | refine WpC.seq ?_
        | refine WpC.region ?_
        | refine WpC.drawn ?_
        | refine WpC.skip ?_
        | refine WpC.block ?_
        | refine WpC.exit ?_
        | refine WpC.ret ?_
        | refine WpO.nil ?_
        | refine WpO.cons rfl rfl (WpX.pure (fun _ => rfl) ⟨nolog, ?_⟩)
        | refine WpO.skip rfl rfl ?_
        | refine WpL.cons rfl rfl (WpX.pure (fun _ => rfl) ⟨nolog, ?_⟩)
        | refine WpL.skip rfl rfl ?_
        | refine seqQ_normal ?_
        | refine seqQ_ret ?_
        | refine seqQ_exit ?_
        | refine blkQ_normal ?_
        | refine blkQ_ret ?_
        | refine blkQ_out rfl ?_
        | refine blkQ_by rfl ?_)
      refine ⟨k + 1, by omega, ?_, by omega, rfl, rfl⟩
      rw [hwk, hp1]
      exact set6 rfl rfl rfl rfl rfl rfl
    · have hp : ¬ x > 0 := by simpa using hp
      have hp0 : pos (cs'.take (k + 1)) = pos (cs'.take k) := by rw [htk, pos_app]; simp [pos, hp]
      repeat' (first
        | refine WpC.seq ?_
        | refine WpC.region ?_
        | refine WpC.drawn ?_
        | refine WpC.skip ?_
        | refine WpC.block ?_
        | refine WpC.exit ?_
        | refine WpC.ret ?_
        | refine WpO.nil ?_
        | refine WpO.cons rfl rfl (WpX.pure (fun _ => rfl) ⟨nolog, ?_⟩)
        | refine WpO.skip rfl rfl ?_
        | refine WpL.cons rfl rfl (WpX.pure (fun _ => rfl) ⟨nolog, ?_⟩)
        | refine WpL.skip rfl rfl ?_
        | refine seqQ_normal ?_
        | refine seqQ_ret ?_
        | refine seqQ_exit ?_
        | refine blkQ_normal ?_
        | refine blkQ_ret ?_
        | refine blkQ_out rfl ?_
        | refine blkQ_by rfl ?_)
      refine ⟨k + 1, by omega, ?_, by omega, rfl, rfl⟩
      rw [hwk, hp0]
      exact set6 rfl rfl rfl rfl rfl rfl
theorem counts_walk {T : Type} {ds : List (DataW T)} : ∀ (h : HH) (c : Nat) (xs : List V), ArgsR Try.prog h c [22] xs ds → WpX (cl 13 xs) h c fun v _ _ _ => v = .bool true := by
  intro h c xs r
  cases r with
  | cons a ha r =>
    cases r
    obtain ⟨zs, hl, _⟩ := a.ints (e := 5) (k := .u8) rfl rfl (ha.trans rfl)
    exact WpX.mono (counts_law hl) fun v h' c' l q => q.2.2.2
end Go.Proofs.Ytempfmkicpifkaa
