/- TiesBoth: two ties, each alike. -/
import Derived.Test.YtempfmkicpifkaaTi3W
set_option linter.unusedVariables false
set_option linter.unusedSectionVars false
set_option linter.unusedSimpArgs false
set_option linter.unnecessarySimpa false
namespace Go.Proofs.Ytempfmkicpifkaa.Ti
open Go.Ab
set_option maxRecDepth 10000
theorem acc_rd (n : Nat) : (Acc.rd n).name = n := rfl
theorem acc_wr (n : Nat) : (Acc.wr n).name = n := rfl
theorem accw_rd (n : Nat) : (Acc.rd n).writes = false := rfl
theorem accw_wr (n : Nat) : (Acc.wr n).writes = true := rfl
theorem logsOk_reads {ops : List Oper} {al : List (List Acc)} (h : anyWrite al = false) : logsOk ops al = true := by
  unfold logsOk
  rw [h]; rfl
theorem set6 {X : EE} {k0 k1 k2 k3 k4 k5 : Nat} {v0 v1 v2 v3 v4 v5 : V} (h0 : X k0 = some v0) (h1 : X k1 = some v1) (h2 : X k2 = some v2) (h3 : X k3 = some v3) (h4 : X k4 = some v4) (h5 : X k5 = some v5) :
    ∃ b, X = MapI.set (MapI.set (MapI.set (MapI.set (MapI.set (MapI.set b k0 v0) k1 v1) k2 v2) k3 v3) k4 v4) k5 v5 :=
  ⟨X, by rw [FM.add h0, FM.add h1, FM.add h2, FM.add h3, FM.add h4, FM.add h5]⟩
theorem set7 {X : EE} {k0 k1 k2 k3 k4 k5 k6 : Nat} {v0 v1 v2 v3 v4 v5 v6 : V} (h0 : X k0 = some v0) (h1 : X k1 = some v1) (h2 : X k2 = some v2) (h3 : X k3 = some v3) (h4 : X k4 = some v4) (h5 : X k5 = some v5) (h6 : X k6 = some v6) :
    ∃ b, X = MapI.set (MapI.set (MapI.set (MapI.set (MapI.set (MapI.set (MapI.set b k0 v0) k1 v1) k2 v2) k3 v3) k4 v4) k5 v5) k6 v6 :=
  ⟨X, by rw [FM.add h0, FM.add h1, FM.add h2, FM.add h3, FM.add h4, FM.add h5, FM.add h6]⟩
theorem set8 {X : EE} {k0 k1 k2 k3 k4 k5 k6 k7 : Nat} {v0 v1 v2 v3 v4 v5 v6 v7 : V} (h0 : X k0 = some v0) (h1 : X k1 = some v1) (h2 : X k2 = some v2) (h3 : X k3 = some v3) (h4 : X k4 = some v4) (h5 : X k5 = some v5) (h6 : X k6 = some v6) (h7 : X k7 = some v7) :
    ∃ b, X = MapI.set (MapI.set (MapI.set (MapI.set (MapI.set (MapI.set (MapI.set (MapI.set b k0 v0) k1 v1) k2 v2) k3 v3) k4 v4) k5 v5) k6 v6) k7 v7 :=
  ⟨X, by rw [FM.add h0, FM.add h1, FM.add h2, FM.add h3, FM.add h4, FM.add h5, FM.add h6, FM.add h7]⟩
def KV (v : Int) (K : List Int) : List (Int × Int) := K.map fun x => (x, v)
def LK (k : Int) (b : Bool) : List (Int × Unit) := bif b then [(k, ())] else []
def insI (k : Int) : List Int → List Int
  | [] => [k]
  | y :: l => if k < y then k :: y :: l else y :: insI k l
def eraI (k : Int) : List Int → List Int
  | [] => []
  | y :: l => if y = k then l else y :: eraI k l
theorem ins_KV {k v : Int} : ∀ {K : List Int}, insG (k, v) (KV v K) = KV v (insI k K)
  | [] => rfl
  | y :: K => by
    show (if k < y then (k, v) :: (y, v) :: KV v K else (y, v) :: insG (k, v) (KV v K)) = _
    unfold insI
    split
    · rfl
    · rw [ins_KV]; rfl
theorem era_KV {k v : Int} : ∀ {K : List Int}, eraG k (KV v K) = KV v (eraI k K)
  | [] => rfl
  | y :: K => by
    show (if y = k then KV v K else (y, v) :: eraG k (KV v K)) = _
    unfold eraI
    split
    · rfl
    · rw [era_KV]; rfl
theorem look_KV {k v : Int} : ∀ {K : List Int}, (KV v K).lookup k = if k ∈ K then some v else none
  | [] => rfl
  | y :: K => by
    show ((y, v) :: KV v K).lookup k = _
    rw [List.lookup_cons]
    by_cases e : k = y
    · subst e; simp
    · have : (k == y) = false := by simpa using e
      rw [this, look_KV]
      simp [e]
theorem insI_len {k : Int} : ∀ {K : List Int}, (insI k K).length = K.length + 1
  | [] => rfl
  | y :: K => by
    unfold insI
    split
    · rfl
    · simp [insI_len]
theorem eraI_len {k : Int} : ∀ {K : List Int}, (eraI k K).length ≤ K.length
  | [] => Nat.le_refl _
  | y :: K => by
    unfold eraI
    split
    · simp
    · simp [eraI_len]
theorem num_and : ∀ k : Nat, k < 256 → IntKind.u8.wrap ((BitVec.ofInt IntKind.u8.bits (k : Int) &&& BitVec.ofInt IntKind.u8.bits 3).toNat : Int) = ((k % 4 : Nat) : Int) := by decide +kernel
theorem num_shr : ∀ k : Nat, k < 256 → IntKind.i64.wrap ((k : Int).fdiv (2 ^ (min (2 : Int).toNat IntKind.u8.bits))) = ((k / 4 : Nat) : Int) := by decide +kernel
/-- Both, behind each round. -/
structure BI (h0 h : HH) (c0 c pa a1 a2 a3 pb b1 b2 b3 : Nat) (lk : Bool) (K : List Int) (i : Nat) : Prop where
  ta : TiesAt h c pa a1 a2 a3 (LK 2 lk) (KV 2 K) []
  tb : TiesAt h c pb b1 b2 b3 (LK 1 lk) [] (KV 1 K)
  dis : ∀ x ∈ [pa, a1, a2, a3], ∀ y ∈ [pb, b1, b2, b3], x ≠ y
  lo : ∀ x ∈ [pa, a1, a2, a3, pb, b1, b2, b3], c0 ≤ x
  old : ∀ n, n < c0 → MapI.get h n = MapI.get h0 n
  len : K.length ≤ i
variable {h0 h h' h'' : HH} {c0 c c' c'' pa a1 a2 a3 pb b1 b2 b3 i : Nat} {lk lk' : Bool} {K K' : List Int}
theorem BI.keep (B : BI h0 h c0 c pa a1 a2 a3 pb b1 b2 b3 lk K i) (hc : c ≤ c') (e : ∀ n, n < c → MapI.get h' n = MapI.get h n) : BI h0 h' c0 c' pa a1 a2 a3 pb b1 b2 b3 lk K i := by
  have l1 := B.ta.lt
  have l2 := B.tb.lt
  refine ⟨B.ta.keep hc fun n hn => ?_, B.tb.keep hc fun n hn => ?_, B.dis, B.lo, fun n hn => ?_, B.len⟩
  · simp at hn; exact e n (by omega)
  · simp at hn; exact e n (by omega)
  · have := B.lo pa (by simp)
    rw [e n (by omega)]; exact B.old n hn
/-- The one turned, then the other. -/
theorem BI.both (B : BI h0 h c0 c pa a1 a2 a3 pb b1 b2 b3 lk K i) (ta : TiesAt h' c' pa a1 a2 a3 (LK 2 lk') (KV 2 K') []) (hc : c ≤ c') (e : ∀ n, n < c → n ∉ [pa, a1, a2, a3] → MapI.get h' n = MapI.get h n)
    (tb : TiesAt h' c' pb b1 b2 b3 (LK 1 lk) [] (KV 1 K) → TiesAt h'' c'' pb b1 b2 b3 (LK 1 lk') [] (KV 1 K')) (hc2 : c' ≤ c'') (e2 : ∀ n, n < c' → n ∉ [pb, b1, b2, b3] → MapI.get h'' n = MapI.get h' n) (hl : K'.length ≤ i + 1) :
    BI h0 h'' c0 c'' pa a1 a2 a3 pb b1 b2 b3 lk' K' (i + 1) := by
  have l1 := B.ta.lt
  have l2 := B.tb.lt
  have hlo := B.lo
  refine ⟨ta.keep hc2 fun n hn => ?_, tb (B.tb.keep hc fun n hn => ?_), B.dis, B.lo, fun n hn => ?_, hl⟩
  · refine e2 n ?_ fun hm => B.dis n hn n hm rfl
    simp at hn; omega
  · refine e n ?_ fun hm => B.dis n hm n hn rfl
    simp at hn; omega
  · have h1 : n ∉ [pa, a1, a2, a3] := fun hm => by have := hlo n (by simp at hm ⊢; omega); omega
    have h2 : n ∉ [pb, b1, b2, b3] := fun hm => by have := hlo n (by simp at hm ⊢; omega); omega
    have := hlo pa (by simp)
    rw [e2 n (by omega) h2, e n (by omega) h1]; exact B.old n hn
abbrev FRB (b0 : EE) (l : V) (pa pb : Nat) (lk : Bool) (i : Nat) : EE :=
  MapI.set (MapI.set (MapI.set (MapI.set (MapI.set b0 0 l) 3 (.ptr (some (pa, 0)))) 4 (.ptr (some (pb, 0)))) 5 (.bool lk)) 6 (I i)
set_option maxHeartbeats 16000000 in
theorem both_law {h : HH} {c : Nat} {l : V} {zs : List Int} (hl : RowArg h c l 1 zs.length (zs.map (.int .u8))) (hz : ∀ z ∈ zs, 0 ≤ z ∧ z < 256) : Does 9 [l] h c (rowName l) fun v h' c' => v = .bool true := by
  refine does_of (enter (fn := Try.f9) Try.func9 rfl rfl (Nat.le_of_ble_eq_true rfl) ?_)
  repeat' (first
    | refine WpC.seq ?_
    | refine WpC.region ?_
    | refine WpC.drawn ?_
    | refine WpC.skip ?_
    | refine WpC.block ?_
    | refine WpC.exit ?_
    | refine WpC.ret ?_
    | refine WpO.nil ?_
    | refine WpO.cons rfl rfl (WpX.pure (fun _ => rfl) ⟨nolog, ?_⟩)
    | refine WpO.skip rfl rfl ?_
    | refine WpL.cons rfl rfl (WpX.pure (fun _ => rfl) ⟨nolog, ?_⟩)
    | refine WpL.skip rfl rfl ?_
    | refine seqQ_normal ?_
    | refine seqQ_ret ?_
    | refine seqQ_exit ?_
    | refine blkQ_normal ?_
    | refine blkQ_ret ?_
    | refine blkQ_out rfl ?_
    | refine blkQ_by rfl ?_)
  refine WpO.cons rfl rfl (call_at rfl (shut_ok rfl) (by simp) (Nat.le_refl _) fun v h1 c1 hc1 hfr1 hq => ?_)
  obtain ⟨rfl, rfl, rfl⟩ := hq
  repeat' (first
    | refine WpC.seq ?_
    | refine WpC.region ?_
    | refine WpC.drawn ?_
    | refine WpC.skip ?_
    | refine WpC.block ?_
    | refine WpC.exit ?_
    | refine WpC.ret ?_
    | refine WpO.nil ?_
    | refine WpO.cons rfl rfl (WpX.pure (fun _ => rfl) ⟨nolog, ?_⟩)
    | refine WpO.skip rfl rfl ?_
    | refine WpL.cons rfl rfl (WpX.pure (fun _ => rfl) ⟨nolog, ?_⟩)
    | refine WpL.skip rfl rfl ?_
    | refine seqQ_normal ?_
    | refine seqQ_ret ?_
    | refine seqQ_exit ?_
    | refine blkQ_normal ?_
    | refine blkQ_ret ?_
    | refine blkQ_out rfl ?_
    | refine blkQ_by rfl ?_)
  refine WpC.cond rfl (fun hb => by cases hb) (fun _ => ?_)
  obtain ⟨s, cap, rfl, hs⟩ : ∃ a cap, l = .slice a zs.length cap ∧ (∀ i, i < zs.length → ∃ s, a = some (s, 0) ∧ s < c1 ∧ MapI.get h1 s = some (.cells false false (zs.map (.int .u8)))) := by
    rcases hl.is with ⟨rfl, hz⟩ | ⟨s, cap, rfl, h1, _, _, h2⟩
    · exact ⟨none, .known 0, by rw [hz], fun i hi => by omega⟩
    · exact ⟨_, .known cap, rfl, fun i hi => ⟨s, rfl, h1, h2 (by omega)⟩⟩
  repeat' (first
    | refine WpC.seq ?_
    | refine WpC.region ?_
    | refine WpC.drawn ?_
    | refine WpC.skip ?_
    | refine WpC.block ?_
    | refine WpC.exit ?_
    | refine WpC.ret ?_
    | refine WpO.nil ?_
    | refine WpO.cons rfl rfl (WpX.pure (fun _ => rfl) ⟨nolog, ?_⟩)
    | refine WpO.skip rfl rfl ?_
    | refine WpL.cons rfl rfl (WpX.pure (fun _ => rfl) ⟨nolog, ?_⟩)
    | refine WpL.skip rfl rfl ?_
    | refine seqQ_normal ?_
    | refine seqQ_ret ?_
    | refine seqQ_exit ?_
    | refine blkQ_normal ?_
    | refine blkQ_ret ?_
    | refine blkQ_out rfl ?_
    | refine blkQ_by rfl ?_
    | refine WpO.cons rfl rfl (op_len rfl rfl rfl ⟨(by simp [InL, Acc.name, rowName] <;> omega), ?_⟩)
    | refine WpL.cons rfl rfl (op_len rfl rfl rfl ⟨(by simp [InL, Acc.name, rowName] <;> omega), ?_⟩))
  refine WpC.cond rfl (fun _ => ?_) (fun hn => ?_)
  ·
    repeat' (first
      | refine WpC.seq ?_
      | refine WpC.region ?_
      | refine WpC.drawn ?_
      | refine WpC.skip ?_
      | refine WpC.block ?_
      | refine WpC.exit ?_
      | refine WpC.ret ?_
      | refine WpO.nil ?_
      | refine WpO.cons rfl rfl (WpX.pure (fun _ => rfl) ⟨nolog, ?_⟩)
      | refine WpO.skip rfl rfl ?_
      | refine WpL.cons rfl rfl (WpX.pure (fun _ => rfl) ⟨nolog, ?_⟩)
      | refine WpL.skip rfl rfl ?_
      | refine seqQ_normal ?_
      | refine seqQ_ret ?_
      | refine seqQ_exit ?_
      | refine blkQ_normal ?_
      | refine blkQ_ret ?_
      | refine blkQ_out rfl ?_
      | refine blkQ_by rfl ?_)
    exact out_ret rfl rfl
  have hlen : (zs.length : Int) ≤ 100 := by simpa using hn
  repeat' (first
    | refine WpC.seq ?_
    | refine WpC.region ?_
    | refine WpC.drawn ?_
    | refine WpC.skip ?_
    | refine WpC.block ?_
    | refine WpC.exit ?_
    | refine WpC.ret ?_
    | refine WpO.nil ?_
    | refine WpO.cons rfl rfl (WpX.pure (fun _ => rfl) ⟨nolog, ?_⟩)
    | refine WpO.skip rfl rfl ?_
    | refine WpL.cons rfl rfl (WpX.pure (fun _ => rfl) ⟨nolog, ?_⟩)
    | refine WpL.skip rfl rfl ?_
    | refine seqQ_normal ?_
    | refine seqQ_ret ?_
    | refine seqQ_exit ?_
    | refine blkQ_normal ?_
    | refine blkQ_ret ?_
    | refine blkQ_out rfl ?_
    | refine blkQ_by rfl ?_)
  refine WpO.cons rfl rfl (call_at rfl new_ok (by simp) (by omega) fun v h2 c2 hc2 hfr2 hq => ?_)
  obtain ⟨pa, a1, a2, a3, rfl, q1, q2, q3, q4, ta⟩ := hq
  refine WpO.cons rfl rfl (call_at rfl new_ok (by simp) (by omega) fun v h3 c3 hc3 hfr3 hq => ?_)
  obtain ⟨pb, b1, b2, b3, rfl, p1, p2, p3, p4, tb⟩ := hq
  repeat' (first
    | refine WpC.seq ?_
    | refine WpC.region ?_
    | refine WpC.drawn ?_
    | refine WpC.skip ?_
    | refine WpC.block ?_
    | refine WpC.exit ?_
    | refine WpC.ret ?_
    | refine WpO.nil ?_
    | refine WpO.cons rfl rfl (WpX.pure (fun _ => rfl) ⟨nolog, ?_⟩)
    | refine WpO.skip rfl rfl ?_
    | refine WpL.cons rfl rfl (WpX.pure (fun _ => rfl) ⟨nolog, ?_⟩)
    | refine WpL.skip rfl rfl ?_
    | refine seqQ_normal ?_
    | refine seqQ_ret ?_
    | refine seqQ_exit ?_
    | refine blkQ_normal ?_
    | refine blkQ_ret ?_
    | refine blkQ_out rfl ?_
    | refine blkQ_by rfl ?_)
  refine WpC.cond rfl (fun hb => by cases hb) (fun _ => ?_)
  have hta := ta.lt
  have start : BI h1 h3 c1 c3 pa a1 a2 a3 pb b1 b2 b3 false [] 0 := by
    refine ⟨ta.keep hc3 fun n hn => hfr3 n ?_ (by simp), tb, fun x hx y hy => ?_, fun x hx => ?_, fun n hn => ?_, Nat.le_refl _⟩
    · simp at hn; omega
    · simp at hx hy; omega
    · simp at hx; omega
    · rw [hfr3 n (by omega) (by simp), hfr2 n hn (by simp)]
  have hlo := start.lo
  have hpa := hlo pa (by simp)
  have hpb := hlo pb (by simp)
  let MQ : EE → HH → Nat → Prop := fun e h' c' => ∃ lk K, (∃ b0, e = MapI.set (MapI.set (MapI.set b0 3 (V.ptr (some (pa, 0)))) 4 (V.ptr (some (pb, 0)))) 5 (V.bool lk)) ∧ BI h1 h' c1 c' pa a1 a2 a3 pb b1 b2 b3 lk K zs.length
  repeat' (first
    | refine WpC.seqI (a := Code.seq (Code.region 9 _ _) _) MQ ?_ ?_
    | refine WpC.seq ?_
    | refine WpC.region ?_
    | refine WpC.drawn ?_
    | refine WpC.skip ?_
    | refine WpC.block ?_
    | refine WpC.exit ?_
    | refine WpC.ret ?_
    | refine WpO.nil ?_
    | refine WpO.cons rfl rfl (WpX.pure (fun _ => rfl) ⟨nolog, ?_⟩)
    | refine WpO.skip rfl rfl ?_
    | refine WpL.cons rfl rfl (WpX.pure (fun _ => rfl) ⟨nolog, ?_⟩)
    | refine WpL.skip rfl rfl ?_
    | refine seqQ_normal ?_
    | refine seqQ_ret ?_
    | refine seqQ_exit ?_
    | refine blkQ_normal ?_
    | refine blkQ_ret ?_
    | refine blkQ_out rfl ?_
    | refine blkQ_by rfl ?_)
  · refine WpC.loop ?_
    refine WpLoop.ind (X := Nat × Bool × List Int) (fun x e h' c' => (∃ b0, e = FRB b0 (.slice s zs.length cap) pa pb x.2.1 x.1) ∧ x.1 ≤ zs.length ∧ BI h1 h' c1 c' pa a1 a2 a3 pb b1 b2 b3 x.2.1 x.2.2 x.1)
      (fun x => zs.length - x.1) ?_ (0, false, []) _ _ _ ⟨set5 rfl rfl rfl rfl rfl, Nat.zero_le _, start⟩
    rintro ⟨i, lk, K⟩ e h' c' ⟨⟨b0, rfl⟩, hi, B⟩
    simp only at hi B
    repeat' (first
      | refine WpC.seq ?_
      | refine WpC.region ?_
      | refine WpC.drawn ?_
      | refine WpC.skip ?_
      | refine WpC.block ?_
      | refine WpC.exit ?_
      | refine WpC.ret ?_
      | refine WpO.nil ?_
      | refine WpO.cons rfl rfl (WpX.pure (fun _ => rfl) ⟨nolog, ?_⟩)
      | refine WpO.skip rfl rfl ?_
      | refine WpL.cons rfl rfl (WpX.pure (fun _ => rfl) ⟨nolog, ?_⟩)
      | refine WpL.skip rfl rfl ?_
      | refine seqQ_normal ?_
      | refine seqQ_ret ?_
      | refine seqQ_exit ?_
      | refine blkQ_normal ?_
      | refine blkQ_ret ?_
      | refine blkQ_out rfl ?_
      | refine blkQ_by rfl ?_
      | refine WpO.cons rfl rfl (op_len rfl rfl rfl ⟨(by simp [InL, Acc.name, rowName] <;> omega), ?_⟩)
      | refine WpL.cons rfl rfl (op_len rfl rfl rfl ⟨(by simp [InL, Acc.name, rowName] <;> omega), ?_⟩))
    refine WpC.cond rfl (fun hlt => ?_) (fun hge => ?_)
    case refine_2 =>
      have hge : zs.length ≤ i := by simpa using hge
      obtain rfl : i = zs.length := by omega
      repeat' (first
        | refine WpC.seq ?_
        | refine WpC.region ?_
        | refine WpC.drawn ?_
        | refine WpC.skip ?_
        | refine WpC.block ?_
        | refine WpC.exit ?_
        | refine WpC.ret ?_
        | refine WpO.nil ?_
        | refine WpO.cons rfl rfl (WpX.pure (fun _ => rfl) ⟨nolog, ?_⟩)
        | refine WpO.skip rfl rfl ?_
        | refine WpL.cons rfl rfl (WpX.pure (fun _ => rfl) ⟨nolog, ?_⟩)
        | refine WpL.skip rfl rfl ?_
        | refine seqQ_normal ?_
        | refine seqQ_ret ?_
        | refine seqQ_exit ?_
        | refine blkQ_normal ?_
        | refine blkQ_ret ?_
        | refine blkQ_out rfl ?_
        | refine blkQ_by rfl ?_)
      exact ⟨lk, K, set3 rfl rfl rfl, B⟩
    have hlt : i < zs.length := by simpa using hlt
    obtain ⟨sn, rfl, hsn, hg⟩ := hs i hlt
    have hg' : MapI.get h' sn = some (.cells false false (zs.map (.int .u8))) := by rw [B.old sn hsn]; exact hg
    obtain ⟨z, hzz⟩ : ∃ z, zs[i]? = some z := ⟨_, List.getElem?_eq_getElem hlt⟩
    have hz1 := hz z (List.mem_of_getElem? hzz)
    obtain ⟨k, rfl⟩ : ∃ k : Nat, z = k := ⟨z.toNat, by omega⟩
    have hk : k < 256 := by omega
    have hnx : nth (zs.map (V.int .u8)) (0 + ((i : Nat) : Int).toNat * 1) = some (.int .u8 (k : Int)) := by simpa using nth_map (f := V.int .u8) hzz
    have hand := num_and k hk
    have hshr := num_shr k hk
    have hbl := B.len
    let M : EE → HH → Nat → Prop := fun e h'' c'' => ∃ lk' K' x, (∃ b0, e = MapI.set (MapI.set (FRB b0 (.slice (some (sn, 0)) zs.length cap) pa pb lk' i) 7 (.bool x)) 8 (.bool x)) ∧ BI h1 h'' c1 c'' pa a1 a2 a3 pb b1 b2 b3 lk' K' (i + 1)
    have lo1 : ∀ n ∈ [pa, a1, a2, a3], n ∈ rowName (V.slice (some (sn, 0)) zs.length cap) ∨ c1 ≤ n := fun n hn => .inr (hlo n (by simp at hn ⊢; omega))
    have lo2 : ∀ n ∈ [pb, b1, b2, b3], n ∈ rowName (V.slice (some (sn, 0)) zs.length cap) ∨ c1 ≤ n := fun n hn => .inr (hlo n (by simp at hn ⊢; omega))
    have hcc : c1 ≤ c' := by have := B.ta.lt; omega
    have hkl : (KV 2 K).length < 1000 ∧ (KV 1 K).length < 1000 := by unfold KV; simp; omega
    have hll : ∀ j : Int, (LK j lk).length < 1000 := fun j => by cases lk <;> simp [LK]
    have hok : okK ((k / 4 : Nat) : Int) := by unfold okK; omega
    repeat' (first
      | refine WpC.seqI (a := Code.seq (Code.region 13 _ _) _) M ?_ ?_
      | refine WpC.seq ?_
      | refine WpC.region ?_
      | refine WpC.drawn ?_
      | refine WpC.skip ?_
      | refine WpC.block ?_
      | refine WpC.exit ?_
      | refine WpC.ret ?_
      | refine WpO.nil ?_
      | refine WpO.cons rfl rfl (WpX.pure (fun _ => rfl) ⟨nolog, ?_⟩)
      | refine WpO.skip rfl rfl ?_
      | refine WpL.cons rfl rfl (WpX.pure (fun _ => rfl) ⟨nolog, ?_⟩)
      | refine WpL.skip rfl rfl ?_
      | refine seqQ_normal ?_
      | refine seqQ_ret ?_
      | refine seqQ_exit ?_
      | refine blkQ_normal ?_
      | refine blkQ_ret ?_
      | refine blkQ_out rfl ?_
      | refine blkQ_by rfl ?_
      | refine WpO.cons rfl rfl (op_indexAddr (k := 1) rfl rfl rfl rfl ⟨by omega, by omega⟩ ⟨(by simp [InL, Acc.name, rowName] <;> omega), ?_⟩)
      | refine WpL.cons rfl rfl (op_indexAddr (k := 1) rfl rfl rfl rfl ⟨by omega, by omega⟩ ⟨(by simp [InL, Acc.name, rowName] <;> omega), ?_⟩)
      | refine WpO.cons rfl rfl (op_load rfl rfl rfl hg' hnx ⟨(by simp [InL, Acc.name, rowName] <;> omega), ?_⟩)
      | refine WpL.cons rfl rfl (op_load rfl rfl rfl hg' hnx ⟨(by simp [InL, Acc.name, rowName] <;> omega), ?_⟩))
    · simp only [hand]
      refine WpC.cond rfl (fun hb => ?_) (fun hb0 => ?_)
      · -- Link
        repeat' (first
          | refine WpC.seq ?_
          | refine WpC.region ?_
          | refine WpC.drawn ?_
          | refine WpC.skip ?_
          | refine WpC.block ?_
          | refine WpC.exit ?_
          | refine WpC.ret ?_
          | refine WpO.nil ?_
          | refine WpO.cons rfl rfl (WpX.pure (fun _ => rfl) ⟨nolog, ?_⟩)
          | refine WpO.skip rfl rfl ?_
          | refine WpL.cons rfl rfl (WpX.pure (fun _ => rfl) ⟨nolog, ?_⟩)
          | refine WpL.skip rfl rfl ?_
          | refine seqQ_normal ?_
          | refine seqQ_ret ?_
          | refine seqQ_exit ?_
          | refine blkQ_normal ?_
          | refine blkQ_ret ?_
          | refine blkQ_out rfl ?_
          | refine blkQ_by rfl ?_)
        refine WpO.cons rfl rfl (call_at rfl (link_ok (k := 2) B.ta (by unfold okK; omega) (hll 2)) (fun n hn => lo1 n (by simp at hn ⊢; omega)) (by omega) fun v h4 c4 hc4 hfr4 hq4 => ?_)
        have tb4 : TiesAt h4 c4 pb b1 b2 b3 (LK 1 lk) [] (KV 1 K) := B.tb.keep hc4 fun n hn => by
          have := B.tb.lt
          refine hfr4 n (by simp at hn; omega) fun hm => B.dis n (by simp at hm ⊢; omega) n hn rfl
        repeat' (first
          | refine WpC.seq ?_
          | refine WpC.region ?_
          | refine WpC.drawn ?_
          | refine WpC.skip ?_
          | refine WpC.block ?_
          | refine WpC.exit ?_
          | refine WpC.ret ?_
          | refine WpO.nil ?_
          | refine WpO.cons rfl rfl (WpX.pure (fun _ => rfl) ⟨nolog, ?_⟩)
          | refine WpO.skip rfl rfl ?_
          | refine WpL.cons rfl rfl (WpX.pure (fun _ => rfl) ⟨nolog, ?_⟩)
          | refine WpL.skip rfl rfl ?_
          | refine seqQ_normal ?_
          | refine seqQ_ret ?_
          | refine seqQ_exit ?_
          | refine blkQ_normal ?_
          | refine blkQ_ret ?_
          | refine blkQ_out rfl ?_
          | refine blkQ_by rfl ?_)
        refine WpO.cons rfl rfl (call_at rfl (link_ok (k := 1) tb4 (by unfold okK; omega) (hll 1)) (fun n hn => lo2 n (by simp at hn ⊢; omega)) (by omega) fun v5 h5 c5 hc5 hfr5 hq5 => ?_)
        cases lk with
        | true =>
          rcases hq4 with ⟨_, rfl, t4⟩ | ⟨hx, _⟩
          rotate_left
          · simp [LK] at hx
          rcases hq5 with ⟨_, rfl, t5⟩ | ⟨hx, _⟩
          rotate_left
          · simp [LK] at hx
          repeat' (first
            | refine WpC.seq ?_
            | refine WpC.region ?_
            | refine WpC.drawn ?_
            | refine WpC.skip ?_
            | refine WpC.block ?_
            | refine WpC.exit ?_
            | refine WpC.ret ?_
            | refine WpO.nil ?_
            | refine WpO.cons rfl rfl (WpX.pure (fun _ => rfl) ⟨nolog, ?_⟩)
            | refine WpO.skip rfl rfl ?_
            | refine WpL.cons rfl rfl (WpX.pure (fun _ => rfl) ⟨nolog, ?_⟩)
            | refine WpL.skip rfl rfl ?_
            | refine seqQ_normal ?_
            | refine seqQ_ret ?_
            | refine seqQ_exit ?_
            | refine blkQ_normal ?_
            | refine blkQ_ret ?_
            | refine blkQ_out rfl ?_
            | refine blkQ_by rfl ?_)
          refine WpC.cond rfl (fun hb => by cases hb) (fun _ => ?_)
          repeat' (first
            | refine WpC.seq ?_
            | refine WpC.region ?_
            | refine WpC.drawn ?_
            | refine WpC.skip ?_
            | refine WpC.block ?_
            | refine WpC.exit ?_
            | refine WpC.ret ?_
            | refine WpO.nil ?_
            | refine WpO.cons rfl rfl (WpX.pure (fun _ => rfl) ⟨nolog, ?_⟩)
            | refine WpO.skip rfl rfl ?_
            | refine WpL.cons rfl rfl (WpX.pure (fun _ => rfl) ⟨nolog, ?_⟩)
            | refine WpL.skip rfl rfl ?_
            | refine seqQ_normal ?_
            | refine seqQ_ret ?_
            | refine seqQ_exit ?_
            | refine blkQ_normal ?_
            | refine blkQ_ret ?_
            | refine blkQ_out rfl ?_
            | refine blkQ_by rfl ?_)
          exact ⟨true, K, false, set7 rfl rfl rfl rfl rfl rfl rfl, B.both (h' := h4) (c' := c4) t4 hc4 (fun n hn hm => hfr4 n hn (fun h => hm (by simp at h ⊢; omega))) (fun _ => t5) hc5 (fun n hn hm => hfr5 n hn (fun h => hm (by simp at h ⊢; omega))) (by omega)⟩
        | false =>
          rcases hq4 with ⟨hx, _⟩ | ⟨_, rfl, t4⟩
          · exact absurd rfl hx
          rcases hq5 with ⟨hx, _⟩ | ⟨_, rfl, t5⟩
          · exact absurd rfl hx
          repeat' (first
            | refine WpC.seq ?_
            | refine WpC.region ?_
            | refine WpC.drawn ?_
            | refine WpC.skip ?_
            | refine WpC.block ?_
            | refine WpC.exit ?_
            | refine WpC.ret ?_
            | refine WpO.nil ?_
            | refine WpO.cons rfl rfl (WpX.pure (fun _ => rfl) ⟨nolog, ?_⟩)
            | refine WpO.skip rfl rfl ?_
            | refine WpL.cons rfl rfl (WpX.pure (fun _ => rfl) ⟨nolog, ?_⟩)
            | refine WpL.skip rfl rfl ?_
            | refine seqQ_normal ?_
            | refine seqQ_ret ?_
            | refine seqQ_exit ?_
            | refine blkQ_normal ?_
            | refine blkQ_ret ?_
            | refine blkQ_out rfl ?_
            | refine blkQ_by rfl ?_)
          refine WpC.cond rfl (fun hb => by cases hb) (fun _ => ?_)
          repeat' (first
            | refine WpC.seq ?_
            | refine WpC.region ?_
            | refine WpC.drawn ?_
            | refine WpC.skip ?_
            | refine WpC.block ?_
            | refine WpC.exit ?_
            | refine WpC.ret ?_
            | refine WpO.nil ?_
            | refine WpO.cons rfl rfl (WpX.pure (fun _ => rfl) ⟨nolog, ?_⟩)
            | refine WpO.skip rfl rfl ?_
            | refine WpL.cons rfl rfl (WpX.pure (fun _ => rfl) ⟨nolog, ?_⟩)
            | refine WpL.skip rfl rfl ?_
            | refine seqQ_normal ?_
            | refine seqQ_ret ?_
            | refine seqQ_exit ?_
            | refine blkQ_normal ?_
            | refine blkQ_ret ?_
            | refine blkQ_out rfl ?_
            | refine blkQ_by rfl ?_)
          exact ⟨true, K, true, set7 rfl rfl rfl rfl rfl rfl rfl, B.both (h' := h4) (c' := c4) (lk' := true) t4 hc4 (fun n hn hm => hfr4 n hn (fun h => hm (by simp at h ⊢; omega))) (fun _ => t5) hc5 (fun n hn hm => hfr5 n hn (fun h => hm (by simp at h ⊢; omega))) (by omega)⟩
      repeat' (first
        | refine WpC.seq ?_
        | refine WpC.region ?_
        | refine WpC.drawn ?_
        | refine WpC.skip ?_
        | refine WpC.block ?_
        | refine WpC.exit ?_
        | refine WpC.ret ?_
        | refine WpO.nil ?_
        | refine WpO.cons rfl rfl (WpX.pure (fun _ => rfl) ⟨nolog, ?_⟩)
        | refine WpO.skip rfl rfl ?_
        | refine WpL.cons rfl rfl (WpX.pure (fun _ => rfl) ⟨nolog, ?_⟩)
        | refine WpL.skip rfl rfl ?_
        | refine seqQ_normal ?_
        | refine seqQ_ret ?_
        | refine seqQ_exit ?_
        | refine blkQ_normal ?_
        | refine blkQ_ret ?_
        | refine blkQ_out rfl ?_
        | refine blkQ_by rfl ?_)
      refine WpC.cond rfl (fun hb => ?_) (fun hb1 => ?_)
      · -- Unlink
        repeat' (first
          | refine WpC.seq ?_
          | refine WpC.region ?_
          | refine WpC.drawn ?_
          | refine WpC.skip ?_
          | refine WpC.block ?_
          | refine WpC.exit ?_
          | refine WpC.ret ?_
          | refine WpO.nil ?_
          | refine WpO.cons rfl rfl (WpX.pure (fun _ => rfl) ⟨nolog, ?_⟩)
          | refine WpO.skip rfl rfl ?_
          | refine WpL.cons rfl rfl (WpX.pure (fun _ => rfl) ⟨nolog, ?_⟩)
          | refine WpL.skip rfl rfl ?_
          | refine seqQ_normal ?_
          | refine seqQ_ret ?_
          | refine seqQ_exit ?_
          | refine blkQ_normal ?_
          | refine blkQ_ret ?_
          | refine blkQ_out rfl ?_
          | refine blkQ_by rfl ?_)
        refine WpO.cons rfl rfl (call_at rfl (unlink_ok (k := 2) B.ta) (fun n hn => lo1 n (by simp at hn ⊢; omega)) (by omega) fun v h4 c4 hc4 hfr4 hq4 => ?_)
        have tb4 : TiesAt h4 c4 pb b1 b2 b3 (LK 1 lk) [] (KV 1 K) := B.tb.keep hc4 fun n hn => by
          have := B.tb.lt
          refine hfr4 n (by simp at hn; omega) fun hm => B.dis n (by simp at hm ⊢; omega) n hn rfl
        repeat' (first
          | refine WpC.seq ?_
          | refine WpC.region ?_
          | refine WpC.drawn ?_
          | refine WpC.skip ?_
          | refine WpC.block ?_
          | refine WpC.exit ?_
          | refine WpC.ret ?_
          | refine WpO.nil ?_
          | refine WpO.cons rfl rfl (WpX.pure (fun _ => rfl) ⟨nolog, ?_⟩)
          | refine WpO.skip rfl rfl ?_
          | refine WpL.cons rfl rfl (WpX.pure (fun _ => rfl) ⟨nolog, ?_⟩)
          | refine WpL.skip rfl rfl ?_
          | refine seqQ_normal ?_
          | refine seqQ_ret ?_
          | refine seqQ_exit ?_
          | refine blkQ_normal ?_
          | refine blkQ_ret ?_
          | refine blkQ_out rfl ?_
          | refine blkQ_by rfl ?_)
        refine WpO.cons rfl rfl (call_at rfl (unlink_ok (k := 1) tb4) (fun n hn => lo2 n (by simp at hn ⊢; omega)) (by omega) fun v5 h5 c5 hc5 hfr5 hq5 => ?_)
        obtain ⟨rfl, t4⟩ := hq4
        obtain ⟨rfl, t5⟩ := hq5
        have e2 : ((LK 2 lk).lookup 2).isSome = lk := by cases lk <;> rfl
        have e1 : ((LK 1 lk).lookup 1).isSome = lk := by cases lk <;> rfl
        have d2 : eraG 2 (LK 2 lk) = LK 2 false := by cases lk <;> rfl
        have d1 : eraG 1 (LK 1 lk) = LK 1 false := by cases lk <;> rfl
        rw [d2] at t4
        rw [d1] at t5
        repeat' (first
          | refine WpC.seq ?_
          | refine WpC.region ?_
          | refine WpC.drawn ?_
          | refine WpC.skip ?_
          | refine WpC.block ?_
          | refine WpC.exit ?_
          | refine WpC.ret ?_
          | refine WpO.nil ?_
          | refine WpO.cons rfl rfl (WpX.pure (fun _ => rfl) ⟨nolog, ?_⟩)
          | refine WpO.skip rfl rfl ?_
          | refine WpL.cons rfl rfl (WpX.pure (fun _ => rfl) ⟨nolog, ?_⟩)
          | refine WpL.skip rfl rfl ?_
          | refine seqQ_normal ?_
          | refine seqQ_ret ?_
          | refine seqQ_exit ?_
          | refine blkQ_normal ?_
          | refine blkQ_ret ?_
          | refine blkQ_out rfl ?_
          | refine blkQ_by rfl ?_)
        simp only [e1, e2]
        refine WpC.cond rfl (fun hb => by cases lk <;> cases hb) (fun _ => ?_)
        repeat' (first
          | refine WpC.seq ?_
          | refine WpC.region ?_
          | refine WpC.drawn ?_
          | refine WpC.skip ?_
          | refine WpC.block ?_
          | refine WpC.exit ?_
          | refine WpC.ret ?_
          | refine WpO.nil ?_
          | refine WpO.cons rfl rfl (WpX.pure (fun _ => rfl) ⟨nolog, ?_⟩)
          | refine WpO.skip rfl rfl ?_
          | refine WpL.cons rfl rfl (WpX.pure (fun _ => rfl) ⟨nolog, ?_⟩)
          | refine WpL.skip rfl rfl ?_
          | refine seqQ_normal ?_
          | refine seqQ_ret ?_
          | refine seqQ_exit ?_
          | refine blkQ_normal ?_
          | refine blkQ_ret ?_
          | refine blkQ_out rfl ?_
          | refine blkQ_by rfl ?_)
        exact ⟨false, K, lk, set7 rfl rfl rfl rfl rfl rfl rfl, B.both (h' := h4) (c' := c4) (lk' := false) t4 hc4 (fun n hn hm => hfr4 n hn (fun h => hm (by simp at h ⊢; omega))) (fun _ => t5) hc5 (fun n hn hm => hfr5 n hn (fun h => hm (by simp at h ⊢; omega))) (by omega)⟩
      repeat' (first
        | refine WpC.seq ?_
        | refine WpC.region ?_
        | refine WpC.drawn ?_
        | refine WpC.skip ?_
        | refine WpC.block ?_
        | refine WpC.exit ?_
        | refine WpC.ret ?_
        | refine WpO.nil ?_
        | refine WpO.cons rfl rfl (WpX.pure (fun _ => rfl) ⟨nolog, ?_⟩)
        | refine WpO.skip rfl rfl ?_
        | refine WpL.cons rfl rfl (WpX.pure (fun _ => rfl) ⟨nolog, ?_⟩)
        | refine WpL.skip rfl rfl ?_
        | refine seqQ_normal ?_
        | refine seqQ_ret ?_
        | refine seqQ_exit ?_
        | refine blkQ_normal ?_
        | refine blkQ_ret ?_
        | refine blkQ_out rfl ?_
        | refine blkQ_by rfl ?_)
      refine WpC.cond rfl (fun hb => ?_) (fun hb2 => ?_)
      · -- Watch
        repeat' (first
          | refine WpC.seq ?_
          | refine WpC.region ?_
          | refine WpC.drawn ?_
          | refine WpC.skip ?_
          | refine WpC.block ?_
          | refine WpC.exit ?_
          | refine WpC.ret ?_
          | refine WpO.nil ?_
          | refine WpO.cons rfl rfl (WpX.pure (fun _ => rfl) ⟨nolog, ?_⟩)
          | refine WpO.skip rfl rfl ?_
          | refine WpL.cons rfl rfl (WpX.pure (fun _ => rfl) ⟨nolog, ?_⟩)
          | refine WpL.skip rfl rfl ?_
          | refine seqQ_normal ?_
          | refine seqQ_ret ?_
          | refine seqQ_exit ?_
          | refine blkQ_normal ?_
          | refine blkQ_ret ?_
          | refine blkQ_out rfl ?_
          | refine blkQ_by rfl ?_
          | refine WpO.cons rfl rfl (op_indexAddr (k := 1) rfl rfl rfl rfl ⟨by omega, by omega⟩ ⟨(by simp [InL, Acc.name, rowName] <;> omega), ?_⟩)
          | refine WpL.cons rfl rfl (op_indexAddr (k := 1) rfl rfl rfl rfl ⟨by omega, by omega⟩ ⟨(by simp [InL, Acc.name, rowName] <;> omega), ?_⟩)
          | refine WpO.cons rfl rfl (op_load rfl rfl rfl hg' hnx ⟨(by simp [InL, Acc.name, rowName] <;> omega), ?_⟩)
          | refine WpL.cons rfl rfl (op_load rfl rfl rfl hg' hnx ⟨(by simp [InL, Acc.name, rowName] <;> omega), ?_⟩))
        simp only [hshr]
        refine WpL.cons rfl rfl (call_atL rfl (watch_ok (k := ((k / 4 : Nat) : Int)) (v := 2) B.ta hok hkl.1) (fun n hn => lo1 n (by simp at hn ⊢; omega)) (by omega) fun v h4 c4 al1 hal1 hc4 hfr4 hq4 => ?_)
        have tb4 : TiesAt h4 c4 pb b1 b2 b3 (LK 1 lk) [] (KV 1 K) := B.tb.keep hc4 fun n hn => by
          have := B.tb.lt
          refine hfr4 n (by simp at hn; omega) fun hm => B.dis n (by simp at hm ⊢; omega) n hn rfl
        have hg4 : MapI.get h4 sn = some (.cells false false (zs.map (.int .u8))) := by
          have := B.ta.lt
          rw [hfr4 sn (by omega) (fun hm => by have := hlo sn (by simp at hm ⊢; omega); omega)]; exact hg'
        repeat' (first
          | refine WpC.seq ?_
          | refine WpC.region ?_
          | refine WpC.drawn ?_
          | refine WpC.skip ?_
          | refine WpC.block ?_
          | refine WpC.exit ?_
          | refine WpC.ret ?_
          | refine WpO.nil ?_
          | refine WpO.cons rfl rfl (WpX.pure (fun _ => rfl) ⟨nolog, ?_⟩)
          | refine WpO.skip rfl rfl ?_
          | refine WpL.cons rfl rfl (WpX.pure (fun _ => rfl) ⟨nolog, ?_⟩)
          | refine WpL.skip rfl rfl ?_
          | refine seqQ_normal ?_
          | refine seqQ_ret ?_
          | refine seqQ_exit ?_
          | refine blkQ_normal ?_
          | refine blkQ_ret ?_
          | refine blkQ_out rfl ?_
          | refine blkQ_by rfl ?_
          | refine WpO.cons rfl rfl (op_indexAddr (k := 1) rfl rfl rfl rfl ⟨by omega, by omega⟩ ⟨(by simp [InL, Acc.name, rowName] <;> omega), ?_⟩)
          | refine WpL.cons rfl rfl (op_indexAddr (k := 1) rfl rfl rfl rfl ⟨by omega, by omega⟩ ⟨(by simp [InL, Acc.name, rowName] <;> omega), ?_⟩)
          | refine WpO.cons rfl rfl (op_load rfl rfl rfl hg4 hnx ⟨(by simp [InL, Acc.name, rowName] <;> omega), ?_⟩)
          | refine WpL.cons rfl rfl (op_load rfl rfl rfl hg4 hnx ⟨(by simp [InL, Acc.name, rowName] <;> omega), ?_⟩))
        simp only [hshr]
        refine WpL.cons rfl rfl (call_atL rfl (watched_ok (k := ((k / 4 : Nat) : Int)) (v := 1) tb4 hok hkl.2) (fun n hn => lo2 n (by simp at hn ⊢; omega)) (by omega) fun v5 h5 c5 al2 hal2 hc5 hfr5 hq5 => ?_)
        have na1 : ∀ x ∈ al1, x.name ≠ sn := fun x hx e => by
          rcases hal1 x hx with h | h
          · have := hlo x.name (by simp at h ⊢; omega); omega
          · omega
        have na1' : ∀ x ∈ al1, sn ≠ x.name := fun x hx e => na1 x hx e.symm
        have na2 : ∀ x ∈ al2, x.name ≠ sn := fun x hx e => by
          rcases hal2 x hx with h | h
          · have := hlo x.name (by simp at h ⊢; omega); omega
          · omega
        have na2' : ∀ x ∈ al2, sn ≠ x.name := fun x hx e => na2 x hx e.symm
        rw [look_KV] at hq4 hq5
        rw [ins_KV] at hq4 hq5
        by_cases hm : ((k / 4 : Nat) : Int) ∈ K
        · rcases hq4 with ⟨_, rfl, t4⟩ | ⟨hx, _⟩
          rotate_left
          · rw [if_pos hm] at hx; cases hx
          rcases hq5 with ⟨_, rfl, t5⟩ | ⟨hx, _⟩
          rotate_left
          · rw [if_pos hm] at hx; cases hx
          repeat' (first
            | refine WpC.seq ?_
            | refine WpC.region ?_
            | refine WpC.drawn ?_
            | refine WpC.skip ?_
            | refine WpC.block ?_
            | refine WpC.exit ?_
            | refine WpC.ret ?_
            | refine WpO.nil ?_
            | refine WpO.cons rfl rfl (WpX.pure (fun _ => rfl) ⟨nolog, ?_⟩)
            | refine WpO.skip rfl rfl ?_
            | refine WpL.cons rfl rfl (WpX.pure (fun _ => rfl) ⟨nolog, ?_⟩)
            | refine WpL.skip rfl rfl ?_
            | refine seqQ_normal ?_
            | refine seqQ_ret ?_
            | refine seqQ_exit ?_
            | refine blkQ_normal ?_
            | refine blkQ_ret ?_
            | refine blkQ_out rfl ?_
            | refine blkQ_by rfl ?_)
          refine WpL.nil (logsOk_of (cs := [0, 0, 0, 6, 14, 30, 62, 127, 0, 0, 0, 1536, 3584, 7680, 15872, 32767, 65535, 131071]) (by decide +kernel) ?_) ?_
          · simp +contextual [allP, apP, Dis, acc_rd, acc_wr, accw_rd, accw_wr, Nat.testBit, na1, na1', na2, na2']
          exact ⟨lk, K, false, set7 rfl rfl rfl rfl rfl rfl rfl, B.both (h' := h4) (c' := c4) t4 hc4 (fun n hn hm => hfr4 n hn (fun h => hm (by simp at h ⊢; omega))) (fun _ => t5) hc5 (fun n hn hm => hfr5 n hn (fun h => hm (by simp at h ⊢; omega))) (by omega)⟩
        · rcases hq4 with ⟨hx, _⟩ | ⟨_, rfl, t4⟩
          · rw [if_neg hm] at hx; exact absurd rfl hx
          rcases hq5 with ⟨hx, _⟩ | ⟨_, rfl, t5⟩
          · rw [if_neg hm] at hx; exact absurd rfl hx
          repeat' (first
            | refine WpC.seq ?_
            | refine WpC.region ?_
            | refine WpC.drawn ?_
            | refine WpC.skip ?_
            | refine WpC.block ?_
            | refine WpC.exit ?_
            | refine WpC.ret ?_
            | refine WpO.nil ?_
            | refine WpO.cons rfl rfl (WpX.pure (fun _ => rfl) ⟨nolog, ?_⟩)
            | refine WpO.skip rfl rfl ?_
            | refine WpL.cons rfl rfl (WpX.pure (fun _ => rfl) ⟨nolog, ?_⟩)
            | refine WpL.skip rfl rfl ?_
            | refine seqQ_normal ?_
            | refine seqQ_ret ?_
            | refine seqQ_exit ?_
            | refine blkQ_normal ?_
            | refine blkQ_ret ?_
            | refine blkQ_out rfl ?_
            | refine blkQ_by rfl ?_)
          refine WpL.nil (logsOk_of (cs := [0, 0, 0, 6, 14, 30, 62, 127, 0, 0, 0, 1536, 3584, 7680, 15872, 32767, 65535, 131071]) (by decide +kernel) ?_) ?_
          · simp +contextual [allP, apP, Dis, acc_rd, acc_wr, accw_rd, accw_wr, Nat.testBit, na1, na1', na2, na2']
          exact ⟨lk, insI ((k / 4 : Nat) : Int) K, true, set7 rfl rfl rfl rfl rfl rfl rfl, B.both (h' := h4) (c' := c4) t4 hc4 (fun n hn hm => hfr4 n hn (fun h => hm (by simp at h ⊢; omega))) (fun _ => t5) hc5 (fun n hn hm => hfr5 n hn (fun h => hm (by simp at h ⊢; omega))) (by rw [insI_len]; omega)⟩
      · -- Unwatch
        repeat' (first
          | refine WpC.seq ?_
          | refine WpC.region ?_
          | refine WpC.drawn ?_
          | refine WpC.skip ?_
          | refine WpC.block ?_
          | refine WpC.exit ?_
          | refine WpC.ret ?_
          | refine WpO.nil ?_
          | refine WpO.cons rfl rfl (WpX.pure (fun _ => rfl) ⟨nolog, ?_⟩)
          | refine WpO.skip rfl rfl ?_
          | refine WpL.cons rfl rfl (WpX.pure (fun _ => rfl) ⟨nolog, ?_⟩)
          | refine WpL.skip rfl rfl ?_
          | refine seqQ_normal ?_
          | refine seqQ_ret ?_
          | refine seqQ_exit ?_
          | refine blkQ_normal ?_
          | refine blkQ_ret ?_
          | refine blkQ_out rfl ?_
          | refine blkQ_by rfl ?_
          | refine WpO.cons rfl rfl (op_indexAddr (k := 1) rfl rfl rfl rfl ⟨by omega, by omega⟩ ⟨(by simp [InL, Acc.name, rowName] <;> omega), ?_⟩)
          | refine WpL.cons rfl rfl (op_indexAddr (k := 1) rfl rfl rfl rfl ⟨by omega, by omega⟩ ⟨(by simp [InL, Acc.name, rowName] <;> omega), ?_⟩)
          | refine WpO.cons rfl rfl (op_load rfl rfl rfl hg' hnx ⟨(by simp [InL, Acc.name, rowName] <;> omega), ?_⟩)
          | refine WpL.cons rfl rfl (op_load rfl rfl rfl hg' hnx ⟨(by simp [InL, Acc.name, rowName] <;> omega), ?_⟩))
        simp only [hshr]
        refine WpO.cons rfl rfl (call_at rfl (unwatch_ok (k := ((k / 4 : Nat) : Int)) B.ta) (fun n hn => lo1 n (by simp at hn ⊢; omega)) (by omega) fun v h4 c4 hc4 hfr4 hq4 => ?_)
        have tb4 : TiesAt h4 c4 pb b1 b2 b3 (LK 1 lk) [] (KV 1 K) := B.tb.keep hc4 fun n hn => by
          have := B.tb.lt
          refine hfr4 n (by simp at hn; omega) fun hm => B.dis n (by simp at hm ⊢; omega) n hn rfl
        have hg4 : MapI.get h4 sn = some (.cells false false (zs.map (.int .u8))) := by
          have := B.ta.lt
          rw [hfr4 sn (by omega) (fun hm => by have := hlo sn (by simp at hm ⊢; omega); omega)]; exact hg'
        obtain ⟨rfl, t4⟩ := hq4
        rw [era_KV] at t4
        repeat' (first
          | refine WpC.seq ?_
          | refine WpC.region ?_
          | refine WpC.drawn ?_
          | refine WpC.skip ?_
          | refine WpC.block ?_
          | refine WpC.exit ?_
          | refine WpC.ret ?_
          | refine WpO.nil ?_
          | refine WpO.cons rfl rfl (WpX.pure (fun _ => rfl) ⟨nolog, ?_⟩)
          | refine WpO.skip rfl rfl ?_
          | refine WpL.cons rfl rfl (WpX.pure (fun _ => rfl) ⟨nolog, ?_⟩)
          | refine WpL.skip rfl rfl ?_
          | refine seqQ_normal ?_
          | refine seqQ_ret ?_
          | refine seqQ_exit ?_
          | refine blkQ_normal ?_
          | refine blkQ_ret ?_
          | refine blkQ_out rfl ?_
          | refine blkQ_by rfl ?_
          | refine WpO.cons rfl rfl (op_indexAddr (k := 1) rfl rfl rfl rfl ⟨by omega, by omega⟩ ⟨(by simp [InL, Acc.name, rowName] <;> omega), ?_⟩)
          | refine WpL.cons rfl rfl (op_indexAddr (k := 1) rfl rfl rfl rfl ⟨by omega, by omega⟩ ⟨(by simp [InL, Acc.name, rowName] <;> omega), ?_⟩)
          | refine WpO.cons rfl rfl (op_load rfl rfl rfl hg4 hnx ⟨(by simp [InL, Acc.name, rowName] <;> omega), ?_⟩)
          | refine WpL.cons rfl rfl (op_load rfl rfl rfl hg4 hnx ⟨(by simp [InL, Acc.name, rowName] <;> omega), ?_⟩))
        simp only [hshr]
        refine WpO.cons rfl rfl (call_at rfl (free_ok (k := ((k / 4 : Nat) : Int)) tb4) (fun n hn => lo2 n (by simp at hn ⊢; omega)) (by omega) fun v5 h5 c5 hc5 hfr5 hq5 => ?_)
        obtain ⟨rfl, t5⟩ := hq5
        rw [era_KV] at t5
        have el := eraI_len (k := ((k / 4 : Nat) : Int)) (K := K)
        have fin : BI h1 h5 c1 c5 pa a1 a2 a3 pb b1 b2 b3 lk (eraI ((k / 4 : Nat) : Int) K) (i + 1) := B.both (h' := h4) (c' := c4) t4 hc4 (fun n hn hm => hfr4 n hn (fun h => hm (by simp at h ⊢; omega))) (fun _ => t5) hc5 (fun n hn hm => hfr5 n hn (fun h => hm (by simp at h ⊢; omega))) (by omega)
        simp only [look_KV]
        by_cases hm : ((k / 4 : Nat) : Int) ∈ K
        · simp only [if_pos hm]
          repeat' (first
            | refine WpC.seq ?_
            | refine WpC.region ?_
            | refine WpC.drawn ?_
            | refine WpC.skip ?_
            | refine WpC.block ?_
            | refine WpC.exit ?_
            | refine WpC.ret ?_
            | refine WpO.nil ?_
            | refine WpO.cons rfl rfl (WpX.pure (fun _ => rfl) ⟨nolog, ?_⟩)
            | refine WpO.skip rfl rfl ?_
            | refine WpL.cons rfl rfl (WpX.pure (fun _ => rfl) ⟨nolog, ?_⟩)
            | refine WpL.skip rfl rfl ?_
            | refine seqQ_normal ?_
            | refine seqQ_ret ?_
            | refine seqQ_exit ?_
            | refine blkQ_normal ?_
            | refine blkQ_ret ?_
            | refine blkQ_out rfl ?_
            | refine blkQ_by rfl ?_)
          refine WpC.cond rfl (fun hb => by cases hb) (fun _ => ?_)
          repeat' (first
            | refine WpC.seq ?_
            | refine WpC.region ?_
            | refine WpC.drawn ?_
            | refine WpC.skip ?_
            | refine WpC.block ?_
            | refine WpC.exit ?_
            | refine WpC.ret ?_
            | refine WpO.nil ?_
            | refine WpO.cons rfl rfl (WpX.pure (fun _ => rfl) ⟨nolog, ?_⟩)
            | refine WpO.skip rfl rfl ?_
            | refine WpL.cons rfl rfl (WpX.pure (fun _ => rfl) ⟨nolog, ?_⟩)
            | refine WpL.skip rfl rfl ?_
            | refine seqQ_normal ?_
            | refine seqQ_ret ?_
            | refine seqQ_exit ?_
            | refine blkQ_normal ?_
            | refine blkQ_ret ?_
            | refine blkQ_out rfl ?_
            | refine blkQ_by rfl ?_)
          exact ⟨lk, _, true, set7 rfl rfl rfl rfl rfl rfl rfl, fin⟩
        · simp only [if_neg hm]
          repeat' (first
            | refine WpC.seq ?_
            | refine WpC.region ?_
            | refine WpC.drawn ?_
            | refine WpC.skip ?_
            | refine WpC.block ?_
            | refine WpC.exit ?_
            | refine WpC.ret ?_
            | refine WpO.nil ?_
            | refine WpO.cons rfl rfl (WpX.pure (fun _ => rfl) ⟨nolog, ?_⟩)
            | refine WpO.skip rfl rfl ?_
            | refine WpL.cons rfl rfl (WpX.pure (fun _ => rfl) ⟨nolog, ?_⟩)
            | refine WpL.skip rfl rfl ?_
            | refine seqQ_normal ?_
            | refine seqQ_ret ?_
            | refine seqQ_exit ?_
            | refine blkQ_normal ?_
            | refine blkQ_ret ?_
            | refine blkQ_out rfl ?_
            | refine blkQ_by rfl ?_)
          refine WpC.cond rfl (fun hb => by cases hb) (fun _ => ?_)
          repeat' (first
            | refine WpC.seq ?_
            | refine WpC.region ?_
            | refine WpC.drawn ?_
            | refine WpC.skip ?_
            | refine WpC.block ?_
            | refine WpC.exit ?_
            | refine WpC.ret ?_
            | refine WpO.nil ?_
            | refine WpO.cons rfl rfl (WpX.pure (fun _ => rfl) ⟨nolog, ?_⟩)
            | refine WpO.skip rfl rfl ?_
            | refine WpL.cons rfl rfl (WpX.pure (fun _ => rfl) ⟨nolog, ?_⟩)
            | refine WpL.skip rfl rfl ?_
            | refine seqQ_normal ?_
            | refine seqQ_ret ?_
            | refine seqQ_exit ?_
            | refine blkQ_normal ?_
            | refine blkQ_ret ?_
            | refine blkQ_out rfl ?_
            | refine blkQ_by rfl ?_)
          exact ⟨lk, _, false, set7 rfl rfl rfl rfl rfl rfl rfl, fin⟩
    · rintro e h5 c5 ⟨lk', K', x, ⟨b0, rfl⟩, B'⟩
      have hcc5 : c1 ≤ c5 := by have := B'.ta.lt; omega
      have hwi : IntKind.i64.wrap ((i : Int) + 1) = ((i + 1 : Nat) : Int) := by rw [Go.IntWalk.i64_in _ (by omega)]; omega
      have ek : (KV 2 K').length = (KV 1 K').length := by simp [KV]
      have el : ((LK 2 lk').map (·.1)).length = ((LK 1 lk').map (·.1)).length := by cases lk' <;> rfl
      have hx : (x == x) = true := by cases x <;> rfl
      repeat' (first
        | refine WpC.seq ?_
        | refine WpC.region ?_
        | refine WpC.drawn ?_
        | refine WpC.skip ?_
        | refine WpC.block ?_
        | refine WpC.exit ?_
        | refine WpC.ret ?_
        | refine WpO.nil ?_
        | refine WpO.cons rfl rfl (WpX.pure (fun _ => rfl) ⟨nolog, ?_⟩)
        | refine WpO.skip rfl rfl ?_
        | refine WpL.cons rfl rfl (WpX.pure (fun _ => rfl) ⟨nolog, ?_⟩)
        | refine WpL.skip rfl rfl ?_
        | refine seqQ_normal ?_
        | refine seqQ_ret ?_
        | refine seqQ_exit ?_
        | refine blkQ_normal ?_
        | refine blkQ_ret ?_
        | refine blkQ_out rfl ?_
        | refine blkQ_by rfl ?_)
      simp only [hx]
      repeat' (first
        | refine WpC.seq ?_
        | refine WpC.region ?_
        | refine WpC.drawn ?_
        | refine WpC.skip ?_
        | refine WpC.block ?_
        | refine WpC.exit ?_
        | refine WpC.ret ?_
        | refine WpO.nil ?_
        | refine WpO.cons rfl rfl (WpX.pure (fun _ => rfl) ⟨nolog, ?_⟩)
        | refine WpO.skip rfl rfl ?_
        | refine WpL.cons rfl rfl (WpX.pure (fun _ => rfl) ⟨nolog, ?_⟩)
        | refine WpL.skip rfl rfl ?_
        | refine seqQ_normal ?_
        | refine seqQ_ret ?_
        | refine seqQ_exit ?_
        | refine blkQ_normal ?_
        | refine blkQ_ret ?_
        | refine blkQ_out rfl ?_
        | refine blkQ_by rfl ?_)
      refine WpO.cons rfl rfl (call_at rfl (out_ok B'.ta) (fun n hn => lo1 n (by simp at hn ⊢; omega)) (by omega) fun v h6 c6 hc6 hfr6 hq6 => ?_)
      obtain ⟨l6, s6, _⟩ := hq6
      have B6 := B'.keep hc6 s6
      obtain ⟨w6, cap6, rfl, _⟩ := l6.shape
      repeat' (first
        | refine WpC.seq ?_
        | refine WpC.region ?_
        | refine WpC.drawn ?_
        | refine WpC.skip ?_
        | refine WpC.block ?_
        | refine WpC.exit ?_
        | refine WpC.ret ?_
        | refine WpO.nil ?_
        | refine WpO.cons rfl rfl (WpX.pure (fun _ => rfl) ⟨nolog, ?_⟩)
        | refine WpO.skip rfl rfl ?_
        | refine WpL.cons rfl rfl (WpX.pure (fun _ => rfl) ⟨nolog, ?_⟩)
        | refine WpL.skip rfl rfl ?_
        | refine seqQ_normal ?_
        | refine seqQ_ret ?_
        | refine seqQ_exit ?_
        | refine blkQ_normal ?_
        | refine blkQ_ret ?_
        | refine blkQ_out rfl ?_
        | refine blkQ_by rfl ?_
        | refine WpO.cons rfl rfl (op_len rfl rfl rfl ⟨(by simp [InL, Acc.name, rowName] <;> omega), ?_⟩)
        | refine WpL.cons rfl rfl (op_len rfl rfl rfl ⟨(by simp [InL, Acc.name, rowName] <;> omega), ?_⟩))
      refine WpO.cons rfl rfl (call_at rfl (in_ok B6.tb) (fun n hn => lo2 n (by simp at hn ⊢; omega)) (by omega) fun v h7 c7 hc7 hfr7 hq7 => ?_)
      obtain ⟨l7, s7, _⟩ := hq7
      have B7 := B6.keep hc7 s7
      obtain ⟨w7, cap7, rfl, _⟩ := l7.shape
      repeat' (first
        | refine WpC.seq ?_
        | refine WpC.region ?_
        | refine WpC.drawn ?_
        | refine WpC.skip ?_
        | refine WpC.block ?_
        | refine WpC.exit ?_
        | refine WpC.ret ?_
        | refine WpO.nil ?_
        | refine WpO.cons rfl rfl (WpX.pure (fun _ => rfl) ⟨nolog, ?_⟩)
        | refine WpO.skip rfl rfl ?_
        | refine WpL.cons rfl rfl (WpX.pure (fun _ => rfl) ⟨nolog, ?_⟩)
        | refine WpL.skip rfl rfl ?_
        | refine seqQ_normal ?_
        | refine seqQ_ret ?_
        | refine seqQ_exit ?_
        | refine blkQ_normal ?_
        | refine blkQ_ret ?_
        | refine blkQ_out rfl ?_
        | refine blkQ_by rfl ?_
        | refine WpO.cons rfl rfl (op_len rfl rfl rfl ⟨(by simp [InL, Acc.name, rowName] <;> omega), ?_⟩)
        | refine WpL.cons rfl rfl (op_len rfl rfl rfl ⟨(by simp [InL, Acc.name, rowName] <;> omega), ?_⟩))
      simp only [ek, bne_self_eq_false]
      repeat' (first
        | refine WpC.seq ?_
        | refine WpC.region ?_
        | refine WpC.drawn ?_
        | refine WpC.skip ?_
        | refine WpC.block ?_
        | refine WpC.exit ?_
        | refine WpC.ret ?_
        | refine WpO.nil ?_
        | refine WpO.cons rfl rfl (WpX.pure (fun _ => rfl) ⟨nolog, ?_⟩)
        | refine WpO.skip rfl rfl ?_
        | refine WpL.cons rfl rfl (WpX.pure (fun _ => rfl) ⟨nolog, ?_⟩)
        | refine WpL.skip rfl rfl ?_
        | refine seqQ_normal ?_
        | refine seqQ_ret ?_
        | refine seqQ_exit ?_
        | refine blkQ_normal ?_
        | refine blkQ_ret ?_
        | refine blkQ_out rfl ?_
        | refine blkQ_by rfl ?_)
      refine WpO.cons rfl rfl (call_at rfl (links_ok B7.ta) (fun n hn => lo1 n (by simp at hn ⊢; omega)) (by omega) fun v h8 c8 hc8 hfr8 hq8 => ?_)
      obtain ⟨l8, s8, _⟩ := hq8
      have B8 := B7.keep hc8 s8
      obtain ⟨w8, cap8, rfl, _⟩ := l8.shape
      repeat' (first
        | refine WpC.seq ?_
        | refine WpC.region ?_
        | refine WpC.drawn ?_
        | refine WpC.skip ?_
        | refine WpC.block ?_
        | refine WpC.exit ?_
        | refine WpC.ret ?_
        | refine WpO.nil ?_
        | refine WpO.cons rfl rfl (WpX.pure (fun _ => rfl) ⟨nolog, ?_⟩)
        | refine WpO.skip rfl rfl ?_
        | refine WpL.cons rfl rfl (WpX.pure (fun _ => rfl) ⟨nolog, ?_⟩)
        | refine WpL.skip rfl rfl ?_
        | refine seqQ_normal ?_
        | refine seqQ_ret ?_
        | refine seqQ_exit ?_
        | refine blkQ_normal ?_
        | refine blkQ_ret ?_
        | refine blkQ_out rfl ?_
        | refine blkQ_by rfl ?_
        | refine WpO.cons rfl rfl (op_len rfl rfl rfl ⟨(by simp [InL, Acc.name, rowName] <;> omega), ?_⟩)
        | refine WpL.cons rfl rfl (op_len rfl rfl rfl ⟨(by simp [InL, Acc.name, rowName] <;> omega), ?_⟩))
      refine WpO.cons rfl rfl (call_at rfl (links_ok B8.tb) (fun n hn => lo2 n (by simp at hn ⊢; omega)) (by omega) fun v h9 c9 hc9 hfr9 hq9 => ?_)
      obtain ⟨l9, s9, _⟩ := hq9
      have B9 := B8.keep hc9 s9
      obtain ⟨w9, cap9, rfl, _⟩ := l9.shape
      repeat' (first
        | refine WpC.seq ?_
        | refine WpC.region ?_
        | refine WpC.drawn ?_
        | refine WpC.skip ?_
        | refine WpC.block ?_
        | refine WpC.exit ?_
        | refine WpC.ret ?_
        | refine WpO.nil ?_
        | refine WpO.cons rfl rfl (WpX.pure (fun _ => rfl) ⟨nolog, ?_⟩)
        | refine WpO.skip rfl rfl ?_
        | refine WpL.cons rfl rfl (WpX.pure (fun _ => rfl) ⟨nolog, ?_⟩)
        | refine WpL.skip rfl rfl ?_
        | refine seqQ_normal ?_
        | refine seqQ_ret ?_
        | refine seqQ_exit ?_
        | refine blkQ_normal ?_
        | refine blkQ_ret ?_
        | refine blkQ_out rfl ?_
        | refine blkQ_by rfl ?_
        | refine WpO.cons rfl rfl (op_len rfl rfl rfl ⟨(by simp [InL, Acc.name, rowName] <;> omega), ?_⟩)
        | refine WpL.cons rfl rfl (op_len rfl rfl rfl ⟨(by simp [InL, Acc.name, rowName] <;> omega), ?_⟩))
      simp only [el, bne_self_eq_false]
      repeat' (first
        | refine WpC.seq ?_
        | refine WpC.region ?_
        | refine WpC.drawn ?_
        | refine WpC.skip ?_
        | refine WpC.block ?_
        | refine WpC.exit ?_
        | refine WpC.ret ?_
        | refine WpO.nil ?_
        | refine WpO.cons rfl rfl (WpX.pure (fun _ => rfl) ⟨nolog, ?_⟩)
        | refine WpO.skip rfl rfl ?_
        | refine WpL.cons rfl rfl (WpX.pure (fun _ => rfl) ⟨nolog, ?_⟩)
        | refine WpL.skip rfl rfl ?_
        | refine seqQ_normal ?_
        | refine seqQ_ret ?_
        | refine seqQ_exit ?_
        | refine blkQ_normal ?_
        | refine blkQ_ret ?_
        | refine blkQ_out rfl ?_
        | refine blkQ_by rfl ?_)
      refine WpC.cond rfl (fun hb => by cases hb) (fun _ => ?_)
      repeat' (first
        | refine WpC.seq ?_
        | refine WpC.region ?_
        | refine WpC.drawn ?_
        | refine WpC.skip ?_
        | refine WpC.block ?_
        | refine WpC.exit ?_
        | refine WpC.ret ?_
        | refine WpO.nil ?_
        | refine WpO.cons rfl rfl (WpX.pure (fun _ => rfl) ⟨nolog, ?_⟩)
        | refine WpO.skip rfl rfl ?_
        | refine WpL.cons rfl rfl (WpX.pure (fun _ => rfl) ⟨nolog, ?_⟩)
        | refine WpL.skip rfl rfl ?_
        | refine seqQ_normal ?_
        | refine seqQ_ret ?_
        | refine seqQ_exit ?_
        | refine blkQ_normal ?_
        | refine blkQ_ret ?_
        | refine blkQ_out rfl ?_
        | refine blkQ_by rfl ?_)
      simp only [hwi]
      exact ⟨(i + 1, lk', K'), by simp only; omega, set5 rfl rfl rfl rfl rfl, by simp only; omega, B9⟩
  · rintro e h5 c5 ⟨lk, K, ⟨b0, rfl⟩, B⟩
    have hcc5 : c1 ≤ c5 := by have := B.ta.lt; omega
    have lo1 : ∀ n ∈ [pa, a1, a2, a3], n ∈ rowName (V.slice s zs.length cap) ∨ c1 ≤ n := fun n hn => .inr (hlo n (by simp at hn ⊢; omega))
    have lo2 : ∀ n ∈ [pb, b1, b2, b3], n ∈ rowName (V.slice s zs.length cap) ∨ c1 ≤ n := fun n hn => .inr (hlo n (by simp at hn ⊢; omega))
    have hup := B.ta.out.up
    have hbl := B.len
    repeat' (first
      | refine WpC.seq ?_
      | refine WpC.region ?_
      | refine WpC.drawn ?_
      | refine WpC.skip ?_
      | refine WpC.block ?_
      | refine WpC.exit ?_
      | refine WpC.ret ?_
      | refine WpO.nil ?_
      | refine WpO.cons rfl rfl (WpX.pure (fun _ => rfl) ⟨nolog, ?_⟩)
      | refine WpO.skip rfl rfl ?_
      | refine WpL.cons rfl rfl (WpX.pure (fun _ => rfl) ⟨nolog, ?_⟩)
      | refine WpL.skip rfl rfl ?_
      | refine seqQ_normal ?_
      | refine seqQ_ret ?_
      | refine seqQ_exit ?_
      | refine blkQ_normal ?_
      | refine blkQ_ret ?_
      | refine blkQ_out rfl ?_
      | refine blkQ_by rfl ?_)
    refine WpO.cons rfl rfl (call_at rfl (out_ok B.ta) (fun n hn => lo1 n (by simp at hn ⊢; omega)) (by omega) fun v h6 c6 hc6 hfr6 hq6 => ?_)
    obtain ⟨l6, s6, n6⟩ := hq6
    have B6 := B.keep hc6 s6
    repeat' (first
      | refine WpC.seq ?_
      | refine WpC.region ?_
      | refine WpC.drawn ?_
      | refine WpC.skip ?_
      | refine WpC.block ?_
      | refine WpC.exit ?_
      | refine WpC.ret ?_
      | refine WpO.nil ?_
      | refine WpO.cons rfl rfl (WpX.pure (fun _ => rfl) ⟨nolog, ?_⟩)
      | refine WpO.skip rfl rfl ?_
      | refine WpL.cons rfl rfl (WpX.pure (fun _ => rfl) ⟨nolog, ?_⟩)
      | refine WpL.skip rfl rfl ?_
      | refine seqQ_normal ?_
      | refine seqQ_ret ?_
      | refine seqQ_exit ?_
      | refine blkQ_normal ?_
      | refine blkQ_ret ?_
      | refine blkQ_out rfl ?_
      | refine blkQ_by rfl ?_)
    refine WpO.cons rfl rfl (call_at rfl (in_ok B6.tb) (fun n hn => lo2 n (by simp at hn ⊢; omega)) (by omega) fun v' h7 c7 hc7 hfr7 hq7 => ?_)
    obtain ⟨l7, s7, n7⟩ := hq7
    have B7 := B6.keep hc7 s7
    have l6 := l6.keep hc7 fun n hn _ => s7 n hn
    obtain ⟨w6, cap6, rfl, hw6⟩ := l6.shape
    obtain ⟨w7, cap7, rfl, hw7⟩ := l7.shape
    have e2 : (KV 2 K).length = K.length := by simp [KV]
    have e1 : (KV 1 K).length = K.length := by simp [KV]
    simp only [e1, e2] at hw6 hw7 ⊢
    let MR : EE → HH → Nat → Prop := fun e h' c' => (∃ b0, e = MapI.set (MapI.set (MapI.set b0 3 (V.ptr (some (pa, 0)))) 4 (V.ptr (some (pb, 0)))) 5 (V.bool lk)) ∧ h' = h7 ∧ c' = c7
    repeat' (first
      | refine WpC.seqI (a := Code.seq (Code.region 33 _ _) _) MR ?_ ?_
      | refine WpC.seq ?_
      | refine WpC.region ?_
      | refine WpC.drawn ?_
      | refine WpC.skip ?_
      | refine WpC.block ?_
      | refine WpC.exit ?_
      | refine WpC.ret ?_
      | refine WpO.nil ?_
      | refine WpO.cons rfl rfl (WpX.pure (fun _ => rfl) ⟨nolog, ?_⟩)
      | refine WpO.skip rfl rfl ?_
      | refine WpL.cons rfl rfl (WpX.pure (fun _ => rfl) ⟨nolog, ?_⟩)
      | refine WpL.skip rfl rfl ?_
      | refine seqQ_normal ?_
      | refine seqQ_ret ?_
      | refine seqQ_exit ?_
      | refine blkQ_normal ?_
      | refine blkQ_ret ?_
      | refine blkQ_out rfl ?_
      | refine blkQ_by rfl ?_)
    · refine WpC.loop ?_
      refine WpLoop.ind (X := Nat) (fun i e h' c' => (∃ b0, e = MapI.set (MapI.set (MapI.set (MapI.set (MapI.set (MapI.set b0 3 (V.ptr (some (pa, 0)))) 4 (V.ptr (some (pb, 0)))) 5 (V.bool lk)) 11 (.slice w6 K.length cap6)) 12 (.slice w7 K.length cap7)) 13 (I i)) ∧ i ≤ K.length ∧ h' = h7 ∧ c' = c7)
        (fun i => K.length - i) ?_ 0 _ _ _ ⟨set6 rfl rfl rfl rfl rfl rfl, Nat.zero_le _, rfl, rfl⟩
      rintro i e h' c' ⟨⟨b0, rfl⟩, hi, rfl, rfl⟩
      repeat' (first
        | refine WpC.seq ?_
        | refine WpC.region ?_
        | refine WpC.drawn ?_
        | refine WpC.skip ?_
        | refine WpC.block ?_
        | refine WpC.exit ?_
        | refine WpC.ret ?_
        | refine WpO.nil ?_
        | refine WpO.cons rfl rfl (WpX.pure (fun _ => rfl) ⟨nolog, ?_⟩)
        | refine WpO.skip rfl rfl ?_
        | refine WpL.cons rfl rfl (WpX.pure (fun _ => rfl) ⟨nolog, ?_⟩)
        | refine WpL.skip rfl rfl ?_
        | refine seqQ_normal ?_
        | refine seqQ_ret ?_
        | refine seqQ_exit ?_
        | refine blkQ_normal ?_
        | refine blkQ_ret ?_
        | refine blkQ_out rfl ?_
        | refine blkQ_by rfl ?_
        | refine WpO.cons rfl rfl (op_len rfl rfl rfl ⟨(by simp [InL, Acc.name, rowName] <;> omega), ?_⟩)
        | refine WpL.cons rfl rfl (op_len rfl rfl rfl ⟨(by simp [InL, Acc.name, rowName] <;> omega), ?_⟩))
      refine WpC.cond rfl (fun hlt => ?_) (fun hge => ?_)
      case refine_2 =>
        repeat' (first
          | refine WpC.seq ?_
          | refine WpC.region ?_
          | refine WpC.drawn ?_
          | refine WpC.skip ?_
          | refine WpC.block ?_
          | refine WpC.exit ?_
          | refine WpC.ret ?_
          | refine WpO.nil ?_
          | refine WpO.cons rfl rfl (WpX.pure (fun _ => rfl) ⟨nolog, ?_⟩)
          | refine WpO.skip rfl rfl ?_
          | refine WpL.cons rfl rfl (WpX.pure (fun _ => rfl) ⟨nolog, ?_⟩)
          | refine WpL.skip rfl rfl ?_
          | refine seqQ_normal ?_
          | refine seqQ_ret ?_
          | refine seqQ_exit ?_
          | refine blkQ_normal ?_
          | refine blkQ_ret ?_
          | refine blkQ_out rfl ?_
          | refine blkQ_by rfl ?_)
        exact ⟨set3 rfl rfl rfl, rfl, rfl⟩
      have hlt : i < K.length := by simpa using hlt
      obtain ⟨rfl, t6, cl6, jk6, rfl, hs6, g6, _⟩ := hw6 i hlt
      obtain ⟨rfl, t7, cl7, jk7, rfl, hs7, g7, _⟩ := hw7 i hlt
      have hn6 : c5 ≤ t6 := n6 t6 (by simp [rowName])
      have hn7 : c6 ≤ t7 := n7 t7 (by simp [rowName])
      obtain ⟨z, hz⟩ : ∃ z, K[i]? = some z := ⟨_, List.getElem?_eq_getElem hlt⟩
      have kv : ∀ v : Int, (KV v K)[i]? = some (z, v) := fun v => by simp [KV, hz]
      have a60 : nth (flat pairV (KV 2 K) ++ jk6) (0 + ((i : Nat) : Int).toNat * 2 + 0) = some (I z) := by
        have e : 0 + ((i : Nat) : Int).toNat * 2 + 0 = i * 2 + 0 := by simp
        rw [e]; exact (nth_flat pair_len (kv 2) (by omega) jk6).trans rfl
      have a61 : nth (flat pairV (KV 2 K) ++ jk6) (0 + ((i : Nat) : Int).toNat * 2 + 1) = some (I 2) := by
        have e : 0 + ((i : Nat) : Int).toNat * 2 + 1 = i * 2 + 1 := by simp
        rw [e]; exact (nth_flat pair_len (kv 2) (by omega) jk6).trans rfl
      have a70 : nth (flat pairV (KV 1 K) ++ jk7) (0 + ((i : Nat) : Int).toNat * 2 + 0) = some (I z) := by
        have e : 0 + ((i : Nat) : Int).toNat * 2 + 0 = i * 2 + 0 := by simp
        rw [e]; exact (nth_flat pair_len (kv 1) (by omega) jk7).trans rfl
      have a71 : nth (flat pairV (KV 1 K) ++ jk7) (0 + ((i : Nat) : Int).toNat * 2 + 1) = some (I 1) := by
        have e : 0 + ((i : Nat) : Int).toNat * 2 + 1 = i * 2 + 1 := by simp
        rw [e]; exact (nth_flat pair_len (kv 1) (by omega) jk7).trans rfl
      have hw1 : IntKind.i64.wrap ((i : Int) + 1) = ((i + 1 : Nat) : Int) := by rw [Go.IntWalk.i64_in _ (by omega)]; omega
      by_cases hi0 : i = 0
      · have e0 : decide (((i : Nat) : Int) > 0) = false := by simp [hi0]
        repeat' (first
          | refine WpC.seq ?_
          | refine WpC.region ?_
          | refine WpC.drawn ?_
          | refine WpC.skip ?_
          | refine WpC.block ?_
          | refine WpC.exit ?_
          | refine WpC.ret ?_
          | refine WpO.nil ?_
          | refine WpO.cons rfl rfl (WpX.pure (fun _ => rfl) ⟨nolog, ?_⟩)
          | refine WpO.skip rfl rfl ?_
          | refine WpL.cons rfl rfl (WpX.pure (fun _ => rfl) ⟨nolog, ?_⟩)
          | refine WpL.skip rfl rfl ?_
          | refine seqQ_normal ?_
          | refine seqQ_ret ?_
          | refine seqQ_exit ?_
          | refine blkQ_normal ?_
          | refine blkQ_ret ?_
          | refine blkQ_out rfl ?_
          | refine blkQ_by rfl ?_
          | refine WpO.cons rfl rfl (op_indexAddr (k := 2) rfl rfl rfl rfl ⟨by omega, by omega⟩ ⟨(by simp [InL, Acc.name, rowName] <;> omega), ?_⟩)
          | refine WpL.cons rfl rfl (op_indexAddr (k := 2) rfl rfl rfl rfl ⟨by omega, by omega⟩ ⟨(by simp [InL, Acc.name, rowName] <;> omega), ?_⟩)
          | refine WpO.cons rfl rfl (op_load rfl rfl rfl g6 a60 ⟨(by simp [InL, Acc.name, rowName] <;> omega), ?_⟩)
          | refine WpL.cons rfl rfl (op_load rfl rfl rfl g6 a60 ⟨(by simp [InL, Acc.name, rowName] <;> omega), ?_⟩)
          | refine WpO.cons rfl rfl (op_load rfl rfl rfl g7 a70 ⟨(by simp [InL, Acc.name, rowName] <;> omega), ?_⟩)
          | refine WpL.cons rfl rfl (op_load rfl rfl rfl g7 a70 ⟨(by simp [InL, Acc.name, rowName] <;> omega), ?_⟩))
        simp only [bne_self_eq_false]
        repeat' (first
          | refine WpC.seq ?_
          | refine WpC.region ?_
          | refine WpC.drawn ?_
          | refine WpC.skip ?_
          | refine WpC.block ?_
          | refine WpC.exit ?_
          | refine WpC.ret ?_
          | refine WpO.nil ?_
          | refine WpO.cons rfl rfl (WpX.pure (fun _ => rfl) ⟨nolog, ?_⟩)
          | refine WpO.skip rfl rfl ?_
          | refine WpL.cons rfl rfl (WpX.pure (fun _ => rfl) ⟨nolog, ?_⟩)
          | refine WpL.skip rfl rfl ?_
          | refine seqQ_normal ?_
          | refine seqQ_ret ?_
          | refine seqQ_exit ?_
          | refine blkQ_normal ?_
          | refine blkQ_ret ?_
          | refine blkQ_out rfl ?_
          | refine blkQ_by rfl ?_
          | refine WpO.cons rfl rfl (op_indexAddr (k := 2) rfl rfl rfl rfl ⟨by omega, by omega⟩ ⟨(by simp [InL, Acc.name, rowName] <;> omega), ?_⟩)
          | refine WpL.cons rfl rfl (op_indexAddr (k := 2) rfl rfl rfl rfl ⟨by omega, by omega⟩ ⟨(by simp [InL, Acc.name, rowName] <;> omega), ?_⟩)
          | refine WpO.cons rfl rfl (op_load rfl rfl rfl g6 a61 ⟨(by simp [InL, Acc.name, rowName] <;> omega), ?_⟩)
          | refine WpL.cons rfl rfl (op_load rfl rfl rfl g6 a61 ⟨(by simp [InL, Acc.name, rowName] <;> omega), ?_⟩)
          | refine WpO.cons rfl rfl (op_load rfl rfl rfl g7 a71 ⟨(by simp [InL, Acc.name, rowName] <;> omega), ?_⟩)
          | refine WpL.cons rfl rfl (op_load rfl rfl rfl g7 a71 ⟨(by simp [InL, Acc.name, rowName] <;> omega), ?_⟩))
        simp only [e0]
        repeat' (first
          | refine WpC.seq ?_
          | refine WpC.region ?_
          | refine WpC.drawn ?_
          | refine WpC.skip ?_
          | refine WpC.block ?_
          | refine WpC.exit ?_
          | refine WpC.ret ?_
          | refine WpO.nil ?_
          | refine WpO.cons rfl rfl (WpX.pure (fun _ => rfl) ⟨nolog, ?_⟩)
          | refine WpO.skip rfl rfl ?_
          | refine WpL.cons rfl rfl (WpX.pure (fun _ => rfl) ⟨nolog, ?_⟩)
          | refine WpL.skip rfl rfl ?_
          | refine seqQ_normal ?_
          | refine seqQ_ret ?_
          | refine seqQ_exit ?_
          | refine blkQ_normal ?_
          | refine blkQ_ret ?_
          | refine blkQ_out rfl ?_
          | refine blkQ_by rfl ?_)
        refine WpL.nil (logsOk_reads (by simp only [List.nil_append, List.cons_append, anyWrite, List.any_nil, List.any_cons, accw_rd, Bool.or_self])) ?_
        refine WpC.cond rfl (fun hb => by cases hb) (fun _ => ?_)
        repeat' (first
          | refine WpC.seq ?_
          | refine WpC.region ?_
          | refine WpC.drawn ?_
          | refine WpC.skip ?_
          | refine WpC.block ?_
          | refine WpC.exit ?_
          | refine WpC.ret ?_
          | refine WpO.nil ?_
          | refine WpO.cons rfl rfl (WpX.pure (fun _ => rfl) ⟨nolog, ?_⟩)
          | refine WpO.skip rfl rfl ?_
          | refine WpL.cons rfl rfl (WpX.pure (fun _ => rfl) ⟨nolog, ?_⟩)
          | refine WpL.skip rfl rfl ?_
          | refine seqQ_normal ?_
          | refine seqQ_ret ?_
          | refine seqQ_exit ?_
          | refine blkQ_normal ?_
          | refine blkQ_ret ?_
          | refine blkQ_out rfl ?_
          | refine blkQ_by rfl ?_)
        refine ⟨i + 1, by omega, ?_, by omega, rfl, rfl⟩
        rw [hw1]
        exact set6 rfl rfl rfl rfl rfl rfl
      · have e0 : decide (((i : Nat) : Int) > 0) = true := decide_eq_true (by omega)
        have hw2 : IntKind.i64.wrap ((i : Int) - 1) = ((i - 1 : Nat) : Int) := by rw [Go.IntWalk.i64_in _ (by omega)]; omega
        obtain ⟨y, hy⟩ : ∃ y, K[i - 1]? = some y := ⟨_, List.getElem?_eq_getElem (by omega)⟩
        have kv2 : (KV 2 K)[i - 1]? = some (y, 2) := by simp [KV, hy]
        have hyz : y < z := by
          have h1 := List.pairwise_iff_getElem.1 hup (i - 1) i (by simp [KV]; omega) (by simp [KV]; omega) (by omega)
          have h2 := (List.getElem?_eq_some_iff.1 kv2).2
          have h3 := (List.getElem?_eq_some_iff.1 (kv 2)).2
          rw [h2, h3] at h1
          exact h1
        have b60 : nth (flat pairV (KV 2 K) ++ jk6) (0 + (IntKind.i64.wrap (((i : Nat) : Int) - 1)).toNat * 2 + 0) = some (I y) := by
          have e : 0 + (IntKind.i64.wrap (((i : Nat) : Int) - 1)).toNat * 2 + 0 = (i - 1) * 2 + 0 := by rw [hw2]; simp
          rw [e]; exact (nth_flat pair_len kv2 (by omega) jk6).trans rfl
        have e3 : decide (z ≤ y) = false := decide_eq_false (by omega)
        repeat' (first
          | refine WpC.seq ?_
          | refine WpC.region ?_
          | refine WpC.drawn ?_
          | refine WpC.skip ?_
          | refine WpC.block ?_
          | refine WpC.exit ?_
          | refine WpC.ret ?_
          | refine WpO.nil ?_
          | refine WpO.cons rfl rfl (WpX.pure (fun _ => rfl) ⟨nolog, ?_⟩)
          | refine WpO.skip rfl rfl ?_
          | refine WpL.cons rfl rfl (WpX.pure (fun _ => rfl) ⟨nolog, ?_⟩)
          | refine WpL.skip rfl rfl ?_
          | refine seqQ_normal ?_
          | refine seqQ_ret ?_
          | refine seqQ_exit ?_
          | refine blkQ_normal ?_
          | refine blkQ_ret ?_
          | refine blkQ_out rfl ?_
          | refine blkQ_by rfl ?_
          | refine WpO.cons rfl rfl (op_indexAddr (k := 2) rfl rfl rfl rfl ⟨by omega, by omega⟩ ⟨(by simp [InL, Acc.name, rowName] <;> omega), ?_⟩)
          | refine WpL.cons rfl rfl (op_indexAddr (k := 2) rfl rfl rfl rfl ⟨by omega, by omega⟩ ⟨(by simp [InL, Acc.name, rowName] <;> omega), ?_⟩)
          | refine WpO.cons rfl rfl (op_load rfl rfl rfl g6 a60 ⟨(by simp [InL, Acc.name, rowName] <;> omega), ?_⟩)
          | refine WpL.cons rfl rfl (op_load rfl rfl rfl g6 a60 ⟨(by simp [InL, Acc.name, rowName] <;> omega), ?_⟩)
          | refine WpO.cons rfl rfl (op_load rfl rfl rfl g7 a70 ⟨(by simp [InL, Acc.name, rowName] <;> omega), ?_⟩)
          | refine WpL.cons rfl rfl (op_load rfl rfl rfl g7 a70 ⟨(by simp [InL, Acc.name, rowName] <;> omega), ?_⟩))
        simp only [bne_self_eq_false]
        repeat' (first
          | refine WpC.seq ?_
          | refine WpC.region ?_
          | refine WpC.drawn ?_
          | refine WpC.skip ?_
          | refine WpC.block ?_
          | refine WpC.exit ?_
          | refine WpC.ret ?_
          | refine WpO.nil ?_
          | refine WpO.cons rfl rfl (WpX.pure (fun _ => rfl) ⟨nolog, ?_⟩)
          | refine WpO.skip rfl rfl ?_
          | refine WpL.cons rfl rfl (WpX.pure (fun _ => rfl) ⟨nolog, ?_⟩)
          | refine WpL.skip rfl rfl ?_
          | refine seqQ_normal ?_
          | refine seqQ_ret ?_
          | refine seqQ_exit ?_
          | refine blkQ_normal ?_
          | refine blkQ_ret ?_
          | refine blkQ_out rfl ?_
          | refine blkQ_by rfl ?_
          | refine WpO.cons rfl rfl (op_indexAddr (k := 2) rfl rfl rfl rfl ⟨by omega, by omega⟩ ⟨(by simp [InL, Acc.name, rowName] <;> omega), ?_⟩)
          | refine WpL.cons rfl rfl (op_indexAddr (k := 2) rfl rfl rfl rfl ⟨by omega, by omega⟩ ⟨(by simp [InL, Acc.name, rowName] <;> omega), ?_⟩)
          | refine WpO.cons rfl rfl (op_load rfl rfl rfl g6 a61 ⟨(by simp [InL, Acc.name, rowName] <;> omega), ?_⟩)
          | refine WpL.cons rfl rfl (op_load rfl rfl rfl g6 a61 ⟨(by simp [InL, Acc.name, rowName] <;> omega), ?_⟩)
          | refine WpO.cons rfl rfl (op_load rfl rfl rfl g7 a71 ⟨(by simp [InL, Acc.name, rowName] <;> omega), ?_⟩)
          | refine WpL.cons rfl rfl (op_load rfl rfl rfl g7 a71 ⟨(by simp [InL, Acc.name, rowName] <;> omega), ?_⟩))
        simp only [e0]
        repeat' (first
          | refine WpC.seq ?_
          | refine WpC.region ?_
          | refine WpC.drawn ?_
          | refine WpC.skip ?_
          | refine WpC.block ?_
          | refine WpC.exit ?_
          | refine WpC.ret ?_
          | refine WpO.nil ?_
          | refine WpO.cons rfl rfl (WpX.pure (fun _ => rfl) ⟨nolog, ?_⟩)
          | refine WpO.skip rfl rfl ?_
          | refine WpL.cons rfl rfl (WpX.pure (fun _ => rfl) ⟨nolog, ?_⟩)
          | refine WpL.skip rfl rfl ?_
          | refine seqQ_normal ?_
          | refine seqQ_ret ?_
          | refine seqQ_exit ?_
          | refine blkQ_normal ?_
          | refine blkQ_ret ?_
          | refine blkQ_out rfl ?_
          | refine blkQ_by rfl ?_
          | refine WpO.cons rfl rfl (op_indexAddr (k := 2) rfl rfl rfl rfl ⟨by omega, by omega⟩ ⟨(by simp [InL, Acc.name, rowName] <;> omega), ?_⟩)
          | refine WpL.cons rfl rfl (op_indexAddr (k := 2) rfl rfl rfl rfl ⟨by omega, by omega⟩ ⟨(by simp [InL, Acc.name, rowName] <;> omega), ?_⟩)
          | refine WpO.cons rfl rfl (op_indexAddr (k := 2) rfl rfl rfl rfl ⟨by rw [hw2]; omega, by rw [hw2]; omega⟩ ⟨(by simp [InL, Acc.name, rowName] <;> omega), ?_⟩)
          | refine WpL.cons rfl rfl (op_indexAddr (k := 2) rfl rfl rfl rfl ⟨by rw [hw2]; omega, by rw [hw2]; omega⟩ ⟨(by simp [InL, Acc.name, rowName] <;> omega), ?_⟩)
          | refine WpO.cons rfl rfl (op_load rfl rfl rfl g6 a60 ⟨(by simp [InL, Acc.name, rowName] <;> omega), ?_⟩)
          | refine WpL.cons rfl rfl (op_load rfl rfl rfl g6 a60 ⟨(by simp [InL, Acc.name, rowName] <;> omega), ?_⟩)
          | refine WpO.cons rfl rfl (op_load rfl rfl rfl g6 b60 ⟨(by simp [InL, Acc.name, rowName] <;> omega), ?_⟩)
          | refine WpL.cons rfl rfl (op_load rfl rfl rfl g6 b60 ⟨(by simp [InL, Acc.name, rowName] <;> omega), ?_⟩))
        simp only [e3]
        repeat' (first
          | refine WpC.seq ?_
          | refine WpC.region ?_
          | refine WpC.drawn ?_
          | refine WpC.skip ?_
          | refine WpC.block ?_
          | refine WpC.exit ?_
          | refine WpC.ret ?_
          | refine WpO.nil ?_
          | refine WpO.cons rfl rfl (WpX.pure (fun _ => rfl) ⟨nolog, ?_⟩)
          | refine WpO.skip rfl rfl ?_
          | refine WpL.cons rfl rfl (WpX.pure (fun _ => rfl) ⟨nolog, ?_⟩)
          | refine WpL.skip rfl rfl ?_
          | refine seqQ_normal ?_
          | refine seqQ_ret ?_
          | refine seqQ_exit ?_
          | refine blkQ_normal ?_
          | refine blkQ_ret ?_
          | refine blkQ_out rfl ?_
          | refine blkQ_by rfl ?_)
        refine WpL.nil (logsOk_reads (by simp only [List.nil_append, List.cons_append, anyWrite, List.any_nil, List.any_cons, accw_rd, Bool.or_self])) ?_
        refine WpC.cond rfl (fun hb => by cases hb) (fun _ => ?_)
        repeat' (first
          | refine WpC.seq ?_
          | refine WpC.region ?_
          | refine WpC.drawn ?_
          | refine WpC.skip ?_
          | refine WpC.block ?_
          | refine WpC.exit ?_
          | refine WpC.ret ?_
          | refine WpO.nil ?_
          | refine WpO.cons rfl rfl (WpX.pure (fun _ => rfl) ⟨nolog, ?_⟩)
          | refine WpO.skip rfl rfl ?_
          | refine WpL.cons rfl rfl (WpX.pure (fun _ => rfl) ⟨nolog, ?_⟩)
          | refine WpL.skip rfl rfl ?_
          | refine seqQ_normal ?_
          | refine seqQ_ret ?_
          | refine seqQ_exit ?_
          | refine blkQ_normal ?_
          | refine blkQ_ret ?_
          | refine blkQ_out rfl ?_
          | refine blkQ_by rfl ?_)
        refine ⟨i + 1, by omega, ?_, by omega, rfl, rfl⟩
        rw [hw1]
        exact set6 rfl rfl rfl rfl rfl rfl
    · rintro e h' c' ⟨⟨b0, rfl⟩, rfl, rfl⟩
      repeat' (first
        | refine WpC.seq ?_
        | refine WpC.region ?_
        | refine WpC.drawn ?_
        | refine WpC.skip ?_
        | refine WpC.block ?_
        | refine WpC.exit ?_
        | refine WpC.ret ?_
        | refine WpO.nil ?_
        | refine WpO.cons rfl rfl (WpX.pure (fun _ => rfl) ⟨nolog, ?_⟩)
        | refine WpO.skip rfl rfl ?_
        | refine WpL.cons rfl rfl (WpX.pure (fun _ => rfl) ⟨nolog, ?_⟩)
        | refine WpL.skip rfl rfl ?_
        | refine seqQ_normal ?_
        | refine seqQ_ret ?_
        | refine seqQ_exit ?_
        | refine blkQ_normal ?_
        | refine blkQ_ret ?_
        | refine blkQ_out rfl ?_
        | refine blkQ_by rfl ?_)
      refine WpO.cons rfl rfl (call_at rfl (in_ok B7.ta) (fun n hn => lo1 n (by simp at hn ⊢; omega)) (by omega) fun v h8 c8 hc8 hfr8 hq8 => ?_)
      obtain ⟨l8, s8, _⟩ := hq8
      have B8 := B7.keep hc8 s8
      obtain ⟨w8, cap8, rfl, _⟩ := l8.shape
      repeat' (first
        | refine WpC.seq ?_
        | refine WpC.region ?_
        | refine WpC.drawn ?_
        | refine WpC.skip ?_
        | refine WpC.block ?_
        | refine WpC.exit ?_
        | refine WpC.ret ?_
        | refine WpO.nil ?_
        | refine WpO.cons rfl rfl (WpX.pure (fun _ => rfl) ⟨nolog, ?_⟩)
        | refine WpO.skip rfl rfl ?_
        | refine WpL.cons rfl rfl (WpX.pure (fun _ => rfl) ⟨nolog, ?_⟩)
        | refine WpL.skip rfl rfl ?_
        | refine seqQ_normal ?_
        | refine seqQ_ret ?_
        | refine seqQ_exit ?_
        | refine blkQ_normal ?_
        | refine blkQ_ret ?_
        | refine blkQ_out rfl ?_
        | refine blkQ_by rfl ?_
        | refine WpO.cons rfl rfl (op_len rfl rfl rfl ⟨(by simp [InL, Acc.name, rowName] <;> omega), ?_⟩)
        | refine WpL.cons rfl rfl (op_len rfl rfl rfl ⟨(by simp [InL, Acc.name, rowName] <;> omega), ?_⟩))
      refine WpO.cons rfl rfl (call_at rfl (out_ok B8.tb) (fun n hn => lo2 n (by simp at hn ⊢; omega)) (by omega) fun v h9 c9 hc9 hfr9 hq9 => ?_)
      obtain ⟨l9, s9, _⟩ := hq9
      have B9 := B8.keep hc9 s9
      obtain ⟨w9, cap9, rfl, _⟩ := l9.shape
      repeat' (first
        | refine WpC.seq ?_
        | refine WpC.region ?_
        | refine WpC.drawn ?_
        | refine WpC.skip ?_
        | refine WpC.block ?_
        | refine WpC.exit ?_
        | refine WpC.ret ?_
        | refine WpO.nil ?_
        | refine WpO.cons rfl rfl (WpX.pure (fun _ => rfl) ⟨nolog, ?_⟩)
        | refine WpO.skip rfl rfl ?_
        | refine WpL.cons rfl rfl (WpX.pure (fun _ => rfl) ⟨nolog, ?_⟩)
        | refine WpL.skip rfl rfl ?_
        | refine seqQ_normal ?_
        | refine seqQ_ret ?_
        | refine seqQ_exit ?_
        | refine blkQ_normal ?_
        | refine blkQ_ret ?_
        | refine blkQ_out rfl ?_
        | refine blkQ_by rfl ?_
        | refine WpO.cons rfl rfl (op_len rfl rfl rfl ⟨(by simp [InL, Acc.name, rowName] <;> omega), ?_⟩)
        | refine WpL.cons rfl rfl (op_len rfl rfl rfl ⟨(by simp [InL, Acc.name, rowName] <;> omega), ?_⟩))
      refine WpO.cons rfl rfl (call_at rfl (links_ok B9.ta) (fun n hn => lo1 n (by simp at hn ⊢; omega)) (by omega) fun v h10 c10 hc10 hfr10 hq10 => ?_)
      obtain ⟨l10, s10, _⟩ := hq10
      obtain ⟨w10, cap10, rfl, _⟩ := l10.shape
      cases lk
      ·
        repeat' (first
          | refine WpC.seq ?_
          | refine WpC.region ?_
          | refine WpC.drawn ?_
          | refine WpC.skip ?_
          | refine WpC.block ?_
          | refine WpC.exit ?_
          | refine WpC.ret ?_
          | refine WpO.nil ?_
          | refine WpO.cons rfl rfl (WpX.pure (fun _ => rfl) ⟨nolog, ?_⟩)
          | refine WpO.skip rfl rfl ?_
          | refine WpL.cons rfl rfl (WpX.pure (fun _ => rfl) ⟨nolog, ?_⟩)
          | refine WpL.skip rfl rfl ?_
          | refine seqQ_normal ?_
          | refine seqQ_ret ?_
          | refine seqQ_exit ?_
          | refine blkQ_normal ?_
          | refine blkQ_ret ?_
          | refine blkQ_out rfl ?_
          | refine blkQ_by rfl ?_
          | refine WpO.cons rfl rfl (op_len rfl rfl rfl ⟨(by simp [InL, Acc.name, rowName] <;> omega), ?_⟩)
          | refine WpL.cons rfl rfl (op_len rfl rfl rfl ⟨(by simp [InL, Acc.name, rowName] <;> omega), ?_⟩))
        exact out_ret rfl rfl
      ·
        repeat' (first
          | refine WpC.seq ?_
          | refine WpC.region ?_
          | refine WpC.drawn ?_
          | refine WpC.skip ?_
          | refine WpC.block ?_
          | refine WpC.exit ?_
          | refine WpC.ret ?_
          | refine WpO.nil ?_
          | refine WpO.cons rfl rfl (WpX.pure (fun _ => rfl) ⟨nolog, ?_⟩)
          | refine WpO.skip rfl rfl ?_
          | refine WpL.cons rfl rfl (WpX.pure (fun _ => rfl) ⟨nolog, ?_⟩)
          | refine WpL.skip rfl rfl ?_
          | refine seqQ_normal ?_
          | refine seqQ_ret ?_
          | refine seqQ_exit ?_
          | refine blkQ_normal ?_
          | refine blkQ_ret ?_
          | refine blkQ_out rfl ?_
          | refine blkQ_by rfl ?_
          | refine WpO.cons rfl rfl (op_len rfl rfl rfl ⟨(by simp [InL, Acc.name, rowName] <;> omega), ?_⟩)
          | refine WpL.cons rfl rfl (op_len rfl rfl rfl ⟨(by simp [InL, Acc.name, rowName] <;> omega), ?_⟩))
        exact out_ret rfl rfl
theorem both_walk {T : Type} {ds : List (DataW T)} : ∀ (h : HH) (c : Nat) (xs : List V), ArgsR Try.prog h c [22] xs ds → Clear h c → WpX (cl 9 xs) h c fun v _ _ _ => v = .bool true := by
  intro h c xs r _
  cases r with
  | cons a ha r =>
    cases r
    obtain ⟨zs, hl, hz⟩ := a.ints (e := 5) (k := .u8) rfl rfl (ha.trans rfl)
    refine WpX.mono (both_law hl fun z hzz => ?_) fun v h' c' l q => q.2.2.2
    have e := (Lit.wf_int_iff _ _).1 (hz z hzz)
    have h1 : IntKind.min .u8 = 0 := rfl
    have h2 : IntKind.max .u8 = 255 := rfl
    omega
end Go.Proofs.Ytempfmkicpifkaa.Ti
