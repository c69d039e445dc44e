/- TiesPlays: the law. -/
import Derived.Test.YtempfmkicpifkaaTi8W
set_option linter.unusedVariables false
set_option linter.unusedSectionVars false
set_option linter.unusedSimpArgs false
set_option linter.unnecessarySimpa false
namespace Go.Proofs.Ytempfmkicpifkaa.Ti
open Go.Ab
set_option maxRecDepth 10000
theorem set7 {X : EE} {k0 k1 k2 k3 k4 k5 k6 : Nat} {v0 v1 v2 v3 v4 v5 v6 : V} (h0 : X k0 = some v0) (h1 : X k1 = some v1) (h2 : X k2 = some v2) (h3 : X k3 = some v3) (h4 : X k4 = some v4) (h5 : X k5 = some v5) (h6 : X k6 = some v6) :
    ∃ b, X = MapI.set (MapI.set (MapI.set (MapI.set (MapI.set (MapI.set (MapI.set b k0 v0) k1 v1) k2 v2) k3 v3) k4 v4) k5 v5) k6 v6 :=
  ⟨X, by rw [FM.add h0, FM.add h1, FM.add h2, FM.add h3, FM.add h4, FM.add h5, FM.add h6]⟩
theorem set6 {X : EE} {k0 k1 k2 k3 k4 k5 : Nat} {v0 v1 v2 v3 v4 v5 : V} (h0 : X k0 = some v0) (h1 : X k1 = some v1) (h2 : X k2 = some v2) (h3 : X k3 = some v3) (h4 : X k4 = some v4) (h5 : X k5 = some v5) :
    ∃ b, X = MapI.set (MapI.set (MapI.set (MapI.set (MapI.set (MapI.set b k0 v0) k1 v1) k2 v2) k3 v3) k4 v4) k5 v5 :=
  ⟨X, by rw [FM.add h0, FM.add h1, FM.add h2, FM.add h3, FM.add h4, FM.add h5]⟩
/-- The ties beside the reference's rows. -/
structure PU (h0 h : HH) (c0 c p a b d : Nat) (vl vo vn : V) (L : List (Int × Unit)) (O N : List (Int × Int)) (xl : List Int) (xo xn : List (Int × Int)) : Prop where
  ti : TiesAt h c p a b d L O N
  ll : ListOf 1 intV h c vl xl
  lo : ListOf 2 pairV h c vo xo
  ln : ListOf 2 pairV h c vn xn
  dis : ∀ n, n ∈ rowName vl ∨ n ∈ rowName vo ∨ n ∈ rowName vn → n ∉ [p, a, b, d]
  low : ∀ n, n ∈ [p, a, b, d] ∨ n ∈ rowName vl ∨ n ∈ rowName vo ∨ n ∈ rowName vn → c0 ≤ n
  old : ∀ n, n < c0 → MapI.get h n = MapI.get h0 n
variable {h0 h h' : HH} {c0 c c' p a b d : Nat} {vl vo vn vl' vo' vn' : V} {L L' : List (Int × Unit)} {O N O' N' : List (Int × Int)} {xl xl' : List Int} {xo xn xo' xn' : List (Int × Int)}
theorem PU.lt (B : PU h0 h c0 c p a b d vl vo vn L O N xl xo xn) : c0 < c := by
  have := B.ti.lt
  have := B.low p (.inl (by simp))
  omega
theorem PU.names (B : PU h0 h c0 c p a b d vl vo vn L O N xl xo xn) : ∀ n ∈ [p, a, b, d], n < c := fun n hn => by
  have := B.ti.lt
  simp at hn; omega
theorem PU.keep (B : PU h0 h c0 c p a b d vl vo vn L O N xl xo xn) (hc : c ≤ c') (e : ∀ n, n < c → MapI.get h' n = MapI.get h n) : PU h0 h' c0 c' p a b d vl vo vn L O N xl xo xn :=
  ⟨B.ti.keep hc fun n hn => e n (B.names n hn), B.ll.keep hc fun n hn _ => e n hn, B.lo.keep hc fun n hn _ => e n hn, B.ln.keep hc fun n hn _ => e n hn, B.dis, B.low, fun n hn => by rw [e n (by have := B.lt; omega)]; exact B.old n hn⟩
theorem PU.ties (B : PU h0 h c0 c p a b d vl vo vn L O N xl xo xn) (t : TiesAt h' c' p a b d L' O' N') (hc : c ≤ c') (e : ∀ n, n < c → n ∉ [p, a, b, d] → MapI.get h' n = MapI.get h n) : PU h0 h' c0 c' p a b d vl vo vn L' O' N' xl xo xn :=
  ⟨t, B.ll.keep hc fun n hn hm => e n hn (B.dis n (.inl hm)), B.lo.keep hc fun n hn hm => e n hn (B.dis n (.inr (.inl hm))), B.ln.keep hc fun n hn hm => e n hn (B.dis n (.inr (.inr hm))), B.dis, B.low, fun n hn => by
    have := B.lt
    rw [e n (by omega) (fun hm => by have := B.low n (.inl hm); omega)]; exact B.old n hn⟩
theorem PU.setl (B : PU h0 h c0 c p a b d vl vo vn L O N xl xo xn) (r : ListOf 1 intV h c vl' xl') (hn : ∀ n ∈ rowName vl', n ∈ rowName vl ∨ (c0 ≤ n ∧ n ∉ [p, a, b, d])) : PU h0 h c0 c p a b d vl' vo vn L O N xl' xo xn :=
  ⟨B.ti, r, B.lo, B.ln, fun n hm => by
    rcases hm with h | h
    · rcases hn n h with h | h
      · exact B.dis n (.inl h)
      · exact h.2
    · exact B.dis n (.inr h), fun n hm => by
    rcases hm with h | h | h
    · exact B.low n (.inl h)
    · rcases hn n h with h | h
      · exact B.low n (.inr (.inl h))
      · exact h.1
    · exact B.low n (.inr (.inr h)), B.old⟩
theorem PU.seto (B : PU h0 h c0 c p a b d vl vo vn L O N xl xo xn) (r : ListOf 2 pairV h c vo' xo') (hn : ∀ n ∈ rowName vo', n ∈ rowName vo ∨ (c0 ≤ n ∧ n ∉ [p, a, b, d])) : PU h0 h c0 c p a b d vl vo' vn L O N xl xo' xn :=
  ⟨B.ti, B.ll, r, B.ln, fun n hm => by
    rcases hm with h | h | h
    · exact B.dis n (.inl h)
    · rcases hn n h with h | h
      · exact B.dis n (.inr (.inl h))
      · exact h.2
    · exact B.dis n (.inr (.inr h)), fun n hm => by
    rcases hm with h | h | h | h
    · exact B.low n (.inl h)
    · exact B.low n (.inr (.inl h))
    · rcases hn n h with h | h
      · exact B.low n (.inr (.inr (.inl h)))
      · exact h.1
    · exact B.low n (.inr (.inr (.inr h))), B.old⟩
theorem PU.setn (B : PU h0 h c0 c p a b d vl vo vn L O N xl xo xn) (r : ListOf 2 pairV h c vn' xn') (hn : ∀ n ∈ rowName vn', n ∈ rowName vn ∨ (c0 ≤ n ∧ n ∉ [p, a, b, d])) : PU h0 h c0 c p a b d vl vo vn' L O N xl xo xn' :=
  ⟨B.ti, B.ll, B.lo, r, fun n hm => by
    rcases hm with h | h | h
    · exact B.dis n (.inl h)
    · exact B.dis n (.inr (.inl h))
    · rcases hn n h with h | h
      · exact B.dis n (.inr (.inr h))
      · exact h.2, fun n hm => by
    rcases hm with h | h | h | h
    · exact B.low n (.inl h)
    · exact B.low n (.inr (.inl h))
    · exact B.low n (.inr (.inr (.inl h)))
    · rcases hn n h with h | h
      · exact B.low n (.inr (.inr (.inr h)))
      · exact h.1, B.old⟩
structure PT (h0 h : HH) (c0 c p a b d : Nat) (vl vo vn : V) (L : List (Int × Unit)) (O N : List (Int × Int)) (i : Nat) : Prop where
  u : PU h0 h c0 c p a b d vl vo vn L O N (L.map (·.1)) O N
  len : L.length ≤ i ∧ O.length ≤ i ∧ N.length ≤ i
theorem insG_len {β : Type} {x : Int × β} {S : List (Int × β)} : (insG x S).length = S.length + 1 := by
  have := (insG_perm (x := x) (l := S)).length_eq; simpa using this
theorem eraG_len {β : Type} {k : Int} {S : List (Int × β)} : (eraG k S).length ≤ S.length := eraG_sub.length_le
def deedV (x : Int × Int × Int) : List V := [I x.1, I x.2.1, I x.2.2]
theorem deed_len (x : Int × Int × Int) : (deedV x).length = 3 := rfl
abbrev FRP (b0 : EE) (l : V) (p : Nat) (vl vo vn : V) (i : Nat) : EE :=
  MapI.set (MapI.set (MapI.set (MapI.set (MapI.set (MapI.set b0 0 l) 3 (.ptr (some (p, 0)))) 4 vl) 5 vo) 6 vn) 7 (I i)
set_option maxHeartbeats 16000000 in
theorem plays_law {h : HH} {c : Nat} {l : V} {zs : List (Int × Int × Int)} (hl : RowArg h c l 3 zs.length (zs.map deedV).flatten) (hz : ∀ z ∈ zs, okK z.2.1 ∧ okK z.2.2) : Does 8 [l] h c (rowName l) fun v h' c' => v = .bool true := by
  refine does_of (enter (fn := Try.f8) Try.func8 rfl rfl (Nat.le_of_ble_eq_true rfl) ?_)
  repeat' (first
    | refine WpC.seq ?_
    | refine WpC.region ?_
    | refine WpC.drawn ?_
    | refine WpC.skip ?_
    | refine WpC.block ?_
    | refine WpC.exit ?_
    | refine WpC.ret ?_
    | refine WpO.nil ?_
    | refine WpO.cons rfl rfl (WpX.pure (fun _ => rfl) ⟨nolog, ?_⟩)
    | refine WpO.skip rfl rfl ?_
    | refine WpL.cons rfl rfl (WpX.pure (fun _ => rfl) ⟨nolog, ?_⟩)
    | refine WpL.skip rfl rfl ?_
    | refine seqQ_normal ?_
    | refine seqQ_ret ?_
    | refine seqQ_exit ?_
    | refine blkQ_normal ?_
    | refine blkQ_ret ?_
    | refine blkQ_out rfl ?_
    | refine blkQ_by rfl ?_)
  refine WpO.cons rfl rfl (call_at rfl (shut_ok rfl) (by simp) (Nat.le_refl _) fun v h1 c1 hc1 hfr1 hq => ?_)
  obtain ⟨rfl, rfl, rfl⟩ := hq
  repeat' (first
    | refine WpC.seq ?_
    | refine WpC.region ?_
    | refine WpC.drawn ?_
    | refine WpC.skip ?_
    | refine WpC.block ?_
    | refine WpC.exit ?_
    | refine WpC.ret ?_
    | refine WpO.nil ?_
    | refine WpO.cons rfl rfl (WpX.pure (fun _ => rfl) ⟨nolog, ?_⟩)
    | refine WpO.skip rfl rfl ?_
    | refine WpL.cons rfl rfl (WpX.pure (fun _ => rfl) ⟨nolog, ?_⟩)
    | refine WpL.skip rfl rfl ?_
    | refine seqQ_normal ?_
    | refine seqQ_ret ?_
    | refine seqQ_exit ?_
    | refine blkQ_normal ?_
    | refine blkQ_ret ?_
    | refine blkQ_out rfl ?_
    | refine blkQ_by rfl ?_)
  refine WpC.cond rfl (fun hb => by cases hb) (fun _ => ?_)
  obtain ⟨s, cap, rfl, hs⟩ : ∃ a cap, l = .slice a zs.length cap ∧ (∀ i, i < zs.length → ∃ s, a = some (s, 0) ∧ s < c1 ∧ MapI.get h1 s = some (.cells false false (flat deedV zs ++ []))) := by
    rcases hl.is with ⟨rfl, hz⟩ | ⟨s, cap, rfl, h1, _, _, h2⟩
    · exact ⟨none, .known 0, by rw [hz], fun i hi => by omega⟩
    · exact ⟨_, .known cap, rfl, fun i hi => ⟨s, rfl, h1, by rw [List.append_nil]; exact h2 (by omega)⟩⟩
  repeat' (first
    | refine WpC.seq ?_
    | refine WpC.region ?_
    | refine WpC.drawn ?_
    | refine WpC.skip ?_
    | refine WpC.block ?_
    | refine WpC.exit ?_
    | refine WpC.ret ?_
    | refine WpO.nil ?_
    | refine WpO.cons rfl rfl (WpX.pure (fun _ => rfl) ⟨nolog, ?_⟩)
    | refine WpO.skip rfl rfl ?_
    | refine WpL.cons rfl rfl (WpX.pure (fun _ => rfl) ⟨nolog, ?_⟩)
    | refine WpL.skip rfl rfl ?_
    | refine seqQ_normal ?_
    | refine seqQ_ret ?_
    | refine seqQ_exit ?_
    | refine blkQ_normal ?_
    | refine blkQ_ret ?_
    | refine blkQ_out rfl ?_
    | refine blkQ_by rfl ?_
    | refine WpO.cons rfl rfl (op_len rfl rfl rfl ⟨(by simp [InL, Acc.name, rowName] <;> omega), ?_⟩)
    | refine WpL.cons rfl rfl (op_len rfl rfl rfl ⟨(by simp [InL, Acc.name, rowName] <;> omega), ?_⟩))
  refine WpC.cond rfl (fun _ => ?_) (fun hn => ?_)
  ·
    repeat' (first
      | refine WpC.seq ?_
      | refine WpC.region ?_
      | refine WpC.drawn ?_
      | refine WpC.skip ?_
      | refine WpC.block ?_
      | refine WpC.exit ?_
      | refine WpC.ret ?_
      | refine WpO.nil ?_
      | refine WpO.cons rfl rfl (WpX.pure (fun _ => rfl) ⟨nolog, ?_⟩)
      | refine WpO.skip rfl rfl ?_
      | refine WpL.cons rfl rfl (WpX.pure (fun _ => rfl) ⟨nolog, ?_⟩)
      | refine WpL.skip rfl rfl ?_
      | refine seqQ_normal ?_
      | refine seqQ_ret ?_
      | refine seqQ_exit ?_
      | refine blkQ_normal ?_
      | refine blkQ_ret ?_
      | refine blkQ_out rfl ?_
      | refine blkQ_by rfl ?_)
    exact out_ret rfl rfl
  have hlen : (zs.length : Int) ≤ 120 := by simpa using hn
  repeat' (first
    | refine WpC.seq ?_
    | refine WpC.region ?_
    | refine WpC.drawn ?_
    | refine WpC.skip ?_
    | refine WpC.block ?_
    | refine WpC.exit ?_
    | refine WpC.ret ?_
    | refine WpO.nil ?_
    | refine WpO.cons rfl rfl (WpX.pure (fun _ => rfl) ⟨nolog, ?_⟩)
    | refine WpO.skip rfl rfl ?_
    | refine WpL.cons rfl rfl (WpX.pure (fun _ => rfl) ⟨nolog, ?_⟩)
    | refine WpL.skip rfl rfl ?_
    | refine seqQ_normal ?_
    | refine seqQ_ret ?_
    | refine seqQ_exit ?_
    | refine blkQ_normal ?_
    | refine blkQ_ret ?_
    | refine blkQ_out rfl ?_
    | refine blkQ_by rfl ?_)
  refine WpO.cons rfl rfl (call_at rfl new_ok (by simp) (by omega) fun v h2 c2 hc2 hfr2 hq => ?_)
  obtain ⟨p, a, b, d, rfl, q1, q2, q3, q4, ti⟩ := hq
  repeat' (first
    | refine WpC.seq ?_
    | refine WpC.region ?_
    | refine WpC.drawn ?_
    | refine WpC.skip ?_
    | refine WpC.block ?_
    | refine WpC.exit ?_
    | refine WpC.ret ?_
    | refine WpO.nil ?_
    | refine WpO.cons rfl rfl (WpX.pure (fun _ => rfl) ⟨nolog, ?_⟩)
    | refine WpO.skip rfl rfl ?_
    | refine WpL.cons rfl rfl (WpX.pure (fun _ => rfl) ⟨nolog, ?_⟩)
    | refine WpL.skip rfl rfl ?_
    | refine seqQ_normal ?_
    | refine seqQ_ret ?_
    | refine seqQ_exit ?_
    | refine blkQ_normal ?_
    | refine blkQ_ret ?_
    | refine blkQ_out rfl ?_
    | refine blkQ_by rfl ?_)
  refine WpC.cond rfl (fun hb => by cases hb) (fun _ => ?_)
  have start : PT h1 h2 c1 c2 p a b d (.slice none 0 (.known 0)) (.slice none 0 (.known 0)) (.slice none 0 (.known 0)) [] [] [] 0 :=
    ⟨⟨ti, .nil, .nil, .nil, fun n hn => (by rcases hn with h | h | h <;> cases h), fun n hn => (by
      rcases hn with h | h | h | h
      · simp at h; omega
      · cases h
      · cases h
      · cases h), fun n hn => hfr2 n hn (by simp)⟩, by simp⟩
  repeat' (first
    | refine WpC.seq ?_
    | refine WpC.region ?_
    | refine WpC.drawn ?_
    | refine WpC.skip ?_
    | refine WpC.block ?_
    | refine WpC.exit ?_
    | refine WpC.ret ?_
    | refine WpO.nil ?_
    | refine WpO.cons rfl rfl (WpX.pure (fun _ => rfl) ⟨nolog, ?_⟩)
    | refine WpO.skip rfl rfl ?_
    | refine WpL.cons rfl rfl (WpX.pure (fun _ => rfl) ⟨nolog, ?_⟩)
    | refine WpL.skip rfl rfl ?_
    | refine seqQ_normal ?_
    | refine seqQ_ret ?_
    | refine seqQ_exit ?_
    | refine blkQ_normal ?_
    | refine blkQ_ret ?_
    | refine blkQ_out rfl ?_
    | refine blkQ_by rfl ?_)
  refine WpC.loop ?_
  refine WpLoop.ind (X := Nat × V × V × V × List (Int × Unit) × List (Int × Int) × List (Int × Int)) (fun x e h' c' => (∃ b0, e = FRP b0 (.slice s zs.length cap) p x.2.1 x.2.2.1 x.2.2.2.1 x.1) ∧ x.1 ≤ zs.length ∧ PT h1 h' c1 c' p a b d x.2.1 x.2.2.1 x.2.2.2.1 x.2.2.2.2.1 x.2.2.2.2.2.1 x.2.2.2.2.2.2 x.1)
    (fun x => zs.length - x.1) ?_ (0, .slice none 0 (.known 0), .slice none 0 (.known 0), .slice none 0 (.known 0), [], [], []) _ _ _ ⟨set6 rfl rfl rfl rfl rfl rfl, Nat.zero_le _, start⟩
  rintro ⟨i, vl, vo, vn, L, O, N⟩ e h' c' ⟨⟨b0, rfl⟩, hi, B⟩
  simp only at hi B
  repeat' (first
    | refine WpC.seq ?_
    | refine WpC.region ?_
    | refine WpC.drawn ?_
    | refine WpC.skip ?_
    | refine WpC.block ?_
    | refine WpC.exit ?_
    | refine WpC.ret ?_
    | refine WpO.nil ?_
    | refine WpO.cons rfl rfl (WpX.pure (fun _ => rfl) ⟨nolog, ?_⟩)
    | refine WpO.skip rfl rfl ?_
    | refine WpL.cons rfl rfl (WpX.pure (fun _ => rfl) ⟨nolog, ?_⟩)
    | refine WpL.skip rfl rfl ?_
    | refine seqQ_normal ?_
    | refine seqQ_ret ?_
    | refine seqQ_exit ?_
    | refine blkQ_normal ?_
    | refine blkQ_ret ?_
    | refine blkQ_out rfl ?_
    | refine blkQ_by rfl ?_
    | refine WpO.cons rfl rfl (op_len rfl rfl rfl ⟨(by simp [InL, Acc.name, rowName] <;> omega), ?_⟩)
    | refine WpL.cons rfl rfl (op_len rfl rfl rfl ⟨(by simp [InL, Acc.name, rowName] <;> omega), ?_⟩))
  refine WpC.cond rfl (fun hlt => ?_) (fun hge => ?_)
  case refine_2 =>
    repeat' (first
      | refine WpC.seq ?_
      | refine WpC.region ?_
      | refine WpC.drawn ?_
      | refine WpC.skip ?_
      | refine WpC.block ?_
      | refine WpC.exit ?_
      | refine WpC.ret ?_
      | refine WpO.nil ?_
      | refine WpO.cons rfl rfl (WpX.pure (fun _ => rfl) ⟨nolog, ?_⟩)
      | refine WpO.skip rfl rfl ?_
      | refine WpL.cons rfl rfl (WpX.pure (fun _ => rfl) ⟨nolog, ?_⟩)
      | refine WpL.skip rfl rfl ?_
      | refine seqQ_normal ?_
      | refine seqQ_ret ?_
      | refine seqQ_exit ?_
      | refine blkQ_normal ?_
      | refine blkQ_ret ?_
      | refine blkQ_out rfl ?_
      | refine blkQ_by rfl ?_)
    exact out_ret rfl rfl
  have hlt : i < zs.length := by simpa using hlt
  obtain ⟨sn, rfl, hsn, hg⟩ := hs i hlt
  obtain ⟨⟨x, y, z⟩, hzz⟩ : ∃ z, zs[i]? = some z := ⟨_, List.getElem?_eq_getElem hlt⟩
  obtain ⟨oky, okz⟩ := hz _ (List.mem_of_getElem? hzz)
  simp only at oky okz
  have hg' : MapI.get h' sn = some (.cells false false (flat deedV zs ++ [])) := by rw [B.u.old sn hsn]; exact hg
  have hct : cut (flat deedV zs ++ []) (0 + ((i : Nat) : Int).toNat * 3) 3 = some [I x, I y, I z] := by
    have : 0 + ((i : Nat) : Int).toNat * 3 = i * 3 := by simp
    rw [this]; exact cut_flat deed_len hzz []
  obtain ⟨bl1, bl2, bl3⟩ := B.len
  have hcl := B.u.lt
  have hbx0 : ∀ w : AObj, MapI.get (MapI.set h' c' w) c' = some w := fun w => MapI.get_same _ _ _
  have hbx1 : ∀ w w' : AObj, MapI.get (MapI.set (MapI.set h' c' w) c' w') c' = some w' := fun w w' => MapI.get_same _ _ _
  have U1 := fun w w' : AObj => B.u.keep (h' := MapI.set (MapI.set h' c' w) c' w') (c' := c' + 1) (by omega) (fun n hn => by rw [MapI.get_ne _ _ _ _ (by omega), MapI.get_ne _ _ _ _ (by omega)])
  have hnm := B.u.names
  have hwi : IntKind.i64.wrap ((i : Int) + 1) = ((i + 1 : Nat) : Int) := by rw [Go.IntWalk.i64_in _ (by omega)]; omega
  let MB : EE → HH → Nat → Prop := fun e h'' c'' => (∃ b0, e = MapI.set (FRP b0 (.slice (some (sn, 0)) zs.length cap) p vl vo vn i) 8 (V.ptr (some (c', 0)))) ∧ PU h1 h'' c1 c'' p a b d vl vo vn L O N (L.map (·.1)) O N ∧ MapI.get h'' c' = some (.cells true true [I x, I y, I z]) ∧ c' < c''
  let M : EE → HH → Nat → Prop := fun e h'' c'' => ∃ L' O' N' vl' vo' vn', (∃ b0, e = MapI.set (FRP b0 (.slice (some (sn, 0)) zs.length cap) p vl' vo' vn' i) 9 (V.bool true)) ∧ PT h1 h'' c1 c'' p a b d vl' vo' vn' L' O' N' (i + 1)
  repeat' (first
    | refine WpC.seqI (a := Code.region 13 _ _) MB ?_ ?_
    | refine WpC.seq ?_
    | refine WpC.region ?_
    | refine WpC.drawn ?_
    | refine WpC.skip ?_
    | refine WpC.block ?_
    | refine WpC.exit ?_
    | refine WpC.ret ?_
    | refine WpO.nil ?_
    | refine WpO.cons rfl rfl (WpX.pure (fun _ => rfl) ⟨nolog, ?_⟩)
    | refine WpO.skip rfl rfl ?_
    | refine WpL.cons rfl rfl (WpX.pure (fun _ => rfl) ⟨nolog, ?_⟩)
    | refine WpL.skip rfl rfl ?_
    | refine seqQ_normal ?_
    | refine seqQ_ret ?_
    | refine seqQ_exit ?_
    | refine blkQ_normal ?_
    | refine blkQ_ret ?_
    | refine blkQ_out rfl ?_
    | refine blkQ_by rfl ?_
    | refine WpO.cons rfl rfl (op_indexAddr (k := 3) rfl rfl rfl rfl ⟨by omega, by omega⟩ ⟨(by simp [InL, Acc.name, rowName] <;> omega), ?_⟩)
    | refine WpL.cons rfl rfl (op_indexAddr (k := 3) rfl rfl rfl rfl ⟨by omega, by omega⟩ ⟨(by simp [InL, Acc.name, rowName] <;> omega), ?_⟩)
    | refine WpO.cons rfl rfl (op_loadA rfl rfl rfl rfl hg' hct ⟨(by simp [InL, Acc.name, rowName] <;> omega), ?_⟩)
    | refine WpL.cons rfl rfl (op_loadA rfl rfl rfl rfl hg' hct ⟨(by simp [InL, Acc.name, rowName] <;> omega), ?_⟩)
    | refine WpO.cons rfl rfl (op_alloc rfl ⟨(by simp [InL, Acc.name, rowName] <;> omega), ?_⟩)
    | refine WpL.cons rfl rfl (op_alloc rfl ⟨(by simp [InL, Acc.name, rowName] <;> omega), ?_⟩)
    | refine WpO.cons rfl rfl (op_store (k := 3) rfl rfl rfl rfl (hbx0 _) (Nat.le_of_ble_eq_true rfl) rfl ⟨(by simp [InL, Acc.name, rowName] <;> omega), ?_⟩)
    | refine WpL.cons rfl rfl (op_store (k := 3) rfl rfl rfl rfl (hbx0 _) (Nat.le_of_ble_eq_true rfl) rfl ⟨(by simp [InL, Acc.name, rowName] <;> omega), ?_⟩))
  · exact ⟨set7 rfl rfl rfl rfl rfl rfl rfl, U1 _ _, hbx1 _ _, by omega⟩
  · rintro e h'' c'' ⟨⟨b0, rfl⟩, U, hb, hq⟩
    have hq4 : c' ∉ [p, a, b, d] := fun hm => by have := hnm c' hm; omega
    have hlt2 := U.lt
    have hupL := U.ti.links.up
    have hupO := U.ti.out.up
    have hupN := U.ti.inn.up
    have lo1 : ∀ n ∈ [p, a, b, d], n ∈ rowName (V.slice (some (sn, 0)) zs.length cap) ∨ c1 ≤ n := fun n hn => .inr (U.low n (.inl hn))
    have hnm2 := U.names
    have fresh : ∀ {vx : V}, (∀ n ∈ rowName vx, c'' ≤ n) → ∀ (wx : V), ∀ n ∈ rowName vx, n ∈ rowName wx ∨ (c1 ≤ n ∧ n ∉ [p, a, b, d]) := fun hv wx n hn => .inr ⟨by have := hv n hn; omega, fun hm => by have := hv n hn; have := hnm2 n hm; omega⟩
    repeat' (first
      | refine WpC.seqI (a := Code.block 2 _) M ?_ ?_
      | refine WpC.seq ?_
      | refine WpC.region ?_
      | refine WpC.drawn ?_
      | refine WpC.skip ?_
      | refine WpC.block ?_
      | refine WpC.exit ?_
      | refine WpC.ret ?_
      | refine WpO.nil ?_
      | refine WpO.cons rfl rfl (WpX.pure (fun _ => rfl) ⟨nolog, ?_⟩)
      | refine WpO.skip rfl rfl ?_
      | refine WpL.cons rfl rfl (WpX.pure (fun _ => rfl) ⟨nolog, ?_⟩)
      | refine WpL.skip rfl rfl ?_
      | refine seqQ_normal ?_
      | refine seqQ_ret ?_
      | refine seqQ_exit ?_
      | refine blkQ_normal ?_
      | refine blkQ_ret ?_
      | refine blkQ_out rfl ?_
      | refine blkQ_by rfl ?_
      | refine WpO.cons rfl rfl (op_load rfl rfl rfl hb rfl ⟨(by simp [InL, Acc.name, rowName] <;> omega), ?_⟩)
      | refine WpL.cons rfl rfl (op_load rfl rfl rfl hb rfl ⟨(by simp [InL, Acc.name, rowName] <;> omega), ?_⟩))
    · refine WpC.cond rfl (fun hc => ?_) (fun hc1 => ?_)
      · -- Link
        repeat' (first
          | refine WpC.seq ?_
          | refine WpC.region ?_
          | refine WpC.drawn ?_
          | refine WpC.skip ?_
          | refine WpC.block ?_
          | refine WpC.exit ?_
          | refine WpC.ret ?_
          | refine WpO.nil ?_
          | refine WpO.cons rfl rfl (WpX.pure (fun _ => rfl) ⟨nolog, ?_⟩)
          | refine WpO.skip rfl rfl ?_
          | refine WpL.cons rfl rfl (WpX.pure (fun _ => rfl) ⟨nolog, ?_⟩)
          | refine WpL.skip rfl rfl ?_
          | refine seqQ_normal ?_
          | refine seqQ_ret ?_
          | refine seqQ_exit ?_
          | refine blkQ_normal ?_
          | refine blkQ_ret ?_
          | refine blkQ_out rfl ?_
          | refine blkQ_by rfl ?_
          | refine WpO.cons rfl rfl (op_load rfl rfl rfl hb rfl ⟨(by simp [InL, Acc.name, rowName] <;> omega), ?_⟩)
          | refine WpL.cons rfl rfl (op_load rfl rfl rfl hb rfl ⟨(by simp [InL, Acc.name, rowName] <;> omega), ?_⟩))
        refine WpO.cons rfl rfl (call_at rfl (radd_ok (k := z) U.ll hupL (by omega)) (fun n hn => .inr (U.low n (.inr (.inl hn)))) (by omega) fun v h4 c4 hc4 hfr4 hq4' => ?_)
        rcases hq4' with ⟨hk, rfl, rfl, rfl⟩ | ⟨hk, v', rfl, hl', hn', hf'⟩
        ·
          repeat' (first
            | refine WpC.seq ?_
            | refine WpC.region ?_
            | refine WpC.drawn ?_
            | refine WpC.skip ?_
            | refine WpC.block ?_
            | refine WpC.exit ?_
            | refine WpC.ret ?_
            | refine WpO.nil ?_
            | refine WpO.cons rfl rfl (WpX.pure (fun _ => rfl) ⟨nolog, ?_⟩)
            | refine WpO.skip rfl rfl ?_
            | refine WpL.cons rfl rfl (WpX.pure (fun _ => rfl) ⟨nolog, ?_⟩)
            | refine WpL.skip rfl rfl ?_
            | refine seqQ_normal ?_
            | refine seqQ_ret ?_
            | refine seqQ_exit ?_
            | refine blkQ_normal ?_
            | refine blkQ_ret ?_
            | refine blkQ_out rfl ?_
            | refine blkQ_by rfl ?_
            | refine WpO.cons rfl rfl (op_load rfl rfl rfl hb rfl ⟨(by simp [InL, Acc.name, rowName] <;> omega), ?_⟩)
            | refine WpL.cons rfl rfl (op_load rfl rfl rfl hb rfl ⟨(by simp [InL, Acc.name, rowName] <;> omega), ?_⟩))
          refine WpO.cons rfl rfl (call_at rfl (link_ok (k := z) U.ti okz (by omega)) (fun n hn => lo1 n (by simp at hn ⊢; omega)) (by omega) fun v h5 c5 hc5 hfr5 hq5 => ?_)
          rcases hq5 with ⟨_, rfl, t⟩ | ⟨hx, _⟩
          rotate_left
          · exact absurd hx hk
          repeat' (first
            | refine WpC.seq ?_
            | refine WpC.region ?_
            | refine WpC.drawn ?_
            | refine WpC.skip ?_
            | refine WpC.block ?_
            | refine WpC.exit ?_
            | refine WpC.ret ?_
            | refine WpO.nil ?_
            | refine WpO.cons rfl rfl (WpX.pure (fun _ => rfl) ⟨nolog, ?_⟩)
            | refine WpO.skip rfl rfl ?_
            | refine WpL.cons rfl rfl (WpX.pure (fun _ => rfl) ⟨nolog, ?_⟩)
            | refine WpL.skip rfl rfl ?_
            | refine seqQ_normal ?_
            | refine seqQ_ret ?_
            | refine seqQ_exit ?_
            | refine blkQ_normal ?_
            | refine blkQ_ret ?_
            | refine blkQ_out rfl ?_
            | refine blkQ_by rfl ?_)
          exact ⟨L, O, N, vl, vo, vn, set7 rfl rfl rfl rfl rfl rfl rfl, ⟨U.ties t hc5 (fun n hn hm => hfr5 n hn (fun h => hm (by simp at h ⊢; omega))), by omega⟩⟩
        · have U4 := (U.keep hc4 hf').setl hl' (fresh hn' vl)
          have hb4 := (hf' c' hq).trans hb
          repeat' (first
            | refine WpC.seq ?_
            | refine WpC.region ?_
            | refine WpC.drawn ?_
            | refine WpC.skip ?_
            | refine WpC.block ?_
            | refine WpC.exit ?_
            | refine WpC.ret ?_
            | refine WpO.nil ?_
            | refine WpO.cons rfl rfl (WpX.pure (fun _ => rfl) ⟨nolog, ?_⟩)
            | refine WpO.skip rfl rfl ?_
            | refine WpL.cons rfl rfl (WpX.pure (fun _ => rfl) ⟨nolog, ?_⟩)
            | refine WpL.skip rfl rfl ?_
            | refine seqQ_normal ?_
            | refine seqQ_ret ?_
            | refine seqQ_exit ?_
            | refine blkQ_normal ?_
            | refine blkQ_ret ?_
            | refine blkQ_out rfl ?_
            | refine blkQ_by rfl ?_
            | refine WpO.cons rfl rfl (op_load rfl rfl rfl hb4 rfl ⟨(by simp [InL, Acc.name, rowName] <;> omega), ?_⟩)
            | refine WpL.cons rfl rfl (op_load rfl rfl rfl hb4 rfl ⟨(by simp [InL, Acc.name, rowName] <;> omega), ?_⟩))
          refine WpO.cons rfl rfl (call_at rfl (link_ok (k := z) U4.ti okz (by omega)) (fun n hn => lo1 n (by simp at hn ⊢; omega)) (by omega) fun v h5 c5 hc5 hfr5 hq5 => ?_)
          rcases hq5 with ⟨hx, _⟩ | ⟨_, rfl, t⟩
          · exact absurd hk hx
          repeat' (first
            | refine WpC.seq ?_
            | refine WpC.region ?_
            | refine WpC.drawn ?_
            | refine WpC.skip ?_
            | refine WpC.block ?_
            | refine WpC.exit ?_
            | refine WpC.ret ?_
            | refine WpO.nil ?_
            | refine WpO.cons rfl rfl (WpX.pure (fun _ => rfl) ⟨nolog, ?_⟩)
            | refine WpO.skip rfl rfl ?_
            | refine WpL.cons rfl rfl (WpX.pure (fun _ => rfl) ⟨nolog, ?_⟩)
            | refine WpL.skip rfl rfl ?_
            | refine seqQ_normal ?_
            | refine seqQ_ret ?_
            | refine seqQ_exit ?_
            | refine blkQ_normal ?_
            | refine blkQ_ret ?_
            | refine blkQ_out rfl ?_
            | refine blkQ_by rfl ?_)
          exact ⟨insG (z, ()) L, O, N, v', vo, vn, set7 rfl rfl rfl rfl rfl rfl rfl, ⟨U4.ties t hc5 (fun n hn hm => hfr5 n hn (fun h => hm (by simp at h ⊢; omega))), by rw [insG_len]; omega⟩⟩
      repeat' (first
        | refine WpC.seq ?_
        | refine WpC.region ?_
        | refine WpC.drawn ?_
        | refine WpC.skip ?_
        | refine WpC.block ?_
        | refine WpC.exit ?_
        | refine WpC.ret ?_
        | refine WpO.nil ?_
        | refine WpO.cons rfl rfl (WpX.pure (fun _ => rfl) ⟨nolog, ?_⟩)
        | refine WpO.skip rfl rfl ?_
        | refine WpL.cons rfl rfl (WpX.pure (fun _ => rfl) ⟨nolog, ?_⟩)
        | refine WpL.skip rfl rfl ?_
        | refine seqQ_normal ?_
        | refine seqQ_ret ?_
        | refine seqQ_exit ?_
        | refine blkQ_normal ?_
        | refine blkQ_ret ?_
        | refine blkQ_out rfl ?_
        | refine blkQ_by rfl ?_
        | refine WpO.cons rfl rfl (op_load rfl rfl rfl hb rfl ⟨(by simp [InL, Acc.name, rowName] <;> omega), ?_⟩)
        | refine WpL.cons rfl rfl (op_load rfl rfl rfl hb rfl ⟨(by simp [InL, Acc.name, rowName] <;> omega), ?_⟩))
      refine WpC.cond rfl (fun hc => ?_) (fun hc2 => ?_)
      · -- Unlink
        repeat' (first
          | refine WpC.seq ?_
          | refine WpC.region ?_
          | refine WpC.drawn ?_
          | refine WpC.skip ?_
          | refine WpC.block ?_
          | refine WpC.exit ?_
          | refine WpC.ret ?_
          | refine WpO.nil ?_
          | refine WpO.cons rfl rfl (WpX.pure (fun _ => rfl) ⟨nolog, ?_⟩)
          | refine WpO.skip rfl rfl ?_
          | refine WpL.cons rfl rfl (WpX.pure (fun _ => rfl) ⟨nolog, ?_⟩)
          | refine WpL.skip rfl rfl ?_
          | refine seqQ_normal ?_
          | refine seqQ_ret ?_
          | refine seqQ_exit ?_
          | refine blkQ_normal ?_
          | refine blkQ_ret ?_
          | refine blkQ_out rfl ?_
          | refine blkQ_by rfl ?_
          | refine WpO.cons rfl rfl (op_load rfl rfl rfl hb rfl ⟨(by simp [InL, Acc.name, rowName] <;> omega), ?_⟩)
          | refine WpL.cons rfl rfl (op_load rfl rfl rfl hb rfl ⟨(by simp [InL, Acc.name, rowName] <;> omega), ?_⟩))
        refine WpO.cons rfl rfl (call_at rfl (rtake_ok (k := z) U.ll hupL (by omega)) (fun n hn => .inr (U.low n (.inr (.inl hn)))) (by omega) fun v h4 c4 hc4 hfr4 hq4' => ?_)
        rcases hq4' with ⟨hk, rfl, rfl, rfl⟩ | ⟨hk, v', rfl, hl', hn', hf'⟩
        ·
          repeat' (first
            | refine WpC.seq ?_
            | refine WpC.region ?_
            | refine WpC.drawn ?_
            | refine WpC.skip ?_
            | refine WpC.block ?_
            | refine WpC.exit ?_
            | refine WpC.ret ?_
            | refine WpO.nil ?_
            | refine WpO.cons rfl rfl (WpX.pure (fun _ => rfl) ⟨nolog, ?_⟩)
            | refine WpO.skip rfl rfl ?_
            | refine WpL.cons rfl rfl (WpX.pure (fun _ => rfl) ⟨nolog, ?_⟩)
            | refine WpL.skip rfl rfl ?_
            | refine seqQ_normal ?_
            | refine seqQ_ret ?_
            | refine seqQ_exit ?_
            | refine blkQ_normal ?_
            | refine blkQ_ret ?_
            | refine blkQ_out rfl ?_
            | refine blkQ_by rfl ?_
            | refine WpO.cons rfl rfl (op_load rfl rfl rfl hb rfl ⟨(by simp [InL, Acc.name, rowName] <;> omega), ?_⟩)
            | refine WpL.cons rfl rfl (op_load rfl rfl rfl hb rfl ⟨(by simp [InL, Acc.name, rowName] <;> omega), ?_⟩))
          refine WpO.cons rfl rfl (call_at rfl (unlink_ok (k := z) U.ti) (fun n hn => lo1 n (by simp at hn ⊢; omega)) (by omega) fun v h5 c5 hc5 hfr5 hq5 => ?_)
          obtain ⟨rfl, t⟩ := hq5
          rw [eraG_none hk] at t
          simp only [hk]
          repeat' (first
            | refine WpC.seq ?_
            | refine WpC.region ?_
            | refine WpC.drawn ?_
            | refine WpC.skip ?_
            | refine WpC.block ?_
            | refine WpC.exit ?_
            | refine WpC.ret ?_
            | refine WpO.nil ?_
            | refine WpO.cons rfl rfl (WpX.pure (fun _ => rfl) ⟨nolog, ?_⟩)
            | refine WpO.skip rfl rfl ?_
            | refine WpL.cons rfl rfl (WpX.pure (fun _ => rfl) ⟨nolog, ?_⟩)
            | refine WpL.skip rfl rfl ?_
            | refine seqQ_normal ?_
            | refine seqQ_ret ?_
            | refine seqQ_exit ?_
            | refine blkQ_normal ?_
            | refine blkQ_ret ?_
            | refine blkQ_out rfl ?_
            | refine blkQ_by rfl ?_)
          exact ⟨L, O, N, vl, vo, vn, set7 rfl rfl rfl rfl rfl rfl rfl, ⟨U.ties t hc5 (fun n hn hm => hfr5 n hn (fun h => hm (by simp at h ⊢; omega))), by omega⟩⟩
        · have U4 := (U.keep hc4 hf').setl hl' (fresh hn' vl)
          have hb4 := (hf' c' hq).trans hb
          have hks : (L.lookup z).isSome = true := by cases hx : L.lookup z with
            | none => exact absurd hx hk
            | some _ => rfl
          have := eraG_len (k := z) (S := L)
          repeat' (first
            | refine WpC.seq ?_
            | refine WpC.region ?_
            | refine WpC.drawn ?_
            | refine WpC.skip ?_
            | refine WpC.block ?_
            | refine WpC.exit ?_
            | refine WpC.ret ?_
            | refine WpO.nil ?_
            | refine WpO.cons rfl rfl (WpX.pure (fun _ => rfl) ⟨nolog, ?_⟩)
            | refine WpO.skip rfl rfl ?_
            | refine WpL.cons rfl rfl (WpX.pure (fun _ => rfl) ⟨nolog, ?_⟩)
            | refine WpL.skip rfl rfl ?_
            | refine seqQ_normal ?_
            | refine seqQ_ret ?_
            | refine seqQ_exit ?_
            | refine blkQ_normal ?_
            | refine blkQ_ret ?_
            | refine blkQ_out rfl ?_
            | refine blkQ_by rfl ?_
            | refine WpO.cons rfl rfl (op_load rfl rfl rfl hb4 rfl ⟨(by simp [InL, Acc.name, rowName] <;> omega), ?_⟩)
            | refine WpL.cons rfl rfl (op_load rfl rfl rfl hb4 rfl ⟨(by simp [InL, Acc.name, rowName] <;> omega), ?_⟩))
          refine WpO.cons rfl rfl (call_at rfl (unlink_ok (k := z) U4.ti) (fun n hn => lo1 n (by simp at hn ⊢; omega)) (by omega) fun v h5 c5 hc5 hfr5 hq5 => ?_)
          obtain ⟨rfl, t⟩ := hq5
          simp only [hks]
          repeat' (first
            | refine WpC.seq ?_
            | refine WpC.region ?_
            | refine WpC.drawn ?_
            | refine WpC.skip ?_
            | refine WpC.block ?_
            | refine WpC.exit ?_
            | refine WpC.ret ?_
            | refine WpO.nil ?_
            | refine WpO.cons rfl rfl (WpX.pure (fun _ => rfl) ⟨nolog, ?_⟩)
            | refine WpO.skip rfl rfl ?_
            | refine WpL.cons rfl rfl (WpX.pure (fun _ => rfl) ⟨nolog, ?_⟩)
            | refine WpL.skip rfl rfl ?_
            | refine seqQ_normal ?_
            | refine seqQ_ret ?_
            | refine seqQ_exit ?_
            | refine blkQ_normal ?_
            | refine blkQ_ret ?_
            | refine blkQ_out rfl ?_
            | refine blkQ_by rfl ?_)
          exact ⟨eraG z L, O, N, v', vo, vn, set7 rfl rfl rfl rfl rfl rfl rfl, ⟨U4.ties t hc5 (fun n hn hm => hfr5 n hn (fun h => hm (by simp at h ⊢; omega))), by omega⟩⟩
      repeat' (first
        | refine WpC.seq ?_
        | refine WpC.region ?_
        | refine WpC.drawn ?_
        | refine WpC.skip ?_
        | refine WpC.block ?_
        | refine WpC.exit ?_
        | refine WpC.ret ?_
        | refine WpO.nil ?_
        | refine WpO.cons rfl rfl (WpX.pure (fun _ => rfl) ⟨nolog, ?_⟩)
        | refine WpO.skip rfl rfl ?_
        | refine WpL.cons rfl rfl (WpX.pure (fun _ => rfl) ⟨nolog, ?_⟩)
        | refine WpL.skip rfl rfl ?_
        | refine seqQ_normal ?_
        | refine seqQ_ret ?_
        | refine seqQ_exit ?_
        | refine blkQ_normal ?_
        | refine blkQ_ret ?_
        | refine blkQ_out rfl ?_
        | refine blkQ_by rfl ?_
        | refine WpO.cons rfl rfl (op_load rfl rfl rfl hb rfl ⟨(by simp [InL, Acc.name, rowName] <;> omega), ?_⟩)
        | refine WpL.cons rfl rfl (op_load rfl rfl rfl hb rfl ⟨(by simp [InL, Acc.name, rowName] <;> omega), ?_⟩))
      refine WpC.cond rfl (fun hc => ?_) (fun hc3 => ?_)
      · -- Watch
        repeat' (first
          | refine WpC.seq ?_
          | refine WpC.region ?_
          | refine WpC.drawn ?_
          | refine WpC.skip ?_
          | refine WpC.block ?_
          | refine WpC.exit ?_
          | refine WpC.ret ?_
          | refine WpO.nil ?_
          | refine WpO.cons rfl rfl (WpX.pure (fun _ => rfl) ⟨nolog, ?_⟩)
          | refine WpO.skip rfl rfl ?_
          | refine WpL.cons rfl rfl (WpX.pure (fun _ => rfl) ⟨nolog, ?_⟩)
          | refine WpL.skip rfl rfl ?_
          | refine seqQ_normal ?_
          | refine seqQ_ret ?_
          | refine seqQ_exit ?_
          | refine blkQ_normal ?_
          | refine blkQ_ret ?_
          | refine blkQ_out rfl ?_
          | refine blkQ_by rfl ?_
          | refine WpO.cons rfl rfl (op_load rfl rfl rfl hb rfl ⟨(by simp [InL, Acc.name, rowName] <;> omega), ?_⟩)
          | refine WpL.cons rfl rfl (op_load rfl rfl rfl hb rfl ⟨(by simp [InL, Acc.name, rowName] <;> omega), ?_⟩))
        refine WpO.cons rfl rfl (call_at rfl (addw_ok (k := y) (u := z) U.lo hupO (by omega)) (fun n hn => .inr (U.low n (.inr (.inr (.inl hn))))) (by omega) fun v h4 c4 hc4 hfr4 hq4' => ?_)
        obtain ⟨hf', hq4'⟩ := hq4'
        have hb4 := (hf' c' hq).trans hb
        have U4 := U.keep hc4 hf'
        rcases hq4' with ⟨hk, rfl⟩ | ⟨hk, v', rfl, hl', hn'⟩
        ·
          repeat' (first
            | refine WpC.seq ?_
            | refine WpC.region ?_
            | refine WpC.drawn ?_
            | refine WpC.skip ?_
            | refine WpC.block ?_
            | refine WpC.exit ?_
            | refine WpC.ret ?_
            | refine WpO.nil ?_
            | refine WpO.cons rfl rfl (WpX.pure (fun _ => rfl) ⟨nolog, ?_⟩)
            | refine WpO.skip rfl rfl ?_
            | refine WpL.cons rfl rfl (WpX.pure (fun _ => rfl) ⟨nolog, ?_⟩)
            | refine WpL.skip rfl rfl ?_
            | refine seqQ_normal ?_
            | refine seqQ_ret ?_
            | refine seqQ_exit ?_
            | refine blkQ_normal ?_
            | refine blkQ_ret ?_
            | refine blkQ_out rfl ?_
            | refine blkQ_by rfl ?_
            | refine WpO.cons rfl rfl (op_load rfl rfl rfl hb4 rfl ⟨(by simp [InL, Acc.name, rowName] <;> omega), ?_⟩)
            | refine WpL.cons rfl rfl (op_load rfl rfl rfl hb4 rfl ⟨(by simp [InL, Acc.name, rowName] <;> omega), ?_⟩))
          refine WpO.cons rfl rfl (call_at rfl (watch_ok (k := y) (v := z) U4.ti oky (by omega)) (fun n hn => lo1 n (by simp at hn ⊢; omega)) (by omega) fun v h5 c5 hc5 hfr5 hq5 => ?_)
          rcases hq5 with ⟨_, rfl, t⟩ | ⟨hx, _⟩
          rotate_left
          · exact absurd hx hk
          repeat' (first
            | refine WpC.seq ?_
            | refine WpC.region ?_
            | refine WpC.drawn ?_
            | refine WpC.skip ?_
            | refine WpC.block ?_
            | refine WpC.exit ?_
            | refine WpC.ret ?_
            | refine WpO.nil ?_
            | refine WpO.cons rfl rfl (WpX.pure (fun _ => rfl) ⟨nolog, ?_⟩)
            | refine WpO.skip rfl rfl ?_
            | refine WpL.cons rfl rfl (WpX.pure (fun _ => rfl) ⟨nolog, ?_⟩)
            | refine WpL.skip rfl rfl ?_
            | refine seqQ_normal ?_
            | refine seqQ_ret ?_
            | refine seqQ_exit ?_
            | refine blkQ_normal ?_
            | refine blkQ_ret ?_
            | refine blkQ_out rfl ?_
            | refine blkQ_by rfl ?_)
          exact ⟨L, O, N, vl, vo, vn, set7 rfl rfl rfl rfl rfl rfl rfl, ⟨U4.ties t hc5 (fun n hn hm => hfr5 n hn (fun h => hm (by simp at h ⊢; omega))), by omega⟩⟩
        · have U5 := U4.seto hl' (fresh hn' vo)
          repeat' (first
            | refine WpC.seq ?_
            | refine WpC.region ?_
            | refine WpC.drawn ?_
            | refine WpC.skip ?_
            | refine WpC.block ?_
            | refine WpC.exit ?_
            | refine WpC.ret ?_
            | refine WpO.nil ?_
            | refine WpO.cons rfl rfl (WpX.pure (fun _ => rfl) ⟨nolog, ?_⟩)
            | refine WpO.skip rfl rfl ?_
            | refine WpL.cons rfl rfl (WpX.pure (fun _ => rfl) ⟨nolog, ?_⟩)
            | refine WpL.skip rfl rfl ?_
            | refine seqQ_normal ?_
            | refine seqQ_ret ?_
            | refine seqQ_exit ?_
            | refine blkQ_normal ?_
            | refine blkQ_ret ?_
            | refine blkQ_out rfl ?_
            | refine blkQ_by rfl ?_
            | refine WpO.cons rfl rfl (op_load rfl rfl rfl hb4 rfl ⟨(by simp [InL, Acc.name, rowName] <;> omega), ?_⟩)
            | refine WpL.cons rfl rfl (op_load rfl rfl rfl hb4 rfl ⟨(by simp [InL, Acc.name, rowName] <;> omega), ?_⟩))
          refine WpO.cons rfl rfl (call_at rfl (watch_ok (k := y) (v := z) U5.ti oky (by omega)) (fun n hn => lo1 n (by simp at hn ⊢; omega)) (by omega) fun v h5 c5 hc5 hfr5 hq5 => ?_)
          rcases hq5 with ⟨hx, _⟩ | ⟨_, rfl, t⟩
          · exact absurd hk hx
          repeat' (first
            | refine WpC.seq ?_
            | refine WpC.region ?_
            | refine WpC.drawn ?_
            | refine WpC.skip ?_
            | refine WpC.block ?_
            | refine WpC.exit ?_
            | refine WpC.ret ?_
            | refine WpO.nil ?_
            | refine WpO.cons rfl rfl (WpX.pure (fun _ => rfl) ⟨nolog, ?_⟩)
            | refine WpO.skip rfl rfl ?_
            | refine WpL.cons rfl rfl (WpX.pure (fun _ => rfl) ⟨nolog, ?_⟩)
            | refine WpL.skip rfl rfl ?_
            | refine seqQ_normal ?_
            | refine seqQ_ret ?_
            | refine seqQ_exit ?_
            | refine blkQ_normal ?_
            | refine blkQ_ret ?_
            | refine blkQ_out rfl ?_
            | refine blkQ_by rfl ?_)
          exact ⟨L, insG (y, z) O, N, vl, v', vn, set7 rfl rfl rfl rfl rfl rfl rfl, ⟨U5.ties t hc5 (fun n hn hm => hfr5 n hn (fun h => hm (by simp at h ⊢; omega))), by rw [insG_len]; omega⟩⟩
      repeat' (first
        | refine WpC.seq ?_
        | refine WpC.region ?_
        | refine WpC.drawn ?_
        | refine WpC.skip ?_
        | refine WpC.block ?_
        | refine WpC.exit ?_
        | refine WpC.ret ?_
        | refine WpO.nil ?_
        | refine WpO.cons rfl rfl (WpX.pure (fun _ => rfl) ⟨nolog, ?_⟩)
        | refine WpO.skip rfl rfl ?_
        | refine WpL.cons rfl rfl (WpX.pure (fun _ => rfl) ⟨nolog, ?_⟩)
        | refine WpL.skip rfl rfl ?_
        | refine seqQ_normal ?_
        | refine seqQ_ret ?_
        | refine seqQ_exit ?_
        | refine blkQ_normal ?_
        | refine blkQ_ret ?_
        | refine blkQ_out rfl ?_
        | refine blkQ_by rfl ?_
        | refine WpO.cons rfl rfl (op_load rfl rfl rfl hb rfl ⟨(by simp [InL, Acc.name, rowName] <;> omega), ?_⟩)
        | refine WpL.cons rfl rfl (op_load rfl rfl rfl hb rfl ⟨(by simp [InL, Acc.name, rowName] <;> omega), ?_⟩))
      refine WpC.cond rfl (fun hc => ?_) (fun hc4 => ?_)
      · -- Unwatch
        repeat' (first
          | refine WpC.seq ?_
          | refine WpC.region ?_
          | refine WpC.drawn ?_
          | refine WpC.skip ?_
          | refine WpC.block ?_
          | refine WpC.exit ?_
          | refine WpC.ret ?_
          | refine WpO.nil ?_
          | refine WpO.cons rfl rfl (WpX.pure (fun _ => rfl) ⟨nolog, ?_⟩)
          | refine WpO.skip rfl rfl ?_
          | refine WpL.cons rfl rfl (WpX.pure (fun _ => rfl) ⟨nolog, ?_⟩)
          | refine WpL.skip rfl rfl ?_
          | refine seqQ_normal ?_
          | refine seqQ_ret ?_
          | refine seqQ_exit ?_
          | refine blkQ_normal ?_
          | refine blkQ_ret ?_
          | refine blkQ_out rfl ?_
          | refine blkQ_by rfl ?_
          | refine WpO.cons rfl rfl (op_load rfl rfl rfl hb rfl ⟨(by simp [InL, Acc.name, rowName] <;> omega), ?_⟩)
          | refine WpL.cons rfl rfl (op_load rfl rfl rfl hb rfl ⟨(by simp [InL, Acc.name, rowName] <;> omega), ?_⟩))
        refine WpO.cons rfl rfl (call_at rfl (takew_ok (k := y) U.lo (by omega)) (fun n hn => .inr (U.low n (.inr (.inr (.inl hn))))) (by omega) fun v h4 c4 hc4 hfr4 hq4' => ?_)
        obtain ⟨hf', v', rfl, hl', hn'⟩ := hq4'
        have hb4 := (hf' c' hq).trans hb
        have U4 := (U.keep hc4 hf').seto hl' (fun n hn => (hn' n hn).imp id fun h => ⟨by omega, fun hm => by have := hnm2 n hm; omega⟩)
        have := eraG_len (k := y) (S := O)
        repeat' (first
          | refine WpC.seq ?_
          | refine WpC.region ?_
          | refine WpC.drawn ?_
          | refine WpC.skip ?_
          | refine WpC.block ?_
          | refine WpC.exit ?_
          | refine WpC.ret ?_
          | refine WpO.nil ?_
          | refine WpO.cons rfl rfl (WpX.pure (fun _ => rfl) ⟨nolog, ?_⟩)
          | refine WpO.skip rfl rfl ?_
          | refine WpL.cons rfl rfl (WpX.pure (fun _ => rfl) ⟨nolog, ?_⟩)
          | refine WpL.skip rfl rfl ?_
          | refine seqQ_normal ?_
          | refine seqQ_ret ?_
          | refine seqQ_exit ?_
          | refine blkQ_normal ?_
          | refine blkQ_ret ?_
          | refine blkQ_out rfl ?_
          | refine blkQ_by rfl ?_
          | refine WpO.cons rfl rfl (op_load rfl rfl rfl hb4 rfl ⟨(by simp [InL, Acc.name, rowName] <;> omega), ?_⟩)
          | refine WpL.cons rfl rfl (op_load rfl rfl rfl hb4 rfl ⟨(by simp [InL, Acc.name, rowName] <;> omega), ?_⟩))
        refine WpO.cons rfl rfl (call_at rfl (unwatch_ok (k := y) U4.ti) (fun n hn => lo1 n (by simp at hn ⊢; omega)) (by omega) fun v h5 c5 hc5 hfr5 hq5 => ?_)
        obtain ⟨rfl, t⟩ := hq5
        have e1 : ((O.lookup y).isSome == (O.lookup y).isSome) = true := by cases (O.lookup y).isSome <;> rfl
        repeat' (first
          | refine WpC.seq ?_
          | refine WpC.region ?_
          | refine WpC.drawn ?_
          | refine WpC.skip ?_
          | refine WpC.block ?_
          | refine WpC.exit ?_
          | refine WpC.ret ?_
          | refine WpO.nil ?_
          | refine WpO.cons rfl rfl (WpX.pure (fun _ => rfl) ⟨nolog, ?_⟩)
          | refine WpO.skip rfl rfl ?_
          | refine WpL.cons rfl rfl (WpX.pure (fun _ => rfl) ⟨nolog, ?_⟩)
          | refine WpL.skip rfl rfl ?_
          | refine seqQ_normal ?_
          | refine seqQ_ret ?_
          | refine seqQ_exit ?_
          | refine blkQ_normal ?_
          | refine blkQ_ret ?_
          | refine blkQ_out rfl ?_
          | refine blkQ_by rfl ?_)
        simp only [beq_self_eq_true]
        repeat' (first
          | refine WpC.seq ?_
          | refine WpC.region ?_
          | refine WpC.drawn ?_
          | refine WpC.skip ?_
          | refine WpC.block ?_
          | refine WpC.exit ?_
          | refine WpC.ret ?_
          | refine WpO.nil ?_
          | refine WpO.cons rfl rfl (WpX.pure (fun _ => rfl) ⟨nolog, ?_⟩)
          | refine WpO.skip rfl rfl ?_
          | refine WpL.cons rfl rfl (WpX.pure (fun _ => rfl) ⟨nolog, ?_⟩)
          | refine WpL.skip rfl rfl ?_
          | refine seqQ_normal ?_
          | refine seqQ_ret ?_
          | refine seqQ_exit ?_
          | refine blkQ_normal ?_
          | refine blkQ_ret ?_
          | refine blkQ_out rfl ?_
          | refine blkQ_by rfl ?_)
        simp only [beq_self_eq_true]
        exact ⟨L, eraG y O, N, vl, v', vn, set7 rfl rfl rfl rfl rfl rfl rfl, ⟨U4.ties t hc5 (fun n hn hm => hfr5 n hn (fun h => hm (by simp at h ⊢; omega))), by omega⟩⟩
      repeat' (first
        | refine WpC.seq ?_
        | refine WpC.region ?_
        | refine WpC.drawn ?_
        | refine WpC.skip ?_
        | refine WpC.block ?_
        | refine WpC.exit ?_
        | refine WpC.ret ?_
        | refine WpO.nil ?_
        | refine WpO.cons rfl rfl (WpX.pure (fun _ => rfl) ⟨nolog, ?_⟩)
        | refine WpO.skip rfl rfl ?_
        | refine WpL.cons rfl rfl (WpX.pure (fun _ => rfl) ⟨nolog, ?_⟩)
        | refine WpL.skip rfl rfl ?_
        | refine seqQ_normal ?_
        | refine seqQ_ret ?_
        | refine seqQ_exit ?_
        | refine blkQ_normal ?_
        | refine blkQ_ret ?_
        | refine blkQ_out rfl ?_
        | refine blkQ_by rfl ?_
        | refine WpO.cons rfl rfl (op_load rfl rfl rfl hb rfl ⟨(by simp [InL, Acc.name, rowName] <;> omega), ?_⟩)
        | refine WpL.cons rfl rfl (op_load rfl rfl rfl hb rfl ⟨(by simp [InL, Acc.name, rowName] <;> omega), ?_⟩))
      refine WpC.cond rfl (fun hc => ?_) (fun hc5 => ?_)
      · -- Watched
        repeat' (first
          | refine WpC.seq ?_
          | refine WpC.region ?_
          | refine WpC.drawn ?_
          | refine WpC.skip ?_
          | refine WpC.block ?_
          | refine WpC.exit ?_
          | refine WpC.ret ?_
          | refine WpO.nil ?_
          | refine WpO.cons rfl rfl (WpX.pure (fun _ => rfl) ⟨nolog, ?_⟩)
          | refine WpO.skip rfl rfl ?_
          | refine WpL.cons rfl rfl (WpX.pure (fun _ => rfl) ⟨nolog, ?_⟩)
          | refine WpL.skip rfl rfl ?_
          | refine seqQ_normal ?_
          | refine seqQ_ret ?_
          | refine seqQ_exit ?_
          | refine blkQ_normal ?_
          | refine blkQ_ret ?_
          | refine blkQ_out rfl ?_
          | refine blkQ_by rfl ?_
          | refine WpO.cons rfl rfl (op_load rfl rfl rfl hb rfl ⟨(by simp [InL, Acc.name, rowName] <;> omega), ?_⟩)
          | refine WpL.cons rfl rfl (op_load rfl rfl rfl hb rfl ⟨(by simp [InL, Acc.name, rowName] <;> omega), ?_⟩))
        refine WpO.cons rfl rfl (call_at rfl (addw_ok (k := y) (u := z) U.ln hupN (by omega)) (fun n hn => .inr (U.low n (.inr (.inr (.inr hn))))) (by omega) fun v h4 c4 hc4 hfr4 hq4' => ?_)
        obtain ⟨hf', hq4'⟩ := hq4'
        have hb4 := (hf' c' hq).trans hb
        have U4 := U.keep hc4 hf'
        rcases hq4' with ⟨hk, rfl⟩ | ⟨hk, v', rfl, hl', hn'⟩
        ·
          repeat' (first
            | refine WpC.seq ?_
            | refine WpC.region ?_
            | refine WpC.drawn ?_
            | refine WpC.skip ?_
            | refine WpC.block ?_
            | refine WpC.exit ?_
            | refine WpC.ret ?_
            | refine WpO.nil ?_
            | refine WpO.cons rfl rfl (WpX.pure (fun _ => rfl) ⟨nolog, ?_⟩)
            | refine WpO.skip rfl rfl ?_
            | refine WpL.cons rfl rfl (WpX.pure (fun _ => rfl) ⟨nolog, ?_⟩)
            | refine WpL.skip rfl rfl ?_
            | refine seqQ_normal ?_
            | refine seqQ_ret ?_
            | refine seqQ_exit ?_
            | refine blkQ_normal ?_
            | refine blkQ_ret ?_
            | refine blkQ_out rfl ?_
            | refine blkQ_by rfl ?_
            | refine WpO.cons rfl rfl (op_load rfl rfl rfl hb4 rfl ⟨(by simp [InL, Acc.name, rowName] <;> omega), ?_⟩)
            | refine WpL.cons rfl rfl (op_load rfl rfl rfl hb4 rfl ⟨(by simp [InL, Acc.name, rowName] <;> omega), ?_⟩))
          refine WpO.cons rfl rfl (call_at rfl (watched_ok (k := y) (v := z) U4.ti oky (by omega)) (fun n hn => lo1 n (by simp at hn ⊢; omega)) (by omega) fun v h5 c5 hc5 hfr5 hq5 => ?_)
          rcases hq5 with ⟨_, rfl, t⟩ | ⟨hx, _⟩
          rotate_left
          · exact absurd hx hk
          repeat' (first
            | refine WpC.seq ?_
            | refine WpC.region ?_
            | refine WpC.drawn ?_
            | refine WpC.skip ?_
            | refine WpC.block ?_
            | refine WpC.exit ?_
            | refine WpC.ret ?_
            | refine WpO.nil ?_
            | refine WpO.cons rfl rfl (WpX.pure (fun _ => rfl) ⟨nolog, ?_⟩)
            | refine WpO.skip rfl rfl ?_
            | refine WpL.cons rfl rfl (WpX.pure (fun _ => rfl) ⟨nolog, ?_⟩)
            | refine WpL.skip rfl rfl ?_
            | refine seqQ_normal ?_
            | refine seqQ_ret ?_
            | refine seqQ_exit ?_
            | refine blkQ_normal ?_
            | refine blkQ_ret ?_
            | refine blkQ_out rfl ?_
            | refine blkQ_by rfl ?_)
          exact ⟨L, O, N, vl, vo, vn, set7 rfl rfl rfl rfl rfl rfl rfl, ⟨U4.ties t hc5 (fun n hn hm => hfr5 n hn (fun h => hm (by simp at h ⊢; omega))), by omega⟩⟩
        · have U5 := U4.setn hl' (fresh hn' vn)
          repeat' (first
            | refine WpC.seq ?_
            | refine WpC.region ?_
            | refine WpC.drawn ?_
            | refine WpC.skip ?_
            | refine WpC.block ?_
            | refine WpC.exit ?_
            | refine WpC.ret ?_
            | refine WpO.nil ?_
            | refine WpO.cons rfl rfl (WpX.pure (fun _ => rfl) ⟨nolog, ?_⟩)
            | refine WpO.skip rfl rfl ?_
            | refine WpL.cons rfl rfl (WpX.pure (fun _ => rfl) ⟨nolog, ?_⟩)
            | refine WpL.skip rfl rfl ?_
            | refine seqQ_normal ?_
            | refine seqQ_ret ?_
            | refine seqQ_exit ?_
            | refine blkQ_normal ?_
            | refine blkQ_ret ?_
            | refine blkQ_out rfl ?_
            | refine blkQ_by rfl ?_
            | refine WpO.cons rfl rfl (op_load rfl rfl rfl hb4 rfl ⟨(by simp [InL, Acc.name, rowName] <;> omega), ?_⟩)
            | refine WpL.cons rfl rfl (op_load rfl rfl rfl hb4 rfl ⟨(by simp [InL, Acc.name, rowName] <;> omega), ?_⟩))
          refine WpO.cons rfl rfl (call_at rfl (watched_ok (k := y) (v := z) U5.ti oky (by omega)) (fun n hn => lo1 n (by simp at hn ⊢; omega)) (by omega) fun v h5 c5 hc5 hfr5 hq5 => ?_)
          rcases hq5 with ⟨hx, _⟩ | ⟨_, rfl, t⟩
          · exact absurd hk hx
          repeat' (first
            | refine WpC.seq ?_
            | refine WpC.region ?_
            | refine WpC.drawn ?_
            | refine WpC.skip ?_
            | refine WpC.block ?_
            | refine WpC.exit ?_
            | refine WpC.ret ?_
            | refine WpO.nil ?_
            | refine WpO.cons rfl rfl (WpX.pure (fun _ => rfl) ⟨nolog, ?_⟩)
            | refine WpO.skip rfl rfl ?_
            | refine WpL.cons rfl rfl (WpX.pure (fun _ => rfl) ⟨nolog, ?_⟩)
            | refine WpL.skip rfl rfl ?_
            | refine seqQ_normal ?_
            | refine seqQ_ret ?_
            | refine seqQ_exit ?_
            | refine blkQ_normal ?_
            | refine blkQ_ret ?_
            | refine blkQ_out rfl ?_
            | refine blkQ_by rfl ?_)
          exact ⟨L, O, insG (y, z) N, vl, vo, v', set7 rfl rfl rfl rfl rfl rfl rfl, ⟨U5.ties t hc5 (fun n hn hm => hfr5 n hn (fun h => hm (by simp at h ⊢; omega))), by rw [insG_len]; omega⟩⟩
      · -- Free
        repeat' (first
          | refine WpC.seq ?_
          | refine WpC.region ?_
          | refine WpC.drawn ?_
          | refine WpC.skip ?_
          | refine WpC.block ?_
          | refine WpC.exit ?_
          | refine WpC.ret ?_
          | refine WpO.nil ?_
          | refine WpO.cons rfl rfl (WpX.pure (fun _ => rfl) ⟨nolog, ?_⟩)
          | refine WpO.skip rfl rfl ?_
          | refine WpL.cons rfl rfl (WpX.pure (fun _ => rfl) ⟨nolog, ?_⟩)
          | refine WpL.skip rfl rfl ?_
          | refine seqQ_normal ?_
          | refine seqQ_ret ?_
          | refine seqQ_exit ?_
          | refine blkQ_normal ?_
          | refine blkQ_ret ?_
          | refine blkQ_out rfl ?_
          | refine blkQ_by rfl ?_
          | refine WpO.cons rfl rfl (op_load rfl rfl rfl hb rfl ⟨(by simp [InL, Acc.name, rowName] <;> omega), ?_⟩)
          | refine WpL.cons rfl rfl (op_load rfl rfl rfl hb rfl ⟨(by simp [InL, Acc.name, rowName] <;> omega), ?_⟩))
        refine WpO.cons rfl rfl (call_at rfl (takew_ok (k := y) U.ln (by omega)) (fun n hn => .inr (U.low n (.inr (.inr (.inr hn))))) (by omega) fun v h4 c4 hc4 hfr4 hq4' => ?_)
        obtain ⟨hf', v', rfl, hl', hn'⟩ := hq4'
        have hb4 := (hf' c' hq).trans hb
        have U4 := (U.keep hc4 hf').setn hl' (fun n hn => (hn' n hn).imp id fun h => ⟨by omega, fun hm => by have := hnm2 n hm; omega⟩)
        have := eraG_len (k := y) (S := N)
        repeat' (first
          | refine WpC.seq ?_
          | refine WpC.region ?_
          | refine WpC.drawn ?_
          | refine WpC.skip ?_
          | refine WpC.block ?_
          | refine WpC.exit ?_
          | refine WpC.ret ?_
          | refine WpO.nil ?_
          | refine WpO.cons rfl rfl (WpX.pure (fun _ => rfl) ⟨nolog, ?_⟩)
          | refine WpO.skip rfl rfl ?_
          | refine WpL.cons rfl rfl (WpX.pure (fun _ => rfl) ⟨nolog, ?_⟩)
          | refine WpL.skip rfl rfl ?_
          | refine seqQ_normal ?_
          | refine seqQ_ret ?_
          | refine seqQ_exit ?_
          | refine blkQ_normal ?_
          | refine blkQ_ret ?_
          | refine blkQ_out rfl ?_
          | refine blkQ_by rfl ?_
          | refine WpO.cons rfl rfl (op_load rfl rfl rfl hb4 rfl ⟨(by simp [InL, Acc.name, rowName] <;> omega), ?_⟩)
          | refine WpL.cons rfl rfl (op_load rfl rfl rfl hb4 rfl ⟨(by simp [InL, Acc.name, rowName] <;> omega), ?_⟩))
        refine WpO.cons rfl rfl (call_at rfl (free_ok (k := y) U4.ti) (fun n hn => lo1 n (by simp at hn ⊢; omega)) (by omega) fun v h5 c5 hc5 hfr5 hq5 => ?_)
        obtain ⟨rfl, t⟩ := hq5
        repeat' (first
          | refine WpC.seq ?_
          | refine WpC.region ?_
          | refine WpC.drawn ?_
          | refine WpC.skip ?_
          | refine WpC.block ?_
          | refine WpC.exit ?_
          | refine WpC.ret ?_
          | refine WpO.nil ?_
          | refine WpO.cons rfl rfl (WpX.pure (fun _ => rfl) ⟨nolog, ?_⟩)
          | refine WpO.skip rfl rfl ?_
          | refine WpL.cons rfl rfl (WpX.pure (fun _ => rfl) ⟨nolog, ?_⟩)
          | refine WpL.skip rfl rfl ?_
          | refine seqQ_normal ?_
          | refine seqQ_ret ?_
          | refine seqQ_exit ?_
          | refine blkQ_normal ?_
          | refine blkQ_ret ?_
          | refine blkQ_out rfl ?_
          | refine blkQ_by rfl ?_)
        simp only [beq_self_eq_true]
        exact ⟨L, O, eraG y N, vl, vo, v', set7 rfl rfl rfl rfl rfl rfl rfl, ⟨U4.ties t hc5 (fun n hn hm => hfr5 n hn (fun h => hm (by simp at h ⊢; omega))), by omega⟩⟩
    · rintro e h5 c5 ⟨L', O', N', vl', vo', vn', ⟨b0, rfl⟩, B'⟩
      obtain ⟨cl1, cl2, cl3⟩ := B'.len
      have U5 := B'.u
      have hlt5 := U5.lt
      have lo5 : ∀ n ∈ [p, a, b, d], n ∈ rowName (V.slice (some (sn, 0)) zs.length cap) ∨ c1 ≤ n := fun n hn => .inr (U5.low n (.inl hn))
      repeat' (first
        | refine WpC.seq ?_
        | refine WpC.region ?_
        | refine WpC.drawn ?_
        | refine WpC.skip ?_
        | refine WpC.block ?_
        | refine WpC.exit ?_
        | refine WpC.ret ?_
        | refine WpO.nil ?_
        | refine WpO.cons rfl rfl (WpX.pure (fun _ => rfl) ⟨nolog, ?_⟩)
        | refine WpO.skip rfl rfl ?_
        | refine WpL.cons rfl rfl (WpX.pure (fun _ => rfl) ⟨nolog, ?_⟩)
        | refine WpL.skip rfl rfl ?_
        | refine seqQ_normal ?_
        | refine seqQ_ret ?_
        | refine seqQ_exit ?_
        | refine blkQ_normal ?_
        | refine blkQ_ret ?_
        | refine blkQ_out rfl ?_
        | refine blkQ_by rfl ?_)
      refine WpO.cons rfl rfl (call_at rfl (links_ok U5.ti) (fun n hn => lo5 n (by simp at hn ⊢; omega)) (by omega) fun v h6 c6 hc6 hfr6 hq6 => ?_)
      obtain ⟨l6, s6, n6⟩ := hq6
      have U6 := U5.keep hc6 s6
      repeat' (first
        | refine WpC.seq ?_
        | refine WpC.region ?_
        | refine WpC.drawn ?_
        | refine WpC.skip ?_
        | refine WpC.block ?_
        | refine WpC.exit ?_
        | refine WpC.ret ?_
        | refine WpO.nil ?_
        | refine WpO.cons rfl rfl (WpX.pure (fun _ => rfl) ⟨nolog, ?_⟩)
        | refine WpO.skip rfl rfl ?_
        | refine WpL.cons rfl rfl (WpX.pure (fun _ => rfl) ⟨nolog, ?_⟩)
        | refine WpL.skip rfl rfl ?_
        | refine seqQ_normal ?_
        | refine seqQ_ret ?_
        | refine seqQ_exit ?_
        | refine blkQ_normal ?_
        | refine blkQ_ret ?_
        | refine blkQ_out rfl ?_
        | refine blkQ_by rfl ?_)
      refine WpO.cons rfl rfl (call_at rfl (same_ok l6 U6.ll (by simp; omega)) (fun n hn => .inr (by
        rcases List.mem_append.1 hn with h | h
        · have := n6 n h; omega
        · exact U6.low n (.inr (.inl h)))) (by omega) fun v h7 c7 hc7 hfr7 hq7 => ?_)
      obtain ⟨rfl, rfl, rfl⟩ := hq7
      repeat' (first
        | refine WpC.seq ?_
        | refine WpC.region ?_
        | refine WpC.drawn ?_
        | refine WpC.skip ?_
        | refine WpC.block ?_
        | refine WpC.exit ?_
        | refine WpC.ret ?_
        | refine WpO.nil ?_
        | refine WpO.cons rfl rfl (WpX.pure (fun _ => rfl) ⟨nolog, ?_⟩)
        | refine WpO.skip rfl rfl ?_
        | refine WpL.cons rfl rfl (WpX.pure (fun _ => rfl) ⟨nolog, ?_⟩)
        | refine WpL.skip rfl rfl ?_
        | refine seqQ_normal ?_
        | refine seqQ_ret ?_
        | refine seqQ_exit ?_
        | refine blkQ_normal ?_
        | refine blkQ_ret ?_
        | refine blkQ_out rfl ?_
        | refine blkQ_by rfl ?_)
      refine WpO.cons rfl rfl (call_at rfl (out_ok U6.ti) (fun n hn => lo5 n (by simp at hn ⊢; omega)) (by omega) fun v8 h8 c8 hc8 hfr8 hq8 => ?_)
      obtain ⟨l8, s8, n8⟩ := hq8
      have U8 := U6.keep hc8 s8
      repeat' (first
        | refine WpC.seq ?_
        | refine WpC.region ?_
        | refine WpC.drawn ?_
        | refine WpC.skip ?_
        | refine WpC.block ?_
        | refine WpC.exit ?_
        | refine WpC.ret ?_
        | refine WpO.nil ?_
        | refine WpO.cons rfl rfl (WpX.pure (fun _ => rfl) ⟨nolog, ?_⟩)
        | refine WpO.skip rfl rfl ?_
        | refine WpL.cons rfl rfl (WpX.pure (fun _ => rfl) ⟨nolog, ?_⟩)
        | refine WpL.skip rfl rfl ?_
        | refine seqQ_normal ?_
        | refine seqQ_ret ?_
        | refine seqQ_exit ?_
        | refine blkQ_normal ?_
        | refine blkQ_ret ?_
        | refine blkQ_out rfl ?_
        | refine blkQ_by rfl ?_)
      refine WpO.cons rfl rfl (call_at rfl (watches_ok l8 (by omega)) (fun n hn => .inr (by have := n8 n hn; omega)) (by omega) fun v9 h9 c9 hc9 hfr9 hq9 => ?_)
      obtain ⟨l9, s9, n9⟩ := hq9
      have U9 := U8.keep hc9 s9
      repeat' (first
        | refine WpC.seq ?_
        | refine WpC.region ?_
        | refine WpC.drawn ?_
        | refine WpC.skip ?_
        | refine WpC.block ?_
        | refine WpC.exit ?_
        | refine WpC.ret ?_
        | refine WpO.nil ?_
        | refine WpO.cons rfl rfl (WpX.pure (fun _ => rfl) ⟨nolog, ?_⟩)
        | refine WpO.skip rfl rfl ?_
        | refine WpL.cons rfl rfl (WpX.pure (fun _ => rfl) ⟨nolog, ?_⟩)
        | refine WpL.skip rfl rfl ?_
        | refine seqQ_normal ?_
        | refine seqQ_ret ?_
        | refine seqQ_exit ?_
        | refine blkQ_normal ?_
        | refine blkQ_ret ?_
        | refine blkQ_out rfl ?_
        | refine blkQ_by rfl ?_)
      refine WpO.cons rfl rfl (call_at rfl (samew_ok l9 U9.lo (by omega)) (fun n hn => .inr (by
        rcases List.mem_append.1 hn with h | h
        · have := n9 n h; omega
        · exact U9.low n (.inr (.inr (.inl h))))) (by omega) fun v ha ca hca hfra hqa => ?_)
      obtain ⟨rfl, rfl, rfl⟩ := hqa
      repeat' (first
        | refine WpC.seq ?_
        | refine WpC.region ?_
        | refine WpC.drawn ?_
        | refine WpC.skip ?_
        | refine WpC.block ?_
        | refine WpC.exit ?_
        | refine WpC.ret ?_
        | refine WpO.nil ?_
        | refine WpO.cons rfl rfl (WpX.pure (fun _ => rfl) ⟨nolog, ?_⟩)
        | refine WpO.skip rfl rfl ?_
        | refine WpL.cons rfl rfl (WpX.pure (fun _ => rfl) ⟨nolog, ?_⟩)
        | refine WpL.skip rfl rfl ?_
        | refine seqQ_normal ?_
        | refine seqQ_ret ?_
        | refine seqQ_exit ?_
        | refine blkQ_normal ?_
        | refine blkQ_ret ?_
        | refine blkQ_out rfl ?_
        | refine blkQ_by rfl ?_)
      refine WpO.cons rfl rfl (call_at rfl (in_ok U9.ti) (fun n hn => lo5 n (by simp at hn ⊢; omega)) (by omega) fun vb hb' cb hcb hfrb hqb => ?_)
      obtain ⟨lb, sb, nb⟩ := hqb
      have Ub := U9.keep hcb sb
      repeat' (first
        | refine WpC.seq ?_
        | refine WpC.region ?_
        | refine WpC.drawn ?_
        | refine WpC.skip ?_
        | refine WpC.block ?_
        | refine WpC.exit ?_
        | refine WpC.ret ?_
        | refine WpO.nil ?_
        | refine WpO.cons rfl rfl (WpX.pure (fun _ => rfl) ⟨nolog, ?_⟩)
        | refine WpO.skip rfl rfl ?_
        | refine WpL.cons rfl rfl (WpX.pure (fun _ => rfl) ⟨nolog, ?_⟩)
        | refine WpL.skip rfl rfl ?_
        | refine seqQ_normal ?_
        | refine seqQ_ret ?_
        | refine seqQ_exit ?_
        | refine blkQ_normal ?_
        | refine blkQ_ret ?_
        | refine blkQ_out rfl ?_
        | refine blkQ_by rfl ?_)
      refine WpO.cons rfl rfl (call_at rfl (watches_ok lb (by omega)) (fun n hn => .inr (by have := nb n hn; omega)) (by omega) fun vd hd cd hcd hfrd hqd => ?_)
      obtain ⟨ld, sd, nd⟩ := hqd
      have Ud := Ub.keep hcd sd
      repeat' (first
        | refine WpC.seq ?_
        | refine WpC.region ?_
        | refine WpC.drawn ?_
        | refine WpC.skip ?_
        | refine WpC.block ?_
        | refine WpC.exit ?_
        | refine WpC.ret ?_
        | refine WpO.nil ?_
        | refine WpO.cons rfl rfl (WpX.pure (fun _ => rfl) ⟨nolog, ?_⟩)
        | refine WpO.skip rfl rfl ?_
        | refine WpL.cons rfl rfl (WpX.pure (fun _ => rfl) ⟨nolog, ?_⟩)
        | refine WpL.skip rfl rfl ?_
        | refine seqQ_normal ?_
        | refine seqQ_ret ?_
        | refine seqQ_exit ?_
        | refine blkQ_normal ?_
        | refine blkQ_ret ?_
        | refine blkQ_out rfl ?_
        | refine blkQ_by rfl ?_)
      refine WpO.cons rfl rfl (call_at rfl (samew_ok ld Ud.ln (by omega)) (fun n hn => .inr (by
        rcases List.mem_append.1 hn with h | h
        · have := nd n h; omega
        · exact Ud.low n (.inr (.inr (.inr h))))) (by omega) fun v he ce hce hfre hqe => ?_)
      obtain ⟨rfl, rfl, rfl⟩ := hqe
      repeat' (first
        | refine WpC.seq ?_
        | refine WpC.region ?_
        | refine WpC.drawn ?_
        | refine WpC.skip ?_
        | refine WpC.block ?_
        | refine WpC.exit ?_
        | refine WpC.ret ?_
        | refine WpO.nil ?_
        | refine WpO.cons rfl rfl (WpX.pure (fun _ => rfl) ⟨nolog, ?_⟩)
        | refine WpO.skip rfl rfl ?_
        | refine WpL.cons rfl rfl (WpX.pure (fun _ => rfl) ⟨nolog, ?_⟩)
        | refine WpL.skip rfl rfl ?_
        | refine seqQ_normal ?_
        | refine seqQ_ret ?_
        | refine seqQ_exit ?_
        | refine blkQ_normal ?_
        | refine blkQ_ret ?_
        | refine blkQ_out rfl ?_
        | refine blkQ_by rfl ?_)
      refine WpC.cond rfl (fun hb => by cases hb) (fun _ => ?_)
      repeat' (first
        | refine WpC.seq ?_
        | refine WpC.region ?_
        | refine WpC.drawn ?_
        | refine WpC.skip ?_
        | refine WpC.block ?_
        | refine WpC.exit ?_
        | refine WpC.ret ?_
        | refine WpO.nil ?_
        | refine WpO.cons rfl rfl (WpX.pure (fun _ => rfl) ⟨nolog, ?_⟩)
        | refine WpO.skip rfl rfl ?_
        | refine WpL.cons rfl rfl (WpX.pure (fun _ => rfl) ⟨nolog, ?_⟩)
        | refine WpL.skip rfl rfl ?_
        | refine seqQ_normal ?_
        | refine seqQ_ret ?_
        | refine seqQ_exit ?_
        | refine blkQ_normal ?_
        | refine blkQ_ret ?_
        | refine blkQ_out rfl ?_
        | refine blkQ_by rfl ?_)
      simp only [hwi]
      exact ⟨(i + 1, vl', vo', vn', L', O', N'), by simp only; omega, set6 rfl rfl rfl rfl rfl rfl, by simp only; omega, ⟨Ud, by simp only; omega⟩⟩
end Go.Proofs.Ytempfmkicpifkaa.Ti
