/- The store's functions: what each does to bytes and rows. -/
import Derived.Test.YtempfmkicpifkaaAd7
set_option linter.unusedVariables false
set_option linter.unusedSectionVars false
set_option linter.unusedSimpArgs false
set_option linter.unnecessarySimpa false
namespace Go.Proofs.Ytempfmkicpifkaa
open Go.Ab
set_option maxRecDepth 10000

def byteV (z : Int) : List V := [.int .u8 z]
def intV (z : Int) : List V := [I z]
def tri (p : Int × Int × Int) : List V := [I p.1, I p.2.1, I p.2.2]
theorem elB : ElT cx 22 5 0 := ⟨rfl, rfl, rfl, ⟨_, rfl, by decide⟩⟩
theorem elR : ElT cx 133 158 2 := ⟨rfl, rfl, rfl, ⟨_, rfl, by decide⟩⟩
theorem elI : ElT cx 32 3 0 := ⟨rfl, rfl, rfl, ⟨_, rfl, by decide⟩⟩

structure St where
  bs : List Int
  most : Int
  rows : List (Int × Int × Int)
  live : Int
structure StoreAt (h : HH) (c p : Nat) (vb vr : V) (st : St) : Prop where
  obj : MapI.get h p = some (.cells true true [vb, I st.most, vr, I st.live])
  bytes : ListOf 1 byteV h c vb st.bs
  rows : ListOf 3 tri h c vr st.rows
  lp : p < c
  nb : ∀ n ∈ rowName vb, n ≠ p
  nr : ∀ n ∈ rowName vr, n ≠ p
  br : ∀ n ∈ rowName vb, n ∉ rowName vr
theorem StoreAt.keep {h h' : HH} {c c' p : Nat} {vb vr : V} {st : St} (r : StoreAt h c p vb vr st) (hc : c ≤ c') (e : ∀ n, n < c → MapI.get h' n = MapI.get h n) : StoreAt h' c' p vb vr st :=
  ⟨by rw [e p r.lp]; exact r.obj, r.bytes.keep hc fun n hn _ => e n hn, r.rows.keep hc fun n hn _ => e n hn, Nat.lt_of_lt_of_le r.lp hc, r.nb, r.nr, r.br⟩

theorem snew_ok {h : HH} {c : Nat} {most : Int} (h0 : 0 ≤ most) (h1 : most ≤ 1048576) : Does 35 [I most] h c [] fun v h' c' => v = .ptr (some (c, 0)) ∧ c' = c + 1 ∧ StoreAt h' c' c (.slice none 0 (.known 0)) (.slice none 0 (.known 0)) ⟨[], most, [], 0⟩ := by
  refine does_of (enter (fn := Try.f35) Try.func35 rfl rfl (Nat.le_of_ble_eq_true rfl) ?_)
  repeat' (first
    | refine WpC.seq ?_
    | refine WpC.region ?_
    | refine WpC.drawn ?_
    | refine WpC.skip ?_
    | refine WpC.block ?_
    | refine WpC.exit ?_
    | refine WpC.ret ?_
    | refine WpO.nil ?_
    | refine WpO.cons rfl rfl (WpX.pure (fun _ => rfl) ⟨nolog, ?_⟩)
    | refine WpO.skip rfl rfl ?_
    | refine WpL.cons rfl rfl (WpX.pure (fun _ => rfl) ⟨nolog, ?_⟩)
    | refine WpL.skip rfl rfl ?_
    | refine seqQ_normal ?_
    | refine seqQ_ret ?_
    | refine seqQ_exit ?_
    | refine blkQ_normal ?_
    | refine blkQ_ret ?_
    | refine blkQ_out rfl ?_
    | refine blkQ_by rfl ?_)
  have e0 : decide (most < 0) = false := by simpa using h0
  have e1 : decide (most > 1048576) = false := by simpa using h1
  simp only [e0]
  repeat' (first
    | refine WpC.seq ?_
    | refine WpC.region ?_
    | refine WpC.drawn ?_
    | refine WpC.skip ?_
    | refine WpC.block ?_
    | refine WpC.exit ?_
    | refine WpC.ret ?_
    | refine WpO.nil ?_
    | refine WpO.cons rfl rfl (WpX.pure (fun _ => rfl) ⟨nolog, ?_⟩)
    | refine WpO.skip rfl rfl ?_
    | refine WpL.cons rfl rfl (WpX.pure (fun _ => rfl) ⟨nolog, ?_⟩)
    | refine WpL.skip rfl rfl ?_
    | refine seqQ_normal ?_
    | refine seqQ_ret ?_
    | refine seqQ_exit ?_
    | refine blkQ_normal ?_
    | refine blkQ_ret ?_
    | refine blkQ_out rfl ?_
    | refine blkQ_by rfl ?_)
  refine WpC.cond rfl (fun hb => by rw [e1] at hb; cases hb) (fun _ => ?_)
  repeat' (first
    | refine WpC.seq ?_
    | refine WpC.region ?_
    | refine WpC.drawn ?_
    | refine WpC.skip ?_
    | refine WpC.block ?_
    | refine WpC.exit ?_
    | refine WpC.ret ?_
    | refine WpO.nil ?_
    | refine WpO.cons rfl rfl (WpX.pure (fun _ => rfl) ⟨nolog, ?_⟩)
    | refine WpO.skip rfl rfl ?_
    | refine WpL.cons rfl rfl (WpX.pure (fun _ => rfl) ⟨nolog, ?_⟩)
    | refine WpL.skip rfl rfl ?_
    | refine seqQ_normal ?_
    | refine seqQ_ret ?_
    | refine seqQ_exit ?_
    | refine blkQ_normal ?_
    | refine blkQ_ret ?_
    | refine blkQ_out rfl ?_
    | refine blkQ_by rfl ?_
    | refine WpO.cons rfl rfl (op_box rfl ⟨(by simp [InL, Acc.name, rowName] <;> omega), ?_⟩)
    | refine WpL.cons rfl rfl (op_box rfl ⟨(by simp [InL, Acc.name, rowName] <;> omega), ?_⟩))
  refine out_ret rfl ⟨rfl, rfl, MapI.get_same _ _ _, .nil, .nil, Nat.lt_succ_self _, fun n hn => (by cases hn), fun n hn => (by cases hn), fun n hn => by cases hn⟩

theorem tri_len (x : Int × Int × Int) : (tri x).length = 3 := rfl
theorem tri_all (x : Int × Int × Int) : (tri x).all one1 = true := rfl
theorem byte_len (x : Int) : (byteV x).length = 1 := rfl
theorem byte_all (x : Int) : (byteV x).all one1 = true := rfl
theorem int_len (x : Int) : (intV x).length = 1 := rfl
theorem int_all (x : Int) : (intV x).all one1 = true := rfl

/-- free: the first row that nobody holds; else a new one behind all. -/
theorem free_ok {h : HH} {c p : Nat} {vb vr : V} {st : St} (r : StoreAt h c p vb vr st) (hlen : st.rows.length ≤ 1000) :
    Does 117 [.ptr (some (p, 0))] h c (p :: rowName vr) fun v h' c' => ∃ i : Nat, v = I i ∧ ((∃ q, st.rows[i]? = some q ∧ q.2.2 = 0 ∧ (∀ j q, j < i → st.rows[j]? = some q → q.2.2 ≠ 0) ∧ StoreAt h' c' p vb vr st) ∨
      (i = st.rows.length ∧ (∀ j q, j < st.rows.length → st.rows[j]? = some q → q.2.2 ≠ 0) ∧ ∃ vr', StoreAt h' c' p vb vr' { st with rows := st.rows ++ [(0, 0, 0)] } ∧ ∀ a ∈ rowName vr', a ∈ rowName vr ∨ c ≤ a)) := by
  have hobj := r.obj
  have hlp := r.lp
  obtain ⟨s, cap, rfl, hs⟩ := r.rows.shape
  refine does_of (enter (fn := Try.f117) Try.func117 rfl rfl (Nat.le_of_ble_eq_true rfl) ?_)
  repeat' (first
    | refine WpC.seq ?_
    | refine WpC.region ?_
    | refine WpC.drawn ?_
    | refine WpC.skip ?_
    | refine WpC.block ?_
    | refine WpC.exit ?_
    | refine WpC.ret ?_
    | refine WpO.nil ?_
    | refine WpO.cons rfl rfl (WpX.pure (fun _ => rfl) ⟨nolog, ?_⟩)
    | refine WpO.skip rfl rfl ?_
    | refine WpL.cons rfl rfl (WpX.pure (fun _ => rfl) ⟨nolog, ?_⟩)
    | refine WpL.skip rfl rfl ?_
    | refine seqQ_normal ?_
    | refine seqQ_ret ?_
    | refine seqQ_exit ?_
    | refine blkQ_normal ?_
    | refine blkQ_ret ?_
    | refine blkQ_out rfl ?_
    | refine blkQ_by rfl ?_
    | refine WpO.cons rfl rfl (op_load rfl rfl rfl hobj rfl ⟨(by simp [InL, Acc.name, rowName] <;> omega), ?_⟩)
    | refine WpL.cons rfl rfl (op_load rfl rfl rfl hobj rfl ⟨(by simp [InL, Acc.name, rowName] <;> omega), ?_⟩)
    | refine WpO.cons rfl rfl (op_len rfl rfl rfl ⟨(by simp [InL, Acc.name, rowName] <;> omega), ?_⟩)
    | refine WpL.cons rfl rfl (op_len rfl rfl rfl ⟨(by simp [InL, Acc.name, rowName] <;> omega), ?_⟩))
  refine WpC.loop ?_
  refine WpLoop.ind (X := Nat) (fun i e h' c' => (∃ b0, e = MapI.set (MapI.set (MapI.set (MapI.set b0 0 (.ptr (some (p, 0)))) 8 (.slice s st.rows.length cap)) 9 (I st.rows.length)) 10 (I i)) ∧ i ≤ st.rows.length ∧ (∀ j q, j < i → st.rows[j]? = some q → q.2.2 ≠ 0) ∧ c ≤ c' ∧ ∀ n, n < c → MapI.get h' n = MapI.get h n) (fun i => st.rows.length - i) ?_ 0 _ _ _ ⟨set4 rfl rfl rfl rfl, Nat.zero_le _, fun j q hj => by omega, Nat.le_refl _, fun n _ => rfl⟩
  rintro i e h' c' ⟨⟨b0, rfl⟩, hi, hb, hc, hfr⟩
  repeat' (first
    | refine WpC.seq ?_
    | refine WpC.region ?_
    | refine WpC.drawn ?_
    | refine WpC.skip ?_
    | refine WpC.block ?_
    | refine WpC.exit ?_
    | refine WpC.ret ?_
    | refine WpO.nil ?_
    | refine WpO.cons rfl rfl (WpX.pure (fun _ => rfl) ⟨nolog, ?_⟩)
    | refine WpO.skip rfl rfl ?_
    | refine WpL.cons rfl rfl (WpX.pure (fun _ => rfl) ⟨nolog, ?_⟩)
    | refine WpL.skip rfl rfl ?_
    | refine seqQ_normal ?_
    | refine seqQ_ret ?_
    | refine seqQ_exit ?_
    | refine blkQ_normal ?_
    | refine blkQ_ret ?_
    | refine blkQ_out rfl ?_
    | refine blkQ_by rfl ?_)
  refine WpC.cond rfl (fun hlt => ?_) (fun hge => ?_)
  case refine_2 =>
    have hge : st.rows.length ≤ i := by simpa using hge
    have hobj' : MapI.get h' p = some (.cells true true [vb, I st.most, .slice s st.rows.length cap, I st.live]) := by rw [hfr p hlp]; exact hobj
    have hrows' : ListOf (2 + 1) tri h' c' (.slice s st.rows.length cap) st.rows := r.rows.keep hc fun n hn _ => hfr n hn
    have b1 : MapI.get (MapI.set h' c' (.cells true true [I 0, I 0, I 0])) c' = some (.cells true true [I 0, I 0, I 0]) := MapI.get_same _ _ _
    have hrows2 : ListOf (2 + 1) tri (MapI.set h' c' (.cells true true [I 0, I 0, I 0])) (c' + 1) (.slice s st.rows.length cap) st.rows := hrows'.keep (by omega) fun n hn _ => MapI.get_ne _ _ _ _ (by omega)
    have hlt0 := r.rows.lt
    have hwl : IntKind.i64.wrap ((st.rows.length + 1 : Nat) - 1 : Int) = (st.rows.length : Int) := by rw [Go.IntWalk.i64_in _ (by omega)]; omega
    repeat' (first
      | refine WpC.seq ?_
      | refine WpC.region ?_
      | refine WpC.drawn ?_
      | refine WpC.skip ?_
      | refine WpC.block ?_
      | refine WpC.exit ?_
      | refine WpC.ret ?_
      | refine WpO.nil ?_
      | refine WpO.cons rfl rfl (WpX.pure (fun _ => rfl) ⟨nolog, ?_⟩)
      | refine WpO.skip rfl rfl ?_
      | refine WpL.cons rfl rfl (WpX.pure (fun _ => rfl) ⟨nolog, ?_⟩)
      | refine WpL.skip rfl rfl ?_
      | refine seqQ_normal ?_
      | refine seqQ_ret ?_
      | refine seqQ_exit ?_
      | refine blkQ_normal ?_
      | refine blkQ_ret ?_
      | refine blkQ_out rfl ?_
      | refine blkQ_by rfl ?_
      | refine WpO.cons rfl rfl (op_load rfl rfl rfl hobj' rfl ⟨(by simp [InL, Acc.name, rowName] <;> omega), ?_⟩)
      | refine WpL.cons rfl rfl (op_load rfl rfl rfl hobj' rfl ⟨(by simp [InL, Acc.name, rowName] <;> omega), ?_⟩)
      | refine WpO.cons rfl rfl (op_buildSlice rfl rfl rfl rfl (by decide) rfl ⟨(by simp [InL, Acc.name, rowName] <;> omega), ?_⟩)
      | refine WpL.cons rfl rfl (op_buildSlice rfl rfl rfl rfl (by decide) rfl ⟨(by simp [InL, Acc.name, rowName] <;> omega), ?_⟩))
    refine WpO.cons rfl rfl (append_at (ys := [(0, 0, 0)]) rfl rfl elR rfl tri_len tri_all hrows2 b1 rfl rfl (by omega) (.inr (by simp [Acc.name]; omega)) (fun a ha => ⟨.inl (by simp [Acc.name, ha]), .inl (by simp [Acc.name, ha])⟩) (.inr (by simp [Acc.name]; omega)) fun v2 h2 c2 hl2 hn2 hc2 hf2 => ?_)
    have hobj2 : MapI.get h2 p = some (.cells true true [vb, I st.most, .slice s st.rows.length cap, I st.live]) := by
      rw [hf2 p (by omega) (fun hm => r.nr p hm rfl), MapI.get_ne _ _ _ _ (by omega)]; exact hobj'
    obtain ⟨s2, cap2, hv2, _⟩ := hl2.shape
    have hone := hl2.one
    repeat' (first
      | refine WpC.seq ?_
      | refine WpC.region ?_
      | refine WpC.drawn ?_
      | refine WpC.skip ?_
      | refine WpC.block ?_
      | refine WpC.exit ?_
      | refine WpC.ret ?_
      | refine WpO.nil ?_
      | refine WpO.cons rfl rfl (WpX.pure (fun _ => rfl) ⟨nolog, ?_⟩)
      | refine WpO.skip rfl rfl ?_
      | refine WpL.cons rfl rfl (WpX.pure (fun _ => rfl) ⟨nolog, ?_⟩)
      | refine WpL.skip rfl rfl ?_
      | refine seqQ_normal ?_
      | refine seqQ_ret ?_
      | refine seqQ_exit ?_
      | refine blkQ_normal ?_
      | refine blkQ_ret ?_
      | refine blkQ_out rfl ?_
      | refine blkQ_by rfl ?_
      | refine WpO.cons rfl rfl (op_store (k := 1) rfl rfl rfl (by rw [hone.1]; rfl) hobj2 (Nat.le_of_ble_eq_true rfl) (by rw [hone.1]; simp [hone.2]) ⟨(by simp [InL, Acc.name, rowName] <;> omega), ?_⟩)
      | refine WpL.cons rfl rfl (op_store (k := 1) rfl rfl rfl (by rw [hone.1]; rfl) hobj2 (Nat.le_of_ble_eq_true rfl) (by rw [hone.1]; simp [hone.2]) ⟨(by simp [InL, Acc.name, rowName] <;> omega), ?_⟩))
    have hp2 : ∀ a ∈ rowName v2, a ≠ p := fun a ha e => by
      rcases hn2 a ha with h | ⟨h, _⟩
      · exact r.nr a h e
      · omega
    have hobj3 : MapI.get (MapI.set h2 p (.cells true true (setAll [vb, I st.most, .slice s st.rows.length cap, I st.live] 2 (cellsV v2)))) p = some (.cells true true [vb, I st.most, .slice s2 (st.rows ++ [(0, 0, 0)]).length cap2, I st.live]) := by
      rw [MapI.get_same, hone.1, ← hv2]; rfl
    repeat' (first
      | refine WpC.seq ?_
      | refine WpC.region ?_
      | refine WpC.drawn ?_
      | refine WpC.skip ?_
      | refine WpC.block ?_
      | refine WpC.exit ?_
      | refine WpC.ret ?_
      | refine WpO.nil ?_
      | refine WpO.cons rfl rfl (WpX.pure (fun _ => rfl) ⟨nolog, ?_⟩)
      | refine WpO.skip rfl rfl ?_
      | refine WpL.cons rfl rfl (WpX.pure (fun _ => rfl) ⟨nolog, ?_⟩)
      | refine WpL.skip rfl rfl ?_
      | refine seqQ_normal ?_
      | refine seqQ_ret ?_
      | refine seqQ_exit ?_
      | refine blkQ_normal ?_
      | refine blkQ_ret ?_
      | refine blkQ_out rfl ?_
      | refine blkQ_by rfl ?_
      | refine WpO.cons rfl rfl (op_load rfl rfl rfl hobj3 rfl ⟨(by simp [InL, Acc.name, rowName] <;> omega), ?_⟩)
      | refine WpL.cons rfl rfl (op_load rfl rfl rfl hobj3 rfl ⟨(by simp [InL, Acc.name, rowName] <;> omega), ?_⟩)
      | refine WpO.cons rfl rfl (op_len rfl rfl rfl ⟨(by simp [InL, Acc.name, rowName] <;> omega), ?_⟩)
      | refine WpL.cons rfl rfl (op_len rfl rfl rfl ⟨(by simp [InL, Acc.name, rowName] <;> omega), ?_⟩))
    refine out_ret rfl ⟨st.rows.length, ?_, .inr ⟨rfl, fun j q hj hq => hb j q (by omega) hq, v2, ⟨?_, ?_, ?_, by omega, r.nb, hp2, ?_⟩, fun a ha => ?_⟩⟩
    · simp only [List.length_append, List.length_cons, List.length_nil, Nat.zero_add]; show V.int _ _ = _; rw [hwl]
    · rw [← hv2] at hobj3; exact hobj3
    · refine r.bytes.keep (by omega) fun n hn hm => ?_
      have hnp := r.nb n hm
      have hnr := r.br n hm
      rw [MapI.get_ne _ _ _ _ (Ne.symm hnp), hf2 n (by omega) hnr, MapI.get_ne _ _ _ _ (by omega)]
      exact hfr n hn
    · exact hl2.keep (Nat.le_refl _) fun n hn hm => MapI.get_ne _ _ _ _ (Ne.symm (hp2 n hm))
    · intro n hn hm
      rcases hn2 n hm with h | ⟨h, _⟩
      · exact r.br n hn h
      · have := r.bytes.lt n hn; omega
    · rcases hn2 a ha with h | ⟨h, _⟩
      · exact .inl h
      · exact .inr (by omega)
  have hlt : i < st.rows.length := by simpa using hlt
  obtain ⟨rfl, sn, cl, junk, rfl, hsn, hg, _⟩ := hs i hlt
  have hg' : MapI.get h' sn = some (.cells true cl (flat tri st.rows ++ junk)) := by rw [hfr sn hsn]; exact hg
  obtain ⟨⟨z0, z1, z2⟩, hz⟩ : ∃ z, st.rows[i]? = some z := ⟨_, List.getElem?_eq_getElem hlt⟩
  have hct : cut (flat tri st.rows ++ junk) (0 + ((i : Nat) : Int).toNat * 3) 3 = some (tri (z0, z1, z2)) := by
    have : 0 + ((i : Nat) : Int).toNat * 3 = i * 3 := by simp
    rw [this]; exact cut_flat tri_len hz junk
  have hw1 : IntKind.i64.wrap ((i : Int) + 1) = ((i + 1 : Nat) : Int) := by rw [Go.IntWalk.i64_in _ (by omega)]; omega
  have hgc : ∀ x : AObj, MapI.get (MapI.set h' c' x) c' = some x := fun x => MapI.get_same _ _ _
  have hd : ∀ (x : AObj) (y : AObj), MapI.get (MapI.set (MapI.set h' c' x) c' y) c' = some y := fun x y => MapI.get_same _ _ _
  repeat' (first
    | refine WpC.seq ?_
    | refine WpC.region ?_
    | refine WpC.drawn ?_
    | refine WpC.skip ?_
    | refine WpC.block ?_
    | refine WpC.exit ?_
    | refine WpC.ret ?_
    | refine WpO.nil ?_
    | refine WpO.cons rfl rfl (WpX.pure (fun _ => rfl) ⟨nolog, ?_⟩)
    | refine WpO.skip rfl rfl ?_
    | refine WpL.cons rfl rfl (WpX.pure (fun _ => rfl) ⟨nolog, ?_⟩)
    | refine WpL.skip rfl rfl ?_
    | refine seqQ_normal ?_
    | refine seqQ_ret ?_
    | refine seqQ_exit ?_
    | refine blkQ_normal ?_
    | refine blkQ_ret ?_
    | refine blkQ_out rfl ?_
    | refine blkQ_by rfl ?_
    | refine WpO.cons rfl rfl (op_indexAddr (k := 3) rfl rfl rfl rfl ⟨by omega, by omega⟩ ⟨(by simp [InL, Acc.name, rowName] <;> omega), ?_⟩)
    | refine WpL.cons rfl rfl (op_indexAddr (k := 3) rfl rfl rfl rfl ⟨by omega, by omega⟩ ⟨(by simp [InL, Acc.name, rowName] <;> omega), ?_⟩)
    | refine WpO.cons rfl rfl (op_loadA rfl rfl rfl rfl hg' hct ⟨(by simp [InL, Acc.name, rowName] <;> omega), ?_⟩)
    | refine WpL.cons rfl rfl (op_loadA rfl rfl rfl rfl hg' hct ⟨(by simp [InL, Acc.name, rowName] <;> omega), ?_⟩)
    | refine WpO.cons rfl rfl (op_alloc rfl ⟨(by simp [InL, Acc.name, rowName] <;> omega), ?_⟩)
    | refine WpL.cons rfl rfl (op_alloc rfl ⟨(by simp [InL, Acc.name, rowName] <;> omega), ?_⟩)
    | refine WpO.cons rfl rfl (op_store rfl rfl rfl rfl (hgc _) (Nat.le_refl _) rfl ⟨(by simp [InL, Acc.name, rowName] <;> omega), ?_⟩)
    | refine WpL.cons rfl rfl (op_store rfl rfl rfl rfl (hgc _) (Nat.le_refl _) rfl ⟨(by simp [InL, Acc.name, rowName] <;> omega), ?_⟩)
    | refine WpO.cons rfl rfl (op_load rfl rfl rfl (hd _ _) rfl ⟨(by simp [InL, Acc.name, rowName] <;> omega), ?_⟩)
    | refine WpL.cons rfl rfl (op_load rfl rfl rfl (hd _ _) rfl ⟨(by simp [InL, Acc.name, rowName] <;> omega), ?_⟩))
  refine WpC.cond rfl (fun heq => ?_) (fun hne => ?_)
  · have heq : z2 = 0 := by simpa using heq
    repeat' (first
      | refine WpC.seq ?_
      | refine WpC.region ?_
      | refine WpC.drawn ?_
      | refine WpC.skip ?_
      | refine WpC.block ?_
      | refine WpC.exit ?_
      | refine WpC.ret ?_
      | refine WpO.nil ?_
      | refine WpO.cons rfl rfl (WpX.pure (fun _ => rfl) ⟨nolog, ?_⟩)
      | refine WpO.skip rfl rfl ?_
      | refine WpL.cons rfl rfl (WpX.pure (fun _ => rfl) ⟨nolog, ?_⟩)
      | refine WpL.skip rfl rfl ?_
      | refine seqQ_normal ?_
      | refine seqQ_ret ?_
      | refine seqQ_exit ?_
      | refine blkQ_normal ?_
      | refine blkQ_ret ?_
      | refine blkQ_out rfl ?_
      | refine blkQ_by rfl ?_)
    refine out_ret rfl ⟨i, rfl, .inl ⟨_, hz, heq, fun j q hj hq => hb j q hj hq, r.keep (by omega) fun n hn => ?_⟩⟩
    rw [MapI.get_ne _ _ _ _ (by omega), MapI.get_ne _ _ _ _ (by omega)]; exact hfr n hn
  · have hne : z2 ≠ 0 := by simpa using hne
    repeat' (first
      | refine WpC.seq ?_
      | refine WpC.region ?_
      | refine WpC.drawn ?_
      | refine WpC.skip ?_
      | refine WpC.block ?_
      | refine WpC.exit ?_
      | refine WpC.ret ?_
      | refine WpO.nil ?_
      | refine WpO.cons rfl rfl (WpX.pure (fun _ => rfl) ⟨nolog, ?_⟩)
      | refine WpO.skip rfl rfl ?_
      | refine WpL.cons rfl rfl (WpX.pure (fun _ => rfl) ⟨nolog, ?_⟩)
      | refine WpL.skip rfl rfl ?_
      | refine seqQ_normal ?_
      | refine seqQ_ret ?_
      | refine seqQ_exit ?_
      | refine blkQ_normal ?_
      | refine blkQ_ret ?_
      | refine blkQ_out rfl ?_
      | refine blkQ_by rfl ?_)
    refine ⟨i + 1, by omega, ?_, by omega, fun j q hj hq => ?_, by omega, fun n hn => ?_⟩
    · rw [hw1]
      exact set4 rfl rfl rfl rfl
    · by_cases e : j = i
      · subst e; rw [hz] at hq; cases hq; exact hne
      · exact hb j q (by omega) hq
    · rw [MapI.get_ne _ _ _ _ (by omega), MapI.get_ne _ _ _ _ (by omega)]; exact hfr n hn
end Go.Proofs.Ytempfmkicpifkaa
