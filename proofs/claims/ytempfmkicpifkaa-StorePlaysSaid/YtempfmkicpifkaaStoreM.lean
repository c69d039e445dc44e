/- The store's functions: what each does to bytes and rows. -/
/- The store's functions: handles. -/
/- The store's functions: Handles, Grant without a slide. -/
/- The store's functions: Grant where nothing must slide; awake. -/
/- The store's awake. Counting. -/
/- The store's functions: Place, Look; bytes.Clone; same. -/
/- The store's functions: Look; lying and Look, and one row alone is held. -/
import Derived.Test.YtempfmkicpifkaaAd7
import Derived.Test.YtempfmkicpifkaaAd8


set_option linter.unusedVariables false
set_option linter.unusedSectionVars false
set_option linter.unusedSimpArgs false
set_option linter.unnecessarySimpa false
namespace Go.Proofs.Ytempfmkicpifkaa
open Go.Ab
set_option maxRecDepth 10000

def byteV (z : Int) : List V := [.int .u8 z]
def intV (z : Int) : List V := [I z]
def tri (p : Int × Int × Int) : List V := [I p.1, I p.2.1, I p.2.2]
theorem elB : ElT cx 22 5 0 := ⟨rfl, rfl, rfl, ⟨_, rfl, by decide⟩⟩
theorem elR : ElT cx 133 158 2 := ⟨rfl, rfl, rfl, ⟨_, rfl, by decide⟩⟩
theorem elI : ElT cx 32 3 0 := ⟨rfl, rfl, rfl, ⟨_, rfl, by decide⟩⟩

structure St where
  bs : List Int
  most : Int
  rows : List (Int × Int × Int)
  live : Int
structure StoreAt (h : HH) (c p : Nat) (vb vr : V) (st : St) : Prop where
  obj : MapI.get h p = some (.cells true true [vb, I st.most, vr, I st.live])
  bytes : ListOf 1 byteV h c vb st.bs
  rows : ListOf 3 tri h c vr st.rows
  lp : p < c
  nb : ∀ n ∈ rowName vb, n ≠ p
  nr : ∀ n ∈ rowName vr, n ≠ p
  br : ∀ n ∈ rowName vb, n ∉ rowName vr
theorem StoreAt.keep {h h' : HH} {c c' p : Nat} {vb vr : V} {st : St} (r : StoreAt h c p vb vr st) (hc : c ≤ c') (e : ∀ n, n < c → MapI.get h' n = MapI.get h n) : StoreAt h' c' p vb vr st :=
  ⟨by rw [e p r.lp]; exact r.obj, r.bytes.keep hc fun n hn _ => e n hn, r.rows.keep hc fun n hn _ => e n hn, Nat.lt_of_lt_of_le r.lp hc, r.nb, r.nr, r.br⟩

theorem snew_ok {h : HH} {c : Nat} {most : Int} (h0 : 0 ≤ most) (h1 : most ≤ 1048576) : Does 35 [I most] h c [] fun v h' c' => v = .ptr (some (c, 0)) ∧ c' = c + 1 ∧ StoreAt h' c' c (.slice none 0 (.known 0)) (.slice none 0 (.known 0)) ⟨[], most, [], 0⟩ := by
  refine does_of (enter (fn := Try.f35) Try.func35 rfl rfl (Nat.le_of_ble_eq_true rfl) ?_)
  repeat' (first
    | refine WpC.seq ?_
    | refine WpC.region ?_
    | refine WpC.drawn ?_
    | refine WpC.skip ?_
    | refine WpC.block ?_
    | refine WpC.exit ?_
    | refine WpC.ret ?_
    | refine WpO.nil ?_
    | refine WpO.cons rfl rfl (WpX.pure (fun _ => rfl) ⟨nolog, ?_⟩)
    | refine WpO.skip rfl rfl ?_
    | refine WpL.cons rfl rfl (WpX.pure (fun _ => rfl) ⟨nolog, ?_⟩)
    | refine WpL.skip rfl rfl ?_
    | refine seqQ_normal ?_
    | refine seqQ_ret ?_
    | refine seqQ_exit ?_
    | refine blkQ_normal ?_
    | refine blkQ_ret ?_
    | refine blkQ_out rfl ?_
    | refine blkQ_by rfl ?_)
  have e0 : decide (most < 0) = false := by simpa using h0
  have e1 : decide (most > 1048576) = false := by simpa using h1
  simp only [e0]
  repeat' (first
    | refine WpC.seq ?_
    | refine WpC.region ?_
    | refine WpC.drawn ?_
    | refine WpC.skip ?_
    | refine WpC.block ?_
    | refine WpC.exit ?_
    | refine WpC.ret ?_
    | refine WpO.nil ?_
    | refine WpO.cons rfl rfl (WpX.pure (fun _ => rfl) ⟨nolog, ?_⟩)
    | refine WpO.skip rfl rfl ?_
    | refine WpL.cons rfl rfl (WpX.pure (fun _ => rfl) ⟨nolog, ?_⟩)
    | refine WpL.skip rfl rfl ?_
    | refine seqQ_normal ?_
    | refine seqQ_ret ?_
    | refine seqQ_exit ?_
    | refine blkQ_normal ?_
    | refine blkQ_ret ?_
    | refine blkQ_out rfl ?_
    | refine blkQ_by rfl ?_)
  refine WpC.cond rfl (fun hb => by rw [e1] at hb; cases hb) (fun _ => ?_)
  repeat' (first
    | refine WpC.seq ?_
    | refine WpC.region ?_
    | refine WpC.drawn ?_
    | refine WpC.skip ?_
    | refine WpC.block ?_
    | refine WpC.exit ?_
    | refine WpC.ret ?_
    | refine WpO.nil ?_
    | refine WpO.cons rfl rfl (WpX.pure (fun _ => rfl) ⟨nolog, ?_⟩)
    | refine WpO.skip rfl rfl ?_
    | refine WpL.cons rfl rfl (WpX.pure (fun _ => rfl) ⟨nolog, ?_⟩)
    | refine WpL.skip rfl rfl ?_
    | refine seqQ_normal ?_
    | refine seqQ_ret ?_
    | refine seqQ_exit ?_
    | refine blkQ_normal ?_
    | refine blkQ_ret ?_
    | refine blkQ_out rfl ?_
    | refine blkQ_by rfl ?_
    | refine WpO.cons rfl rfl (op_box rfl ⟨(by simp [InL, Acc.name, rowName] <;> omega), ?_⟩)
    | refine WpL.cons rfl rfl (op_box rfl ⟨(by simp [InL, Acc.name, rowName] <;> omega), ?_⟩))
  refine out_ret rfl ⟨rfl, rfl, MapI.get_same _ _ _, .nil, .nil, Nat.lt_succ_self _, fun n hn => (by cases hn), fun n hn => (by cases hn), fun n hn => by cases hn⟩

theorem tri_len (x : Int × Int × Int) : (tri x).length = 3 := rfl
theorem tri_all (x : Int × Int × Int) : (tri x).all one1 = true := rfl
theorem byte_len (x : Int) : (byteV x).length = 1 := rfl
theorem byte_all (x : Int) : (byteV x).all one1 = true := rfl
theorem int_len (x : Int) : (intV x).length = 1 := rfl
theorem int_all (x : Int) : (intV x).all one1 = true := rfl

/-- free: the first row that nobody holds; else a new one behind all. -/
theorem free_ok {h : HH} {c p : Nat} {vb vr : V} {st : St} (r : StoreAt h c p vb vr st) (hlen : st.rows.length ≤ 1000) :
    Does 117 [.ptr (some (p, 0))] h c (p :: rowName vr) fun v h' c' => ∃ i : Nat, v = I i ∧ ((∃ q, st.rows[i]? = some q ∧ q.2.2 = 0 ∧ (∀ j q, j < i → st.rows[j]? = some q → q.2.2 ≠ 0) ∧ StoreAt h' c' p vb vr st) ∨
      (i = st.rows.length ∧ (∀ j q, j < st.rows.length → st.rows[j]? = some q → q.2.2 ≠ 0) ∧ ∃ vr', StoreAt h' c' p vb vr' { st with rows := st.rows ++ [(0, 0, 0)] } ∧ ∀ a ∈ rowName vr', a ∈ rowName vr ∨ c ≤ a)) := by
  have hobj := r.obj
  have hlp := r.lp
  obtain ⟨s, cap, rfl, hs⟩ := r.rows.shape
  refine does_of (enter (fn := Try.f117) Try.func117 rfl rfl (Nat.le_of_ble_eq_true rfl) ?_)
  repeat' (first
    | refine WpC.seq ?_
    | refine WpC.region ?_
    | refine WpC.drawn ?_
    | refine WpC.skip ?_
    | refine WpC.block ?_
    | refine WpC.exit ?_
    | refine WpC.ret ?_
    | refine WpO.nil ?_
    | refine WpO.cons rfl rfl (WpX.pure (fun _ => rfl) ⟨nolog, ?_⟩)
    | refine WpO.skip rfl rfl ?_
    | refine WpL.cons rfl rfl (WpX.pure (fun _ => rfl) ⟨nolog, ?_⟩)
    | refine WpL.skip rfl rfl ?_
    | refine seqQ_normal ?_
    | refine seqQ_ret ?_
    | refine seqQ_exit ?_
    | refine blkQ_normal ?_
    | refine blkQ_ret ?_
    | refine blkQ_out rfl ?_
    | refine blkQ_by rfl ?_
    | refine WpO.cons rfl rfl (op_load rfl rfl rfl hobj rfl ⟨(by simp [InL, Acc.name, rowName] <;> omega), ?_⟩)
    | refine WpL.cons rfl rfl (op_load rfl rfl rfl hobj rfl ⟨(by simp [InL, Acc.name, rowName] <;> omega), ?_⟩)
    | refine WpO.cons rfl rfl (op_len rfl rfl rfl ⟨(by simp [InL, Acc.name, rowName] <;> omega), ?_⟩)
    | refine WpL.cons rfl rfl (op_len rfl rfl rfl ⟨(by simp [InL, Acc.name, rowName] <;> omega), ?_⟩))
  refine WpC.loop ?_
  refine WpLoop.ind (X := Nat) (fun i e h' c' => (∃ b0, e = MapI.set (MapI.set (MapI.set (MapI.set b0 0 (.ptr (some (p, 0)))) 8 (.slice s st.rows.length cap)) 9 (I st.rows.length)) 10 (I i)) ∧ i ≤ st.rows.length ∧ (∀ j q, j < i → st.rows[j]? = some q → q.2.2 ≠ 0) ∧ c ≤ c' ∧ ∀ n, n < c → MapI.get h' n = MapI.get h n) (fun i => st.rows.length - i) ?_ 0 _ _ _ ⟨set4 rfl rfl rfl rfl, Nat.zero_le _, fun j q hj => by omega, Nat.le_refl _, fun n _ => rfl⟩
  rintro i e h' c' ⟨⟨b0, rfl⟩, hi, hb, hc, hfr⟩
  repeat' (first
    | refine WpC.seq ?_
    | refine WpC.region ?_
    | refine WpC.drawn ?_
    | refine WpC.skip ?_
    | refine WpC.block ?_
    | refine WpC.exit ?_
    | refine WpC.ret ?_
    | refine WpO.nil ?_
    | refine WpO.cons rfl rfl (WpX.pure (fun _ => rfl) ⟨nolog, ?_⟩)
    | refine WpO.skip rfl rfl ?_
    | refine WpL.cons rfl rfl (WpX.pure (fun _ => rfl) ⟨nolog, ?_⟩)
    | refine WpL.skip rfl rfl ?_
    | refine seqQ_normal ?_
    | refine seqQ_ret ?_
    | refine seqQ_exit ?_
    | refine blkQ_normal ?_
    | refine blkQ_ret ?_
    | refine blkQ_out rfl ?_
    | refine blkQ_by rfl ?_)
  refine WpC.cond rfl (fun hlt => ?_) (fun hge => ?_)
  case refine_2 =>
    have hge : st.rows.length ≤ i := by simpa using hge
    have hobj' : MapI.get h' p = some (.cells true true [vb, I st.most, .slice s st.rows.length cap, I st.live]) := by rw [hfr p hlp]; exact hobj
    have hrows' : ListOf (2 + 1) tri h' c' (.slice s st.rows.length cap) st.rows := r.rows.keep hc fun n hn _ => hfr n hn
    have b1 : MapI.get (MapI.set h' c' (.cells true true [I 0, I 0, I 0])) c' = some (.cells true true [I 0, I 0, I 0]) := MapI.get_same _ _ _
    have hrows2 : ListOf (2 + 1) tri (MapI.set h' c' (.cells true true [I 0, I 0, I 0])) (c' + 1) (.slice s st.rows.length cap) st.rows := hrows'.keep (by omega) fun n hn _ => MapI.get_ne _ _ _ _ (by omega)
    have hlt0 := r.rows.lt
    have hwl : IntKind.i64.wrap ((st.rows.length + 1 : Nat) - 1 : Int) = (st.rows.length : Int) := by rw [Go.IntWalk.i64_in _ (by omega)]; omega
    repeat' (first
      | refine WpC.seq ?_
      | refine WpC.region ?_
      | refine WpC.drawn ?_
      | refine WpC.skip ?_
      | refine WpC.block ?_
      | refine WpC.exit ?_
      | refine WpC.ret ?_
      | refine WpO.nil ?_
      | refine WpO.cons rfl rfl (WpX.pure (fun _ => rfl) ⟨nolog, ?_⟩)
      | refine WpO.skip rfl rfl ?_
      | refine WpL.cons rfl rfl (WpX.pure (fun _ => rfl) ⟨nolog, ?_⟩)
      | refine WpL.skip rfl rfl ?_
      | refine seqQ_normal ?_
      | refine seqQ_ret ?_
      | refine seqQ_exit ?_
      | refine blkQ_normal ?_
      | refine blkQ_ret ?_
      | refine blkQ_out rfl ?_
      | refine blkQ_by rfl ?_
      | refine WpO.cons rfl rfl (op_load rfl rfl rfl hobj' rfl ⟨(by simp [InL, Acc.name, rowName] <;> omega), ?_⟩)
      | refine WpL.cons rfl rfl (op_load rfl rfl rfl hobj' rfl ⟨(by simp [InL, Acc.name, rowName] <;> omega), ?_⟩)
      | refine WpO.cons rfl rfl (op_buildSlice rfl rfl rfl rfl (by decide) rfl ⟨(by simp [InL, Acc.name, rowName] <;> omega), ?_⟩)
      | refine WpL.cons rfl rfl (op_buildSlice rfl rfl rfl rfl (by decide) rfl ⟨(by simp [InL, Acc.name, rowName] <;> omega), ?_⟩))
    refine WpO.cons rfl rfl (append_at (ys := [(0, 0, 0)]) rfl rfl elR rfl tri_len tri_all hrows2 b1 rfl rfl (by omega) (.inr (by simp [Acc.name]; omega)) (fun a ha => ⟨.inl (by simp [Acc.name, ha]), .inl (by simp [Acc.name, ha])⟩) (.inr (by simp [Acc.name]; omega)) fun v2 h2 c2 hl2 hn2 hc2 hf2 => ?_)
    have hobj2 : MapI.get h2 p = some (.cells true true [vb, I st.most, .slice s st.rows.length cap, I st.live]) := by
      rw [hf2 p (by omega) (fun hm => r.nr p hm rfl), MapI.get_ne _ _ _ _ (by omega)]; exact hobj'
    obtain ⟨s2, cap2, hv2, _⟩ := hl2.shape
    have hone := hl2.one
    repeat' (first
      | refine WpC.seq ?_
      | refine WpC.region ?_
      | refine WpC.drawn ?_
      | refine WpC.skip ?_
      | refine WpC.block ?_
      | refine WpC.exit ?_
      | refine WpC.ret ?_
      | refine WpO.nil ?_
      | refine WpO.cons rfl rfl (WpX.pure (fun _ => rfl) ⟨nolog, ?_⟩)
      | refine WpO.skip rfl rfl ?_
      | refine WpL.cons rfl rfl (WpX.pure (fun _ => rfl) ⟨nolog, ?_⟩)
      | refine WpL.skip rfl rfl ?_
      | refine seqQ_normal ?_
      | refine seqQ_ret ?_
      | refine seqQ_exit ?_
      | refine blkQ_normal ?_
      | refine blkQ_ret ?_
      | refine blkQ_out rfl ?_
      | refine blkQ_by rfl ?_
      | refine WpO.cons rfl rfl (op_store (k := 1) rfl rfl rfl (by rw [hone.1]; rfl) hobj2 (Nat.le_of_ble_eq_true rfl) (by rw [hone.1]; simp [hone.2]) ⟨(by simp [InL, Acc.name, rowName] <;> omega), ?_⟩)
      | refine WpL.cons rfl rfl (op_store (k := 1) rfl rfl rfl (by rw [hone.1]; rfl) hobj2 (Nat.le_of_ble_eq_true rfl) (by rw [hone.1]; simp [hone.2]) ⟨(by simp [InL, Acc.name, rowName] <;> omega), ?_⟩))
    have hp2 : ∀ a ∈ rowName v2, a ≠ p := fun a ha e => by
      rcases hn2 a ha with h | ⟨h, _⟩
      · exact r.nr a h e
      · omega
    have hobj3 : MapI.get (MapI.set h2 p (.cells true true (setAll [vb, I st.most, .slice s st.rows.length cap, I st.live] 2 (cellsV v2)))) p = some (.cells true true [vb, I st.most, .slice s2 (st.rows ++ [(0, 0, 0)]).length cap2, I st.live]) := by
      rw [MapI.get_same, hone.1, ← hv2]; rfl
    repeat' (first
      | refine WpC.seq ?_
      | refine WpC.region ?_
      | refine WpC.drawn ?_
      | refine WpC.skip ?_
      | refine WpC.block ?_
      | refine WpC.exit ?_
      | refine WpC.ret ?_
      | refine WpO.nil ?_
      | refine WpO.cons rfl rfl (WpX.pure (fun _ => rfl) ⟨nolog, ?_⟩)
      | refine WpO.skip rfl rfl ?_
      | refine WpL.cons rfl rfl (WpX.pure (fun _ => rfl) ⟨nolog, ?_⟩)
      | refine WpL.skip rfl rfl ?_
      | refine seqQ_normal ?_
      | refine seqQ_ret ?_
      | refine seqQ_exit ?_
      | refine blkQ_normal ?_
      | refine blkQ_ret ?_
      | refine blkQ_out rfl ?_
      | refine blkQ_by rfl ?_
      | refine WpO.cons rfl rfl (op_load rfl rfl rfl hobj3 rfl ⟨(by simp [InL, Acc.name, rowName] <;> omega), ?_⟩)
      | refine WpL.cons rfl rfl (op_load rfl rfl rfl hobj3 rfl ⟨(by simp [InL, Acc.name, rowName] <;> omega), ?_⟩)
      | refine WpO.cons rfl rfl (op_len rfl rfl rfl ⟨(by simp [InL, Acc.name, rowName] <;> omega), ?_⟩)
      | refine WpL.cons rfl rfl (op_len rfl rfl rfl ⟨(by simp [InL, Acc.name, rowName] <;> omega), ?_⟩))
    refine out_ret rfl ⟨st.rows.length, ?_, .inr ⟨rfl, fun j q hj hq => hb j q (by omega) hq, v2, ⟨?_, ?_, ?_, by omega, r.nb, hp2, ?_⟩, fun a ha => ?_⟩⟩
    · simp only [List.length_append, List.length_cons, List.length_nil, Nat.zero_add]; show V.int _ _ = _; rw [hwl]
    · rw [← hv2] at hobj3; exact hobj3
    · refine r.bytes.keep (by omega) fun n hn hm => ?_
      have hnp := r.nb n hm
      have hnr := r.br n hm
      rw [MapI.get_ne _ _ _ _ (Ne.symm hnp), hf2 n (by omega) hnr, MapI.get_ne _ _ _ _ (by omega)]
      exact hfr n hn
    · exact hl2.keep (Nat.le_refl _) fun n hn hm => MapI.get_ne _ _ _ _ (Ne.symm (hp2 n hm))
    · intro n hn hm
      rcases hn2 n hm with h | ⟨h, _⟩
      · exact r.br n hn h
      · have := r.bytes.lt n hn; omega
    · rcases hn2 a ha with h | ⟨h, _⟩
      · exact .inl h
      · exact .inr (by omega)
  have hlt : i < st.rows.length := by simpa using hlt
  obtain ⟨rfl, sn, cl, junk, rfl, hsn, hg, _⟩ := hs i hlt
  have hg' : MapI.get h' sn = some (.cells true cl (flat tri st.rows ++ junk)) := by rw [hfr sn hsn]; exact hg
  obtain ⟨⟨z0, z1, z2⟩, hz⟩ : ∃ z, st.rows[i]? = some z := ⟨_, List.getElem?_eq_getElem hlt⟩
  have hct : cut (flat tri st.rows ++ junk) (0 + ((i : Nat) : Int).toNat * 3) 3 = some (tri (z0, z1, z2)) := by
    have : 0 + ((i : Nat) : Int).toNat * 3 = i * 3 := by simp
    rw [this]; exact cut_flat tri_len hz junk
  have hw1 : IntKind.i64.wrap ((i : Int) + 1) = ((i + 1 : Nat) : Int) := by rw [Go.IntWalk.i64_in _ (by omega)]; omega
  have hgc : ∀ x : AObj, MapI.get (MapI.set h' c' x) c' = some x := fun x => MapI.get_same _ _ _
  have hd : ∀ (x : AObj) (y : AObj), MapI.get (MapI.set (MapI.set h' c' x) c' y) c' = some y := fun x y => MapI.get_same _ _ _
  repeat' (first
    | refine WpC.seq ?_
    | refine WpC.region ?_
    | refine WpC.drawn ?_
    | refine WpC.skip ?_
    | refine WpC.block ?_
    | refine WpC.exit ?_
    | refine WpC.ret ?_
    | refine WpO.nil ?_
    | refine WpO.cons rfl rfl (WpX.pure (fun _ => rfl) ⟨nolog, ?_⟩)
    | refine WpO.skip rfl rfl ?_
    | refine WpL.cons rfl rfl (WpX.pure (fun _ => rfl) ⟨nolog, ?_⟩)
    | refine WpL.skip rfl rfl ?_
    | refine seqQ_normal ?_
    | refine seqQ_ret ?_
    | refine seqQ_exit ?_
    | refine blkQ_normal ?_
    | refine blkQ_ret ?_
    | refine blkQ_out rfl ?_
    | refine blkQ_by rfl ?_
    | refine WpO.cons rfl rfl (op_indexAddr (k := 3) rfl rfl rfl rfl ⟨by omega, by omega⟩ ⟨(by simp [InL, Acc.name, rowName] <;> omega), ?_⟩)
    | refine WpL.cons rfl rfl (op_indexAddr (k := 3) rfl rfl rfl rfl ⟨by omega, by omega⟩ ⟨(by simp [InL, Acc.name, rowName] <;> omega), ?_⟩)
    | refine WpO.cons rfl rfl (op_loadA rfl rfl rfl rfl hg' hct ⟨(by simp [InL, Acc.name, rowName] <;> omega), ?_⟩)
    | refine WpL.cons rfl rfl (op_loadA rfl rfl rfl rfl hg' hct ⟨(by simp [InL, Acc.name, rowName] <;> omega), ?_⟩)
    | refine WpO.cons rfl rfl (op_alloc rfl ⟨(by simp [InL, Acc.name, rowName] <;> omega), ?_⟩)
    | refine WpL.cons rfl rfl (op_alloc rfl ⟨(by simp [InL, Acc.name, rowName] <;> omega), ?_⟩)
    | refine WpO.cons rfl rfl (op_store rfl rfl rfl rfl (hgc _) (Nat.le_refl _) rfl ⟨(by simp [InL, Acc.name, rowName] <;> omega), ?_⟩)
    | refine WpL.cons rfl rfl (op_store rfl rfl rfl rfl (hgc _) (Nat.le_refl _) rfl ⟨(by simp [InL, Acc.name, rowName] <;> omega), ?_⟩)
    | refine WpO.cons rfl rfl (op_load rfl rfl rfl (hd _ _) rfl ⟨(by simp [InL, Acc.name, rowName] <;> omega), ?_⟩)
    | refine WpL.cons rfl rfl (op_load rfl rfl rfl (hd _ _) rfl ⟨(by simp [InL, Acc.name, rowName] <;> omega), ?_⟩))
  refine WpC.cond rfl (fun heq => ?_) (fun hne => ?_)
  · have heq : z2 = 0 := by simpa using heq
    repeat' (first
      | refine WpC.seq ?_
      | refine WpC.region ?_
      | refine WpC.drawn ?_
      | refine WpC.skip ?_
      | refine WpC.block ?_
      | refine WpC.exit ?_
      | refine WpC.ret ?_
      | refine WpO.nil ?_
      | refine WpO.cons rfl rfl (WpX.pure (fun _ => rfl) ⟨nolog, ?_⟩)
      | refine WpO.skip rfl rfl ?_
      | refine WpL.cons rfl rfl (WpX.pure (fun _ => rfl) ⟨nolog, ?_⟩)
      | refine WpL.skip rfl rfl ?_
      | refine seqQ_normal ?_
      | refine seqQ_ret ?_
      | refine seqQ_exit ?_
      | refine blkQ_normal ?_
      | refine blkQ_ret ?_
      | refine blkQ_out rfl ?_
      | refine blkQ_by rfl ?_)
    refine out_ret rfl ⟨i, rfl, .inl ⟨_, hz, heq, fun j q hj hq => hb j q hj hq, r.keep (by omega) fun n hn => ?_⟩⟩
    rw [MapI.get_ne _ _ _ _ (by omega), MapI.get_ne _ _ _ _ (by omega)]; exact hfr n hn
  · have hne : z2 ≠ 0 := by simpa using hne
    repeat' (first
      | refine WpC.seq ?_
      | refine WpC.region ?_
      | refine WpC.drawn ?_
      | refine WpC.skip ?_
      | refine WpC.block ?_
      | refine WpC.exit ?_
      | refine WpC.ret ?_
      | refine WpO.nil ?_
      | refine WpO.cons rfl rfl (WpX.pure (fun _ => rfl) ⟨nolog, ?_⟩)
      | refine WpO.skip rfl rfl ?_
      | refine WpL.cons rfl rfl (WpX.pure (fun _ => rfl) ⟨nolog, ?_⟩)
      | refine WpL.skip rfl rfl ?_
      | refine seqQ_normal ?_
      | refine seqQ_ret ?_
      | refine seqQ_exit ?_
      | refine blkQ_normal ?_
      | refine blkQ_ret ?_
      | refine blkQ_out rfl ?_
      | refine blkQ_by rfl ?_)
    refine ⟨i + 1, by omega, ?_, by omega, fun j q hj hq => ?_, by omega, fun n hn => ?_⟩
    · rw [hw1]
      exact set4 rfl rfl rfl rfl
    · by_cases e : j = i
      · subst e; rw [hz] at hq; cases hq; exact hne
      · exact hb j q (by omega) hq
    · rw [MapI.get_ne _ _ _ _ (by omega), MapI.get_ne _ _ _ _ (by omega)]; exact hfr n hn
end Go.Proofs.Ytempfmkicpifkaa


set_option linter.unusedVariables false
set_option linter.unusedSectionVars false
set_option linter.unusedSimpArgs false
set_option linter.unnecessarySimpa false
namespace Go.Proofs.Ytempfmkicpifkaa
open Go.Ab
set_option maxRecDepth 10000

theorem acc_rd (n : Nat) : (Acc.rd n).name = n := rfl
theorem acc_wr (n : Nat) : (Acc.wr n).name = n := rfl
theorem accw_rd (n : Nat) : (Acc.rd n).writes = false := rfl
theorem accw_wr (n : Nat) : (Acc.wr n).writes = true := rfl
theorem set_tri2 {junk : List V} {a b z x : Int} : ∀ {rows : List (Int × Int × Int)} {i : Nat}, rows[i]? = some (a, b, z) → setAll (flat tri rows ++ junk) (i * 3 + 2) [I x] = flat tri (rows.set i (a, b, x)) ++ junk
  | [], _, h => by simp at h
  | y :: rows, 0, h => by simp at h; subst h; simp [flat, tri, setAll, ovr]
  | y :: rows, i + 1, h => by
    have := set_tri2 (junk := junk) (x := x) (rows := rows) (i := i) (by simpa using h)
    rw [show (i + 1) * 3 + 2 = i * 3 + 2 + 3 from by omega]
    simp only [flat_cons, List.append_assoc, List.set_cons_succ] at this ⊢
    simp only [tri, List.cons_append, List.nil_append, setAll, this]
theorem set_tri {junk : List V} {a b z : Int} : ∀ {rows : List (Int × Int × Int)} {i : Nat}, i < rows.length → setAll (flat tri rows ++ junk) (i * 3) [I a, I b, I z] = flat tri (rows.set i (a, b, z)) ++ junk
  | [], _, h => by simp at h
  | y :: rows, 0, h => by simp [flat, tri, setAll, ovr]
  | y :: rows, i + 1, h => by
    have := set_tri (junk := junk) (a := a) (b := b) (z := z) (rows := rows) (i := i) (by simpa using h)
    rw [show (i + 1) * 3 = i * 3 + 3 from by omega]
    simp only [flat_cons, List.append_assoc, List.set_cons_succ] at this ⊢
    simp only [tri, List.cons_append, List.nil_append, setAll, this]

/-- of: where a handle's row lies; nil of one that is not there. -/
theorem of_ok {h : HH} {c p : Nat} {vb vr : V} {st : St} {hd : Int} (r : StoreAt h c p vb vr st) (hlen : st.rows.length ≤ 1000) :
    Does 118 [.ptr (some (p, 0)), I hd] h c (p :: rowName vr) fun v h' c' => h' = h ∧ c' = c ∧
      ((∃ (i : Nat) (q : Int × Int × Int) (sn : Nat) (cl : Bool) (junk : List V), hd = i + 1 ∧ st.rows[i]? = some q ∧ q.2.2 ≠ 0 ∧ vr = .slice (some (sn, 0)) st.rows.length (.upTo 3) ∧ sn < c ∧ MapI.get h sn = some (.cells true cl (flat tri st.rows ++ junk)) ∧ junk.all one1 = true ∧ v = .ptr (some (sn, i * 3))) ∨
       ((∀ (i : Nat) (q : Int × Int × Int), hd = i + 1 → st.rows[i]? = some q → q.2.2 = 0) ∧ v = .ptr none)) := by
  have hobj := r.obj
  obtain ⟨s, cap, rfl, hs⟩ := r.rows.shape
  refine does_of (enter (fn := Try.f118) Try.func118 rfl rfl (Nat.le_of_ble_eq_true rfl) ?_)
  by_cases h1 : hd < 1
  · have e1 : decide (hd < 1) = true := by simpa using h1
    repeat' (first
      | refine WpC.seq ?_
      | refine WpC.region ?_
      | refine WpC.drawn ?_
      | refine WpC.skip ?_
      | refine WpC.block ?_
      | refine WpC.exit ?_
      | refine WpC.ret ?_
      | refine WpO.nil ?_
      | refine WpO.cons rfl rfl (WpX.pure (fun _ => rfl) ⟨nolog, ?_⟩)
      | refine WpO.skip rfl rfl ?_
      | refine WpL.cons rfl rfl (WpX.pure (fun _ => rfl) ⟨nolog, ?_⟩)
      | refine WpL.skip rfl rfl ?_
      | refine seqQ_normal ?_
      | refine seqQ_ret ?_
      | refine seqQ_exit ?_
      | refine blkQ_normal ?_
      | refine blkQ_ret ?_
      | refine blkQ_out rfl ?_
      | refine blkQ_by rfl ?_)
    simp only [e1]
    repeat' (first
      | refine WpC.seq ?_
      | refine WpC.region ?_
      | refine WpC.drawn ?_
      | refine WpC.skip ?_
      | refine WpC.block ?_
      | refine WpC.exit ?_
      | refine WpC.ret ?_
      | refine WpO.nil ?_
      | refine WpO.cons rfl rfl (WpX.pure (fun _ => rfl) ⟨nolog, ?_⟩)
      | refine WpO.skip rfl rfl ?_
      | refine WpL.cons rfl rfl (WpX.pure (fun _ => rfl) ⟨nolog, ?_⟩)
      | refine WpL.skip rfl rfl ?_
      | refine seqQ_normal ?_
      | refine seqQ_ret ?_
      | refine seqQ_exit ?_
      | refine blkQ_normal ?_
      | refine blkQ_ret ?_
      | refine blkQ_out rfl ?_
      | refine blkQ_by rfl ?_)
    refine WpC.cond rfl (fun _ => ?_) (fun hb => by cases hb)
    repeat' (first
      | refine WpC.seq ?_
      | refine WpC.region ?_
      | refine WpC.drawn ?_
      | refine WpC.skip ?_
      | refine WpC.block ?_
      | refine WpC.exit ?_
      | refine WpC.ret ?_
      | refine WpO.nil ?_
      | refine WpO.cons rfl rfl (WpX.pure (fun _ => rfl) ⟨nolog, ?_⟩)
      | refine WpO.skip rfl rfl ?_
      | refine WpL.cons rfl rfl (WpX.pure (fun _ => rfl) ⟨nolog, ?_⟩)
      | refine WpL.skip rfl rfl ?_
      | refine seqQ_normal ?_
      | refine seqQ_ret ?_
      | refine seqQ_exit ?_
      | refine blkQ_normal ?_
      | refine blkQ_ret ?_
      | refine blkQ_out rfl ?_
      | refine blkQ_by rfl ?_)
    exact out_ret rfl ⟨rfl, rfl, .inr ⟨fun i q e _ => by omega, rfl⟩⟩
  have e1 : decide (hd < 1) = false := by simpa using h1
  by_cases h2 : hd > (st.rows.length : Int)
  · have e2 : decide (hd > (st.rows.length : Int)) = true := by simpa using h2
    repeat' (first
      | refine WpC.seq ?_
      | refine WpC.region ?_
      | refine WpC.drawn ?_
      | refine WpC.skip ?_
      | refine WpC.block ?_
      | refine WpC.exit ?_
      | refine WpC.ret ?_
      | refine WpO.nil ?_
      | refine WpO.cons rfl rfl (WpX.pure (fun _ => rfl) ⟨nolog, ?_⟩)
      | refine WpO.skip rfl rfl ?_
      | refine WpL.cons rfl rfl (WpX.pure (fun _ => rfl) ⟨nolog, ?_⟩)
      | refine WpL.skip rfl rfl ?_
      | refine seqQ_normal ?_
      | refine seqQ_ret ?_
      | refine seqQ_exit ?_
      | refine blkQ_normal ?_
      | refine blkQ_ret ?_
      | refine blkQ_out rfl ?_
      | refine blkQ_by rfl ?_)
    simp only [e1]
    repeat' (first
      | refine WpC.seq ?_
      | refine WpC.region ?_
      | refine WpC.drawn ?_
      | refine WpC.skip ?_
      | refine WpC.block ?_
      | refine WpC.exit ?_
      | refine WpC.ret ?_
      | refine WpO.nil ?_
      | refine WpO.cons rfl rfl (WpX.pure (fun _ => rfl) ⟨nolog, ?_⟩)
      | refine WpO.skip rfl rfl ?_
      | refine WpL.cons rfl rfl (WpX.pure (fun _ => rfl) ⟨nolog, ?_⟩)
      | refine WpL.skip rfl rfl ?_
      | refine seqQ_normal ?_
      | refine seqQ_ret ?_
      | refine seqQ_exit ?_
      | refine blkQ_normal ?_
      | refine blkQ_ret ?_
      | refine blkQ_out rfl ?_
      | refine blkQ_by rfl ?_
      | refine WpO.cons rfl rfl (op_load rfl rfl rfl hobj rfl ⟨(by simp [InL, Acc.name, rowName] <;> omega), ?_⟩)
      | refine WpL.cons rfl rfl (op_load rfl rfl rfl hobj rfl ⟨(by simp [InL, Acc.name, rowName] <;> omega), ?_⟩)
      | refine WpO.cons rfl rfl (op_len rfl rfl rfl ⟨(by simp [InL, Acc.name, rowName] <;> omega), ?_⟩)
      | refine WpL.cons rfl rfl (op_len rfl rfl rfl ⟨(by simp [InL, Acc.name, rowName] <;> omega), ?_⟩))
    simp only [e2]
    repeat' (first
      | refine WpC.seq ?_
      | refine WpC.region ?_
      | refine WpC.drawn ?_
      | refine WpC.skip ?_
      | refine WpC.block ?_
      | refine WpC.exit ?_
      | refine WpC.ret ?_
      | refine WpO.nil ?_
      | refine WpO.cons rfl rfl (WpX.pure (fun _ => rfl) ⟨nolog, ?_⟩)
      | refine WpO.skip rfl rfl ?_
      | refine WpL.cons rfl rfl (WpX.pure (fun _ => rfl) ⟨nolog, ?_⟩)
      | refine WpL.skip rfl rfl ?_
      | refine seqQ_normal ?_
      | refine seqQ_ret ?_
      | refine seqQ_exit ?_
      | refine blkQ_normal ?_
      | refine blkQ_ret ?_
      | refine blkQ_out rfl ?_
      | refine blkQ_by rfl ?_)
    refine WpC.cond rfl (fun _ => ?_) (fun hb => by cases hb)
    repeat' (first
      | refine WpC.seq ?_
      | refine WpC.region ?_
      | refine WpC.drawn ?_
      | refine WpC.skip ?_
      | refine WpC.block ?_
      | refine WpC.exit ?_
      | refine WpC.ret ?_
      | refine WpO.nil ?_
      | refine WpO.cons rfl rfl (WpX.pure (fun _ => rfl) ⟨nolog, ?_⟩)
      | refine WpO.skip rfl rfl ?_
      | refine WpL.cons rfl rfl (WpX.pure (fun _ => rfl) ⟨nolog, ?_⟩)
      | refine WpL.skip rfl rfl ?_
      | refine seqQ_normal ?_
      | refine seqQ_ret ?_
      | refine seqQ_exit ?_
      | refine blkQ_normal ?_
      | refine blkQ_ret ?_
      | refine blkQ_out rfl ?_
      | refine blkQ_by rfl ?_)
    exact out_ret rfl ⟨rfl, rfl, .inr ⟨fun i q e hq => by have := (List.getElem?_eq_some_iff.1 hq).1; omega, rfl⟩⟩
  have e2 : decide (hd > (st.rows.length : Int)) = false := by simpa using h2
  obtain ⟨i, rfl⟩ : ∃ i : Nat, hd = i + 1 := ⟨(hd - 1).toNat, by omega⟩
  have hi : i < st.rows.length := by omega
  obtain ⟨rfl, sn, cl, junk, rfl, hsn, hg, hj⟩ := hs i hi
  obtain ⟨⟨z0, z1, z2⟩, hz⟩ : ∃ z, st.rows[i]? = some z := ⟨_, List.getElem?_eq_getElem hi⟩
  have hw : IntKind.i64.wrap ((i : Int) + 1 - 1) = (i : Int) := by rw [Go.IntWalk.i64_in _ (by omega)]; omega
  have hz2 : nth (flat tri st.rows ++ junk) (0 + (IntKind.i64.wrap ((i : Int) + 1 - 1)).toNat * 3 + 2) = some (I z2) := by
    rw [hw, show 0 + ((i : Nat) : Int).toNat * 3 + 2 = i * 3 + 2 from by simp]
    exact (nth_flat tri_len hz (by omega) junk).trans rfl
  repeat' (first
    | refine WpC.seq ?_
    | refine WpC.region ?_
    | refine WpC.drawn ?_
    | refine WpC.skip ?_
    | refine WpC.block ?_
    | refine WpC.exit ?_
    | refine WpC.ret ?_
    | refine WpO.nil ?_
    | refine WpO.cons rfl rfl (WpX.pure (fun _ => rfl) ⟨nolog, ?_⟩)
    | refine WpO.skip rfl rfl ?_
    | refine WpL.cons rfl rfl (WpX.pure (fun _ => rfl) ⟨nolog, ?_⟩)
    | refine WpL.skip rfl rfl ?_
    | refine seqQ_normal ?_
    | refine seqQ_ret ?_
    | refine seqQ_exit ?_
    | refine blkQ_normal ?_
    | refine blkQ_ret ?_
    | refine blkQ_out rfl ?_
    | refine blkQ_by rfl ?_)
  simp only [e1]
  repeat' (first
    | refine WpC.seq ?_
    | refine WpC.region ?_
    | refine WpC.drawn ?_
    | refine WpC.skip ?_
    | refine WpC.block ?_
    | refine WpC.exit ?_
    | refine WpC.ret ?_
    | refine WpO.nil ?_
    | refine WpO.cons rfl rfl (WpX.pure (fun _ => rfl) ⟨nolog, ?_⟩)
    | refine WpO.skip rfl rfl ?_
    | refine WpL.cons rfl rfl (WpX.pure (fun _ => rfl) ⟨nolog, ?_⟩)
    | refine WpL.skip rfl rfl ?_
    | refine seqQ_normal ?_
    | refine seqQ_ret ?_
    | refine seqQ_exit ?_
    | refine blkQ_normal ?_
    | refine blkQ_ret ?_
    | refine blkQ_out rfl ?_
    | refine blkQ_by rfl ?_
    | refine WpO.cons rfl rfl (op_load rfl rfl rfl hobj rfl ⟨(by simp [InL, Acc.name, rowName] <;> omega), ?_⟩)
    | refine WpL.cons rfl rfl (op_load rfl rfl rfl hobj rfl ⟨(by simp [InL, Acc.name, rowName] <;> omega), ?_⟩)
    | refine WpO.cons rfl rfl (op_len rfl rfl rfl ⟨(by simp [InL, Acc.name, rowName] <;> omega), ?_⟩)
    | refine WpL.cons rfl rfl (op_len rfl rfl rfl ⟨(by simp [InL, Acc.name, rowName] <;> omega), ?_⟩))
  simp only [e2]
  repeat' (first
    | refine WpC.seq ?_
    | refine WpC.region ?_
    | refine WpC.drawn ?_
    | refine WpC.skip ?_
    | refine WpC.block ?_
    | refine WpC.exit ?_
    | refine WpC.ret ?_
    | refine WpO.nil ?_
    | refine WpO.cons rfl rfl (WpX.pure (fun _ => rfl) ⟨nolog, ?_⟩)
    | refine WpO.skip rfl rfl ?_
    | refine WpL.cons rfl rfl (WpX.pure (fun _ => rfl) ⟨nolog, ?_⟩)
    | refine WpL.skip rfl rfl ?_
    | refine seqQ_normal ?_
    | refine seqQ_ret ?_
    | refine seqQ_exit ?_
    | refine blkQ_normal ?_
    | refine blkQ_ret ?_
    | refine blkQ_out rfl ?_
    | refine blkQ_by rfl ?_
    | refine WpO.cons rfl rfl (op_load rfl rfl rfl hobj rfl ⟨(by simp [InL, Acc.name, rowName] <;> omega), ?_⟩)
    | refine WpL.cons rfl rfl (op_load rfl rfl rfl hobj rfl ⟨(by simp [InL, Acc.name, rowName] <;> omega), ?_⟩)
    | refine WpO.cons rfl rfl (op_indexAddr (k := 3) rfl rfl rfl rfl ⟨by omega, by omega⟩ ⟨(by simp [InL, Acc.name, rowName] <;> omega), ?_⟩)
    | refine WpL.cons rfl rfl (op_indexAddr (k := 3) rfl rfl rfl rfl ⟨by omega, by omega⟩ ⟨(by simp [InL, Acc.name, rowName] <;> omega), ?_⟩)
    | refine WpO.cons rfl rfl (op_load rfl rfl rfl hg hz2 ⟨(by simp [InL, Acc.name, rowName] <;> omega), ?_⟩)
    | refine WpL.cons rfl rfl (op_load rfl rfl rfl hg hz2 ⟨(by simp [InL, Acc.name, rowName] <;> omega), ?_⟩))
  refine WpC.cond rfl (fun heq => ?_) (fun hne => ?_)
  · have heq : z2 = 0 := by simpa using heq
    repeat' (first
      | refine WpC.seq ?_
      | refine WpC.region ?_
      | refine WpC.drawn ?_
      | refine WpC.skip ?_
      | refine WpC.block ?_
      | refine WpC.exit ?_
      | refine WpC.ret ?_
      | refine WpO.nil ?_
      | refine WpO.cons rfl rfl (WpX.pure (fun _ => rfl) ⟨nolog, ?_⟩)
      | refine WpO.skip rfl rfl ?_
      | refine WpL.cons rfl rfl (WpX.pure (fun _ => rfl) ⟨nolog, ?_⟩)
      | refine WpL.skip rfl rfl ?_
      | refine seqQ_normal ?_
      | refine seqQ_ret ?_
      | refine seqQ_exit ?_
      | refine blkQ_normal ?_
      | refine blkQ_ret ?_
      | refine blkQ_out rfl ?_
      | refine blkQ_by rfl ?_)
    refine out_ret rfl ⟨rfl, rfl, .inr ⟨fun j q e hq => ?_, rfl⟩⟩
    have : j = i := by omega
    subst this
    rw [hz] at hq; cases hq; exact heq
  · have hne : z2 ≠ 0 := by simpa using hne
    repeat' (first
      | refine WpC.seq ?_
      | refine WpC.region ?_
      | refine WpC.drawn ?_
      | refine WpC.skip ?_
      | refine WpC.block ?_
      | refine WpC.exit ?_
      | refine WpC.ret ?_
      | refine WpO.nil ?_
      | refine WpO.cons rfl rfl (WpX.pure (fun _ => rfl) ⟨nolog, ?_⟩)
      | refine WpO.skip rfl rfl ?_
      | refine WpL.cons rfl rfl (WpX.pure (fun _ => rfl) ⟨nolog, ?_⟩)
      | refine WpL.skip rfl rfl ?_
      | refine seqQ_normal ?_
      | refine seqQ_ret ?_
      | refine seqQ_exit ?_
      | refine blkQ_normal ?_
      | refine blkQ_ret ?_
      | refine blkQ_out rfl ?_
      | refine blkQ_by rfl ?_
      | refine WpO.cons rfl rfl (op_load rfl rfl rfl hobj rfl ⟨(by simp [InL, Acc.name, rowName] <;> omega), ?_⟩)
      | refine WpL.cons rfl rfl (op_load rfl rfl rfl hobj rfl ⟨(by simp [InL, Acc.name, rowName] <;> omega), ?_⟩)
      | refine WpO.cons rfl rfl (op_indexAddr (k := 3) rfl rfl rfl rfl ⟨by omega, by omega⟩ ⟨(by simp [InL, Acc.name, rowName] <;> omega), ?_⟩)
      | refine WpL.cons rfl rfl (op_indexAddr (k := 3) rfl rfl rfl rfl ⟨by omega, by omega⟩ ⟨(by simp [InL, Acc.name, rowName] <;> omega), ?_⟩))
    refine out_ret rfl ⟨rfl, rfl, .inl ⟨i, _, sn, cl, junk, rfl, hz, hne, rfl, hsn, hg, hj, ?_⟩⟩
    show V.ptr _ = _
    rw [hw]; simp

theorem count_ok {h : HH} {c p : Nat} {vb vr : V} {st : St} {hd : Int} (r : StoreAt h c p vb vr st) (hlen : st.rows.length ≤ 1000) :
    Does 71 [.ptr (some (p, 0)), I hd] h c (p :: rowName vr) fun v h' c' => h' = h ∧ c' = c ∧
      ((∃ (i : Nat) (q : Int × Int × Int), hd = i + 1 ∧ st.rows[i]? = some q ∧ v = I q.2.2) ∨ ((∀ (i : Nat) (q : Int × Int × Int), hd = i + 1 → st.rows[i]? = some q → q.2.2 = 0) ∧ v = I 0)) := by
  refine does_of (enter (fn := Try.f71) Try.func71 rfl rfl (Nat.le_of_ble_eq_true rfl) ?_)
  repeat' (first
    | refine WpC.seq ?_
    | refine WpC.region ?_
    | refine WpC.drawn ?_
    | refine WpC.skip ?_
    | refine WpC.block ?_
    | refine WpC.exit ?_
    | refine WpC.ret ?_
    | refine WpO.nil ?_
    | refine WpO.cons rfl rfl (WpX.pure (fun _ => rfl) ⟨nolog, ?_⟩)
    | refine WpO.skip rfl rfl ?_
    | refine WpL.cons rfl rfl (WpX.pure (fun _ => rfl) ⟨nolog, ?_⟩)
    | refine WpL.skip rfl rfl ?_
    | refine seqQ_normal ?_
    | refine seqQ_ret ?_
    | refine seqQ_exit ?_
    | refine blkQ_normal ?_
    | refine blkQ_ret ?_
    | refine blkQ_out rfl ?_
    | refine blkQ_by rfl ?_)
  refine WpO.cons rfl rfl (call_at rfl (of_ok r hlen) (fun n hn => .inl hn) (Nat.le_refl _) fun v h4 c4 hc4 hfr4 hq => ?_)
  obtain ⟨rfl, rfl, hq⟩ := hq
  rcases hq with ⟨i, q, sn, cl, junk, rfl, hz, hne, rfl, hsn, hg, hj, rfl⟩ | ⟨hno, rfl⟩
  · have hz2 : nth (flat tri st.rows ++ junk) (i * 3 + 2) = some (I q.2.2) := (nth_flat tri_len hz (by omega) junk).trans rfl
    repeat' (first
      | refine WpC.seq ?_
      | refine WpC.region ?_
      | refine WpC.drawn ?_
      | refine WpC.skip ?_
      | refine WpC.block ?_
      | refine WpC.exit ?_
      | refine WpC.ret ?_
      | refine WpO.nil ?_
      | refine WpO.cons rfl rfl (WpX.pure (fun _ => rfl) ⟨nolog, ?_⟩)
      | refine WpO.skip rfl rfl ?_
      | refine WpL.cons rfl rfl (WpX.pure (fun _ => rfl) ⟨nolog, ?_⟩)
      | refine WpL.skip rfl rfl ?_
      | refine seqQ_normal ?_
      | refine seqQ_ret ?_
      | refine seqQ_exit ?_
      | refine blkQ_normal ?_
      | refine blkQ_ret ?_
      | refine blkQ_out rfl ?_
      | refine blkQ_by rfl ?_)
    refine WpC.cond rfl (fun hb => by cases hb) (fun _ => ?_)
    repeat' (first
      | refine WpC.seq ?_
      | refine WpC.region ?_
      | refine WpC.drawn ?_
      | refine WpC.skip ?_
      | refine WpC.block ?_
      | refine WpC.exit ?_
      | refine WpC.ret ?_
      | refine WpO.nil ?_
      | refine WpO.cons rfl rfl (WpX.pure (fun _ => rfl) ⟨nolog, ?_⟩)
      | refine WpO.skip rfl rfl ?_
      | refine WpL.cons rfl rfl (WpX.pure (fun _ => rfl) ⟨nolog, ?_⟩)
      | refine WpL.skip rfl rfl ?_
      | refine seqQ_normal ?_
      | refine seqQ_ret ?_
      | refine seqQ_exit ?_
      | refine blkQ_normal ?_
      | refine blkQ_ret ?_
      | refine blkQ_out rfl ?_
      | refine blkQ_by rfl ?_
      | refine WpO.cons rfl rfl (op_load rfl rfl rfl hg hz2 ⟨(by simp [InL, Acc.name, rowName] <;> omega), ?_⟩)
      | refine WpL.cons rfl rfl (op_load rfl rfl rfl hg hz2 ⟨(by simp [InL, Acc.name, rowName] <;> omega), ?_⟩))
    exact out_ret rfl ⟨rfl, rfl, .inl ⟨i, q, rfl, hz, rfl⟩⟩
  ·
    repeat' (first
      | refine WpC.seq ?_
      | refine WpC.region ?_
      | refine WpC.drawn ?_
      | refine WpC.skip ?_
      | refine WpC.block ?_
      | refine WpC.exit ?_
      | refine WpC.ret ?_
      | refine WpO.nil ?_
      | refine WpO.cons rfl rfl (WpX.pure (fun _ => rfl) ⟨nolog, ?_⟩)
      | refine WpO.skip rfl rfl ?_
      | refine WpL.cons rfl rfl (WpX.pure (fun _ => rfl) ⟨nolog, ?_⟩)
      | refine WpL.skip rfl rfl ?_
      | refine seqQ_normal ?_
      | refine seqQ_ret ?_
      | refine seqQ_exit ?_
      | refine blkQ_normal ?_
      | refine blkQ_ret ?_
      | refine blkQ_out rfl ?_
      | refine blkQ_by rfl ?_)
    refine WpC.cond rfl (fun _ => ?_) (fun hb => by cases hb)
    repeat' (first
      | refine WpC.seq ?_
      | refine WpC.region ?_
      | refine WpC.drawn ?_
      | refine WpC.skip ?_
      | refine WpC.block ?_
      | refine WpC.exit ?_
      | refine WpC.ret ?_
      | refine WpO.nil ?_
      | refine WpO.cons rfl rfl (WpX.pure (fun _ => rfl) ⟨nolog, ?_⟩)
      | refine WpO.skip rfl rfl ?_
      | refine WpL.cons rfl rfl (WpX.pure (fun _ => rfl) ⟨nolog, ?_⟩)
      | refine WpL.skip rfl rfl ?_
      | refine seqQ_normal ?_
      | refine seqQ_ret ?_
      | refine seqQ_exit ?_
      | refine blkQ_normal ?_
      | refine blkQ_ret ?_
      | refine blkQ_out rfl ?_
      | refine blkQ_by rfl ?_)
    exact out_ret rfl ⟨rfl, rfl, .inr ⟨hno, rfl⟩⟩

theorem live_ok {h : HH} {c p : Nat} {vb vr : V} {st : St} (r : StoreAt h c p vb vr st) : Does 66 [.ptr (some (p, 0))] h c [p] fun v h' c' => h' = h ∧ c' = c ∧ v = I st.live := by
  have hobj := r.obj
  refine does_of (enter (fn := Try.f66) Try.func66 rfl rfl (Nat.le_of_ble_eq_true rfl) ?_)
  repeat' (first
    | refine WpC.seq ?_
    | refine WpC.region ?_
    | refine WpC.drawn ?_
    | refine WpC.skip ?_
    | refine WpC.block ?_
    | refine WpC.exit ?_
    | refine WpC.ret ?_
    | refine WpO.nil ?_
    | refine WpO.cons rfl rfl (WpX.pure (fun _ => rfl) ⟨nolog, ?_⟩)
    | refine WpO.skip rfl rfl ?_
    | refine WpL.cons rfl rfl (WpX.pure (fun _ => rfl) ⟨nolog, ?_⟩)
    | refine WpL.skip rfl rfl ?_
    | refine seqQ_normal ?_
    | refine seqQ_ret ?_
    | refine seqQ_exit ?_
    | refine blkQ_normal ?_
    | refine blkQ_ret ?_
    | refine blkQ_out rfl ?_
    | refine blkQ_by rfl ?_)
  refine WpC.cond rfl (fun hb => by cases hb) (fun _ => ?_)
  repeat' (first
    | refine WpC.seq ?_
    | refine WpC.region ?_
    | refine WpC.drawn ?_
    | refine WpC.skip ?_
    | refine WpC.block ?_
    | refine WpC.exit ?_
    | refine WpC.ret ?_
    | refine WpO.nil ?_
    | refine WpO.cons rfl rfl (WpX.pure (fun _ => rfl) ⟨nolog, ?_⟩)
    | refine WpO.skip rfl rfl ?_
    | refine WpL.cons rfl rfl (WpX.pure (fun _ => rfl) ⟨nolog, ?_⟩)
    | refine WpL.skip rfl rfl ?_
    | refine seqQ_normal ?_
    | refine seqQ_ret ?_
    | refine seqQ_exit ?_
    | refine blkQ_normal ?_
    | refine blkQ_ret ?_
    | refine blkQ_out rfl ?_
    | refine blkQ_by rfl ?_
    | refine WpO.cons rfl rfl (op_load rfl rfl rfl hobj rfl ⟨(by simp [InL, Acc.name, rowName] <;> omega), ?_⟩)
    | refine WpL.cons rfl rfl (op_load rfl rfl rfl hobj rfl ⟨(by simp [InL, Acc.name, rowName] <;> omega), ?_⟩))
  exact out_ret rfl ⟨rfl, rfl, rfl⟩

/-- A row is written anew. -/
theorem StoreAt.setRow {h : HH} {c p sn : Nat} {vb : V} {st : St} {cl : Bool} {junk : List V} {rows' : List (Int × Int × Int)} (r : StoreAt h c p vb (.slice (some (sn, 0)) st.rows.length (.upTo 3)) st) (hsn : sn < c) (hj : junk.all one1 = true) (hl : rows'.length = st.rows.length) :
    StoreAt (MapI.set h sn (.cells true cl (flat tri rows' ++ junk))) c p vb (.slice (some (sn, 0)) st.rows.length (.upTo 3)) { st with rows := rows' } :=
  ⟨by rw [MapI.get_ne _ _ _ _ (r.nr sn (by simp [rowName]))]; exact r.obj,
   r.bytes.keep (Nat.le_refl _) fun n hn hm => MapI.get_ne _ _ _ _ (fun e => r.br n hm (by simp [rowName, e])),
   .inr ⟨sn, cl, junk, by rw [hl], hsn, MapI.get_same _ _ _, hj⟩, r.lp, r.nb, r.nr, r.br⟩
theorem StoreAt.setLive {h : HH} {c p : Nat} {vb vr : V} {st : St} {x : Int} (r : StoreAt h c p vb vr st) : StoreAt (MapI.set h p (.cells true true [vb, I st.most, vr, I x])) c p vb vr { st with live := x } :=
  ⟨MapI.get_same _ _ _, r.bytes.keep (Nat.le_refl _) fun n hn hm => MapI.get_ne _ _ _ _ (Ne.symm (r.nb n hm)), r.rows.keep (Nat.le_refl _) fun n hn hm => MapI.get_ne _ _ _ _ (Ne.symm (r.nr n hm)), r.lp, r.nb, r.nr, r.br⟩

theorem hold_ok {h : HH} {c p : Nat} {vb vr : V} {st : St} {hd : Int} (r : StoreAt h c p vb vr st) (hlen : st.rows.length ≤ 1000) :
    Does 72 [.ptr (some (p, 0)), I hd] h c (p :: rowName vr) fun v h' c' => c' = c ∧
      ((∃ (i : Nat) (q : Int × Int × Int), hd = i + 1 ∧ st.rows[i]? = some q ∧ q.2.2 ≠ 0 ∧ v = .bool true ∧ StoreAt h' c p vb vr { st with rows := st.rows.set i (q.1, q.2.1, IntKind.i64.wrap (q.2.2 + 1)) }) ∨
       ((∀ (i : Nat) (q : Int × Int × Int), hd = i + 1 → st.rows[i]? = some q → q.2.2 = 0) ∧ v = .bool false ∧ h' = h)) := by
  refine does_of (enter (fn := Try.f72) Try.func72 rfl rfl (Nat.le_of_ble_eq_true rfl) ?_)
  repeat' (first
    | refine WpC.seq ?_
    | refine WpC.region ?_
    | refine WpC.drawn ?_
    | refine WpC.skip ?_
    | refine WpC.block ?_
    | refine WpC.exit ?_
    | refine WpC.ret ?_
    | refine WpO.nil ?_
    | refine WpO.cons rfl rfl (WpX.pure (fun _ => rfl) ⟨nolog, ?_⟩)
    | refine WpO.skip rfl rfl ?_
    | refine WpL.cons rfl rfl (WpX.pure (fun _ => rfl) ⟨nolog, ?_⟩)
    | refine WpL.skip rfl rfl ?_
    | refine seqQ_normal ?_
    | refine seqQ_ret ?_
    | refine seqQ_exit ?_
    | refine blkQ_normal ?_
    | refine blkQ_ret ?_
    | refine blkQ_out rfl ?_
    | refine blkQ_by rfl ?_)
  refine WpO.cons rfl rfl (call_at rfl (of_ok r hlen) (fun n hn => .inl hn) (Nat.le_refl _) fun v h4 c4 hc4 hfr4 hq => ?_)
  obtain ⟨rfl, rfl, hq⟩ := hq
  rcases hq with ⟨i, ⟨q0, q1, q2⟩, sn, cl, junk, rfl, hz, hne, rfl, hsn, hg, hj, rfl⟩ | ⟨hno, rfl⟩
  · have hz2 : nth (flat tri st.rows ++ junk) (i * 3 + 2) = some (I q2) := (nth_flat tri_len hz (by omega) junk).trans rfl
    have hlt := (List.getElem?_eq_some_iff.1 hz).1
    have hfl : i * 3 + 2 + 1 ≤ (flat tri st.rows ++ junk).length := by rw [List.length_append, flat_length tri_len]; omega
    repeat' (first
      | refine WpC.seq ?_
      | refine WpC.region ?_
      | refine WpC.drawn ?_
      | refine WpC.skip ?_
      | refine WpC.block ?_
      | refine WpC.exit ?_
      | refine WpC.ret ?_
      | refine WpO.nil ?_
      | refine WpO.cons rfl rfl (WpX.pure (fun _ => rfl) ⟨nolog, ?_⟩)
      | refine WpO.skip rfl rfl ?_
      | refine WpL.cons rfl rfl (WpX.pure (fun _ => rfl) ⟨nolog, ?_⟩)
      | refine WpL.skip rfl rfl ?_
      | refine seqQ_normal ?_
      | refine seqQ_ret ?_
      | refine seqQ_exit ?_
      | refine blkQ_normal ?_
      | refine blkQ_ret ?_
      | refine blkQ_out rfl ?_
      | refine blkQ_by rfl ?_)
    refine WpC.cond rfl (fun hb => by cases hb) (fun _ => ?_)
    repeat' (first
      | refine WpC.seq ?_
      | refine WpC.region ?_
      | refine WpC.drawn ?_
      | refine WpC.skip ?_
      | refine WpC.block ?_
      | refine WpC.exit ?_
      | refine WpC.ret ?_
      | refine WpO.nil ?_
      | refine WpO.cons rfl rfl (WpX.pure (fun _ => rfl) ⟨nolog, ?_⟩)
      | refine WpO.skip rfl rfl ?_
      | refine WpL.cons rfl rfl (WpX.pure (fun _ => rfl) ⟨nolog, ?_⟩)
      | refine WpL.skip rfl rfl ?_
      | refine seqQ_normal ?_
      | refine seqQ_ret ?_
      | refine seqQ_exit ?_
      | refine blkQ_normal ?_
      | refine blkQ_ret ?_
      | refine blkQ_out rfl ?_
      | refine blkQ_by rfl ?_
      | refine WpO.cons rfl rfl (op_load rfl rfl rfl hg hz2 ⟨(by simp [InL, Acc.name, rowName] <;> omega), ?_⟩)
      | refine WpL.cons rfl rfl (op_load rfl rfl rfl hg hz2 ⟨(by simp [InL, Acc.name, rowName] <;> omega), ?_⟩)
      | refine WpO.cons rfl rfl (op_store (k := 1) rfl rfl rfl rfl hg hfl rfl ⟨(by simp [InL, Acc.name, rowName] <;> omega), ?_⟩)
      | refine WpL.cons rfl rfl (op_store (k := 1) rfl rfl rfl rfl hg hfl rfl ⟨(by simp [InL, Acc.name, rowName] <;> omega), ?_⟩))
    refine out_ret rfl ⟨rfl, .inl ⟨i, _, rfl, hz, hne, rfl, ?_⟩⟩
    have := r.setRow (cl := cl) (junk := junk) (rows' := st.rows.set i (q0, q1, IntKind.i64.wrap (q2 + 1))) hsn hj (by simp)
    rw [← set_tri2 hz] at this
    exact this
  ·
    repeat' (first
      | refine WpC.seq ?_
      | refine WpC.region ?_
      | refine WpC.drawn ?_
      | refine WpC.skip ?_
      | refine WpC.block ?_
      | refine WpC.exit ?_
      | refine WpC.ret ?_
      | refine WpO.nil ?_
      | refine WpO.cons rfl rfl (WpX.pure (fun _ => rfl) ⟨nolog, ?_⟩)
      | refine WpO.skip rfl rfl ?_
      | refine WpL.cons rfl rfl (WpX.pure (fun _ => rfl) ⟨nolog, ?_⟩)
      | refine WpL.skip rfl rfl ?_
      | refine seqQ_normal ?_
      | refine seqQ_ret ?_
      | refine seqQ_exit ?_
      | refine blkQ_normal ?_
      | refine blkQ_ret ?_
      | refine blkQ_out rfl ?_
      | refine blkQ_by rfl ?_)
    refine WpC.cond rfl (fun _ => ?_) (fun hb => by cases hb)
    repeat' (first
      | refine WpC.seq ?_
      | refine WpC.region ?_
      | refine WpC.drawn ?_
      | refine WpC.skip ?_
      | refine WpC.block ?_
      | refine WpC.exit ?_
      | refine WpC.ret ?_
      | refine WpO.nil ?_
      | refine WpO.cons rfl rfl (WpX.pure (fun _ => rfl) ⟨nolog, ?_⟩)
      | refine WpO.skip rfl rfl ?_
      | refine WpL.cons rfl rfl (WpX.pure (fun _ => rfl) ⟨nolog, ?_⟩)
      | refine WpL.skip rfl rfl ?_
      | refine seqQ_normal ?_
      | refine seqQ_ret ?_
      | refine seqQ_exit ?_
      | refine blkQ_normal ?_
      | refine blkQ_ret ?_
      | refine blkQ_out rfl ?_
      | refine blkQ_by rfl ?_)
    exact out_ret rfl ⟨rfl, .inr ⟨hno, rfl, rfl⟩⟩

theorem drop_ok {h : HH} {c p : Nat} {vb vr : V} {st : St} {hd : Int} (r : StoreAt h c p vb vr st) (hlen : st.rows.length ≤ 1000) :
    Does 63 [.ptr (some (p, 0)), I hd] h c (p :: rowName vr) fun v h' c' => c' = c ∧
      ((∃ (i : Nat) (q : Int × Int × Int), hd = i + 1 ∧ st.rows[i]? = some q ∧ q.2.2 ≠ 0 ∧ v = .bool true ∧
          StoreAt h' c p vb vr { st with rows := st.rows.set i (q.1, q.2.1, IntKind.i64.wrap (q.2.2 - 1)), live := if IntKind.i64.wrap (q.2.2 - 1) = 0 then IntKind.i64.wrap (st.live - q.2.1) else st.live }) ∨
       ((∀ (i : Nat) (q : Int × Int × Int), hd = i + 1 → st.rows[i]? = some q → q.2.2 = 0) ∧ v = .bool false ∧ h' = h)) := by
  refine does_of (enter (fn := Try.f63) Try.func63 rfl rfl (Nat.le_of_ble_eq_true rfl) ?_)
  repeat' (first
    | refine WpC.seq ?_
    | refine WpC.region ?_
    | refine WpC.drawn ?_
    | refine WpC.skip ?_
    | refine WpC.block ?_
    | refine WpC.exit ?_
    | refine WpC.ret ?_
    | refine WpO.nil ?_
    | refine WpO.cons rfl rfl (WpX.pure (fun _ => rfl) ⟨nolog, ?_⟩)
    | refine WpO.skip rfl rfl ?_
    | refine WpL.cons rfl rfl (WpX.pure (fun _ => rfl) ⟨nolog, ?_⟩)
    | refine WpL.skip rfl rfl ?_
    | refine seqQ_normal ?_
    | refine seqQ_ret ?_
    | refine seqQ_exit ?_
    | refine blkQ_normal ?_
    | refine blkQ_ret ?_
    | refine blkQ_out rfl ?_
    | refine blkQ_by rfl ?_)
  refine WpO.cons rfl rfl (call_at rfl (of_ok r hlen) (fun n hn => .inl hn) (Nat.le_refl _) fun v h4 c4 hc4 hfr4 hq => ?_)
  obtain ⟨rfl, rfl, hq⟩ := hq
  rcases hq with ⟨i, ⟨q0, q1, q2⟩, sn, cl, junk, rfl, hz, hne, rfl, hsn, hg, hj, rfl⟩ | ⟨hno, rfl⟩
  · have hz2 : nth (flat tri st.rows ++ junk) (i * 3 + 2) = some (I q2) := (nth_flat tri_len hz (by omega) junk).trans rfl
    have hlt := (List.getElem?_eq_some_iff.1 hz).1
    have hfl : i * 3 + 2 + 1 ≤ (flat tri st.rows ++ junk).length := by rw [List.length_append, flat_length tri_len]; omega
    have r2 := r.setRow (cl := cl) (junk := junk) (rows' := st.rows.set i (q0, q1, IntKind.i64.wrap (q2 - 1))) hsn hj (by simp)
    rw [← set_tri2 hz] at r2
    have hobj2 := r2.obj
    have hz' : (st.rows.set i (q0, q1, IntKind.i64.wrap (q2 - 1)))[i]? = some (q0, q1, IntKind.i64.wrap (q2 - 1)) := by simp [hlt]
    have hg2 : MapI.get (MapI.set h4 sn (.cells true cl (setAll (flat tri st.rows ++ junk) (i * 3 + 2) [I (IntKind.i64.wrap (q2 - 1))]))) sn = some (.cells true cl (setAll (flat tri st.rows ++ junk) (i * 3 + 2) [I (IntKind.i64.wrap (q2 - 1))])) := MapI.get_same _ _ _
    have hn2 : nth (setAll (flat tri st.rows ++ junk) (i * 3 + 2) [I (IntKind.i64.wrap (q2 - 1))]) (i * 3 + 2) = some (I (IntKind.i64.wrap (q2 - 1))) := by
      rw [set_tri2 hz]; exact (nth_flat tri_len hz' (by omega) junk).trans rfl
    have hn1 : nth (setAll (flat tri st.rows ++ junk) (i * 3 + 2) [I (IntKind.i64.wrap (q2 - 1))]) (i * 3 + 1) = some (I q1) := by
      rw [set_tri2 hz]; exact (nth_flat tri_len hz' (by omega) junk).trans rfl
    have hps : p ≠ sn := fun e => r.nr sn (by simp [rowName]) e.symm
    repeat' (first
      | refine WpC.seq ?_
      | refine WpC.region ?_
      | refine WpC.drawn ?_
      | refine WpC.skip ?_
      | refine WpC.block ?_
      | refine WpC.exit ?_
      | refine WpC.ret ?_
      | refine WpO.nil ?_
      | refine WpO.cons rfl rfl (WpX.pure (fun _ => rfl) ⟨nolog, ?_⟩)
      | refine WpO.skip rfl rfl ?_
      | refine WpL.cons rfl rfl (WpX.pure (fun _ => rfl) ⟨nolog, ?_⟩)
      | refine WpL.skip rfl rfl ?_
      | refine seqQ_normal ?_
      | refine seqQ_ret ?_
      | refine seqQ_exit ?_
      | refine blkQ_normal ?_
      | refine blkQ_ret ?_
      | refine blkQ_out rfl ?_
      | refine blkQ_by rfl ?_)
    refine WpC.cond rfl (fun hb => by cases hb) (fun _ => ?_)
    repeat' (first
      | refine WpC.seq ?_
      | refine WpC.region ?_
      | refine WpC.drawn ?_
      | refine WpC.skip ?_
      | refine WpC.block ?_
      | refine WpC.exit ?_
      | refine WpC.ret ?_
      | refine WpO.nil ?_
      | refine WpO.cons rfl rfl (WpX.pure (fun _ => rfl) ⟨nolog, ?_⟩)
      | refine WpO.skip rfl rfl ?_
      | refine WpL.cons rfl rfl (WpX.pure (fun _ => rfl) ⟨nolog, ?_⟩)
      | refine WpL.skip rfl rfl ?_
      | refine seqQ_normal ?_
      | refine seqQ_ret ?_
      | refine seqQ_exit ?_
      | refine blkQ_normal ?_
      | refine blkQ_ret ?_
      | refine blkQ_out rfl ?_
      | refine blkQ_by rfl ?_
      | refine WpO.cons rfl rfl (op_load rfl rfl rfl hg hz2 ⟨(by simp [InL, Acc.name, rowName] <;> omega), ?_⟩)
      | refine WpL.cons rfl rfl (op_load rfl rfl rfl hg hz2 ⟨(by simp [InL, Acc.name, rowName] <;> omega), ?_⟩)
      | refine WpO.cons rfl rfl (op_store (k := 1) rfl rfl rfl rfl hg hfl rfl ⟨(by simp [InL, Acc.name, rowName] <;> omega), ?_⟩)
      | refine WpL.cons rfl rfl (op_store (k := 1) rfl rfl rfl rfl hg hfl rfl ⟨(by simp [InL, Acc.name, rowName] <;> omega), ?_⟩)
      | refine WpO.cons rfl rfl (op_load rfl rfl rfl hg2 hn2 ⟨(by simp [InL, Acc.name, rowName] <;> omega), ?_⟩)
      | refine WpL.cons rfl rfl (op_load rfl rfl rfl hg2 hn2 ⟨(by simp [InL, Acc.name, rowName] <;> omega), ?_⟩))
    refine WpC.cond rfl (fun heq => ?_) (fun hne2 => ?_)
    · have heq : IntKind.i64.wrap (q2 - 1) = 0 := by simpa using heq
      repeat' (first
        | refine WpC.seq ?_
        | refine WpC.region ?_
        | refine WpC.drawn ?_
        | refine WpC.skip ?_
        | refine WpC.block ?_
        | refine WpC.exit ?_
        | refine WpC.ret ?_
        | refine WpO.nil ?_
        | refine WpO.cons rfl rfl (WpX.pure (fun _ => rfl) ⟨nolog, ?_⟩)
        | refine WpO.skip rfl rfl ?_
        | refine WpL.cons rfl rfl (WpX.pure (fun _ => rfl) ⟨nolog, ?_⟩)
        | refine WpL.skip rfl rfl ?_
        | refine seqQ_normal ?_
        | refine seqQ_ret ?_
        | refine seqQ_exit ?_
        | refine blkQ_normal ?_
        | refine blkQ_ret ?_
        | refine blkQ_out rfl ?_
        | refine blkQ_by rfl ?_
        | refine WpO.cons rfl rfl (op_load rfl rfl rfl hobj2 rfl ⟨(by simp [InL, Acc.name, rowName] <;> omega), ?_⟩)
        | refine WpL.cons rfl rfl (op_load rfl rfl rfl hobj2 rfl ⟨(by simp [InL, Acc.name, rowName] <;> omega), ?_⟩)
        | refine WpO.cons rfl rfl (op_load rfl rfl rfl hg2 hn1 ⟨(by simp [InL, Acc.name, rowName] <;> omega), ?_⟩)
        | refine WpL.cons rfl rfl (op_load rfl rfl rfl hg2 hn1 ⟨(by simp [InL, Acc.name, rowName] <;> omega), ?_⟩)
        | refine WpO.cons rfl rfl (op_store (k := 1) rfl rfl rfl rfl hobj2 (Nat.le_of_ble_eq_true rfl) rfl ⟨(by simp [InL, Acc.name, rowName] <;> omega), ?_⟩)
        | refine WpL.cons rfl rfl (op_store (k := 1) rfl rfl rfl rfl hobj2 (Nat.le_of_ble_eq_true rfl) rfl ⟨(by simp [InL, Acc.name, rowName] <;> omega), ?_⟩))
      refine WpL.nil (logsOk_of (cs := [0, 1, 3, 7, 0, 16, 48, 112, 255, 511, 1023, 2047]) (by decide +kernel) ?_) ?_
      · simp +contextual [allP, apP, Dis, acc_rd, acc_wr, accw_rd, accw_wr, Nat.testBit, hps]
      repeat' (first
        | refine WpC.seq ?_
        | refine WpC.region ?_
        | refine WpC.drawn ?_
        | refine WpC.skip ?_
        | refine WpC.block ?_
        | refine WpC.exit ?_
        | refine WpC.ret ?_
        | refine WpO.nil ?_
        | refine WpO.cons rfl rfl (WpX.pure (fun _ => rfl) ⟨nolog, ?_⟩)
        | refine WpO.skip rfl rfl ?_
        | refine WpL.cons rfl rfl (WpX.pure (fun _ => rfl) ⟨nolog, ?_⟩)
        | refine WpL.skip rfl rfl ?_
        | refine seqQ_normal ?_
        | refine seqQ_ret ?_
        | refine seqQ_exit ?_
        | refine blkQ_normal ?_
        | refine blkQ_ret ?_
        | refine blkQ_out rfl ?_
        | refine blkQ_by rfl ?_)
      refine out_ret rfl ⟨rfl, .inl ⟨i, _, rfl, hz, hne, rfl, ?_⟩⟩
      simp only [heq, if_true]
      simp only [heq] at r2
      exact r2.setLive
    · have hne2 : IntKind.i64.wrap (q2 - 1) ≠ 0 := by simpa using hne2
      repeat' (first
        | refine WpC.seq ?_
        | refine WpC.region ?_
        | refine WpC.drawn ?_
        | refine WpC.skip ?_
        | refine WpC.block ?_
        | refine WpC.exit ?_
        | refine WpC.ret ?_
        | refine WpO.nil ?_
        | refine WpO.cons rfl rfl (WpX.pure (fun _ => rfl) ⟨nolog, ?_⟩)
        | refine WpO.skip rfl rfl ?_
        | refine WpL.cons rfl rfl (WpX.pure (fun _ => rfl) ⟨nolog, ?_⟩)
        | refine WpL.skip rfl rfl ?_
        | refine seqQ_normal ?_
        | refine seqQ_ret ?_
        | refine seqQ_exit ?_
        | refine blkQ_normal ?_
        | refine blkQ_ret ?_
        | refine blkQ_out rfl ?_
        | refine blkQ_by rfl ?_)
      refine out_ret rfl ⟨rfl, .inl ⟨i, _, rfl, hz, hne, rfl, ?_⟩⟩
      simp only [if_neg hne2]
      exact r2
  ·
    repeat' (first
      | refine WpC.seq ?_
      | refine WpC.region ?_
      | refine WpC.drawn ?_
      | refine WpC.skip ?_
      | refine WpC.block ?_
      | refine WpC.exit ?_
      | refine WpC.ret ?_
      | refine WpO.nil ?_
      | refine WpO.cons rfl rfl (WpX.pure (fun _ => rfl) ⟨nolog, ?_⟩)
      | refine WpO.skip rfl rfl ?_
      | refine WpL.cons rfl rfl (WpX.pure (fun _ => rfl) ⟨nolog, ?_⟩)
      | refine WpL.skip rfl rfl ?_
      | refine seqQ_normal ?_
      | refine seqQ_ret ?_
      | refine seqQ_exit ?_
      | refine blkQ_normal ?_
      | refine blkQ_ret ?_
      | refine blkQ_out rfl ?_
      | refine blkQ_by rfl ?_)
    refine WpC.cond rfl (fun _ => ?_) (fun hb => by cases hb)
    repeat' (first
      | refine WpC.seq ?_
      | refine WpC.region ?_
      | refine WpC.drawn ?_
      | refine WpC.skip ?_
      | refine WpC.block ?_
      | refine WpC.exit ?_
      | refine WpC.ret ?_
      | refine WpO.nil ?_
      | refine WpO.cons rfl rfl (WpX.pure (fun _ => rfl) ⟨nolog, ?_⟩)
      | refine WpO.skip rfl rfl ?_
      | refine WpL.cons rfl rfl (WpX.pure (fun _ => rfl) ⟨nolog, ?_⟩)
      | refine WpL.skip rfl rfl ?_
      | refine seqQ_normal ?_
      | refine seqQ_ret ?_
      | refine seqQ_exit ?_
      | refine blkQ_normal ?_
      | refine blkQ_ret ?_
      | refine blkQ_out rfl ?_
      | refine blkQ_by rfl ?_)
    exact out_ret rfl ⟨rfl, .inr ⟨hno, rfl, rfl⟩⟩
end Go.Proofs.Ytempfmkicpifkaa


set_option linter.unusedVariables false
set_option linter.unusedSectionVars false
set_option linter.unusedSimpArgs false
set_option linter.unnecessarySimpa false
namespace Go.Proofs.Ytempfmkicpifkaa
open Go.Ab
set_option maxRecDepth 10000

/-- The handles that are held, of rows from number k on. -/
def hnd : List (Int × Int × Int) → Nat → List Int
  | [], _ => []
  | q :: rows, k => if q.2.2 > 0 then ((k + 1 : Nat) : Int) :: hnd rows (k + 1) else hnd rows (k + 1)
theorem hnd_append : ∀ (a b : List (Int × Int × Int)) (k : Nat), hnd (a ++ b) k = hnd a k ++ hnd b (k + a.length)
  | [], b, k => by simp [hnd]
  | q :: a, b, k => by
    have := hnd_append a b (k + 1)
    simp only [List.cons_append, hnd, this, List.length_cons]
    rw [show k + 1 + a.length = k + (a.length + 1) from by omega]
    split <;> simp
theorem hnd_le : ∀ (a : List (Int × Int × Int)) (k : Nat), (hnd a k).length ≤ a.length
  | [], k => by simp [hnd]
  | q :: a, k => by
    have := hnd_le a (k + 1)
    unfold hnd
    split <;> simp <;> omega
theorem take_snoc {α : Type} {l : List α} {i : Nat} {x : α} (h : l[i]? = some x) : l.take (i + 1) = l.take i ++ [x] := by
  rw [List.take_add_one, h]; rfl

theorem handles_ok {h : HH} {c p : Nat} {vb vr : V} {st : St} (r : StoreAt h c p vb vr st) (hlen : st.rows.length ≤ 1000) :
    Does 73 [.ptr (some (p, 0))] h c (p :: rowName vr) fun v h' c' => ListOf 1 intV h' c' v (hnd st.rows 0) ∧ (∀ n ∈ rowName v, c ≤ n) ∧ ∀ n, n < c → MapI.get h' n = MapI.get h n := by
  have hobj := r.obj
  have hlp := r.lp
  obtain ⟨s, cap, rfl, hs⟩ := r.rows.shape
  refine does_of (enter (fn := Try.f73) Try.func73 rfl rfl (Nat.le_of_ble_eq_true rfl) ?_)
  repeat' (first
    | refine WpC.seq ?_
    | refine WpC.region ?_
    | refine WpC.drawn ?_
    | refine WpC.skip ?_
    | refine WpC.block ?_
    | refine WpC.exit ?_
    | refine WpC.ret ?_
    | refine WpO.nil ?_
    | refine WpO.cons rfl rfl (WpX.pure (fun _ => rfl) ⟨nolog, ?_⟩)
    | refine WpO.skip rfl rfl ?_
    | refine WpL.cons rfl rfl (WpX.pure (fun _ => rfl) ⟨nolog, ?_⟩)
    | refine WpL.skip rfl rfl ?_
    | refine seqQ_normal ?_
    | refine seqQ_ret ?_
    | refine seqQ_exit ?_
    | refine blkQ_normal ?_
    | refine blkQ_ret ?_
    | refine blkQ_out rfl ?_
    | refine blkQ_by rfl ?_)
  refine WpC.cond rfl (fun hb => by cases hb) (fun _ => ?_)
  repeat' (first
    | refine WpC.seq ?_
    | refine WpC.region ?_
    | refine WpC.drawn ?_
    | refine WpC.skip ?_
    | refine WpC.block ?_
    | refine WpC.exit ?_
    | refine WpC.ret ?_
    | refine WpO.nil ?_
    | refine WpO.cons rfl rfl (WpX.pure (fun _ => rfl) ⟨nolog, ?_⟩)
    | refine WpO.skip rfl rfl ?_
    | refine WpL.cons rfl rfl (WpX.pure (fun _ => rfl) ⟨nolog, ?_⟩)
    | refine WpL.skip rfl rfl ?_
    | refine seqQ_normal ?_
    | refine seqQ_ret ?_
    | refine seqQ_exit ?_
    | refine blkQ_normal ?_
    | refine blkQ_ret ?_
    | refine blkQ_out rfl ?_
    | refine blkQ_by rfl ?_
    | refine WpO.cons rfl rfl (op_load rfl rfl rfl hobj rfl ⟨(by simp [InL, Acc.name, rowName] <;> omega), ?_⟩)
    | refine WpL.cons rfl rfl (op_load rfl rfl rfl hobj rfl ⟨(by simp [InL, Acc.name, rowName] <;> omega), ?_⟩)
    | refine WpO.cons rfl rfl (op_len rfl rfl rfl ⟨(by simp [InL, Acc.name, rowName] <;> omega), ?_⟩)
    | refine WpL.cons rfl rfl (op_len rfl rfl rfl ⟨(by simp [InL, Acc.name, rowName] <;> omega), ?_⟩))
  refine WpC.loop ?_
  refine WpLoop.ind (X := Nat × V) (fun x e h' c' => (∃ b0, e = MapI.set (MapI.set (MapI.set (MapI.set b0 3 x.2) 11 (.slice s st.rows.length cap)) 12 (I st.rows.length)) 13 (I x.1)) ∧ x.1 ≤ st.rows.length ∧ ListOf (0 + 1) intV h' c' x.2 (hnd (st.rows.take x.1) 0) ∧ (∀ n ∈ rowName x.2, c ≤ n) ∧ c ≤ c' ∧ ∀ n, n < c → MapI.get h' n = MapI.get h n)
    (fun x => st.rows.length - x.1) ?_ (0, .slice none 0 (.known 0)) _ _ _ ⟨set4 rfl rfl rfl rfl, Nat.zero_le _, .nil, fun n hn => (by cases hn), Nat.le_refl _, fun n _ => rfl⟩
  rintro ⟨i, v⟩ e h' c' ⟨⟨b0, rfl⟩, hi, hl, hv, hc, hfr⟩
  simp only at hi hl hv
  repeat' (first
    | refine WpC.seq ?_
    | refine WpC.region ?_
    | refine WpC.drawn ?_
    | refine WpC.skip ?_
    | refine WpC.block ?_
    | refine WpC.exit ?_
    | refine WpC.ret ?_
    | refine WpO.nil ?_
    | refine WpO.cons rfl rfl (WpX.pure (fun _ => rfl) ⟨nolog, ?_⟩)
    | refine WpO.skip rfl rfl ?_
    | refine WpL.cons rfl rfl (WpX.pure (fun _ => rfl) ⟨nolog, ?_⟩)
    | refine WpL.skip rfl rfl ?_
    | refine seqQ_normal ?_
    | refine seqQ_ret ?_
    | refine seqQ_exit ?_
    | refine blkQ_normal ?_
    | refine blkQ_ret ?_
    | refine blkQ_out rfl ?_
    | refine blkQ_by rfl ?_)
  refine WpC.cond rfl (fun hlt => ?_) (fun hge => ?_)
  case refine_2 =>
    have hge : st.rows.length ≤ i := by simpa using hge
    repeat' (first
      | refine WpC.seq ?_
      | refine WpC.region ?_
      | refine WpC.drawn ?_
      | refine WpC.skip ?_
      | refine WpC.block ?_
      | refine WpC.exit ?_
      | refine WpC.ret ?_
      | refine WpO.nil ?_
      | refine WpO.cons rfl rfl (WpX.pure (fun _ => rfl) ⟨nolog, ?_⟩)
      | refine WpO.skip rfl rfl ?_
      | refine WpL.cons rfl rfl (WpX.pure (fun _ => rfl) ⟨nolog, ?_⟩)
      | refine WpL.skip rfl rfl ?_
      | refine seqQ_normal ?_
      | refine seqQ_ret ?_
      | refine seqQ_exit ?_
      | refine blkQ_normal ?_
      | refine blkQ_ret ?_
      | refine blkQ_out rfl ?_
      | refine blkQ_by rfl ?_)
    rw [List.take_of_length_le hge] at hl
    exact out_ret rfl ⟨hl, hv, hfr⟩
  have hlt : i < st.rows.length := by simpa using hlt
  obtain ⟨rfl, sn, cl, junk, rfl, hsn, hg, _⟩ := hs i hlt
  have hg' : MapI.get h' sn = some (.cells true cl (flat tri st.rows ++ junk)) := by rw [hfr sn hsn]; exact hg
  obtain ⟨⟨z0, z1, z2⟩, hz⟩ : ∃ z, st.rows[i]? = some z := ⟨_, List.getElem?_eq_getElem hlt⟩
  have hct : cut (flat tri st.rows ++ junk) (0 + ((i : Nat) : Int).toNat * 3) 3 = some (tri (z0, z1, z2)) := by
    have : 0 + ((i : Nat) : Int).toNat * 3 = i * 3 := by simp
    rw [this]; exact cut_flat tri_len hz junk
  have hw1 : IntKind.i64.wrap ((i : Int) + 1) = ((i + 1 : Nat) : Int) := by rw [Go.IntWalk.i64_in _ (by omega)]; omega
  have hgc : ∀ x : AObj, MapI.get (MapI.set h' c' x) c' = some x := fun x => MapI.get_same _ _ _
  have hd : ∀ (x : AObj) (y : AObj), MapI.get (MapI.set (MapI.set h' c' x) c' y) c' = some y := fun x y => MapI.get_same _ _ _
  have hll := hl.lt
  have htk := take_snoc hz
  have hmin : min i st.rows.length = i := by omega
  repeat' (first
    | refine WpC.seq ?_
    | refine WpC.region ?_
    | refine WpC.drawn ?_
    | refine WpC.skip ?_
    | refine WpC.block ?_
    | refine WpC.exit ?_
    | refine WpC.ret ?_
    | refine WpO.nil ?_
    | refine WpO.cons rfl rfl (WpX.pure (fun _ => rfl) ⟨nolog, ?_⟩)
    | refine WpO.skip rfl rfl ?_
    | refine WpL.cons rfl rfl (WpX.pure (fun _ => rfl) ⟨nolog, ?_⟩)
    | refine WpL.skip rfl rfl ?_
    | refine seqQ_normal ?_
    | refine seqQ_ret ?_
    | refine seqQ_exit ?_
    | refine blkQ_normal ?_
    | refine blkQ_ret ?_
    | refine blkQ_out rfl ?_
    | refine blkQ_by rfl ?_
    | refine WpO.cons rfl rfl (op_indexAddr (k := 3) rfl rfl rfl rfl ⟨by omega, by omega⟩ ⟨(by simp [InL, Acc.name, rowName] <;> omega), ?_⟩)
    | refine WpL.cons rfl rfl (op_indexAddr (k := 3) rfl rfl rfl rfl ⟨by omega, by omega⟩ ⟨(by simp [InL, Acc.name, rowName] <;> omega), ?_⟩)
    | refine WpO.cons rfl rfl (op_loadA rfl rfl rfl rfl hg' hct ⟨(by simp [InL, Acc.name, rowName] <;> omega), ?_⟩)
    | refine WpL.cons rfl rfl (op_loadA rfl rfl rfl rfl hg' hct ⟨(by simp [InL, Acc.name, rowName] <;> omega), ?_⟩)
    | refine WpO.cons rfl rfl (op_alloc rfl ⟨(by simp [InL, Acc.name, rowName] <;> omega), ?_⟩)
    | refine WpL.cons rfl rfl (op_alloc rfl ⟨(by simp [InL, Acc.name, rowName] <;> omega), ?_⟩)
    | refine WpO.cons rfl rfl (op_store rfl rfl rfl rfl (hgc _) (Nat.le_refl _) rfl ⟨(by simp [InL, Acc.name, rowName] <;> omega), ?_⟩)
    | refine WpL.cons rfl rfl (op_store rfl rfl rfl rfl (hgc _) (Nat.le_refl _) rfl ⟨(by simp [InL, Acc.name, rowName] <;> omega), ?_⟩)
    | refine WpO.cons rfl rfl (op_load rfl rfl rfl (hd _ _) rfl ⟨(by simp [InL, Acc.name, rowName] <;> omega), ?_⟩)
    | refine WpL.cons rfl rfl (op_load rfl rfl rfl (hd _ _) rfl ⟨(by simp [InL, Acc.name, rowName] <;> omega), ?_⟩))
  refine WpC.cond rfl (fun hp => ?_) (fun hp => ?_)
  · have hp : z2 > 0 := by simpa using hp
    have hnew : hnd (st.rows.take (i + 1)) 0 = hnd (st.rows.take i) 0 ++ [((i + 1 : Nat) : Int)] := by
      rw [htk, hnd_append]; simp [hnd, hp, hmin]
    repeat' (first
      | refine WpC.seq ?_
      | refine WpC.region ?_
      | refine WpC.drawn ?_
      | refine WpC.skip ?_
      | refine WpC.block ?_
      | refine WpC.exit ?_
      | refine WpC.ret ?_
      | refine WpO.nil ?_
      | refine WpO.cons rfl rfl (WpX.pure (fun _ => rfl) ⟨nolog, ?_⟩)
      | refine WpO.skip rfl rfl ?_
      | refine WpL.cons rfl rfl (WpX.pure (fun _ => rfl) ⟨nolog, ?_⟩)
      | refine WpL.skip rfl rfl ?_
      | refine seqQ_normal ?_
      | refine seqQ_ret ?_
      | refine seqQ_exit ?_
      | refine blkQ_normal ?_
      | refine blkQ_ret ?_
      | refine blkQ_out rfl ?_
      | refine blkQ_by rfl ?_
      | refine WpO.cons rfl rfl (op_buildSlice (k := 1) rfl rfl rfl rfl (by decide) rfl ⟨(by simp [InL, Acc.name, rowName] <;> omega), ?_⟩)
      | refine WpL.cons rfl rfl (op_buildSlice (k := 1) rfl rfl rfl rfl (by decide) rfl ⟨(by simp [InL, Acc.name, rowName] <;> omega), ?_⟩))
    have hl2 : ∀ x y z : AObj, ListOf (0 + 1) intV (MapI.set (MapI.set (MapI.set h' c' x) c' y) (c' + 1) z) (c' + 1 + 1) v (hnd (st.rows.take i) 0) := fun x y z => hl.keep (by omega) fun n hn _ => by
      rw [MapI.get_ne _ _ _ _ (by omega), MapI.get_ne _ _ _ _ (by omega), MapI.get_ne _ _ _ _ (by omega)]
    have hb1 : ∀ (g : HH) (x : AObj), MapI.get (MapI.set g (c' + 1) x) (c' + 1) = some x := fun g x => MapI.get_same _ _ _
    have hle1 := hnd_le (st.rows.take i) 0
    rw [List.length_take] at hle1
    refine WpO.cons rfl rfl (append_at (ys := [IntKind.i64.wrap ((i : Int) + 1)]) rfl rfl elI rfl int_len int_all (hl2 _ _ _) (hb1 _ _) rfl rfl (by omega) (.inr (by simp [Acc.name]; omega)) (fun a ha => ⟨.inr (by have := hv a ha; exact this), .inr (by have := hv a ha; exact this)⟩) (.inr (by simp [Acc.name]; omega)) fun v2 h2 c2 hlv hn2 hc2 hf2 => ?_)
    repeat' (first
      | refine WpC.seq ?_
      | refine WpC.region ?_
      | refine WpC.drawn ?_
      | refine WpC.skip ?_
      | refine WpC.block ?_
      | refine WpC.exit ?_
      | refine WpC.ret ?_
      | refine WpO.nil ?_
      | refine WpO.cons rfl rfl (WpX.pure (fun _ => rfl) ⟨nolog, ?_⟩)
      | refine WpO.skip rfl rfl ?_
      | refine WpL.cons rfl rfl (WpX.pure (fun _ => rfl) ⟨nolog, ?_⟩)
      | refine WpL.skip rfl rfl ?_
      | refine seqQ_normal ?_
      | refine seqQ_ret ?_
      | refine seqQ_exit ?_
      | refine blkQ_normal ?_
      | refine blkQ_ret ?_
      | refine blkQ_out rfl ?_
      | refine blkQ_by rfl ?_)
    refine ⟨(i + 1, v2), by simp only; omega, ?_, by simp only; omega, ?_, fun n hn => ?_, by omega, fun n hn => ?_⟩
    · rw [hw1]
      exact set4 rfl rfl rfl rfl
    · rw [hnew, ← hw1]; exact hlv
    · rcases hn2 n hn with h | ⟨h, _⟩
      · exact hv n h
      · omega
    · rw [hf2 n (by omega) (fun hm => by have := hv n hm; omega), MapI.get_ne _ _ _ _ (by omega), MapI.get_ne _ _ _ _ (by omega), MapI.get_ne _ _ _ _ (by omega)]
      exact hfr n hn
  · have hp : ¬ z2 > 0 := by simpa using hp
    have hnew : hnd (st.rows.take (i + 1)) 0 = hnd (st.rows.take i) 0 := by
      rw [htk, hnd_append]; simp [hnd, hp]
    repeat' (first
      | refine WpC.seq ?_
      | refine WpC.region ?_
      | refine WpC.drawn ?_
      | refine WpC.skip ?_
      | refine WpC.block ?_
      | refine WpC.exit ?_
      | refine WpC.ret ?_
      | refine WpO.nil ?_
      | refine WpO.cons rfl rfl (WpX.pure (fun _ => rfl) ⟨nolog, ?_⟩)
      | refine WpO.skip rfl rfl ?_
      | refine WpL.cons rfl rfl (WpX.pure (fun _ => rfl) ⟨nolog, ?_⟩)
      | refine WpL.skip rfl rfl ?_
      | refine seqQ_normal ?_
      | refine seqQ_ret ?_
      | refine seqQ_exit ?_
      | refine blkQ_normal ?_
      | refine blkQ_ret ?_
      | refine blkQ_out rfl ?_
      | refine blkQ_by rfl ?_)
    refine ⟨(i + 1, v), by simp only; omega, ?_, by simp only; omega, ?_, hv, by omega, fun n hn => ?_⟩
    · rw [hw1]
      exact set4 rfl rfl rfl rfl
    · simp only [hnew]
      exact hl.keep (by omega) fun n hn _ => by rw [MapI.get_ne _ _ _ _ (by omega), MapI.get_ne _ _ _ _ (by omega)]
    · rw [MapI.get_ne _ _ _ _ (by omega), MapI.get_ne _ _ _ _ (by omega)]; exact hfr n hn
end Go.Proofs.Ytempfmkicpifkaa


set_option linter.unusedVariables false
set_option linter.unusedSectionVars false
set_option linter.unusedSimpArgs false
set_option linter.unnecessarySimpa false
namespace Go.Proofs.Ytempfmkicpifkaa
open Go.Ab
set_option maxRecDepth 10000

theorem StoreAt.names {h : HH} {c p : Nat} {vb vr : V} {st : St} (r : StoreAt h c p vb vr st) : ∀ n ∈ p :: (rowName vb ++ rowName vr), n < c := fun n hn => by
  rcases List.mem_cons.1 hn with e | e
  · rw [e]; exact r.lp
  · rcases List.mem_append.1 e with e | e
    · exact r.bytes.lt n e
    · exact r.rows.lt n e
/-- Nothing is granted, and refused: nothing is turned. -/
theorem grant_zero {h : HH} {c p : Nat} {a : Option (Nat × Nat)} {cap : Cap} : Does 62 [.ptr (some (p, 0)), .slice a 0 cap] h c [] fun v h' c' => v = .tuple [I 0, .bool true] ∧ h' = h ∧ c' = c := by
  refine does_of (enter (fn := Try.f62) Try.func62 rfl rfl (Nat.le_of_ble_eq_true rfl) ?_)
  repeat' (first
    | refine WpC.seq ?_
    | refine WpC.region ?_
    | refine WpC.drawn ?_
    | refine WpC.skip ?_
    | refine WpC.block ?_
    | refine WpC.exit ?_
    | refine WpC.ret ?_
    | refine WpO.nil ?_
    | refine WpO.cons rfl rfl (WpX.pure (fun _ => rfl) ⟨nolog, ?_⟩)
    | refine WpO.skip rfl rfl ?_
    | refine WpL.cons rfl rfl (WpX.pure (fun _ => rfl) ⟨nolog, ?_⟩)
    | refine WpL.skip rfl rfl ?_
    | refine seqQ_normal ?_
    | refine seqQ_ret ?_
    | refine seqQ_exit ?_
    | refine blkQ_normal ?_
    | refine blkQ_ret ?_
    | refine blkQ_out rfl ?_
    | refine blkQ_by rfl ?_)
  refine WpC.cond rfl (fun hb => by cases hb) (fun _ => ?_)
  repeat' (first
    | refine WpC.seq ?_
    | refine WpC.region ?_
    | refine WpC.drawn ?_
    | refine WpC.skip ?_
    | refine WpC.block ?_
    | refine WpC.exit ?_
    | refine WpC.ret ?_
    | refine WpO.nil ?_
    | refine WpO.cons rfl rfl (WpX.pure (fun _ => rfl) ⟨nolog, ?_⟩)
    | refine WpO.skip rfl rfl ?_
    | refine WpL.cons rfl rfl (WpX.pure (fun _ => rfl) ⟨nolog, ?_⟩)
    | refine WpL.skip rfl rfl ?_
    | refine seqQ_normal ?_
    | refine seqQ_ret ?_
    | refine seqQ_exit ?_
    | refine blkQ_normal ?_
    | refine blkQ_ret ?_
    | refine blkQ_out rfl ?_
    | refine blkQ_by rfl ?_
    | refine WpO.cons rfl rfl (op_len rfl rfl rfl ⟨(by simp [InL, Acc.name, rowName] <;> omega), ?_⟩)
    | refine WpL.cons rfl rfl (op_len rfl rfl rfl ⟨(by simp [InL, Acc.name, rowName] <;> omega), ?_⟩))
  refine WpC.cond rfl (fun _ => ?_) (fun hb => by cases hb)
  repeat' (first
    | refine WpC.seq ?_
    | refine WpC.region ?_
    | refine WpC.drawn ?_
    | refine WpC.skip ?_
    | refine WpC.block ?_
    | refine WpC.exit ?_
    | refine WpC.ret ?_
    | refine WpO.nil ?_
    | refine WpO.cons rfl rfl (WpX.pure (fun _ => rfl) ⟨nolog, ?_⟩)
    | refine WpO.skip rfl rfl ?_
    | refine WpL.cons rfl rfl (WpX.pure (fun _ => rfl) ⟨nolog, ?_⟩)
    | refine WpL.skip rfl rfl ?_
    | refine seqQ_normal ?_
    | refine seqQ_ret ?_
    | refine seqQ_exit ?_
    | refine blkQ_normal ?_
    | refine blkQ_ret ?_
    | refine blkQ_out rfl ?_
    | refine blkQ_by rfl ?_)
  exact out_ret rfl ⟨rfl, rfl, rfl⟩
theorem grant_no {h : HH} {c p n : Nat} {vb vr : V} {st : St} {a : Option (Nat × Nat)} {cap : Cap} (r : StoreAt h c p vb vr st) (hn : 0 < n) (hn2 : n ≤ 100000000) (hm : 0 ≤ st.most ∧ st.most ≤ 1048576) (hno : st.live > st.most - n) :
    Does 62 [.ptr (some (p, 0)), .slice a n cap] h c [p] fun v h' c' => v = .tuple [I 0, .bool false] ∧ h' = h ∧ c' = c := by
  have hobj := r.obj
  have hw : IntKind.i64.wrap (st.most - (n : Int)) = st.most - n := Go.IntWalk.i64_in _ (by omega)
  refine does_of (enter (fn := Try.f62) Try.func62 rfl rfl (Nat.le_of_ble_eq_true rfl) ?_)
  repeat' (first
    | refine WpC.seq ?_
    | refine WpC.region ?_
    | refine WpC.drawn ?_
    | refine WpC.skip ?_
    | refine WpC.block ?_
    | refine WpC.exit ?_
    | refine WpC.ret ?_
    | refine WpO.nil ?_
    | refine WpO.cons rfl rfl (WpX.pure (fun _ => rfl) ⟨nolog, ?_⟩)
    | refine WpO.skip rfl rfl ?_
    | refine WpL.cons rfl rfl (WpX.pure (fun _ => rfl) ⟨nolog, ?_⟩)
    | refine WpL.skip rfl rfl ?_
    | refine seqQ_normal ?_
    | refine seqQ_ret ?_
    | refine seqQ_exit ?_
    | refine blkQ_normal ?_
    | refine blkQ_ret ?_
    | refine blkQ_out rfl ?_
    | refine blkQ_by rfl ?_)
  refine WpC.cond rfl (fun hb => by cases hb) (fun _ => ?_)
  repeat' (first
    | refine WpC.seq ?_
    | refine WpC.region ?_
    | refine WpC.drawn ?_
    | refine WpC.skip ?_
    | refine WpC.block ?_
    | refine WpC.exit ?_
    | refine WpC.ret ?_
    | refine WpO.nil ?_
    | refine WpO.cons rfl rfl (WpX.pure (fun _ => rfl) ⟨nolog, ?_⟩)
    | refine WpO.skip rfl rfl ?_
    | refine WpL.cons rfl rfl (WpX.pure (fun _ => rfl) ⟨nolog, ?_⟩)
    | refine WpL.skip rfl rfl ?_
    | refine seqQ_normal ?_
    | refine seqQ_ret ?_
    | refine seqQ_exit ?_
    | refine blkQ_normal ?_
    | refine blkQ_ret ?_
    | refine blkQ_out rfl ?_
    | refine blkQ_by rfl ?_
    | refine WpO.cons rfl rfl (op_len rfl rfl rfl ⟨(by simp [InL, Acc.name, rowName] <;> omega), ?_⟩)
    | refine WpL.cons rfl rfl (op_len rfl rfl rfl ⟨(by simp [InL, Acc.name, rowName] <;> omega), ?_⟩))
  refine WpC.cond rfl (fun hb => by simp at hb; omega) (fun _ => ?_)
  repeat' (first
    | refine WpC.seq ?_
    | refine WpC.region ?_
    | refine WpC.drawn ?_
    | refine WpC.skip ?_
    | refine WpC.block ?_
    | refine WpC.exit ?_
    | refine WpC.ret ?_
    | refine WpO.nil ?_
    | refine WpO.cons rfl rfl (WpX.pure (fun _ => rfl) ⟨nolog, ?_⟩)
    | refine WpO.skip rfl rfl ?_
    | refine WpL.cons rfl rfl (WpX.pure (fun _ => rfl) ⟨nolog, ?_⟩)
    | refine WpL.skip rfl rfl ?_
    | refine seqQ_normal ?_
    | refine seqQ_ret ?_
    | refine seqQ_exit ?_
    | refine blkQ_normal ?_
    | refine blkQ_ret ?_
    | refine blkQ_out rfl ?_
    | refine blkQ_by rfl ?_
    | refine WpO.cons rfl rfl (op_len rfl rfl rfl ⟨(by simp [InL, Acc.name, rowName] <;> omega), ?_⟩)
    | refine WpL.cons rfl rfl (op_len rfl rfl rfl ⟨(by simp [InL, Acc.name, rowName] <;> omega), ?_⟩)
    | refine WpO.cons rfl rfl (op_load rfl rfl rfl hobj rfl ⟨(by simp [InL, Acc.name, rowName] <;> omega), ?_⟩)
    | refine WpL.cons rfl rfl (op_load rfl rfl rfl hobj rfl ⟨(by simp [InL, Acc.name, rowName] <;> omega), ?_⟩))
  refine WpL.nil (logsOk_of (cs := [0, 1, 3, 7, 0, 16, 48, 112, 0, 256, 1008, 2047, 4095]) (by decide +kernel) ?_) ?_
  · simp +contextual [allP, apP, Dis, acc_rd, acc_wr, accw_rd, accw_wr, Nat.testBit]
  refine WpC.cond rfl (fun _ => ?_) (fun hb => by rw [hw] at hb; simp at hb; omega)
  repeat' (first
    | refine WpC.seq ?_
    | refine WpC.region ?_
    | refine WpC.drawn ?_
    | refine WpC.skip ?_
    | refine WpC.block ?_
    | refine WpC.exit ?_
    | refine WpC.ret ?_
    | refine WpO.nil ?_
    | refine WpO.cons rfl rfl (WpX.pure (fun _ => rfl) ⟨nolog, ?_⟩)
    | refine WpO.skip rfl rfl ?_
    | refine WpL.cons rfl rfl (WpX.pure (fun _ => rfl) ⟨nolog, ?_⟩)
    | refine WpL.skip rfl rfl ?_
    | refine seqQ_normal ?_
    | refine seqQ_ret ?_
    | refine seqQ_exit ?_
    | refine blkQ_normal ?_
    | refine blkQ_ret ?_
    | refine blkQ_out rfl ?_
    | refine blkQ_by rfl ?_)
  exact out_ret rfl ⟨rfl, rfl, rfl⟩
theorem grant_at {h : HH} {c p m o n : Nat} {vb vr : V} {st : St} {cap : Cap} {rw' cl' : Bool} {cs : List V} {ys : List Int} (r : StoreAt h c p vb vr st) (hn : 0 < n) (hn2 : n ≤ 1048576) (hy : ys.length = n) (hx : MapI.get h m = some (.cells rw' cl' cs)) (hcut : cut cs o (n * 1) = some (flat byteV ys)) (hm : 0 ≤ st.most ∧ st.most ≤ 1048576)
    (hlive : 0 ≤ st.live ∧ st.live ≤ 1048576) (hbs : (st.bs.length : Int) ≤ st.most - n) (hyes : st.live ≤ st.most - n) (hlen : st.rows.length ≤ 1000) (hmc : m < c) (hmn : m ∉ p :: (rowName vb ++ rowName vr)) :
    Does 62 [.ptr (some (p, 0)), .slice (some (m, o)) n cap] h c (m :: p :: (rowName vb ++ rowName vr)) fun v h' c' => MapI.get h' m = MapI.get h m ∧ ∃ (i : Nat) (vb' vr' : V) (rows' : List (Int × Int × Int)), v = .tuple [I ((i + 1 : Nat) : Int), .bool true] ∧
      StoreAt h' c' p vb' vr' ⟨st.bs ++ ys, st.most, rows', st.live + n⟩ ∧ (∀ a ∈ rowName vb' ++ rowName vr', a ∈ rowName vb ++ rowName vr ∨ c ≤ a) ∧ i ≤ st.rows.length ∧ (∀ j q, j < i → st.rows[j]? = some q → q.2.2 ≠ 0) ∧
      ((∃ q, st.rows[i]? = some q ∧ q.2.2 = 0 ∧ rows' = st.rows.set i (st.bs.length, n, 1)) ∨ (i = st.rows.length ∧ rows' = st.rows ++ [((st.bs.length : Int), (n : Int), (1 : Int))])) := by
  have hobj := r.obj
  have hlp := r.lp
  have hw : IntKind.i64.wrap (st.most - (n : Int)) = st.most - n := Go.IntWalk.i64_in _ (by omega)
  have hw2 : IntKind.i64.wrap (st.live + (n : Int)) = st.live + n := Go.IntWalk.i64_in _ (by omega)
  obtain ⟨sb, cb, rfl, _⟩ := r.bytes.shape
  refine does_of (enter (fn := Try.f62) Try.func62 rfl rfl (Nat.le_of_ble_eq_true rfl) ?_)
  repeat' (first
    | refine WpC.seq ?_
    | refine WpC.region ?_
    | refine WpC.drawn ?_
    | refine WpC.skip ?_
    | refine WpC.block ?_
    | refine WpC.exit ?_
    | refine WpC.ret ?_
    | refine WpO.nil ?_
    | refine WpO.cons rfl rfl (WpX.pure (fun _ => rfl) ⟨nolog, ?_⟩)
    | refine WpO.skip rfl rfl ?_
    | refine WpL.cons rfl rfl (WpX.pure (fun _ => rfl) ⟨nolog, ?_⟩)
    | refine WpL.skip rfl rfl ?_
    | refine seqQ_normal ?_
    | refine seqQ_ret ?_
    | refine seqQ_exit ?_
    | refine blkQ_normal ?_
    | refine blkQ_ret ?_
    | refine blkQ_out rfl ?_
    | refine blkQ_by rfl ?_)
  refine WpC.cond rfl (fun hb => by cases hb) (fun _ => ?_)
  repeat' (first
    | refine WpC.seq ?_
    | refine WpC.region ?_
    | refine WpC.drawn ?_
    | refine WpC.skip ?_
    | refine WpC.block ?_
    | refine WpC.exit ?_
    | refine WpC.ret ?_
    | refine WpO.nil ?_
    | refine WpO.cons rfl rfl (WpX.pure (fun _ => rfl) ⟨nolog, ?_⟩)
    | refine WpO.skip rfl rfl ?_
    | refine WpL.cons rfl rfl (WpX.pure (fun _ => rfl) ⟨nolog, ?_⟩)
    | refine WpL.skip rfl rfl ?_
    | refine seqQ_normal ?_
    | refine seqQ_ret ?_
    | refine seqQ_exit ?_
    | refine blkQ_normal ?_
    | refine blkQ_ret ?_
    | refine blkQ_out rfl ?_
    | refine blkQ_by rfl ?_
    | refine WpO.cons rfl rfl (op_len rfl rfl rfl ⟨(by simp [InL, Acc.name, rowName] <;> omega), ?_⟩)
    | refine WpL.cons rfl rfl (op_len rfl rfl rfl ⟨(by simp [InL, Acc.name, rowName] <;> omega), ?_⟩))
  refine WpC.cond rfl (fun hb => by simp at hb; omega) (fun _ => ?_)
  repeat' (first
    | refine WpC.seq ?_
    | refine WpC.region ?_
    | refine WpC.drawn ?_
    | refine WpC.skip ?_
    | refine WpC.block ?_
    | refine WpC.exit ?_
    | refine WpC.ret ?_
    | refine WpO.nil ?_
    | refine WpO.cons rfl rfl (WpX.pure (fun _ => rfl) ⟨nolog, ?_⟩)
    | refine WpO.skip rfl rfl ?_
    | refine WpL.cons rfl rfl (WpX.pure (fun _ => rfl) ⟨nolog, ?_⟩)
    | refine WpL.skip rfl rfl ?_
    | refine seqQ_normal ?_
    | refine seqQ_ret ?_
    | refine seqQ_exit ?_
    | refine blkQ_normal ?_
    | refine blkQ_ret ?_
    | refine blkQ_out rfl ?_
    | refine blkQ_by rfl ?_
    | refine WpO.cons rfl rfl (op_len rfl rfl rfl ⟨(by simp [InL, Acc.name, rowName] <;> omega), ?_⟩)
    | refine WpL.cons rfl rfl (op_len rfl rfl rfl ⟨(by simp [InL, Acc.name, rowName] <;> omega), ?_⟩)
    | refine WpO.cons rfl rfl (op_load rfl rfl rfl hobj rfl ⟨(by simp [InL, Acc.name, rowName] <;> omega), ?_⟩)
    | refine WpL.cons rfl rfl (op_load rfl rfl rfl hobj rfl ⟨(by simp [InL, Acc.name, rowName] <;> omega), ?_⟩))
  refine WpL.nil (logsOk_of (cs := [0, 1, 3, 7, 0, 16, 48, 112, 0, 256, 1008, 2047, 4095]) (by decide +kernel) ?_) ?_
  · simp +contextual [allP, apP, Dis, acc_rd, acc_wr, accw_rd, accw_wr, Nat.testBit]
  refine WpC.cond rfl (fun hb => by rw [hw] at hb; simp at hb; omega) (fun _ => ?_)
  repeat' (first
    | refine WpC.seq ?_
    | refine WpC.region ?_
    | refine WpC.drawn ?_
    | refine WpC.skip ?_
    | refine WpC.block ?_
    | refine WpC.exit ?_
    | refine WpC.ret ?_
    | refine WpO.nil ?_
    | refine WpO.cons rfl rfl (WpX.pure (fun _ => rfl) ⟨nolog, ?_⟩)
    | refine WpO.skip rfl rfl ?_
    | refine WpL.cons rfl rfl (WpX.pure (fun _ => rfl) ⟨nolog, ?_⟩)
    | refine WpL.skip rfl rfl ?_
    | refine seqQ_normal ?_
    | refine seqQ_ret ?_
    | refine seqQ_exit ?_
    | refine blkQ_normal ?_
    | refine blkQ_ret ?_
    | refine blkQ_out rfl ?_
    | refine blkQ_by rfl ?_
    | refine WpO.cons rfl rfl (op_len rfl rfl rfl ⟨(by simp [InL, Acc.name, rowName] <;> omega), ?_⟩)
    | refine WpL.cons rfl rfl (op_len rfl rfl rfl ⟨(by simp [InL, Acc.name, rowName] <;> omega), ?_⟩)
    | refine WpO.cons rfl rfl (op_load rfl rfl rfl hobj rfl ⟨(by simp [InL, Acc.name, rowName] <;> omega), ?_⟩)
    | refine WpL.cons rfl rfl (op_load rfl rfl rfl hobj rfl ⟨(by simp [InL, Acc.name, rowName] <;> omega), ?_⟩))
  refine WpL.nil (logsOk_of (cs := [0, 1, 3, 7, 15, 0, 32, 96, 224, 0, 512, 2016, 4095]) (by decide +kernel) ?_) ?_
  · simp +contextual [allP, apP, Dis, acc_rd, acc_wr, accw_rd, accw_wr, Nat.testBit]
  refine WpC.cond rfl (fun hb => by rw [hw] at hb; simp at hb; omega) (fun _ => ?_)
  repeat' (first
    | refine WpC.seq ?_
    | refine WpC.region ?_
    | refine WpC.drawn ?_
    | refine WpC.skip ?_
    | refine WpC.block ?_
    | refine WpC.exit ?_
    | refine WpC.ret ?_
    | refine WpO.nil ?_
    | refine WpO.cons rfl rfl (WpX.pure (fun _ => rfl) ⟨nolog, ?_⟩)
    | refine WpO.skip rfl rfl ?_
    | refine WpL.cons rfl rfl (WpX.pure (fun _ => rfl) ⟨nolog, ?_⟩)
    | refine WpL.skip rfl rfl ?_
    | refine seqQ_normal ?_
    | refine seqQ_ret ?_
    | refine seqQ_exit ?_
    | refine blkQ_normal ?_
    | refine blkQ_ret ?_
    | refine blkQ_out rfl ?_
    | refine blkQ_by rfl ?_)
  refine WpO.cons rfl rfl (call_at rfl (free_ok r hlen) (fun x hx => .inl (by simp at hx ⊢; rcases hx with h | h <;> simp [h])) (Nat.le_refl _) fun v h4 c4 hc4 hfr4 hq => ?_)
  obtain ⟨i, rfl, hq⟩ := hq
  have key : ∃ vr4 rows4, StoreAt h4 c4 p (.slice sb st.bs.length cb) vr4 { st with rows := rows4 } ∧ (∀ a ∈ rowName vr4, a ∈ rowName vr ∨ c ≤ a) ∧ i < rows4.length ∧ i ≤ st.rows.length ∧ (∀ j q, j < i → st.rows[j]? = some q → q.2.2 ≠ 0) ∧
      ((∃ q, st.rows[i]? = some q ∧ q.2.2 = 0 ∧ rows4.set i ((st.bs.length : Int), (n : Int), (1 : Int)) = st.rows.set i (st.bs.length, n, 1)) ∨ (i = st.rows.length ∧ rows4.set i ((st.bs.length : Int), (n : Int), (1 : Int)) = st.rows ++ [((st.bs.length : Int), (n : Int), (1 : Int))])) := by
    rcases hq with ⟨q, h1, h2, h3, h4⟩ | ⟨rfl, h3, vr4, h4, h5⟩
    · have := (List.getElem?_eq_some_iff.1 h1).1
      exact ⟨vr, st.rows, h4, fun a ha => .inl ha, this, by omega, h3, .inl ⟨q, h1, h2, rfl⟩⟩
    · exact ⟨vr4, _, h4, h5, by simp, Nat.le_refl _, fun j q hj => h3 j q hj, .inr ⟨rfl, by simp⟩⟩
  obtain ⟨vr4, rows4, r4, hn4, hi4, hil, hbefore, hrows4⟩ := key
  have hobj4 := r4.obj
  obtain ⟨s4, cap4, rfl, hs4⟩ := r4.rows.shape
  obtain ⟨rfl, sn, cl, junk, rfl, hsn, hg4, hj4⟩ := hs4 i hi4
  simp only at hobj4 hg4 hi4
  have hps : p ≠ sn := fun e => r4.nr sn (by simp [rowName]) e.symm
  have hmsn : m ≠ sn := fun e => by
    rcases hn4 sn (by simp [rowName]) with h | h
    · exact hmn (by rw [e]; simp [h])
    · omega
  have hmp : m ≠ p := fun e => hmn (by simp [e])
  have hx4 : MapI.get h4 m = some (.cells rw' cl' cs) := by
    rw [hfr4 m hmc (fun hm => hmn (by simp at hm ⊢; rcases hm with h | h <;> simp [h]))]; exact hx
  have hfl : 0 + ((i : Nat) : Int).toNat * 3 + 3 ≤ (flat tri rows4 ++ junk).length := by
    rw [List.length_append, flat_length tri_len]; simp; omega
  have hLsn : InL (m :: p :: (rowName (.slice sb st.bs.length cb) ++ rowName vr)) c (.wr sn) := by
    rcases hn4 sn (by simp [rowName]) with h | h
    · exact .inl (by simp [acc_wr, h])
    · exact .inr h
  have hLsr : InL (m :: p :: (rowName (.slice sb st.bs.length cb) ++ rowName vr)) c (.rd sn) := by
    rcases hn4 sn (by simp [rowName]) with h | h
    · exact .inl (by simp [acc_rd, h])
    · exact .inr h
  have hLl : ∀ x ∈ [Acc.rd sn, Acc.wr sn], InL (m :: p :: (rowName (.slice sb st.bs.length cb) ++ rowName vr)) c x := fun x hx => by
    simp at hx; rcases hx with rfl | rfl <;> assumption
  have hr5 := r4.setRow (cl := cl) (junk := junk) (rows' := rows4.set i (st.bs.length, n, 1)) hsn hj4 (by simp)
  have e5 : setAll (flat tri rows4 ++ junk) (0 + ((i : Nat) : Int).toNat * 3) [I st.bs.length, I n, I 1] = flat tri (rows4.set i (st.bs.length, n, 1)) ++ junk := by
    rw [show 0 + ((i : Nat) : Int).toNat * 3 = i * 3 from by simp]; exact set_tri hi4
  rw [← e5] at hr5
  have hobj5 := hr5.obj
  simp only at hobj5
  have hx5 : MapI.get (MapI.set h4 sn (.cells true cl (setAll (flat tri rows4 ++ junk) (0 + ((i : Nat) : Int).toNat * 3) [I st.bs.length, I n, I 1]))) m = some (.cells rw' cl' cs) := by
    rw [MapI.get_ne _ _ _ _ (Ne.symm hmsn)]; exact hx4
  repeat' (first
    | refine WpC.seq ?_
    | refine WpC.region ?_
    | refine WpC.drawn ?_
    | refine WpC.skip ?_
    | refine WpC.block ?_
    | refine WpC.exit ?_
    | refine WpC.ret ?_
    | refine WpO.nil ?_
    | refine WpO.cons rfl rfl (WpX.pure (fun _ => rfl) ⟨nolog, ?_⟩)
    | refine WpO.skip rfl rfl ?_
    | refine WpL.cons rfl rfl (WpX.pure (fun _ => rfl) ⟨nolog, ?_⟩)
    | refine WpL.skip rfl rfl ?_
    | refine seqQ_normal ?_
    | refine seqQ_ret ?_
    | refine seqQ_exit ?_
    | refine blkQ_normal ?_
    | refine blkQ_ret ?_
    | refine blkQ_out rfl ?_
    | refine blkQ_by rfl ?_
    | refine WpO.cons rfl rfl (op_len rfl rfl rfl ⟨(by simp [InL, Acc.name, rowName] <;> omega), ?_⟩)
    | refine WpL.cons rfl rfl (op_len rfl rfl rfl ⟨(by simp [InL, Acc.name, rowName] <;> omega), ?_⟩)
    | refine WpO.cons rfl rfl (op_load rfl rfl rfl hobj4 rfl ⟨(by simp [InL, Acc.name, rowName] <;> omega), ?_⟩)
    | refine WpL.cons rfl rfl (op_load rfl rfl rfl hobj4 rfl ⟨(by simp [InL, Acc.name, rowName] <;> omega), ?_⟩)
    | refine WpO.cons rfl rfl (op_indexAddr (k := 3) rfl rfl rfl rfl ⟨by omega, by omega⟩ ⟨(by simp [InL, Acc.name, rowName] <;> omega), ?_⟩)
    | refine WpL.cons rfl rfl (op_indexAddr (k := 3) rfl rfl rfl rfl ⟨by omega, by omega⟩ ⟨(by simp [InL, Acc.name, rowName] <;> omega), ?_⟩)
    | refine WpL.cons rfl rfl (op_store (k := 3) rfl rfl rfl rfl hg4 hfl rfl ⟨hLl, ?_⟩))
  refine WpL.nil (logsOk_of (cs := [0, 1, 3, 7, 0, 0, 32, 96, 224, 480, 0, 1024, 4064, 8191, 16383]) (by decide +kernel) ?_) ?_
  · simp +contextual [allP, apP, Dis, acc_rd, acc_wr, accw_rd, accw_wr, Nat.testBit, hps]
  repeat' (first
    | refine WpC.seq ?_
    | refine WpC.region ?_
    | refine WpC.drawn ?_
    | refine WpC.skip ?_
    | refine WpC.block ?_
    | refine WpC.exit ?_
    | refine WpC.ret ?_
    | refine WpO.nil ?_
    | refine WpO.cons rfl rfl (WpX.pure (fun _ => rfl) ⟨nolog, ?_⟩)
    | refine WpO.skip rfl rfl ?_
    | refine WpL.cons rfl rfl (WpX.pure (fun _ => rfl) ⟨nolog, ?_⟩)
    | refine WpL.skip rfl rfl ?_
    | refine seqQ_normal ?_
    | refine seqQ_ret ?_
    | refine seqQ_exit ?_
    | refine blkQ_normal ?_
    | refine blkQ_ret ?_
    | refine blkQ_out rfl ?_
    | refine blkQ_by rfl ?_
    | refine WpO.cons rfl rfl (op_load rfl rfl rfl hobj5 rfl ⟨(by simp [InL, Acc.name, rowName] <;> omega), ?_⟩)
    | refine WpL.cons rfl rfl (op_load rfl rfl rfl hobj5 rfl ⟨(by simp [InL, Acc.name, rowName] <;> omega), ?_⟩))
  refine WpO.cons rfl rfl (append_at (ys := ys) rfl rfl elB rfl byte_len byte_all hr5.bytes hx5 hcut hy (by simp only; omega) (.inl (by simp [acc_rd])) (fun a ha => ⟨.inl (by simp [acc_rd, ha]), .inl (by simp [acc_wr, ha])⟩) (.inr (by simp [acc_wr]; omega)) fun v6 h6 c6 hl6 hn6 hc6 hf6 => ?_)
  have hone := hl6.one
  have hbp : ∀ a ∈ rowName (.slice sb st.bs.length cb), a < c4 := r4.bytes.lt
  have hobj6 : MapI.get h6 p = some (.cells true true [.slice sb st.bs.length cb, I st.most, .slice (some (sn, 0)) rows4.length (.upTo 3), I st.live]) := by
    rw [hf6 p (by have := r4.lp; omega) (fun hm => r4.nb p hm rfl)]; exact hobj5
  have hnb6 : ∀ a ∈ rowName v6, a ≠ p := fun a ha e => by
    rcases hn6 a ha with h | ⟨h, _⟩
    · exact r4.nb a h e
    · have := r4.lp; omega
  have hobj7 : MapI.get (MapI.set h6 p (.cells true true (setAll [.slice sb st.bs.length cb, I st.most, .slice (some (sn, 0)) rows4.length (.upTo 3), I st.live] 0 (cellsV v6)))) p = some (.cells true true [v6, I st.most, .slice (some (sn, 0)) rows4.length (.upTo 3), I st.live]) := by
    rw [MapI.get_same, hone.1]; rfl
  repeat' (first
    | refine WpC.seq ?_
    | refine WpC.region ?_
    | refine WpC.drawn ?_
    | refine WpC.skip ?_
    | refine WpC.block ?_
    | refine WpC.exit ?_
    | refine WpC.ret ?_
    | refine WpO.nil ?_
    | refine WpO.cons rfl rfl (WpX.pure (fun _ => rfl) ⟨nolog, ?_⟩)
    | refine WpO.skip rfl rfl ?_
    | refine WpL.cons rfl rfl (WpX.pure (fun _ => rfl) ⟨nolog, ?_⟩)
    | refine WpL.skip rfl rfl ?_
    | refine seqQ_normal ?_
    | refine seqQ_ret ?_
    | refine seqQ_exit ?_
    | refine blkQ_normal ?_
    | refine blkQ_ret ?_
    | refine blkQ_out rfl ?_
    | refine blkQ_by rfl ?_
    | refine WpO.cons rfl rfl (op_store (k := 1) rfl rfl rfl (by rw [hone.1]; rfl) hobj6 (Nat.le_of_ble_eq_true rfl) (by rw [hone.1]; simp [hone.2]) ⟨(by simp [InL, Acc.name, rowName] <;> omega), ?_⟩)
    | refine WpL.cons rfl rfl (op_store (k := 1) rfl rfl rfl (by rw [hone.1]; rfl) hobj6 (Nat.le_of_ble_eq_true rfl) (by rw [hone.1]; simp [hone.2]) ⟨(by simp [InL, Acc.name, rowName] <;> omega), ?_⟩)
    | refine WpO.cons rfl rfl (op_len rfl rfl rfl ⟨(by simp [InL, Acc.name, rowName] <;> omega), ?_⟩)
    | refine WpL.cons rfl rfl (op_len rfl rfl rfl ⟨(by simp [InL, Acc.name, rowName] <;> omega), ?_⟩)
    | refine WpO.cons rfl rfl (op_load rfl rfl rfl hobj7 rfl ⟨(by simp [InL, Acc.name, rowName] <;> omega), ?_⟩)
    | refine WpL.cons rfl rfl (op_load rfl rfl rfl hobj7 rfl ⟨(by simp [InL, Acc.name, rowName] <;> omega), ?_⟩)
    | refine WpO.cons rfl rfl (op_store (k := 1) rfl rfl rfl rfl hobj7 (Nat.le_of_ble_eq_true rfl) rfl ⟨(by simp [InL, Acc.name, rowName] <;> omega), ?_⟩)
    | refine WpL.cons rfl rfl (op_store (k := 1) rfl rfl rfl rfl hobj7 (Nat.le_of_ble_eq_true rfl) rfl ⟨(by simp [InL, Acc.name, rowName] <;> omega), ?_⟩))
  have hm6 : m ≠ c4 := by omega
  refine out_ret rfl ⟨?_, i, v6, .slice (some (sn, 0)) rows4.length (.upTo 3), rows4.set i (st.bs.length, n, 1), ?_, ⟨?_, ?_, ?_, by have := r4.lp; omega, hnb6, r4.nr, ?_⟩, fun a ha => ?_, hil, hbefore, hrows4⟩
  · rw [MapI.get_ne _ _ _ _ (Ne.symm hmp), MapI.get_ne _ _ _ _ (Ne.symm hmp), hf6 m hm6 (fun hm => hmn (List.mem_cons_of_mem _ (List.mem_append_left _ hm)))]
    exact hx5.trans hx.symm
  · have hwi : IntKind.i64.wrap ((i : Int) + 1) = ((i + 1 : Nat) : Int) := by rw [Go.IntWalk.i64_in _ (by omega)]; omega
    show V.tuple [V.int _ _, _] = _
    rw [hwi]
  · refine (MapI.get_same (S := HH) (α := AObj) _ _ _).trans ?_
    show some (AObj.cells true true [v6, I st.most, .slice (some (sn, 0)) rows4.length (.upTo 3), I (IntKind.i64.wrap (st.live + n))]) = _
    rw [hw2]
  · refine hl6.keep (Nat.le_refl _) fun a _ ha => ?_
    rw [MapI.get_ne _ _ _ _ (Ne.symm (hnb6 a ha)), MapI.get_ne _ _ _ _ (Ne.symm (hnb6 a ha))]
  · refine .inr ⟨sn, cl, junk, by simp, by omega, ?_, hj4⟩
    rw [MapI.get_ne _ _ _ _ hps, MapI.get_ne _ _ _ _ hps, hf6 sn (by omega) (fun hm => r4.br sn hm (by simp [rowName])), MapI.get_same]
    exact congrArg (fun x => some (AObj.cells true cl x)) e5
  · intro a ha hm
    simp [rowName] at hm
    subst hm
    rcases hn6 a ha with h | ⟨h, _⟩
    · exact r4.br a h (by simp [rowName])
    · omega
  · rcases List.mem_append.1 ha with ha | ha
    · rcases hn6 a ha with h | ⟨h, _⟩
      · exact .inl (List.mem_append_left _ h)
      · exact .inr (by omega)
    · rcases hn4 a ha with h | h
      · exact .inl (List.mem_append_right _ h)
      · exact .inr h
theorem grant_ok {h : HH} {c p m o n : Nat} {vb vr : V} {st : St} {cap : Cap} {rw' cl' : Bool} {cs : List V} {ys : List Int} (r : StoreAt h c p vb vr st) (hn : 0 < n) (hn2 : n ≤ 1048576) (hy : ys.length = n) (hx : MapI.get h m = some (.cells rw' cl' cs)) (hcut : cut cs o (n * 1) = some (flat byteV ys)) (hm : 0 ≤ st.most ∧ st.most ≤ 1048576)
    (hlive : 0 ≤ st.live ∧ st.live ≤ 1048576) (hbs : (st.bs.length : Int) ≤ st.most - n) (hyes : st.live ≤ st.most - n) (hlen : st.rows.length ≤ 1000) (hmc : m < c) (hmn : m ∉ p :: (rowName vb ++ rowName vr)) :
    Does 62 [.ptr (some (p, 0)), .slice (some (m, o)) n cap] h c (m :: p :: (rowName vb ++ rowName vr)) fun v h' c' => ∃ (i : Nat) (vb' vr' : V) (rows' : List (Int × Int × Int)), v = .tuple [I ((i + 1 : Nat) : Int), .bool true] ∧
      StoreAt h' c' p vb' vr' ⟨st.bs ++ ys, st.most, rows', st.live + n⟩ ∧ (∀ a ∈ rowName vb' ++ rowName vr', a ∈ rowName vb ++ rowName vr ∨ c ≤ a) ∧ i ≤ st.rows.length ∧ (∀ j q, j < i → st.rows[j]? = some q → q.2.2 ≠ 0) ∧
      ((∃ q, st.rows[i]? = some q ∧ q.2.2 = 0 ∧ rows' = st.rows.set i (st.bs.length, n, 1)) ∨ (i = st.rows.length ∧ rows' = st.rows ++ [((st.bs.length : Int), (n : Int), (1 : Int))])) :=
  (grant_at r hn hn2 hy hx hcut hm hlive hbs hyes hlen hmc hmn).mono fun _ _ _ _ _ hq => hq.2
end Go.Proofs.Ytempfmkicpifkaa


set_option linter.unusedVariables false
set_option linter.unusedSectionVars false
set_option linter.unusedSimpArgs false
set_option linter.unnecessarySimpa false
namespace Go.Proofs.Ytempfmkicpifkaa
open Go.Ab
set_option maxRecDepth 10000

theorem sawake_ok {h : HH} {c : Nat} : Does 60 [] h c [] fun v h' c' => v = .bool true := (shut_ok rfl).mono fun v h' c' _ _ hq => hq.1

/-- How many are positive. -/
def pos : List Int → Nat
  | [] => 0
  | x :: l => (if x > 0 then 1 else 0) + pos l
theorem pos_le : ∀ l, pos l ≤ l.length
  | [] => Nat.le_refl _
  | x :: l => by have := pos_le l; simp only [pos, List.length_cons]; split <;> omega
theorem pos_app : ∀ a b, pos (a ++ b) = pos a + pos b
  | [], b => by simp [pos]
  | x :: a, b => by have := pos_app a b; simp only [List.cons_append, pos, this]; omega
theorem pos_set : ∀ {l : List Int} {k : Nat} {x y : Int}, l[k]? = some x → pos (l.set k y) + (if x > 0 then 1 else 0) = pos l + (if y > 0 then 1 else 0)
  | [], _, _, _, h => by simp at h
  | a :: l, 0, x, y, h => by simp at h; subst h; simp only [List.set_cons_zero, pos]; omega
  | a :: l, k + 1, x, y, h => by
    have := pos_set (l := l) (k := k) (x := x) (y := y) (by simpa using h)
    simp only [List.set_cons_succ, pos]
    omega
theorem hnd_pos : ∀ (rows : List (Int × Int × Int)) (k : Nat), (hnd rows k).length = pos (rows.map fun q => q.2.2)
  | [], _ => rfl
  | q :: rows, k => by
    have := hnd_pos rows (k + 1)
    simp only [hnd, List.map_cons, pos]
    split <;> simp [this] <;> omega
theorem map_set {rows : List (Int × Int × Int)} {k : Nat} {q : Int × Int × Int} : (rows.set k q).map (fun q => q.2.2) = (rows.map fun q => q.2.2).set k q.2.2 := by simp [List.map_set]
end Go.Proofs.Ytempfmkicpifkaa


set_option linter.unusedVariables false
set_option linter.unusedSectionVars false
set_option linter.unusedSimpArgs false
set_option linter.unnecessarySimpa false
namespace Go.Proofs.Ytempfmkicpifkaa
open Go.Ab
set_option maxRecDepth 10000

theorem flat_byte (xs : List Int) : flat byteV xs = xs.map (V.int .u8) := by
  induction xs with
  | nil => rfl
  | cons x xs ih => rw [flat_cons, ih]; rfl
theorem cut_bytes {bs : List Int} {junk : List V} {L n : Nat} (h : L + n ≤ bs.length) : cut (flat byteV bs ++ junk) L n = some (flat byteV ((bs.drop L).take n)) := by
  unfold cut
  rw [flat_byte, flat_byte, if_pos (by simp; omega), List.drop_append_of_le_length (by simp; omega), List.take_append_of_le_length (by simp; omega), List.map_take, List.map_drop]
def strOf (xs : List Int) : List UInt8 := xs.map fun z => UInt8.ofNat z.toNat
theorem bytesOf_flat : ∀ {xs : List Int}, (∀ z ∈ xs, 0 ≤ z ∧ z < 256) → bytesOfV (flat byteV xs) = some (strOf xs)
  | [], _ => rfl
  | x :: xs, h => by
    have := bytesOf_flat (xs := xs) fun z hz => h z (List.mem_cons_of_mem _ hz)
    rw [flat_cons]
    have hx := h x (List.mem_cons_self ..)
    show bytesOfV (V.int .u8 x :: flat byteV xs) = _
    unfold bytesOfV
    rw [if_pos hx, this]; rfl
/-- Bytes that a slice shows. -/
def ByteSl (h : HH) (v : V) (xs : List Int) : Prop :=
  (∃ a cap, v = .slice a 0 cap ∧ xs = []) ∨ ∃ m o n cap rw cl cs, v = .slice (some (m, o)) n cap ∧ n = xs.length ∧ 0 < n ∧ MapI.get h m = some (.cells rw cl cs) ∧ cut cs o n = some (flat byteV xs)
theorem ByteSl.keep {h h' : HH} {v : V} {xs : List Int} (r : ByteSl h v xs) (e : ∀ n ∈ rowName v, MapI.get h' n = MapI.get h n) : ByteSl h' v xs := by
  rcases r with h1 | ⟨m, o, n, cap, rw', cl, cs, rfl, h1, h2, h3, h4⟩
  · exact .inl h1
  · exact .inr ⟨m, o, n, cap, rw', cl, cs, rfl, h1, h2, by rw [e m (by simp [rowName])]; exact h3, h4⟩

theorem same_ok {h : HH} {c : Nat} {x y : V} {xs : List Int} (hx : ByteSl h x xs) (hy : ByteSl h y xs) (hr : ∀ z ∈ xs, 0 ≤ z ∧ z < 256) : Does 68 [x, y] h c (rowName x ++ rowName y) fun v h' c' => v = .bool true ∧ h' = h ∧ c' = c := by
  refine does_of (enter (fn := Try.f68) Try.func68 rfl rfl (Nat.le_of_ble_eq_true rfl) ?_)
  rcases hx with ⟨a, cap, rfl, rfl⟩ | ⟨m, o, n, cap, rw1, cl, cs, rfl, hn, hp, hg, hc⟩
  · rcases hy with ⟨a', cap', rfl, _⟩ | ⟨m', o', n', cap', rw2, cl', cs', rfl, hn', hp', hg', hc'⟩
    ·
      repeat' (first
        | refine WpC.seq ?_
        | refine WpC.region ?_
        | refine WpC.drawn ?_
        | refine WpC.skip ?_
        | refine WpC.block ?_
        | refine WpC.exit ?_
        | refine WpC.ret ?_
        | refine WpO.nil ?_
        | refine WpO.cons rfl rfl (WpX.pure (fun _ => rfl) ⟨nolog, ?_⟩)
        | refine WpO.skip rfl rfl ?_
        | refine WpL.cons rfl rfl (WpX.pure (fun _ => rfl) ⟨nolog, ?_⟩)
        | refine WpL.skip rfl rfl ?_
        | refine seqQ_normal ?_
        | refine seqQ_ret ?_
        | refine seqQ_exit ?_
        | refine blkQ_normal ?_
        | refine blkQ_ret ?_
        | refine blkQ_out rfl ?_
        | refine blkQ_by rfl ?_
        | refine WpO.cons rfl rfl (op_bytesStr0 rfl rfl rfl rfl ⟨(by simp [InL, Acc.name, rowName] <;> omega), ?_⟩)
        | refine WpL.cons rfl rfl (op_bytesStr0 rfl rfl rfl rfl ⟨(by simp [InL, Acc.name, rowName] <;> omega), ?_⟩))
      exact out_ret rfl ⟨rfl, rfl, rfl⟩
    · simp at hn'; omega
  · rcases hy with ⟨a', cap', rfl, rfl⟩ | ⟨m', o', n', cap', rw2, cl', cs', rfl, hn', hp', hg', hc'⟩
    · simp at hn; omega
    ·
      repeat' (first
        | refine WpC.seq ?_
        | refine WpC.region ?_
        | refine WpC.drawn ?_
        | refine WpC.skip ?_
        | refine WpC.block ?_
        | refine WpC.exit ?_
        | refine WpC.ret ?_
        | refine WpO.nil ?_
        | refine WpO.cons rfl rfl (WpX.pure (fun _ => rfl) ⟨nolog, ?_⟩)
        | refine WpO.skip rfl rfl ?_
        | refine WpL.cons rfl rfl (WpX.pure (fun _ => rfl) ⟨nolog, ?_⟩)
        | refine WpL.skip rfl rfl ?_
        | refine seqQ_normal ?_
        | refine seqQ_ret ?_
        | refine seqQ_exit ?_
        | refine blkQ_normal ?_
        | refine blkQ_ret ?_
        | refine blkQ_out rfl ?_
        | refine blkQ_by rfl ?_
        | refine WpO.cons rfl rfl (op_bytesStr rfl rfl rfl rfl hp hg hc (bytesOf_flat hr) ⟨(by simp [InL, Acc.name, rowName] <;> omega), ?_⟩)
        | refine WpL.cons rfl rfl (op_bytesStr rfl rfl rfl rfl hp hg hc (bytesOf_flat hr) ⟨(by simp [InL, Acc.name, rowName] <;> omega), ?_⟩)
        | refine WpO.cons rfl rfl (op_bytesStr rfl rfl rfl rfl hp' hg' hc' (bytesOf_flat hr) ⟨(by simp [InL, Acc.name, rowName] <;> omega), ?_⟩)
        | refine WpL.cons rfl rfl (op_bytesStr rfl rfl rfl rfl hp' hg' hc' (bytesOf_flat hr) ⟨(by simp [InL, Acc.name, rowName] <;> omega), ?_⟩))
      exact out_ret rfl ⟨by show V.bool (strEq (strOf xs) (strOf xs)) = _; rw [strEq_refl], rfl, rfl⟩

theorem clone_ok {h : HH} {c m o n : Nat} {cap : Cap} {rw' cl : Bool} {cs : List V} {xs : List Int} (hn : n = xs.length) (hle : n ≤ 100000000) (hmc : m < c) (hg : MapI.get h m = some (.cells rw' cl cs)) (hc : cut cs o (n * 1) = some (flat byteV xs)) :
    Does 120 [.slice (some (m, o)) n cap] h c [m] fun v h' c' => ByteSl h' v xs ∧ (∀ a ∈ rowName v, c ≤ a ∧ a < c') ∧ ∀ a, a < c → MapI.get h' a = MapI.get h a := by
  refine does_of (enter (fn := Try.f120) Try.func120 rfl rfl (Nat.le_of_ble_eq_true rfl) ?_)
  repeat' (first
    | refine WpC.seq ?_
    | refine WpC.region ?_
    | refine WpC.drawn ?_
    | refine WpC.skip ?_
    | refine WpC.block ?_
    | refine WpC.exit ?_
    | refine WpC.ret ?_
    | refine WpO.nil ?_
    | refine WpO.cons rfl rfl (WpX.pure (fun _ => rfl) ⟨nolog, ?_⟩)
    | refine WpO.skip rfl rfl ?_
    | refine WpL.cons rfl rfl (WpX.pure (fun _ => rfl) ⟨nolog, ?_⟩)
    | refine WpL.skip rfl rfl ?_
    | refine seqQ_normal ?_
    | refine seqQ_ret ?_
    | refine seqQ_exit ?_
    | refine blkQ_normal ?_
    | refine blkQ_ret ?_
    | refine blkQ_out rfl ?_
    | refine blkQ_by rfl ?_)
  refine WpC.cond rfl (fun hb => by cases hb) (fun _ => ?_)
  repeat' (first
    | refine WpC.seq ?_
    | refine WpC.region ?_
    | refine WpC.drawn ?_
    | refine WpC.skip ?_
    | refine WpC.block ?_
    | refine WpC.exit ?_
    | refine WpC.ret ?_
    | refine WpO.nil ?_
    | refine WpO.cons rfl rfl (WpX.pure (fun _ => rfl) ⟨nolog, ?_⟩)
    | refine WpO.skip rfl rfl ?_
    | refine WpL.cons rfl rfl (WpX.pure (fun _ => rfl) ⟨nolog, ?_⟩)
    | refine WpL.skip rfl rfl ?_
    | refine seqQ_normal ?_
    | refine seqQ_ret ?_
    | refine seqQ_exit ?_
    | refine blkQ_normal ?_
    | refine blkQ_ret ?_
    | refine blkQ_out rfl ?_
    | refine blkQ_by rfl ?_
    | refine WpO.cons rfl rfl (op_buildSlice (k := 1) rfl rfl rfl rfl (by decide) rfl ⟨(by simp [InL, Acc.name, rowName] <;> omega), ?_⟩)
    | refine WpL.cons rfl rfl (op_buildSlice (k := 1) rfl rfl rfl rfl (by decide) rfl ⟨(by simp [InL, Acc.name, rowName] <;> omega), ?_⟩))
  by_cases h0 : n = 0
  · subst h0
    have hx0 : xs = [] := List.length_eq_zero_iff.1 hn.symm
    subst hx0
    repeat' (first
      | refine WpC.seq ?_
      | refine WpC.region ?_
      | refine WpC.drawn ?_
      | refine WpC.skip ?_
      | refine WpC.block ?_
      | refine WpC.exit ?_
      | refine WpC.ret ?_
      | refine WpO.nil ?_
      | refine WpO.cons rfl rfl (WpX.pure (fun _ => rfl) ⟨nolog, ?_⟩)
      | refine WpO.skip rfl rfl ?_
      | refine WpL.cons rfl rfl (WpX.pure (fun _ => rfl) ⟨nolog, ?_⟩)
      | refine WpL.skip rfl rfl ?_
      | refine seqQ_normal ?_
      | refine seqQ_ret ?_
      | refine seqQ_exit ?_
      | refine blkQ_normal ?_
      | refine blkQ_ret ?_
      | refine blkQ_out rfl ?_
      | refine blkQ_by rfl ?_
      | refine WpO.cons rfl rfl (op_append rfl rfl (append_none elB rfl rfl (fun _ => rfl) (by omega) (fun _ _ _ _ _ => by omega)) ⟨(by simp [InL, Acc.name, rowName] <;> omega), ?_⟩)
      | refine WpL.cons rfl rfl (op_append rfl rfl (append_none elB rfl rfl (fun _ => rfl) (by omega) (fun _ _ _ _ _ => by omega)) ⟨(by simp [InL, Acc.name, rowName] <;> omega), ?_⟩))
    exact out_ret rfl ⟨.inl ⟨_, _, rfl, rfl⟩, fun a ha => by simp [tup, rowName] at ha; omega, fun a ha => MapI.get_ne _ _ _ _ (by omega)⟩
  · have hg2 : ∀ x : AObj, MapI.get (MapI.set h c x) m = some (.cells rw' cl cs) := fun x => by rw [MapI.get_ne _ _ _ _ (by omega)]; exact hg
    repeat' (first
      | refine WpC.seq ?_
      | refine WpC.region ?_
      | refine WpC.drawn ?_
      | refine WpC.skip ?_
      | refine WpC.block ?_
      | refine WpC.exit ?_
      | refine WpC.ret ?_
      | refine WpO.nil ?_
      | refine WpO.cons rfl rfl (WpX.pure (fun _ => rfl) ⟨nolog, ?_⟩)
      | refine WpO.skip rfl rfl ?_
      | refine WpL.cons rfl rfl (WpX.pure (fun _ => rfl) ⟨nolog, ?_⟩)
      | refine WpL.skip rfl rfl ?_
      | refine seqQ_normal ?_
      | refine seqQ_ret ?_
      | refine seqQ_exit ?_
      | refine blkQ_normal ?_
      | refine blkQ_ret ?_
      | refine blkQ_out rfl ?_
      | refine blkQ_by rfl ?_
      | refine WpO.cons rfl rfl (op_append rfl rfl (append_known elB rfl (by omega) (by omega) (hg2 _) hc) ⟨(by simp [InL, Acc.name, rowName] <;> omega), ?_⟩)
      | refine WpL.cons rfl rfl (op_append rfl rfl (append_known elB rfl (by omega) (by omega) (hg2 _) hc) ⟨(by simp [InL, Acc.name, rowName] <;> omega), ?_⟩))
    refine out_ret rfl ⟨.inr ⟨c + 1, 0, n, .upTo 1, true, true, _, rfl, hn, by omega, MapI.get_same _ _ _, ?_⟩, fun a ha => by simp [tup, rowName] at ha; omega, fun a ha => by rw [MapI.get_ne _ _ _ _ (by omega), MapI.get_ne _ _ _ _ (by omega)]⟩
    have hl := cut_len hc
    rw [Nat.mul_one] at hl
    have := cut_all (cs := flat byteV xs)
    rw [hl] at this
    exact this

theorem place_ok {h : HH} {c p i : Nat} {vb vr : V} {st : St} {q : Int × Int × Int} (r : StoreAt h c p vb vr st) (hlen : st.rows.length ≤ 1000) (hq : st.rows[i]? = some q) (hq0 : q.2.2 ≠ 0) :
    Does 69 [.ptr (some (p, 0)), I ((i : Int) + 1)] h c (p :: rowName vr) fun v h' c' => v = .tuple [I q.1, I q.2.1, .bool true] ∧ h' = h ∧ c' = c := by
  refine does_of (enter (fn := Try.f69) Try.func69 rfl rfl (Nat.le_of_ble_eq_true rfl) ?_)
  repeat' (first
    | refine WpC.seq ?_
    | refine WpC.region ?_
    | refine WpC.drawn ?_
    | refine WpC.skip ?_
    | refine WpC.block ?_
    | refine WpC.exit ?_
    | refine WpC.ret ?_
    | refine WpO.nil ?_
    | refine WpO.cons rfl rfl (WpX.pure (fun _ => rfl) ⟨nolog, ?_⟩)
    | refine WpO.skip rfl rfl ?_
    | refine WpL.cons rfl rfl (WpX.pure (fun _ => rfl) ⟨nolog, ?_⟩)
    | refine WpL.skip rfl rfl ?_
    | refine seqQ_normal ?_
    | refine seqQ_ret ?_
    | refine seqQ_exit ?_
    | refine blkQ_normal ?_
    | refine blkQ_ret ?_
    | refine blkQ_out rfl ?_
    | refine blkQ_by rfl ?_)
  refine WpO.cons rfl rfl (call_at rfl (of_ok r hlen) (fun n hn => .inl hn) (Nat.le_refl _) fun v h4 c4 hc4 hfr4 hq4 => ?_)
  obtain ⟨rfl, rfl, hq4⟩ := hq4
  rcases hq4 with ⟨i', q', sn, cl, junk, hi', hz, hne, rfl, hsn, hg, hj, rfl⟩ | ⟨hno, _⟩
  case inr => exact absurd (hno i q rfl hq) hq0
  have : i' = i := by omega
  subst this
  rw [hq] at hz; cases hz
  have hz0 : nth (flat tri st.rows ++ junk) (i' * 3 + 0) = some (I q.1) := (nth_flat tri_len hq (by omega) junk).trans rfl
  have hz1 : nth (flat tri st.rows ++ junk) (i' * 3 + 1) = some (I q.2.1) := (nth_flat tri_len hq (by omega) junk).trans rfl
  repeat' (first
    | refine WpC.seq ?_
    | refine WpC.region ?_
    | refine WpC.drawn ?_
    | refine WpC.skip ?_
    | refine WpC.block ?_
    | refine WpC.exit ?_
    | refine WpC.ret ?_
    | refine WpO.nil ?_
    | refine WpO.cons rfl rfl (WpX.pure (fun _ => rfl) ⟨nolog, ?_⟩)
    | refine WpO.skip rfl rfl ?_
    | refine WpL.cons rfl rfl (WpX.pure (fun _ => rfl) ⟨nolog, ?_⟩)
    | refine WpL.skip rfl rfl ?_
    | refine seqQ_normal ?_
    | refine seqQ_ret ?_
    | refine seqQ_exit ?_
    | refine blkQ_normal ?_
    | refine blkQ_ret ?_
    | refine blkQ_out rfl ?_
    | refine blkQ_by rfl ?_)
  refine WpC.cond rfl (fun hb => by cases hb) (fun _ => ?_)
  repeat' (first
    | refine WpC.seq ?_
    | refine WpC.region ?_
    | refine WpC.drawn ?_
    | refine WpC.skip ?_
    | refine WpC.block ?_
    | refine WpC.exit ?_
    | refine WpC.ret ?_
    | refine WpO.nil ?_
    | refine WpO.cons rfl rfl (WpX.pure (fun _ => rfl) ⟨nolog, ?_⟩)
    | refine WpO.skip rfl rfl ?_
    | refine WpL.cons rfl rfl (WpX.pure (fun _ => rfl) ⟨nolog, ?_⟩)
    | refine WpL.skip rfl rfl ?_
    | refine seqQ_normal ?_
    | refine seqQ_ret ?_
    | refine seqQ_exit ?_
    | refine blkQ_normal ?_
    | refine blkQ_ret ?_
    | refine blkQ_out rfl ?_
    | refine blkQ_by rfl ?_
    | refine WpO.cons rfl rfl (op_load rfl rfl rfl hg hz0 ⟨(by simp [InL, Acc.name, rowName] <;> omega), ?_⟩)
    | refine WpL.cons rfl rfl (op_load rfl rfl rfl hg hz0 ⟨(by simp [InL, Acc.name, rowName] <;> omega), ?_⟩)
    | refine WpO.cons rfl rfl (op_load rfl rfl rfl hg hz1 ⟨(by simp [InL, Acc.name, rowName] <;> omega), ?_⟩)
    | refine WpL.cons rfl rfl (op_load rfl rfl rfl hg hz1 ⟨(by simp [InL, Acc.name, rowName] <;> omega), ?_⟩))
  refine WpL.nil (logsOk_of (cs := [0, 1, 3, 7, 0, 16, 48, 112, 15, 511, 1023]) (by decide +kernel) ?_) ?_
  · simp +contextual [allP, apP, Dis, acc_rd, acc_wr, accw_rd, accw_wr, Nat.testBit]
  repeat' (first
    | refine WpC.seq ?_
    | refine WpC.region ?_
    | refine WpC.drawn ?_
    | refine WpC.skip ?_
    | refine WpC.block ?_
    | refine WpC.exit ?_
    | refine WpC.ret ?_
    | refine WpO.nil ?_
    | refine WpO.cons rfl rfl (WpX.pure (fun _ => rfl) ⟨nolog, ?_⟩)
    | refine WpO.skip rfl rfl ?_
    | refine WpL.cons rfl rfl (WpX.pure (fun _ => rfl) ⟨nolog, ?_⟩)
    | refine WpL.skip rfl rfl ?_
    | refine seqQ_normal ?_
    | refine seqQ_ret ?_
    | refine seqQ_exit ?_
    | refine blkQ_normal ?_
    | refine blkQ_ret ?_
    | refine blkQ_out rfl ?_
    | refine blkQ_by rfl ?_)
  exact out_ret rfl ⟨rfl, rfl, rfl⟩
end Go.Proofs.Ytempfmkicpifkaa


set_option linter.unusedVariables false
set_option linter.unusedSectionVars false
set_option linter.unusedSimpArgs false
set_option linter.unnecessarySimpa false
namespace Go.Proofs.Ytempfmkicpifkaa
open Go.Ab
set_option maxRecDepth 10000

/-- Look: bytes of a handle that is there. -/
theorem look_ok {h : HH} {c p i : Nat} {vb vr : V} {st : St} {a ln cnt at' n : Int} (r : StoreAt h c p vb vr st) (hlen : st.rows.length ≤ 1000) (hq : st.rows[i]? = some (a, ln, cnt)) (hq0 : cnt ≠ 0) (ha : 0 ≤ a) (hl : 0 ≤ ln) (hal : a + ln ≤ st.bs.length) (hb : st.bs.length ≤ 10000000) (hb0 : 0 < st.bs.length)
    (h64 : -9223372036854775808 ≤ at' ∧ at' ≤ 9223372036854775807 ∧ -9223372036854775808 ≤ n ∧ n ≤ 9223372036854775807) :
    Does 67 [.ptr (some (p, 0)), I ((i : Int) + 1), I at', I n] h c (p :: (rowName vb ++ rowName vr)) fun v h' c' =>
      ((0 ≤ at' ∧ 0 ≤ n ∧ at' ≤ ln ∧ n ≤ ln - at') ∧ ∃ v1, v = .tuple [v1, .bool true] ∧ ByteSl h' v1 ((st.bs.drop (a + at').toNat).take n.toNat) ∧ (∀ x ∈ rowName v1, c ≤ x ∧ x < c') ∧ ∀ x, x < c → MapI.get h' x = MapI.get h x) ∨
      (¬ (0 ≤ at' ∧ 0 ≤ n ∧ at' ≤ ln ∧ n ≤ ln - at') ∧ v = .tuple [.slice none 0 (.known 0), .bool false] ∧ h' = h ∧ c' = c) := by
  refine does_of (enter (fn := Try.f67) Try.func67 rfl rfl (Nat.le_of_ble_eq_true rfl) ?_)
  repeat' (first
    | refine WpC.seq ?_
    | refine WpC.region ?_
    | refine WpC.drawn ?_
    | refine WpC.skip ?_
    | refine WpC.block ?_
    | refine WpC.exit ?_
    | refine WpC.ret ?_
    | refine WpO.nil ?_
    | refine WpO.cons rfl rfl (WpX.pure (fun _ => rfl) ⟨nolog, ?_⟩)
    | refine WpO.skip rfl rfl ?_
    | refine WpL.cons rfl rfl (WpX.pure (fun _ => rfl) ⟨nolog, ?_⟩)
    | refine WpL.skip rfl rfl ?_
    | refine seqQ_normal ?_
    | refine seqQ_ret ?_
    | refine seqQ_exit ?_
    | refine blkQ_normal ?_
    | refine blkQ_ret ?_
    | refine blkQ_out rfl ?_
    | refine blkQ_by rfl ?_)
  refine WpO.cons rfl rfl (call_at rfl (of_ok r hlen) (fun x hx => .inl (by rcases List.mem_cons.1 hx with e | e <;> simp [e])) (Nat.le_refl _) fun v h4 c4 hc4 hfr4 hq4 => ?_)
  obtain ⟨rfl, rfl, hq4⟩ := hq4
  rcases hq4 with ⟨i', q', sn, cl, junk, hi', hz, hne, rfl, hsn, hg, hj, rfl⟩ | ⟨hno, _⟩
  case inr => exact absurd (hno i _ rfl hq) hq0
  have : i' = i := by omega
  subst this
  rw [hq] at hz; cases hz
  have hobj := r.obj
  have hz0 : nth (flat tri st.rows ++ junk) (i' * 3 + 0) = some (I a) := (nth_flat tri_len hq (by omega) junk).trans rfl
  have hz1 : nth (flat tri st.rows ++ junk) (i' * 3 + 1) = some (I ln) := (nth_flat tri_len hq (by omega) junk).trans rfl
  by_cases g1 : at' < 0
  · have e1 : decide (at' < 0) = true := by simpa using g1
    repeat' (first
      | refine WpC.seq ?_
      | refine WpC.region ?_
      | refine WpC.drawn ?_
      | refine WpC.skip ?_
      | refine WpC.block ?_
      | refine WpC.exit ?_
      | refine WpC.ret ?_
      | refine WpO.nil ?_
      | refine WpO.cons rfl rfl (WpX.pure (fun _ => rfl) ⟨nolog, ?_⟩)
      | refine WpO.skip rfl rfl ?_
      | refine WpL.cons rfl rfl (WpX.pure (fun _ => rfl) ⟨nolog, ?_⟩)
      | refine WpL.skip rfl rfl ?_
      | refine seqQ_normal ?_
      | refine seqQ_ret ?_
      | refine seqQ_exit ?_
      | refine blkQ_normal ?_
      | refine blkQ_ret ?_
      | refine blkQ_out rfl ?_
      | refine blkQ_by rfl ?_)
    simp only [e1]
    repeat' (first
      | refine WpC.seq ?_
      | refine WpC.region ?_
      | refine WpC.drawn ?_
      | refine WpC.skip ?_
      | refine WpC.block ?_
      | refine WpC.exit ?_
      | refine WpC.ret ?_
      | refine WpO.nil ?_
      | refine WpO.cons rfl rfl (WpX.pure (fun _ => rfl) ⟨nolog, ?_⟩)
      | refine WpO.skip rfl rfl ?_
      | refine WpL.cons rfl rfl (WpX.pure (fun _ => rfl) ⟨nolog, ?_⟩)
      | refine WpL.skip rfl rfl ?_
      | refine seqQ_normal ?_
      | refine seqQ_ret ?_
      | refine seqQ_exit ?_
      | refine blkQ_normal ?_
      | refine blkQ_ret ?_
      | refine blkQ_out rfl ?_
      | refine blkQ_by rfl ?_)
    refine WpC.cond rfl (fun _ => ?_) (fun hb => by cases hb)
    repeat' (first
      | refine WpC.seq ?_
      | refine WpC.region ?_
      | refine WpC.drawn ?_
      | refine WpC.skip ?_
      | refine WpC.block ?_
      | refine WpC.exit ?_
      | refine WpC.ret ?_
      | refine WpO.nil ?_
      | refine WpO.cons rfl rfl (WpX.pure (fun _ => rfl) ⟨nolog, ?_⟩)
      | refine WpO.skip rfl rfl ?_
      | refine WpL.cons rfl rfl (WpX.pure (fun _ => rfl) ⟨nolog, ?_⟩)
      | refine WpL.skip rfl rfl ?_
      | refine seqQ_normal ?_
      | refine seqQ_ret ?_
      | refine seqQ_exit ?_
      | refine blkQ_normal ?_
      | refine blkQ_ret ?_
      | refine blkQ_out rfl ?_
      | refine blkQ_by rfl ?_)
    exact out_ret rfl (.inr ⟨by omega, rfl, rfl, rfl⟩)
  have e1 : decide (at' < 0) = false := by simpa using g1
  by_cases g2 : n < 0
  · have e2 : decide (n < 0) = true := by simpa using g2
    repeat' (first
      | refine WpC.seq ?_
      | refine WpC.region ?_
      | refine WpC.drawn ?_
      | refine WpC.skip ?_
      | refine WpC.block ?_
      | refine WpC.exit ?_
      | refine WpC.ret ?_
      | refine WpO.nil ?_
      | refine WpO.cons rfl rfl (WpX.pure (fun _ => rfl) ⟨nolog, ?_⟩)
      | refine WpO.skip rfl rfl ?_
      | refine WpL.cons rfl rfl (WpX.pure (fun _ => rfl) ⟨nolog, ?_⟩)
      | refine WpL.skip rfl rfl ?_
      | refine seqQ_normal ?_
      | refine seqQ_ret ?_
      | refine seqQ_exit ?_
      | refine blkQ_normal ?_
      | refine blkQ_ret ?_
      | refine blkQ_out rfl ?_
      | refine blkQ_by rfl ?_)
    simp only [e1]
    repeat' (first
      | refine WpC.seq ?_
      | refine WpC.region ?_
      | refine WpC.drawn ?_
      | refine WpC.skip ?_
      | refine WpC.block ?_
      | refine WpC.exit ?_
      | refine WpC.ret ?_
      | refine WpO.nil ?_
      | refine WpO.cons rfl rfl (WpX.pure (fun _ => rfl) ⟨nolog, ?_⟩)
      | refine WpO.skip rfl rfl ?_
      | refine WpL.cons rfl rfl (WpX.pure (fun _ => rfl) ⟨nolog, ?_⟩)
      | refine WpL.skip rfl rfl ?_
      | refine seqQ_normal ?_
      | refine seqQ_ret ?_
      | refine seqQ_exit ?_
      | refine blkQ_normal ?_
      | refine blkQ_ret ?_
      | refine blkQ_out rfl ?_
      | refine blkQ_by rfl ?_)
    simp only [e2]
    repeat' (first
      | refine WpC.seq ?_
      | refine WpC.region ?_
      | refine WpC.drawn ?_
      | refine WpC.skip ?_
      | refine WpC.block ?_
      | refine WpC.exit ?_
      | refine WpC.ret ?_
      | refine WpO.nil ?_
      | refine WpO.cons rfl rfl (WpX.pure (fun _ => rfl) ⟨nolog, ?_⟩)
      | refine WpO.skip rfl rfl ?_
      | refine WpL.cons rfl rfl (WpX.pure (fun _ => rfl) ⟨nolog, ?_⟩)
      | refine WpL.skip rfl rfl ?_
      | refine seqQ_normal ?_
      | refine seqQ_ret ?_
      | refine seqQ_exit ?_
      | refine blkQ_normal ?_
      | refine blkQ_ret ?_
      | refine blkQ_out rfl ?_
      | refine blkQ_by rfl ?_)
    refine WpC.cond rfl (fun _ => ?_) (fun hb => by cases hb)
    repeat' (first
      | refine WpC.seq ?_
      | refine WpC.region ?_
      | refine WpC.drawn ?_
      | refine WpC.skip ?_
      | refine WpC.block ?_
      | refine WpC.exit ?_
      | refine WpC.ret ?_
      | refine WpO.nil ?_
      | refine WpO.cons rfl rfl (WpX.pure (fun _ => rfl) ⟨nolog, ?_⟩)
      | refine WpO.skip rfl rfl ?_
      | refine WpL.cons rfl rfl (WpX.pure (fun _ => rfl) ⟨nolog, ?_⟩)
      | refine WpL.skip rfl rfl ?_
      | refine seqQ_normal ?_
      | refine seqQ_ret ?_
      | refine seqQ_exit ?_
      | refine blkQ_normal ?_
      | refine blkQ_ret ?_
      | refine blkQ_out rfl ?_
      | refine blkQ_by rfl ?_)
    exact out_ret rfl (.inr ⟨by omega, rfl, rfl, rfl⟩)
  have e2 : decide (n < 0) = false := by simpa using g2
  by_cases g3 : at' > ln
  · have e3 : decide (at' > ln) = true := by simpa using g3
    repeat' (first
      | refine WpC.seq ?_
      | refine WpC.region ?_
      | refine WpC.drawn ?_
      | refine WpC.skip ?_
      | refine WpC.block ?_
      | refine WpC.exit ?_
      | refine WpC.ret ?_
      | refine WpO.nil ?_
      | refine WpO.cons rfl rfl (WpX.pure (fun _ => rfl) ⟨nolog, ?_⟩)
      | refine WpO.skip rfl rfl ?_
      | refine WpL.cons rfl rfl (WpX.pure (fun _ => rfl) ⟨nolog, ?_⟩)
      | refine WpL.skip rfl rfl ?_
      | refine seqQ_normal ?_
      | refine seqQ_ret ?_
      | refine seqQ_exit ?_
      | refine blkQ_normal ?_
      | refine blkQ_ret ?_
      | refine blkQ_out rfl ?_
      | refine blkQ_by rfl ?_)
    simp only [e1]
    repeat' (first
      | refine WpC.seq ?_
      | refine WpC.region ?_
      | refine WpC.drawn ?_
      | refine WpC.skip ?_
      | refine WpC.block ?_
      | refine WpC.exit ?_
      | refine WpC.ret ?_
      | refine WpO.nil ?_
      | refine WpO.cons rfl rfl (WpX.pure (fun _ => rfl) ⟨nolog, ?_⟩)
      | refine WpO.skip rfl rfl ?_
      | refine WpL.cons rfl rfl (WpX.pure (fun _ => rfl) ⟨nolog, ?_⟩)
      | refine WpL.skip rfl rfl ?_
      | refine seqQ_normal ?_
      | refine seqQ_ret ?_
      | refine seqQ_exit ?_
      | refine blkQ_normal ?_
      | refine blkQ_ret ?_
      | refine blkQ_out rfl ?_
      | refine blkQ_by rfl ?_)
    simp only [e2]
    repeat' (first
      | refine WpC.seq ?_
      | refine WpC.region ?_
      | refine WpC.drawn ?_
      | refine WpC.skip ?_
      | refine WpC.block ?_
      | refine WpC.exit ?_
      | refine WpC.ret ?_
      | refine WpO.nil ?_
      | refine WpO.cons rfl rfl (WpX.pure (fun _ => rfl) ⟨nolog, ?_⟩)
      | refine WpO.skip rfl rfl ?_
      | refine WpL.cons rfl rfl (WpX.pure (fun _ => rfl) ⟨nolog, ?_⟩)
      | refine WpL.skip rfl rfl ?_
      | refine seqQ_normal ?_
      | refine seqQ_ret ?_
      | refine seqQ_exit ?_
      | refine blkQ_normal ?_
      | refine blkQ_ret ?_
      | refine blkQ_out rfl ?_
      | refine blkQ_by rfl ?_
      | refine WpO.cons rfl rfl (op_load rfl rfl rfl hg hz1 ⟨(by simp [InL, Acc.name, rowName] <;> omega), ?_⟩)
      | refine WpL.cons rfl rfl (op_load rfl rfl rfl hg hz1 ⟨(by simp [InL, Acc.name, rowName] <;> omega), ?_⟩))
    simp only [e3]
    repeat' (first
      | refine WpC.seq ?_
      | refine WpC.region ?_
      | refine WpC.drawn ?_
      | refine WpC.skip ?_
      | refine WpC.block ?_
      | refine WpC.exit ?_
      | refine WpC.ret ?_
      | refine WpO.nil ?_
      | refine WpO.cons rfl rfl (WpX.pure (fun _ => rfl) ⟨nolog, ?_⟩)
      | refine WpO.skip rfl rfl ?_
      | refine WpL.cons rfl rfl (WpX.pure (fun _ => rfl) ⟨nolog, ?_⟩)
      | refine WpL.skip rfl rfl ?_
      | refine seqQ_normal ?_
      | refine seqQ_ret ?_
      | refine seqQ_exit ?_
      | refine blkQ_normal ?_
      | refine blkQ_ret ?_
      | refine blkQ_out rfl ?_
      | refine blkQ_by rfl ?_)
    refine WpC.cond rfl (fun _ => ?_) (fun hb => by cases hb)
    repeat' (first
      | refine WpC.seq ?_
      | refine WpC.region ?_
      | refine WpC.drawn ?_
      | refine WpC.skip ?_
      | refine WpC.block ?_
      | refine WpC.exit ?_
      | refine WpC.ret ?_
      | refine WpO.nil ?_
      | refine WpO.cons rfl rfl (WpX.pure (fun _ => rfl) ⟨nolog, ?_⟩)
      | refine WpO.skip rfl rfl ?_
      | refine WpL.cons rfl rfl (WpX.pure (fun _ => rfl) ⟨nolog, ?_⟩)
      | refine WpL.skip rfl rfl ?_
      | refine seqQ_normal ?_
      | refine seqQ_ret ?_
      | refine seqQ_exit ?_
      | refine blkQ_normal ?_
      | refine blkQ_ret ?_
      | refine blkQ_out rfl ?_
      | refine blkQ_by rfl ?_)
    exact out_ret rfl (.inr ⟨by omega, rfl, rfl, rfl⟩)
  have e3 : decide (at' > ln) = false := by simpa using g3
  have hw : IntKind.i64.wrap (ln - at') = ln - at' := Go.IntWalk.i64_in _ (by omega)
  repeat' (first
    | refine WpC.seq ?_
    | refine WpC.region ?_
    | refine WpC.drawn ?_
    | refine WpC.skip ?_
    | refine WpC.block ?_
    | refine WpC.exit ?_
    | refine WpC.ret ?_
    | refine WpO.nil ?_
    | refine WpO.cons rfl rfl (WpX.pure (fun _ => rfl) ⟨nolog, ?_⟩)
    | refine WpO.skip rfl rfl ?_
    | refine WpL.cons rfl rfl (WpX.pure (fun _ => rfl) ⟨nolog, ?_⟩)
    | refine WpL.skip rfl rfl ?_
    | refine seqQ_normal ?_
    | refine seqQ_ret ?_
    | refine seqQ_exit ?_
    | refine blkQ_normal ?_
    | refine blkQ_ret ?_
    | refine blkQ_out rfl ?_
    | refine blkQ_by rfl ?_)
  simp only [e1]
  repeat' (first
    | refine WpC.seq ?_
    | refine WpC.region ?_
    | refine WpC.drawn ?_
    | refine WpC.skip ?_
    | refine WpC.block ?_
    | refine WpC.exit ?_
    | refine WpC.ret ?_
    | refine WpO.nil ?_
    | refine WpO.cons rfl rfl (WpX.pure (fun _ => rfl) ⟨nolog, ?_⟩)
    | refine WpO.skip rfl rfl ?_
    | refine WpL.cons rfl rfl (WpX.pure (fun _ => rfl) ⟨nolog, ?_⟩)
    | refine WpL.skip rfl rfl ?_
    | refine seqQ_normal ?_
    | refine seqQ_ret ?_
    | refine seqQ_exit ?_
    | refine blkQ_normal ?_
    | refine blkQ_ret ?_
    | refine blkQ_out rfl ?_
    | refine blkQ_by rfl ?_)
  simp only [e2]
  repeat' (first
    | refine WpC.seq ?_
    | refine WpC.region ?_
    | refine WpC.drawn ?_
    | refine WpC.skip ?_
    | refine WpC.block ?_
    | refine WpC.exit ?_
    | refine WpC.ret ?_
    | refine WpO.nil ?_
    | refine WpO.cons rfl rfl (WpX.pure (fun _ => rfl) ⟨nolog, ?_⟩)
    | refine WpO.skip rfl rfl ?_
    | refine WpL.cons rfl rfl (WpX.pure (fun _ => rfl) ⟨nolog, ?_⟩)
    | refine WpL.skip rfl rfl ?_
    | refine seqQ_normal ?_
    | refine seqQ_ret ?_
    | refine seqQ_exit ?_
    | refine blkQ_normal ?_
    | refine blkQ_ret ?_
    | refine blkQ_out rfl ?_
    | refine blkQ_by rfl ?_
    | refine WpO.cons rfl rfl (op_load rfl rfl rfl hg hz1 ⟨(by simp [InL, Acc.name, rowName] <;> omega), ?_⟩)
    | refine WpL.cons rfl rfl (op_load rfl rfl rfl hg hz1 ⟨(by simp [InL, Acc.name, rowName] <;> omega), ?_⟩))
  simp only [e3]
  repeat' (first
    | refine WpC.seq ?_
    | refine WpC.region ?_
    | refine WpC.drawn ?_
    | refine WpC.skip ?_
    | refine WpC.block ?_
    | refine WpC.exit ?_
    | refine WpC.ret ?_
    | refine WpO.nil ?_
    | refine WpO.cons rfl rfl (WpX.pure (fun _ => rfl) ⟨nolog, ?_⟩)
    | refine WpO.skip rfl rfl ?_
    | refine WpL.cons rfl rfl (WpX.pure (fun _ => rfl) ⟨nolog, ?_⟩)
    | refine WpL.skip rfl rfl ?_
    | refine seqQ_normal ?_
    | refine seqQ_ret ?_
    | refine seqQ_exit ?_
    | refine blkQ_normal ?_
    | refine blkQ_ret ?_
    | refine blkQ_out rfl ?_
    | refine blkQ_by rfl ?_
    | refine WpO.cons rfl rfl (op_load rfl rfl rfl hg hz1 ⟨(by simp [InL, Acc.name, rowName] <;> omega), ?_⟩)
    | refine WpL.cons rfl rfl (op_load rfl rfl rfl hg hz1 ⟨(by simp [InL, Acc.name, rowName] <;> omega), ?_⟩))
  refine WpC.cond rfl (fun g4 => ?_) (fun g4 => ?_)
  · rw [hw] at g4
    have g4 : n > ln - at' := by simpa using g4
    repeat' (first
      | refine WpC.seq ?_
      | refine WpC.region ?_
      | refine WpC.drawn ?_
      | refine WpC.skip ?_
      | refine WpC.block ?_
      | refine WpC.exit ?_
      | refine WpC.ret ?_
      | refine WpO.nil ?_
      | refine WpO.cons rfl rfl (WpX.pure (fun _ => rfl) ⟨nolog, ?_⟩)
      | refine WpO.skip rfl rfl ?_
      | refine WpL.cons rfl rfl (WpX.pure (fun _ => rfl) ⟨nolog, ?_⟩)
      | refine WpL.skip rfl rfl ?_
      | refine seqQ_normal ?_
      | refine seqQ_ret ?_
      | refine seqQ_exit ?_
      | refine blkQ_normal ?_
      | refine blkQ_ret ?_
      | refine blkQ_out rfl ?_
      | refine blkQ_by rfl ?_)
    exact out_ret rfl (.inr ⟨by omega, rfl, rfl, rfl⟩)
  rw [hw] at g4
  have g4 : ¬ n > ln - at' := by simpa using g4
  obtain ⟨sb, capb, rfl, hsb⟩ := r.bytes.shape
  obtain ⟨rfl, sbn, clb, jkb, rfl, hsbn, hgb, hjb⟩ := hsb 0 hb0
  have hw2 : IntKind.i64.wrap (a + at') = (((a + at').toNat : Nat) : Int) := by rw [Go.IntWalk.i64_in _ (by omega)]; omega
  have hw3 : IntKind.i64.wrap (IntKind.i64.wrap (a + at') + n) = (((a + at').toNat + n.toNat : Nat) : Int) := by rw [hw2, Go.IntWalk.i64_in _ (by omega)]; omega
  have hcut : cut (flat byteV st.bs ++ jkb) (0 + (a + at').toNat * (0 + 1)) (((a + at').toNat + n.toNat - (a + at').toNat) * 1) = some (flat byteV ((st.bs.drop (a + at').toNat).take n.toNat)) := by
    rw [show 0 + (a + at').toNat * (0 + 1) = (a + at').toNat from by simp, show ((a + at').toNat + n.toNat - (a + at').toNat) * 1 = n.toNat from by omega]
    exact cut_bytes (by omega)
  have hlx : (a + at').toNat + n.toNat - (a + at').toNat = ((st.bs.drop (a + at').toNat).take n.toNat).length := by rw [List.length_take, List.length_drop]; omega
  repeat' (first
    | refine WpC.seq ?_
    | refine WpC.region ?_
    | refine WpC.drawn ?_
    | refine WpC.skip ?_
    | refine WpC.block ?_
    | refine WpC.exit ?_
    | refine WpC.ret ?_
    | refine WpO.nil ?_
    | refine WpO.cons rfl rfl (WpX.pure (fun _ => rfl) ⟨nolog, ?_⟩)
    | refine WpO.skip rfl rfl ?_
    | refine WpL.cons rfl rfl (WpX.pure (fun _ => rfl) ⟨nolog, ?_⟩)
    | refine WpL.skip rfl rfl ?_
    | refine seqQ_normal ?_
    | refine seqQ_ret ?_
    | refine seqQ_exit ?_
    | refine blkQ_normal ?_
    | refine blkQ_ret ?_
    | refine blkQ_out rfl ?_
    | refine blkQ_by rfl ?_
    | refine WpO.cons rfl rfl (op_load rfl rfl rfl hobj rfl ⟨(by simp [InL, Acc.name, rowName] <;> omega), ?_⟩)
    | refine WpL.cons rfl rfl (op_load rfl rfl rfl hobj rfl ⟨(by simp [InL, Acc.name, rowName] <;> omega), ?_⟩)
    | refine WpO.cons rfl rfl (op_load rfl rfl rfl hg hz0 ⟨(by simp [InL, Acc.name, rowName] <;> omega), ?_⟩)
    | refine WpL.cons rfl rfl (op_load rfl rfl rfl hg hz0 ⟨(by simp [InL, Acc.name, rowName] <;> omega), ?_⟩)
    | refine WpO.cons rfl rfl (op_slice rfl rfl rfl rfl rfl (bound_at hw2) (bound_at hw3) (by omega) (by omega) rfl ⟨(by simp [InL, Acc.name, rowName] <;> omega), ?_⟩)
    | refine WpL.cons rfl rfl (op_slice rfl rfl rfl rfl rfl (bound_at hw2) (bound_at hw3) (by omega) (by omega) rfl ⟨(by simp [InL, Acc.name, rowName] <;> omega), ?_⟩))
  refine WpL.cons rfl rfl (call_atL rfl (clone_ok hlx (by omega) hsbn hgb hcut) (fun x hx => .inl (by simp at hx; simp [hx, rowName])) (Nat.le_refl _) fun v h5 c5 al hal hc5 hfr5 hq5 => ?_)
  obtain ⟨hv5, hn5, hk5⟩ := hq5
  repeat' (first
    | refine WpC.seq ?_
    | refine WpC.region ?_
    | refine WpC.drawn ?_
    | refine WpC.skip ?_
    | refine WpC.block ?_
    | refine WpC.exit ?_
    | refine WpC.ret ?_
    | refine WpO.nil ?_
    | refine WpO.cons rfl rfl (WpX.pure (fun _ => rfl) ⟨nolog, ?_⟩)
    | refine WpO.skip rfl rfl ?_
    | refine WpL.cons rfl rfl (WpX.pure (fun _ => rfl) ⟨nolog, ?_⟩)
    | refine WpL.skip rfl rfl ?_
    | refine seqQ_normal ?_
    | refine seqQ_ret ?_
    | refine seqQ_exit ?_
    | refine blkQ_normal ?_
    | refine blkQ_ret ?_
    | refine blkQ_out rfl ?_
    | refine blkQ_by rfl ?_)
  have hal2 : ∀ x ∈ al, x.writes = true → True := fun _ _ _ => trivial
  refine WpL.nil (logsOk_of (cs := [0, 1, 3, 7, 0, 16, 48, 112, 0, 496, 0, 1024, 3072, 7168, 0, 31744, 0, 130048, 262143, 524287, 1048575, 2097151]) (by decide +kernel) ?_) ?_
  · simp +contextual [allP, apP, Dis, acc_rd, acc_wr, accw_rd, accw_wr, Nat.testBit]
  repeat' (first
    | refine WpC.seq ?_
    | refine WpC.region ?_
    | refine WpC.drawn ?_
    | refine WpC.skip ?_
    | refine WpC.block ?_
    | refine WpC.exit ?_
    | refine WpC.ret ?_
    | refine WpO.nil ?_
    | refine WpO.cons rfl rfl (WpX.pure (fun _ => rfl) ⟨nolog, ?_⟩)
    | refine WpO.skip rfl rfl ?_
    | refine WpL.cons rfl rfl (WpX.pure (fun _ => rfl) ⟨nolog, ?_⟩)
    | refine WpL.skip rfl rfl ?_
    | refine seqQ_normal ?_
    | refine seqQ_ret ?_
    | refine seqQ_exit ?_
    | refine blkQ_normal ?_
    | refine blkQ_ret ?_
    | refine blkQ_out rfl ?_
    | refine blkQ_by rfl ?_)
  exact out_ret rfl (.inl ⟨⟨by omega, by omega, by omega, by omega⟩, v, rfl, hv5, hn5, hk5⟩)
end Go.Proofs.Ytempfmkicpifkaa
