/- The store's functions: Handles, Grant without a slide. -/
import Derived.Test.YtempfmkicpifkaaStore2W
set_option linter.unusedVariables false
set_option linter.unusedSectionVars false
set_option linter.unusedSimpArgs false
set_option linter.unnecessarySimpa false
namespace Go.Proofs.Ytempfmkicpifkaa
open Go.Ab
set_option maxRecDepth 10000

/-- The handles that are held, of rows from number k on. -/
def hnd : List (Int × Int × Int) → Nat → List Int
  | [], _ => []
  | q :: rows, k => if q.2.2 > 0 then ((k + 1 : Nat) : Int) :: hnd rows (k + 1) else hnd rows (k + 1)
theorem hnd_append : ∀ (a b : List (Int × Int × Int)) (k : Nat), hnd (a ++ b) k = hnd a k ++ hnd b (k + a.length)
  | [], b, k => by simp [hnd]
  | q :: a, b, k => by
    have := hnd_append a b (k + 1)
    simp only [List.cons_append, hnd, this, List.length_cons]
    rw [show k + 1 + a.length = k + (a.length + 1) from by omega]
    split <;> simp
theorem hnd_le : ∀ (a : List (Int × Int × Int)) (k : Nat), (hnd a k).length ≤ a.length
  | [], k => by simp [hnd]
  | q :: a, k => by
    have := hnd_le a (k + 1)
    unfold hnd
    split <;> simp <;> omega
theorem take_snoc {α : Type} {l : List α} {i : Nat} {x : α} (h : l[i]? = some x) : l.take (i + 1) = l.take i ++ [x] := by
  rw [List.take_add_one, h]; rfl

theorem handles_ok {h : HH} {c p : Nat} {vb vr : V} {st : St} (r : StoreAt h c p vb vr st) (hlen : st.rows.length ≤ 1000) :
    Does 73 [.ptr (some (p, 0))] h c (p :: rowName vr) fun v h' c' => ListOf 1 intV h' c' v (hnd st.rows 0) ∧ (∀ n ∈ rowName v, c ≤ n) ∧ ∀ n, n < c → MapI.get h' n = MapI.get h n := by
  have hobj := r.obj
  have hlp := r.lp
  obtain ⟨s, cap, rfl, hs⟩ := r.rows.shape
  refine does_of (enter (fn := Try.f73) Try.func73 rfl rfl (Nat.le_of_ble_eq_true rfl) ?_)
  repeat' (first
    | refine WpC.seq ?_
    | refine WpC.region ?_
    | refine WpC.drawn ?_
    | refine WpC.skip ?_
    | refine WpC.block ?_
    | refine WpC.exit ?_
    | refine WpC.ret ?_
    | refine WpO.nil ?_
    | refine WpO.cons rfl rfl (WpX.pure (fun _ => rfl) ⟨nolog, ?_⟩)
    | refine WpO.skip rfl rfl ?_
    | refine WpL.cons rfl rfl (WpX.pure (fun _ => rfl) ⟨nolog, ?_⟩)
    | refine WpL.skip rfl rfl ?_
    | refine seqQ_normal ?_
    | refine seqQ_ret ?_
    | refine seqQ_exit ?_
    | refine blkQ_normal ?_
    | refine blkQ_ret ?_
    | refine blkQ_out rfl ?_
    | refine blkQ_by rfl ?_)
  refine WpC.cond rfl (fun hb => by cases hb) (fun _ => ?_)
  repeat' (first
    | refine WpC.seq ?_
    | refine WpC.region ?_
    | refine WpC.drawn ?_
    | refine WpC.skip ?_
    | refine WpC.block ?_
    | refine WpC.exit ?_
    | refine WpC.ret ?_
    | refine WpO.nil ?_
    | refine WpO.cons rfl rfl (WpX.pure (fun _ => rfl) ⟨nolog, ?_⟩)
    | refine WpO.skip rfl rfl ?_
    | refine WpL.cons rfl rfl (WpX.pure (fun _ => rfl) ⟨nolog, ?_⟩)
    | refine WpL.skip rfl rfl ?_
    | refine seqQ_normal ?_
    | refine seqQ_ret ?_
    | refine seqQ_exit ?_
    | refine blkQ_normal ?_
    | refine blkQ_ret ?_
    | refine blkQ_out rfl ?_
    | refine blkQ_by rfl ?_
    | refine WpO.cons rfl rfl (op_load rfl rfl rfl hobj rfl ⟨(by simp [InL, Acc.name, rowName] <;> omega), ?_⟩)
    | refine WpL.cons rfl rfl (op_load rfl rfl rfl hobj rfl ⟨(by simp [InL, Acc.name, rowName] <;> omega), ?_⟩)
    | refine WpO.cons rfl rfl (op_len rfl rfl rfl ⟨(by simp [InL, Acc.name, rowName] <;> omega), ?_⟩)
    | refine WpL.cons rfl rfl (op_len rfl rfl rfl ⟨(by simp [InL, Acc.name, rowName] <;> omega), ?_⟩))
  refine WpC.loop ?_
  refine WpLoop.ind (X := Nat × V) (fun x e h' c' => (∃ b0, e = MapI.set (MapI.set (MapI.set (MapI.set b0 3 x.2) 11 (.slice s st.rows.length cap)) 12 (I st.rows.length)) 13 (I x.1)) ∧ x.1 ≤ st.rows.length ∧ ListOf (0 + 1) intV h' c' x.2 (hnd (st.rows.take x.1) 0) ∧ (∀ n ∈ rowName x.2, c ≤ n) ∧ c ≤ c' ∧ ∀ n, n < c → MapI.get h' n = MapI.get h n)
    (fun x => st.rows.length - x.1) ?_ (0, .slice none 0 (.known 0)) _ _ _ ⟨set4 rfl rfl rfl rfl, Nat.zero_le _, .nil, fun n hn => (by cases hn), Nat.le_refl _, fun n _ => rfl⟩
  rintro ⟨i, v⟩ e h' c' ⟨⟨b0, rfl⟩, hi, hl, hv, hc, hfr⟩
  simp only at hi hl hv
  repeat' (first
    | refine WpC.seq ?_
    | refine WpC.region ?_
    | refine WpC.drawn ?_
    | refine WpC.skip ?_
    | refine WpC.block ?_
    | refine WpC.exit ?_
    | refine WpC.ret ?_
    | refine WpO.nil ?_
    | refine WpO.cons rfl rfl (WpX.pure (fun _ => rfl) ⟨nolog, ?_⟩)
    | refine WpO.skip rfl rfl ?_
    | refine WpL.cons rfl rfl (WpX.pure (fun _ => rfl) ⟨nolog, ?_⟩)
    | refine WpL.skip rfl rfl ?_
    | refine seqQ_normal ?_
    | refine seqQ_ret ?_
    | refine seqQ_exit ?_
    | refine blkQ_normal ?_
    | refine blkQ_ret ?_
    | refine blkQ_out rfl ?_
    | refine blkQ_by rfl ?_)
  refine WpC.cond rfl (fun hlt => ?_) (fun hge => ?_)
  case refine_2 =>
    have hge : st.rows.length ≤ i := by simpa using hge
    repeat' (first
      | refine WpC.seq ?_
      | refine WpC.region ?_
      | refine WpC.drawn ?_
      | refine WpC.skip ?_
      | refine WpC.block ?_
      | refine WpC.exit ?_
      | refine WpC.ret ?_
      | refine WpO.nil ?_
      | refine WpO.cons rfl rfl (WpX.pure (fun _ => rfl) ⟨nolog, ?_⟩)
      | refine WpO.skip rfl rfl ?_
      | refine WpL.cons rfl rfl (WpX.pure (fun _ => rfl) ⟨nolog, ?_⟩)
      | refine WpL.skip rfl rfl ?_
      | refine seqQ_normal ?_
      | refine seqQ_ret ?_
      | refine seqQ_exit ?_
      | refine blkQ_normal ?_
      | refine blkQ_ret ?_
      | refine blkQ_out rfl ?_
      | refine blkQ_by rfl ?_)
    rw [List.take_of_length_le hge] at hl
    exact out_ret rfl ⟨hl, hv, hfr⟩
  have hlt : i < st.rows.length := by simpa using hlt
  obtain ⟨rfl, sn, cl, junk, rfl, hsn, hg, _⟩ := hs i hlt
  have hg' : MapI.get h' sn = some (.cells true cl (flat tri st.rows ++ junk)) := by rw [hfr sn hsn]; exact hg
  obtain ⟨⟨z0, z1, z2⟩, hz⟩ : ∃ z, st.rows[i]? = some z := ⟨_, List.getElem?_eq_getElem hlt⟩
  have hct : cut (flat tri st.rows ++ junk) (0 + ((i : Nat) : Int).toNat * 3) 3 = some (tri (z0, z1, z2)) := by
    have : 0 + ((i : Nat) : Int).toNat * 3 = i * 3 := by simp
    rw [this]; exact cut_flat tri_len hz junk
  have hw1 : IntKind.i64.wrap ((i : Int) + 1) = ((i + 1 : Nat) : Int) := by rw [Go.IntWalk.i64_in _ (by omega)]; omega
  have hgc : ∀ x : AObj, MapI.get (MapI.set h' c' x) c' = some x := fun x => MapI.get_same _ _ _
  have hd : ∀ (x : AObj) (y : AObj), MapI.get (MapI.set (MapI.set h' c' x) c' y) c' = some y := fun x y => MapI.get_same _ _ _
  have hll := hl.lt
  have htk := take_snoc hz
  have hmin : min i st.rows.length = i := by omega
  repeat' (first
    | refine WpC.seq ?_
    | refine WpC.region ?_
    | refine WpC.drawn ?_
    | refine WpC.skip ?_
    | refine WpC.block ?_
    | refine WpC.exit ?_
    | refine WpC.ret ?_
    | refine WpO.nil ?_
    | refine WpO.cons rfl rfl (WpX.pure (fun _ => rfl) ⟨nolog, ?_⟩)
    | refine WpO.skip rfl rfl ?_
    | refine WpL.cons rfl rfl (WpX.pure (fun _ => rfl) ⟨nolog, ?_⟩)
    | refine WpL.skip rfl rfl ?_
    | refine seqQ_normal ?_
    | refine seqQ_ret ?_
    | refine seqQ_exit ?_
    | refine blkQ_normal ?_
    | refine blkQ_ret ?_
    | refine blkQ_out rfl ?_
    | refine blkQ_by rfl ?_
    | refine WpO.cons rfl rfl (op_indexAddr (k := 3) rfl rfl rfl rfl ⟨by omega, by omega⟩ ⟨(by simp [InL, Acc.name, rowName] <;> omega), ?_⟩)
    | refine WpL.cons rfl rfl (op_indexAddr (k := 3) rfl rfl rfl rfl ⟨by omega, by omega⟩ ⟨(by simp [InL, Acc.name, rowName] <;> omega), ?_⟩)
    | refine WpO.cons rfl rfl (op_loadA rfl rfl rfl rfl hg' hct ⟨(by simp [InL, Acc.name, rowName] <;> omega), ?_⟩)
    | refine WpL.cons rfl rfl (op_loadA rfl rfl rfl rfl hg' hct ⟨(by simp [InL, Acc.name, rowName] <;> omega), ?_⟩)
    | refine WpO.cons rfl rfl (op_alloc rfl ⟨(by simp [InL, Acc.name, rowName] <;> omega), ?_⟩)
    | refine WpL.cons rfl rfl (op_alloc rfl ⟨(by simp [InL, Acc.name, rowName] <;> omega), ?_⟩)
    | refine WpO.cons rfl rfl (op_store rfl rfl rfl rfl (hgc _) (Nat.le_refl _) rfl ⟨(by simp [InL, Acc.name, rowName] <;> omega), ?_⟩)
    | refine WpL.cons rfl rfl (op_store rfl rfl rfl rfl (hgc _) (Nat.le_refl _) rfl ⟨(by simp [InL, Acc.name, rowName] <;> omega), ?_⟩)
    | refine WpO.cons rfl rfl (op_load rfl rfl rfl (hd _ _) rfl ⟨(by simp [InL, Acc.name, rowName] <;> omega), ?_⟩)
    | refine WpL.cons rfl rfl (op_load rfl rfl rfl (hd _ _) rfl ⟨(by simp [InL, Acc.name, rowName] <;> omega), ?_⟩))
  refine WpC.cond rfl (fun hp => ?_) (fun hp => ?_)
  · have hp : z2 > 0 := by simpa using hp
    have hnew : hnd (st.rows.take (i + 1)) 0 = hnd (st.rows.take i) 0 ++ [((i + 1 : Nat) : Int)] := by
      rw [htk, hnd_append]; simp [hnd, hp, hmin]
    repeat' (first
      | refine WpC.seq ?_
      | refine WpC.region ?_
      | refine WpC.drawn ?_
      | refine WpC.skip ?_
      | refine WpC.block ?_
      | refine WpC.exit ?_
      | refine WpC.ret ?_
      | refine WpO.nil ?_
      | refine WpO.cons rfl rfl (WpX.pure (fun _ => rfl) ⟨nolog, ?_⟩)
      | refine WpO.skip rfl rfl ?_
      | refine WpL.cons rfl rfl (WpX.pure (fun _ => rfl) ⟨nolog, ?_⟩)
      | refine WpL.skip rfl rfl ?_
      | refine seqQ_normal ?_
      | refine seqQ_ret ?_
      | refine seqQ_exit ?_
      | refine blkQ_normal ?_
      | refine blkQ_ret ?_
      | refine blkQ_out rfl ?_
      | refine blkQ_by rfl ?_
      | refine WpO.cons rfl rfl (op_buildSlice (k := 1) rfl rfl rfl rfl (by decide) rfl ⟨(by simp [InL, Acc.name, rowName] <;> omega), ?_⟩)
      | refine WpL.cons rfl rfl (op_buildSlice (k := 1) rfl rfl rfl rfl (by decide) rfl ⟨(by simp [InL, Acc.name, rowName] <;> omega), ?_⟩))
    have hl2 : ∀ x y z : AObj, ListOf (0 + 1) intV (MapI.set (MapI.set (MapI.set h' c' x) c' y) (c' + 1) z) (c' + 1 + 1) v (hnd (st.rows.take i) 0) := fun x y z => hl.keep (by omega) fun n hn _ => by
      rw [MapI.get_ne _ _ _ _ (by omega), MapI.get_ne _ _ _ _ (by omega), MapI.get_ne _ _ _ _ (by omega)]
    have hb1 : ∀ (g : HH) (x : AObj), MapI.get (MapI.set g (c' + 1) x) (c' + 1) = some x := fun g x => MapI.get_same _ _ _
    have hle1 := hnd_le (st.rows.take i) 0
    rw [List.length_take] at hle1
    refine WpO.cons rfl rfl (append_at (ys := [IntKind.i64.wrap ((i : Int) + 1)]) rfl rfl elI rfl int_len int_all (hl2 _ _ _) (hb1 _ _) rfl rfl (by omega) (.inr (by simp [Acc.name]; omega)) (fun a ha => ⟨.inr (by have := hv a ha; exact this), .inr (by have := hv a ha; exact this)⟩) (.inr (by simp [Acc.name]; omega)) fun v2 h2 c2 hlv hn2 hc2 hf2 => ?_)
    repeat' (first
      | refine WpC.seq ?_
      | refine WpC.region ?_
      | refine WpC.drawn ?_
      | refine WpC.skip ?_
      | refine WpC.block ?_
      | refine WpC.exit ?_
      | refine WpC.ret ?_
      | refine WpO.nil ?_
      | refine WpO.cons rfl rfl (WpX.pure (fun _ => rfl) ⟨nolog, ?_⟩)
      | refine WpO.skip rfl rfl ?_
      | refine WpL.cons rfl rfl (WpX.pure (fun _ => rfl) ⟨nolog, ?_⟩)
      | refine WpL.skip rfl rfl ?_
      | refine seqQ_normal ?_
      | refine seqQ_ret ?_
      | refine seqQ_exit ?_
      | refine blkQ_normal ?_
      | refine blkQ_ret ?_
      | refine blkQ_out rfl ?_
      | refine blkQ_by rfl ?_)
    refine ⟨(i + 1, v2), by simp only; omega, ?_, by simp only; omega, ?_, fun n hn => ?_, by omega, fun n hn => ?_⟩
    · rw [hw1]
      exact set4 rfl rfl rfl rfl
    · rw [hnew, ← hw1]; exact hlv
    · rcases hn2 n hn with h | ⟨h, _⟩
      · exact hv n h
      · omega
    · rw [hf2 n (by omega) (fun hm => by have := hv n hm; omega), MapI.get_ne _ _ _ _ (by omega), MapI.get_ne _ _ _ _ (by omega), MapI.get_ne _ _ _ _ (by omega)]
      exact hfr n hn
  · have hp : ¬ z2 > 0 := by simpa using hp
    have hnew : hnd (st.rows.take (i + 1)) 0 = hnd (st.rows.take i) 0 := by
      rw [htk, hnd_append]; simp [hnd, hp]
    repeat' (first
      | refine WpC.seq ?_
      | refine WpC.region ?_
      | refine WpC.drawn ?_
      | refine WpC.skip ?_
      | refine WpC.block ?_
      | refine WpC.exit ?_
      | refine WpC.ret ?_
      | refine WpO.nil ?_
      | refine WpO.cons rfl rfl (WpX.pure (fun _ => rfl) ⟨nolog, ?_⟩)
      | refine WpO.skip rfl rfl ?_
      | refine WpL.cons rfl rfl (WpX.pure (fun _ => rfl) ⟨nolog, ?_⟩)
      | refine WpL.skip rfl rfl ?_
      | refine seqQ_normal ?_
      | refine seqQ_ret ?_
      | refine seqQ_exit ?_
      | refine blkQ_normal ?_
      | refine blkQ_ret ?_
      | refine blkQ_out rfl ?_
      | refine blkQ_by rfl ?_)
    refine ⟨(i + 1, v), by simp only; omega, ?_, by simp only; omega, ?_, hv, by omega, fun n hn => ?_⟩
    · rw [hw1]
      exact set4 rfl rfl rfl rfl
    · simp only [hnew]
      exact hl.keep (by omega) fun n hn _ => by rw [MapI.get_ne _ _ _ _ (by omega), MapI.get_ne _ _ _ _ (by omega)]
    · rw [MapI.get_ne _ _ _ _ (by omega), MapI.get_ne _ _ _ _ (by omega)]; exact hfr n hn
end Go.Proofs.Ytempfmkicpifkaa
