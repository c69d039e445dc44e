/- Slide where one row alone is held. -/
import Derived.Test.YtempfmkicpifkaaStore7W
set_option linter.unusedVariables false
set_option linter.unusedSectionVars false
set_option linter.unusedSimpArgs false
set_option linter.unnecessarySimpa false
namespace Go.Proofs.Ytempfmkicpifkaa
open Go.Ab
set_option maxRecDepth 10000

theorem set_tri0 {junk : List V} {a b z x : Int} : ∀ {rows : List (Int × Int × Int)} {i : Nat}, rows[i]? = some (a, b, z) → setAll (flat tri rows ++ junk) (i * 3 + 0) [I x] = flat tri (rows.set i (x, b, z)) ++ junk
  | [], _, h => by simp at h
  | y :: rows, 0, h => by simp at h; subst h; simp [flat, tri, setAll, ovr]
  | y :: rows, i + 1, h => by
    have := set_tri0 (junk := junk) (x := x) (rows := rows) (i := i) (by simpa using h)
    rw [show (i + 1) * 3 + 0 = i * 3 + 3 from by omega]
    simp only [flat_cons, List.append_assoc, List.set_cons_succ, Nat.add_zero] at this ⊢
    simp only [tri, List.cons_append, List.nil_append, setAll, this]
theorem setAll_zero (dst new : List V) (h : new.length ≤ dst.length) : setAll dst 0 new = new ++ dst.drop new.length := setAll_app [] dst new h

set_option maxHeartbeats 4000000 in
theorem slide_one {h : HH} {c p j a n : Nat} {vb vr : V} {st : St} {cnt : Int} (r : StoreAt h c p vb vr st) (hlen : st.rows.length ≤ 1000) (hj : st.rows[j]? = some ((a : Int), (n : Int), cnt)) (hone : ∀ i q, st.rows[i]? = some q → (q.2.2 > 0 ↔ i = j)) (hn : 0 < n) (han : a + n ≤ st.bs.length) (hb : st.bs.length ≤ 10000000) :
    Does 64 [.ptr (some (p, 0))] h c (p :: (rowName vb ++ rowName vr)) fun v h' c' => v = I ((st.bs.length - n : Nat) : Int) ∧ ∃ vb', rowName vb' = rowName vb ∧ StoreAt h' c' p vb' vr ⟨(st.bs.drop a).take n, st.most, st.rows.set j (0, n, cnt), st.live⟩ := by
  have hobj := r.obj
  have hlp := r.lp
  have hjl := (List.getElem?_eq_some_iff.1 hj).1
  obtain ⟨sb, capb, rfl, hsb⟩ := r.bytes.shape
  obtain ⟨rfl, sbn, clb, jkb, rfl, hsbn, hgb, hjb⟩ := hsb 0 (by omega)
  obtain ⟨s, cap, rfl, hs⟩ := r.rows.shape
  obtain ⟨rfl, sn, cl, junk, rfl, hsn, hg, hjk⟩ := hs j hjl
  have nps : p ≠ sbn := fun e => r.nb sbn (by simp [rowName]) e.symm
  have nps2 : p ≠ sn := fun e => r.nr sn (by simp [rowName]) e.symm
  have nbs : sbn ≠ sn := fun e => r.br sbn (by simp [rowName]) (by simp [rowName, e])
  refine does_of (enter (fn := Try.f64) Try.func64 rfl rfl (Nat.le_of_ble_eq_true rfl) ?_)
  repeat' (first
    | refine WpC.seq ?_
    | refine WpC.region ?_
    | refine WpC.drawn ?_
    | refine WpC.skip ?_
    | refine WpC.block ?_
    | refine WpC.exit ?_
    | refine WpC.ret ?_
    | refine WpO.nil ?_
    | refine WpO.cons rfl rfl (WpX.pure (fun _ => rfl) ⟨nolog, ?_⟩)
    | refine WpO.skip rfl rfl ?_
    | refine WpL.cons rfl rfl (WpX.pure (fun _ => rfl) ⟨nolog, ?_⟩)
    | refine WpL.skip rfl rfl ?_
    | refine seqQ_normal ?_
    | refine seqQ_ret ?_
    | refine seqQ_exit ?_
    | refine blkQ_normal ?_
    | refine blkQ_ret ?_
    | refine blkQ_out rfl ?_
    | refine blkQ_by rfl ?_)
  refine WpC.cond rfl (fun hb => by cases hb) (fun _ => ?_)
  repeat' (first
    | refine WpC.seq ?_
    | refine WpC.region ?_
    | refine WpC.drawn ?_
    | refine WpC.skip ?_
    | refine WpC.block ?_
    | refine WpC.exit ?_
    | refine WpC.ret ?_
    | refine WpO.nil ?_
    | refine WpO.cons rfl rfl (WpX.pure (fun _ => rfl) ⟨nolog, ?_⟩)
    | refine WpO.skip rfl rfl ?_
    | refine WpL.cons rfl rfl (WpX.pure (fun _ => rfl) ⟨nolog, ?_⟩)
    | refine WpL.skip rfl rfl ?_
    | refine seqQ_normal ?_
    | refine seqQ_ret ?_
    | refine seqQ_exit ?_
    | refine blkQ_normal ?_
    | refine blkQ_ret ?_
    | refine blkQ_out rfl ?_
    | refine blkQ_by rfl ?_
    | refine WpO.cons rfl rfl (op_load rfl rfl rfl hobj rfl ⟨(by simp [InL, Acc.name, rowName] <;> omega), ?_⟩)
    | refine WpL.cons rfl rfl (op_load rfl rfl rfl hobj rfl ⟨(by simp [InL, Acc.name, rowName] <;> omega), ?_⟩)
    | refine WpO.cons rfl rfl (op_len rfl rfl rfl ⟨(by simp [InL, Acc.name, rowName] <;> omega), ?_⟩)
    | refine WpL.cons rfl rfl (op_len rfl rfl rfl ⟨(by simp [InL, Acc.name, rowName] <;> omega), ?_⟩))
  refine WpO.cons rfl rfl (call_at rfl (lying_one r hlen hg hsn hjl hone) (fun x hx => .inl (by simp at hx; rcases hx with h | h <;> simp [h, rowName])) (Nat.le_refl _) fun v h4 c4 hc4 hfr4 hq => ?_)
  obtain ⟨hl, hv, hk⟩ := hq
  obtain ⟨sl, capl, rfl, hsl⟩ := hl.shape
  obtain ⟨rfl, ls, cll, jkl, rfl, hls, hgl, _⟩ := hsl 0 (by simp)
  have hlsc : c ≤ ls := hv ls (by simp [rowName])
  have hobj4 : MapI.get h4 p = some (.cells true true [.slice (some (sbn, 0)) st.bs.length (.upTo 1), I st.most, .slice (some (sn, 0)) st.rows.length (.upTo 3), I st.live]) := by rw [hk p hlp]; exact hobj
  have hgb4 : MapI.get h4 sbn = some (.cells true clb (flat byteV st.bs ++ jkb)) := by rw [hk sbn hsbn]; exact hgb
  have hg4 : MapI.get h4 sn = some (.cells true cl (flat tri st.rows ++ junk)) := by rw [hk sn hsn]; exact hg
  have hn0 : nth (flat (ptrV sn) [j] ++ jkl) (0 + (0 : Int).toNat * 1) = some (.ptr (some (sn, j * 3))) := rfl
  have hz0 : nth (flat tri st.rows ++ junk) (j * 3 + 0) = some (I a) := (nth_flat tri_len hj (by omega) junk).trans rfl
  have hz1 : nth (flat tri st.rows ++ junk) (j * 3 + 1) = some (I n) := (nth_flat tri_len hj (by omega) junk).trans rfl
  have hwan : IntKind.i64.wrap ((a : Int) + (n : Int)) = ((a + n : Nat) : Int) := by rw [Go.IntWalk.i64_in _ (by omega)]; omega
  have hmin : min (a + n - a) (st.bs.length - 0) = n := by omega
  have hcut : cut (flat byteV st.bs ++ jkb) (0 + a * (0 + 1)) (min (a + n - a) (st.bs.length - 0) * 1) = some (flat byteV ((st.bs.drop a).take n)) := by
    rw [hmin, show 0 + a * (0 + 1) = a from by simp, Nat.mul_one]; exact cut_bytes han
  have hxl : ((st.bs.drop a).take n).length = n := by rw [List.length_take, List.length_drop]; omega
  have hfx : (flat byteV ((st.bs.drop a).take n)).length = n := by rw [flat_length byte_len, hxl]; omega
  have hfb : (flat byteV st.bs ++ jkb).length = st.bs.length + jkb.length := by rw [List.length_append, flat_length byte_len]; omega
  repeat' (first
    | refine WpC.seq ?_
    | refine WpC.region ?_
    | refine WpC.drawn ?_
    | refine WpC.skip ?_
    | refine WpC.block ?_
    | refine WpC.exit ?_
    | refine WpC.ret ?_
    | refine WpO.nil ?_
    | refine WpO.cons rfl rfl (WpX.pure (fun _ => rfl) ⟨nolog, ?_⟩)
    | refine WpO.skip rfl rfl ?_
    | refine WpL.cons rfl rfl (WpX.pure (fun _ => rfl) ⟨nolog, ?_⟩)
    | refine WpL.skip rfl rfl ?_
    | refine seqQ_normal ?_
    | refine seqQ_ret ?_
    | refine seqQ_exit ?_
    | refine blkQ_normal ?_
    | refine blkQ_ret ?_
    | refine blkQ_out rfl ?_
    | refine blkQ_by rfl ?_
    | refine WpO.cons rfl rfl (op_len rfl rfl rfl ⟨(by simp [InL, Acc.name, rowName] <;> omega), ?_⟩)
    | refine WpL.cons rfl rfl (op_len rfl rfl rfl ⟨(by simp [InL, Acc.name, rowName] <;> omega), ?_⟩))
  refine WpC.loop (WpLoop.step ?_)
  repeat' (first
    | refine WpC.seq ?_
    | refine WpC.region ?_
    | refine WpC.drawn ?_
    | refine WpC.skip ?_
    | refine WpC.block ?_
    | refine WpC.exit ?_
    | refine WpC.ret ?_
    | refine WpO.nil ?_
    | refine WpO.cons rfl rfl (WpX.pure (fun _ => rfl) ⟨nolog, ?_⟩)
    | refine WpO.skip rfl rfl ?_
    | refine WpL.cons rfl rfl (WpX.pure (fun _ => rfl) ⟨nolog, ?_⟩)
    | refine WpL.skip rfl rfl ?_
    | refine seqQ_normal ?_
    | refine seqQ_ret ?_
    | refine seqQ_exit ?_
    | refine blkQ_normal ?_
    | refine blkQ_ret ?_
    | refine blkQ_out rfl ?_
    | refine blkQ_by rfl ?_)
  refine WpC.cond rfl (fun _ => ?_) (fun hb => by simp at hb)
  repeat' (first
    | refine WpC.seq ?_
    | refine WpC.region ?_
    | refine WpC.drawn ?_
    | refine WpC.skip ?_
    | refine WpC.block ?_
    | refine WpC.exit ?_
    | refine WpC.ret ?_
    | refine WpO.nil ?_
    | refine WpO.cons rfl rfl (WpX.pure (fun _ => rfl) ⟨nolog, ?_⟩)
    | refine WpO.skip rfl rfl ?_
    | refine WpL.cons rfl rfl (WpX.pure (fun _ => rfl) ⟨nolog, ?_⟩)
    | refine WpL.skip rfl rfl ?_
    | refine seqQ_normal ?_
    | refine seqQ_ret ?_
    | refine seqQ_exit ?_
    | refine blkQ_normal ?_
    | refine blkQ_ret ?_
    | refine blkQ_out rfl ?_
    | refine blkQ_by rfl ?_
    | refine WpO.cons rfl rfl (op_indexAddr (k := 1) rfl rfl rfl rfl ⟨by omega, by simp⟩ ⟨(by simp [InL, Acc.name, rowName] <;> omega), ?_⟩)
    | refine WpL.cons rfl rfl (op_indexAddr (k := 1) rfl rfl rfl rfl ⟨by omega, by simp⟩ ⟨(by simp [InL, Acc.name, rowName] <;> omega), ?_⟩)
    | refine WpO.cons rfl rfl (op_load rfl rfl rfl hgl hn0 ⟨(by simp [InL, Acc.name, rowName] <;> omega), ?_⟩)
    | refine WpL.cons rfl rfl (op_load rfl rfl rfl hgl hn0 ⟨(by simp [InL, Acc.name, rowName] <;> omega), ?_⟩)
    | refine WpO.cons rfl rfl (op_load rfl rfl rfl hobj4 rfl ⟨(by simp [InL, Acc.name, rowName] <;> omega), ?_⟩)
    | refine WpL.cons rfl rfl (op_load rfl rfl rfl hobj4 rfl ⟨(by simp [InL, Acc.name, rowName] <;> omega), ?_⟩)
    | refine WpO.cons rfl rfl (op_load rfl rfl rfl hg4 hz0 ⟨(by simp [InL, Acc.name, rowName] <;> omega), ?_⟩)
    | refine WpL.cons rfl rfl (op_load rfl rfl rfl hg4 hz0 ⟨(by simp [InL, Acc.name, rowName] <;> omega), ?_⟩)
    | refine WpO.cons rfl rfl (op_load rfl rfl rfl hg4 hz1 ⟨(by simp [InL, Acc.name, rowName] <;> omega), ?_⟩)
    | refine WpL.cons rfl rfl (op_load rfl rfl rfl hg4 hz1 ⟨(by simp [InL, Acc.name, rowName] <;> omega), ?_⟩)
    | refine WpO.cons rfl rfl (op_slice rfl rfl rfl rfl rfl (bound_at (n := 0) rfl) rfl (by omega) (by omega) rfl ⟨(by simp [InL, Acc.name, rowName] <;> omega), ?_⟩)
    | refine WpL.cons rfl rfl (op_slice rfl rfl rfl rfl rfl (bound_at (n := 0) rfl) rfl (by omega) (by omega) rfl ⟨(by simp [InL, Acc.name, rowName] <;> omega), ?_⟩)
    | refine WpO.cons rfl rfl (op_slice rfl rfl rfl rfl rfl (bound_at (n := a) rfl) (bound_at hwan) (by omega) (by omega) rfl ⟨(by simp [InL, Acc.name, rowName] <;> omega), ?_⟩)
    | refine WpL.cons rfl rfl (op_slice rfl rfl rfl rfl rfl (bound_at (n := a) rfl) (bound_at hwan) (by omega) (by omega) rfl ⟨(by simp [InL, Acc.name, rowName] <;> omega), ?_⟩)
    | refine WpO.cons rfl rfl (op_copy (k := 1) rfl rfl rfl rfl (by omega) hgb4 hcut hgb4 (by omega) (flat_all byte_all _) ⟨(by simp [InL, Acc.name, rowName] <;> omega), ?_⟩)
    | refine WpL.cons rfl rfl (op_copy (k := 1) rfl rfl rfl rfl (by omega) hgb4 hcut hgb4 (by omega) (flat_all byte_all _) ⟨(by simp [InL, Acc.name, rowName] <;> omega), ?_⟩))
  refine WpL.nil (logsOk_of (cs := [0, 1, 3, 7, 0, 31, 0, 64, 192, 448, 0, 1024, 3072, 7168, 0, 16384, 49152, 114688, 0, 262144, 786432, 1835008, 4177920, 8388544, 16777215]) (by decide +kernel) ?_) ?_
  · simp +contextual [allP, apP, Dis, acc_rd, acc_wr, accw_rd, accw_wr, Nat.testBit, nps, nps2, nbs]
  have g5 : ∀ x : AObj, MapI.get (MapI.set h4 sbn x) sn = some (.cells true cl (flat tri st.rows ++ junk)) := fun x => by rw [MapI.get_ne _ _ _ _ nbs]; exact hg4
  have g6 : ∀ (g : HH) (y : AObj), MapI.get (MapI.set g sn y) sn = some y := fun g y => MapI.get_same _ _ _
  have o6 : ∀ x y : AObj, MapI.get (MapI.set (MapI.set h4 sbn x) sn y) p = some (.cells true true [.slice (some (sbn, 0)) st.bs.length (.upTo 1), I st.most, .slice (some (sn, 0)) st.rows.length (.upTo 3), I st.live]) := fun x y => by
    rw [MapI.get_ne _ _ _ _ (Ne.symm nps2), MapI.get_ne _ _ _ _ (Ne.symm nps)]; exact hobj4
  have hfl : j * 3 + 0 + 1 ≤ (flat tri st.rows ++ junk).length := by rw [List.length_append, flat_length tri_len]; omega
  have hz' : (st.rows.set j ((0 : Int), (n : Int), cnt))[j]? = some ((0 : Int), (n : Int), cnt) := by simp [hjl]
  have hn1 : nth (setAll (flat tri st.rows ++ junk) (j * 3 + 0) [I 0]) (j * 3 + 1) = some (I n) := by
    rw [set_tri0 hj]; exact (nth_flat tri_len hz' (by omega) junk).trans rfl
  have hw0 : IntKind.i64.wrap ((0 : Int) + (n : Int)) = (n : Int) := by rw [Go.IntWalk.i64_in _ (by omega)]; omega
  have hw01 : IntKind.i64.wrap ((0 : Int) + 1) = 1 := by decide
  repeat' (first
    | refine WpC.seq ?_
    | refine WpC.region ?_
    | refine WpC.drawn ?_
    | refine WpC.skip ?_
    | refine WpC.block ?_
    | refine WpC.exit ?_
    | refine WpC.ret ?_
    | refine WpO.nil ?_
    | refine WpO.cons rfl rfl (WpX.pure (fun _ => rfl) ⟨nolog, ?_⟩)
    | refine WpO.skip rfl rfl ?_
    | refine WpL.cons rfl rfl (WpX.pure (fun _ => rfl) ⟨nolog, ?_⟩)
    | refine WpL.skip rfl rfl ?_
    | refine seqQ_normal ?_
    | refine seqQ_ret ?_
    | refine seqQ_exit ?_
    | refine blkQ_normal ?_
    | refine blkQ_ret ?_
    | refine blkQ_out rfl ?_
    | refine blkQ_by rfl ?_
    | refine WpO.cons rfl rfl (op_store (k := 1) rfl rfl rfl rfl (g5 _) hfl rfl ⟨(by simp [InL, Acc.name, rowName] <;> omega), ?_⟩)
    | refine WpL.cons rfl rfl (op_store (k := 1) rfl rfl rfl rfl (g5 _) hfl rfl ⟨(by simp [InL, Acc.name, rowName] <;> omega), ?_⟩)
    | refine WpO.cons rfl rfl (op_load rfl rfl rfl (g6 _ _) hn1 ⟨(by simp [InL, Acc.name, rowName] <;> omega), ?_⟩)
    | refine WpL.cons rfl rfl (op_load rfl rfl rfl (g6 _ _) hn1 ⟨(by simp [InL, Acc.name, rowName] <;> omega), ?_⟩))
  refine WpLoop.step ?_
  repeat' (first
    | refine WpC.seq ?_
    | refine WpC.region ?_
    | refine WpC.drawn ?_
    | refine WpC.skip ?_
    | refine WpC.block ?_
    | refine WpC.exit ?_
    | refine WpC.ret ?_
    | refine WpO.nil ?_
    | refine WpO.cons rfl rfl (WpX.pure (fun _ => rfl) ⟨nolog, ?_⟩)
    | refine WpO.skip rfl rfl ?_
    | refine WpL.cons rfl rfl (WpX.pure (fun _ => rfl) ⟨nolog, ?_⟩)
    | refine WpL.skip rfl rfl ?_
    | refine seqQ_normal ?_
    | refine seqQ_ret ?_
    | refine seqQ_exit ?_
    | refine blkQ_normal ?_
    | refine blkQ_ret ?_
    | refine blkQ_out rfl ?_
    | refine blkQ_by rfl ?_)
  refine WpC.cond rfl (fun hb => by rw [hw01] at hb; simp at hb) (fun _ => ?_)
  repeat' (first
    | refine WpC.seq ?_
    | refine WpC.region ?_
    | refine WpC.drawn ?_
    | refine WpC.skip ?_
    | refine WpC.block ?_
    | refine WpC.exit ?_
    | refine WpC.ret ?_
    | refine WpO.nil ?_
    | refine WpO.cons rfl rfl (WpX.pure (fun _ => rfl) ⟨nolog, ?_⟩)
    | refine WpO.skip rfl rfl ?_
    | refine WpL.cons rfl rfl (WpX.pure (fun _ => rfl) ⟨nolog, ?_⟩)
    | refine WpL.skip rfl rfl ?_
    | refine seqQ_normal ?_
    | refine seqQ_ret ?_
    | refine seqQ_exit ?_
    | refine blkQ_normal ?_
    | refine blkQ_ret ?_
    | refine blkQ_out rfl ?_
    | refine blkQ_by rfl ?_
    | refine WpO.cons rfl rfl (op_load rfl rfl rfl (o6 _ _) rfl ⟨(by simp [InL, Acc.name, rowName] <;> omega), ?_⟩)
    | refine WpL.cons rfl rfl (op_load rfl rfl rfl (o6 _ _) rfl ⟨(by simp [InL, Acc.name, rowName] <;> omega), ?_⟩)
    | refine WpO.cons rfl rfl (op_slice rfl rfl rfl rfl rfl rfl (bound_at hw0) (by omega) (by omega) rfl ⟨(by simp [InL, Acc.name, rowName] <;> omega), ?_⟩)
    | refine WpL.cons rfl rfl (op_slice rfl rfl rfl rfl rfl rfl (bound_at hw0) (by omega) (by omega) rfl ⟨(by simp [InL, Acc.name, rowName] <;> omega), ?_⟩)
    | refine WpO.cons rfl rfl (op_store (k := 1) rfl rfl rfl rfl (o6 _ _) (Nat.le_of_ble_eq_true rfl) rfl ⟨(by simp [InL, Acc.name, rowName] <;> omega), ?_⟩)
    | refine WpL.cons rfl rfl (op_store (k := 1) rfl rfl rfl rfl (o6 _ _) (Nat.le_of_ble_eq_true rfl) rfl ⟨(by simp [InL, Acc.name, rowName] <;> omega), ?_⟩))
  have hwf : IntKind.i64.wrap ((st.bs.length : Int) - IntKind.i64.wrap ((0 : Int) + (n : Int))) = ((st.bs.length - n : Nat) : Int) := by rw [hw0, Go.IntWalk.i64_in _ (by omega)]; omega
  refine out_ret rfl ⟨by show V.int _ _ = _; rw [hwf], .slice (some (sbn, 0)) n (.upTo 1), rfl, ?_, ?_, ?_, by omega, fun x hx => r.nb x (by simpa [rowName] using hx), fun x hx => r.nr x (by simpa [rowName] using hx), fun x hx => r.br x (by simpa [rowName] using hx)⟩
  · refine (MapI.get_same (S := HH) (α := AObj) _ _ _).trans ?_
    simp only [Nat.sub_zero]
    rfl
  · refine .inr ⟨sbn, clb, (flat byteV st.bs ++ jkb).drop n, by rw [hxl], by omega, ?_, ?_⟩
    · rw [MapI.get_ne _ _ _ _ nps, MapI.get_ne _ _ _ _ (Ne.symm nbs)]
      refine (MapI.get_same (S := HH) (α := AObj) _ _ _).trans ?_
      have := setAll_zero (flat byteV st.bs ++ jkb) (flat byteV ((st.bs.drop a).take n)) (by omega)
      rw [hfx] at this
      exact congrArg (fun x => some (AObj.cells true clb x)) this
    · exact List.all_eq_true.2 fun x hx => by
        have hx := List.mem_of_mem_drop hx
        rcases List.mem_append.1 hx with h | h
        · exact List.all_eq_true.1 (flat_all byte_all st.bs) x h
        · exact List.all_eq_true.1 hjb x h
  · refine .inr ⟨sn, cl, junk, by simp, by omega, ?_, hjk⟩
    rw [MapI.get_ne _ _ _ _ nps2]
    refine (MapI.get_same (S := HH) (α := AObj) _ _ _).trans ?_
    exact congrArg (fun x => some (AObj.cells true cl x)) (set_tri0 hj)
end Go.Proofs.Ytempfmkicpifkaa
