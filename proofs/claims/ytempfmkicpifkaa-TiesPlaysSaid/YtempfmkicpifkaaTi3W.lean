/- Ties: the rows of a direction. -/
import Derived.Test.YtempfmkicpifkaaTi2W
set_option linter.unusedVariables false
set_option linter.unusedSectionVars false
set_option linter.unusedSimpArgs false
set_option linter.unnecessarySimpa false
namespace Go.Proofs.Ytempfmkicpifkaa.Ti
open Go.Ab
set_option maxRecDepth 10000
variable {h h' : HH} {c c' p a b d : Nat} {L : List (Int × Unit)} {O N S : List (Int × Int)}
theorem set5 {X : EE} {k0 k1 k2 k3 k4 : Nat} {v0 v1 v2 v3 v4 : V} (h0 : X k0 = some v0) (h1 : X k1 = some v1) (h2 : X k2 = some v2) (h3 : X k3 = some v3) (h4 : X k4 = some v4) : ∃ b, X = MapI.set (MapI.set (MapI.set (MapI.set (MapI.set b k0 v0) k1 v1) k2 v2) k3 v3) k4 v4 :=
  ⟨X, by rw [FM.add h0, FM.add h1, FM.add h2, FM.add h3, FM.add h4]⟩
theorem look_at : ∀ {S : List (Int × Int)} {i : Nat} {k v : Int}, Up S → S[i]? = some (k, v) → S.lookup k = some v
  | [], i, _, _, _, h => by simp at h
  | (q, u) :: S, 0, k, v, _, h => by simp at h; obtain ⟨rfl, rfl⟩ := h; simp
  | (q, u) :: S, i + 1, k, v, hu, h => by
    have h : S[i]? = some (k, v) := by simpa using h
    have hlt : q < k := (List.pairwise_cons.1 hu).1 _ (List.mem_of_getElem? h)
    have : (k == q) = false := by simp; omega
    rw [List.lookup_cons, this]
    exact look_at (List.pairwise_cons.1 hu).2 h
theorem MapS.up {β : Type} {val : β → V} {S : List (Int × β)} (r : MapS val h a S) : Up S := by obtain ⟨_, _, _, _, _, _, h, _⟩ := r; exact h
theorem MapS.len {β : Type} {val : β → V} {S : List (Int × β)} (r : MapS val h a S) : S.length ≤ 1000 := by obtain ⟨_, _, _, _, _, _, _, _, h⟩ := r; exact h
theorem rows_ok (r : MapS I h b S) (hb : b < c) : Does 113 [.map (some b)] h c [b] fun v h' c' => ListOf 2 pairV h' c' v S ∧ (∀ x, x < c → MapI.get h' x = MapI.get h x) ∧ ∀ x ∈ rowName v, c ≤ x := by
  have hup := r.up
  have hln := r.len
  refine does_of (enter (fn := Try.f113) Try.func113 rfl rfl (Nat.le_of_ble_eq_true rfl) ?_)
  repeat' (first
    | refine WpC.seq ?_
    | refine WpC.region ?_
    | refine WpC.drawn ?_
    | refine WpC.skip ?_
    | refine WpC.block ?_
    | refine WpC.exit ?_
    | refine WpC.ret ?_
    | refine WpO.nil ?_
    | refine WpO.cons rfl rfl (WpX.pure (fun _ => rfl) ⟨nolog, ?_⟩)
    | refine WpO.skip rfl rfl ?_
    | refine WpL.cons rfl rfl (WpX.pure (fun _ => rfl) ⟨nolog, ?_⟩)
    | refine WpL.skip rfl rfl ?_
    | refine seqQ_normal ?_
    | refine seqQ_ret ?_
    | refine seqQ_exit ?_
    | refine blkQ_normal ?_
    | refine blkQ_ret ?_
    | refine blkQ_out rfl ?_
    | refine blkQ_by rfl ?_)
  refine WpO.cons rfl rfl (call_at rfl keysB_ok (by simp) (by omega) fun v h1 c1 hc1 hfr1 hq => ?_)
  obtain ⟨q, rfl, hq1, hq2, hg1⟩ := hq
  refine WpO.cons rfl rfl (call_at rfl (sorted_ok (S := S) rfl hg1 (r.keep (hfr1 b (by omega) (by simp)))) (fun n hn => by
    simp at hn
    rcases hn with rfl | rfl
    · exact .inr hq1
    · exact .inl (by simp)) (by omega) fun kv h2 c2 hc2 hfr2 hq => ?_)
  obtain ⟨h3, h4, h5⟩ := hq
  obtain ⟨s, cap, rfl, hs⟩ := h3.shape
  have hkl : (S.map (·.1)).length = S.length := by simp
  rw [hkl] at *
  repeat' (first
    | refine WpC.seq ?_
    | refine WpC.region ?_
    | refine WpC.drawn ?_
    | refine WpC.skip ?_
    | refine WpC.block ?_
    | refine WpC.exit ?_
    | refine WpC.ret ?_
    | refine WpO.nil ?_
    | refine WpO.cons rfl rfl (WpX.pure (fun _ => rfl) ⟨nolog, ?_⟩)
    | refine WpO.skip rfl rfl ?_
    | refine WpL.cons rfl rfl (WpX.pure (fun _ => rfl) ⟨nolog, ?_⟩)
    | refine WpL.skip rfl rfl ?_
    | refine seqQ_normal ?_
    | refine seqQ_ret ?_
    | refine seqQ_exit ?_
    | refine blkQ_normal ?_
    | refine blkQ_ret ?_
    | refine blkQ_out rfl ?_
    | refine blkQ_by rfl ?_
    | refine WpO.cons rfl rfl (op_len rfl rfl rfl ⟨(by simp [InL, Acc.name, rowName] <;> omega), ?_⟩)
    | refine WpL.cons rfl rfl (op_len rfl rfl rfl ⟨(by simp [InL, Acc.name, rowName] <;> omega), ?_⟩))
  refine WpC.loop ?_
  refine WpLoop.ind (X := Nat × V) (fun x e h' c' => (∃ b0, e = MapI.set (MapI.set (MapI.set (MapI.set (MapI.set b0 0 (.map (some b))) 3 x.2) 8 (.slice s S.length cap)) 9 (I S.length)) 10 (I x.1)) ∧ x.1 ≤ S.length ∧
      ListOf (1 + 1) pairV h' c' x.2 (S.take x.1) ∧ (∀ n ∈ rowName x.2, c2 ≤ n) ∧ (∀ n, n < c2 → MapI.get h' n = MapI.get h2 n) ∧ c2 ≤ c')
    (fun x => S.length - x.1) ?_ (0, .slice none 0 (.known 0)) _ _ _ ⟨set5 rfl rfl rfl rfl rfl, Nat.zero_le _, .nil, fun n hn => (by cases hn), fun _ _ => rfl, Nat.le_refl _⟩
  rintro ⟨i, acc⟩ e h' c' ⟨⟨b0, rfl⟩, hi, hacc, hna, hold, hcc⟩
  simp only at hi hacc hna
  repeat' (first
    | refine WpC.seq ?_
    | refine WpC.region ?_
    | refine WpC.drawn ?_
    | refine WpC.skip ?_
    | refine WpC.block ?_
    | refine WpC.exit ?_
    | refine WpC.ret ?_
    | refine WpO.nil ?_
    | refine WpO.cons rfl rfl (WpX.pure (fun _ => rfl) ⟨nolog, ?_⟩)
    | refine WpO.skip rfl rfl ?_
    | refine WpL.cons rfl rfl (WpX.pure (fun _ => rfl) ⟨nolog, ?_⟩)
    | refine WpL.skip rfl rfl ?_
    | refine seqQ_normal ?_
    | refine seqQ_ret ?_
    | refine seqQ_exit ?_
    | refine blkQ_normal ?_
    | refine blkQ_ret ?_
    | refine blkQ_out rfl ?_
    | refine blkQ_by rfl ?_)
  refine WpC.cond rfl (fun hlt => ?_) (fun hge => ?_)
  case refine_2 =>
    have hge : S.length ≤ i := by simpa using hge
    rw [List.take_of_length_le hge] at hacc
    repeat' (first
      | refine WpC.seq ?_
      | refine WpC.region ?_
      | refine WpC.drawn ?_
      | refine WpC.skip ?_
      | refine WpC.block ?_
      | refine WpC.exit ?_
      | refine WpC.ret ?_
      | refine WpO.nil ?_
      | refine WpO.cons rfl rfl (WpX.pure (fun _ => rfl) ⟨nolog, ?_⟩)
      | refine WpO.skip rfl rfl ?_
      | refine WpL.cons rfl rfl (WpX.pure (fun _ => rfl) ⟨nolog, ?_⟩)
      | refine WpL.skip rfl rfl ?_
      | refine seqQ_normal ?_
      | refine seqQ_ret ?_
      | refine seqQ_exit ?_
      | refine blkQ_normal ?_
      | refine blkQ_ret ?_
      | refine blkQ_out rfl ?_
      | refine blkQ_by rfl ?_)
    exact out_ret rfl ⟨hacc, fun x hx => by rw [hold x (by omega), h4 x (by omega), hfr1 x hx (by simp)], fun x hx => by have := hna x hx; omega⟩
  have hlt : i < S.length := by simpa using hlt
  obtain ⟨rfl, sn, cl, junk, rfl, hsn, hg, _⟩ := hs i (by simpa using hlt)
  have hsc : c1 ≤ sn := h5 sn (by simp [rowName])
  obtain ⟨⟨k, u⟩, hz⟩ : ∃ z, S[i]? = some z := ⟨_, List.getElem?_eq_getElem hlt⟩
  have hg' : MapI.get h' sn = some (.cells true cl (flat intV (S.map (·.1)) ++ junk)) := by rw [hold sn hsn]; exact hg
  have hnx : nth (flat intV (S.map (·.1)) ++ junk) (0 + ((i : Nat) : Int).toNat * 1) = some (I k) := by
    have e : 0 + ((i : Nat) : Int).toNat * 1 = i * 1 + 0 := by simp
    rw [e]
    exact (nth_flat int_len (x := k) (by simp [hz]) (by omega) junk).trans rfl
  have hw1 : IntKind.i64.wrap ((i : Int) + 1) = ((i + 1 : Nat) : Int) := by rw [Go.IntWalk.i64_in _ (by omega)]; omega
  have rb : MapS I h' b S := r.keep (by rw [hold b (by omega), h4 b (by omega), hfr1 b hb (by simp)])
  obtain ⟨es, ck, m, q2, m1, m2, m3, m4, m5, m6, m7, m8⟩ := rb.look k
  have hlk := look_at hup hz
  rw [hlk] at m8
  cases m8 with | yes hd => ?_
  have htk : S.take (i + 1) = S.take i ++ [(k, u)] := by rw [List.take_add_one, hz]; rfl
  have hl2 : ∀ x : AObj, ListOf (1 + 1) pairV (MapI.set h' c' x) (c' + 1) acc (S.take i) := fun x => hacc.keep (by omega) fun n hn _ => MapI.get_ne _ _ _ _ (by omega)
  have hll := hacc.lt
  have hlen2 : (S.take i).length ≤ 1000 := by rw [List.length_take]; omega
  repeat' (first
    | refine WpC.seq ?_
    | refine WpC.region ?_
    | refine WpC.drawn ?_
    | refine WpC.skip ?_
    | refine WpC.block ?_
    | refine WpC.exit ?_
    | refine WpC.ret ?_
    | refine WpO.nil ?_
    | refine WpO.cons rfl rfl (WpX.pure (fun _ => rfl) ⟨nolog, ?_⟩)
    | refine WpO.skip rfl rfl ?_
    | refine WpL.cons rfl rfl (WpX.pure (fun _ => rfl) ⟨nolog, ?_⟩)
    | refine WpL.skip rfl rfl ?_
    | refine seqQ_normal ?_
    | refine seqQ_ret ?_
    | refine seqQ_exit ?_
    | refine blkQ_normal ?_
    | refine blkQ_ret ?_
    | refine blkQ_out rfl ?_
    | refine blkQ_by rfl ?_
    | refine WpO.cons rfl rfl (op_indexAddr (k := 1) rfl rfl rfl rfl ⟨by omega, by omega⟩ ⟨(by simp [InL, Acc.name, rowName] <;> omega), ?_⟩)
    | refine WpL.cons rfl rfl (op_indexAddr (k := 1) rfl rfl rfl rfl ⟨by omega, by omega⟩ ⟨(by simp [InL, Acc.name, rowName] <;> omega), ?_⟩)
    | refine WpO.cons rfl rfl (op_load rfl rfl rfl hg' hnx ⟨(by simp [InL, Acc.name, rowName] <;> omega), ?_⟩)
    | refine WpL.cons rfl rfl (op_load rfl rfl rfl hg' hnx ⟨(by simp [InL, Acc.name, rowName] <;> omega), ?_⟩)
    | refine WpO.cons rfl rfl (op_lookup rfl rfl rfl rfl rfl rfl m1 m7 ⟨(by simp [InL, Acc.name, rowName] <;> omega), ?_⟩)
    | refine WpL.cons rfl rfl (op_lookup rfl rfl rfl rfl rfl rfl m1 m7 ⟨(by simp [InL, Acc.name, rowName] <;> omega), ?_⟩)
    | refine WpO.cons rfl rfl (op_buildSlice (k := 2) rfl rfl rfl rfl (by decide) rfl ⟨(by simp [InL, Acc.name, rowName] <;> omega), ?_⟩)
    | refine WpL.cons rfl rfl (op_buildSlice (k := 2) rfl rfl rfl rfl (by decide) rfl ⟨(by simp [InL, Acc.name, rowName] <;> omega), ?_⟩))
  refine WpO.cons rfl rfl (append_at (ys := [(k, u)]) rfl rfl elP rfl pair_len pair_all (hl2 _) (MapI.get_same _ _ _) rfl rfl (by omega) (.inr (by simp [Acc.name]; omega)) (fun x hx => by have := hna x hx; exact ⟨.inr (by simp [Acc.name]; omega), .inr (by simp [Acc.name]; omega)⟩) (.inr (by simp [Acc.name]; omega)) fun v3 h3 c3 hl3 hn3 hc3 hf3 => ?_)
  repeat' (first
    | refine WpC.seq ?_
    | refine WpC.region ?_
    | refine WpC.drawn ?_
    | refine WpC.skip ?_
    | refine WpC.block ?_
    | refine WpC.exit ?_
    | refine WpC.ret ?_
    | refine WpO.nil ?_
    | refine WpO.cons rfl rfl (WpX.pure (fun _ => rfl) ⟨nolog, ?_⟩)
    | refine WpO.skip rfl rfl ?_
    | refine WpL.cons rfl rfl (WpX.pure (fun _ => rfl) ⟨nolog, ?_⟩)
    | refine WpL.skip rfl rfl ?_
    | refine seqQ_normal ?_
    | refine seqQ_ret ?_
    | refine seqQ_exit ?_
    | refine blkQ_normal ?_
    | refine blkQ_ret ?_
    | refine blkQ_out rfl ?_
    | refine blkQ_by rfl ?_)
  refine ⟨(i + 1, v3), by simp only; omega, ?_, by simp only; omega, by rw [htk]; exact hl3, fun n hn => ?_, fun n hn => ?_, by omega⟩
  · rw [hw1]
    exact set5 rfl rfl rfl rfl rfl
  · rcases hn3 n hn with h | ⟨h, _⟩
    · exact hna n h
    · omega
  · rw [hf3 n (by omega) (fun hm => by have := hna n hm; omega), MapI.get_ne _ _ _ _ (by omega)]
    exact hold n hn
theorem out_ok (r : TiesAt h c p a b d L O N) : Does 46 [.ptr (some (p, 0))] h c [p, b] fun v h' c' => ListOf 2 pairV h' c' v O ∧ (∀ x, x < c → MapI.get h' x = MapI.get h x) ∧ ∀ x ∈ rowName v, c ≤ x := by
  have hobj := r.obj
  have hlt := r.lt
  refine does_of (enter (fn := Try.f46) Try.func46 rfl rfl (Nat.le_of_ble_eq_true rfl) ?_)
  repeat' (first
    | refine WpC.seq ?_
    | refine WpC.region ?_
    | refine WpC.drawn ?_
    | refine WpC.skip ?_
    | refine WpC.block ?_
    | refine WpC.exit ?_
    | refine WpC.ret ?_
    | refine WpO.nil ?_
    | refine WpO.cons rfl rfl (WpX.pure (fun _ => rfl) ⟨nolog, ?_⟩)
    | refine WpO.skip rfl rfl ?_
    | refine WpL.cons rfl rfl (WpX.pure (fun _ => rfl) ⟨nolog, ?_⟩)
    | refine WpL.skip rfl rfl ?_
    | refine seqQ_normal ?_
    | refine seqQ_ret ?_
    | refine seqQ_exit ?_
    | refine blkQ_normal ?_
    | refine blkQ_ret ?_
    | refine blkQ_out rfl ?_
    | refine blkQ_by rfl ?_)
  refine WpC.cond rfl (fun hb => by cases hb) (fun _ => ?_)
  repeat' (first
    | refine WpC.seq ?_
    | refine WpC.region ?_
    | refine WpC.drawn ?_
    | refine WpC.skip ?_
    | refine WpC.block ?_
    | refine WpC.exit ?_
    | refine WpC.ret ?_
    | refine WpO.nil ?_
    | refine WpO.cons rfl rfl (WpX.pure (fun _ => rfl) ⟨nolog, ?_⟩)
    | refine WpO.skip rfl rfl ?_
    | refine WpL.cons rfl rfl (WpX.pure (fun _ => rfl) ⟨nolog, ?_⟩)
    | refine WpL.skip rfl rfl ?_
    | refine seqQ_normal ?_
    | refine seqQ_ret ?_
    | refine seqQ_exit ?_
    | refine blkQ_normal ?_
    | refine blkQ_ret ?_
    | refine blkQ_out rfl ?_
    | refine blkQ_by rfl ?_
    | refine WpO.cons rfl rfl (op_load rfl rfl rfl hobj rfl ⟨(by simp [InL, Acc.name, rowName] <;> omega), ?_⟩)
    | refine WpL.cons rfl rfl (op_load rfl rfl rfl hobj rfl ⟨(by simp [InL, Acc.name, rowName] <;> omega), ?_⟩))
  refine WpO.cons rfl rfl (call_at rfl (rows_ok r.out (by omega)) (fun n hn => .inl (by simp at hn; simp [hn])) (Nat.le_refl _) fun v h1 c1 hc1 hfr1 hq => ?_)
  repeat' (first
    | refine WpC.seq ?_
    | refine WpC.region ?_
    | refine WpC.drawn ?_
    | refine WpC.skip ?_
    | refine WpC.block ?_
    | refine WpC.exit ?_
    | refine WpC.ret ?_
    | refine WpO.nil ?_
    | refine WpO.cons rfl rfl (WpX.pure (fun _ => rfl) ⟨nolog, ?_⟩)
    | refine WpO.skip rfl rfl ?_
    | refine WpL.cons rfl rfl (WpX.pure (fun _ => rfl) ⟨nolog, ?_⟩)
    | refine WpL.skip rfl rfl ?_
    | refine seqQ_normal ?_
    | refine seqQ_ret ?_
    | refine seqQ_exit ?_
    | refine blkQ_normal ?_
    | refine blkQ_ret ?_
    | refine blkQ_out rfl ?_
    | refine blkQ_by rfl ?_)
  exact out_ret rfl hq
theorem in_ok (r : TiesAt h c p a b d L O N) : Does 47 [.ptr (some (p, 0))] h c [p, d] fun v h' c' => ListOf 2 pairV h' c' v N ∧ (∀ x, x < c → MapI.get h' x = MapI.get h x) ∧ ∀ x ∈ rowName v, c ≤ x := by
  have hobj := r.obj
  have hlt := r.lt
  refine does_of (enter (fn := Try.f47) Try.func47 rfl rfl (Nat.le_of_ble_eq_true rfl) ?_)
  repeat' (first
    | refine WpC.seq ?_
    | refine WpC.region ?_
    | refine WpC.drawn ?_
    | refine WpC.skip ?_
    | refine WpC.block ?_
    | refine WpC.exit ?_
    | refine WpC.ret ?_
    | refine WpO.nil ?_
    | refine WpO.cons rfl rfl (WpX.pure (fun _ => rfl) ⟨nolog, ?_⟩)
    | refine WpO.skip rfl rfl ?_
    | refine WpL.cons rfl rfl (WpX.pure (fun _ => rfl) ⟨nolog, ?_⟩)
    | refine WpL.skip rfl rfl ?_
    | refine seqQ_normal ?_
    | refine seqQ_ret ?_
    | refine seqQ_exit ?_
    | refine blkQ_normal ?_
    | refine blkQ_ret ?_
    | refine blkQ_out rfl ?_
    | refine blkQ_by rfl ?_)
  refine WpC.cond rfl (fun hb => by cases hb) (fun _ => ?_)
  repeat' (first
    | refine WpC.seq ?_
    | refine WpC.region ?_
    | refine WpC.drawn ?_
    | refine WpC.skip ?_
    | refine WpC.block ?_
    | refine WpC.exit ?_
    | refine WpC.ret ?_
    | refine WpO.nil ?_
    | refine WpO.cons rfl rfl (WpX.pure (fun _ => rfl) ⟨nolog, ?_⟩)
    | refine WpO.skip rfl rfl ?_
    | refine WpL.cons rfl rfl (WpX.pure (fun _ => rfl) ⟨nolog, ?_⟩)
    | refine WpL.skip rfl rfl ?_
    | refine seqQ_normal ?_
    | refine seqQ_ret ?_
    | refine seqQ_exit ?_
    | refine blkQ_normal ?_
    | refine blkQ_ret ?_
    | refine blkQ_out rfl ?_
    | refine blkQ_by rfl ?_
    | refine WpO.cons rfl rfl (op_load rfl rfl rfl hobj rfl ⟨(by simp [InL, Acc.name, rowName] <;> omega), ?_⟩)
    | refine WpL.cons rfl rfl (op_load rfl rfl rfl hobj rfl ⟨(by simp [InL, Acc.name, rowName] <;> omega), ?_⟩))
  refine WpO.cons rfl rfl (call_at rfl (rows_ok r.inn (by omega)) (fun n hn => .inl (by simp at hn; simp [hn])) (Nat.le_refl _) fun v h1 c1 hc1 hfr1 hq => ?_)
  repeat' (first
    | refine WpC.seq ?_
    | refine WpC.region ?_
    | refine WpC.drawn ?_
    | refine WpC.skip ?_
    | refine WpC.block ?_
    | refine WpC.exit ?_
    | refine WpC.ret ?_
    | refine WpO.nil ?_
    | refine WpO.cons rfl rfl (WpX.pure (fun _ => rfl) ⟨nolog, ?_⟩)
    | refine WpO.skip rfl rfl ?_
    | refine WpL.cons rfl rfl (WpX.pure (fun _ => rfl) ⟨nolog, ?_⟩)
    | refine WpL.skip rfl rfl ?_
    | refine seqQ_normal ?_
    | refine seqQ_ret ?_
    | refine seqQ_exit ?_
    | refine blkQ_normal ?_
    | refine blkQ_ret ?_
    | refine blkQ_out rfl ?_
    | refine blkQ_by rfl ?_)
  exact out_ret rfl hq
end Go.Proofs.Ytempfmkicpifkaa.Ti
