/- TiesPlays: the reference's rows of pairs: taken, compared, turned. -/
import Derived.Test.YtempfmkicpifkaaTi7W
set_option linter.unusedVariables false
set_option linter.unusedSectionVars false
set_option linter.unusedSimpArgs false
set_option linter.unnecessarySimpa false
namespace Go.Proofs.Ytempfmkicpifkaa.Ti
open Go.Ab
set_option maxRecDepth 10000
variable {h h' : HH} {c c' : Nat} {O : List (Int × Int)} {v w : V} {k u : Int}
theorem nil_at {k : Int} {O : List (Int × Int)} (hb : ∀ j q, j < O.length → O[j]? = some q → q.1 ≠ k) : O.lookup k = none := by
  refine look_none.2 fun x hx => ?_
  obtain ⟨j, hj⟩ := List.getElem?_of_mem hx
  exact hb j x (List.getElem?_eq_some_iff.1 hj).1 hj
set_option maxHeartbeats 8000000 in
theorem takew_ok (r : ListOf 2 pairV h c v O) (hlen : O.length ≤ 1000) : Does 55 [v, I k] h c (rowName v) fun q h' c' => (∀ n, n < c → MapI.get h' n = MapI.get h n) ∧
    ∃ v', q = .tuple [v', I ((O.lookup k).getD 0), .bool (O.lookup k).isSome] ∧ ListOf 2 pairV h' c' v' (eraG k O) ∧ (∀ n ∈ rowName v', n ∈ rowName v ∨ c ≤ n) := by
  have hlt := r.lt
  have rS := r
  obtain ⟨s, cap, rfl, hs⟩ := r.shape
  refine does_of (enter (fn := Try.f55) Try.func55 rfl rfl (Nat.le_of_ble_eq_true rfl) ?_)
  repeat' (first
    | refine WpC.seq ?_
    | refine WpC.region ?_
    | refine WpC.drawn ?_
    | refine WpC.skip ?_
    | refine WpC.block ?_
    | refine WpC.exit ?_
    | refine WpC.ret ?_
    | refine WpO.nil ?_
    | refine WpO.cons rfl rfl (WpX.pure (fun _ => rfl) ⟨nolog, ?_⟩)
    | refine WpO.skip rfl rfl ?_
    | refine WpL.cons rfl rfl (WpX.pure (fun _ => rfl) ⟨nolog, ?_⟩)
    | refine WpL.skip rfl rfl ?_
    | refine seqQ_normal ?_
    | refine seqQ_ret ?_
    | refine seqQ_exit ?_
    | refine blkQ_normal ?_
    | refine blkQ_ret ?_
    | refine blkQ_out rfl ?_
    | refine blkQ_by rfl ?_)
  refine WpC.loop ?_
  refine WpLoop.ind (X := Nat) (fun i e h' c' => (∃ b0, e = MapI.set (MapI.set (MapI.set b0 0 (.slice s O.length cap)) 1 (I k)) 7 (I i)) ∧ i ≤ O.length ∧ (∀ j q, j < i → O[j]? = some q → q.1 ≠ k) ∧ h' = h ∧ c' = c) (fun i => O.length - i) ?_ 0 _ _ _ ⟨set3 rfl rfl rfl, Nat.zero_le _, fun j q hj => by omega, rfl, rfl⟩
  rintro i e h' c' ⟨⟨b0, rfl⟩, hi, hb, rfl, rfl⟩
  repeat' (first
    | refine WpC.seq ?_
    | refine WpC.region ?_
    | refine WpC.drawn ?_
    | refine WpC.skip ?_
    | refine WpC.block ?_
    | refine WpC.exit ?_
    | refine WpC.ret ?_
    | refine WpO.nil ?_
    | refine WpO.cons rfl rfl (WpX.pure (fun _ => rfl) ⟨nolog, ?_⟩)
    | refine WpO.skip rfl rfl ?_
    | refine WpL.cons rfl rfl (WpX.pure (fun _ => rfl) ⟨nolog, ?_⟩)
    | refine WpL.skip rfl rfl ?_
    | refine seqQ_normal ?_
    | refine seqQ_ret ?_
    | refine seqQ_exit ?_
    | refine blkQ_normal ?_
    | refine blkQ_ret ?_
    | refine blkQ_out rfl ?_
    | refine blkQ_by rfl ?_
    | refine WpO.cons rfl rfl (op_len rfl rfl rfl ⟨(by simp [InL, Acc.name, rowName] <;> omega), ?_⟩)
    | refine WpL.cons rfl rfl (op_len rfl rfl rfl ⟨(by simp [InL, Acc.name, rowName] <;> omega), ?_⟩))
  refine WpC.cond rfl (fun hlti => ?_) (fun hge => ?_)
  case refine_2 =>
    have hge : O.length ≤ i := by simpa using hge
    have hno : O.lookup k = none := nil_at fun j q hj => hb j q (by omega)
    repeat' (first
      | refine WpC.seq ?_
      | refine WpC.region ?_
      | refine WpC.drawn ?_
      | refine WpC.skip ?_
      | refine WpC.block ?_
      | refine WpC.exit ?_
      | refine WpC.ret ?_
      | refine WpO.nil ?_
      | refine WpO.cons rfl rfl (WpX.pure (fun _ => rfl) ⟨nolog, ?_⟩)
      | refine WpO.skip rfl rfl ?_
      | refine WpL.cons rfl rfl (WpX.pure (fun _ => rfl) ⟨nolog, ?_⟩)
      | refine WpL.skip rfl rfl ?_
      | refine seqQ_normal ?_
      | refine seqQ_ret ?_
      | refine seqQ_exit ?_
      | refine blkQ_normal ?_
      | refine blkQ_ret ?_
      | refine blkQ_out rfl ?_
      | refine blkQ_by rfl ?_)
    refine out_ret rfl ⟨fun _ _ => rfl, _, by rw [hno]; rfl, by rw [eraG_none hno]; exact rS, fun n hn => .inl hn⟩
  have hlti : i < O.length := by simpa using hlti
  obtain ⟨hcap, sn, cl, junk, hsn', hsn, hg, _⟩ := hs i hlti
  subst hcap
  subst hsn'
  obtain ⟨⟨z, y⟩, hz⟩ : ∃ z, O[i]? = some z := ⟨_, List.getElem?_eq_getElem hlti⟩
  obtain ⟨p0, p1, _⟩ := pair_at hz junk
  have hw1 : IntKind.i64.wrap ((i : Int) + 1) = ((i + 1 : Nat) : Int) := by rw [Go.IntWalk.i64_in _ (by omega)]; omega
  repeat' (first
    | refine WpC.seq ?_
    | refine WpC.region ?_
    | refine WpC.drawn ?_
    | refine WpC.skip ?_
    | refine WpC.block ?_
    | refine WpC.exit ?_
    | refine WpC.ret ?_
    | refine WpO.nil ?_
    | refine WpO.cons rfl rfl (WpX.pure (fun _ => rfl) ⟨nolog, ?_⟩)
    | refine WpO.skip rfl rfl ?_
    | refine WpL.cons rfl rfl (WpX.pure (fun _ => rfl) ⟨nolog, ?_⟩)
    | refine WpL.skip rfl rfl ?_
    | refine seqQ_normal ?_
    | refine seqQ_ret ?_
    | refine seqQ_exit ?_
    | refine blkQ_normal ?_
    | refine blkQ_ret ?_
    | refine blkQ_out rfl ?_
    | refine blkQ_by rfl ?_
    | refine WpO.cons rfl rfl (op_indexAddr (k := 2) rfl rfl rfl rfl ⟨by omega, by omega⟩ ⟨(by simp [InL, Acc.name, rowName] <;> omega), ?_⟩)
    | refine WpL.cons rfl rfl (op_indexAddr (k := 2) rfl rfl rfl rfl ⟨by omega, by omega⟩ ⟨(by simp [InL, Acc.name, rowName] <;> omega), ?_⟩)
    | refine WpO.cons rfl rfl (op_load rfl rfl rfl hg p0 ⟨(by simp [InL, Acc.name, rowName] <;> omega), ?_⟩)
    | refine WpL.cons rfl rfl (op_load rfl rfl rfl hg p0 ⟨(by simp [InL, Acc.name, rowName] <;> omega), ?_⟩))
  refine WpC.cond rfl (fun heq => ?_) (fun hne => ?_)
  case refine_2 =>
    have hne : z ≠ k := by simpa using hne
    repeat' (first
      | refine WpC.seq ?_
      | refine WpC.region ?_
      | refine WpC.drawn ?_
      | refine WpC.skip ?_
      | refine WpC.block ?_
      | refine WpC.exit ?_
      | refine WpC.ret ?_
      | refine WpO.nil ?_
      | refine WpO.cons rfl rfl (WpX.pure (fun _ => rfl) ⟨nolog, ?_⟩)
      | refine WpO.skip rfl rfl ?_
      | refine WpL.cons rfl rfl (WpX.pure (fun _ => rfl) ⟨nolog, ?_⟩)
      | refine WpL.skip rfl rfl ?_
      | refine seqQ_normal ?_
      | refine seqQ_ret ?_
      | refine seqQ_exit ?_
      | refine blkQ_normal ?_
      | refine blkQ_ret ?_
      | refine blkQ_out rfl ?_
      | refine blkQ_by rfl ?_)
    refine ⟨i + 1, by omega, ?_, by omega, fun j q hj hq => ?_, rfl, rfl⟩
    · rw [hw1]
      exact set3 rfl rfl rfl
    · by_cases e : j = i
      · subst e; rw [hz] at hq; cases hq; exact hne
      · exact hb j q (by omega) hq
  have heq : z = k := by simpa using heq
  subst heq
  obtain ⟨hlk, hera⟩ := era_at hz hb
  repeat' (first
    | refine WpC.seq ?_
    | refine WpC.region ?_
    | refine WpC.drawn ?_
    | refine WpC.skip ?_
    | refine WpC.block ?_
    | refine WpC.exit ?_
    | refine WpC.ret ?_
    | refine WpO.nil ?_
    | refine WpO.cons rfl rfl (WpX.pure (fun _ => rfl) ⟨nolog, ?_⟩)
    | refine WpO.skip rfl rfl ?_
    | refine WpL.cons rfl rfl (WpX.pure (fun _ => rfl) ⟨nolog, ?_⟩)
    | refine WpL.skip rfl rfl ?_
    | refine seqQ_normal ?_
    | refine seqQ_ret ?_
    | refine seqQ_exit ?_
    | refine blkQ_normal ?_
    | refine blkQ_ret ?_
    | refine blkQ_out rfl ?_
    | refine blkQ_by rfl ?_)
  refine WpL.cons rfl rfl (op_take (k := 1) rS pair_len rfl rfl rfl rfl rfl (by omega) fun w1 hw1' hn1 => ⟨nolog, ?_⟩)
  refine WpL.cons rfl rfl (append_sub (xs := []) rfl rfl elW rfl pair_len pair_all .nil hw1' (by simp; omega) (fun a ha => .inl (hn1 a ha)) (fun a ha => (by cases ha)) (.inr (by simp [Acc.name])) fun v2 h2 c2 al2 hl2 hn2 hc2 hf2 hal2 => ?_)
  have nv2 : ∀ a ∈ rowName v2, c' ≤ a := fun a ha => by
    rcases hn2 a ha with h | ⟨h, _⟩
    · cases h
    · omega
  have e2 : ∀ n, n < c' → MapI.get h2 n = MapI.get h' n := fun n hn => hf2 n (by omega) (fun hm => by cases hm)
  have r3 : ListOf 2 pairV h2 c2 (.slice (some (sn, 0)) O.length (.upTo 2)) O := rS.keep (by omega) fun n hn _ => e2 n hn
  repeat' (first
    | refine WpC.seq ?_
    | refine WpC.region ?_
    | refine WpC.drawn ?_
    | refine WpC.skip ?_
    | refine WpC.block ?_
    | refine WpC.exit ?_
    | refine WpC.ret ?_
    | refine WpO.nil ?_
    | refine WpO.cons rfl rfl (WpX.pure (fun _ => rfl) ⟨nolog, ?_⟩)
    | refine WpO.skip rfl rfl ?_
    | refine WpL.cons rfl rfl (WpX.pure (fun _ => rfl) ⟨nolog, ?_⟩)
    | refine WpL.skip rfl rfl ?_
    | refine seqQ_normal ?_
    | refine seqQ_ret ?_
    | refine seqQ_exit ?_
    | refine blkQ_normal ?_
    | refine blkQ_ret ?_
    | refine blkQ_out rfl ?_
    | refine blkQ_by rfl ?_)
  refine WpL.cons rfl rfl (op_drop (k := 1) (i := i + 1) r3 pair_len rfl rfl hw1 rfl rfl (by omega) fun w4 hw4 hn4 => ⟨nolog, ?_⟩)
  refine WpL.cons rfl rfl (append_sub rfl rfl elW rfl pair_len pair_all hl2 hw4 (by simp; omega) (fun a ha => .inl (hn4 a ha)) (fun a ha => by have := nv2 a ha; exact ⟨.inr (by simp [Acc.name]; omega), .inr (by simp [Acc.name]; omega)⟩) (.inr (by simp [Acc.name]; omega)) fun v5 h5 c5 al5 hl5 hn5 hc5 hf5 hal5 => ?_)
  have e5 : ∀ n, n < c' → MapI.get h5 n = MapI.get h' n := fun n hn => by
    rw [hf5 n (by omega) (fun hm => by have := nv2 n hm; omega)]; exact e2 n hn
  have hg5 := (e5 sn hsn).trans hg
  repeat' (first
    | refine WpC.seq ?_
    | refine WpC.region ?_
    | refine WpC.drawn ?_
    | refine WpC.skip ?_
    | refine WpC.block ?_
    | refine WpC.exit ?_
    | refine WpC.ret ?_
    | refine WpO.nil ?_
    | refine WpO.cons rfl rfl (WpX.pure (fun _ => rfl) ⟨nolog, ?_⟩)
    | refine WpO.skip rfl rfl ?_
    | refine WpL.cons rfl rfl (WpX.pure (fun _ => rfl) ⟨nolog, ?_⟩)
    | refine WpL.skip rfl rfl ?_
    | refine seqQ_normal ?_
    | refine seqQ_ret ?_
    | refine seqQ_exit ?_
    | refine blkQ_normal ?_
    | refine blkQ_ret ?_
    | refine blkQ_out rfl ?_
    | refine blkQ_by rfl ?_
    | refine WpO.cons rfl rfl (op_indexAddr (k := 2) rfl rfl rfl rfl ⟨by omega, by omega⟩ ⟨(by simp [InL, Acc.name, rowName] <;> omega), ?_⟩)
    | refine WpL.cons rfl rfl (op_indexAddr (k := 2) rfl rfl rfl rfl ⟨by omega, by omega⟩ ⟨(by simp [InL, Acc.name, rowName] <;> omega), ?_⟩)
    | refine WpO.cons rfl rfl (op_load rfl rfl rfl hg5 p1 ⟨(by simp [InL, Acc.name, rowName] <;> omega), ?_⟩)
    | refine WpL.cons rfl rfl (op_load rfl rfl rfl hg5 p1 ⟨(by simp [InL, Acc.name, rowName] <;> omega), ?_⟩))
  have w2 : ∀ x ∈ al2, x.name = sn → x.writes = false := fun x hx e => by
    rcases hal2 x hx with ⟨_, h⟩ | h | ⟨h, h'⟩
    · exact h
    · cases h
    · omega
  have w2' : ∀ x ∈ al2, sn = x.name → x.writes = false := fun x hx e => w2 x hx e.symm
  have w5 : ∀ x ∈ al5, x.name = sn → x.writes = false := fun x hx e => by
    rcases hal5 x hx with ⟨_, h⟩ | h | ⟨h, h'⟩
    · exact h
    · have := nv2 _ h; omega
    · omega
  have w5' : ∀ x ∈ al5, sn = x.name → x.writes = false := fun x hx e => w5 x hx e.symm
  refine WpL.nil (logsOk_of (cs := [0, 0, 3, 7, 0, 0, 32, 112, 255, 0, 0, 1536, 3584, 7680, 511, 32767, 65535]) (by decide +kernel) ?_) ?_
  · simp +contextual [allP, apP, Dis, acc_rd, acc_wr, accw_rd, accw_wr, Nat.testBit, w2, w2', w5, w5']
  repeat' (first
    | refine WpC.seq ?_
    | refine WpC.region ?_
    | refine WpC.drawn ?_
    | refine WpC.skip ?_
    | refine WpC.block ?_
    | refine WpC.exit ?_
    | refine WpC.ret ?_
    | refine WpO.nil ?_
    | refine WpO.cons rfl rfl (WpX.pure (fun _ => rfl) ⟨nolog, ?_⟩)
    | refine WpO.skip rfl rfl ?_
    | refine WpL.cons rfl rfl (WpX.pure (fun _ => rfl) ⟨nolog, ?_⟩)
    | refine WpL.skip rfl rfl ?_
    | refine seqQ_normal ?_
    | refine seqQ_ret ?_
    | refine seqQ_exit ?_
    | refine blkQ_normal ?_
    | refine blkQ_ret ?_
    | refine blkQ_out rfl ?_
    | refine blkQ_by rfl ?_)
  refine out_ret rfl ⟨e5, v5, by rw [hlk]; rfl, ?_, fun n hn => ?_⟩
  · rw [hera]
    simpa using hl5
  · rcases hn5 n hn with h | ⟨h, _⟩
    · exact .inr (nv2 n h)
    · exact .inr (by omega)
def intD (cx : Cx) (t : Nat) : Bool := match cx.desc t with
  | some (.int _) => true
  | _ => false
/-- A struct of two whole numbers, at which == is the plain one. -/
def pairOk (cx : Cx) (t : Nat) : Bool := match cx.desc t with
  | some (.struct fs) => match fs.toList with
    | [a, b] => cx.eqOk t && (intD cx a.type && (intD cx b.type && (Nat.beq a.offset 0 && (Nat.beq b.offset 1 && (!decide (a.name = "_") && !decide (b.name = "_"))))))
    | _ => false
  | _ => false
theorem intD_part {cx : Cx} {t off : Nat} {cs : List V} (h : intD cx t = true) : partV cx t cs off = nth cs off := by
  unfold intD at h
  unfold partV
  split at h
  · next k hd => rw [hd]; rfl
  · cases h
theorem intD_eq {cx : Cx} {t f : Nat} {a : Int} (h : intD cx t = true) : eqV cx (f + 1) t (I a) (I a) = some true := by
  unfold intD at h
  unfold eqV
  split at h
  · next k hd => rw [hd]; simp
  · cases h
theorem eq_pairOk {cx : Cx} {t : Nat} {a b : Int} (h : pairOk cx t = true) : eqV cx 200 t (.agg [I a, I b]) (.agg [I a, I b]) = some true := by
  unfold pairOk at h
  split at h
  · next fs hd =>
    split at h
    · next f1 f2 hfs =>
      simp only [Bool.and_eq_true, Bool.not_eq_true', decide_eq_false_iff_not] at h
      obtain ⟨h1, h2, h3, h4, h5, h6, h7⟩ := h
      have o1 := Nat.eq_of_beq_eq_true h4
      have o2 := Nat.eq_of_beq_eq_true h5
      unfold eqV
      rw [hd]
      simp only [h1, if_true, hfs]
      unfold eqFs
      simp only [h6, if_false, intD_part h2, o1, nth, intD_eq h2]
      unfold eqFs
      simp only [h7, if_false, intD_part h3, o2, nth, intD_eq h3]
      unfold eqFs
      rfl
    · cases h
  · cases h
theorem pair80 : pairOk cx 80 = true := by kernel_rfl
theorem eq_pair {a b : Int} : eqV cx 200 80 (.agg [I a, I b]) (.agg [I a, I b]) = some true := eq_pairOk pair80
theorem op_neqPair {call : Nat → Tgt → List V → M HH V} {W : V → HH → Nat → List Acc → Prop} {ds : Option Tmp} {ty t2 : Nat} {pos : String} {af : Array Edge} {gd : Option (Nat × Bool)} {e : EE} {x y : Operand} {a b : Int} (hx : ev1 cx e x = some (.agg [I a, I b])) (hy : ev1 cx e y = some (.agg [I a, I b])) (q : W (.bool false) h c []) :
    WpX (fun k => opM cx (call k) e ⟨ds, .binOp .neq 80 x y t2, ty, pos, af, gd⟩) h c W :=
  WpX.pure (fun k' => by
    show bnd (lift "operand" (ev1 cx e x)) (fun a => bnd (lift "operand" (ev1 cx e y)) fun b => binM cx .neq 80 (isConst x || isConst y) a b) h c = _
    rw [hx, hy]
    refine bnd_eq (l := []) (l' := []) lift_eq (bnd_eq (l := []) (l' := []) lift_eq ?_)
    show bnd (eqM cx 80 (.agg [I a, I b]) (.agg [I a, I b])) (fun b => ret (V.bool (!b))) h c = _
    have e1 : eqM cx 80 (.agg [I a, I b]) (.agg [I a, I b]) h c = .ok true h c [] := by
      show (lift "==: not asked here" (eqV cx 200 80 (.agg [I a, I b]) (.agg [I a, I b])) : M HH Bool) h c = _
      rw [eq_pair]; rfl
    exact bnd_eq (l := []) (l' := []) e1 rfl) q
/-- Two equal rows. -/
theorem samew_ok (r : ListOf 2 pairV h c v O) (r' : ListOf 2 pairV h c w O) (hlen : O.length ≤ 1000) : Does 58 [v, w] h c (rowName v ++ rowName w) fun q h' c' => q = .bool true ∧ h' = h ∧ c' = c := by
  obtain ⟨s, cap, rfl, hs⟩ := r.shape
  obtain ⟨s', cap', rfl, hs'⟩ := r'.shape
  refine does_of (enter (fn := Try.f58) Try.func58 rfl rfl (Nat.le_of_ble_eq_true rfl) ?_)
  repeat' (first
    | refine WpC.seq ?_
    | refine WpC.region ?_
    | refine WpC.drawn ?_
    | refine WpC.skip ?_
    | refine WpC.block ?_
    | refine WpC.exit ?_
    | refine WpC.ret ?_
    | refine WpO.nil ?_
    | refine WpO.cons rfl rfl (WpX.pure (fun _ => rfl) ⟨nolog, ?_⟩)
    | refine WpO.skip rfl rfl ?_
    | refine WpL.cons rfl rfl (WpX.pure (fun _ => rfl) ⟨nolog, ?_⟩)
    | refine WpL.skip rfl rfl ?_
    | refine seqQ_normal ?_
    | refine seqQ_ret ?_
    | refine seqQ_exit ?_
    | refine blkQ_normal ?_
    | refine blkQ_ret ?_
    | refine blkQ_out rfl ?_
    | refine blkQ_by rfl ?_
    | refine WpO.cons rfl rfl (op_len rfl rfl rfl ⟨(by simp [InL, Acc.name, rowName] <;> omega), ?_⟩)
    | refine WpL.cons rfl rfl (op_len rfl rfl rfl ⟨(by simp [InL, Acc.name, rowName] <;> omega), ?_⟩))
  simp only [bne_self_eq_false]
  refine WpC.cond rfl (fun hb => by cases hb) (fun _ => ?_)
  repeat' (first
    | refine WpC.seq ?_
    | refine WpC.region ?_
    | refine WpC.drawn ?_
    | refine WpC.skip ?_
    | refine WpC.block ?_
    | refine WpC.exit ?_
    | refine WpC.ret ?_
    | refine WpO.nil ?_
    | refine WpO.cons rfl rfl (WpX.pure (fun _ => rfl) ⟨nolog, ?_⟩)
    | refine WpO.skip rfl rfl ?_
    | refine WpL.cons rfl rfl (WpX.pure (fun _ => rfl) ⟨nolog, ?_⟩)
    | refine WpL.skip rfl rfl ?_
    | refine seqQ_normal ?_
    | refine seqQ_ret ?_
    | refine seqQ_exit ?_
    | refine blkQ_normal ?_
    | refine blkQ_ret ?_
    | refine blkQ_out rfl ?_
    | refine blkQ_by rfl ?_)
  refine WpC.loop ?_
  refine WpLoop.ind (X := Nat) (fun i e h' c' => (∃ b0, e = MapI.set (MapI.set (MapI.set b0 0 (.slice s O.length cap)) 1 (.slice s' O.length cap')) 5 (I i)) ∧ i ≤ O.length ∧ h' = h ∧ c' = c) (fun i => O.length - i) ?_ 0 _ _ _ ⟨set3 rfl rfl rfl, Nat.zero_le _, rfl, rfl⟩
  rintro i e h' c' ⟨⟨b0, rfl⟩, hi, rfl, rfl⟩
  repeat' (first
    | refine WpC.seq ?_
    | refine WpC.region ?_
    | refine WpC.drawn ?_
    | refine WpC.skip ?_
    | refine WpC.block ?_
    | refine WpC.exit ?_
    | refine WpC.ret ?_
    | refine WpO.nil ?_
    | refine WpO.cons rfl rfl (WpX.pure (fun _ => rfl) ⟨nolog, ?_⟩)
    | refine WpO.skip rfl rfl ?_
    | refine WpL.cons rfl rfl (WpX.pure (fun _ => rfl) ⟨nolog, ?_⟩)
    | refine WpL.skip rfl rfl ?_
    | refine seqQ_normal ?_
    | refine seqQ_ret ?_
    | refine seqQ_exit ?_
    | refine blkQ_normal ?_
    | refine blkQ_ret ?_
    | refine blkQ_out rfl ?_
    | refine blkQ_by rfl ?_
    | refine WpO.cons rfl rfl (op_len rfl rfl rfl ⟨(by simp [InL, Acc.name, rowName] <;> omega), ?_⟩)
    | refine WpL.cons rfl rfl (op_len rfl rfl rfl ⟨(by simp [InL, Acc.name, rowName] <;> omega), ?_⟩))
  refine WpC.cond rfl (fun hlt => ?_) (fun hge => ?_)
  case refine_2 =>
    repeat' (first
      | refine WpC.seq ?_
      | refine WpC.region ?_
      | refine WpC.drawn ?_
      | refine WpC.skip ?_
      | refine WpC.block ?_
      | refine WpC.exit ?_
      | refine WpC.ret ?_
      | refine WpO.nil ?_
      | refine WpO.cons rfl rfl (WpX.pure (fun _ => rfl) ⟨nolog, ?_⟩)
      | refine WpO.skip rfl rfl ?_
      | refine WpL.cons rfl rfl (WpX.pure (fun _ => rfl) ⟨nolog, ?_⟩)
      | refine WpL.skip rfl rfl ?_
      | refine seqQ_normal ?_
      | refine seqQ_ret ?_
      | refine seqQ_exit ?_
      | refine blkQ_normal ?_
      | refine blkQ_ret ?_
      | refine blkQ_out rfl ?_
      | refine blkQ_by rfl ?_)
    exact out_ret rfl ⟨rfl, rfl, rfl⟩
  have hlt : i < O.length := by simpa using hlt
  obtain ⟨rfl, sn, cl, junk, rfl, hsn, hg, _⟩ := hs i hlt
  obtain ⟨rfl, sm, cl', junk', rfl, hsm, hg', _⟩ := hs' i hlt
  obtain ⟨⟨z, y⟩, hz⟩ : ∃ z, O[i]? = some z := ⟨_, List.getElem?_eq_getElem hlt⟩
  have hw1 : IntKind.i64.wrap ((i : Int) + 1) = ((i + 1 : Nat) : Int) := by rw [Go.IntWalk.i64_in _ (by omega)]; omega
  have q1 := (pair_at hz junk).2.2
  have q2 := (pair_at hz junk').2.2
  repeat' (first
    | refine WpL.cons rfl rfl (op_neqPair rfl rfl ⟨nolog, ?_⟩)
    | refine WpC.seq ?_
    | refine WpC.region ?_
    | refine WpC.drawn ?_
    | refine WpC.skip ?_
    | refine WpC.block ?_
    | refine WpC.exit ?_
    | refine WpC.ret ?_
    | refine WpO.nil ?_
    | refine WpO.cons rfl rfl (WpX.pure (fun _ => rfl) ⟨nolog, ?_⟩)
    | refine WpO.skip rfl rfl ?_
    | refine WpL.cons rfl rfl (WpX.pure (fun _ => rfl) ⟨nolog, ?_⟩)
    | refine WpL.skip rfl rfl ?_
    | refine seqQ_normal ?_
    | refine seqQ_ret ?_
    | refine seqQ_exit ?_
    | refine blkQ_normal ?_
    | refine blkQ_ret ?_
    | refine blkQ_out rfl ?_
    | refine blkQ_by rfl ?_
    | refine WpO.cons rfl rfl (op_indexAddr (k := 2) rfl rfl rfl rfl ⟨by omega, by omega⟩ ⟨(by simp [InL, Acc.name, rowName] <;> omega), ?_⟩)
    | refine WpL.cons rfl rfl (op_indexAddr (k := 2) rfl rfl rfl rfl ⟨by omega, by omega⟩ ⟨(by simp [InL, Acc.name, rowName] <;> omega), ?_⟩)
    | refine WpO.cons rfl rfl (op_loadA rfl rfl rfl rfl hg q1 ⟨(by simp [InL, Acc.name, rowName] <;> omega), ?_⟩)
    | refine WpL.cons rfl rfl (op_loadA rfl rfl rfl rfl hg q1 ⟨(by simp [InL, Acc.name, rowName] <;> omega), ?_⟩)
    | refine WpO.cons rfl rfl (op_loadA rfl rfl rfl rfl hg' q2 ⟨(by simp [InL, Acc.name, rowName] <;> omega), ?_⟩)
    | refine WpL.cons rfl rfl (op_loadA rfl rfl rfl rfl hg' q2 ⟨(by simp [InL, Acc.name, rowName] <;> omega), ?_⟩))
  refine WpL.nil (logsOk_reads (by simp only [List.nil_append, List.cons_append, anyWrite, List.any_nil, List.any_cons, accw_rd, Bool.or_self])) ?_
  refine WpC.cond rfl (fun hb => by cases hb) (fun _ => ?_)
  repeat' (first
    | refine WpC.seq ?_
    | refine WpC.region ?_
    | refine WpC.drawn ?_
    | refine WpC.skip ?_
    | refine WpC.block ?_
    | refine WpC.exit ?_
    | refine WpC.ret ?_
    | refine WpO.nil ?_
    | refine WpO.cons rfl rfl (WpX.pure (fun _ => rfl) ⟨nolog, ?_⟩)
    | refine WpO.skip rfl rfl ?_
    | refine WpL.cons rfl rfl (WpX.pure (fun _ => rfl) ⟨nolog, ?_⟩)
    | refine WpL.skip rfl rfl ?_
    | refine seqQ_normal ?_
    | refine seqQ_ret ?_
    | refine seqQ_exit ?_
    | refine blkQ_normal ?_
    | refine blkQ_ret ?_
    | refine blkQ_out rfl ?_
    | refine blkQ_by rfl ?_)
  refine ⟨i + 1, by omega, ?_, by omega, rfl, rfl⟩
  rw [hw1]
  exact set3 rfl rfl rfl
set_option maxHeartbeats 8000000 in
/-- A row, turned. -/
theorem watches_ok (r : ListOf 2 pairV h c v O) (hlen : O.length ≤ 1000) : Does 59 [v] h c (rowName v) fun q h' c' => ListOf 2 pairV h' c' q O ∧ (∀ x, x < c → MapI.get h' x = MapI.get h x) ∧ ∀ x ∈ rowName q, c ≤ x := by
  have hlt := r.lt
  obtain ⟨s, cap, rfl, hs⟩ := r.shape
  refine does_of (enter (fn := Try.f59) Try.func59 rfl rfl (Nat.le_of_ble_eq_true rfl) ?_)
  repeat' (first
    | refine WpC.seq ?_
    | refine WpC.region ?_
    | refine WpC.drawn ?_
    | refine WpC.skip ?_
    | refine WpC.block ?_
    | refine WpC.exit ?_
    | refine WpC.ret ?_
    | refine WpO.nil ?_
    | refine WpO.cons rfl rfl (WpX.pure (fun _ => rfl) ⟨nolog, ?_⟩)
    | refine WpO.skip rfl rfl ?_
    | refine WpL.cons rfl rfl (WpX.pure (fun _ => rfl) ⟨nolog, ?_⟩)
    | refine WpL.skip rfl rfl ?_
    | refine seqQ_normal ?_
    | refine seqQ_ret ?_
    | refine seqQ_exit ?_
    | refine blkQ_normal ?_
    | refine blkQ_ret ?_
    | refine blkQ_out rfl ?_
    | refine blkQ_by rfl ?_)
  refine WpC.loop ?_
  refine WpLoop.ind (X := Nat × V) (fun x e h' c' => (∃ b0, e = MapI.set (MapI.set (MapI.set b0 0 (.slice s O.length cap)) 3 x.2) 4 (I x.1)) ∧ x.1 ≤ O.length ∧ ListOf 2 pairV h' c' x.2 (O.take x.1) ∧ (∀ n ∈ rowName x.2, c ≤ n) ∧ (∀ n, n < c → MapI.get h' n = MapI.get h n) ∧ c ≤ c') (fun x => O.length - x.1) ?_ (0, .slice none 0 (.known 0)) _ _ _ ⟨set3 rfl rfl rfl, Nat.zero_le _, .nil, fun n hn => (by cases hn), fun _ _ => rfl, Nat.le_refl _⟩
  rintro ⟨i, acc⟩ e h' c' ⟨⟨b0, rfl⟩, hi, hacc, hna, hold, hcc⟩
  simp only at hi hacc hna
  repeat' (first
    | refine WpC.seq ?_
    | refine WpC.region ?_
    | refine WpC.drawn ?_
    | refine WpC.skip ?_
    | refine WpC.block ?_
    | refine WpC.exit ?_
    | refine WpC.ret ?_
    | refine WpO.nil ?_
    | refine WpO.cons rfl rfl (WpX.pure (fun _ => rfl) ⟨nolog, ?_⟩)
    | refine WpO.skip rfl rfl ?_
    | refine WpL.cons rfl rfl (WpX.pure (fun _ => rfl) ⟨nolog, ?_⟩)
    | refine WpL.skip rfl rfl ?_
    | refine seqQ_normal ?_
    | refine seqQ_ret ?_
    | refine seqQ_exit ?_
    | refine blkQ_normal ?_
    | refine blkQ_ret ?_
    | refine blkQ_out rfl ?_
    | refine blkQ_by rfl ?_
    | refine WpO.cons rfl rfl (op_len rfl rfl rfl ⟨(by simp [InL, Acc.name, rowName] <;> omega), ?_⟩)
    | refine WpL.cons rfl rfl (op_len rfl rfl rfl ⟨(by simp [InL, Acc.name, rowName] <;> omega), ?_⟩))
  refine WpC.cond rfl (fun hlti => ?_) (fun hge => ?_)
  case refine_2 =>
    have hge : O.length ≤ i := by simpa using hge
    rw [List.take_of_length_le hge] at hacc
    repeat' (first
      | refine WpC.seq ?_
      | refine WpC.region ?_
      | refine WpC.drawn ?_
      | refine WpC.skip ?_
      | refine WpC.block ?_
      | refine WpC.exit ?_
      | refine WpC.ret ?_
      | refine WpO.nil ?_
      | refine WpO.cons rfl rfl (WpX.pure (fun _ => rfl) ⟨nolog, ?_⟩)
      | refine WpO.skip rfl rfl ?_
      | refine WpL.cons rfl rfl (WpX.pure (fun _ => rfl) ⟨nolog, ?_⟩)
      | refine WpL.skip rfl rfl ?_
      | refine seqQ_normal ?_
      | refine seqQ_ret ?_
      | refine seqQ_exit ?_
      | refine blkQ_normal ?_
      | refine blkQ_ret ?_
      | refine blkQ_out rfl ?_
      | refine blkQ_by rfl ?_)
    exact out_ret rfl ⟨hacc, hold, hna⟩
  have hlti : i < O.length := by simpa using hlti
  obtain ⟨rfl, sn, cl, junk, rfl, hsn, hg, _⟩ := hs i hlti
  have hg' := (hold sn hsn).trans hg
  obtain ⟨⟨z, y⟩, hz⟩ : ∃ z, O[i]? = some z := ⟨_, List.getElem?_eq_getElem hlti⟩
  obtain ⟨p0, p1, _⟩ := pair_at hz junk
  have hw1 : IntKind.i64.wrap ((i : Int) + 1) = ((i + 1 : Nat) : Int) := by rw [Go.IntWalk.i64_in _ (by omega)]; omega
  have htk : O.take (i + 1) = O.take i ++ [(z, y)] := by rw [List.take_add_one, hz]; rfl
  have hl2 : ∀ x : AObj, ListOf 2 pairV (MapI.set h' c' x) (c' + 1) acc (O.take i) := fun x => hacc.keep (by omega) fun n hn _ => MapI.get_ne _ _ _ _ (by omega)
  have hll := hacc.lt
  have hlen2 : (O.take i).length ≤ 1000 := by rw [List.length_take]; omega
  have hg2 : ∀ x : AObj, MapI.get (MapI.set h' c' x) c' = some x := fun x => MapI.get_same _ _ _
  repeat' (first
    | refine WpC.seq ?_
    | refine WpC.region ?_
    | refine WpC.drawn ?_
    | refine WpC.skip ?_
    | refine WpC.block ?_
    | refine WpC.exit ?_
    | refine WpC.ret ?_
    | refine WpO.nil ?_
    | refine WpO.cons rfl rfl (WpX.pure (fun _ => rfl) ⟨nolog, ?_⟩)
    | refine WpO.skip rfl rfl ?_
    | refine WpL.cons rfl rfl (WpX.pure (fun _ => rfl) ⟨nolog, ?_⟩)
    | refine WpL.skip rfl rfl ?_
    | refine seqQ_normal ?_
    | refine seqQ_ret ?_
    | refine seqQ_exit ?_
    | refine blkQ_normal ?_
    | refine blkQ_ret ?_
    | refine blkQ_out rfl ?_
    | refine blkQ_by rfl ?_
    | refine WpO.cons rfl rfl (op_indexAddr (k := 2) rfl rfl rfl rfl ⟨by omega, by omega⟩ ⟨(by simp [InL, Acc.name, rowName] <;> omega), ?_⟩)
    | refine WpL.cons rfl rfl (op_indexAddr (k := 2) rfl rfl rfl rfl ⟨by omega, by omega⟩ ⟨(by simp [InL, Acc.name, rowName] <;> omega), ?_⟩)
    | refine WpO.cons rfl rfl (op_load rfl rfl rfl hg' p0 ⟨(by simp [InL, Acc.name, rowName] <;> omega), ?_⟩)
    | refine WpL.cons rfl rfl (op_load rfl rfl rfl hg' p0 ⟨(by simp [InL, Acc.name, rowName] <;> omega), ?_⟩)
    | refine WpO.cons rfl rfl (op_load rfl rfl rfl hg' p1 ⟨(by simp [InL, Acc.name, rowName] <;> omega), ?_⟩)
    | refine WpL.cons rfl rfl (op_load rfl rfl rfl hg' p1 ⟨(by simp [InL, Acc.name, rowName] <;> omega), ?_⟩)
    | refine WpO.cons rfl rfl (op_buildSlice (k := 2) rfl rfl rfl rfl (by decide) rfl ⟨(by simp [InL, Acc.name, rowName] <;> omega), ?_⟩)
    | refine WpL.cons rfl rfl (op_buildSlice (k := 2) rfl rfl rfl rfl (by decide) rfl ⟨(by simp [InL, Acc.name, rowName] <;> omega), ?_⟩))
  refine WpL.cons rfl rfl (append_sub (ys := [(z, y)]) rfl rfl elW rfl pair_len pair_all (hl2 _) (.inr ⟨c', 0, .known 1, true, true, _, rfl, by omega, hg2 _, rfl⟩) (by simp; omega) (fun a ha => .inr (by simp [rowName] at ha; simp [Acc.name]; omega)) (fun a ha => by have := hna a ha; exact ⟨.inr (by simp [Acc.name]; omega), .inr (by simp [Acc.name]; omega)⟩) (.inr (by simp [Acc.name]; omega)) fun v3 h3 c3 al3 hl3 hn3 hc3 hf3 hal3 => ?_)
  have w3 : ∀ x ∈ al3, x.name ≠ sn := fun x hx e => by
    rcases hal3 x hx with ⟨h, _⟩ | h | ⟨h, h'⟩
    · simp [rowName] at h; omega
    · have := hna _ h; omega
    · omega
  have w3' : ∀ x ∈ al3, sn ≠ x.name := fun x hx e => w3 x hx e.symm
  have hne : sn ≠ c' := by omega
  have hne' : c' ≠ sn := by omega
  repeat' (first
    | refine WpC.seq ?_
    | refine WpC.region ?_
    | refine WpC.drawn ?_
    | refine WpC.skip ?_
    | refine WpC.block ?_
    | refine WpC.exit ?_
    | refine WpC.ret ?_
    | refine WpO.nil ?_
    | refine WpO.cons rfl rfl (WpX.pure (fun _ => rfl) ⟨nolog, ?_⟩)
    | refine WpO.skip rfl rfl ?_
    | refine WpL.cons rfl rfl (WpX.pure (fun _ => rfl) ⟨nolog, ?_⟩)
    | refine WpL.skip rfl rfl ?_
    | refine seqQ_normal ?_
    | refine seqQ_ret ?_
    | refine seqQ_exit ?_
    | refine blkQ_normal ?_
    | refine blkQ_ret ?_
    | refine blkQ_out rfl ?_
    | refine blkQ_by rfl ?_)
  refine WpL.nil (logsOk_of (cs := [0, 0, 0, 6, 14, 30, 0, 0, 192, 448, 960, 2046, 4094, 8191, 16383]) (by decide +kernel) ?_) ?_
  · simp +contextual [allP, apP, Dis, acc_rd, acc_wr, accw_rd, accw_wr, Nat.testBit, w3, w3', hne, hne']
  repeat' (first
    | refine WpC.seq ?_
    | refine WpC.region ?_
    | refine WpC.drawn ?_
    | refine WpC.skip ?_
    | refine WpC.block ?_
    | refine WpC.exit ?_
    | refine WpC.ret ?_
    | refine WpO.nil ?_
    | refine WpO.cons rfl rfl (WpX.pure (fun _ => rfl) ⟨nolog, ?_⟩)
    | refine WpO.skip rfl rfl ?_
    | refine WpL.cons rfl rfl (WpX.pure (fun _ => rfl) ⟨nolog, ?_⟩)
    | refine WpL.skip rfl rfl ?_
    | refine seqQ_normal ?_
    | refine seqQ_ret ?_
    | refine seqQ_exit ?_
    | refine blkQ_normal ?_
    | refine blkQ_ret ?_
    | refine blkQ_out rfl ?_
    | refine blkQ_by rfl ?_)
  refine ⟨(i + 1, v3), by simp only; omega, ?_, by simp only; omega, by rw [htk]; exact hl3, fun n hn => ?_, fun n hn => ?_, by omega⟩
  · rw [hw1]
    exact set3 rfl rfl rfl
  · rcases hn3 n hn with h | ⟨h, _⟩
    · exact hna n h
    · omega
  · rw [hf3 n (by omega) (fun hm => by have := hna n hm; omega), MapI.get_ne _ _ _ _ (by omega)]
    exact hold n hn
end Go.Proofs.Ytempfmkicpifkaa.Ti
