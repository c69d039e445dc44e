/- Ties: the program's own. -/
import Derived.Test.YtempfmkicpifkaaTiW
import Derived.Test.YtempfmkicpifkaaAdTS
set_option linter.unusedVariables false
set_option linter.unusedSectionVars false
set_option linter.unusedSimpArgs false
set_option linter.unnecessarySimpa false
namespace Go.Proofs.Ytempfmkicpifkaa.Ti
open Go.Ab
set_option maxRecDepth 10000
def intV (z : Int) : List V := [I z]
def pairV (p : Int × Int) : List V := [I p.1, I p.2]
theorem int_len (x : Int) : (intV x).length = 1 := rfl
theorem int_all (x : Int) : (intV x).all one1 = true := rfl
theorem pair_len (x : Int × Int) : (pairV x).length = 2 := rfl
theorem pair_all (x : Int × Int) : (pairV x).all one1 = true := rfl
def unitV (_ : Unit) : V := .agg []
theorem elP : ElT cx 67 71 1 := ⟨rfl, rfl, rfl, ⟨_, rfl, by decide⟩⟩
/-- The ties at p: three maps. -/
structure TiesAt (h : HH) (c p a b d : Nat) (L : List (Int × Unit)) (O N : List (Int × Int)) : Prop where
  obj : MapI.get h p = some (.cells true true [.map (some a), .map (some b), .map (some d)])
  links : MapS unitV h a L
  out : MapS I h b O
  inn : MapS I h d N
  lt : p < c ∧ a < c ∧ b < c ∧ d < c
  ne : p ≠ a ∧ p ≠ b ∧ p ≠ d ∧ a ≠ b ∧ a ≠ d ∧ b ≠ d
variable {h h' : HH} {c c' p a b d : Nat} {L : List (Int × Unit)} {O N : List (Int × Int)}
theorem TiesAt.keep (r : TiesAt h c p a b d L O N) (hc : c ≤ c') (e : ∀ n ∈ [p, a, b, d], MapI.get h' n = MapI.get h n) : TiesAt h' c' p a b d L O N :=
  ⟨by rw [e p (by simp)]; exact r.obj, r.links.keep (e a (by simp)), r.out.keep (e b (by simp)), r.inn.keep (e d (by simp)), by have := r.lt; omega, r.ne⟩
theorem nil_map {β : Type} {val : β → V} {h : HH} {a : Nat} (e : MapI.get h a = some (.map true [] 0)) : MapS val h a [] :=
  ⟨[], 0, [], e, ⟨rfl, fun x hx => (by cases hx), List.nodup_nil⟩, List.Perm.refl _, List.Pairwise.nil, fun x hx => (by cases hx), by simp⟩
theorem new_ok : Does 43 [] h c [] fun v h' c' => ∃ p a b d, v = .ptr (some (p, 0)) ∧ c ≤ p ∧ c ≤ a ∧ c ≤ b ∧ c ≤ d ∧ TiesAt h' c' p a b d [] [] [] := by
  refine does_of (enter (fn := Try.f43) Try.func43 rfl rfl (Nat.le_of_ble_eq_true rfl) ?_)
  repeat' (first
    | refine WpC.seq ?_
    | refine WpC.region ?_
    | refine WpC.drawn ?_
    | refine WpC.skip ?_
    | refine WpC.block ?_
    | refine WpC.exit ?_
    | refine WpC.ret ?_
    | refine WpO.nil ?_
    | refine WpO.cons rfl rfl (WpX.pure (fun _ => rfl) ⟨nolog, ?_⟩)
    | refine WpO.skip rfl rfl ?_
    | refine WpL.cons rfl rfl (WpX.pure (fun _ => rfl) ⟨nolog, ?_⟩)
    | refine WpL.skip rfl rfl ?_
    | refine seqQ_normal ?_
    | refine seqQ_ret ?_
    | refine seqQ_exit ?_
    | refine blkQ_normal ?_
    | refine blkQ_ret ?_
    | refine blkQ_out rfl ?_
    | refine blkQ_by rfl ?_
    | refine WpO.cons rfl rfl (op_makeMap rfl ⟨(by simp [InL, Acc.name, rowName] <;> omega), ?_⟩)
    | refine WpL.cons rfl rfl (op_makeMap rfl ⟨(by simp [InL, Acc.name, rowName] <;> omega), ?_⟩)
    | refine WpO.cons rfl rfl (op_box rfl ⟨(by simp [InL, Acc.name, rowName] <;> omega), ?_⟩)
    | refine WpL.cons rfl rfl (op_box rfl ⟨(by simp [InL, Acc.name, rowName] <;> omega), ?_⟩))
  refine out_ret rfl ⟨_, c, c + 1, c + 2, rfl, by omega, by omega, by omega, by omega, MapI.get_same _ _ _, nil_map ?_, nil_map ?_, nil_map ?_, by omega, by omega⟩
  · rw [MapI.get_ne _ _ _ _ (by omega), MapI.get_ne _ _ _ _ (by omega), MapI.get_ne _ _ _ _ (by omega)]; exact MapI.get_same _ _ _
  · rw [MapI.get_ne _ _ _ _ (by omega), MapI.get_ne _ _ _ _ (by omega)]; exact MapI.get_same _ _ _
  · rw [MapI.get_ne _ _ _ _ (by omega)]; exact MapI.get_same _ _ _
theorem ready_ok (r : TiesAt h c p a b d L O N) : Does 111 [.ptr (some (p, 0))] h c [p] fun v h' c' => v = .bool true ∧ h' = h ∧ c' = c := by
  have hobj := r.obj
  refine does_of (enter (fn := Try.f111) Try.func111 rfl rfl (Nat.le_of_ble_eq_true rfl) ?_)
  repeat' (first
    | refine WpC.seq ?_
    | refine WpC.region ?_
    | refine WpC.drawn ?_
    | refine WpC.skip ?_
    | refine WpC.block ?_
    | refine WpC.exit ?_
    | refine WpC.ret ?_
    | refine WpO.nil ?_
    | refine WpO.cons rfl rfl (WpX.pure (fun _ => rfl) ⟨nolog, ?_⟩)
    | refine WpO.skip rfl rfl ?_
    | refine WpL.cons rfl rfl (WpX.pure (fun _ => rfl) ⟨nolog, ?_⟩)
    | refine WpL.skip rfl rfl ?_
    | refine seqQ_normal ?_
    | refine seqQ_ret ?_
    | refine seqQ_exit ?_
    | refine blkQ_normal ?_
    | refine blkQ_ret ?_
    | refine blkQ_out rfl ?_
    | refine blkQ_by rfl ?_)
  refine WpC.cond rfl (fun hb => by cases hb) (fun _ => ?_)
  repeat' (first
    | refine WpC.seq ?_
    | refine WpC.region ?_
    | refine WpC.drawn ?_
    | refine WpC.skip ?_
    | refine WpC.block ?_
    | refine WpC.exit ?_
    | refine WpC.ret ?_
    | refine WpO.nil ?_
    | refine WpO.cons rfl rfl (WpX.pure (fun _ => rfl) ⟨nolog, ?_⟩)
    | refine WpO.skip rfl rfl ?_
    | refine WpL.cons rfl rfl (WpX.pure (fun _ => rfl) ⟨nolog, ?_⟩)
    | refine WpL.skip rfl rfl ?_
    | refine seqQ_normal ?_
    | refine seqQ_ret ?_
    | refine seqQ_exit ?_
    | refine blkQ_normal ?_
    | refine blkQ_ret ?_
    | refine blkQ_out rfl ?_
    | refine blkQ_by rfl ?_
    | refine WpO.cons rfl rfl (op_load rfl rfl rfl hobj rfl ⟨(by simp [InL, Acc.name, rowName] <;> omega), ?_⟩)
    | refine WpL.cons rfl rfl (op_load rfl rfl rfl hobj rfl ⟨(by simp [InL, Acc.name, rowName] <;> omega), ?_⟩))
  refine WpC.cond rfl (fun hb => by cases hb) (fun _ => ?_)
  repeat' (first
    | refine WpC.seq ?_
    | refine WpC.region ?_
    | refine WpC.drawn ?_
    | refine WpC.skip ?_
    | refine WpC.block ?_
    | refine WpC.exit ?_
    | refine WpC.ret ?_
    | refine WpO.nil ?_
    | refine WpO.cons rfl rfl (WpX.pure (fun _ => rfl) ⟨nolog, ?_⟩)
    | refine WpO.skip rfl rfl ?_
    | refine WpL.cons rfl rfl (WpX.pure (fun _ => rfl) ⟨nolog, ?_⟩)
    | refine WpL.skip rfl rfl ?_
    | refine seqQ_normal ?_
    | refine seqQ_ret ?_
    | refine seqQ_exit ?_
    | refine blkQ_normal ?_
    | refine blkQ_ret ?_
    | refine blkQ_out rfl ?_
    | refine blkQ_by rfl ?_)
  exact out_ret rfl ⟨rfl, rfl, rfl⟩
theorem keysA_ok {n : Nat} : Does 116 [.map (some n)] h c [] fun v h' c' => ∃ q, v = .func (.func 137) [] [.ptr (some (q, 0))] ∧ c ≤ q ∧ q < c' ∧ MapI.get h' q = some (.cells true true [.map (some n)]) := by
  refine does_of (enter (fn := Try.f116) Try.func116 rfl rfl (Nat.le_of_ble_eq_true rfl) ?_)
  repeat' (first
    | refine WpC.seq ?_
    | refine WpC.region ?_
    | refine WpC.drawn ?_
    | refine WpC.skip ?_
    | refine WpC.block ?_
    | refine WpC.exit ?_
    | refine WpC.ret ?_
    | refine WpO.nil ?_
    | refine WpO.cons rfl rfl (WpX.pure (fun _ => rfl) ⟨nolog, ?_⟩)
    | refine WpO.skip rfl rfl ?_
    | refine WpL.cons rfl rfl (WpX.pure (fun _ => rfl) ⟨nolog, ?_⟩)
    | refine WpL.skip rfl rfl ?_
    | refine seqQ_normal ?_
    | refine seqQ_ret ?_
    | refine seqQ_exit ?_
    | refine blkQ_normal ?_
    | refine blkQ_ret ?_
    | refine blkQ_out rfl ?_
    | refine blkQ_by rfl ?_
    | refine WpO.cons rfl rfl (op_box rfl ⟨(by simp [InL, Acc.name, rowName] <;> omega), ?_⟩)
    | refine WpL.cons rfl rfl (op_box rfl ⟨(by simp [InL, Acc.name, rowName] <;> omega), ?_⟩))
  exact out_ret rfl ⟨c, rfl, Nat.le_refl _, Nat.lt_succ_self _, MapI.get_same _ _ _⟩
theorem keysB_ok {n : Nat} : Does 134 [.map (some n)] h c [] fun v h' c' => ∃ q, v = .func (.func 156) [] [.ptr (some (q, 0))] ∧ c ≤ q ∧ q < c' ∧ MapI.get h' q = some (.cells true true [.map (some n)]) := by
  refine does_of (enter (fn := Try.f134) Try.func134 rfl rfl (Nat.le_of_ble_eq_true rfl) ?_)
  repeat' (first
    | refine WpC.seq ?_
    | refine WpC.region ?_
    | refine WpC.drawn ?_
    | refine WpC.skip ?_
    | refine WpC.block ?_
    | refine WpC.exit ?_
    | refine WpC.ret ?_
    | refine WpO.nil ?_
    | refine WpO.cons rfl rfl (WpX.pure (fun _ => rfl) ⟨nolog, ?_⟩)
    | refine WpO.skip rfl rfl ?_
    | refine WpL.cons rfl rfl (WpX.pure (fun _ => rfl) ⟨nolog, ?_⟩)
    | refine WpL.skip rfl rfl ?_
    | refine seqQ_normal ?_
    | refine seqQ_ret ?_
    | refine seqQ_exit ?_
    | refine blkQ_normal ?_
    | refine blkQ_ret ?_
    | refine blkQ_out rfl ?_
    | refine blkQ_by rfl ?_
    | refine WpO.cons rfl rfl (op_box rfl ⟨(by simp [InL, Acc.name, rowName] <;> omega), ?_⟩)
    | refine WpL.cons rfl rfl (op_box rfl ⟨(by simp [InL, Acc.name, rowName] <;> omega), ?_⟩))
  exact out_ret rfl ⟨c, rfl, Nat.le_refl _, Nat.lt_succ_self _, MapI.get_same _ _ _⟩
theorem flat_ints : ∀ l : List Int, flat intV l = l.map (V.int .i64)
  | [] => rfl
  | x :: l => by rw [flat_cons, flat_ints l]; rfl
theorem sorted_ok {β : Type} {val : β → V} {S : List (Int × β)} {g n a : Nat} (hg : hasN g [137, 156] = true) (hb : MapI.get h n = some (.cells true true [.map (some a)])) (hm : MapS val h a S) :
    Does 115 [.func (.func g) [] [.ptr (some (n, 0))]] h c [n, a] fun v h' c' => ListOf 1 intV h' c' v (S.map (·.1)) ∧ (∀ x, x < c → MapI.get h' x = MapI.get h x) ∧ ∀ x ∈ rowName v, c ≤ x := by
  obtain ⟨es, ck, ks, h1, h2, h3, h4, h5⟩ := hm.sorts
  refine does_of ?_
  have key : ∀ (k : Nat) (v : V) (h' : HH) (c' : Nat) (l : List Acc), sortedPrim [137, 156] (evFn EE cx pr k) [.func (.func g) [] [.ptr (some (n, 0))]] h c = .ok v h' c' l → cl 115 [.func (.func g) [] [.ptr (some (n, 0))]] (k + 1) h c = .ok v h' c' l := fun k v h' c' l e => e
  cases ks with
  | nil =>
    have hS : S = [] := List.length_eq_zero_iff.1 (by simpa using h5.symm)
    subst hS
    refine ⟨.slice none 0 (.known 0), h, c, [.rd n, .rd a], ⟨by simp [InL, Acc.name], .nil, fun _ _ => rfl, fun x hx => by cases hx⟩, 1, fun k hk => ?_⟩
    obtain ⟨k, rfl⟩ : ∃ i, k = i + 1 := ⟨k - 1, by omega⟩
    refine key _ _ _ _ _ ?_
    unfold sortedPrim
    simp only [hg, if_true]
    refine bnd_eq (l := [.rd n]) (l' := [.rd a]) (getM_eq hb) (bnd_eq (l := [.rd a]) (l' := []) (getM_eq h1) ?_)
    simp only [h2, h3, if_true]
    rfl
  | cons k0 ks =>
    have hl : ks.length + 1 = S.length := by simpa using h5
    refine ⟨.slice (some (c, 0)) (ks.length + 1) (.upTo 1), MapI.set h c (.cells true true ((sortZ (k0 :: ks)).map (V.int .i64))), c + 1, [.rd n, .rd a, .wr c], ⟨by simp [InL, Acc.name], .inr ⟨c, true, [], by simp [hl], Nat.lt_succ_self _, ?_, rfl⟩, fun x hx => MapI.get_ne _ _ _ _ (by omega), fun x hx => by simp [rowName] at hx; omega⟩, 1, fun k hk => ?_⟩
    · rw [MapI.get_same, h4, List.append_nil, flat_ints]
    · obtain ⟨k, rfl⟩ : ∃ i, k = i + 1 := ⟨k - 1, by omega⟩
      refine key _ _ _ _ _ ?_
      unfold sortedPrim
      simp only [hg, if_true]
      refine bnd_eq (l := [.rd n]) (l' := [.rd a, .wr c]) (getM_eq hb) (bnd_eq (l := [.rd a]) (l' := [.wr c]) (getM_eq h1) ?_)
      simp only [h2, h3, if_true]
      rfl
theorem links_ok (r : TiesAt h c p a b d L O N) : Does 57 [.ptr (some (p, 0))] h c [p, a] fun v h' c' => ListOf 1 intV h' c' v (L.map (·.1)) ∧ (∀ x, x < c → MapI.get h' x = MapI.get h x) ∧ ∀ x ∈ rowName v, c ≤ x := by
  have hobj := r.obj
  have hlt := r.lt
  refine does_of (enter (fn := Try.f57) Try.func57 rfl rfl (Nat.le_of_ble_eq_true rfl) ?_)
  repeat' (first
    | refine WpC.seq ?_
    | refine WpC.region ?_
    | refine WpC.drawn ?_
    | refine WpC.skip ?_
    | refine WpC.block ?_
    | refine WpC.exit ?_
    | refine WpC.ret ?_
    | refine WpO.nil ?_
    | refine WpO.cons rfl rfl (WpX.pure (fun _ => rfl) ⟨nolog, ?_⟩)
    | refine WpO.skip rfl rfl ?_
    | refine WpL.cons rfl rfl (WpX.pure (fun _ => rfl) ⟨nolog, ?_⟩)
    | refine WpL.skip rfl rfl ?_
    | refine seqQ_normal ?_
    | refine seqQ_ret ?_
    | refine seqQ_exit ?_
    | refine blkQ_normal ?_
    | refine blkQ_ret ?_
    | refine blkQ_out rfl ?_
    | refine blkQ_by rfl ?_)
  refine WpC.cond rfl (fun hb => by cases hb) (fun _ => ?_)
  repeat' (first
    | refine WpC.seq ?_
    | refine WpC.region ?_
    | refine WpC.drawn ?_
    | refine WpC.skip ?_
    | refine WpC.block ?_
    | refine WpC.exit ?_
    | refine WpC.ret ?_
    | refine WpO.nil ?_
    | refine WpO.cons rfl rfl (WpX.pure (fun _ => rfl) ⟨nolog, ?_⟩)
    | refine WpO.skip rfl rfl ?_
    | refine WpL.cons rfl rfl (WpX.pure (fun _ => rfl) ⟨nolog, ?_⟩)
    | refine WpL.skip rfl rfl ?_
    | refine seqQ_normal ?_
    | refine seqQ_ret ?_
    | refine seqQ_exit ?_
    | refine blkQ_normal ?_
    | refine blkQ_ret ?_
    | refine blkQ_out rfl ?_
    | refine blkQ_by rfl ?_
    | refine WpO.cons rfl rfl (op_load rfl rfl rfl hobj rfl ⟨(by simp [InL, Acc.name, rowName] <;> omega), ?_⟩)
    | refine WpL.cons rfl rfl (op_load rfl rfl rfl hobj rfl ⟨(by simp [InL, Acc.name, rowName] <;> omega), ?_⟩))
  refine WpO.cons rfl rfl (call_at rfl keysA_ok (by simp) (by omega) fun v h1 c1 hc1 hfr1 hq => ?_)
  obtain ⟨q, rfl, hq1, hq2, hg1⟩ := hq
  refine WpO.cons rfl rfl (call_at rfl (sorted_ok (S := L) rfl hg1 (r.links.keep (hfr1 a (by omega) (by simp)))) (fun n hn => by
    simp at hn
    rcases hn with rfl | rfl
    · exact .inr hq1
    · exact .inl (by simp)) (by omega) fun v h2 c2 hc2 hfr2 hq => ?_)
  obtain ⟨h3, h4, h5⟩ := hq
  repeat' (first
    | refine WpC.seq ?_
    | refine WpC.region ?_
    | refine WpC.drawn ?_
    | refine WpC.skip ?_
    | refine WpC.block ?_
    | refine WpC.exit ?_
    | refine WpC.ret ?_
    | refine WpO.nil ?_
    | refine WpO.cons rfl rfl (WpX.pure (fun _ => rfl) ⟨nolog, ?_⟩)
    | refine WpO.skip rfl rfl ?_
    | refine WpL.cons rfl rfl (WpX.pure (fun _ => rfl) ⟨nolog, ?_⟩)
    | refine WpL.skip rfl rfl ?_
    | refine seqQ_normal ?_
    | refine seqQ_ret ?_
    | refine seqQ_exit ?_
    | refine blkQ_normal ?_
    | refine blkQ_ret ?_
    | refine blkQ_out rfl ?_
    | refine blkQ_by rfl ?_)
  exact out_ret rfl ⟨h3, fun x hx => (h4 x (by omega)).trans (hfr1 x hx (by simp)), fun x hx => Nat.le_trans hc1 (h5 x hx)⟩
/-- Where a key is not. -/
theorem MapS.add {β : Type} {val : β → V} {a : Nat} {S : List (Int × β)} {es : List (V × V × Nat)} {ck : Nat} {m : List (Int × β)} {k : Int} {v : β} {x : AObj} (h2 : MapG val es ck m) (h3 : m.Perm S) (h4 : Up S) (h5 : InK S) (h6 : S.length < 1000) (hk : S.lookup k = none)
    (hr : -9223372036854775808 ≤ k ∧ k ≤ 9223372036854775807) (hx : x = .map true (es ++ [(I k, val v, ck)]) (ck + 1)) : MapS val (MapI.set h a x) a (insG (k, v) S) := by
  subst hx
  refine ⟨_, _, m ++ [(k, v)], MapI.get_same _ _ _, h2.add k v, ?_, insG_up h4 hk, fun x hx => ?_, ?_⟩
  · exact (List.perm_append_comm.trans ((h3.cons (k, v)))).trans insG_perm.symm
  · rcases List.mem_cons.1 (insG_perm.mem_iff.1 hx) with rfl | hx
    · exact hr
    · exact h5 x hx
  · have := (insG_perm (x := (k, v)) (l := S)).length_eq
    simp at this; omega
def okK (k : Int) : Prop := -9223372036854775808 ≤ k ∧ k ≤ 9223372036854775807
theorem MapS.look {β : Type} {val : β → V} {a : Nat} {S : List (Int × β)} (r : MapS val h a S) (k : Int) : ∃ es ck m q, MapI.get h a = some (.map true es ck) ∧ MapG val es ck m ∧ m.Perm S ∧ Up S ∧ InK S ∧ S.length ≤ 1000 ∧ findK (I k) es = some q ∧ FoundG val es ck m k q (S.lookup k) := by
  obtain ⟨es, ck, m, h1, h2, h3, h4, h5, h6⟩ := r
  obtain ⟨q, h7, h8⟩ := h2.find (k := k)
  rw [perm_look h3 h4] at h8
  exact ⟨es, ck, m, q, h1, h2, h3, h4, h5, h6, h7, h8⟩
theorem MapS.del {β : Type} {val : β → V} {a : Nat} {S : List (Int × β)} {es : List (V × V × Nat)} {ck : Nat} {m : List (Int × β)} {k : Int} {q : Option (Nat × V × Nat)} {o : Option β} (h2 : MapG val es ck m) (h3 : m.Perm S) (h4 : Up S) (h5 : InK S) (h6 : S.length ≤ 1000) (hf : FoundG val es ck m k q o) (ho : o = S.lookup k) :
    MapS val (MapI.set h a (.map true (delR q es) ck)) a (eraG k S) := by
  refine ⟨_, _, eraG k m, MapI.get_same _ _ _, ?_, perm_era h3 h4 k, eraG_up h4, fun x hx => h5 x (eraG_sub.subset hx), Nat.le_trans (eraG_sub.length_le) h6⟩
  cases hf with
  | no =>
    have : m.lookup k = none := by rw [perm_look h3 h4]; exact ho.symm
    rw [eraG_none this]; exact h2
  | yes h => exact h
theorem TiesAt.setL {es : List (V × V × Nat)} {ck : Nat} {L' : List (Int × Unit)} (r : TiesAt h c p a b d L O N) (hc : c ≤ c') (hm : MapS unitV h' a L') (hf : ∀ n, n < c → n ≠ a → MapI.get h' n = MapI.get h n) : TiesAt h' c' p a b d L' O N := by
  have hlt := r.lt
  have hne := r.ne
  exact ⟨by rw [hf p (by omega) (by omega)]; exact r.obj, hm, r.out.keep (hf b (by omega) (by omega)), r.inn.keep (hf d (by omega) (by omega)), by omega, r.ne⟩
theorem TiesAt.setO {O' : List (Int × Int)} (r : TiesAt h c p a b d L O N) (hc : c ≤ c') (hm : MapS I h' b O') (hf : ∀ n, n < c → n ≠ b → MapI.get h' n = MapI.get h n) : TiesAt h' c' p a b d L O' N := by
  have hlt := r.lt
  have hne := r.ne
  exact ⟨by rw [hf p (by omega) (by omega)]; exact r.obj, r.links.keep (hf a (by omega) (by omega)), hm, r.inn.keep (hf d (by omega) (by omega)), by omega, r.ne⟩
theorem TiesAt.setN {N' : List (Int × Int)} (r : TiesAt h c p a b d L O N) (hc : c ≤ c') (hm : MapS I h' d N') (hf : ∀ n, n < c → n ≠ d → MapI.get h' n = MapI.get h n) : TiesAt h' c' p a b d L O N' := by
  have hlt := r.lt
  have hne := r.ne
  exact ⟨by rw [hf p (by omega) (by omega)]; exact r.obj, r.links.keep (hf a (by omega) (by omega)), r.out.keep (hf b (by omega) (by omega)), hm, by omega, r.ne⟩
theorem link_ok {k : Int} (r : TiesAt h c p a b d L O N) (hk : okK k) (hl : L.length < 1000) : Does 52 [.ptr (some (p, 0)), I k] h c [p, a] fun v h' c' => (L.lookup k ≠ none ∧ v = .bool false ∧ TiesAt h' c' p a b d L O N) ∨ (L.lookup k = none ∧ v = .bool true ∧ TiesAt h' c' p a b d (insG (k, ()) L) O N) := by
  have hobj := r.obj
  have hlt := r.lt
  have hne := r.ne
  refine does_of (enter (fn := Try.f52) Try.func52 rfl rfl (Nat.le_of_ble_eq_true rfl) ?_)
  repeat' (first
    | refine WpC.seq ?_
    | refine WpC.region ?_
    | refine WpC.drawn ?_
    | refine WpC.skip ?_
    | refine WpC.block ?_
    | refine WpC.exit ?_
    | refine WpC.ret ?_
    | refine WpO.nil ?_
    | refine WpO.cons rfl rfl (WpX.pure (fun _ => rfl) ⟨nolog, ?_⟩)
    | refine WpO.skip rfl rfl ?_
    | refine WpL.cons rfl rfl (WpX.pure (fun _ => rfl) ⟨nolog, ?_⟩)
    | refine WpL.skip rfl rfl ?_
    | refine seqQ_normal ?_
    | refine seqQ_ret ?_
    | refine seqQ_exit ?_
    | refine blkQ_normal ?_
    | refine blkQ_ret ?_
    | refine blkQ_out rfl ?_
    | refine blkQ_by rfl ?_)
  refine WpO.cons rfl rfl (call_at rfl (ready_ok r) (fun n hn => .inl (by simp at hn; simp [hn])) (Nat.le_refl _) fun v h1 c1 hc1 hfr1 hq => ?_)
  obtain ⟨rfl, rfl, rfl⟩ := hq
  repeat' (first
    | refine WpC.seq ?_
    | refine WpC.region ?_
    | refine WpC.drawn ?_
    | refine WpC.skip ?_
    | refine WpC.block ?_
    | refine WpC.exit ?_
    | refine WpC.ret ?_
    | refine WpO.nil ?_
    | refine WpO.cons rfl rfl (WpX.pure (fun _ => rfl) ⟨nolog, ?_⟩)
    | refine WpO.skip rfl rfl ?_
    | refine WpL.cons rfl rfl (WpX.pure (fun _ => rfl) ⟨nolog, ?_⟩)
    | refine WpL.skip rfl rfl ?_
    | refine seqQ_normal ?_
    | refine seqQ_ret ?_
    | refine seqQ_exit ?_
    | refine blkQ_normal ?_
    | refine blkQ_ret ?_
    | refine blkQ_out rfl ?_
    | refine blkQ_by rfl ?_)
  refine WpC.cond rfl (fun hb => by cases hb) (fun _ => ?_)
  obtain ⟨es, ck, m, q, h1a, h2, h3, h4, h5, h6, h7, h8⟩ := r.links.look k
  have hgx : ∀ x : AObj, MapI.get (MapI.set h1 c1 x) c1 = some x := fun x => MapI.get_same _ _ _
  generalize ho : L.lookup k = o at h8
  cases h8 with
  | yes hd =>
    repeat' (first
      | refine WpC.seq ?_
      | refine WpC.region ?_
      | refine WpC.drawn ?_
      | refine WpC.skip ?_
      | refine WpC.block ?_
      | refine WpC.exit ?_
      | refine WpC.ret ?_
      | refine WpO.nil ?_
      | refine WpO.cons rfl rfl (WpX.pure (fun _ => rfl) ⟨nolog, ?_⟩)
      | refine WpO.skip rfl rfl ?_
      | refine WpL.cons rfl rfl (WpX.pure (fun _ => rfl) ⟨nolog, ?_⟩)
      | refine WpL.skip rfl rfl ?_
      | refine seqQ_normal ?_
      | refine seqQ_ret ?_
      | refine seqQ_exit ?_
      | refine blkQ_normal ?_
      | refine blkQ_ret ?_
      | refine blkQ_out rfl ?_
      | refine blkQ_by rfl ?_
      | refine WpO.cons rfl rfl (op_load rfl rfl rfl hobj rfl ⟨(by simp [InL, Acc.name, rowName] <;> omega), ?_⟩)
      | refine WpL.cons rfl rfl (op_load rfl rfl rfl hobj rfl ⟨(by simp [InL, Acc.name, rowName] <;> omega), ?_⟩)
      | refine WpO.cons rfl rfl (op_lookup rfl rfl rfl rfl rfl rfl h1a h7 ⟨(by simp [InL, Acc.name, rowName] <;> omega), ?_⟩)
      | refine WpL.cons rfl rfl (op_lookup rfl rfl rfl rfl rfl rfl h1a h7 ⟨(by simp [InL, Acc.name, rowName] <;> omega), ?_⟩)
      | refine WpO.cons rfl rfl (op_alloc rfl ⟨(by simp [InL, Acc.name, rowName] <;> omega), ?_⟩)
      | refine WpL.cons rfl rfl (op_alloc rfl ⟨(by simp [InL, Acc.name, rowName] <;> omega), ?_⟩)
      | refine WpO.cons rfl rfl (op_store (k := 0) rfl rfl rfl rfl (hgx _) (Nat.zero_le _) rfl ⟨(by simp [InL, Acc.name, rowName] <;> omega), ?_⟩)
      | refine WpL.cons rfl rfl (op_store (k := 0) rfl rfl rfl rfl (hgx _) (Nat.zero_le _) rfl ⟨(by simp [InL, Acc.name, rowName] <;> omega), ?_⟩))
    refine WpC.cond rfl (fun _ => ?_) (fun hb => by cases hb)
    repeat' (first
      | refine WpC.seq ?_
      | refine WpC.region ?_
      | refine WpC.drawn ?_
      | refine WpC.skip ?_
      | refine WpC.block ?_
      | refine WpC.exit ?_
      | refine WpC.ret ?_
      | refine WpO.nil ?_
      | refine WpO.cons rfl rfl (WpX.pure (fun _ => rfl) ⟨nolog, ?_⟩)
      | refine WpO.skip rfl rfl ?_
      | refine WpL.cons rfl rfl (WpX.pure (fun _ => rfl) ⟨nolog, ?_⟩)
      | refine WpL.skip rfl rfl ?_
      | refine seqQ_normal ?_
      | refine seqQ_ret ?_
      | refine seqQ_exit ?_
      | refine blkQ_normal ?_
      | refine blkQ_ret ?_
      | refine blkQ_out rfl ?_
      | refine blkQ_by rfl ?_)
    refine out_ret rfl (.inl ⟨by simp, rfl, r.keep (by omega) fun n hn => ?_⟩)
    simp at hn
    rw [MapI.get_ne _ _ _ _ (by omega), MapI.get_ne _ _ _ _ (by omega)]
  | no =>
    have hgy : ∀ x y : AObj, MapI.get (MapI.set (MapI.set h1 c1 x) c1 y) a = some (.map true es ck) := fun x y => by rw [MapI.get_ne _ _ _ _ (by omega), MapI.get_ne _ _ _ _ (by omega)]; exact h1a
    have hgz : ∀ x y : AObj, MapI.get (MapI.set (MapI.set h1 c1 x) c1 y) p = some (.cells true true [.map (some a), .map (some b), .map (some d)]) := fun x y => by rw [MapI.get_ne _ _ _ _ (by omega), MapI.get_ne _ _ _ _ (by omega)]; exact hobj
    repeat' (first
      | refine WpC.seq ?_
      | refine WpC.region ?_
      | refine WpC.drawn ?_
      | refine WpC.skip ?_
      | refine WpC.block ?_
      | refine WpC.exit ?_
      | refine WpC.ret ?_
      | refine WpO.nil ?_
      | refine WpO.cons rfl rfl (WpX.pure (fun _ => rfl) ⟨nolog, ?_⟩)
      | refine WpO.skip rfl rfl ?_
      | refine WpL.cons rfl rfl (WpX.pure (fun _ => rfl) ⟨nolog, ?_⟩)
      | refine WpL.skip rfl rfl ?_
      | refine seqQ_normal ?_
      | refine seqQ_ret ?_
      | refine seqQ_exit ?_
      | refine blkQ_normal ?_
      | refine blkQ_ret ?_
      | refine blkQ_out rfl ?_
      | refine blkQ_by rfl ?_
      | refine WpO.cons rfl rfl (op_load rfl rfl rfl hobj rfl ⟨(by simp [InL, Acc.name, rowName] <;> omega), ?_⟩)
      | refine WpL.cons rfl rfl (op_load rfl rfl rfl hobj rfl ⟨(by simp [InL, Acc.name, rowName] <;> omega), ?_⟩)
      | refine WpO.cons rfl rfl (op_lookup rfl rfl rfl rfl rfl rfl h1a h7 ⟨(by simp [InL, Acc.name, rowName] <;> omega), ?_⟩)
      | refine WpL.cons rfl rfl (op_lookup rfl rfl rfl rfl rfl rfl h1a h7 ⟨(by simp [InL, Acc.name, rowName] <;> omega), ?_⟩)
      | refine WpO.cons rfl rfl (op_alloc rfl ⟨(by simp [InL, Acc.name, rowName] <;> omega), ?_⟩)
      | refine WpL.cons rfl rfl (op_alloc rfl ⟨(by simp [InL, Acc.name, rowName] <;> omega), ?_⟩)
      | refine WpO.cons rfl rfl (op_store (k := 0) rfl rfl rfl rfl (hgx _) (Nat.zero_le _) rfl ⟨(by simp [InL, Acc.name, rowName] <;> omega), ?_⟩)
      | refine WpL.cons rfl rfl (op_store (k := 0) rfl rfl rfl rfl (hgx _) (Nat.zero_le _) rfl ⟨(by simp [InL, Acc.name, rowName] <;> omega), ?_⟩))
    refine WpC.cond rfl (fun hb => by cases hb) (fun _ => ?_)
    repeat' (first
      | refine WpC.seq ?_
      | refine WpC.region ?_
      | refine WpC.drawn ?_
      | refine WpC.skip ?_
      | refine WpC.block ?_
      | refine WpC.exit ?_
      | refine WpC.ret ?_
      | refine WpO.nil ?_
      | refine WpO.cons rfl rfl (WpX.pure (fun _ => rfl) ⟨nolog, ?_⟩)
      | refine WpO.skip rfl rfl ?_
      | refine WpL.cons rfl rfl (WpX.pure (fun _ => rfl) ⟨nolog, ?_⟩)
      | refine WpL.skip rfl rfl ?_
      | refine seqQ_normal ?_
      | refine seqQ_ret ?_
      | refine seqQ_exit ?_
      | refine blkQ_normal ?_
      | refine blkQ_ret ?_
      | refine blkQ_out rfl ?_
      | refine blkQ_by rfl ?_
      | refine WpO.cons rfl rfl (op_load rfl rfl rfl (hgz _ _) rfl ⟨(by simp [InL, Acc.name, rowName] <;> omega), ?_⟩)
      | refine WpL.cons rfl rfl (op_load rfl rfl rfl (hgz _ _) rfl ⟨(by simp [InL, Acc.name, rowName] <;> omega), ?_⟩)
      | refine WpO.cons rfl rfl (op_mapNew rfl rfl rfl rfl rfl rfl (hgy _ _) h7 ⟨(by simp [InL, Acc.name, rowName] <;> omega), ?_⟩)
      | refine WpL.cons rfl rfl (op_mapNew rfl rfl rfl rfl rfl rfl (hgy _ _) h7 ⟨(by simp [InL, Acc.name, rowName] <;> omega), ?_⟩))
    refine out_ret rfl (.inr ⟨rfl, rfl, r.setL (es := es) (ck := ck) (by omega) (MapS.add (v := ()) h2 h3 h4 h5 hl ho hk rfl) fun n hn hna => ?_⟩)
    rw [MapI.get_ne _ _ _ _ (by omega), MapI.get_ne _ _ _ _ (by omega), MapI.get_ne _ _ _ _ (by omega)]
theorem unlink_ok {k : Int} (r : TiesAt h c p a b d L O N) : Does 50 [.ptr (some (p, 0)), I k] h c [p, a] fun v h' c' => v = .bool (L.lookup k).isSome ∧ TiesAt h' c' p a b d (eraG k L) O N := by
  have hobj := r.obj
  have hlt := r.lt
  have hne := r.ne
  refine does_of (enter (fn := Try.f50) Try.func50 rfl rfl (Nat.le_of_ble_eq_true rfl) ?_)
  repeat' (first
    | refine WpC.seq ?_
    | refine WpC.region ?_
    | refine WpC.drawn ?_
    | refine WpC.skip ?_
    | refine WpC.block ?_
    | refine WpC.exit ?_
    | refine WpC.ret ?_
    | refine WpO.nil ?_
    | refine WpO.cons rfl rfl (WpX.pure (fun _ => rfl) ⟨nolog, ?_⟩)
    | refine WpO.skip rfl rfl ?_
    | refine WpL.cons rfl rfl (WpX.pure (fun _ => rfl) ⟨nolog, ?_⟩)
    | refine WpL.skip rfl rfl ?_
    | refine seqQ_normal ?_
    | refine seqQ_ret ?_
    | refine seqQ_exit ?_
    | refine blkQ_normal ?_
    | refine blkQ_ret ?_
    | refine blkQ_out rfl ?_
    | refine blkQ_by rfl ?_)
  refine WpO.cons rfl rfl (call_at rfl (ready_ok r) (fun n hn => .inl (by simp at hn; simp [hn])) (Nat.le_refl _) fun v h1 c1 hc1 hfr1 hq => ?_)
  obtain ⟨rfl, rfl, rfl⟩ := hq
  repeat' (first
    | refine WpC.seq ?_
    | refine WpC.region ?_
    | refine WpC.drawn ?_
    | refine WpC.skip ?_
    | refine WpC.block ?_
    | refine WpC.exit ?_
    | refine WpC.ret ?_
    | refine WpO.nil ?_
    | refine WpO.cons rfl rfl (WpX.pure (fun _ => rfl) ⟨nolog, ?_⟩)
    | refine WpO.skip rfl rfl ?_
    | refine WpL.cons rfl rfl (WpX.pure (fun _ => rfl) ⟨nolog, ?_⟩)
    | refine WpL.skip rfl rfl ?_
    | refine seqQ_normal ?_
    | refine seqQ_ret ?_
    | refine seqQ_exit ?_
    | refine blkQ_normal ?_
    | refine blkQ_ret ?_
    | refine blkQ_out rfl ?_
    | refine blkQ_by rfl ?_)
  refine WpC.cond rfl (fun hb => by cases hb) (fun _ => ?_)
  obtain ⟨es, ck, m, q, h1a, h2, h3, h4, h5, h6, h7, h8⟩ := r.links.look k
  have hgx : ∀ x : AObj, MapI.get (MapI.set h1 c1 x) c1 = some x := fun x => MapI.get_same _ _ _
  have hgy : ∀ x y : AObj, MapI.get (MapI.set (MapI.set h1 c1 x) c1 y) a = some (.map true es ck) := fun x y => by rw [MapI.get_ne _ _ _ _ (by omega), MapI.get_ne _ _ _ _ (by omega)]; exact h1a
  have hgz : ∀ x y : AObj, MapI.get (MapI.set (MapI.set h1 c1 x) c1 y) p = some (.cells true true [.map (some a), .map (some b), .map (some d)]) := fun x y => by rw [MapI.get_ne _ _ _ _ (by omega), MapI.get_ne _ _ _ _ (by omega)]; exact hobj
  have hdel := fun x y => MapS.del (h := MapI.set (MapI.set h1 c1 x) c1 y) (a := a) h2 h3 h4 h5 h6 h8 rfl
  have hof : ∀ (x y z : AObj), ∀ n, n < c1 → n ≠ a → MapI.get (MapI.set (MapI.set (MapI.set h1 c1 x) c1 y) a z) n = MapI.get h1 n := fun x y z n hn hna => by
    rw [MapI.get_ne _ _ _ _ (by omega), MapI.get_ne _ _ _ _ (by omega), MapI.get_ne _ _ _ _ (by omega)]
  generalize ho : L.lookup k = o at h8
  cases h8 with
  | yes hd =>
    repeat' (first
      | refine WpC.seq ?_
      | refine WpC.region ?_
      | refine WpC.drawn ?_
      | refine WpC.skip ?_
      | refine WpC.block ?_
      | refine WpC.exit ?_
      | refine WpC.ret ?_
      | refine WpO.nil ?_
      | refine WpO.cons rfl rfl (WpX.pure (fun _ => rfl) ⟨nolog, ?_⟩)
      | refine WpO.skip rfl rfl ?_
      | refine WpL.cons rfl rfl (WpX.pure (fun _ => rfl) ⟨nolog, ?_⟩)
      | refine WpL.skip rfl rfl ?_
      | refine seqQ_normal ?_
      | refine seqQ_ret ?_
      | refine seqQ_exit ?_
      | refine blkQ_normal ?_
      | refine blkQ_ret ?_
      | refine blkQ_out rfl ?_
      | refine blkQ_by rfl ?_
      | refine WpO.cons rfl rfl (op_load rfl rfl rfl hobj rfl ⟨(by simp [InL, Acc.name, rowName] <;> omega), ?_⟩)
      | refine WpL.cons rfl rfl (op_load rfl rfl rfl hobj rfl ⟨(by simp [InL, Acc.name, rowName] <;> omega), ?_⟩)
      | refine WpO.cons rfl rfl (op_lookup rfl rfl rfl rfl rfl rfl h1a h7 ⟨(by simp [InL, Acc.name, rowName] <;> omega), ?_⟩)
      | refine WpL.cons rfl rfl (op_lookup rfl rfl rfl rfl rfl rfl h1a h7 ⟨(by simp [InL, Acc.name, rowName] <;> omega), ?_⟩)
      | refine WpO.cons rfl rfl (op_alloc rfl ⟨(by simp [InL, Acc.name, rowName] <;> omega), ?_⟩)
      | refine WpL.cons rfl rfl (op_alloc rfl ⟨(by simp [InL, Acc.name, rowName] <;> omega), ?_⟩)
      | refine WpO.cons rfl rfl (op_store (k := 0) rfl rfl rfl rfl (hgx _) (Nat.zero_le _) rfl ⟨(by simp [InL, Acc.name, rowName] <;> omega), ?_⟩)
      | refine WpL.cons rfl rfl (op_store (k := 0) rfl rfl rfl rfl (hgx _) (Nat.zero_le _) rfl ⟨(by simp [InL, Acc.name, rowName] <;> omega), ?_⟩)
      | refine WpO.cons rfl rfl (op_load rfl rfl rfl (hgz _ _) rfl ⟨(by simp [InL, Acc.name, rowName] <;> omega), ?_⟩)
      | refine WpL.cons rfl rfl (op_load rfl rfl rfl (hgz _ _) rfl ⟨(by simp [InL, Acc.name, rowName] <;> omega), ?_⟩)
      | refine WpO.cons rfl rfl (op_delete rfl rfl rfl rfl rfl (hgy _ _) h7 ⟨(by simp [InL, Acc.name, rowName] <;> omega), ?_⟩)
      | refine WpL.cons rfl rfl (op_delete rfl rfl rfl rfl rfl (hgy _ _) h7 ⟨(by simp [InL, Acc.name, rowName] <;> omega), ?_⟩))
    exact out_ret rfl ⟨rfl, r.setL (es := es) (ck := ck) (by omega) (hdel _ _) (hof _ _ _)⟩
  | no =>
    repeat' (first
      | refine WpC.seq ?_
      | refine WpC.region ?_
      | refine WpC.drawn ?_
      | refine WpC.skip ?_
      | refine WpC.block ?_
      | refine WpC.exit ?_
      | refine WpC.ret ?_
      | refine WpO.nil ?_
      | refine WpO.cons rfl rfl (WpX.pure (fun _ => rfl) ⟨nolog, ?_⟩)
      | refine WpO.skip rfl rfl ?_
      | refine WpL.cons rfl rfl (WpX.pure (fun _ => rfl) ⟨nolog, ?_⟩)
      | refine WpL.skip rfl rfl ?_
      | refine seqQ_normal ?_
      | refine seqQ_ret ?_
      | refine seqQ_exit ?_
      | refine blkQ_normal ?_
      | refine blkQ_ret ?_
      | refine blkQ_out rfl ?_
      | refine blkQ_by rfl ?_
      | refine WpO.cons rfl rfl (op_load rfl rfl rfl hobj rfl ⟨(by simp [InL, Acc.name, rowName] <;> omega), ?_⟩)
      | refine WpL.cons rfl rfl (op_load rfl rfl rfl hobj rfl ⟨(by simp [InL, Acc.name, rowName] <;> omega), ?_⟩)
      | refine WpO.cons rfl rfl (op_lookup rfl rfl rfl rfl rfl rfl h1a h7 ⟨(by simp [InL, Acc.name, rowName] <;> omega), ?_⟩)
      | refine WpL.cons rfl rfl (op_lookup rfl rfl rfl rfl rfl rfl h1a h7 ⟨(by simp [InL, Acc.name, rowName] <;> omega), ?_⟩)
      | refine WpO.cons rfl rfl (op_alloc rfl ⟨(by simp [InL, Acc.name, rowName] <;> omega), ?_⟩)
      | refine WpL.cons rfl rfl (op_alloc rfl ⟨(by simp [InL, Acc.name, rowName] <;> omega), ?_⟩)
      | refine WpO.cons rfl rfl (op_store (k := 0) rfl rfl rfl rfl (hgx _) (Nat.zero_le _) rfl ⟨(by simp [InL, Acc.name, rowName] <;> omega), ?_⟩)
      | refine WpL.cons rfl rfl (op_store (k := 0) rfl rfl rfl rfl (hgx _) (Nat.zero_le _) rfl ⟨(by simp [InL, Acc.name, rowName] <;> omega), ?_⟩)
      | refine WpO.cons rfl rfl (op_load rfl rfl rfl (hgz _ _) rfl ⟨(by simp [InL, Acc.name, rowName] <;> omega), ?_⟩)
      | refine WpL.cons rfl rfl (op_load rfl rfl rfl (hgz _ _) rfl ⟨(by simp [InL, Acc.name, rowName] <;> omega), ?_⟩)
      | refine WpO.cons rfl rfl (op_delete rfl rfl rfl rfl rfl (hgy _ _) h7 ⟨(by simp [InL, Acc.name, rowName] <;> omega), ?_⟩)
      | refine WpL.cons rfl rfl (op_delete rfl rfl rfl rfl rfl (hgy _ _) h7 ⟨(by simp [InL, Acc.name, rowName] <;> omega), ?_⟩))
    exact out_ret rfl ⟨rfl, r.setL (es := es) (ck := ck) (by omega) (hdel _ _) (hof _ _ _)⟩
theorem add_ok {k v : Int} {S : List (Int × Int)} (r : MapS I h a S) (ha : a < c) (hk : okK k) (hl : S.length < 1000) : Does 112 [.map (some a), I k, I v] h c [a] fun v' h' c' => (S.lookup k ≠ none ∧ v' = .bool false ∧ h' = h ∧ c' = c) ∨ (S.lookup k = none ∧ v' = .bool true ∧ c' = c ∧ MapS I h' a (insG (k, v) S)) := by
  refine does_of (enter (fn := Try.f112) Try.func112 rfl rfl (Nat.le_of_ble_eq_true rfl) ?_)
  obtain ⟨es, ck, m, q, h1a, h2, h3, h4, h5, h6, h7, h8⟩ := r.look k
  generalize ho : S.lookup k = o at h8
  cases h8 with
  | yes hd =>
    repeat' (first
      | refine WpC.seq ?_
      | refine WpC.region ?_
      | refine WpC.drawn ?_
      | refine WpC.skip ?_
      | refine WpC.block ?_
      | refine WpC.exit ?_
      | refine WpC.ret ?_
      | refine WpO.nil ?_
      | refine WpO.cons rfl rfl (WpX.pure (fun _ => rfl) ⟨nolog, ?_⟩)
      | refine WpO.skip rfl rfl ?_
      | refine WpL.cons rfl rfl (WpX.pure (fun _ => rfl) ⟨nolog, ?_⟩)
      | refine WpL.skip rfl rfl ?_
      | refine seqQ_normal ?_
      | refine seqQ_ret ?_
      | refine seqQ_exit ?_
      | refine blkQ_normal ?_
      | refine blkQ_ret ?_
      | refine blkQ_out rfl ?_
      | refine blkQ_by rfl ?_
      | refine WpO.cons rfl rfl (op_lookup rfl rfl rfl rfl rfl rfl h1a h7 ⟨(by simp [InL, Acc.name, rowName] <;> omega), ?_⟩)
      | refine WpL.cons rfl rfl (op_lookup rfl rfl rfl rfl rfl rfl h1a h7 ⟨(by simp [InL, Acc.name, rowName] <;> omega), ?_⟩))
    refine WpC.cond rfl (fun _ => ?_) (fun hb => by cases hb)
    repeat' (first
      | refine WpC.seq ?_
      | refine WpC.region ?_
      | refine WpC.drawn ?_
      | refine WpC.skip ?_
      | refine WpC.block ?_
      | refine WpC.exit ?_
      | refine WpC.ret ?_
      | refine WpO.nil ?_
      | refine WpO.cons rfl rfl (WpX.pure (fun _ => rfl) ⟨nolog, ?_⟩)
      | refine WpO.skip rfl rfl ?_
      | refine WpL.cons rfl rfl (WpX.pure (fun _ => rfl) ⟨nolog, ?_⟩)
      | refine WpL.skip rfl rfl ?_
      | refine seqQ_normal ?_
      | refine seqQ_ret ?_
      | refine seqQ_exit ?_
      | refine blkQ_normal ?_
      | refine blkQ_ret ?_
      | refine blkQ_out rfl ?_
      | refine blkQ_by rfl ?_)
    exact out_ret rfl (.inl ⟨by simp, rfl, rfl, rfl⟩)
  | no =>
    repeat' (first
      | refine WpC.seq ?_
      | refine WpC.region ?_
      | refine WpC.drawn ?_
      | refine WpC.skip ?_
      | refine WpC.block ?_
      | refine WpC.exit ?_
      | refine WpC.ret ?_
      | refine WpO.nil ?_
      | refine WpO.cons rfl rfl (WpX.pure (fun _ => rfl) ⟨nolog, ?_⟩)
      | refine WpO.skip rfl rfl ?_
      | refine WpL.cons rfl rfl (WpX.pure (fun _ => rfl) ⟨nolog, ?_⟩)
      | refine WpL.skip rfl rfl ?_
      | refine seqQ_normal ?_
      | refine seqQ_ret ?_
      | refine seqQ_exit ?_
      | refine blkQ_normal ?_
      | refine blkQ_ret ?_
      | refine blkQ_out rfl ?_
      | refine blkQ_by rfl ?_
      | refine WpO.cons rfl rfl (op_lookup rfl rfl rfl rfl rfl rfl h1a h7 ⟨(by simp [InL, Acc.name, rowName] <;> omega), ?_⟩)
      | refine WpL.cons rfl rfl (op_lookup rfl rfl rfl rfl rfl rfl h1a h7 ⟨(by simp [InL, Acc.name, rowName] <;> omega), ?_⟩))
    refine WpC.cond rfl (fun hb => by cases hb) (fun _ => ?_)
    repeat' (first
      | refine WpC.seq ?_
      | refine WpC.region ?_
      | refine WpC.drawn ?_
      | refine WpC.skip ?_
      | refine WpC.block ?_
      | refine WpC.exit ?_
      | refine WpC.ret ?_
      | refine WpO.nil ?_
      | refine WpO.cons rfl rfl (WpX.pure (fun _ => rfl) ⟨nolog, ?_⟩)
      | refine WpO.skip rfl rfl ?_
      | refine WpL.cons rfl rfl (WpX.pure (fun _ => rfl) ⟨nolog, ?_⟩)
      | refine WpL.skip rfl rfl ?_
      | refine seqQ_normal ?_
      | refine seqQ_ret ?_
      | refine seqQ_exit ?_
      | refine blkQ_normal ?_
      | refine blkQ_ret ?_
      | refine blkQ_out rfl ?_
      | refine blkQ_by rfl ?_
      | refine WpO.cons rfl rfl (op_mapNew rfl rfl rfl rfl rfl rfl h1a h7 ⟨(by simp [InL, Acc.name, rowName] <;> omega), ?_⟩)
      | refine WpL.cons rfl rfl (op_mapNew rfl rfl rfl rfl rfl rfl h1a h7 ⟨(by simp [InL, Acc.name, rowName] <;> omega), ?_⟩))
    exact out_ret rfl (.inr ⟨rfl, rfl, rfl, MapS.add h2 h3 h4 h5 hl ho hk rfl⟩)
theorem watch_ok {k v : Int} (r : TiesAt h c p a b d L O N) (hk : okK k) (hl : O.length < 1000) : Does 44 [.ptr (some (p, 0)), I k, I v] h c [p, b] fun v' h' c' => (O.lookup k ≠ none ∧ v' = .bool false ∧ TiesAt h' c' p a b d L O N) ∨ (O.lookup k = none ∧ v' = .bool true ∧ TiesAt h' c' p a b d L (insG (k, v) O) N) := by
  have hobj := r.obj
  have hlt := r.lt
  refine does_of (enter (fn := Try.f44) Try.func44 rfl rfl (Nat.le_of_ble_eq_true rfl) ?_)
  repeat' (first
    | refine WpC.seq ?_
    | refine WpC.region ?_
    | refine WpC.drawn ?_
    | refine WpC.skip ?_
    | refine WpC.block ?_
    | refine WpC.exit ?_
    | refine WpC.ret ?_
    | refine WpO.nil ?_
    | refine WpO.cons rfl rfl (WpX.pure (fun _ => rfl) ⟨nolog, ?_⟩)
    | refine WpO.skip rfl rfl ?_
    | refine WpL.cons rfl rfl (WpX.pure (fun _ => rfl) ⟨nolog, ?_⟩)
    | refine WpL.skip rfl rfl ?_
    | refine seqQ_normal ?_
    | refine seqQ_ret ?_
    | refine seqQ_exit ?_
    | refine blkQ_normal ?_
    | refine blkQ_ret ?_
    | refine blkQ_out rfl ?_
    | refine blkQ_by rfl ?_)
  refine WpO.cons rfl rfl (call_at rfl (ready_ok r) (fun n hn => .inl (by simp at hn; simp [hn])) (Nat.le_refl _) fun v h1 c1 hc1 hfr1 hq => ?_)
  obtain ⟨rfl, rfl, rfl⟩ := hq
  repeat' (first
    | refine WpC.seq ?_
    | refine WpC.region ?_
    | refine WpC.drawn ?_
    | refine WpC.skip ?_
    | refine WpC.block ?_
    | refine WpC.exit ?_
    | refine WpC.ret ?_
    | refine WpO.nil ?_
    | refine WpO.cons rfl rfl (WpX.pure (fun _ => rfl) ⟨nolog, ?_⟩)
    | refine WpO.skip rfl rfl ?_
    | refine WpL.cons rfl rfl (WpX.pure (fun _ => rfl) ⟨nolog, ?_⟩)
    | refine WpL.skip rfl rfl ?_
    | refine seqQ_normal ?_
    | refine seqQ_ret ?_
    | refine seqQ_exit ?_
    | refine blkQ_normal ?_
    | refine blkQ_ret ?_
    | refine blkQ_out rfl ?_
    | refine blkQ_by rfl ?_
    | refine WpO.cons rfl rfl (op_load rfl rfl rfl hobj rfl ⟨(by simp [InL, Acc.name, rowName] <;> omega), ?_⟩)
    | refine WpL.cons rfl rfl (op_load rfl rfl rfl hobj rfl ⟨(by simp [InL, Acc.name, rowName] <;> omega), ?_⟩))
  refine WpO.cons rfl rfl (call_at rfl (add_ok r.out (by omega) hk hl) (fun n hn => .inl (by simp at hn; simp [hn])) (Nat.le_refl _) fun v2 h2 c2 hc2 hfr2 hq => ?_)
  rcases hq with ⟨h3, rfl, rfl, rfl⟩ | ⟨h3, rfl, rfl, h4⟩
  ·
    repeat' (first
      | refine WpC.seq ?_
      | refine WpC.region ?_
      | refine WpC.drawn ?_
      | refine WpC.skip ?_
      | refine WpC.block ?_
      | refine WpC.exit ?_
      | refine WpC.ret ?_
      | refine WpO.nil ?_
      | refine WpO.cons rfl rfl (WpX.pure (fun _ => rfl) ⟨nolog, ?_⟩)
      | refine WpO.skip rfl rfl ?_
      | refine WpL.cons rfl rfl (WpX.pure (fun _ => rfl) ⟨nolog, ?_⟩)
      | refine WpL.skip rfl rfl ?_
      | refine seqQ_normal ?_
      | refine seqQ_ret ?_
      | refine seqQ_exit ?_
      | refine blkQ_normal ?_
      | refine blkQ_ret ?_
      | refine blkQ_out rfl ?_
      | refine blkQ_by rfl ?_)
    exact out_ret rfl (.inl ⟨h3, rfl, r⟩)
  ·
    repeat' (first
      | refine WpC.seq ?_
      | refine WpC.region ?_
      | refine WpC.drawn ?_
      | refine WpC.skip ?_
      | refine WpC.block ?_
      | refine WpC.exit ?_
      | refine WpC.ret ?_
      | refine WpO.nil ?_
      | refine WpO.cons rfl rfl (WpX.pure (fun _ => rfl) ⟨nolog, ?_⟩)
      | refine WpO.skip rfl rfl ?_
      | refine WpL.cons rfl rfl (WpX.pure (fun _ => rfl) ⟨nolog, ?_⟩)
      | refine WpL.skip rfl rfl ?_
      | refine seqQ_normal ?_
      | refine seqQ_ret ?_
      | refine seqQ_exit ?_
      | refine blkQ_normal ?_
      | refine blkQ_ret ?_
      | refine blkQ_out rfl ?_
      | refine blkQ_by rfl ?_)
    exact out_ret rfl (.inr ⟨h3, rfl, r.setO hc2 h4 fun n hn hne => hfr2 n hn (by simpa using hne)⟩)
theorem watched_ok {k v : Int} (r : TiesAt h c p a b d L O N) (hk : okK k) (hl : N.length < 1000) : Does 45 [.ptr (some (p, 0)), I k, I v] h c [p, d] fun v' h' c' => (N.lookup k ≠ none ∧ v' = .bool false ∧ TiesAt h' c' p a b d L O N) ∨ (N.lookup k = none ∧ v' = .bool true ∧ TiesAt h' c' p a b d L O (insG (k, v) N)) := by
  have hobj := r.obj
  have hlt := r.lt
  refine does_of (enter (fn := Try.f45) Try.func45 rfl rfl (Nat.le_of_ble_eq_true rfl) ?_)
  repeat' (first
    | refine WpC.seq ?_
    | refine WpC.region ?_
    | refine WpC.drawn ?_
    | refine WpC.skip ?_
    | refine WpC.block ?_
    | refine WpC.exit ?_
    | refine WpC.ret ?_
    | refine WpO.nil ?_
    | refine WpO.cons rfl rfl (WpX.pure (fun _ => rfl) ⟨nolog, ?_⟩)
    | refine WpO.skip rfl rfl ?_
    | refine WpL.cons rfl rfl (WpX.pure (fun _ => rfl) ⟨nolog, ?_⟩)
    | refine WpL.skip rfl rfl ?_
    | refine seqQ_normal ?_
    | refine seqQ_ret ?_
    | refine seqQ_exit ?_
    | refine blkQ_normal ?_
    | refine blkQ_ret ?_
    | refine blkQ_out rfl ?_
    | refine blkQ_by rfl ?_)
  refine WpO.cons rfl rfl (call_at rfl (ready_ok r) (fun n hn => .inl (by simp at hn; simp [hn])) (Nat.le_refl _) fun v h1 c1 hc1 hfr1 hq => ?_)
  obtain ⟨rfl, rfl, rfl⟩ := hq
  repeat' (first
    | refine WpC.seq ?_
    | refine WpC.region ?_
    | refine WpC.drawn ?_
    | refine WpC.skip ?_
    | refine WpC.block ?_
    | refine WpC.exit ?_
    | refine WpC.ret ?_
    | refine WpO.nil ?_
    | refine WpO.cons rfl rfl (WpX.pure (fun _ => rfl) ⟨nolog, ?_⟩)
    | refine WpO.skip rfl rfl ?_
    | refine WpL.cons rfl rfl (WpX.pure (fun _ => rfl) ⟨nolog, ?_⟩)
    | refine WpL.skip rfl rfl ?_
    | refine seqQ_normal ?_
    | refine seqQ_ret ?_
    | refine seqQ_exit ?_
    | refine blkQ_normal ?_
    | refine blkQ_ret ?_
    | refine blkQ_out rfl ?_
    | refine blkQ_by rfl ?_
    | refine WpO.cons rfl rfl (op_load rfl rfl rfl hobj rfl ⟨(by simp [InL, Acc.name, rowName] <;> omega), ?_⟩)
    | refine WpL.cons rfl rfl (op_load rfl rfl rfl hobj rfl ⟨(by simp [InL, Acc.name, rowName] <;> omega), ?_⟩))
  refine WpO.cons rfl rfl (call_at rfl (add_ok r.inn (by omega) hk hl) (fun n hn => .inl (by simp at hn; simp [hn])) (Nat.le_refl _) fun v2 h2 c2 hc2 hfr2 hq => ?_)
  rcases hq with ⟨h3, rfl, rfl, rfl⟩ | ⟨h3, rfl, rfl, h4⟩
  ·
    repeat' (first
      | refine WpC.seq ?_
      | refine WpC.region ?_
      | refine WpC.drawn ?_
      | refine WpC.skip ?_
      | refine WpC.block ?_
      | refine WpC.exit ?_
      | refine WpC.ret ?_
      | refine WpO.nil ?_
      | refine WpO.cons rfl rfl (WpX.pure (fun _ => rfl) ⟨nolog, ?_⟩)
      | refine WpO.skip rfl rfl ?_
      | refine WpL.cons rfl rfl (WpX.pure (fun _ => rfl) ⟨nolog, ?_⟩)
      | refine WpL.skip rfl rfl ?_
      | refine seqQ_normal ?_
      | refine seqQ_ret ?_
      | refine seqQ_exit ?_
      | refine blkQ_normal ?_
      | refine blkQ_ret ?_
      | refine blkQ_out rfl ?_
      | refine blkQ_by rfl ?_)
    exact out_ret rfl (.inl ⟨h3, rfl, r⟩)
  ·
    repeat' (first
      | refine WpC.seq ?_
      | refine WpC.region ?_
      | refine WpC.drawn ?_
      | refine WpC.skip ?_
      | refine WpC.block ?_
      | refine WpC.exit ?_
      | refine WpC.ret ?_
      | refine WpO.nil ?_
      | refine WpO.cons rfl rfl (WpX.pure (fun _ => rfl) ⟨nolog, ?_⟩)
      | refine WpO.skip rfl rfl ?_
      | refine WpL.cons rfl rfl (WpX.pure (fun _ => rfl) ⟨nolog, ?_⟩)
      | refine WpL.skip rfl rfl ?_
      | refine seqQ_normal ?_
      | refine seqQ_ret ?_
      | refine seqQ_exit ?_
      | refine blkQ_normal ?_
      | refine blkQ_ret ?_
      | refine blkQ_out rfl ?_
      | refine blkQ_by rfl ?_)
    exact out_ret rfl (.inr ⟨h3, rfl, r.setN hc2 h4 fun n hn hne => hfr2 n hn (by simpa using hne)⟩)
theorem unwatch_ok {k : Int} (r : TiesAt h c p a b d L O N) : Does 48 [.ptr (some (p, 0)), I k] h c [p, b] fun v h' c' => v = .tuple [I ((O.lookup k).getD 0), .bool (O.lookup k).isSome] ∧ TiesAt h' c' p a b d L (eraG k O) N := by
  have hobj := r.obj
  have hlt := r.lt
  refine does_of (enter (fn := Try.f48) Try.func48 rfl rfl (Nat.le_of_ble_eq_true rfl) ?_)
  obtain ⟨es, ck, m, q, h1a, h2, h3, h4, h5, h6, h7, h8⟩ := r.out.look k
  have hdel := MapS.del (h := h) (a := b) h2 h3 h4 h5 h6 h8 rfl
  have hof : ∀ (z : AObj), ∀ n, n < c → n ≠ b → MapI.get (MapI.set h b z) n = MapI.get h n := fun z n hn hna => MapI.get_ne _ _ _ _ (Ne.symm hna)
  repeat' (first
    | refine WpC.seq ?_
    | refine WpC.region ?_
    | refine WpC.drawn ?_
    | refine WpC.skip ?_
    | refine WpC.block ?_
    | refine WpC.exit ?_
    | refine WpC.ret ?_
    | refine WpO.nil ?_
    | refine WpO.cons rfl rfl (WpX.pure (fun _ => rfl) ⟨nolog, ?_⟩)
    | refine WpO.skip rfl rfl ?_
    | refine WpL.cons rfl rfl (WpX.pure (fun _ => rfl) ⟨nolog, ?_⟩)
    | refine WpL.skip rfl rfl ?_
    | refine seqQ_normal ?_
    | refine seqQ_ret ?_
    | refine seqQ_exit ?_
    | refine blkQ_normal ?_
    | refine blkQ_ret ?_
    | refine blkQ_out rfl ?_
    | refine blkQ_by rfl ?_)
  refine WpC.cond rfl (fun hb => by cases hb) (fun _ => ?_)
  generalize ho : O.lookup k = o at h8
  cases h8 with
  | yes hd =>
    repeat' (first
      | refine WpC.seq ?_
      | refine WpC.region ?_
      | refine WpC.drawn ?_
      | refine WpC.skip ?_
      | refine WpC.block ?_
      | refine WpC.exit ?_
      | refine WpC.ret ?_
      | refine WpO.nil ?_
      | refine WpO.cons rfl rfl (WpX.pure (fun _ => rfl) ⟨nolog, ?_⟩)
      | refine WpO.skip rfl rfl ?_
      | refine WpL.cons rfl rfl (WpX.pure (fun _ => rfl) ⟨nolog, ?_⟩)
      | refine WpL.skip rfl rfl ?_
      | refine seqQ_normal ?_
      | refine seqQ_ret ?_
      | refine seqQ_exit ?_
      | refine blkQ_normal ?_
      | refine blkQ_ret ?_
      | refine blkQ_out rfl ?_
      | refine blkQ_by rfl ?_
      | refine WpO.cons rfl rfl (op_load rfl rfl rfl hobj rfl ⟨(by simp [InL, Acc.name, rowName] <;> omega), ?_⟩)
      | refine WpL.cons rfl rfl (op_load rfl rfl rfl hobj rfl ⟨(by simp [InL, Acc.name, rowName] <;> omega), ?_⟩)
      | refine WpO.cons rfl rfl (op_lookup rfl rfl rfl rfl rfl rfl h1a h7 ⟨(by simp [InL, Acc.name, rowName] <;> omega), ?_⟩)
      | refine WpL.cons rfl rfl (op_lookup rfl rfl rfl rfl rfl rfl h1a h7 ⟨(by simp [InL, Acc.name, rowName] <;> omega), ?_⟩)
      | refine WpO.cons rfl rfl (op_delete rfl rfl rfl rfl rfl h1a h7 ⟨(by simp [InL, Acc.name, rowName] <;> omega), ?_⟩)
      | refine WpL.cons rfl rfl (op_delete rfl rfl rfl rfl rfl h1a h7 ⟨(by simp [InL, Acc.name, rowName] <;> omega), ?_⟩))
    exact out_ret rfl ⟨rfl, r.setO (Nat.le_refl _) hdel (hof _)⟩
  | no =>
    repeat' (first
      | refine WpC.seq ?_
      | refine WpC.region ?_
      | refine WpC.drawn ?_
      | refine WpC.skip ?_
      | refine WpC.block ?_
      | refine WpC.exit ?_
      | refine WpC.ret ?_
      | refine WpO.nil ?_
      | refine WpO.cons rfl rfl (WpX.pure (fun _ => rfl) ⟨nolog, ?_⟩)
      | refine WpO.skip rfl rfl ?_
      | refine WpL.cons rfl rfl (WpX.pure (fun _ => rfl) ⟨nolog, ?_⟩)
      | refine WpL.skip rfl rfl ?_
      | refine seqQ_normal ?_
      | refine seqQ_ret ?_
      | refine seqQ_exit ?_
      | refine blkQ_normal ?_
      | refine blkQ_ret ?_
      | refine blkQ_out rfl ?_
      | refine blkQ_by rfl ?_
      | refine WpO.cons rfl rfl (op_load rfl rfl rfl hobj rfl ⟨(by simp [InL, Acc.name, rowName] <;> omega), ?_⟩)
      | refine WpL.cons rfl rfl (op_load rfl rfl rfl hobj rfl ⟨(by simp [InL, Acc.name, rowName] <;> omega), ?_⟩)
      | refine WpO.cons rfl rfl (op_lookup rfl rfl rfl rfl rfl rfl h1a h7 ⟨(by simp [InL, Acc.name, rowName] <;> omega), ?_⟩)
      | refine WpL.cons rfl rfl (op_lookup rfl rfl rfl rfl rfl rfl h1a h7 ⟨(by simp [InL, Acc.name, rowName] <;> omega), ?_⟩)
      | refine WpO.cons rfl rfl (op_delete rfl rfl rfl rfl rfl h1a h7 ⟨(by simp [InL, Acc.name, rowName] <;> omega), ?_⟩)
      | refine WpL.cons rfl rfl (op_delete rfl rfl rfl rfl rfl h1a h7 ⟨(by simp [InL, Acc.name, rowName] <;> omega), ?_⟩))
    exact out_ret rfl ⟨rfl, r.setO (Nat.le_refl _) hdel (hof _)⟩
theorem free_ok {k : Int} (r : TiesAt h c p a b d L O N) : Does 49 [.ptr (some (p, 0)), I k] h c [p, d] fun v h' c' => v = .bool (N.lookup k).isSome ∧ TiesAt h' c' p a b d L O (eraG k N) := by
  have hobj := r.obj
  have hlt := r.lt
  refine does_of (enter (fn := Try.f49) Try.func49 rfl rfl (Nat.le_of_ble_eq_true rfl) ?_)
  obtain ⟨es, ck, m, q, h1a, h2, h3, h4, h5, h6, h7, h8⟩ := r.inn.look k
  have hdel := MapS.del (h := h) (a := d) h2 h3 h4 h5 h6 h8 rfl
  have hof : ∀ (z : AObj), ∀ n, n < c → n ≠ d → MapI.get (MapI.set h d z) n = MapI.get h n := fun z n hn hna => MapI.get_ne _ _ _ _ (Ne.symm hna)
  repeat' (first
    | refine WpC.seq ?_
    | refine WpC.region ?_
    | refine WpC.drawn ?_
    | refine WpC.skip ?_
    | refine WpC.block ?_
    | refine WpC.exit ?_
    | refine WpC.ret ?_
    | refine WpO.nil ?_
    | refine WpO.cons rfl rfl (WpX.pure (fun _ => rfl) ⟨nolog, ?_⟩)
    | refine WpO.skip rfl rfl ?_
    | refine WpL.cons rfl rfl (WpX.pure (fun _ => rfl) ⟨nolog, ?_⟩)
    | refine WpL.skip rfl rfl ?_
    | refine seqQ_normal ?_
    | refine seqQ_ret ?_
    | refine seqQ_exit ?_
    | refine blkQ_normal ?_
    | refine blkQ_ret ?_
    | refine blkQ_out rfl ?_
    | refine blkQ_by rfl ?_)
  refine WpC.cond rfl (fun hb => by cases hb) (fun _ => ?_)
  generalize ho : N.lookup k = o at h8
  cases h8 with
  | yes hd =>
    repeat' (first
      | refine WpC.seq ?_
      | refine WpC.region ?_
      | refine WpC.drawn ?_
      | refine WpC.skip ?_
      | refine WpC.block ?_
      | refine WpC.exit ?_
      | refine WpC.ret ?_
      | refine WpO.nil ?_
      | refine WpO.cons rfl rfl (WpX.pure (fun _ => rfl) ⟨nolog, ?_⟩)
      | refine WpO.skip rfl rfl ?_
      | refine WpL.cons rfl rfl (WpX.pure (fun _ => rfl) ⟨nolog, ?_⟩)
      | refine WpL.skip rfl rfl ?_
      | refine seqQ_normal ?_
      | refine seqQ_ret ?_
      | refine seqQ_exit ?_
      | refine blkQ_normal ?_
      | refine blkQ_ret ?_
      | refine blkQ_out rfl ?_
      | refine blkQ_by rfl ?_
      | refine WpO.cons rfl rfl (op_load rfl rfl rfl hobj rfl ⟨(by simp [InL, Acc.name, rowName] <;> omega), ?_⟩)
      | refine WpL.cons rfl rfl (op_load rfl rfl rfl hobj rfl ⟨(by simp [InL, Acc.name, rowName] <;> omega), ?_⟩)
      | refine WpO.cons rfl rfl (op_lookup rfl rfl rfl rfl rfl rfl h1a h7 ⟨(by simp [InL, Acc.name, rowName] <;> omega), ?_⟩)
      | refine WpL.cons rfl rfl (op_lookup rfl rfl rfl rfl rfl rfl h1a h7 ⟨(by simp [InL, Acc.name, rowName] <;> omega), ?_⟩)
      | refine WpO.cons rfl rfl (op_delete rfl rfl rfl rfl rfl h1a h7 ⟨(by simp [InL, Acc.name, rowName] <;> omega), ?_⟩)
      | refine WpL.cons rfl rfl (op_delete rfl rfl rfl rfl rfl h1a h7 ⟨(by simp [InL, Acc.name, rowName] <;> omega), ?_⟩))
    exact out_ret rfl ⟨rfl, r.setN (Nat.le_refl _) hdel (hof _)⟩
  | no =>
    repeat' (first
      | refine WpC.seq ?_
      | refine WpC.region ?_
      | refine WpC.drawn ?_
      | refine WpC.skip ?_
      | refine WpC.block ?_
      | refine WpC.exit ?_
      | refine WpC.ret ?_
      | refine WpO.nil ?_
      | refine WpO.cons rfl rfl (WpX.pure (fun _ => rfl) ⟨nolog, ?_⟩)
      | refine WpO.skip rfl rfl ?_
      | refine WpL.cons rfl rfl (WpX.pure (fun _ => rfl) ⟨nolog, ?_⟩)
      | refine WpL.skip rfl rfl ?_
      | refine seqQ_normal ?_
      | refine seqQ_ret ?_
      | refine seqQ_exit ?_
      | refine blkQ_normal ?_
      | refine blkQ_ret ?_
      | refine blkQ_out rfl ?_
      | refine blkQ_by rfl ?_
      | refine WpO.cons rfl rfl (op_load rfl rfl rfl hobj rfl ⟨(by simp [InL, Acc.name, rowName] <;> omega), ?_⟩)
      | refine WpL.cons rfl rfl (op_load rfl rfl rfl hobj rfl ⟨(by simp [InL, Acc.name, rowName] <;> omega), ?_⟩)
      | refine WpO.cons rfl rfl (op_lookup rfl rfl rfl rfl rfl rfl h1a h7 ⟨(by simp [InL, Acc.name, rowName] <;> omega), ?_⟩)
      | refine WpL.cons rfl rfl (op_lookup rfl rfl rfl rfl rfl rfl h1a h7 ⟨(by simp [InL, Acc.name, rowName] <;> omega), ?_⟩)
      | refine WpO.cons rfl rfl (op_delete rfl rfl rfl rfl rfl h1a h7 ⟨(by simp [InL, Acc.name, rowName] <;> omega), ?_⟩)
      | refine WpL.cons rfl rfl (op_delete rfl rfl rfl rfl rfl h1a h7 ⟨(by simp [InL, Acc.name, rowName] <;> omega), ?_⟩))
    exact out_ret rfl ⟨rfl, r.setN (Nat.le_refl _) hdel (hof _)⟩
end Go.Proofs.Ytempfmkicpifkaa.Ti
