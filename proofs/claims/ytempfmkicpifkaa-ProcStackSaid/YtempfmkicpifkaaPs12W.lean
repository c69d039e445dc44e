/- ProcStack: the process beside the lists of the law. -/
import Derived.Test.YtempfmkicpifkaaPs11W
import Derived.Test.YtempfmkicpifkaaAdR
set_option linter.unusedVariables false
set_option linter.unusedSectionVars false
set_option linter.unusedSimpArgs false
set_option linter.unnecessarySimpa false
namespace Go.Proofs.Ytempfmkicpifkaa.Ps
open Go.Ab
set_option maxRecDepth 10000
theorem limits_ok {h : HH} {c : Nat} : Does 16 [] h c [] fun v h' c' => v = .agg [I 400, I 200, I 9, I 6, I 12] ∧ c ≤ c' := by
  refine does_of (enterH (fn := Try.f16) Try.func16 rfl rfl (Nat.le_of_ble_eq_true rfl) ?_)
  have hgc : ∀ x : AObj, MapI.get (MapI.set h c x) c = some x := fun x => MapI.get_same _ _ _
  repeat' (first
    | refine WpC.seq ?_
    | refine WpC.region ?_
    | refine WpC.drawn ?_
    | refine WpC.skip ?_
    | refine WpC.block ?_
    | refine WpC.exit ?_
    | refine WpC.ret ?_
    | refine WpO.nil ?_
    | refine WpO.cons rfl rfl (WpX.pure (fun _ => rfl) ⟨nolog, ?_⟩)
    | refine WpO.skip rfl rfl ?_
    | refine WpL.cons rfl rfl (WpX.pure (fun _ => rfl) ⟨nolog, ?_⟩)
    | refine WpL.skip rfl rfl ?_
    | refine seqQ_normal ?_
    | refine seqQ_ret ?_
    | refine seqQ_exit ?_
    | refine blkQ_normal ?_
    | refine blkQ_ret ?_
    | refine blkQ_out rfl ?_
    | refine blkQ_by rfl ?_
    | refine WpO.cons rfl rfl (op_alloc rfl ⟨(by simp [InL, Acc.name, rowName] <;> omega), ?_⟩)
    | refine WpL.cons rfl rfl (op_alloc rfl ⟨(by simp [InL, Acc.name, rowName] <;> omega), ?_⟩)
    | refine WpO.cons rfl rfl (op_store (k := 5) rfl rfl rfl rfl (hgc _) (Nat.le_of_ble_eq_true rfl) rfl ⟨(by simp [InL, Acc.name, rowName] <;> omega), ?_⟩)
    | refine WpL.cons rfl rfl (op_store (k := 5) rfl rfl rfl rfl (hgc _) (Nat.le_of_ble_eq_true rfl) rfl ⟨(by simp [InL, Acc.name, rowName] <;> omega), ?_⟩))
  exact outH_ret (.cellA rfl rfl rfl rfl (MapI.get_same _ _ _) rfl .nil) (by simp [InL, Acc.name]) ⟨rfl, by omega⟩
/-- The names of a process's memory. -/
def PN (p : Nat) (cv : V) (cs : List Cal) : List Nat := p :: (rowName cv ++ cs.flatMap fun a => rowName a.fr)
theorem pn_fr {p : Nat} {cv : V} {cs : List Cal} {i : Nat} {a : Cal} (h : cs[i]? = some a) {n : Nat} (hn : n ∈ rowName a.fr) : n ∈ PN p cv cs :=
  List.mem_cons_of_mem _ (List.mem_append_right _ (List.mem_flatMap.2 ⟨a, List.mem_of_getElem? h, hn⟩))
theorem pn_cv {p : Nat} {cv : V} {cs : List Cal} {n : Nat} (hn : n ∈ rowName cv) : n ∈ PN p cv cs := List.mem_cons_of_mem _ (List.mem_append_left _ hn)
theorem pn_cases {p : Nat} {cv : V} {cs : List Cal} {n : Nat} (hn : n ∈ PN p cv cs) : n = p ∨ n ∈ rowName cv ∨ ∃ a ∈ cs, n ∈ rowName a.fr := by
  rcases List.mem_cons.1 hn with h | h
  · exact .inl h
  · rcases List.mem_append.1 h with h | h
    · exact .inr (.inl h)
    · obtain ⟨a, h1, h2⟩ := List.mem_flatMap.1 h; exact .inr (.inr ⟨a, h1, h2⟩)
theorem ProcAt.pn_lt {h : HH} {c p : Nat} {R : PRest} {stack : Int} {cv : V} {cs : List Cal} (r : ProcAt h c p R stack cv cs) : ∀ n ∈ PN p cv cs, n < c := fun n hn => by
  rcases pn_cases hn with rfl | h | ⟨a, h1, h2⟩
  · exact r.lp
  · obtain ⟨s, cap, cl, junk, h3, _, h4, _⟩ := r.calls
    rw [h3] at h; simp [rowName] at h; omega
  · obtain ⟨i, hi⟩ := List.getElem?_of_mem h1
    exact (r.frames i a hi).lt n h2
structure PJ (h0 h : HH) (c0 c1 c q p : Nat) (R : PRest) (st : Nat) (cv vb vf : V) (cs : List Cal) (bl fl : List Int) : Prop where
  pr : ProcAt h c p R st cv cs
  box : MapI.get h q = some (.cells true true [I 400, I 200, I 9, I 6, I st])
  bk : ListOf 1 intV h c vb bl
  fs : ListOf 1 intV h c vf fl
  old : ∀ n, n < c0 → MapI.get h n = MapI.get h0 n
  lo : ∀ n ∈ PN p cv cs, c1 ≤ n
  lob : ∀ n ∈ rowName vb, c1 ≤ n
  lof : ∀ n ∈ rowName vf, c1 ≤ n
  nb : ∀ n ∈ rowName vb, n ∉ PN p cv cs ∧ n ∉ rowName vf
  nf : ∀ n ∈ rowName vf, n ∉ PN p cv cs
  lq : c0 ≤ q ∧ q < c1
  lc : c1 ≤ c
variable {h0 h h' : HH} {c0 c1 c c' q p st : Nat} {R : PRest} {cv cv' vb vf vb' vf' : V} {cs cs' : List Cal} {bl fl bl' fl' : List Int}
/-- What the process did alone. -/
theorem PJ.move (B : PJ h0 h c0 c1 c q p R st cv vb vf cs bl fl) (r : ProcAt h' c' p R st cv' cs') (hc : c ≤ c') (hs : ∀ n ∈ PN p cv' cs', n ∈ PN p cv cs ∨ c ≤ n) (hf : ∀ n, n < c → n ∉ PN p cv cs → MapI.get h' n = MapI.get h n) :
    PJ h0 h' c0 c1 c' q p R st cv' vb vf cs' bl fl := by
  have l1 := B.lc
  have l2 := B.lq
  refine ⟨r, ?_, B.bk.keep hc fun n hn hm => hf n hn (B.nb n hm).1, B.fs.keep hc fun n hn hm => hf n hn (B.nf n hm), fun n hn => ?_, fun n hn => ?_, B.lob, B.lof, fun n hn => ⟨fun hm => ?_, (B.nb n hn).2⟩, fun n hn hm => ?_, l2, by omega⟩
  · rw [hf q (by omega) (fun hm => by have := B.lo q hm; omega)]; exact B.box
  · rw [hf n (by omega) (fun hm => by have := B.lo n hm; omega)]; exact B.old n hn
  · rcases hs n hn with h | h
    · exact B.lo n h
    · omega
  · rcases hs n hm with h | h
    · exact (B.nb n hn).1 h
    · have := B.bk.lt n hn; omega
  · rcases hs n hm with h | h
    · exact B.nf n hn h
    · have := B.fs.lt n hn; omega
/-- The first list alone. -/
theorem PJ.setB (B : PJ h0 h c0 c1 c q p R st cv vb vf cs bl fl) (r : ListOf 1 intV h' c' vb' bl') (hc : c ≤ c') (hs : ∀ n ∈ rowName vb', n ∈ rowName vb ∨ c ≤ n) (hf : ∀ n, n < c → n ∉ rowName vb → MapI.get h' n = MapI.get h n) :
    PJ h0 h' c0 c1 c' q p R st cv vb' vf cs bl' fl := by
  have l1 := B.lc
  have l2 := B.lq
  have hlt := B.pr.pn_lt
  have np : ∀ n ∈ PN p cv cs, n ∉ rowName vb := fun n hn hm => (B.nb n hm).1 hn
  refine ⟨B.pr.keepF hc fun n hn => hf n (hlt n hn) (np n hn), ?_, r, B.fs.keep hc fun n hn hm => hf n hn (fun hb => (B.nb n hb).2 hm), fun n hn => ?_, B.lo, fun n hn => ?_, B.lof, fun n hn => ⟨fun hm => ?_, fun hm => ?_⟩, B.nf, l2, by omega⟩
  · rw [hf q (by omega) (fun hm => by have := B.lob q hm; omega)]; exact B.box
  · rw [hf n (by omega) (fun hm => by have := B.lob n hm; omega)]; exact B.old n hn
  · rcases hs n hn with h | h
    · exact B.lob n h
    · omega
  · rcases hs n hn with h | h
    · exact (B.nb n h).1 hm
    · have := hlt n hm; omega
  · rcases hs n hn with h | h
    · exact (B.nb n h).2 hm
    · have := B.fs.lt n hm; omega
/-- The second list alone. -/
theorem PJ.setF (B : PJ h0 h c0 c1 c q p R st cv vb vf cs bl fl) (r : ListOf 1 intV h' c' vf' fl') (hc : c ≤ c') (hs : ∀ n ∈ rowName vf', n ∈ rowName vf ∨ c ≤ n) (hf : ∀ n, n < c → n ∉ rowName vf → MapI.get h' n = MapI.get h n) :
    PJ h0 h' c0 c1 c' q p R st cv vb vf' cs bl fl' := by
  have l1 := B.lc
  have l2 := B.lq
  have hlt := B.pr.pn_lt
  have np : ∀ n ∈ PN p cv cs, n ∉ rowName vf := fun n hn hm => B.nf n hm hn
  refine ⟨B.pr.keepF hc fun n hn => hf n (hlt n hn) (np n hn), ?_, B.bk.keep hc fun n hn hm => hf n hn (B.nb n hm).2, r, fun n hn => ?_, B.lo, B.lob, fun n hn => ?_, fun n hn => ⟨(B.nb n hn).1, fun hm => ?_⟩, fun n hn hm => ?_, l2, by omega⟩
  · rw [hf q (by omega) (fun hm => by have := B.lof q hm; omega)]; exact B.box
  · rw [hf n (by omega) (fun hm => by have := B.lof n hm; omega)]; exact B.old n hn
  · rcases hs n hn with h | h
    · exact B.lof n h
    · omega
  · rcases hs n hm with h | h
    · exact (B.nb n hn).2 h
    · have := B.bk.lt n hn; omega
  · rcases hs n hn with h | h
    · exact B.nf n h hm
    · have := hlt n hm; omega
/-- Nothing of it. -/
theorem PJ.keep (B : PJ h0 h c0 c1 c q p R st cv vb vf cs bl fl) (hc : c ≤ c') (hf : ∀ n, n < c → MapI.get h' n = MapI.get h n) : PJ h0 h' c0 c1 c' q p R st cv vb vf cs bl fl :=
  B.move (B.pr.keep hc hf) hc (fun n hn => .inl hn) fun n hn _ => hf n hn
end Go.Proofs.Ytempfmkicpifkaa.Ps
