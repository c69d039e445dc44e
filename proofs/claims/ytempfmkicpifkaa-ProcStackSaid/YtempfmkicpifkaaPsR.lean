/- ProcStack: calls that read alone. -/
import Derived.Test.YtempfmkicpifkaaPs5W
set_option linter.unusedVariables false
set_option linter.unusedSectionVars false
set_option linter.unusedSimpArgs false
set_option linter.unnecessarySimpa false
namespace Go.Proofs.Ytempfmkicpifkaa.Ps
open Go.Ab
set_option maxRecDepth 10000
/-- Each access is of one of the names, or of a new one; what is written is new. -/
def InR (ns : List Nat) (c : Nat) : Acc → Prop := fun x => (x.name ∈ ns ∨ c ≤ x.name) ∧ (x.writes = true → c ≤ x.name)
def DoesR (f : Nat) (xs : List V) (h : HH) (c : Nat) (ns : List Nat) (Q : V → HH → Nat → Prop) : Prop :=
  WpX (cl f xs) h c fun v h' c' l => (∀ x ∈ l, InR ns c x) ∧ c ≤ c' ∧ (∀ n, n < c → MapI.get h' n = MapI.get h n) ∧ Q v h' c'
theorem doesR_of {f : Nat} {xs : List V} {h : HH} {c : Nat} {ns : List Nat} {Q : V → HH → Nat → Prop} (w : WpX (cl f xs) h c fun v h' c' l => (∀ x ∈ l, InR ns c x) ∧ Q v h' c') : DoesR f xs h c ns Q := by
  obtain ⟨a, h', c', l, ⟨hl, q⟩, k, hk⟩ := w
  have hloc := local_cl _ _ _ _ _ _ (hk k (Nat.le_refl _))
  refine ⟨a, h', c', l, ⟨hl, hloc.1, fun n hn => hloc.2.1 n fun x hx e => ?_, q⟩, k, hk⟩
  cases hw : x.writes with
  | false => rfl
  | true => have := (hl x hx).2 hw; omega
theorem inR_sub {ns ms : List Nat} {c c0 : Nat} (h1 : ∀ n ∈ ns, n ∈ ms ∨ c0 ≤ n) (h2 : c0 ≤ c) {x : Acc} (h : InR ns c x) : InR ms c0 x := by
  refine ⟨?_, fun hw => Nat.le_trans h2 (h.2 hw)⟩
  rcases h.1 with h | h
  · exact h1 _ h
  · exact .inr (by omega)
/-- At a call that reads alone. -/
theorem call_atRR {f : Nat} {args : Array Operand} {ats : Array Nat} {xs : List V} {e : EE} {h : HH} {c c0 : Nat} {ns ms : List Nat} {Q : V → HH → Nat → Prop} {K : V → HH → Nat → Prop} {ds : Option Tmp} {ty : Nat} {pos : String} {af : Array Edge} {gd : Option (Nat × Bool)}
    (ha : evs cx e args.toList = some xs) (w : DoesR f xs h c ns Q) (h1 : ∀ n ∈ ns, n ∈ ms ∨ c0 ≤ n) (h2 : c0 ≤ c)
    (k : ∀ v h' c', c ≤ c' → (∀ n, n < c → MapI.get h' n = MapI.get h n) → Q v h' c' → K v h' c') :
    WpX (fun n => opM cx (evFn EE cx pr n) e ⟨ds, .call ⟨.value (.func f), args, ats⟩, ty, pos, af, gd⟩) h c fun v h' c' al => (∀ x ∈ al, InR ms c0 x) ∧ K v h' c' :=
  op_call (call := fun n => evFn EE cx pr n) ha (WpX.mono w fun v h' c' l ⟨a, b, d, q⟩ => ⟨fun x hx => inR_sub h1 h2 (a x hx), k v h' c' b d q⟩)
/-- In a drawn region. -/
theorem call_atRL {f : Nat} {args : Array Operand} {ats : Array Nat} {xs : List V} {e : EE} {h : HH} {c c0 : Nat} {ns ms : List Nat} {Q : V → HH → Nat → Prop} {K : V → HH → Nat → List Acc → Prop} {ds : Option Tmp} {ty : Nat} {pos : String} {af : Array Edge} {gd : Option (Nat × Bool)}
    (ha : evs cx e args.toList = some xs) (w : DoesR f xs h c ns Q) (h1 : ∀ n ∈ ns, n ∈ ms ∨ c0 ≤ n) (h2 : c0 ≤ c)
    (k : ∀ v h' c' al, (∀ x ∈ al, InR ns c x) → c ≤ c' → (∀ n, n < c → MapI.get h' n = MapI.get h n) → Q v h' c' → K v h' c' al) :
    WpX (fun n => opM cx (evFn EE cx pr n) e ⟨ds, .call ⟨.value (.func f), args, ats⟩, ty, pos, af, gd⟩) h c fun v h' c' al => (∀ x ∈ al, InL ms c0 x) ∧ K v h' c' al :=
  op_call (call := fun n => evFn EE cx pr n) ha (WpX.mono w fun v h' c' l ⟨a, b, d, q⟩ => ⟨fun x hx => (inR_sub h1 h2 (a x hx)).1, k v h' c' l a b d q⟩)
variable {h : HH} {c p : Nat} {R : PRest} {stack : Int} {cv : V} {cs : List Cal}
theorem livesR (r : ProcAt h c p R stack cv cs) : DoesR 93 [.ptr (some (p, 0))] h c [p] fun v h' c' => v = .bool true ∧ h' = h ∧ c' = c := by
  have hobj := r.obj
  refine doesR_of (enter (fn := Try.f93) Try.func93 rfl rfl (Nat.le_of_ble_eq_true rfl) ?_)
  repeat' (first
    | refine WpC.seq ?_
    | refine WpC.region ?_
    | refine WpC.drawn ?_
    | refine WpC.skip ?_
    | refine WpC.block ?_
    | refine WpC.exit ?_
    | refine WpC.ret ?_
    | refine WpO.nil ?_
    | refine WpO.cons rfl rfl (WpX.pure (fun _ => rfl) ⟨nolog, ?_⟩)
    | refine WpO.skip rfl rfl ?_
    | refine WpL.cons rfl rfl (WpX.pure (fun _ => rfl) ⟨nolog, ?_⟩)
    | refine WpL.skip rfl rfl ?_
    | refine seqQ_normal ?_
    | refine seqQ_ret ?_
    | refine seqQ_exit ?_
    | refine blkQ_normal ?_
    | refine blkQ_ret ?_
    | refine blkQ_out rfl ?_
    | refine blkQ_by rfl ?_
    | refine WpO.cons rfl rfl (op_load rfl rfl rfl hobj rfl ⟨(by simp [InR, Acc.name, Acc.writes, rowName] <;> omega), ?_⟩)
    | refine WpL.cons rfl rfl (op_load rfl rfl rfl hobj rfl ⟨(by simp [InR, Acc.name, Acc.writes, rowName] <;> omega), ?_⟩))
  exact out_ret rfl ⟨rfl, rfl, rfl⟩
theorem depthR (r : ProcAt h c p R stack cv cs) (hlen : cs.length ≤ 1000) (hd : ∀ i, depth (cs.take i) ≤ 100000) (hw : ∀ (i : Nat) (a : Cal), cs[i]? = some a → a.ws.length ≤ 100000) : DoesR 26 [.ptr (some (p, 0))] h c (p :: rowName cv) fun v h' c' => v = I (depth cs) ∧ ∀ n, n < c → MapI.get h' n = MapI.get h n := by
  have hobj := r.obj
  obtain ⟨s, cap, cl, junk, rfl, hcap, hs, hg, hj, h0⟩ := r.calls
  refine doesR_of (enter (fn := Try.f26) Try.func26 rfl rfl (Nat.le_of_ble_eq_true rfl) ?_)
  repeat' (first
    | refine WpC.seq ?_
    | refine WpC.region ?_
    | refine WpC.drawn ?_
    | refine WpC.skip ?_
    | refine WpC.block ?_
    | refine WpC.exit ?_
    | refine WpC.ret ?_
    | refine WpO.nil ?_
    | refine WpO.cons rfl rfl (WpX.pure (fun _ => rfl) ⟨nolog, ?_⟩)
    | refine WpO.skip rfl rfl ?_
    | refine WpL.cons rfl rfl (WpX.pure (fun _ => rfl) ⟨nolog, ?_⟩)
    | refine WpL.skip rfl rfl ?_
    | refine seqQ_normal ?_
    | refine seqQ_ret ?_
    | refine seqQ_exit ?_
    | refine blkQ_normal ?_
    | refine blkQ_ret ?_
    | refine blkQ_out rfl ?_
    | refine blkQ_by rfl ?_)
  refine WpO.cons rfl rfl (call_atRR rfl (livesR r) (fun n hn => .inl (by simp at hn; simp [hn])) (Nat.le_refl _) fun v h4 c4 hc4 hfr4 hq => ?_)
  obtain ⟨rfl, rfl, rfl⟩ := hq
  repeat' (first
    | refine WpC.seq ?_
    | refine WpC.region ?_
    | refine WpC.drawn ?_
    | refine WpC.skip ?_
    | refine WpC.block ?_
    | refine WpC.exit ?_
    | refine WpC.ret ?_
    | refine WpO.nil ?_
    | refine WpO.cons rfl rfl (WpX.pure (fun _ => rfl) ⟨nolog, ?_⟩)
    | refine WpO.skip rfl rfl ?_
    | refine WpL.cons rfl rfl (WpX.pure (fun _ => rfl) ⟨nolog, ?_⟩)
    | refine WpL.skip rfl rfl ?_
    | refine seqQ_normal ?_
    | refine seqQ_ret ?_
    | refine seqQ_exit ?_
    | refine blkQ_normal ?_
    | refine blkQ_ret ?_
    | refine blkQ_out rfl ?_
    | refine blkQ_by rfl ?_)
  refine WpC.cond rfl (fun hb => by cases hb) (fun _ => ?_)
  repeat' (first
    | refine WpC.seq ?_
    | refine WpC.region ?_
    | refine WpC.drawn ?_
    | refine WpC.skip ?_
    | refine WpC.block ?_
    | refine WpC.exit ?_
    | refine WpC.ret ?_
    | refine WpO.nil ?_
    | refine WpO.cons rfl rfl (WpX.pure (fun _ => rfl) ⟨nolog, ?_⟩)
    | refine WpO.skip rfl rfl ?_
    | refine WpL.cons rfl rfl (WpX.pure (fun _ => rfl) ⟨nolog, ?_⟩)
    | refine WpL.skip rfl rfl ?_
    | refine seqQ_normal ?_
    | refine seqQ_ret ?_
    | refine seqQ_exit ?_
    | refine blkQ_normal ?_
    | refine blkQ_ret ?_
    | refine blkQ_out rfl ?_
    | refine blkQ_by rfl ?_
    | refine WpO.cons rfl rfl (op_load rfl rfl rfl hobj rfl ⟨(by simp [InR, Acc.name, Acc.writes, rowName] <;> omega), ?_⟩)
    | refine WpL.cons rfl rfl (op_load rfl rfl rfl hobj rfl ⟨(by simp [InR, Acc.name, Acc.writes, rowName] <;> omega), ?_⟩)
    | refine WpO.cons rfl rfl (op_len rfl rfl rfl ⟨(by simp [InR, Acc.name, Acc.writes, rowName] <;> omega), ?_⟩)
    | refine WpL.cons rfl rfl (op_len rfl rfl rfl ⟨(by simp [InR, Acc.name, Acc.writes, rowName] <;> omega), ?_⟩))
  refine WpC.loop ?_
  refine WpLoop.ind (X := Nat) (fun i e h' c' => (∃ b0, e = MapI.set (MapI.set (MapI.set (MapI.set b0 3 (I ((depth (cs.take i) : Nat) : Int))) 12 (.slice (some (s, 0)) cs.length cap)) 13 (I cs.length)) 14 (I i)) ∧ i ≤ cs.length ∧ c4 ≤ c' ∧ ∀ n, n < c4 → MapI.get h' n = MapI.get h4 n)
    (fun i => cs.length - i) ?_ 0 _ _ _ ⟨set4 rfl rfl rfl rfl, Nat.zero_le _, Nat.le_refl _, fun n _ => rfl⟩
  rintro i e h' c' ⟨⟨b0, rfl⟩, hi, hc, hfr⟩
  repeat' (first
    | refine WpC.seq ?_
    | refine WpC.region ?_
    | refine WpC.drawn ?_
    | refine WpC.skip ?_
    | refine WpC.block ?_
    | refine WpC.exit ?_
    | refine WpC.ret ?_
    | refine WpO.nil ?_
    | refine WpO.cons rfl rfl (WpX.pure (fun _ => rfl) ⟨nolog, ?_⟩)
    | refine WpO.skip rfl rfl ?_
    | refine WpL.cons rfl rfl (WpX.pure (fun _ => rfl) ⟨nolog, ?_⟩)
    | refine WpL.skip rfl rfl ?_
    | refine seqQ_normal ?_
    | refine seqQ_ret ?_
    | refine seqQ_exit ?_
    | refine blkQ_normal ?_
    | refine blkQ_ret ?_
    | refine blkQ_out rfl ?_
    | refine blkQ_by rfl ?_)
  refine WpC.cond rfl (fun hlt => ?_) (fun hge => ?_)
  case refine_2 =>
    have hge : cs.length ≤ i := by simpa using hge
    repeat' (first
      | refine WpC.seq ?_
      | refine WpC.region ?_
      | refine WpC.drawn ?_
      | refine WpC.skip ?_
      | refine WpC.block ?_
      | refine WpC.exit ?_
      | refine WpC.ret ?_
      | refine WpO.nil ?_
      | refine WpO.cons rfl rfl (WpX.pure (fun _ => rfl) ⟨nolog, ?_⟩)
      | refine WpO.skip rfl rfl ?_
      | refine WpL.cons rfl rfl (WpX.pure (fun _ => rfl) ⟨nolog, ?_⟩)
      | refine WpL.skip rfl rfl ?_
      | refine seqQ_normal ?_
      | refine seqQ_ret ?_
      | refine seqQ_exit ?_
      | refine blkQ_normal ?_
      | refine blkQ_ret ?_
      | refine blkQ_out rfl ?_
      | refine blkQ_by rfl ?_)
    rw [List.take_of_length_le hge]
    exact out_ret rfl ⟨rfl, hfr⟩
  have hlt : i < cs.length := by simpa using hlt
  have hg' : MapI.get h' s = some (.cells true cl (flat callC cs ++ junk)) := by rw [hfr s hs]; exact hg
  obtain ⟨a, hz⟩ : ∃ z, cs[i]? = some z := ⟨_, List.getElem?_eq_getElem hlt⟩
  have hct : cut (flat callC cs ++ junk) (0 + ((i : Nat) : Int).toNat * 3) 3 = some (callC a) := by
    have : 0 + ((i : Nat) : Int).toNat * 3 = i * 3 := by simp
    rw [this]; exact cut_flat call_len hz junk
  have hw1 : IntKind.i64.wrap ((i : Int) + 1) = ((i + 1 : Nat) : Int) := by rw [Go.IntWalk.i64_in _ (by omega)]; omega
  have hgc : ∀ x : AObj, MapI.get (MapI.set h' c' x) c' = some x := fun x => MapI.get_same _ _ _
  have hd2 : ∀ (x : AObj) (y : AObj), MapI.get (MapI.set (MapI.set h' c' x) c' y) c' = some y := fun x y => MapI.get_same _ _ _
  obtain ⟨fs, fc, hfv⟩ : ∃ fs fc, a.fr = .slice fs a.ws.length fc := by
    obtain ⟨fs, fc, e, _⟩ := (r.frames i a hz).shape
    exact ⟨fs, fc, e⟩
  have hca : callC a = [I a.back, .slice fs a.ws.length fc, .slice none 0 (.known 0)] := by unfold callC; rw [hfv]
  rw [hca] at hct
  have hdi := hd i
  have hwa := hw i a hz
  have hsn := depth_snoc hz
  have hw2 : IntKind.i64.wrap (1 + (a.ws.length : Int)) = ((1 + a.ws.length : Nat) : Int) := by rw [Go.IntWalk.i64_in _ (by omega)]; omega
  have hw3 : IntKind.i64.wrap (((depth (cs.take i) : Nat) : Int) + IntKind.i64.wrap (1 + (a.ws.length : Int))) = ((depth (cs.take (i + 1)) : Nat) : Int) := by rw [hw2, Go.IntWalk.i64_in _ (by omega)]; omega
  repeat' (first
    | refine WpC.seq ?_
    | refine WpC.region ?_
    | refine WpC.drawn ?_
    | refine WpC.skip ?_
    | refine WpC.block ?_
    | refine WpC.exit ?_
    | refine WpC.ret ?_
    | refine WpO.nil ?_
    | refine WpO.cons rfl rfl (WpX.pure (fun _ => rfl) ⟨nolog, ?_⟩)
    | refine WpO.skip rfl rfl ?_
    | refine WpL.cons rfl rfl (WpX.pure (fun _ => rfl) ⟨nolog, ?_⟩)
    | refine WpL.skip rfl rfl ?_
    | refine seqQ_normal ?_
    | refine seqQ_ret ?_
    | refine seqQ_exit ?_
    | refine blkQ_normal ?_
    | refine blkQ_ret ?_
    | refine blkQ_out rfl ?_
    | refine blkQ_by rfl ?_
    | refine WpO.cons rfl rfl (op_indexAddr (k := 3) rfl rfl rfl rfl ⟨by omega, by omega⟩ ⟨(by simp [InR, Acc.name, Acc.writes, rowName] <;> omega), ?_⟩)
    | refine WpL.cons rfl rfl (op_indexAddr (k := 3) rfl rfl rfl rfl ⟨by omega, by omega⟩ ⟨(by simp [InR, Acc.name, Acc.writes, rowName] <;> omega), ?_⟩)
    | refine WpO.cons rfl rfl (op_loadA rfl rfl rfl rfl hg' hct ⟨(by simp [InR, Acc.name, Acc.writes, rowName] <;> omega), ?_⟩)
    | refine WpL.cons rfl rfl (op_loadA rfl rfl rfl rfl hg' hct ⟨(by simp [InR, Acc.name, Acc.writes, rowName] <;> omega), ?_⟩)
    | refine WpO.cons rfl rfl (op_alloc rfl ⟨(by simp [InR, Acc.name, Acc.writes, rowName] <;> omega), ?_⟩)
    | refine WpL.cons rfl rfl (op_alloc rfl ⟨(by simp [InR, Acc.name, Acc.writes, rowName] <;> omega), ?_⟩)
    | refine WpO.cons rfl rfl (op_store rfl rfl rfl rfl (hgc _) (Nat.le_refl _) rfl ⟨(by simp [InR, Acc.name, Acc.writes, rowName] <;> omega), ?_⟩)
    | refine WpL.cons rfl rfl (op_store rfl rfl rfl rfl (hgc _) (Nat.le_refl _) rfl ⟨(by simp [InR, Acc.name, Acc.writes, rowName] <;> omega), ?_⟩)
    | refine WpO.cons rfl rfl (op_load rfl rfl rfl (hd2 _ _) rfl ⟨(by simp [InR, Acc.name, Acc.writes, rowName] <;> omega), ?_⟩)
    | refine WpL.cons rfl rfl (op_load rfl rfl rfl (hd2 _ _) rfl ⟨(by simp [InR, Acc.name, Acc.writes, rowName] <;> omega), ?_⟩)
    | refine WpO.cons rfl rfl (op_len rfl rfl rfl ⟨(by simp [InR, Acc.name, Acc.writes, rowName] <;> omega), ?_⟩)
    | refine WpL.cons rfl rfl (op_len rfl rfl rfl ⟨(by simp [InR, Acc.name, Acc.writes, rowName] <;> omega), ?_⟩))
  refine ⟨i + 1, by omega, ?_, by omega, by omega, fun n hn => ?_⟩
  · rw [hw1, hw3]
    exact set4 rfl rfl rfl rfl
  · rw [MapI.get_ne _ _ _ _ (by omega), MapI.get_ne _ _ _ _ (by omega)]; exact hfr n hn
end Go.Proofs.Ytempfmkicpifkaa.Ps
