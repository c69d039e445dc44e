/- ProcStack: a process, its calls, and how deep they are. -/
import Derived.Test.YtempfmkicpifkaaAd8
set_option linter.unusedVariables false
set_option linter.unusedSectionVars false
set_option linter.unusedSimpArgs false
set_option linter.unnecessarySimpa false
namespace Go.Proofs.Ytempfmkicpifkaa.Ps
open Go.Ab
set_option maxRecDepth 10000

theorem acc_rd (n : Nat) : (Acc.rd n).name = n := rfl
theorem acc_wr (n : Nat) : (Acc.wr n).name = n := rfl
theorem accw_rd (n : Nat) : (Acc.rd n).writes = false := rfl
theorem accw_wr (n : Nat) : (Acc.wr n).writes = true := rfl
/-- A call: where it goes back to, its frame's row and words. -/
structure Cal where
  back : Int
  nm : Option Nat
  ws : List Int
def Cal.fr (a : Cal) : V := match a.nm with
  | none => .slice none 0 (.known 0)
  | some s => .slice (some (s, 0)) a.ws.length (.upTo 1)
def callC (a : Cal) : List V := [I a.back, a.fr, .slice none 0 (.known 0)]
def wordV (z : Int) : List V := [.int .u64 z]
theorem word_len (z : Int) : (wordV z).length = 1 := rfl
theorem word_all (z : Int) : (wordV z).all one1 = true := rfl
theorem call_len (a : Cal) : (callC a).length = 3 := rfl
theorem fr_one (a : Cal) : cellsV a.fr = [a.fr] ∧ one1 a.fr = true := by
  unfold Cal.fr
  cases a.nm <;> exact ⟨rfl, rfl⟩
theorem call_all (a : Cal) : (callC a).all one1 = true := by
  show (one1 (I a.back) && (one1 a.fr && (one1 (V.slice none 0 (.known 0)) && true))) = true
  rw [(fr_one a).2]; rfl
theorem elW : ElT cx 54 37 0 := ⟨rfl, rfl, rfl, ⟨_, rfl, by decide⟩⟩
theorem elC : ElT cx 118 124 2 := ⟨rfl, rfl, rfl, ⟨_, rfl, by decide⟩⟩
/-- What of a process stays as it is. -/
structure PRest where
  (a0 a2 a3 a4 a5 a6 a7 : V)
  hp : Nat
  (a10 a12 a13 a14 a15 : V)
def procC (r : PRest) (stack : Int) (cv : V) : List V := [r.a0, I 0, r.a2, r.a3, r.a4, r.a5, r.a6, r.a7, I stack, .ptr (some (r.hp, 0)), r.a10, cv, r.a12, r.a13, r.a14, r.a15]
def CallsAt (h : HH) (c : Nat) (cv : V) (cs : List Cal) : Prop :=
  ∃ s cap cl junk, cv = .slice (some (s, 0)) cs.length cap ∧ (cap = .upTo 3 ∨ (cap = .known 1 ∧ cs.length = 1 ∧ junk = [])) ∧ s < c ∧ MapI.get h s = some (.cells true cl (flat callC cs ++ junk)) ∧ junk.all one1 = true ∧ 0 < cs.length
structure ProcAt (h : HH) (c p : Nat) (R : PRest) (stack : Int) (cv : V) (cs : List Cal) : Prop where
  obj : MapI.get h p = some (.cells true true (procC R stack cv))
  calls : CallsAt h c cv cs
  frames : ∀ (i : Nat) (a : Cal), cs[i]? = some a → ListOf 1 wordV h c a.fr a.ws
  lp : p < c
  np : p ∉ rowName cv
  nf : ∀ (i : Nat) (a : Cal), cs[i]? = some a → ∀ n ∈ rowName a.fr, n ≠ p ∧ n ∉ rowName cv
  ff : ∀ (i j : Nat) (a b : Cal), i ≠ j → cs[i]? = some a → cs[j]? = some b → ∀ n ∈ rowName a.fr, n ∉ rowName b.fr
def depth (cs : List Cal) : Nat := (cs.map fun a : Cal => 1 + a.ws.length).sum

variable {h : HH} {c p : Nat} {R : PRest} {stack : Int} {cv : V} {cs : List Cal}
theorem lives_ok (r : ProcAt h c p R stack cv cs) : Does 93 [.ptr (some (p, 0))] h c [p] fun v h' c' => v = .bool true ∧ h' = h ∧ c' = c := by
  have hobj := r.obj
  refine does_of (enter (fn := Try.f93) Try.func93 rfl rfl (Nat.le_of_ble_eq_true rfl) ?_)
  repeat' (first
    | refine WpC.seq ?_
    | refine WpC.region ?_
    | refine WpC.drawn ?_
    | refine WpC.skip ?_
    | refine WpC.block ?_
    | refine WpC.exit ?_
    | refine WpC.ret ?_
    | refine WpO.nil ?_
    | refine WpO.cons rfl rfl (WpX.pure (fun _ => rfl) ⟨nolog, ?_⟩)
    | refine WpO.skip rfl rfl ?_
    | refine WpL.cons rfl rfl (WpX.pure (fun _ => rfl) ⟨nolog, ?_⟩)
    | refine WpL.skip rfl rfl ?_
    | refine seqQ_normal ?_
    | refine seqQ_ret ?_
    | refine seqQ_exit ?_
    | refine blkQ_normal ?_
    | refine blkQ_ret ?_
    | refine blkQ_out rfl ?_
    | refine blkQ_by rfl ?_
    | refine WpO.cons rfl rfl (op_load rfl rfl rfl hobj rfl ⟨(by simp [InL, Acc.name, rowName] <;> omega), ?_⟩)
    | refine WpL.cons rfl rfl (op_load rfl rfl rfl hobj rfl ⟨(by simp [InL, Acc.name, rowName] <;> omega), ?_⟩))
  exact out_ret rfl ⟨rfl, rfl, rfl⟩
theorem last_ok (r : ProcAt h c p R stack cv cs) (hlen : cs.length ≤ 1000) : Does 94 [.ptr (some (p, 0))] h c [p] fun v h' c' => (∃ s cap, cv = .slice (some (s, 0)) cs.length cap ∧ v = .ptr (some (s, (cs.length - 1) * 3))) ∧ h' = h ∧ c' = c := by
  have hobj := r.obj
  obtain ⟨s, cap, cl, junk, rfl, hcap, hs, hg, hj, h0⟩ := r.calls
  have hw : IntKind.i64.wrap ((cs.length : Int) - 1) = ((cs.length - 1 : Nat) : Int) := by rw [Go.IntWalk.i64_in _ (by omega)]; omega
  refine does_of (enter (fn := Try.f94) Try.func94 rfl rfl (Nat.le_of_ble_eq_true rfl) ?_)
  repeat' (first
    | refine WpC.seq ?_
    | refine WpC.region ?_
    | refine WpC.drawn ?_
    | refine WpC.skip ?_
    | refine WpC.block ?_
    | refine WpC.exit ?_
    | refine WpC.ret ?_
    | refine WpO.nil ?_
    | refine WpO.cons rfl rfl (WpX.pure (fun _ => rfl) ⟨nolog, ?_⟩)
    | refine WpO.skip rfl rfl ?_
    | refine WpL.cons rfl rfl (WpX.pure (fun _ => rfl) ⟨nolog, ?_⟩)
    | refine WpL.skip rfl rfl ?_
    | refine seqQ_normal ?_
    | refine seqQ_ret ?_
    | refine seqQ_exit ?_
    | refine blkQ_normal ?_
    | refine blkQ_ret ?_
    | refine blkQ_out rfl ?_
    | refine blkQ_by rfl ?_)
  refine WpO.cons rfl rfl (call_at rfl (lives_ok r) (fun n hn => .inl hn) (Nat.le_refl _) fun v h4 c4 hc4 hfr4 hq => ?_)
  obtain ⟨rfl, rfl, rfl⟩ := hq
  repeat' (first
    | refine WpC.seq ?_
    | refine WpC.region ?_
    | refine WpC.drawn ?_
    | refine WpC.skip ?_
    | refine WpC.block ?_
    | refine WpC.exit ?_
    | refine WpC.ret ?_
    | refine WpO.nil ?_
    | refine WpO.cons rfl rfl (WpX.pure (fun _ => rfl) ⟨nolog, ?_⟩)
    | refine WpO.skip rfl rfl ?_
    | refine WpL.cons rfl rfl (WpX.pure (fun _ => rfl) ⟨nolog, ?_⟩)
    | refine WpL.skip rfl rfl ?_
    | refine seqQ_normal ?_
    | refine seqQ_ret ?_
    | refine seqQ_exit ?_
    | refine blkQ_normal ?_
    | refine blkQ_ret ?_
    | refine blkQ_out rfl ?_
    | refine blkQ_by rfl ?_)
  refine WpC.cond rfl (fun hb => by cases hb) (fun _ => ?_)
  repeat' (first
    | refine WpC.seq ?_
    | refine WpC.region ?_
    | refine WpC.drawn ?_
    | refine WpC.skip ?_
    | refine WpC.block ?_
    | refine WpC.exit ?_
    | refine WpC.ret ?_
    | refine WpO.nil ?_
    | refine WpO.cons rfl rfl (WpX.pure (fun _ => rfl) ⟨nolog, ?_⟩)
    | refine WpO.skip rfl rfl ?_
    | refine WpL.cons rfl rfl (WpX.pure (fun _ => rfl) ⟨nolog, ?_⟩)
    | refine WpL.skip rfl rfl ?_
    | refine seqQ_normal ?_
    | refine seqQ_ret ?_
    | refine seqQ_exit ?_
    | refine blkQ_normal ?_
    | refine blkQ_ret ?_
    | refine blkQ_out rfl ?_
    | refine blkQ_by rfl ?_
    | refine WpO.cons rfl rfl (op_load rfl rfl rfl hobj rfl ⟨(by simp [InL, Acc.name, rowName] <;> omega), ?_⟩)
    | refine WpL.cons rfl rfl (op_load rfl rfl rfl hobj rfl ⟨(by simp [InL, Acc.name, rowName] <;> omega), ?_⟩)
    | refine WpO.cons rfl rfl (op_len rfl rfl rfl ⟨(by simp [InL, Acc.name, rowName] <;> omega), ?_⟩)
    | refine WpL.cons rfl rfl (op_len rfl rfl rfl ⟨(by simp [InL, Acc.name, rowName] <;> omega), ?_⟩)
    | refine WpO.cons rfl rfl (op_indexAddr (k := 3) rfl rfl rfl rfl ⟨by rw [hw]; omega, by rw [hw]; omega⟩ ⟨(by simp [InL, Acc.name, rowName] <;> omega), ?_⟩)
    | refine WpL.cons rfl rfl (op_indexAddr (k := 3) rfl rfl rfl rfl ⟨by rw [hw]; omega, by rw [hw]; omega⟩ ⟨(by simp [InL, Acc.name, rowName] <;> omega), ?_⟩))
  refine WpL.nil (logsOk_of (cs := [0, 1, 3, 7, 0, 16, 48, 112, 240, 496, 1023, 2047]) (by decide +kernel) ?_) ?_
  · simp +contextual [allP, apP, Dis, acc_rd, acc_wr, accw_rd, accw_wr, Nat.testBit]
  repeat' (first
    | refine WpC.seq ?_
    | refine WpC.region ?_
    | refine WpC.drawn ?_
    | refine WpC.skip ?_
    | refine WpC.block ?_
    | refine WpC.exit ?_
    | refine WpC.ret ?_
    | refine WpO.nil ?_
    | refine WpO.cons rfl rfl (WpX.pure (fun _ => rfl) ⟨nolog, ?_⟩)
    | refine WpO.skip rfl rfl ?_
    | refine WpL.cons rfl rfl (WpX.pure (fun _ => rfl) ⟨nolog, ?_⟩)
    | refine WpL.skip rfl rfl ?_
    | refine seqQ_normal ?_
    | refine seqQ_ret ?_
    | refine seqQ_exit ?_
    | refine blkQ_normal ?_
    | refine blkQ_ret ?_
    | refine blkQ_out rfl ?_
    | refine blkQ_by rfl ?_)
  exact out_ret rfl ⟨⟨s, cap, rfl, by rw [hw]; simp; rfl⟩, rfl, rfl⟩
theorem depth_snoc {cs : List Cal} {i : Nat} {a : Cal} (h : cs[i]? = some a) : depth (cs.take (i + 1)) = depth (cs.take i) + (1 + a.ws.length) := by
  rw [List.take_add_one, h]
  simp [depth]
theorem depth_ok (r : ProcAt h c p R stack cv cs) (hlen : cs.length ≤ 1000) (hd : ∀ i, depth (cs.take i) ≤ 100000) (hw : ∀ (i : Nat) (a : Cal), cs[i]? = some a → a.ws.length ≤ 100000) : Does 26 [.ptr (some (p, 0))] h c (p :: rowName cv) fun v h' c' => v = I (depth cs) ∧ ∀ n, n < c → MapI.get h' n = MapI.get h n := by
  have hobj := r.obj
  obtain ⟨s, cap, cl, junk, rfl, hcap, hs, hg, hj, h0⟩ := r.calls
  refine does_of (enter (fn := Try.f26) Try.func26 rfl rfl (Nat.le_of_ble_eq_true rfl) ?_)
  repeat' (first
    | refine WpC.seq ?_
    | refine WpC.region ?_
    | refine WpC.drawn ?_
    | refine WpC.skip ?_
    | refine WpC.block ?_
    | refine WpC.exit ?_
    | refine WpC.ret ?_
    | refine WpO.nil ?_
    | refine WpO.cons rfl rfl (WpX.pure (fun _ => rfl) ⟨nolog, ?_⟩)
    | refine WpO.skip rfl rfl ?_
    | refine WpL.cons rfl rfl (WpX.pure (fun _ => rfl) ⟨nolog, ?_⟩)
    | refine WpL.skip rfl rfl ?_
    | refine seqQ_normal ?_
    | refine seqQ_ret ?_
    | refine seqQ_exit ?_
    | refine blkQ_normal ?_
    | refine blkQ_ret ?_
    | refine blkQ_out rfl ?_
    | refine blkQ_by rfl ?_)
  refine WpO.cons rfl rfl (call_at rfl (lives_ok r) (fun n hn => .inl (by simp at hn; simp [hn])) (Nat.le_refl _) fun v h4 c4 hc4 hfr4 hq => ?_)
  obtain ⟨rfl, rfl, rfl⟩ := hq
  repeat' (first
    | refine WpC.seq ?_
    | refine WpC.region ?_
    | refine WpC.drawn ?_
    | refine WpC.skip ?_
    | refine WpC.block ?_
    | refine WpC.exit ?_
    | refine WpC.ret ?_
    | refine WpO.nil ?_
    | refine WpO.cons rfl rfl (WpX.pure (fun _ => rfl) ⟨nolog, ?_⟩)
    | refine WpO.skip rfl rfl ?_
    | refine WpL.cons rfl rfl (WpX.pure (fun _ => rfl) ⟨nolog, ?_⟩)
    | refine WpL.skip rfl rfl ?_
    | refine seqQ_normal ?_
    | refine seqQ_ret ?_
    | refine seqQ_exit ?_
    | refine blkQ_normal ?_
    | refine blkQ_ret ?_
    | refine blkQ_out rfl ?_
    | refine blkQ_by rfl ?_)
  refine WpC.cond rfl (fun hb => by cases hb) (fun _ => ?_)
  repeat' (first
    | refine WpC.seq ?_
    | refine WpC.region ?_
    | refine WpC.drawn ?_
    | refine WpC.skip ?_
    | refine WpC.block ?_
    | refine WpC.exit ?_
    | refine WpC.ret ?_
    | refine WpO.nil ?_
    | refine WpO.cons rfl rfl (WpX.pure (fun _ => rfl) ⟨nolog, ?_⟩)
    | refine WpO.skip rfl rfl ?_
    | refine WpL.cons rfl rfl (WpX.pure (fun _ => rfl) ⟨nolog, ?_⟩)
    | refine WpL.skip rfl rfl ?_
    | refine seqQ_normal ?_
    | refine seqQ_ret ?_
    | refine seqQ_exit ?_
    | refine blkQ_normal ?_
    | refine blkQ_ret ?_
    | refine blkQ_out rfl ?_
    | refine blkQ_by rfl ?_
    | refine WpO.cons rfl rfl (op_load rfl rfl rfl hobj rfl ⟨(by simp [InL, Acc.name, rowName] <;> omega), ?_⟩)
    | refine WpL.cons rfl rfl (op_load rfl rfl rfl hobj rfl ⟨(by simp [InL, Acc.name, rowName] <;> omega), ?_⟩)
    | refine WpO.cons rfl rfl (op_len rfl rfl rfl ⟨(by simp [InL, Acc.name, rowName] <;> omega), ?_⟩)
    | refine WpL.cons rfl rfl (op_len rfl rfl rfl ⟨(by simp [InL, Acc.name, rowName] <;> omega), ?_⟩))
  refine WpC.loop ?_
  refine WpLoop.ind (X := Nat) (fun i e h' c' => (∃ b0, e = MapI.set (MapI.set (MapI.set (MapI.set b0 3 (I ((depth (cs.take i) : Nat) : Int))) 12 (.slice (some (s, 0)) cs.length cap)) 13 (I cs.length)) 14 (I i)) ∧ i ≤ cs.length ∧ c4 ≤ c' ∧ ∀ n, n < c4 → MapI.get h' n = MapI.get h4 n)
    (fun i => cs.length - i) ?_ 0 _ _ _ ⟨set4 rfl rfl rfl rfl, Nat.zero_le _, Nat.le_refl _, fun n _ => rfl⟩
  rintro i e h' c' ⟨⟨b0, rfl⟩, hi, hc, hfr⟩
  repeat' (first
    | refine WpC.seq ?_
    | refine WpC.region ?_
    | refine WpC.drawn ?_
    | refine WpC.skip ?_
    | refine WpC.block ?_
    | refine WpC.exit ?_
    | refine WpC.ret ?_
    | refine WpO.nil ?_
    | refine WpO.cons rfl rfl (WpX.pure (fun _ => rfl) ⟨nolog, ?_⟩)
    | refine WpO.skip rfl rfl ?_
    | refine WpL.cons rfl rfl (WpX.pure (fun _ => rfl) ⟨nolog, ?_⟩)
    | refine WpL.skip rfl rfl ?_
    | refine seqQ_normal ?_
    | refine seqQ_ret ?_
    | refine seqQ_exit ?_
    | refine blkQ_normal ?_
    | refine blkQ_ret ?_
    | refine blkQ_out rfl ?_
    | refine blkQ_by rfl ?_)
  refine WpC.cond rfl (fun hlt => ?_) (fun hge => ?_)
  case refine_2 =>
    have hge : cs.length ≤ i := by simpa using hge
    repeat' (first
      | refine WpC.seq ?_
      | refine WpC.region ?_
      | refine WpC.drawn ?_
      | refine WpC.skip ?_
      | refine WpC.block ?_
      | refine WpC.exit ?_
      | refine WpC.ret ?_
      | refine WpO.nil ?_
      | refine WpO.cons rfl rfl (WpX.pure (fun _ => rfl) ⟨nolog, ?_⟩)
      | refine WpO.skip rfl rfl ?_
      | refine WpL.cons rfl rfl (WpX.pure (fun _ => rfl) ⟨nolog, ?_⟩)
      | refine WpL.skip rfl rfl ?_
      | refine seqQ_normal ?_
      | refine seqQ_ret ?_
      | refine seqQ_exit ?_
      | refine blkQ_normal ?_
      | refine blkQ_ret ?_
      | refine blkQ_out rfl ?_
      | refine blkQ_by rfl ?_)
    rw [List.take_of_length_le hge]
    exact out_ret rfl ⟨rfl, hfr⟩
  have hlt : i < cs.length := by simpa using hlt
  have hg' : MapI.get h' s = some (.cells true cl (flat callC cs ++ junk)) := by rw [hfr s hs]; exact hg
  obtain ⟨a, hz⟩ : ∃ z, cs[i]? = some z := ⟨_, List.getElem?_eq_getElem hlt⟩
  have hct : cut (flat callC cs ++ junk) (0 + ((i : Nat) : Int).toNat * 3) 3 = some (callC a) := by
    have : 0 + ((i : Nat) : Int).toNat * 3 = i * 3 := by simp
    rw [this]; exact cut_flat call_len hz junk
  have hw1 : IntKind.i64.wrap ((i : Int) + 1) = ((i + 1 : Nat) : Int) := by rw [Go.IntWalk.i64_in _ (by omega)]; omega
  have hgc : ∀ x : AObj, MapI.get (MapI.set h' c' x) c' = some x := fun x => MapI.get_same _ _ _
  have hd2 : ∀ (x : AObj) (y : AObj), MapI.get (MapI.set (MapI.set h' c' x) c' y) c' = some y := fun x y => MapI.get_same _ _ _
  obtain ⟨fs, fc, hfv⟩ : ∃ fs fc, a.fr = .slice fs a.ws.length fc := by
    obtain ⟨fs, fc, e, _⟩ := (r.frames i a hz).shape
    exact ⟨fs, fc, e⟩
  have hca : callC a = [I a.back, .slice fs a.ws.length fc, .slice none 0 (.known 0)] := by unfold callC; rw [hfv]
  rw [hca] at hct
  have hdi := hd i
  have hwa := hw i a hz
  have hsn := depth_snoc hz
  have hw2 : IntKind.i64.wrap (1 + (a.ws.length : Int)) = ((1 + a.ws.length : Nat) : Int) := by rw [Go.IntWalk.i64_in _ (by omega)]; omega
  have hw3 : IntKind.i64.wrap (((depth (cs.take i) : Nat) : Int) + IntKind.i64.wrap (1 + (a.ws.length : Int))) = ((depth (cs.take (i + 1)) : Nat) : Int) := by rw [hw2, Go.IntWalk.i64_in _ (by omega)]; omega
  repeat' (first
    | refine WpC.seq ?_
    | refine WpC.region ?_
    | refine WpC.drawn ?_
    | refine WpC.skip ?_
    | refine WpC.block ?_
    | refine WpC.exit ?_
    | refine WpC.ret ?_
    | refine WpO.nil ?_
    | refine WpO.cons rfl rfl (WpX.pure (fun _ => rfl) ⟨nolog, ?_⟩)
    | refine WpO.skip rfl rfl ?_
    | refine WpL.cons rfl rfl (WpX.pure (fun _ => rfl) ⟨nolog, ?_⟩)
    | refine WpL.skip rfl rfl ?_
    | refine seqQ_normal ?_
    | refine seqQ_ret ?_
    | refine seqQ_exit ?_
    | refine blkQ_normal ?_
    | refine blkQ_ret ?_
    | refine blkQ_out rfl ?_
    | refine blkQ_by rfl ?_
    | refine WpO.cons rfl rfl (op_indexAddr (k := 3) rfl rfl rfl rfl ⟨by omega, by omega⟩ ⟨(by simp [InL, Acc.name, rowName] <;> omega), ?_⟩)
    | refine WpL.cons rfl rfl (op_indexAddr (k := 3) rfl rfl rfl rfl ⟨by omega, by omega⟩ ⟨(by simp [InL, Acc.name, rowName] <;> omega), ?_⟩)
    | refine WpO.cons rfl rfl (op_loadA rfl rfl rfl rfl hg' hct ⟨(by simp [InL, Acc.name, rowName] <;> omega), ?_⟩)
    | refine WpL.cons rfl rfl (op_loadA rfl rfl rfl rfl hg' hct ⟨(by simp [InL, Acc.name, rowName] <;> omega), ?_⟩)
    | refine WpO.cons rfl rfl (op_alloc rfl ⟨(by simp [InL, Acc.name, rowName] <;> omega), ?_⟩)
    | refine WpL.cons rfl rfl (op_alloc rfl ⟨(by simp [InL, Acc.name, rowName] <;> omega), ?_⟩)
    | refine WpO.cons rfl rfl (op_store rfl rfl rfl rfl (hgc _) (Nat.le_refl _) rfl ⟨(by simp [InL, Acc.name, rowName] <;> omega), ?_⟩)
    | refine WpL.cons rfl rfl (op_store rfl rfl rfl rfl (hgc _) (Nat.le_refl _) rfl ⟨(by simp [InL, Acc.name, rowName] <;> omega), ?_⟩)
    | refine WpO.cons rfl rfl (op_load rfl rfl rfl (hd2 _ _) rfl ⟨(by simp [InL, Acc.name, rowName] <;> omega), ?_⟩)
    | refine WpL.cons rfl rfl (op_load rfl rfl rfl (hd2 _ _) rfl ⟨(by simp [InL, Acc.name, rowName] <;> omega), ?_⟩)
    | refine WpO.cons rfl rfl (op_len rfl rfl rfl ⟨(by simp [InL, Acc.name, rowName] <;> omega), ?_⟩)
    | refine WpL.cons rfl rfl (op_len rfl rfl rfl ⟨(by simp [InL, Acc.name, rowName] <;> omega), ?_⟩))
  refine ⟨i + 1, by omega, ?_, by omega, by omega, fun n hn => ?_⟩
  · rw [hw1, hw3]
    exact set4 rfl rfl rfl rfl
  · rw [MapI.get_ne _ _ _ _ (by omega), MapI.get_ne _ _ _ _ (by omega)]; exact hfr n hn
end Go.Proofs.Ytempfmkicpifkaa.Ps
