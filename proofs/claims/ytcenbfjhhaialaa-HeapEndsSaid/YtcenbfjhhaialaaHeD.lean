/- Threads: what its functions give. -/
/- Thread and Loose. -/
/- Sliding in plain words: threads, what each pass leaves. -/
/- Sliding in plain words: the way up. -/
/- Sliding in plain words: the way down, and what is left. -/
/- The slider: its words moved; the handles that are gone. -/
/- The slider: the handles that are gone. -/
/- The slider: the way up. -/
/- The slider: the way up, walked. -/
/- The slider: the way down, walked. -/
/- Slide. -/
import Derived.Test.YtcenbfjhhaialaaHeB


set_option linter.unusedVariables false
set_option linter.unusedSectionVars false
set_option linter.unusedSimpArgs false
set_option linter.unnecessarySimpa false
namespace Go.Proofs.Ytcenbfjhhaialaa
open Go.Ab
set_option maxRecDepth 10000

/-- An arena, and roots. -/
structure Mem (h : HH) (c a : Nat) (vW vR : V) (W R : List Int) (size : Int) : Prop where
  ar : ArAt h c a vW W size
  rr : RowOf 1 wordV h c vR R
  sep : ∀ n ∈ rowName vR, n ≠ a ∧ n ∉ rowName vW
  ok : ∀ w ∈ R, okW w
  len : R.length ≤ 100000000
abbrev mn (a : Nat) (vW vR : V) : List Nat := an a vW ++ rowName vR
section
variable {h h' : HH} {c c' a : Nat} {vW vR : V} {W R : List Int} {size : Int}
theorem Mem.keep (r : Mem h c a vW vR W R size) (hc : c ≤ c') (e : ∀ n, n < c → n ∈ mn a vW vR → MapI.get h' n = MapI.get h n) : Mem h' c' a vW vR W R size :=
  ⟨r.ar.keep hc fun n hn hm => e n hn (List.mem_append_left _ hm), r.rr.keep hc fun n hn hm => e n hn (List.mem_append_right _ hm), r.sep, r.ok, r.len⟩
theorem Mem.same (r : Mem h c a vW vR W R size) (hc : c ≤ c') (e : ∀ n, n < c → MapI.get h' n = MapI.get h n) : Mem h' c' a vW vR W R size := r.keep hc fun n hn _ => e n hn
theorem Mem.names (r : Mem h c a vW vR W R size) : ∀ n ∈ mn a vW vR, n < c := fun n hn => by
  rcases List.mem_append.1 hn with h | h
  · exact r.ar.names n h
  · exact r.rr.lt n h
theorem Mem.lenW (r : Mem h c a vW vR W R size) : W.length ≤ 1048576 := by
  have := r.ar.le; have := r.ar.mx; omega

/-- A field: a root, or a word. -/
def fget (W R : List Int) (b : Bool) (i : Nat) : Option Int := if b then R[i]? else W[i]?
def fsetW (W : List Int) (b : Bool) (i : Nat) (w : Int) : List Int := if b then W else W.set i w
def fsetR (R : List Int) (b : Bool) (i : Nat) (w : Int) : List Int := if b then R.set i w else R
abbrev fldV (b : Bool) (i : Nat) : V := .agg [.bool b, I i]
def linkN (b : Bool) (i : Nat) : Int := 2 * (i : Int) + (if b then 1 else 0)
def linkW (b : Bool) (i : Nat) : Int := ofW 7 (linkN b i)

theorem fget_ok {b : Bool} {i : Nat} {w : Int} (r : Mem h c a vW vR W R size) (hw : fget W R b i = some w) : DoesR 64 [fldV b i, .ptr (some (a, 0)), vR] h c (mn a vW vR) fun v h' c' => v = .tuple [U w, .bool true] := by
  have hsub : ∀ n ∈ an a vW, n ∈ mn a vW vR ∨ c ≤ n := fun n hn => .inl (List.mem_append_left _ hn)
  have hlw := r.lenW
  have hlr := r.len
  have hg : ∀ {o : AObj}, MapI.get (MapI.set h c o) c = some o := MapI.get_same _ _ _
  refine doesR_of (enter (fn := Try.f64) Try.func64 rfl rfl (Nat.le_of_ble_eq_true rfl) ?_)
  cases b with
  | false =>
    have hw : W[i]? = some w := hw
    repeat' (first | refine WpC.seq ?_ | refine WpC.region ?_ | refine WpO.nil ?_ | refine WpO.cons rfl rfl (WpX.pure (fun _ => rfl) ⟨nolog, ?_⟩) | refine seqQ_normal ?_ | refine WpO.cons rfl rfl (op_box rfl ⟨(by simp [InR, Acc.name, Acc.writes, rowName] <;> omega), ?_⟩) | refine WpO.cons rfl rfl (op_load rfl rfl rfl hg rfl ⟨(by simp [InR, Acc.name, Acc.writes, rowName] <;> omega), ?_⟩))
    refine WpC.cond rfl (fun _ => ?_) (fun hb => by cases hb)
    repeat' (first | refine WpC.seq ?_ | refine WpC.region ?_ | refine WpO.cons rfl rfl (WpX.pure (fun _ => rfl) ⟨nolog, ?_⟩) | refine WpO.cons rfl rfl (op_load rfl rfl rfl hg rfl ⟨(by simp [InR, Acc.name, Acc.writes, rowName] <;> omega), ?_⟩))
    refine WpO.cons rfl rfl (call_atRR rfl (get_in ((r.ar).same (h' := MapI.set h c _) (c' := c + 1) (by omega) fun n hn => MapI.get_ne _ _ _ _ (by omega)) rfl hw) hsub (by omega) fun v h4 c4 hc4 hfr4 hq => ?_)
    obtain ⟨rfl, _, _⟩ := hq
    repeat' (first | refine WpC.ret ?_ | refine WpO.nil ?_ | refine WpO.cons rfl rfl (WpX.pure (fun _ => rfl) ⟨nolog, ?_⟩) | refine seqQ_ret ?_)
    exact out_ret rfl rfl
  | true =>
    have hw : R[i]? = some w := hw
    have hi := (List.getElem?_eq_some_iff.1 hw).1
    obtain ⟨s, cap, rfl, hs⟩ := r.rr.shape
    obtain ⟨m, cl, junk, rfl, hm, hgr⟩ := hs i hi
    have hgr' : ∀ {o : AObj}, MapI.get (MapI.set h c o) m = some (.cells true cl (flat wordV R ++ junk)) := get_set_ne (by omega) hgr
    have hz : nth (flat wordV R ++ junk) (0 + ((i : Nat) : Int).toNat * 1) = some (U w) := by
      rw [show 0 + ((i : Nat) : Int).toNat * 1 = i from by simp]; exact nth_flat0 word_len hw rfl junk
    have e1 : decide (((i : Nat) : Int) < 0) = false := by simp
    have e2 : decide (((i : Nat) : Int) ≥ (R.length : Int)) = false := by simp; omega
    repeat' (first | refine WpC.seq ?_ | refine WpC.region ?_ | refine WpO.nil ?_ | refine WpO.cons rfl rfl (WpX.pure (fun _ => rfl) ⟨nolog, ?_⟩) | refine seqQ_normal ?_ | refine WpO.cons rfl rfl (op_box rfl ⟨(by simp [InR, Acc.name, Acc.writes, rowName] <;> omega), ?_⟩) | refine WpO.cons rfl rfl (op_load rfl rfl rfl hg rfl ⟨(by simp [InR, Acc.name, Acc.writes, rowName] <;> omega), ?_⟩))
    refine WpC.cond rfl (fun hb => by cases hb) (fun _ => ?_)
    repeat' (first | refine WpC.seq ?_ | refine WpC.region ?_ | refine WpC.skip ?_ | refine WpO.nil ?_ | refine WpO.cons rfl rfl (WpX.pure (fun _ => rfl) ⟨nolog, ?_⟩) | refine seqQ_normal ?_ | refine WpO.cons rfl rfl (op_load rfl rfl rfl hg rfl ⟨(by simp [InR, Acc.name, Acc.writes, rowName] <;> omega), ?_⟩))
    simp only [e1]
    skip
    simp only [e2]
    skip
    refine WpC.cond rfl (fun hb => by cases hb) (fun _ => ?_)
    repeat' (first | refine WpC.seq ?_ | refine WpC.region ?_ | refine WpC.skip ?_ | refine WpC.ret ?_ | refine WpO.nil ?_ | refine WpO.cons rfl rfl (WpX.pure (fun _ => rfl) ⟨nolog, ?_⟩) | refine WpO.cons rfl rfl (op_load rfl rfl rfl hg rfl ⟨(by simp [InR, Acc.name, Acc.writes, rowName] <;> omega), ?_⟩) | refine WpO.cons rfl rfl (op_indexAddr (k := 1) rfl rfl rfl rfl ⟨by omega, by omega⟩ ⟨(by simp [InR, Acc.name, Acc.writes, rowName] <;> omega), ?_⟩) | refine WpO.cons rfl rfl (op_load rfl rfl rfl hgr' hz ⟨(by simp [InR, Acc.name, Acc.writes, rowName] <;> omega), ?_⟩))
    exact out_ret rfl rfl

theorem fget_lt {b : Bool} {i : Nat} {w : Int} (hw : fget W R b i = some w) : (b = false → i < W.length) ∧ (b = true → i < R.length) := by
  cases b with
  | false => exact ⟨fun _ => (List.getElem?_eq_some_iff.1 (show W[i]? = some w from hw)).1, fun h => by cases h⟩
  | true => exact ⟨fun h => (by cases h), fun _ => (List.getElem?_eq_some_iff.1 (show R[i]? = some w from hw)).1⟩

theorem fset_ok {b : Bool} {i : Nat} {w x : Int} (r : Mem h c a vW vR W R size) (hw : fget W R b i = some w) (hx : okW x) : Does 65 [fldV b i, .ptr (some (a, 0)), vR, U x] h c (mn a vW vR) fun v h' c' => Mem h' c' a vW vR (fsetW W b i x) (fsetR R b i x) size := by
  have hsub : ∀ n ∈ an a vW, n ∈ mn a vW vR ∨ c ≤ n := fun n hn => .inl (List.mem_append_left _ hn)
  have hlw := r.lenW
  have hlr := r.len
  have hlt := fget_lt hw
  have hg : ∀ {o : AObj}, MapI.get (MapI.set h c o) c = some o := MapI.get_same _ _ _
  have hfr : ∀ {o : AObj}, ∀ n, n < c → MapI.get (MapI.set h c o) n = MapI.get h n := fun n hn => MapI.get_ne _ _ _ _ (by omega)
  refine does_of (enter (fn := Try.f65) Try.func65 rfl rfl (Nat.le_of_ble_eq_true rfl) ?_)
  cases b with
  | false =>
    have r2 := fun o => r.same (h' := MapI.set h c o) (c' := c + 1) (by omega) hfr
    repeat' (first | refine WpC.seq ?_ | refine WpC.region ?_ | refine WpO.nil ?_ | refine WpO.cons rfl rfl (WpX.pure (fun _ => rfl) ⟨nolog, ?_⟩) | refine seqQ_normal ?_ | refine WpO.cons rfl rfl (op_box rfl ⟨(by simp [InL, Acc.name, rowName] <;> omega), ?_⟩) | refine WpO.cons rfl rfl (op_load rfl rfl rfl hg rfl ⟨(by simp [InL, Acc.name, rowName] <;> omega), ?_⟩))
    refine WpC.cond rfl (fun hb => by cases hb) (fun _ => ?_)
    repeat' (first | refine WpC.region ?_ | refine WpO.cons rfl rfl (WpX.pure (fun _ => rfl) ⟨nolog, ?_⟩) | refine WpO.cons rfl rfl (op_load rfl rfl rfl hg rfl ⟨(by simp [InL, Acc.name, rowName] <;> omega), ?_⟩))
    refine WpO.cons rfl rfl (call_at rfl (set_ok (r2 _).ar rfl (hlt.1 rfl) hx) hsub (by omega) fun v h4 c4 hc4 hfr4 hq => ?_)
    obtain ⟨rfl, rfl, hA, _⟩ := hq
    repeat' (first | refine WpO.nil ?_)
    refine out_normal rfl ⟨hA, (r2 _).rr.keep (Nat.le_refl _) fun n hn hm => hfr4 n hn ?_, r.sep, r.ok, r.len⟩
    intro hh
    rcases List.mem_cons.1 hh with h | h
    · exact (r.sep n hm).1 h
    · exact (r.sep n hm).2 h
  | true =>
    have hsep := r.sep
    have har := r.ar
    have hok := r.ok
    obtain ⟨s, cap, rfl, hs⟩ := r.rr.shape1
    obtain ⟨m, cl, junk, rfl, hm, hgr, hjk⟩ := hs i (hlt.2 rfl)
    have hgr' : ∀ {o : AObj}, MapI.get (MapI.set h c o) m = some (.cells true cl (flat wordV R ++ junk)) := get_set_ne (by omega) hgr
    have hb : 0 + ((i : Nat) : Int).toNat * 1 + 1 ≤ (flat wordV R ++ junk).length := by
      rw [List.length_append, flat_length word_len]; have := hlt.2 rfl; omega
    have hil := hlt.2 rfl
    have hms := hsep m (by simp [rowName])
    repeat' (first | refine WpC.seq ?_ | refine WpC.region ?_ | refine WpO.nil ?_ | refine WpO.cons rfl rfl (WpX.pure (fun _ => rfl) ⟨nolog, ?_⟩) | refine seqQ_normal ?_ | refine WpO.cons rfl rfl (op_box rfl ⟨(by simp [InL, Acc.name, rowName] <;> omega), ?_⟩) | refine WpO.cons rfl rfl (op_load rfl rfl rfl hg rfl ⟨(by simp [InL, Acc.name, rowName] <;> omega), ?_⟩))
    refine WpC.cond rfl (fun _ => ?_) (fun hb => by cases hb)
    repeat' (first | refine WpC.region ?_ | refine WpO.nil ?_ | refine WpO.cons rfl rfl (WpX.pure (fun _ => rfl) ⟨nolog, ?_⟩) | refine WpO.cons rfl rfl (op_load rfl rfl rfl hg rfl ⟨(by simp [InL, Acc.name, rowName] <;> omega), ?_⟩) | refine WpO.cons rfl rfl (op_indexAddr (k := 1) rfl rfl rfl rfl ⟨by omega, by omega⟩ ⟨(by simp [InL, Acc.name, rowName] <;> omega), ?_⟩) | refine WpO.cons rfl rfl (op_store (k := 1) rfl rfl rfl rfl hgr' hb rfl ⟨(by simp [InL, Acc.name, rowName] <;> omega), ?_⟩))
    refine out_normal rfl ⟨har.keep (by omega) fun n hn hmn => ?_, ?_, hsep, fun y hy => ?_, by simpa [fsetR] using hlr⟩
    · rw [MapI.get_ne _ _ _ _ (fun e => ?_), MapI.get_ne _ _ _ _ (by omega)]
      subst e
      rcases List.mem_cons.1 hmn with h | h
      · exact hms.1 h
      · exact hms.2 h
    · have := RowOf.set (n := 0) (k := 1) (cells := wordV) word_len (h := MapI.set h c (.cells true true [.bool true, I i])) (c := c + 1) (cap := cap) (cl := cl) (junk := junk) (xs := R) (i := i) (z := x) (m := m) (by omega) hjk hil
      rw [show 0 + ((i : Nat) : Int).toNat * 1 = i * 1 from by simp]
      exact this
    · rcases List.mem_or_eq_of_mem_set (show y ∈ R.set i x from hy) with h | rfl
      · exact hok y h
      · exact hx

theorem linkN_fits {b : Bool} {i : Nat} (hi : i ≤ 100000000) : fitsW (linkN b i) ∧ 0 ≤ linkN b i := by
  unfold fitsW linkN
  cases b <;> simp <;> omega
theorem link_ok {b : Bool} {i : Nat} (hi : i ≤ 100000000) : DoesR 66 [fldV b i] h c [] fun v h' c' => v = U (linkW b i) := by
  have hg : ∀ {o : AObj}, MapI.get (MapI.set h c o) c = some o := MapI.get_same _ _ _
  have hf := linkN_fits (b := b) hi
  have w1 : IntKind.i64.wrap (((i : Nat) : Int) * 2 ^ (min (1 : Int).toNat IntKind.i64.bits)) = 2 * (i : Int) := by
    rw [show (2 : Int) ^ (min (1 : Int).toNat IntKind.i64.bits) = 2 from rfl, Go.IntWalk.i64_in _ (by omega)]; omega
  have q1 : IntKind.i64.wrap ((BitVec.ofInt IntKind.i64.bits (2 * (i : Int)) ||| BitVec.ofInt IntKind.i64.bits 1).toNat : Int) = 2 * (i : Int) + 1 := by
    have := or_nat (b := IntKind.i64.bits) (k := 1) (x := 2 * (i : Int)) (a := i) (t := 1) (by omega) (by omega) (by decide) (by decide) (by show 2 * (i : Int) < 2 ^ 64; omega) (by decide)
    rw [this, Go.IntWalk.i64_in _ (by omega)]
  refine doesR_of (enter (fn := Try.f66) Try.func66 rfl rfl (Nat.le_of_ble_eq_true rfl) ?_)
  cases b with
  | false =>
    repeat' (first | refine WpO.cons rfl rfl (op_shl rfl rfl (by decide) w1 ⟨nolog, ?_⟩) | refine WpC.seq ?_ | refine WpC.region ?_ | refine WpO.nil ?_ | refine WpO.cons rfl rfl (WpX.pure (fun _ => rfl) ⟨nolog, ?_⟩) | refine seqQ_normal ?_ | refine WpO.cons rfl rfl (op_box rfl ⟨(by simp [InR, Acc.name, Acc.writes, rowName] <;> omega), ?_⟩) | refine WpO.cons rfl rfl (op_load rfl rfl rfl hg rfl ⟨(by simp [InR, Acc.name, Acc.writes, rowName] <;> omega), ?_⟩))
    refine WpC.cond rfl (fun hb => by cases hb) (fun _ => ?_)
    repeat' (first | refine WpC.seq ?_ | refine WpC.region ?_ | refine WpC.skip ?_ | refine WpO.cons rfl rfl (WpX.pure (fun _ => rfl) ⟨nolog, ?_⟩))
    refine WpO.cons rfl rfl (call_atRR rfl (of_word_okR (by decide) (show fitsW (2 * (i : Int)) from by have := hf.1; simpa [linkN] using this)) (fun x hx => by cases hx) (by omega) fun v h4 c4 hc4 hfr4 hq => ?_)
    obtain ⟨rfl, _, _⟩ := hq
    repeat' (first | refine WpC.ret ?_ | refine WpO.nil ?_ | refine WpO.cons rfl rfl (WpX.pure (fun _ => rfl) ⟨nolog, ?_⟩))
    refine out_ret rfl ?_
    show U (ofW 7 (2 * (i : Int))) = U (ofW 7 (2 * (i : Int) + 0))
    rw [Int.add_zero]
  | true =>
    repeat' (first | refine WpO.cons rfl rfl (op_shl rfl rfl (by decide) w1 ⟨nolog, ?_⟩) | refine WpC.seq ?_ | refine WpC.region ?_ | refine WpO.nil ?_ | refine WpO.cons rfl rfl (WpX.pure (fun _ => rfl) ⟨nolog, ?_⟩) | refine seqQ_normal ?_ | refine WpO.cons rfl rfl (op_box rfl ⟨(by simp [InR, Acc.name, Acc.writes, rowName] <;> omega), ?_⟩) | refine WpO.cons rfl rfl (op_load rfl rfl rfl hg rfl ⟨(by simp [InR, Acc.name, Acc.writes, rowName] <;> omega), ?_⟩))
    refine WpC.cond rfl (fun _ => ?_) (fun hb => by cases hb)
    repeat' (first | refine WpO.cons rfl rfl (op_or rfl rfl q1 ⟨nolog, ?_⟩) | refine WpC.seq ?_ | refine WpC.region ?_ | refine WpO.nil ?_ | refine WpO.cons rfl rfl (WpX.pure (fun _ => rfl) ⟨nolog, ?_⟩))
    refine WpO.cons rfl rfl (call_atRR rfl (of_word_okR (by decide) (show fitsW (2 * (i : Int) + 1) from by have := hf.1; simpa [linkN] using this)) (fun x hx => by cases hx) (by omega) fun v h4 c4 hc4 hfr4 hq => ?_)
    obtain ⟨rfl, _, _⟩ := hq
    repeat' (first | refine WpC.ret ?_ | refine WpO.nil ?_ | refine WpO.cons rfl rfl (WpX.pure (fun _ => rfl) ⟨nolog, ?_⟩))
    exact out_ret rfl rfl
theorem link_tag (b : Bool) (i : Nat) : tagW (linkW b i) = 7 := tag_of (by decide)
theorem link_val {b : Bool} {i : Nat} (hi : i ≤ 100000000) : valW (linkW b i) = linkN b i := val_of (by decide) (linkN_fits hi).1
theorem link_okW (b : Bool) (i : Nat) : okW (linkW b i) := ofW_ok (by decide)
theorem linked_ok {b : Bool} {i : Nat} (hi : i ≤ 100000000) : DoesR 79 [U (linkW b i)] h c [] fun v h' c' => v = fldV b i := by
  have hf := linkN_fits (b := b) hi
  have hv := link_val (b := b) hi
  have hn : linkN b i = 2 * (i : Int) + (if b then 1 else 0) := rfl
  have hb : (if b then (1 : Int) else 0) = 0 ∨ (if b then (1 : Int) else 0) = 1 := by cases b <;> simp
  have a1 : IntKind.i64.wrap ((BitVec.ofInt IntKind.i64.bits (linkN b i) &&& BitVec.ofInt IntKind.i64.bits 1).toNat : Int) = (if b then 1 else 0) := by
    rw [and_nat (b := IntKind.i64.bits) (k := 1) (by omega) (by show linkN b i < 2 ^ 64; omega) (by decide) (by decide), Go.IntWalk.i64_in _ (by omega)]
    show linkN b i % 2 = _
    omega
  have s1 : Int.fdiv (linkN b i) (2 ^ (min (1 : Int).toNat IntKind.i64.bits)) = (i : Int) := by
    rw [show (2 : Int) ^ (min (1 : Int).toNat IntKind.i64.bits) = 2 from rfl, Int.fdiv_eq_ediv_of_nonneg _ (by decide)]; omega
  refine doesR_of (enterH (fn := Try.f79) Try.func79 rfl rfl (Nat.le_of_ble_eq_true rfl) ?_)
  repeat' (first | refine WpC.seq ?_ | refine WpC.region ?_ | refine WpO.nil ?_ | refine WpO.cons rfl rfl (WpX.pure (fun _ => rfl) ⟨nolog, ?_⟩) | refine WpO.cons rfl rfl (op_alloc rfl ⟨(by simp [InR, Acc.name, Acc.writes, rowName] <;> omega), ?_⟩))
  refine WpO.cons rfl rfl (call_atRR rfl (val_okR (link_okW b i)) (fun n hn => by cases hn) (by omega) fun v h4 c4 hc4 hfr4 hq => ?_)
  obtain ⟨rfl, rfl, rfl⟩ := hq
  rw [hv]
  repeat' (first | refine WpO.cons rfl rfl (op_shr rfl rfl (by decide) s1 ⟨nolog, ?_⟩) | refine WpO.cons rfl rfl (op_and rfl rfl a1 ⟨nolog, ?_⟩) | refine WpC.seq ?_ | refine WpC.region ?_ | refine WpC.ret ?_ | refine WpO.nil ?_ | refine WpO.cons rfl rfl (WpX.pure (fun _ => rfl) ⟨nolog, ?_⟩) | refine WpO.cons rfl rfl (op_store (k := 2) rfl rfl rfl rfl (MapI.get_same _ _ _) (Nat.le_of_ble_eq_true rfl) rfl ⟨(by simp [InR, Acc.name, Acc.writes, rowName] <;> omega), ?_⟩))
  refine outH_ret (.cellA (k := 2) rfl rfl rfl rfl (MapI.get_same _ _ _) rfl .nil) ?_ ?_
  · intro x hx; simp at hx; subst hx; exact ⟨.inr (Nat.le_refl _), fun h => by cases h⟩
  · show V.agg [.bool ((if b then (1 : Int) else 0) == 1), I i] = _
    cases b <;> rfl
end
end Go.Proofs.Ytcenbfjhhaialaa


set_option linter.unusedVariables false
set_option linter.unusedSectionVars false
set_option linter.unusedSimpArgs false
set_option linter.unnecessarySimpa false
namespace Go.Proofs.Ytcenbfjhhaialaa
open Go.Ab
set_option maxRecDepth 10000

section
variable {h h' : HH} {c c' a : Nat} {vW vR : V} {W R : List Int} {size : Int}

set_option maxHeartbeats 1000000 in
theorem thread_ok {b : Bool} {i p : Nat} {w x : Int} (r : Mem h c a vW vR W R size) (hw : fget W R b i = some w) (h5 : tagW w = 5) (hv : valW w = (p : Nat)) (hx : W[p]? = some x) (hne : ¬ (b = false ∧ i = p)) :
    Does 55 [.ptr (some (a, 0)), vR, fldV b i] h c (mn a vW vR) fun v h' c' => v = .bool true ∧ Mem h' c' a vW vR ((fsetW W b i x).set p (linkW b i)) (fsetR R b i x) size := by
  have hsub : ∀ n ∈ an a vW, n ∈ mn a vW vR ∨ c ≤ n := fun n hn => .inl (List.mem_append_left _ hn)
  have hlw := r.lenW
  have hlr := r.len
  have hlt := fget_lt hw
  have hpl := (List.getElem?_eq_some_iff.1 hx).1
  have hxok : okW x := r.ar.ok x (List.mem_of_getElem? hx)
  have hwok : okW w := by
    cases b with
    | false => exact r.ar.ok w (List.mem_of_getElem? (show W[i]? = some w from hw))
    | true => exact r.ok w (List.mem_of_getElem? (show R[i]? = some w from hw))
  have hi8 : i ≤ 100000000 := by
    cases b with
    | false => have := hlt.1 rfl; omega
    | true => have := hlt.2 rfl; omega
  have hcn : c ∉ mn a vW vR := fun hm => by have := r.names c hm; omega
  have e5 : (tagW w != 5) = false := by simpa using h5
  have e1 : decide (((p : Nat) : Int) < 0) = false := by simp
  have e2 : decide (((p : Nat) : Int) ≥ (W.length : Int)) = false := by simp; omega
  have hg : ∀ {o : AObj}, MapI.get (MapI.set h c o) c = some o := MapI.get_same _ _ _
  have r1 := fun o => r.same (h' := MapI.set h c o) (c' := c + 1) (by omega) fun n hn => MapI.get_ne _ _ _ _ (by omega)
  refine does_of (enter (fn := Try.f55) Try.func55 rfl rfl (Nat.le_of_ble_eq_true rfl) ?_)
  have e3 : b = false → (((i : Nat) : Int) == ((p : Nat) : Int)) = false := fun hb => beq_eq_false_iff_ne.2 fun h => hne ⟨hb, by omega⟩
  cases b with
  | false =>
    repeat' (first | refine WpC.seq ?_ | refine WpC.region ?_ | refine WpO.nil ?_ | refine WpO.cons rfl rfl (WpX.pure (fun _ => rfl) ⟨nolog, ?_⟩) | refine WpO.cons rfl rfl (op_box rfl ⟨(by simp [InL, Acc.name, rowName] <;> omega), ?_⟩) | refine WpO.cons rfl rfl (op_loadA (k := 2) rfl rfl rfl rfl hg rfl ⟨(by simp [InL, Acc.name, rowName] <;> omega), ?_⟩))
    refine WpO.cons rfl rfl (call_atD rfl (fget_ok (r1 _) hw) (fun n hn => .inl hn) (by omega) fun v h4 c4 hc4 hf4 hq => ?_)
    subst hq
    have r4 := (r1 _).same hc4 hf4
    have hg4 : MapI.get h4 c = some (.cells true true [.bool false, I i]) := by rw [hf4 c (by omega)]; exact MapI.get_same _ _ _
    repeat' (first | refine WpC.seq ?_ | refine WpC.region ?_ | refine WpO.nil ?_ | refine WpO.cons rfl rfl (WpX.pure (fun _ => rfl) ⟨nolog, ?_⟩))
    refine WpO.cons rfl rfl (call_atD rfl (tag_okR hwok) (fun n hn => by cases hn) (by omega) fun v h5 c5 hc5 hf5 hq => ?_)
    obtain ⟨rfl, rfl, rfl⟩ := hq
    repeat' (first | refine WpO.nil ?_ | refine WpO.cons rfl rfl (WpX.pure (fun _ => rfl) ⟨nolog, ?_⟩) | refine seqQ_normal ?_)
    refine WpC.cond rfl (fun hb => by rw [show (tagW w != 5) = false from e5] at hb; cases hb) (fun _ => ?_)
    repeat' (first | refine WpC.seq ?_ | refine WpC.region ?_ | refine WpC.skip ?_ | refine WpO.cons rfl rfl (WpX.pure (fun _ => rfl) ⟨nolog, ?_⟩))
    refine WpO.cons rfl rfl (call_atD rfl (val_okR hwok) (fun n hn => by cases hn) (by omega) fun v h5 c5 hc5 hf5 hq => ?_)
    obtain ⟨rfl, rfl, rfl⟩ := hq
    rw [hv]
    repeat' (first | refine WpC.seq ?_ | refine WpC.region ?_ | refine WpO.nil ?_ | refine WpO.cons rfl rfl (WpX.pure (fun _ => rfl) ⟨nolog, ?_⟩))
    simp only [e1]
    skip
    refine WpO.cons rfl rfl (call_atD rfl (used_ok r4.ar) hsub (by omega) fun v h5 c5 hc5 hf5 hq => ?_)
    obtain ⟨rfl, rfl, rfl⟩ := hq
    repeat' (first | refine WpO.cons rfl rfl (WpX.pure (fun _ => rfl) ⟨nolog, ?_⟩))
    simp only [e2]
    repeat' (first | refine WpO.nil ?_ | refine WpO.cons rfl rfl (WpX.pure (fun _ => rfl) ⟨nolog, ?_⟩) | refine seqQ_normal ?_ | refine WpO.cons rfl rfl (op_load rfl rfl rfl hg4 rfl ⟨(by simp [InL, Acc.name, rowName] <;> omega), ?_⟩))
    simp only [e3 rfl]
    skip
    refine WpC.cond rfl (fun hb => by cases hb) (fun _ => ?_)
    repeat' (first | refine WpC.seq ?_ | refine WpC.region ?_ | refine WpC.skip ?_ | refine WpO.cons rfl rfl (WpX.pure (fun _ => rfl) ⟨nolog, ?_⟩))
    refine WpO.cons rfl rfl (call_atD rfl (get_in r4.ar rfl hx) hsub (by omega) fun v h5 c5 hc5 hf5 hq => ?_)
    obtain ⟨rfl, rfl, rfl⟩ := hq
    repeat' (first | refine WpC.seq ?_ | refine WpC.region ?_ | refine WpO.nil ?_ | refine WpO.cons rfl rfl (WpX.pure (fun _ => rfl) ⟨nolog, ?_⟩) | refine WpO.cons rfl rfl (op_loadA (k := 2) rfl rfl rfl rfl hg4 rfl ⟨(by simp [InL, Acc.name, rowName] <;> omega), ?_⟩))
    refine WpO.cons rfl rfl (call_at rfl (fset_ok r4 hw hxok) (fun n hn => .inl hn) (by omega) fun v h5 c5 hc5 hf5 r5 => ?_)
    have hg5 : MapI.get h5 c = some (.cells true true [.bool false, I i]) := by rw [hf5 c (by omega) hcn]; exact hg4
    repeat' (first | refine WpC.seq ?_ | refine WpC.region ?_ | refine WpO.nil ?_ | refine WpO.cons rfl rfl (WpX.pure (fun _ => rfl) ⟨nolog, ?_⟩) | refine WpO.cons rfl rfl (op_loadA (k := 2) rfl rfl rfl rfl hg5 rfl ⟨(by simp [InL, Acc.name, rowName] <;> omega), ?_⟩))
    refine WpO.cons rfl rfl (call_atD rfl (link_ok (b := false) (i := i) hi8) (fun n hn => by cases hn) (by omega) fun v h6 c6 hc6 hf6 hq => ?_)
    subst hq
    have r6 := r5.same hc6 hf6
    skip
    refine WpO.cons rfl rfl (call_at rfl (set_ok r6.ar rfl (by simpa [fsetW] using hpl) (link_okW false i)) hsub (by omega) fun v h7 c7 hc7 hf7 hq => ?_)
    obtain ⟨rfl, rfl, hA, _⟩ := hq
    repeat' (first | refine WpC.seq ?_ | refine WpC.region ?_ | refine WpC.ret ?_ | refine WpO.nil ?_ | refine WpO.cons rfl rfl (WpX.pure (fun _ => rfl) ⟨nolog, ?_⟩))
    exact out_ret rfl ⟨rfl, hA, r6.rr.keep (Nat.le_refl _) fun n hn hm => hf7 n hn fun hh => (by
      rcases List.mem_cons.1 hh with h | h
      · exact (r.sep n hm).1 h
      · exact (r.sep n hm).2 h), r.sep, r6.ok, r6.len⟩
  | true =>
    repeat' (first | refine WpC.seq ?_ | refine WpC.region ?_ | refine WpO.nil ?_ | refine WpO.cons rfl rfl (WpX.pure (fun _ => rfl) ⟨nolog, ?_⟩) | refine WpO.cons rfl rfl (op_box rfl ⟨(by simp [InL, Acc.name, rowName] <;> omega), ?_⟩) | refine WpO.cons rfl rfl (op_loadA (k := 2) rfl rfl rfl rfl hg rfl ⟨(by simp [InL, Acc.name, rowName] <;> omega), ?_⟩))
    refine WpO.cons rfl rfl (call_atD rfl (fget_ok (r1 _) hw) (fun n hn => .inl hn) (by omega) fun v h4 c4 hc4 hf4 hq => ?_)
    subst hq
    have r4 := (r1 _).same hc4 hf4
    have hg4 : MapI.get h4 c = some (.cells true true [.bool true, I i]) := by rw [hf4 c (by omega)]; exact MapI.get_same _ _ _
    repeat' (first | refine WpC.seq ?_ | refine WpC.region ?_ | refine WpO.nil ?_ | refine WpO.cons rfl rfl (WpX.pure (fun _ => rfl) ⟨nolog, ?_⟩))
    refine WpO.cons rfl rfl (call_atD rfl (tag_okR hwok) (fun n hn => by cases hn) (by omega) fun v h5 c5 hc5 hf5 hq => ?_)
    obtain ⟨rfl, rfl, rfl⟩ := hq
    repeat' (first | refine WpO.nil ?_ | refine WpO.cons rfl rfl (WpX.pure (fun _ => rfl) ⟨nolog, ?_⟩) | refine seqQ_normal ?_)
    refine WpC.cond rfl (fun hb => by rw [show (tagW w != 5) = false from e5] at hb; cases hb) (fun _ => ?_)
    repeat' (first | refine WpC.seq ?_ | refine WpC.region ?_ | refine WpC.skip ?_ | refine WpO.cons rfl rfl (WpX.pure (fun _ => rfl) ⟨nolog, ?_⟩))
    refine WpO.cons rfl rfl (call_atD rfl (val_okR hwok) (fun n hn => by cases hn) (by omega) fun v h5 c5 hc5 hf5 hq => ?_)
    obtain ⟨rfl, rfl, rfl⟩ := hq
    rw [hv]
    repeat' (first | refine WpC.seq ?_ | refine WpC.region ?_ | refine WpO.nil ?_ | refine WpO.cons rfl rfl (WpX.pure (fun _ => rfl) ⟨nolog, ?_⟩))
    simp only [e1]
    skip
    refine WpO.cons rfl rfl (call_atD rfl (used_ok r4.ar) hsub (by omega) fun v h5 c5 hc5 hf5 hq => ?_)
    obtain ⟨rfl, rfl, rfl⟩ := hq
    repeat' (first | refine WpO.cons rfl rfl (WpX.pure (fun _ => rfl) ⟨nolog, ?_⟩))
    simp only [e2]
    repeat' (first | refine WpO.nil ?_ | refine WpO.cons rfl rfl (WpX.pure (fun _ => rfl) ⟨nolog, ?_⟩) | refine WpO.skip rfl rfl ?_ | refine seqQ_normal ?_ | refine WpO.cons rfl rfl (op_load rfl rfl rfl hg4 rfl ⟨(by simp [InL, Acc.name, rowName] <;> omega), ?_⟩))
    refine WpC.cond rfl (fun hb => by cases hb) (fun _ => ?_)
    repeat' (first | refine WpC.seq ?_ | refine WpC.region ?_ | refine WpC.skip ?_ | refine WpO.cons rfl rfl (WpX.pure (fun _ => rfl) ⟨nolog, ?_⟩))
    refine WpO.cons rfl rfl (call_atD rfl (get_in r4.ar rfl hx) hsub (by omega) fun v h5 c5 hc5 hf5 hq => ?_)
    obtain ⟨rfl, rfl, rfl⟩ := hq
    repeat' (first | refine WpC.seq ?_ | refine WpC.region ?_ | refine WpO.nil ?_ | refine WpO.cons rfl rfl (WpX.pure (fun _ => rfl) ⟨nolog, ?_⟩) | refine WpO.cons rfl rfl (op_loadA (k := 2) rfl rfl rfl rfl hg4 rfl ⟨(by simp [InL, Acc.name, rowName] <;> omega), ?_⟩))
    refine WpO.cons rfl rfl (call_at rfl (fset_ok r4 hw hxok) (fun n hn => .inl hn) (by omega) fun v h5 c5 hc5 hf5 r5 => ?_)
    have hg5 : MapI.get h5 c = some (.cells true true [.bool true, I i]) := by rw [hf5 c (by omega) hcn]; exact hg4
    repeat' (first | refine WpC.seq ?_ | refine WpC.region ?_ | refine WpO.nil ?_ | refine WpO.cons rfl rfl (WpX.pure (fun _ => rfl) ⟨nolog, ?_⟩) | refine WpO.cons rfl rfl (op_loadA (k := 2) rfl rfl rfl rfl hg5 rfl ⟨(by simp [InL, Acc.name, rowName] <;> omega), ?_⟩))
    refine WpO.cons rfl rfl (call_atD rfl (link_ok (b := true) (i := i) hi8) (fun n hn => by cases hn) (by omega) fun v h6 c6 hc6 hf6 hq => ?_)
    subst hq
    have r6 := r5.same hc6 hf6
    skip
    refine WpO.cons rfl rfl (call_at rfl (set_ok r6.ar rfl (by simpa [fsetW] using hpl) (link_okW true i)) hsub (by omega) fun v h7 c7 hc7 hf7 hq => ?_)
    obtain ⟨rfl, rfl, hA, _⟩ := hq
    repeat' (first | refine WpC.seq ?_ | refine WpC.region ?_ | refine WpC.ret ?_ | refine WpO.nil ?_ | refine WpO.cons rfl rfl (WpX.pure (fun _ => rfl) ⟨nolog, ?_⟩))
    exact out_ret rfl ⟨rfl, hA, r6.rr.keep (Nat.le_refl _) fun n hn hm => hf7 n hn fun hh => (by
      rcases List.mem_cons.1 hh with h | h
      · exact (r.sep n hm).1 h
      · exact (r.sep n hm).2 h), r.sep, r6.ok, r6.len⟩

/-- A field that is no pointer is left. -/
theorem thread_no {b : Bool} {i : Nat} {w : Int} (r : Mem h c a vW vR W R size) (hw : fget W R b i = some w) (h5 : tagW w ≠ 5) :
    Does 55 [.ptr (some (a, 0)), vR, fldV b i] h c (mn a vW vR) fun v h' c' => v = .bool false ∧ ∀ n, n < c → MapI.get h' n = MapI.get h n := by
  have hwok : okW w := by
    cases b with
    | false => exact r.ar.ok w (List.mem_of_getElem? (show W[i]? = some w from hw))
    | true => exact r.ok w (List.mem_of_getElem? (show R[i]? = some w from hw))
  have e5 : (tagW w != 5) = true := by simpa using h5
  have hg : ∀ {o : AObj}, MapI.get (MapI.set h c o) c = some o := MapI.get_same _ _ _
  have r1 := fun o => r.same (h' := MapI.set h c o) (c' := c + 1) (by omega) fun n hn => MapI.get_ne _ _ _ _ (by omega)
  refine does_of (enter (fn := Try.f55) Try.func55 rfl rfl (Nat.le_of_ble_eq_true rfl) ?_)
  repeat' (first | refine WpC.seq ?_ | refine WpC.region ?_ | refine WpO.nil ?_ | refine WpO.cons rfl rfl (WpX.pure (fun _ => rfl) ⟨nolog, ?_⟩) | refine WpO.cons rfl rfl (op_box rfl ⟨(by simp [InL, Acc.name, rowName] <;> omega), ?_⟩) | refine WpO.cons rfl rfl (op_loadA (k := 2) rfl rfl rfl rfl hg rfl ⟨(by simp [InL, Acc.name, rowName] <;> omega), ?_⟩))
  refine WpO.cons rfl rfl (call_atD rfl (fget_ok (r1 _) hw) (fun n hn => .inl hn) (by omega) fun v h4 c4 hc4 hf4 hq => ?_)
  subst hq
  repeat' (first | refine WpC.seq ?_ | refine WpC.region ?_ | refine WpO.nil ?_ | refine WpO.cons rfl rfl (WpX.pure (fun _ => rfl) ⟨nolog, ?_⟩))
  refine WpO.cons rfl rfl (call_atD rfl (tag_okR hwok) (fun n hn => by cases hn) (by omega) fun v h5 c5 hc5 hf5 hq => ?_)
  obtain ⟨rfl, rfl, rfl⟩ := hq
  repeat' (first | refine WpO.nil ?_ | refine WpO.cons rfl rfl (WpX.pure (fun _ => rfl) ⟨nolog, ?_⟩) | refine seqQ_normal ?_)
  refine WpC.cond rfl (fun _ => ?_) (fun hb => by rw [show (tagW w != 5) = true from e5] at hb; cases hb)
  repeat' (first | refine WpC.seq ?_ | refine WpC.region ?_ | refine WpC.ret ?_ | refine WpO.nil ?_ | refine WpO.cons rfl rfl (WpX.pure (fun _ => rfl) ⟨nolog, ?_⟩) | refine seqQ_ret ?_)
  exact out_ret rfl ⟨rfl, fun n hn => by rw [hf4 n (by omega)]; exact MapI.get_ne _ _ _ _ (by omega)⟩

/-- A memory: words and roots. -/
abbrev MM := List Int × List Int
abbrev Fld := Bool × Nat
def mget (m : MM) (f : Fld) : Option Int := fget m.1 m.2 f.1 f.2
def mset (m : MM) (f : Fld) (w : Int) : MM := (fsetW m.1 f.1 f.2 w, fsetR m.2 f.1 f.2 w)
abbrev ptrW (p : Nat) : Int := ofW 5 (p : Nat)
/-- A thread that begins at a place. -/
def ChainM (at' to : Nat) : List Fld → MM → Prop
  | [], m => ∃ w, m.1[at']? = some w ∧ tagW w ≠ 7
  | f :: fs, m => m.1[at']? = some (linkW f.1 f.2) ∧ ∃ x, mget m f = some x ∧ ChainM at' to fs (mset (mset m (false, at') x) f (ptrW to))
def looseM (at' to : Nat) : List Fld → MM → MM
  | [], m => m
  | f :: fs, m => looseM at' to fs (mset (mset m (false, at') ((mget m f).getD 0)) f (ptrW to))
theorem mset_len (m : MM) (f : Fld) (w : Int) : (mset m f w).1.length = m.1.length ∧ (mset m f w).2.length = m.2.length := by
  obtain ⟨b, i⟩ := f
  cases b <;> simp [mset, fsetW, fsetR]
theorem mget_mset_ne {m : MM} {f g : Fld} {w : Int} (h : f ≠ g) : mget (mset m f w) g = mget m g := by
  obtain ⟨b, i⟩ := f
  obtain ⟨b', j⟩ := g
  cases b <;> cases b' <;> simp only [mget, mset, fget, fsetW, fsetR, Bool.false_eq_true, if_false, if_true]
  · exact List.getElem?_set_ne fun e => h (by rw [e])
  · exact List.getElem?_set_ne fun e => h (by rw [e])
theorem mget_mset {m : MM} {f : Fld} {w y : Int} (h : mget m f = some y) : mget (mset m f w) f = some w := by
  obtain ⟨b, i⟩ := f
  have := fget_lt h
  cases b with
  | false => simp [mget, mset, fget, fsetW, this.1 rfl]
  | true => simp [mget, mset, fget, fsetR, this.2 rfl]

set_option maxHeartbeats 1000000 in
theorem loose_ok {p to : Nat} {fs : List Fld} (r : Mem h c a vW vR W R size) (hc : ChainM p to fs (W, R)) (hl : fs.length ≤ W.length + R.length) (hto : to ≤ 100000000) (hb : ∀ f ∈ fs, f.2 ≤ 100000000) :
    Does 67 [.ptr (some (a, 0)), vR, I p, I to] h c (mn a vW vR) fun v h' c' => Mem h' c' a vW vR (looseM p to fs (W, R)).1 (looseM p to fs (W, R)).2 size := by
  have hsub : ∀ n ∈ an a vW, n ∈ mn a vW vR ∨ c ≤ n := fun n hn => .inl (List.mem_append_left _ hn)
  have hlw := r.lenW
  have hlr := r.len
  have hnm := r.names
  have hvR : ∃ s cap, vR = .slice s R.length cap := by obtain ⟨s, cap, e, _⟩ := r.rr.shape; exact ⟨s, cap, e⟩
  refine does_of (enter (fn := Try.f67) Try.func67 rfl rfl (Nat.le_of_ble_eq_true rfl) ?_)
  repeat' (first | refine WpC.seq ?_ | refine WpC.region ?_ | refine WpO.nil ?_ | refine WpO.cons rfl rfl (WpX.pure (fun _ => rfl) ⟨nolog, ?_⟩) | refine seqQ_normal ?_)
  refine WpC.cond rfl (fun hb => by cases hb) (fun _ => ?_)
  repeat' (first | refine WpC.seq ?_ | refine WpC.region ?_ | refine WpC.skip ?_ | refine WpC.block ?_ | refine WpO.nil ?_ | refine WpO.cons rfl rfl (WpX.pure (fun _ => rfl) ⟨nolog, ?_⟩))
  refine WpC.loop ?_
  refine WpLoop.ind (X := Nat × List Fld × MM) (fun x e' h' c' => (∃ b0, e' = FR b0 [(0, V.ptr (some (a, 0))), (1, vR), (2, I p), (3, I to), (10, I x.1)]) ∧ ChainM p to x.2.1 x.2.2 ∧ x.1 + x.2.1.length ≤ W.length + R.length ∧ looseM p to x.2.1 x.2.2 = looseM p to fs (W, R) ∧ Mem h' c' a vW vR x.2.2.1 x.2.2.2 size ∧ x.2.2.1.length = W.length ∧ x.2.2.2.length = R.length ∧ (∀ f ∈ x.2.1, f.2 ≤ 100000000) ∧ c ≤ c')
    (fun x => x.2.1.length) ?_ (0, fs, (W, R)) _ _ _ ⟨fr ⟨rfl, rfl, rfl, rfl, rfl, trivial⟩, hc, by simpa using hl, rfl, r, rfl, rfl, hb, Nat.le_refl _⟩
  rintro ⟨n, fs', W', R'⟩ e' h' c' ⟨⟨b0, rfl⟩, hch, hlen, heq, r', hW, hR, hb', hcc⟩
  simp only at hch hlen heq r' hW hR hb'
  cases fs' with
  | nil =>
    obtain ⟨w, hw, ht⟩ := hch
    have hwok : okW w := r'.ar.ok w (List.mem_of_getElem? hw)
    have e7 : (tagW w != 7) = true := by simpa using ht
    repeat' (first | refine WpC.seq ?_ | refine WpC.region ?_ | refine WpC.block ?_ | refine WpO.cons rfl rfl (WpX.pure (fun _ => rfl) ⟨nolog, ?_⟩))
    refine WpO.cons rfl rfl (call_atD rfl (get_in r'.ar rfl hw) hsub (by omega) fun v h5 c5 hc5 hf5 hq => ?_)
    obtain ⟨rfl, rfl, rfl⟩ := hq
    repeat' (first | refine WpC.seq ?_ | refine WpC.region ?_ | refine WpO.nil ?_ | refine WpO.cons rfl rfl (WpX.pure (fun _ => rfl) ⟨nolog, ?_⟩))
    refine WpO.cons rfl rfl (call_atD rfl (tag_okR hwok) (fun n hn => by cases hn) (by omega) fun v h5 c5 hc5 hf5 hq => ?_)
    obtain ⟨rfl, rfl, rfl⟩ := hq
    repeat' (first | refine WpO.nil ?_ | refine WpO.cons rfl rfl (WpX.pure (fun _ => rfl) ⟨nolog, ?_⟩) | refine seqQ_normal ?_)
    refine WpC.cond rfl (fun _ => ?_) (fun hb => by rw [show (tagW w != 7) = true from e7] at hb; cases hb)
    repeat' (first | refine WpC.seq ?_ | refine WpC.region ?_ | refine WpC.ret ?_ | refine WpO.nil ?_ | refine WpO.cons rfl rfl (WpX.pure (fun _ => rfl) ⟨nolog, ?_⟩) | refine seqQ_ret ?_ | refine blkQ_ret ?_)
    refine out_ret rfl ?_
    rw [← heq]
    exact r'
  | cons f fs' =>
    obtain ⟨b, i⟩ := f
    obtain ⟨hw, x, hx, hch'⟩ := hch
    have hw : W'[p]? = some (linkW b i) := hw
    have hx : fget W' R' b i = some x := hx
    have hi : i ≤ 100000000 := hb' (b, i) (List.mem_cons_self ..)
    have e7 : (tagW (linkW b i) != 7) = false := by rw [link_tag]; rfl
    have hxok : okW x := by
      cases b with
      | false => exact r'.ar.ok x (List.mem_of_getElem? (show W'[i]? = some x from hx))
      | true => exact r'.ok x (List.mem_of_getElem? (show R'[i]? = some x from hx))
    have hpl := (List.getElem?_eq_some_iff.1 hw).1
    simp only [List.length_cons] at hlen
    repeat' (first | refine WpC.seq ?_ | refine WpC.region ?_ | refine WpC.block ?_ | refine WpO.cons rfl rfl (WpX.pure (fun _ => rfl) ⟨nolog, ?_⟩))
    refine WpO.cons rfl rfl (call_atD rfl (get_in r'.ar rfl hw) hsub (by omega) fun v h5 c5 hc5 hf5 hq => ?_)
    obtain ⟨rfl, rfl, rfl⟩ := hq
    repeat' (first | refine WpC.seq ?_ | refine WpC.region ?_ | refine WpO.nil ?_ | refine WpO.cons rfl rfl (WpX.pure (fun _ => rfl) ⟨nolog, ?_⟩))
    refine WpO.cons rfl rfl (call_atD rfl (tag_okR (link_okW b i)) (fun n hn => by cases hn) (by omega) fun v h5 c5 hc5 hf5 hq => ?_)
    obtain ⟨rfl, rfl, rfl⟩ := hq
    repeat' (first | refine WpO.nil ?_ | refine WpO.cons rfl rfl (WpX.pure (fun _ => rfl) ⟨nolog, ?_⟩) | refine seqQ_normal ?_)
    refine WpC.cond rfl (fun hb => by rw [show (tagW (linkW b i) != 7) = false from e7] at hb; cases hb) (fun _ => ?_)
    repeat' (first | refine WpC.seq ?_ | refine WpC.region ?_ | refine WpC.skip ?_ | refine WpO.cons rfl rfl (WpX.pure (fun _ => rfl) ⟨nolog, ?_⟩))
    refine WpO.cons rfl rfl (call_atD rfl (linked_ok (b := b) hi) (fun n hn => by cases hn) (by omega) fun v h5 c5 hc5 hf5 hq => ?_)
    subst hq
    have hg5 : ∀ {o q : AObj}, MapI.get (MapI.set (MapI.set h5 c5 o) c5 q) c5 = some q := MapI.get_same _ _ _
    have r5 := fun o q => r'.same (h' := MapI.set (MapI.set h5 c5 o) c5 q) (c' := c5 + 1) (by omega) fun n hn => by
      rw [MapI.get_ne _ _ _ _ (by omega), MapI.get_ne _ _ _ _ (by omega)]; exact hf5 n hn
    repeat' (first | refine WpC.seq ?_ | refine WpC.region ?_ | refine WpO.nil ?_ | refine WpO.cons rfl rfl (WpX.pure (fun _ => rfl) ⟨nolog, ?_⟩) | refine WpO.cons rfl rfl (op_alloc rfl ⟨(by simp [InL, Acc.name, rowName] <;> omega), ?_⟩) | refine WpO.cons rfl rfl (op_store (k := 2) rfl rfl rfl rfl (MapI.get_same _ _ _) (Nat.le_of_ble_eq_true rfl) rfl ⟨(by simp [InL, Acc.name, rowName] <;> omega), ?_⟩) | refine WpO.cons rfl rfl (op_loadA (k := 2) rfl rfl rfl rfl hg5 rfl ⟨(by simp [InL, Acc.name, rowName] <;> omega), ?_⟩))
    refine WpO.cons rfl rfl (call_atD rfl (fget_ok (r5 _ _) hx) (fun n hn => .inl hn) (by omega) fun v h6 c6 hc6 hf6 hq => ?_)
    subst hq
    have r6 := (r5 _ _).same hc6 hf6
    have hg6 : MapI.get h6 c5 = some (.cells true true [.bool b, I i]) := by rw [hf6 c5 (by omega)]; exact hg5
    obtain ⟨sR, capR, rfl⟩ := hvR
    have w1 : IntKind.i64.wrap ((W'.length : Int) + (R.length : Int)) = W'.length + R.length := Go.IntWalk.i64_in _ (by omega)
    have e8 : decide (((n : Nat) : Int) ≥ IntKind.i64.wrap ((W'.length : Int) + (R.length : Int))) = false := by rw [w1]; simp; omega
    repeat' (first | refine WpC.seq ?_ | refine WpC.region ?_ | refine WpO.nil ?_ | refine WpO.cons rfl rfl (WpX.pure (fun _ => rfl) ⟨nolog, ?_⟩))
    refine WpO.cons rfl rfl (call_atD rfl (used_ok r6.ar) hsub (by omega) fun v h7 c7 hc7 hf7 hq => ?_)
    obtain ⟨rfl, rfl, rfl⟩ := hq
    repeat' (first | refine WpO.nil ?_ | refine WpO.cons rfl rfl (WpX.pure (fun _ => rfl) ⟨nolog, ?_⟩) | refine seqQ_normal ?_)
    refine WpC.cond rfl (fun hb => by rw [show decide (((n : Nat) : Int) ≥ IntKind.i64.wrap ((W'.length : Int) + (R.length : Int))) = false from e8] at hb; cases hb) (fun _ => ?_)
    repeat' (first | refine WpC.seq ?_ | refine WpC.region ?_ | refine WpC.skip ?_ | refine WpO.cons rfl rfl (WpX.pure (fun _ => rfl) ⟨nolog, ?_⟩))
    refine WpO.cons rfl rfl (call_at rfl (set_ok r6.ar rfl hpl hxok) hsub (by omega) fun v h7 c7 hc7 hf7 hq => ?_)
    obtain ⟨rfl, rfl, hA, _⟩ := hq
    have r7 : Mem h7 c6 a vW (.slice sR R.length capR) (mset (W', R') (false, p) x).1 (mset (W', R') (false, p) x).2 size := ⟨hA, r6.rr.keep (Nat.le_refl _) fun n hn hm => hf7 n hn fun hh => (by
      rcases List.mem_cons.1 hh with h | h
      · exact (r'.sep n hm).1 h
      · exact (r'.sep n hm).2 h), r'.sep, r6.ok, r6.len⟩
    have hg7 : MapI.get h7 c5 = some (.cells true true [.bool b, I i]) := by
      rw [hf7 c5 (by omega) (fun hh => by have := r'.ar.names c5 hh; omega)]; exact hg6
    have hx7 : ∃ y, fget (mset (W', R') (false, p) x).1 (mset (W', R') (false, p) x).2 b i = some y := by
      have h1 := fget_lt hx
      have h2 := mset_len (W', R') (false, p) x
      cases b with
      | false => exact ⟨_, List.getElem?_eq_getElem (by rw [h2.1]; exact h1.1 rfl)⟩
      | true => exact ⟨_, List.getElem?_eq_getElem (by rw [h2.2]; exact h1.2 rfl)⟩
    obtain ⟨y, hy⟩ := hx7
    repeat' (first | refine WpC.drawn ?_ | refine WpO.nil ?_ | refine WpL.cons rfl rfl (WpX.pure (fun _ => rfl) ⟨nolog, ?_⟩) | refine WpL.cons rfl rfl (op_loadA (k := 2) rfl rfl rfl rfl hg7 rfl ⟨(by simp [InL, Acc.name, rowName] <;> omega), ?_⟩))
    refine WpL.cons rfl rfl (call_atRL rfl (of_word_okR (t := 5) (n := (to : Int)) (by decide) (by unfold fitsW; omega)) (fun n hn => by cases hn) (by omega) fun v h8 c8 al8 hal8 hc8 hf8 hq => ?_)
    obtain ⟨rfl, rfl, rfl⟩ := hq
    skip
    refine WpL.cons rfl rfl (call_atL rfl (fset_ok r7 hy (ofW_ok (by decide))) (fun n hn => .inl hn) (by omega) fun v h9 c9 al9 hal9 hc9 hf9 r9 => ?_)
    have h8' : ∀ x ∈ al8, c5 = x.name → x.writes = false := fun x hx e => by
      rcases (hal8 x hx).1 with h | h
      · cases h
      · omega
    refine WpL.nil (logsOk_of (cs := [0, 0, 0, 0, 8, 31]) (by decide +kernel) ?_) ?_
    · simp +contextual [allP, apP, Dis, acc_rd, acc_wr, accw_rd, accw_wr, Nat.testBit, h8']
    have wn : IntKind.i64.wrap (((n : Nat) : Int) + 1) = ((n + 1 : Nat) : Int) := by rw [Go.IntWalk.i64_in _ (by omega)]; omega
    repeat' (first | refine WpC.region ?_ | refine WpO.nil ?_ | refine WpO.cons rfl rfl (WpX.pure (fun _ => rfl) ⟨nolog, ?_⟩) | refine seqQ_normal ?_)
    have l1 := mset_len (W', R') (false, p) x
    have l2 := mset_len (mset (W', R') (false, p) x) (b, i) (ptrW to)
    have hgx : (mget (W', R') (b, i)).getD 0 = x := by rw [show mget (W', R') (b, i) = some x from hx]; rfl
    refine ⟨(n + 1, fs', mset (mset (W', R') (false, p) x) (b, i) (ptrW to)), by simp only [List.length_cons]; omega, ?_, hch', by simp only; omega, ?_, r9, by rw [l2.1, l1.1]; exact hW, by rw [l2.2, l1.2]; exact hR, fun f hf => hb' f (List.mem_cons_of_mem _ hf), by omega⟩
    · rw [wn]
      exact fr ⟨rfl, rfl, rfl, rfl, rfl, trivial⟩
    · rw [← heq]
      simp only [looseM, hgx]
end
end Go.Proofs.Ytcenbfjhhaialaa


set_option linter.unusedVariables false
set_option linter.unusedSectionVars false
set_option linter.unusedSimpArgs false
set_option linter.unnecessarySimpa false
namespace Go.Proofs.Ytcenbfjhhaialaa
open Go.Ab

def enc (hd : Nat → Int) (p : Nat) : List Fld → Int
  | [] => hd p
  | f :: _ => linkW f.1 f.2
/-- Memory with threads: from each place of P one, its fields; all else is as it is. -/
structure LS (P : Nat → Prop) (hd : Nat → Int) (m : MM) (C : Nat → List Fld) (val : Fld → Int) : Prop where
  head : ∀ p, P p → mget m (false, p) = some (enc hd p (C p))
  link : ∀ p, P p → ∀ pre f rest, C p = pre ++ f :: rest → mget m f = some (enc hd p rest)
  plain : ∀ f y, mget m f = some y → (f.1 = false → ¬ P f.2) → (∀ p, P p → f ∉ C p) → y = val f
  hdr : ∀ p, P p → ∀ f ∈ C p, f.1 = false → ¬ P f.2
  nodup : ∀ p, P p → (C p).Nodup
  disj : ∀ p q, P p → P q → p ≠ q → ∀ f ∈ C p, f ∉ C q
def upd {α : Type} (C : Nat → α) (p : Nat) (x : α) : Nat → α := fun q => if q = p then x else C q
theorem upd_same {α : Type} {C : Nat → α} {p : Nat} {x : α} : upd C p x p = x := if_pos rfl
theorem upd_ne {α : Type} {C : Nat → α} {p q : Nat} {x : α} (h : q ≠ p) : upd C p x q = C q := if_neg h

section
variable {P : Nat → Prop} {hd : Nat → Int} {m : MM} {C : Nat → List Fld} {val : Fld → Int}
theorem LS.bound (s : LS P hd m C val) {p : Nat} (hp : P p) {f : Fld} (hf : f ∈ C p) : ∃ y, mget m f = some y := by
  obtain ⟨pre, rest, e⟩ := List.append_of_mem hf
  exact ⟨_, s.link p hp pre f rest e⟩
/-- Where the tail of a thread is put back into its head's place. -/
theorem LS.unhook (s : LS P hd m C val) {p to : Nat} (hp : P p) {f : Fld} {fs : List Fld} (hC : C p = f :: fs) :
    LS P hd (mset (mset m (false, p) (enc hd p fs)) f (ptrW to)) (upd C p fs) (fun g => if g = f then ptrW to else val g) := by
  have hf : f ∈ C p := by rw [hC]; exact List.mem_cons_self ..
  have hfp : f ≠ (false, p) := fun e => by subst e; exact s.hdr p hp _ hf rfl hp
  have hfv := s.link p hp [] f fs hC
  have hnd := s.nodup p hp
  rw [hC] at hnd
  obtain ⟨hn1, hn2⟩ := List.nodup_cons.1 hnd
  have hhp := s.head p hp
  have hff : ∃ y, mget (mset m (false, p) (enc hd p fs)) f = some y := ⟨_, (mget_mset_ne (Ne.symm hfp)).trans hfv⟩
  obtain ⟨y0, hff⟩ := hff
  have sub : ∀ q, P q → ∀ g ∈ upd C p fs q, g ∈ C q := fun q hq g hg => by
    by_cases e : q = p
    · subst e; rw [upd_same] at hg; rw [hC]; exact List.mem_cons_of_mem _ hg
    · rwa [upd_ne e] at hg
  refine ⟨fun q hq => ?_, fun q hq pre g rest e => ?_, fun g y hg h1 h2 => ?_, fun q hq g hg => s.hdr q hq g (sub q hq g hg), fun q hq => ?_, fun q r hq hr hne g hg hg2 => s.disj q r hq hr hne g (sub q hq g hg) (sub r hr g hg2)⟩
  · have hfq : f ≠ (false, q) := fun e => by subst e; exact s.hdr p hp _ hf rfl hq
    rw [mget_mset_ne hfq]
    by_cases e : q = p
    · subst e; rw [upd_same]; exact mget_mset hhp
    · rw [upd_ne e, mget_mset_ne (fun h => e (by cases h; rfl))]; exact s.head q hq
  · have hg : g ∈ upd C p fs q := by rw [e]; exact List.mem_append_right _ (List.mem_cons_self ..)
    have hgC := sub q hq g hg
    have hgp : (false, p) ≠ g := fun h => by subst h; exact s.hdr q hq _ hgC rfl hp
    have hgf : f ≠ g := fun h => by
      subst h
      by_cases e' : q = p
      · subst e'; rw [upd_same] at hg; exact hn1 hg
      · exact s.disj p q hp hq (Ne.symm e') _ hf hgC
    rw [mget_mset_ne hgf, mget_mset_ne hgp]
    by_cases e' : q = p
    · subst e'
      rw [upd_same] at e
      exact s.link q hq (f :: pre) g rest (by rw [hC, e]; rfl)
    · rw [upd_ne e'] at e; exact s.link q hq pre g rest e
  · by_cases e : g = f
    · subst e
      rw [mget_mset hff] at hg
      cases hg
      rw [if_pos rfl]
    · simp only [if_neg e]
      rw [mget_mset_ne (Ne.symm e)] at hg
      have hgp : (false, p) ≠ g := fun h => by subst h; exact h1 rfl hp
      rw [mget_mset_ne hgp] at hg
      refine s.plain g y hg h1 fun q hq hgq => ?_
      by_cases e' : q = p
      · subst e'
        rw [hC] at hgq
        rcases List.mem_cons.1 hgq with h | h
        · exact e h
        · exact h2 q hq (by rw [upd_same]; exact h)
      · exact h2 q hq (by rw [upd_ne e']; exact hgq)
  · by_cases e : q = p
    · subst e; rw [upd_same]; exact hn2
    · rw [upd_ne e]; exact s.nodup q hq
/-- A whole thread is taken off. -/
theorem LS.loose (htag : ∀ p, P p → tagW (hd p) ≠ 7) {p to : Nat} (hp : P p) : ∀ {fs : List Fld} {m : MM} {C : Nat → List Fld} {val : Fld → Int}, C p = fs → LS P hd m C val →
    ChainM p to fs m ∧ LS P hd (looseM p to fs m) (upd C p []) (fun g => if g ∈ fs then ptrW to else val g)
  | [], m, C, val, hC, s => by
    refine ⟨⟨hd p, ?_, htag p hp⟩, ?_⟩
    · have := s.head p hp; rw [hC] at this; exact this
    · have e1 : upd C p [] = C := by funext q; by_cases e : q = p; (subst e; rw [upd_same, hC]); rw [upd_ne e]
      rw [e1]
      simpa [looseM] using s
  | f :: fs, m, C, val, hC, s => by
    have hfv := s.link p hp [] f fs hC
    have s2 := s.unhook (to := to) hp hC
    obtain ⟨h1, h2⟩ := LS.loose htag (to := to) hp (upd_same) s2
    have hh := s.head p hp
    rw [hC] at hh
    refine ⟨⟨hh, _, hfv, h1⟩, ?_⟩
    have e0 : looseM p to (f :: fs) m = looseM p to fs (mset (mset m (false, p) (enc hd p fs)) f (ptrW to)) := by
      rw [looseM, hfv]; rfl
    have e1 : upd (upd C p fs) p [] = upd C p [] := by funext q; by_cases e : q = p; (subst e; rw [upd_same, upd_same]); rw [upd_ne e, upd_ne e, upd_ne e]
    have e2 : (fun g => if g ∈ fs then ptrW to else (if g = f then ptrW to else val g)) = fun g => if g ∈ f :: fs then ptrW to else val g := by
      funext g
      by_cases h : g = f
      · simp [h]
      · simp [h]
    rw [e0, ← e1, ← e2]
    exact h2
/-- A plain field goes onto a thread. -/
theorem LS.thread (s : LS P hd m C val) {f : Fld} {p : Nat} (hp : P p) {w : Int} (hw : mget m f = some w) (h1 : f.1 = false → ¬ P f.2) (h2 : ∀ q, P q → f ∉ C q) :
    LS P hd (mset (mset m f (enc hd p (C p))) (false, p) (linkW f.1 f.2)) (upd C p (f :: C p)) val := by
  have hfp : f ≠ (false, p) := fun e => by subst e; exact h1 rfl hp
  have hh := s.head p hp
  have hh2 : mget (mset m f (enc hd p (C p))) (false, p) = some (enc hd p (C p)) := by rw [mget_mset_ne hfp]; exact hh
  have mem : ∀ q, P q → ∀ g ∈ upd C p (f :: C p) q, g = f ∧ q = p ∨ g ∈ C q := fun q hq g hg => by
    by_cases e : q = p
    · subst e; rw [upd_same] at hg
      rcases List.mem_cons.1 hg with h | h
      · exact .inl ⟨h, rfl⟩
      · exact .inr h
    · rw [upd_ne e] at hg; exact .inr hg
  refine ⟨fun q hq => ?_, fun q hq pre g rest e => ?_, fun g y hg h3 h4 => ?_, fun q hq g hg => ?_, fun q hq => ?_, fun q r hq hr hne g hg hg2 => ?_⟩
  · by_cases e : q = p
    · subst e; rw [upd_same, mget_mset hh2]; rfl
    · rw [upd_ne e, mget_mset_ne (fun h => e (by cases h; rfl)), mget_mset_ne (fun h => by subst h; exact h1 rfl hq)]
      exact s.head q hq
  · have hg : g ∈ upd C p (f :: C p) q := by rw [e]; exact List.mem_append_right _ (List.mem_cons_self ..)
    have hgp : (false, p) ≠ g := fun h => by
      subst h
      rcases mem q hq _ hg with ⟨h, _⟩ | h
      · exact hfp h.symm
      · exact s.hdr q hq _ h rfl hp
    rw [mget_mset_ne hgp]
    by_cases e' : q = p
    · subst e'
      rw [upd_same] at e
      cases pre with
      | nil =>
        simp only [List.nil_append, List.cons.injEq] at e
        obtain ⟨rfl, rfl⟩ := e
        exact mget_mset hw
      | cons z pre =>
        simp only [List.cons_append, List.cons.injEq] at e
        obtain ⟨rfl, e⟩ := e
        have hgC : g ∈ C q := by rw [e]; exact List.mem_append_right _ (List.mem_cons_self ..)
        rw [mget_mset_ne (fun h => by subst h; exact h2 q hq hgC)]
        exact s.link q hq pre g rest e
    · rw [upd_ne e'] at e
      have hgC : g ∈ C q := by rw [e]; exact List.mem_append_right _ (List.mem_cons_self ..)
      rw [mget_mset_ne (fun h => by subst h; exact h2 q hq hgC)]
      exact s.link q hq pre g rest e
  · have hgp : (false, p) ≠ g := fun h => by subst h; exact h3 rfl hp
    have hgf : f ≠ g := fun h => by subst h; exact h4 p hp (by rw [upd_same]; exact List.mem_cons_self ..)
    rw [mget_mset_ne hgp, mget_mset_ne hgf] at hg
    refine s.plain g y hg h3 fun q hq hgq => ?_
    by_cases e : q = p
    · subst e; exact h4 q hq (by rw [upd_same]; exact List.mem_cons_of_mem _ hgq)
    · exact h4 q hq (by rw [upd_ne e]; exact hgq)
  · rcases mem q hq g hg with ⟨rfl, _⟩ | h
    · exact h1
    · exact s.hdr q hq g h
  · by_cases e : q = p
    · subst e; rw [upd_same]; exact List.nodup_cons.2 ⟨h2 q hq, s.nodup q hq⟩
    · rw [upd_ne e]; exact s.nodup q hq
  · rcases mem q hq g hg with ⟨rfl, rfl⟩ | h
    · rcases mem r hr g hg2 with ⟨_, rfl⟩ | h
      · exact hne rfl
      · exact h2 r hr h
    · rcases mem r hr g hg2 with ⟨rfl, rfl⟩ | h'
      · exact h2 q hq h
      · exact s.disj q r hq hr hne g h h'
/-- A write to a plain place. -/
theorem LS.write (s : LS P hd m C val) {f : Fld} {w y : Int} (hw : mget m f = some y) (h1 : f.1 = false → ¬ P f.2) (h2 : ∀ q, P q → f ∉ C q) : LS P hd (mset m f w) C (fun g => if g = f then w else val g) := by
  refine ⟨fun q hq => ?_, fun q hq pre g rest e => ?_, fun g z hg h3 h4 => ?_, s.hdr, s.nodup, s.disj⟩
  · rw [mget_mset_ne (fun h => by subst h; exact h1 rfl hq)]; exact s.head q hq
  · have hgC : g ∈ C q := by rw [e]; exact List.mem_append_right _ (List.mem_cons_self ..)
    rw [mget_mset_ne (fun h => by subst h; exact h2 q hq hgC)]
    exact s.link q hq pre g rest e
  · by_cases e : g = f
    · subst e; rw [mget_mset hw] at hg; cases hg; rw [if_pos rfl]
    · simp only [if_neg e]
      rw [mget_mset_ne (Ne.symm e)] at hg
      exact s.plain g z hg h3 h4
theorem LS.less {P' : Nat → Prop} (s : LS P hd m C val) (h : ∀ p, P' p → P p) (hv : ∀ f y, mget m f = some y → (f.1 = false → ¬ P' f.2) → (∀ p, P' p → f ∉ C p) → y = val f) : LS P' hd m C val :=
  ⟨fun p hp => s.head p (h p hp), fun p hp => s.link p (h p hp), hv, fun p hp f hf h1 h2 => s.hdr p (h p hp) f hf h1 (h _ h2), fun p hp => s.nodup p (h p hp), fun p q hp hq => s.disj p q (h p hp) (h q hq)⟩
end
end Go.Proofs.Ytcenbfjhhaialaa


set_option linter.unusedVariables false
set_option linter.unusedSectionVars false
set_option linter.unusedSimpArgs false
set_option linter.unnecessarySimpa false
namespace Go.Proofs.Ytcenbfjhhaialaa
open Go.Ab

theorem ObjsFrom.apart {W : List Int} {i : Nat} {l : List (Nat × Hd)} (r : ObjsFrom W i l) {p q : Nat} {x y : Hd} (hp : (p, x) ∈ l) (hq : (q, y) ∈ l) (h : p < q) : (p : Int) + 1 + x.size ≤ q := by
  induction r with
  | nil => cases hp
  | cons hx r ih =>
    rename_i i z l
    obtain ⟨_, _, _, _, _, _, hok⟩ := objW_some hx
    unfold okH at hok
    rcases List.mem_cons.1 hp with hp | hp
    · have e1 : p = i := congrArg Prod.fst hp
      have e2 : x = z := congrArg Prod.snd hp
      rcases List.mem_cons.1 hq with hq | hq
      · have e3 : q = i := congrArg Prod.fst hq
        omega
      · have h1 : i + 1 + z.size.toNat ≤ q := (r.mem _ hq).1
        subst e2
        omega
    · rcases List.mem_cons.1 hq with hq | hq
      · have e3 : q = i := congrArg Prod.fst hq
        have h1 : i + 1 + z.size.toNat ≤ p := (r.mem _ hp).1
        omega
      · exact ih hp hq

section
variable (W0 R0 : List Int) (l : List (Nat × Hd))
def Live (p : Nat) : Prop := ∃ x, (p, x) ∈ liveOf W0 l R0
def V0 (f : Fld) : Option Int := mget (W0, R0) f
def hd0W (p : Nat) : Int := (W0[p]?).getD 0
def isFld (f : Fld) : Prop := (f.1 = true ∧ f.2 < R0.length) ∨ (f.1 = false ∧ ∃ p x k, (p, x) ∈ liveOf W0 l R0 ∧ ((k : Nat) : Int) < fieldsH x ∧ f.2 = p + 1 + k)
/-- Where an object will stand. -/
def newPos : List (Nat × Hd) → Nat → Nat
  | [], _ => 0
  | (p, x) :: L, q => if p < q then 1 + x.size.toNat + newPos L q else 0
noncomputable def mvW (w : Int) : Int := if tagW w = 5 then ptrW (newPos (liveOf W0 l R0) (valW w).toNat) else w
end

section
variable {W0 R0 : List Int} {l : List (Nat × Hd)}
theorem live_obj {p : Nat} {x : Hd} (h : (p, x) ∈ liveOf W0 l R0) : (p, x) ∈ l := (mem_live.1 h).1
theorem fld_not_live (so : SoundW W0 R0 l) {i : Nat} (h : isFld W0 R0 l (false, i)) : ¬ Live W0 R0 l i := by
  rintro ⟨y, hy⟩
  rcases h with ⟨h, _⟩ | ⟨_, p, x, k, hx, hk, e⟩
  · cases h
  · have e : i = p + 1 + k := e
    have h1 := live_obj hx
    have h2 := live_obj hy
    have h3 : fieldsH x ≤ x.size := so.le _ h1
    have := so.objs.apart h1 h2 (by omega)
    omega
theorem fld_val {f : Fld} (so : SoundW W0 R0 l) (h : isFld W0 R0 l f) : ∃ w, V0 W0 R0 f = some w ∧ (tagW w = 5 → ∃ q : Nat, valW w = q ∧ Live W0 R0 l q) ∧ tagW w ≠ 7 := by
  obtain ⟨b, i⟩ := f
  rcases h with ⟨hb, hi⟩ | ⟨hb, p, x, k, hx, hk, e⟩
  · simp only at hb hi; subst hb
    obtain ⟨w, hw⟩ : ∃ w, R0[i]? = some w := ⟨_, List.getElem?_eq_getElem hi⟩
    have hm := List.mem_of_getElem? hw
    refine ⟨w, hw, fun ht => ?_, (so.roots w hm).2.1⟩
    obtain ⟨q, hq, e⟩ := (so.roots w hm).2.2 ht
    exact ⟨q.1, e, q.2, mem_live.2 ⟨hq, .root hm ht e⟩⟩
  · simp only at hb e; subst hb
    obtain ⟨hxl, hr⟩ := mem_live.1 hx
    obtain ⟨w, hw⟩ := obj_get so hxl hk
    have hf := so.fields _ hxl k w hk hw
    refine ⟨w, by subst e; exact hw, fun ht => ?_, hf.2.1⟩
    obtain ⟨q, hq, e2⟩ := hf.2.2 ht
    exact ⟨q.1, e2, q.2, mem_live.2 ⟨hq, .field hr hxl hk hw ht e2⟩⟩
theorem mget_len {m m' : MM} (h1 : m.1.length = m'.1.length) (h2 : m.2.length = m'.2.length) {f : Fld} {y : Int} (h : mget m f = some y) : ∃ z, mget m' f = some z := by
  obtain ⟨b, i⟩ := f
  have := fget_lt h
  cases b with
  | false => exact ⟨_, List.getElem?_eq_getElem (by have := this.1 rfl; omega)⟩
  | true => exact ⟨_, List.getElem?_eq_getElem (by have := this.2 rfl; omega)⟩
theorem looseM_len {p to : Nat} : ∀ (fs : List Fld) (m : MM), (looseM p to fs m).1.length = m.1.length ∧ (looseM p to fs m).2.length = m.2.length
  | [], m => ⟨rfl, rfl⟩
  | f :: fs, m => by
    have h1 := looseM_len fs (mset (mset m (false, p) ((mget m f).getD 0)) f (ptrW to)) (p := p) (to := to)
    have h2 := mset_len (mset m (false, p) ((mget m f).getD 0)) f (ptrW to)
    have h3 := mset_len m (false, p) ((mget m f).getD 0)
    exact ⟨by rw [looseM, h1.1, h2.1, h3.1], by rw [looseM, h1.2, h2.2, h3.2]⟩

structure UpI (W0 R0 : List Int) (l : List (Nat × Hd)) (D : Nat → Prop) (Pr : Fld → Prop) (m : MM) (C : Nat → List Fld) (val : Fld → Int) : Prop where
  ls : LS (Live W0 R0 l) (hd0W W0) m C val
  c1 : ∀ q, Live W0 R0 l q → ∀ f ∈ C q, Pr f ∧ ∃ w, V0 W0 R0 f = some w ∧ tagW w = 5 ∧ valW w = (q : Nat)
  c2 : ∀ q, D q → ∀ f ∈ C q, f.1 = false ∧ q < f.2
  v1 : ∀ f w, Pr f → V0 W0 R0 f = some w → (∀ q, Live W0 R0 l q → f ∉ C q) → val f = mvW W0 R0 l w
  v2 : ∀ f w, ¬ Pr f → V0 W0 R0 f = some w → val f = w
  t4 : ∀ f w (q : Nat), Pr f → V0 W0 R0 f = some w → tagW w = 5 → valW w = q → ¬ D q → f ∈ C q
  l1 : m.1.length = W0.length
  l2 : m.2.length = R0.length
  pr : ∀ f, Pr f → isFld W0 R0 l f
  dl : ∀ q, D q → Live W0 R0 l q
theorem UpI.start (so : SoundW W0 R0 l) : UpI W0 R0 l (fun _ => False) (fun _ => False) (W0, R0) (fun _ => []) (fun f => (V0 W0 R0 f).getD 0) := by
  refine ⟨⟨fun p hp => ?_, fun p _ pre f rest e => (by simp at e), fun f y hy _ _ => (by show y = (V0 W0 R0 f).getD 0; rw [show V0 W0 R0 f = some y from hy]; rfl), fun p _ f hf => (by cases hf), fun p _ => .nil, fun p q _ _ _ f hf => (by cases hf)⟩, fun q _ f hf => (by cases hf), fun q hq => hq.elim, fun f w h => h.elim, fun f w _ h => (by show (V0 W0 R0 f).getD 0 = w; rw [h]; rfl), fun f w q h => h.elim, rfl, rfl, fun f h => h.elim, fun q h => h.elim⟩
  obtain ⟨x, hx⟩ := hp
  obtain ⟨j, w, e, hw, _⟩ := objW_some (so.objs.mem _ (live_obj hx)).2
  have e : ((p : Nat) : Int) = j := e
  have : p = j := by omega
  subst this
  show W0[p]? = some (hd0W W0 p)
  unfold hd0W
  rw [hw]; rfl

variable {D : Nat → Prop} {Pr : Fld → Prop} {m : MM} {C : Nat → List Fld} {val : Fld → Int}
theorem hd_tag (so : SoundW W0 R0 l) {p : Nat} (hp : Live W0 R0 l p) : tagW (hd0W W0 p) ≠ 7 := by
  obtain ⟨x, hx⟩ := hp
  obtain ⟨j, w, e, hw, hr, _⟩ := objW_some (so.objs.mem _ (live_obj hx)).2
  have e : ((p : Nat) : Int) = j := e
  have : p = j := by omega
  subst this
  unfold hd0W
  rw [hw]
  have := (read_ok hr).2
  show tagW w ≠ 7
  omega
theorem UpI.loose (so : SoundW W0 R0 l) (u : UpI W0 R0 l D Pr m C val) {p : Nat} (hp : Live W0 R0 l p) :
    ChainM p (newPos (liveOf W0 l R0) p) (C p) m ∧ UpI W0 R0 l (fun q => q = p ∨ D q) Pr (looseM p (newPos (liveOf W0 l R0) p) (C p) m) (upd C p []) (fun g => if g ∈ C p then ptrW (newPos (liveOf W0 l R0) p) else val g) := by
  obtain ⟨h1, h2⟩ := LS.loose (P := Live W0 R0 l) (hd := hd0W W0) (p := p) (fun q hq => hd_tag so hq) (to := newPos (liveOf W0 l R0) p) hp rfl u.ls
  have sub : ∀ q, ∀ g ∈ upd C p [] q, q ≠ p ∧ g ∈ C q := fun q g hg => by
    by_cases e : q = p
    · subst e; rw [upd_same] at hg; cases hg
    · rw [upd_ne e] at hg; exact ⟨e, hg⟩
  have hl := looseM_len (p := p) (to := newPos (liveOf W0 l R0) p) (C p) m
  refine ⟨h1, h2, fun q hq f hf => u.c1 q hq f (sub q f hf).2, fun q hq f hf => ?_, fun f w hf hw hno => ?_, fun f w hf hw => ?_, fun f w q hf hw ht hv hD => ?_, hl.1.trans u.l1, hl.2.trans u.l2, u.pr, fun q hq => ?_⟩
  · obtain ⟨e, hf⟩ := sub q f hf
    rcases hq with h | h
    · exact absurd h e
    · exact u.c2 q h f hf
  · by_cases hC : f ∈ C p
    · rw [if_pos hC]
      obtain ⟨_, w', hw', ht, hv⟩ := u.c1 p hp f hC
      rw [hw] at hw'; cases hw'
      unfold mvW
      rw [if_pos ht, hv]; rfl
    · rw [if_neg hC]
      refine u.v1 f w hf hw fun q hq hfq => ?_
      by_cases e : q = p
      · subst e; exact hC hfq
      · exact hno q hq (by rw [upd_ne e]; exact hfq)
  · rw [if_neg (fun h => hf (u.c1 p hp f h).1)]
    exact u.v2 f w hf hw
  · have hne : q ≠ p := fun e => hD (.inl e)
    rw [upd_ne hne]
    exact u.t4 f w q hf hw ht hv fun h => hD (.inr h)
  · rcases hq with rfl | h
    · exact hp
    · exact u.dl q h
/-- What a field that is not threaded yet holds. -/
theorem UpI.at (so : SoundW W0 R0 l) (u : UpI W0 R0 l D Pr m C val) {f : Fld} {w : Int} (hf : isFld W0 R0 l f) (hPr : ¬ Pr f) (hw : V0 W0 R0 f = some w) : mget m f = some w ∧ (f.1 = false → ¬ Live W0 R0 l f.2) ∧ ∀ q, Live W0 R0 l q → f ∉ C q := by
  have h1 : f.1 = false → ¬ Live W0 R0 l f.2 := fun hb => by
    obtain ⟨b, i⟩ := f
    simp only at hb; subst hb
    exact fld_not_live so hf
  have h2 : ∀ q, Live W0 R0 l q → f ∉ C q := fun q hq h => hPr (u.c1 q hq f h).1
  obtain ⟨y, hy⟩ := mget_len (m' := m) u.l1.symm u.l2.symm (show mget (W0, R0) f = some w from hw)
  have := u.ls.plain f y hy h1 h2
  rw [u.v2 f w hPr hw] at this
  subst this
  exact ⟨hy, h1, h2⟩
theorem UpI.thread (so : SoundW W0 R0 l) (u : UpI W0 R0 l D Pr m C val) {f : Fld} {w : Int} {q : Nat} (hf : isFld W0 R0 l f) (hPr : ¬ Pr f) (hw : V0 W0 R0 f = some w) (ht : tagW w = 5) (hv : valW w = (q : Nat)) (hD : ∀ d, D d → f.1 = false ∧ d < f.2) :
    mget m (false, q) = some (enc (hd0W W0) q (C q)) ∧ f ≠ (false, q) ∧ UpI W0 R0 l D (fun g => g = f ∨ Pr g) (mset (mset m f (enc (hd0W W0) q (C q))) (false, q) (linkW f.1 f.2)) (upd C q (f :: C q)) val := by
  obtain ⟨h0, h1, h2⟩ := u.at so hf hPr hw
  obtain ⟨w', hw', hlive, _⟩ := fld_val so hf
  rw [hw] at hw'; cases hw'
  obtain ⟨q', hq', hL⟩ := hlive ht
  have : q' = q := by omega
  subst this
  refine ⟨u.ls.head q' hL, fun e => by subst e; exact h1 rfl hL, u.ls.thread hL h0 h1 h2, fun r hr g hg => ?_, fun r hr g hg => ?_, fun g z hg hz hno => ?_, fun g z hg hz => u.v2 g z (fun h => hg (.inr h)) hz, fun g z r hg hz ht' hv' hDr => ?_, ?_, ?_, fun g hg => ?_, u.dl⟩
  · by_cases e : r = q'
    · subst e
      rw [upd_same] at hg
      rcases List.mem_cons.1 hg with rfl | h
      · exact ⟨.inl rfl, w, hw, ht, hv⟩
      · exact ⟨.inr (u.c1 r hr g h).1, (u.c1 r hr g h).2⟩
    · rw [upd_ne e] at hg
      exact ⟨.inr (u.c1 r hr g hg).1, (u.c1 r hr g hg).2⟩
  · by_cases e : r = q'
    · subst e
      rw [upd_same] at hg
      rcases List.mem_cons.1 hg with rfl | h
      · exact hD r hr
      · exact u.c2 r hr g h
    · rw [upd_ne e] at hg
      exact u.c2 r hr g hg
  · rcases hg with rfl | hg
    · exact absurd (by rw [upd_same]; exact List.mem_cons_self ..) (hno q' hL)
    · refine u.v1 g z hg hz fun r hr hgr => ?_
      by_cases e : r = q'
      · subst e; exact hno r hr (by rw [upd_same]; exact List.mem_cons_of_mem _ hgr)
      · exact hno r hr (by rw [upd_ne e]; exact hgr)
  · rcases hg with rfl | hg
    · rw [hw] at hz; cases hz
      have : r = q' := by omega
      subst this
      rw [upd_same]; exact List.mem_cons_self ..
    · have := u.t4 g z r hg hz ht' hv' hDr
      by_cases e : r = q'
      · subst e; rw [upd_same]; exact List.mem_cons_of_mem _ this
      · rw [upd_ne e]; exact this
  · rw [(mset_len _ _ _).1, (mset_len _ _ _).1]; exact u.l1
  · rw [(mset_len _ _ _).2, (mset_len _ _ _).2]; exact u.l2
  · rcases hg with rfl | hg
    · exact hf
    · exact u.pr g hg
theorem UpI.skip (so : SoundW W0 R0 l) (u : UpI W0 R0 l D Pr m C val) {f : Fld} {w : Int} (hf : isFld W0 R0 l f) (hPr : ¬ Pr f) (hw : V0 W0 R0 f = some w) (ht : tagW w ≠ 5) : UpI W0 R0 l D (fun g => g = f ∨ Pr g) m C val := by
  refine ⟨u.ls, fun q hq g hg => ⟨.inr (u.c1 q hq g hg).1, (u.c1 q hq g hg).2⟩, u.c2, fun g z hg hz hno => ?_, fun g z hg hz => u.v2 g z (fun h => hg (.inr h)) hz, fun g z q hg hz ht' hv' hD => ?_, u.l1, u.l2, fun g hg => ?_, u.dl⟩
  · rcases hg with rfl | hg
    · rw [hw] at hz; cases hz
      rw [u.v2 g w hPr hw]
      unfold mvW
      rw [if_neg ht]
    · exact u.v1 g z hg hz hno
  · rcases hg with rfl | hg
    · rw [hw] at hz; cases hz; exact absurd ht' ht
    · exact u.t4 g z q hg hz ht' hv' hD
  · rcases hg with rfl | hg
    · exact hf
    · exact u.pr g hg
theorem UpI.congr {D' : Nat → Prop} {Pr' : Fld → Prop} (u : UpI W0 R0 l D Pr m C val) (hD : ∀ q, D q ↔ D' q) (hP : ∀ f, Pr f ↔ Pr' f) : UpI W0 R0 l D' Pr' m C val := by
  have e1 : D = D' := funext fun q => propext (hD q)
  have e2 : Pr = Pr' := funext fun q => propext (hP q)
  rw [← e1, ← e2]; exact u
theorem UpI.short (u : UpI W0 R0 l D Pr m C val) {p : Nat} (hp : Live W0 R0 l p) : (C p).length ≤ m.1.length + m.2.length ∧ ∀ f ∈ C p, f.2 < m.1.length ∨ f.2 < m.2.length := by
  have hb : ∀ f ∈ C p, f ∈ (List.range m.1.length).map (fun i => ((false, i) : Fld)) ++ (List.range m.2.length).map fun i => ((true, i) : Fld) := fun f hf => by
    obtain ⟨y, hy⟩ := u.ls.bound hp hf
    obtain ⟨b, i⟩ := f
    have := fget_lt hy
    cases b with
    | false => exact List.mem_append_left _ (List.mem_map.2 ⟨i, List.mem_range.2 (this.1 rfl), rfl⟩)
    | true => exact List.mem_append_right _ (List.mem_map.2 ⟨i, List.mem_range.2 (this.2 rfl), rfl⟩)
  refine ⟨?_, fun f hf => ?_⟩
  · have := List.Nodup.length_le_of_subset (u.ls.nodup p hp) hb
    simpa using this
  · rcases List.mem_append.1 (hb f hf) with h | h
    · obtain ⟨i, hi, rfl⟩ := List.mem_map.1 h
      exact .inl (List.mem_range.1 hi)
    · obtain ⟨i, hi, rfl⟩ := List.mem_map.1 h
      exact .inr (List.mem_range.1 hi)
end
end Go.Proofs.Ytcenbfjhhaialaa


set_option linter.unusedVariables false
set_option linter.unusedSectionVars false
set_option linter.unusedSimpArgs false
set_option linter.unnecessarySimpa false
namespace Go.Proofs.Ytcenbfjhhaialaa
open Go.Ab

section
variable (W0 R0 : List Int) (l : List (Nat × Hd))
/-- What a word is in the end, by its old place. -/
noncomputable def finW (i : Nat) : Int := @ite _ (isFld W0 R0 l (false, i)) (Classical.propDecidable _) (mvW W0 R0 l ((W0[i]?).getD 0)) ((W0[i]?).getD 0)
noncomputable def objF (o : Nat × Hd) : List Int := (List.range (1 + o.2.size.toNat)).map fun k => finW W0 R0 l (o.1 + k)
noncomputable def slidW (L : List (Nat × Hd)) : List Int := L.flatMap (objF W0 R0 l)
end

section
variable {W0 R0 : List Int} {l : List (Nat × Hd)}
theorem finW_fld {i : Nat} {w : Int} (h : isFld W0 R0 l (false, i)) (hw : W0[i]? = some w) : finW W0 R0 l i = mvW W0 R0 l w := by
  unfold finW
  rw [if_pos h, hw]; rfl
theorem finW_no {i : Nat} {w : Int} (h : ¬ isFld W0 R0 l (false, i)) (hw : W0[i]? = some w) : finW W0 R0 l i = w := by
  unfold finW
  rw [if_neg h, hw]; rfl
theorem objF_len (o : Nat × Hd) : (objF W0 R0 l o).length = 1 + o.2.size.toNat := by simp [objF]
theorem newPos_at : ∀ {done todo : List (Nat × Hd)} {p : Nat} {x : Hd}, ((done ++ (p, x) :: todo).map Prod.fst).Pairwise (· < ·) → newPos (done ++ (p, x) :: todo) p = (slidW W0 R0 l done).length
  | [], todo, p, x, h => by simp [newPos, slidW]
  | (q, y) :: done, todo, p, x, h => by
    obtain ⟨h1, h2⟩ := List.pairwise_cons.1 (show ((q :: ((done ++ (p, x) :: todo).map Prod.fst)).Pairwise (· < ·)) from h)
    have hq : q < p := h1 p (by simp)
    have ih := newPos_at h2
    show (if q < p then 1 + y.size.toNat + newPos (done ++ (p, x) :: todo) p else 0) = _
    rw [if_pos hq, ih]
    simp only [slidW, List.flatMap_cons, List.length_append, objF_len]

/-- Where the words below a place are written anew. -/
theorem LS.tail {P P' : Nat → Prop} {hd : Nat → Int} {m m' : MM} {C : Nat → List Fld} {val : Fld → Int} {cur : Nat} (s : LS P hd m C val) (hP : ∀ p, P' p → P p ∧ cur ≤ p) (hP2 : ∀ p, P p → cur ≤ p → P' p) (h0 : ∀ p, P p → ¬ P' p → C p = [])
    (hC : ∀ p, P' p → ∀ f ∈ C p, f.1 = false ∧ cur ≤ f.2) (hm : ∀ f : Fld, (f.1 = false → cur ≤ f.2) → mget m' f = mget m f) :
    LS P' hd m' C (fun f => if f.1 = false → cur ≤ f.2 then val f else (mget m' f).getD 0) := by
  refine ⟨fun p hp => ?_, fun p hp pre f rest e => ?_, fun f y hy h1 h2 => ?_, fun p hp f hf h1 h2 => s.hdr p (hP p hp).1 f hf h1 (hP _ h2).1, fun p hp => s.nodup p (hP p hp).1, fun p q hp hq => s.disj p q (hP p hp).1 (hP q hq).1⟩
  · rw [hm _ fun _ => (hP p hp).2]; exact s.head p (hP p hp).1
  · have := hC p hp f (by rw [e]; exact List.mem_append_right _ (List.mem_cons_self ..))
    rw [hm _ fun _ => this.2]; exact s.link p (hP p hp).1 pre f rest e
  · by_cases hl : f.1 = false → cur ≤ f.2
    · show y = if _ then _ else _
      rw [if_pos hl]
      rw [hm _ hl] at hy
      refine s.plain f y hy (fun hb hPf => h1 hb (hP2 _ hPf (hl hb))) fun p hp => ?_
      by_cases hp' : P' p
      · exact h2 p hp'
      · rw [h0 p hp hp']; exact fun h => by cases h
    · show y = if _ then _ else _
      rw [if_neg hl, hy]; rfl

structure DnI (W0 R0 : List Int) (l : List (Nat × Hd)) (cur : Nat) (m : MM) (C : Nat → List Fld) (val : Fld → Int) : Prop where
  ls : LS (fun p => Live W0 R0 l p ∧ cur ≤ p) (hd0W W0) m C val
  d1 : ∀ q, Live W0 R0 l q → cur ≤ q → ∀ f ∈ C q, f.1 = false ∧ q < f.2 ∧ isFld W0 R0 l f ∧ ∃ w, V0 W0 R0 f = some w ∧ tagW w = 5 ∧ valW w = (q : Nat)
  d2 : ∀ i, cur ≤ i → i < W0.length → ¬ Live W0 R0 l i → (∀ q, Live W0 R0 l q → cur ≤ q → (false, i) ∉ C q) → val (false, i) = finW W0 R0 l i
  d5 : ∀ j w, R0[j]? = some w → val (true, j) = mvW W0 R0 l w
  l1 : m.1.length = W0.length
  l2 : m.2.length = R0.length

theorem DnI.start {D : Nat → Prop} {Pr : Fld → Prop} {m : MM} {C : Nat → List Fld} {val : Fld → Int} (so : SoundW W0 R0 l) (u : UpI W0 R0 l D Pr m C val) (hD : ∀ q, Live W0 R0 l q → D q) (hP : ∀ f, isFld W0 R0 l f → Pr f) : DnI W0 R0 l 0 m C val := by
  refine ⟨?_, fun q hq _ f hf => ?_, fun i _ hi hL hno => ?_, fun j w hw => ?_, u.l1, u.l2⟩
  · have e : (fun p => Live W0 R0 l p ∧ 0 ≤ p) = Live W0 R0 l := funext fun p => propext ⟨fun h => h.1, fun h => ⟨h, Nat.zero_le _⟩⟩
    rw [e]; exact u.ls
  · have h1 := u.c2 q (hD q hq) f hf
    have h2 := u.c1 q hq f hf
    exact ⟨h1.1, h1.2, u.pr f h2.1, h2.2⟩
  · obtain ⟨w, hw⟩ : ∃ w, W0[i]? = some w := ⟨_, List.getElem?_eq_getElem hi⟩
    by_cases hf : isFld W0 R0 l (false, i)
    · rw [finW_fld hf hw]
      exact u.v1 _ w (hP _ hf) hw fun q hq => hno q hq (Nat.zero_le _)
    · rw [finW_no hf hw]
      exact u.v2 _ w (fun h => hf (u.pr _ h)) hw
  · refine u.v1 _ w (hP _ (.inl ⟨rfl, (List.getElem?_eq_some_iff.1 hw).1⟩)) hw fun q hq hf => ?_
    have := (u.c2 q (hD q hq) _ hf).1
    cases this

variable {cur : Nat} {m : MM} {C : Nat → List Fld} {val : Fld → Int}
/-- One object more: its thread is taken off; then its words are what they are in the end. -/
theorem DnI.loose (so : SoundW W0 R0 l) (u : DnI W0 R0 l cur m C val) {p : Nat} {x : Hd} (hp : (p, x) ∈ liveOf W0 l R0) (hcur : cur ≤ p) (hnext : ∀ q, Live W0 R0 l q → cur ≤ q → p ≤ q) :
    ChainM p (newPos (liveOf W0 l R0) p) (C p) m ∧ DnI W0 R0 l cur (looseM p (newPos (liveOf W0 l R0) p) (C p) m) (upd C p []) (fun g => if g ∈ C p then ptrW (newPos (liveOf W0 l R0) p) else val g) ∧
      ∀ k, k < 1 + x.size.toNat → (looseM p (newPos (liveOf W0 l R0) p) (C p) m).1[p + k]? = some (finW W0 R0 l (p + k)) := by
  have hLp : Live W0 R0 l p := ⟨x, hp⟩
  obtain ⟨h1, h2⟩ := LS.loose (P := fun p => Live W0 R0 l p ∧ cur ≤ p) (hd := hd0W W0) (p := p) (fun q hq => hd_tag so hq.1) (to := newPos (liveOf W0 l R0) p) ⟨hLp, hcur⟩ rfl u.ls
  have sub : ∀ q, ∀ g ∈ upd C p [] q, q ≠ p ∧ g ∈ C q := fun q g hg => by
    by_cases e : q = p
    · subst e; rw [upd_same] at hg; cases hg
    · rw [upd_ne e] at hg; exact ⟨e, hg⟩
  have hl := looseM_len (p := p) (to := newPos (liveOf W0 l R0) p) (C p) m
  have hdn : DnI W0 R0 l cur (looseM p (newPos (liveOf W0 l R0) p) (C p) m) (upd C p []) (fun g => if g ∈ C p then ptrW (newPos (liveOf W0 l R0) p) else val g) := by
    refine ⟨h2, fun q hq hc f hf => u.d1 q hq hc f (sub q f hf).2, fun i hi hlt hL hno => ?_, fun j w hw => ?_, hl.1.trans u.l1, hl.2.trans u.l2⟩
    · by_cases hC : ((false, i) : Fld) ∈ C p
      · rw [if_pos hC]
        obtain ⟨_, _, hf, w, hw, ht, hv⟩ := u.d1 p hLp hcur _ hC
        rw [finW_fld hf hw]
        unfold mvW
        rw [if_pos ht, hv]; rfl
      · rw [if_neg hC]
        refine u.d2 i hi hlt hL fun q hq hc hf => ?_
        by_cases e : q = p
        · subst e; exact hC hf
        · exact hno q hq hc (by rw [upd_ne e]; exact hf)
    · rw [if_neg (fun h => by have := (u.d1 p hLp hcur _ h).1; cases this)]
      exact u.d5 j w hw
  refine ⟨h1, hdn, fun k hk => ?_⟩
  obtain ⟨j, w0, e, hw0, hr, hsz, hok⟩ := objW_some (so.objs.mem _ (live_obj hp)).2
  have e : ((p : Nat) : Int) = j := e
  have hsz : (j : Int) + 1 + x.size ≤ W0.length := hsz
  unfold okH at hok
  have hok : 0 ≤ x.kind ∧ x.kind ≤ 3 ∧ 0 ≤ x.size ∧ x.size < 1048576 ∧ 0 ≤ x.tree ∧ x.tree < 1048576 := hok
  have hjp : j = p := by omega
  subst hjp
  have hlt : j + k < W0.length := by omega
  cases k with
  | zero =>
    have := h2.head j ⟨hLp, hcur⟩
    rw [upd_same] at this
    have hn : ¬ isFld W0 R0 l (false, j) := fun h => fld_not_live so h hLp
    rw [Nat.add_zero, finW_no hn hw0]
    have h3 : (looseM j (newPos (liveOf W0 l R0) j) (C j) m).1[j]? = some (hd0W W0 j) := this
    rw [h3]
    unfold hd0W
    rw [hw0]; rfl
  | succ k =>
    obtain ⟨y, hy⟩ : ∃ y, (looseM j (newPos (liveOf W0 l R0) j) (C j) m).1[j + (k + 1)]? = some y := ⟨_, List.getElem?_eq_getElem (by rw [hl.1, u.l1]; exact hlt)⟩
    have hnl : ¬ Live W0 R0 l (j + (k + 1)) := by
      rintro ⟨z, hz⟩
      have := so.objs.apart (live_obj hp) (live_obj hz) (by omega)
      omega
    have hnc : ∀ q, Live W0 R0 l q → cur ≤ q → ((false, j + (k + 1)) : Fld) ∉ upd C j [] q := fun q hq hc hf => by
      obtain ⟨hne, hf⟩ := sub q _ hf
      have hlt2 := (u.d1 q hq hc _ hf).2.1
      have hlt2 : q < j + (k + 1) := hlt2
      have hge := hnext q hq hc
      obtain ⟨z, hz⟩ := hq
      have := so.objs.apart (live_obj hp) (live_obj hz) (by omega)
      omega
    rw [hy, ← hdn.d2 (j + (k + 1)) (by omega) hlt hnl hnc]
    congr 1
    exact h2.plain _ y hy (fun _ h => hnl h.1) fun q hq => hnc q hq.1 hq.2
/-- Words moved down. -/
def moveW (W : List Int) (p to n : Nat) : List Int := W.take to ++ (W.drop p).take n ++ W.drop (to + n)
theorem moveW_len {W : List Int} {p to n : Nat} (h1 : to ≤ p) (h2 : p + n ≤ W.length) : (moveW W p to n).length = W.length := by
  simp only [moveW, List.length_append, List.length_take, List.length_drop]; omega
theorem moveW_lo {W : List Int} {p to n i : Nat} (h1 : to ≤ p) (h2 : p + n ≤ W.length) (hi : i < to) : (moveW W p to n)[i]? = W[i]? := by
  unfold moveW
  rw [List.append_assoc, List.getElem?_append_left (by rw [List.length_take]; omega), List.getElem?_take, if_pos hi]
theorem moveW_mid {W : List Int} {p to n i : Nat} (h1 : to ≤ p) (h2 : p + n ≤ W.length) (hi : i < n) : (moveW W p to n)[to + i]? = W[p + i]? := by
  unfold moveW
  rw [List.append_assoc, List.getElem?_append_right (by rw [List.length_take]; omega), List.length_take, Nat.min_eq_left (by omega), List.getElem?_append_left (by rw [List.length_take, List.length_drop]; omega), List.getElem?_take, if_pos (by omega), List.getElem?_drop]
  congr 1; omega
theorem moveW_hi {W : List Int} {p to n i : Nat} (h1 : to ≤ p) (h2 : p + n ≤ W.length) (hi : to + n ≤ i) : (moveW W p to n)[i]? = W[i]? := by
  unfold moveW
  rw [List.getElem?_append_right (by simp only [List.length_append, List.length_take, List.length_drop]; omega), List.getElem?_drop]
  congr 1
  simp only [List.length_append, List.length_take, List.length_drop]; omega

/-- The object's words are moved: the next one's turn. -/
theorem DnI.move (so : SoundW W0 R0 l) (u : DnI W0 R0 l cur m C val) {p to : Nat} {x : Hd} (hp : (p, x) ∈ liveOf W0 l R0) (hcur : cur ≤ p) (hnext : ∀ q, Live W0 R0 l q → cur ≤ q → p ≤ q) (hC : C p = []) (hto : to ≤ p) :
    ∃ val', DnI W0 R0 l (p + (1 + x.size.toNat)) (moveW m.1 p to (1 + x.size.toNat), m.2) C val' := by
  obtain ⟨j, w0, e, hw0, hr, hsz, hok⟩ := objW_some (so.objs.mem _ (live_obj hp)).2
  have e : ((p : Nat) : Int) = j := e
  have hsz : (j : Int) + 1 + x.size ≤ W0.length := hsz
  unfold okH at hok
  have hok : 0 ≤ x.kind ∧ x.kind ≤ 3 ∧ 0 ≤ x.size ∧ x.size < 1048576 ∧ 0 ≤ x.tree ∧ x.tree < 1048576 := hok
  have hpn : p + (1 + x.size.toNat) ≤ m.1.length := by rw [u.l1]; omega
  have hm : ∀ f : Fld, (f.1 = false → p + (1 + x.size.toNat) ≤ f.2) → mget (moveW m.1 p to (1 + x.size.toNat), m.2) f = mget m f := fun f hf => by
    obtain ⟨b, i⟩ := f
    cases b with
    | false => exact moveW_hi hto hpn (by have := hf rfl; simp only at this; omega)
    | true => rfl
  have t := u.ls.tail (P' := fun q => Live W0 R0 l q ∧ p + (1 + x.size.toNat) ≤ q) (m' := (moveW m.1 p to (1 + x.size.toNat), m.2)) (cur := p + (1 + x.size.toNat)) (fun q hq => ⟨⟨hq.1, by omega⟩, hq.2⟩) (fun q hq h => ⟨hq.1, h⟩) (fun q hq hn => ?_) (fun q hq f hf => ?_) hm
  · refine ⟨_, t, fun q hq hc f hf => u.d1 q hq (by omega) f hf, fun i hi hlt hL hno => ?_, fun j w hw => ?_, (moveW_len hto hpn).trans u.l1, u.l2⟩
    · show (if _ then _ else _) = _
      rw [if_pos (fun _ => hi)]
      refine u.d2 i (by omega) hlt hL fun q hq hc hf => ?_
      rcases Nat.lt_or_ge q (p + (1 + x.size.toNat)) with h | h
      · have hge := hnext q hq hc
        obtain ⟨z, hz⟩ := hq
        have : q = p := by
          rcases Nat.lt_or_ge p q with h' | h'
          · have := so.objs.apart (live_obj hp) (live_obj hz) h'; omega
          · omega
        subst this
        rw [hC] at hf; cases hf
      · exact hno q hq h hf
    · show (if _ then _ else _) = _
      rw [if_pos (fun h => by cases h)]
      exact u.d5 j w hw
  · have hge := hnext q hq.1 hq.2
    have hlt : q < p + (1 + x.size.toNat) := by
      rcases Nat.lt_or_ge q (p + (1 + x.size.toNat)) with h | h
      · exact h
      · exact absurd ⟨hq.1, h⟩ hn
    obtain ⟨z, hz⟩ := hq.1
    have : q = p := by
      rcases Nat.lt_or_ge p q with h' | h'
      · have := so.objs.apart (live_obj hp) (live_obj hz) h'; omega
      · omega
    subst this
    exact hC
  · have := u.d1 q hq.1 (by omega) f hf
    exact ⟨this.1, by have := this.2.1; omega⟩
end
end Go.Proofs.Ytcenbfjhhaialaa


set_option linter.unusedVariables false
set_option linter.unusedSectionVars false
set_option linter.unusedSimpArgs false
set_option linter.unnecessarySimpa false
namespace Go.Proofs.Ytcenbfjhhaialaa
open Go.Ab
set_option maxRecDepth 10000

theorem hd_len (x : Hd) : (hdV x).length = 4 := rfl
/-- The slider, at a name. -/
structure SlAt (h : HH) (c a sn : Nat) (vW vR vL vH : V) (m : MM) (size : Int) (L : List (Nat × Hd)) (hs : List Hd) : Prop where
  mem : Mem h c a vW vR m.1 m.2 size
  obj : MapI.get h sn = some (.cells true true [.ptr (some (a, 0)), vR, vL, vH])
  ll : ListOf 1 intV h c vL (places L)
  hh : RowOf 4 hdV h c vH hs
  ls : sn < c
  s1 : ∀ n ∈ mn a vW vR, n ≠ sn ∧ n ∉ rowName vL ∧ n ∉ rowName vH
  s2 : sn ∉ rowName vL ∧ sn ∉ rowName vH
  s3 : ∀ n ∈ rowName vL, n ∉ rowName vH
section
variable {h h' : HH} {c c' a sn : Nat} {vW vR vL vH : V} {m m' : MM} {size : Int} {L : List (Nat × Hd)} {hs : List Hd}
theorem SlAt.mems (s : SlAt h c a sn vW vR vL vH m size L hs) (r : Mem h' c' a vW vR m'.1 m'.2 size) (hc : c ≤ c') (hf : ∀ n, n < c → n ∉ mn a vW vR → MapI.get h' n = MapI.get h n) : SlAt h' c' a sn vW vR vL vH m' size L hs :=
  ⟨r, by rw [hf sn s.ls (fun hm => (s.s1 sn hm).1 rfl)]; exact s.obj, s.ll.keep hc fun n hn hm => hf n hn fun h => (s.s1 n h).2.1 hm, s.hh.keep hc fun n hn hm => hf n hn fun h => (s.s1 n h).2.2 hm, Nat.lt_of_lt_of_le s.ls hc, s.s1, s.s2, s.s3⟩
theorem SlAt.same (s : SlAt h c a sn vW vR vL vH m size L hs) (hc : c ≤ c') (hf : ∀ n, n < c → MapI.get h' n = MapI.get h n) : SlAt h' c' a sn vW vR vL vH m size L hs := s.mems (s.mem.same hc hf) hc fun n hn _ => hf n hn
abbrev sln (a sn : Nat) (vW vR vL vH : V) : List Nat := sn :: (mn a vW vR ++ (rowName vL ++ rowName vH))

theorem moveW_set {W : List Int} {p to k : Nat} {w : Int} (h1 : to ≤ p) (h2 : p + (k + 1) ≤ W.length) (hw : W[p + k]? = some w) : (moveW W p to k).set (to + k) w = moveW W p to (k + 1) := by
  refine List.ext_getElem? fun i => ?_
  by_cases e : to + k = i
  · subst e
    rw [moveW_mid h1 (by omega) (Nat.lt_succ_self k), List.getElem?_set_self (by rw [moveW_len h1 (by omega)]; omega), hw]
  · rw [List.getElem?_set_ne e]
    rcases Nat.lt_or_ge i to with h | h
    · rw [moveW_lo h1 (by omega) h, moveW_lo h1 (by omega) h]
    · rcases Nat.lt_or_ge i (to + k) with h' | h'
      · obtain ⟨j, rfl⟩ : ∃ j, i = to + j := ⟨i - to, by omega⟩
        rw [moveW_mid h1 (by omega) (by omega), moveW_mid h1 (by omega) (by omega)]
      · rw [moveW_hi h1 (by omega) h', moveW_hi h1 (by omega) (by omega)]

theorem move_ok {p to n : Nat} (s : SlAt h c a sn vW vR vL vH m size L hs) (h1 : to ≤ p) (h2 : p + n ≤ m.1.length) :
    Does 68 [.ptr (some (sn, 0)), I p, I to, I n] h c (sn :: mn a vW vR) fun v h' c' => SlAt h' c' a sn vW vR vL vH (moveW m.1 p to n, m.2) size L hs := by
  have hlw := s.mem.lenW
  have hsub : ∀ x ∈ an a vW, x ∈ sn :: mn a vW vR ∨ c ≤ x := fun x hx => .inl (List.mem_cons_of_mem _ (List.mem_append_left _ hx))
  refine does_of (enter (fn := Try.f68) Try.func68 rfl rfl (Nat.le_of_ble_eq_true rfl) ?_)
  repeat' (first | refine WpC.seq ?_ | refine WpC.region ?_ | refine WpC.block ?_ | refine WpO.nil ?_ | refine WpO.cons rfl rfl (WpX.pure (fun _ => rfl) ⟨nolog, ?_⟩))
  refine WpC.loop ?_
  refine WpLoop.ind (X := Nat) (fun k e' h' c' => (∃ b0, e' = FR b0 [(0, V.ptr (some (sn, 0))), (1, I p), (2, I to), (11, I n), (12, I k)]) ∧ k ≤ n ∧ SlAt h' c' a sn vW vR vL vH (moveW m.1 p to k, m.2) size L hs ∧ c ≤ c')
    (fun k => n - k) ?_ 0 _ _ _ ⟨fr ⟨rfl, rfl, rfl, rfl, rfl, trivial⟩, Nat.zero_le _, (by have : moveW m.1 p to 0 = m.1 := (by simp [moveW]); rw [this]; exact s), Nat.le_refl _⟩
  rintro k e' h' c' ⟨⟨b0, rfl⟩, hk, s', hc⟩
  have hobj := s'.obj
  repeat' (first | refine WpC.seq ?_ | refine WpC.region ?_ | refine WpO.nil ?_ | refine WpO.cons rfl rfl (WpX.pure (fun _ => rfl) ⟨nolog, ?_⟩))
  refine WpC.cond rfl (fun hlt => ?_) (fun hge => ?_)
  case refine_2 =>
    have hge : n ≤ k := by simpa using hge
    have : k = n := by omega
    subst this
    repeat' (first | refine WpC.exit ?_ | refine seqQ_exit ?_ | refine blkQ_out rfl ?_)
    exact out_normal rfl s'
  have hlt : k < n := by simpa using hlt
  obtain ⟨w, hw⟩ : ∃ w, m.1[p + k]? = some w := ⟨_, List.getElem?_eq_getElem (by omega)⟩
  have hw' : (moveW m.1 p to k)[p + k]? = some w := by rw [moveW_hi h1 (by omega) (by omega)]; exact hw
  have hwok : okW w := s.mem.ar.ok w (List.mem_of_getElem? hw)
  have wa : IntKind.i64.wrap ((p : Int) + (k : Int)) = ((p + k : Nat) : Int) := by rw [Go.IntWalk.i64_in _ (by omega)]; omega
  have wb : IntKind.i64.wrap ((to : Int) + (k : Int)) = ((to + k : Nat) : Int) := by rw [Go.IntWalk.i64_in _ (by omega)]; omega
  have wk : IntKind.i64.wrap ((k : Int) + 1) = ((k + 1 : Nat) : Int) := by rw [Go.IntWalk.i64_in _ (by omega)]; omega
  repeat' (first | refine WpC.seq ?_ | refine WpC.region ?_ | refine WpC.skip ?_ | refine WpC.block ?_ | refine WpO.nil ?_ | refine WpO.cons rfl rfl (WpX.pure (fun _ => rfl) ⟨nolog, ?_⟩) | refine WpO.cons rfl rfl (op_load rfl rfl rfl hobj rfl ⟨(by simp [InL, Acc.name, rowName] <;> omega), ?_⟩))
  refine WpO.cons rfl rfl (call_atD rfl (get_in s'.mem.ar wa hw') hsub (by omega) fun v4 h4 c4 hc4 hf4 hq => ?_)
  obtain ⟨rfl, rfl, rfl⟩ := hq
  repeat' (first | refine WpC.region ?_ | refine WpO.nil ?_ | refine WpO.cons rfl rfl (WpX.pure (fun _ => rfl) ⟨nolog, ?_⟩) | refine WpO.cons rfl rfl (op_load rfl rfl rfl hobj rfl ⟨(by simp [InL, Acc.name, rowName] <;> omega), ?_⟩))
  refine WpO.cons rfl rfl (call_at rfl (set_ok s'.mem.ar wb (by rw [moveW_len h1 (by omega)]; omega) hwok) hsub (by omega) fun v5 h5 c5 hc5 hf5 hq => ?_)
  obtain ⟨rfl, rfl, hA, _⟩ := hq
  have r5 : Mem h5 c' a vW vR (moveW m.1 p to (k + 1), m.2).1 (moveW m.1 p to (k + 1), m.2).2 size := ⟨by rw [← moveW_set h1 (by omega) hw]; exact hA, s'.mem.rr.keep (Nat.le_refl _) fun x hx hm => hf5 x hx fun hh => (by
    rcases List.mem_cons.1 hh with h | h
    · exact (s.mem.sep x hm).1 h
    · exact (s.mem.sep x hm).2 h), s.mem.sep, s.mem.ok, s.mem.len⟩
  have s5 := s'.mems r5 (Nat.le_refl _) fun x hx hm => hf5 x hx fun hh => hm (List.mem_append_left _ hh)
  repeat' (first | refine WpC.region ?_ | refine WpO.nil ?_ | refine WpO.cons rfl rfl (WpX.pure (fun _ => rfl) ⟨nolog, ?_⟩) | refine seqQ_normal ?_)
  refine ⟨k + 1, by omega, ?_, by omega, s5, by omega⟩
  rw [wk]
  exact fr ⟨rfl, rfl, rfl, rfl, rfl, trivial⟩

/-- The handle that goes with an object. -/
def gone1 (W : List Int) (o : Nat × Hd) : List Int :=
  match W[o.1 + 1]? with
  | some w => if o.2.kind = 3 ∧ 0 < o.2.size ∧ w ≠ 0 then [IntKind.i64.wrap w] else []
  | none => []
noncomputable def goneOf (W R : List Int) (l : List (Nat × Hd)) (k : List (Nat × Hd)) : List Int := (k.filter fun p => !@decide (Reach W l R p.1) (Classical.propDecidable _)).flatMap (gone1 W)
theorem gone_live {W R : List Int} {l k : List (Nat × Hd)} {o : Nat × Hd} (h : Reach W l R o.1) : goneOf W R l (k ++ [o]) = goneOf W R l k := by
  unfold goneOf
  rw [List.filter_append, List.flatMap_append, List.filter_cons, List.filter_nil]
  simp [h]
theorem gone_dead {W R : List Int} {l k : List (Nat × Hd)} {o : Nat × Hd} (h : ¬ Reach W l R o.1) : goneOf W R l (k ++ [o]) = goneOf W R l k ++ gone1 W o := by
  unfold goneOf
  rw [List.filter_append, List.flatMap_append, List.filter_cons, List.filter_nil]
  simp [h]
end
end Go.Proofs.Ytcenbfjhhaialaa


set_option linter.unusedVariables false
set_option linter.unusedSectionVars false
set_option linter.unusedSimpArgs false
set_option linter.unnecessarySimpa false
namespace Go.Proofs.Ytcenbfjhhaialaa
open Go.Ab
set_option maxRecDepth 10000

section
variable {h h' : HH} {c c' a sn : Nat} {vW vR vL vH : V} {W R : List Int} {size : Int} {l : List (Nat × Hd)} {hs : List Hd}
noncomputable def liveIn (W R : List Int) (l k : List (Nat × Hd)) : List (Nat × Hd) := k.filter fun p => @decide (Reach W l R p.1) (Classical.propDecidable _)
theorem liveIn_all {W R : List Int} {l : List (Nat × Hd)} : liveIn W R l l = liveOf W l R := rfl
theorem liveIn_app {W R : List Int} {l a b : List (Nat × Hd)} : liveIn W R l (a ++ b) = liveIn W R l a ++ liveIn W R l b := by simp [liveIn]
theorem liveIn_yes {W R : List Int} {l b : List (Nat × Hd)} {o : Nat × Hd} (h : Reach W l R o.1) : liveIn W R l (o :: b) = o :: liveIn W R l b := by
  unfold liveIn; rw [List.filter_cons]; simp [h]
theorem liveIn_no {W R : List Int} {l b : List (Nat × Hd)} {o : Nat × Hd} (h : ¬ Reach W l R o.1) : liveIn W R l (o :: b) = liveIn W R l b := by
  unfold liveIn; rw [List.filter_cons]; simp [h]

set_option maxHeartbeats 1000000 in
theorem gone_ok (s : SlAt h c a sn vW vR vL vH (W, R) size (liveOf W l R) hs) (so : SoundW W R l) :
    Does 54 [.ptr (some (sn, 0))] h c (sln a sn vW vR vL vH) fun v h' c' => ListOf 1 intV h' c' v (goneOf W R l l) ∧ (∀ n ∈ rowName v, c ≤ n) ∧ ∀ n, n < c → MapI.get h' n = MapI.get h n := by
  have hlw := s.mem.lenW
  have hlw : W.length ≤ 1048576 := hlw
  have hll := places_le so.objs
  have hobj := s.obj
  have hls := s.ls
  have hokW : ∀ x ∈ W, okW x := s.mem.ar.ok
  have hsub : ∀ x ∈ an a vW, x ∈ sln a sn vW vR vL vH ∨ c ≤ x := fun x hx => .inl (List.mem_cons_of_mem _ (List.mem_append_left _ (List.mem_append_left _ hx)))
  refine does_of (enter (fn := Try.f54) Try.func54 rfl rfl (Nat.le_of_ble_eq_true rfl) ?_)
  repeat' (first | refine WpC.seq ?_ | refine WpC.region ?_ | refine WpO.nil ?_ | refine WpO.cons rfl rfl (WpX.pure (fun _ => rfl) ⟨nolog, ?_⟩) | refine WpO.cons rfl rfl (op_load rfl rfl rfl hobj rfl ⟨(by simp [InL, Acc.name, rowName] <;> omega), ?_⟩))
  refine WpO.cons rfl rfl (call_at rfl (objects_ok s.mem.ar so.objs) hsub (by omega) fun v2 h2 c2 hc2 _ hq => ?_)
  obtain ⟨vA, rfl, hA, hAn, hf2⟩ := hq
  have s2 := s.same hc2 hf2
  have hobj2 := s2.obj
  have hAlt := hA.lt
  have hLlt := s2.ll.lt
  obtain ⟨sA, capA, rfl, hsA⟩ := hA.shape
  have hlenA : (places l).length = l.length := List.length_map _
  rw [hlenA] at hsA hAlt hAn
  repeat' (first | refine WpC.seq ?_ | refine WpC.region ?_ | refine WpC.block ?_ | refine WpO.nil ?_ | refine WpO.cons rfl rfl (WpX.pure (fun _ => rfl) ⟨nolog, ?_⟩))
  rw [hlenA]
  refine WpC.loop ?_
  refine WpLoop.ind (X := Nat × V) (fun y e' h' c' => (∃ b0, e' = FR b0 [(0, V.ptr (some (sn, 0))), (3, y.2), (4, I (liveIn W R l (l.take y.1)).length), (21, .slice sA l.length capA), (22, I l.length), (23, I y.1)]) ∧ y.1 ≤ l.length ∧ ListOf (0 + 1) intV h' c' y.2 (goneOf W R l (l.take y.1)) ∧ (goneOf W R l (l.take y.1)).length ≤ y.1 ∧ (∀ n ∈ rowName y.2, c2 ≤ n) ∧ c2 ≤ c' ∧ ∀ n, n < c2 → MapI.get h' n = MapI.get h2 n)
    (fun y => l.length - y.1) ?_ (0, .slice none 0 (.known 0)) _ _ _ ⟨fr ⟨rfl, rfl, rfl, rfl, rfl, rfl, trivial⟩, Nat.zero_le _, .nil, Nat.le_refl _, fun n hn => (by cases hn), Nat.le_refl _, fun _ _ => rfl⟩
  rintro ⟨i, v⟩ e' h' c' ⟨⟨b0, rfl⟩, hi, hv, hgl, hvn, hc', hf'⟩
  simp only at hi hv hvn hgl
  repeat' (first | refine WpC.seq ?_ | refine WpC.region ?_ | refine WpO.nil ?_ | refine WpO.cons rfl rfl (WpX.pure (fun _ => rfl) ⟨nolog, ?_⟩))
  refine WpC.cond rfl (fun hlt => ?_) (fun hge => ?_)
  case refine_2 =>
    have hge : l.length ≤ i := by simpa using hge
    rw [List.take_of_length_le hge] at hv
    repeat' (first | refine WpC.seq ?_ | refine WpC.region ?_ | refine WpC.exit ?_ | refine WpC.ret ?_ | refine WpO.nil ?_ | refine WpO.cons rfl rfl (WpX.pure (fun _ => rfl) ⟨nolog, ?_⟩))
    exact out_ret rfl ⟨hv, fun n hn => (by have := hvn n hn; omega), fun n hn => by rw [hf' n (by omega)]; exact hf2 n hn⟩
  have hlt : i < l.length := by simpa using hlt
  obtain ⟨⟨p, x⟩, hx⟩ : ∃ z, l[i]? = some z := ⟨_, List.getElem?_eq_getElem hlt⟩
  have hxm := List.mem_of_getElem? hx
  have htk : l.take (i + 1) = l.take i ++ [(p, x)] := by rw [List.take_add_one, hx]; rfl
  have hsplit : liveOf W l R = liveIn W R l (l.take i) ++ liveIn W R l ((p, x) :: l.drop (i + 1)) := by
    rw [← liveIn_all, ← liveIn_app]
    congr 1
    have : l.drop i = (p, x) :: l.drop (i + 1) := by
      rw [List.drop_eq_getElem_cons hlt]
      have := (List.getElem?_eq_some_iff.1 hx).2
      rw [this]
    rw [← this, List.take_append_drop]
  obtain ⟨jj, w', ej, hw', _, hsz, hxok⟩ := objW_some (so.objs.mem _ hxm).2
  have ej : ((p : Nat) : Int) = jj := ej
  have hsz : (jj : Int) + 1 + x.size ≤ W.length := hsz
  unfold okH at hxok
  have hxok : 0 ≤ x.kind ∧ x.kind ≤ 3 ∧ 0 ≤ x.size ∧ x.size < 1048576 ∧ 0 ≤ x.tree ∧ x.tree < 1048576 := hxok
  obtain ⟨rfl, sa, cl, junk, rfl, hsa, hg, _⟩ := hsA i hlt
  have hsac : c ≤ sa := hAn sa (by simp [rowName])
  have hg' : MapI.get h' sa = _ := (hf' sa hsa).trans hg
  have hz : nth (flat intV (places l) ++ junk) (0 + ((i : Nat) : Int).toNat * 1) = some (I p) := by
    rw [show 0 + ((i : Nat) : Int).toNat * 1 = i from by simp]
    exact nth_flat0 int_len (by rw [List.getElem?_map, hx]; rfl) rfl junk
  have wi : IntKind.i64.wrap ((i : Int) + 1) = ((i + 1 : Nat) : Int) := by rw [Go.IntWalk.i64_in _ (by omega)]; omega
  have hobj' : MapI.get h' sn = some (.cells true true [.ptr (some (a, 0)), vR, vL, vH]) := by rw [hf' sn (by omega)]; exact hobj2
  have hkl : (liveIn W R l (l.take i)).length ≤ i := by
    have := List.length_filter_le (fun p => @decide (Reach W l R p.1) (Classical.propDecidable _)) (l.take i)
    rw [List.length_take] at this
    unfold liveIn; omega
  obtain ⟨sL, capL, hvL, hsL⟩ := s2.ll.shape
  have hlenL : (places (liveOf W l R)).length = (liveOf W l R).length := List.length_map _
  rw [hlenL] at hvL hsL
  by_cases hr : Reach W l R p
  · -- it stays
    have hk : (liveOf W l R)[(liveIn W R l (l.take i)).length]? = some (p, x) := by
      rw [hsplit, List.getElem?_append_right (Nat.le_refl _), Nat.sub_self, liveIn_yes hr]; rfl
    have hkl2 := (List.getElem?_eq_some_iff.1 hk).1
    obtain ⟨rfl, sb, cl2, junk2, rfl, hsb, hg2, _⟩ := hsL _ hkl2
    have hg2' : MapI.get h' sb = _ := (hf' sb hsb).trans hg2
    have hz2 : nth (flat intV (places (liveOf W l R)) ++ junk2) (0 + (((liveIn W R l (l.take i)).length : Nat) : Int).toNat * 1) = some (I p) := by
      rw [show 0 + (((liveIn W R l (l.take i)).length : Nat) : Int).toNat * 1 = (liveIn W R l (l.take i)).length from by simp]
      exact nth_flat0 int_len (by rw [List.getElem?_map, hk]; rfl) rfl junk2
    have e1 : decide ((((liveIn W R l (l.take i)).length : Nat) : Int) < (((liveOf W l R).length : Nat) : Int)) = true := decide_eq_true (by omega)
    have wk : IntKind.i64.wrap (((liveIn W R l (l.take i)).length : Int) + 1) = ((liveIn W R l (l.take (i + 1))).length : Int) := by
      rw [htk, liveIn_app, liveIn_yes hr, List.length_append]
      have : (liveIn W R l []).length = 0 := rfl
      rw [List.length_cons, this, Go.IntWalk.i64_in _ (by omega)]; omega
    subst hvL
    repeat' (first | refine WpC.seq ?_ | refine WpC.region ?_ | refine WpC.skip ?_ | refine WpC.block ?_ | refine WpO.nil ?_ | refine WpO.cons rfl rfl (WpX.pure (fun _ => rfl) ⟨nolog, ?_⟩) | refine WpO.cons rfl rfl (op_indexAddr (k := 1) rfl rfl rfl rfl ⟨by omega, by omega⟩ ⟨(by simp [InL, Acc.name, rowName] <;> omega), ?_⟩) | refine WpO.cons rfl rfl (op_load rfl rfl rfl hg' hz ⟨(by simp [InL, Acc.name, rowName] <;> omega), ?_⟩) | refine WpO.cons rfl rfl (op_load rfl rfl rfl hobj' rfl ⟨(by simp [InL, Acc.name, rowName] <;> omega), ?_⟩))
    simp only [e1]
    repeat' (first | refine WpO.nil ?_ | refine WpO.cons rfl rfl (WpX.pure (fun _ => rfl) ⟨nolog, ?_⟩) | refine seqQ_normal ?_ | refine WpO.cons rfl rfl (op_load rfl rfl rfl hobj' rfl ⟨(by simp [InL, Acc.name, rowName] <;> omega), ?_⟩) | refine WpO.cons rfl rfl (op_indexAddr (k := 1) rfl rfl rfl rfl ⟨by omega, by omega⟩ ⟨(by simp [InL, Acc.name, rowName] <;> omega), ?_⟩) | refine WpO.cons rfl rfl (op_load rfl rfl rfl hg2' hz2 ⟨(by simp [InL, Acc.name, rowName] <;> omega), ?_⟩))
    refine WpC.cond rfl (fun _ => ?_) (fun hb => by simp at hb)
    repeat' (first | refine WpC.seq ?_ | refine WpC.region ?_ | refine WpC.exit ?_ | refine WpO.nil ?_ | refine WpO.cons rfl rfl (WpX.pure (fun _ => rfl) ⟨nolog, ?_⟩) | refine seqQ_normal ?_)
    refine ⟨(i + 1, v), by simp only; omega, ?_, by simp only; omega, ?_, ?_, hvn, hc', hf'⟩
    · rw [wi, wk]
      exact fr ⟨rfl, rfl, rfl, rfl, rfl, rfl, trivial⟩
    · simp only [htk, gone_live (o := (p, x)) hr]; exact hv
    · simp only [htk, gone_live (o := (p, x)) hr]; omega
  -- it goes
  have hlin : (liveIn W R l (l.take (i + 1))).length = (liveIn W R l (l.take i)).length := by
    rw [htk, liveIn_app, liveIn_no hr, List.length_append]; rfl
  have hgo : goneOf W R l (l.take (i + 1)) = goneOf W R l (l.take i) ++ gone1 W (p, x) := by rw [htk]; exact gone_dead hr
  have hg1 : (gone1 W (p, x)).length ≤ 1 := by
    unfold gone1; split
    · split <;> simp
    · simp
  have fin : ∀ (e2 : EE) (h2' : HH) (c2' : Nat) (v2 : V), AllIn e2 [(0, V.ptr (some (sn, 0))), (3, v2), (4, I (liveIn W R l (l.take i)).length), (21, .slice (some (sa, 0)) l.length (.upTo 1)), (22, I l.length), (23, I (i + 1 : Nat))] →
      ListOf (0 + 1) intV h2' c2' v2 (goneOf W R l (l.take i) ++ gone1 W (p, x)) → (∀ n ∈ rowName v2, c2 ≤ n) → c2 ≤ c2' → (∀ n, n < c2 → MapI.get h2' n = MapI.get h2 n) →
      ∃ y : Nat × V, l.length - y.1 < l.length - i ∧ (∃ b0, e2 = FR b0 [(0, V.ptr (some (sn, 0))), (3, y.2), (4, I (liveIn W R l (l.take y.1)).length), (21, .slice (some (sa, 0)) l.length (.upTo 1)), (22, I l.length), (23, I y.1)]) ∧ y.1 ≤ l.length ∧ ListOf (0 + 1) intV h2' c2' y.2 (goneOf W R l (l.take y.1)) ∧ (goneOf W R l (l.take y.1)).length ≤ y.1 ∧ (∀ n ∈ rowName y.2, c2 ≤ n) ∧ c2 ≤ c2' ∧ ∀ n, n < c2 → MapI.get h2' n = MapI.get h2 n :=
    fun e2 h2' c2' v2 ha hl hn hc hf => ⟨(i + 1, v2), by simp only; omega, by simp only [hlin]; exact fr ha, by simp only; omega, by simp only [hgo]; exact hl, by simp only [hgo, List.length_append]; omega, hn, hc, hf⟩
  have s' : SlAt h' c' a sn vW vR vL vH (W, R) size (liveOf W l R) hs := s2.same hc' hf'
  have wp : IntKind.i64.wrap ((p : Int) + 1) = ((p + 1 : Nat) : Int) := by rw [Go.IntWalk.i64_in _ (by omega)]; omega
  have hob : objW W ((p : Nat) : Int) = some x := (so.objs.mem _ hxm).2
  by_cases hk : (liveIn W R l (l.take i)).length < (liveOf W l R).length
  · obtain ⟨⟨q, y⟩, hq⟩ : ∃ z, (liveOf W l R)[(liveIn W R l (l.take i)).length]? = some z := ⟨_, List.getElem?_eq_getElem hk⟩
    have hqp : (((q : Nat) : Int) == ((p : Nat) : Int)) = false := beq_eq_false_iff_ne.2 fun e => by
      have : q = p := by omega
      subst this
      exact hr (mem_live.1 (List.mem_of_getElem? hq)).2
    obtain ⟨rfl, sb, cl2, junk2, rfl, hsb, hg2, _⟩ := hsL _ hk
    have hg2' : MapI.get h' sb = _ := (hf' sb hsb).trans hg2
    have hz2 : nth (flat intV (places (liveOf W l R)) ++ junk2) (0 + (((liveIn W R l (l.take i)).length : Nat) : Int).toNat * 1) = some (I q) := by
      rw [show 0 + (((liveIn W R l (l.take i)).length : Nat) : Int).toNat * 1 = (liveIn W R l (l.take i)).length from by simp]
      exact nth_flat0 int_len (by rw [List.getElem?_map, hq]; rfl) rfl junk2
    have e1 : decide ((((liveIn W R l (l.take i)).length : Nat) : Int) < (((liveOf W l R).length : Nat) : Int)) = true := decide_eq_true (by omega)
    subst hvL
    repeat' (first | refine WpC.seq ?_ | refine WpC.region ?_ | refine WpC.skip ?_ | refine WpC.block ?_ | refine WpO.nil ?_ | refine WpO.cons rfl rfl (WpX.pure (fun _ => rfl) ⟨nolog, ?_⟩) | refine WpO.cons rfl rfl (op_indexAddr (k := 1) rfl rfl rfl rfl ⟨by omega, by omega⟩ ⟨(by simp [InL, Acc.name, rowName] <;> omega), ?_⟩) | refine WpO.cons rfl rfl (op_load rfl rfl rfl hg' hz ⟨(by simp [InL, Acc.name, rowName] <;> omega), ?_⟩) | refine WpO.cons rfl rfl (op_load rfl rfl rfl hobj' rfl ⟨(by simp [InL, Acc.name, rowName] <;> omega), ?_⟩))
    simp only [e1]
    repeat' (first | refine WpO.nil ?_ | refine WpO.cons rfl rfl (WpX.pure (fun _ => rfl) ⟨nolog, ?_⟩) | refine seqQ_normal ?_ | refine WpO.cons rfl rfl (op_load rfl rfl rfl hobj' rfl ⟨(by simp [InL, Acc.name, rowName] <;> omega), ?_⟩) | refine WpO.cons rfl rfl (op_indexAddr (k := 1) rfl rfl rfl rfl ⟨by omega, by omega⟩ ⟨(by simp [InL, Acc.name, rowName] <;> omega), ?_⟩) | refine WpO.cons rfl rfl (op_load rfl rfl rfl hg2' hz2 ⟨(by simp [InL, Acc.name, rowName] <;> omega), ?_⟩))
    refine WpC.cond rfl (fun hb => by rw [show ((((q : Nat) : Int) == ((p : Nat) : Int)) = false) from hqp] at hb; cases hb) (fun _ => ?_)
    repeat' (first | refine WpC.seq ?_ | refine WpC.region ?_ | refine WpC.skip ?_ | refine WpO.cons rfl rfl (WpX.pure (fun _ => rfl) ⟨nolog, ?_⟩) | refine WpO.cons rfl rfl (op_load rfl rfl rfl hobj' rfl ⟨(by simp [InL, Acc.name, rowName] <;> omega), ?_⟩))
    refine WpO.cons rfl rfl (call_atD rfl (object_ok s'.mem.ar) hsub (by omega) fun v4 h4 c4 hc4 hf4 hq4 => ?_)
    rw [show objW (W, R).1 ((p : Nat) : Int) = some x from hob] at hq4
    subst hq4
    have hf5 : ∀ {o q : AObj}, ∀ n, n < c' → MapI.get (MapI.set (MapI.set h4 c4 o) c4 q) n = MapI.get h' n := fun {o q} n hn => by
      rw [MapI.get_ne _ _ _ _ (by omega), MapI.get_ne _ _ _ _ (by omega)]; exact hf4 n hn
    have hobj5 : ∀ {o q : AObj}, MapI.get (MapI.set (MapI.set h4 c4 o) c4 q) sn = _ := fun {o q} => (hf5 sn (by omega)).trans hobj'
    have s5 := fun o q => s'.same (h' := MapI.set (MapI.set h4 c4 o) c4 q) (c' := c4 + 1) (by omega) hf5
    have hgx : ∀ {o q : AObj}, MapI.get (MapI.set (MapI.set h4 c4 o) c4 q) c4 = some q := MapI.get_same _ _ _
    have hv5 : ∀ {o q : AObj}, ListOf (0 + 1) intV (MapI.set (MapI.set h4 c4 o) c4 q) (c4 + 1) v (goneOf W R l (l.take i)) := fun {o q} => hv.keep (by omega) fun n hn _ => hf5 n hn
    have hf6 : ∀ {o q : AObj}, ∀ n, n < c2 → MapI.get (MapI.set (MapI.set h4 c4 o) c4 q) n = MapI.get h2 n := fun {o q} n hn => by rw [hf5 n (by omega)]; exact hf' n hn
    repeat' (first | refine WpC.seq ?_ | refine WpC.region ?_ | refine WpO.nil ?_ | refine WpO.cons rfl rfl (WpX.pure (fun _ => rfl) ⟨nolog, ?_⟩) | refine WpO.cons rfl rfl (op_alloc rfl ⟨(by simp [InL, Acc.name, rowName] <;> omega), ?_⟩) | refine WpO.cons rfl rfl (op_store (k := 4) rfl rfl rfl rfl (MapI.get_same _ _ _) (Nat.le_of_ble_eq_true rfl) rfl ⟨(by simp [InL, Acc.name, rowName] <;> omega), ?_⟩) | refine WpO.cons rfl rfl (op_load rfl rfl rfl hobj5 rfl ⟨(by simp [InL, Acc.name, rowName] <;> omega), ?_⟩))
    by_cases hp1 : p + 1 < W.length
    case neg =>
      have hgn : gone1 W (p, x) = [] := by unfold gone1; rw [List.getElem?_eq_none (by show W.length ≤ p + 1; omega)]
      refine WpO.cons rfl rfl (call_atD rfl (get_out (s5 _ _).mem.ar (i := IntKind.i64.wrap ((p : Int) + 1)) (by rw [wp]; show ¬ (_ ∧ _ < (W.length : Int)); omega)) hsub (by omega) fun v6 h6 c6 hc6 _ hq6 => ?_)
      obtain ⟨rfl, rfl, rfl⟩ := hq6
      repeat' (first | refine WpC.seq ?_ | refine WpC.region ?_ | refine WpO.nil ?_ | refine WpO.cons rfl rfl (WpX.pure (fun _ => rfl) ⟨nolog, ?_⟩) | refine WpO.skip rfl rfl ?_ | refine seqQ_normal ?_)
      refine WpC.cond rfl (fun hb => by cases hb) (fun _ => ?_)
      repeat' (first | refine WpC.region ?_ | refine WpC.skip ?_ | refine WpO.nil ?_ | refine WpO.cons rfl rfl (WpX.pure (fun _ => rfl) ⟨nolog, ?_⟩) | refine seqQ_normal ?_)
      exact fin _ _ _ v (by rw [← wi]; exact ⟨rfl, rfl, rfl, rfl, rfl, rfl, trivial⟩) (by rw [hgn, List.append_nil]; exact hv5) hvn (by omega) hf6
    obtain ⟨w, hw⟩ : ∃ w, W[p + 1]? = some w := ⟨_, List.getElem?_eq_getElem hp1⟩
    refine WpO.cons rfl rfl (call_atD rfl (get_in (s5 _ _).mem.ar wp hw) hsub (by omega) fun v6 h6 c6 hc6 _ hq6 => ?_)
    obtain ⟨rfl, rfl, rfl⟩ := hq6
    by_cases k3 : x.kind = 3
    case neg =>
      have hgn : gone1 W (p, x) = [] := by unfold gone1; rw [show W[(p, x).1 + 1]? = some w from hw]; exact if_neg fun h => k3 h.1
      have e3 : (x.kind == 3) = false := by simpa using k3
      repeat' (first | refine WpC.seq ?_ | refine WpC.region ?_ | refine WpO.nil ?_ | refine WpO.cons rfl rfl (WpX.pure (fun _ => rfl) ⟨nolog, ?_⟩) | refine WpO.cons rfl rfl (op_load rfl rfl rfl hgx rfl ⟨(by simp [InL, Acc.name, rowName] <;> omega), ?_⟩))
      simp only [e3]
      repeat' (first | refine WpO.nil ?_ | refine WpO.cons rfl rfl (WpX.pure (fun _ => rfl) ⟨nolog, ?_⟩) | refine WpO.skip rfl rfl ?_ | refine seqQ_normal ?_)
      refine WpC.cond rfl (fun hb => by cases hb) (fun _ => ?_)
      repeat' (first | refine WpC.region ?_ | refine WpC.skip ?_ | refine WpO.nil ?_ | refine WpO.cons rfl rfl (WpX.pure (fun _ => rfl) ⟨nolog, ?_⟩) | refine seqQ_normal ?_)
      exact fin _ _ _ v (by rw [← wi]; exact ⟨rfl, rfl, rfl, rfl, rfl, rfl, trivial⟩) (by rw [hgn, List.append_nil]; exact hv5) hvn (by omega) hf6
    have e3 : (x.kind == 3) = true := by simpa using k3
    by_cases k4 : x.size > 0
    case neg =>
      have hgn : gone1 W (p, x) = [] := by unfold gone1; rw [show W[(p, x).1 + 1]? = some w from hw]; exact if_neg fun h => k4 h.2.1
      have e4 : decide (x.size > 0) = false := by simpa using k4
      repeat' (first | refine WpC.seq ?_ | refine WpC.region ?_ | refine WpO.nil ?_ | refine WpO.cons rfl rfl (WpX.pure (fun _ => rfl) ⟨nolog, ?_⟩) | refine WpO.cons rfl rfl (op_load rfl rfl rfl hgx rfl ⟨(by simp [InL, Acc.name, rowName] <;> omega), ?_⟩))
      simp only [e3]
      repeat' (first | refine WpO.cons rfl rfl (WpX.pure (fun _ => rfl) ⟨nolog, ?_⟩) | refine WpO.cons rfl rfl (op_load rfl rfl rfl hgx rfl ⟨(by simp [InL, Acc.name, rowName] <;> omega), ?_⟩))
      simp only [e4]
      repeat' (first | refine WpO.nil ?_ | refine WpO.cons rfl rfl (WpX.pure (fun _ => rfl) ⟨nolog, ?_⟩) | refine WpO.skip rfl rfl ?_ | refine seqQ_normal ?_)
      refine WpC.cond rfl (fun hb => by cases hb) (fun _ => ?_)
      repeat' (first | refine WpC.region ?_ | refine WpC.skip ?_ | refine WpO.nil ?_ | refine WpO.cons rfl rfl (WpX.pure (fun _ => rfl) ⟨nolog, ?_⟩) | refine seqQ_normal ?_)
      exact fin _ _ _ v (by rw [← wi]; exact ⟨rfl, rfl, rfl, rfl, rfl, rfl, trivial⟩) (by rw [hgn, List.append_nil]; exact hv5) hvn (by omega) hf6
    have e4 : decide (x.size > 0) = true := by simpa using k4
    by_cases k5 : w = 0
    · have hgn : gone1 W (p, x) = [] := by unfold gone1; rw [show W[(p, x).1 + 1]? = some w from hw]; exact if_neg fun h => h.2.2 k5
      have e5 : (w != 0) = false := by simpa using k5
      repeat' (first | refine WpC.seq ?_ | refine WpC.region ?_ | refine WpO.nil ?_ | refine WpO.cons rfl rfl (WpX.pure (fun _ => rfl) ⟨nolog, ?_⟩) | refine WpO.cons rfl rfl (op_load rfl rfl rfl hgx rfl ⟨(by simp [InL, Acc.name, rowName] <;> omega), ?_⟩))
      simp only [e3]
      repeat' (first | refine WpO.cons rfl rfl (WpX.pure (fun _ => rfl) ⟨nolog, ?_⟩) | refine WpO.cons rfl rfl (op_load rfl rfl rfl hgx rfl ⟨(by simp [InL, Acc.name, rowName] <;> omega), ?_⟩))
      simp only [e4]
      repeat' (first | refine WpO.nil ?_ | refine WpO.cons rfl rfl (WpX.pure (fun _ => rfl) ⟨nolog, ?_⟩) | refine seqQ_normal ?_)
      refine WpC.cond rfl (fun hb => by rw [show (w != 0) = false from e5] at hb; cases hb) (fun _ => ?_)
      repeat' (first | refine WpC.region ?_ | refine WpC.skip ?_ | refine WpO.nil ?_ | refine WpO.cons rfl rfl (WpX.pure (fun _ => rfl) ⟨nolog, ?_⟩) | refine seqQ_normal ?_)
      exact fin _ _ _ v (by rw [← wi]; exact ⟨rfl, rfl, rfl, rfl, rfl, rfl, trivial⟩) (by rw [hgn, List.append_nil]; exact hv5) hvn (by omega) hf6
    have e5 : (w != 0) = true := by simpa using k5
    have hgn : gone1 W (p, x) = [IntKind.i64.wrap w] := by unfold gone1; rw [show W[(p, x).1 + 1]? = some w from hw]; exact if_pos ⟨k3, k4, k5⟩
    repeat' (first | refine WpC.seq ?_ | refine WpC.region ?_ | refine WpO.nil ?_ | refine WpO.cons rfl rfl (WpX.pure (fun _ => rfl) ⟨nolog, ?_⟩) | refine WpO.cons rfl rfl (op_load rfl rfl rfl hgx rfl ⟨(by simp [InL, Acc.name, rowName] <;> omega), ?_⟩))
    simp only [e3]
    repeat' (first | refine WpO.cons rfl rfl (WpX.pure (fun _ => rfl) ⟨nolog, ?_⟩) | refine WpO.cons rfl rfl (op_load rfl rfl rfl hgx rfl ⟨(by simp [InL, Acc.name, rowName] <;> omega), ?_⟩))
    simp only [e4]
    repeat' (first | refine WpO.nil ?_ | refine WpO.cons rfl rfl (WpX.pure (fun _ => rfl) ⟨nolog, ?_⟩) | refine seqQ_normal ?_)
    refine WpC.cond rfl (fun _ => ?_) (fun hb => by rw [show (w != 0) = true from e5] at hb; cases hb)
    have hvlt := hv.lt
    repeat' (first | refine WpC.region ?_ | refine WpO.cons rfl rfl (WpX.pure (fun _ => rfl) ⟨nolog, ?_⟩) | refine WpO.cons rfl rfl (op_buildSlice (k := 1) rfl rfl rfl rfl (by decide) rfl ⟨(by simp [InL, Acc.name, rowName] <;> omega), ?_⟩))
    have hv7 : ∀ {o q z : AObj}, ListOf (0 + 1) intV (MapI.set (MapI.set (MapI.set h4 c4 o) c4 q) (c4 + 1) z) (c4 + 1 + 1) v (goneOf W R l (l.take i)) := fun {o q z} => hv5.keep (by omega) fun n hn _ => MapI.get_ne _ _ _ _ (by omega)
    refine WpO.cons rfl rfl (append1 (y := IntKind.i64.wrap w) rfl rfl ⟨rfl, rfl, rfl, ⟨_, rfl, by decide⟩⟩ rfl int_len int_all hv7 (MapI.get_same _ _ _) (by omega) (by omega) (fun n h => .inr (by have := hvn n h; omega)) (by omega) fun v8 h8 c8 r8 hn8 hc8 hf8 => ?_)
    repeat' (first | refine WpC.region ?_ | refine WpO.nil ?_ | refine WpO.cons rfl rfl (WpX.pure (fun _ => rfl) ⟨nolog, ?_⟩) | refine seqQ_normal ?_)
    refine fin _ _ _ v8 (by rw [← wi]; exact ⟨rfl, rfl, rfl, rfl, rfl, rfl, trivial⟩) (by rw [hgn]; exact r8) (fun n hn => ?_) (by omega) fun n hn => ?_
    · rcases hn8 n hn with h | h
      · exact hvn n h
      · omega
    · rw [hf8 n (by omega) (fun hm => by have := hvn n hm; omega), MapI.get_ne _ _ _ _ (by omega)]; exact hf6 n hn
  · have e1 : decide ((((liveIn W R l (l.take i)).length : Nat) : Int) < (((liveOf W l R).length : Nat) : Int)) = false := decide_eq_false (by omega)
    subst hvL
    repeat' (first | refine WpC.seq ?_ | refine WpC.region ?_ | refine WpC.skip ?_ | refine WpC.block ?_ | refine WpO.nil ?_ | refine WpO.cons rfl rfl (WpX.pure (fun _ => rfl) ⟨nolog, ?_⟩) | refine WpO.cons rfl rfl (op_indexAddr (k := 1) rfl rfl rfl rfl ⟨by omega, by omega⟩ ⟨(by simp [InL, Acc.name, rowName] <;> omega), ?_⟩) | refine WpO.cons rfl rfl (op_load rfl rfl rfl hg' hz ⟨(by simp [InL, Acc.name, rowName] <;> omega), ?_⟩) | refine WpO.cons rfl rfl (op_load rfl rfl rfl hobj' rfl ⟨(by simp [InL, Acc.name, rowName] <;> omega), ?_⟩))
    simp only [e1]
    repeat' (first | refine WpO.nil ?_ | refine WpO.cons rfl rfl (WpX.pure (fun _ => rfl) ⟨nolog, ?_⟩) | refine WpO.skip rfl rfl ?_ | refine seqQ_normal ?_)
    refine WpC.cond rfl (fun hb => by cases hb) (fun _ => ?_)
    repeat' (first | refine WpC.seq ?_ | refine WpC.region ?_ | refine WpC.skip ?_ | refine WpO.cons rfl rfl (WpX.pure (fun _ => rfl) ⟨nolog, ?_⟩) | refine WpO.cons rfl rfl (op_load rfl rfl rfl hobj' rfl ⟨(by simp [InL, Acc.name, rowName] <;> omega), ?_⟩))
    refine WpO.cons rfl rfl (call_atD rfl (object_ok s'.mem.ar) hsub (by omega) fun v4 h4 c4 hc4 hf4 hq4 => ?_)
    rw [show objW (W, R).1 ((p : Nat) : Int) = some x from hob] at hq4
    subst hq4
    have hf5 : ∀ {o q : AObj}, ∀ n, n < c' → MapI.get (MapI.set (MapI.set h4 c4 o) c4 q) n = MapI.get h' n := fun {o q} n hn => by
      rw [MapI.get_ne _ _ _ _ (by omega), MapI.get_ne _ _ _ _ (by omega)]; exact hf4 n hn
    have hobj5 : ∀ {o q : AObj}, MapI.get (MapI.set (MapI.set h4 c4 o) c4 q) sn = _ := fun {o q} => (hf5 sn (by omega)).trans hobj'
    have s5 := fun o q => s'.same (h' := MapI.set (MapI.set h4 c4 o) c4 q) (c' := c4 + 1) (by omega) hf5
    have hgx : ∀ {o q : AObj}, MapI.get (MapI.set (MapI.set h4 c4 o) c4 q) c4 = some q := MapI.get_same _ _ _
    have hv5 : ∀ {o q : AObj}, ListOf (0 + 1) intV (MapI.set (MapI.set h4 c4 o) c4 q) (c4 + 1) v (goneOf W R l (l.take i)) := fun {o q} => hv.keep (by omega) fun n hn _ => hf5 n hn
    have hf6 : ∀ {o q : AObj}, ∀ n, n < c2 → MapI.get (MapI.set (MapI.set h4 c4 o) c4 q) n = MapI.get h2 n := fun {o q} n hn => by rw [hf5 n (by omega)]; exact hf' n hn
    repeat' (first | refine WpC.seq ?_ | refine WpC.region ?_ | refine WpO.nil ?_ | refine WpO.cons rfl rfl (WpX.pure (fun _ => rfl) ⟨nolog, ?_⟩) | refine WpO.cons rfl rfl (op_alloc rfl ⟨(by simp [InL, Acc.name, rowName] <;> omega), ?_⟩) | refine WpO.cons rfl rfl (op_store (k := 4) rfl rfl rfl rfl (MapI.get_same _ _ _) (Nat.le_of_ble_eq_true rfl) rfl ⟨(by simp [InL, Acc.name, rowName] <;> omega), ?_⟩) | refine WpO.cons rfl rfl (op_load rfl rfl rfl hobj5 rfl ⟨(by simp [InL, Acc.name, rowName] <;> omega), ?_⟩))
    by_cases hp1 : p + 1 < W.length
    case neg =>
      have hgn : gone1 W (p, x) = [] := by unfold gone1; rw [List.getElem?_eq_none (by show W.length ≤ p + 1; omega)]
      refine WpO.cons rfl rfl (call_atD rfl (get_out (s5 _ _).mem.ar (i := IntKind.i64.wrap ((p : Int) + 1)) (by rw [wp]; show ¬ (_ ∧ _ < (W.length : Int)); omega)) hsub (by omega) fun v6 h6 c6 hc6 _ hq6 => ?_)
      obtain ⟨rfl, rfl, rfl⟩ := hq6
      repeat' (first | refine WpC.seq ?_ | refine WpC.region ?_ | refine WpO.nil ?_ | refine WpO.cons rfl rfl (WpX.pure (fun _ => rfl) ⟨nolog, ?_⟩) | refine WpO.skip rfl rfl ?_ | refine seqQ_normal ?_)
      refine WpC.cond rfl (fun hb => by cases hb) (fun _ => ?_)
      repeat' (first | refine WpC.region ?_ | refine WpC.skip ?_ | refine WpO.nil ?_ | refine WpO.cons rfl rfl (WpX.pure (fun _ => rfl) ⟨nolog, ?_⟩) | refine seqQ_normal ?_)
      exact fin _ _ _ v (by rw [← wi]; exact ⟨rfl, rfl, rfl, rfl, rfl, rfl, trivial⟩) (by rw [hgn, List.append_nil]; exact hv5) hvn (by omega) hf6
    obtain ⟨w, hw⟩ : ∃ w, W[p + 1]? = some w := ⟨_, List.getElem?_eq_getElem hp1⟩
    refine WpO.cons rfl rfl (call_atD rfl (get_in (s5 _ _).mem.ar wp hw) hsub (by omega) fun v6 h6 c6 hc6 _ hq6 => ?_)
    obtain ⟨rfl, rfl, rfl⟩ := hq6
    by_cases k3 : x.kind = 3
    case neg =>
      have hgn : gone1 W (p, x) = [] := by unfold gone1; rw [show W[(p, x).1 + 1]? = some w from hw]; exact if_neg fun h => k3 h.1
      have e3 : (x.kind == 3) = false := by simpa using k3
      repeat' (first | refine WpC.seq ?_ | refine WpC.region ?_ | refine WpO.nil ?_ | refine WpO.cons rfl rfl (WpX.pure (fun _ => rfl) ⟨nolog, ?_⟩) | refine WpO.cons rfl rfl (op_load rfl rfl rfl hgx rfl ⟨(by simp [InL, Acc.name, rowName] <;> omega), ?_⟩))
      simp only [e3]
      repeat' (first | refine WpO.nil ?_ | refine WpO.cons rfl rfl (WpX.pure (fun _ => rfl) ⟨nolog, ?_⟩) | refine WpO.skip rfl rfl ?_ | refine seqQ_normal ?_)
      refine WpC.cond rfl (fun hb => by cases hb) (fun _ => ?_)
      repeat' (first | refine WpC.region ?_ | refine WpC.skip ?_ | refine WpO.nil ?_ | refine WpO.cons rfl rfl (WpX.pure (fun _ => rfl) ⟨nolog, ?_⟩) | refine seqQ_normal ?_)
      exact fin _ _ _ v (by rw [← wi]; exact ⟨rfl, rfl, rfl, rfl, rfl, rfl, trivial⟩) (by rw [hgn, List.append_nil]; exact hv5) hvn (by omega) hf6
    have e3 : (x.kind == 3) = true := by simpa using k3
    by_cases k4 : x.size > 0
    case neg =>
      have hgn : gone1 W (p, x) = [] := by unfold gone1; rw [show W[(p, x).1 + 1]? = some w from hw]; exact if_neg fun h => k4 h.2.1
      have e4 : decide (x.size > 0) = false := by simpa using k4
      repeat' (first | refine WpC.seq ?_ | refine WpC.region ?_ | refine WpO.nil ?_ | refine WpO.cons rfl rfl (WpX.pure (fun _ => rfl) ⟨nolog, ?_⟩) | refine WpO.cons rfl rfl (op_load rfl rfl rfl hgx rfl ⟨(by simp [InL, Acc.name, rowName] <;> omega), ?_⟩))
      simp only [e3]
      repeat' (first | refine WpO.cons rfl rfl (WpX.pure (fun _ => rfl) ⟨nolog, ?_⟩) | refine WpO.cons rfl rfl (op_load rfl rfl rfl hgx rfl ⟨(by simp [InL, Acc.name, rowName] <;> omega), ?_⟩))
      simp only [e4]
      repeat' (first | refine WpO.nil ?_ | refine WpO.cons rfl rfl (WpX.pure (fun _ => rfl) ⟨nolog, ?_⟩) | refine WpO.skip rfl rfl ?_ | refine seqQ_normal ?_)
      refine WpC.cond rfl (fun hb => by cases hb) (fun _ => ?_)
      repeat' (first | refine WpC.region ?_ | refine WpC.skip ?_ | refine WpO.nil ?_ | refine WpO.cons rfl rfl (WpX.pure (fun _ => rfl) ⟨nolog, ?_⟩) | refine seqQ_normal ?_)
      exact fin _ _ _ v (by rw [← wi]; exact ⟨rfl, rfl, rfl, rfl, rfl, rfl, trivial⟩) (by rw [hgn, List.append_nil]; exact hv5) hvn (by omega) hf6
    have e4 : decide (x.size > 0) = true := by simpa using k4
    by_cases k5 : w = 0
    · have hgn : gone1 W (p, x) = [] := by unfold gone1; rw [show W[(p, x).1 + 1]? = some w from hw]; exact if_neg fun h => h.2.2 k5
      have e5 : (w != 0) = false := by simpa using k5
      repeat' (first | refine WpC.seq ?_ | refine WpC.region ?_ | refine WpO.nil ?_ | refine WpO.cons rfl rfl (WpX.pure (fun _ => rfl) ⟨nolog, ?_⟩) | refine WpO.cons rfl rfl (op_load rfl rfl rfl hgx rfl ⟨(by simp [InL, Acc.name, rowName] <;> omega), ?_⟩))
      simp only [e3]
      repeat' (first | refine WpO.cons rfl rfl (WpX.pure (fun _ => rfl) ⟨nolog, ?_⟩) | refine WpO.cons rfl rfl (op_load rfl rfl rfl hgx rfl ⟨(by simp [InL, Acc.name, rowName] <;> omega), ?_⟩))
      simp only [e4]
      repeat' (first | refine WpO.nil ?_ | refine WpO.cons rfl rfl (WpX.pure (fun _ => rfl) ⟨nolog, ?_⟩) | refine seqQ_normal ?_)
      refine WpC.cond rfl (fun hb => by rw [show (w != 0) = false from e5] at hb; cases hb) (fun _ => ?_)
      repeat' (first | refine WpC.region ?_ | refine WpC.skip ?_ | refine WpO.nil ?_ | refine WpO.cons rfl rfl (WpX.pure (fun _ => rfl) ⟨nolog, ?_⟩) | refine seqQ_normal ?_)
      exact fin _ _ _ v (by rw [← wi]; exact ⟨rfl, rfl, rfl, rfl, rfl, rfl, trivial⟩) (by rw [hgn, List.append_nil]; exact hv5) hvn (by omega) hf6
    have e5 : (w != 0) = true := by simpa using k5
    have hgn : gone1 W (p, x) = [IntKind.i64.wrap w] := by unfold gone1; rw [show W[(p, x).1 + 1]? = some w from hw]; exact if_pos ⟨k3, k4, k5⟩
    repeat' (first | refine WpC.seq ?_ | refine WpC.region ?_ | refine WpO.nil ?_ | refine WpO.cons rfl rfl (WpX.pure (fun _ => rfl) ⟨nolog, ?_⟩) | refine WpO.cons rfl rfl (op_load rfl rfl rfl hgx rfl ⟨(by simp [InL, Acc.name, rowName] <;> omega), ?_⟩))
    simp only [e3]
    repeat' (first | refine WpO.cons rfl rfl (WpX.pure (fun _ => rfl) ⟨nolog, ?_⟩) | refine WpO.cons rfl rfl (op_load rfl rfl rfl hgx rfl ⟨(by simp [InL, Acc.name, rowName] <;> omega), ?_⟩))
    simp only [e4]
    repeat' (first | refine WpO.nil ?_ | refine WpO.cons rfl rfl (WpX.pure (fun _ => rfl) ⟨nolog, ?_⟩) | refine seqQ_normal ?_)
    refine WpC.cond rfl (fun _ => ?_) (fun hb => by rw [show (w != 0) = true from e5] at hb; cases hb)
    have hvlt := hv.lt
    repeat' (first | refine WpC.region ?_ | refine WpO.cons rfl rfl (WpX.pure (fun _ => rfl) ⟨nolog, ?_⟩) | refine WpO.cons rfl rfl (op_buildSlice (k := 1) rfl rfl rfl rfl (by decide) rfl ⟨(by simp [InL, Acc.name, rowName] <;> omega), ?_⟩))
    have hv7 : ∀ {o q z : AObj}, ListOf (0 + 1) intV (MapI.set (MapI.set (MapI.set h4 c4 o) c4 q) (c4 + 1) z) (c4 + 1 + 1) v (goneOf W R l (l.take i)) := fun {o q z} => hv5.keep (by omega) fun n hn _ => MapI.get_ne _ _ _ _ (by omega)
    refine WpO.cons rfl rfl (append1 (y := IntKind.i64.wrap w) rfl rfl ⟨rfl, rfl, rfl, ⟨_, rfl, by decide⟩⟩ rfl int_len int_all hv7 (MapI.get_same _ _ _) (by omega) (by omega) (fun n h => .inr (by have := hvn n h; omega)) (by omega) fun v8 h8 c8 r8 hn8 hc8 hf8 => ?_)
    repeat' (first | refine WpC.region ?_ | refine WpO.nil ?_ | refine WpO.cons rfl rfl (WpX.pure (fun _ => rfl) ⟨nolog, ?_⟩) | refine seqQ_normal ?_)
    refine fin _ _ _ v8 (by rw [← wi]; exact ⟨rfl, rfl, rfl, rfl, rfl, rfl, trivial⟩) (by rw [hgn]; exact r8) (fun n hn => ?_) (by omega) fun n hn => ?_
    · rcases hn8 n hn with h | h
      · exact hvn n h
      · omega
    · rw [hf8 n (by omega) (fun hm => by have := hvn n hm; omega), MapI.get_ne _ _ _ _ (by omega)]; exact hf6 n hn
end
end Go.Proofs.Ytcenbfjhhaialaa


set_option linter.unusedVariables false
set_option linter.unusedSectionVars false
set_option linter.unusedSimpArgs false
set_option linter.unnecessarySimpa false
namespace Go.Proofs.Ytcenbfjhhaialaa
open Go.Ab
set_option maxRecDepth 10000

section
variable {h h' : HH} {c c' a sn : Nat} {vW vR vL vH : V} {W0 R0 : List Int} {size : Int} {l : List (Nat × Hd)} {hs : List Hd}
/-- The fields of the first objects, and the roots. -/
def PrOf (R0 : List Int) (done : List (Nat × Hd)) (f : Fld) : Prop := (f.1 = true ∧ f.2 < R0.length) ∨ (f.1 = false ∧ ∃ p x k, (p, x) ∈ done ∧ ((k : Nat) : Int) < fieldsH x ∧ f.2 = p + 1 + k)
/-- .. and of one more the first fields. -/
def PrK (R0 : List Int) (done : List (Nat × Hd)) (p : Nat) (k : Nat) (f : Fld) : Prop := PrOf R0 done f ∨ (f.1 = false ∧ ∃ j, j < k ∧ f.2 = p + 1 + j)
theorem mget_hd {m : MM} {p : Nat} {w : Int} (h : mget m (false, p) = some w) : m.1[p]? = some w := h
theorem slid_take {L : List (Nat × Hd)} {i : Nat} {o : Nat × Hd} (h : L[i]? = some o) : slidW W0 R0 l (L.take (i + 1)) = slidW W0 R0 l (L.take i) ++ objF W0 R0 l o := by
  rw [List.take_add_one, h]
  simp [slidW]
theorem slid_len_le {l' : List (Nat × Hd)} {W : List Int} {i : Nat} (r : ObjsFrom W i l') : ∀ {L : List (Nat × Hd)}, L.Sublist l' → (slidW W0 R0 l L).length + i ≤ W.length := by
  induction r with
  | nil =>
    intro L hL
    have : L = [] := by simpa using hL
    subst this
    simp [slidW]
  | cons hx r ih =>
    rename_i i x l'
    intro L hL
    obtain ⟨j, w, e, hw, hr, hsz, hok⟩ := objW_some hx
    unfold okH at hok
    cases hL with
    | cons _ hL =>
      have := ih hL
      omega
    | cons_cons _ hL =>
      have := ih hL
      simp only [slidW, List.flatMap_cons, List.length_append, objF_len] at this ⊢
      omega
theorem slid_below {p : Nat} (so : SoundW W0 R0 l) : ∀ (A : List (Nat × Hd)) (i : Nat), (∀ o ∈ A, o ∈ l ∧ i ≤ o.1 ∧ o.1 < p) → (A.map Prod.fst).Pairwise (· < ·) → i ≤ p → (∃ y, (p, y) ∈ l) → (slidW W0 R0 l A).length + i ≤ p
  | [], i, _, _, hi, _ => by simpa [slidW] using hi
  | o :: A, i, h, hs, hi, hp => by
    obtain ⟨h1, h2⟩ := List.pairwise_cons.1 (show ((o.1 :: A.map Prod.fst).Pairwise (· < ·)) from hs)
    obtain ⟨ho, hio, hop⟩ := h o (List.mem_cons_self ..)
    obtain ⟨y, hy⟩ := hp
    obtain ⟨_, _, _, _, _, _, hok⟩ := objW_some (so.objs.mem _ ho).2
    unfold okH at hok
    have ho' : (o.1, o.2) ∈ l := ho
    have hap := so.objs.apart ho' hy hop
    have ih := slid_below so A (o.1 + (1 + o.2.size.toNat)) (fun q hq => ⟨(h q (List.mem_cons_of_mem _ hq)).1, (by
      have hlt := h1 q.1 (List.mem_map.2 ⟨q, hq, rfl⟩)
      have hql : (q.1, q.2) ∈ l := (h q (List.mem_cons_of_mem _ hq)).1
      have := so.objs.apart ho' hql hlt
      omega), (h q (List.mem_cons_of_mem _ hq)).2.2⟩) h2 (by omega) ⟨y, hy⟩
    simp only [slidW, List.flatMap_cons, List.length_append, objF_len] at ih ⊢
    omega
theorem newPos_le {p : Nat} {x : Hd} (so : SoundW W0 R0 l) (hp : (p, x) ∈ liveOf W0 l R0) : newPos (liveOf W0 l R0) p ≤ p := by
  obtain ⟨A, B, e⟩ := List.append_of_mem hp
  have hs := live_sorted (R := R0) (W := W0) so.objs
  rw [e] at hs
  rw [e, newPos_at (W0 := W0) (R0 := R0) (l := l) hs]
  rw [List.map_append, List.pairwise_append] at hs
  have := slid_below (p := p) so A 0 (fun o ho => ⟨live_obj (show (o.1, o.2) ∈ liveOf W0 l R0 from (by rw [e]; exact List.mem_append_left _ ho)), Nat.zero_le _, hs.2.2 o.1 (List.mem_map.2 ⟨o, ho, rfl⟩) p (by simp)⟩) hs.1 (Nat.zero_le _) ⟨x, live_obj hp⟩
  omega
end
end Go.Proofs.Ytcenbfjhhaialaa


set_option linter.unusedVariables false
set_option linter.unusedSectionVars false
set_option linter.unusedSimpArgs false
set_option linter.unnecessarySimpa false
namespace Go.Proofs.Ytcenbfjhhaialaa
open Go.Ab
set_option maxRecDepth 10000

section
variable {h h' : HH} {c c' a sn : Nat} {vW vR vL vH : V} {W0 R0 : List Int} {size : Int} {l : List (Nat × Hd)} {hs : List Hd} {m : MM} {C : Nat → List Fld} {val : Fld → Int} {D : Nat → Prop} {Pr : Fld → Prop}

theorem UpI.obj (so : SoundW W0 R0 l) (u : UpI W0 R0 l D Pr m C val) {p : Nat} {x : Hd} (hp : (p, x) ∈ liveOf W0 l R0) (hC : C p = []) : objW m.1 ((p : Nat) : Int) = some x := by
  have hL : Live W0 R0 l p := ⟨x, hp⟩
  have hh := u.ls.head p hL
  rw [hC] at hh
  have hh : m.1[p]? = some (hd0W W0 p) := hh
  obtain ⟨j, w, e, hw, hr, hsz, hok⟩ := objW_some (so.objs.mem _ (live_obj hp)).2
  have e : ((p : Nat) : Int) = j := e
  have hjp : j = p := by omega
  subst hjp
  have : hd0W W0 j = w := by unfold hd0W; rw [hw]; rfl
  rw [this] at hh
  exact objW_mk hh hr (by rw [u.l1]; exact hsz)
theorem setH_row {v : V} (r : RowOf 4 hdV h c v hs) {i : Nat} {x : Hd} (hi : i < hs.length) : ∃ mh cap cl junk, v = .slice (some (mh, 0)) hs.length cap ∧ mh < c ∧ MapI.get h mh = some (.cells true cl (flat hdV hs ++ junk)) ∧ RowOf 4 hdV (MapI.set h mh (.cells true cl (setAll (flat hdV hs ++ junk) (i * 4) (hdV x)))) c v (hs.set i x) := by
  obtain ⟨s, cap, rfl, hsh⟩ := r.shape1
  obtain ⟨mh, cl, junk, rfl, hm, hg, hj⟩ := hsh i hi
  exact ⟨mh, cap, cl, junk, rfl, hm, hg, RowOf.set (n := 0) (k := 4) (cells := hdV) hd_len hm hj hi⟩

theorem op_storeR {e : EE} {call : Nat → Tgt → List V → M HH V} {K : V → HH → Nat → List Acc → Prop} {ds : Option Tmp} {ty : Nat} {pos : String} {af : Array Edge} {gd : Option (Nat × Bool)} {t : Nat} {x y : Operand} {n o k : Nat} {cl : Bool} {cs cs' : List V} {v : V} (hx : ev1 cx e x = some (.ptr (some (n, o)))) (hy : ev1 cx e y = some v) (hk : cx.size t = some k) (hl : (cellsV v).length = k)
    (hh : MapI.get h n = some (.cells true cl cs)) (hb : o + k ≤ cs.length) (h1 : (cellsV v).all one1 = true) (hr : setAll cs o (cellsV v) = cs') (q : K (.tuple []) (MapI.set h n (.cells true cl cs')) c [.rd n, .wr n]) :
    WpX (fun k => opM cx (call k) e ⟨ds, .store t x y, ty, pos, af, gd⟩) h c K := by
  subst hr; exact op_store hx hy hk hl hh hb h1 q
theorem SlAt.setH {mh : Nat} {o : AObj} {hs' : List Hd} {L : List (Nat × Hd)} (s : SlAt h c a sn vW vR vL vH m size L hs) (hm : mh ∈ rowName vH) (r : RowOf 4 hdV (MapI.set h mh o) c vH hs') : SlAt (MapI.set h mh o) c a sn vW vR vL vH m size L hs' :=
  ⟨s.mem.keep (Nat.le_refl _) fun n _ hn => MapI.get_ne _ _ _ _ fun e => (s.s1 n hn).2.2 (by rw [← e]; exact hm), get_set_ne (fun e => s.s2.2 (by rw [← e]; exact hm)) s.obj, s.ll.keep (Nat.le_refl _) fun n _ hn => MapI.get_ne _ _ _ _ fun e => s.s3 n hn (by rw [← e]; exact hm), r, s.ls, s.s1, s.s2, s.s3⟩
theorem thread_okI {W R : List Int} {b : Bool} {i p : Nat} {iz w x : Int} (hiz : iz = (i : Nat)) (r : Mem h c a vW vR W R size) (hw : fget W R b i = some w) (h5 : tagW w = 5) (hv : valW w = (p : Nat)) (hx : W[p]? = some x) (hne : ¬ (b = false ∧ i = p)) :
    Does 55 [.ptr (some (a, 0)), vR, .agg [.bool b, I iz]] h c (mn a vW vR) fun v h' c' => v = .bool true ∧ Mem h' c' a vW vR ((fsetW W b i x).set p (linkW b i)) (fsetR R b i x) size := by
  subst hiz; exact thread_ok r hw h5 hv hx hne
theorem thread_noI {W R : List Int} {b : Bool} {i : Nat} {iz w : Int} (hiz : iz = (i : Nat)) (r : Mem h c a vW vR W R size) (hw : fget W R b i = some w) (h5 : tagW w ≠ 5) :
    Does 55 [.ptr (some (a, 0)), vR, .agg [.bool b, I iz]] h c (mn a vW vR) fun v h' c' => v = .bool false ∧ ∀ n, n < c → MapI.get h' n = MapI.get h n := by
  subst hiz; exact thread_no r hw h5

set_option maxHeartbeats 2000000 in
theorem up_ok (so : SoundW W0 R0 l) (s : SlAt h c a sn vW vR vL vH m size (liveOf W0 l R0) hs) (hlen : hs.length = (liveOf W0 l R0).length) (u : UpI W0 R0 l (fun _ => False) (PrOf R0 []) m C val) :
    Does 56 [.ptr (some (sn, 0))] h c (sln a sn vW vR vL vH) fun v h' c' => ∃ m' C' val', SlAt h' c' a sn vW vR vL vH m' size (liveOf W0 l R0) ((liveOf W0 l R0).map Prod.snd) ∧ UpI W0 R0 l (Live W0 R0 l) (isFld W0 R0 l) m' C' val' := by
  have hsub : ∀ x ∈ an a vW, x ∈ sln a sn vW vR vL vH ∨ c ≤ x := fun x hx => .inl (List.mem_cons_of_mem _ (List.mem_append_left _ (List.mem_append_left _ hx)))
  have hsubM : ∀ x ∈ mn a vW vR, x ∈ sln a sn vW vR vL vH ∨ c ≤ x := fun x hx => .inl (List.mem_cons_of_mem _ (List.mem_append_left _ hx))
  have hW0 : W0.length ≤ 1048576 := by rw [← u.l1]; exact s.mem.lenW
  have hR0 : R0.length ≤ 100000000 := by rw [← u.l2]; exact s.mem.len
  have hlL : (liveOf W0 l R0).length ≤ W0.length := by
    have h1 : (liveOf W0 l R0).length ≤ l.length := List.length_filter_le _ _
    have h2 := places_le so.objs
    omega
  obtain ⟨sL, capL, hvL, hsL⟩ := s.ll.shape
  have hlenL : (places (liveOf W0 l R0)).length = (liveOf W0 l R0).length := List.length_map _
  rw [hlenL] at hvL hsL
  have hobj := s.obj
  have hsc := s.ls
  refine does_of (enter (fn := Try.f56) Try.func56 rfl rfl (Nat.le_of_ble_eq_true rfl) ?_)
  subst hvL
  repeat' (first | refine WpC.seq ?_ | refine WpC.region ?_ | refine WpC.block ?_ | refine WpO.nil ?_ | refine WpO.cons rfl rfl (WpX.pure (fun _ => rfl) ⟨nolog, ?_⟩) | refine WpO.cons rfl rfl (op_load rfl rfl rfl hobj rfl ⟨(by simp [InL, Acc.name, rowName] <;> omega), ?_⟩))
  refine WpC.loop ?_
  refine WpLoop.ind (X := Nat × MM × (Nat → List Fld) × (Fld → Int) × List Hd) (fun y e' h' c' => (∃ b0, e' = FR b0 [(0, V.ptr (some (sn, 0))), (2, I (slidW W0 R0 l ((liveOf W0 l R0).take y.1)).length), (11, .slice sL (liveOf W0 l R0).length capL), (12, I (liveOf W0 l R0).length), (13, I y.1)]) ∧ y.1 ≤ (liveOf W0 l R0).length ∧ SlAt h' c' a sn vW vR (.slice sL (liveOf W0 l R0).length capL) vH y.2.1 size (liveOf W0 l R0) y.2.2.2.2 ∧ y.2.2.2.2.length = (liveOf W0 l R0).length ∧ y.2.2.2.2.take y.1 = ((liveOf W0 l R0).take y.1).map Prod.snd ∧ UpI W0 R0 l (fun q => ∃ o ∈ (liveOf W0 l R0).take y.1, o.1 = q) (PrOf R0 ((liveOf W0 l R0).take y.1)) y.2.1 y.2.2.1 y.2.2.2.1 ∧ c ≤ c')
    (fun y => (liveOf W0 l R0).length - y.1) ?_ (0, m, C, val, hs) _ _ _ ⟨fr ⟨rfl, rfl, rfl, rfl, rfl, trivial⟩, Nat.zero_le _, s, hlen, rfl, u.congr (fun q => ⟨fun h => h.elim, fun ⟨o, ho, _⟩ => by cases ho⟩) (fun f => Iff.rfl), Nat.le_refl _⟩
  rintro ⟨i, m, C, val, hs⟩ e' h' c' ⟨⟨b0, rfl⟩, hi, s', hlen, htake, u, hc⟩
  simp only at hi s' hlen htake u
  repeat' (first | refine WpC.seq ?_ | refine WpC.region ?_ | refine WpO.nil ?_ | refine WpO.cons rfl rfl (WpX.pure (fun _ => rfl) ⟨nolog, ?_⟩))
  refine WpC.cond rfl (fun hlt => ?_) (fun hge => ?_)
  case refine_2 =>
    have hge : (liveOf W0 l R0).length ≤ i := by simpa using hge
    rw [List.take_of_length_le hge] at u
    rw [List.take_of_length_le hge, List.take_of_length_le (by omega)] at htake
    subst htake
    repeat' (first | refine WpC.exit ?_ | refine seqQ_exit ?_ | refine blkQ_out rfl ?_)
    exact out_normal rfl ⟨m, C, val, s', u.congr (fun q => ⟨fun ⟨o, ho, e⟩ => ⟨o.2, by rw [← e]; exact ho⟩, fun ⟨x, hx⟩ => ⟨_, hx, rfl⟩⟩) (fun f => Iff.rfl)⟩
  have hlt : i < (liveOf W0 l R0).length := by simpa using hlt
  obtain ⟨⟨p, x⟩, hx⟩ : ∃ z, (liveOf W0 l R0)[i]? = some z := ⟨_, List.getElem?_eq_getElem hlt⟩
  have hxm := List.mem_of_getElem? hx
  have hLp : Live W0 R0 l p := ⟨x, hxm⟩
  have htk : (liveOf W0 l R0).take (i + 1) = (liveOf W0 l R0).take i ++ [(p, x)] := by rw [List.take_add_one, hx]; rfl
  have hsplit : liveOf W0 l R0 = (liveOf W0 l R0).take i ++ (p, x) :: (liveOf W0 l R0).drop (i + 1) := by
    have : (liveOf W0 l R0).drop i = (p, x) :: (liveOf W0 l R0).drop (i + 1) := by
      rw [List.drop_eq_getElem_cons hlt]
      have := (List.getElem?_eq_some_iff.1 hx).2
      rw [this]
    rw [← this, List.take_append_drop]
  have hsorted := live_sorted (R := R0) (W := W0) so.objs
  have hnp : newPos (liveOf W0 l R0) p = (slidW W0 R0 l ((liveOf W0 l R0).take i)).length := by
    have h1 := hsorted
    rw [hsplit] at h1
    have := newPos_at (W0 := W0) (R0 := R0) (l := l) h1
    rw [← hsplit] at this
    exact this
  have hbelow : ∀ o ∈ (liveOf W0 l R0).take i, o.1 < p := fun o ho => by
    have h1 := hsorted
    rw [hsplit, List.map_append, List.pairwise_append] at h1
    exact h1.2.2 o.1 (List.mem_map.2 ⟨o, ho, rfl⟩) p (by simp)
  have hple := newPos_le so hxm
  obtain ⟨jj, w', ej, hw', _, hsz, hxok⟩ := objW_some (so.objs.mem _ (live_obj hxm)).2
  have ej : ((p : Nat) : Int) = jj := ej
  have hsz : (jj : Int) + 1 + x.size ≤ W0.length := hsz
  have hfs : fieldsH x ≤ x.size := so.le _ (live_obj hxm)
  have hf0 := fieldsH_nn hxok
  unfold okH at hxok
  have hxok : 0 ≤ x.kind ∧ x.kind ≤ 3 ∧ 0 ≤ x.size ∧ x.size < 1048576 ∧ 0 ≤ x.tree ∧ x.tree < 1048576 := hxok
  have wi : IntKind.i64.wrap ((i : Int) + 1) = ((i + 1 : Nat) : Int) := by rw [Go.IntWalk.i64_in _ (by omega)]; omega
  obtain ⟨_, sl, cll, junkl, rfl, hsl0, _⟩ := hsL i hlt
  have hslN := s'.ll.lt
  have hsl' : ∃ cl junk, MapI.get h' sl = some (.cells true cl (flat intV (places (liveOf W0 l R0)) ++ junk)) ∧ sl < c' := by
    rcases s'.ll with ⟨hh, _⟩ | ⟨s2, cl, junk, hh, h1, h2, _⟩
    · simp at hh
    · simp only [V.slice.injEq, Option.some.injEq, Prod.mk.injEq] at hh
      obtain ⟨⟨rfl, _⟩, _⟩ := hh
      exact ⟨cl, junk, h2, h1⟩
  obtain ⟨cl, junk, hg, hslc⟩ := hsl'
  have hslm : sl ∈ sln a sn vW vR (.slice (some (sl, 0)) (liveOf W0 l R0).length capL) vH := List.mem_cons_of_mem _ (List.mem_append_right _ (List.mem_append_left _ (by simp [rowName])))
  have hz : nth (flat intV (places (liveOf W0 l R0)) ++ junk) (0 + ((i : Nat) : Int).toNat * 1) = some (I p) := by
    rw [show 0 + ((i : Nat) : Int).toNat * 1 = i from by simp]
    exact nth_flat0 int_len (by rw [List.getElem?_map, hx]; rfl) rfl junk
  have hobj' := s'.obj
  obtain ⟨hch, u1⟩ := u.loose so hLp
  obtain ⟨hshort, hbnd⟩ := u.short hLp
  rw [hnp] at hch u1
  have hl1 := u.l1
  have hl2 := u.l2
  have hto8 : (slidW W0 R0 l ((liveOf W0 l R0).take i)).length ≤ 100000000 := by omega
  have hb8 : ∀ f ∈ C p, f.2 ≤ 100000000 := fun f hf => by rcases hbnd f hf with h | h <;> omega
  repeat' (first | refine WpC.seq ?_ | refine WpC.region ?_ | refine WpC.drawn ?_ | refine WpC.skip ?_ | refine WpC.block ?_ | refine WpO.nil ?_ | refine WpO.cons rfl rfl (WpX.pure (fun _ => rfl) ⟨nolog, ?_⟩) | refine WpL.cons rfl rfl (WpX.pure (fun _ => rfl) ⟨nolog, ?_⟩) | refine WpO.cons rfl rfl (op_indexAddr (k := 1) rfl rfl rfl rfl ⟨by omega, by omega⟩ ⟨(by simp [InL, Acc.name, rowName] <;> omega), ?_⟩) | refine WpO.cons rfl rfl (op_load rfl rfl rfl hg hz ⟨(by simp [InL, Acc.name, rowName] <;> omega), ?_⟩) | refine WpL.cons rfl rfl (op_load rfl rfl rfl hobj' rfl ⟨(by simp [InL, Acc.name, rowName] <;> omega), ?_⟩))
  refine WpL.cons rfl rfl (call_atL rfl (loose_ok s'.mem hch hshort hto8 hb8) hsubM (by omega) fun v4 h4 c4 al4 hal4 hc4 hf4 r4 => ?_)
  have s4 := s'.mems r4 hc4 hf4
  refine WpL.nil (logsOk_of (cs := [0, 1, 3, 7, 0, 16, 48, 112, 0, 0, 1023]) (by decide +kernel) ?_) ?_
  · simp +contextual [allP, apP, Dis, acc_rd, acc_wr, accw_rd, accw_wr, Nat.testBit]
  have hobj4 := s4.obj
  have hob := u1.obj so hxm upd_same
  repeat' (first | refine WpC.seq ?_ | refine WpC.region ?_ | refine WpO.cons rfl rfl (WpX.pure (fun _ => rfl) ⟨nolog, ?_⟩) | refine WpO.cons rfl rfl (op_load rfl rfl rfl hobj4 rfl ⟨(by simp [InL, Acc.name, rowName] <;> omega), ?_⟩))
  refine WpO.cons rfl rfl (call_atD rfl (object_ok s4.mem.ar) hsub (by omega) fun v5 h5 c5 hc5 hf5 hq5 => ?_)
  rw [show objW (looseM p (slidW W0 R0 l ((liveOf W0 l R0).take i)).length (C p) m).1 ((p : Nat) : Int) = some x from hob] at hq5
  subst hq5
  have hf6 : ∀ {o q : AObj}, ∀ n, n < c4 → MapI.get (MapI.set (MapI.set h5 c5 o) c5 q) n = MapI.get h4 n := fun {o q} n hn => by
    rw [MapI.get_ne _ _ _ _ (by omega), MapI.get_ne _ _ _ _ (by omega)]; exact hf5 n hn
  have s6 := fun o q => s4.same (h' := MapI.set (MapI.set h5 c5 o) c5 q) (c' := c5 + 1) (by omega) hf6
  have hgx : ∀ {o q : AObj}, MapI.get (MapI.set (MapI.set h5 c5 o) c5 q) c5 = some q := MapI.get_same _ _ _
  have hobj6 : ∀ {o q : AObj}, MapI.get (MapI.set (MapI.set h5 c5 o) c5 q) sn = _ := fun {o q} => (s6 o q).obj
  obtain ⟨mh, caph, clh, junkh, rfl, hmh, hgh, hrow⟩ := setH_row (s6 (.cells true true (cellsV (.agg (hdV hd0)))) (.cells true true (setAll (cellsV (.agg (hdV hd0))) 0 (cellsV (.agg (hdV x)))))).hh (i := i) (x := x) (by omega)
  have hmhm : mh ∈ sln a sn vW vR (.slice (some (sl, 0)) (liveOf W0 l R0).length capL) (.slice (some (mh, 0)) hs.length caph) := List.mem_cons_of_mem _ (List.mem_append_right _ (List.mem_append_right _ (by simp [rowName])))
  have hmh1 : mh ≠ sn := fun e => s'.s2.2 (by rw [← e]; simp [rowName])
  have hmh2 : mh < c' := s'.hh.lt mh (by simp [rowName])
  have hbh : 0 + ((i : Nat) : Int).toNat * 4 + 4 ≤ (flat hdV hs ++ junkh).length := by
    rw [List.length_append, flat_length hd_len]; omega
  repeat' (first | refine WpC.seq ?_ | refine WpC.drawn ?_ | refine WpO.nil ?_ | refine WpO.cons rfl rfl (WpX.pure (fun _ => rfl) ⟨nolog, ?_⟩) | refine WpL.cons rfl rfl (WpX.pure (fun _ => rfl) ⟨nolog, ?_⟩) | refine WpO.cons rfl rfl (op_alloc rfl ⟨(by simp [InL, Acc.name, rowName] <;> omega), ?_⟩) | refine WpO.cons rfl rfl (op_store (k := 4) rfl rfl rfl rfl (MapI.get_same _ _ _) (Nat.le_of_ble_eq_true rfl) rfl ⟨(by simp [InL, Acc.name, rowName] <;> omega), ?_⟩) | refine WpL.cons rfl rfl (op_load rfl rfl rfl hobj6 rfl ⟨(by simp [InL, Acc.name, rowName] <;> omega), ?_⟩) | refine WpL.cons rfl rfl (op_loadA (k := 4) rfl rfl rfl rfl hgx rfl ⟨(by simp [InL, Acc.name, rowName] <;> omega), ?_⟩) | refine WpL.cons rfl rfl (op_indexAddr (k := 4) rfl rfl rfl rfl ⟨by omega, by omega⟩ ⟨(by simp [InL, Acc.name, rowName] <;> omega), ?_⟩))
  have he4 : setAll (flat hdV hs ++ junkh) (0 + ((i : Nat) : Int).toNat * 4) (cellsV (.agg (hdV x))) = setAll (flat hdV hs ++ junkh) (i * 4) (hdV x) := by
    rw [show 0 + ((i : Nat) : Int).toNat * 4 = i * 4 from by simp]; rfl
  refine WpL.cons rfl rfl (op_storeR (k := 4) rfl rfl rfl rfl hgh hbh rfl he4 ⟨?_, ?_⟩)
  · intro y hy
    simp only [List.mem_cons, List.not_mem_nil, or_false] at hy
    rcases hy with rfl | rfl
    · exact .inl hmhm
    · exact .inl hmhm
  refine WpL.nil (logsOk_of (cs := [0, 1, 3, 7, 0, 0, 63, 127]) (by decide +kernel) ?_) ?_
  · simp +contextual [allP, apP, Dis, acc_rd, acc_wr, accw_rd, accw_wr, Nat.testBit]
  have s7 : SlAt _ (c5 + 1) a sn vW vR _ _ _ size (liveOf W0 l R0) (hs.set i x) := (s6 _ _).setH (by simp [rowName]) hrow
  have hg7 : ∀ {g : HH} {o q z : AObj}, MapI.get (MapI.set (MapI.set (MapI.set g c5 o) c5 q) mh z) c5 = some q := fun {g o q z} => by
    rw [MapI.get_ne _ _ _ _ (by omega)]; exact MapI.get_same _ _ _
  repeat' (first | refine WpC.seq ?_ | refine WpC.region ?_ | refine WpO.cons rfl rfl (op_loadA (k := 4) rfl rfl rfl rfl hg7 rfl ⟨(by simp [InL, Acc.name, rowName] <;> omega), ?_⟩))
  refine WpO.cons rfl rfl (call_atD rfl (fields_okR (x := x)) (fun n hn => by cases hn) (by omega) fun v8 h8 c8 hc8 hf8 hq8 => ?_)
  subst hq8
  have s8 := s7.same hc8 hf8
  have hg8 : MapI.get h8 c5 = some (.cells true true (hdV x)) := by rw [hf8 c5 (by omega)]; exact hg7
  have hlens : (hs.set i x).length = (liveOf W0 l R0).length := by rw [List.length_set]; exact hlen
  have hnames : ∀ n ∈ mn a vW vR, n < c' := s'.mem.names
  repeat' (first | refine WpC.block ?_ | refine WpO.nil ?_ | refine WpO.cons rfl rfl (WpX.pure (fun _ => rfl) ⟨nolog, ?_⟩))
  refine WpC.loop ?_
  refine WpLoop.ind (X := Nat × MM × (Nat → List Fld) × (Fld → Int)) (fun y e'' h'' c'' => (∃ b0, e'' = FR b0 [(0, V.ptr (some (sn, 0))), (2, I (slidW W0 R0 l ((liveOf W0 l R0).take i)).length), (4, I p), (5, V.ptr (some (c5, 0))), (11, .slice (some (sl, 0)) (liveOf W0 l R0).length capL), (12, I (liveOf W0 l R0).length), (13, I i), (46, I (fieldsH x)), (47, I y.1)]) ∧ (y.1 : Int) ≤ fieldsH x ∧ SlAt h'' c'' a sn vW vR (.slice (some (sl, 0)) (liveOf W0 l R0).length capL) (.slice (some (mh, 0)) hs.length caph) y.2.1 size (liveOf W0 l R0) (hs.set i x) ∧ MapI.get h'' c5 = some (.cells true true (hdV x)) ∧ UpI W0 R0 l (fun q => q = p ∨ ∃ o ∈ (liveOf W0 l R0).take i, o.1 = q) (PrK R0 ((liveOf W0 l R0).take i) p y.1) y.2.1 y.2.2.1 y.2.2.2 ∧ c5 + 1 ≤ c'')
    (fun y => (fieldsH x).toNat - y.1) ?_ (0, _, _, _) _ _ _ ⟨fr ⟨rfl, rfl, rfl, rfl, rfl, rfl, rfl, rfl, rfl, trivial⟩, hf0, s8, hg8, u1.congr (fun q => Iff.rfl) (fun f => ⟨fun h => .inl h, fun h => h.elim id fun ⟨_, j, hj, _⟩ => by omega⟩), by omega⟩
  rintro ⟨k, m2, C2, val2⟩ e'' h'' c'' ⟨⟨b0, rfl⟩, hk, s2, hg2, u2, hc2⟩
  simp only at hk s2 u2
  repeat' (first | refine WpC.seq ?_ | refine WpC.region ?_ | refine WpO.nil ?_ | refine WpO.cons rfl rfl (WpX.pure (fun _ => rfl) ⟨nolog, ?_⟩))
  refine WpC.cond rfl (fun hlt => ?_) (fun hge => ?_)
  case refine_2 =>
    have hge : fieldsH x ≤ k := by simpa using hge
    have w1 : IntKind.i64.wrap ((1 : Int) + x.size) = 1 + x.size := Go.IntWalk.i64_in _ (by omega)
    have w2 : IntKind.i64.wrap (((slidW W0 R0 l ((liveOf W0 l R0).take i)).length : Int) + IntKind.i64.wrap ((1 : Int) + x.size)) = ((slidW W0 R0 l ((liveOf W0 l R0).take (i + 1))).length : Int) := by
      rw [w1, slid_take hx, List.length_append, objF_len, Go.IntWalk.i64_in _ (by omega)]
      show _ = ((_ + (1 + x.size.toNat) : Nat) : Int)
      omega
    repeat' (first | refine WpC.region ?_ | refine WpC.exit ?_ | refine WpO.nil ?_ | refine WpO.cons rfl rfl (WpX.pure (fun _ => rfl) ⟨nolog, ?_⟩) | refine seqQ_normal ?_ | refine WpO.cons rfl rfl (op_load rfl rfl rfl hg2 rfl ⟨(by simp [InL, Acc.name, rowName] <;> omega), ?_⟩))
    refine ⟨(i + 1, m2, C2, val2, hs.set i x), by simp only; omega, ?_, by simp only; omega, s2, hlens, ?_, u2.congr (fun q => ?_) (fun f => ?_), by omega⟩
    · rw [wi, w2]
      exact fr ⟨rfl, rfl, rfl, rfl, rfl, trivial⟩
    · simp only
      rw [List.take_add_one, List.getElem?_set_self (by omega), List.take_set, List.set_eq_of_length_le (by rw [List.length_take]; omega), htake, htk, List.map_append]
      rfl
    · rw [htk]
      constructor
      · rintro (rfl | ⟨o, ho, e⟩)
        · exact ⟨(q, x), by simp, rfl⟩
        · exact ⟨o, List.mem_append_left _ ho, e⟩
      · rintro ⟨o, ho, e⟩
        rcases List.mem_append.1 ho with h | h
        · exact .inr ⟨o, h, e⟩
        · simp at h; subst h; exact .inl e.symm
    · rw [htk]
      constructor
      · rintro (h | ⟨hb, j, hj, e⟩)
        · rcases h with h | ⟨hb, p', x', k', h1, h2, h3⟩
          · exact .inl h
          · exact .inr ⟨hb, p', x', k', List.mem_append_left _ h1, h2, h3⟩
        · exact .inr ⟨hb, p, x, j, by simp, by omega, e⟩
      · rintro (h | ⟨hb, p', x', k', h1, h2, h3⟩)
        · exact .inl (.inl h)
        · rcases List.mem_append.1 h1 with h | h
          · exact .inl (.inr ⟨hb, p', x', k', h, h2, h3⟩)
          · simp at h
            obtain ⟨rfl, rfl⟩ := h
            exact .inr ⟨hb, k', by omega, h3⟩
  have hlt : (k : Int) < fieldsH x := by simpa using hlt
  have hfld : isFld W0 R0 l (false, p + 1 + k) := .inr ⟨rfl, p, x, k, hxm, hlt, rfl⟩
  have hPr : ¬ PrK R0 ((liveOf W0 l R0).take i) p k (false, p + 1 + k) := by
    rintro (h | ⟨_, j, hj, e⟩)
    · rcases h with ⟨h, _⟩ | ⟨_, p', x', k', h1, h2, h3⟩
      · cases h
      · have h3 : p + 1 + k = p' + 1 + k' := h3
        have hbl := hbelow _ h1
        have hbl : p' < p := hbl
        have hl' : (p', x') ∈ liveOf W0 l R0 := List.mem_of_mem_take h1
        have hap := so.objs.apart (live_obj hl') (live_obj hxm) hbl
        have := so.le _ (live_obj hl')
        have : fieldsH x' ≤ x'.size := this
        omega
    · have e : p + 1 + k = p + 1 + j := e
      omega
  obtain ⟨w, hw, hlv, _⟩ := fld_val so hfld
  obtain ⟨hm2, _, _⟩ := u2.at so hfld hPr hw
  have hobj2 := s2.obj
  have wa : IntKind.i64.wrap ((p : Int) + 1) = p + 1 := Go.IntWalk.i64_in _ (by omega)
  have wb : IntKind.i64.wrap (IntKind.i64.wrap ((p : Int) + 1) + (k : Int)) = ((p + 1 + k : Nat) : Int) := by rw [wa, Go.IntWalk.i64_in _ (by omega)]; omega
  have wk : IntKind.i64.wrap ((k : Int) + 1) = ((k + 1 : Nat) : Int) := by rw [Go.IntWalk.i64_in _ (by omega)]; omega
  have hPK : ∀ f, (f = (false, p + 1 + k) ∨ PrK R0 ((liveOf W0 l R0).take i) p k f) ↔ PrK R0 ((liveOf W0 l R0).take i) p (k + 1) f := fun f => by
    constructor
    · rintro (rfl | h | ⟨hb, j, hj, e⟩)
      · exact .inr ⟨rfl, k, by omega, rfl⟩
      · exact .inl h
      · exact .inr ⟨hb, j, by omega, e⟩
    · rintro (h | ⟨hb, j, hj, e⟩)
      · exact .inr (.inl h)
      · rcases Nat.lt_or_ge j k with h | h
        · exact .inr (.inr ⟨hb, j, h, e⟩)
        · have : j = k := by omega
          subst this
          exact .inl (by obtain ⟨b, z⟩ := f; simp only at hb e; rw [hb, e])
  by_cases t5 : tagW w = 5
  · obtain ⟨q, hq, hLq⟩ := hlv t5
    obtain ⟨hx', hne, u3⟩ := u2.thread so hfld hPr hw t5 hq fun d hd => ⟨rfl, by
      rcases hd with rfl | ⟨o, ho, e⟩
      · show d < d + 1 + k; omega
      · have := hbelow o ho; show d < p + 1 + k; omega⟩
    have hne' : ¬ ((false : Bool) = false ∧ p + 1 + k = q) := fun h => hne (by rw [h.2])
    repeat' (first | refine WpC.seq ?_ | refine WpC.region ?_ | refine WpC.drawn ?_ | refine WpC.skip ?_ | refine WpC.block ?_ | refine WpO.nil ?_ | refine WpO.cons rfl rfl (WpX.pure (fun _ => rfl) ⟨nolog, ?_⟩) | refine WpL.cons rfl rfl (WpX.pure (fun _ => rfl) ⟨nolog, ?_⟩) | refine WpL.cons rfl rfl (op_load rfl rfl rfl hobj2 rfl ⟨(by simp [InL, Acc.name, rowName] <;> omega), ?_⟩))
    refine WpL.cons rfl rfl (call_atL rfl (thread_okI wb s2.mem hm2 t5 hq hx' hne') hsubM (by omega) fun v9 h9 c9 al9 hal9 hc9 hf9 hq9 => ?_)
    obtain ⟨rfl, r9⟩ := hq9
    refine WpL.nil (logsOk_of (cs := [0, 1, 3, 7, 0, 16, 48, 112, 0, 256, 0, 1792, 3840, 8191]) (by decide +kernel) ?_) ?_
    · simp +contextual [allP, apP, Dis, acc_rd, acc_wr, accw_rd, accw_wr, Nat.testBit]
    repeat' (first | refine WpC.region ?_ | refine WpO.nil ?_ | refine WpO.cons rfl rfl (WpX.pure (fun _ => rfl) ⟨nolog, ?_⟩) | refine seqQ_normal ?_)
    refine ⟨(k + 1, _, _, _), by simp only; omega, ?_, by simp only; omega, s2.mems r9 hc9 hf9, by rw [hf9 c5 (by omega) (fun hh => by have := hnames c5 hh; omega)]; exact hg2, u3.congr (fun q => Iff.rfl) hPK, by omega⟩
    rw [wk]
    exact fr ⟨rfl, rfl, rfl, rfl, rfl, rfl, rfl, rfl, rfl, trivial⟩
  · have u3 := u2.skip so hfld hPr hw t5
    repeat' (first | refine WpC.seq ?_ | refine WpC.region ?_ | refine WpC.drawn ?_ | refine WpC.skip ?_ | refine WpC.block ?_ | refine WpO.nil ?_ | refine WpO.cons rfl rfl (WpX.pure (fun _ => rfl) ⟨nolog, ?_⟩) | refine WpL.cons rfl rfl (WpX.pure (fun _ => rfl) ⟨nolog, ?_⟩) | refine WpL.cons rfl rfl (op_load rfl rfl rfl hobj2 rfl ⟨(by simp [InL, Acc.name, rowName] <;> omega), ?_⟩))
    refine WpL.cons rfl rfl (call_atL rfl (thread_noI wb s2.mem hm2 t5) hsubM (by omega) fun v9 h9 c9 al9 hal9 hc9 hf9 hq9 => ?_)
    obtain ⟨rfl, hf9'⟩ := hq9
    refine WpL.nil (logsOk_of (cs := [0, 1, 3, 7, 0, 16, 48, 112, 0, 256, 0, 1792, 3840, 8191]) (by decide +kernel) ?_) ?_
    · simp +contextual [allP, apP, Dis, acc_rd, acc_wr, accw_rd, accw_wr, Nat.testBit]
    repeat' (first | refine WpC.region ?_ | refine WpO.nil ?_ | refine WpO.cons rfl rfl (WpX.pure (fun _ => rfl) ⟨nolog, ?_⟩) | refine seqQ_normal ?_)
    refine ⟨(k + 1, m2, C2, val2), by simp only; omega, ?_, by simp only; omega, s2.same hc9 hf9', by rw [hf9' c5 (by omega)]; exact hg2, u3.congr (fun q => Iff.rfl) hPK, by omega⟩
    rw [wk]
    exact fr ⟨rfl, rfl, rfl, rfl, rfl, rfl, rfl, rfl, rfl, trivial⟩
end
end Go.Proofs.Ytcenbfjhhaialaa


set_option linter.unusedVariables false
set_option linter.unusedSectionVars false
set_option linter.unusedSimpArgs false
set_option linter.unnecessarySimpa false
namespace Go.Proofs.Ytcenbfjhhaialaa
open Go.Ab
set_option maxRecDepth 10000

section
variable {h h' : HH} {c c' a sn : Nat} {vW vR vL vH : V} {W0 R0 : List Int} {size : Int} {l : List (Nat × Hd)} {hs : List Hd} {m : MM} {C : Nat → List Fld} {val : Fld → Int} {cur : Nat}

theorem LS.short {P : Nat → Prop} {hd : Nat → Int} (u : LS P hd m C val) {p : Nat} (hp : P p) : (C p).length ≤ m.1.length + m.2.length ∧ ∀ f ∈ C p, f.2 < m.1.length ∨ f.2 < m.2.length := by
  have hb : ∀ f ∈ C p, f ∈ (List.range m.1.length).map (fun i => ((false, i) : Fld)) ++ (List.range m.2.length).map fun i => ((true, i) : Fld) := fun f hf => by
    obtain ⟨y, hy⟩ := u.bound hp hf
    obtain ⟨b, i⟩ := f
    have := fget_lt hy
    cases b with
    | false => exact List.mem_append_left _ (List.mem_map.2 ⟨i, List.mem_range.2 (this.1 rfl), rfl⟩)
    | true => exact List.mem_append_right _ (List.mem_map.2 ⟨i, List.mem_range.2 (this.2 rfl), rfl⟩)
  refine ⟨?_, fun f hf => ?_⟩
  · have := List.Nodup.length_le_of_subset (u.nodup p hp) hb
    simpa using this
  · rcases List.mem_append.1 (hb f hf) with h | h
    · obtain ⟨i, hi, rfl⟩ := List.mem_map.1 h
      exact .inl (List.mem_range.1 hi)
    · obtain ⟨i, hi, rfl⟩ := List.mem_map.1 h
      exact .inr (List.mem_range.1 hi)
theorem looseM_lo {p to t : Nat} (ht : t < p) : ∀ (fs : List Fld) (m : MM), (∀ f ∈ fs, f.1 = false → p < f.2) → (looseM p to fs m).1[t]? = m.1[t]?
  | [], m, _ => rfl
  | f :: fs, m, hf => by
    rw [looseM, looseM_lo ht fs _ fun g hg => hf g (List.mem_cons_of_mem _ hg)]
    have h1 := hf f (List.mem_cons_self ..)
    obtain ⟨b, i⟩ := f
    have e1 : ∀ (m : MM) w, mget (mset m (false, p) w) (false, t) = mget m (false, t) := fun m w => mget_mset_ne (fun e => by cases e; omega)
    have e2 : ∀ (m : MM) w, mget (mset m (b, i) w) (false, t) = mget m (false, t) := fun m w => mget_mset_ne (fun e => by cases e; have := h1 rfl; simp only at this; omega)
    exact (e2 _ _).trans (e1 _ _)
theorem moveW_self {W : List Int} {p n : Nat} : moveW W p p n = W := by
  unfold moveW
  rw [List.append_assoc, ← List.drop_drop, List.take_append_drop, List.take_append_drop]
theorem moveW_take {W : List Int} {p to n : Nat} (h1 : to ≤ p) (h2 : p + n ≤ W.length) : (moveW W p to n).take (to + n) = W.take to ++ (W.drop p).take n := by
  unfold moveW
  rw [List.take_left']
  rw [List.length_append, List.length_take, List.length_take, List.length_drop]; omega

theorem move_okI {p to n : Nat} {L : List (Nat × Hd)} {nz : Int} (hn : nz = (n : Nat)) (s : SlAt h c a sn vW vR vL vH m size L hs) (h1 : to ≤ p) (h2 : p + n ≤ m.1.length) :
    Does 68 [.ptr (some (sn, 0)), I p, I to, I nz] h c (sn :: mn a vW vR) fun v h' c' => SlAt h' c' a sn vW vR vL vH (moveW m.1 p to n, m.2) size L hs := by
  subst hn; exact move_ok s h1 h2

set_option maxHeartbeats 2000000 in
theorem down_ok (so : SoundW W0 R0 l) (s : SlAt h c a sn vW vR vL vH m size (liveOf W0 l R0) ((liveOf W0 l R0).map Prod.snd)) (u : DnI W0 R0 l 0 m C val) :
    Does 57 [.ptr (some (sn, 0))] h c (sln a sn vW vR vL vH) fun v h' c' => (∃ mv : Int, v = I mv) ∧ ∃ vW', Mem h' c' a vW' vR (slidW W0 R0 l (liveOf W0 l R0)) (R0.map (mvW W0 R0 l)) size ∧ ∀ n ∈ rowName vW', n ∈ rowName vW := by
  have hsub : ∀ x ∈ an a vW, x ∈ sln a sn vW vR vL vH ∨ c ≤ x := fun x hx => .inl (List.mem_cons_of_mem _ (List.mem_append_left _ (List.mem_append_left _ hx)))
  have hsubM : ∀ x ∈ mn a vW vR, x ∈ sln a sn vW vR vL vH ∨ c ≤ x := fun x hx => .inl (List.mem_cons_of_mem _ (List.mem_append_left _ hx))
  have hsubS : ∀ x ∈ sn :: mn a vW vR, x ∈ sln a sn vW vR vL vH ∨ c ≤ x := fun x hx => by
    rcases List.mem_cons.1 hx with rfl | hx
    · exact .inl (List.mem_cons_self ..)
    · exact hsubM x hx
  have hW0 : W0.length ≤ 1048576 := by rw [← u.l1]; exact s.mem.lenW
  have hR0 : R0.length ≤ 100000000 := by rw [← u.l2]; exact s.mem.len
  have hlL : (liveOf W0 l R0).length ≤ W0.length := by
    have h1 : (liveOf W0 l R0).length ≤ l.length := List.length_filter_le _ _
    have h2 := places_le so.objs
    omega
  obtain ⟨sL, capL, hvL, hsL⟩ := s.ll.shape
  have hlenL : (places (liveOf W0 l R0)).length = (liveOf W0 l R0).length := List.length_map _
  rw [hlenL] at hvL hsL
  have hobj := s.obj
  have hsc := s.ls
  refine does_of (enter (fn := Try.f57) Try.func57 rfl rfl (Nat.le_of_ble_eq_true rfl) ?_)
  subst hvL
  repeat' (first | refine WpC.seq ?_ | refine WpC.region ?_ | refine WpC.block ?_ | refine WpO.nil ?_ | refine WpO.cons rfl rfl (WpX.pure (fun _ => rfl) ⟨nolog, ?_⟩) | refine WpO.cons rfl rfl (op_load rfl rfl rfl hobj rfl ⟨(by simp [InL, Acc.name, rowName] <;> omega), ?_⟩))
  refine WpC.loop ?_
  refine WpLoop.ind (X := Nat × Nat × Nat × MM × (Nat → List Fld) × (Fld → Int)) (fun y e' h' c' => (∃ b0, e' = FR b0 [(0, V.ptr (some (sn, 0))), (3, I (slidW W0 R0 l ((liveOf W0 l R0).take y.1)).length), (4, I y.2.1), (11, .slice sL (liveOf W0 l R0).length capL), (12, I (liveOf W0 l R0).length), (13, I y.1)]) ∧ y.1 ≤ (liveOf W0 l R0).length ∧ y.2.1 ≤ y.1 ∧ SlAt h' c' a sn vW vR (.slice sL (liveOf W0 l R0).length capL) vH y.2.2.2.1 size (liveOf W0 l R0) ((liveOf W0 l R0).map Prod.snd) ∧ DnI W0 R0 l y.2.2.1 y.2.2.2.1 y.2.2.2.2.1 y.2.2.2.2.2 ∧ (∀ o ∈ (liveOf W0 l R0).drop y.1, y.2.2.1 ≤ o.1) ∧ (∀ q, Live W0 R0 l q → y.2.2.1 ≤ q → ∃ o ∈ (liveOf W0 l R0).drop y.1, o.1 = q) ∧ y.2.2.2.1.1.take (slidW W0 R0 l ((liveOf W0 l R0).take y.1)).length = slidW W0 R0 l ((liveOf W0 l R0).take y.1) ∧ c ≤ c')
    (fun y => (liveOf W0 l R0).length - y.1) ?_ (0, 0, 0, m, C, val) _ _ _ ⟨fr ⟨rfl, rfl, rfl, rfl, rfl, rfl, trivial⟩, Nat.zero_le _, Nat.zero_le _, s, u, fun o _ => Nat.zero_le _, fun q ⟨x, hx⟩ _ => ⟨(q, x), hx, rfl⟩, by simp [slidW], Nat.le_refl _⟩
  rintro ⟨i, mv, cur, m, C, val⟩ e' h' c' ⟨⟨b0, rfl⟩, hi, hmv, s', u, hcur1, hcur2, hdd, hc⟩
  simp only at hi hmv s' u hcur1 hcur2 hdd
  have hobj' := s'.obj
  repeat' (first | refine WpC.seq ?_ | refine WpC.region ?_ | refine WpO.nil ?_ | refine WpO.cons rfl rfl (WpX.pure (fun _ => rfl) ⟨nolog, ?_⟩))
  refine WpC.cond rfl (fun hlt => ?_) (fun hge => ?_)
  case refine_2 =>
    have hge : (liveOf W0 l R0).length ≤ i := by simpa using hge
    rw [List.take_of_length_le hge] at hdd
    have htl : (slidW W0 R0 l (liveOf W0 l R0)).length ≤ m.1.length := by
      have := congrArg List.length hdd
      rw [List.length_take] at this; omega
    have hle := s'.mem.ar.le
    have hmx := s'.mem.ar.mx
    have hsep := s'.mem.sep
    have hrR : m.2 = R0.map (mvW W0 R0 l) := by
      refine List.ext_getElem? fun j => ?_
      by_cases hj : j < R0.length
      · obtain ⟨w, hw⟩ : ∃ w, R0[j]? = some w := ⟨_, List.getElem?_eq_getElem hj⟩
        obtain ⟨y, hy⟩ : ∃ y, m.2[j]? = some y := ⟨_, List.getElem?_eq_getElem (by rw [u.l2]; exact hj)⟩
        have := u.ls.plain (true, j) y hy (fun h => by cases h) fun q hq hf => by have := (u.d1 q hq.1 hq.2 _ hf).1; cases this
        rw [u.d5 j w hw] at this
        rw [hy, List.getElem?_map, hw, this]; rfl
      · rw [List.getElem?_eq_none (by rw [u.l2]; omega), List.getElem?_eq_none (by rw [List.length_map]; omega)]
    repeat' (first | refine WpC.seq ?_ | refine WpC.drawn ?_ | refine WpC.exit ?_ | refine WpL.cons rfl rfl (WpX.pure (fun _ => rfl) ⟨nolog, ?_⟩) | refine WpL.cons rfl rfl (op_load rfl rfl rfl hobj' rfl ⟨(by simp [InL, Acc.name, rowName] <;> omega), ?_⟩))
    refine WpL.cons rfl rfl (call_atRL rfl (size_ok s'.mem.ar) hsub (by omega) fun v5 h5 c5 al5 hal5 hc5 hf5 hq5 => ?_)
    obtain ⟨rfl, rfl, rfl⟩ := hq5
    refine WpL.cons rfl rfl (call_atL rfl (cut_ok s'.mem.ar (m := (slidW W0 R0 l (liveOf W0 l R0)).length) (by rw [List.take_of_length_le hge]) htl (by rw [List.take_of_length_le hge]; omega) hmx) hsub (by omega) fun v6 h6 c6 al6 hal6 hc6 hf6 hq6 => ?_)
    obtain ⟨rfl, rfl, vW', hA, hn'⟩ := hq6
    have h5' : ∀ x ∈ al5, sn = x.name → x.writes = false := fun x hx e => by
      cases hw : x.writes with
      | false => rfl
      | true => have := (hal5 x hx).2 hw; omega
    refine WpL.nil (logsOk_of (cs := [0, 1, 3, 7, 0, 0, 32, 96, 224, 480, 1023]) (by decide +kernel) ?_) ?_
    · simp +contextual [allP, apP, Dis, acc_rd, acc_wr, accw_rd, accw_wr, Nat.testBit, h5']
    rw [hdd] at hA
    repeat' (first | refine WpC.seq ?_ | refine WpC.region ?_ | refine WpC.ret ?_ | refine WpO.nil ?_ | refine WpO.cons rfl rfl (WpX.pure (fun _ => rfl) ⟨nolog, ?_⟩))
    refine out_ret rfl ⟨⟨_, rfl⟩, vW', ⟨hA, ?_, fun n hn => ?_, fun w hw => ?_, ?_⟩, hn'⟩
    · rw [← hrR]
      exact s'.mem.rr.keep (Nat.le_refl _) fun n hn hm => hf6 n hn fun hh => (by
        rcases List.mem_cons.1 hh with h | h
        · exact (hsep n hm).1 h
        · exact (hsep n hm).2 h)
    · exact ⟨(hsep n hn).1, fun h => (hsep n hn).2 (hn' n h)⟩
    · rw [← hrR] at hw; exact s'.mem.ok w hw
    · rw [List.length_map]; exact hR0
  have hlt : i < (liveOf W0 l R0).length := by simpa using hlt
  obtain ⟨⟨p, x⟩, hx⟩ : ∃ z, (liveOf W0 l R0)[i]? = some z := ⟨_, List.getElem?_eq_getElem hlt⟩
  have hxm := List.mem_of_getElem? hx
  have hLp : Live W0 R0 l p := ⟨x, hxm⟩
  have hdr : (liveOf W0 l R0).drop i = (p, x) :: (liveOf W0 l R0).drop (i + 1) := by
    rw [List.drop_eq_getElem_cons hlt]
    have := (List.getElem?_eq_some_iff.1 hx).2
    rw [this]
  have hsplit : liveOf W0 l R0 = (liveOf W0 l R0).take i ++ (p, x) :: (liveOf W0 l R0).drop (i + 1) := by
    rw [← hdr, List.take_append_drop]
  have hsorted := live_sorted (R := R0) (W := W0) so.objs
  have hnp : newPos (liveOf W0 l R0) p = (slidW W0 R0 l ((liveOf W0 l R0).take i)).length := by
    have h1 := hsorted
    rw [hsplit] at h1
    have := newPos_at (W0 := W0) (R0 := R0) (l := l) h1
    rw [← hsplit] at this
    exact this
  have habove : ∀ o ∈ (liveOf W0 l R0).drop (i + 1), p < o.1 := fun o ho => by
    have h1 := hsorted
    rw [hsplit, List.map_append, List.pairwise_append] at h1
    exact (List.pairwise_cons.1 (show ((p :: ((liveOf W0 l R0).drop (i + 1)).map Prod.fst).Pairwise (· < ·)) from h1.2.1)).1 o.1 (List.mem_map.2 ⟨o, ho, rfl⟩)
  have hcurp : cur ≤ p := hcur1 (p, x) (by rw [hdr]; exact List.mem_cons_self ..)
  have hnext : ∀ q, Live W0 R0 l q → cur ≤ q → p ≤ q := fun q hq hcq => by
    obtain ⟨o, ho, e⟩ := hcur2 q hq hcq
    rw [hdr] at ho
    rcases List.mem_cons.1 ho with h | h
    · rw [← e, h]; exact Nat.le_refl p
    · have := habove o h; omega
  have hple := newPos_le so hxm
  obtain ⟨jj, w', ej, hw', _, hsz, hxok⟩ := objW_some (so.objs.mem _ (live_obj hxm)).2
  have ej : ((p : Nat) : Int) = jj := ej
  have hsz : (jj : Int) + 1 + x.size ≤ W0.length := hsz
  unfold okH at hxok
  have hxok : 0 ≤ x.kind ∧ x.kind ≤ 3 ∧ 0 ≤ x.size ∧ x.size < 1048576 ∧ 0 ≤ x.tree ∧ x.tree < 1048576 := hxok
  have wi : IntKind.i64.wrap ((i : Int) + 1) = ((i + 1 : Nat) : Int) := by rw [Go.IntWalk.i64_in _ (by omega)]; omega
  have wmv : IntKind.i64.wrap ((mv : Int) + 1) = ((mv + 1 : Nat) : Int) := by rw [Go.IntWalk.i64_in _ (by omega)]; omega
  have wn : IntKind.i64.wrap ((1 : Int) + x.size) = ((1 + x.size.toNat : Nat) : Int) := by rw [Go.IntWalk.i64_in _ (by omega)]; omega
  obtain ⟨_, sl, cll, junkl, rfl, hsl0, _⟩ := hsL i hlt
  have hsl' : ∃ cl junk, MapI.get h' sl = some (.cells true cl (flat intV (places (liveOf W0 l R0)) ++ junk)) ∧ sl < c' := by
    rcases s'.ll with ⟨hh, _⟩ | ⟨s2, cl, junk, hh, h1, h2, _⟩
    · simp at hh
    · simp only [V.slice.injEq, Option.some.injEq, Prod.mk.injEq] at hh
      obtain ⟨⟨rfl, _⟩, _⟩ := hh
      exact ⟨cl, junk, h2, h1⟩
  obtain ⟨cl, junk, hg, hslc⟩ := hsl'
  have hslm : sl ∈ sln a sn vW vR (.slice (some (sl, 0)) (liveOf W0 l R0).length capL) vH := List.mem_cons_of_mem _ (List.mem_append_right _ (List.mem_append_left _ (by simp [rowName])))
  have hz : nth (flat intV (places (liveOf W0 l R0)) ++ junk) (0 + ((i : Nat) : Int).toNat * 1) = some (I p) := by
    rw [show 0 + ((i : Nat) : Int).toNat * 1 = i from by simp]
    exact nth_flat0 int_len (by rw [List.getElem?_map, hx]; rfl) rfl junk
  obtain ⟨hch, dn1, hwords⟩ := u.loose so hxm hcurp hnext
  obtain ⟨hshort, hbnd⟩ := u.ls.short (p := p) ⟨hLp, hcurp⟩
  have hl1 := u.l1
  have hl2 := u.l2
  have hd1 := u.d1 p hLp hcurp
  rw [hnp] at hch dn1 hwords
  have hto8 : (slidW W0 R0 l ((liveOf W0 l R0).take i)).length ≤ 100000000 := by omega
  have hb8 : ∀ f ∈ C p, f.2 ≤ 100000000 := fun f hf => by rcases hbnd f hf with h | h <;> omega
  repeat' (first | refine WpC.seq ?_ | refine WpC.region ?_ | refine WpC.drawn ?_ | refine WpC.skip ?_ | refine WpC.block ?_ | refine WpO.nil ?_ | refine WpO.cons rfl rfl (WpX.pure (fun _ => rfl) ⟨nolog, ?_⟩) | refine WpL.cons rfl rfl (WpX.pure (fun _ => rfl) ⟨nolog, ?_⟩) | refine WpO.cons rfl rfl (op_indexAddr (k := 1) rfl rfl rfl rfl ⟨by omega, by omega⟩ ⟨(by simp [InL, Acc.name, rowName] <;> omega), ?_⟩) | refine WpO.cons rfl rfl (op_load rfl rfl rfl hg hz ⟨(by simp [InL, Acc.name, rowName] <;> omega), ?_⟩) | refine WpL.cons rfl rfl (op_load rfl rfl rfl hobj' rfl ⟨(by simp [InL, Acc.name, rowName] <;> omega), ?_⟩))
  refine WpL.cons rfl rfl (call_atL rfl (loose_ok s'.mem hch hshort hto8 hb8) hsubM (by omega) fun v4 h4 c4 al4 hal4 hc4 hf4 r4 => ?_)
  have s4 := s'.mems r4 hc4 hf4
  refine WpL.nil (logsOk_of (cs := [0, 1, 3, 7, 0, 16, 48, 112, 0, 0, 1023]) (by decide +kernel) ?_) ?_
  · simp +contextual [allP, apP, Dis, acc_rd, acc_wr, accw_rd, accw_wr, Nat.testBit]
  have hobj4 := s4.obj
  have hdn1l := dn1.l1
  have hpn : p + (1 + x.size.toNat) ≤ (looseM p (slidW W0 R0 l ((liveOf W0 l R0).take i)).length (C p) m).1.length := by rw [hdn1l]; omega
  have hto : (slidW W0 R0 l ((liveOf W0 l R0).take i)).length ≤ p := by rw [← hnp]; exact hple
  -- what stands below is left
  have hlo : (looseM p (slidW W0 R0 l ((liveOf W0 l R0).take i)).length (C p) m).1.take (slidW W0 R0 l ((liveOf W0 l R0).take i)).length = slidW W0 R0 l ((liveOf W0 l R0).take i) := by
    refine Eq.trans ?_ hdd
    refine List.ext_getElem? fun t => ?_
    rw [List.getElem?_take, List.getElem?_take]
    split
    · next ht => exact looseM_lo (by omega) _ _ fun f hf _ => (hd1 f hf).2.1
    · rfl
  have hmid : ((looseM p (slidW W0 R0 l ((liveOf W0 l R0).take i)).length (C p) m).1.drop p).take (1 + x.size.toNat) = objF W0 R0 l (p, x) := by
    refine List.ext_getElem? fun t => ?_
    rw [List.getElem?_take]
    by_cases ht : t < 1 + x.size.toNat
    · rw [if_pos ht, List.getElem?_drop, hwords t ht]
      unfold objF
      rw [List.getElem?_map, List.getElem?_range ht]; rfl
    · rw [if_neg ht, List.getElem?_eq_none]
      rw [objF_len]; show 1 + x.size.toNat ≤ t; omega
  obtain ⟨val', dn2⟩ := dn1.move so hxm hcurp hnext upd_same hto
  have dn3 := dn1.move so hxm hcurp hnext upd_same (Nat.le_refl p)
  have hcA : ∀ o ∈ (liveOf W0 l R0).drop (i + 1), p + (1 + x.size.toNat) ≤ o.1 := fun o ho => by
    have h1 : (o.1, o.2) ∈ liveOf W0 l R0 := List.mem_of_mem_drop ho
    have := so.objs.apart (live_obj hxm) (live_obj h1) (habove o ho)
    omega
  have hcB : ∀ q, Live W0 R0 l q → p + (1 + x.size.toNat) ≤ q → ∃ o ∈ (liveOf W0 l R0).drop (i + 1), o.1 = q := fun q hq hpq => by
    obtain ⟨o, ho, e⟩ := hcur2 q hq (by omega)
    rw [hdr] at ho
    rcases List.mem_cons.1 ho with h | h
    · rw [h] at e; have e : p = q := e; omega
    · exact ⟨o, h, e⟩
  have hlenn : (slidW W0 R0 l ((liveOf W0 l R0).take (i + 1))).length = (slidW W0 R0 l ((liveOf W0 l R0).take i)).length + (1 + x.size.toNat) := by rw [slid_take hx, List.length_append, objF_len]
  have wto : IntKind.i64.wrap (((slidW W0 R0 l ((liveOf W0 l R0).take i)).length : Int) + IntKind.i64.wrap ((1 : Int) + x.size)) = ((slidW W0 R0 l ((liveOf W0 l R0).take (i + 1))).length : Int) := by
    rw [wn, hlenn, Go.IntWalk.i64_in _ (by omega)]; omega
  have hfin : (moveW (looseM p (slidW W0 R0 l ((liveOf W0 l R0).take i)).length (C p) m).1 p (slidW W0 R0 l ((liveOf W0 l R0).take i)).length (1 + x.size.toNat)).take (slidW W0 R0 l ((liveOf W0 l R0).take (i + 1))).length = slidW W0 R0 l ((liveOf W0 l R0).take (i + 1)) := by
    rw [hlenn, moveW_take hto hpn, hlo, hmid, slid_take hx]
  obtain ⟨sH, capH, rfl, hsH⟩ := s4.hh.shape
  have hhl : ((liveOf W0 l R0).map Prod.snd).length = (liveOf W0 l R0).length := List.length_map _
  obtain ⟨mh, clh, junkh, rfl, hmh, hgh⟩ := hsH i (by rw [hhl]; exact hlt)
  have hmhm : mh ∈ sln a sn vW vR (.slice (some (sl, 0)) (liveOf W0 l R0).length capL) (.slice (some (mh, 0)) ((liveOf W0 l R0).map Prod.snd).length capH) := List.mem_cons_of_mem _ (List.mem_append_right _ (List.mem_append_right _ (by simp [rowName])))
  have hzh : nth (flat hdV ((liveOf W0 l R0).map Prod.snd) ++ junkh) (0 + ((i : Nat) : Int).toNat * 4 + 1) = some (I x.size) := by
    rw [show 0 + ((i : Nat) : Int).toNat * 4 + 1 = i * 4 + 1 from by simp]
    exact nth_flat (k := 4) (cells := hdV) hd_len (by rw [List.getElem?_map, hx]; rfl) (by decide) junkh
  repeat' (first | refine WpC.seq ?_ | refine WpC.region ?_ | refine WpO.nil ?_ | refine WpO.cons rfl rfl (WpX.pure (fun _ => rfl) ⟨nolog, ?_⟩) | refine seqQ_normal ?_ | refine WpO.cons rfl rfl (op_load rfl rfl rfl hobj4 rfl ⟨(by simp [InL, Acc.name, rowName] <;> omega), ?_⟩) | refine WpO.cons rfl rfl (op_indexAddr (k := 4) rfl rfl rfl rfl ⟨by omega, by rw [hhl]; omega⟩ ⟨(by simp [InL, Acc.name, rowName] <;> omega), ?_⟩) | refine WpO.cons rfl rfl (op_load rfl rfl rfl hgh hzh ⟨(by simp [InL, Acc.name, rowName] <;> omega), ?_⟩))
  by_cases hpt : p = (slidW W0 R0 l ((liveOf W0 l R0).take i)).length
  · have e1 : (((p : Nat) : Int) != ((slidW W0 R0 l ((liveOf W0 l R0).take i)).length : Int)) = false := by simp; omega
    refine WpC.cond rfl (fun hb => by rw [show (((p : Nat) : Int) != ((slidW W0 R0 l ((liveOf W0 l R0).take i)).length : Int)) = false from e1] at hb; cases hb) (fun _ => ?_)
    repeat' (first | refine WpC.region ?_ | refine WpC.skip ?_ | refine WpO.nil ?_ | refine WpO.cons rfl rfl (WpX.pure (fun _ => rfl) ⟨nolog, ?_⟩) | refine seqQ_normal ?_)
    obtain ⟨val3, dn3⟩ := dn3
    rw [moveW_self] at dn3
    refine ⟨(i + 1, mv, p + (1 + x.size.toNat), _, _, val3), by simp only; omega, ?_, by simp only; omega, by simp only; omega, s4, dn3, hcA, hcB, ?_, by omega⟩
    · rw [wi, wto]
      exact fr ⟨rfl, rfl, rfl, rfl, rfl, rfl, trivial⟩
    · have := hfin
      rw [← hpt, moveW_self] at this
      simp only
      rw [← hpt]
      exact this
  · have e1 : (((p : Nat) : Int) != ((slidW W0 R0 l ((liveOf W0 l R0).take i)).length : Int)) = true := by simp; omega
    refine WpC.cond rfl (fun _ => ?_) (fun hb => by rw [show (((p : Nat) : Int) != ((slidW W0 R0 l ((liveOf W0 l R0).take i)).length : Int)) = true from e1] at hb; cases hb)
    repeat' (first | refine WpC.seq ?_ | refine WpC.region ?_ | refine WpO.nil ?_ | refine WpO.cons rfl rfl (WpX.pure (fun _ => rfl) ⟨nolog, ?_⟩))
    refine WpO.cons rfl rfl (call_at rfl (move_okI wn s4 hto hpn) hsubS (by omega) fun v7 h7 c7 hc7 hf7 s7 => ?_)
    repeat' (first | refine WpC.region ?_ | refine WpO.nil ?_ | refine WpO.cons rfl rfl (WpX.pure (fun _ => rfl) ⟨nolog, ?_⟩) | refine seqQ_normal ?_)
    refine ⟨(i + 1, mv + 1, p + (1 + x.size.toNat), _, _, val'), by simp only; omega, ?_, by simp only; omega, by simp only; omega, s7, dn2, hcA, hcB, hfin, by omega⟩
    rw [wi, wto, wmv]
    exact fr ⟨rfl, rfl, rfl, rfl, rfl, rfl, trivial⟩
end
end Go.Proofs.Ytcenbfjhhaialaa


set_option linter.unusedVariables false
set_option linter.unusedSectionVars false
set_option linter.unusedSimpArgs false
set_option linter.unnecessarySimpa false
namespace Go.Proofs.Ytcenbfjhhaialaa
open Go.Ab
set_option maxRecDepth 10000

theorem reps_hd : ∀ n : Nat, reps n (hdV hd0) = flat hdV (List.replicate n hd0)
  | 0 => rfl
  | n + 1 => by rw [List.replicate_succ, flat_cons, ← reps_hd n]; rfl
section
variable {h h' : HH} {c c' a : Nat} {vW vR : V} {W R : List Int} {size : Int} {l : List (Nat × Hd)}

set_option maxHeartbeats 1000000 in
theorem slide_ok (r : Mem h c a vW vR W R size) (so : SoundW W R l) : Does 44 [.ptr (some (a, 0)), vR] h c (mn a vW vR) fun v h' c' => ∃ vG mv vW', v = .tuple [.agg [I (slidW W R l (liveOf W l R)).length, vG, I mv], .bool true] ∧
    Mem h' c' a vW' vR (slidW W R l (liveOf W l R)) (R.map (mvW W R l)) size ∧ (∀ n ∈ rowName vW', n ∈ rowName vW) ∧ ListOf 1 intV h' c' vG (goneOf W R l l) ∧ ∀ n ∈ rowName vG, c ≤ n := by
  obtain ⟨sR, capR, hvR⟩ : ∃ s cap, vR = .slice s R.length cap := by obtain ⟨s, cap, e, _⟩ := r.rr.shape; exact ⟨s, cap, e⟩
  subst hvR
  have hlw := r.lenW
  have hlr := r.len
  have hok := r.ok
  have hnm := r.names
  have hlL : (liveOf W l R).length ≤ W.length := by
    have h1 : (liveOf W l R).length ≤ l.length := List.length_filter_le _ _
    have h2 := places_le so.objs
    omega
  refine does_of (enterH (fn := Try.f44) Try.func44 rfl rfl (Nat.le_of_ble_eq_true rfl) ?_)
  have r1 := r.same (h' := MapI.set h c (.cells true true [I 0, .slice none 0 (.known 0), I 0])) (c' := c + 1) (by omega) fun n hn => MapI.get_ne _ _ _ _ (by omega)
  have hgc1 : MapI.get (MapI.set h c (.cells true true [I 0, .slice none 0 (.known 0), I 0])) c = some (.cells true true [I 0, .slice none 0 (.known 0), I 0]) := MapI.get_same _ _ _
  repeat' (first | refine WpC.seq ?_ | refine WpC.region ?_ | refine WpO.nil ?_ | refine WpO.cons rfl rfl (WpX.pure (fun _ => rfl) ⟨nolog, ?_⟩) | refine WpO.cons rfl rfl (op_alloc rfl ⟨(by simp [InL, Acc.name, rowName] <;> omega), ?_⟩))
  refine WpO.cons rfl rfl (call_at rfl (sound_ok r1.ar r1.rr hok (by omega) so) (fun n hn => .inl hn) (by omega) fun v2 h2 c2 hc2 _ hq => ?_)
  obtain ⟨rfl, hf2⟩ := hq
  have r2 := r1.same hc2 hf2
  repeat' (first | refine WpO.nil ?_ | refine WpO.cons rfl rfl (WpX.pure (fun _ => rfl) ⟨nolog, ?_⟩) | refine seqQ_normal ?_)
  refine WpC.cond rfl (fun hb => by cases hb) (fun _ => ?_)
  repeat' (first | refine WpC.seq ?_ | refine WpC.region ?_ | refine WpC.skip ?_ | refine WpO.cons rfl rfl (WpX.pure (fun _ => rfl) ⟨nolog, ?_⟩))
  refine WpO.cons rfl rfl (call_at rfl (live_words_ok r2.ar r2.rr hok hlr so) (fun n hn => .inl hn) (by omega) fun v3 h3 c3 hc3 _ hq => ?_)
  obtain ⟨vL, rfl, hL3, hLn3, hf3⟩ := hq
  have r3 := r2.same hc3 hf3
  have hLlt := hL3.lt
  obtain ⟨sL, capL, hvL, _⟩ := hL3.shape
  have hlenL : (places (liveOf W l R)).length = (liveOf W l R).length := List.length_map _
  rw [hlenL] at hvL
  have hz0 : ∀ {t : Nat}, cx.size t = some 4 → cx.zero t = some (.agg (hdV hd0)) → zeroRow cx t (liveOf W l R).length = some (flat hdV (List.replicate (liveOf W l R).length hd0)) := fun {t} h1 h2 => by
    unfold zeroRow; rw [h1, h2, ← reps_hd]; rfl
  subst hvL
  repeat' (first | refine WpC.seq ?_ | refine WpC.region ?_ | refine WpO.nil ?_ | refine WpO.cons rfl rfl (WpX.pure (fun _ => rfl) ⟨nolog, ?_⟩) | refine WpO.cons rfl rfl (op_makeSlice rfl rfl rfl (hz0 rfl rfl) ⟨_, rfl, by decide⟩ ⟨Nat.le_refl _, by omega⟩ ⟨(by simp [InL, Acc.name, rowName] <;> omega), ?_⟩) | refine WpO.cons rfl rfl (op_box rfl ⟨(by simp [InL, Acc.name, rowName] <;> omega), ?_⟩))
  have hL3' : ListOf 1 intV h3 c3 (.slice sL (liveOf W l R).length capL) (places (liveOf W l R)) := hL3
  have hnL : ∀ n ∈ rowName (.slice sL (liveOf W l R).length capL), c2 ≤ n ∧ n < c3 := fun n hn => ⟨hLn3 n hn, hLlt n hn⟩
  have s4 : SlAt (MapI.set (MapI.set h3 c3 (.cells true true (flat hdV (List.replicate (liveOf W l R).length hd0)))) (c3 + 1) (.cells true true [.ptr (some (a, 0)), .slice sR R.length capR, .slice sL (liveOf W l R).length capL, .slice (some (c3, 0)) (liveOf W l R).length (.known (liveOf W l R).length)])) (c3 + 1 + 1) a (c3 + 1) vW (.slice sR R.length capR) (.slice sL (liveOf W l R).length capL) (.slice (some (c3, 0)) (liveOf W l R).length (.known (liveOf W l R).length)) (W, R) size (liveOf W l R) (List.replicate (liveOf W l R).length hd0) := by
    refine ⟨r3.same (by omega) fun n hn => ?_, MapI.get_same _ _ _, hL3'.keep (by omega) fun n hn _ => ?_, ?_, by omega, fun n hn => ⟨?_, fun h => ?_, fun h => ?_⟩, ⟨fun h => ?_, fun h => ?_⟩, fun n hn h => ?_⟩
    · rw [MapI.get_ne _ _ _ _ (by omega), MapI.get_ne _ _ _ _ (by omega)]
    · rw [MapI.get_ne _ _ _ _ (by omega), MapI.get_ne _ _ _ _ (by omega)]
    · refine ⟨_, _, by rw [List.length_replicate], fun n hn => (by have hn : n ∈ [c3] := hn; simp at hn; omega), fun _ => ⟨c3, true, [], rfl, ?_, rfl⟩⟩
      rw [MapI.get_ne _ _ _ _ (by omega), MapI.get_same, List.append_nil]
    · have := hnm n hn; omega
    · have := hnm n hn; have := (hnL n h).1; omega
    · have := hnm n hn; have h : n ∈ [c3] := h; simp at h; omega
    · have := (hnL _ h).2; omega
    · have h : c3 + 1 ∈ [c3] := h; simp at h
    · have := (hnL n hn).2; have h : n ∈ [c3] := h; simp at h; omega
  have hsln : ∀ n ∈ sln a (c3 + 1) vW (.slice sR R.length capR) (.slice sL (liveOf W l R).length capL) (.slice (some (c3, 0)) (liveOf W l R).length (.known (liveOf W l R).length)), n ∈ mn a vW (.slice sR R.length capR) ∨ (c2 ≤ n ∧ n < c3 + 1 + 1) := fun n hn => by
    rcases List.mem_cons.1 hn with h | h
    · exact .inr (by omega)
    · rcases List.mem_append.1 h with h | h
      · exact .inl h
      · rcases List.mem_append.1 h with h | h
        · exact .inr (by have := hnL n h; omega)
        · have h : n ∈ [c3] := h; simp at h; exact .inr (by omega)
  generalize hvH : V.slice (some (c3, 0)) (liveOf W l R).length (.known (liveOf W l R).length) = vH at s4 hsln
  have hsub : ∀ n ∈ sln a (c3 + 1) vW (.slice sR R.length capR) (.slice sL (liveOf W l R).length capL) vH, n ∈ mn a vW (.slice sR R.length capR) ∨ c ≤ n := fun n hn => (hsln n hn).imp id fun h => by omega
  generalize hvL : V.slice sL (liveOf W l R).length capL = vL at s4 hsln hsub
  have hgc4 : MapI.get (MapI.set (MapI.set h3 c3 (.cells true true (flat hdV (List.replicate (liveOf W l R).length hd0)))) (c3 + 1) (.cells true true [.ptr (some (a, 0)), .slice sR R.length capR, vL, vH])) c = some (.cells true true [I 0, .slice none 0 (.known 0), I 0]) := by
    rw [MapI.get_ne _ _ _ _ (by omega), MapI.get_ne _ _ _ _ (by omega), hf3 c (by omega), hf2 c (by omega)]; exact hgc1
  subst hvL
  subst hvH
  refine WpO.cons rfl rfl (call_at rfl (gone_ok s4 so) hsub (by omega) fun v5 h5 c5 hc5 _ hq => ?_)
  obtain ⟨hG, hGn, hf5⟩ := hq
  have s5 := s4.same hc5 hf5
  have hgc5 : MapI.get h5 c = some (.cells true true [I 0, .slice none 0 (.known 0), I 0]) := by rw [hf5 c (by omega)]; exact hgc4
  have hGlt := hG.lt
  obtain ⟨sG, capG, hvG⟩ : ∃ s cap, v5 = .slice s (goneOf W R l l).length cap := by obtain ⟨s, cap, e, _⟩ := hG.shape; exact ⟨s, cap, e⟩
  subst hvG
  repeat' (first | refine WpC.seqI (a := Code.seq (Code.region 6 _ _) _) (fun e' h' c' => ∃ m C val, (∃ b0, e' = FR b0 [(0, V.ptr (some (a, 0))), (4, V.ptr (some (c, 0))), (8, V.ptr (some (c3 + 1, 0))), (9, .slice sG (goneOf W R l l).length capG)]) ∧ SlAt h' c' a (c3 + 1) vW (.slice sR R.length capR) (.slice sL (liveOf W l R).length capL) (.slice (some (c3, 0)) (liveOf W l R).length (.known (liveOf W l R).length)) m size (liveOf W l R) (List.replicate (liveOf W l R).length hd0) ∧ UpI W R l (fun _ => False) (PrOf R []) m C val ∧ ListOf 1 intV h' c' (.slice sG (goneOf W R l l).length capG) (goneOf W R l l) ∧ MapI.get h' c = some (.cells true true [I 0, .slice none 0 (.known 0), I 0]) ∧ c5 ≤ c') ?_ ?_ | refine WpC.seq ?_ | refine WpC.region ?_ | refine WpC.block ?_ | refine WpO.nil ?_ | refine WpO.cons rfl rfl (WpX.pure (fun _ => rfl) ⟨nolog, ?_⟩))
  ·
    skip
    refine WpC.loop ?_
    refine WpLoop.ind (X := Nat × MM × (Nat → List Fld) × (Fld → Int)) (fun y e' h' c' => (∃ b0, e' = FR b0 [(0, V.ptr (some (a, 0))), (1, .slice sR R.length capR), (4, V.ptr (some (c, 0))), (8, V.ptr (some (c3 + 1, 0))), (9, .slice sG (goneOf W R l l).length capG), (33, .slice sR R.length capR), (34, I R.length), (35, I y.1)]) ∧ y.1 ≤ R.length ∧ SlAt h' c' a (c3 + 1) vW (.slice sR R.length capR) (.slice sL (liveOf W l R).length capL) (.slice (some (c3, 0)) (liveOf W l R).length (.known (liveOf W l R).length)) y.2.1 size (liveOf W l R) (List.replicate (liveOf W l R).length hd0) ∧ UpI W R l (fun _ => False) (fun f => f.1 = true ∧ f.2 < y.1) y.2.1 y.2.2.1 y.2.2.2 ∧ ListOf 1 intV h' c' (.slice sG (goneOf W R l l).length capG) (goneOf W R l l) ∧ MapI.get h' c = some (.cells true true [I 0, .slice none 0 (.known 0), I 0]) ∧ c5 ≤ c')
      (fun y => R.length - y.1) ?_ (0, (W, R), _, _) _ _ _ ⟨fr ⟨rfl, rfl, rfl, rfl, rfl, rfl, rfl, rfl, trivial⟩, Nat.zero_le _, s5, (UpI.start so).congr (fun q => Iff.rfl) (fun f => ⟨fun h => h.elim, fun h => by omega⟩), hG, hgc5, Nat.le_refl _⟩
    rintro ⟨j, m, C, val⟩ e' h' c' ⟨⟨b0, rfl⟩, hj, s', u, hG', hg', hc'⟩
    simp only at hj s' u
    repeat' (first | refine WpC.seq ?_ | refine WpC.region ?_ | refine WpO.nil ?_ | refine WpO.cons rfl rfl (WpX.pure (fun _ => rfl) ⟨nolog, ?_⟩))
    refine WpC.cond rfl (fun hlt => ?_) (fun hge => ?_)
    case refine_2 =>
      have hge : R.length ≤ j := by simpa using hge
      have hje : j = R.length := by omega
      subst hje
      repeat' (first | refine WpC.exit ?_ | refine seqQ_normal ?_ | refine seqQ_exit ?_ | refine blkQ_out rfl ?_)
      refine ⟨m, C, val, fr ?_, s', u.congr (fun q => Iff.rfl) (fun f => ⟨fun h => .inl h, fun h => h.elim id fun ⟨_, p, x, k, hm, _⟩ => (by cases hm)⟩), hG', hg', hc'⟩
      exact ⟨rfl, rfl, rfl, rfl, trivial⟩
    have hlt : j < R.length := by simpa using hlt
    have hfld : isFld W R l (true, j) := .inl ⟨rfl, hlt⟩
    have hPr : ¬ ((true, j) : Fld).1 = true ∨ ¬ ((true, j) : Fld).2 < j := .inr (Nat.lt_irrefl j)
    have hPr : ¬ (((true, j) : Fld).1 = true ∧ ((true, j) : Fld).2 < j) := fun h => Nat.lt_irrefl j h.2
    obtain ⟨w, hw, hlv, _⟩ := fld_val so hfld
    obtain ⟨hm2, _, _⟩ := u.at so hfld hPr hw
    have wj : IntKind.i64.wrap ((j : Int) + 1) = ((j + 1 : Nat) : Int) := by rw [Go.IntWalk.i64_in _ (by omega)]; omega
    have hPK : ∀ f : Fld, (f = (true, j) ∨ (f.1 = true ∧ f.2 < j)) ↔ (f.1 = true ∧ f.2 < j + 1) := fun f => by
      obtain ⟨b, z⟩ := f
      constructor
      · rintro (h | ⟨h1, h2⟩)
        · cases h; exact ⟨rfl, Nat.lt_succ_self j⟩
        · exact ⟨h1, Nat.lt_succ_of_lt h2⟩
      · rintro ⟨h1, h2⟩
        simp only at h1 h2
        subst h1
        rcases Nat.lt_or_ge z j with h | h
        · exact .inr ⟨rfl, h⟩
        · have : z = j := by omega
          subst this; exact .inl rfl
    by_cases t5 : tagW w = 5
    · obtain ⟨q, hq, hLq⟩ := hlv t5
      obtain ⟨hx', hne, u3⟩ := u.thread so hfld hPr hw t5 hq fun d hd => hd.elim
      repeat' (first | refine WpC.seq ?_ | refine WpC.region ?_ | refine WpC.skip ?_ | refine WpC.block ?_ | refine WpO.nil ?_ | refine WpO.cons rfl rfl (WpX.pure (fun _ => rfl) ⟨nolog, ?_⟩))
      refine WpO.cons rfl rfl (call_at rfl (thread_okI (b := true) (i := j) rfl s'.mem hm2 t5 hq hx' (fun h => by cases h.1)) (fun n hn => .inl hn) (by omega) fun v9 h9 c9 hc9 hf9 hq9 => ?_)
      obtain ⟨rfl, r9⟩ := hq9
      repeat' (first | refine WpC.region ?_ | refine WpO.nil ?_ | refine WpO.cons rfl rfl (WpX.pure (fun _ => rfl) ⟨nolog, ?_⟩) | refine seqQ_normal ?_)
      refine ⟨(j + 1, _, _, _), by simp only; omega, ?_, by simp only; omega, s'.mems r9 hc9 hf9, u3.congr (fun q => Iff.rfl) hPK, hG'.keep hc9 fun n hn hm => hf9 n hn fun hh => (by have := hnm n hh; have := hGn n hm; omega), by rw [hf9 c (by omega) (fun hh => by have := hnm c hh; omega)]; exact hg', by omega⟩
      rw [wj]
      exact fr ⟨rfl, rfl, rfl, rfl, rfl, rfl, rfl, rfl, trivial⟩
    · have u3 := u.skip so hfld hPr hw t5
      repeat' (first | refine WpC.seq ?_ | refine WpC.region ?_ | refine WpC.skip ?_ | refine WpC.block ?_ | refine WpO.nil ?_ | refine WpO.cons rfl rfl (WpX.pure (fun _ => rfl) ⟨nolog, ?_⟩))
      refine WpO.cons rfl rfl (call_at rfl (thread_noI (b := true) (i := j) rfl s'.mem hm2 t5) (fun n hn => .inl hn) (by omega) fun v9 h9 c9 hc9 hf9 hq9 => ?_)
      obtain ⟨rfl, hf9'⟩ := hq9
      repeat' (first | refine WpC.region ?_ | refine WpO.nil ?_ | refine WpO.cons rfl rfl (WpX.pure (fun _ => rfl) ⟨nolog, ?_⟩) | refine seqQ_normal ?_)
      refine ⟨(j + 1, m, C, val), by simp only; omega, ?_, by simp only; omega, s'.same hc9 hf9', u3.congr (fun q => Iff.rfl) hPK, hG'.keep hc9 fun n hn hm => hf9' n hn, by rw [hf9' c (by omega)]; exact hg', by omega⟩
      rw [wj]
      exact fr ⟨rfl, rfl, rfl, rfl, rfl, rfl, rfl, rfl, trivial⟩
  rintro e h6 c6 ⟨m, C, val, ⟨b0, rfl⟩, s6, u6, hG6, hgc6, hc6⟩
  have hcn : c ∉ sln a (c3 + 1) vW (.slice sR R.length capR) (.slice sL (liveOf W l R).length capL) (.slice (some (c3, 0)) (liveOf W l R).length (.known (liveOf W l R).length)) := fun hh => by
    rcases hsln c hh with h | h
    · have := hnm c h; omega
    · omega
  have hGs : ∀ n ∈ rowName (.slice sG (goneOf W R l l).length capG), n ∉ sln a (c3 + 1) vW (.slice sR R.length capR) (.slice sL (liveOf W l R).length capL) (.slice (some (c3, 0)) (liveOf W l R).length (.known (liveOf W l R).length)) := fun n hn hh => by
    have h1 := hGn n hn
    rcases hsln n hh with h | h
    · have := hnm n h; omega
    · omega
  repeat' (first | refine WpC.seq ?_ | refine WpC.region ?_ | refine WpO.cons rfl rfl (WpX.pure (fun _ => rfl) ⟨nolog, ?_⟩))
  refine WpO.cons rfl rfl (call_at rfl (up_ok so s6 (List.length_replicate ..) u6) hsub (by omega) fun v7 h7 c7 hc7 hf7 hq7 => ?_)
  obtain ⟨m7, C7, val7, s7, u7⟩ := hq7
  have hG7 := hG6.keep hc7 fun n hn hm => hf7 n hn (hGs n hm)
  have hgc7 : MapI.get h7 c = some (.cells true true [I 0, .slice none 0 (.known 0), I 0]) := by rw [hf7 c (by omega) hcn]; exact hgc6
  repeat' (first | refine WpC.seq ?_ | refine WpC.region ?_ | refine WpO.nil ?_ | refine WpO.cons rfl rfl (WpX.pure (fun _ => rfl) ⟨nolog, ?_⟩))
  refine WpO.cons rfl rfl (call_at rfl (down_ok so s7 (DnI.start so u7 (fun q h => h) (fun f h => h))) hsub (by omega) fun v8 h8 c8 hc8 hf8 hq8 => ?_)
  obtain ⟨⟨mv, rfl⟩, vW', r8, hn8⟩ := hq8
  have hG8 := hG7.keep hc8 fun n hn hm => hf8 n hn (hGs n hm)
  have hgc8 : MapI.get h8 c = some (.cells true true [I 0, .slice none 0 (.known 0), I 0]) := by rw [hf8 c (by omega) hcn]; exact hgc7
  have hn8' : ∀ n ∈ an a vW', n ∈ mn a vW (.slice sR R.length capR) ∨ c ≤ n := fun n hn => by
    rcases List.mem_cons.1 hn with h | h
    · exact .inl (List.mem_append_left _ (by rw [h]; exact List.mem_cons_self ..))
    · exact .inl (List.mem_append_left _ (List.mem_cons_of_mem _ (hn8 n h)))
  have hGone := hG8.one
  repeat' (first | refine WpC.seq ?_ | refine WpC.region ?_ | refine WpO.nil ?_ | refine WpO.cons rfl rfl (WpX.pure (fun _ => rfl) ⟨nolog, ?_⟩))
  refine WpO.cons rfl rfl (call_atD rfl (used_ok r8.ar) hn8' (by omega) fun v9 h9 c9 hc9 _ hq9 => ?_)
  obtain ⟨rfl, rfl, rfl⟩ := hq9
  repeat' (first | refine WpC.ret ?_ | refine WpO.nil ?_ | refine WpO.cons rfl rfl (WpX.pure (fun _ => rfl) ⟨nolog, ?_⟩) | refine WpO.cons rfl rfl (op_store (k := 3) rfl rfl rfl rfl hgc8 (Nat.le_of_ble_eq_true rfl) rfl ⟨(by simp [InL, Acc.name, rowName] <;> omega), ?_⟩))
  have hG9 : ∀ {o : AObj}, ListOf 1 intV (MapI.set h8 c o) c8 (.slice sG (goneOf W R l l).length capG) (goneOf W R l l) := fun {o} => hG8.keep (Nat.le_refl _) fun n _ hn => MapI.get_ne _ _ _ _ (by have := hGn n hn; omega)
  have r9 : ∀ {o : AObj}, Mem (MapI.set h8 c o) c8 a vW' (.slice sR R.length capR) (slidW W R l (liveOf W l R)) (R.map (mvW W R l)) size := fun {o} => r8.keep (Nat.le_refl _) fun n _ hn => MapI.get_ne _ _ _ _ (by
    rcases List.mem_append.1 hn with h | h
    · rcases List.mem_cons.1 h with h | h
      · have := hnm a (List.mem_append_left _ (List.mem_cons_self ..)); omega
      · have := hnm n (List.mem_append_left _ (List.mem_cons_of_mem _ (hn8 n h))); omega
    · have := hnm n (List.mem_append_right _ h); omega)
  refine outH_ret (.cellA (k := 3) rfl rfl rfl rfl (MapI.get_same _ _ _) rfl (.tmp rfl .nil)) ?_ ⟨_, mv, vW', rfl, r9, hn8, hG9, fun n hn => by have := hGn n hn; omega⟩
  intro x hx
  simp at hx
  subst hx
  exact .inr (Nat.le_refl _)
end
end Go.Proofs.Ytcenbfjhhaialaa
