/- The reference's registry: a list of pairs. -/
import Derived.Test.YtjincciacbfhiaaNamesPairsW
import Derived.Test.YtjincciacbfhiaaAd6
set_option linter.unusedVariables false
set_option linter.unusedSectionVars false
set_option linter.unusedSimpArgs false
set_option linter.unnecessarySimpa false
namespace Go.Proofs.Ytjincciacbfhiaa
open Go.Ab
set_option maxRecDepth 10000

def pairI (p : Int × Int) : List V := [I p.1, I p.2]
def flatI (L : List (Int × Int)) : List V := (L.map pairI).flatten
theorem flatI_length (L : List (Int × Int)) : (flatI L).length = L.length * 2 := by
  induction L with
  | nil => rfl
  | cons a L ih => simp only [flatI, List.map_cons, List.flatten_cons, List.length_append] at ih ⊢; simp [pairI, ih, flatI]; omega
theorem flatI_append (L K : List (Int × Int)) : flatI (L ++ K) = flatI L ++ flatI K := by simp [flatI]
theorem flatI_one (L : List (Int × Int)) : (flatI L).all one1 = true := by
  induction L with
  | nil => rfl
  | cons a L ih => simp only [flatI, List.map_cons, List.flatten_cons, List.all_append] at ih ⊢; rw [ih]; rfl
theorem flatI_drop (L : List (Int × Int)) (i : Nat) : (flatI L).drop (i * 2) = flatI (L.drop i) := by
  induction L generalizing i with
  | nil => simp [flatI]
  | cons a L ih =>
    cases i with
    | zero => simp
    | succ i =>
      have e : (i + 1) * 2 = i * 2 + 2 := by omega
      rw [e]
      show (I a.1 :: I a.2 :: flatI L).drop (i * 2 + 2) = flatI (L.drop i)
      rw [List.drop_succ_cons, List.drop_succ_cons, ih]
theorem flatI_take (L : List (Int × Int)) (i : Nat) : (flatI L).take (i * 2) = flatI (L.take i) := by
  induction L generalizing i with
  | nil => simp [flatI]
  | cons a L ih =>
    cases i with
    | zero => simp [flatI]
    | succ i =>
      have e : (i + 1) * 2 = i * 2 + 2 := by omega
      rw [e]
      show (I a.1 :: I a.2 :: flatI L).take (i * 2 + 2) = I a.1 :: I a.2 :: flatI (L.take i)
      rw [List.take_succ_cons, List.take_succ_cons, ih]
theorem nth_flatI : ∀ {L : List (Int × Int)} {i : Nat} {z : Int × Int}, L[i]? = some z → nth (flatI L) (i * 2) = some (I z.1) ∧ nth (flatI L) (i * 2 + 1) = some (I z.2)
  | [], _, _, h => by simp at h
  | a :: L, 0, z, h => by simp at h; subst h; exact ⟨rfl, rfl⟩
  | a :: L, i + 1, z, h => by
    have := nth_flatI (L := L) (i := i) (z := z) (by simpa using h)
    rw [show (i + 1) * 2 = i * 2 + 2 from by omega]
    exact this

/-- A list of the reference's own. -/
def ListAt (h : HH) (c : Nat) (v : V) (L : List (Int × Int)) : Prop :=
  (v = .slice none 0 (.known 0) ∧ L = []) ∨ ∃ s, v = .slice (some (s, 0)) L.length (.upTo 2) ∧ s < c ∧ MapI.get h s = some (.cells true true (flatI L)) ∧ L ≠ []
theorem ListAt.keep {h h' : HH} {c c' : Nat} {v : V} {L : List (Int × Int)} (r : ListAt h c v L) (hc : c ≤ c') (e : ∀ n ∈ rowName v, n < c → MapI.get h' n = MapI.get h n) : ListAt h' c' v L := by
  rcases r with h1 | ⟨s, rfl, h2, h3, h4⟩
  · exact .inl h1
  · exact .inr ⟨s, rfl, by omega, by rw [e s (by simp [rowName]) h2]; exact h3, h4⟩
theorem elT : ElT cx 27 47 1 := ⟨rfl, rfl, rfl, ⟨_, rfl, by decide⟩⟩

/-- Where the first pair of a name lies. -/
theorem split_at {L : List (Int × Int)} {k : Int} {i : Nat} {p : Int} (hi : L[i]? = some (k, p)) (hb : ∀ j q, j < i → L[j]? = some q → q.1 ≠ k) : L.lookup k = some p ∧ era k L = L.take i ++ L.drop (i + 1) := by
  induction L generalizing i with
  | nil => simp at hi
  | cons a L ih =>
    obtain ⟨a1, a2⟩ := a
    cases i with
    | zero => simp at hi; obtain ⟨rfl, rfl⟩ := hi; simp [List.lookup, era]
    | succ i =>
      have h0 : a1 ≠ k := hb 0 (a1, a2) (by omega) rfl
      have h1 : (k == a1) = false := by simpa using fun e : k = a1 => h0 e.symm
      have := ih (i := i) (by simpa using hi) (fun j q hj hq => hb (j + 1) q (by omega) (by simpa using hq))
      rw [List.lookup_cons, h1]
      exact ⟨this.1, by simp only [era, if_neg h0, this.2]; rfl⟩
theorem none_at {L : List (Int × Int)} {k : Int} (hb : ∀ j q, j < L.length → L[j]? = some q → q.1 ≠ k) : L.lookup k = none := by
  induction L with
  | nil => rfl
  | cons a L ih =>
    obtain ⟨a1, a2⟩ := a
    have h0 : a1 ≠ k := hb 0 (a1, a2) (by simp) rfl
    have h1 : (k == a1) = false := by simpa using fun e : k = a1 => h0 e.symm
    rw [List.lookup_cons, h1]
    exact ih fun j q hj hq => hb (j + 1) q (by simpa using hj) (by simpa using hq)

set_option maxHeartbeats 8000000 in
/-- TakeWatch: the list without the first pair of a name; its other number. -/
theorem take_ok {h : HH} {c : Nat} {l : V} {L : List (Int × Int)} {ref : Int} (r : ListAt h c l L) (hlen : L.length ≤ 1000) :
    Does 19 [l, I ref] h c (rowName l) fun v h' c' => ∃ l', v = .tuple [l', I ((L.lookup ref).getD 0), .bool (L.lookup ref).isSome] ∧ ListAt h' c' l' (era ref L) ∧ (∀ n ∈ rowName l', n ∈ rowName l ∨ c ≤ n) ∧ ∀ n, n < c → MapI.get h' n = MapI.get h n := by
  refine does_of (enter (fn := Try.f19) Try.func19 rfl rfl (Nat.le_of_ble_eq_true rfl) ?_)
  obtain ⟨s, cap, rfl, hs⟩ : ∃ a cap, l = .slice a L.length cap ∧ (∀ i, i < L.length → cap = .upTo 2 ∧ ∃ s, a = some (s, 0) ∧ s < c ∧ MapI.get h s = some (.cells true true (flatI L))) := by
    rcases r with ⟨rfl, rfl⟩ | ⟨s, rfl, h1, h2, _⟩
    · exact ⟨none, .known 0, rfl, fun i hi => by simp at hi⟩
    · exact ⟨_, _, rfl, fun i hi => ⟨rfl, s, rfl, h1, h2⟩⟩
  repeat' (first
    | refine WpC.seq ?_
    | refine WpC.region ?_
    | refine WpC.drawn ?_
    | refine WpC.skip ?_
    | refine WpC.block ?_
    | refine WpC.exit ?_
    | refine WpC.ret ?_
    | refine WpO.nil ?_
    | refine WpO.cons rfl rfl (WpX.pure (fun _ => rfl) ⟨nolog, ?_⟩)
    | refine WpO.skip rfl rfl ?_
    | refine WpL.cons rfl rfl (WpX.pure (fun _ => rfl) ⟨nolog, ?_⟩)
    | refine WpL.skip rfl rfl ?_
    | refine seqQ_normal ?_
    | refine seqQ_ret ?_
    | refine seqQ_exit ?_
    | refine blkQ_normal ?_
    | refine blkQ_ret ?_
    | refine blkQ_out rfl ?_
    | refine blkQ_by rfl ?_)
  refine WpC.loop ?_
  refine WpLoop.ind (X := Nat) (fun i e h' c' => (∃ b0, e = MapI.set (MapI.set (MapI.set b0 0 (.slice s L.length cap)) 1 (I ref)) 7 (I i)) ∧ i ≤ L.length ∧ (∀ j q, j < i → L[j]? = some q → q.1 ≠ ref) ∧ h' = h ∧ c' = c) (fun i => L.length - i) ?_ 0 _ _ _ ⟨set3 rfl rfl rfl, Nat.zero_le _, fun j q hj => by omega, rfl, rfl⟩
  rintro i e h' c' ⟨⟨b0, rfl⟩, hi, hb, rfl, rfl⟩
  repeat' (first
    | refine WpC.seq ?_
    | refine WpC.region ?_
    | refine WpC.drawn ?_
    | refine WpC.skip ?_
    | refine WpC.block ?_
    | refine WpC.exit ?_
    | refine WpC.ret ?_
    | refine WpO.nil ?_
    | refine WpO.cons rfl rfl (WpX.pure (fun _ => rfl) ⟨nolog, ?_⟩)
    | refine WpO.skip rfl rfl ?_
    | refine WpL.cons rfl rfl (WpX.pure (fun _ => rfl) ⟨nolog, ?_⟩)
    | refine WpL.skip rfl rfl ?_
    | refine seqQ_normal ?_
    | refine seqQ_ret ?_
    | refine seqQ_exit ?_
    | refine blkQ_normal ?_
    | refine blkQ_ret ?_
    | refine blkQ_out rfl ?_
    | refine blkQ_by rfl ?_
    | refine WpO.cons rfl rfl (op_len rfl rfl rfl ⟨(by simp [InL, Acc.name, rowName] <;> omega), ?_⟩)
    | refine WpL.cons rfl rfl (op_len rfl rfl rfl ⟨(by simp [InL, Acc.name, rowName] <;> omega), ?_⟩))
  refine WpC.cond rfl (fun hlt => ?_) (fun hge => ?_)
  case refine_2 =>
    have hge : L.length ≤ i := by simpa using hge
    repeat' (first
      | refine WpC.seq ?_
      | refine WpC.region ?_
      | refine WpC.drawn ?_
      | refine WpC.skip ?_
      | refine WpC.block ?_
      | refine WpC.exit ?_
      | refine WpC.ret ?_
      | refine WpO.nil ?_
      | refine WpO.cons rfl rfl (WpX.pure (fun _ => rfl) ⟨nolog, ?_⟩)
      | refine WpO.skip rfl rfl ?_
      | refine WpL.cons rfl rfl (WpX.pure (fun _ => rfl) ⟨nolog, ?_⟩)
      | refine WpL.skip rfl rfl ?_
      | refine seqQ_normal ?_
      | refine seqQ_ret ?_
      | refine seqQ_exit ?_
      | refine blkQ_normal ?_
      | refine blkQ_ret ?_
      | refine blkQ_out rfl ?_
      | refine blkQ_by rfl ?_)
    have hno : L.lookup ref = none := none_at fun j q hj => hb j q (by omega)
    refine out_ret rfl ⟨_, by rw [hno]; rfl, by rw [era_none hno]; exact r, fun n hn => .inl hn, fun n _ => rfl⟩
  have hlt : i < L.length := by simpa using hlt
  obtain ⟨rfl, sn, rfl, hsn, hg⟩ := hs i hlt
  obtain ⟨⟨z0, z1⟩, hz⟩ : ∃ z, L[i]? = some z := ⟨_, List.getElem?_eq_getElem hlt⟩
  obtain ⟨hz0, hz1⟩ := nth_flatI hz
  have hz0 : nth (flatI L) (0 + ((i : Nat) : Int).toNat * 2 + 0) = some (I z0) := by
    have : 0 + ((i : Nat) : Int).toNat * 2 + 0 = i * 2 := by simp
    rw [this]; exact hz0
  have hz1 : nth (flatI L) (0 + ((i : Nat) : Int).toNat * 2 + 1) = some (I z1) := by
    have : 0 + ((i : Nat) : Int).toNat * 2 + 1 = i * 2 + 1 := by simp
    rw [this]; exact hz1
  have hw1 : IntKind.i64.wrap ((i : Int) + 1) = ((i + 1 : Nat) : Int) := by rw [Go.IntWalk.i64_in _ (by omega)]; omega
  repeat' (first
    | refine WpC.seq ?_
    | refine WpC.region ?_
    | refine WpC.drawn ?_
    | refine WpC.skip ?_
    | refine WpC.block ?_
    | refine WpC.exit ?_
    | refine WpC.ret ?_
    | refine WpO.nil ?_
    | refine WpO.cons rfl rfl (WpX.pure (fun _ => rfl) ⟨nolog, ?_⟩)
    | refine WpO.skip rfl rfl ?_
    | refine WpL.cons rfl rfl (WpX.pure (fun _ => rfl) ⟨nolog, ?_⟩)
    | refine WpL.skip rfl rfl ?_
    | refine seqQ_normal ?_
    | refine seqQ_ret ?_
    | refine seqQ_exit ?_
    | refine blkQ_normal ?_
    | refine blkQ_ret ?_
    | refine blkQ_out rfl ?_
    | refine blkQ_by rfl ?_
    | refine WpO.cons rfl rfl (op_indexAddr rfl rfl rfl rfl ⟨by omega, by omega⟩ ⟨(by simp [InL, Acc.name, rowName] <;> omega), ?_⟩)
    | refine WpL.cons rfl rfl (op_indexAddr rfl rfl rfl rfl ⟨by omega, by omega⟩ ⟨(by simp [InL, Acc.name, rowName] <;> omega), ?_⟩)
    | refine WpO.cons rfl rfl (op_load rfl rfl rfl hg hz0 ⟨(by simp [InL, Acc.name, rowName] <;> omega), ?_⟩)
    | refine WpL.cons rfl rfl (op_load rfl rfl rfl hg hz0 ⟨(by simp [InL, Acc.name, rowName] <;> omega), ?_⟩)
    | refine WpO.cons rfl rfl (op_load rfl rfl rfl hg hz1 ⟨(by simp [InL, Acc.name, rowName] <;> omega), ?_⟩)
    | refine WpL.cons rfl rfl (op_load rfl rfl rfl hg hz1 ⟨(by simp [InL, Acc.name, rowName] <;> omega), ?_⟩))
  refine WpC.cond rfl (fun heq => ?_) (fun hne => ?_)
  case refine_2 =>
    have hne : z0 ≠ ref := by simpa using hne
    repeat' (first
      | refine WpC.seq ?_
      | refine WpC.region ?_
      | refine WpC.drawn ?_
      | refine WpC.skip ?_
      | refine WpC.block ?_
      | refine WpC.exit ?_
      | refine WpC.ret ?_
      | refine WpO.nil ?_
      | refine WpO.cons rfl rfl (WpX.pure (fun _ => rfl) ⟨nolog, ?_⟩)
      | refine WpO.skip rfl rfl ?_
      | refine WpL.cons rfl rfl (WpX.pure (fun _ => rfl) ⟨nolog, ?_⟩)
      | refine WpL.skip rfl rfl ?_
      | refine seqQ_normal ?_
      | refine seqQ_ret ?_
      | refine seqQ_exit ?_
      | refine blkQ_normal ?_
      | refine blkQ_ret ?_
      | refine blkQ_out rfl ?_
      | refine blkQ_by rfl ?_)
    refine ⟨i + 1, by omega, ?_, by omega, fun j q hj hq => ?_, rfl, rfl⟩
    · rw [hw1]
      exact set3 rfl rfl rfl
    · by_cases e : j = i
      · subst e; rw [hz] at hq; cases hq; exact hne
      · exact hb j q (by omega) hq
  have heq : z0 = ref := by simpa using heq
  subst heq
  obtain ⟨hlk, her⟩ := split_at hz hb
  have hi64 : (i : Int).toNat = i := by simp
  have hcut1 : cut (flatI L) (0 + 0 * 2) (i * 2) = some (flatI (L.take i)) := by
    unfold cut
    rw [if_pos (by rw [flatI_length]; omega)]
    simp only [Nat.zero_mul, Nat.add_zero, List.drop_zero, flatI_take]
  have hcut2 : ∀ o, o = (i + 1) * 2 → cut (flatI L) o ((L.length - (i + 1)) * 2) = some (flatI (L.drop (i + 1))) := fun o ho => by
    subst ho
    unfold cut
    rw [if_pos (by rw [flatI_length]; omega), flatI_drop, List.take_of_length_le (by rw [flatI_length, List.length_drop]; omega)]
  have n1 : sn ≠ c' := by omega
  have n2 : sn ≠ c' + 1 := by omega
  have n3 : c' ≠ sn := by omega
  have n4 : c' + 1 ≠ sn := by omega
  have hl2 : (era z0 L).length = L.length - 1 := by rw [her, List.length_append, List.length_take, List.length_drop]; omega
  by_cases hi0 : i = 0
  · subst hi0
    have her : era z0 L = L.drop (0 + 1) := by rw [her]; rfl
    by_cases hm : L.length = 1
    ·
      repeat' (first
        | refine WpC.seq ?_
        | refine WpC.region ?_
        | refine WpC.drawn ?_
        | refine WpC.skip ?_
        | refine WpC.block ?_
        | refine WpC.exit ?_
        | refine WpC.ret ?_
        | refine WpO.nil ?_
        | refine WpO.cons rfl rfl (WpX.pure (fun _ => rfl) ⟨nolog, ?_⟩)
        | refine WpO.skip rfl rfl ?_
        | refine WpL.cons rfl rfl (WpX.pure (fun _ => rfl) ⟨nolog, ?_⟩)
        | refine WpL.skip rfl rfl ?_
        | refine seqQ_normal ?_
        | refine seqQ_ret ?_
        | refine seqQ_exit ?_
        | refine blkQ_normal ?_
        | refine blkQ_ret ?_
        | refine blkQ_out rfl ?_
        | refine blkQ_by rfl ?_
        | refine WpO.cons rfl rfl (op_slice rfl rfl rfl rfl rfl rfl (bound_at rfl) (by omega) (by omega) rfl ⟨(by simp [InL, Acc.name, rowName] <;> omega), ?_⟩)
        | refine WpL.cons rfl rfl (op_slice rfl rfl rfl rfl rfl rfl (bound_at rfl) (by omega) (by omega) rfl ⟨(by simp [InL, Acc.name, rowName] <;> omega), ?_⟩)
        | refine WpO.cons rfl rfl (op_slice rfl rfl rfl rfl rfl (bound_at hw1) rfl (by omega) (by omega) rfl ⟨(by simp [InL, Acc.name, rowName] <;> omega), ?_⟩)
        | refine WpL.cons rfl rfl (op_slice rfl rfl rfl rfl rfl (bound_at hw1) rfl (by omega) (by omega) rfl ⟨(by simp [InL, Acc.name, rowName] <;> omega), ?_⟩)
        | refine WpO.cons rfl rfl (op_append rfl rfl (append_none elT rfl rfl (fun _ => rfl) (by omega) (fun _ _ _ h => by cases h)) ⟨(by simp [InL, Acc.name, rowName] <;> omega), ?_⟩)
        | refine WpL.cons rfl rfl (op_append rfl rfl (append_none elT rfl rfl (fun _ => rfl) (by omega) (fun _ _ _ h => by cases h)) ⟨(by simp [InL, Acc.name, rowName] <;> omega), ?_⟩)
        | refine WpO.cons rfl rfl (op_append rfl rfl (append_zero elT rfl (by omega)) ⟨(by simp [InL, Acc.name, rowName] <;> omega), ?_⟩)
        | refine WpL.cons rfl rfl (op_append rfl rfl (append_zero elT rfl (by omega)) ⟨(by simp [InL, Acc.name, rowName] <;> omega), ?_⟩)
        | refine WpO.cons rfl rfl (op_indexAddr rfl rfl rfl rfl ⟨by omega, by omega⟩ ⟨(by simp [InL, Acc.name, rowName] <;> omega), ?_⟩)
        | refine WpL.cons rfl rfl (op_indexAddr rfl rfl rfl rfl ⟨by omega, by omega⟩ ⟨(by simp [InL, Acc.name, rowName] <;> omega), ?_⟩)
        | refine WpO.cons rfl rfl (op_load rfl rfl rfl hg hz1 ⟨(by simp [InL, Acc.name, rowName] <;> omega), ?_⟩)
        | refine WpL.cons rfl rfl (op_load rfl rfl rfl hg hz1 ⟨(by simp [InL, Acc.name, rowName] <;> omega), ?_⟩))
      refine WpL.nil (logsOk_of (cs := [0, 0, 3, 7, 0, 0, 32, 112, 255, 0, 0, 1536, 3584, 7680, 511, 32767, 65535]) (by decide +kernel) ?_) ?_
      · simp [allP, apP, Dis, Acc.name, Acc.writes, Nat.testBit]
      repeat' (first
        | refine WpC.seq ?_
        | refine WpC.region ?_
        | refine WpC.drawn ?_
        | refine WpC.skip ?_
        | refine WpC.block ?_
        | refine WpC.exit ?_
        | refine WpC.ret ?_
        | refine WpO.nil ?_
        | refine WpO.cons rfl rfl (WpX.pure (fun _ => rfl) ⟨nolog, ?_⟩)
        | refine WpO.skip rfl rfl ?_
        | refine WpL.cons rfl rfl (WpX.pure (fun _ => rfl) ⟨nolog, ?_⟩)
        | refine WpL.skip rfl rfl ?_
        | refine seqQ_normal ?_
        | refine seqQ_ret ?_
        | refine seqQ_exit ?_
        | refine blkQ_normal ?_
        | refine blkQ_ret ?_
        | refine blkQ_out rfl ?_
        | refine blkQ_by rfl ?_)
      have : era z0 L = [] := List.length_eq_zero_iff.1 (by omega)
      refine out_ret rfl ⟨_, by rw [hlk]; rfl, .inl ⟨rfl, this⟩, fun n hn => (by cases hn), fun n hn => rfl⟩
    · have hx : MapI.get (MapI.set h' c' (.cells true true (flatI (L.drop (0 + 1))))) sn = some (.cells true true (flatI L)) := by rw [MapI.get_ne _ _ _ _ n3]; exact hg
      repeat' (first
        | refine WpC.seq ?_
        | refine WpC.region ?_
        | refine WpC.drawn ?_
        | refine WpC.skip ?_
        | refine WpC.block ?_
        | refine WpC.exit ?_
        | refine WpC.ret ?_
        | refine WpO.nil ?_
        | refine WpO.cons rfl rfl (WpX.pure (fun _ => rfl) ⟨nolog, ?_⟩)
        | refine WpO.skip rfl rfl ?_
        | refine WpL.cons rfl rfl (WpX.pure (fun _ => rfl) ⟨nolog, ?_⟩)
        | refine WpL.skip rfl rfl ?_
        | refine seqQ_normal ?_
        | refine seqQ_ret ?_
        | refine seqQ_exit ?_
        | refine blkQ_normal ?_
        | refine blkQ_ret ?_
        | refine blkQ_out rfl ?_
        | refine blkQ_by rfl ?_
        | refine WpO.cons rfl rfl (op_slice rfl rfl rfl rfl rfl rfl (bound_at rfl) (by omega) (by omega) rfl ⟨(by simp [InL, Acc.name, rowName] <;> omega), ?_⟩)
        | refine WpL.cons rfl rfl (op_slice rfl rfl rfl rfl rfl rfl (bound_at rfl) (by omega) (by omega) rfl ⟨(by simp [InL, Acc.name, rowName] <;> omega), ?_⟩)
        | refine WpO.cons rfl rfl (op_slice rfl rfl rfl rfl rfl (bound_at hw1) rfl (by omega) (by omega) rfl ⟨(by simp [InL, Acc.name, rowName] <;> omega), ?_⟩)
        | refine WpL.cons rfl rfl (op_slice rfl rfl rfl rfl rfl (bound_at hw1) rfl (by omega) (by omega) rfl ⟨(by simp [InL, Acc.name, rowName] <;> omega), ?_⟩)
        | refine WpO.cons rfl rfl (op_append rfl rfl (append_none elT rfl rfl (fun _ => rfl) (by omega) (fun _ _ _ h => by cases h)) ⟨(by simp [InL, Acc.name, rowName] <;> omega), ?_⟩)
        | refine WpL.cons rfl rfl (op_append rfl rfl (append_none elT rfl rfl (fun _ => rfl) (by omega) (fun _ _ _ h => by cases h)) ⟨(by simp [InL, Acc.name, rowName] <;> omega), ?_⟩)
        | refine WpO.cons rfl rfl (op_append rfl rfl (append_nil elT rfl (by omega) (by omega) hg (hcut2 _ (by omega))) ⟨(by simp [InL, Acc.name, rowName] <;> omega), ?_⟩)
        | refine WpL.cons rfl rfl (op_append rfl rfl (append_nil elT rfl (by omega) (by omega) hg (hcut2 _ (by omega))) ⟨(by simp [InL, Acc.name, rowName] <;> omega), ?_⟩)
        | refine WpO.cons rfl rfl (op_indexAddr rfl rfl rfl rfl ⟨by omega, by omega⟩ ⟨(by simp [InL, Acc.name, rowName] <;> omega), ?_⟩)
        | refine WpL.cons rfl rfl (op_indexAddr rfl rfl rfl rfl ⟨by omega, by omega⟩ ⟨(by simp [InL, Acc.name, rowName] <;> omega), ?_⟩)
        | refine WpO.cons rfl rfl (op_load rfl rfl rfl hx hz1 ⟨(by simp [InL, Acc.name, rowName] <;> omega), ?_⟩)
        | refine WpL.cons rfl rfl (op_load rfl rfl rfl hx hz1 ⟨(by simp [InL, Acc.name, rowName] <;> omega), ?_⟩))
      refine WpL.nil (logsOk_of (cs := [0, 0, 3, 7, 0, 0, 32, 112, 255, 0, 0, 1536, 3584, 7680, 511, 32767, 65535]) (by decide +kernel) ?_) ?_
      · simp [allP, apP, Dis, Acc.name, Acc.writes, Nat.testBit, n1, n2, n3, n4]
      repeat' (first
        | refine WpC.seq ?_
        | refine WpC.region ?_
        | refine WpC.drawn ?_
        | refine WpC.skip ?_
        | refine WpC.block ?_
        | refine WpC.exit ?_
        | refine WpC.ret ?_
        | refine WpO.nil ?_
        | refine WpO.cons rfl rfl (WpX.pure (fun _ => rfl) ⟨nolog, ?_⟩)
        | refine WpO.skip rfl rfl ?_
        | refine WpL.cons rfl rfl (WpX.pure (fun _ => rfl) ⟨nolog, ?_⟩)
        | refine WpL.skip rfl rfl ?_
        | refine seqQ_normal ?_
        | refine seqQ_ret ?_
        | refine seqQ_exit ?_
        | refine blkQ_normal ?_
        | refine blkQ_ret ?_
        | refine blkQ_out rfl ?_
        | refine blkQ_by rfl ?_)
      refine out_ret rfl ⟨_, by rw [hlk]; rfl, .inr ⟨c', ?_, by omega, ?_, fun e => by rw [e] at hl2; simp at hl2; omega⟩, fun n hn => ?_, fun n hn => MapI.get_ne _ _ _ _ (by omega)⟩
      · rw [hl2]
      · rw [her]; exact MapI.get_same _ _ _
      · simp [rowName] at hn; subst hn; exact .inr (Nat.le_refl _)
  · have hdl : (flatI (L.take i)).length = i * 2 := by rw [flatI_length, List.length_take]; omega
    have hold : cut (flatI (L.take i)) 0 ((i - 0) * (1 + 1)) = some (flatI (L.take i)) := by
      have : (i - 0) * (1 + 1) = (flatI (L.take i)).length := by rw [hdl]; omega
      rw [this]; exact cut_all
    have hx : ∀ x : AObj, MapI.get (MapI.set h' c' x) sn = some (.cells true true (flatI L)) := fun x => by rw [MapI.get_ne _ _ _ _ n3]; exact hg
    have hq : ∀ x : AObj, MapI.get (MapI.set h' c' x) c' = some x := fun x => MapI.get_same _ _ _
    by_cases hm : L.length = i + 1
    ·
      repeat' (first
        | refine WpC.seq ?_
        | refine WpC.region ?_
        | refine WpC.drawn ?_
        | refine WpC.skip ?_
        | refine WpC.block ?_
        | refine WpC.exit ?_
        | refine WpC.ret ?_
        | refine WpO.nil ?_
        | refine WpO.cons rfl rfl (WpX.pure (fun _ => rfl) ⟨nolog, ?_⟩)
        | refine WpO.skip rfl rfl ?_
        | refine WpL.cons rfl rfl (WpX.pure (fun _ => rfl) ⟨nolog, ?_⟩)
        | refine WpL.skip rfl rfl ?_
        | refine seqQ_normal ?_
        | refine seqQ_ret ?_
        | refine seqQ_exit ?_
        | refine blkQ_normal ?_
        | refine blkQ_ret ?_
        | refine blkQ_out rfl ?_
        | refine blkQ_by rfl ?_
        | refine WpO.cons rfl rfl (op_slice rfl rfl rfl rfl rfl rfl (bound_at rfl) (by omega) (by omega) rfl ⟨(by simp [InL, Acc.name, rowName] <;> omega), ?_⟩)
        | refine WpL.cons rfl rfl (op_slice rfl rfl rfl rfl rfl rfl (bound_at rfl) (by omega) (by omega) rfl ⟨(by simp [InL, Acc.name, rowName] <;> omega), ?_⟩)
        | refine WpO.cons rfl rfl (op_slice rfl rfl rfl rfl rfl (bound_at hw1) rfl (by omega) (by omega) rfl ⟨(by simp [InL, Acc.name, rowName] <;> omega), ?_⟩)
        | refine WpL.cons rfl rfl (op_slice rfl rfl rfl rfl rfl (bound_at hw1) rfl (by omega) (by omega) rfl ⟨(by simp [InL, Acc.name, rowName] <;> omega), ?_⟩)
        | refine WpO.cons rfl rfl (op_append rfl rfl (append_nil elT rfl (by omega) (by omega) hg hcut1) ⟨(by simp [InL, Acc.name, rowName] <;> omega), ?_⟩)
        | refine WpL.cons rfl rfl (op_append rfl rfl (append_nil elT rfl (by omega) (by omega) hg hcut1) ⟨(by simp [InL, Acc.name, rowName] <;> omega), ?_⟩)
        | refine WpO.cons rfl rfl (op_append rfl rfl (append_zero' elT rfl (by omega) (by omega)) ⟨(by simp [InL, Acc.name, rowName] <;> omega), ?_⟩)
        | refine WpL.cons rfl rfl (op_append rfl rfl (append_zero' elT rfl (by omega) (by omega)) ⟨(by simp [InL, Acc.name, rowName] <;> omega), ?_⟩)
        | refine WpO.cons rfl rfl (op_indexAddr rfl rfl rfl rfl ⟨by omega, by omega⟩ ⟨(by simp [InL, Acc.name, rowName] <;> omega), ?_⟩)
        | refine WpL.cons rfl rfl (op_indexAddr rfl rfl rfl rfl ⟨by omega, by omega⟩ ⟨(by simp [InL, Acc.name, rowName] <;> omega), ?_⟩)
        | refine WpO.cons rfl rfl (op_load rfl rfl rfl (hx _) hz1 ⟨(by simp [InL, Acc.name, rowName] <;> omega), ?_⟩)
        | refine WpL.cons rfl rfl (op_load rfl rfl rfl (hx _) hz1 ⟨(by simp [InL, Acc.name, rowName] <;> omega), ?_⟩))
      refine WpL.nil (logsOk_of (cs := [0, 0, 3, 7, 0, 0, 32, 112, 255, 0, 0, 1536, 3584, 7680, 511, 32767, 65535]) (by decide +kernel) ?_) ?_
      · simp [allP, apP, Dis, Acc.name, Acc.writes, Nat.testBit, n1, n2, n3, n4]
      repeat' (first
        | refine WpC.seq ?_
        | refine WpC.region ?_
        | refine WpC.drawn ?_
        | refine WpC.skip ?_
        | refine WpC.block ?_
        | refine WpC.exit ?_
        | refine WpC.ret ?_
        | refine WpO.nil ?_
        | refine WpO.cons rfl rfl (WpX.pure (fun _ => rfl) ⟨nolog, ?_⟩)
        | refine WpO.skip rfl rfl ?_
        | refine WpL.cons rfl rfl (WpX.pure (fun _ => rfl) ⟨nolog, ?_⟩)
        | refine WpL.skip rfl rfl ?_
        | refine seqQ_normal ?_
        | refine seqQ_ret ?_
        | refine seqQ_exit ?_
        | refine blkQ_normal ?_
        | refine blkQ_ret ?_
        | refine blkQ_out rfl ?_
        | refine blkQ_by rfl ?_)
      have her : era z0 L = L.take i := by rw [her, List.drop_eq_nil_of_le (by omega), List.append_nil]
      refine out_ret rfl ⟨_, by rw [hlk]; rfl, .inr ⟨c', ?_, by omega, ?_, fun e => by rw [e] at hl2; simp at hl2; omega⟩, fun n hn => ?_, fun n hn => MapI.get_ne _ _ _ _ (by omega)⟩
      · rw [hl2, hm]; rfl
      · rw [her]; exact MapI.get_same _ _ _
      · simp [rowName] at hn; subst hn; exact .inr (Nat.le_refl _)
    · have hx2 : ∀ x y z : AObj, MapI.get (MapI.set (MapI.set (MapI.set h' c' x) c' y) (c' + 1) z) sn = some (.cells true true (flatI L)) := fun x y z => by rw [MapI.get_ne _ _ _ _ n4, MapI.get_ne _ _ _ _ n3, MapI.get_ne _ _ _ _ n3]; exact hg
      repeat' (first
        | refine WpC.seq ?_
        | refine WpC.region ?_
        | refine WpC.drawn ?_
        | refine WpC.skip ?_
        | refine WpC.block ?_
        | refine WpC.exit ?_
        | refine WpC.ret ?_
        | refine WpO.nil ?_
        | refine WpO.cons rfl rfl (WpX.pure (fun _ => rfl) ⟨nolog, ?_⟩)
        | refine WpO.skip rfl rfl ?_
        | refine WpL.cons rfl rfl (WpX.pure (fun _ => rfl) ⟨nolog, ?_⟩)
        | refine WpL.skip rfl rfl ?_
        | refine seqQ_normal ?_
        | refine seqQ_ret ?_
        | refine seqQ_exit ?_
        | refine blkQ_normal ?_
        | refine blkQ_ret ?_
        | refine blkQ_out rfl ?_
        | refine blkQ_by rfl ?_
        | refine WpO.cons rfl rfl (op_slice rfl rfl rfl rfl rfl rfl (bound_at rfl) (by omega) (by omega) rfl ⟨(by simp [InL, Acc.name, rowName] <;> omega), ?_⟩)
        | refine WpL.cons rfl rfl (op_slice rfl rfl rfl rfl rfl rfl (bound_at rfl) (by omega) (by omega) rfl ⟨(by simp [InL, Acc.name, rowName] <;> omega), ?_⟩)
        | refine WpO.cons rfl rfl (op_slice rfl rfl rfl rfl rfl (bound_at hw1) rfl (by omega) (by omega) rfl ⟨(by simp [InL, Acc.name, rowName] <;> omega), ?_⟩)
        | refine WpL.cons rfl rfl (op_slice rfl rfl rfl rfl rfl (bound_at hw1) rfl (by omega) (by omega) rfl ⟨(by simp [InL, Acc.name, rowName] <;> omega), ?_⟩)
        | refine WpO.cons rfl rfl (op_append rfl rfl (append_nil elT rfl (by omega) (by omega) hg hcut1) ⟨(by simp [InL, Acc.name, rowName] <;> omega), ?_⟩)
        | refine WpL.cons rfl rfl (op_append rfl rfl (append_nil elT rfl (by omega) (by omega) hg hcut1) ⟨(by simp [InL, Acc.name, rowName] <;> omega), ?_⟩)
        | refine WpO.cons rfl rfl (op_append rfl rfl (append_move elT rfl (by omega) (by omega) (hx _) (hcut2 _ (by omega)) (hq _) (by rw [hdl]; omega) hold (by rw [List.all_append, flatI_one, flatI_one]; rfl)) ⟨(by simp [InL, Acc.name, rowName] <;> omega), ?_⟩)
        | refine WpL.cons rfl rfl (op_append rfl rfl (append_move elT rfl (by omega) (by omega) (hx _) (hcut2 _ (by omega)) (hq _) (by rw [hdl]; omega) hold (by rw [List.all_append, flatI_one, flatI_one]; rfl)) ⟨(by simp [InL, Acc.name, rowName] <;> omega), ?_⟩)
        | refine WpO.cons rfl rfl (op_indexAddr rfl rfl rfl rfl ⟨by omega, by omega⟩ ⟨(by simp [InL, Acc.name, rowName] <;> omega), ?_⟩)
        | refine WpL.cons rfl rfl (op_indexAddr rfl rfl rfl rfl ⟨by omega, by omega⟩ ⟨(by simp [InL, Acc.name, rowName] <;> omega), ?_⟩)
        | refine WpO.cons rfl rfl (op_load rfl rfl rfl (hx2 _ _ _) hz1 ⟨(by simp [InL, Acc.name, rowName] <;> omega), ?_⟩)
        | refine WpL.cons rfl rfl (op_load rfl rfl rfl (hx2 _ _ _) hz1 ⟨(by simp [InL, Acc.name, rowName] <;> omega), ?_⟩))
      refine WpL.nil (logsOk_of (cs := [0, 0, 3, 7, 0, 0, 32, 112, 255, 0, 0, 1536, 3584, 7680, 511, 32767, 65535]) (by decide +kernel) ?_) ?_
      · simp [allP, apP, Dis, Acc.name, Acc.writes, Nat.testBit, n1, n2, n3, n4]
      repeat' (first
        | refine WpC.seq ?_
        | refine WpC.region ?_
        | refine WpC.drawn ?_
        | refine WpC.skip ?_
        | refine WpC.block ?_
        | refine WpC.exit ?_
        | refine WpC.ret ?_
        | refine WpO.nil ?_
        | refine WpO.cons rfl rfl (WpX.pure (fun _ => rfl) ⟨nolog, ?_⟩)
        | refine WpO.skip rfl rfl ?_
        | refine WpL.cons rfl rfl (WpX.pure (fun _ => rfl) ⟨nolog, ?_⟩)
        | refine WpL.skip rfl rfl ?_
        | refine seqQ_normal ?_
        | refine seqQ_ret ?_
        | refine seqQ_exit ?_
        | refine blkQ_normal ?_
        | refine blkQ_ret ?_
        | refine blkQ_out rfl ?_
        | refine blkQ_by rfl ?_)
      refine out_ret rfl ⟨_, by rw [hlk]; rfl, .inr ⟨c' + 1, ?_, by omega, ?_, fun e => by rw [e] at hl2; simp at hl2; omega⟩, fun n hn => ?_, fun n hn => ?_⟩
      · rw [hl2]
        have : i - 0 + (L.length - (i + 1)) = L.length - 1 := by omega
        rw [this]
      · rw [her, flatI_append]; exact MapI.get_same _ _ _
      · simp [rowName] at hn; subst hn; exact .inr (by omega)
      · rw [MapI.get_ne _ _ _ _ (by omega), MapI.get_ne _ _ _ _ (by omega), MapI.get_ne _ _ _ _ (by omega)]
end Go.Proofs.Ytjincciacbfhiaa
