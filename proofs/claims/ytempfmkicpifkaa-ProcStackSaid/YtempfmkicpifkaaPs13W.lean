/- ProcStack: the law. -/
import Derived.Test.YtempfmkicpifkaaPs12W
import Derived.Test.YtempfmkicpifkaaStoreW
set_option linter.unusedVariables false
set_option linter.unusedSectionVars false
set_option linter.unusedSimpArgs false
set_option linter.unnecessarySimpa false
namespace Go.Proofs.Ytempfmkicpifkaa.Ps
open Go.Ab
set_option maxRecDepth 10000
theorem set8 {X : EE} {k0 k1 k2 k3 k4 k5 k6 k7 : Nat} {v0 v1 v2 v3 v4 v5 v6 v7 : V} (h0 : X k0 = some v0) (h1 : X k1 = some v1) (h2 : X k2 = some v2) (h3 : X k3 = some v3) (h4 : X k4 = some v4) (h5 : X k5 = some v5) (h6 : X k6 = some v6) (h7 : X k7 = some v7) :
    ∃ b, X = MapI.set (MapI.set (MapI.set (MapI.set (MapI.set (MapI.set (MapI.set (MapI.set b k0 v0) k1 v1) k2 v2) k3 v3) k4 v4) k5 v5) k6 v6) k7 v7 :=
  ⟨X, by rw [FM.add h0, FM.add h1, FM.add h2, FM.add h3, FM.add h4, FM.add h5, FM.add h6, FM.add h7]⟩
theorem set11 {X : EE} {k0 k1 k2 k3 k4 k5 k6 k7 k8 k9 ka : Nat} {v0 v1 v2 v3 v4 v5 v6 v7 v8 v9 va : V} (h0 : X k0 = some v0) (h1 : X k1 = some v1) (h2 : X k2 = some v2) (h3 : X k3 = some v3) (h4 : X k4 = some v4) (h5 : X k5 = some v5) (h6 : X k6 = some v6) (h7 : X k7 = some v7)
    (h8 : X k8 = some v8) (h9 : X k9 = some v9) (ha : X ka = some va) :
    ∃ b, X = MapI.set (MapI.set (MapI.set (MapI.set (MapI.set (MapI.set (MapI.set (MapI.set (MapI.set (MapI.set (MapI.set b k0 v0) k1 v1) k2 v2) k3 v3) k4 v4) k5 v5) k6 v6) k7 v7) k8 v8) k9 v9) ka va :=
  ⟨X, by rw [FM.add h0, FM.add h1, FM.add h2, FM.add h3, FM.add h4, FM.add h5, FM.add h6, FM.add h7, FM.add h8, FM.add h9, FM.add ha]⟩
theorem set11b {X : EE} {k0 k1 k2 k3 k4 k5 k6 k7 k8 k9 ka : Nat} {v0 v1 v2 v3 v4 v5 v6 v7 v8 v9 : V} {b : Bool} {P : Prop} (h0 : X k0 = some v0) (h1 : X k1 = some v1) (h2 : X k2 = some v2) (h3 : X k3 = some v3) (h4 : X k4 = some v4) (h5 : X k5 = some v5) (h6 : X k6 = some v6) (h7 : X k7 = some v7)
    (h8 : X k8 = some v8) (h9 : X k9 = some v9) (ha : X ka = some (.bool b)) (hp : b = true ↔ P) :
    ∃ b0 b, X = MapI.set (MapI.set (MapI.set (MapI.set (MapI.set (MapI.set (MapI.set (MapI.set (MapI.set (MapI.set (MapI.set b0 k0 v0) k1 v1) k2 v2) k3 v3) k4 v4) k5 v5) k6 v6) k7 v7) k8 v8) k9 v9) ka (.bool b) ∧ (b = true ↔ P) :=
  ⟨X, b, by rw [FM.add h0, FM.add h1, FM.add h2, FM.add h3, FM.add h4, FM.add h5, FM.add h6, FM.add h7, FM.add h8, FM.add h9, FM.add ha], hp⟩
theorem snoc_list {h : HH} {c : Nat} {v : V} {ys : List Int} {x : Int} (r : ListOf 1 intV h c v (ys ++ [x])) : ∃ s cl junk, v = .slice (some (s, 0)) (ys.length + 1) (.upTo 1) ∧ s < c ∧ MapI.get h s = some (.cells true cl (flat intV (ys ++ [x]) ++ junk)) ∧
    nth (flat intV (ys ++ [x]) ++ junk) (ys.length * 1 + 0) = some (I x) ∧ ListOf 1 intV h c (.slice (some (s, 0)) ys.length (.upTo 1)) ys := by
  rcases r with ⟨_, e⟩ | ⟨s, cl, junk, rfl, h2, h3, h4⟩
  · simp at e
  · refine ⟨s, cl, junk, by simp, h2, h3, (nth_flat int_len (by simp) (by omega) junk).trans rfl, .inr ⟨s, cl, intV x ++ junk, rfl, h2, ?_, ?_⟩⟩
    · rw [h3, flat_append, List.append_assoc]; simp [flat]
    · rw [List.all_append, h4, int_all]; rfl
def WP (cs : List Cal) : Prop := ∀ a ∈ cs, a.ws ≠ [] → ∃ k : Nat, k < 60 ∧ a.ws[a.ws.length - 1]? = some ((k : Int) * 16)
/-- What stands behind each round: the process, the lists, the depth. -/
structure PI (h0 h : HH) (c0 c1 c q p : Nat) (R : PRest) (st : Nat) (cv vb vf : V) (cs : List Cal) (a : Cal) (i : Nat) : Prop where
  pj : PJ h0 h c0 c1 c q p R st cv vb vf (cs ++ [a]) ((cs ++ [a]).tail.map (·.back)) (cs.map fun b => (b.ws.length : Int))
  dep : depth (cs ++ [a]) ≤ st
  len : cs.length ≤ i
  wp : WP (cs ++ [a])
  st : 1 ≤ st ∧ st ≤ 40
theorem depth_app {cs ds : List Cal} : depth (cs ++ ds) = depth cs + depth ds := by simp [depth]
theorem depth_one {a : Cal} : depth [a] = 1 + a.ws.length := by simp [depth]
theorem depth_take {cs : List Cal} (i : Nat) : depth (cs.take i) ≤ depth cs := by
  have h := depth_app (cs := cs.take i) (ds := cs.drop i)
  rw [List.take_append_drop] at h
  omega
theorem depth_mem {cs : List Cal} {i : Nat} {a : Cal} (h : cs[i]? = some a) : a.ws.length ≤ depth cs := by
  have h1 := depth_snoc h
  have h2 := depth_take (cs := cs) (i + 1)
  omega
theorem set_last {cs : List Cal} {a b : Cal} : (cs ++ [a]).set ((cs ++ [a]).length - 1) b = cs ++ [b] := by
  induction cs with
  | nil => rfl
  | cons x cs ih => simpa using ih
theorem get_last {cs : List Cal} {a : Cal} : (cs ++ [a])[(cs ++ [a]).length - 1]? = some a := by simp
theorem back_push {cs : List Cal} {a b : Cal} : ((cs ++ [a]) ++ [b]).tail.map (·.back) = (cs ++ [a]).tail.map (·.back) ++ [b.back] := by
  cases cs <;> simp
theorem back_repl {cs : List Cal} {a b : Cal} (h : b.back = a.back) : (cs ++ [b]).tail.map (·.back) = (cs ++ [a]).tail.map (·.back) := by
  cases cs <;> simp [h]
theorem pn1 {p : Nat} {cv : V} {cs : List Cal} {n : Nat} (h : n ∈ p :: rowName cv) : n ∈ PN p cv cs := by
  rcases List.mem_cons.1 h with h | h
  · rw [h]; exact List.mem_cons_self ..
  · exact pn_cv h
theorem pn2 {p : Nat} {cv : V} {cs : List Cal} {a : Cal} {n i : Nat} (ha : cs[i]? = some a) (h : n ∈ p :: (rowName cv ++ rowName a.fr)) : n ∈ PN p cv cs := by
  rcases List.mem_cons.1 h with h | h
  · rw [h]; exact List.mem_cons_self ..
  · rcases List.mem_append.1 h with h | h
    · exact pn_cv h
    · exact pn_fr ha h
theorem pn_in {p : Nat} {cv : V} {cs : List Cal} {b : Cal} (hb : b ∈ cs) {n : Nat} (hn : n ∈ rowName b.fr) : n ∈ PN p cv cs :=
  List.mem_cons_of_mem _ (List.mem_append_right _ (List.mem_flatMap.2 ⟨b, hb, hn⟩))
theorem pn_push {p c : Nat} {cv cv' : V} {cs : List Cal} {k : Int} (hv : ∀ n ∈ rowName cv', n ∈ rowName cv ∨ c ≤ n) : ∀ n ∈ PN p cv' (cs ++ [⟨k, none, []⟩]), n ∈ PN p cv cs ∨ c ≤ n := fun n hn => by
  rcases pn_cases hn with h | h | ⟨b, hb, h⟩
  · rw [h]; exact .inl (List.mem_cons_self ..)
  · exact (hv n h).imp pn_cv id
  · rcases List.mem_append.1 hb with hb | hb
    · exact .inl (pn_in hb h)
    · simp at hb; subst hb; cases h
theorem pn_repl {p c : Nat} {cv : V} {cs : List Cal} {a b : Cal} (hv : ∀ n ∈ rowName b.fr, n ∈ rowName a.fr ∨ c ≤ n) : ∀ n ∈ PN p cv (cs ++ [b]), n ∈ PN p cv (cs ++ [a]) ∨ c ≤ n := fun n hn => by
  rcases pn_cases hn with h | h | ⟨b', hb, h⟩
  · rw [h]; exact .inl (List.mem_cons_self ..)
  · exact .inl (pn_cv h)
  · rcases List.mem_append.1 hb with hb | hb
    · exact .inl (pn_in (List.mem_append_left _ hb) h)
    · simp at hb; subst hb; exact (hv n h).imp (pn_in (List.mem_append_right _ (by simp))) id
theorem pn_pop {p c : Nat} {cv cv' : V} {cs : List Cal} {a : Cal} (hv : rowName cv' = rowName cv) : ∀ n ∈ PN p cv' cs, n ∈ PN p cv (cs ++ [a]) ∨ c ≤ n := fun n hn => by
  rcases pn_cases hn with h | h | ⟨b, hb, h⟩
  · rw [h]; exact .inl (List.mem_cons_self ..)
  · rw [hv] at h; exact .inl (pn_cv h)
  · exact .inl (pn_in (List.mem_append_left _ hb) h)
theorem fr_names {a b : Cal} (h : b.nm = a.nm) : rowName b.fr = rowName a.fr := by unfold Cal.fr; rw [h]; cases a.nm <;> rfl
theorem num_n : ∀ k : Nat, k < 256 → ∃ n : Nat, (1 ≤ n ∧ n ≤ 4) ∧ IntKind.i64.wrap (1 + (IntKind.i64.wrap ((k : Int).fdiv (2 ^ (min (3 : Int).toNat IntKind.u8.bits)))).tmod 4) = n := by
  intro k hk
  refine ⟨1 + k / 8 % 4, by omega, ?_⟩
  revert k
  decide +kernel
theorem num_r : ∀ k : Nat, k < 256 → (k : Int).tmod 4 = ((k % 4 : Nat) : Int) := by decide +kernel
theorem num_st : ∀ k : Nat, k < 256 → IntKind.i64.wrap (1 + (IntKind.i64.wrap (k : Int)).tmod 40) = ((1 + k % 40 : Nat) : Int) := by decide +kernel
end Go.Proofs.Ytempfmkicpifkaa.Ps
