/- The abstract evaluator against the model: slice expressions, addresses of elements, lengths, least and greatest. -/
import Derived.Test.YtcenbfjhhaialaaAc5
set_option linter.unusedVariables false
set_option linter.unusedSectionVars false
set_option linter.unusedSimpArgs false
set_option linter.unnecessarySimpa false
namespace Go.Ab
open Go.RowKit

section
variable {H : Type} [MapI H AObj] {P : Program} {ng : Nat} {w0 w : World} {φ : Nm} {h h' : H} {c c' : Nat} {l : List Acc}

inductive VRo (φ : Nm) : Option V → Option Value → Prop where
  | none : VRo φ none none
  | some {v : V} {u : Value} : VR φ v u → VRo φ (some v) (some u)

theorem sliceBound_run {q : Value} {k : IntKind} {i : Int} {y : Nat} {cd : BoundsCode} (hq : q = .int k i) (h0 : 0 ≤ i) (h1 : i.toNat ≤ y) : (Instr.sliceBound q y cd).run P w = .ok i.toNat w := by
  subst hq
  simp only [Instr.sliceBound, asIntOf, Sem.run_bind, Sem.run_pure, Result.andThen_ok, Sem.run_ite]
  rw [if_pos (by omega)]

theorem bound_none {d : Nat} {m : Nat} (h : bound none d = some m) : m = d := by unfold bound at h; cases h; rfl
theorem bound_some {v : V} {u : Value} {d m : Nat} (hv : VR φ v u) (h : bound (some v) d = some m) : ∃ k i, u = .int k i ∧ 0 ≤ i ∧ i.toNat = m := by
  unfold bound at h
  split at h
  · next e => cases e
  · next k i _ e =>
    cases e; cases hv
    split at h
    · next h0 => cases h; exact ⟨_, _, rfl, h0, rfl⟩
    · cases h
  · cases h

/-- Two bounds, or none. -/
theorem bounds_run {lo hi : Option V} {lo' hi' : Option Value} {len cap a b : Nat} {sl : Bool} (hlo : VRo φ lo lo') (hhi : VRo φ hi hi') (ha : bound lo 0 = some a) (hb : bound hi len = some b)
    (hab : a ≤ b) (hbc : b ≤ cap) : (Instr.sliceBounds sl len cap lo' hi' none).run P w = .ok (a, b, cap) w := by
  unfold Instr.sliceBounds
  cases hhi with
  | none =>
    have hb' := bound_none hb; subst hb'
    cases hlo with
    | none => have ha' := bound_none ha; subst ha'; rfl
    | some hv =>
      obtain ⟨k, i, rfl, h0, rfl⟩ := bound_some hv ha
      simp only [pure_bind, Sem.run_bind, sliceBound_run (P := P) (w := w) rfl h0 hab, Result.andThen_ok]; rfl
  | some hw =>
    obtain ⟨k2, i2, rfl, h02, rfl⟩ := bound_some hw hb
    cases hlo with
    | none =>
      have ha' := bound_none ha; subst ha'
      simp only [pure_bind, Sem.run_bind, sliceBound_run (P := P) (w := w) rfl h02 hbc, Result.andThen_ok]; rfl
    | some hv =>
      obtain ⟨k, i, rfl, h0, rfl⟩ := bound_some hv ha
      simp only [pure_bind, Sem.run_bind, sliceBound_run (P := P) (w := w) rfl h02 hbc, sliceBound_run (P := P) (w := w) rfl h0 hab, Result.andThen_ok]; rfl

/-- Three bounds. -/
theorem bounds3_run {lo hi : Option V} {lo' hi' : Option Value} {len cap a b : Nat} {k : IntKind} {m : Int} (hlo : VRo φ lo lo') (hhi : VRo φ hi hi') (ha : bound lo 0 = some a) (hb : bound hi len = some b)
    (hs : hi ≠ none) (hab : a ≤ b) (h0 : 0 ≤ m) (hbm : b ≤ m.toNat) (hmc : m.toNat ≤ cap) :
    (Instr.sliceBounds true len cap lo' hi' (some (.int k m))).run P w = .ok (a, b, m.toNat) w := by
  cases hhi with
  | none => exact absurd rfl hs
  | some hv =>
    obtain ⟨k2, i, rfl, hi0, rfl⟩ := bound_some hv hb
    unfold Instr.sliceBounds
    simp only [Sem.run_bind, sliceBound_run (P := P) (w := w) rfl h0 hmc, sliceBound_run (P := P) (w := w) rfl hi0 hbm, Result.andThen_ok]
    cases hlo with
    | none => rw [bound_none ha]; rfl
    | some hv2 =>
      obtain ⟨k3, j, rfl, hj0, rfl⟩ := bound_some hv2 ha
      simp only [Sem.run_bind, sliceBound_run (P := P) (w := w) rfl hj0 hab, Result.andThen_ok, Sem.run_pure]

theorem extract_str (s : List UInt8) (a b : Nat) : (⟨⟨s⟩⟩ : ByteArray).extract a b = ⟨⟨(s.drop a).take (b - a)⟩⟩ := by
  apply ByteArray.ext
  rw [ByteArray.data_extract]
  apply Array.ext'
  rw [Array.toList_extract]

variable {cx : Cx} (hcx : CxOk P cx)
include hcx

theorem sliceM_ok (r : Rel ng w0 φ h w) {t : Nat} {x v : V} {x' : Value} {lo hi mx : Option V} {lo' hi' mx' : Option Value} (hx : VR φ x x') (hlo : VRo φ lo lo') (hhi : VRo φ hi hi') (hmx : VRo φ mx mx')
    (e : sliceM cx t x lo hi mx h c = .ok v h' c' l) : h' = h ∧ c' = c ∧ ∃ u, VR φ v u ∧ (Instr.sliceAt t x' lo' hi' mx').run P w = .ok u w := by
  unfold sliceM at e
  cases hd : cx.desc t with
  | none => simp only [hd] at e; exact (fail_ok e).elim
  | some d =>
    have hu := desc_ok hcx hd
    simp only [hd] at e
    cases d <;> try exact (fail_ok e).elim
    case string =>
      cases hx <;> try exact (fail_ok e).elim
      rename_i s
      cases hmx with
      | some _ => exact (fail_ok e).elim
      | none =>
        simp only at e
        cases ha : bound lo 0 with
        | none => simp only [ha] at e; exact (fail_ok e).elim
        | some a =>
          cases hb : bound hi s.length with
          | none => simp only [ha, hb] at e; exact (fail_ok e).elim
          | some b =>
            simp only [ha, hb] at e
            by_cases hh : a ≤ b ∧ b ≤ s.length
            · rw [if_pos hh] at e
              obtain ⟨rfl, rfl, rfl, _⟩ := ret_ok e
              refine ⟨rfl, rfl, _, .str _, ?_⟩
              have hbr := bounds_run (P := P) (w := w) (sl := false) (cap := s.length) hlo hhi ha hb hh.1 hh.2
              simp only [Instr.sliceAt, Sem.run_bind, run_underlying hu, Result.andThen_ok, Instr.slice]
              have hsz : (⟨⟨s⟩⟩ : ByteArray).size = s.length := rfl
              simp only [Option.isSome_none, Bool.false_eq_true, if_false, Sem.run_bind, hsz, hbr, Result.andThen_ok, Sem.run_pure, extract_str]
            · rw [if_neg hh] at e; exact (fail_ok e).elim
    case slice el =>
      have key : ∀ (a' : Option Addr) (len' cap' : Nat) (bb : Nat × Nat × Nat) (k : Nat), cx.size el = some k → (Instr.sliceBounds true len' cap' lo' hi' mx').run P w = .ok bb w →
          (Instr.sliceAt t (.slice a' len' cap') lo' hi' mx').run P w = .ok (.slice (if bb.2.2 = bb.1 then a' else a'.map (·.add (bb.1 * k))) (bb.2.1 - bb.1) (bb.2.2 - bb.1)) w := fun a' len' cap' bb k hk hb => by
        simp only [Instr.sliceAt, Sem.run_bind, run_underlying hu, Result.andThen_ok, Instr.slice, hb, run_size hcx hk, Sem.run_pure]
      have go : ∀ (a : Option (Nat × Nat)) (len : Nat) (cap : Cap) (u' : Value), x = .slice a len cap → x' = u' → VR φ (.slice a len cap) u' → h' = h ∧ c' = c ∧ ∃ u, VR φ v u ∧ (Instr.sliceAt t u' lo' hi' mx').run P w = .ok u w := by
        intro a len cap u' hxe hue hv
        subst hxe
        simp only at e
        cases hk : cx.size el with
        | none => simp only [hk] at e; exact (fail_ok e).elim
        | some k =>
          cases ha : bound lo 0 with
          | none => simp only [hk, ha] at e; exact (fail_ok e).elim
          | some p =>
            cases hb : bound hi len with
            | none => simp only [hk, ha, hb] at e; exact (fail_ok e).elim
            | some q =>
              simp only [hk, ha, hb] at e
              by_cases hpq : p ≤ q
              rotate_left
              · rw [if_neg hpq] at e; exact (fail_ok e).elim
              rw [if_pos hpq] at e
              cases hmx with
              | none =>
                cases hv with
                | sliceNil =>
                  simp only at e
                  by_cases hq0 : q = 0
                  rotate_left
                  · rw [if_neg hq0] at e; exact (fail_ok e).elim
                  rw [if_pos hq0] at e
                  obtain ⟨rfl, rfl, rfl, _⟩ := ret_ok e
                  have hp0 : p = 0 := by omega
                  subst hp0; subst hq0
                  refine ⟨rfl, rfl, _, .sliceNil, (key _ _ _ _ k hk (bounds_run hlo hhi ha hb (Nat.le_refl _) (Nat.le_refl _))).trans ?_⟩
                  simp
                | sliceK o len cc hL hle =>
                  rename_i n L
                  simp only at e
                  by_cases hqc : q ≤ cc
                  rotate_left
                  · rw [if_neg hqc] at e; exact (fail_ok e).elim
                  rw [if_pos hqc] at e
                  obtain ⟨rfl, rfl, rfl, _⟩ := ret_ok e
                  refine ⟨rfl, rfl, _, ?_, key _ _ _ _ k hk (bounds_run hlo hhi ha hb hpq hqc)⟩
                  simp only
                  by_cases hcp : cc = p
                  · rw [if_pos hcp, if_pos hcp]; exact .sliceK o _ _ hL (by omega)
                  · rw [if_neg hcp, if_neg hcp]
                    simp only [Option.map_some, addr_add]
                    rw [show L.off + o + p * k = L.off + (o + p * k) by omega]
                    exact .sliceK _ _ _ hL (by omega)
                | sliceK0 o a hL =>
                  rename_i n L
                  simp only at e
                  by_cases hqc : q ≤ 0
                  rotate_left
                  · rw [if_neg hqc] at e; exact (fail_ok e).elim
                  rw [if_pos hqc] at e
                  obtain ⟨rfl, rfl, rfl, _⟩ := ret_ok e
                  have hq0 : q = 0 := by omega
                  have hp0 : p = 0 := by omega
                  subst hq0; subst hp0
                  refine ⟨rfl, rfl, _, ?_, key _ _ _ _ k hk (bounds_run hlo hhi ha hb hpq hqc)⟩
                  simp only [if_true]
                  exact .sliceK0 _ _ hL
                | sliceU o len cap sz hL hlim hle hsz =>
                  rename_i n L
                  simp only at e
                  by_cases hsk : sz = k ∧ 0 < k
                  rotate_left
                  · rw [if_neg hsk] at e; exact (fail_ok e).elim
                  rw [if_pos hsk] at e
                  obtain ⟨rfl, _⟩ := hsk
                  have fin : q ≤ cap → v = .slice (some (n, o + p * sz)) (q - p) (.upTo sz) → ∃ u, VR φ v u ∧ (Instr.sliceAt t (.slice (some ⟨L.blk, L.off + o, none⟩) len cap) lo' hi' none).run P w = .ok u w := fun hqc hve => by
                    subst hve
                    refine ⟨_, ?_, key _ _ _ _ sz hk (bounds_run hlo hhi ha hb hpq hqc)⟩
                    simp only
                    by_cases hcp : cap = p
                    · rw [if_pos hcp]
                      have hq : q = p := by omega
                      subst hq; subst hcp
                      simp only [Nat.sub_self]
                      exact .sliceZ _ _ _ hL (by omega) hsz
                    · rw [if_neg hcp]
                      simp only [Option.map_some, addr_add]
                      rw [show L.off + o + p * sz = L.off + (o + p * sz) by omega]
                      refine .sliceU _ _ _ _ hL ?_ (by omega) hsz
                      have : p * sz + (cap - p) * sz = cap * sz := by rw [← Nat.add_mul]; congr 1; omega
                      omega
                  by_cases hql : q ≤ len
                  · rw [if_pos hql] at e
                    obtain ⟨hve, rfl, rfl, _⟩ := ret_ok e
                    exact ⟨rfl, rfl, fin (by omega) hve⟩
                  · rw [if_neg hql] at e
                    obtain ⟨ob, h1, c1, l1, l2, e1, e2, _⟩ := bnd_ok e
                    obtain ⟨hn, rfl, rfl, _⟩ := getM_ok e1
                    cases ob <;> try exact (fail_ok e2).elim
                    case cells rw cl cs =>
                      simp only at e2
                      by_cases hfit : o + q * sz ≤ cs.length
                      · rw [if_pos hfit] at e2
                        obtain ⟨hve, rfl, rfl, _⟩ := ret_ok e2
                        refine ⟨rfl, rfl, fin ?_ hve⟩
                        obtain ⟨L', hL', ⟨C, ee, fr, hbk, hlen, _⟩, _⟩ := r.obj n _ hn
                        rw [hL] at hL'; cases hL'
                        have : q * sz ≤ cap * sz := by omega
                        exact Nat.le_of_mul_le_mul_right this hsz
                      · rw [if_neg hfit] at e2; exact (fail_ok e2).elim
                | sliceZ o sz a hL hlim hsz =>
                  rename_i n L
                  simp only at e
                  by_cases hsk : sz = k ∧ 0 < k
                  rotate_left
                  · rw [if_neg hsk] at e; exact (fail_ok e).elim
                  rw [if_pos hsk] at e
                  obtain ⟨rfl, _⟩ := hsk
                  have fin : q ≤ 0 → v = .slice (some (n, o + p * sz)) (q - p) (.upTo sz) → ∃ u, VR φ v u ∧ (Instr.sliceAt t (.slice (some a) 0 0) lo' hi' none).run P w = .ok u w := fun hqc hve => by
                    subst hve
                    have hq0 : q = 0 := by omega
                    have hp0 : p = 0 := by omega
                    subst hq0; subst hp0
                    refine ⟨_, ?_, key _ _ _ _ sz hk (bounds_run hlo hhi ha hb hpq hqc)⟩
                    simp only [if_true, Nat.zero_mul, Nat.add_zero]
                    exact .sliceZ _ _ _ hL hlim hsz
                  by_cases hql : q ≤ 0
                  · rw [if_pos hql] at e
                    obtain ⟨hve, rfl, rfl, _⟩ := ret_ok e
                    exact ⟨rfl, rfl, fin hql hve⟩
                  · rw [if_neg hql] at e
                    obtain ⟨ob, h1, c1, l1, l2, e1, e2, _⟩ := bnd_ok e
                    obtain ⟨hn, rfl, rfl, _⟩ := getM_ok e1
                    cases ob <;> try exact (fail_ok e2).elim
                    case cells rw cl cs =>
                      simp only at e2
                      by_cases hfit : o + q * sz ≤ cs.length
                      · exfalso
                        obtain ⟨L', hL', ⟨C, ee, fr, hbk, hlen, _⟩, _⟩ := r.obj n _ hn
                        rw [hL] at hL'; cases hL'
                        have : 1 * 1 ≤ q * sz := Nat.mul_le_mul (by omega) hsz
                        omega
                      · rw [if_neg hfit] at e2; exact (fail_ok e2).elim
              | some hm =>
                cases hm <;> try (cases hv <;> exact (fail_ok e).elim)
                rename_i km m
                have b3 : ∀ cap, hi.isSome = true → 0 ≤ m → q ≤ m.toNat → m.toNat ≤ cap → (Instr.sliceBounds true len cap lo' hi' (some (.int km m))).run P w = .ok (p, q, m.toNat) w := fun cap h1 h2 h3 h4 =>
                  bounds3_run hlo hhi ha hb (by intro hh; rw [hh] at h1; cases h1) hpq h2 h3 h4
                cases hv with
                | sliceNil =>
                  simp only at e
                  by_cases hc0 : hi.isSome = true ∧ 0 ≤ m ∧ q ≤ m.toNat ∧ m.toNat = 0
                  rotate_left
                  · rw [if_neg hc0] at e; exact (fail_ok e).elim
                  rw [if_pos hc0] at e
                  obtain ⟨rfl, rfl, rfl, _⟩ := ret_ok e
                  have hq0 : q = 0 := by omega
                  have hp0 : p = 0 := by omega
                  refine ⟨rfl, rfl, _, .sliceNil, (key _ _ _ _ k hk (b3 0 hc0.1 hc0.2.1 hc0.2.2.1 (by omega))).trans ?_⟩
                  simp [hq0, hp0, hc0.2.2.2]
                | sliceK o len cc hL hle =>
                  rename_i n L
                  simp only at e
                  by_cases hc0 : hi.isSome = true ∧ 0 ≤ m ∧ q ≤ m.toNat ∧ m.toNat ≤ cc
                  rotate_left
                  · rw [if_neg hc0] at e; exact (fail_ok e).elim
                  rw [if_pos hc0] at e
                  obtain ⟨rfl, rfl, rfl, _⟩ := ret_ok e
                  refine ⟨rfl, rfl, _, ?_, key _ _ _ _ k hk (b3 cc hc0.1 hc0.2.1 hc0.2.2.1 hc0.2.2.2)⟩
                  simp only
                  by_cases hcp : m.toNat = p
                  · rw [if_pos hcp, if_pos hcp]; exact .sliceK o _ _ hL (by omega)
                  · rw [if_neg hcp, if_neg hcp]
                    simp only [Option.map_some, addr_add]
                    rw [show L.off + o + p * k = L.off + (o + p * k) by omega]
                    exact .sliceK _ _ _ hL (by omega)
                | sliceK0 o a hL =>
                  rename_i n L
                  simp only at e
                  by_cases hc0 : hi.isSome = true ∧ 0 ≤ m ∧ q ≤ m.toNat ∧ m.toNat ≤ 0
                  rotate_left
                  · rw [if_neg hc0] at e; exact (fail_ok e).elim
                  rw [if_pos hc0] at e
                  obtain ⟨rfl, rfl, rfl, _⟩ := ret_ok e
                  have hq0 : q = 0 := by omega
                  have hp0 : p = 0 := by omega
                  have hm0 : m.toNat = 0 := by omega
                  refine ⟨rfl, rfl, _, ?_, key _ _ _ _ k hk (b3 0 hc0.1 hc0.2.1 hc0.2.2.1 (by omega))⟩
                  simp only [hq0, hp0, hm0, if_true]
                  exact .sliceK0 _ _ hL
                | sliceU o len cap sz hL hlim hle hsz =>
                  rename_i n L
                  simp only at e
                  by_cases hc0 : hi.isSome = true ∧ 0 ≤ m ∧ q ≤ m.toNat ∧ m.toNat ≤ len
                  rotate_left
                  · rw [if_neg hc0] at e; exact (fail_ok e).elim
                  rw [if_pos hc0] at e
                  obtain ⟨rfl, rfl, rfl, _⟩ := ret_ok e
                  refine ⟨rfl, rfl, _, ?_, key _ _ _ _ k hk (b3 cap hc0.1 hc0.2.1 hc0.2.2.1 (by omega))⟩
                  simp only
                  by_cases hcp : m.toNat = p
                  · rw [if_pos hcp, if_pos hcp]; exact .sliceK o _ _ hL (by omega)
                  · rw [if_neg hcp, if_neg hcp]
                    simp only [Option.map_some, addr_add]
                    rw [show L.off + o + p * k = L.off + (o + p * k) by omega]
                    exact .sliceK _ _ _ hL (by omega)
                | sliceZ o sz a hL hlim hsz =>
                  rename_i n L
                  simp only at e
                  by_cases hc0 : hi.isSome = true ∧ 0 ≤ m ∧ q ≤ m.toNat ∧ m.toNat ≤ 0
                  rotate_left
                  · rw [if_neg hc0] at e; exact (fail_ok e).elim
                  rw [if_pos hc0] at e
                  obtain ⟨rfl, rfl, rfl, _⟩ := ret_ok e
                  have hq0 : q = 0 := by omega
                  have hp0 : p = 0 := by omega
                  have hm0 : m.toNat = 0 := by omega
                  refine ⟨rfl, rfl, _, ?_, key _ _ _ _ k hk (b3 0 hc0.1 hc0.2.1 hc0.2.2.1 (by omega))⟩
                  simp only [hq0, hp0, hm0, if_true]
                  exact .sliceK0 _ _ hL
      cases hx <;> first
        | exact (fail_ok e).elim
        | exact go _ _ _ _ rfl rfl (by constructor <;> assumption)
    case array n el =>
      cases hx <;> try exact (fail_ok e).elim
      rename_i m L o hL
      simp only at e
      cases hk : cx.size el with
      | none => simp only [hk] at e; exact (fail_ok e).elim
      | some k =>
        cases hmx with
        | some _ => simp only [hk] at e; exact (fail_ok e).elim
        | none =>
          cases ha : bound lo 0 with
          | none => simp only [hk, ha] at e; exact (fail_ok e).elim
          | some p =>
            cases hb : bound hi n with
            | none => simp only [hk, ha, hb] at e; exact (fail_ok e).elim
            | some q =>
              simp only [hk, ha, hb] at e
              by_cases hpq : p ≤ q ∧ q ≤ n
              rotate_left
              · rw [if_neg hpq] at e; exact (fail_ok e).elim
              rw [if_pos hpq] at e
              obtain ⟨rfl, rfl, rfl, _⟩ := ret_ok e
              refine ⟨rfl, rfl, .slice (some (if n = p then ⟨L.blk, L.off + o, none⟩ else ⟨L.blk, L.off + o + p * k, none⟩)) (q - p) (n - p), ?_, ?_⟩
              · by_cases hcp : n = p
                · rw [if_pos hcp, if_pos hcp]; exact .sliceK o _ _ hL (by omega)
                · rw [if_neg hcp, if_neg hcp, show L.off + o + p * k = L.off + (o + p * k) by omega]; exact .sliceK _ _ _ hL (by omega)
              · have hbr := bounds_run (P := P) (w := w) (sl := false) (cap := n) hlo hhi ha hb hpq.1 hpq.2
                simp only [Instr.sliceAt, Sem.run_bind, run_underlying hu, Result.andThen_ok, Instr.sureAddr, Sem.run_pure, hbr, run_size hcx hk, addr_add]

omit [MapI H AObj] in
theorem indexAddrM_ok {t : Nat} {x i v : V} {x' i' : Value} (hx : VR φ x x') (hi : VR φ i i') (e : indexAddrM cx t x i h c = .ok v h' c' l) :
    h' = h ∧ c' = c ∧ ∃ u, VR φ v u ∧ (Instr.indexAt t x' i').run P w = .ok u w := by
  unfold indexAddrM at e
  cases hd : cx.desc t with
  | none => simp only [hd] at e; exact (fail_ok e).elim
  | some d =>
    have hu := desc_ok hcx hd
    simp only [hd] at e
    cases d <;> try exact (fail_ok e).elim
    case array n el =>
      cases hx <;> try exact (fail_ok e).elim
      rename_i m L o hL
      cases hi <;> try exact (fail_ok e).elim
      rename_i k j
      simp only at e
      by_cases hb : 0 ≤ j ∧ j < n
      rotate_left
      · rw [if_neg hb] at e; exact (fail_ok e).elim
      rw [if_pos hb] at e
      obtain ⟨sz, h1, c1, l1, l2, e1, e2, _⟩ := bnd_ok e
      obtain ⟨hs, rfl, rfl, _⟩ := lift_ok e1
      obtain ⟨rfl, rfl, rfl, _⟩ := ret_ok e2
      refine ⟨rfl, rfl, _, .ptr _ hL, ?_⟩
      simp only [Instr.indexAt, asIntOf, Sem.run_bind, Sem.run_pure, Result.andThen_ok, run_underlying hu, Instr.sureAddr, hb, and_self, if_true, run_size hcx hs, addr_add, Nat.add_assoc]
    case slice el =>
      have go : ∀ (m o len : Nat) (cap : Cap) (L : Loc) (cc : Nat) (a : Addr), x = .slice (some (m, o)) len cap → x' = .slice (some a) len cc → φ m = some L → (0 < len → a = ⟨L.blk, L.off + o, none⟩) →
          h' = h ∧ c' = c ∧ ∃ u, VR φ v u ∧ (Instr.indexAt t x' i').run P w = .ok u w := fun m o len cap L cc a hxe hue hL ha => by
        subst hxe; subst hue
        cases hi <;> try exact (fail_ok e).elim
        rename_i k j
        simp only at e
        by_cases hb : 0 ≤ j ∧ j < len
        rotate_left
        · rw [if_neg hb] at e; exact (fail_ok e).elim
        rw [if_pos hb] at e
        obtain ⟨sz, h1, c1, l1, l2, e1, e2, _⟩ := bnd_ok e
        obtain ⟨hs, rfl, rfl, _⟩ := lift_ok e1
        obtain ⟨rfl, rfl, rfl, _⟩ := ret_ok e2
        have ha := ha (by omega)
        subst ha
        refine ⟨rfl, rfl, _, .ptr _ hL, ?_⟩
        simp only [Instr.indexAt, asIntOf, Sem.run_bind, Sem.run_pure, Result.andThen_ok, run_underlying hu, hb, and_self, if_true, run_size hcx hs, addr_add, Nat.add_assoc]
      cases hx <;> try exact (fail_ok e).elim
      case sliceK hL hle => exact go _ _ _ _ _ _ _ rfl rfl hL (fun _ => rfl)
      case sliceK0 hL => exact go _ _ _ _ _ _ _ rfl rfl hL (fun h => by omega)
      case sliceU hL _ _ _ => exact go _ _ _ _ _ _ _ rfl rfl hL (fun _ => rfl)
      case sliceZ hL _ _ => exact go _ _ _ _ _ _ _ rfl rfl hL (fun h => by omega)

omit hcx [MapI H AObj] in
theorem MRs.length : ∀ {es : List (V × V × Nat)} {us : List MapEntry}, MRs φ es us → es.length = us.length
  | _, _, .nil => rfl
  | _, _, .cons _ _ _ d => by simp [MRs.length d]

omit hcx in
theorem map_of (r : Rel ng w0 φ h w) {n : Nat} {rw : Bool} {es : List (V × V × Nat)} {ck : Nat} {L : Loc} (hn : MapI.get h n = some (.map rw es ck)) (hL : φ n = some L) :
    ∃ E, w.heap[L.blk]? = some (.map E ck) ∧ MRs φ es E.toList := by
  obtain ⟨K, hK, ho, _⟩ := r.obj n _ hn
  rw [hL] at hK; cases hK
  exact ho

omit hcx [MapI H AObj] in
theorem run_getMap {b : Nat} {E : Array MapEntry} {ck : Nat} (hb : w.heap[b]? = some (.map E ck)) : (getObj b).run P w = .ok (.map E ck) w := by simp [getObj, Sem.run, hb]
omit hcx [MapI H AObj] in
theorem run_setMap {b : Nat} {E : Array MapEntry} {ck : Nat} (o : Obj) (hb : w.heap[b]? = some (.map E ck)) : (setObj b o).run P w = .ok () (World.setBlk w b o) := by simp [setObj, Sem.run, hb, World.setBlk]

theorem lenM_ok (r : Rel ng w0 φ h w) {t ty : Nat} {x v : V} {x' : Value} (hx : VR φ x x') {ts : List Nat} {xs : List Value} (e : lenM cx t x h c = .ok v h' c' l) :
    h' = h ∧ c' = c ∧ ∃ u, VR φ v u ∧ (Builtin.len_ ⟨t :: ts⟩ ty ⟨x' :: xs⟩).run P w = .ok u w := by
  have run : ∀ d, cx.desc t = some d → (Builtin.len_ ⟨t :: ts⟩ ty ⟨x' :: xs⟩).run P w = (match d, x' with
      | .string, .string s => (pure (goInt s.size) : Sem Value)
      | .array n _, _ => pure (goInt n)
      | .pointer arr, _ => do
        let .array n _ ← underlying arr | stuck "len: pointer to array expected"
        pure (goInt n)
      | .slice _, .slice _ n _ => pure (goInt n)
      | .map _ _, .map none | .chan _ _, .chan none => pure (goInt 0)
      | .map _ _, .map (some r) => do
        let .map entries _ ← getObj r | stuck "len: map expected"
        pure (goInt entries.size)
      | .chan _ _, .chan (some r) => do
        let .chan _ buf _ _ _ timer ← getObj r | stuck "len: channel expected"
        pure (goInt (if timer then 0 else buf.size))
      | _, _ => stuck "len: string, array, pointer to array, slice, map or channel expected").run P w := fun d hd => by
    have hu := desc_ok hcx hd
    simp only [Builtin.len_, List.getElem?_toArray, List.getElem?_cons_zero, Sem.run_bind, run_underlying hu, Result.andThen_ok]
    rfl
  unfold lenM at e
  cases hd : cx.desc t with
  | none => simp only [hd] at e; exact (fail_ok e).elim
  | some d =>
    rw [run d hd]
    simp only [hd] at e
    cases d <;> try exact (fail_ok e).elim
    case string =>
      cases hx <;> try exact (fail_ok e).elim
      obtain ⟨rfl, rfl, rfl, _⟩ := ret_ok e
      exact ⟨rfl, rfl, _, .int _ _, rfl⟩
    case array n el =>
      obtain ⟨rfl, rfl, rfl, _⟩ := ret_ok e
      exact ⟨rfl, rfl, _, .int _ _, rfl⟩
    case slice el =>
      cases hx <;> try exact (fail_ok e).elim
      all_goals
        obtain ⟨rfl, rfl, rfl, _⟩ := ret_ok e
        exact ⟨rfl, rfl, _, .int _ _, rfl⟩
    case map kt el =>
      cases hx <;> try exact (fail_ok e).elim
      case mapNil =>
        obtain ⟨rfl, rfl, rfl, _⟩ := ret_ok e
        exact ⟨rfl, rfl, _, .int _ _, rfl⟩
      case map n L hL =>
        obtain ⟨ob, h1, c1, l1, l2, e1, e2, _⟩ := bnd_ok e
        obtain ⟨hn, rfl, rfl, _⟩ := getM_ok e1
        cases ob <;> try exact (fail_ok e2).elim
        obtain ⟨rfl, rfl, rfl, _⟩ := ret_ok e2
        obtain ⟨E, hb, hm⟩ := map_of r hn hL
        refine ⟨rfl, rfl, _, .int _ _, ?_⟩
        have hlen := hm.length
        have hsz : E.toList.length = E.size := Array.length_toList
        simp only [Sem.run_bind, run_getMap (P := P) hb, Result.andThen_ok, Sem.run_pure, goInt]
        rw [hlen, hsz]
end
end Go.Ab
