/- The abstract evaluator against the model: when an abstract heap stands for a world. -/
import Derived.Test.YtcenbfjhhaialaaAc1
import Derived.Laws.Cells
import Derived.Laws.Rows
set_option linter.unusedVariables false
set_option linter.unusedSectionVars false
set_option linter.unusedSimpArgs false
set_option linter.unnecessarySimpa false
namespace Go.Ab
open Go.RowKit

/-- Where a name's row lies: block, first cell, end of the row. -/
structure Loc where
  blk : Nat
  off : Nat
  lim : Nat
abbrev Nm := Nat → Option Loc

def Nm.put (φ : Nm) (n : Nat) (L : Loc) : Nm := fun m => if m = n then some L else φ m

mutual
inductive VR (φ : Nm) : V → Value → Prop where
  | bool (b : Bool) : VR φ (.bool b) (.bool b)
  | int (k : IntKind) (n : Int) : VR φ (.int k n) (.int k n)
  | str (s : List UInt8) : VR φ (.str s) (.string ⟨⟨s⟩⟩)
  | ptrNil : VR φ (.ptr none) (.pointer none)
  | ptr {n : Nat} {L : Loc} (o : Nat) : φ n = some L → VR φ (.ptr (some (n, o))) (.pointer (some ⟨L.blk, L.off + o, none⟩))
  | sliceNil : VR φ (.slice none 0 (.known 0)) (.slice none 0 0)
  | sliceK {n : Nat} {L : Loc} (o len k : Nat) : φ n = some L → len ≤ k → VR φ (.slice (some (n, o)) len (.known k)) (.slice (some ⟨L.blk, L.off + o, none⟩) len k)
  | sliceK0 {n : Nat} {L : Loc} (o : Nat) (a : Addr) : φ n = some L → VR φ (.slice (some (n, o)) 0 (.known 0)) (.slice (some a) 0 0)
  | sliceU {n : Nat} {L : Loc} (o len cap sz : Nat) : φ n = some L → L.off + o + cap * sz = L.lim → len ≤ cap → 0 < sz →
      VR φ (.slice (some (n, o)) len (.upTo sz)) (.slice (some ⟨L.blk, L.off + o, none⟩) len cap)
  | sliceZ {n : Nat} {L : Loc} (o sz : Nat) (a : Addr) : φ n = some L → L.off + o = L.lim → 0 < sz → VR φ (.slice (some (n, o)) 0 (.upTo sz)) (.slice (some a) 0 0)
  | mapNil : VR φ (.map none) (.map none)
  | map {n : Nat} {L : Loc} : φ n = some L → VR φ (.map (some n)) (.map (some L.blk))
  | func {fn : Fn} {a b : List V} {a' b' : List Value} : VRs φ a a' → VRs φ b b' → VR φ (.func fn a b) (.func fn ⟨a'⟩ ⟨b'⟩)
  | nilFunc : VR φ .nilFunc .nilFunc
  | iface (t : TypeId) {v : V} {u : Value} : VR φ v u → VR φ (.iface t v) (.iface t u)
  | nilIface : VR φ .nilIface .nilIface
  | agg {cs : List V} {us : List Value} : VRs φ cs us → VR φ (.agg cs) (.agg ⟨us⟩)
  | tuple {cs : List V} {us : List Value} : VRs φ cs us → VR φ (.tuple cs) (.tuple ⟨us⟩)
  | yld {n : Nat} {L : Loc} : φ n = some L → VR φ (.yld n) (.func (.yield L.blk) #[] #[])
inductive VRs (φ : Nm) : List V → List Value → Prop where
  | nil : VRs φ [] []
  | cons {v : V} {u : Value} {vs : List V} {us : List Value} : VR φ v u → VRs φ vs us → VRs φ (v :: vs) (u :: us)
end

/-- φ' says more than φ, of names from c on below c' alone. -/
structure Ext (φ φ' : Nm) (c c' : Nat) : Prop where
  mono : ∀ n L, φ n = some L → φ' n = some L
  only : ∀ n, φ' n ≠ φ n → c ≤ n ∧ n < c'

theorem Ext.refl (φ : Nm) (c c' : Nat) : Ext φ φ c c' := ⟨fun _ _ h => h, fun _ h => absurd rfl h⟩
theorem Ext.trans {φ φ' φ'' : Nm} {a b c : Nat} (h : Ext φ φ' a b) (k : Ext φ' φ'' b c) (hab : a ≤ b) (hbc : b ≤ c) : Ext φ φ'' a c :=
  ⟨fun n L e => k.mono n L (h.mono n L e), fun n e => by
    by_cases x : φ'' n = φ' n
    · have := h.only n (by rw [← x]; exact e); omega
    · have := k.only n x; omega⟩
theorem Ext.wide {φ φ' : Nm} {a b a' b' : Nat} (h : Ext φ φ' a b) (h1 : a' ≤ a) (h2 : b ≤ b') : Ext φ φ' a' b' :=
  ⟨h.mono, fun n e => by have := h.only n e; omega⟩
theorem Ext.put {φ : Nm} {c : Nat} (L : Loc) (h : φ c = none) : Ext φ (φ.put c L) c (c + 1) := by
  refine ⟨fun n K e => ?_, fun n e => ?_⟩
  · unfold Nm.put; split
    · next x => subst x; rw [h] at e; cases e
    · exact e
  · unfold Nm.put at e; split at e
    · next x => omega
    · exact absurd rfl e

mutual
theorem VR.mono {φ φ' : Nm} (h : ∀ n L, φ n = some L → φ' n = some L) : ∀ {v : V} {u : Value}, VR φ v u → VR φ' v u
  | _, _, .bool b => .bool b
  | _, _, .int k n => .int k n
  | _, _, .str s => .str s
  | _, _, .ptrNil => .ptrNil
  | _, _, .ptr o e => .ptr o (h _ _ e)
  | _, _, .sliceNil => .sliceNil
  | _, _, .sliceK o len k e hk => .sliceK o len k (h _ _ e) hk
  | _, _, .sliceK0 o a e => .sliceK0 o a (h _ _ e)
  | _, _, .sliceU o len cap sz e h1 h2 h3 => .sliceU o len cap sz (h _ _ e) h1 h2 h3
  | _, _, .sliceZ o sz a e h1 h2 => .sliceZ o sz a (h _ _ e) h1 h2
  | _, _, .mapNil => .mapNil
  | _, _, .map e => .map (h _ _ e)
  | _, _, .func a b => .func (VRs.mono h a) (VRs.mono h b)
  | _, _, .nilFunc => .nilFunc
  | _, _, .iface t a => .iface t (VR.mono h a)
  | _, _, .nilIface => .nilIface
  | _, _, .agg a => .agg (VRs.mono h a)
  | _, _, .tuple a => .tuple (VRs.mono h a)
  | _, _, .yld a => .yld (h _ _ a)
theorem VRs.mono {φ φ' : Nm} (h : ∀ n L, φ n = some L → φ' n = some L) : ∀ {vs : List V} {us : List Value}, VRs φ vs us → VRs φ' vs us
  | _, _, .nil => .nil
  | _, _, .cons a b => .cons (VR.mono h a) (VRs.mono h b)
end

/-! ## Lists of values -/

theorem nth_eq {α : Type} : ∀ (l : List α) (i : Nat), nth l i = l[i]?
  | [], _ => by simp [nth]
  | _ :: _, 0 => by simp [nth]
  | _ :: l, i + 1 => by simp [nth, nth_eq l i]

theorem VRs.length {φ : Nm} : ∀ {vs : List V} {us : List Value}, VRs φ vs us → vs.length = us.length
  | _, _, .nil => rfl
  | _, _, .cons _ b => by simp [b.length]
theorem VRs.get {φ : Nm} : ∀ {vs : List V} {us : List Value} (_ : VRs φ vs us) {i : Nat} {v : V}, vs[i]? = some v → ∃ u, us[i]? = some u ∧ VR φ v u
  | _, _, .nil, i, v, h => by simp at h
  | _, _, .cons a b, 0, v, h => by simp at h; subst h; exact ⟨_, by simp, a⟩
  | _, _, .cons a b, i + 1, v, h => by simp at h; obtain ⟨u, h1, h2⟩ := b.get h; exact ⟨u, by simpa using h1, h2⟩
theorem VRs.of_get {φ : Nm} : ∀ {vs : List V} {us : List Value}, vs.length = us.length → (∀ (i : Nat) (v : V), vs[i]? = some v → ∃ u, us[i]? = some u ∧ VR φ v u) → VRs φ vs us
  | [], [], _, _ => .nil
  | [], _ :: _, h, _ => by simp at h
  | _ :: _, [], h, _ => by simp at h
  | v :: vs, u :: us, h, hg => by
    obtain ⟨u', h1, h2⟩ := hg 0 v (by simp)
    simp at h1; subst h1
    exact .cons h2 (VRs.of_get (by simpa using h) fun i v hv => by have := hg (i + 1) v (by simpa using hv); simpa using this)
theorem VRs.append {φ : Nm} : ∀ {a b : List V} {a' b' : List Value}, VRs φ a a' → VRs φ b b' → VRs φ (a ++ b) (a' ++ b')
  | _, _, _, _, .nil, h => h
  | _, _, _, _, .cons x y, h => .cons x (y.append h)
theorem VRs.single {φ : Nm} {v : V} {u : Value} (h : VR φ v u) : VRs φ [v] [u] := .cons h .nil

/-! ## Constants -/

theorem toV1_ok {φ : Nm} {v : Value} {x : V} (h : toV1 v = some x) : VR φ x v := by
  unfold toV1 at h
  split at h <;> first | (cases h; done) | (simp only [Option.some.injEq] at h; subst h) | skip
  · exact .bool _
  · exact .int _ _
  · exact .str _
  · exact .ptrNil
  · exact .sliceNil
  · exact .mapNil
  · next f a b =>
    split at h
    · next e1 e2 =>
      simp only [Option.some.injEq] at h; subst h
      obtain ⟨a⟩ := a; obtain ⟨b⟩ := b
      simp only at e1 e2; subst e1; subst e2
      exact .func .nil .nil
    · cases h
  · exact .nilFunc
  · exact .nilIface
theorem toVs_ok {φ : Nm} : ∀ {vs : List Value} {xs : List V}, toVs vs = some xs → VRs φ xs vs
  | [], xs, h => by simp [toVs] at h; subst h; exact .nil
  | v :: vs, xs, h => by
    unfold toVs at h
    split at h
    · cases h
    · next x hx =>
      split at h
      · cases h
      · next ys hy => simp only [Option.some.injEq] at h; subst h; exact .cons (toV1_ok hx) (toVs_ok hy)
theorem toV_ok {φ : Nm} {v : Value} {x : V} (h : toV v = some x) : VR φ x v := by
  unfold toV at h
  split at h
  · next cs =>
    split at h
    · next l hl => simp only [Option.some.injEq] at h; subst h; exact .agg (toVs_ok hl)
    · cases h
  · exact toV1_ok h

/-! ## Objects, worlds -/

inductive MRs (φ : Nm) : List (V × V × Nat) → List MapEntry → Prop where
  | nil : MRs φ [] []
  | cons {k v : V} {b : Nat} {e : MapEntry} {es : List (V × V × Nat)} {us : List MapEntry} : VR φ k e.key → VR φ v e.val → e.born = b → MRs φ es us →
      MRs φ ((k, v, b) :: es) (e :: us)
theorem MRs.mono {φ φ' : Nm} (h : ∀ n L, φ n = some L → φ' n = some L) : ∀ {es : List (V × V × Nat)} {us : List MapEntry}, MRs φ es us → MRs φ' es us
  | _, _, .nil => .nil
  | _, _, .cons a b c d => .cons (a.mono h) (b.mono h) c (d.mono h)

def AObj.writable : AObj → Bool
  | .cells rw _ _ => rw
  | .map rw _ _ => rw
  | .siter _ _ => true
  | .miter _ _ _ _ => true
  | .loop _ _ _ _ _ _ _ => true
  | .defs => true
  | .spent => true
  | .dead => false
def AObj.gone : AObj → Bool
  | .dead => true
  | _ => false

def stOf : LSt → LoopState
  | .ready => .ready
  | .busy => .busy
  | .done _ => .done
  | .over => .exhausted
def codeOf : Ex → Code
  | .normal => .skip
  | .exit i => .exit i
  | .ret => .ret
/-- The jump that waits. -/
def Pend : LSt → Option Code → Prop
  | .ready, p => p = none
  | .busy, p => p = none
  | .done j, p => p = some (codeOf j)
  | .over, _ => True

/-- A frame's slots that are known. -/
def KnownR (φ : Nm) (es : List (Nat × V)) (ts : Array Value) : Prop := ∀ t v, (t, v) ∈ es → ∃ u, ts[t]? = some u ∧ VR φ v u

def ObjR (φ : Nm) : AObj → Loc → Option Obj → Prop
  | .cells rw clean cs, L, b => ∃ C e fr, b = some (.cells C e fr) ∧ L.off + cs.length ≤ L.lim ∧ L.lim ≤ C.size ∧
      (∀ i v, cs[i]? = some v → ∃ u, C[L.off + i]? = some u ∧ VR φ v u) ∧
      (rw = true → ∀ j, L.off ≤ j → j < L.lim → ¬ (fr.1 ≤ j ∧ j < fr.2)) ∧ (clean = true → fr = (0, 0) ∧ L.off = 0)
  | .map _ es ck, _, b => ∃ E, b = some (.map E ck) ∧ MRs φ es E.toList
  | .siter s pos, L, b => L.off = 0 ∧ b = some (.stringIter ⟨⟨s⟩⟩ pos)
  | .miter m since seen last, L, b => L.off = 0 ∧ ((m = none ∧ ∃ s q c, b = some (.mapIter none s q c)) ∨ ∃ n K, m = some n ∧ φ n = some K ∧ b = some (.mapIter (some K.blk) since ⟨seen⟩ last))
  | .loop st _ N es ps as bo, L, b => L.off = 0 ∧ ∃ r : Loop, b = some (.loop r) ∧ r.state = stOf st ∧ Pend st r.pending ∧ r.tmps.size = N ∧ KnownR φ es r.tmps ∧ r.params.toList = ps ∧ r.assign = as ∧ r.body = bo ∧ goodCode as = true ∧ goodCode bo = true
  | .defs, _, b => b = some (.deferred (some []))
  | .spent, _, b => ∃ x, b = some x
  | .dead, _, _ => True

theorem ObjR.mono {φ φ' : Nm} (h : ∀ n L, φ n = some L → φ' n = some L) {o : AObj} {L : Loc} {b : Option Obj} (r : ObjR φ o L b) : ObjR φ' o L b := by
  cases o with
  | cells rw cl cs =>
    obtain ⟨C, e, fr, h1, h2, h3, h4, h5⟩ := r
    exact ⟨C, e, fr, h1, h2, h3, fun i v hv => by obtain ⟨u, a, b⟩ := h4 i v hv; exact ⟨u, a, b.mono h⟩, h5⟩
  | map rw es ck => obtain ⟨E, h1, h2⟩ := r; exact ⟨E, h1, h2.mono h⟩
  | siter s pos => exact r
  | miter m since seen last => exact ⟨r.1, r.2.imp id fun ⟨n, K, h1, h2, h3⟩ => ⟨n, K, h1, h _ _ h2, h3⟩⟩
  | loop st d N es ps as bo =>
    obtain ⟨h0, q, h1, h2, h3, h4, h5, h6⟩ := r
    exact ⟨h0, q, h1, h2, h3, h4, fun t v hv => by obtain ⟨u, a, b⟩ := h5 t v hv; exact ⟨u, a, b.mono h⟩, h6⟩
  | defs => exact r
  | spent => exact r
  | dead => trivial

/-- What is writable is there. -/
theorem ObjR.there {φ : Nm} {o : AObj} {L : Loc} {b : Option Obj} (r : ObjR φ o L b) (hg : o.gone = false) : ∃ x, b = some x := by
  cases o with
  | cells rw cl cs => obtain ⟨C, e, fr, h1, _⟩ := r; exact ⟨_, h1⟩
  | map rw es ck => obtain ⟨E, h1, _⟩ := r; exact ⟨_, h1⟩
  | siter s pos => exact ⟨_, r.2⟩
  | miter m since seen last => rcases r.2 with ⟨_, s, q, c, h⟩ | ⟨n, K, _, _, h⟩ <;> exact ⟨_, h⟩
  | loop st d N es ps as bo => obtain ⟨_, q, h1, _⟩ := r; exact ⟨_, h1⟩
  | defs => exact ⟨_, r⟩
  | spent => exact r
  | dead => cases hg

def World.setBlk (w : World) (b : Nat) (o : Obj) : World := { w with heap := w.heap.setIfInBounds b o }

section
variable {H : Type} [MapI H AObj]

/-- The abstract heap h stands, by φ, for the world w; what lay in w0 lies there as it did; 'ng': so many globals have names. -/
structure Rel (ng : Nat) (w0 : World) (φ : Nm) (h : H) (w : World) : Prop where
  below : Below w0.heap.size w0 w
  obj : ∀ n o, MapI.get h n = some o → ∃ L, φ n = some L ∧ ObjR φ o L w.heap[L.blk]? ∧ (o.writable = true → w0.heap.size ≤ L.blk) ∧
    (o.writable = false → o.gone = false → L.blk < w0.heap.size)
  apart : ∀ n m o p L K, n ≠ m → MapI.get h n = some o → MapI.get h m = some p → o.writable = true → p.writable = true → φ n = some L → φ m = some K → L.blk ≠ K.blk
  glob : ∀ g, g < ng → ∃ L, φ g = some L ∧ L.blk = g ∧ L.off = 0

variable {ng : Nat} {w0 w : World} {φ : Nm} {h : H}

theorem gone_of_writable {o : AObj} (h : o.writable = true) : o.gone = false := by cases o <;> first | rfl | cases h

theorem Rel.lt (r : Rel ng w0 φ h w) {n : Nat} {o : AObj} {L : Loc} (hn : MapI.get h n = some o) (hg : o.gone = false) (hL : φ n = some L) : L.blk < w.heap.size := by
  obtain ⟨K, h1, h2, _⟩ := r.obj n o hn
  rw [hL] at h1; cases h1
  obtain ⟨x, hx⟩ := h2.there hg
  exact (Array.getElem?_eq_some_iff.1 hx).1

theorem Rel.drew (r : Rel ng w0 φ h w) (k : Nat) : Rel ng w0 φ h { w with drawn := k } :=
  ⟨r.below.trans ⟨rfl, rfl, rfl, Nat.le_refl _, fun _ _ => rfl⟩, r.obj, r.apart, r.glob⟩

/-- One block of its own is written anew. -/
theorem Rel.setBlk (r : Rel ng w0 φ h w) {n : Nat} {o o' : AObj} {L : Loc} {b : Obj} (hn : MapI.get h n = some o) (hw : o.writable = true) (hL : φ n = some L)
    (hw' : o'.writable = true) (ho : ObjR φ o' L (some b)) : Rel ng w0 φ (MapI.set h n o') (World.setBlk w L.blk b) := by
  have hlt := r.lt hn (gone_of_writable hw) hL
  have hbase : w0.heap.size ≤ L.blk := by
    obtain ⟨K, h1, _, h3, _⟩ := r.obj n o hn; rw [hL] at h1; cases h1; exact h3 hw
  have hblk : (World.setBlk w L.blk b).heap[L.blk]? = some b := by simp [World.setBlk, hlt]
  have hoth : ∀ k, k ≠ L.blk → (World.setBlk w L.blk b).heap[k]? = w.heap[k]? := fun k hk => by
    simp [World.setBlk, Ne.symm hk]
  refine ⟨r.below.trans ⟨rfl, rfl, rfl, by simp [World.setBlk], fun k hk => hoth k (by omega)⟩, fun m p hm => ?_, fun a c p q K J hac ha hc hp hq hK hJ => ?_, r.glob⟩
  · by_cases e : n = m
    · subst e
      rw [MapI.get_same] at hm; cases hm
      exact ⟨L, hL, by rw [hblk]; exact ho, fun _ => hbase, fun e => by rw [hw'] at e; cases e⟩
    · rw [MapI.get_ne _ _ _ _ e] at hm
      obtain ⟨K, h1, h2, h3, h4⟩ := r.obj m p hm
      refine ⟨K, h1, ?_, h3, h4⟩
      by_cases hg : p.gone = true
      · cases p <;> first | trivial | cases hg
      · have hg : p.gone = false := by simpa using hg
        have : K.blk ≠ L.blk := by
          cases hpw : p.writable
          · have := h4 hpw hg; omega
          · exact fun e' => r.apart n m o p L K e hn hm hw hpw hL h1 e'.symm
        rw [hoth _ this]; exact h2
  · have key : ∀ m p, MapI.get (MapI.set h n o') m = some p → p.writable = true → ∃ p', MapI.get h m = some p' ∧ p'.writable = true := fun m p hm hp => by
      by_cases e : n = m
      · subst e; exact ⟨o, hn, hw⟩
      · rw [MapI.get_ne _ _ _ _ e] at hm; exact ⟨p, hm, hp⟩
    obtain ⟨p', h1, h2⟩ := key a p ha hp
    obtain ⟨q', h3, h4⟩ := key c q hc hq
    exact r.apart a c p' q' K J hac h1 h3 h2 h4 hK hJ

/-- A new block. -/
theorem Rel.alloc (r : Rel ng w0 φ h w) {c : Nat} {o : AObj} {L : Loc} {b : Obj} (hc : φ c = none) (hLb : L.blk = w.heap.size) (hw : o.writable = true)
    (ho : ObjR (φ.put c L) o L (some b)) : Rel ng w0 (φ.put c L) (MapI.set h c o) (w.alloc b) := by
  have hext : ∀ n K, φ n = some K → (φ.put c L) n = some K := (Ext.put L hc).mono
  have hold : ∀ k, k < w.heap.size → (w.alloc b).heap[k]? = w.heap[k]? := fun k hk => Below.heap_alloc w b k hk
  have hnew : (w.alloc b).heap[L.blk]? = some b := by rw [hLb]; exact heap_alloc_new w b
  have hput : (φ.put c L) c = some L := by simp [Nm.put]
  have hsz := r.below.size
  refine ⟨r.below.alloc hsz b, fun m p hm => ?_, fun a d p q K J had ha hd hp hq hK hJ => ?_, fun g hg => ?_⟩
  · by_cases e : c = m
    · subst e
      rw [MapI.get_same] at hm; cases hm
      exact ⟨L, hput, by rw [hnew]; exact ho, fun _ => by omega, fun e => by rw [hw] at e; cases e⟩
    · rw [MapI.get_ne _ _ _ _ e] at hm
      obtain ⟨K, h1, h2, h3, h4⟩ := r.obj m p hm
      refine ⟨K, hext _ _ h1, ?_, h3, h4⟩
      by_cases hg : p.gone = true
      · cases p <;> first | trivial | cases hg
      · have hlt := r.lt hm (by simpa using hg) h1
        rw [hold _ hlt]; exact h2.mono hext
  · have key : ∀ m p K, MapI.get (MapI.set h c o) m = some p → p.writable = true → (φ.put c L) m = some K → (m = c ∧ K = L) ∨ (m ≠ c ∧ MapI.get h m = some p ∧ φ m = some K ∧ K.blk < w.heap.size) := fun m p K hm hp hK => by
      by_cases e : c = m
      · subst e; rw [hput] at hK; cases hK; exact .inl ⟨rfl, rfl⟩
      · rw [MapI.get_ne _ _ _ _ e] at hm
        have hK' : φ m = some K := by unfold Nm.put at hK; rw [if_neg (Ne.symm e)] at hK; exact hK
        exact .inr ⟨Ne.symm e, hm, hK', r.lt hm (gone_of_writable hp) hK'⟩
    rcases key a p K ha hp hK with ⟨x, y⟩ | ⟨x1, x2, x3, x4⟩ <;> rcases key d q J hd hq hJ with ⟨z, t⟩ | ⟨z1, z2, z3, z4⟩
    · omega
    · subst y; omega
    · subst t; omega
    · exact r.apart a d p q K J had x2 z2 hp hq x3 z3
  · obtain ⟨K, h1, h2⟩ := r.glob g hg; exact ⟨K, hext _ _ h1, h2⟩

/-- A row goes over to another name. -/
theorem Rel.move (r : Rel ng w0 φ h w) {n c : Nat} {o o' : AObj} {L L' : Loc} (hn : MapI.get h n = some o) (hw : o.writable = true) (hL : φ n = some L) (hc : φ c = none)
    (hblk : L'.blk = L.blk) (hw' : o'.writable = true) (ho : ObjR (φ.put c L') o' L' w.heap[L'.blk]?) :
    Rel ng w0 (φ.put c L') (MapI.set (MapI.set h n .dead) c o') w := by
  have hext : ∀ n K, φ n = some K → (φ.put c L') n = some K := (Ext.put L' hc).mono
  have hput : (φ.put c L') c = some L' := by simp [Nm.put]
  have hnc : n ≠ c := fun e => by subst e; rw [hc] at hL; cases hL
  have hbase : w0.heap.size ≤ L.blk := by
    obtain ⟨K, h1, _, h3, _⟩ := r.obj n o hn; rw [hL] at h1; cases h1; exact h3 hw
  refine ⟨r.below, fun m p hm => ?_, fun a d p q K J had ha hd hp hq hK hJ => ?_, fun g hg => ?_⟩
  · by_cases e : c = m
    · subst e
      rw [MapI.get_same] at hm; cases hm
      exact ⟨L', hput, ho, fun _ => by omega, fun e => by rw [hw'] at e; cases e⟩
    · rw [MapI.get_ne _ _ _ _ e] at hm
      by_cases e2 : n = m
      · subst e2
        rw [MapI.get_same] at hm; cases hm
        exact ⟨L, hext _ _ hL, trivial, fun h => (by cases h), fun _ h => (by cases h)⟩
      · rw [MapI.get_ne _ _ _ _ e2] at hm
        obtain ⟨K, h1, h2, h3, h4⟩ := r.obj m p hm
        exact ⟨K, hext _ _ h1, h2.mono hext, h3, h4⟩
  · have key : ∀ m p K, MapI.get (MapI.set (MapI.set h n .dead) c o') m = some p → p.writable = true → (φ.put c L') m = some K →
        (m = c ∧ K = L') ∨ (m ≠ c ∧ m ≠ n ∧ MapI.get h m = some p ∧ φ m = some K) := fun m p K hm hp hK => by
      by_cases e : c = m
      · subst e; rw [hput] at hK; cases hK; exact .inl ⟨rfl, rfl⟩
      · rw [MapI.get_ne _ _ _ _ e] at hm
        by_cases e2 : n = m
        · subst e2; rw [MapI.get_same] at hm; cases hm; cases hp
        · rw [MapI.get_ne _ _ _ _ e2] at hm
          have hK' : φ m = some K := by unfold Nm.put at hK; rw [if_neg (Ne.symm e)] at hK; exact hK
          exact .inr ⟨Ne.symm e, Ne.symm e2, hm, hK'⟩
    rcases key a p K ha hp hK with ⟨x, y⟩ | ⟨x1, x2, x3, x4⟩ <;> rcases key d q J hd hq hJ with ⟨z, t⟩ | ⟨z1, z2, z3, z4⟩
    · omega
    · subst y; rw [hblk]; exact r.apart n d o q L J (Ne.symm z2) hn z3 hw hq hL z4
    · subst t; rw [hblk]; exact r.apart a n p o K L x2 x3 hn hp hw x4 hL
    · exact r.apart a d p q K J had x3 z3 hp hq x4 z4
  · obtain ⟨K, h1, h2⟩ := r.glob g hg; exact ⟨K, hext _ _ h1, h2⟩

/-- A name is never asked again. -/
theorem Rel.kill (r : Rel ng w0 φ h w) {n : Nat} {o : AObj} (hn : MapI.get h n = some o) : Rel ng w0 φ (MapI.set h n .dead) w := by
  refine ⟨r.below, fun m p hm => ?_, fun a d p q K J had ha hd hp hq hK hJ => ?_, r.glob⟩
  · by_cases e2 : n = m
    · subst e2
      rw [MapI.get_same] at hm; cases hm
      obtain ⟨L, hL, _⟩ := r.obj n o hn
      exact ⟨L, hL, trivial, fun h => (by cases h), fun _ h => (by cases h)⟩
    · rw [MapI.get_ne _ _ _ _ e2] at hm; exact r.obj m p hm
  · have key : ∀ m p, MapI.get (MapI.set h n .dead) m = some p → p.writable = true → MapI.get h m = some p := fun m p hm hp => by
      by_cases e2 : n = m
      · subst e2; rw [MapI.get_same] at hm; cases hm; cases hp
      · rw [MapI.get_ne _ _ _ _ e2] at hm; exact hm
    exact r.apart a d p q K J had (key a p ha hp) (key d q hd hq) hp hq hK hJ

/-! ## The monad, taken apart -/
section
variable {α β : Type} {c c' : Nat} {h' : H} {l : List Acc}
omit [MapI H AObj]
theorem bnd_ok {m : M H α} {f : α → M H β} {b : β} (e : bnd m f h c = .ok b h' c' l) :
    ∃ a h1 c1 l1 l2, m h c = .ok a h1 c1 l1 ∧ f a h1 c1 = .ok b h' c' l2 ∧ l = l1 ++ l2 := by
  unfold bnd at e
  split at e
  · cases e
  · next a h1 c1 l1 hm =>
    split at e
    · cases e
    · next b2 h2 c2 l2 hf => cases e; exact ⟨a, h1, c1, l1, l2, hm, hf, rfl⟩
theorem ret_ok {a b : α} (e : (ret a : M H α) h c = .ok b h' c' l) : b = a ∧ h' = h ∧ c' = c ∧ l = [] := by
  unfold ret at e; cases e; exact ⟨rfl, rfl, rfl, rfl⟩
theorem fail_ok {s : String} {b : α} (e : (fail s : M H α) h c = .ok b h' c' l) : False := by unfold fail at e; cases e
theorem lift_ok {s : String} {x : Option α} {b : α} (e : (lift s x : M H α) h c = .ok b h' c' l) : x = some b ∧ h' = h ∧ c' = c ∧ l = [] := by
  cases x with
  | none => exact (fail_ok (show (fail s : M H α) h c = .ok b h' c' l from e)).elim
  | some a => obtain ⟨e1, e2, e3, e4⟩ := ret_ok e; exact ⟨by rw [e1], e2, e3, e4⟩
end
section
variable {c c' : Nat} {h' : H} {l : List Acc}
theorem getM_ok {n : Nat} {o : AObj} (e : getM n h c = .ok o h' c' l) : MapI.get h n = some o ∧ h' = h ∧ c' = c ∧ l = [.rd n] := by
  unfold getM at e; split at e
  · next o' ho => cases e; exact ⟨ho, rfl, rfl, rfl⟩
  · cases e
theorem setM_ok {n : Nat} {o : AObj} {u : Unit} (e : setM n o h c = .ok u h' c' l) : (∃ p, MapI.get h n = some p) ∧ h' = MapI.set h n o ∧ c' = c ∧ l = [.wr n] := by
  unfold setM at e; split at e
  · next p hp => cases e; exact ⟨⟨p, hp⟩, rfl, rfl, rfl⟩
  · cases e
theorem newM_ok {o : AObj} {n : Nat} (e : newM o h c = .ok n h' c' l) : n = c ∧ h' = MapI.set h c o ∧ c' = c + 1 ∧ l = [.wr c] := by
  unfold newM at e; cases e; exact ⟨rfl, rfl, rfl, rfl⟩
end
end
end Go.Ab
