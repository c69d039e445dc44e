/- slices.Sorted of a map's keys, at this program. -/
import Derived.Test.YtempfmkicpifkaaLayW
import Derived.Test.YtempfmkicpifkaaAdK
import Derived.Test.YtempfmkicpifkaaAdL
import Derived.Test.YtempfmkicpifkaaChecked
set_option linter.unusedVariables false
namespace Go.Proofs.Ytempfmkicpifkaa
open Go.RowKit Go.Maps Go.Sort Go.Shelf Go.Ab Go.Proofs

theorem sortsA (m : Nat) : AnyZI.SortsIn Try.prog Try.sortedA_ren Fence.wide m :=
  ⟨fun blk off cap ss W hH hblk hsz => callsIn_wide.2 (AnyM.slices_Sort_int Try.sortA blk off cap ss W hH hblk hsz),
   fun p cap W => callsIn_wide.2 (AnyM.slices_Sort_int_none Try.sortA p cap W)⟩
theorem sortedA : KeysSorted Try.prog 115 137 3 where
  key := Try.underlying3
  enter := enters_of Try.func115 (by kernel_rfl) rfl
  ok W Bm b nn D0 hBm hm hown hsz := by
    have hseq : SeqGives Fence.wide 2 Try.prog 137 #[.pointer (some ⟨Bm, 0, none⟩)] encZ (fun ss => ss.Perm (intKeys D0)) (Maps.size D0) W :=
      AnyZI.keys_gives (ρ := Try.keysA_ren) { Try.keysA with } Fence.wide _ trivial rfl (by omega) Bm b nn D0 W hBm hm hown
    have cS := AnyZI.sorted_in Try.sortedA Fence.wide 5 trivial trivial trivial trivial rfl (by omega) (sortsA _) (enters_of Try.func136 (by kernel_rfl) rfl) 137 #[.pointer (some ⟨Bm, 0, none⟩)] trivial (enters_of Try.func137 (by kernel_rfl) rfl) _ _ (by unfold maxLen; omega) (by omega) W hseq
    exact callsIn_wide.1 cS
  none W Bm hBm hm := by
    have hseq : SeqGives Fence.wide 2 Try.prog 137 #[.pointer (some ⟨Bm, 0, none⟩)] encZ (fun ss : List Int => ss = []) 0 W :=
      AnyZI.keys_gives_nil (ρ := Try.keysA_ren) { Try.keysA with } Fence.wide _ trivial rfl Bm W hBm hm
    have cS := AnyZI.sorted_in Try.sortedA Fence.wide 5 trivial trivial trivial trivial rfl (by omega) (sortsA _) (enters_of Try.func136 (by kernel_rfl) rfl) 137 #[.pointer (some ⟨Bm, 0, none⟩)] trivial (enters_of Try.func137 (by kernel_rfl) rfl) _ 0 (Nat.zero_le _) (by omega) W hseq
    exact (callsIn_wide.1 cS).mono fun e w' ⟨v, ss, he, hS, _, hnil, hb⟩ => ⟨by rw [he, hnil.2 hS], hb⟩
theorem sortedB : KeysSorted Try.prog 115 156 3 where
  key := Try.underlying3
  enter := enters_of Try.func115 (by kernel_rfl) rfl
  ok W Bm b nn D0 hBm hm hown hsz := by
    have hseq : SeqGives Fence.wide 2 Try.prog 156 #[.pointer (some ⟨Bm, 0, none⟩)] encZ (fun ss => ss.Perm (intKeys D0)) (Maps.size D0) W :=
      AnyZI.keys_gives (ρ := Try.keysB_ren) { Try.keysB with } Fence.wide _ trivial rfl (by omega) Bm b nn D0 W hBm hm hown
    have cS := AnyZI.sorted_in Try.sortedA Fence.wide 5 trivial trivial trivial trivial rfl (by omega) (sortsA _) (enters_of Try.func136 (by kernel_rfl) rfl) 156 #[.pointer (some ⟨Bm, 0, none⟩)] trivial (enters_of Try.func156 (by kernel_rfl) rfl) _ _ (by unfold maxLen; omega) (by omega) W hseq
    exact callsIn_wide.1 cS
  none W Bm hBm hm := by
    have hseq : SeqGives Fence.wide 2 Try.prog 156 #[.pointer (some ⟨Bm, 0, none⟩)] encZ (fun ss : List Int => ss = []) 0 W :=
      AnyZI.keys_gives_nil (ρ := Try.keysB_ren) { Try.keysB with } Fence.wide _ trivial rfl Bm W hBm hm
    have cS := AnyZI.sorted_in Try.sortedA Fence.wide 5 trivial trivial trivial trivial rfl (by omega) (sortsA _) (enters_of Try.func136 (by kernel_rfl) rfl) 156 #[.pointer (some ⟨Bm, 0, none⟩)] trivial (enters_of Try.func156 (by kernel_rfl) rfl) _ 0 (Nat.zero_le _) (by omega) W hseq
    exact (callsIn_wide.1 cS).mono fun e w' ⟨v, ss, he, hS, _, hnil, hb⟩ => ⟨by rw [he, hnil.2 hS], hb⟩
theorem sort_all : ∀ f gs, findF f sortFns = some gs → ∀ g ∈ gs, KeysSorted Try.prog f g 3 := by
  intro f gs h g hg
  unfold findF findF at h
  cases hf : Nat.beq f 115 with
  | false => rw [hf] at h; cases h
  | true =>
    rw [hf] at h
    cases h
    rw [Nat.eq_of_beq_eq_true hf]
    simp only [List.mem_cons, List.not_mem_nil, or_false] at hg
    rcases hg with rfl | rfl
    · exact sortedA
    · exact sortedB
end Go.Proofs.Ytempfmkicpifkaa
