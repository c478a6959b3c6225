/- maps.Keys and slices.Sorted at this program's map of sectors. -/
import Derived.Test.YtiialjncdhhceaaSecKeys
import Derived.Test.YtiialjncdhhceaaLays
namespace Go.Proofs.Ytiialjncdhhceaa
open Go.RowKit Go.Maps Go.Sort Go.Shelf
set_option linter.unusedVariables false

theorem sortsI (m : Nat) : AnyZI.SortsIn Try.prog Try.sortedI_ren Fence.wide m :=
  ⟨fun blk off cap ss W hH hblk hsz => callsIn_wide.2 (AnyM.slices_Sort_int Try.sortI blk off cap ss W hH hblk hsz),
   fun p cap W => callsIn_wide.2 (AnyM.slices_Sort_int_none Try.sortI p cap W)⟩

theorem Keys_c (mb : Option Nat) (W : World) : Calls Try.prog 69 #[.map mb] W fun e w' => e = .returned (.func (.func 89) #[] #[.pointer (some ⟨W.heap.size, 0, none⟩)]) ∧ w' = W.alloc (.cells #[.map mb] 103) :=
  callsIn_wide.1 (AnyZI.keys_in Try.keysI Fence.wide 5 trivial rfl mb W)

theorem Sorted_c (g m cnt : Nat) (D : DataW Unit) (w : World) (hg : g < w.heap.size) (hc : w.cell? ⟨g, 0, none⟩ = some (.map (some m))) (hown : w.ownsMap Try.prog 3 secR m cnt D) (hcnt : Maps.size D ≤ 1000) :
    Calls Try.prog 68 #[.func (.func 89) #[] #[.pointer (some ⟨g, 0, none⟩)]] w fun e w' => ∃ (v : Value) (ss : List Int), e = .returned v ∧ ss.Perm (intKeys D) ∧
      w'.ownsRow w.heap.size 3 1 v ss.length ((ss.mergeSort (fun x y => decide (x ≤ y))).map encZ) ∧ (v = .slice none 0 0 ↔ ss = []) ∧ Below w.heap.size w w' := by
  have hseq : SeqGives Fence.wide 2 Try.prog 89 #[.pointer (some ⟨g, 0, none⟩)] encZ (fun ss => ss.Perm (intKeys D)) (Maps.size D) w :=
    AnyZI.keys_gives (ρ := Try.keysI_ren) { Try.keysI with } Fence.wide _ trivial rfl (by omega) g m cnt D w hg hc hown
  exact callsIn_wide.1 (AnyZI.sorted_in Try.sortedI Fence.wide 5 trivial trivial trivial trivial rfl (by omega) (sortsI _) (enters_of Try.func88 (by kernel_rfl) rfl) 89 #[.pointer (some ⟨g, 0, none⟩)] trivial (enters_of Try.func89 (by kernel_rfl) rfl) _ _ (by unfold maxLen; omega) (by omega) _ hseq)
end Go.Proofs.Ytiialjncdhhceaa
