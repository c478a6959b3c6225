/- maps.Keys and slices.Sorted at this program's map of sectors. -/
import Derived.Test.YtiialjncdhhceaaGreatSecKeys
import Derived.Test.YtiialjncdhhceaaGreatLays
namespace Go.Proofs.YtiialjncdhhceaaGreat
open Go.RowKit Go.Maps Go.Sort Go.Shelf
set_option linter.unusedVariables false

theorem sortsI (m : Nat) : AnyZI.SortsIn Tryz.prog Tryz.sortedI_ren Fence.wide m :=
  ⟨fun blk off cap ss W hH hblk hsz => callsIn_wide.2 (AnyM.slices_Sort_int Tryz.sortI blk off cap ss W hH hblk hsz),
   fun p cap W => callsIn_wide.2 (AnyM.slices_Sort_int_none Tryz.sortI p cap W)⟩

theorem Keys_c (mb : Option Nat) (W : World) : Calls Tryz.prog 35 #[.map mb] W fun e w' => e = .returned (.func (.func 58) #[] #[.pointer (some ⟨W.heap.size, 0, none⟩)]) ∧ w' = W.alloc (.cells #[.map mb] 63) :=
  callsIn_wide.1 (AnyZI.keys_in Tryz.keysI Fence.wide 5 trivial rfl mb W)

theorem Sorted_c (g m cnt : Nat) (D : DataW Unit) (w : World) (hg : g < w.heap.size) (hc : w.cell? ⟨g, 0, none⟩ = some (.map (some m))) (hown : w.ownsMap Tryz.prog 3 secR m cnt D) (hcnt : Maps.size D ≤ 1000) :
    Calls Tryz.prog 34 #[.func (.func 58) #[] #[.pointer (some ⟨g, 0, none⟩)]] w fun e w' => ∃ (v : Value) (ss : List Int), e = .returned v ∧ ss.Perm (intKeys D) ∧
      w'.ownsRow w.heap.size 3 1 v ss.length ((ss.mergeSort (fun x y => decide (x ≤ y))).map encZ) ∧ (v = .slice none 0 0 ↔ ss = []) ∧ Below w.heap.size w w' := by
  have hseq : SeqGives Fence.wide 2 Tryz.prog 58 #[.pointer (some ⟨g, 0, none⟩)] encZ (fun ss => ss.Perm (intKeys D)) (Maps.size D) w :=
    AnyZI.keys_gives (ρ := Tryz.keysI_ren) { Tryz.keysI with } Fence.wide _ trivial rfl (by omega) g m cnt D w hg hc hown
  exact callsIn_wide.1 (AnyZI.sorted_in Tryz.sortedI Fence.wide 5 trivial trivial trivial trivial rfl (by omega) (sortsI _) (enters_of Tryz.func57 (by kernel_rfl) rfl) 58 #[.pointer (some ⟨g, 0, none⟩)] trivial (enters_of Tryz.func58 (by kernel_rfl) rfl) _ _ (by unfold maxLen; omega) (by omega) _ hseq)
end Go.Proofs.YtiialjncdhhceaaGreat
