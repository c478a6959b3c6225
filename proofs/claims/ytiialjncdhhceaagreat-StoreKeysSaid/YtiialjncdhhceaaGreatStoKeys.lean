/- maps.Keys, slices.Sorted, maps.Clone at this program's map of strings. -/
import Derived.Test.YtiialjncdhhceaaGreatStoLines
import Derived.Test.YtiialjncdhhceaaGreatLays
namespace Go.Proofs.YtiialjncdhhceaaGreat
open Go.RowKit Go.Maps Go.Sort Go.Shelf
set_option linter.unusedVariables false

theorem sortsS (m : Nat) : AnyZ.SortsIn Tryz.prog Tryz.sortedS_ren Fence.wide m :=
  ⟨fun blk off cap ss W hH hblk hsz => callsIn_wide.2 (AnyM.slices_Sort_string Tryz.sortS blk off cap ss W hH hblk hsz),
   fun p cap W => callsIn_wide.2 (AnyM.slices_Sort_string_none Tryz.sortS p cap W)⟩

theorem KeysS_c (mb : Option Nat) (W : World) : Calls Tryz.prog 33 #[.map mb] W fun e w' => e = .returned (.func (.func 55) #[] #[.pointer (some ⟨W.heap.size, 0, none⟩)]) ∧ w' = W.alloc (.cells #[.map mb] 59) :=
  callsIn_wide.1 (AnyZ.keys_in Tryz.keysS Fence.wide 5 trivial rfl mb W)

theorem map_encStr (L : List KV) : (L.map (·.1)).map encStr = (L.map fun p => stB p.1).map Value.string := by
  rw [List.map_map, List.map_map]
  rfl
theorem SortedS_c (g m : Nat) (L : List KV) (w : World) (hg : g < w.heap.size) (hc : w.cell? ⟨g, 0, none⟩ = some (.map (some m))) (hM : MapS w m L) (hcnt : L.length ≤ 1000) :
    Calls Tryz.prog 32 #[.func (.func 55) #[] #[.pointer (some ⟨g, 0, none⟩)]] w fun e w' => ∃ v, e = .returned v ∧ OSs w' w.heap.size v (L.map fun p => stB p.1) ∧ Fr [] w w' := by
  have hsz := mapD_size L
  have hseq : SeqGives Fence.wide 2 Tryz.prog 55 #[.pointer (some ⟨g, 0, none⟩)] encStr (fun ss => ss.Perm (strKeys (mapD L))) (Maps.size (mapD L)) w :=
    AnyZ.keys_gives (ρ := Tryz.keysS_ren) { Tryz.keysS with } Fence.wide _ trivial rfl (by omega) g m L.length (mapD L) w hg hc hM.1
  have h := callsIn_wide.1 (AnyZ.sorted_in Tryz.sortedS Fence.wide 5 trivial trivial trivial trivial rfl (by omega) (sortsS _) (enters_of Tryz.func54 (by kernel_rfl) rfl) 55 #[.pointer (some ⟨g, 0, none⟩)] trivial (enters_of Tryz.func55 (by kernel_rfl) rfl) _ _ (by rw [hsz]; unfold maxLen; omega) (by rw [hsz]; omega) _ hseq)
  refine Calls.mono h ?_
  rintro e w' ⟨v, ss, rfl, hp, hrow, hnil, hb⟩
  rw [mapD_keys] at hp
  rw [sorted_keys hM.2 hp, map_encStr] at hrow
  have hl : ss.length = (L.map fun p => stB p.1).length := by rw [hp.length_eq, List.length_map, List.length_map]
  rw [hl] at hrow
  exact ⟨v, rfl, hrow, fr_of_below hb⟩

theorem CloneM_c (m : Nat) (L : List KV) (w : World) (hM : MapS w m L) :
    Calls Tryz.prog 29 #[.map (some m)] w fun e w' => e = .returned (.map (some w.heap.size)) ∧ MapS w' w.heap.size L ∧ Fr [] w w' := by
  refine Calls.mono (AnyW.maps_Clone_owns Tryz.cloneS 9 (plainElem (H := Unit) Tryz.prog 9) m L.length (mapD L) w hM.1) ?_
  rintro e w' ⟨rfl, h1, _, hb⟩
  exact ⟨rfl, ⟨h1, hM.2⟩, fr_of_below hb⟩
end Go.Proofs.YtiialjncdhhceaaGreat
