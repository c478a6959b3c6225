/- What package paddocklaw14 asks of itself first ('known'): it is so. -/
import Derived.Test.YtiialjncdhhceaaGreatJrnFormat
namespace Go.Proofs.YtiialjncdhhceaaGreat
open Go.RowKit
set_option linter.unusedVariables false
set_option linter.unusedSimpArgs false

set_option maxRecDepth 100000 in
theorem Format_small (d k m : Nat) (s : DSt) (w : World) (hD : IsDisk w d k m s) (hn : s.n < 8) :
    Calls Tryz.prog 27 #[.pointer (some ⟨d, 0, none⟩)] w fun e w' => e = .returned (.tuple #[.pointer none, .int .i64 140]) ∧ Fr [] w w' := by
  have hnI : (s.n : Int) < 8 := by omega
  go_enter_defers Tryz.func27, Tryz.ntmps27
  go_wp2_with fail
  have hf1 : Fr [] w ((w.alloc (.cells #[.pointer none] 56)).alloc (.cells #[.int .i64 0] 24)) := ((Fr.refl [] w).alloc _).alloc _
  have jv1 : ((w.alloc (.cells #[.pointer none] 56)).alloc (.cells #[.int .i64 0] 24)).heap[w.heap.size]? = some (.cells #[.pointer none] 56 (0, 0)) := (Below.heap_alloc _ _ _ (by simp)).trans (heap_alloc_new _ _)
  have ev1 : ((w.alloc (.cells #[.pointer none] 56)).alloc (.cells #[.int .i64 0] 24)).heap[w.heap.size + 1]? = some (.cells #[.int .i64 0] 24 (0, 0)) := by
    have h1 := heap_alloc_new (w.alloc (.cells #[.pointer none] 56)) (.cells #[.int .i64 0] 24)
    simpa using h1
  have hz1 : ((w.alloc (.cells #[.pointer none] 56)).alloc (.cells #[.int .i64 0] 24)).heap.size = w.heap.size + 2 := by simp
  generalize (w.alloc (.cells #[.pointer none] 56)).alloc (.cells #[.int .i64 0] 24) = w1 at *
  refine (Len_c d k m s w1 (hD.fr hf1)).mono ?_
  rintro e w2 ⟨rfl, rfl⟩
  have x1 : w1.cell? ⟨w.heap.size, 0, none⟩ = some (.pointer none) := cell_of_row _ _ 0 _ _ _ jv1
  have x1z : w1.frozen? ⟨w.heap.size, 0, none⟩ = false := frozen_of_row _ _ 0 _ _ jv1
  have x2 : w1.cell? ⟨w.heap.size + 1, 0, none⟩ = some (.int .i64 0) := cell_of_row _ _ 0 _ _ _ ev1
  have x2z : w1.frozen? ⟨w.heap.size + 1, 0, none⟩ = false := frozen_of_row _ _ 0 _ _ ev1
  have b13 := heap_setCell_same w1 w.heap.size 0 _ _ (.pointer none) jv1
  have hf13 : Fr [w.heap.size] w1 (w1.setCell ⟨w.heap.size, 0, none⟩ (.pointer none)) := (Fr.refl [w.heap.size] w1).setCell _ (.inl (by simp)) _
  have ev13 := (hf13.block (w.heap.size + 1) (by omega) (by simp)).trans ev1
  have hf14' : Fr [w.heap.size + 1] (w1.setCell ⟨w.heap.size, 0, none⟩ (.pointer none)) ((w1.setCell ⟨w.heap.size, 0, none⟩ (.pointer none)).setCell ⟨w.heap.size + 1, 0, none⟩ (.int .i64 140)) := (Fr.refl [w.heap.size + 1] _).setCell _ (.inl (by simp)) _
  have b14 := heap_setCell_same _ (w.heap.size + 1) 0 _ _ (.int .i64 140) ev13
  have r1 : ((w1.setCell ⟨w.heap.size, 0, none⟩ (.pointer none)).setCell ⟨w.heap.size + 1, 0, none⟩ (.int .i64 140)).cell? ⟨w.heap.size + 1, 0, none⟩ = some (.int .i64 140) := cell_of_row _ _ 0 _ _ _ b14
  have r2 : ((w1.setCell ⟨w.heap.size, 0, none⟩ (.pointer none)).setCell ⟨w.heap.size + 1, 0, none⟩ (.int .i64 140)).cell? ⟨w.heap.size, 0, none⟩ = some (.pointer none) :=
    cell_of_row _ _ 0 _ _ _ ((hf14'.block w.heap.size (by have := hf13.size; omega) (by simp)).trans (b13.trans rfl))
  replace r1 := hid r1
  replace r2 := hid r2
  clear b13 ev13 b14 jv1 ev1
  go_wp2_with fail
  refine ⟨.tuple #[.pointer none, .int .i64 140], ?_, rfl, (hf1.past hf13 (by simp)).past hf14' (by simp)⟩
  have e1 := r1.out
  have e2 := r2.out
  simp [results, Tryz.results27, go_sem, e1, e2]

theorem Broken_c (B j d k m hd ar : Nat) (recs : List ByteArray) (w : World) (hJ : IsJ w B j d k m hd ar recs) :
    Calls Tryz.prog 39 #[.pointer (some ⟨j, 0, none⟩)] w fun e w' => e = .returned (.bool false) ∧ w = w' := by
  obtain ⟨A, n, c, C, nc, cc, hblk, _⟩ := hJ.ex
  have j5 : w.cell? ⟨j, 5, none⟩ = some (.bool false) := cell_of_row _ _ 5 _ _ _ hblk
  clear hblk
  go_enter Tryz.func39, Tryz.ntmps39
  go_wp2
  go_ret
  exact ⟨rfl, rfl⟩

end Go.Proofs.YtiialjncdhhceaaGreat
