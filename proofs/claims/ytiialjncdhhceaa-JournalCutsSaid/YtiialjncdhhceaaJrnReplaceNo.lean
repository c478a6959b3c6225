/- The journal's Replace by a record that is too long. -/
import Derived.Test.YtiialjncdhhceaaKnown14
namespace Go.Proofs.Ytiialjncdhhceaa
open Go.RowKit
set_option linter.unusedVariables false
set_option linter.unusedSimpArgs false

set_option maxHeartbeats 4000000 in
set_option maxRecDepth 100000 in
theorem Replace_long (B j d k m hd ar : Nat) (recs : List ByteArray) (Al : Option Addr) (nl cl : Nat) (l : List ByteArray) (s : DSt) (w : World) (hJ : IsJ w B j d k m hd ar recs) (hD : IsDisk w d k m s)
    (hRl : RSs w Al nl l) (hpos : 0 < nl) (hsz : 20000 < (l[0]'(by rw [hRl.1]; exact hpos)).size) :
    Calls Try.prog 56 #[.pointer (some ⟨j, 0, none⟩), .slice Al nl cl] w fun e w' => e = .returned (.int .i64 10) ∧ Fr [] w w' := by
  obtain ⟨A, n, c, C, nc, cc, hblk, hRB, hnc, hOS, hA, hC⟩ := hJ.ex
  have hap := hJ.apart
  have hlo := hJ.lo
  have hll := hRl.1
  have hnle := hD.ok.n_le
  have hlts0 := hD.lts
  have hL1 : arL s.n ≤ 500 := by unfold arL; omega
  obtain ⟨L, hL⟩ : ∃ L, arL s.n = L := ⟨_, rfl⟩
  rw [hL] at hL1
  replace hL := hid hL
  go_enter_defers Try.func56, Try.ntmps56
  go_wp2_with fail
  have hjl : j < w.heap.size := (Array.getElem?_eq_some_iff.1 hblk).1
  have hf1 : Fr [] w (w.alloc (.cells #[.int .i64 0] 29)) := (Fr.refl [] w).alloc _
  have he1 : (w.alloc (.cells #[.int .i64 0] 29)).heap[w.heap.size]? = some (.cells #[.int .i64 0] 29 (0, 0)) := heap_alloc_new _ _
  have hz1 : (w.alloc (.cells #[.int .i64 0] 29)).heap.size = w.heap.size + 1 := by simp
  generalize w.alloc (.cells #[.int .i64 0] 29) = w1 at *
  have hblk1 := (hf1.block j hjl (by simp)).trans hblk
  have hD1 := hD.fr hf1
  have hOS1 := hOS.kept hf1 (by simp)
  have hRl1 := hRl.fr hf1
  have c5 : w1.cell? ⟨j, 5, none⟩ = some (.bool false) := cell_of_row _ _ 5 _ _ _ hblk1
  have j0 : w1.cell? ⟨j, 0, none⟩ = some (.pointer (some ⟨d, 0, none⟩)) := cell_of_row _ _ 0 _ _ _ hblk1
  refine (ready_c j w1 c5).mono ?_
  rintro e w2 ⟨rfl, rfl⟩
  go_wp2_with fail
  refine (space_c j d k m s w2 j0 hD1).mono ?_
  rw [hL.out]
  rintro e w3 ⟨rfl, rfl⟩
  clear c5 j0
  go_wp2_with fail
  obtain ⟨bl, off, rfl, hc⟩ := str_cell hRl1 0 hpos
  have hleI : (20000 : Int) < ((l[0]'(by omega)).size : Int) := by omega
  have hposI : (0 : Int) < (nl : Int) := by omega
  rw [Nat.add_zero] at hc
  have ez0 : w3.cell? ⟨w.heap.size, 0, none⟩ = some (.int .i64 0) := cell_of_row _ _ 0 _ _ _ he1
  have ezz : w3.frozen? ⟨w.heap.size, 0, none⟩ = false := frozen_of_row _ _ 0 _ _ he1
  have e12 := heap_setCell_same _ w.heap.size 0 _ _ (.int .i64 10) he1
  have r12 : (w3.setCell ⟨w.heap.size, 0, none⟩ (.int .i64 10)).cell? ⟨w.heap.size, 0, none⟩ = some (.int .i64 10) := cell_of_row _ _ 0 _ _ _ e12
  replace r12 := hid r12
  clear e12
  go_loopw [18] (fun iv wr => iv = .int .i64 0 ∧ wr = w3) (fun iv _ => 0)
  case atStart => exact ⟨rfl, rfl⟩
  case round =>
    obtain ⟨rfl, rfl⟩ := hrel
    go_wp2_with fail
    refine leaves_cons (f := 75) (args := #[.pointer (some ⟨j, 0, none⟩), .pointer (some ⟨w.heap.size, 0, none⟩)]) (by simp) (by simp [go_sem]) ?_
    refine (caught_idle j w.heap.size _).mono ?_
    rintro e u' w'' ⟨rfl, rfl, rfl⟩
    refine ⟨.int .i64 10, ?_, rfl, hf1.setCell _ (.inr (Nat.le_refl _)) _⟩
    have := r12.out
    simp [results, Try.results56, go_sem, this]
end Go.Proofs.Ytiialjncdhhceaa
