/- The journal's Append where it doesn't go in; Room, All, Broken. -/
import Derived.Test.YtiialjncdhhceaaGreatJrnAppend
namespace Go.Proofs.YtiialjncdhhceaaGreat
open Go.RowKit
set_option linter.unusedVariables false
set_option linter.unusedSimpArgs false

set_option maxHeartbeats 4000000 in
set_option maxRecDepth 100000 in
theorem Append_no (B j d k m hd ar : Nat) (recs : List ByteArray) (rec : ByteArray) (s : DSt) (w : World) (hJ : IsJ w B j d k m hd ar recs) (hD : IsDisk w d k m s)
    (hsz : rec.size ≤ 1000000) (hno : 20000 < rec.size ∨ 64 * arL s.n < (recsB recs).length + (rec.size + 4)) :
    Calls Tryz.prog 51 #[.pointer (some ⟨j, 0, none⟩), .string rec] w fun e w' => e = .returned (.int .i64 (if 20000 < rec.size then 10 else 140)) ∧ Fr [] w w' := by
  obtain ⟨A, n, c, C, nc, cc, hblk, hRB, hnc, hOS, hA, hC⟩ := hJ.ex
  have hln := hRB.1
  have hnle := hD.ok.n_le
  have hL1 : arL s.n ≤ 500 := by unfold arL; omega
  have hnl := hRB.2.1
  obtain ⟨xc, hxc⟩ : ∃ xc : Int, (if 20000 < rec.size then 10 else 140) = xc := ⟨_, rfl⟩
  rw [hxc]
  replace hxc := hid hxc
  go_enter_defers Tryz.func51, Tryz.ntmps51
  go_wp2_with fail
  have hjl : j < w.heap.size := (Array.getElem?_eq_some_iff.1 hblk).1
  have hf1 : Fr [] w (w.alloc (.cells #[.int .i64 0] 24)) := (Fr.refl [] w).alloc _
  have he1 : (w.alloc (.cells #[.int .i64 0] 24)).heap[w.heap.size]? = some (.cells #[.int .i64 0] 24 (0, 0)) := heap_alloc_new _ _
  have hz1 : (w.alloc (.cells #[.int .i64 0] 24)).heap.size = w.heap.size + 1 := by simp
  generalize w.alloc (.cells #[.int .i64 0] 24) = w1 at *
  have hblk1 := (hf1.block j hjl (by simp)).trans hblk
  have hD1 := hD.fr hf1
  have c5 : w1.cell? ⟨j, 5, none⟩ = some (.bool false) := cell_of_row _ _ 5 _ _ _ hblk1
  refine (ready_c j w1 c5).mono ?_
  rintro e w2 ⟨rfl, rfl⟩
  go_wp2_with fail
  refine (record_c w.heap.size rec (by omega) w2 (by omega)).mono ?_
  rintro e w3 ⟨v3, rfl, hO3, hf3, hn3⟩
  have hrl := recB_len rec
  obtain ⟨A3, c3, rfl, hc3, hr3, hz3⟩ := hO3.form
  rw [hrl]
  have hf13 := hf1.then hf3
  have hblk3 := (hf3.block j (by omega) (by simp)).trans hblk1
  have hD3 := hD1.fr hf3
  have e13 := (hf3.block w.heap.size (by omega) (by simp)).trans he1
  have j0 : w3.cell? ⟨j, 0, none⟩ = some (.pointer (some ⟨d, 0, none⟩)) := cell_of_row _ _ 0 _ _ _ hblk3
  have j3 : w3.cell? ⟨j, 3, none⟩ = some (.slice A n c) := cell_of_row _ _ 3 _ _ _ hblk3
  have ez : w3.cell? ⟨w.heap.size, 0, none⟩ = some (.int .i64 0) := cell_of_row _ _ 0 _ _ _ e13
  have ezz : w3.frozen? ⟨w.heap.size, 0, none⟩ = false := frozen_of_row _ _ 0 _ _ e13
  clear c5
  by_cases hlong : 20000 < rec.size
  · have hlI : (20000 : Int) < (rec.size : Int) := by omega
    have e12 := heap_setCell_same _ w.heap.size 0 _ _ (.int .i64 10) e13
    have r12 : (w3.setCell ⟨w.heap.size, 0, none⟩ (.int .i64 10)).cell? ⟨w.heap.size, 0, none⟩ = some (.int .i64 10) := cell_of_row _ _ 0 _ _ _ e12
    replace r12 := hid r12
    clear e12
    go_wp2_with fail
    refine leaves_cons (f := 42) (args := #[.pointer (some ⟨j, 0, none⟩), .pointer (some ⟨w.heap.size, 0, none⟩)]) (by simp) (by simp [go_sem]) ?_
    refine (caught_idle j w.heap.size _).mono ?_
    rintro e u' w'' ⟨rfl, rfl, rfl⟩
    refine ⟨.int .i64 10, ?_, by rw [← hxc.out, if_pos hlong], hf13.setCell _ (.inr (Nat.le_refl _)) _⟩
    have := r12.out
    simp [results, Tryz.results51, go_sem, this]
  · have hlI : ¬ (20000 : Int) < (rec.size : Int) := by omega
    go_wp2_with fail
    have hload3 : ∀ w' : World, Fr [] w3 w' → (Instr.loadAt 30 (.pointer (some ⟨j, 3, none⟩))).run Tryz.prog w' = _ := fun w' hf => load_cell 30 Tryz.underlying30 rfl (hf.cell j3 (by simp))
    replace hload3 := hid hload3
    refine wp_region_textS' (fun w' => Fr [] w3 w') [7] [] [] [(4, [])] (by kernel_rfl) (by kernel_rfl) (by kernel_rfl) (Fr.refl _ w3).drew ?_
    intro K hK
    simp only [cutAt, List.take_succ_cons, List.take_zero, List.drop_succ_cons, List.drop_zero, List.take_nil, List.drop_nil, wpSegs, List.map_cons, List.map_nil, List.nil_append, List.cons_append]
    have hfd : Fr [] w3 w3.drew := (Fr.refl [] w3).drew
    have j0d : w3.drew.cell? ⟨j, 0, none⟩ = _ := j0
    have j3d : w3.drew.cell? ⟨j, 3, none⟩ = _ := j3
    go_wp2_with fail
    refine (space_c j d k m s w3.drew j0d (hD3.fr hfd)).mono ?_
    rintro e w4 ⟨rfl, rfl⟩
    obtain ⟨L, hL⟩ : ∃ L, arL s.n = L := ⟨_, rfl⟩
    rw [hL] at hL1 hno ⊢
    replace hL := hid hL
    go_wp2_with fail
    refine ⟨fun w' => Fr [] w3 w', fun _ h => h, hfd, ?_⟩
    have hroomI : (64 * (L : Int) - (n : Int)) < (rec.size : Int) + 4 := by omega
    have hn63 : -9223372036854775808 ≤ 64 * (L : Int) - (n : Int) := by omega
    go_wp2_with fail
    refine ⟨trivial, hK _ _ (by kernel_rfl) ⟨fun o ho => ?_, trivial⟩ ?_⟩
    · cases ho
      exact gives_load rfl (fun w' h => hload3.out w' h)
    have e14 := (hfd.block w.heap.size (Array.getElem?_eq_some_iff.1 e13).1 (by simp)).trans e13
    have ez4 : w3.drew.cell? ⟨w.heap.size, 0, none⟩ = some (.int .i64 0) := ez
    have ezz4 : w3.drew.frozen? ⟨w.heap.size, 0, none⟩ = false := ezz
    have hf14 := hf13.then hfd
    clear j0d j3d j0 j3 hload3 ez ezz
    generalize w3.drew = w4 at *
    have e12 := heap_setCell_same _ w.heap.size 0 _ _ (.int .i64 140) e14
    have r12 : (w4.setCell ⟨w.heap.size, 0, none⟩ (.int .i64 140)).cell? ⟨w.heap.size, 0, none⟩ = some (.int .i64 140) := cell_of_row _ _ 0 _ _ _ e12
    replace r12 := hid r12
    clear e12
    go_wp2_with fail
    refine leaves_cons (f := 42) (args := #[.pointer (some ⟨j, 0, none⟩), .pointer (some ⟨w.heap.size, 0, none⟩)]) (by simp) (by simp [go_sem]) ?_
    refine (caught_idle j w.heap.size _).mono ?_
    rintro e u' w'' ⟨rfl, rfl, rfl⟩
    refine ⟨.int .i64 140, ?_, by rw [← hxc.out, if_neg hlong], hf14.setCell _ (.inr (Nat.le_refl _)) _⟩
    have := r12.out
    simp [results, Tryz.results51, go_sem, this]

theorem All_c (B j d k m hd ar : Nat) (recs : List ByteArray) (w : World) (hJ : IsJ w B j d k m hd ar recs) (hn : recs.length ≤ 1000000) :
    Calls Tryz.prog 64 #[.pointer (some ⟨j, 0, none⟩)] w fun e w' => ∃ v, e = .returned v ∧ OSs w' w.heap.size v recs ∧ Fr [] w w' := by
  obtain ⟨A, n, c, C, nc, cc, hblk, hRB, hnc, hOS, hA, hC⟩ := hJ.ex
  have j4 : w.cell? ⟨j, 4, none⟩ = some (.slice C nc cc) := cell_of_row _ _ 4 _ _ _ hblk
  obtain ⟨C', cc', hv, _, hR, _⟩ := hOS.form
  injection hv with h1 h2 h3
  subst h1 h2 h3
  clear hOS hC hA hblk
  go_enter Tryz.func64, Tryz.ntmps64
  go_wp2_with fail
  refine (Clone_s _ _ _ recs w hR (by omega)).mono ?_
  rintro e w1 ⟨v, rfl, hO, hf⟩
  go_wp2_with fail
  go_ret
  exact ⟨v, rfl, hO, hf⟩

end Go.Proofs.YtiialjncdhhceaaGreat
