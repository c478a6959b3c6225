/- What package paddocklaw14 asks of itself first ('known'): it is so. -/
import Derived.Test.YtiialjncdhhceaaJrnFormat
namespace Go.Proofs.Ytiialjncdhhceaa
open Go.RowKit
set_option linter.unusedVariables false
set_option linter.unusedSimpArgs false

set_option maxRecDepth 100000 in
theorem Format_small (d k m : Nat) (s : DSt) (w : World) (hD : IsDisk w d k m s) (hn : s.n < 8) :
    Calls Try.prog 55 #[.pointer (some ⟨d, 0, none⟩)] w fun e w' => e = .returned (.tuple #[.pointer none, .int .i64 140]) ∧ Fr [] w w' := by
  have hnI : (s.n : Int) < 8 := by omega
  go_enter_defers Try.func55, Try.ntmps55
  go_wp2_with fail
  have hf1 : Fr [] w ((w.alloc (.cells #[.pointer none] 80)).alloc (.cells #[.int .i64 0] 29)) := ((Fr.refl [] w).alloc _).alloc _
  have jv1 : ((w.alloc (.cells #[.pointer none] 80)).alloc (.cells #[.int .i64 0] 29)).heap[w.heap.size]? = some (.cells #[.pointer none] 80 (0, 0)) := (Below.heap_alloc _ _ _ (by simp)).trans (heap_alloc_new _ _)
  have ev1 : ((w.alloc (.cells #[.pointer none] 80)).alloc (.cells #[.int .i64 0] 29)).heap[w.heap.size + 1]? = some (.cells #[.int .i64 0] 29 (0, 0)) := by
    have h1 := heap_alloc_new (w.alloc (.cells #[.pointer none] 80)) (.cells #[.int .i64 0] 29)
    simpa using h1
  have hz1 : ((w.alloc (.cells #[.pointer none] 80)).alloc (.cells #[.int .i64 0] 29)).heap.size = w.heap.size + 2 := by simp
  generalize (w.alloc (.cells #[.pointer none] 80)).alloc (.cells #[.int .i64 0] 29) = w1 at *
  refine (Len_c d k m s w1 (hD.fr hf1)).mono ?_
  rintro e w2 ⟨rfl, rfl⟩
  have x1 : w1.cell? ⟨w.heap.size, 0, none⟩ = some (.pointer none) := cell_of_row _ _ 0 _ _ _ jv1
  have x1z : w1.frozen? ⟨w.heap.size, 0, none⟩ = false := frozen_of_row _ _ 0 _ _ jv1
  have x2 : w1.cell? ⟨w.heap.size + 1, 0, none⟩ = some (.int .i64 0) := cell_of_row _ _ 0 _ _ _ ev1
  have x2z : w1.frozen? ⟨w.heap.size + 1, 0, none⟩ = false := frozen_of_row _ _ 0 _ _ ev1
  have b13 := heap_setCell_same w1 w.heap.size 0 _ _ (.pointer none) jv1
  have hf13 : Fr [w.heap.size] w1 (w1.setCell ⟨w.heap.size, 0, none⟩ (.pointer none)) := (Fr.refl [w.heap.size] w1).setCell _ (.inl (by simp)) _
  have ev13 := (hf13.block (w.heap.size + 1) (by omega) (by simp)).trans ev1
  have hf14' : Fr [w.heap.size + 1] (w1.setCell ⟨w.heap.size, 0, none⟩ (.pointer none)) ((w1.setCell ⟨w.heap.size, 0, none⟩ (.pointer none)).setCell ⟨w.heap.size + 1, 0, none⟩ (.int .i64 140)) := (Fr.refl [w.heap.size + 1] _).setCell _ (.inl (by simp)) _
  have b14 := heap_setCell_same _ (w.heap.size + 1) 0 _ _ (.int .i64 140) ev13
  have r1 : ((w1.setCell ⟨w.heap.size, 0, none⟩ (.pointer none)).setCell ⟨w.heap.size + 1, 0, none⟩ (.int .i64 140)).cell? ⟨w.heap.size + 1, 0, none⟩ = some (.int .i64 140) := cell_of_row _ _ 0 _ _ _ b14
  have r2 : ((w1.setCell ⟨w.heap.size, 0, none⟩ (.pointer none)).setCell ⟨w.heap.size + 1, 0, none⟩ (.int .i64 140)).cell? ⟨w.heap.size, 0, none⟩ = some (.pointer none) :=
    cell_of_row _ _ 0 _ _ _ ((hf14'.block w.heap.size (by have := hf13.size; omega) (by simp)).trans (b13.trans rfl))
  replace r1 := hid r1
  replace r2 := hid r2
  clear b13 ev13 b14 jv1 ev1
  go_wp2_with fail
  refine ⟨.tuple #[.pointer none, .int .i64 140], ?_, rfl, (hf1.past hf13 (by simp)).past hf14' (by simp)⟩
  have e1 := r1.out
  have e2 := r2.out
  simp [results, Try.results55, go_sem, e1, e2]

theorem Broken_c (B j d k m hd ar : Nat) (recs : List ByteArray) (w : World) (hJ : IsJ w B j d k m hd ar recs) :
    Calls Try.prog 73 #[.pointer (some ⟨j, 0, none⟩)] w fun e w' => e = .returned (.bool false) ∧ w = w' := by
  obtain ⟨A, n, c, C, nc, cc, hblk, _⟩ := hJ.ex
  have j5 : w.cell? ⟨j, 5, none⟩ = some (.bool false) := cell_of_row _ _ 5 _ _ _ hblk
  clear hblk
  go_enter Try.func73, Try.ntmps73
  go_wp2
  go_ret
  exact ⟨rfl, rfl⟩

set_option maxHeartbeats 2000000 in
set_option maxRecDepth 100000 in
theorem known14_c (w : World) : Calls Try.prog 53 #[] w fun e w' => e = .returned (.bool true) ∧ Below w.heap.size w w' := by
  go_enter Try.func53, Try.ntmps53
  go_wp2_with fail
  refine (New_c 40 40 (by decide) w).mono ?_
  rintro e w1 ⟨d, k, m, rfl, hD1, hlo, hf1⟩
  have hs1 := hf1.size
  go_wp2_with fail
  refine (Format_new w.heap.size d k m _ w1 hD1 rfl (by decide) (fun _ => rfl) (by decide) (by omega)).mono ?_
  rintro e w2 ⟨j, rfl, hJ2, hD2, hf2⟩
  have hH2 : Holds (formS (DSt.new 40)) 0 0 [] := formS_holds _ (by decide) (fun _ => rfl)
  have hb2 : Below w.heap.size w w2 := (hf1.below (Nat.le_refl _) (by simp)).trans (hf2.below hs1 (by simp; omega))
  have q2 : (formS (DSt.new 40)).offAt = 0 ∧ (formS (DSt.new 40)).n = 40 ∧ (formS (DSt.new 40)).steps = 5 := ⟨rfl, rfl, rfl⟩
  generalize formS (DSt.new 40) = s2 at *
  go_wp2_with fail
  refine (Append_ok w.heap.size j d k m 0 0 [] ⟨#[97, 98]⟩ s2 w2 hJ2 hD2 hH2 q2.1 (by omega) (by decide) (by rw [q2.2.1]; decide) (by decide)).mono ?_
  rintro e w3 ⟨rfl, s3, hJ3, hD3, hH3, q31, q32, q33, hb3⟩
  have hrl : ([] : List ByteArray) ++ [⟨#[97, 98]⟩] = [⟨#[97, 98]⟩] := rfl
  rw [hrl] at hJ3 hH3
  clear hrl
  go_wp2_with fail
  refine (Append_ok w.heap.size j d k m (1 - 0) 0 [⟨#[97, 98]⟩] ⟨#[]⟩ s3 w3 hJ3 hD3 hH3 q31 (by omega) (by decide) (by rw [q32, q2.2.1]; decide) (by decide)).mono ?_
  rintro e w4 ⟨rfl, s4, hJ4, hD4, hH4, q41, q42, q43, hb4⟩
  have hrl : ([⟨#[97, 98]⟩] : List ByteArray) ++ [⟨#[]⟩] = [⟨#[97, 98]⟩, ⟨#[]⟩] := rfl
  rw [hrl] at hJ4 hH4
  clear hrl
  have hdk := hD4.lts
  have hlo4 := hJ4.lo
  go_wp2_with fail
  refine (Crash_c d k m s4 none 0 0 [] w4 hD4 (RB.nil _ _) (Nat.le_refl _) (by simp)).mono ?_
  rintro e w5 ⟨rfl, hD5, hf5⟩
  have hb5 : Below w.heap.size w4 w5 := hf5.below hlo4.2.2.2.2 (by simp; omega)
  have hs5 := hf5.size
  go_wp2_with fail
  refine (Open_ok w.heap.size d k m _ 0 _ (s4.crash []) w5 hD5 (hH4.crash []) (DSt.off_zero rfl) (by omega)).mono ?_
  rintro e w6 ⟨j6, v6, rfl, hJ6, hO6, hf6⟩
  obtain ⟨A6, c6, rfl, hc6, hR6, _⟩ := hO6.form
  have hl6 : ([⟨#[97, 98]⟩, ⟨#[]⟩] : List ByteArray).length = 2 := rfl
  rw [hl6] at hR6 hc6 ⊢
  obtain ⟨b6, off6, rfl, hcell⟩ : ∃ b off, A6 = some ⟨b, off, none⟩ ∧ ∀ j (h : j < ([⟨#[97, 98]⟩, ⟨#[]⟩] : List ByteArray).length), w6.cell? ⟨b, off + j, none⟩ = some (.string ([⟨#[97, 98]⟩, ⟨#[]⟩] : List ByteArray)[j]) := by
    rcases hR6.2.2 with h | h
    · cases h
    · exact h
  have cA := hcell 0 (by decide)
  have cB := hcell 1 (by decide)
  simp only [List.getElem_cons_zero, List.getElem_cons_succ, Nat.add_zero] at cA cB
  clear hcell hR6 hO6 hl6
  go_wp2_with fail
  refine (New_c 40 40 (by decide) w6).mono ?_
  rintro e w7 ⟨d7, k7, m7, rfl, hD7, hlo7, hf7⟩
  go_wp2_with fail
  refine (Open_none d7 k7 m7 0 [0, 0, 0, 0, 0, 0, 0, 0] _ w7 hD7 (DSt.off_zero rfl) (by decide) (by decide) rfl rfl (by decide)).mono ?_
  rintro e w8 ⟨rfl, hf8⟩
  go_wp2_with fail
  refine (New_c 3 3 (by decide) w8).mono ?_
  rintro e w9 ⟨d9, k9, m9, rfl, hD9, hlo9, hf9⟩
  go_wp2_with fail
  refine (Format_small d9 k9 m9 _ w9 hD9 (by decide)).mono ?_
  rintro e w10 ⟨rfl, hf10⟩
  have hf610 : Fr [] w6 w10 := ((hf7.then hf8).then hf9).then hf10
  have hJ10 := hJ6.fr hf610
  have cA' := hf610.cell cA (by simp)
  have cB' := hf610.cell cB (by simp)
  clear cA cB
  go_wp2_with fail
  refine (All_c w.heap.size j6 d k m _ 0 _ w10 hJ10 (by decide)).mono ?_
  rintro e w11 ⟨v11, rfl, hO11, hf11⟩
  obtain ⟨A11, c11, rfl, _, _, _⟩ := hO11.form
  have hl6 : ([⟨#[97, 98]⟩, ⟨#[]⟩] : List ByteArray).length = 2 := rfl
  rw [hl6]
  clear hl6 hO11
  go_wp2_with fail
  refine (Broken_c w.heap.size j6 d k m _ 0 _ w11 (hJ10.fr hf11)).mono ?_
  rintro e w12 ⟨rfl, rfl⟩
  go_wp2_with fail
  go_ret
  refine ⟨rfl, (((hb2.trans hb3).trans hb4).trans hb5).trans (((hf6.then hf610).then hf11).below (by omega) (by simp))⟩
end Go.Proofs.Ytiialjncdhhceaa
