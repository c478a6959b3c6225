/- The journal's Open of a disk that holds one. -/
import Derived.Test.YtiialjncdhhceaaGreatJrnReplace
namespace Go.Proofs.YtiialjncdhhceaaGreat
open Go.RowKit
set_option linter.unusedVariables false
set_option linter.unusedSimpArgs false

theorem sects_one (s : DSt) (f : Nat) : sects s f 1 = s.now f := by
  unfold sects
  simp

theorem recs_cnt (l : List ByteArray) : l.length ≤ (recsB l).length := by
  have := recsB_weight l
  have h2 : l.length * 16 ≤ weightL l := by
    clear this
    induction l with
    | nil => exact Nat.le_refl _
    | cons r l ih => rw [List.length_cons]; simp only [weightL]; omega
  omega
theorem head_get {l pre : List UInt8} {n : Nat} (h : l.take n = pre) (q : Nat) (hl : q < l.length) (hp : q < pre.length) : l[q] = pre[q] := by
  subst h
  rw [List.getElem_take]

set_option maxHeartbeats 4000000 in
set_option maxRecDepth 100000 in
theorem Open_ok (B d k m hd ar : Nat) (recs : List ByteArray) (s : DSt) (w : World) (hD : IsDisk w d k m s) (hH : Holds s hd ar recs) (hoff : s.off = false) (hB : B ≤ d ∧ B ≤ k ∧ B ≤ m ∧ B ≤ w.heap.size) :
    Calls Tryz.prog 36 #[.pointer (some ⟨d, 0, none⟩)] w fun e w' => ∃ j v, e = .returned (.tuple #[.pointer (some ⟨j, 0, none⟩), v, .int .i64 0]) ∧ IsJ w' B j d k m hd ar recs ∧ OSs w' w.heap.size v recs ∧ Fr [] w w' := by
  have hnle := hD.ok.n_le
  have hlts := hD.lts
  have hn8 := hH.n8
  have h0len := hD.ok.now_len 0
  have h1len := hD.ok.now_len (1 + hd)
  have hhd := hH.hd1
  have har := hH.ar1
  have hn8I : ¬ (s.n : Int) < 8 := by omega
  go_enter_defers Tryz.func36, Tryz.ntmps36
  go_wp2_with fail
  have hf1 : Fr [] w (w.alloc (.cells #[.int .i64 0] 24)) := (Fr.refl [] w).alloc _
  have he1 : (w.alloc (.cells #[.int .i64 0] 24)).heap[w.heap.size]? = some (.cells #[.int .i64 0] 24 (0, 0)) := heap_alloc_new _ _
  have hz1 : (w.alloc (.cells #[.int .i64 0] 24)).heap.size = w.heap.size + 1 := by simp
  generalize w.alloc (.cells #[.int .i64 0] 24) = w1 at *
  refine (Len_c d k m s w1 (hD.fr hf1)).mono ?_
  rintro e w2 ⟨rfl, rfl⟩
  go_wp2_with fail
  obtain ⟨j, hj⟩ : ∃ j, j = w.heap.size + 1 := ⟨_, rfl⟩
  rw [← hj]
  have hblk2 : (w1.alloc (.cells (jCells d 0 0 none 0 0 none 0 0 false) 85)).heap[j]? = some (.cells (jCells d 0 0 none 0 0 none 0 0 false) 85 (0, 0)) := by
    have := heap_alloc_new w1 (.cells (jCells d 0 0 none 0 0 none 0 0 false) 85)
    rw [hz1, ← hj] at this
    exact this
  have hf2 : Fr [] w1 (w1.alloc (.cells (jCells d 0 0 none 0 0 none 0 0 false) 85)) := (Fr.refl [] w1).alloc _
  have hz2 : (w1.alloc (.cells (jCells d 0 0 none 0 0 none 0 0 false) 85)).heap.size = w.heap.size + 2 := by simp [hz1]
  have e12 := (hf2.block w.heap.size (by omega) (by simp)).trans he1
  have hw3 : (w1.alloc (Obj.cells #[Value.pointer (some { block := d, off := 0 }), Value.int IntKind.i64 0, Value.int IntKind.i64 0, Value.slice none 0 0, Value.slice none 0 0, Value.bool false] 85)) = w1.alloc (.cells (jCells d 0 0 none 0 0 none 0 0 false) 85) := rfl
  rw [hw3]
  clear hw3
  generalize w1.alloc (.cells (jCells d 0 0 none 0 0 none 0 0 false) 85) = w3 at *
  have hD3 := (hD.fr hf1).fr hf2
  have hjw : w.heap.size < j ∧ j < w3.heap.size ∧ d < w.heap.size ∧ k < w.heap.size ∧ m < w.heap.size := by omega
  replace hj := hid hj
  refine (read_c j d k m 0 1 s w3 (cell_of_row _ _ 0 _ _ _ hblk2) hD3 hoff (by omega)).mono ?_
  rw [sects_one]
  rintro e w4 ⟨v4, rfl, hO4, hf4⟩
  obtain ⟨g4, cp4, rfl, hcp4, hg4, hg4l, hc4, hz4⟩ := hO4.pos (by omega)
  rw [h0len] at hcp4
  rw [h0len]
  have h9 := hH.sec0
  have hfirst : w4.cell? ⟨g4, 0, none⟩ = some (.int .u8 (hd : Int)) := by
    rw [hc4 0 (by omega)]
    have h1 : (s.now 0)[0]'(by omega) = UInt8.ofNat hd := by
      have := congrArg (fun x : List UInt8 => x[0]?) h9
      simpa [List.getElem?_take, List.getElem?_eq_getElem (show 0 < (s.now 0).length by omega)] using this
    rw [h1, UInt8.toNat_ofNat']
    congr 2
    omega
  have hsig : RB w4 (some ⟨g4, 1, none⟩) 8 signB := by
    refine ⟨rfl, by decide, .inr ⟨g4, 1, rfl, fun q hq => ?_⟩⟩
    have hq8 : q < 8 := hq
    rw [Nat.add_comm 1 q, hc4 (q + 1) (by omega), head_get h9 (q + 1) (by omega) (by simp; omega)]
    rfl
  have hstr : (convert 30 9 (.slice (some ⟨g4, 1, none⟩) 8 (cp4 - 1))).run Tryz.prog w4 = .ok (.string ⟨#[112, 97, 100, 100, 111, 99, 107, 33]⟩) w4 := run_str 30 5 9 Tryz.underlying30 Tryz.underlying5 Tryz.underlying9 hsig
  have hf04 := (hf1.then hf2).then hf4
  have hblk4 := (hf4.block j hjw.2.1 (by simp)).trans hblk2
  have hD4 := hD3.fr hf4
  have e14 := (hf4.block w.heap.size (by omega) (by simp)).trans e12
  have hhdI : (hd : Int) ≤ 1 := by omega
  have hcp4I : (9 : Int) ≤ (cp4 : Int) := by omega
  have hcp1 : ¬ cp4 = 1 := by omega
  have j1 : w4.cell? ⟨j, 1, none⟩ = some (.int .i64 0) := cell_of_row _ _ 1 _ _ _ hblk4
  have jz1 : w4.frozen? ⟨j, 1, none⟩ = false := frozen_of_row _ _ 1 _ _ hblk4
  have b5 := heap_setCell_same w4 j 1 _ _ (.int .i64 (hd : Int)) hblk4
  replace b5 := hid b5
  clear hc4 hz4 hO4 hsig
  go_wp2_with fail
  have hf5 : Fr [j] w4 (w4.setCell ⟨j, 1, none⟩ (.int .i64 (hd : Int))) := (Fr.refl [j] w4).setCell _ (.inl (by simp)) _
  have hblk5 : (w4.setCell ⟨j, 1, none⟩ (.int .i64 (hd : Int))).heap[j]? = some (.cells (jCells d hd 0 none 0 0 none 0 0 false) 85 (0, 0)) := b5.out.trans rfl
  have hz5 : (w4.setCell ⟨j, 1, none⟩ (.int .i64 (hd : Int))).heap.size = w4.heap.size := by simp
  clear j1 jz1 b5 hfirst hstr
  generalize w4.setCell ⟨j, 1, none⟩ (.int .i64 (hd : Int)) = w5 at *
  have hD5 := hD4.away hf5 (by simp; omega)
  have e15 := (hf5.block w.heap.size (by have := hf4.size; omega) (by simp; omega)).trans e14
  have hs4 := hf4.size
  have hcast : (1 : Int) + (hd : Int) = ((1 + hd : Nat) : Int) := by omega
  rw [hcast]
  refine (read_c j d k m (1 + hd) 1 s w5 (cell_of_row _ _ 0 _ _ _ hblk5) hD5 hoff (by omega)).mono ?_
  rw [sects_one]
  rintro e w6 ⟨v6, rfl, hO6, hf6⟩
  obtain ⟨g6, cp6, rfl, hcp6, hg6, hg6l, hc6, hz6⟩ := hO6.pos (by omega)
  rw [h1len] at hcp6
  rw [h1len]
  clear hcast
  have hh5 := hH.hdr
  obtain ⟨N, hN⟩ : ∃ N, (recsB recs).length = N := ⟨_, rfl⟩
  have hfit := hH.fits
  have hL1 : arL s.n ≤ 500 := by unfold arL; omega
  have hL2 : 2 * arL s.n + 8 ≤ s.n := by unfold arL; omega
  obtain ⟨L, hL⟩ : ∃ L, arL s.n = L := ⟨_, rfl⟩
  rw [hL] at hL1 hL2 hfit
  rw [hN] at hh5 hfit
  have harea : w6.cell? ⟨g6, 0, none⟩ = some (.int .u8 (ar : Int)) := by
    rw [hc6 0 (by omega), head_get hh5 0 (by omega) (by simp)]
    show some (Value.int .u8 ((UInt8.ofNat ar).toNat : Int)) = _
    rw [UInt8.toNat_ofNat']
    congr 2
    omega
  have hrest : RB w6 (some ⟨g6, 1, none⟩) 63 ((s.now (1 + hd)).drop 1) := by
    refine ⟨by rw [List.length_drop, h1len], by decide, .inr ⟨g6, 1, rfl, fun q hq => ?_⟩⟩
    rw [List.length_drop, h1len] at hq
    rw [hc6 (1 + q) (by omega), List.getElem_drop]
  have hget : getB (((s.now (1 + hd)).drop 1).take 4) = N := by
    have h1 : ((s.now (1 + hd)).drop 1).take 4 = putB N 4 := by
      have := congrArg (List.drop 1) hh5
      rw [List.drop_take] at this
      exact this
    rw [h1, getB_put N 4 (by decide)]
    exact Nat.mod_eq_of_lt (by omega)
  have hblk6 := (hf6.block j (by omega) (by simp)).trans hblk5
  have hD6 := hD5.fr hf6
  have e16 := (hf6.block w.heap.size (by omega) (by simp)).trans e15
  have hcp61 : ¬ cp6 = 1 := by omega
  have hcp6I : (64 : Int) ≤ (cp6 : Int) := by omega
  have hs6 := hf6.size
  replace hN := hid hN
  replace hL := hid hL
  clear hc6 hz6 hO6
  go_wp2_with fail
  refine (Get_ok (some ⟨g6, 1, none⟩) 63 (cp6 - 1) 4 4 _ w6 hrest (by omega) (by decide) (by decide)).mono ?_
  rw [hget]
  rintro e w7 ⟨v7, rfl, hR7, hf7⟩
  clear hR7 hget hrest
  have hblk7 := (hf7.block j (by omega) (by simp)).trans hblk6
  have hD7 := hD6.fr hf7
  have e17 := (hf7.block w.heap.size (by omega) (by simp)).trans e16
  have harea7 := hf7.cell harea (by simp)
  have hs7 := hf7.size
  have harI : (ar : Int) ≤ 1 := by omega
  have hNI : ¬ 64 * (L : Int) < (N : Int) := by omega
  go_wp2_with fail
  refine (space_c j d k m s w7 (cell_of_row _ _ 0 _ _ _ hblk7) hD7).mono ?_
  rw [hL.out]
  rintro e w8 ⟨rfl, rfl⟩
  have j2 : w8.cell? ⟨j, 2, none⟩ = some (.int .i64 0) := cell_of_row _ _ 2 _ _ _ hblk7
  have jz2 : w8.frozen? ⟨j, 2, none⟩ = false := frozen_of_row _ _ 2 _ _ hblk7
  have b9 := heap_setCell_same w8 j 2 _ _ (.int .i64 (ar : Int)) hblk7
  replace b9 := hid b9
  clear harea
  go_wp2_with fail
  have hf9 : Fr [j] w8 (w8.setCell ⟨j, 2, none⟩ (.int .i64 (ar : Int))) := (Fr.refl [j] w8).setCell _ (.inl (by simp)) _
  have hblk9 : (w8.setCell ⟨j, 2, none⟩ (.int .i64 (ar : Int))).heap[j]? = some (.cells (jCells d hd ar none 0 0 none 0 0 false) 85 (0, 0)) := b9.out.trans rfl
  have hz9 : (w8.setCell ⟨j, 2, none⟩ (.int .i64 (ar : Int))).heap.size = w8.heap.size := by simp
  clear j2 jz2 b9 harea7 hblk7
  generalize w8.setCell ⟨j, 2, none⟩ (.int .i64 (ar : Int)) = w9 at *
  have hD9 := hD7.away hf9 (by simp; omega)
  have e19 := (hf9.block w.heap.size (by omega) (by simp; omega)).trans e17
  have hfd : Fr [] w9 w9.drew := (Fr.refl [] w9).drew
  have hblk10 := (hfd.block j (by omega) (by simp)).trans hblk9
  have hD10 := hD9.fr hfd
  have e110 := (hfd.block w.heap.size (by omega) (by simp)).trans e19
  have hz10 : w9.drew.heap.size = w9.heap.size := rfl
  obtain ⟨M, hM⟩ : ∃ M, ar * L = M := ⟨_, rfl⟩
  have hMi : (ar : Int) * (L : Int) = (M : Int) := by rw [← hM, Int.natCast_mul]
  have hM2 : M ≤ L := by
    rw [← hM]
    rcases (show ar = 0 ∨ ar = 1 by omega) with h | h
    · rw [h]; omega
    · rw [h]; omega
  replace hM := hid hM
  have hc2 : w9.drew.cell? ⟨j, 2, none⟩ = some (.int .i64 (ar : Int)) := cell_of_row _ _ 2 _ _ _ hblk10
  refine wp_region_textS' (fun w' => w'.cell? ⟨j, 2, none⟩ = some (.int .i64 (ar : Int))) [5] [] [] [(8, []), (4, []), (1, []), (5, [])] (by kernel_rfl) (by kernel_rfl) (by kernel_rfl) hc2 ?_
  intro K hK
  simp only [cutAt, List.take_succ_cons, List.take_zero, List.drop_succ_cons, List.drop_zero, List.take_nil, List.drop_nil, wpSegs, List.map_cons, List.map_nil, List.nil_append, List.cons_append]
  generalize w9.drew = w10 at *
  have j0 : w10.cell? ⟨j, 0, none⟩ = some (.pointer (some ⟨d, 0, none⟩)) := cell_of_row _ _ 0 _ _ _ hblk10
  go_wp2_with fail
  refine (length_c j d k m s w10 j0 hD10).mono ?_
  rw [hL.out]
  rintro e w11 ⟨rfl, rfl⟩
  go_wp2_with fail
  refine ⟨_, fun _ h => h, hc2, ?_⟩
  go_wp2_with fail
  refine (length_c j d k m s _ j0 hD10).mono ?_
  rw [hL.out]
  rintro e w12 ⟨rfl, rfl⟩
  go_wp2_with fail
  refine ⟨_, fun _ h => h, hc2, ?_⟩
  go_wp2_with fail
  have hcast : (4 : Int) + (M : Int) = ((4 + M : Nat) : Int) := by omega
  rw [hcast]
  refine (read_c j d k m (4 + M) L s w12 j0 hD10 hoff (by omega)).mono ?_
  rintro e w13 ⟨v13, rfl, hO13, hf13⟩
  clear hcast
  obtain ⟨A8, c8, rfl, hc8, hr8, hz8⟩ := hO13.form
  have hlt8 := hO13.lt
  have hsl := sects_len hD.ok (4 + M) L
  rw [hsl] at hc8
  rw [hsl]
  have hdata : RB w13 A8 N (recsB recs) := by
    have h1 := hr8.take N (by rw [hsl]; omega)
    have h2 := hH.sects hD.ok
    rw [hN.out, hL.out, hM.out] at h2
    rw [h2] at h1
    exact h1
  have hA8 : ∀ x, A8 = some x → w12.heap.size ≤ x.block ∧ x.block < w13.heap.size := fun x hx => hlt8 _ (hz8 x hx).1
  clear hr8 hsl
  have hblk13 := (hf13.block j (by omega) (by simp)).trans hblk10
  have hD13 := hD10.fr hf13
  have e113 := (hf13.block w.heap.size (by omega) (by simp)).trans e110
  have hc213 := hf13.cell hc2 (by simp)
  have j3 : w13.cell? ⟨j, 3, none⟩ = some (.slice none 0 0) := cell_of_row _ _ 3 _ _ _ hblk13
  have jz3 : w13.frozen? ⟨j, 3, none⟩ = false := frozen_of_row _ _ 3 _ _ hblk13
  have hNc : (N : Int) ≤ (c8 : Int) := by omega
  have b14 := heap_setCell_same w13 j 3 _ _ (.slice A8 N c8) hblk13
  have hf14 : Fr [j] w13 (w13.setCell ⟨j, 3, none⟩ (.slice A8 N c8)) := (Fr.refl [j] w13).setCell _ (.inl (by simp)) _
  have hblk14 : (w13.setCell ⟨j, 3, none⟩ (.slice A8 N c8)).heap[j]? = some (.cells (jCells d hd ar A8 N c8 none 0 0 false) 85 (0, 0)) := b14.trans rfl
  have hc214 : (w13.setCell ⟨j, 3, none⟩ (.slice A8 N c8)).cell? ⟨j, 2, none⟩ = some (.int .i64 (ar : Int)) := cell_of_row _ _ 2 _ _ _ hblk14
  have hz14 : (w13.setCell ⟨j, 3, none⟩ (.slice A8 N c8)).heap.size = w13.heap.size := by simp
  have hs13 := hf13.size
  replace hc214 := hid hc214
  replace hblk14 := hid hblk14
  clear b14 j0
  go_wp2_with fail
  refine ⟨_, fun _ h => h, hc213, ?_⟩
  go_wp2_with fail
  refine ⟨_, fun _ h => h, hc214.out, ?_⟩
  go_wp2_with fail
  refine ⟨trivial, hK _ _ (by kernel_rfl) ⟨fun o ho => ?_, trivial⟩ ?_⟩
  · cases ho
    exact gives_load rfl (fun w' h => load_cell 3 Tryz.underlying3 rfl h)
  have hblk14' := hblk14.out
  have hD14 := hD13.away hf14 (by simp; omega)
  have e114 := (hf14.block w.heap.size (by omega) (by simp; omega)).trans e113
  have hdata14 := hdata.kept' hf14 (fun _ x hx => by have := hA8 x hx; simp; omega)
  clear hblk14 hc214 hc213 hc2 j3 jz3
  generalize w13.setCell ⟨j, 3, none⟩ (.slice A8 N c8) = w14 at *
  have k3 : w14.cell? ⟨j, 3, none⟩ = some (.slice A8 N c8) := cell_of_row _ _ 3 _ _ _ hblk14'
  go_wp2_with fail
  refine (parsed_c A8 N c8 recs w14 hdata14 (by omega) hH.sizes (by omega)).mono ?_
  rintro e w15 ⟨v15, rfl, hO15, hf15⟩
  obtain ⟨C, cc, rfl, hcc, hRS, hzC⟩ := hO15.form
  have hlt15 := hO15.lt
  obtain ⟨NR, hNR⟩ : ∃ NR, recs.length = NR := ⟨_, rfl⟩
  have hNRle : NR ≤ 1000000 := by
    have h1 := recs_cnt recs
    have h2 := hN.out
    omega
  rw [hNR] at hRS hcc hlt15
  rw [hNR]
  have hblk15 := (hf15.block j (by omega) (by simp)).trans hblk14'
  have hD15 := hD14.fr hf15
  have e115 := (hf15.block w.heap.size (by omega) (by simp)).trans e114
  have k4 : w15.cell? ⟨j, 4, none⟩ = some (.slice none 0 0) := cell_of_row _ _ 4 _ _ _ hblk15
  have kz4 : w15.frozen? ⟨j, 4, none⟩ = false := frozen_of_row _ _ 4 _ _ hblk15
  have b16 := heap_setCell_same w15 j 4 _ _ (.slice C NR cc) hblk15
  replace b16 := hid b16
  replace hNR := hid hNR
  clear k3
  have hf16 : Fr [j] w15 (w15.setCell ⟨j, 4, none⟩ (.slice C NR cc)) := (Fr.refl [j] w15).setCell _ (.inl (by simp)) _
  have hblk16 : (w15.setCell ⟨j, 4, none⟩ (.slice C NR cc)).heap[j]? = some (.cells (jCells d hd ar A8 N c8 C NR cc false) 85 (0, 0)) := b16.out.trans rfl
  have hz16 : (w15.setCell ⟨j, 4, none⟩ (.slice C NR cc)).heap.size = w15.heap.size := by simp
  have hs15 := hf15.size
  have hs12 : w12.heap.size ≤ w14.heap.size := by omega
  have hjs : j < w12.heap.size := by omega
  have hC15 : ∀ x, (Value.slice C NR cc).ownBlock = some x → w14.heap.size ≤ x ∧ x < w15.heap.size := fun x hx => hlt15 x hx
  have hOS16 : OSs (w15.setCell ⟨j, 4, none⟩ (.slice C NR cc)) B (.slice C NR cc) recs := by
    have h1 := hO15
    rw [hNR.out] at h1
    exact (h1.base (by omega)).kept hf16 (fun x hx => by have := hC15 x hx; simp; omega)
  have hdata16 := (hdata14.below hf15.all).kept' hf16 (fun _ x hx => by have := hA8 x hx; simp; omega)
  have hJ16 : IsJ (w15.setCell ⟨j, 4, none⟩ (.slice C NR cc)) B j d k m hd ar recs := by
    refine ⟨⟨A8, N, c8, C, NR, cc, hblk16, hdata16, by omega, hOS16, fun _ x hx => ?_, fun x hx => ?_⟩, by omega, by omega, by omega, by omega, by omega, by omega⟩
    · have h1 := hA8 x hx
      refine ⟨by omega, by omega, by omega, by omega, by omega, fun y hy => ?_⟩
      have h2 := hC15 y hy
      omega
    · have h2 := hC15 x hx
      omega
  have hD16 := hD15.away hf16 (by simp; omega)
  have e116 := (hf16.block w.heap.size (by omega) (by simp; omega)).trans e115
  replace hJ16 := hid hJ16
  replace hOS16 := hid hOS16
  replace hdata16 := hid hdata16
  replace hblk16 := hid hblk16
  go_wp2_with fail
  generalize w15.setCell ⟨j, 4, none⟩ (.slice C NR cc) = w16 at *
  refine (All_c B j d k m hd ar recs w16 hJ16.out (by have := hNR.out; omega)).mono ?_
  rintro e w17 ⟨v17, rfl, hO17, hf17⟩
  have e117 := (hf17.block w.heap.size (by omega) (by simp)).trans e116
  have ez0 : w17.cell? ⟨w.heap.size, 0, none⟩ = some (.int .i64 0) := cell_of_row _ _ 0 _ _ _ e117
  have ezz : w17.frozen? ⟨w.heap.size, 0, none⟩ = false := frozen_of_row _ _ 0 _ _ e117
  have e18 := heap_setCell_same _ w.heap.size 0 _ _ (.int .i64 0) e117
  have r18 : (w17.setCell ⟨w.heap.size, 0, none⟩ (.int .i64 0)).cell? ⟨w.heap.size, 0, none⟩ = some (.int .i64 0) := cell_of_row _ _ 0 _ _ _ e18
  have hf18 : Fr [w.heap.size] w17 (w17.setCell ⟨w.heap.size, 0, none⟩ (.int .i64 0)) := (Fr.refl [w.heap.size] w17).setCell _ (.inl (by simp)) _
  replace r18 := hid r18
  clear e18 k4 kz4
  go_wp2_with fail
  refine leaves_cons (f := 42) (args := #[.pointer (some ⟨j, 0, none⟩), .pointer (some ⟨w.heap.size, 0, none⟩)]) (by simp) (by simp [go_sem]) ?_
  refine (caught_idle j w.heap.size _).mono ?_
  rintro e u' w'' ⟨rfl, rfl, rfl⟩
  have hs16 : w15.heap.size = w16.heap.size := hz16.symm
  have hs17 := hf17.size
  have hjo : ∀ {a b : World}, Fr [j] a b → Fr [] w a → Fr [] w b := fun h1 h2 => h2.past h1 (by simp; omega)
  have hF5 : Fr [] w w5 := hjo hf5 hf04
  have hF9 := hjo hf9 ((hF5.then hf6).then hf7)
  have hF14 := hjo hf14 ((hF9.then hfd).then hf13)
  have hF16 := hjo hf16 (hF14.then hf15)
  have hF18 : Fr [] w (w17.setCell ⟨w.heap.size, 0, none⟩ (.int .i64 0)) := (hF16.then hf17).past hf18 (by simp)
  refine ⟨.tuple #[.pointer (some ⟨j, 0, none⟩), v17, .int .i64 0], ?_, j, v17, rfl, ?_, ?_, hF18⟩
  · have := r18.out
    simp [results, Tryz.results36, go_sem, this]
  · have hblk17 := (hf17.block j (by omega) (by simp)).trans hblk16.out
    refine ⟨⟨A8, N, c8, C, NR, cc, (hf18.block j (by omega) (by simp; omega)).trans hblk17, (hdata16.out.below hf17.all).kept' hf18 (fun _ x hx => by have := hA8 x hx; simp; omega), by omega, (hOS16.out.kept hf17 (by simp)).kept hf18 (fun x hx => by have := hC15 x hx; simp; omega), fun _ x hx => ?_, fun x hx => ?_⟩, by omega, by omega, by omega, by omega, by omega, by have := hF18.size; omega⟩
    · have h1 := hA8 x hx
      refine ⟨by omega, by omega, by omega, by omega, by omega, fun y hy => ?_⟩
      have h2 := hC15 y hy
      omega
    · have h2 := hC15 x hx
      omega
  · exact (hO17.base (by have := hF16.size; omega)).kept hf18 (fun x hx => by have := hO17.lt x hx; simp; omega)
end Go.Proofs.YtiialjncdhhceaaGreat
