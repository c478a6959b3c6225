/- The journal's Append, where the power may go. -/
import Derived.Test.YtiialjncdhhceaaGreatRunJrnOff
namespace Go.Proofs.YtiialjncdhhceaaGreat
open Go.RowKit
set_option linter.unusedVariables false
set_option linter.unusedSimpArgs false

/-- The journal's own row of records lies in block x. -/
def jRow (w : World) (j x : Nat) : Prop := ∃ v, w.cell? ⟨j, 4, none⟩ = some v ∧ v.ownBlock = some x
/-- What the journal's writers leave as it was: all but its own blocks; its row of records lies where it lay, or in new memory. -/
def JFs (w w' : World) (j d k m : Nat) : Prop := (∃ S, Fr S w w' ∧ ∀ x ∈ S, x = j ∨ x = d ∨ x = k ∨ x = m ∨ jRow w j x) ∧ ∀ x, jRow w' j x → jRow w j x ∨ w.heap.size ≤ x
theorem IsJ.row {w : World} {B j d k m hd ar : Nat} {recs : List ByteArray} (h : IsJ w B j d k m hd ar recs) {x : Nat} (hx : jRow w j x) : ∃ cs, w.heap[x]? = some (.cells cs 9 (0, 0)) := by
  obtain ⟨A, n, c, C, nc, cc, h1, _, _, h4, _⟩ := h.ex
  obtain ⟨v, hv, ho⟩ := hx
  have h5 : w.cell? ⟨j, 4, none⟩ = some (.slice C nc cc) := cell_of_row _ _ 4 _ _ _ h1
  rw [h5] at hv
  injection hv with hv
  subst hv
  exact h4.cells x (by simp [ho])
theorem JFs.jfr {w w' : World} {B j d k m hd ar : Nat} {recs : List ByteArray} (h : JFs w w' j d k m) (hJ : IsJ w B j d k m hd ar recs) : JFr w w' j d k m := by
  obtain ⟨⟨S, hf, hS⟩, _⟩ := h
  refine ⟨S, hf, fun x hx => ?_⟩
  rcases hS x hx with h | h | h | h | h
  · exact .inl h
  · exact .inr (.inl h)
  · exact .inr (.inr (.inl h))
  · exact .inr (.inr (.inr (.inl h)))
  · exact .inr (.inr (.inr (.inr (hJ.row h))))
/-- A journal that is broken; what its disk holds behind a crash: what there was, or what there was to be. -/
def Dead (w w' : World) (B j d k m : Nat) (s : DSt) (hd ar : Nat) (recs : List ByteArray) (hd' ar' : Nat) (recs' : List ByteArray) : Prop :=
  s.offAt ≠ 0 ∧ ∃ s', (∃ A n c C nc cc, w'.heap[j]? = some (.cells (jCells d hd ar A n c C nc cc true) 85 (0, 0))) ∧ IsDisk w' d k m s' ∧ s'.n = s.n ∧ s'.steps ≤ s.steps + 1004 ∧ (∀ ch, Holds (s'.crash ch) hd ar recs ∨ Holds (s'.crash ch) hd' ar' recs') ∧ Below B w w' ∧ JFs w w' j d k m
theorem dead_mk {w8 : World} (j e d hd ar : Nat) (A : Option Addr) (n c : Nat) (C : Option Addr) (nc cc : Nat) (E : TypeId) (hblk : w8.heap[j]? = some (.cells (jCells d hd ar A n c C nc cc false) 85 (0, 0))) (he : w8.heap[e]? = some (.cells #[.int .i64 0] E (0, 0))) (hne : e ≠ j) :
    ((w8.setCell ⟨e, 0, none⟩ (.int .i64 131)).setCell ⟨j, 5, none⟩ (.bool true)).heap[j]? = some (.cells (jCells d hd ar A n c C nc cc true) 85 (0, 0)) ∧
    ((w8.setCell ⟨e, 0, none⟩ (.int .i64 131)).setCell ⟨j, 5, none⟩ (.bool true)).cell? ⟨e, 0, none⟩ = some (.int .i64 131) ∧ (w8.setCell ⟨e, 0, none⟩ (.int .i64 131)).cell? ⟨e, 0, none⟩ = some (.int .i64 131) ∧ Fr [e, j] w8 ((w8.setCell ⟨e, 0, none⟩ (.int .i64 131)).setCell ⟨j, 5, none⟩ (.bool true)) := by
  have hf1 : Fr [e] w8 (w8.setCell ⟨e, 0, none⟩ (.int .i64 131)) := (Fr.refl [e] w8).setCell _ (.inl (by simp)) _
  have b0 := heap_setCell_same w8 e 0 _ _ (.int .i64 131) he
  have hblk1 := (hf1.block j (Array.getElem?_eq_some_iff.1 hblk).1 (by simp; omega)).trans hblk
  generalize w8.setCell ⟨e, 0, none⟩ (.int .i64 131) = w9 at *
  have hf2 : Fr [j] w9 (w9.setCell ⟨j, 5, none⟩ (.bool true)) := (Fr.refl [j] w9).setCell _ (.inl (by simp)) _
  have b1 := heap_setCell_same w9 j 5 _ _ (.bool true) hblk1
  have b2 := (hf2.block e (Array.getElem?_eq_some_iff.1 b0).1 (by simp; omega)).trans b0
  exact ⟨b1.trans rfl, (cell_of_row _ _ 0 _ _ _ b2).trans rfl, (cell_of_row _ _ 0 _ _ _ b0).trans rfl, (hf1.mono (by simp)).trans hf2 (by simp)⟩

set_option maxHeartbeats 4000000 in
set_option maxRecDepth 100000 in
theorem Append_p (B j d k m hd ar : Nat) (recs : List ByteArray) (rec : ByteArray) (s : DSt) (w : World) (hJ : IsJ w B j d k m hd ar recs) (hD : IsDisk w d k m s) (hH : Holds s hd ar recs) (hst : s.steps ≤ 900000000)
    (hsz : rec.size ≤ 20000) (hroom : (recsB recs).length + (rec.size + 4) ≤ 64 * arL s.n) (hcnt : recs.length ≤ 900000) :
    Calls Tryz.prog 51 #[.pointer (some ⟨j, 0, none⟩), .string rec] w fun e w' => (e = .returned (.int .i64 0) ∧ ∃ s', IsJ w' B j d k m (1 - hd) ar (recs ++ [rec]) ∧ IsDisk w' d k m s' ∧ Holds s' (1 - hd) ar (recs ++ [rec]) ∧ s'.offAt = s.offAt ∧ s'.off = false ∧ s'.n = s.n ∧ s'.steps ≤ s.steps + 1004 ∧ Below B w w' ∧ JFs w w' j d k m) ∨ (e = .returned (.int .i64 131) ∧ Dead w w' B j d k m s hd ar recs (1 - hd) ar (recs ++ [rec])) := by
  obtain ⟨A, n, c, C, nc, cc, hblk, hRB, hnc, hOS, hA, hC⟩ := hJ.ex
  have hap := hJ.apart
  have hlo := hJ.lo
  have hln := hRB.1
  have hnle := hD.ok.n_le
  have hL1 : arL s.n ≤ 500 := by unfold arL; omega
  have hlts0 := hD.lts
  have hz29 : ∀ w : World, (zeroValue 24).run Tryz.prog w = .ok (.int .i64 0) w := fun w => by rfl
  go_enter_defers Tryz.func51, Tryz.ntmps51
  go_wp2_with fail
  have hjl : j < w.heap.size := (Array.getElem?_eq_some_iff.1 hblk).1
  have hf1 : Fr [] w (w.alloc (.cells #[.int .i64 0] 24)) := (Fr.refl [] w).alloc _
  have he1 : (w.alloc (.cells #[.int .i64 0] 24)).heap[w.heap.size]? = some (.cells #[.int .i64 0] 24 (0, 0)) := heap_alloc_new _ _
  have hz1 : (w.alloc (.cells #[.int .i64 0] 24)).heap.size = w.heap.size + 1 := by simp
  generalize w.alloc (.cells #[.int .i64 0] 24) = w1 at *
  have hblk1 := (hf1.block j hjl (by simp)).trans hblk
  have hD1 := hD.fr hf1
  have hRB1 := hRB.below hf1.all
  have hOS1 := hOS.kept hf1 (by simp)
  have c5 : w1.cell? ⟨j, 5, none⟩ = some (.bool false) := cell_of_row _ _ 5 _ _ _ hblk1
  refine (ready_c j w1 c5).mono ?_
  rintro e w2 ⟨rfl, rfl⟩
  go_wp2_with fail
  refine (record_c w.heap.size rec (by omega) w2 (by omega)).mono ?_
  rintro e w3 ⟨v3, rfl, hO3, hf3, hn3⟩
  have hrl := recB_len rec
  obtain ⟨A3, c3, rfl, hc3, hr3, hz3⟩ := hO3.form
  have hlt3 := hO3.lt
  rw [hrl] at hr3 hc3
  rw [hrl]
  have hf13 := hf1.then hf3
  have hblk3 := (hf3.block j (by omega) (by simp)).trans hblk1
  have hD3 := hD1.fr hf3
  have hRB3 := hRB1.below hf3.all
  have hOS3 := hOS1.kept hf3 (by simp)
  have e13 := (hf3.block w.heap.size (by omega) (by simp)).trans he1
  have j0 : w3.cell? ⟨j, 0, none⟩ = some (.pointer (some ⟨d, 0, none⟩)) := cell_of_row _ _ 0 _ _ _ hblk3
  have j3 : w3.cell? ⟨j, 3, none⟩ = some (.slice A n c) := cell_of_row _ _ 3 _ _ _ hblk3
  have hsz' : ¬ (20000 : Int) < (rec.size : Int) := by omega
  clear c5 hz29
  go_wp2_with fail
  have hload3 : ∀ w' : World, Fr [] w3 w' → (Instr.loadAt 30 (.pointer (some ⟨j, 3, none⟩))).run Tryz.prog w' = _ := fun w' hf => load_cell 30 Tryz.underlying30 rfl (hf.cell j3 (by simp))
  replace hload3 := hid hload3
  refine wp_region_textS' (fun w' => Fr [] w3 w') [7] [] [] [(4, [])] (by kernel_rfl) (by kernel_rfl) (by kernel_rfl) (Fr.refl _ w3).drew ?_
  intro K hK
  simp only [cutAt, List.take_succ_cons, List.take_zero, List.drop_succ_cons, List.drop_zero, List.take_nil, List.drop_nil, wpSegs, List.map_cons, List.map_nil, List.nil_append, List.cons_append]
  have hfd : Fr [] w3 w3.drew := (Fr.refl [] w3).drew
  have j0d : w3.drew.cell? ⟨j, 0, none⟩ = _ := j0
  have j3d : w3.drew.cell? ⟨j, 3, none⟩ = _ := j3
  go_wp2_with fail
  refine (space_c j d k m s w3.drew j0d (hD3.fr hfd)).mono ?_
  rintro e w4 ⟨rfl, rfl⟩
  obtain ⟨L, hL⟩ : ∃ L, arL s.n = L := ⟨_, rfl⟩
  rw [hL] at hL1 hroom ⊢
  replace hL := hid hL
  go_wp2_with fail
  refine ⟨fun w' => Fr [] w3 w', fun _ h => h, hfd, ?_⟩
  have hroomI : ¬ (64 * (L : Int) - (n : Int)) < (rec.size : Int) + 4 := by omega
  have hroomI2 : ¬ (64 * (L : Int) - (n : Int)) < ((rec.size + 4 : Nat) : Int) := by omega
  go_wp2_with fail
  refine ⟨trivial, hK _ _ (by kernel_rfl) ⟨fun o ho => ?_, trivial⟩ ?_⟩
  · cases ho
    exact gives_load rfl (fun w' h => hload3.out w' h)
  have hf14 := hf13.then hfd
  have hblk4 := (hfd.block j (by have := hf13.size; omega) (by simp)).trans hblk3
  have hD4 := hD3.fr hfd
  have hRB4 := hRB3.below hfd.all
  have hOS4 := hOS3.kept hfd (by simp)
  have hr4 := hr3.below hfd.all
  have e14 := (hfd.block w.heap.size (by have := hf13.size; have := hf3.size; omega) (by simp)).trans e13
  clear j0d j3d j0 j3 hload3 hroomI hroomI2 hRB3 hOS3 hr3 e13 hD3 hblk3
  have hs34 := hf3.size
  have hs4 : w3.heap.size ≤ w3.drew.heap.size := hfd.size
  generalize w3.drew = w4 at *
  have k3 : w4.cell? ⟨j, 3, none⟩ = some (.slice A n c) := cell_of_row _ _ 3 _ _ _ hblk4
  go_wp2_with fail
  have hcb : (w4.alloc (.cells #[.slice A n c, .slice A3 (rec.size + 4) c3] 30)).heap[w4.heap.size]? = some (.cells #[.slice A n c, .slice A3 (rec.size + 4) c3] 30 (0, 0)) := heap_alloc_new _ _
  have hf5 : Fr [] w4 (w4.alloc (.cells #[.slice A n c, .slice A3 (rec.size + 4) c3] 30)) := (Fr.refl [] w4).alloc _
  generalize w4.alloc (.cells #[.slice A n c, .slice A3 (rec.size + 4) c3] 30) = w5 at *
  refine (Concat_c w4.heap.size A n c _ A3 (rec.size + 4) c3 _ w5 (cell_of_row _ _ 0 _ _ _ hcb) (cell_of_row _ _ 1 _ _ _ hcb) (hRB4.below hf5.all) (hr4.below hf5.all) (by omega) (by omega)).mono ?_
  rintro e w6 ⟨v6, rfl, hO6, hf6⟩
  have hrecs : recsB recs ++ recB rec = recsB (recs ++ [rec]) := by rw [recsB_append, recsB_cons]; simp [recsB]
  rw [hrecs] at hO6
  obtain ⟨N, hN⟩ : ∃ N, (recsB (recs ++ [rec])).length = N := ⟨_, rfl⟩
  have hNe : N = n + (rec.size + 4) := by rw [← hN, ← hrecs, List.length_append, hln, hrl]
  obtain ⟨A6, c6, rfl, hc6, hr6, hz6⟩ := hO6.form
  have hlt6 := hO6.lt
  rw [hN] at hr6 hc6
  rw [hN]
  have hf46 := hf5.then hf6
  have hf16 := hf14.then hf46
  have hlts4 := hD4.lts
  have hj4 : j < w4.heap.size := (Array.getElem?_eq_some_iff.1 hblk4).1
  have hblk6 := (hf46.block j hj4 (by simp)).trans hblk4
  have hD6 := hD4.fr hf46
  have hOS6 := hOS4.kept hf46 (by simp)
  have e16 := (hf46.block w.heap.size (by omega) (by simp)).trans e14
  have hA6 : ∀ x, A6 = some x → w5.heap.size ≤ x.block := fun x hx => (hlt6 _ (hz6 x hx).1).1
  have hs5 : w4.heap.size ≤ w5.heap.size := hf5.size
  replace hNe := hid hNe
  replace hN := hid hN
  replace hrecs := hid hrecs
  have m2 : w6.cell? ⟨j, 2, none⟩ = some (.int .i64 (ar : Int)) := cell_of_row _ _ 2 _ _ _ hblk6
  have m3 : w6.cell? ⟨j, 3, none⟩ = some (.slice A n c) := cell_of_row _ _ 3 _ _ _ hblk6
  clear k3 hcb hRB4 hr4 hOS4 e14 hD4 hblk4
  go_wp2_with fail
  refine wp_region_textX (n0 := 11) (fun w' => w'.cell? ⟨j, 2, none⟩ = some (.int .i64 (ar : Int))) [4] [] [] [] rfl (by kernel_rfl) (by kernel_rfl) (by kernel_rfl) (by kernel_rfl) m2 ?_
  intro K2 hK2
  simp only [cutAt, List.take_succ_cons, List.take_zero, List.drop_succ_cons, List.drop_zero, List.take_nil, List.drop_nil, wpSegs, List.map_cons, List.map_nil, List.nil_append, List.cons_append]
  have hfd6 : Fr [] w6 w6.drew := (Fr.refl [] w6).drew
  have hblk7 := (hfd6.block j (Array.getElem?_eq_some_iff.1 hblk6).1 (by simp)).trans hblk6
  have hD7 := hD6.fr hfd6
  have hOS7 := hOS6.kept hfd6 (by simp)
  have hr7 := hr6.below hfd6.all
  have e17 := (hfd6.block w.heap.size (Array.getElem?_eq_some_iff.1 e16).1 (by simp)).trans e16
  have hf17 := hf16.then hfd6
  have m2d : w6.drew.cell? ⟨j, 2, none⟩ = _ := m2
  have m3d : w6.drew.cell? ⟨j, 3, none⟩ = _ := m3
  clear m2 m3 hblk6 hD6 hOS6 hr6 e16
  generalize w6.drew = w7 at *
  have hlts7 := hD7.lts
  go_wp2_with fail
  refine ⟨trivial, hK2 _ _ (by kernel_rfl) ⟨fun o ho => ?_, trivial⟩ ?_⟩
  · cases ho
    exact gives_load rfl (fun w' h => load_cell 3 Tryz.underlying3 rfl h)
  simp only [List.drop_succ_cons, List.drop_zero]
  go_wp2_with fail
  have hov : Over recs (recs ++ [rec]) ar ar := fun _ => ⟨by have := hNe.out; have := hN.out; omega, fun p hp => by rw [← hrecs.out, List.getElem?_append_left hp]⟩
  have hnL : N ≤ 64 * arL s.n := by have := hNe.out; rw [hL.out]; omega
  have hholdA : ∀ p, p < n / 64 * 64 → p < (recsB (recs ++ [rec])).length → (s.now (4 + ar * arL s.n + p / 64))[p % 64]? = (recsB (recs ++ [rec]))[p]? := fun p hp hp2 => by rw [hH.body p (by omega), ← hrecs.out, List.getElem?_append_left (by omega)]
  have hLs : arL s.n ≤ 500 := by rw [hL.out]; exact hL1
  replace hov := hid hov
  replace hholdA := hid hholdA
  refine (lays_p j d k m ar n s A6 N c6 _ w7 (cell_of_row _ _ 0 _ _ _ hblk7) hap hD7 hr7 hc6 (by intro _ x hx; have := hA6 x hx; omega) hH.ar1 hH.n8 hnL (by have := hNe.out; omega) (by omega) hH.clean).mono ?_
  rintro e w8 ⟨hf8, q, hq0, hqL, hqq, hcase⟩
  have hj7 : j < w7.heap.size := (Array.getElem?_eq_some_iff.1 hblk7).1
  have hblk8 := (hf8.block j hj7 (by simp; omega)).trans hblk7
  have hOS8 := hOS7.kept hf8 (fun x hx => by have := hC x hx; simp; omega)
  have hr8 := hr7.kept' hf8 (by intro _ x hx; have := hA6 x hx; simp; omega)
  have e18 := (hf8.block w.heap.size (Array.getElem?_eq_some_iff.1 e17).1 (by simp; omega)).trans e17
  have hwj : w.heap.size ≠ j := by omega
  have hlast : q = n / 64 ∨ (q - 1) * 64 < (recsB (recs ++ [rec])).length := by rw [hN.out]; exact hqq
  replace hlast := hid hlast
  obtain ⟨s1, hs1⟩ : ∃ s1, s1 = layS s (4 + ar * arL s.n) (n / 64) q (recsB (recs ++ [rec])) := ⟨_, rfl⟩
  rw [← hs1] at hcase
  have hs1n : s1.n = s.n := by rw [hs1]; rfl
  have hs1s : s1.steps ≤ s.steps + 1000 := by rw [hs1]; show s.steps + (q - n / 64) ≤ _; omega
  have hs1o : s1.offAt = s.offAt := by rw [hs1]; rfl
  replace hs1 := hid hs1
  rcases hcase with ⟨rfl, hqe, hD8⟩ | ⟨rfl, hoffx, hDx⟩
  rotate_left
  · clear m2d m3d
    have hfx : Fr [d, k, m] w w8 := (hf17.mono (by simp)).trans hf8 (by intro x hx; left; simp at hx; rcases hx with rfl | rfl <;> simp)
    have hdm := dead_mk j w.heap.size d hd ar A n c C nc cc _ hblk8 e18 (by omega)
    have k5 : w8.cell? ⟨j, 5, none⟩ = some (.bool false) := cell_of_row _ _ 5 _ _ _ hblk8
    have k5z : w8.frozen? ⟨j, 5, none⟩ = false := frozen_of_row _ _ 5 _ _ hblk8
    have f0 : w8.cell? ⟨w.heap.size, 0, none⟩ = some (.int .i64 0) := cell_of_row _ _ 0 _ _ _ e18
    have f0z : w8.frozen? ⟨w.heap.size, 0, none⟩ = false := frozen_of_row _ _ 0 _ _ e18
    unfold offE
    replace hdm := hid hdm
    go_wp2_with fail
    refine leaves_cons (f := 42) (args := #[.pointer (some ⟨j, 0, none⟩), .pointer (some ⟨w.heap.size, 0, none⟩)]) (by simp) (by simp [go_sem]) ?_
    refine (caught_panic j w.heap.size 131 0 false [] _ k5 k5z f0 f0z (by omega)).mono ?_
    rintro e u' w'' ⟨rfl, rfl, rfl⟩
    obtain ⟨g1, g2, g4, g3⟩ := hdm.out
    refine ⟨.int .i64 131, ?_, .inr ⟨rfl, (by rw [← hs1o]; exact offnz hoffx), s1.step, ⟨A, n, c, C, nc, cc, g1⟩, ?_, hs1n, by show s1.steps + 1 ≤ _; omega, fun ch => .inl (by rw [hs1.out]; have hdk := hDx.ok; rw [hs1.out] at hdk; exact lay_off hH hD.ok hH.ar1 hqL hov.out hlast.out hdk ch), ?_, ?_⟩⟩
    · simp [results, Tryz.results51, go_sem, g2, g4]
    · exact hDx.away g3 (by simp; omega)
    · exact (hfx.below hlo.2.2.2.2 (by simp; omega)).trans (g3.below (by have := hfx.size; have := hlo.2.2.2.2; omega) (by simp; omega))
    · refine ⟨⟨[j, d, k, m], (hfx.mono (by intro x hx; left; simp at hx; rcases hx with rfl | rfl | rfl <;> simp)).trans g3 (fun x hx => by simp at hx; rcases hx with rfl | rfl; right; exact Nat.le_refl _; left; simp), fun x hx => by simp at hx; rcases hx with h | h | h | h <;> simp [h]⟩, fun x hx => ?_⟩
      obtain ⟨v, hv, ho⟩ := hx
      exact .inl ⟨v, (cell_of_row _ _ 4 _ _ _ hblk).trans ((cell_of_row _ _ 4 _ _ _ g1).symm.trans hv), ho⟩
  clear m2d m3d
  have m2 : w8.cell? ⟨j, 2, none⟩ = some (.int .i64 (ar : Int)) := cell_of_row _ _ 2 _ _ _ hblk8
  go_wp2_with fail
  have hn8 := hH.n8
  refine (counts_p j d k m hd ar ar A n c C nc cc false s1 A6 N c6 w8 hblk8 hap hD8 hH.hd1 hH.ar1 (by omega) (by have := hNe.out; omega) (by omega)).mono ?_
  have hH2' : Holds (countsS s1 (1 - hd) ([UInt8.ofNat ar] ++ putB N 4)) (1 - hd) ar (recs ++ [rec]) := by
    rw [hs1.out, ← hN.out]
    refine holds_lay hH hD.ok hH.ar1 hq0 (by rw [hN.out]; exact hqe) hlast.out (by omega) ?_ (by rw [hN.out]; exact hnL) hholdA.out
    intro x hx
    rcases List.mem_append.1 hx with h | h
    · exact hH.sizes x h
    · simp at h
      rw [h]
      exact hsz
  have hkeep : Keep s s1 hd ar recs := by rw [hs1.out]; exact keep_lay hH hD.ok hH.ar1 hqL hov.out hlast.out
  replace hkeep := hid hkeep
  replace hH2' := hid hH2'
  rintro e w9 (⟨rfl, hD9, hblk9, hf9, hon⟩ | ⟨rfl, sx, hCx, hDx, hf9⟩)
  rotate_left
  · have hj8 : j < w8.heap.size := (Array.getElem?_eq_some_iff.1 hblk8).1
    have hblk9 := (hf9.block j hj8 (by simp; omega)).trans hblk8
    have e19 := (hf9.block w.heap.size (Array.getElem?_eq_some_iff.1 e18).1 (by simp; omega)).trans e18
    have hfx : Fr [d, k, m] w w9 := ((hf17.mono (by simp)).trans hf8 (by intro x hx; left; simp at hx; rcases hx with rfl | rfl <;> simp)).trans hf9 (fun x hx => .inl hx)
    have hsx : sx.n = s1.n ∧ sx.steps ≤ s1.steps + 4 := by
      cases hCx
      · exact ⟨rfl, by show s1.steps + 1 ≤ _; omega⟩
      · exact ⟨rfl, by show s1.steps + 1 + 1 ≤ _; omega⟩
      · exact ⟨rfl, by show s1.steps + 1 + 1 + 1 ≤ _; omega⟩
      · exact ⟨rfl, by show s1.steps + 1 + 1 + 1 + 1 ≤ _; omega⟩
    clear m2
    have hdm := dead_mk j w.heap.size d hd ar A n c C nc cc _ hblk9 e19 (by omega)
    have k5 : w9.cell? ⟨j, 5, none⟩ = some (.bool false) := cell_of_row _ _ 5 _ _ _ hblk9
    have k5z : w9.frozen? ⟨j, 5, none⟩ = false := frozen_of_row _ _ 5 _ _ hblk9
    have f0 : w9.cell? ⟨w.heap.size, 0, none⟩ = some (.int .i64 0) := cell_of_row _ _ 0 _ _ _ e19
    have f0z : w9.frozen? ⟨w.heap.size, 0, none⟩ = false := frozen_of_row _ _ 0 _ _ e19
    unfold offE
    replace hdm := hid hdm
    go_wp2_with fail
    refine leaves_cons (f := 42) (args := #[.pointer (some ⟨j, 0, none⟩), .pointer (some ⟨w.heap.size, 0, none⟩)]) (by simp) (by simp [go_sem]) ?_
    refine (caught_panic j w.heap.size 131 0 false [] _ k5 k5z f0 f0z (by omega)).mono ?_
    rintro e u' w'' ⟨rfl, rfl, rfl⟩
    obtain ⟨g1, g2, g4, g3⟩ := hdm.out
    refine ⟨.int .i64 131, ?_, .inr ⟨rfl, (by have hz : s1.offAt ≠ 0 := (by cases hCx <;> assumption); rw [hs1o] at hz; exact hz), sx, ⟨A, n, c, C, nc, cc, g1⟩, ?_, hsx.1.trans hs1n, by omega, fun ch => counts_off hkeep.out hH hD.ok hCx hDx.ok hH2'.out ch, ?_, ?_⟩⟩
    · simp [results, Tryz.results51, go_sem, g2, g4]
    · exact hDx.away g3 (by simp; omega)
    · exact (hfx.below hlo.2.2.2.2 (by simp; omega)).trans (g3.below (by have := hfx.size; have := hlo.2.2.2.2; omega) (by simp; omega))
    · refine ⟨⟨[j, d, k, m], (hfx.mono (by intro x hx; left; simp at hx; rcases hx with rfl | rfl | rfl <;> simp)).trans g3 (fun x hx => by simp at hx; rcases hx with rfl | rfl; right; exact Nat.le_refl _; left; simp), fun x hx => by simp at hx; rcases hx with h | h | h | h <;> simp [h]⟩, fun x hx => ?_⟩
      obtain ⟨v, hv, ho⟩ := hx
      exact .inl ⟨v, (cell_of_row _ _ 4 _ _ _ hblk).trans ((cell_of_row _ _ 4 _ _ _ g1).symm.trans hv), ho⟩
  obtain ⟨s2, hs2⟩ : ∃ s2, s2 = countsS s1 (1 - hd) ([UInt8.ofNat ar] ++ putB N 4) := ⟨_, rfl⟩
  have hH2 := hH2'.out
  rw [← hs2] at hD9 hon hH2
  have q2 : s2.offAt = s.offAt ∧ s2.n = s.n ∧ s2.steps ≤ s.steps + 1004 := by
    rw [hs2]
    refine ⟨hs1o, hs1n, ?_⟩
    show s1.steps + 1 + 1 + 1 + 1 ≤ _
    omega
  clear hs2
  have hj8 : j < w8.heap.size := (Array.getElem?_eq_some_iff.1 hblk8).1
  have hOS9 := hOS8.kept hf9 (fun x hx => by have := hC x hx; simp; omega)
  have hr9 := hr8.kept' hf9 (by intro _ x hx; have := hA6 x hx; simp; omega)
  have e19 := (hf9.block w.heap.size (Array.getElem?_eq_some_iff.1 e18).1 (by simp; omega)).trans e18
  have m4 : w9.cell? ⟨j, 4, none⟩ = some (.slice C nc cc) := cell_of_row _ _ 4 _ _ _ hblk9
  have hs9 : w.heap.size < w9.heap.size := by
    have := (Array.getElem?_eq_some_iff.1 e19).1
    exact this
  clear m2 hOS7 hOS8 hr8 hr7 e17 e18 hblk7 hblk8 hD7
  go_wp2_with (at_builtin; refine stop_append rfl ?_)
  refine Stop.go (appStr1 B rfl _ _ rfl hOS9 rec rfl rfl (by omega) (by omega) ?_)
  intro v10 w10 hOS10 hf10 hn10
  have hown : ∀ x, (Value.slice C nc cc).ownBlock = some x → B ≤ x := fun x hx => (hOS9.lt x hx).1
  have hjo : ∀ x ∈ (Value.slice C nc cc).ownBlock.toList, x ≠ j ∧ x ≠ d ∧ x ≠ k ∧ x ≠ m ∧ B ≤ x ∧ x < w9.heap.size := fun x hx => by
    have h1 := hC x (by simpa using hx)
    have h2 := hOS9.lt x (by simpa using hx)
    omega
  have hCl : ∀ x, (Value.slice C nc cc).ownBlock = some x → x < w.heap.size := fun x hx => (hOS.lt x hx).2
  obtain ⟨C', cc', hv10, hcc', hRS', hzC'⟩ := hOS10.form
  obtain ⟨M, hM⟩ : ∃ M, (recs ++ [rec]).length = M := ⟨_, rfl⟩
  rw [hM] at hv10
  subst hv10
  replace hM := hid hM
  clear hRS' hcc'
  have hj9 : j < w9.heap.size := (Array.getElem?_eq_some_iff.1 hblk9).1
  have hblk10 := (hf10.block j hj9 (fun h => (hjo j h).1 rfl)).trans hblk9
  have hD10 := hD9.away hf10 ⟨fun h => (hjo d h).2.1 rfl, fun h => (hjo k h).2.2.1 rfl, fun h => (hjo m h).2.2.2.1 rfl⟩
  have e10 := (hf10.block w.heap.size hs9 (fun h => by have := hCl w.heap.size (by simpa using h); omega)).trans e19
  have hA6l : ∀ x, A6 = some x → x.block < w9.heap.size := fun x hx => by
    have h1 := (hlt6 _ (hz6 x hx).1).2
    have h2 := hfd6.size
    have h3 := hf8.size
    have h4 := hf9.size
    have h5 := (hf17.size)
    omega
  have hr10 := hr9.kept' hf10 (fun h0 x hx h => by have h1 := hCl x.block (by simpa using h); have h2 := hA6 x hx; have h3 := hf14.size; omega)
  have hown' : ∀ x, (Value.slice C' M cc').ownBlock = some x → x ≠ j ∧ x ≠ d ∧ x ≠ k ∧ x ≠ m ∧ x ≠ w.heap.size ∧ B ≤ x ∧ (∀ y, A6 = some y → y.block ≠ x) := fun x hx => by
    have hl9 := hD9.lts
    have hB := (hOS10.lt x hx).1
    rcases hn10 x hx with h | h
    · have h1 := hC x h
      have h2 := hCl x h
      refine ⟨h1.1, h1.2.1, h1.2.2.1, h1.2.2.2, by omega, hB, fun y hy => ?_⟩
      have h3 := hA6 y hy
      have h4 := hf14.size
      omega
    · refine ⟨by omega, by omega, by omega, by omega, by omega, hB, fun y hy => ?_⟩
      have h3 := hA6l y hy
      omega
  have j4 : w10.cell? ⟨j, 4, none⟩ = some (.slice C nc cc) := cell_of_row _ _ 4 _ _ _ hblk10
  have jz : w10.frozen? ⟨j, 4, none⟩ = false := frozen_of_row _ _ 4 _ _ hblk10
  have ez0 : w10.cell? ⟨w.heap.size, 0, none⟩ = some (.int .i64 0) := cell_of_row _ _ 0 _ _ _ e10
  have ezz : w10.frozen? ⟨w.heap.size, 0, none⟩ = false := frozen_of_row _ _ 0 _ _ e10
  have b1 := heap_setCell_same w10 j 4 _ _ (.slice C' M cc') hblk10
  have hf11 : Fr [j] w10 (w10.setCell ⟨j, 4, none⟩ (.slice C' M cc')) := (Fr.refl [j] w10).setCell _ (.inl (by simp)) _
  have hf12 : Fr [w.heap.size] (w10.setCell ⟨j, 4, none⟩ (.slice C' M cc')) ((w10.setCell ⟨j, 4, none⟩ (.slice C' M cc')).setCell ⟨w.heap.size, 0, none⟩ (.int .i64 0)) := (Fr.refl [w.heap.size] _).setCell _ (.inl (by simp)) _
  have hje : ¬ j = w.heap.size := by omega
  have e11 := (hf11.block w.heap.size (Array.getElem?_eq_some_iff.1 e10).1 (by simp; omega)).trans e10
  have e12 := heap_setCell_same _ w.heap.size 0 _ _ (.int .i64 0) e11
  have r12 : ((w10.setCell ⟨j, 4, none⟩ (.slice C' M cc')).setCell ⟨w.heap.size, 0, none⟩ (.int .i64 0)).cell? ⟨w.heap.size, 0, none⟩ = some (.int .i64 0) := cell_of_row _ _ 0 _ _ _ e12
  replace b1 := hid b1
  replace e11 := hid e11
  replace e12 := hid e12
  replace hown' := hid hown'
  replace r12 := hid r12
  clear m4
  go_wp2_with fail
  refine leaves_cons (f := 42) (args := #[.pointer (some ⟨j, 0, none⟩), .pointer (some ⟨w.heap.size, 0, none⟩)]) (by simp) (by simp [go_sem]) ?_
  refine (caught_idle j w.heap.size _).mono ?_
  rintro e u' w'' ⟨rfl, rfl, rfl⟩
  refine ⟨.int .i64 0, ?_, .inl ⟨rfl, s2, ?_, ?_, hH2, q2.1, hon, q2.2.1, q2.2.2, ?_, ?_⟩⟩
  · have := r12.out
    simp [results, Tryz.results51, go_sem, this]
  · have hl9 := hD9.lts
    have hj10 : j < w10.heap.size := (Array.getElem?_eq_some_iff.1 hblk10).1
    have hA6' : ∀ x, A6 = some x → x.block ≠ j ∧ x.block ≠ d ∧ x.block ≠ k ∧ x.block ≠ m ∧ x.block ≠ w.heap.size ∧ B ≤ x.block := fun x hx => by
      have h2 := hA6 x hx
      have h3 := hf14.size
      omega
    refine ⟨⟨A6, N, c6, C', M, cc', (hf12.block j (Nat.lt_of_lt_of_le hj10 hf11.size) (by simp; omega)).trans (b1.out.trans rfl), (hr10.kept' hf11 (fun _ x hx => by have := hA6' x hx; simp; omega)).kept' hf12 (fun _ x hx => by have := hA6' x hx; simp; omega), hc6,
      (hOS10.kept hf11 (fun x hx => by have := hown'.out x hx; simp; omega)).kept hf12 (fun x hx => by have := hown'.out x hx; simp; omega), fun _ x hx => ?_, fun x hx => ?_⟩, hap, hlo.1, hlo.2.1, hlo.2.2.1, hlo.2.2.2.1, ?_⟩
    · have h1 := hA6' x hx
      exact ⟨h1.2.2.2.2.2, h1.1, h1.2.1, h1.2.2.1, h1.2.2.2.1, fun y hy => (hown'.out y hy).2.2.2.2.2.2 x hx⟩
    · have h1 := hown'.out x hx
      exact ⟨h1.1, h1.2.1, h1.2.2.1, h1.2.2.2.1⟩
    · have h1 := hf10.size
      have h2 := hf11.size
      have h3 := hf12.size
      omega
  · exact (hD10.away hf11 (by simp; omega)).away hf12 (by simp; omega)
  · have h7 := hf17.size
    have h8 := hf8.size
    have h9 := hf9.size
    have h10 := hf10.size
    have h11 := hf11.size
    exact (((((hf17.below hlo.2.2.2.2 (by simp)).trans (hf8.below (by omega) (by simp; omega))).trans (hf9.below (by omega) (by simp; omega))).trans (hf10.below (by omega) (fun x hx => (hjo x hx).2.2.2.2.1))).trans (hf11.below (by omega) (by simp; omega))).trans (hf12.below (by omega) (by simp; omega))
  · have hcells := hOS.cells
    refine ⟨⟨[j, d, k, m] ++ (Value.slice C nc cc).ownBlock.toList, ?_, fun x hx => ?_⟩, fun x hx => ?_⟩
    · have h7 := hf17.size
      have h8 := hf8.size
      have h9 := hf9.size
      have h10 := hf10.size
      have h11 := hf11.size
      refine (((((hf17.mono (by simp)).trans hf8 (fun x hx => ?_)).trans hf9 (fun x hx => ?_)).trans hf10 (fun x hx => ?_)).trans hf11 (fun x hx => ?_)).trans hf12 (fun x hx => ?_)
      · left; simp at hx; rcases hx with rfl | rfl <;> simp
      · left; exact List.mem_append_left _ hx
      · left; exact List.mem_append_right _ hx
      · left; simp at hx; subst hx; simp
      · right; simp at hx; omega
    · rcases List.mem_append.1 hx with h | h
      · simp at h
        rcases h with h | h | h | h <;> simp [h]
      · exact .inr (.inr (.inr (.inr ⟨.slice C nc cc, cell_of_row _ _ 4 _ _ _ hblk, by simpa using h⟩)))
    · obtain ⟨v, hv, ho⟩ := hx
      have hj10 : j < w10.heap.size := (Array.getElem?_eq_some_iff.1 hblk10).1
      have hrow := (hf12.block j (Nat.lt_of_lt_of_le hj10 hf11.size) (by simp; omega)).trans (b1.out.trans rfl)
      have h4 := (cell_of_row _ _ 4 _ _ _ hrow).symm.trans hv
      have h4' : some (Value.slice C' M cc') = some v := h4
      injection h4' with h4'
      subst h4'
      rcases hn10 x ho with h | h
      · exact .inl ⟨.slice C nc cc, cell_of_row _ _ 4 _ _ _ hblk, h⟩
      · have h7 := hf17.size
        have h8 := hf8.size
        have h9 := hf9.size
        exact .inr (by omega)

end Go.Proofs.YtiialjncdhhceaaGreat
