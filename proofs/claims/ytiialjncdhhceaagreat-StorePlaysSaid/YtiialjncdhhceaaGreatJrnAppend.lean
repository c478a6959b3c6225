/- The journal's Append. -/
import Derived.Test.YtiialjncdhhceaaGreatJrnHolds
namespace Go.Proofs.YtiialjncdhhceaaGreat
open Go.RowKit
set_option linter.unusedVariables false
set_option linter.unusedSimpArgs false

/-- A journal in memory: its own block j over the disk d, k, m; all of the call's own, from block B on. -/
structure IsJ (w : World) (B j d k m hd ar : Nat) (recs : List ByteArray) : Prop where
  ex : ∃ A n c C nc cc, w.heap[j]? = some (.cells (jCells d hd ar A n c C nc cc false) 85 (0, 0)) ∧ RB w A n (recsB recs) ∧ n ≤ c ∧ OSs w B (.slice C nc cc) recs ∧
    (n ≠ 0 → ∀ a, A = some a → B ≤ a.block ∧ a.block ≠ j ∧ a.block ≠ d ∧ a.block ≠ k ∧ a.block ≠ m ∧ ∀ x, (Value.slice C nc cc).ownBlock = some x → a.block ≠ x) ∧
    (∀ x, (Value.slice C nc cc).ownBlock = some x → x ≠ j ∧ x ≠ d ∧ x ≠ k ∧ x ≠ m)
  apart : j ≠ d ∧ j ≠ k ∧ j ≠ m
  lo : B ≤ j ∧ B ≤ d ∧ B ≤ k ∧ B ≤ m ∧ B ≤ w.heap.size
theorem IsJ.fr {w w' : World} {B j d k m hd ar : Nat} {recs : List ByteArray} (h : IsJ w B j d k m hd ar recs) (hf : Fr [] w w') : IsJ w' B j d k m hd ar recs := by
  obtain ⟨A, n, c, C, nc, cc, h1, h2, h3, h4, h5, h6⟩ := h.ex
  exact ⟨⟨A, n, c, C, nc, cc, (hf.block j (Array.getElem?_eq_some_iff.1 h1).1 (by simp)).trans h1, h2.below hf.all, h3, h4.kept hf (by simp), h5, h6⟩, h.apart, ⟨h.lo.1, h.lo.2.1, h.lo.2.2.1, h.lo.2.2.2.1, Nat.le_trans h.lo.2.2.2.2 hf.size⟩⟩
/-- The disk turned; the journal is as it was. -/
theorem IsJ.disk {w w' : World} {B j d k m hd ar : Nat} {recs : List ByteArray} (h : IsJ w B j d k m hd ar recs) (hf : Fr [d, k, m] w w') : IsJ w' B j d k m hd ar recs := by
  obtain ⟨A, n, c, C, nc, cc, h1, h2, h3, h4, h5, h6⟩ := h.ex
  have ha := h.apart
  exact ⟨⟨A, n, c, C, nc, cc, (hf.block j (Array.getElem?_eq_some_iff.1 h1).1 (by simp; omega)).trans h1, h2.kept' hf (fun h0 a e => by have := h5 h0 a e; simp; omega), h3, h4.kept hf (fun x e => by have := h6 x e; simp; omega), h5, h6⟩, h.apart, ⟨h.lo.1, h.lo.2.1, h.lo.2.2.1, h.lo.2.2.2.1, Nat.le_trans h.lo.2.2.2.2 hf.size⟩⟩

/-- What the journal's writers leave as it was: all but its own blocks and rows of strings. -/
def JFr (w w' : World) (j d k m : Nat) : Prop := ∃ S, Fr S w w' ∧ ∀ x ∈ S, x = j ∨ x = d ∨ x = k ∨ x = m ∨ ∃ cs, w.heap[x]? = some (.cells cs 9 (0, 0))
theorem OSs.cells {w : World} {base : Nat} {v : Value} {l : List ByteArray} (h : OSs w base v l) : ∀ x ∈ v.ownBlock.toList, ∃ cs, w.heap[x]? = some (.cells cs 9 (0, 0)) := by
  intro x hx
  rcases h.2 with ⟨rfl, _⟩ | ⟨g, cap, cur, rfl, _, hg, _⟩
  · simp [Value.ownBlock] at hx
  · simp [Value.ownBlock] at hx
    subst hx
    exact ⟨cur, hg⟩

set_option maxHeartbeats 4000000 in
set_option maxRecDepth 100000 in
theorem Append_okF (B j d k m hd ar : Nat) (recs : List ByteArray) (rec : ByteArray) (s : DSt) (w : World) (hJ : IsJ w B j d k m hd ar recs) (hD : IsDisk w d k m s) (hH : Holds s hd ar recs) (hoff : s.offAt = 0) (hst : s.steps ≤ 900000000)
    (hsz : rec.size ≤ 20000) (hroom : (recsB recs).length + (rec.size + 4) ≤ 64 * arL s.n) (hcnt : recs.length ≤ 900000) :
    Calls Tryz.prog 51 #[.pointer (some ⟨j, 0, none⟩), .string rec] w fun e w' => e = .returned (.int .i64 0) ∧ ∃ s', IsJ w' B j d k m (1 - hd) ar (recs ++ [rec]) ∧ IsDisk w' d k m s' ∧ Holds s' (1 - hd) ar (recs ++ [rec]) ∧ s'.offAt = 0 ∧ s'.n = s.n ∧ s'.steps ≤ s.steps + 1004 ∧ Below B w w' ∧ JFr w w' j d k m := by
  obtain ⟨A, n, c, C, nc, cc, hblk, hRB, hnc, hOS, hA, hC⟩ := hJ.ex
  have hap := hJ.apart
  have hlo := hJ.lo
  have hln := hRB.1
  have hnle := hD.ok.n_le
  have hL1 : arL s.n ≤ 500 := by unfold arL; omega
  have hlts0 := hD.lts
  have hz29 : ∀ w : World, (zeroValue 24).run Tryz.prog w = .ok (.int .i64 0) w := fun w => by rfl
  go_enter_defers Tryz.func51, Tryz.ntmps51
  go_wp2_with fail
  have hjl : j < w.heap.size := (Array.getElem?_eq_some_iff.1 hblk).1
  have hf1 : Fr [] w (w.alloc (.cells #[.int .i64 0] 24)) := (Fr.refl [] w).alloc _
  have he1 : (w.alloc (.cells #[.int .i64 0] 24)).heap[w.heap.size]? = some (.cells #[.int .i64 0] 24 (0, 0)) := heap_alloc_new _ _
  have hz1 : (w.alloc (.cells #[.int .i64 0] 24)).heap.size = w.heap.size + 1 := by simp
  generalize w.alloc (.cells #[.int .i64 0] 24) = w1 at *
  have hblk1 := (hf1.block j hjl (by simp)).trans hblk
  have hD1 := hD.fr hf1
  have hRB1 := hRB.below hf1.all
  have hOS1 := hOS.kept hf1 (by simp)
  have c5 : w1.cell? ⟨j, 5, none⟩ = some (.bool false) := cell_of_row _ _ 5 _ _ _ hblk1
  refine (ready_c j w1 c5).mono ?_
  rintro e w2 ⟨rfl, rfl⟩
  go_wp2_with fail
  refine (record_c w.heap.size rec (by omega) w2 (by omega)).mono ?_
  rintro e w3 ⟨v3, rfl, hO3, hf3, hn3⟩
  have hrl := recB_len rec
  obtain ⟨A3, c3, rfl, hc3, hr3, hz3⟩ := hO3.form
  have hlt3 := hO3.lt
  rw [hrl] at hr3 hc3
  rw [hrl]
  have hf13 := hf1.then hf3
  have hblk3 := (hf3.block j (by omega) (by simp)).trans hblk1
  have hD3 := hD1.fr hf3
  have hRB3 := hRB1.below hf3.all
  have hOS3 := hOS1.kept hf3 (by simp)
  have e13 := (hf3.block w.heap.size (by omega) (by simp)).trans he1
  have j0 : w3.cell? ⟨j, 0, none⟩ = some (.pointer (some ⟨d, 0, none⟩)) := cell_of_row _ _ 0 _ _ _ hblk3
  have j3 : w3.cell? ⟨j, 3, none⟩ = some (.slice A n c) := cell_of_row _ _ 3 _ _ _ hblk3
  have hsz' : ¬ (20000 : Int) < (rec.size : Int) := by omega
  clear c5 hz29
  go_wp2_with fail
  have hload3 : ∀ w' : World, Fr [] w3 w' → (Instr.loadAt 30 (.pointer (some ⟨j, 3, none⟩))).run Tryz.prog w' = _ := fun w' hf => load_cell 30 Tryz.underlying30 rfl (hf.cell j3 (by simp))
  replace hload3 := hid hload3
  refine wp_region_textS' (fun w' => Fr [] w3 w') [7] [] [] [(4, [])] (by kernel_rfl) (by kernel_rfl) (by kernel_rfl) (Fr.refl _ w3).drew ?_
  intro K hK
  simp only [cutAt, List.take_succ_cons, List.take_zero, List.drop_succ_cons, List.drop_zero, List.take_nil, List.drop_nil, wpSegs, List.map_cons, List.map_nil, List.nil_append, List.cons_append]
  have hfd : Fr [] w3 w3.drew := (Fr.refl [] w3).drew
  have j0d : w3.drew.cell? ⟨j, 0, none⟩ = _ := j0
  have j3d : w3.drew.cell? ⟨j, 3, none⟩ = _ := j3
  go_wp2_with fail
  refine (space_c j d k m s w3.drew j0d (hD3.fr hfd)).mono ?_
  rintro e w4 ⟨rfl, rfl⟩
  obtain ⟨L, hL⟩ : ∃ L, arL s.n = L := ⟨_, rfl⟩
  rw [hL] at hL1 hroom ⊢
  replace hL := hid hL
  go_wp2_with fail
  refine ⟨fun w' => Fr [] w3 w', fun _ h => h, hfd, ?_⟩
  have hroomI : ¬ (64 * (L : Int) - (n : Int)) < (rec.size : Int) + 4 := by omega
  have hroomI2 : ¬ (64 * (L : Int) - (n : Int)) < ((rec.size + 4 : Nat) : Int) := by omega
  go_wp2_with fail
  refine ⟨trivial, hK _ _ (by kernel_rfl) ⟨fun o ho => ?_, trivial⟩ ?_⟩
  · cases ho
    exact gives_load rfl (fun w' h => hload3.out w' h)
  have hf14 := hf13.then hfd
  have hblk4 := (hfd.block j (by have := hf13.size; omega) (by simp)).trans hblk3
  have hD4 := hD3.fr hfd
  have hRB4 := hRB3.below hfd.all
  have hOS4 := hOS3.kept hfd (by simp)
  have hr4 := hr3.below hfd.all
  have e14 := (hfd.block w.heap.size (by have := hf13.size; have := hf3.size; omega) (by simp)).trans e13
  clear j0d j3d j0 j3 hload3 hroomI hroomI2 hRB3 hOS3 hr3 e13 hD3 hblk3
  have hs34 := hf3.size
  have hs4 : w3.heap.size ≤ w3.drew.heap.size := hfd.size
  generalize w3.drew = w4 at *
  have k3 : w4.cell? ⟨j, 3, none⟩ = some (.slice A n c) := cell_of_row _ _ 3 _ _ _ hblk4
  go_wp2_with fail
  have hcb : (w4.alloc (.cells #[.slice A n c, .slice A3 (rec.size + 4) c3] 30)).heap[w4.heap.size]? = some (.cells #[.slice A n c, .slice A3 (rec.size + 4) c3] 30 (0, 0)) := heap_alloc_new _ _
  have hf5 : Fr [] w4 (w4.alloc (.cells #[.slice A n c, .slice A3 (rec.size + 4) c3] 30)) := (Fr.refl [] w4).alloc _
  generalize w4.alloc (.cells #[.slice A n c, .slice A3 (rec.size + 4) c3] 30) = w5 at *
  refine (Concat_c w4.heap.size A n c _ A3 (rec.size + 4) c3 _ w5 (cell_of_row _ _ 0 _ _ _ hcb) (cell_of_row _ _ 1 _ _ _ hcb) (hRB4.below hf5.all) (hr4.below hf5.all) (by omega) (by omega)).mono ?_
  rintro e w6 ⟨v6, rfl, hO6, hf6⟩
  have hrecs : recsB recs ++ recB rec = recsB (recs ++ [rec]) := by rw [recsB_append, recsB_cons]; simp [recsB]
  rw [hrecs] at hO6
  obtain ⟨N, hN⟩ : ∃ N, (recsB (recs ++ [rec])).length = N := ⟨_, rfl⟩
  have hNe : N = n + (rec.size + 4) := by rw [← hN, ← hrecs, List.length_append, hln, hrl]
  obtain ⟨A6, c6, rfl, hc6, hr6, hz6⟩ := hO6.form
  have hlt6 := hO6.lt
  rw [hN] at hr6 hc6
  rw [hN]
  have hf46 := hf5.then hf6
  have hf16 := hf14.then hf46
  have hlts4 := hD4.lts
  have hj4 : j < w4.heap.size := (Array.getElem?_eq_some_iff.1 hblk4).1
  have hblk6 := (hf46.block j hj4 (by simp)).trans hblk4
  have hD6 := hD4.fr hf46
  have hOS6 := hOS4.kept hf46 (by simp)
  have e16 := (hf46.block w.heap.size (by omega) (by simp)).trans e14
  have hA6 : ∀ x, A6 = some x → w5.heap.size ≤ x.block := fun x hx => (hlt6 _ (hz6 x hx).1).1
  have hs5 : w4.heap.size ≤ w5.heap.size := hf5.size
  replace hNe := hid hNe
  replace hN := hid hN
  replace hrecs := hid hrecs
  have m2 : w6.cell? ⟨j, 2, none⟩ = some (.int .i64 (ar : Int)) := cell_of_row _ _ 2 _ _ _ hblk6
  have m3 : w6.cell? ⟨j, 3, none⟩ = some (.slice A n c) := cell_of_row _ _ 3 _ _ _ hblk6
  clear k3 hcb hRB4 hr4 hOS4 e14 hD4 hblk4
  go_wp2_with fail
  refine wp_region_text' (by kernel_rfl) (by kernel_rfl) ?_
  intro K2 hK2
  have hfd6 : Fr [] w6 w6.drew := (Fr.refl [] w6).drew
  have hblk7 := (hfd6.block j (Array.getElem?_eq_some_iff.1 hblk6).1 (by simp)).trans hblk6
  have hD7 := hD6.fr hfd6
  have hOS7 := hOS6.kept hfd6 (by simp)
  have hr7 := hr6.below hfd6.all
  have e17 := (hfd6.block w.heap.size (Array.getElem?_eq_some_iff.1 e16).1 (by simp)).trans e16
  have hf17 := hf16.then hfd6
  have m2d : w6.drew.cell? ⟨j, 2, none⟩ = _ := m2
  have m3d : w6.drew.cell? ⟨j, 3, none⟩ = _ := m3
  clear m2 m3 hblk6 hD6 hOS6 hr6 e16
  generalize w6.drew = w7 at *
  go_wp2_with fail
  refine (lays_c j d k m ar n s A6 N c6 _ w7 (cell_of_row _ _ 0 _ _ _ hblk7) hap hD7 hr7 hc6 (by intro _ x hx; have := hA6 x hx; omega) hH.ar1 hH.n8 (by have := hNe.out; rw [hL.out]; omega) (by have := hNe.out; omega) hoff (by omega)).mono ?_
  rintro e w8 ⟨rfl, s1, hD8, hLd, hf8⟩
  have hj7 : j < w7.heap.size := (Array.getElem?_eq_some_iff.1 hblk7).1
  have hblk8 := (hf8.block j hj7 (by simp; omega)).trans hblk7
  have hOS8 := hOS7.kept hf8 (fun x hx => by have := hC x hx; simp; omega)
  have hr8 := hr7.kept' hf8 (by intro _ x hx; have := hA6 x hx; simp; omega)
  have e18 := (hf8.block w.heap.size (Array.getElem?_eq_some_iff.1 e17).1 (by simp; omega)).trans e17
  clear m2d m3d
  go_wp2_with fail
  refine hK2 _ _ (by kernel_rfl) ?_
  have m2 : w8.cell? ⟨j, 2, none⟩ = some (.int .i64 (ar : Int)) := cell_of_row _ _ 2 _ _ _ hblk8
  go_wp2_with fail
  have hsteps1 := hLd.steps
  have hn1 := hLd.n
  have hn8 := hH.n8
  refine (counts_c j d k m hd ar ar A n c C nc cc false s1 A6 N c6 w8 hblk8 hap hD8 hH.hd1 hH.ar1 (by omega) (by have := hNe.out; omega) (by omega) hLd.offAt).mono ?_
  obtain ⟨s2, hs2⟩ : ∃ s2, s2 = countsS s1 (1 - hd) ([UInt8.ofNat ar] ++ putB N 4) := ⟨_, rfl⟩
  rw [← hs2]
  have hH2 : Holds s2 (1 - hd) ar (recs ++ [rec]) := by
    rw [hs2, ← hN.out]
    refine holds_next hH hD.ok hH.ar1 hLd ?_ (by rw [hN.out, hL.out]; have := hNe.out; omega) (fun p hp hp2 => ?_)
    · intro x hx
      rcases List.mem_append.1 hx with h | h
      · exact hH.sizes x h
      · simp at h
        rw [h]
        exact hsz
    · rw [hH.body p (by omega), ← hrecs.out, List.getElem?_append_left (by omega)]
  have q2 : s2.offAt = 0 ∧ s2.n = s.n ∧ s2.steps ≤ s.steps + 1004 := by
    rw [hs2]
    refine ⟨hLd.offAt, hLd.n, ?_⟩
    show s1.steps + 1 + 1 + 1 + 1 ≤ _
    omega
  clear hs2
  rintro e w9 ⟨rfl, hD9, hblk9, hf9⟩
  have hj8 : j < w8.heap.size := (Array.getElem?_eq_some_iff.1 hblk8).1
  have hOS9 := hOS8.kept hf9 (fun x hx => by have := hC x hx; simp; omega)
  have hr9 := hr8.kept' hf9 (by intro _ x hx; have := hA6 x hx; simp; omega)
  have e19 := (hf9.block w.heap.size (Array.getElem?_eq_some_iff.1 e18).1 (by simp; omega)).trans e18
  have m4 : w9.cell? ⟨j, 4, none⟩ = some (.slice C nc cc) := cell_of_row _ _ 4 _ _ _ hblk9
  have hs9 : w.heap.size < w9.heap.size := by
    have := (Array.getElem?_eq_some_iff.1 e19).1
    exact this
  clear m2 hOS7 hOS8 hr8 hr7 e17 e18 hblk7 hblk8 hD7
  go_wp2_with (at_builtin; refine stop_append rfl ?_)
  refine Stop.go (appStr1 B rfl _ _ rfl hOS9 rec rfl rfl (by omega) (by omega) ?_)
  intro v10 w10 hOS10 hf10 hn10
  have hown : ∀ x, (Value.slice C nc cc).ownBlock = some x → B ≤ x := fun x hx => (hOS9.lt x hx).1
  have hjo : ∀ x ∈ (Value.slice C nc cc).ownBlock.toList, x ≠ j ∧ x ≠ d ∧ x ≠ k ∧ x ≠ m ∧ B ≤ x ∧ x < w9.heap.size := fun x hx => by
    have h1 := hC x (by simpa using hx)
    have h2 := hOS9.lt x (by simpa using hx)
    omega
  have hCl : ∀ x, (Value.slice C nc cc).ownBlock = some x → x < w.heap.size := fun x hx => (hOS.lt x hx).2
  obtain ⟨C', cc', hv10, hcc', hRS', hzC'⟩ := hOS10.form
  obtain ⟨M, hM⟩ : ∃ M, (recs ++ [rec]).length = M := ⟨_, rfl⟩
  rw [hM] at hv10
  subst hv10
  replace hM := hid hM
  clear hRS' hcc'
  have hj9 : j < w9.heap.size := (Array.getElem?_eq_some_iff.1 hblk9).1
  have hblk10 := (hf10.block j hj9 (fun h => (hjo j h).1 rfl)).trans hblk9
  have hD10 := hD9.away hf10 ⟨fun h => (hjo d h).2.1 rfl, fun h => (hjo k h).2.2.1 rfl, fun h => (hjo m h).2.2.2.1 rfl⟩
  have e10 := (hf10.block w.heap.size hs9 (fun h => by have := hCl w.heap.size (by simpa using h); omega)).trans e19
  have hA6l : ∀ x, A6 = some x → x.block < w9.heap.size := fun x hx => by
    have h1 := (hlt6 _ (hz6 x hx).1).2
    have h2 := hfd6.size
    have h3 := hf8.size
    have h4 := hf9.size
    have h5 := (hf17.size)
    omega
  have hr10 := hr9.kept' hf10 (fun h0 x hx h => by have h1 := hCl x.block (by simpa using h); have h2 := hA6 x hx; have h3 := hf14.size; omega)
  have hown' : ∀ x, (Value.slice C' M cc').ownBlock = some x → x ≠ j ∧ x ≠ d ∧ x ≠ k ∧ x ≠ m ∧ x ≠ w.heap.size ∧ B ≤ x ∧ (∀ y, A6 = some y → y.block ≠ x) := fun x hx => by
    have hl9 := hD9.lts
    have hB := (hOS10.lt x hx).1
    rcases hn10 x hx with h | h
    · have h1 := hC x h
      have h2 := hCl x h
      refine ⟨h1.1, h1.2.1, h1.2.2.1, h1.2.2.2, by omega, hB, fun y hy => ?_⟩
      have h3 := hA6 y hy
      have h4 := hf14.size
      omega
    · refine ⟨by omega, by omega, by omega, by omega, by omega, hB, fun y hy => ?_⟩
      have h3 := hA6l y hy
      omega
  have j4 : w10.cell? ⟨j, 4, none⟩ = some (.slice C nc cc) := cell_of_row _ _ 4 _ _ _ hblk10
  have jz : w10.frozen? ⟨j, 4, none⟩ = false := frozen_of_row _ _ 4 _ _ hblk10
  have ez0 : w10.cell? ⟨w.heap.size, 0, none⟩ = some (.int .i64 0) := cell_of_row _ _ 0 _ _ _ e10
  have ezz : w10.frozen? ⟨w.heap.size, 0, none⟩ = false := frozen_of_row _ _ 0 _ _ e10
  have b1 := heap_setCell_same w10 j 4 _ _ (.slice C' M cc') hblk10
  have hf11 : Fr [j] w10 (w10.setCell ⟨j, 4, none⟩ (.slice C' M cc')) := (Fr.refl [j] w10).setCell _ (.inl (by simp)) _
  have hf12 : Fr [w.heap.size] (w10.setCell ⟨j, 4, none⟩ (.slice C' M cc')) ((w10.setCell ⟨j, 4, none⟩ (.slice C' M cc')).setCell ⟨w.heap.size, 0, none⟩ (.int .i64 0)) := (Fr.refl [w.heap.size] _).setCell _ (.inl (by simp)) _
  have hje : ¬ j = w.heap.size := by omega
  have e11 := (hf11.block w.heap.size (Array.getElem?_eq_some_iff.1 e10).1 (by simp; omega)).trans e10
  have e12 := heap_setCell_same _ w.heap.size 0 _ _ (.int .i64 0) e11
  have r12 : ((w10.setCell ⟨j, 4, none⟩ (.slice C' M cc')).setCell ⟨w.heap.size, 0, none⟩ (.int .i64 0)).cell? ⟨w.heap.size, 0, none⟩ = some (.int .i64 0) := cell_of_row _ _ 0 _ _ _ e12
  replace b1 := hid b1
  replace e11 := hid e11
  replace e12 := hid e12
  replace hown' := hid hown'
  replace r12 := hid r12
  clear m4
  go_wp2_with fail
  refine leaves_cons (f := 42) (args := #[.pointer (some ⟨j, 0, none⟩), .pointer (some ⟨w.heap.size, 0, none⟩)]) (by simp) (by simp [go_sem]) ?_
  refine (caught_idle j w.heap.size _).mono ?_
  rintro e u' w'' ⟨rfl, rfl, rfl⟩
  refine ⟨.int .i64 0, ?_, rfl, s2, ?_, ?_, hH2, q2.1, q2.2.1, q2.2.2, ?_, ?_⟩
  · have := r12.out
    simp [results, Tryz.results51, go_sem, this]
  · have hl9 := hD9.lts
    have hj10 : j < w10.heap.size := (Array.getElem?_eq_some_iff.1 hblk10).1
    have hA6' : ∀ x, A6 = some x → x.block ≠ j ∧ x.block ≠ d ∧ x.block ≠ k ∧ x.block ≠ m ∧ x.block ≠ w.heap.size ∧ B ≤ x.block := fun x hx => by
      have h2 := hA6 x hx
      have h3 := hf14.size
      omega
    refine ⟨⟨A6, N, c6, C', M, cc', (hf12.block j (Nat.lt_of_lt_of_le hj10 hf11.size) (by simp; omega)).trans (b1.out.trans rfl), (hr10.kept' hf11 (fun _ x hx => by have := hA6' x hx; simp; omega)).kept' hf12 (fun _ x hx => by have := hA6' x hx; simp; omega), hc6,
      (hOS10.kept hf11 (fun x hx => by have := hown'.out x hx; simp; omega)).kept hf12 (fun x hx => by have := hown'.out x hx; simp; omega), fun _ x hx => ?_, fun x hx => ?_⟩, hap, hlo.1, hlo.2.1, hlo.2.2.1, hlo.2.2.2.1, ?_⟩
    · have h1 := hA6' x hx
      exact ⟨h1.2.2.2.2.2, h1.1, h1.2.1, h1.2.2.1, h1.2.2.2.1, fun y hy => (hown'.out y hy).2.2.2.2.2.2 x hx⟩
    · have h1 := hown'.out x hx
      exact ⟨h1.1, h1.2.1, h1.2.2.1, h1.2.2.2.1⟩
    · have h1 := hf10.size
      have h2 := hf11.size
      have h3 := hf12.size
      omega
  · exact (hD10.away hf11 (by simp; omega)).away hf12 (by simp; omega)
  · have h7 := hf17.size
    have h8 := hf8.size
    have h9 := hf9.size
    have h10 := hf10.size
    have h11 := hf11.size
    exact (((((hf17.below hlo.2.2.2.2 (by simp)).trans (hf8.below (by omega) (by simp; omega))).trans (hf9.below (by omega) (by simp; omega))).trans (hf10.below (by omega) (fun x hx => (hjo x hx).2.2.2.2.1))).trans (hf11.below (by omega) (by simp; omega))).trans (hf12.below (by omega) (by simp; omega))
  · have hcells := hOS.cells
    refine ⟨[j, d, k, m] ++ (Value.slice C nc cc).ownBlock.toList, ?_, fun x hx => ?_⟩
    · have h7 := hf17.size
      have h8 := hf8.size
      have h9 := hf9.size
      have h10 := hf10.size
      have h11 := hf11.size
      refine (((((hf17.mono (by simp)).trans hf8 (fun x hx => ?_)).trans hf9 (fun x hx => ?_)).trans hf10 (fun x hx => ?_)).trans hf11 (fun x hx => ?_)).trans hf12 (fun x hx => ?_)
      · left; simp at hx; rcases hx with rfl | rfl <;> simp
      · left; exact List.mem_append_left _ hx
      · left; exact List.mem_append_right _ hx
      · left; simp at hx; subst hx; simp
      · right; simp at hx; omega
    · rcases List.mem_append.1 hx with h | h
      · simp at h
        rcases h with h | h | h | h <;> simp [h]
      · exact .inr (.inr (.inr (.inr (hcells x h))))

theorem Append_ok (B j d k m hd ar : Nat) (recs : List ByteArray) (rec : ByteArray) (s : DSt) (w : World) (hJ : IsJ w B j d k m hd ar recs) (hD : IsDisk w d k m s) (hH : Holds s hd ar recs) (hoff : s.offAt = 0) (hst : s.steps ≤ 900000000)
    (hsz : rec.size ≤ 20000) (hroom : (recsB recs).length + (rec.size + 4) ≤ 64 * arL s.n) (hcnt : recs.length ≤ 900000) :
    Calls Tryz.prog 51 #[.pointer (some ⟨j, 0, none⟩), .string rec] w fun e w' => e = .returned (.int .i64 0) ∧ ∃ s', IsJ w' B j d k m (1 - hd) ar (recs ++ [rec]) ∧ IsDisk w' d k m s' ∧ Holds s' (1 - hd) ar (recs ++ [rec]) ∧ s'.offAt = 0 ∧ s'.n = s.n ∧ s'.steps ≤ s.steps + 1004 ∧ Below B w w' := by
  refine Calls.mono (Append_okF B j d k m hd ar recs rec s w hJ hD hH hoff hst hsz hroom hcnt) ?_
  rintro e w' ⟨he, s', h1, h2, h3, h4, h5, h6, h7, _⟩
  exact ⟨he, s', h1, h2, h3, h4, h5, h6, h7⟩
end Go.Proofs.YtiialjncdhhceaaGreat
