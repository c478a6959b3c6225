/- The journal's Replace. -/
import Derived.Test.YtiialjncdhhceaaGreatJrnSmall
namespace Go.Proofs.YtiialjncdhhceaaGreat
open Go.RowKit
set_option linter.unusedVariables false
set_option linter.unusedSimpArgs false

def weightL : List ByteArray → Nat
  | [] => 0
  | r :: l => r.size + 16 + weightL l
theorem weightL_append (a b : List ByteArray) : weightL (a ++ b) = weightL a + weightL b := by
  induction a with
  | nil => simp [weightL]
  | cons r a ih => simp only [List.cons_append, weightL, ih]; omega
theorem weightL_take (l : List ByteArray) (i : Nat) (h : i < l.length) : weightL (l.take (i + 1)) = weightL (l.take i) + (l[i].size + 16) := by
  rw [List.take_add_one, List.getElem?_eq_getElem h, weightL_append]
  simp [weightL]
theorem weightL_le (l : List ByteArray) (i : Nat) : weightL (l.take i) ≤ weightL l := by
  have h := weightL_append (l.take i) (l.drop i)
  rw [List.take_append_drop] at h
  omega
theorem recsB_weight (l : List ByteArray) : (recsB l).length + l.length * 12 = weightL l := by
  induction l with
  | nil => rfl
  | cons r l ih => rw [recsB_cons, List.length_append, recB_len, List.length_cons]; simp only [weightL]; omega
theorem recsB_take (l : List ByteArray) (i : Nat) (h : i < l.length) : recsB (l.take (i + 1)) = recsB (l.take i) ++ recB l[i] := by
  rw [List.take_add_one, List.getElem?_eq_getElem h, recsB_append]
  simp [recsB]
theorem str_cell {w : World} {A : Option Addr} {n : Nat} {l : List ByteArray} (h : RSs w A n l) (i : Nat) (hi : i < n) : ∃ b off, A = some ⟨b, off, none⟩ ∧ w.cell? ⟨b, off + i, none⟩ = some (.string (l[i]'(by rw [h.1]; exact hi))) := by
  rcases h.2.2 with h0 | ⟨b, off, hA, hc⟩
  · omega
  · exact ⟨b, off, hA, hc i (by rw [h.1]; exact hi)⟩

set_option maxHeartbeats 4000000 in
set_option maxRecDepth 100000 in
theorem Replace_okF (B j d k m hd ar : Nat) (recs : List ByteArray) (Al : Option Addr) (nl cl : Nat) (l : List ByteArray) (s : DSt) (w : World) (hJ : IsJ w B j d k m hd ar recs) (hD : IsDisk w d k m s) (hH : Holds s hd ar recs) (hoff : s.offAt = 0) (hst : s.steps ≤ 900000000)
    (hRl : RSs w Al nl l) (hAl : nl ≠ 0 → ∀ a, Al = some a → a.block ≠ j ∧ a.block ≠ d ∧ a.block ≠ k ∧ a.block ≠ m) (hsz : ∀ r ∈ l, r.size ≤ 20000) (hwt : weightL l ≤ 64 * arL s.n) :
    Calls Tryz.prog 40 #[.pointer (some ⟨j, 0, none⟩), .slice Al nl cl] w fun e w' => e = .returned (.int .i64 0) ∧ ∃ s', IsJ w' B j d k m (1 - hd) (1 - ar) l ∧ IsDisk w' d k m s' ∧ Holds s' (1 - hd) (1 - ar) l ∧ s'.offAt = 0 ∧ s'.n = s.n ∧ s'.steps ≤ s.steps + 1004 ∧ Below B w w' ∧ JFr w w' j d k m := by
  obtain ⟨A, n, c, C, nc, cc, hblk, hRB, hnc, hOS, hA, hC⟩ := hJ.ex
  have hap := hJ.apart
  have hlo := hJ.lo
  have hll := hRl.1
  have hnle := hD.ok.n_le
  have hlts0 := hD.lts
  have har := hH.ar1
  have hfitL : (recsB l).length ≤ 64 * arL s.n := by have := recsB_weight l; omega
  have hL1 : arL s.n ≤ 500 := by unfold arL; omega
  have hcntl : l.length ≤ 32000 := by have := recsB_weight l; omega
  obtain ⟨L, hL⟩ : ∃ L, arL s.n = L := ⟨_, rfl⟩
  rw [hL] at hL1 hwt hfitL
  obtain ⟨oar, hoar⟩ : ∃ oar, 1 - ar = oar := ⟨_, rfl⟩
  have hoarI : (1 : Int) - (ar : Int) = (oar : Int) := by omega
  have hoar1 : oar ≤ 1 := by omega
  rw [hoar]
  replace hL := hid hL
  replace hoar := hid hoar
  go_enter_defers Tryz.func40, Tryz.ntmps40
  go_wp2_with fail
  have hjl : j < w.heap.size := (Array.getElem?_eq_some_iff.1 hblk).1
  have hf1 : Fr [] w (w.alloc (.cells #[.int .i64 0] 24)) := (Fr.refl [] w).alloc _
  have he1 : (w.alloc (.cells #[.int .i64 0] 24)).heap[w.heap.size]? = some (.cells #[.int .i64 0] 24 (0, 0)) := heap_alloc_new _ _
  have hz1 : (w.alloc (.cells #[.int .i64 0] 24)).heap.size = w.heap.size + 1 := by simp
  generalize w.alloc (.cells #[.int .i64 0] 24) = w1 at *
  have hblk1 := (hf1.block j hjl (by simp)).trans hblk
  have hD1 := hD.fr hf1
  have hOS1 := hOS.kept hf1 (by simp)
  have hRl1 := hRl.fr hf1
  have c5 : w1.cell? ⟨j, 5, none⟩ = some (.bool false) := cell_of_row _ _ 5 _ _ _ hblk1
  have j0 : w1.cell? ⟨j, 0, none⟩ = some (.pointer (some ⟨d, 0, none⟩)) := cell_of_row _ _ 0 _ _ _ hblk1
  refine (ready_c j w1 c5).mono ?_
  rintro e w2 ⟨rfl, rfl⟩
  go_wp2_with fail
  refine (space_c j d k m s w2 j0 hD1).mono ?_
  rw [hL.out]
  rintro e w3 ⟨rfl, rfl⟩
  clear c5 j0
  go_wp2_with fail
  go_loopw [18] (fun iv wr => ∃ i : Nat, i ≤ nl ∧ iv = .int .i64 i ∧ wr = w3) (fun iv _ => nl - (intOf iv).toNat)
  case atStart => exact ⟨0, by omega, rfl, rfl⟩
  case round =>
    obtain ⟨i, hi, rfl, rfl⟩ := hrel
    by_cases hin : i < nl
    · obtain ⟨b, off, rfl, hc⟩ := str_cell hRl1 i hin
      have hle := hsz (l[i]'(by omega)) (List.getElem_mem _)
      have hleI : ¬ (20000 : Int) < ((l[i]'(by omega)).size : Int) := by omega
      go_wp2_with fail
      try go_frame
      go_roundw
      case rel => exact ⟨i + 1, by omega, rfl, by trivial⟩
      case measure => simp [intOf]; omega
    · have hie : i = nl := by omega
      subst hie
      obtain ⟨wo, rfl⟩ : ∃ wo, wo = wr := ⟨_, rfl⟩
      go_wp2_with (at_builtin; refine stop_append rfl ?_)
      go_loopw [5, 6, 28] (fun rv ov iv wr => ∃ q : Nat, q ≤ i ∧ iv = .int .i64 q ∧ rv = .int .i64 (64 * (L : Int) - (weightL (l.take q) : Int)) ∧ OB wr wo.heap.size 5 ov (recsB (l.take q)) ∧ Fr [] wo wr) (fun _ _ iv _ => i - (intOf iv).toNat)
      case atStart => exact ⟨0, by omega, rfl, by simp [weightL], OB.nil _ _ _, Fr.refl _ _⟩
      case round =>
        obtain ⟨q, hq, rfl, rfl, hO, hfr⟩ := hrel
        by_cases hqi : q < i
        · obtain ⟨b, off, rfl, hc⟩ := str_cell (hRl1.fr hfr) q hqi
          have hle := hsz (l[q]'(by omega)) (List.getElem_mem _)
          have hwq := weightL_take l q (by omega)
          have hwq2 := weightL_le l (q + 1)
          have hwI : ¬ (64 * (L : Int) - (weightL (l.take q) : Int) - 16) < ((l[q]'(by omega)).size : Int) := by omega
          have htk := recsB_take l q (by omega)
          have hrw := recsB_weight (l.take (q + 1))
          generalize l[q]'(by omega) = r at *
          obtain ⟨W, hW⟩ : ∃ W, weightL (l.take q) = W := ⟨_, rfl⟩
          rw [hW] at hwI hwq ⊢
          replace hW := hid hW
          have hWle : W + (r.size + 16) ≤ 64 * L := by omega
          replace hwq := hid hwq
          replace htk := hid htk
          clear hwq2
          go_wp2_with (at_builtin; refine stop_append rfl ?_)
          have hsw := hfr.size
          refine (record_c wo.heap.size r (by omega) wr hsw).mono ?_
          rintro e w4 ⟨v4, rfl, hO4, hf4, hn4⟩
          obtain ⟨A4, c4, rfl, hc4, hr4, hz4⟩ := hO4.form
          have hOk := hO.kept hf4 (by simp)
          have hlenO : (recsB (l.take q)).length + (recB r).length ≤ 64 * L := by
            have h1 := congrArg List.length htk.out
            rw [List.length_append] at h1
            have h3 := hwq.out
            omega
          go_wp2_with (at_builtin; refine stop_append rfl ?_)
          refine Stop.go (appN wo.heap.size rfl _ _ 30 5 rfl Tryz.underlying30 infoByte hOk hr4 rfl rfl (by have := hf4.size; omega) (by omega) ?_)
          intro v5 w5 hO5 hf5 hn5
          rw [← htk.out] at hO5
          have hf05 : Fr [] wo w5 := (hfr.then hf4).past hf5 (fun z hz => (hOk.lt z (by simpa using hz)).1)
          clear hc
          go_wp2_with fail
          try go_frame
          go_roundw
          case rel => exact ⟨q + 1, by omega, rfl, by rw [hwq.out]; congr 1; omega, hO5, hf05⟩
          case measure => simp [intOf]; omega
        · have hqe : q = i := by omega
          subst hqe
          rw [List.take_of_length_le (by omega)] at hO
          obtain ⟨N, hN⟩ : ∃ N, (recsB l).length = N := ⟨_, rfl⟩
          obtain ⟨A6, c6, rfl, hc6, hr6, hz6⟩ := hO.form
          have hlt6 := hO.lt
          rw [hN] at hr6 hc6 hfitL
          rw [hN]
          have hA6 : ∀ x, A6 = some x → wo.heap.size ≤ x.block := fun x hx => (hlt6 _ (hz6 x hx).1).1
          have hwos : w.heap.size + 1 = wo.heap.size := hz1.symm
          have hblk6 := (hfr.block j (by omega) (by simp)).trans hblk1
          have hD6 := hD1.fr hfr
          have hRl6 := hRl1.fr hfr
          have e16 := (hfr.block w.heap.size (by omega) (by simp)).trans he1
          have m2 : wr.cell? ⟨j, 2, none⟩ = some (.int .i64 (ar : Int)) := cell_of_row _ _ 2 _ _ _ hblk6
          replace hN := hid hN
          replace hwos := hid hwos
          go_wp2_with (at_builtin; refine stop_append rfl ?_)
          refine (lays_c j d k m oar 0 s A6 N c6 _ wr (cell_of_row _ _ 0 _ _ _ hblk6) hap hD6 hr6 hc6 (by intro _ x hx; have := hA6 x hx; have := hwos.out; omega) hoar1 hH.n8 (by rw [hL.out]; exact hfitL) (Nat.zero_le _) hoff (by omega)).mono ?_
          rw [hL.out]
          rintro e w8 ⟨rfl, s1, hD8, hLd, hf8⟩
          have hj6 : j < wr.heap.size := (Array.getElem?_eq_some_iff.1 hblk6).1
          have hblk8 := (hf8.block j hj6 (by simp; omega)).trans hblk6
          have hr8 := hr6.kept' hf8 (by intro _ x hx; have := hA6 x hx; have := hwos.out; simp; omega)
          have hRl8 := hRl6.kept' hf8 (fun h0 x hx => by have := hAl h0 x hx; simp; omega)
          have e18 := (hf8.block w.heap.size (Array.getElem?_eq_some_iff.1 e16).1 (by simp; omega)).trans e16
          clear m2
          have m2 : w8.cell? ⟨j, 2, none⟩ = some (.int .i64 (ar : Int)) := cell_of_row _ _ 2 _ _ _ hblk8
          go_wp2_with (at_builtin; refine stop_append rfl ?_)
          have hsteps1 := hLd.steps
          have hn1 := hLd.n
          have hn8 := hH.n8
          refine (counts_c j d k m hd ar oar A n c C nc cc false s1 A6 N c6 w8 hblk8 hap hD8 hH.hd1 hoar1 (by omega) (by omega) (by omega) hLd.offAt).mono ?_
          obtain ⟨s2, hs2⟩ : ∃ s2, s2 = countsS s1 (1 - hd) ([UInt8.ofNat oar] ++ putB N 4) := ⟨_, rfl⟩
          rw [← hs2]
          have hH2 : Holds s2 (1 - hd) oar l := by
            rw [hs2, ← hN.out]
            rw [← hL.out] at hLd
            exact holds_next hH hD.ok hoar1 hLd hsz (by rw [hN.out, hL.out]; exact hfitL) (fun p hp hp2 => by omega)
          have q2 : s2.offAt = 0 ∧ s2.n = s.n ∧ s2.steps ≤ s.steps + 1004 := by
            rw [hs2]
            refine ⟨hLd.offAt, hLd.n, ?_⟩
            show s1.steps + 1 + 1 + 1 + 1 ≤ _
            omega
          clear hs2
          rintro e w9 ⟨rfl, hD9, hblk9, hf9⟩
          have hj8 : j < w8.heap.size := (Array.getElem?_eq_some_iff.1 hblk8).1
          have hr9 := hr8.kept' hf9 (by intro _ x hx; have := hA6 x hx; have := hwos.out; simp; omega)
          have hRl9 := hRl8.kept' hf9 (fun h0 x hx => by have := hAl h0 x hx; simp; omega)
          have e19 := (hf9.block w.heap.size (Array.getElem?_eq_some_iff.1 e18).1 (by simp; omega)).trans e18
          have hs9 : w.heap.size < w9.heap.size := (Array.getElem?_eq_some_iff.1 e19).1
          clear m2 hr8 e18 hblk8 hRl8 hRl6 hr6 e16 hblk6 hD6
          go_wp2_with (at_builtin; refine stop_append rfl ?_)
          refine (Clone_s Al _ cl l w9 hRl9 (by omega)).mono ?_
          rintro e w10 ⟨v10, rfl, hOS10, hf10⟩
          obtain ⟨C', cc', rfl, hcc', hRS', hzC'⟩ := hOS10.form
          have hlt10 := hOS10.lt
          obtain ⟨M, hM⟩ : ∃ M, l.length = M := ⟨_, rfl⟩
          clear hRS' hcc'
          have hj9 : j < w9.heap.size := (Array.getElem?_eq_some_iff.1 hblk9).1
          have hblk10 := (hf10.block j hj9 (by simp)).trans hblk9
          have hD10 := hD9.fr hf10
          have e10 := (hf10.block w.heap.size hs9 (by simp)).trans e19
          have hA6l : ∀ x, A6 = some x → x.block < w9.heap.size := fun x hx => by
            have h1 := (hlt6 _ (hz6 x hx).1).2
            have h3 := hf8.size
            have h4 := hf9.size
            omega
          have hr10 := hr9.below hf10.all
          have hlts9 := hD9.lts
          have hown' : ∀ x, (Value.slice C' l.length cc').ownBlock = some x → x ≠ j ∧ x ≠ d ∧ x ≠ k ∧ x ≠ m ∧ x ≠ w.heap.size ∧ B ≤ x ∧ (∀ y, A6 = some y → y.block ≠ x) := fun x hx => by
            have hB := (hlt10 x hx).1
            have hB2 := hlo.2.2.2.2
            refine ⟨by omega, by omega, by omega, by omega, by omega, by omega, fun y hy => ?_⟩
            have h3 := hA6l y hy
            omega
          have j4 : w10.cell? ⟨j, 4, none⟩ = some (.slice C nc cc) := cell_of_row _ _ 4 _ _ _ hblk10
          have jz : w10.frozen? ⟨j, 4, none⟩ = false := frozen_of_row _ _ 4 _ _ hblk10
          have ez0 : w10.cell? ⟨w.heap.size, 0, none⟩ = some (.int .i64 0) := cell_of_row _ _ 0 _ _ _ e10
          have ezz : w10.frozen? ⟨w.heap.size, 0, none⟩ = false := frozen_of_row _ _ 0 _ _ e10
          rw [hM] at hown' ⊢
          have b1 := heap_setCell_same w10 j 4 _ _ (.slice C' M cc') hblk10
          have hf11 : Fr [j] w10 (w10.setCell ⟨j, 4, none⟩ (.slice C' M cc')) := (Fr.refl [j] w10).setCell _ (.inl (by simp)) _
          have hf12 : Fr [w.heap.size] (w10.setCell ⟨j, 4, none⟩ (.slice C' M cc')) ((w10.setCell ⟨j, 4, none⟩ (.slice C' M cc')).setCell ⟨w.heap.size, 0, none⟩ (.int .i64 0)) := (Fr.refl [w.heap.size] _).setCell _ (.inl (by simp)) _
          have hje : ¬ j = w.heap.size := by omega
          have e11 := (hf11.block w.heap.size (Array.getElem?_eq_some_iff.1 e10).1 (by simp; omega)).trans e10
          have e12 := heap_setCell_same _ w.heap.size 0 _ _ (.int .i64 0) e11
          have r12 : ((w10.setCell ⟨j, 4, none⟩ (.slice C' M cc')).setCell ⟨w.heap.size, 0, none⟩ (.int .i64 0)).cell? ⟨w.heap.size, 0, none⟩ = some (.int .i64 0) := cell_of_row _ _ 0 _ _ _ e12
          rw [hM] at hOS10
          replace hM := hid hM
          replace b1 := hid b1
          replace e11 := hid e11
          replace e12 := hid e12
          replace hown' := hid hown'
          replace r12 := hid r12
          go_wp2_with fail
          refine leaves_cons (f := 42) (args := #[.pointer (some ⟨j, 0, none⟩), .pointer (some ⟨w.heap.size, 0, none⟩)]) (by simp) (by simp [go_sem]) ?_
          refine (caught_idle j w.heap.size _).mono ?_
          rintro e u' w'' ⟨rfl, rfl, rfl⟩
          refine ⟨.int .i64 0, ?_, rfl, s2, ?_, ?_, hH2, q2.1, q2.2.1, q2.2.2, ?_, ?_⟩
          · have := r12.out
            simp [results, Tryz.results40, go_sem, this]
          · have hj10 : j < w10.heap.size := (Array.getElem?_eq_some_iff.1 hblk10).1
            have hA6' : ∀ x, A6 = some x → x.block ≠ j ∧ x.block ≠ d ∧ x.block ≠ k ∧ x.block ≠ m ∧ x.block ≠ w.heap.size ∧ B ≤ x.block := fun x hx => by
              have h2 := hA6 x hx
              have h3 := hwos.out
              have hB2 := hlo.2.2.2.2
              omega
            refine ⟨⟨A6, N, c6, C', M, cc', (hf12.block j (Nat.lt_of_lt_of_le hj10 hf11.size) (by simp; omega)).trans (b1.out.trans rfl), (hr10.kept' hf11 (fun _ x hx => by have := hA6' x hx; simp; omega)).kept' hf12 (fun _ x hx => by have := hA6' x hx; simp; omega), hc6,
              ((hOS10.base (by have := hlo.2.2.2.2; omega)).kept hf11 (fun x hx => by have := hown'.out x hx; simp; omega)).kept hf12 (fun x hx => by have := hown'.out x hx; simp; omega), fun _ x hx => ?_, fun x hx => ?_⟩, hap, hlo.1, hlo.2.1, hlo.2.2.1, hlo.2.2.2.1, ?_⟩
            · have h1 := hA6' x hx
              exact ⟨h1.2.2.2.2.2, h1.1, h1.2.1, h1.2.2.1, h1.2.2.2.1, fun y hy => (hown'.out y hy).2.2.2.2.2.2 x hx⟩
            · have h1 := hown'.out x hx
              exact ⟨h1.1, h1.2.1, h1.2.2.1, h1.2.2.2.1⟩
            · have h0 := hlo.2.2.2.2
              have h1 := hf10.size
              have h2 := hf11.size
              have h3 := hf12.size
              omega
          · exact (hD10.away hf11 (by simp; omega)).away hf12 (by simp; omega)
          · have hB2 := hlo.2.2.2.2
            have h6 := hfr.size
            have h8 := hf8.size
            have h9 := hf9.size
            have h10 := hf10.size
            have h11 := hf11.size
            have hw6 : Below B w wr := (hf1.then hfr).below hB2 (by simp)
            exact ((((hw6.trans (hf8.below (by omega) (by simp; omega))).trans (hf9.below (by omega) (by simp; omega))).trans (hf10.below (by omega) (by simp))).trans (hf11.below (by omega) (by simp; omega))).trans (hf12.below (by omega) (by simp; omega))
          · have h6 := hfr.size
            have h8 := hf8.size
            have h9 := hf9.size
            have h10 := hf10.size
            have h11 := hf11.size
            refine ⟨[j, d, k, m], ?_, fun x hx => by simp at hx; rcases hx with h | h | h | h <;> simp [h]⟩
            refine ((((((hf1.then hfr).mono (S' := [j, d, k, m]) (by simp)).trans hf8 (fun x hx => ?_)).trans hf9 (fun x hx => ?_)).trans hf10 (by simp)).trans hf11 (fun x hx => ?_)).trans hf12 (fun x hx => ?_)
            · left; simp at hx; rcases hx with rfl | rfl <;> simp
            · left; exact hx
            · left; simp at hx; subst hx; simp
            · right; simp at hx; omega

theorem Replace_ok (B j d k m hd ar : Nat) (recs : List ByteArray) (Al : Option Addr) (nl cl : Nat) (l : List ByteArray) (s : DSt) (w : World) (hJ : IsJ w B j d k m hd ar recs) (hD : IsDisk w d k m s) (hH : Holds s hd ar recs) (hoff : s.offAt = 0) (hst : s.steps ≤ 900000000)
    (hRl : RSs w Al nl l) (hAl : nl ≠ 0 → ∀ a, Al = some a → a.block ≠ j ∧ a.block ≠ d ∧ a.block ≠ k ∧ a.block ≠ m) (hsz : ∀ r ∈ l, r.size ≤ 20000) (hwt : weightL l ≤ 64 * arL s.n) :
    Calls Tryz.prog 40 #[.pointer (some ⟨j, 0, none⟩), .slice Al nl cl] w fun e w' => e = .returned (.int .i64 0) ∧ ∃ s', IsJ w' B j d k m (1 - hd) (1 - ar) l ∧ IsDisk w' d k m s' ∧ Holds s' (1 - hd) (1 - ar) l ∧ s'.offAt = 0 ∧ s'.n = s.n ∧ s'.steps ≤ s.steps + 1004 ∧ Below B w w' := by
  refine Calls.mono (Replace_okF B j d k m hd ar recs Al nl cl l s w hJ hD hH hoff hst hRl hAl hsz hwt) ?_
  rintro e w' ⟨he, s', h1, h2, h3, h4, h5, h6, h7, _⟩
  exact ⟨he, s', h1, h2, h3, h4, h5, h6, h7⟩
end Go.Proofs.YtiialjncdhhceaaGreat
