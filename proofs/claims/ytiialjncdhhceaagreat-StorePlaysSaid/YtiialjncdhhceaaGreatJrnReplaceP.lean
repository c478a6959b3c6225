/- The journal's Replace, where the power may go. -/
import Derived.Test.YtiialjncdhhceaaGreatJrnAppendP
namespace Go.Proofs.YtiialjncdhhceaaGreat
open Go.RowKit
set_option linter.unusedVariables false
set_option linter.unusedSimpArgs false

set_option maxHeartbeats 4000000 in
set_option maxRecDepth 100000 in
theorem Replace_p (B j d k m hd ar : Nat) (recs : List ByteArray) (Al : Option Addr) (nl cl : Nat) (l : List ByteArray) (s : DSt) (w : World) (hJ : IsJ w B j d k m hd ar recs) (hD : IsDisk w d k m s) (hH : Holds s hd ar recs) (hst : s.steps ≤ 900000000)
    (hRl : RSs w Al nl l) (hAl : nl ≠ 0 → ∀ a, Al = some a → a.block ≠ j ∧ a.block ≠ d ∧ a.block ≠ k ∧ a.block ≠ m) (hsz : ∀ r ∈ l, r.size ≤ 20000) (hwt : weightL l ≤ 64 * arL s.n) :
    Calls Tryz.prog 40 #[.pointer (some ⟨j, 0, none⟩), .slice Al nl cl] w fun e w' => (e = .returned (.int .i64 0) ∧ ∃ s', IsJ w' B j d k m (1 - hd) (1 - ar) l ∧ IsDisk w' d k m s' ∧ Holds s' (1 - hd) (1 - ar) l ∧ s'.offAt = s.offAt ∧ s'.off = false ∧ s'.n = s.n ∧ s'.steps ≤ s.steps + 1004 ∧ Below B w w' ∧ JFs w w' j d k m) ∨ (e = .returned (.int .i64 131) ∧ Dead w w' B j d k m s hd ar recs (1 - hd) (1 - ar) l) := by
  obtain ⟨A, n, c, C, nc, cc, hblk, hRB, hnc, hOS, hA, hC⟩ := hJ.ex
  have hap := hJ.apart
  have hlo := hJ.lo
  have hll := hRl.1
  have hnle := hD.ok.n_le
  have hlts0 := hD.lts
  have har := hH.ar1
  have hfitL : (recsB l).length ≤ 64 * arL s.n := by have := recsB_weight l; omega
  have hL1 : arL s.n ≤ 500 := by unfold arL; omega
  have hcntl : l.length ≤ 32000 := by have := recsB_weight l; omega
  obtain ⟨L, hL⟩ : ∃ L, arL s.n = L := ⟨_, rfl⟩
  rw [hL] at hL1 hwt hfitL
  obtain ⟨oar, hoar⟩ : ∃ oar, 1 - ar = oar := ⟨_, rfl⟩
  have hoarI : (1 : Int) - (ar : Int) = (oar : Int) := by omega
  have hoar1 : oar ≤ 1 := by omega
  rw [hoar]
  replace hL := hid hL
  replace hoar := hid hoar
  go_enter_defers Tryz.func40, Tryz.ntmps40
  go_wp2_with fail
  have hjl : j < w.heap.size := (Array.getElem?_eq_some_iff.1 hblk).1
  have hf1 : Fr [] w (w.alloc (.cells #[.int .i64 0] 24)) := (Fr.refl [] w).alloc _
  have he1 : (w.alloc (.cells #[.int .i64 0] 24)).heap[w.heap.size]? = some (.cells #[.int .i64 0] 24 (0, 0)) := heap_alloc_new _ _
  have hz1 : (w.alloc (.cells #[.int .i64 0] 24)).heap.size = w.heap.size + 1 := by simp
  generalize w.alloc (.cells #[.int .i64 0] 24) = w1 at *
  have hblk1 := (hf1.block j hjl (by simp)).trans hblk
  have hD1 := hD.fr hf1
  have hOS1 := hOS.kept hf1 (by simp)
  have hRl1 := hRl.fr hf1
  have c5 : w1.cell? ⟨j, 5, none⟩ = some (.bool false) := cell_of_row _ _ 5 _ _ _ hblk1
  have j0 : w1.cell? ⟨j, 0, none⟩ = some (.pointer (some ⟨d, 0, none⟩)) := cell_of_row _ _ 0 _ _ _ hblk1
  refine (ready_c j w1 c5).mono ?_
  rintro e w2 ⟨rfl, rfl⟩
  go_wp2_with fail
  refine (space_c j d k m s w2 j0 hD1).mono ?_
  rw [hL.out]
  rintro e w3 ⟨rfl, rfl⟩
  clear c5 j0
  go_wp2_with fail
  go_loopw [18] (fun iv wr => ∃ i : Nat, i ≤ nl ∧ iv = .int .i64 i ∧ wr = w3) (fun iv _ => nl - (intOf iv).toNat)
  case atStart => exact ⟨0, by omega, rfl, rfl⟩
  case round =>
    obtain ⟨i, hi, rfl, rfl⟩ := hrel
    by_cases hin : i < nl
    · obtain ⟨b, off, rfl, hc⟩ := str_cell hRl1 i hin
      have hle := hsz (l[i]'(by omega)) (List.getElem_mem _)
      have hleI : ¬ (20000 : Int) < ((l[i]'(by omega)).size : Int) := by omega
      go_wp2_with fail
      try go_frame
      go_roundw
      case rel => exact ⟨i + 1, by omega, rfl, by trivial⟩
      case measure => simp [intOf]; omega
    · have hie : i = nl := by omega
      subst hie
      obtain ⟨wo, rfl⟩ : ∃ wo, wo = wr := ⟨_, rfl⟩
      go_wp2_with (at_builtin; refine stop_append rfl ?_)
      go_loopw [5, 6, 28] (fun rv ov iv wr => ∃ q : Nat, q ≤ i ∧ iv = .int .i64 q ∧ rv = .int .i64 (64 * (L : Int) - (weightL (l.take q) : Int)) ∧ OB wr wo.heap.size 5 ov (recsB (l.take q)) ∧ Fr [] wo wr) (fun _ _ iv _ => i - (intOf iv).toNat)
      case atStart => exact ⟨0, by omega, rfl, by simp [weightL], OB.nil _ _ _, Fr.refl _ _⟩
      case round =>
        obtain ⟨q, hq, rfl, rfl, hO, hfr⟩ := hrel
        by_cases hqi : q < i
        · obtain ⟨b, off, rfl, hc⟩ := str_cell (hRl1.fr hfr) q hqi
          have hle := hsz (l[q]'(by omega)) (List.getElem_mem _)
          have hwq := weightL_take l q (by omega)
          have hwq2 := weightL_le l (q + 1)
          have hwI : ¬ (64 * (L : Int) - (weightL (l.take q) : Int) - 16) < ((l[q]'(by omega)).size : Int) := by omega
          have htk := recsB_take l q (by omega)
          have hrw := recsB_weight (l.take (q + 1))
          generalize l[q]'(by omega) = r at *
          obtain ⟨W, hW⟩ : ∃ W, weightL (l.take q) = W := ⟨_, rfl⟩
          rw [hW] at hwI hwq ⊢
          replace hW := hid hW
          have hWle : W + (r.size + 16) ≤ 64 * L := by omega
          replace hwq := hid hwq
          replace htk := hid htk
          clear hwq2
          go_wp2_with (at_builtin; refine stop_append rfl ?_)
          have hsw := hfr.size
          refine (record_c wo.heap.size r (by omega) wr hsw).mono ?_
          rintro e w4 ⟨v4, rfl, hO4, hf4, hn4⟩
          obtain ⟨A4, c4, rfl, hc4, hr4, hz4⟩ := hO4.form
          have hOk := hO.kept hf4 (by simp)
          have hlenO : (recsB (l.take q)).length + (recB r).length ≤ 64 * L := by
            have h1 := congrArg List.length htk.out
            rw [List.length_append] at h1
            have h3 := hwq.out
            omega
          go_wp2_with (at_builtin; refine stop_append rfl ?_)
          refine Stop.go (appN wo.heap.size rfl _ _ 30 5 rfl Tryz.underlying30 infoByte hOk hr4 rfl rfl (by have := hf4.size; omega) (by omega) ?_)
          intro v5 w5 hO5 hf5 hn5
          rw [← htk.out] at hO5
          have hf05 : Fr [] wo w5 := (hfr.then hf4).past hf5 (fun z hz => (hOk.lt z (by simpa using hz)).1)
          clear hc
          go_wp2_with fail
          try go_frame
          go_roundw
          case rel => exact ⟨q + 1, by omega, rfl, by rw [hwq.out]; congr 1; omega, hO5, hf05⟩
          case measure => simp [intOf]; omega
        · have hqe : q = i := by omega
          subst hqe
          rw [List.take_of_length_le (by omega)] at hO
          obtain ⟨N, hN⟩ : ∃ N, (recsB l).length = N := ⟨_, rfl⟩
          obtain ⟨A6, c6, rfl, hc6, hr6, hz6⟩ := hO.form
          have hlt6 := hO.lt
          rw [hN] at hr6 hc6 hfitL
          rw [hN]
          have hA6 : ∀ x, A6 = some x → wo.heap.size ≤ x.block := fun x hx => (hlt6 _ (hz6 x hx).1).1
          have hwos : w.heap.size + 1 = wo.heap.size := hz1.symm
          have hblk6 := (hfr.block j (by omega) (by simp)).trans hblk1
          have hD6 := hD1.fr hfr
          have hRl6 := hRl1.fr hfr
          have e16 := (hfr.block w.heap.size (by omega) (by simp)).trans he1
          have m2 : wr.cell? ⟨j, 2, none⟩ = some (.int .i64 (ar : Int)) := cell_of_row _ _ 2 _ _ _ hblk6
          replace hN := hid hN
          replace hwos := hid hwos
          go_wp2_with (at_builtin; refine stop_append rfl ?_)
          have hov : Over recs l ar oar := fun h => by exfalso; have := hoar.out; omega
          have hnL : N ≤ 64 * arL s.n := by rw [hL.out]; exact hfitL
          have hholdA : ∀ p, p < 0 / 64 * 64 → p < (recsB l).length → (s.now (4 + oar * arL s.n + p / 64))[p % 64]? = (recsB l)[p]? := fun p hp hp2 => by omega
          have hLs : arL s.n ≤ 500 := by rw [hL.out]; exact hL1
          replace hov := hid hov
          replace hholdA := hid hholdA
          refine (lays_p j d k m oar 0 s A6 N c6 _ wr (cell_of_row _ _ 0 _ _ _ hblk6) hap hD6 hr6 hc6 (by intro _ x hx; have := hA6 x hx; have := hwos.out; omega) hoar1 hH.n8 hnL (Nat.zero_le _) (by omega) hH.clean).mono ?_
          rintro e w8 ⟨hf8, q, hq0, hqL, hqq, hcase⟩
          have hj6 : j < wr.heap.size := (Array.getElem?_eq_some_iff.1 hblk6).1
          have hblk8 := (hf8.block j hj6 (by simp; omega)).trans hblk6
          have hr8 := hr6.kept' hf8 (by intro _ x hx; have := hA6 x hx; have := hwos.out; simp; omega)
          have hRl8 := hRl6.kept' hf8 (fun h0 x hx => by have := hAl h0 x hx; simp; omega)
          have e18 := (hf8.block w.heap.size (Array.getElem?_eq_some_iff.1 e16).1 (by simp; omega)).trans e16
          have hwj : w.heap.size ≠ j := by omega
          have hwosx := hwos.out
          have hfw : Fr [] w wr := hf1.then hfr
          have hlast : q = 0 / 64 ∨ (q - 1) * 64 < (recsB l).length := by rw [hN.out]; exact hqq
          replace hlast := hid hlast
          obtain ⟨s1, hs1⟩ : ∃ s1, s1 = layS s (4 + oar * arL s.n) (0 / 64) q (recsB l) := ⟨_, rfl⟩
          rw [← hs1] at hcase
          have hs1n : s1.n = s.n := by rw [hs1]; rfl
          have hs1s : s1.steps ≤ s.steps + 1000 := by rw [hs1]; show s.steps + (q - 0 / 64) ≤ _; omega
          have hs1o : s1.offAt = s.offAt := by rw [hs1]; rfl
          replace hs1 := hid hs1
          rcases hcase with ⟨rfl, hqe, hD8⟩ | ⟨rfl, hoffx, hDx⟩
          rotate_left
          · clear m2
            have hfx : Fr [d, k, m] w w8 := (hfw.mono (by simp)).trans hf8 (by intro x hx; left; simp at hx; rcases hx with rfl | rfl <;> simp)
            have hdm := dead_mk j w.heap.size d hd ar A n c C nc cc _ hblk8 e18 (by omega)
            have k5 : w8.cell? ⟨j, 5, none⟩ = some (.bool false) := cell_of_row _ _ 5 _ _ _ hblk8
            have k5z : w8.frozen? ⟨j, 5, none⟩ = false := frozen_of_row _ _ 5 _ _ hblk8
            have f0 : w8.cell? ⟨w.heap.size, 0, none⟩ = some (.int .i64 0) := cell_of_row _ _ 0 _ _ _ e18
            have f0z : w8.frozen? ⟨w.heap.size, 0, none⟩ = false := frozen_of_row _ _ 0 _ _ e18
            unfold offE
            replace hdm := hid hdm
            go_wp2_with fail
            refine leaves_cons (f := 42) (args := #[.pointer (some ⟨j, 0, none⟩), .pointer (some ⟨w.heap.size, 0, none⟩)]) (by simp) (by simp [go_sem]) ?_
            refine (caught_panic j w.heap.size 131 0 false [] _ k5 k5z f0 f0z (by omega)).mono ?_
            rintro e u' w'' ⟨rfl, rfl, rfl⟩
            obtain ⟨g1, g2, g4, g3⟩ := hdm.out
            refine ⟨.int .i64 131, ?_, .inr ⟨rfl, (by rw [← hs1o]; exact offnz hoffx), s1.step, ⟨A, n, c, C, nc, cc, g1⟩, ?_, hs1n, by show s1.steps + 1 ≤ _; omega, fun ch => .inl (by rw [hs1.out]; have hdk := hDx.ok; rw [hs1.out] at hdk; exact lay_off hH hD.ok hoar1 hqL hov.out hlast.out hdk ch), ?_, ?_⟩⟩
            · simp [results, Tryz.results40, go_sem, g2, g4]
            · exact hDx.away g3 (by simp; omega)
            · exact (hfx.below hlo.2.2.2.2 (by simp; omega)).trans (g3.below (by have := hfx.size; have := hlo.2.2.2.2; omega) (by simp; omega))
            · refine ⟨⟨[j, d, k, m], (hfx.mono (by intro x hx; left; simp at hx; rcases hx with rfl | rfl | rfl <;> simp)).trans g3 (fun x hx => by simp at hx; rcases hx with rfl | rfl; right; exact Nat.le_refl _; left; simp), fun x hx => by simp at hx; rcases hx with h | h | h | h <;> simp [h]⟩, fun x hx => ?_⟩
              obtain ⟨v, hv, ho⟩ := hx
              exact .inl ⟨v, (cell_of_row _ _ 4 _ _ _ hblk).trans ((cell_of_row _ _ 4 _ _ _ g1).symm.trans hv), ho⟩
          clear m2
          have m2 : w8.cell? ⟨j, 2, none⟩ = some (.int .i64 (ar : Int)) := cell_of_row _ _ 2 _ _ _ hblk8
          go_wp2_with (at_builtin; refine stop_append rfl ?_)
          have hn8 := hH.n8
          refine (counts_p j d k m hd ar oar A n c C nc cc false s1 A6 N c6 w8 hblk8 hap hD8 hH.hd1 hoar1 (by omega) (by omega) (by omega)).mono ?_
          have hH2' : Holds (countsS s1 (1 - hd) ([UInt8.ofNat oar] ++ putB N 4)) (1 - hd) oar l := by
            rw [hs1.out, ← hN.out]
            exact holds_lay hH hD.ok hoar1 hq0 (by rw [hN.out]; exact hqe) hlast.out (by omega) hsz (by rw [hN.out]; exact hnL) hholdA.out
          have hkeep : Keep s s1 hd ar recs := by rw [hs1.out]; exact keep_lay hH hD.ok hoar1 hqL hov.out hlast.out
          replace hkeep := hid hkeep
          replace hH2' := hid hH2'
          rintro e w9 (⟨rfl, hD9, hblk9, hf9, hon⟩ | ⟨rfl, sx, hCx, hDx, hf9⟩)
          rotate_left
          · have hj8 : j < w8.heap.size := (Array.getElem?_eq_some_iff.1 hblk8).1
            have hblk9 := (hf9.block j hj8 (by simp; omega)).trans hblk8
            have e19 := (hf9.block w.heap.size (Array.getElem?_eq_some_iff.1 e18).1 (by simp; omega)).trans e18
            have hfx : Fr [d, k, m] w w9 := ((hfw.mono (by simp)).trans hf8 (by intro x hx; left; simp at hx; rcases hx with rfl | rfl <;> simp)).trans hf9 (fun x hx => .inl hx)
            have hsx : sx.n = s1.n ∧ sx.steps ≤ s1.steps + 4 := by
              cases hCx
              · exact ⟨rfl, by show s1.steps + 1 ≤ _; omega⟩
              · exact ⟨rfl, by show s1.steps + 1 + 1 ≤ _; omega⟩
              · exact ⟨rfl, by show s1.steps + 1 + 1 + 1 ≤ _; omega⟩
              · exact ⟨rfl, by show s1.steps + 1 + 1 + 1 + 1 ≤ _; omega⟩
            clear m2
            have hdm := dead_mk j w.heap.size d hd ar A n c C nc cc _ hblk9 e19 (by omega)
            have k5 : w9.cell? ⟨j, 5, none⟩ = some (.bool false) := cell_of_row _ _ 5 _ _ _ hblk9
            have k5z : w9.frozen? ⟨j, 5, none⟩ = false := frozen_of_row _ _ 5 _ _ hblk9
            have f0 : w9.cell? ⟨w.heap.size, 0, none⟩ = some (.int .i64 0) := cell_of_row _ _ 0 _ _ _ e19
            have f0z : w9.frozen? ⟨w.heap.size, 0, none⟩ = false := frozen_of_row _ _ 0 _ _ e19
            unfold offE
            replace hdm := hid hdm
            go_wp2_with fail
            refine leaves_cons (f := 42) (args := #[.pointer (some ⟨j, 0, none⟩), .pointer (some ⟨w.heap.size, 0, none⟩)]) (by simp) (by simp [go_sem]) ?_
            refine (caught_panic j w.heap.size 131 0 false [] _ k5 k5z f0 f0z (by omega)).mono ?_
            rintro e u' w'' ⟨rfl, rfl, rfl⟩
            obtain ⟨g1, g2, g4, g3⟩ := hdm.out
            refine ⟨.int .i64 131, ?_, .inr ⟨rfl, (by have hz : s1.offAt ≠ 0 := (by cases hCx <;> assumption); rw [hs1o] at hz; exact hz), sx, ⟨A, n, c, C, nc, cc, g1⟩, ?_, hsx.1.trans hs1n, by omega, fun ch => counts_off hkeep.out hH hD.ok hCx hDx.ok hH2'.out ch, ?_, ?_⟩⟩
            · simp [results, Tryz.results40, go_sem, g2, g4]
            · exact hDx.away g3 (by simp; omega)
            · exact (hfx.below hlo.2.2.2.2 (by simp; omega)).trans (g3.below (by have := hfx.size; have := hlo.2.2.2.2; omega) (by simp; omega))
            · refine ⟨⟨[j, d, k, m], (hfx.mono (by intro x hx; left; simp at hx; rcases hx with rfl | rfl | rfl <;> simp)).trans g3 (fun x hx => by simp at hx; rcases hx with rfl | rfl; right; exact Nat.le_refl _; left; simp), fun x hx => by simp at hx; rcases hx with h | h | h | h <;> simp [h]⟩, fun x hx => ?_⟩
              obtain ⟨v, hv, ho⟩ := hx
              exact .inl ⟨v, (cell_of_row _ _ 4 _ _ _ hblk).trans ((cell_of_row _ _ 4 _ _ _ g1).symm.trans hv), ho⟩
          obtain ⟨s2, hs2⟩ : ∃ s2, s2 = countsS s1 (1 - hd) ([UInt8.ofNat oar] ++ putB N 4) := ⟨_, rfl⟩
          have hH2 := hH2'.out
          rw [← hs2] at hD9 hon hH2
          have q2 : s2.offAt = s.offAt ∧ s2.n = s.n ∧ s2.steps ≤ s.steps + 1004 := by
            rw [hs2]
            refine ⟨hs1o, hs1n, ?_⟩
            show s1.steps + 1 + 1 + 1 + 1 ≤ _
            omega
          clear hs2
          have hj8 : j < w8.heap.size := (Array.getElem?_eq_some_iff.1 hblk8).1
          have hr9 := hr8.kept' hf9 (by intro _ x hx; have := hA6 x hx; have := hwos.out; simp; omega)
          have hRl9 := hRl8.kept' hf9 (fun h0 x hx => by have := hAl h0 x hx; simp; omega)
          have e19 := (hf9.block w.heap.size (Array.getElem?_eq_some_iff.1 e18).1 (by simp; omega)).trans e18
          have hs9 : w.heap.size < w9.heap.size := (Array.getElem?_eq_some_iff.1 e19).1
          clear m2 hr8 e18 hblk8 hRl8 hRl6 hr6 e16 hblk6 hD6
          go_wp2_with (at_builtin; refine stop_append rfl ?_)
          refine (Clone_s Al _ cl l w9 hRl9 (by omega)).mono ?_
          rintro e w10 ⟨v10, rfl, hOS10, hf10⟩
          obtain ⟨C', cc', rfl, hcc', hRS', hzC'⟩ := hOS10.form
          have hlt10 := hOS10.lt
          obtain ⟨M, hM⟩ : ∃ M, l.length = M := ⟨_, rfl⟩
          clear hRS' hcc'
          have hj9 : j < w9.heap.size := (Array.getElem?_eq_some_iff.1 hblk9).1
          have hblk10 := (hf10.block j hj9 (by simp)).trans hblk9
          have hD10 := hD9.fr hf10
          have e10 := (hf10.block w.heap.size hs9 (by simp)).trans e19
          have hA6l : ∀ x, A6 = some x → x.block < w9.heap.size := fun x hx => by
            have h1 := (hlt6 _ (hz6 x hx).1).2
            have h3 := hf8.size
            have h4 := hf9.size
            omega
          have hr10 := hr9.below hf10.all
          have hlts9 := hD9.lts
          have hown' : ∀ x, (Value.slice C' l.length cc').ownBlock = some x → x ≠ j ∧ x ≠ d ∧ x ≠ k ∧ x ≠ m ∧ x ≠ w.heap.size ∧ B ≤ x ∧ (∀ y, A6 = some y → y.block ≠ x) := fun x hx => by
            have hB := (hlt10 x hx).1
            have hB2 := hlo.2.2.2.2
            refine ⟨by omega, by omega, by omega, by omega, by omega, by omega, fun y hy => ?_⟩
            have h3 := hA6l y hy
            omega
          have j4 : w10.cell? ⟨j, 4, none⟩ = some (.slice C nc cc) := cell_of_row _ _ 4 _ _ _ hblk10
          have jz : w10.frozen? ⟨j, 4, none⟩ = false := frozen_of_row _ _ 4 _ _ hblk10
          have ez0 : w10.cell? ⟨w.heap.size, 0, none⟩ = some (.int .i64 0) := cell_of_row _ _ 0 _ _ _ e10
          have ezz : w10.frozen? ⟨w.heap.size, 0, none⟩ = false := frozen_of_row _ _ 0 _ _ e10
          rw [hM] at hown' ⊢
          have b1 := heap_setCell_same w10 j 4 _ _ (.slice C' M cc') hblk10
          have hf11 : Fr [j] w10 (w10.setCell ⟨j, 4, none⟩ (.slice C' M cc')) := (Fr.refl [j] w10).setCell _ (.inl (by simp)) _
          have hf12 : Fr [w.heap.size] (w10.setCell ⟨j, 4, none⟩ (.slice C' M cc')) ((w10.setCell ⟨j, 4, none⟩ (.slice C' M cc')).setCell ⟨w.heap.size, 0, none⟩ (.int .i64 0)) := (Fr.refl [w.heap.size] _).setCell _ (.inl (by simp)) _
          have hje : ¬ j = w.heap.size := by omega
          have e11 := (hf11.block w.heap.size (Array.getElem?_eq_some_iff.1 e10).1 (by simp; omega)).trans e10
          have e12 := heap_setCell_same _ w.heap.size 0 _ _ (.int .i64 0) e11
          have r12 : ((w10.setCell ⟨j, 4, none⟩ (.slice C' M cc')).setCell ⟨w.heap.size, 0, none⟩ (.int .i64 0)).cell? ⟨w.heap.size, 0, none⟩ = some (.int .i64 0) := cell_of_row _ _ 0 _ _ _ e12
          rw [hM] at hOS10
          replace hM := hid hM
          replace b1 := hid b1
          replace e11 := hid e11
          replace e12 := hid e12
          replace hown' := hid hown'
          replace r12 := hid r12
          go_wp2_with fail
          refine leaves_cons (f := 42) (args := #[.pointer (some ⟨j, 0, none⟩), .pointer (some ⟨w.heap.size, 0, none⟩)]) (by simp) (by simp [go_sem]) ?_
          refine (caught_idle j w.heap.size _).mono ?_
          rintro e u' w'' ⟨rfl, rfl, rfl⟩
          refine ⟨.int .i64 0, ?_, .inl ⟨rfl, s2, ?_, ?_, hH2, q2.1, hon, q2.2.1, q2.2.2, ?_, ?_⟩⟩
          · have := r12.out
            simp [results, Tryz.results40, go_sem, this]
          · have hj10 : j < w10.heap.size := (Array.getElem?_eq_some_iff.1 hblk10).1
            have hA6' : ∀ x, A6 = some x → x.block ≠ j ∧ x.block ≠ d ∧ x.block ≠ k ∧ x.block ≠ m ∧ x.block ≠ w.heap.size ∧ B ≤ x.block := fun x hx => by
              have h2 := hA6 x hx
              have h3 := hwos.out
              have hB2 := hlo.2.2.2.2
              omega
            refine ⟨⟨A6, N, c6, C', M, cc', (hf12.block j (Nat.lt_of_lt_of_le hj10 hf11.size) (by simp; omega)).trans (b1.out.trans rfl), (hr10.kept' hf11 (fun _ x hx => by have := hA6' x hx; simp; omega)).kept' hf12 (fun _ x hx => by have := hA6' x hx; simp; omega), hc6,
              ((hOS10.base (by have := hlo.2.2.2.2; omega)).kept hf11 (fun x hx => by have := hown'.out x hx; simp; omega)).kept hf12 (fun x hx => by have := hown'.out x hx; simp; omega), fun _ x hx => ?_, fun x hx => ?_⟩, hap, hlo.1, hlo.2.1, hlo.2.2.1, hlo.2.2.2.1, ?_⟩
            · have h1 := hA6' x hx
              exact ⟨h1.2.2.2.2.2, h1.1, h1.2.1, h1.2.2.1, h1.2.2.2.1, fun y hy => (hown'.out y hy).2.2.2.2.2.2 x hx⟩
            · have h1 := hown'.out x hx
              exact ⟨h1.1, h1.2.1, h1.2.2.1, h1.2.2.2.1⟩
            · have h0 := hlo.2.2.2.2
              have h1 := hf10.size
              have h2 := hf11.size
              have h3 := hf12.size
              omega
          · exact (hD10.away hf11 (by simp; omega)).away hf12 (by simp; omega)
          · have hB2 := hlo.2.2.2.2
            have h6 := hfr.size
            have h8 := hf8.size
            have h9 := hf9.size
            have h10 := hf10.size
            have h11 := hf11.size
            have hw6 : Below B w wr := (hf1.then hfr).below hB2 (by simp)
            exact ((((hw6.trans (hf8.below (by omega) (by simp; omega))).trans (hf9.below (by omega) (by simp; omega))).trans (hf10.below (by omega) (by simp))).trans (hf11.below (by omega) (by simp; omega))).trans (hf12.below (by omega) (by simp; omega))
          · have h6 := hfr.size
            have h8 := hf8.size
            have h9 := hf9.size
            have h10 := hf10.size
            have h11 := hf11.size
            refine ⟨⟨[j, d, k, m], ?_, fun x hx => by simp at hx; rcases hx with h | h | h | h <;> simp [h]⟩, fun x hx => ?_⟩
            rotate_left
            · obtain ⟨v, hv, ho⟩ := hx
              have hj10 : j < w10.heap.size := (Array.getElem?_eq_some_iff.1 hblk10).1
              have hrow := (hf12.block j (Nat.lt_of_lt_of_le hj10 hf11.size) (by simp; omega)).trans (b1.out.trans rfl)
              have h4' : some (Value.slice C' M cc') = some v := (cell_of_row _ _ 4 _ _ _ hrow).symm.trans hv
              injection h4' with h4'
              subst h4'
              rw [hM.out] at hlt10
              have := (hlt10 x ho).1
              exact .inr (by omega)
            refine ((((((hf1.then hfr).mono (S' := [j, d, k, m]) (by simp)).trans hf8 (fun x hx => ?_)).trans hf9 (fun x hx => ?_)).trans hf10 (by simp)).trans hf11 (fun x hx => ?_)).trans hf12 (fun x hx => ?_)
            · left; simp at hx; rcases hx with rfl | rfl <;> simp
            · left; exact hx
            · left; simp at hx; subst hx; simp
            · right; simp at hx; omega

end Go.Proofs.YtiialjncdhhceaaGreat
