/- The walk of SectorKeeps: it returns true, whatever the input, and writes nothing that was there. -/
import Derived.Test.YtiialjncdhhceaaKnown13
namespace Go.Proofs.Ytiialjncdhhceaa.sectorKeeps
open Go.RowKit
set_option linter.unusedVariables false
set_option linter.unusedSimpArgs false

set_option maxHeartbeats 2000000 in
set_option maxRecDepth 100000 in
theorem walk (la lb : List UInt8) (fl : Bool) (c0 : Int) (w : World) (ha : la.length = 64) (hb : lb.length = 64) (hc0 : (Lit.int .u8 c0).wf = true) :
    Calls Try.prog 11 #[.agg (la.map encB).toArray, .agg (lb.map encB).toArray, .bool fl, .int .u8 c0] w fun e w' => e = .returned (.bool true) ∧ Below w.heap.size w w' := by
  have hc1 : 0 ≤ c0 ∧ c0 ≤ 255 := by simpa [Lit.wf, IntKind.min, IntKind.max, IntKind.signed, IntKind.bits] using hc0
  clear hc0
  obtain ⟨cc, hcc⟩ : ∃ cc : UInt8, c0 = (cc.toNat : Int) := ⟨UInt8.ofNat c0.toNat, by rw [UInt8.toNat_ofNat']; omega⟩
  subst hcc
  go_enter Try.func11, Try.ntmps11
  go_wp2_with fail
  have hba : (w.alloc (.cells (la.map encB).toArray 55)).heap[w.heap.size]? = some (.cells (la.map encB).toArray 55 (0, 0)) := heap_alloc_new _ _
  have hbb : ((w.alloc (.cells (la.map encB).toArray 55)).alloc (.cells (lb.map encB).toArray 55)).heap[w.heap.size + 1]? = some (.cells (lb.map encB).toArray 55 (0, 0)) := by
    have := heap_alloc_new (w.alloc (.cells (la.map encB).toArray 55)) (.cells (lb.map encB).toArray 55)
    simpa using this
  have hf0 : Fr [] (w.alloc (.cells (la.map encB).toArray 55)) ((w.alloc (.cells (la.map encB).toArray 55)).alloc (.cells (lb.map encB).toArray 55)) := (Fr.refl [] _).alloc _
  have hF0 : Fr [] w ((w.alloc (.cells (la.map encB).toArray 55)).alloc (.cells (lb.map encB).toArray 55)) := ((Fr.refl [] w).alloc _).alloc _
  have hs0 : ((w.alloc (.cells (la.map encB).toArray 55)).alloc (.cells (lb.map encB).toArray 55)).heap.size = w.heap.size + 2 := by simp
  have hra := range_fr hf0 (range_of_block hba) (by simp) (by simp)
  have hrb := range_of_block hbb
  clear hba hbb hf0
  generalize ((w.alloc (.cells (la.map encB).toArray 55)).alloc (.cells (lb.map encB).toArray 55)) = w0 at *
  refine (known13_c w0).mono ?_
  rintro e w1 ⟨rfl, hf1⟩
  go_wp2_with fail
  refine (New_c 2 2 (by decide) w1).mono ?_
  rintro e w2 ⟨d, k, m, rfl, hD2, hlo, hf2⟩
  have hf02 := hf1.then hf2
  have hs1 := hf1.size
  go_wp2_with fail
  have hra2 := range_fr hf02 hra (by omega) (by simp)
  refine (Write_ok d k m (DSt.new 2) 0 _ 64 64 la w2 hD2 (rb_of_range hra2 ha (by decide)) (by intro _ z hz; cases hz; simp only; omega) (by decide) rfl (by decide) (by decide) 0 rfl).mono ?_
  obtain ⟨s1, hs1'⟩ : ∃ s1, s1 = (DSt.new 2).step.put 0 la := ⟨_, rfl⟩
  rw [← hs1']
  have q1 : s1.now 0 = la ∧ s1.offAt = 0 ∧ s1.n = 2 ∧ s1.steps = 1 := by
    rw [hs1']
    refine ⟨?_, rfl, rfl, rfl⟩
    rw [DSt.put_now, if_pos rfl]
    exact laid_whole (by rw [ha]; rfl)
  clear hs1'
  rintro e w3 ⟨rfl, hD3, hf3⟩
  have hf03 := hf02.past hf3 (by intro z hz; simp at hz; omega)
  go_wp2_with fail
  refine (Flush_ok d k m s1 w3 hD3 (by omega) q1.2.1).mono ?_
  obtain ⟨s2, hs2'⟩ : ∃ s2, s2 = s1.step.clean := ⟨_, rfl⟩
  rw [← hs2']
  have q2 : s2.now 0 = la ∧ s2.kept 0 = la ∧ s2.offAt = 0 ∧ s2.n = 2 ∧ s2.steps = 2 := by
    rw [hs2']
    refine ⟨q1.1, q1.1, q1.2.1, q1.2.2.1, ?_⟩
    show s1.steps + 1 = 2
    omega
  clear hs2'
  rintro e w4 ⟨rfl, hD4, hf4⟩
  have hf04 := hf03.past hf4 (by intro z hz; simp at hz; omega)
  go_wp2_with fail
  have hrb4 := range_fr hf04 hrb (by omega) (by simp)
  refine (Write_ok d k m s2 0 _ 64 64 lb w4 hD4 (rb_of_range hrb4 hb (by decide)) (by intro _ z hz; cases hz; simp only; omega) (by omega) q2.2.2.1 (by omega) (by decide) 0 rfl).mono ?_
  obtain ⟨s3, hs3'⟩ : ∃ s3, s3 = s2.step.put 0 lb := ⟨_, rfl⟩
  rw [← hs3']
  have q3 : s3.now 0 = lb ∧ s3.kept 0 = la ∧ s3.pend 0 = some lb ∧ s3.offAt = 0 ∧ s3.n = 2 ∧ s3.steps = 3 := by
    have e1 : lb ++ (s2.now 0).drop lb.length = lb := laid_whole (by rw [q2.1, ha, hb])
    rw [hs3']
    refine ⟨?_, q2.2.1, ?_, q2.2.2.1, q2.2.2.2.1, ?_⟩
    · rw [DSt.put_now, if_pos rfl]
      exact e1
    · unfold DSt.put
      dsimp only
      rw [if_pos rfl]
      exact congrArg some e1
    · show s2.steps + 1 = 3
      omega
  clear hs3'
  rintro e w5 ⟨rfl, hD5, hf5⟩
  have hf05 := hf04.past hf5 (by intro z hz; simp at hz; omega)
  cases fl with
  | true =>
    go_wp2_with fail
    refine (Flush_ok d k m s3 w5 hD5 (by omega) q3.2.2.2.1).mono ?_
    obtain ⟨s4, hs4'⟩ : ∃ s4, s4 = s3.step.clean := ⟨_, rfl⟩
    rw [← hs4']
    have q4 : s4.kept 0 = lb ∧ s4.pend 0 = none ∧ s4.offAt = 0 ∧ s4.n = 2 := by
      rw [hs4']
      exact ⟨q3.1, rfl, q3.2.2.2.1, q3.2.2.2.2.1⟩
    clear hs4'
    rintro e wb ⟨rfl, hDb, hfb⟩
    have hf0b := hf05.past hfb (by intro z hz; simp at hz; omega)
    go_wp2_with fail
    have hb6 : RB (wb.alloc (.cells #[.int .u8 (cc.toNat : Int), .int .u8 (cc.toNat : Int)] 5)) (some ⟨wb.heap.size, 0, none⟩) 2 [cc, cc] := lit_rb13 [cc, cc] 5 (0, 0) (by simp)
    have hD6 := hDb.fr ((Fr.refl [] wb).alloc (.cells #[.int .u8 (cc.toNat : Int), .int .u8 (cc.toNat : Int)] 5))
    have hf06 := hf0b.alloc (.cells #[.int .u8 (cc.toNat : Int), .int .u8 (cc.toNat : Int)] 5)
    have hlt5 := hDb.lts
    generalize wb.alloc (.cells #[.int .u8 (cc.toNat : Int), .int .u8 (cc.toNat : Int)] 5) = w6 at *
    refine (Crash_c d k m s4 (some ⟨wb.heap.size, 0, none⟩) 2 2 [cc, cc] w6 hD6 hb6 (Nat.le_refl _) (by intro _ z hz; cases hz; simp only; omega)).mono ?_
    obtain ⟨s5, hs5'⟩ : ∃ s5, s5 = s4.crash [cc, cc] := ⟨_, rfl⟩
    rw [← hs5']
    have q5 : s5.off = false ∧ s5.n = 2 ∧ s5.pend 0 = none ∧ ∀ i, (s5.now 0)[i]? = if i < 64 then lb[i]? else la[i]? := by
      rw [hs5']
      refine ⟨DSt.off_zero rfl, q4.2.2.2, rfl, fun i => ?_⟩
      rw [DSt.crash_now]
      unfold DSt.tornAt
      rw [q4.2.1, q4.1]
      dsimp only
      split
      · rfl
      · rw [List.getElem?_eq_none (by omega), List.getElem?_eq_none (by omega)]
    clear hs5'
    rintro e w7 ⟨rfl, hD7, hf7⟩
    have hf07 := hf06.past hf7 (by intro z hz; simp at hz; omega)
    go_wp2_with fail
    refine (Read_ok d k m s5 0 w7 hD7 q5.1 (by omega) 0 rfl).mono ?_
    rintro e w8 ⟨bx, rfl, ⟨hbx1, hbx2⟩, hr8, ht8, hf8⟩
    have hf08 := hf07.then hf8
    have hD8 := hD7.fr hf8
    have hra8 := range_fr hf08 hra (by omega) (by simp)
    have hrb8 := range_fr hf08 hrb (by omega) (by simp)
    have hXl : (s5.now 0).length = 64 := hD8.ok.now_len 0
    have hlt7 := hD7.lts
    have hs07 := hf07.size
    clear hra hrb hra2 hrb4
    by_cases h255 : (cc.toNat : Int) = 255
    · have h255b : ((cc.toNat : Int) == 255) = true := by simp [h255]
      go_wp2_with fail
      go_loopw [13] (fun kv wr => ∃ q : Nat, q ≤ 64 ∧ kv = .int .i64 q ∧ Fr [] w8 wr) (fun kv _ => 64 - (intOf kv).toNat)
      case atStart => exact ⟨0, by omega, rfl, Fr.refl _ _⟩
      case round =>
        obtain ⟨q, hq, rfl, hfr⟩ := hrel
        by_cases hq64 : q < 64
        · have x1 := range_cell hr8 q (by omega)
          have x2 := range_cell hra8 q (by omega)
          have x3 := range_cell hrb8 q (by omega)
          simp only [Nat.zero_add] at x1 x2 x3
          have y1 := hfr.cell x1 (by simp)
          have y2 := hfr.cell x2 (by simp)
          have y3 := hfr.cell x3 (by simp)
          have hg := q5.2.2.2 q
          clear x1 x2 x3
          have hqK2 : (q : Int) < 64 := by omega
          have hqK3 : ¬ (64 : Int) ≤ (q : Int) := by omega
          have e1 : (s5.now 0)[q]'(by omega) = lb[q]'(by omega) := by
            rw [if_pos hq64, List.getElem?_eq_getElem (by omega), List.getElem?_eq_getElem (by omega)] at hg
            exact Option.some.inj hg
          rw [e1] at y1
          go_wp2_with fail
          refine wp_region_text' (by kernel_rfl) (by kernel_rfl) ?_
          intro K2 hK2
          have z1 : wr.drew.cell? ⟨bx, q, none⟩ = _ := y1
          have z2 : wr.drew.cell? ⟨w.heap.size, q, none⟩ = _ := y2
          have z3 : wr.drew.cell? ⟨w.heap.size + 1, q, none⟩ = _ := y3
          go_wp2_with fail
          refine hK2 _ _ (by kernel_rfl) ?_
          go_wp2_with fail
          go_roundw
          case rel => exact ⟨q + 1, by omega, rfl, hfr.drew⟩
          case measure => simp [intOf]; omega
        · have hqe : q = 64 := by omega
          subst hqe
          have hDr := hD8.fr hfr
          have hf0r := hf08.then hfr
          go_wp2_with fail
          have hb9 : RB (wr.alloc (.cells #[.int .u8 9] 5)) (some ⟨wr.heap.size, 0, none⟩) 1 [9] := lit_rb13 [9] 5 (0, 0) (by simp)
          have hD9 := hDr.fr ((Fr.refl [] wr).alloc (.cells #[.int .u8 9] 5))
          have hf09 := hf0r.alloc (.cells #[.int .u8 9] 5)
          have hfr9 := hfr.alloc (.cells #[.int .u8 9] 5)
          have hltr := hDr.lts
          generalize wr.alloc (.cells #[.int .u8 9] 5) = w9 at *
          refine (Crash_c d k m s5 (some ⟨wr.heap.size, 0, none⟩) 1 1 [9] w9 hD9 hb9 (Nat.le_refl _) (by intro _ z hz; cases hz; simp only; omega)).mono ?_
          rintro e w10 ⟨rfl, hD10, hf10⟩
          have hf010 := hf09.past hf10 (by intro z hz; simp at hz; omega)
          have hr10 := range_fr hf10 (range_fr hfr9 hr8 hbx2 (by simp)) (Nat.lt_of_lt_of_le hbx2 hfr9.size) (by simp; omega)
          go_wp2_with fail
          refine (Read_ok d k m (s5.crash [9]) 0 w10 hD10 (DSt.off_zero rfl) (by show 0 < s5.n; omega) 0 rfl).mono ?_
          have hn6 : (s5.crash [9]).now 0 = s5.now 0 := by
            rw [DSt.crash_now]
            unfold DSt.tornAt DSt.now
            rw [q5.2.2.1]
            rfl
          rw [hn6]
          rintro e w11 ⟨by', rfl, ⟨hby1, hby2⟩, hr11, ht11, hf11⟩
          have hr11b := range_fr hf11 hr10 (Nat.lt_of_lt_of_le hbx2 (Nat.le_trans hfr9.size hf10.size)) (by simp)
          have g1 : (convert 22 9 (.slice (some ⟨by', 0, none⟩) 64 64)).run Try.prog w11 = .ok (.string ⟨(s5.now 0).toArray⟩) w11 := run_str 22 5 9 Try.underlying22 Try.underlying5 Try.underlying9 (rb_of_range (w := w11) hr11 hXl (by decide))
          have g2 : (convert 22 9 (.slice (some ⟨bx, 0, none⟩) 64 64)).run Try.prog w11 = .ok (.string ⟨(s5.now 0).toArray⟩) w11 := run_str 22 5 9 Try.underlying22 Try.underlying5 Try.underlying9 (rb_of_range (w := w11) hr11b hXl (by decide))
          have hfd : Fr [] w w11 := hF0.then (hf010.then hf11)
          clear hr11 hr11b hr10 ht11 hr8 hra8 hrb8
          go_wp2_with fail
          go_ret
          exact ⟨by simp, hfd.all⟩
    · have h255b : ((cc.toNat : Int) == 255) = false := by simp; omega
      go_wp2_with fail
      go_loopw [13] (fun kv wr => ∃ q : Nat, q ≤ 64 ∧ kv = .int .i64 q ∧ Fr [] w8 wr) (fun kv _ => 64 - (intOf kv).toNat)
      case atStart => exact ⟨0, by omega, rfl, Fr.refl _ _⟩
      case round =>
        obtain ⟨q, hq, rfl, hfr⟩ := hrel
        by_cases hq64 : q < 64
        · have x1 := range_cell hr8 q (by omega)
          have x2 := range_cell hra8 q (by omega)
          have x3 := range_cell hrb8 q (by omega)
          simp only [Nat.zero_add] at x1 x2 x3
          have y1 := hfr.cell x1 (by simp)
          have y2 := hfr.cell x2 (by simp)
          have y3 := hfr.cell x3 (by simp)
          have hg := q5.2.2.2 q
          clear x1 x2 x3
          have hqK2 : (q : Int) < 64 := by omega
          have hqK3 : ¬ (64 : Int) ≤ (q : Int) := by omega
          have e1 : (s5.now 0)[q]'(by omega) = lb[q]'(by omega) := by
            rw [if_pos hq64, List.getElem?_eq_getElem (by omega), List.getElem?_eq_getElem (by omega)] at hg
            exact Option.some.inj hg
          rw [e1] at y1
          go_wp2_with fail
          refine wp_region_text' (by kernel_rfl) (by kernel_rfl) ?_
          intro K2 hK2
          have z1 : wr.drew.cell? ⟨bx, q, none⟩ = _ := y1
          have z2 : wr.drew.cell? ⟨w.heap.size, q, none⟩ = _ := y2
          have z3 : wr.drew.cell? ⟨w.heap.size + 1, q, none⟩ = _ := y3
          go_wp2_with fail
          refine hK2 _ _ (by kernel_rfl) ?_
          go_wp2_with fail
          go_roundw
          case rel => exact ⟨q + 1, by omega, rfl, hfr.drew⟩
          case measure => simp [intOf]; omega
        · have hqe : q = 64 := by omega
          subst hqe
          have hDr := hD8.fr hfr
          have hf0r := hf08.then hfr
          go_wp2_with fail
          have hb9 : RB (wr.alloc (.cells #[.int .u8 9] 5)) (some ⟨wr.heap.size, 0, none⟩) 1 [9] := lit_rb13 [9] 5 (0, 0) (by simp)
          have hD9 := hDr.fr ((Fr.refl [] wr).alloc (.cells #[.int .u8 9] 5))
          have hf09 := hf0r.alloc (.cells #[.int .u8 9] 5)
          have hfr9 := hfr.alloc (.cells #[.int .u8 9] 5)
          have hltr := hDr.lts
          generalize wr.alloc (.cells #[.int .u8 9] 5) = w9 at *
          refine (Crash_c d k m s5 (some ⟨wr.heap.size, 0, none⟩) 1 1 [9] w9 hD9 hb9 (Nat.le_refl _) (by intro _ z hz; cases hz; simp only; omega)).mono ?_
          rintro e w10 ⟨rfl, hD10, hf10⟩
          have hf010 := hf09.past hf10 (by intro z hz; simp at hz; omega)
          have hr10 := range_fr hf10 (range_fr hfr9 hr8 hbx2 (by simp)) (Nat.lt_of_lt_of_le hbx2 hfr9.size) (by simp; omega)
          go_wp2_with fail
          refine (Read_ok d k m (s5.crash [9]) 0 w10 hD10 (DSt.off_zero rfl) (by show 0 < s5.n; omega) 0 rfl).mono ?_
          have hn6 : (s5.crash [9]).now 0 = s5.now 0 := by
            rw [DSt.crash_now]
            unfold DSt.tornAt DSt.now
            rw [q5.2.2.1]
            rfl
          rw [hn6]
          rintro e w11 ⟨by', rfl, ⟨hby1, hby2⟩, hr11, ht11, hf11⟩
          have hr11b := range_fr hf11 hr10 (Nat.lt_of_lt_of_le hbx2 (Nat.le_trans hfr9.size hf10.size)) (by simp)
          have g1 : (convert 22 9 (.slice (some ⟨by', 0, none⟩) 64 64)).run Try.prog w11 = .ok (.string ⟨(s5.now 0).toArray⟩) w11 := run_str 22 5 9 Try.underlying22 Try.underlying5 Try.underlying9 (rb_of_range (w := w11) hr11 hXl (by decide))
          have g2 : (convert 22 9 (.slice (some ⟨bx, 0, none⟩) 64 64)).run Try.prog w11 = .ok (.string ⟨(s5.now 0).toArray⟩) w11 := run_str 22 5 9 Try.underlying22 Try.underlying5 Try.underlying9 (rb_of_range (w := w11) hr11b hXl (by decide))
          have hfd : Fr [] w w11 := hF0.then (hf010.then hf11)
          clear hr11 hr11b hr10 ht11 hr8 hra8 hrb8
          go_wp2_with fail
          go_ret
          exact ⟨by simp, hfd.all⟩
  | false =>
    go_wp2_with fail
    have hb6 : RB (w5.alloc (.cells #[.int .u8 (cc.toNat : Int), .int .u8 (cc.toNat : Int)] 5)) (some ⟨w5.heap.size, 0, none⟩) 2 [cc, cc] := lit_rb13 [cc, cc] 5 (0, 0) (by simp)
    have hD6 := hD5.fr ((Fr.refl [] w5).alloc (.cells #[.int .u8 (cc.toNat : Int), .int .u8 (cc.toNat : Int)] 5))
    have hf06 := hf05.alloc (.cells #[.int .u8 (cc.toNat : Int), .int .u8 (cc.toNat : Int)] 5)
    have hlt5 := hD5.lts
    generalize w5.alloc (.cells #[.int .u8 (cc.toNat : Int), .int .u8 (cc.toNat : Int)] 5) = w6 at *
    refine (Crash_c d k m s3 (some ⟨w5.heap.size, 0, none⟩) 2 2 [cc, cc] w6 hD6 hb6 (Nat.le_refl _) (by intro _ z hz; cases hz; simp only; omega)).mono ?_
    obtain ⟨s5, hs5'⟩ : ∃ s5, s5 = s3.crash [cc, cc] := ⟨_, rfl⟩
    rw [← hs5']
    have q5 : s5.off = false ∧ s5.n = 2 ∧ s5.pend 0 = none ∧ ∀ i, (s5.now 0)[i]? = if i < tornN cc then lb[i]? else la[i]? := by
      rw [hs5']
      refine ⟨DSt.off_zero rfl, q3.2.2.2.2.1, rfl, fun i => ?_⟩
      rw [DSt.crash_now]
      unfold DSt.tornAt
      rw [q3.2.2.1, q3.2.1]
      exact torn_get? cc hb ha i
    clear hs5'
    rintro e w7 ⟨rfl, hD7, hf7⟩
    have hf07 := hf06.past hf7 (by intro z hz; simp at hz; omega)
    go_wp2_with fail
    refine (Read_ok d k m s5 0 w7 hD7 q5.1 (by omega) 0 rfl).mono ?_
    rintro e w8 ⟨bx, rfl, ⟨hbx1, hbx2⟩, hr8, ht8, hf8⟩
    have hf08 := hf07.then hf8
    have hD8 := hD7.fr hf8
    have hra8 := range_fr hf08 hra (by omega) (by simp)
    have hrb8 := range_fr hf08 hrb (by omega) (by simp)
    have hXl : (s5.now 0).length = 64 := hD8.ok.now_len 0
    have hlt7 := hD7.lts
    have hs07 := hf07.size
    clear hra hrb hra2 hrb4
    by_cases h255 : (cc.toNat : Int) = 255
    · have h255b : ((cc.toNat : Int) == 255) = true := by simp [h255]
      have hK : tornN cc = 64 := by
        unfold tornN
        rw [if_pos (UInt8.toNat_inj.1 (by show cc.toNat = 255; omega))]
      rw [hK] at q5
      go_wp2_with fail
      go_loopw [13] (fun kv wr => ∃ q : Nat, q ≤ 64 ∧ kv = .int .i64 q ∧ Fr [] w8 wr) (fun kv _ => 64 - (intOf kv).toNat)
      case atStart => exact ⟨0, by omega, rfl, Fr.refl _ _⟩
      case round =>
        obtain ⟨q, hq, rfl, hfr⟩ := hrel
        by_cases hq64 : q < 64
        · have x1 := range_cell hr8 q (by omega)
          have x2 := range_cell hra8 q (by omega)
          have x3 := range_cell hrb8 q (by omega)
          simp only [Nat.zero_add] at x1 x2 x3
          have y1 := hfr.cell x1 (by simp)
          have y2 := hfr.cell x2 (by simp)
          have y3 := hfr.cell x3 (by simp)
          have hg := q5.2.2.2 q
          clear x1 x2 x3
          have hqK2 : (q : Int) < 64 := by omega
          have hqK3 : ¬ (64 : Int) ≤ (q : Int) := by omega
          have e1 : (s5.now 0)[q]'(by omega) = lb[q]'(by omega) := by
            rw [if_pos hq64, List.getElem?_eq_getElem (by omega), List.getElem?_eq_getElem (by omega)] at hg
            exact Option.some.inj hg
          rw [e1] at y1
          go_wp2_with fail
          refine wp_region_text' (by kernel_rfl) (by kernel_rfl) ?_
          intro K2 hK2
          have z1 : wr.drew.cell? ⟨bx, q, none⟩ = _ := y1
          have z2 : wr.drew.cell? ⟨w.heap.size, q, none⟩ = _ := y2
          have z3 : wr.drew.cell? ⟨w.heap.size + 1, q, none⟩ = _ := y3
          go_wp2_with fail
          refine hK2 _ _ (by kernel_rfl) ?_
          go_wp2_with fail
          go_roundw
          case rel => exact ⟨q + 1, by omega, rfl, hfr.drew⟩
          case measure => simp [intOf]; omega
        · have hqe : q = 64 := by omega
          subst hqe
          have hDr := hD8.fr hfr
          have hf0r := hf08.then hfr
          go_wp2_with fail
          have hb9 : RB (wr.alloc (.cells #[.int .u8 9] 5)) (some ⟨wr.heap.size, 0, none⟩) 1 [9] := lit_rb13 [9] 5 (0, 0) (by simp)
          have hD9 := hDr.fr ((Fr.refl [] wr).alloc (.cells #[.int .u8 9] 5))
          have hf09 := hf0r.alloc (.cells #[.int .u8 9] 5)
          have hfr9 := hfr.alloc (.cells #[.int .u8 9] 5)
          have hltr := hDr.lts
          generalize wr.alloc (.cells #[.int .u8 9] 5) = w9 at *
          refine (Crash_c d k m s5 (some ⟨wr.heap.size, 0, none⟩) 1 1 [9] w9 hD9 hb9 (Nat.le_refl _) (by intro _ z hz; cases hz; simp only; omega)).mono ?_
          rintro e w10 ⟨rfl, hD10, hf10⟩
          have hf010 := hf09.past hf10 (by intro z hz; simp at hz; omega)
          have hr10 := range_fr hf10 (range_fr hfr9 hr8 hbx2 (by simp)) (Nat.lt_of_lt_of_le hbx2 hfr9.size) (by simp; omega)
          go_wp2_with fail
          refine (Read_ok d k m (s5.crash [9]) 0 w10 hD10 (DSt.off_zero rfl) (by show 0 < s5.n; omega) 0 rfl).mono ?_
          have hn6 : (s5.crash [9]).now 0 = s5.now 0 := by
            rw [DSt.crash_now]
            unfold DSt.tornAt DSt.now
            rw [q5.2.2.1]
            rfl
          rw [hn6]
          rintro e w11 ⟨by', rfl, ⟨hby1, hby2⟩, hr11, ht11, hf11⟩
          have hr11b := range_fr hf11 hr10 (Nat.lt_of_lt_of_le hbx2 (Nat.le_trans hfr9.size hf10.size)) (by simp)
          have g1 : (convert 22 9 (.slice (some ⟨by', 0, none⟩) 64 64)).run Try.prog w11 = .ok (.string ⟨(s5.now 0).toArray⟩) w11 := run_str 22 5 9 Try.underlying22 Try.underlying5 Try.underlying9 (rb_of_range (w := w11) hr11 hXl (by decide))
          have g2 : (convert 22 9 (.slice (some ⟨bx, 0, none⟩) 64 64)).run Try.prog w11 = .ok (.string ⟨(s5.now 0).toArray⟩) w11 := run_str 22 5 9 Try.underlying22 Try.underlying5 Try.underlying9 (rb_of_range (w := w11) hr11b hXl (by decide))
          have hfd : Fr [] w w11 := hF0.then (hf010.then hf11)
          clear hr11 hr11b hr10 ht11 hr8 hra8 hrb8
          go_wp2_with fail
          go_ret
          exact ⟨by simp, hfd.all⟩
    · have h255b : ((cc.toNat : Int) == 255) = false := by simp; omega
      obtain ⟨K, hK⟩ : ∃ K : Nat, K = tornN cc := ⟨_, rfl⟩
      have hKm : (cc.toNat : Int) % 64 = (K : Int) := by
        rw [hK]
        unfold tornN
        rw [if_neg (by intro h; rw [h] at h255; exact h255 rfl)]
        omega
      rw [← hK] at q5
      clear hK
      go_wp2_with fail
      rw [hKm]
      clear hKm
      go_loopw [13] (fun kv wr => ∃ q : Nat, q ≤ 64 ∧ kv = .int .i64 q ∧ Fr [] w8 wr) (fun kv _ => 64 - (intOf kv).toNat)
      case atStart => exact ⟨0, by omega, rfl, Fr.refl _ _⟩
      case round =>
        obtain ⟨q, hq, rfl, hfr⟩ := hrel
        by_cases hq64 : q < 64
        · have x1 := range_cell hr8 q (by omega)
          have x2 := range_cell hra8 q (by omega)
          have x3 := range_cell hrb8 q (by omega)
          simp only [Nat.zero_add] at x1 x2 x3
          have y1 := hfr.cell x1 (by simp)
          have y2 := hfr.cell x2 (by simp)
          have y3 := hfr.cell x3 (by simp)
          have hg := q5.2.2.2 q
          clear x1 x2 x3
          by_cases hqK : q < K
          · have hqK2 : (q : Int) < (K : Int) := by omega
            have hqK3 : ¬ (K : Int) ≤ (q : Int) := by omega
            have e1 : (s5.now 0)[q]'(by omega) = lb[q]'(by omega) := by
              rw [if_pos hqK, List.getElem?_eq_getElem (by omega), List.getElem?_eq_getElem (by omega)] at hg
              exact Option.some.inj hg
            rw [e1] at y1
            go_wp2_with fail
            refine wp_region_text' (by kernel_rfl) (by kernel_rfl) ?_
            intro K2 hK2
            have z1 : wr.drew.cell? ⟨bx, q, none⟩ = _ := y1
            have z2 : wr.drew.cell? ⟨w.heap.size, q, none⟩ = _ := y2
            have z3 : wr.drew.cell? ⟨w.heap.size + 1, q, none⟩ = _ := y3
            go_wp2_with fail
            refine hK2 _ _ (by kernel_rfl) ?_
            go_wp2_with fail
            go_roundw
            case rel => exact ⟨q + 1, by omega, rfl, hfr.drew⟩
            case measure => simp [intOf]; omega
          · have hqK2 : ¬ (q : Int) < (K : Int) := by omega
            have hqK3 : (K : Int) ≤ (q : Int) := by omega
            have e1 : (s5.now 0)[q]'(by omega) = la[q]'(by omega) := by
              rw [if_neg hqK, List.getElem?_eq_getElem (by omega), List.getElem?_eq_getElem (by omega)] at hg
              exact Option.some.inj hg
            rw [e1] at y1
            go_wp2_with fail
            refine wp_region_text' (by kernel_rfl) (by kernel_rfl) ?_
            intro K2 hK2
            have z1 : wr.drew.cell? ⟨bx, q, none⟩ = _ := y1
            have z2 : wr.drew.cell? ⟨w.heap.size, q, none⟩ = _ := y2
            have z3 : wr.drew.cell? ⟨w.heap.size + 1, q, none⟩ = _ := y3
            go_wp2_with fail
            refine hK2 _ _ (by kernel_rfl) ?_
            go_wp2_with fail
            go_roundw
            case rel => exact ⟨q + 1, by omega, rfl, hfr.drew⟩
            case measure => simp [intOf]; omega
        · have hqe : q = 64 := by omega
          subst hqe
          have hDr := hD8.fr hfr
          have hf0r := hf08.then hfr
          go_wp2_with fail
          have hb9 : RB (wr.alloc (.cells #[.int .u8 9] 5)) (some ⟨wr.heap.size, 0, none⟩) 1 [9] := lit_rb13 [9] 5 (0, 0) (by simp)
          have hD9 := hDr.fr ((Fr.refl [] wr).alloc (.cells #[.int .u8 9] 5))
          have hf09 := hf0r.alloc (.cells #[.int .u8 9] 5)
          have hfr9 := hfr.alloc (.cells #[.int .u8 9] 5)
          have hltr := hDr.lts
          generalize wr.alloc (.cells #[.int .u8 9] 5) = w9 at *
          refine (Crash_c d k m s5 (some ⟨wr.heap.size, 0, none⟩) 1 1 [9] w9 hD9 hb9 (Nat.le_refl _) (by intro _ z hz; cases hz; simp only; omega)).mono ?_
          rintro e w10 ⟨rfl, hD10, hf10⟩
          have hf010 := hf09.past hf10 (by intro z hz; simp at hz; omega)
          have hr10 := range_fr hf10 (range_fr hfr9 hr8 hbx2 (by simp)) (Nat.lt_of_lt_of_le hbx2 hfr9.size) (by simp; omega)
          go_wp2_with fail
          refine (Read_ok d k m (s5.crash [9]) 0 w10 hD10 (DSt.off_zero rfl) (by show 0 < s5.n; omega) 0 rfl).mono ?_
          have hn6 : (s5.crash [9]).now 0 = s5.now 0 := by
            rw [DSt.crash_now]
            unfold DSt.tornAt DSt.now
            rw [q5.2.2.1]
            rfl
          rw [hn6]
          rintro e w11 ⟨by', rfl, ⟨hby1, hby2⟩, hr11, ht11, hf11⟩
          have hr11b := range_fr hf11 hr10 (Nat.lt_of_lt_of_le hbx2 (Nat.le_trans hfr9.size hf10.size)) (by simp)
          have g1 : (convert 22 9 (.slice (some ⟨by', 0, none⟩) 64 64)).run Try.prog w11 = .ok (.string ⟨(s5.now 0).toArray⟩) w11 := run_str 22 5 9 Try.underlying22 Try.underlying5 Try.underlying9 (rb_of_range (w := w11) hr11 hXl (by decide))
          have g2 : (convert 22 9 (.slice (some ⟨bx, 0, none⟩) 64 64)).run Try.prog w11 = .ok (.string ⟨(s5.now 0).toArray⟩) w11 := run_str 22 5 9 Try.underlying22 Try.underlying5 Try.underlying9 (rb_of_range (w := w11) hr11b hXl (by decide))
          have hfd : Fr [] w w11 := hF0.then (hf010.then hf11)
          clear hr11 hr11b hr10 ht11 hr8 hra8 hrb8
          go_wp2_with fail
          go_ret
          exact ⟨by simp, hfd.all⟩
end Go.Proofs.Ytiialjncdhhceaa.sectorKeeps
