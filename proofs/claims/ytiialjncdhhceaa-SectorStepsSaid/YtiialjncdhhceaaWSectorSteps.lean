/- The walk of SectorSteps: it returns true, whatever the input, and writes nothing that was there. -/
import Derived.Test.YtiialjncdhhceaaSecMore
namespace Go.Proofs.Ytiialjncdhhceaa.sectorSteps
open Go.RowKit
set_option linter.unusedVariables false
set_option linter.unusedSimpArgs false

set_option maxHeartbeats 4000000 in
set_option maxRecDepth 100000 in
theorem walk (n0 : Int) (A : Option Addr) (n c : Nat) (l : List UInt8) (w : World) (hn0 : (Lit.int .i64 n0).wf = true) (hb : RB w A n l) (hnc : n ≤ c) :
    Calls Try.prog 13 #[.int .i64 n0, .slice A n c] w fun e w' => e = .returned (.bool true) ∧ Below w.heap.size w w' := by
  have hnb : -9223372036854775808 ≤ n0 ∧ n0 ≤ 9223372036854775807 := by simpa [Lit.wf, IntKind.min, IntKind.max, IntKind.signed, IntKind.bits] using hn0
  clear hn0
  have hln := hb.1
  by_cases hbig : 60 < n
  · have hbig' : (60 : Int) < n := by omega
    clear hbig
    go_enter Try.func13, Try.ntmps13
    go_wp2_with (go_at_call 38; refine (known13_c _).mono ?_; rintro e w1 ⟨rfl, hf1⟩)
    all_goals go_ret
    all_goals exact ⟨rfl, hf1.all⟩
  have hbig' : ¬ (60 : Int) < n := by omega
  by_cases hz : n = 0
  · clear hb
    rcases (show n0 ≤ 1000 ∨ 1000 < n0 by omega) with h0 | h0
    · obtain ⟨N, hN⟩ : ∃ N : Nat, min (max n0 0) 1000 = (N : Int) := ⟨(min (max n0 0) 1000).toNat, by omega⟩
      go_enter Try.func13, Try.ntmps13
      go_wp2_with (go_at_call 38; refine (known13_c _).mono ?_; rintro e w1 ⟨rfl, hf1⟩)
      refine (New_c n0 N (by omega) w1).mono ?_
      rintro e w2 ⟨d, k, m, rfl, hD2, hlo, hf2⟩
      have hF2 := hf1.then hf2
      have hs1 := hf1.size
      go_wp2_with fail
      refine (Len_c d k m (DSt.new N) w2 hD2).mono ?_
      rintro e w3 ⟨rfl, rfl⟩
      have hNN : (((DSt.new N).n : Nat) : Int) = (N : Int) := by show (N : Int) = _; omega
      rw [hNN]
      clear hNN
      have hmm : max 0 (min n0 1000) = (N : Int) := by omega
      have hmm2 : (((N : Int) : Int) != (N : Int)) = false := by simp
      go_wp2_with fail
      clear hmm hmm2
      replace h0 := hid h0
      replace hN := hid hN
      go_loopw [6, 7] (fun sv iv wr => ∃ (i : Nat) (s : DSt), i ≤ n ∧ iv = .int .i64 i ∧ sv = .int .i64 s.steps ∧ Fr [] w wr ∧ IsDisk wr d k m s ∧ s.n = N ∧ s.offAt = 0 ∧ s.steps ≤ i) (fun _ iv _ => n - (intOf iv).toNat)
      case atStart => exact ⟨0, _, by omega, rfl, rfl, hF2, hD2, rfl, rfl, Nat.le_refl _⟩
      case round =>
        obtain ⟨i, s, hi, rfl, rfl, hfr, hD, hsn, hso, hst⟩ := hrel
        clear hF2 hD2 hf1 hf2
        have hie : i = n := by omega
        subst hie
        go_wp2_with fail
        go_ret
        exact ⟨rfl, hfr.all⟩
    · obtain ⟨N, hN⟩ : ∃ N : Nat, N = 1000 := ⟨_, rfl⟩
      obtain ⟨r, hr⟩ : ∃ r : Int, n0 % 3 = r := ⟨_, rfl⟩
      have hr0 : 0 ≤ r ∧ r < 3 := by omega
      go_enter Try.func13, Try.ntmps13
      go_wp2_with (go_at_call 38; refine (known13_c _).mono ?_; rintro e w1 ⟨rfl, hf1⟩)
      refine (New_c (1000 + r) N (by omega) w1).mono ?_
      rintro e w2 ⟨d, k, m, rfl, hD2, hlo, hf2⟩
      have hF2 := hf1.then hf2
      have hs1 := hf1.size
      go_wp2_with fail
      refine (Len_c d k m (DSt.new N) w2 hD2).mono ?_
      rintro e w3 ⟨rfl, rfl⟩
      have hNN : (((DSt.new N).n : Nat) : Int) = (N : Int) := by show (N : Int) = _; omega
      rw [hNN]
      clear hNN
      have hmm : max 0 (min (1000 + r) 1000) = (N : Int) := by omega
      have hmm2 : (((N : Int) : Int) != (N : Int)) = false := by simp
      go_wp2_with fail
      clear hmm hmm2
      replace h0 := hid h0
      replace hr := hid hr
      replace hr0 := hid hr0
      replace hN := hid hN
      go_loopw [6, 7] (fun sv iv wr => ∃ (i : Nat) (s : DSt), i ≤ n ∧ iv = .int .i64 i ∧ sv = .int .i64 s.steps ∧ Fr [] w wr ∧ IsDisk wr d k m s ∧ s.n = N ∧ s.offAt = 0 ∧ s.steps ≤ i) (fun _ iv _ => n - (intOf iv).toNat)
      case atStart => exact ⟨0, _, by omega, rfl, rfl, hF2, hD2, rfl, rfl, Nat.le_refl _⟩
      case round =>
        obtain ⟨i, s, hi, rfl, rfl, hfr, hD, hsn, hso, hst⟩ := hrel
        clear hF2 hD2 hf1 hf2
        have hie : i = n := by omega
        subst hie
        go_wp2_with fail
        go_ret
        exact ⟨rfl, hfr.all⟩
  · obtain ⟨b, off, rfl, hc⟩ : ∃ b off, A = some ⟨b, off, none⟩ ∧ ∀ j (h : j < l.length), w.cell? ⟨b, off + j, none⟩ = some (.int .u8 (l[j].toNat : Int)) := by
      rcases hb.2.2 with h0 | h0
      · exact absurd h0 hz
      · exact h0
    clear hb
    rcases (show n0 ≤ 1000 ∨ 1000 < n0 by omega) with h0 | h0
    · obtain ⟨N, hN⟩ : ∃ N : Nat, min (max n0 0) 1000 = (N : Int) := ⟨(min (max n0 0) 1000).toNat, by omega⟩
      go_enter Try.func13, Try.ntmps13
      go_wp2_with (go_at_call 38; refine (known13_c _).mono ?_; rintro e w1 ⟨rfl, hf1⟩)
      refine (New_c n0 N (by omega) w1).mono ?_
      rintro e w2 ⟨d, k, m, rfl, hD2, hlo, hf2⟩
      have hF2 := hf1.then hf2
      have hs1 := hf1.size
      go_wp2_with fail
      refine (Len_c d k m (DSt.new N) w2 hD2).mono ?_
      rintro e w3 ⟨rfl, rfl⟩
      have hNN : (((DSt.new N).n : Nat) : Int) = (N : Int) := by show (N : Int) = _; omega
      rw [hNN]
      clear hNN
      have hmm : max 0 (min n0 1000) = (N : Int) := by omega
      have hmm2 : (((N : Int) : Int) != (N : Int)) = false := by simp
      go_wp2_with fail
      clear hmm hmm2
      replace h0 := hid h0
      replace hN := hid hN
      go_loopw [6, 7] (fun sv iv wr => ∃ (i : Nat) (s : DSt), i ≤ n ∧ iv = .int .i64 i ∧ sv = .int .i64 s.steps ∧ Fr [] w wr ∧ IsDisk wr d k m s ∧ s.n = N ∧ s.offAt = 0 ∧ s.steps ≤ i) (fun _ iv _ => n - (intOf iv).toNat)
      case atStart => exact ⟨0, _, by omega, rfl, rfl, hF2, hD2, rfl, rfl, Nat.le_refl _⟩
      case round =>
        obtain ⟨i, s, hi, rfl, rfl, hfr, hD, hsn, hso, hst⟩ := hrel
        clear hF2 hD2 hf1 hf2
        by_cases hin : i < n
        · have hci := hfr.cell (hc i (by omega)) (by simp)
          obtain ⟨x, hx⟩ : ∃ x, l[i]'(by omega) = x := ⟨_, rfl⟩
          rw [hx] at hci
          have hxl := x.toNat_lt
          clear hx
          have hlt := hD.lts
          have hbb : b < w.heap.size := World.block_lt_of_cell? w ⟨b, off + 0, none⟩ (hc 0 (by omega))
          clear hc
          rcases (show (x.toNat : Int) % 4 = 0 ∨ (x.toNat : Int) % 4 = 1 ∨ (x.toNat : Int) % 4 = 2 ∨ (x.toNat : Int) % 4 = 3 by omega) with h4 | h4 | h4 | h4
          · go_wp2_with fail
            have hb3 : RB (wr.alloc (.cells #[.int .u8 1] 5)) (some ⟨wr.heap.size, 0, none⟩) 1 [1] := lit_rb13 [1] 5 (0, 0) (by simp)
            have hD3 := hD.fr ((Fr.refl [] wr).alloc (.cells #[.int .u8 1] 5))
            have hf3 := hfr.alloc (.cells #[.int .u8 1] 5)
            have hci3 := ((Fr.refl [] wr).alloc (.cells #[.int .u8 1] 5)).cell hci (by simp)
            generalize wr.alloc (.cells #[.int .u8 1] 5) = w3 at *
            have hloadR : ∀ w' : World, Fr [d, m] w3 w' → (Instr.loadAt 5 (.pointer (some ⟨b, off + i, none⟩))).run Try.prog w' = .ok (.int .u8 (x.toNat : Int)) w' := fun w' hf => load_u8 (hf.cell hci3 (by simp; omega))
            by_cases hxN : x.toNat < N
            · have hxN' : (x.toNat : Int) < (s.step.n : Int) := by show (x.toNat : Int) < (s.n : Int); omega
              refine (Write_ok d k m s x.toNat (some ⟨wr.heap.size, 0, none⟩) 1 1 [1] w3 hD3 hb3 (by intro _ z hz; cases hz; simp only; omega) (by omega) hso (by omega) (by decide) (x.toNat : Int) rfl).mono ?_
              rintro e w4 ⟨rfl, hD4, hf4⟩
              have hf04 : Fr [] w w4 := hf3.past hf4 (by intro z hz; simp at hz; omega)
              have hci4 := hf4.cell hci3 (by simp; omega)
              have hci4' : w4.drew.cell? ⟨b, off + i, none⟩ = _ := hci4
              clear hci4 hci3 hci
              go_wp2_with fail
              refine wp_region_textS' (fun w' => Fr [] w4 w') [5] [] [] [(9, [])] (by kernel_rfl) (by kernel_rfl) (by kernel_rfl) ((Fr.refl [] w4).drew) ?_
              intro K hK
              simp only [cutAt, List.take_succ_cons, List.take_zero, List.drop_succ_cons, List.drop_zero, List.take_nil, List.drop_nil, wpSegs, List.map_cons, List.map_nil, List.nil_append, List.cons_append]
              go_wp2_with fail
              refine (Len_c d k m _ w4.drew (hD4.fr (Fr.refl [] w4).drew)).mono ?_
              rintro e w5 ⟨rfl, rfl⟩
              have hxN2 : (x.toNat : Int) < ((s.step.put x.toNat [1]).n : Int) := hxN'
              go_wp2_with fail
              refine ⟨fun w' => Fr [] w4 w', fun _ h => h, (Fr.refl [] w4).drew, ?_⟩
              go_wp2_with fail
              refine ⟨trivial, hK _ _ (by kernel_rfl) ⟨fun o ho => ?_, trivial⟩ ?_⟩
              · cases ho
                exact gives_load rfl (fun w' h => hloadR w' (hf4.trans h (by simp)))
              go_wp2_with fail
              refine (Steps_c d k m _ w4.drew (hD4.fr (Fr.refl [] w4).drew)).mono ?_
              rintro e w5 ⟨rfl, rfl⟩
              have hse : (((s.step.put x.toNat [1]).steps : Nat) : Int) = (s.steps : Int) + 1 := by show ((s.steps + 1 : Nat) : Int) = _; omega
              rw [hse]
              go_wp2_with fail
              try go_frame
              go_roundw
              case rel => exact ⟨i + 1, s.step.put x.toNat [1], by omega, rfl, by rw [hse], hf04.drew, hD4.fr (Fr.refl [] w4).drew, hsn, hso, by show s.steps + 1 ≤ i + 1; omega⟩
              case measure => simp [intOf]; omega
            · have hxN' : ¬ (x.toNat : Int) < (s.step.n : Int) := by show ¬ (x.toNat : Int) < (s.n : Int); omega
              refine (Write_bad d k m s (x.toNat : Int) (some ⟨wr.heap.size, 0, none⟩) 1 1 [1] w3 hD3 hb3 (by intro _ z hz; cases hz; simp only; omega) (by omega) hso (by omega)).mono ?_
              rintro e w4 ⟨rfl, hD4, hf4⟩
              have hf04 : Fr [] w w4 := hf3.past hf4 (by intro z hz; simp at hz; omega)
              have hci4 := hf4.cell hci3 (by simp; omega)
              have hci4' : w4.drew.cell? ⟨b, off + i, none⟩ = _ := hci4
              clear hci4 hci3 hci
              go_wp2_with fail
              refine wp_region_textS' (fun w' => Fr [] w4 w') [5] [] [] [(9, [])] (by kernel_rfl) (by kernel_rfl) (by kernel_rfl) ((Fr.refl [] w4).drew) ?_
              intro K hK
              simp only [cutAt, List.take_succ_cons, List.take_zero, List.drop_succ_cons, List.drop_zero, List.take_nil, List.drop_nil, wpSegs, List.map_cons, List.map_nil, List.nil_append, List.cons_append]
              go_wp2_with fail
              refine (Len_c d k m _ w4.drew (hD4.fr (Fr.refl [] w4).drew)).mono ?_
              rintro e w5 ⟨rfl, rfl⟩
              go_wp2_with fail
              refine ⟨fun w' => Fr [] w4 w', fun _ h => h, (Fr.refl [] w4).drew, ?_⟩
              go_wp2_with fail
              refine ⟨trivial, hK _ _ (by kernel_rfl) ⟨fun o ho => ?_, trivial⟩ ?_⟩
              · cases ho
                exact gives_load rfl (fun w' h => hloadR w' (hf4.trans h (by simp)))
              go_wp2_with fail
              refine (Steps_c d k m _ w4.drew (hD4.fr (Fr.refl [] w4).drew)).mono ?_
              rintro e w5 ⟨rfl, rfl⟩
              have hse : ((s.step.steps : Nat) : Int) = (s.steps : Int) + 1 := by show ((s.steps + 1 : Nat) : Int) = _; omega
              rw [hse]
              go_wp2_with fail
              try go_frame
              go_roundw
              case rel => exact ⟨i + 1, s.step, by omega, rfl, by rw [hse], hf04.drew, hD4.fr (Fr.refl [] w4).drew, hsn, hso, by show s.steps + 1 ≤ i + 1; omega⟩
              case measure => simp [intOf]; omega
          · obtain ⟨w3, hmk, hr3, hs3, hf3⟩ := make_bytes wr 65 (by omega)
            go_wp2_with fail
            refine (Write_bad d k m s 0 (some ⟨wr.heap.size, 0, none⟩) 65 65 (List.replicate 65 0) w3 (hD.fr hf3) (rb_of_range hr3 (by simp) (by decide)) (by intro _ z hz; cases hz; simp only; omega) (by omega) hso (by right; right; decide)).mono ?_
            rintro e w4 ⟨rfl, hD4, hf4⟩
            have hf04 : Fr [] w w4 := (hfr.then hf3).past hf4 (by intro z hz; simp at hz; omega)
            clear hmk hci
            go_wp2_with fail
            refine (Steps_c d k m _ w4 hD4).mono ?_
            rintro e w5 ⟨rfl, rfl⟩
            have hse : ((s.step.steps : Nat) : Int) = (s.steps : Int) + 1 := by show ((s.steps + 1 : Nat) : Int) = _; omega
            rw [hse]
            go_wp2_with fail
            try go_frame
            go_roundw
            case rel => exact ⟨i + 1, s.step, by omega, rfl, by rw [hse], hf04, hD4, hsn, hso, by show s.steps + 1 ≤ i + 1; omega⟩
            case measure => simp [intOf]; omega
          · go_wp2_with fail
            refine (Flush_ok d k m s wr hD (by omega) hso).mono ?_
            rintro e w4 ⟨rfl, hD4, hf4⟩
            have hf04 : Fr [] w w4 := hfr.past hf4 (by intro z hz; simp at hz; omega)
            clear hci
            go_wp2_with fail
            refine (Steps_c d k m _ w4 hD4).mono ?_
            rintro e w5 ⟨rfl, rfl⟩
            have hse : ((s.step.clean.steps : Nat) : Int) = (s.steps : Int) + 1 := by show ((s.steps + 1 : Nat) : Int) = _; omega
            rw [hse]
            go_wp2_with fail
            try go_frame
            go_roundw
            case rel => exact ⟨i + 1, s.step.clean, by omega, rfl, by rw [hse], hf04, hD4, hsn, hso, by show s.steps + 1 ≤ i + 1; omega⟩
            case measure => simp [intOf]; omega
          · go_wp2_with fail
            refine (Read_any d k m s 0 wr hD).mono ?_
            rintro e w4 ⟨v4, rfl, hf4⟩
            have hf04 : Fr [] w w4 := hfr.then hf4
            have hD4 := hD.fr hf4
            clear hci
            go_wp2_with fail
            refine (Steps_c d k m _ w4 hD4).mono ?_
            rintro e w5 ⟨rfl, rfl⟩
            go_wp2_with fail
            try go_frame
            go_roundw
            case rel => exact ⟨i + 1, s, by omega, rfl, rfl, hf04, hD4, hsn, hso, by omega⟩
            case measure => simp [intOf]; omega
        · have hie : i = n := by omega
          subst hie
          go_wp2_with fail
          go_ret
          exact ⟨rfl, hfr.all⟩
    · obtain ⟨N, hN⟩ : ∃ N : Nat, N = 1000 := ⟨_, rfl⟩
      obtain ⟨r, hr⟩ : ∃ r : Int, n0 % 3 = r := ⟨_, rfl⟩
      have hr0 : 0 ≤ r ∧ r < 3 := by omega
      go_enter Try.func13, Try.ntmps13
      go_wp2_with (go_at_call 38; refine (known13_c _).mono ?_; rintro e w1 ⟨rfl, hf1⟩)
      refine (New_c (1000 + r) N (by omega) w1).mono ?_
      rintro e w2 ⟨d, k, m, rfl, hD2, hlo, hf2⟩
      have hF2 := hf1.then hf2
      have hs1 := hf1.size
      go_wp2_with fail
      refine (Len_c d k m (DSt.new N) w2 hD2).mono ?_
      rintro e w3 ⟨rfl, rfl⟩
      have hNN : (((DSt.new N).n : Nat) : Int) = (N : Int) := by show (N : Int) = _; omega
      rw [hNN]
      clear hNN
      have hmm : max 0 (min (1000 + r) 1000) = (N : Int) := by omega
      have hmm2 : (((N : Int) : Int) != (N : Int)) = false := by simp
      go_wp2_with fail
      clear hmm hmm2
      replace h0 := hid h0
      replace hr := hid hr
      replace hr0 := hid hr0
      replace hN := hid hN
      go_loopw [6, 7] (fun sv iv wr => ∃ (i : Nat) (s : DSt), i ≤ n ∧ iv = .int .i64 i ∧ sv = .int .i64 s.steps ∧ Fr [] w wr ∧ IsDisk wr d k m s ∧ s.n = N ∧ s.offAt = 0 ∧ s.steps ≤ i) (fun _ iv _ => n - (intOf iv).toNat)
      case atStart => exact ⟨0, _, by omega, rfl, rfl, hF2, hD2, rfl, rfl, Nat.le_refl _⟩
      case round =>
        obtain ⟨i, s, hi, rfl, rfl, hfr, hD, hsn, hso, hst⟩ := hrel
        clear hF2 hD2 hf1 hf2
        by_cases hin : i < n
        · have hci := hfr.cell (hc i (by omega)) (by simp)
          obtain ⟨x, hx⟩ : ∃ x, l[i]'(by omega) = x := ⟨_, rfl⟩
          rw [hx] at hci
          have hxl := x.toNat_lt
          clear hx
          have hlt := hD.lts
          have hbb : b < w.heap.size := World.block_lt_of_cell? w ⟨b, off + 0, none⟩ (hc 0 (by omega))
          clear hc
          rcases (show (x.toNat : Int) % 4 = 0 ∨ (x.toNat : Int) % 4 = 1 ∨ (x.toNat : Int) % 4 = 2 ∨ (x.toNat : Int) % 4 = 3 by omega) with h4 | h4 | h4 | h4
          · go_wp2_with fail
            have hb3 : RB (wr.alloc (.cells #[.int .u8 1] 5)) (some ⟨wr.heap.size, 0, none⟩) 1 [1] := lit_rb13 [1] 5 (0, 0) (by simp)
            have hD3 := hD.fr ((Fr.refl [] wr).alloc (.cells #[.int .u8 1] 5))
            have hf3 := hfr.alloc (.cells #[.int .u8 1] 5)
            have hci3 := ((Fr.refl [] wr).alloc (.cells #[.int .u8 1] 5)).cell hci (by simp)
            generalize wr.alloc (.cells #[.int .u8 1] 5) = w3 at *
            have hloadR : ∀ w' : World, Fr [d, m] w3 w' → (Instr.loadAt 5 (.pointer (some ⟨b, off + i, none⟩))).run Try.prog w' = .ok (.int .u8 (x.toNat : Int)) w' := fun w' hf => load_u8 (hf.cell hci3 (by simp; omega))
            by_cases hxN : x.toNat < N
            · have hxN' : (x.toNat : Int) < (s.step.n : Int) := by show (x.toNat : Int) < (s.n : Int); omega
              refine (Write_ok d k m s x.toNat (some ⟨wr.heap.size, 0, none⟩) 1 1 [1] w3 hD3 hb3 (by intro _ z hz; cases hz; simp only; omega) (by omega) hso (by omega) (by decide) (x.toNat : Int) rfl).mono ?_
              rintro e w4 ⟨rfl, hD4, hf4⟩
              have hf04 : Fr [] w w4 := hf3.past hf4 (by intro z hz; simp at hz; omega)
              have hci4 := hf4.cell hci3 (by simp; omega)
              have hci4' : w4.drew.cell? ⟨b, off + i, none⟩ = _ := hci4
              clear hci4 hci3 hci
              go_wp2_with fail
              refine wp_region_textS' (fun w' => Fr [] w4 w') [5] [] [] [(9, [])] (by kernel_rfl) (by kernel_rfl) (by kernel_rfl) ((Fr.refl [] w4).drew) ?_
              intro K hK
              simp only [cutAt, List.take_succ_cons, List.take_zero, List.drop_succ_cons, List.drop_zero, List.take_nil, List.drop_nil, wpSegs, List.map_cons, List.map_nil, List.nil_append, List.cons_append]
              go_wp2_with fail
              refine (Len_c d k m _ w4.drew (hD4.fr (Fr.refl [] w4).drew)).mono ?_
              rintro e w5 ⟨rfl, rfl⟩
              have hxN2 : (x.toNat : Int) < ((s.step.put x.toNat [1]).n : Int) := hxN'
              go_wp2_with fail
              refine ⟨fun w' => Fr [] w4 w', fun _ h => h, (Fr.refl [] w4).drew, ?_⟩
              go_wp2_with fail
              refine ⟨trivial, hK _ _ (by kernel_rfl) ⟨fun o ho => ?_, trivial⟩ ?_⟩
              · cases ho
                exact gives_load rfl (fun w' h => hloadR w' (hf4.trans h (by simp)))
              go_wp2_with fail
              refine (Steps_c d k m _ w4.drew (hD4.fr (Fr.refl [] w4).drew)).mono ?_
              rintro e w5 ⟨rfl, rfl⟩
              have hse : (((s.step.put x.toNat [1]).steps : Nat) : Int) = (s.steps : Int) + 1 := by show ((s.steps + 1 : Nat) : Int) = _; omega
              rw [hse]
              go_wp2_with fail
              try go_frame
              go_roundw
              case rel => exact ⟨i + 1, s.step.put x.toNat [1], by omega, rfl, by rw [hse], hf04.drew, hD4.fr (Fr.refl [] w4).drew, hsn, hso, by show s.steps + 1 ≤ i + 1; omega⟩
              case measure => simp [intOf]; omega
            · have hxN' : ¬ (x.toNat : Int) < (s.step.n : Int) := by show ¬ (x.toNat : Int) < (s.n : Int); omega
              refine (Write_bad d k m s (x.toNat : Int) (some ⟨wr.heap.size, 0, none⟩) 1 1 [1] w3 hD3 hb3 (by intro _ z hz; cases hz; simp only; omega) (by omega) hso (by omega)).mono ?_
              rintro e w4 ⟨rfl, hD4, hf4⟩
              have hf04 : Fr [] w w4 := hf3.past hf4 (by intro z hz; simp at hz; omega)
              have hci4 := hf4.cell hci3 (by simp; omega)
              have hci4' : w4.drew.cell? ⟨b, off + i, none⟩ = _ := hci4
              clear hci4 hci3 hci
              go_wp2_with fail
              refine wp_region_textS' (fun w' => Fr [] w4 w') [5] [] [] [(9, [])] (by kernel_rfl) (by kernel_rfl) (by kernel_rfl) ((Fr.refl [] w4).drew) ?_
              intro K hK
              simp only [cutAt, List.take_succ_cons, List.take_zero, List.drop_succ_cons, List.drop_zero, List.take_nil, List.drop_nil, wpSegs, List.map_cons, List.map_nil, List.nil_append, List.cons_append]
              go_wp2_with fail
              refine (Len_c d k m _ w4.drew (hD4.fr (Fr.refl [] w4).drew)).mono ?_
              rintro e w5 ⟨rfl, rfl⟩
              go_wp2_with fail
              refine ⟨fun w' => Fr [] w4 w', fun _ h => h, (Fr.refl [] w4).drew, ?_⟩
              go_wp2_with fail
              refine ⟨trivial, hK _ _ (by kernel_rfl) ⟨fun o ho => ?_, trivial⟩ ?_⟩
              · cases ho
                exact gives_load rfl (fun w' h => hloadR w' (hf4.trans h (by simp)))
              go_wp2_with fail
              refine (Steps_c d k m _ w4.drew (hD4.fr (Fr.refl [] w4).drew)).mono ?_
              rintro e w5 ⟨rfl, rfl⟩
              have hse : ((s.step.steps : Nat) : Int) = (s.steps : Int) + 1 := by show ((s.steps + 1 : Nat) : Int) = _; omega
              rw [hse]
              go_wp2_with fail
              try go_frame
              go_roundw
              case rel => exact ⟨i + 1, s.step, by omega, rfl, by rw [hse], hf04.drew, hD4.fr (Fr.refl [] w4).drew, hsn, hso, by show s.steps + 1 ≤ i + 1; omega⟩
              case measure => simp [intOf]; omega
          · obtain ⟨w3, hmk, hr3, hs3, hf3⟩ := make_bytes wr 65 (by omega)
            go_wp2_with fail
            refine (Write_bad d k m s 0 (some ⟨wr.heap.size, 0, none⟩) 65 65 (List.replicate 65 0) w3 (hD.fr hf3) (rb_of_range hr3 (by simp) (by decide)) (by intro _ z hz; cases hz; simp only; omega) (by omega) hso (by right; right; decide)).mono ?_
            rintro e w4 ⟨rfl, hD4, hf4⟩
            have hf04 : Fr [] w w4 := (hfr.then hf3).past hf4 (by intro z hz; simp at hz; omega)
            clear hmk hci
            go_wp2_with fail
            refine (Steps_c d k m _ w4 hD4).mono ?_
            rintro e w5 ⟨rfl, rfl⟩
            have hse : ((s.step.steps : Nat) : Int) = (s.steps : Int) + 1 := by show ((s.steps + 1 : Nat) : Int) = _; omega
            rw [hse]
            go_wp2_with fail
            try go_frame
            go_roundw
            case rel => exact ⟨i + 1, s.step, by omega, rfl, by rw [hse], hf04, hD4, hsn, hso, by show s.steps + 1 ≤ i + 1; omega⟩
            case measure => simp [intOf]; omega
          · go_wp2_with fail
            refine (Flush_ok d k m s wr hD (by omega) hso).mono ?_
            rintro e w4 ⟨rfl, hD4, hf4⟩
            have hf04 : Fr [] w w4 := hfr.past hf4 (by intro z hz; simp at hz; omega)
            clear hci
            go_wp2_with fail
            refine (Steps_c d k m _ w4 hD4).mono ?_
            rintro e w5 ⟨rfl, rfl⟩
            have hse : ((s.step.clean.steps : Nat) : Int) = (s.steps : Int) + 1 := by show ((s.steps + 1 : Nat) : Int) = _; omega
            rw [hse]
            go_wp2_with fail
            try go_frame
            go_roundw
            case rel => exact ⟨i + 1, s.step.clean, by omega, rfl, by rw [hse], hf04, hD4, hsn, hso, by show s.steps + 1 ≤ i + 1; omega⟩
            case measure => simp [intOf]; omega
          · go_wp2_with fail
            refine (Read_any d k m s 0 wr hD).mono ?_
            rintro e w4 ⟨v4, rfl, hf4⟩
            have hf04 : Fr [] w w4 := hfr.then hf4
            have hD4 := hD.fr hf4
            clear hci
            go_wp2_with fail
            refine (Steps_c d k m _ w4 hD4).mono ?_
            rintro e w5 ⟨rfl, rfl⟩
            go_wp2_with fail
            try go_frame
            go_roundw
            case rel => exact ⟨i + 1, s, by omega, rfl, rfl, hf04, hD4, hsn, hso, by omega⟩
            case measure => simp [intOf]; omega
        · have hie : i = n := by omega
          subst hie
          go_wp2_with fail
          go_ret
          exact ⟨rfl, hfr.all⟩
end Go.Proofs.Ytiialjncdhhceaa.sectorSteps
