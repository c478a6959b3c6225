/- The walk of JournalAgain: it returns true, whatever the input, and writes nothing that was there. -/
import Derived.Test.YtiialjncdhhceaaJrnLaw2
namespace Go.Proofs.Ytiialjncdhhceaa.journalAgain
open Go.RowKit
set_option linter.unusedVariables false
set_option linter.unusedSimpArgs false

theorem arL100 : arL 100 = 46 := by decide

set_option maxHeartbeats 2000000 in
set_option maxRecDepth 100000 in
theorem early1 (A : Option Addr) (n c : Nat) (a1 : Int) (C : Option Addr) (nc cc : Nat) (w : World) (hn : ¬ n ≤ 10) :
    Calls Try.prog 16 #[.slice A n c, .int .u8 a1, .slice C nc cc] w fun e w' => e = .returned (.bool true) ∧ Below w.heap.size w w' := by
  have hi : (10 : Int) < n := by omega
  go_enter Try.func16, Try.ntmps16
  go_wp2_with (go_at_call 53; refine (known14_c _).mono ?_; rintro e w1 ⟨rfl, hb1⟩)
  go_ret
  exact ⟨rfl, hb1⟩

set_option maxHeartbeats 2000000 in
set_option maxRecDepth 100000 in
theorem early2 (A : Option Addr) (n c : Nat) (l : List ByteArray) (a1 : Int) (C : Option Addr) (nc cc : Nat) (w : World) (hR : RSs w A n l) (hs : ∀ r ∈ l, r.size ≤ 281474976710656) (hn : n ≤ 10) (hw : ¬ weightL l ≤ 2000) :
    Calls Try.prog 16 #[.slice A n c, .int .u8 a1, .slice C nc cc] w fun e w' => e = .returned (.bool true) ∧ Below w.heap.size w w' := by
  have hi : ¬ (10 : Int) < n := by omega
  have hi2 : (2000 : Int) < weightL l := by omega
  replace hs := hid hs
  go_enter Try.func16, Try.ntmps16
  go_wp2_with (go_at_call 53; refine (known14_c _).mono ?_; rintro e w1 ⟨rfl, hb1⟩)
  have hR1 : RSs w1 A n l := hR.kept' (fr_of_below hb1) (by simp)
  refine (weight_c A n c l w1 hR1 hs.out (by omega)).mono ?_
  rintro e w2 ⟨rfl, rfl⟩
  go_wp2_with fail
  go_ret
  exact ⟨rfl, hb1⟩

set_option maxHeartbeats 2000000 in
set_option maxRecDepth 100000 in
theorem early3 (A : Option Addr) (n c : Nat) (l : List ByteArray) (a1 : Int) (C : Option Addr) (nc cc : Nat) (w : World) (hR : RSs w A n l) (hs : ∀ r ∈ l, r.size ≤ 281474976710656) (hn : n ≤ 10) (hw : weightL l ≤ 2000) (hc : ¬ nc ≤ 50) :
    Calls Try.prog 16 #[.slice A n c, .int .u8 a1, .slice C nc cc] w fun e w' => e = .returned (.bool true) ∧ Below w.heap.size w w' := by
  have hi : ¬ (10 : Int) < n := by omega
  have hi2 : ¬ (2000 : Int) < weightL l := by omega
  have hi3 : (50 : Int) < nc := by omega
  replace hs := hid hs
  go_enter Try.func16, Try.ntmps16
  go_wp2_with (go_at_call 53; refine (known14_c _).mono ?_; rintro e w1 ⟨rfl, hb1⟩)
  have hR1 : RSs w1 A n l := hR.kept' (fr_of_below hb1) (by simp)
  refine (weight_c A n c l w1 hR1 hs.out (by omega)).mono ?_
  rintro e w2 ⟨rfl, rfl⟩
  go_wp2_with fail
  go_ret
  exact ⟨rfl, hb1⟩

set_option maxHeartbeats 4000000 in
set_option maxRecDepth 100000 in
theorem main (A : Option Addr) (n c : Nat) (l : List ByteArray) (a1 : Int) (C : Option Addr) (nc cc : Nat) (ch : List UInt8) (w : World) (hR : RSs w A n l) (hs : ∀ r ∈ l, r.size ≤ 281474976710656) (hC : RB w C nc ch) (hcc : nc ≤ cc)
    (hnc : n ≤ c) (hn : n ≤ 10) (hww : weightL l ≤ 2000) (hch : nc ≤ 50) (h1 : 0 ≤ a1 ∧ a1 ≤ 255) :
    Calls Try.prog 16 #[.slice A n c, .int .u8 a1, .slice C nc cc] w fun e w' => e = .returned (.bool true) ∧ Below w.heap.size w w' := by
  have hi : ¬ (10 : Int) < n := by omega
  have hi2 : ¬ (2000 : Int) < weightL l := by omega
  have hi3 : ¬ (50 : Int) < nc := by omega
  have hll := hR.1
  have hsl := hid (size_of_weight hww)
  obtain ⟨T, hT⟩ : ∃ T : Nat, a1 % 6 = (T : Int) := ⟨(a1 % 6).toNat, by have := Int.emod_nonneg a1 (show (6 : Int) ≠ 0 by omega); omega⟩
  have hT6 : T < 6 := by have := Int.emod_lt_of_pos a1 (show (0 : Int) < 6 by omega); omega
  have hT6i : (T : Int) < 6 := by omega
  have hA0 := hid (show n ≠ 0 → ∀ a, A = some a → a.block < w.heap.size from fun h => hR.lt h)
  have hC0 := hid (show nc ≠ 0 → ∀ a, C = some a → a.block < w.heap.size from fun h => hC.lt h)
  replace hs := hid hs
  replace hww := hid hww
  replace hll := hid hll
  go_enter Try.func16, Try.ntmps16
  go_wp2_with (go_at_call 53; refine (known14_c _).mono ?_; rintro e w1 ⟨rfl, hb1⟩)
  have hs1 := hb1.size
  have hR1 : RSs w1 A n l := hR.kept' (fr_of_below hb1) (by simp)
  refine (weight_c A n c l w1 hR1 hs.out (by omega)).mono ?_
  rintro e w1' ⟨rfl, rfl⟩
  go_wp2_with fail
  refine (New_c 100 100 (by decide) w1).mono ?_
  rintro e w2 ⟨d, k, m, rfl, hD2, hlo, hf2⟩
  have hs2 := hf2.size
  go_wp2_with fail
  refine (Format_new w.heap.size d k m _ w2 hD2 rfl (by decide) (fun _ => rfl) (by decide) (by omega)).mono ?_
  rintro e w3 ⟨j, rfl, hJ3, hD3, hf3⟩
  have hH3 : Holds (formS (DSt.new 100)) 0 0 [] := formS_holds _ (by decide) (fun _ => rfl)
  have hb3 : Below w.heap.size w w3 := (hb1.trans (hf2.below hs1 (by simp))).trans (hf3.below (by omega) (by simp; omega))
  have q3 : (formS (DSt.new 100)).offAt = 0 ∧ (formS (DSt.new 100)).n = 100 ∧ (formS (DSt.new 100)).steps = 5 := ⟨rfl, rfl, rfl⟩
  generalize formS (DSt.new 100) = s3 at *
  have hlo3 := hJ3.lo
  have hR3 : RSs w3 A n l := hR.kept' (fr_of_below hb3) (by simp)
  replace q3 := hid q3
  go_wp2_with fail
  refine (Replace_ok w.heap.size j d k m 0 0 [] A n c l s3 w3 hJ3 hD3 hH3 q3.out.1 (by have := q3.out; omega) hR3 (by intro h a ha; have := hA0.out h a ha; omega)
    (by intro r hr; have := hsl.out r hr; omega) (by rw [q3.out.2.1, arL100]; have := hww.out; omega)).mono ?_
  rintro e w4 ⟨rfl, s4, hJ4, hD4, hH4, q41, q42, q43, hb4⟩
  rw [q3.out.2.1] at q42
  have q44 : s4.steps ≤ 1009 := by have := q3.out; omega
  clear q43
  go_wp2_with fail
  go_loopw [8, 10] (fun jv iv wr => ∃ i : Nat, i ≤ T ∧ iv = .int .i64 i ∧ ∃ j hd s, jv = .pointer (some ⟨j, 0, none⟩) ∧ IsJ wr w.heap.size j d k m hd 1 l ∧ IsDisk wr d k m s ∧ Holds s hd 1 l ∧ s.offAt = 0 ∧ s.n = 100 ∧ s.steps ≤ 1009 ∧ Below w.heap.size w wr) (fun _ iv _ => T - (intOf iv).toNat)
  case atStart => exact ⟨0, by omega, rfl, j, _, s4, rfl, hJ4, hD4, hH4, q41, q42, q44, hb3.trans hb4⟩
  case round =>
    obtain ⟨i, hiT, rfl, j', hd, s, rfl, hJ, hD, hH, q1, q2, q4, hb⟩ := hrel
    have hlo5 := hJ.lo
    have hlt5 := hD.lts
    by_cases hin : i < T
    · have hiI : (i : Int) < T := by omega
      go_wp2_with fail
      refine (Crash_c d k m s C nc cc ch wr hD (hC.keptN hb) hcc (by intro h a ha; have := hC0.out h a ha; omega)).mono ?_
      rintro e w7 ⟨rfl, hD7, hf7⟩
      have hb7 : Below w.heap.size w w7 := hb.trans (hf7.below hlo5.2.2.2.2 (by simp; omega))
      have hs7 := hb7.size
      go_wp2_with fail
      refine (Open_ok w.heap.size d k m _ 1 l (s.crash ch) w7 hD7 (hH.crash _) (DSt.off_zero rfl) (by omega)).mono ?_
      rintro e w8 ⟨j8, v8, rfl, hJ8, hO8, hf8⟩
      obtain ⟨A8, c8, rfl, hc8, hR8, _⟩ := hO8.form
      have hb8 : Below w.heap.size w w8 := hb7.trans (hf8.below (by omega) (by simp))
      have hRi8 : RSs w8 A n l := hR.kept' (fr_of_below hb8) (by simp)
      rw [hll.out] at hR8 hc8 ⊢
      clear hO8
      go_wp2_with fail
      refine (texts_same A8 n c8 A c l w8 hR8 hRi8).mono ?_
      rintro e w9 ⟨rfl, hf9⟩
      go_wp2_with fail
      try go_frame
      go_roundw
      case rel => exact ⟨i + 1, by omega, rfl, j8, _, s.crash ch, rfl, hJ8.fr hf9, (hD7.fr hf8).fr hf9, hH.crash _, rfl, q2, q4, hb8.trans (hf9.below (by have := hb8.size; omega) (by simp))⟩
      case measure => simp [intOf]; omega
    · have hie : i = T := by omega
      subst hie
      go_wp2_with fail
      refine (Append_ok w.heap.size j' d k m hd 1 l ⟨#[109, 111, 114, 101]⟩ s wr hJ hD hH q1 (by omega) (by decide) (by rw [q2, arL100]; have := recsB_weight l; have := hww.out; have : (⟨#[109, 111, 114, 101]⟩ : ByteArray).size = 4 := rfl; omega) (by have := hll.out; omega)).mono ?_
      rintro e w5 ⟨rfl, s5, hJ5, hD5, hH5, q51, q52, q53, hb5⟩
      have hbw5 := hb.trans hb5
      go_wp2_with fail
      refine (Crash_c d k m s5 C nc cc ch w5 hD5 (hC.keptN hbw5) hcc (by intro h a ha; have := hC0.out h a ha; omega)).mono ?_
      rintro e w7 ⟨rfl, hD7, hf7⟩
      have hb7 : Below w.heap.size w w7 := hbw5.trans (hf7.below hJ5.lo.2.2.2.2 (by simp; omega))
      have hs7 := hb7.size
      go_wp2_with fail
      refine (Open_ok w.heap.size d k m _ 1 _ (s5.crash ch) w7 hD7 (hH5.crash _) (DSt.off_zero rfl) (by omega)).mono ?_
      rintro e w8 ⟨j8, v8, rfl, hJ8, hO8, hf8⟩
      obtain ⟨A8, c8, rfl, hc8, hR8, _⟩ := hO8.form
      have hb8 : Below w.heap.size w w8 := hb7.trans (hf8.below (by omega) (by simp))
      have hRi8 : RSs w8 A n l := hR.kept' (fr_of_below hb8) (by simp)
      have hlen : (l ++ [(⟨#[109, 111, 114, 101]⟩ : ByteArray)]).length = n + 1 := by rw [List.length_append, hll.out]; rfl
      rw [hlen] at hR8 hc8 ⊢
      have hR8t := RSs.take hR8 n (by omega)
      rw [List.take_append_of_le_length (by have := hll.out; omega), List.take_of_length_le (by have := hll.out; omega)] at hR8t
      obtain ⟨b8, off8, rfl, hcell⟩ := str_cell hR8 n (by omega)
      have hlast : (l ++ [(⟨#[109, 111, 114, 101]⟩ : ByteArray)])[n]'(by omega) = ⟨#[109, 111, 114, 101]⟩ := by
        rw [List.getElem_append_right (by have := hll.out; omega)]; simp
      rw [hlast] at hcell
      clear hO8 hlast hlen
      go_wp2_with fail
      refine (texts_same _ n c8 A c l w8 hR8t hRi8).mono ?_
      rintro e w9 ⟨rfl, hf9⟩
      have hcell9 := hf9.cell hcell (by simp)
      clear hcell
      go_wp2_with fail
      go_ret
      exact ⟨rfl, hb8.trans (hf9.below (by have := hb8.size; omega) (by simp))⟩

theorem walk (A : Option Addr) (n c : Nat) (l : List ByteArray) (a1 : Int) (C : Option Addr) (nc cc : Nat) (ch : List UInt8) (w : World) (hR : RSs w A n l) (hb : n ≤ c ∧ ∀ r ∈ l, r.size ≤ 281474976710656) (w1 : (Lit.int .u8 a1).wf = true) (hC : RB w C nc ch) (hcc : nc ≤ cc) :
    Calls Try.prog 16 #[.slice A n c, .int .u8 a1, .slice C nc cc] w fun e w' => e = .returned (.bool true) ∧ Below w.heap.size w w' := by
  have h1 : 0 ≤ a1 ∧ a1 ≤ 255 := by simpa [Lit.wf, IntKind.min, IntKind.max, IntKind.signed, IntKind.bits] using w1
  by_cases hn : n ≤ 10
  · by_cases hw : weightL l ≤ 2000
    · by_cases hch : nc ≤ 50
      · exact main A n c l a1 C nc cc ch w hR hb.2 hC hcc hb.1 hn hw hch h1
      · exact early3 A n c l a1 C nc cc w hR hb.2 hn hw hch
    · exact early2 A n c l a1 C nc cc w hR hb.2 hn hw
  · exact early1 A n c a1 C nc cc w hn
end Go.Proofs.Ytiialjncdhhceaa.journalAgain
