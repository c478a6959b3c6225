/- The walk of JournalCuts: it returns true, whatever the input, and writes nothing that was there. -/
import Derived.Test.YtiialjncdhhceaaJrnLaw2
import Derived.Test.YtiialjncdhhceaaJrnFormatO
import Derived.Test.YtiialjncdhhceaaKnown14
namespace Go.Proofs.Ytiialjncdhhceaa.journalCuts
open Go.RowKit
set_option linter.unusedVariables false
set_option linter.unusedSimpArgs false

theorem arL60 : arL 60 = 26 := by decide
theorem power_on {s : DSt} (h0 : s.offAt = 0) (P : Int) (hP : 1 ≤ P ∧ P ≤ 100) : (s.power P).off = false ∧ (s.power P).n = s.n ∧ (s.power P).steps = s.steps ∧ (s.power P).pend = s.pend ∧ (s.power P).kept = s.kept := by
  have e : s.power P = { s with offAt := s.steps + (min P 1099511627776).toNat } := by
    unfold DSt.power
    rw [if_neg (by rw [DSt.off_zero h0]; simp), if_neg (by omega)]
  rw [e]
  refine ⟨?_, rfl, rfl, rfl, rfl⟩
  unfold DSt.off
  simp
  omega

set_option maxHeartbeats 2000000 in
set_option maxRecDepth 100000 in
theorem early1 (A : Option Addr) (n c : Nat) (a1 : Int) (C : Option Addr) (nc cc : Nat) (fr : Bool) (w : World) (hn : ¬ n ≤ 10) :
    Calls Try.prog 20 #[.slice A n c, .int .u8 a1, .slice C nc cc, .bool fr] w fun e w' => e = .returned (.bool true) ∧ Below w.heap.size w w' := by
  have hi : (10 : Int) < n := by omega
  go_enter Try.func20, Try.ntmps20
  go_wp2_with (go_at_call 53; refine (known14_c _).mono ?_; rintro e w1 ⟨rfl, hb1⟩)
  go_ret
  exact ⟨rfl, hb1⟩
set_option maxHeartbeats 2000000 in
set_option maxRecDepth 100000 in
theorem early2 (A : Option Addr) (n c : Nat) (a1 : Int) (C : Option Addr) (nc cc : Nat) (fr : Bool) (w : World) (hn : n ≤ 10) (hc : ¬ nc ≤ 100) :
    Calls Try.prog 20 #[.slice A n c, .int .u8 a1, .slice C nc cc, .bool fr] w fun e w' => e = .returned (.bool true) ∧ Below w.heap.size w w' := by
  have hi : ¬ (10 : Int) < n := by omega
  have hi3 : (100 : Int) < nc := by omega
  go_enter Try.func20, Try.ntmps20
  go_wp2_with (go_at_call 53; refine (known14_c _).mono ?_; rintro e w1 ⟨rfl, hb1⟩)
  go_ret
  exact ⟨rfl, hb1⟩
set_option maxHeartbeats 2000000 in
set_option maxRecDepth 100000 in
theorem early3 (A : Option Addr) (n c : Nat) (l : List ByteArray) (a1 : Int) (C : Option Addr) (nc cc : Nat) (fr : Bool) (w : World) (hR : RSs w A n l) (hs : ∀ r ∈ l, r.size ≤ 281474976710656) (hn : n ≤ 10) (hc : nc ≤ 100) (hw : ¬ weightL l ≤ 1000) :
    Calls Try.prog 20 #[.slice A n c, .int .u8 a1, .slice C nc cc, .bool fr] w fun e w' => e = .returned (.bool true) ∧ Below w.heap.size w w' := by
  have hi : ¬ (10 : Int) < n := by omega
  have hi2 : (1000 : Int) < weightL l := by omega
  have hi3 : ¬ (100 : Int) < nc := by omega
  replace hs := hid hs
  go_enter Try.func20, Try.ntmps20
  go_wp2_with (go_at_call 53; refine (known14_c _).mono ?_; rintro e w1 ⟨rfl, hb1⟩)
  have hR1 : RSs w1 A n l := hR.kept' (fr_of_below hb1) (by simp)
  refine (weight_c A n c l w1 hR1 hs.out (by omega)).mono ?_
  rintro e w2 ⟨rfl, rfl⟩
  go_wp2_with fail
  go_ret
  exact ⟨rfl, hb1⟩

set_option maxHeartbeats 4000000 in
set_option maxRecDepth 100000 in
theorem fresh (A : Option Addr) (n c : Nat) (l : List ByteArray) (a1 : Int) (C : Option Addr) (nc cc : Nat) (ch : List UInt8) (w : World) (hR : RSs w A n l) (hs : ∀ r ∈ l, r.size ≤ 281474976710656) (hC : RB w C nc ch) (hcc : nc ≤ cc)
    (hn : n ≤ 10) (hww : weightL l ≤ 1000) (hch : nc ≤ 100) (h1 : 0 ≤ a1 ∧ a1 ≤ 255) :
    Calls Try.prog 20 #[.slice A n c, .int .u8 a1, .slice C nc cc, .bool true] w fun e w' => e = .returned (.bool true) ∧ Below w.heap.size w w' := by
  have hi : ¬ (10 : Int) < n := by omega
  have hi2 : ¬ (1000 : Int) < weightL l := by omega
  have hi3 : ¬ (100 : Int) < nc := by omega
  obtain ⟨P, hP⟩ : ∃ P : Int, a1 % 12 + 1 = P := ⟨_, rfl⟩
  have hPb : 1 ≤ P ∧ P ≤ 100 := by have := Int.emod_nonneg a1 (show (12 : Int) ≠ 0 by omega); have := Int.emod_lt_of_pos a1 (show (0 : Int) < 12 by omega); omega
  have hC0 := hid (show nc ≠ 0 → ∀ a, C = some a → a.block < w.heap.size from fun h => hC.lt h)
  replace hs := hid hs
  go_enter Try.func20, Try.ntmps20
  go_wp2_with (go_at_call 53; refine (known14_c _).mono ?_; rintro e w1 ⟨rfl, hb1⟩)
  have hs1 := hb1.size
  have hR1 : RSs w1 A n l := hR.kept' (fr_of_below hb1) (by simp)
  refine (weight_c A n c l w1 hR1 hs.out (by omega)).mono ?_
  rintro e w1' ⟨rfl, rfl⟩
  go_wp2_with fail
  refine (New_c 60 60 (by decide) w1).mono ?_
  rintro e w2 ⟨d, k, m, rfl, hD2, hlo, hf2⟩
  have hs2 := hf2.size
  go_wp2_with fail
  refine (Power_c d k m _ P w2 hD2).mono ?_
  obtain ⟨p1, p2, p3, p4, p5⟩ := power_on (s := DSt.new 60) rfl P hPb
  have pnow : ∀ i, ((DSt.new 60).power P).now i = zeros64 := fun i => by unfold DSt.now; rw [p4, p5]; rfl
  have ppend : ∀ i, ((DSt.new 60).power P).pend i = none := fun i => by rw [p4]; rfl
  have p2' : ((DSt.new 60).power P).n = 60 := p2
  have p3' : ((DSt.new 60).power P).steps = 0 := p3
  generalize (DSt.new 60).power P = s1 at *
  clear p2 p3 p4 p5
  rintro e w3 ⟨rfl, hD3, hf3⟩
  have hs3 := hf3.size
  have hb3 : Below w.heap.size w w3 := (hb1.trans (hf2.below hs1 (by simp))).trans (hf3.below (by omega) (by simp; omega))
  have hfm : ∀ t, FormOff s1 t → ∀ ch, NoJ (t.crash ch) ∨ Holds (t.crash ch) 0 0 [] := fun t ht ch => form_off ppend pnow (by omega) ht ch
  have hhold := formS_holds s1 (by omega) pnow
  replace pnow := hid pnow
  replace ppend := hid ppend
  replace hfm := hid hfm
  replace hhold := hid hhold
  go_wp2_with fail
  refine (Format_new_p w.heap.size d k m s1 w3 hD3 p1 ppend.out (by omega) pnow.out (by omega) (by omega)).mono ?_
  rintro e w4 ⟨j, ⟨rfl, hJ4, hD4, ho4, hf4⟩ | ⟨rfl, s4, hF4, hD4, hf4⟩⟩
  · have hb4 := hb3.trans (hf4.below (by omega) (by simp; omega))
    go_wp2_with fail
    refine (Crash_c d k m _ C nc cc ch w4 hD4 (hC.keptN hb4) hcc (by intro h a ha; have := hC0.out h a ha; omega)).mono ?_
    rintro e w5 ⟨rfl, hD5, hf5⟩
    have hb5 : Below w.heap.size w w5 := hb4.trans (hf5.below hJ4.lo.2.2.2.2 (by simp; omega))
    have hs5 := hb5.size
    go_wp2_with fail
    refine (Open_ok w.heap.size d k m 0 0 [] _ w5 hD5 (hhold.out.crash ch) (DSt.off_zero rfl) (by omega)).mono ?_
    rintro e w6 ⟨j6, v6, rfl, hJ6, hO6, hf6⟩
    obtain ⟨A6, c6, rfl, _, _, _⟩ := hO6.form
    have hl6 : ([] : List ByteArray).length = 0 := rfl
    rw [hl6]
    clear hO6 hl6
    go_wp2_with fail
    go_ret
    exact ⟨rfl, hb5.trans (hf6.below (by omega) (by simp))⟩
  · have hs4 := hf4.size
    have hb4 := hb3.trans (hf4.below (by omega) (by simp; omega))
    go_wp2_with fail
    refine (Crash_c d k m s4 C nc cc ch w4 hD4 (hC.keptN hb4) hcc (by intro h a ha; have := hC0.out h a ha; omega)).mono ?_
    rintro e w5 ⟨rfl, hD5, hf5⟩
    have hb5 : Below w.heap.size w w5 := hb4.trans (hf5.below (by omega) (by simp; omega))
    have hs5 := hb5.size
    go_wp2_with fail
    rcases hfm.out s4 hF4 ch with ⟨hn8, f0, sg, g1, g2, g3, g4⟩ | hH
    · refine (Open_none d k m f0 sg _ w5 hD5 (DSt.off_zero rfl) hn8 g1 g2 g3 g4).mono ?_
      rintro e w6 ⟨rfl, hf6⟩
      clear hn8
      go_wp2_with fail
      go_ret
      exact ⟨rfl, hb5.trans (hf6.below (by omega) (by simp))⟩
    · refine (Open_ok w.heap.size d k m 0 0 [] _ w5 hD5 hH (DSt.off_zero rfl) (by omega)).mono ?_
      rintro e w6 ⟨j6, v6, rfl, hJ6, hO6, hf6⟩
      obtain ⟨A6, c6, rfl, _, _, _⟩ := hO6.form
      have hl6 : ([] : List ByteArray).length = 0 := rfl
      rw [hl6]
      clear hO6 hl6
      go_wp2_with fail
      go_ret
      exact ⟨rfl, hb5.trans (hf6.below (by omega) (by simp))⟩

set_option maxHeartbeats 4000000 in
set_option maxRecDepth 100000 in
theorem old (A : Option Addr) (n c : Nat) (l : List ByteArray) (a1 : Int) (C : Option Addr) (nc cc : Nat) (ch : List UInt8) (w : World) (hR : RSs w A n l) (hs : ∀ r ∈ l, r.size ≤ 281474976710656) (hC : RB w C nc ch) (hcc : nc ≤ cc)
    (hn : n ≤ 10) (hww : weightL l ≤ 1000) (hch : nc ≤ 100) (h1 : 0 ≤ a1 ∧ a1 ≤ 255) :
    Calls Try.prog 20 #[.slice A n c, .int .u8 a1, .slice C nc cc, .bool false] w fun e w' => e = .returned (.bool true) ∧ Below w.heap.size w w' := by
  have hi : ¬ (10 : Int) < n := by omega
  have hi2 : ¬ (1000 : Int) < weightL l := by omega
  have hi3 : ¬ (100 : Int) < nc := by omega
  have hll := hR.1
  have hsl := hid (size_of_weight hww)
  obtain ⟨P, hP⟩ : ∃ P : Int, a1 % 12 + 1 = P := ⟨_, rfl⟩
  have hPb : 1 ≤ P ∧ P ≤ 100 := by have := Int.emod_nonneg a1 (show (12 : Int) ≠ 0 by omega); have := Int.emod_lt_of_pos a1 (show (0 : Int) < 12 by omega); omega
  have hA0 := hid (show n ≠ 0 → ∀ a, A = some a → a.block < w.heap.size from fun h => hR.lt h)
  have hC0 := hid (show nc ≠ 0 → ∀ a, C = some a → a.block < w.heap.size from fun h => hC.lt h)
  replace hs := hid hs
  replace hww := hid hww
  replace hll := hid hll
  go_enter Try.func20, Try.ntmps20
  go_wp2_with (go_at_call 53; refine (known14_c _).mono ?_; rintro e w1 ⟨rfl, hb1⟩)
  have hs1 := hb1.size
  have hR1 : RSs w1 A n l := hR.kept' (fr_of_below hb1) (by simp)
  refine (weight_c A n c l w1 hR1 hs.out (by omega)).mono ?_
  rintro e w1' ⟨rfl, rfl⟩
  go_wp2_with fail
  refine (New_c 60 60 (by decide) w1).mono ?_
  rintro e w2 ⟨d, k, m, rfl, hD2, hlo, hf2⟩
  have hs2 := hf2.size
  go_wp2_with fail
  refine (Format_new w.heap.size d k m _ w2 hD2 rfl (by decide) (fun _ => rfl) (by decide) (by omega)).mono ?_
  rintro e w3 ⟨j, rfl, hJ3, hD3, hf3⟩
  have hH3 : Holds (formS (DSt.new 60)) 0 0 [] := formS_holds _ (by decide) (fun _ => rfl)
  have hb3 : Below w.heap.size w w3 := (hb1.trans (hf2.below hs1 (by simp))).trans (hf3.below (by omega) (by simp; omega))
  have q3 : (formS (DSt.new 60)).offAt = 0 ∧ (formS (DSt.new 60)).n = 60 ∧ (formS (DSt.new 60)).steps = 5 := ⟨rfl, rfl, rfl⟩
  generalize formS (DSt.new 60) = s3 at *
  have hlo3 := hJ3.lo
  have hR3 : RSs w3 A n l := hR.kept' (fr_of_below hb3) (by simp)
  replace q3 := hid q3
  go_wp2_with fail
  refine (Replace_ok w.heap.size j d k m 0 0 [] A n c l s3 w3 hJ3 hD3 hH3 q3.out.1 (by have := q3.out; omega) hR3 (by intro h a ha; have := hA0.out h a ha; omega)
    (by intro r hr; have := hsl.out r hr; omega) (by rw [q3.out.2.1, arL60]; have := hww.out; omega)).mono ?_
  rintro e w4 ⟨rfl, s4, hJ4, hD4, hH4, q41, q42, q43, hb4⟩
  have hbw4 := hb3.trans hb4
  have hs4 := hbw4.size
  have q44 : s4.steps ≤ 1009 := by have := q3.out; omega
  go_wp2_with fail
  refine (Power_c d k m s4 P w4 hD4).mono ?_
  obtain ⟨p1, p2, p3, p4, p5⟩ := power_on (s := s4) q41 P hPb
  have hH5 : Holds (s4.power P) (1 - 0) (1 - 0) l := hH4.congr p2 (fun i => by unfold DSt.now; rw [p4, p5]) (fun i => by rw [p4]; exact hH4.clean i)
  generalize s4.power P = s5 at *
  rintro e w5 ⟨rfl, hD5, hf5⟩
  have hb5 : Below w.heap.size w w5 := hbw4.trans (hf5.below hJ4.lo.2.2.2.2 (by simp; omega))
  have hs5 := hb5.size
  clear p4 p5
  replace hH5 := hid hH5
  go_wp2_with fail
  refine (Format_old_p w.heap.size d k m _ _ l s5 w5 hD5 hH5.out p1 (by omega) (by omega)).mono ?_
  rintro e w6 (⟨j6, s6, rfl, hD6, hH6, q6, hb6⟩ | ⟨rfl, s6, hD6, q6, hcr6, hb6⟩)
  · have hb06 := hb5.trans hb6
    go_wp2_with fail
    refine (Crash_c d k m s6 C nc cc ch w6 hD6 (hC.keptN hb06) hcc (by intro h a ha; have := hC0.out h a ha; omega)).mono ?_
    rintro e w7 ⟨rfl, hD7, hf7⟩
    have hb7 : Below w.heap.size w w7 := hb06.trans (hf7.below (by have := hb06.size; omega) (by simp; omega))
    have hs7 := hb7.size
    go_wp2_with fail
    refine (Open_ok w.heap.size d k m _ _ [] _ w7 hD7 (hH6.crash ch) (DSt.off_zero rfl) (by omega)).mono ?_
    rintro e w8 ⟨j8, v8, rfl, hJ8, hO8, hf8⟩
    obtain ⟨A8, c8, rfl, _, _, _⟩ := hO8.form
    have hl8 : ([] : List ByteArray).length = 0 := rfl
    rw [hl8]
    clear hO8 hl8
    go_wp2_with fail
    go_ret
    exact ⟨rfl, hb7.trans (hf8.below (by omega) (by simp))⟩
  · have hb06 := hb5.trans hb6
    go_wp2_with fail
    refine (Crash_c d k m s6 C nc cc ch w6 hD6 (hC.keptN hb06) hcc (by intro h a ha; have := hC0.out h a ha; omega)).mono ?_
    rintro e w7 ⟨rfl, hD7, hf7⟩
    have hb7 : Below w.heap.size w w7 := hb06.trans (hf7.below (by have := hb06.size; omega) (by simp; omega))
    have hs7 := hb7.size
    have hc6 := hcr6 ch
    clear hcr6
    go_wp2_with fail
    rcases hc6 with hc6 | hc6
    · refine (Open_ok w.heap.size d k m _ _ l _ w7 hD7 hc6 (DSt.off_zero rfl) (by omega)).mono ?_
      rintro e w8 ⟨j8, v8, rfl, hJ8, hO8, hf8⟩
      obtain ⟨A8, c8, rfl, hc8, hR8, _⟩ := hO8.form
      have hb8 : Below w.heap.size w w8 := hb7.trans (hf8.below (by omega) (by simp))
      have hRi8 : RSs w8 A n l := hR.kept' (fr_of_below hb8) (by simp)
      rw [hll.out] at hR8 hc8 ⊢
      clear hO8
      by_cases hn0 : n = 0
      · subst hn0
        go_wp2_with fail
        go_ret
        exact ⟨rfl, hb8⟩
      · have hn0I : ¬ (n : Int) = 0 := by omega
        go_wp2_with fail
        refine (texts_same A8 n c8 A c l w8 hR8 hRi8).mono ?_
        rintro e w9 ⟨rfl, hf9⟩
        go_wp2_with fail
        go_ret
        exact ⟨rfl, hb8.trans (hf9.below (by have := hb8.size; omega) (by simp))⟩
    · refine (Open_ok w.heap.size d k m _ _ [] _ w7 hD7 hc6 (DSt.off_zero rfl) (by omega)).mono ?_
      rintro e w8 ⟨j8, v8, rfl, hJ8, hO8, hf8⟩
      obtain ⟨A8, c8, rfl, _, _, _⟩ := hO8.form
      have hl8 : ([] : List ByteArray).length = 0 := rfl
      rw [hl8]
      clear hO8 hl8
      go_wp2_with fail
      go_ret
      exact ⟨rfl, hb7.trans (hf8.below (by omega) (by simp))⟩

theorem walk (A : Option Addr) (n c : Nat) (l : List ByteArray) (a1 : Int) (C : Option Addr) (nc cc : Nat) (ch : List UInt8) (fr : Bool) (w : World) (hR : RSs w A n l) (hb : n ≤ c ∧ ∀ r ∈ l, r.size ≤ 281474976710656) (w1 : (Lit.int .u8 a1).wf = true) (hC : RB w C nc ch) (hcc : nc ≤ cc) :
    Calls Try.prog 20 #[.slice A n c, .int .u8 a1, .slice C nc cc, .bool fr] w fun e w' => e = .returned (.bool true) ∧ Below w.heap.size w w' := by
  have h1 : 0 ≤ a1 ∧ a1 ≤ 255 := by simpa [Lit.wf, IntKind.min, IntKind.max, IntKind.signed, IntKind.bits] using w1
  by_cases hn : n ≤ 10
  · by_cases hch : nc ≤ 100
    · by_cases hw : weightL l ≤ 1000
      · cases fr with
        | true => exact fresh A n c l a1 C nc cc ch w hR hb.2 hC hcc hn hw hch h1
        | false => exact old A n c l a1 C nc cc ch w hR hb.2 hC hcc hn hw hch h1
      · exact early3 A n c l a1 C nc cc fr w hR hb.2 hn hch hw
    · exact early2 A n c a1 C nc cc fr w hn hch
  · exact early1 A n c a1 C nc cc fr w hn
end Go.Proofs.Ytiialjncdhhceaa.journalCuts
