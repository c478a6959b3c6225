/- The walk of JournalBytes: it returns true, whatever the input, and writes nothing that was there. -/
import Derived.Test.YtiialjncdhhceaaJrnLaw
namespace Go.Proofs.Ytiialjncdhhceaa.journalBytes
open Go.RowKit
set_option linter.unusedVariables false
set_option linter.unusedSimpArgs false

theorem lit3_rb {W : World} : RB (W.alloc (.cells #[.int .u8 7, .int .u8 255, .int .u8 9] 5)) (some ⟨W.heap.size, 0, none⟩) 3 [7, 255, 9] := by
  refine ⟨rfl, by decide, .inr ⟨_, _, rfl, fun q hq => ?_⟩⟩
  have hq3 : q = 0 ∨ q = 1 ∨ q = 2 := by simp at hq; omega
  rcases hq3 with rfl | rfl | rfl
  · exact cell_of_row _ _ 0 _ _ _ (heap_alloc_new W _)
  · exact cell_of_row _ _ 1 _ _ _ (heap_alloc_new W _)
  · exact cell_of_row _ _ 2 _ _ _ (heap_alloc_new W _)
theorem arL250 : arL 250 = 121 := by decide
theorem RSs.take {w : World} {A : Option Addr} {n : Nat} {l : List ByteArray} (h : RSs w A n l) (k : Nat) (hk : k ≤ n) : RSs w A k (l.take k) := by
  obtain ⟨h1, h2, h3⟩ := h
  refine ⟨by rw [List.length_take]; omega, by omega, ?_⟩
  rcases h3 with h3 | ⟨b, off, rfl, hc⟩
  · exact .inl (by omega)
  · refine .inr ⟨b, off, rfl, fun j hj => ?_⟩
    rw [List.length_take] at hj
    rw [hc j (by omega), List.getElem_take]
theorem size_of_weight {l : List ByteArray} {N : Nat} (h : weightL l ≤ N) : ∀ r ∈ l, r.size ≤ N := by
  induction l with
  | nil => simp
  | cons x l ih =>
    simp only [weightL] at h
    intro r hr
    rcases List.mem_cons.1 hr with rfl | hr
    · omega
    · exact ih (by omega) r hr

set_option maxHeartbeats 2000000 in
set_option maxRecDepth 100000 in
theorem early1 (A : Option Addr) (n c : Nat) (a1 : Int) (w : World) (hn : ¬ n ≤ 12) :
    Calls Try.prog 17 #[.slice A n c, .int .u8 a1] w fun e w' => e = .returned (.bool true) ∧ Below w.heap.size w w' := by
  have hi : (12 : Int) < n := by omega
  go_enter Try.func17, Try.ntmps17
  go_wp2_with (go_at_call 53; refine (known14_c _).mono ?_; rintro e w1 ⟨rfl, hb1⟩)
  go_ret
  exact ⟨rfl, hb1⟩

set_option maxHeartbeats 2000000 in
set_option maxRecDepth 100000 in
theorem early2 (A : Option Addr) (n c : Nat) (l : List ByteArray) (a1 : Int) (w : World) (hR : RSs w A n l) (hs : ∀ r ∈ l, r.size ≤ 281474976710656) (hn : n ≤ 12) (hw : ¬ weightL l ≤ 5000) :
    Calls Try.prog 17 #[.slice A n c, .int .u8 a1] w fun e w' => e = .returned (.bool true) ∧ Below w.heap.size w w' := by
  have hi : ¬ (12 : Int) < n := by omega
  have hi2 : (5000 : Int) < weightL l := by omega
  replace hs := hid hs
  go_enter Try.func17, Try.ntmps17
  go_wp2_with (go_at_call 53; refine (known14_c _).mono ?_; rintro e w1 ⟨rfl, hb1⟩)
  have hR1 : RSs w1 A n l := hR.kept' (fr_of_below hb1) (by simp)
  refine (weight_c A n c l w1 hR1 hs.out (by omega)).mono ?_
  rintro e w2 ⟨rfl, rfl⟩
  go_wp2_with fail
  go_ret
  exact ⟨rfl, hb1⟩

set_option maxHeartbeats 4000000 in
set_option maxRecDepth 100000 in
theorem walk1 (A : Option Addr) (n c : Nat) (l : List ByteArray) (a1 : Int) (w : World) (hR : RSs w A n l) (hs : ∀ r ∈ l, r.size ≤ 281474976710656) (hnc : n ≤ c) (hn : n ≤ 12) (hn0 : 0 < n) (hww : weightL l ≤ 5000) (h1 : 0 ≤ a1 ∧ a1 ≤ 255) :
    Calls Try.prog 17 #[.slice A n c, .int .u8 a1] w fun e w' => e = .returned (.bool true) ∧ Below w.heap.size w w' := by
  have hi : ¬ (12 : Int) < n := by omega
  have hi2 : ¬ (5000 : Int) < weightL l := by omega
  have hi3 : (0 : Int) < n := by omega
  have hll := hR.1
  have hsl := hid (size_of_weight hww)
  replace hs := hid hs
  replace hww := hid hww
  replace hll := hid hll
  obtain ⟨K, hK⟩ : ∃ K : Nat, a1 % ((n : Int) + 1) = (K : Int) := ⟨(a1 % ((n : Int) + 1)).toNat, by have := Int.emod_nonneg a1 (show (n : Int) + 1 ≠ 0 by omega); omega⟩
  have hKn : K ≤ n := by have := Int.emod_lt_of_pos a1 (show (0 : Int) < (n : Int) + 1 by omega); omega
  have hT := hid (show weightL (l.take K) ≤ 5000 from Nat.le_trans (weightL_le l K) hww.out)
  go_enter Try.func17, Try.ntmps17
  go_wp2_with (go_at_call 53; refine (known14_c _).mono ?_; rintro e w1 ⟨rfl, hb1⟩)
  have hs1 := hb1.size
  have hR1 : RSs w1 A n l := hR.kept' (fr_of_below hb1) (by simp)
  refine (weight_c A n c l w1 hR1 hs.out (by omega)).mono ?_
  rintro e w1' ⟨rfl, rfl⟩
  go_wp2_with fail
  refine (New_c 250 250 (by decide) w1).mono ?_
  rintro e w2 ⟨d, k, m, rfl, hD2, hlo, hf2⟩
  have hs2 := hf2.size
  go_wp2_with fail
  refine (Format_new w.heap.size d k m _ w2 hD2 rfl (by decide) (fun _ => rfl) (by decide) (by omega)).mono ?_
  rintro e w3 ⟨j, rfl, hJ3, hD3, hf3⟩
  have hH3 : Holds (formS (DSt.new 250)) 0 0 [] := formS_holds _ (by decide) (fun _ => rfl)
  have hb3 : Below w.heap.size w w3 := (hb1.trans (hf2.below hs1 (by simp))).trans (hf3.below (by omega) (by simp; omega))
  have q3 : (formS (DSt.new 250)).offAt = 0 ∧ (formS (DSt.new 250)).n = 250 ∧ (formS (DSt.new 250)).steps = 5 := ⟨rfl, rfl, rfl⟩
  generalize formS (DSt.new 250) = s3 at *
  have hA0 : n ≠ 0 → ∀ a, A = some a → a.block < w.heap.size := fun h => hR.lt h
  have hlo3 := hJ3.lo
  have hR3 : RSs w3 A n l := hR.kept' (fr_of_below hb3) (by simp)
  replace hA0 := hid hA0
  replace q3 := hid q3
  go_wp2_with fail
  refine (Replace_ok w.heap.size j d k m 0 0 [] A K c (l.take K) s3 w3 hJ3 hD3 hH3 q3.out.1 (by have := q3.out; omega) (RSs.take hR3 K hKn) (by intro h a ha; have := hA0.out (by omega) a ha; omega)
    (by intro r hr; have := hsl.out r (List.mem_of_mem_take hr); omega) (by rw [q3.out.2.1, arL250]; have := hT.out; omega)).mono ?_
  rintro e w4 ⟨rfl, s4, hJ4, hD4, hH4, q41, q42, q43, hb4⟩
  rw [q3.out.2.1] at q42
  have q44 : s4.steps ≤ 1009 := by have := q3.out; omega
  clear q43
  go_wp2_with fail
  go_loopw [9] (fun iv wr => ∃ i : Nat, K ≤ i ∧ i ≤ n ∧ iv = .int .i64 i ∧ ∃ hd s, IsJ wr w.heap.size j d k m hd 1 (l.take i) ∧ IsDisk wr d k m s ∧ Holds s hd 1 (l.take i) ∧ s.offAt = 0 ∧ s.n = 250 ∧ s.steps ≤ 1009 + i * 1004 ∧ Below w.heap.size w wr) (fun iv _ => n - (intOf iv).toNat)
  case atStart => exact ⟨K, Nat.le_refl _, hKn, rfl, _, s4, hJ4, hD4, hH4, q41, q42, by omega, hb3.trans hb4⟩
  case round =>
    obtain ⟨i, hKi, hi, rfl, hd, s, hJ, hD, hH, q1, q2, q4, hb⟩ := hrel
    by_cases hin : i < n
    · have hRi : RSs wr A n l := hR.kept' (fr_of_below hb) (by simp)
      obtain ⟨b, off, rfl, hc⟩ := str_cell hRi i hin
      have hiI : (i : Int) < n := by omega
      have hi64 := hid (show l.length = n from hll.out)
      have hrs := hid (hsl.out (l[i]'(by have := hll.out; omega)) (List.getElem_mem _))
      have htk := hid (show l.take (i + 1) = l.take i ++ [l[i]'(by have := hll.out; omega)] from List.take_succ_eq_append_getElem (by have := hll.out; omega))
      have hwi := hid (Nat.le_trans (weightL_le l (i + 1)) hww.out)
      have hrw := hid (weightL_take l i (by have := hll.out; omega))
      have hln := hid (show (l.take i).length = i by rw [List.length_take]; have := hll.out; omega)
      generalize l[i]'(by have := hll.out; omega) = r at *
      generalize l.take i = li at *
      generalize hli1 : l.take (i + 1) = li1 at *
      replace hli1 := hid hli1
      go_wp2_with fail
      refine (Append_ok w.heap.size j d k m hd 1 li r s wr hJ hD hH q1 (by omega) (by have := hrs.out; omega) (by rw [q2, arL250]; have := recsB_weight li; have := hrw.out; have := hwi.out; have := hrs.out; omega) (by have := hln.out; omega)).mono ?_
      rintro e w5 ⟨rfl, s5, hJ5, hD5, hH5, q51, q52, q53, hb5⟩
      rw [← htk.out] at hJ5 hH5
      go_wp2_with fail
      try go_frame
      go_roundw
      case rel => rw [← hli1.out] at hJ5 hH5; exact ⟨i + 1, by omega, by omega, rfl, _, s5, hJ5, hD5, hH5, q51, by omega, by omega, hb.trans hb5⟩
      case measure => simp [intOf]; omega
    · have hie : i = n := by omega
      subst hie
      rw [List.take_of_length_le (by have := hll.out; omega)] at hJ hH
      clear hs hsl hww hT
      have hRi : RSs wr A i l := hR.kept' (fr_of_below hb) (by simp)
      have hlo5 := hJ.lo
      have hlt5 := hD.lts
      go_wp2_with fail
      have hrb : RB (wr.alloc (.cells #[.int .u8 7, .int .u8 255, .int .u8 9] 5)) (some ⟨wr.heap.size, 0, none⟩) 3 [7, 255, 9] := lit3_rb
      have hf6 : Fr [] wr (wr.alloc (.cells #[.int .u8 7, .int .u8 255, .int .u8 9] 5)) := (Fr.refl [] wr).alloc _
      generalize wr.alloc (.cells #[.int .u8 7, .int .u8 255, .int .u8 9] 5) = w6 at *
      refine (Crash_c d k m s (some ⟨wr.heap.size, 0, none⟩) 3 3 [7, 255, 9] w6 (hD.fr hf6) hrb (Nat.le_refl _) (by intro _ a ha; cases ha; simp only; omega)).mono ?_
      rintro e w7 ⟨rfl, hD7, hf7⟩
      have hb7 : Below w.heap.size wr w7 := (hf6.below hlo5.2.2.2.2 (by simp)).trans (hf7.below (by have := hf6.size; omega) (by simp; omega))
      have hs7 := hb7.size
      go_wp2_with fail
      refine (Open_ok w.heap.size d k m _ 1 l (s.crash [7, 255, 9]) w7 hD7 (hH.crash _) (DSt.off_zero rfl) (by omega)).mono ?_
      rintro e w8 ⟨j8, v8, rfl, hJ8, hO8, hf8⟩
      obtain ⟨A8, c8, rfl, hc8, hR8, _⟩ := hO8.form
      have hb8 : Below w.heap.size w w8 := (hb.trans hb7).trans (hf8.below (by omega) (by simp))
      have hRi8 : RSs w8 A i l := hR.kept' (fr_of_below hb8) (by simp)
      rw [hll.out] at hR8 hc8 ⊢
      clear hO8
      go_wp2_with fail
      refine (texts_same A8 i c8 A c l w8 hR8 hRi8).mono ?_
      rintro e w9 ⟨rfl, hf9⟩
      go_wp2_with fail
      refine (All_c w.heap.size j8 d k m _ 1 l w9 (hJ8.fr hf9) (by have := hll.out; omega)).mono ?_
      rintro e w10 ⟨v10, rfl, hO10, hf10⟩
      obtain ⟨A10, c10, rfl, hc10, hR10, _⟩ := hO10.form
      have hf810 := hf9.then hf10
      rw [hll.out] at hR10 hc10 ⊢
      clear hO10
      go_wp2_with fail
      refine (texts_same A10 i c10 A c l w10 hR10 (hRi8.fr hf810)).mono ?_
      rintro e w11 ⟨rfl, hf11⟩
      go_wp2_with fail
      go_ret
      exact ⟨rfl, hb8.trans ((hf810.then hf11).below (by have := hb8.size; omega) (by simp))⟩

set_option maxHeartbeats 4000000 in
set_option maxRecDepth 100000 in
theorem walk0 (A : Option Addr) (c : Nat) (a1 : Int) (w : World) (h1 : 0 ≤ a1 ∧ a1 ≤ 255) :
    Calls Try.prog 17 #[.slice A 0 c, .int .u8 a1] w fun e w' => e = .returned (.bool true) ∧ Below w.heap.size w w' := by
  obtain ⟨l, hl⟩ : ∃ l : List ByteArray, l = [] := ⟨_, rfl⟩
  have hR : RSs w A 0 l := hl ▸ RSs.nil w A
  have hs := hid (show ∀ r ∈ l, r.size ≤ 281474976710656 by simp [hl])
  have hsl := hid (show ∀ r ∈ l, r.size ≤ 5000 by simp [hl])
  have hww := hid (show weightL l ≤ 5000 by rw [hl]; decide)
  have hi2 : ¬ (5000 : Int) < weightL l := by have := hww.out; omega
  have hll := hid (show l.length = 0 by rw [hl]; rfl)
  have hKn : 0 ≤ 0 := Nat.le_refl 0
  have hT := hid (show weightL (l.take 0) ≤ 5000 by rw [List.take_zero]; decide)
  replace hl := hid hl
  go_enter Try.func17, Try.ntmps17
  go_wp2_with (go_at_call 53; refine (known14_c _).mono ?_; rintro e w1 ⟨rfl, hb1⟩)
  have hs1 := hb1.size
  have hR1 : RSs w1 A 0 l := hR.kept' (fr_of_below hb1) (by simp)
  refine (weight_c A 0 c l w1 hR1 hs.out (by omega)).mono ?_
  rintro e w1' ⟨rfl, rfl⟩
  go_wp2_with fail
  refine (New_c 250 250 (by decide) w1).mono ?_
  rintro e w2 ⟨d, k, m, rfl, hD2, hlo, hf2⟩
  have hs2 := hf2.size
  go_wp2_with fail
  refine (Format_new w.heap.size d k m _ w2 hD2 rfl (by decide) (fun _ => rfl) (by decide) (by omega)).mono ?_
  rintro e w3 ⟨j, rfl, hJ3, hD3, hf3⟩
  have hH3 : Holds (formS (DSt.new 250)) 0 0 [] := formS_holds _ (by decide) (fun _ => rfl)
  have hb3 : Below w.heap.size w w3 := (hb1.trans (hf2.below hs1 (by simp))).trans (hf3.below (by omega) (by simp; omega))
  have q3 : (formS (DSt.new 250)).offAt = 0 ∧ (formS (DSt.new 250)).n = 250 ∧ (formS (DSt.new 250)).steps = 5 := ⟨rfl, rfl, rfl⟩
  generalize formS (DSt.new 250) = s3 at *
  have hA0 : 0 ≠ 0 → ∀ a, A = some a → a.block < w.heap.size := fun h => hR.lt h
  have hlo3 := hJ3.lo
  have hR3 : RSs w3 A 0 l := hR.kept' (fr_of_below hb3) (by simp)
  replace hA0 := hid hA0
  replace q3 := hid q3
  go_wp2_with fail
  refine (Replace_ok w.heap.size j d k m 0 0 [] A 0 c (l.take 0) s3 w3 hJ3 hD3 hH3 q3.out.1 (by have := q3.out; omega) (RSs.take hR3 0 hKn) (by intro h a ha; have := hA0.out (by omega) a ha; omega)
    (by intro r hr; have := hsl.out r (List.mem_of_mem_take hr); omega) (by rw [q3.out.2.1, arL250]; have := hT.out; omega)).mono ?_
  rintro e w4 ⟨rfl, s4, hJ4, hD4, hH4, q41, q42, q43, hb4⟩
  rw [q3.out.2.1] at q42
  have q44 : s4.steps ≤ 1009 := by have := q3.out; omega
  clear q43
  go_wp2_with fail
  go_loopw [9] (fun iv wr => ∃ i : Nat, 0 ≤ i ∧ i ≤ 0 ∧ iv = .int .i64 i ∧ ∃ hd s, IsJ wr w.heap.size j d k m hd 1 (l.take i) ∧ IsDisk wr d k m s ∧ Holds s hd 1 (l.take i) ∧ s.offAt = 0 ∧ s.n = 250 ∧ s.steps ≤ 1009 + i * 1004 ∧ Below w.heap.size w wr) (fun iv _ => 0 - (intOf iv).toNat)
  case atStart => exact ⟨0, Nat.le_refl _, hKn, rfl, _, s4, hJ4, hD4, hH4, q41, q42, by omega, hb3.trans hb4⟩
  case round =>
    obtain ⟨i, hKi, hi, rfl, hd, s, hJ, hD, hH, q1, q2, q4, hb⟩ := hrel
    by_cases hin : i < 0
    · exact absurd hin (Nat.not_lt_zero _)
    · have hie : i = 0 := by omega
      subst hie
      rw [List.take_of_length_le (by have := hll.out; omega)] at hJ hH
      clear hs hsl hww hT
      have hRi : RSs wr A 0 l := hR.kept' (fr_of_below hb) (by simp)
      have hlo5 := hJ.lo
      have hlt5 := hD.lts
      go_wp2_with fail
      have hrb : RB (wr.alloc (.cells #[.int .u8 7, .int .u8 255, .int .u8 9] 5)) (some ⟨wr.heap.size, 0, none⟩) 3 [7, 255, 9] := lit3_rb
      have hf6 : Fr [] wr (wr.alloc (.cells #[.int .u8 7, .int .u8 255, .int .u8 9] 5)) := (Fr.refl [] wr).alloc _
      generalize wr.alloc (.cells #[.int .u8 7, .int .u8 255, .int .u8 9] 5) = w6 at *
      refine (Crash_c d k m s (some ⟨wr.heap.size, 0, none⟩) 3 3 [7, 255, 9] w6 (hD.fr hf6) hrb (Nat.le_refl _) (by intro _ a ha; cases ha; simp only; omega)).mono ?_
      rintro e w7 ⟨rfl, hD7, hf7⟩
      have hb7 : Below w.heap.size wr w7 := (hf6.below hlo5.2.2.2.2 (by simp)).trans (hf7.below (by have := hf6.size; omega) (by simp; omega))
      have hs7 := hb7.size
      go_wp2_with fail
      refine (Open_ok w.heap.size d k m _ 1 l (s.crash [7, 255, 9]) w7 hD7 (hH.crash _) (DSt.off_zero rfl) (by omega)).mono ?_
      rintro e w8 ⟨j8, v8, rfl, hJ8, hO8, hf8⟩
      obtain ⟨A8, c8, rfl, hc8, hR8, _⟩ := hO8.form
      have hb8 : Below w.heap.size w w8 := (hb.trans hb7).trans (hf8.below (by omega) (by simp))
      have hRi8 : RSs w8 A 0 l := hR.kept' (fr_of_below hb8) (by simp)
      rw [hll.out] at hR8 hc8 ⊢
      clear hO8
      go_wp2_with fail
      refine (texts_same A8 0 c8 A c l w8 hR8 hRi8).mono ?_
      rintro e w9 ⟨rfl, hf9⟩
      go_wp2_with fail
      refine (All_c w.heap.size j8 d k m _ 1 l w9 (hJ8.fr hf9) (by have := hll.out; omega)).mono ?_
      rintro e w10 ⟨v10, rfl, hO10, hf10⟩
      obtain ⟨A10, c10, rfl, hc10, hR10, _⟩ := hO10.form
      have hf810 := hf9.then hf10
      rw [hll.out] at hR10 hc10 ⊢
      clear hO10
      go_wp2_with fail
      refine (texts_same A10 0 c10 A c l w10 hR10 (hRi8.fr hf810)).mono ?_
      rintro e w11 ⟨rfl, hf11⟩
      go_wp2_with fail
      go_ret
      exact ⟨rfl, hb8.trans ((hf810.then hf11).below (by have := hb8.size; omega) (by simp))⟩

theorem walk (A : Option Addr) (n c : Nat) (l : List ByteArray) (a1 : Int) (w : World) (hR : RSs w A n l) (hb : n ≤ c ∧ ∀ r ∈ l, r.size ≤ 281474976710656) (w1 : (Lit.int .u8 a1).wf = true) :
    Calls Try.prog 17 #[.slice A n c, .int .u8 a1] w fun e w' => e = .returned (.bool true) ∧ Below w.heap.size w w' := by
  have h1 : 0 ≤ a1 ∧ a1 ≤ 255 := by simpa [Lit.wf, IntKind.min, IntKind.max, IntKind.signed, IntKind.bits] using w1
  by_cases hn : n ≤ 12
  · by_cases hw : weightL l ≤ 5000
    · rcases Nat.eq_zero_or_pos n with h0 | h0
      · subst h0
        obtain rfl : l = [] := List.eq_nil_of_length_eq_zero hR.1
        exact walk0 A c a1 w h1
      · exact walk1 A n c l a1 w hR hb.2 hb.1 hn h0 hw h1
    · exact early2 A n c l a1 w hR hb.2 hn hw
  · exact early1 A n c a1 w hn
end Go.Proofs.Ytiialjncdhhceaa.journalBytes
