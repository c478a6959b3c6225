/- What package paddocklaw13 asks of itself first ('known'): it is so. -/
import Derived.Test.YtiialjncdhhceaaSecEasy
import Derived.Lib.SmallJoins
namespace Go.Proofs.Ytiialjncdhhceaa
open Go.RowKit
set_option linter.unusedVariables false
set_option linter.unusedSimpArgs false

theorem lit_rb13 {W : World} (cs : List UInt8) (E : TypeId) (fr : Nat × Nat) (hc : cs.length ≤ 9223372036854775807) : RB (W.alloc (.cells (cs.map encB).toArray E fr)) (some ⟨W.heap.size, 0, none⟩) cs.length cs := by
  refine ⟨rfl, hc, .inr ⟨_, _, rfl, fun j hj => ?_⟩⟩
  rw [Nat.zero_add]
  have h := heap_alloc_new W (.cells (cs.map encB).toArray E fr)
  simp only [World.cell?, h]
  simp [hj, encB]

set_option maxRecDepth 10000 in
theorem known13_c (w : World) : Calls Try.prog 38 #[] w fun e w' => e = .returned (.bool true) ∧ Fr [] w w' := by
  go_enter Try.func38, Try.ntmps38
  go_wp2_with fail
  refine (New_c 3 3 (by decide) w).mono ?_
  rintro e w1 ⟨d, k, m, rfl, hD1, hlo, hf1⟩
  go_wp2_with fail
  refine (Len_c d k m _ w1 hD1).mono ?_
  rintro e w2 ⟨rfl, rfl⟩
  have hn3 : (((DSt.new 3).n : Nat) : Int) = 3 := rfl
  rw [hn3]
  have hcv := Lib.run_convert_bytes_const (P := Try.prog) w1 22 5 #[.int .u8 97, .int .u8 98] 2 2 Try.underlying22 Try.underlying5
  go_wp2_with fail
  have hlts := hD1.lts
  have hb2 : RB (w1.alloc (.cells #[.int .u8 97, .int .u8 98] 5 (2, 3))) (some ⟨w1.heap.size, 0, none⟩) 2 [97, 98] := lit_rb13 [97, 98] 5 (2, 3) (by decide)
  have hD2 := hD1.fr ((Fr.refl [] w1).alloc (.cells #[.int .u8 97, .int .u8 98] 5 (2, 3)))
  have hF2 : Fr [] w (w1.alloc (.cells #[.int .u8 97, .int .u8 98] 5 (2, 3))) := hf1.alloc _
  clear hcv
  generalize hw2 : w1.alloc (.cells #[.int .u8 97, .int .u8 98] 5 (2, 3)) = w2 at *
  refine (Write_c d k m (DSt.new 3) 1 (some ⟨w1.heap.size, 0, none⟩) 2 2 [97, 98] w2 hD2 hb2 (by intro _ a ha; cases ha; constructor <;> simp only <;> omega) (by decide)).mono ?_
  have e2 : (DSt.new 3).write 1 [97, 98] = (0, (DSt.new 3).step.put 1 [97, 98]) := DSt.write_nat rfl (by decide) (by decide)
  rw [e2]
  rintro e w3 ⟨rfl, hD3, hf3⟩
  have hF3 : Fr [] w w3 := hF2.trans hf3 (by intro x hx; simp at hx; right; omega)
  go_wp2_with fail
  refine (Write_c d k m _ 3 none 0 0 [] w3 hD3 (RB.nil _ _) (by simp) (by decide)).mono ?_
  rw [DSt.write_bad (s := (DSt.new 3).step.put 1 [97, 98]) rfl (by right; left; decide)]
  rintro e w4 ⟨rfl, hD4, hf4⟩
  have hF4 : Fr [] w w4 := hF3.trans hf4 (by intro x hx; simp at hx; right; omega)
  go_wp2_with fail
  obtain ⟨s4, hs4⟩ : ∃ s4, s4 = ((DSt.new 3).step.put 1 [97, 98]).step := ⟨_, rfl⟩
  have hs4n : s4.n = 3 := by rw [hs4]; rfl
  have hs4s : s4.steps = 2 := by rw [hs4]; rfl
  have hs4o : s4.offAt = 0 := by rw [hs4]; rfl
  have hnow4 : s4.now 1 = 97 :: 98 :: zeros64.drop 2 := by rw [hs4]; rfl
  have hk4 : ∀ j, s4.kept j = zeros64 := by rw [hs4]; intro j; rfl
  have hp4 : s4.pend 1 = some (97 :: 98 :: zeros64.drop 2) := by rw [hs4]; rfl
  rw [← hs4] at hD4
  clear hs4
  refine (Read_ok d k m s4 1 w4 hD4 (DSt.off_zero hs4o) (by omega) 1 rfl).mono ?_
  rintro e w5 ⟨b, rfl, ⟨hbs, hlt5⟩, hr5, ht5, hf5⟩
  have hF5 := hF4.then hf5
  have hD5 := hD4.fr hf5
  rw [hnow4] at hr5
  go_wp2_with fail
  have hlt4 := hD4.lts
  refine (Crash_c d k m s4 none 0 0 [] w5 hD5 (RB.nil _ _) (Nat.le_refl _) (by simp)).mono ?_
  rintro e w6 ⟨rfl, hD6, hf6⟩
  have hF6 : Fr [] w w6 := hF5.trans hf6 (by intro x hx; simp at hx; right; omega)
  have hr6 := range_fr hf6 hr5 hlt5 (by simp; omega)
  go_wp2_with fail
  have hnow6 : (s4.crash []).now 1 = zeros64 := by
    rw [DSt.crash_now]
    unfold DSt.tornAt
    rw [hp4, hk4]
    rfl
  refine (Read_ok d k m (s4.crash []) 1 w6 hD6 (DSt.off_zero (s := s4.crash []) rfl) (by show 1 < s4.n; omega) 1 rfl).mono ?_
  rw [hnow6]
  rintro e w7 ⟨b', rfl, ⟨hbs', hlt7⟩, hr7, ht7, hf7⟩
  have hF7 := hF6.then hf7
  have hD7 := hD6.fr hf7
  have hr7' := range_fr hf7 hr6 (Nat.lt_of_lt_of_le hlt5 hf6.size) (by simp)
  have c1 := range_cell hr7 0 (by decide)
  have c2 := range_cell hr7' 0 (by decide)
  simp only [Nat.add_zero] at c1 c2
  have v1 : (((zeros64[0]'(by decide)).toNat : Nat) : Int) = 0 := rfl
  have v2 : ((((97 :: 98 :: zeros64.drop 2)[0]'(by simp)).toNat : Nat) : Int) = 97 := rfl
  rw [v1] at c1
  rw [v2] at c2
  clear hr7 hr7' hr6 hr5 ht5 ht7
  go_wp2_with fail
  refine (Steps_c d k m _ w7 hD7).mono ?_
  rintro e w8 ⟨rfl, rfl⟩
  have hst : (((s4.crash []).steps : Nat) : Int) = 2 := by show ((s4.steps : Nat) : Int) = 2; rw [hs4s]; rfl
  rw [hst]
  go_wp2_with fail
  refine (New_c (-1) 0 (by decide) w7).mono ?_
  rintro e w8 ⟨d', k', m', rfl, hD8, hlo8, hf8⟩
  go_wp2_with fail
  refine (Len_c d' k' m' _ w8 hD8).mono ?_
  rintro e w9 ⟨rfl, rfl⟩
  have hn0 : (((DSt.new 0).n : Nat) : Int) = 0 := rfl
  rw [hn0]
  go_wp2_with fail
  go_ret
  exact ⟨rfl, hF7.then hf8⟩
end Go.Proofs.Ytiialjncdhhceaa
