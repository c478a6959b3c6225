/- What package paddocklaw15 asks of itself first ('known'): it is so. -/
import Derived.Test.YtiialjncdhhceaaGreatStoGood
namespace Go.Proofs.YtiialjncdhhceaaGreat
open Go.RowKit
set_option linter.unusedVariables false
set_option linter.unusedSimpArgs false

def wA : Wr := ⟨⟨#[97]⟩, ⟨#[49]⟩, false⟩
def wB : Wr := ⟨⟨#[98]⟩, ⟨#[50]⟩, false⟩
def wC : Wr := ⟨⟨#[97]⟩, ⟨#[]⟩, true⟩

set_option maxHeartbeats 2000000 in
set_option maxRecDepth 100000 in
theorem known15_c (w : World) : Calls Tryz.prog 10 #[] w fun e w' => e = .returned (.bool true) ∧ Below w.heap.size w w' := by
  have hL1 : applyTx [] [wA, wB, wC] = [([98], [50])] := by decide
  have hr1 : rightB [wA, wB, wC] = true := by decide
  have hr2 : rightB [] = false := by decide
  replace hL1 := hid hL1
  replace hr1 := hid hr1
  replace hr2 := hid hr2
  go_enter Tryz.func10, Tryz.ntmps10
  go_wp2_with fail
  refine (New_c 64 64 (by decide) w).mono ?_
  rintro e w1 ⟨d, k, m, rfl, hD1, hlo, hf1⟩
  have hs1 := hf1.size
  go_wp2_with fail
  refine (Make_g w.heap.size d k m 64 w1 hD1 (by decide) (by omega)).mono ?_
  rintro e w2 ⟨st, rfl, hG2, hf2⟩
  have hb2 : Below w.heap.size w w2 := (hf1.below (Nat.le_refl _) (by simp)).trans (hf2.below hs1 (by simp; omega))
  go_wp2_with fail
  refine (Do_lit w.heap.size st d k m 64 5 [] 3 [wA, wB, wC] _ _ w2 hG2 rfl rfl (by decide) hr1.out (by decide) _ hL1.out (by decide)).mono ?_
  rintro e w3 ⟨rfl, hG3, hb3⟩
  have hb03 := hb2.trans hb3
  go_wp2_with fail
  refine (Do_form_g w.heap.size st d k m 64 _ _ none 0 0 [] w3 hG3 (RW.nil _ _) hr2.out).mono ?_
  rintro e w4 ⟨rfl, hf4⟩
  have hG4 := hG3.fr hf4
  have hb04 := hb03.trans (hf4.below hG3.size (by simp))
  go_wp2_with fail
  refine (Crash_g w.heap.size st d k m 64 _ _ none 0 0 [] w4 hG4 (RB.nil _ _) (Nat.le_refl _) (by intro h; exact absurd rfl h)).mono ?_
  rintro e w5 ⟨rfl, hG5, hf5⟩
  have hlo5 := hG5.lo
  have hb05 := hb04.trans (hf5.below hG4.size (by simp; omega))
  go_wp2_with fail
  refine (Open_g w.heap.size st d k m 64 _ _ w5 hG5).mono ?_
  rintro e w6 ⟨st6, rfl, hG6, _, hf6⟩
  have hb06 := hb05.trans (hf6.below hG5.size (by simp))
  go_wp2_with fail
  refine (Get_g w.heap.size st6 d k m 64 _ _ ⟨#[98]⟩ (by decide) w6 hG6).mono ?_
  rw [show getL (bs ⟨#[98]⟩) [([98], [50])] = some [50] by decide, elS_some, show stB [50] = ⟨#[50]⟩ from rfl]
  rintro e w7 ⟨rfl, rfl⟩
  go_wp2_with fail
  refine (Get_g w.heap.size st6 d k m 64 _ _ ⟨#[97]⟩ (by decide) w6 hG6).mono ?_
  rw [show getL (bs ⟨#[97]⟩) [([98], [50])] = none by decide, elS_none]
  rintro e w7 ⟨rfl, rfl⟩
  go_wp2_with fail
  refine (New_c 20 20 (by decide) w6).mono ?_
  rintro e w7 ⟨d7, k7, m7, rfl, hD7, hlo7, hf7⟩
  have hG7 := hG6.fr hf7
  have hb07 := hb06.trans (hf7.below hG6.size (by simp))
  go_wp2_with fail
  refine (Make_small d7 k7 m7 _ w7 hD7 (by decide)).mono ?_
  rintro e w8 ⟨rfl, rfl⟩
  go_wp2_with fail
  refine (Keys_g w.heap.size st6 d k m 64 _ _ w7 hG7).mono ?_
  rintro e w8 ⟨v8, rfl, hO8, hf8⟩
  obtain ⟨A8, c8, rfl, _, _, _⟩ := hO8.form
  have hl8 : (([([98], [50])] : List KV).map fun p => stB p.1).length = 1 := rfl
  rw [hl8]
  clear hl8 hO8
  have hG8 := hG7.fr hf8
  have hb08 := hb07.trans (hf8.below hG7.size (by simp))
  go_wp2_with fail
  refine (Size_g w.heap.size st6 d k m 64 _ _ w8 hG8).mono ?_
  rw [show sizeL [([98], [50])] = 26 by decide]
  rintro e w9 ⟨rfl, hf9⟩
  have hG9 := hG8.fr hf9
  have hb09 := hb08.trans (hf9.below hG8.size (by simp))
  go_wp2_with fail
  refine (Broken_g w.heap.size st6 d k m 64 _ _ w9 hG9).mono ?_
  rintro e w10 ⟨rfl, rfl⟩
  go_wp2_with fail
  go_ret
  exact ⟨rfl, hb09⟩
end Go.Proofs.YtiialjncdhhceaaGreat
