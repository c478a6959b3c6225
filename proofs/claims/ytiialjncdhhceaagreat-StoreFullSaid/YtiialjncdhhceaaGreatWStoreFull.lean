/- The walk of StoreFull: it returns true, whatever the input, and writes nothing that was there. -/
import Derived.Test.YtiialjncdhhceaaGreatStoRow
namespace Go.Proofs.YtiialjncdhhceaaGreat.storeFull
open Go.RowKit
set_option linter.unusedVariables false
set_option linter.unusedSimpArgs false

theorem right1 (k x : ByteArray) (hk : k.size = 1) (hx : x.size ≤ 6000) : rightB [⟨k, x, false⟩] = true := by
  have h : (⟨k, x, false⟩ : Wr).ok = true := (Wr.ok_iff _).2 ⟨by simp only; omega, by simp only; omega, by simp only; omega, by simp⟩
  simp [rightB, h]
theorem right2 (x : ByteArray) (hx : x.size ≤ 6000) : rightB [⟨⟨#[97]⟩, ⟨#[]⟩, true⟩, ⟨⟨#[99]⟩, x, false⟩] = true := by
  have h : (⟨⟨#[99]⟩, x, false⟩ : Wr).ok = true := (Wr.ok_iff _).2 ⟨by simp only; decide, by simp only; decide, by simp only; omega, by simp⟩
  have h2 : (⟨⟨#[97]⟩, ⟨#[]⟩, true⟩ : Wr).ok = true := by decide
  simp [rightB, h, h2]
theorem app1 (x : ByteArray) : applyTx [] [⟨⟨#[97]⟩, x, false⟩] = [([97], bs x)] := by rfl
theorem app2 (v : List UInt8) (x : ByteArray) : applyTx [([97], v)] [⟨⟨#[98]⟩, x, false⟩] = [([97], v), ([98], bs x)] := by rfl
theorem app3 (v : List UInt8) (x : ByteArray) : applyTx [([97], v)] [⟨⟨#[97]⟩, ⟨#[]⟩, true⟩, ⟨⟨#[99]⟩, x, false⟩] = [([99], bs x)] := by rfl
theorem size1 (k : UInt8) (x : ByteArray) : sizeL [([k], bs x)] = x.size + 25 := by simp only [sizeL, bs_length, List.length_cons, List.length_nil]; omega
theorem size2 (x y : ByteArray) : sizeL [([97], bs x), ([98], bs y)] = x.size + y.size + 50 := by simp only [sizeL, bs_length, List.length_cons, List.length_nil]; omega

theorem zeros_str (w : World) (K : Nat) (hK : K ≤ 100000) : ∃ (w' : World) (S : ByteArray), S.size = K ∧ (Instr.makeSlice 30 (.int .i64 (K : Int)) (.int .i64 (K : Int))).run Tryz.prog w = .ok (.slice (some ⟨w.heap.size, 0, none⟩) K K) w' ∧
    (convert 30 9 (.slice (some ⟨w.heap.size, 0, none⟩) K K)).run Tryz.prog w' = .ok (.string S) w' ∧ Fr [] w w' := by
  obtain ⟨w4, hmk, hr4, hs4, hf4⟩ := make_bytes w K (by omega)
  refine ⟨w4, ⟨(List.replicate K (0 : UInt8)).toArray⟩, ?_, hmk (K : Int) rfl, run_str 30 5 9 Tryz.underlying30 Tryz.underlying5 Tryz.underlying9 (rb_of_range hr4 (by simp) (by omega)), hf4⟩
  show (List.replicate K (0 : UInt8)).toArray.size = K
  simp

set_option maxHeartbeats 4000000 in
set_option maxRecDepth 100000 in
theorem walk (a0 a1 : Int) (w : World) (w0 : (Lit.int .u16 a0).wf = true) (w1 : (Lit.int .u8 a1).wf = true) :
    Calls Tryz.prog 5 #[.int .u16 a0, .int .u8 a1] w fun e w' => e = .returned (.bool true) ∧ Below w.heap.size w w' := by
  have h0 : 0 ≤ a0 ∧ a0 ≤ 65535 := by simpa [Lit.wf, IntKind.min, IntKind.max, IntKind.signed, IntKind.bits] using w0
  have h1 : 0 ≤ a1 ∧ a1 ≤ 255 := by simpa [Lit.wf, IntKind.min, IntKind.max, IntKind.signed, IntKind.bits] using w1
  obtain ⟨N, hN⟩ : ∃ N : Nat, a1 % 60 + 32 = (N : Int) := ⟨(a1 % 60 + 32).toNat, by have := Int.emod_nonneg a1 (show (60 : Int) ≠ 0 by omega); omega⟩
  have hNb : 32 ≤ N ∧ N ≤ 91 := by have := Int.emod_nonneg a1 (show (60 : Int) ≠ 0 by omega); have := Int.emod_lt_of_pos a1 (show (0 : Int) < 60 by omega); omega
  obtain ⟨K, hK⟩ : ∃ K : Nat, a0 % 2000 = (K : Int) := ⟨(a0 % 2000).toNat, by have := Int.emod_nonneg a0 (show (2000 : Int) ≠ 0 by omega); omega⟩
  have hKb : K ≤ 1999 := by have := Int.emod_lt_of_pos a0 (show (0 : Int) < 2000 by omega); omega
  obtain ⟨P, hP⟩ : ∃ P : Nat, 16 * N = P := ⟨_, rfl⟩
  have hPI : 16 * (N : Int) = (P : Int) := by omega
  have hPb : 512 ≤ P ∧ P ≤ 1456 := by omega
  obtain ⟨Q, hQ⟩ : ∃ Q : Nat, P - 25 = Q := ⟨_, rfl⟩
  have hQI : (P : Int) - 25 = (Q : Int) := by omega
  replace hP := hid hP
  replace hQ := hid hQ
  clear w0 w1
  go_enter Tryz.func5, Tryz.ntmps5
  go_wp2_with (go_at_call 10; refine (known15_c _).mono ?_; rintro e w1 ⟨rfl, hb1⟩)
  have hs1 := hb1.size
  refine (New_c (N : Int) N (by omega) w1).mono ?_
  rintro e w2 ⟨d, k, m, rfl, hD2, hlo, hf2⟩
  have hs2 := hf2.size
  go_wp2_with fail
  refine (Make_g w.heap.size d k m N w2 hD2 hNb.1 (by omega)).mono ?_
  rintro e w3 ⟨st, rfl, hG3, hf3⟩
  have hb3 : Below w.heap.size w w3 := (hb1.trans (hf2.below hs1 (by simp))).trans (hf3.below (by omega) (by simp; omega))
  obtain ⟨w4, S, hSz, hmk, hcv, hf4⟩ := zeros_str w3 K (by omega)
  have hG4 := hG3.fr hf4
  have hb4 := hb3.trans (hf4.below hG3.size (by simp))
  have hr := hid (right1 ⟨#[97]⟩ S rfl (by omega))
  have ha := hid (app1 S)
  replace hSz := hid hSz
  by_cases hfit : K + 25 ≤ P
  · have hfitI : (K : Int) + 25 ≤ (P : Int) := by omega
    go_wp2_with fail
    refine (Do_lit w.heap.size st d k m N 5 [] 1 [⟨⟨#[97]⟩, S, false⟩] _ _ w4 hG4 rfl rfl (by decide) hr.out (by decide) _ ha.out ⟨by simp, by rw [size1, hSz.out, hP.out]; exact hfit⟩).mono ?_
    rintro e w5 ⟨rfl, hG5, hb5⟩
    have hb05 := hb4.trans hb5
    obtain ⟨w6, S6, hSz6, hmk6, hcv6, hf6⟩ := zeros_str w5 P (by omega)
    have hG6 := hG5.fr hf6
    have hb06 := hb05.trans (hf6.below hG5.size (by simp))
    have hr6 := hid (right1 ⟨#[98]⟩ S6 rfl (by omega))
    replace hSz6 := hid hSz6
    clear hmk hcv
    go_wp2_with fail
    refine (Do_lit_room w.heap.size st d k m N _ _ 1 [⟨⟨#[98]⟩, S6, false⟩] _ _ w6 hG6 rfl rfl (by decide) hr6.out (by decide) (by rw [app2, size2, hSz6.out, hP.out]; omega)).mono ?_
    rintro e w7 ⟨rfl, hf7⟩
    have hG7 := hG6.fr hf7
    have hb07 := hb06.trans (hf7.below hG6.size (by simp))
    obtain ⟨w8, S8, hSz8, hmk8, hcv8, hf8⟩ := zeros_str w7 Q (by have := hQ.out; omega)
    have hG8 := hG7.fr hf8
    have hb08 := hb07.trans (hf8.below hG7.size (by simp))
    have hr8 := hid (right2 S8 (by have := hQ.out; omega))
    have hq := hQ.out
    have hQP : Q + 25 = P := by omega
    replace hQP := hid hQP
    replace hSz8 := hid hSz8
    clear hmk6 hcv6 hq
    go_wp2_with fail
    refine (Do_lit w.heap.size st d k m N _ _ 2 [⟨⟨#[97]⟩, ⟨#[]⟩, true⟩, ⟨⟨#[99]⟩, S8, false⟩] _ _ w8 hG8 rfl rfl (by decide) hr8.out (by decide) _ (app3 _ S8) ⟨by simp, by rw [size1, hSz8.out, hP.out, hQP.out]; exact Nat.le_refl _⟩).mono ?_
    rintro e w9 ⟨rfl, hG9, hb9⟩
    have hb09 := hb08.trans hb9
    clear hmk8 hcv8
    go_wp2_with fail
    refine (Size_g w.heap.size st d k m N _ _ w9 hG9).mono ?_
    rw [size1, hSz8.out, hQP.out]
    rintro e w10 ⟨rfl, hf10⟩
    have hb10 := hb09.trans (hf10.below hG9.size (by simp))
    go_wp2_with fail
    go_ret
    exact ⟨rfl, hb10⟩
  · have hfitI : ¬ (K : Int) + 25 ≤ (P : Int) := by omega
    have hfitD : decide ((K : Int) + 25 ≤ (P : Int)) = false := decide_eq_false hfitI
    go_wp2_with fail
    refine (Do_lit_room w.heap.size st d k m N 5 [] 1 [⟨⟨#[97]⟩, S, false⟩] _ _ w4 hG4 rfl rfl (by decide) hr.out (by decide) (by rw [ha.out, size1, hSz.out, hP.out]; omega)).mono ?_
    rintro e w5 ⟨rfl, hf5⟩
    have hG5 := hG4.fr hf5
    have hb05 := hb4.trans (hf5.below hG4.size (by simp))
    clear hmk hcv
    go_wp2_with fail
    refine (Size_g w.heap.size st d k m N _ _ w5 hG5).mono ?_
    rw [show sizeL [] = 0 from rfl]
    rintro e w6 ⟨rfl, hf6⟩
    have hG6 := hG5.fr hf6
    have hb06 := hb05.trans (hf6.below hG5.size (by simp))
    go_wp2_with fail
    refine (Keys_g w.heap.size st d k m N _ _ w6 hG6).mono ?_
    rintro e w7 ⟨v7, rfl, hO7, hf7⟩
    obtain ⟨A7, c7, rfl, _, _, _⟩ := hO7.form
    have hl7 : (([] : List KV).map fun p => stB p.1).length = 0 := rfl
    rw [hl7]
    clear hO7 hl7
    have hG7 := hG6.fr hf7
    have hb07 := hb06.trans (hf7.below hG6.size (by simp))
    go_wp2_with fail
    refine (Do_lit w.heap.size st d k m N _ _ 1 [⟨⟨#[97]⟩, ⟨#[120]⟩, false⟩] _ _ w7 hG7 rfl rfl (by decide) (by decide) (by decide) _ (app1 _) ⟨by simp, by rw [size1, hP.out]; show 1 + 25 ≤ P; omega⟩).mono ?_
    rintro e w8 ⟨rfl, hG8, hb8⟩
    go_wp2_with fail
    go_ret
    exact ⟨rfl, hb07.trans hb8⟩
end Go.Proofs.YtiialjncdhhceaaGreat.storeFull
