/- The walk of StoreLong: it returns true, whatever the input, and writes nothing that was there. -/
import Derived.Test.YtiialjncdhhceaaGreatStoRow
namespace Go.Proofs.YtiialjncdhhceaaGreat.storeLong
open Go.RowKit
set_option linter.unusedVariables false
set_option linter.unusedSimpArgs false

def tx2 (i : Nat) (l : List UInt8) : List Wr := [⟨⟨#[110]⟩, stB [UInt8.ofNat i], false⟩, ⟨⟨#[98]⟩, stB l, false⟩]
def LL (l : List UInt8) : Nat → List KV
  | 0 => []
  | i + 1 => [([98], l), ([110], [UInt8.ofNat i])]
theorem right2 (i : Nat) (l : List UInt8) (hl : l.length ≤ 100) : rightB (tx2 i l) = true := by
  have h1 : (⟨⟨#[110]⟩, stB [UInt8.ofNat i], false⟩ : Wr).ok = true := (Wr.ok_iff _).2 ⟨by simp only; decide, by simp only; decide, by simp only [stB_size]; simp, by simp⟩
  have h2 : (⟨⟨#[98]⟩, stB l, false⟩ : Wr).ok = true := (Wr.ok_iff _).2 ⟨by simp only; decide, by simp only; decide, by simp only [stB_size]; omega, by simp⟩
  simp [rightB, tx2, h1, h2]
theorem app2 (i : Nat) (l : List UInt8) : applyTx (LL l i) (tx2 i l) = LL l (i + 1) := by
  cases i with
  | zero => rfl
  | succ i => rfl
theorem one_str (w : World) (i : Nat) (hi : i < 256) : (convert 30 9 (.slice (some ⟨w.heap.size, 0, none⟩) 1 1)).run Tryz.prog (w.alloc (.cells #[.int .u8 (i : Int)] 5)) = .ok (.string (stB [UInt8.ofNat i])) (w.alloc (.cells #[.int .u8 (i : Int)] 5)) := by
  refine str_of_ob _ _ 1 1 [UInt8.ofNat i] ⟨rfl, by omega, .inr ⟨w.heap.size, 0, rfl, fun j hj => ?_⟩⟩
  have hj0 : j = 0 := by simp at hj; omega
  subst hj0
  have h1 := cell_of_row _ _ 0 _ _ _ (heap_alloc_new w (.cells #[.int .u8 (i : Int)] 5))
  rw [Nat.zero_add, h1]
  simp
  omega

set_option maxHeartbeats 2000000 in
set_option maxRecDepth 100000 in
theorem early (a0 : Int) (A : Option Addr) (n c : Nat) (w : World) (hn : ¬ n ≤ 100) :
    Calls Tryz.prog 6 #[.int .u8 a0, .slice A n c] w fun e w' => e = .returned (.bool true) ∧ Below w.heap.size w w' := by
  have hi : (100 : Int) < n := by omega
  go_enter Tryz.func6, Tryz.ntmps6
  go_wp2_with (go_at_call 10; refine (known15_c _).mono ?_; rintro e w1 ⟨rfl, hb1⟩)
  go_ret
  exact ⟨rfl, hb1⟩

set_option maxHeartbeats 4000000 in
set_option maxRecDepth 100000 in
theorem main (a0 : Int) (A : Option Addr) (n c : Nat) (l : List UInt8) (w : World) (h0 : 0 ≤ a0 ∧ a0 ≤ 255) (hR : RB w A n l) (hnc : n ≤ c) (hn : n ≤ 100) :
    Calls Tryz.prog 6 #[.int .u8 a0, .slice A n c] w fun e w' => e = .returned (.bool true) ∧ Below w.heap.size w w' := by
  have hi : ¬ (100 : Int) < n := by omega
  have hll := hR.1
  obtain ⟨T, hT⟩ : ∃ T : Nat, a0 % 120 = (T : Int) := ⟨(a0 % 120).toNat, by have := Int.emod_nonneg a0 (show (120 : Int) ≠ 0 by omega); omega⟩
  have hTb : T ≤ 119 := by have := Int.emod_lt_of_pos a0 (show (0 : Int) < 120 by omega); omega
  have hr := hid (fun i => right2 i l (by omega))
  have hRb := hid (fun w' (h : Below w.heap.size w w') => hR.below h)
  go_enter Tryz.func6, Tryz.ntmps6
  go_wp2_with (go_at_call 10; refine (known15_c _).mono ?_; rintro e w1 ⟨rfl, hb1⟩)
  have hs1 := hb1.size
  refine (New_c 40 40 (by decide) w1).mono ?_
  rintro e w2 ⟨d, k, m, rfl, hD2, hlo, hf2⟩
  have hs2 := hf2.size
  go_wp2_with fail
  refine (Make_g w.heap.size d k m 40 w2 hD2 (by decide) (by omega)).mono ?_
  rintro e w3 ⟨st, rfl, hG3, hf3⟩
  have hb3 : Below w.heap.size w w3 := (hb1.trans (hf2.below hs1 (by simp))).trans (hf3.below (by omega) (by simp; omega))
  go_wp2_with fail
  go_loopw [8] (fun iv wr => ∃ i : Nat, i ≤ T + 1 ∧ iv = .int .i64 i ∧ Good wr w.heap.size st d k m 40 (5 + i * 1004) (LL l i) ∧ Below w.heap.size w wr) (fun iv _ => T + 1 - (intOf iv).toNat)
  case atStart => exact ⟨0, by omega, rfl, hG3, hb3⟩
  case round =>
    obtain ⟨i, hiT, rfl, hG, hb⟩ := hrel
    by_cases hin : i ≤ T
    · have hcv := one_str wr i (by omega)
      have hfa : Fr [] wr (wr.alloc (.cells #[.int .u8 (i : Int)] 5)) := (Fr.refl [] wr).alloc _
      have hba := hb.trans (hfa.below hG.size (by simp))
      have hcv2 := str_of_ob _ A n c l (hRb.out _ hba)
      have hGa := hG.fr hfa
      have hza : (wr.alloc (.cells #[.int .u8 (i : Int)] 5)).heap.size = wr.heap.size + 1 := by simp
      replace hza := hid hza
      have hiu : (i : Int) ≤ 119 := by omega
      generalize hX : stB [UInt8.ofNat i] = X at *
      generalize hY : stB l = Y at *
      replace hX := hid hX
      replace hY := hid hY
      go_wp2_with fail
      clear hcv hcv2
      generalize wr.alloc (.cells #[.int .u8 (i : Int)] 5) = wa at *
      rw [← hza.out]
      refine (Do_lit w.heap.size st d k m 40 _ _ 2 (tx2 i l) _ _ wa hGa (by rw [← hX.out, ← hY.out]; rfl) rfl (by decide) (hr.out i) (by omega) _ (app2 i l) ⟨by simp [LL], by simp only [LL, sizeL, List.length_cons, List.length_nil]; omega⟩).mono ?_
      rintro e w5 ⟨rfl, hG5, hb5⟩
      go_wp2_with fail
      try go_frame
      go_roundw
      case rel => exact ⟨i + 1, by omega, rfl, by rw [show 5 + (i + 1) * 1004 = 5 + i * 1004 + 1004 by omega]; exact hG5, hba.trans hb5⟩
      case measure => simp [intOf]; omega
    · have hie : i = T + 1 := by omega
      subst hie
      go_wp2_with fail
      refine (Crash_lit w.heap.size st d k m 40 _ _ 1 [1] _ _ wr hG rfl rfl (by decide)).mono ?_
      rintro e w6 ⟨rfl, hG6, hb6, _⟩
      have hb06 := hb.trans hb6
      go_wp2_with fail
      refine (Open_g w.heap.size st d k m 40 _ _ w6 hG6).mono ?_
      rintro e w7 ⟨st7, rfl, hT7, _, hf7⟩
      have hb07 := hb06.trans (hf7.below hG6.size (by simp))
      go_wp2_with fail
      refine (Get_g w.heap.size st7 d k m 40 _ _ ⟨#[110]⟩ (by decide) w7 hT7).mono ?_
      rw [show getL (bs ⟨#[110]⟩) (LL l (T + 1)) = some [UInt8.ofNat T] from rfl, elS_some]
      rintro e w8 ⟨rfl, rfl⟩
      go_wp2_with fail
      refine (Get_g w.heap.size st7 d k m 40 _ _ ⟨#[98]⟩ (by decide) w7 hT7).mono ?_
      rw [show getL (bs ⟨#[98]⟩) (LL l (T + 1)) = some l from rfl, elS_some]
      rintro e w8 ⟨rfl, rfl⟩
      have hcv := one_str w7 T (by omega)
      have hfa : Fr [] w7 (w7.alloc (.cells #[.int .u8 (T : Int)] 5)) := (Fr.refl [] w7).alloc _
      have hba := hb07.trans (hfa.below hT7.size (by simp))
      have hcv2 := str_of_ob _ A n c l (hRb.out _ hba)
      generalize stB [UInt8.ofNat T] = X at *
      generalize stB l = Y at *
      go_wp2_with fail
      go_ret
      exact ⟨rfl, hba⟩

theorem walk (a0 : Int) (A : Option Addr) (n c : Nat) (l : List UInt8) (w : World) (w0 : (Lit.int .u8 a0).wf = true) (hR : RB w A n l) (hnc : n ≤ c) :
    Calls Tryz.prog 6 #[.int .u8 a0, .slice A n c] w fun e w' => e = .returned (.bool true) ∧ Below w.heap.size w w' := by
  have h0 : 0 ≤ a0 ∧ a0 ≤ 255 := by simpa [Lit.wf, IntKind.min, IntKind.max, IntKind.signed, IntKind.bits] using w0
  by_cases hn : n ≤ 100
  · exact main a0 A n c l w h0 hR hnc hn
  · exact early a0 A n c w hn
end Go.Proofs.YtiialjncdhhceaaGreat.storeLong
