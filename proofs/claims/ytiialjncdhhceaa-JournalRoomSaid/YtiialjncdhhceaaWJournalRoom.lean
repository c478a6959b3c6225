/- The walk of JournalRoom: it returns true, whatever the input, and writes nothing that was there. -/
import Derived.Test.YtiialjncdhhceaaJrnLaw2
namespace Go.Proofs.Ytiialjncdhhceaa.journalRoom
open Go.RowKit
set_option linter.unusedVariables false
set_option linter.unusedSimpArgs false

set_option maxHeartbeats 2000000 in
set_option maxRecDepth 100000 in
theorem early1 (a0 : Int) (A : Option Addr) (n c : Nat) (w : World) (hn : ¬ n ≤ 40) :
    Calls Try.prog 19 #[.int .u8 a0, .slice A n c] w fun e w' => e = .returned (.bool true) ∧ Below w.heap.size w w' := by
  have hi : (40 : Int) < n := by omega
  go_enter Try.func19, Try.ntmps19
  go_wp2_with (go_at_call 53; refine (known14_c _).mono ?_; rintro e w1 ⟨rfl, hb1⟩)
  go_ret
  exact ⟨rfl, hb1⟩

set_option maxHeartbeats 4000000 in
set_option maxRecDepth 100000 in
theorem main (a0 : Int) (A : Option Addr) (n c : Nat) (l : List Int) (w : World) (hR : RN w .u16 A n l) (hnc : n ≤ c) (hn : n ≤ 40) (h0 : 0 ≤ a0 ∧ a0 ≤ 255) :
    Calls Try.prog 19 #[.int .u8 a0, .slice A n c] w fun e w' => e = .returned (.bool true) ∧ Below w.heap.size w w' := by
  have hi : ¬ (40 : Int) < n := by omega
  have hll := hR.1
  obtain ⟨N, hN⟩ : ∃ N : Nat, a0 % 60 + 8 = (N : Int) := ⟨(a0 % 60 + 8).toNat, by have := Int.emod_nonneg a0 (show (60 : Int) ≠ 0 by omega); omega⟩
  have hNb : 8 ≤ N ∧ N ≤ 67 := by have := Int.emod_nonneg a0 (show (60 : Int) ≠ 0 by omega); have := Int.emod_lt_of_pos a0 (show (0 : Int) < 60 by omega); omega
  obtain ⟨P, hP⟩ : ∃ P : Nat, 64 * arL N = P := ⟨_, rfl⟩
  have hPI : 64 * ((N : Int) / 2 - 4) = (P : Int) := by rw [← hP]; unfold arL; omega
  have hPb : P ≤ 1856 := by rw [← hP]; unfold arL; omega
  replace hP := hid hP
  replace hll := hid hll
  have hA0 := hid (show ∀ w', Below w.heap.size w w' → RN w' .u16 A n l from fun w' h => hR.below h)
  have hwf := hid hR.2.2.1
  clear hR
  go_enter Try.func19, Try.ntmps19
  go_wp2_with (go_at_call 53; refine (known14_c _).mono ?_; rintro e w1 ⟨rfl, hb1⟩)
  have hs1 := hb1.size
  refine (New_c (N : Int) N (by omega) w1).mono ?_
  rintro e w2 ⟨d, k, m, rfl, hD2, hlo, hf2⟩
  have hs2 := hf2.size
  go_wp2_with fail
  refine (Format_new w.heap.size d k m _ w2 hD2 rfl (by show 8 ≤ N; omega) (fun _ => rfl) (by show 0 ≤ 900000000; decide) (by omega)).mono ?_
  rintro e w3 ⟨j, rfl, hJ3, hD3, hf3⟩
  have hH3 : Holds (formS (DSt.new N)) 0 0 [] := formS_holds _ (by show 8 ≤ N; omega) (fun _ => rfl)
  have hb3 : Below w.heap.size w w3 := (hb1.trans (hf2.below hs1 (by simp))).trans (hf3.below (by omega) (by simp; omega))
  have q3 : (formS (DSt.new N)).offAt = 0 ∧ (formS (DSt.new N)).n = N ∧ (formS (DSt.new N)).steps = 5 := ⟨rfl, rfl, rfl⟩
  generalize formS (DSt.new N) = s3 at *
  replace q3 := hid q3
  replace hH3 := hid hH3
  replace hJ3 := hid hJ3
  replace hD3 := hid hD3
  go_wp2_with fail
  go_loopw [9, 10] (fun uv iv wr => ∃ i : Nat, i ≤ n ∧ iv = .int .i64 i ∧ ∃ L hd s, uv = .int .i64 (weightL L : Int) ∧ L.length ≤ i ∧ (recsB L).length ≤ P ∧ IsJ wr w.heap.size j d k m hd 0 L ∧ IsDisk wr d k m s ∧ Holds s hd 0 L ∧ s.offAt = 0 ∧ s.n = N ∧ s.steps ≤ 5 + i * 1004 ∧ Below w.heap.size w wr) (fun _ iv _ => n - (intOf iv).toNat)
  case atStart => exact ⟨0, by omega, rfl, [], 0, s3, rfl, by simp, by simp [recsB], hJ3.out, hD3.out, hH3.out, q3.out.1, q3.out.2.1, by have := q3.out; omega, hb3⟩
  case round =>
    obtain ⟨i, hin', rfl, L, hd, s, rfl, hLi, hfit, hJ, hD, hH, q1, q2, q4, hb⟩ := hrel
    have hwL := recsB_weight L
    obtain ⟨U, hU⟩ : ∃ U : Nat, weightL L = U := ⟨_, rfl⟩
    obtain ⟨B, hB⟩ : ∃ B : Nat, (recsB L).length = B := ⟨_, rfl⟩
    rw [hU] at hwL ⊢
    rw [hB] at hwL hfit
    have hUb : B ≤ U ∧ U ≤ 2400 := by omega
    replace hU := hid hU
    replace hB := hid hB
    replace hwL := hid hwL
    by_cases hin : i < n
    · have hiI : (i : Int) < n := by omega
      have hil : i < l.length := by rw [hll.out]; exact hin
      have hx := hwf.out l[i] (List.getElem_mem hil)
      have hx2 : 0 ≤ l[i] ∧ l[i] ≤ 65535 := by simpa [Lit.wf, IntKind.min, IntKind.max, IntKind.signed, IntKind.bits] using hx
      clear hx
      have hcl : ∀ w', Below w.heap.size w w' → ∃ b off, A = some ⟨b, off, none⟩ ∧ w'.cell? ⟨b, off + i, none⟩ = some (.int .u16 l[i]) := by
        intro w' h
        rcases (hA0.out w' h).2.2.2 with h0 | ⟨b, off, rfl, hc⟩
        · omega
        · exact ⟨b, off, rfl, hc i hil⟩
      generalize l[i] = x at *
      go_wp2_with fail
      refine (Room_c w.heap.size j d k m hd 0 L s wr hJ hD (by rw [q2, hP.out, hB.out]; exact hfit)).mono ?_
      rintro e w5 ⟨rfl, hf5⟩
      rw [q2, hP.out, hB.out]
      have hJ5 := hJ.fr hf5
      have hD5 := hD.fr hf5
      have hb5 := hb.trans (hf5.below hJ.lo.2.2.2.2 (by simp))
      clear hJ hD
      obtain ⟨R, hRr⟩ : ∃ R : Nat, P - B - 4 = R := ⟨_, rfl⟩
      rw [hRr]
      have hRI : ¬ (R : Int) < max 0 ((P : Int) - U - 16) := by omega
      replace hRr := hid hRr
      obtain ⟨b, off, rfl, hc5⟩ := hcl _ hb5
      obtain ⟨K, hK⟩ : ∃ K : Nat, x % 400 = (K : Int) := ⟨(x % 400).toNat, by have := Int.emod_nonneg x (show (400 : Int) ≠ 0 by omega); omega⟩
      have hK4 : K < 400 := by have := Int.emod_lt_of_pos x (show (0 : Int) < 400 by omega); omega
      obtain ⟨w6, hmk, hr6, hs6, hf6⟩ := make_bytes w5 K (by omega)
      have hstr : (convert 22 9 (.slice (some ⟨w5.heap.size, 0, none⟩) K K)).run Try.prog w6 = .ok (.string ⟨(List.replicate K (0 : UInt8)).toArray⟩) w6 := run_str 22 5 9 Try.underlying22 Try.underlying5 Try.underlying9 (rb_of_range hr6 (by simp) (by omega))
      have hmk' := hmk (K : Int) rfl
      obtain ⟨S, hS⟩ : ∃ S : ByteArray, S = ⟨(List.replicate K (0 : UInt8)).toArray⟩ := ⟨_, rfl⟩
      have hSz := hid (show S.size = K by rw [hS]; show (List.replicate K (0 : UInt8)).toArray.size = K; simp)
      rw [← hS] at hstr
      clear hS hmk hr6
      have hJ6 := hJ5.fr hf6
      have hD6 := hD5.fr hf6
      have hb6 := hb5.trans (hf6.below hJ5.lo.2.2.2.2 (by simp))
      have hlen6 := hJ6.lo
      by_cases hfitK : B + (K + 4) ≤ P
      · have hsz := hSz.out
        go_wp2_with fail
        refine (Append_ok w.heap.size j d k m hd 0 L S s w6 hJ6 hD6 hH q1 (by omega) (by have := hSz.out; omega) (by rw [q2, hP.out, hB.out, hSz.out]; exact hfitK) (by omega)).mono ?_
        rintro e w7 ⟨rfl, s7, hJ7, hD7, hH7, q71, q72, q73, hb7⟩
        have hbw7 := hb6.trans hb7
        clear hsz
        go_wp2_with fail
        all_goals try go_frame
        all_goals go_roundw
        all_goals first | exact ⟨i + 1, by omega, rfl, L ++ [S], 1 - hd, s7, by rw [weightL_append, hU.out]; simp only [weightL, hSz.out]; first | rfl | (congr 1; done) | (congr 1; omega), by rw [List.length_append]; simp; omega, by rw [recsB_append, List.length_append, hB.out]; simp [recsB, recB_len, hSz.out]; omega, hJ7, hD7, hH7, q71, by omega, by omega, hbw7⟩ | (simp [intOf]; omega)
      · have hRK : ¬ (K : Int) ≤ (R : Int) ∨ ¬ (0 : Int) ≤ (P : Int) - U - 16 := by have := hRr.out; omega
        have hno : ¬ (20000 < S.size) := by have := hSz.out; omega
        replace hno := hid hno
        go_wp2_with fail
        refine (Append_no w.heap.size j d k m hd 0 L S s w6 hJ6 hD6 (by have := hSz.out; omega) (.inr (by rw [q2, hP.out, hB.out, hSz.out]; omega))).mono ?_
        rw [if_neg hno.out]
        rintro e w7 ⟨rfl, hf7⟩
        have hJ7 := hJ6.fr hf7
        have hD7 := hD6.fr hf7
        have hb7 := hb6.trans (hf7.below (by omega) (by simp))
        rcases hRK with hRK | hRK
        · go_wp2_with fail
          all_goals try go_frame
          all_goals go_roundw
          all_goals first | exact ⟨i + 1, by omega, rfl, L, hd, s, by rw [hU.out], by omega, by rw [hB.out]; exact hfit, hJ7, hD7, hH, q1, q2, by omega, hb7⟩ | (simp [intOf]; omega)
        · go_wp2_with fail
          all_goals try go_frame
          all_goals go_roundw
          all_goals first | exact ⟨i + 1, by omega, rfl, L, hd, s, by rw [hU.out], by omega, by rw [hB.out]; exact hfit, hJ7, hD7, hH, q1, q2, by omega, hb7⟩ | (simp [intOf]; omega)
    · have hie : i = n := by omega
      subst hie
      go_wp2_with fail
      refine (Replace_ok w.heap.size j d k m hd 0 L none 0 0 [] s wr hJ hD hH q1 (by omega) (RSs.nil _ _) (by intro h; exact absurd rfl h) (by intro r hr; cases hr) (by simp [weightL])).mono ?_
      rintro e w7 ⟨rfl, s7, hJ7, hD7, hH7, q71, q72, q73, hb7⟩
      have hb7' := hb.trans hb7
      have hlo7 := hJ7.lo
      go_wp2_with fail
      refine (All_c w.heap.size j d k m _ _ _ w7 hJ7 (by simp)).mono ?_
      rintro e w8 ⟨v8, rfl, hO8, hf8⟩
      obtain ⟨A8, c8, rfl, _, _, _⟩ := hO8.form
      have hl8 : ([] : List ByteArray).length = 0 := rfl
      rw [hl8]
      clear hl8 hO8
      have hJ8 := hJ7.fr hf8
      have hD8 := hD7.fr hf8
      go_wp2_with fail
      refine (Room_c w.heap.size j d k m _ _ _ s7 w8 hJ8 hD8 (by simp [recsB])).mono ?_
      rw [q72, q2, hP.out, show (recsB []).length = 0 from rfl]
      rintro e w9 ⟨rfl, hf9⟩
      have hfin : ((P - 0 - 4 : Nat) : Int) ≥ max 0 ((P : Int) - 16) := by omega
      obtain ⟨R, hRr⟩ : ∃ R : Nat, P - 0 - 4 = R := ⟨_, rfl⟩
      rw [hRr] at hfin ⊢
      replace hRr := hid hRr
      go_wp2_with fail
      go_ret
      exact ⟨rfl, hb7'.trans ((hf8.then hf9).below (by omega) (by simp))⟩

theorem walk (a0 : Int) (A : Option Addr) (n c : Nat) (l : List Int) (w : World) (w0 : (Lit.int .u8 a0).wf = true) (hR : RN w .u16 A n l) (hnc : n ≤ c) :
    Calls Try.prog 19 #[.int .u8 a0, .slice A n c] w fun e w' => e = .returned (.bool true) ∧ Below w.heap.size w w' := by
  have h0 : 0 ≤ a0 ∧ a0 ≤ 255 := by simpa [Lit.wf, IntKind.min, IntKind.max, IntKind.signed, IntKind.bits] using w0
  by_cases hn : n ≤ 40
  · exact main a0 A n c l w hR hnc hn h0
  · exact early1 a0 A n c w hn
end Go.Proofs.Ytiialjncdhhceaa.journalRoom
