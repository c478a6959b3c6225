/- The walk of JournalLong: it returns true, whatever the input, and writes nothing that was there. -/
import Derived.Test.YtiialjncdhhceaaJrnReplaceNo
namespace Go.Proofs.Ytiialjncdhhceaa.journalLong
open Go.RowKit
set_option linter.unusedVariables false
set_option linter.unusedSimpArgs false

theorem lit_rs {W : World} (s : ByteArray) : RSs (W.alloc (.cells #[.string s] 9)) (some ⟨W.heap.size, 0, none⟩) 1 [s] := by
  refine ⟨rfl, by decide, .inr ⟨_, _, rfl, fun q hq => ?_⟩⟩
  have hq0 : q = 0 := by simpa using hq
  subst hq0
  exact cell_of_row _ _ 0 _ _ _ (heap_alloc_new W _)
theorem arL800 : arL 800 = 396 := by decide

set_option maxHeartbeats 2000000 in
set_option maxRecDepth 100000 in
theorem walk (mo : Bool) (n0 : Int) (w : World) (w1 : (Lit.int .u16 n0).wf = true) :
    Calls Try.prog 18 #[.bool mo, .int .u16 n0] w fun e w' => e = .returned (.bool true) ∧ Below w.heap.size w w' := by
  have hn : 0 ≤ n0 ∧ n0 ≤ 65535 := by simpa [Lit.wf, IntKind.min, IntKind.max, IntKind.signed, IntKind.bits] using w1
  clear w1
  obtain ⟨x, hx⟩ : ∃ x : Nat, n0 % 100 = (x : Int) := ⟨(n0 % 100).toNat, by omega⟩
  have hx100 : x < 100 := by omega
  have hxi : (x : Int) < 100 := by omega
  cases mo
  · go_enter Try.func18, Try.ntmps18
    go_wp2_with (go_at_call 53; refine (known14_c _).mono ?_; rintro e w1 ⟨rfl, hb1⟩)
    have hs1 := hb1.size
    refine (New_c 800 800 (by decide) w1).mono ?_
    rintro e w2 ⟨d, k, m, rfl, hD2, hlo, hf2⟩
    have hs2 := hf2.size
    go_wp2_with fail
    refine (Format_new w.heap.size d k m _ w2 hD2 rfl (by decide) (fun _ => rfl) (by decide) (by omega)).mono ?_
    rintro e w3 ⟨j, rfl, hJ3, hD3, hf3⟩
    have hH3 : Holds (formS (DSt.new 800)) 0 0 [] := formS_holds _ (by decide) (fun _ => rfl)
    have hb3 : Below w.heap.size w w3 := (hb1.trans (hf2.below hs1 (by simp))).trans (hf3.below (by omega) (by simp; omega))
    have q3 : (formS (DSt.new 800)).offAt = 0 ∧ (formS (DSt.new 800)).n = 800 ∧ (formS (DSt.new 800)).steps = 5 := ⟨rfl, rfl, rfl⟩
    generalize formS (DSt.new 800) = s3 at *
    obtain ⟨K, hK⟩ : ∃ K : Nat, 20000 - x = K := ⟨_, rfl⟩
    have hKI : 20000 - (x : Int) = (K : Int) := by omega
    obtain ⟨w4, hmk, hr4, hs4, hf4⟩ := make_bytes w3 K (by omega)
    have hstr : (convert 22 9 (.slice (some ⟨w3.heap.size, 0, none⟩) K K)).run Try.prog w4 = .ok (.string ⟨(List.replicate K (0 : UInt8)).toArray⟩) w4 := run_str 22 5 9 Try.underlying22 Try.underlying5 Try.underlying9 (rb_of_range hr4 (by simp) (by omega))
    have hmk' := hmk (K : Int) rfl
    obtain ⟨S, hS⟩ : ∃ S : ByteArray, S = ⟨(List.replicate K (0 : UInt8)).toArray⟩ := ⟨_, rfl⟩
    have hSz : S.size = K := by rw [hS]; show (List.replicate K (0 : UInt8)).toArray.size = K; simp
    rw [← hS] at hstr
    clear hS hmk hr4
    have hJ4 := hJ3.fr hf4
    have hD4 := hD3.fr hf4
    have hb4 : Below w.heap.size w w4 := hb3.trans (hf4.below (by have := hf3.size; omega) (by simp))
    have hw4 : w.heap.size ≤ w4.heap.size := by have := hf3.size; omega
    replace hK := hid hK
    replace hSz := hid hSz
    go_wp2_with fail
    have hsz := hSz.out
    have hkk := hK.out
    refine (Append_ok w.heap.size j d k m 0 0 [] S s3 w4 hJ4 hD4 hH3 q3.1 (by omega) (by omega) (by rw [q3.2.1, arL800, hsz]; simp [recsB]; omega) (by decide)).mono ?_
    rintro e w5 ⟨rfl, s5, hJ5, hD5, hH5, q51, q52, q53, hb5⟩
    rw [List.nil_append] at hJ5 hH5
    clear hsz hkk
    go_wp2_with fail
    refine (All_c w.heap.size j d k m _ 0 _ w5 hJ5 (by simp)).mono ?_
    rintro e w6 ⟨v6, rfl, hO6, hf6⟩
    obtain ⟨A6, c6, rfl, _, _, _⟩ := hO6.form
    have hl6 : [S].length = 1 := rfl
    rw [hl6]
    clear hl6 hO6
    have hJ6 := hJ5.fr hf6
    have hD6 := hD5.fr hf6
    have hlo6 := hJ6.lo
    have hlt6 := hD6.lts
    go_wp2_with fail
    have hR7 := lit_rs (W := w6) S
    have hf7 : Fr [] w6 (w6.alloc (.cells #[.string S] 9)) := (Fr.refl [] w6).alloc _
    have hjl : j < w6.heap.size := by
      obtain ⟨_, _, _, _, _, _, hblk, _⟩ := hJ6.ex
      exact (Array.getElem?_eq_some_iff.1 hblk).1
    generalize w6.alloc (.cells #[.string S] 9) = w7 at *
    have hsz := hSz.out
    have hkk := hK.out
    refine (Replace_ok w.heap.size j d k m _ 0 _ (some ⟨w6.heap.size, 0, none⟩) 1 1 [S] s5 w7 (hJ6.fr hf7) (hD6.fr hf7) hH5 q51 (by omega) hR7 (by intro _ a ha; cases ha; simp only; omega) (by intro r hr; simp at hr; rw [hr]; omega) (by rw [q52, q3.2.1, arL800]; simp only [weightL]; omega)).mono ?_
    rintro e w8 ⟨rfl, s8, hJ8, hD8, hH8, q81, q82, q83, hb8⟩
    clear hsz hkk
    go_wp2_with fail
    go_ret
    exact ⟨rfl, ((hb4.trans hb5).trans ((hf6.then hf7).below (by have := hJ5.lo; omega) (by simp))).trans hb8⟩
  · go_enter Try.func18, Try.ntmps18
    go_wp2_with (go_at_call 53; refine (known14_c _).mono ?_; rintro e w1 ⟨rfl, hb1⟩)
    have hs1 := hb1.size
    refine (New_c 800 800 (by decide) w1).mono ?_
    rintro e w2 ⟨d, k, m, rfl, hD2, hlo, hf2⟩
    have hs2 := hf2.size
    go_wp2_with fail
    refine (Format_new w.heap.size d k m _ w2 hD2 rfl (by decide) (fun _ => rfl) (by decide) (by omega)).mono ?_
    rintro e w3 ⟨j, rfl, hJ3, hD3, hf3⟩
    have hH3 : Holds (formS (DSt.new 800)) 0 0 [] := formS_holds _ (by decide) (fun _ => rfl)
    have hb3 : Below w.heap.size w w3 := (hb1.trans (hf2.below hs1 (by simp))).trans (hf3.below (by omega) (by simp; omega))
    have q3 : (formS (DSt.new 800)).offAt = 0 ∧ (formS (DSt.new 800)).n = 800 ∧ (formS (DSt.new 800)).steps = 5 := ⟨rfl, rfl, rfl⟩
    generalize formS (DSt.new 800) = s3 at *
    obtain ⟨K, hK⟩ : ∃ K : Nat, 20001 + x = K := ⟨_, rfl⟩
    have hKI : 20001 + (x : Int) = (K : Int) := by omega
    obtain ⟨w4, hmk, hr4, hs4, hf4⟩ := make_bytes w3 K (by omega)
    have hstr : (convert 22 9 (.slice (some ⟨w3.heap.size, 0, none⟩) K K)).run Try.prog w4 = .ok (.string ⟨(List.replicate K (0 : UInt8)).toArray⟩) w4 := run_str 22 5 9 Try.underlying22 Try.underlying5 Try.underlying9 (rb_of_range hr4 (by simp) (by omega))
    have hmk' := hmk (K : Int) rfl
    obtain ⟨S, hS⟩ : ∃ S : ByteArray, S = ⟨(List.replicate K (0 : UInt8)).toArray⟩ := ⟨_, rfl⟩
    have hSz : S.size = K := by rw [hS]; show (List.replicate K (0 : UInt8)).toArray.size = K; simp
    rw [← hS] at hstr
    clear hS hmk hr4
    have hJ4 := hJ3.fr hf4
    have hD4 := hD3.fr hf4
    have hb4 : Below w.heap.size w w4 := hb3.trans (hf4.below (by have := hf3.size; omega) (by simp))
    have hw4 : w.heap.size ≤ w4.heap.size := by have := hf3.size; omega
    replace hK := hid hK
    replace hSz := hid hSz
    go_wp2_with fail
    have hsz := hSz.out
    have hkk := hK.out
    refine (Append_no w.heap.size j d k m 0 0 [] S s3 w4 hJ4 hD4 (by omega) (by left; omega)).mono ?_
    rw [if_pos (by omega)]
    rintro e w5 ⟨rfl, hf5⟩
    clear hsz hkk
    have hJ5 := hJ4.fr hf5
    have hD5 := hD4.fr hf5
    go_wp2_with fail
    refine (All_c w.heap.size j d k m _ 0 _ w5 hJ5 (by simp)).mono ?_
    rintro e w6 ⟨v6, rfl, hO6, hf6⟩
    obtain ⟨A6, c6, rfl, _, _, _⟩ := hO6.form
    have hl6 : ([] : List ByteArray).length = 0 := rfl
    rw [hl6]
    clear hl6 hO6
    have hJ6 := hJ5.fr hf6
    have hD6 := hD5.fr hf6
    go_wp2_with fail
    have hR7 := lit_rs (W := w6) S
    have hf7 : Fr [] w6 (w6.alloc (.cells #[.string S] 9)) := (Fr.refl [] w6).alloc _
    generalize w6.alloc (.cells #[.string S] 9) = w7 at *
    have hsz := hSz.out
    have hkk := hK.out
    refine (Replace_long w.heap.size j d k m _ 0 _ (some ⟨w6.heap.size, 0, none⟩) 1 1 [S] s3 w7 (hJ6.fr hf7) (hD6.fr hf7) hR7 (by decide) (by show 20000 < S.size; omega)).mono ?_
    rintro e w8 ⟨rfl, hf8⟩
    clear hsz hkk
    go_wp2_with fail
    go_ret
    exact ⟨rfl, hb4.trans ((((hf5.then hf6).then hf7).then hf8).below hw4 (by simp))⟩
end Go.Proofs.Ytiialjncdhhceaa.journalLong
