/- The walk of BitsNumbers: it returns true, whatever the input, and writes nothing that was there. -/
import Derived.Test.YtiialjncdhhceaaKnown1
import Derived.Test.YtiialjncdhhceaaBitsNil
import Derived.Deep.RegionWith
import Derived.Test.YtiialjncdhhceaaText
namespace Go.Proofs.Ytiialjncdhhceaa.bitsNumbers
open Go.RowKit
set_option linter.unusedVariables false
set_option linter.unusedSimpArgs false

set_option maxHeartbeats 8000000 in
set_option maxRecDepth 100000 in
theorem walk (n k : Int) (w : World) (w0 : (Lit.int .u64 n).wf = true) (w1 : (Lit.int .u8 k).wf = true) :
    Calls Try.prog 4 #[.int .u64 n, .int .u8 k] w fun e w' => e = .returned (.bool true) ∧ Below w.heap.size w w' := by
  have hn : 0 ≤ n ∧ n ≤ 18446744073709551615 := by simpa [Lit.wf, IntKind.min, IntKind.max, IntKind.signed, IntKind.bits] using w0
  have hk : 0 ≤ k ∧ k ≤ 255 := by simpa [Lit.wf, IntKind.min, IntKind.max, IntKind.signed, IntKind.bits] using w1
  clear w0 w1
  obtain ⟨x, rfl⟩ := Int.eq_ofNat_of_zero_le hn.1
  have hx : x < 18446744073709551616 := by omega
  have hx' := hid hx
  have hj0 : 0 ≤ k % 9 := by omega
  have hj9 : k % 9 ≤ 8 := by omega
  obtain ⟨j, hj⟩ : ∃ j : Nat, k % 9 = (j : Int) := ⟨(k % 9).toNat, by omega⟩
  have hj8 : j ≤ 8 := by omega
  have hj' := hid hj
  clear hj hx hn
  go_enter Try.func4, Try.ntmps4
  go_wp2_with (first | (go_at_call 21; refine (known1_c _).mono ?_; rintro e w1 ⟨rfl, hf1⟩))
  rw [hj'.out]
  refine (Put_nil x j j hx'.out (by omega) _).mono ?_
  rintro e w2 ⟨A2, c2, rfl, hc2, hr2, hf2⟩
  go_wp2_with fail
  refine (Put_nil x 8 8 hx'.out (by omega) _).mono ?_
  rintro e w3 ⟨A3, c3, rfl, hc3, hr3, hf3⟩
  go_wp2_with fail
  refine (Get_ok A3 8 c3 8 8 _ w3 hr3 hc3 (by omega) (by omega)).mono ?_
  rintro e w4 ⟨v4, rfl, ⟨A4, n4, c4, rfl, hc4, hr4, hl4⟩, hf4⟩
  have hg : getB (List.take 8 (putB x 8)) = x := by rw [List.take_of_length_le (by rw [putB_length]; exact Nat.le_refl _), getB_put8 x hx'.out]
  rw [hg]
  have hn4 : n4 = 0 := by have := hr4.1; rw [List.length_drop, putB_length] at this; omega
  subst hn4
  have hF : Fr [] w w4 := ((hf1.then hf2).then hf3).then hf4
  have hr2b := hr2.below (hf3.then hf4).all
  have hr3b := hr3.below hf4.all
  have hs2 : (convert 22 9 (.slice A2 j c2)).run Try.prog w4 = .ok (.string ⟨(putB x j).toArray⟩) w4 := run_str 22 5 9 Try.underlying22 Try.underlying5 Try.underlying9 hr2b
  go_wp2_with fail
  refine wp_region_text' (by kernel_rfl) (by kernel_rfl) ?_
  intro K hK
  have hs3 : (convert 22 9 (.slice A2 j c2)).run Try.prog w4.drew = .ok (.string ⟨(putB x j).toArray⟩) w4.drew := run_str 22 5 9 Try.underlying22 Try.underlying5 Try.underlying9 (w := w4.drew) hr2b
  have hcut : RB w4.drew (cutA A3 (8 - j) c3) (8 - (8 - j)) (putB x j) := by
    rw [putB_drop x j hj8]
    exact hr3b.cut (8 - j) (by omega) hc3
  have hs4 : c3 = 8 - j → (convert 22 9 (.slice A3 (8 - (8 - j)) 0)).run Try.prog w4.drew = .ok (.string ⟨(putB x j).toArray⟩) w4.drew := fun h => by
    refine run_str 22 5 9 Try.underlying22 Try.underlying5 Try.underlying9 ?_
    rw [cutA, if_pos h] at hcut
    exact hcut
  have hs5 : ¬ c3 = 8 - j → (convert 22 9 (.slice (Option.map (fun x => x.add (8 - j)) A3) (8 - (8 - j)) (c3 - (8 - j)))).run Try.prog w4.drew = .ok (.string ⟨(putB x j).toArray⟩) w4.drew := fun h => by
    refine run_str 22 5 9 Try.underlying22 Try.underlying5 Try.underlying9 ?_
    rw [cutA, if_neg h] at hcut
    exact hcut
  go_wp2_with fail
  all_goals refine (Put_nil x (-3) 0 hx'.out (by omega) _).mono ?_
  all_goals rintro e w5 ⟨A5, c5, rfl, hc5, hr5, hf5⟩
  all_goals go_wp2_with fail
  all_goals refine (Put_nil x 99 8 hx'.out (by omega) _).mono ?_
  all_goals rintro e w6 ⟨A6, c6, rfl, hc6, hr6, hf6⟩
  all_goals go_wp2_with fail
  all_goals refine hK _ _ (by kernel_rfl) ?_
  all_goals go_wp2_with fail
  all_goals go_ret
  all_goals exact ⟨rfl, (((hF.drew).then hf5).then hf6).all⟩
end Go.Proofs.Ytiialjncdhhceaa.bitsNumbers
