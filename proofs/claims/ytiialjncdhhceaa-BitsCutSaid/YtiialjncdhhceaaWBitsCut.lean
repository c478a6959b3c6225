/- The walk of BitsCut: it returns true, whatever the input, and writes nothing that was there. -/
import Derived.Test.YtiialjncdhhceaaKnown1
import Derived.Test.YtiialjncdhhceaaBitsNil
import Derived.Test.YtiialjncdhhceaaBitsMath
import Derived.Test.YtiialjncdhhceaaText
namespace Go.Proofs.Ytiialjncdhhceaa
theorem textB_take (s : ByteArray) (hs : s.size ≤ 65535) : getB ((textB s).take 2) = s.size := by
  unfold textB
  rw [List.take_append_of_le_length (by rw [putB_length]; exact Nat.le_refl _), List.take_of_length_le (by rw [putB_length]; exact Nat.le_refl _), getB_put _ _ (by omega)]
  exact Nat.mod_eq_of_lt (by have : (2 : Nat) ^ (8 * 2) = 65536 := by decide
                             omega)
theorem textB_drop (s : ByteArray) : (textB s).drop 2 = bs s := by
  unfold textB
  rw [List.drop_append_of_le_length (by rw [putB_length]; exact Nat.le_refl _), List.drop_of_length_le (by rw [putB_length]; exact Nat.le_refl _), List.nil_append]
theorem textB_read (s : ByteArray) : ((textB s).drop 2).take s.size = bs s := by
  rw [textB_drop, List.take_of_length_le (by rw [bs_length]; exact Nat.le_refl _)]
theorem textB_rest (s : ByteArray) : (textB s).drop (2 + s.size) = [] := by
  rw [List.drop_of_length_le]
  rw [textB_length]
  omega
theorem str_bs (s : ByteArray) : (⟨(bs s).toArray⟩ : ByteArray) = s := by
  cases s with
  | mk d => cases d with
    | mk l => rfl
end Go.Proofs.Ytiialjncdhhceaa
namespace Go.Proofs.Ytiialjncdhhceaa.bitsCut
open Go.RowKit
set_option linter.unusedVariables false
set_option linter.unusedSimpArgs false

set_option maxHeartbeats 8000000 in
set_option maxRecDepth 100000 in
theorem walk (n : Int) (s : ByteArray) (k : Int) (w : World) (w0 : (Lit.int .u64 n).wf = true) (w9 : s.size ≤ maxLen) (w1 : (Lit.int .u8 k).wf = true) :
    Calls Try.prog 9 #[.int .u64 n, .string s, .int .u8 k] w fun e w' => e = .returned (.bool true) ∧ Below w.heap.size w w' := by
  have hn : 0 ≤ n ∧ n ≤ 18446744073709551615 := by simpa [Lit.wf, IntKind.min, IntKind.max, IntKind.signed, IntKind.bits] using w0
  have hk : 0 ≤ k ∧ k ≤ 255 := by simpa [Lit.wf, IntKind.min, IntKind.max, IntKind.signed, IntKind.bits] using w1
  clear w0 w1
  obtain ⟨x, rfl⟩ := Int.eq_ofNat_of_zero_le hn.1
  have hx : x < 18446744073709551616 := by omega
  have hx' := hid hx
  obtain ⟨q, rfl⟩ := Int.eq_ofNat_of_zero_le hk.1
  have hj8 : q % 8 < 8 := by omega
  clear hx hn
  go_enter Try.func9, Try.ntmps9
  go_wp2_with (first | (go_at_call 21; refine (known1_c _).mono ?_; rintro e w1 ⟨rfl, hf1⟩))
  · go_ret
    exact ⟨rfl, hf1.all⟩
  rename_i hs
  have hs' : s.size ≤ 100 := by omega
  refine (Put_nil x 8 8 hx'.out (by omega) _).mono ?_
  rintro e w2 ⟨A2, c2, rfl, hc2, hr2, hf2⟩
  go_wp2_with fail
  refine (Get_short A2 (q % 8) c2 8 8 _ _ (hr2.take (q % 8) (by omega)) (by omega) (by omega) (by omega)).mono ?_
  rintro e w3 ⟨v3, rfl, ⟨A3, n3, c3, rfl, hn3, hr3, hl3⟩, hf3⟩
  have hn3j : n3 = q % 8 := by have := hr3.1; rw [List.length_take, putB_length] at this; omega
  subst hn3j
  go_wp2_with fail
  refine (Text_nil s (by omega) _).mono ?_
  rintro e w4 ⟨A4, c4, rfl, hc4, hr4, hf4⟩
  obtain ⟨m, hm, hm1⟩ : ∃ m : Nat, (q : Int) % ((s.size : Int) + 2) = m ∧ m < s.size + 2 := ⟨q % (s.size + 2), by rw [Int.natCast_emod]; rfl, Nat.mod_lt _ (by omega)⟩
  have hm3 : m ≤ s.size + 2 := by omega
  have hm4 : m ≤ c4 := by omega
  go_wp2_with fail
  have hr4' := hr4.take m (by omega)
  have ht2 := textB_take s (by omega)
  have hshort : Calls Try.prog 35 #[.slice A4 m c4, .int .i64 200] w4 (GetTextPost A4 [] ((textB s).take m) 11 w4) := by
    rcases Nat.lt_or_ge m 2 with h2 | h2
    · exact GetText_none A4 m c4 200 _ w4 hr4' (by omega) h2
    · have h3 : ((textB s).take m).take 2 = (textB s).take 2 := by rw [List.take_take, Nat.min_eq_left h2]
      exact GetText_short A4 m c4 200 _ w4 hr4' (by omega) h2 (by rw [h3, ht2]; omega) (by rw [h3, ht2]; omega) (by rw [h3, ht2]; omega)
  refine hshort.mono ?_
  rintro e w5 ⟨v5, rfl, ⟨A5, n5, c5, rfl, hn5, hr5, hl5⟩, hf5⟩
  have hn5m : n5 = m := by have := hr5.1; rw [List.length_take, textB_length] at this; omega
  subst hn5m
  go_wp2_with fail
  have hr4b := hr4.below hf5.all
  refine (GetText_long A4 (s.size + 2) c4 _ (textB s) w5 hr4b (by omega) (by omega) (by rw [ht2]; omega) (by rw [ht2]; omega)).mono ?_
  rintro e w6 ⟨v6, rfl, ⟨A6, n6, c6, rfl, hn6, hr6, hl6⟩, hf6⟩
  go_wp2_with fail
  have hr4c := hr4b.below hf6.all
  refine (GetText_ok A4 (s.size + 2) c4 _ (textB s) w6 hr4c (by omega) (by omega) (by rw [ht2]; omega) (by rw [ht2]; omega)).mono ?_
  rw [ht2, textB_read, textB_rest]
  rintro e w7 ⟨v7, rfl, ⟨A7, n7, c7, rfl, hn7, hr7, hl7⟩, hf7⟩
  have hn70 : n7 = 0 := by have := hr7.1; simpa using this.symm
  subst hn70
  rw [str_bs]
  go_wp2_with fail
  go_ret
  exact ⟨rfl, ((((((hf1.then hf2).then hf3).then hf4).then hf5).then hf6).then hf7).all⟩
end Go.Proofs.Ytiialjncdhhceaa.bitsCut
