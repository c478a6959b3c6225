/- The walk of BitsTexts: it returns true, whatever the input, and writes nothing that was there. -/
import Derived.Test.YtiialjncdhhceaaKnown1
import Derived.Test.YtiialjncdhhceaaBitsAny
import Derived.Test.YtiialjncdhhceaaTextS
namespace Go.Proofs.Ytiialjncdhhceaa.bitsTexts
open Go.RowKit
set_option linter.unusedVariables false
set_option linter.unusedSimpArgs false

set_option maxHeartbeats 2000000 in
set_option maxRecDepth 100000 in
theorem walk (A : Option Addr) (n c : Nat) (l : List UInt8) (s : ByteArray) (k : Int) (w : World) (hb : RB w A n l) (hnc : n ≤ c) (w9 : s.size ≤ maxLen) (w1 : (Lit.int .i64 k).wf = true) :
    Calls Try.prog 7 #[.slice A n c, .string s, .int .i64 k] w fun e w' => e = .returned (.bool true) ∧ Below w.heap.size w w' := by
  have hk : -9223372036854775808 ≤ k ∧ k ≤ 9223372036854775807 := by simpa [Lit.wf, IntKind.min, IntKind.max, IntKind.signed, IntKind.bits] using w1
  have hln := hb.1
  subst hln
  clear w1
  go_enter Try.func7, Try.ntmps7
  go_wp2_with (first | (go_at_call 21; refine (known1_c _).mono ?_; rintro e w1 ⟨rfl, hf1⟩) | (at_builtin; refine stop_append rfl ?_))
  · go_ret
    exact ⟨rfl, hf1.all⟩
  rotate_left
  · go_ret
    exact ⟨rfl, hf1.all⟩
  have hl3 : l.length ≤ 300 := by omega
  have hs3 : s.size ≤ 300 := by omega
  have hb1 := hb.below hf1.all
  refine Stop.go (appN w.heap.size rfl _ _ 22 5 rfl Try.underlying22 infoByte (OB.nil _ _ _) hb1 rfl rfl hf1.size (by simp; omega) ?_)
  intro v2 w2 ho2 hf2 hn2
  rw [List.nil_append] at ho2
  go_wp2_with (at_builtin; refine stop_append rfl ?_)
  refine (Text_c w.heap.size v2 l s (by omega) w2 ho2 (Nat.le_trans hf1.size hf2.size) (by omega)).mono ?_
  rintro e w3 ⟨v3, rfl, ho3, hf3, hn3⟩
  go_wp2_with (at_builtin; refine stop_append rfl ?_)
  have hF3 : Fr [] w w3 := ((hf1.then hf2).trans hf3 (fun x hx => .inr (by
    have := (ho2.lt x (by simpa using hx)).1
    exact this)))
  have hb3 := hb.below hF3.all
  obtain ⟨A3, c3, rfl, hc3, hr3, hz3⟩ := ho3.form
  obtain ⟨N, hN, hN2⟩ : ∃ N, (l ++ textB s).length = N ∧ N = l.length + (s.size + 2) := ⟨_, rfl, by rw [List.length_append, textB_length]⟩
  rw [hN] at hc3 hr3
  rw [hN]
  clear ho3 hz3 ho2 hn3 hn2
  have hN3 : l.length ≤ N := by omega
  refine Stop.go (appN w.heap.size rfl _ _ 22 5 rfl Try.underlying22 infoByte (OB.nil _ _ _) hb3 rfl rfl hF3.size (by simp; omega) ?_)
  intro v4 w4 ho4 hf4 hn4
  rw [List.nil_append] at ho4
  obtain ⟨A4, c4, rfl, hc4, hr4, hz4⟩ := ho4.form
  go_wp2_with (at_builtin; refine stop_append rfl ?_)
  refine (GetText_any A4 l.length c4 k l w4 hr4 hc4).mono ?_
  rintro e w5 ⟨v5, rfl, ⟨A5, n5, c5, rfl, hn5, hr5, hl5⟩, hf5⟩
  go_wp2_with (at_builtin; refine stop_append rfl ?_)
  have hF5 : Fr [] w w5 := (hF3.then hf4).then hf5
  refine (RGetText_any A l.length c k l w5 (hb.below hF5.all) hnc hk).mono ?_
  rintro e w6 ⟨v6, rfl, ⟨A6, n6, c6, rfl, hn6, hr6, hl6⟩, hf6⟩
  go_wp2_with (at_builtin; refine stop_append rfl ?_)
  have hr3c : RB w6 (Option.map (fun x => x.add l.length) A3) (s.size + 2) (textB s) := by
    have h := (hr3.cut l.length (by omega) hc3).below (((Fr.refl [] w3).then hf4).then hf5 |>.then hf6).all
    rw [cutA, if_neg (by omega), List.drop_left, hN2, Nat.add_sub_cancel_left] at h
    exact h
  refine (GetText_any _ (s.size + 2) (c3 - l.length) 300 (textB s) w6 hr3c (by omega)).mono ?_
  rw [readT_text s 300 (by omega) (by omega)]
  rintro e w7 ⟨v7, rfl, ⟨A7, n7, c7, rfl, hn7, hr7, hl7⟩, hf7⟩
  have hn70 : n7 = 0 := by have := hr7.1; simpa using this.symm
  subst hn70
  rw [str_bs]
  go_wp2_with (at_builtin; refine stop_append rfl ?_)
  have hF7 : Fr [] w3 w7 := ((((Fr.refl [] w3).then hf4).then hf5).then hf6).then hf7
  have hF7a : Fr [] w w7 := (hF3).trans hF7 (by simp)
  have hb7 := hb.below hF7a.all
  have hr37 : RB w7 A3 (l.length + (s.size + 2)) (l ++ textB s) := by rw [← hN2]; exact hr3.below hF7.all
  have hr57 : RB w7 A5 n5 (readT l k).2.1 := hr5.below (hf6.then hf7).all
  have hr67 : RB w7 A6 n6 (readT l k).2.1 := hr6.below hf7.all
  have conv : ∀ (B : Option Addr) (m d : Nat) (x : List UInt8) (w' : World), RB w7 B m x → Fr [] w7 w' → (convert 22 9 (.slice B m d)).run Try.prog w' = .ok (.string ⟨x.toArray⟩) w' := fun B m d x w' h hf =>
    run_str 22 5 9 Try.underlying22 Try.underlying5 Try.underlying9 (h.below hf.all)
  have g1 := conv A3 (l.length + (s.size + 2)) c3 _ w7.drew hr37 (Fr.refl [] w7).drew
  refine wp_region_textS' (fun w' => Fr [] w7 w') [1, 20] [] [] [(4, []), (2, [])] (by kernel_rfl) (by kernel_rfl) (by kernel_rfl) ((Fr.refl [] w7).drew) ?_
  intro K hK
  simp only [cutAt, List.take_succ_cons, List.take_zero, List.drop_succ_cons, List.drop_zero, List.take_nil, List.drop_nil, wpSegs, List.map_cons, List.map_nil, List.nil_append, List.cons_append]
  go_wp2_with (at_builtin; refine stop_append rfl ?_)
  refine Stop.go (appN w.heap.size rfl _ _ 22 5 rfl Try.underlying22 infoByte (OB.nil _ _ _) hb7 rfl rfl hF7a.size (by simp; omega) ?_)
  intro v8 w8 ho8 hf8 hn8
  rw [List.nil_append] at ho8
  have hF8 : Fr [] w7 w8 := ((Fr.refl [] w7).drew).then hf8
  go_wp2_with (at_builtin; refine stop_append rfl ?_)
  refine ⟨fun w' => Fr [] w7 w', fun _ h => h, hF8, ?_⟩
  go_wp2_with (at_builtin; refine stop_append rfl ?_)
  refine (RText_c w.heap.size v8 l s (by omega) w8 ho8 (Nat.le_trans hF7a.size hf8.size) (by omega)).mono ?_
  rintro e w9 ⟨v9, rfl, ho9, hf9, hn9⟩
  have hF9 : Fr [] w7 w9 := hF8.trans hf9 (fun x hx => .inr (by
    rcases hn8 x (by simpa using hx) with h | h
    · simp [Value.ownBlock] at h
    · exact h))
  obtain ⟨A9, c9, rfl, hc9, hr9, hz9⟩ := ho9.form
  have hN9 : (l ++ textB s).length = l.length + (s.size + 2) := by rw [List.length_append, textB_length]
  rw [hN9] at hc9 hr9
  rw [hN9]
  have g2 : (convert 22 9 (.slice A9 (l.length + (s.size + 2)) c9)).run Try.prog w9 = .ok (.string ⟨(l ++ textB s).toArray⟩) w9 := run_str 22 5 9 Try.underlying22 Try.underlying5 Try.underlying9 hr9
  have g3 := conv A5 n5 c5 _ w9 hr57 hF9
  have g4 := conv A6 n6 c6 _ w9 hr67 hF9
  go_wp2_with (at_builtin; refine stop_append rfl ?_)
  refine ⟨fun w' => Fr [] w7 w', fun _ h => h, hF9, ?_⟩
  go_wp2_with (at_builtin; refine stop_append rfl ?_)
  refine ⟨trivial, hK _ _ (by kernel_rfl) ⟨fun o ho => ?_, fun o ho => ?_, trivial⟩ ?_⟩
  · cases ho
    exact gives_convert rfl (fun w' h => conv A3 (l.length + (s.size + 2)) c3 _ w' hr37 h)
  · cases ho
    exact gives_convert rfl (fun w' h => conv A5 n5 c5 _ w' hr57 h)
  go_wp2_with (at_builtin; refine stop_append rfl ?_)
  go_ret
  exact ⟨rfl, (hF7a.then hF9).all⟩
end Go.Proofs.Ytiialjncdhhceaa.bitsTexts
