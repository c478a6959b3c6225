/- The walk of BitsTell: it returns true, whatever the input, and writes nothing that was there. -/
import Derived.Test.YtiialjncdhhceaaKnown1
import Derived.Test.YtiialjncdhhceaaBitsAny
import Derived.Test.YtiialjncdhhceaaTextS
namespace Go.Proofs.Ytiialjncdhhceaa.bitsTell
open Go.RowKit
set_option linter.unusedVariables false
set_option linter.unusedSimpArgs false

set_option maxHeartbeats 2000000 in
set_option maxRecDepth 100000 in
theorem walk (A : Option Addr) (n c : Nat) (l : List UInt8) (B : Option Addr) (m d : Nat) (r : List UInt8) (x0 c0 d0 f0 k o0 : Int) (w : World) (hb : RB w A n l) (hnc : n ≤ c) (hr : RB w B m r) (hmd : m ≤ d) (w2 : (Lit.int .u64 x0).wf = true)
    (w3 : (Lit.int .u32 c0).wf = true) (w4 : (Lit.int .u32 d0).wf = true) (w5 : (Lit.int .u32 f0).wf = true) (w6 : (Lit.int .i64 k).wf = true) (w7 : (Lit.int .u8 o0).wf = true) :
    Calls Try.prog 5 #[.slice A n c, .slice B m d, .int .u64 x0, .int .u32 c0, .int .u32 d0, .int .u32 f0, .int .i64 k, .int .u8 o0] w fun e w' => e = .returned (.bool true) ∧ Below w.heap.size w w' := by
  have hk : -9223372036854775808 ≤ k ∧ k ≤ 9223372036854775807 := by simpa [Lit.wf, IntKind.min, IntKind.max, IntKind.signed, IntKind.bits] using w6
  have hx : 0 ≤ x0 ∧ x0 ≤ 18446744073709551615 := by simpa [Lit.wf, IntKind.min, IntKind.max, IntKind.signed, IntKind.bits] using w2
  have hc : 0 ≤ c0 ∧ c0 ≤ 4294967295 := by simpa [Lit.wf, IntKind.min, IntKind.max, IntKind.signed, IntKind.bits] using w3
  have hd : 0 ≤ d0 ∧ d0 ≤ 4294967295 := by simpa [Lit.wf, IntKind.min, IntKind.max, IntKind.signed, IntKind.bits] using w4
  have hf : 0 ≤ f0 ∧ f0 ≤ 4294967295 := by simpa [Lit.wf, IntKind.min, IntKind.max, IntKind.signed, IntKind.bits] using w5
  have ho : 0 ≤ o0 ∧ o0 ≤ 255 := by simpa [Lit.wf, IntKind.min, IntKind.max, IntKind.signed, IntKind.bits] using w7
  clear w2 w3 w4 w5 w6 w7
  obtain ⟨x, rfl⟩ := Int.eq_ofNat_of_zero_le hx.1
  obtain ⟨cc, rfl⟩ := Int.eq_ofNat_of_zero_le hc.1
  obtain ⟨dd, rfl⟩ := Int.eq_ofNat_of_zero_le hd.1
  obtain ⟨ff, rfl⟩ := Int.eq_ofNat_of_zero_le hf.1
  obtain ⟨oo, rfl⟩ := Int.eq_ofNat_of_zero_le ho.1
  have hx := hid (show x < 18446744073709551616 by omega)
  have hc := hid (show cc < 4294967296 by omega)
  have hd := hid (show dd < 4294967296 by omega)
  have hf := hid (show ff < 4294967296 by omega)
  have ho := hid (show oo < 256 by omega)
  have hln := hb.1
  have hrn := hr.1
  subst hln
  subst hrn
  go_enter Try.func5, Try.ntmps5
  go_wp2_with (first | (go_at_call 21; refine (known1_c _).mono ?_; rintro e w1 ⟨rfl, hf1⟩) | (at_builtin; refine stop_append rfl ?_))
  · go_ret
    exact ⟨rfl, hf1.all⟩
  rotate_left
  · go_ret
    exact ⟨rfl, hf1.all⟩
  have hl3 : l.length ≤ 300 := by omega
  have hs3 : r.length ≤ 300 := by omega
  have hb1 := hb.below hf1.all
  refine Stop.go (appN w.heap.size rfl _ _ 22 5 rfl Try.underlying22 infoByte (OB.nil _ _ _) hb1 rfl rfl hf1.size (by simp; omega) ?_)
  intro v2 w2 ho2 hf2 hn2
  rw [List.nil_append] at ho2
  obtain ⟨A2, c2, rfl, hc2, hr2, hz2⟩ := ho2.form
  go_wp2_with (at_builtin; refine stop_append rfl ?_)
  have hG := Get_any A2 l.length c2 k l w2 hr2 hc2
  have hG2 := fun w3 (hb : RB w3 A l.length l) => RGet_any A l.length c k l w3 hb hnc
  obtain ⟨X, Z, E, hE, hE2⟩ : ∃ X Z E, readN l (min (max k 0) 8).toNat = (X, Z, E) ∧ (E = 0 ∨ E = 11) := by
    refine ⟨(readN l (min (max k 0) 8).toNat).1, (readN l (min (max k 0) 8).toNat).2.1, (readN l (min (max k 0) 8).toNat).2.2, rfl, ?_⟩
    unfold readN
    split
    · exact .inl rfl
    · exact .inr rfl
  rw [hE] at hG
  simp only [hE] at hG2
  clear hE
  refine hG.mono ?_
  rintro e w3 ⟨v3, rfl, ⟨A3, n3, c3, rfl, hn3, hr3, hl3⟩, hf3⟩
  go_wp2_with (at_builtin; refine stop_append rfl ?_)
  have hF3 : Fr [] w w3 := (hf1.then hf2).then hf3
  refine (hG2 w3 (hb.below hF3.all)).mono ?_
  rintro e w4 ⟨v4, rfl, ⟨A4, n4, c4, rfl, hn4, hr4, hl4⟩, q4, rfl⟩
  have hF4 : Fr [] w (w3.drewN q4) := hF3.drewN _
  have hr3b : RB (w3.drewN q4) A3 n3 Z := hr3
  clear hr3 hG hG2
  rcases hE2 with rfl | rfl
  all_goals go_wp2_with (at_builtin; refine stop_append rfl ?_)
  all_goals generalize w3.drewN q4 = w5 at *
  all_goals have hb5 := hb.below hF4.all
  all_goals have hr5 := hr.below hF4.all
  all_goals have conv : ∀ (B : Option Addr) (m d : Nat) (x : List UInt8) (w' : World), RB w5 B m x → Fr [] w5 w' → (convert 22 9 (.slice B m d)).run Try.prog w' = .ok (.string ⟨x.toArray⟩) w' := fun B m d x w' h hf => run_str 22 5 9 Try.underlying22 Try.underlying5 Try.underlying9 (h.below hf.all)
  all_goals have hS0 : Fr [] w5 w5.drew := (Fr.refl [] w5).drew
  all_goals refine wp_region_textS' (fun w' => Fr [] w5 w') [57] [36] [] [(2, []), (2, []), (4, []), (2, []), (7, []), (4, []), (5, []), (2, []), (5, []), (3, []), (3, [36]), (3, [])] (by kernel_rfl) (by kernel_rfl) (by kernel_rfl) hS0 ?_
  all_goals intro K hK
  all_goals simp only [cutAt, List.take_succ_cons, List.take_zero, List.drop_succ_cons, List.drop_zero, List.take_nil, List.drop_nil, wpSegs, List.map_cons, List.map_nil, List.nil_append, List.cons_append]
  iterate 8
    all_goals go_wp2_with (first | (go_at_call 22; refine (Sum_c A l.length c l w5.drew hb5).mono ?_; rintro e w6 ⟨rfl, rfl⟩) | (go_at_call 26; refine (RSum_c A l.length c l w5.drew hb5).mono ?_; rintro e w6 ⟨rfl, rfl⟩) |
      (go_at_call 27; refine (Mix_c x hx.out _).mono ?_; rintro e w6 ⟨rfl, rfl⟩) | (go_at_call 28; refine (RMix_c x hx.out _).mono ?_; rintro e w6 ⟨rfl, rfl⟩) |
      (go_at_call 29; refine (Hash_c cc dd ff hc.out hd.out hf.out _).mono ?_; rintro e w6 ⟨rfl, rfl⟩) | (go_at_call 30; refine (RHash_c cc dd ff hc.out hd.out hf.out _).mono ?_; rintro e w6 ⟨rfl, rfl⟩) |
      (go_at_call 31; refine (Group_c oo ho.out _).mono ?_; rintro e w6 ⟨rfl, rfl⟩) | (go_at_call 32; refine (RGroup_c oo ho.out _).mono ?_; rintro e w6 ⟨rfl, rfl⟩) | (at_builtin; refine stop_append rfl ?_))
    all_goals refine ⟨fun w' => Fr [] w5 w', fun _ h => h, hS0, ?_⟩
  all_goals go_wp2_with (at_builtin; refine stop_append rfl ?_)
  all_goals refine Stop.go (unguard rfl (appN w.heap.size rfl _ _ 22 5 rfl Try.underlying22 infoByte (OB.nil _ _ _) hr5 rfl rfl hF4.size (by simp; omega) ?_))
  all_goals intro v7 w7 ho7 hf7 hn7
  all_goals rw [List.nil_append] at ho7
  all_goals have hS7 : Fr [] w5 w7 := hS0.then hf7
  all_goals go_wp2_with (at_builtin; refine stop_append rfl ?_)
  all_goals
    refine ⟨fun w' => Fr [] w5 w', fun _ h => h, hS7, ?_⟩
    go_wp2_with (at_builtin; refine stop_append rfl ?_)
    have hBb : w.heap.size ≤ w7.heap.size := Nat.le_trans hF4.size hS7.size
    refine (Put_c w.heap.size v7 r x k (min (max k 0) 8).toNat hx.out (width_is k) w7 ho7 hBb (by omega)).mono ?_
    rintro e w8 ⟨v8, rfl, ho8, hf8, hn8⟩
    have hS8 : Fr [] w5 w8 := hS7.trans hf8 (fun y hy => .inr (by
        rcases hn7 y (by simpa using hy) with h | h
        · simp [Value.ownBlock] at h
        · exact h))
    obtain ⟨L, hL⟩ : ∃ L, r ++ putB x (min (max k 0) 8).toNat = L := ⟨_, rfl⟩
    rw [hL] at ho8
    obtain ⟨A8, c8, rfl, hc8, hr8, hz8⟩ := ho8.form
    have hL' := hid hL
    clear hL
    go_wp2_with (at_builtin; refine stop_append rfl ?_)
    refine ⟨fun w' => Fr [] w8 w', fun _ h => hS8.then h, Fr.refl _ _, ?_⟩
    have g8 : (convert 22 9 (.slice A8 L.length c8)).run Try.prog w8 = .ok (.string ⟨L.toArray⟩) w8 := run_str 22 5 9 Try.underlying22 Try.underlying5 Try.underlying9 hr8
    go_wp2_with (at_builtin; refine stop_append rfl ?_)
    have hr9 := hr5.below hS8.all
    have hBc : w.heap.size ≤ w8.heap.size := Nat.le_trans hF4.size hS8.size
    refine Stop.go (unguard rfl (appN w.heap.size rfl _ _ 22 5 rfl Try.underlying22 infoByte (OB.nil _ _ _) hr9 rfl rfl hBc (by simp; omega) ?_))
    intro v9 w9 ho9 hf9 hn9
    rw [List.nil_append] at ho9
    have hS9 : Fr [] w5 w9 := hS8.then hf9
    go_wp2_with (at_builtin; refine stop_append rfl ?_)
    refine ⟨fun w' => Fr [] w8 w', fun _ h => h, (Fr.refl [] w8).then hf9, ?_⟩
    go_wp2_with (at_builtin; refine stop_append rfl ?_)
    refine (RPut_c w.heap.size v9 r x k (min (max k 0) 8).toNat hx.out (width_is k) w9 ho9 (Nat.le_trans hF4.size hS9.size) (by omega)).mono ?_
    rintro e w10 ⟨v10, rfl, ho10, hf10, hn10⟩
    have hS10 : Fr [] w5 w10 := hS9.trans hf10 (fun y hy => .inr (by
        rcases hn9 y (by simpa using hy) with h | h
        · simp [Value.ownBlock] at h
        · exact Nat.le_trans hS8.size h))
    rw [hL'.out] at ho10
    obtain ⟨A10, c10, rfl, hc10, hr10, hz10⟩ := ho10.form
    go_wp2_with (at_builtin; refine stop_append rfl ?_)
    have hS10b : Fr [] w8 w10 := ((Fr.refl [] w8).then hf9).trans hf10 (fun y hy => .inr (by
        rcases hn9 y (by simpa using hy) with h | h
        · simp [Value.ownBlock] at h
        · exact h))
    refine ⟨fun w' => Fr [] w8 w', fun _ h => h, hS10b, ?_⟩
    have g10 : (convert 22 9 (.slice A10 L.length c10)).run Try.prog w10 = .ok (.string ⟨L.toArray⟩) w10 := run_str 22 5 9 Try.underlying22 Try.underlying5 Try.underlying9 hr10
    have g3 := conv A3 n3 c3 _ w10 hr3b hS10
    have g4 := conv A4 n4 c4 _ w10 hr4 hS10
    go_wp2_with (at_builtin; refine stop_append rfl ?_)
    refine ⟨⟨fun o ho => ?_, trivial⟩, hK _ _ (by kernel_rfl) ⟨fun o ho => ?_, trivial⟩ ?_⟩
    · cases ho
      exact gives_convert rfl (fun w' h => run_str 22 5 9 Try.underlying22 Try.underlying5 Try.underlying9 (hr8.below (Fr.all h)))
    · cases ho
      exact gives_convert rfl (fun w' h => conv A3 n3 c3 _ w' hr3b h)
    go_wp2_with (at_builtin; refine stop_append rfl ?_)
    go_ret
    exact ⟨rfl, (hF4.then hS10).all⟩
end Go.Proofs.Ytiialjncdhhceaa.bitsTell
