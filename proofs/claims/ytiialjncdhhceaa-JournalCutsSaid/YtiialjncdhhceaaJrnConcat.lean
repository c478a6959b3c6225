/- slices.Grow of nothing, slices.Concat of two slices of bytes. -/
import Derived.Test.YtiialjncdhhceaaJrnStrs
import Derived.Lib.AppendZeros
namespace Go.Proofs.Ytiialjncdhhceaa
open Go.RowKit
set_option linter.unusedVariables false
set_option linter.unusedSimpArgs false

set_option maxHeartbeats 1000000 in
set_option maxRecDepth 100000 in
theorem Grow_c (n : Nat) (h0 : 0 < n) (hn : n ≤ 1000000) (w : World) :
    Calls Try.prog 90 #[.slice none 0 0, .int .i64 (n : Int)] w fun e w' => ∃ v, e = .returned v ∧ OB w' w.heap.size 5 v [] ∧ Fr [] w w' := by
  obtain ⟨i0, hi, hz0, hz1, hz2⟩ := info_parts infoByte
  have happ := Lib.run_append_nil_zeros (P := Try.prog) w 22 3 22 5 i0 (.int .u8 0) .i64 .i64 Try.underlying22 Try.underlying3 hi hz0 n h0 (by omega) (by omega) (by rw [hz2]; omega)
  replace happ := hid happ
  clear hi hz0 hz1 hz2
  go_enter Try.func90, Try.ntmps90
  go_wp2_with (at_builtin; refine stop_append rfl ?_)
  refine Stop.go (Lib.wpList_append_run _ rfl _ _ _ _ rfl _ _ rfl rfl _ _ happ.out ?_)
  go_wp2_with fail
  go_ret
  have hz : ∀ x, (Builtin.zeroCells #[Value.int IntKind.u8 0] x).size = x := fun x => by rw [size_zeroCells]; simp
  refine ⟨_, rfl, ?_, ((Fr.refl [] w).alloc _).drew⟩
  refine ⟨rfl, .inr ⟨w.heap.size, grownCap w n 0 5, _, rfl, Nat.le_refl _, heap_alloc_new w _, Nat.zero_le _, grownCap_le_maxLen _ _ _ _ (by simp only [maxLen]; omega), ?_, rfl⟩⟩
  rw [Array.size_append, hz, hz]
  have := grownCap_ge w n 0 5
  omega

set_option maxHeartbeats 1000000 in
set_option maxRecDepth 100000 in
theorem Concat_c (cb : Nat) (A1 : Option Addr) (n1 c1 : Nat) (l1 : List UInt8) (A2 : Option Addr) (n2 c2 : Nat) (l2 : List UInt8) (w : World) (h0 : w.cell? ⟨cb, 0, none⟩ = some (.slice A1 n1 c1)) (h1 : w.cell? ⟨cb, 1, none⟩ = some (.slice A2 n2 c2))
    (hb1 : RB w A1 n1 l1) (hb2 : RB w A2 n2 l2) (hpos : 0 < n1 + n2) (hn : n1 + n2 ≤ 1000000) :
    Calls Try.prog 86 #[.slice (some ⟨cb, 0, none⟩) 2 2] w fun e w' => ∃ v, e = .returned v ∧ OB w' w.heap.size 5 v (l1 ++ l2) ∧ Fr [] w w' := by
  have hl1 := hb1.1
  have hl2 := hb2.1
  go_enter Try.func86, Try.ntmps86
  go_wp2_with fail
  go_loopw [3, 11] (fun sv iv wr => ∃ i : Nat, i ≤ 2 ∧ iv = .int .i64 i ∧ sv = .int .i64 ((if i = 0 then 0 else if i = 1 then n1 else n1 + n2 : Nat) : Int) ∧ wr = w) (fun _ iv _ => 2 - (intOf iv).toNat)
  case atStart => exact ⟨0, by omega, rfl, rfl, rfl⟩
  case round =>
    obtain ⟨i, hi, rfl, rfl, rfl⟩ := hrel
    rcases (show i = 0 ∨ i = 1 ∨ i = 2 by omega) with rfl | rfl | rfl
    · simp only [if_true]
      go_wp2_with fail
      try go_frame
      go_roundw
      case rel => exact ⟨1, by omega, rfl, by simp, by trivial⟩
      case measure => simp [intOf]
    · simp only [Nat.one_ne_zero, if_false, if_true]
      go_wp2_with fail
      try go_frame
      go_roundw
      case rel => exact ⟨2, by omega, rfl, by simp, by trivial⟩
      case measure => simp [intOf]
    · simp only [show ¬ (2 : Nat) = 0 by decide, show ¬ (2 : Nat) = 1 by decide, if_false]
      obtain ⟨N, hN⟩ : ∃ N, n1 + n2 = N := ⟨_, rfl⟩
      rw [hN] at hpos hn ⊢
      replace hN := hid hN
      go_wp2_with fail
      obtain ⟨wo, rfl⟩ : ∃ wo, wo = wr := ⟨_, rfl⟩
      refine (Grow_c N hpos hn wo).mono ?_
      rintro e w2 ⟨v2, rfl, ho2, hf2⟩
      go_wp2_with (at_builtin; refine stop_append rfl ?_)
      have g0 := hf2.cell h0 (by simp)
      have g1 := hf2.cell h1 (by simp)
      have r1 := hb1.below hf2.all
      have r2 := hb2.below hf2.all
      go_loopw [6, 27] (fun ov iv wq => ∃ i : Nat, i ≤ 2 ∧ iv = .int .i64 i ∧ OB wq wo.heap.size 5 ov (if i = 0 then [] else if i = 1 then l1 else l1 ++ l2) ∧ Fr [] wo wq) (fun _ iv _ => 2 - (intOf iv).toNat)
      case atStart => exact ⟨0, by omega, rfl, ho2, hf2⟩
      case round =>
        obtain ⟨i, hi, rfl, hO, hfq⟩ := hrel
        rcases (show i = 0 ∨ i = 1 ∨ i = 2 by omega) with rfl | rfl | rfl
        · rw [if_pos rfl] at hO
          have k0 := hfq.cell h0 (by simp)
          have q1 := hb1.below hfq.all
          go_wp2_with (at_builtin; refine stop_append rfl ?_)
          refine Stop.go (appN wo.heap.size rfl _ _ 22 5 rfl Try.underlying22 infoByte hO q1 rfl rfl hfq.size (by simp; have := hN.out; omega) ?_)
          intro v4 w4 hO4 hf4 hn4
          rw [List.nil_append] at hO4
          have hf04 : Fr [] wo w4 := hfq.past hf4 (fun z hz => (hO.lt z (by simpa using hz)).1)
          clear k0
          go_wp2_with fail
          try go_frame
          go_roundw
          case rel => exact ⟨1, by omega, rfl, hO4, hf04⟩
          case measure => simp [intOf]
        · rw [if_neg (by decide), if_pos rfl] at hO
          have k1 := hfq.cell h1 (by simp)
          have q2 := hb2.below hfq.all
          go_wp2_with (at_builtin; refine stop_append rfl ?_)
          refine Stop.go (appN wo.heap.size rfl _ _ 22 5 rfl Try.underlying22 infoByte hO q2 rfl rfl hfq.size (by have := hN.out; omega) ?_)
          intro v4 w4 hO4 hf4 hn4
          have hf04 : Fr [] wo w4 := hfq.past hf4 (fun z hz => (hO.lt z (by simpa using hz)).1)
          clear k1
          go_wp2_with fail
          try go_frame
          go_roundw
          case rel => exact ⟨2, by omega, rfl, hO4, hf04⟩
          case measure => simp [intOf]
        · rw [if_neg (by decide), if_neg (by decide)] at hO
          go_wp2_with fail
          go_ret
          exact ⟨_, rfl, hO, hfq⟩
end Go.Proofs.Ytiialjncdhhceaa
