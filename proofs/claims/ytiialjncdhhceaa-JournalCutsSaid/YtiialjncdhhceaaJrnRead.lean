/- The journal reads sectors. -/
import Derived.Test.YtiialjncdhhceaaJrnCounts
namespace Go.Proofs.Ytiialjncdhhceaa
open Go.RowKit
set_option linter.unusedVariables false
set_option linter.unusedSimpArgs false

/-- The bytes of so many sectors. -/
def sects (s : DSt) (frm cnt : Nat) : List UInt8 := (List.range cnt).flatMap fun i => s.now (frm + i)
theorem sects_succ (s : DSt) (frm cnt : Nat) : sects s frm (cnt + 1) = sects s frm cnt ++ s.now (frm + cnt) := by
  unfold sects
  rw [List.range_succ, List.flatMap_append]
  simp
theorem sects_len {s : DSt} (h : DOk s) (frm cnt : Nat) : (sects s frm cnt).length = cnt * 64 := by
  induction cnt with
  | zero => rfl
  | succ c ih => rw [sects_succ, List.length_append, ih, h.now_len]; omega

set_option maxHeartbeats 1000000 in
set_option maxRecDepth 100000 in
theorem read_c (j d k m frm cnt : Nat) (s : DSt) (w : World) (hj : w.cell? ⟨j, 0, none⟩ = some (.pointer (some ⟨d, 0, none⟩))) (hD : IsDisk w d k m s) (hoff : s.off = false) (hn : frm + cnt ≤ s.n) :
    Calls Try.prog 83 #[.pointer (some ⟨j, 0, none⟩), .int .i64 (frm : Int), .int .i64 (cnt : Int)] w fun e w' => ∃ v, e = .returned v ∧ OB w' w.heap.size 5 v (sects s frm cnt) ∧ Fr [] w w' := by
  have hnle := hD.ok.n_le
  have hlts := hD.lts
  go_enter Try.func83, Try.ntmps83
  go_wp2_with fail
  go_loopw [7, 12] (fun ov iv wr => ∃ i : Nat, i ≤ cnt ∧ iv = .int .i64 i ∧ OB wr w.heap.size 5 ov (sects s frm i) ∧ Fr [] w wr) (fun _ iv _ => cnt - (intOf iv).toNat)
  case atStart => exact ⟨0, by omega, rfl, OB.nil _ _ _, Fr.refl _ _⟩
  case round =>
    obtain ⟨i, hi, rfl, hO, hfr⟩ := hrel
    by_cases hin : i < cnt
    · have hDr := hD.fr hfr
      have c0 := hfr.cell hj (by simp)
      have hlen := sects_len hD.ok frm i
      go_wp2_with (at_builtin; refine stop_append rfl ?_)
      refine (Read_ok d k m s (frm + i) wr hDr hoff (by omega) _ (by omega)).mono ?_
      rintro e w2 ⟨b, rfl, ⟨hb1, hb2⟩, hr2, ht2, hf2⟩
      go_wp2_with (at_builtin; refine stop_append rfl ?_)
      refine (must_ok w2).mono ?_
      rintro e w3 ⟨rfl, rfl⟩
      have hO2 := hO.kept hf2 (by simp)
      have hrb := rb_of_range hr2 (hD.ok.now_len (frm + i)) (by decide)
      have hf02 := hfr.then hf2
      go_wp2_with (at_builtin; refine stop_append rfl ?_)
      refine Stop.go (appN w.heap.size rfl _ _ 22 5 rfl Try.underlying22 infoByte hO2 hrb rfl rfl hf02.size (by omega) ?_)
      intro v4 w4 hO4 hf4 hn4
      rw [← sects_succ] at hO4
      have hf04 : Fr [] w w4 := hf02.past hf4 (fun z hz => (hO2.lt z (by simpa using hz)).1)
      clear hr2 ht2 hrb
      go_wp2_with (at_builtin; refine stop_append rfl ?_)
      try go_frame
      go_roundw
      case rel => exact ⟨i + 1, by omega, rfl, hO4, hf04⟩
      case measure => simp [intOf]; omega
    · have hie : i = cnt := by omega
      subst hie
      go_wp2_with fail
      go_ret
      exact ⟨_, rfl, hO, hfr⟩
end Go.Proofs.Ytiialjncdhhceaa
