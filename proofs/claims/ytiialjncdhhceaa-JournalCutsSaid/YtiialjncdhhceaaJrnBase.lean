/- The journal: where it lies, its smallest parts (length, space, must, ready, record). -/
import Derived.Test.YtiialjncdhhceaaSecMore
import Derived.Test.YtiialjncdhhceaaBits
import Derived.Defers
import Derived.Recover
import Derived.Deep.QuietTactic
import Derived.BigQuiet
namespace Go.Proofs.Ytiialjncdhhceaa
open Go.RowKit
set_option linter.unusedVariables false
set_option linter.unusedSimpArgs false

/-- The journal's own cells. -/
def jCells (d : Nat) (hd ar : Nat) (A : Option Addr) (n c : Nat) (C : Option Addr) (nc cc : Nat) (br : Bool) : Array Value := #[.pointer (some ⟨d, 0, none⟩), .int .i64 (hd : Int), .int .i64 (ar : Int), .slice A n c, .slice C nc cc, .bool br]
/-- How many sectors an area has. -/
def arL (n : Nat) : Nat := n / 2 - 4

set_option maxRecDepth 100000 in
theorem length_c (j d k m : Nat) (s : DSt) (w : World) (hj : w.cell? ⟨j, 0, none⟩ = some (.pointer (some ⟨d, 0, none⟩))) (hD : IsDisk w d k m s) :
    Calls Try.prog 84 #[.pointer (some ⟨j, 0, none⟩)] w fun e w' => e = .returned (.int .i64 (arL s.n : Int)) ∧ w' = w := by
  have hn := hD.ok.n_le
  have e : max ((s.n : Int) / 2 - 4) 0 = (arL s.n : Int) := by unfold arL; omega
  have e' := hid e
  clear e
  go_enter Try.func84, Try.ntmps84
  go_wp2_with fail
  refine (Len_c d k m s w hD).mono ?_
  rintro e w1 ⟨rfl, rfl⟩
  have e := e'.out
  go_wp2_with fail
  go_ret
  exact ⟨rfl, rfl⟩

set_option maxRecDepth 100000 in
theorem space_c (j d k m : Nat) (s : DSt) (w : World) (hj : w.cell? ⟨j, 0, none⟩ = some (.pointer (some ⟨d, 0, none⟩))) (hD : IsDisk w d k m s) :
    Calls Try.prog 78 #[.pointer (some ⟨j, 0, none⟩)] w fun e w' => e = .returned (.int .i64 (64 * (arL s.n : Int))) ∧ w' = w := by
  have hn := hD.ok.n_le
  have hl : arL s.n ≤ 1000 := by unfold arL; omega
  obtain ⟨q, hq⟩ : ∃ q, arL s.n = q := ⟨_, rfl⟩
  rw [hq] at hl
  rw [hq]
  replace hq := hid hq
  go_enter Try.func78, Try.ntmps78
  go_wp2_with fail
  refine (length_c j d k m s w hj hD).mono ?_
  rw [hq.out]
  rintro e w1 ⟨rfl, rfl⟩
  go_wp2_with fail
  go_ret
  exact ⟨rfl, rfl⟩

theorem must_ok (w : World) : Calls Try.prog 76 #[.int .i64 0] w fun e w' => e = .returned (.tuple #[]) ∧ w = w' := by
  go_enter Try.func76, Try.ntmps76
  go_wp2
  go_end0
  exact ⟨rfl, rfl⟩

/-- What a panic with an error is. -/
def errV (x : Int) : Value := .iface 29 (.int .i64 x)
theorem must_bad (x : Int) (hx : x ≠ 0) (w : World) : Calls Try.prog 76 #[.int .i64 x] w fun e w' => e = .panicked [{ v := errV x, recovered := false }] ∧ w' = w := by
  have hb : (x == 0) = false := by simp [hx]
  go_enter Try.func76, Try.ntmps76
  go_wp2
  exact ⟨rfl, rfl, rfl⟩

theorem ready_c (j : Nat) (w : World) (hj : w.cell? ⟨j, 5, none⟩ = some (.bool false)) :
    Calls Try.prog 77 #[.pointer (some ⟨j, 0, none⟩)] w fun e w' => e = .returned (.tuple #[]) ∧ w' = w := by
  go_enter Try.func77, Try.ntmps77
  go_wp2
  go_end0
  exact ⟨rfl, rfl⟩

/-- A record's bytes. -/
def recB (s : ByteArray) : List UInt8 := putB s.size 4 ++ bs s
theorem recB_len (s : ByteArray) : (recB s).length = s.size + 4 := by
  unfold recB
  rw [List.length_append, putB_length, bs_length]
  omega
set_option maxRecDepth 100000 in
theorem record_c (base : Nat) (s : ByteArray) (hs : s.size ≤ 70368744177664) (w : World) (hB : base ≤ w.heap.size) :
    Calls Try.prog 79 #[.string s] w fun e w' => ∃ v, e = .returned v ∧ OB w' base 5 v (recB s) ∧ Fr [] w w' ∧ Nw w (.slice none 0 0) v := by
  go_enter Try.func79, Try.ntmps79
  go_wp2_with (at_builtin; refine stop_append rfl ?_)
  refine (Put_c base (.slice none 0 0) [] s.size 4 4 (by omega) (by decide) w (OB.nil _ _ _) hB (by simp)).mono ?_
  rintro e w1 ⟨v1, rfl, ho1, hf1, hn1⟩
  rw [List.nil_append] at ho1
  go_wp2_with (at_builtin; refine stop_append rfl ?_)
  have hz := hf1.size
  refine Stop.go (appS base rfl _ _ 22 9 5 rfl Try.underlying22 Try.underlying9 infoByte ho1 rfl rfl (by omega) (by rw [putB_length]; omega) ?_)
  intro v2 w2 ho2 hf2 hn2
  go_wp2_with (at_builtin; refine stop_append rfl ?_)
  go_ret
  have hfr1 : Fr [] w w1 := hf1.mono (by simp [Value.ownBlock])
  refine ⟨v2, rfl, ho2, hfr1.trans hf2 (fun x hx => ?_), hn1.trans hz hn2⟩
  rcases hn1 x (by simpa using hx) with h1 | h1
  · simp [Value.ownBlock] at h1
  · exact .inr h1
end Go.Proofs.Ytiialjncdhhceaa
