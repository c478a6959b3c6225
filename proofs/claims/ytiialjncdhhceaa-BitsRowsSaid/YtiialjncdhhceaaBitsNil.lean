/- Numbers and texts put behind nothing: where they lie, what they read as. -/
import Derived.Test.YtiialjncdhhceaaBits
namespace Go.Proofs.Ytiialjncdhhceaa
open Go.RowKit
set_option linter.unusedVariables false

/-- New bytes: a slice that reads as l. -/
def NewB (w : World) (l : List UInt8) (k : Nat) (e : Ending) (w' : World) : Prop :=
  ∃ A c, e = .returned (.slice A k c) ∧ k ≤ c ∧ RB w' A k l ∧ Fr [] w w'

theorem newB_of {w w' : World} {l : List UInt8} {k : Nat} {e : Ending} (hk : l.length = k) (h : RowPost w w.heap.size 5 (.slice none 0 0) l e w') : NewB w l k e w' := by
  subst hk
  obtain ⟨v, rfl, ho, hf, _⟩ := h
  obtain ⟨A, c, rfl, hc, hr, _⟩ := ho.form
  exact ⟨A, c, rfl, hc, hr, hf⟩

theorem Put_nil (x : Nat) (m : Int) (k : Nat) (hx : x < 18446744073709551616) (hk : min (max m 0) 8 = (k : Int)) (w : World) :
    Calls Try.prog 23 #[.slice none 0 0, .int .u64 (x : Int), .int .i64 m] w (NewB w (putB x k) k) :=
  (Put_c w.heap.size _ [] x m k hx hk w (OB.nil _ _ _) (Nat.le_refl _) (by simp)).mono fun _ _ h => newB_of (putB_length x k) (by simpa using h)

theorem Text_nil (s : ByteArray) (hs : s.size ≤ 65535) (w : World) :
    Calls Try.prog 34 #[.slice none 0 0, .string s] w (NewB w (textB s) (s.size + 2)) :=
  (Text_c w.heap.size _ [] s hs w (OB.nil _ _ _) (Nat.le_refl _) (by simp; omega)).mono fun _ _ h => newB_of (textB_length s) (by simpa using h)
end Go.Proofs.Ytiialjncdhhceaa
