/- What package paddocklaw13 asks of itself first ('known'): it is so. -/
import Derived.Test.YtiialjncdhhceaaGreatSecEasy
import Derived.Lib.SmallJoins
namespace Go.Proofs.YtiialjncdhhceaaGreat
open Go.RowKit
set_option linter.unusedVariables false
set_option linter.unusedSimpArgs false

theorem lit_rb13 {W : World} (cs : List UInt8) (E : TypeId) (fr : Nat × Nat) (hc : cs.length ≤ 9223372036854775807) : RB (W.alloc (.cells (cs.map encB).toArray E fr)) (some ⟨W.heap.size, 0, none⟩) cs.length cs := by
  refine ⟨rfl, hc, .inr ⟨_, _, rfl, fun j hj => ?_⟩⟩
  rw [Nat.zero_add]
  have h := heap_alloc_new W (.cells (cs.map encB).toArray E fr)
  simp only [World.cell?, h]
  simp [hj, encB]

end Go.Proofs.YtiialjncdhhceaaGreat
