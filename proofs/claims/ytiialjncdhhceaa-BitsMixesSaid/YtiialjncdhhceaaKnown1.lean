/- What package paddocklaw1 asks of itself first ('known'): it is so. -/
import Derived.Test.YtiialjncdhhceaaBits
import Derived.Test.YtiialjncdhhceaaBitsMath
namespace Go.Proofs.Ytiialjncdhhceaa
open Go.RowKit
set_option linter.unusedVariables false
set_option linter.unusedSimpArgs false

theorem OB.store {w : World} {base E g c : Nat} {l : List UInt8} {n : Nat} (h : OB w base E (.slice (some ⟨g, 0, none⟩) n c) l) (j : Nat) (y : UInt8) :
    OB (w.setCell ⟨g, j, none⟩ (.int .u8 (y.toNat : Int))) base E (.slice (some ⟨g, 0, none⟩) n c) (l.set j y) := by
  have hl : n = l.length := by
    rcases h.2 with ⟨h', _⟩ | ⟨g', cap', cur, h', _⟩
    · cases h'
    · injection h'
  subst hl
  have hs := (World.ownsRow.stored h j (encB y)).1
  unfold OB
  rw [List.length_set, List.map_set]
  exact hs

theorem lit_rb {W : World} (cs : List UInt8) (E : TypeId) (hc : cs.length ≤ 9223372036854775807) : RB (W.alloc (.cells (cs.map encB).toArray E)) (some ⟨W.heap.size, 0, none⟩) cs.length cs := by
  refine ⟨rfl, hc, .inr ⟨_, _, rfl, fun j hj => ?_⟩⟩
  rw [Nat.zero_add]
  have h := heap_alloc_new W (.cells (cs.map encB).toArray E)
  simp only [World.cell?, h]
  simp [hj, encB]

theorem sum_nil : ((((sumB [] : Nat) : Int)) == 14695981039346656037) = true := by decide +kernel
theorem mix_zero : mixN 0 = 0 := by decide +kernel
theorem group_zero : ((groupN 0 : Nat) : Int) < 4 := by decide +kernel
theorem put_258 : putB 258 3 = [0, 1, 2] := by decide +kernel
theorem get_12 : getB [1, 2] = 258 := by decide +kernel

set_option maxRecDepth 10000 in
theorem known1_c (w : World) : Calls Try.prog 21 #[] w fun e w' => e = .returned (.bool true) ∧ Fr [] w w' := by
  have h1 := sum_nil
  have h2 := group_zero
  go_enter Try.func21, Try.ntmps21
  go_wp2_with fail
  have hb : RB (w.alloc (.cells #[.int .u8 1, .int .u8 2, .int .u8 3] 5)) (some ⟨w.heap.size, 0, none⟩) 3 [1, 2, 3] := lit_rb [1, 2, 3] 5 (by decide)
  refine (Get_ok _ 3 3 2 2 [1, 2, 3] _ hb (by omega) (by omega) (by omega)).mono ?_
  rintro e w1 ⟨v, rfl, ⟨A', n', c', rfl, hnc, hr, _⟩, hf1⟩
  have hn' : n' = 1 := by have := hr.1; simpa using this.symm
  subst hn'
  have hg : getB (List.take 2 [1, 2, 3]) = 258 := get_12
  rw [hg]
  clear hb hr hg
  go_wp2_with fail
  refine (Sum_c none 0 0 [] w1 (RB.nil _ _)).mono ?_
  rintro e w2 ⟨rfl, rfl⟩
  go_wp2_with fail
  refine (Put_c w1.heap.size (.slice none 0 0) [] 258 3 3 (by omega) (by omega) w1 (OB.nil _ _ _) (Nat.le_refl _) (by simp)).mono ?_
  rintro e w2 ⟨v2, rfl, ho2, hf2, _⟩
  obtain ⟨A2, c2, rfl, _, hr2, _⟩ := ho2.form
  rw [List.nil_append, put_258] at hr2
  have hstr : (convert 22 9 (.slice A2 ([] ++ putB 258 3).length c2)).run Try.prog w2 = .ok (.string ⟨#[0, 1, 2]⟩) w2 := by
    rw [List.nil_append, put_258]
    exact run_str 22 5 9 Try.underlying22 Try.underlying5 Try.underlying9 hr2
  generalize ([] ++ putB 258 3).length = nn at *
  have hf12 : Fr [] w w2 := (((Fr.refl [] w).alloc _).then hf1).trans hf2 (by simp [Value.ownBlock])
  clear ho2 hr2 hf2 hf1
  go_wp2_with fail
  refine (Group_c 0 (by omega) _).mono ?_
  rintro e w3 ⟨rfl, rfl⟩
  go_wp2_with fail
  refine (Mix_c 0 (by omega) _).mono ?_
  rintro e w3 ⟨rfl, rfl⟩
  rw [mix_zero]
  go_wp2_with fail
  go_ret
  exact ⟨rfl, hf12⟩
end Go.Proofs.Ytiialjncdhhceaa
