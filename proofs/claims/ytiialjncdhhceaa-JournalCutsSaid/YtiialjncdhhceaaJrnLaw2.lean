/- More helpers of the journal laws: parts of slices of strings; two of them compared. -/
import Derived.Test.YtiialjncdhhceaaJrnLaw
namespace Go.Proofs.Ytiialjncdhhceaa
open Go.RowKit
set_option linter.unusedVariables false
set_option linter.unusedSimpArgs false

theorem RSs.take {w : World} {A : Option Addr} {n : Nat} {l : List ByteArray} (h : RSs w A n l) (k : Nat) (hk : k ≤ n) : RSs w A k (l.take k) := by
  obtain ⟨h1, h2, h3⟩ := h
  refine ⟨by rw [List.length_take]; omega, by omega, ?_⟩
  rcases h3 with h3 | ⟨b, off, rfl, hc⟩
  · exact .inl (by omega)
  · refine .inr ⟨b, off, rfl, fun j hj => ?_⟩
    rw [List.length_take] at hj
    rw [hc j (by omega), List.getElem_take]
theorem size_of_weight {l : List ByteArray} {N : Nat} (h : weightL l ≤ N) : ∀ r ∈ l, r.size ≤ N := by
  induction l with
  | nil => simp
  | cons x l ih =>
    simp only [weightL] at h
    intro r hr
    rcases List.mem_cons.1 hr with rfl | hr
    · omega
    · exact ih (by omega) r hr
theorem RB.keptN {w w' : World} {A : Option Addr} {n : Nat} {l : List UInt8} (h : RB w A n l) (hb : Below w.heap.size w w') : RB w' A n l := h.kept (fr_of_below hb) (by simp)

theorem str_ne {a b : ByteArray} (h : a ≠ b) : (a.toList == b.toList) = false := by
  rw [ByteArray.toList_eq, ByteArray.toList_eq]
  refine beq_eq_false_iff_ne.2 fun e => h ?_
  cases a; cases b
  congr 1
  exact Array.toList_inj.1 e

set_option maxHeartbeats 1000000 in
set_option maxRecDepth 100000 in
/-- Two slices of strings are the same, or not. -/
theorem texts_c (A : Option Addr) (n c : Nat) (A2 : Option Addr) (n2 c2 : Nat) (l l2 : List ByteArray) (w : World) (hR : RSs w A n l) (hR2 : RSs w A2 n2 l2) :
    Calls Try.prog 58 #[.slice A n c, .slice A2 n2 c2] w fun e w' => e = .returned (.bool (decide (l = l2))) ∧ Fr [] w w' := by
  have hll := hR.1
  have hll2 := hR2.1
  have hnl := hR.2.1
  have hnl2 := hR2.2.1
  obtain ⟨R, hRR⟩ : ∃ R, decide (l = l2) = R := ⟨_, rfl⟩
  rw [hRR]
  replace hRR := hid hRR
  by_cases hnn : n = n2
  · subst hnn
    go_enter Try.func58, Try.ntmps58
    go_wp2_with fail
    go_loopw [5] (fun iv wr => ∃ i : Nat, i ≤ n ∧ iv = .int .i64 i ∧ l.take i = l2.take i ∧ Fr [] w wr) (fun iv _ => n - (intOf iv).toNat)
    case atStart => exact ⟨0, by omega, rfl, by simp, Fr.refl _ _⟩
    case round =>
      obtain ⟨i, hi, rfl, hsame, hfr⟩ := hrel
      by_cases hin : i < n
      · obtain ⟨b, off, rfl, hc⟩ := str_cell (hR.fr hfr) i hin
        obtain ⟨b2, off2, rfl, hc2⟩ := str_cell (hR2.fr hfr) i hin
        have ht1 := List.take_succ_eq_append_getElem (show i < l.length by omega)
        have ht2 := List.take_succ_eq_append_getElem (show i < l2.length by omega)
        by_cases hr : l[i]'(by omega) = l2[i]'(by omega)
        · have hnext := hid (show l.take (i + 1) = l2.take (i + 1) by rw [ht1, ht2, hsame, hr])
          rw [← hr] at hc2
          clear ht1 ht2 hr hsame
          generalize l[i]'(by omega) = r at *
          go_wp2_with fail
          refine wp_region_text' (by kernel_rfl) (by kernel_rfl) ?_
          intro K hK
          have hcd : wr.drew.cell? ⟨b, off + i, none⟩ = _ := hc
          have hcd2 : wr.drew.cell? ⟨b2, off2 + i, none⟩ = _ := hc2
          go_wp2_with fail
          refine hK _ _ (by kernel_rfl) ?_
          go_wp2_with fail
          try go_frame
          go_roundw
          case rel => exact ⟨i + 1, by omega, rfl, hnext.out, hfr.drew⟩
          case measure => simp [intOf]; omega
        · have hres := hid (show decide (l = l2) = false by
            rw [decide_eq_false_iff_not]
            intro h
            subst h
            exact hr rfl)
          have hne := str_ne hr
          clear ht1 ht2 hsame hr
          generalize l[i]'(by omega) = r at *
          generalize l2[i]'(by omega) = r2 at *
          go_wp2_with fail
          refine wp_region_text' (by kernel_rfl) (by kernel_rfl) ?_
          intro K hK
          have hcd : wr.drew.cell? ⟨b, off + i, none⟩ = _ := hc
          have hcd2 : wr.drew.cell? ⟨b2, off2 + i, none⟩ = _ := hc2
          go_wp2_with fail
          refine hK _ _ (by kernel_rfl) ?_
          go_wp2_with fail
          go_ret
          exact ⟨by have e : R = _ := hRR.out.symm.trans hres.out; subst e; rfl, hfr.drew⟩
      · have hie : i = n := by omega
        subst hie
        have hres := hid (show decide (l = l2) = true by
          rw [decide_eq_true_eq]
          rw [List.take_of_length_le (by omega), List.take_of_length_le (by omega)] at hsame
          exact hsame)
        clear hsame
        go_wp2_with fail
        go_ret
        exact ⟨by have e : R = _ := hRR.out.symm.trans hres.out; subst e; rfl, hfr⟩
  · have hres := hid (show decide (l = l2) = false by
      rw [decide_eq_false_iff_not]
      intro h
      subst h
      omega)
    have hni : ¬ (n : Int) = n2 := by omega
    go_enter Try.func58, Try.ntmps58
    go_wp2_with fail
    go_ret
    exact ⟨by have e : R = _ := hRR.out.symm.trans hres.out; subst e; rfl, Fr.refl _ _⟩
end Go.Proofs.Ytiialjncdhhceaa
