/- A region whose order is drawn, whose tail stands behind all that is ahead of it (the writes of an assignment to several places): the tail is walked as it stands. No program in sight. -/
import Derived.Test.YtiialjncdhhceaaGreatTextX
namespace Go.Proofs.YtiialjncdhhceaaGreat
open Go
set_option linter.unusedVariables false
set_option linter.unusedSimpArgs false
section
variable {P : Program} {ops : Array Oper}
/-- A REGION WHOSE ORDER IS DRAWN, WALKED IN THE ORDER OF THE TEXT, piece by piece; from its operation number n0 on, each stands behind all others. What S says need not outlive the piece ahead of n0. -/
theorem wp_region_textT {id : Nat} {l : List Oper} {Q : Exit → Act → World → Prop} {a : Act} {w : World} (S : World → Prop) (R L : List Nat) (last : List Nat) (cuts : List (Nat × List Nat)) (n0 m : Nat) (hn : l.length = n0 + m) (hm : P.follows .mixedOrders = true)
    (hst : textS P R L (Region.before l.toArray).toList l.toArray = true) (hlast : ((List.range (n0 + m)).all fun x => decide (x < n0) || (List.range x).all fun j => ((Region.before l.toArray).toList.getD x 0).testBit j) = true)
    (hss : segsOk P L 0 (cutAt last cuts (l.take n0)) = true) (hS : S w.drew)
    (h : ∀ K : Act → World → Prop, (∀ a' w', plainEnd P l.toArray a' = true → readEnd P l.toArray S a' R → wpList P l.toArray Q (l.drop n0) a' w' → K a' w') → wpSegs P l.toArray K (cutAt last cuts (l.take n0)) [] S a w.drew) :
    (Code.region id l.toArray true).wp P Q a w := by
  have hfl : flat (cutAt last cuts (l.take n0)) = l.take n0 := by
    clear h hss hst hlast hS
    generalize l.take n0 = l'
    induction cuts generalizing l' with
    | nil => simp [cutAt, flat]
    | cons n ns ih =>
      unfold cutAt
      have : flat ((l'.take n.1, n.2) :: cutAt last ns (l'.drop n.1)) = l'.take n.1 ++ flat (cutAt last ns (l'.drop n.1)) := rfl
      rw [this, ih, List.take_append_drop]
  have ht := textS_spec hst
  refine wp_region_any hm ?_
  have hlen0 : (l.take n0).length = n0 := by rw [List.length_take]; omega
  have hdl : (l.drop n0).length = m := by rw [List.length_drop]; omega
  have hend : ∀ a' w', wpList P l.toArray Q (l.drop n0) a' w' → wpOps P l.toArray Q (List.range' n0 m) a' w' := by
    intro a' w' h1
    have e := wpOps_seg (P := P) (ops := l.toArray) (Q := Q) (l.drop n0) n0 (fun j hj => by simp [List.getElem_drop])
    rw [← e, hdl] at h1
    exact h1
  have h1 := h (fun a' w' => (plainEnd P l.toArray a' = true ∧ readEnd P l.toArray S a' R) ∧ wpOps P l.toArray Q (List.range' n0 m) a' w') (fun a' w' h1 h2 h3 => ⟨⟨h1, h2⟩, hend a' w' h3⟩)
  have h2 := tz_of_segs (L := L) (cutAt last cuts (l.take n0)) 0 [] S (by rw [hfl]; intro j hj; rw [hlen0] at hj; simp [List.getElem_take]) hss a w.drew h1
  rw [hfl, hlen0] at h2
  have h3 := txs_of_tzX (S0 := S) ht (K := fun a' w' => (plainEnd P l.toArray a' = true ∧ readEnd P l.toArray S a' R) ∧ wpOps P l.toArray Q (List.range' n0 m) a' w') (fun _ _ h => h.1) n0 0 [] S a w.drew (by simp; omega) hS h2
  have h4 : txs P l.toArray S R L (List.range' 0 n0) (fun a' w' => wpOps P l.toArray Q (List.range' n0 m) a' w') S a w.drew := txs_mono (fun _ _ h => h.2) _ S a w.drew h3
  have hsz : l.toArray.size = n0 + m := by simp [hn]
  show wpAny P .any l.toArray Q l.length (Array.replicate l.toArray.size false) a w.drew
  refine wpAny_ofX (M := (Region.before l.toArray).toList) (T := fun l' a w => (∃ x y, n0 ≤ x ∧ x + y = n0 + m ∧ l' = List.range' x y ∧ wpOps P l.toArray Q l' a w) ∨ ∃ l1 S', l1 ≠ [] ∧ l' = l1 ++ List.range' n0 m ∧ (∀ w, S' w → S w) ∧ (∀ j ∈ l1, j < n0) ∧ txs P l.toArray S R L l1 (fun a' w' => wpOps P l.toArray Q (List.range' n0 m) a' w') S' a w) ?_ ?_ ?_ ht.back (fun i j hij hj => ?_) l.length (List.range' 0 l.length) _ a w.drew (by simp) (by simp) ?_ ?_ ?_ ?_
  · rintro a w (⟨x, y, hx, hxy, he, h⟩ | ⟨l1, S', hne, he, _⟩)
    · exact h
    · exact absurd (List.append_eq_nil_iff.1 he.symm).1 hne
  · rintro i l' a w (⟨x, y, hx, hxy, he, h⟩ | ⟨l1, S', hne, he, hs, hlt, h⟩)
    · rw [wpOps_cons] at h
      refine wpOp_mono (fun a' w' h7 => .inl ?_) h
      cases y with
      | zero => simp at he
      | succ y =>
        rw [List.range'_succ] at he
        injection he with h5 h6
        exact ⟨x + 1, y, by omega, by omega, h6, h7⟩
    · cases l1 with
      | nil => exact absurd rfl hne
      | cons x l1 =>
        injection he with h5 h6
        subst h5 h6
        refine wpOp_exit (fun _ _ _ h => h.elim) (fun ⟨_, _, h⟩ => h.elim) (wpOp_mono (fun a' w' h7 => ?_) h.2.2)
        obtain ⟨S2, g1, _, g2⟩ := h7
        cases l1 with
        | nil => exact .inl ⟨n0, m, Nat.le_refl _, rfl, rfl, g2.2⟩
        | cons y l1 => exact .inr ⟨y :: l1, S2, by simp, rfl, fun w h => hs w (g1 w h), fun j hj => hlt j (by simp [List.mem_cons.1 hj]), g2⟩
  · have tail : ∀ i l1, n0 ≤ i → i < n0 + m → (∀ j ∈ l1, j < i ∧ ((Region.before l.toArray).toList.getD i 0).testBit j = false) → l1 = [] := by
      intro i l1 h5 h6 hl
      cases l1 with
      | nil => rfl
      | cons j l1 =>
        exfalso
        obtain ⟨g1, g2⟩ := hl j (by simp)
        have g3 := List.all_eq_true.1 hlast i (List.mem_range.2 h6)
        rw [decide_eq_false (by omega), Bool.false_or] at g3
        have := List.all_eq_true.1 g3 j (List.mem_range.2 g1)
        rw [g2] at this
        cases this
    rintro i l1 l2 a w hi hl (⟨x, y, hx, hxy, he, h⟩ | ⟨x, S', hne, he, hs, hlt, h⟩)
    · have hmem : i ∈ List.range' x y := by rw [← he]; simp
      rw [List.mem_range'_1] at hmem
      have := tail i l1 (by omega) (by omega) hl
      subst this
      exact .inl ⟨x, y, hx, hxy, he, h⟩
    · by_cases hin : n0 ≤ i
      · have := tail i l1 hin (by omega) hl
        subst this
        exact .inr ⟨x, S', hne, he, hs, hlt, h⟩
      · have key : ∃ z, x = l1 ++ i :: z ∧ l2 = z ++ List.range' n0 m := by
          clear h hs hlt hl
          rcases List.append_eq_append_iff.1 he with ⟨z, h5, h6⟩ | ⟨z, h5, h6⟩
          · cases z with
            | nil =>
              rw [List.nil_append] at h6
              exfalso
              have : i ∈ List.range' n0 m := by rw [← h6]; simp
              rw [List.mem_range'_1] at this
              omega
            | cons c z =>
              injection h6 with h7 h8
              exact ⟨z, by rw [h5, h7], h8⟩
          · exfalso
            have : i ∈ List.range' n0 m := by rw [h6]; simp
            rw [List.mem_range'_1] at this
            omega
        obtain ⟨z, rfl, rfl⟩ := key
        refine .inr ⟨i :: (l1 ++ z), S', by simp, by simp, hs, fun j hj => hlt j ?_, txs_front ht (oi := l.toArray[i]) (by simp) l1 z S' a w hs hl h⟩
        simp only [List.mem_cons, List.mem_append] at hj ⊢
        rcases hj with hj | hj | hj <;> simp [hj]
  · have h5 := ht.pair i j hij hj
    unfold pairS at h5
    simp only [Bool.and_eq_true] at h5
    exact h5.1
  · exact List.pairwise_lt_range'
  · intro j
    rw [List.mem_range'_1]
    rcases Nat.lt_or_ge j l.length with h4 | h4
    · simp [h4]
    · simp [Array.getElem?_eq_none, h4]
  · intro x hx
    rcases Nat.lt_or_ge x l.length with h4 | h4
    · simp [h4] at hx
    · simp [Array.getElem?_eq_none, h4] at hx
  · rcases Nat.eq_zero_or_pos n0 with h0 | h0
    · subst h0
      exact .inl ⟨0, m, Nat.le_refl _, rfl, by rw [hn, Nat.zero_add], by rw [hn, Nat.zero_add]; exact h4.2⟩
    · refine .inr ⟨List.range' 0 n0, S, ?_, ?_, fun _ h => h, fun j hj => ?_, h4⟩
      · intro h
        have := congrArg List.length h
        simp at this
        omega
      · rw [hn, ← List.range'_append_1, Nat.zero_add]
      · rw [List.mem_range'_1] at hj
        omega
end
end Go.Proofs.YtiialjncdhhceaaGreat
