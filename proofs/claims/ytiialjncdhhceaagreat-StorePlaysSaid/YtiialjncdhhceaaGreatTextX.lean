/- A region whose order is drawn, walked in the order of the text, whose last operation may panic. No program in sight. -/
import Derived.Test.YtiialjncdhhceaaGreatTextS
namespace Go.Proofs.YtiialjncdhhceaaGreat
open Go
set_option linter.unusedVariables false
set_option linter.unusedSimpArgs false
section
variable {P : Program} {ops : Array Oper}
theorem wpAny_ofX {M : List Nat} {Q : Exit → Act → World → Prop} {T : List Nat → Act → World → Prop} (hnil : ∀ a w, T [] a w → Q .normal a w) (hcons : ∀ i l a w, T (i :: l) a w → wpOp P ops Q i (T l) a w)
    (hfront0 : ∀ i l1 l2 a w, i < ops.size → (∀ j ∈ l1, j < i ∧ (M.getD i 0).testBit j = false) → T (l1 ++ i :: l2) a w → T (i :: (l1 ++ l2)) a w)
    (back : ∀ j o, ops[j]? = some o → ∀ e ∈ o.after, Region.binds .any e = true → e.on < j) (bits : ∀ i j, i < j → j < ops.size → bitOk ops M i j = true) : ∀ (n : Nat) (l : List Nat) (listed : Array Bool) (a : Act) (w : World), l.length = n → listed.size = ops.size → l.Pairwise (· < ·) → (∀ j, j ∈ l ↔ listed.getD j true = false) →
    (∀ x, listed.getD x false = true → ∀ j, j < x → (M.getD x 0).testBit j = true → listed.getD j false = true) → T l a w → wpAny P .any ops Q n listed a w := by
  intro n
  induction n with
  | zero =>
    intro l listed a w hn hs hp hm hd h
    obtain rfl := List.length_eq_zero_iff.1 hn
    refine ⟨?_, hnil _ _ h⟩
    rw [List.eq_nil_iff_forall_not_mem]
    intro j hj
    have := (hm j).2 (mem_ready.1 hj).1
    simp at this
  | succ n ih =>
    intro l listed a w hn hs hp hm hd h
    have hsize : ∀ j, j ∈ l → j < ops.size := by
      intro j hj
      have h1 := (hm j).1 hj
      rcases Nat.lt_or_ge j ops.size with h2 | h2
      · exact h2
      · simp [Array.getElem?_eq_none (show listed.size ≤ j by omega)] at h1
    have hflip : ∀ j, j < ops.size → j ∉ l → listed.getD j false = true := by
      intro j hj hn
      have h1 : ¬ listed.getD j true = false := fun h => hn ((hm j).2 h)
      have hj' : j < listed.size := by omega
      simp [hj'] at h1 ⊢
      exact h1
    refine ⟨fun hr => ?_, fun i hi => ?_⟩
    · exfalso
      cases l with
      | nil => simp at hn
      | cons x l =>
        have hx := hsize x (by simp)
        have : x ∈ Region.ready .any ops listed := by
          refine mem_ready.2 ⟨(hm x).1 (by simp), ops[x], by simp [hx], fun e he hb => ?_⟩
          have he' := back x ops[x] (by simp [hx]) e he hb
          refine hflip e.on (by omega) fun hmem => ?_
          rw [List.mem_cons] at hmem
          rcases hmem with h1 | h1
          · omega
          · have := (List.pairwise_cons.1 hp).1 _ h1
            omega
        rw [hr] at this
        cases this
    · obtain ⟨hun, oi, hoi, hall⟩ := mem_ready.1 hi
      have hil := (hm i).2 hun
      obtain ⟨l1, l2, rfl⟩ := List.append_of_mem hil
      have hlt := hsize i hil
      have hp' := List.pairwise_append.1 hp
      have hfront : ∀ j ∈ l1, j < i ∧ (M.getD i 0).testBit j = false := by
        intro j hj
        have hji : j < i := hp'.2.2 j hj i (by simp)
        refine ⟨hji, ?_⟩
        cases hb : (M.getD i 0).testBit j with
        | false => rfl
        | true =>
          exfalso
          have hpr := bits j i hji hlt
          have hjs : j < ops.size := by omega
          unfold bitOk at hpr
          rw [hoi] at hpr
          simp only [hb, Bool.not_true, Bool.false_or] at hpr
          obtain ⟨e, he, hb2⟩ := Array.any_eq_true'.1 hpr
          simp only [Bool.and_eq_true, Bool.or_eq_true, beq_iff_eq, decide_eq_true_eq] at hb2
          have hle := hall e he hb2.1
          have hjl : listed.getD j false = true := by
            rcases hb2.2 with h1 | ⟨h1, h2⟩
            · rw [← h1]; exact hle
            · exact hd e.on hle j h1 h2
          have := (hm j).1 (by simp [hj])
          have hj' : j < listed.size := by omega
          simp [hj'] at this hjl
          rw [this] at hjl
          cases hjl
      have h6 := hcons i (l1 ++ l2) a w (hfront0 i l1 l2 a w hlt hfront h)
      refine wpOp_mono (fun a' w' h7 => ?_) h6
      have hnil1 : i ∉ l1 := fun hm1 => by have := (hfront i hm1).1; omega
      have hnil2 : i ∉ l2 := fun hm2 => by have := (List.pairwise_cons.1 hp'.2.1).1 i hm2; omega
      refine ih (l1 ++ l2) (listed.setIfInBounds i true) a' w' ?_ ?_ ?_ ?_ ?_ h7
      · simp at hn ⊢; omega
      · simpa using hs
      · exact List.pairwise_append.2 ⟨hp'.1, (List.pairwise_cons.1 hp'.2.1).2, fun x hx y hy => hp'.2.2 x hx y (by simp [hy])⟩
      · intro j
        by_cases hij : i = j
        · subst hij
          have : i < listed.size := by omega
          simp [hnil1, hnil2, this]
        · rw [getD_set_ne true hij, ← hm j]
          simp [Ne.symm hij]
      · intro x hx j hjx hb
        by_cases hix : i = x
        · subst hix
          by_cases hjl : j ∈ l1
          · have := (hfront j hjl).2
            rw [this] at hb
            cases hb
          · refine getD_set_true (hflip j (by omega) fun hm' => ?_)
            rw [List.mem_append, List.mem_cons] at hm'
            rcases hm' with h1 | h1 | h1
            · exact hjl h1
            · omega
            · have := (List.pairwise_cons.1 hp'.2.1).1 j h1
              omega
        · rw [getD_set_ne false hix] at hx
          exact getD_set_true (hd x hx j hjx hb)

theorem txs_of_tzX {S0 : World → Prop} {R L M : List Nat} (ht : TextS P R L M ops) {K : Act → World → Prop} (hK : ∀ a w, K a w → plainEnd P ops a = true ∧ readEnd P ops S0 a R) :
    ∀ (m k : Nat) (acc : List (Nat × (World → Prop))) (S : World → Prop) (a : Act) (w : World), k + m ≤ ops.size → S w → tz P ops L K (List.range' k m) acc S a w → txs P ops S0 R L (List.range' k m) K S a w := by
  intro m
  induction m with
  | zero => intro k acc S a w _ hS h; exact ⟨hS, h.2⟩
  | succ m ih =>
    intro k acc S a w hkm hS h
    have hvalid : ∀ j ∈ List.range' k (m + 1), ops[j]? ≠ none := by
      intro j hj
      rw [List.mem_range'_1] at hj
      rw [Ne, Array.getElem?_eq_none_iff]
      omega
    obtain ⟨a2, w2, h2, _, hlate, hk⟩ := tz_out _ acc S a w hvalid h
    obtain ⟨hpl, hrd⟩ := hK _ _ h2
    have hlate := hlate k (List.range' (k + 1) m) List.range'_succ
    rw [List.range'_succ] at h ⊢
    have hks : k < ops.size := by omega
    have ho : ops[k]? = some ops[k] := by simp [hks]
    generalize ops[k] = o at ho
    have hns := fun cs b => Region.noSelect_spec ht.nosel k o cs b ho
    have hdst : (mov P R k o = true ∨ late P L k o = true) → ∀ j ∈ List.range' k (m + 1), ∀ d, dstOf ops j = some d → d ∉ o.looksAt ops := by
      intro hm j hj d hd
      rw [List.mem_range'_1] at hj
      have hl := ht.lateS k o ho
      unfold Proofs.YtiialjncdhhceaaGreat.lateS at hl
      have hm' : (!mov P R k o && !late P L k o) = false := by rcases hm with h | h <;> simp [h]
      rw [hm', Bool.false_or] at hl
      simp only [Bool.or_eq_true, List.all_eq_true, List.mem_range, decide_eq_true_eq] at hl
      have h3 := (hl j (by omega)).resolve_left (by omega)
      rw [hd] at h3
      simpa using h3
    have hdyn : cls P o = 0 → Region.wanted o (yielded ops a.tmps) = true → dynOk P o a.eval = true := by
      intro hc hw
      have hm : mov P R k o = true := by simp [mov, hc]
      obtain ⟨e1, e2, _⟩ := hk o hns (hdst (.inl hm))
      rw [← e1]
      exact plainEnd_dyn hpl k o ho hc (by rw [e2]; exact hw)
    have hgiv : (cls P o = 0 ∨ cls P o = 1) → ∀ {L : Act → World → Prop}, st P ops k L a w → (∃ v, Region.wanted o (yielded ops a.tmps) = true ∧ (execOp a.eval o).run P w = .ok (.value v) w ∧ L (a.put o.dst v) w) ∨ (Region.wanted o (yielded ops a.tmps) = false ∧ L (a.put o.dst undef) w) := by
      intro hc L hs
      unfold st wpOp at hs
      simp only [ho] at hs
      split at hs
      · rename_i hw
        rcases hs with hs | ⟨_, hs⟩
        · left
          unfold Oper.wp at hs
          have hv : Val P (execOp a.eval o) ∧ Stl P (execOp a.eval o) := by
            rcases hc with h0 | h0
            · have := cls0 o a.eval h0 (hdyn h0 hw)
              exact ⟨this.2, this.1.stl⟩
            · have := cls1 o a.eval h0
              exact ⟨this.2, this.1⟩
          cases hr : (execOp a.eval o).run P w with
          | halt x u' => rw [hr] at hs; cases x <;> simp [Oper.upon] at hs
          | ok n u' =>
            obtain ⟨v, rfl⟩ := hv.1 w n u' hr
            have := hv.2 w _ u' hr
            subst this
            rw [hr] at hs
            exact ⟨v, hw, rfl, hs⟩
        · exact absurd hs lets_false
      · rename_i hw
        exact .inr ⟨by simpa using hw, hs⟩
    refine ⟨hS, ?_, ?_⟩
    · intro o' ho'
      rw [ho] at ho'
      cases ho'
      refine ⟨fun hm => ?_, fun hm => ?_⟩
      · have hm' := hm
        simp only [mov, Bool.or_eq_true, Bool.and_eq_true, beq_iff_eq, List.contains_iff_mem] at hm'
        rcases hm' with h0 | ⟨hR, _⟩
        · intro hw
          rcases hgiv (.inl h0) h with ⟨v, _, hr, _⟩ | ⟨hw', _⟩
          · exact ⟨v, fun w' _ => ((cls0 o a.eval h0 (hdyn h0 hw)).1 w _ w hr).2 w'⟩
          · rw [hw] at hw'
            cases hw'
        · exact ((hk o hns (hdst (.inl hm))).2.2 S0).1 (readEnd_mem hrd hR o ho)
      · have hm' := hm
        simp only [late, Bool.and_eq_true] at hm'
        exact ((hk o hns (hdst (.inr hm))).2.2 S).1 ((hlate hm'.1).1 o ho)
    · by_cases hc : cls P o = 0 ∨ cls P o = 1
      · have hq : Quiet P ops k := fun o' ho' => by rw [ho] at ho'; cases ho'; exact hc
        refine st_take ho ?_
        rcases hgiv hc h with ⟨v, hw, hr, S', h1, h2, h3, h'⟩ | ⟨hw, S', h1, h2, h3, h'⟩
        · have := h2 hq
          subst this
          exact .inl ⟨v, hw, hr, S', fun _ h => h, fun _ => rfl, ih (k + 1) _ S' _ w (by omega) hS h'⟩
        · have := h2 hq
          subst this
          exact .inr ⟨hw, S', fun _ h => h, fun _ => rfl, ih (k + 1) _ S' _ w (by omega) hS h'⟩
      · have hq : ¬ Quiet P ops k := fun h => hc (h o ho)
        refine st_mono ?_ h
        rintro a' w' ⟨S', h1, _, h3, h'⟩
        refine ⟨S', h1, fun hmv => ?_, ih (k + 1) _ S' a' w' (by omega) (h3 hq) h'⟩
        exfalso
        obtain ⟨o', ho', hm⟩ := hmv
        rw [ho] at ho'
        cases ho'
        apply hc
        rcases hm with hm | hm
        · simp only [mov, Bool.or_eq_true, Bool.and_eq_true, beq_iff_eq] at hm
          rcases hm with h | ⟨_, h⟩
          · exact .inl h
          · exact .inr h
        · simp only [late, Bool.and_eq_true, beq_iff_eq] at hm
          exact .inr hm.2

/-- A REGION WHOSE ORDER IS DRAWN, WALKED IN THE ORDER OF THE TEXT, piece by piece; its last operation (n0), behind all others, may leave by a panic. -/
theorem wp_region_textX {id n0 : Nat} {l : List Oper} {Q : Exit → Act → World → Prop} {a : Act} {w : World} (S : World → Prop) (R L : List Nat) (last : List Nat) (cuts : List (Nat × List Nat)) (hn : l.length = n0 + 1) (hm : P.follows .mixedOrders = true)
    (hst : textS P R L (Region.before l.toArray).toList l.toArray = true) (hlast : ((List.range n0).all fun j => ((Region.before l.toArray).toList.getD n0 0).testBit j) = true)
    (hss : segsOk P L 0 (cutAt last cuts (l.take n0)) = true) (hS : S w.drew)
    (h : ∀ K : Act → World → Prop, (∀ a' w', plainEnd P l.toArray a' = true → readEnd P l.toArray S a' R → wpList P l.toArray Q (l.drop n0) a' w' → K a' w') → wpSegs P l.toArray K (cutAt last cuts (l.take n0)) [] S a w.drew) :
    (Code.region id l.toArray true).wp P Q a w := by
  have hfl : flat (cutAt last cuts (l.take n0)) = l.take n0 := by
    clear h hss hst hlast hS
    generalize l.take n0 = l'
    induction cuts generalizing l' with
    | nil => simp [cutAt, flat]
    | cons n ns ih =>
      unfold cutAt
      have : flat ((l'.take n.1, n.2) :: cutAt last ns (l'.drop n.1)) = l'.take n.1 ++ flat (cutAt last ns (l'.drop n.1)) := rfl
      rw [this, ih, List.take_append_drop]
  have ht := textS_spec hst
  refine wp_region_any hm ?_
  have hlen0 : (l.take n0).length = n0 := by rw [List.length_take]; omega
  have hdl : (l.drop n0).length = 1 := by rw [List.length_drop]; omega
  have hend : ∀ a' w', wpList P l.toArray Q (l.drop n0) a' w' → wpOp P l.toArray Q n0 (Q .normal) a' w' := by
    intro a' w' h1
    have e := wpOps_seg (P := P) (ops := l.toArray) (Q := Q) (l.drop n0) n0 (fun j hj => by simp [List.getElem_drop])
    rw [← e, hdl] at h1
    have e2 : List.range' n0 1 = [n0] := rfl
    rw [e2, wpOps_cons] at h1
    exact h1
  have h1 := h (fun a' w' => (plainEnd P l.toArray a' = true ∧ readEnd P l.toArray S a' R) ∧ wpOp P l.toArray Q n0 (Q .normal) a' w') (fun a' w' h1 h2 h3 => ⟨⟨h1, h2⟩, hend a' w' h3⟩)
  have h2 := tz_of_segs (L := L) (cutAt last cuts (l.take n0)) 0 [] S (by rw [hfl]; intro j hj; rw [hlen0] at hj; simp [List.getElem_take]) hss a w.drew h1
  rw [hfl, hlen0] at h2
  have h3 := txs_of_tzX (S0 := S) ht (K := fun a' w' => (plainEnd P l.toArray a' = true ∧ readEnd P l.toArray S a' R) ∧ wpOp P l.toArray Q n0 (Q .normal) a' w') (fun _ _ h => h.1) n0 0 [] S a w.drew (by simp; omega) hS h2
  have h4 : txs P l.toArray S R L (List.range' 0 n0) (fun a' w' => wpOp P l.toArray Q n0 (Q .normal) a' w') S a w.drew := txs_mono (fun _ _ h => h.2) _ S a w.drew h3
  have hsz : l.toArray.size = n0 + 1 := by simp [hn]
  show wpAny P .any l.toArray Q l.length (Array.replicate l.toArray.size false) a w.drew
  refine wpAny_ofX (M := (Region.before l.toArray).toList) (T := fun l' a w => (l' = [] ∧ Q .normal a w) ∨ ∃ l1 S', l' = l1 ++ [n0] ∧ (∀ w, S' w → S w) ∧ txs P l.toArray S R L l1 (fun a' w' => wpOp P l.toArray Q n0 (Q .normal) a' w') S' a w) ?_ ?_ ?_ ht.back (fun i j hij hj => ?_) l.length (List.range' 0 l.length) _ a w.drew (by simp) (by simp) ?_ ?_ ?_ ?_
  · rintro a w (⟨_, h⟩ | ⟨l1, S', he, _⟩)
    · exact h
    · simp at he
  · rintro i l' a w (⟨he, _⟩ | ⟨l1, S', he, hs, h⟩)
    · cases he
    · cases l1 with
      | nil =>
        injection he with h5 h6
        subst h5 h6
        exact wpOp_mono (fun a' w' h7 => .inl ⟨rfl, h7⟩) h.2
      | cons x l1 =>
        injection he with h5 h6
        subst h5 h6
        refine wpOp_exit (fun _ _ _ h => h.elim) (fun ⟨_, _, h⟩ => h.elim) (wpOp_mono (fun a' w' h7 => ?_) h.2.2)
        obtain ⟨S2, g1, _, g2⟩ := h7
        exact .inr ⟨l1, S2, rfl, fun w h => hs w (g1 w h), g2⟩
  · rintro i l1 l2 a w hi hl (⟨he, _⟩ | ⟨x, S', he, hs, h⟩)
    · simp at he
    · by_cases hin : i = n0
      · subst hin
        have hl1 : l1 = [] := by
          cases l1 with
          | nil => rfl
          | cons j l1 =>
            exfalso
            obtain ⟨g1, g2⟩ := hl j (by simp)
            have := List.all_eq_true.1 hlast j (List.mem_range.2 g1)
            rw [g2] at this
            cases this
        subst hl1
        exact .inr ⟨x, S', he, hs, h⟩
      · rcases List.eq_nil_or_concat l2 with h5 | ⟨l2', y, h5⟩
        · subst h5
          have := List.append_inj_right' he rfl
          simp at this
          exact absurd this hin
        · rw [List.concat_eq_append] at h5
          subst h5
          have e3 : l1 ++ i :: (l2' ++ [y]) = (l1 ++ i :: l2') ++ [y] := by simp
          rw [e3] at he
          obtain ⟨h6, h7⟩ := List.append_inj' he rfl
          simp at h7
          subst h6 h7
          refine .inr ⟨i :: (l1 ++ l2'), S', by simp, hs, ?_⟩
          exact txs_front ht (oi := l.toArray[i]) (by simp) l1 l2' S' a w hs hl h
  · have h5 := ht.pair i j hij hj
    unfold pairS at h5
    simp only [Bool.and_eq_true] at h5
    exact h5.1
  · exact List.pairwise_lt_range'
  · intro j
    rw [List.mem_range'_1]
    rcases Nat.lt_or_ge j l.length with h4 | h4
    · simp [h4]
    · simp [Array.getElem?_eq_none, h4]
  · intro x hx
    rcases Nat.lt_or_ge x l.length with h4 | h4
    · simp [h4] at hx
    · simp [Array.getElem?_eq_none, h4] at hx
  · refine .inr ⟨List.range' 0 n0, S, ?_, fun _ h => h, h4⟩
    rw [hn, List.range'_concat]
    simp
end
end Go.Proofs.YtiialjncdhhceaaGreat
