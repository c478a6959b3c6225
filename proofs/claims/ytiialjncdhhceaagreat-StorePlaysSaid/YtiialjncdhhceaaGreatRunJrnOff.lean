/- What follows is 2 texts, one behind the other: JrnCountsP, JrnOff. -/
import Derived.Test.YtiialjncdhhceaaGreatRunJrnLaysP
/- The journal lets an area's bytes count, where the power may go. -/
namespace Go.Proofs.YtiialjncdhhceaaGreat
open Go.RowKit
set_option linter.unusedVariables false
set_option linter.unusedSimpArgs false

/-- Where 'counts' stood when the power went. -/
theorem offnz {s : DSt} (h : s.step.off = true) : s.offAt ≠ 0 := by
  intro h0
  rw [DSt.off_zero (s := s.step) h0] at h
  cases h
inductive CountsOff (s : DSt) (oth : Nat) (hdr : List UInt8) : DSt → Prop
  | a (h : s.offAt ≠ 0) : CountsOff s oth hdr s.step
  | b (h : s.offAt ≠ 0) : CountsOff s oth hdr (s.step.put (1 + oth) hdr).step
  | c (h : s.offAt ≠ 0) : CountsOff s oth hdr (s.step.put (1 + oth) hdr).step.clean.step
  | d (h : s.offAt ≠ 0) : CountsOff s oth hdr ((s.step.put (1 + oth) hdr).step.clean.step.put 0 [UInt8.ofNat oth]).step

set_option maxHeartbeats 2000000 in
set_option maxRecDepth 100000 in
theorem counts_p (j d k m hd ar area : Nat) (A0 : Option Addr) (n0 c0 : Nat) (C : Option Addr) (nc cc : Nat) (br : Bool) (s : DSt) (A : Option Addr) (n c : Nat) (w : World) (hj : w.heap[j]? = some (.cells (jCells d hd ar A0 n0 c0 C nc cc br) 85 (0, 0)))
    (hjd : j ≠ d ∧ j ≠ k ∧ j ≠ m) (hD : IsDisk w d k m s) (hhd : hd ≤ 1) (har : area ≤ 1) (hn8 : 8 ≤ s.n) (hn : n ≤ 1000000) (hst : s.steps ≤ 1000000000) :
    Calls Tryz.prog 69 #[.pointer (some ⟨j, 0, none⟩), .int .i64 (area : Int), .slice A n c] w fun e w' => (e = .returned (.tuple #[]) ∧ IsDisk w' d k m (countsS s (1 - hd) ([UInt8.ofNat area] ++ putB n 4)) ∧
      w'.heap[j]? = some (.cells (jCells d (1 - hd) area A n c C nc cc br) 85 (0, 0)) ∧ Fr [j, d, k, m] w w' ∧ (countsS s (1 - hd) ([UInt8.ofNat area] ++ putB n 4)).off = false) ∨ (e = offE ∧ ∃ s', CountsOff s (1 - hd) ([UInt8.ofNat area] ++ putB n 4) s' ∧ IsDisk w' d k m s' ∧ Fr [d, k, m] w w') := by
  obtain ⟨oth, ho⟩ : ∃ oth, 1 - hd = oth := ⟨_, rfl⟩
  have hoi : (1 : Int) - (hd : Int) = (oth : Int) := by omega
  have ho1 : oth ≤ 1 := by omega
  rw [ho]
  clear ho
  have c1 : w.cell? ⟨j, 1, none⟩ = some (.int .i64 (hd : Int)) := cell_of_row _ _ 1 _ _ _ hj
  have c0' : w.cell? ⟨j, 0, none⟩ = some (.pointer (some ⟨d, 0, none⟩)) := cell_of_row _ _ 0 _ _ _ hj
  have hjl : j < w.heap.size := (Array.getElem?_eq_some_iff.1 hj).1
  have hlts := hD.lts
  have hload : ∀ w' : World, Fr [d, k, m] w w' → (Instr.loadAt 27 (.pointer (some ⟨j, 0, none⟩))).run Tryz.prog w' = _ := fun w' hf => load_cell 27 Tryz.underlying27 rfl (hf.cell c0' (by simp; omega))
  replace hload := hid hload
  obtain ⟨hdr, hhdr⟩ : ∃ hdr, [UInt8.ofNat area] ++ putB n 4 = hdr := ⟨_, rfl⟩
  have hhl : hdr.length = 5 := by rw [← hhdr, List.length_append, putB_length]; rfl
  unfold countsS
  rw [hhdr]
  obtain ⟨s1, hs1⟩ : ∃ s1, s1 = s.step.put (1 + oth) hdr := ⟨_, rfl⟩
  rw [← hs1]
  have q1 : s1.n = s.n ∧ s1.steps = s.steps + 1 := by rw [hs1]; exact ⟨rfl, rfl⟩
  obtain ⟨s2, hs2⟩ : ∃ s2, s2 = s1.step.clean := ⟨_, rfl⟩
  rw [← hs2]
  have q2 : s2.n = s.n ∧ s2.steps = s.steps + 2 := by rw [hs2]; exact ⟨q1.1, by show s1.steps + 1 = _; omega⟩
  obtain ⟨s3, hs3⟩ : ∃ s3, s3 = s2.step.put 0 [UInt8.ofNat oth] := ⟨_, rfl⟩
  rw [← hs3]
  have q3 : s3.n = s.n ∧ s3.steps = s.steps + 3 := by rw [hs3]; exact ⟨q2.1, by show s2.steps + 1 = _; omega⟩
  replace hs1 := hid hs1
  replace hs2 := hid hs2
  replace hs3 := hid hs3
  replace hhdr := hid hhdr
  go_enter Tryz.func69, Tryz.ntmps69
  go_wp2_with fail
  refine wp_region_textX (n0 := 14) (fun w' => Fr [d, k, m] w w') [3] [] [] [(9, []), (4, []), (1, [])] rfl (by kernel_rfl) (by kernel_rfl) (by kernel_rfl) (by kernel_rfl) (Fr.refl _ w).drew ?_
  intro K hK
  simp only [cutAt, List.take_succ_cons, List.take_zero, List.drop_succ_cons, List.drop_zero, List.take_nil, List.drop_nil, wpSegs, List.map_cons, List.map_nil, List.nil_append, List.cons_append]
  have c0d : w.drew.cell? ⟨j, 0, none⟩ = _ := c0'
  go_wp2_with fail
  have hfa : Fr [] w (w.alloc (.cells #[.int .u8 ((area : Int))] 5)).drew := ((Fr.refl [] w).alloc _).drew
  have hoa := (ob_lit1 w w.heap.size (Nat.le_refl _) (UInt8.ofNat area) ((area : Int)) (by rw [UInt8.toNat_ofNat']; omega)).kept (Fr.refl [] _).drew (by simp)
  generalize (w.alloc (.cells #[.int .u8 (area : Int)] 5)).drew = w1 at *
  refine ⟨fun w' => Fr [d, k, m] w w', fun _ h => h, hfa.mono (by simp), ?_⟩
  go_wp2_with fail
  refine (Put_c w.heap.size (.slice (some ⟨w.heap.size, 0, none⟩) 1 1) [UInt8.ofNat area] n 4 4 (by omega) (by decide) w1 hoa hfa.size (by simp)).mono ?_
  rintro e w2 ⟨v2, rfl, ho2, hf2, hn2⟩
  rw [hhdr.out] at ho2
  obtain ⟨A2, cp2, rfl, hc2, hr2, hz2⟩ := ho2.form
  have hlt2 := ho2.lt
  rw [hhl] at hr2 hc2
  rw [hhl]
  have hf02 : Fr [] w w2 := hfa.past hf2 (by intro z hz; simp [Value.ownBlock] at hz; omega)
  go_wp2_with fail
  refine ⟨fun w' => Fr [d, k, m] w w', fun _ h => h, hf02.mono (by simp), ?_⟩
  go_wp2_with fail
  have hlow : ∀ z, A2 = some z → w.heap.size ≤ z.block := fun z hz => (hlt2 _ (hz2 z hz).1).1
  refine (Write_p d k m s w2 (1 + oth) A2 5 cp2 hdr (hD.fr hf02) hr2 (by intro _ z hz; have := hlow z hz; omega) (by omega) (by omega) (by omega) _ (by omega)).mono ?_
  rw [← hs1.out]
  rintro e w3 ⟨hf3, hcase⟩
  have hS3 : Fr [d, k, m] w w3 := (hf02.mono (by simp)).trans hf3 (by simp)
  rcases hcase with ⟨ho3, rfl, hD3⟩ | ⟨ho3, rfl, hD3⟩
  rotate_left
  · go_wp2_with fail
    refine ⟨fun w' => Fr [d, k, m] w w', fun _ h => h, hS3, ?_⟩
    go_wp2_with fail
    refine ⟨trivial, hK _ _ (by kernel_rfl) ⟨fun o ho => ?_, trivial⟩ ?_⟩
    · cases ho
      exact gives_load rfl (fun w' h => hload.out w' h)
    simp only [List.drop_succ_cons, List.drop_zero]
    go_wp2_with fail
    refine (must_off w3).mono ?_
    rintro e w9 ⟨rfl, rfl⟩
    unfold offE
    go_wp2_with fail
    exact ⟨rfl, .inr ⟨rfl, _, .a (offnz ho3), hD3, hS3⟩⟩
  go_wp2_with fail
  refine ⟨fun w' => Fr [d, k, m] w w', fun _ h => h, hS3, ?_⟩
  go_wp2_with fail
  refine ⟨trivial, hK _ _ (by kernel_rfl) ⟨fun o ho => ?_, trivial⟩ ?_⟩
  · cases ho
    exact gives_load rfl (fun w' h => hload.out w' h)
  simp only [List.drop_succ_cons, List.drop_zero]
  go_wp2_with fail
  refine (must_ok w3).mono ?_
  rintro e w4 ⟨rfl, rfl⟩
  have c03 := hS3.cell c0' (by simp; omega)
  have hj3 := (hS3.block j hjl (by simp; omega)).trans hj
  clear c0d c1
  go_wp2_with fail
  refine (Flush_p d k m s1 w3 hD3 (by omega)).mono ?_
  rw [← hs2.out]
  rintro e w4 ⟨hf4, hcase⟩
  have hS4 : Fr [d, k, m] w w4 := hS3.trans hf4 (by simp)
  rcases hcase with ⟨ho4, rfl, hD4⟩ | ⟨ho4, rfl, hD4⟩
  rotate_left
  · go_wp2_with fail
    refine (must_off w4).mono ?_
    rintro e w9 ⟨rfl, rfl⟩
    unfold offE
    go_wp2_with fail
    have hz := offnz ho4
    rw [hs1.out] at hz
    exact ⟨rfl, .inr ⟨rfl, _, hs1.out ▸ .b hz, hD4, hS4⟩⟩
  go_wp2_with fail
  refine (must_ok w4).mono ?_
  rintro e w5 ⟨rfl, rfl⟩
  have c04 := hf4.cell c03 (by simp; omega)
  have hz4 := hS4.size
  go_wp2_with fail
  have hlts4 := hD4.lts
  have hoa5 := (ob_lit1 w4 w4.heap.size (Nat.le_refl _) (UInt8.ofNat oth) (oth : Int) (by rw [UInt8.toNat_ofNat']; omega))
  obtain ⟨A5, c5, hv5, hc5, hr5, hz5⟩ := hoa5.form
  injection hv5 with hA5 hn5 hc5'
  subst hA5 hc5'
  clear hn5 hc5 hz5
  have hD5 := hD4.fr ((Fr.refl [] w4).alloc (.cells #[.int .u8 (oth : Int)] 5))
  have hS5 : Fr [d, k, m] w (w4.alloc (.cells #[.int .u8 (oth : Int)] 5)) := hS4.alloc _
  have c05 := ((Fr.refl [] w4).alloc (.cells #[.int .u8 (oth : Int)] 5)).cell c04 (by simp)
  generalize w4.alloc (.cells #[.int .u8 (oth : Int)] 5) = w5 at *
  refine (Write_p d k m s2 w5 0 (some ⟨w4.heap.size, 0, none⟩) 1 1 [UInt8.ofNat oth] hD5 hr5 (by intro _ z hz; cases hz; simp only; omega) (by omega) (by omega) (by decide) 0 rfl).mono ?_
  rw [← hs3.out]
  rintro e w6 ⟨hf6, hcase⟩
  have hS6 : Fr [d, k, m] w w6 := hS5.trans hf6 (by simp)
  rcases hcase with ⟨ho6, rfl, hD6⟩ | ⟨ho6, rfl, hD6⟩
  rotate_left
  · go_wp2_with fail
    refine (must_off w6).mono ?_
    rintro e w9 ⟨rfl, rfl⟩
    unfold offE
    go_wp2_with fail
    have hz := offnz ho6
    rw [hs2.out, hs1.out] at hz
    exact ⟨rfl, .inr ⟨rfl, _, hs2.out ▸ hs1.out ▸ .c hz, hD6, hS6⟩⟩
  have c06 := hf6.cell c05 (by simp; omega)
  go_wp2_with fail
  refine (must_ok w6).mono ?_
  rintro e w7 ⟨rfl, rfl⟩
  clear c03 c04 c05 hoa5 hr5
  go_wp2_with fail
  refine (Flush_p d k m s3 w6 hD6 (by omega)).mono ?_
  rintro e w7 ⟨hf7, hcase⟩
  have hS7 : Fr [d, k, m] w w7 := hS6.trans hf7 (by simp)
  rcases hcase with ⟨ho7, rfl, hD7⟩ | ⟨ho7, rfl, hD7⟩
  rotate_left
  · go_wp2_with fail
    refine (must_off w7).mono ?_
    rintro e w9 ⟨rfl, rfl⟩
    unfold offE
    go_wp2_with fail
    have hz := offnz ho7
    rw [hs3.out, hs2.out, hs1.out] at hz
    exact ⟨rfl, .inr ⟨rfl, _, hs3.out ▸ hs2.out ▸ hs1.out ▸ .d hz, hD7, hS7⟩⟩
  go_wp2_with fail
  refine (must_ok w7).mono ?_
  rintro e w8 ⟨rfl, rfl⟩
  have hj7 := (hS7.block j hjl (by simp; omega)).trans hj
  have e1 : w7.cell? ⟨j, 1, none⟩ = some (.int .i64 (hd : Int)) := cell_of_row _ _ 1 _ _ _ hj7
  have e2 : w7.cell? ⟨j, 2, none⟩ = some (.int .i64 (ar : Int)) := cell_of_row _ _ 2 _ _ _ hj7
  have e3 : w7.cell? ⟨j, 3, none⟩ = some (.slice A0 n0 c0) := cell_of_row _ _ 3 _ _ _ hj7
  have z1 : ∀ q, w7.frozen? ⟨j, q, none⟩ = false := fun q => frozen_of_row _ _ q _ _ hj7
  have b1 := heap_setCell_same w7 j 1 _ _ (.int .i64 (oth : Int)) hj7
  have b2 := heap_setCell_same _ j 2 _ _ (.int .i64 (area : Int)) b1
  have b3 := heap_setCell_same _ j 3 _ _ (.slice A n c) b2
  have hf8 : Fr [j] w7 (((w7.setCell ⟨j, 1, none⟩ (.int .i64 (oth : Int))).setCell ⟨j, 2, none⟩ (.int .i64 (area : Int))).setCell ⟨j, 3, none⟩ (.slice A n c)) := (((Fr.refl [j] w7).setCell _ (.inl (by simp)) _).setCell _ (.inl (by simp)) _).setCell _ (.inl (by simp)) _
  replace b1 := hid b1
  replace b2 := hid b2
  replace b3 := hid b3
  clear hj7 c06 hj3
  go_wp2_with fail
  go_end0
  exact .inl ⟨rfl, hD7.away hf8 (by simp; omega), b3.out.trans rfl, (hS7.mono (by simp)).trans hf8 (by simp), ho7⟩

end Go.Proofs.YtiialjncdhhceaaGreat

/- What a crash leaves where the power went within a write of the journal: plain laws. -/
namespace Go.Proofs.YtiialjncdhhceaaGreat
open Go.RowKit
set_option linter.unusedVariables false
set_option linter.unusedSimpArgs false

theorem Keep.step {s t : DSt} {hd ar : Nat} {recs : List ByteArray} (h : Keep s t hd ar recs) : Keep s t.step hd ar recs := ⟨h.n, h.kept, h.pend⟩
theorem Keep.put {s t : DSt} {hd ar : Nat} {recs : List ByteArray} (h : Keep s t hd ar recs) {i : Nat} (l : List UInt8) (h0 : i ≠ 0) (h1 : i ≠ 1 + hd) (h4 : i < 4) : Keep s (t.put i l) hd ar recs := by
  refine ⟨h.n, h.kept, fun i' l' hp => ?_⟩
  unfold DSt.put at hp
  dsimp only at hp
  split at hp
  · rename_i hi
    subst hi
    exact ⟨h0, h1, fun p hp hi => by omega⟩
  · exact h.pend i' l' hp
theorem Keep.clean {s t : DSt} {hd ar : Nat} {recs : List ByteArray} (h : Keep s t hd ar recs) (hH : Holds s hd ar recs) : Holds t.clean hd ar recs := by
  have hnone : ∀ i, (i = 0 ∨ i = 1 + hd) → t.clean.now i = s.now i := by
    intro i hi
    rw [DSt.clean_now]
    unfold DSt.now
    cases hp : t.pend i with
    | none => exact h.kept i
    | some l =>
      have := h.pend i l hp
      omega
  refine ⟨?_, hH.hd1, hH.ar1, hH.sizes, ?_, by rw [hnone 0 (.inl rfl)]; exact hH.sec0, by rw [hnone (1 + hd) (.inr rfl)]; exact hH.hdr, fun p hp => ?_, fun _ => rfl⟩
  · show 8 ≤ t.n
    rw [h.n]
    exact hH.n8
  · show _ ≤ 64 * arL t.n
    rw [h.n]
    exact hH.fits
  · show (t.clean.now (4 + ar * arL t.n + p / 64))[p % 64]? = _
    rw [h.n, DSt.clean_now]
    unfold DSt.now
    cases hpd : t.pend (4 + ar * arL s.n + p / 64) with
    | none =>
      show (t.kept _)[p % 64]? = _
      rw [h.kept]
      exact hH.body p hp
    | some l => exact (h.pend _ l hpd).2.2 p hp rfl

/-- New records over old ones: another area, or the same with the old ones ahead. -/
def Over (recs recs' : List ByteArray) (ar ar' : Nat) : Prop := ar' = ar → (recsB recs).length ≤ (recsB recs').length ∧ ∀ p, p < (recsB recs).length → (recsB recs')[p]? = (recsB recs)[p]?
theorem keep_lay {s : DSt} {hd ar ar' q0 q : Nat} {recs recs' : List ByteArray} (h : Holds s hd ar recs) (ho : DOk s) (har : ar' ≤ 1) (hq : q ≤ arL s.n) (hov : Over recs recs' ar ar') (hlast : q = q0 ∨ (q - 1) * 64 < (recsB recs').length) :
    Keep s (layS s (4 + ar' * arL s.n) q0 q (recsB recs')) hd ar recs := by
  refine ⟨rfl, fun i => (clean_now h.clean i).symm, fun i l hp => ?_⟩
  have hd1 := h.hd1
  unfold layS at hp
  dsimp only at hp
  split at hp
  · rename_i hi
    injection hp with hp
    refine ⟨by omega, by omega, fun p hpl hip => ?_⟩
    have hfit := h.fits
    have hpL : p / 64 < arL s.n := by omega
    have hxL : i - (4 + ar' * arL s.n) < arL s.n := by omega
    have hx64 : (i - (4 + ar' * arL s.n)) * 64 < (recsB recs').length := by omega
    have hsame : ar' = ar := by
      have h1 := h.ar1
      rcases (show ar = 0 ∨ ar = 1 by omega) with e1 | e1
      · rcases (show ar' = 0 ∨ ar' = 1 by omega) with e2 | e2
        · omega
        · subst e1 e2; omega
      · rcases (show ar' = 0 ∨ ar' = 1 by omega) with e2 | e2
        · subst e1 e2; omega
        · omega
    obtain ⟨hle, hpre⟩ := hov hsame
    subst hsame
    have hx : i - (4 + ar' * arL s.n) = p / 64 := by omega
    rw [← hp, hx, ← hpre p hpl]
    unfold laid
    have hcl := chunk_len (recsB recs') (p / 64)
    rw [List.getElem?_append_left (by rw [hcl]; omega)]
    unfold chunk
    rw [List.getElem?_take, if_pos (by omega), List.getElem?_drop]
    congr 1
    omega
  · cases hp
theorem holds_lay {s : DSt} {hd ar ar' q0 q : Nat} {recs recs' : List ByteArray} (h : Holds s hd ar recs) (ho : DOk s) (har : ar' ≤ 1) (hq0 : q0 ≤ q) (hend : (recsB recs').length ≤ q * 64) (hlast : q = q0 ∨ (q - 1) * 64 < (recsB recs').length) (hst : q ≤ 1000) (hsz : ∀ r ∈ recs', r.size ≤ 20000) (hfit : (recsB recs').length ≤ 64 * arL s.n)
    (hold : ∀ p, p < q0 * 64 → p < (recsB recs').length → (s.now (4 + ar' * arL s.n + p / 64))[p % 64]? = (recsB recs')[p]?) :
    Holds (countsS (layS s (4 + ar' * arL s.n) q0 q (recsB recs')) (1 - hd) ([UInt8.ofNat ar'] ++ putB (recsB recs').length 4)) (1 - hd) ar' recs' := by
  obtain ⟨s0, e⟩ : ∃ s0 : DSt, s0 = { s with offAt := 0 } := ⟨_, rfl⟩
  have e1 : s0.n = s.n := by rw [e]
  have e2 : s0.kept = s.kept := by rw [e]
  have e3 : s0.pend = s.pend := by rw [e]
  have e4 : s0.offAt = 0 := by rw [e]
  have e5 : ∀ i, s0.now i = s.now i := fun i => by unfold DSt.now; rw [e2, e3]
  have hc0 : ∀ i, s0.pend i = none := fun i => by rw [e3]; exact h.clean i
  have hs0 : Holds s0 hd ar recs := h.congr e1 e5 hc0
  have ho0 : DOk s0 := ⟨by rw [e1]; exact ho.n_le, by rw [e2]; exact ho.kept_len, by rw [e1, e3]; exact ho.pend_len⟩
  have hl : Laid s0 (layS s0 (4 + ar' * arL s0.n) q0 q (recsB recs')) (4 + ar' * arL s0.n) q0 (recsB recs') :=
    ⟨rfl, e4, rfl, Nat.add_le_add_left (by omega) _, fun i => layS_laid hc0 rfl _ _ _ _ hq0 hend hlast i⟩
  have hn := holds_next hs0 ho0 har hl hsz (by rw [e1]; exact hfit) (fun p h1 h2 => by rw [e1, e5]; exact hold p h1 h2)
  refine hn.congr e1.symm (fun i => ?_) (fun _ => rfl)
  have e6 : ∀ i, (layS s0 (4 + ar' * arL s0.n) q0 q (recsB recs')).now i = (layS s (4 + ar' * arL s.n) q0 q (recsB recs')).now i := fun i => by rw [layS_now hc0, layS_now h.clean, e1, e5]
  rw [countsS_now, countsS_now, e6, e6]

theorem torn_one (c : UInt8) (x : UInt8) (old : List UInt8) (hlen : old.length = 64) (h : tornN c ≠ 0) : torn c (x :: old.drop 1) old = x :: old.drop 1 := by
  unfold torn
  obtain ⟨k, hk⟩ : ∃ k, tornN c = k + 1 := ⟨tornN c - 1, by omega⟩
  rw [hk, List.take_succ_cons]
  have : old.drop (k + 1) = (old.drop 1).drop k := by rw [List.drop_drop]; congr 1; omega
  rw [this, List.cons_append, List.take_append_drop]
theorem torn_none (c : UInt8) (new old : List UInt8) (h : tornN c = 0) : torn c new old = old := by
  unfold torn
  rw [h]
  rfl
/-- The power went within 'counts', behind an area was laid: what there was, or what there is to be. -/
theorem counts_off {s t t' : DSt} {hd ar ar' : Nat} {recs recs' : List ByteArray} {hdr : List UInt8} (hK : Keep s t hd ar recs) (hH : Holds s hd ar recs) (hs : DOk s) (hC : CountsOff t (1 - hd) hdr t') (ht : DOk t') (hN : Holds (countsS t (1 - hd) hdr) (1 - hd) ar' recs') (ch : List UInt8) :
    Holds (t'.crash ch) hd ar recs ∨ Holds (t'.crash ch) (1 - hd) ar' recs' := by
  have hd1 := hH.hd1
  cases hC with
  | a => exact .inl (hK.step.crash hH hs ht ch)
  | b => exact .inl (((hK.step.put hdr (by omega) (by omega) (by omega)).step).crash hH hs ht ch)
  | c =>
    have hcl := (hK.step.put (i := 1 + (1 - hd)) hdr (by omega) (by omega) (by omega)).step.clean hH
    exact .inl (hcl.congr rfl (fun i => crash_same (s := (t.step.put (1 + (1 - hd)) hdr).step.clean.step) (fun _ => rfl) ch i) (fun _ => rfl))
  | d =>
    have hcl := (hK.step.put (i := 1 + (1 - hd)) hdr (by omega) (by omega) (by omega)).step.clean hH
    generalize hu : (t.step.put (1 + (1 - hd)) hdr).step.clean = u at *
    have huc : ∀ i, u.pend i = none := by rw [← hu]; exact fun _ => rfl
    have hv : ((u.step.put 0 [UInt8.ofNat (1 - hd)]).step).pend = fun j => if j = 0 then some (UInt8.ofNat (1 - hd) :: (u.now 0).drop 1) else none := by
      funext j
      show (if j = 0 then some ([UInt8.ofNat (1 - hd)] ++ (u.step.now 0).drop 1) else u.pend j) = _
      rw [huc]
      rfl
    have h64 : (u.now 0).length = 64 := by
      have := ht.kept_len 0
      rw [clean_now huc]
      exact this
    have key : ∀ i, (((u.step.put 0 [UInt8.ofNat (1 - hd)]).step).crash ch).now i = if i = 0 then torn (ch.getD (((u.step.put 0 [UInt8.ofNat (1 - hd)]).step).rank 0) 0) (UInt8.ofNat (1 - hd) :: (u.now 0).drop 1) (u.now 0) else u.now i := by
      intro i
      rw [DSt.crash_now]
      unfold DSt.tornAt
      rw [hv]
      dsimp only
      by_cases hi : i = 0
      · subst hi
        rw [if_pos rfl, if_pos rfl, clean_now huc]
        rfl
      · rw [if_neg hi, if_neg hi, clean_now huc]
        rfl
    by_cases h0 : tornN (ch.getD (((u.step.put 0 [UInt8.ofNat (1 - hd)]).step).rank 0) 0) = 0
    · refine .inl (hcl.congr rfl (fun i => ?_) (fun _ => rfl))
      rw [key]
      split
      · rename_i hi
        subst hi
        rw [torn_none _ _ _ h0]
      · rfl
    · refine .inr (hN.congr ?_ (fun i => ?_) (fun _ => rfl))
      · rw [← hu]
        rfl
      · have hcn : (countsS t (1 - hd) hdr).now i = if i = 0 then UInt8.ofNat (1 - hd) :: (u.now 0).drop 1 else u.now i := by
          unfold countsS
          rw [hu, DSt.clean_now, DSt.step_now, DSt.put_now]
          by_cases hi : i = 0
          · subst hi
            rw [if_pos rfl, if_pos rfl]
            rfl
          · rw [if_neg hi, if_neg hi]
            rfl
        rw [key, hcn]
        split
        · rename_i hi
          exact torn_one _ _ _ h64 h0
        · rfl
theorem lay_off {s : DSt} {hd ar ar' q0 q : Nat} {recs recs' : List ByteArray} (h : Holds s hd ar recs) (ho : DOk s) (har : ar' ≤ 1) (hq : q ≤ arL s.n) (hov : Over recs recs' ar ar') (hlast : q = q0 ∨ (q - 1) * 64 < (recsB recs').length)
    (ht : DOk (layS s (4 + ar' * arL s.n) q0 q (recsB recs')).step) (ch : List UInt8) : Holds ((layS s (4 + ar' * arL s.n) q0 q (recsB recs')).step.crash ch) hd ar recs :=
  (keep_lay h ho har hq hov hlast).step.crash h ho ht ch
end Go.Proofs.YtiialjncdhhceaaGreat
