/- The journal lets an area's bytes count, where the power may go. -/
import Derived.Test.YtiialjncdhhceaaJrnLaysP
namespace Go.Proofs.Ytiialjncdhhceaa
open Go.RowKit
set_option linter.unusedVariables false
set_option linter.unusedSimpArgs false

/-- Where 'counts' stood when the power went. -/
inductive CountsOff (s : DSt) (oth : Nat) (hdr : List UInt8) : DSt → Prop
  | a : CountsOff s oth hdr s.step
  | b : CountsOff s oth hdr (s.step.put (1 + oth) hdr).step
  | c : CountsOff s oth hdr (s.step.put (1 + oth) hdr).step.clean.step
  | d : CountsOff s oth hdr ((s.step.put (1 + oth) hdr).step.clean.step.put 0 [UInt8.ofNat oth]).step

set_option maxHeartbeats 2000000 in
set_option maxRecDepth 100000 in
theorem counts_p (j d k m hd ar area : Nat) (A0 : Option Addr) (n0 c0 : Nat) (C : Option Addr) (nc cc : Nat) (br : Bool) (s : DSt) (A : Option Addr) (n c : Nat) (w : World) (hj : w.heap[j]? = some (.cells (jCells d hd ar A0 n0 c0 C nc cc br) 120 (0, 0)))
    (hjd : j ≠ d ∧ j ≠ k ∧ j ≠ m) (hD : IsDisk w d k m s) (hhd : hd ≤ 1) (har : area ≤ 1) (hn8 : 8 ≤ s.n) (hn : n ≤ 1000000) (hst : s.steps ≤ 1000000000) :
    Calls Try.prog 81 #[.pointer (some ⟨j, 0, none⟩), .int .i64 (area : Int), .slice A n c] w fun e w' => (e = .returned (.tuple #[]) ∧ IsDisk w' d k m (countsS s (1 - hd) ([UInt8.ofNat area] ++ putB n 4)) ∧
      w'.heap[j]? = some (.cells (jCells d (1 - hd) area A n c C nc cc br) 120 (0, 0)) ∧ Fr [j, d, k, m] w w' ∧ (countsS s (1 - hd) ([UInt8.ofNat area] ++ putB n 4)).off = false) ∨ (e = offE ∧ ∃ s', CountsOff s (1 - hd) ([UInt8.ofNat area] ++ putB n 4) s' ∧ IsDisk w' d k m s' ∧ Fr [d, k, m] w w') := by
  obtain ⟨oth, ho⟩ : ∃ oth, 1 - hd = oth := ⟨_, rfl⟩
  have hoi : (1 : Int) - (hd : Int) = (oth : Int) := by omega
  have ho1 : oth ≤ 1 := by omega
  rw [ho]
  clear ho
  have c1 : w.cell? ⟨j, 1, none⟩ = some (.int .i64 (hd : Int)) := cell_of_row _ _ 1 _ _ _ hj
  have c0' : w.cell? ⟨j, 0, none⟩ = some (.pointer (some ⟨d, 0, none⟩)) := cell_of_row _ _ 0 _ _ _ hj
  have hjl : j < w.heap.size := (Array.getElem?_eq_some_iff.1 hj).1
  have hlts := hD.lts
  have hload : ∀ w' : World, Fr [d, k, m] w w' → (Instr.loadAt 52 (.pointer (some ⟨j, 0, none⟩))).run Try.prog w' = _ := fun w' hf => load_cell 52 Try.underlying52 rfl (hf.cell c0' (by simp; omega))
  replace hload := hid hload
  obtain ⟨hdr, hhdr⟩ : ∃ hdr, [UInt8.ofNat area] ++ putB n 4 = hdr := ⟨_, rfl⟩
  have hhl : hdr.length = 5 := by rw [← hhdr, List.length_append, putB_length]; rfl
  unfold countsS
  rw [hhdr]
  obtain ⟨s1, hs1⟩ : ∃ s1, s1 = s.step.put (1 + oth) hdr := ⟨_, rfl⟩
  rw [← hs1]
  have q1 : s1.n = s.n ∧ s1.steps = s.steps + 1 := by rw [hs1]; exact ⟨rfl, rfl⟩
  obtain ⟨s2, hs2⟩ : ∃ s2, s2 = s1.step.clean := ⟨_, rfl⟩
  rw [← hs2]
  have q2 : s2.n = s.n ∧ s2.steps = s.steps + 2 := by rw [hs2]; exact ⟨q1.1, by show s1.steps + 1 = _; omega⟩
  obtain ⟨s3, hs3⟩ : ∃ s3, s3 = s2.step.put 0 [UInt8.ofNat oth] := ⟨_, rfl⟩
  rw [← hs3]
  have q3 : s3.n = s.n ∧ s3.steps = s.steps + 3 := by rw [hs3]; exact ⟨q2.1, by show s2.steps + 1 = _; omega⟩
  replace hs1 := hid hs1
  replace hs2 := hid hs2
  replace hs3 := hid hs3
  replace hhdr := hid hhdr
  go_enter Try.func81, Try.ntmps81
  go_wp2_with fail
  refine wp_region_textX (n0 := 14) (fun w' => Fr [d, k, m] w w') [3] [] [] [(9, []), (4, []), (1, [])] rfl (by kernel_rfl) (by kernel_rfl) (by kernel_rfl) (by kernel_rfl) (Fr.refl _ w).drew ?_
  intro K hK
  simp only [cutAt, List.take_succ_cons, List.take_zero, List.drop_succ_cons, List.drop_zero, List.take_nil, List.drop_nil, wpSegs, List.map_cons, List.map_nil, List.nil_append, List.cons_append]
  have c0d : w.drew.cell? ⟨j, 0, none⟩ = _ := c0'
  go_wp2_with fail
  have hfa : Fr [] w (w.alloc (.cells #[.int .u8 ((area : Int))] 5)).drew := ((Fr.refl [] w).alloc _).drew
  have hoa := (ob_lit1 w w.heap.size (Nat.le_refl _) (UInt8.ofNat area) ((area : Int)) (by rw [UInt8.toNat_ofNat']; omega)).kept (Fr.refl [] _).drew (by simp)
  generalize (w.alloc (.cells #[.int .u8 (area : Int)] 5)).drew = w1 at *
  refine ⟨fun w' => Fr [d, k, m] w w', fun _ h => h, hfa.mono (by simp), ?_⟩
  go_wp2_with fail
  refine (Put_c w.heap.size (.slice (some ⟨w.heap.size, 0, none⟩) 1 1) [UInt8.ofNat area] n 4 4 (by omega) (by decide) w1 hoa hfa.size (by simp)).mono ?_
  rintro e w2 ⟨v2, rfl, ho2, hf2, hn2⟩
  rw [hhdr.out] at ho2
  obtain ⟨A2, cp2, rfl, hc2, hr2, hz2⟩ := ho2.form
  have hlt2 := ho2.lt
  rw [hhl] at hr2 hc2
  rw [hhl]
  have hf02 : Fr [] w w2 := hfa.past hf2 (by intro z hz; simp [Value.ownBlock] at hz; omega)
  go_wp2_with fail
  refine ⟨fun w' => Fr [d, k, m] w w', fun _ h => h, hf02.mono (by simp), ?_⟩
  go_wp2_with fail
  have hlow : ∀ z, A2 = some z → w.heap.size ≤ z.block := fun z hz => (hlt2 _ (hz2 z hz).1).1
  refine (Write_p d k m s w2 (1 + oth) A2 5 cp2 hdr (hD.fr hf02) hr2 (by intro _ z hz; have := hlow z hz; omega) (by omega) (by omega) (by omega) _ (by omega)).mono ?_
  rw [← hs1.out]
  rintro e w3 ⟨hf3, hcase⟩
  have hS3 : Fr [d, k, m] w w3 := (hf02.mono (by simp)).trans hf3 (by simp)
  rcases hcase with ⟨ho3, rfl, hD3⟩ | ⟨ho3, rfl, hD3⟩
  rotate_left
  · go_wp2_with fail
    refine ⟨fun w' => Fr [d, k, m] w w', fun _ h => h, hS3, ?_⟩
    go_wp2_with fail
    refine ⟨trivial, hK _ _ (by kernel_rfl) ⟨fun o ho => ?_, trivial⟩ ?_⟩
    · cases ho
      exact gives_load rfl (fun w' h => hload.out w' h)
    simp only [List.drop_succ_cons, List.drop_zero]
    go_wp2_with fail
    refine (must_off w3).mono ?_
    rintro e w9 ⟨rfl, rfl⟩
    unfold offE
    go_wp2_with fail
    exact ⟨rfl, .inr ⟨rfl, _, .a, hD3, hS3⟩⟩
  go_wp2_with fail
  refine ⟨fun w' => Fr [d, k, m] w w', fun _ h => h, hS3, ?_⟩
  go_wp2_with fail
  refine ⟨trivial, hK _ _ (by kernel_rfl) ⟨fun o ho => ?_, trivial⟩ ?_⟩
  · cases ho
    exact gives_load rfl (fun w' h => hload.out w' h)
  simp only [List.drop_succ_cons, List.drop_zero]
  go_wp2_with fail
  refine (must_ok w3).mono ?_
  rintro e w4 ⟨rfl, rfl⟩
  have c03 := hS3.cell c0' (by simp; omega)
  have hj3 := (hS3.block j hjl (by simp; omega)).trans hj
  clear c0d c1
  go_wp2_with fail
  refine (Flush_p d k m s1 w3 hD3 (by omega)).mono ?_
  rw [← hs2.out]
  rintro e w4 ⟨hf4, hcase⟩
  have hS4 : Fr [d, k, m] w w4 := hS3.trans hf4 (by simp)
  rcases hcase with ⟨ho4, rfl, hD4⟩ | ⟨ho4, rfl, hD4⟩
  rotate_left
  · go_wp2_with fail
    refine (must_off w4).mono ?_
    rintro e w9 ⟨rfl, rfl⟩
    unfold offE
    go_wp2_with fail
    exact ⟨rfl, .inr ⟨rfl, _, hs1.out ▸ .b, hD4, hS4⟩⟩
  go_wp2_with fail
  refine (must_ok w4).mono ?_
  rintro e w5 ⟨rfl, rfl⟩
  have c04 := hf4.cell c03 (by simp; omega)
  have hz4 := hS4.size
  go_wp2_with fail
  have hlts4 := hD4.lts
  have hoa5 := (ob_lit1 w4 w4.heap.size (Nat.le_refl _) (UInt8.ofNat oth) (oth : Int) (by rw [UInt8.toNat_ofNat']; omega))
  obtain ⟨A5, c5, hv5, hc5, hr5, hz5⟩ := hoa5.form
  injection hv5 with hA5 hn5 hc5'
  subst hA5 hc5'
  clear hn5 hc5 hz5
  have hD5 := hD4.fr ((Fr.refl [] w4).alloc (.cells #[.int .u8 (oth : Int)] 5))
  have hS5 : Fr [d, k, m] w (w4.alloc (.cells #[.int .u8 (oth : Int)] 5)) := hS4.alloc _
  have c05 := ((Fr.refl [] w4).alloc (.cells #[.int .u8 (oth : Int)] 5)).cell c04 (by simp)
  generalize w4.alloc (.cells #[.int .u8 (oth : Int)] 5) = w5 at *
  refine (Write_p d k m s2 w5 0 (some ⟨w4.heap.size, 0, none⟩) 1 1 [UInt8.ofNat oth] hD5 hr5 (by intro _ z hz; cases hz; simp only; omega) (by omega) (by omega) (by decide) 0 rfl).mono ?_
  rw [← hs3.out]
  rintro e w6 ⟨hf6, hcase⟩
  have hS6 : Fr [d, k, m] w w6 := hS5.trans hf6 (by simp)
  rcases hcase with ⟨ho6, rfl, hD6⟩ | ⟨ho6, rfl, hD6⟩
  rotate_left
  · go_wp2_with fail
    refine (must_off w6).mono ?_
    rintro e w9 ⟨rfl, rfl⟩
    unfold offE
    go_wp2_with fail
    exact ⟨rfl, .inr ⟨rfl, _, hs2.out ▸ hs1.out ▸ .c, hD6, hS6⟩⟩
  have c06 := hf6.cell c05 (by simp; omega)
  go_wp2_with fail
  refine (must_ok w6).mono ?_
  rintro e w7 ⟨rfl, rfl⟩
  clear c03 c04 c05 hoa5 hr5
  go_wp2_with fail
  refine (Flush_p d k m s3 w6 hD6 (by omega)).mono ?_
  rintro e w7 ⟨hf7, hcase⟩
  have hS7 : Fr [d, k, m] w w7 := hS6.trans hf7 (by simp)
  rcases hcase with ⟨ho7, rfl, hD7⟩ | ⟨ho7, rfl, hD7⟩
  rotate_left
  · go_wp2_with fail
    refine (must_off w7).mono ?_
    rintro e w9 ⟨rfl, rfl⟩
    unfold offE
    go_wp2_with fail
    exact ⟨rfl, .inr ⟨rfl, _, hs3.out ▸ hs2.out ▸ hs1.out ▸ .d, hD7, hS7⟩⟩
  go_wp2_with fail
  refine (must_ok w7).mono ?_
  rintro e w8 ⟨rfl, rfl⟩
  have hj7 := (hS7.block j hjl (by simp; omega)).trans hj
  have e1 : w7.cell? ⟨j, 1, none⟩ = some (.int .i64 (hd : Int)) := cell_of_row _ _ 1 _ _ _ hj7
  have e2 : w7.cell? ⟨j, 2, none⟩ = some (.int .i64 (ar : Int)) := cell_of_row _ _ 2 _ _ _ hj7
  have e3 : w7.cell? ⟨j, 3, none⟩ = some (.slice A0 n0 c0) := cell_of_row _ _ 3 _ _ _ hj7
  have z1 : ∀ q, w7.frozen? ⟨j, q, none⟩ = false := fun q => frozen_of_row _ _ q _ _ hj7
  have b1 := heap_setCell_same w7 j 1 _ _ (.int .i64 (oth : Int)) hj7
  have b2 := heap_setCell_same _ j 2 _ _ (.int .i64 (area : Int)) b1
  have b3 := heap_setCell_same _ j 3 _ _ (.slice A n c) b2
  have hf8 : Fr [j] w7 (((w7.setCell ⟨j, 1, none⟩ (.int .i64 (oth : Int))).setCell ⟨j, 2, none⟩ (.int .i64 (area : Int))).setCell ⟨j, 3, none⟩ (.slice A n c)) := (((Fr.refl [j] w7).setCell _ (.inl (by simp)) _).setCell _ (.inl (by simp)) _).setCell _ (.inl (by simp)) _
  replace b1 := hid b1
  replace b2 := hid b2
  replace b3 := hid b3
  clear hj7 c06 hj3
  go_wp2_with fail
  go_end0
  exact .inl ⟨rfl, hD7.away hf8 (by simp; omega), b3.out.trans rfl, (hS7.mono (by simp)).trans hf8 (by simp), ho7⟩

end Go.Proofs.Ytiialjncdhhceaa
