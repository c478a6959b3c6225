/- What follows is 2 texts, one behind the other: JrnLays, JrnCounts. -/
import Derived.Test.YtiialjncdhhceaaGreatRunJrnCaught
/- The journal lays an area's bytes. -/
namespace Go.Proofs.YtiialjncdhhceaaGreat
open Go.RowKit
set_option linter.unusedVariables false
set_option linter.unusedSimpArgs false

def chunk (data : List UInt8) (q : Nat) : List UInt8 := (data.drop (q * 64)).take 64
theorem chunk_len (data : List UInt8) (q : Nat) : (chunk data q).length = min 64 (data.length - q * 64) := by
  unfold chunk
  rw [List.length_take, List.length_drop]
/-- A disk's state behind an area's bytes were laid, sectors q0 and above. -/
structure Laid (s s' : DSt) (base q0 : Nat) (data : List UInt8) : Prop where
  n : s'.n = s.n
  offAt : s'.offAt = 0
  kept : s'.kept = s.kept
  steps : s'.steps ≤ s.steps + 1000
  now : ∀ i, s'.now i = if base + q0 ≤ i ∧ (i - base) * 64 < data.length then laid (chunk data (i - base)) (s.now i) else s.now i

set_option maxHeartbeats 1000000 in
set_option maxRecDepth 100000 in
theorem lays_c (j d k m area frm : Nat) (s : DSt) (A : Option Addr) (n c : Nat) (data : List UInt8) (w : World) (hj : w.cell? ⟨j, 0, none⟩ = some (.pointer (some ⟨d, 0, none⟩))) (hjd : j ≠ d ∧ j ≠ k ∧ j ≠ m) (hD : IsDisk w d k m s) (hb : RB w A n data) (hnc : n ≤ c)
    (hA : n ≠ 0 → ∀ a, A = some a → a.block ≠ d ∧ a.block ≠ m) (har : area ≤ 1) (hn8 : 8 ≤ s.n) (hlen : n ≤ 64 * arL s.n) (hfr : frm ≤ n) (hoff : s.offAt = 0) (hst : s.steps ≤ 1000000000) :
    Calls Tryz.prog 68 #[.pointer (some ⟨j, 0, none⟩), .int .i64 (area : Int), .slice A n c, .int .i64 (frm : Int)] w fun e w' => e = .returned (.tuple #[]) ∧ ∃ s', IsDisk w' d k m s' ∧ Laid s s' (4 + area * arL s.n) (frm / 64) data ∧ Fr [d, m] w w' := by
  have hnle := hD.ok.n_le
  have hln := hb.1
  obtain ⟨L, hL⟩ : ∃ L, arL s.n = L := ⟨_, rfl⟩
  have hL2 : 2 * L + 8 ≤ s.n ∧ L ≤ 1000 := by rw [← hL]; unfold arL; omega
  rw [hL] at hlen ⊢
  obtain ⟨q0, hq0⟩ : ∃ q0, frm / 64 = q0 := ⟨_, rfl⟩
  rw [hq0]
  have hq0i : (frm : Int) / 64 = (q0 : Int) := by omega
  have hq0b : q0 * 64 ≤ n ∧ q0 ≤ L := by omega
  obtain ⟨M, hM⟩ : ∃ M, area * L = M := ⟨_, rfl⟩
  have hMi : (area : Int) * (L : Int) = (M : Int) := by rw [← hM, Int.natCast_mul]
  have hM2 : M ≤ L := by
    rw [← hM]
    rcases (show area = 0 ∨ area = 1 by omega) with rfl | rfl
    · omega
    · omega
  rw [hM]
  replace hM := hid hM
  replace hL := hid hL
  replace hq0 := hid hq0
  go_enter Tryz.func68, Tryz.ntmps68
  go_wp2_with fail
  go_loopw [8] (fun qv wr => ∃ (q : Nat) (s' : DSt), q0 ≤ q ∧ q ≤ L ∧ qv = .int .i64 q ∧ IsDisk wr d k m s' ∧ s'.n = s.n ∧ s'.offAt = 0 ∧ s'.kept = s.kept ∧ s'.steps = s.steps + (q - q0) ∧ (q = q0 ∨ (q - 1) * 64 < n) ∧ Fr [d, m] w wr ∧
      ∀ i, s'.now i = if 4 + M + q0 ≤ i ∧ i < 4 + M + q then laid (chunk data (i - (4 + M))) (s.now i) else s.now i) (fun qv _ => L - (intOf qv).toNat)
  case atStart => exact ⟨q0, s, Nat.le_refl _, hq0b.2, rfl, hD, rfl, hoff, rfl, by omega, .inl rfl, Fr.refl _ _, fun i => by rw [if_neg (by omega)]⟩
  case round =>
    obtain ⟨q, s', hq1, hq2, rfl, hDr, hsn, hso, hsk, hss, hqq, hfw, hnow⟩ := hrel
    have hjr := hfw.cell hj (by simp; omega)
    by_cases hqn : q * 64 < n
    · have hqL : q < L := by omega
      have hbr := hb.kept' hfw (fun h0 a ha => by have := hA h0 a ha; simp; omega)
      obtain ⟨bb, off, rfl, hc⟩ : ∃ bb off, A = some ⟨bb, off, none⟩ ∧ ∀ j (h : j < data.length), wr.cell? ⟨bb, off + j, none⟩ = some (.int .u8 (data[j].toNat : Int)) := by
        rcases hbr.2.2 with h0 | h0
        · omega
        · exact h0
      have hblk := hA (by omega) _ rfl
      have hsub : RB wr (some ⟨bb, off + q * 64, none⟩) (min (q * 64 + 64) n - q * 64) (chunk data q) := by
        refine ⟨by rw [chunk_len]; omega, by have := hb.2.1; omega, .inr ⟨bb, off + q * 64, rfl, fun z hz => ?_⟩⟩
        rw [chunk_len] at hz
        have := hc (q * 64 + z) (by omega)
        rw [Nat.add_assoc, this]
        simp only [chunk, List.getElem_take, List.getElem_drop]
      have hqi : (q : Int) * 64 < (n : Int) := by omega
      have hqi2 : (q : Int) * 64 + 64 ≤ 64000 := by omega
      have hne : ¬ c = q * 64 := by omega
      have hmin0 : (q : Int) * 64 ≤ min ((q : Int) * 64 + 64) (n : Int) := by omega
      have hmin1 : min ((q : Int) * 64 + 64) (n : Int) ≤ (c : Int) := by omega
      replace hnow := hid hnow
      replace hc := hid hc
      go_wp2_with fail
      have hload : ∀ w' : World, Fr [d, m] wr w' → (Instr.loadAt 27 (.pointer (some ⟨j, 0, none⟩))).run Tryz.prog w' = _ := fun w' hf => load_cell 27 Tryz.underlying27 rfl (hf.cell hjr (by simp; omega))
      replace hload := hid hload
      refine wp_region_textS' (fun w' => Fr [d, m] wr w') [3] [] [] [(7, []), (15, []), (1, [])] (by kernel_rfl) (by kernel_rfl) (by kernel_rfl) (Fr.refl _ wr).drew ?_
      intro K hK
      simp only [cutAt, List.take_succ_cons, List.take_zero, List.drop_succ_cons, List.drop_zero, List.take_nil, List.drop_nil, wpSegs, List.map_cons, List.map_nil, List.nil_append, List.cons_append]
      have hfd : Fr [] wr wr.drew := (Fr.refl [] wr).drew
      have hjd' : wr.drew.cell? ⟨j, 0, none⟩ = _ := hjr
      go_wp2_with fail
      refine (length_c j d k m s' wr.drew hjd' (hDr.fr hfd)).mono ?_
      rw [hsn, hL.out]
      rintro e w2 ⟨rfl, rfl⟩
      go_wp2_with fail
      refine ⟨fun w' => Fr [d, m] wr w', fun _ h => h, (Fr.refl _ wr).drew, ?_⟩
      go_wp2_with fail
      have hmm : (min ((q : Int) * 64 + 64) (n : Int)).toNat = min (q * 64 + 64) n := by omega
      rw [hmm]
      have hlts := hDr.lts
      have hsubd : RB wr.drew (some ⟨bb, off + q * 64, none⟩) (min (q * 64 + 64) n - q * 64) (chunk data q) := hsub.below hfd.all
      refine (Write_ok d k m s' (4 + M + q) (some ⟨bb, off + q * 64, none⟩) _ _ (chunk data q) wr.drew (hDr.fr hfd) hsubd (by intro _ a ha; cases ha; exact hblk) (by omega) hso (by omega) (by omega) _ (by omega)).mono ?_
      rintro e w3 ⟨rfl, hD3, hf3⟩
      have hS3 : Fr [d, m] wr w3 := (Fr.refl _ wr).drew.trans hf3 (by simp)
      go_wp2_with fail
      refine ⟨fun w' => Fr [d, m] wr w', fun _ h => h, hS3, ?_⟩
      go_wp2_with fail
      refine (must_ok w3).mono ?_
      rintro e w4 ⟨rfl, rfl⟩
      go_wp2_with fail
      refine ⟨fun w' => Fr [d, m] wr w', fun _ h => h, hS3, ?_⟩
      go_wp2_with fail
      refine ⟨trivial, hK _ _ (by kernel_rfl) ⟨fun o ho => ?_, trivial⟩ ?_⟩
      · cases ho
        exact gives_load rfl (fun w' h => hload.out w' h)
      go_wp2_with fail
      try go_frame
      go_roundw
      case rel =>
        refine ⟨q + 1, s'.step.put (4 + M + q) (chunk data q), by omega, by omega, rfl, hD3, hsn, hso, hsk, by show s'.steps + 1 = _; omega, .inr (by rw [Nat.add_sub_cancel]; exact hqn), hfw.trans hS3 (by simp), fun i => ?_⟩
        rw [DSt.put_now, DSt.step_now, DSt.step_now, hnow.out]
        by_cases hiq : i = 4 + M + q
        · subst hiq
          rw [if_pos rfl, if_neg (by omega), if_pos (by omega), show 4 + M + q - (4 + M) = q by omega]
          rfl
        · rw [if_neg hiq, hnow.out]
          by_cases h1 : 4 + M + q0 ≤ i ∧ i < 4 + M + q
          · rw [if_pos h1, if_pos (by omega)]
          · rw [if_neg h1, if_neg (by omega)]
      case measure => simp [intOf]; omega
    · have hqi : ¬ (q : Int) * 64 < (n : Int) := by omega
      replace hnow := hid hnow
      go_wp2_with fail
      go_end0
      refine ⟨rfl, s', hDr, ⟨hsn, hso, hsk, by omega, fun i => ?_⟩, hfw⟩
      rw [hnow.out, hln]
      by_cases h1 : 4 + M + q0 ≤ i ∧ i < 4 + M + q
      · rw [if_pos h1, if_pos (by omega)]
      · rw [if_neg h1, if_neg (by omega)]
end Go.Proofs.YtiialjncdhhceaaGreat

/- The journal lets an area's bytes count. -/
namespace Go.Proofs.YtiialjncdhhceaaGreat
open Go.RowKit
set_option linter.unusedVariables false
set_option linter.unusedSimpArgs false

/-- A literal of one byte is a row of its own. -/
theorem ob_lit1 (W : World) (base : Nat) (hB : base ≤ W.heap.size) (x : UInt8) (y : Int) (hy : y = (x.toNat : Int)) : OB (W.alloc (.cells #[.int .u8 y] 5)) base 5 (.slice (some ⟨W.heap.size, 0, none⟩) 1 1) [x] := by
  subst hy
  refine ⟨rfl, .inr ⟨W.heap.size, 1, #[encB x], rfl, hB, heap_alloc_new W _, Nat.le_refl _, by simp [maxLen], rfl, rfl⟩⟩
/-- What 'counts' does to a disk whose power is on. -/
def countsS (s : DSt) (oth : Nat) (hdr : List UInt8) : DSt := ((s.step.put (1 + oth) hdr).step.clean.step.put 0 [UInt8.ofNat oth]).step.clean

set_option maxHeartbeats 2000000 in
set_option maxRecDepth 100000 in
theorem counts_c (j d k m hd ar area : Nat) (A0 : Option Addr) (n0 c0 : Nat) (C : Option Addr) (nc cc : Nat) (br : Bool) (s : DSt) (A : Option Addr) (n c : Nat) (w : World) (hj : w.heap[j]? = some (.cells (jCells d hd ar A0 n0 c0 C nc cc br) 85 (0, 0)))
    (hjd : j ≠ d ∧ j ≠ k ∧ j ≠ m) (hD : IsDisk w d k m s) (hhd : hd ≤ 1) (har : area ≤ 1) (hn8 : 8 ≤ s.n) (hn : n ≤ 1000000) (hst : s.steps ≤ 1000000000) (hoff : s.offAt = 0) :
    Calls Tryz.prog 69 #[.pointer (some ⟨j, 0, none⟩), .int .i64 (area : Int), .slice A n c] w fun e w' => e = .returned (.tuple #[]) ∧ IsDisk w' d k m (countsS s (1 - hd) ([UInt8.ofNat area] ++ putB n 4)) ∧
      w'.heap[j]? = some (.cells (jCells d (1 - hd) area A n c C nc cc br) 85 (0, 0)) ∧ Fr [j, d, k, m] w w' := by
  obtain ⟨oth, ho⟩ : ∃ oth, 1 - hd = oth := ⟨_, rfl⟩
  have hoi : (1 : Int) - (hd : Int) = (oth : Int) := by omega
  have ho1 : oth ≤ 1 := by omega
  rw [ho]
  clear ho
  have c1 : w.cell? ⟨j, 1, none⟩ = some (.int .i64 (hd : Int)) := cell_of_row _ _ 1 _ _ _ hj
  have c0' : w.cell? ⟨j, 0, none⟩ = some (.pointer (some ⟨d, 0, none⟩)) := cell_of_row _ _ 0 _ _ _ hj
  have hjl : j < w.heap.size := (Array.getElem?_eq_some_iff.1 hj).1
  have hlts := hD.lts
  have hload : ∀ w' : World, Fr [d, k, m] w w' → (Instr.loadAt 27 (.pointer (some ⟨j, 0, none⟩))).run Tryz.prog w' = _ := fun w' hf => load_cell 27 Tryz.underlying27 rfl (hf.cell c0' (by simp; omega))
  replace hload := hid hload
  obtain ⟨hdr, hhdr⟩ : ∃ hdr, [UInt8.ofNat area] ++ putB n 4 = hdr := ⟨_, rfl⟩
  have hhl : hdr.length = 5 := by rw [← hhdr, List.length_append, putB_length]; rfl
  unfold countsS
  rw [hhdr]
  obtain ⟨s1, hs1⟩ : ∃ s1, s1 = s.step.put (1 + oth) hdr := ⟨_, rfl⟩
  rw [← hs1]
  have q1 : s1.offAt = 0 ∧ s1.n = s.n ∧ s1.steps = s.steps + 1 := by rw [hs1]; exact ⟨hoff, rfl, rfl⟩
  obtain ⟨s2, hs2⟩ : ∃ s2, s2 = s1.step.clean := ⟨_, rfl⟩
  rw [← hs2]
  have q2 : s2.offAt = 0 ∧ s2.n = s.n ∧ s2.steps = s.steps + 2 := by rw [hs2]; exact ⟨q1.1, q1.2.1, by show s1.steps + 1 = _; omega⟩
  obtain ⟨s3, hs3⟩ : ∃ s3, s3 = s2.step.put 0 [UInt8.ofNat oth] := ⟨_, rfl⟩
  rw [← hs3]
  have q3 : s3.offAt = 0 ∧ s3.n = s.n ∧ s3.steps = s.steps + 3 := by rw [hs3]; exact ⟨q2.1, q2.2.1, by show s2.steps + 1 = _; omega⟩
  replace hs1 := hid hs1
  replace hs2 := hid hs2
  replace hs3 := hid hs3
  replace hhdr := hid hhdr
  go_enter Tryz.func69, Tryz.ntmps69
  go_wp2_with fail
  refine wp_region_textS' (fun w' => Fr [d, k, m] w w') [3] [] [] [(9, []), (4, []), (1, []), (1, [])] (by kernel_rfl) (by kernel_rfl) (by kernel_rfl) (Fr.refl _ w).drew ?_
  intro K hK
  simp only [cutAt, List.take_succ_cons, List.take_zero, List.drop_succ_cons, List.drop_zero, List.take_nil, List.drop_nil, wpSegs, List.map_cons, List.map_nil, List.nil_append, List.cons_append]
  have c0d : w.drew.cell? ⟨j, 0, none⟩ = _ := c0'
  go_wp2_with fail
  have hfa : Fr [] w (w.alloc (.cells #[.int .u8 ((area : Int))] 5)).drew := ((Fr.refl [] w).alloc _).drew
  have hoa := (ob_lit1 w w.heap.size (Nat.le_refl _) (UInt8.ofNat area) ((area : Int)) (by rw [UInt8.toNat_ofNat']; omega)).kept (Fr.refl [] _).drew (by simp)
  generalize (w.alloc (.cells #[.int .u8 (area : Int)] 5)).drew = w1 at *
  refine ⟨fun w' => Fr [d, k, m] w w', fun _ h => h, hfa.mono (by simp), ?_⟩
  go_wp2_with fail
  refine (Put_c w.heap.size (.slice (some ⟨w.heap.size, 0, none⟩) 1 1) [UInt8.ofNat area] n 4 4 (by omega) (by decide) w1 hoa hfa.size (by simp)).mono ?_
  rintro e w2 ⟨v2, rfl, ho2, hf2, hn2⟩
  rw [hhdr.out] at ho2
  obtain ⟨A2, cp2, rfl, hc2, hr2, hz2⟩ := ho2.form
  have hlt2 := ho2.lt
  rw [hhl] at hr2 hc2
  rw [hhl]
  have hf02 : Fr [] w w2 := hfa.past hf2 (by intro z hz; simp [Value.ownBlock] at hz; omega)
  go_wp2_with fail
  refine ⟨fun w' => Fr [d, k, m] w w', fun _ h => h, hf02.mono (by simp), ?_⟩
  go_wp2_with fail
  have hlow : ∀ z, A2 = some z → w.heap.size ≤ z.block := fun z hz => (hlt2 _ (hz2 z hz).1).1
  refine (Write_ok d k m s (1 + oth) A2 5 cp2 hdr w2 (hD.fr hf02) hr2 (by intro _ z hz; have := hlow z hz; omega) (by omega) hoff (by omega) (by omega) _ (by omega)).mono ?_
  rw [← hs1.out]
  rintro e w3 ⟨rfl, hD3, hf3⟩
  have hS3 : Fr [d, k, m] w w3 := (hf02.mono (by simp)).trans hf3 (by simp)
  go_wp2_with fail
  refine ⟨fun w' => Fr [d, k, m] w w', fun _ h => h, hS3, ?_⟩
  go_wp2_with fail
  refine (must_ok w3).mono ?_
  rintro e w4 ⟨rfl, rfl⟩
  go_wp2_with fail
  refine ⟨fun w' => Fr [d, k, m] w w', fun _ h => h, hS3, ?_⟩
  go_wp2_with fail
  refine ⟨trivial, hK _ _ (by kernel_rfl) ⟨fun o ho => ?_, trivial⟩ ?_⟩
  · cases ho
    exact gives_load rfl (fun w' h => hload.out w' h)
  have c03 := hS3.cell c0' (by simp; omega)
  have hj3 := (hS3.block j hjl (by simp; omega)).trans hj
  clear c0d c1
  go_wp2_with fail
  refine (Flush_ok d k m s1 w3 hD3 (by omega) q1.1).mono ?_
  rw [← hs2.out]
  rintro e w4 ⟨rfl, hD4, hf4⟩
  have hS4 : Fr [d, k, m] w w4 := hS3.trans hf4 (by simp)
  go_wp2_with fail
  refine (must_ok w4).mono ?_
  rintro e w5 ⟨rfl, rfl⟩
  have c04 := hf4.cell c03 (by simp; omega)
  have hz4 := hS4.size
  go_wp2_with fail
  have hlts4 := hD4.lts
  have hoa5 := (ob_lit1 w4 w4.heap.size (Nat.le_refl _) (UInt8.ofNat oth) (oth : Int) (by rw [UInt8.toNat_ofNat']; omega))
  obtain ⟨A5, c5, hv5, hc5, hr5, hz5⟩ := hoa5.form
  injection hv5 with hA5 hn5 hc5'
  subst hA5 hc5'
  clear hn5 hc5 hz5
  have hD5 := hD4.fr ((Fr.refl [] w4).alloc (.cells #[.int .u8 (oth : Int)] 5))
  have hS5 : Fr [d, k, m] w (w4.alloc (.cells #[.int .u8 (oth : Int)] 5)) := hS4.alloc _
  have c05 := ((Fr.refl [] w4).alloc (.cells #[.int .u8 (oth : Int)] 5)).cell c04 (by simp)
  generalize w4.alloc (.cells #[.int .u8 (oth : Int)] 5) = w5 at *
  refine (Write_ok d k m s2 0 (some ⟨w4.heap.size, 0, none⟩) 1 1 [UInt8.ofNat oth] w5 hD5 hr5 (by intro _ z hz; cases hz; simp only; omega) (by omega) q2.1 (by omega) (by decide) 0 rfl).mono ?_
  rw [← hs3.out]
  rintro e w6 ⟨rfl, hD6, hf6⟩
  have hS6 : Fr [d, k, m] w w6 := hS5.trans hf6 (by simp)
  have c06 := hf6.cell c05 (by simp; omega)
  go_wp2_with fail
  refine (must_ok w6).mono ?_
  rintro e w7 ⟨rfl, rfl⟩
  clear c03 c04 c05 hoa5 hr5
  go_wp2_with fail
  refine (Flush_ok d k m s3 w6 hD6 (by omega) q3.1).mono ?_
  rintro e w7 ⟨rfl, hD7, hf7⟩
  have hS7 : Fr [d, k, m] w w7 := hS6.trans hf7 (by simp)
  go_wp2_with fail
  refine (must_ok w7).mono ?_
  rintro e w8 ⟨rfl, rfl⟩
  have hj7 := (hS7.block j hjl (by simp; omega)).trans hj
  have e1 : w7.cell? ⟨j, 1, none⟩ = some (.int .i64 (hd : Int)) := cell_of_row _ _ 1 _ _ _ hj7
  have e2 : w7.cell? ⟨j, 2, none⟩ = some (.int .i64 (ar : Int)) := cell_of_row _ _ 2 _ _ _ hj7
  have e3 : w7.cell? ⟨j, 3, none⟩ = some (.slice A0 n0 c0) := cell_of_row _ _ 3 _ _ _ hj7
  have z1 : ∀ q, w7.frozen? ⟨j, q, none⟩ = false := fun q => frozen_of_row _ _ q _ _ hj7
  have b1 := heap_setCell_same w7 j 1 _ _ (.int .i64 (oth : Int)) hj7
  have b2 := heap_setCell_same _ j 2 _ _ (.int .i64 (area : Int)) b1
  have b3 := heap_setCell_same _ j 3 _ _ (.slice A n c) b2
  have hf8 : Fr [j] w7 (((w7.setCell ⟨j, 1, none⟩ (.int .i64 (oth : Int))).setCell ⟨j, 2, none⟩ (.int .i64 (area : Int))).setCell ⟨j, 3, none⟩ (.slice A n c)) := (((Fr.refl [j] w7).setCell _ (.inl (by simp)) _).setCell _ (.inl (by simp)) _).setCell _ (.inl (by simp)) _
  replace b1 := hid b1
  replace b2 := hid b2
  replace b3 := hid b3
  clear hj7 c06 hj3
  go_wp2_with fail
  go_end0
  exact ⟨rfl, hD7.away hf8 (by simp; omega), b3.out.trans rfl, (hS7.mono (by simp)).trans hf8 (by simp)⟩
end Go.Proofs.YtiialjncdhhceaaGreat
