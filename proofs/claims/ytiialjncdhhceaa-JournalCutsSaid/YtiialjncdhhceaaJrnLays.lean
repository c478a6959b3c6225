/- The journal lays an area's bytes. -/
import Derived.Test.YtiialjncdhhceaaJrnCaught
namespace Go.Proofs.Ytiialjncdhhceaa
open Go.RowKit
set_option linter.unusedVariables false
set_option linter.unusedSimpArgs false

def chunk (data : List UInt8) (q : Nat) : List UInt8 := (data.drop (q * 64)).take 64
theorem chunk_len (data : List UInt8) (q : Nat) : (chunk data q).length = min 64 (data.length - q * 64) := by
  unfold chunk
  rw [List.length_take, List.length_drop]
/-- A disk's state behind an area's bytes were laid, sectors q0 and above. -/
structure Laid (s s' : DSt) (base q0 : Nat) (data : List UInt8) : Prop where
  n : s'.n = s.n
  offAt : s'.offAt = 0
  kept : s'.kept = s.kept
  steps : s'.steps ≤ s.steps + 1000
  now : ∀ i, s'.now i = if base + q0 ≤ i ∧ (i - base) * 64 < data.length then laid (chunk data (i - base)) (s.now i) else s.now i

set_option maxHeartbeats 1000000 in
set_option maxRecDepth 100000 in
theorem lays_c (j d k m area frm : Nat) (s : DSt) (A : Option Addr) (n c : Nat) (data : List UInt8) (w : World) (hj : w.cell? ⟨j, 0, none⟩ = some (.pointer (some ⟨d, 0, none⟩))) (hjd : j ≠ d ∧ j ≠ k ∧ j ≠ m) (hD : IsDisk w d k m s) (hb : RB w A n data) (hnc : n ≤ c)
    (hA : n ≠ 0 → ∀ a, A = some a → a.block ≠ d ∧ a.block ≠ m) (har : area ≤ 1) (hn8 : 8 ≤ s.n) (hlen : n ≤ 64 * arL s.n) (hfr : frm ≤ n) (hoff : s.offAt = 0) (hst : s.steps ≤ 1000000000) :
    Calls Try.prog 80 #[.pointer (some ⟨j, 0, none⟩), .int .i64 (area : Int), .slice A n c, .int .i64 (frm : Int)] w fun e w' => e = .returned (.tuple #[]) ∧ ∃ s', IsDisk w' d k m s' ∧ Laid s s' (4 + area * arL s.n) (frm / 64) data ∧ Fr [d, m] w w' := by
  have hnle := hD.ok.n_le
  have hln := hb.1
  obtain ⟨L, hL⟩ : ∃ L, arL s.n = L := ⟨_, rfl⟩
  have hL2 : 2 * L + 8 ≤ s.n ∧ L ≤ 1000 := by rw [← hL]; unfold arL; omega
  rw [hL] at hlen ⊢
  obtain ⟨q0, hq0⟩ : ∃ q0, frm / 64 = q0 := ⟨_, rfl⟩
  rw [hq0]
  have hq0i : (frm : Int) / 64 = (q0 : Int) := by omega
  have hq0b : q0 * 64 ≤ n ∧ q0 ≤ L := by omega
  obtain ⟨M, hM⟩ : ∃ M, area * L = M := ⟨_, rfl⟩
  have hMi : (area : Int) * (L : Int) = (M : Int) := by rw [← hM, Int.natCast_mul]
  have hM2 : M ≤ L := by
    rw [← hM]
    rcases (show area = 0 ∨ area = 1 by omega) with rfl | rfl
    · omega
    · omega
  rw [hM]
  replace hM := hid hM
  replace hL := hid hL
  replace hq0 := hid hq0
  go_enter Try.func80, Try.ntmps80
  go_wp2_with fail
  go_loopw [8] (fun qv wr => ∃ (q : Nat) (s' : DSt), q0 ≤ q ∧ q ≤ L ∧ qv = .int .i64 q ∧ IsDisk wr d k m s' ∧ s'.n = s.n ∧ s'.offAt = 0 ∧ s'.kept = s.kept ∧ s'.steps = s.steps + (q - q0) ∧ (q = q0 ∨ (q - 1) * 64 < n) ∧ Fr [d, m] w wr ∧
      ∀ i, s'.now i = if 4 + M + q0 ≤ i ∧ i < 4 + M + q then laid (chunk data (i - (4 + M))) (s.now i) else s.now i) (fun qv _ => L - (intOf qv).toNat)
  case atStart => exact ⟨q0, s, Nat.le_refl _, hq0b.2, rfl, hD, rfl, hoff, rfl, by omega, .inl rfl, Fr.refl _ _, fun i => by rw [if_neg (by omega)]⟩
  case round =>
    obtain ⟨q, s', hq1, hq2, rfl, hDr, hsn, hso, hsk, hss, hqq, hfw, hnow⟩ := hrel
    have hjr := hfw.cell hj (by simp; omega)
    by_cases hqn : q * 64 < n
    · have hqL : q < L := by omega
      have hbr := hb.kept' hfw (fun h0 a ha => by have := hA h0 a ha; simp; omega)
      obtain ⟨bb, off, rfl, hc⟩ : ∃ bb off, A = some ⟨bb, off, none⟩ ∧ ∀ j (h : j < data.length), wr.cell? ⟨bb, off + j, none⟩ = some (.int .u8 (data[j].toNat : Int)) := by
        rcases hbr.2.2 with h0 | h0
        · omega
        · exact h0
      have hblk := hA (by omega) _ rfl
      have hsub : RB wr (some ⟨bb, off + q * 64, none⟩) (min (q * 64 + 64) n - q * 64) (chunk data q) := by
        refine ⟨by rw [chunk_len]; omega, by have := hb.2.1; omega, .inr ⟨bb, off + q * 64, rfl, fun z hz => ?_⟩⟩
        rw [chunk_len] at hz
        have := hc (q * 64 + z) (by omega)
        rw [Nat.add_assoc, this]
        simp only [chunk, List.getElem_take, List.getElem_drop]
      have hqi : (q : Int) * 64 < (n : Int) := by omega
      have hqi2 : (q : Int) * 64 + 64 ≤ 64000 := by omega
      have hne : ¬ c = q * 64 := by omega
      have hmin0 : (q : Int) * 64 ≤ min ((q : Int) * 64 + 64) (n : Int) := by omega
      have hmin1 : min ((q : Int) * 64 + 64) (n : Int) ≤ (c : Int) := by omega
      replace hnow := hid hnow
      replace hc := hid hc
      go_wp2_with fail
      have hload : ∀ w' : World, Fr [d, m] wr w' → (Instr.loadAt 52 (.pointer (some ⟨j, 0, none⟩))).run Try.prog w' = _ := fun w' hf => load_cell 52 Try.underlying52 rfl (hf.cell hjr (by simp; omega))
      replace hload := hid hload
      refine wp_region_textS' (fun w' => Fr [d, m] wr w') [3] [] [] [(7, []), (15, []), (1, [])] (by kernel_rfl) (by kernel_rfl) (by kernel_rfl) (Fr.refl _ wr).drew ?_
      intro K hK
      simp only [cutAt, List.take_succ_cons, List.take_zero, List.drop_succ_cons, List.drop_zero, List.take_nil, List.drop_nil, wpSegs, List.map_cons, List.map_nil, List.nil_append, List.cons_append]
      have hfd : Fr [] wr wr.drew := (Fr.refl [] wr).drew
      have hjd' : wr.drew.cell? ⟨j, 0, none⟩ = _ := hjr
      go_wp2_with fail
      refine (length_c j d k m s' wr.drew hjd' (hDr.fr hfd)).mono ?_
      rw [hsn, hL.out]
      rintro e w2 ⟨rfl, rfl⟩
      go_wp2_with fail
      refine ⟨fun w' => Fr [d, m] wr w', fun _ h => h, (Fr.refl _ wr).drew, ?_⟩
      go_wp2_with fail
      have hmm : (min ((q : Int) * 64 + 64) (n : Int)).toNat = min (q * 64 + 64) n := by omega
      rw [hmm]
      have hlts := hDr.lts
      have hsubd : RB wr.drew (some ⟨bb, off + q * 64, none⟩) (min (q * 64 + 64) n - q * 64) (chunk data q) := hsub.below hfd.all
      refine (Write_ok d k m s' (4 + M + q) (some ⟨bb, off + q * 64, none⟩) _ _ (chunk data q) wr.drew (hDr.fr hfd) hsubd (by intro _ a ha; cases ha; exact hblk) (by omega) hso (by omega) (by omega) _ (by omega)).mono ?_
      rintro e w3 ⟨rfl, hD3, hf3⟩
      have hS3 : Fr [d, m] wr w3 := (Fr.refl _ wr).drew.trans hf3 (by simp)
      go_wp2_with fail
      refine ⟨fun w' => Fr [d, m] wr w', fun _ h => h, hS3, ?_⟩
      go_wp2_with fail
      refine (must_ok w3).mono ?_
      rintro e w4 ⟨rfl, rfl⟩
      go_wp2_with fail
      refine ⟨fun w' => Fr [d, m] wr w', fun _ h => h, hS3, ?_⟩
      go_wp2_with fail
      refine ⟨trivial, hK _ _ (by kernel_rfl) ⟨fun o ho => ?_, trivial⟩ ?_⟩
      · cases ho
        exact gives_load rfl (fun w' h => hload.out w' h)
      go_wp2_with fail
      try go_frame
      go_roundw
      case rel =>
        refine ⟨q + 1, s'.step.put (4 + M + q) (chunk data q), by omega, by omega, rfl, hD3, hsn, hso, hsk, by show s'.steps + 1 = _; omega, .inr (by rw [Nat.add_sub_cancel]; exact hqn), hfw.trans hS3 (by simp), fun i => ?_⟩
        rw [DSt.put_now, DSt.step_now, DSt.step_now, hnow.out]
        by_cases hiq : i = 4 + M + q
        · subst hiq
          rw [if_pos rfl, if_neg (by omega), if_pos (by omega), show 4 + M + q - (4 + M) = q by omega]
          rfl
        · rw [if_neg hiq, hnow.out]
          by_cases h1 : 4 + M + q0 ≤ i ∧ i < 4 + M + q
          · rw [if_pos h1, if_pos (by omega)]
          · rw [if_neg h1, if_neg (by omega)]
      case measure => simp [intOf]; omega
    · have hqi : ¬ (q : Int) * 64 < (n : Int) := by omega
      replace hnow := hid hnow
      go_wp2_with fail
      go_end0
      refine ⟨rfl, s', hDr, ⟨hsn, hso, hsk, by omega, fun i => ?_⟩, hfw⟩
      rw [hnow.out, hln]
      by_cases h1 : 4 + M + q0 ≤ i ∧ i < 4 + M + q
      · rw [if_pos h1, if_pos (by omega)]
      · rw [if_neg h1, if_neg (by omega)]
end Go.Proofs.Ytiialjncdhhceaa
