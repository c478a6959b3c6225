/- What follows is 2 texts, one behind the other: JrnPower, JrnLaysP. -/
import Derived.Test.YtiialjncdhhceaaGreatJrnReplace
import Derived.Test.YtiialjncdhhceaaGreatTextX
/- The journal where the power may go: writes, flushes; what a crash leaves: plain laws, then the disk's calls. -/
namespace Go.Proofs.YtiialjncdhhceaaGreat
open Go.RowKit
set_option linter.unusedVariables false
set_option linter.unusedSimpArgs false

theorem Holds.congr {s t : DSt} {hd ar : Nat} {recs : List ByteArray} (h : Holds s hd ar recs) (hn : t.n = s.n) (hnow : ∀ i, t.now i = s.now i) (hc : ∀ i, t.pend i = none) : Holds t hd ar recs :=
  ⟨by rw [hn]; exact h.n8, h.hd1, h.ar1, h.sizes, by rw [hn]; exact h.fits, by rw [hnow]; exact h.sec0, by rw [hnow]; exact h.hdr, fun p hp => by rw [hn, hnow]; exact h.body p hp, hc⟩

/-- What is pending in t touches nothing of what s holds. -/
structure Keep (s t : DSt) (hd ar : Nat) (recs : List ByteArray) : Prop where
  n : t.n = s.n
  kept : ∀ i, t.kept i = s.now i
  pend : ∀ i l, t.pend i = some l → i ≠ 0 ∧ i ≠ 1 + hd ∧ ∀ p, p < (recsB recs).length → i = 4 + ar * arL s.n + p / 64 → l[p % 64]? = (recsB recs)[p]?
theorem Keep.crash {s t : DSt} {hd ar : Nat} {recs : List ByteArray} (h : Keep s t hd ar recs) (hH : Holds s hd ar recs) (hs : DOk s) (ht : DOk t) (ch : List UInt8) : Holds (t.crash ch) hd ar recs := by
  have hnone : ∀ i, (i = 0 ∨ i = 1 + hd) → (t.crash ch).now i = s.now i := by
    intro i hi
    rw [DSt.crash_now]
    unfold DSt.tornAt
    cases hp : t.pend i with
    | none => exact h.kept i
    | some l =>
      have := h.pend i l hp
      omega
  refine ⟨?_, hH.hd1, hH.ar1, hH.sizes, ?_, by rw [hnone 0 (.inl rfl)]; exact hH.sec0, by rw [hnone (1 + hd) (.inr rfl)]; exact hH.hdr, fun p hp => ?_, fun _ => rfl⟩
  · show 8 ≤ t.n
    rw [h.n]
    exact hH.n8
  · show _ ≤ 64 * arL t.n
    rw [h.n]
    exact hH.fits
  · show ((t.crash ch).now (4 + ar * arL t.n + p / 64))[p % 64]? = _
    rw [h.n, DSt.crash_now]
    unfold DSt.tornAt
    cases hpd : t.pend (4 + ar * arL s.n + p / 64) with
    | none =>
      show (t.kept _)[p % 64]? = _
      rw [h.kept]
      exact hH.body p hp
    | some l =>
      show (torn _ l (t.kept _))[p % 64]? = _
      rw [torn_get? _ (ht.pend_len _ _ hpd).2 (ht.kept_len _)]
      split
      · exact (h.pend _ l hpd).2.2 p hp rfl
      · rw [h.kept]
        exact hH.body p hp

/-- A disk that was clean, behind sectors q0 to q of an area's bytes were laid. -/
def layS (s : DSt) (base q0 q : Nat) (data : List UInt8) : DSt := { s with pend := fun i => if base + q0 ≤ i ∧ i < base + q then some (laid (chunk data (i - base)) (s.kept i)) else none, steps := s.steps + (q - q0) }
theorem layS_start {s : DSt} (h : ∀ i, s.pend i = none) (base q0 : Nat) (data : List UInt8) : layS s base q0 q0 data = s := by
  unfold layS
  have e : (fun i => if base + q0 ≤ i ∧ i < base + q0 then some (laid (chunk data (i - base)) (s.kept i)) else none) = s.pend := by
    funext i
    rw [if_neg (by omega), h]
  rw [e, Nat.sub_self]
  rfl
theorem layS_next (s : DSt) (base q0 q : Nat) (data : List UInt8) (hq : q0 ≤ q) : (layS s base q0 q data).step.put (base + q) (chunk data q) = layS s base q0 (q + 1) data := by
  have hk : (layS s base q0 q data).step.now (base + q) = s.kept (base + q) := by
    unfold DSt.now DSt.step layS
    dsimp only
    rw [if_neg (by omega)]
    rfl
  unfold DSt.put
  rw [hk]
  unfold layS DSt.step
  congr 1
  · funext j
    by_cases hj : j = base + q
    · subst hj
      rw [if_pos rfl, if_pos (by omega), show base + q - base = q by omega]
      rfl
    · rw [if_neg hj]
      show (if base + q0 ≤ j ∧ j < base + q then some (laid (chunk data (j - base)) (s.kept j)) else none) = _
      by_cases h1 : base + q0 ≤ j ∧ j < base + q
      · rw [if_pos h1, if_pos (by omega)]
      · rw [if_neg h1, if_neg (by omega)]
  · dsimp only
    omega
theorem layS_now {s : DSt} (h : ∀ i, s.pend i = none) (base q0 q : Nat) (data : List UInt8) (i : Nat) : (layS s base q0 q data).now i = if base + q0 ≤ i ∧ i < base + q then laid (chunk data (i - base)) (s.now i) else s.now i := by
  rw [clean_now h]
  unfold DSt.now layS
  dsimp only
  split <;> rfl
theorem layS_laid {s : DSt} (h : ∀ i, s.pend i = none) (hoff : s.offAt = s.offAt) (base q0 q : Nat) (data : List UInt8) (hq : q0 ≤ q) (hend : data.length ≤ q * 64) (hlast : q = q0 ∨ (q - 1) * 64 < data.length) (i : Nat) :
    (layS s base q0 q data).now i = if base + q0 ≤ i ∧ (i - base) * 64 < data.length then laid (chunk data (i - base)) (s.now i) else s.now i := by
  rw [layS_now h]
  by_cases h1 : base + q0 ≤ i ∧ i < base + q
  · rw [if_pos h1, if_pos (by omega)]
  · rw [if_neg h1, if_neg (by omega)]

section
variable (d k m : Nat) (s : DSt) (w : World)
theorem Write_p (i : Nat) (A : Option Addr) (n c : Nat) (l : List UInt8) (h : IsDisk w d k m s) (hb : RB w A n l) (hA : n ≠ 0 → ∀ a, A = some a → a.block ≠ d ∧ a.block ≠ m) (hs : s.steps + 1 < 4611686018427387904) (hi : i < s.n) (hl : n ≤ 64) (v : Int) (hv : v = (i : Int)) :
    Calls Tryz.prog 45 #[.pointer (some ⟨d, 0, none⟩), .int .i64 v, .slice A n c] w fun e w' => Fr [d, m] w w' ∧ ((s.step.off = false ∧ e = .returned (.int .i64 0) ∧ IsDisk w' d k m (s.step.put i l)) ∨ (s.step.off = true ∧ e = .returned (.int .i64 131) ∧ IsDisk w' d k m s.step)) := by
  subst hv
  refine (Write_c d k m s (i : Int) A n c l w h hb hA hs).mono ?_
  unfold DSt.write
  cases ho : s.step.off with
  | false =>
    rw [if_neg (by simp), if_neg (by rw [hb.1]; omega)]
    rintro e w' ⟨h1, h2, h3⟩
    exact ⟨h3, .inl ⟨rfl, h1, by simpa using h2⟩⟩
  | true =>
    rw [if_pos rfl]
    rintro e w' ⟨h1, h2, h3⟩
    exact ⟨h3, .inr ⟨rfl, h1, h2⟩⟩
theorem Flush_p (h : IsDisk w d k m s) (hs : s.steps + 1 < 4611686018427387904) :
    Calls Tryz.prog 46 #[.pointer (some ⟨d, 0, none⟩)] w fun e w' => Fr [d, k, m] w w' ∧ ((s.step.off = false ∧ e = .returned (.int .i64 0) ∧ IsDisk w' d k m s.step.clean) ∨ (s.step.off = true ∧ e = .returned (.int .i64 131) ∧ IsDisk w' d k m s.step)) := by
  refine (Flush_c d k m s w h hs).mono ?_
  unfold DSt.flush
  cases ho : s.step.off with
  | false =>
    rw [if_neg (by simp)]
    rintro e w' ⟨h1, h2, h3⟩
    exact ⟨h3, .inl ⟨rfl, h1, h2⟩⟩
  | true =>
    rw [if_pos rfl]
    rintro e w' ⟨h1, h2, h3⟩
    exact ⟨h3, .inr ⟨rfl, h1, h2⟩⟩
end
/-- What a panic with the power's error is. -/
def offE : Ending := .panicked [{ v := errV 131, recovered := false }]
theorem must_off (w : World) : Calls Tryz.prog 44 #[.int .i64 131] w fun e w' => e = offE ∧ w' = w := must_bad 131 (by decide) w
end Go.Proofs.YtiialjncdhhceaaGreat

/- The journal lays an area's bytes, where the power may go. -/
namespace Go.Proofs.YtiialjncdhhceaaGreat
open Go.RowKit
set_option linter.unusedVariables false
set_option linter.unusedSimpArgs false

set_option maxHeartbeats 1000000 in
set_option maxRecDepth 100000 in
theorem lays_p (j d k m area frm : Nat) (s : DSt) (A : Option Addr) (n c : Nat) (data : List UInt8) (w : World) (hj : w.cell? ⟨j, 0, none⟩ = some (.pointer (some ⟨d, 0, none⟩))) (hjd : j ≠ d ∧ j ≠ k ∧ j ≠ m) (hD : IsDisk w d k m s) (hb : RB w A n data) (hnc : n ≤ c)
    (hA : n ≠ 0 → ∀ a, A = some a → a.block ≠ d ∧ a.block ≠ m) (har : area ≤ 1) (hn8 : 8 ≤ s.n) (hlen : n ≤ 64 * arL s.n) (hfr : frm ≤ n) (hst : s.steps ≤ 1000000000) (hcl : ∀ i, s.pend i = none) :
    Calls Tryz.prog 68 #[.pointer (some ⟨j, 0, none⟩), .int .i64 (area : Int), .slice A n c, .int .i64 (frm : Int)] w fun e w' => Fr [d, m] w w' ∧ ∃ q, frm / 64 ≤ q ∧ q ≤ arL s.n ∧ (q = frm / 64 ∨ (q - 1) * 64 < n) ∧
      ((e = .returned (.tuple #[]) ∧ n ≤ q * 64 ∧ IsDisk w' d k m (layS s (4 + area * arL s.n) (frm / 64) q data)) ∨ (e = offE ∧ (layS s (4 + area * arL s.n) (frm / 64) q data).step.off = true ∧ IsDisk w' d k m (layS s (4 + area * arL s.n) (frm / 64) q data).step)) := by
  have hnle := hD.ok.n_le
  have hln := hb.1
  obtain ⟨L, hL⟩ : ∃ L, arL s.n = L := ⟨_, rfl⟩
  have hL2 : 2 * L + 8 ≤ s.n ∧ L ≤ 1000 := by rw [← hL]; unfold arL; omega
  rw [hL] at hlen ⊢
  obtain ⟨q0, hq0⟩ : ∃ q0, frm / 64 = q0 := ⟨_, rfl⟩
  rw [hq0]
  have hq0i : (frm : Int) / 64 = (q0 : Int) := by omega
  have hq0b : q0 * 64 ≤ n ∧ q0 ≤ L := by omega
  obtain ⟨M, hM⟩ : ∃ M, area * L = M := ⟨_, rfl⟩
  have hMi : (area : Int) * (L : Int) = (M : Int) := by rw [← hM, Int.natCast_mul]
  have hM2 : M ≤ L := by
    rw [← hM]
    rcases (show area = 0 ∨ area = 1 by omega) with rfl | rfl
    · omega
    · omega
  have hbase : 4 + area * L = 4 + M := by rw [hM]
  rw [hbase]
  clear hbase
  replace hM := hid hM
  replace hL := hid hL
  replace hq0 := hid hq0
  go_enter Tryz.func68, Tryz.ntmps68
  go_wp2_with fail
  go_loopw [8] (fun qv wr => ∃ (q : Nat), q0 ≤ q ∧ q ≤ L ∧ qv = .int .i64 q ∧ IsDisk wr d k m (layS s (4 + M) q0 q data) ∧ (q = q0 ∨ (q - 1) * 64 < n) ∧ Fr [d, m] w wr) (fun qv _ => L - (intOf qv).toNat)
  case atStart => exact ⟨q0, Nat.le_refl _, hq0b.2, rfl, by rw [layS_start hcl]; exact hD, .inl rfl, Fr.refl _ _⟩
  case round =>
    obtain ⟨q, hq1, hq2, rfl, hDr, hqq, hfw⟩ := hrel
    have hsn : (layS s (4 + M) q0 q data).n = s.n := rfl
    have hss : (layS s (4 + M) q0 q data).steps = s.steps + (q - q0) := rfl
    have hnx := layS_next s (4 + M) q0 q data hq1
    generalize hsg : layS s (4 + M) q0 q data = s' at *
    have hjr := hfw.cell hj (by simp; omega)
    by_cases hqn : q * 64 < n
    · have hqL : q < L := by omega
      have hbr := hb.kept' hfw (fun h0 a ha => by have := hA h0 a ha; simp; omega)
      obtain ⟨bb, off, rfl, hc⟩ : ∃ bb off, A = some ⟨bb, off, none⟩ ∧ ∀ j (h : j < data.length), wr.cell? ⟨bb, off + j, none⟩ = some (.int .u8 (data[j].toNat : Int)) := by
        rcases hbr.2.2 with h0 | h0
        · omega
        · exact h0
      have hblk := hA (by omega) _ rfl
      have hsub : RB wr (some ⟨bb, off + q * 64, none⟩) (min (q * 64 + 64) n - q * 64) (chunk data q) := by
        refine ⟨by rw [chunk_len]; omega, by have := hb.2.1; omega, .inr ⟨bb, off + q * 64, rfl, fun z hz => ?_⟩⟩
        rw [chunk_len] at hz
        have := hc (q * 64 + z) (by omega)
        rw [Nat.add_assoc, this]
        simp only [chunk, List.getElem_take, List.getElem_drop]
      have hqi : (q : Int) * 64 < (n : Int) := by omega
      have hqi2 : (q : Int) * 64 + 64 ≤ 64000 := by omega
      have hne : ¬ c = q * 64 := by omega
      have hmin0 : (q : Int) * 64 ≤ min ((q : Int) * 64 + 64) (n : Int) := by omega
      have hmin1 : min ((q : Int) * 64 + 64) (n : Int) ≤ (c : Int) := by omega
      replace hsg := hid hsg
      replace hnx := hid hnx
      replace hc := hid hc
      go_wp2_with fail
      have hload : ∀ w' : World, Fr [d, m] wr w' → (Instr.loadAt 27 (.pointer (some ⟨j, 0, none⟩))).run Tryz.prog w' = _ := fun w' hf => load_cell 27 Tryz.underlying27 rfl (hf.cell hjr (by simp; omega))
      replace hload := hid hload
      refine wp_region_textX (n0 := 22) (fun w' => Fr [d, m] wr w') [3] [] [] [(7, []), (15, [])] rfl (by kernel_rfl) (by kernel_rfl) (by kernel_rfl) (by kernel_rfl) (Fr.refl _ wr).drew ?_
      intro K hK
      simp only [cutAt, List.take_succ_cons, List.take_zero, List.drop_succ_cons, List.drop_zero, List.take_nil, List.drop_nil, wpSegs, List.map_cons, List.map_nil, List.nil_append, List.cons_append]
      have hfd : Fr [] wr wr.drew := (Fr.refl [] wr).drew
      have hjd' : wr.drew.cell? ⟨j, 0, none⟩ = _ := hjr
      go_wp2_with fail
      refine (length_c j d k m s' wr.drew hjd' (hDr.fr hfd)).mono ?_
      rw [hsn, hL.out]
      rintro e w2 ⟨rfl, rfl⟩
      go_wp2_with fail
      refine ⟨fun w' => Fr [d, m] wr w', fun _ h => h, (Fr.refl _ wr).drew, ?_⟩
      go_wp2_with fail
      have hmm : (min ((q : Int) * 64 + 64) (n : Int)).toNat = min (q * 64 + 64) n := by omega
      rw [hmm]
      have hlts := hDr.lts
      have hsubd : RB wr.drew (some ⟨bb, off + q * 64, none⟩) (min (q * 64 + 64) n - q * 64) (chunk data q) := hsub.below hfd.all
      refine (Write_p d k m s' wr.drew (4 + M + q) (some ⟨bb, off + q * 64, none⟩) _ _ (chunk data q) (hDr.fr hfd) hsubd (by intro _ a ha; cases ha; exact hblk) (by omega) (by omega) (by omega) _ (by omega)).mono ?_
      rintro e w3 ⟨hf3, hcase⟩
      have hS3 : Fr [d, m] wr w3 := (Fr.refl _ wr).drew.trans hf3 (by simp)
      rcases hcase with ⟨ho3, rfl, hD3⟩ | ⟨ho3, rfl, hD3⟩
      · go_wp2_with fail
        refine ⟨fun w' => Fr [d, m] wr w', fun _ h => h, hS3, ?_⟩
        go_wp2_with fail
        refine ⟨trivial, hK _ _ (by kernel_rfl) ⟨fun o ho => ?_, trivial⟩ ?_⟩
        · cases ho
          exact gives_load rfl (fun w' h => hload.out w' h)
        simp only [List.drop_succ_cons, List.drop_zero]
        go_wp2_with fail
        refine (must_ok w3).mono ?_
        rintro e w4 ⟨rfl, rfl⟩
        go_wp2_with fail
        try go_frame
        go_roundw
        case rel =>
          refine ⟨q + 1, by omega, by omega, rfl, by rw [← hnx.out]; exact hD3, .inr (by rw [Nat.add_sub_cancel]; exact hqn), hfw.trans hS3 (by simp)⟩
        case measure => simp [intOf]; omega
      · go_wp2_with fail
        refine ⟨fun w' => Fr [d, m] wr w', fun _ h => h, hS3, ?_⟩
        go_wp2_with fail
        refine ⟨trivial, hK _ _ (by kernel_rfl) ⟨fun o ho => ?_, trivial⟩ ?_⟩
        · cases ho
          exact gives_load rfl (fun w' h => hload.out w' h)
        simp only [List.drop_succ_cons, List.drop_zero]
        go_wp2_with fail
        refine (must_off w3).mono ?_
        rintro e w4 ⟨rfl, rfl⟩
        unfold offE
        go_wp2_with fail
        exact ⟨rfl, hfw.trans hS3 (by simp), q, hq1, hq2, hqq, .inr ⟨rfl, by rw [hsg.out]; exact ho3, by rw [hsg.out]; exact hD3⟩⟩
    · have hqi : ¬ (q : Int) * 64 < (n : Int) := by omega
      replace hsg := hid hsg
      replace hnx := hid hnx
      go_wp2_with fail
      go_end0
      exact ⟨hfw, q, hq1, hq2, hqq, .inl ⟨rfl, by omega, by rw [hsg.out]; exact hDr⟩⟩
end Go.Proofs.YtiialjncdhhceaaGreat
