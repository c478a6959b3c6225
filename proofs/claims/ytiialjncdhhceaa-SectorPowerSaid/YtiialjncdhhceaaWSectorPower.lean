/- The walk of SectorPower: it returns true, whatever the input, and writes nothing that was there. -/
import Derived.Test.YtiialjncdhhceaaSecMore
namespace Go.Proofs.Ytiialjncdhhceaa.sectorPower
open Go.RowKit
set_option linter.unusedVariables false
set_option linter.unusedSimpArgs false

/-- Read, whether the power is on or off. -/
theorem Read_01 (d k m : Nat) (s : DSt) (w : World) (h : IsDisk w d k m s) (hn : 0 < s.n) :
    Calls Try.prog 41 #[.pointer (some ⟨d, 0, none⟩), .int .i64 0] w fun e w' => ∃ v, e = .returned (.tuple #[v, .int .i64 (if s.off then 131 else 0)]) ∧ Fr [] w w' := by
  refine (Read_c d k m s 0 w h).mono ?_
  intro e w' hp
  unfold ReadPost at hp
  split at hp
  · rename_i ho
    rw [ho]
    exact ⟨_, hp.1, by rw [hp.2]; exact (Fr.refl [] w).drew⟩
  · rename_i ho
    have ho' : s.off = false := by simpa using ho
    rw [if_neg (by omega)] at hp
    obtain ⟨b, he, _, _, _, hf⟩ := hp
    rw [ho']
    exact ⟨_, he, hf⟩

theorem pow_min (kk : Nat) (h : kk < 12) : (min ((kk : Int) + 1) 1099511627776).toNat = kk + 1 := by
  rw [Int.min_eq_left (by omega)]
  omega
theorem off_is (s : DSt) (k : Nat) (hk : 0 < k) (h : s.offAt = k) : s.off = decide (k ≤ s.steps) := by
  unfold DSt.off
  rw [h]
  congr 1
  apply propext
  omega
theorem lit_bytes (w : World) (x : Int) (h0 : 0 ≤ x) (h1 : x ≤ 255) : RB (w.alloc (.cells #[.int .u8 x] 5)) (some ⟨w.heap.size, 0, none⟩) 1 [UInt8.ofNat x.toNat] := by
  have := lit_rb13 (W := w) [UInt8.ofNat x.toNat] 5 (0, 0) (by simp)
  have e : encB (UInt8.ofNat x.toNat) = .int .u8 x := by
    unfold encB
    rw [UInt8.toNat_ofNat']
    congr 1
    omega
  simp only [List.map_cons, List.map_nil, e] at this
  exact this

set_option maxHeartbeats 4000000 in
set_option maxRecDepth 100000 in
theorem walk (a0 n0 : Int) (w : World) (ha0 : (Lit.int .u8 a0).wf = true) (hn0 : (Lit.int .u8 n0).wf = true) :
    Calls Try.prog 15 #[.int .u8 a0, .int .u8 n0] w fun e w' => e = .returned (.bool true) ∧ Below w.heap.size w w' := by
  have ha : 0 ≤ a0 ∧ a0 ≤ 255 := by simpa [Lit.wf, IntKind.min, IntKind.max, IntKind.signed, IntKind.bits] using ha0
  have hn : 0 ≤ n0 ∧ n0 ≤ 255 := by simpa [Lit.wf, IntKind.min, IntKind.max, IntKind.signed, IntKind.bits] using hn0
  clear ha0 hn0
  obtain ⟨kk, hkk⟩ : ∃ kk : Nat, a0 % 12 = (kk : Int) := ⟨(a0 % 12).toNat, by omega⟩
  obtain ⟨nn, hnn⟩ : ∃ nn : Nat, n0 % 20 = (nn : Int) := ⟨(n0 % 20).toNat, by omega⟩
  have hk12 : kk < 12 := by omega
  have hn20 : nn < 20 := by omega
  go_enter Try.func15, Try.ntmps15
  go_wp2_with (go_at_call 38; refine (known13_c _).mono ?_; rintro e w1 ⟨rfl, hf1⟩)
  refine (New_c 4 4 (by decide) w1).mono ?_
  rintro e w2 ⟨d, k, m, rfl, hD2, hlo, hf2⟩
  have hF2 := hf1.then hf2
  have hs1 := hf1.size
  go_wp2_with fail
  refine (Power_c d k m (DSt.new 4) ((kk : Int) + 1) w2 hD2).mono ?_
  have hp : (DSt.new 4).power ((kk : Int) + 1) = { DSt.new 4 with offAt := kk + 1 } := by
    unfold DSt.power
    rw [if_neg (by rw [DSt.off_zero rfl]; simp), if_neg (by omega)]
    have h0 : (DSt.new 4).steps = 0 := rfl
    have : (DSt.new 4).steps + (min ((kk : Int) + 1) 1099511627776).toNat = kk + 1 := by rw [h0, pow_min kk hk12, Nat.zero_add]
    rw [this]
  rw [hp]
  clear hp
  rintro e w3 ⟨rfl, hD3, hf3⟩
  have hF3 := hF2.past hf3 (by intro z hz; simp at hz; omega)
  go_wp2_with fail
  go_loopw [7] (fun iv wr => ∃ (i : Nat) (s : DSt), i ≤ nn ∧ iv = .int .i64 ((i : Int) + 1) ∧ Fr [] w wr ∧ IsDisk wr d k m s ∧ s.n = 4 ∧ s.offAt = kk + 1 ∧ s.steps = i + i / 5) (fun iv _ => nn + 1 - (intOf iv).toNat)
  case atStart => exact ⟨0, _, by omega, rfl, hF3, hD3, rfl, rfl, rfl⟩
  case round =>
    obtain ⟨i, s, hi, rfl, hfr, hD, hsn, hso, hst⟩ := hrel
    by_cases hin : i < nn
    · have hiI : (i : Int) + 1 ≤ (nn : Int) := by omega
      have hlt := hD.lts
      go_wp2_with fail
      have hb3 := lit_bytes wr ((i : Int) + 1) (by omega) (by omega)
      have hD3 := hD.fr ((Fr.refl [] wr).alloc (.cells #[.int .u8 ((i : Int) + 1)] 5))
      have hf3 := hfr.alloc (.cells #[.int .u8 ((i : Int) + 1)] 5)
      generalize wr.alloc (.cells #[.int .u8 ((i : Int) + 1)] 5) = w3 at *
      refine (Write_c d k m s (((i : Int) + 1) % 4) (some ⟨wr.heap.size, 0, none⟩) 1 1 _ w3 hD3 hb3 (by intro _ z hz; cases hz; simp only; omega) (by omega)).mono ?_
      have hcode1 := DSt.write_code (s := s) (i := ((i : Int) + 1) % 4) (l := [UInt8.ofNat ((i : Int) + 1).toNat]) (by omega) (by omega) (by simp)
      obtain ⟨q1, q2, q3⟩ := DSt.write_keeps s (((i : Int) + 1) % 4) [UInt8.ofNat ((i : Int) + 1).toNat]
      obtain ⟨s1, hs1'⟩ : ∃ s1, s1 = (s.write (((i : Int) + 1) % 4) [UInt8.ofNat ((i : Int) + 1).toNat]).2 := ⟨_, rfl⟩
      obtain ⟨x1, hx1⟩ : ∃ x1, x1 = (s.write (((i : Int) + 1) % 4) [UInt8.ofNat ((i : Int) + 1).toNat]).1 := ⟨_, rfl⟩
      rw [← hs1'] at q1 q2 q3 ⊢
      rw [← hx1] at hcode1 ⊢
      rintro e w4 ⟨rfl, hD4, hf4⟩
      have hf04 : Fr [] w w4 := hf3.past hf4 (by intro z hz; simp at hz; omega)
      have ho1 : s.step.off = decide (kk + 1 ≤ s1.steps) := by
        rw [off_is s.step (kk + 1) (by omega) hso, q1]
        rfl
      clear hx1 hs1'
      by_cases h5 : ((i : Int) + 1) % 5 = 0
      · have h5b : (((i : Int) + 1) % 5 == 0) = true := by simp [h5]
        clear hcode1 ho1
        go_wp2_with fail
        refine (Flush_c d k m s1 w4 hD4 (by omega)).mono ?_
        have hcode2 := DSt.flush_code s1
        obtain ⟨r1, r2, r3⟩ := DSt.flush_keeps s1
        obtain ⟨s2, hs2'⟩ : ∃ s2, s2 = s1.flush.2 := ⟨_, rfl⟩
        obtain ⟨x2, hx2⟩ : ∃ x2, x2 = s1.flush.1 := ⟨_, rfl⟩
        rw [← hs2'] at r1 r2 r3 ⊢
        rw [← hx2] at hcode2 ⊢
        have ho2 : s1.step.off = s2.off := by
          rw [off_is s1.step (kk + 1) (by omega) (by show s1.offAt = _; omega), off_is s2 (kk + 1) (by omega) (by omega), r1]
          rfl
        rw [ho2] at hcode2
        clear hx2 hs2' ho2
        rintro e w5 ⟨rfl, hD5, hf5⟩
        have hf05 : Fr [] w w5 := hf04.past hf5 (by intro z hz; simp at hz; omega)
        have hcode : ∀ {b : Bool}, s2.off = b → x2 = if b then 131 else 0 := fun h => by rw [hcode2, h]
        have hoff : s2.off = decide (kk + 1 ≤ s2.steps) := off_is s2 (kk + 1) (by omega) (by omega)
        have hTs : ((i : Int) + 1) + ((i : Int) + 1) / 5 = ((s2.steps : Nat) : Int) := by omega
        by_cases hbk : kk + 1 ≤ s2.steps
        · have hoff' : s2.off = true := by rw [hoff]; simp [hbk]
          have hkI : ((kk : Int) + 1 ≤ ((s2.steps : Nat) : Int)) := by omega
          rw [hcode hoff']
          go_wp2_with fail
          refine (Read_01 d k m s2 w5 hD5 (by omega)).mono ?_
          rw [hoff']
          rintro e w9 ⟨v9, rfl, hf9⟩
          have hF9 := hf05.then hf9
          have hD9 := hD5.fr hf9
          clear hoff hoff' hcode
          go_wp2_with fail
          try rw [hTs]
          go_roundw
          case rel => exact ⟨i + 1, s2, by omega, by simp, hF9, hD9, by omega, by omega, by omega⟩
          case measure => simp [intOf]; omega
        · have hoff' : s2.off = false := by rw [hoff]; simp [hbk]
          have hkI : ¬ ((kk : Int) + 1 ≤ ((s2.steps : Nat) : Int)) := by omega
          rw [hcode hoff']
          go_wp2_with fail
          refine (Read_01 d k m s2 w5 hD5 (by omega)).mono ?_
          rw [hoff']
          rintro e w9 ⟨v9, rfl, hf9⟩
          have hF9 := hf05.then hf9
          have hD9 := hD5.fr hf9
          clear hoff hoff' hcode
          go_wp2_with fail
          try rw [hTs]
          go_roundw
          case rel => exact ⟨i + 1, s2, by omega, by simp, hF9, hD9, by omega, by omega, by omega⟩
          case measure => simp [intOf]; omega
      · have h5b : (((i : Int) + 1) % 5 == 0) = false := by simp [h5]
        have ho2 : s.step.off = s1.off := by rw [ho1, off_is s1 (kk + 1) (by omega) (by omega)]
        rw [ho2] at hcode1
        clear ho1 ho2
        have hcode : ∀ {b : Bool}, s1.off = b → x1 = if b then 131 else 0 := fun h => by rw [hcode1, h]
        have hoff : s1.off = decide (kk + 1 ≤ s1.steps) := off_is s1 (kk + 1) (by omega) (by omega)
        have hTs : ((i : Int) + 1) + ((i : Int) + 1) / 5 = ((s1.steps : Nat) : Int) := by omega
        by_cases hbk : kk + 1 ≤ s1.steps
        · have hoff' : s1.off = true := by rw [hoff]; simp [hbk]
          have hkI : ((kk : Int) + 1 ≤ ((s1.steps : Nat) : Int)) := by omega
          rw [hcode hoff']
          go_wp2_with fail
          refine (Read_01 d k m s1 w4 hD4 (by omega)).mono ?_
          rw [hoff']
          rintro e w9 ⟨v9, rfl, hf9⟩
          have hF9 := hf04.then hf9
          have hD9 := hD4.fr hf9
          clear hoff hoff' hcode
          go_wp2_with fail
          try rw [hTs]
          go_roundw
          case rel => exact ⟨i + 1, s1, by omega, by simp, hF9, hD9, by omega, by omega, by omega⟩
          case measure => simp [intOf]; omega
        · have hoff' : s1.off = false := by rw [hoff]; simp [hbk]
          have hkI : ¬ ((kk : Int) + 1 ≤ ((s1.steps : Nat) : Int)) := by omega
          rw [hcode hoff']
          go_wp2_with fail
          refine (Read_01 d k m s1 w4 hD4 (by omega)).mono ?_
          rw [hoff']
          rintro e w9 ⟨v9, rfl, hf9⟩
          have hF9 := hf04.then hf9
          have hD9 := hD4.fr hf9
          clear hoff hoff' hcode
          go_wp2_with fail
          try rw [hTs]
          go_roundw
          case rel => exact ⟨i + 1, s1, by omega, by simp, hF9, hD9, by omega, by omega, by omega⟩
          case measure => simp [intOf]; omega
    · have hie : i = nn := by omega
      subst hie
      go_wp2_with fail
      refine (Crash_c d k m s none 0 0 [] wr hD (RB.nil _ _) (Nat.le_refl _) (by simp)).mono ?_
      rintro e w4 ⟨rfl, hD4, hf4⟩
      have hf04 := hfr.past hf4 (by intro z hz; simp at hz; omega)
      go_wp2_with fail
      refine (Read_01 d k m (s.crash []) w4 hD4 (by show 0 < s.n; omega)).mono ?_
      have hoff : (s.crash []).off = false := DSt.off_zero rfl
      rw [hoff]
      rintro e w5 ⟨v5, rfl, hf5⟩
      go_wp2_with fail
      refine (Write_ok d k m (s.crash []) 0 none 0 0 [] w5 (hD4.fr hf5) (RB.nil _ _) (by simp) (by show s.steps + 1 < _; omega) rfl (by show 0 < s.n; omega) (by decide) 0 rfl).mono ?_
      rintro e w6 ⟨rfl, hD6, hf6⟩
      go_wp2_with fail
      go_ret
      exact ⟨rfl, ((hf04.then hf5).past hf6 (by intro z hz; simp at hz; omega)).all⟩
end Go.Proofs.Ytiialjncdhhceaa.sectorPower
