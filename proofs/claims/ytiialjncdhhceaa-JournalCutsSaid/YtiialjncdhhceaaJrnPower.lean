/- The journal where the power may go: writes, flushes; what a crash leaves: plain laws, then the disk's calls. -/
import Derived.Test.YtiialjncdhhceaaJrnReplace
import Derived.Test.YtiialjncdhhceaaTextX
namespace Go.Proofs.Ytiialjncdhhceaa
open Go.RowKit
set_option linter.unusedVariables false
set_option linter.unusedSimpArgs false

theorem Holds.congr {s t : DSt} {hd ar : Nat} {recs : List ByteArray} (h : Holds s hd ar recs) (hn : t.n = s.n) (hnow : ∀ i, t.now i = s.now i) (hc : ∀ i, t.pend i = none) : Holds t hd ar recs :=
  ⟨by rw [hn]; exact h.n8, h.hd1, h.ar1, h.sizes, by rw [hn]; exact h.fits, by rw [hnow]; exact h.sec0, by rw [hnow]; exact h.hdr, fun p hp => by rw [hn, hnow]; exact h.body p hp, hc⟩

/-- What is pending in t touches nothing of what s holds. -/
structure Keep (s t : DSt) (hd ar : Nat) (recs : List ByteArray) : Prop where
  n : t.n = s.n
  kept : ∀ i, t.kept i = s.now i
  pend : ∀ i l, t.pend i = some l → i ≠ 0 ∧ i ≠ 1 + hd ∧ ∀ p, p < (recsB recs).length → i = 4 + ar * arL s.n + p / 64 → l[p % 64]? = (recsB recs)[p]?
theorem Keep.crash {s t : DSt} {hd ar : Nat} {recs : List ByteArray} (h : Keep s t hd ar recs) (hH : Holds s hd ar recs) (hs : DOk s) (ht : DOk t) (ch : List UInt8) : Holds (t.crash ch) hd ar recs := by
  have hnone : ∀ i, (i = 0 ∨ i = 1 + hd) → (t.crash ch).now i = s.now i := by
    intro i hi
    rw [DSt.crash_now]
    unfold DSt.tornAt
    cases hp : t.pend i with
    | none => exact h.kept i
    | some l =>
      have := h.pend i l hp
      omega
  refine ⟨?_, hH.hd1, hH.ar1, hH.sizes, ?_, by rw [hnone 0 (.inl rfl)]; exact hH.sec0, by rw [hnone (1 + hd) (.inr rfl)]; exact hH.hdr, fun p hp => ?_, fun _ => rfl⟩
  · show 8 ≤ t.n
    rw [h.n]
    exact hH.n8
  · show _ ≤ 64 * arL t.n
    rw [h.n]
    exact hH.fits
  · show ((t.crash ch).now (4 + ar * arL t.n + p / 64))[p % 64]? = _
    rw [h.n, DSt.crash_now]
    unfold DSt.tornAt
    cases hpd : t.pend (4 + ar * arL s.n + p / 64) with
    | none =>
      show (t.kept _)[p % 64]? = _
      rw [h.kept]
      exact hH.body p hp
    | some l =>
      show (torn _ l (t.kept _))[p % 64]? = _
      rw [torn_get? _ (ht.pend_len _ _ hpd).2 (ht.kept_len _)]
      split
      · exact (h.pend _ l hpd).2.2 p hp rfl
      · rw [h.kept]
        exact hH.body p hp

/-- A disk that was clean, behind sectors q0 to q of an area's bytes were laid. -/
def layS (s : DSt) (base q0 q : Nat) (data : List UInt8) : DSt := { s with pend := fun i => if base + q0 ≤ i ∧ i < base + q then some (laid (chunk data (i - base)) (s.kept i)) else none, steps := s.steps + (q - q0) }
theorem layS_start {s : DSt} (h : ∀ i, s.pend i = none) (base q0 : Nat) (data : List UInt8) : layS s base q0 q0 data = s := by
  unfold layS
  have e : (fun i => if base + q0 ≤ i ∧ i < base + q0 then some (laid (chunk data (i - base)) (s.kept i)) else none) = s.pend := by
    funext i
    rw [if_neg (by omega), h]
  rw [e, Nat.sub_self]
  rfl
theorem layS_next (s : DSt) (base q0 q : Nat) (data : List UInt8) (hq : q0 ≤ q) : (layS s base q0 q data).step.put (base + q) (chunk data q) = layS s base q0 (q + 1) data := by
  have hk : (layS s base q0 q data).step.now (base + q) = s.kept (base + q) := by
    unfold DSt.now DSt.step layS
    dsimp only
    rw [if_neg (by omega)]
    rfl
  unfold DSt.put
  rw [hk]
  unfold layS DSt.step
  congr 1
  · funext j
    by_cases hj : j = base + q
    · subst hj
      rw [if_pos rfl, if_pos (by omega), show base + q - base = q by omega]
      rfl
    · rw [if_neg hj]
      show (if base + q0 ≤ j ∧ j < base + q then some (laid (chunk data (j - base)) (s.kept j)) else none) = _
      by_cases h1 : base + q0 ≤ j ∧ j < base + q
      · rw [if_pos h1, if_pos (by omega)]
      · rw [if_neg h1, if_neg (by omega)]
  · dsimp only
    omega
theorem layS_now {s : DSt} (h : ∀ i, s.pend i = none) (base q0 q : Nat) (data : List UInt8) (i : Nat) : (layS s base q0 q data).now i = if base + q0 ≤ i ∧ i < base + q then laid (chunk data (i - base)) (s.now i) else s.now i := by
  rw [clean_now h]
  unfold DSt.now layS
  dsimp only
  split <;> rfl
theorem layS_laid {s : DSt} (h : ∀ i, s.pend i = none) (hoff : s.offAt = s.offAt) (base q0 q : Nat) (data : List UInt8) (hq : q0 ≤ q) (hend : data.length ≤ q * 64) (hlast : q = q0 ∨ (q - 1) * 64 < data.length) (i : Nat) :
    (layS s base q0 q data).now i = if base + q0 ≤ i ∧ (i - base) * 64 < data.length then laid (chunk data (i - base)) (s.now i) else s.now i := by
  rw [layS_now h]
  by_cases h1 : base + q0 ≤ i ∧ i < base + q
  · rw [if_pos h1, if_pos (by omega)]
  · rw [if_neg h1, if_neg (by omega)]

section
variable (d k m : Nat) (s : DSt) (w : World)
theorem Write_p (i : Nat) (A : Option Addr) (n c : Nat) (l : List UInt8) (h : IsDisk w d k m s) (hb : RB w A n l) (hA : n ≠ 0 → ∀ a, A = some a → a.block ≠ d ∧ a.block ≠ m) (hs : s.steps + 1 < 4611686018427387904) (hi : i < s.n) (hl : n ≤ 64) (v : Int) (hv : v = (i : Int)) :
    Calls Try.prog 40 #[.pointer (some ⟨d, 0, none⟩), .int .i64 v, .slice A n c] w fun e w' => Fr [d, m] w w' ∧ ((s.step.off = false ∧ e = .returned (.int .i64 0) ∧ IsDisk w' d k m (s.step.put i l)) ∨ (s.step.off = true ∧ e = .returned (.int .i64 131) ∧ IsDisk w' d k m s.step)) := by
  subst hv
  refine (Write_c d k m s (i : Int) A n c l w h hb hA hs).mono ?_
  unfold DSt.write
  cases ho : s.step.off with
  | false =>
    rw [if_neg (by simp), if_neg (by rw [hb.1]; omega)]
    rintro e w' ⟨h1, h2, h3⟩
    exact ⟨h3, .inl ⟨rfl, h1, by simpa using h2⟩⟩
  | true =>
    rw [if_pos rfl]
    rintro e w' ⟨h1, h2, h3⟩
    exact ⟨h3, .inr ⟨rfl, h1, h2⟩⟩
theorem Flush_p (h : IsDisk w d k m s) (hs : s.steps + 1 < 4611686018427387904) :
    Calls Try.prog 42 #[.pointer (some ⟨d, 0, none⟩)] w fun e w' => Fr [d, k, m] w w' ∧ ((s.step.off = false ∧ e = .returned (.int .i64 0) ∧ IsDisk w' d k m s.step.clean) ∨ (s.step.off = true ∧ e = .returned (.int .i64 131) ∧ IsDisk w' d k m s.step)) := by
  refine (Flush_c d k m s w h hs).mono ?_
  unfold DSt.flush
  cases ho : s.step.off with
  | false =>
    rw [if_neg (by simp)]
    rintro e w' ⟨h1, h2, h3⟩
    exact ⟨h3, .inl ⟨rfl, h1, h2⟩⟩
  | true =>
    rw [if_pos rfl]
    rintro e w' ⟨h1, h2, h3⟩
    exact ⟨h3, .inr ⟨rfl, h1, h2⟩⟩
end
/-- What a panic with the power's error is. -/
def offE : Ending := .panicked [{ v := errV 131, recovered := false }]
theorem must_off (w : World) : Calls Try.prog 76 #[.int .i64 131] w fun e w' => e = offE ∧ w' = w := must_bad 131 (by decide) w
end Go.Proofs.Ytiialjncdhhceaa
