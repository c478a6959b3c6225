/- What a disk holds of a journal: plain laws. -/
import Derived.Test.YtiialjncdhhceaaGreatJrnParsed
namespace Go.Proofs.YtiialjncdhhceaaGreat
open Go.RowKit
set_option linter.unusedVariables false

def signB : List UInt8 := [112, 97, 100, 100, 111, 99, 107, 33]
structure Holds (s : DSt) (hd ar : Nat) (recs : List ByteArray) : Prop where
  n8 : 8 ≤ s.n
  hd1 : hd ≤ 1
  ar1 : ar ≤ 1
  sizes : ∀ r ∈ recs, r.size ≤ 20000
  fits : (recsB recs).length ≤ 64 * arL s.n
  sec0 : (s.now 0).take 9 = UInt8.ofNat hd :: signB
  hdr : (s.now (1 + hd)).take 5 = UInt8.ofNat ar :: putB (recsB recs).length 4
  body : ∀ p, p < (recsB recs).length → (s.now (4 + ar * arL s.n + p / 64))[p % 64]? = (recsB recs)[p]?
  clean : ∀ i, s.pend i = none

theorem clean_now {s : DSt} (h : ∀ i, s.pend i = none) (i : Nat) : s.now i = s.kept i := by
  unfold DSt.now
  rw [h i]
  rfl
theorem crash_same {s : DSt} (h : ∀ i, s.pend i = none) (ch : List UInt8) (i : Nat) : (s.crash ch).now i = s.now i := by
  rw [DSt.crash_now, clean_now h]
  unfold DSt.tornAt
  rw [h i]
theorem Holds.crash {s : DSt} {hd ar : Nat} {recs : List ByteArray} (h : Holds s hd ar recs) (ch : List UInt8) : Holds (s.crash ch) hd ar recs := by
  have hc := crash_same h.clean ch
  refine ⟨h.n8, h.hd1, h.ar1, h.sizes, h.fits, by rw [hc]; exact h.sec0, by rw [hc]; exact h.hdr, fun p hp => ?_, fun _ => rfl⟩
  show ((s.crash ch).now (4 + ar * arL s.n + p / 64))[p % 64]? = _
  rw [hc]
  exact h.body p hp

theorem sects_get {s : DSt} (h : DOk s) (f cnt p : Nat) (hp : p < cnt * 64) : (sects s f cnt)[p]? = (s.now (f + p / 64))[p % 64]? := by
  induction cnt with
  | zero => omega
  | succ c ih =>
    rw [sects_succ, List.getElem?_append, sects_len h]
    by_cases h1 : p < c * 64
    · rw [if_pos h1]
      exact ih h1
    · rw [if_neg h1, show p / 64 = c by omega, show p - c * 64 = p % 64 by omega]
theorem Holds.sects {s : DSt} {hd ar : Nat} {recs : List ByteArray} (h : Holds s hd ar recs) (ho : DOk s) : (Proofs.YtiialjncdhhceaaGreat.sects s (4 + ar * arL s.n) (arL s.n)).take (recsB recs).length = recsB recs := by
  apply List.ext_getElem?
  intro p
  rw [List.getElem?_take]
  have hf := h.fits
  by_cases hp : p < (recsB recs).length
  · rw [if_pos hp, sects_get ho _ _ _ (by omega)]
    exact h.body p hp
  · rw [if_neg hp, List.getElem?_eq_none (by omega)]

theorem countsS_now (s : DSt) (oth : Nat) (hdr : List UInt8) (i : Nat) : (countsS s oth hdr).now i = if i = 0 then UInt8.ofNat oth :: (s.now 0).drop 1 else if i = 1 + oth then hdr ++ (s.now i).drop hdr.length else s.now i := by
  unfold countsS
  rw [DSt.clean_now, DSt.step_now, DSt.put_now]
  by_cases h0 : i = 0
  · subst h0
    rw [if_pos rfl, if_pos rfl, DSt.step_now, DSt.clean_now, DSt.step_now, DSt.put_now, if_neg (by omega)]
    rfl
  · rw [if_neg h0, if_neg h0, DSt.step_now, DSt.clean_now, DSt.step_now, DSt.put_now]
    by_cases h1 : i = 1 + oth
    · subst h1
      rw [if_pos rfl, if_pos rfl, DSt.step_now]
    · rw [if_neg h1, if_neg h1, DSt.step_now]
theorem ar_zero_one {ar L n : Nat} (h : ar ≤ 1) (hn : 2 * L + 8 ≤ n) (q : Nat) (hq : q < L) : 4 + ar * L + q < n := by
  rcases (show ar = 0 ∨ ar = 1 by omega) with rfl | rfl
  · omega
  · omega
/-- An area laid, then it counts: the disk holds the new records. -/
theorem holds_next {s s1 : DSt} {hd ar ar' q0 : Nat} {recs recs' : List ByteArray} (h : Holds s hd ar recs) (ho : DOk s) (har : ar' ≤ 1) (hl : Laid s s1 (4 + ar' * arL s.n) q0 (recsB recs')) (hsz : ∀ r ∈ recs', r.size ≤ 20000) (hfit : (recsB recs').length ≤ 64 * arL s.n)
    (hold : ∀ p, p < q0 * 64 → p < (recsB recs').length → (s.now (4 + ar' * arL s.n + p / 64))[p % 64]? = (recsB recs')[p]?) :
    Holds (countsS s1 (1 - hd) ([UInt8.ofNat ar'] ++ putB (recsB recs').length 4)) (1 - hd) ar' recs' := by
  have hn8 := h.n8
  have hh := h.hd1
  have e0 : s1.now 0 = s.now 0 := by rw [hl.now, if_neg (by omega)]
  have hoth : 1 - hd ≤ 1 := by omega
  have hn' : (countsS s1 (1 - hd) ([UInt8.ofNat ar'] ++ putB (recsB recs').length 4)).n = s.n := hl.n
  refine ⟨by rw [hn']; exact hn8, hoth, har, hsz, by rw [hn']; exact hfit, ?_, ?_, fun p hp => ?_, fun _ => rfl⟩
  · rw [countsS_now, if_pos rfl, e0]
    have h9 := h.sec0
    have hne : s.now 0 = UInt8.ofNat hd :: (s.now 0).drop 1 := by
      have hlen := ho.now_len 0
      cases hx : s.now 0 with
      | nil => rw [hx] at hlen; cases hlen
      | cons a l =>
        rw [hx] at h9
        injection h9 with h9 _
        rw [h9]
        rfl
    rw [hne] at h9
    have h10 : ((s.now 0).drop 1).take 8 = signB := by injection h9
    show UInt8.ofNat (1 - hd) :: ((s.now 0).drop 1).take 8 = _
    rw [h10]
  · rw [countsS_now, if_neg (by omega), if_pos rfl]
    have hlen : ([UInt8.ofNat ar'] ++ putB (recsB recs').length 4).length = 5 := by rw [List.length_append, putB_length]; rfl
    rw [List.take_append_of_le_length (by omega), List.take_of_length_le (by omega)]
    rfl
  · rw [hn', countsS_now, if_neg (by omega), if_neg (by omega), hl.now]
    have hq : p / 64 < arL s.n := by omega
    by_cases hp0 : p / 64 < q0
    · rw [if_neg (by omega)]
      exact hold p (by omega) hp
    · rw [if_pos (by constructor; omega; rw [Nat.add_sub_cancel_left]; omega), Nat.add_sub_cancel_left]
      unfold laid
      have hcl := chunk_len (recsB recs') (p / 64)
      rw [List.getElem?_append_left (by rw [hcl]; omega)]
      unfold chunk
      rw [List.getElem?_take, if_pos (by omega), List.getElem?_drop]
      congr 1
      omega
end Go.Proofs.YtiialjncdhhceaaGreat
