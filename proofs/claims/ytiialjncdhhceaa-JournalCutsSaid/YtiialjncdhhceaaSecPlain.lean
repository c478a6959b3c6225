/- Plain laws of a disk's states: what writes, flushes, crashes leave. -/
import Derived.Test.YtiialjncdhhceaaSecTorn
namespace Go.Proofs.Ytiialjncdhhceaa
open Go.RowKit
set_option linter.unusedVariables false

theorem DSt.off_zero {s : DSt} (h : s.offAt = 0) : s.off = false := by
  unfold DSt.off
  rw [h]
  simp
theorem DSt.write_ok {s : DSt} {i : Int} {l : List UInt8} (h : s.offAt = 0) (hi : 0 ≤ i) (hn : i < (s.n : Int)) (hl : l.length ≤ 64) : s.write i l = (0, s.step.put i.toNat l) := by
  unfold DSt.write
  rw [if_neg (by rw [DSt.off_zero (s := s.step) h]; simp), if_neg (by omega)]
theorem DSt.write_nat {s : DSt} {i : Nat} {l : List UInt8} (h : s.offAt = 0) (hn : i < s.n) (hl : l.length ≤ 64) : s.write (i : Int) l = (0, s.step.put i l) := by
  rw [DSt.write_ok h (by omega) (by omega) hl]
  rfl
theorem DSt.write_bad {s : DSt} {i : Int} {l : List UInt8} (h : s.offAt = 0) (hb : i < 0 ∨ (s.n : Int) ≤ i ∨ 64 < l.length) : s.write i l = (130, s.step) := by
  unfold DSt.write
  rw [if_neg (by rw [DSt.off_zero (s := s.step) h]; simp), if_pos hb]
theorem DSt.flush_ok {s : DSt} (h : s.offAt = 0) : s.flush = (0, s.step.clean) := by
  unfold DSt.flush
  rw [if_neg (by rw [DSt.off_zero (s := s.step) h]; simp)]
theorem DSt.put_now (s : DSt) (i : Nat) (l : List UInt8) (j : Nat) : (s.put i l).now j = if j = i then l ++ (s.now i).drop l.length else s.now j := by
  unfold DSt.now DSt.put
  dsimp only
  split <;> rfl
theorem DSt.clean_now (s : DSt) (j : Nat) : s.clean.now j = s.now j := rfl
theorem DSt.step_now (s : DSt) (j : Nat) : s.step.now j = s.now j := rfl
theorem DSt.new_now (n j : Nat) : (DSt.new n).now j = zeros64 := rfl
theorem DSt.crash_now (s : DSt) (ch : List UInt8) (j : Nat) : (s.crash ch).now j = s.tornAt ch j := rfl

theorem DSt.write_keeps (s : DSt) (i : Int) (l : List UInt8) : (s.write i l).2.steps = s.steps + 1 ∧ (s.write i l).2.offAt = s.offAt ∧ (s.write i l).2.n = s.n := by
  unfold DSt.write
  split
  · exact ⟨rfl, rfl, rfl⟩
  · split <;> exact ⟨rfl, rfl, rfl⟩
theorem DSt.flush_keeps (s : DSt) : s.flush.2.steps = s.steps + 1 ∧ s.flush.2.offAt = s.offAt ∧ s.flush.2.n = s.n := by
  unfold DSt.flush
  split <;> exact ⟨rfl, rfl, rfl⟩
theorem DSt.write_code {s : DSt} {i : Int} {l : List UInt8} (hi : 0 ≤ i) (hn : i < (s.n : Int)) (hl : l.length ≤ 64) : (s.write i l).1 = if s.step.off then 131 else 0 := by
  unfold DSt.write
  split
  · rfl
  · rw [if_neg (by omega)]
theorem DSt.flush_code (s : DSt) : s.flush.1 = if s.step.off then 131 else 0 := by
  unfold DSt.flush
  split <;> rfl

/-- Bytes over the head of others. -/
def laid (l old : List UInt8) : List UInt8 := l ++ old.drop l.length
theorem laid_len {l old : List UInt8} (h : l.length ≤ old.length) : (laid l old).length = old.length := by
  unfold laid
  rw [List.length_append, List.length_drop]
  omega
theorem laid_whole {l old : List UInt8} (h : l.length = old.length) : laid l old = l := by
  unfold laid
  rw [h, List.drop_length, List.append_nil]

/-! ### a crash behind a write of one sector -/
def keepsK (flush : Bool) (c : UInt8) : Nat := if flush then 64 else tornN c
theorem torn_get? (c : UInt8) {new old : List UInt8} (h1 : new.length = 64) (h2 : old.length = 64) (i : Nat) : (torn c new old)[i]? = if i < tornN c then new[i]? else old[i]? := by
  have hk := tornN_le c
  have hlt : (new.take (tornN c)).length = tornN c := by rw [List.length_take]; omega
  unfold torn
  rw [List.getElem?_append, hlt]
  split
  · rename_i hik
    rw [List.getElem?_take, if_pos hik]
  · rename_i hik
    rw [List.getElem?_drop]
    congr 1
    omega

/-! ### choices by rank -/
theorem filter_rank (p : Nat → Bool) (n i : Nat) (hi : i < n) (hp : p i = true) : ((List.range n).filter p)[((List.range i).filter p).length]? = some i := by
  have hsplit : (List.range n).filter p = (List.range i).filter p ++ i :: ((List.range' (i + 1) (n - i - 1)).filter p) := by
    rw [List.range_eq_range', List.range_eq_range', show n = i + (1 + (n - i - 1)) by omega, ← List.range'_append_1, List.filter_append]
    congr 1
    rw [Nat.zero_add, Nat.add_comm 1, List.range'_succ, List.filter_cons, if_pos hp]
    congr 3
    omega
  rw [hsplit, List.getElem?_append_right (Nat.le_refl _)]
  simp
def baseC (F : Nat → Bool) (j : Nat) : List UInt8 := if F j then laid [1] zeros64 else zeros64
theorem baseC_len (F : Nat → Bool) (j : Nat) : (baseC F j).length = 64 := by
  unfold baseC
  split
  · rw [laid_len (by rw [zeros64_len]; decide), zeros64_len]
  · exact zeros64_len
def choiceOf (C : Nat → Bool) (j : Nat) : UInt8 := if C j then 255 else 0
def choicesOf (W C : Nat → Bool) (n : Nat) : List UInt8 := ((List.range n).filter W).map (choiceOf C)
theorem choicesOf_succ (W C : Nat → Bool) (n : Nat) : choicesOf W C (n + 1) = if W n then choicesOf W C n ++ [choiceOf C n] else choicesOf W C n := by
  unfold choicesOf
  rw [List.range_succ, List.filter_append, List.filter_cons]
  split <;> simp_all
def finalC (F W C : Nat → Bool) (j : Nat) : UInt8 := if W j && C j then 2 else if F j then 1 else 0
theorem choices_law (F W C : Nat → Bool) (s : DSt) (hk : ∀ j, s.kept j = baseC F j) (hp : ∀ j, s.pend j = if decide (j < 6) && W j then some (laid [2] (baseC F j)) else none) (j : Nat) (hj : j < 6) :
    ∃ t, (s.crash (choicesOf W C 6)).now j = finalC F W C j :: t := by
  rw [DSt.crash_now]
  have hb : ∃ t, baseC F j = (if F j then 1 else 0) :: t := by
    unfold baseC
    split <;> exact ⟨_, rfl⟩
  obtain ⟨t, hb⟩ := hb
  unfold DSt.tornAt
  rw [hp j]
  have hd : decide (j < 6) = true := by simp [hj]
  rw [hd, Bool.true_and]
  cases hw : W j with
  | false =>
    simp only [Bool.false_eq_true, if_false]
    rw [hk, hb]
    exact ⟨t, by unfold finalC; rw [hw]; rfl⟩
  | true =>
    simp only [if_true]
    have hrank : s.rank j = ((List.range j).filter W).length := by
      unfold DSt.rank
      congr 1
      apply List.filter_congr
      intro x hx
      rw [List.mem_range] at hx
      unfold DSt.isP
      rw [hp x]
      have : decide (x < 6) = true := by simp; omega
      rw [this, Bool.true_and]
      cases W x <;> rfl
    have hget : (choicesOf W C 6).getD (s.rank j) 0 = choiceOf C j := by
      unfold choicesOf
      rw [hrank, List.getD_eq_getElem?_getD, List.getElem?_map, filter_rank W 6 j hj hw]
      rfl
    rw [hget, hk, hb]
    unfold choiceOf finalC
    rw [hw]
    cases C j with
    | false =>
      refine ⟨t, ?_⟩
      have h0 : tornN 0 = 0 := by decide
      simp only [Bool.false_eq_true, if_false, Bool.true_and]
      unfold torn
      rw [h0]
      rfl
    | true =>
      have h0 : tornN 255 = 64 := by decide
      simp only [if_true, Bool.true_and]
      unfold torn laid
      rw [h0]
      exact ⟨_, rfl⟩
end Go.Proofs.Ytiialjncdhhceaa
