/- What a number, a text is read as, whether it is there or not. -/
import Derived.Test.YtiialjncdhhceaaBitsNil
import Derived.Test.YtiialjncdhhceaaBitsMath
import Derived.Test.YtiialjncdhhceaaRef1
namespace Go.Proofs.Ytiialjncdhhceaa
open Go.RowKit
set_option linter.unusedVariables false

theorem numStep_le (m : Nat) (hm : m ≤ 255) (x : UInt8) : numStep m x ≤ m * 256 + 255 := by
  have hx := x.toNat_lt
  have h := numStep_small m x (by omega)
  omega
theorem numStep_zero (x : UInt8) : numStep 0 x ≤ 255 := by
  have := numStep_le 0 (Nat.zero_le _) x
  rwa [Nat.zero_mul, Nat.zero_add] at this
theorem getB_two (l : List UInt8) : getB (l.take 2) ≤ 65535 := by
  rcases l with _ | ⟨x, _ | ⟨y, l⟩⟩
  · simp [getB]
  · have h := numStep_zero x
    simp only [List.take, getB, List.foldl_cons, List.foldl_nil]
    omega
  · have h := numStep_zero x
    have h2 := numStep_le _ h y
    simp only [List.take, getB, List.foldl_cons, List.foldl_nil]
    omega

theorem textB_take (s : ByteArray) (hs : s.size ≤ 65535) : getB ((textB s).take 2) = s.size := by
  unfold textB
  rw [List.take_append_of_le_length (by rw [putB_length]; exact Nat.le_refl _), List.take_of_length_le (by rw [putB_length]; exact Nat.le_refl _), getB_put _ _ (by omega)]
  exact Nat.mod_eq_of_lt (by have : (2 : Nat) ^ (8 * 2) = 65536 := by decide
                             omega)
theorem textB_drop (s : ByteArray) : (textB s).drop 2 = bs s := by
  unfold textB
  rw [List.drop_append_of_le_length (by rw [putB_length]; exact Nat.le_refl _), List.drop_of_length_le (by rw [putB_length]; exact Nat.le_refl _), List.nil_append]
theorem textB_read (s : ByteArray) : ((textB s).drop 2).take s.size = bs s := by
  rw [textB_drop, List.take_of_length_le (by rw [bs_length]; exact Nat.le_refl _)]
theorem textB_rest (s : ByteArray) : (textB s).drop (2 + s.size) = [] := by
  rw [List.drop_of_length_le]
  rw [textB_length]
  omega
theorem str_bs (s : ByteArray) : (⟨(bs s).toArray⟩ : ByteArray) = s := by
  cases s with
  | mk d => cases d with
    | mk l => rfl

/-- A number of k bytes, what is behind it, the error. -/
def readN (l : List UInt8) (k : Nat) : Nat × List UInt8 × Int := if k ≤ l.length then (getB (l.take k), l.drop k, 0) else (0, l, 11)
/-- A text of at most so many bytes, what is behind it, the error. -/
def readT (l : List UInt8) (most : Int) : List UInt8 × List UInt8 × Int :=
  if l.length < 2 then ([], l, 11) else if most < (getB (l.take 2) : Int) then ([], l, 13) else if l.length - 2 < getB (l.take 2) then ([], l, 11)
  else ((l.drop 2).take (getB (l.take 2)), l.drop (2 + getB (l.take 2)), 0)

theorem width_is (b : Int) : min (max b 0) 8 = ((min (max b 0) 8).toNat : Int) := by omega

theorem Get_any (A : Option Addr) (n c : Nat) (b : Int) (l : List UInt8) (w : World) (hb : RB w A n l) (hnc : n ≤ c) :
    Calls Try.prog 24 #[.slice A n c, .int .i64 b] w (GetPost A (readN l (min (max b 0) 8).toNat).1 (readN l (min (max b 0) 8).toNat).2.1 (readN l (min (max b 0) 8).toNat).2.2 w) := by
  have hl := hb.1
  unfold readN
  split
  · exact Get_ok A n c b _ l w hb hnc (width_is b) (by omega)
  · exact Get_short A n c b _ l w hb hnc (width_is b) (by omega)

theorem RGet_any (A : Option Addr) (n c : Nat) (b : Int) (l : List UInt8) (w : World) (hb : RB w A n l) (hnc : n ≤ c) :
    Calls Try.prog 25 #[.slice A n c, .int .i64 b] w (RGetPost A (readN l (min (max b 0) 8).toNat).1 (readN l (min (max b 0) 8).toNat).2.1 (decide ((readN l (min (max b 0) 8).toNat).2.2 = 0)) w) := by
  have hl := hb.1
  unfold readN
  split
  · exact RGet_ok A n c b _ l w hb hnc (width_is b) (by omega)
  · exact RGet_short A n c b _ l w hb hnc (width_is b) (by omega)

theorem GetText_any (A : Option Addr) (n c : Nat) (most : Int) (l : List UInt8) (w : World) (hb : RB w A n l) (hnc : n ≤ c) :
    Calls Try.prog 35 #[.slice A n c, .int .i64 most] w (GetTextPost A (readT l most).1 (readT l most).2.1 (readT l most).2.2 w) := by
  have hl := hb.1
  have h2 := getB_two l
  unfold readT
  split
  · exact GetText_none A n c most l w hb hnc (by omega)
  · split
    · exact GetText_long A n c most l w hb hnc (by omega) (by omega) h2
    · split
      · exact GetText_short A n c most l w hb hnc (by omega) (by omega) h2 (by omega)
      · exact GetText_ok A n c most l w hb hnc (by omega) (by omega) (by omega)

theorem RGetText_any (A : Option Addr) (n c : Nat) (most : Int) (l : List UInt8) (w : World) (hb : RB w A n l) (hnc : n ≤ c) (hmost : -9223372036854775808 ≤ most ∧ most ≤ 9223372036854775807) :
    Calls Try.prog 36 #[.slice A n c, .int .i64 most] w (RGetTextPost A (readT l most).1 (readT l most).2.1 (readT l most).2.2 w) := by
  have hl := hb.1
  have h2 := getB_two l
  unfold readT
  split
  · exact RGetText_none A n c most l w hb hnc (by omega)
  · split
    · exact RGetText_long A n c most l w hb hnc (by omega) hmost (by omega) h2
    · split
      · exact RGetText_short A n c most l w hb hnc (by omega) hmost.2 (by omega) h2 (by omega)
      · exact RGetText_ok A n c most l w hb hnc (by omega) hmost.2 (by omega) h2 (by omega)

theorem readT_text (s : ByteArray) (most : Int) (hs : s.size ≤ 65535) (hm : (s.size : Int) ≤ most) : readT (textB s) most = (bs s, [], 0) := by
  unfold readT
  rw [textB_take s hs, textB_length, if_neg (by omega), if_neg (by omega), if_neg (by omega), textB_read, textB_rest]
end Go.Proofs.Ytiialjncdhhceaa
