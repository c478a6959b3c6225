/- The walk of BitsRows: it returns true, whatever the input, and writes nothing that was there. -/
import Derived.Test.YtiialjncdhhceaaKnown1
import Derived.Test.YtiialjncdhhceaaBitsAny
import Derived.Test.YtiialjncdhhceaaOpen
import Derived.Test.YtiialjncdhhceaaTextS
import Derived.Laws.Bits64b
namespace Go.Proofs.Ytiialjncdhhceaa.bitsRows
open Go.RowKit
set_option linter.unusedVariables false
set_option linter.unusedSimpArgs false

/-- Numbers and texts one behind the other. -/
def rowB (s : ByteArray) : List Nat → Nat → List UInt8
  | [], _ => []
  | x :: l, i => putB x (i % 9) ++ (textB s ++ rowB s l (i + 1))

theorem rowB_snoc (s : ByteArray) (x : Nat) : ∀ (l : List Nat) (i : Nat), rowB s (l ++ [x]) i = (rowB s l i ++ putB x ((i + l.length) % 9)) ++ textB s := by
  intro l
  induction l with
  | nil => intro i; simp [rowB]
  | cons y l ih =>
    intro i
    rw [List.cons_append, rowB, ih (i + 1), rowB, List.length_cons, show i + 1 + l.length = i + (l.length + 1) by omega]
    simp only [List.append_assoc]

theorem rowB_len (s : ByteArray) : ∀ (l : List Nat) (i : Nat), (rowB s l i).length ≤ l.length * (s.size + 10) := by
  intro l
  induction l with
  | nil => intro i; simp [rowB]
  | cons y l ih =>
    intro i
    have := ih (i + 1)
    rw [rowB, List.length_append, List.length_append, putB_length, textB_length, List.length_cons, Nat.succ_mul]
    omega

theorem text_head (s : ByteArray) (r : List UInt8) (hs : s.size ≤ 65535) : getB ((textB s ++ r).take 2) = s.size ∧ ((textB s ++ r).drop 2).take s.size = bs s ∧ (textB s ++ r).drop (2 + s.size) = r := by
  have hl := textB_length s
  have hb := bs_length s
  refine ⟨?_, ?_, ?_⟩
  · rw [List.take_append_of_le_length (by omega), textB_take s hs]
  · rw [List.drop_append_of_le_length (by omega), textB_drop, List.take_append_of_le_length (by omega), List.take_of_length_le (by omega)]
  · rw [show 2 + s.size = (textB s).length by omega, List.drop_left]

theorem put_head (x j : Nat) (r : List UInt8) (hj : j ≤ 8) : getB ((putB x j ++ r).take j) = x % 2 ^ (8 * j) ∧ (putB x j ++ r).drop j = r := by
  have hl := putB_length x j
  refine ⟨?_, ?_⟩
  · rw [List.take_append_of_le_length (by omega), List.take_of_length_le (by omega), getB_put x j hj]
  · calc (putB x j ++ r).drop j = (putB x j ++ r).drop (putB x j).length := by rw [hl]
      _ = r := List.drop_left

theorem mask_int (x j : Nat) (hx : x < 18446744073709551616) (hj : j < 8) : bits .and .u64 (x : Int) (IntKind.u64.wrap (IntKind.u64.wrap (2 ^ (8 * j)) - 1)) = (x : Int) % 2 ^ (8 * j) := by
  have hp : (2 : Nat) ^ (8 * j) < 18446744073709551616 := by
    calc (2 : Nat) ^ (8 * j) ≤ 2 ^ 56 := Nat.pow_le_pow_right (by decide) (by omega)
      _ < 18446744073709551616 := by decide
  have hp1 : 0 < (2 : Nat) ^ (8 * j) := Nat.pow_pos (by decide)
  have e : IntKind.u64.wrap (IntKind.u64.wrap (2 ^ (8 * j)) - 1) = ((2 ^ (8 * j) - 1 : Nat) : Int) := by
    have : (2 : Int) ^ (8 * j) = ((2 ^ (8 * j) : Nat) : Int) := by push_cast; rfl
    rw [this]
    generalize (2 : Nat) ^ (8 * j) = p at *
    simp [IntKind.wrap, IntKind.bits, IntKind.signed]
    omega
  rw [e, bits_and_u64_nat x _ hx (by omega), Nat.and_two_pow_sub_one_eq_mod]
  push_cast
  rfl

set_option maxHeartbeats 2000000 in
set_option maxRecDepth 100000 in
theorem walk (A : Option Addr) (n c : Nat) (l : List Int) (s : ByteArray) (w : World) (hb : RN w .u64 A n l) (hnc : n ≤ c) (w9 : s.size ≤ maxLen) :
    Calls Try.prog 8 #[.slice A n c, .string s] w fun e w' => e = .returned (.bool true) ∧ Below w.heap.size w w' := by
  have hln := hb.1
  subst hln
  go_enter Try.func8, Try.ntmps8
  go_wp2_with (first | (go_at_call 21; refine (known1_c _).mono ?_; rintro e w1 ⟨rfl, hf1⟩) | (at_builtin; refine stop_append rfl ?_))
  · go_ret
    exact ⟨rfl, hf1.all⟩
  rotate_left
  · go_ret
    exact ⟨rfl, hf1.all⟩
  have hl20 : l.length ≤ 20 := by omega
  have hs100 : s.size ≤ 100 := by omega
  obtain ⟨hb0, hm, hwf, hcells⟩ := hb.below hf1.all
  have hnat : ∀ j (h : j < l.length), ∃ x : Nat, l[j] = (x : Int) ∧ x < 18446744073709551616 := by
    intro j h
    have hx := hwf l[j] (List.getElem_mem h)
    have : 0 ≤ l[j] ∧ l[j] ≤ 18446744073709551615 := by simpa [Lit.wf, IntKind.min, IntKind.max, IntKind.signed, IntKind.bits] using hx
    exact ⟨l[j].toNat, by omega, by omega⟩
  obtain ⟨ns, hns⟩ : ∃ ns : List Nat, l.map Int.toNat = ns := ⟨_, rfl⟩
  have hnl : ns.length = l.length := by rw [← hns]; simp
  have hnj : ∀ j (h : j < l.length) (h2 : j < ns.length), l[j] = (ns[j] : Int) ∧ ns[j] < 18446744073709551616 := by
    intro j h h2
    obtain ⟨x, hx, hx2⟩ := hnat j h
    have : ns[j] = x := by subst hns; simp [hx]
    rw [this]
    exact ⟨hx, hx2⟩
  have hcells' : ∀ j (h : j < ns.length), ∃ b off, A = some ⟨b, off, none⟩ ∧ w1.cell? ⟨b, off + j, none⟩ = some (.int .u64 (ns[j] : Int)) := by
    intro j h
    rcases hcells with h0 | ⟨b, off, hA, hc⟩
    · omega
    · refine ⟨b, off, hA, ?_⟩
      rw [hc j (by omega), (hnj j (by omega) h).1]
  clear hnat hwf
  have hns' := hid hns
  have hnj' := hid hnj
  have hcells2 := hid hcells'
  clear hns hnj hcells' hcells
  go_loopw [5, 6] (fun b i wr => ∃ k : Nat, k ≤ l.length ∧ i = .int .i64 k ∧ OB wr w1.heap.size 5 b (rowB s (ns.take k) 0) ∧ Fr [] w1 wr) (fun _ i _ => l.length - (intOf i).toNat)
  case atStart => exact ⟨0, Nat.zero_le _, rfl, OB.nil _ _ _, Fr.refl _ _⟩
  case round =>
    obtain ⟨k, hk, rfl, ho, hfr⟩ := hrel
    have hlen := rowB_len s (ns.take k) 0
    rw [List.length_take] at hlen
    by_cases hlt : k < l.length
    · obtain ⟨b, off, rfl, hc⟩ := hcells2.out k (by omega)
      have hck := hfr.cell hc (by simp)
      have hx := (hnj'.out k (by omega) (by omega)).2
      have hsnoc := hid (rowB_snoc s ns[k] (ns.take k) 0)
      have htk := hid (show ns.take (k + 1) = ns.take k ++ [ns[k]] from List.take_succ_eq_append_getElem (by omega))
      have hkl : (ns.take k).length = k := by rw [List.length_take]; omega
      have hb9 : (rowB s (ns.take k) 0).length ≤ 20 * (s.size + 10) := Nat.le_trans hlen (Nat.mul_le_mul_right _ (by omega))
      clear hlen
      go_wp2_with fail
      refine (Put_c w1.heap.size u5 _ ns[k] ((k : Int) % 9) (k % 9) hx (by omega) wr ho hfr.size (by omega)).mono ?_
      rintro e w2 ⟨v2, rfl, ho2, hf2, hn2⟩
      have hfr2 : Fr [] w1 w2 := hfr.trans hf2 (fun x hx => .inr (ho.lt x (by simpa using hx)).1)
      go_wp2_with fail
      refine (Text_c w1.heap.size v2 _ s (by omega) w2 ho2 hfr2.size (by rw [List.length_append, putB_length]; omega)).mono ?_
      rintro e w3 ⟨v3, rfl, ho3, hf3, hn3⟩
      have hfr3 : Fr [] w1 w3 := hfr2.trans hf3 (fun x hx => .inr (ho2.lt x (by simpa using hx)).1)
      have ho3' : OB w3 w1.heap.size 5 v3 (rowB s (ns.take (k + 1)) 0) := by
        have h := hsnoc.out
        rw [hkl, Nat.zero_add] at h
        rw [htk.out, h]
        exact ho3
      go_wp2_with fail
      go_roundw
      case rel => exact ⟨k + 1, by omega, rfl, ho3', hfr3⟩
      case measure => simp [intOf]; omega
    · have hkn : k = l.length := by omega
      subst hkn
      rw [List.take_of_length_le (by omega)] at ho
      obtain ⟨A2, c2, rfl, hc2, hr2, hz2⟩ := ho.form
      have hF2 : Fr [] w wr := hf1.then hfr
      obtain ⟨N, hN⟩ : ∃ N, (rowB s ns 0).length = N := ⟨_, rfl⟩
      rw [hN] at hc2 hr2
      rw [hN]
      have hcells3 : ∀ j (h : j < ns.length), ∃ b off, A = some ⟨b, off, none⟩ ∧ wr.cell? ⟨b, off + j, none⟩ = some (.int .u64 (ns[j] : Int)) := by
        intro j h
        obtain ⟨b, off, hA, hc⟩ := hcells2.out j h
        exact ⟨b, off, hA, hfr.cell hc (by simp)⟩
      have hcells4 := hid hcells3
      clear hcells3 hcells2 hz2 ho hlen hN
      go_wp2_with fail
      go_loopw [5, 7] (fun b i w' => ∃ (k : Nat) (B : Option Addr) (m d : Nat), k ≤ l.length ∧ i = .int .i64 k ∧ b = .slice B m d ∧ m ≤ d ∧ RB w' B m (rowB s (ns.drop k) k) ∧ Fr [] wr w') (fun _ i _ => l.length - (intOf i).toNat)
      case atStart => exact ⟨0, A2, N, c2, Nat.zero_le _, rfl, rfl, hc2, hr2, Fr.refl _ _⟩
      case round =>
        rename_i w5
        obtain ⟨k, B, m, d, hk, rfl, rfl, hmd, hrb, hfr5⟩ := hrel
        by_cases hlt : k < l.length
        · obtain ⟨b, off, rfl, hc⟩ := hcells4.out k (by omega)
          have hck := hfr5.cell hc (by simp)
          have hx := (hnj'.out k (by omega) (by omega)).2
          rw [List.drop_eq_getElem_cons (by omega), rowB] at hrb
          have h9 : k % 9 ≤ 8 := by omega
          have hmask := hid (mask_int ns[k] (k % 9) hx)
          obtain ⟨hg1, hg2⟩ := put_head ns[k] (k % 9) (textB s ++ rowB s (ns.drop (k + 1)) (k + 1)) h9
          have hml : k % 9 ≤ m := by have := hrb.1; rw [List.length_append, putB_length] at this; omega
          go_wp2_with fail
          all_goals refine (Get_ok B m d ((k : Int) % 9) (k % 9) _ _ hrb hmd (by omega) hml).mono ?_
          all_goals rw [hg1, hg2]
          all_goals rintro e w6 ⟨v6, rfl, ⟨B6, m6, d6, rfl, hmd6, hr6, hl6⟩, hf6⟩
          all_goals go_wp2_with fail
          all_goals obtain ⟨ht1, ht2, ht3⟩ := text_head s (rowB s (ns.drop (k + 1)) (k + 1)) (by omega)
          all_goals have hm6 : s.size + 2 ≤ m6 := (by have := hr6.1; rw [List.length_append, textB_length] at this; omega)
          all_goals refine (GetText_ok B6 m6 d6 100 _ _ hr6 hmd6 (by omega) (by rw [ht1]; omega) (by rw [ht1]; omega)).mono ?_
          all_goals rw [ht1, ht2, ht3]
          all_goals rintro e w7 ⟨v7, rfl, ⟨B7, m7, d7, rfl, hmd7, hr7, hl7⟩, hf7⟩
          all_goals rw [str_bs]
          · rw [hmask.out (by omega)]
            go_wp2_with fail
            go_roundw
            case rel => exact ⟨k + 1, B7, m7, d7, by omega, rfl, rfl, hmd7, hr7, (hfr5.then hf6).then hf7⟩
            case measure => simp [intOf]; omega
          · have hk8 : k % 9 = 8 := by omega
            have hmod : (ns[k] : Int) % 2 ^ (8 * (k % 9)) = (ns[k] : Int) := by
              rw [hk8]
              have : (2 : Int) ^ (8 * 8) = 18446744073709551616 := by decide
              rw [this]
              omega
            rw [hmod]
            go_wp2_with fail
            go_roundw
            case rel => exact ⟨k + 1, B7, m7, d7, by omega, rfl, rfl, hmd7, hr7, (hfr5.then hf6).then hf7⟩
            case measure => simp [intOf]; omega
        · have hkn : k = l.length := by omega
          subst hkn
          rw [List.drop_of_length_le (by omega)] at hrb
          have hm0 : m = 0 := by have := hrb.1; simpa [rowB] using this.symm
          subst hm0
          go_wp2_with fail
          go_ret
          exact ⟨rfl, (hF2.then hfr5).all⟩
end Go.Proofs.Ytiialjncdhhceaa.bitsRows
