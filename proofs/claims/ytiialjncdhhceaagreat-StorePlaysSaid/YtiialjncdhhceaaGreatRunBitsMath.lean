/- What follows is 2 texts, one behind the other: JrnConcat, BitsMath. -/
import Derived.Test.YtiialjncdhhceaaGreatRunJrnStrs
import Derived.Lib.AppendZeros
import Derived.Test.YtiialjncdhhceaaGreatBase
/- slices.Grow of nothing, slices.Concat of two slices of bytes. -/
namespace Go.Proofs.YtiialjncdhhceaaGreat
open Go.RowKit
set_option linter.unusedVariables false
set_option linter.unusedSimpArgs false

set_option maxHeartbeats 1000000 in
set_option maxRecDepth 100000 in
theorem Grow_c (n : Nat) (h0 : 0 < n) (hn : n ≤ 1000000) (w : World) :
    Calls Tryz.prog 84 #[.slice none 0 0, .int .i64 (n : Int)] w fun e w' => ∃ v, e = .returned v ∧ OB w' w.heap.size 5 v [] ∧ Fr [] w w' := by
  obtain ⟨i0, hi, hz0, hz1, hz2⟩ := info_parts infoByte
  have happ := Lib.run_append_nil_zeros (P := Tryz.prog) w 30 3 30 5 i0 (.int .u8 0) .i64 .i64 Tryz.underlying30 Tryz.underlying3 hi hz0 n h0 (by omega) (by omega) (by rw [hz2]; omega)
  replace happ := hid happ
  clear hi hz0 hz1 hz2
  go_enter Tryz.func84, Tryz.ntmps84
  go_wp2_with (at_builtin; refine stop_append rfl ?_)
  refine Stop.go (Lib.wpList_append_run _ rfl _ _ _ _ rfl _ _ rfl rfl _ _ happ.out ?_)
  go_wp2_with fail
  go_ret
  have hz : ∀ x, (Builtin.zeroCells #[Value.int IntKind.u8 0] x).size = x := fun x => by rw [size_zeroCells]; simp
  refine ⟨_, rfl, ?_, ((Fr.refl [] w).alloc _).drew⟩
  refine ⟨rfl, .inr ⟨w.heap.size, grownCap w n 0 5, _, rfl, Nat.le_refl _, heap_alloc_new w _, Nat.zero_le _, grownCap_le_maxLen _ _ _ _ (by simp only [maxLen]; omega), ?_, rfl⟩⟩
  rw [Array.size_append, hz, hz]
  have := grownCap_ge w n 0 5
  omega

set_option maxHeartbeats 1000000 in
set_option maxRecDepth 100000 in
theorem Concat_c (cb : Nat) (A1 : Option Addr) (n1 c1 : Nat) (l1 : List UInt8) (A2 : Option Addr) (n2 c2 : Nat) (l2 : List UInt8) (w : World) (h0 : w.cell? ⟨cb, 0, none⟩ = some (.slice A1 n1 c1)) (h1 : w.cell? ⟨cb, 1, none⟩ = some (.slice A2 n2 c2))
    (hb1 : RB w A1 n1 l1) (hb2 : RB w A2 n2 l2) (hpos : 0 < n1 + n2) (hn : n1 + n2 ≤ 1000000) :
    Calls Tryz.prog 74 #[.slice (some ⟨cb, 0, none⟩) 2 2] w fun e w' => ∃ v, e = .returned v ∧ OB w' w.heap.size 5 v (l1 ++ l2) ∧ Fr [] w w' := by
  have hl1 := hb1.1
  have hl2 := hb2.1
  go_enter Tryz.func74, Tryz.ntmps74
  go_wp2_with fail
  go_loopw [3, 11] (fun sv iv wr => ∃ i : Nat, i ≤ 2 ∧ iv = .int .i64 i ∧ sv = .int .i64 ((if i = 0 then 0 else if i = 1 then n1 else n1 + n2 : Nat) : Int) ∧ wr = w) (fun _ iv _ => 2 - (intOf iv).toNat)
  case atStart => exact ⟨0, by omega, rfl, rfl, rfl⟩
  case round =>
    obtain ⟨i, hi, rfl, rfl, rfl⟩ := hrel
    rcases (show i = 0 ∨ i = 1 ∨ i = 2 by omega) with rfl | rfl | rfl
    · simp only [if_true]
      go_wp2_with fail
      try go_frame
      go_roundw
      case rel => exact ⟨1, by omega, rfl, by simp, by trivial⟩
      case measure => simp [intOf]
    · simp only [Nat.one_ne_zero, if_false, if_true]
      go_wp2_with fail
      try go_frame
      go_roundw
      case rel => exact ⟨2, by omega, rfl, by simp, by trivial⟩
      case measure => simp [intOf]
    · simp only [show ¬ (2 : Nat) = 0 by decide, show ¬ (2 : Nat) = 1 by decide, if_false]
      obtain ⟨N, hN⟩ : ∃ N, n1 + n2 = N := ⟨_, rfl⟩
      rw [hN] at hpos hn ⊢
      replace hN := hid hN
      go_wp2_with fail
      obtain ⟨wo, rfl⟩ : ∃ wo, wo = wr := ⟨_, rfl⟩
      refine (Grow_c N hpos hn wo).mono ?_
      rintro e w2 ⟨v2, rfl, ho2, hf2⟩
      go_wp2_with (at_builtin; refine stop_append rfl ?_)
      have g0 := hf2.cell h0 (by simp)
      have g1 := hf2.cell h1 (by simp)
      have r1 := hb1.below hf2.all
      have r2 := hb2.below hf2.all
      go_loopw [6, 27] (fun ov iv wq => ∃ i : Nat, i ≤ 2 ∧ iv = .int .i64 i ∧ OB wq wo.heap.size 5 ov (if i = 0 then [] else if i = 1 then l1 else l1 ++ l2) ∧ Fr [] wo wq) (fun _ iv _ => 2 - (intOf iv).toNat)
      case atStart => exact ⟨0, by omega, rfl, ho2, hf2⟩
      case round =>
        obtain ⟨i, hi, rfl, hO, hfq⟩ := hrel
        rcases (show i = 0 ∨ i = 1 ∨ i = 2 by omega) with rfl | rfl | rfl
        · rw [if_pos rfl] at hO
          have k0 := hfq.cell h0 (by simp)
          have q1 := hb1.below hfq.all
          go_wp2_with (at_builtin; refine stop_append rfl ?_)
          refine Stop.go (appN wo.heap.size rfl _ _ 30 5 rfl Tryz.underlying30 infoByte hO q1 rfl rfl hfq.size (by simp; have := hN.out; omega) ?_)
          intro v4 w4 hO4 hf4 hn4
          rw [List.nil_append] at hO4
          have hf04 : Fr [] wo w4 := hfq.past hf4 (fun z hz => (hO.lt z (by simpa using hz)).1)
          clear k0
          go_wp2_with fail
          try go_frame
          go_roundw
          case rel => exact ⟨1, by omega, rfl, hO4, hf04⟩
          case measure => simp [intOf]
        · rw [if_neg (by decide), if_pos rfl] at hO
          have k1 := hfq.cell h1 (by simp)
          have q2 := hb2.below hfq.all
          go_wp2_with (at_builtin; refine stop_append rfl ?_)
          refine Stop.go (appN wo.heap.size rfl _ _ 30 5 rfl Tryz.underlying30 infoByte hO q2 rfl rfl hfq.size (by have := hN.out; omega) ?_)
          intro v4 w4 hO4 hf4 hn4
          have hf04 : Fr [] wo w4 := hfq.past hf4 (fun z hz => (hO.lt z (by simpa using hz)).1)
          clear k1
          go_wp2_with fail
          try go_frame
          go_roundw
          case rel => exact ⟨2, by omega, rfl, hO4, hf04⟩
          case measure => simp [intOf]
        · rw [if_neg (by decide), if_neg (by decide)] at hO
          go_wp2_with fail
          go_ret
          exact ⟨_, rfl, hO, hfq⟩
end Go.Proofs.YtiialjncdhhceaaGreat

/- Plain laws on sums, mixing and numbers in bytes: no program in sight. -/
namespace Go.Proofs.YtiialjncdhhceaaGreat
set_option linter.unusedVariables false

/-! ### sums -/
theorem odd_cancel (C K : Nat) (hCK : C * K % 18446744073709551616 = 1) (x y : Nat) (hx : x < 18446744073709551616) (hy : y < 18446744073709551616) (h : x * C % 18446744073709551616 = y * C % 18446744073709551616) : x = y := by
  have key : ∀ z : Nat, z < 18446744073709551616 → (z * C % 18446744073709551616) * K % 18446744073709551616 = z := by
    intro z hz
    rw [Nat.mod_mul_mod, Nat.mul_assoc, Nat.mul_mod, hCK, Nat.mul_one, Nat.mod_mod, Nat.mod_eq_of_lt hz]
  rw [← key x hx, ← key y hy, h]

theorem xor_lt64 (x y : Nat) (hx : x < 18446744073709551616) (hy : y < 18446744073709551616) : x ^^^ y < 18446744073709551616 := by
  have := Nat.xor_lt_two_pow (n := 64) (show x < 2 ^ 64 by omega) (show y < 2 ^ 64 by omega)
  omega

theorem sumStep_inj (h h' : Nat) (c : UInt8) (hh : h < 18446744073709551616) (hh' : h' < 18446744073709551616) (he : sumStep h c = sumStep h' c) : h = h' := by
  have hc := c.toNat_lt
  unfold sumStep at he
  have h1 := odd_cancel 1099511628211 14886173955864302971 (by decide) _ _ (xor_lt64 h c.toNat hh (by omega)) (xor_lt64 h' c.toNat hh' (by omega)) he
  have h2 := congrArg (fun z => z ^^^ c.toNat) h1
  simpa [Nat.xor_assoc] using h2

theorem sumStep_byte (h : Nat) (c d : UInt8) (hh : h < 18446744073709551616) (he : sumStep h c = sumStep h d) : c = d := by
  have hc := c.toNat_lt
  have hd := d.toNat_lt
  unfold sumStep at he
  have h1 := odd_cancel 1099511628211 14886173955864302971 (by decide) _ _ (xor_lt64 h c.toNat hh (by omega)) (xor_lt64 h d.toNat hh (by omega)) he
  have h2 := congrArg (fun z => h ^^^ z) h1
  simp [← Nat.xor_assoc] at h2
  exact UInt8.toNat_inj.1 h2

theorem fold_inj (l : List UInt8) : ∀ (h h' : Nat), h < 18446744073709551616 → h' < 18446744073709551616 → l.foldl sumStep h = l.foldl sumStep h' → h = h' := by
  induction l with
  | nil => intro h h' _ _ he; exact he
  | cons c l ih => intro h h' hh hh' he; exact sumStep_inj h h' c hh hh' (ih _ _ (sumStep_lt _ _) (sumStep_lt _ _) he)

/-- Bytes of which one was turned have another sum. -/
theorem sumB_set (l : List UInt8) (i : Nat) (hi : i < l.length) (c : UInt8) : sumB (l.set i c) = sumB l ↔ c = l[i] := by
  constructor
  · intro he
    have e1 : l = l.take i ++ l[i] :: l.drop (i + 1) := by simp
    have e2 : l.set i c = l.take i ++ c :: l.drop (i + 1) := List.set_eq_take_append_cons_drop.trans (by rw [if_pos hi])
    unfold sumB at he
    rw [e2] at he
    conv at he => rhs; rw [e1]
    rw [List.foldl_append, List.foldl_append, List.foldl_cons, List.foldl_cons] at he
    have hs : (l.take i).foldl sumStep 14695981039346656037 < 18446744073709551616 := sumB_lt (l.take i)
    exact sumStep_byte _ _ _ hs (fold_inj _ _ _ (sumStep_lt _ _) (sumStep_lt _ _) he)
  · rintro rfl
    rw [List.set_getElem_self]

/-! ### mixing -/
theorem halfN_inj (x y : Nat) (hx : x < 18446744073709551616) (hy : y < 18446744073709551616) (h : halfN x = halfN y) : x = y := by
  have key : ∀ z : Nat, z < 18446744073709551616 → halfN (halfN z) = z := by
    intro z hz
    unfold halfN
    have h1 : (z ^^^ z / 8589934592) / 8589934592 = z / 8589934592 ^^^ z / 8589934592 / 8589934592 := by
      have e : (8589934592 : Nat) = 2 ^ 33 := by decide
      rw [e, ← Nat.shiftRight_eq_div_pow, ← Nat.shiftRight_eq_div_pow, ← Nat.shiftRight_eq_div_pow, Nat.shiftRight_xor_distrib]
    have h2 : z / 8589934592 / 8589934592 = 0 := by omega
    rw [h1, h2, Nat.xor_zero, Nat.xor_assoc, Nat.xor_self, Nat.xor_zero]
  rw [← key x hx, ← key y hy, h]

theorem mixN_inj (x y : Nat) (hx : x < 18446744073709551616) (hy : y < 18446744073709551616) (h : mixN x = mixN y) : x = y := by
  unfold mixN at h
  have h1 := halfN_inj _ _ (mod64_lt _) (mod64_lt _) h
  have h2 := odd_cancel 14181476777654086739 11291846944257947611 (by decide) _ _ (halfN_lt _ (mod64_lt _)) (halfN_lt _ (mod64_lt _)) h1
  have h3 := halfN_inj _ _ (mod64_lt _) (mod64_lt _) h2
  have h4 := odd_cancel 18397679294719823053 5725274745694666757 (by decide) _ _ (halfN_lt _ hx) (halfN_lt _ hy) h3
  exact halfN_inj _ _ hx hy h4

/-! ### numbers in bytes -/
theorem byteOf_toNat (x i : Nat) : (byteOf x i).toNat = x / 2 ^ (8 * i) % 256 := by
  unfold byteOf
  rw [UInt8.toNat_ofNat']
theorem numStep_small (n : Nat) (c : UInt8) (h : n * 256 < 18446744073709551616) : numStep n c = n * 256 + c.toNat := by
  unfold numStep
  have hc := c.toNat_lt
  rw [Nat.mod_eq_of_lt h]
  have e : n * 256 = n <<< 8 := by rw [Nat.shiftLeft_eq]
  rw [e, ← Nat.shiftLeft_add_eq_or_of_lt (by omega)]

theorem getB_putTake (x k : Nat) (hk : k ≤ 8) : ∀ j, j ≤ k → getB ((putB x k).take j) = x / 2 ^ (8 * (k - j)) % 2 ^ (8 * j) := by
  intro j
  induction j with
  | zero => intro _; simp [getB, Nat.mod_one]
  | succ j ih =>
    intro hj
    have hih := ih (by omega)
    rw [putB_take x k j (by omega), getB_snoc, hih]
    have hp : 2 ^ (8 * j) ≤ 2 ^ 56 := Nat.pow_le_pow_right (by decide) (by omega)
    have hlt : x / 2 ^ (8 * (k - j)) % 2 ^ (8 * j) < 2 ^ (8 * j) := Nat.mod_lt _ (Nat.pow_pos (by decide))
    rw [numStep_small _ _ (by have : (2 : Nat) ^ 56 * 256 = 18446744073709551616 := by decide
                              have h3 : x / 2 ^ (8 * (k - j)) % 2 ^ (8 * j) * 256 < 2 ^ 56 * 256 := Nat.mul_lt_mul_of_pos_right (Nat.lt_of_lt_of_le hlt hp) (by decide)
                              omega), byteOf_toNat]
    have e1 : k - 1 - j = k - (j + 1) := by omega
    have e2 : 8 * (k - j) = 8 * (k - (j + 1)) + 8 := by omega
    have e3 : 8 * (j + 1) = 8 + 8 * j := by omega
    rw [e1, e2, Nat.pow_add, ← Nat.div_div_eq_div_mul]
    generalize x / 2 ^ (8 * (k - (j + 1))) = y
    rw [e3, Nat.pow_add, Nat.mod_mul]
    have e4 : (2 : Nat) ^ 8 = 256 := by decide
    rw [e4]
    omega

theorem getB_put (x k : Nat) (hk : k ≤ 8) : getB (putB x k) = x % 2 ^ (8 * k) := by
  have h := getB_putTake x k hk k (Nat.le_refl _)
  rw [List.take_of_length_le (by rw [putB_length]; exact Nat.le_refl _), Nat.sub_self, Nat.mul_zero, Nat.pow_zero, Nat.div_one] at h
  exact h
theorem getB_put8 (x : Nat) (h : x < 18446744073709551616) : getB (putB x 8) = x := by
  rw [getB_put x 8 (by omega)]
  exact Nat.mod_eq_of_lt (by have : (2 : Nat) ^ (8 * 8) = 18446744073709551616 := by decide
                             omega)

theorem putB_drop (x j : Nat) (hj : j ≤ 8) : putB x j = (putB x 8).drop (8 - j) := by
  apply List.ext_getElem
  · rw [putB_length, List.length_drop, putB_length]; omega
  · intro i h1 h2
    rw [putB_length] at h1
    simp only [putB, List.getElem_drop, List.getElem_map, List.getElem_range]
    congr 1
    omega
theorem putB_zero (x : Nat) : putB x 0 = [] := rfl
end Go.Proofs.YtiialjncdhhceaaGreat
