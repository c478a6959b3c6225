/- Contracts of the reference of layer 1: what each function of it computes. -/
import Derived.Test.YtiialjncdhhceaaBits
namespace Go.Proofs.Ytiialjncdhhceaa
open Go.RowKit
set_option linter.unusedVariables false
set_option linter.unusedSimpArgs false

theorem RSum_c (A : Option Addr) (n c : Nat) (l : List UInt8) (w : World) (hb : RB w A n l) :
    Calls Try.prog 26 #[.slice A n c] w fun e w' => e = .returned (.int .u64 (sumB l : Nat)) ∧ w = w' := by
  obtain ⟨hl, hm, hb⟩ := hb
  go_enter Try.func26, Try.ntmps26
  go_wp2
  go_loop [3, 4] (fun h i => ∃ k : Nat, k ≤ n ∧ i = .int .i64 k ∧ h = .int .u64 (sumB (l.take k) : Nat)) (fun _ i => n - (intOf i).toNat)
  case atStart => exact ⟨0, Nat.zero_le _, rfl, rfl⟩
  case round =>
    obtain ⟨k, hk, rfl, rfl⟩ := hrel
    have hs := sumB_lt (l.take k)
    by_cases hlt : k < n
    · rcases hb with h0 | ⟨b, off, rfl, hc⟩
      · omega
      · have hkl : k < l.length := by omega
        have hck := hc k hkl
        have hu := (l[k]).toNat_lt
        have hst := hid (sumB_take l k hkl)
        have hin := hid (sumStep_int (sumB (l.take k)) l[k] hs)
        clear hc
        go_wp2
        go_round
        case rel => exact ⟨k + 1, by omega, by go_num, by rw [hst.out, hin.out]⟩
        case measure => simp [intOf]; omega
    · go_wp2
      go_ret
      have : l.take k = l := List.take_of_length_le (by omega)
      rw [this]
      exact ⟨rfl, rfl⟩

theorem RMix_c (x : Nat) (hx : x < 18446744073709551616) (w : World) :
    Calls Try.prog 28 #[.int .u64 (x : Int)] w fun e w' => e = .returned (.int .u64 (mixN x : Nat)) ∧ w = w' := by
  have hm := hid (mix_int x hx)
  go_enter Try.func28, Try.ntmps28
  go_wp2
  go_ret
  exact ⟨by rw [← hm.out]; rfl, rfl⟩

theorem RHash_c (a b c : Nat) (ha : a < 4294967296) (hb : b < 4294967296) (hc : c < 4294967296) (w : World) :
    Calls Try.prog 30 #[.int .u32 (a : Int), .int .u32 (b : Int), .int .u32 (c : Int)] w fun e w' => e = .returned (.int .u32 (hashN a b c : Nat)) ∧ w = w' := by
  have h1 := mixN_lt a
  go_enter Try.func30, Try.ntmps30
  go_wp2_with fail
  refine (RMix_c a (by omega) _).mono ?_; rintro e w' ⟨rfl, rfl⟩
  go_wp2_with fail
  rw [wrapAdd_int]
  refine (RMix_c _ (mod64_lt _) _).mono ?_; rintro e w' ⟨rfl, rfl⟩
  go_wp2_with fail
  rw [wrapAdd_int]
  refine (RMix_c _ (mod64_lt _) _).mono ?_; rintro e w' ⟨rfl, rfl⟩
  go_wp2_with fail
  go_ret
  exact ⟨by simp [hashN, IntKind.wrap_u32'], rfl⟩

theorem RGroup_c (a : Nat) (ha : a < 256) (w : World) :
    Calls Try.prog 32 #[.int .u8 (a : Int)] w fun e w' => e = .returned (.int .u8 (groupN a : Nat)) ∧ w = w' := by
  have h1 := mixN_lt a
  go_enter Try.func32, Try.ntmps32
  go_wp2_with fail
  refine (RMix_c a (by omega) _).mono ?_; rintro e w' ⟨rfl, rfl⟩
  go_wp2_with fail
  go_ret
  exact ⟨by unfold groupN; simp; try omega, rfl⟩


theorem held {m : Int} {k : Nat} (h : min (max m 0) 8 = (k : Int)) : (m ≤ 0 ∧ m ≤ 8 ∧ k = 0) ∨ (0 < m ∧ m ≤ 8 ∧ m = (k : Int)) ∨ (0 < m ∧ 8 < m ∧ k = 8) := by omega

set_option maxRecDepth 10000 in
theorem RPut_c (base : Nat) (v : Value) (l : List UInt8) (x : Nat) (m : Int) (k : Nat) (hx : x < 18446744073709551616) (hk : min (max m 0) 8 = (k : Int)) (w : World)
    (HO : OB w base 5 v l) (hbase : base ≤ w.heap.size) (hl : l.length + 8 ≤ 140737488355328) :
    Calls Try.prog 33 #[v, .int .u64 (x : Int), .int .i64 m] w (RowPost w base 5 v (l ++ putB x k)) := by
  have hk8 : k ≤ 8 := by omega
  have hx' := hid hx
  rcases held hk with ⟨hm, hm', h0⟩ | ⟨hm, hm', h0⟩ | ⟨hm, hm', h0⟩
  all_goals
    clear hk hx
    have hk' := hid h0
    clear h0
    go_enter Try.func33, Try.ntmps33
    go_wp2_with fail
    go_loopw [0, 8] (fun u i wr => ∃ j : Nat, j ≤ k ∧ i = .int .i64 ((k : Int) - 1 - j) ∧ OB wr base 5 u (l ++ (putB x k).take j) ∧ Fr v.ownBlock.toList w wr ∧ Nw w v u) (fun _ i _ => (intOf i + 1).toNat)
    case atStart => have := hk'.out; exact ⟨0, Nat.zero_le _, by congr 1; omega, by simpa using HO, Fr.refl _ _, Nw.refl _ _⟩
    case round =>
      obtain ⟨j, hj, rfl, hown, hfr, hnw⟩ := hrel
      clear hk'
      by_cases hlt : j < k
      · obtain ⟨i, hi⟩ : ∃ i : Nat, i + 1 + j = k := ⟨k - 1 - j, by omega⟩
        have hi7 : i ≤ 7 := by omega
        rw [show (k : Int) - 1 - j = (i : Int) by omega]
        have hlen : (l ++ (putB x k).take j).length + 1 ≤ 140737488355328 := by rw [List.length_append, List.length_take, putB_length]; omega
        have hi' := hid hi
        clear hi hlt
        have hbs : base ≤ wr.heap.size := by have := hfr.size; omega
        go_wp2_with (at_builtin; refine app1 base rfl _ _ 22 5 rfl Try.underlying22 infoByte hown (byteOf x i) (byteOf_int x i) rfl rfl hbs hlen ?_; intro v1 w1 hown1 hfr1 hnw1)
        go_roundw
        case rel =>
          have hi := hi'.out
          refine ⟨j + 1, by omega, by congr 1; omega, ?_, hfr.trans hfr1 (by intro y hy; simpa using hnw y (by simpa using hy)), hnw.trans hfr.size hnw1⟩
          rw [putB_take x k j (by omega), show k - 1 - j = i by omega, ← List.append_assoc]
          exact hown1
        case measure => simp [intOf]
      · have h0 : (k : Int) - 1 - j < 0 := by omega
        go_wp2
        go_ret
        have hkj : k = j := by omega
        subst hkj
        rw [List.take_of_length_le (by simp [putB])] at hown
        exact ⟨_, rfl, hown, hfr, hnw⟩

theorem RText_c (base : Nat) (v : Value) (l : List UInt8) (s : ByteArray) (hs : s.size ≤ 65535) (w : World)
    (HO : OB w base 5 v l) (hbase : base ≤ w.heap.size) (hl : l.length + s.size + 8 ≤ 140737488355328) :
    Calls Try.prog 37 #[v, .string s] w (RowPost w base 5 v (l ++ textB s)) := by
  go_enter Try.func37, Try.ntmps37
  go_wp2_with fail
  refine (RPut_c base v l s.size 2 2 (by omega) (by omega) w HO hbase (by omega)).mono ?_
  rintro e w' ⟨v1, rfl, hown1, hfr1, hnw1⟩
  have hb1 : base ≤ w'.heap.size := by have := hfr1.size; omega
  have hl1 : (l ++ putB s.size 2).length + s.size ≤ 140737488355328 := by rw [List.length_append, putB_length]; omega
  go_wp2_with (at_builtin; refine appS base rfl _ _ 22 9 5 rfl Try.underlying22 Try.underlying9 infoByte hown1 rfl rfl hb1 hl1 ?_; intro v2 w2 hown2 hfr2 hnw2)
  go_ret
  refine ⟨v2, rfl, ?_, hfr1.trans hfr2 (by intro y hy; simpa using hnw1 y (by simpa using hy)), hnw1.trans hfr1.size hnw2⟩
  rw [List.append_assoc] at hown2
  exact hown2

/-- What the reference's reader of a number hands back. -/
def RGetPost (A : Option Addr) (x : Nat) (rest : List UInt8) (ok : Bool) (w : World) (e : Ending) (w' : World) : Prop :=
  ∃ v, e = .returned (.tuple #[.int .u64 (x : Int), v, .bool ok]) ∧ RestAt w' A v rest ∧ ∃ m, w' = w.drewN m

theorem RGet_ok (A : Option Addr) (n c : Nat) (b : Int) (k : Nat) (l : List UInt8) (w : World) (hb : RB w A n l) (hnc : n ≤ c) (hkb : min (max b 0) 8 = (k : Int)) (hk : k ≤ n) :
    Calls Try.prog 25 #[.slice A n c, .int .i64 b] w (RGetPost A (getB (l.take k)) (l.drop k) true w) := by
  have hcut := hb.cut k hk hnc
  obtain ⟨hl, hm, hcells⟩ := hb.take k hk
  have hn := hb.2.1
  rcases held hkb with ⟨hm, hm', h0⟩ | ⟨hm, hm', h0⟩ | ⟨hm, hm', h0⟩
  · clear hkb
    subst h0
    go_enter Try.func25, Try.ntmps25
    go_wp2_with fail
    go_loop [8, 9] (fun h i => ∃ j : Nat, j ≤ 0 ∧ i = .int .i64 j ∧ h = .int .u64 (getB ((l.take 0).take j) : Nat)) (fun _ i => 0 - (intOf i).toNat)
    case atStart => exact ⟨0, Nat.zero_le _, rfl, rfl⟩
    case round =>
      obtain ⟨j, hj, rfl, rfl⟩ := hrel
      have hs := getB_lt ((l.take 0).take j)
      by_cases hlt : j < 0
      · omega
      · have hfin : (l.take 0).take j = l.take 0 := List.take_of_length_le (by omega)
        have hfin' := hid hfin
        clear hfin
        have hjk : 0 ≤ j := by omega
        go_wp2
        go_quiet (fail)
        go_wp2
        all_goals go_ret3
        all_goals refine ⟨.slice (cutA A 0 c) (n - 0) (c - 0), ?_, ⟨_, _, _, rfl, by omega, ?_, Lies.cut _ _ _⟩, ⟨_, rfl⟩⟩
        all_goals first | ((try rw [hfin'.out]); simp [cutA, Addr.add, *]; done) | exact hcut.below (((Fr.refl [] w).drewN _).all)
  · clear hkb
    subst h0
    go_enter Try.func25, Try.ntmps25
    go_wp2_with fail
    go_loop [8, 9] (fun h i => ∃ j : Nat, j ≤ k ∧ i = .int .i64 j ∧ h = .int .u64 (getB ((l.take k).take j) : Nat)) (fun _ i => k - (intOf i).toNat)
    case atStart => exact ⟨0, Nat.zero_le _, rfl, rfl⟩
    case round =>
      obtain ⟨j, hj, rfl, rfl⟩ := hrel
      have hs := getB_lt ((l.take k).take j)
      by_cases hlt : j < k
      · rcases hcells with h0 | ⟨b', off, rfl, hc⟩
        · omega
        · have hkl : j < (l.take k).length := by omega
          have hck := hc j hkl
          have hu := ((l.take k)[j]).toNat_lt
          have hst := hid (getB_take (l.take k) j hkl)
          have hin := hid (numStep_int (getB ((l.take k).take j)) (l.take k)[j])
          have hjn : j < n := by omega
          clear hc hl
          generalize hL : l.take k = L at *
          have hL' := hid hL
          clear hL
          go_wp2
          go_round
          case rel => exact ⟨j + 1, by omega, by go_num, by rw [hst.out, ← hin.out]⟩
          case measure => simp [intOf]; omega
      · have hfin : (l.take k).take j = l.take k := List.take_of_length_le (by omega)
        have hfin' := hid hfin
        clear hfin
        have hjk : k ≤ j := by omega
        go_wp2
        go_quiet (fail)
        go_wp2
        all_goals go_ret3
        all_goals refine ⟨.slice (cutA A k c) (n - k) (c - k), ?_, ⟨_, _, _, rfl, by omega, ?_, Lies.cut _ _ _⟩, ⟨_, rfl⟩⟩
        all_goals first | ((try rw [hfin'.out]); simp [cutA, Addr.add, *]; done) | exact hcut.below (((Fr.refl [] w).drewN _).all)
  · clear hkb
    subst h0
    go_enter Try.func25, Try.ntmps25
    go_wp2_with fail
    go_loop [8, 9] (fun h i => ∃ j : Nat, j ≤ 8 ∧ i = .int .i64 j ∧ h = .int .u64 (getB ((l.take 8).take j) : Nat)) (fun _ i => 8 - (intOf i).toNat)
    case atStart => exact ⟨0, Nat.zero_le _, rfl, rfl⟩
    case round =>
      obtain ⟨j, hj, rfl, rfl⟩ := hrel
      have hs := getB_lt ((l.take 8).take j)
      by_cases hlt : j < 8
      · rcases hcells with h0 | ⟨b', off, rfl, hc⟩
        · omega
        · have hkl : j < (l.take 8).length := by omega
          have hck := hc j hkl
          have hu := ((l.take 8)[j]).toNat_lt
          have hst := hid (getB_take (l.take 8) j hkl)
          have hin := hid (numStep_int (getB ((l.take 8).take j)) (l.take 8)[j])
          have hjn : j < n := by omega
          clear hc hl
          generalize hL : l.take 8 = L at *
          have hL' := hid hL
          clear hL
          go_wp2
          go_round
          case rel => exact ⟨j + 1, by omega, by go_num, by rw [hst.out, ← hin.out]⟩
          case measure => simp [intOf]; omega
      · have hfin : (l.take 8).take j = l.take 8 := List.take_of_length_le (by omega)
        have hfin' := hid hfin
        clear hfin
        have hjk : 8 ≤ j := by omega
        go_wp2
        go_quiet (fail)
        go_wp2
        all_goals go_ret3
        all_goals refine ⟨.slice (cutA A 8 c) (n - 8) (c - 8), ?_, ⟨_, _, _, rfl, by omega, ?_, Lies.cut _ _ _⟩, ⟨_, rfl⟩⟩
        all_goals first | ((try rw [hfin'.out]); simp [cutA, Addr.add, *]; done) | exact hcut.below (((Fr.refl [] w).drewN _).all)

theorem RGet_short (A : Option Addr) (n c : Nat) (b : Int) (k : Nat) (l : List UInt8) (w : World) (hb : RB w A n l) (hnc : n ≤ c) (hkb : min (max b 0) 8 = (k : Int)) (hk : n < k) :
    Calls Try.prog 25 #[.slice A n c, .int .i64 b] w (RGetPost A 0 l false w) := by
  rcases held hkb with ⟨hm, hm', h0⟩ | ⟨hm, hm', h0⟩ | ⟨hm, hm', h0⟩
  all_goals
    clear hkb
    subst h0
    try omega
  all_goals
    go_enter Try.func25, Try.ntmps25
    go_wp2_with fail
    go_ret3
    exact ⟨.slice A n c, rfl, ⟨A, n, c, rfl, hnc, hb, Lies.refl _⟩, ⟨0, rfl⟩⟩

/-- What the reference's reader of a text hands back. -/
def RGetTextPost (A : Option Addr) (x : List UInt8) (rest : List UInt8) (err : Int) (w : World) (e : Ending) (w' : World) : Prop :=
  ∃ v, e = .returned (.tuple #[.string ⟨x.toArray⟩, v, .int .i64 err]) ∧ RestAt w' A v rest ∧ Fr [] w w'

theorem RGetText_none (A : Option Addr) (n c : Nat) (most : Int) (l : List UInt8) (w : World) (hb : RB w A n l) (hnc : n ≤ c) (h2 : n < 2) :
    Calls Try.prog 36 #[.slice A n c, .int .i64 most] w (RGetTextPost A [] l 11 w) := by
  go_enter Try.func36, Try.ntmps36
  go_wp2_with fail
  refine (RGet_short A n c 2 2 l w hb hnc (by omega) h2).mono ?_; rintro e w' ⟨v, rfl, hrest, m, rfl⟩
  go_wp2_with fail
  go_ret3
  exact ⟨.slice A n c, rfl, ⟨A, n, c, rfl, hnc, hb.below ((Fr.refl [] w).drewN m).all, Lies.refl _⟩, (Fr.refl [] w).drewN m⟩

theorem RGetText_long (A : Option Addr) (n c : Nat) (most : Int) (l : List UInt8) (w : World) (hb : RB w A n l) (hnc : n ≤ c) (h2 : 2 ≤ n) (hmost : -9223372036854775808 ≤ most ∧ most ≤ 9223372036854775807) (hm : most < (getB (l.take 2) : Int)) (hs : getB (l.take 2) ≤ 65535) :
    Calls Try.prog 36 #[.slice A n c, .int .i64 most] w (RGetTextPost A [] l 13 w) := by
  generalize hx : getB (l.take 2) = x at *
  by_cases h0 : most < 0
  all_goals
    go_enter Try.func36, Try.ntmps36
    go_wp2_with fail
    refine (RGet_ok A n c 2 2 l w hb hnc (by omega) h2).mono ?_; rintro e w' ⟨v, rfl, hrest, m, rfl⟩
    rw [hx]
    have hx' := hid hx
    clear hx
    go_wp2_with fail
    go_ret3
    exact ⟨.slice A n c, rfl, ⟨A, n, c, rfl, hnc, hb.below ((Fr.refl [] w).drewN m).all, Lies.refl _⟩, (Fr.refl [] w).drewN m⟩

theorem RGetText_short (A : Option Addr) (n c : Nat) (most : Int) (l : List UInt8) (w : World) (hb : RB w A n l) (hnc : n ≤ c) (h2 : 2 ≤ n) (hmost : most ≤ 9223372036854775807) (hm : (getB (l.take 2) : Int) ≤ most) (hs : getB (l.take 2) ≤ 65535) (hk : n - 2 < getB (l.take 2)) :
    Calls Try.prog 36 #[.slice A n c, .int .i64 most] w (RGetTextPost A [] l 11 w) := by
  generalize hx : getB (l.take 2) = x at *
  have hn := hb.2.1
  go_enter Try.func36, Try.ntmps36
  go_wp2_with fail
  refine (RGet_ok A n c 2 2 l w hb hnc (by omega) h2).mono ?_; rintro e w' ⟨v, rfl, hrest, m, rfl⟩
  obtain ⟨A', n', c', rfl, hnc', hr', hl'⟩ := hrest
  have hn' : n' = n - 2 := by have := hr'.1; rw [List.length_drop] at this; have := hb.1; omega
  rw [hx]
  have hx' := hid hx
  have h3 : n' < x := by omega
  have h4 : n' ≤ 9223372036854775807 := by omega
  clear hx hn' hr'
  go_wp2_with fail
  go_ret3
  exact ⟨.slice A n c, rfl, ⟨A, n, c, rfl, hnc, hb.below ((Fr.refl [] w).drewN m).all, Lies.refl _⟩, (Fr.refl [] w).drewN m⟩

theorem RGetText_ok (A : Option Addr) (n c : Nat) (most : Int) (l : List UInt8) (w : World) (hb : RB w A n l) (hnc : n ≤ c) (h2 : 2 ≤ n) (hmost : most ≤ 9223372036854775807) (hm : (getB (l.take 2) : Int) ≤ most) (hs : getB (l.take 2) ≤ 65535) (hk : getB (l.take 2) ≤ n - 2) :
    Calls Try.prog 36 #[.slice A n c, .int .i64 most] w (RGetTextPost A ((l.drop 2).take (getB (l.take 2))) (l.drop (2 + getB (l.take 2))) 0 w) := by
  generalize hx : getB (l.take 2) = x at *
  have hn := hb.2.1
  go_enter Try.func36, Try.ntmps36
  go_wp2_with fail
  refine (RGet_ok A n c 2 2 l w hb hnc (by omega) h2).mono ?_; rintro e w' ⟨v, rfl, hrest, m, rfl⟩
  obtain ⟨A', n', c', rfl, hnc', hr', hl'⟩ := hrest
  have hn' : n' = n - 2 := by have := hr'.1; rw [List.length_drop] at this; have := hb.1; omega
  rw [hx]
  have hx' := hid hx
  have h3 : ¬ n' < x := by omega
  have h4 : n' ≤ 9223372036854775807 := by omega
  have hn2 := hid hn'
  have hr2 := hid hr'
  have hstr : ∀ j, (convert 22 9 (.slice A' x c')).run Try.prog (w.drewN j) = .ok (.string ⟨((l.drop 2).take x).toArray⟩) (w.drewN j) := fun j =>
    run_str 22 5 9 Try.underlying22 Try.underlying5 Try.underlying9 ((show RB (w.drewN j) A' n' _ from hr').take x (by omega))
  clear hx hn' hr'
  go_wp2_with fail
  go_quiet (fail)
  go_wp2
  all_goals go_ret3
  all_goals refine ⟨.slice (cutA A' x c') (n' - x) (c' - x), ?_, ⟨_, _, _, rfl, by omega, ?_, hl'.trans (Lies.cut _ _ _)⟩, (Fr.refl [] w).drewN _⟩
  all_goals first | (simp [cutA, *]; done) | skip
  all_goals
    have h := hr2.out.cut (c := c') x (by omega) hnc'
    rw [List.drop_drop] at h
    exact h
end Go.Proofs.Ytiialjncdhhceaa
