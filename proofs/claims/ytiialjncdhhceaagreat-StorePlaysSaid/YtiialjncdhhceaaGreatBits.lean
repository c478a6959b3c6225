/- Contracts of package bits: what each function of it computes. -/
import Derived.Test.YtiialjncdhhceaaGreatProg
import Derived.Test.YtiialjncdhhceaaGreatBase
import Derived.Deep.QuietTactic
import Derived.BigQuiet
namespace Go.Proofs.YtiialjncdhhceaaGreat
open Go.RowKit
set_option linter.unusedVariables false
set_option linter.unusedSimpArgs false

theorem infoByte : (Tryz.prog.info? 5).map (fun i => (i.zero, i.size, i.bytes)) = some (some (.int .u8 0), 1, 1) := by kernel_rfl

theorem width_c (n : Int) (k : Nat) (hk : min (max n 0) 8 = (k : Int)) (w : World) : Calls Tryz.prog 71 #[.int .i64 n] w fun e w' => e = .returned (.int .i64 (k : Int)) ∧ w = w' := by
  have hk' := hid hk
  clear hk
  go_enter Tryz.func71, Tryz.ntmps71
  go_wp2
  all_goals go_ret
  all_goals exact ⟨by rw [← hk'.out]; congr 2; simp; omega, rfl⟩

/-- What a call that writes row v, holding l, leaves: a row that holds l'. -/
def RowPost (w : World) (base E : Nat) (v : Value) (l' : List UInt8) (e : Ending) (w' : World) : Prop :=
  ∃ v', e = .returned v' ∧ OB w' base E v' l' ∧ Fr v.ownBlock.toList w w' ∧ Nw w v v'

set_option maxRecDepth 10000 in
theorem Put_c (base : Nat) (v : Value) (l : List UInt8) (x : Nat) (m : Int) (k : Nat) (hx : x < 18446744073709551616) (hk : min (max m 0) 8 = (k : Int)) (w : World)
    (HO : OB w base 5 v l) (hbase : base ≤ w.heap.size) (hl : l.length + 8 ≤ 140737488355328) :
    Calls Tryz.prog 43 #[v, .int .u64 (x : Int), .int .i64 m] w (RowPost w base 5 v (l ++ putB x k)) := by
  have hk8 : k ≤ 8 := by omega
  have hk' := hid hk
  clear hk
  go_enter Tryz.func43, Tryz.ntmps43
  go_wp2_with (go_at_call 71; refine (width_c _ k hk'.out _).mono ?_; rintro e w' ⟨rfl, rfl⟩)
  go_loopw [0, 7] (fun u i wr => ∃ j : Nat, j ≤ k ∧ i = .int .i64 ((k : Int) - 1 - j) ∧ OB wr base 5 u (l ++ (putB x k).take j) ∧ Fr v.ownBlock.toList w wr ∧ Nw w v u) (fun _ i _ => (intOf i + 1).toNat)
  case atStart => exact ⟨0, Nat.zero_le _, by simp, by simpa using HO, Fr.refl _ _, Nw.refl _ _⟩
  case round =>
    obtain ⟨j, hj, rfl, hown, hfr, hnw⟩ := hrel
    by_cases hlt : j < k
    · obtain ⟨i, hi⟩ : ∃ i : Nat, i + 1 + j = k := ⟨k - 1 - j, by omega⟩
      have hi7 : i ≤ 7 := by omega
      rw [show (k : Int) - 1 - j = (i : Int) by omega]
      have hlen : (l ++ (putB x k).take j).length + 1 ≤ 140737488355328 := by rw [List.length_append, List.length_take, putB_length]; omega
      have hi' := hid hi
      have hx' := hid hx
      clear hi hx hlt
      have hbs : base ≤ wr.heap.size := by have := hfr.size; omega
      go_wp2_with (at_builtin; (refine app1 base rfl _ _ 30 5 rfl Tryz.underlying30 infoByte hown (byteOf x i) (byteOf_int x i) rfl rfl hbs hlen ?_); intro v1 w1 hown1 hfr1 hnw1)
      go_roundw
      case rel =>
        have hi := hi'.out
        refine ⟨j + 1, by omega, by congr 1; omega, ?_, hfr.trans hfr1 (by intro y hy; simpa using hnw y (by simpa using hy)), hnw.trans hfr.size hnw1⟩
        rw [putB_take x k j (by omega), show k - 1 - j = i by omega, ← List.append_assoc]
        exact hown1
      case measure => simp [intOf]
    · have h0 : (k : Int) - 1 - j < 0 := by omega
      go_wp2
      go_ret
      have hkj : k = j := by omega
      subst hkj
      rw [List.take_of_length_le (by simp [putB])] at hown
      exact ⟨_, rfl, hown, hfr, hnw⟩

theorem cut_ok (A : Option Addr) (n c k : Nat) (w : World) (hnc : n ≤ c) (hk : k ≤ n) :
    Calls Tryz.prog 83 #[.slice A n c, .int .i64 (k : Int)] w fun e w' => e = .returned (.tuple #[.slice A k c, .slice (cutA A k c) (n - k) (c - k)]) ∧ ∃ m, w' = w.drewN m := by
  go_enter Tryz.func83, Tryz.ntmps83
  have h : ¬ n < k := by omega
  go_wp2
  go_quiet (fail)
  go_wp2
  all_goals go_ret2
  all_goals exact ⟨by simp [cutA, *], _, rfl⟩

theorem cut_short (A : Option Addr) (n c k : Nat) (w : World) (hk : n < k) :
    Calls Tryz.prog 83 #[.slice A n c, .int .i64 (k : Int)] w fun e w' => e = .panicked [{ v := .iface 24 (.int .i64 11), recovered := false }] ∧ w = w' := by
  go_enter Tryz.func83, Tryz.ntmps83
  go_wp2
  exact ⟨rfl, rfl, rfl⟩

theorem assert_errno (n : Int) (w : World) : (Instr.typeAssert (.iface 24 (.int .i64 n)) 20 24 true).run Tryz.prog w = .ok (.tuple #[.int .i64 n, .bool true]) w := by kernel_rfl

theorem told_panicking (p : Addr) (x n : Int) (older : List PanicEntry) (w : World) (hc : w.cell? p = some (.int .i64 x)) (hz : w.frozen? p = false) :
    CallsD Tryz.prog 81 #[.pointer (some p)] (.panicking ({ v := .iface 24 (.int .i64 n), recovered := false } :: older)) w fun e u' w' =>
      e = .returned (.tuple #[]) ∧ u' = .panicking ({ v := .iface 24 (.int .i64 n), recovered := true } :: older) ∧ w' = w.setCell p (.int .i64 n) := by
  refine callsD_of_wpS Tryz.func81 rfl fun c₀ cs hu => ?_
  simp only [Tryz.ntmps81, List.size_toArray, List.length_cons, List.length_nil, Nat.reduceAdd, Nat.reduceSub, Array.replicate_succ, Array.replicate_zero, List.push_toArray, List.append_toArray, List.nil_append, List.cons_append]
  apply wpS_seq
  apply wpS_region
  simp [wpOpsS, go_sem, recoverD, hu, Exit.thenS]
  refine wpS_of_wp (wp_mono (Q := fun e a' w' => e = .normal ∧ a'.defers = [] ∧ w' = w.setCell p (.int .i64 n)) ?_ ?_)
  · clear hu
    have hta := assert_errno n
    go_wp2
  · rintro e a' w' ⟨rfl, hd, rfl⟩
    refine ⟨hd, _, ?_, _, results_none rfl _ _ _, rfl, rfl, rfl⟩
    cases c₀
    rfl

theorem told_idle (p : Addr) (w : World) :
    CallsD Tryz.prog 81 #[.pointer (some p)] .returning w fun e u' w' => e = .returned (.tuple #[]) ∧ u' = .returning ∧ w' = w := by
  refine callsD_of_wpS Tryz.func81 rfl fun c₀ cs hu => ?_
  simp only [Tryz.ntmps81, List.size_toArray, List.length_cons, List.length_nil, Nat.reduceAdd, Nat.reduceSub, Array.replicate_succ, Array.replicate_zero, List.push_toArray, List.append_toArray, List.nil_append, List.cons_append]
  apply wpS_seq
  apply wpS_region
  simp [wpOpsS, go_sem, recoverD, hu, Exit.thenS]
  refine wpS_of_wp (wp_mono (Q := fun e a' w' => e = .normal ∧ a'.defers = [] ∧ w' = w) ?_ ?_)
  · clear hu
    go_wp2
  · rintro e a' w' ⟨rfl, hd, rfl⟩
    refine ⟨hd, .returning, ?_, _, results_none rfl _ _ _, rfl, rfl, rfl⟩
    cases c₀
    simp_all

theorem number_ok (A : Option Addr) (n c k : Nat) (l : List UInt8) (w : World) (hb : RB w A n l) (hnc : n ≤ c) (hk : k ≤ n) :
    Calls Tryz.prog 82 #[.slice A n c, .int .i64 (k : Int)] w fun e w' => e = .returned (.tuple #[.int .u64 (getB (l.take k) : Nat), .slice (cutA A k c) (n - k) (c - k)]) ∧ ∃ m, w' = w.drewN m := by
  obtain ⟨hl, hm, hb⟩ := hb.take k hk
  go_enter Tryz.func82, Tryz.ntmps82
  go_wp2_with (go_at_call 83; refine (cut_ok A n c k _ hnc hk).mono ?_; rintro e w' ⟨rfl, m, rfl⟩)
  go_loop [8, 19] (fun h i => ∃ j : Nat, j ≤ k ∧ i = .int .i64 j ∧ h = .int .u64 (getB ((l.take k).take j) : Nat)) (fun _ i => k - (intOf i).toNat)
  case atStart => exact ⟨0, Nat.zero_le _, rfl, rfl⟩
  case round =>
    obtain ⟨j, hj, rfl, rfl⟩ := hrel
    have hs := getB_lt ((l.take k).take j)
    by_cases hlt : j < k
    · rcases hb with h0 | ⟨b, off, rfl, hc⟩
      · omega
      · have hkl : j < (l.take k).length := by omega
        have hck := hc j hkl
        have hu := ((l.take k)[j]).toNat_lt
        have hst := hid (getB_take (l.take k) j hkl)
        have hin := hid (numStep_int (getB ((l.take k).take j)) (l.take k)[j])
        have hlk := hid hl
        clear hc hl
        generalize hL : l.take k = L at *
        have hL' := hid hL
        clear hL
        go_wp2
        go_round
        case rel => exact ⟨j + 1, by omega, by go_num, by rw [hst.out, ← hin.out]⟩
        case measure => simp [intOf]; omega
    · go_wp2
      go_ret2
      have : (l.take k).take j = l.take k := List.take_of_length_le (by omega)
      rw [this]
      exact ⟨rfl, _, rfl⟩

theorem number_short (A : Option Addr) (n c k : Nat) (w : World) (hk : n < k) :
    Calls Tryz.prog 82 #[.slice A n c, .int .i64 (k : Int)] w fun e w' => e = .panicked [{ v := .iface 24 (.int .i64 11), recovered := false }] ∧ w = w' := by
  go_enter Tryz.func82, Tryz.ntmps82
  go_wp2_with (go_at_call 83; refine (cut_short A n c k _ hk).mono ?_; rintro e w' ⟨rfl, rfl⟩)
  exact ⟨rfl, rfl, rfl⟩

/-- What a reader of a number hands back: the number, what is behind it, an error's number. -/
def GetPost (A : Option Addr) (x : Nat) (rest : List UInt8) (err : Int) (w : World) (e : Ending) (w' : World) : Prop :=
  ∃ v, e = .returned (.tuple #[.int .u64 (x : Int), v, .int .i64 err]) ∧ RestAt w' A v rest ∧ Fr [] w w'

theorem Get_ok (A : Option Addr) (n c : Nat) (b : Int) (k : Nat) (l : List UInt8) (w : World) (hb : RB w A n l) (hnc : n ≤ c) (hkb : min (max b 0) 8 = (k : Int)) (hk : k ≤ n) :
    Calls Tryz.prog 60 #[.slice A n c, .int .i64 b] w (GetPost A (getB (l.take k)) (l.drop k) 0 w) := by
  have hkb' := hid hkb
  clear hkb
  go_enter_defers Tryz.func60, Tryz.ntmps60
  go_wp2_with (first | (go_at_call 71; refine (width_c _ k hkb'.out _).mono ?_; rintro e w' ⟨rfl, rfl⟩) | (go_at_call 82; refine (number_ok A n c k l _ (hb.below ((Below.refl _ _).alloc (Nat.le_refl _) _)) hnc hk).mono ?_; rintro e w' ⟨rfl, m, rfl⟩))
  refine leaves_cons (f := 81) (args := #[.pointer (some ⟨w.heap.size, 0, none⟩)]) (by simp) (by simp [go_sem]) ?_
  refine (told_idle _ _).mono ?_
  rintro e u' w'' ⟨rfl, rfl, rfl⟩
  refine ⟨.tuple #[.int .u64 (getB (l.take k) : Nat), .slice (cutA A k c) (n - k) (c - k), .int .i64 0], ?_, .slice (cutA A k c) (n - k) (c - k), rfl, ⟨cutA A k c, n - k, c - k, rfl, by omega, ?_, Lies.cut _ _ _⟩, ?_⟩
  · simp [results, Tryz.results60, go_sem]
  · exact (hb.cut k hk hnc).below ((((Fr.refl [] w).alloc _).drewN m).setCell _ (.inr (Nat.le_refl _)) _).all
  · exact (((Fr.refl [] w).alloc _).drewN m).setCell _ (.inr (Nat.le_refl _)) _

theorem Get_short (A : Option Addr) (n c : Nat) (b : Int) (k : Nat) (l : List UInt8) (w : World) (hb : RB w A n l) (hnc : n ≤ c) (hkb : min (max b 0) 8 = (k : Int)) (hk : n < k) :
    Calls Tryz.prog 60 #[.slice A n c, .int .i64 b] w (GetPost A 0 l 11 w) := by
  have hkb' := hid hkb
  clear hkb
  go_enter_defers Tryz.func60, Tryz.ntmps60
  go_wp2_with (first | (go_at_call 71; refine (width_c _ k hkb'.out _).mono ?_; rintro e w' ⟨rfl, rfl⟩) | (go_at_call 82; refine (number_short A n c k _ hk).mono ?_; rintro e w' ⟨rfl, rfl⟩))
  refine leaves_cons (f := 81) (args := #[.pointer (some ⟨w.heap.size, 0, none⟩)]) (by simp) (by simp [go_sem]) ?_
  refine (told_panicking ⟨w.heap.size, 0, none⟩ 0 11 [] _ ?_ ?_).mono ?_
  · simp [go_sem]
  · simp [go_sem]
  rintro e u' w'' ⟨rfl, rfl, rfl⟩
  refine ⟨.tuple #[.int .u64 0, .slice A n c, .int .i64 11], ?_, .slice A n c, rfl, ⟨A, n, c, rfl, hnc, ?_, Lies.refl _⟩, ?_⟩
  · simp [results, Tryz.results60, go_sem]
  · exact hb.below (((Fr.refl [] w).alloc _).setCell _ (.inr (Nat.le_refl _)) _).all
  · exact ((Fr.refl [] w).alloc _).setCell _ (.inr (Nat.le_refl _)) _

/-- A text behind its length. -/
def textB (s : ByteArray) : List UInt8 := putB s.size 2 ++ bs s
theorem textB_length (s : ByteArray) : (textB s).length = s.size + 2 := by
  unfold textB
  rw [List.length_append, putB_length, bs_length]
  omega

theorem Text_c (base : Nat) (v : Value) (l : List UInt8) (s : ByteArray) (hs : s.size ≤ 65535) (w : World)
    (HO : OB w base 5 v l) (hbase : base ≤ w.heap.size) (hl : l.length + s.size + 8 ≤ 140737488355328) :
    Calls Tryz.prog 73 #[v, .string s] w (RowPost w base 5 v (l ++ textB s)) := by
  go_enter Tryz.func73, Tryz.ntmps73
  go_wp2_with fail
  refine (Put_c base v l s.size 2 2 (by omega) (by omega) w HO hbase (by omega)).mono ?_
  rintro e w' ⟨v1, rfl, hown1, hfr1, hnw1⟩
  have hb1 : base ≤ w'.heap.size := by have := hfr1.size; omega
  have hl1 : (l ++ putB s.size 2).length + s.size ≤ 140737488355328 := by rw [List.length_append, putB_length]; omega
  go_wp2_with (at_builtin; refine appS base rfl _ _ 30 9 5 rfl Tryz.underlying30 Tryz.underlying9 infoByte hown1 rfl rfl hb1 hl1 ?_; intro v2 w2 hown2 hfr2 hnw2)
  go_ret
  refine ⟨v2, rfl, ?_, hfr1.trans hfr2 (by intro y hy; simpa using hnw1 y (by simpa using hy)), hnw1.trans hfr1.size hnw2⟩
  rw [List.append_assoc] at hown2
  exact hown2

/-- What a reader of a text hands back. -/
def GetTextPost (A : Option Addr) (x : List UInt8) (rest : List UInt8) (err : Int) (w : World) (e : Ending) (w' : World) : Prop :=
  ∃ v, e = .returned (.tuple #[.string ⟨x.toArray⟩, v, .int .i64 err]) ∧ RestAt w' A v rest ∧ Fr [] w w'

/-- A text of n bytes behind its length, at most 'most' of them. -/
theorem GetText_ok (A : Option Addr) (n c : Nat) (most : Int) (l : List UInt8) (w : World) (hb : RB w A n l) (hnc : n ≤ c) (h2 : 2 ≤ n) (hm : (getB (l.take 2) : Int) ≤ most) (hk : getB (l.take 2) ≤ n - 2) :
    Calls Tryz.prog 65 #[.slice A n c, .int .i64 most] w (GetTextPost A ((l.drop 2).take (getB (l.take 2))) (l.drop (2 + getB (l.take 2))) 0 w) := by
  have hlt := getB_lt (l.take 2)
  generalize hx : getB (l.take 2) = x at *
  have hbl := hb.2.1
  go_enter_defers Tryz.func65, Tryz.ntmps65
  go_wp2_with fail
  refine (number_ok A n c 2 l _ (hb.below ((Below.refl _ _).alloc (Nat.le_refl _) _)) hnc h2).mono ?_; rintro e w' ⟨rfl, m, rfl⟩
  rw [hx]
  have hx' := hid hx
  clear hx
  go_wp2_with fail
  refine (cut_ok (cutA A 2 c) (n - 2) (c - 2) x _ (by omega) hk).mono ?_; rintro e w' ⟨rfl, m2, rfl⟩
  have hstr : ∀ j, (convert 30 9 (.slice (cutA A 2 c) x (c - 2))).run Tryz.prog ((w.alloc (Obj.cells #[Value.int IntKind.i64 0] 24)).drewN j) = .ok (.string ⟨((l.drop 2).take x).toArray⟩) ((w.alloc (Obj.cells #[Value.int IntKind.i64 0] 24)).drewN j) := fun j =>
    run_str 30 5 9 Tryz.underlying30 Tryz.underlying5 Tryz.underlying9 (((hb.cut 2 h2 hnc).take x hk).below (((Fr.refl [] w).alloc _).drewN j).all)
  rw [World.drewN_drewN]
  go_wp2_with fail
  refine leaves_cons (f := 81) (args := #[.pointer (some ⟨w.heap.size, 0, none⟩)]) (by simp) (by simp [go_sem]) ?_
  refine (told_idle _ _).mono ?_
  rintro e u' w'' ⟨rfl, rfl, rfl⟩
  refine ⟨.tuple #[.string ⟨((l.drop 2).take x).toArray⟩, .slice (cutA (cutA A 2 c) x (c - 2)) (n - 2 - x) (c - 2 - x), .int .i64 0], ?_, .slice (cutA (cutA A 2 c) x (c - 2)) (n - 2 - x) (c - 2 - x), rfl, ⟨_, _, _, rfl, by omega, ?_, (Lies.cut A 2 c).trans (Lies.cut _ _ _)⟩, ?_⟩
  · simp [results, Tryz.results65, go_sem]
  · have h := (hb.cut 2 h2 hnc).cut (c := c - 2) x hk (by omega)
    rw [List.drop_drop] at h
    exact h.below ((((Fr.refl [] w).alloc _).drewN _).setCell _ (.inr (Nat.le_refl _)) _).all
  · exact (((Fr.refl [] w).alloc _).drewN _).setCell _ (.inr (Nat.le_refl _)) _

/-- .. that is longer than may be. -/
theorem GetText_long (A : Option Addr) (n c : Nat) (most : Int) (l : List UInt8) (w : World) (hb : RB w A n l) (hnc : n ≤ c) (h2 : 2 ≤ n) (hm : most < (getB (l.take 2) : Int)) (hs : getB (l.take 2) ≤ 65535) :
    Calls Tryz.prog 65 #[.slice A n c, .int .i64 most] w (GetTextPost A [] l 13 w) := by
  generalize hx : getB (l.take 2) = x at *
  have hbl := hb.2.1
  go_enter_defers Tryz.func65, Tryz.ntmps65
  go_wp2_with fail
  refine (number_ok A n c 2 l _ (hb.below ((Below.refl _ _).alloc (Nat.le_refl _) _)) hnc h2).mono ?_; rintro e w' ⟨rfl, m, rfl⟩
  rw [hx]
  have hx' := hid hx
  clear hx
  go_wp2_with fail
  refine leaves_cons (f := 81) (args := #[.pointer (some ⟨w.heap.size, 0, none⟩)]) (by simp) (by simp [go_sem]) ?_
  refine (told_panicking ⟨w.heap.size, 0, none⟩ 0 13 [] _ ?_ ?_).mono ?_
  · simp [go_sem]
  · simp [go_sem]
  rintro e u' w'' ⟨rfl, rfl, rfl⟩
  refine ⟨.tuple #[.string ⟨#[]⟩, .slice A n c, .int .i64 13], ?_, .slice A n c, rfl, ⟨A, n, c, rfl, hnc, ?_, Lies.refl _⟩, ?_⟩
  · simp [results, Tryz.results65, go_sem]
  · exact hb.below ((((Fr.refl [] w).alloc _).drewN _).setCell _ (.inr (Nat.le_refl _)) _).all
  · exact (((Fr.refl [] w).alloc _).drewN _).setCell _ (.inr (Nat.le_refl _)) _

/-- .. of which the length isn't there. -/
theorem GetText_none (A : Option Addr) (n c : Nat) (most : Int) (l : List UInt8) (w : World) (hb : RB w A n l) (hnc : n ≤ c) (h2 : n < 2) :
    Calls Tryz.prog 65 #[.slice A n c, .int .i64 most] w (GetTextPost A [] l 11 w) := by
  have hbl := hb.2.1
  go_enter_defers Tryz.func65, Tryz.ntmps65
  go_wp2_with fail
  refine (number_short A n c 2 _ h2).mono ?_; rintro e w' ⟨rfl, rfl⟩
  go_wp2_with fail
  refine leaves_cons (f := 81) (args := #[.pointer (some ⟨w.heap.size, 0, none⟩)]) (by simp) (by simp [go_sem]) ?_
  refine (told_panicking ⟨w.heap.size, 0, none⟩ 0 11 [] _ ?_ ?_).mono ?_
  · simp [go_sem]
  · simp [go_sem]
  rintro e u' w'' ⟨rfl, rfl, rfl⟩
  refine ⟨.tuple #[.string ⟨#[]⟩, .slice A n c, .int .i64 11], ?_, .slice A n c, rfl, ⟨A, n, c, rfl, hnc, ?_, Lies.refl _⟩, ?_⟩
  · simp [results, Tryz.results65, go_sem]
  · exact hb.below (((Fr.refl [] w).alloc _).setCell _ (.inr (Nat.le_refl _)) _).all
  · exact ((Fr.refl [] w).alloc _).setCell _ (.inr (Nat.le_refl _)) _

/-- .. of which bytes are missing. -/
theorem GetText_short (A : Option Addr) (n c : Nat) (most : Int) (l : List UInt8) (w : World) (hb : RB w A n l) (hnc : n ≤ c) (h2 : 2 ≤ n) (hm : (getB (l.take 2) : Int) ≤ most) (hs : getB (l.take 2) ≤ 65535) (hk : n - 2 < getB (l.take 2)) :
    Calls Tryz.prog 65 #[.slice A n c, .int .i64 most] w (GetTextPost A [] l 11 w) := by
  generalize hx : getB (l.take 2) = x at *
  have hbl := hb.2.1
  go_enter_defers Tryz.func65, Tryz.ntmps65
  go_wp2_with fail
  refine (number_ok A n c 2 l _ (hb.below ((Below.refl _ _).alloc (Nat.le_refl _) _)) hnc h2).mono ?_; rintro e w' ⟨rfl, m, rfl⟩
  rw [hx]
  have hx' := hid hx
  clear hx
  go_wp2_with fail
  refine (cut_short (cutA A 2 c) (n - 2) (c - 2) x _ hk).mono ?_; rintro e w' ⟨rfl, rfl⟩
  go_wp2_with fail
  refine leaves_cons (f := 81) (args := #[.pointer (some ⟨w.heap.size, 0, none⟩)]) (by simp) (by simp [go_sem]) ?_
  refine (told_panicking ⟨w.heap.size, 0, none⟩ 0 11 [] _ ?_ ?_).mono ?_
  · simp [go_sem]
  · simp [go_sem]
  rintro e u' w'' ⟨rfl, rfl, rfl⟩
  refine ⟨.tuple #[.string ⟨#[]⟩, .slice A n c, .int .i64 11], ?_, .slice A n c, rfl, ⟨A, n, c, rfl, hnc, ?_, Lies.refl _⟩, ?_⟩
  · simp [results, Tryz.results65, go_sem]
  · exact hb.below ((((Fr.refl [] w).alloc _).drewN _).setCell _ (.inr (Nat.le_refl _)) _).all
  · exact (((Fr.refl [] w).alloc _).drewN _).setCell _ (.inr (Nat.le_refl _)) _

end Go.Proofs.YtiialjncdhhceaaGreat
