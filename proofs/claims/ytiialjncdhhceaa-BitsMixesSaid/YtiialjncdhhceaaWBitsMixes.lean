/- The walk of BitsMixes: it returns true, whatever the input, and writes nothing that was there. -/
import Derived.Test.YtiialjncdhhceaaKnown1
import Derived.Test.YtiialjncdhhceaaBitsMath
import Derived.Test.YtiialjncdhhceaaTextS
namespace Go.Proofs.Ytiialjncdhhceaa.bitsMixes
open Go.RowKit
set_option linter.unusedVariables false
set_option linter.unusedSimpArgs false

theorem groupN_lt (x : Nat) : groupN x = 0 ∨ groupN x = 1 ∨ groupN x = 2 ∨ groupN x = 3 := by
  have : groupN x < 4 := by unfold groupN; exact Nat.mod_lt _ (by decide)
  omega

def Seen (k c0 c1 c2 c3 : Nat) : Prop := (c0 ≤ k ∧ c1 ≤ k ∧ c2 ≤ k ∧ c3 ≤ k) ∧ ∀ i, i < k → (groupN i = 0 → 1 ≤ c0) ∧ (groupN i = 1 → 1 ≤ c1) ∧ (groupN i = 2 → 1 ≤ c2) ∧ (groupN i = 3 → 1 ≤ c3)

theorem all_groups : (∃ i, i < 256 ∧ groupN i = 0) ∧ (∃ i, i < 256 ∧ groupN i = 1) ∧ (∃ i, i < 256 ∧ groupN i = 2) ∧ (∃ i, i < 256 ∧ groupN i = 3) := by decide +kernel

theorem Seen.all {c0 c1 c2 c3 : Nat} (h : Seen 256 c0 c1 c2 c3) : c0 ≠ 0 ∧ c1 ≠ 0 ∧ c2 ≠ 0 ∧ c3 ≠ 0 := by
  obtain ⟨⟨i0, h0, e0⟩, ⟨i1, h1, e1⟩, ⟨i2, h2, e2⟩, ⟨i3, h3, e3⟩⟩ := all_groups
  have a0 := (h.2 i0 h0).1 e0
  have a1 := (h.2 i1 h1).2.1 e1
  have a2 := (h.2 i2 h2).2.2.1 e2
  have a3 := (h.2 i3 h3).2.2.2 e3
  omega

theorem Seen.step {k c0 c1 c2 c3 : Nat} (h : Seen k c0 c1 c2 c3) : (groupN k = 0 → Seen (k + 1) (c0 + 1) c1 c2 c3) ∧ (groupN k = 1 → Seen (k + 1) c0 (c1 + 1) c2 c3) ∧ (groupN k = 2 → Seen (k + 1) c0 c1 (c2 + 1) c3) ∧ (groupN k = 3 → Seen (k + 1) c0 c1 c2 (c3 + 1)) := by
  obtain ⟨hb, hs⟩ := h
  refine ⟨fun e => ⟨by omega, fun i hi => ?_⟩, fun e => ⟨by omega, fun i hi => ?_⟩, fun e => ⟨by omega, fun i hi => ?_⟩, fun e => ⟨by omega, fun i hi => ?_⟩⟩
  all_goals
    rcases Nat.lt_or_ge i k with h1 | h1
    · have := hs i h1
      omega
    · have : i = k := by omega
      subst this
      omega

set_option maxHeartbeats 2000000 in
set_option maxRecDepth 100000 in
theorem walk (x0 y0 a0 b0 : Int) (w : World) (w0 : (Lit.int .u64 x0).wf = true) (w1 : (Lit.int .u64 y0).wf = true) (w2 : (Lit.int .u32 a0).wf = true) (w3 : (Lit.int .u32 b0).wf = true) :
    Calls Try.prog 6 #[.int .u64 x0, .int .u64 y0, .int .u32 a0, .int .u32 b0] w fun e w' => e = .returned (.bool true) ∧ Below w.heap.size w w' := by
  have hx : 0 ≤ x0 ∧ x0 ≤ 18446744073709551615 := by simpa [Lit.wf, IntKind.min, IntKind.max, IntKind.signed, IntKind.bits] using w0
  have hy : 0 ≤ y0 ∧ y0 ≤ 18446744073709551615 := by simpa [Lit.wf, IntKind.min, IntKind.max, IntKind.signed, IntKind.bits] using w1
  have ha : 0 ≤ a0 ∧ a0 ≤ 4294967295 := by simpa [Lit.wf, IntKind.min, IntKind.max, IntKind.signed, IntKind.bits] using w2
  have hb : 0 ≤ b0 ∧ b0 ≤ 4294967295 := by simpa [Lit.wf, IntKind.min, IntKind.max, IntKind.signed, IntKind.bits] using w3
  clear w0 w1 w2 w3
  obtain ⟨x, rfl⟩ := Int.eq_ofNat_of_zero_le hx.1
  obtain ⟨y, rfl⟩ := Int.eq_ofNat_of_zero_le hy.1
  obtain ⟨a, rfl⟩ := Int.eq_ofNat_of_zero_le ha.1
  obtain ⟨b, rfl⟩ := Int.eq_ofNat_of_zero_le hb.1
  have hx := hid (show x < 18446744073709551616 by omega)
  have hy := hid (show y < 18446744073709551616 by omega)
  have ha := hid (show a < 4294967296 by omega)
  have hb := hid (show b < 4294967296 by omega)
  go_enter Try.func6, Try.ntmps6
  go_wp2_with (go_at_call 21; refine (known1_c _).mono ?_; rintro e w1 ⟨rfl, hf1⟩)
  have hF2 : Fr [] w1 (w1.alloc (Obj.cells #[Value.int IntKind.i64 0, Value.int IntKind.i64 0, Value.int IntKind.i64 0, Value.int IntKind.i64 0] 40)) := (Fr.refl [] w1).alloc _
  have hZ : (w1.alloc (Obj.cells #[Value.int IntKind.i64 0, Value.int IntKind.i64 0, Value.int IntKind.i64 0, Value.int IntKind.i64 0] 40)).heap[w1.heap.size]? = some (Obj.cells #[Value.int IntKind.i64 0, Value.int IntKind.i64 0, Value.int IntKind.i64 0, Value.int IntKind.i64 0] 40) := (MapKept.heap_alloc _ _).1
  generalize (w1.alloc (Obj.cells #[Value.int IntKind.i64 0, Value.int IntKind.i64 0, Value.int IntKind.i64 0, Value.int IntKind.i64 0] 40)) = w2 at *
  go_loopw [10] (fun i wr => ∃ k c0 c1 c2 c3 : Nat, k ≤ 256 ∧ i = .int .i64 k ∧ Seen k c0 c1 c2 c3 ∧ wr.heap[w1.heap.size]? = some (Obj.cells #[.int .i64 c0, .int .i64 c1, .int .i64 c2, .int .i64 c3] 40) ∧ Fr [] w1 wr) (fun i _ => 256 - (intOf i).toNat)
  case atStart => exact ⟨0, 0, 0, 0, 0, by omega, rfl, ⟨by omega, by omega⟩, hZ, hF2⟩
  case round =>
    obtain ⟨k, c0, c1, c2, c3, hk, rfl, hseen, hblk, hfr⟩ := hrel
    by_cases hlt : k < 256
    · have k0 : wr.cell? ⟨w1.heap.size, 0, none⟩ = some (.int .i64 c0) := cell_of_row _ _ 0 _ _ _ hblk
      have k1 : wr.cell? ⟨w1.heap.size, 1, none⟩ = some (.int .i64 c1) := cell_of_row _ _ 1 _ _ _ hblk
      have k2 : wr.cell? ⟨w1.heap.size, 2, none⟩ = some (.int .i64 c2) := cell_of_row _ _ 2 _ _ _ hblk
      have k3 : wr.cell? ⟨w1.heap.size, 3, none⟩ = some (.int .i64 c3) := cell_of_row _ _ 3 _ _ _ hblk
      have z0 : ∀ j, wr.frozen? ⟨w1.heap.size, j, none⟩ = false := fun j => frozen_of_row _ _ j _ _ hblk
      have hst := hseen.step
      obtain ⟨⟨b0, b1, b2, b3⟩, _⟩ := hseen
      go_wp2_with fail
      refine (Group_c k (by omega) _).mono ?_
      rintro e w3 ⟨rfl, rfl⟩
      rcases groupN_lt k with e0 | e0 | e0 | e0
      · rw [e0]
        go_wp2_with fail
        go_roundw
        case rel => exact ⟨k + 1, c0 + 1, c1, c2, c3, by omega, rfl, hst.1 e0, (heap_setCell_same _ _ _ _ _ _ hblk).trans rfl, hfr.setCell _ (.inr (Nat.le_refl _)) _⟩
        case measure => simp [intOf]; omega
      · rw [e0]
        go_wp2_with fail
        go_roundw
        case rel => exact ⟨k + 1, c0, c1 + 1, c2, c3, by omega, rfl, hst.2.1 e0, (heap_setCell_same _ _ _ _ _ _ hblk).trans rfl, hfr.setCell _ (.inr (Nat.le_refl _)) _⟩
        case measure => simp [intOf]; omega
      · rw [e0]
        go_wp2_with fail
        go_roundw
        case rel => exact ⟨k + 1, c0, c1, c2 + 1, c3, by omega, rfl, hst.2.2.1 e0, (heap_setCell_same _ _ _ _ _ _ hblk).trans rfl, hfr.setCell _ (.inr (Nat.le_refl _)) _⟩
        case measure => simp [intOf]; omega
      · rw [e0]
        go_wp2_with fail
        go_roundw
        case rel => exact ⟨k + 1, c0, c1, c2, c3 + 1, by omega, rfl, hst.2.2.2 e0, (heap_setCell_same _ _ _ _ _ _ hblk).trans rfl, hfr.setCell _ (.inr (Nat.le_refl _)) _⟩
        case measure => simp [intOf]; omega
    · have hk2 : k = 256 := by omega
      subst hk2
      obtain ⟨a0, a1, a2, a3⟩ := hseen.all
      have k0 : wr.cell? ⟨w1.heap.size, 0, none⟩ = some (.int .i64 c0) := cell_of_row _ _ 0 _ _ _ hblk
      have k1 : wr.cell? ⟨w1.heap.size, 1, none⟩ = some (.int .i64 c1) := cell_of_row _ _ 1 _ _ _ hblk
      have k2 : wr.cell? ⟨w1.heap.size, 2, none⟩ = some (.int .i64 c2) := cell_of_row _ _ 2 _ _ _ hblk
      have k3 : wr.cell? ⟨w1.heap.size, 3, none⟩ = some (.int .i64 c3) := cell_of_row _ _ 3 _ _ _ hblk
      have hcell : ∀ j : Nat, j < 4 → ∃ c : Nat, wr.cell? ⟨w1.heap.size, j, none⟩ = some (.int .i64 c) ∧ c ≠ 0 := by
        intro j hj
        rcases (show j = 0 ∨ j = 1 ∨ j = 2 ∨ j = 3 by omega) with rfl | rfl | rfl | rfl
        · exact ⟨_, k0, a0⟩
        · exact ⟨_, k1, a1⟩
        · exact ⟨_, k2, a2⟩
        · exact ⟨_, k3, a3⟩
      clear hseen hblk k0 k1 k2 k3 a0 a1 a2 a3
      have hcell' := hid hcell
      clear hcell
      go_wp2_with fail
      go_loopw [12] (fun i w' => ∃ k : Nat, k ≤ 4 ∧ i = .int .i64 k ∧ w' = wr) (fun i _ => 4 - (intOf i).toNat)
      case atStart => exact ⟨0, by omega, rfl, rfl⟩
      case round =>
        obtain ⟨k, hk4, rfl, rfl⟩ := hrel
        by_cases hlt4 : k < 4
        · obtain ⟨c, hc, hc0⟩ := hcell'.out k hlt4
          have hcb : ((c : Int) == 0) = false := by simp; omega
          go_wp2_with fail
          go_roundw
          case rel => exact ⟨k + 1, by omega, rfl, by trivial⟩
          case measure => simp [intOf]; omega
        · have hma := mixN_lt x
          have hm2 := mixN_lt a
          have hF := (hf1.then hfr)
          have hiff : ((mixN x : Int) == (mixN y : Int)) = ((x : Int) == (y : Int)) := by
            rw [Bool.eq_iff_iff, beq_iff_eq, beq_iff_eq]
            constructor
            · intro h
              have := mixN_inj x y hx.out hy.out (by exact_mod_cast h)
              rw [this]
            · intro h
              have : x = y := by exact_mod_cast h
              rw [this]
          have hiff' := hid hiff
          clear hiff
          go_wp2_with fail
          refine (Mix_c x hx.out _).mono ?_; rintro e w6 ⟨rfl, rfl⟩
          go_wp2_with fail
          refine (Mix_c y hy.out _).mono ?_; rintro e w6 ⟨rfl, rfl⟩
          have hiff2 := hiff'.out
          go_wp2_with fail
          refine (Hash_c a b 7 ha.out hb.out (by omega) _).mono ?_; rintro e w6 ⟨rfl, rfl⟩
          go_wp2_with fail
          have ha2 := ha.out
          refine (Mix_c a (by omega) _).mono ?_; rintro e w6 ⟨rfl, rfl⟩
          go_wp2_with fail
          rw [wrapAdd_int]
          refine (Mix_c _ (mod64_lt _) _).mono ?_; rintro e w6 ⟨rfl, rfl⟩
          go_wp2_with fail
          rw [show IntKind.u64.wrap (((mixN ((mixN a + b) % 18446744073709551616) : Nat) : Int) + 7) = (((mixN ((mixN a + b) % 18446744073709551616) + 7) % 18446744073709551616 : Nat) : Int) from wrapAdd_int _ 7]
          refine (Mix_c _ (mod64_lt _) _).mono ?_; rintro e w6 ⟨rfl, rfl⟩
          have hh : ((hashN a b 7 : Nat) : Int) = IntKind.u32.wrap ((mixN ((mixN ((mixN a + b) % 18446744073709551616) + 7) % 18446744073709551616) : Nat) : Int) := by
            rw [IntKind.wrap_u32', hashN]
            generalize mixN ((mixN ((mixN a + b) % 18446744073709551616) + 7) % 18446744073709551616) = z
            omega
          rw [hh]
          generalize mixN ((mixN ((mixN a + b) % 18446744073709551616) + 7) % 18446744073709551616) = z
          go_wp2_with fail
          go_ret
          exact ⟨by simp, hF.all⟩
end Go.Proofs.Ytiialjncdhhceaa.bitsMixes
