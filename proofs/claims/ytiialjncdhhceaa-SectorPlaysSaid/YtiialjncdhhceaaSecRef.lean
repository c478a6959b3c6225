/- The document's disk of sectors (paddockref13): its state, where it lies, what its methods do. -/
import Derived.Test.YtiialjncdhhceaaSecMore
import Derived.Deep.QuietTactic
import Derived.BigQuiet
namespace Go.Proofs.Ytiialjncdhhceaa
open Go.RowKit
set_option linter.unusedVariables false
set_option linter.unusedSimpArgs false

structure RSt where
  n : Nat
  now : Nat → List UInt8
  kept : Nat → List UInt8
  pend : Nat → Bool
  steps : Nat
  power : Nat
  off : Bool

def rCells (a b p : Nat) (t : RSt) : Array Value := #[.slice (some ⟨a, 0, none⟩) t.n t.n, .slice (some ⟨b, 0, none⟩) t.n t.n, .slice (some ⟨p, 0, none⟩) t.n t.n, .int .i64 (t.steps : Int), .int .i64 (t.power : Int), .bool t.off]

/-- Rows of 64 bytes in a block. -/
structure Rows64 (w : World) (a n : Nat) (R : Nat → List UInt8) : Prop where
  lt : a < w.heap.size
  len : ∀ i, (R i).length = 64
  rows : ∀ i, i < n → w.rangeAt a (i * 64) ((R i).map encB)
  there : w.there a 0 (n * 64)
theorem Rows64.kept {w w' : World} {a n : Nat} {R : Nat → List UInt8} (h : Rows64 w a n R) {S : List Nat} (hf : Fr S w w') (hn : a ∉ S) : Rows64 w' a n R :=
  ⟨Nat.lt_of_lt_of_le h.lt hf.size, h.len, fun i hi => range_fr hf (h.rows i hi) h.lt hn, there_fr hf h.there h.lt hn⟩
theorem Rows64.congr {w : World} {a n : Nat} {R R' : Nat → List UInt8} (h : Rows64 w a n R) (hR : ∀ i, i < n → R i = R' i) (hl : ∀ i, (R' i).length = 64) : Rows64 w a n R' :=
  ⟨h.lt, hl, fun i hi => by rw [← hR i hi]; exact h.rows i hi, h.there⟩
theorem Rows64.cell {w : World} {a n : Nat} {R : Nat → List UInt8} (h : Rows64 w a n R) {i k : Nat} (hi : i < n) (hk : k < 64) : w.cell? ⟨a, i * 64 + k, none⟩ = some (.int .u8 (((R i)[k]'(by rw [h.len]; exact hk)).toNat : Int)) := range_cell (h.rows i hi) k (by rw [h.len]; exact hk)
theorem Rows64.z {w : World} {a n : Nat} {R : Nat → List UInt8} (h : Rows64 w a n R) {i k : Nat} (hi : i < n) (hk : k < 64) : w.frozen? ⟨a, i * 64 + k, none⟩ = false := by
  have := (h.there (i * 64 + k) (by omega)).2
  rwa [Nat.zero_add] at this
/-- One byte of one row. -/
theorem Rows64.set {w : World} {a n : Nat} {R : Nat → List UInt8} (h : Rows64 w a n R) {i k : Nat} (hi : i < n) (hk : k < 64) (x : UInt8) (y : Int) (hy : y = (x.toNat : Int)) :
    Rows64 (w.setCell ⟨a, i * 64 + k, none⟩ (.int .u8 y)) a n (fun j => if j = i then (R i).set k x else R j) := by
  subst hy
  have hc := h.cell hi hk
  refine ⟨by simpa using h.lt, fun j => ?_, fun j hj => ?_, fun j hj => ?_⟩
  · split
    · rw [List.length_set]; exact h.len i
    · exact h.len j
  · intro q v hv
    have hq : q < 64 := by
      have := (List.getElem?_eq_some_iff.1 hv).1
      rw [List.length_map] at this
      split at this
      · rw [List.length_set, h.len] at this; exact this
      · rw [h.len] at this; exact this
    by_cases hjq : j = i ∧ q = k
    · obtain ⟨rfl, rfl⟩ := hjq
      rw [World.cell?_setCell_same _ _ _ (by rw [hc]), ← hv, if_pos rfl, List.getElem?_map, List.getElem?_set_self (by rw [h.len]; exact hk)]
      rfl
    · rw [World.cell?_setCell_other _ _ _ _ (by intro e; injection e with _ e; exact hjq (by omega))]
      refine h.rows j hj q v ?_
      rw [← hv]
      by_cases hji : j = i
      · subst hji
        rw [if_pos rfl, List.getElem?_map, List.getElem?_map, List.getElem?_set_ne (by omega)]
      · rw [if_neg hji]
  · have := h.there j hj
    rw [World.frozen?_setCell]
    refine ⟨?_, this.2⟩
    by_cases hjk : j = i * 64 + k
    · subst hjk
      rw [Nat.zero_add, World.cell?_setCell_same _ _ _ (by rw [hc])]
      rfl
    · rw [World.cell?_setCell_other _ _ _ _ (by intro e; injection e with _ e; omega)]
      exact this.1
/-- One row whole. -/
theorem Rows64.put {w : World} {a n : Nat} {R : Nat → List UInt8} (h : Rows64 w a n R) {i : Nat} (hi : i < n) (l : List UInt8) (hl : l.length = 64) :
    Rows64 (w.setCells a (i * 64) (l.map encB)) a n (fun j => if j = i then l else R j) := by
  have hsz := (fr_setCells (Fr.refl [a] w) a (i * 64) (l.map encB) (.inl (by simp))).size
  refine ⟨Nat.lt_of_lt_of_le h.lt hsz, fun j => ?_, fun j hj => ?_, World.there_setCells h.there _ _ _⟩
  · split
    · exact hl
    · exact h.len j
  · have := copy_rows h.rows h.len l (by omega) i hi j hj
    by_cases hji : j = i
    · rw [if_pos hji] at this ⊢
      rw [hl, List.drop_of_length_le (by rw [h.len]; exact Nat.le_refl _), List.append_nil] at this
      exact this
    · rw [if_neg hji] at this ⊢
      exact this

/-- The reference's disk of state t lies in the blocks r, a, b, p. -/
structure IsRef (w : World) (r a b p : Nat) (t : RSt) : Prop where
  n_le : t.n ≤ 1000
  blk : w.heap[r]? = some (.cells (rCells a b p t) 116 (0, 0))
  now : Rows64 w a t.n t.now
  kept : Rows64 w b t.n t.kept
  plt : p < w.heap.size
  pend : ∀ i, i < t.n → w.cell? ⟨p, i, none⟩ = some (.bool (t.pend i)) ∧ w.frozen? ⟨p, i, none⟩ = false
  apart : r ≠ a ∧ r ≠ b ∧ r ≠ p ∧ a ≠ b ∧ a ≠ p ∧ b ≠ p
  steps : t.steps < 4611686018427387904
  power : t.power < 9223372036854775808

theorem IsRef.rlt {w : World} {r a b p : Nat} {t : RSt} (h : IsRef w r a b p t) : r < w.heap.size := (Array.getElem?_eq_some_iff.1 h.blk).1
theorem IsRef.away {w w' : World} {r a b p : Nat} {t : RSt} (h : IsRef w r a b p t) {S : List Nat} (hf : Fr S w w') (hs : r ∉ S ∧ a ∉ S ∧ b ∉ S ∧ p ∉ S) : IsRef w' r a b p t :=
  ⟨h.n_le, (hf.block r h.rlt hs.1).trans h.blk, h.now.kept hf hs.2.1, h.kept.kept hf hs.2.2.1, Nat.lt_of_lt_of_le h.plt hf.size,
    fun i hi => ⟨(cell_fr hf h.plt hs.2.2.2 i).trans (h.pend i hi).1, (frozen_fr hf h.plt hs.2.2.2 i).trans (h.pend i hi).2⟩, h.apart, h.steps, h.power⟩
theorem IsRef.fr {w w' : World} {r a b p : Nat} {t : RSt} (h : IsRef w r a b p t) (hf : Fr [] w w') : IsRef w' r a b p t := h.away hf (by simp)
/-- The disk's own block turned, all else as it was. -/
theorem IsRef.upd {w w' : World} {r a b p : Nat} {t t' : RSt} (h : IsRef w r a b p t) (hf : Fr [r] w w') (hblk : w'.heap[r]? = some (.cells (rCells a b p t') 116 (0, 0)))
    (hn : t'.n = t.n ∧ t'.now = t.now ∧ t'.kept = t.kept ∧ t'.pend = t.pend) (h1 : t'.steps < 4611686018427387904) (h2 : t'.power < 9223372036854775808) : IsRef w' r a b p t' := by
  obtain ⟨e1, e2, e3, e4⟩ := hn
  have hx := h.apart
  refine ⟨by rw [e1]; exact h.n_le, hblk, ?_, ?_, Nat.lt_of_lt_of_le h.plt hf.size, ?_, hx, h1, h2⟩
  · rw [e1, e2]; exact h.now.kept hf (by simp; omega)
  · rw [e1, e3]; exact h.kept.kept hf (by simp; omega)
  · rw [e1, e4]
    exact fun i hi => ⟨(cell_fr hf h.plt (by simp; omega) i).trans (h.pend i hi).1, (frozen_fr hf h.plt (by simp; omega) i).trans (h.pend i hi).2⟩
section
variable {w : World} {r a b p : Nat} {t : RSt}
theorem IsRef.c0 (h : IsRef w r a b p t) : w.cell? ⟨r, 0, none⟩ = some (.slice (some ⟨a, 0, none⟩) t.n t.n) := cell_of_row _ _ 0 _ _ _ h.blk
theorem IsRef.c1 (h : IsRef w r a b p t) : w.cell? ⟨r, 1, none⟩ = some (.slice (some ⟨b, 0, none⟩) t.n t.n) := cell_of_row _ _ 1 _ _ _ h.blk
theorem IsRef.c2 (h : IsRef w r a b p t) : w.cell? ⟨r, 2, none⟩ = some (.slice (some ⟨p, 0, none⟩) t.n t.n) := cell_of_row _ _ 2 _ _ _ h.blk
theorem IsRef.c3 (h : IsRef w r a b p t) : w.cell? ⟨r, 3, none⟩ = some (.int .i64 (t.steps : Int)) := cell_of_row _ _ 3 _ _ _ h.blk
theorem IsRef.c4 (h : IsRef w r a b p t) : w.cell? ⟨r, 4, none⟩ = some (.int .i64 (t.power : Int)) := cell_of_row _ _ 4 _ _ _ h.blk
theorem IsRef.c5 (h : IsRef w r a b p t) : w.cell? ⟨r, 5, none⟩ = some (.bool t.off) := cell_of_row _ _ 5 _ _ _ h.blk
theorem IsRef.z (h : IsRef w r a b p t) (j : Nat) : w.frozen? ⟨r, j, none⟩ = false := frozen_of_row _ _ j _ _ h.blk
end

def RSt.step (t : RSt) : RSt := { t with steps := t.steps + 1, power := t.power - 1, off := t.off || decide (t.power = 1) }
def RSt.powerOn (t : RSt) (at_ : Int) : RSt := if t.off then t else { t with power := (max at_ 0).toNat }

theorem RLen_c (r a b p : Nat) (t : RSt) (w : World) (h : IsRef w r a b p t) :
    Calls Try.prog 71 #[.pointer (some ⟨r, 0, none⟩)] w fun e w' => e = .returned (.int .i64 (t.n : Int)) ∧ w = w' := by
  have h0 := h.c0
  go_enter Try.func71, Try.ntmps71
  go_wp2
  go_ret
  exact ⟨rfl, rfl⟩

set_option maxRecDepth 100000 in
theorem Rstep_c (r a b p : Nat) (t : RSt) (w : World) (h : IsRef w r a b p t) (hs : t.steps + 1 < 4611686018427387904) :
    Calls Try.prog 70 #[.pointer (some ⟨r, 0, none⟩)] w fun e w' => e = .returned (.bool !t.step.off) ∧ IsRef w' r a b p t.step ∧ Fr [r] w w' := by
  have c3 := h.c3
  have c4 := h.c4
  have c5 := h.c5
  have z3 := h.z 3
  have z4 := h.z 4
  have z5 := h.z 5
  have hp := h.power
  by_cases h0 : t.power = 0
  · have h0' : ¬ (0 : Int) < (t.power : Int) := by omega
    have hst : t.step = { t with steps := t.steps + 1 } := by
      unfold RSt.step
      rw [h0]
      simp [h0]
    rw [hst]
    have hfin : IsRef (w.setCell ⟨r, 3, none⟩ (.int .i64 ((t.steps : Int) + 1))) r a b p { t with steps := t.steps + 1 } :=
      h.upd ((Fr.refl [r] w).setCell _ (.inl (by simp)) _) ((heap_setCell_same w r 3 _ _ _ h.blk).trans rfl) ⟨rfl, rfl, rfl, rfl⟩ hs hp
    have hfin' := hid hfin
    clear hfin hst h0
    go_enter Try.func70, Try.ntmps70
    go_wp2
    go_ret
    exact ⟨rfl, hfin'.out, (Fr.refl [r] w).setCell _ (.inl (by simp)) _⟩
  · have h0' : (0 : Int) < (t.power : Int) := by omega
    have hpi : ((t.power - 1 : Nat) : Int) = (t.power : Int) - 1 := by omega
    have hone : ((t.power : Int) - 1 == 0) = decide (t.power = 1) := by
      by_cases h1 : t.power = 1
      · rw [h1]; rfl
      · have : ¬ (t.power : Int) - 1 = 0 := by omega
        simp [h1, this]
    have hb1 := (heap_setCell_same w r 3 _ _ (.int .i64 ((t.steps : Int) + 1)) h.blk)
    have hb2 := (heap_setCell_same _ r 4 _ _ (.int .i64 ((t.power : Int) - 1)) hb1)
    have hb3 := fun (v : Value) => heap_setCell_same _ r 5 _ _ v hb2
    have hfin : IsRef (((w.setCell ⟨r, 3, none⟩ (.int .i64 ((t.steps : Int) + 1))).setCell ⟨r, 4, none⟩ (.int .i64 ((t.power : Int) - 1))).setCell ⟨r, 5, none⟩ (.bool (t.off || decide (t.power = 1)))) r a b p t.step := by
      refine h.upd ((((Fr.refl [r] w).setCell _ (.inl (by simp)) _).setCell _ (.inl (by simp)) _).setCell _ (.inl (by simp)) _) ((hb3 _).trans ?_) ⟨rfl, rfl, rfl, rfl⟩ hs (by show t.power - 1 < _; omega)
      unfold RSt.step rCells
      rw [← hpi]
      rfl
    have hfin' := hid hfin
    have hfr := hid ((((Fr.refl [r] w).setCell ⟨r, 3, none⟩ (.inl (by simp)) (.int .i64 ((t.steps : Int) + 1))).setCell ⟨r, 4, none⟩ (.inl (by simp)) (.int .i64 ((t.power : Int) - 1))).setCell ⟨r, 5, none⟩ (.inl (by simp)) (.bool (t.off || decide (t.power = 1))))
    clear hfin hb1 hb2 hb3 hpi h0
    cases hoff : t.off
    all_goals rw [hoff] at c5
    all_goals go_enter Try.func70, Try.ntmps70
    all_goals go_wp2
    all_goals go_ret
    · have e1 := hfin'.out
      have e2 := hfr.out
      rw [hoff, Bool.false_or] at e1 e2
      refine ⟨?_, e1, e2⟩
      show _ = Ending.returned (.bool !(t.off || decide (t.power = 1)))
      rw [hoff, Bool.false_or]
      rfl
    · have e1 := hfin'.out
      have e2 := hfr.out
      rw [hoff, Bool.true_or] at e1 e2
      refine ⟨?_, e1, e2⟩
      show _ = Ending.returned (.bool !(t.off || decide (t.power = 1)))
      rw [hoff, Bool.true_or]
      rfl

set_option maxRecDepth 100000 in
theorem RPower_c (r a b p : Nat) (t : RSt) (at_ : Int) (w : World) (h : IsRef w r a b p t) (ha : at_ ≤ 9223372036854775807) :
    Calls Try.prog 50 #[.pointer (some ⟨r, 0, none⟩), .int .i64 at_] w fun e w' => e = .returned (.tuple #[]) ∧ IsRef w' r a b p (t.powerOn at_) ∧ Fr [r] w w' := by
  have c5 := h.c5
  have c4 := h.c4
  have z4 := h.z 4
  unfold RSt.powerOn
  cases hoff : t.off with
  | true =>
    rw [hoff] at c5
    simp only [if_true]
    go_enter Try.func50, Try.ntmps50
    go_wp2
    go_end0
    exact ⟨rfl, h, Fr.refl _ _⟩
  | false =>
    rw [hoff] at c5
    simp only [Bool.false_eq_true, if_false]
    have hm : (((max at_ 0).toNat : Nat) : Int) = max at_ 0 := by omega
    have hfin : IsRef (w.setCell ⟨r, 4, none⟩ (.int .i64 (max at_ 0))) r a b p { t with power := (max at_ 0).toNat } := by
      refine h.upd ((Fr.refl [r] w).setCell _ (.inl (by simp)) _) ((heap_setCell_same w r 4 _ _ _ h.blk).trans ?_) ⟨rfl, rfl, rfl, rfl⟩ h.steps (by show (max at_ 0).toNat < _; omega)
      unfold rCells
      rw [← hm]
      rfl
    have hfin' := hid hfin
    clear hfin hm
    go_enter Try.func50, Try.ntmps50
    go_wp2
    go_end0
    exact ⟨rfl, by have e := hfin'.out; rw [hoff] at e; exact e, (Fr.refl [r] w).setCell _ (.inl (by simp)) _⟩

theorem info55 : (Try.prog.info? 55).map (fun i => (i.zero, i.size)) = some (some (.agg (secA zeros64)), 64) := by kernel_rfl

def RReadPost (t : RSt) (i : Int) (w : World) (e : Ending) (w' : World) : Prop :=
  if t.off then e = .returned (.tuple #[.slice none 0 0, .int .i64 131]) ∧ w' = w
  else if i < 0 ∨ (t.n : Int) ≤ i then e = .returned (.tuple #[.slice none 0 0, .int .i64 130]) ∧ w' = w
  else ∃ b, e = .returned (.tuple #[.slice (some ⟨b, 0, none⟩) 64 64, .int .i64 0]) ∧ w.heap.size ≤ b ∧ w'.rangeAt b 0 ((t.now i.toNat).map encB) ∧ Fr [] w w'

set_option maxRecDepth 100000 in
theorem RRead_c (r a b p : Nat) (t : RSt) (i : Int) (w : World) (h : IsRef w r a b p t) :
    Calls Try.prog 72 #[.pointer (some ⟨r, 0, none⟩), .int .i64 i] w (RReadPost t i w) := by
  have c5 := h.c5
  have c0 := h.c0
  have hn := h.n_le
  unfold RReadPost
  cases hoff : t.off with
  | true =>
    rw [hoff] at c5
    simp only [if_true]
    go_enter Try.func72, Try.ntmps72
    go_wp2
    go_ret2
    exact ⟨rfl, rfl⟩
  | false =>
    rw [hoff] at c5
    simp only [Bool.false_eq_true, if_false]
    by_cases hi : i < 0 ∨ (t.n : Int) ≤ i
    · simp only [if_pos hi]
      go_enter Try.func72, Try.ntmps72
      go_wp2
      all_goals go_ret2
      all_goals exact ⟨rfl, rfl⟩
    · simp only [if_neg hi]
      obtain ⟨j, rfl⟩ : ∃ j : Nat, i = (j : Int) := ⟨i.toNat, by omega⟩
      have hj : j < t.n := by omega
      have hr := h.now.rows j hj
      have hl := h.now.len j
      go_enter Try.func72, Try.ntmps72
      go_wp2_with (first | (with_reducible refine stop_ld2 55 rfl ?_) | (with_reducible refine stop_al2 55 rfl ?_) | (with_reducible refine stop_st2 55 rfl ?_))
      refine Stop.go (ld_arr 55 ((t.now j).map encB) (.array 64 5) Try.underlying55 rfl (by rw [List.length_map, hl]; exact (zero_of_info info55).2) rfl rfl a (j * 64) rfl hr ?_)
      go_wp2_with (first | (with_reducible refine stop_ld2 55 rfl ?_) | (with_reducible refine stop_al2 55 rfl ?_) | (with_reducible refine stop_st2 55 rfl ?_))
      refine Stop.go (al_arr 55 info55 rfl rfl ?_)
      intro w2 hb2 hs2 hf2
      go_wp2_with (first | (with_reducible refine stop_ld2 55 rfl ?_) | (with_reducible refine stop_al2 55 rfl ?_) | (with_reducible refine stop_st2 55 rfl ?_))
      refine Stop.go (st_arr 55 ((t.now j).map encB) (by rw [List.length_map, hl]; exact (zero_of_info info55).2) encB_one rfl rfl w.heap.size 0 rfl rfl (by rw [List.length_map, hl]; exact there_of_block hb2 (by rw [secA_size, zeros64_len]; omega)) ?_)
      intro w3 hw3 hr3 hf3
      clear hw3
      go_wp2
      go_ret2
      exact ⟨w.heap.size, rfl, Nat.le_refl _, hr3, hf2.trans hf3 (by simp)⟩

theorem info55m : (Try.prog.info? 55).map (fun i => (i.zero, i.size, i.bytes)) = some (some (.agg (secA zeros64)), 64, 64) := by kernel_rfl
theorem infoBm : (Try.prog.info? 4).map (fun i => (i.zero, i.size, i.bytes)) = some (some (.bool false), 1, 1) := by kernel_rfl
theorem make_rows (n : Nat) (hn : n ≤ 1000) (w : World) : (Instr.makeSlice 113 (.int .i64 (n : Int)) (.int .i64 (n : Int))).run Try.prog w = .ok (.slice (some ⟨w.heap.size, 0, none⟩) n n) (w.alloc (.cells (madeCells (secA zeros64) (n * 64)) 55)) := by
  obtain ⟨i0, hi, hz0, hz1, hz2⟩ := info_parts info55m
  have hmk := run_make (P := Try.prog) w 113 55 i0 (.agg (secA zeros64)) Try.underlying113 hi hz0 .i64 .i64 (n : Int) (n : Int) (by omega) (Int.le_refl _) (by rw [hz2]; omega) (by omega)
  rw [hz1, Int.toNat_natCast] at hmk
  exact hmk
theorem make_bools (n : Nat) (hn : n ≤ 1000) (w : World) : (Instr.makeSlice 114 (.int .i64 (n : Int)) (.int .i64 (n : Int))).run Try.prog w = .ok (.slice (some ⟨w.heap.size, 0, none⟩) n n) (w.alloc (.cells (madeCells #[.bool false] n) 4)) := by
  obtain ⟨i0, hi, hz0, hz1, hz2⟩ := info_parts infoBm
  have hmk := run_make (P := Try.prog) w 114 4 i0 (.bool false) Try.underlying114 hi hz0 .i64 .i64 (n : Int) (n : Int) (by omega) (Int.le_refl _) (by rw [hz2]; omega) (by omega)
  rw [hz1, Int.toNat_natCast, Nat.mul_one] at hmk
  exact hmk
theorem rows_made {w : World} {a n : Nat} (h : w.heap[a]? = some (.cells (madeCells (secA zeros64) (n * 64)) 55 (0, 0))) : Rows64 w a n (fun _ => zeros64) := by
  refine ⟨(Array.getElem?_eq_some_iff.1 h).1, fun _ => zeros64_len, fun i hi j v hv => ?_, there_of_block h (by rw [size_madeCells]; exact Nat.le_refl _)⟩
  rw [cell_of_row _ _ _ _ _ _ h]
  have hj : j < 64 := by
    have := (List.getElem?_eq_some_iff.1 hv).1
    simpa [zeros64] using this
  rw [made_get n (i * 64 + j) (by omega), ← hv]
  unfold zeros64
  rw [List.map_replicate, List.getElem?_replicate, if_pos hj]
theorem bools_made {w : World} {p n : Nat} (h : w.heap[p]? = some (.cells (madeCells #[.bool false] n) 4 (0, 0))) (i : Nat) (hi : i < n) : w.cell? ⟨p, i, none⟩ = some (.bool false) ∧ w.frozen? ⟨p, i, none⟩ = false := by
  rw [cell_of_row _ _ _ _ _ _ h, frozen_of_row _ _ _ _ _ h]
  refine ⟨?_, rfl⟩
  unfold madeCells
  rw [Array.getElem?_map, Array.getElem?_range, if_pos hi, Option.map_some]
  simp [Nat.mod_one]
def RSt.new (n : Nat) : RSt := ⟨n, fun _ => zeros64, fun _ => zeros64, fun _ => false, 0, 0, false⟩
theorem at3 (w : World) (X Y Z : Obj) : ((w.alloc X).alloc Y).alloc Z = ((w.alloc X).alloc Y).alloc Z ∧ (((w.alloc X).alloc Y).alloc Z).heap[w.heap.size]? = some X ∧ (((w.alloc X).alloc Y).alloc Z).heap[w.heap.size + 1]? = some Y ∧ (((w.alloc X).alloc Y).alloc Z).heap[w.heap.size + 1 + 1]? = some Z := by
  have s1 : (w.alloc X).heap.size = w.heap.size + 1 := by simp
  have s2 : ((w.alloc X).alloc Y).heap.size = w.heap.size + 1 + 1 := by simp
  have h1 := heap_alloc_new w X
  have h2 := heap_alloc_new (w.alloc X) Y
  have h3 := heap_alloc_new ((w.alloc X).alloc Y) Z
  rw [s1] at h2
  rw [s2] at h3
  refine ⟨rfl, ?_, ?_, h3⟩
  · exact (Below.heap_alloc _ _ _ (by omega)).trans ((Below.heap_alloc _ _ _ (by omega)).trans h1)
  · exact (Below.heap_alloc _ _ _ (by omega)).trans h2
theorem newref {w w3 : World} {a b p n : Nat} (hn : n ≤ 1000) (hf : Fr [] w w3) (ha : w3.heap[a]? = some (.cells (madeCells (secA zeros64) (n * 64)) 55 (0, 0))) (hb : w3.heap[b]? = some (.cells (madeCells (secA zeros64) (n * 64)) 55 (0, 0)))
    (hp : w3.heap[p]? = some (.cells (madeCells #[.bool false] n) 4 (0, 0))) (hd : a ≠ b ∧ a ≠ p ∧ b ≠ p) (hlo : w.heap.size ≤ a ∧ w.heap.size ≤ b ∧ w.heap.size ≤ p) :
    ∃ r a' b' p', Value.pointer (some ⟨w3.heap.size, 0, none⟩) = .pointer (some ⟨r, 0, none⟩) ∧ IsRef (w3.alloc (.cells #[.slice (some ⟨a, 0, none⟩) n n, .slice (some ⟨b, 0, none⟩) n n, .slice (some ⟨p, 0, none⟩) n n, .int .i64 0, .int .i64 0, .bool false] 116)) r a' b' p' (RSt.new n) ∧
      (w.heap.size ≤ r ∧ w.heap.size ≤ a' ∧ w.heap.size ≤ b' ∧ w.heap.size ≤ p') ∧ Fr [] w (w3.alloc (.cells #[.slice (some ⟨a, 0, none⟩) n n, .slice (some ⟨b, 0, none⟩) n n, .slice (some ⟨p, 0, none⟩) n n, .int .i64 0, .int .i64 0, .bool false] 116)) := by
  have la := (Array.getElem?_eq_some_iff.1 ha).1
  have lb := (Array.getElem?_eq_some_iff.1 hb).1
  have lp := (Array.getElem?_eq_some_iff.1 hp).1
  have hsz := hf.size
  have hF : Fr [] w3 (w3.alloc (.cells #[.slice (some ⟨a, 0, none⟩) n n, .slice (some ⟨b, 0, none⟩) n n, .slice (some ⟨p, 0, none⟩) n n, .int .i64 0, .int .i64 0, .bool false] 116)) := (Fr.refl [] w3).alloc _
  refine ⟨w3.heap.size, a, b, p, rfl, ⟨hn, heap_alloc_new _ _, (rows_made ha).kept hF (by simp), (rows_made hb).kept hF (by simp), Nat.lt_of_lt_of_le lp hF.size, fun i hi => ?_, by omega, (show (0 : Nat) < 4611686018427387904 by omega), (show (0 : Nat) < 9223372036854775808 by omega)⟩, by omega, hf.then hF⟩
  have := bools_made hp i hi
  exact ⟨(cell_fr hF lp (by simp) i).trans this.1, (frozen_fr hF lp (by simp) i).trans this.2⟩

theorem newref' {w w3 : World} {a b p n q : Nat} (hq : q = w3.heap.size) (hn : n ≤ 1000) (hf : Fr [] w w3) (ha : w3.heap[a]? = some (.cells (madeCells (secA zeros64) (n * 64)) 55 (0, 0))) (hb : w3.heap[b]? = some (.cells (madeCells (secA zeros64) (n * 64)) 55 (0, 0)))
    (hp : w3.heap[p]? = some (.cells (madeCells #[.bool false] n) 4 (0, 0))) (hd : a ≠ b ∧ a ≠ p ∧ b ≠ p) (hlo : w.heap.size ≤ a ∧ w.heap.size ≤ b ∧ w.heap.size ≤ p) :
    ∃ r a' b' p', Ending.returned (.pointer (some ⟨q, 0, none⟩)) = .returned (.pointer (some ⟨r, 0, none⟩)) ∧ IsRef (w3.alloc (.cells #[.slice (some ⟨a, 0, none⟩) n n, .slice (some ⟨b, 0, none⟩) n n, .slice (some ⟨p, 0, none⟩) n n, .int .i64 0, .int .i64 0, .bool false] 116)).drew r a' b' p' (RSt.new n) ∧
      (w.heap.size ≤ r ∧ w.heap.size ≤ a' ∧ w.heap.size ≤ b' ∧ w.heap.size ≤ p') ∧ Fr [] w (w3.alloc (.cells #[.slice (some ⟨a, 0, none⟩) n n, .slice (some ⟨b, 0, none⟩) n n, .slice (some ⟨p, 0, none⟩) n n, .int .i64 0, .int .i64 0, .bool false] 116)).drew := by
  subst hq
  obtain ⟨r, a', b', p', h1, h2, h3, h4⟩ := newref hn hf ha hb hp hd hlo
  exact ⟨r, a', b', p', congrArg Ending.returned h1, h2.fr (Fr.refl [] _).drew, h3, h4.drew⟩

set_option maxHeartbeats 2000000 in
set_option maxRecDepth 100000 in
theorem RNew_c (x : Int) (n : Nat) (hn : max 0 (min x 1000) = (n : Int)) (w : World) :
    Calls Try.prog 46 #[.int .i64 x] w fun e w' => ∃ r a b p, e = .returned (.pointer (some ⟨r, 0, none⟩)) ∧ IsRef w' r a b p (RSt.new n) ∧ (w.heap.size ≤ r ∧ w.heap.size ≤ a ∧ w.heap.size ≤ b ∧ w.heap.size ≤ p) ∧ Fr [] w w' := by
  have hmk1 := make_rows n (by omega)
  have hmk2 := make_bools n (by omega)
  go_enter Try.func46, Try.ntmps46
  go_wp2_with fail
  go_region
  all_goals clear hmk1 hmk2
  all_goals go_wp2_with fail
  all_goals go_ret
  all_goals refine newref' (by simp) (by omega) ((((Fr.refl [] w).alloc _).alloc _).alloc _) ?_ ?_ ?_ (by omega) (by omega)
  all_goals first | exact (at3 _ _ _ _).2.1 | exact (at3 _ _ _ _).2.2.1 | exact (at3 _ _ _ _).2.2.2
end Go.Proofs.Ytiialjncdhhceaa
