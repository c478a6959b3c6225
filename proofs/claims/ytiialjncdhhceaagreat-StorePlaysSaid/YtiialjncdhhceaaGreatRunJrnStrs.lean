/- What follows is 2 texts, one behind the other: JrnRead, JrnStrs. -/
import Derived.Test.YtiialjncdhhceaaGreatRunJrnCounts
import Derived.Shelf.Slices.Clone
/- The journal reads sectors. -/
namespace Go.Proofs.YtiialjncdhhceaaGreat
open Go.RowKit
set_option linter.unusedVariables false
set_option linter.unusedSimpArgs false

/-- The bytes of so many sectors. -/
def sects (s : DSt) (frm cnt : Nat) : List UInt8 := (List.range cnt).flatMap fun i => s.now (frm + i)
theorem sects_succ (s : DSt) (frm cnt : Nat) : sects s frm (cnt + 1) = sects s frm cnt ++ s.now (frm + cnt) := by
  unfold sects
  rw [List.range_succ, List.flatMap_append]
  simp
theorem sects_len {s : DSt} (h : DOk s) (frm cnt : Nat) : (sects s frm cnt).length = cnt * 64 := by
  induction cnt with
  | zero => rfl
  | succ c ih => rw [sects_succ, List.length_append, ih, h.now_len]; omega

set_option maxHeartbeats 1000000 in
set_option maxRecDepth 100000 in
theorem read_c (j d k m frm cnt : Nat) (s : DSt) (w : World) (hj : w.cell? ⟨j, 0, none⟩ = some (.pointer (some ⟨d, 0, none⟩))) (hD : IsDisk w d k m s) (hoff : s.off = false) (hn : frm + cnt ≤ s.n) :
    Calls Tryz.prog 59 #[.pointer (some ⟨j, 0, none⟩), .int .i64 (frm : Int), .int .i64 (cnt : Int)] w fun e w' => ∃ v, e = .returned v ∧ OB w' w.heap.size 5 v (sects s frm cnt) ∧ Fr [] w w' := by
  have hnle := hD.ok.n_le
  have hlts := hD.lts
  go_enter Tryz.func59, Tryz.ntmps59
  go_wp2_with fail
  go_loopw [7, 12] (fun ov iv wr => ∃ i : Nat, i ≤ cnt ∧ iv = .int .i64 i ∧ OB wr w.heap.size 5 ov (sects s frm i) ∧ Fr [] w wr) (fun _ iv _ => cnt - (intOf iv).toNat)
  case atStart => exact ⟨0, by omega, rfl, OB.nil _ _ _, Fr.refl _ _⟩
  case round =>
    obtain ⟨i, hi, rfl, hO, hfr⟩ := hrel
    by_cases hin : i < cnt
    · have hDr := hD.fr hfr
      have c0 := hfr.cell hj (by simp)
      have hlen := sects_len hD.ok frm i
      go_wp2_with (at_builtin; refine stop_append rfl ?_)
      refine (Read_ok d k m s (frm + i) wr hDr hoff (by omega) _ (by omega)).mono ?_
      rintro e w2 ⟨b, rfl, ⟨hb1, hb2⟩, hr2, ht2, hf2⟩
      go_wp2_with (at_builtin; refine stop_append rfl ?_)
      refine (must_ok w2).mono ?_
      rintro e w3 ⟨rfl, rfl⟩
      have hO2 := hO.kept hf2 (by simp)
      have hrb := rb_of_range hr2 (hD.ok.now_len (frm + i)) (by decide)
      have hf02 := hfr.then hf2
      go_wp2_with (at_builtin; refine stop_append rfl ?_)
      refine Stop.go (appN w.heap.size rfl _ _ 30 5 rfl Tryz.underlying30 infoByte hO2 hrb rfl rfl hf02.size (by omega) ?_)
      intro v4 w4 hO4 hf4 hn4
      rw [← sects_succ] at hO4
      have hf04 : Fr [] w w4 := hf02.past hf4 (fun z hz => (hO2.lt z (by simpa using hz)).1)
      clear hr2 ht2 hrb
      go_wp2_with (at_builtin; refine stop_append rfl ?_)
      try go_frame
      go_roundw
      case rel => exact ⟨i + 1, by omega, rfl, hO4, hf04⟩
      case measure => simp [intOf]; omega
    · have hie : i = cnt := by omega
      subst hie
      go_wp2_with fail
      go_ret
      exact ⟨_, rfl, hO, hfr⟩
end Go.Proofs.YtiialjncdhhceaaGreat

/- Slices of strings: read, rows of the call's own; slices.Clone of them. -/
namespace Go.Proofs.YtiialjncdhhceaaGreat
open Go.RowKit
set_option linter.unusedVariables false
set_option linter.unusedSimpArgs false

/-- A slice of n strings reads as l. -/
def RSs (w : World) (A : Option Addr) (n : Nat) (l : List ByteArray) : Prop :=
  l.length = n ∧ n ≤ 9223372036854775807 ∧ (n = 0 ∨ ∃ b off, A = some ⟨b, off, none⟩ ∧ ∀ j (h : j < l.length), w.cell? ⟨b, off + j, none⟩ = some (.string l[j]))
theorem RSs.kept' {w w' : World} {A : Option Addr} {n : Nat} {l : List ByteArray} (h : RSs w A n l) {S : List Nat} (hf : Fr S w w') (hn : n ≠ 0 → ∀ a, A = some a → a.block ∉ S) : RSs w' A n l := by
  obtain ⟨h1, h2, h3⟩ := h
  refine ⟨h1, h2, ?_⟩
  rcases h3 with h3 | ⟨b, off, rfl, hc⟩
  · exact .inl h3
  · by_cases h0 : n = 0
    · exact .inl h0
    · exact .inr ⟨b, off, rfl, fun j hj => hf.cell (hc j hj) (hn h0 ⟨b, off, none⟩ rfl)⟩
theorem RSs.fr {w w' : World} {A : Option Addr} {n : Nat} {l : List ByteArray} (h : RSs w A n l) (hf : Fr [] w w') : RSs w' A n l := h.kept' hf (by simp)
theorem RSs.lt {w : World} {A : Option Addr} {n : Nat} {l : List ByteArray} (h : RSs w A n l) (hn : n ≠ 0) : ∀ a, A = some a → a.block < w.heap.size := by
  intro a ha
  rcases h.2.2 with h0 | ⟨b, off, rfl, hc⟩
  · exact absurd h0 hn
  · cases ha
    exact World.block_lt_of_cell? w ⟨b, off + 0, none⟩ (hc 0 (by rw [h.1]; omega))
theorem RSs.nil (w : World) (A : Option Addr) : RSs w A 0 [] := ⟨rfl, by omega, .inl rfl⟩

/-- A row of strings of the call's own. -/
def OSs (w : World) (base : Nat) (v : Value) (l : List ByteArray) : Prop := w.ownsRow base 9 1 v l.length (l.map Value.string)
theorem OSs.nil (w : World) (base : Nat) : OSs w base (.slice none 0 0) [] := by unfold OSs; exact World.ownsRow_nil _ _ _ _
theorem OSs.kept {w w' : World} {base : Nat} {v : Value} {l : List ByteArray} (h : OSs w base v l) {S : List Nat} (hf : Fr S w w') (hn : ∀ k, v.ownBlock = some k → k ∉ S) : OSs w' base v l := by
  refine ⟨h.1, ?_⟩
  rcases h.2 with h1 | ⟨g, cap, cur, rfl, hb, hg, rest⟩
  · exact .inl h1
  · exact .inr ⟨g, cap, cur, rfl, hb, (hf.block g (Array.getElem?_eq_some_iff.1 hg).1 (hn g rfl)).trans hg, rest⟩
theorem OSs.lt {w : World} {base : Nat} {v : Value} {l : List ByteArray} (h : OSs w base v l) : ∀ k, v.ownBlock = some k → base ≤ k ∧ k < w.heap.size := World.ownsRow.lt h
theorem OSs.base {w : World} {base base' : Nat} {v : Value} {l : List ByteArray} (h : OSs w base v l) (hb : base' ≤ base) : OSs w base' v l :=
  ⟨h.1, h.2.elim .inl (fun ⟨g, cap, cur, hv, hg, r⟩ => .inr ⟨g, cap, cur, hv, Nat.le_trans hb hg, r⟩)⟩
theorem OB.base {w : World} {base base' : Nat} {E : TypeId} {v : Value} {l : List UInt8} (h : OB w base E v l) (hb : base' ≤ base) : OB w base' E v l :=
  ⟨h.1, h.2.elim .inl (fun ⟨g, cap, cur, hv, hg, r⟩ => .inr ⟨g, cap, cur, hv, Nat.le_trans hb hg, r⟩)⟩
theorem OSs.form {w : World} {base : Nat} {v : Value} {l : List ByteArray} (h : OSs w base v l) : ∃ A c, v = .slice A l.length c ∧ l.length ≤ c ∧ RSs w A l.length l ∧ (∀ a, A = some a → v.ownBlock = some a.block ∧ a.off = 0 ∧ a.spot = none) := by
  rcases h.2 with ⟨rfl, h0⟩ | ⟨g, cap, cur, rfl, hb, hg, hnc, hcm, hcs, htake⟩
  · have hl : l = [] := List.eq_nil_of_length_eq_zero h0
    subst hl
    exact ⟨none, 0, rfl, Nat.le_refl _, RSs.nil _ _, by simp⟩
  · refine ⟨some ⟨g, 0, none⟩, cap, rfl, hnc, ⟨rfl, by simp only [maxLen] at hcm; omega, ?_⟩, by intro a ha; cases ha; exact ⟨rfl, rfl, rfl⟩⟩
    rcases Nat.eq_zero_or_pos l.length with h0 | h0
    · exact .inl h0
    · refine .inr ⟨g, 0, rfl, fun j hj => ?_⟩
      rw [Nat.zero_add, World.ownsRow.cellAt (by simpa [OSs] using h) j (by omega)]
      simp [hj]

theorem infoStr : (Tryz.prog.info? 9).map (fun i => (i.zero, i.size, i.bytes)) = some (some (.string ByteArray.empty), 1, 16) := by kernel_rfl

set_option maxHeartbeats 1000000 in
set_option maxRecDepth 100000 in
theorem Clone_s (A : Option Addr) (n c : Nat) (l : List ByteArray) (w : World) (hR : RSs w A n l) (hbig : n * 16 ≤ 140737488355328) :
    Calls Tryz.prog 70 #[.slice A n c] w fun e w' => ∃ v, e = .returned v ∧ OSs w' w.heap.size v l ∧ Fr [] w w' := by
  have q22 : ∀ (w : World) (a : Option Addr) (n c n' c' : Nat), (binOp .eql 34 (.slice a n c) (.slice none n' c')).run Tryz.prog w = .ok (.bool a.isNone) w := fun w a n c n' c' => Lib.run_eql_slice_nil w _ _ a n c n' c' Tryz.underlying34
  cases A with
  | none =>
    have hn : n = 0 := by
      rcases hR.2.2 with h0 | ⟨b, off, h, _⟩
      · exact h0
      · cases h
    subst hn
    have hl : l = [] := List.eq_nil_of_length_eq_zero hR.1
    subst hl
    clear hR hbig
    go_enter Tryz.func70, Tryz.ntmps70
    go_wp2
    go_ret
    exact ⟨_, rfl, OSs.nil _ _, Fr.refl _ _⟩
  | some a =>
    obtain ⟨i0, hi, hz0, hz1, hz2⟩ := info_parts infoStr
    have hln := hR.1
    have hc : ∀ j u, (l.map Value.string)[j]? = some u → w.cell? (a.add j) = some u := by
      intro j u hu
      have hj : j < l.length := by
        have := (List.getElem?_eq_some_iff.1 hu).1
        simpa using this
      rcases hR.2.2 with h0 | ⟨b, off, h, hcell⟩
      · omega
      · cases h
        rw [Addr.add_mid, hcell j hj]
        rw [List.getElem?_map, List.getElem?_eq_getElem hj] at hu
        exact hu
    replace hc := hid hc
    clear hR
    go_enter Tryz.func70, Tryz.ntmps70
    go_wp2_with (at_builtin; refine stop_append rfl ?_)
    refine Stop.go (wpList_append_own _ rfl _ _ 34 rfl w.heap.size 9 i0 (.string ByteArray.empty) 1 16 Tryz.underlying34 hi hz0 hz1 hz2 rfl (by decide) _ _ _ rfl (World.ownsRow_made w #[] 0 (Nat.le_refl _) (Nat.zero_le _) rfl) a n c (l.map Value.string) rfl ?_ ?_ ?_ ?_ ?_ ?_ ?_)
    · simpa using hln
    · intro j u hu
      exact ((Fr.refl [] w).alloc _).cell (hc.out j u hu) (by simp)
    · intro u hu
      obtain ⟨x, _, rfl⟩ := List.mem_map.1 hu
      rfl
    · simp only [maxLen]; omega
    · omega
    · simp
    intro v1 w1 hown hgrow hnil
    have hgrow' : (w.alloc (.cells #[] 9)).grownBy w1 (some w.heap.size) := hgrow
    go_wp2
    go_ret
    refine ⟨v1, rfl, ?_, ((Fr.refl [] w).alloc _).trans (grown_fr hgrow') (by intro x hx; right; simp at hx; omega)⟩
    unfold OSs
    simpa [hln] using hown
end Go.Proofs.YtiialjncdhhceaaGreat
