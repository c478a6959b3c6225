/- The walk of SectorChoices: it returns true, whatever the input, and writes nothing that was there. -/
import Derived.Test.YtiialjncdhhceaaKnown13
namespace Go.Proofs.Ytiialjncdhhceaa.sectorChoices
open Go.RowKit
set_option linter.unusedVariables false
set_option linter.unusedSimpArgs false

theorem info64 : (Try.prog.info? 64).map (fun i => (i.zero, i.size)) = some (some (.agg #[.int .u8 0, .int .u8 0, .int .u8 0, .int .u8 0, .int .u8 0, .int .u8 0]), 6) := by kernel_rfl

/-- Three arrays of bools in their variables. -/
theorem three (w : World) (W F C : List Bool) : let w0 := ((w.alloc (.cells (W.map Value.bool).toArray 63)).alloc (.cells (F.map Value.bool).toArray 63)).alloc (.cells (C.map Value.bool).toArray 63)
    w0.rangeAt w.heap.size 0 (W.map Value.bool) ∧ w0.rangeAt (w.heap.size + 1) 0 (F.map Value.bool) ∧ w0.rangeAt (w.heap.size + 2) 0 (C.map Value.bool) ∧ w0.heap.size = w.heap.size + 3 ∧ Fr [] w w0 := by
  have h1 : (w.alloc (.cells (W.map Value.bool).toArray 63)).heap[w.heap.size]? = some (.cells (W.map Value.bool).toArray 63 (0, 0)) := heap_alloc_new _ _
  generalize hA : w.alloc (.cells (W.map Value.bool).toArray 63) = wA at *
  have sA : wA.heap.size = w.heap.size + 1 := by rw [← hA]; simp
  have fA : Fr [] w wA := by rw [← hA]; exact (Fr.refl [] w).alloc _
  have h2 : (wA.alloc (.cells (F.map Value.bool).toArray 63)).heap[wA.heap.size]? = some (.cells (F.map Value.bool).toArray 63 (0, 0)) := heap_alloc_new _ _
  have fB : Fr [] wA (wA.alloc (.cells (F.map Value.bool).toArray 63)) := (Fr.refl [] wA).alloc _
  have sB : (wA.alloc (.cells (F.map Value.bool).toArray 63)).heap.size = w.heap.size + 2 := by simp [sA]
  generalize wA.alloc (.cells (F.map Value.bool).toArray 63) = wB at *
  have h3 : (wB.alloc (.cells (C.map Value.bool).toArray 63)).heap[wB.heap.size]? = some (.cells (C.map Value.bool).toArray 63 (0, 0)) := heap_alloc_new _ _
  have fC : Fr [] wB (wB.alloc (.cells (C.map Value.bool).toArray 63)) := (Fr.refl [] wB).alloc _
  have sC : (wB.alloc (.cells (C.map Value.bool).toArray 63)).heap.size = w.heap.size + 3 := by simp [sB]
  generalize wB.alloc (.cells (C.map Value.bool).toArray 63) = wC at *
  rw [sA] at h2
  rw [sB] at h3
  exact ⟨range_fr (fB.then fC) (range_of_block h1) (by omega) (by simp), range_fr fC (range_of_block h2) (by omega) (by simp), range_of_block h3, sC, (fA.then fB).then fC⟩

def at_ (l : List Bool) (j : Nat) : Bool := l.getD j false
theorem at_get (l : List Bool) (j : Nat) (h : j < l.length) : l[j] = at_ l j := by
  unfold at_
  rw [List.getD_eq_getElem?_getD, List.getElem?_eq_getElem h]
  rfl

theorem infoB13 : (Try.prog.info? 5).map (fun i => (i.zero, i.size, i.bytes)) = some (some (.int .u8 0), 1, 1) := by kernel_rfl
theorem dec_succ {j i : Nat} (h : j ≠ i) : decide (j < i + 1) = decide (j < i) := by congr 1; apply propext; omega
theorem row_set {w w' : World} {b n : Nat} {v : Nat → UInt8} (h : ∀ j, j < n → w.cell? ⟨b, j, none⟩ = some (encB (v j)) ∧ w.frozen? ⟨b, j, none⟩ = false) {i : Nat} (hi : i < n) (x : UInt8) {y : Int} (hw : w' = w.setCell ⟨b, i, none⟩ (.int .u8 y)) (hy : y = (x.toNat : Int) := by rfl) :
    ∀ j, j < n → w'.cell? ⟨b, j, none⟩ = some (encB (if j = i then x else v j)) ∧ w'.frozen? ⟨b, j, none⟩ = false := by
  subst hw hy
  intro j hj
  refine ⟨?_, ?_⟩
  · by_cases hji : j = i
    · subst hji
      rw [if_pos rfl]
      exact World.cell?_setCell_same _ _ _ (by rw [(h j hj).1])
    · rw [if_neg hji, World.cell?_setCell_other _ _ _ _ (by intro e; injection e with _ e; exact hji e.symm)]
      exact (h j hj).1
  · rw [World.frozen?_setCell]
    exact (h j hj).2
theorem row_set2 {w w' : World} {b n : Nat} {v : Nat → UInt8} {z : UInt8} {i : Nat} (h : ∀ j, j < n → w.cell? ⟨b, j, none⟩ = some (encB (if j = i then z else v j)) ∧ w.frozen? ⟨b, j, none⟩ = false) (hi : i < n) (x : UInt8) {y : Int} (hw : w' = w.setCell ⟨b, i, none⟩ (.int .u8 y)) (hy : y = (x.toNat : Int) := by rfl) :
    ∀ j, j < n → w'.cell? ⟨b, j, none⟩ = some (encB (if j = i then x else v j)) ∧ w'.frozen? ⟨b, j, none⟩ = false := by
  intro j hj
  have := row_set (v := fun j => if j = i then z else v j) h hi x hw hy j hj
  by_cases hji : j = i
  · rw [if_pos hji] at this ⊢
    exact this
  · rw [if_neg hji] at this ⊢
    rw [if_neg hji] at this
    exact this
theorem row_next {w : World} {b n i : Nat} {x : UInt8} {v : Nat → UInt8} (h : ∀ j, j < n → w.cell? ⟨b, j, none⟩ = some (encB (if j = i then x else if j < i then v j else 0)) ∧ w.frozen? ⟨b, j, none⟩ = false) (hi : i < n) (hx : x = v i) :
    ∀ j, j < n → w.cell? ⟨b, j, none⟩ = some (encB (if j < i + 1 then v j else 0)) ∧ w.frozen? ⟨b, j, none⟩ = false := by
  intro j hj
  have := h j hj
  by_cases hji : j = i
  · subst hji
    rw [if_pos rfl, hx] at this
    rw [if_pos (by omega)]
    exact this
  · rw [if_neg hji] at this
    by_cases hlt : j < i
    · rw [if_pos hlt] at this
      rw [if_pos (by omega)]
      exact this
    · rw [if_neg hlt] at this
      rw [if_neg (by omega)]
      exact this

set_option maxHeartbeats 4000000 in
set_option maxRecDepth 100000 in
theorem walk (W F C : List Bool) (w : World) (hW : W.length = 6) (hF : F.length = 6) (hC : C.length = 6) :
    Calls Try.prog 12 #[.agg (W.map Value.bool).toArray, .agg (F.map Value.bool).toArray, .agg (C.map Value.bool).toArray] w fun e w' => e = .returned (.bool true) ∧ Below w.heap.size w w' := by
  obtain ⟨rW, rF, rC, hs0, hF0⟩ := three w W F C
  go_enter Try.func12, Try.ntmps12
  go_wp2_with fail
  generalize ((w.alloc (.cells (W.map Value.bool).toArray 63)).alloc (.cells (F.map Value.bool).toArray 63)).alloc (.cells (C.map Value.bool).toArray 63) = w0 at *
  refine (known13_c w0).mono ?_
  rintro e w1 ⟨rfl, hf1⟩
  go_wp2_with fail
  refine (New_c 6 6 (by decide) w1).mono ?_
  rintro e w2 ⟨d, k, m, rfl, hD2, hlo, hf2⟩
  have hf02 := hf1.then hf2
  have hs1 := hf1.size
  go_wp2_with fail
  go_loopw [8] (fun iv wr => ∃ (i : Nat) (s : DSt), i ≤ 6 ∧ iv = .int .i64 i ∧ Fr [] w0 wr ∧ IsDisk wr d k m s ∧ s.n = 6 ∧ s.offAt = 0 ∧ s.steps ≤ i ∧ (∀ j, s.now j = if decide (j < i) && at_ F j then laid [1] zeros64 else zeros64)) (fun iv _ => 6 - (intOf iv).toNat)
  case atStart => exact ⟨0, _, by omega, rfl, hf02, hD2, rfl, rfl, Nat.le_refl _, fun j => rfl⟩
  case round =>
    obtain ⟨i, s, hi, rfl, hfr, hD, hsn, hso, hst, hnow⟩ := hrel
    by_cases hi6 : i < 6
    · have y1 := bool_cell (range_fr hfr rF (by omega) (by simp)) i (by omega)
      rw [at_get, Nat.zero_add] at y1
      have hlt := hD.lts
      cases hFi : at_ F i with
      | true =>
        rw [hFi] at y1
        go_wp2_with fail
        have hb3 : RB (wr.alloc (.cells #[.int .u8 1] 5)) (some ⟨wr.heap.size, 0, none⟩) 1 [1] := lit_rb13 [1] 5 (0, 0) (by simp)
        have hD3 := hD.fr ((Fr.refl [] wr).alloc (.cells #[.int .u8 1] 5))
        have hf03 := hfr.alloc (.cells #[.int .u8 1] 5)
        generalize wr.alloc (.cells #[.int .u8 1] 5) = w3 at *
        refine (Write_ok d k m s i (some ⟨wr.heap.size, 0, none⟩) 1 1 [1] w3 hD3 hb3 (by intro _ z hz; cases hz; simp only; omega) (by omega) hso (by omega) (by decide) (i : Int) rfl).mono ?_
        rintro e w4 ⟨rfl, hD4, hf4⟩
        have hf04 := hf03.past hf4 (by intro z hz; simp at hz; omega)
        go_wp2_with fail
        go_roundw
        case rel =>
          refine ⟨i + 1, _, by omega, rfl, hf04, hD4, hsn, hso, by show s.steps + 1 ≤ i + 1; omega, fun j => ?_⟩
          rw [DSt.put_now]
          by_cases hji : j = i
          · subst hji
            rw [if_pos rfl, DSt.step_now, hnow]
            have e1 : decide (j < j) = false := by simp
            have e2 : decide (j < j + 1) = true := by simp
            rw [e1, e2, hFi]
            rfl
          · rw [if_neg hji, DSt.step_now, hnow]
            have e1 : decide (j < i + 1) = decide (j < i) := by congr 1; apply propext; omega
            rw [e1]
        case measure => simp [intOf]; omega
      | false =>
        rw [hFi] at y1
        go_wp2_with fail
        go_roundw
        case rel =>
          refine ⟨i + 1, s, by omega, rfl, hfr, hD, hsn, hso, by omega, fun j => ?_⟩
          rw [hnow]
          by_cases hji : j = i
          · subst hji
            rw [hFi, Bool.and_false, Bool.and_false]
          · have e1 : decide (j < i + 1) = decide (j < i) := by congr 1; apply propext; omega
            rw [e1]
        case measure => simp [intOf]; omega
    · have hie : i = 6 := by omega
      subst hie
      have hnow6 : ∀ j, s.now j = baseC (fun j => decide (j < 6) && at_ F j) j := hnow
      clear hnow
      go_wp2_with fail
      refine (Flush_ok d k m s wr hD (by omega) hso).mono ?_
      rintro e w5 ⟨rfl, hD5, hf5⟩
      have hf05 := hfr.past hf5 (by intro z hz; simp at hz; omega)
      go_wp2_with (first | (with_reducible refine stop_al2 64 rfl ?_) | (at_builtin; refine stop_append rfl ?_))
      refine Stop.go (al_arr 64 info64 rfl rfl ?_)
      intro w6 hb6 hs6 hf6
      have hf06 := hf05.then hf6
      have hlt5 := hD5.lts
      have hD6 := hD5.fr hf6
      have hs05 := hf05.size
      obtain ⟨wb, hwb⟩ : ∃ wb, wb = w5.heap.size := ⟨_, rfl⟩
      rw [← hwb] at hb6 hs6 hs05 hlt5
      rw [← hwb]
      have hrow6 : ∀ j, j < 6 → w6.cell? ⟨wb, j, none⟩ = some (encB ((fun _ => (0 : UInt8)) j)) ∧ w6.frozen? ⟨wb, j, none⟩ = false := by
        intro j hj
        rw [cell_of_row _ _ _ _ _ _ hb6, frozen_of_row _ _ _ _ _ hb6]
        rcases (show j = 0 ∨ j = 1 ∨ j = 2 ∨ j = 3 ∨ j = 4 ∨ j = 5 by omega) with rfl | rfl | rfl | rfl | rfl | rfl <;> exact ⟨rfl, rfl⟩
      clear hb6 hwb
      generalize hF' : (fun j => decide (j < 6) && at_ F j) = F' at *
      have hF'at : ∀ j, j < 6 → F' j = at_ F j := by
        intro j hj
        rw [← hF']
        simp [hj]
      clear hF'
      have hst5 : s.step.clean.steps ≤ 7 := by show s.steps + 1 ≤ 7; omega
      have hk5 : ∀ j, s.step.clean.kept j = baseC F' j := hnow6
      have hn5 : s.step.clean.n = 6 := hsn
      have ho5 : s.step.clean.offAt = 0 := hso
      have hp5 : ∀ j, s.step.clean.pend j = none := fun j => rfl
      generalize s.step.clean = s5 at *
      clear hnow6 hsn hso hst hD hfr hf5 hD5 hf05
      obtain ⟨Bs, hBs⟩ : ∃ Bs, Bs = w6.heap.size := ⟨_, rfl⟩
      go_wp2_with (first | (with_reducible refine stop_al2 64 rfl ?_) | (at_builtin; refine stop_append rfl ?_))
      go_loopw [9, 11] (fun cv iv wr => ∃ (i : Nat) (s : DSt), i ≤ 6 ∧ iv = .int .i64 i ∧ Fr [wb, d, m] w6 wr ∧ IsDisk wr d k m s ∧ s.n = 6 ∧ s.offAt = 0 ∧ s.steps ≤ 7 + i ∧ (∀ j, s.kept j = baseC F' j) ∧ (∀ j, s.pend j = if decide (j < i) && at_ W j then some (laid [2] (baseC F' j)) else none) ∧
          OB wr Bs 5 cv (choicesOf (at_ W) (at_ C) i) ∧ (∀ j, j < 6 → wr.cell? ⟨wb, j, none⟩ = some (encB (if j < i then finalC F' (at_ W) (at_ C) j else 0)) ∧ wr.frozen? ⟨wb, j, none⟩ = false)) (fun _ iv _ => 6 - (intOf iv).toNat)
      case atStart => exact ⟨0, s5, by omega, rfl, Fr.refl _ _, hD6, hn5, ho5, hst5, hk5, hp5, OB.nil _ _ _, hrow6⟩
      case round =>
        obtain ⟨i, s, hi, rfl, hfr, hD, hsn, hso, hst, hkept, hpend, HO, hrow⟩ := hrel
        clear hk5 hp5 hrow6
        have hkept := hid hkept
        have hpend := hid hpend
        have hF'at := hid hF'at
        have hown := hid (show ∀ z, u9.ownBlock = some z → Bs ≤ z from fun z hz => (HO.lt z hz).1)
        have hfr0 : Fr [] w0 wr := hf06.past hfr (by intro z hz; simp at hz; omega)
        have hlt := hD.lts
        have hlch : (choicesOf (at_ W) (at_ C) i).length ≤ 6 := by
          unfold choicesOf
          rw [List.length_map]
          exact Nat.le_trans (List.length_filter_le _ _) (by rw [List.length_range]; exact hi)
        by_cases hi6 : i < 6
        · have y1 := bool_cell (range_fr hfr0 rF (by omega) (by simp)) i (by omega)
          have y2 := bool_cell (range_fr hfr0 rW (by omega) (by simp)) i (by omega)
          have y3 := bool_cell (range_fr hfr0 rC (by omega) (by simp)) i (by omega)
          rw [at_get, Nat.zero_add] at y1 y2 y3
          have hwi := hrow i hi6
          have hwbr : wb < wr.heap.size := by have := hfr.size; omega
          rw [if_neg (by omega)] at hwi
          have hsucc := hid (choicesOf_succ (at_ W) (at_ C) i)
          cases hFi : at_ F i with
          | true =>
            cases hWi : at_ W i with
            | true =>
              cases hCi : at_ C i with
              | true =>
                obtain ⟨wa, hwa⟩ : ∃ wa, wa = wr.setCell ⟨wb, i, none⟩ (.int .u8 1) := ⟨_, rfl⟩
                have hfa : Fr [wb] wr wa := by rw [hwa]; exact (Fr.refl _ _).setCell _ (.inl (by simp)) _
                have hrowa := row_set hrow hi6 1 hwa
                have hDa := hD.away hfa (by simp; omega)
                have HOa := HO.kept hfa (fun z hz => by have := hown.out z hz; simp; omega)
                have y2a := hfa.cell y2 (by simp; omega)
                have y3a := hfa.cell y3 (by simp; omega)
                rw [hFi] at y1
                obtain ⟨hwc, hwz⟩ := hwi
                rw [hWi] at y2a
                rw [hwa] at y2a
                have hwa := hid hwa
                have hrowa := hid hrowa
                clear hrow y2
                go_wp2_with (first | (with_reducible refine stop_al2 64 rfl ?_) | (at_builtin; refine stop_append rfl ?_))
                rw [← hwa.out]
                clear y2a hwc hwz
                have hszA : wa.heap.size = wr.heap.size := by rw [hwa.out]; simp
                have hb3 : RB (wa.alloc (.cells #[.int .u8 2] 5)) (some ⟨wa.heap.size, 0, none⟩) 1 [2] := lit_rb13 [2] 5 (0, 0) (by simp)
                rw [hszA] at hb3
                have hlta := hDa.lts
                have hD3 := hDa.fr ((Fr.refl [] wa).alloc (.cells #[.int .u8 2] 5))
                have hf3 := hfa.alloc (.cells #[.int .u8 2] 5)
                have hfw : Fr [d, m] wa (wa.alloc (.cells #[.int .u8 2] 5)) := (Fr.refl [d, m] wa).alloc _
                generalize wa.alloc (.cells #[.int .u8 2] 5) = w3 at *
                refine (Write_ok d k m s i (some ⟨wr.heap.size, 0, none⟩) 1 1 [2] w3 hD3 hb3 (by intro _ z hz; cases hz; simp only; omega) (by omega) hso (by omega) (by decide) (i : Int) rfl).mono ?_
                rintro e w4 ⟨rfl, hD4, hf4⟩
                have hf34 : Fr [wb, d, m] wr w4 := (hf3.mono (S' := [wb, d, m]) (by intro z hz; left; simp at hz; simp [hz])).trans hf4 (by intro z hz; left; simp at hz; simp; omega)
                have hwr4 : Fr [d, m] wa w4 := hfw.trans hf4 (by simp)
                have HO4 := HOa.kept hwr4 (fun z hz => by have := hown.out z hz; simp; omega)
                have hrow4 : ∀ j, j < 6 → w4.cell? ⟨wb, j, none⟩ = some (encB (if j = i then 1 else if j < i then finalC F' (at_ W) (at_ C) j else 0)) ∧ w4.frozen? ⟨wb, j, none⟩ = false := by
                  intro j hj
                  have := hrowa.out j hj
                  refine ⟨hwr4.cell this.1 (by simp; omega), ?_⟩
                  rw [frozen_fr hwr4 (by omega) (by simp; omega)]
                  exact this.2
                have y34 := hwr4.cell y3a (by simp; omega)
                rw [hCi] at y34
                clear y3a y3
                have hwi4 := hrow4 i hi6
                rw [if_pos rfl] at hwi4
                obtain ⟨hwc4, hwz4⟩ := hwi4
                obtain ⟨w5, hw5⟩ : ∃ w5, w5 = w4.setCell ⟨wb, i, none⟩ (.int .u8 2) := ⟨_, rfl⟩
                have hf5 : Fr [wb] w4 w5 := by rw [hw5]; exact (Fr.refl _ _).setCell _ (.inl (by simp)) _
                have hrow5 := hid (row_set2 hrow4 hi6 2 hw5)
                have hsz5 : w5.heap.size = w4.heap.size := by rw [hw5]; simp
                have hw5 := hid hw5
                clear hrow4
                have hlt4 := hD4.lts
                have hD5 := hD4.away hf5 (by simp; omega)
                have HO5 := HO4.kept hf5 (fun z hz => by have := hown.out z hz; simp; omega)
                go_wp2_with (first | (with_reducible refine stop_al2 64 rfl ?_) | (at_builtin; refine stop_append rfl ?_))
                rw [← hw5.out]
                have hBw : Bs ≤ w5.heap.size := by
                  have e1 := hfr.size
                  have e2 := hf34.size
                  have e3 := hf5.size
                  omega
                refine Stop.go (app1 Bs rfl _ _ 22 5 rfl Try.underlying22 infoB13 HO5 255 rfl rfl (by rw [hsz5]; rfl) hBw (by omega) ?_)
                intro v6 w6' HO6 hf6' hn6
                have hlt5' := hD5.lts
                have hf6n : ∀ z ∈ u9.ownBlock.toList, Bs ≤ z := fun z hz => hown z (by simpa using hz)
                go_wp2_with (first | (with_reducible refine stop_al2 64 rfl ?_) | (at_builtin; refine stop_append rfl ?_))
                go_roundw
                case rel =>
                  refine ⟨i + 1, s.step.put i [2], by omega, rfl, (hfr.trans (hf34.trans hf5 (by simp)) (by simp)).trans hf6' (fun z hz => .inr (by have := hf6n z hz; omega)), hD5.away hf6' ⟨fun h => by have := hf6n d h; omega, fun h => by have := hf6n k h; omega, fun h => by have := hf6n m h; omega⟩, hsn, hso, by show s.steps + 1 ≤ 7 + (i + 1); omega, hkept, fun j => ?_, ?_, fun j hj => ?_⟩
                  · show (if j = i then some (laid [2] (s.step.now i)) else s.pend j) = _
                    by_cases hji : j = i
                    · subst hji
                      rw [if_pos rfl, hWi]
                      have e2 : decide (j < j + 1) = true := by simp
                      rw [e2]
                      have e3 : s.step.now j = baseC F' j := by
                        show (s.pend j).getD (s.kept j) = _
                        rw [hpend.out, hkept.out]
                        have e1 : decide (j < j) = false := by simp
                        rw [e1]
                        rfl
                      rw [e3]
                      rfl
                    · rw [if_neg hji, hpend.out, dec_succ hji]
                  · rw [hsucc.out, hWi]
                    have : choiceOf (at_ C) i = 255 := by unfold choiceOf; rw [hCi]; rfl
                    rw [if_pos rfl, this]
                    exact HO6
                  · have h5 : ∀ j, j < 6 → w6'.cell? ⟨wb, j, none⟩ = some (encB (if j = i then 2 else if j < i then finalC F' (at_ W) (at_ C) j else 0)) ∧ w6'.frozen? ⟨wb, j, none⟩ = false := by
                      intro j hj
                      have := hrow5.out j hj
                      have hwbs : wb < w5.heap.size := by omega
                      refine ⟨hf6'.cell this.1 (fun h => by have := hf6n wb h; omega), ?_⟩
                      rw [frozen_fr hf6' hwbs (fun h => by have := hf6n wb h; omega)]
                      exact this.2
                    refine row_next h5 hi6 ?_ j hj
                    unfold finalC
                    rw [hF'at.out i hi6, hFi, hWi, hCi]
                    rfl
                case measure => simp [intOf]; omega
              | false =>
                obtain ⟨wa, hwa⟩ : ∃ wa, wa = wr.setCell ⟨wb, i, none⟩ (.int .u8 1) := ⟨_, rfl⟩
                have hfa : Fr [wb] wr wa := by rw [hwa]; exact (Fr.refl _ _).setCell _ (.inl (by simp)) _
                have hrowa := row_set hrow hi6 1 hwa
                have hDa := hD.away hfa (by simp; omega)
                have HOa := HO.kept hfa (fun z hz => by have := hown.out z hz; simp; omega)
                have y2a := hfa.cell y2 (by simp; omega)
                have y3a := hfa.cell y3 (by simp; omega)
                rw [hFi] at y1
                obtain ⟨hwc, hwz⟩ := hwi
                rw [hWi] at y2a
                rw [hwa] at y2a
                have hwa := hid hwa
                have hrowa := hid hrowa
                clear hrow y2
                go_wp2_with (first | (with_reducible refine stop_al2 64 rfl ?_) | (at_builtin; refine stop_append rfl ?_))
                rw [← hwa.out]
                clear y2a hwc hwz
                have hszA : wa.heap.size = wr.heap.size := by rw [hwa.out]; simp
                have hb3 : RB (wa.alloc (.cells #[.int .u8 2] 5)) (some ⟨wa.heap.size, 0, none⟩) 1 [2] := lit_rb13 [2] 5 (0, 0) (by simp)
                rw [hszA] at hb3
                have hlta := hDa.lts
                have hD3 := hDa.fr ((Fr.refl [] wa).alloc (.cells #[.int .u8 2] 5))
                have hf3 := hfa.alloc (.cells #[.int .u8 2] 5)
                have hfw : Fr [d, m] wa (wa.alloc (.cells #[.int .u8 2] 5)) := (Fr.refl [d, m] wa).alloc _
                generalize wa.alloc (.cells #[.int .u8 2] 5) = w3 at *
                refine (Write_ok d k m s i (some ⟨wr.heap.size, 0, none⟩) 1 1 [2] w3 hD3 hb3 (by intro _ z hz; cases hz; simp only; omega) (by omega) hso (by omega) (by decide) (i : Int) rfl).mono ?_
                rintro e w4 ⟨rfl, hD4, hf4⟩
                have hf34 : Fr [wb, d, m] wr w4 := (hf3.mono (S' := [wb, d, m]) (by intro z hz; left; simp at hz; simp [hz])).trans hf4 (by intro z hz; left; simp at hz; simp; omega)
                have hwr4 : Fr [d, m] wa w4 := hfw.trans hf4 (by simp)
                have HO4 := HOa.kept hwr4 (fun z hz => by have := hown.out z hz; simp; omega)
                have hrow4 : ∀ j, j < 6 → w4.cell? ⟨wb, j, none⟩ = some (encB (if j = i then 1 else if j < i then finalC F' (at_ W) (at_ C) j else 0)) ∧ w4.frozen? ⟨wb, j, none⟩ = false := by
                  intro j hj
                  have := hrowa.out j hj
                  refine ⟨hwr4.cell this.1 (by simp; omega), ?_⟩
                  rw [frozen_fr hwr4 (by omega) (by simp; omega)]
                  exact this.2
                have y34 := hwr4.cell y3a (by simp; omega)
                rw [hCi] at y34
                clear y3a y3
                have hwi4 := hrow4 i hi6
                rw [if_pos rfl] at hwi4
                obtain ⟨hwc4, hwz4⟩ := hwi4
                obtain ⟨w5, hw5⟩ : ∃ w5, w5 = w4 := ⟨_, rfl⟩
                have hf5 : Fr [wb] w4 w5 := by rw [hw5]; exact Fr.refl _ _
                have hrow5 := hid hrow4
                have hsz5 : w5.heap.size = w4.heap.size := by rw [hw5]
                have hD5 := hD4
                have HO5 := HO4
                rw [← hw5] at hD5 HO5
                rw [← hw5] at hrow5
                clear hrow4
                have hw5 := hid hw5
                go_wp2_with (first | (with_reducible refine stop_al2 64 rfl ?_) | (at_builtin; refine stop_append rfl ?_))
                rw [← hw5.out]
                have hBw : Bs ≤ w5.heap.size := by
                  have e1 := hfr.size
                  have e2 := hf34.size
                  have e3 := hf5.size
                  omega
                refine Stop.go (app1 Bs rfl _ _ 22 5 rfl Try.underlying22 infoB13 HO5 0 rfl rfl (by rw [hsz5]; rfl) hBw (by omega) ?_)
                intro v6 w6' HO6 hf6' hn6
                have hlt5' := hD5.lts
                have hf6n : ∀ z ∈ u9.ownBlock.toList, Bs ≤ z := fun z hz => hown z (by simpa using hz)
                go_wp2_with (first | (with_reducible refine stop_al2 64 rfl ?_) | (at_builtin; refine stop_append rfl ?_))
                go_roundw
                case rel =>
                  refine ⟨i + 1, s.step.put i [2], by omega, rfl, (hfr.trans (hf34.trans hf5 (by simp)) (by simp)).trans hf6' (fun z hz => .inr (by have := hf6n z hz; omega)), hD5.away hf6' ⟨fun h => by have := hf6n d h; omega, fun h => by have := hf6n k h; omega, fun h => by have := hf6n m h; omega⟩, hsn, hso, by show s.steps + 1 ≤ 7 + (i + 1); omega, hkept, fun j => ?_, ?_, fun j hj => ?_⟩
                  · show (if j = i then some (laid [2] (s.step.now i)) else s.pend j) = _
                    by_cases hji : j = i
                    · subst hji
                      rw [if_pos rfl, hWi]
                      have e2 : decide (j < j + 1) = true := by simp
                      rw [e2]
                      have e3 : s.step.now j = baseC F' j := by
                        show (s.pend j).getD (s.kept j) = _
                        rw [hpend.out, hkept.out]
                        have e1 : decide (j < j) = false := by simp
                        rw [e1]
                        rfl
                      rw [e3]
                      rfl
                    · rw [if_neg hji, hpend.out, dec_succ hji]
                  · rw [hsucc.out, hWi]
                    have : choiceOf (at_ C) i = 0 := by unfold choiceOf; rw [hCi]; rfl
                    rw [if_pos rfl, this]
                    exact HO6
                  · have h5 : ∀ j, j < 6 → w6'.cell? ⟨wb, j, none⟩ = some (encB (if j = i then 1 else if j < i then finalC F' (at_ W) (at_ C) j else 0)) ∧ w6'.frozen? ⟨wb, j, none⟩ = false := by
                      intro j hj
                      have := hrow5.out j hj
                      have hwbs : wb < w5.heap.size := by omega
                      refine ⟨hf6'.cell this.1 (fun h => by have := hf6n wb h; omega), ?_⟩
                      rw [frozen_fr hf6' hwbs (fun h => by have := hf6n wb h; omega)]
                      exact this.2
                    refine row_next h5 hi6 ?_ j hj
                    unfold finalC
                    rw [hF'at.out i hi6, hFi, hWi, hCi]
                    rfl
                case measure => simp [intOf]; omega
            | false =>
              obtain ⟨wa, hwa⟩ : ∃ wa, wa = wr.setCell ⟨wb, i, none⟩ (.int .u8 1) := ⟨_, rfl⟩
              have hfa : Fr [wb] wr wa := by rw [hwa]; exact (Fr.refl _ _).setCell _ (.inl (by simp)) _
              have hrowa := row_set hrow hi6 1 hwa
              have hDa := hD.away hfa (by simp; omega)
              have HOa := HO.kept hfa (fun z hz => by have := hown.out z hz; simp; omega)
              have y2a := hfa.cell y2 (by simp; omega)
              have y3a := hfa.cell y3 (by simp; omega)
              rw [hFi] at y1
              obtain ⟨hwc, hwz⟩ := hwi
              rw [hWi] at y2a
              rw [hwa] at y2a
              have hwa := hid hwa
              have hrowa := hid hrowa
              clear hrow y2
              go_wp2_with (first | (with_reducible refine stop_al2 64 rfl ?_) | (at_builtin; refine stop_append rfl ?_))
              rw [← hwa.out]
              go_roundw
              case rel =>
                refine ⟨i + 1, s, by omega, rfl, hfr.trans hfa (by simp), hDa, hsn, hso, by omega, hkept.out, fun j => ?_, ?_, fun j hj => ?_⟩
                · rw [hpend.out]
                  by_cases hji : j = i
                  · subst hji
                    rw [hWi, Bool.and_false, Bool.and_false]
                  · rw [dec_succ hji]
                · rw [hsucc.out, hWi]
                  exact HOa
                · refine row_next hrowa.out hi6 ?_ j hj
                  unfold finalC
                  rw [hF'at.out i hi6, hFi, hWi]
                  rfl
              case measure => simp [intOf]; omega
          | false =>
            cases hWi : at_ W i with
            | true =>
              cases hCi : at_ C i with
              | true =>
                have hfa : Fr [wb] wr wr := Fr.refl _ _
                have hrowa : ∀ j, j < 6 → wr.cell? ⟨wb, j, none⟩ = some (encB (if j = i then 0 else if j < i then finalC F' (at_ W) (at_ C) j else 0)) ∧ wr.frozen? ⟨wb, j, none⟩ = false := by
                  intro j hj
                  have := hrow j hj
                  by_cases hji : j = i
                  · subst hji
                    rw [if_pos rfl]
                    rw [if_neg (by omega)] at this
                    exact this
                  · rw [if_neg hji]
                    exact this
                have hDa := hD
                have HOa := HO
                have y2a := y2
                have y3a := y3
                rw [hFi] at y1
                rw [hWi] at y2a
                have hrowa := hid hrowa
                clear hrow hwi
                go_wp2_with (first | (with_reducible refine stop_al2 64 rfl ?_) | (at_builtin; refine stop_append rfl ?_))
                clear y2a y2
                have hszA : wr.heap.size = wr.heap.size := rfl
                have hb3 : RB (wr.alloc (.cells #[.int .u8 2] 5)) (some ⟨wr.heap.size, 0, none⟩) 1 [2] := lit_rb13 [2] 5 (0, 0) (by simp)
                rw [hszA] at hb3
                have hlta := hDa.lts
                have hD3 := hDa.fr ((Fr.refl [] wr).alloc (.cells #[.int .u8 2] 5))
                have hf3 := hfa.alloc (.cells #[.int .u8 2] 5)
                have hfw : Fr [d, m] wr (wr.alloc (.cells #[.int .u8 2] 5)) := (Fr.refl [d, m] wr).alloc _
                generalize wr.alloc (.cells #[.int .u8 2] 5) = w3 at *
                refine (Write_ok d k m s i (some ⟨wr.heap.size, 0, none⟩) 1 1 [2] w3 hD3 hb3 (by intro _ z hz; cases hz; simp only; omega) (by omega) hso (by omega) (by decide) (i : Int) rfl).mono ?_
                rintro e w4 ⟨rfl, hD4, hf4⟩
                have hf34 : Fr [wb, d, m] wr w4 := (hf3.mono (S' := [wb, d, m]) (by intro z hz; left; simp at hz; simp [hz])).trans hf4 (by intro z hz; left; simp at hz; simp; omega)
                have hwr4 : Fr [d, m] wr w4 := hfw.trans hf4 (by simp)
                have HO4 := HOa.kept hwr4 (fun z hz => by have := hown.out z hz; simp; omega)
                have hrow4 : ∀ j, j < 6 → w4.cell? ⟨wb, j, none⟩ = some (encB (if j = i then 0 else if j < i then finalC F' (at_ W) (at_ C) j else 0)) ∧ w4.frozen? ⟨wb, j, none⟩ = false := by
                  intro j hj
                  have := hrowa.out j hj
                  refine ⟨hwr4.cell this.1 (by simp; omega), ?_⟩
                  rw [frozen_fr hwr4 (by omega) (by simp; omega)]
                  exact this.2
                have y34 := hwr4.cell y3a (by simp; omega)
                rw [hCi] at y34
                clear y3a y3
                have hwi4 := hrow4 i hi6
                rw [if_pos rfl] at hwi4
                obtain ⟨hwc4, hwz4⟩ := hwi4
                obtain ⟨w5, hw5⟩ : ∃ w5, w5 = w4.setCell ⟨wb, i, none⟩ (.int .u8 2) := ⟨_, rfl⟩
                have hf5 : Fr [wb] w4 w5 := by rw [hw5]; exact (Fr.refl _ _).setCell _ (.inl (by simp)) _
                have hrow5 := hid (row_set2 hrow4 hi6 2 hw5)
                have hsz5 : w5.heap.size = w4.heap.size := by rw [hw5]; simp
                have hw5 := hid hw5
                clear hrow4
                have hlt4 := hD4.lts
                have hD5 := hD4.away hf5 (by simp; omega)
                have HO5 := HO4.kept hf5 (fun z hz => by have := hown.out z hz; simp; omega)
                go_wp2_with (first | (with_reducible refine stop_al2 64 rfl ?_) | (at_builtin; refine stop_append rfl ?_))
                rw [← hw5.out]
                have hBw : Bs ≤ w5.heap.size := by
                  have e1 := hfr.size
                  have e2 := hf34.size
                  have e3 := hf5.size
                  omega
                refine Stop.go (app1 Bs rfl _ _ 22 5 rfl Try.underlying22 infoB13 HO5 255 rfl rfl (by rw [hsz5]; rfl) hBw (by omega) ?_)
                intro v6 w6' HO6 hf6' hn6
                have hlt5' := hD5.lts
                have hf6n : ∀ z ∈ u9.ownBlock.toList, Bs ≤ z := fun z hz => hown z (by simpa using hz)
                go_wp2_with (first | (with_reducible refine stop_al2 64 rfl ?_) | (at_builtin; refine stop_append rfl ?_))
                go_roundw
                case rel =>
                  refine ⟨i + 1, s.step.put i [2], by omega, rfl, (hfr.trans (hf34.trans hf5 (by simp)) (by simp)).trans hf6' (fun z hz => .inr (by have := hf6n z hz; omega)), hD5.away hf6' ⟨fun h => by have := hf6n d h; omega, fun h => by have := hf6n k h; omega, fun h => by have := hf6n m h; omega⟩, hsn, hso, by show s.steps + 1 ≤ 7 + (i + 1); omega, hkept, fun j => ?_, ?_, fun j hj => ?_⟩
                  · show (if j = i then some (laid [2] (s.step.now i)) else s.pend j) = _
                    by_cases hji : j = i
                    · subst hji
                      rw [if_pos rfl, hWi]
                      have e2 : decide (j < j + 1) = true := by simp
                      rw [e2]
                      have e3 : s.step.now j = baseC F' j := by
                        show (s.pend j).getD (s.kept j) = _
                        rw [hpend.out, hkept.out]
                        have e1 : decide (j < j) = false := by simp
                        rw [e1]
                        rfl
                      rw [e3]
                      rfl
                    · rw [if_neg hji, hpend.out, dec_succ hji]
                  · rw [hsucc.out, hWi]
                    have : choiceOf (at_ C) i = 255 := by unfold choiceOf; rw [hCi]; rfl
                    rw [if_pos rfl, this]
                    exact HO6
                  · have h5 : ∀ j, j < 6 → w6'.cell? ⟨wb, j, none⟩ = some (encB (if j = i then 2 else if j < i then finalC F' (at_ W) (at_ C) j else 0)) ∧ w6'.frozen? ⟨wb, j, none⟩ = false := by
                      intro j hj
                      have := hrow5.out j hj
                      have hwbs : wb < w5.heap.size := by omega
                      refine ⟨hf6'.cell this.1 (fun h => by have := hf6n wb h; omega), ?_⟩
                      rw [frozen_fr hf6' hwbs (fun h => by have := hf6n wb h; omega)]
                      exact this.2
                    refine row_next h5 hi6 ?_ j hj
                    unfold finalC
                    rw [hF'at.out i hi6, hFi, hWi, hCi]
                    rfl
                case measure => simp [intOf]; omega
              | false =>
                have hfa : Fr [wb] wr wr := Fr.refl _ _
                have hrowa : ∀ j, j < 6 → wr.cell? ⟨wb, j, none⟩ = some (encB (if j = i then 0 else if j < i then finalC F' (at_ W) (at_ C) j else 0)) ∧ wr.frozen? ⟨wb, j, none⟩ = false := by
                  intro j hj
                  have := hrow j hj
                  by_cases hji : j = i
                  · subst hji
                    rw [if_pos rfl]
                    rw [if_neg (by omega)] at this
                    exact this
                  · rw [if_neg hji]
                    exact this
                have hDa := hD
                have HOa := HO
                have y2a := y2
                have y3a := y3
                rw [hFi] at y1
                rw [hWi] at y2a
                have hrowa := hid hrowa
                clear hrow hwi
                go_wp2_with (first | (with_reducible refine stop_al2 64 rfl ?_) | (at_builtin; refine stop_append rfl ?_))
                clear y2a y2
                have hszA : wr.heap.size = wr.heap.size := rfl
                have hb3 : RB (wr.alloc (.cells #[.int .u8 2] 5)) (some ⟨wr.heap.size, 0, none⟩) 1 [2] := lit_rb13 [2] 5 (0, 0) (by simp)
                rw [hszA] at hb3
                have hlta := hDa.lts
                have hD3 := hDa.fr ((Fr.refl [] wr).alloc (.cells #[.int .u8 2] 5))
                have hf3 := hfa.alloc (.cells #[.int .u8 2] 5)
                have hfw : Fr [d, m] wr (wr.alloc (.cells #[.int .u8 2] 5)) := (Fr.refl [d, m] wr).alloc _
                generalize wr.alloc (.cells #[.int .u8 2] 5) = w3 at *
                refine (Write_ok d k m s i (some ⟨wr.heap.size, 0, none⟩) 1 1 [2] w3 hD3 hb3 (by intro _ z hz; cases hz; simp only; omega) (by omega) hso (by omega) (by decide) (i : Int) rfl).mono ?_
                rintro e w4 ⟨rfl, hD4, hf4⟩
                have hf34 : Fr [wb, d, m] wr w4 := (hf3.mono (S' := [wb, d, m]) (by intro z hz; left; simp at hz; simp [hz])).trans hf4 (by intro z hz; left; simp at hz; simp; omega)
                have hwr4 : Fr [d, m] wr w4 := hfw.trans hf4 (by simp)
                have HO4 := HOa.kept hwr4 (fun z hz => by have := hown.out z hz; simp; omega)
                have hrow4 : ∀ j, j < 6 → w4.cell? ⟨wb, j, none⟩ = some (encB (if j = i then 0 else if j < i then finalC F' (at_ W) (at_ C) j else 0)) ∧ w4.frozen? ⟨wb, j, none⟩ = false := by
                  intro j hj
                  have := hrowa.out j hj
                  refine ⟨hwr4.cell this.1 (by simp; omega), ?_⟩
                  rw [frozen_fr hwr4 (by omega) (by simp; omega)]
                  exact this.2
                have y34 := hwr4.cell y3a (by simp; omega)
                rw [hCi] at y34
                clear y3a y3
                have hwi4 := hrow4 i hi6
                rw [if_pos rfl] at hwi4
                obtain ⟨hwc4, hwz4⟩ := hwi4
                obtain ⟨w5, hw5⟩ : ∃ w5, w5 = w4 := ⟨_, rfl⟩
                have hf5 : Fr [wb] w4 w5 := by rw [hw5]; exact Fr.refl _ _
                have hrow5 := hid hrow4
                have hsz5 : w5.heap.size = w4.heap.size := by rw [hw5]
                have hD5 := hD4
                have HO5 := HO4
                rw [← hw5] at hD5 HO5
                rw [← hw5] at hrow5
                clear hrow4
                have hw5 := hid hw5
                go_wp2_with (first | (with_reducible refine stop_al2 64 rfl ?_) | (at_builtin; refine stop_append rfl ?_))
                rw [← hw5.out]
                have hBw : Bs ≤ w5.heap.size := by
                  have e1 := hfr.size
                  have e2 := hf34.size
                  have e3 := hf5.size
                  omega
                refine Stop.go (app1 Bs rfl _ _ 22 5 rfl Try.underlying22 infoB13 HO5 0 rfl rfl (by rw [hsz5]; rfl) hBw (by omega) ?_)
                intro v6 w6' HO6 hf6' hn6
                have hlt5' := hD5.lts
                have hf6n : ∀ z ∈ u9.ownBlock.toList, Bs ≤ z := fun z hz => hown z (by simpa using hz)
                go_wp2_with (first | (with_reducible refine stop_al2 64 rfl ?_) | (at_builtin; refine stop_append rfl ?_))
                go_roundw
                case rel =>
                  refine ⟨i + 1, s.step.put i [2], by omega, rfl, (hfr.trans (hf34.trans hf5 (by simp)) (by simp)).trans hf6' (fun z hz => .inr (by have := hf6n z hz; omega)), hD5.away hf6' ⟨fun h => by have := hf6n d h; omega, fun h => by have := hf6n k h; omega, fun h => by have := hf6n m h; omega⟩, hsn, hso, by show s.steps + 1 ≤ 7 + (i + 1); omega, hkept, fun j => ?_, ?_, fun j hj => ?_⟩
                  · show (if j = i then some (laid [2] (s.step.now i)) else s.pend j) = _
                    by_cases hji : j = i
                    · subst hji
                      rw [if_pos rfl, hWi]
                      have e2 : decide (j < j + 1) = true := by simp
                      rw [e2]
                      have e3 : s.step.now j = baseC F' j := by
                        show (s.pend j).getD (s.kept j) = _
                        rw [hpend.out, hkept.out]
                        have e1 : decide (j < j) = false := by simp
                        rw [e1]
                        rfl
                      rw [e3]
                      rfl
                    · rw [if_neg hji, hpend.out, dec_succ hji]
                  · rw [hsucc.out, hWi]
                    have : choiceOf (at_ C) i = 0 := by unfold choiceOf; rw [hCi]; rfl
                    rw [if_pos rfl, this]
                    exact HO6
                  · have h5 : ∀ j, j < 6 → w6'.cell? ⟨wb, j, none⟩ = some (encB (if j = i then 0 else if j < i then finalC F' (at_ W) (at_ C) j else 0)) ∧ w6'.frozen? ⟨wb, j, none⟩ = false := by
                      intro j hj
                      have := hrow5.out j hj
                      have hwbs : wb < w5.heap.size := by omega
                      refine ⟨hf6'.cell this.1 (fun h => by have := hf6n wb h; omega), ?_⟩
                      rw [frozen_fr hf6' hwbs (fun h => by have := hf6n wb h; omega)]
                      exact this.2
                    refine row_next h5 hi6 ?_ j hj
                    unfold finalC
                    rw [hF'at.out i hi6, hFi, hWi, hCi]
                    rfl
                case measure => simp [intOf]; omega
            | false =>
              have hfa : Fr [wb] wr wr := Fr.refl _ _
              have hrowa : ∀ j, j < 6 → wr.cell? ⟨wb, j, none⟩ = some (encB (if j = i then 0 else if j < i then finalC F' (at_ W) (at_ C) j else 0)) ∧ wr.frozen? ⟨wb, j, none⟩ = false := by
                intro j hj
                have := hrow j hj
                by_cases hji : j = i
                · subst hji
                  rw [if_pos rfl]
                  rw [if_neg (by omega)] at this
                  exact this
                · rw [if_neg hji]
                  exact this
              have hDa := hD
              have HOa := HO
              have y2a := y2
              have y3a := y3
              rw [hFi] at y1
              rw [hWi] at y2a
              have hrowa := hid hrowa
              clear hrow hwi
              go_wp2_with (first | (with_reducible refine stop_al2 64 rfl ?_) | (at_builtin; refine stop_append rfl ?_))
              go_roundw
              case rel =>
                refine ⟨i + 1, s, by omega, rfl, hfr.trans hfa (by simp), hDa, hsn, hso, by omega, hkept.out, fun j => ?_, ?_, fun j hj => ?_⟩
                · rw [hpend.out]
                  by_cases hji : j = i
                  · subst hji
                    rw [hWi, Bool.and_false, Bool.and_false]
                  · rw [dec_succ hji]
                · rw [hsucc.out, hWi]
                  exact HOa
                · refine row_next hrowa.out hi6 ?_ j hj
                  unfold finalC
                  rw [hF'at.out i hi6, hFi, hWi]
                  rfl
              case measure => simp [intOf]; omega
        · have hie : i = 6 := by omega
          subst hie
          have hsp : ∀ j, s.pend j = if decide (j < 6) && at_ W j then some (laid [2] (baseC F' j)) else none := hpend.out
          obtain ⟨A9, c9, rfl, hc9, hr9, hz9⟩ := HO.form
          go_wp2_with fail
          refine (Crash_c d k m s A9 _ c9 _ wr hD hr9 hc9 (by intro _ z hz; have := hown.out _ (hz9 z hz).1; omega)).mono ?_
          have hlaw := choices_law F' (at_ W) (at_ C) s hkept.out hsp
          obtain ⟨s10, hs10⟩ : ∃ s10, s10 = s.crash (choicesOf (at_ W) (at_ C) 6) := ⟨_, rfl⟩
          rw [← hs10] at hlaw
          rw [← hs10]
          have ho10 : s10.off = false := by rw [hs10]; exact DSt.off_zero rfl
          have hn10 : s10.n = 6 := by rw [hs10]; exact hsn
          clear hs10 hkept hsp hpend
          rintro e w10 ⟨rfl, hD10, hf10⟩
          have hf010 := hfr0.past hf10 (by intro z hz; simp at hz; omega)
          have hrow10 : ∀ j, j < 6 → w10.cell? ⟨wb, j, none⟩ = some (encB (finalC F' (at_ W) (at_ C) j)) := by
            intro j hj
            have := (hrow j hj).1
            rw [if_pos hj] at this
            exact hf10.cell this (by simp; omega)
          have hlaw := hid hlaw
          have hrow10 := hid hrow10
          clear hrow HO hr9
          go_wp2_with fail
          go_loopw [13] (fun iv wr => ∃ (i : Nat), i ≤ 6 ∧ iv = .int .i64 i ∧ Fr [] w10 wr) (fun iv _ => 6 - (intOf iv).toNat)
          case atStart => exact ⟨0, by omega, rfl, Fr.refl _ _⟩
          case round =>
            rename_i wr9 _ _ _ _ _ _ _ _ _
            obtain ⟨i, hi, rfl, hfq⟩ := hrel
            by_cases hi6 : i < 6
            · go_wp2_with fail
              refine (Read_ok d k m s10 i _ (hD10.fr hfq) ho10 (by omega) (i : Int) rfl).mono ?_
              obtain ⟨t, ht⟩ := hlaw.out i hi6
              rw [ht]
              rintro e w11 ⟨b, rfl, ⟨hb1, hb2⟩, hr11, ht11, hf11⟩
              have hf1011 := hfq.then hf11
              have z1 := range_cell hr11 0 (by simp)
              have z2 := hf1011.cell (hrow10.out i hi6) (by simp)
              simp only [Nat.add_zero, List.getElem_cons_zero] at z1
              unfold encB at z2
              clear hr11 ht11
              go_wp2_with fail
              refine wp_region_text' (by kernel_rfl) (by kernel_rfl) ?_
              intro K2 hK2
              have z1' : w11.drew.cell? ⟨b, 0, none⟩ = _ := z1
              have z2' : w11.drew.cell? ⟨wb, i, none⟩ = _ := z2
              go_wp2_with fail
              refine hK2 _ _ (by kernel_rfl) ?_
              go_wp2_with fail
              go_roundw
              case rel => exact ⟨i + 1, by omega, rfl, hf1011.drew⟩
              case measure => simp [intOf]; omega
            · have hie : i = 6 := by omega
              subst hie
              go_wp2_with fail
              go_ret
              exact ⟨rfl, (hF0.then (hf010.then hfq)).all⟩
end Go.Proofs.Ytiialjncdhhceaa.sectorChoices
