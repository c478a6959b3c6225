/- Package paddocklaw15's own questions: is a transaction one; are its writes few. -/
import Derived.Test.YtiialjncdhhceaaGreatRunStoRow
import Derived.Test.YtiialjncdhhceaaGreatTextO
namespace Go.Proofs.YtiialjncdhhceaaGreat
open Go.RowKit
set_option linter.unusedVariables false
set_option linter.unusedSimpArgs false

theorem wr_cells {w : World} {b off : Nat} {x : Wr} (hr : w.rangeAt b off x.cells) : w.cell? ⟨b, off, none⟩ = some (.string x.key) ∧ w.cell? ⟨b, off + 1, none⟩ = some (.string x.b) ∧ w.cell? ⟨b, off + 2, none⟩ = some (.bool x.drop) :=
  ⟨by simpa using hr 0 _ rfl, hr 1 _ rfl, hr 2 _ rfl⟩

set_option maxHeartbeats 2000000 in
set_option maxRecDepth 100000 in
theorem is_c (A : Option Addr) (n c : Nat) (tx : List Wr) (w : World) (hR : RW w A n tx) :
    Calls Tryz.prog 23 #[.slice A n c] w fun e w' => e = .returned (.bool (rightB tx)) ∧ Fr [] w w' := by
  have hln := hR.1
  have hbg := hR.2.1
  have hrb : rightB tx = (tx.all Wr.ok && decide (1 ≤ n) && decide (n ≤ 20)) := by rw [← hln]; rfl
  rw [hrb]
  clear hrb
  go_enter Tryz.func23, Tryz.ntmps23
  go_wp2_with fail
  go_loopw [3] (fun iv wr => ∃ i : Nat, i ≤ n ∧ iv = .int .i64 i ∧ (∀ x ∈ tx.take i, x.ok = true) ∧ Fr [] w wr) (fun iv _ => n - (intOf iv).toNat)
  case atStart => exact ⟨0, by omega, rfl, by simp, Fr.refl _ _⟩
  case round =>
    obtain ⟨i, hi, rfl, hall, hfr⟩ := hrel
    by_cases hin : i < n
    · obtain ⟨b, off, rfl, hr⟩ := (hR.fr hfr).at i hin
      have hmem := List.getElem_mem (l := tx) (n := i) (by omega)
      have htk : tx.take (i + 1) = tx.take i ++ [tx[i]'(by omega)] := by rw [List.take_add_one, List.getElem?_eq_getElem (by omega)]; rfl
      replace htk := hid htk
      replace hall := hid hall
      generalize tx[i]'(by omega) = x at *
      replace hmem := hid hmem
      obtain ⟨e0, e1, e2⟩ := wr_cells hr
      clear hr
      obtain ⟨key, bb, dr⟩ := x
      dsimp only at e0 e1 e2
      have bad : (⟨key, bb, dr⟩ : Wr).ok = false → (tx.all Wr.ok && decide (1 ≤ n) && decide (n ≤ 20)) = false := fun h => by
        have : tx.all Wr.ok = false := List.all_eq_false.2 ⟨_, hmem.out, by simp [h]⟩
        rw [this]
        rfl
      have hokf : ((⟨key, bb, dr⟩ : Wr).ok = true → False) → (⟨key, bb, dr⟩ : Wr).ok = false := fun h => by
        cases hh : (⟨key, bb, dr⟩ : Wr).ok with
        | false => rfl
        | true => exact absurd hh h
      replace hokf := hid hokf
      replace bad := hid bad
      by_cases h1 : key.size < 1
      · have hb := bad.out (hokf.out (fun h => by have := (Wr.ok_iff _).1 h; simp only at this; omega))
        replace hb := hid hb
        have h1I : (key.size : Int) < 1 := by omega
        go_wp2_with fail
        go_ret
        exact ⟨by show Ending.returned (.bool false) = _; rw [hb.out], hfr⟩
      · have h1I : ¬ (key.size : Int) < 1 := by omega
        by_cases h2 : 20 < key.size
        · have hb := bad.out (hokf.out (fun h => by have := (Wr.ok_iff _).1 h; simp only at this; omega))
          replace hb := hid hb
          have h2I : (20 : Int) < (key.size : Int) := by omega
          go_wp2_with fail
          go_ret
          exact ⟨by show Ending.returned (.bool false) = _; rw [hb.out], hfr⟩
        · have h2I : ¬ (20 : Int) < (key.size : Int) := by omega
          by_cases h3 : 6000 < bb.size
          · have hb := bad.out (hokf.out (fun h => by have := (Wr.ok_iff _).1 h; simp only at this; omega))
            replace hb := hid hb
            have h3I : (6000 : Int) < (bb.size : Int) := by omega
            go_wp2_with fail
            go_ret
            exact ⟨by show Ending.returned (.bool false) = _; rw [hb.out], hfr⟩
          · have h3I : ¬ (6000 : Int) < (bb.size : Int) := by omega
            cases dr with
            | false =>
              have hgood : (⟨key, bb, false⟩ : Wr).ok = true := (Wr.ok_iff _).2 ⟨by simp only; omega, by simp only; omega, by simp only; omega, by simp⟩
              replace hgood := hid hgood
              go_wp2_with fail
              try go_frame
              go_roundw
              case rel => exact ⟨i + 1, by omega, rfl, fun y hy => by
                rw [htk.out] at hy
                rcases List.mem_append.1 hy with hy | hy
                · exact hall.out y hy
                · simp at hy; subst hy; exact hgood.out, hfr⟩
              case measure => simp [intOf]; omega
            | true =>
              by_cases h4 : bb.size = 0
              · have hgood : (⟨key, bb, true⟩ : Wr).ok = true := (Wr.ok_iff _).2 ⟨by simp only; omega, by simp only; omega, by simp only; omega, fun _ => h4⟩
                replace hgood := hid hgood
                have h4' := str_empty h4
                subst h4'
                go_wp2_with fail
                try go_frame
                go_roundw
                case rel => exact ⟨i + 1, by omega, rfl, fun y hy => by
                  rw [htk.out] at hy
                  rcases List.mem_append.1 hy with hy | hy
                  · exact hall.out y hy
                  · simp at hy; subst hy; exact hgood.out, hfr⟩
                case measure => simp [intOf]; omega
              · have hb := bad.out (hokf.out (fun h => h4 (((Wr.ok_iff _).1 h).2.2.2 rfl)))
                replace hb := hid hb
                have h4' := str_nonempty h4
                go_wp2_with fail
                go_ret
                exact ⟨by show Ending.returned (.bool false) = _; rw [hb.out], hfr⟩
    · have hie : i = n := by omega
      subst hie
      rw [List.take_of_length_le (by omega)] at hall
      have hal : tx.all Wr.ok = true := List.all_eq_true.2 hall
      replace hal := hid hal
      by_cases h1 : 1 ≤ i
      · have h1I : (1 : Int) ≤ (i : Int) := by omega
        by_cases h2 : i ≤ 20
        · have h2I : (i : Int) ≤ 20 := by omega
          go_wp2_with fail
          go_ret
          exact ⟨by first | rfl | (show Ending.returned (.bool true) = _; rw [hal.out]; simp [h1, h2]), hfr⟩
        · have h2I : ¬ (i : Int) ≤ 20 := by omega
          go_wp2_with fail
          go_ret
          exact ⟨by first | rfl | (show Ending.returned (.bool false) = _; rw [hal.out]; simp [h1, h2]), hfr⟩
      · have h1I : ¬ (1 : Int) ≤ (i : Int) := by omega
        go_wp2_with fail
        go_ret
        exact ⟨by first | rfl | (show Ending.returned (.bool false) = _; rw [hal.out]; simp [h1]), hfr⟩

def sumW (tx : List Wr) : Nat := (tx.map fun x => x.b.size + x.key.size).sum
def fewB (tx : List Wr) : Bool := decide (tx.length ≤ 25) && decide (sumW tx ≤ 20000)
theorem sumW_take (tx : List Wr) (i : Nat) (hi : i < tx.length) : sumW (tx.take (i + 1)) = sumW (tx.take i) + (tx[i].b.size + tx[i].key.size) := by
  unfold sumW
  rw [List.take_add_one, List.getElem?_eq_getElem hi, List.map_append, List.sum_append]
  simp
theorem sumW_le (tx : List Wr) (M : Nat) (h : ∀ x ∈ tx, x.b.size + x.key.size ≤ M) : sumW tx ≤ tx.length * M := by
  induction tx with
  | nil => simp [sumW]
  | cons x r ih =>
    have h1 := h x (by simp)
    have h2 := ih (fun y hy => h y (by simp [hy]))
    unfold sumW at h2 ⊢
    simp only [List.map_cons, List.sum_cons, List.length_cons, Nat.succ_mul]
    omega

set_option maxHeartbeats 2000000 in
set_option maxRecDepth 100000 in
theorem few_c (A : Option Addr) (n c : Nat) (tx : List Wr) (w : World) (hR : RW w A n tx) (hs : ∀ x ∈ tx, x.key.size ≤ 281474976710656 ∧ x.b.size ≤ 281474976710656) :
    Calls Tryz.prog 19 #[.slice A n c] w fun e w' => e = .returned (.bool (fewB tx)) ∧ Fr [] w w' := by
  have hln := hR.1
  have hbg := hR.2.1
  have hfew : n ≤ 25 → fewB tx = decide (sumW tx ≤ 20000) := fun h => by unfold fewB; rw [hln, decide_eq_true h, Bool.true_and]
  have hfew0 : ¬ n ≤ 25 → fewB tx = false := fun h => by unfold fewB; rw [hln, decide_eq_false h, Bool.false_and]
  replace hfew := hid hfew
  replace hfew0 := hid hfew0
  replace hs := hid hs
  go_enter Tryz.func19, Tryz.ntmps19
  go_wp2_with fail
  go_loopw [3, 4] (fun nv iv wr => ∃ (i : Nat) (v : Int), i ≤ n ∧ iv = .int .i64 i ∧ nv = .int .i64 v ∧ (n ≤ 25 → v = (sumW (tx.take i) : Nat)) ∧ Fr [] w wr) (fun _ iv _ => n - (intOf iv).toNat)
  case atStart => exact ⟨0, 0, by omega, rfl, rfl, fun _ => rfl, Fr.refl _ _⟩
  case round =>
    obtain ⟨i, v, hi, rfl, rfl, hv, hfr⟩ := hrel
    by_cases hin : i < n
    · obtain ⟨b, off, rfl, hr⟩ := (hR.fr hfr).at i hin
      have hsz := hs.out (tx[i]'(by omega)) (List.getElem_mem _)
      have hst := sumW_take tx i (by omega)
      have hle := sumW_le (tx.take i) 562949953421312 (fun y hy => by have := hs.out y (List.mem_of_mem_take hy); omega)
      rw [List.length_take] at hle
      generalize tx[i]'(by omega) = x at *
      obtain ⟨e0, e1, _⟩ := wr_cells hr
      clear hr
      by_cases hn25 : n ≤ 25
      · obtain rfl : v = (sumW (tx.take i) : Nat) := hv hn25
        obtain ⟨s0, hs0⟩ : ∃ s, s = sumW (tx.take i) := ⟨_, rfl⟩
        rw [← hs0] at hst hle hv ⊢
        have hmul : min i tx.length * 562949953421312 ≤ 25 * 562949953421312 := Nat.mul_le_mul_right _ (by omega)
        have hsm : s0 ≤ 14073748835532800 := by omega
        replace hst := hid hst
        clear hle hmul hv
        replace hs0 := hid hs0
        go_wp2_with fail
        refine wp_region_textO (fun w' => w'.cell? ⟨b, off + i * 3, none⟩ = some (.string x.key) ∧ w'.cell? ⟨b, off + i * 3 + 1, none⟩ = some (.string x.b)) [5, 12] [0, 1, 2, 3, 4, 5, 6, 7, 8, 9, 10, 11, 12, 13, 14] 15 1 (by kernel_rfl) rfl (by kernel_rfl) ⟨e0, e1⟩ ?_
        intro K hK
        simp only [List.filterMap_cons, List.filterMap_nil, List.getElem?_toArray, List.getElem?_cons_succ, List.getElem?_cons_zero]
        have d0 : wr.drew.cell? ⟨b, off + i * 3, none⟩ = some (.string x.key) := e0
        have d1 : wr.drew.cell? ⟨b, off + i * 3 + 1, none⟩ = some (.string x.b) := e1
        have hfr1 : Fr [] w wr.drew := hfr.drew
        clear e0 e1
        generalize wr.drew = wd at *
        go_wp2_with fail
        refine hK _ _ (by kernel_rfl) ⟨fun o ho => ?_, fun o ho => ?_, trivial⟩ ?_
        · cases ho
          exact gives_load rfl (fun w' h => load_cell 9 Tryz.underlying9 rfl h.2)
        · cases ho
          exact gives_load rfl (fun w' h => load_cell 9 Tryz.underlying9 rfl h.1)
        refine orders_seq [15] _ _ _ (by kernel_rfl) (by kernel_rfl) (by kernel_rfl) ?_
        simp only [List.filterMap_cons, List.filterMap_nil, List.getElem?_toArray, List.getElem?_cons_succ, List.getElem?_cons_zero]
        go_wp2_with fail
        try go_frame
        go_roundw
        case rel => exact ⟨i + 1, _, by omega, rfl, rfl, (fun _ => by rw [hst.out]; omega), hfr1⟩
        case measure => simp [intOf]; omega
      · clear hle hst hv
        go_wp2_with fail
        refine wp_region_textO (fun w' => w'.cell? ⟨b, off + i * 3, none⟩ = some (.string x.key) ∧ w'.cell? ⟨b, off + i * 3 + 1, none⟩ = some (.string x.b)) [5, 12] [0, 1, 2, 3, 4, 5, 6, 7, 8, 9, 10, 11, 12, 13, 14] 15 1 (by kernel_rfl) rfl (by kernel_rfl) ⟨e0, e1⟩ ?_
        intro K hK
        simp only [List.filterMap_cons, List.filterMap_nil, List.getElem?_toArray, List.getElem?_cons_succ, List.getElem?_cons_zero]
        have d0 : wr.drew.cell? ⟨b, off + i * 3, none⟩ = some (.string x.key) := e0
        have d1 : wr.drew.cell? ⟨b, off + i * 3 + 1, none⟩ = some (.string x.b) := e1
        have hfr1 : Fr [] w wr.drew := hfr.drew
        clear e0 e1
        generalize wr.drew = wd at *
        go_wp2_with fail
        refine hK _ _ (by kernel_rfl) ⟨fun o ho => ?_, fun o ho => ?_, trivial⟩ ?_
        · cases ho
          exact gives_load rfl (fun w' h => load_cell 9 Tryz.underlying9 rfl h.2)
        · cases ho
          exact gives_load rfl (fun w' h => load_cell 9 Tryz.underlying9 rfl h.1)
        refine orders_seq [15] _ _ _ (by kernel_rfl) (by kernel_rfl) (by kernel_rfl) ?_
        simp only [List.filterMap_cons, List.filterMap_nil, List.getElem?_toArray, List.getElem?_cons_succ, List.getElem?_cons_zero]
        go_wp2_with fail
        try go_frame
        go_roundw
        case rel => exact ⟨i + 1, _, by omega, rfl, rfl, (fun h => absurd h hn25), hfr1⟩
        case measure => simp [intOf]; omega
    · have hie : i = n := by omega
      subst hie
      have htk : tx.take i = tx := List.take_of_length_le (by omega)
      rw [htk] at hv
      clear htk
      by_cases hn25 : i ≤ 25
      · obtain rfl : v = (sumW tx : Nat) := hv hn25
        have hnI : (i : Int) ≤ 25 := by omega
        have hfw := hid (hfew.out hn25)
        clear hv
        go_wp2_with fail
        go_ret
        refine ⟨?_, hfr⟩
        rw [hfw.out]
        show Ending.returned (Value.bool (decide ((sumW tx : Nat) ≤ (20000 : Int)))) = _
        congr 2
        exact decide_eq_decide.2 (by omega)
      · have hnI : ¬ (i : Int) ≤ 25 := by omega
        have hfw := hid (hfew0.out hn25)
        clear hv
        go_wp2_with fail
        go_ret
        exact ⟨by rw [hfw.out]; rfl, hfr⟩
end Go.Proofs.YtiialjncdhhceaaGreat
