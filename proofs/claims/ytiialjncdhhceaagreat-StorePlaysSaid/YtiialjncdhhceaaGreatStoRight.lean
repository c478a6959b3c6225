/- Whether a transaction may be. -/
import Derived.Test.YtiialjncdhhceaaGreatStoReplays
namespace Go.Proofs.YtiialjncdhhceaaGreat
open Go.RowKit
set_option linter.unusedVariables false
set_option linter.unusedSimpArgs false

theorem Wr.ok_iff (x : Wr) : x.ok = true ↔ 1 ≤ x.key.size ∧ x.key.size ≤ 20 ∧ x.b.size ≤ 6000 ∧ (x.drop = true → x.b.size = 0) := by
  unfold Wr.ok
  cases h : x.drop <;> simp [and_assoc]
theorem str_empty {s : ByteArray} (h : s.size = 0) : s = ⟨#[]⟩ := by
  cases s with
  | mk d =>
    have : d = #[] := Array.eq_empty_of_size_eq_zero h
    rw [this]
theorem str_nonempty {s : ByteArray} (h : ¬ s.size = 0) : (s.toList == ([] : List UInt8)) = false := by
  rw [ByteArray.toList_eq]
  refine beq_eq_false_iff_ne.2 fun e => h ?_
  show s.data.size = 0
  rw [← Array.length_toList, e]
  rfl

set_option maxHeartbeats 2000000 in
set_option maxRecDepth 100000 in
theorem right_c (A : Option Addr) (n c : Nat) (tx : List Wr) (w : World) (hR : RW w A n tx) :
    Calls Tryz.prog 28 #[.slice A n c] w fun e w' => e = .returned (.bool (tx.all Wr.ok && decide (1 ≤ n) && decide (n ≤ 20))) ∧ Fr [] w w' := by
  have hln := hR.1
  have hbg := hR.2.1
  go_enter Tryz.func28, Tryz.ntmps28
  go_wp2_with fail
  go_loopw [7] (fun iv wr => ∃ i : Nat, i ≤ n ∧ iv = .int .i64 i ∧ (∀ x ∈ tx.take i, x.ok = true) ∧ Fr [] w wr) (fun iv _ => n - (intOf iv).toNat)
  case atStart => exact ⟨0, by omega, rfl, by simp, Fr.refl _ _⟩
  case round =>
    obtain ⟨i, hi, rfl, hall, hfr⟩ := hrel
    by_cases hin : i < n
    · obtain ⟨b, off, rfl, hr⟩ := (hR.fr hfr).at i hin
      have hmem := List.getElem_mem (l := tx) (n := i) (by omega)
      have htk : tx.take (i + 1) = tx.take i ++ [tx[i]'(by omega)] := by rw [List.take_add_one, List.getElem?_eq_getElem (by omega)]; rfl
      replace htk := hid htk
      replace hall := hid hall
      generalize tx[i]'(by omega) = x at *
      replace hmem := hid hmem
      go_wp2_with (first | (with_reducible refine stop_ld2 32 rfl ?_) | (with_reducible refine stop_al2 32 rfl ?_) | (with_reducible refine stop_st2 32 rfl ?_))
      refine Stop.go (ld_arr 32 x.cells _ Tryz.underlying32 rfl (zero_of_info infoWr).2 rfl rfl b (off + i * 3) rfl hr ?_)
      go_wp2_with (first | (with_reducible refine stop_ld2 32 rfl ?_) | (with_reducible refine stop_al2 32 rfl ?_) | (with_reducible refine stop_st2 32 rfl ?_))
      refine Stop.go (al_arr 32 infoWr rfl rfl ?_)
      intro w4 hb4 hs4 hf4
      obtain ⟨sb, hsb⟩ : ∃ sb, sb = wr.heap.size := ⟨_, rfl⟩
      rw [← hsb] at hb4 hs4
      rw [← hsb]
      replace hsb := hid hsb
      have hsbge : wr.heap.size ≤ sb := by rw [hsb.out]; exact Nat.le_refl _
      go_wp2_with (first | (with_reducible refine stop_ld2 32 rfl ?_) | (with_reducible refine stop_al2 32 rfl ?_) | (with_reducible refine stop_st2 32 rfl ?_))
      refine Stop.go (st_arr 32 x.cells (zero_of_info infoWr).2 (by intro v hv; simp [Wr.cells] at hv; rcases hv with rfl | rfl | rfl <;> rfl) rfl rfl sb 0 rfl rfl (there_of_block hb4 (by simp [Wr.cells])) ?_)
      intro w7 hw7 hr7 hf7
      clear hw7 hb4
      have hws := hfr.size
      have hfr7 : Fr [] w w7 := (hfr.then hf4).trans hf7 (by intro z hz; simp at hz; right; omega)
      have e0 : w7.cell? ⟨sb, 0, none⟩ = some (.string x.key) := hr7 0 _ rfl
      have e1 : w7.cell? ⟨sb, 1, none⟩ = some (.string x.b) := hr7 1 _ rfl
      have e2 : w7.cell? ⟨sb, 2, none⟩ = some (.bool x.drop) := hr7 2 _ rfl
      clear hr hf4 hf7 hs4 hr7
      obtain ⟨key, bb, dr⟩ := x
      dsimp only at e0 e1 e2
      have bad : (⟨key, bb, dr⟩ : Wr).ok = false → (tx.all Wr.ok && decide (1 ≤ n) && decide (n ≤ 20)) = false := fun h => by
        have : tx.all Wr.ok = false := List.all_eq_false.2 ⟨_, hmem.out, by simp [h]⟩
        rw [this]
        rfl
      have hokf : ((⟨key, bb, dr⟩ : Wr).ok = true → False) → (⟨key, bb, dr⟩ : Wr).ok = false := fun h => by
        cases hh : (⟨key, bb, dr⟩ : Wr).ok with
        | false => rfl
        | true => exact absurd hh h
      replace hokf := hid hokf
      replace bad := hid bad
      by_cases h1 : key.size < 1
      · have hb := bad.out (hokf.out (fun h => by have := (Wr.ok_iff _).1 h; simp only at this; omega))
        replace hb := hid hb
        have h1I : (key.size : Int) < 1 := by omega
        go_wp2_with fail
        go_ret
        exact ⟨by show Ending.returned (.bool false) = _; rw [hb.out], hfr7⟩
      · have h1I : ¬ (key.size : Int) < 1 := by omega
        by_cases h2 : 20 < key.size
        · have hb := bad.out (hokf.out (fun h => by have := (Wr.ok_iff _).1 h; simp only at this; omega))
          replace hb := hid hb
          have h2I : (20 : Int) < (key.size : Int) := by omega
          go_wp2_with fail
          go_ret
          exact ⟨by show Ending.returned (.bool false) = _; rw [hb.out], hfr7⟩
        · have h2I : ¬ (20 : Int) < (key.size : Int) := by omega
          by_cases h3 : 6000 < bb.size
          · have hb := bad.out (hokf.out (fun h => by have := (Wr.ok_iff _).1 h; simp only at this; omega))
            replace hb := hid hb
            have h3I : (6000 : Int) < (bb.size : Int) := by omega
            go_wp2_with fail
            go_ret
            exact ⟨by show Ending.returned (.bool false) = _; rw [hb.out], hfr7⟩
          · have h3I : ¬ (6000 : Int) < (bb.size : Int) := by omega
            cases dr with
            | false =>
              have hgood : (⟨key, bb, false⟩ : Wr).ok = true := (Wr.ok_iff _).2 ⟨by simp only; omega, by simp only; omega, by simp only; omega, by simp⟩
              replace hgood := hid hgood
              go_wp2_with fail
              try go_frame
              go_roundw
              case rel => exact ⟨i + 1, by omega, rfl, fun y hy => by
                rw [htk.out] at hy
                rcases List.mem_append.1 hy with hy | hy
                · exact hall.out y hy
                · simp at hy; subst hy; exact hgood.out, hfr7⟩
              case measure => simp [intOf]; omega
            | true =>
              by_cases h4 : bb.size = 0
              · have hgood : (⟨key, bb, true⟩ : Wr).ok = true := (Wr.ok_iff _).2 ⟨by simp only; omega, by simp only; omega, by simp only; omega, fun _ => h4⟩
                replace hgood := hid hgood
                have h4' := str_empty h4
                subst h4'
                go_wp2_with fail
                try go_frame
                go_roundw
                case rel => exact ⟨i + 1, by omega, rfl, fun y hy => by
                  rw [htk.out] at hy
                  rcases List.mem_append.1 hy with hy | hy
                  · exact hall.out y hy
                  · simp at hy; subst hy; exact hgood.out, hfr7⟩
                case measure => simp [intOf]; omega
              · have hb := bad.out (hokf.out (fun h => h4 (((Wr.ok_iff _).1 h).2.2.2 rfl)))
                replace hb := hid hb
                have h4' := str_nonempty h4
                go_wp2_with fail
                go_ret
                exact ⟨by show Ending.returned (.bool false) = _; rw [hb.out], hfr7⟩
    · have hie : i = n := by omega
      subst hie
      rw [List.take_of_length_le (by omega)] at hall
      have hal : tx.all Wr.ok = true := List.all_eq_true.2 hall
      replace hal := hid hal
      by_cases h1 : 1 ≤ i
      · have h1I : (1 : Int) ≤ (i : Int) := by omega
        by_cases h2 : i ≤ 20
        · have h2I : (i : Int) ≤ 20 := by omega
          go_wp2_with fail
          go_ret
          exact ⟨by first | rfl | (show Ending.returned (.bool true) = _; rw [hal.out]; simp [h1, h2]), hfr⟩
        · have h2I : ¬ (i : Int) ≤ 20 := by omega
          go_wp2_with fail
          go_ret
          exact ⟨by first | rfl | (show Ending.returned (.bool false) = _; rw [hal.out]; simp [h1, h2]), hfr⟩
      · have h1I : ¬ (1 : Int) ≤ (i : Int) := by omega
        go_wp2_with fail
        go_ret
        exact ⟨by first | rfl | (show Ending.returned (.bool false) = _; rw [hal.out]; simp [h1]), hfr⟩
end Go.Proofs.YtiialjncdhhceaaGreat
