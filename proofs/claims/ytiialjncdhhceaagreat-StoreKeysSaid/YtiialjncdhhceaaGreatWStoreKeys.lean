/- The walk of StoreKeys: it returns true, whatever the input, and writes nothing that was there. -/
import Derived.Test.YtiialjncdhhceaaGreatStoRow
import Derived.Test.YtiialjncdhhceaaGreatJrnLaw
namespace Go.Proofs.YtiialjncdhhceaaGreat.storeKeys
open Go.RowKit
set_option linter.unusedVariables false
set_option linter.unusedSimpArgs false

theorem less_of_before : ∀ {a b : List UInt8}, bytesBefore a b = true → Op.bytesLess a b = true := by
  intro a
  induction a with
  | nil => intro b h; cases b with
    | nil => cases h
    | cons y s => rfl
  | cons x r ih =>
    intro b h
    cases b with
    | nil => cases h
    | cons y s =>
      unfold bytesBefore at h
      simp only [Bool.or_eq_true, Bool.and_eq_true, decide_eq_true_eq, beq_iff_eq] at h
      unfold Op.bytesLess
      simp only [Bool.or_eq_true, Bool.and_eq_true, decide_eq_true_eq, beq_iff_eq]
      rcases h with h | ⟨h1, h2⟩
      · exact .inl h
      · exact .inr ⟨h1, ih h2⟩
def okS (s : ByteArray) : Bool := decide (1 ≤ s.size) && decide (s.size ≤ 20)
def stp (L : List KV) (s : ByteArray) : List KV := if okS s then putL (bs s) [120] L else L
def KL (l : List ByteArray) : List KV := l.foldl stp []
theorem KL_take (l : List ByteArray) (i : Nat) (h : i < l.length) : KL (l.take (i + 1)) = stp (KL (l.take i)) l[i] := by
  unfold KL
  rw [List.take_add_one, List.getElem?_eq_getElem h, List.foldl_append]
  rfl
theorem KL_srt (l : List ByteArray) (i : Nat) : Srt (KL (l.take i)) := by
  induction i with
  | zero => exact Srt.nil
  | succ i ih =>
    by_cases h : i < l.length
    · rw [KL_take l i h]
      unfold stp
      split
      · exact ih.put _ _
      · exact ih
    · rw [List.take_of_length_le (by omega)]
      rw [List.take_of_length_le (by omega)] at ih
      exact ih
theorem KL_bounds (l : List ByteArray) (i : Nat) : (KL (l.take i)).length ≤ i ∧ sizeL (KL (l.take i)) ≤ 45 * i := by
  induction i with
  | zero => exact ⟨Nat.le_refl _, Nat.le_refl _⟩
  | succ i ih =>
    by_cases h : i < l.length
    · rw [KL_take l i h]
      unfold stp
      split
      · rename_i hok
        simp only [okS, Bool.and_eq_true, decide_eq_true_eq] at hok
        have h1 := delL_length_le (bs l[i]) (KL (l.take i))
        have h2 := sizeL_del_le (bs l[i]) (KL (l.take i))
        unfold putL
        rw [insL_length, sizeL_ins]
        simp only [bs_length, List.length_cons, List.length_nil]
        omega
      · omega
    · rw [List.take_of_length_le (by omega)]
      rw [List.take_of_length_le (by omega)] at ih
      omega
theorem KL_has (l : List ByteArray) (i : Nat) (s : ByteArray) : (getL (bs s) (KL (l.take i))).isSome = true ↔ okS s = true ∧ s ∈ l.take i := by
  induction i with
  | zero => simp [KL, getL]
  | succ i ih =>
    by_cases h : i < l.length
    · have hm : s ∈ l.take (i + 1) ↔ s ∈ l.take i ∨ s = l[i] := by
        rw [List.take_add_one, List.getElem?_eq_getElem h, List.mem_append]
        exact or_congr Iff.rfl (by simp only [Option.toList_some, List.mem_singleton])
      rw [KL_take l i h, hm]
      unfold stp
      have hsr := KL_srt l i
      by_cases hs : s = l[i]
      · rw [← hs]
        by_cases hok : okS s = true
        · rw [if_pos hok, getL_put_same hsr]
          simp [hok]
        · rw [if_neg hok, ih]
          simp [hok]
      · have hne : bs s ≠ bs l[i] := fun e => hs (by rw [← stB_bs s, e, stB_bs])
        split
        · rw [getL_put_other hsr hne, ih]
          simp [hs]
        · rw [ih]
          simp [hs]
    · rw [List.take_of_length_le (by omega)]
      rw [List.take_of_length_le (by omega)] at ih
      exact ih
theorem right_iff (s : ByteArray) : rightB [⟨s, ⟨#[120]⟩, false⟩] = okS s := by
  have h : (⟨s, ⟨#[120]⟩, false⟩ : Wr).ok = okS s := by
    unfold Wr.ok okS
    simp
    intro _ _
    decide
  simp [rightB, h]
theorem app_ok (L : List KV) (s : ByteArray) (h : okS s = true) : applyTx L [⟨s, ⟨#[120]⟩, false⟩] = stp L s := by
  unfold stp
  rw [if_pos h]
  rfl

set_option maxHeartbeats 2000000 in
set_option maxRecDepth 100000 in
theorem early (A : Option Addr) (n c : Nat) (w : World) (hn : ¬ n ≤ 20) :
    Calls Tryz.prog 8 #[.slice A n c] w fun e w' => e = .returned (.bool true) ∧ Below w.heap.size w w' := by
  have hi : (20 : Int) < n := by omega
  go_enter Tryz.func8, Tryz.ntmps8
  go_wp2_with (go_at_call 10; refine (known15_c _).mono ?_; rintro e w1 ⟨rfl, hb1⟩)
  go_ret
  exact ⟨rfl, hb1⟩

set_option maxHeartbeats 8000000 in
set_option maxRecDepth 100000 in
theorem main (A : Option Addr) (n c : Nat) (l : List ByteArray) (w : World) (hR : RSs w A n l) (hsz : ∀ r ∈ l, r.size ≤ 281474976710656) (hn : n ≤ 20) :
    Calls Tryz.prog 8 #[.slice A n c] w fun e w' => e = .returned (.bool true) ∧ Below w.heap.size w w' := by
  have hi : ¬ (20 : Int) < n := by omega
  have hll := hR.1
  have hRb := hid (fun w' (h : Below w.heap.size w w') => hR.kept' (fr_of_below h) (by simp))
  clear hR
  replace hsz := hid hsz
  go_enter Tryz.func8, Tryz.ntmps8
  go_wp2_with (go_at_call 10; refine (known15_c _).mono ?_; rintro e w1 ⟨rfl, hb1⟩)
  have hs1 := hb1.size
  refine (New_c 200 200 (by decide) w1).mono ?_
  rintro e w2 ⟨d, k, m, rfl, hD2, hlo, hf2⟩
  have hs2 := hf2.size
  go_wp2_with fail
  refine (Make_g w.heap.size d k m 200 w2 hD2 (by decide) (by omega)).mono ?_
  rintro e w3 ⟨st, rfl, hG3, hf3⟩
  have hb3 : Below w.heap.size w w3 := (hb1.trans (hf2.below hs1 (by simp))).trans (hf3.below (by omega) (by simp; omega))
  go_wp2_with fail
  go_loopw [5] (fun iv wr => ∃ i : Nat, i ≤ n ∧ iv = .int .i64 i ∧ Good wr w.heap.size st d k m 200 (5 + i * 1004) (KL (l.take i)) ∧ Below w.heap.size w wr) (fun iv _ => n - (intOf iv).toNat)
  case atStart => exact ⟨0, by omega, rfl, hG3, hb3⟩
  case round =>
    obtain ⟨i, hin', rfl, hG, hb⟩ := hrel
    by_cases hin : i < n
    · obtain ⟨b, off, hA, hcell⟩ := str_cell (hRb.out _ hb) i hin
      subst hA
      have hkt := KL_take l i (by omega)
      have hbd := KL_bounds l (i + 1)
      generalize l[i]'(by omega) = s at *
      replace hkt := hid hkt
      by_cases hok : okS s = true
      · have hok2 : 1 ≤ s.size ∧ s.size ≤ 20 := by simpa [okS] using hok
        have h1I : (1 : Int) ≤ (s.size : Int) := by omega
        have h2I : (s.size : Int) ≤ 20 := by omega
        have happ := app_ok (KL (l.take i)) s hok
        rw [← hkt.out] at happ
        have hrt := right_iff s
        rw [hok] at hrt
        replace hrt := hid hrt
        replace happ := hid happ
        replace hok := hid hok
        go_wp2_with fail
        refine (Do_lit w.heap.size st d k m 200 _ _ 1 [⟨s, ⟨#[120]⟩, false⟩] _ _ wr hG rfl rfl (by decide) hrt.out (by omega) _ happ.out ⟨by omega, by omega⟩).mono ?_
        rintro e w5 ⟨rfl, hG5, hb5⟩
        clear hcell
        go_wp2_with fail
        try go_frame
        go_roundw
        case rel => exact ⟨i + 1, by omega, rfl, by rw [show 5 + (i + 1) * 1004 = 5 + i * 1004 + 1004 by omega]; exact hG5, hb.trans hb5⟩
        case measure => simp [intOf]; omega
      · have hok' : okS s = false := by simpa using hok
        have hrt := right_iff s
        rw [hok'] at hrt
        have hkl : KL (l.take (i + 1)) = KL (l.take i) := by rw [hkt.out]; unfold stp; rw [if_neg hok]
        have hcase : s.size < 1 ∨ 20 < s.size := by
          simp [okS] at hok'
          omega
        replace hrt := hid hrt
        replace hkl := hid hkl
        replace hok := hid hok
        replace hok' := hid hok'
        rcases hcase with h1 | h1
        · have h1I : ¬ (1 : Int) ≤ (s.size : Int) := by omega
          go_wp2_with fail
          refine (Do_lit_form w.heap.size st d k m 200 _ _ 1 [⟨s, ⟨#[120]⟩, false⟩] _ _ wr hG rfl rfl (by decide) hrt.out).mono ?_
          rintro e w5 ⟨rfl, hf5⟩
          have hG5 := hG.fr hf5
          clear hcell
          go_wp2_with fail
          try go_frame
          go_roundw
          case rel => exact ⟨i + 1, by omega, rfl, by rw [hkl.out]; exact hG5.le (by omega), hb.trans (hf5.below hG.size (by simp))⟩
          case measure => simp [intOf]; omega
        · have h1I : (1 : Int) ≤ (s.size : Int) := by omega
          have h2I : ¬ (s.size : Int) ≤ 20 := by omega
          go_wp2_with fail
          refine (Do_lit_form w.heap.size st d k m 200 _ _ 1 [⟨s, ⟨#[120]⟩, false⟩] _ _ wr hG rfl rfl (by decide) hrt.out).mono ?_
          rintro e w5 ⟨rfl, hf5⟩
          have hG5 := hG.fr hf5
          clear hcell
          go_wp2_with fail
          try go_frame
          go_roundw
          case rel => exact ⟨i + 1, by omega, rfl, by rw [hkl.out]; exact hG5.le (by omega), hb.trans (hf5.below hG.size (by simp))⟩
          case measure => simp [intOf]; omega
    · have hie : i = n := by omega
      subst hie
      have hsrt := KL_srt l i
      have hhas := hid (KL_has l i)
      have hbd := KL_bounds l i
      rw [List.take_of_length_le (by omega)] at hhas
      obtain ⟨L, hL⟩ : ∃ L, KL (l.take i) = L := ⟨_, rfl⟩
      rw [hL] at hG hsrt hbd
      have hhas2 : Hid (∀ s, (getL (bs s) L).isSome = true ↔ okS s = true ∧ s ∈ l) := hid (fun s => by have := KL_has l i s; rw [hL, List.take_of_length_le (by omega)] at this; exact this)
      clear hhas
      replace hL := hid hL
      obtain ⟨wo, rfl⟩ : ∃ wo, wo = wr := ⟨_, rfl⟩
      go_wp2_with fail
      refine (Keys_g w.heap.size st d k m 200 _ _ wo hG).mono ?_
      rintro e w4 ⟨v4, rfl, hO4, hf4⟩
      obtain ⟨A4, c4, rfl, hc4, hR4, _⟩ := hO4.form
      have hl4 : (L.map fun p => stB p.1).length = L.length := by rw [List.length_map]
      rw [hl4] at hR4 hc4 ⊢
      have hG4 := hG.fr hf4
      have hb4 := hb.trans (hf4.below hG.size (by simp))
      obtain ⟨N, hN⟩ : ∃ N, L.length = N := ⟨_, rfl⟩
      rw [hN] at hR4 hc4 hbd hl4 ⊢
      replace hN := hid hN
      replace hl4 := hid hl4
      clear hO4
      go_wp2_with fail
      go_loopw [9] (fun iv wr => ∃ q : Nat, 1 ≤ q ∧ q ≤ N + 1 ∧ iv = .int .i64 q ∧ Fr [] w4 wr) (fun iv _ => N + 1 - (intOf iv).toNat)
      case atStart => exact ⟨1, by omega, by omega, rfl, Fr.refl _ _⟩
      case round =>
        obtain ⟨q, hq1, hqN, rfl, hfr⟩ := hrel
        by_cases hqn : q < N
        · have hqI : (q : Int) - 1 = ((q - 1 : Nat) : Int) := by omega
          have hfd := hfr.drew
          obtain ⟨b4, off4, hA4, hcq⟩ := str_cell (hR4.fr hfd) q hqn
          obtain ⟨b4', off4', hA4', hcp⟩ := str_cell (hR4.fr hfd) (q - 1) (by omega)
          rw [hA4] at hA4'
          injection hA4' with hA4'
          injection hA4' with e1 e2
          subst e1 e2 hA4
          have hless : Op.bytesLess (((L.map fun p => stB p.1)[q - 1]'(by rw [hl4.out]; omega)).toList) (((L.map fun p => stB p.1)[q]'(by rw [hl4.out]; omega)).toList) = true := by
            rw [ByteArray.toList_eq, ByteArray.toList_eq, List.getElem_map, List.getElem_map]
            show Op.bytesLess (L[q - 1]'(by rw [hN.out]; omega)).1 (L[q]'(by rw [hN.out]; omega)).1 = true
            exact less_of_before (List.pairwise_iff_getElem.1 hsrt (q - 1) q _ _ (by omega))
          generalize (L.map fun p => stB p.1)[q]'(by rw [hl4.out]; omega) = X at *
          generalize (L.map fun p => stB p.1)[q - 1]'(by rw [hl4.out]; omega) = Y at *
          obtain ⟨p, hp⟩ : ∃ p, q - 1 = p := ⟨_, rfl⟩
          rw [hp] at hqI hcp
          have hpN : p < N := by omega
          replace hp := hid hp
          have hnn : ¬ q = 0 := by omega
          go_wp2_with fail
          refine wp_region_textS' (fun w' => w'.cell? ⟨b4, off4 + p, none⟩ = some (.string Y)) [4] [] [] [] (by kernel_rfl) (by kernel_rfl) (by kernel_rfl) hcp ?_
          intro K hK
          simp only [cutAt, List.take_succ_cons, List.take_zero, List.drop_succ_cons, List.drop_zero, List.take_nil, List.drop_nil, wpSegs, List.map_cons, List.map_nil, List.nil_append, List.cons_append]
          go_wp2_with fail
          refine ⟨trivial, hK _ _ (by kernel_rfl) ⟨fun o ho => ?_, trivial⟩ ?_⟩
          · cases ho
            exact gives_load rfl (fun w' h => load_cell 9 Tryz.underlying9 rfl h)
          clear hcq hcp
          go_wp2_with fail
          try go_frame
          go_roundw
          case rel => exact ⟨q + 1, by omega, by omega, rfl, hfd⟩
          case measure => simp [intOf]; omega
        · have hqI : ¬ (q : Int) < (N : Int) := by omega
          obtain ⟨wp, rfl⟩ : ∃ wp, wp = wr := ⟨_, rfl⟩
          have hGp := hG4.fr hfr
          have hbp := hb4.trans (hfr.below hG4.size (by simp))
          go_wp2_with fail
          go_loopw [10] (fun iv wr => ∃ q : Nat, q ≤ i ∧ iv = .int .i64 q ∧ wr = wp) (fun iv _ => i - (intOf iv).toNat)
          case atStart => exact ⟨0, by omega, rfl, rfl⟩
          case round =>
            obtain ⟨q, hqi, rfl, rfl⟩ := hrel
            by_cases hq : q < i
            · have hqI2 : (q : Int) < (i : Int) := by omega
              obtain ⟨b, off, hA, hcell⟩ := str_cell (hRb.out _ hbp) q hq
              subst hA
              have hmem := List.getElem_mem (l := l) (n := q) (by omega)
              have hsq := hsz.out _ hmem
              generalize l[q]'(by omega) = s at *
              go_wp2_with fail
              refine (Get_g w.heap.size st d k m 200 _ L s (by omega) wr hGp).mono ?_
              have hh := hhas2.out s
              by_cases hok : okS s = true
              · have hok2 : 1 ≤ s.size ∧ s.size ≤ 20 := by simpa [okS] using hok
                have h1I : (1 : Int) ≤ (s.size : Int) := by omega
                have h2I : (s.size : Int) ≤ 20 := by omega
                rw [hh.2 ⟨hok, hmem⟩]
                rintro e w5 ⟨rfl, rfl⟩
                replace hh := hid hh
                replace hok := hid hok
                replace hmem := hid hmem
                generalize elS (getL (bs s) L) = G at *
                go_wp2_with fail
                try go_frame
                go_roundw
                case rel => exact ⟨q + 1, by omega, rfl, by trivial⟩
                case measure => simp [intOf]; omega
              · have hok' : okS s = false := by simpa using hok
                have hnone : (getL (bs s) L).isSome = false := by
                  cases hx : (getL (bs s) L).isSome with
                  | false => rfl
                  | true => exact absurd (hh.1 hx).1 hok
                rw [hnone]
                rintro e w5 ⟨rfl, rfl⟩
                have hcase : s.size < 1 ∨ 20 < s.size := by
                  simp [okS] at hok'
                  omega
                replace hh := hid hh
                replace hok := hid hok
                replace hok' := hid hok'
                replace hmem := hid hmem
                replace hnone := hid hnone
                generalize elS (getL (bs s) L) = G at *
                rcases hcase with h1 | h1
                · have h1I : ¬ (1 : Int) ≤ (s.size : Int) := by omega
                  go_wp2_with fail
                  try go_frame
                  go_roundw
                  case rel => exact ⟨q + 1, by omega, rfl, by trivial⟩
                  case measure => simp [intOf]; omega
                · have h1I : (1 : Int) ≤ (s.size : Int) := by omega
                  have h2I : ¬ (s.size : Int) ≤ 20 := by omega
                  go_wp2_with fail
                  try go_frame
                  go_roundw
                  case rel => exact ⟨q + 1, by omega, rfl, by trivial⟩
                  case measure => simp [intOf]; omega
            · have hqe : q = i := by omega
              subst hqe
              go_wp2_with fail
              go_ret
              exact ⟨rfl, hbp⟩

theorem walk (A : Option Addr) (n c : Nat) (l : List ByteArray) (w : World) (hR : RSs w A n l) (hb : n ≤ c ∧ ∀ r ∈ l, r.size ≤ 281474976710656) :
    Calls Tryz.prog 8 #[.slice A n c] w fun e w' => e = .returned (.bool true) ∧ Below w.heap.size w w' := by
  by_cases hn : n ≤ 20
  · exact main A n c l w hR hb.2 hn
  · exact early A n c w hn
end Go.Proofs.YtiialjncdhhceaaGreat.storeKeys
