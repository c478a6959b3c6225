/- The disk and the document's disk go side by side: plain laws. -/
import Derived.Test.YtiialjncdhhceaaSecRef3
namespace Go.Proofs.Ytiialjncdhhceaa
open Go.RowKit
set_option linter.unusedVariables false

structure Sim (B : Nat) (s : DSt) (t : RSt) : Prop where
  n : s.n = t.n
  steps : s.steps = t.steps
  now : ∀ i, i < s.n → s.now i = t.now i
  kept : ∀ i, i < s.n → s.kept i = t.kept i
  pend : ∀ i, i < s.n → s.isP i = t.pend i
  settled : ∀ i, i < s.n → t.pend i = false → t.now i = t.kept i
  off : s.off = t.off
  pow : t.off = false → (t.power = 0 ∧ s.offAt = 0) ∨ (0 < t.power ∧ (s.offAt = s.steps + t.power ∨ (s.steps + B < s.offAt ∧ B < t.power)))
  powoff : t.off = true → t.power = 0

theorem off_iff (s : DSt) (b : Bool) : s.off = b ↔ (b = true ↔ (0 < s.offAt ∧ s.offAt ≤ s.steps)) := by
  unfold DSt.off
  cases b
  · simp
  · simp
theorem Sim.mono {B : Nat} {s : DSt} {t : RSt} (h : Sim (B + 1) s t) : Sim B s t :=
  ⟨h.n, h.steps, h.now, h.kept, h.pend, h.settled, h.off, fun ho => by
    rcases h.pow ho with h1 | ⟨h1, h2 | ⟨h2, h3⟩⟩
    · exact .inl h1
    · exact .inr ⟨h1, .inl h2⟩
    · exact .inr ⟨h1, .inr ⟨by omega, by omega⟩⟩, h.powoff⟩
theorem Sim.step {B : Nat} {s : DSt} {t : RSt} (h : Sim (B + 1) s t) : Sim B s.step t.step := by
  have hs : s.step.steps = s.steps + 1 := rfl
  have ho : s.step.offAt = s.offAt := rfl
  have hp : t.step.power = t.power - 1 := rfl
  have hto : t.step.off = (t.off || decide (t.power = 1)) := rfl
  cases htoff : t.off with
  | true =>
    have h1 := h.off
    rw [htoff] at h1
    have h2 := ((off_iff s true).1 h1).1 rfl
    have h3 := h.powoff htoff
    refine ⟨h.n, by show s.steps + 1 = t.steps + 1; rw [h.steps], h.now, h.kept, h.pend, h.settled, ?_, fun hx => ?_, fun _ => by omega⟩
    · rw [hto, htoff, Bool.true_or]
      exact (off_iff _ _).2 ⟨fun _ => by omega, fun _ => rfl⟩
    · rw [hto, htoff] at hx
      cases hx
  | false =>
    have hpow := h.pow htoff
    refine ⟨h.n, by show s.steps + 1 = t.steps + 1; rw [h.steps], h.now, h.kept, h.pend, h.settled, ?_, fun hx => ?_, fun hx => ?_⟩
    · rw [hto, htoff, Bool.false_or]
      refine (off_iff _ _).2 ?_
      rw [decide_eq_true_iff]
      omega
    · rw [hto, htoff, Bool.false_or] at hx
      have : t.power ≠ 1 := by simpa using hx
      omega
    · rw [hto, htoff, Bool.false_or] at hx
      have : t.power = 1 := by simpa using hx
      omega
theorem Sim.write {B : Nat} {s : DSt} {t : RSt} (h : Sim (B + 1) s t) (i : Int) (l : List UInt8) : (s.write i l).1 = (t.write i l).1 ∧ Sim B (s.write i l).2 (t.write i l).2 := by
  have h1 := h.step
  have hoff := h1.off
  unfold DSt.write RSt.write
  rw [hoff, h.n]
  cases t.step.off with
  | true => exact ⟨rfl, h1⟩
  | false =>
    simp only [Bool.false_eq_true, if_false]
    by_cases hi : i < 0 ∨ (t.n : Int) ≤ i ∨ 64 < l.length
    · rw [if_pos hi, if_pos hi]
      exact ⟨rfl, h1⟩
    · rw [if_neg hi, if_neg hi]
      have hn := h.n
      have hj : i.toNat < s.n := by omega
      refine ⟨rfl, ⟨h1.n, h1.steps, fun q hq => ?_, h1.kept, fun q hq => ?_, fun q hq hp => ?_, h1.off, h1.pow, h1.powoff⟩⟩
      · rw [DSt.put_now]
        show _ = if q = i.toNat then l ++ (t.now i.toNat).drop l.length else t.now q
        split
        · rw [DSt.step_now, h.now _ hj]
        · exact h.now q hq
      · show (if q = i.toNat then some (l ++ (s.step.now i.toNat).drop l.length) else s.pend q).isSome = (decide (q = i.toNat) || t.pend q)
        by_cases hqi : q = i.toNat
        · rw [if_pos hqi]
          simp [hqi]
        · rw [if_neg hqi]
          simp only [hqi, decide_false, Bool.false_or]
          exact h.pend q hq
      · have hp' : (decide (q = i.toNat) || t.pend q) = false := hp
        rw [Bool.or_eq_false_iff] at hp'
        have hqi : ¬ q = i.toNat := by simpa using hp'.1
        show (if q = i.toNat then _ else t.now q) = t.kept q
        rw [if_neg hqi]
        exact h.settled q hq hp'.2
theorem Sim.flush {B : Nat} {s : DSt} {t : RSt} (h : Sim (B + 1) s t) : s.flush.1 = t.flush.1 ∧ Sim B s.flush.2 t.flush.2 := by
  have h1 := h.step
  have hoff := h1.off
  unfold DSt.flush RSt.flush
  rw [hoff]
  cases t.step.off with
  | true => exact ⟨rfl, h1⟩
  | false =>
    simp only [Bool.false_eq_true, if_false]
    exact ⟨by first | rfl | trivial, ⟨h1.n, h1.steps, h1.now, h1.now, fun q hq => rfl, fun q hq _ => rfl, h1.off, h1.pow, h1.powoff⟩⟩
theorem Sim.power {B : Nat} {s : DSt} {t : RSt} (h : Sim B s t) (at_ : Int) (hB : B ≤ 100) : Sim B (s.power at_) (t.powerOn at_) := by
  unfold DSt.power RSt.powerOn
  rw [h.off]
  cases htoff : t.off with
  | true => simpa using h
  | false =>
    simp only [Bool.false_eq_true, if_false]
    by_cases ha : at_ ≤ 0
    · rw [if_pos ha]
      have hm : (max at_ 0).toNat = 0 := by omega
      rw [hm]
      refine ⟨h.n, h.steps, h.now, h.kept, h.pend, h.settled, ?_, fun _ => .inl ⟨rfl, rfl⟩, fun _ => rfl⟩
      exact DSt.off_zero rfl
    · rw [if_neg ha]
      have hoff0 : ∀ x : Nat, 0 < x → ({ s with offAt := s.steps + x } : DSt).off = false := by
        intro x hx
        refine (off_iff _ _).2 ⟨fun hh => (by cases hh), fun hh => ?_⟩
        have h2 : s.steps + x ≤ s.steps := hh.2
        omega
      have hx : 0 < (min at_ 1099511627776).toNat := by
        rcases Int.le_total at_ 1099511627776 with h1 | h1
        · rw [Int.min_eq_left h1]; omega
        · rw [Int.min_eq_right h1]; decide
      refine ⟨h.n, h.steps, h.now, h.kept, h.pend, h.settled, hoff0 _ hx, fun _ => .inr ⟨?_, ?_⟩, fun hh => ?_⟩
      · show 0 < (max at_ 0).toNat
        omega
      · show s.steps + (min at_ 1099511627776).toNat = s.steps + (max at_ 0).toNat ∨ (s.steps + B < s.steps + (min at_ 1099511627776).toNat ∧ B < (max at_ 0).toNat)
        rcases Int.le_total at_ 1099511627776 with h1 | h1
        · left
          rw [Int.min_eq_left h1]
          omega
        · right
          rw [Int.min_eq_right h1]
          have e : (1099511627776 : Int).toNat = 1099511627776 := rfl
          rw [e]
          omega
      · cases hh
theorem Sim.crash {B : Nat} {s : DSt} {t : RSt} (h : Sim B s t) (ch : List UInt8) : Sim B (s.crash ch) (t.crash ch) := by
  have hrank : ∀ j, j < s.n → s.rank j = t.rank j := by
    intro j hj
    unfold DSt.rank RSt.rank
    congr 1
    apply List.filter_congr
    intro x hx
    rw [List.mem_range] at hx
    exact h.pend x (by omega)
  have hnow : ∀ j, j < s.n → s.tornAt ch j = t.crashNow ch j := by
    intro j hj
    unfold DSt.tornAt RSt.crashNow RSt.mix
    have hp := h.pend j hj
    unfold DSt.isP at hp
    have hn := h.now j hj
    unfold DSt.now at hn
    rw [← hp, ← hrank j hj, ← h.kept j hj]
    cases hpj : s.pend j with
    | none =>
      rw [hpj] at hp hn
      have hp' : t.pend j = false := hp.symm
      rw [← h.now j hj]
      simp only [Option.isSome_none, Bool.false_eq_true, if_false]
      unfold DSt.now
      rw [hpj]
      rfl
    | some l =>
      rw [hpj] at hn
      simp only [Option.isSome_some, if_true]
      rw [← hn]
      rfl
  have hkept : ∀ j, j < s.n → s.tornAt ch j = t.crashKept ch j := by
    intro j hj
    rw [hnow j hj]
    unfold RSt.crashNow RSt.crashKept
    cases hpj : t.pend j with
    | true => rfl
    | false =>
      simp only [Bool.false_eq_true, if_false]
      exact h.settled j hj hpj
  refine ⟨h.n, h.steps, hnow, hkept, fun q hq => rfl, fun q hq _ => ?_, ?_, fun _ => .inl ⟨rfl, rfl⟩, fun hh => (by cases hh)⟩
  · show t.crashNow ch q = t.crashKept ch q
    rw [← hnow q hq, ← hkept q hq]
  · exact DSt.off_zero rfl
theorem Sim.new (n B : Nat) : Sim B (DSt.new n) (RSt.new n) :=
  ⟨rfl, rfl, fun _ _ => rfl, fun _ _ => rfl, fun _ _ => rfl, fun _ _ _ => rfl, DSt.off_zero rfl, fun _ => .inl ⟨rfl, rfl⟩, fun hh => (by cases hh)⟩

/-! ### what is read -/
def rd (off : Bool) (n : Nat) (now : Nat → List UInt8) (i : Int) : Int × List UInt8 := if off then (131, []) else if i < 0 ∨ (n : Int) ≤ i then (130, []) else (0, now i.toNat)
theorem Sim.rd {B : Nat} {s : DSt} {t : RSt} (h : Sim B s t) (i : Int) : rd t.off t.n t.now i = rd s.off s.n s.now i := by
  unfold Proofs.Ytiialjncdhhceaa.rd
  rw [h.off, h.n]
  split
  · rfl
  · split
    · rfl
    · rw [h.now i.toNat (by have := h.n; omega)]
theorem Read_s (d k m : Nat) (s : DSt) (i : Int) (w : World) (h : IsDisk w d k m s) :
    Calls Try.prog 41 #[.pointer (some ⟨d, 0, none⟩), .int .i64 i] w fun e w' => ∃ A n c, e = .returned (.tuple #[.slice A n c, .int .i64 (rd s.off s.n s.now i).1]) ∧ RB w' A n (rd s.off s.n s.now i).2 ∧ Fr [] w w' := by
  refine (Read_c d k m s i w h).mono ?_
  intro e w' hp
  unfold ReadPost at hp
  unfold rd
  by_cases ho : s.off = true
  · simp only [if_pos ho] at hp ⊢
    exact ⟨_, _, _, hp.1, RB.nil _ _, by rw [hp.2]; exact (Fr.refl [] w).drew⟩
  · simp only [if_neg ho] at hp ⊢
    by_cases hi : i < 0 ∨ (s.n : Int) ≤ i
    · simp only [if_pos hi] at hp ⊢
      exact ⟨_, _, _, hp.1, RB.nil _ _, by rw [hp.2]; exact (Fr.refl [] w).drew⟩
    · simp only [if_neg hi] at hp ⊢
      obtain ⟨b, he, _, hr, _, hf⟩ := hp
      exact ⟨_, _, _, he, rb_of_range hr (h.ok.now_len _) (by decide), hf⟩
theorem RRead_s (r a b p : Nat) (t : RSt) (i : Int) (w : World) (h : IsRef w r a b p t) :
    Calls Try.prog 72 #[.pointer (some ⟨r, 0, none⟩), .int .i64 i] w fun e w' => ∃ A n c, e = .returned (.tuple #[.slice A n c, .int .i64 (rd t.off t.n t.now i).1]) ∧ RB w' A n (rd t.off t.n t.now i).2 ∧ Fr [] w w' := by
  refine (RRead_c r a b p t i w h).mono ?_
  intro e w' hp
  unfold RReadPost at hp
  unfold rd
  by_cases ho : t.off = true
  · simp only [if_pos ho] at hp ⊢
    exact ⟨_, _, _, hp.1, RB.nil _ _, by rw [hp.2]; exact Fr.refl [] w⟩
  · simp only [if_neg ho] at hp ⊢
    by_cases hi : i < 0 ∨ (t.n : Int) ≤ i
    · simp only [if_pos hi] at hp ⊢
      exact ⟨_, _, _, hp.1, RB.nil _ _, by rw [hp.2]; exact Fr.refl [] w⟩
    · simp only [if_neg hi] at hp ⊢
      obtain ⟨b, he, _, hr, hf⟩ := hp
      exact ⟨_, _, _, he, rb_of_range hr (h.now.len _) (by decide), hf⟩

set_option maxHeartbeats 2000000 in
set_option maxRecDepth 100000 in
theorem alike_c (d k m r a b p B : Nat) (s : DSt) (t : RSt) (at_ : Int) (w : World) (hD : IsDisk w d k m s) (hR : IsRef w r a b p t) (hS : Sim B s t) :
    Calls Try.prog 52 #[.pointer (some ⟨d, 0, none⟩), .pointer (some ⟨r, 0, none⟩), .int .i64 at_] w fun e w' => e = .returned (.bool true) ∧ Fr [] w w' := by
  have hn := hD.ok.n_le
  have hsn := hS.n
  have hrd := hS.rd
  replace hrd := hid hrd
  go_enter Try.func52, Try.ntmps52
  go_wp2_with fail
  have hD1 := hD.fr (Fr.refl [] w).drew
  have hR1 := hR.fr (Fr.refl [] w).drew
  have c3 := hR1.c3
  have hload : ∀ w' : World, Fr [] w.drew w' → (Instr.loadAt 3 (.pointer (some ⟨r, 3, none⟩))).run Try.prog w' = _ := fun w' hf => load_cell 3 Try.underlying3 rfl (hf.cell c3 (by simp))
  replace hload := hid hload
  refine wp_region_textS' (fun w' => Fr [] w.drew w') [11] [] [] [(2, []), (2, []), (4, [])] (by kernel_rfl) (by kernel_rfl) (by kernel_rfl) (Fr.refl _ _) ?_
  intro K hK
  simp only [cutAt, List.take_succ_cons, List.take_zero, List.drop_succ_cons, List.drop_zero, List.take_nil, List.drop_nil, wpSegs, List.map_cons, List.map_nil, List.nil_append, List.cons_append]
  go_wp2_with fail
  refine (Len_c d k m s _ hD1).mono ?_
  rintro e w1 ⟨rfl, rfl⟩
  go_wp2_with fail
  refine ⟨fun w' => Fr [] w.drew w', fun _ h => h, Fr.refl _ _, ?_⟩
  go_wp2_with fail
  refine (RLen_c r a b p t _ hR1).mono ?_
  rintro e w1 ⟨rfl, rfl⟩
  go_wp2_with fail
  refine ⟨fun w' => Fr [] w.drew w', fun _ h => h, Fr.refl _ _, ?_⟩
  go_wp2_with fail
  refine (Steps_c d k m s _ hD1).mono ?_
  rintro e w1 ⟨rfl, rfl⟩
  have hst := hS.steps
  go_wp2_with fail
  refine ⟨fun w' => Fr [] w.drew w', fun _ h => h, Fr.refl _ _, ?_⟩
  go_wp2_with fail
  refine ⟨trivial, hK _ _ (by kernel_rfl) ⟨fun o ho => ?_, trivial⟩ ?_⟩
  · cases ho
    exact gives_load rfl (fun w' h => hload.out w' h)
  have hf0 : Fr [] w w.drew := (Fr.refl [] w).drew
  clear hload c3 hst
  generalize w.drew = w1 at *
  go_wp2_with fail
  go_loopw [7] (fun iv wr => ∃ q : Nat, q ≤ t.n + 2 ∧ iv = .int .i64 ((q : Int) - 1) ∧ Fr [] w1 wr) (fun iv _ => t.n + 2 - (intOf iv + 1).toNat)
  case atStart => exact ⟨0, by omega, rfl, Fr.refl _ _⟩
  case round =>
    obtain ⟨q, hq, rfl, hfr⟩ := hrel
    have hDr := hD1.fr hfr
    have hRr := hR1.fr hfr
    go_wp2_with fail
    refine (RLen_c r a b p t _ hRr).mono ?_
    rintro e w2 ⟨rfl, rfl⟩
    by_cases hql : q < t.n + 2
    · have hqi : (q : Int) - 1 ≤ (t.n : Int) := by omega
      go_wp2_with fail
      obtain ⟨xc, xl, hx⟩ : ∃ xc xl, rd s.off s.n s.now ((q : Int) - 1) = (xc, xl) := ⟨_, _, rfl⟩
      replace hx := hid hx
      refine (Read_s d k m s _ wr hDr).mono ?_
      rw [hx.out]
      rintro e w2 ⟨A1, n1, c1, rfl, hb1, hf1⟩
      go_wp2_with fail
      refine (RRead_s r a b p t _ w2 (hRr.fr hf1)).mono ?_
      rw [hrd.out, hx.out]
      rintro e w3 ⟨A2, n2, c2, rfl, hb2, hf2⟩
      have g1 : (convert 22 9 (.slice A1 n1 c1)).run Try.prog w3 = .ok (.string ⟨xl.toArray⟩) w3 := run_str 22 5 9 Try.underlying22 Try.underlying5 Try.underlying9 (hb1.below hf2.all)
      have g2 : (convert 22 9 (.slice A2 n2 c2)).run Try.prog w3 = .ok (.string ⟨xl.toArray⟩) w3 := run_str 22 5 9 Try.underlying22 Try.underlying5 Try.underlying9 hb2
      have hf13 := (hfr.then hf1).then hf2
      clear hb1 hb2
      go_wp2_with fail
      try go_frame
      go_roundw
      case rel => exact ⟨q + 1, by omega, by congr 1; omega, hf13⟩
      case measure => simp [intOf]; omega
    · have hqi : ¬ (q : Int) - 1 ≤ (t.n : Int) := by omega
      go_wp2_with fail
      obtain ⟨xc, xl, hx⟩ : ∃ xc xl, rd s.off s.n s.now at_ = (xc, xl) := ⟨_, _, rfl⟩
      replace hx := hid hx
      refine (Read_s d k m s _ wr hDr).mono ?_
      rw [hx.out]
      rintro e w2 ⟨A1, n1, c1, rfl, hb1, hf1⟩
      go_wp2_with fail
      refine (RRead_s r a b p t _ w2 (hRr.fr hf1)).mono ?_
      rw [hrd.out, hx.out]
      rintro e w3 ⟨A2, n2, c2, rfl, hb2, hf2⟩
      clear hb1 hb2
      go_wp2_with fail
      go_ret
      exact ⟨by simp, hf0.then ((hfr.then hf1).then hf2)⟩
end Go.Proofs.Ytiialjncdhhceaa
