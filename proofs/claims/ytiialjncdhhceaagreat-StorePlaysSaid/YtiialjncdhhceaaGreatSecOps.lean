/- What Write, Read, Power do to a disk. -/
import Derived.Test.YtiialjncdhhceaaGreatSecDisk
namespace Go.Proofs.YtiialjncdhhceaaGreat
open Go.RowKit
set_option linter.unusedVariables false
set_option linter.unusedSimpArgs false

def DSt.step (s : DSt) : DSt := { s with steps := s.steps + 1 }
def DSt.put (s : DSt) (i : Nat) (l : List UInt8) : DSt := { s with pend := fun j => if j = i then some (l ++ (s.now i).drop l.length) else s.pend j }
def DSt.write (s : DSt) (i : Int) (l : List UInt8) : Int × DSt :=
  if s.step.off then (131, s.step) else if i < 0 ∨ (s.n : Int) ≤ i ∨ 64 < l.length then (130, s.step) else (0, s.step.put i.toNat l)

theorem DOk.step {s : DSt} (h : DOk s) : DOk s.step := ⟨h.n_le, h.kept_len, h.pend_len⟩
theorem DOk.put {s : DSt} (h : DOk s) {i : Nat} (hi : i < s.n) {l : List UInt8} (hl : l.length ≤ 64) : DOk (s.put i l) := by
  refine ⟨h.n_le, h.kept_len, fun j x hx => ?_⟩
  unfold DSt.put at hx
  dsimp only at hx
  split at hx
  · rename_i hji
    subst hji
    injection hx with hx
    subst hx
    have := h.now_len j
    exact ⟨hi, by rw [List.length_append, List.length_drop]; omega⟩
  · exact h.pend_len j x hx

theorem IsDisk.step {w : World} {d k m : Nat} {s : DSt} (h : IsDisk w d k m s) (hs : s.steps + 1 < 4611686018427387904) : IsDisk (w.setCell ⟨d, 2, none⟩ (.int .i64 ((s.steps : Int) + 1))) d k m s.step := by
  have hf : Fr [d] w (w.setCell ⟨d, 2, none⟩ (.int .i64 ((s.steps : Int) + 1))) := (Fr.refl [d] w).setCell _ (.inl (by simp)) _
  obtain ⟨l1, l2, l3⟩ := h.lts
  refine ⟨h.ok.step, (heap_setCell_same w d 2 (dCells k m s) _ _ h.blk).trans rfl, fun i hi => range_fr hf (h.rows i hi) h.klt (by have := h.dk; simp; omega), there_fr hf h.there h.klt (by have := h.dk; simp; omega), by simpa using h.klt, ?_, h.dk, h.dm, h.km, hs, h.offAt⟩
  obtain ⟨cnt, hc, hp⟩ := h.pend
  exact ⟨cnt, Nat.le_succ_of_le hc, hp.kept hf (by have := h.dm; simp; omega)⟩

def ReadPost (s : DSt) (i : Int) (w : World) (e : Ending) (w' : World) : Prop :=
  if s.off then e = .returned (.tuple #[.slice none 0 0, .int .i64 131]) ∧ w' = w.drew
  else if i < 0 ∨ (s.n : Int) ≤ i then e = .returned (.tuple #[.slice none 0 0, .int .i64 130]) ∧ w' = w.drew
  else ∃ b, e = .returned (.tuple #[.slice (some ⟨b, 0, none⟩) 64 64, .int .i64 0]) ∧ w.heap.size ≤ b ∧ w'.rangeAt b 0 ((s.now i.toNat).map encB) ∧ w'.there b 0 64 ∧ Fr [] w w'

set_option maxRecDepth 100000 in
theorem Read_c (d k m : Nat) (s : DSt) (i : Int) (w : World) (h : IsDisk w d k m s) :
    Calls Tryz.prog 80 #[.pointer (some ⟨d, 0, none⟩), .int .i64 i] w (ReadPost s i w) := by
  have hn := h.ok.n_le
  unfold ReadPost
  have hd1 : IsDisk w.drew d k m s := h.fr (Fr.refl [] w).drew
  have c0 := hd1.c0
  by_cases hoff : s.off
  · simp only [if_pos hoff]
    go_enter Tryz.func80, Tryz.ntmps80
    go_wp2_with (go_at_call 38; refine (off_c d k m s _ h).mono ?_; rintro e w' ⟨rfl, rfl⟩; rw [hoff])
    go_ret2
    exact ⟨rfl, rfl⟩
  · simp only [if_neg hoff]
    have hoff' : s.off = false := by simpa using hoff
    by_cases hi : i < 0 ∨ (s.n : Int) ≤ i
    · simp only [if_pos hi]
      go_enter Tryz.func80, Tryz.ntmps80
      go_wp2_with (go_at_call 38; refine (off_c d k m s _ h).mono ?_; rintro e w' ⟨rfl, rfl⟩; rw [hoff'])
      all_goals go_ret2
      all_goals exact ⟨rfl, rfl⟩
    · simp only [if_neg hi]
      obtain ⟨j, rfl⟩ : ∃ j : Nat, i = (j : Int) := ⟨i.toNat, by omega⟩
      have hj : j < s.n := by omega
      go_enter Tryz.func80, Tryz.ntmps80
      go_wp2_with (go_at_call 38; refine (off_c d k m s _ h).mono ?_; rintro e w' ⟨rfl, rfl⟩; rw [hoff'])
      refine (now_c d k m s j _ hd1 hj).mono ?_
      rintro e w1 ⟨rfl, hf1⟩
      go_wp2_with (first | (with_reducible refine stop_al rfl ?_) | (with_reducible refine stop_st rfl ?_) | (with_reducible refine stop_ld rfl ?_))
      refine Stop.go (al_sec rfl rfl ?_)
      intro w2 hb2 hs2 hf2
      go_wp2_with (first | (with_reducible refine stop_al rfl ?_) | (with_reducible refine stop_st rfl ?_) | (with_reducible refine stop_ld rfl ?_))
      have hl := h.ok.now_len j
      have ht2 : w2.there w1.heap.size 0 64 := there_of_block hb2 (by rw [secA_size, zeros64_len]; omega)
      refine Stop.go (st_sec rfl rfl w1.heap.size 0 (s.now j) hl rfl rfl ht2 ?_)
      intro w3 hw3 hr3 hf3
      have ht3 : w3.there w1.heap.size 0 64 := by rw [hw3]; exact World.there_setCells ht2 _ _ _
      clear hw3
      go_wp2
      go_ret2
      have hs1 := hf1.size
      exact ⟨w1.heap.size, rfl, hs1, hr3, ht3, ((((Fr.refl [] w).drew).then hf1).then hf2).trans hf3 (by intro x hx; right; simp at hx; subst hx; exact hs1)⟩

set_option maxHeartbeats 1000000 in
set_option maxRecDepth 100000 in
theorem Write_c (d k m : Nat) (s : DSt) (i : Int) (A : Option Addr) (n c : Nat) (l : List UInt8) (w : World) (h : IsDisk w d k m s) (hb : RB w A n l) (hA : n ≠ 0 → ∀ a, A = some a → a.block ≠ d ∧ a.block ≠ m) (hs : s.steps + 1 < 4611686018427387904) :
    Calls Tryz.prog 45 #[.pointer (some ⟨d, 0, none⟩), .int .i64 i, .slice A n c] w fun e w' => e = .returned (.int .i64 (s.write i l).1) ∧ IsDisk w' d k m (s.write i l).2 ∧ Fr [d, m] w w' := by
  have hn := h.ok.n_le
  have c2 := h.c2
  have z2 := h.z 2
  have hd1 := h.step hs
  have hf1 : Fr [d, m] w (w.setCell ⟨d, 2, none⟩ (.int .i64 ((s.steps : Int) + 1))) := (Fr.refl _ w).setCell _ (.inl (by simp)) _
  obtain ⟨cnt, hcnt, hmp0⟩ := h.pend
  have hmp1 : MapP (w.setCell ⟨d, 2, none⟩ (.int .i64 ((s.steps : Int) + 1))) m cnt s.pend := hmp0.kept (S := [d]) ((Fr.refl [d] w).setCell _ (.inl (by simp)) _) (by have := h.dm; simp; omega)
  clear hmp0
  unfold DSt.write
  have hbl : n ≠ 0 → ∀ a, A = some a → a.block ∉ [d, m] := fun hn0 a ha => by have := hA hn0 a ha; simp; omega
  have hln := hb.1
  by_cases hoff : s.step.off
  · simp only [if_pos hoff]
    go_enter Tryz.func45, Tryz.ntmps45
    go_wp2_with (go_at_call 38; fail)
    generalize w.setCell ⟨d, 2, none⟩ (.int .i64 ((s.steps : Int) + 1)) = w1 at *
    refine (off_c d k m s.step _ hd1).mono ?_
    rintro e w2 ⟨rfl, rfl⟩
    have hd2 : IsDisk w1.drew d k m s.step := hd1.fr (Fr.refl [] w1).drew
    have hf2 : Fr [d, m] w w1.drew := hf1.drew
    have hmp2 : MapP w1.drew m cnt s.pend := hmp1.kept (Fr.refl [] w1).drew (by simp)
    generalize w1.drew = w2 at *
    have c0 : w2.cell? ⟨d, 0, none⟩ = some (.slice (some ⟨k, 0, none⟩) s.n s.n) := hd2.c0
    clear hd1 hf1 c2 z2 hmp1
    rw [hoff]
    go_wp2
    go_ret
    exact ⟨rfl, hd2, hf2⟩
  · simp only [if_neg hoff]
    have hoff' : s.step.off = false := by simpa using hoff
    by_cases hi : i < 0 ∨ (s.n : Int) ≤ i ∨ 64 < l.length
    · simp only [if_pos hi]
      have hi' : i < 0 ∨ (s.n : Int) ≤ i ∨ (64 : Int) < (n : Int) := by omega
      clear hi
      go_enter Tryz.func45, Tryz.ntmps45
      go_wp2_with (go_at_call 38; fail)
      generalize w.setCell ⟨d, 2, none⟩ (.int .i64 ((s.steps : Int) + 1)) = w1 at *
      refine (off_c d k m s.step _ hd1).mono ?_
      rintro e w2 ⟨rfl, rfl⟩
      have hd2 : IsDisk w1.drew d k m s.step := hd1.fr (Fr.refl [] w1).drew
      have hf2 : Fr [d, m] w w1.drew := hf1.drew
      have hmp2 : MapP w1.drew m cnt s.pend := hmp1.kept (Fr.refl [] w1).drew (by simp)
      generalize w1.drew = w2 at *
      have c0 : w2.cell? ⟨d, 0, none⟩ = some (.slice (some ⟨k, 0, none⟩) s.n s.n) := hd2.c0
      clear hd1 hf1 c2 z2 hmp1
      rw [hoff']
      go_wp2
      all_goals go_ret
      all_goals exact ⟨rfl, hd2, hf2⟩
    · simp only [if_neg hi]
      obtain ⟨j, rfl⟩ : ∃ j : Nat, i = (j : Int) := ⟨i.toNat, by omega⟩
      have hj : j < s.n := by omega
      have hl64 : l.length ≤ 64 := by omega
      have hn64 : n ≤ 64 := by omega
      have hn64' : ¬ (64 : Int) < (n : Int) := by omega
      clear hi
      go_enter Tryz.func45, Tryz.ntmps45
      go_wp2_with (go_at_call 38; fail)
      generalize w.setCell ⟨d, 2, none⟩ (.int .i64 ((s.steps : Int) + 1)) = w1 at *
      refine (off_c d k m s.step _ hd1).mono ?_
      rintro e w2 ⟨rfl, rfl⟩
      have hd2 : IsDisk w1.drew d k m s.step := hd1.fr (Fr.refl [] w1).drew
      have hf2 : Fr [d, m] w w1.drew := hf1.drew
      have hmp2 : MapP w1.drew m cnt s.pend := hmp1.kept (Fr.refl [] w1).drew (by simp)
      generalize w1.drew = w2 at *
      have c0 : w2.cell? ⟨d, 0, none⟩ = some (.slice (some ⟨k, 0, none⟩) s.n s.n) := hd2.c0
      clear hd1 hf1 c2 z2 hmp1
      rw [hoff']
      have hb2 : RB w2 A n l := hb.kept' hf2 hbl
      go_wp2_with fail
      refine (now_c d k m s.step j _ hd2 hj).mono ?_
      rintro e w3 ⟨rfl, hf3⟩
      go_wp2_with (first | (with_reducible refine stop_al rfl ?_) | (with_reducible refine stop_st rfl ?_) | (with_reducible refine stop_ld rfl ?_) | (with_reducible refine stop_mu rfl ?_))
      refine Stop.go (al_sec rfl rfl ?_)
      intro w4 hb4 hs4 hf4
      go_wp2_with (first | (with_reducible refine stop_al rfl ?_) | (with_reducible refine stop_st rfl ?_) | (with_reducible refine stop_ld rfl ?_) | (with_reducible refine stop_mu rfl ?_))
      have hl := hd2.ok.now_len j
      have ht4 : w4.there w3.heap.size 0 64 := there_of_block hb4 (by rw [secA_size, zeros64_len]; omega)
      refine Stop.go (st_sec rfl rfl w3.heap.size 0 (s.step.now j) hl rfl rfl ht4 ?_)
      intro w5 hw5 hr5 hf5
      have ht5 : w5.there w3.heap.size 0 64 := by rw [hw5]; exact World.there_setCells ht4 _ _ _
      clear hw5
      have hF5 : Fr [] w2 w5 := (hf3.then hf4).trans hf5 (by intro x hx; right; simp at hx; subst hx; exact hf3.size)
      have hb5 : RB w5 A n l := hb2.kept hF5 (by simp)
      have hcp := copy_b w3.heap.size 0 64 64 ht5 hb5 (c := c)
      rw [List.take_of_length_le hl64] at hcp
      have hr6 := range_head (l := l) hr5 (by rw [hl]; exact hl64)
      have hF6 : Fr [] w2 (w5.setCells w3.heap.size 0 (l.map encB)) := fr_setCells hF5 _ _ _ (.inr hf3.size)
      have hd6 := hd2.fr hF6
      have hlen6 : (l ++ (s.step.now j).drop l.length).length = 64 := by rw [List.length_append, List.length_drop]; omega
      go_wp2
      generalize w5.setCells w3.heap.size 0 (l.map encB) = w6 at *
      refine wp_region_text' (by kernel_rfl) (by kernel_rfl) ?_
      intro K hK
      have hd7 : IsDisk w6.drew d k m s.step := hd6.fr (Fr.refl [] w6).drew
      have hr7 : w6.drew.rangeAt w3.heap.size 0 ((l ++ (s.step.now j).drop l.length).map encB) := hr6
      have hF7 : Fr [] w2 w6.drew := hF6.drew
      generalize w6.drew = w7 at *
      have e1 := hd7.c1
      go_wp2_with (first | (with_reducible refine stop_al rfl ?_) | (with_reducible refine stop_st rfl ?_) | (with_reducible refine stop_ld rfl ?_) | (with_reducible refine stop_mu rfl ?_))
      refine Stop.go (ld_sec rfl rfl w3.heap.size 0 _ hlen6 rfl hr7 ?_)
      go_wp2_with (first | (with_reducible refine stop_al rfl ?_) | (with_reducible refine stop_st rfl ?_) | (with_reducible refine stop_ld rfl ?_) | (with_reducible refine stop_mu rfl ?_))
      have hmp := hmp2.kept hF7 (by simp)
      have hst := hd7.steps
      have hst2 : s.step.steps = s.steps + 1 := rfl
      rw [hln] at hlen6
      refine Stop.go (mu_sec rfl rfl hmp (by simp only [maxLen]; omega) j (by omega) _ hlen6 rfl rfl rfl ?_)
      intro w8 hmp8 hf8
      have hlts := hd7.lts
      have hd8 : IsDisk w8 d k m (s.step.put j l) := by
        refine ⟨hd7.ok.put hj hl64, (hf8.block d hlts.1 (by have := hd7.dm; simp; omega)).trans hd7.blk, fun i hi => range_fr hf8 (hd7.rows i hi) hd7.klt (by have := hd7.km; simp; omega), there_fr hf8 hd7.there hd7.klt (by have := hd7.km; simp; omega), Nat.lt_of_lt_of_le hd7.klt hf8.size, ?_, hd7.dk, hd7.dm, hd7.km, hd7.steps, hd7.offAt⟩
        exact ⟨cnt + 1, by show cnt + 1 ≤ s.steps + 1; omega, by rw [← hln] at hmp8; exact hmp8⟩
      go_wp2
      refine hK _ _ (by kernel_rfl) ?_
      go_wp2
      go_ret
      exact ⟨rfl, hd8, (hf2.trans hF7 (by simp)).trans hf8 (by simp)⟩

def DSt.power (s : DSt) (at_ : Int) : DSt := if s.off then s else if at_ ≤ 0 then { s with offAt := 0 } else { s with offAt := s.steps + (min at_ 1099511627776).toNat }
theorem IsDisk.setOff {w : World} {d k m : Nat} {s : DSt} (h : IsDisk w d k m s) (x : Nat) (hx : x < 9223372036854775808) : IsDisk (w.setCell ⟨d, 3, none⟩ (.int .i64 (x : Int))) d k m { s with offAt := x } := by
  have hf : Fr [d] w (w.setCell ⟨d, 3, none⟩ (.int .i64 (x : Int))) := (Fr.refl [d] w).setCell _ (.inl (by simp)) _
  refine ⟨⟨h.ok.n_le, h.ok.kept_len, h.ok.pend_len⟩, (heap_setCell_same w d 3 (dCells k m s) _ _ h.blk).trans rfl, fun i hi => range_fr hf (h.rows i hi) h.klt (by have := h.dk; simp; omega), there_fr hf h.there h.klt (by have := h.dk; simp; omega), by simpa using h.klt, ?_, h.dk, h.dm, h.km, h.steps, hx⟩
  obtain ⟨cnt, hc, hp⟩ := h.pend
  exact ⟨cnt, hc, hp.kept hf (by have := h.dm; simp; omega)⟩

set_option maxRecDepth 100000 in
theorem Power_c (d k m : Nat) (s : DSt) (at_ : Int) (w : World) (h : IsDisk w d k m s) :
    Calls Tryz.prog 20 #[.pointer (some ⟨d, 0, none⟩), .int .i64 at_] w fun e w' => e = .returned (.tuple #[]) ∧ IsDisk w' d k m (s.power at_) ∧ Fr [d] w w' := by
  have hd1 : IsDisk w.drew d k m s := h.fr (Fr.refl [] w).drew
  have hf1 : Fr [d] w w.drew := (Fr.refl [d] w).drew
  have hst := h.steps
  unfold DSt.power
  by_cases hoff : s.off
  · simp only [if_pos hoff]
    go_enter Tryz.func20, Tryz.ntmps20
    go_wp2_with (go_at_call 38; refine (off_c d k m s _ h).mono ?_; rintro e w' ⟨rfl, rfl⟩; rw [hoff])
    go_end0
    exact ⟨rfl, hd1, hf1⟩
  · simp only [if_neg hoff]
    have hoff' : s.off = false := by simpa using hoff
    have c3 := hd1.c3
    have z3 := hd1.z 3
    have c2 := hd1.c2
    by_cases hat : at_ ≤ 0
    · simp only [if_pos hat]
      have hd2 := hd1.setOff 0 (by omega)
      go_enter Tryz.func20, Tryz.ntmps20
      go_wp2_with (go_at_call 38; refine (off_c d k m s _ h).mono ?_; rintro e w' ⟨rfl, rfl⟩; rw [hoff'])
      go_end0
      exact ⟨rfl, hd2, hf1.setCell _ (.inl (by simp)) _⟩
    · simp only [if_neg hat]
      obtain ⟨x, hx⟩ : ∃ x : Nat, min at_ 1099511627776 = (x : Int) := ⟨(min at_ 1099511627776).toNat, by omega⟩
      have hx40 : x ≤ 1099511627776 := by omega
      have hxn : (min at_ 1099511627776).toNat = x := by omega
      rw [hxn]
      have hd2 := hd1.setOff (s.steps + x) (by omega)
      have hd2' := hid hd2
      clear hd2
      have hd3 : ∀ V : Int, V = (x : Int) → IsDisk (w.drew.setCell ⟨d, 3, none⟩ (.int .i64 ((s.steps : Int) + V))) d k m { s with offAt := s.steps + x } := by
        intro V hV
        have := hd2'.out
        rw [show (((s.steps + x : Nat)) : Int) = (s.steps : Int) + V by omega] at this
        exact this
      have hd3' := hid hd3
      have hx' := hid hx
      clear hd3 hx hxn hd2'
      go_enter Tryz.func20, Tryz.ntmps20
      go_wp2_with (go_at_call 38; refine (off_c d k m s _ h).mono ?_; rintro e w' ⟨rfl, rfl⟩; rw [hoff'])
      all_goals have hx := hx'.out
      all_goals go_end0
      all_goals refine ⟨rfl, hd3'.out _ (by omega), hf1.setCell _ (.inl (by simp)) _⟩
end Go.Proofs.YtiialjncdhhceaaGreat
