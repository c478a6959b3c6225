/- What Flush does to a disk. -/
import Derived.Test.YtiialjncdhhceaaSecOps
namespace Go.Proofs.Ytiialjncdhhceaa
open Go.RowKit
set_option linter.unusedVariables false
set_option linter.unusedSimpArgs false

def DSt.clean (s : DSt) : DSt := { s with kept := s.now, pend := fun _ => none }
def DSt.flush (s : DSt) : Int × DSt := if s.step.off then (131, s.step) else (0, s.step.clean)

/-- As far as the loop over what is pending has come. -/
def DSt.part (s : DSt) (left : Lit → Bool) (i : Nat) : List UInt8 := if left (.int .i64 (i : Int)) then s.kept i else s.now i

set_option maxHeartbeats 1000000 in
set_option maxRecDepth 100000 in
theorem Flush_c (d k m : Nat) (s : DSt) (w : World) (h : IsDisk w d k m s) (hs : s.steps + 1 < 4611686018427387904) :
    Calls Try.prog 42 #[.pointer (some ⟨d, 0, none⟩)] w fun e w' => e = .returned (.int .i64 s.flush.1) ∧ IsDisk w' d k m s.flush.2 ∧ Fr [d, k, m] w w' := by
  have hn := h.ok.n_le
  have c2 := h.c2
  have z2 := h.z 2
  have hd1 := h.step hs
  have hf1 : Fr [d, k, m] w (w.setCell ⟨d, 2, none⟩ (.int .i64 ((s.steps : Int) + 1))) := (Fr.refl _ w).setCell _ (.inl (by simp)) _
  unfold DSt.flush
  by_cases hoff : s.step.off
  · simp only [if_pos hoff]
    go_enter Try.func42, Try.ntmps42
    go_wp2_with (go_at_call 66; fail)
    generalize w.setCell ⟨d, 2, none⟩ (.int .i64 ((s.steps : Int) + 1)) = w1 at *
    refine (off_c d k m s.step _ hd1).mono ?_
    rintro e w2 ⟨rfl, rfl⟩
    rw [hoff]
    go_wp2
    go_ret
    exact ⟨rfl, hd1.fr (Fr.refl [] w1).drew, hf1.drew⟩
  · simp only [if_neg hoff]
    have hoff' : s.step.off = false := by simpa using hoff
    go_enter Try.func42, Try.ntmps42
    go_wp2_with (go_at_call 66; fail)
    generalize w.setCell ⟨d, 2, none⟩ (.int .i64 ((s.steps : Int) + 1)) = w1 at *
    refine (off_c d k m s.step _ hd1).mono ?_
    rintro e w2 ⟨rfl, rfl⟩
    rw [hoff']
    have hd2 : IsDisk w1.drew d k m s.step := hd1.fr (Fr.refl [] w1).drew
    have hf2 : Fr [d, k, m] w w1.drew := hf1.drew
    generalize w1.drew = w2 at *
    clear hd1 hf1 c2 z2
    have c1 := hd2.c1
    go_wp2_with (first | (with_reducible refine stop_rg rfl ?_))
    obtain ⟨cnt, hcnt, hmp⟩ := hd2.pend
    refine Stop.go (rg_sec rfl rfl hmp rfl ?_)
    intro D w3 hp hrg3 hf3 hs3
    have hd3 := hd2.fr hf3
    obtain ⟨hld, hlk, hlm⟩ := hd2.lts
    go_wp2_with (first | (with_reducible refine stop_rg rfl ?_))
    go_frame
    go_loopw [3, 4] (fun _ _ wr => ∃ (left : Lit → Bool) (c : Nat), wr.ranges Try.prog 3 secR m w2.heap.size cnt D left c ∧ (∀ i, i < s.n → wr.rangeAt k (i * 64) ((s.part left i).map encB)) ∧ wr.there k 0 (s.n * 64) ∧ wr.heap[d]? = some (.cells (dCells k m s.step) 105 (0, 0)) ∧ Fr [k] w2 wr) (fun _ _ wr => wr.rangeLeft m w2.heap.size)
    case atStart =>
      refine ⟨_, _, hrg3, fun i hi => ?_, hd3.there, hd3.blk, hf3.mono (by simp)⟩
      have hx := hd3.rows i hi
      have : s.part (Maps.has D) i = s.kept i := by
        unfold DSt.part
        rw [hp.has i (by have : s.step.n = s.n := rfl; omega)]
        unfold DSt.now
        show (if (s.pend i).isSome = true then _ else _) = _
        cases s.pend i <;> rfl
      rw [this]
      exact hx
    case round =>
      obtain ⟨left, c, hrg, hrow, hth, hblk, hfr⟩ := hrel
      go_wp2_with (first | (with_reducible refine stop_nx rfl ?_))
      refine Stop.go (nx_sec rfl _ rfl hp hrg rfl ?_ ?_)
      · intro hl0
        have hown : MapP wr m cnt s.pend := ⟨D, hrg.owns, hp⟩
        obtain ⟨w4, hclr, hmp4, hf4⟩ := hown.clear
        have e1 : wr.cell? ⟨d, 1, none⟩ = some (.map (some m)) := cell_of_row _ _ 1 _ _ _ hblk
        have hkm := hd2.km
        have hdm := hd2.dm
        have hdk := hd2.dk
        have hklt : k < wr.heap.size := Nat.lt_of_lt_of_le hlk hfr.size
        have hd4 : IsDisk w4 d k m s.step.clean := by
          refine ⟨⟨hd2.ok.n_le, fun i => hd2.ok.now_len i, fun i l h => by cases h⟩, (hf4.block d (Nat.lt_of_lt_of_le hld hfr.size) (by simp; omega)).trans hblk, fun i hi => ?_, there_fr hf4 hth hklt (by simp; omega), Nat.lt_of_lt_of_le hklt hf4.size, ⟨0, Nat.zero_le _, hmp4⟩, hdk, hdm, hkm, hd2.steps, hd2.offAt⟩
          have hx := hrow i hi
          have : s.part left i = s.now i := by unfold DSt.part; rw [hl0]; simp
          rw [this] at hx
          exact range_fr hf4 hx hklt (by simp; omega)
        go_wp2
        go_ret
        exact ⟨rfl, hd4, (hf2.trans hfr (by simp)).trans hf4 (by simp)⟩
      · intro i l w4 c' hi63 hpi hl hlk2 hrg4 hlt hf4 hen
        have hpl := h.ok.pend_len i l hpi
        go_wp2_with (first | (with_reducible refine stop_al rfl ?_) | (with_reducible refine stop_st rfl ?_) | (with_reducible refine stop_ld rfl ?_) | (with_reducible refine stop_nx rfl ?_))
        refine Stop.go (al_sec rfl rfl ?_)
        intro w5 hb5 hs5 hf5
        go_wp2_with (first | (with_reducible refine stop_al rfl ?_) | (with_reducible refine stop_st rfl ?_) | (with_reducible refine stop_ld rfl ?_) | (with_reducible refine stop_nx rfl ?_))
        have ht5 : w5.there w4.heap.size 0 64 := there_of_block hb5 (by rw [secA_size, zeros64_len]; omega)
        refine Stop.go (st_sec rfl rfl w4.heap.size 0 l hl rfl rfl ht5 ?_)
        intro w6 hw6 hr6 hf6
        clear hw6
        go_wp2_with (first | (with_reducible refine stop_al rfl ?_) | (with_reducible refine stop_st rfl ?_) | (with_reducible refine stop_ld rfl ?_) | (with_reducible refine stop_nx rfl ?_))
        -- what the round has left as it was
        have hk1 : k < wr.heap.size := Nat.lt_of_lt_of_le hlk hfr.size
        have hd1 : d < wr.heap.size := Nat.lt_of_lt_of_le hld hfr.size
        have hm1 : m < wr.heap.size := hrg.owns.lt
        have hr1 : w2.heap.size < wr.heap.size := hrg.lt
        have hF6 : Fr [w2.heap.size] wr w6 := (hf4.then hf5).trans hf6 (by intro x hx; right; simp at hx; subst hx; exact hf4.size)
        have hkr : k ≠ w2.heap.size := by omega
        have hkm := hd2.km
        have hdm := hd2.dm
        have hdk := hd2.dk
        have hrow6 : ∀ i, i < s.n → w6.rangeAt k (i * 64) ((s.part left i).map encB) := fun i hi => range_fr hF6 (hrow i hi) hk1 (by simp; omega)
        have hth6 : w6.there k 0 (s.n * 64) := there_fr hF6 hth hk1 (by simp; omega)
        have hblk6 : w6.heap[d]? = some (.cells (dCells k m s.step) 105 (0, 0)) := (hF6.block d hd1 (by simp; omega)).trans hblk
        have hrg6 : w6.ranges Try.prog 3 secR m w2.heap.size cnt D (fun z => left z && !z.sameKey (.int .i64 (i : Int))) c' :=
          ranges_fr (ranges_fr hrg4 hf5 (by simp) (by simp)) hf6 (by have := hf4.size; simp; omega) (by have := hf4.size; simp; omega)
        refine wp_region_text' (by kernel_rfl) (by kernel_rfl) ?_
        intro K hK
        have hrow7 : ∀ i, i < s.n → w6.drew.rangeAt k (i * 64) ((s.part left i).map encB) := hrow6
        have hth7 : w6.drew.there k 0 (s.n * 64) := hth6
        have hblk7 : w6.drew.heap[d]? = some (.cells (dCells k m s.step) 105 (0, 0)) := hblk6
        have hrg7 : w6.drew.ranges Try.prog 3 secR m w2.heap.size cnt D (fun z => left z && !z.sameKey (.int .i64 (i : Int))) c' := hrg6
        have hr7 : w6.drew.rangeAt w4.heap.size 0 (l.map encB) := hr6
        have hF7 : Fr [w2.heap.size] wr w6.drew := hF6.drew
        generalize w6.drew = w7 at *
        have e0 : w7.cell? ⟨d, 0, none⟩ = some (.slice (some ⟨k, 0, none⟩) s.n s.n) := cell_of_row _ _ 0 _ _ _ hblk7
        go_wp2_with (first | (with_reducible refine stop_al rfl ?_) | (with_reducible refine stop_st rfl ?_) | (with_reducible refine stop_ld rfl ?_) | (with_reducible refine stop_nx rfl ?_))
        refine Stop.go (ld_sec rfl rfl w4.heap.size 0 l hl rfl hr7 ?_)
        have hin := hpl.1
        go_wp2_with (first | (with_reducible refine stop_al rfl ?_) | (with_reducible refine stop_st rfl ?_) | (with_reducible refine stop_ld rfl ?_) | (with_reducible refine stop_nx rfl ?_))
        refine Stop.go (st_sec rfl rfl k (i * 64) l hl rfl rfl (there_sub hth7 (by omega)) ?_)
        intro w8 hw8 hr8 hf8
        have hth8 : w8.there k 0 (s.n * 64) := by rw [hw8]; exact World.there_setCells hth7 _ _ _
        have hrow8 : ∀ j, j < s.n → w8.rangeAt k (j * 64) ((s.part (fun z => left z && !z.sameKey (.int .i64 (i : Int))) j).map encB) := by
          intro j hj
          by_cases hji : j = i
          · subst hji
            have : s.part (fun z => left z && !z.sameKey (.int .i64 (j : Int))) j = l := by
              have hpi' : s.pend j = some l := hpi
              unfold DSt.part DSt.now
              rw [hpi']
              dsimp only
              have hself : (Lit.int .i64 (j : Int)).sameKey (.int .i64 (j : Int)) = true := WideAt.sameKey_self (secK.key (keyI j hi63))
              simp [hself]
            rw [this]
            exact hr8
          · have : s.part (fun z => left z && !z.sameKey (.int .i64 (i : Int))) j = s.part left j := by
              unfold DSt.part
              dsimp only
              have hne : (Lit.int .i64 (j : Int)).sameKey (.int .i64 (i : Int)) = false := Maps.sameKey_ne (fun h => hji (by injection h with _ h; omega))
              simp [hne]
            rw [this, hw8]
            have hpl2 : (s.part left j).length = 64 := by
              unfold DSt.part
              split
              · exact h.ok.kept_len j
              · exact h.ok.now_len j
            exact World.rangeAt_setCells_apart (hrow7 j hj) _ _ _ (by right; rw [List.length_map, List.length_map, hl, hpl2]; omega)
        clear hw8
        have hrg8 := ranges_fr hrg7 hf8 (by simp; omega) (by simp; omega)
        have hblk8 := (hf8.block d (Nat.lt_of_lt_of_le hd1 hF7.size) (by simp; omega)).trans hblk7
        have hfr8 : Fr [k] w2 w8 := (hfr.trans hF7 (by simp)).trans hf8 (by simp)
        go_wp2
        refine hK _ _ (by kernel_rfl) ?_
        go_wp2
        go_frame
        go_roundw
        case rel => exact ⟨_, c', hrg8, hrow8, hth8, hblk8, hfr8⟩
        case measure =>
          rw [hrg8.left_eq, hrg.left_eq]
          exact hlt
end Go.Proofs.Ytiialjncdhhceaa
