/- What a disk's calls do where the power is on: handy forms of their contracts. -/
import Derived.Test.YtiialjncdhhceaaSecCrash
import Derived.Test.YtiialjncdhhceaaSecPlain
import Derived.Test.YtiialjncdhhceaaSecArr
namespace Go.Proofs.Ytiialjncdhhceaa
open Go.RowKit
set_option linter.unusedVariables false

theorem Read_ok (d k m : Nat) (s : DSt) (i : Nat) (w : World) (h : IsDisk w d k m s) (hoff : s.off = false) (hi : i < s.n) (v : Int) (hv : v = (i : Int)) :
    Calls Try.prog 41 #[.pointer (some ⟨d, 0, none⟩), .int .i64 v] w fun e w' => ∃ b, e = .returned (.tuple #[.slice (some ⟨b, 0, none⟩) 64 64, .int .i64 0]) ∧ (w.heap.size ≤ b ∧ b < w'.heap.size) ∧ w'.rangeAt b 0 ((s.now i).map encB) ∧ w'.there b 0 64 ∧ Fr [] w w' := by
  subst hv
  refine (Read_c d k m s (i : Int) w h).mono ?_
  intro e w' hp
  unfold ReadPost at hp
  rw [if_neg (by rw [hoff]; simp), if_neg (by omega)] at hp
  obtain ⟨b, he, hb, hr, ht, hf⟩ := hp
  rw [Int.toNat_natCast] at hr
  refine ⟨b, he, ⟨hb, ?_⟩, hr, ht, hf⟩
  exact World.block_lt_of_cell? w' ⟨b, 0 + 0, none⟩ (range_cell hr 0 (by rw [h.ok.now_len]; decide))
theorem Write_ok (d k m : Nat) (s : DSt) (i : Nat) (A : Option Addr) (n c : Nat) (l : List UInt8) (w : World) (h : IsDisk w d k m s) (hb : RB w A n l) (hA : n ≠ 0 → ∀ a, A = some a → a.block ≠ d ∧ a.block ≠ m) (hs : s.steps + 1 < 4611686018427387904)
    (hoff : s.offAt = 0) (hi : i < s.n) (hl : n ≤ 64) (v : Int) (hv : v = (i : Int)) :
    Calls Try.prog 40 #[.pointer (some ⟨d, 0, none⟩), .int .i64 v, .slice A n c] w fun e w' => e = .returned (.int .i64 0) ∧ IsDisk w' d k m (s.step.put i l) ∧ Fr [d, m] w w' := by
  subst hv
  refine (Write_c d k m s (i : Int) A n c l w h hb hA hs).mono ?_
  rw [DSt.write_nat hoff hi (by rw [hb.1]; exact hl)]
  exact fun e w' hp => hp
theorem Write_bad (d k m : Nat) (s : DSt) (i : Int) (A : Option Addr) (n c : Nat) (l : List UInt8) (w : World) (h : IsDisk w d k m s) (hb : RB w A n l) (hA : n ≠ 0 → ∀ a, A = some a → a.block ≠ d ∧ a.block ≠ m) (hs : s.steps + 1 < 4611686018427387904)
    (hoff : s.offAt = 0) (hi : i < 0 ∨ (s.n : Int) ≤ i ∨ 64 < n) :
    Calls Try.prog 40 #[.pointer (some ⟨d, 0, none⟩), .int .i64 i, .slice A n c] w fun e w' => e = .returned (.int .i64 130) ∧ IsDisk w' d k m s.step ∧ Fr [d, m] w w' := by
  refine (Write_c d k m s i A n c l w h hb hA hs).mono ?_
  rw [DSt.write_bad hoff (by rw [hb.1]; exact hi)]
  exact fun e w' hp => hp
theorem Flush_ok (d k m : Nat) (s : DSt) (w : World) (h : IsDisk w d k m s) (hs : s.steps + 1 < 4611686018427387904) (hoff : s.offAt = 0) :
    Calls Try.prog 42 #[.pointer (some ⟨d, 0, none⟩)] w fun e w' => e = .returned (.int .i64 0) ∧ IsDisk w' d k m s.step.clean ∧ Fr [d, k, m] w w' := by
  refine (Flush_c d k m s w h hs).mono ?_
  rw [DSt.flush_ok hoff]
  exact fun e w' hp => hp
/-- Bytes copied over the head of one row of many. -/
theorem copy_rows {w : World} {b N : Nat} {R : Nat → List UInt8} (hr : ∀ k, k < N → w.rangeAt b (k * 64) ((R k).map encB)) (hR : ∀ k, (R k).length = 64) (l : List UInt8) (hl : l.length ≤ 64) (i : Nat) (hi : i < N) :
    ∀ k, k < N → (w.setCells b (i * 64) (l.map encB)).rangeAt b (k * 64) ((if k = i then l ++ (R i).drop l.length else R k).map encB) := by
  intro k hk
  by_cases hki : k = i
  · subst hki
    rw [if_pos rfl]
    exact range_head (hr k hk) (by rw [hR]; exact hl)
  · rw [if_neg hki]
    exact World.rangeAt_setCells_apart (hr k hk) _ _ _ (by right; rw [List.length_map, List.length_map, hR]; omega)
/-- A frame that leaves out blocks that are new. -/
theorem Fr.past {S : List Nat} {a b c : World} (h : Fr [] a b) (k : Fr S b c) (hs : ∀ x ∈ S, a.heap.size ≤ x) : Fr [] a c := h.trans k (fun x hx => .inr (hs x hx))
theorem IsDisk.away {w w' : World} {d k m : Nat} {s : DSt} (h : IsDisk w d k m s) {S : List Nat} (hf : Fr S w w') (hs : d ∉ S ∧ k ∉ S ∧ m ∉ S) : IsDisk w' d k m s := h.kept hf hs.1 hs.2.1 hs.2.2
end Go.Proofs.Ytiialjncdhhceaa
