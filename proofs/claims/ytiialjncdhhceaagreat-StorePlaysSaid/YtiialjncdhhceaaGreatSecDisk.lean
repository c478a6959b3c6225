/- The disk of sectors: its state, where it lies, what New, Len, Steps, off, now tell. -/
import Derived.Test.YtiialjncdhhceaaGreatSecBase
import Derived.Test.YtiialjncdhhceaaGreatTextS
import Derived.Deep.QuietTactic
import Derived.BigQuiet
namespace Go.Proofs.YtiialjncdhhceaaGreat
open Go.RowKit
open Go.Maps (Keyed has IsMap)
set_option linter.unusedVariables false
set_option linter.unusedSimpArgs false

structure DSt where
  n : Nat
  kept : Nat → List UInt8
  pend : Nat → Option (List UInt8)
  steps : Nat
  offAt : Nat

structure DOk (s : DSt) : Prop where
  n_le : s.n ≤ 1000
  kept_len : ∀ i, (s.kept i).length = 64
  pend_len : ∀ i l, s.pend i = some l → i < s.n ∧ l.length = 64

def DSt.off (s : DSt) : Bool := decide (0 < s.offAt ∧ s.offAt ≤ s.steps)
def DSt.now (s : DSt) (i : Nat) : List UInt8 := (s.pend i).getD (s.kept i)
theorem DOk.now_len {s : DSt} (h : DOk s) (i : Nat) : (s.now i).length = 64 := by
  unfold DSt.now
  cases hp : s.pend i with
  | none => exact h.kept_len i
  | some l => exact (h.pend_len i l hp).2
def DSt.new (n : Nat) : DSt := ⟨n, fun _ => zeros64, fun _ => none, 0, 0⟩
theorem DOk.new {n : Nat} (h : n ≤ 1000) : DOk (DSt.new n) := ⟨h, fun _ => zeros64_len, fun i l h => by cases h⟩

/-- The cells of the disk's own block. -/
def dCells (k m : Nat) (s : DSt) : Array Value := #[.slice (some ⟨k, 0, none⟩) s.n s.n, .map (some m), .int .i64 (s.steps : Int), .int .i64 (s.offAt : Int)]

/-- A disk of state s lies in the blocks d, k, m. -/
structure IsDisk (w : World) (d k m : Nat) (s : DSt) : Prop where
  ok : DOk s
  blk : w.heap[d]? = some (.cells (dCells k m s) 65 (0, 0))
  rows : ∀ i, i < s.n → w.rangeAt k (i * 64) ((s.kept i).map encB)
  there : w.there k 0 (s.n * 64)
  klt : k < w.heap.size
  pend : ∃ cnt, cnt ≤ s.steps ∧ MapP w m cnt s.pend
  dk : d ≠ k
  dm : d ≠ m
  km : k ≠ m
  steps : s.steps < 4611686018427387904
  offAt : s.offAt < 9223372036854775808

theorem cell_fr {w w' : World} {S : List Nat} (hf : Fr S w w') {b : Nat} (hb : b < w.heap.size) (hn : b ∉ S) (o : Nat) : w'.cell? ⟨b, o, none⟩ = w.cell? ⟨b, o, none⟩ := World.cell?_of_block (hf.block b hb hn)
theorem frozen_fr {w w' : World} {S : List Nat} (hf : Fr S w w') {b : Nat} (hb : b < w.heap.size) (hn : b ∉ S) (o : Nat) : w'.frozen? ⟨b, o, none⟩ = w.frozen? ⟨b, o, none⟩ := by
  unfold World.frozen?
  rw [hf.block b hb hn]
theorem range_fr {w w' : World} {S : List Nat} (hf : Fr S w w') {b o : Nat} {cs : List Value} (h : w.rangeAt b o cs) (hb : b < w.heap.size) (hn : b ∉ S) : w'.rangeAt b o cs := fun j v hv => by
  rw [cell_fr hf hb hn]
  exact h j v hv
theorem there_fr {w w' : World} {S : List Nat} (hf : Fr S w w') {b o n : Nat} (h : w.there b o n) (hb : b < w.heap.size) (hn : b ∉ S) : w'.there b o n := fun j hj => by
  rw [cell_fr hf hb hn, frozen_fr hf hb hn]
  exact h j hj

theorem IsDisk.kept {w w' : World} {d k m : Nat} {s : DSt} (h : IsDisk w d k m s) {S : List Nat} (hf : Fr S w w') (h1 : d ∉ S) (h2 : k ∉ S) (h3 : m ∉ S) : IsDisk w' d k m s where
  ok := h.ok
  blk := (hf.block d (Array.getElem?_eq_some_iff.1 h.blk).1 h1).trans h.blk
  rows := fun i hi => range_fr hf (h.rows i hi) h.klt h2
  there := there_fr hf h.there h.klt h2
  klt := Nat.lt_of_lt_of_le h.klt hf.size
  pend := by
    obtain ⟨cnt, hc, hp⟩ := h.pend
    exact ⟨cnt, hc, hp.kept hf h3⟩
  dk := h.dk
  dm := h.dm
  km := h.km
  steps := h.steps
  offAt := h.offAt
theorem IsDisk.fr {w w' : World} {d k m : Nat} {s : DSt} (h : IsDisk w d k m s) (hf : Fr [] w w') : IsDisk w' d k m s := h.kept hf (by simp) (by simp) (by simp)
theorem IsDisk.lts {w : World} {d k m : Nat} {s : DSt} (h : IsDisk w d k m s) : d < w.heap.size ∧ k < w.heap.size ∧ m < w.heap.size := by
  obtain ⟨cnt, _, hp⟩ := h.pend
  exact ⟨(Array.getElem?_eq_some_iff.1 h.blk).1, h.klt, hp.lt⟩

theorem IsDisk.c0 {w : World} {d k m : Nat} {s : DSt} (h : IsDisk w d k m s) : w.cell? ⟨d, 0, none⟩ = some (.slice (some ⟨k, 0, none⟩) s.n s.n) := cell_of_row _ _ 0 _ _ _ h.blk
theorem IsDisk.c1 {w : World} {d k m : Nat} {s : DSt} (h : IsDisk w d k m s) : w.cell? ⟨d, 1, none⟩ = some (.map (some m)) := cell_of_row _ _ 1 _ _ _ h.blk
theorem IsDisk.c2 {w : World} {d k m : Nat} {s : DSt} (h : IsDisk w d k m s) : w.cell? ⟨d, 2, none⟩ = some (.int .i64 (s.steps : Int)) := cell_of_row _ _ 2 _ _ _ h.blk
theorem IsDisk.c3 {w : World} {d k m : Nat} {s : DSt} (h : IsDisk w d k m s) : w.cell? ⟨d, 3, none⟩ = some (.int .i64 (s.offAt : Int)) := cell_of_row _ _ 3 _ _ _ h.blk
theorem IsDisk.z {w : World} {d k m : Nat} {s : DSt} (h : IsDisk w d k m s) (j : Nat) : w.frozen? ⟨d, j, none⟩ = false := frozen_of_row _ _ j _ _ h.blk

theorem Len_c (d k m : Nat) (s : DSt) (w : World) (h : IsDisk w d k m s) :
    Calls Tryz.prog 26 #[.pointer (some ⟨d, 0, none⟩)] w fun e w' => e = .returned (.int .i64 (s.n : Int)) ∧ w = w' := by
  have h0 := h.c0
  go_enter Tryz.func26, Tryz.ntmps26
  go_wp2
  go_ret
  exact ⟨rfl, rfl⟩

set_option maxRecDepth 100000 in
theorem off_c (d k m : Nat) (s : DSt) (w : World) (h : IsDisk w d k m s) :
    Calls Tryz.prog 38 #[.pointer (some ⟨d, 0, none⟩)] w fun e w' => e = .returned (.bool s.off) ∧ w' = w.drew := by
  have h2 := h.c2
  have h3 := h.c3
  go_enter Tryz.func38, Tryz.ntmps38
  go_wp2
  refine wp_region_text' (by kernel_rfl) (by kernel_rfl) ?_
  intro K hK
  by_cases hz : 0 < s.offAt
  · have hz2 : (0 : Int) < s.offAt := by omega
    go_wp2
    refine hK _ _ (by kernel_rfl) ?_
    go_wp2
    go_ret
    exact ⟨by simp [DSt.off, hz], rfl⟩
  · have hz2 : ¬ (0 : Int) < s.offAt := by omega
    go_wp2
    refine hK _ _ (by kernel_rfl) ?_
    go_wp2
    go_ret
    exact ⟨by simp [DSt.off, hz], rfl⟩

set_option maxRecDepth 100000 in
theorem New_c (x : Int) (n : Nat) (hn : min (max x 0) 1000 = (n : Int)) (w : World) :
    Calls Tryz.prog 12 #[.int .i64 x] w fun e w' => ∃ d k m, e = .returned (.pointer (some ⟨d, 0, none⟩)) ∧ IsDisk w' d k m (DSt.new n) ∧ (w.heap.size ≤ d ∧ w.heap.size ≤ k ∧ w.heap.size ≤ m) ∧ Fr [] w w' := by
  have hn1 : n ≤ 1000 := by omega
  obtain ⟨w1, hmk, hr1, ht1, hs1, hf1⟩ := make_sec w n hn1
  have hmm := @run_makeMap Tryz.prog
  have fin : ∀ w', w' = (w1.alloc (.map #[] 0)).alloc (.cells (dCells w.heap.size (w.heap.size + 1) (DSt.new n)) 65) → IsDisk w' (w.heap.size + 2) w.heap.size (w.heap.size + 1) (DSt.new n) ∧ Fr [] w w' := by
    rintro w' rfl
    have hF2 : Fr [] w1 (w1.alloc (.map #[] 0)) := (Fr.refl [] w1).alloc _
    have hF3 : Fr [] (w1.alloc (.map #[] 0)) ((w1.alloc (.map #[] 0)).alloc (.cells (dCells w.heap.size (w.heap.size + 1) (DSt.new n)) 65)) := (Fr.refl [] _).alloc _
    have hsz : (w1.alloc (.map #[] 0)).heap.size = w.heap.size + 2 := by simp [hs1]
    refine ⟨⟨DOk.new hn1, ?_, ?_, ?_, ?_, ⟨0, Nat.le_refl _, ?_⟩, by omega, by omega, by omega, by simp [DSt.new], by simp [DSt.new]⟩, (hf1.then hF2).then hF3⟩
    · have := (MapKept.heap_alloc (w1.alloc (.map #[] 0)) (.cells (dCells w.heap.size (w.heap.size + 1) (DSt.new n)) 65)).1
      rw [hsz] at this
      exact this
    · intro i hi
      exact range_fr (hF2.then hF3) (hr1 i hi) (by omega) (by simp)
    · exact there_fr (hF2.then hF3) ht1 (by omega) (by simp)
    · simp [hs1]
      omega
    · have := MapP.made w1
      rw [hs1] at this
      exact this.kept hF3 (by simp)
  have fin' := hid fin
  clear fin
  rcases (show (x < 0 ∧ n = 0) ∨ (0 ≤ x ∧ x ≤ 1000 ∧ x = n) ∨ (1000 < x ∧ n = 1000) by omega) with ⟨hx, rfl⟩ | ⟨hx, hx2, rfl⟩ | ⟨hx, rfl⟩
  all_goals
    clear hn
    go_enter Tryz.func12, Tryz.ntmps12
    go_wp2
    go_ret
    exact ⟨_, _, _, rfl, (fin'.out _ rfl).1, by omega, (fin'.out _ rfl).2⟩

set_option maxRecDepth 100000 in
theorem now_c (d k m : Nat) (s : DSt) (i : Nat) (w : World) (h : IsDisk w d k m s) (hi : i < s.n) :
    Calls Tryz.prog 72 #[.pointer (some ⟨d, 0, none⟩), .int .i64 (i : Int)] w fun e w' => e = .returned (secV (s.now i)) ∧ Fr [] w w' := by
  have hn := h.ok.n_le
  go_enter Tryz.func72, Tryz.ntmps72
  go_wp2_with (first | (with_reducible refine stop_al rfl ?_) | (with_reducible refine stop_st rfl ?_) | (with_reducible refine stop_ld rfl ?_))
  refine Stop.go (al_sec rfl rfl ?_)
  intro w1 hb1 hs1 hf1
  have h1 := h.fr hf1
  have c0 := h1.c0
  have c1 := h1.c1
  obtain ⟨cnt, hcnt, hmp⟩ := h1.pend
  have hlook := hmp.look true (fun i l hl => (h.ok.pend_len i l hl).2) i (by omega)
  go_wp2_with (first | (with_reducible refine stop_al rfl ?_) | (with_reducible refine stop_st rfl ?_) | (with_reducible refine stop_ld rfl ?_))
  refine Stop.go (al_sec rfl rfl ?_)
  intro w2 hb2 hs2 hf2
  rw [hs1] at hb2 hs2
  go_wp2_with (first | (with_reducible refine stop_al rfl ?_) | (with_reducible refine stop_st rfl ?_) | (with_reducible refine stop_ld rfl ?_))
  have hl0 : ((s.pend i).getD zeros64).length = 64 := by
    cases hp : s.pend i with
    | none => exact zeros64_len
    | some l => exact (h.ok.pend_len i l hp).2
  refine Stop.go (st_sec rfl rfl (w.heap.size + 1) 0 ((s.pend i).getD zeros64) hl0 rfl rfl (there_of_block hb2 (by rw [secA_size, zeros64_len]; omega)) ?_)
  intro w3 hw3 hr3 hf3
  have hF3 : Fr [] w w3 := (hf1.then hf2).trans hf3 (by intro x hx; right; simp at hx; omega)
  have ht3 : w3.there w.heap.size 0 64 := by
    rw [hw3]
    exact World.there_setCells (there_fr hf2 (there_of_block hb1 (by rw [secA_size, zeros64_len]; omega)) (by omega) (by simp)) _ _ _
  clear hw3 hlook hmp
  cases hp : s.pend i with
  | some l =>
    have hl := (h.ok.pend_len i l hp).2
    rw [hp] at hr3
    go_wp2_with (first | (with_reducible refine stop_al rfl ?_) | (with_reducible refine stop_st rfl ?_) | (with_reducible refine stop_ld rfl ?_))
    refine Stop.go (ld_sec rfl rfl (w.heap.size + 1) 0 l hl rfl hr3 ?_)
    go_wp2_with (first | (with_reducible refine stop_al rfl ?_) | (with_reducible refine stop_st rfl ?_) | (with_reducible refine stop_ld rfl ?_))
    refine Stop.go (st_sec rfl rfl w.heap.size 0 l hl rfl rfl ht3 ?_)
    intro w4 hw4 hr4 hf4
    clear hw4
    go_wp2_with (first | (with_reducible refine stop_al rfl ?_) | (with_reducible refine stop_st rfl ?_) | (with_reducible refine stop_ld rfl ?_))
    refine ret_sec rfl w.heap.size l hl rfl hr4 rfl ⟨by simp [DSt.now, hp], hF3.trans hf4 (by simp)⟩
  | none =>
    have hd3 := h.fr hF3
    have c0 := hd3.c0
    go_wp2_with (first | (with_reducible refine stop_al rfl ?_) | (with_reducible refine stop_st rfl ?_) | (with_reducible refine stop_ld rfl ?_))
    have hr := hd3.rows i hi
    refine Stop.go (ld_sec rfl rfl k (i * 64) (s.kept i) (h.ok.kept_len i) ?_ hr ?_)
    · rfl
    go_wp2_with (first | (with_reducible refine stop_al rfl ?_) | (with_reducible refine stop_st rfl ?_) | (with_reducible refine stop_ld rfl ?_))
    refine Stop.go (st_sec rfl rfl w.heap.size 0 (s.kept i) (h.ok.kept_len i) rfl rfl ht3 ?_)
    intro w4 hw4 hr4 hf4
    clear hw4
    go_wp2_with (first | (with_reducible refine stop_al rfl ?_) | (with_reducible refine stop_st rfl ?_) | (with_reducible refine stop_ld rfl ?_))
    refine ret_sec rfl w.heap.size (s.kept i) (h.ok.kept_len i) rfl hr4 rfl ⟨by simp [DSt.now, hp], hF3.trans hf4 (by simp)⟩
end Go.Proofs.YtiialjncdhhceaaGreat
