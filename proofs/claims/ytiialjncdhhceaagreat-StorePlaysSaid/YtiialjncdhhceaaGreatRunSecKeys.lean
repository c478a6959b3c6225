/- What follows is 3 texts, one behind the other: SecFlush, SecTorn, SecKeys. -/
import Derived.Test.YtiialjncdhhceaaGreatSecOps
import Derived.Lib.SlKeysI
import Derived.Maps.OwnSet
import Derived.Maps.Range
/- What Flush does to a disk. -/
namespace Go.Proofs.YtiialjncdhhceaaGreat
open Go.RowKit
set_option linter.unusedVariables false
set_option linter.unusedSimpArgs false

def DSt.clean (s : DSt) : DSt := { s with kept := s.now, pend := fun _ => none }
def DSt.flush (s : DSt) : Int × DSt := if s.step.off then (131, s.step) else (0, s.step.clean)

/-- As far as the loop over what is pending has come. -/
def DSt.part (s : DSt) (left : Lit → Bool) (i : Nat) : List UInt8 := if left (.int .i64 (i : Int)) then s.kept i else s.now i

set_option maxHeartbeats 1000000 in
set_option maxRecDepth 100000 in
theorem Flush_c (d k m : Nat) (s : DSt) (w : World) (h : IsDisk w d k m s) (hs : s.steps + 1 < 4611686018427387904) :
    Calls Tryz.prog 46 #[.pointer (some ⟨d, 0, none⟩)] w fun e w' => e = .returned (.int .i64 s.flush.1) ∧ IsDisk w' d k m s.flush.2 ∧ Fr [d, k, m] w w' := by
  have hn := h.ok.n_le
  have c2 := h.c2
  have z2 := h.z 2
  have hd1 := h.step hs
  have hf1 : Fr [d, k, m] w (w.setCell ⟨d, 2, none⟩ (.int .i64 ((s.steps : Int) + 1))) := (Fr.refl _ w).setCell _ (.inl (by simp)) _
  unfold DSt.flush
  by_cases hoff : s.step.off
  · simp only [if_pos hoff]
    go_enter Tryz.func46, Tryz.ntmps46
    go_wp2_with (go_at_call 38; fail)
    generalize w.setCell ⟨d, 2, none⟩ (.int .i64 ((s.steps : Int) + 1)) = w1 at *
    refine (off_c d k m s.step _ hd1).mono ?_
    rintro e w2 ⟨rfl, rfl⟩
    rw [hoff]
    go_wp2
    go_ret
    exact ⟨rfl, hd1.fr (Fr.refl [] w1).drew, hf1.drew⟩
  · simp only [if_neg hoff]
    have hoff' : s.step.off = false := by simpa using hoff
    go_enter Tryz.func46, Tryz.ntmps46
    go_wp2_with (go_at_call 38; fail)
    generalize w.setCell ⟨d, 2, none⟩ (.int .i64 ((s.steps : Int) + 1)) = w1 at *
    refine (off_c d k m s.step _ hd1).mono ?_
    rintro e w2 ⟨rfl, rfl⟩
    rw [hoff']
    have hd2 : IsDisk w1.drew d k m s.step := hd1.fr (Fr.refl [] w1).drew
    have hf2 : Fr [d, k, m] w w1.drew := hf1.drew
    generalize w1.drew = w2 at *
    clear hd1 hf1 c2 z2
    have c1 := hd2.c1
    go_wp2_with (first | (with_reducible refine stop_rg rfl ?_))
    obtain ⟨cnt, hcnt, hmp⟩ := hd2.pend
    refine Stop.go (rg_sec rfl rfl hmp rfl ?_)
    intro D w3 hp hrg3 hf3 hs3
    have hd3 := hd2.fr hf3
    obtain ⟨hld, hlk, hlm⟩ := hd2.lts
    go_wp2_with (first | (with_reducible refine stop_rg rfl ?_))
    go_frame
    go_loopw [3, 4] (fun _ _ wr => ∃ (left : Lit → Bool) (c : Nat), wr.ranges Tryz.prog 3 secR m w2.heap.size cnt D left c ∧ (∀ i, i < s.n → wr.rangeAt k (i * 64) ((s.part left i).map encB)) ∧ wr.there k 0 (s.n * 64) ∧ wr.heap[d]? = some (.cells (dCells k m s.step) 65 (0, 0)) ∧ Fr [k] w2 wr) (fun _ _ wr => wr.rangeLeft m w2.heap.size)
    case atStart =>
      refine ⟨_, _, hrg3, fun i hi => ?_, hd3.there, hd3.blk, hf3.mono (by simp)⟩
      have hx := hd3.rows i hi
      have : s.part (Maps.has D) i = s.kept i := by
        unfold DSt.part
        rw [hp.has i (by have : s.step.n = s.n := rfl; omega)]
        unfold DSt.now
        show (if (s.pend i).isSome = true then _ else _) = _
        cases s.pend i <;> rfl
      rw [this]
      exact hx
    case round =>
      obtain ⟨left, c, hrg, hrow, hth, hblk, hfr⟩ := hrel
      go_wp2_with (first | (with_reducible refine stop_nx rfl ?_))
      refine Stop.go (nx_sec rfl _ rfl hp hrg rfl ?_ ?_)
      · intro hl0
        have hown : MapP wr m cnt s.pend := ⟨D, hrg.owns, hp⟩
        obtain ⟨w4, hclr, hmp4, hf4⟩ := hown.clear
        have e1 : wr.cell? ⟨d, 1, none⟩ = some (.map (some m)) := cell_of_row _ _ 1 _ _ _ hblk
        have hkm := hd2.km
        have hdm := hd2.dm
        have hdk := hd2.dk
        have hklt : k < wr.heap.size := Nat.lt_of_lt_of_le hlk hfr.size
        have hd4 : IsDisk w4 d k m s.step.clean := by
          refine ⟨⟨hd2.ok.n_le, fun i => hd2.ok.now_len i, fun i l h => by cases h⟩, (hf4.block d (Nat.lt_of_lt_of_le hld hfr.size) (by simp; omega)).trans hblk, fun i hi => ?_, there_fr hf4 hth hklt (by simp; omega), Nat.lt_of_lt_of_le hklt hf4.size, ⟨0, Nat.zero_le _, hmp4⟩, hdk, hdm, hkm, hd2.steps, hd2.offAt⟩
          have hx := hrow i hi
          have : s.part left i = s.now i := by unfold DSt.part; rw [hl0]; simp
          rw [this] at hx
          exact range_fr hf4 hx hklt (by simp; omega)
        go_wp2
        go_ret
        exact ⟨rfl, hd4, (hf2.trans hfr (by simp)).trans hf4 (by simp)⟩
      · intro i l w4 c' hi63 hpi hl hlk2 hrg4 hlt hf4 hen
        have hpl := h.ok.pend_len i l hpi
        go_wp2_with (first | (with_reducible refine stop_al rfl ?_) | (with_reducible refine stop_st rfl ?_) | (with_reducible refine stop_ld rfl ?_) | (with_reducible refine stop_nx rfl ?_))
        refine Stop.go (al_sec rfl rfl ?_)
        intro w5 hb5 hs5 hf5
        go_wp2_with (first | (with_reducible refine stop_al rfl ?_) | (with_reducible refine stop_st rfl ?_) | (with_reducible refine stop_ld rfl ?_) | (with_reducible refine stop_nx rfl ?_))
        have ht5 : w5.there w4.heap.size 0 64 := there_of_block hb5 (by rw [secA_size, zeros64_len]; omega)
        refine Stop.go (st_sec rfl rfl w4.heap.size 0 l hl rfl rfl ht5 ?_)
        intro w6 hw6 hr6 hf6
        clear hw6
        go_wp2_with (first | (with_reducible refine stop_al rfl ?_) | (with_reducible refine stop_st rfl ?_) | (with_reducible refine stop_ld rfl ?_) | (with_reducible refine stop_nx rfl ?_))
        -- what the round has left as it was
        have hk1 : k < wr.heap.size := Nat.lt_of_lt_of_le hlk hfr.size
        have hd1 : d < wr.heap.size := Nat.lt_of_lt_of_le hld hfr.size
        have hm1 : m < wr.heap.size := hrg.owns.lt
        have hr1 : w2.heap.size < wr.heap.size := hrg.lt
        have hF6 : Fr [w2.heap.size] wr w6 := (hf4.then hf5).trans hf6 (by intro x hx; right; simp at hx; subst hx; exact hf4.size)
        have hkr : k ≠ w2.heap.size := by omega
        have hkm := hd2.km
        have hdm := hd2.dm
        have hdk := hd2.dk
        have hrow6 : ∀ i, i < s.n → w6.rangeAt k (i * 64) ((s.part left i).map encB) := fun i hi => range_fr hF6 (hrow i hi) hk1 (by simp; omega)
        have hth6 : w6.there k 0 (s.n * 64) := there_fr hF6 hth hk1 (by simp; omega)
        have hblk6 : w6.heap[d]? = some (.cells (dCells k m s.step) 65 (0, 0)) := (hF6.block d hd1 (by simp; omega)).trans hblk
        have hrg6 : w6.ranges Tryz.prog 3 secR m w2.heap.size cnt D (fun z => left z && !z.sameKey (.int .i64 (i : Int))) c' :=
          ranges_fr (ranges_fr hrg4 hf5 (by simp) (by simp)) hf6 (by have := hf4.size; simp; omega) (by have := hf4.size; simp; omega)
        refine wp_region_text' (by kernel_rfl) (by kernel_rfl) ?_
        intro K hK
        have hrow7 : ∀ i, i < s.n → w6.drew.rangeAt k (i * 64) ((s.part left i).map encB) := hrow6
        have hth7 : w6.drew.there k 0 (s.n * 64) := hth6
        have hblk7 : w6.drew.heap[d]? = some (.cells (dCells k m s.step) 65 (0, 0)) := hblk6
        have hrg7 : w6.drew.ranges Tryz.prog 3 secR m w2.heap.size cnt D (fun z => left z && !z.sameKey (.int .i64 (i : Int))) c' := hrg6
        have hr7 : w6.drew.rangeAt w4.heap.size 0 (l.map encB) := hr6
        have hF7 : Fr [w2.heap.size] wr w6.drew := hF6.drew
        generalize w6.drew = w7 at *
        have e0 : w7.cell? ⟨d, 0, none⟩ = some (.slice (some ⟨k, 0, none⟩) s.n s.n) := cell_of_row _ _ 0 _ _ _ hblk7
        go_wp2_with (first | (with_reducible refine stop_al rfl ?_) | (with_reducible refine stop_st rfl ?_) | (with_reducible refine stop_ld rfl ?_) | (with_reducible refine stop_nx rfl ?_))
        refine Stop.go (ld_sec rfl rfl w4.heap.size 0 l hl rfl hr7 ?_)
        have hin := hpl.1
        go_wp2_with (first | (with_reducible refine stop_al rfl ?_) | (with_reducible refine stop_st rfl ?_) | (with_reducible refine stop_ld rfl ?_) | (with_reducible refine stop_nx rfl ?_))
        refine Stop.go (st_sec rfl rfl k (i * 64) l hl rfl rfl (there_sub hth7 (by omega)) ?_)
        intro w8 hw8 hr8 hf8
        have hth8 : w8.there k 0 (s.n * 64) := by rw [hw8]; exact World.there_setCells hth7 _ _ _
        have hrow8 : ∀ j, j < s.n → w8.rangeAt k (j * 64) ((s.part (fun z => left z && !z.sameKey (.int .i64 (i : Int))) j).map encB) := by
          intro j hj
          by_cases hji : j = i
          · subst hji
            have : s.part (fun z => left z && !z.sameKey (.int .i64 (j : Int))) j = l := by
              have hpi' : s.pend j = some l := hpi
              unfold DSt.part DSt.now
              rw [hpi']
              dsimp only
              have hself : (Lit.int .i64 (j : Int)).sameKey (.int .i64 (j : Int)) = true := WideAt.sameKey_self (secK.key (keyI j hi63))
              simp [hself]
            rw [this]
            exact hr8
          · have : s.part (fun z => left z && !z.sameKey (.int .i64 (i : Int))) j = s.part left j := by
              unfold DSt.part
              dsimp only
              have hne : (Lit.int .i64 (j : Int)).sameKey (.int .i64 (i : Int)) = false := Maps.sameKey_ne (fun h => hji (by injection h with _ h; omega))
              simp [hne]
            rw [this, hw8]
            have hpl2 : (s.part left j).length = 64 := by
              unfold DSt.part
              split
              · exact h.ok.kept_len j
              · exact h.ok.now_len j
            exact World.rangeAt_setCells_apart (hrow7 j hj) _ _ _ (by right; rw [List.length_map, List.length_map, hl, hpl2]; omega)
        clear hw8
        have hrg8 := ranges_fr hrg7 hf8 (by simp; omega) (by simp; omega)
        have hblk8 := (hf8.block d (Nat.lt_of_lt_of_le hd1 hF7.size) (by simp; omega)).trans hblk7
        have hfr8 : Fr [k] w2 w8 := (hfr.trans hF7 (by simp)).trans hf8 (by simp)
        go_wp2
        refine hK _ _ (by kernel_rfl) ?_
        go_wp2
        go_frame
        go_roundw
        case rel => exact ⟨_, c', hrg8, hrow8, hth8, hblk8, hfr8⟩
        case measure =>
          rw [hrg8.left_eq, hrg.left_eq]
          exact hlt
end Go.Proofs.YtiialjncdhhceaaGreat

/- What a crash leaves of a disk: plain laws, no program in sight. -/
namespace Go.Proofs.YtiialjncdhhceaaGreat
open Go.RowKit
set_option linter.unusedVariables false

def tornN (c : UInt8) : Nat := if c = 255 then 64 else c.toNat % 64
def torn (c : UInt8) (new old : List UInt8) : List UInt8 := new.take (tornN c) ++ old.drop (tornN c)
theorem tornN_le (c : UInt8) : tornN c ≤ 64 := by
  unfold tornN
  split
  · exact Nat.le_refl _
  · exact Nat.le_of_lt (Nat.mod_lt _ (by decide))
theorem torn_len (c : UInt8) {new old : List UInt8} (h1 : new.length = 64) (h2 : old.length = 64) : (torn c new old).length = 64 := by
  have := tornN_le c
  unfold torn
  rw [List.length_append, List.length_take, List.length_drop]
  omega
def DSt.isP (s : DSt) (i : Nat) : Bool := (s.pend i).isSome
/-- How many of what is pending lie ahead. -/
def DSt.rank (s : DSt) (i : Nat) : Nat := ((List.range i).filter s.isP).length
def DSt.tornAt (s : DSt) (ch : List UInt8) (i : Nat) : List UInt8 :=
  match s.pend i with
  | none => s.kept i
  | some l => torn (ch.getD (s.rank i) 0) l (s.kept i)
def DSt.crash (s : DSt) (ch : List UInt8) : DSt := { s with kept := s.tornAt ch, pend := fun _ => none, offAt := 0 }
theorem DOk.torn_len {s : DSt} (h : DOk s) (ch : List UInt8) (i : Nat) : (s.tornAt ch i).length = 64 := by
  unfold DSt.tornAt
  cases hp : s.pend i with
  | none => exact h.kept_len i
  | some l => exact Proofs.YtiialjncdhhceaaGreat.torn_len _ (h.pend_len i l hp).2 (h.kept_len i)

/-- The numbers of what is pending, rising. -/
def DSt.ks (s : DSt) : List Nat := (List.range s.n).filter s.isP
theorem DSt.mem_ks {s : DSt} (h : DOk s) (i : Nat) : i ∈ s.ks ↔ s.isP i = true := by
  unfold DSt.ks
  rw [List.mem_filter, List.mem_range]
  constructor
  · exact fun h => h.2
  · intro hp
    refine ⟨?_, hp⟩
    unfold DSt.isP at hp
    obtain ⟨l, hl⟩ := Option.isSome_iff_exists.1 hp
    exact (h.pend_len i l hl).1
theorem DSt.ks_sorted (s : DSt) : s.ks.Pairwise (· < ·) := List.Pairwise.filter _ List.pairwise_lt_range
theorem sorted_unique : ∀ (a b : List Nat), a.Pairwise (· < ·) → b.Pairwise (· < ·) → (∀ x, x ∈ a ↔ x ∈ b) → a = b := by
  intro a
  induction a with
  | nil =>
    intro b _ _ h
    cases b with
    | nil => rfl
    | cons y b => exact absurd ((h y).2 (by simp)) (by simp)
  | cons x a ih =>
    intro b ha hb h
    cases b with
    | nil => exact absurd ((h x).1 (by simp)) (by simp)
    | cons y b =>
      obtain ⟨h1, h2⟩ := List.pairwise_cons.1 ha
      obtain ⟨h3, h4⟩ := List.pairwise_cons.1 hb
      have hxy : x = y := by
        have e1 := (h x).1 (by simp)
        have e2 := (h y).2 (by simp)
        rw [List.mem_cons] at e1 e2
        rcases e1 with e1 | e1
        · exact e1
        · rcases e2 with e2 | e2
          · exact e2.symm
          · have := h3 x e1
            have := h1 y e2
            omega
      subst hxy
      rw [ih b h2 h4 (fun z => ?_)]
      have hz := h z
      rw [List.mem_cons, List.mem_cons] at hz
      constructor
      · intro hza
        have := h1 z hza
        rcases hz.1 (.inr hza) with e | e
        · omega
        · exact e
      · intro hzb
        have := h3 z hzb
        rcases hz.2 (.inr hzb) with e | e
        · omega
        · exact e

theorem rank_of (s : DSt) (q : Nat) (hq : q < s.ks.length) : s.rank s.ks[q] = q := by
  have hmem : s.ks[q] ∈ s.ks := List.getElem_mem hq
  have hi : s.ks[q] < s.n ∧ s.isP s.ks[q] = true := by
    have : s.ks[q] ∈ (List.range s.n).filter s.isP := hmem
    rw [List.mem_filter, List.mem_range] at this
    exact this
  generalize hx : s.ks[q] = i at *
  have hsplit : s.ks = (List.range i).filter s.isP ++ i :: ((List.range' (i + 1) (s.n - i - 1)).filter s.isP) := by
    unfold DSt.ks
    rw [List.range_eq_range', List.range_eq_range', show s.n = i + (1 + (s.n - i - 1)) by omega, ← List.range'_append_1, List.filter_append]
    congr 1
    rw [Nat.zero_add, Nat.add_comm 1, List.range'_succ, List.filter_cons, if_pos hi.2]
    congr 3
    omega
  have hnd : s.ks.Nodup := s.ks_sorted.imp (fun h => Nat.ne_of_lt h)
  have hr : s.rank i < s.ks.length := by
    rw [hsplit, List.length_append, List.length_cons]
    unfold DSt.rank
    omega
  have hget : s.ks[s.rank i] = i := by
    have : s.ks[s.rank i]? = some i := by
      rw [hsplit]
      unfold DSt.rank
      rw [List.getElem?_append_right (Nat.le_refl _)]
      simp
    rw [List.getElem?_eq_getElem hr] at this
    injection this
  have hp := List.pairwise_iff_getElem.1 s.ks_sorted
  rcases Nat.lt_trichotomy (s.rank i) q with h | h | h
  · have := hp _ _ hr hq h
    omega
  · exact h
  · have := hp _ _ hq hr h
    omega
end Go.Proofs.YtiialjncdhhceaaGreat

/- The numbers of what is pending, as slices.Sorted(maps.Keys(..)) tells them. No walk. -/
namespace Go.Proofs.YtiialjncdhhceaaGreat
open Go.RowKit
open Go.Maps (Keyed has IsMap)
open Go.WideShapes
set_option linter.unusedVariables false

theorem ks_perm {w : World} {m cnt : Nat} {D : DataW Unit} {s : DSt} (hown : w.ownsMap Tryz.prog 3 secR m cnt D) (hp : PendOf D s.pend) (hok : DOk s) : (s.ks.map fun i : Nat => (i : Int)).Perm (intKeys D) := by
  obtain ⟨es, rfl, hpw, hkey⟩ := hown.entries secK
  have hlt : ∀ i, i ∈ s.ks → i < 9223372036854775808 := fun i hi => by
    have h1 := (DSt.mem_ks hok i).1 hi
    unfold DSt.isP at h1
    obtain ⟨l, hl⟩ := Option.isSome_iff_exists.1 h1
    have := (hok.pend_len i l hl).1
    have := hok.n_le
    omega
  have hall : ∀ p ∈ es, ∃ x, p.1 = .int .i64 x := by
    intro p hp'
    have hh : has (.map es) p.1 = true := by
      rw [Maps.has_eq, List.any_eq_true]
      exact ⟨p, hp', WideAt.sameKey_self (hkey p hp')⟩
    obtain ⟨i, _, hi⟩ := hp.only p.1 hh
    exact ⟨_, hi⟩
  refine perm_intKeys hpw hall ?_ ?_
  · exact List.pairwise_map.2 (s.ks_sorted.imp (fun h => by omega))
  · intro x
    rw [List.mem_map]
    constructor
    · rintro ⟨i, hi, rfl⟩
      rw [hp.has i (hlt i hi)]
      exact (DSt.mem_ks hok i).1 hi
    · intro hx
      obtain ⟨i, hi, he⟩ := hp.only _ hx
      injection he with _ he
      subst he
      rw [hp.has i hi] at hx
      exact ⟨i, (DSt.mem_ks hok i).2 hx, rfl⟩

theorem sorted_ks {w : World} {m cnt : Nat} {D : DataW Unit} {s : DSt} (hown : w.ownsMap Tryz.prog 3 secR m cnt D) (hp : PendOf D s.pend) (hok : DOk s) {ss : List Int} (hperm : ss.Perm (intKeys D)) : ss.mergeSort (fun x y => decide (x ≤ y)) = s.ks.map fun i : Nat => (i : Int) := by
  have h1 := ks_perm hown hp hok
  rw [mergeSort_of_perm_i (hperm.trans h1.symm)]
  refine List.mergeSort_of_pairwise ?_
  exact List.pairwise_map.2 (s.ks_sorted.imp (fun h => by simp; omega))
theorem size_ks {w : World} {m cnt : Nat} {D : DataW Unit} {s : DSt} (hown : w.ownsMap Tryz.prog 3 secR m cnt D) (hp : PendOf D s.pend) (hok : DOk s) : Maps.size D = s.ks.length := by
  have h1 := (ks_perm hown hp hok).length_eq
  rw [List.length_map] at h1
  rw [h1]
  obtain ⟨es, rfl⟩ := hp.isMap
  simp [intKeys, Maps.size]
theorem ks_len (s : DSt) : s.ks.length ≤ s.n := by
  have := List.length_filter_le s.isP (List.range s.n)
  rw [List.length_range] at this
  exact this
end Go.Proofs.YtiialjncdhhceaaGreat
