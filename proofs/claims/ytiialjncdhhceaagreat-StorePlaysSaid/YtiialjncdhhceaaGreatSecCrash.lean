/- What Crash does to a disk. -/
import Derived.Test.YtiialjncdhhceaaGreatRunSecKeysC
namespace Go.Proofs.YtiialjncdhhceaaGreat
open Go.RowKit
set_option linter.unusedVariables false
set_option linter.unusedSimpArgs false

/-- As far as the loop over what is pending has come. -/
def DSt.tornPart (s : DSt) (ch : List UInt8) (q : Nat) (i : Nat) : List UInt8 := if i ∈ s.ks.take q then s.tornAt ch i else s.kept i
theorem DOk.part_len {s : DSt} (h : DOk s) (ch : List UInt8) (q i : Nat) : (s.tornPart ch q i).length = 64 := by
  unfold DSt.tornPart
  split
  · exact h.torn_len ch i
  · exact h.kept_len i

theorem part_step {s : DSt} (h : DOk s) (ch : List UInt8) {q : Nat} (hq : q < s.ks.length) {i : Nat} (hi : s.ks[q] = i) {l : List UInt8} (hl : s.pend i = some l) :
    s.tornPart ch q i = s.kept i ∧ s.tornPart ch (q + 1) i = torn (ch.getD q 0) l (s.kept i) ∧ ∀ j, j ≠ i → s.tornPart ch (q + 1) j = s.tornPart ch q j := by
  have hp := List.pairwise_iff_getElem.1 s.ks_sorted
  have htk : s.ks.take (q + 1) = s.ks.take q ++ [i] := by rw [← hi]; exact List.take_succ_eq_append_getElem hq
  have hni : i ∉ s.ks.take q := by
    intro hm
    obtain ⟨p, hpl, hpe⟩ := List.getElem_of_mem hm
    rw [List.length_take] at hpl
    rw [List.getElem_take] at hpe
    have := hp p q (by omega) hq (by omega)
    omega
  have hrank : s.rank i = q := by rw [← hi]; exact rank_of s q hq
  refine ⟨?_, ?_, fun j hj => ?_⟩
  · unfold DSt.tornPart
    rw [if_neg hni]
  · unfold DSt.tornPart
    rw [if_pos (by rw [htk]; simp)]
    unfold DSt.tornAt
    rw [hl, hrank]
  · unfold DSt.tornPart
    rw [htk]
    simp [hj]

set_option maxHeartbeats 2000000 in
set_option maxRecDepth 100000 in
theorem Crash_c (d k m : Nat) (s : DSt) (B : Option Addr) (n c : Nat) (ch : List UInt8) (w : World) (h : IsDisk w d k m s) (hb : RB w B n ch) (hnc : n ≤ c) (hB : n ≠ 0 → ∀ a, B = some a → a.block ≠ d ∧ a.block ≠ k ∧ a.block ≠ m) :
    Calls Tryz.prog 16 #[.pointer (some ⟨d, 0, none⟩), .slice B n c] w fun e w' => e = .returned (.tuple #[]) ∧ IsDisk w' d k m (s.crash ch) ∧ Fr [d, k, m] w w' := by
  have hn := h.ok.n_le
  have z3 := h.z 3
  have c3 := h.c3
  have hd1 : IsDisk (w.setCell ⟨d, 3, none⟩ (.int .i64 0)) d k m { s with offAt := 0 } := h.setOff 0 (by omega)
  have hf1 : Fr [d, k, m] w (w.setCell ⟨d, 3, none⟩ (.int .i64 0)) := (Fr.refl _ w).setCell _ (.inl (by simp)) _
  have e1 := hd1.c1
  go_enter Tryz.func16, Tryz.ntmps16
  go_wp2_with fail
  refine (Keys_c (some m) _).mono ?_
  rintro e w2 ⟨rfl, rfl⟩
  generalize w.setCell ⟨d, 3, none⟩ (.int .i64 0) = w1 at *
  have hF2 : Fr [] w1 (w1.alloc (.cells #[.map (some m)] 63)) := (Fr.refl [] w1).alloc _
  have hg2 : w1.heap.size < (w1.alloc (.cells #[.map (some m)] 63)).heap.size := by simp
  have hc2 : (w1.alloc (.cells #[.map (some m)] 63)).cell? ⟨w1.heap.size, 0, none⟩ = some (.map (some m)) := cell_of_row _ _ 0 _ _ _ (MapKept.heap_alloc _ _).1
  generalize w1.alloc (.cells #[.map (some m)] 63) = w2 at *
  have hd2 := hd1.fr hF2
  obtain ⟨cnt, hcnt, D, hown, hp0⟩ := hd2.pend
  have hp : PendOf D s.pend := hp0
  have hsz : Maps.size D ≤ 1000 := by rw [size_ks hown hp h.ok]; exact Nat.le_trans (ks_len s) hn
  go_wp2_with fail
  refine (Sorted_c w1.heap.size m cnt D w2 hg2 hc2 hown hsz).mono ?_
  rintro e w3 ⟨v, ss, rfl, hperm, hrow, hnil, hbel⟩
  have hks := sorted_ks hown hp h.ok hperm
  rw [hks] at hrow
  have hlen : ss.length = s.ks.length := by
    have := congrArg List.length hks
    rw [List.length_mergeSort, List.length_map] at this
    exact this
  rw [hlen] at hrow
  have hF3 := fr_of_below hbel
  have hd3 := hd2.fr hF3
  obtain ⟨G, cap, hv, hcap, hG⟩ : ∃ G cap, v = .slice G s.ks.length cap ∧ s.ks.length ≤ cap ∧ ∀ q (hq : q < s.ks.length), ∃ g, G = some ⟨g, 0, none⟩ ∧ w2.heap.size ≤ g ∧ w3.cell? ⟨g, q, none⟩ = some (.int .i64 ((s.ks[q] : Nat) : Int)) := by
    rcases hrow.2 with ⟨rfl, h0⟩ | ⟨g, cap, cur, rfl, hbase, hgb, r1, r2, r3, r4⟩
    · exact ⟨none, 0, by rw [h0], by omega, fun q hq => by omega⟩
    · refine ⟨_, _, rfl, r1, fun q hq => ⟨g, rfl, hbase, ?_⟩⟩
      rw [World.ownsRow.cellAt hrow q (by simpa using hq)]
      simp [hq]
  subst hv
  have hmp3 : MapP w3 m cnt s.pend := MapP.kept ⟨D, hown, hp⟩ hF3 (by simp)
  clear hrow hnil hbel hks hperm hown hp hp0
  have hG' := hid hG
  clear hG
  have hb3 : RB w3 B n ch := (hb.kept' hf1 (fun hn0 a ha => by have := hB hn0 a ha; simp; omega)).kept (hF2.then hF3) (by simp)
  have hlts := hd2.lts
  have hkm := h.km
  have hdm := h.dm
  have hdk := h.dk
  have hbm := hb.2.1
  go_wp2_with fail
  go_loopw [1, 19] (fun cv iv wr => ∃ (q n' c' : Nat) (B' : Option Addr), q ≤ s.ks.length ∧ iv = .int .i64 q ∧ cv = .slice B' n' c' ∧ n' ≤ c' ∧ RB wr B' n' (ch.drop q) ∧ Lies B B' ∧
    (∀ i, i < s.n → wr.rangeAt k (i * 64) ((s.tornPart ch q i).map encB)) ∧ wr.there k 0 (s.n * 64) ∧ wr.heap[d]? = some (.cells (dCells k m { s with offAt := 0 }) 65 (0, 0)) ∧ MapP wr m cnt s.pend ∧ Fr [k] w3 wr) (fun _ i _ => s.ks.length - (Lib.intOf i).toNat)
  case atStart =>
    refine ⟨0, n, c, B, Nat.zero_le _, rfl, rfl, hnc, by simpa using hb3, Lies.refl _, fun i hi => ?_, hd3.there, hd3.blk, hmp3, Fr.refl _ _⟩
    have hx := hd3.rows i hi
    have : s.tornPart ch 0 i = s.kept i := by simp [DSt.tornPart]
    rw [this]
    exact hx
  case round =>
    obtain ⟨q, n', c', B', hq, rfl, rfl, hnc', hbr, hlies, hrow, hth, hblk, hmp, hfr⟩ := hrel
    by_cases hlt : q < s.ks.length
    · obtain ⟨g, hg1, hg2, hg3⟩ := hG'.out q hlt
      subst hg1
      have hgk : g ≠ k := by omega
      have hgc := hfr.cell hg3 (by simp; omega)
      obtain ⟨i, hi⟩ : ∃ i, s.ks[q] = i := ⟨_, rfl⟩
      rw [hi] at hgc
      have hmem : i ∈ s.ks := by rw [← hi]; exact List.getElem_mem hlt
      have hisP := (DSt.mem_ks h.ok i).1 hmem
      obtain ⟨l, hl⟩ := Option.isSome_iff_exists.1 (show (s.pend i).isSome = true from hisP)
      have hpl := h.ok.pend_len i l hl
      have hrank : s.rank i = q := by rw [← hi]; exact rank_of s q hlt
      have hnd : n' = ch.length - q := by have := hbr.1; rw [List.length_drop] at this; exact this.symm
      by_cases hch : q < ch.length
      · have hcut := hbr.cut 1 (by omega) hnc'
        rw [List.drop_drop, hnd] at hcut
        rcases hbr.2.2 with h0 | ⟨b, off, rfl, hbc⟩
        · omega
        have hb0 : wr.cell? ⟨b, off, none⟩ = some (.int .u8 ((ch[q].toNat : Nat) : Int)) := by
          have := hbc 0 (by rw [List.length_drop]; omega)
          simpa using this
        go_wp2_with (first | (with_reducible refine stop_al rfl ?_) | (with_reducible refine stop_st rfl ?_) | (with_reducible refine stop_ld rfl ?_))
        refine wp_region_text' (by kernel_rfl) (by kernel_rfl) ?_
        intro K hK
        have hrow2 : ∀ i, i < s.n → wr.drew.rangeAt k (i * 64) ((s.tornPart ch q i).map encB) := hrow
        have hth2 : wr.drew.there k 0 (s.n * 64) := hth
        have hblk2 : wr.drew.heap[d]? = some (.cells (dCells k m { s with offAt := 0 }) 65 (0, 0)) := hblk
        have hmp2 : MapP wr.drew m cnt s.pend := hmp.kept (Fr.refl [] wr).drew (by simp)
        have hfr2 : Fr [k] w3 wr.drew := hfr.drew
        have hcut2 : RB wr.drew (cutA (some ⟨b, off, none⟩) 1 c') (ch.length - q - 1) (ch.drop (q + 1)) := hcut
        have hlies2 := hlies.trans (Lies.cut (some ⟨b, off, none⟩) 1 c')
        by_cases hc1 : c' = 1
        · rw [cutA, if_pos hc1] at hcut2 hlies2
          go_wp2
          refine hK _ _ (by kernel_rfl) ?_
          generalize wr.drew = wr2 at *
          have hx8 := (ch[q]).toNat_lt
          have f0 : wr2.cell? ⟨d, 0, none⟩ = some (.slice (some ⟨k, 0, none⟩) s.n s.n) := cell_of_row _ _ 0 _ _ _ hblk2
          have f1 : wr2.cell? ⟨d, 1, none⟩ = some (.map (some m)) := cell_of_row _ _ 1 _ _ _ hblk2
          have hlook := hmp2.look false (fun i l hl => (h.ok.pend_len i l hl).2) i (by omega)
          rw [hl] at hlook
          by_cases hx : ch[q] = 255
          · have hx2 : ((ch[q]).toNat : Int) = 255 := by rw [hx]; rfl
            go_wp2_with (first | (with_reducible refine stop_al rfl ?_) | (with_reducible refine stop_st rfl ?_) | (with_reducible refine stop_ld rfl ?_))
            refine Stop.go (al_sec rfl rfl ?_)
            intro w4 hb4 hs4 hf4
            go_wp2_with (first | (with_reducible refine stop_al rfl ?_) | (with_reducible refine stop_st rfl ?_) | (with_reducible refine stop_ld rfl ?_))
            have ht4 : w4.there wr2.heap.size 0 64 := there_of_block hb4 (by rw [secA_size, zeros64_len]; omega)
            refine Stop.go (st_sec rfl rfl wr2.heap.size 0 l hpl.2 rfl rfl ht4 ?_)
            intro w5 hw5 hr5 hf5
            clear hw5
            go_wp2_with (first | (with_reducible refine stop_al rfl ?_) | (with_reducible refine stop_st rfl ?_) | (with_reducible refine stop_ld rfl ?_))
            have hF5 : Fr [] wr2 w5 := hf4.trans hf5 (by intro x hx; right; simp at hx; subst hx; exact Nat.le_refl _)
            have hk2 : k < wr2.heap.size := Nat.lt_of_lt_of_le hlts.2.1 (Nat.le_trans hF3.size hfr2.size)
            have hd2' : d < wr2.heap.size := Nat.lt_of_lt_of_le hlts.1 (Nat.le_trans hF3.size hfr2.size)
            have hrow5 : ∀ i, i < s.n → w5.drew.rangeAt k (i * 64) ((s.tornPart ch q i).map encB) := fun i hi => range_fr hF5 (hrow2 i hi) hk2 (by simp)
            have hth5 : w5.drew.there k 0 (s.n * 64) := there_fr hF5 hth2 hk2 (by simp)
            have hblk5 : w5.drew.heap[d]? = some (.cells (dCells k m { s with offAt := 0 }) 65 (0, 0)) := (hF5.block d hd2' (by simp)).trans hblk2
            have hmp5 : MapP w5.drew m cnt s.pend := hmp2.kept hF5.drew (by simp)
            have hfr5 : Fr [k] w3 w5.drew := hfr2.then hF5.drew
            have hr5' : w5.drew.rangeAt wr2.heap.size 0 (l.map encB) := hr5
            have hcut5 := hcut2.kept hF5.drew (by simp)
            have hgr : k ≠ wr2.heap.size := by omega
            refine wp_region_text' (by kernel_rfl) (by kernel_rfl) ?_
            intro K2 hK2
            generalize w5.drew = w6 at *
            have g0 : w6.cell? ⟨d, 0, none⟩ = some (.slice (some ⟨k, 0, none⟩) s.n s.n) := cell_of_row _ _ 0 _ _ _ hblk5
            have hin := hpl.1
            have hq1000 : q < 1000 := by have := ks_len s; omega
            have hrs : RB w6 (some ⟨wr2.heap.size, 0, none⟩) 64 (l.take 64) := by
              have := rb_of_range hr5' hpl.2 (by omega)
              exact this.take 64 (by omega)
            have hcp := copy_b k (i * 64) 64 64 (there_sub hth5 (by omega)) hrs (c := 64)
            have hlt64 : (l.take 64).length = 64 := by rw [List.length_take, hpl.2]; omega
            rw [List.take_of_length_le (by omega), Nat.min_self] at hcp
            have htorn : torn (ch[q]) l (s.kept i) = l.take 64 ++ (s.kept i).drop (l.take 64).length := by
              unfold torn
              rw [hlt64, show tornN (ch[q]) = 64 from by unfold tornN; rw [if_pos hx]]
            obtain ⟨p1, p2, p3⟩ := part_step h.ok ch hlt hi hl
            have hF7 : Fr [k] w6 (w6.setCells k (i * 64) ((l.take 64).map encB)) := fr_setCells (Fr.refl _ _) _ _ _ (.inl (by simp))
            have hth7 : (w6.setCells k (i * 64) ((l.take 64).map encB)).there k 0 (s.n * 64) := World.there_setCells hth5 _ _ _
            have hrow7 : ∀ j, j < s.n → (w6.setCells k (i * 64) ((l.take 64).map encB)).rangeAt k (j * 64) ((s.tornPart ch (q + 1) j).map encB) := by
              intro j hj
              by_cases hji : j = i
              · subst hji
                have hx1 := hrow5 j hj
                rw [p1] at hx1
                have := range_head (l := l.take 64) hx1 (by rw [hlt64, h.ok.kept_len]; omega)
                rw [p2, show ch.getD q 0 = ch[q] by simp [hch], htorn]
                exact this
              · rw [p3 j hji]
                exact World.rangeAt_setCells_apart (hrow5 j hj) _ _ _ (by right; rw [List.length_map, List.length_map, hlt64, h.ok.part_len]; omega)
            have hk6 : k < w6.heap.size := Nat.lt_of_lt_of_le hlts.2.1 (Nat.le_trans hF3.size hfr5.size)
            have hd6 : d < w6.heap.size := Nat.lt_of_lt_of_le hlts.1 (Nat.le_trans hF3.size hfr5.size)
            have hblk7 := (hF7.block d hd6 (by simp; omega)).trans hblk5
            have hmp7 := hmp5.kept hF7 (by simp; omega)
            have hcut7 := hcut5.kept' hF7 (by
              intro hn0 a ha
              obtain ⟨a0, ha0, hb0⟩ := hlies2 a ha
              have hq0 := hcut5.1
              rw [List.length_drop] at hq0
              have hb0' := hb.1
              have h2 := (hB (by omega) a0 ha0).2.1
              rw [hb0] at h2
              simpa using h2)
            have hfr7 := hfr5.trans hF7 (by simp)
            generalize w6.setCells k (i * 64) ((l.take 64).map encB) = w7 at *
            have hpin : (ch.length - q - 1 : Nat) = ch.length - (q + 1) := by omega
            clear hlook hx8 f0 f1 hrow2 hth2 hblk2 hmp2 hcut2 hrow5 hth5 hblk5 hmp5 hcut5 hr5 hr5' htorn p1 p2 p3 hb4 ht4
            go_wp2_with (first | (with_reducible refine stop_al rfl ?_) | (with_reducible refine stop_st rfl ?_) | (with_reducible refine stop_ld rfl ?_))
            refine hK2 _ _ (by kernel_rfl) ?_
            go_wp2
            try go_frame
            go_roundw
            case rel => exact ⟨q + 1, _, _, _, by omega, by rfl, rfl, by omega, hcut7, hlies2, hrow7, hth7, hblk7, hmp7, hfr7⟩
            case measure => simp [Lib.intOf]; omega
          · have hx2 : (((ch[q]).toNat : Int) == 255) = false := by
              rw [beq_eq_false_iff_ne]
              intro h
              exact hx (UInt8.toNat_inj.1 (by show (ch[q]).toNat = 255; omega))
            obtain ⟨N, hN, hN64, hN2⟩ : ∃ N : Nat, (((ch[q]).toNat : Nat) : Int) % 64 = (N : Int) ∧ N < 64 ∧ Hid (N = (ch[q]).toNat % 64) := ⟨(ch[q]).toNat % 64, by omega, by omega, hid rfl⟩
            have hNa : N ≤ 64 := by omega
            have hNb : (N : Int) ≤ 64 := by omega
            have hNc : (0 : Int) ≤ N := by omega
            go_wp2_with (first | (with_reducible refine stop_al rfl ?_) | (with_reducible refine stop_st rfl ?_) | (with_reducible refine stop_ld rfl ?_))
            refine Stop.go (al_sec rfl rfl ?_)
            intro w4 hb4 hs4 hf4
            go_wp2_with (first | (with_reducible refine stop_al rfl ?_) | (with_reducible refine stop_st rfl ?_) | (with_reducible refine stop_ld rfl ?_))
            have ht4 : w4.there wr2.heap.size 0 64 := there_of_block hb4 (by rw [secA_size, zeros64_len]; omega)
            refine Stop.go (st_sec rfl rfl wr2.heap.size 0 l hpl.2 rfl rfl ht4 ?_)
            intro w5 hw5 hr5 hf5
            clear hw5
            go_wp2_with (first | (with_reducible refine stop_al rfl ?_) | (with_reducible refine stop_st rfl ?_) | (with_reducible refine stop_ld rfl ?_))
            have hF5 : Fr [] wr2 w5 := hf4.trans hf5 (by intro x hx; right; simp at hx; subst hx; exact Nat.le_refl _)
            have hk2 : k < wr2.heap.size := Nat.lt_of_lt_of_le hlts.2.1 (Nat.le_trans hF3.size hfr2.size)
            have hd2' : d < wr2.heap.size := Nat.lt_of_lt_of_le hlts.1 (Nat.le_trans hF3.size hfr2.size)
            have hrow5 : ∀ i, i < s.n → w5.drew.rangeAt k (i * 64) ((s.tornPart ch q i).map encB) := fun i hi => range_fr hF5 (hrow2 i hi) hk2 (by simp)
            have hth5 : w5.drew.there k 0 (s.n * 64) := there_fr hF5 hth2 hk2 (by simp)
            have hblk5 : w5.drew.heap[d]? = some (.cells (dCells k m { s with offAt := 0 }) 65 (0, 0)) := (hF5.block d hd2' (by simp)).trans hblk2
            have hmp5 : MapP w5.drew m cnt s.pend := hmp2.kept hF5.drew (by simp)
            have hfr5 : Fr [k] w3 w5.drew := hfr2.then hF5.drew
            have hr5' : w5.drew.rangeAt wr2.heap.size 0 (l.map encB) := hr5
            have hcut5 := hcut2.kept hF5.drew (by simp)
            have hgr : k ≠ wr2.heap.size := by omega
            refine wp_region_text' (by kernel_rfl) (by kernel_rfl) ?_
            intro K2 hK2
            generalize w5.drew = w6 at *
            have g0 : w6.cell? ⟨d, 0, none⟩ = some (.slice (some ⟨k, 0, none⟩) s.n s.n) := cell_of_row _ _ 0 _ _ _ hblk5
            have hin := hpl.1
            have hq1000 : q < 1000 := by have := ks_len s; omega
            have hrs : RB w6 (some ⟨wr2.heap.size, 0, none⟩) N (l.take N) := by
              have := rb_of_range hr5' hpl.2 (by omega)
              exact this.take N (by omega)
            have hcp := copy_b k (i * 64) N 64 (there_sub hth5 (by omega)) hrs (c := 64)
            have hlt64 : (l.take N).length = N := by rw [List.length_take, hpl.2]; omega
            rw [List.take_of_length_le (by omega), Nat.min_self] at hcp
            have htorn : torn (ch[q]) l (s.kept i) = l.take N ++ (s.kept i).drop (l.take N).length := by
              unfold torn
              rw [hlt64, show tornN (ch[q]) = N from by unfold tornN; rw [if_neg hx]; exact hN2.out.symm]
            obtain ⟨p1, p2, p3⟩ := part_step h.ok ch hlt hi hl
            have hF7 : Fr [k] w6 (w6.setCells k (i * 64) ((l.take N).map encB)) := fr_setCells (Fr.refl _ _) _ _ _ (.inl (by simp))
            have hth7 : (w6.setCells k (i * 64) ((l.take N).map encB)).there k 0 (s.n * 64) := World.there_setCells hth5 _ _ _
            have hrow7 : ∀ j, j < s.n → (w6.setCells k (i * 64) ((l.take N).map encB)).rangeAt k (j * 64) ((s.tornPart ch (q + 1) j).map encB) := by
              intro j hj
              by_cases hji : j = i
              · subst hji
                have hx1 := hrow5 j hj
                rw [p1] at hx1
                have := range_head (l := l.take N) hx1 (by rw [hlt64, h.ok.kept_len]; omega)
                rw [p2, show ch.getD q 0 = ch[q] by simp [hch], htorn]
                exact this
              · rw [p3 j hji]
                exact World.rangeAt_setCells_apart (hrow5 j hj) _ _ _ (by right; rw [List.length_map, List.length_map, hlt64, h.ok.part_len]; omega)
            have hk6 : k < w6.heap.size := Nat.lt_of_lt_of_le hlts.2.1 (Nat.le_trans hF3.size hfr5.size)
            have hd6 : d < w6.heap.size := Nat.lt_of_lt_of_le hlts.1 (Nat.le_trans hF3.size hfr5.size)
            have hblk7 := (hF7.block d hd6 (by simp; omega)).trans hblk5
            have hmp7 := hmp5.kept hF7 (by simp; omega)
            have hcut7 := hcut5.kept' hF7 (by
              intro hn0 a ha
              obtain ⟨a0, ha0, hb0⟩ := hlies2 a ha
              have hq0 := hcut5.1
              rw [List.length_drop] at hq0
              have hb0' := hb.1
              have h2 := (hB (by omega) a0 ha0).2.1
              rw [hb0] at h2
              simpa using h2)
            have hfr7 := hfr5.trans hF7 (by simp)
            generalize w6.setCells k (i * 64) ((l.take N).map encB) = w7 at *
            have hpin : (ch.length - q - 1 : Nat) = ch.length - (q + 1) := by omega
            clear hlook hx8 f0 f1 hrow2 hth2 hblk2 hmp2 hcut2 hrow5 hth5 hblk5 hmp5 hcut5 hr5 hr5' htorn p1 p2 p3 hb4 ht4
            go_wp2_with (first | (with_reducible refine stop_al rfl ?_) | (with_reducible refine stop_st rfl ?_) | (with_reducible refine stop_ld rfl ?_))
            refine hK2 _ _ (by kernel_rfl) ?_
            go_wp2
            try go_frame
            go_roundw
            case rel => exact ⟨q + 1, _, _, _, by omega, by rfl, rfl, by omega, hcut7, hlies2, hrow7, hth7, hblk7, hmp7, hfr7⟩
            case measure => simp [Lib.intOf]; omega
        · rw [cutA, if_neg hc1] at hcut2 hlies2
          have hc2 : Option.map (fun x : Addr => x.add 1) (some ⟨b, off, none⟩) = some ⟨b, off + 1, none⟩ := by simp [Addr.add]
          rw [hc2] at hcut2 hlies2
          go_wp2
          refine hK _ _ (by kernel_rfl) ?_
          generalize wr.drew = wr2 at *
          have hx8 := (ch[q]).toNat_lt
          have f0 : wr2.cell? ⟨d, 0, none⟩ = some (.slice (some ⟨k, 0, none⟩) s.n s.n) := cell_of_row _ _ 0 _ _ _ hblk2
          have f1 : wr2.cell? ⟨d, 1, none⟩ = some (.map (some m)) := cell_of_row _ _ 1 _ _ _ hblk2
          have hlook := hmp2.look false (fun i l hl => (h.ok.pend_len i l hl).2) i (by omega)
          rw [hl] at hlook
          by_cases hx : ch[q] = 255
          · have hx2 : ((ch[q]).toNat : Int) = 255 := by rw [hx]; rfl
            go_wp2_with (first | (with_reducible refine stop_al rfl ?_) | (with_reducible refine stop_st rfl ?_) | (with_reducible refine stop_ld rfl ?_))
            refine Stop.go (al_sec rfl rfl ?_)
            intro w4 hb4 hs4 hf4
            go_wp2_with (first | (with_reducible refine stop_al rfl ?_) | (with_reducible refine stop_st rfl ?_) | (with_reducible refine stop_ld rfl ?_))
            have ht4 : w4.there wr2.heap.size 0 64 := there_of_block hb4 (by rw [secA_size, zeros64_len]; omega)
            refine Stop.go (st_sec rfl rfl wr2.heap.size 0 l hpl.2 rfl rfl ht4 ?_)
            intro w5 hw5 hr5 hf5
            clear hw5
            go_wp2_with (first | (with_reducible refine stop_al rfl ?_) | (with_reducible refine stop_st rfl ?_) | (with_reducible refine stop_ld rfl ?_))
            have hF5 : Fr [] wr2 w5 := hf4.trans hf5 (by intro x hx; right; simp at hx; subst hx; exact Nat.le_refl _)
            have hk2 : k < wr2.heap.size := Nat.lt_of_lt_of_le hlts.2.1 (Nat.le_trans hF3.size hfr2.size)
            have hd2' : d < wr2.heap.size := Nat.lt_of_lt_of_le hlts.1 (Nat.le_trans hF3.size hfr2.size)
            have hrow5 : ∀ i, i < s.n → w5.drew.rangeAt k (i * 64) ((s.tornPart ch q i).map encB) := fun i hi => range_fr hF5 (hrow2 i hi) hk2 (by simp)
            have hth5 : w5.drew.there k 0 (s.n * 64) := there_fr hF5 hth2 hk2 (by simp)
            have hblk5 : w5.drew.heap[d]? = some (.cells (dCells k m { s with offAt := 0 }) 65 (0, 0)) := (hF5.block d hd2' (by simp)).trans hblk2
            have hmp5 : MapP w5.drew m cnt s.pend := hmp2.kept hF5.drew (by simp)
            have hfr5 : Fr [k] w3 w5.drew := hfr2.then hF5.drew
            have hr5' : w5.drew.rangeAt wr2.heap.size 0 (l.map encB) := hr5
            have hcut5 := hcut2.kept hF5.drew (by simp)
            have hgr : k ≠ wr2.heap.size := by omega
            refine wp_region_text' (by kernel_rfl) (by kernel_rfl) ?_
            intro K2 hK2
            generalize w5.drew = w6 at *
            have g0 : w6.cell? ⟨d, 0, none⟩ = some (.slice (some ⟨k, 0, none⟩) s.n s.n) := cell_of_row _ _ 0 _ _ _ hblk5
            have hin := hpl.1
            have hq1000 : q < 1000 := by have := ks_len s; omega
            have hrs : RB w6 (some ⟨wr2.heap.size, 0, none⟩) 64 (l.take 64) := by
              have := rb_of_range hr5' hpl.2 (by omega)
              exact this.take 64 (by omega)
            have hcp := copy_b k (i * 64) 64 64 (there_sub hth5 (by omega)) hrs (c := 64)
            have hlt64 : (l.take 64).length = 64 := by rw [List.length_take, hpl.2]; omega
            rw [List.take_of_length_le (by omega), Nat.min_self] at hcp
            have htorn : torn (ch[q]) l (s.kept i) = l.take 64 ++ (s.kept i).drop (l.take 64).length := by
              unfold torn
              rw [hlt64, show tornN (ch[q]) = 64 from by unfold tornN; rw [if_pos hx]]
            obtain ⟨p1, p2, p3⟩ := part_step h.ok ch hlt hi hl
            have hF7 : Fr [k] w6 (w6.setCells k (i * 64) ((l.take 64).map encB)) := fr_setCells (Fr.refl _ _) _ _ _ (.inl (by simp))
            have hth7 : (w6.setCells k (i * 64) ((l.take 64).map encB)).there k 0 (s.n * 64) := World.there_setCells hth5 _ _ _
            have hrow7 : ∀ j, j < s.n → (w6.setCells k (i * 64) ((l.take 64).map encB)).rangeAt k (j * 64) ((s.tornPart ch (q + 1) j).map encB) := by
              intro j hj
              by_cases hji : j = i
              · subst hji
                have hx1 := hrow5 j hj
                rw [p1] at hx1
                have := range_head (l := l.take 64) hx1 (by rw [hlt64, h.ok.kept_len]; omega)
                rw [p2, show ch.getD q 0 = ch[q] by simp [hch], htorn]
                exact this
              · rw [p3 j hji]
                exact World.rangeAt_setCells_apart (hrow5 j hj) _ _ _ (by right; rw [List.length_map, List.length_map, hlt64, h.ok.part_len]; omega)
            have hk6 : k < w6.heap.size := Nat.lt_of_lt_of_le hlts.2.1 (Nat.le_trans hF3.size hfr5.size)
            have hd6 : d < w6.heap.size := Nat.lt_of_lt_of_le hlts.1 (Nat.le_trans hF3.size hfr5.size)
            have hblk7 := (hF7.block d hd6 (by simp; omega)).trans hblk5
            have hmp7 := hmp5.kept hF7 (by simp; omega)
            have hcut7 := hcut5.kept' hF7 (by
              intro hn0 a ha
              obtain ⟨a0, ha0, hb0⟩ := hlies2 a ha
              have hq0 := hcut5.1
              rw [List.length_drop] at hq0
              have hb0' := hb.1
              have h2 := (hB (by omega) a0 ha0).2.1
              rw [hb0] at h2
              simpa using h2)
            have hfr7 := hfr5.trans hF7 (by simp)
            generalize w6.setCells k (i * 64) ((l.take 64).map encB) = w7 at *
            have hpin : (ch.length - q - 1 : Nat) = ch.length - (q + 1) := by omega
            clear hlook hx8 f0 f1 hrow2 hth2 hblk2 hmp2 hcut2 hrow5 hth5 hblk5 hmp5 hcut5 hr5 hr5' htorn p1 p2 p3 hb4 ht4
            go_wp2_with (first | (with_reducible refine stop_al rfl ?_) | (with_reducible refine stop_st rfl ?_) | (with_reducible refine stop_ld rfl ?_))
            refine hK2 _ _ (by kernel_rfl) ?_
            go_wp2
            try go_frame
            go_roundw
            case rel => exact ⟨q + 1, _, _, _, by omega, by rfl, rfl, by omega, hcut7, hlies2, hrow7, hth7, hblk7, hmp7, hfr7⟩
            case measure => simp [Lib.intOf]; omega
          · have hx2 : (((ch[q]).toNat : Int) == 255) = false := by
              rw [beq_eq_false_iff_ne]
              intro h
              exact hx (UInt8.toNat_inj.1 (by show (ch[q]).toNat = 255; omega))
            obtain ⟨N, hN, hN64, hN2⟩ : ∃ N : Nat, (((ch[q]).toNat : Nat) : Int) % 64 = (N : Int) ∧ N < 64 ∧ Hid (N = (ch[q]).toNat % 64) := ⟨(ch[q]).toNat % 64, by omega, by omega, hid rfl⟩
            have hNa : N ≤ 64 := by omega
            have hNb : (N : Int) ≤ 64 := by omega
            have hNc : (0 : Int) ≤ N := by omega
            go_wp2_with (first | (with_reducible refine stop_al rfl ?_) | (with_reducible refine stop_st rfl ?_) | (with_reducible refine stop_ld rfl ?_))
            refine Stop.go (al_sec rfl rfl ?_)
            intro w4 hb4 hs4 hf4
            go_wp2_with (first | (with_reducible refine stop_al rfl ?_) | (with_reducible refine stop_st rfl ?_) | (with_reducible refine stop_ld rfl ?_))
            have ht4 : w4.there wr2.heap.size 0 64 := there_of_block hb4 (by rw [secA_size, zeros64_len]; omega)
            refine Stop.go (st_sec rfl rfl wr2.heap.size 0 l hpl.2 rfl rfl ht4 ?_)
            intro w5 hw5 hr5 hf5
            clear hw5
            go_wp2_with (first | (with_reducible refine stop_al rfl ?_) | (with_reducible refine stop_st rfl ?_) | (with_reducible refine stop_ld rfl ?_))
            have hF5 : Fr [] wr2 w5 := hf4.trans hf5 (by intro x hx; right; simp at hx; subst hx; exact Nat.le_refl _)
            have hk2 : k < wr2.heap.size := Nat.lt_of_lt_of_le hlts.2.1 (Nat.le_trans hF3.size hfr2.size)
            have hd2' : d < wr2.heap.size := Nat.lt_of_lt_of_le hlts.1 (Nat.le_trans hF3.size hfr2.size)
            have hrow5 : ∀ i, i < s.n → w5.drew.rangeAt k (i * 64) ((s.tornPart ch q i).map encB) := fun i hi => range_fr hF5 (hrow2 i hi) hk2 (by simp)
            have hth5 : w5.drew.there k 0 (s.n * 64) := there_fr hF5 hth2 hk2 (by simp)
            have hblk5 : w5.drew.heap[d]? = some (.cells (dCells k m { s with offAt := 0 }) 65 (0, 0)) := (hF5.block d hd2' (by simp)).trans hblk2
            have hmp5 : MapP w5.drew m cnt s.pend := hmp2.kept hF5.drew (by simp)
            have hfr5 : Fr [k] w3 w5.drew := hfr2.then hF5.drew
            have hr5' : w5.drew.rangeAt wr2.heap.size 0 (l.map encB) := hr5
            have hcut5 := hcut2.kept hF5.drew (by simp)
            have hgr : k ≠ wr2.heap.size := by omega
            refine wp_region_text' (by kernel_rfl) (by kernel_rfl) ?_
            intro K2 hK2
            generalize w5.drew = w6 at *
            have g0 : w6.cell? ⟨d, 0, none⟩ = some (.slice (some ⟨k, 0, none⟩) s.n s.n) := cell_of_row _ _ 0 _ _ _ hblk5
            have hin := hpl.1
            have hq1000 : q < 1000 := by have := ks_len s; omega
            have hrs : RB w6 (some ⟨wr2.heap.size, 0, none⟩) N (l.take N) := by
              have := rb_of_range hr5' hpl.2 (by omega)
              exact this.take N (by omega)
            have hcp := copy_b k (i * 64) N 64 (there_sub hth5 (by omega)) hrs (c := 64)
            have hlt64 : (l.take N).length = N := by rw [List.length_take, hpl.2]; omega
            rw [List.take_of_length_le (by omega), Nat.min_self] at hcp
            have htorn : torn (ch[q]) l (s.kept i) = l.take N ++ (s.kept i).drop (l.take N).length := by
              unfold torn
              rw [hlt64, show tornN (ch[q]) = N from by unfold tornN; rw [if_neg hx]; exact hN2.out.symm]
            obtain ⟨p1, p2, p3⟩ := part_step h.ok ch hlt hi hl
            have hF7 : Fr [k] w6 (w6.setCells k (i * 64) ((l.take N).map encB)) := fr_setCells (Fr.refl _ _) _ _ _ (.inl (by simp))
            have hth7 : (w6.setCells k (i * 64) ((l.take N).map encB)).there k 0 (s.n * 64) := World.there_setCells hth5 _ _ _
            have hrow7 : ∀ j, j < s.n → (w6.setCells k (i * 64) ((l.take N).map encB)).rangeAt k (j * 64) ((s.tornPart ch (q + 1) j).map encB) := by
              intro j hj
              by_cases hji : j = i
              · subst hji
                have hx1 := hrow5 j hj
                rw [p1] at hx1
                have := range_head (l := l.take N) hx1 (by rw [hlt64, h.ok.kept_len]; omega)
                rw [p2, show ch.getD q 0 = ch[q] by simp [hch], htorn]
                exact this
              · rw [p3 j hji]
                exact World.rangeAt_setCells_apart (hrow5 j hj) _ _ _ (by right; rw [List.length_map, List.length_map, hlt64, h.ok.part_len]; omega)
            have hk6 : k < w6.heap.size := Nat.lt_of_lt_of_le hlts.2.1 (Nat.le_trans hF3.size hfr5.size)
            have hd6 : d < w6.heap.size := Nat.lt_of_lt_of_le hlts.1 (Nat.le_trans hF3.size hfr5.size)
            have hblk7 := (hF7.block d hd6 (by simp; omega)).trans hblk5
            have hmp7 := hmp5.kept hF7 (by simp; omega)
            have hcut7 := hcut5.kept' hF7 (by
              intro hn0 a ha
              obtain ⟨a0, ha0, hb0⟩ := hlies2 a ha
              have hq0 := hcut5.1
              rw [List.length_drop] at hq0
              have hb0' := hb.1
              have h2 := (hB (by omega) a0 ha0).2.1
              rw [hb0] at h2
              simpa using h2)
            have hfr7 := hfr5.trans hF7 (by simp)
            generalize w6.setCells k (i * 64) ((l.take N).map encB) = w7 at *
            have hpin : (ch.length - q - 1 : Nat) = ch.length - (q + 1) := by omega
            clear hlook hx8 f0 f1 hrow2 hth2 hblk2 hmp2 hcut2 hrow5 hth5 hblk5 hmp5 hcut5 hr5 hr5' htorn p1 p2 p3 hb4 ht4
            go_wp2_with (first | (with_reducible refine stop_al rfl ?_) | (with_reducible refine stop_st rfl ?_) | (with_reducible refine stop_ld rfl ?_))
            refine hK2 _ _ (by kernel_rfl) ?_
            go_wp2
            try go_frame
            go_roundw
            case rel => exact ⟨q + 1, _, _, _, by omega, by rfl, rfl, by omega, hcut7, hlies2, hrow7, hth7, hblk7, hmp7, hfr7⟩
            case measure => simp [Lib.intOf]; omega
      · have hd0 : ch.drop q = [] := List.drop_of_length_le (by omega)
        have hd1 : ch.drop (q + 1) = [] := List.drop_of_length_le (by omega)
        have hn0 : n' = 0 := by omega
        subst hn0
        clear hnd
        have hcut2 : RB wr B' 0 (ch.drop (q + 1)) := by rw [hd1, ← hd0]; exact hbr
        have hrow2 := hrow
        have hth2 := hth
        have hblk2 := hblk
        have hmp2 := hmp
        have hfr2 := hfr
        have hlies2 := hlies
        clear hrow hth hblk hmp hfr hlies hbr
        have hx8 := (0 : UInt8).toNat_lt
        have f0 : wr.cell? ⟨d, 0, none⟩ = some (.slice (some ⟨k, 0, none⟩) s.n s.n) := cell_of_row _ _ 0 _ _ _ hblk2
        have f1 : wr.cell? ⟨d, 1, none⟩ = some (.map (some m)) := cell_of_row _ _ 1 _ _ _ hblk2
        have hlook := hmp2.look false (fun i l hl => (h.ok.pend_len i l hl).2) i (by omega)
        rw [hl] at hlook
        go_wp2_with (first | (with_reducible refine stop_al rfl ?_) | (with_reducible refine stop_st rfl ?_) | (with_reducible refine stop_ld rfl ?_))
        refine Stop.go (al_sec rfl rfl ?_)
        intro w4 hb4 hs4 hf4
        go_wp2_with (first | (with_reducible refine stop_al rfl ?_) | (with_reducible refine stop_st rfl ?_) | (with_reducible refine stop_ld rfl ?_))
        have ht4 : w4.there wr.heap.size 0 64 := there_of_block hb4 (by rw [secA_size, zeros64_len]; omega)
        refine Stop.go (st_sec rfl rfl wr.heap.size 0 l hpl.2 rfl rfl ht4 ?_)
        intro w5 hw5 hr5 hf5
        clear hw5
        go_wp2_with (first | (with_reducible refine stop_al rfl ?_) | (with_reducible refine stop_st rfl ?_) | (with_reducible refine stop_ld rfl ?_))
        have hF5 : Fr [] wr w5 := hf4.trans hf5 (by intro x hx; right; simp at hx; subst hx; exact Nat.le_refl _)
        have hk2 : k < wr.heap.size := Nat.lt_of_lt_of_le hlts.2.1 (Nat.le_trans hF3.size hfr2.size)
        have hd2' : d < wr.heap.size := Nat.lt_of_lt_of_le hlts.1 (Nat.le_trans hF3.size hfr2.size)
        have hrow5 : ∀ i, i < s.n → w5.drew.rangeAt k (i * 64) ((s.tornPart ch q i).map encB) := fun i hi => range_fr hF5 (hrow2 i hi) hk2 (by simp)
        have hth5 : w5.drew.there k 0 (s.n * 64) := there_fr hF5 hth2 hk2 (by simp)
        have hblk5 : w5.drew.heap[d]? = some (.cells (dCells k m { s with offAt := 0 }) 65 (0, 0)) := (hF5.block d hd2' (by simp)).trans hblk2
        have hmp5 : MapP w5.drew m cnt s.pend := hmp2.kept hF5.drew (by simp)
        have hfr5 : Fr [k] w3 w5.drew := hfr2.then hF5.drew
        have hr5' : w5.drew.rangeAt wr.heap.size 0 (l.map encB) := hr5
        have hcut5 := hcut2.kept hF5.drew (by simp)
        have hgr : k ≠ wr.heap.size := by omega
        refine wp_region_text' (by kernel_rfl) (by kernel_rfl) ?_
        intro K2 hK2
        generalize w5.drew = w6 at *
        have g0 : w6.cell? ⟨d, 0, none⟩ = some (.slice (some ⟨k, 0, none⟩) s.n s.n) := cell_of_row _ _ 0 _ _ _ hblk5
        have hin := hpl.1
        have hq1000 : q < 1000 := by have := ks_len s; omega
        have hrs : RB w6 (some ⟨wr.heap.size, 0, none⟩) 0 (l.take 0) := by
          have := rb_of_range hr5' hpl.2 (by omega)
          exact this.take 0 (by omega)
        have hcp := copy_b k (i * 64) 0 64 (there_sub hth5 (by omega)) hrs (c := 64)
        have hlt64 : (l.take 0).length = 0 := by rw [List.length_take, hpl.2]; omega
        rw [List.take_of_length_le (by omega), Nat.min_self] at hcp
        have htorn : torn ((0 : UInt8)) l (s.kept i) = l.take 0 ++ (s.kept i).drop (l.take 0).length := by
          unfold torn
          rw [hlt64, show tornN ((0 : UInt8)) = 0 from by decide]
        obtain ⟨p1, p2, p3⟩ := part_step h.ok ch hlt hi hl
        have hF7 : Fr [k] w6 (w6.setCells k (i * 64) ((l.take 0).map encB)) := fr_setCells (Fr.refl _ _) _ _ _ (.inl (by simp))
        have hth7 : (w6.setCells k (i * 64) ((l.take 0).map encB)).there k 0 (s.n * 64) := World.there_setCells hth5 _ _ _
        have hrow7 : ∀ j, j < s.n → (w6.setCells k (i * 64) ((l.take 0).map encB)).rangeAt k (j * 64) ((s.tornPart ch (q + 1) j).map encB) := by
          intro j hj
          by_cases hji : j = i
          · subst hji
            have hx1 := hrow5 j hj
            rw [p1] at hx1
            have := range_head (l := l.take 0) hx1 (by rw [hlt64, h.ok.kept_len]; omega)
            rw [p2, show ch.getD q 0 = 0 by simp [List.getD_eq_getElem?_getD, List.getElem?_eq_none (show ch.length ≤ q by omega)], htorn]
            exact this
          · rw [p3 j hji]
            exact World.rangeAt_setCells_apart (hrow5 j hj) _ _ _ (by right; rw [List.length_map, List.length_map, hlt64, h.ok.part_len]; omega)
        have hk6 : k < w6.heap.size := Nat.lt_of_lt_of_le hlts.2.1 (Nat.le_trans hF3.size hfr5.size)
        have hd6 : d < w6.heap.size := Nat.lt_of_lt_of_le hlts.1 (Nat.le_trans hF3.size hfr5.size)
        have hblk7 := (hF7.block d hd6 (by simp; omega)).trans hblk5
        have hmp7 := hmp5.kept hF7 (by simp; omega)
        have hcut7 := hcut5.kept' hF7 (by
          intro hn0 a ha
          obtain ⟨a0, ha0, hb0⟩ := hlies2 a ha
          have hq0 := hcut5.1
          rw [List.length_drop] at hq0
          have hb0' := hb.1
          have h2 := (hB (by omega) a0 ha0).2.1
          rw [hb0] at h2
          simpa using h2)
        have hfr7 := hfr5.trans hF7 (by simp)
        generalize w6.setCells k (i * 64) ((l.take 0).map encB) = w7 at *
        have hpin : (ch.length - q - 1 : Nat) = ch.length - (q + 1) := by omega
        clear hlook hx8 f0 f1 hrow2 hth2 hblk2 hmp2 hcut2 hrow5 hth5 hblk5 hmp5 hcut5 hr5 hr5' htorn p1 p2 p3 hb4 ht4
        go_wp2_with (first | (with_reducible refine stop_al rfl ?_) | (with_reducible refine stop_st rfl ?_) | (with_reducible refine stop_ld rfl ?_))
        refine hK2 _ _ (by kernel_rfl) ?_
        go_wp2
        try go_frame
        go_roundw
        case rel => exact ⟨q + 1, _, _, _, by omega, by rfl, rfl, by omega, hcut7, hlies2, hrow7, hth7, hblk7, hmp7, hfr7⟩
        case measure => simp [Lib.intOf]; omega
    · have hqe : q = s.ks.length := by omega
      subst hqe
      have f1 : wr.cell? ⟨d, 1, none⟩ = some (.map (some m)) := cell_of_row _ _ 1 _ _ _ hblk
      obtain ⟨w4, hclr, hmp4, hf4⟩ := hmp.clear
      have hk1 : k < wr.heap.size := Nat.lt_of_lt_of_le hlts.2.1 (Nat.le_trans hF3.size hfr.size)
      have hd1 : d < wr.heap.size := Nat.lt_of_lt_of_le hlts.1 (Nat.le_trans hF3.size hfr.size)
      have hd4 : IsDisk w4 d k m (s.crash ch) := by
        refine ⟨⟨h.ok.n_le, fun i => h.ok.torn_len ch i, fun i l h => by cases h⟩, (hf4.block d hd1 (by simp; omega)).trans hblk, fun i hi => ?_, there_fr hf4 hth hk1 (by simp; omega), Nat.lt_of_lt_of_le hk1 hf4.size, ⟨0, Nat.zero_le _, hmp4⟩, hdk, hdm, hkm, h.steps, by simp [DSt.crash]⟩
        have hx := hrow i hi
        have : s.tornPart ch s.ks.length i = s.tornAt ch i := by
          unfold DSt.tornPart
          rw [List.take_length]
          split
          · rfl
          · rename_i hni
            have hnp : s.isP i = false := by
              cases hp : s.isP i
              · rfl
              · exact absurd ((DSt.mem_ks h.ok i).2 hp) hni
            unfold DSt.tornAt
            unfold DSt.isP at hnp
            cases hp : s.pend i with
            | none => rfl
            | some l => rw [hp] at hnp; cases hnp
        rw [this] at hx
        exact range_fr hf4 hx hk1 (by simp; omega)
      go_wp2
      go_end0
      exact ⟨rfl, hd4, ((hf1.trans (hF2.then hF3) (by simp)).trans hfr (by simp)).trans hf4 (by simp)⟩
end Go.Proofs.YtiialjncdhhceaaGreat
