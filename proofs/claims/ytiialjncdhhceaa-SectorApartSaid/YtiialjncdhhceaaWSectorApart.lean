/- The walk of SectorApart: it returns true, whatever the input, and writes nothing that was there. -/
import Derived.Test.YtiialjncdhhceaaKnown13
namespace Go.Proofs.Ytiialjncdhhceaa.sectorApart
open Go.RowKit
set_option linter.unusedVariables false
set_option linter.unusedSimpArgs false

theorem info56 : (Try.prog.info? 56).map (fun i => (i.zero, i.size)) = some (some (.agg ((List.replicate 512 (0 : UInt8)).map encB).toArray), 512) := by kernel_rfl

set_option maxHeartbeats 2000000 in
set_option maxRecDepth 100000 in
theorem walk (i0 j0 : Int) (A : Option Addr) (n c : Nat) (la : List UInt8) (B : Option Addr) (m0 c0 : Nat) (lb : List UInt8) (w : World) (w1 : (Lit.int .u8 i0).wf = true) (w2 : (Lit.int .u8 j0).wf = true) (hb : RB w A n la) (hnc : n ≤ c) (hr : RB w B m0 lb) (hmc : m0 ≤ c0) :
    Calls Try.prog 10 #[.int .u8 i0, .int .u8 j0, .slice A n c, .slice B m0 c0] w fun e w' => e = .returned (.bool true) ∧ Below w.heap.size w w' := by
  have hi : 0 ≤ i0 ∧ i0 ≤ 255 := by simpa [Lit.wf, IntKind.min, IntKind.max, IntKind.signed, IntKind.bits] using w1
  have hj : 0 ≤ j0 ∧ j0 ≤ 255 := by simpa [Lit.wf, IntKind.min, IntKind.max, IntKind.signed, IntKind.bits] using w2
  clear w1 w2
  obtain ⟨x, hx⟩ : ∃ x : Nat, i0 % 8 = (x : Int) := ⟨(i0 % 8).toNat, by omega⟩
  obtain ⟨y, hy⟩ : ∃ y : Nat, j0 % 8 = (y : Int) := ⟨(j0 % 8).toNat, by omega⟩
  have hx8 : x < 8 := by omega
  have hy8 : y < 8 := by omega
  have hlow := hb.lt
  have hlow2 := hr.lt
  have hln := hb.1
  have hrn := hr.1
  by_cases hbig : 64 < n ∨ 64 < m0
  · have hbig' : (64 : Int) < n ∨ (64 : Int) < m0 := by omega
    clear hbig hx hy
    go_enter Try.func10, Try.ntmps10
    go_wp2_with (go_at_call 38; refine (known13_c _).mono ?_; rintro e w1 ⟨rfl, hf1⟩)
    all_goals go_ret
    all_goals exact ⟨rfl, hf1.all⟩
  · have hn1 : ¬ (64 : Int) < n := by omega
    have hn2 : ¬ (64 : Int) < m0 := by omega
    have hn64 : n ≤ 64 := by omega
    have hm64 : m0 ≤ 64 := by omega
    clear hbig
    have hx' := hid hx
    have hy' := hid hy
    clear hx hy
    go_enter Try.func10, Try.ntmps10
    go_wp2_with (go_at_call 38; refine (known13_c _).mono ?_; rintro e w1 ⟨rfl, hf1⟩)
    refine (New_c 8 8 (by decide) w1).mono ?_
    rintro e w2 ⟨d, k, m, rfl, hD2, hlo, hf2⟩
    go_wp2_with fail
    rw [hx'.out, hy'.out]
    clear hx' hy'
    have hF2 := hf1.then hf2
    have hs1 := hf1.size
    refine (Write_ok d k m (DSt.new 8) x A n c la w2 hD2 (hb.below hF2.all) (by intro h0 a ha; have := hlow h0 a ha; omega) (by decide) rfl hx8 hn64 (x : Int) rfl).mono ?_
    rintro e w3 ⟨rfl, hD3, hf3⟩
    have hF3 : Fr [] w w3 := hF2.past hf3 (by intro z hz; simp at hz; omega)
    go_wp2_with fail
    refine (Write_ok d k m ((DSt.new 8).step.put x la) y B m0 c0 lb w3 hD3 (hr.below hF3.all) (by intro h0 a ha; have := hlow2 h0 a ha; omega) (by show 0 + 1 + 1 < 4611686018427387904; omega) rfl hy8 hm64 (y : Int) rfl).mono ?_
    obtain ⟨s1, hs1⟩ : ∃ s1, s1 = (DSt.new 8).step.put x la := ⟨_, rfl⟩
    rw [← hs1]
    have hnow1 : ∀ j, s1.now j = if j = x then la ++ zeros64.drop la.length else zeros64 := by
      rw [hs1]
      intro j
      rw [DSt.put_now]
      rfl
    have hs1o : s1.offAt = 0 := by rw [hs1]; rfl
    have hs1n : s1.n = 8 := by rw [hs1]; rfl
    clear hs1
    obtain ⟨s2, hs2⟩ : ∃ s2, s2 = s1.step.put y lb := ⟨_, rfl⟩
    rw [← hs2]
    have hnow2 : ∀ j, s2.now j = if j = y then lb ++ (s1.now y).drop lb.length else s1.now j := by
      rw [hs2]
      intro j
      rw [DSt.put_now]
      rfl
    have hs2o : s2.off = false := by rw [hs2]; exact DSt.off_zero hs1o
    have hs2n : s2.n = 8 := by rw [hs2]; exact hs1n
    clear hs2
    rintro e w4 ⟨rfl, hD4, hf4⟩
    have hF4 : Fr [] w w4 := hF3.past hf4 (by intro z hz; simp at hz; omega)
    go_wp2_with (with_reducible refine stop_al2 56 rfl ?_)
    refine Stop.go (al_arr 56 info56 rfl rfl ?_)
    intro w5 hb5 hs5 hf5
    have hF5 := hF4.then hf5
    have hrow0 : ∀ k, k < 8 → w5.rangeAt w4.heap.size (k * 64) (zeros64.map encB) := by
      intro k hk j v hv
      rw [cell_of_row _ _ _ _ _ _ hb5]
      have hj : j < 64 := by
        have := (List.getElem?_eq_some_iff.1 hv).1
        simpa [zeros64] using this
      rw [← hv]
      unfold zeros64
      rw [List.map_replicate, List.map_replicate, List.toArray_replicate, Array.getElem?_replicate, if_pos (by omega), List.getElem?_replicate, if_pos hj]
    have hth5 : w5.there w4.heap.size 0 512 := there_of_block hb5 (by simp)
    have hla : la.length ≤ 64 := by omega
    have hlb : lb.length ≤ 64 := by omega
    have hs4 := hF4.size
    obtain ⟨w6, hw6⟩ : ∃ w6, w6 = w5.setCells w4.heap.size (x * 64) (la.map encB) := ⟨_, rfl⟩
    have hcp1 := copy_b (w := w5) w4.heap.size (x * 64) 64 64 (there_sub hth5 (by omega)) (hb.below hF5.all) (c := c)
    rw [List.take_of_length_le hla, ← hw6] at hcp1
    have hrow1 : ∀ k, k < 8 → w6.rangeAt w4.heap.size (k * 64) ((s1.now k).map encB) := by
      intro k hk
      rw [hnow1, hw6]
      exact copy_rows (R := fun _ => zeros64) hrow0 (fun _ => zeros64_len) la hla x hx8 k hk
    have hf6 : Fr [w4.heap.size] w5 w6 := by rw [hw6]; exact fr_setCells (Fr.refl _ _) _ _ _ (.inl (by simp))
    have hth6 : w6.there w4.heap.size 0 512 := by rw [hw6]; exact World.there_setCells hth5 _ _ _
    have hF6 : Fr [] w w6 := hF5.past hf6 (by intro z hz; simp at hz; omega)
    clear hw6
    have hl1 : ∀ k, (s1.now k).length = 64 := by
      intro k
      rw [hnow1]
      split
      · rw [List.length_append, List.length_drop, zeros64_len]; omega
      · exact zeros64_len
    obtain ⟨w7, hw7⟩ : ∃ w7, w7 = w6.setCells w4.heap.size (y * 64) (lb.map encB) := ⟨_, rfl⟩
    have hcp2 := copy_b (w := w6) w4.heap.size (y * 64) 64 64 (there_sub hth6 (by omega)) (hr.below hF6.all) (c := c0)
    rw [List.take_of_length_le hlb, ← hw7] at hcp2
    have hrow2 : ∀ k, k < 8 → w7.rangeAt w4.heap.size (k * 64) ((s2.now k).map encB) := by
      intro k hk
      rw [hnow2, hw7]
      exact copy_rows hrow1 hl1 lb hlb y hy8 k hk
    have hf7 : Fr [w4.heap.size] w6 w7 := by rw [hw7]; exact fr_setCells (Fr.refl _ _) _ _ _ (.inl (by simp))
    clear hw7
    have hF7 : Fr [] w w7 := hF6.past hf7 (by intro z hz; simp at hz; omega)
    have hlt4 := hD4.lts
    have hD7 : IsDisk w7 d k m s2 := ((hD4.fr hf5).away hf6 (by simp; omega)).away hf7 (by simp; omega)
    have hsz7 : w4.heap.size < w7.heap.size := by
      have e1 := hf6.size
      have e2 := hf7.size
      omega
    have hxi : (x : Int) < 8 := by omega
    have hyi : (y : Int) < 8 := by omega
    go_wp2_with fail
    clear hcp1 hcp2
    go_loopw [13] (fun kv wr => ∃ q : Nat, q ≤ 8 ∧ kv = .int .i64 q ∧ Fr [] w7 wr) (fun kv _ => 8 - (intOf kv).toNat)
    case atStart => exact ⟨0, by omega, rfl, Fr.refl _ _⟩
    case round =>
      obtain ⟨q, hq, rfl, hfr⟩ := hrel
      have hDr := hD7.fr hfr
      have hl2 : ∀ k, (s2.now k).length = 64 := hD4.ok.now_len
      by_cases hq8 : q < 8
      · go_wp2_with fail
        refine (Read_ok d k m s2 q wr hDr hs2o (by omega) (q : Int) rfl).mono ?_
        rintro e w8 ⟨b, rfl, ⟨hb1, hb2⟩, hr8, ht8, hf8⟩
        have hf78 := hfr.then hf8
        have hrw8 := range_fr hf78 (hrow2 q hq8) hsz7 (by simp)
        clear hrow0 hrow1 hrow2 hnow1 hnow2
        go_wp2_with fail
        refine wp_region_text' (by kernel_rfl) (by kernel_rfl) ?_
        intro K hK
        have g1 : (convert 22 9 (.slice (some ⟨b, 0, none⟩) 64 64)).run Try.prog w8.drew = .ok (.string ⟨(s2.now q).toArray⟩) w8.drew := run_str 22 5 9 Try.underlying22 Try.underlying5 Try.underlying9 (rb_of_range (w := w8.drew) hr8 (hl2 q) (by decide))
        have g2 : (convert 22 9 (.slice (some ⟨w4.heap.size, q * 64, none⟩) 64 64)).run Try.prog w8.drew = .ok (.string ⟨(s2.now q).toArray⟩) w8.drew := run_str 22 5 9 Try.underlying22 Try.underlying5 Try.underlying9 (rb_of_range (w := w8.drew) hrw8 (hl2 q) (by decide))
        have hfd : Fr [] w7 w8.drew := hf78.drew
        clear hr8 hrw8 ht8
        generalize w8.drew = w9 at *
        go_wp2_with fail
        refine hK _ _ (by kernel_rfl) ?_
        go_wp2_with fail
        go_roundw
        case rel => exact ⟨q + 1, by omega, rfl, hfd⟩
        case measure => simp [intOf]; omega
      · have hqe : q = 8 := by omega
        subst hqe
        go_wp2_with fail
        refine (Read_ok d k m s2 x wr hDr hs2o (by omega) (x : Int) rfl).mono ?_
        rintro e w8 ⟨b, rfl, ⟨hb1, hb2⟩, hr8, ht8, hf8⟩
        have hf78 := hfr.then hf8
        have cb := range_cell hr8 0 (by rw [hl2]; decide)
        have zb := (ht8 0 (by decide)).2
        simp only [Nat.add_zero] at cb zb
        have hrw := hrow2 x hx8
        clear hrow0 hrow1 hrow2 hnow1 hnow2 hr8 ht8
        go_wp2_with fail
        have hltr := hDr.lts
        refine (Read_ok d k m s2 x _ ((hDr.fr hf8).away ((Fr.refl [b] w8).setCell ⟨b, 0, none⟩ (.inl (by simp)) _) (by simp; omega)) hs2o (by omega) (x : Int) rfl).mono ?_
        rintro e w9 ⟨b', rfl, ⟨hb3, hb4⟩, hr9, ht9, hf9⟩
        have hf79 : Fr [] w7 w9 := (hf78.past ((Fr.refl [b] w8).setCell ⟨b, 0, none⟩ (.inl (by simp)) _) (by intro z hz; simp at hz; have := hfr.size; omega)).then hf9
        have hrw9 := range_fr hf79 hrw hsz7 (by simp)
        clear hf9 cb zb
        go_wp2_with fail
        refine wp_region_text' (by kernel_rfl) (by kernel_rfl) ?_
        intro K hK
        have g1 : (convert 22 9 (.slice (some ⟨b', 0, none⟩) 64 64)).run Try.prog w9.drew = .ok (.string ⟨(s2.now x).toArray⟩) w9.drew := run_str 22 5 9 Try.underlying22 Try.underlying5 Try.underlying9 (rb_of_range (w := w9.drew) hr9 (hl2 x) (by decide))
        have g2 : (convert 22 9 (.slice (some ⟨w4.heap.size, x * 64, none⟩) 64 64)).run Try.prog w9.drew = .ok (.string ⟨(s2.now x).toArray⟩) w9.drew := run_str 22 5 9 Try.underlying22 Try.underlying5 Try.underlying9 (rb_of_range (w := w9.drew) hrw9 (hl2 x) (by decide))
        have hfd : Fr [] w w9.drew := (hF7.then hf79).drew
        clear hr9 hrw9 ht9
        generalize w9.drew = w10 at *
        go_wp2_with fail
        refine hK _ _ (by kernel_rfl) ?_
        go_wp2_with fail
        go_ret
        exact ⟨by simp, hfd.all⟩
end Go.Proofs.Ytiialjncdhhceaa.sectorApart
