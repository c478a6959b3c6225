/- The store does what a record tells; it tells all that is there as a record. -/
import Derived.Test.YtiialjncdhhceaaGreatStoDoes
import Derived.Test.YtiialjncdhhceaaGreatJrnReplace
namespace Go.Proofs.YtiialjncdhhceaaGreat
open Go.RowKit
set_option linter.unusedVariables false
set_option linter.unusedSimpArgs false

theorem MapS.not_cell {w : World} {m : Nat} {L : List KV} (h : MapS w m L) {b o : Nat} {s : Option Nat} {v : Value} (hc : w.cell? ⟨b, o, none⟩ = some v) : b ≠ m := by
  rintro rfl
  obtain ⟨es, clock, hb⟩ := h.block
  simp [World.cell?, hb] at hc
theorem RB.not_map {w : World} {m : Nat} {L : List KV} (h : MapS w m L) {A : Option Addr} {n : Nat} {l : List UInt8} (hb : RB w A n l) : n ≠ 0 → ∀ a, A = some a → a.block ≠ m := by
  intro hn a ha
  rcases hb.2.2 with h0 | ⟨b, off, rfl, hc⟩
  · exact absurd h0 hn
  · cases ha
    exact h.not_cell (s := none) (hc 0 (by rw [hb.1]; omega))

set_option maxHeartbeats 2000000 in
set_option maxRecDepth 100000 in
theorem replays_c (st d j mp : Nat) (L : List KV) (A : Option Addr) (n c : Nat) (ls : List Ln) (w : World) (hs : w.heap[st]? = some (.cells (sCells d j mp) 61 (0, 0))) (hM : MapS w mp L) (hb : RB w A n (encL ls)) (hnc : n ≤ c)
    (hok : ∀ l ∈ ls, l.Ok) (hcnt : L.length + ls.length ≤ 1000000) :
    Calls Tryz.prog 37 #[.pointer (some ⟨st, 0, none⟩), .slice A n c] w fun e w' => e = .returned (.bool true) ∧ MapS w' mp (doAll L ls) ∧ Fr [mp] w w' := by
  have hml := hM.lt
  have hsl : st < w.heap.size := (Array.getElem?_eq_some_iff.1 hs).1
  have hstm : st ≠ mp := by
    rintro rfl
    obtain ⟨es, clock, hb⟩ := hM.block
    rw [hs] at hb
    cases hb
  go_enter Tryz.func37, Tryz.ntmps37
  go_wp2_with fail
  go_loopw [1] (fun dv wr => ∃ (pre post : List Ln) (A' : Option Addr) (n' c' : Nat), ls = pre ++ post ∧ dv = .slice A' n' c' ∧ RB wr A' n' (encL post) ∧ n' ≤ c' ∧ MapS wr mp (doAll L pre) ∧ Fr [mp] w wr) (fun dv _ => lenV dv)
  case atStart => exact ⟨[], ls, A, n, c, rfl, rfl, hb, hnc, hM, Fr.refl _ _⟩
  case round =>
    obtain ⟨pre, post, A', n', c', hls, rfl, hbr, hnc', hMr, hfr⟩ := hrel
    cases post with
    | nil =>
      have hn0 : n' = 0 := by have := hbr.1; simpa [encL] using this.symm
      subst hn0
      rw [List.append_nil] at hls
      subst hls
      go_wp2_with fail
      go_ret
      exact ⟨rfl, hMr, hfr⟩
    | cons l post =>
      have hl := hok l (by rw [hls]; simp)
      have hlk := hl.key
      have hlx := hl.x
      rw [encL_cons] at hbr
      obtain ⟨M, hM'⟩ : ∃ M, (encL post).length = M := ⟨_, rfl⟩
      have hlen : n' = 1 + (l.key.size + 2 + (l.x.size + 2 + M)) := by
        have := hbr.1
        rw [List.length_cons, List.length_append, List.length_append, textB_length, textB_length, hM'] at this
        omega
      have hcntl : (doAll L pre).length ≤ 1000000 := by
        have h1 := doAll_length L pre
        have h2 := congrArg List.length hls
        rw [List.length_append] at h2
        omega
      obtain ⟨bb, off, rfl, hc⟩ : ∃ bb off, A' = some ⟨bb, off, none⟩ ∧ wr.cell? ⟨bb, off, none⟩ = some (.int .u8 (l.kind.toNat : Int)) := by
        rcases hbr.2.2 with h0 | ⟨bb, off, hA, hcell⟩
        · omega
        · exact ⟨bb, off, hA, by simpa using hcell 0 (by simp)⟩
      have hnm := hMr.not_cell (s := none) hc
      have hcut := hbr.cut 1 (by omega) hnc'
      have hc1 : ¬ c' = 1 := by omega
      rw [cutA, if_neg hc1, List.drop_one, List.tail_cons] at hcut
      obtain ⟨g1, g2, g3⟩ := text_head l.key (textB l.x ++ encL post) (by omega)
      obtain ⟨x1, x2, x3⟩ := text_head l.x (encL post) (by omega)
      generalize hT2 : textB l.x ++ encL post = T2 at *
      generalize hT1 : textB l.key ++ T2 = T1 at *
      have hpos : (0 : Int) < (n' : Int) := by omega
      have hn1 : n' - 1 = l.key.size + 2 + (l.x.size + 2 + M) := by omega
      have hc1le : (1 : Int) ≤ (c' : Int) := by omega
      have hn1le : (1 : Int) ≤ (n' : Int) := by omega
      replace hlen := hid hlen
      replace hls := hid hls
      replace hn1 := hid hn1
      replace hM' := hid hM'
      replace hT1 := hid hT1
      replace hT2 := hid hT2
      clear hbr
      go_wp2_with fail
      refine (GetText_ok (some ⟨bb, off + 1, none⟩) (n' - 1) (c' - 1) 20 T1 wr hcut (by omega) (by have := hn1.out; omega) (by rw [g1]; omega) (by rw [g1]; have := hn1.out; omega)).mono ?_
      rw [g1, g2, g3]
      rintro e w5 ⟨v5, rfl, ⟨A5, n5, c5, rfl, hc5, hr5, hlie5⟩, hf5⟩
      have hn5 : n5 = l.x.size + 2 + M := by
        have := hr5.1
        rw [← hT2.out, List.length_append, textB_length, hM'.out] at this
        omega
      have hk5 : (⟨(bs l.key).toArray⟩ : ByteArray) = l.key := stB_bs l.key
      rw [hk5]
      clear hk5 hc
      replace hn5 := hid hn5
      go_wp2_with fail
      refine (GetText_ok A5 n5 c5 6000 T2 w5 hr5 hc5 (by have := hn5.out; omega) (by rw [x1]; omega) (by rw [x1]; have := hn5.out; omega)).mono ?_
      rw [x1, x2, x3]
      rintro e w6 ⟨v6, rfl, ⟨A6, n6, c6, rfl, hc6, hr6, hlie6⟩, hf6⟩
      have hx6 : (⟨(bs l.x).toArray⟩ : ByteArray) = l.x := stB_bs l.x
      rw [hx6]
      clear hx6
      have hn6 : n6 < n' := by
        have := hr6.1
        rw [hM'.out] at this
        have := hlen.out
        omega
      have hf56 := hf5.then hf6
      have hfr6 : Fr [mp] w w6 := hfr.then hf56
      have hM6 := hMr.fr hf56
      have hrm := hr6.not_map hM6
      have hs6 := (hfr6.block st hsl (by simpa using hstm)).trans hs
      have c2 : w6.cell? ⟨st, 2, none⟩ = some (.map (some mp)) := cell_of_row _ _ 2 _ _ _ hs6
      have hdo : doAll L (pre ++ [l]) = doLn (doAll L pre) l := by rw [doAll_append]; rfl
      replace hdo := hid hdo
      obtain ⟨κ, hκ⟩ : ∃ κ : Int, (l.kind.toNat : Int) = κ := ⟨_, rfl⟩
      rw [hκ]
      by_cases hS : l.kind = 83
      · have hκ1 : κ = 83 := by rw [← hκ, hS]; rfl
        subst hκ1
        have hdo2 : doAll L (pre ++ [l]) = [] := by rw [hdo.out]; unfold doLn; rw [if_pos hS]
        replace hdo2 := hid hdo2
        replace hκ := hid hκ
        go_wp2_with (first | (with_reducible refine stopS_mu rfl ?_) | (with_reducible refine stopS_de rfl ?_) | (with_reducible refine stopS_cl rfl ?_))
        refine Stop.go (cl_str rfl rfl rfl hM6 ?_)
        intro w7 hM7 hf7
        rw [← hdo2.out] at hM7
        have hr7 := hr6.kept' hf7 (by simpa using hrm)
        have hfr7 : Fr [mp] w w7 := hfr6.trans hf7 (by simp)
        go_wp2_with (first | (with_reducible refine stopS_mu rfl ?_) | (with_reducible refine stopS_de rfl ?_) | (with_reducible refine stopS_cl rfl ?_))
        try go_frame
        go_roundw
        case rel => exact ⟨pre ++ [l], post, A6, n6, c6, by rw [List.append_assoc]; exact hls.out, rfl, hr7, hc6, hM7, hfr7⟩
        case measure => simp [lenV]; omega
      · have hκ1 : ¬ κ = 83 := fun h => hS (UInt8.toNat_inj.1 (by rw [h] at hκ; exact Int.ofNat_inj.1 hκ))
        by_cases hD : l.kind = 68
        · have hκ2 : κ = 68 := by rw [← hκ, hD]; rfl
          subst hκ2
          have hdo2 : doAll L (pre ++ [l]) = delL (bs l.key) (doAll L pre) := by rw [hdo.out]; unfold doLn; rw [if_neg hS, if_pos hD]
          replace hdo2 := hid hdo2
          replace hκ := hid hκ
          go_wp2_with (first | (with_reducible refine stopS_mu rfl ?_) | (with_reducible refine stopS_de rfl ?_) | (with_reducible refine stopS_cl rfl ?_))
          refine Stop.go (de_str rfl rfl rfl rfl hM6 (by omega) ?_)
          intro w7 hM7 hf7
          rw [← hdo2.out] at hM7
          have hr7 := hr6.kept' hf7 (by simpa using hrm)
          have hfr7 : Fr [mp] w w7 := hfr6.trans hf7 (by simp)
          go_wp2_with (first | (with_reducible refine stopS_mu rfl ?_) | (with_reducible refine stopS_de rfl ?_) | (with_reducible refine stopS_cl rfl ?_))
          try go_frame
          go_roundw
          case rel => exact ⟨pre ++ [l], post, A6, n6, c6, by rw [List.append_assoc]; exact hls.out, rfl, hr7, hc6, hM7, hfr7⟩
          case measure => simp [lenV]; omega
        · have hκ2 : ¬ κ = 68 := fun h => hD (UInt8.toNat_inj.1 (by rw [h] at hκ; exact Int.ofNat_inj.1 hκ))
          have hdo2 : doAll L (pre ++ [l]) = putL (bs l.key) (bs l.x) (doAll L pre) := by rw [hdo.out]; unfold doLn; rw [if_neg hS, if_neg hD]
          replace hdo2 := hid hdo2
          replace hκ := hid hκ
          go_wp2_with (first | (with_reducible refine stopS_mu rfl ?_) | (with_reducible refine stopS_de rfl ?_) | (with_reducible refine stopS_cl rfl ?_))
          refine Stop.go (mu_str rfl rfl rfl rfl rfl hM6 (by omega) (by omega) (by omega) ?_)
          intro w7 hM7 hf7
          rw [← hdo2.out] at hM7
          have hr7 := hr6.kept' hf7 (by simpa using hrm)
          have hfr7 : Fr [mp] w w7 := hfr6.trans hf7 (by simp)
          go_wp2_with (first | (with_reducible refine stopS_mu rfl ?_) | (with_reducible refine stopS_de rfl ?_) | (with_reducible refine stopS_cl rfl ?_))
          try go_frame
          go_roundw
          case rel => exact ⟨pre ++ [l], post, A6, n6, c6, by rw [List.append_assoc]; exact hls.out, rfl, hr7, hc6, hM7, hfr7⟩
          case measure => simp [lenV]; omega

theorem dump_get (L : List KV) (i : Nat) (h : i < L.length) : (dumpL L)[i + 1]'(by simp [dumpL]; omega) = ⟨80, stB L[i].1, stB L[i].2⟩ := by
  simp [dumpL]
set_option maxHeartbeats 2000000 in
set_option maxRecDepth 100000 in
theorem record_s (st d j mp : Nat) (L : List KV) (w : World) (hs : w.heap[st]? = some (.cells (sCells d j mp) 61 (0, 0))) (hM : MapS w mp L) (hsm : Small L) (hcnt : L.length ≤ 1000) :
    Calls Tryz.prog 52 #[.pointer (some ⟨st, 0, none⟩)] w fun e w' => ∃ v, e = .returned v ∧ OB w' w.heap.size 5 v (encL (dumpL L)) ∧ Fr [] w w' := by
  have hsl : st < w.heap.size := (Array.getElem?_eq_some_iff.1 hs).1
  have hdl : (dumpL L).length = L.length + 1 := by simp [dumpL]
  have hlim : ∀ x ∈ dumpL L, x.enc.length ≤ 6025 := by
    intro x hx
    have := dump_ok hsm x hx
    rw [enc_length]
    have h1 := this.key
    have h2 := this.x
    omega
  have hlm := hid (encL_take_le _ 6025 hlim)
  replace hlim := hid hlim
  go_enter Tryz.func52, Tryz.ntmps52
  go_wp2_with fail
  refine (line_c w.heap.size (.slice none 0 0) [] ⟨83, ByteArray.empty, ByteArray.empty⟩ (by decide) (by decide) w (OB.nil _ _ _) (Nat.le_refl _) (by simp)).mono ?_
  rintro e w1 ⟨v1, rfl, hO1, hf1, hn1⟩
  have e1 : [] ++ (⟨83, ByteArray.empty, ByteArray.empty⟩ : Ln).enc = encL ((dumpL L).take 1) := by simp [dumpL, encL]
  rw [e1] at hO1
  clear e1
  have hf01 : Fr [] w w1 := hf1.mono (by simp [Value.ownBlock])
  have hs1 := (hf01.block st hsl (by simp)).trans hs
  have hM1 := hM.fr hf01
  go_wp2_with fail
  refine (Keys_c' st d j mp L w1 hs1 hM1 hcnt).mono ?_
  rintro e w2 ⟨v2, rfl, hO2, hf2⟩
  obtain ⟨A2, c2, rfl, hc2, hR2, hz2⟩ := hO2.form
  have hlt2 := hO2.lt
  have hkl : (L.map fun p => stB p.1).length = L.length := by rw [List.length_map]
  rw [hkl] at hR2 hc2 ⊢
  have hA2 : ∀ x, A2 = some x → w1.heap.size ≤ x.block := fun x hx => (hlt2 _ (by rw [← (hz2 x hx).1, hkl])).1
  have hf02 := hf01.then hf2
  have hO12 := hO1.kept hf2 (by simp)
  have hlt1 := hO1.lt
  have hz1 := hf01.size
  clear hO2 hO1 hlt2 hz2
  obtain ⟨N, hN⟩ : ∃ N, L.length = N := ⟨_, rfl⟩
  rw [hN] at hR2 hc2 hcnt ⊢
  replace hN := hid hN
  have hw2 := hf2.size
  go_wp2_with fail
  go_loopw [3, 10] (fun bv iv wr => ∃ i : Nat, i ≤ N ∧ iv = .int .i64 i ∧ OB wr w.heap.size 5 bv (encL ((dumpL L).take (i + 1))) ∧ RSs wr A2 N (L.map fun p => stB p.1) ∧ Fr [] w wr ∧ (∀ k, bv.ownBlock = some k → ∀ x, A2 = some x → k ≠ x.block)) (fun _ iv _ => N - (intOf iv).toNat)
  case atStart => exact ⟨0, by omega, rfl, hO12, hR2, hf02, fun k hk x hx => by have h1 := (hlt1 k hk).2; have h2 := hA2 x hx; omega⟩
  case round =>
    obtain ⟨i, hi, rfl, hO, hR, hfr, hap⟩ := hrel
    by_cases hin : i < N
    · obtain ⟨b, off, rfl, hc⟩ := str_cell hR i hin
      have hiL : i < L.length := by rw [hN.out]; exact hin
      rw [List.getElem_map] at hc
      have hg : getL (bs (stB L[i].1)) L = some L[i].2 := by rw [bs_stB]; exact getL_mem hM.2 (List.getElem_mem hiL)
      have hsz := hsm _ (List.getElem_mem hiL)
      have he := encL_take (dumpL L) (i + 1) (by rw [hdl]; omega)
      rw [dump_get L i hiL] at he
      have hlm1 := hlm.out (i + 1)
      have hlm2 : (encL ((dumpL L).take (i + 1))).length ≤ 100000000 := by
        have : (i + 1) * 6025 ≤ 1001 * 6025 := Nat.mul_le_mul_right _ (by omega)
        omega
      clear hlm1
      have hMr := hM.fr hfr
      have hsr := (hfr.block st hsl (by simp)).trans hs
      have c2' : wr.cell? ⟨st, 2, none⟩ = some (.map (some mp)) := cell_of_row _ _ 2 _ _ _ hsr
      generalize L[i] = p at *
      obtain ⟨pk, px⟩ := p
      dsimp only at hc hg hsz he
      have hlk := hMr.look false (stB pk) (by rw [stB_size]; omega)
      rw [hg] at hlk
      rw [if_neg (by decide)] at hlk
      have hel : elS (some px) = stB px := rfl
      rw [hel] at hlk
      clear hel hg
      have hws := hfr.size
      have hkz : (stB pk).size ≤ 65535 := by rw [stB_size]; omega
      have hxz : (stB px).size ≤ 65535 := by rw [stB_size]; omega
      replace he := hid he
      generalize stB pk = K at *
      generalize stB px = X at *
      go_wp2_with (at_builtin; refine stop_append rfl ?_)
      refine (line_c w.heap.size _ _ ⟨80, K, X⟩ hkz hxz wr hO (by omega) (by omega)).mono ?_
      rintro e w5 ⟨v5, rfl, hO5, hf5, hn5⟩
      rw [← he.out] at hO5
      have hR5 := hR.kept' hf5 (fun _ x hx h => hap x.block (by simpa using h) x hx rfl)
      have hf05 : Fr [] w w5 := hfr.past hf5 (fun z hz => (hO.lt z (by simpa using hz)).1)
      have hlR := hR.lt (by omega)
      clear hc hlk c2'
      go_wp2_with fail
      try go_frame
      go_roundw
      case rel => exact ⟨i + 1, by omega, rfl, hO5, hR5, hf05, fun k hk x hx => by
        rcases hn5 k hk with h1 | h1
        · exact hap k h1 x hx
        · have := hlR x hx; omega⟩
      case measure => simp [intOf]; omega
    · have hie : i = N := by omega
      subst hie
      rw [List.take_of_length_le (by rw [hdl, hN.out]; omega)] at hO
      go_wp2_with fail
      go_ret
      exact ⟨_, rfl, hO, hfr⟩
end Go.Proofs.YtiialjncdhhceaaGreat
