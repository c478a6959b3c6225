/- The document's disk of sectors: what Write and Flush do. -/
import Derived.Test.YtiialjncdhhceaaSecRef
namespace Go.Proofs.Ytiialjncdhhceaa
open Go.RowKit
set_option linter.unusedVariables false
set_option linter.unusedSimpArgs false

theorem take_drop_set (T K : List UInt8) (h : T.length ≤ K.length) (q : Nat) (hq : q < T.length) : (T.take q ++ K.drop q).set q (T[q]) = T.take (q + 1) ++ K.drop (q + 1) := by
  apply List.ext_getElem?
  intro i
  have hlt : (T.take q).length = q := by rw [List.length_take]; omega
  have hlt2 : (T.take (q + 1)).length = q + 1 := by rw [List.length_take]; omega
  rw [List.getElem?_set]
  by_cases hiq : q = i
  · subst hiq
    rw [if_pos rfl, if_pos (by rw [List.length_append, hlt, List.length_drop]; omega), List.getElem?_append_left (by omega), List.getElem?_take, if_pos (by omega), List.getElem?_eq_getElem hq]
  · rw [if_neg hiq, List.getElem?_append, List.getElem?_append, hlt, hlt2, List.getElem?_take, List.getElem?_take, List.getElem?_drop, List.getElem?_drop]
    by_cases h1 : i < q
    · rw [if_pos h1, if_pos h1, if_pos (by omega), if_pos (by omega)]
    · rw [if_neg h1, if_neg (by omega)]
      congr 1
      omega

def RSt.write (t : RSt) (i : Int) (l : List UInt8) : Int × RSt :=
  if t.step.off then (131, t.step) else if i < 0 ∨ (t.n : Int) ≤ i ∨ 64 < l.length then (130, t.step)
  else (0, { t.step with now := fun j => if j = i.toNat then l ++ (t.now i.toNat).drop l.length else t.now j, pend := fun j => decide (j = i.toNat) || t.pend j })

set_option maxHeartbeats 2000000 in
set_option maxRecDepth 100000 in
theorem RWrite_c (r a b p : Nat) (t : RSt) (i : Int) (A : Option Addr) (n c : Nat) (l : List UInt8) (w : World) (h : IsRef w r a b p t) (hb : RB w A n l) (hA : n ≠ 0 → ∀ x, A = some x → x.block ≠ r ∧ x.block ≠ a) (hs : t.steps + 1 < 4611686018427387904) :
    Calls Try.prog 47 #[.pointer (some ⟨r, 0, none⟩), .int .i64 i, .slice A n c] w fun e w' => e = .returned (.int .i64 (t.write i l).1) ∧ IsRef w' r a b p (t.write i l).2 ∧ Fr [r, a, p] w w' := by
  have hn := h.n_le
  have hln := hb.1
  unfold RSt.write
  cases hoff : t.step.off with
  | true =>
    simp only [if_true]
    go_enter Try.func47, Try.ntmps47
    go_wp2_with fail
    refine (Rstep_c r a b p t w h hs).mono ?_
    rw [hoff]
    rintro e w1 ⟨rfl, hR1, hf1⟩
    go_wp2_with fail
    go_ret
    exact ⟨rfl, hR1, hf1.mono (by simp)⟩
  | false =>
    simp only [Bool.false_eq_true, if_false]
    by_cases hi : i < 0 ∨ (t.n : Int) ≤ i ∨ 64 < l.length
    · simp only [if_pos hi]
      have hi' : i < 0 ∨ (t.n : Int) ≤ i ∨ (64 : Int) < (n : Int) := by omega
      clear hi
      go_enter Try.func47, Try.ntmps47
      go_wp2_with fail
      refine (Rstep_c r a b p t w h hs).mono ?_
      rw [hoff]
      rintro e w1 ⟨rfl, hR1, hf1⟩
      have c0 : w1.cell? ⟨r, 0, none⟩ = some (.slice (some ⟨a, 0, none⟩) t.n t.n) := hR1.c0
      go_wp2_with fail
      all_goals go_ret
      all_goals exact ⟨rfl, hR1, hf1.mono (by simp)⟩
    · simp only [if_neg hi]
      obtain ⟨j, rfl⟩ : ∃ j : Nat, i = (j : Int) := ⟨i.toNat, by omega⟩
      have hj : j < t.n := by omega
      have hl64 : l.length ≤ 64 := by omega
      have hn64 : n ≤ 64 := by omega
      have hn64' : ¬ (64 : Int) < (n : Int) := by omega
      rw [Int.toNat_natCast]
      have hj2 : ¬ t.n ≤ j := by omega
      clear hi
      replace hln := hid hln
      have hx := h.apart
      go_enter Try.func47, Try.ntmps47
      go_wp2_with fail
      refine (Rstep_c r a b p t w h hs).mono ?_
      rw [hoff]
      rintro e w1 ⟨rfl, hR1, hf1⟩
      have c0 : w1.cell? ⟨r, 0, none⟩ = some (.slice (some ⟨a, 0, none⟩) t.n t.n) := hR1.c0
      have hb1 := hb.kept' hf1 (fun h0 x hx => by have := hA h0 x hx; simp; omega)
      go_wp2_with fail
      have hnowlen := h.now.len j
      have c0' := hid c0
      clear c0
      go_loopw [7] (fun kv wr => ∃ k : Nat, k ≤ n ∧ kv = .int .i64 k ∧ Fr [a] w1 wr ∧ Rows64 wr a t.n (fun q => if q = j then l.take k ++ (t.now j).drop k else t.now q)) (fun kv _ => n - (intOf kv).toNat)
      case atStart =>
        refine ⟨0, by omega, rfl, Fr.refl _ _, hR1.now.congr (fun q hq => ?_) (fun q => ?_)⟩
        · show t.now q = _
          split
          · rename_i h0; subst h0; simp
          · rfl
        · split
          · simpa using hnowlen
          · exact h.now.len q
      case round =>
        obtain ⟨k, hk, rfl, hfr, hrows⟩ := hrel
        have c0 := hfr.cell c0'.out (by simp; omega)
        have hbr := hb1.kept' hfr (fun h0 x hx => by have := hA h0 x hx; simp; omega)
        by_cases hkn : k < n
        · obtain ⟨bb, off, rfl, hc⟩ : ∃ bb off, A = some ⟨bb, off, none⟩ ∧ ∀ j (h : j < l.length), wr.cell? ⟨bb, off + j, none⟩ = some (.int .u8 (l[j].toNat : Int)) := by
            rcases hbr.2.2 with h0 | h0
            · omega
            · exact h0
          have hln2 := hln.out
          have hci := hc k (by omega)
          have hrc := hrows.cell hj (k := k) (by omega)
          have hrz := hrows.z hj (k := k) (by omega)
          have hset := hrows.set hj (k := k) (by omega) (l[k]'(by omega)) _ rfl
          clear hc hbr
          go_wp2_with fail
          refine wp_region_text' (by kernel_rfl) (by kernel_rfl) ?_
          intro K hK
          have c0d : wr.drew.cell? ⟨r, 0, none⟩ = _ := c0
          have hcid : wr.drew.cell? ⟨bb, off + k, none⟩ = _ := hci
          have hrcd : wr.drew.cell? ⟨a, j * 64 + k, none⟩ = _ := hrc
          have hrzd : wr.drew.frozen? ⟨a, j * 64 + k, none⟩ = _ := hrz
          have hki : (k : Int) < 64 := by omega
          go_wp2_with fail
          refine hK _ _ (by kernel_rfl) ?_
          go_wp2_with fail
          try go_frame
          go_roundw
          case rel =>
            refine ⟨k + 1, by omega, rfl, (hfr.setCell ⟨a, j * 64 + k, none⟩ (.inl (by simp)) _).drew, ?_⟩
            refine ((hset.kept (Fr.refl [] _).drew (by simp)).congr (fun q hq => ?_) (fun q => ?_))
            · split
              · rename_i h0
                rw [if_pos trivial]
                exact take_drop_set l (t.now j) (by omega) k (by omega)
              · rfl
            · split
              · rw [List.length_append, List.length_take, List.length_drop]; omega
              · exact h.now.len q
          case measure => simp [intOf]; omega
        · have hke : k = n := by omega
          subst hke
          have hRr : IsRef wr r a b p { t.step with now := fun q => if q = j then l ++ (t.now j).drop l.length else t.now q } := by
            refine ⟨h.n_le, (hfr.block r hR1.rlt (by simp; omega)).trans hR1.blk, ?_, hR1.kept.kept hfr (by simp; omega), Nat.lt_of_lt_of_le hR1.plt hfr.size,
              fun q hq => ⟨(cell_fr hfr hR1.plt (by simp; omega) q).trans (hR1.pend q hq).1, (frozen_fr hfr hR1.plt (by simp; omega) q).trans (hR1.pend q hq).2⟩, hR1.apart, hR1.steps, hR1.power⟩
            have : l.take k = l := List.take_of_length_le (by rw [hln.out]; exact Nat.le_refl _)
            rw [this, ← hln.out] at hrows
            exact hrows
          have c2 : wr.cell? ⟨r, 2, none⟩ = some (.slice (some ⟨p, 0, none⟩) t.n t.n) := hRr.c2
          obtain ⟨pc, pz⟩ := hRr.pend j hj
          go_wp2_with fail
          go_ret
          refine ⟨rfl, ?_, ((hf1.mono (by simp)).trans hfr (by simp)).setCell _ (.inl (by simp)) _⟩
          have hfp : Fr [p] wr (wr.setCell ⟨p, j, none⟩ (.bool true)) := (Fr.refl [p] wr).setCell _ (.inl (by simp)) _
          suffices key : IsRef (wr.setCell ⟨p, j, none⟩ (.bool true)) r a b p { t.step with now := fun q => if q = j then l ++ (t.now j).drop l.length else t.now q, pend := fun q => decide (q = j) || t.pend q } by
            dsimp only at key
            rw [hoff] at key
            exact key
          refine ⟨h.n_le, (hfp.block r hRr.rlt (by simp; omega)).trans (hRr.blk.trans (by rfl)), hRr.now.kept hfp (by simp; omega), hRr.kept.kept hfp (by simp; omega), Nat.lt_of_lt_of_le hRr.plt hfp.size, fun q hq => ?_, hRr.apart, hRr.steps, hRr.power⟩
          dsimp only
          rw [World.frozen?_setCell]
          refine ⟨?_, (hRr.pend q hq).2⟩
          by_cases hqj : q = j
          · subst hqj
            rw [World.cell?_setCell_same _ _ _ (by rw [pc])]
            simp
          · rw [World.cell?_setCell_other _ _ _ _ (by intro e; injection e with _ e; exact hqj e.symm), (hRr.pend q hq).1]
            simp [hqj]
            rfl

def RSt.flush (t : RSt) : Int × RSt := if t.step.off then (131, t.step) else (0, { t.step with kept := t.now, pend := fun _ => false })

set_option maxHeartbeats 2000000 in
set_option maxRecDepth 100000 in
theorem RFlush_c (r a b p : Nat) (t : RSt) (w : World) (h : IsRef w r a b p t) (hs : t.steps + 1 < 4611686018427387904) :
    Calls Try.prog 48 #[.pointer (some ⟨r, 0, none⟩)] w fun e w' => e = .returned (.int .i64 t.flush.1) ∧ IsRef w' r a b p t.flush.2 ∧ Fr [r, b, p] w w' := by
  have hn := h.n_le
  unfold RSt.flush
  cases hoff : t.step.off with
  | true =>
    simp only [if_true]
    go_enter Try.func48, Try.ntmps48
    go_wp2_with fail
    refine (Rstep_c r a b p t w h hs).mono ?_
    rw [hoff]
    rintro e w1 ⟨rfl, hR1, hf1⟩
    go_wp2_with fail
    go_ret
    exact ⟨rfl, hR1, hf1.mono (by simp)⟩
  | false =>
    simp only [Bool.false_eq_true, if_false]
    have hx := h.apart
    go_enter Try.func48, Try.ntmps48
    go_wp2_with fail
    refine (Rstep_c r a b p t w h hs).mono ?_
    rw [hoff]
    rintro e w1 ⟨rfl, hR1, hf1⟩
    go_wp2_with fail
    go_loopw [3] (fun iv wr => ∃ i : Nat, i ≤ t.n ∧ iv = .int .i64 i ∧ Fr [b, p] w1 wr ∧ Rows64 wr b t.n (fun q => if q < i then t.now q else t.kept q) ∧ (∀ q, q < t.n → wr.cell? ⟨p, q, none⟩ = some (.bool (if q < i then false else t.pend q)) ∧ wr.frozen? ⟨p, q, none⟩ = false)) (fun iv _ => t.n - (intOf iv).toNat)
    case atStart => exact ⟨0, by omega, rfl, Fr.refl _ _, hR1.kept.congr (fun q hq => by rw [if_neg (by omega)]; rfl) (fun q => by rw [if_neg (by omega)]; exact h.kept.len q), fun q hq => by rw [if_neg (by omega)]; exact hR1.pend q hq⟩
    case round =>
      obtain ⟨i, hi, rfl, hfr, hrows, hpend⟩ := hrel
      have c0 : wr.cell? ⟨r, 0, none⟩ = some (.slice (some ⟨a, 0, none⟩) t.n t.n) := hfr.cell hR1.c0 (by simp; omega)
      have c1 : wr.cell? ⟨r, 1, none⟩ = some (.slice (some ⟨b, 0, none⟩) t.n t.n) := hfr.cell hR1.c1 (by simp; omega)
      have c2 : wr.cell? ⟨r, 2, none⟩ = some (.slice (some ⟨p, 0, none⟩) t.n t.n) := hfr.cell hR1.c2 (by simp; omega)
      by_cases hin : i < t.n
      · have hrn := range_fr hfr (hR1.now.rows i hin) hR1.now.lt (by simp; omega)
        have hnl := h.now.len i
        obtain ⟨pc, pz⟩ := hpend i hin
        have hput := hrows.put hin (t.now i) hnl
        have hrz := there_sub hrows.there (o := i * 64) (n := 64) (by omega)
        have hpend' := hid hpend
        clear hpend
        go_wp2_with fail
        refine wp_region_text' (by kernel_rfl) (by kernel_rfl) ?_
        intro K hK
        have c0d : wr.drew.cell? ⟨r, 0, none⟩ = _ := c0
        have c1d : wr.drew.cell? ⟨r, 1, none⟩ = _ := c1
        have c2d : wr.drew.cell? ⟨r, 2, none⟩ = _ := c2
        have hrnd : wr.drew.rangeAt a (i * 64) ((t.now i).map encB) := hrn
        have hrzd : wr.drew.there b (i * 64) 64 := hrz
        have hfd : Fr [b, p] w1 wr.drew := hfr.drew
        have hputd : Rows64 (wr.drew.setCells b (i * 64) ((t.now i).map encB)) b t.n (fun q => if q = i then t.now i else if q < i then t.now q else t.kept q) := (Rows64.kept (hrows) (Fr.refl [] wr).drew (by simp)).put hin (t.now i) hnl
        have pcd : wr.drew.cell? ⟨p, i, none⟩ = _ := pc
        have pzd : wr.drew.frozen? ⟨p, i, none⟩ = _ := pz
        have hpd : ∀ q, q < t.n → wr.drew.cell? ⟨p, q, none⟩ = some (.bool (if q < i then false else t.pend q)) ∧ wr.drew.frozen? ⟨p, q, none⟩ = false := hpend'.out
        have hpd' := hid hpd
        clear hput c0 c1 c2 hrn hrz hpend' pc pz hrows hfr hpd
        generalize wr.drew = w2 at *
        go_wp2_with (first | (with_reducible refine stop_ld2 55 rfl ?_) | (with_reducible refine stop_st2 55 rfl ?_))
        refine Stop.go (ld_arr 55 ((t.now i).map encB) (.array 64 5) Try.underlying55 rfl (by rw [List.length_map, hnl]; exact (zero_of_info info55).2) rfl rfl a (i * 64) rfl hrnd ?_)
        go_wp2_with (first | (with_reducible refine stop_ld2 55 rfl ?_) | (with_reducible refine stop_st2 55 rfl ?_))
        refine Stop.go (st_arr 55 ((t.now i).map encB) (by rw [List.length_map, hnl]; exact (zero_of_info info55).2) encB_one rfl rfl b (i * 64) rfl rfl (by rw [List.length_map, hnl]; exact hrzd) ?_)
        intro w3 hw3 hr3 hf3
        rw [← hw3] at hputd
        clear hw3
        have pc3 := hf3.cell pcd (by simp; omega)
        have pz3 := (frozen_fr hf3 (World.block_lt_of_cell? w2 _ pcd) (by simp; omega) i).trans pzd
        have hp3 : ∀ q, q < t.n → w3.cell? ⟨p, q, none⟩ = some (.bool (if q < i then false else t.pend q)) ∧ w3.frozen? ⟨p, q, none⟩ = false := fun q hq => by
          have := hpd'.out q hq
          exact ⟨hf3.cell this.1 (by simp; omega), (frozen_fr hf3 (World.block_lt_of_cell? w2 _ pcd) (by simp; omega) q).trans this.2⟩
        have hp3' := hid hp3
        clear hp3 hr3 hrnd hrzd c0d c1d c2d pcd pzd
        go_wp2_with fail
        refine hK _ _ (by kernel_rfl) ?_
        go_wp2_with fail
        try go_frame
        go_roundw
        case rel =>
          refine ⟨i + 1, by omega, rfl, ((hfd.trans hf3 (by simp)).setCell ⟨p, i, none⟩ (.inl (by simp)) _), ?_, fun q hq => ?_⟩
          · refine (hputd.kept ((Fr.refl [p] w3).setCell ⟨p, i, none⟩ (.inl (by simp)) _) (by simp; omega)).congr (fun q hq => ?_) (fun q => ?_)
            · by_cases hqi : q = i
              · rw [if_pos hqi, if_pos (by omega), hqi]
              · rw [if_neg hqi]
                by_cases h1 : q < i
                · rw [if_pos h1, if_pos (by omega)]
                · rw [if_neg h1, if_neg (by omega)]
            · split
              · exact h.now.len q
              · exact h.kept.len q
          · have := hp3'.out q hq
            rw [World.frozen?_setCell]
            refine ⟨?_, this.2⟩
            by_cases hqi : q = i
            · subst hqi
              rw [if_pos (by omega), World.cell?_setCell_same _ _ _ (by rw [pc3])]
            · rw [World.cell?_setCell_other _ _ _ _ (by intro e; injection e with _ e; exact hqi e.symm), this.1]
              by_cases h1 : q < i
              · rw [if_pos h1, if_pos (by omega)]
              · rw [if_neg h1, if_neg (by omega)]
        case measure => simp [intOf]; omega
      · have hie : i = t.n := by omega
        have hRr : IsRef wr r a b p { t.step with kept := t.now, pend := fun _ => false } := by
          refine ⟨h.n_le, (hfr.block r hR1.rlt (by simp; omega)).trans hR1.blk, hR1.now.kept hfr (by simp; omega), hrows.congr (fun q hq => by rw [if_pos (by have hq' : q < t.n := hq; omega)]) h.now.len, Nat.lt_of_lt_of_le hR1.plt hfr.size, fun q hq => ?_, hR1.apart, hR1.steps, hR1.power⟩
          have := hpend q hq
          rw [if_pos (by have hq' : q < t.n := hq; omega)] at this
          exact this
        subst hie
        go_wp2_with fail
        go_ret
        rw [hoff] at hRr
        exact ⟨rfl, hRr, (hf1.mono (by simp)).trans hfr (by simp)⟩
end Go.Proofs.Ytiialjncdhhceaa
