/- The document's disk of sectors: what Crash does. -/
import Derived.Test.YtiialjncdhhceaaSecRef2
namespace Go.Proofs.Ytiialjncdhhceaa
open Go.RowKit
set_option linter.unusedVariables false
set_option linter.unusedSimpArgs false

def RSt.rank (t : RSt) (i : Nat) : Nat := ((List.range i).filter t.pend).length
def RSt.mix (t : RSt) (ch : List UInt8) (i : Nat) : List UInt8 := torn (ch.getD (t.rank i) 0) (t.now i) (t.kept i)
def RSt.crashNow (t : RSt) (ch : List UInt8) (i : Nat) : List UInt8 := if t.pend i then t.mix ch i else t.now i
def RSt.crashKept (t : RSt) (ch : List UInt8) (i : Nat) : List UInt8 := if t.pend i then t.mix ch i else t.kept i
def RSt.crash (t : RSt) (ch : List UInt8) : RSt := { t with now := t.crashNow ch, kept := t.crashKept ch, pend := fun _ => false, power := 0, off := false }
theorem RSt.rank_succ (t : RSt) (i : Nat) : t.rank (i + 1) = if t.pend i then t.rank i + 1 else t.rank i := by
  unfold RSt.rank
  rw [List.range_succ, List.filter_append, List.length_append, List.filter_cons]
  split <;> simp
theorem RSt.rank_le (t : RSt) (i : Nat) : t.rank i ≤ i := by
  unfold RSt.rank
  exact Nat.le_trans (List.length_filter_le _ _) (by rw [List.length_range]; exact Nat.le_refl _)
theorem rows_step {w : World} {a n i : Nat} {R C : Nat → List UInt8} (h : Rows64 w a n (fun q => if q = i then C i else if q < i then C q else R q)) (hC : ∀ q, (C q).length = 64) (hR : ∀ q, (R q).length = 64) : Rows64 w a n (fun q => if q < i + 1 then C q else R q) := by
  refine h.congr (fun q hq => ?_) (fun q => ?_)
  · by_cases hqi : q = i
    · rw [if_pos hqi, if_pos (by omega), hqi]
    · rw [if_neg hqi]
      by_cases h1 : q < i
      · rw [if_pos h1, if_pos (by omega)]
      · rw [if_neg h1, if_neg (by omega)]
  · split
    · exact hC q
    · exact hR q
theorem rows_same {w : World} {a n i : Nat} {R C : Nat → List UInt8} (h : Rows64 w a n (fun q => if q < i then C q else R q)) (hi : C i = R i) (hC : ∀ q, (C q).length = 64) (hR : ∀ q, (R q).length = 64) : Rows64 w a n (fun q => if q < i + 1 then C q else R q) := by
  refine h.congr (fun q hq => ?_) (fun q => ?_)
  · by_cases hqi : q = i
    · rw [if_neg (by omega), if_pos (by omega), hqi, hi]
    · by_cases h1 : q < i
      · rw [if_pos h1, if_pos (by omega)]
      · rw [if_neg h1, if_neg (by omega)]
  · split
    · exact hC q
    · exact hR q
theorem torn_at (x : UInt8) {N K : List UInt8} (h1 : N.length = 64) (h2 : K.length = 64) (j : Nat) (hj : j < 64) (hT : j < (torn x N K).length) : (torn x N K)[j] = if j < tornN x then N[j]'(by omega) else K[j]'(by omega) := by
  have := torn_get? x h1 h2 j
  rw [List.getElem?_eq_getElem hT] at this
  by_cases h : j < tornN x
  · rw [if_pos h] at this ⊢
    rw [List.getElem?_eq_getElem (by omega)] at this
    exact Option.some.inj this
  · rw [if_neg h] at this ⊢
    rw [List.getElem?_eq_getElem (by omega)] at this
    exact Option.some.inj this
theorem take_drop_same (T K : List UInt8) (h : T.length = K.length) (q : Nat) (hq : q < T.length) (he : T[q] = K[q]'(by omega)) : T.take q ++ K.drop q = T.take (q + 1) ++ K.drop (q + 1) := by
  have h1 := take_drop_set T K (by omega) q hq
  rw [← h1, he]
  apply List.ext_getElem?
  intro i
  rw [List.getElem?_set]
  by_cases hiq : q = i
  · subst hiq
    have hl : (T.take q).length = q := by rw [List.length_take]; omega
    rw [if_pos rfl, if_pos (by rw [List.length_append, hl, List.length_drop]; omega), List.getElem?_append_right (by omega), hl, Nat.sub_self, List.getElem?_drop, Nat.add_zero, List.getElem?_eq_getElem (by omega)]
  · rw [if_neg hiq]

set_option maxHeartbeats 8000000 in
set_option maxRecDepth 100000 in
theorem RCrash_c (r a b p : Nat) (t : RSt) (A : Option Addr) (n c : Nat) (ch : List UInt8) (w : World) (h : IsRef w r a b p t) (hb : RB w A n ch) (hA : n ≠ 0 → ∀ x, A = some x → x.block ≠ r ∧ x.block ≠ a ∧ x.block ≠ b ∧ x.block ≠ p) :
    Calls Try.prog 51 #[.pointer (some ⟨r, 0, none⟩), .slice A n c] w fun e w' => e = .returned (.tuple #[]) ∧ IsRef w' r a b p (t.crash ch) ∧ Fr [r, a, b, p] w w' := by
  have hn := h.n_le
  have hln := hb.1
  have hx := h.apart
  have c4 := h.c4
  have c5 := h.c5
  have z4 := h.z 4
  have z5 := h.z 5
  have hmixl : ∀ q, (t.mix ch q).length = 64 := fun q => torn_len _ (h.now.len q) (h.kept.len q)
  have hcn : ∀ q, (t.crashNow ch q).length = 64 := fun q => by
    unfold RSt.crashNow
    split
    · exact hmixl q
    · exact h.now.len q
  have hck : ∀ q, (t.crashKept ch q).length = 64 := fun q => by
    unfold RSt.crashKept
    split
    · exact hmixl q
    · exact h.kept.len q
  have hf1 : Fr [r] w ((w.setCell ⟨r, 5, none⟩ (.bool false)).setCell ⟨r, 4, none⟩ (.int .i64 0)) := ((Fr.refl [r] w).setCell _ (.inl (by simp)) _).setCell _ (.inl (by simp)) _
  have hR1 : IsRef ((w.setCell ⟨r, 5, none⟩ (.bool false)).setCell ⟨r, 4, none⟩ (.int .i64 0)) r a b p { t with power := 0, off := false } := by
    refine h.upd hf1 ?_ ⟨rfl, rfl, rfl, rfl⟩ h.steps (show (0 : Nat) < 9223372036854775808 by omega)
    have hb1 := heap_setCell_same w r 5 _ _ (.bool false) h.blk
    exact (heap_setCell_same _ r 4 _ _ (.int .i64 0) hb1).trans rfl
  go_enter Try.func51, Try.ntmps51
  go_wp2_with fail
  generalize (w.setCell ⟨r, 5, none⟩ (.bool false)).setCell ⟨r, 4, none⟩ (.int .i64 0) = w1 at *
  have hb1 := hb.kept' hf1 (fun h0 x hx => by have := hA h0 x hx; simp; omega)
  clear c4 c5 z4 z5
  go_loopw [4, 5] (fun kv iv wr => ∃ i : Nat, i ≤ t.n ∧ iv = .int .i64 i ∧ kv = .int .i64 (t.rank i) ∧ Fr [a, b, p] w1 wr ∧ Rows64 wr a t.n (fun q => if q < i then t.crashNow ch q else t.now q) ∧ Rows64 wr b t.n (fun q => if q < i then t.crashKept ch q else t.kept q) ∧ (∀ q, q < t.n → wr.cell? ⟨p, q, none⟩ = some (.bool (if q < i then false else t.pend q)) ∧ wr.frozen? ⟨p, q, none⟩ = false)) (fun _ iv _ => t.n - (intOf iv).toNat)
  case atStart => exact ⟨0, by omega, rfl, rfl, Fr.refl _ _, hR1.now.congr (fun q hq => by rw [if_neg (by omega)]) (fun q => by rw [if_neg (by omega)]; exact h.now.len q), hR1.kept.congr (fun q hq => by rw [if_neg (by omega)]) (fun q => by rw [if_neg (by omega)]; exact h.kept.len q), fun q hq => by rw [if_neg (by omega)]; exact hR1.pend q hq⟩
  case round =>
    obtain ⟨i, hi, rfl, rfl, hfr, hrn, hrk, hpend⟩ := hrel
    obtain ⟨wo, rfl⟩ : ∃ wo, wo = wr := ⟨_, rfl⟩
    have c0 : wo.cell? ⟨r, 0, none⟩ = some (.slice (some ⟨a, 0, none⟩) t.n t.n) := hfr.cell hR1.c0 (by simp; omega)
    have c1 : wo.cell? ⟨r, 1, none⟩ = some (.slice (some ⟨b, 0, none⟩) t.n t.n) := hfr.cell hR1.c1 (by simp; omega)
    have c2 : wo.cell? ⟨r, 2, none⟩ = some (.slice (some ⟨p, 0, none⟩) t.n t.n) := hfr.cell hR1.c2 (by simp; omega)
    have hrl : r < wo.heap.size := World.block_lt_of_cell? wo _ c0
    by_cases hin : i < t.n
    · obtain ⟨pc, pz⟩ := hpend i hin
      rw [if_neg (by omega)] at pc
      have hpl : p < wo.heap.size := World.block_lt_of_cell? wo _ pc
      replace hpend := hid hpend
      cases hpi : t.pend i with
      | false =>
        rw [hpi] at pc
        have hrn' := rows_same hrn (by unfold RSt.crashNow; rw [hpi]; rfl) hcn h.now.len
        have hrk' := rows_same hrk (by unfold RSt.crashKept; rw [hpi]; rfl) hck h.kept.len
        have hrank := t.rank_succ i
        rw [hpi, if_neg (by simp)] at hrank
        replace hrn' := hid hrn'
        replace hrk' := hid hrk'
        clear hrn hrk
        go_wp2_with fail
        try go_frame
        go_roundw
        case rel =>
          refine ⟨i + 1, by omega, rfl, by rw [hrank], hfr, hrn'.out, hrk'.out, fun q hq => ?_⟩
          have := hpend.out q hq
          refine ⟨?_, this.2⟩
          rw [this.1]
          by_cases hqi : q = i
          · subst hqi
            rw [if_neg (by omega), if_pos (by omega), hpi]
          · by_cases h1 : q < i
            · rw [if_pos h1, if_pos (by omega)]
            · rw [if_neg h1, if_neg (by omega)]
        case measure => simp [intOf]; omega
      | true =>
        rw [hpi] at pc
        have hrank := t.rank_succ i
        rw [hpi, if_pos rfl] at hrank
        obtain ⟨x, hxx⟩ : ∃ x, x = ch.getD (t.rank i) 0 := ⟨_, rfl⟩
        have hmix : t.mix ch i = torn x (t.now i) (t.kept i) := by unfold RSt.mix; rw [hxx]
        have hxl := x.toNat_lt
        have hrle := t.rank_le i
        have hrowk := hrk.rows i hin
        rw [if_neg (by omega)] at hrowk
        have hnl := h.now.len i
        have hkl := h.kept.len i
        have hbr := hb1.kept' hfr (fun h0 x hx => by have := hA h0 x hx; simp; omega)
        replace hrank := hid hrank
        replace hrn := hid hrn
        replace hrk := hid hrk
        replace hmix := hid hmix
        by_cases hkn : t.rank i < n
        · obtain ⟨bb, off, rfl, hc⟩ : ∃ bb off, A = some ⟨bb, off, none⟩ ∧ ∀ j (h : j < ch.length), wo.cell? ⟨bb, off + j, none⟩ = some (.int .u8 (ch[j].toNat : Int)) := by
            rcases hbr.2.2 with h0 | h0
            · omega
            · exact h0
          have hci := hc (t.rank i) (by omega)
          have hxe : ch[t.rank i]'(by omega) = x := by
            rw [hxx, List.getD_eq_getElem?_getD, List.getElem?_eq_getElem (by omega)]
            rfl
          rw [hxe] at hci
          clear hc hbr hxe hxx
          go_wp2_with (first | (with_reducible refine stop_ld2 55 rfl ?_) | (with_reducible refine stop_al2 55 rfl ?_) | (with_reducible refine stop_st2 55 rfl ?_))
          refine Stop.go (ld_arr 55 ((t.kept i).map encB) (.array 64 5) Try.underlying55 rfl (by rw [List.length_map, hkl]; exact (zero_of_info info55).2) rfl rfl b (i * 64) rfl hrowk ?_)
          go_wp2_with (first | (with_reducible refine stop_ld2 55 rfl ?_) | (with_reducible refine stop_al2 55 rfl ?_) | (with_reducible refine stop_st2 55 rfl ?_))
          refine Stop.go (al_arr 55 info55 rfl rfl ?_)
          intro w2 hb2 hs2 hf2
          obtain ⟨sb, hsb⟩ : ∃ sb, sb = wo.heap.size := ⟨_, rfl⟩
          rw [← hsb] at hb2 hs2
          rw [← hsb]
          replace hsb := hid hsb
          go_wp2_with (first | (with_reducible refine stop_ld2 55 rfl ?_) | (with_reducible refine stop_al2 55 rfl ?_) | (with_reducible refine stop_st2 55 rfl ?_))
          refine Stop.go (st_arr 55 ((t.kept i).map encB) (by rw [List.length_map, hkl]; exact (zero_of_info info55).2) encB_one rfl rfl sb (0) rfl rfl (by rw [List.length_map, hkl]; exact there_of_block hb2 (by rw [secA_size, zeros64_len]; omega)) ?_)
          intro w3 hw3 hr3 hf3
          have hth3 : w3.there sb 0 64 := by rw [hw3]; exact World.there_setCells (there_of_block hb2 (by rw [secA_size, zeros64_len]; omega)) _ _ _
          have hsb3 : sb < w3.heap.size := Nat.lt_of_lt_of_le (by have := hsb.out; omega) hf3.size
          have hR3 : Rows64 w3 sb 1 (fun _ => t.kept i) := by
            refine ⟨hsb3, fun _ => hkl, fun q hq => ?_, by rw [Nat.one_mul]; exact hth3⟩
            have hq0 : q = 0 := by omega
            rw [hq0, Nat.zero_mul]
            exact hr3
          have hf13 : Fr [] wo w3 := hf2.trans hf3 (by intro z hz; simp at hz; right; rw [hz, hsb.out]; exact Nat.le_refl _)
          clear hw3 hr3 hth3 hb2 hrowk
          have hsbge : wo.heap.size ≤ sb := by rw [hsb.out]; exact Nat.le_refl _
          have c03 := hf13.cell c0 (by simp)
          have c23 := hf13.cell c2 (by simp)
          have c13 := hf13.cell c1 (by simp)
          have hrn3 := hid (hrn.out.kept hf13 (by simp))
          have hrk3 := hid (hrk.out.kept hf13 (by simp))
          have hpc3 := hf13.cell pc (by simp)
          have hpz3 := (frozen_fr hf13 hpl (by simp) i).trans pz
          have hal := hrn.out.lt
          have hbl := hrk.out.lt
          have hw3sz : wo.heap.size ≤ w3.heap.size := hf13.size
          clear c0 c1 c2 pc pz
          go_wp2_with (first | (with_reducible refine stop_ld2 55 rfl ?_) | (with_reducible refine stop_al2 55 rfl ?_) | (with_reducible refine stop_st2 55 rfl ?_))
          go_loopw [8] (fun jv wr => ∃ j : Nat, j ≤ 64 ∧ jv = .int .i64 j ∧ Fr [sb] w3 wr ∧ Rows64 wr sb 1 (fun _ => (t.mix ch i).take j ++ (t.kept i).drop j)) (fun jv _ => 64 - (intOf jv).toNat)
          case atStart => exact ⟨0, by omega, rfl, Fr.refl _ _, hR3.congr (fun q hq => by simp) (fun q => by simpa using hkl)⟩
          case round =>
            obtain ⟨j, hj, rfl, hfs, hS⟩ := hrel
            have c0 := hfs.cell c03 (by simp; omega)
            have hnrow : Rows64 wr a t.n (fun q => if q < i then t.crashNow ch q else t.now q) := (hrn3.out.kept hfs (by simp; omega))
            by_cases hj64 : j < 64
            · have hnc : wr.cell? ⟨a, i * 64 + j, none⟩ = some (.int .u8 (((t.now i)[j]'(by omega)).toNat : Int)) := by
                have := hnrow.cell hin hj64
                simp only [if_neg (show ¬ i < i by omega)] at this
                exact this
              have hsc := hS.cell (i := 0) (by omega) hj64
              have hsz := hS.z (i := 0) (by omega) hj64
              rw [Nat.zero_mul, Nat.zero_add] at hsc hsz
              have hset := hS.set (i := 0) (by omega) hj64 ((t.now i)[j]'(by omega)) _ rfl
              rw [Nat.zero_mul, Nat.zero_add] at hset
              have hTat : (t.mix ch i)[j]'(by rw [hmixl]; exact hj64) = if j < tornN x then (t.now i)[j]'(by omega) else (t.kept i)[j]'(by omega) := by
                have := torn_at x hnl hkl j hj64 (by rw [torn_len x hnl hkl]; exact hj64)
                simp only [← hmix.out] at this
                exact this
              replace hset := hid hset
              replace hTat := hid hTat
              replace hS := hid hS
              have hji : (j : Int) < 64 := by omega
              clear hnrow
              by_cases h255 : (x.toNat : Int) = 255
              · have h255b : ((x.toNat : Int) == 255) = true := by simp [h255]
                have hjt : j < tornN x := by
                  unfold tornN
                  rw [if_pos (UInt8.toNat_inj.1 (by show x.toNat = 255; omega))]
                  exact hj64
                go_wp2_with fail
                try go_frame
                go_roundw
                case rel =>
                  refine ⟨j + 1, by omega, rfl, hfs.setCell ⟨sb, j, none⟩ (.inl (by simp)) _, hset.out.congr (fun q hq => ?_) (fun q => ?_)⟩
                  · have hq0 : q = 0 := by omega
                    rw [if_pos hq0]
                    have := take_drop_set (t.mix ch i) (t.kept i) (by rw [hmixl, hkl]; exact Nat.le_refl _) j (by rw [hmixl]; exact hj64)
                    rw [hTat.out, if_pos hjt] at this
                    exact this
                  · rw [List.length_append, List.length_take, List.length_drop, hmixl, hkl]; omega
                case measure => simp [intOf]; omega
              · have h255b : ((x.toNat : Int) == 255) = false := by simp; omega
                have hT : tornN x = x.toNat % 64 := by
                  unfold tornN
                  rw [if_neg (by intro h; rw [h] at h255; exact h255 rfl)]
                by_cases hjt : j < tornN x
                · have h1 : (0 : Int) < (x.toNat : Int) := by omega
                  have h2 : (j : Int) < (x.toNat : Int) % 64 := by omega
                  clear hT
                  go_wp2_with fail
                  try go_frame
                  go_roundw
                  case rel =>
                    refine ⟨j + 1, by omega, rfl, hfs.setCell ⟨sb, j, none⟩ (.inl (by simp)) _, hset.out.congr (fun q hq => ?_) (fun q => ?_)⟩
                    · have hq0 : q = 0 := by omega
                      rw [if_pos hq0]
                      have := take_drop_set (t.mix ch i) (t.kept i) (by rw [hmixl, hkl]; exact Nat.le_refl _) j (by rw [hmixl]; exact hj64)
                      rw [hTat.out, if_pos hjt] at this
                      exact this
                    · rw [List.length_append, List.length_take, List.length_drop, hmixl, hkl]; omega
                  case measure => simp [intOf]; omega
                · have h2 : ¬ (j : Int) < (x.toNat : Int) % 64 := by omega
                  clear hT
                  by_cases h1 : (0 : Int) < (x.toNat : Int)
                  · go_wp2_with fail
                    try go_frame
                    go_roundw
                    case rel =>
                      refine ⟨j + 1, by omega, rfl, hfs, hS.out.congr (fun q hq => ?_) (fun q => ?_)⟩
                      · exact take_drop_same (t.mix ch i) (t.kept i) (by rw [hmixl, hkl]) j (by rw [hmixl]; exact hj64) (by rw [hTat.out, if_neg hjt])
                      · rw [List.length_append, List.length_take, List.length_drop, hmixl, hkl]; omega
                    case measure => simp [intOf]; omega
                  · go_wp2_with fail
                    try go_frame
                    go_roundw
                    case rel =>
                      refine ⟨j + 1, by omega, rfl, hfs, hS.out.congr (fun q hq => ?_) (fun q => ?_)⟩
                      · exact take_drop_same (t.mix ch i) (t.kept i) (by rw [hmixl, hkl]) j (by rw [hmixl]; exact hj64) (by rw [hTat.out, if_neg hjt])
                      · rw [List.length_append, List.length_take, List.length_drop, hmixl, hkl]; omega
                    case measure => simp [intOf]; omega
            · have hje : j = 64 := by omega
              subst hje
              have hfin : Rows64 wr sb 1 (fun _ => t.mix ch i) := hS.congr (fun q hq => by rw [List.take_of_length_le (by rw [hmixl]; exact Nat.le_refl _), List.drop_of_length_le (by rw [hkl]; exact Nat.le_refl _), List.append_nil]) (fun q => hmixl i)
              have hsr := hfin.rows 0 (by omega)
              rw [Nat.zero_mul] at hsr
              have c1s := hfs.cell c13 (by simp; omega)
              have c2s := hfs.cell c23 (by simp; omega)
              have pcs := hfs.cell hpc3 (by simp; omega)
              have pzs := (frozen_fr hfs (by omega) (by simp; omega) i).trans hpz3
              have hrns := hrn3.out.kept hfs (by simp; omega)
              have hrks := hrk3.out.kept hfs (by simp; omega)
              have hml := hmixl i
              have hthN := there_sub hrns.there (o := i * 64) (n := 64) (by omega)
              have hthK := there_sub hrks.there (o := i * 64) (n := 64) (by omega)
              replace hrns := hid hrns
              replace hrks := hid hrks
              clear hfin hS c03 c13 c23 hpc3 hpz3 hnrow
              have hssz := hfs.size
              go_wp2_with (first | (with_reducible refine stop_ld2 55 rfl ?_) | (with_reducible refine stop_al2 55 rfl ?_) | (with_reducible refine stop_st2 55 rfl ?_))
              refine wp_region_textS' (fun w' => Fr [a, b, p] wr.drew w') [3, 8, 13, 15, 16] [] [] [(19, []), (2, []), (2, [])] (by kernel_rfl) (by kernel_rfl) (by kernel_rfl) (Fr.refl _ _) ?_
              intro K hK
              simp only [cutAt, List.take_succ_cons, List.take_zero, List.drop_succ_cons, List.drop_zero, List.take_nil, List.drop_nil, wpSegs, List.map_cons, List.map_nil, List.nil_append, List.cons_append]
              have c0d : wr.drew.cell? ⟨r, 0, none⟩ = _ := c0
              have c1d : wr.drew.cell? ⟨r, 1, none⟩ = _ := c1s
              have c2d : wr.drew.cell? ⟨r, 2, none⟩ = _ := c2s
              have hsrd : wr.drew.rangeAt sb 0 ((t.mix ch i).map encB) := hsr
              have hthNd : wr.drew.there a (i * 64) 64 := hthN
              have hthKd : wr.drew.there b (i * 64) 64 := hthK
              have pcd : wr.drew.cell? ⟨p, i, none⟩ = _ := pcs
              have pzd : wr.drew.frozen? ⟨p, i, none⟩ = _ := pzs
              have hfd : Fr [sb] w3 wr.drew := hfs.drew
              have hrnd := hid (hrns.out.kept (Fr.refl [] wr).drew (by simp))
              have hrkd := hid (hrks.out.kept (Fr.refl [] wr).drew (by simp))
              have hszd : wr.drew.heap.size = wr.heap.size := rfl
              clear c0 c1s c2s hsr hthN hthK pcs pzs hrns hrks hfs
              generalize wr.drew = w5 at *
              go_wp2_with (first | (with_reducible refine stop_ld2 55 rfl ?_) | (with_reducible refine stop_al2 55 rfl ?_) | (with_reducible refine stop_st2 55 rfl ?_))
              refine Stop.go (ld_arr 55 ((t.mix ch i).map encB) (.array 64 5) Try.underlying55 rfl (by rw [List.length_map, hml]; exact (zero_of_info info55).2) rfl rfl sb (0) rfl hsrd ?_)
              go_wp2_with (first | (with_reducible refine stop_ld2 55 rfl ?_) | (with_reducible refine stop_al2 55 rfl ?_) | (with_reducible refine stop_st2 55 rfl ?_))
              refine Stop.go (ld_arr 55 ((t.mix ch i).map encB) (.array 64 5) Try.underlying55 rfl (by rw [List.length_map, hml]; exact (zero_of_info info55).2) rfl rfl sb (0) rfl hsrd ?_)
              go_wp2_with (first | (with_reducible refine stop_ld2 55 rfl ?_) | (with_reducible refine stop_al2 55 rfl ?_) | (with_reducible refine stop_st2 55 rfl ?_))
              refine Stop.go (st_arr 55 ((t.mix ch i).map encB) (by rw [List.length_map, hml]; exact (zero_of_info info55).2) encB_one rfl rfl a (i * 64) rfl rfl (by rw [List.length_map, hml]; exact hthNd) ?_)
              intro w6 hw6 hr6 hf6
              have hrn6 := hrnd.out.put hin (t.mix ch i) hml
              rw [← hw6] at hrn6
              have c16 := hf6.cell c1d (by simp; omega)
              have c26 := hf6.cell c2d (by simp; omega)
              have pc6 := hf6.cell pcd (by simp; omega)
              have pz6 := (frozen_fr hf6 (by omega) (by simp; omega) i).trans pzd
              have hthK6 := there_fr hf6 hthKd (by omega) (by simp; omega)
              have hrk6 := hid (hrkd.out.kept hf6 (by simp; omega))
              replace hrn6 := hid hrn6
              have hloadR : ∀ w' : World, Fr [a, b, p] w5 w' → (Instr.loadAt 55 (.pointer (some ⟨sb, 0, none⟩))).run Try.prog w' = .ok (.agg ((t.mix ch i).map encB).toArray) w' := fun w' hf => run_loadAt_mid w' sb 0 55 ((t.mix ch i).map encB) (.array 64 5) (range_fr hf hsrd (by omega) (by simp; omega)) Try.underlying55 rfl (by rw [List.length_map, hml]; exact (zero_of_info info55).2)
              have hl0 : ∀ w' : World, Fr [a, b, p] w5 w' → (Instr.loadAt 113 (.pointer (some ⟨r, 0, none⟩))).run Try.prog w' = _ := fun w' hf => load_cell 113 Try.underlying113 rfl (hf.cell c0d (by simp; omega))
              have hl1 : ∀ w' : World, Fr [a, b, p] w5 w' → (Instr.loadAt 113 (.pointer (some ⟨r, 1, none⟩))).run Try.prog w' = _ := fun w' hf => load_cell 113 Try.underlying113 rfl (hf.cell c1d (by simp; omega))
              have hl2 : ∀ w' : World, Fr [a, b, p] w5 w' → (Instr.loadAt 114 (.pointer (some ⟨r, 2, none⟩))).run Try.prog w' = _ := fun w' hf => load_cell 114 Try.underlying114 rfl (hf.cell c2d (by simp; omega))
              replace hloadR := hid hloadR
              replace hl0 := hid hl0
              replace hl1 := hid hl1
              replace hl2 := hid hl2
              clear hw6 hr6 c0d c1d c2d pcd pzd hthNd hthKd hsrd hrnd hrkd
              go_wp2_with (first | (with_reducible refine stop_ld2 55 rfl ?_) | (with_reducible refine stop_al2 55 rfl ?_) | (with_reducible refine stop_st2 55 rfl ?_))
              refine ⟨fun w' => Fr [a, b, p] w5 w', fun _ h => h, hf6.mono (by simp), ?_⟩
              go_wp2_with (first | (with_reducible refine stop_ld2 55 rfl ?_) | (with_reducible refine stop_al2 55 rfl ?_) | (with_reducible refine stop_st2 55 rfl ?_))
              refine Stop.go (st_arr 55 ((t.mix ch i).map encB) (by rw [List.length_map, hml]; exact (zero_of_info info55).2) encB_one rfl rfl b (i * 64) rfl rfl (by rw [List.length_map, hml]; exact hthK6) ?_)
              intro w7 hw7 hr7 hf7
              have hrk7 := hrk6.out.put hin (t.mix ch i) hml
              rw [← hw7] at hrk7
              have pc7 := hf7.cell pc6 (by simp; omega)
              have hs6 := hf6.size
              have pz7 := (frozen_fr hf7 (by omega) (by simp; omega) i).trans pz6
              have hrn7 := hrn6.out.kept hf7 (by simp; omega)
              clear hw7 hr7 c16 c26 pc6 pz6 hthK6
              replace hrk7 := hid hrk7
              replace hrn7 := hid hrn7
              have hs7 := hf7.size
              have hf57 : Fr [a, b, p] w5 w7 := (hf6.mono (by simp)).trans hf7 (by simp)
              go_wp2_with (first | (with_reducible refine stop_ld2 55 rfl ?_) | (with_reducible refine stop_al2 55 rfl ?_) | (with_reducible refine stop_st2 55 rfl ?_))
              refine ⟨fun w' => Fr [a, b, p] w5 w', fun _ h => h, hf57, ?_⟩
              go_wp2_with (first | (with_reducible refine stop_ld2 55 rfl ?_) | (with_reducible refine stop_al2 55 rfl ?_) | (with_reducible refine stop_st2 55 rfl ?_))
              refine ⟨fun w' => Fr [a, b, p] w5 w', fun _ h => h, hf57.setCell ⟨p, i, none⟩ (.inl (by simp)) _, ?_⟩
              go_wp2_with (first | (with_reducible refine stop_ld2 55 rfl ?_) | (with_reducible refine stop_al2 55 rfl ?_) | (with_reducible refine stop_st2 55 rfl ?_))
              refine ⟨trivial, hK _ _ (by kernel_rfl) ⟨fun o ho => ?_, fun o ho => ?_, fun o ho => ?_, fun o ho => ?_, fun o ho => ?_, trivial⟩ ?_⟩
              · cases ho
                exact gives_load rfl (fun w' h => hl0.out w' h)
              · cases ho
                exact gives_load rfl (fun w' h => hl1.out w' h)
              · cases ho
                exact gives_load rfl (fun w' h => hl2.out w' h)
              · cases ho
                exact gives_load rfl (fun w' h => hloadR.out w' h)
              · cases ho
                exact gives_load rfl (fun w' h => hloadR.out w' h)
              go_wp2_with (first | (with_reducible refine stop_ld2 55 rfl ?_) | (with_reducible refine stop_al2 55 rfl ?_) | (with_reducible refine stop_st2 55 rfl ?_))
              try go_frame
              go_roundw
              case rel =>
                have hF7 : Fr [a, b, p] w1 w7 := ((hfr.trans hf13 (by simp)).trans hfd (by intro z hz; simp at hz; right; have := hfr.size; omega)).trans hf57 (by simp)
                have hfp : Fr [p] w7 (w7.setCell ⟨p, i, none⟩ (.bool false)) := (Fr.refl [p] w7).setCell _ (.inl (by simp)) _
                refine ⟨i + 1, by omega, rfl, by rw [hrank.out]; simp, hF7.trans hfp (by simp), ?_, ?_, fun q hq => ?_⟩
                · have e : t.crashNow ch i = t.mix ch i := by unfold RSt.crashNow; rw [hpi]; rfl
                  have := hrn7.out
                  rw [← e] at this
                  exact (rows_step this hcn h.now.len).kept hfp (by simp; omega)
                · have e : t.crashKept ch i = t.mix ch i := by unfold RSt.crashKept; rw [hpi]; rfl
                  have := hrk7.out
                  rw [← e] at this
                  exact (rows_step this hck h.kept.len).kept hfp (by simp; omega)
                · have h0 := hpend.out q hq
                  have hF : Fr [a, b] wo w7 := by
                    refine (((hf13.mono (S' := [a, b]) (by simp)).trans (hfd.mono (S' := [a, b, sb]) (by simp)) ?_).trans (hf6.mono (S' := [a, b]) (by simp)) (by simp)).trans (hf7.mono (S' := [a, b]) (by simp)) (by simp)
                    intro z hz
                    simp at hz
                    rcases hz with h | h | h
                    · left; simp [h]
                    · left; simp [h]
                    · right; omega
                  rw [World.frozen?_setCell]
                  refine ⟨?_, (frozen_fr hF hpl (by simp; omega) q).trans h0.2⟩
                  by_cases hqi : q = i
                  · subst hqi
                    rw [if_pos (by omega), World.cell?_setCell_same _ _ _ (by rw [pc7])]
                  · rw [World.cell?_setCell_other _ _ _ _ (by intro e; injection e with _ e; exact hqi e.symm), hF.cell h0.1 (by simp; omega)]
                    by_cases h1 : q < i
                    · rw [if_pos h1, if_pos (by omega)]
                    · rw [if_neg h1, if_neg (by omega)]
              case measure => simp [intOf]; omega
        · have hx0 : x = 0 := by
            rw [hxx, List.getD_eq_getElem?_getD, List.getElem?_eq_none (by omega)]
            rfl
          clear hxx hbr
          replace hx0 := hid hx0
          go_wp2_with (first | (with_reducible refine stop_ld2 55 rfl ?_) | (with_reducible refine stop_al2 55 rfl ?_) | (with_reducible refine stop_st2 55 rfl ?_))
          refine Stop.go (ld_arr 55 ((t.kept i).map encB) (.array 64 5) Try.underlying55 rfl (by rw [List.length_map, hkl]; exact (zero_of_info info55).2) rfl rfl b (i * 64) rfl hrowk ?_)
          go_wp2_with (first | (with_reducible refine stop_ld2 55 rfl ?_) | (with_reducible refine stop_al2 55 rfl ?_) | (with_reducible refine stop_st2 55 rfl ?_))
          refine Stop.go (al_arr 55 info55 rfl rfl ?_)
          intro w2 hb2 hs2 hf2
          obtain ⟨sb, hsb⟩ : ∃ sb, sb = wo.heap.size := ⟨_, rfl⟩
          rw [← hsb] at hb2 hs2
          rw [← hsb]
          replace hsb := hid hsb
          go_wp2_with (first | (with_reducible refine stop_ld2 55 rfl ?_) | (with_reducible refine stop_al2 55 rfl ?_) | (with_reducible refine stop_st2 55 rfl ?_))
          refine Stop.go (st_arr 55 ((t.kept i).map encB) (by rw [List.length_map, hkl]; exact (zero_of_info info55).2) encB_one rfl rfl sb (0) rfl rfl (by rw [List.length_map, hkl]; exact there_of_block hb2 (by rw [secA_size, zeros64_len]; omega)) ?_)
          intro w3 hw3 hr3 hf3
          have hth3 : w3.there sb 0 64 := by rw [hw3]; exact World.there_setCells (there_of_block hb2 (by rw [secA_size, zeros64_len]; omega)) _ _ _
          have hsb3 : sb < w3.heap.size := Nat.lt_of_lt_of_le (by have := hsb.out; omega) hf3.size
          have hR3 : Rows64 w3 sb 1 (fun _ => t.kept i) := by
            refine ⟨hsb3, fun _ => hkl, fun q hq => ?_, by rw [Nat.one_mul]; exact hth3⟩
            have hq0 : q = 0 := by omega
            rw [hq0, Nat.zero_mul]
            exact hr3
          have hf13 : Fr [] wo w3 := hf2.trans hf3 (by intro z hz; simp at hz; right; rw [hz, hsb.out]; exact Nat.le_refl _)
          clear hw3 hr3 hth3 hb2 hrowk
          have hsbge : wo.heap.size ≤ sb := by rw [hsb.out]; exact Nat.le_refl _
          have c03 := hf13.cell c0 (by simp)
          have c23 := hf13.cell c2 (by simp)
          have c13 := hf13.cell c1 (by simp)
          have hrn3 := hid (hrn.out.kept hf13 (by simp))
          have hrk3 := hid (hrk.out.kept hf13 (by simp))
          have hpc3 := hf13.cell pc (by simp)
          have hpz3 := (frozen_fr hf13 hpl (by simp) i).trans pz
          have hal := hrn.out.lt
          have hbl := hrk.out.lt
          have hw3sz : wo.heap.size ≤ w3.heap.size := hf13.size
          clear c0 c1 c2 pc pz
          go_wp2_with (first | (with_reducible refine stop_ld2 55 rfl ?_) | (with_reducible refine stop_al2 55 rfl ?_) | (with_reducible refine stop_st2 55 rfl ?_))
          go_loopw [8] (fun jv wr => ∃ j : Nat, j ≤ 64 ∧ jv = .int .i64 j ∧ Fr [sb] w3 wr ∧ Rows64 wr sb 1 (fun _ => (t.mix ch i).take j ++ (t.kept i).drop j)) (fun jv _ => 64 - (intOf jv).toNat)
          case atStart => exact ⟨0, by omega, rfl, Fr.refl _ _, hR3.congr (fun q hq => by simp) (fun q => by simpa using hkl)⟩
          case round =>
            obtain ⟨j, hj, rfl, hfs, hS⟩ := hrel
            have c0 := hfs.cell c03 (by simp; omega)
            have hnrow : Rows64 wr a t.n (fun q => if q < i then t.crashNow ch q else t.now q) := (hrn3.out.kept hfs (by simp; omega))
            by_cases hj64 : j < 64
            · have hnc : wr.cell? ⟨a, i * 64 + j, none⟩ = some (.int .u8 (((t.now i)[j]'(by omega)).toNat : Int)) := by
                have := hnrow.cell hin hj64
                simp only [if_neg (show ¬ i < i by omega)] at this
                exact this
              have hsc := hS.cell (i := 0) (by omega) hj64
              have hsz := hS.z (i := 0) (by omega) hj64
              rw [Nat.zero_mul, Nat.zero_add] at hsc hsz
              have hset := hS.set (i := 0) (by omega) hj64 ((t.now i)[j]'(by omega)) _ rfl
              rw [Nat.zero_mul, Nat.zero_add] at hset
              have hTat : (t.mix ch i)[j]'(by rw [hmixl]; exact hj64) = if j < tornN x then (t.now i)[j]'(by omega) else (t.kept i)[j]'(by omega) := by
                have := torn_at x hnl hkl j hj64 (by rw [torn_len x hnl hkl]; exact hj64)
                simp only [← hmix.out] at this
                exact this
              replace hset := hid hset
              replace hTat := hid hTat
              replace hS := hid hS
              have hji : (j : Int) < 64 := by omega
              clear hnrow
              have hjt : ¬ j < tornN x := by
                rw [hx0.out, show tornN 0 = 0 by decide]
                omega
              go_wp2_with fail
              try go_frame
              go_roundw
              case rel =>
                refine ⟨j + 1, by omega, rfl, hfs, hS.out.congr (fun q hq => ?_) (fun q => ?_)⟩
                · exact take_drop_same (t.mix ch i) (t.kept i) (by rw [hmixl, hkl]) j (by rw [hmixl]; exact hj64) (by rw [hTat.out, if_neg hjt])
                · rw [List.length_append, List.length_take, List.length_drop, hmixl, hkl]; omega
              case measure => simp [intOf]; omega
            · have hje : j = 64 := by omega
              subst hje
              have hfin : Rows64 wr sb 1 (fun _ => t.mix ch i) := hS.congr (fun q hq => by rw [List.take_of_length_le (by rw [hmixl]; exact Nat.le_refl _), List.drop_of_length_le (by rw [hkl]; exact Nat.le_refl _), List.append_nil]) (fun q => hmixl i)
              have hsr := hfin.rows 0 (by omega)
              rw [Nat.zero_mul] at hsr
              have c1s := hfs.cell c13 (by simp; omega)
              have c2s := hfs.cell c23 (by simp; omega)
              have pcs := hfs.cell hpc3 (by simp; omega)
              have pzs := (frozen_fr hfs (by omega) (by simp; omega) i).trans hpz3
              have hrns := hrn3.out.kept hfs (by simp; omega)
              have hrks := hrk3.out.kept hfs (by simp; omega)
              have hml := hmixl i
              have hthN := there_sub hrns.there (o := i * 64) (n := 64) (by omega)
              have hthK := there_sub hrks.there (o := i * 64) (n := 64) (by omega)
              replace hrns := hid hrns
              replace hrks := hid hrks
              clear hfin hS c03 c13 c23 hpc3 hpz3 hnrow
              have hssz := hfs.size
              go_wp2_with (first | (with_reducible refine stop_ld2 55 rfl ?_) | (with_reducible refine stop_al2 55 rfl ?_) | (with_reducible refine stop_st2 55 rfl ?_))
              refine wp_region_textS' (fun w' => Fr [a, b, p] wr.drew w') [3, 8, 13, 15, 16] [] [] [(19, []), (2, []), (2, [])] (by kernel_rfl) (by kernel_rfl) (by kernel_rfl) (Fr.refl _ _) ?_
              intro K hK
              simp only [cutAt, List.take_succ_cons, List.take_zero, List.drop_succ_cons, List.drop_zero, List.take_nil, List.drop_nil, wpSegs, List.map_cons, List.map_nil, List.nil_append, List.cons_append]
              have c0d : wr.drew.cell? ⟨r, 0, none⟩ = _ := c0
              have c1d : wr.drew.cell? ⟨r, 1, none⟩ = _ := c1s
              have c2d : wr.drew.cell? ⟨r, 2, none⟩ = _ := c2s
              have hsrd : wr.drew.rangeAt sb 0 ((t.mix ch i).map encB) := hsr
              have hthNd : wr.drew.there a (i * 64) 64 := hthN
              have hthKd : wr.drew.there b (i * 64) 64 := hthK
              have pcd : wr.drew.cell? ⟨p, i, none⟩ = _ := pcs
              have pzd : wr.drew.frozen? ⟨p, i, none⟩ = _ := pzs
              have hfd : Fr [sb] w3 wr.drew := hfs.drew
              have hrnd := hid (hrns.out.kept (Fr.refl [] wr).drew (by simp))
              have hrkd := hid (hrks.out.kept (Fr.refl [] wr).drew (by simp))
              have hszd : wr.drew.heap.size = wr.heap.size := rfl
              clear c0 c1s c2s hsr hthN hthK pcs pzs hrns hrks hfs
              generalize wr.drew = w5 at *
              go_wp2_with (first | (with_reducible refine stop_ld2 55 rfl ?_) | (with_reducible refine stop_al2 55 rfl ?_) | (with_reducible refine stop_st2 55 rfl ?_))
              refine Stop.go (ld_arr 55 ((t.mix ch i).map encB) (.array 64 5) Try.underlying55 rfl (by rw [List.length_map, hml]; exact (zero_of_info info55).2) rfl rfl sb (0) rfl hsrd ?_)
              go_wp2_with (first | (with_reducible refine stop_ld2 55 rfl ?_) | (with_reducible refine stop_al2 55 rfl ?_) | (with_reducible refine stop_st2 55 rfl ?_))
              refine Stop.go (ld_arr 55 ((t.mix ch i).map encB) (.array 64 5) Try.underlying55 rfl (by rw [List.length_map, hml]; exact (zero_of_info info55).2) rfl rfl sb (0) rfl hsrd ?_)
              go_wp2_with (first | (with_reducible refine stop_ld2 55 rfl ?_) | (with_reducible refine stop_al2 55 rfl ?_) | (with_reducible refine stop_st2 55 rfl ?_))
              refine Stop.go (st_arr 55 ((t.mix ch i).map encB) (by rw [List.length_map, hml]; exact (zero_of_info info55).2) encB_one rfl rfl a (i * 64) rfl rfl (by rw [List.length_map, hml]; exact hthNd) ?_)
              intro w6 hw6 hr6 hf6
              have hrn6 := hrnd.out.put hin (t.mix ch i) hml
              rw [← hw6] at hrn6
              have c16 := hf6.cell c1d (by simp; omega)
              have c26 := hf6.cell c2d (by simp; omega)
              have pc6 := hf6.cell pcd (by simp; omega)
              have pz6 := (frozen_fr hf6 (by omega) (by simp; omega) i).trans pzd
              have hthK6 := there_fr hf6 hthKd (by omega) (by simp; omega)
              have hrk6 := hid (hrkd.out.kept hf6 (by simp; omega))
              replace hrn6 := hid hrn6
              have hloadR : ∀ w' : World, Fr [a, b, p] w5 w' → (Instr.loadAt 55 (.pointer (some ⟨sb, 0, none⟩))).run Try.prog w' = .ok (.agg ((t.mix ch i).map encB).toArray) w' := fun w' hf => run_loadAt_mid w' sb 0 55 ((t.mix ch i).map encB) (.array 64 5) (range_fr hf hsrd (by omega) (by simp; omega)) Try.underlying55 rfl (by rw [List.length_map, hml]; exact (zero_of_info info55).2)
              have hl0 : ∀ w' : World, Fr [a, b, p] w5 w' → (Instr.loadAt 113 (.pointer (some ⟨r, 0, none⟩))).run Try.prog w' = _ := fun w' hf => load_cell 113 Try.underlying113 rfl (hf.cell c0d (by simp; omega))
              have hl1 : ∀ w' : World, Fr [a, b, p] w5 w' → (Instr.loadAt 113 (.pointer (some ⟨r, 1, none⟩))).run Try.prog w' = _ := fun w' hf => load_cell 113 Try.underlying113 rfl (hf.cell c1d (by simp; omega))
              have hl2 : ∀ w' : World, Fr [a, b, p] w5 w' → (Instr.loadAt 114 (.pointer (some ⟨r, 2, none⟩))).run Try.prog w' = _ := fun w' hf => load_cell 114 Try.underlying114 rfl (hf.cell c2d (by simp; omega))
              replace hloadR := hid hloadR
              replace hl0 := hid hl0
              replace hl1 := hid hl1
              replace hl2 := hid hl2
              clear hw6 hr6 c0d c1d c2d pcd pzd hthNd hthKd hsrd hrnd hrkd
              go_wp2_with (first | (with_reducible refine stop_ld2 55 rfl ?_) | (with_reducible refine stop_al2 55 rfl ?_) | (with_reducible refine stop_st2 55 rfl ?_))
              refine ⟨fun w' => Fr [a, b, p] w5 w', fun _ h => h, hf6.mono (by simp), ?_⟩
              go_wp2_with (first | (with_reducible refine stop_ld2 55 rfl ?_) | (with_reducible refine stop_al2 55 rfl ?_) | (with_reducible refine stop_st2 55 rfl ?_))
              refine Stop.go (st_arr 55 ((t.mix ch i).map encB) (by rw [List.length_map, hml]; exact (zero_of_info info55).2) encB_one rfl rfl b (i * 64) rfl rfl (by rw [List.length_map, hml]; exact hthK6) ?_)
              intro w7 hw7 hr7 hf7
              have hrk7 := hrk6.out.put hin (t.mix ch i) hml
              rw [← hw7] at hrk7
              have pc7 := hf7.cell pc6 (by simp; omega)
              have hs6 := hf6.size
              have pz7 := (frozen_fr hf7 (by omega) (by simp; omega) i).trans pz6
              have hrn7 := hrn6.out.kept hf7 (by simp; omega)
              clear hw7 hr7 c16 c26 pc6 pz6 hthK6
              replace hrk7 := hid hrk7
              replace hrn7 := hid hrn7
              have hs7 := hf7.size
              have hf57 : Fr [a, b, p] w5 w7 := (hf6.mono (by simp)).trans hf7 (by simp)
              go_wp2_with (first | (with_reducible refine stop_ld2 55 rfl ?_) | (with_reducible refine stop_al2 55 rfl ?_) | (with_reducible refine stop_st2 55 rfl ?_))
              refine ⟨fun w' => Fr [a, b, p] w5 w', fun _ h => h, hf57, ?_⟩
              go_wp2_with (first | (with_reducible refine stop_ld2 55 rfl ?_) | (with_reducible refine stop_al2 55 rfl ?_) | (with_reducible refine stop_st2 55 rfl ?_))
              refine ⟨fun w' => Fr [a, b, p] w5 w', fun _ h => h, hf57.setCell ⟨p, i, none⟩ (.inl (by simp)) _, ?_⟩
              go_wp2_with (first | (with_reducible refine stop_ld2 55 rfl ?_) | (with_reducible refine stop_al2 55 rfl ?_) | (with_reducible refine stop_st2 55 rfl ?_))
              refine ⟨trivial, hK _ _ (by kernel_rfl) ⟨fun o ho => ?_, fun o ho => ?_, fun o ho => ?_, fun o ho => ?_, fun o ho => ?_, trivial⟩ ?_⟩
              · cases ho
                exact gives_load rfl (fun w' h => hl0.out w' h)
              · cases ho
                exact gives_load rfl (fun w' h => hl1.out w' h)
              · cases ho
                exact gives_load rfl (fun w' h => hl2.out w' h)
              · cases ho
                exact gives_load rfl (fun w' h => hloadR.out w' h)
              · cases ho
                exact gives_load rfl (fun w' h => hloadR.out w' h)
              go_wp2_with (first | (with_reducible refine stop_ld2 55 rfl ?_) | (with_reducible refine stop_al2 55 rfl ?_) | (with_reducible refine stop_st2 55 rfl ?_))
              try go_frame
              go_roundw
              case rel =>
                have hF7 : Fr [a, b, p] w1 w7 := ((hfr.trans hf13 (by simp)).trans hfd (by intro z hz; simp at hz; right; have := hfr.size; omega)).trans hf57 (by simp)
                have hfp : Fr [p] w7 (w7.setCell ⟨p, i, none⟩ (.bool false)) := (Fr.refl [p] w7).setCell _ (.inl (by simp)) _
                refine ⟨i + 1, by omega, rfl, by rw [hrank.out]; simp, hF7.trans hfp (by simp), ?_, ?_, fun q hq => ?_⟩
                · have e : t.crashNow ch i = t.mix ch i := by unfold RSt.crashNow; rw [hpi]; rfl
                  have := hrn7.out
                  rw [← e] at this
                  exact (rows_step this hcn h.now.len).kept hfp (by simp; omega)
                · have e : t.crashKept ch i = t.mix ch i := by unfold RSt.crashKept; rw [hpi]; rfl
                  have := hrk7.out
                  rw [← e] at this
                  exact (rows_step this hck h.kept.len).kept hfp (by simp; omega)
                · have h0 := hpend.out q hq
                  have hF : Fr [a, b] wo w7 := by
                    refine (((hf13.mono (S' := [a, b]) (by simp)).trans (hfd.mono (S' := [a, b, sb]) (by simp)) ?_).trans (hf6.mono (S' := [a, b]) (by simp)) (by simp)).trans (hf7.mono (S' := [a, b]) (by simp)) (by simp)
                    intro z hz
                    simp at hz
                    rcases hz with h | h | h
                    · left; simp [h]
                    · left; simp [h]
                    · right; omega
                  rw [World.frozen?_setCell]
                  refine ⟨?_, (frozen_fr hF hpl (by simp; omega) q).trans h0.2⟩
                  by_cases hqi : q = i
                  · subst hqi
                    rw [if_pos (by omega), World.cell?_setCell_same _ _ _ (by rw [pc7])]
                  · rw [World.cell?_setCell_other _ _ _ _ (by intro e; injection e with _ e; exact hqi e.symm), hF.cell h0.1 (by simp; omega)]
                    by_cases h1 : q < i
                    · rw [if_pos h1, if_pos (by omega)]
                    · rw [if_neg h1, if_neg (by omega)]
              case measure => simp [intOf]; omega
    · have hie : i = t.n := by omega
      have hRr : IsRef wo r a b p (t.crash ch) := by
        refine ⟨h.n_le, (hfr.block r hR1.rlt (by simp; omega)).trans (hR1.blk.trans (by rfl)), hrn.congr (fun q hq => by rw [if_pos (by have hq' : q < t.n := hq; omega)]; rfl) hcn, hrk.congr (fun q hq => by rw [if_pos (by have hq' : q < t.n := hq; omega)]; rfl) hck, Nat.lt_of_lt_of_le hR1.plt hfr.size, fun q hq => ?_, hx, h.steps, (show (0 : Nat) < 9223372036854775808 by omega)⟩
        have := hpend q hq
        rw [if_pos (by have hq' : q < t.n := hq; omega)] at this
        exact this
      subst hie
      go_wp2_with fail
      go_end0
      exact ⟨rfl, hRr, (hf1.mono (by simp)).trans hfr (by simp)⟩
end Go.Proofs.Ytiialjncdhhceaa
