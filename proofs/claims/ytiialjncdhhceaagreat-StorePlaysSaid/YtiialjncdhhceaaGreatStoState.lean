/- A store in memory and on its disk; it writes. -/
import Derived.Test.YtiialjncdhhceaaGreatStoRight
import Derived.Test.YtiialjncdhhceaaGreatRunKnown14
namespace Go.Proofs.YtiialjncdhhceaaGreat
open Go.RowKit
set_option linter.unusedVariables false
set_option linter.unusedSimpArgs false

/-- A store in memory: its own block st, over the journal j and the disk d, k, m; its rows in block mp; all of the call's own, from block B on. -/
structure IsSt (w : World) (B st j d k m mp hd ar : Nat) (recs : List ByteArray) (L : List KV) : Prop where
  blk : w.heap[st]? = some (.cells (sCells d j mp) 61 (0, 0))
  map : MapS w mp L
  jr : IsJ w B j d k m hd ar recs
  lo : B ≤ st ∧ B ≤ mp
  ap : st ≠ j ∧ st ≠ d ∧ st ≠ k ∧ st ≠ m ∧ mp ≠ j ∧ mp ≠ d ∧ mp ≠ k ∧ mp ≠ m ∧ mp ≠ st
theorem IsSt.fr {w w' : World} {B st j d k m mp hd ar : Nat} {recs : List ByteArray} {L : List KV} (h : IsSt w B st j d k m mp hd ar recs L) (hf : Fr [] w w') : IsSt w' B st j d k m mp hd ar recs L :=
  ⟨(hf.block st (Array.getElem?_eq_some_iff.1 h.blk).1 (by simp)).trans h.blk, h.map.fr hf, h.jr.fr hf, h.lo, h.ap⟩
theorem IsSt.disk {w w' : World} {B st j d k m mp hd ar : Nat} {recs : List ByteArray} {L : List KV} (h : IsSt w B st j d k m mp hd ar recs L) (hf : Fr [d, k, m] w w') : IsSt w' B st j d k m mp hd ar recs L :=
  ⟨(hf.block st (Array.getElem?_eq_some_iff.1 h.blk).1 (by have := h.ap; simp; omega)).trans h.blk, h.map.kept hf (by have := h.ap; simp; omega), h.jr.disk hf, h.lo, h.ap⟩
theorem IsSt.size {w : World} {B st j d k m mp hd ar : Nat} {recs : List ByteArray} {L : List KV} (h : IsSt w B st j d k m mp hd ar recs L) : B ≤ w.heap.size := h.jr.lo.2.2.2.2

set_option maxHeartbeats 2000000 in
set_option maxRecDepth 100000 in
theorem Broken_s (st d j mp : Nat) (B k m hd ar : Nat) (recs : List ByteArray) (w : World) (hs : w.heap[st]? = some (.cells (sCells d j mp) 61 (0, 0))) (hJ : IsJ w B j d k m hd ar recs) :
    Calls Tryz.prog 24 #[.pointer (some ⟨st, 0, none⟩)] w fun e w' => e = .returned (.bool false) ∧ w = w' := by
  have c1 : w.cell? ⟨st, 1, none⟩ = some (.pointer (some ⟨j, 0, none⟩)) := cell_of_row _ _ 1 _ _ _ hs
  go_enter Tryz.func24, Tryz.ntmps24
  go_wp2_with fail
  refine (Broken_c B j d k m hd ar recs w hJ).mono ?_
  rintro e w1 ⟨rfl, rfl⟩
  go_wp2_with fail
  go_ret
  exact ⟨rfl, rfl⟩

theorem str_of_ob (w : World) (A : Option Addr) (n c : Nat) (l : List UInt8) (h : RB w A n l) : (convert 30 9 (.slice A n c)).run Tryz.prog w = .ok (.string (stB l)) w :=
  run_str 30 5 9 Tryz.underlying30 Tryz.underlying5 Tryz.underlying9 (c := c) h

theorem lit_rsZ {W : World} (S : ByteArray) : RSs (W.alloc (.cells #[.string S] 9)) (some ⟨W.heap.size, 0, none⟩) 1 [S] := by
  refine ⟨rfl, by omega, .inr ⟨W.heap.size, 0, rfl, fun q hq => ?_⟩⟩
  have hq0 : q = 0 := by simp at hq; omega
  subst hq0
  exact cell_of_row _ _ 0 _ _ _ (heap_alloc_new W (.cells #[.string S] 9))
/-- What a write leaves. -/
def Wrote (w w' : World) (B j d k m : Nat) (s : DSt) (L' : List KV) : Prop :=
  ∃ hd' ar' recs' s', IsJ w' B j d k m hd' ar' recs' ∧ IsDisk w' d k m s' ∧ Holds s' hd' ar' recs' ∧ Tells recs' L' ∧ s'.offAt = 0 ∧ s'.n = s.n ∧ s'.steps ≤ s.steps + 1004 ∧ Below B w w' ∧ JFr w w' j d k m

/-- A block that is no row of strings, and none of the journal's, stays. -/
theorem JFr.block {w w' : World} {j d k m : Nat} (h : JFr w w' j d k m) {b : Nat} {o : Obj} (hb : w.heap[b]? = some o) (hne : b ≠ j ∧ b ≠ d ∧ b ≠ k ∧ b ≠ m) (ho : ∀ cs, o ≠ .cells cs 9 (0, 0)) : w'.heap[b]? = some o := by
  obtain ⟨S, hf, hS⟩ := h
  refine (hf.block b (Array.getElem?_eq_some_iff.1 hb).1 (fun hx => ?_)).trans hb
  rcases hS b hx with h | h | h | h | ⟨cs, h⟩
  · exact hne.1 h
  · exact hne.2.1 h
  · exact hne.2.2.1 h
  · exact hne.2.2.2 h
  · rw [hb] at h
    injection h with h
    exact ho cs h
theorem JFr.pre {w w1 w' : World} {j d k m : Nat} (hf : Fr [] w w1) (h : JFr w1 w' j d k m) (hlt : ∀ x, x = j ∨ x = d ∨ x = k ∨ x = m → x < w.heap.size) : JFr w w' j d k m := by
  obtain ⟨S, h1, h2⟩ := h
  refine ⟨S.filter (· < w.heap.size), ?_, fun x hx => ?_⟩
  · refine (hf.mono (by simp)).trans h1 (fun x hx => ?_)
    by_cases hl : x < w.heap.size
    · left; simp [hx, hl]
    · right; omega
  · simp at hx
    rcases h2 x hx.1 with h | h | h | h | ⟨cs, h⟩
    · exact .inl h
    · exact .inr (.inl h)
    · exact .inr (.inr (.inl h))
    · exact .inr (.inr (.inr (.inl h)))
    · exact .inr (.inr (.inr (.inr ⟨cs, by rw [← hf.block x hx.2 (by simp)]; exact h⟩)))

set_option maxHeartbeats 4000000 in
set_option maxRecDepth 100000 in
theorem writes_c (B st j d k m mp nx nmp hd ar : Nat) (recs : List ByteArray) (L L' : List KV) (ls : List Ln) (A : Option Addr) (n c : Nat) (s : DSt) (w : World) (hs : w.heap[st]? = some (.cells (sCells d j mp) 61 (0, 0)))
    (hnx : w.heap[nx]? = some (.cells (sCells d j nmp) 61 (0, 0))) (hM : MapS w nmp L') (hJ : IsJ w B j d k m hd ar recs) (hD : IsDisk w d k m s) (hH : Holds s hd ar recs) (hT : Tells recs L) (hoff : s.offAt = 0) (hst : s.steps ≤ 800000000)
    (hR : RB w A n (encL ls)) (hok : ∀ l ∈ ls, l.Ok) (hL' : doAll L ls = L') (hsm : Small L') (hcnt : L'.length ≤ 1000) (hdump : (encL (dumpL L')).length ≤ 20000) (hfit : (encL (dumpL L')).length + 16 ≤ 64 * arL s.n) (hstj : st ≠ j ∧ st ≠ d ∧ st ≠ k ∧ st ≠ m) :
    Calls Tryz.prog 31 #[.pointer (some ⟨st, 0, none⟩), .slice A n c, .pointer (some ⟨nx, 0, none⟩)] w fun e w' => e = .returned (.int .i64 0) ∧ Wrote w w' B j d k m s L' := by
  have hln := hR.1
  have hBw := hJ.lo.2.2.2.2
  have hsl : st < w.heap.size := (Array.getElem?_eq_some_iff.1 hs).1
  have c1 : w.cell? ⟨st, 1, none⟩ = some (.pointer (some ⟨j, 0, none⟩)) := cell_of_row _ _ 1 _ _ _ hs
  have hrl : recs.length ≤ 900000 := by have := recs_cnt recs; have := hH.fits; have := hD.ok.n_le; unfold arL at *; omega
  have hlts : ∀ x, x = j ∨ x = d ∨ x = k ∨ x = m → x < w.heap.size := by
    have h1 := hD.lts
    have h2 : j < w.heap.size := by obtain ⟨_, _, _, _, _, _, h, _⟩ := hJ.ex; exact (Array.getElem?_eq_some_iff.1 h).1
    intro x hx
    omega
  obtain ⟨D, hDl⟩ : ∃ D, (encL (dumpL L')).length = D := ⟨_, rfl⟩
  rw [hDl] at hdump hfit
  obtain ⟨G, hG⟩ : ∃ G, 64 * arL s.n = G := ⟨_, rfl⟩
  rw [hG] at hfit
  replace hDl := hid hDl
  replace hG := hid hG
  by_cases hsmall : n ≤ 6000
  · have hnI : (n : Int) ≤ 6000 := by omega
    have hst1 : (stB (encL ls)).size = n := by rw [stB_size, hln]
    replace hst1 := hid hst1
    by_cases hroom : (recsB recs).length + (n + 4) ≤ 64 * arL s.n
    · go_enter Tryz.func31, Tryz.ntmps31
      go_wp2_with fail
      refine wp_region_textS' (fun w' => w'.cell? ⟨st, 1, none⟩ = some (.pointer (some ⟨j, 0, none⟩))) [3] [] [] [(7, [])] (by kernel_rfl) (by kernel_rfl) (by kernel_rfl) c1 ?_
      intro K hK
      simp only [cutAt, List.take_succ_cons, List.take_zero, List.drop_succ_cons, List.drop_zero, List.take_nil, List.drop_nil, wpSegs, List.map_cons, List.map_nil, List.nil_append, List.cons_append]
      have hfd : Fr [] w w.drew := (Fr.refl [] w).drew
      have hRd := hR.below hfd.all
      have hconv := str_of_ob w.drew A n c (encL ls) hRd
      have c1d : w.drew.cell? ⟨st, 1, none⟩ = some (.pointer (some ⟨j, 0, none⟩)) := c1
      go_wp2_with fail
      refine (Append_okF B j d k m hd ar recs (stB (encL ls)) s w.drew (hJ.fr hfd) (hD.fr hfd) hH hoff (by omega) (by have := hst1.out; omega) (by rw [hst1.out]; exact hroom) hrl).mono ?_
      rintro e w5 ⟨rfl, s5, hJ5, hD5, hH5, q51, q52, q53, hb5, hj5⟩
      have hT5 := hT.append hok
      rw [hL'] at hT5
      clear hconv c1d
      go_wp2_with fail
      have hs5 : w5.heap[st]? = some (.cells (sCells d j mp) 61 (0, 0)) := hj5.block ((hfd.block st hsl (by simp)).trans hs) hstj (fun cs h => by injection h with h1 h2; revert h2; decide)
      have c15 : w5.cell? ⟨st, 1, none⟩ = some (.pointer (some ⟨j, 0, none⟩)) := cell_of_row _ _ 1 _ _ _ hs5
      refine ⟨fun w' => w'.cell? ⟨st, 1, none⟩ = some (.pointer (some ⟨j, 0, none⟩)), fun _ h => h, c15, ?_⟩
      go_wp2_with fail
      refine ⟨trivial, hK _ _ (by kernel_rfl) ⟨fun o ho => ?_, trivial⟩ ?_⟩
      · cases ho
        exact gives_load rfl (fun w' h => load_cell 56 Tryz.underlying56 rfl h)
      go_wp2_with fail
      go_ret
      exact ⟨rfl, 1 - hd, ar, _, s5, hJ5, hD5, hH5, hT5, q51, q52, by omega, (hfd.below hBw (by simp)).trans hb5, hj5.pre hfd hlts⟩
    · go_enter Tryz.func31, Tryz.ntmps31
      go_wp2_with fail
      refine wp_region_textS' (fun w' => w'.cell? ⟨st, 1, none⟩ = some (.pointer (some ⟨j, 0, none⟩))) [3] [] [] [(7, [])] (by kernel_rfl) (by kernel_rfl) (by kernel_rfl) c1 ?_
      intro K hK
      simp only [cutAt, List.take_succ_cons, List.take_zero, List.drop_succ_cons, List.drop_zero, List.take_nil, List.drop_nil, wpSegs, List.map_cons, List.map_nil, List.nil_append, List.cons_append]
      have hfd : Fr [] w w.drew := (Fr.refl [] w).drew
      have hRd := hR.below hfd.all
      have hconv := str_of_ob w.drew A n c (encL ls) hRd
      have c1d : w.drew.cell? ⟨st, 1, none⟩ = some (.pointer (some ⟨j, 0, none⟩)) := c1
      go_wp2_with fail
      have hno : ¬ 20000 < (stB (encL ls)).size := by have := hst1.out; omega
      refine (Append_no B j d k m hd ar recs (stB (encL ls)) s w.drew (hJ.fr hfd) (hD.fr hfd) (by have := hst1.out; omega) (.inr (by rw [hst1.out]; omega))).mono ?_
      rw [if_neg hno]
      rintro e w5 ⟨rfl, hf5⟩
      clear hconv c1d hno
      have hf05 := hfd.then hf5
      have hs5 := (hf05.block st hsl (by simp)).trans hs
      have c15 : w5.cell? ⟨st, 1, none⟩ = some (.pointer (some ⟨j, 0, none⟩)) := cell_of_row _ _ 1 _ _ _ hs5
      go_wp2_with fail
      refine ⟨fun w' => w'.cell? ⟨st, 1, none⟩ = some (.pointer (some ⟨j, 0, none⟩)), fun _ h => h, c15, ?_⟩
      go_wp2_with fail
      refine ⟨trivial, hK _ _ (by kernel_rfl) ⟨fun o ho => ?_, trivial⟩ ?_⟩
      · cases ho
        exact gives_load rfl (fun w' h => load_cell 56 Tryz.underlying56 rfl h)
      clear c15 hs5
      go_wp2_with fail
      have hsv : w5.heap[st]? = some (.cells (sCells d j mp) 61 (0, 0)) := (hf05.block st hsl (by simp)).trans hs
      have cv : w5.cell? ⟨st, 1, none⟩ = some (.pointer (some ⟨j, 0, none⟩)) := cell_of_row _ _ 1 _ _ _ hsv
      refine wp_region_textS' (fun w' => w'.cell? ⟨st, 1, none⟩ = some (.pointer (some ⟨j, 0, none⟩))) [3] [] [] [(6, []), (2, []), (1, [])] (by kernel_rfl) (by kernel_rfl) (by kernel_rfl) cv ?_
      intro K2 hK2
      simp only [cutAt, List.take_succ_cons, List.take_zero, List.drop_succ_cons, List.drop_zero, List.take_nil, List.drop_nil, wpSegs, List.map_cons, List.map_nil, List.nil_append, List.cons_append]
      have hfv : Fr [] w w5.drew := hf05.drew
      have hsvd : w5.drew.heap[st]? = some (.cells (sCells d j mp) 61 (0, 0)) := hsv
      have cvd : w5.drew.cell? ⟨st, 1, none⟩ = some (.pointer (some ⟨j, 0, none⟩)) := cv
      clear cv hsv
      generalize w5.drew = wv at *
      have hJv := hJ.fr hfv
      have hDv := hD.fr hfv
      have hnv := (hfv.block nx (Array.getElem?_eq_some_iff.1 hnx).1 (by simp)).trans hnx
      have hMv := hM.fr hfv
      go_wp2_with fail
      refine (record_s nx d j nmp L' wv hnv hMv hsm hcnt).mono ?_
      rintro e w6 ⟨v6, rfl, hO6, hf6⟩
      obtain ⟨A6, c6, rfl, hc6, hr6, hz6⟩ := hO6.form
      rw [hDl.out] at hr6 hc6 ⊢
      have hs6 := (hf6.block st (Array.getElem?_eq_some_iff.1 hsvd).1 (by simp)).trans hsvd
      have c16 : w6.cell? ⟨st, 1, none⟩ = some (.pointer (some ⟨j, 0, none⟩)) := cell_of_row _ _ 1 _ _ _ hs6
      have hconv6 := str_of_ob w6 A6 D c6 _ hr6
      have hSz : (stB (encL (dumpL L'))).size = D := by rw [stB_size, hDl.out]
      replace hSz := hid hSz
      clear hO6 hr6
      generalize hSS : stB (encL (dumpL L')) = SS at *
      replace hSS := hid hSS
      go_wp2_with fail
      refine ⟨fun w' => w'.cell? ⟨st, 1, none⟩ = some (.pointer (some ⟨j, 0, none⟩)), fun _ h => h, c16, ?_⟩
      go_wp2_with fail
      have hR7 := lit_rsZ (W := w6) SS
      have hf7 : Fr [] w6 (w6.alloc (.cells #[.string SS] 9)) := (Fr.refl [] w6).alloc _
      generalize w6.alloc (.cells #[.string SS] 9) = w7 at *
      have hs7 := (hf7.block st (Array.getElem?_eq_some_iff.1 hs6).1 (by simp)).trans hs6
      have c17 : w7.cell? ⟨st, 1, none⟩ = some (.pointer (some ⟨j, 0, none⟩)) := cell_of_row _ _ 1 _ _ _ hs7
      refine ⟨fun w' => w'.cell? ⟨st, 1, none⟩ = some (.pointer (some ⟨j, 0, none⟩)), fun _ h => h, c17, ?_⟩
      clear hconv6 cvd c16
      have hf07 := (hfv.then hf6).then hf7
      have hz6 := hf6.size
      have hzv := hfv.size
      go_wp2_with fail
      refine (Replace_okF B j d k m hd ar recs (some ⟨w6.heap.size, 0, none⟩) 1 1 [SS] s w7 ((hJv.fr hf6).fr hf7) ((hDv.fr hf6).fr hf7) hH hoff (by omega) hR7 (by intro _ a ha; cases ha; have h1 := hlts j (by simp); have h2 := hlts d (by simp); have h3 := hlts k (by simp); have h4 := hlts m (by simp); simp only; omega)
        (by intro r hr; simp at hr; rw [hr, hSz.out]; exact hdump) (by have := hSz.out; have := hG.out; simp only [weightL]; omega)).mono ?_
      rintro e w8 ⟨rfl, s8, hJ8, hD8, hH8, q81, q82, q83, hb8, hj8⟩
      have hs8 : w8.heap[st]? = some (.cells (sCells d j mp) 61 (0, 0)) := hj8.block hs7 hstj (fun cs h => by injection h with h1 h2; revert h2; decide)
      have c18 : w8.cell? ⟨st, 1, none⟩ = some (.pointer (some ⟨j, 0, none⟩)) := cell_of_row _ _ 1 _ _ _ hs8
      go_wp2_with fail
      refine ⟨fun w' => w'.cell? ⟨st, 1, none⟩ = some (.pointer (some ⟨j, 0, none⟩)), fun _ h => h, c18, ?_⟩
      go_wp2_with fail
      refine ⟨trivial, hK2 _ _ (by kernel_rfl) ⟨fun o ho => ?_, trivial⟩ ?_⟩
      · cases ho
        exact gives_load rfl (fun w' h => load_cell 56 Tryz.underlying56 rfl h)
      go_wp2_with fail
      go_ret
      have hT8 := Tells.dump (hM.2) hsm
      rw [hSS.out] at hT8
      exact ⟨rfl, 1 - hd, 1 - ar, _, s8, hJ8, hD8, hH8, hT8, q81, q82, q83, (hf07.below hBw (by simp)).trans hb8, hj8.pre hf07 hlts⟩
  · have hnI : ¬ (n : Int) ≤ 6000 := by omega
    go_enter Tryz.func31, Tryz.ntmps31
    go_wp2_with fail
    have hf0 : Fr [] w w := Fr.refl [] w
    have hsv : w.heap[st]? = some (.cells (sCells d j mp) 61 (0, 0)) := (hf0.block st hsl (by simp)).trans hs
    have cv : w.cell? ⟨st, 1, none⟩ = some (.pointer (some ⟨j, 0, none⟩)) := cell_of_row _ _ 1 _ _ _ hsv
    refine wp_region_textS' (fun w' => w'.cell? ⟨st, 1, none⟩ = some (.pointer (some ⟨j, 0, none⟩))) [3] [] [] [(6, []), (2, []), (1, [])] (by kernel_rfl) (by kernel_rfl) (by kernel_rfl) cv ?_
    intro K2 hK2
    simp only [cutAt, List.take_succ_cons, List.take_zero, List.drop_succ_cons, List.drop_zero, List.take_nil, List.drop_nil, wpSegs, List.map_cons, List.map_nil, List.nil_append, List.cons_append]
    have hfv : Fr [] w w.drew := hf0.drew
    have hsvd : w.drew.heap[st]? = some (.cells (sCells d j mp) 61 (0, 0)) := hsv
    have cvd : w.drew.cell? ⟨st, 1, none⟩ = some (.pointer (some ⟨j, 0, none⟩)) := cv
    clear cv hsv
    generalize w.drew = wv at *
    have hJv := hJ.fr hfv
    have hDv := hD.fr hfv
    have hnv := (hfv.block nx (Array.getElem?_eq_some_iff.1 hnx).1 (by simp)).trans hnx
    have hMv := hM.fr hfv
    go_wp2_with fail
    refine (record_s nx d j nmp L' wv hnv hMv hsm hcnt).mono ?_
    rintro e w6 ⟨v6, rfl, hO6, hf6⟩
    obtain ⟨A6, c6, rfl, hc6, hr6, hz6⟩ := hO6.form
    rw [hDl.out] at hr6 hc6 ⊢
    have hs6 := (hf6.block st (Array.getElem?_eq_some_iff.1 hsvd).1 (by simp)).trans hsvd
    have c16 : w6.cell? ⟨st, 1, none⟩ = some (.pointer (some ⟨j, 0, none⟩)) := cell_of_row _ _ 1 _ _ _ hs6
    have hconv6 := str_of_ob w6 A6 D c6 _ hr6
    have hSz : (stB (encL (dumpL L'))).size = D := by rw [stB_size, hDl.out]
    replace hSz := hid hSz
    clear hO6 hr6
    generalize hSS : stB (encL (dumpL L')) = SS at *
    replace hSS := hid hSS
    go_wp2_with fail
    refine ⟨fun w' => w'.cell? ⟨st, 1, none⟩ = some (.pointer (some ⟨j, 0, none⟩)), fun _ h => h, c16, ?_⟩
    go_wp2_with fail
    have hR7 := lit_rsZ (W := w6) SS
    have hf7 : Fr [] w6 (w6.alloc (.cells #[.string SS] 9)) := (Fr.refl [] w6).alloc _
    generalize w6.alloc (.cells #[.string SS] 9) = w7 at *
    have hs7 := (hf7.block st (Array.getElem?_eq_some_iff.1 hs6).1 (by simp)).trans hs6
    have c17 : w7.cell? ⟨st, 1, none⟩ = some (.pointer (some ⟨j, 0, none⟩)) := cell_of_row _ _ 1 _ _ _ hs7
    refine ⟨fun w' => w'.cell? ⟨st, 1, none⟩ = some (.pointer (some ⟨j, 0, none⟩)), fun _ h => h, c17, ?_⟩
    clear hconv6 cvd c16
    have hf07 := (hfv.then hf6).then hf7
    have hz6 := hf6.size
    have hzv := hfv.size
    go_wp2_with fail
    refine (Replace_okF B j d k m hd ar recs (some ⟨w6.heap.size, 0, none⟩) 1 1 [SS] s w7 ((hJv.fr hf6).fr hf7) ((hDv.fr hf6).fr hf7) hH hoff (by omega) hR7 (by intro _ a ha; cases ha; have h1 := hlts j (by simp); have h2 := hlts d (by simp); have h3 := hlts k (by simp); have h4 := hlts m (by simp); simp only; omega)
      (by intro r hr; simp at hr; rw [hr, hSz.out]; exact hdump) (by have := hSz.out; have := hG.out; simp only [weightL]; omega)).mono ?_
    rintro e w8 ⟨rfl, s8, hJ8, hD8, hH8, q81, q82, q83, hb8, hj8⟩
    have hs8 : w8.heap[st]? = some (.cells (sCells d j mp) 61 (0, 0)) := hj8.block hs7 hstj (fun cs h => by injection h with h1 h2; revert h2; decide)
    have c18 : w8.cell? ⟨st, 1, none⟩ = some (.pointer (some ⟨j, 0, none⟩)) := cell_of_row _ _ 1 _ _ _ hs8
    go_wp2_with fail
    refine ⟨fun w' => w'.cell? ⟨st, 1, none⟩ = some (.pointer (some ⟨j, 0, none⟩)), fun _ h => h, c18, ?_⟩
    go_wp2_with fail
    refine ⟨trivial, hK2 _ _ (by kernel_rfl) ⟨fun o ho => ?_, trivial⟩ ?_⟩
    · cases ho
      exact gives_load rfl (fun w' h => load_cell 56 Tryz.underlying56 rfl h)
    go_wp2_with fail
    go_ret
    have hT8 := Tells.dump (hM.2) hsm
    rw [hSS.out] at hT8
    exact ⟨rfl, 1 - hd, 1 - ar, _, s8, hJ8, hD8, hH8, hT8, q81, q82, q83, (hf07.below hBw (by simp)).trans hb8, hj8.pre hf07 hlts⟩
end Go.Proofs.YtiialjncdhhceaaGreat
