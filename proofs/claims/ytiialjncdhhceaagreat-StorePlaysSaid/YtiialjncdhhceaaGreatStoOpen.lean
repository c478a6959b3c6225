/- The store is made, and opened. -/
import Derived.Test.YtiialjncdhhceaaGreatStoDo
import Derived.Test.YtiialjncdhhceaaGreatJrnOpen
import Derived.Lib.ConvBytes
namespace Go.Proofs.YtiialjncdhhceaaGreat
open Go.RowKit
set_option linter.unusedVariables false
set_option linter.unusedSimpArgs false

theorem conv_bytes (w : World) (s : ByteArray) (hs : s.size ≤ 1000000000) : ∃ w' c, (convert 9 30 (.string s)).run Tryz.prog w = .ok (.slice (some ⟨w.heap.size, 0, none⟩) s.size c) w' ∧ RB w' (some ⟨w.heap.size, 0, none⟩) s.size (bs s) ∧ s.size ≤ c ∧ Fr [] w w' := by
  refine ⟨_, _, Lib.run_convert_string_bytes w 9 30 5 s Tryz.underlying9 Tryz.underlying30 Tryz.underlying5, ⟨bs_length s, by omega, .inr ⟨w.heap.size, 0, rfl, fun j hj => ?_⟩⟩, grownCap_ge _ _ _ _, ?_⟩
  · rw [Nat.zero_add, Lib.bytesWorld_cell w 5 s j (by rw [← bs_length]; exact hj)]
    have : s.data.toList.getD j 0 = (bs s)[j] := by
      rw [List.getD_eq_getElem?_getD]
      show (bs s)[j]?.getD 0 = _
      rw [List.getElem?_eq_getElem hj]
      rfl
    rw [this]
  · exact ⟨rfl, rfl, rfl, by rw [Lib.bytesWorld_size]; omega, fun k hk _ => Lib.bytesWorld_at_old w _ s k hk⟩

set_option maxHeartbeats 2000000 in
set_option maxRecDepth 100000 in
theorem Make_new (B d k m : Nat) (s : DSt) (w : World) (hD : IsDisk w d k m s) (hoff : s.offAt = 0) (hn : 32 ≤ s.n) (h0 : ∀ i, s.now i = zeros64) (hst : s.steps ≤ 900000000) (hB : B ≤ d ∧ B ≤ k ∧ B ≤ m ∧ B ≤ w.heap.size) :
    Calls Tryz.prog 11 #[.pointer (some ⟨d, 0, none⟩)] w fun e w' => ∃ st j mp, e = .returned (.tuple #[.pointer (some ⟨st, 0, none⟩), .int .i64 0]) ∧ IsSt w' B st j d k m mp 0 0 [] [] ∧ IsDisk w' d k m (formS s) ∧ Fr [d, k, m] w w' := by
  have hnI : ¬ (s.n : Int) < 32 := by omega
  have hmm := @run_makeMap Tryz.prog
  have hlts := hD.lts
  go_enter Tryz.func11, Tryz.ntmps11
  go_wp2_with fail
  refine (Len_c d k m s w hD).mono ?_
  rintro e w1 ⟨rfl, rfl⟩
  go_wp2_with fail
  refine (Format_new B d k m s w hD hoff (by omega) h0 hst hB).mono ?_
  rintro e w2 ⟨j, rfl, hJ2, hD2, hf2⟩
  have hlo2 := hJ2.lo
  have hz2 := hf2.size
  have hlts2 := hD2.lts
  have hjl : j < w2.heap.size := by obtain ⟨_, _, _, _, _, _, h, _⟩ := hJ2.ex; exact (Array.getElem?_eq_some_iff.1 h).1
  go_wp2_with fail
  have hfa : Fr [] w2 (w2.alloc (.map #[] 0)) := (Fr.refl [] w2).alloc _
  have hMa := MapS.made w2
  have hza : (w2.alloc (.map #[] 0)).heap.size = w2.heap.size + 1 := by simp
  obtain ⟨mp, hmp⟩ : ∃ mp, mp = w2.heap.size := ⟨_, rfl⟩
  rw [← hmp] at hMa ⊢
  generalize w2.alloc (.map #[] 0) = w3 at *
  have efold : w3.alloc (.cells #[.pointer (some ⟨d, 0, none⟩), .pointer (some ⟨j, 0, none⟩), .map (some mp)] 61) = w3.alloc (.cells (sCells d j mp) 61) := rfl
  go_ret2
  rw [efold]
  have hfb : Fr [] w3 (w3.alloc (.cells (sCells d j mp) 61)) := (Fr.refl [] w3).alloc _
  have hfab := hfa.then hfb
  have hs3 : w3.heap.size = mp + 1 := by omega
  have hnew := heap_alloc_new w3 (.cells (sCells d j mp) 61)
  rw [hs3] at hnew
  refine ⟨_, j, mp, rfl, ⟨hnew, hMa.fr hfb, hJ2.fr hfab, by omega, by omega⟩, hD2.fr hfab, hf2.then hfab⟩

set_option maxHeartbeats 2000000 in
set_option maxRecDepth 100000 in
theorem Make_small (d k m : Nat) (s : DSt) (w : World) (hD : IsDisk w d k m s) (hn : s.n < 32) :
    Calls Tryz.prog 11 #[.pointer (some ⟨d, 0, none⟩)] w fun e w' => e = .returned (.tuple #[.pointer none, .int .i64 140]) ∧ w = w' := by
  have hnI : (s.n : Int) < 32 := by omega
  go_enter Tryz.func11, Tryz.ntmps11
  go_wp2_with fail
  refine (Len_c d k m s w hD).mono ?_
  rintro e w1 ⟨rfl, rfl⟩
  go_wp2_with fail
  go_ret2
  exact ⟨rfl, rfl⟩

theorem lines_le (ls : List Ln) : 5 * ls.length ≤ (encL ls).length := by
  induction ls with
  | nil => exact Nat.le_refl _
  | cons l ls ih =>
    have : encL (l :: ls) = l.enc ++ encL ls := rfl
    rw [this, List.length_append, enc_length]
    simp only [List.length_cons]
    omega
theorem lines_recs (lss : List (List Ln)) : lss.flatten.length ≤ (recsB (lss.map fun ls => stB (encL ls))).length := by
  induction lss with
  | nil => exact Nat.le_refl _
  | cons ls lss ih =>
    rw [List.map_cons, recsB_cons, List.length_append, recB_len, stB_size, List.flatten_cons, List.length_append]
    have := lines_le ls
    omega

set_option maxHeartbeats 4000000 in
set_option maxRecDepth 100000 in
theorem Open_st (B d k m hd ar : Nat) (recs : List ByteArray) (L : List KV) (s : DSt) (w : World) (hD : IsDisk w d k m s) (hH : Holds s hd ar recs) (hT : Tells recs L) (hoff : s.off = false) (hB : B ≤ d ∧ B ≤ k ∧ B ≤ m ∧ B ≤ w.heap.size) :
    Calls Tryz.prog 17 #[.pointer (some ⟨d, 0, none⟩)] w fun e w' => ∃ st j mp, e = .returned (.tuple #[.pointer (some ⟨st, 0, none⟩), .int .i64 0]) ∧ IsSt w' B st j d k m mp hd ar recs L ∧ Fr [] w w' := by
  obtain ⟨lss, hrecs, hlok, hLL⟩ := hT
  have hlts := hD.lts
  have hfits := hH.fits
  have hnle := hD.ok.n_le
  have hlr := lines_recs lss
  rw [← hrecs] at hlr
  have hrl : lss.length = recs.length := by rw [hrecs, List.length_map]
  have hrc := recs_cnt recs
  have hP : 64 * arL s.n ≤ 32000 := by unfold arL; omega
  have hcap : lss.flatten.length ≤ 32000 := by omega
  have hsizes := hH.sizes
  have hmm := @run_makeMap Tryz.prog
  go_enter Tryz.func17, Tryz.ntmps17
  go_wp2_with fail
  refine (Open_ok B d k m hd ar recs s w hD hH hoff hB).mono ?_
  rintro e w2 ⟨j, v, rfl, hJ2, hO2, hf2⟩
  obtain ⟨A, c, rfl, hc, hR2, _⟩ := hO2.form
  have hlo2 := hJ2.lo
  have hz2 := hf2.size
  have hjl : j < w2.heap.size := by obtain ⟨_, _, _, _, _, _, h, _⟩ := hJ2.ex; exact (Array.getElem?_eq_some_iff.1 h).1
  have hcs := hO2.cells
  have hAown : ∀ a, A = some a → recs.length ≠ 0 → a.block < w2.heap.size := fun a ha hn => hR2.lt hn a ha
  obtain ⟨N, hN⟩ : ∃ N, recs.length = N := ⟨_, rfl⟩
  rw [hN] at hR2 hc hAown hrl ⊢
  clear hO2
  go_wp2_with fail
  have hfa : Fr [] w2 (w2.alloc (.map #[] 0)) := (Fr.refl [] w2).alloc _
  have hMa := MapS.made w2
  have hza : (w2.alloc (.map #[] 0)).heap.size = w2.heap.size + 1 := by simp
  obtain ⟨mp, hmp⟩ : ∃ mp, mp = w2.heap.size := ⟨_, rfl⟩
  rw [← hmp] at hMa ⊢
  generalize w2.alloc (.map #[] 0) = w3 at *
  have efold : w3.alloc (.cells #[.pointer (some ⟨d, 0, none⟩), .pointer (some ⟨j, 0, none⟩), .map (some mp)] 61) = w3.alloc (.cells (sCells d j mp) 61) := rfl
  rw [efold]
  clear efold
  have hfb : Fr [] w3 (w3.alloc (.cells (sCells d j mp) 61)) := (Fr.refl [] w3).alloc _
  have hfab := hfa.then hfb
  have hsb : (w3.alloc (.cells (sCells d j mp) 61)).heap[w3.heap.size]? = some (.cells (sCells d j mp) 61 (0, 0)) := heap_alloc_new _ _
  have hs3 : w3.heap.size = mp + 1 := by omega
  rw [hs3] at hsb
  obtain ⟨st, hst⟩ : ∃ st, st = mp + 1 := ⟨_, rfl⟩
  rw [← hst] at hsb ⊢
  generalize w3.alloc (.cells (sCells d j mp) 61) = w4 at *
  have hM4 := hMa.fr hfb
  have hR4 := hR2.fr hfab
  have hord : mp < st ∧ w2.heap.size ≤ mp ∧ w2.heap.size < w4.heap.size ∧ st < w4.heap.size := by have := hM4.lt; have := (Array.getElem?_eq_some_iff.1 hsb).1; omega
  have hNle : N ≤ 32000 := by omega
  replace hst := hid hst
  replace hmp := hid hmp
  replace hN := hid hN
  replace hLL := hid hLL
  replace hlok := hid hlok
  replace hrecs := hid hrecs
  replace hcs := hid hcs
  replace hsizes := hid hsizes
  go_wp2_with fail
  go_loopw [26] (fun iv wr => ∃ i : Nat, i ≤ N ∧ iv = .int .i64 i ∧ MapS wr mp (doAll [] (lss.take i).flatten) ∧ Fr [mp] w4 wr) (fun iv _ => N - (intOf iv).toNat)
  case atStart => exact ⟨0, by omega, rfl, hM4, Fr.refl _ _⟩
  case round =>
    obtain ⟨i, hi, rfl, hM, hfr⟩ := hrel
    by_cases hin : i < N
    · have hRr := hR4.kept' hfr (fun h0 a ha => by have := hAown a ha h0; simp; omega)
      obtain ⟨b, off, rfl, hcell⟩ := str_cell hRr i hin
      have hil : i < lss.length := by omega
      have hri : recs[i]'(by rw [hN.out]; exact hin) = stB (encL lss[i]) := (List.getElem_of_eq hrecs.out (by rw [hN.out]; exact hin)).trans (List.getElem_map _)
      have hrs := hsizes.out _ (List.getElem_mem (l := recs) (n := i) (by rw [hN.out]; exact hin))
      rw [hri] at hcell hrs
      have hok := hlok.out _ (List.getElem_mem hil)
      have htk : (lss.take (i + 1)).flatten = (lss.take i).flatten ++ lss[i] := by rw [List.take_add_one, List.getElem?_eq_getElem hil, List.flatten_append]; simp only [Option.toList_some, List.flatten_cons, List.flatten_nil, List.append_nil]
      have hcnt : (doAll [] (lss.take i).flatten).length + lss[i].length ≤ 1000000 := by
        have h1 := doAll_length [] (lss.take i).flatten
        have h2 : (lss.take (i + 1)).flatten.length ≤ lss.flatten.length := by
          conv => rhs; rw [← List.take_append_drop (i + 1) lss]
          rw [List.flatten_append, List.length_append]
          omega
        rw [htk, List.length_append] at h2
        rw [List.length_nil, Nat.zero_add] at h1
        omega
      obtain ⟨w5, c5, hconv, hr5, hc5, hf5⟩ := conv_bytes wr (stB (encL lss[i])) (by omega)
      rw [bs_stB, stB_size] at hr5
      rw [stB_size] at hc5 hconv
      have hs5 := (hf5.block st (by have := hfr.size; omega) (by simp)).trans ((hfr.block st (by omega) (by simp; omega)).trans hsb)
      have hM5 := hM.fr hf5
      generalize lss[i] = ls at *
      replace htk := hid htk
      clear hri
      obtain ⟨E, hE⟩ : ∃ E, (encL ls).length = E := ⟨_, rfl⟩
      rw [hE] at hr5 hc5 hconv
      generalize hSt : stB (encL ls) = S at *
      replace hE := hid hE
      replace hSt := hid hSt
      go_wp2_with fail
      refine (replays_c st d j mp (doAll [] (lss.take i).flatten) (some ⟨wr.heap.size, 0, none⟩) E c5 ls w5 hs5 hM5 hr5 hc5 hok hcnt).mono ?_
      rintro e w6 ⟨rfl, hM6, hf6⟩
      rw [← doAll_append, ← htk.out] at hM6
      clear hconv hcell
      have hfr6 : Fr [mp] w4 w6 := (hfr.then hf5).trans hf6 (by simp)
      go_wp2_with fail
      try go_frame
      go_roundw
      case rel => exact ⟨i + 1, by omega, rfl, hM6, hfr6⟩
      case measure => simp [intOf]; omega
    · have hie : i = N := by omega
      subst hie
      rw [List.take_of_length_le (by omega), hLL.out] at hM
      go_wp2_with fail
      go_ret2
      have hJ4 := hJ2.fr hfab
      have hfall : Fr [] w2 wr := hfab.past hfr (by intro z hz; simp at hz; omega)
      have hltd := hD.lts
      exact ⟨st, j, mp, rfl, ⟨(hfr.block st (by omega) (by simp; omega)).trans hsb, hM, hJ2.fr hfall, ⟨by omega, by omega⟩, ⟨by omega, by omega, by omega, by omega, by omega, by omega, by omega, by omega, by omega⟩⟩, hf2.then hfall⟩
end Go.Proofs.YtiialjncdhhceaaGreat
