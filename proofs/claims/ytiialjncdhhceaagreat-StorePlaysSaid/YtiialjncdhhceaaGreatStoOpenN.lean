/- The store is opened; its journal's row lies in new memory. Printed by tools/gen_openn.py out of XStoOpen. -/
import Derived.Test.YtiialjncdhhceaaGreatStoOpen
import Derived.Test.YtiialjncdhhceaaGreatJrnOpenN
namespace Go.Proofs.YtiialjncdhhceaaGreat
open Go.RowKit
set_option linter.unusedVariables false
set_option linter.unusedSimpArgs false

set_option maxHeartbeats 4000000 in
set_option maxRecDepth 100000 in
theorem Open_stN (B d k m hd ar : Nat) (recs : List ByteArray) (L : List KV) (s : DSt) (w : World) (hD : IsDisk w d k m s) (hH : Holds s hd ar recs) (hT : Tells recs L) (hoff : s.off = false) (hB : B ≤ d ∧ B ≤ k ∧ B ≤ m ∧ B ≤ w.heap.size) :
    Calls Tryz.prog 17 #[.pointer (some ⟨d, 0, none⟩)] w fun e w' => ∃ st j mp, e = .returned (.tuple #[.pointer (some ⟨st, 0, none⟩), .int .i64 0]) ∧ IsSt w' B st j d k m mp hd ar recs L ∧ Fr [] w w' ∧ (∀ x, jRow w' j x → w.heap.size ≤ x) ∧ w.heap.size ≤ mp ∧ w.heap.size ≤ st ∧ w.heap.size ≤ j := by
  obtain ⟨lss, hrecs, hlok, hLL⟩ := hT
  have hlts := hD.lts
  have hfits := hH.fits
  have hnle := hD.ok.n_le
  have hlr := lines_recs lss
  rw [← hrecs] at hlr
  have hrl : lss.length = recs.length := by rw [hrecs, List.length_map]
  have hrc := recs_cnt recs
  have hP : 64 * arL s.n ≤ 32000 := by unfold arL; omega
  have hcap : lss.flatten.length ≤ 32000 := by omega
  have hsizes := hH.sizes
  have hmm := @run_makeMap Tryz.prog
  go_enter Tryz.func17, Tryz.ntmps17
  go_wp2_with fail
  refine (Open_okN B d k m hd ar recs s w hD hH hoff hB).mono ?_
  rintro e w2 ⟨j, v, rfl, hJ2, hO2, hf2, hrow2, hjn2⟩
  replace hrow2 := hid hrow2
  obtain ⟨A, c, rfl, hc, hR2, _⟩ := hO2.form
  have hlo2 := hJ2.lo
  have hz2 := hf2.size
  have hjl : j < w2.heap.size := by obtain ⟨_, _, _, _, _, _, h, _⟩ := hJ2.ex; exact (Array.getElem?_eq_some_iff.1 h).1
  have hcs := hO2.cells
  have hAown : ∀ a, A = some a → recs.length ≠ 0 → a.block < w2.heap.size := fun a ha hn => hR2.lt hn a ha
  obtain ⟨N, hN⟩ : ∃ N, recs.length = N := ⟨_, rfl⟩
  rw [hN] at hR2 hc hAown hrl ⊢
  clear hO2
  go_wp2_with fail
  have hfa : Fr [] w2 (w2.alloc (.map #[] 0)) := (Fr.refl [] w2).alloc _
  have hMa := MapS.made w2
  have hza : (w2.alloc (.map #[] 0)).heap.size = w2.heap.size + 1 := by simp
  obtain ⟨mp, hmp⟩ : ∃ mp, mp = w2.heap.size := ⟨_, rfl⟩
  rw [← hmp] at hMa ⊢
  generalize w2.alloc (.map #[] 0) = w3 at *
  have efold : w3.alloc (.cells #[.pointer (some ⟨d, 0, none⟩), .pointer (some ⟨j, 0, none⟩), .map (some mp)] 61) = w3.alloc (.cells (sCells d j mp) 61) := rfl
  rw [efold]
  clear efold
  have hfb : Fr [] w3 (w3.alloc (.cells (sCells d j mp) 61)) := (Fr.refl [] w3).alloc _
  have hfab := hfa.then hfb
  have hsb : (w3.alloc (.cells (sCells d j mp) 61)).heap[w3.heap.size]? = some (.cells (sCells d j mp) 61 (0, 0)) := heap_alloc_new _ _
  have hs3 : w3.heap.size = mp + 1 := by omega
  rw [hs3] at hsb
  obtain ⟨st, hst⟩ : ∃ st, st = mp + 1 := ⟨_, rfl⟩
  rw [← hst] at hsb ⊢
  generalize w3.alloc (.cells (sCells d j mp) 61) = w4 at *
  have hM4 := hMa.fr hfb
  have hR4 := hR2.fr hfab
  have hord : mp < st ∧ w2.heap.size ≤ mp ∧ w2.heap.size < w4.heap.size ∧ st < w4.heap.size := by have := hM4.lt; have := (Array.getElem?_eq_some_iff.1 hsb).1; omega
  have hNle : N ≤ 32000 := by omega
  replace hst := hid hst
  replace hmp := hid hmp
  replace hN := hid hN
  replace hLL := hid hLL
  replace hlok := hid hlok
  replace hrecs := hid hrecs
  replace hcs := hid hcs
  replace hsizes := hid hsizes
  go_wp2_with fail
  go_loopw [26] (fun iv wr => ∃ i : Nat, i ≤ N ∧ iv = .int .i64 i ∧ MapS wr mp (doAll [] (lss.take i).flatten) ∧ Fr [mp] w4 wr) (fun iv _ => N - (intOf iv).toNat)
  case atStart => exact ⟨0, by omega, rfl, hM4, Fr.refl _ _⟩
  case round =>
    obtain ⟨i, hi, rfl, hM, hfr⟩ := hrel
    by_cases hin : i < N
    · have hRr := hR4.kept' hfr (fun h0 a ha => by have := hAown a ha h0; simp; omega)
      obtain ⟨b, off, rfl, hcell⟩ := str_cell hRr i hin
      have hil : i < lss.length := by omega
      have hri : recs[i]'(by rw [hN.out]; exact hin) = stB (encL lss[i]) := (List.getElem_of_eq hrecs.out (by rw [hN.out]; exact hin)).trans (List.getElem_map _)
      have hrs := hsizes.out _ (List.getElem_mem (l := recs) (n := i) (by rw [hN.out]; exact hin))
      rw [hri] at hcell hrs
      have hok := hlok.out _ (List.getElem_mem hil)
      have htk : (lss.take (i + 1)).flatten = (lss.take i).flatten ++ lss[i] := by rw [List.take_add_one, List.getElem?_eq_getElem hil, List.flatten_append]; simp only [Option.toList_some, List.flatten_cons, List.flatten_nil, List.append_nil]
      have hcnt : (doAll [] (lss.take i).flatten).length + lss[i].length ≤ 1000000 := by
        have h1 := doAll_length [] (lss.take i).flatten
        have h2 : (lss.take (i + 1)).flatten.length ≤ lss.flatten.length := by
          conv => rhs; rw [← List.take_append_drop (i + 1) lss]
          rw [List.flatten_append, List.length_append]
          omega
        rw [htk, List.length_append] at h2
        rw [List.length_nil, Nat.zero_add] at h1
        omega
      obtain ⟨w5, c5, hconv, hr5, hc5, hf5⟩ := conv_bytes wr (stB (encL lss[i])) (by omega)
      rw [bs_stB, stB_size] at hr5
      rw [stB_size] at hc5 hconv
      have hs5 := (hf5.block st (by have := hfr.size; omega) (by simp)).trans ((hfr.block st (by omega) (by simp; omega)).trans hsb)
      have hM5 := hM.fr hf5
      generalize lss[i] = ls at *
      replace htk := hid htk
      clear hri
      obtain ⟨E, hE⟩ : ∃ E, (encL ls).length = E := ⟨_, rfl⟩
      rw [hE] at hr5 hc5 hconv
      generalize hSt : stB (encL ls) = S at *
      replace hE := hid hE
      replace hSt := hid hSt
      go_wp2_with fail
      refine (replays_c st d j mp (doAll [] (lss.take i).flatten) (some ⟨wr.heap.size, 0, none⟩) E c5 ls w5 hs5 hM5 hr5 hc5 hok hcnt).mono ?_
      rintro e w6 ⟨rfl, hM6, hf6⟩
      rw [← doAll_append, ← htk.out] at hM6
      clear hconv hcell
      have hfr6 : Fr [mp] w4 w6 := (hfr.then hf5).trans hf6 (by simp)
      go_wp2_with fail
      try go_frame
      go_roundw
      case rel => exact ⟨i + 1, by omega, rfl, hM6, hfr6⟩
      case measure => simp [intOf]; omega
    · have hie : i = N := by omega
      subst hie
      rw [List.take_of_length_le (by omega), hLL.out] at hM
      go_wp2_with fail
      go_ret2
      have hJ4 := hJ2.fr hfab
      have hfall : Fr [] w2 wr := hfab.past hfr (by intro z hz; simp at hz; omega)
      have hltd := hD.lts
      exact ⟨st, j, mp, rfl, ⟨(hfr.block st (by omega) (by simp; omega)).trans hsb, hM, hJ2.fr hfall, ⟨by omega, by omega⟩, ⟨by omega, by omega, by omega, by omega, by omega, by omega, by omega, by omega, by omega⟩⟩, hf2.then hfall, fun x ⟨v, hv, ho⟩ => hrow2.out x ⟨v, (cell_fr hfall hjl (by simp) 4).symm.trans hv, ho⟩, by omega, by omega, by omega⟩
end Go.Proofs.YtiialjncdhhceaaGreat
