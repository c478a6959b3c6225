/- The model's size; does a store hold what the model does. -/
import Derived.Test.YtiialjncdhhceaaGreatStoModel
import Derived.Test.YtiialjncdhhceaaGreatStoLaw
namespace Go.Proofs.YtiialjncdhhceaaGreat
open Go.RowKit
set_option linter.unusedVariables false
set_option linter.unusedSimpArgs false

theorem sizeL_append (L M : List KV) : sizeL (L ++ M) = sizeL L + sizeL M := by
  induction L with
  | nil => simp [sizeL]
  | cons p r ih => simp only [List.cons_append, sizeL, ih]; omega
theorem sizeL_take (L : List KV) (i : Nat) (hi : i < L.length) : sizeL (L.take (i + 1)) = sizeL (L.take i) + (L[i].1.length + L[i].2.length + 24) ∧ sizeL (L.take (i + 1)) ≤ sizeL L := by
  constructor
  · rw [List.take_add_one, List.getElem?_eq_getElem hi, sizeL_append]
    simp [sizeL]
  · conv => rhs; rw [← List.take_append_drop (i + 1) L, sizeL_append]
    omega
theorem MR.cells {w : World} {A C : Option Addr} {n : Nat} {L : List KV} (h : MR w A C n L) (hl : L.length = n) (i : Nat) (hi : i < n) : ∃ bA oA bC oC, A = some ⟨bA, oA, none⟩ ∧ C = some ⟨bC, oC, none⟩ ∧ w.cell? ⟨bA, oA + i, none⟩ = some (.string (stB (L[i]'(by omega)).1)) ∧ w.cell? ⟨bC, oC + i, none⟩ = some (.string (stB (L[i]'(by omega)).2)) := by
  obtain ⟨bA, oA, h1, h2⟩ := str_cell h.1 i hi
  obtain ⟨bC, oC, h3, h4⟩ := str_cell h.2 i hi
  rw [List.getElem_map] at h2 h4
  exact ⟨bA, oA, bC, oC, h1, h3, h2, h4⟩

set_option maxHeartbeats 2000000 in
set_option maxRecDepth 100000 in
theorem size_m (A C : Option Addr) (n c c2 : Nat) (L : List KV) (w : World) (hR : MR w A C n L) (hl : L.length = n) (hn : n ≤ 1000) (hsz : sizeL L ≤ 1000000000000000) :
    Calls Tryz.prog 22 #[.agg #[.slice A n c, .slice C n c2]] w fun e w' => e = .returned (.int .i64 (sizeL L : Int)) ∧ Fr [] w w' := by
  go_enter Tryz.func22, Tryz.ntmps22
  go_wp2_with fail
  have hf1 : Fr [] w (w.alloc (.cells #[.slice A n c, .slice C n c2] 48)) := (Fr.refl [] w).alloc _
  have hm1 := heap_alloc_new w (.cells #[.slice A n c, .slice C n c2] 48)
  generalize w.alloc (.cells #[.slice A n c, .slice C n c2] 48) = w1 at *
  obtain ⟨N, hN⟩ : ∃ N, N = w.heap.size := ⟨_, rfl⟩
  rw [← hN] at hm1 ⊢
  have hNl := (Array.getElem?_eq_some_iff.1 hm1).1
  replace hN := hid hN
  go_loopw [3, 4] (fun nv iv wr => ∃ (i : Nat), i ≤ n ∧ iv = .int .i64 i ∧ nv = .int .i64 (sizeL (L.take i) : Nat) ∧ Fr [] w1 wr) (fun _ iv _ => n - (intOf iv).toNat)
  case atStart => exact ⟨0, by omega, rfl, rfl, Fr.refl _ _⟩
  case round =>
    obtain ⟨i, hi, rfl, rfl, hfr⟩ := hrel
    have k2 := (hfr.block N hNl (by simp)).trans hm1
    have c20 : wr.cell? ⟨N, 0, none⟩ = some (.slice A n c) := cell_of_row _ _ 0 _ _ _ k2
    by_cases hin : i < n
    · obtain ⟨bA, oA, bC, oC, rfl, rfl, eA, eC⟩ := (hR.fr (hf1.then hfr)).cells hl i hin
      obtain ⟨ht1, ht2⟩ := sizeL_take L i (by omega)
      generalize L[i]'(by omega) = p at *
      obtain ⟨pk, pv⟩ := p
      dsimp only at eA eC ht1
      obtain ⟨s0, hs0⟩ : ∃ s, s = sizeL (L.take i) := ⟨_, rfl⟩
      rw [← hs0] at ht1 ⊢
      have h1 : s0 + (pk.length + pv.length + 24) ≤ 1000000000000000 := by omega
      have z1 : (stB pk).size = pk.length := stB_size pk
      have z2 : (stB pv).size = pv.length := stB_size pv
      replace ht1 := hid ht1
      replace hs0 := hid hs0
      clear ht2 hR
      go_wp2_with fail
      clear c20
      refine wp_region_textO (fun w' => w'.heap[N]? = some (.cells #[.slice (some ⟨bA, oA, none⟩) n c, .slice (some ⟨bC, oC, none⟩) n c2] 48 (0, 0)) ∧ w'.cell? ⟨bA, oA + i, none⟩ = some (.string (stB pk)) ∧ w'.cell? ⟨bC, oC + i, none⟩ = some (.string (stB pv))) [2, 5, 9, 12] [0, 1, 2, 3, 4, 5, 6, 7, 8, 9, 10, 11, 12, 13, 14, 15] 16 1 (by kernel_rfl) rfl (by kernel_rfl) ⟨k2, eA, eC⟩ ?_
      intro K hK
      simp only [List.filterMap_cons, List.filterMap_nil, List.getElem?_toArray, List.getElem?_cons_succ, List.getElem?_cons_zero]
      have dA : wr.drew.cell? ⟨bA, oA + i, none⟩ = some (.string (stB pk)) := eA
      have dC : wr.drew.cell? ⟨bC, oC + i, none⟩ = some (.string (stB pv)) := eC
      have dk : wr.drew.heap[N]? = some (.cells #[.slice (some ⟨bA, oA, none⟩) n c, .slice (some ⟨bC, oC, none⟩) n c2] 48 (0, 0)) := k2
      have hfr1 : Fr [] w1 wr.drew := hfr.drew
      clear eA eC k2
      generalize wr.drew = wd at *
      have d20 : wd.cell? ⟨N, 0, none⟩ = some (.slice (some ⟨bA, oA, none⟩) n c) := cell_of_row _ _ 0 _ _ _ dk
      have d21 : wd.cell? ⟨N, 1, none⟩ = some (.slice (some ⟨bC, oC, none⟩) n c2) := cell_of_row _ _ 1 _ _ _ dk
      go_wp2_with fail
      refine hK _ _ (by kernel_rfl) ⟨fun o ho => ?_, fun o ho => ?_, fun o ho => ?_, fun o ho => ?_, trivial⟩ ?_
      · cases ho
        exact gives_load rfl (fun w' h => load_cell 34 Tryz.underlying34 rfl (cell_of_row _ _ 0 _ _ _ h.1))
      · cases ho
        exact gives_load rfl (fun w' h => load_cell 9 Tryz.underlying9 rfl h.2.1)
      · cases ho
        exact gives_load rfl (fun w' h => load_cell 34 Tryz.underlying34 rfl (cell_of_row _ _ 1 _ _ _ h.1))
      · cases ho
        exact gives_load rfl (fun w' h => load_cell 9 Tryz.underlying9 rfl h.2.2)
      refine orders_seq [16] _ _ _ (by kernel_rfl) (by kernel_rfl) (by kernel_rfl) ?_
      simp only [List.filterMap_cons, List.filterMap_nil, List.getElem?_toArray, List.getElem?_cons_succ, List.getElem?_cons_zero]
      go_wp2_with fail
      try go_frame
      go_roundw
      case rel => exact ⟨i + 1, by omega, rfl, by rw [ht1.out]; congr 1; omega, hfr1⟩
      case measure => simp [intOf]; omega
    · have hie : i = n := by omega
      subst hie
      rw [List.take_of_length_le (by omega)]
      go_wp2_with fail
      go_ret
      exact ⟨rfl, hf1.then hfr⟩

theorem srt_take_step {L Lm : List KV} {i : Nat} (h1 : i < L.length) (h2 : i < Lm.length) (h : L.take i = Lm.take i) (he : L[i] = Lm[i]) : L.take (i + 1) = Lm.take (i + 1) := by
  rw [List.take_add_one, List.take_add_one, h, List.getElem?_eq_getElem h1, List.getElem?_eq_getElem h2, he]

set_option maxHeartbeats 4000000 in
set_option maxRecDepth 100000 in
theorem holds_c (B st d k m n T : Nat) (L : List KV) (A C : Option Addr) (nm c c2 : Nat) (Lm : List KV) (w : World) (hG : Good w B st d k m n T L) (hR : MR w A C nm Lm) (hl : Lm.length = nm) (hnm : nm ≤ 1000) (hsz : sizeL Lm ≤ 1000000000000000) :
    Calls Tryz.prog 25 #[.pointer (some ⟨st, 0, none⟩), .agg #[.slice A nm c, .slice C nm c2]] w fun e w' => e = .returned (.bool (decide (L = Lm))) ∧ Fr [] w w' := by
  have hsrt := hG.srt
  have hsm := hG.small
  have h40 := hG.le40
  have hne0 : L.length ≠ nm → decide (L = Lm) = false := fun h => decide_eq_false (by rintro rfl; exact h hl)
  have hne1 : sizeL L ≠ sizeL Lm → decide (L = Lm) = false := fun h => decide_eq_false (by rintro rfl; exact h rfl)
  have hne2 : ∀ i (h1 : i < L.length) (h2 : i < Lm.length), L[i] ≠ Lm[i] → decide (L = Lm) = false := fun i h1 h2 h => decide_eq_false (by rintro rfl; exact h rfl)
  replace hne0 := hid hne0
  replace hne1 := hid hne1
  replace hne2 := hid hne2
  go_enter Tryz.func25, Tryz.ntmps25
  go_wp2_with fail
  have hf1 : Fr [] w (w.alloc (.cells #[.slice A nm c, .slice C nm c2] 48)) := (Fr.refl [] w).alloc _
  have hm1 := heap_alloc_new w (.cells #[.slice A nm c, .slice C nm c2] 48)
  generalize w.alloc (.cells #[.slice A nm c, .slice C nm c2] 48) = w1 at *
  obtain ⟨N, hN⟩ : ∃ N, N = w.heap.size := ⟨_, rfl⟩
  rw [← hN] at hm1 ⊢
  have hNl := (Array.getElem?_eq_some_iff.1 hm1).1
  replace hN := hid hN
  refine (Keys_g B st d k m n T L w1 (hG.fr hf1)).mono ?_
  rintro e w2 ⟨v2, rfl, hO2, hf2⟩
  obtain ⟨AK, cK, rfl, _, hK2, _⟩ := hO2.form
  rw [List.length_map] at hK2 ⊢
  have k2 := (hf2.block N hNl (by simp)).trans hm1
  have hf12 := hf1.then hf2
  clear hO2
  go_wp2_with fail
  have c20 : w2.cell? ⟨N, 0, none⟩ = some (.slice A nm c) := cell_of_row _ _ 0 _ _ _ k2
  clear c20
  by_cases hlen : L.length = nm
  · rw [hlen] at hK2 ⊢
    replace hlen := hid hlen
    refine wp_region_textS' (fun w' => w'.heap[N]? = some (.cells #[.slice A nm c, .slice C nm c2] 48 (0, 0))) [3, 9] [] [] [(9, []), (2, [])] (by kernel_rfl) (by kernel_rfl) (by kernel_rfl) k2 ?_
    intro K hK
    simp only [cutAt, List.take_succ_cons, List.take_zero, List.drop_succ_cons, List.drop_zero, List.take_nil, List.drop_nil, wpSegs, List.map_cons, List.map_nil, List.nil_append, List.cons_append]
    have hfd : Fr [] w2 w2.drew := (Fr.refl [] w2).drew
    have k3 := (hfd.block N (Array.getElem?_eq_some_iff.1 k2).1 (by simp)).trans k2
    generalize w2.drew = w3 at *
    have c20 : w3.cell? ⟨N, 0, none⟩ = some (.slice A nm c) := cell_of_row _ _ 0 _ _ _ k3
    have hf13 := hf12.then hfd
    go_wp2_with fail
    refine (Size_g B st d k m n T L w3 (hG.fr hf13)).mono ?_
    obtain ⟨sz, hszs⟩ : ∃ sz, sz = sizeL L := ⟨_, rfl⟩
    rw [← hszs]
    replace hszs := hid hszs
    rintro e w4 ⟨rfl, hf4⟩
    have k4 := (hf4.block N (Array.getElem?_eq_some_iff.1 k3).1 (by simp)).trans k3
    have hf14 := hf13.then hf4
    clear c20
    go_wp2_with fail
    refine ⟨(fun w' => w'.heap[N]? = some (.cells #[.slice A nm c, .slice C nm c2] 48 (0, 0))), fun _ h => h, k4, ?_⟩
    have q0 : w4.cell? ⟨N, 0, none⟩ = some (.slice A nm c) := cell_of_row _ _ 0 _ _ _ k4
    have q1 : w4.cell? ⟨N, 1, none⟩ = some (.slice C nm c2) := cell_of_row _ _ 1 _ _ _ k4
    go_wp2_with fail
    refine (size_m A C nm c c2 Lm w4 ⟨hR.1.fr hf14, hR.2.fr hf14⟩ hl hnm hsz).mono ?_
    rintro e w5 ⟨rfl, hf5⟩
    have k5 := (hf5.block N (Array.getElem?_eq_some_iff.1 k4).1 (by simp)).trans k4
    have hf15 := hf14.then hf5
    go_wp2_with fail
    refine ⟨(fun w' => w'.heap[N]? = some (.cells #[.slice A nm c, .slice C nm c2] 48 (0, 0))), fun _ h => h, k5, ?_⟩
    go_wp2_with fail
    refine ⟨trivial, hK _ _ (by kernel_rfl) ⟨fun o ho => ?_, fun o ho => ?_, trivial⟩ ?_⟩
    · cases ho
      exact gives_load rfl (fun w' h => load_cell 34 Tryz.underlying34 rfl (cell_of_row _ _ 0 _ _ _ h))
    · cases ho
      exact gives_load rfl (fun w' h => run_loadAt_mid w' N 0 48 [.slice A nm c, .slice C nm c2] _ (range_of_two h) Tryz.underlying48 rfl (zero_of_info infoMo).2)
    by_cases hsz2 : sz = sizeL Lm
    · subst hsz2
      have hb : ((sizeL Lm : Int) != (sizeL Lm : Int)) = false := by simp
      rw [hb]
      clear hb
      go_wp2_with fail
      go_loopw [6] (fun iv wr => ∃ i : Nat, i ≤ nm ∧ iv = .int .i64 i ∧ L.take i = Lm.take i ∧ Fr [] w5 wr) (fun iv _ => nm - (intOf iv).toNat)
      case atStart => exact ⟨0, by omega, rfl, rfl, Fr.refl _ _⟩
      case round =>
        obtain ⟨i, hi, rfl, htake, hfr⟩ := hrel
        have hfr0 := hf15.then hfr
        have hGr := hG.fr hfr0
        by_cases hin : i < nm
        · have hKr := ((hK2.fr hfd).fr hf4).fr hf5 |>.fr hfr
          obtain ⟨bK, oK, rfl, eK⟩ := str_cell hKr i hin
          rw [List.getElem_map] at eK
          have hRr : MR wr A C nm Lm := ⟨hR.1.fr hfr0, hR.2.fr hfr0⟩
          obtain ⟨bA, oA, bC, oC, rfl, rfl, eA, eC⟩ := hRr.cells hl i hin
          have k6 := (hfr.block N (Array.getElem?_eq_some_iff.1 k5).1 (by simp)).trans k5
          have hlen' := hlen.out
          have hgl := getL_mem hsrt (k := (L[i]'(by omega)).1) (v := (L[i]'(by omega)).2) (List.getElem_mem _)
          have hps := hsm _ (List.getElem_mem (l := L) (n := i) (by omega))
          have hbad := hne2.out i (by omega) (by omega)
          have hok := srt_take_step (i := i) (by omega) (by omega) htake
          generalize L[i]'(by omega) = p at *
          generalize Lm[i]'(by omega) = q at *
          obtain ⟨pk, pv⟩ := p
          obtain ⟨qk, qv⟩ := q
          dsimp only at eK eA eC hgl hps
          replace hbad := hid hbad
          replace hok := hid hok
          replace htake := hid htake
          clear hR hK2 hKr hRr hlen'
          go_wp2_with fail
          refine (Get_g B st d k m n T L (stB pk) (by rw [stB_size]; omega) wr hGr).mono ?_
          rw [bs_stB, hgl, elS_some]
          rintro e w6 ⟨rfl, rfl⟩
          clear hgl
          go_wp2_with fail
          by_cases hkk : pk = qk
          · subst hkk
            by_cases hvv : pv = qv
            · subst hvv
              refine wp_region_textS' (fun w' => w'.heap[N]? = some (.cells #[.slice (some ⟨bA, oA, none⟩) nm c, .slice (some ⟨bC, oC, none⟩) nm c2] 48 (0, 0)) ∧ w'.cell? ⟨bK, oK + i, none⟩ = some (.string (stB pk)) ∧ w'.cell? ⟨bA, oA + i, none⟩ = some (.string (stB pk)) ∧ w'.cell? ⟨bC, oC + i, none⟩ = some (.string (stB pv))) [3, 5, 8, 17, 20] [] [] [] (by kernel_rfl) (by kernel_rfl) (by kernel_rfl) ⟨k6, eK, eA, eC⟩ ?_
              intro K8 hK8
              simp only [cutAt, List.take_succ_cons, List.take_zero, List.drop_succ_cons, List.drop_zero, List.take_nil, List.drop_nil, wpSegs, List.map_cons, List.map_nil, List.nil_append, List.cons_append]
              have hfd8 : Fr [] wr wr.drew := (Fr.refl [] wr).drew
              have dK : wr.drew.cell? ⟨bK, oK + i, none⟩ = some (.string (stB pk)) := eK
              have dA : wr.drew.cell? ⟨bA, oA + i, none⟩ = some (.string (stB pk)) := eA
              have dC : wr.drew.cell? ⟨bC, oC + i, none⟩ = some (.string (stB pv)) := eC
              have dk : wr.drew.heap[N]? = some (.cells #[.slice (some ⟨bA, oA, none⟩) nm c, .slice (some ⟨bC, oC, none⟩) nm c2] 48 (0, 0)) := k6
              have hfr8 : Fr [] w5 wr.drew := hfr.drew
              clear eK eA eC k6
              generalize wr.drew = wd at *
              have d20 : wd.cell? ⟨N, 0, none⟩ = some (.slice (some ⟨bA, oA, none⟩) nm c) := cell_of_row _ _ 0 _ _ _ dk
              have d21 : wd.cell? ⟨N, 1, none⟩ = some (.slice (some ⟨bC, oC, none⟩) nm c2) := cell_of_row _ _ 1 _ _ _ dk
              go_wp2_with fail
              refine ⟨trivial, hK8 _ _ (by kernel_rfl) ⟨fun o ho => ?_, fun o ho => ?_, fun o ho => ?_, fun o ho => ?_, fun o ho => ?_, trivial⟩ ?_⟩
              · cases ho
                exact gives_load rfl (fun w' h => load_cell 9 Tryz.underlying9 rfl h.2.1)
              · cases ho
                exact gives_load rfl (fun w' h => load_cell 34 Tryz.underlying34 rfl (cell_of_row _ _ 0 _ _ _ h.1))
              · cases ho
                exact gives_load rfl (fun w' h => load_cell 9 Tryz.underlying9 rfl h.2.2.1)
              · cases ho
                exact gives_load rfl (fun w' h => load_cell 34 Tryz.underlying34 rfl (cell_of_row _ _ 1 _ _ _ h.1))
              · cases ho
                exact gives_load rfl (fun w' h => load_cell 9 Tryz.underlying9 rfl h.2.2.2)
              go_wp2_with fail
              try go_frame
              go_roundw
              case rel => exact ⟨i + 1, by omega, rfl, hok.out trivial, hfr8⟩
              case measure => simp [intOf]; omega
            · have hq : ((stB pv).toList == (stB qv).toList) = false := by rw [same_bs, bs_stB, bs_stB]; simpa using hvv
              have hdec := hid (hbad.out (fun h => hvv (by injection h)))
              refine wp_region_textS' (fun w' => w'.heap[N]? = some (.cells #[.slice (some ⟨bA, oA, none⟩) nm c, .slice (some ⟨bC, oC, none⟩) nm c2] 48 (0, 0)) ∧ w'.cell? ⟨bK, oK + i, none⟩ = some (.string (stB pk)) ∧ w'.cell? ⟨bA, oA + i, none⟩ = some (.string (stB pk)) ∧ w'.cell? ⟨bC, oC + i, none⟩ = some (.string (stB qv))) [3, 5, 8, 17, 20] [] [] [] (by kernel_rfl) (by kernel_rfl) (by kernel_rfl) ⟨k6, eK, eA, eC⟩ ?_
              intro K8 hK8
              simp only [cutAt, List.take_succ_cons, List.take_zero, List.drop_succ_cons, List.drop_zero, List.take_nil, List.drop_nil, wpSegs, List.map_cons, List.map_nil, List.nil_append, List.cons_append]
              have hfd8 : Fr [] wr wr.drew := (Fr.refl [] wr).drew
              have dK : wr.drew.cell? ⟨bK, oK + i, none⟩ = some (.string (stB pk)) := eK
              have dA : wr.drew.cell? ⟨bA, oA + i, none⟩ = some (.string (stB pk)) := eA
              have dC : wr.drew.cell? ⟨bC, oC + i, none⟩ = some (.string (stB qv)) := eC
              have dk : wr.drew.heap[N]? = some (.cells #[.slice (some ⟨bA, oA, none⟩) nm c, .slice (some ⟨bC, oC, none⟩) nm c2] 48 (0, 0)) := k6
              have hfr8 : Fr [] w5 wr.drew := hfr.drew
              clear eK eA eC k6
              generalize wr.drew = wd at *
              have d20 : wd.cell? ⟨N, 0, none⟩ = some (.slice (some ⟨bA, oA, none⟩) nm c) := cell_of_row _ _ 0 _ _ _ dk
              have d21 : wd.cell? ⟨N, 1, none⟩ = some (.slice (some ⟨bC, oC, none⟩) nm c2) := cell_of_row _ _ 1 _ _ _ dk
              go_wp2_with fail
              refine ⟨trivial, hK8 _ _ (by kernel_rfl) ⟨fun o ho => ?_, fun o ho => ?_, fun o ho => ?_, fun o ho => ?_, fun o ho => ?_, trivial⟩ ?_⟩
              · cases ho
                exact gives_load rfl (fun w' h => load_cell 9 Tryz.underlying9 rfl h.2.1)
              · cases ho
                exact gives_load rfl (fun w' h => load_cell 34 Tryz.underlying34 rfl (cell_of_row _ _ 0 _ _ _ h.1))
              · cases ho
                exact gives_load rfl (fun w' h => load_cell 9 Tryz.underlying9 rfl h.2.2.1)
              · cases ho
                exact gives_load rfl (fun w' h => load_cell 34 Tryz.underlying34 rfl (cell_of_row _ _ 1 _ _ _ h.1))
              · cases ho
                exact gives_load rfl (fun w' h => load_cell 9 Tryz.underlying9 rfl h.2.2.2)
              go_wp2_with fail
              go_ret
              exact ⟨by rw [hdec.out]; rfl, hf15.then hfr8⟩
          · have hq : ((stB pk).toList == (stB qk).toList) = false := by rw [same_bs, bs_stB, bs_stB]; simpa using hkk
            have hdec := hid (hbad.out (fun h => hkk (by injection h)))
            refine wp_region_textS' (fun w' => w'.heap[N]? = some (.cells #[.slice (some ⟨bA, oA, none⟩) nm c, .slice (some ⟨bC, oC, none⟩) nm c2] 48 (0, 0)) ∧ w'.cell? ⟨bK, oK + i, none⟩ = some (.string (stB pk)) ∧ w'.cell? ⟨bA, oA + i, none⟩ = some (.string (stB qk)) ∧ w'.cell? ⟨bC, oC + i, none⟩ = some (.string (stB qv))) [3, 5, 8, 17, 20] [] [] [] (by kernel_rfl) (by kernel_rfl) (by kernel_rfl) ⟨k6, eK, eA, eC⟩ ?_
            intro K8 hK8
            simp only [cutAt, List.take_succ_cons, List.take_zero, List.drop_succ_cons, List.drop_zero, List.take_nil, List.drop_nil, wpSegs, List.map_cons, List.map_nil, List.nil_append, List.cons_append]
            have hfd8 : Fr [] wr wr.drew := (Fr.refl [] wr).drew
            have dK : wr.drew.cell? ⟨bK, oK + i, none⟩ = some (.string (stB pk)) := eK
            have dA : wr.drew.cell? ⟨bA, oA + i, none⟩ = some (.string (stB qk)) := eA
            have dC : wr.drew.cell? ⟨bC, oC + i, none⟩ = some (.string (stB qv)) := eC
            have dk : wr.drew.heap[N]? = some (.cells #[.slice (some ⟨bA, oA, none⟩) nm c, .slice (some ⟨bC, oC, none⟩) nm c2] 48 (0, 0)) := k6
            have hfr8 : Fr [] w5 wr.drew := hfr.drew
            clear eK eA eC k6
            generalize wr.drew = wd at *
            have d20 : wd.cell? ⟨N, 0, none⟩ = some (.slice (some ⟨bA, oA, none⟩) nm c) := cell_of_row _ _ 0 _ _ _ dk
            have d21 : wd.cell? ⟨N, 1, none⟩ = some (.slice (some ⟨bC, oC, none⟩) nm c2) := cell_of_row _ _ 1 _ _ _ dk
            go_wp2_with fail
            refine ⟨trivial, hK8 _ _ (by kernel_rfl) ⟨fun o ho => ?_, fun o ho => ?_, fun o ho => ?_, fun o ho => ?_, fun o ho => ?_, trivial⟩ ?_⟩
            · cases ho
              exact gives_load rfl (fun w' h => load_cell 9 Tryz.underlying9 rfl h.2.1)
            · cases ho
              exact gives_load rfl (fun w' h => load_cell 34 Tryz.underlying34 rfl (cell_of_row _ _ 0 _ _ _ h.1))
            · cases ho
              exact gives_load rfl (fun w' h => load_cell 9 Tryz.underlying9 rfl h.2.2.1)
            · cases ho
              exact gives_idle rfl
            · cases ho
              exact gives_idle rfl
            go_wp2_with fail
            go_ret
            exact ⟨by rw [hdec.out]; rfl, hf15.then hfr8⟩
        · have hie : i = nm := by omega
          subst hie
          rw [List.take_of_length_le (by have := hlen.out; omega), List.take_of_length_le (by omega)] at htake
          have hdec := hid (decide_eq_true htake)
          have hgn : getL (bs ⟨#[110, 111, 116, 32, 116, 104, 101, 114, 101, 44, 32, 115, 117, 114, 101, 108, 121, 44, 32, 116, 104, 105, 115, 32, 111, 110, 101]⟩) L = none := getL_of_not (fun p hp e => by
            have h1 := (hsm p hp).1
            rw [e] at h1
            revert h1
            decide)
          go_wp2_with fail
          refine (Get_g B st d k m n T L ⟨#[110, 111, 116, 32, 116, 104, 101, 114, 101, 44, 32, 115, 117, 114, 101, 108, 121, 44, 32, 116, 104, 105, 115, 32, 111, 110, 101]⟩ (by decide) wr hGr).mono ?_
          rw [hgn, elS_none]
          rintro e w6 ⟨rfl, rfl⟩
          clear hgn
          go_wp2_with fail
          go_ret
          exact ⟨by rw [hdec.out]; rfl, hfr0⟩
    · have hb : ((sz : Int) != (sizeL Lm : Int)) = true := by simp; omega
      have hdec := hid (hne1.out (by rw [← hszs.out]; exact hsz2))
      go_wp2_with fail
      go_ret
      exact ⟨by rw [hdec.out]; rfl, hf15⟩
  · refine wp_region_textS' (fun w' => w'.heap[N]? = some (.cells #[.slice A nm c, .slice C nm c2] 48 (0, 0))) [3, 9] [] [] [(9, []), (2, [])] (by kernel_rfl) (by kernel_rfl) (by kernel_rfl) k2 ?_
    intro K hK
    simp only [cutAt, List.take_succ_cons, List.take_zero, List.drop_succ_cons, List.drop_zero, List.take_nil, List.drop_nil, wpSegs, List.map_cons, List.map_nil, List.nil_append, List.cons_append]
    have hfd : Fr [] w2 w2.drew := (Fr.refl [] w2).drew
    have k3 := (hfd.block N (Array.getElem?_eq_some_iff.1 k2).1 (by simp)).trans k2
    generalize w2.drew = w3 at *
    have c20 : w3.cell? ⟨N, 0, none⟩ = some (.slice A nm c) := cell_of_row _ _ 0 _ _ _ k3
    have hf13 := hf12.then hfd
    have hlI : ((L.length : Int) != (nm : Int)) = true := by simp; omega
    have hdec := hid (hne0.out hlen)
    go_wp2_with fail
    refine ⟨(fun w' => w'.heap[N]? = some (.cells #[.slice A nm c, .slice C nm c2] 48 (0, 0))), fun _ h => h, k3, ?_⟩
    go_wp2_with fail
    refine ⟨(fun w' => w'.heap[N]? = some (.cells #[.slice A nm c, .slice C nm c2] 48 (0, 0))), fun _ h => h, k3, ?_⟩
    go_wp2_with fail
    refine ⟨trivial, hK _ _ (by kernel_rfl) ⟨fun o ho => ?_, fun o ho => ?_, trivial⟩ ?_⟩
    · cases ho
      exact gives_load rfl (fun w' h => load_cell 34 Tryz.underlying34 rfl (cell_of_row _ _ 0 _ _ _ h))
    · cases ho
      exact gives_idle rfl
    go_wp2_with fail
    go_ret
    exact ⟨by rw [hdec.out]; rfl, hf13⟩
end Go.Proofs.YtiialjncdhhceaaGreat
