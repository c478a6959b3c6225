/- The store does a transaction, where the power may go. -/
import Derived.Test.YtiialjncdhhceaaGreatStoStateP
namespace Go.Proofs.YtiialjncdhhceaaGreat
open Go.RowKit
set_option linter.unusedVariables false
set_option linter.unusedSimpArgs false

/-- What a transaction leaves as it was. -/
def SFr (w w' : World) (st j d k m : Nat) : Prop := (∃ S, Fr S w w' ∧ ∀ x ∈ S, x = st ∨ x = j ∨ x = d ∨ x = k ∨ x = m ∨ jRow w j x) ∧ ∀ x, jRow w' j x → jRow w j x ∨ w.heap.size ≤ x
theorem JFr.size {w w' : World} {j d k m : Nat} (h : JFr w w' j d k m) : w.heap.size ≤ w'.heap.size := by
  obtain ⟨S, hf, _⟩ := h
  exact hf.size
theorem JFs.sfr0 {w w' : World} {st j d k m : Nat} (h : JFs w w' j d k m) : SFr w w' st j d k m := by
  obtain ⟨⟨S, h1, h2⟩, h3⟩ := h
  exact ⟨⟨S, h1, fun x hx => .inr (h2 x hx)⟩, h3⟩
theorem JFs.sfr {w w1 w' : World} {st j d k m : Nat} (h : JFs w w1 j d k m) (hf : Fr [st] w1 w') (hst : st ≠ j) (hj : j < w1.heap.size) : SFr w w' st j d k m := by
  obtain ⟨⟨S, h1, h2⟩, h3⟩ := h
  refine ⟨⟨st :: S, ?_, fun x hx => ?_⟩, fun x hx => ?_⟩
  · exact (h1.mono (fun x hx => .inl (by simp [hx]))).trans hf (fun x hx => .inl (by simp at hx; simp [hx]))
  · rcases List.mem_cons.1 hx with h | h
    · exact .inl h
    · exact .inr (h2 x h)
  · obtain ⟨v, hv, ho⟩ := hx
    exact h3 x ⟨v, (cell_fr hf hj (by simp; omega) 4).symm.trans hv, ho⟩
theorem SFr.fr {w w' : World} {st j d k m : Nat} (hf : Fr [] w w') (hj : j < w.heap.size) : SFr w w' st j d k m :=
  ⟨⟨[], hf, by simp⟩, fun x ⟨v, hv, ho⟩ => .inl ⟨v, (cell_fr hf hj (by simp) 4).symm.trans hv, ho⟩⟩
/-- A store that is broken; what its disk holds behind a crash: what there was, or what there was to be. -/
def BrokenS (w' : World) (d k m st : Nat) (s : DSt) (L L' : List KV) : Prop :=
  s.offAt ≠ 0 ∧ ∃ j mp s', w'.heap[st]? = some (.cells (sCells d j mp) 61 (0, 0)) ∧ (∃ hd ar A n c C nc cc, w'.heap[j]? = some (.cells (jCells d hd ar A n c C nc cc true) 85 (0, 0))) ∧ IsDisk w' d k m s' ∧ s'.n = s.n ∧ s'.steps ≤ s.steps + 1004 ∧
    ∀ ch, ∃ hd' ar' recs', Holds (s'.crash ch) hd' ar' recs' ∧ (Tells recs' L ∨ Tells recs' L')

set_option maxHeartbeats 8000000 in
set_option maxRecDepth 100000 in
theorem Do_p (B st j d k m mp hd ar : Nat) (recs : List ByteArray) (L : List KV) (A : Option Addr) (n c : Nat) (tx : List Wr) (s : DSt) (w : World) (hS : IsSt w B st j d k m mp hd ar recs L) (hR : RW w A n tx) (hyes : rightB tx = true)
    (hD : IsDisk w d k m s) (hH : Holds s hd ar recs) (hT : Tells recs L) (hst : s.steps ≤ 800000000) (hn32 : 32 ≤ s.n) (hcnt : L.length ≤ 40) :
    Calls Tryz.prog 13 #[.pointer (some ⟨st, 0, none⟩), .slice A n c] w fun e w' =>
      (¬ ((applyTx L tx).length ≤ 40 ∧ sizeL (applyTx L tx) ≤ 16 * s.n) → e = .returned (.int .i64 140) ∧ Fr [] w w') ∧
      ((applyTx L tx).length ≤ 40 ∧ sizeL (applyTx L tx) ≤ 16 * s.n → (e = .returned (.int .i64 0) ∧ ∃ mp' hd' ar' recs' s', IsSt w' B st j d k m mp' hd' ar' recs' (applyTx L tx) ∧ IsDisk w' d k m s' ∧ Holds s' hd' ar' recs' ∧ Tells recs' (applyTx L tx) ∧ s'.offAt = s.offAt ∧ s'.off = false ∧ s'.n = s.n ∧ s'.steps ≤ s.steps + 1004 ∧ Below B w w' ∧ SFr w w' st j d k m) ∨
        (e = .returned (.int .i64 131) ∧ BrokenS w' d k m st s (L) (applyTx L tx) ∧ Below B w w' ∧ SFr w w' st j d k m)) := by
  have hyes' : (tx.all Wr.ok && decide (1 ≤ n) && decide (n ≤ 20)) = true := by rw [← hR.1]; exact hyes
  obtain ⟨hkeys, hlns, hn1, hn20⟩ := right_lns hyes
  rw [hR.1] at hn1 hn20
  have hs := hS.blk
  have hJ := hS.jr
  have hM := hS.map
  have hap := hS.ap
  have hlo := hS.lo
  have hBw := hJ.lo.2.2.2.2
  have hsl : st < w.heap.size := (Array.getElem?_eq_some_iff.1 hs).1
  have hmpl := hM.lt
  have hlts := hD.lts
  have hjl : j < w.heap.size := by obtain ⟨_, _, _, _, _, _, h, _⟩ := hJ.ex; exact (Array.getElem?_eq_some_iff.1 h).1
  have hltj : ∀ x, x = j ∨ x = d ∨ x = k ∨ x = m → x < w.heap.size := by intro x hx; omega
  have hnle := hD.ok.n_le
  have hsm : Small (applyTx L tx) := hT.small.all hlns
  have hAlt := hid (fun h => hR.lt h)
  have hL' : doAll L (tx.map Wr.ln) = applyTx L tx := rfl
  have hlen' : (applyTx L tx).length ≤ 60 := by
    have := doAll_length L (tx.map Wr.ln)
    rw [List.length_map, hR.1] at this
    unfold applyTx
    omega
  have hsz' : sizeL (applyTx L tx) ≤ 1000000 := by
    have h1 : ∀ (Q : List KV), Small Q → sizeL Q ≤ 6044 * Q.length := by
      intro Q hQ
      induction Q with
      | nil => exact Nat.zero_le _
      | cons p r ih =>
        have h2 := hQ p (by simp)
        have h3 := ih (fun x hx => hQ x (by simp [hx]))
        simp only [sizeL, List.length_cons]
        omega
    have := h1 _ hsm
    omega
  have hdump := dump_length (applyTx L tx)
  generalize hLL : applyTx L tx = L' at *
  replace hLL := hid hLL
  replace hyes' := hid hyes'
  replace hkeys := hid hkeys
  replace hlns := hid hlns
  replace hL' := hid hL'
  replace hdump := hid hdump
  go_enter Tryz.func13, Tryz.ntmps13
  go_wp2_with fail
  refine (Broken_s st d j mp B k m hd ar recs w hs hJ).mono ?_
  rintro e w1 ⟨rfl, rfl⟩
  go_wp2_with fail
  refine (right_c A n c tx w hR).mono ?_
  rw [hyes'.out]
  rintro e w1 ⟨rfl, hf1⟩
  have hs1 := (hf1.block st hsl (by simp)).trans hs
  go_wp2_with fail
  refine wp_region_textS' (fun w' => w'.heap[st]? = some (.cells (sCells d j mp) 61 (0, 0))) [3, 7, 11] [] [] [(13, []), (1, []), (1, [])] (by kernel_rfl) (by kernel_rfl) (by kernel_rfl) hs1 ?_
  intro K hK
  simp only [cutAt, List.take_succ_cons, List.take_zero, List.drop_succ_cons, List.drop_zero, List.take_nil, List.drop_nil, wpSegs, List.map_cons, List.map_nil, List.nil_append, List.cons_append]
  have hf1d : Fr [] w w1.drew := hf1.drew
  generalize w1.drew = w2 at *
  have hs2 := (hf1d.block st hsl (by simp)).trans hs
  have hM2 := hM.fr hf1d
  have q0 : w2.cell? ⟨st, 0, none⟩ = some (.pointer (some ⟨d, 0, none⟩)) := cell_of_row _ _ 0 _ _ _ hs2
  have q1 : w2.cell? ⟨st, 1, none⟩ = some (.pointer (some ⟨j, 0, none⟩)) := cell_of_row _ _ 1 _ _ _ hs2
  have q2 : w2.cell? ⟨st, 2, none⟩ = some (.map (some mp)) := cell_of_row _ _ 2 _ _ _ hs2
  clear hs1 hf1
  go_wp2_with fail
  refine (CloneM_c mp L w2 hM2).mono ?_
  rintro e w3 ⟨rfl, hM3, hf3⟩
  have hf03 := hf1d.then hf3
  have hs3 := (hf03.block st hsl (by simp)).trans hs
  have hz3 := hf3.size
  have hz2 := hf1d.size
  have hN3 := hM3.lt
  go_wp2_with fail
  refine ⟨fun w' => w'.heap[st]? = some (.cells (sCells d j mp) 61 (0, 0)), fun _ h => h, hs3, ?_⟩
  go_wp2_with fail
  refine ⟨fun w' => w'.heap[st]? = some (.cells (sCells d j mp) 61 (0, 0)), fun _ h => h, hs3, ?_⟩
  go_wp2_with fail
  have hnx : (w3.alloc (.cells (sCells d j w2.heap.size) 61)).heap[w3.heap.size]? = some (.cells (sCells d j w2.heap.size) 61 (0, 0)) := heap_alloc_new _ _
  have hfa : Fr [] w3 (w3.alloc (.cells (sCells d j w2.heap.size) 61)) := (Fr.refl [] w3).alloc _
  have hza : (w3.alloc (.cells (sCells d j w2.heap.size) 61)).heap.size = w3.heap.size + 1 := by simp
  have efold : w3.alloc (.cells #[.pointer (some ⟨d, 0, none⟩), .pointer (some ⟨j, 0, none⟩), .map (some w2.heap.size)] 61) = w3.alloc (.cells (sCells d j w2.heap.size) 61) := rfl
  rw [efold]
  clear efold
  obtain ⟨nx, hnxe⟩ : ∃ nx, nx = w3.heap.size := ⟨_, rfl⟩
  obtain ⟨np, hnpe⟩ : ∃ np, np = w2.heap.size := ⟨_, rfl⟩
  rw [← hnxe] at hnx ⊢
  rw [← hnpe] at hnx hfa hM3 hza ⊢
  generalize w3.alloc (.cells (sCells d j np) 61) = w4 at *
  have hf04 := hf03.then hfa
  have hs4 := (hf04.block st hsl (by simp)).trans hs
  have hM4 := hM3.fr hfa
  have hord : w.heap.size ≤ np ∧ np < nx ∧ nx < w4.heap.size := by omega
  replace hnxe := hid hnxe
  replace hnpe := hid hnpe
  clear q0 q1 q2 hs3 hM2 hM3 hs2
  refine ⟨fun w' => w'.heap[st]? = some (.cells (sCells d j mp) 61 (0, 0)), fun _ h => h, hs4, ?_⟩
  go_wp2_with fail
  refine ⟨trivial, hK _ _ (by kernel_rfl) ⟨fun o ho => ?_, fun o ho => ?_, fun o ho => ?_, trivial⟩ ?_⟩
  · cases ho
    exact gives_load rfl (fun w' h => load_cell 27 Tryz.underlying27 rfl (cell_of_row _ _ 0 _ _ _ h))
  · cases ho
    exact gives_load rfl (fun w' h => load_cell 56 Tryz.underlying56 rfl (cell_of_row _ _ 1 _ _ _ h))
  · cases ho
    exact gives_load rfl (fun w' h => load_cell 59 Tryz.underlying59 rfl (cell_of_row _ _ 2 _ _ _ h))
  have hR4 := hR.fr hf04
  go_wp2_with fail
  refine (does_c nx d j np L A n c tx w4 hnx hM4 hR4 (fun h a ha => by have := hAlt.out h a ha; omega) (by omega) (by omega) (by omega) hkeys.out).mono ?_
  rw [hL'.out]
  rintro e w5 ⟨v5, rfl, hO5, hM5, hf5⟩
  obtain ⟨A5, c5, rfl, hc5, hr5, hz5⟩ := hO5.form
  have hlt5 := hO5.lt
  obtain ⟨N5, hN5⟩ : ∃ N5, (encL (tx.map Wr.ln)).length = N5 := ⟨_, rfl⟩
  rw [hN5] at hr5 hc5 ⊢
  replace hN5 := hid hN5
  have hf05 : Fr [] w w5 := hf04.past hf5 (by intro z hz; simp at hz; omega)
  have hs5 := (hf05.block st hsl (by simp)).trans hs
  have hnx5 := (hf5.block nx (by omega) (by simp; omega)).trans hnx
  have hz45 := hf5.size
  have n2 : w5.cell? ⟨nx, 2, none⟩ = some (.map (some np)) := cell_of_row _ _ 2 _ _ _ hnx5
  have s0 : w5.cell? ⟨st, 0, none⟩ = some (.pointer (some ⟨d, 0, none⟩)) := cell_of_row _ _ 0 _ _ _ hs5
  clear hs4 hnx hM4 hR4 hO5
  go_wp2_with fail
  have hfd5 : Fr [] w5 w5.drew := (Fr.refl [] w5).drew
  have n2d : w5.drew.cell? ⟨nx, 2, none⟩ = some (.map (some np)) := n2
  have s0d : w5.drew.cell? ⟨st, 0, none⟩ = some (.pointer (some ⟨d, 0, none⟩)) := s0
  have hM5d := hM5.fr hfd5
  have hnx5d : w5.drew.heap[nx]? = some (.cells (sCells d j np) 61 (0, 0)) := hnx5
  have hD5 := hD.fr (hf05.then hfd5)
  by_cases hcap : L'.length ≤ 40
  · have hcapI : ¬ (40 : Int) < (L'.length : Int) := by omega
    refine wp_region_textS' (fun w' => w'.cell? ⟨st, 0, none⟩ = some (.pointer (some ⟨d, 0, none⟩))) [12] [] [] [(5, []), (4, []), (5, [])] (by kernel_rfl) (by kernel_rfl) (by kernel_rfl) s0 ?_
    intro K2 hK2
    simp only [cutAt, List.take_succ_cons, List.take_zero, List.drop_succ_cons, List.drop_zero, List.take_nil, List.drop_nil, wpSegs, List.map_cons, List.map_nil, List.nil_append, List.cons_append]
    clear n2 s0
    generalize w5.drew = w6 at *
    go_wp2_with (first | (with_reducible refine stopS_ln rfl ?_))
    refine Stop.go (ln_str rfl rfl rfl hM5d ?_)
    go_wp2_with (first | (with_reducible refine stopS_ln rfl ?_))
    refine ⟨fun w' => w'.cell? ⟨st, 0, none⟩ = some (.pointer (some ⟨d, 0, none⟩)), fun _ h => h, s0d, ?_⟩
    go_wp2_with (first | (with_reducible refine stopS_ln rfl ?_))
    refine (Size_c nx d j np L' w6 hnx5d hM5d (by omega)).mono ?_
    rintro e w7 ⟨rfl, hf7⟩
    have s07 := hf7.cell s0d (by simp)
    go_wp2_with fail
    refine ⟨fun w' => w'.cell? ⟨st, 0, none⟩ = some (.pointer (some ⟨d, 0, none⟩)), fun _ h => h, s07, ?_⟩
    have hD7 := hD5.fr hf7
    clear s0d n2d
    go_wp2_with fail
    refine (Len_c d k m s w7 hD7).mono ?_
    rintro e w8 ⟨rfl, rfl⟩
    go_wp2_with fail
    refine ⟨fun w' => w'.cell? ⟨st, 0, none⟩ = some (.pointer (some ⟨d, 0, none⟩)), fun _ h => h, s07, ?_⟩
    have hf57 := hfd5.then hf7
    have hf07 := hf05.then hf57
    by_cases hfit : sizeL L' ≤ 16 * s.n
    · have hfitI : ¬ 16 * (s.n : Int) < (sizeL L' : Int) := by omega
      go_wp2_with fail
      refine ⟨trivial, hK2 _ _ (by kernel_rfl) ⟨fun o ho => ?_, trivial⟩ ?_⟩
      · cases ho
        exact gives_load rfl (fun w' h => load_cell 27 Tryz.underlying27 rfl h)
      clear s07 hcapI hfitI
      have hs7 := (hf07.block st hsl (by simp)).trans hs
      have hnx7 := (hf57.block nx (by omega) (by simp)).trans hnx5
      have hM7 := hM5.fr hf57
      have hJ7 := hJ.fr hf07
      have hr7 := hr5.below hf57.all
      go_wp2_with fail
      have hdl := hdump.out
      refine (writes_p B st j d k m mp nx np hd ar recs L L' (tx.map Wr.ln) A5 N5 c5 s w7 hs7 hnx7 hM7 hJ7 (hD.fr hf07) hH hT hst hr7 hlns.out hL'.out hsm (by omega) (by omega) (by unfold arL; omega) ⟨hap.1, hap.2.1, hap.2.2.1, hap.2.2.2.1⟩).mono ?_
      clear hdl
      rintro e w9 (⟨rfl, hd9, ar9, recs9, s9, hJ9, hD9, hH9, hT9, q91, q9o, q92, q93, hb9, hjs9⟩ | ⟨rfl, hnz, s9, hrow9, hD9, q92, q93, hcr9, hb9, hjs9⟩)
      · have hne : np ≠ j ∧ np ≠ d ∧ np ≠ k ∧ np ≠ m := by omega
        have hnxe9 : nx ≠ j ∧ nx ≠ d ∧ nx ≠ k ∧ nx ≠ m := by omega
        have hj9 := hjs9.jfr hJ7
        have hM9 := hj9.mapS hM7 hne
        have hs9 : w9.heap[st]? = some (.cells (sCells d j mp) 61 (0, 0)) := hj9.block hs7 ⟨hap.1, hap.2.1, hap.2.2.1, hap.2.2.2.1⟩ (fun cs h => by injection h with h1 h2; revert h2; decide)
        have hnx9 : w9.heap[nx]? = some (.cells (sCells d j np) 61 (0, 0)) := hj9.block hnx7 hnxe9 (fun cs h => by injection h with h1 h2; revert h2; decide)
        have x2 : w9.cell? ⟨nx, 2, none⟩ = some (.map (some np)) := cell_of_row _ _ 2 _ _ _ hnx9
        have y2 : w9.cell? ⟨st, 2, none⟩ = some (.map (some mp)) := cell_of_row _ _ 2 _ _ _ hs9
        have y2z : w9.frozen? ⟨st, 2, none⟩ = false := frozen_of_row _ _ 2 _ _ hs9
        have b9 := heap_setCell_same w9 st 2 _ _ (.map (some np)) hs9
        have hf10 : Fr [st] w9 (w9.setCell ⟨st, 2, none⟩ (.map (some np))) := (Fr.refl [st] w9).setCell _ (.inl (by simp)) _
        have hsz9 : B ≤ w9.heap.size := hJ9.lo.2.2.2.2
        replace b9 := hid b9
        clear hs7 hnx7 hr7
        go_wp2_with fail
        go_ret
        refine ⟨fun h => absurd ⟨hcap, hfit⟩ h, fun _ => .inl ⟨rfl, np, hd9, ar9, recs9, s9, ⟨b9.out.trans rfl, hM9.kept hf10 (by simp; omega), ?_, ⟨hlo.1, by omega⟩, ⟨hap.1, hap.2.1, hap.2.2.1, hap.2.2.2.1, hne.1, hne.2.1, hne.2.2.1, hne.2.2.2, by omega⟩⟩, hD9.away hf10 (by simp; omega), hH9, hT9, q91, q9o, q92, q93, ?_, (hjs9.pre hf07 hltj).sfr hf10 hap.1 (Nat.lt_of_lt_of_le hjl (by have := hf07.size; have := hb9.size; have := hj9.size; omega))⟩⟩
        · exact hJ9.store hs9 hf10 hap.1
        · exact ((hf07.below hBw (by simp)).trans hb9).trans (hf10.below hsz9 (by simp; omega))
      · have hj9 := hjs9.jfr hJ7
        have hs9 : w9.heap[st]? = some (.cells (sCells d j mp) 61 (0, 0)) := hj9.block hs7 ⟨hap.1, hap.2.1, hap.2.2.1, hap.2.2.2.1⟩ (fun cs h => by injection h with h1 h2; revert h2; decide)
        clear hs7 hnx7 hr7
        go_wp2_with fail
        go_ret
        exact ⟨fun h => absurd ⟨hcap, hfit⟩ h, fun _ => .inr ⟨rfl, ⟨hnz, j, mp, s9, hs9, hrow9, hD9, q92, q93, hcr9⟩, (hf07.below hBw (by simp)).trans hb9, (hjs9.pre hf07 hltj).sfr0⟩⟩
    · have hfitI : 16 * (s.n : Int) < (sizeL L' : Int) := by omega
      go_wp2_with fail
      refine ⟨trivial, hK2 _ _ (by kernel_rfl) ⟨fun o ho => ?_, trivial⟩ ?_⟩
      · cases ho
        exact gives_load rfl (fun w' h => load_cell 27 Tryz.underlying27 rfl h)
      clear s07
      go_wp2_with fail
      go_ret
      exact ⟨fun _ => ⟨rfl, hf07⟩, fun h => absurd h.2 hfit⟩
  · have hcapI : (40 : Int) < (L'.length : Int) := by omega
    refine wp_region_textS' (fun w' => w'.cell? ⟨st, 0, none⟩ = some (.pointer (some ⟨d, 0, none⟩))) [12] [] [] [(5, []), (4, []), (5, [])] (by kernel_rfl) (by kernel_rfl) (by kernel_rfl) s0 ?_
    intro K2 hK2
    simp only [cutAt, List.take_succ_cons, List.take_zero, List.drop_succ_cons, List.drop_zero, List.take_nil, List.drop_nil, wpSegs, List.map_cons, List.map_nil, List.nil_append, List.cons_append]
    clear n2 s0
    generalize w5.drew = w6 at *
    go_wp2_with (first | (with_reducible refine stopS_ln rfl ?_))
    refine Stop.go (ln_str rfl rfl rfl hM5d ?_)
    go_wp2_with (first | (with_reducible refine stopS_ln rfl ?_))
    refine ⟨fun w' => w'.cell? ⟨st, 0, none⟩ = some (.pointer (some ⟨d, 0, none⟩)), fun _ h => h, s0d, ?_⟩
    go_wp2_with fail
    refine ⟨fun w' => w'.cell? ⟨st, 0, none⟩ = some (.pointer (some ⟨d, 0, none⟩)), fun _ h => h, s0d, ?_⟩
    go_wp2_with fail
    refine ⟨fun w' => w'.cell? ⟨st, 0, none⟩ = some (.pointer (some ⟨d, 0, none⟩)), fun _ h => h, s0d, ?_⟩
    go_wp2_with fail
    refine ⟨trivial, hK2 _ _ (by kernel_rfl) ⟨fun o ho => ?_, trivial⟩ ?_⟩
    · cases ho
      exact gives_idle rfl
    clear s0d n2d
    go_wp2_with fail
    go_ret
    exact ⟨fun _ => ⟨rfl, hf05.then hfd5⟩, fun h => absurd h.1 hcap⟩
end Go.Proofs.YtiialjncdhhceaaGreat
