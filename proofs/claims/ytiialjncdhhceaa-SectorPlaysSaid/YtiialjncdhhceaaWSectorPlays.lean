/- The walk of SectorPlays: it returns true, whatever the input, and writes nothing that was there. -/
import Derived.Test.YtiialjncdhhceaaSecSim
import Derived.Test.YtiialjncdhhceaaOpenSteps
namespace Go.Proofs.Ytiialjncdhhceaa.sectorPlays
open Go.RowKit
set_option linter.unusedVariables false
set_option linter.unusedSimpArgs false

theorem infoStep : (Try.prog.info? 72).map (fun i => (i.zero, i.size)) = some (some (.agg #[.int .i64 0, .int .i64 0, .slice none 0 0, .int .i64 0, .slice none 0 0]), 5) := by kernel_rfl
theorem infoB13 : (Try.prog.info? 5).map (fun i => (i.zero, i.size, i.bytes)) = some (some (.int .u8 0), 1, 1) := by kernel_rfl
theorem step_one (v : StepV) : ∀ x ∈ v.cells, x.oneCell' = true := by
  intro x hx
  unfold StepV.cells at hx
  simp at hx
  rcases hx with rfl | rfl | rfl | rfl | rfl <;> rfl

set_option maxHeartbeats 1500000 in
set_option maxRecDepth 100000 in
theorem walk (n0 : Int) (A : Option Addr) (n c : Nat) (L : List StepV) (w : World) (hn0 : (Lit.int .i64 n0).wf = true) (hL : RS w A n L) (hnc : n ≤ c) :
    Calls Try.prog 14 #[.int .i64 n0, .slice A n c] w fun e w' => e = .returned (.bool true) ∧ Below w.heap.size w w' := by
  clear hn0
  by_cases hbig : 60 < n ∨ 20 < n0
  · have hbig' : (60 : Int) < n ∨ (20 : Int) < n0 := by omega
    clear hbig
    go_enter Try.func14, Try.ntmps14
    go_wp2_with (go_at_call 38; refine (known13_c _).mono ?_; rintro e w1 ⟨rfl, hf1⟩)
    all_goals go_ret
    all_goals exact ⟨rfl, hf1.all⟩
  have hb1 : ¬ (60 : Int) < n := by omega
  have hb2 : ¬ (20 : Int) < n0 := by omega
  have hn60 : n ≤ 60 := by omega
  clear hbig
  obtain ⟨N, hN⟩ : ∃ N : Nat, max 0 (min n0 1000) = (N : Int) := ⟨(max 0 (min n0 1000)).toNat, by omega⟩
  replace hN := hid hN
  have hlen := hL.1
  go_enter Try.func14, Try.ntmps14
  go_wp2_with (go_at_call 38; refine (known13_c _).mono ?_; rintro e w1 ⟨rfl, hf1⟩)
  refine (New_c n0 N (by have := hN.out; omega) w1).mono ?_
  rintro e w2 ⟨d, k, m, rfl, hD2, hlo, hf2⟩
  have hs1 := hf1.size
  have hltD := hD2.lts
  go_wp2_with fail
  refine (RNew_c n0 N hN.out w2).mono ?_
  rintro e w3 ⟨r, a, b, p, rfl, hR3, hlo2, hf3⟩
  have hF3 := (hf1.then hf2).then hf3
  have hD3 := hD2.fr hf3
  have hw : w.heap.size ≤ d ∧ w.heap.size ≤ k ∧ w.heap.size ≤ m ∧ w.heap.size ≤ r ∧ w.heap.size ≤ a ∧ w.heap.size ≤ b ∧ w.heap.size ≤ p := by omega
  have hap : (d < r ∧ d < a ∧ d < b ∧ d < p) ∧ (k < r ∧ k < a ∧ k < b ∧ k < p) ∧ (m < r ∧ m < a ∧ m < b ∧ m < p) := by omega
  clear hlo hlo2 hltD hs1 hf1 hf2 hf3 hD2
  go_wp2_with fail
  go_loopw [7] (fun iv wr => ∃ (i : Nat) (s : DSt) (t : RSt), i ≤ n ∧ iv = .int .i64 i ∧ Fr [] w wr ∧ IsDisk wr d k m s ∧ IsRef wr r a b p t ∧ Sim (60 - i) s t ∧ s.steps ≤ i) (fun iv _ => n - (intOf iv).toNat)
  case atStart => exact ⟨0, _, _, by omega, rfl, hF3, hD3, hR3, Sim.new N _, Nat.le_refl _⟩
  case round =>
    obtain ⟨i, s, t, hi, rfl, hfr, hD, hR, hS, hst⟩ := hrel
    clear hF3 hD3 hR3
    by_cases hin : i < n
    · obtain ⟨sl, off, rfl, hc⟩ : ∃ sl off, A = some ⟨sl, off, none⟩ ∧ ∀ j (h : j < L.length), w.rangeAt sl (off + j * 5) L[j].cells := by
        rcases hL.2.2 with h0 | h0
        · omega
        · exact h0
      have hci := hc i (by omega)
      have hok := hL.2.1 (L[i]'(by omega)) (List.getElem_mem _)
      generalize L[i]'(by omega) = v at *
      have hsl : sl < w.heap.size := World.block_lt_of_cell? w ⟨sl, off + i * 5 + 0, none⟩ (hci 0 _ rfl)
      have hcr := range_fr hfr hci hsl (by simp)
      obtain ⟨ok1, ok2, okb, okc, okat⟩ := hok
      have okbl := okb.lt
      have okcl := okc.lt
      have hln := okb.1
      have hlc := okc.1
      have hltD := hD.lts
      have hltR : r < wr.heap.size ∧ a < wr.heap.size ∧ b < wr.heap.size ∧ p < wr.heap.size := ⟨hR.rlt, hR.now.lt, hR.kept.lt, hR.plt⟩
      have hws := hfr.size
      obtain ⟨B, hB⟩ : ∃ B, 60 - i = B + 1 := ⟨60 - i - 1, by omega⟩
      rw [hB] at hS
      have hB2 : 60 - (i + 1) = B := by omega
      clear hc hci hL
      replace hB := hid hB
      replace hB2 := hid hB2
      have hS' := hid hS
      clear hS
      go_wp2_with (first | (with_reducible refine stop_ld2 72 rfl ?_) | (with_reducible refine stop_al2 72 rfl ?_) | (with_reducible refine stop_st2 72 rfl ?_) | (at_builtin; refine stop_append rfl ?_))
      refine Stop.go (ld_arr 72 v.cells _ Try.underlying72 rfl (zero_of_info infoStep).2 rfl rfl sl (off + i * 5) rfl hcr ?_)
      go_wp2_with (first | (with_reducible refine stop_ld2 72 rfl ?_) | (with_reducible refine stop_al2 72 rfl ?_) | (with_reducible refine stop_st2 72 rfl ?_) | (at_builtin; refine stop_append rfl ?_))
      refine Stop.go (al_arr 72 infoStep rfl rfl ?_)
      intro w4 hb4 hs4 hf4
      obtain ⟨sb, hsb⟩ : ∃ sb, sb = wr.heap.size := ⟨_, rfl⟩
      rw [← hsb] at hb4 hs4
      rw [← hsb]
      replace hsb := hid hsb
      go_wp2_with (first | (with_reducible refine stop_ld2 72 rfl ?_) | (with_reducible refine stop_al2 72 rfl ?_) | (with_reducible refine stop_st2 72 rfl ?_) | (at_builtin; refine stop_append rfl ?_))
      refine Stop.go (st_arr 72 v.cells (zero_of_info infoStep).2 (step_one v) rfl rfl sb 0 rfl rfl (there_of_block hb4 (by simp [StepV.cells])) ?_)
      intro w5 hw5 hr5 hf5
      clear hw5 hb4
      have hsbge : wr.heap.size ≤ sb := by rw [hsb.out]; exact Nat.le_refl _
      have hsb5 : sb < w5.heap.size := by have := hf5.size; omega
      have hfr5 : Fr [] wr w5 := hf4.trans hf5 (by intro z hz; simp at hz; right; omega)
      have s0 : w5.cell? ⟨sb, 0, none⟩ = some (.int .i64 v.what) := hr5 0 _ rfl
      have s1 : w5.cell? ⟨sb, 1, none⟩ = some (.int .i64 v.i) := hr5 1 _ rfl
      have s2 : w5.cell? ⟨sb, 2, none⟩ = some (.slice v.A v.n v.c) := hr5 2 _ rfl
      have s3 : w5.cell? ⟨sb, 3, none⟩ = some (.int .i64 v.at_) := hr5 3 _ rfl
      have s4 : w5.cell? ⟨sb, 4, none⟩ = some (.slice v.C v.nc v.cc) := hr5 4 _ rfl
      have hD5 := hD.fr hfr5
      have hR5 := hR.fr hfr5
      have hF5 := hfr.then hfr5
      have okb5 := okb.below hF5.all
      have okc5 := okc.below hF5.all
      clear hcr hr5 hf4 hf5 hs4
      by_cases hbig : 100 < v.n ∨ 60 < v.nc
      · have hbig' : (100 : Int) < v.n ∨ (60 : Int) < v.nc := by omega
        clear hbig
        go_wp2_with fail
        all_goals go_ret
        all_goals exact ⟨rfl, hF5.all⟩
      have hv1 : ¬ (100 : Int) < v.n := by omega
      have hv2 : ¬ (60 : Int) < v.nc := by omega
      have hv1' : v.n ≤ 100 := by omega
      clear hbig
      by_cases hw2 : v.what ≤ 2
      · have hld1 : ∀ w' : World, Fr [d, m, r, a, p] w5 w' → (Instr.loadAt 3 (.pointer (some ⟨sb, 1, none⟩))).run Try.prog w' = _ := fun w' hf => load_cell 3 Try.underlying3 rfl (hf.cell s1 (by simp; omega))
        have hld2 : ∀ w' : World, Fr [d, m, r, a, p] w5 w' → (Instr.loadAt 22 (.pointer (some ⟨sb, 2, none⟩))).run Try.prog w' = _ := fun w' hf => load_cell 22 Try.underlying22 rfl (hf.cell s2 (by simp; omega))
        replace hld1 := hid hld1
        replace hld2 := hid hld2
        go_wp2_with (first | (with_reducible refine stop_ld2 72 rfl ?_) | (with_reducible refine stop_al2 72 rfl ?_) | (with_reducible refine stop_st2 72 rfl ?_) | (at_builtin; refine stop_append rfl ?_))
        have hfd : Fr [] w5 w5.drew := (Fr.refl [] w5).drew
        have s1d : w5.drew.cell? ⟨sb, 1, none⟩ = _ := s1
        have s2d : w5.drew.cell? ⟨sb, 2, none⟩ = _ := s2
        have hfd5 : Fr [d, m, r, a, p] w5 w5.drew := (Fr.refl _ w5).drew
        refine wp_region_textS' (fun w' => Fr [d, m, r, a, p] w5 w') [2, 4, 9, 11] [] [] [(6, []), (1, []), (6, [])] (by kernel_rfl) (by kernel_rfl) (by kernel_rfl) hfd5 ?_
        intro K hK
        simp only [cutAt, List.take_succ_cons, List.take_zero, List.drop_succ_cons, List.drop_zero, List.take_nil, List.drop_nil, wpSegs, List.map_cons, List.map_nil, List.nil_append, List.cons_append]
        generalize w5.drew = w6 at *
        have hD6 := hD5.fr hfd
        have hR6 := hR5.fr hfd
        have okb6 := okb5.below hfd.all
        have hs56 := hfd.size
        have hBs : w.heap.size ≤ w6.heap.size := by omega
        go_wp2_with (first | (with_reducible refine stop_ld2 72 rfl ?_) | (with_reducible refine stop_al2 72 rfl ?_) | (with_reducible refine stop_st2 72 rfl ?_) | (at_builtin; refine stop_append rfl ?_))
        refine Stop.go (appN w6.heap.size rfl _ _ 22 5 rfl Try.underlying22 infoB13 (OB.nil _ _ _) okb6 rfl rfl (Nat.le_refl _) (by simp; omega) ?_)
        intro v7 w7 ho7 hf7 hn7
        rw [List.nil_append] at ho7
        obtain ⟨A7, c7, rfl, hc7, hr7, hz7⟩ := ho7.form
        rw [hln] at hr7 hc7
        rw [hln]
        have hlt7 := ho7.lt
        have hf7' : Fr [] w6 w7 := hf7
        have s17 := hf7'.cell s1d (by simp)
        have s27 := hf7'.cell s2d (by simp)
        have hS7 : Fr [d, m, r, a, p] w5 w7 := hfd5.then hf7'
        go_wp2_with (first | (with_reducible refine stop_ld2 72 rfl ?_) | (with_reducible refine stop_al2 72 rfl ?_) | (with_reducible refine stop_st2 72 rfl ?_) | (at_builtin; refine stop_append rfl ?_))
        refine ⟨fun w' => Fr [d, m, r, a, p] w5 w', fun _ h => h, hS7, ?_⟩
        go_wp2_with (first | (with_reducible refine stop_ld2 72 rfl ?_) | (with_reducible refine stop_al2 72 rfl ?_) | (with_reducible refine stop_st2 72 rfl ?_) | (at_builtin; refine stop_append rfl ?_))
        have hlts6 := hD6.lts
        refine (Write_c d k m s v.i A7 v.n c7 v.l w7 (hD6.fr hf7') hr7 (by intro h0 z hz; have := (hlt7 _ (hz7 z hz).1).1; omega) (by omega)).mono ?_
        obtain ⟨hcode, hS2⟩ := hS'.out.write v.i v.l
        obtain ⟨q1, q2, q3⟩ := DSt.write_keeps s v.i v.l
        rw [hcode]
        replace hcode := hid hcode
        generalize (s.write v.i v.l).2 = s2' at *
        replace hS2 := hid hS2
        rintro e w8 ⟨rfl, hD8, hf8⟩
        have s18 := hf8.cell s17 (by simp; omega)
        have s28 := hf8.cell s27 (by simp; omega)
        have hS8 : Fr [d, m, r, a, p] w5 w8 := hS7.trans hf8 (by simp)
        have hR8 := (hR6.fr hf7').away hf8 (by simp; omega)
        have okb8 := ((okb6.below hf7'.all).kept' hf8 (by intro h0 z hz; have := okbl h0 z hz; simp; omega))
        clear s17 s27 s1d s2d
        go_wp2_with (first | (with_reducible refine stop_ld2 72 rfl ?_) | (with_reducible refine stop_al2 72 rfl ?_) | (with_reducible refine stop_st2 72 rfl ?_) | (at_builtin; refine stop_append rfl ?_))
        refine ⟨fun w' => Fr [d, m, r, a, p] w5 w', fun _ h => h, hS8, ?_⟩
        go_wp2_with (first | (with_reducible refine stop_ld2 72 rfl ?_) | (with_reducible refine stop_al2 72 rfl ?_) | (with_reducible refine stop_st2 72 rfl ?_) | (at_builtin; refine stop_append rfl ?_))
        refine (RWrite_c r a b p t v.i v.A v.n v.c v.l w8 hR8 okb8 (by intro h0 z hz; have := okbl h0 z hz; omega) (by have := hS'.out.steps; omega)).mono ?_
        generalize (t.write v.i v.l).2 = t2' at *
        generalize (t.write v.i v.l).1 = cd at *
        rintro e w9 ⟨rfl, hR9, hf9⟩
        have s19 := hf9.cell s18 (by simp; omega)
        have hS9 : Fr [d, m, r, a, p] w5 w9 := hS8.trans hf9 (by simp)
        have hD9 := hD8.away hf9 (by simp; omega)
        have hF9 : Fr [] w w9 := hF5.past hS9 (by intro z hz; simp at hz; omega)
        clear s18 s28
        go_wp2_with (first | (with_reducible refine stop_ld2 72 rfl ?_) | (with_reducible refine stop_al2 72 rfl ?_) | (with_reducible refine stop_st2 72 rfl ?_) | (at_builtin; refine stop_append rfl ?_))
        refine ⟨fun w' => Fr [d, m, r, a, p] w5 w', fun _ h => h, hS9, ?_⟩
        go_wp2_with (first | (with_reducible refine stop_ld2 72 rfl ?_) | (with_reducible refine stop_al2 72 rfl ?_) | (with_reducible refine stop_st2 72 rfl ?_) | (at_builtin; refine stop_append rfl ?_))
        refine ⟨trivial, hK _ _ (by kernel_rfl) ⟨fun o ho => ?_, fun o ho => ?_, fun o ho => ?_, fun o ho => ?_, trivial⟩ ?_⟩
        · cases ho
          exact gives_load rfl (fun w' h => hld1.out w' h)
        · cases ho
          exact gives_load rfl (fun w' h => hld2.out w' h)
        · cases ho
          exact gives_load rfl (fun w' h => hld1.out w' h)
        · cases ho
          exact gives_load rfl (fun w' h => hld2.out w' h)
        go_wp2_with (first | (with_reducible refine stop_ld2 72 rfl ?_) | (with_reducible refine stop_al2 72 rfl ?_) | (with_reducible refine stop_st2 72 rfl ?_) | (at_builtin; refine stop_append rfl ?_))
        refine (alike_c d k m r a b p B s2' t2' v.i w9 hD9 hR9 hS2.out).mono ?_
        rintro e w10 ⟨rfl, hf10⟩
        go_wp2_with (first | (with_reducible refine stop_ld2 72 rfl ?_) | (with_reducible refine stop_al2 72 rfl ?_) | (with_reducible refine stop_st2 72 rfl ?_) | (at_builtin; refine stop_append rfl ?_))
        try go_frame
        go_roundw
        case rel => exact ⟨i + 1, s2', t2', by omega, rfl, hF9.then hf10, hD9.fr hf10, hR9.fr hf10, by rw [hB2.out]; exact hS2.out, by omega⟩
        case measure => simp [intOf]; omega
      have hw2' : ¬ v.what ≤ 2 := hw2
      by_cases hw3 : v.what = 3
      · have hw3b : (v.what == 3) = true := by simp [hw3]
        go_wp2_with (first | (with_reducible refine stop_ld2 72 rfl ?_) | (with_reducible refine stop_al2 72 rfl ?_) | (with_reducible refine stop_st2 72 rfl ?_) | (at_builtin; refine stop_append rfl ?_))
        refine (Flush_c d k m s w5 hD5 (by omega)).mono ?_
        obtain ⟨hcode, hS2⟩ := hS'.out.flush
        obtain ⟨q1, q2, q3⟩ := DSt.flush_keeps s
        rw [hcode]
        replace hcode := hid hcode
        generalize s.flush.2 = s2' at *
        replace hS2 := hid hS2
        rintro e w8 ⟨rfl, hD8, hf8⟩
        have s18 := hf8.cell s1 (by simp; omega)
        have hR8 := hR5.away hf8 (by simp; omega)
        have hF8 : Fr [] w w8 := hF5.past hf8 (by intro z hz; simp at hz; omega)
        go_wp2_with (first | (with_reducible refine stop_ld2 72 rfl ?_) | (with_reducible refine stop_al2 72 rfl ?_) | (with_reducible refine stop_st2 72 rfl ?_) | (at_builtin; refine stop_append rfl ?_))
        refine (RFlush_c r a b p t w8 hR8 (by have := hS'.out.steps; omega)).mono ?_
        generalize t.flush.2 = t2' at *
        generalize t.flush.1 = cd at *
        rintro e w9 ⟨rfl, hR9, hf9⟩
        have s19 := hf9.cell s18 (by simp; omega)
        have hD9 := hD8.away hf9 (by simp; omega)
        have hF9 : Fr [] w w9 := hF8.past hf9 (by intro z hz; simp at hz; omega)
        clear s18
        go_wp2_with (first | (with_reducible refine stop_ld2 72 rfl ?_) | (with_reducible refine stop_al2 72 rfl ?_) | (with_reducible refine stop_st2 72 rfl ?_) | (at_builtin; refine stop_append rfl ?_))
        refine (alike_c d k m r a b p B s2' t2' v.i w9 hD9 hR9 hS2.out).mono ?_
        rintro e w10 ⟨rfl, hf10⟩
        go_wp2_with (first | (with_reducible refine stop_ld2 72 rfl ?_) | (with_reducible refine stop_al2 72 rfl ?_) | (with_reducible refine stop_st2 72 rfl ?_) | (at_builtin; refine stop_append rfl ?_))
        try go_frame
        go_roundw
        case rel => exact ⟨i + 1, s2', t2', by omega, rfl, hF9.then hf10, hD9.fr hf10, hR9.fr hf10, by rw [hB2.out]; exact hS2.out, by omega⟩
        case measure => simp [intOf]; omega
      have hw3b : (v.what == 3) = false := by simp [hw3]
      by_cases hw4 : v.what = 4
      · have hw4b : (v.what == 4) = true := by simp [hw4]
        go_wp2_with (first | (with_reducible refine stop_ld2 72 rfl ?_) | (with_reducible refine stop_al2 72 rfl ?_) | (with_reducible refine stop_st2 72 rfl ?_) | (at_builtin; refine stop_append rfl ?_))
        refine (Power_c d k m s v.at_ w5 hD5).mono ?_
        have hB100 : B ≤ 100 := by have := hB.out; omega
        have hS2 := hS'.out.mono.power v.at_ hB100
        have hsteps : (s.power v.at_).steps = s.steps := by
          unfold DSt.power
          split
          · rfl
          · split <;> rfl
        generalize s.power v.at_ = s2' at *
        rintro e w8 ⟨rfl, hD8, hf8⟩
        have s18 := hf8.cell s1 (by simp; omega)
        have s38 := hf8.cell s3 (by simp; omega)
        have hR8 := hR5.away hf8 (by simp; omega)
        have hF8 : Fr [] w w8 := hF5.past hf8 (by intro z hz; simp at hz; omega)
        go_wp2_with (first | (with_reducible refine stop_ld2 72 rfl ?_) | (with_reducible refine stop_al2 72 rfl ?_) | (with_reducible refine stop_st2 72 rfl ?_) | (at_builtin; refine stop_append rfl ?_))
        refine (RPower_c r a b p t v.at_ w8 hR8 okat).mono ?_
        generalize t.powerOn v.at_ = t2' at *
        replace hS2 := hid hS2
        rintro e w9 ⟨rfl, hR9, hf9⟩
        have s19 := hf9.cell s18 (by simp; omega)
        have hD9 := hD8.away hf9 (by simp; omega)
        have hF9 : Fr [] w w9 := hF8.past hf9 (by intro z hz; simp at hz; omega)
        clear s18 s38
        go_wp2_with (first | (with_reducible refine stop_ld2 72 rfl ?_) | (with_reducible refine stop_al2 72 rfl ?_) | (with_reducible refine stop_st2 72 rfl ?_) | (at_builtin; refine stop_append rfl ?_))
        refine (alike_c d k m r a b p B s2' t2' v.i w9 hD9 hR9 hS2.out).mono ?_
        rintro e w10 ⟨rfl, hf10⟩
        go_wp2_with (first | (with_reducible refine stop_ld2 72 rfl ?_) | (with_reducible refine stop_al2 72 rfl ?_) | (with_reducible refine stop_st2 72 rfl ?_) | (at_builtin; refine stop_append rfl ?_))
        try go_frame
        go_roundw
        case rel => exact ⟨i + 1, s2', t2', by omega, rfl, hF9.then hf10, hD9.fr hf10, hR9.fr hf10, by rw [hB2.out]; exact hS2.out, by omega⟩
        case measure => simp [intOf]; omega
      have hw4b : (v.what == 4) = false := by simp [hw4]
      go_wp2_with (first | (with_reducible refine stop_ld2 72 rfl ?_) | (with_reducible refine stop_al2 72 rfl ?_) | (with_reducible refine stop_st2 72 rfl ?_) | (at_builtin; refine stop_append rfl ?_))
      refine (Crash_c d k m s v.C v.nc v.cc v.ch w5 hD5 okc5 ok2 (by intro h0 z hz; have := okcl h0 z hz; omega)).mono ?_
      have hS2 := hS'.out.mono.crash v.ch
      have hsteps : (s.crash v.ch).steps = s.steps := rfl
      generalize s.crash v.ch = s2' at *
      rintro e w8 ⟨rfl, hD8, hf8⟩
      have s18 := hf8.cell s1 (by simp; omega)
      have s48 := hf8.cell s4 (by simp; omega)
      have hR8 := hR5.away hf8 (by simp; omega)
      have hF8 : Fr [] w w8 := hF5.past hf8 (by intro z hz; simp at hz; omega)
      have okc8 := okc5.kept' hf8 (by intro h0 z hz; have := okcl h0 z hz; simp; omega)
      go_wp2_with (first | (with_reducible refine stop_ld2 72 rfl ?_) | (with_reducible refine stop_al2 72 rfl ?_) | (with_reducible refine stop_st2 72 rfl ?_) | (at_builtin; refine stop_append rfl ?_))
      refine (RCrash_c r a b p t v.C v.nc v.cc v.ch w8 hR8 okc8 (by intro h0 z hz; have := okcl h0 z hz; omega)).mono ?_
      generalize t.crash v.ch = t2' at *
      replace hS2 := hid hS2
      rintro e w9 ⟨rfl, hR9, hf9⟩
      have s19 := hf9.cell s18 (by simp; omega)
      have hD9 := hD8.away hf9 (by simp; omega)
      have hF9 : Fr [] w w9 := hF8.past hf9 (by intro z hz; simp at hz; omega)
      clear s18 s48
      go_wp2_with (first | (with_reducible refine stop_ld2 72 rfl ?_) | (with_reducible refine stop_al2 72 rfl ?_) | (with_reducible refine stop_st2 72 rfl ?_) | (at_builtin; refine stop_append rfl ?_))
      refine (alike_c d k m r a b p B s2' t2' v.i w9 hD9 hR9 hS2.out).mono ?_
      rintro e w10 ⟨rfl, hf10⟩
      go_wp2_with (first | (with_reducible refine stop_ld2 72 rfl ?_) | (with_reducible refine stop_al2 72 rfl ?_) | (with_reducible refine stop_st2 72 rfl ?_) | (at_builtin; refine stop_append rfl ?_))
      try go_frame
      go_roundw
      case rel => exact ⟨i + 1, s2', t2', by omega, rfl, hF9.then hf10, hD9.fr hf10, hR9.fr hf10, by rw [hB2.out]; exact hS2.out, by omega⟩
      case measure => simp [intOf]; omega
    · have hie : i = n := by omega
      subst hie
      go_wp2_with fail
      go_ret
      exact ⟨rfl, hfr.all⟩
end Go.Proofs.Ytiialjncdhhceaa.sectorPlays
