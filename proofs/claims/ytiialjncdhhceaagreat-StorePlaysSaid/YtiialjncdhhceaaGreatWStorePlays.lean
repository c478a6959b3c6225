/- The walk of StorePlays: it returns true, whatever the input, and writes nothing that was there. -/
import Derived.Test.YtiialjncdhhceaaGreatStoHolds
import Derived.Test.YtiialjncdhhceaaGreatStoPlay
import Derived.Test.YtiialjncdhhceaaGreatStoTurn
import Derived.Test.YtiialjncdhhceaaGreatOpenPlays
import Derived.Test.YtiialjncdhhceaaGreatRunStoRow
import Derived.Deep.CutBlock
namespace Go.Proofs.YtiialjncdhhceaaGreat.storePlays
open Go.RowKit
set_option linter.unusedVariables false
set_option linter.unusedSimpArgs false

theorem infoPl : (Tryz.prog.info? 50).map (fun i => (i.zero, i.size)) = some (some (.agg #[.slice none 0 0, .int .i64 0, .bool false, .slice none 0 0]), 4) := by kernel_rfl
theorem RP.at {w : World} {A : Option Addr} {n : Nat} {L : List PlayV} (h : RP w A n L) (i : Nat) (hi : i < n) : ∃ b off, A = some ⟨b, off, none⟩ ∧ w.rangeAt b (off + i * 4) (L[i]'(by rw [h.1]; exact hi)).cells ∧ (L[i]'(by rw [h.1]; exact hi)).Ok w := by
  rcases h.2.2 with h0 | ⟨b, off, hA, hc⟩
  · omega
  · exact ⟨b, off, hA, hc i (by rw [h.1]; exact hi), h.2.1 _ (List.getElem_mem _)⟩
theorem infoWr : (Tryz.prog.info? 32).map (·.size) = some 3 := by kernel_rfl
theorem range_whole {w : World} {b : Nat} {cs : Array Value} {t : TypeId} (h : w.heap[b]? = some (.cells cs t (0, 0))) : w.rangeAt b 0 cs.toList := by
  intro j z hj
  rw [Nat.zero_add]
  rw [cell_of_row w b j cs t (0, 0) h]
  simpa using hj
theorem keepAll {w w' : World} {B b9 bx : Nat} {u v : Value} {L : List KV} {cs : List Value} {o : Obj} (hS : Stays w w' (b9 :: bx :: (u.ownBlock.toList ++ v.ownBlock.toList))) (hb : w.heap[b9]? = some o) (hM : MRow w B u v L) (hr : w.rangeAt bx 0 cs) (hbx : bx < w.heap.size) :
    w'.heap[b9]? = some o ∧ MRow w' B u v L ∧ w'.rangeAt bx 0 cs := by
  refine ⟨(hS.block (Array.getElem?_eq_some_iff.1 hb).1 (by simp)).trans hb, ⟨hM.1.stays hS (by intro b h; simp [h]), hM.2.1.stays hS (by intro b h; simp [h]), hM.2.2⟩, ?_⟩
  obtain ⟨S, hf, hF⟩ := hS
  exact range_fr hf hr hbx (fun hm => hF bx hm (by simp))
set_option maxHeartbeats 2000000 in
set_option maxRecDepth 100000 in
theorem early (a0 : Int) (A : Option Addr) (nl cl : Nat) (w : World) (hn : ¬ nl ≤ 20) :
    Calls Tryz.prog 9 #[.int .u8 a0, .slice A nl cl] w fun e w' => e = .returned (.bool true) ∧ Below w.heap.size w w' := by
  have hi : (20 : Int) < nl := by omega
  go_enter Tryz.func9, Tryz.ntmps9
  go_wp2_with fail
  refine (known15_c _).mono ?_
  rintro e w1 ⟨rfl, hb1⟩
  go_wp2_with fail
  go_ret
  exact ⟨rfl, hb1⟩

set_option maxHeartbeats 8000000 in
set_option maxRecDepth 100000 in
theorem main (a0 : Int) (A : Option Addr) (nl cl : Nat) (l : List PlayV) (w : World) (ha : 0 ≤ a0 ∧ a0 ≤ 255) (hR : RP w A nl l) (hn : nl ≤ 20) :
    Calls Tryz.prog 9 #[.int .u8 a0, .slice A nl cl] w fun e w' => e = .returned (.bool true) ∧ Below w.heap.size w w' := by
  have hi : ¬ (20 : Int) < nl := by omega
  obtain ⟨n, hnn⟩ : ∃ n : Nat, a0 % 100 + 32 = (n : Int) := ⟨(a0 % 100 + 32).toNat, by omega⟩
  have hn32 : 32 ≤ n ∧ n ≤ 131 := by omega
  go_enter Tryz.func9, Tryz.ntmps9
  go_wp2_with fail
  refine (known15_c _).mono ?_
  rintro e w1 ⟨rfl, hb1⟩
  have hs1 := hb1.size
  go_wp2_with fail
  refine (New_c (n : Int) n (by omega) w1).mono ?_
  rintro e w2 ⟨d, k, m, rfl, hD2, hlo, hf2⟩
  have hs2 := hf2.size
  go_wp2_with fail
  refine (Make_r w.heap.size d k m n w2 hD2 (by omega) (by omega)).mono ?_
  rintro e w3 ⟨st, rfl, hR3, hf3⟩
  have hb3 : Below w.heap.size w w3 := (hb1.trans (hf2.below hs1 (by simp))).trans (hf3.below (by omega) (by simp; omega))
  go_wp2_with (first | (with_reducible refine stop_ld2 48 rfl ?_) | (with_reducible refine stop_al2 48 rfl ?_) | (with_reducible refine stop_st2 48 rfl ?_))
  refine Stop.go (al_arr 48 infoMo rfl rfl ?_)
  intro w4 hb4 hs4 hf4
  obtain ⟨b9, hb9⟩ : ∃ b, b = w3.heap.size := ⟨_, rfl⟩
  rw [← hb9] at hb4 ⊢
  replace hb9 := hid hb9
  go_wp2_with (first | (with_reducible refine stop_ld2 48 rfl ?_) | (with_reducible refine stop_al2 48 rfl ?_) | (with_reducible refine stop_st2 48 rfl ?_))
  refine Stop.go (st_arr 48 [nilS, nilS] (zero_of_info infoMo).2 (by intro v hv; simp at hv; subst hv; rfl) rfl rfl b9 0 rfl rfl (there_of_block hb4 (by simp)) ?_)
  intro w5 hw5 hr5 hf5
  have hb5 := set_two nilS nilS hb4
  rw [← hw5] at hb5
  have hf35 : Fr [] w3 w5 := hf4.trans hf5 (by intro z hz; simp at hz; have := hb9.out; right; omega)
  have hR5 : Run w5 w.heap.size st d k m n 5 [] true [b9] := (hR3.add (F' := [b9]) (by intro x hx; simp at hx; right; have := hb9.out; omega)).fr hf35
  have hbw5 : Below w.heap.size w w5 := hb3.trans (hf35.below (by have := hb3.size; omega) (by simp))
  clear hb4 hs4 hf4 hw5 hr5 hf5 hR3
  go_wp2_with fail
  go_loopw [7, 10] (fun sv iv wr => ∃ (i st : Nat) (L : List KV) (u v : Value), i ≤ nl ∧ iv = .int .i64 i ∧ sv = .pointer (some ⟨st, 0, none⟩) ∧ wr.heap[b9]? = some (.cells #[u, v] 48 (0, 0)) ∧ MRow wr w.heap.size u v L ∧
    Run wr w.heap.size st d k m n (5 + 1100 * i) L true (b9 :: (u.ownBlock.toList ++ v.ownBlock.toList)) ∧ Below w.heap.size w wr) (fun _ iv _ => nl - (intOf iv).toNat)
  case atStart => exact ⟨0, st, [], nilS, nilS, by omega, rfl, rfl, hb5, ⟨OSs.nil _ _, OSs.nil _ _, fun k hk => by cases hk⟩, hR5, hbw5⟩
  case round =>
    obtain ⟨i, st, L, u, v, hi, rfl, rfl, hbx, hMR, hRun, hbw⟩ := hrel
    by_cases hin : i < nl
    · obtain ⟨b, off, rfl, hr, hok⟩ := RP.at hR i hin
      generalize l[i]'(by have := hR.1; omega) = p at *
      have hb0 : b < w.heap.size := World.block_lt_of_cell? w ⟨b, off + i * 4 + 0, none⟩ (hr 0 _ rfl)
      have hrr := range_fr (fr_of_below hbw) hr hb0 (by simp)
      have hok1 := hok.nc1
      have hok2 := hok.nc2
      have hbT := hok.b1
      have hsT := hok.sz
      have hbC := hok.b2
      have hpw := hok.pw
      obtain ⟨A1, n1, c1, tx, pw, cr, C1, nc1, cc1, ch⟩ := p
      simp only at hok1 hok2 hbT hsT hbC hpw
      have hA1 := hid (fun h => hbT.lt (A := A1) (n := n1) h)
      have hC1 := hid (fun h => hbC.lt (A := C1) (n := nc1) h)
      replace hsT := hid hsT
      clear hok
      go_wp2_with (first | (with_reducible refine stop_ld2 50 rfl ?_) | (with_reducible refine stop_al2 50 rfl ?_) | (with_reducible refine stop_st2 50 rfl ?_))
      refine Stop.go (ld_arr 50 [.slice A1 n1 c1, .int .i64 pw, .bool cr, .slice C1 nc1 cc1] _ Tryz.underlying50 rfl (zero_of_info infoPl).2 rfl rfl b (off + i * 4) rfl hrr ?_)
      go_wp2_with (first | (with_reducible refine stop_ld2 50 rfl ?_) | (with_reducible refine stop_al2 50 rfl ?_) | (with_reducible refine stop_st2 50 rfl ?_))
      refine Stop.go (al_arr 50 infoPl rfl rfl ?_)
      intro w4 hb4 hs4 hf4
      obtain ⟨bx, hbx0⟩ : ∃ b, b = wr.heap.size := ⟨_, rfl⟩
      rw [← hbx0] at hb4 hs4 ⊢
      replace hbx0 := hid hbx0
      go_wp2_with (first | (with_reducible refine stop_ld2 50 rfl ?_) | (with_reducible refine stop_al2 50 rfl ?_) | (with_reducible refine stop_st2 50 rfl ?_))
      refine Stop.go (st_arr 50 [.slice A1 n1 c1, .int .i64 pw, .bool cr, .slice C1 nc1 cc1] (zero_of_info infoPl).2 (by intro v hv; simp at hv; rcases hv with rfl | rfl | rfl | rfl <;> rfl) rfl rfl bx 0 rfl rfl (there_of_block hb4 (by simp)) ?_)
      intro w6 hw6 hr6 hf6
      clear hw6 hb4 hs4 hrr hr
      have hzr : wr.heap.size ≤ bx := by have := hbx0.out; omega
      have hf46 : Fr [] wr w6 := hf4.trans hf6 (by intro z hz; simp at hz; right; omega)
      have hRun6 := (hRun.add (F' := b9 :: bx :: (u.ownBlock.toList ++ v.ownBlock.toList)) (by
        intro x hx
        simp only [List.mem_cons] at hx ⊢
        rcases hx with h | h | h
        · exact .inl (.inl h)
        · exact .inr (by omega)
        · exact .inl (.inr h))).fr hf46
      have hbx6 := (hf46.block b9 (Array.getElem?_eq_some_iff.1 hbx).1 (by simp)).trans hbx
      have hMR6 : MRow w6 w.heap.size u v L := ⟨hMR.1.kept hf46 (by simp), hMR.2.1.kept hf46 (by simp), hMR.2.2⟩
      have hbw6 : Below w.heap.size w w6 := hbw.trans (hf46.below hbw.size (by simp))
      clear hf4 hf6 hbx hMR hRun hbw
      have x0 : w6.cell? ⟨bx, 0, none⟩ = some (.slice A1 n1 c1) := hr6 0 _ rfl
      have x1 : w6.cell? ⟨bx, 1, none⟩ = some (.int .i64 pw) := hr6 1 _ rfl
      have x2 : w6.cell? ⟨bx, 2, none⟩ = some (.bool cr) := hr6 2 _ rfl
      have x3 : w6.cell? ⟨bx, 3, none⟩ = some (.slice C1 nc1 cc1) := hr6 3 _ rfl
      go_wp2_with fail
      refine (few_c A1 n1 c1 tx w6 (hbT.fr (fr_of_below hbw6)) hsT.out).mono ?_
      rintro e w7 ⟨rfl, hf7⟩
      have hRun7 := hRun6.fr hf7
      have hbx7 := (hf7.block b9 (Array.getElem?_eq_some_iff.1 hbx6).1 (by simp)).trans hbx6
      have hMR7 : MRow w7 w.heap.size u v L := ⟨hMR6.1.kept hf7 (by simp), hMR6.2.1.kept hf7 (by simp), hMR6.2.2⟩
      have hbw7 : Below w.heap.size w w7 := hbw6.trans (hf7.below hbw6.size (by simp))
      have hr7 := range_fr hf7 hr6 (World.block_lt_of_cell? w6 ⟨bx, 0, none⟩ x0) (by simp)
      clear x0 x1 x2 x3 hRun6 hbx6 hMR6 hbw6 hf46 hf7 hr6
      have x0 : w7.cell? ⟨bx, 0, none⟩ = some (.slice A1 n1 c1) := hr7 0 _ rfl
      have x1 : w7.cell? ⟨bx, 1, none⟩ = some (.int .i64 pw) := hr7 1 _ rfl
      have x3 : w7.cell? ⟨bx, 3, none⟩ = some (.slice C1 nc1 cc1) := hr7 3 _ rfl
      cases hfw : fewB tx with
      | false =>
        go_wp2_with fail
        go_ret
        exact ⟨rfl, hbw7⟩
      | true =>
        by_cases hch : nc1 ≤ 150
        · have hchI : ¬ (150 : Int) < nc1 := by omega
          go_upto_if 59 with fail
          go_cut [7] from 37 to 183 (fun sv wx => sv = .pointer (some ⟨st, 0, none⟩) ∧ wx.heap[b9]? = some (.cells #[u, v] 48 (0, 0)) ∧ MRow wx w.heap.size u v L ∧ wx.rangeAt bx 0 [.slice A1 n1 c1, .int .i64 pw, .bool cr, .slice C1 nc1 cc1] ∧
            Run wx w.heap.size st d k m n (5 + 1100 * i) L (decide (pw ≤ 0)) (b9 :: bx :: (u.ownBlock.toList ++ v.ownBlock.toList)) ∧ Below w.heap.size w wx)
          case first =>
            have hRunx : Run w7 w.heap.size st d k m n (5 + 1100 * i) L true (b9 :: bx :: (u.ownBlock.toList ++ v.ownBlock.toList)) := hRun7
            by_cases hp : 0 < pw
            · have hpd := hid (show decide (pw ≤ 0) = false by simp; omega)
              go_wp2_with fail
              refine (Power_on_r w7 hRunx _ ?_).mono ?_
              · have := Int.tmod_nonneg 60 (show 0 ≤ pw by omega)
                omega
              rintro e w8 ⟨rfl, hRun8, hf8⟩
              go_wp2_with fail
              go_meet
              have hdk := hRunx.dkm
              obtain ⟨hbx8, hMR8, hr8⟩ := keepAll (.of hf8 (fun x hx => by simp only [List.mem_cons, List.not_mem_nil, or_false] at hx; rcases hx with rfl | rfl | rfl; exact hdk.1; exact hdk.2.1; exact hdk.2.2.1)) hbx7 hMR7 hr7 (World.block_lt_of_cell? w7 ⟨bx, 0, none⟩ x0)
              exact ⟨rfl, hbx8, hMR8, hr8, by rw [hpd.out]; exact hRun8, hbw7.trans (hf8.below hbw7.size (by have := hRunx.lo; simp; omega))⟩
            · have hpd := hid (show decide (pw ≤ 0) = true by simp; omega)
              go_wp2_with fail
              go_meet
              exact ⟨rfl, hbx7, hMR7, hr7, by rw [hpd.out]; exact hRunx, hbw7⟩
          case rest =>
            obtain ⟨rfl, hbx8, hMR8, hr8, hRun8, hbw8⟩ := hcut
            clear hbx7 hMR7 hr7 hRun7 hbw7 x0 x1 x3
            obtain ⟨zp, hzp⟩ : ∃ z, z = decide (pw ≤ 0) := ⟨_, rfl⟩
            rw [← hzp] at hRun8
            replace hzp := hid hzp
            have hbxl : bx < wc.heap.size := World.block_lt_of_cell? wc ⟨bx, 0 + 0, none⟩ (hr8 0 _ rfl)
            obtain ⟨Au, nu, cu, hue⟩ := OSs.slice hMR8.1
            obtain ⟨Av, nv, cv, hve⟩ := OSs.slice hMR8.2.1
            subst hue hve
            go_wp2_with (first | (with_reducible refine stop_ld2 48 rfl ?_) | (with_reducible refine stop_al2 48 rfl ?_) | (with_reducible refine stop_st2 48 rfl ?_))
            refine Stop.go (ld_arr 48 [.slice Au nu cu, .slice Av nv cv] _ Tryz.underlying48 rfl (zero_of_info infoMo).2 rfl rfl b9 0 rfl (range_of_two hbx8) ?_)
            go_wp2_with (first | (with_reducible refine stop_ld2 48 rfl ?_) | (with_reducible refine stop_al2 48 rfl ?_) | (with_reducible refine stop_st2 48 rfl ?_))
            refine Stop.go (al_arr 48 infoMo rfl rfl ?_)
            intro w9 hb9' hs9 hf9
            obtain ⟨bn, hbn⟩ : ∃ b, b = wc.heap.size := ⟨_, rfl⟩
            rw [← hbn] at hb9' hs9 ⊢
            replace hbn := hid hbn
            go_wp2_with (first | (with_reducible refine stop_ld2 48 rfl ?_) | (with_reducible refine stop_al2 48 rfl ?_) | (with_reducible refine stop_st2 48 rfl ?_))
            refine Stop.go (st_arr 48 [.slice Au nu cu, .slice Av nv cv] (zero_of_info infoMo).2 (by intro z hz; simp at hz; rcases hz with rfl | rfl <;> rfl) rfl rfl bn 0 rfl rfl (there_of_block hb9' (by simp)) ?_)
            intro wd hwd hrd hfd
            have hbnd := set_two (.slice Au nu cu) (.slice Av nv cv) hb9'
            rw [← hwd] at hbnd
            have hf8d : Fr [] wc wd := hf9.trans hfd (by intro z hz; simp at hz; have := hbn.out; right; omega)
            clear hb9' hs9 hwd hrd hfd hf9
            have hb0bn : wc.heap.size ≤ bn := by have := hbn.out; omega
            have hbwd : Below w.heap.size w wd := hbw8.trans (hf8d.below hbw8.size (by simp))
            have hMRd : MRow wd w.heap.size (.slice Au nu cu) (.slice Av nv cv) L := ⟨hMR8.1.kept hf8d (by simp), hMR8.2.1.kept hf8d (by simp), hMR8.2.2⟩
            have hrxd := range_fr hf8d hr8 hbxl (by simp)
            have hbnl := (Array.getElem?_eq_some_iff.1 hbnd).1
            have htl : tx.length = n1 := hbT.1
            have htx25 : n1 ≤ 25 := by
              unfold fewB at hfw
              simp only [Bool.and_eq_true, decide_eq_true_eq] at hfw
              omega
            have hL40 : L.length ≤ 40 := hRun8.good'.2.1
            replace hfw := hid hfw
            obtain ⟨wo, hwo⟩ : ∃ wo, wo = wr := ⟨_, rfl⟩
            subst hwo
            go_wp2_with fail
            go_loopw [13] (fun kv wi => ∃ (q : Nat) (un vn : Value), q ≤ n1 ∧ kv = .int .i64 q ∧ wi.heap[bn]? = some (.cells #[un, vn] 48 (0, 0)) ∧ MRow wi w.heap.size un vn (applyTx L (tx.take q)) ∧ (∀ z, (un.ownBlock = some z ∨ vn.ownBlock = some z) → ((Value.slice Au nu cu).ownBlock = some z ∨ (Value.slice Av nv cv).ownBlock = some z) ∨ wc.heap.size ≤ z) ∧ Fr [bn] wd wi) (fun kv _ => n1 - (intOf kv).toNat)
            case atStart => exact ⟨0, _, _, by omega, rfl, hbnd, hMRd, fun z hz => .inl hz, Fr.refl _ _⟩
            case round =>
              obtain ⟨q, un, vn, hq, rfl, hbni, hMRi, howi, hfri⟩ := hrel
              have hrxi := range_fr hfri hrxd (by have := hf8d.size; omega) (by simp; omega)
              have x0i : wr.cell? ⟨bx, 0, none⟩ = some (.slice A1 n1 c1) := hrxi 0 _ rfl
              have hzi := hfri.size
              by_cases hqn : q < n1
              · as_aux_lemma =>
                have hbTi : RW wr A1 n1 tx := (hbT.fr (fr_of_below hbwd)).kept' hfri (fun h0 a ha => by have := hA1.out h0 a ha; have := hbwd.size; have := hbw8.size; simp; omega)
                obtain ⟨bt, ot, rfl, hrt⟩ := hbTi.at q hqn
                have hbt : bt < w.heap.size := hA1.out (by omega) _ rfl
                have htk : applyTx L (tx.take (q + 1)) = applyW (applyTx L (tx.take q)) (tx[q]'(by omega)) := by
                  unfold applyTx
                  rw [List.map_take, doAll_take L (tx.map Wr.ln) q (by simp; omega), List.getElem_map, ← List.map_take]
                  rfl
                have hlq : (applyTx L (tx.take q)).length ≤ 100 := by
                  have h1 := doAll_length L ((tx.take q).map Wr.ln)
                  rw [List.length_map, List.length_take] at h1
                  unfold applyTx
                  omega
                generalize tx[q]'(by omega) = x at *
                replace htk := hid htk
                generalize applyTx L (tx.take q) = Lq at *
                obtain ⟨Aun, cun, Avn, cvn, rfl, rfl, hMRf⟩ := hMRi.form
                go_wp2_with fail
                clear x0i
                refine wp_region_textT (fun w' => w'.heap[bn]? = some (.cells #[.slice Aun Lq.length cun, .slice Avn Lq.length cvn] 48 (0, 0)) ∧ w'.rangeAt bx 0 [.slice (some ⟨bt, ot, none⟩) n1 c1, .int .i64 pw, .bool cr, .slice C1 nc1 cc1] ∧ w'.rangeAt bt (ot + q * 3) x.cells) [0, 2, 5] [] [] [(7, [])] 7 1 rfl (by kernel_rfl) (by kernel_rfl) (by kernel_rfl) (by kernel_rfl) ⟨hbni, hrxi, hrt⟩ ?_
                intro K23 hK23
                simp only [cutAt, List.take_succ_cons, List.take_zero, List.drop_succ_cons, List.drop_zero, List.take_nil, List.drop_nil, wpSegs, List.map_cons, List.map_nil, List.nil_append, List.cons_append]
                have hfg : Fr [] wr wr.drew := (Fr.refl [] wr).drew
                have hbxl' : bx < wr.heap.size := by have := hf8d.size; omega
                have hbtl' : bt < wr.heap.size := by have := hbw8.size; have := hf8d.size; omega
                have hbnl' : bn < wr.heap.size := (Array.getElem?_eq_some_iff.1 hbni).1
                have hbg := (hfg.block bn hbnl' (by simp)).trans hbni
                have hrxg := range_fr hfg hrxi hbxl' (by simp)
                have hrtg := range_fr hfg hrt hbtl' (by simp)
                have hMRg := hMRf.fr hfg
                have hzg := hfg.size
                generalize wr.drew = wg at *
                have x0g : wg.cell? ⟨bx, 0, none⟩ = some (.slice (some ⟨bt, ot, none⟩) n1 c1) := hrxg 0 _ rfl
                go_wp2_with (first | (with_reducible refine stop_ld2 48 rfl ?_) | (with_reducible refine stop_ld2 32 rfl ?_))
                refine Stop.go (ld_arr 48 [.slice Aun Lq.length cun, .slice Avn Lq.length cvn] _ Tryz.underlying48 rfl (zero_of_info infoMo).2 rfl rfl bn 0 rfl (range_of_two hbg) ?_)
                go_wp2_with (first | (with_reducible refine stop_ld2 48 rfl ?_) | (with_reducible refine stop_ld2 32 rfl ?_))
                refine Stop.go (ld_arr 32 x.cells _ Tryz.underlying32 rfl infoWr rfl rfl bt (ot + q * 3) rfl hrtg ?_)
                go_wp2_with fail
                refine (with_c Aun Avn Lq.length cun cvn Lq x wg hMRg (by omega) rfl).mono ?_
                rintro e w5 ⟨u5, v5, rfl, hM5, hf5⟩
                have hz5 := hf5.size
                go_wp2_with fail
                refine ⟨_, fun _ h => h, ⟨(hf5.block bn (by omega) (by simp)).trans hbg, range_fr hf5 hrxg (by omega) (by simp), range_fr hf5 hrtg (by omega) (by simp)⟩, ?_⟩
                go_wp2_with fail
                refine ⟨trivial, hK23 _ _ (by kernel_rfl) ⟨fun o ho => ?_, fun o ho => ?_, fun o ho => ?_, trivial⟩ ?_⟩
                · cases ho
                  exact gives_load rfl (fun w' h => run_loadAt_mid w' bn 0 48 [.slice Aun Lq.length cun, .slice Avn Lq.length cvn] _ (range_of_two h.1) Tryz.underlying48 rfl (zero_of_info infoMo).2)
                · cases ho
                  exact gives_load rfl (fun w' h => load_cell 33 Tryz.underlying33 rfl (h.2.1 0 _ rfl))
                · cases ho
                  exact gives_load rfl (fun w' h => run_loadAt_mid w' bt (ot + q * 3) 32 x.cells _ h.2.2 Tryz.underlying32 rfl infoWr)
                simp only [List.drop_succ_cons, List.drop_zero]
                obtain ⟨⟨A5, m5, c5, rfl⟩, ⟨C5, m6, c6, rfl⟩⟩ : (∃ A n c, u5 = .slice A n c) ∧ (∃ A n c, v5 = .slice A n c) := ⟨OSs.slice hM5.1, OSs.slice hM5.2.1⟩
                have hb5 := (hf5.block bn (by omega) (by simp)).trans hbg
                go_wp2_with (first | (with_reducible refine stop_st2 48 rfl ?_))
                refine Stop.go (st_arr 48 [.slice A5 m5 c5, .slice C5 m6 c6] (zero_of_info infoMo).2 (by intro z hz; simp at hz; rcases hz with rfl | rfl <;> rfl) rfl rfl bn 0 rfl rfl (there_of_block hb5 (by simp)) ?_)
                intro w6 hw6 hr6 hf6
                have hb6 := set_two (.slice A5 m5 c5) (.slice C5 m6 c6) hb5
                rw [← hw6] at hb6
                clear hw6 hr6
                have hl1 := hM5.1.lt
                have hl2 := hM5.2.1.lt
                have hf56 : Fr [bn] wd w6 := ((hfri.trans hfg (by simp)).trans hf5 (by simp)).trans hf6 (by simp)
                have hM6 : MRow w6 w.heap.size (.slice A5 m5 c5) (.slice C5 m6 c6) (applyTx L (tx.take (q + 1))) := by
                  rw [htk.out]
                  have hgz : w.heap.size ≤ wg.heap.size := by have := hbw8.size; have := hf8d.size; omega
                  exact ⟨(hM5.1.kept hf6 (fun z hz hm => by have := (hl1 z hz).1; simp at hm; omega)).base hgz, (hM5.2.1.kept hf6 (fun z hz hm => by have := (hl2 z hz).1; simp at hm; omega)).base hgz, hM5.2.2⟩
                have how6 : ∀ z, ((Value.slice A5 m5 c5).ownBlock = some z ∨ (Value.slice C5 m6 c6).ownBlock = some z) → ((Value.slice Au nu cu).ownBlock = some z ∨ (Value.slice Av nv cv).ownBlock = some z) ∨ wc.heap.size ≤ z := by
                  intro z hz
                  have := hf8d.size
                  rcases hz with hz | hz
                  · have := (hl1 z hz).1
                    exact .inr (by omega)
                  · have := (hl2 z hz).1
                    exact .inr (by omega)
                go_wp2_with fail
                try go_frame
                go_roundw
                case rel => exact ⟨q + 1, _, _, by omega, rfl, hb6, hM6, how6, hf56⟩
                case measure => simp [intOf]; omega
              · have hqe : n1 = q := by omega
                subst hqe
                rw [List.take_of_length_le (by omega)] at hMRi
                have hFrc : Fr [] wc wr := hf8d.trans hfri (by intro z hz; simp at hz; right; omega)
                have hb9l : b9 < wc.heap.size := (Array.getElem?_eq_some_iff.1 hbx8).1
                have hb9n : b9 ≠ bn := by omega
                have hbxn : bx ≠ bn := by omega
                have hlu := hMR8.1.lt
                have hlv := hMR8.2.1.lt
                have hb9x : b9 ≠ bx := by
                  intro he
                  subst he
                  have h1 := hr8 1 _ rfl
                  rw [Nat.zero_add, cell_of_row _ _ 1 _ _ _ hbx8] at h1
                  simp at h1
                obtain ⟨F, hFd⟩ : ∃ F, F = b9 :: bx :: bn :: ((Value.slice Au nu cu).ownBlock.toList ++ (Value.slice Av nv cv).ownBlock.toList ++ (un.ownBlock.toList ++ vn.ownBlock.toList)) := ⟨_, rfl⟩
                have hin' : ∀ x, x ∈ F ↔ x = b9 ∨ x = bx ∨ x = bn ∨ ((Value.slice Au nu cu).ownBlock = some x ∨ (Value.slice Av nv cv).ownBlock = some x) ∨ (un.ownBlock = some x ∨ vn.ownBlock = some x) := by
                  intro x
                  rw [hFd]
                  simp only [List.mem_cons, List.mem_append, Option.mem_toList, Option.mem_def]
                have hRuns : Run wr w.heap.size st d k m n (5 + 1100 * i) L zp F := (hRun8.add (F' := F) (by
                  have key : ∀ x, ((Value.slice Au nu cu).ownBlock = some x ∨ (Value.slice Av nv cv).ownBlock = some x) → x ∈ b9 :: bx :: ((Value.slice Au nu cu).ownBlock.toList ++ (Value.slice Av nv cv).ownBlock.toList) := fun x h => by
                    simp only [List.mem_cons, List.mem_append, Option.mem_toList, Option.mem_def]
                    exact .inr (.inr h)
                  intro x hx
                  rcases (hin' x).1 hx with h | h | h | h | h
                  · exact .inl (by rw [h]; simp)
                  · exact .inl (by rw [h]; simp)
                  · exact .inr (by omega)
                  · exact .inl (key x h)
                  · rcases howi x h with h | h
                    · exact .inl (key x h)
                    · exact .inr h)).fr hFrc
                have hB9 : Box w.heap.size b9 F (.slice Au nu cu) (.slice Av nv cv) L wr := ⟨(hFrc.block b9 hb9l (by simp)).trans hbx8, ⟨hMR8.1.kept hFrc (by simp), hMR8.2.1.kept hFrc (by simp), hMR8.2.2⟩, (hin' _).2 (.inl rfl), fun z hz => (hin' z).2 (.inr (.inr (.inr (.inl hz))))⟩
                have hBn : Box w.heap.size bn F un vn (applyTx L tx) wr := ⟨hbni, hMRi, (hin' _).2 (.inr (.inr (.inl rfl))), fun z hz => (hin' z).2 (.inr (.inr (.inr (.inr hz))))⟩
                have hFl : ∀ x ∈ F, x < wr.heap.size := by
                  have h1 := hB9.r.1.lt
                  have h2 := hB9.r.2.1.lt
                  have h3 := hBn.r.1.lt
                  have h4 := hBn.r.2.1.lt
                  intro x hx
                  rcases (hin' x).1 hx with h | h | h | (h | h) | (h | h)
                  · have := hB9.lt; omega
                  · have := hf8d.size; omega
                  · have := hBn.lt; omega
                  · exact (h1 x h).2
                  · exact (h2 x h).2
                  · exact (h3 x h).2
                  · exact (h4 x h).2
                have hX : XRow bx F [.slice A1 n1 c1, .int .i64 pw, .bool cr, .slice C1 nc1 cc1] wr := ⟨hrxi, by have := hf8d.size; omega, (hin' _).2 (.inr (.inl rfl)), hFl⟩
                have hbwr : Below w.heap.size w wr := hbw8.trans (hFrc.below hbw8.size (by simp))
                have hsn : sizeL (applyTx L tx) ≤ 1000000000000000 := by
                  have h1 := apply_size tx L
                  have h2 := small_size hRun8.good'.1
                  have h3 : sumW tx ≤ 20000 := by
                    have := hfw.out
                    unfold fewB at this
                    simp only [Bool.and_eq_true, decide_eq_true_eq] at this
                    exact this.2
                  omega
                have hsL : sizeL L ≤ 1000000000000000 := by
                  have h2 := small_size hRun8.good'.1
                  omega
                have hln : (applyTx L tx).length ≤ 100 := by
                  have h1 := doAll_length L (tx.map Wr.ln)
                  rw [List.length_map] at h1
                  unfold applyTx
                  omega
                have hbnB : w.heap.size ≤ bn := by have := hbw8.size; omega
                have hb9B : w.heap.size ≤ b9 := by have := hb9.out; have := hb3.size; omega
                have hdkB := hRuns.lo
                clear hin' hFd hRun8 hbx8 hMR8 hr8 hf8d hbnd hMRd hrxd hfri hbni hMRi howi hrxi hlu hlv hbwd hbw8 hFrc
                obtain ⟨Ln, hLn⟩ : ∃ Ln, Ln = applyTx L tx := ⟨_, rfl⟩
                rw [← hLn] at hBn hsn hln
                obtain ⟨An, cn, Cn, cn2, rfl, rfl, hMRn⟩ := hBn.r.form
                have c0n : wr.cell? ⟨bn, 0, none⟩ = some (.slice An Ln.length cn) := cell_of_row _ _ 0 _ _ _ hBn.c
                go_upto_region 24 with fail
                replace hLn := hid hLn
                clear x0i
                go_cut [14] from 37 to 183 (fun fv wx => fv = .bool (fitsB n Ln) ∧ Fr [] wr wx)
                case first => as_aux_lemma =>
                  by_cases h40 : Ln.length ≤ 40
                  · have h40I : (Ln.length : Int) ≤ 40 := by omega
                    go_wp2_with (first | (with_reducible refine stop_ld2 48 rfl ?_) | (with_reducible refine stop_st2 48 rfl ?_))
                    refine Stop.go (ld_arr_w 48 [.slice An Ln.length cn, .slice Cn Ln.length cn2] _ Tryz.underlying48 rfl (zero_of_info infoMo).2 rfl rfl bn 0 rfl (range_of_two hBn.c) ?_)
                    go_wp2_with fail
                    refine (size_m An Cn Ln.length cn cn2 Ln wr hMRn rfl (by omega) hsn).mono ?_
                    rintro e w2 ⟨rfl, hf2⟩
                    by_cases hsf : sizeL Ln ≤ 16 * n
                    · have hsfI : (sizeL Ln : Int) ≤ 16 * (n : Int) := by omega
                      have hfb := hid (fitsB_iff.2 ⟨h40, hsf⟩)
                      go_wp2_with fail
                      go_meet
                      exact ⟨by rw [hfb.out] <;> (simp only [Value.bool.injEq, decide_eq_true_eq]; omega), hf2⟩
                    · have hsfI : ¬ (sizeL Ln : Int) ≤ 16 * (n : Int) := by omega
                      have hfb : Hid (fitsB n Ln = false) := hid (by unfold fitsB; simp [hsf])
                      go_wp2_with fail
                      go_meet
                      exact ⟨by rw [hfb.out] <;> (simp only [Value.bool.injEq, decide_eq_false_iff_not]; omega), hf2⟩
                  · have h40I : ¬ (Ln.length : Int) ≤ 40 := by omega
                    have hfb : Hid (fitsB n Ln = false) := hid (by unfold fitsB; simp [h40])
                    go_wp2_with fail
                    go_meet
                    exact ⟨by rw [hfb.out], Fr.refl _ _⟩
                case rest => as_aux_lemma =>
                  obtain ⟨rfl, hf24⟩ := hcut
                  clear c0n hMRn
                  replace hX := hX.fr hf24
                  replace hB9 := hB9.fr hf24
                  replace hBn := hBn.fr hf24
                  replace hRuns := hRuns.fr hf24
                  replace hbwr : Below w.heap.size w wc := hbwr.trans (hf24.below hbwr.size (by simp))
                  replace hFl : ∀ x ∈ F, x < wc.heap.size := fun x hx => by have := hFl x hx; have := hf24.size; omega
                  clear hf24
                  have hRW := hbT.fr (fr_of_below hbwr)
                  have hBsz := hbwr.size
                  obtain ⟨u, hu⟩ : ∃ u, u = Value.slice Au nu cu := ⟨_, rfl⟩
                  obtain ⟨v, hv⟩ : ∃ v, v = Value.slice Av nv cv := ⟨_, rfl⟩
                  obtain ⟨un, hun⟩ : ∃ u, u = Value.slice An Ln.length cn := ⟨_, rfl⟩
                  obtain ⟨vn, hvn⟩ : ∃ u, u = Value.slice Cn Ln.length cn2 := ⟨_, rfl⟩
                  rw [← hu, ← hv] at hB9
                  rw [← hun, ← hvn] at hBn
                  clear hu hv hun hvn
                  have x0 : wc.cell? ⟨bx, 0, none⟩ = some (.slice A1 n1 c1) := hX.x 0 _ rfl
                  go_wp2_with fail
                  refine (Do_any A1 n1 c1 tx wc hRuns hRW hFl (by omega) hBsz).mono ?_
                  rintro e w8 ⟨f, rfl, hb8, hs8, hcase⟩
                  rw [← hLn.out] at hcase
                  replace hX := hX.stays hs8
                  replace hB9 := hB9.stays hs8
                  replace hBn := hBn.stays hs8
                  replace hbwr := hbwr.trans hb8
                  clear hRuns hFl hRW hBsz x0 hs8 hb8
                  have hRW := hbT.fr (fr_of_below hbwr)
                  have x0 : w8.cell? ⟨bx, 0, none⟩ = some (.slice A1 n1 c1) := hX.x 0 _ rfl
                  have x1 : w8.cell? ⟨bx, 1, none⟩ = some (.int .i64 pw) := hX.x 1 _ rfl
                  generalize fitsB n Ln = fb at *
                  go_upto_block 4 with fail
                  go_cut [7] from 37 to 183 (fun sv wx => sv = .pointer (some ⟨st, 0, none⟩) ∧ SwA w b9 bn bx st d k m n (5 + 1100 * i + 1004) F u v un vn L Ln [.slice A1 n1 c1, .int .i64 pw, .bool cr, .slice C1 nc1 cc1] zp f wx)
                  case first => as_aux_lemma =>
                    rcases hcase with ⟨hrt, rfl, hR⟩ | ⟨hrt, rfl, rfl, hR⟩ | ⟨hrt, rfl, ⟨rfl, hR⟩ | ⟨hz, rfl, hLo⟩⟩
                    · go_wp2_with fail
                      refine (is_c A1 n1 c1 tx w8 hRW).mono ?_
                      rintro e w9 ⟨rfl, hf9⟩
                      rw [hrt]
                      go_wp2_with (first | (with_reducible refine stop_ld2 48 rfl ?_) | (with_reducible refine stop_st2 48 rfl ?_))
                      refine Stop.go (ld_arr 48 [u, v] _ Tryz.underlying48 rfl (zero_of_info infoMo).2 rfl rfl b9 0 rfl (range_of_two (hB9.fr hf9).c) ?_)
                      go_wp2_with (first | (with_reducible refine stop_ld2 48 rfl ?_) | (with_reducible refine stop_st2 48 rfl ?_))
                      refine Stop.go (st_arr 48 [u, v] (zero_of_info infoMo).2 hB9.one rfl rfl bn 0 rfl rfl (there_of_block (hBn.fr hf9).c (by simp)) ?_)
                      intro w10 hw10 hr10 hf10
                      obtain ⟨_, hB9', hBn'⟩ := (hB9.fr hf9).put (hBn.fr hf9) hb9n hw10
                      clear hw10 hr10
                      go_wp2_with fail
                      go_meet
                      exact ⟨rfl, hbwr.trans (((hf9.mono (S' := [bn]) (by simp)).trans hf10 (by simp)).below hbwr.size (by simp; exact hbnB)), (hX.fr hf9).put hf10 hbxn, hB9', .inl ⟨.inl rfl, ⟨_, _, _, hBn'⟩, (hR.fr hf9).put hBn.i (hBn.fr hf9).c hBn.sl.1 hBn.sl.2 hf10⟩⟩
                    · go_wp2_with fail
                      refine (is_c A1 n1 c1 tx w8 hRW).mono ?_
                      rintro e w9 ⟨rfl, hf9⟩
                      rw [hrt]
                      go_wp2_with (first | (with_reducible refine stop_ld2 48 rfl ?_) | (with_reducible refine stop_st2 48 rfl ?_))
                      refine Stop.go (ld_arr 48 [u, v] _ Tryz.underlying48 rfl (zero_of_info infoMo).2 rfl rfl b9 0 rfl (range_of_two (hB9.fr hf9).c) ?_)
                      go_wp2_with (first | (with_reducible refine stop_ld2 48 rfl ?_) | (with_reducible refine stop_st2 48 rfl ?_))
                      refine Stop.go (st_arr 48 [u, v] (zero_of_info infoMo).2 hB9.one rfl rfl bn 0 rfl rfl (there_of_block (hBn.fr hf9).c (by simp)) ?_)
                      intro w10 hw10 hr10 hf10
                      obtain ⟨_, hB9', hBn'⟩ := (hB9.fr hf9).put (hBn.fr hf9) hb9n hw10
                      clear hw10 hr10
                      go_wp2_with fail
                      go_meet
                      exact ⟨rfl, hbwr.trans (((hf9.mono (S' := [bn]) (by simp)).trans hf10 (by simp)).below hbwr.size (by simp; exact hbnB)), (hX.fr hf9).put hf10 hbxn, hB9', .inl ⟨.inr rfl, ⟨_, _, _, hBn'⟩, (hR.fr hf9).put hBn.i (hBn.fr hf9).c hBn.sl.1 hBn.sl.2 hf10⟩⟩
                    · go_wp2_with fail
                      refine (is_c A1 n1 c1 tx w8 hRW).mono ?_
                      rintro e w9 ⟨rfl, hf9⟩
                      rw [hrt]
                      go_wp2_with fail
                      go_meet
                      exact ⟨rfl, hbwr.trans (hf9.below hbwr.size (by simp)), hX.fr hf9, hB9.fr hf9, .inr ⟨hBn.fr hf9, .inl ⟨rfl, hR.fr hf9⟩⟩⟩
                    · have hpw0 : ¬ pw ≤ 0 := by
                        have h1 := hzp.out
                        rw [hz] at h1
                        exact of_decide_eq_false h1.symm
                      go_wp2_with fail
                      refine (is_c A1 n1 c1 tx w8 hRW).mono ?_
                      rintro e w9 ⟨rfl, hf9⟩
                      rw [hrt]
                      have x1' := hf9.cell x1 (by simp)
                      go_wp2_with fail
                      go_meet
                      exact ⟨rfl, hbwr.trans (hf9.below hbwr.size (by simp)), hX.fr hf9, hB9.fr hf9, .inr ⟨hBn.fr hf9, .inr ⟨rfl, hLo.fr hf9⟩⟩⟩
                  case rest => as_aux_lemma =>
                    obtain ⟨rfl, hSA⟩ := hcut
                    clear hcase hX hB9 hBn hbwr hRW x0 x1
                    go_upto_if 123 with fail
                    go_cut [7] from 37 to 183 (fun sv wx => sv = .pointer (some ⟨st, 0, none⟩) ∧ SwB w b9 bn bx st d k m n (5 + 1100 * i + 1004) F u v un vn L Ln [.slice A1 n1 c1, .int .i64 pw, .bool cr, .slice C1 nc1 cc1] zp f wx)
                    case first => as_aux_lemma =>
                      obtain ⟨hbwr, hX, hB9, ⟨rfl | rfl, ⟨ub, vb, Lb, hBn⟩, hR⟩ | ⟨hBn, ⟨rfl, hR⟩ | ⟨rfl, hLo⟩⟩⟩ := hSA
                      · go_wp2_with fail
                        go_meet
                        exact ⟨rfl, hbwr, hX, .inl ⟨by decide, u, v, L, hB9, hR⟩⟩
                      · go_wp2_with fail
                        go_meet
                        exact ⟨rfl, hbwr, hX, .inl ⟨by decide, u, v, L, hB9, hR⟩⟩
                      · go_wp2_with (first | (with_reducible refine stop_ld2 48 rfl ?_) | (with_reducible refine stop_st2 48 rfl ?_))
                        refine Stop.go (ld_arr 48 [un, vn] _ Tryz.underlying48 rfl (zero_of_info infoMo).2 rfl rfl bn 0 rfl (range_of_two hBn.c) ?_)
                        go_wp2_with (first | (with_reducible refine stop_ld2 48 rfl ?_) | (with_reducible refine stop_st2 48 rfl ?_))
                        refine Stop.go (st_arr 48 [un, vn] (zero_of_info infoMo).2 hBn.one rfl rfl b9 0 rfl rfl (there_of_block hB9.c (by simp)) ?_)
                        intro w10 hw10 hr10 hf10
                        obtain ⟨_, hBn', hB9'⟩ := hBn.put hB9 (fun h => hb9n h.symm) hw10
                        clear hw10 hr10
                        go_wp2_with fail
                        go_meet
                        exact ⟨rfl, hbwr.trans (hf10.below hbwr.size (by simp; exact hb9B)), hX.put hf10 (fun h => hb9x h.symm), .inl ⟨by decide, un, vn, Ln, hB9', hR.put hB9.i hB9.c hB9.sl.1 hB9.sl.2 hf10⟩⟩
                      · go_wp2_with fail
                        go_meet
                        exact ⟨rfl, hbwr, hX, .inr ⟨rfl, hB9, hBn, hLo⟩⟩
                    case rest => as_aux_lemma =>
                      obtain ⟨rfl, hSB⟩ := hcut
                      clear hSA
                      go_upto_region 38 with fail
                      go_cut [138] from 37 to 183 (fun cv wx => cv = .bool false ∧ SwB w b9 bn bx st d k m n (5 + 1100 * i + 1004) F u v un vn L Ln [.slice A1 n1 c1, .int .i64 pw, .bool cr, .slice C1 nc1 cc1] zp f wx)
                      case first => as_aux_lemma =>
                        obtain ⟨hbwr, hX, ⟨hf, hB⟩ | ⟨rfl, hB9, hBn, hLo⟩⟩ := hSB
                        · have hfb : (f == 131) = false := by simpa using hf
                          go_wp2_with fail
                          go_meet
                          exact ⟨rfl, hbwr, hX, .inl ⟨hf, hB⟩⟩
                        · go_wp2_with fail
                          refine (Broken_dead st wc hLo.1).mono ?_
                          rintro e w9 ⟨rfl, rfl⟩
                          go_wp2_with fail
                          refine (Do_dead st _ _ _ _ (hLo.1.fr ((Fr.refl [] _).alloc _))).mono ?_
                          rintro e w10 ⟨rfl, rfl⟩
                          go_wp2_with fail
                          go_meet
                          exact ⟨rfl, hbwr.trans (((Fr.refl [] _).alloc _).below hbwr.size (by simp)), hX.fr ((Fr.refl [] _).alloc _), .inr ⟨rfl, hB9.fr ((Fr.refl [] _).alloc _), hBn.fr ((Fr.refl [] _).alloc _), hLo.fr ((Fr.refl [] _).alloc _)⟩⟩
                      case rest => as_aux_lemma =>
                        obtain ⟨rfl, hbwr, hX, hSB'⟩ := hcut
                        clear hSB
                        have x2 : wc.cell? ⟨bx, 2, none⟩ = some (.bool cr) := hX.x 2 _ rfl
                        obtain ⟨wk, hwk⟩ : ∃ wk, wk = wc := ⟨_, rfl⟩
                        subst hwk
                        go_upto_region 40 with fail
                        go_cut [144] from 37 to 183 (fun cv wx => (∃ cb : Bool, cv = .bool cb ∧ (f = 131 → cb = true)) ∧ wx = wk)
                        case first => as_aux_lemma =>
                          cases cr with
                          | true =>
                            go_wp2_with fail
                            go_meet
                            exact ⟨⟨true, rfl, fun _ => rfl⟩, rfl⟩
                          | false =>
                            by_cases hf : f = 131
                            · subst hf
                              go_wp2_with fail
                              go_meet
                              exact ⟨⟨true, rfl, fun _ => rfl⟩, rfl⟩
                            · have hfb : (f == 131) = false := by simpa using hf
                              go_wp2_with fail
                              go_meet
                              exact ⟨⟨false, rfl, fun h => absurd h hf⟩, rfl⟩
                        case rest => as_aux_lemma =>
                          obtain ⟨⟨cb, rfl, hcb⟩, rfl⟩ := hcut
                          clear x2
                          replace hcb := hid hcb
                          go_upto_if 144 with fail
                          go_cut [7, 16, 17] from 37 to 183 (fun sv _ _ wx => SwC w b9 d k m n (5 + 1100 * i + 1004) F sv wx)
                          case first => as_aux_lemma =>
                            have hRB := hbC.kept (fr_of_below hbwr) (by simp)
                            have x3 : wc.cell? ⟨bx, 3, none⟩ = some (.slice C1 nc1 cc1) := hX.x 3 _ rfl
                            rcases hSB' with ⟨hf, u0, v0, L0, hB0, hR⟩ | ⟨rfl, hB9, hBn, hLo⟩
                            · cases cb with
                              | false =>
                                go_wp2_with fail
                                go_meet
                                exact ⟨st, zp, u0, v0, L0, rfl, hbwr, hB0, hR⟩
                              | true =>
                                have hs0 := small_size hR.good'.1
                                have hl0 := hR.good'.2.1
                                go_wp2_with fail
                                refine (Crash_r C1 nc1 cc1 ch wc hR hRB hok2 hC1.out).mono ?_
                                rintro e w9 ⟨rfl, hD, hf9⟩
                                have hX9 := hX.stays (hR.stays hf9)
                                have hbw9 := hbwr.trans (hf9.below hbwr.size (by simp; exact ⟨hdkB.1, hdkB.2.1, hdkB.2.2.1⟩))
                                go_wp2_with fail
                                refine (Open_r (B := w.heap.size) w9 hD hX9.fl ⟨hdkB.1, hdkB.2.1, hdkB.2.2.1, hbw9.size⟩).mono ?_
                                rintro e w10 ⟨st1, rfl, hR10, hf10⟩
                                have hB10 := (hB0.stays (hR.stays hf9)).fr hf10
                                have hbw10 := hbw9.trans (hf10.below hbw9.size (by simp))
                                obtain ⟨A0, c0, C0, c02, hu0, hv0, hM0⟩ := hB10.r.form
                                subst hu0 hv0
                                go_wp2_with (first | (with_reducible refine stop_ld2 48 rfl ?_) | (with_reducible refine stop_st2 48 rfl ?_))
                                refine Stop.go (ld_arr_w 48 [.slice A0 L0.length c0, .slice C0 L0.length c02] _ Tryz.underlying48 rfl (zero_of_info infoMo).2 rfl rfl b9 0 rfl (range_of_two hB10.c) ?_)
                                go_wp2_with fail
                                refine (holds_c w.heap.size st1 d k m n (5 + 1100 * i + 1004) L0 A0 C0 L0.length c0 c02 L0 w10 hR10.good hM0 rfl (by omega) (by omega)).mono ?_
                                rintro e w11 ⟨rfl, hf11⟩
                                rw [decide_eq_true rfl]
                                go_upto_if 171 with fail
                                go_wp2_with (first | (with_reducible refine stop_ld2 48 rfl ?_) | (with_reducible refine stop_st2 48 rfl ?_))
                                refine Stop.go (ld_arr 48 [.slice A0 L0.length c0, .slice C0 L0.length c02] _ Tryz.underlying48 rfl (zero_of_info infoMo).2 rfl rfl b9 0 rfl (range_of_two (hB10.fr hf11).c) ?_)
                                go_wp2_with fail
                                refine (holds_c w.heap.size st1 d k m n (5 + 1100 * i + 1004) L0 A0 C0 L0.length c0 c02 L0 w11 (hR10.fr hf11).good (hM0.fr hf11) rfl (by omega) (by omega)).mono ?_
                                rintro e w12 ⟨rfl, hf12⟩
                                rw [decide_eq_true rfl]
                                go_wp2_with fail
                                go_meet
                                exact ⟨st1, true, _, _, L0, rfl, (hbw10.trans (hf11.below hbw10.size (by simp))).trans (hf12.below (hbw10.trans (hf11.below hbw10.size (by simp))).size (by simp)), (hB10.fr hf11).fr hf12, (hR10.fr hf11).fr hf12⟩
                            · have hcb' := hcb.out rfl
                              subst hcb'
                              have hl0 : L.length ≤ 40 ∧ Ln.length ≤ 40 := by
                                obtain ⟨_, s, _, _, _, _, _, h6, h7, _⟩ := hLo
                                exact ⟨h6, h7⟩
                              go_wp2_with fail
                              refine (Crash_lost w.heap.size C1 nc1 cc1 ch wc hLo hRB hok2 ⟨hdkB.1, hdkB.2.1, hdkB.2.2.1⟩ hC1.out).mono ?_
                              rintro e w9 ⟨rfl, hD, hf9⟩
                              have hX9 := hX.stays (hLo.stays hf9)
                              have hbw9 := hbwr.trans (hf9.below hbwr.size (by simp; exact ⟨hdkB.1, hdkB.2.1, hdkB.2.2.1⟩))
                              have hD' : DiskR w9 d k m n (5 + 1100 * i + 1004) L F ∨ (Ln ≠ L ∧ DiskR w9 d k m n (5 + 1100 * i + 1004) Ln F) := by
                                rcases hD with h | h
                                · exact .inl h
                                · by_cases hE : Ln = L
                                  · rw [hE] at h
                                    exact .inl h
                                  · exact .inr ⟨hE, h⟩
                              rcases hD' with hD | ⟨hne, hD⟩
                              · go_wp2_with fail
                                refine (Open_r (B := w.heap.size) w9 hD hX9.fl ⟨hdkB.1, hdkB.2.1, hdkB.2.2.1, hbw9.size⟩).mono ?_
                                rintro e w10 ⟨st1, rfl, hR10, hf10⟩
                                have hs0 := small_size hR10.good'.1
                                have hB10 := (hB9.stays (hLo.stays hf9)).fr hf10
                                have hbw10 := hbw9.trans (hf10.below hbw9.size (by simp))
                                obtain ⟨A0, c0, C0, c02, hu0, hv0, hM0⟩ := hB10.r.form
                                subst hu0 hv0
                                go_wp2_with (first | (with_reducible refine stop_ld2 48 rfl ?_) | (with_reducible refine stop_st2 48 rfl ?_))
                                refine Stop.go (ld_arr_w 48 [.slice A0 L.length c0, .slice C0 L.length c02] _ Tryz.underlying48 rfl (zero_of_info infoMo).2 rfl rfl b9 0 rfl (range_of_two hB10.c) ?_)
                                go_wp2_with fail
                                refine (holds_c w.heap.size st1 d k m n (5 + 1100 * i + 1004) L A0 C0 L.length c0 c02 L w10 hR10.good hM0 rfl (by omega) (by omega)).mono ?_
                                rintro e w11 ⟨rfl, hf11⟩
                                rw [decide_eq_true rfl]
                                go_upto_if 171 with fail
                                go_wp2_with (first | (with_reducible refine stop_ld2 48 rfl ?_) | (with_reducible refine stop_st2 48 rfl ?_))
                                refine Stop.go (ld_arr 48 [.slice A0 L.length c0, .slice C0 L.length c02] _ Tryz.underlying48 rfl (zero_of_info infoMo).2 rfl rfl b9 0 rfl (range_of_two (hB10.fr hf11).c) ?_)
                                go_wp2_with fail
                                refine (holds_c w.heap.size st1 d k m n (5 + 1100 * i + 1004) L A0 C0 L.length c0 c02 L w11 (hR10.fr hf11).good (hM0.fr hf11) rfl (by omega) (by omega)).mono ?_
                                rintro e w12 ⟨rfl, hf12⟩
                                rw [decide_eq_true rfl]
                                go_wp2_with fail
                                go_meet
                                exact ⟨st1, true, _, _, L, rfl, (hbw10.trans (hf11.below hbw10.size (by simp))).trans (hf12.below (hbw10.trans (hf11.below hbw10.size (by simp))).size (by simp)), (hB10.fr hf11).fr hf12, (hR10.fr hf11).fr hf12⟩
                              · have hdf := hid (decide_eq_false (show ¬ Ln = L from hne))
                                replace hne := hid hne
                                go_wp2_with fail
                                refine (Open_r (B := w.heap.size) w9 hD hX9.fl ⟨hdkB.1, hdkB.2.1, hdkB.2.2.1, hbw9.size⟩).mono ?_
                                rintro e w10 ⟨st1, rfl, hR10, hf10⟩
                                have hs0 := small_size hR10.good'.1
                                have hB10 := (hB9.stays (hLo.stays hf9)).fr hf10
                                have hBn10 := (hBn.stays (hLo.stays hf9)).fr hf10
                                have hbw10 := hbw9.trans (hf10.below hbw9.size (by simp))
                                obtain ⟨A0, c0, C0, c02, hu0, hv0, hM0⟩ := hB10.r.form
                                subst hu0 hv0
                                obtain ⟨A2, c2, C2, c22, hu2, hv2, hM2⟩ := hBn10.r.form
                                subst hu2 hv2
                                go_wp2_with (first | (with_reducible refine stop_ld2 48 rfl ?_) | (with_reducible refine stop_st2 48 rfl ?_))
                                refine Stop.go (ld_arr_w 48 [.slice A0 L.length c0, .slice C0 L.length c02] _ Tryz.underlying48 rfl (zero_of_info infoMo).2 rfl rfl b9 0 rfl (range_of_two hB10.c) ?_)
                                go_wp2_with fail
                                refine (holds_c w.heap.size st1 d k m n (5 + 1100 * i + 1004) Ln A0 C0 L.length c0 c02 L w10 hR10.good hM0 rfl (by omega) hsL).mono ?_
                                rintro e w11 ⟨rfl, hf11⟩
                                rw [hdf.out]
                                go_wp2_with (first | (with_reducible refine stop_ld2 48 rfl ?_) | (with_reducible refine stop_st2 48 rfl ?_))
                                refine Stop.go (ld_arr_w 48 [.slice A2 Ln.length c2, .slice C2 Ln.length c22] _ Tryz.underlying48 rfl (zero_of_info infoMo).2 rfl rfl bn 0 rfl (range_of_two (hBn10.fr hf11).c) ?_)
                                go_wp2_with fail
                                refine (holds_c w.heap.size st1 d k m n (5 + 1100 * i + 1004) Ln A2 C2 Ln.length c2 c22 Ln w11 (hR10.fr hf11).good (hM2.fr hf11) rfl (by omega) (by omega)).mono ?_
                                rintro e w12 ⟨rfl, hf12⟩
                                rw [decide_eq_true rfl]
                                go_upto_if 171 with fail
                                go_wp2_with (first | (with_reducible refine stop_ld2 48 rfl ?_) | (with_reducible refine stop_st2 48 rfl ?_))
                                refine Stop.go (ld_arr 48 [.slice A0 L.length c0, .slice C0 L.length c02] _ Tryz.underlying48 rfl (zero_of_info infoMo).2 rfl rfl b9 0 rfl (range_of_two ((hB10.fr hf11).fr hf12).c) ?_)
                                go_wp2_with fail
                                refine (holds_c w.heap.size st1 d k m n (5 + 1100 * i + 1004) Ln A0 C0 L.length c0 c02 L w12 ((hR10.fr hf11).fr hf12).good ((hM0.fr hf11).fr hf12) rfl (by omega) hsL).mono ?_
                                rintro e w13 ⟨rfl, hf13⟩
                                rw [hdf.out]
                                have hB13 := ((hB10.fr hf11).fr hf12).fr hf13
                                have hBn13 := ((hBn10.fr hf11).fr hf12).fr hf13
                                have hR13 := ((hR10.fr hf11).fr hf12).fr hf13
                                have hbw13 := hbw10.trans (((hf11.trans hf12 (by simp)).trans hf13 (by simp)).below hbw10.size (by simp))
                                go_wp2_with (first | (with_reducible refine stop_ld2 48 rfl ?_) | (with_reducible refine stop_st2 48 rfl ?_))
                                refine Stop.go (ld_arr 48 [.slice A2 Ln.length c2, .slice C2 Ln.length c22] _ Tryz.underlying48 rfl (zero_of_info infoMo).2 rfl rfl bn 0 rfl (range_of_two hBn13.c) ?_)
                                go_wp2_with (first | (with_reducible refine stop_ld2 48 rfl ?_) | (with_reducible refine stop_st2 48 rfl ?_))
                                refine Stop.go (st_arr 48 [.slice A2 Ln.length c2, .slice C2 Ln.length c22] (zero_of_info infoMo).2 hBn13.one rfl rfl b9 0 rfl rfl (there_of_block hB13.c (by simp)) ?_)
                                intro w14 hw14 hr14 hf14
                                obtain ⟨_, hBn14, hB14⟩ := hBn13.put hB13 (fun h => hb9n h.symm) hw14
                                clear hw14 hr14
                                go_wp2_with fail
                                go_meet
                                exact ⟨st1, true, _, _, Ln, rfl, hbw13.trans (hf14.below hbw13.size (by simp; exact hb9B)), hB14, hR13.put hB13.i hB13.c hB13.sl.1 hB13.sl.2 hf14⟩
                          case rest => as_aux_lemma =>
                            obtain ⟨st2, z2, u2, v2, L2, rfl, hbw2, hB2, hR2⟩ := hcut
                            clear hSB' hX hbwr
                            have hs0 := small_size hR2.good'.1
                            have hl0 := hR2.good'.2.1
                            go_wp2_with fail
                            refine (Power_no_r wc hR2).mono ?_
                            rintro e w9 ⟨rfl, hR9, hf9⟩
                            have hB9' := hB2.stays (hR2.stays hf9)
                            have hbw9 := hbw2.trans (hf9.below hbw2.size (by simp; exact ⟨hdkB.1, hdkB.2.1, hdkB.2.2.1⟩))
                            obtain ⟨A0, c0, C0, c02, hu0, hv0, hM0⟩ := hB9'.r.form
                            subst hu0 hv0
                            go_wp2_with (first | (with_reducible refine stop_ld2 48 rfl ?_) | (with_reducible refine stop_st2 48 rfl ?_))
                            refine Stop.go (ld_arr 48 [.slice A0 L2.length c0, .slice C0 L2.length c02] _ Tryz.underlying48 rfl (zero_of_info infoMo).2 rfl rfl b9 0 rfl (range_of_two hB9'.c) ?_)
                            go_wp2_with fail
                            refine (holds_c w.heap.size st2 d k m n (5 + 1100 * i + 1004) L2 A0 C0 L2.length c0 c02 L2 w9 hR9.good hM0 rfl (by omega) (by omega)).mono ?_
                            rintro e w10 ⟨rfl, hf10⟩
                            rw [decide_eq_true rfl]
                            have hB10 := hB9'.fr hf10
                            have hR10 : Run w10 w.heap.size st2 d k m n (5 + 1100 * (i + 1)) L2 true (b9 :: ((Value.slice A0 L2.length c0).ownBlock.toList ++ (Value.slice C0 L2.length c02).ownBlock.toList)) := ((hR9.fr hf10).add (fun x hx => .inl (by
                              simp only [List.mem_cons, List.mem_append, Option.mem_toList, Option.mem_def] at hx
                              rcases hx with h | h
                              · rw [h]; exact hB10.i
                              · exact hB10.o x h))).le (by omega)
                            have hbw10 := hbw9.trans (hf10.below hbw9.size (by simp))
                            go_wp2_with fail
                            go_roundw
                            case rel => exact ⟨i + 1, st2, L2, _, _, by omega, rfl, rfl, hB10.c, hB10.r, hR10, hbw10⟩
                            case measure => simp [intOf]; omega
        · have hchI : (150 : Int) < nc1 := by omega
          go_wp2_with fail
          go_ret
          exact ⟨rfl, hbw7⟩
    · go_wp2_with fail
      go_ret
      exact ⟨rfl, hbw⟩
theorem walk (a0 : Int) (A : Option Addr) (nl cl : Nat) (l : List PlayV) (w : World) (w0 : (Lit.int .u8 a0).wf = true) (hR : RP w A nl l) (hb : nl ≤ cl) :
    Calls Tryz.prog 9 #[.int .u8 a0, .slice A nl cl] w fun e w' => e = .returned (.bool true) ∧ Below w.heap.size w w' := by
  have h0 : 0 ≤ a0 ∧ a0 ≤ 255 := by simpa [Lit.wf, IntKind.min, IntKind.max, IntKind.signed, IntKind.bits] using w0
  by_cases hn : nl ≤ 20
  · exact main a0 A nl cl l w h0 hR hn
  · exact early a0 A nl cl w hn
end Go.Proofs.YtiialjncdhhceaaGreat.storePlays
