/- The walk of StoreOne: it returns true, whatever the input, and writes nothing that was there. -/
import Derived.Test.YtiialjncdhhceaaGreatStoRow
namespace Go.Proofs.YtiialjncdhhceaaGreat.storeOne
open Go.RowKit
set_option linter.unusedVariables false
set_option linter.unusedSimpArgs false

theorem OW_of_block {w w' : World} {base : Nat} {v : Value} {tx : List Wr} (h : OW w base v tx) (hk : ∀ g cur, base ≤ g → w.heap[g]? = some (.cells cur 32 (0, 0)) → w'.heap[g]? = some (.cells cur 32 (0, 0))) : OW w' base v tx := by
  refine ⟨h.1, ?_⟩
  rcases h.2 with h1 | ⟨g, cap, cur, rfl, hb, hg, rest⟩
  · exact .inl h1
  · exact .inr ⟨g, cap, cur, rfl, hb, hk g cur hb hg, rest⟩
def one (l : List UInt8) (q : Nat) : Wr := ⟨⟨#[107]⟩, stB (l ++ [UInt8.ofNat q]), false⟩
def txs (l : List UInt8) (i : Nat) : List Wr := (List.range i).map (one l)
theorem txs_length (l : List UInt8) (i : Nat) : (txs l i).length = i := by simp [txs]
theorem txs_succ (l : List UInt8) (i : Nat) : txs l (i + 1) = txs l i ++ [one l i] := by simp [txs, List.range_succ]
theorem apply_snoc (L : List KV) (tx : List Wr) (y : Wr) : applyTx L (tx ++ [y]) = applyW (applyTx L tx) y := by
  unfold applyTx applyW
  rw [List.map_append, doAll_append]
  rfl
theorem app (l : List UInt8) (i : Nat) : applyTx [] (txs l (i + 1)) = [([107], l ++ [UInt8.ofNat i])] := by
  induction i with
  | zero => rfl
  | succ i ih =>
    rw [txs_succ, apply_snoc, ih]
    rfl
theorem rights (l : List UInt8) (i : Nat) (hl : l.length ≤ 400) (hi : i < 20) : rightB (txs l (i + 1)) = true := by
  have h : ∀ q, (one l q).ok = true := fun q => (Wr.ok_iff _).2 ⟨by simp only [one]; decide, by simp only [one]; decide, by simp only [one, stB_size, List.length_append, List.length_cons, List.length_nil]; omega, by simp [one]⟩
  unfold rightB
  have h1 : (txs l (i + 1)).all Wr.ok = true := List.all_eq_true.2 (fun x hx => by
    obtain ⟨q, _, rfl⟩ := List.mem_map.1 hx
    exact h q)
  rw [h1, txs_length]
  simp
  omega
theorem cat_str (l : List UInt8) (b : UInt8) : stB l ++ stB [b] = stB (l ++ [b]) := by
  apply ByteArray.ext
  simp [stB]
theorem one_str (w : World) (i : Nat) (hi : i < 256) : (convert 30 9 (.slice (some ⟨w.heap.size, 0, none⟩) 1 1)).run Tryz.prog (w.alloc (.cells #[.int .u8 (i : Int)] 5)) = .ok (.string (stB [UInt8.ofNat i])) (w.alloc (.cells #[.int .u8 (i : Int)] 5)) := by
  refine str_of_ob _ _ 1 1 [UInt8.ofNat i] ⟨rfl, by omega, .inr ⟨w.heap.size, 0, rfl, fun j hj => ?_⟩⟩
  have hj0 : j = 0 := by simp at hj; omega
  subst hj0
  have h1 := cell_of_row _ _ 0 _ _ _ (heap_alloc_new w (.cells #[.int .u8 (i : Int)] 5))
  rw [Nat.zero_add, h1]
  simp
  omega

set_option maxHeartbeats 2000000 in
set_option maxRecDepth 100000 in
theorem early (a0 : Int) (A : Option Addr) (n c : Nat) (w : World) (hn : ¬ n ≤ 400) :
    Calls Tryz.prog 7 #[.int .u8 a0, .slice A n c] w fun e w' => e = .returned (.bool true) ∧ Below w.heap.size w w' := by
  have hi : (400 : Int) < n := by omega
  go_enter Tryz.func7, Tryz.ntmps7
  go_wp2_with (go_at_call 10; refine (known15_c _).mono ?_; rintro e w1 ⟨rfl, hb1⟩)
  go_ret
  exact ⟨rfl, hb1⟩

set_option maxHeartbeats 4000000 in
set_option maxRecDepth 100000 in
theorem main (a0 : Int) (A : Option Addr) (n c : Nat) (l : List UInt8) (w : World) (h0 : 0 ≤ a0 ∧ a0 ≤ 255) (hR : RB w A n l) (hnc : n ≤ c) (hn : n ≤ 400) :
    Calls Tryz.prog 7 #[.int .u8 a0, .slice A n c] w fun e w' => e = .returned (.bool true) ∧ Below w.heap.size w w' := by
  have hi : ¬ (400 : Int) < n := by omega
  have hll := hR.1
  obtain ⟨T, hT⟩ : ∃ T : Nat, a0 % 20 = (T : Int) := ⟨(a0 % 20).toNat, by have := Int.emod_nonneg a0 (show (20 : Int) ≠ 0 by omega); omega⟩
  have hTb : T ≤ 19 := by have := Int.emod_lt_of_pos a0 (show (0 : Int) < 20 by omega); omega
  have hr := hid (rights l T (by omega) (by omega))
  have hRb := hid (fun w' (h : Below w.heap.size w w') => hR.below h)
  clear hR
  go_enter Tryz.func7, Tryz.ntmps7
  go_wp2_with (go_at_call 10; refine (known15_c _).mono ?_; rintro e w1 ⟨rfl, hb1⟩)
  have hs1 := hb1.size
  refine (New_c 40 40 (by decide) w1).mono ?_
  rintro e w2 ⟨d, k, m, rfl, hD2, hlo, hf2⟩
  have hs2 := hf2.size
  have hlt2 := hD2.lts
  go_wp2_with fail
  refine (Make_g w.heap.size d k m 40 w2 hD2 (by decide) (by omega)).mono ?_
  rintro e w3 ⟨st, rfl, hG3, hf3⟩
  have hb3 : Below w.heap.size w w3 := (hb1.trans (hf2.below hs1 (by simp))).trans (hf3.below (by omega) (by simp; omega))
  have hs3 := hf3.size
  have hz3 := hG3.size
  go_wp2_with fail
  try simp only [hT]
  go_loopw [8, 9] (fun tv iv wr => ∃ i : Nat, i ≤ T + 1 ∧ iv = .int .i64 i ∧ OW wr w3.heap.size tv (txs l i) ∧ Fr [] w3 wr) (fun _ iv _ => T + 1 - (intOf iv).toNat)
  case atStart => exact ⟨0, by omega, rfl, OW.nil _ _, Fr.refl _ _⟩
  case round =>
    obtain ⟨i, hiT, rfl, hO, hfr⟩ := hrel
    by_cases hin : i ≤ T
    · have hiI : (i : Int) ≤ T := by omega
      have hbr := hb3.trans (hfr.below hz3 (by simp))
      have hcv1 := str_of_ob wr A n c l (hRb.out _ hbr)
      have hcv := one_str wr i (by omega)
      have hfa : Fr [] wr (wr.alloc (.cells #[.int .u8 (i : Int)] 5)) := (Fr.refl [] wr).alloc _
      have hza : (wr.alloc (.cells #[.int .u8 (i : Int)] 5)).heap.size = wr.heap.size + 1 := by simp
      have hOa := hO.kept hfa (by simp)
      have hfra := hfr.then hfa
      replace hza := hid hza
      have hiu : (i : Int) ≤ 19 := by omega
      have hcat := cat_str l (UInt8.ofNat i)
      have hX1 : (stB [UInt8.ofNat i]).size = 1 := by rw [stB_size]; rfl
      have hY1 : (stB l).size = n := by rw [stB_size, hll]
      generalize stB [UInt8.ofNat i] = X at *
      generalize stB l = Y at *
      replace hcat := hid hcat
      go_wp2_with (at_builtin; refine stop_append rfl ?_)
      clear hcv hcv1
      generalize wr.alloc (.cells #[.int .u8 (i : Int)] 5) = wa at *
      rw [← hza.out, hcat.out]
      have hsza := hfra.size
      refine Stop.go (appW1 w3.heap.size rfl _ _ rfl hOa (one l i) rfl rfl rfl hsza (by rw [txs_length]; omega) ?_)
      intro v5 w5 hO5 hf5 hn5
      rw [← txs_succ] at hO5
      have hfr5 : Fr [] w3 w5 := hfra.past hf5 (fun z hz => (hOa.lt z (by simpa using hz)).1)
      go_wp2_with fail
      try go_frame
      go_roundw
      case rel => exact ⟨i + 1, by omega, rfl, hO5, hfr5⟩
      case measure => simp [intOf]; omega
    · have hie : i = T + 1 := by omega
      subst hie
      have hiI : ¬ ((T + 1 : Nat) : Int) ≤ (T : Int) := by omega
      have hGr := hG3.fr hfr
      have hbr := hb3.trans (hfr.below hz3 (by simp))
      obtain ⟨Av, cv, rfl, hcv, hRv, _⟩ := hO.form
      rw [txs_length] at hRv hcv ⊢
      obtain ⟨N, hN⟩ : ∃ N, T + 1 = N := ⟨_, rfl⟩
      have hNI : (N : Int) - 1 = (T : Int) := by omega
      have hNT : T < N := by omega
      have happ := app l T
      have hrr := hr.out
      have hlast : (txs l (T + 1))[T]'(by rw [txs_length]; omega) = one l T := by simp [txs]
      have hlen := txs_length l (T + 1)
      rw [hN] at hRv hcv hiI happ hrr hO hlen ⊢
      simp only [hN] at hlast
      replace hN := hid hN
      replace hrr := hid hrr
      replace hlast := hid hlast
      go_wp2_with fail
      refine (Do_gk w.heap.size st d k m 40 5 [] Av N cv _ wr hGr hRv hrr.out (by decide) (by rw [happ]; exact ⟨by simp, by simp only [sizeL, List.length_append, List.length_cons, List.length_nil]; omega⟩)).mono ?_
      rw [happ]
      rintro e w5 ⟨rfl, hG5, hb5, hk5⟩
      have hO5 := OW_of_block hO (fun g cur hg h => hk5 g cur (by omega) h)
      have hb05 := hbr.trans hb5
      go_wp2_with fail
      refine (Crash_lit w.heap.size st d k m 40 _ _ 3 [255, 1, 0] _ _ w5 hG5 rfl rfl (by decide)).mono ?_
      rintro e w6 ⟨rfl, hG6, hb6, hf6⟩
      have hb06 := hb05.trans hb6
      have hO6 := hO5.kept hf6 (fun g hg => by have := (hO5.lt g hg).1; simp; omega)
      go_wp2_with fail
      refine (Open_g w.heap.size st d k m 40 _ _ w6 hG6).mono ?_
      rintro e w7 ⟨st7, rfl, hT7, _, hf7⟩
      have hb07 := hb06.trans (hf7.below hG6.size (by simp))
      have hO7 := hO6.kept hf7 (by simp)
      obtain ⟨A7, c7, hv7, _, hR7, _⟩ := hO7.form
      rw [hlen] at hR7 hv7
      injection hv7 with hA7 _ _
      subst hA7
      obtain ⟨g, off, rfl, hcell⟩ := hR7.at T hNT
      rw [hlast.out] at hcell
      have hc1 : w7.cell? ⟨g, off + T * 3 + 1, none⟩ = some (.string (stB (l ++ [UInt8.ofNat T]))) := hcell 1 _ rfl
      have hsz : sizeL [(([107] : List UInt8), l ++ [UInt8.ofNat T])] = n + 26 := by simp only [sizeL, List.length_append, List.length_cons, List.length_nil]; omega
      have hxz : (stB (l ++ [UInt8.ofNat T])).size = n + 1 := by rw [stB_size, List.length_append, hll]; rfl
      clear hlast hcell hO hO5 hO6 hO7 hR7 hRv
      go_wp2_with fail
      refine (Get_g w.heap.size st7 d k m 40 _ _ ⟨#[107]⟩ (by decide) w7 hT7).mono ?_
      rw [show getL (bs ⟨#[107]⟩) [(([107] : List UInt8), l ++ [UInt8.ofNat T])] = some (l ++ [UInt8.ofNat T]) from rfl, elS_some]
      rintro e w8 ⟨rfl, rfl⟩
      generalize stB (l ++ [UInt8.ofNat T]) = X at *
      go_wp2_with fail
      refine (Size_g w.heap.size st7 d k m 40 _ _ w7 hT7).mono ?_
      rw [hsz]
      rintro e w9 ⟨rfl, hf9⟩
      have hfinI : ((n + 26 : Nat) : Int) = 25 + ((n + 1 : Nat) : Int) := by omega
      go_wp2_with fail
      go_ret
      exact ⟨rfl, hb07.trans (hf9.below hT7.size (by simp))⟩

theorem walk (a0 : Int) (A : Option Addr) (n c : Nat) (l : List UInt8) (w : World) (w0 : (Lit.int .u8 a0).wf = true) (hR : RB w A n l) (hnc : n ≤ c) :
    Calls Tryz.prog 7 #[.int .u8 a0, .slice A n c] w fun e w' => e = .returned (.bool true) ∧ Below w.heap.size w w' := by
  have h0 : 0 ≤ a0 ∧ a0 ≤ 255 := by simpa [Lit.wf, IntKind.min, IntKind.max, IntKind.signed, IntKind.bits] using w0
  by_cases hn : n ≤ 400
  · exact main a0 A n c l w h0 hR hnc hn
  · exact early a0 A n c w hn
end Go.Proofs.YtiialjncdhhceaaGreat.storeOne
