/- The walk of StoreMany: it returns true, whatever the input, and writes nothing that was there. -/
import Derived.Test.YtiialjncdhhceaaGreatStoRow
namespace Go.Proofs.YtiialjncdhhceaaGreat.storeMany
open Go.RowKit
set_option linter.unusedVariables false
set_option linter.unusedSimpArgs false

def keyM (q : Nat) : List UInt8 := [107, UInt8.ofNat (48 + q)]
def LM (i : Nat) : List KV := (List.range i).map fun q => (keyM q, [120])
theorem LM_length (i : Nat) : (LM i).length = i := by simp [LM]
theorem LM_succ (i : Nat) : LM (i + 1) = LM i ++ [(keyM i, [120])] := by simp [LM, List.range_succ]
theorem LM_size (i : Nat) : sizeL (LM i) = 27 * i := by
  have app : ∀ (a b : List KV), sizeL (a ++ b) = sizeL a + sizeL b := by
    intro a b
    induction a with
    | nil => simp [sizeL]
    | cons x r ih => simp only [List.cons_append, sizeL, ih]; omega
  induction i with
  | zero => rfl
  | succ i ih => rw [LM_succ, app, ih]; simp only [sizeL, keyM, List.length_cons, List.length_nil]; omega
theorem keyM_lt (q i : Nat) (h : q < i) (hi : i < 100) : bytesBefore (keyM q) (keyM i) = true := by
  have h1 : (UInt8.ofNat (48 + q)) < (UInt8.ofNat (48 + i)) := by
    rw [UInt8.lt_iff_toNat_lt, UInt8.toNat_ofNat', UInt8.toNat_ofNat']
    omega
  have h2 : ∀ (x y : UInt8), x < y → bytesBefore [107, x] [107, y] = true := fun x y h => by simp [bytesBefore, h]
  exact h2 _ _ h1
theorem cat_str (b : UInt8) : (⟨#[107]⟩ : ByteArray) ++ stB [b] = stB [107, b] := by
  apply ByteArray.ext
  simp [stB]
def tx1 (i : Nat) : List Wr := [⟨stB (keyM i), ⟨#[120]⟩, false⟩]
theorem app1 (i : Nat) (hi : i < 100) : applyTx (LM i) (tx1 i) = LM (i + 1) := by
  have h := put_last (keyM i, [120]) (LM i) (fun p hp => by
    obtain ⟨q, hq, rfl⟩ := List.mem_map.1 hp
    exact keyM_lt q i (List.mem_range.1 hq) hi)
  rw [LM_succ, ← h]
  rfl
theorem app40 (i : Nat) (h40 : 40 ≤ i) (hi : i < 100) : (applyTx (LM 40) (tx1 i)).length = 41 := by
  have h := put_last (keyM i, [120]) (LM 40) (fun p hp => by
    obtain ⟨q, hq, rfl⟩ := List.mem_map.1 hp
    exact keyM_lt q i (by have := List.mem_range.1 hq; omega) hi)
  have e : applyTx (LM 40) (tx1 i) = putL (keyM i) [120] (LM 40) := rfl
  rw [e, h, List.length_append, LM_length]
  rfl
theorem right1 (i : Nat) : rightB (tx1 i) = true := by
  have h : (⟨stB (keyM i), ⟨#[120]⟩, false⟩ : Wr).ok = true := (Wr.ok_iff _).2 ⟨by simp only [stB_size]; simp [keyM], by simp only [stB_size]; simp [keyM], by simp only; decide, by simp⟩
  simp [rightB, tx1, h]
def txN : List Wr := [⟨⟨#[110, 101, 119]⟩, ⟨#[121]⟩, false⟩]
def txD : List Wr := [⟨⟨#[107, 48]⟩, ⟨#[]⟩, true⟩, ⟨⟨#[110, 101, 119]⟩, ⟨#[121]⟩, false⟩]
theorem newLen : (applyTx (LM 40) txN).length = 41 := by kernel_rfl
theorem delLen : (applyTx (LM 40) txD).length = 40 := by kernel_rfl
theorem delSize : sizeL (applyTx (LM 40) txD) = 1081 := by kernel_rfl
theorem byte_str (w : World) (x : Int) (b : UInt8) (hx : x = (b.toNat : Int)) : (convert 30 9 (.slice (some ⟨w.heap.size, 0, none⟩) 1 1)).run Tryz.prog (w.alloc (.cells #[.int .u8 x] 5)) = .ok (.string (stB [b])) (w.alloc (.cells #[.int .u8 x] 5)) := by
  subst hx
  refine str_of_ob _ _ 1 1 [b] ⟨rfl, by omega, .inr ⟨w.heap.size, 0, rfl, fun j hj => ?_⟩⟩
  have hj0 : j = 0 := by simp at hj; omega
  subst hj0
  have h1 := cell_of_row _ _ 0 _ _ _ (heap_alloc_new w (.cells #[.int .u8 (b.toNat : Int)] 5))
  rw [Nat.zero_add, h1]
  simp

set_option maxHeartbeats 4000000 in
set_option maxRecDepth 100000 in
theorem walk (a0 : Int) (w : World) (w0 : (Lit.int .u8 a0).wf = true) :
    Calls Tryz.prog 3 #[.int .u8 a0] w fun e w' => e = .returned (.bool true) ∧ Below w.heap.size w w' := by
  have h0 : 0 ≤ a0 ∧ a0 ≤ 255 := by simpa [Lit.wf, IntKind.min, IntKind.max, IntKind.signed, IntKind.bits] using w0
  obtain ⟨T, hT⟩ : ∃ T : Nat, a0 % 50 = (T : Int) := ⟨(a0 % 50).toNat, by have := Int.emod_nonneg a0 (show (50 : Int) ≠ 0 by omega); omega⟩
  have hTb : T ≤ 49 := by have := Int.emod_lt_of_pos a0 (show (0 : Int) < 50 by omega); omega
  clear w0
  go_enter Tryz.func3, Tryz.ntmps3
  go_wp2_with (go_at_call 10; refine (known15_c _).mono ?_; rintro e w1 ⟨rfl, hb1⟩)
  have hs1 := hb1.size
  refine (New_c 400 400 (by decide) w1).mono ?_
  rintro e w2 ⟨d, k, m, rfl, hD2, hlo, hf2⟩
  have hs2 := hf2.size
  go_wp2_with fail
  refine (Make_g w.heap.size d k m 400 w2 hD2 (by decide) (by omega)).mono ?_
  rintro e w3 ⟨st, rfl, hG3, hf3⟩
  have hb3 : Below w.heap.size w w3 := (hb1.trans (hf2.below hs1 (by simp))).trans (hf3.below (by omega) (by simp; omega))
  go_wp2_with fail
  simp only [hT]
  go_loopw [6] (fun iv wr => ∃ i : Nat, i ≤ T ∧ iv = .int .i64 i ∧ Good wr w.heap.size st d k m 400 (5 + i * 1004) (LM (min i 40)) ∧ Below w.heap.size w wr) (fun iv _ => T - (intOf iv).toNat)
  case atStart => exact ⟨0, by omega, rfl, hG3, hb3⟩
  case round =>
    obtain ⟨i, hiT, rfl, hG, hb⟩ := hrel
    by_cases hin : i < T
    · have hiI : (i : Int) < T := by omega
      have hcv := byte_str wr (48 + (i : Int)) (UInt8.ofNat (48 + i)) (by rw [UInt8.toNat_ofNat']; omega)
      have hfa : Fr [] wr (wr.alloc (.cells #[.int .u8 (48 + (i : Int))] 5)) := (Fr.refl [] wr).alloc _
      have hba := hb.trans (hfa.below hG.size (by simp))
      have hGa := hG.fr hfa
      have hza : (wr.alloc (.cells #[.int .u8 (48 + (i : Int))] 5)).heap.size = wr.heap.size + 1 := by simp
      replace hza := hid hza
      have hiu : (i : Int) ≤ 49 := by omega
      generalize hX : stB [UInt8.ofNat (48 + i)] = X at *
      have hXz : X.size = 1 := by rw [← hX, stB_size]; rfl
      have hXk : (⟨#[107]⟩ : ByteArray) ++ X = stB (keyM i) := by rw [← hX]; exact cat_str _
      replace hX := hid hX
      replace hXk := hid hXk
      go_wp2_with fail
      rw [← hza.out, hXk.out]
      clear hcv
      generalize wr.alloc (.cells #[.int .u8 (48 + (i : Int))] 5) = wa at *
      by_cases h40 : i < 40
      · have h40I : (i : Int) < 40 := by omega
        rw [show min i 40 = i by omega] at hGa
        refine (Do_lit w.heap.size st d k m 400 _ _ 1 (tx1 i) _ _ wa hGa rfl rfl (by decide) (right1 i) (by omega) _ (app1 i (by omega)) ⟨by rw [LM_length]; omega, by rw [LM_size]; omega⟩).mono ?_
        rintro e w5 ⟨rfl, hG5, hb5⟩
        go_wp2_with fail
        try go_frame
        go_roundw
        case rel => exact ⟨i + 1, by omega, rfl, by rw [show 5 + (i + 1) * 1004 = 5 + i * 1004 + 1004 by omega, show min (i + 1) 40 = i + 1 by omega]; exact hG5, hba.trans hb5⟩
        case measure => simp [intOf]; omega
      · have h40I : ¬ (i : Int) < 40 := by omega
        rw [show min i 40 = 40 by omega] at hGa
        refine (Do_lit_room w.heap.size st d k m 400 _ _ 1 (tx1 i) _ _ wa hGa rfl rfl (by decide) (right1 i) (by omega) (by rw [app40 i (by omega) (by omega)]; omega)).mono ?_
        rintro e w5 ⟨rfl, hf5⟩
        have hG5 := hGa.fr hf5
        go_wp2_with fail
        try go_frame
        go_roundw
        case rel => exact ⟨i + 1, by omega, rfl, by rw [show min (i + 1) 40 = 40 by omega]; exact hG5.le (by omega), hba.trans (hf5.below hGa.size (by simp))⟩
        case measure => simp [intOf]; omega
    · have hie : i = T := by omega
      subst hie
      by_cases h40 : i < 40
      · have h40I : (i : Int) < 40 := by omega
        have hmin : min (i : Int) 40 = (i : Int) := by omega
        rw [show min i 40 = i by omega] at hG
        go_wp2_with fail
        refine (Keys_g w.heap.size st d k m 400 _ _ wr hG).mono ?_
        rintro e w4 ⟨v4, rfl, hO4, hf4⟩
        obtain ⟨A4, c4, rfl, _, _, _⟩ := hO4.form
        have hl4 : ((LM i).map fun p => stB p.1).length = i := by rw [List.length_map, LM_length]
        rw [hl4]
        clear hO4 hl4
        go_wp2_with fail
        go_ret
        exact ⟨rfl, hb.trans (hf4.below hG.size (by simp))⟩
      · have h40I : ¬ (i : Int) < 40 := by omega
        have hmin : min (i : Int) 40 = 40 := by omega
        rw [show min i 40 = 40 by omega] at hG
        go_wp2_with fail
        refine (Keys_g w.heap.size st d k m 400 _ _ wr hG).mono ?_
        rintro e w4 ⟨v4, rfl, hO4, hf4⟩
        obtain ⟨A4, c4, rfl, _, _, _⟩ := hO4.form
        have hl4 : ((LM 40).map fun p => stB p.1).length = 40 := by rw [List.length_map, LM_length]
        rw [hl4]
        clear hO4 hl4
        have hG4 := hG.fr hf4
        have hb4 := hb.trans (hf4.below hG.size (by simp))
        go_wp2_with fail
        refine (Do_lit_room w.heap.size st d k m 400 _ _ 1 txN _ _ w4 hG4 rfl rfl (by decide) (by decide) (by omega) (by rw [newLen]; omega)).mono ?_
        rintro e w5 ⟨rfl, hf5⟩
        have hG5 := hG4.fr hf5
        have hb5 := hb4.trans (hf5.below hG4.size (by simp))
        go_wp2_with fail
        refine (Do_lit w.heap.size st d k m 400 _ _ 2 txD _ _ w5 hG5 rfl rfl (by decide) (by decide) (by omega) _ rfl ⟨by rw [delLen]; omega, by rw [delSize]; omega⟩).mono ?_
        rintro e w6 ⟨rfl, hG6, hb6⟩
        have hb06 := hb5.trans hb6
        go_wp2_with fail
        refine (Keys_g w.heap.size st d k m 400 _ _ w6 hG6).mono ?_
        rintro e w7 ⟨v7, rfl, hO7, hf7⟩
        obtain ⟨A7, c7, rfl, _, _, _⟩ := hO7.form
        have hl7 : ((applyTx (LM 40) txD).map fun p => stB p.1).length = 40 := by rw [List.length_map, delLen]
        rw [hl7]
        clear hO7 hl7
        go_wp2_with fail
        go_ret
        exact ⟨rfl, hb06.trans (hf7.below hG6.size (by simp))⟩
end Go.Proofs.YtiialjncdhhceaaGreat.storeMany
