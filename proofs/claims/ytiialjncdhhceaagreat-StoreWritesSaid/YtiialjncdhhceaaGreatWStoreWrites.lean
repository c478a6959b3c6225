/- The walk of StoreWrites: it returns true, whatever the input, and writes nothing that was there. -/
import Derived.Test.YtiialjncdhhceaaGreatStoRow
namespace Go.Proofs.YtiialjncdhhceaaGreat.storeWrites
open Go.RowKit
set_option linter.unusedVariables false
set_option linter.unusedSimpArgs false

def wK (x : ByteArray) : Wr := ⟨⟨#[107]⟩, x, false⟩
def wM (x : ByteArray) : Wr := ⟨⟨#[109]⟩, x, false⟩
def wD : Wr := ⟨⟨#[109]⟩, ⟨#[]⟩, true⟩
theorem app3 (a b : ByteArray) : applyTx [] [wK a, wM b, wK b] = [([107], bs b), ([109], bs b)] := by rfl
theorem app4 (a b : ByteArray) : applyTx [] [wK a, wM b, wK b, wD] = [([107], bs b)] := by rfl
theorem right3 (a b : ByteArray) (ha : a.size ≤ 300) (hb : b.size ≤ 300) : rightB [wK a, wM b, wK b] = true := by
  have h : ∀ (k x : ByteArray), k.size = 1 → x.size ≤ 300 → (⟨k, x, false⟩ : Wr).ok = true := fun k x h1 h2 => (Wr.ok_iff _).2 ⟨by simp only; omega, by simp only; omega, by simp only; omega, by simp⟩
  simp [rightB, wK, wM, h ⟨#[107]⟩ a rfl ha, h ⟨#[107]⟩ b rfl hb, h ⟨#[109]⟩ b rfl hb]
theorem right4 (a b : ByteArray) (ha : a.size ≤ 300) (hb : b.size ≤ 300) : rightB [wK a, wM b, wK b, wD] = true := by
  have h : ∀ (k x : ByteArray), k.size = 1 → x.size ≤ 300 → (⟨k, x, false⟩ : Wr).ok = true := fun k x h1 h2 => (Wr.ok_iff _).2 ⟨by simp only; omega, by simp only; omega, by simp only; omega, by simp⟩
  have hd : wD.ok = true := by decide
  simp [rightB, wK, wM, h ⟨#[107]⟩ a rfl ha, h ⟨#[107]⟩ b rfl hb, h ⟨#[109]⟩ b rfl hb, hd]

set_option maxHeartbeats 2000000 in
set_option maxRecDepth 100000 in
theorem early1 (a b : ByteArray) (dr : Bool) (w : World) (h : ¬ a.size ≤ 300) :
    Calls Tryz.prog 4 #[.string a, .string b, .bool dr] w fun e w' => e = .returned (.bool true) ∧ Below w.heap.size w w' := by
  have hi : (300 : Int) < a.size := by omega
  go_enter Tryz.func4, Tryz.ntmps4
  go_wp2_with (go_at_call 10; refine (known15_c _).mono ?_; rintro e w1 ⟨rfl, hb1⟩)
  go_ret
  exact ⟨rfl, hb1⟩
set_option maxHeartbeats 2000000 in
set_option maxRecDepth 100000 in
theorem early2 (a b : ByteArray) (dr : Bool) (w : World) (h0 : a.size ≤ 300) (h : ¬ b.size ≤ 300) :
    Calls Tryz.prog 4 #[.string a, .string b, .bool dr] w fun e w' => e = .returned (.bool true) ∧ Below w.heap.size w w' := by
  have hi0 : ¬ (300 : Int) < a.size := by omega
  have hi : (300 : Int) < b.size := by omega
  go_enter Tryz.func4, Tryz.ntmps4
  go_wp2_with (go_at_call 10; refine (known15_c _).mono ?_; rintro e w1 ⟨rfl, hb1⟩)
  go_ret
  exact ⟨rfl, hb1⟩

set_option maxHeartbeats 4000000 in
set_option maxRecDepth 100000 in
theorem main (a b : ByteArray) (dr : Bool) (w : World) (ha : a.size ≤ 300) (hb : b.size ≤ 300) :
    Calls Tryz.prog 4 #[.string a, .string b, .bool dr] w fun e w' => e = .returned (.bool true) ∧ Below w.heap.size w w' := by
  have hi0 : ¬ (300 : Int) < a.size := by omega
  have hi : ¬ (300 : Int) < b.size := by omega
  have hr3 := hid (right3 a b ha hb)
  have hr4 := hid (right4 a b ha hb)
  go_enter Tryz.func4, Tryz.ntmps4
  go_wp2_with (go_at_call 10; refine (known15_c _).mono ?_; rintro e w1 ⟨rfl, hb1⟩)
  have hs1 := hb1.size
  refine (New_c 100 100 (by decide) w1).mono ?_
  rintro e w2 ⟨d, k, m, rfl, hD2, hlo, hf2⟩
  have hs2 := hf2.size
  go_wp2_with fail
  refine (Make_g w.heap.size d k m 100 w2 hD2 (by decide) (by omega)).mono ?_
  rintro e w3 ⟨st, rfl, hG3, hf3⟩
  have hb3 : Below w.heap.size w w3 := (hb1.trans (hf2.below hs1 (by simp))).trans (hf3.below (by omega) (by simp; omega))
  have hz3 := hf3.size
  cases dr with
  | false =>
    go_wp2_with fail
    refine (Do_lit w.heap.size st d k m 100 5 [] 3 [wK a, wM b, wK b] _ _ w3 hG3 rfl rfl (by decide) hr3.out (by decide) _ (app3 a b) ⟨by simp, by simp only [sizeL, bs_length, List.length_cons, List.length_nil]; omega⟩).mono ?_
    rintro e w4 ⟨rfl, hG4, hb4⟩
    have hb04 := hb3.trans hb4
    have hLe : ∃ L : List KV, L = [([107], bs b), ([109], bs b)] := ⟨_, rfl⟩
    obtain ⟨L, hL⟩ := hLe
    rw [← hL] at hG4
    have hgk : getL (bs ⟨#[107]⟩) L = some (bs b) := by rw [hL]; rfl
    have hgm : getL (bs ⟨#[109]⟩) L = some (bs b) := by rw [hL]; rfl
    have hll : L.length = 2 := by rw [hL]; rfl
    have hsz : sizeL L ≤ 1000 := by rw [hL]; simp only [sizeL, bs_length, List.length_cons, List.length_nil]; omega
    replace hL := hid hL
    go_wp2_with fail
    refine (Do_lit_form w.heap.size st d k m 100 _ L 2 [⟨⟨#[107]⟩, ⟨#[111, 116, 104, 101, 114]⟩, false⟩, ⟨⟨#[]⟩, ⟨#[]⟩, false⟩] _ _ w4 hG4 rfl rfl (by decide) (by decide)).mono ?_
    rintro e w5 ⟨rfl, hf5⟩
    have hG5 := hG4.fr hf5
    have hb05 := hb04.trans (hf5.below hG4.size (by simp))
    go_wp2_with fail
    refine (Get_g w.heap.size st d k m 100 _ L ⟨#[107]⟩ (by decide) w5 hG5).mono ?_
    rw [hgk, elS_some, stB_bs]
    rintro e w6 ⟨rfl, rfl⟩
    go_wp2_with fail
    refine (Get_g w.heap.size st d k m 100 _ L ⟨#[109]⟩ (by decide) w5 hG5).mono ?_
    rw [hgm, elS_some, stB_bs]
    rintro e w6 ⟨rfl, rfl⟩
    go_wp2_with fail
    refine (Crash_lit w.heap.size st d k m 100 _ L 3 [3, 200, 255] _ _ w5 hG5 rfl rfl (by decide)).mono ?_
    rintro e w6 ⟨rfl, hG6, hb6, _⟩
    have hb06 := hb05.trans hb6
    go_wp2_with fail
    refine (Open_g w.heap.size st d k m 100 _ L w6 hG6).mono ?_
    rintro e w7 ⟨st7, rfl, hT7, hG7, hf7⟩
    have hb07 := hb06.trans (hf7.below hG6.size (by simp))
    go_wp2_with fail
    refine (Get_g w.heap.size st7 d k m 100 _ L ⟨#[107]⟩ (by decide) w7 hT7).mono ?_
    rw [hgk, elS_some, stB_bs]
    rintro e w8 ⟨rfl, rfl⟩
    go_wp2_with fail
    refine (Keys_g w.heap.size st7 d k m 100 _ L w7 hT7).mono ?_
    rintro e w8 ⟨v8, rfl, hO8, hf8⟩
    obtain ⟨A8, c8, rfl, _, _, _⟩ := hO8.form
    have hl8 : (L.map fun p => stB p.1).length = 2 := by rw [List.length_map, hll]
    rw [hl8]
    clear hO8
    have hT8 := hT7.fr hf8
    have hG8 := hG7.fr hf8
    have hb08 := hb07.trans (hf8.below hG7.size (by simp))
    go_wp2_with fail
    refine (Keys_g w.heap.size st d k m 100 _ L w8 hG8).mono ?_
    rintro e w9 ⟨v9, rfl, hO9, hf9⟩
    obtain ⟨A9, c9, rfl, _, _, _⟩ := hO9.form
    rw [hl8]
    clear hO9 hl8
    have hT9 := hT8.fr hf9
    have hG9 := hG8.fr hf9
    have hb09 := hb08.trans (hf9.below hG8.size (by simp))
    go_wp2_with fail
    refine (Size_g w.heap.size st7 d k m 100 _ L w9 hT9).mono ?_
    rintro e w10 ⟨rfl, hf10⟩
    have hG10 := hG9.fr hf10
    have hb10 := hb09.trans (hf10.below hG9.size (by simp))
    go_wp2_with fail
    refine (Size_g w.heap.size st d k m 100 _ L w10 hG10).mono ?_
    rintro e w11 ⟨rfl, hf11⟩
    have hb11 := hb10.trans (hf11.below hG10.size (by simp))
    go_wp2_with fail
    go_ret
    exact ⟨rfl, hb11⟩
  | true =>
    go_wp2_with (at_builtin; refine stop_append rfl ?_)
    have hO := OW.lit (base := w.heap.size) [wK a, wM b, wK b] 3 (heap_alloc_new w3 (.cells (txC [wK a, wM b, wK b]).toArray 32)) rfl rfl (by decide) (by omega)
    have hf4 : Fr [] w3 (w3.alloc (.cells (txC [wK a, wM b, wK b]).toArray 32)) := (Fr.refl [] w3).alloc _
    have efold : w3.alloc (.cells #[.string ⟨#[107]⟩, .string a, .bool false, .string ⟨#[109]⟩, .string b, .bool false, .string ⟨#[107]⟩, .string b, .bool false] 32) = w3.alloc (.cells (txC [wK a, wM b, wK b]).toArray 32) := rfl
    rw [efold]
    clear efold
    have hz4 : (w3.alloc (.cells (txC [wK a, wM b, wK b]).toArray 32)).heap.size = w3.heap.size + 1 := by simp
    generalize w3.alloc (.cells (txC [wK a, wM b, wK b]).toArray 32) = wt at *
    rw [← hz4]
    refine Stop.go (appW1 w.heap.size rfl _ _ rfl hO wD rfl rfl rfl (by omega) (by simp) ?_)
    intro v5 w5 hO5 hf5 hn5
    have hf35 : Fr [] w3 w5 := hf4.past hf5 (by intro z hz; simp [Value.ownBlock] at hz; omega)
    have hG5 := hG3.fr hf35
    obtain ⟨A5, c5, rfl, hc5, hR5, _⟩ := hO5.form
    have hl5 : ([wK a, wM b, wK b] ++ [wD]).length = 4 := rfl
    rw [hl5] at hR5 ⊢
    have hb35 := hb3.trans (hf35.below (by omega) (by simp))
    clear hl5 hO5 hO
    go_wp2_with fail
    refine (Do_g w.heap.size st d k m 100 5 [] A5 4 c5 _ w5 hG5 hR5 hr4.out (by decide) (by rw [show [wK a, wM b, wK b] ++ [wD] = [wK a, wM b, wK b, wD] from rfl, app4]; exact ⟨by simp, by simp only [sizeL, bs_length, List.length_cons, List.length_nil]; omega⟩)).mono ?_
    rw [show [wK a, wM b, wK b] ++ [wD] = [wK a, wM b, wK b, wD] from rfl, app4]
    rintro e w4 ⟨rfl, hG4, hb4⟩
    replace hb3 := hb35
    have hb04 := hb3.trans hb4
    have hLe : ∃ L : List KV, L = [([107], bs b)] := ⟨_, rfl⟩
    obtain ⟨L, hL⟩ := hLe
    rw [← hL] at hG4
    have hgk : getL (bs ⟨#[107]⟩) L = some (bs b) := by rw [hL]; rfl
    have hgm : getL (bs ⟨#[109]⟩) L = none := by rw [hL]; rfl
    have hll : L.length = 1 := by rw [hL]; rfl
    have hsz : sizeL L ≤ 1000 := by rw [hL]; simp only [sizeL, bs_length, List.length_cons, List.length_nil]; omega
    replace hL := hid hL
    go_wp2_with fail
    refine (Do_lit_form w.heap.size st d k m 100 _ L 2 [⟨⟨#[107]⟩, ⟨#[111, 116, 104, 101, 114]⟩, false⟩, ⟨⟨#[]⟩, ⟨#[]⟩, false⟩] _ _ w4 hG4 rfl rfl (by decide) (by decide)).mono ?_
    rintro e w5 ⟨rfl, hf5⟩
    have hG5 := hG4.fr hf5
    have hb05 := hb04.trans (hf5.below hG4.size (by simp))
    go_wp2_with fail
    refine (Get_g w.heap.size st d k m 100 _ L ⟨#[107]⟩ (by decide) w5 hG5).mono ?_
    rw [hgk, elS_some, stB_bs]
    rintro e w6 ⟨rfl, rfl⟩
    go_wp2_with fail
    refine (Get_g w.heap.size st d k m 100 _ L ⟨#[109]⟩ (by decide) w5 hG5).mono ?_
    rw [hgm, elS_none]
    rintro e w6 ⟨rfl, rfl⟩
    go_wp2_with fail
    refine (Crash_lit w.heap.size st d k m 100 _ L 3 [3, 200, 255] _ _ w5 hG5 rfl rfl (by decide)).mono ?_
    rintro e w6 ⟨rfl, hG6, hb6, _⟩
    have hb06 := hb05.trans hb6
    go_wp2_with fail
    refine (Open_g w.heap.size st d k m 100 _ L w6 hG6).mono ?_
    rintro e w7 ⟨st7, rfl, hT7, hG7, hf7⟩
    have hb07 := hb06.trans (hf7.below hG6.size (by simp))
    go_wp2_with fail
    refine (Get_g w.heap.size st7 d k m 100 _ L ⟨#[107]⟩ (by decide) w7 hT7).mono ?_
    rw [hgk, elS_some, stB_bs]
    rintro e w8 ⟨rfl, rfl⟩
    go_wp2_with fail
    refine (Keys_g w.heap.size st7 d k m 100 _ L w7 hT7).mono ?_
    rintro e w8 ⟨v8, rfl, hO8, hf8⟩
    obtain ⟨A8, c8, rfl, _, _, _⟩ := hO8.form
    have hl8 : (L.map fun p => stB p.1).length = 1 := by rw [List.length_map, hll]
    rw [hl8]
    clear hO8
    have hT8 := hT7.fr hf8
    have hG8 := hG7.fr hf8
    have hb08 := hb07.trans (hf8.below hG7.size (by simp))
    go_wp2_with fail
    refine (Keys_g w.heap.size st d k m 100 _ L w8 hG8).mono ?_
    rintro e w9 ⟨v9, rfl, hO9, hf9⟩
    obtain ⟨A9, c9, rfl, _, _, _⟩ := hO9.form
    rw [hl8]
    clear hO9 hl8
    have hT9 := hT8.fr hf9
    have hG9 := hG8.fr hf9
    have hb09 := hb08.trans (hf9.below hG8.size (by simp))
    go_wp2_with fail
    refine (Size_g w.heap.size st7 d k m 100 _ L w9 hT9).mono ?_
    rintro e w10 ⟨rfl, hf10⟩
    have hG10 := hG9.fr hf10
    have hb10 := hb09.trans (hf10.below hG9.size (by simp))
    go_wp2_with fail
    refine (Size_g w.heap.size st d k m 100 _ L w10 hG10).mono ?_
    rintro e w11 ⟨rfl, hf11⟩
    have hb11 := hb10.trans (hf11.below hG10.size (by simp))
    go_wp2_with fail
    go_ret
    exact ⟨rfl, hb11⟩

theorem walk (a b : ByteArray) (dr : Bool) (w : World) (_ : a.size ≤ maxLen) (_ : b.size ≤ maxLen) :
    Calls Tryz.prog 4 #[.string a, .string b, .bool dr] w fun e w' => e = .returned (.bool true) ∧ Below w.heap.size w w' := by
  by_cases ha : a.size ≤ 300
  · by_cases hb : b.size ≤ 300
    · exact main a b dr w ha hb
    · exact early2 a b dr w ha hb
  · exact early1 a b dr w ha
end Go.Proofs.YtiialjncdhhceaaGreat.storeWrites
