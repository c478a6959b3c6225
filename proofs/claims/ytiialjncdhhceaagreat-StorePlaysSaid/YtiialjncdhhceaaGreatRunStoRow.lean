/- What follows is 2 texts, one behind the other: Known15, StoRow. -/
import Derived.Test.YtiialjncdhhceaaGreatStoGood
/- What package paddocklaw15 asks of itself first ('known'): it is so. -/
namespace Go.Proofs.YtiialjncdhhceaaGreat
open Go.RowKit
set_option linter.unusedVariables false
set_option linter.unusedSimpArgs false

def wA : Wr := ⟨⟨#[97]⟩, ⟨#[49]⟩, false⟩
def wB : Wr := ⟨⟨#[98]⟩, ⟨#[50]⟩, false⟩
def wC : Wr := ⟨⟨#[97]⟩, ⟨#[]⟩, true⟩

set_option maxHeartbeats 2000000 in
set_option maxRecDepth 100000 in
theorem known15_c (w : World) : Calls Tryz.prog 10 #[] w fun e w' => e = .returned (.bool true) ∧ Below w.heap.size w w' := by
  have hL1 : applyTx [] [wA, wB, wC] = [([98], [50])] := by decide
  have hr1 : rightB [wA, wB, wC] = true := by decide
  have hr2 : rightB [] = false := by decide
  replace hL1 := hid hL1
  replace hr1 := hid hr1
  replace hr2 := hid hr2
  go_enter Tryz.func10, Tryz.ntmps10
  go_wp2_with fail
  refine (New_c 64 64 (by decide) w).mono ?_
  rintro e w1 ⟨d, k, m, rfl, hD1, hlo, hf1⟩
  have hs1 := hf1.size
  go_wp2_with fail
  refine (Make_g w.heap.size d k m 64 w1 hD1 (by decide) (by omega)).mono ?_
  rintro e w2 ⟨st, rfl, hG2, hf2⟩
  have hb2 : Below w.heap.size w w2 := (hf1.below (Nat.le_refl _) (by simp)).trans (hf2.below hs1 (by simp; omega))
  go_wp2_with fail
  refine (Do_lit w.heap.size st d k m 64 5 [] 3 [wA, wB, wC] _ _ w2 hG2 rfl rfl (by decide) hr1.out (by decide) _ hL1.out (by decide)).mono ?_
  rintro e w3 ⟨rfl, hG3, hb3⟩
  have hb03 := hb2.trans hb3
  go_wp2_with fail
  refine (Do_form_g w.heap.size st d k m 64 _ _ none 0 0 [] w3 hG3 (RW.nil _ _) hr2.out).mono ?_
  rintro e w4 ⟨rfl, hf4⟩
  have hG4 := hG3.fr hf4
  have hb04 := hb03.trans (hf4.below hG3.size (by simp))
  go_wp2_with fail
  refine (Crash_g w.heap.size st d k m 64 _ _ none 0 0 [] w4 hG4 (RB.nil _ _) (Nat.le_refl _) (by intro h; exact absurd rfl h)).mono ?_
  rintro e w5 ⟨rfl, hG5, hf5⟩
  have hlo5 := hG5.lo
  have hb05 := hb04.trans (hf5.below hG4.size (by simp; omega))
  go_wp2_with fail
  refine (Open_g w.heap.size st d k m 64 _ _ w5 hG5).mono ?_
  rintro e w6 ⟨st6, rfl, hG6, _, hf6⟩
  have hb06 := hb05.trans (hf6.below hG5.size (by simp))
  go_wp2_with fail
  refine (Get_g w.heap.size st6 d k m 64 _ _ ⟨#[98]⟩ (by decide) w6 hG6).mono ?_
  rw [show getL (bs ⟨#[98]⟩) [([98], [50])] = some [50] by decide, elS_some, show stB [50] = ⟨#[50]⟩ from rfl]
  rintro e w7 ⟨rfl, rfl⟩
  go_wp2_with fail
  refine (Get_g w.heap.size st6 d k m 64 _ _ ⟨#[97]⟩ (by decide) w6 hG6).mono ?_
  rw [show getL (bs ⟨#[97]⟩) [([98], [50])] = none by decide, elS_none]
  rintro e w7 ⟨rfl, rfl⟩
  go_wp2_with fail
  refine (New_c 20 20 (by decide) w6).mono ?_
  rintro e w7 ⟨d7, k7, m7, rfl, hD7, hlo7, hf7⟩
  have hG7 := hG6.fr hf7
  have hb07 := hb06.trans (hf7.below hG6.size (by simp))
  go_wp2_with fail
  refine (Make_small d7 k7 m7 _ w7 hD7 (by decide)).mono ?_
  rintro e w8 ⟨rfl, rfl⟩
  go_wp2_with fail
  refine (Keys_g w.heap.size st6 d k m 64 _ _ w7 hG7).mono ?_
  rintro e w8 ⟨v8, rfl, hO8, hf8⟩
  obtain ⟨A8, c8, rfl, _, _, _⟩ := hO8.form
  have hl8 : (([([98], [50])] : List KV).map fun p => stB p.1).length = 1 := rfl
  rw [hl8]
  clear hl8 hO8
  have hG8 := hG7.fr hf8
  have hb08 := hb07.trans (hf8.below hG7.size (by simp))
  go_wp2_with fail
  refine (Size_g w.heap.size st6 d k m 64 _ _ w8 hG8).mono ?_
  rw [show sizeL [([98], [50])] = 26 by decide]
  rintro e w9 ⟨rfl, hf9⟩
  have hG9 := hG8.fr hf9
  have hb09 := hb08.trans (hf9.below hG8.size (by simp))
  go_wp2_with fail
  refine (Broken_g w.heap.size st6 d k m 64 _ _ w9 hG9).mono ?_
  rintro e w10 ⟨rfl, rfl⟩
  go_wp2_with fail
  go_ret
  exact ⟨rfl, hb09⟩
end Go.Proofs.YtiialjncdhhceaaGreat

/- Rows of writes of the call's own: append. -/
namespace Go.Proofs.YtiialjncdhhceaaGreat
open Go.RowKit
set_option linter.unusedVariables false
set_option linter.unusedSimpArgs false

def txC (tx : List Wr) : List Value := tx.flatMap Wr.cells
theorem txC_length (tx : List Wr) : (txC tx).length = tx.length * 3 := by
  induction tx with
  | nil => rfl
  | cons x r ih =>
    have : txC (x :: r) = x.cells ++ txC r := rfl
    rw [this, List.length_append, ih, List.length_cons]
    have : x.cells.length = 3 := rfl
    omega
theorem txC_get (tx : List Wr) (i : Nat) (hi : i < tx.length) (q : Nat) (v : Value) (hq : tx[i].cells[q]? = some v) : (txC tx)[i * 3 + q]? = some v := by
  induction tx generalizing i with
  | nil => cases hi
  | cons x r ih =>
    have hl : x.cells.length = 3 := rfl
    have e : txC (x :: r) = x.cells ++ txC r := rfl
    rw [e]
    cases i with
    | zero =>
      have hq3 : q < 3 := (List.getElem?_eq_some_iff.1 hq).1
      rw [List.getElem?_append_left (by omega), Nat.zero_mul, Nat.zero_add]
      exact hq
    | succ i =>
      rw [List.getElem?_append_right (by omega), hl, show (i + 1) * 3 + q - 3 = i * 3 + q by omega]
      exact ih i (by simpa using hi) hq
/-- A row of writes of the call's own. -/
def OW (w : World) (base : Nat) (v : Value) (tx : List Wr) : Prop := w.ownsRow base 32 3 v tx.length (txC tx)
theorem OW.nil (w : World) (base : Nat) : OW w base (.slice none 0 0) [] := by unfold OW; exact World.ownsRow_nil _ _ _ _
theorem OW.kept {w w' : World} {base : Nat} {v : Value} {tx : List Wr} (h : OW w base v tx) {S : List Nat} (hf : Fr S w w') (hn : ∀ k, v.ownBlock = some k → k ∉ S) : OW w' base v tx := by
  refine ⟨h.1, ?_⟩
  rcases h.2 with h1 | ⟨g, cap, cur, rfl, hb, hg, rest⟩
  · exact .inl h1
  · exact .inr ⟨g, cap, cur, rfl, hb, (hf.block g (Array.getElem?_eq_some_iff.1 hg).1 (hn g rfl)).trans hg, rest⟩
theorem OW.lt {w : World} {base : Nat} {v : Value} {tx : List Wr} (h : OW w base v tx) : ∀ k, v.ownBlock = some k → base ≤ k ∧ k < w.heap.size := World.ownsRow.lt h
theorem OW.lit {w : World} {base b : Nat} {cs : Array Value} (tx : List Wr) (n : Nat) (h : w.heap[b]? = some (.cells cs 32 (0, 0))) (hcs : cs = (txC tx).toArray) (hn : tx.length = n) (hn2 : n ≤ 1000000) (hb : base ≤ b) : OW w base (.slice (some ⟨b, 0, none⟩) n n) tx := by
  subst hcs hn
  refine ⟨txC_length tx, .inr ⟨b, tx.length, _, rfl, hb, h, Nat.le_refl _, by simp only [maxLen]; omega, by simp [txC_length], ?_⟩⟩
  rw [List.take_of_length_le (by simp [txC_length])]
theorem OW.form {w : World} {base : Nat} {v : Value} {tx : List Wr} (h : OW w base v tx) : ∃ A c, v = .slice A tx.length c ∧ tx.length ≤ c ∧ RW w A tx.length tx ∧ (∀ a, A = some a → v.ownBlock = some a.block ∧ a.off = 0 ∧ a.spot = none) := by
  rcases h.2 with ⟨rfl, h0⟩ | ⟨g, cap, cur, rfl, hb, hg, hnc, hcm, hcs, htake⟩
  · have hl : tx = [] := List.eq_nil_of_length_eq_zero h0
    subst hl
    exact ⟨none, 0, rfl, Nat.le_refl _, RW.nil _ _, by simp⟩
  · refine ⟨some ⟨g, 0, none⟩, cap, rfl, hnc, ⟨rfl, by simp only [maxLen] at hcm; omega, .inr ⟨g, 0, rfl, fun j hj q v hv => ?_⟩⟩, by intro a ha; cases ha; exact ⟨rfl, rfl, rfl⟩⟩
    have hq3 : q < 3 := (List.getElem?_eq_some_iff.1 hv).1
    rw [Nat.zero_add, World.ownsRow.cellAt (by simpa [OW] using h) (j * 3 + q) (by omega)]
    exact txC_get tx j hj q v hv

section
variable {ops : Array Oper} {rest : List Oper} {o : Oper} {a : Act} {Q : Exit → Act → World → Prop}
theorem infoWr3 : (Tryz.prog.info? 32).map (fun i => (i.zero, i.size, i.bytes)) = some (some (.agg #[.string ByteArray.empty, .string ByteArray.empty, .bool false]), 3, 40) := by kernel_rfl
/-- append(v, x): one write. -/
theorem appW1 {W : World} (base : Nat) (hgd : o.guard = none) (s x : Operand)
    (ho : o.op = .call { callee := .builtin .append, args := #[s, x], argTypes := #[33, 33] })
    {v : Value} {l : List Wr} (HO : OW W base v l) (y : Wr) {cs : Array Value} (hcs : cs = y.cells.toArray) (hs : a.eval s = v) (hx : a.eval x = .slice (some ⟨W.heap.size, 0, none⟩) 1 1)
    (hbase : base ≤ W.heap.size) (hl : l.length + 1 ≤ 1000000)
    (h : ∀ v1 w1, OW w1 base v1 (l ++ [y]) → Fr v.ownBlock.toList W w1 → Nw W v v1 → wpList Tryz.prog ops Q rest (a.put o.dst v1) w1) :
    wpList Tryz.prog ops Q (o :: rest) a (W.alloc (.cells cs 32)) := by
  subst hcs
  obtain ⟨i0, hi, hz0, hz1, hz2⟩ := info_parts infoWr3
  refine wpList_append_own_at (W.alloc (.cells y.cells.toArray 32)) hgd s x 33 ho base 32 i0 _ 3 40 Tryz.underlying33 hi hz0 hz1 hz2 rfl (by omega) v l.length (txC l) hs (World.ownsRow.alloc HO _) ⟨W.heap.size, 0, none⟩ 1 1 y.cells hx rfl
    (fun j u hu => ?_) (by intro u hu; simp [Wr.cells] at hu; rcases hu with rfl | rfl | rfl <;> rfl) (by simp only [maxLen]; omega) (by omega) (by simp; omega) ?_
  · have h1 := heap_alloc_new W (.cells y.cells.toArray 32)
    rw [Addr.add_mid, Nat.zero_add]
    simp only [World.cell?, h1]
    simpa using hu
  intro v1 w1 hown hg _ hat
  refine h v1 w1 ?_ (((Fr.refl _ _).alloc _).grown hg (by intro k hk; simp [hk])) ?_
  · unfold OW
    have e : txC (l ++ [y]) = txC l ++ y.cells := by simp [txC]
    rw [e]
    simpa using hown
  · intro k hk
    rcases hat with hat | hat
    · exact .inl (hat ▸ hk)
    · rw [hat] at hk
      simp at hk
      exact .inr (by omega)
end
end Go.Proofs.YtiialjncdhhceaaGreat
