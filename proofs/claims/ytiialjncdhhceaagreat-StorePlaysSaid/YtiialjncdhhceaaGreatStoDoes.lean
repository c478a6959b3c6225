/- A transaction's writes: put, drop, does, right. -/
import Derived.Test.YtiialjncdhhceaaGreatRunStoBase
namespace Go.Proofs.YtiialjncdhhceaaGreat
open Go.RowKit
set_option linter.unusedVariables false
set_option linter.unusedSimpArgs false

/-- A write of a transaction. -/
structure Wr where
  key : ByteArray
  b : ByteArray
  drop : Bool
def Wr.cells (x : Wr) : List Value := [.string x.key, .string x.b, .bool x.drop]
def Wr.val (x : Wr) : Value := .agg #[.string x.key, .string x.b, .bool x.drop]
def Wr.ln (x : Wr) : Ln := ⟨if x.drop then 68 else 80, x.key, x.b⟩
/-- May it be? -/
def Wr.ok (x : Wr) : Bool := decide (1 ≤ x.key.size) && decide (x.key.size ≤ 20) && decide (x.b.size ≤ 6000) && (!x.drop || decide (x.b.size = 0))
/-- A slice of n writes reads as tx. -/
def RW (w : World) (A : Option Addr) (n : Nat) (tx : List Wr) : Prop := tx.length = n ∧ n ≤ 9223372036854775807 ∧ (n = 0 ∨ ∃ b off, A = some ⟨b, off, none⟩ ∧ ∀ j (h : j < tx.length), w.rangeAt b (off + j * 3) tx[j].cells)
theorem RW.kept' {w w' : World} {A : Option Addr} {n : Nat} {tx : List Wr} (h : RW w A n tx) {S : List Nat} (hf : Fr S w w') (hn : n ≠ 0 → ∀ a, A = some a → a.block ∉ S) : RW w' A n tx := by
  obtain ⟨h1, h2, h3⟩ := h
  refine ⟨h1, h2, ?_⟩
  rcases h3 with h3 | ⟨b, off, rfl, hc⟩
  · exact .inl h3
  · by_cases h0 : n = 0
    · exact .inl h0
    · refine .inr ⟨b, off, rfl, fun j hj q v hv => hf.cell (hc j hj q v hv) (hn h0 ⟨b, off, none⟩ rfl)⟩
theorem RW.fr {w w' : World} {A : Option Addr} {n : Nat} {tx : List Wr} (h : RW w A n tx) (hf : Fr [] w w') : RW w' A n tx := h.kept' hf (by simp)
theorem RW.lt {w : World} {A : Option Addr} {n : Nat} {tx : List Wr} (h : RW w A n tx) (hn : n ≠ 0) : ∀ a, A = some a → a.block < w.heap.size := by
  intro a ha
  rcases h.2.2 with h0 | ⟨b, off, rfl, hc⟩
  · exact absurd h0 hn
  · cases ha
    exact World.block_lt_of_cell? w ⟨b, off + 0 * 3 + 0, none⟩ (hc 0 (by rw [h.1]; omega) 0 _ rfl)
theorem RW.nil (w : World) (A : Option Addr) : RW w A 0 [] := ⟨rfl, by omega, .inl rfl⟩
theorem RW.at {w : World} {A : Option Addr} {n : Nat} {tx : List Wr} (h : RW w A n tx) (i : Nat) (hi : i < n) : ∃ b off, A = some ⟨b, off, none⟩ ∧ w.rangeAt b (off + i * 3) (tx[i]'(by rw [h.1]; exact hi)).cells := by
  rcases h.2.2 with h0 | ⟨b, off, hA, hc⟩
  · omega
  · exact ⟨b, off, hA, hc i (by rw [h.1]; exact hi)⟩
theorem infoWr : (Tryz.prog.info? 32).map (fun i => (i.zero, i.size)) = some (some (.agg #[.string ByteArray.empty, .string ByteArray.empty, .bool false]), 3) := by kernel_rfl

set_option maxRecDepth 100000 in
theorem put_c (st d j mp : Nat) (L : List KV) (x : Wr) (w : World) (hs : w.heap[st]? = some (.cells (sCells d j mp) 61 (0, 0))) (hM : MapS w mp L) (hn : L.length ≤ 1000000) (hk : x.key.size ≤ 1000000000000000) (hb : x.b.size ≤ 1000000000000000) :
    Calls Tryz.prog 48 #[.pointer (some ⟨st, 0, none⟩), x.val] w fun e w' => e = .returned (.tuple #[]) ∧ MapS w' mp (putL (bs x.key) (bs x.b) L) ∧ Fr [mp] w w' := by
  obtain ⟨key, b, drop⟩ := x
  simp only [Wr.val]
  dsimp only at hk hb
  have hml := hM.lt
  go_enter Tryz.func48, Tryz.ntmps48
  go_wp2_with (first | (with_reducible refine stopS_mu rfl ?_))
  have hf1 : Fr [] w (w.alloc (.cells #[.string key, .string b, .bool drop] 32)) := (Fr.refl [] w).alloc _
  have hg : (w.alloc (.cells #[.string key, .string b, .bool drop] 32)).heap[w.heap.size]? = some (.cells #[.string key, .string b, .bool drop] 32 (0, 0)) := heap_alloc_new _ _
  generalize w.alloc (.cells #[.string key, .string b, .bool drop] 32) = w1 at *
  refine wp_region_text' (by kernel_rfl) (by kernel_rfl) ?_
  intro K hK
  have hfd : Fr [] w w1.drew := hf1.drew
  have hgd : w1.drew.heap[w.heap.size]? = some (.cells #[.string key, .string b, .bool drop] 32 (0, 0)) := hg
  generalize w1.drew = w2 at *
  have hs2 := (hfd.block st (Array.getElem?_eq_some_iff.1 hs).1 (by simp)).trans hs
  have c2 : w2.cell? ⟨st, 2, none⟩ = some (.map (some mp)) := cell_of_row _ _ 2 _ _ _ hs2
  have k0 : w2.cell? ⟨w.heap.size, 0, none⟩ = some (.string key) := cell_of_row _ _ 0 _ _ _ hgd
  have k1 : w2.cell? ⟨w.heap.size, 1, none⟩ = some (.string b) := cell_of_row _ _ 1 _ _ _ hgd
  have hM2 := hM.fr hfd
  clear hg hf1 hgd hs2
  go_wp2_with (first | (with_reducible refine stopS_mu rfl ?_))
  refine Stop.go (mu_str rfl rfl rfl rfl rfl hM2 (by omega) hk hb ?_)
  intro w3 hM3 hf3
  go_wp2_with (first | (with_reducible refine stopS_mu rfl ?_))
  refine hK _ _ (by kernel_rfl) ?_
  go_wp2_with fail
  go_end0
  exact ⟨rfl, hM3, (hfd.mono (by simp)).trans hf3 (by simp)⟩

set_option maxRecDepth 100000 in
theorem drop_c (st d j mp : Nat) (L : List KV) (x : Wr) (w : World) (hs : w.heap[st]? = some (.cells (sCells d j mp) 61 (0, 0))) (hM : MapS w mp L) (hn : L.length ≤ 1000000) (hk : x.key.size ≤ 1000000000000000) :
    Calls Tryz.prog 49 #[.pointer (some ⟨st, 0, none⟩), x.val] w fun e w' => e = .returned (.tuple #[]) ∧ MapS w' mp (delL (bs x.key) L) ∧ Fr [mp] w w' := by
  obtain ⟨key, b, drop⟩ := x
  simp only [Wr.val]
  dsimp only at hk
  have hml := hM.lt
  go_enter Tryz.func49, Tryz.ntmps49
  go_wp2_with (at_builtin; refine stop_append rfl ?_)
  have hf1 : Fr [] w (w.alloc (.cells #[.string key, .string b, .bool drop] 32)) := (Fr.refl [] w).alloc _
  have hg : (w.alloc (.cells #[.string key, .string b, .bool drop] 32)).heap[w.heap.size]? = some (.cells #[.string key, .string b, .bool drop] 32 (0, 0)) := heap_alloc_new _ _
  generalize w.alloc (.cells #[.string key, .string b, .bool drop] 32) = w1 at *
  refine wp_region_text' (by kernel_rfl) (by kernel_rfl) ?_
  intro K hK
  have hfd : Fr [] w w1.drew := hf1.drew
  have hgd : w1.drew.heap[w.heap.size]? = some (.cells #[.string key, .string b, .bool drop] 32 (0, 0)) := hg
  generalize w1.drew = w2 at *
  have hs2 := (hfd.block st (Array.getElem?_eq_some_iff.1 hs).1 (by simp)).trans hs
  have c2 : w2.cell? ⟨st, 2, none⟩ = some (.map (some mp)) := cell_of_row _ _ 2 _ _ _ hs2
  have k0 : w2.cell? ⟨w.heap.size, 0, none⟩ = some (.string key) := cell_of_row _ _ 0 _ _ _ hgd
  have hM2 := hM.fr hfd
  clear hg hf1 hgd hs2
  go_wp2_with (first | (with_reducible refine stopS_de rfl ?_))
  refine Stop.go (de_str rfl rfl rfl rfl hM2 hk ?_)
  intro w3 hM3 hf3
  go_wp2_with (first | (with_reducible refine stopS_de rfl ?_))
  refine hK _ _ (by kernel_rfl) ?_
  go_wp2_with fail
  go_end0
  exact ⟨rfl, hM3, (hfd.mono (by simp)).trans hf3 (by simp)⟩

/-- What a transaction does to the rows; its record's lines. -/
def applyW (L : List KV) (x : Wr) : List KV := doLn L x.ln
theorem apply_drop (L : List KV) (x : Wr) (h : x.drop = true) : applyW L x = delL (bs x.key) L := by
  unfold applyW doLn Wr.ln
  simp only [h, if_true]
  rw [if_neg (by decide)]
theorem apply_put (L : List KV) (x : Wr) (h : x.drop = false) : applyW L x = putL (bs x.key) (bs x.b) L := by
  unfold applyW doLn Wr.ln
  simp only [h, Bool.false_eq_true, if_false]
  rw [if_neg (by decide), if_neg (by decide)]
theorem encL_take (l : List Ln) (i : Nat) (h : i < l.length) : encL (l.take (i + 1)) = encL (l.take i) ++ l[i].enc := by
  rw [List.take_add_one, List.getElem?_eq_getElem h, encL_append]
  simp [encL]
theorem doAll_take (L : List KV) (l : List Ln) (i : Nat) (h : i < l.length) : doAll L (l.take (i + 1)) = doLn (doAll L (l.take i)) l[i] := by
  rw [List.take_add_one, List.getElem?_eq_getElem h, doAll_append]
  simp [doAll]
theorem encL_take_le (l : List Ln) (N : Nat) (h : ∀ x ∈ l, x.enc.length ≤ N) (i : Nat) : (encL (l.take i)).length ≤ i * N := by
  induction i with
  | zero => simp [encL]
  | succ i ih =>
    rw [Nat.succ_mul]
    by_cases hi : i < l.length
    · rw [encL_take l i hi, List.length_append]
      have := h _ (List.getElem_mem hi)
      omega
    · rw [List.take_of_length_le (by omega)]
      rw [List.take_of_length_le (by omega)] at ih
      omega

set_option maxHeartbeats 2000000 in
set_option maxRecDepth 100000 in
theorem does_c (st d j mp : Nat) (L : List KV) (A : Option Addr) (n c : Nat) (tx : List Wr) (w : World) (hs : w.heap[st]? = some (.cells (sCells d j mp) 61 (0, 0))) (hM : MapS w mp L) (hR : RW w A n tx) (hA : n ≠ 0 → ∀ a, A = some a → a.block ≠ mp)
    (hstm : st ≠ mp) (hL : L.length ≤ 1000) (hn : n ≤ 100) (hk : ∀ x ∈ tx, x.key.size ≤ 20 ∧ x.b.size ≤ 6000) :
    Calls Tryz.prog 30 #[.pointer (some ⟨st, 0, none⟩), .slice A n c] w fun e w' => ∃ v, e = .returned v ∧ OB w' w.heap.size 5 v (encL (tx.map Wr.ln)) ∧ MapS w' mp (doAll L (tx.map Wr.ln)) ∧ Fr [mp] w w' := by
  have hln := hR.1
  have hlen : (tx.map Wr.ln).length = n := by rw [List.length_map, hln]
  have hlim : ∀ x ∈ tx.map Wr.ln, x.enc.length ≤ 6025 := by
    intro x hx
    obtain ⟨y, hy, rfl⟩ := List.mem_map.1 hx
    have := hk y hy
    rw [enc_length]
    simp only [Wr.ln]
    omega
  have hlm := hid (encL_take_le _ 6025 hlim)
  have hdl := hid (fun i => doAll_length L ((tx.map Wr.ln).take i))
  have hml := hM.lt
  have hsl : st < w.heap.size := (Array.getElem?_eq_some_iff.1 hs).1
  replace hlim := hid hlim
  go_enter Tryz.func30, Tryz.ntmps30
  go_wp2_with fail
  go_loopw [5, 12] (fun bv iv wr => ∃ i : Nat, i ≤ n ∧ iv = .int .i64 i ∧ OB wr w.heap.size 5 bv (encL ((tx.map Wr.ln).take i)) ∧ MapS wr mp (doAll L ((tx.map Wr.ln).take i)) ∧ Fr [mp] w wr) (fun _ iv _ => n - (intOf iv).toNat)
  case atStart => exact ⟨0, by omega, rfl, OB.nil _ _ _, hM, Fr.refl _ _⟩
  case round =>
    obtain ⟨i, hi, rfl, hO, hMr, hfr⟩ := hrel
    by_cases hin : i < n
    · have hx := hk (tx[i]'(by omega)) (List.getElem_mem _)
      obtain ⟨b, off, rfl, hr⟩ := (hR.kept' hfr (by simpa using hA)).at i hin
      have hnm := hA (by omega) _ rfl
      have he := hid (encL_take (tx.map Wr.ln) i (by omega))
      have hd := hid (doAll_take L (tx.map Wr.ln) i (by omega))
      rw [List.getElem_map] at he hd
      have hlm1 := hlm.out i
      have hdl1 := hdl.out i
      rw [List.length_take] at hdl1
      have hlm2 : (encL ((tx.map Wr.ln).take i)).length ≤ 1000000 := by
        have : i * 6025 ≤ 100 * 6025 := Nat.mul_le_mul_right _ (by omega)
        omega
      have hdl2 : (doAll L ((tx.map Wr.ln).take i)).length ≤ 2000 := by omega
      clear hlm1 hdl1
      generalize tx[i]'(by omega) = x at *
      obtain ⟨T1, hT1⟩ : ∃ T1, (tx.map Wr.ln).take (i + 1) = T1 := ⟨_, rfl⟩
      rw [hT1] at he hd
      replace hT1 := hid hT1
      generalize (tx.map Wr.ln).take i = T0 at *
      go_wp2_with (first | (with_reducible refine stop_ld2 32 rfl ?_) | (with_reducible refine stop_al2 32 rfl ?_) | (with_reducible refine stop_st2 32 rfl ?_) | (at_builtin; refine stop_append rfl ?_))
      refine Stop.go (ld_arr 32 x.cells _ Tryz.underlying32 rfl (zero_of_info infoWr).2 rfl rfl b (off + i * 3) rfl hr ?_)
      go_wp2_with (first | (with_reducible refine stop_ld2 32 rfl ?_) | (with_reducible refine stop_al2 32 rfl ?_) | (with_reducible refine stop_st2 32 rfl ?_) | (at_builtin; refine stop_append rfl ?_))
      refine Stop.go (al_arr 32 infoWr rfl rfl ?_)
      intro w4 hb4 hs4 hf4
      obtain ⟨sb, hsb⟩ : ∃ sb, sb = wr.heap.size := ⟨_, rfl⟩
      rw [← hsb] at hb4 hs4
      rw [← hsb]
      replace hsb := hid hsb
      have hsbge : wr.heap.size ≤ sb := by rw [hsb.out]; exact Nat.le_refl _
      go_wp2_with (first | (with_reducible refine stop_ld2 32 rfl ?_) | (with_reducible refine stop_al2 32 rfl ?_) | (with_reducible refine stop_st2 32 rfl ?_) | (at_builtin; refine stop_append rfl ?_))
      refine Stop.go (st_arr 32 x.cells (zero_of_info infoWr).2 (by intro v hv; simp [Wr.cells] at hv; rcases hv with rfl | rfl | rfl <;> rfl) rfl rfl sb 0 rfl rfl (there_of_block hb4 (by simp [Wr.cells])) ?_)
      intro w7 hw7 hr7 hf7
      clear hw7 hb4
      have hws := hfr.size
      have hfr7 : Fr [] wr w7 := hf4.trans hf7 (by intro z hz; simp at hz; right; omega)
      have hO7 := hO.kept hfr7 (by simp)
      have hM7 := hMr.fr hfr7
      have hs7 := (hfr7.block st (by omega) (by simp)).trans ((hfr.block st hsl (by simp; omega)).trans hs)
      have hOlt := hO.lt
      have e2 : w7.cell? ⟨sb, 2, none⟩ = some (.bool x.drop) := hr7 2 _ rfl
      clear hr hf4 hf7 hs4
      cases hdr : x.drop with
      | false =>
        rw [hdr] at e2
        go_wp2_with (first | (with_reducible refine stop_ld2 32 rfl ?_) | (with_reducible refine stop_al2 32 rfl ?_) | (with_reducible refine stop_st2 32 rfl ?_) | (at_builtin; refine stop_append rfl ?_))
        refine Stop.go (ld_arr 32 x.cells _ Tryz.underlying32 rfl (zero_of_info infoWr).2 rfl rfl sb 0 rfl hr7 ?_)
        go_wp2_with (first | (with_reducible refine stop_ld2 32 rfl ?_) | (with_reducible refine stop_al2 32 rfl ?_) | (with_reducible refine stop_st2 32 rfl ?_) | (at_builtin; refine stop_append rfl ?_))
        refine (put_c st d j mp (doAll L T0) x w7 hs7 hM7 (by omega) (by omega) (by omega)).mono ?_
        rintro e w8 ⟨rfl, hM8, hf8⟩
        rw [← apply_put _ _ hdr] at hM8
        have hO8 := hO7.kept hf8 (fun z hz => by have := (hO7.lt z hz).1; simp; omega)
        have k0 : w8.cell? ⟨sb, 0, none⟩ = some (.string x.key) := hf8.cell (hr7 0 _ rfl) (by simp; omega)
        have k1 : w8.cell? ⟨sb, 1, none⟩ = some (.string x.b) := hf8.cell (hr7 1 _ rfl) (by simp; omega)
        have hf08 : Fr [mp] w w8 := (hfr.trans hfr7 (by simp)).trans hf8 (by simp)
        have hz8 := hf08.size
        clear hr7 hs7
        go_wp2_with (first | (with_reducible refine stop_ld2 32 rfl ?_) | (with_reducible refine stop_al2 32 rfl ?_) | (with_reducible refine stop_st2 32 rfl ?_) | (at_builtin; refine stop_append rfl ?_))
        refine (line_c w.heap.size _ _ ⟨80, x.key, x.b⟩ (by show x.key.size ≤ 65535; omega) (by show x.b.size ≤ 65535; omega) w8 hO8 (by omega) (by omega)).mono ?_
        rintro e w9 ⟨v9, rfl, hO9, hf9, hn9⟩
        have hln : x.ln = ⟨80, x.key, x.b⟩ := by simp [Wr.ln, hdr]
        rw [← hln, ← he.out] at hO9
        have hmp9 := hM8.kept hf9 (fun h => by have := (hO8.lt mp (by simpa using h)).1; omega)
        have hf09 : Fr [mp] w w9 := hf08.trans hf9 (fun z hz => by right; exact (hO8.lt z (by simpa using hz)).1)
        clear k0 k1
        go_wp2_with (first | (with_reducible refine stop_ld2 32 rfl ?_) | (with_reducible refine stop_al2 32 rfl ?_) | (with_reducible refine stop_st2 32 rfl ?_) | (at_builtin; refine stop_append rfl ?_))
        try go_frame
        go_roundw
        case rel => exact ⟨i + 1, by omega, rfl, by rw [hT1.out]; exact hO9, by rw [hT1.out, hd.out]; exact hmp9, hf09⟩
        case measure => simp [intOf]; omega
      | true =>
        rw [hdr] at e2
        go_wp2_with (first | (with_reducible refine stop_ld2 32 rfl ?_) | (with_reducible refine stop_al2 32 rfl ?_) | (with_reducible refine stop_st2 32 rfl ?_) | (at_builtin; refine stop_append rfl ?_))
        refine Stop.go (ld_arr 32 x.cells _ Tryz.underlying32 rfl (zero_of_info infoWr).2 rfl rfl sb 0 rfl hr7 ?_)
        go_wp2_with (first | (with_reducible refine stop_ld2 32 rfl ?_) | (with_reducible refine stop_al2 32 rfl ?_) | (with_reducible refine stop_st2 32 rfl ?_) | (at_builtin; refine stop_append rfl ?_))
        refine (drop_c st d j mp (doAll L T0) x w7 hs7 hM7 (by omega) (by omega)).mono ?_
        rintro e w8 ⟨rfl, hM8, hf8⟩
        rw [← apply_drop _ _ hdr] at hM8
        have hO8 := hO7.kept hf8 (fun z hz => by have := (hO7.lt z hz).1; simp; omega)
        have k0 : w8.cell? ⟨sb, 0, none⟩ = some (.string x.key) := hf8.cell (hr7 0 _ rfl) (by simp; omega)
        have k1 : w8.cell? ⟨sb, 1, none⟩ = some (.string x.b) := hf8.cell (hr7 1 _ rfl) (by simp; omega)
        have hf08 : Fr [mp] w w8 := (hfr.trans hfr7 (by simp)).trans hf8 (by simp)
        have hz8 := hf08.size
        clear hr7 hs7
        go_wp2_with (first | (with_reducible refine stop_ld2 32 rfl ?_) | (with_reducible refine stop_al2 32 rfl ?_) | (with_reducible refine stop_st2 32 rfl ?_) | (at_builtin; refine stop_append rfl ?_))
        refine (line_c w.heap.size _ _ ⟨68, x.key, x.b⟩ (by show x.key.size ≤ 65535; omega) (by show x.b.size ≤ 65535; omega) w8 hO8 (by omega) (by omega)).mono ?_
        rintro e w9 ⟨v9, rfl, hO9, hf9, hn9⟩
        have hln : x.ln = ⟨68, x.key, x.b⟩ := by simp [Wr.ln, hdr]
        rw [← hln, ← he.out] at hO9
        have hmp9 := hM8.kept hf9 (fun h => by have := (hO8.lt mp (by simpa using h)).1; omega)
        have hf09 : Fr [mp] w w9 := hf08.trans hf9 (fun z hz => by right; exact (hO8.lt z (by simpa using hz)).1)
        clear k0 k1
        go_wp2_with (first | (with_reducible refine stop_ld2 32 rfl ?_) | (with_reducible refine stop_al2 32 rfl ?_) | (with_reducible refine stop_st2 32 rfl ?_) | (at_builtin; refine stop_append rfl ?_))
        try go_frame
        go_roundw
        case rel => exact ⟨i + 1, by omega, rfl, by rw [hT1.out]; exact hO9, by rw [hT1.out, hd.out]; exact hmp9, hf09⟩
        case measure => simp [intOf]; omega
    · have hie : i = n := by omega
      subst hie
      rw [List.take_of_length_le (by omega)] at hO hMr
      go_wp2_with fail
      go_ret
      exact ⟨_, rfl, hO, hMr, hfr⟩
end Go.Proofs.YtiialjncdhhceaaGreat
