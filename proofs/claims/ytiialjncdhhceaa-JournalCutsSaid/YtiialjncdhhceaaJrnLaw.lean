/- The journal laws' own helpers: weight, texts; a slice of strings that comes in. -/
import Derived.Test.YtiialjncdhhceaaJrnReplaceNo
import Derived.Test.YtiialjncdhhceaaOpen
import Derived.Deep.Strs
import Derived.SizedLaws
namespace Go.Proofs.Ytiialjncdhhceaa
open Go.RowKit
set_option linter.unusedVariables false
set_option linter.unusedSimpArgs false

theorem weightL_lim (B : Nat) (l : List ByteArray) (hsz : ∀ r ∈ l, r.size ≤ B) (i : Nat) : weightL (l.take i) ≤ i * (B + 16) := by
  induction i with
  | zero => exact Nat.le_of_eq (by simp [weightL])
  | succ i ih =>
    rw [Nat.succ_mul]
    by_cases hi : i < l.length
    · rw [weightL_take l i hi]
      have := hsz l[i] (List.getElem_mem hi)
      omega
    · rw [List.take_of_length_le (by omega)] at ih ⊢
      omega

set_option maxRecDepth 100000 in
theorem weight_c (A : Option Addr) (n c : Nat) (l : List ByteArray) (w : World) (hR : RSs w A n l) (hsz : ∀ r ∈ l, r.size ≤ 281474976710656) (hn : n ≤ 100) :
    Calls Try.prog 54 #[.slice A n c] w fun e w' => e = .returned (.int .i64 (weightL l : Int)) ∧ w = w' := by
  have hll := hR.1
  have hbound := weightL_lim _ l hsz
  replace hbound := hid hbound
  replace hsz := hid hsz
  go_enter Try.func54, Try.ntmps54
  go_wp2_with fail
  go_loopw [3, 4] (fun nv iv wr => ∃ i : Nat, i ≤ n ∧ iv = .int .i64 i ∧ nv = .int .i64 (weightL (l.take i) : Int) ∧ wr = w) (fun _ iv _ => n - (intOf iv).toNat)
  case atStart => exact ⟨0, by omega, rfl, rfl, rfl⟩
  case round =>
    obtain ⟨i, hi, rfl, rfl, rfl⟩ := hrel
    by_cases hin : i < n
    · obtain ⟨b, off, rfl, hc⟩ := str_cell hR i hin
      have hw := weightL_take l i (by omega)
      have hb := hbound.out i
      have hs := hsz.out (l[i]'(by omega)) (List.getElem_mem _)
      generalize l[i]'(by omega) = r at *
      obtain ⟨W, hW⟩ : ∃ W, weightL (l.take i) = W := ⟨_, rfl⟩
      rw [hW] at hw hb ⊢
      have hb2 : W ≤ 28147497671067200 := by omega
      replace hW := hid hW
      replace hw := hid hw
      clear hbound hb
      go_wp2_with fail
      try go_frame
      go_roundw
      case rel => exact ⟨i + 1, by omega, rfl, by rw [hw.out]; congr 1, by trivial⟩
      case measure => simp [intOf]; omega
    · have hie : i = n := by omega
      subst hie
      rw [List.take_of_length_le (by omega)]
      clear hbound
      go_wp2_with fail
      go_ret
      exact ⟨rfl, by trivial⟩

set_option maxRecDepth 100000 in
theorem texts_same (A : Option Addr) (n c : Nat) (A2 : Option Addr) (c2 : Nat) (l : List ByteArray) (w : World) (hR : RSs w A n l) (hR2 : RSs w A2 n l) :
    Calls Try.prog 58 #[.slice A n c, .slice A2 n c2] w fun e w' => e = .returned (.bool true) ∧ Fr [] w w' := by
  have hll := hR.1
  have hnl := hR.2.1
  go_enter Try.func58, Try.ntmps58
  go_wp2_with fail
  go_loopw [5] (fun iv wr => ∃ i : Nat, i ≤ n ∧ iv = .int .i64 i ∧ Fr [] w wr) (fun iv _ => n - (intOf iv).toNat)
  case atStart => exact ⟨0, by omega, rfl, Fr.refl _ _⟩
  case round =>
    obtain ⟨i, hi, rfl, hfr⟩ := hrel
    by_cases hin : i < n
    · obtain ⟨b, off, rfl, hc⟩ := str_cell (hR.fr hfr) i hin
      obtain ⟨b2, off2, rfl, hc2⟩ := str_cell (hR2.fr hfr) i hin
      generalize l[i]'(by omega) = r at *
      go_wp2_with fail
      refine wp_region_text' (by kernel_rfl) (by kernel_rfl) ?_
      intro K hK
      have hcd : wr.drew.cell? ⟨b, off + i, none⟩ = _ := hc
      have hcd2 : wr.drew.cell? ⟨b2, off2 + i, none⟩ = _ := hc2
      go_wp2_with fail
      refine hK _ _ (by kernel_rfl) ?_
      go_wp2_with fail
      try go_frame
      go_roundw
      case rel => exact ⟨i + 1, by omega, rfl, hfr.drew⟩
      case measure => simp [intOf]; omega
    · have hie : i = n := by omega
      subst hie
      go_wp2_with fail
      go_ret
      exact ⟨rfl, hfr⟩

/-- A slice of strings that comes in: it reads as a list of them, each within the form's reach. -/
theorem weightsAll_mem {H : Type} {P : Program} {e : TypeId} {L : List (DataW H)} {d : DataW H} (hd : d ∈ L) {n : Nat} (hn : n ∈ d.weights P e) : n ∈ DataW.weightsAll P e L := by
  induction L with
  | nil => cases hd
  | cons x L ih =>
    simp only [DataW.weightsAll, List.mem_append]
    rcases List.mem_cons.1 hd with rfl | h
    · exact .inl hn
    · exact .inr (ih h)
theorem open_strs_rs {H : Type} {enc : TypeId × Value → H} {P : Program} {W : World} {a0 : Option Addr} {len cap : Nat} {d : DataW H} {p : List MemPlace} {t e : TypeId}
    (ht : P.underlying t = some (.slice e)) (he : P.underlying e = some .string) (hc : P.cellsOf e = 1)
    (h : DataW.Trod enc P W 0 (fun _ => true) true t (.slice a0 len cap) d p) (hz : ∀ x ∈ d.weights P t, x ≤ reachBytes) : ∃ l, RSs W a0 len l ∧ (len ≤ cap ∧ ∀ r ∈ l, r.size ≤ 281474976710656) := by
  obtain ⟨fuel, hf⟩ := h
  rcases Go.Deep.open_strs ht he hc hf with ⟨hcs, _⟩ | ⟨a, len', cap', m, Sx, hcs, _, hl, hm, hmm, hx, hcell⟩
  · simp [Value.cells] at hcs
    obtain ⟨rfl, rfl, rfl⟩ := hcs
    exact ⟨[], RSs.nil _ _, Nat.le_refl _, by simp⟩
  · simp [Value.cells] at hcs
    obtain ⟨rfl, rfl, rfl⟩ := hcs
    simp only [if_true] at hmm
    subst hmm
    obtain ⟨rfl, _⟩ := Prod.mk.inj hx
    refine ⟨(List.range len).map Sx, ⟨by simp, by simp only [maxLen] at hm; omega, ?_⟩, hl, ?_⟩
    · rcases Nat.eq_zero_or_pos len with h0 | h0
      · exact .inl h0
      · obtain ⟨b, off, sp⟩ := a
        have hc0 := (hcell 0 (by omega)).1
        have hsp : sp = none := by simpa [Addr.add] using World.cell?_spot hc0
        subst hsp
        refine .inr ⟨b, off, rfl, fun j hj => ?_⟩
        have hj' : j < len := by simpa using hj
        have hcj := (hcell j (by omega)).1
        rw [Addr.add_lit] at hcj
        rw [hcj]
        simp
    · intro r hr
      obtain ⟨i, hi, rfl⟩ := List.mem_map.1 hr
      have h1 := hz (Sx i).data.toList.length (by
        simp only [DataW.weights, ht, List.mem_cons, List.mem_append]
        exact .inr (.inl (weightsAll_mem (d := .lit (.string (Sx i).data.toList)) (List.mem_map.2 ⟨i, hi, rfl⟩) (by simp [DataW.weights]))))
      have h2 := reachBytes_lt
      rw [Array.length_toList] at h1
      have h3 : (Sx i).size = (Sx i).data.size := rfl
      omega
end Go.Proofs.Ytiialjncdhhceaa
