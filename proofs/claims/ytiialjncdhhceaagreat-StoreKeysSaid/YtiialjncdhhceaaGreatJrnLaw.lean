/- The journal laws' own helpers: weight, texts; a slice of strings that comes in. -/
import Derived.Test.YtiialjncdhhceaaGreatJrnReplaceNo
import Derived.Test.YtiialjncdhhceaaGreatOpen
import Derived.Deep.Strs
import Derived.SizedLaws
namespace Go.Proofs.YtiialjncdhhceaaGreat
open Go.RowKit
set_option linter.unusedVariables false
set_option linter.unusedSimpArgs false

theorem weightL_lim (B : Nat) (l : List ByteArray) (hsz : ∀ r ∈ l, r.size ≤ B) (i : Nat) : weightL (l.take i) ≤ i * (B + 16) := by
  induction i with
  | zero => exact Nat.le_of_eq (by simp [weightL])
  | succ i ih =>
    rw [Nat.succ_mul]
    by_cases hi : i < l.length
    · rw [weightL_take l i hi]
      have := hsz l[i] (List.getElem_mem hi)
      omega
    · rw [List.take_of_length_le (by omega)] at ih ⊢
      omega

/-- A slice of strings that comes in: it reads as a list of them, each within the form's reach. -/
theorem weightsAll_mem {H : Type} {P : Program} {e : TypeId} {L : List (DataW H)} {d : DataW H} (hd : d ∈ L) {n : Nat} (hn : n ∈ d.weights P e) : n ∈ DataW.weightsAll P e L := by
  induction L with
  | nil => cases hd
  | cons x L ih =>
    simp only [DataW.weightsAll, List.mem_append]
    rcases List.mem_cons.1 hd with rfl | h
    · exact .inl hn
    · exact .inr (ih h)
theorem open_strs_rs {H : Type} {enc : TypeId × Value → H} {P : Program} {W : World} {a0 : Option Addr} {len cap : Nat} {d : DataW H} {p : List MemPlace} {t e : TypeId}
    (ht : P.underlying t = some (.slice e)) (he : P.underlying e = some .string) (hc : P.cellsOf e = 1)
    (h : DataW.Trod enc P W 0 (fun _ => true) true t (.slice a0 len cap) d p) (hz : ∀ x ∈ d.weights P t, x ≤ reachBytes) : ∃ l, RSs W a0 len l ∧ (len ≤ cap ∧ ∀ r ∈ l, r.size ≤ 281474976710656) := by
  obtain ⟨fuel, hf⟩ := h
  rcases Go.Deep.open_strs ht he hc hf with ⟨hcs, _⟩ | ⟨a, len', cap', m, Sx, hcs, _, hl, hm, hmm, hx, hcell⟩
  · simp [Value.cells] at hcs
    obtain ⟨rfl, rfl, rfl⟩ := hcs
    exact ⟨[], RSs.nil _ _, Nat.le_refl _, by simp⟩
  · simp [Value.cells] at hcs
    obtain ⟨rfl, rfl, rfl⟩ := hcs
    simp only [if_true] at hmm
    subst hmm
    obtain ⟨rfl, _⟩ := Prod.mk.inj hx
    refine ⟨(List.range len).map Sx, ⟨by simp, by simp only [maxLen] at hm; omega, ?_⟩, hl, ?_⟩
    · rcases Nat.eq_zero_or_pos len with h0 | h0
      · exact .inl h0
      · obtain ⟨b, off, sp⟩ := a
        have hc0 := (hcell 0 (by omega)).1
        have hsp : sp = none := by simpa [Addr.add] using World.cell?_spot hc0
        subst hsp
        refine .inr ⟨b, off, rfl, fun j hj => ?_⟩
        have hj' : j < len := by simpa using hj
        have hcj := (hcell j (by omega)).1
        rw [Addr.add_lit] at hcj
        rw [hcj]
        simp
    · intro r hr
      obtain ⟨i, hi, rfl⟩ := List.mem_map.1 hr
      have h1 := hz (Sx i).data.toList.length (by
        simp only [DataW.weights, ht, List.mem_cons, List.mem_append]
        exact .inr (.inl (weightsAll_mem (d := .lit (.string (Sx i).data.toList)) (List.mem_map.2 ⟨i, hi, rfl⟩) (by simp [DataW.weights]))))
      have h2 := reachBytes_lt
      rw [Array.length_toList] at h1
      have h3 : (Sx i).size = (Sx i).data.size := rfl
      omega
end Go.Proofs.YtiialjncdhhceaaGreat
