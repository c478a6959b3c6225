/- Arguments as they come in, in the words of this seat's walks. -/
import Derived.Test.YtiialjncdhhceaaBase
import Derived.ProofKit
import Derived.OpenShut
import Derived.ShutString
import Derived.ChangeOld
import Derived.Below
namespace Go.Proofs.Ytiialjncdhhceaa
open Go.ChangeShapes Go.WideShapes Go.ChangeAt Go.RowKit
open Go.ChangeMaps (open_string shut_string)
set_option linter.unusedVariables false

/-- A slice of n whole numbers reads as l. -/
def RN (w : World) (k : IntKind) (A : Option Addr) (n : Nat) (l : List Int) : Prop :=
  l.length = n ∧ n ≤ 9223372036854775807 ∧ (∀ x ∈ l, (Lit.int k x).wf = true) ∧ (n = 0 ∨ ∃ b off, A = some ⟨b, off, none⟩ ∧ ∀ j (h : j < l.length), w.cell? ⟨b, off + j, none⟩ = some (.int k l[j]))

theorem RN.below {w w' : World} {k : IntKind} {A : Option Addr} {n : Nat} {l : List Int} (h : RN w k A n l) (hb : Below w.heap.size w w') : RN w' k A n l := by
  obtain ⟨h1, h2, h3, h4⟩ := h
  refine ⟨h1, h2, h3, ?_⟩
  rcases h4 with h4 | ⟨b, off, rfl, hc⟩
  · exact .inl h4
  · exact .inr ⟨b, off, rfl, fun j hj => (fr_of_below hb).cell (hc j hj) (by simp)⟩

theorem open_nums {H : Type} {enc : TypeId × Value → H} {P : Program} {W : World} {a0 : Option Addr} {len cap : Nat} {d : DataW H} {p : List MemPlace} {t e : TypeId} {k : IntKind}
    (ht : P.underlying t = some (.slice e)) (he : P.underlying e = some (.int k)) (hc : P.cellsOf e = 1)
    (h : DataW.Trod enc P W 0 (fun _ => true) true t (.slice a0 len cap) d p) : ∃ l, RN W k a0 len l ∧ len ≤ cap := by
  obtain ⟨fuel, hf⟩ := h
  rcases open_ints ht he hc hf with ⟨hcs, _⟩ | ⟨x, l, c, zs, hcs, _, hl, hm, hz, _, hcell, hwz⟩
  · simp [Value.cells] at hcs
    obtain ⟨rfl, rfl, rfl⟩ := hcs
    exact ⟨[], ⟨rfl, by omega, by simp, .inl rfl⟩, Nat.le_refl _⟩
  · simp [Value.cells] at hcs
    obtain ⟨rfl, rfl, rfl⟩ := hcs
    have hz' : zs.length = cap := by simpa using hz
    refine ⟨zs.take len, ⟨by rw [List.length_take]; omega, by simp only [maxLen] at hm; omega, fun y hy => hwz y (List.mem_of_mem_take hy), ?_⟩, hl⟩
    rcases Nat.eq_zero_or_pos len with h0 | h0
    · exact .inl h0
    · obtain ⟨b, off, sp⟩ := x
      have hc0 := hcell 0 (by omega)
      have hsp : sp = none := by simpa [Addr.add] using World.cell?_spot hc0
      subst hsp
      refine .inr ⟨b, off, rfl, fun j hj => ?_⟩
      rw [List.length_take] at hj
      have hcj := hcell j (by omega)
      rw [Addr.add_lit] at hcj
      rw [hcj, List.getElem_take, List.getD_eq_getElem?_getD, List.getElem?_eq_getElem (by omega)]
      rfl

theorem rb_of_rn {W : World} {A : Option Addr} {n : Nat} {l : List Int} (h : RN W .u8 A n l) : RB W A n (l.map fun x => UInt8.ofNat x.toNat) := by
  obtain ⟨h1, h2, h3, h4⟩ := h
  refine ⟨by simpa using h1, h2, ?_⟩
  rcases h4 with h4 | ⟨b, off, rfl, hc⟩
  · exact .inl h4
  · refine .inr ⟨b, off, rfl, fun j hj => ?_⟩
    have hj' : j < l.length := by simpa using hj
    rw [hc j hj']
    have hw := h3 l[j] (List.getElem_mem hj')
    have hx : 0 ≤ l[j] ∧ l[j] ≤ 255 := by simpa [Lit.wf, IntKind.min, IntKind.max, IntKind.signed, IntKind.bits] using hw
    rw [List.getElem_map, UInt8.toNat_ofNat']
    congr 2
    omega

theorem open_bytes {H : Type} {enc : TypeId × Value → H} {P : Program} {W : World} {a0 : Option Addr} {len cap : Nat} {d : DataW H} {p : List MemPlace} {t e : TypeId}
    (ht : P.underlying t = some (.slice e)) (he : P.underlying e = some (.int .u8)) (hc : P.cellsOf e = 1)
    (h : DataW.Trod enc P W 0 (fun _ => true) true t (.slice a0 len cap) d p) : ∃ l, RB W a0 len l ∧ len ≤ cap := by
  obtain ⟨l, hr, hl⟩ := open_nums ht he hc h
  exact ⟨_, rb_of_rn hr, hl⟩
end Go.Proofs.Ytiialjncdhhceaa
