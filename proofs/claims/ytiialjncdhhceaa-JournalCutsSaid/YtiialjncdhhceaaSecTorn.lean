/- What a crash leaves of a disk: plain laws, no program in sight. -/
import Derived.Test.YtiialjncdhhceaaSecFlush
namespace Go.Proofs.Ytiialjncdhhceaa
open Go.RowKit
set_option linter.unusedVariables false

def tornN (c : UInt8) : Nat := if c = 255 then 64 else c.toNat % 64
def torn (c : UInt8) (new old : List UInt8) : List UInt8 := new.take (tornN c) ++ old.drop (tornN c)
theorem tornN_le (c : UInt8) : tornN c ≤ 64 := by
  unfold tornN
  split
  · exact Nat.le_refl _
  · exact Nat.le_of_lt (Nat.mod_lt _ (by decide))
theorem torn_len (c : UInt8) {new old : List UInt8} (h1 : new.length = 64) (h2 : old.length = 64) : (torn c new old).length = 64 := by
  have := tornN_le c
  unfold torn
  rw [List.length_append, List.length_take, List.length_drop]
  omega
def DSt.isP (s : DSt) (i : Nat) : Bool := (s.pend i).isSome
/-- How many of what is pending lie ahead. -/
def DSt.rank (s : DSt) (i : Nat) : Nat := ((List.range i).filter s.isP).length
def DSt.tornAt (s : DSt) (ch : List UInt8) (i : Nat) : List UInt8 :=
  match s.pend i with
  | none => s.kept i
  | some l => torn (ch.getD (s.rank i) 0) l (s.kept i)
def DSt.crash (s : DSt) (ch : List UInt8) : DSt := { s with kept := s.tornAt ch, pend := fun _ => none, offAt := 0 }
theorem DOk.torn_len {s : DSt} (h : DOk s) (ch : List UInt8) (i : Nat) : (s.tornAt ch i).length = 64 := by
  unfold DSt.tornAt
  cases hp : s.pend i with
  | none => exact h.kept_len i
  | some l => exact Proofs.Ytiialjncdhhceaa.torn_len _ (h.pend_len i l hp).2 (h.kept_len i)

/-- The numbers of what is pending, rising. -/
def DSt.ks (s : DSt) : List Nat := (List.range s.n).filter s.isP
theorem DSt.mem_ks {s : DSt} (h : DOk s) (i : Nat) : i ∈ s.ks ↔ s.isP i = true := by
  unfold DSt.ks
  rw [List.mem_filter, List.mem_range]
  constructor
  · exact fun h => h.2
  · intro hp
    refine ⟨?_, hp⟩
    unfold DSt.isP at hp
    obtain ⟨l, hl⟩ := Option.isSome_iff_exists.1 hp
    exact (h.pend_len i l hl).1
theorem DSt.ks_sorted (s : DSt) : s.ks.Pairwise (· < ·) := List.Pairwise.filter _ List.pairwise_lt_range
theorem sorted_unique : ∀ (a b : List Nat), a.Pairwise (· < ·) → b.Pairwise (· < ·) → (∀ x, x ∈ a ↔ x ∈ b) → a = b := by
  intro a
  induction a with
  | nil =>
    intro b _ _ h
    cases b with
    | nil => rfl
    | cons y b => exact absurd ((h y).2 (by simp)) (by simp)
  | cons x a ih =>
    intro b ha hb h
    cases b with
    | nil => exact absurd ((h x).1 (by simp)) (by simp)
    | cons y b =>
      obtain ⟨h1, h2⟩ := List.pairwise_cons.1 ha
      obtain ⟨h3, h4⟩ := List.pairwise_cons.1 hb
      have hxy : x = y := by
        have e1 := (h x).1 (by simp)
        have e2 := (h y).2 (by simp)
        rw [List.mem_cons] at e1 e2
        rcases e1 with e1 | e1
        · exact e1
        · rcases e2 with e2 | e2
          · exact e2.symm
          · have := h3 x e1
            have := h1 y e2
            omega
      subst hxy
      rw [ih b h2 h4 (fun z => ?_)]
      have hz := h z
      rw [List.mem_cons, List.mem_cons] at hz
      constructor
      · intro hza
        have := h1 z hza
        rcases hz.1 (.inr hza) with e | e
        · omega
        · exact e
      · intro hzb
        have := h3 z hzb
        rcases hz.2 (.inr hzb) with e | e
        · omega
        · exact e

theorem rank_of (s : DSt) (q : Nat) (hq : q < s.ks.length) : s.rank s.ks[q] = q := by
  have hmem : s.ks[q] ∈ s.ks := List.getElem_mem hq
  have hi : s.ks[q] < s.n ∧ s.isP s.ks[q] = true := by
    have : s.ks[q] ∈ (List.range s.n).filter s.isP := hmem
    rw [List.mem_filter, List.mem_range] at this
    exact this
  generalize hx : s.ks[q] = i at *
  have hsplit : s.ks = (List.range i).filter s.isP ++ i :: ((List.range' (i + 1) (s.n - i - 1)).filter s.isP) := by
    unfold DSt.ks
    rw [List.range_eq_range', List.range_eq_range', show s.n = i + (1 + (s.n - i - 1)) by omega, ← List.range'_append_1, List.filter_append]
    congr 1
    rw [Nat.zero_add, Nat.add_comm 1, List.range'_succ, List.filter_cons, if_pos hi.2]
    congr 3
    omega
  have hnd : s.ks.Nodup := s.ks_sorted.imp (fun h => Nat.ne_of_lt h)
  have hr : s.rank i < s.ks.length := by
    rw [hsplit, List.length_append, List.length_cons]
    unfold DSt.rank
    omega
  have hget : s.ks[s.rank i] = i := by
    have : s.ks[s.rank i]? = some i := by
      rw [hsplit]
      unfold DSt.rank
      rw [List.getElem?_append_right (Nat.le_refl _)]
      simp
    rw [List.getElem?_eq_getElem hr] at this
    injection this
  have hp := List.pairwise_iff_getElem.1 s.ks_sorted
  rcases Nat.lt_trichotomy (s.rank i) q with h | h | h
  · have := hp _ _ hr hq h
    omega
  · exact h
  · have := hp _ _ hq hr h
    omega
end Go.Proofs.Ytiialjncdhhceaa
