/- The numbers of what is pending, as slices.Sorted(maps.Keys(..)) tells them. No walk. -/
import Derived.Test.YtiialjncdhhceaaSecTorn
import Derived.Lib.SlKeysI
import Derived.Maps.OwnSet
import Derived.Maps.Range
namespace Go.Proofs.Ytiialjncdhhceaa
open Go.RowKit
open Go.Maps (Keyed has IsMap)
open Go.WideShapes
set_option linter.unusedVariables false

theorem ks_perm {w : World} {m cnt : Nat} {D : DataW Unit} {s : DSt} (hown : w.ownsMap Try.prog 3 secR m cnt D) (hp : PendOf D s.pend) (hok : DOk s) : (s.ks.map fun i : Nat => (i : Int)).Perm (intKeys D) := by
  obtain ⟨es, rfl, hpw, hkey⟩ := hown.entries secK
  have hlt : ∀ i, i ∈ s.ks → i < 9223372036854775808 := fun i hi => by
    have h1 := (DSt.mem_ks hok i).1 hi
    unfold DSt.isP at h1
    obtain ⟨l, hl⟩ := Option.isSome_iff_exists.1 h1
    have := (hok.pend_len i l hl).1
    have := hok.n_le
    omega
  have hall : ∀ p ∈ es, ∃ x, p.1 = .int .i64 x := by
    intro p hp'
    have hh : has (.map es) p.1 = true := by
      rw [Maps.has_eq, List.any_eq_true]
      exact ⟨p, hp', WideAt.sameKey_self (hkey p hp')⟩
    obtain ⟨i, _, hi⟩ := hp.only p.1 hh
    exact ⟨_, hi⟩
  refine perm_intKeys hpw hall ?_ ?_
  · exact List.pairwise_map.2 (s.ks_sorted.imp (fun h => by omega))
  · intro x
    rw [List.mem_map]
    constructor
    · rintro ⟨i, hi, rfl⟩
      rw [hp.has i (hlt i hi)]
      exact (DSt.mem_ks hok i).1 hi
    · intro hx
      obtain ⟨i, hi, he⟩ := hp.only _ hx
      injection he with _ he
      subst he
      rw [hp.has i hi] at hx
      exact ⟨i, (DSt.mem_ks hok i).2 hx, rfl⟩

theorem sorted_ks {w : World} {m cnt : Nat} {D : DataW Unit} {s : DSt} (hown : w.ownsMap Try.prog 3 secR m cnt D) (hp : PendOf D s.pend) (hok : DOk s) {ss : List Int} (hperm : ss.Perm (intKeys D)) : ss.mergeSort (fun x y => decide (x ≤ y)) = s.ks.map fun i : Nat => (i : Int) := by
  have h1 := ks_perm hown hp hok
  rw [mergeSort_of_perm_i (hperm.trans h1.symm)]
  refine List.mergeSort_of_pairwise ?_
  exact List.pairwise_map.2 (s.ks_sorted.imp (fun h => by simp; omega))
theorem size_ks {w : World} {m cnt : Nat} {D : DataW Unit} {s : DSt} (hown : w.ownsMap Try.prog 3 secR m cnt D) (hp : PendOf D s.pend) (hok : DOk s) : Maps.size D = s.ks.length := by
  have h1 := (ks_perm hown hp hok).length_eq
  rw [List.length_map] at h1
  rw [h1]
  obtain ⟨es, rfl⟩ := hp.isMap
  simp [intKeys, Maps.size]
theorem ks_len (s : DSt) : s.ks.length ≤ s.n := by
  have := List.length_filter_le s.isP (List.range s.n)
  rw [List.length_range] at this
  exact this
end Go.Proofs.Ytiialjncdhhceaa
