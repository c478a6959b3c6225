/- Rows of keys and bytes in the order of the keys: plain laws. No program in sight. -/
import Derived.Maps.Ext
import Derived.Sort.KeysCollected
namespace Go.Proofs.YtiialjncdhhceaaGreat
open Go.WideShapes
set_option linter.unusedVariables false

abbrev KV := List UInt8 × List UInt8
def mapE (p : KV) : Lit × DataW Unit := (.string p.1, .lit (.string p.2))
/-- How a map of such rows reads. -/
def mapD (L : List KV) : DataW Unit := .map (L.map mapE)
def insL (x : KV) : List KV → List KV
  | [] => [x]
  | y :: r => if bytesBefore x.1 y.1 then x :: y :: r else y :: insL x r
def delL (k : List UInt8) (L : List KV) : List KV := L.filter fun p => !(p.1 == k)
def putL (k v : List UInt8) (L : List KV) : List KV := insL (k, v) (delL k L)
def getL (k : List UInt8) (L : List KV) : Option (List UInt8) := (L.find? fun p => p.1 == k).map (·.2)
def sizeL : List KV → Nat
  | [] => 0
  | p :: r => p.1.length + p.2.length + 24 + sizeL r
def Srt (L : List KV) : Prop := L.Pairwise fun p q => bytesBefore p.1 q.1 = true

theorem insert_map (x : KV) (L : List KV) : DataW.insert (mapE x) (L.map mapE) = (insL x L).map mapE := by
  induction L with
  | nil => rfl
  | cons y r ih =>
    simp only [List.map_cons, DataW.insert, insL]
    by_cases h : bytesBefore x.1 y.1 = true
    · rw [if_pos h, if_pos (show Lit.before (mapE x).1 (mapE y).1 = true from h)]
      rfl
    · rw [if_neg h, if_neg (show ¬ Lit.before (mapE x).1 (mapE y).1 = true from h), ih]
      rfl
theorem filter_map_del (k : List UInt8) (L : List KV) : (L.map mapE).filter (fun p => !p.1.sameKey (.string k)) = (delL k L).map mapE := by
  unfold delL
  rw [List.filter_map]
  rfl
theorem mapD_del (k : List UInt8) (L : List KV) : (mapD L).del (.string k) = mapD (delL k L) := by
  unfold mapD
  show DataW.map _ = _
  rw [filter_map_del]
theorem mapD_put (k v : List UInt8) (L : List KV) : (mapD L).put (.string k) (.lit (.string v)) = mapD (putL k v L) := by
  unfold mapD putL
  rw [← insert_map, ← filter_map_del]
  rfl
theorem mapD_at (k : List UInt8) (L : List KV) (z : DataW Unit) : (mapD L).atKey (.string k) z = match getL k L with | some v => .lit (.string v) | none => z := by
  unfold mapD getL DataW.atKey
  dsimp only
  rw [List.find?_map]
  have e : ((fun p : Lit × DataW Unit => p.1.sameKey (.string k)) ∘ mapE) = fun p : KV => p.1 == k := rfl
  rw [e]
  cases L.find? fun p => p.1 == k <;> rfl
theorem mapD_has (k : List UInt8) (L : List KV) : Maps.has (mapD L) (.string k) = (getL k L).isSome := by
  unfold mapD getL
  rw [Maps.has_eq, List.any_map, Option.isSome_map]
  have e : ((fun p : Lit × DataW Unit => p.1.sameKey (.string k)) ∘ mapE) = fun p : KV => p.1 == k := rfl
  rw [e]
  induction L with
  | nil => rfl
  | cons x r ih =>
    rw [List.any_cons, List.find?_cons, ih]
    cases x.1 == k <;> rfl
theorem mapD_size (L : List KV) : Maps.size (mapD L) = L.length := by
  unfold mapD
  rw [Maps.size_eq, List.length_map]
theorem mapD_keys (L : List KV) : Go.strKeys (mapD L) = L.map (·.1) := by
  unfold mapD
  show (L.map mapE).map (fun p => Go.strOf p.1) = _
  rw [List.map_map]
  rfl

/-! ### order -/
theorem mem_insL {x y : KV} : ∀ {L : List KV}, y ∈ insL x L ↔ y = x ∨ y ∈ L := by
  intro L
  induction L with
  | nil => simp [insL]
  | cons z r ih =>
    unfold insL
    split
    · simp
    · simp only [List.mem_cons, ih]
      constructor
      · rintro (h | h | h) <;> simp [h]
      · rintro (h | h | h) <;> simp [h]
theorem mem_delL {k : List UInt8} {L : List KV} {p : KV} : p ∈ delL k L ↔ p ∈ L ∧ p.1 ≠ k := by
  unfold delL
  rw [List.mem_filter]
  simp
theorem mem_putL {k v : List UInt8} {L : List KV} {p : KV} : p ∈ putL k v L ↔ p = (k, v) ∨ (p ∈ L ∧ p.1 ≠ k) := by
  unfold putL
  rw [mem_insL, mem_delL]
theorem Srt.nil : Srt [] := List.Pairwise.nil
theorem Srt.del {L : List KV} (h : Srt L) (k : List UInt8) : Srt (delL k L) := List.Pairwise.filter _ h
theorem srt_ins {x : KV} : ∀ {L : List KV}, Srt L → (∀ p ∈ L, p.1 ≠ x.1) → Srt (insL x L) := by
  intro L
  induction L with
  | nil => intro _ _; exact List.pairwise_singleton _ _
  | cons y r ih =>
    intro h hn
    obtain ⟨h1, h2⟩ := List.pairwise_cons.1 h
    unfold insL
    split
    · rename_i hb
      refine List.pairwise_cons.2 ⟨fun p hp => ?_, h⟩
      rcases List.mem_cons.1 hp with rfl | hp
      · exact hb
      · exact bytes_trans _ _ _ hb (h1 p hp)
    · rename_i hb
      refine List.pairwise_cons.2 ⟨fun p hp => ?_, ih h2 (fun p hp => hn p (by simp [hp]))⟩
      rcases mem_insL.1 hp with rfl | hp
      · rcases WideAt.bytes_total p.1 y.1 (fun e => hn y (by simp) e.symm) with h3 | h3
        · exact absurd h3 hb
        · exact h3
      · exact h1 p hp
theorem Srt.put {L : List KV} (h : Srt L) (k v : List UInt8) : Srt (putL k v L) := srt_ins (h.del k) (fun p hp => (mem_delL.1 hp).2)

theorem srt_unique {L L' : List KV} (h : Srt L) (h' : Srt L') (hm : ∀ p, p ∈ L ↔ p ∈ L') : L = L' := by
  have h1 : (L.map mapE).Pairwise (fun p q => p.1.before q.1 = true) := List.pairwise_map.2 h
  have h2 : (L'.map mapE).Pairwise (fun p q => p.1.before q.1 = true) := List.pairwise_map.2 h'
  have hinj : ∀ a b : KV, mapE a = mapE b → a = b := by
    rintro ⟨a1, a2⟩ ⟨b1, b2⟩ e
    unfold mapE at e
    injection e with e1 e2
    injection e1 with e1
    injection e2 with e2
    injection e2 with e2
    simp_all
  have h3 := Maps.eq_of_mem_rising h1 h2 (fun p => by
    simp only [List.mem_map]
    constructor
    · rintro ⟨a, ha, rfl⟩; exact ⟨a, (hm a).1 ha, rfl⟩
    · rintro ⟨a, ha, rfl⟩; exact ⟨a, (hm a).2 ha, rfl⟩)
  exact (List.map_inj_right (fun a b h => hinj a b h)).1 h3

/-! ### what is at a key -/
theorem getL_some {k v : List UInt8} {L : List KV} (h : getL k L = some v) : (k, v) ∈ L := by
  unfold getL at h
  cases hf : L.find? fun p => p.1 == k with
  | none => rw [hf] at h; cases h
  | some p =>
    rw [hf] at h
    have h1 := List.find?_some hf
    have h2 := List.mem_of_find?_eq_some hf
    obtain ⟨a, b⟩ := p
    simp at h1 h
    subst h1 h
    exact h2
theorem getL_mem {k v : List UInt8} {L : List KV} (h : Srt L) (hm : (k, v) ∈ L) : getL k L = some v := by
  induction L with
  | nil => cases hm
  | cons y r ih =>
    obtain ⟨h1, h2⟩ := List.pairwise_cons.1 h
    unfold getL
    rw [List.find?_cons]
    rcases List.mem_cons.1 hm with rfl | hm
    · simp
    · have h3 := h1 _ hm
      have hne : (y.1 == k) = false := beq_eq_false_iff_ne.2 (fun e => by rw [e, WideAt.bytes_irrefl] at h3; cases h3)
      rw [hne]
      exact ih h2 hm
theorem getL_none {k : List UInt8} {L : List KV} (h : getL k L = none) : ∀ p ∈ L, p.1 ≠ k := by
  intro p hp e
  unfold getL at h
  rw [Option.map_eq_none_iff, List.find?_eq_none] at h
  exact h p hp (by simp [e])
theorem getL_of_not {k : List UInt8} {L : List KV} (h : ∀ p ∈ L, p.1 ≠ k) : getL k L = none := by
  unfold getL
  rw [Option.map_eq_none_iff, List.find?_eq_none]
  intro p hp
  simp [h p hp]
theorem getL_put_same {k v : List UInt8} {L : List KV} (h : Srt L) : getL k (putL k v L) = some v := getL_mem (h.put k v) (mem_putL.2 (.inl rfl))
theorem getL_put_other {k v j : List UInt8} {L : List KV} (h : Srt L) (hne : j ≠ k) : getL j (putL k v L) = getL j L := by
  cases hg : getL j L with
  | some x => exact getL_mem (h.put k v) (mem_putL.2 (.inr ⟨getL_some hg, hne⟩))
  | none =>
    refine getL_of_not fun p hp e => ?_
    rcases mem_putL.1 hp with rfl | ⟨hp, _⟩
    · exact hne e.symm
    · exact getL_none hg p hp e
theorem getL_del_same {k : List UInt8} {L : List KV} : getL k (delL k L) = none := getL_of_not fun p hp => (mem_delL.1 hp).2
theorem getL_del_other {k j : List UInt8} {L : List KV} (h : Srt L) (hne : j ≠ k) : getL j (delL k L) = getL j L := by
  cases hg : getL j L with
  | some x => exact getL_mem (h.del k) (mem_delL.2 ⟨getL_some hg, hne⟩)
  | none => exact getL_of_not fun p hp e => getL_none hg p (mem_delL.1 hp).1 e
theorem delL_of_none {k : List UInt8} {L : List KV} (h : getL k L = none) : delL k L = L := by
  unfold delL
  rw [List.filter_eq_self]
  intro p hp
  have := getL_none h p hp
  simp [this]

/-! ### how much there is -/
theorem sizeL_ins (x : KV) (L : List KV) : sizeL (insL x L) = x.1.length + x.2.length + 24 + sizeL L := by
  induction L with
  | nil => rfl
  | cons y r ih =>
    unfold insL
    split
    · rfl
    · simp only [sizeL, ih]
      omega
theorem insL_length (x : KV) (L : List KV) : (insL x L).length = L.length + 1 := by
  induction L with
  | nil => rfl
  | cons y r ih =>
    unfold insL
    split
    · rfl
    · simp [ih]
theorem sizeL_del_le (k : List UInt8) (L : List KV) : sizeL (delL k L) ≤ sizeL L := by
  induction L with
  | nil => exact Nat.le_refl _
  | cons y r ih =>
    unfold delL at ih ⊢
    rw [List.filter_cons]
    split
    · simp only [sizeL]; omega
    · simp only [sizeL]; omega
theorem delL_length_le (k : List UInt8) (L : List KV) : (delL k L).length ≤ L.length := List.length_filter_le _ _
theorem sizeL_count (L : List KV) : 24 * L.length ≤ sizeL L := by
  induction L with
  | nil => exact Nat.le_refl _
  | cons y r ih => simp only [sizeL, List.length_cons]; omega
theorem delL_length {k v : List UInt8} {L : List KV} (h : Srt L) (hg : getL k L = some v) : (delL k L).length + 1 = L.length ∧ sizeL (delL k L) + (k.length + v.length + 24) = sizeL L := by
  induction L with
  | nil => cases hg
  | cons y r ih =>
    obtain ⟨h1, h2⟩ := List.pairwise_cons.1 h
    by_cases hk : y.1 = k
    · have hv : y.2 = v := by
        unfold getL at hg
        rw [List.find?_cons] at hg
        simp [hk] at hg
        exact hg
      have hr : delL k r = r := by
        unfold delL
        rw [List.filter_eq_self]
        intro p hp
        have h3 := h1 p hp
        have : ¬ p.1 = k := fun e => by rw [hk, e, WideAt.bytes_irrefl] at h3; cases h3
        simp [this]
      have e : delL k (y :: r) = r := by
        have : delL k (y :: r) = delL k r := by
          unfold delL
          rw [List.filter_cons, if_neg (by simp [hk])]
        rw [this, hr]
      rw [e]
      simp only [sizeL, List.length_cons, hk, hv]
      exact ⟨trivial, by omega⟩
    · have e : delL k (y :: r) = y :: delL k r := by
        unfold delL
        rw [List.filter_cons, if_pos (by simp [hk])]
      have hg' : getL k r = some v := by
        unfold getL at hg ⊢
        rw [List.find?_cons] at hg
        have : (y.1 == k) = false := beq_eq_false_iff_ne.2 hk
        rw [this] at hg
        exact hg
      obtain ⟨i1, i2⟩ := ih h2 hg'
      rw [e]
      simp only [sizeL, List.length_cons]
      exact ⟨by omega, by omega⟩

/-! ### sorted keys -/
theorem le_of_before : ∀ {a b : List UInt8}, bytesBefore a b = true → a ≤ b := by
  intro a
  induction a with
  | nil => intro b _; exact List.nil_le b
  | cons x r ih =>
    intro b h
    cases b with
    | nil => cases h
    | cons y s =>
      unfold bytesBefore at h
      simp only [Bool.or_eq_true, Bool.and_eq_true, decide_eq_true_eq, beq_iff_eq] at h
      rw [List.cons_le_cons_iff]
      rcases h with h | ⟨h1, h2⟩
      · exact .inl h
      · exact .inr ⟨h1, ih h2⟩
theorem sorted_keys {L : List KV} (h : Srt L) {ss : List (List UInt8)} (hp : ss.Perm (L.map (·.1))) : ss.mergeSort (fun x y => decide (x ≤ y)) = L.map (·.1) := by
  have h1 : ss.mergeSort (fun x y => decide (x ≤ y)) = (L.map (·.1)).mergeSort (fun x y => decide (x ≤ y)) := Go.mergeSort_of_perm hp
  rw [h1]
  refine List.mergeSort_of_pairwise ?_
  rw [List.pairwise_map]
  exact h.imp (fun h => by simp [le_of_before h])
end Go.Proofs.YtiialjncdhhceaaGreat
