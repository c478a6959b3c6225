/- A region whose order is drawn, where operations that turn the world may come either way round: those that may move (readers of what stays, pure ones) are taken first; of the others every order is walked. No program in sight. -/
import Derived.Test.YtiialjncdhhceaaGreatTextT
namespace Go.Proofs.YtiialjncdhhceaaGreat
open Go
set_option linter.unusedVariables false
set_option linter.unusedSimpArgs false
section
variable {P : Program} {ops : Array Oper}

/-- No later operation of the list writes what an earlier one looks at. -/
def laterB (ops : Array Oper) : List Nat → Bool
  | [] => true
  | i :: l => ((i :: l).all fun j => match dstOf ops j, ops[i]? with
    | some d, some o => !(o.looksAt ops).contains d
    | _, _ => true) && laterB ops l

theorem tx_out2 {K : Act → World → Prop} : ∀ (l : List Nat) (a : Act) (w : World), (∀ k ∈ l, ops[k]? ≠ none) → tx P ops l K a w → ∃ a' w', K a' w' ∧
    ∀ o : Oper, (∀ cs b, o.op ≠ .select cs b) → (∀ k ∈ l, ∀ d, dstOf ops k = some d → d ∉ o.looksAt ops) → dynOk P o a'.eval = dynOk P o a.eval ∧ Region.wanted o (yielded ops a'.tmps) = Region.wanted o (yielded ops a.tmps) ∧ ∀ S, (Gives P ops S o a' ↔ Gives P ops S o a) := by
  intro l
  induction l with
  | nil => intro a w _ h; exact ⟨a, w, h, fun o _ _ => ⟨rfl, rfl, fun _ => Iff.rfl⟩⟩
  | cons i l ih =>
    intro a w hv h
    obtain ⟨a1, w1, h1, hl⟩ := st_out (st_frame h)
    obtain ⟨a2, w2, h2, hk⟩ := ih a1 w1 (fun k hk => hv k (by simp [hk])) h1
    refine ⟨a2, w2, h2, fun o hns ho => ?_⟩
    obtain ⟨e1, e2, e3⟩ := hk o hns fun k hk => ho k (by simp [hk])
    have hl := hl.resolve_right (hv i (by simp))
    have h3 := ho i (by simp)
    exact ⟨e1.trans (dynOk_left hl h3), e2.trans (wanted_left hl h3), fun S => (e3 S).trans (gives_left hns hl h3)⟩

theorem txs_of_tx {S : World → Prop} {R : List Nat} (hns : Region.noSelect ops = true) {K : Act → World → Prop} (hK : ∀ a w, K a w → plainEnd P ops a = true ∧ readEnd P ops S a R) :
    ∀ (p : List Nat) (a : Act) (w : World), (∀ i ∈ p, ∃ o, ops[i]? = some o ∧ mov P R i o = true) → laterB ops p = true → S w → tx P ops p K a w → txs P ops S R [] p K S a w := by
  intro p
  induction p with
  | nil => intro a w _ _ hS h; exact ⟨hS, h⟩
  | cons k p ih =>
    intro a w hp hl hS h
    obtain ⟨a2, w2, h2, hk⟩ := tx_out2 (k :: p) a w (fun j hj => by obtain ⟨o, ho, _⟩ := hp j hj; simp [ho]) h
    obtain ⟨hpl, hrd⟩ := hK _ _ h2
    obtain ⟨o, ho, hm⟩ := hp k (by simp)
    have hno := fun cs b => Region.noSelect_spec hns k o cs b ho
    simp only [laterB, Bool.and_eq_true] at hl
    have hdst : ∀ j ∈ k :: p, ∀ d, dstOf ops j = some d → d ∉ o.looksAt ops := by
      intro j hj d hd
      have h1 := List.all_eq_true.1 hl.1 j hj
      rw [hd, ho] at h1
      simpa using h1
    obtain ⟨e1, e2, e3⟩ := hk o hno hdst
    have hdyn : cls P o = 0 → Region.wanted o (yielded ops a.tmps) = true → dynOk P o a.eval = true := by
      intro hc hw
      rw [← e1]
      exact plainEnd_dyn hpl k o ho hc (by rw [e2]; exact hw)
    have hc : cls P o = 0 ∨ (k ∈ R ∧ cls P o = 1) := by
      simp only [mov, Bool.or_eq_true, Bool.and_eq_true, beq_iff_eq, List.contains_iff_mem] at hm
      exact hm
    have hgiv : (∃ v, Region.wanted o (yielded ops a.tmps) = true ∧ (execOp a.eval o).run P w = .ok (.value v) w ∧ tx P ops p K (a.put o.dst v) w) ∨ (Region.wanted o (yielded ops a.tmps) = false ∧ tx P ops p K (a.put o.dst undef) w) := by
      have hs : st P ops k (tx P ops p K) a w := h
      unfold st wpOp at hs
      simp only [ho] at hs
      split at hs
      · rename_i hw
        rcases hs with hs | ⟨_, hs⟩
        · left
          unfold Oper.wp at hs
          have hv : Val P (execOp a.eval o) ∧ Stl P (execOp a.eval o) := by
            rcases hc with h0 | ⟨_, h0⟩
            · have := cls0 o a.eval h0 (hdyn h0 hw)
              exact ⟨this.2, this.1.stl⟩
            · have := cls1 o a.eval h0
              exact ⟨this.2, this.1⟩
          cases hr : (execOp a.eval o).run P w with
          | halt x u' => rw [hr] at hs; cases x <;> simp [Oper.upon] at hs
          | ok n u' =>
            obtain ⟨v, rfl⟩ := hv.1 w n u' hr
            have := hv.2 w _ u' hr
            subst this
            rw [hr] at hs
            exact ⟨v, hw, rfl, hs⟩
        · exact absurd hs lets_false
      · rename_i hw
        exact .inr ⟨by simpa using hw, hs⟩
    refine ⟨hS, ?_, ?_⟩
    · intro o' ho'
      rw [ho] at ho'
      cases ho'
      refine ⟨fun _ => ?_, fun hm => by simp [late] at hm⟩
      rcases hc with h0 | ⟨hR, _⟩
      · intro hw
        rcases hgiv with ⟨v, _, hr, _⟩ | ⟨hw', _⟩
        · exact ⟨v, fun w' _ => ((cls0 o a.eval h0 (hdyn h0 hw)).1 w _ w hr).2 w'⟩
        · rw [hw] at hw'
          cases hw'
      · exact (e3 S).1 (readEnd_mem hrd hR o ho)
    · refine st_take ho ?_
      rcases hgiv with ⟨v, hw, hr, h'⟩ | ⟨hw, h'⟩
      · exact .inl ⟨v, hw, hr, S, fun _ h => h, fun _ => rfl, ih _ w (fun i hi => hp i (by simp [hi])) hl.2 hS h'⟩
      · exact .inr ⟨hw, S, fun _ h => h, fun _ => rfl, ih _ w (fun i hi => hp i (by simp [hi])) hl.2 hS h'⟩

theorem txs_up {S0 : World → Prop} {R : List Nat} {K : Act → World → Prop} : ∀ (l : List Nat) (S S' : World → Prop) (a : Act) (w : World), (∀ w, S' w → S w) → txs P ops S0 R [] l K S' a w → txs P ops S0 R [] l K S a w := by
  intro l
  induction l with
  | nil => intro S S' a w hs h; exact ⟨hs w h.1, h.2⟩
  | cons i l ih =>
    intro S S' a w hs h
    refine ⟨hs w h.1, fun o ho => ⟨(h.2.1 o ho).1, fun hl => by simp [late] at hl⟩, st_mono ?_ h.2.2⟩
    rintro a' w' ⟨S2, h1, _, h3⟩
    exact ⟨S, fun _ h => h, fun _ => rfl, ih S S2 a' w' (fun w h => hs w (h1 w h)) h3⟩

theorem txs_ex {S0 : World → Prop} {R : List Nat} {K : Act → World → Prop} : ∀ (l : List Nat) (S : World → Prop) (a : Act) (w : World), txs P ops S0 R [] l K S a w → ∃ a' w', K a' w' := by
  intro l
  induction l with
  | nil => intro S a w h; exact ⟨a, w, h.2⟩
  | cons i l ih =>
    intro S a w h
    obtain ⟨a1, w1, S', _, _, h1⟩ := st_out h.2.2
    exact ih S' a1 w1 h1

/-- What an operation that asks nothing of memory gives. -/
theorem gives_of_st {S : World → Prop} {i : Nat} {o : Oper} {K : Act → World → Prop} {a : Act} {w : World} (ho : ops[i]? = some o) (hc : cls P o = 0) (hn : needs o = false) (h : st P ops i K a w) : Gives P ops S o a := by
  intro hw
  unfold st wpOp at h
  simp only [ho] at h
  rw [if_pos hw] at h
  rcases h with h | ⟨_, h⟩
  · unfold Oper.wp at h
    have h0 := cls0 o a.eval hc (dynOk_idle hn)
    cases hr : (execOp a.eval o).run P w with
    | halt x u' => rw [hr] at h; cases x <;> simp [Oper.upon] at h
    | ok n u' =>
      obtain ⟨v, rfl⟩ := h0.2 w n u' hr
      exact ⟨v, fun w' _ => (h0.1 w _ _ hr).2 w'⟩
  · exact absurd h lets_false

theorem txs_snoc {S : World → Prop} {R : List Nat} {K : Act → World → Prop} {i : Nat} {o : Oper} (ho : ops[i]? = some o) (hi : mov P R i o = false ∨ (cls P o = 0 ∧ needs o = false)) :
    ∀ (l : List Nat) (a : Act) (w : World), (∀ j ∈ l, Mv P ops R [] j) → txs P ops S R [] l (fun a w => st P ops i (fun a' w' => S w' ∧ K a' w') a w) S a w → txs P ops S R [] (l ++ [i]) K S a w := by
  intro l
  induction l with
  | nil =>
    intro a w _ h
    refine ⟨h.1, fun o' ho' => ⟨fun hm => ?_, fun hl => by simp [late] at hl⟩, st_mono (fun a' w' ⟨h1, h2⟩ => ⟨S, fun _ h => h, fun _ => rfl, h1, h2⟩) h.2⟩
    rw [ho] at ho'
    cases ho'
    rcases hi with hi | ⟨h1, h2⟩
    · rw [hi] at hm; cases hm
    · exact gives_of_st ho h1 h2 h.2
  | cons j l ih =>
    intro a w hmv h
    refine ⟨h.1, h.2.1, st_mono ?_ h.2.2⟩
    rintro a' w' ⟨S', h1, h2, h3⟩
    have := h2 (hmv j (by simp))
    subst this
    exact ⟨_, fun _ h => h, fun _ => rfl, ih a' w' (fun k hk => hmv k (by simp [hk])) h3⟩

theorem txs_frontM {S0 : World → Prop} {R : List Nat} (hns : Region.noSelect ops = true) {K : Act → World → Prop} {i : Nat} {oi : Oper} (hi : ops[i]? = some oi) : ∀ (l1 l2 : List Nat) (S : World → Prop) (a : Act) (w : World), (∀ w, S w → S0 w) →
    (∀ j ∈ l1, ∃ oj, ops[j]? = some oj ∧ mov P R j oj = true ∧ oj.apart ops oi = true) → txs P ops S0 R [] (l1 ++ i :: l2) K S a w → txs P ops S0 R [] (i :: (l1 ++ l2)) K S a w := by
  intro l1
  induction l1 with
  | nil => intro l2 S a w _ _ h; exact h
  | cons j l1 ih =>
    intro l2 S a w h0 hl h
    obtain ⟨hS, hd, h⟩ := h
    have h' : txs P ops S0 R [] (j :: i :: (l1 ++ l2)) K S a w := ⟨hS, hd, st_mono (fun a' w' ⟨S', hs', he', h'⟩ => ⟨S', hs', he', ih l2 S' a' w' (fun w h => h0 w (hs' w h)) (fun k hk => hl k (by simp [hk])) h'⟩) h⟩
    obtain ⟨oj, hj, hm, hap⟩ := hl j (by simp)
    exact txs_swap hj hi hns hap (.inl hm) h0 h'

/-! ### every order of those that do not move -/
def orders (P : Program) (ops : Array Oper) (Q : Exit → Act → World → Prop) (S : World → Prop) (n0 : Nat) : Nat → Array Bool → Act → World → Prop
  | 0, listed, a, w => Region.ready .any ops listed = [] ∧ Q .normal a w
  | n + 1, listed, a, w => (Region.ready .any ops listed = [] → Q .normal a w) ∧ ∀ i ∈ Region.ready .any ops listed, st P ops i (fun a' w' => (i < n0 → S w') ∧ orders P ops Q S n0 n (listed.setIfInBounds i true) a' w') a w

theorem wpAny_of_orders {Q : Exit → Act → World → Prop} {S : World → Prop} {n0 : Nat} : ∀ (n : Nat) (listed : Array Bool) (a : Act) (w : World), orders P ops Q S n0 n listed a w → wpAny P .any ops Q n listed a w
  | 0, _, _, _, h => h
  | n + 1, _, _, _, h => ⟨h.1, fun i hi => wpOp_mono (fun a' w' h' => wpAny_of_orders n _ a' w' h'.2) (wpOp_exit (fun _ _ _ h => h.elim) (fun ⟨_, _, h⟩ => h.elim) (h.2 i hi))⟩
theorem orders_all {Q : Exit → Act → World → Prop} {S : World → Prop} {n0 n : Nat} {listed : Array Bool} {a : Act} {w : World} (rs : List Nat) (hr : (Region.ready .any ops listed == rs) = true) (hne : (!rs.isEmpty) = true)
    (h : ∀ i ∈ rs, st P ops i (fun a' w' => (i < n0 → S w') ∧ orders P ops Q S n0 n (listed.setIfInBounds i true) a' w') a w) : orders P ops Q S n0 (n + 1) listed a w := by
  have hr' : Region.ready .any ops listed = rs := by simpa using hr
  refine ⟨fun h0 => ?_, by rw [hr']; exact h⟩
  rw [hr'] at h0
  subst h0
  cases hne
theorem orders_done {Q : Exit → Act → World → Prop} {S : World → Prop} {n0 : Nat} {listed : Array Bool} {a : Act} {w : World} (hr : (Region.ready .any ops listed).isEmpty = true) (h : Q .normal a w) : orders P ops Q S n0 0 listed a w := ⟨by simpa using hr, h⟩
def chkO (P : Program) (R MV M : List Nat) (n0 : Nat) (ops : Array Oper) : Bool :=
  Region.noSelect ops && laterB ops MV && decide (MV.Pairwise (· < ·)) &&
  ((List.range ops.size).all fun j => match ops[j]? with
    | some oj => (oj.after.all fun e => !Region.binds .any e || (decide (e.on < j) && (M.getD j 0).testBit e.on)) && (MV.all fun i => decide (i < j) || !(M.getD j 0).testBit i) && ((List.range j).all fun i => bitOk ops M i j) &&
      (MV.all fun i => i == j || (M.getD j 0).testBit i || (M.getD i 0).testBit j || match ops[i]? with
        | some oi => oi.apart ops oj
        | none => false) &&
      (MV.contains j || ((decide (j < n0) && (!mov P R j oj || (cls P oj == 0 && !needs oj))) || MV.all fun i => (M.getD j 0).testBit i))
    | none => true) &&
  MV.all fun i => decide (i < n0) && ((List.range ops.size).all fun j => !(M.getD i 0).testBit j || (MV.contains j && decide (j < i))) && match ops[i]? with
    | some oi => mov P R i oi
    | none => false

structure ChkO (P : Program) (R MV M : List Nat) (n0 : Nat) (ops : Array Oper) : Prop where
  nosel : Region.noSelect ops = true
  later : laterB ops MV = true
  sorted : MV.Pairwise (· < ·)
  back : ∀ j o, ops[j]? = some o → ∀ e ∈ o.after, Region.binds .any e = true → e.on < j
  edge : ∀ j o, ops[j]? = some o → ∀ e ∈ o.after, Region.binds .any e = true → (M.getD j 0).testBit e.on = true
  low : ∀ j, j < ops.size → ∀ i ∈ MV, j ≤ i → (M.getD j 0).testBit i = false
  bits : ∀ i j, i < j → j < ops.size → bitOk ops M i j = true
  apart : ∀ i ∈ MV, ∀ j oj, ops[j]? = some oj → i ≠ j → (M.getD j 0).testBit i = false → (M.getD i 0).testBit j = false → ∃ oi, ops[i]? = some oi ∧ oi.apart ops oj = true
  rest : ∀ j oj, ops[j]? = some oj → j ∉ MV → (j < n0 ∧ (mov P R j oj = false ∨ (cls P oj = 0 ∧ needs oj = false))) ∨ ∀ i ∈ MV, (M.getD j 0).testBit i = true
  pre : ∀ i ∈ MV, ∀ j, j < ops.size → (M.getD i 0).testBit j = true → j ∈ MV ∧ j < i
  mv : ∀ i ∈ MV, ∃ oi, ops[i]? = some oi ∧ mov P R i oi = true

theorem chkO_spec {R MV M : List Nat} {n0 : Nat} (h : chkO P R MV M n0 ops = true) : ChkO P R MV M n0 ops := by
  unfold chkO at h
  simp only [Bool.and_eq_true, List.all_eq_true, List.mem_range, decide_eq_true_eq] at h
  obtain ⟨⟨⟨⟨h1, h2⟩, h3⟩, h4⟩, h5⟩ := h
  have key : ∀ j o, ops[j]? = some o → _ := fun j o ho => by
    have := h4 j (Array.getElem?_eq_some_iff.1 ho).1
    rw [ho] at this
    exact this
  refine ⟨h1, h2, h3, fun j o ho e he hb => ?_, fun j o ho e he hb => ?_, fun j hj i hi hji => ?_, fun i j hij hj => ?_, fun i hi j oj hoj hne hb1 hb2 => ?_, fun j oj hoj hj => ?_, fun i hi j hj hb => ?_, fun i hi => ?_⟩
  · have := key j o ho
    simp only [Bool.and_eq_true, Array.all_eq_true_iff_forall_mem, Bool.or_eq_true, decide_eq_true_eq] at this
    exact ((this.1.1.1.1 e he).resolve_left (by simp [hb])).1
  · have := key j o ho
    simp only [Bool.and_eq_true, Array.all_eq_true_iff_forall_mem, Bool.or_eq_true, decide_eq_true_eq] at this
    exact ((this.1.1.1.1 e he).resolve_left (by simp [hb])).2
  · have := key j ops[j] (by simp [hj])
    simp only [Bool.and_eq_true, List.all_eq_true, Bool.or_eq_true, decide_eq_true_eq, Bool.not_eq_true'] at this
    exact (this.1.1.1.2 i hi).resolve_left (by omega)
  · have := key j ops[j] (by simp [hj])
    simp only [Bool.and_eq_true, List.all_eq_true, List.mem_range] at this
    exact this.1.1.2 i hij
  · have := key j oj hoj
    simp only [Bool.and_eq_true, List.all_eq_true, List.mem_range, Bool.or_eq_true, beq_iff_eq] at this
    have h6 := this.1.2 i hi
    rcases h6 with ((h6 | h6) | h6) | h6
    · exact absurd h6 hne
    · rw [hb1] at h6; cases h6
    · rw [hb2] at h6; cases h6
    · split at h6
      · rename_i oi hoi
        exact ⟨oi, hoi, h6⟩
      · cases h6
  · have := key j oj hoj
    simp only [Bool.and_eq_true, List.all_eq_true, List.mem_range, Bool.or_eq_true, beq_iff_eq, List.contains_iff_mem, decide_eq_true_eq, Bool.not_eq_true'] at this
    rcases this.2 with h6 | h6 | h6
    · exact absurd h6 hj
    · exact .inl ⟨h6.1, h6.2⟩
    · exact .inr h6
  · have := (h5 i hi).1.2 j hj
    simp only [hb, Bool.not_true, Bool.false_or, Bool.and_eq_true, List.contains_iff_mem, decide_eq_true_eq] at this
    exact this
  · have := (h5 i hi).2
    split at this
    · rename_i oi hoi
      exact ⟨oi, hoi, this⟩
    · cases this

theorem ready_unbound {R MV M : List Nat} {n0 : Nat} (hc : ChkO P R MV M n0 ops) {listed : Array Bool} {i j : Nat} (hi : i ∈ Region.ready .any ops listed) (hil : i < ops.size) (hji : j < i)
    (hd : ∀ x, listed.getD x false = true → ∀ j, j < x → (M.getD x 0).testBit j = true → listed.getD j false = true) (hj : listed.getD j false ≠ true) : (M.getD i 0).testBit j = false := by
  obtain ⟨hun, oi, hoi, hall⟩ := mem_ready.1 hi
  cases hb : (M.getD i 0).testBit j with
  | false => rfl
  | true =>
    exfalso
    have hpr := hc.bits j i hji hil
    unfold bitOk at hpr
    rw [hoi] at hpr
    simp only [hb, Bool.not_true, Bool.false_or] at hpr
    obtain ⟨e, he, hb2⟩ := Array.any_eq_true'.1 hpr
    simp only [Bool.and_eq_true, Bool.or_eq_true, beq_iff_eq, decide_eq_true_eq] at hb2
    have hle := hall e he hb2.1
    refine hj ?_
    rcases hb2.2 with h1 | ⟨h1, h2⟩
    · rw [← h1]; exact hle
    · exact hd e.on hle j h1 h2

theorem wpAny_of_mv {R MV M : List Nat} {n0 : Nat} {S : World → Prop} {Q : Exit → Act → World → Prop} (hc : ChkO P R MV M n0 ops) : ∀ (n m : Nat) (mv : List Nat) (listed listed' : Array Bool) (a : Act) (w : World),
    n = m + mv.length → listed.size = ops.size → listed'.size = ops.size → mv.Pairwise (· < ·) → (∀ j ∈ mv, j ∈ MV ∧ listed.getD j true = false) → (∀ j ∈ MV, j ∉ mv → listed.getD j false = true) →
    (∀ j, listed'.getD j true = (listed.getD j true || decide (j ∈ mv))) → (∀ x, listed.getD x false = true → ∀ j, j < x → (M.getD x 0).testBit j = true → listed.getD j false = true) →
    txs P ops S R [] mv (fun a w => orders P ops Q S n0 m listed' a w) S a w → wpAny P .any ops Q n listed a w := by
  intro n
  induction n with
  | zero =>
    intro m mv listed listed' a w hn hs hs' hp hmv hmv2 hl hd h
    have hmv0 : mv = [] := by cases mv with | nil => rfl | cons x y => simp at hn
    subst hmv0
    have hm0 : m = 0 := by simpa using hn.symm
    subst hm0
    have he : listed' = listed := by
      refine Array.ext (by omega) fun j h1 h2 => ?_
      have := hl j
      simpa [h1, h2] using this
    rw [he] at h
    exact wpAny_of_orders _ _ _ _ h.2
  | succ n ih =>
    intro m mv listed listed' a w hn hs hs' hp hmv hmv2 hl hd h
    by_cases hne : mv = []
    · subst hne
      have hm0 : m = n + 1 := by simpa using hn.symm
      subst hm0
      have he : listed' = listed := by
        refine Array.ext (by omega) fun j h1 h2 => ?_
        have := hl j
        simpa [h1, h2] using this
      rw [he] at h
      exact wpAny_of_orders _ _ _ _ h.2
    · have hMVlt : ∀ j ∈ MV, j < ops.size := fun j hj => by
        obtain ⟨o, ho, _⟩ := hc.mv j hj
        exact (Array.getElem?_eq_some_iff.1 ho).1
      have unl : ∀ j, j < ops.size → listed.getD j true = false → listed.getD j false ≠ true := by
        intro j hj h1 h2
        have hj' : j < listed.size := by omega
        simp [hj'] at h1 h2
        rw [h1] at h2
        cases h2
      refine ⟨fun hr => ?_, fun i hi => ?_⟩
      · exfalso
        cases mv with
        | nil => exact hne rfl
        | cons x mv =>
          have hx := hmv x (by simp)
          have hxl := hMVlt x hx.1
          have : x ∈ Region.ready .any ops listed := by
            refine mem_ready.2 ⟨hx.2, ops[x], by simp [hxl], fun e he hb => ?_⟩
            have he' := hc.back x ops[x] (by simp [hxl]) e he hb
            have hbit : (M.getD x 0).testBit e.on = true → listed.getD e.on false = true := by
              intro h1
              obtain ⟨h2, h3⟩ := hc.pre x hx.1 e.on (by omega) h1
              refine hmv2 e.on h2 fun hmem => ?_
              rcases List.mem_cons.1 hmem with h4 | h4
              · omega
              · have := (List.pairwise_cons.1 hp).1 _ h4
                omega
            exact hbit (hc.edge x ops[x] (by simp [hxl]) e he hb)
          rw [hr] at this
          cases this
      · obtain ⟨hun, oi, hoi, hall⟩ := mem_ready.1 hi
        have hil := (Array.getElem?_eq_some_iff.1 hoi).1
        by_cases him : i ∈ mv
        · obtain ⟨m1, m2, rfl⟩ := List.append_of_mem him
          have hp' := List.pairwise_append.1 hp
          have hlt1 : ∀ j ∈ m1, j < i := fun j hj => hp'.2.2 j hj i (by simp)
          have hfr := txs_frontM hc.nosel hoi m1 m2 S a w (fun _ h => h) (fun j hj => by
            have hjm := hmv j (by simp [hj])
            have hji := hlt1 j hj
            have h1 := ready_unbound hc hi hil hji hd (unl j (by omega) hjm.2)
            have h2 : (M.getD j 0).testBit i = false := by
              cases hb : (M.getD j 0).testBit i with
              | false => rfl
              | true => have := (hc.pre j hjm.1 i hil hb).2; omega
            obtain ⟨oj, hoj, hap⟩ := hc.apart j hjm.1 i oi hoi (by omega) h1 h2
            obtain ⟨oj', hoj', hmj⟩ := hc.mv j hjm.1
            rw [hoj] at hoj'
            cases hoj'
            exact ⟨oj, hoj, hmj, hap⟩) h
          have hmvi : Mv P ops R [] i := by
            obtain ⟨o', ho', hm'⟩ := hc.mv i (hmv i him).1
            exact ⟨o', ho', .inl hm'⟩
          refine wpOp_mono (fun a' w' h7 => ?_) (wpOp_exit (fun _ _ _ h => h.elim) (fun ⟨_, _, h⟩ => h.elim) hfr.2.2)
          obtain ⟨S2, _, g2, g3⟩ := h7
          have := g2 hmvi
          subst this
          have hni1 : i ∉ m1 := fun hm => by have := hlt1 i hm; omega
          have hni2 : i ∉ m2 := fun hm => by have := (List.pairwise_cons.1 hp'.2.1).1 i hm; omega
          refine ih m (m1 ++ m2) (listed.setIfInBounds i true) listed' a' w' (by simp at hn ⊢; omega) (by simpa using hs) hs' (List.pairwise_append.2 ⟨hp'.1, (List.pairwise_cons.1 hp'.2.1).2, fun x hx y hy => hp'.2.2 x hx y (by simp [hy])⟩) (fun j hj => ?_) (fun j hj hjn => ?_) (fun j => ?_) (fun x hx j hjx hb => ?_) g3
          · have hji : i ≠ j := by rintro rfl; rcases List.mem_append.1 hj with h | h <;> contradiction
            have := hmv j (by simp only [List.mem_append, List.mem_cons] at hj ⊢; rcases hj with h | h <;> simp [h])
            exact ⟨this.1, by rw [getD_set_ne true hji]; exact this.2⟩
          · by_cases hij : i = j
            · subst hij
              have : i < listed.size := by omega
              simp [this]
            · rw [getD_set_ne false hij]
              exact hmv2 j hj (by simp only [List.mem_append, List.mem_cons] at hjn ⊢; rintro (h | h | h) <;> simp_all)
          · rw [hl j]
            by_cases hij : i = j
            · subst hij
              have : i < listed.size := by omega
              simp [this]
            · rw [getD_set_ne true hij]
              congr 1
              simp [Ne.symm hij]
          · by_cases hix : i = x
            · subst hix
              by_cases hjm : listed.getD j false = true
              · exact getD_set_true hjm
              · have := ready_unbound hc hi hil hjx hd hjm
                rw [this] at hb
                cases hb
            · rw [getD_set_ne false hix] at hx
              exact getD_set_true (hd x hx j hjx hb)
        · have hiM : i ∉ MV := fun hm => unl i hil hun (hmv2 i hm him)
          have hbnd : ∀ j ∈ mv, (M.getD i 0).testBit j = false := fun j hj => by
            have hjm := hmv j hj
            rcases Nat.lt_or_ge j i with h1 | h1
            · exact ready_unbound hc hi hil h1 hd (unl j (hMVlt j hjm.1) hjm.2)
            · exact hc.low i hil j hjm.1 h1
          obtain ⟨j0, hj0⟩ := List.exists_mem_of_ne_nil mv hne
          have hrest := (hc.rest i oi hoi hiM).resolve_right (fun hall2 => by
            have := hall2 j0 (hmv j0 hj0).1
            rw [hbnd j0 hj0] at this
            cases this)
          have hri : i ∈ Region.ready .any ops listed' := by
            refine mem_ready.2 ⟨by rw [hl i, hun]; simp [him], oi, hoi, fun e he hb => ?_⟩
            have h1 := hall e he hb
            have h2 := hl e.on
            have : e.on < listed.size := by
              rcases Nat.lt_or_ge e.on listed.size with h3 | h3
              · exact h3
              · simp [Array.getElem?_eq_none h3] at h1
            have h3 : e.on < listed'.size := by omega
            simp [this] at h1 h2
            simp [h3] at h2 ⊢
            rw [h2, h1]
            rfl
          cases m with
          | zero =>
            exfalso
            obtain ⟨_, _, hx⟩ := txs_ex mv S a w h
            rw [hx.1] at hri
            cases hri
          | succ m =>
            have h2 : txs P ops S R [] mv (fun a w => st P ops i (fun a' w' => S w' ∧ orders P ops Q S n0 m (listed'.setIfInBounds i true) a' w') a w) S a w :=
              txs_mono (fun a w hx => st_mono (fun a' w' h => ⟨h.1 hrest.1, h.2⟩) (hx.2 i hri)) mv S a w h
            have h3 := txs_snoc (K := fun a' w' => orders P ops Q S n0 m (listed'.setIfInBounds i true) a' w') hoi hrest.2 mv a w (fun j hj => by obtain ⟨o', ho', hm'⟩ := hc.mv j (hmv j hj).1; exact ⟨o', ho', .inl hm'⟩) h2
            have hfr := txs_frontM hc.nosel hoi mv [] S a w (fun _ h => h) (fun j hj => by
              have hjm := hmv j hj
              have h2 : (M.getD j 0).testBit i = false := by
                cases hb : (M.getD j 0).testBit i with
                | false => rfl
                | true => exact absurd (hc.pre j hjm.1 i hil hb).1 hiM
              obtain ⟨oj, hoj, hap⟩ := hc.apart j hjm.1 i oi hoi (by rintro rfl; exact him hj) (hbnd j hj) h2
              obtain ⟨oj', hoj', hmj⟩ := hc.mv j hjm.1
              rw [hoj] at hoj'
              cases hoj'
              exact ⟨oj, hoj, hmj, hap⟩) h3
            rw [List.append_nil] at hfr
            refine wpOp_mono (fun a' w' h7 => ?_) (wpOp_exit (fun _ _ _ h => h.elim) (fun ⟨_, _, h⟩ => h.elim) hfr.2.2)
            obtain ⟨S2, g1, _, g3⟩ := h7
            refine ih m mv (listed.setIfInBounds i true) (listed'.setIfInBounds i true) a' w' (by omega) (by simpa using hs) (by simpa using hs') hp (fun j hj => ?_) (fun j hj hjn => getD_set_true (hmv2 j hj hjn)) (fun j => ?_) (fun x hx j hjx hb => ?_) (txs_up mv S S2 a' w' g1 g3)
            · have hij : i ≠ j := by rintro rfl; exact him hj
              exact ⟨(hmv j hj).1, by rw [getD_set_ne true hij]; exact (hmv j hj).2⟩
            · by_cases hij : i = j
              · subst hij
                have h5 : i < listed.size := by omega
                have h6 : i < listed'.size := by omega
                simp [h5, h6]
              · rw [getD_set_ne true hij, getD_set_ne true hij]
                exact hl j
            · by_cases hix : i = x
              · subst hix
                by_cases hjm : listed.getD j false = true
                · exact getD_set_true hjm
                · have := ready_unbound hc hi hil hjx hd hjm
                  rw [this] at hb
                  cases hb
              · rw [getD_set_ne false hix] at hx
                exact getD_set_true (hd x hx j hjx hb)

theorem wpOps_of_list {Q : Exit → Act → World → Prop} : ∀ (mv : List Nat) (ms : List Oper), mv.map (fun i => ops[i]?) = ms.map some → wpOps P ops Q mv = wpList P ops Q ms := by
  intro mv
  induction mv with
  | nil =>
    intro ms h
    cases ms with
    | nil => rfl
    | cons o ms => simp at h
  | cons i mv ih =>
    intro ms h
    cases ms with
    | nil => simp at h
    | cons o ms =>
      simp only [List.map_cons, List.cons.injEq] at h
      have e := wpOps_seg (P := P) (ops := ops) (Q := Q) [o] i (fun j hj => by simp at hj; subst hj; simpa using h.1)
      have h2 := ih ms h.2
      funext a w
      rw [wpOps_cons]
      unfold wpOp wpList
      simp only [h.1, h2]
theorem fold_set (MV : List Nat) : ∀ (s : Array Bool) (j : Nat), (∀ i ∈ MV, i < s.size) → (MV.foldl (fun s i => s.setIfInBounds i true) s).size = s.size ∧ (MV.foldl (fun s i => s.setIfInBounds i true) s).getD j true = (s.getD j true || decide (j ∈ MV)) := by
  induction MV with
  | nil => intro s j _; simp
  | cons i MV ih =>
    intro s j h
    obtain ⟨h1, h2⟩ := ih (s.setIfInBounds i true) j (fun k hk => by simpa using h k (by simp [hk]))
    rw [List.foldl_cons]
    refine ⟨h1.trans (by simp), h2.trans ?_⟩
    by_cases hij : i = j
    · subst hij
      have := h i (by simp)
      simp [this]
    · rw [getD_set_ne true hij]
      congr 1
      simp [Ne.symm hij]

theorem pick_map : ∀ (mv : List Nat), (∀ i ∈ mv, (ops[i]?).isSome = true) → mv.map (fun i => ops[i]?) = (mv.filterMap fun i => ops[i]?).map some := by
  intro mv
  induction mv with
  | nil => intro _; rfl
  | cons i mv ih =>
    intro h
    obtain ⟨o, ho⟩ := Option.isSome_iff_exists.1 (h i (by simp))
    have := ih (fun j hj => h j (by simp [hj]))
    simp only [List.map_cons, List.filterMap_cons, ho, this]
/-- One operation, walked. -/
theorem st_one {i : Nat} {K : Act → World → Prop} {a : Act} {w : World} (ho : (ops[i]?).isSome = true) (h : wpList P ops (Exit.then K (fun _ _ _ => False)) ([i].filterMap fun i => ops[i]?) a w) : st P ops i K a w := by
  rw [← wpOps_of_list [i] _ (pick_map [i] (fun j hj => by obtain rfl := List.mem_singleton.1 hj; exact ho))] at h
  exact tx_of_ops [i] a w h
def seqB (ops : Array Oper) : Array Bool → List Nat → Bool
  | listed, [] => (Region.ready .any ops listed).isEmpty
  | listed, i :: rs => (Region.ready .any ops listed == [i]) && seqB ops (listed.setIfInBounds i true) rs
/-- From here on one after the other. -/
theorem orders_seq {Q : Exit → Act → World → Prop} {S : World → Prop} {n0 : Nat} (rs : List Nat) (listed : Array Bool) (a : Act) (w : World) (hs : seqB ops listed rs = true) (he : (rs.all fun i => (ops[i]?).isSome) = true) (hn : (rs.all fun i => decide (n0 ≤ i)) = true)
    (h : wpList P ops (Exit.then (Q .normal) (fun _ _ _ => False)) (rs.filterMap fun i => ops[i]?) a w) : orders P ops Q S n0 rs.length listed a w := by
  rw [← wpOps_of_list rs _ (pick_map rs (fun i hi => List.all_eq_true.1 he i hi))] at h
  have h1 := tx_of_ops rs a w h
  clear h he
  induction rs generalizing listed a w with
  | nil => exact orders_done hs h1
  | cons i rs ih =>
    simp only [seqB, Bool.and_eq_true] at hs
    simp only [List.all_cons, Bool.and_eq_true, decide_eq_true_eq] at hn
    refine orders_all [i] hs.1 rfl fun j hj => ?_
    obtain rfl := List.mem_singleton.1 hj
    exact st_mono (fun a' w' h2 => ⟨fun hlt => by omega, ih _ a' w' hs.2 hn.2 h2⟩) h1

/-- THE LAW. MV: those that may move, in the order of the text; R: the readers among them; from n0 on all wait for them. -/
theorem wp_region_textO {id : Nat} {l : List Oper} {Q : Exit → Act → World → Prop} {a : Act} {w : World} (S : World → Prop) (R MV : List Nat) (n0 m : Nat) (hm : P.follows .mixedOrders = true)
    (hlen : l.length = m + MV.length) (hck : chkO P R MV (Region.before l.toArray).toList n0 l.toArray = true) (hS : S w.drew)
    (h : ∀ K : Act → World → Prop, (∀ a' w', plainEnd P l.toArray a' = true → readEnd P l.toArray S a' R → orders P l.toArray Q S n0 m (MV.foldl (fun s i => s.setIfInBounds i true) (Array.replicate l.length false)) a' w' → K a' w') → wpList P l.toArray (Exit.then K (fun _ _ _ => False)) (MV.filterMap fun i => l.toArray[i]?) a w.drew) :
    (Code.region id l.toArray true).wp P Q a w := by
  have hc := chkO_spec hck
  refine wp_region_any hm ?_
  have h1 := h (fun a' w' => (plainEnd P l.toArray a' = true ∧ readEnd P l.toArray S a' R) ∧ orders P l.toArray Q S n0 m (MV.foldl (fun s i => s.setIfInBounds i true) (Array.replicate l.length false)) a' w') (fun a' w' h1 h2 h3 => ⟨⟨h1, h2⟩, h3⟩)
  have hseg : ∀ (mv : List Nat) (ms : List Oper) (K : Act → World → Prop) (a : Act) (w : World), mv.map (fun i => l.toArray[i]?) = ms.map some → wpList P l.toArray (Exit.then K (fun _ _ _ => False)) ms a w → tx P l.toArray mv K a w := by
    intro mv ms K a w he h1
    refine tx_of_ops mv a w ?_
    rw [wpOps_of_list mv ms he]
    exact h1
  have h2 := hseg MV _ _ a w.drew (pick_map MV (fun i hi => by obtain ⟨o, ho, _⟩ := hc.mv i hi; simp [ho])) h1
  have h3 := txs_of_tx (S := S) hc.nosel (fun _ _ h => h.1) MV a w.drew hc.mv hc.later hS h2
  have h4 := txs_mono (fun a w h => h.2) MV S a w.drew h3
  show wpAny P .any l.toArray Q l.length (Array.replicate l.toArray.size false) a w.drew
  refine wpAny_of_mv hc l.length m MV (Array.replicate l.toArray.size false) _ a w.drew hlen (by simp) ?_ hc.sorted (fun j hj => ⟨hj, ?_⟩) (fun j hj hn => absurd hj hn) ?_ ?_ h4
  · exact (fold_set MV (Array.replicate l.length false) 0 (fun i hi => by obtain ⟨o, ho, _⟩ := hc.mv i hi; have := (Array.getElem?_eq_some_iff.1 ho).1; simpa using this)).1.trans (by simp)
  · obtain ⟨o, ho, _⟩ := hc.mv j hj
    have := (Array.getElem?_eq_some_iff.1 ho).1
    simp at this
    simp [this]
  · intro j
    have h5 := (fold_set MV (Array.replicate l.length false) j (fun i hi => by obtain ⟨o, ho, _⟩ := hc.mv i hi; have := (Array.getElem?_eq_some_iff.1 ho).1; simpa using this)).2
    rw [h5]
    simp
  · intro x hx
    rcases Nat.lt_or_ge x l.length with h4 | h4
    · simp [h4] at hx
    · simp [Array.getElem?_eq_none, h4] at hx
end
end Go.Proofs.YtiialjncdhhceaaGreat
