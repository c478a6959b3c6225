/- A region whose order is drawn is walked in the order of the text, where those of its operations that do something lie in one row; no program in sight. -/
import Derived.WalkKit
import Derived.KernelRfl
import Derived.Orders
import Derived.WalkLawsBesides
import Derived.WalkSpells
import Derived.Maps.AppendAt
import Derived.Deep.AppendLies
namespace Go.Proofs.YtiialjncdhhceaaGreat
open Go
set_option linter.unusedVariables false
set_option linter.unusedSimpArgs false

/-! ### what a computation looks at -/
section
variable {P : Program}
/-- What it gives hangs on no world, and it turns none. -/
def Obl (P : Program) {α : Type} (s : Sem α) : Prop := ∀ w1 x w1', s.run P w1 = .ok x w1' → w1' = w1 ∧ ∀ w2, s.run P w2 = .ok x w2
/-- It turns no world. -/
def Stl (P : Program) {α : Type} (s : Sem α) : Prop := ∀ w x w', s.run P w = .ok x w' → w' = w
variable {α β : Type}
theorem Obl.stl {s : Sem α} (h : Obl P s) : Stl P s := fun w x w' e => (h w x w' e).1
theorem Obl.pure (x : α) : Obl P (Pure.pure x : Sem α) := by
  intro w1 y w1' h
  simp at h
  obtain ⟨rfl, rfl⟩ := h
  exact ⟨rfl, fun w2 => by simp⟩
theorem Obl.bind {s : Sem α} {f : α → Sem β} (h : Obl P s) (k : ∀ a, Obl P (f a)) : Obl P (s >>= f) := by
  intro w1 y w1' he
  rw [Sem.run_bind] at he
  cases hs : s.run P w1 with
  | halt x w => rw [hs] at he; cases he
  | ok a w =>
    rw [hs] at he
    obtain ⟨rfl, h2⟩ := h w1 a w hs
    obtain ⟨rfl, h3⟩ := k a w y w1' he
    refine ⟨rfl, fun w2 => ?_⟩
    rw [Sem.run_bind, h2 w2]
    exact h3 w2
theorem Obl.never {s : Sem α} (h : ∀ w x w', s.run P w ≠ .ok x w') : Obl P s := fun w x w' e => absurd e (h w x w')
theorem Obl.halt (h : Halt) : Obl P (Sem.halt h : Sem α) := Obl.never fun w x w' e => by cases e
theorem Obl.stuck (s : String) : Obl P (Go.stuck s : Sem α) := Obl.halt _
theorem Obl.unsupported (u : Unsupported) : Obl P (Go.unsupported u : Sem α) := Obl.halt _
theorem Obl.program : Obl P program := by
  intro w1 y w1' h
  simp only [Go.program, Sem.run] at h
  cases h
  exact ⟨rfl, fun w2 => rfl⟩
theorem Obl.typeInfo (t : TypeId) : Obl P (Go.typeInfo t) := by
  unfold Go.typeInfo
  refine Obl.program.bind fun p => ?_
  split
  · exact Obl.pure _
  · exact Obl.stuck _
theorem Obl.underlying (t : TypeId) : Obl P (Go.underlying t) := by
  unfold Go.underlying
  refine Obl.program.bind fun p => ?_
  split
  · exact Obl.pure _
  · exact Obl.stuck _
theorem Obl.sizeOf (t : TypeId) : Obl P (Go.sizeOf t) := (Obl.typeInfo t).bind fun i => Obl.pure _
theorem none_goPanic (v : Value) (w : World) (x : α) (w' : World) : (Go.goPanic v : Sem α).run P w ≠ .ok x w' := by
  intro h; cases h
theorem none_bind {s : Sem α} {f : α → Sem β} (h : ∀ a w x w', (f a).run P w ≠ .ok x w') : ∀ w x w', (s >>= f).run P w ≠ .ok x w' := by
  intro w x w' e
  rw [Sem.run_bind] at e
  cases hs : s.run P w with
  | halt y u => rw [hs] at e; cases e
  | ok a u => rw [hs] at e; exact h a u x w' e
theorem none_runtimePanic (e : RuntimeError) : ∀ w (x : α) w', (Go.runtimePanic e : Sem α).run P w ≠ .ok x w' := by
  unfold Go.runtimePanic
  refine none_bind fun p => ?_
  cases e with
  | typeAssertion i c a m => exact none_bind fun _ => none_bind fun _ => none_goPanic _
  | panicNil => exact none_bind fun _ => none_bind fun _ => none_goPanic _
  | _ => exact none_goPanic _
theorem none_boundsPanic (k : IntKind) (x y : Int) (c : BoundsCode) : ∀ w (z : α) w', (Go.boundsPanic k x y c : Sem α).run P w ≠ .ok z w' := by
  intro w z w'
  unfold Go.boundsPanic
  dsimp only
  split
  · exact none_bind (fun _ => none_runtimePanic _) w z w'
  · exact none_bind (fun _ => none_runtimePanic _) w z w'
theorem Obl.runtimePanic (e : RuntimeError) : Obl P (Go.runtimePanic e : Sem α) := Obl.never (none_runtimePanic e)
theorem Obl.boundsPanic (k : IntKind) (x y : Int) (c : BoundsCode) : Obl P (Go.boundsPanic k x y c : Sem α) := Obl.never (none_boundsPanic k x y c)
theorem Obl.asIntOf (v : Value) : Obl P (Go.asIntOf v) := by
  unfold Go.asIntOf
  split
  · exact Obl.pure _
  · exact Obl.unsupported _
  · exact Obl.stuck _
theorem Obl.asBool (v : Value) : Obl P (Go.asBool v) := by
  unfold Go.asBool
  split
  · exact Obl.pure _
  · exact Obl.stuck _
theorem Obl.sureAddr (v : Value) : Obl P (Instr.sureAddr v) := by
  unfold Instr.sureAddr
  split
  · exact Obl.pure _
  · exact Obl.stuck _
theorem Obl.asAddr (v : Value) : Obl P (Go.asAddr v) := by
  unfold Go.asAddr
  split
  · exact Obl.pure _
  · exact Obl.runtimePanic _
  · exact Obl.stuck _
theorem Obl.asAgg (v : Value) : Obl P (Go.asAgg v) := by
  unfold Go.asAgg
  split
  · exact Obl.pure _
  · exact Obl.stuck _
theorem Obl.isAgg (t : TypeId) : Obl P (Go.isAgg t) := by
  unfold Go.isAgg
  refine (Obl.underlying t).bind fun d => ?_
  split <;> exact Obl.pure _
theorem Obl.part (t : TypeId) (cs : Array Value) (off : Nat) : Obl P (Go.part t cs off) := by
  unfold Go.part
  refine (Obl.isAgg t).bind fun b => ?_
  split
  · exact (Obl.sizeOf t).bind fun _ => Obl.pure _
  · split
    · exact Obl.pure _
    · exact Obl.stuck _
theorem Obl.ite {c : Prop} [Decidable c] {a b : Sem α} (h1 : Obl P a) (h2 : Obl P b) : Obl P (if c then a else b) := by
  split
  · exact h1
  · exact h2
theorem Obl.sliceBound (x : Value) (y : Nat) (c : BoundsCode) : Obl P (Instr.sliceBound x y c) := by
  unfold Instr.sliceBound
  refine (Obl.asIntOf x).bind fun ki => ?_
  exact Obl.ite (Obl.pure _) (Obl.boundsPanic _ _ _ _)
theorem Obl.sliceBounds (b : Bool) (n c : Nat) (lo hi mx : Option Value) : Obl P (Instr.sliceBounds b n c lo hi mx) := by
  unfold Instr.sliceBounds
  dsimp only
  repeat' first | exact Obl.pure _ | exact Obl.sliceBound _ _ _ | exact Obl.stuck _ | refine Obl.bind ?_ (fun _ => ?_) | split
theorem Obl.slice (t : TypeId) (x : Value) (lo hi mx : Option Value) : Obl P (Instr.slice t x lo hi mx) := by
  unfold Instr.slice
  dsimp only
  repeat' first | exact Obl.pure _ | exact Obl.underlying _ | exact Obl.sizeOf _ | exact Obl.asAddr _ | exact Obl.sliceBounds _ _ _ _ _ _ | exact Obl.stuck _ | refine Obl.bind ?_ (fun _ => ?_) | split
theorem Obl.sliceAt (t : TypeId) (x : Value) (lo hi mx : Option Value) : Obl P (Instr.sliceAt t x lo hi mx) := by
  unfold Instr.sliceAt
  dsimp only
  repeat' first | exact Obl.pure _ | exact Obl.underlying _ | exact Obl.sizeOf _ | exact Obl.sureAddr _ | exact Obl.sliceBounds _ _ _ _ _ _ | exact Obl.slice _ _ _ _ _ | exact Obl.stuck _ | refine Obl.bind ?_ (fun _ => ?_) | split
theorem Obl.indexAt (t : TypeId) (x i : Value) : Obl P (Instr.indexAt t x i) := by
  unfold Instr.indexAt
  dsimp only
  repeat' first | exact Obl.pure _ | exact Obl.underlying _ | exact Obl.sizeOf _ | exact Obl.sureAddr _ | exact Obl.asIntOf _ | exact Obl.boundsPanic _ _ _ _ | exact Obl.unsupported _ | exact Obl.stuck _ | refine Obl.bind ?_ (fun _ => ?_) | split
theorem Obl.index (t : TypeId) (x i : Value) : Obl P (Instr.index t x i) := by
  unfold Instr.index
  dsimp only
  repeat' first | exact Obl.pure _ | exact Obl.underlying _ | exact Obl.sizeOf _ | exact Obl.part _ _ _ | exact Obl.asIntOf _ | exact Obl.boundsPanic _ _ _ _ | exact Obl.unsupported _ | exact Obl.stuck _ | refine Obl.bind ?_ (fun _ => ?_) | split
theorem Obl.extract (t : Value) (i : Nat) : Obl P (Instr.extract t i) := by
  unfold Instr.extract
  split
  · split
    · exact Obl.pure _
    · exact Obl.stuck _
  · exact Obl.stuck _
theorem Obl.makeInterface (t : TypeId) (x : Value) : Obl P (Instr.makeInterface t x) := by
  unfold Instr.makeInterface
  refine (Obl.underlying t).bind fun d => ?_
  split
  · exact Obl.stuck _
  · exact Obl.pure _
theorem Obl.unary (op : UnOp) (x : Value) : Obl P (Op.unary op x) := by
  unfold Op.unary
  split
  · exact Obl.pure _
  · exact Obl.pure _
  · exact Obl.pure _
  · exact Obl.pure _
  · exact Obl.pure _
  · exact Obl.unsupported _
  · exact Obl.unsupported _
  · exact Obl.stuck _

/-- A number, a truth value, a string. -/
def plainV : Value → Bool
  | .int _ _ | .bool _ | .string _ => true
  | _ => false
def intV : Value → Bool
  | .int _ _ => true
  | _ => false
theorem Obl.equalIn (d : Nat) (t : TypeId) (x y : Value) (hx : plainV x = true) (hy : plainV y = true) : Obl P (Op.equalIn (d + 1) t x y) := by
  unfold Op.equalIn
  refine (Obl.underlying t).bind fun desc => ?_
  cases x <;> simp [plainV] at hx <;> cases y <;> simp [plainV] at hy <;> cases desc <;> dsimp only <;>
    first | exact Obl.pure _ | exact Obl.stuck _ | exact Obl.ite (Obl.pure _) (Obl.stuck _) | (repeat' first | exact Obl.pure _ | exact Obl.stuck _ | split)
theorem Obl.intArith (op : BinOp) (k : IntKind) (x y : Int) : Obl P (Op.intArith op k x y) := by
  unfold Op.intArith
  split <;> first | exact Obl.pure _ | exact Obl.stuck _
theorem Obl.intDiv (op : BinOp) (k : IntKind) (x y : Int) : Obl P (Op.intDiv op k x y) := by
  unfold Op.intDiv
  split
  · exact Obl.runtimePanic _
  · split <;> first | exact Obl.pure _ | exact Obl.stuck _
theorem Obl.intBits (op : BinOp) (k : IntKind) (x y : Int) : Obl P (Op.intBits op k x y) := by
  unfold Op.intBits
  dsimp only
  split <;> first | exact Obl.pure _ | exact Obl.stuck _
theorem Obl.intCmp (op : BinOp) (x y : Int) : Obl P (Op.intCmp op x y) := by
  unfold Op.intCmp
  split <;> first | exact Obl.pure _ | exact Obl.stuck _
theorem Obl.shift (op : BinOp) (k yk : IntKind) (x y : Int) : Obl P (Op.shift op k x yk y) := by
  unfold Op.shift
  split
  · exact Obl.runtimePanic _
  · dsimp only
    split <;> first | exact Obl.pure _ | exact Obl.stuck _
theorem Obl.stringOp (op : BinOp) (x y : ByteArray) : Obl P (Op.stringOp op x y) := by
  unfold Op.stringOp
  dsimp only
  repeat' first | exact Obl.pure _ | exact Obl.stuck _ | exact Obl.unsupported _ | split
theorem Obl.binOp (op : BinOp) (t : TypeId) (x y : Value) (hx : plainV x = true) (hy : plainV y = true) : Obl P (Go.binOp op t x y) := by
  have heq : Obl P (Op.equal t x y) := Obl.equalIn 9999 t x y hx hy
  cases x <;> simp [plainV] at hx <;> cases y <;> simp [plainV] at hy <;> cases op <;> unfold Go.binOp <;> dsimp only <;>
    first
      | exact Obl.stuck _
      | exact Obl.shift _ _ _ _ _
      | exact Obl.stringOp _ _ _
      | exact heq.bind fun _ => Obl.pure _
      | (refine Obl.ite (Obl.stuck _) ?_; first | exact Obl.intArith _ _ _ _ | exact Obl.intDiv _ _ _ _ | exact Obl.intBits _ _ _ _ | exact Obl.intCmp _ _ _)
theorem Obl.eqGuard (op : BinOp) (t : TypeId) (x y : Operand) (a b : Value) (ha : plainV a = true) (hb : plainV b = true) : Obl P (Go.eqGuard op t x y a b) := by
  unfold Go.eqGuard
  cases a <;> simp [plainV] at ha <;> cases b <;> simp [plainV] at hb <;> (repeat' first | exact Obl.pure _ | refine Obl.bind ?_ (fun _ => ?_) | split)
theorem Obl.min2 (x y : Value) (hx : intV x = true) (hy : intV y = true) : Obl P (Builtin.min2 x y) := by
  cases x <;> simp [intV] at hx
  cases y <;> simp [intV] at hy
  exact Obl.pure _
theorem Obl.max2 (x y : Value) (hx : intV x = true) (hy : intV y = true) : Obl P (Builtin.max2 x y) := by
  cases x <;> simp [intV] at hx
  cases y <;> simp [intV] at hy
  exact Obl.pure _
theorem min2_int (x y : Value) (hx : intV x = true) (hy : intV y = true) : ∃ z, Builtin.min2 x y = Pure.pure z ∧ intV z = true := by
  cases x <;> simp [intV] at hx
  cases y <;> simp [intV] at hy
  exact ⟨_, rfl, rfl⟩
theorem max2_int (x y : Value) (hx : intV x = true) (hy : intV y = true) : ∃ z, Builtin.max2 x y = Pure.pure z ∧ intV z = true := by
  cases x <;> simp [intV] at hx
  cases y <;> simp [intV] at hy
  exact ⟨_, rfl, rfl⟩
theorem Obl.foldMin (l : List Value) : ∀ x, intV x = true → (∀ y ∈ l, intV y = true) → Obl P (l.foldlM Builtin.min2 x) := by
  induction l with
  | nil => intro x _ _; exact Obl.pure _
  | cons y l ih =>
    intro x hx hl
    obtain ⟨z, hz, hi⟩ := min2_int x y hx (hl y (by simp))
    rw [List.foldlM_cons, hz, pure_bind]
    exact ih z hi fun u hu => hl u (by simp [hu])
theorem Obl.foldMax (l : List Value) : ∀ x, intV x = true → (∀ y ∈ l, intV y = true) → Obl P (l.foldlM Builtin.max2 x) := by
  induction l with
  | nil => intro x _ _; exact Obl.pure _
  | cons y l ih =>
    intro x hx hl
    obtain ⟨z, hz, hi⟩ := max2_int x y hx (hl y (by simp))
    rw [List.foldlM_cons, hz, pure_bind]
    exact ih z hi fun u hu => hl u (by simp [hu])
theorem Obl.min_ (ts : Array TypeId) (t : TypeId) (xs : Array Value) (h : xs.all intV = true) : Obl P (Builtin.min_ ts t xs) := by
  unfold Builtin.min_
  rw [← Array.all_toList] at h
  split
  · exact Obl.stuck _
  · rename_i x rest hx
    rw [hx] at h
    simp at h
    exact Obl.foldMin rest x h.1 h.2
theorem Obl.max_ (ts : Array TypeId) (t : TypeId) (xs : Array Value) (h : xs.all intV = true) : Obl P (Builtin.max_ ts t xs) := by
  unfold Builtin.max_
  rw [← Array.all_toList] at h
  split
  · exact Obl.stuck _
  · rename_i x rest hx
    rw [hx] at h
    simp at h
    exact Obl.foldMax rest x h.1 h.2
theorem Obl.underlyingBind {t : TypeId} {d : TypeDesc} {f : TypeDesc → Sem α} (h : P.underlying t = some d) (k : Obl P (f d)) : Obl P (Go.underlying t >>= f) := by
  intro w1 y w1' he
  rw [Sem.run_bind, run_underlying h] at he
  obtain ⟨e1, e2⟩ := k w1 y w1' he
  refine ⟨e1, fun w2 => ?_⟩
  rw [Sem.run_bind, run_underlying h]
  exact e2 w2
theorem Obl.len_ (ts : Array TypeId) (t t0 : TypeId) (xs : Array Value) (d : TypeDesc) (h0 : ts[0]? = some t0) (hd : P.underlying t0 = some d) (h : (match d with | .string | .slice _ => true | _ => false) = true) : Obl P (Builtin.len_ ts t xs) := by
  unfold Builtin.len_
  rw [h0]
  cases xs[0]? with
  | none => exact Obl.stuck _
  | some v =>
    refine Obl.underlyingBind hd ?_
    cases d <;> simp at h <;> cases v <;> first | exact Obl.pure _ | exact Obl.stuck _
theorem Obl.sizeOfBind {t : TypeId} {i : TypeInfo} {f : Nat → Sem α} (h : P.info? t = some i) (k : Obl P (f i.size)) : Obl P (Go.sizeOf t >>= f) := by
  have key : ∀ w, (Go.sizeOf t).run P w = .ok i.size w := by
    intro w
    simp [Go.sizeOf, Go.typeInfo, h]
  intro w1 y w1' he
  rw [Sem.run_bind, key] at he
  obtain ⟨e1, e2⟩ := k w1 y w1' he
  refine ⟨e1, fun w2 => ?_⟩
  rw [Sem.run_bind, key]
  exact e2 w2
theorem Obl.fieldAt (s : TypeId) (x : Value) (f : Nat) (fs : Array Field) (fl : Field) (i : TypeInfo) (h1 : P.underlying s = some (.struct fs)) (h2 : fs[f]? = some fl) (h3 : P.info? fl.type = some i) (h4 : i.size ≠ 0) : Obl P (Instr.fieldAt s x f) := by
  unfold Instr.fieldAt
  refine Obl.underlyingBind h1 ?_
  dsimp only
  rw [h2]
  refine (Obl.sureAddr x).bind fun a => ?_
  refine Obl.bind ?_ fun _ => Obl.pure _
  unfold fieldPlace
  refine Obl.sizeOfBind h3 ?_
  rw [if_neg h4]
  exact Obl.pure _
theorem Obl.convert (src dst : TypeId) (x : Value) (k k' : IntKind) (h1 : P.underlying src = some (.int k)) (h2 : P.underlying dst = some (.int k')) (hx : intV x = true) : Obl P (Go.convert src dst x) := by
  cases x <;> simp [intV] at hx
  unfold Go.convert
  refine Obl.underlyingBind h1 (Obl.underlyingBind h2 ?_)
  exact Obl.pure _

/-! ### what turns no world -/
theorem Stl.bind {s : Sem α} {f : α → Sem β} (h : Stl P s) (k : ∀ a, Stl P (f a)) : Stl P (s >>= f) := by
  intro w y w' he
  rw [Sem.run_bind] at he
  cases hs : s.run P w with
  | halt x u => rw [hs] at he; cases he
  | ok a u =>
    rw [hs] at he
    have := h w a u hs
    subst this
    exact k a u y w' he
theorem Stl.load (a : Addr) : Stl P (Go.load a) := by
  intro w x w' he
  unfold Go.load at he
  simp only [Sem.run] at he
  split at he
  · cases he; rfl
  · split at he
    · cases he; rfl
    · cases he
theorem Stl.loadCellsFrom (a : Addr) : ∀ n i acc, Stl P (Go.loadCellsFrom a i n acc) := by
  intro n
  induction n with
  | zero => intro i acc; exact (Obl.pure _).stl
  | succ n ih => intro i acc; exact (Stl.load _).bind fun v => ih _ _
theorem Stl.loadVar (t : TypeId) (a : Addr) : Stl P (Go.loadVar t a) := by
  unfold Go.loadVar
  refine (Obl.isAgg t).stl.bind fun b => ?_
  split
  · exact (Obl.sizeOf t).stl.bind fun n => (Stl.loadCellsFrom a n 0 #[]).bind fun _ => (Obl.pure _).stl
  · exact Stl.load a
theorem Stl.loadAt (t : TypeId) (x : Value) : Stl P (Instr.loadAt t x) := (Obl.sureAddr x).stl.bind fun a => Stl.loadVar t a
theorem Stl.forIn {γ σ : Type} {f : γ → σ → Sem (ForInStep σ)} : ∀ (l : List γ) (s : σ), (∀ c s, Stl P (f c s)) → Stl P (ForIn.forIn l s f) := by
  intro l
  induction l with
  | nil => intro s _; exact (Obl.pure _).stl
  | cons c l ih =>
    intro s h
    rw [List.forIn_cons]
    refine (h c s).bind fun r => ?_
    split
    · exact (Obl.pure _).stl
    · exact ih _ h
theorem Stl.bytesToString (x : Value) : Stl P (Conv.bytesToString x) := by
  unfold Conv.bytesToString
  split
  · exact (Obl.pure _).stl
  · dsimp only
    refine (Stl.loadCellsFrom _ _ 0 #[]).bind fun cs => Stl.bind ?_ fun s => (Obl.pure _).stl
    rw [← Array.forIn_toList]
    exact Stl.forIn _ _ fun c s => by
      repeat' first | exact (Obl.pure _).stl | exact (Obl.stuck _).stl | refine Stl.bind ?_ (fun _ => ?_) | split
  · exact (Obl.stuck _).stl
theorem Stl.convert (src dst e : TypeId) (x : Value) (h1 : P.underlying src = some (.slice e)) (h2 : P.underlying dst = some .string) (h3 : P.underlying e = some (.int .u8)) : Stl P (Go.convert src dst x) := by
  intro w y w' he
  unfold Go.convert at he
  rw [Sem.run_bind, run_underlying h1, Result.andThen_ok, Sem.run_bind, run_underlying h2, Result.andThen_ok] at he
  have hb : ∀ z, (Go.underlying e >>= fun d => match d with | .int .u8 => Conv.bytesToString z | .int .i32 => Conv.runesToString z | _ => Go.stuck "Convert: a slice of what to string?" : Sem Value).run P w = .ok y w' → w' = w := by
    intro z hz
    rw [Sem.run_bind, run_underlying h3, Result.andThen_ok] at hz
    exact Stl.bytesToString z w y w' hz
  cases x <;> dsimp only at he <;> first
    | exact hb _ he
    | (simp [Conv.intToString] at he; exact he.2.symm)
    | (simp at he; exact he.2.symm)

/-! ### classes of operations: 0: hangs on no world; 1: turns none; 2: any other -/
def cls (P : Program) (o : Oper) : Nat :=
  match o.op with
  | .move _ | .assign _ | .pick .. | .extract .. | .unOp .. | .makeInterface .. | .makeFunc .. | .slice .. | .indexAddr .. | .index .. | .binOp .. | .nilCheck _ => 0
  | .convert s d _ =>
    match P.underlying s, P.underlying d with
    | some (.int _), some (.int _) => 0
    | some (.slice e), some .string => match P.underlying e with
      | some (.int .u8) => 1
      | _ => 2
    | _, _ => 2
  | .fieldAddr s _ f =>
    match P.underlying s with
    | some (.struct fs) => match fs[f]? with
      | some fl => match P.info? fl.type with
        | some i => if i.size = 0 then 2 else 0
        | none => 2
      | none => 2
    | _ => 2
  | .load .. => 1
  | .call { callee := .builtin .len, argTypes, .. } =>
    match (argTypes[0]?).bind P.underlying with
    | some .string | some (.slice _) => 0
    | _ => 2
  | .call { callee := .builtin .min, .. } | .call { callee := .builtin .max, .. } => 0
  | _ => 2

/-- What an operation of class 0 asks of its operands. -/
def dynOk (P : Program) (o : Oper) (ρ : Operand → Value) : Bool :=
  match o.op with
  | .binOp _ _ x y _ => plainV (ρ x) && plainV (ρ y)
  | .convert s _ x => match P.underlying s with
    | some (.int _) => intV (ρ x)
    | _ => true
  | .nilCheck x => match ρ x with
    | .pointer (some _) => true
    | _ => false
  | .call { callee := .builtin .min, args, .. } | .call { callee := .builtin .max, args, .. } => (args.map ρ).all intV
  | _ => true

/-- It gives a value. -/
def Val (P : Program) (s : Sem Next) : Prop := ∀ w x w', s.run P w = .ok x w' → ∃ v, x = .value v
theorem Val.of (s : Sem Value) : Val P (s >>= fun a => Pure.pure (Next.value a)) := by
  intro w x w' he
  rw [Sem.run_bind] at he
  cases hs : s.run P w with
  | halt y u => rw [hs] at he; cases he
  | ok a u =>
    rw [hs] at he
    simp at he
    exact ⟨a, he.1.symm⟩
theorem Obl.v {s : Sem Value} (h : Obl P s) : Obl P (s >>= fun a => Pure.pure (Next.value a)) := h.bind fun _ => Obl.pure _
theorem Stl.v {s : Sem Value} (h : Stl P s) : Stl P (s >>= fun a => Pure.pure (Next.value a)) := h.bind fun _ => (Obl.pure _).stl

theorem cls0 (o : Oper) (ρ : Operand → Value) (h : cls P o = 0) (hd : dynOk P o ρ = true) : Obl P (execOp ρ o) ∧ Val P (execOp ρ o) := by
  obtain ⟨dst, op, type, pos, after, guard⟩ := o
  cases op <;> simp only [cls] at h <;> (try (exact absurd h (by decide)))
  case move x => exact ⟨Obl.pure _, fun w y w' he => by simp [execOp] at he; exact ⟨_, he.1.symm⟩⟩
  case assign x => exact ⟨Obl.pure _, fun w y w' he => by simp [execOp] at he; exact ⟨_, he.1.symm⟩⟩
  case pick c a b =>
    refine ⟨(Obl.asBool _).bind fun _ => Obl.pure _, fun w y w' he => ?_⟩
    simp only [execOp, Sem.run_bind] at he
    cases hs : (Go.asBool (ρ c)).run P w with
    | halt y u => rw [hs] at he; cases he
    | ok a u =>
      rw [hs] at he
      simp at he
      exact ⟨_, he.1.symm⟩
  case nilCheck x =>
    simp only [dynOk] at hd
    simp only [execOp]
    split at hd
    · rename_i a hx
      rw [hx]
      exact ⟨Obl.pure _, fun w y w' he => by simp at he; exact ⟨_, he.1.symm⟩⟩
    · cases hd
  case binOp b t x y u =>
    simp only [dynOk, Bool.and_eq_true] at hd
    exact ⟨Obl.v ((Obl.eqGuard _ _ _ _ _ _ hd.1 hd.2).bind fun _ => Obl.binOp _ _ _ _ hd.1 hd.2), Val.of _⟩
  case unOp b t x => exact ⟨Obl.v (Obl.unary _ _), Val.of _⟩
  case convert s d x =>
    refine ⟨?_, Val.of _⟩
    simp only [dynOk] at hd
    split at h
    · rename_i k k' h1 h2
      rw [h1] at hd
      exact Obl.v (Obl.convert s d _ k k' h1 h2 hd)
    · split at h <;> cases h
    · cases h
  case makeInterface t x => exact ⟨Obl.v (Obl.makeInterface _ _), Val.of _⟩
  case makeFunc fn a b => exact ⟨Obl.v (Obl.pure _), Val.of _⟩
  case slice t x lo hi mx => exact ⟨Obl.v (Obl.sliceAt _ _ _ _ _), Val.of _⟩
  case fieldAddr s x f =>
    refine ⟨?_, Val.of _⟩
    split at h
    · rename_i fs h1
      split at h
      · rename_i fl h2
        split at h
        · rename_i i h3
          split at h
          · cases h
          · rename_i h4
            exact Obl.v (Obl.fieldAt s _ f fs fl i h1 h2 h3 h4)
        · cases h
      · cases h
    · cases h
  case indexAddr t x i => exact ⟨Obl.v (Obl.indexAt _ _ _), Val.of _⟩
  case index t x i => exact ⟨Obl.v (Obl.index _ _ _), Val.of _⟩
  case extract t i => exact ⟨Obl.v (Obl.extract _ _), Val.of _⟩
  case call c =>
    obtain ⟨callee, args, argTypes⟩ := c
    cases callee with
    | value f => simp at h
    | invoke r m => simp at h
    | builtin b =>
      cases b <;> simp at h
      case len =>
        refine ⟨?_, ?_⟩
        · simp only [execOp, resolve, pure_bind, invoke, builtin]
          refine Obl.v ?_
          cases h0 : argTypes[0]? with
          | none => rw [h0] at h; simp at h
          | some t0 =>
            rw [h0] at h
            simp only [Option.bind_some] at h
            split at h
            · rename_i hd'
              exact Obl.len_ _ _ t0 _ _ h0 hd' rfl
            · rename_i e hd'
              exact Obl.len_ _ _ t0 _ _ h0 hd' rfl
            · cases h
        · simp only [execOp, resolve, pure_bind, invoke, builtin]
          exact Val.of _
      case min =>
        simp only [execOp, resolve, pure_bind, invoke, builtin]
        exact ⟨Obl.v (Obl.min_ _ _ _ hd), Val.of _⟩
      case max =>
        simp only [execOp, resolve, pure_bind, invoke, builtin]
        exact ⟨Obl.v (Obl.max_ _ _ _ hd), Val.of _⟩

theorem cls1 (o : Oper) (ρ : Operand → Value) (h : cls P o = 1) : Stl P (execOp ρ o) ∧ Val P (execOp ρ o) := by
  obtain ⟨dst, op, type, pos, after, guard⟩ := o
  cases op <;> simp only [cls] at h <;> (try (exact absurd h (by decide)))
  case load t a => exact ⟨Stl.v (Stl.loadAt _ _), Val.of _⟩
  case convert s d x =>
    refine ⟨?_, Val.of _⟩
    split at h
    · cases h
    · rename_i e h1 h2
      split at h
      · rename_i h3
        exact Stl.v (Stl.convert s d e _ h1 h2 h3)
      · cases h
    · cases h
  case fieldAddr s x f =>
    exfalso
    revert h
    repeat' split
    all_goals (intro h; cases h)
  case call c =>
    exfalso
    revert h
    repeat' split
    all_goals (intro h; first | (exfalso; simp_all; done) | (cases h; done))

/-! ### the walk in the order of the text -/
variable {ops : Array Oper}

/-- An operation, no panic let in. -/
def st (P : Program) (ops : Array Oper) (i : Nat) (K : Act → World → Prop) (a : Act) (w : World) : Prop := wpOp P ops (fun _ _ _ => False) i K a w

theorem lets_false : ¬ LetsOut (fun _ _ _ => False) := fun ⟨_, _, h⟩ => h

theorem st_mono {i : Nat} {a : Act} {w : World} {K K' : Act → World → Prop} (h : ∀ a w, K a w → K' a w) (hh : st P ops i K a w) : st P ops i K' a w := wpOp_mono h hh

/-- What an operation leaves of the frame. -/
def Left1 (ops : Array Oper) (i : Nat) (a a' : Act) : Prop := ∃ u ds, a' = (({ a with defers := ds } : Act).put ((ops[i]?).bind (·.dst)) u)

theorem left_eval {i : Nat} {a a' : Act} (h : Left1 ops i a a') (x : Operand) (hx : ∀ d, (ops[i]?).bind (·.dst) = some d → x ≠ .tmp d) : a'.eval x = a.eval x := by
  obtain ⟨u, ds, rfl⟩ := h
  rw [Act.eval_put hx]
  cases x <;> rfl

/-- Each operation comes to something, and leaves the frame as it was but for its own slot. -/
theorem st_frame {i : Nat} {K : Act → World → Prop} {a : Act} {w : World} (h : st P ops i K a w) : st P ops i (fun a' w' => K a' w' ∧ (Left1 ops i a a' ∨ ops[i]? = none)) a w := by
  unfold st wpOp at *
  cases ho : ops[i]? with
  | none =>
    simp only [ho] at h ⊢
    exact ⟨h, .inr trivial⟩
  | some o =>
    simp only [ho] at h ⊢
    have hl : ∀ u, Left1 ops i a (a.put o.dst u) := fun u => ⟨u, a.defers, by rw [ho]; rfl⟩
    have hld : ∀ d u, Left1 ops i a (({ a with defers := d :: a.defers } : Act).put o.dst u) := fun d u => ⟨u, d :: a.defers, by rw [ho]; rfl⟩
    split
    · rename_i hw
      simp only [hw, if_true] at h
      refine h.imp (fun h => ?_) id
      unfold Oper.wp at *
      generalize (execOp a.eval o).run P w = r at *
      cases r with
      | ok n w' =>
        cases n <;> simp only [Oper.upon] at h ⊢ <;>
          first
            | exact ⟨h, .inl (hl _)⟩
            | exact ⟨h, .inl (hld _ _)⟩
            | exact Calls.mono h (fun e w'' he => by cases e <;> first | exact ⟨he, .inl (hl _)⟩ | exact he)
            | exact Rows.mono h (fun _ _ he => ⟨he, .inl (hl _)⟩)
      | halt x w' => cases x <;> simp only [Oper.upon] at h ⊢
    · rename_i hw
      simp only [hw] at h
      exact ⟨h, .inl (hl _)⟩

/-- .. it comes to something. -/
theorem st_out {i : Nat} {K : Act → World → Prop} {a : Act} {w : World} (h : st P ops i K a w) : ∃ a' w', K a' w' := by
  unfold st wpOp at h
  cases ho : ops[i]? with
  | none =>
    simp only [ho] at h
    exact ⟨_, _, h⟩
  | some o =>
    simp only [ho] at h
    split at h
    · rcases h with h | ⟨_, h⟩
      · unfold Oper.wp at h
        generalize (execOp a.eval o).run P w = r at *
        cases r with
        | ok n w' =>
          cases n <;> simp only [Oper.upon] at h
          case value => exact ⟨_, _, h⟩
          case skip => exact ⟨_, _, h⟩
          case defer => exact ⟨_, _, h⟩
          case enter f args =>
            obtain ⟨e, w'', fr, hR, _⟩ := h []
            cases e with
            | returned v => exact ⟨_, _, hR⟩
            | panicked c => exact hR.elim
            | outgrown => exact absurd hR lets_false
          case row row args =>
            obtain ⟨v, w'', hR, _⟩ := h default []
            exact ⟨_, _, hR⟩
        | halt x w' => cases x <;> simp only [Oper.upon] at h
      · exact absurd h lets_false
    · exact ⟨_, _, h⟩

/-- Whether the value of an operation apart lies in its slot already makes no difference. -/
theorem st_shift {j : Nat} {oj : Oper} (hj : ops[j]? = some oj) (hsj : ∀ cs b, oj.op ≠ .select cs b) {dst : Option Tmp} (v : Value) (h1 : ∀ d, dst = some d → d ∉ oj.looksAt ops) (h2 : ∀ d, dst = some d → oj.dst ≠ some d)
    {K : Act → World → Prop} {a : Act} {w : World} : st P ops j K (a.put dst v) w ↔ st P ops j (fun a' w' => K (a'.put dst v) w') a w := by
  unfold st wpOp
  simp only [hj]
  rw [wanted_put oj a dst v h1]
  have hcomm : ∀ (b : Act) u, (b.put dst v).put oj.dst u = (b.put oj.dst u).put dst v := fun b u => Act.put_comm b v u h2
  split
  · refine or_congr ?_ ?_
    · unfold Oper.wp
      rw [execOp_put oj hsj a dst v h1]
      generalize (execOp a.eval oj).run P w = r
      cases r with
      | ok n w' =>
        cases n <;> simp only [Oper.upon]
        case value u => rw [hcomm]
        case skip => rw [hcomm]
        case defer d => rw [Act.put_defers, hcomm]
        case enter f args =>
          constructor <;> intro h <;> refine Calls.mono h fun e w'' he => ?_ <;> cases e <;> dsimp only at he ⊢ <;> first | exact he | (rw [hcomm] at he; exact he) | (rw [hcomm]; exact he)
        case row row args =>
          constructor <;> intro h <;> refine Rows.mono h fun u w'' he => ?_ <;> first | (rw [hcomm] at he; exact he) | (rw [hcomm]; exact he)
      | halt x w' => cases x <;> simp only [Oper.upon]
    · constructor <;> rintro ⟨_, h⟩ <;> exact absurd h lets_false
  · rw [hcomm]

theorem apart_looks {oi oj : Oper} (h : oi.apart ops oj = true) : (∀ d, oi.dst = some d → d ∉ oj.looksAt ops) ∧ (∀ d, oi.dst = some d → oj.dst ≠ some d) ∧ (∀ d, oj.dst = some d → d ∉ oi.looksAt ops) := Oper.apart_spec h

theorem dynOk_congr {o : Oper} {ρ ρ' : Operand → Value} (h : ∀ x ∈ o.op.operands, ρ x = ρ' x) : dynOk P o ρ = dynOk P o ρ' := by
  obtain ⟨dst, op, type, pos, after, guard⟩ := o
  unfold dynOk
  cases op <;> dsimp only
  case nilCheck x => rw [h x (by simp [Op.operands])]
  case binOp b t x y u => rw [h x (by simp [Op.operands]), h y (by simp [Op.operands])]
  case convert s d x => rw [h x (by simp [Op.operands])]
  case call c =>
    obtain ⟨callee, args, ats⟩ := c
    have hm : args.map ρ = args.map ρ' := Array.map_congr_left fun x hx => h x (by simp [Op.operands, Call.operands, hx])
    cases callee with
    | value f => rfl
    | invoke r m => rfl
    | builtin b => cases b <;> first | rfl | (dsimp only; rw [hm])

theorem looks_mem {o : Oper} {t : Tmp} (h : Operand.tmp t ∈ o.op.operands) : t ∈ o.looksAt ops :=
  List.mem_append_left _ (List.mem_filterMap.2 ⟨.tmp t, by simpa using h, rfl⟩)

theorem dynOk_left {o : Oper} {i : Nat} {a a' : Act} (hl : Left1 ops i a a') (h : ∀ d, (ops[i]?).bind (·.dst) = some d → d ∉ o.looksAt ops) : dynOk P o a'.eval = dynOk P o a.eval :=
  dynOk_congr fun x hx => left_eval hl x fun d hd hxd => h d hd (by subst hxd; exact looks_mem hx)

/-- Two operations that lie apart may change places, where one of them hangs on no world or both turn none. -/
theorem st_swap {i j : Nat} {oi oj : Oper} (hi : ops[i]? = some oi) (hj : ops[j]? = some oj) (hsi : ∀ cs b, oi.op ≠ .select cs b) (hsj : ∀ cs b, oj.op ≠ .select cs b)
    (hap : oi.apart ops oj = true) {K : Act → World → Prop} {a : Act} {w : World}
    (hcl : cls P oi = 0 ∨ cls P oj = 0 ∨ (cls P oi = 1 ∧ cls P oj = 1))
    (hdi : cls P oi = 0 → Region.wanted oi (yielded ops a.tmps) = true → dynOk P oi a.eval = true)
    (hdj : cls P oj = 0 → Region.wanted oj (yielded ops a.tmps) = true → dynOk P oj a.eval = true)
    (h : st P ops i (st P ops j K) a w) : st P ops j (st P ops i K) a w := by
  obtain ⟨h1, h2, h3⟩ := Oper.apart_spec hap
  have h2' : ∀ d, oj.dst = some d → oi.dst ≠ some d := fun d hd he => h2 d he hd
  -- an operation of class at most 1, met in a frame that another one has turned
  have wi : ∀ a', Left1 ops j a a' → Region.wanted oi (yielded ops a'.tmps) = Region.wanted oi (yielded ops a.tmps) := by
    rintro a' ⟨u, ds, rfl⟩
    rw [hj]
    exact wanted_put oi _ oj.dst u h3
  have ei : ∀ a', Left1 ops j a a' → execOp a'.eval oi = execOp a.eval oi := by
    rintro a' ⟨u, ds, rfl⟩
    rw [hj]
    exact execOp_put oi hsi _ oj.dst u h3
  have wj : ∀ a', Left1 ops i a a' → Region.wanted oj (yielded ops a'.tmps) = Region.wanted oj (yielded ops a.tmps) := by
    rintro a' ⟨u, ds, rfl⟩
    rw [hi]
    exact wanted_put oj _ oi.dst u h1
  have ej : ∀ a', Left1 ops i a a' → execOp a'.eval oj = execOp a.eval oj := by
    rintro a' ⟨u, ds, rfl⟩
    rw [hi]
    exact execOp_put oj hsj _ oi.dst u h1
  -- of class at most 1: what the operation gives
  have give : ∀ {k : Nat} {o : Oper} {L : Act → World → Prop} {b : Act} {u : World}, ops[k]? = some o → cls P o ≤ 1 → (cls P o = 0 → Region.wanted o (yielded ops b.tmps) = true → dynOk P o b.eval = true) → st P ops k L b u →
      (∃ v, (execOp b.eval o).run P u = .ok (.value v) u ∧ Region.wanted o (yielded ops b.tmps) = true ∧ L (b.put o.dst v) u) ∨ (Region.wanted o (yielded ops b.tmps) = false ∧ L (b.put o.dst undef) u) := by
    intro k o L b u hk hc hd hs
    unfold st wpOp at hs
    simp only [hk] at hs
    split at hs
    · rename_i hw
      rcases hs with hs | ⟨_, hs⟩
      · left
        unfold Oper.wp at hs
        have hv : Val P (execOp b.eval o) ∧ Stl P (execOp b.eval o) := by
          rcases Nat.lt_or_ge (cls P o) 1 with h0 | h0
          · have h0' : cls P o = 0 := by omega
            have := cls0 o b.eval h0' (hd h0' hw)
            exact ⟨this.2, this.1.stl⟩
          · have := cls1 o b.eval (show cls P o = 1 by omega)
            exact ⟨this.2, this.1⟩
        cases hr : (execOp b.eval o).run P u with
        | halt x u' => rw [hr] at hs; cases x <;> simp [Oper.upon] at hs
        | ok n u' =>
          obtain ⟨v, rfl⟩ := hv.1 u n u' hr
          have := hv.2 u _ u' hr
          subst this
          rw [hr] at hs
          exact ⟨v, rfl, hw, hs⟩
      · exact absurd hs lets_false
    · rename_i hw
      exact .inr ⟨by simpa using hw, hs⟩
  -- the other way round
  have take : ∀ {k : Nat} {o : Oper} {L : Act → World → Prop} {b : Act} {u : World}, ops[k]? = some o →
      ((∃ v, (execOp b.eval o).run P u = .ok (.value v) u ∧ Region.wanted o (yielded ops b.tmps) = true ∧ L (b.put o.dst v) u) ∨ (Region.wanted o (yielded ops b.tmps) = false ∧ L (b.put o.dst undef) u)) → st P ops k L b u := by
    intro k o L b u hk hs
    unfold st wpOp
    simp only [hk]
    rcases hs with ⟨v, hr, hw, hL⟩ | ⟨hw, hL⟩
    · rw [if_pos hw]
      left
      unfold Oper.wp
      rw [hr]
      exact hL
    · rw [if_neg (by rw [hw]; decide)]
      exact hL
  have left_i : ∀ v, Left1 ops i a (a.put oi.dst v) := fun v => ⟨v, a.defers, by rw [hi]; rfl⟩
  have left_j : ∀ v, Left1 ops j a (a.put oj.dst v) := fun v => ⟨v, a.defers, by rw [hj]; rfl⟩
  by_cases ci : cls P oi = 0
  · -- the first hangs on no world
    rcases give hi (by omega) hdi h with ⟨v, hr, hw, hL⟩ | ⟨hw, hL⟩
    · have hob := (cls0 oi a.eval ci (hdi ci hw)).1
      have h4 := st_frame ((st_shift hj hsj v h1 h2).1 hL)
      refine st_mono ?_ h4
      rintro a' w' ⟨hK, hl⟩
      have hl' := hl.resolve_right (by rw [hj]; simp)
      refine take hi (.inl ⟨v, ?_, ?_, hK⟩)
      · rw [ei a' hl']
        exact (hob w _ w hr).2 w'
      · rw [wi a' hl', hw]
    · have h4 := st_frame ((st_shift hj hsj undef h1 h2).1 hL)
      refine st_mono ?_ h4
      rintro a' w' ⟨hK, hl⟩
      have hl' := hl.resolve_right (by rw [hj]; simp)
      exact take hi (.inr ⟨by rw [wi a' hl', hw], hK⟩)
  · by_cases cj : cls P oj = 0
    · -- the second hangs on no world
      have hf := st_frame h
      obtain ⟨a0, w0, h5, hl0⟩ := st_out hf
      have hl0' := hl0.resolve_right (by rw [hi]; simp)
      have dj : ∀ a', Left1 ops i a a' → cls P oj = 0 → Region.wanted oj (yielded ops a'.tmps) = true → dynOk P oj a'.eval = true := by
        intro a' hl hc hw
        rw [wj a' hl] at hw
        rw [dynOk_left hl (by intro d hd; rw [hi] at hd; exact h1 d hd)]
        exact hdj hc hw
      rcases give hj (by omega) (dj a0 hl0') h5 with ⟨v, hr, hw, _⟩ | ⟨hw, _⟩
      · rw [ej a0 hl0'] at hr
        rw [wj a0 hl0'] at hw
        have hob := (cls0 oj a.eval cj (hdj cj hw)).1
        have hall := (hob w0 _ w0 hr).2
        refine take hj (.inl ⟨v, hall w, hw, ?_⟩)
        refine (st_shift hi hsi v h3 h2').2 (st_mono ?_ hf)
        rintro a' w' ⟨h6, hl⟩
        have hl' := hl.resolve_right (by rw [hi]; simp)
        rcases give hj (by omega) (dj a' hl') h6 with ⟨v', hr', _, hL'⟩ | ⟨hw', _⟩
        · rw [ej a' hl', hall w'] at hr'
          cases hr'
          exact hL'
        · rw [wj a' hl', hw] at hw'
          cases hw'
      · rw [wj a0 hl0'] at hw
        refine take hj (.inr ⟨hw, ?_⟩)
        refine (st_shift hi hsi undef h3 h2').2 (st_mono ?_ hf)
        rintro a' w' ⟨h6, hl⟩
        have hl' := hl.resolve_right (by rw [hi]; simp)
        rcases give hj (by omega) (dj a' hl') h6 with ⟨v', _, hw', _⟩ | ⟨_, hL'⟩
        · rw [wj a' hl', hw] at hw'
          cases hw'
        · exact hL'
    · -- both turn no world
      obtain ⟨c1, c2⟩ : cls P oi = 1 ∧ cls P oj = 1 := by
        rcases hcl with h' | h' | h'
        · exact absurd h' ci
        · exact absurd h' cj
        · exact h'
      have comm : ∀ u v, (a.put oi.dst v).put oj.dst u = (a.put oj.dst u).put oi.dst v := fun u v => Act.put_comm a v u h2
      rcases give hi (by omega) hdi h with ⟨v, hr, hw, hL⟩ | ⟨hw, hL⟩
      · rcases give hj (by omega) (fun hc => absurd hc cj) hL with ⟨u, hr', hw', hK⟩ | ⟨hw', hK⟩
        · rw [ej _ (left_i v)] at hr'
          rw [wj _ (left_i v)] at hw'
          refine take hj (.inl ⟨u, hr', hw', take hi (.inl ⟨v, ?_, ?_, ?_⟩)⟩)
          · rw [ei _ (left_j u)]; exact hr
          · rw [wi _ (left_j u)]; exact hw
          · rw [← comm]; exact hK
        · rw [wj _ (left_i v)] at hw'
          refine take hj (.inr ⟨hw', take hi (.inl ⟨v, ?_, ?_, ?_⟩)⟩)
          · rw [ei _ (left_j undef)]; exact hr
          · rw [wi _ (left_j undef)]; exact hw
          · rw [← comm]; exact hK
      · rcases give hj (by omega) (fun hc => absurd hc cj) hL with ⟨u, hr', hw', hK⟩ | ⟨hw', hK⟩
        · rw [ej _ (left_i undef)] at hr'
          rw [wj _ (left_i undef)] at hw'
          refine take hj (.inl ⟨u, hr', hw', take hi (.inr ⟨?_, ?_⟩)⟩)
          · rw [wi _ (left_j u)]; exact hw
          · rw [← comm]; exact hK
        · rw [wj _ (left_i undef)] at hw'
          refine take hj (.inr ⟨hw', take hi (.inr ⟨?_, ?_⟩)⟩)
          · rw [wi _ (left_j undef)]; exact hw
          · rw [← comm]; exact hK

/-! ### the whole region -/
theorem wpOp_exit {Q Q' : Exit → Act → World → Prop} (hp : ∀ c a w, Q (.panic c) a w → Q' (.panic c) a w) (ho : LetsOut Q → LetsOut Q') {i : Nat} {K : Act → World → Prop} {a : Act} {w : World} (h : wpOp P ops Q i K a w) : wpOp P ops Q' i K a w := by
  unfold wpOp at *
  cases hi : ops[i]? with
  | none => simp only [hi] at h ⊢; exact h
  | some o =>
    simp only [hi] at h ⊢
    split
    · rename_i hw
      simp only [hw, if_true] at h
      refine h.imp (fun h => ?_) (fun h => ⟨h.1, ho h.2⟩)
      unfold Oper.wp at *
      generalize (execOp a.eval o).run P w = r at *
      cases r with
      | ok n w' =>
        cases n <;> simp only [Oper.upon] at h ⊢ <;>
          first
            | exact h
            | exact Calls.mono h (fun e w'' he => by cases e <;> first | exact he | exact hp _ _ _ he | exact ho he)
      | halt x w' => cases x <;> simp only [Oper.upon] at h ⊢ <;> exact hp _ _ _ h
    · rename_i hw
      simp only [hw] at h
      exact h

/-- .. along a list. -/
def tx (P : Program) (ops : Array Oper) : List Nat → (Act → World → Prop) → Act → World → Prop
  | [], K => K
  | i :: l, K => st P ops i (tx P ops l K)

theorem tx_of_ops {K : Act → World → Prop} : ∀ (l : List Nat) (a : Act) (w : World), wpOps P ops (Exit.then K (fun _ _ _ => False)) l a w → tx P ops l K a w := by
  intro l
  induction l with
  | nil => intro a w h; exact h
  | cons i l ih =>
    intro a w h
    rw [wpOps_cons] at h
    exact st_mono (fun a w => ih a w) (wpOp_exit (fun _ _ _ h => h) (fun ⟨_, _, h⟩ => h.elim) h)

/-- What the operation asks of its operands, it finds. -/
def Dyn (P : Program) (ops : Array Oper) (i : Nat) (a : Act) : Prop := ∀ o, ops[i]? = some o → cls P o = 0 → Region.wanted o (yielded ops a.tmps) = true → dynOk P o a.eval = true

def txd (P : Program) (ops : Array Oper) : List Nat → (Act → World → Prop) → Act → World → Prop
  | [], K => K
  | i :: l, K => fun a w => Dyn P ops i a ∧ st P ops i (txd P ops l K) a w

def dstOf (ops : Array Oper) (k : Nat) : Option Tmp := (ops[k]?).bind (·.dst)

theorem wanted_left {o : Oper} {i : Nat} {a a' : Act} (hl : Left1 ops i a a') (h : ∀ d, dstOf ops i = some d → d ∉ o.looksAt ops) : Region.wanted o (yielded ops a'.tmps) = Region.wanted o (yielded ops a.tmps) := by
  obtain ⟨u, ds, rfl⟩ := hl
  exact wanted_put o _ _ u h

theorem tx_out {K : Act → World → Prop} : ∀ (l : List Nat) (a : Act) (w : World), (∀ k ∈ l, ops[k]? ≠ none) → tx P ops l K a w → ∃ a' w', K a' w' ∧
    ∀ o : Oper, (∀ k ∈ l, ∀ d, dstOf ops k = some d → d ∉ o.looksAt ops) → dynOk P o a'.eval = dynOk P o a.eval ∧ Region.wanted o (yielded ops a'.tmps) = Region.wanted o (yielded ops a.tmps) := by
  intro l
  induction l with
  | nil => intro a w _ h; exact ⟨a, w, h, fun o _ => ⟨rfl, rfl⟩⟩
  | cons i l ih =>
    intro a w hv h
    obtain ⟨a1, w1, h1, hl⟩ := st_out (st_frame h)
    obtain ⟨a2, w2, h2, hk⟩ := ih a1 w1 (fun k hk => hv k (by simp [hk])) h1
    refine ⟨a2, w2, h2, fun o ho => ?_⟩
    obtain ⟨e1, e2⟩ := hk o fun k hk => ho k (by simp [hk])
    have hl := hl.resolve_right (hv i (by simp))
    have h3 := ho i (by simp)
    exact ⟨e1.trans (dynOk_left hl h3), e2.trans (wanted_left hl h3)⟩

/-- Operations that may ask something of their operands. -/
def needs (o : Oper) : Bool :=
  match o.op with
  | .binOp .. | .convert .. | .nilCheck _ | .call { callee := .builtin _, .. } => true
  | _ => false

theorem dynOk_idle {o : Oper} {ρ : Operand → Value} (h : needs o = false) : dynOk P o ρ = true := by
  obtain ⟨dst, op, type, pos, after, guard⟩ := o
  cases op <;> first | rfl | (simp [needs] at h; done) | skip
  case call c =>
    obtain ⟨callee, args, ats⟩ := c
    cases callee <;> first | rfl | (simp [needs] at h; done)

def plainEnd (P : Program) (ops : Array Oper) (a : Act) : Bool := ops.all fun o => !needs o || dynOk P o a.eval || !Region.wanted o (yielded ops a.tmps) || cls P o != 0

theorem plainEnd_dyn {a : Act} (h : plainEnd P ops a = true) (i : Nat) : Dyn P ops i a := by
  intro o ho hc hw
  have h1 := Array.all_eq_true_iff_forall_mem.1 h o (Array.mem_of_getElem? ho)
  simp only [hc, hw, Bool.or_eq_true, Bool.not_eq_true'] at h1
  rcases h1 with ((h1 | h1) | h1) | h1
  · exact dynOk_idle h1
  · exact h1
  · cases h1
  · simp at h1

/-- No operation behind it writes what this one looks at. -/
def lateOk (P : Program) (ops : Array Oper) (i : Nat) (o : Oper) : Bool :=
  !needs o || cls P o != 0 || (List.range ops.size).all fun k => decide (k < i) || match dstOf ops k with
    | some d => !(o.looksAt ops).contains d
    | none => true

theorem txd_of_tx {K : Act → World → Prop} (hlate : ∀ i o, ops[i]? = some o → lateOk P ops i o = true) (hK : ∀ a w, K a w → plainEnd P ops a = true) :
    ∀ (m k : Nat) (a : Act) (w : World), k + m = ops.size → tx P ops (List.range' k m) K a w → txd P ops (List.range' k m) K a w := by
  intro m
  induction m with
  | zero => intro k a w _ h; exact h
  | succ m ih =>
    intro k a w hkm h
    have hvalid : ∀ j ∈ List.range' k (m + 1), ops[j]? ≠ none := by
      intro j hj
      rw [List.mem_range'_1] at hj
      rw [Ne, Array.getElem?_eq_none_iff]
      omega
    obtain ⟨a2, w2, h2, hk⟩ := tx_out _ a w hvalid h
    rw [List.range'_succ] at h ⊢
    refine ⟨?_, st_mono (fun a' w' h' => ih (k + 1) a' w' (by omega) h') h⟩
    intro o ho hc hw
    by_cases hn : needs o = true
    · have hl := hlate k o ho
      simp only [lateOk, hn, hc, Bool.or_eq_true, List.all_eq_true, List.mem_range, decide_eq_true_eq] at hl
      have hl := hl.resolve_left (by simp)
      obtain ⟨e1, e2⟩ := hk o fun j hj d hd => by
        rw [List.mem_range'_1] at hj
        have h3 := (hl j (by omega)).resolve_left (by omega)
        rw [hd] at h3
        simpa using h3
      rw [← e1]
      exact plainEnd_dyn (hK _ _ h2) k o ho hc (by rw [e2]; exact hw)
    · exact dynOk_idle (by simpa using hn)

/-- Two operations of which either may come first do not meet. -/
def pairOk (P : Program) (ops : Array Oper) (M : List Nat) (i j : Nat) : Bool :=
  match ops[i]?, ops[j]? with
  | some oi, some oj =>
    if (M.getD j 0).testBit i then oj.after.any fun e => Region.binds .any e && (e.on == i || (decide (i < e.on) && (M.getD e.on 0).testBit i))
    else oi.apart ops oj && (cls P oi == 0 || cls P oj == 0 || (cls P oi == 1 && cls P oj == 1))
  | _, _ => true

def textOk (P : Program) (M : List Nat) (ops : Array Oper) : Bool :=
  Region.noSelect ops && (List.range ops.size).all fun j => match ops[j]? with
    | some oj => lateOk P ops j oj && (oj.after.all fun e => !Region.binds .any e || decide (e.on < j)) && (List.range j).all fun i => pairOk P ops M i j
    | none => true

structure TextOk (P : Program) (M : List Nat) (ops : Array Oper) : Prop where
  nosel : Region.noSelect ops = true
  late : ∀ i o, ops[i]? = some o → lateOk P ops i o = true
  back : ∀ j o, ops[j]? = some o → ∀ e ∈ o.after, Region.binds .any e = true → e.on < j
  pair : ∀ i j, i < j → j < ops.size → pairOk P ops M i j = true

theorem textOk_spec {M : List Nat} (h : textOk P M ops = true) : TextOk P M ops := by
  simp only [textOk, Bool.and_eq_true, List.all_eq_true, List.mem_range] at h
  have key : ∀ j o, ops[j]? = some o → (lateOk P ops j o = true ∧ (∀ e ∈ o.after, Region.binds .any e = true → e.on < j)) ∧ ∀ i, i < j → pairOk P ops M i j = true := by
    intro j o ho
    have h1 := h.2 j (Array.getElem?_eq_some_iff.1 ho).1
    rw [ho] at h1
    simp only [Bool.and_eq_true, List.all_eq_true, List.mem_range, Array.all_eq_true_iff_forall_mem, Bool.or_eq_true, decide_eq_true_eq] at h1
    refine ⟨⟨h1.1.1, fun e he hb => (h1.1.2 e he).resolve_left (by simp [hb])⟩, h1.2⟩
  exact ⟨h.1, fun i o ho => (key i o ho).1.1, fun j o ho => (key j o ho).1.2, fun i j hij hj => (key j ops[j] (by simp [hj])).2 i hij⟩

theorem dyn_left {i j : Nat} {oj : Oper} {a a' : Act} (hj : ops[j]? = some oj) (hl : Left1 ops i a a') (h : ∀ d, dstOf ops i = some d → d ∉ oj.looksAt ops) : Dyn P ops j a' ↔ Dyn P ops j a := by
  unfold Dyn
  rw [hj]
  simp only [Option.some.injEq, forall_eq']
  rw [wanted_left hl h, dynOk_left hl h]

theorem txd_swap {i j : Nat} {oi oj : Oper} (hi : ops[i]? = some oi) (hj : ops[j]? = some oj) (hns : Region.noSelect ops = true) (hap : oi.apart ops oj = true)
    (hcl : cls P oi = 0 ∨ cls P oj = 0 ∨ (cls P oi = 1 ∧ cls P oj = 1)) {l : List Nat} {K : Act → World → Prop} {a : Act} {w : World} (h : txd P ops (i :: j :: l) K a w) : txd P ops (j :: i :: l) K a w := by
  obtain ⟨hdi, h⟩ := h
  obtain ⟨h1, h2, h3⟩ := Oper.apart_spec hap
  have h1' : ∀ d, dstOf ops i = some d → d ∉ oj.looksAt ops := fun d hd => h1 d (by simpa [dstOf, hi] using hd)
  have h3' : ∀ d, dstOf ops j = some d → d ∉ oi.looksAt ops := fun d hd => h3 d (by simpa [dstOf, hj] using hd)
  have hf := st_frame h
  obtain ⟨a1, w1, ⟨hdj, _⟩, hl⟩ := st_out hf
  have hl := hl.resolve_right (by rw [hi]; simp)
  have hdj' := (dyn_left hj hl h1').1 hdj
  refine ⟨hdj', ?_⟩
  have h4 : st P ops i (st P ops j (txd P ops l K)) a w := st_mono (fun a' w' h => h.2) h
  have h5 := st_swap hi hj (fun cs b => Region.noSelect_spec hns i oi cs b hi) (fun cs b => Region.noSelect_spec hns j oj cs b hj) hap hcl (fun hc hw => hdi oi hi hc hw) (fun hc hw => hdj' oj hj hc hw) h4
  refine st_mono ?_ (st_frame h5)
  rintro a' w' ⟨h6, hl'⟩
  exact ⟨(dyn_left hi (hl'.resolve_right (by rw [hj]; simp)) h3').2 hdi, h6⟩

theorem txd_front {M : List Nat} (ht : TextOk P M ops) {K : Act → World → Prop} {i : Nat} {oi : Oper} (hi : ops[i]? = some oi) : ∀ (l1 l2 : List Nat) (a : Act) (w : World), (∀ j ∈ l1, j < i ∧ (M.getD i 0).testBit j = false) →
    txd P ops (l1 ++ i :: l2) K a w → txd P ops (i :: (l1 ++ l2)) K a w := by
  intro l1
  induction l1 with
  | nil => intro l2 a w _ h; exact h
  | cons j l1 ih =>
    intro l2 a w hl h
    obtain ⟨hd, h⟩ := h
    have h' : txd P ops (j :: i :: (l1 ++ l2)) K a w := ⟨hd, st_mono (fun a' w' h' => ih l2 a' w' (fun k hk => hl k (by simp [hk])) h') h⟩
    obtain ⟨hji, hbit⟩ := hl j (by simp)
    have hlt := (Array.getElem?_eq_some_iff.1 hi).1
    have hj : ops[j]? = some ops[j] := by simp
    have hp := ht.pair j i hji hlt
    unfold pairOk at hp
    rw [hj, hi] at hp
    simp only [hbit, Bool.false_eq_true, if_false, Bool.and_eq_true, Bool.or_eq_true, beq_iff_eq] at hp
    exact txd_swap hj hi ht.nosel hp.1 (by rcases hp.2 with (h | h) | h <;> simp [h]) h'

/-- A bit of the masks is a road of binding edges. -/
def bitOk (ops : Array Oper) (M : List Nat) (i j : Nat) : Bool :=
  match ops[j]? with
  | some oj => !(M.getD j 0).testBit i || oj.after.any fun e => Region.binds .any e && (e.on == i || (decide (i < e.on) && (M.getD e.on 0).testBit i))
  | none => true

theorem wpAny_of {M : List Nat} {Q : Exit → Act → World → Prop} {T : List Nat → Act → World → Prop} (hnil : ∀ a w, T [] a w → Q .normal a w) (hcons : ∀ i l a w, T (i :: l) a w → st P ops i (T l) a w)
    (hfront0 : ∀ i l1 l2 a w, i < ops.size → (∀ j ∈ l1, j < i ∧ (M.getD i 0).testBit j = false) → T (l1 ++ i :: l2) a w → T (i :: (l1 ++ l2)) a w)
    (back : ∀ j o, ops[j]? = some o → ∀ e ∈ o.after, Region.binds .any e = true → e.on < j) (bits : ∀ i j, i < j → j < ops.size → bitOk ops M i j = true) : ∀ (n : Nat) (l : List Nat) (listed : Array Bool) (a : Act) (w : World), l.length = n → listed.size = ops.size → l.Pairwise (· < ·) → (∀ j, j ∈ l ↔ listed.getD j true = false) →
    (∀ x, listed.getD x false = true → ∀ j, j < x → (M.getD x 0).testBit j = true → listed.getD j false = true) → T l a w → wpAny P .any ops Q n listed a w := by
  intro n
  induction n with
  | zero =>
    intro l listed a w hn hs hp hm hd h
    obtain rfl := List.length_eq_zero_iff.1 hn
    refine ⟨?_, hnil _ _ h⟩
    rw [List.eq_nil_iff_forall_not_mem]
    intro j hj
    have := (hm j).2 (mem_ready.1 hj).1
    simp at this
  | succ n ih =>
    intro l listed a w hn hs hp hm hd h
    have hsize : ∀ j, j ∈ l → j < ops.size := by
      intro j hj
      have h1 := (hm j).1 hj
      rcases Nat.lt_or_ge j ops.size with h2 | h2
      · exact h2
      · simp [Array.getElem?_eq_none (show listed.size ≤ j by omega)] at h1
    have hflip : ∀ j, j < ops.size → j ∉ l → listed.getD j false = true := by
      intro j hj hn
      have h1 : ¬ listed.getD j true = false := fun h => hn ((hm j).2 h)
      have hj' : j < listed.size := by omega
      simp [hj'] at h1 ⊢
      exact h1
    refine ⟨fun hr => ?_, fun i hi => ?_⟩
    · exfalso
      cases l with
      | nil => simp at hn
      | cons x l =>
        have hx := hsize x (by simp)
        have : x ∈ Region.ready .any ops listed := by
          refine mem_ready.2 ⟨(hm x).1 (by simp), ops[x], by simp [hx], fun e he hb => ?_⟩
          have he' := back x ops[x] (by simp [hx]) e he hb
          refine hflip e.on (by omega) fun hmem => ?_
          rw [List.mem_cons] at hmem
          rcases hmem with h1 | h1
          · omega
          · have := (List.pairwise_cons.1 hp).1 _ h1
            omega
        rw [hr] at this
        cases this
    · obtain ⟨hun, oi, hoi, hall⟩ := mem_ready.1 hi
      have hil := (hm i).2 hun
      obtain ⟨l1, l2, rfl⟩ := List.append_of_mem hil
      have hlt := hsize i hil
      have hp' := List.pairwise_append.1 hp
      have hfront : ∀ j ∈ l1, j < i ∧ (M.getD i 0).testBit j = false := by
        intro j hj
        have hji : j < i := hp'.2.2 j hj i (by simp)
        refine ⟨hji, ?_⟩
        cases hb : (M.getD i 0).testBit j with
        | false => rfl
        | true =>
          exfalso
          have hpr := bits j i hji hlt
          have hjs : j < ops.size := by omega
          unfold bitOk at hpr
          rw [hoi] at hpr
          simp only [hb, Bool.not_true, Bool.false_or] at hpr
          obtain ⟨e, he, hb2⟩ := Array.any_eq_true'.1 hpr
          simp only [Bool.and_eq_true, Bool.or_eq_true, beq_iff_eq, decide_eq_true_eq] at hb2
          have hle := hall e he hb2.1
          have hjl : listed.getD j false = true := by
            rcases hb2.2 with h1 | ⟨h1, h2⟩
            · rw [← h1]; exact hle
            · exact hd e.on hle j h1 h2
          have := (hm j).1 (by simp [hj])
          have hj' : j < listed.size := by omega
          simp [hj'] at this hjl
          rw [this] at hjl
          cases hjl
      have h6 := hcons i (l1 ++ l2) a w (hfront0 i l1 l2 a w hlt hfront h)
      refine wpOp_exit (fun _ _ _ h => h.elim) (fun ⟨_, _, h⟩ => h.elim) (wpOp_mono (fun a' w' h7 => ?_) h6)
      have hnil1 : i ∉ l1 := fun hm1 => by have := (hfront i hm1).1; omega
      have hnil2 : i ∉ l2 := fun hm2 => by have := (List.pairwise_cons.1 hp'.2.1).1 i hm2; omega
      refine ih (l1 ++ l2) (listed.setIfInBounds i true) a' w' ?_ ?_ ?_ ?_ ?_ h7
      · simp at hn ⊢; omega
      · simpa using hs
      · exact List.pairwise_append.2 ⟨hp'.1, (List.pairwise_cons.1 hp'.2.1).2, fun x hx y hy => hp'.2.2 x hx y (by simp [hy])⟩
      · intro j
        by_cases hij : i = j
        · subst hij
          have : i < listed.size := by omega
          simp [hnil1, hnil2, this]
        · rw [getD_set_ne true hij, ← hm j]
          simp [Ne.symm hij]
      · intro x hx j hjx hb
        by_cases hix : i = x
        · subst hix
          by_cases hjl : j ∈ l1
          · have := (hfront j hjl).2
            rw [this] at hb
            cases hb
          · refine getD_set_true (hflip j (by omega) fun hm' => ?_)
            rw [List.mem_append, List.mem_cons] at hm'
            rcases hm' with h1 | h1 | h1
            · exact hjl h1
            · omega
            · have := (List.pairwise_cons.1 hp'.2.1).1 j h1
              omega
        · rw [getD_set_ne false hix] at hx
          exact getD_set_true (hd x hx j hjx hb)

theorem wpAny_of_txd {M : List Nat} (ht : TextOk P M ops) {Q : Exit → Act → World → Prop} (n : Nat) (l : List Nat) (listed : Array Bool) (a : Act) (w : World) (h1 : l.length = n) (h2 : listed.size = ops.size) (h3 : l.Pairwise (· < ·)) (h4 : ∀ j, j ∈ l ↔ listed.getD j true = false)
    (h5 : ∀ x, listed.getD x false = true → ∀ j, j < x → (M.getD x 0).testBit j = true → listed.getD j false = true) (h6 : txd P ops l (Q .normal) a w) : wpAny P .any ops Q n listed a w := by
  refine wpAny_of (M := M) (T := fun l => txd P ops l (Q .normal)) (fun _ _ h => h) (fun _ _ _ _ h => h.2) (fun i l1 l2 a w hi hl h => txd_front ht (oi := ops[i]) (by simp [hi]) l1 l2 a w hl h) ht.back (fun i j hij hj => ?_) n l listed a w h1 h2 h3 h4 h5 h6
  have h := ht.pair i j hij hj
  have hi : i < ops.size := by omega
  unfold pairOk at h
  unfold bitOk
  rw [show ops[j]? = some ops[j] by simp [hj], show ops[i]? = some ops[i] by simp [hi]] at h
  rw [show ops[j]? = some ops[j] by simp [hj]]
  dsimp only at h ⊢
  split at h
  · simp only [h, Bool.or_true]
  · rename_i hb
    simp only [hb, Bool.not_false, Bool.true_or]

theorem txd_mono {K K' : Act → World → Prop} (h : ∀ a w, K a w → K' a w) : ∀ (l : List Nat) (a : Act) (w : World), txd P ops l K a w → txd P ops l K' a w := by
  intro l
  induction l with
  | nil => intro a w h'; exact h a w h'
  | cons i l ih => intro a w h'; exact ⟨h'.1, st_mono (fun a w => ih a w) h'.2⟩

/-- A REGION WHOSE ORDER IS DRAWN, WALKED IN THE ORDER OF THE TEXT. No panic may come of it. -/
theorem wp_region_text {id : Nat} {l : List Oper} {Q : Exit → Act → World → Prop} {a : Act} {w : World} (M : List Nat) (hm : P.follows .mixedOrders = true) (hst : textOk P M l.toArray = true)
    (h : ∀ K : Act → World → Prop, (∀ a' w', plainEnd P l.toArray a' = true → Q .normal a' w' → K a' w') → wpList P l.toArray (Exit.then K (fun _ _ _ => False)) l a w.drew) :
    (Code.region id l.toArray true).wp P Q a w := by
  have ht := textOk_spec hst
  refine wp_region_any hm ?_
  have h1 := h (fun a' w' => plainEnd P l.toArray a' = true ∧ Q .normal a' w') (fun a' w' h1 h2 => ⟨h1, h2⟩)
  rw [← wpOps_eq_wpList (ops := l.toArray) l 0 (by simp)] at h1
  have h2 := txd_of_tx (K := fun a' w' => plainEnd P l.toArray a' = true ∧ Q .normal a' w') ht.late (fun _ _ h => h.1) l.length 0 a w.drew (by simp) (tx_of_ops _ a w.drew h1)
  have h3 : txd P l.toArray (List.range' 0 l.length) (Q .normal) a w.drew := txd_mono (fun _ _ h => h.2) _ a w.drew h2
  show wpAny P .any l.toArray Q l.length (Array.replicate l.toArray.size false) a w.drew
  refine wpAny_of_txd ht l.length (List.range' 0 l.length) _ a w.drew (by simp) (by simp) ?_ ?_ ?_ h3
  · exact List.pairwise_lt_range'
  · intro j
    rw [List.mem_range'_1]
    rcases Nat.lt_or_ge j l.length with h4 | h4
    · simp [h4]
    · simp [Array.getElem?_eq_none, h4]
  · intro x hx
    rcases Nat.lt_or_ge x l.length with h4 | h4
    · simp [h4] at hx
    · simp [Array.getElem?_eq_none, h4] at hx

theorem wp_region_text' {id : Nat} {l : List Oper} {Q : Exit → Act → World → Prop} {a : Act} {w : World} (hm : P.follows .mixedOrders = true) (hst : textOk P (Region.before l.toArray).toList l.toArray = true)
    (h : ∀ K : Act → World → Prop, (∀ a' w', plainEnd P l.toArray a' = true → Q .normal a' w' → K a' w') → wpList P l.toArray (Exit.then K (fun _ _ _ => False)) l a w.drew) :
    (Code.region id l.toArray true).wp P Q a w := wp_region_text _ hm hst h

/-- A mark at which the walker stops. -/
def Stop (p : Prop) : Prop := p
theorem Stop.go {p : Prop} (h : p) : Stop p := h
theorem stop_append {P : Program} {ops : Array Oper} {rest : List Oper} {o : Oper} {a : Act} {Q : Exit → Act → World → Prop} {w : World} {as : Array Operand} {ts : Array TypeId} (ho : o.op = .call { callee := .builtin .append, args := as, argTypes := ts })
    (h : Stop (wpList P ops Q (o :: rest) a w)) : wpList P ops Q (o :: rest) a w := h
end
end Go.Proofs.YtiialjncdhhceaaGreat
