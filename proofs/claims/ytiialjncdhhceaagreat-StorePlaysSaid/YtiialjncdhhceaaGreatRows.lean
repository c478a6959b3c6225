/-
  No cell of these rows narrows 'for every input' (looked for: loops, veiled, ifaces, maps, wideKeys, modest, calm, conditions, laid).
  DERIVED. THE GIVEN ROWS OF THIS SEAT. 7 by the template 'for every input the law returns true; each argument reads behind the call as it read before'; 0 by the template 'total and deterministic' (their statements: YtiialjncdhhceaaGreatTotals.lean).
  GIVEN WITH THE SEED: the statements are not yours to turn. If you find one false, say at which input.
  Laid BY PROGRAM, IN A SANDBOX (cutbox-rows.mjs): the forced cells as the released guide's own fill.sh prints them over the translation 7b8a9a53faeb289b… (all of the seat's roots in one cut). By AI agents, Wed Nov 11 2026. No macro, syntax, notation, axiom, sorry.
-/
import Derived.Test.YtiialjncdhhceaaGreatChecked
import GoSem.Claim
import GoSem.ClaimJoined
import GoSem.ClaimMapViews
import Derived.JoinedTies
import Derived.KernelRfl
namespace Go.Proofs.YtiialjncdhhceaaGreat
/- THE CELL 'sum', in the pinned program and in every row, IS THE sha256 OF THE DUMP (.gsa) THAT YtiialjncdhhceaaGreatProg.lean LOADS. Nothing in Lean hashes anything: it is a label: what it is worth is what the hold of that sum in a sandbox is worth. -/
noncomputable def Tryz.pinned : Pinned := { name := "ytiialjncdhhceaagreat", sum := "7b8a9a53faeb289b65276d789a45d513e4f4438c74203a59abe48f9f63b529f0", checked := Tryz.checked }
namespace Rows
def none {H : Type} : Left H := { results := [], args := [] }

/-- 'paddocklaw15.StoreMany': WHATEVER THE INPUT: true; the input reads as it did. -/
def storeManySpec : ChangeSpec := { name := "storeMany", fn := fun _ => fun
  | [d] => { results := [.lit (.bool true)], args := [d] }
  | _ => none }
def storeManyRow : OpenClaim := { program := "ytiialjncdhhceaagreat", sum := "7b8a9a53faeb289b65276d789a45d513e4f4438c74203a59abe48f9f63b529f0", func := "paddock/paddocklaw15.StoreMany", spec := "storeMany", inPlace := ["maps.clone"], unfollowed := true, recurses := true, apart := false }
def StoreManySaid : Prop := storeManyRow.holds Tryz.pinned (OpenSpec.ofChange storeManySpec)

/-- ITS FALSE NEIGHBOUR: 'it returns false'. Refute it at one input. -/
def storeManyWrong : ChangeSpec := { name := "storeMany", fn := fun _ => fun
  | [d] => { results := [.lit (.bool false)], args := [d] }
  | _ => none }
def StoreManyWrongFalsely : Prop := storeManyRow.holds Tryz.pinned (OpenSpec.ofChange storeManyWrong)

/-- 'paddocklaw15.StoreWrites': WHATEVER THE INPUT: true; the input reads as it did. -/
def storeWritesSpec : ChangeSpec := { name := "storeWrites", fn := fun _ => fun
  | [d1, d2, d3] => { results := [.lit (.bool true)], args := [d1, d2, d3] }
  | _ => none }
def storeWritesRow : OpenClaim := { program := "ytiialjncdhhceaagreat", sum := "7b8a9a53faeb289b65276d789a45d513e4f4438c74203a59abe48f9f63b529f0", func := "paddock/paddocklaw15.StoreWrites", spec := "storeWrites", inPlace := ["maps.clone"], unfollowed := true, recurses := true, apart := false }
def StoreWritesSaid : Prop := storeWritesRow.holds Tryz.pinned (OpenSpec.ofChange storeWritesSpec)

/-- ITS FALSE NEIGHBOUR: 'it returns false'. Refute it at one input. -/
def storeWritesWrong : ChangeSpec := { name := "storeWrites", fn := fun _ => fun
  | [d1, d2, d3] => { results := [.lit (.bool false)], args := [d1, d2, d3] }
  | _ => none }
def StoreWritesWrongFalsely : Prop := storeWritesRow.holds Tryz.pinned (OpenSpec.ofChange storeWritesWrong)

/-- 'paddocklaw15.StoreFull': WHATEVER THE INPUT: true; the input reads as it did. -/
def storeFullSpec : ChangeSpec := { name := "storeFull", fn := fun _ => fun
  | [d1, d2] => { results := [.lit (.bool true)], args := [d1, d2] }
  | _ => none }
def storeFullRow : OpenClaim := { program := "ytiialjncdhhceaagreat", sum := "7b8a9a53faeb289b65276d789a45d513e4f4438c74203a59abe48f9f63b529f0", func := "paddock/paddocklaw15.StoreFull", spec := "storeFull", inPlace := ["maps.clone"], unfollowed := true, recurses := true, apart := false }
def StoreFullSaid : Prop := storeFullRow.holds Tryz.pinned (OpenSpec.ofChange storeFullSpec)

/-- ITS FALSE NEIGHBOUR: 'it returns false'. Refute it at one input. -/
def storeFullWrong : ChangeSpec := { name := "storeFull", fn := fun _ => fun
  | [d1, d2] => { results := [.lit (.bool false)], args := [d1, d2] }
  | _ => none }
def StoreFullWrongFalsely : Prop := storeFullRow.holds Tryz.pinned (OpenSpec.ofChange storeFullWrong)

/-- 'paddocklaw15.StoreLong': WHATEVER THE INPUT: true; the input reads as it did. -/
def storeLongSpec : ChangeSpec := { name := "storeLong", fn := fun _ => fun
  | [d1, d2] => { results := [.lit (.bool true)], args := [d1, d2] }
  | _ => none }
def storeLongRow : OpenClaim := { program := "ytiialjncdhhceaagreat", sum := "7b8a9a53faeb289b65276d789a45d513e4f4438c74203a59abe48f9f63b529f0", func := "paddock/paddocklaw15.StoreLong", spec := "storeLong", inPlace := ["maps.clone"], unfollowed := true, recurses := true, apart := false }
def StoreLongSaid : Prop := storeLongRow.holds Tryz.pinned (OpenSpec.ofChange storeLongSpec)

/-- ITS FALSE NEIGHBOUR: 'it returns false'. Refute it at one input. -/
def storeLongWrong : ChangeSpec := { name := "storeLong", fn := fun _ => fun
  | [d1, d2] => { results := [.lit (.bool false)], args := [d1, d2] }
  | _ => none }
def StoreLongWrongFalsely : Prop := storeLongRow.holds Tryz.pinned (OpenSpec.ofChange storeLongWrong)

/-- 'paddocklaw15.StoreOne': WHATEVER THE INPUT: true; the input reads as it did. -/
def storeOneSpec : ChangeSpec := { name := "storeOne", fn := fun _ => fun
  | [d1, d2] => { results := [.lit (.bool true)], args := [d1, d2] }
  | _ => none }
def storeOneRow : OpenClaim := { program := "ytiialjncdhhceaagreat", sum := "7b8a9a53faeb289b65276d789a45d513e4f4438c74203a59abe48f9f63b529f0", func := "paddock/paddocklaw15.StoreOne", spec := "storeOne", inPlace := ["maps.clone"], unfollowed := true, recurses := true, apart := false }
def StoreOneSaid : Prop := storeOneRow.holds Tryz.pinned (OpenSpec.ofChange storeOneSpec)

/-- ITS FALSE NEIGHBOUR: 'it returns false'. Refute it at one input. -/
def storeOneWrong : ChangeSpec := { name := "storeOne", fn := fun _ => fun
  | [d1, d2] => { results := [.lit (.bool false)], args := [d1, d2] }
  | _ => none }
def StoreOneWrongFalsely : Prop := storeOneRow.holds Tryz.pinned (OpenSpec.ofChange storeOneWrong)

/-- 'paddocklaw15.StoreKeys': WHATEVER THE INPUT: true; the input reads as it did. -/
def storeKeysSpec : ChangeSpec := { name := "storeKeys", fn := fun _ => fun
  | [d] => { results := [.lit (.bool true)], args := [d] }
  | _ => none }
def storeKeysRow : OpenClaim := { program := "ytiialjncdhhceaagreat", sum := "7b8a9a53faeb289b65276d789a45d513e4f4438c74203a59abe48f9f63b529f0", func := "paddock/paddocklaw15.StoreKeys", spec := "storeKeys", inPlace := ["maps.clone"], unfollowed := true, recurses := true, apart := false }
def StoreKeysSaid : Prop := storeKeysRow.holds Tryz.pinned (OpenSpec.ofChange storeKeysSpec)

/-- ITS FALSE NEIGHBOUR: 'it returns false'. Refute it at one input. -/
def storeKeysWrong : ChangeSpec := { name := "storeKeys", fn := fun _ => fun
  | [d] => { results := [.lit (.bool false)], args := [d] }
  | _ => none }
def StoreKeysWrongFalsely : Prop := storeKeysRow.holds Tryz.pinned (OpenSpec.ofChange storeKeysWrong)

/-- 'paddocklaw15.StorePlays': WHATEVER THE INPUT: true; the input reads as it did. -/
def storePlaysSpec : ChangeSpec := { name := "storePlays", fn := fun _ => fun
  | [d1, d2] => { results := [.lit (.bool true)], args := [d1, d2] }
  | _ => none }
def storePlaysRow : OpenClaim := { program := "ytiialjncdhhceaagreat", sum := "7b8a9a53faeb289b65276d789a45d513e4f4438c74203a59abe48f9f63b529f0", func := "paddock/paddocklaw15.StorePlays", spec := "storePlays", inPlace := ["maps.clone"], unfollowed := true, recurses := true, apart := false }
def StorePlaysSaid : Prop := storePlaysRow.holds Tryz.pinned (OpenSpec.ofChange storePlaysSpec)

/-- ITS FALSE NEIGHBOUR: 'it returns false'. Refute it at one input. -/
def storePlaysWrong : ChangeSpec := { name := "storePlays", fn := fun _ => fun
  | [d1, d2] => { results := [.lit (.bool false)], args := [d1, d2] }
  | _ => none }
def StorePlaysWrongFalsely : Prop := storePlaysRow.holds Tryz.pinned (OpenSpec.ofChange storePlaysWrong)

/- THE SECOND FORM. 'bulk': how many values and letters a reading holds, each counted each time it is reached (what is shared counts as often as it is met; a slice's spare places count too). A statement '..UptoSaid' is the law's where the arguments, and the package variables that the reading takes, are together of bulk at most 1048576: NARROWER than '..Said'. Prove '..Said' where nothing that the law and all that it calls make is longer than what came in: it says more and counts as full. Else prove '..UptoSaid'. A law counts once. -/
mutual
def uptoBulk {H : Type} : DataW H → Nat
  | .lit (.string bytes) => bytes.length + 1
  | .lit _ => 1
  | .nil => 1
  | .ptr d => uptoBulk d + 1
  | .slice elems spare => uptoBulkAll elems + uptoBulkAll spare + 1
  | .agg parts => uptoBulkAll parts + 1
  | .iface _ d => uptoBulk d + 1
  | .map entries => uptoBulkEntries entries + 1
  | .held _ => 1
def uptoBulkAll {H : Type} : List (DataW H) → Nat
  | [] => 0
  | d :: r => uptoBulk d + uptoBulkAll r
def uptoBulkEntries {H : Type} : List (Lit × DataW H) → Nat
  | [] => 0
  | x :: r => uptoBulkEntry x + uptoBulkEntries r
def uptoBulkEntry {H : Type} : Lit × DataW H → Nat
  | (.string bytes, d) => bytes.length + uptoBulk d + 1
  | (_, d) => uptoBulk d + 1
 end
def uptoSmall : (H : Type) → List (DataW H) → Bool := fun _ ds => decide (uptoBulkAll ds ≤ 1048576)
def OpenSpec.upto (s : _root_.Go.ChangeSpec) : _root_.Go.OpenSpec := { _root_.Go.OpenSpec.ofChange s with cond := some uptoSmall }

/-- 'paddocklaw15.StoreMany', WHERE WHAT IT READS IS OF BULK AT MOST 1048576: true; the input reads as it did. -/
def storeManyUptoRow : OpenClaim := { program := "ytiialjncdhhceaagreat", sum := "7b8a9a53faeb289b65276d789a45d513e4f4438c74203a59abe48f9f63b529f0", func := "paddock/paddocklaw15.StoreMany", spec := "storeMany", inPlace := ["maps.clone"], unfollowed := true, recurses := true, apart := false, narrowed := true }
def StoreManyUptoSaid : Prop := storeManyUptoRow.holds Tryz.pinned (OpenSpec.upto storeManySpec)

/-- 'paddocklaw15.StoreWrites', WHERE WHAT IT READS IS OF BULK AT MOST 1048576: true; the input reads as it did. -/
def storeWritesUptoRow : OpenClaim := { program := "ytiialjncdhhceaagreat", sum := "7b8a9a53faeb289b65276d789a45d513e4f4438c74203a59abe48f9f63b529f0", func := "paddock/paddocklaw15.StoreWrites", spec := "storeWrites", inPlace := ["maps.clone"], unfollowed := true, recurses := true, apart := false, narrowed := true }
def StoreWritesUptoSaid : Prop := storeWritesUptoRow.holds Tryz.pinned (OpenSpec.upto storeWritesSpec)

/-- 'paddocklaw15.StoreFull', WHERE WHAT IT READS IS OF BULK AT MOST 1048576: true; the input reads as it did. -/
def storeFullUptoRow : OpenClaim := { program := "ytiialjncdhhceaagreat", sum := "7b8a9a53faeb289b65276d789a45d513e4f4438c74203a59abe48f9f63b529f0", func := "paddock/paddocklaw15.StoreFull", spec := "storeFull", inPlace := ["maps.clone"], unfollowed := true, recurses := true, apart := false, narrowed := true }
def StoreFullUptoSaid : Prop := storeFullUptoRow.holds Tryz.pinned (OpenSpec.upto storeFullSpec)

/-- 'paddocklaw15.StoreLong', WHERE WHAT IT READS IS OF BULK AT MOST 1048576: true; the input reads as it did. -/
def storeLongUptoRow : OpenClaim := { program := "ytiialjncdhhceaagreat", sum := "7b8a9a53faeb289b65276d789a45d513e4f4438c74203a59abe48f9f63b529f0", func := "paddock/paddocklaw15.StoreLong", spec := "storeLong", inPlace := ["maps.clone"], unfollowed := true, recurses := true, apart := false, narrowed := true }
def StoreLongUptoSaid : Prop := storeLongUptoRow.holds Tryz.pinned (OpenSpec.upto storeLongSpec)

/-- 'paddocklaw15.StoreOne', WHERE WHAT IT READS IS OF BULK AT MOST 1048576: true; the input reads as it did. -/
def storeOneUptoRow : OpenClaim := { program := "ytiialjncdhhceaagreat", sum := "7b8a9a53faeb289b65276d789a45d513e4f4438c74203a59abe48f9f63b529f0", func := "paddock/paddocklaw15.StoreOne", spec := "storeOne", inPlace := ["maps.clone"], unfollowed := true, recurses := true, apart := false, narrowed := true }
def StoreOneUptoSaid : Prop := storeOneUptoRow.holds Tryz.pinned (OpenSpec.upto storeOneSpec)

/-- 'paddocklaw15.StoreKeys', WHERE WHAT IT READS IS OF BULK AT MOST 1048576: true; the input reads as it did. -/
def storeKeysUptoRow : OpenClaim := { program := "ytiialjncdhhceaagreat", sum := "7b8a9a53faeb289b65276d789a45d513e4f4438c74203a59abe48f9f63b529f0", func := "paddock/paddocklaw15.StoreKeys", spec := "storeKeys", inPlace := ["maps.clone"], unfollowed := true, recurses := true, apart := false, narrowed := true }
def StoreKeysUptoSaid : Prop := storeKeysUptoRow.holds Tryz.pinned (OpenSpec.upto storeKeysSpec)

/-- 'paddocklaw15.StorePlays', WHERE WHAT IT READS IS OF BULK AT MOST 1048576: true; the input reads as it did. -/
def storePlaysUptoRow : OpenClaim := { program := "ytiialjncdhhceaagreat", sum := "7b8a9a53faeb289b65276d789a45d513e4f4438c74203a59abe48f9f63b529f0", func := "paddock/paddocklaw15.StorePlays", spec := "storePlays", inPlace := ["maps.clone"], unfollowed := true, recurses := true, apart := false, narrowed := true }
def StorePlaysUptoSaid : Prop := storePlaysUptoRow.holds Tryz.pinned (OpenSpec.upto storePlaysSpec)

end Rows
end Go.Proofs.YtiialjncdhhceaaGreat
