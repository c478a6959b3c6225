/-
  No cell of these rows narrows 'for every input' (looked for: loops, veiled, ifaces, maps, wideKeys, modest, calm, conditions, laid).
  DERIVED. THE GIVEN ROWS OF THIS SEAT. 18 by the template 'for every input the law returns true; each argument reads behind the call as it read before'; 0 by the template 'total and deterministic' (their statements: YtiialjncdhhceaaTotals.lean).
  GIVEN WITH THE SEED: the statements are not yours to turn. If you find one false, say at which input.
  Laid BY PROGRAM, IN A SANDBOX (cutbox-rows.mjs): the forced cells as the released guide's own fill.sh prints them over the translation 94bc9a41da951b02… (all of the seat's roots in one cut). By AI agents, Wed Nov 11 2026. No macro, syntax, notation, axiom, sorry.
-/
import Derived.Test.YtiialjncdhhceaaChecked
import GoSem.Claim
import GoSem.ClaimJoined
import GoSem.ClaimMapViews
import Derived.JoinedTies
import Derived.KernelRfl
namespace Go.Proofs.Ytiialjncdhhceaa
/- THE CELL 'sum', in the pinned program and in every row, IS THE sha256 OF THE DUMP (.gsa) THAT YtiialjncdhhceaaProg.lean LOADS. Nothing in Lean hashes anything: it is a label: what it is worth is what the hold of that sum in a sandbox is worth. -/
noncomputable def Try.pinned : Pinned := { name := "ytiialjncdhhceaa", sum := "94bc9a41da951b02b4b95072817903178e0c9726fa4b5885b6ee8d95d96420b1", checked := Try.checked }
namespace Rows
def none {H : Type} : Left H := { results := [], args := [] }

/-- 'paddocklaw1.BitsSums': WHATEVER THE INPUT: true; the input reads as it did. -/
def bitsSumsSpec : ChangeSpec := { name := "bitsSums", fn := fun _ => fun
  | [d1, d2, d3] => { results := [.lit (.bool true)], args := [d1, d2, d3] }
  | _ => none }
def bitsSumsRow : OpenClaim := { program := "ytiialjncdhhceaa", sum := "94bc9a41da951b02b4b95072817903178e0c9726fa4b5885b6ee8d95d96420b1", func := "paddock/paddocklaw1.BitsSums", spec := "bitsSums", apart := false }
def BitsSumsSaid : Prop := bitsSumsRow.holds Try.pinned (OpenSpec.ofChange bitsSumsSpec)

/-- ITS FALSE NEIGHBOUR: 'it returns false'. Refute it at one input. -/
def bitsSumsWrong : ChangeSpec := { name := "bitsSums", fn := fun _ => fun
  | [d1, d2, d3] => { results := [.lit (.bool false)], args := [d1, d2, d3] }
  | _ => none }
def BitsSumsWrongFalsely : Prop := bitsSumsRow.holds Try.pinned (OpenSpec.ofChange bitsSumsWrong)

/-- 'paddocklaw1.BitsNumbers': WHATEVER THE INPUT: true; the input reads as it did. -/
def bitsNumbersSpec : ChangeSpec := { name := "bitsNumbers", fn := fun _ => fun
  | [d1, d2] => { results := [.lit (.bool true)], args := [d1, d2] }
  | _ => none }
def bitsNumbersRow : OpenClaim := { program := "ytiialjncdhhceaa", sum := "94bc9a41da951b02b4b95072817903178e0c9726fa4b5885b6ee8d95d96420b1", func := "paddock/paddocklaw1.BitsNumbers", spec := "bitsNumbers", apart := false }
def BitsNumbersSaid : Prop := bitsNumbersRow.holds Try.pinned (OpenSpec.ofChange bitsNumbersSpec)

/-- ITS FALSE NEIGHBOUR: 'it returns false'. Refute it at one input. -/
def bitsNumbersWrong : ChangeSpec := { name := "bitsNumbers", fn := fun _ => fun
  | [d1, d2] => { results := [.lit (.bool false)], args := [d1, d2] }
  | _ => none }
def BitsNumbersWrongFalsely : Prop := bitsNumbersRow.holds Try.pinned (OpenSpec.ofChange bitsNumbersWrong)

/-- 'paddocklaw1.BitsTell': WHATEVER THE INPUT: true; the input reads as it did. -/
def bitsTellSpec : ChangeSpec := { name := "bitsTell", fn := fun _ => fun
  | [d1, d2, d3, d4, d5, d6, d7, d8] => { results := [.lit (.bool true)], args := [d1, d2, d3, d4, d5, d6, d7, d8] }
  | _ => none }
def bitsTellRow : OpenClaim := { program := "ytiialjncdhhceaa", sum := "94bc9a41da951b02b4b95072817903178e0c9726fa4b5885b6ee8d95d96420b1", func := "paddock/paddocklaw1.BitsTell", spec := "bitsTell", apart := false }
def BitsTellSaid : Prop := bitsTellRow.holds Try.pinned (OpenSpec.ofChange bitsTellSpec)

/-- ITS FALSE NEIGHBOUR: 'it returns false'. Refute it at one input. -/
def bitsTellWrong : ChangeSpec := { name := "bitsTell", fn := fun _ => fun
  | [d1, d2, d3, d4, d5, d6, d7, d8] => { results := [.lit (.bool false)], args := [d1, d2, d3, d4, d5, d6, d7, d8] }
  | _ => none }
def BitsTellWrongFalsely : Prop := bitsTellRow.holds Try.pinned (OpenSpec.ofChange bitsTellWrong)

/-- 'paddocklaw1.BitsMixes': WHATEVER THE INPUT: true; the input reads as it did. -/
def bitsMixesSpec : ChangeSpec := { name := "bitsMixes", fn := fun _ => fun
  | [d1, d2, d3, d4] => { results := [.lit (.bool true)], args := [d1, d2, d3, d4] }
  | _ => none }
def bitsMixesRow : OpenClaim := { program := "ytiialjncdhhceaa", sum := "94bc9a41da951b02b4b95072817903178e0c9726fa4b5885b6ee8d95d96420b1", func := "paddock/paddocklaw1.BitsMixes", spec := "bitsMixes", apart := false }
def BitsMixesSaid : Prop := bitsMixesRow.holds Try.pinned (OpenSpec.ofChange bitsMixesSpec)

/-- ITS FALSE NEIGHBOUR: 'it returns false'. Refute it at one input. -/
def bitsMixesWrong : ChangeSpec := { name := "bitsMixes", fn := fun _ => fun
  | [d1, d2, d3, d4] => { results := [.lit (.bool false)], args := [d1, d2, d3, d4] }
  | _ => none }
def BitsMixesWrongFalsely : Prop := bitsMixesRow.holds Try.pinned (OpenSpec.ofChange bitsMixesWrong)

/-- 'paddocklaw1.BitsTexts': WHATEVER THE INPUT: true; the input reads as it did. -/
def bitsTextsSpec : ChangeSpec := { name := "bitsTexts", fn := fun _ => fun
  | [d1, d2, d3] => { results := [.lit (.bool true)], args := [d1, d2, d3] }
  | _ => none }
def bitsTextsRow : OpenClaim := { program := "ytiialjncdhhceaa", sum := "94bc9a41da951b02b4b95072817903178e0c9726fa4b5885b6ee8d95d96420b1", func := "paddock/paddocklaw1.BitsTexts", spec := "bitsTexts", apart := false }
def BitsTextsSaid : Prop := bitsTextsRow.holds Try.pinned (OpenSpec.ofChange bitsTextsSpec)

/-- ITS FALSE NEIGHBOUR: 'it returns false'. Refute it at one input. -/
def bitsTextsWrong : ChangeSpec := { name := "bitsTexts", fn := fun _ => fun
  | [d1, d2, d3] => { results := [.lit (.bool false)], args := [d1, d2, d3] }
  | _ => none }
def BitsTextsWrongFalsely : Prop := bitsTextsRow.holds Try.pinned (OpenSpec.ofChange bitsTextsWrong)

/-- 'paddocklaw1.BitsRows': WHATEVER THE INPUT: true; the input reads as it did. -/
def bitsRowsSpec : ChangeSpec := { name := "bitsRows", fn := fun _ => fun
  | [d1, d2] => { results := [.lit (.bool true)], args := [d1, d2] }
  | _ => none }
def bitsRowsRow : OpenClaim := { program := "ytiialjncdhhceaa", sum := "94bc9a41da951b02b4b95072817903178e0c9726fa4b5885b6ee8d95d96420b1", func := "paddock/paddocklaw1.BitsRows", spec := "bitsRows", apart := false }
def BitsRowsSaid : Prop := bitsRowsRow.holds Try.pinned (OpenSpec.ofChange bitsRowsSpec)

/-- ITS FALSE NEIGHBOUR: 'it returns false'. Refute it at one input. -/
def bitsRowsWrong : ChangeSpec := { name := "bitsRows", fn := fun _ => fun
  | [d1, d2] => { results := [.lit (.bool false)], args := [d1, d2] }
  | _ => none }
def BitsRowsWrongFalsely : Prop := bitsRowsRow.holds Try.pinned (OpenSpec.ofChange bitsRowsWrong)

/-- 'paddocklaw1.BitsCut': WHATEVER THE INPUT: true; the input reads as it did. -/
def bitsCutSpec : ChangeSpec := { name := "bitsCut", fn := fun _ => fun
  | [d1, d2, d3] => { results := [.lit (.bool true)], args := [d1, d2, d3] }
  | _ => none }
def bitsCutRow : OpenClaim := { program := "ytiialjncdhhceaa", sum := "94bc9a41da951b02b4b95072817903178e0c9726fa4b5885b6ee8d95d96420b1", func := "paddock/paddocklaw1.BitsCut", spec := "bitsCut", apart := false }
def BitsCutSaid : Prop := bitsCutRow.holds Try.pinned (OpenSpec.ofChange bitsCutSpec)

/-- ITS FALSE NEIGHBOUR: 'it returns false'. Refute it at one input. -/
def bitsCutWrong : ChangeSpec := { name := "bitsCut", fn := fun _ => fun
  | [d1, d2, d3] => { results := [.lit (.bool false)], args := [d1, d2, d3] }
  | _ => none }
def BitsCutWrongFalsely : Prop := bitsCutRow.holds Try.pinned (OpenSpec.ofChange bitsCutWrong)

/-- 'paddocklaw13.SectorApart': WHATEVER THE INPUT: true; the input reads as it did. -/
def sectorApartSpec : ChangeSpec := { name := "sectorApart", fn := fun _ => fun
  | [d1, d2, d3, d4] => { results := [.lit (.bool true)], args := [d1, d2, d3, d4] }
  | _ => none }
def sectorApartRow : OpenClaim := { program := "ytiialjncdhhceaa", sum := "94bc9a41da951b02b4b95072817903178e0c9726fa4b5885b6ee8d95d96420b1", func := "paddock/paddocklaw13.SectorApart", spec := "sectorApart", unfollowed := true, recurses := true, apart := false }
def SectorApartSaid : Prop := sectorApartRow.holds Try.pinned (OpenSpec.ofChange sectorApartSpec)

/-- ITS FALSE NEIGHBOUR: 'it returns false'. Refute it at one input. -/
def sectorApartWrong : ChangeSpec := { name := "sectorApart", fn := fun _ => fun
  | [d1, d2, d3, d4] => { results := [.lit (.bool false)], args := [d1, d2, d3, d4] }
  | _ => none }
def SectorApartWrongFalsely : Prop := sectorApartRow.holds Try.pinned (OpenSpec.ofChange sectorApartWrong)

/-- 'paddocklaw13.SectorKeeps': WHATEVER THE INPUT: true; the input reads as it did. -/
def sectorKeepsSpec : ChangeSpec := { name := "sectorKeeps", fn := fun _ => fun
  | [d1, d2, d3, d4] => { results := [.lit (.bool true)], args := [d1, d2, d3, d4] }
  | _ => none }
def sectorKeepsRow : OpenClaim := { program := "ytiialjncdhhceaa", sum := "94bc9a41da951b02b4b95072817903178e0c9726fa4b5885b6ee8d95d96420b1", func := "paddock/paddocklaw13.SectorKeeps", spec := "sectorKeeps", unfollowed := true, recurses := true, apart := false }
def SectorKeepsSaid : Prop := sectorKeepsRow.holds Try.pinned (OpenSpec.ofChange sectorKeepsSpec)

/-- ITS FALSE NEIGHBOUR: 'it returns false'. Refute it at one input. -/
def sectorKeepsWrong : ChangeSpec := { name := "sectorKeeps", fn := fun _ => fun
  | [d1, d2, d3, d4] => { results := [.lit (.bool false)], args := [d1, d2, d3, d4] }
  | _ => none }
def SectorKeepsWrongFalsely : Prop := sectorKeepsRow.holds Try.pinned (OpenSpec.ofChange sectorKeepsWrong)

/-- 'paddocklaw13.SectorChoices': WHATEVER THE INPUT: true; the input reads as it did. -/
def sectorChoicesSpec : ChangeSpec := { name := "sectorChoices", fn := fun _ => fun
  | [d1, d2, d3] => { results := [.lit (.bool true)], args := [d1, d2, d3] }
  | _ => none }
def sectorChoicesRow : OpenClaim := { program := "ytiialjncdhhceaa", sum := "94bc9a41da951b02b4b95072817903178e0c9726fa4b5885b6ee8d95d96420b1", func := "paddock/paddocklaw13.SectorChoices", spec := "sectorChoices", unfollowed := true, recurses := true, apart := false }
def SectorChoicesSaid : Prop := sectorChoicesRow.holds Try.pinned (OpenSpec.ofChange sectorChoicesSpec)

/-- ITS FALSE NEIGHBOUR: 'it returns false'. Refute it at one input. -/
def sectorChoicesWrong : ChangeSpec := { name := "sectorChoices", fn := fun _ => fun
  | [d1, d2, d3] => { results := [.lit (.bool false)], args := [d1, d2, d3] }
  | _ => none }
def SectorChoicesWrongFalsely : Prop := sectorChoicesRow.holds Try.pinned (OpenSpec.ofChange sectorChoicesWrong)

/-- 'paddocklaw13.SectorSteps': WHATEVER THE INPUT: true; the input reads as it did. -/
def sectorStepsSpec : ChangeSpec := { name := "sectorSteps", fn := fun _ => fun
  | [d1, d2] => { results := [.lit (.bool true)], args := [d1, d2] }
  | _ => none }
def sectorStepsRow : OpenClaim := { program := "ytiialjncdhhceaa", sum := "94bc9a41da951b02b4b95072817903178e0c9726fa4b5885b6ee8d95d96420b1", func := "paddock/paddocklaw13.SectorSteps", spec := "sectorSteps", unfollowed := true, recurses := true, apart := false }
def SectorStepsSaid : Prop := sectorStepsRow.holds Try.pinned (OpenSpec.ofChange sectorStepsSpec)

/-- ITS FALSE NEIGHBOUR: 'it returns false'. Refute it at one input. -/
def sectorStepsWrong : ChangeSpec := { name := "sectorSteps", fn := fun _ => fun
  | [d1, d2] => { results := [.lit (.bool false)], args := [d1, d2] }
  | _ => none }
def SectorStepsWrongFalsely : Prop := sectorStepsRow.holds Try.pinned (OpenSpec.ofChange sectorStepsWrong)

/-- 'paddocklaw13.SectorPlays': WHATEVER THE INPUT: true; the input reads as it did. -/
def sectorPlaysSpec : ChangeSpec := { name := "sectorPlays", fn := fun _ => fun
  | [d1, d2] => { results := [.lit (.bool true)], args := [d1, d2] }
  | _ => none }
def sectorPlaysRow : OpenClaim := { program := "ytiialjncdhhceaa", sum := "94bc9a41da951b02b4b95072817903178e0c9726fa4b5885b6ee8d95d96420b1", func := "paddock/paddocklaw13.SectorPlays", spec := "sectorPlays", unfollowed := true, recurses := true, apart := false }
def SectorPlaysSaid : Prop := sectorPlaysRow.holds Try.pinned (OpenSpec.ofChange sectorPlaysSpec)

/-- ITS FALSE NEIGHBOUR: 'it returns false'. Refute it at one input. -/
def sectorPlaysWrong : ChangeSpec := { name := "sectorPlays", fn := fun _ => fun
  | [d1, d2] => { results := [.lit (.bool false)], args := [d1, d2] }
  | _ => none }
def SectorPlaysWrongFalsely : Prop := sectorPlaysRow.holds Try.pinned (OpenSpec.ofChange sectorPlaysWrong)

/-- 'paddocklaw13.SectorPower': WHATEVER THE INPUT: true; the input reads as it did. -/
def sectorPowerSpec : ChangeSpec := { name := "sectorPower", fn := fun _ => fun
  | [d1, d2] => { results := [.lit (.bool true)], args := [d1, d2] }
  | _ => none }
def sectorPowerRow : OpenClaim := { program := "ytiialjncdhhceaa", sum := "94bc9a41da951b02b4b95072817903178e0c9726fa4b5885b6ee8d95d96420b1", func := "paddock/paddocklaw13.SectorPower", spec := "sectorPower", unfollowed := true, recurses := true, apart := false }
def SectorPowerSaid : Prop := sectorPowerRow.holds Try.pinned (OpenSpec.ofChange sectorPowerSpec)

/-- ITS FALSE NEIGHBOUR: 'it returns false'. Refute it at one input. -/
def sectorPowerWrong : ChangeSpec := { name := "sectorPower", fn := fun _ => fun
  | [d1, d2] => { results := [.lit (.bool false)], args := [d1, d2] }
  | _ => none }
def SectorPowerWrongFalsely : Prop := sectorPowerRow.holds Try.pinned (OpenSpec.ofChange sectorPowerWrong)

/-- 'paddocklaw14.JournalAgain': WHATEVER THE INPUT: true; the input reads as it did. -/
def journalAgainSpec : ChangeSpec := { name := "journalAgain", fn := fun _ => fun
  | [d1, d2, d3] => { results := [.lit (.bool true)], args := [d1, d2, d3] }
  | _ => none }
def journalAgainRow : OpenClaim := { program := "ytiialjncdhhceaa", sum := "94bc9a41da951b02b4b95072817903178e0c9726fa4b5885b6ee8d95d96420b1", func := "paddock/paddocklaw14.JournalAgain", spec := "journalAgain", unfollowed := true, recurses := true, apart := false }
def JournalAgainSaid : Prop := journalAgainRow.holds Try.pinned (OpenSpec.ofChange journalAgainSpec)

/-- ITS FALSE NEIGHBOUR: 'it returns false'. Refute it at one input. -/
def journalAgainWrong : ChangeSpec := { name := "journalAgain", fn := fun _ => fun
  | [d1, d2, d3] => { results := [.lit (.bool false)], args := [d1, d2, d3] }
  | _ => none }
def JournalAgainWrongFalsely : Prop := journalAgainRow.holds Try.pinned (OpenSpec.ofChange journalAgainWrong)

/-- 'paddocklaw14.JournalBytes': WHATEVER THE INPUT: true; the input reads as it did. -/
def journalBytesSpec : ChangeSpec := { name := "journalBytes", fn := fun _ => fun
  | [d1, d2] => { results := [.lit (.bool true)], args := [d1, d2] }
  | _ => none }
def journalBytesRow : OpenClaim := { program := "ytiialjncdhhceaa", sum := "94bc9a41da951b02b4b95072817903178e0c9726fa4b5885b6ee8d95d96420b1", func := "paddock/paddocklaw14.JournalBytes", spec := "journalBytes", unfollowed := true, recurses := true, apart := false }
def JournalBytesSaid : Prop := journalBytesRow.holds Try.pinned (OpenSpec.ofChange journalBytesSpec)

/-- ITS FALSE NEIGHBOUR: 'it returns false'. Refute it at one input. -/
def journalBytesWrong : ChangeSpec := { name := "journalBytes", fn := fun _ => fun
  | [d1, d2] => { results := [.lit (.bool false)], args := [d1, d2] }
  | _ => none }
def JournalBytesWrongFalsely : Prop := journalBytesRow.holds Try.pinned (OpenSpec.ofChange journalBytesWrong)

/-- 'paddocklaw14.JournalLong': WHATEVER THE INPUT: true; the input reads as it did. -/
def journalLongSpec : ChangeSpec := { name := "journalLong", fn := fun _ => fun
  | [d1, d2] => { results := [.lit (.bool true)], args := [d1, d2] }
  | _ => none }
def journalLongRow : OpenClaim := { program := "ytiialjncdhhceaa", sum := "94bc9a41da951b02b4b95072817903178e0c9726fa4b5885b6ee8d95d96420b1", func := "paddock/paddocklaw14.JournalLong", spec := "journalLong", unfollowed := true, recurses := true, apart := false }
def JournalLongSaid : Prop := journalLongRow.holds Try.pinned (OpenSpec.ofChange journalLongSpec)

/-- ITS FALSE NEIGHBOUR: 'it returns false'. Refute it at one input. -/
def journalLongWrong : ChangeSpec := { name := "journalLong", fn := fun _ => fun
  | [d1, d2] => { results := [.lit (.bool false)], args := [d1, d2] }
  | _ => none }
def JournalLongWrongFalsely : Prop := journalLongRow.holds Try.pinned (OpenSpec.ofChange journalLongWrong)

/-- 'paddocklaw14.JournalRoom': WHATEVER THE INPUT: true; the input reads as it did. -/
def journalRoomSpec : ChangeSpec := { name := "journalRoom", fn := fun _ => fun
  | [d1, d2] => { results := [.lit (.bool true)], args := [d1, d2] }
  | _ => none }
def journalRoomRow : OpenClaim := { program := "ytiialjncdhhceaa", sum := "94bc9a41da951b02b4b95072817903178e0c9726fa4b5885b6ee8d95d96420b1", func := "paddock/paddocklaw14.JournalRoom", spec := "journalRoom", unfollowed := true, recurses := true, apart := false }
def JournalRoomSaid : Prop := journalRoomRow.holds Try.pinned (OpenSpec.ofChange journalRoomSpec)

/-- ITS FALSE NEIGHBOUR: 'it returns false'. Refute it at one input. -/
def journalRoomWrong : ChangeSpec := { name := "journalRoom", fn := fun _ => fun
  | [d1, d2] => { results := [.lit (.bool false)], args := [d1, d2] }
  | _ => none }
def JournalRoomWrongFalsely : Prop := journalRoomRow.holds Try.pinned (OpenSpec.ofChange journalRoomWrong)

/-- 'paddocklaw14.JournalCuts': WHATEVER THE INPUT: true; the input reads as it did. -/
def journalCutsSpec : ChangeSpec := { name := "journalCuts", fn := fun _ => fun
  | [d1, d2, d3, d4] => { results := [.lit (.bool true)], args := [d1, d2, d3, d4] }
  | _ => none }
def journalCutsRow : OpenClaim := { program := "ytiialjncdhhceaa", sum := "94bc9a41da951b02b4b95072817903178e0c9726fa4b5885b6ee8d95d96420b1", func := "paddock/paddocklaw14.JournalCuts", spec := "journalCuts", unfollowed := true, recurses := true, apart := false }
def JournalCutsSaid : Prop := journalCutsRow.holds Try.pinned (OpenSpec.ofChange journalCutsSpec)

/-- ITS FALSE NEIGHBOUR: 'it returns false'. Refute it at one input. -/
def journalCutsWrong : ChangeSpec := { name := "journalCuts", fn := fun _ => fun
  | [d1, d2, d3, d4] => { results := [.lit (.bool false)], args := [d1, d2, d3, d4] }
  | _ => none }
def JournalCutsWrongFalsely : Prop := journalCutsRow.holds Try.pinned (OpenSpec.ofChange journalCutsWrong)

/- THE SECOND FORM. 'bulk': how many values and letters a reading holds, each counted each time it is reached (what is shared counts as often as it is met; a slice's spare places count too). A statement '..UptoSaid' is the law's where the arguments, and the package variables that the reading takes, are together of bulk at most 1048576: NARROWER than '..Said'. Prove '..Said' where nothing that the law and all that it calls make is longer than what came in: it says more and counts as full. Else prove '..UptoSaid'. A law counts once. -/
mutual
def uptoBulk {H : Type} : DataW H → Nat
  | .lit (.string bytes) => bytes.length + 1
  | .lit _ => 1
  | .nil => 1
  | .ptr d => uptoBulk d + 1
  | .slice elems spare => uptoBulkAll elems + uptoBulkAll spare + 1
  | .agg parts => uptoBulkAll parts + 1
  | .iface _ d => uptoBulk d + 1
  | .map entries => uptoBulkEntries entries + 1
  | .held _ => 1
def uptoBulkAll {H : Type} : List (DataW H) → Nat
  | [] => 0
  | d :: r => uptoBulk d + uptoBulkAll r
def uptoBulkEntries {H : Type} : List (Lit × DataW H) → Nat
  | [] => 0
  | x :: r => uptoBulkEntry x + uptoBulkEntries r
def uptoBulkEntry {H : Type} : Lit × DataW H → Nat
  | (.string bytes, d) => bytes.length + uptoBulk d + 1
  | (_, d) => uptoBulk d + 1
 end
def uptoSmall : (H : Type) → List (DataW H) → Bool := fun _ ds => decide (uptoBulkAll ds ≤ 1048576)
def OpenSpec.upto (s : _root_.Go.ChangeSpec) : _root_.Go.OpenSpec := { _root_.Go.OpenSpec.ofChange s with cond := some uptoSmall }

/-- 'paddocklaw1.BitsSums', WHERE WHAT IT READS IS OF BULK AT MOST 1048576: true; the input reads as it did. -/
def bitsSumsUptoRow : OpenClaim := { program := "ytiialjncdhhceaa", sum := "94bc9a41da951b02b4b95072817903178e0c9726fa4b5885b6ee8d95d96420b1", func := "paddock/paddocklaw1.BitsSums", spec := "bitsSums", apart := false, narrowed := true }
def BitsSumsUptoSaid : Prop := bitsSumsUptoRow.holds Try.pinned (OpenSpec.upto bitsSumsSpec)

/-- 'paddocklaw1.BitsNumbers', WHERE WHAT IT READS IS OF BULK AT MOST 1048576: true; the input reads as it did. -/
def bitsNumbersUptoRow : OpenClaim := { program := "ytiialjncdhhceaa", sum := "94bc9a41da951b02b4b95072817903178e0c9726fa4b5885b6ee8d95d96420b1", func := "paddock/paddocklaw1.BitsNumbers", spec := "bitsNumbers", apart := false, narrowed := true }
def BitsNumbersUptoSaid : Prop := bitsNumbersUptoRow.holds Try.pinned (OpenSpec.upto bitsNumbersSpec)

/-- 'paddocklaw1.BitsTell', WHERE WHAT IT READS IS OF BULK AT MOST 1048576: true; the input reads as it did. -/
def bitsTellUptoRow : OpenClaim := { program := "ytiialjncdhhceaa", sum := "94bc9a41da951b02b4b95072817903178e0c9726fa4b5885b6ee8d95d96420b1", func := "paddock/paddocklaw1.BitsTell", spec := "bitsTell", apart := false, narrowed := true }
def BitsTellUptoSaid : Prop := bitsTellUptoRow.holds Try.pinned (OpenSpec.upto bitsTellSpec)

/-- 'paddocklaw1.BitsMixes', WHERE WHAT IT READS IS OF BULK AT MOST 1048576: true; the input reads as it did. -/
def bitsMixesUptoRow : OpenClaim := { program := "ytiialjncdhhceaa", sum := "94bc9a41da951b02b4b95072817903178e0c9726fa4b5885b6ee8d95d96420b1", func := "paddock/paddocklaw1.BitsMixes", spec := "bitsMixes", apart := false, narrowed := true }
def BitsMixesUptoSaid : Prop := bitsMixesUptoRow.holds Try.pinned (OpenSpec.upto bitsMixesSpec)

/-- 'paddocklaw1.BitsTexts', WHERE WHAT IT READS IS OF BULK AT MOST 1048576: true; the input reads as it did. -/
def bitsTextsUptoRow : OpenClaim := { program := "ytiialjncdhhceaa", sum := "94bc9a41da951b02b4b95072817903178e0c9726fa4b5885b6ee8d95d96420b1", func := "paddock/paddocklaw1.BitsTexts", spec := "bitsTexts", apart := false, narrowed := true }
def BitsTextsUptoSaid : Prop := bitsTextsUptoRow.holds Try.pinned (OpenSpec.upto bitsTextsSpec)

/-- 'paddocklaw1.BitsRows', WHERE WHAT IT READS IS OF BULK AT MOST 1048576: true; the input reads as it did. -/
def bitsRowsUptoRow : OpenClaim := { program := "ytiialjncdhhceaa", sum := "94bc9a41da951b02b4b95072817903178e0c9726fa4b5885b6ee8d95d96420b1", func := "paddock/paddocklaw1.BitsRows", spec := "bitsRows", apart := false, narrowed := true }
def BitsRowsUptoSaid : Prop := bitsRowsUptoRow.holds Try.pinned (OpenSpec.upto bitsRowsSpec)

/-- 'paddocklaw1.BitsCut', WHERE WHAT IT READS IS OF BULK AT MOST 1048576: true; the input reads as it did. -/
def bitsCutUptoRow : OpenClaim := { program := "ytiialjncdhhceaa", sum := "94bc9a41da951b02b4b95072817903178e0c9726fa4b5885b6ee8d95d96420b1", func := "paddock/paddocklaw1.BitsCut", spec := "bitsCut", apart := false, narrowed := true }
def BitsCutUptoSaid : Prop := bitsCutUptoRow.holds Try.pinned (OpenSpec.upto bitsCutSpec)

/-- 'paddocklaw13.SectorApart', WHERE WHAT IT READS IS OF BULK AT MOST 1048576: true; the input reads as it did. -/
def sectorApartUptoRow : OpenClaim := { program := "ytiialjncdhhceaa", sum := "94bc9a41da951b02b4b95072817903178e0c9726fa4b5885b6ee8d95d96420b1", func := "paddock/paddocklaw13.SectorApart", spec := "sectorApart", unfollowed := true, recurses := true, apart := false, narrowed := true }
def SectorApartUptoSaid : Prop := sectorApartUptoRow.holds Try.pinned (OpenSpec.upto sectorApartSpec)

/-- 'paddocklaw13.SectorKeeps', WHERE WHAT IT READS IS OF BULK AT MOST 1048576: true; the input reads as it did. -/
def sectorKeepsUptoRow : OpenClaim := { program := "ytiialjncdhhceaa", sum := "94bc9a41da951b02b4b95072817903178e0c9726fa4b5885b6ee8d95d96420b1", func := "paddock/paddocklaw13.SectorKeeps", spec := "sectorKeeps", unfollowed := true, recurses := true, apart := false, narrowed := true }
def SectorKeepsUptoSaid : Prop := sectorKeepsUptoRow.holds Try.pinned (OpenSpec.upto sectorKeepsSpec)

/-- 'paddocklaw13.SectorChoices', WHERE WHAT IT READS IS OF BULK AT MOST 1048576: true; the input reads as it did. -/
def sectorChoicesUptoRow : OpenClaim := { program := "ytiialjncdhhceaa", sum := "94bc9a41da951b02b4b95072817903178e0c9726fa4b5885b6ee8d95d96420b1", func := "paddock/paddocklaw13.SectorChoices", spec := "sectorChoices", unfollowed := true, recurses := true, apart := false, narrowed := true }
def SectorChoicesUptoSaid : Prop := sectorChoicesUptoRow.holds Try.pinned (OpenSpec.upto sectorChoicesSpec)

/-- 'paddocklaw13.SectorSteps', WHERE WHAT IT READS IS OF BULK AT MOST 1048576: true; the input reads as it did. -/
def sectorStepsUptoRow : OpenClaim := { program := "ytiialjncdhhceaa", sum := "94bc9a41da951b02b4b95072817903178e0c9726fa4b5885b6ee8d95d96420b1", func := "paddock/paddocklaw13.SectorSteps", spec := "sectorSteps", unfollowed := true, recurses := true, apart := false, narrowed := true }
def SectorStepsUptoSaid : Prop := sectorStepsUptoRow.holds Try.pinned (OpenSpec.upto sectorStepsSpec)

/-- 'paddocklaw13.SectorPlays', WHERE WHAT IT READS IS OF BULK AT MOST 1048576: true; the input reads as it did. -/
def sectorPlaysUptoRow : OpenClaim := { program := "ytiialjncdhhceaa", sum := "94bc9a41da951b02b4b95072817903178e0c9726fa4b5885b6ee8d95d96420b1", func := "paddock/paddocklaw13.SectorPlays", spec := "sectorPlays", unfollowed := true, recurses := true, apart := false, narrowed := true }
def SectorPlaysUptoSaid : Prop := sectorPlaysUptoRow.holds Try.pinned (OpenSpec.upto sectorPlaysSpec)

/-- 'paddocklaw13.SectorPower', WHERE WHAT IT READS IS OF BULK AT MOST 1048576: true; the input reads as it did. -/
def sectorPowerUptoRow : OpenClaim := { program := "ytiialjncdhhceaa", sum := "94bc9a41da951b02b4b95072817903178e0c9726fa4b5885b6ee8d95d96420b1", func := "paddock/paddocklaw13.SectorPower", spec := "sectorPower", unfollowed := true, recurses := true, apart := false, narrowed := true }
def SectorPowerUptoSaid : Prop := sectorPowerUptoRow.holds Try.pinned (OpenSpec.upto sectorPowerSpec)

/-- 'paddocklaw14.JournalAgain', WHERE WHAT IT READS IS OF BULK AT MOST 1048576: true; the input reads as it did. -/
def journalAgainUptoRow : OpenClaim := { program := "ytiialjncdhhceaa", sum := "94bc9a41da951b02b4b95072817903178e0c9726fa4b5885b6ee8d95d96420b1", func := "paddock/paddocklaw14.JournalAgain", spec := "journalAgain", unfollowed := true, recurses := true, apart := false, narrowed := true }
def JournalAgainUptoSaid : Prop := journalAgainUptoRow.holds Try.pinned (OpenSpec.upto journalAgainSpec)

/-- 'paddocklaw14.JournalBytes', WHERE WHAT IT READS IS OF BULK AT MOST 1048576: true; the input reads as it did. -/
def journalBytesUptoRow : OpenClaim := { program := "ytiialjncdhhceaa", sum := "94bc9a41da951b02b4b95072817903178e0c9726fa4b5885b6ee8d95d96420b1", func := "paddock/paddocklaw14.JournalBytes", spec := "journalBytes", unfollowed := true, recurses := true, apart := false, narrowed := true }
def JournalBytesUptoSaid : Prop := journalBytesUptoRow.holds Try.pinned (OpenSpec.upto journalBytesSpec)

/-- 'paddocklaw14.JournalLong', WHERE WHAT IT READS IS OF BULK AT MOST 1048576: true; the input reads as it did. -/
def journalLongUptoRow : OpenClaim := { program := "ytiialjncdhhceaa", sum := "94bc9a41da951b02b4b95072817903178e0c9726fa4b5885b6ee8d95d96420b1", func := "paddock/paddocklaw14.JournalLong", spec := "journalLong", unfollowed := true, recurses := true, apart := false, narrowed := true }
def JournalLongUptoSaid : Prop := journalLongUptoRow.holds Try.pinned (OpenSpec.upto journalLongSpec)

/-- 'paddocklaw14.JournalRoom', WHERE WHAT IT READS IS OF BULK AT MOST 1048576: true; the input reads as it did. -/
def journalRoomUptoRow : OpenClaim := { program := "ytiialjncdhhceaa", sum := "94bc9a41da951b02b4b95072817903178e0c9726fa4b5885b6ee8d95d96420b1", func := "paddock/paddocklaw14.JournalRoom", spec := "journalRoom", unfollowed := true, recurses := true, apart := false, narrowed := true }
def JournalRoomUptoSaid : Prop := journalRoomUptoRow.holds Try.pinned (OpenSpec.upto journalRoomSpec)

/-- 'paddocklaw14.JournalCuts', WHERE WHAT IT READS IS OF BULK AT MOST 1048576: true; the input reads as it did. -/
def journalCutsUptoRow : OpenClaim := { program := "ytiialjncdhhceaa", sum := "94bc9a41da951b02b4b95072817903178e0c9726fa4b5885b6ee8d95d96420b1", func := "paddock/paddocklaw14.JournalCuts", spec := "journalCuts", unfollowed := true, recurses := true, apart := false, narrowed := true }
def JournalCutsUptoSaid : Prop := journalCutsUptoRow.holds Try.pinned (OpenSpec.upto journalCutsSpec)

end Rows
end Go.Proofs.Ytiialjncdhhceaa
