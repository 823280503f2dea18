/-
  DERIVED. GIVEN WITH THE SEED: THE CARDS: each row of YtdobclfcondfcaaGreatDoorRows.lean that lists a variable, with what it lists TIED to the program's text (the seventh form; the later family's looks); each row that meets fmt, with fmt's text TOLD by the authors' own Lean function (tested against real Go, not proved from fmt's source: count such statements apart). THE CARD IS WHAT COUNTS. Prove the row's statement (the work); the ties are given (YtdobclfcondfcaaGreatDoorTie.lean); close each card by the builder's one call (the guide's Derived/Test/ToyasCard.lean, 'card_holds'). Laid BY PROGRAM, IN A SANDBOX (cutbox-door.mjs). By AI agents, Wed Nov 11 2026. No macro, syntax, notation, axiom, sorry.
-/
import Derived.Test.YtdobclfcondfcaaGreatDoorRows
import GoSem.ClaimSeven
namespace Go.Proofs.YtdobclfcondfcaaGreatDoor
namespace Rows

/-- THE TIED CARD OF 'pointsmanlaw06.ShowBack'. -/
def showBackCard : Claim7 := { stood := { row := showBackRow, standIns := [], harness := (true, "5d9ccc325a3376e2371cffbcb89800d4bd8a04fb785accaf2308573adfd1db61"), looks := true }, kinds := [], alts := [], laidByText := true, laidKinds := [.data, .data, .data, .data, .data, .pinned, .pinned], laidTests := true, laidLooks := .later }
def ShowBackCardSaid : Prop := Claim7.holds Tryz.pinned (.plain (OpenSpec.ofChange showBackSpec)) showBackCard

/-- THE TIED CARD OF 'pointsmanlaw37.PatternTells'. -/
def patternTellsCard : Claim7 := { stood := { row := patternTellsRow, standIns := [], harness := (true, "5d9ccc325a3376e2371cffbcb89800d4bd8a04fb785accaf2308573adfd1db61"), looks := true }, kinds := [], alts := [], laidByText := true, laidKinds := [.data, .data, .data, .data, .sentinel, .sentinel, .pinned], laidTests := true, laidLooks := .later }
def PatternTellsCardSaid : Prop := Claim7.holds Tryz.pinned (.plain (OpenSpec.ofChange patternTellsSpec)) patternTellsCard

/-- THE TIED CARD OF 'pointsmanlaw37.PatternTurns'. -/
def patternTurnsCard : Claim7 := { stood := { row := patternTurnsRow, standIns := [], harness := (true, "5d9ccc325a3376e2371cffbcb89800d4bd8a04fb785accaf2308573adfd1db61"), looks := true }, kinds := [], alts := [], laidByText := true, laidKinds := [.data, .data, .data, .data, .sentinel, .sentinel, .pinned], laidTests := true, laidLooks := .later }
def PatternTurnsCardSaid : Prop := Claim7.holds Tryz.pinned (.plain (OpenSpec.ofChange patternTurnsSpec)) patternTurnsCard

/-- THE TIED CARD OF 'pointsmanlaw31.SheetText'. -/
def sheetTextCard : Claim7 := { stood := { row := sheetTextRow, standIns := [], harness := (true, "5d9ccc325a3376e2371cffbcb89800d4bd8a04fb785accaf2308573adfd1db61"), looks := true }, kinds := [], alts := [], laidByText := true, laidKinds := [.data, .data, .data, .data, .sentinel, .sentinel, .pinned], laidTests := true, laidLooks := .later }
def SheetTextCardSaid : Prop := Claim7.holds Tryz.pinned (.plain (OpenSpec.ofChange sheetTextSpec)) sheetTextCard

/-- THE TIED CARD OF 'pointsmanlaw31.SheetReads'. -/
def sheetReadsCard : Claim7 := { stood := { row := sheetReadsRow, standIns := [], harness := (true, "5d9ccc325a3376e2371cffbcb89800d4bd8a04fb785accaf2308573adfd1db61"), looks := true }, kinds := [], alts := [], laidByText := true, laidKinds := [.data, .data, .data, .data, .sentinel, .sentinel, .pinned], laidTests := true, laidLooks := .later }
def SheetReadsCardSaid : Prop := Claim7.holds Tryz.pinned (.plain (OpenSpec.ofChange sheetReadsSpec)) sheetReadsCard

/-- THE TIED CARD OF 'pointsmanlaw31.SheetRow'. -/
def sheetRowCard : Claim7 := { stood := { row := sheetRowRow, standIns := [], harness := (true, "5d9ccc325a3376e2371cffbcb89800d4bd8a04fb785accaf2308573adfd1db61"), looks := true }, kinds := [], alts := [], laidByText := true, laidKinds := [.data, .data, .data, .data, .sentinel, .sentinel, .pinned], laidTests := true, laidLooks := .later }
def SheetRowCardSaid : Prop := Claim7.holds Tryz.pinned (.plain (OpenSpec.ofChange sheetRowSpec)) sheetRowCard

/-- THE TIED CARD OF 'pointsmanlaw01.PacketSorts'. -/
def packetSortsCard : Claim7 := { stood := { row := packetSortsRow, standIns := [], harness := (true, "5d9ccc325a3376e2371cffbcb89800d4bd8a04fb785accaf2308573adfd1db61"), looks := true }, kinds := [], alts := [], laidByText := true, laidKinds := [.data, .data, .data, .data, .sentinel, .sentinel, .pinned], laidTests := true, laidLooks := .later }
def PacketSortsCardSaid : Prop := Claim7.holds Tryz.pinned (.plain (OpenSpec.ofChange packetSortsSpec)) packetSortsCard

/-- THE SECOND FORM's CARD OF 'pointsmanlaw06.ShowBack'. -/
def showBackUptoCard : Claim7 := { stood := { row := showBackUptoRow, standIns := [], harness := (true, "5d9ccc325a3376e2371cffbcb89800d4bd8a04fb785accaf2308573adfd1db61"), looks := true }, kinds := [], alts := [], laidByText := true, laidKinds := [.data, .data, .data, .data, .data, .pinned, .pinned], laidTests := true, laidLooks := .later }
def ShowBackUptoCardSaid : Prop := Claim7.holds Tryz.pinned (.plain (OpenSpec.upto showBackSpec)) showBackUptoCard

/-- THE SECOND FORM's CARD OF 'pointsmanlaw37.PatternTells'. -/
def patternTellsUptoCard : Claim7 := { stood := { row := patternTellsUptoRow, standIns := [], harness := (true, "5d9ccc325a3376e2371cffbcb89800d4bd8a04fb785accaf2308573adfd1db61"), looks := true }, kinds := [], alts := [], laidByText := true, laidKinds := [.data, .data, .data, .data, .sentinel, .sentinel, .pinned], laidTests := true, laidLooks := .later }
def PatternTellsUptoCardSaid : Prop := Claim7.holds Tryz.pinned (.plain (OpenSpec.upto patternTellsSpec)) patternTellsUptoCard

/-- THE SECOND FORM's CARD OF 'pointsmanlaw37.PatternTurns'. -/
def patternTurnsUptoCard : Claim7 := { stood := { row := patternTurnsUptoRow, standIns := [], harness := (true, "5d9ccc325a3376e2371cffbcb89800d4bd8a04fb785accaf2308573adfd1db61"), looks := true }, kinds := [], alts := [], laidByText := true, laidKinds := [.data, .data, .data, .data, .sentinel, .sentinel, .pinned], laidTests := true, laidLooks := .later }
def PatternTurnsUptoCardSaid : Prop := Claim7.holds Tryz.pinned (.plain (OpenSpec.upto patternTurnsSpec)) patternTurnsUptoCard

/-- THE SECOND FORM's CARD OF 'pointsmanlaw31.SheetText'. -/
def sheetTextUptoCard : Claim7 := { stood := { row := sheetTextUptoRow, standIns := [], harness := (true, "5d9ccc325a3376e2371cffbcb89800d4bd8a04fb785accaf2308573adfd1db61"), looks := true }, kinds := [], alts := [], laidByText := true, laidKinds := [.data, .data, .data, .data, .sentinel, .sentinel, .pinned], laidTests := true, laidLooks := .later }
def SheetTextUptoCardSaid : Prop := Claim7.holds Tryz.pinned (.plain (OpenSpec.upto sheetTextSpec)) sheetTextUptoCard

/-- THE SECOND FORM's CARD OF 'pointsmanlaw31.SheetReads'. -/
def sheetReadsUptoCard : Claim7 := { stood := { row := sheetReadsUptoRow, standIns := [], harness := (true, "5d9ccc325a3376e2371cffbcb89800d4bd8a04fb785accaf2308573adfd1db61"), looks := true }, kinds := [], alts := [], laidByText := true, laidKinds := [.data, .data, .data, .data, .sentinel, .sentinel, .pinned], laidTests := true, laidLooks := .later }
def SheetReadsUptoCardSaid : Prop := Claim7.holds Tryz.pinned (.plain (OpenSpec.upto sheetReadsSpec)) sheetReadsUptoCard

/-- THE SECOND FORM's CARD OF 'pointsmanlaw31.SheetRow'. -/
def sheetRowUptoCard : Claim7 := { stood := { row := sheetRowUptoRow, standIns := [], harness := (true, "5d9ccc325a3376e2371cffbcb89800d4bd8a04fb785accaf2308573adfd1db61"), looks := true }, kinds := [], alts := [], laidByText := true, laidKinds := [.data, .data, .data, .data, .sentinel, .sentinel, .pinned], laidTests := true, laidLooks := .later }
def SheetRowUptoCardSaid : Prop := Claim7.holds Tryz.pinned (.plain (OpenSpec.upto sheetRowSpec)) sheetRowUptoCard

/-- THE SECOND FORM's CARD OF 'pointsmanlaw01.PacketSorts'. -/
def packetSortsUptoCard : Claim7 := { stood := { row := packetSortsUptoRow, standIns := [], harness := (true, "5d9ccc325a3376e2371cffbcb89800d4bd8a04fb785accaf2308573adfd1db61"), looks := true }, kinds := [], alts := [], laidByText := true, laidKinds := [.data, .data, .data, .data, .sentinel, .sentinel, .pinned], laidTests := true, laidLooks := .later }
def PacketSortsUptoCardSaid : Prop := Claim7.holds Tryz.pinned (.plain (OpenSpec.upto packetSortsSpec)) packetSortsUptoCard
end Rows
end Go.Proofs.YtdobclfcondfcaaGreatDoor
