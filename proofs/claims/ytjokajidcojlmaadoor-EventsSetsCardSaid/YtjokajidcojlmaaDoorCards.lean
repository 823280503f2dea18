/-
  DERIVED. GIVEN WITH THE SEED: THE CARDS: each row of YtjokajidcojlmaaDoorRows.lean that lists a variable, with what it lists TIED to the program's text (the seventh form; the later family's looks); each row that meets fmt, with fmt's text TOLD by the authors' own Lean function (tested against real Go, not proved from fmt's source: count such statements apart). THE CARD IS WHAT COUNTS. Prove the row's statement (the work); the ties are given (YtjokajidcojlmaaDoorTie.lean); close each card by the builder's one call (the guide's Derived/Test/ToyasCard.lean, 'card_holds'). Laid BY PROGRAM, IN A SANDBOX (cutbox-door.mjs). By AI agents, Wed Nov 11 2026. No macro, syntax, notation, axiom, sorry.
-/
import Derived.Test.YtjokajidcojlmaaDoorRows
import GoSem.ClaimSeven
namespace Go.Proofs.YtjokajidcojlmaaDoor
namespace Rows

/-- THE TIED CARD OF 'pointsmanlaw06.ShowTells'. -/
def showTellsCard : Claim7 := { stood := { row := showTellsRow, standIns := [], harness := (true, "89851a6afc18b8b71df9942f9717990413c434ad0a42aa9dd276ca674943a23f"), looks := true }, kinds := [], alts := [], laidByText := true, laidKinds := [.data, .data, .data], laidTests := true, laidLooks := .later }
def ShowTellsCardSaid : Prop := Claim7.holds Tryd.pinned (.plain (OpenSpec.ofChange showTellsSpec)) showTellsCard

/-- THE TIED CARD OF 'pointsmanlaw04.LexBack'. -/
def lexBackCard : Claim7 := { stood := { row := lexBackRow, standIns := [], harness := (true, "89851a6afc18b8b71df9942f9717990413c434ad0a42aa9dd276ca674943a23f"), looks := true }, kinds := [], alts := [], laidByText := true, laidKinds := [.data, .data, .data, .data, .data, .pinned, .pinned], laidTests := true, laidLooks := .later }
def LexBackCardSaid : Prop := Claim7.holds Tryd.pinned (.plain (OpenSpec.ofChange lexBackSpec)) lexBackCard

/-- THE TIED CARD OF 'pointsmanlaw04.LexLines'. -/
def lexLinesCard : Claim7 := { stood := { row := lexLinesRow, standIns := [], harness := (true, "89851a6afc18b8b71df9942f9717990413c434ad0a42aa9dd276ca674943a23f"), looks := true }, kinds := [], alts := [], laidByText := true, laidKinds := [.data, .data, .data, .data, .data, .pinned, .pinned], laidTests := true, laidLooks := .later }
def LexLinesCardSaid : Prop := Claim7.holds Tryd.pinned (.plain (OpenSpec.ofChange lexLinesSpec)) lexLinesCard

/-- THE TIED CARD OF 'pointsmanlaw13.TopoBack'. -/
def topoBackCard : Claim7 := { stood := { row := topoBackRow, standIns := [], harness := (true, "89851a6afc18b8b71df9942f9717990413c434ad0a42aa9dd276ca674943a23f"), looks := true }, kinds := [], alts := [], laidByText := true, laidKinds := [.data, .data, .data, .data, .data, .pinned, .pinned], laidTests := true, laidLooks := .later }
def TopoBackCardSaid : Prop := Claim7.holds Tryd.pinned (.plain (OpenSpec.ofChange topoBackSpec)) topoBackCard

/-- THE TIED CARD OF 'pointsmanlaw13.TopoEnds'. -/
def topoEndsCard : Claim7 := { stood := { row := topoEndsRow, standIns := [], harness := (true, "89851a6afc18b8b71df9942f9717990413c434ad0a42aa9dd276ca674943a23f"), looks := true }, kinds := [], alts := [], laidByText := true, laidKinds := [.data, .data, .data, .data, .data, .pinned, .pinned], laidTests := true, laidLooks := .later }
def TopoEndsCardSaid : Prop := Claim7.holds Tryd.pinned (.plain (OpenSpec.ofChange topoEndsSpec)) topoEndsCard

/-- THE TIED CARD OF 'pointsmanlaw05.SyntaxChecks'. -/
def syntaxChecksCard : Claim7 := { stood := { row := syntaxChecksRow, standIns := [], harness := (true, "89851a6afc18b8b71df9942f9717990413c434ad0a42aa9dd276ca674943a23f"), looks := true }, kinds := [], alts := [], laidByText := true, laidKinds := [.data, .data, .pinned, .pinned], laidTests := true, laidLooks := .later }
def SyntaxChecksCardSaid : Prop := Claim7.holds Tryd.pinned (.plain (OpenSpec.ofChange syntaxChecksSpec)) syntaxChecksCard

/-- THE TIED CARD OF 'pointsmanlaw05.SyntaxLong'. -/
def syntaxLongCard : Claim7 := { stood := { row := syntaxLongRow, standIns := [], harness := (true, "89851a6afc18b8b71df9942f9717990413c434ad0a42aa9dd276ca674943a23f"), looks := true }, kinds := [], alts := [], laidByText := true, laidKinds := [.data, .data, .pinned, .pinned], laidTests := true, laidLooks := .later }
def SyntaxLongCardSaid : Prop := Claim7.holds Tryd.pinned (.plain (OpenSpec.ofChange syntaxLongSpec)) syntaxLongCard

/-- THE TIED CARD OF 'pointsmanlaw05.SyntaxNames'. -/
def syntaxNamesCard : Claim7 := { stood := { row := syntaxNamesRow, standIns := [], harness := (true, "89851a6afc18b8b71df9942f9717990413c434ad0a42aa9dd276ca674943a23f"), looks := true }, kinds := [], alts := [], laidByText := true, laidKinds := [.data, .data, .pinned, .pinned], laidTests := true, laidLooks := .later }
def SyntaxNamesCardSaid : Prop := Claim7.holds Tryd.pinned (.plain (OpenSpec.ofChange syntaxNamesSpec)) syntaxNamesCard

/-- THE TIED CARD OF 'pointsmanlaw02.EventsSets'. -/
def eventsSetsCard : Claim7 := { stood := { row := eventsSetsRow, standIns := [], harness := (true, "89851a6afc18b8b71df9942f9717990413c434ad0a42aa9dd276ca674943a23f"), looks := true }, kinds := [], alts := [], laidByText := true, laidKinds := [.data, .data, .data, .data, .sentinel, .sentinel, .pinned], laidTests := true, laidLooks := .later }
def EventsSetsCardSaid : Prop := Claim7.holds Tryd.pinned (.plain (OpenSpec.ofChange eventsSetsSpec)) eventsSetsCard

/-- THE TIED CARD OF 'pointsmanlaw02.EventsText'. -/
def eventsTextCard : Claim7 := { stood := { row := eventsTextRow, standIns := [], harness := (true, "89851a6afc18b8b71df9942f9717990413c434ad0a42aa9dd276ca674943a23f"), looks := true }, kinds := [], alts := [], laidByText := true, laidKinds := [.data, .data, .data, .data, .sentinel, .sentinel, .pinned], laidTests := true, laidLooks := .later }
def EventsTextCardSaid : Prop := Claim7.holds Tryd.pinned (.plain (OpenSpec.ofChange eventsTextSpec)) eventsTextCard

/-- THE TIED CARD OF 'pointsmanlaw02.EventsIn'. -/
def eventsInCard : Claim7 := { stood := { row := eventsInRow, standIns := [], harness := (true, "89851a6afc18b8b71df9942f9717990413c434ad0a42aa9dd276ca674943a23f"), looks := true }, kinds := [], alts := [], laidByText := true, laidKinds := [.data, .data, .data, .data, .sentinel, .sentinel, .pinned], laidTests := true, laidLooks := .later }
def EventsInCardSaid : Prop := Claim7.holds Tryd.pinned (.plain (OpenSpec.ofChange eventsInSpec)) eventsInCard

/-- THE TIED CARD OF 'pointsmanlaw01.PacketText'. -/
def packetTextCard : Claim7 := { stood := { row := packetTextRow, standIns := [], harness := (true, "89851a6afc18b8b71df9942f9717990413c434ad0a42aa9dd276ca674943a23f"), looks := true }, kinds := [], alts := [], laidByText := true, laidKinds := [.data, .data, .data, .data, .sentinel, .sentinel, .pinned], laidTests := true, laidLooks := .later }
def PacketTextCardSaid : Prop := Claim7.holds Tryd.pinned (.plain (OpenSpec.ofChange packetTextSpec)) packetTextCard

/-- THE SECOND FORM's CARD OF 'pointsmanlaw06.ShowTells'. -/
def showTellsUptoCard : Claim7 := { stood := { row := showTellsUptoRow, standIns := [], harness := (true, "89851a6afc18b8b71df9942f9717990413c434ad0a42aa9dd276ca674943a23f"), looks := true }, kinds := [], alts := [], laidByText := true, laidKinds := [.data, .data, .data], laidTests := true, laidLooks := .later }
def ShowTellsUptoCardSaid : Prop := Claim7.holds Tryd.pinned (.plain (OpenSpec.upto showTellsSpec)) showTellsUptoCard

/-- THE SECOND FORM's CARD OF 'pointsmanlaw04.LexBack'. -/
def lexBackUptoCard : Claim7 := { stood := { row := lexBackUptoRow, standIns := [], harness := (true, "89851a6afc18b8b71df9942f9717990413c434ad0a42aa9dd276ca674943a23f"), looks := true }, kinds := [], alts := [], laidByText := true, laidKinds := [.data, .data, .data, .data, .data, .pinned, .pinned], laidTests := true, laidLooks := .later }
def LexBackUptoCardSaid : Prop := Claim7.holds Tryd.pinned (.plain (OpenSpec.upto lexBackSpec)) lexBackUptoCard

/-- THE SECOND FORM's CARD OF 'pointsmanlaw04.LexLines'. -/
def lexLinesUptoCard : Claim7 := { stood := { row := lexLinesUptoRow, standIns := [], harness := (true, "89851a6afc18b8b71df9942f9717990413c434ad0a42aa9dd276ca674943a23f"), looks := true }, kinds := [], alts := [], laidByText := true, laidKinds := [.data, .data, .data, .data, .data, .pinned, .pinned], laidTests := true, laidLooks := .later }
def LexLinesUptoCardSaid : Prop := Claim7.holds Tryd.pinned (.plain (OpenSpec.upto lexLinesSpec)) lexLinesUptoCard

/-- THE SECOND FORM's CARD OF 'pointsmanlaw13.TopoBack'. -/
def topoBackUptoCard : Claim7 := { stood := { row := topoBackUptoRow, standIns := [], harness := (true, "89851a6afc18b8b71df9942f9717990413c434ad0a42aa9dd276ca674943a23f"), looks := true }, kinds := [], alts := [], laidByText := true, laidKinds := [.data, .data, .data, .data, .data, .pinned, .pinned], laidTests := true, laidLooks := .later }
def TopoBackUptoCardSaid : Prop := Claim7.holds Tryd.pinned (.plain (OpenSpec.upto topoBackSpec)) topoBackUptoCard

/-- THE SECOND FORM's CARD OF 'pointsmanlaw13.TopoEnds'. -/
def topoEndsUptoCard : Claim7 := { stood := { row := topoEndsUptoRow, standIns := [], harness := (true, "89851a6afc18b8b71df9942f9717990413c434ad0a42aa9dd276ca674943a23f"), looks := true }, kinds := [], alts := [], laidByText := true, laidKinds := [.data, .data, .data, .data, .data, .pinned, .pinned], laidTests := true, laidLooks := .later }
def TopoEndsUptoCardSaid : Prop := Claim7.holds Tryd.pinned (.plain (OpenSpec.upto topoEndsSpec)) topoEndsUptoCard

/-- THE SECOND FORM's CARD OF 'pointsmanlaw05.SyntaxChecks'. -/
def syntaxChecksUptoCard : Claim7 := { stood := { row := syntaxChecksUptoRow, standIns := [], harness := (true, "89851a6afc18b8b71df9942f9717990413c434ad0a42aa9dd276ca674943a23f"), looks := true }, kinds := [], alts := [], laidByText := true, laidKinds := [.data, .data, .pinned, .pinned], laidTests := true, laidLooks := .later }
def SyntaxChecksUptoCardSaid : Prop := Claim7.holds Tryd.pinned (.plain (OpenSpec.upto syntaxChecksSpec)) syntaxChecksUptoCard

/-- THE SECOND FORM's CARD OF 'pointsmanlaw05.SyntaxLong'. -/
def syntaxLongUptoCard : Claim7 := { stood := { row := syntaxLongUptoRow, standIns := [], harness := (true, "89851a6afc18b8b71df9942f9717990413c434ad0a42aa9dd276ca674943a23f"), looks := true }, kinds := [], alts := [], laidByText := true, laidKinds := [.data, .data, .pinned, .pinned], laidTests := true, laidLooks := .later }
def SyntaxLongUptoCardSaid : Prop := Claim7.holds Tryd.pinned (.plain (OpenSpec.upto syntaxLongSpec)) syntaxLongUptoCard

/-- THE SECOND FORM's CARD OF 'pointsmanlaw05.SyntaxNames'. -/
def syntaxNamesUptoCard : Claim7 := { stood := { row := syntaxNamesUptoRow, standIns := [], harness := (true, "89851a6afc18b8b71df9942f9717990413c434ad0a42aa9dd276ca674943a23f"), looks := true }, kinds := [], alts := [], laidByText := true, laidKinds := [.data, .data, .pinned, .pinned], laidTests := true, laidLooks := .later }
def SyntaxNamesUptoCardSaid : Prop := Claim7.holds Tryd.pinned (.plain (OpenSpec.upto syntaxNamesSpec)) syntaxNamesUptoCard

/-- THE SECOND FORM's CARD OF 'pointsmanlaw02.EventsSets'. -/
def eventsSetsUptoCard : Claim7 := { stood := { row := eventsSetsUptoRow, standIns := [], harness := (true, "89851a6afc18b8b71df9942f9717990413c434ad0a42aa9dd276ca674943a23f"), looks := true }, kinds := [], alts := [], laidByText := true, laidKinds := [.data, .data, .data, .data, .sentinel, .sentinel, .pinned], laidTests := true, laidLooks := .later }
def EventsSetsUptoCardSaid : Prop := Claim7.holds Tryd.pinned (.plain (OpenSpec.upto eventsSetsSpec)) eventsSetsUptoCard

/-- THE SECOND FORM's CARD OF 'pointsmanlaw02.EventsText'. -/
def eventsTextUptoCard : Claim7 := { stood := { row := eventsTextUptoRow, standIns := [], harness := (true, "89851a6afc18b8b71df9942f9717990413c434ad0a42aa9dd276ca674943a23f"), looks := true }, kinds := [], alts := [], laidByText := true, laidKinds := [.data, .data, .data, .data, .sentinel, .sentinel, .pinned], laidTests := true, laidLooks := .later }
def EventsTextUptoCardSaid : Prop := Claim7.holds Tryd.pinned (.plain (OpenSpec.upto eventsTextSpec)) eventsTextUptoCard

/-- THE SECOND FORM's CARD OF 'pointsmanlaw02.EventsIn'. -/
def eventsInUptoCard : Claim7 := { stood := { row := eventsInUptoRow, standIns := [], harness := (true, "89851a6afc18b8b71df9942f9717990413c434ad0a42aa9dd276ca674943a23f"), looks := true }, kinds := [], alts := [], laidByText := true, laidKinds := [.data, .data, .data, .data, .sentinel, .sentinel, .pinned], laidTests := true, laidLooks := .later }
def EventsInUptoCardSaid : Prop := Claim7.holds Tryd.pinned (.plain (OpenSpec.upto eventsInSpec)) eventsInUptoCard

/-- THE SECOND FORM's CARD OF 'pointsmanlaw01.PacketText'. -/
def packetTextUptoCard : Claim7 := { stood := { row := packetTextUptoRow, standIns := [], harness := (true, "89851a6afc18b8b71df9942f9717990413c434ad0a42aa9dd276ca674943a23f"), looks := true }, kinds := [], alts := [], laidByText := true, laidKinds := [.data, .data, .data, .data, .sentinel, .sentinel, .pinned], laidTests := true, laidLooks := .later }
def PacketTextUptoCardSaid : Prop := Claim7.holds Tryd.pinned (.plain (OpenSpec.upto packetTextSpec)) packetTextUptoCard
end Rows
end Go.Proofs.YtjokajidcojlmaaDoor
