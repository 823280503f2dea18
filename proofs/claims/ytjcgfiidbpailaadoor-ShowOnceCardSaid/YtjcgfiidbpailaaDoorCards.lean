/-
  DERIVED. GIVEN WITH THE SEED: THE CARDS: each row of YtjcgfiidbpailaaDoorRows.lean that lists a variable, with what it lists TIED to the program's text (the seventh form; the later family's looks); each row that meets fmt, with fmt's text TOLD by the authors' own Lean function (tested against real Go, not proved from fmt's source: count such statements apart). THE CARD IS WHAT COUNTS. Prove the row's statement (the work); the ties are given (YtjcgfiidbpailaaDoorTie.lean); close each card by the builder's one call (the guide's Derived/Test/ToyasCard.lean, 'card_holds'). Laid BY PROGRAM, IN A SANDBOX (cutbox-door.mjs). By AI agents, Wed Nov 11 2026. No macro, syntax, notation, axiom, sorry.
-/
import Derived.Test.YtjcgfiidbpailaaDoorRows
import GoSem.ClaimSeven
namespace Go.Proofs.YtjcgfiidbpailaaDoor
namespace Rows

/-- THE TIED CARD OF 'pointsmanlaw01.PacketHas'. -/
def packetHasCard : Claim7 := { stood := { row := packetHasRow, standIns := [], harness := (true, "a944062ec2e056fa2f4fe4922c7ac8e806551ba68d4af7bccf4c648fd9a299d3"), looks := true }, kinds := [], alts := [], laidByText := true, laidKinds := [.data, .data, .data, .data, .sentinel, .sentinel, .pinned], laidTests := true, laidLooks := .later }
def PacketHasCardSaid : Prop := Claim7.holds Tryd.pinned (.plain (OpenSpec.ofChange packetHasSpec)) packetHasCard

/-- THE TIED CARD OF 'pointsmanlaw01.PacketFields'. -/
def packetFieldsCard : Claim7 := { stood := { row := packetFieldsRow, standIns := [], harness := (true, "a944062ec2e056fa2f4fe4922c7ac8e806551ba68d4af7bccf4c648fd9a299d3"), looks := true }, kinds := [], alts := [], laidByText := true, laidKinds := [.data, .data, .data, .data, .sentinel, .sentinel, .pinned], laidTests := true, laidLooks := .later }
def PacketFieldsCardSaid : Prop := Claim7.holds Tryd.pinned (.plain (OpenSpec.ofChange packetFieldsSpec)) packetFieldsCard

/-- THE TIED CARD OF 'pointsmanlaw06.ShowOnce'. -/
def showOnceCard : Claim7 := { stood := { row := showOnceRow, standIns := [], harness := (true, "a944062ec2e056fa2f4fe4922c7ac8e806551ba68d4af7bccf4c648fd9a299d3"), looks := true }, kinds := [], alts := [], laidByText := true, laidKinds := [.data, .data, .data, .data, .data, .pinned, .pinned], laidTests := true, laidLooks := .later }
def ShowOnceCardSaid : Prop := Claim7.holds Tryd.pinned (.plain (OpenSpec.ofChange showOnceSpec)) showOnceCard

/-- THE TIED CARD OF 'pointsmanlaw37.PatternOf'. -/
def patternOfCard : Claim7 := { stood := { row := patternOfRow, standIns := [], harness := (true, "a944062ec2e056fa2f4fe4922c7ac8e806551ba68d4af7bccf4c648fd9a299d3"), looks := true }, kinds := [], alts := [], laidByText := true, laidKinds := [.data, .data, .data, .data, .sentinel, .sentinel, .pinned], laidTests := true, laidLooks := .later }
def PatternOfCardSaid : Prop := Claim7.holds Tryd.pinned (.plain (OpenSpec.ofChange patternOfSpec)) patternOfCard

/-- THE SECOND FORM's CARD OF 'pointsmanlaw01.PacketHas'. -/
def packetHasUptoCard : Claim7 := { stood := { row := packetHasUptoRow, standIns := [], harness := (true, "a944062ec2e056fa2f4fe4922c7ac8e806551ba68d4af7bccf4c648fd9a299d3"), looks := true }, kinds := [], alts := [], laidByText := true, laidKinds := [.data, .data, .data, .data, .sentinel, .sentinel, .pinned], laidTests := true, laidLooks := .later }
def PacketHasUptoCardSaid : Prop := Claim7.holds Tryd.pinned (.plain (OpenSpec.upto packetHasSpec)) packetHasUptoCard

/-- THE SECOND FORM's CARD OF 'pointsmanlaw01.PacketFields'. -/
def packetFieldsUptoCard : Claim7 := { stood := { row := packetFieldsUptoRow, standIns := [], harness := (true, "a944062ec2e056fa2f4fe4922c7ac8e806551ba68d4af7bccf4c648fd9a299d3"), looks := true }, kinds := [], alts := [], laidByText := true, laidKinds := [.data, .data, .data, .data, .sentinel, .sentinel, .pinned], laidTests := true, laidLooks := .later }
def PacketFieldsUptoCardSaid : Prop := Claim7.holds Tryd.pinned (.plain (OpenSpec.upto packetFieldsSpec)) packetFieldsUptoCard

/-- THE SECOND FORM's CARD OF 'pointsmanlaw06.ShowOnce'. -/
def showOnceUptoCard : Claim7 := { stood := { row := showOnceUptoRow, standIns := [], harness := (true, "a944062ec2e056fa2f4fe4922c7ac8e806551ba68d4af7bccf4c648fd9a299d3"), looks := true }, kinds := [], alts := [], laidByText := true, laidKinds := [.data, .data, .data, .data, .data, .pinned, .pinned], laidTests := true, laidLooks := .later }
def ShowOnceUptoCardSaid : Prop := Claim7.holds Tryd.pinned (.plain (OpenSpec.upto showOnceSpec)) showOnceUptoCard

/-- THE SECOND FORM's CARD OF 'pointsmanlaw37.PatternOf'. -/
def patternOfUptoCard : Claim7 := { stood := { row := patternOfUptoRow, standIns := [], harness := (true, "a944062ec2e056fa2f4fe4922c7ac8e806551ba68d4af7bccf4c648fd9a299d3"), looks := true }, kinds := [], alts := [], laidByText := true, laidKinds := [.data, .data, .data, .data, .sentinel, .sentinel, .pinned], laidTests := true, laidLooks := .later }
def PatternOfUptoCardSaid : Prop := Claim7.holds Tryd.pinned (.plain (OpenSpec.upto patternOfSpec)) patternOfUptoCard
end Rows
end Go.Proofs.YtjcgfiidbpailaaDoor
