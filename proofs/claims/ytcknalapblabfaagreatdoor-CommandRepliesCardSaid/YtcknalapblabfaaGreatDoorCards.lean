/-
  DERIVED. GIVEN WITH THE SEED: THE CARDS: each row of YtcknalapblabfaaGreatDoorRows.lean that lists a variable, with what it lists TIED to the program's text (the seventh form; the later family's looks); each row that meets fmt, with fmt's text TOLD by the authors' own Lean function (tested against real Go, not proved from fmt's source: count such statements apart). THE CARD IS WHAT COUNTS. Prove the row's statement (the work); the ties are given (YtcknalapblabfaaGreatDoorTie.lean); close each card by the builder's one call (the guide's Derived/Test/ToyasCard.lean, 'card_holds'). Laid BY PROGRAM, IN A SANDBOX (cutbox-door.mjs). By AI agents, Wed Nov 11 2026. No macro, syntax, notation, axiom, sorry.
-/
import Derived.Test.YtcknalapblabfaaGreatDoorRows
import GoSem.ClaimSeven
namespace Go.Proofs.YtcknalapblabfaaGreatDoor
namespace Rows

/-- THE TIED CARD OF 'sashlaw22.CommandReplies'. -/
def commandRepliesCard : Claim7 := { stood := { row := commandRepliesRow, standIns := [], harness := (true, "83ea1efae2073c5b1fde5f450cf79ca39b29d8a4cb7466d1aae39570ec089a04"), looks := true }, kinds := [], alts := [], laidByText := true, laidKinds := [.data, .data, .data, .handle, .sentinel, .sentinel], laidTests := true, laidLooks := .later }
def CommandRepliesCardSaid : Prop := Claim7.holds Tryz.pinned (.plain (OpenSpec.ofChange commandRepliesSpec)) commandRepliesCard

/-- THE TIED CARD OF 'sashlaw22.CommandNil'. -/
def commandNilCard : Claim7 := { stood := { row := commandNilRow, standIns := [], harness := (true, "83ea1efae2073c5b1fde5f450cf79ca39b29d8a4cb7466d1aae39570ec089a04"), looks := true }, kinds := [], alts := [], laidByText := true, laidKinds := [.data, .data, .data, .handle, .sentinel, .sentinel], laidTests := true, laidLooks := .later }
def CommandNilCardSaid : Prop := Claim7.holds Tryz.pinned (.plain (OpenSpec.ofChange commandNilSpec)) commandNilCard

/-- THE TIED CARD OF 'sashlaw24.ServerCap'. -/
def serverCapCard : Claim7 := { stood := { row := serverCapRow, standIns := [], harness := (true, "83ea1efae2073c5b1fde5f450cf79ca39b29d8a4cb7466d1aae39570ec089a04"), looks := true }, kinds := [], alts := [], laidByText := true, laidKinds := [.data, .data, .data, .handle, .sentinel, .sentinel], laidTests := true, laidLooks := .later }
def ServerCapCardSaid : Prop := Claim7.holds Tryz.pinned (.plain (OpenSpec.ofChange serverCapSpec)) serverCapCard

/-- THE TIED CARD OF 'sashlaw24.ServerNil'. -/
def serverNilCard : Claim7 := { stood := { row := serverNilRow, standIns := [], harness := (true, "83ea1efae2073c5b1fde5f450cf79ca39b29d8a4cb7466d1aae39570ec089a04"), looks := true }, kinds := [], alts := [], laidByText := true, laidKinds := [.data, .data, .data, .handle, .sentinel, .sentinel], laidTests := true, laidLooks := .later }
def ServerNilCardSaid : Prop := Claim7.holds Tryz.pinned (.plain (OpenSpec.ofChange serverNilSpec)) serverNilCard

/-- THE TIED CARD OF 'sashlaw27.SampleIs'. -/
def sampleIsCard : Claim7 := { stood := { row := sampleIsRow, standIns := [], harness := (true, "83ea1efae2073c5b1fde5f450cf79ca39b29d8a4cb7466d1aae39570ec089a04"), looks := true }, kinds := [], alts := [], laidByText := true, laidKinds := [.data, .data, .data, .handle, .sentinel, .sentinel], laidTests := true, laidLooks := .later }
def SampleIsCardSaid : Prop := Claim7.holds Tryz.pinned (.plain (OpenSpec.ofChange sampleIsSpec)) sampleIsCard

/-- THE TIED CARD OF 'sashlaw27.SampleZooms'. -/
def sampleZoomsCard : Claim7 := { stood := { row := sampleZoomsRow, standIns := [], harness := (true, "83ea1efae2073c5b1fde5f450cf79ca39b29d8a4cb7466d1aae39570ec089a04"), looks := true }, kinds := [], alts := [], laidByText := true, laidKinds := [.data, .data, .data, .handle, .sentinel, .sentinel], laidTests := true, laidLooks := .later }
def SampleZoomsCardSaid : Prop := Claim7.holds Tryz.pinned (.plain (OpenSpec.ofChange sampleZoomsSpec)) sampleZoomsCard

/-- THE SECOND FORM's CARD OF 'sashlaw22.CommandReplies'. -/
def commandRepliesUptoCard : Claim7 := { stood := { row := commandRepliesUptoRow, standIns := [], harness := (true, "83ea1efae2073c5b1fde5f450cf79ca39b29d8a4cb7466d1aae39570ec089a04"), looks := true }, kinds := [], alts := [], laidByText := true, laidKinds := [.data, .data, .data, .handle, .sentinel, .sentinel], laidTests := true, laidLooks := .later }
def CommandRepliesUptoCardSaid : Prop := Claim7.holds Tryz.pinned (.plain (OpenSpec.upto commandRepliesSpec)) commandRepliesUptoCard

/-- THE SECOND FORM's CARD OF 'sashlaw22.CommandNil'. -/
def commandNilUptoCard : Claim7 := { stood := { row := commandNilUptoRow, standIns := [], harness := (true, "83ea1efae2073c5b1fde5f450cf79ca39b29d8a4cb7466d1aae39570ec089a04"), looks := true }, kinds := [], alts := [], laidByText := true, laidKinds := [.data, .data, .data, .handle, .sentinel, .sentinel], laidTests := true, laidLooks := .later }
def CommandNilUptoCardSaid : Prop := Claim7.holds Tryz.pinned (.plain (OpenSpec.upto commandNilSpec)) commandNilUptoCard

/-- THE SECOND FORM's CARD OF 'sashlaw24.ServerCap'. -/
def serverCapUptoCard : Claim7 := { stood := { row := serverCapUptoRow, standIns := [], harness := (true, "83ea1efae2073c5b1fde5f450cf79ca39b29d8a4cb7466d1aae39570ec089a04"), looks := true }, kinds := [], alts := [], laidByText := true, laidKinds := [.data, .data, .data, .handle, .sentinel, .sentinel], laidTests := true, laidLooks := .later }
def ServerCapUptoCardSaid : Prop := Claim7.holds Tryz.pinned (.plain (OpenSpec.upto serverCapSpec)) serverCapUptoCard

/-- THE SECOND FORM's CARD OF 'sashlaw24.ServerNil'. -/
def serverNilUptoCard : Claim7 := { stood := { row := serverNilUptoRow, standIns := [], harness := (true, "83ea1efae2073c5b1fde5f450cf79ca39b29d8a4cb7466d1aae39570ec089a04"), looks := true }, kinds := [], alts := [], laidByText := true, laidKinds := [.data, .data, .data, .handle, .sentinel, .sentinel], laidTests := true, laidLooks := .later }
def ServerNilUptoCardSaid : Prop := Claim7.holds Tryz.pinned (.plain (OpenSpec.upto serverNilSpec)) serverNilUptoCard

/-- THE SECOND FORM's CARD OF 'sashlaw27.SampleIs'. -/
def sampleIsUptoCard : Claim7 := { stood := { row := sampleIsUptoRow, standIns := [], harness := (true, "83ea1efae2073c5b1fde5f450cf79ca39b29d8a4cb7466d1aae39570ec089a04"), looks := true }, kinds := [], alts := [], laidByText := true, laidKinds := [.data, .data, .data, .handle, .sentinel, .sentinel], laidTests := true, laidLooks := .later }
def SampleIsUptoCardSaid : Prop := Claim7.holds Tryz.pinned (.plain (OpenSpec.upto sampleIsSpec)) sampleIsUptoCard

/-- THE SECOND FORM's CARD OF 'sashlaw27.SampleZooms'. -/
def sampleZoomsUptoCard : Claim7 := { stood := { row := sampleZoomsUptoRow, standIns := [], harness := (true, "83ea1efae2073c5b1fde5f450cf79ca39b29d8a4cb7466d1aae39570ec089a04"), looks := true }, kinds := [], alts := [], laidByText := true, laidKinds := [.data, .data, .data, .handle, .sentinel, .sentinel], laidTests := true, laidLooks := .later }
def SampleZoomsUptoCardSaid : Prop := Claim7.holds Tryz.pinned (.plain (OpenSpec.upto sampleZoomsSpec)) sampleZoomsUptoCard
end Rows
end Go.Proofs.YtcknalapblabfaaGreatDoor
