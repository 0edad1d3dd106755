/-
  DERIVED. GIVEN WITH THE SEED: THE CARDS: each row of YtejjnaibgimiaaaGreatDoorRows.lean that lists a variable, with what it lists TIED to the program's text (the seventh form; the later family's looks); each row that meets fmt, with fmt's text TOLD by the authors' own Lean function (tested against real Go, not proved from fmt's source: count such statements apart). THE CARD IS WHAT COUNTS. Prove the row's statement (the work); the ties are given (YtejjnaibgimiaaaGreatDoorTie.lean); close each card by the builder's one call (the guide's Derived/Test/ToyasCard.lean, 'card_holds'). Laid BY PROGRAM, IN A SANDBOX (cutbox-door.mjs). By AI agents, Wed Nov 11 2026. No macro, syntax, notation, axiom, sorry.
-/
import Derived.Test.YtejjnaibgimiaaaGreatDoorRows
import GoSem.ClaimSeven
namespace Go.Proofs.YtejjnaibgimiaaaGreatDoor
namespace Rows

/-- THE TIED CARD OF 'sashlaw22.CommandNil'. -/
def commandNilCard : Claim7 := { stood := { row := commandNilRow, standIns := [], harness := (true, "f2e1d2b072210d84a200d658934d0e153f78f12018917ee16ba43b440a019de9"), looks := true }, kinds := [], alts := [], laidByText := true, laidKinds := [.data, .data, .data, .handle, .sentinel, .sentinel], laidTests := true, laidLooks := .later }
def CommandNilCardSaid : Prop := Claim7.holds Tryz.pinned (.plain (OpenSpec.ofChange commandNilSpec)) commandNilCard

/-- THE TIED CARD OF 'sashlaw24.ServerCap'. -/
def serverCapCard : Claim7 := { stood := { row := serverCapRow, standIns := [], harness := (true, "f2e1d2b072210d84a200d658934d0e153f78f12018917ee16ba43b440a019de9"), looks := true }, kinds := [], alts := [], laidByText := true, laidKinds := [.data, .data, .data, .handle, .sentinel, .sentinel], laidTests := true, laidLooks := .later }
def ServerCapCardSaid : Prop := Claim7.holds Tryz.pinned (.plain (OpenSpec.ofChange serverCapSpec)) serverCapCard

/-- THE TIED CARD OF 'sashlaw24.ServerNil'. -/
def serverNilCard : Claim7 := { stood := { row := serverNilRow, standIns := [], harness := (true, "f2e1d2b072210d84a200d658934d0e153f78f12018917ee16ba43b440a019de9"), looks := true }, kinds := [], alts := [], laidByText := true, laidKinds := [.data, .data, .data, .handle, .sentinel, .sentinel], laidTests := true, laidLooks := .later }
def ServerNilCardSaid : Prop := Claim7.holds Tryz.pinned (.plain (OpenSpec.ofChange serverNilSpec)) serverNilCard

/-- THE SECOND FORM's CARD OF 'sashlaw22.CommandNil'. -/
def commandNilUptoCard : Claim7 := { stood := { row := commandNilUptoRow, standIns := [], harness := (true, "f2e1d2b072210d84a200d658934d0e153f78f12018917ee16ba43b440a019de9"), looks := true }, kinds := [], alts := [], laidByText := true, laidKinds := [.data, .data, .data, .handle, .sentinel, .sentinel], laidTests := true, laidLooks := .later }
def CommandNilUptoCardSaid : Prop := Claim7.holds Tryz.pinned (.plain (OpenSpec.upto commandNilSpec)) commandNilUptoCard

/-- THE SECOND FORM's CARD OF 'sashlaw24.ServerCap'. -/
def serverCapUptoCard : Claim7 := { stood := { row := serverCapUptoRow, standIns := [], harness := (true, "f2e1d2b072210d84a200d658934d0e153f78f12018917ee16ba43b440a019de9"), looks := true }, kinds := [], alts := [], laidByText := true, laidKinds := [.data, .data, .data, .handle, .sentinel, .sentinel], laidTests := true, laidLooks := .later }
def ServerCapUptoCardSaid : Prop := Claim7.holds Tryz.pinned (.plain (OpenSpec.upto serverCapSpec)) serverCapUptoCard

/-- THE SECOND FORM's CARD OF 'sashlaw24.ServerNil'. -/
def serverNilUptoCard : Claim7 := { stood := { row := serverNilUptoRow, standIns := [], harness := (true, "f2e1d2b072210d84a200d658934d0e153f78f12018917ee16ba43b440a019de9"), looks := true }, kinds := [], alts := [], laidByText := true, laidKinds := [.data, .data, .data, .handle, .sentinel, .sentinel], laidTests := true, laidLooks := .later }
def ServerNilUptoCardSaid : Prop := Claim7.holds Tryz.pinned (.plain (OpenSpec.upto serverNilSpec)) serverNilUptoCard
end Rows
end Go.Proofs.YtejjnaibgimiaaaGreatDoor
