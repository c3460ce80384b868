/-
  DERIVED. GIVEN WITH THE SEED: THE CARDS: each row of YtglekdhdogjnoaaDoorRows.lean that lists a variable, with what it lists TIED to the program's text (the seventh form; the later family's looks); each row that meets fmt, with fmt's text TOLD by the authors' own Lean function (tested against real Go, not proved from fmt's source: count such statements apart). THE CARD IS WHAT COUNTS. Prove the row's statement (the work); the ties are given (YtglekdhdogjnoaaDoorTie.lean); close each card by the builder's one call (the guide's Derived/Test/ToyasCard.lean, 'card_holds'). Laid BY PROGRAM, IN A SANDBOX (cutbox-door.mjs). By AI agents, Wed Nov 11 2026. No macro, syntax, notation, axiom, sorry.
-/
import Derived.Test.YtglekdhdogjnoaaDoorRows
import GoSem.ClaimSeven
namespace Go.Proofs.YtglekdhdogjnoaaDoor
namespace Rows

/-- THE TIED CARD OF 'cordwoodlaw60.ConsoleLine'. -/
def consoleLineCard : Claim7 := { stood := { row := consoleLineRow, standIns := [], harness := (true, "8540ae786cd3e4f23538c44d3cd3e5fe329b01b04b2e9e757177091dfda544f1"), looks := true }, kinds := [], alts := [], laidByText := true, laidKinds := [.data, .data, .data, .sentinel, .sentinel], laidTests := true, laidLooks := .later }
def ConsoleLineCardSaid : Prop := Claim7.holds Tryd.pinned (.plain (OpenSpec.ofChange consoleLineSpec)) consoleLineCard

/-- THE TIED CARD OF 'cordwoodlaw60.ConsoleShow'. -/
def consoleShowCard : Claim7 := { stood := { row := consoleShowRow, standIns := [], harness := (true, "8540ae786cd3e4f23538c44d3cd3e5fe329b01b04b2e9e757177091dfda544f1"), looks := true }, kinds := [], alts := [], laidByText := true, laidKinds := [.data, .data, .data, .sentinel, .sentinel], laidTests := true, laidLooks := .later }
def ConsoleShowCardSaid : Prop := Claim7.holds Tryd.pinned (.plain (OpenSpec.ofChange consoleShowSpec)) consoleShowCard

/-- THE TIED CARD OF 'cordwoodlaw60.ConsoleRoundTrip'. -/
def consoleRoundTripCard : Claim7 := { stood := { row := consoleRoundTripRow, standIns := [], harness := (true, "8540ae786cd3e4f23538c44d3cd3e5fe329b01b04b2e9e757177091dfda544f1"), looks := true }, kinds := [], alts := [], laidByText := true, laidKinds := [.data, .data, .data, .sentinel, .sentinel], laidTests := true, laidLooks := .later }
def ConsoleRoundTripCardSaid : Prop := Claim7.holds Tryd.pinned (.plain (OpenSpec.ofChange consoleRoundTripSpec)) consoleRoundTripCard

/-- THE SECOND FORM's CARD OF 'cordwoodlaw60.ConsoleLine'. -/
def consoleLineUptoCard : Claim7 := { stood := { row := consoleLineUptoRow, standIns := [], harness := (true, "8540ae786cd3e4f23538c44d3cd3e5fe329b01b04b2e9e757177091dfda544f1"), looks := true }, kinds := [], alts := [], laidByText := true, laidKinds := [.data, .data, .data, .sentinel, .sentinel], laidTests := true, laidLooks := .later }
def ConsoleLineUptoCardSaid : Prop := Claim7.holds Tryd.pinned (.plain (OpenSpec.upto consoleLineSpec)) consoleLineUptoCard

/-- THE SECOND FORM's CARD OF 'cordwoodlaw60.ConsoleShow'. -/
def consoleShowUptoCard : Claim7 := { stood := { row := consoleShowUptoRow, standIns := [], harness := (true, "8540ae786cd3e4f23538c44d3cd3e5fe329b01b04b2e9e757177091dfda544f1"), looks := true }, kinds := [], alts := [], laidByText := true, laidKinds := [.data, .data, .data, .sentinel, .sentinel], laidTests := true, laidLooks := .later }
def ConsoleShowUptoCardSaid : Prop := Claim7.holds Tryd.pinned (.plain (OpenSpec.upto consoleShowSpec)) consoleShowUptoCard

/-- THE SECOND FORM's CARD OF 'cordwoodlaw60.ConsoleRoundTrip'. -/
def consoleRoundTripUptoCard : Claim7 := { stood := { row := consoleRoundTripUptoRow, standIns := [], harness := (true, "8540ae786cd3e4f23538c44d3cd3e5fe329b01b04b2e9e757177091dfda544f1"), looks := true }, kinds := [], alts := [], laidByText := true, laidKinds := [.data, .data, .data, .sentinel, .sentinel], laidTests := true, laidLooks := .later }
def ConsoleRoundTripUptoCardSaid : Prop := Claim7.holds Tryd.pinned (.plain (OpenSpec.upto consoleRoundTripSpec)) consoleRoundTripUptoCard
end Rows
end Go.Proofs.YtglekdhdogjnoaaDoor
