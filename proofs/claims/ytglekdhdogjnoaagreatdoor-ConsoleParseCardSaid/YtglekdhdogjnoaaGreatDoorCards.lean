/-
  DERIVED. GIVEN WITH THE SEED: THE CARDS: each row of YtglekdhdogjnoaaGreatDoorRows.lean that lists a variable, with what it lists TIED to the program's text (the seventh form; the later family's looks); each row that meets fmt, with fmt's text TOLD by the authors' own Lean function (tested against real Go, not proved from fmt's source: count such statements apart). THE CARD IS WHAT COUNTS. Prove the row's statement (the work); the ties are given (YtglekdhdogjnoaaGreatDoorTie.lean); close each card by the builder's one call (the guide's Derived/Test/ToyasCard.lean, 'card_holds'). Laid BY PROGRAM, IN A SANDBOX (cutbox-door.mjs). By AI agents, Wed Nov 11 2026. No macro, syntax, notation, axiom, sorry.
-/
import Derived.Test.YtglekdhdogjnoaaGreatDoorRows
import GoSem.ClaimSeven
namespace Go.Proofs.YtglekdhdogjnoaaGreatDoor
namespace Rows

/-- THE TIED CARD OF 'cordwoodlaw60.ConsoleParse'. -/
def consoleParseCard : Claim7 := { stood := { row := consoleParseRow, standIns := [], harness := (true, "5958c70ed92517b91dfb4197da1f671490b94317d142c042ad0918955d4eb59b"), looks := true }, kinds := [], alts := [], laidByText := true, laidKinds := [.data, .data, .data, .sentinel, .sentinel], laidTests := true, laidLooks := .later }
def ConsoleParseCardSaid : Prop := Claim7.holds Tryz.pinned (.plain (OpenSpec.ofChange consoleParseSpec)) consoleParseCard

/-- THE SECOND FORM's CARD OF 'cordwoodlaw60.ConsoleParse'. -/
def consoleParseUptoCard : Claim7 := { stood := { row := consoleParseUptoRow, standIns := [], harness := (true, "5958c70ed92517b91dfb4197da1f671490b94317d142c042ad0918955d4eb59b"), looks := true }, kinds := [], alts := [], laidByText := true, laidKinds := [.data, .data, .data, .sentinel, .sentinel], laidTests := true, laidLooks := .later }
def ConsoleParseUptoCardSaid : Prop := Claim7.holds Tryz.pinned (.plain (OpenSpec.upto consoleParseSpec)) consoleParseUptoCard
end Rows
end Go.Proofs.YtglekdhdogjnoaaGreatDoor
