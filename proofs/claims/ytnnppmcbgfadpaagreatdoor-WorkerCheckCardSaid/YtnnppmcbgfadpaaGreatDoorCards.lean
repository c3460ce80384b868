/-
  DERIVED. GIVEN WITH THE SEED: THE CARDS: each row of YtnnppmcbgfadpaaGreatDoorRows.lean that lists a variable, with what it lists TIED to the program's text (the seventh form; the later family's looks); each row that meets fmt, with fmt's text TOLD by the authors' own Lean function (tested against real Go, not proved from fmt's source: count such statements apart). THE CARD IS WHAT COUNTS. Prove the row's statement (the work); the ties are given (YtnnppmcbgfadpaaGreatDoorTie.lean); close each card by the builder's one call (the guide's Derived/Test/ToyasCard.lean, 'card_holds'). Laid BY PROGRAM, IN A SANDBOX (cutbox-door.mjs). By AI agents, Wed Nov 11 2026. No macro, syntax, notation, axiom, sorry.
-/
import Derived.Test.YtnnppmcbgfadpaaGreatDoorRows
import GoSem.ClaimSeven
namespace Go.Proofs.YtnnppmcbgfadpaaGreatDoor
namespace Rows

/-- THE TIED CARD OF 'cordwoodlaw47.WorkerCheck'. -/
def workerCheckCard : Claim7 := { stood := { row := workerCheckRow, standIns := [], harness := (true, "6434d0580e3f1e0bb4d10cfa15489f2e4e1994f811b3781ae483373dc5060666"), looks := true }, kinds := [], alts := [], laidByText := true, laidKinds := [.data, .data, .data, .data, .sentinel, .sentinel, .pinned], laidTests := true, laidLooks := .later }
def WorkerCheckCardSaid : Prop := Claim7.holds Tryz.pinned (.plain (OpenSpec.ofChange workerCheckSpec)) workerCheckCard

/-- THE SECOND FORM's CARD OF 'cordwoodlaw47.WorkerCheck'. -/
def workerCheckUptoCard : Claim7 := { stood := { row := workerCheckUptoRow, standIns := [], harness := (true, "6434d0580e3f1e0bb4d10cfa15489f2e4e1994f811b3781ae483373dc5060666"), looks := true }, kinds := [], alts := [], laidByText := true, laidKinds := [.data, .data, .data, .data, .sentinel, .sentinel, .pinned], laidTests := true, laidLooks := .later }
def WorkerCheckUptoCardSaid : Prop := Claim7.holds Tryz.pinned (.plain (OpenSpec.upto workerCheckSpec)) workerCheckUptoCard
end Rows
end Go.Proofs.YtnnppmcbgfadpaaGreatDoor
