/-
  DERIVED. GIVEN WITH THE SEED: THE CARDS: each row of YtdeobbpmdfjfiaaDoorRows.lean that lists a variable, with what it lists TIED to the program's text (the seventh form; the later family's looks); each row that meets fmt, with fmt's text TOLD by the authors' own Lean function (tested against real Go, not proved from fmt's source: count such statements apart). THE CARD IS WHAT COUNTS. Prove the row's statement (the work); the ties are given (YtdeobbpmdfjfiaaDoorTie.lean); close each card by the builder's one call (the guide's Derived/Test/ToyasCard.lean, 'card_holds'). Laid BY PROGRAM, IN A SANDBOX (cutbox-door.mjs). By AI agents, Wed Nov 11 2026. No macro, syntax, notation, axiom, sorry.
-/
import Derived.Test.YtdeobbpmdfjfiaaDoorRows
import GoSem.ClaimSeven
namespace Go.Proofs.YtdeobbpmdfjfiaaDoor
namespace Rows

/-- THE TIED CARD OF 'oakumlaw21.CommandBack'. -/
def commandBackCard : Claim7 := { stood := { row := commandBackRow, standIns := [], harness := (true, "23ad9e587d03a2ee89e80a754afb1035c8192db71161399ebea8cc76a93d494b"), looks := true }, kinds := [], alts := [], laidByText := true, laidKinds := [.data, .data, .data, .data, .sentinel, .sentinel, .pinned], laidTests := true, laidLooks := .later }
def CommandBackCardSaid : Prop := Claim7.holds Tryd.pinned (.plain (OpenSpec.ofChange commandBackSpec)) commandBackCard

/-- THE SECOND FORM's CARD OF 'oakumlaw21.CommandBack'. -/
def commandBackUptoCard : Claim7 := { stood := { row := commandBackUptoRow, standIns := [], harness := (true, "23ad9e587d03a2ee89e80a754afb1035c8192db71161399ebea8cc76a93d494b"), looks := true }, kinds := [], alts := [], laidByText := true, laidKinds := [.data, .data, .data, .data, .sentinel, .sentinel, .pinned], laidTests := true, laidLooks := .later }
def CommandBackUptoCardSaid : Prop := Claim7.holds Tryd.pinned (.plain (OpenSpec.upto commandBackSpec)) commandBackUptoCard
end Rows
end Go.Proofs.YtdeobbpmdfjfiaaDoor
