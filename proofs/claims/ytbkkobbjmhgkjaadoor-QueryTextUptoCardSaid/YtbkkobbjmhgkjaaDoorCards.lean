/-
  DERIVED. GIVEN WITH THE SEED: THE CARDS: each row of YtbkkobbjmhgkjaaDoorRows.lean that lists a variable, with what it lists TIED to the program's text (the seventh form; the later family's looks); each row that meets fmt, with fmt's text TOLD by the authors' own Lean function (tested against real Go, not proved from fmt's source: count such statements apart). THE CARD IS WHAT COUNTS. Prove the row's statement (the work); the ties are given (YtbkkobbjmhgkjaaDoorTie.lean); close each card by the builder's one call (the guide's Derived/Test/ToyasCard.lean, 'card_holds'). Laid BY PROGRAM, IN A SANDBOX (cutbox-door.mjs). By AI agents, Wed Nov 11 2026. No macro, syntax, notation, axiom, sorry.
-/
import Derived.Test.YtbkkobbjmhgkjaaDoorRows
import GoSem.ClaimSeven
namespace Go.Proofs.YtbkkobbjmhgkjaaDoor
namespace Rows

/-- THE TIED CARD OF 'marigraphlaw16.QueryText'. -/
def queryTextCard : Claim7 := { stood := { row := queryTextRow, standIns := [], harness := (true, "15c493941d3b80bbe4ee0005f545982f7e866bdaeea9c8453c71b663d9d28d88"), looks := false }, kinds := [], alts := [], laidByText := true, laidKinds := [.data, .data, .data], laidTests := true, laidLooks := .later }
def QueryTextCardSaid : Prop := Claim7.holds Tryd.pinned (.plain (OpenSpec.ofChange queryTextSpec)) queryTextCard

/-- THE SECOND FORM's CARD OF 'marigraphlaw16.QueryText'. -/
def queryTextUptoCard : Claim7 := { stood := { row := queryTextUptoRow, standIns := [], harness := (true, "15c493941d3b80bbe4ee0005f545982f7e866bdaeea9c8453c71b663d9d28d88"), looks := false }, kinds := [], alts := [], laidByText := true, laidKinds := [.data, .data, .data], laidTests := true, laidLooks := .later }
def QueryTextUptoCardSaid : Prop := Claim7.holds Tryd.pinned (.plain (OpenSpec.upto queryTextSpec)) queryTextUptoCard
end Rows
end Go.Proofs.YtbkkobbjmhgkjaaDoor
