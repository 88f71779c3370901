/-
  DERIVED. GIVEN WITH THE SEED: THE CARDS: each row of YtladmaggljgjjaaGreatDoorRows.lean that lists a variable, with what it lists TIED to the program's text (the seventh form; the later family's looks); each row that meets fmt, with fmt's text TOLD by the authors' own Lean function (tested against real Go, not proved from fmt's source: count such statements apart). THE CARD IS WHAT COUNTS. Prove the row's statement (the work); the ties are given (YtladmaggljgjjaaGreatDoorTie.lean); close each card by the builder's one call (the guide's Derived/Test/ToyasCard.lean, 'card_holds'). Laid BY PROGRAM, IN A SANDBOX (cutbox-door.mjs). By AI agents, Wed Nov 11 2026. No macro, syntax, notation, axiom, sorry.
-/
import Derived.Test.YtladmaggljgjjaaGreatDoorRows
import GoSem.ClaimSeven
namespace Go.Proofs.YtladmaggljgjjaaGreatDoor
namespace Rows

/-- THE TIED CARD OF 'moothilllaw29.MootBegins'. -/
def mootBeginsCard : Claim7 := { stood := { row := mootBeginsRow, standIns := [], harness := (true, "90ca310b9909c5acea3fc0ce85b6bd2686dcec757276f0938f5a1a6f6dc70558"), looks := false }, kinds := [], alts := [], laidByText := true, laidKinds := [.data, .pinned], laidTests := true, laidLooks := .later }
def MootBeginsCardSaid : Prop := Claim7.holds Tryz.pinned (.plain (OpenSpec.ofChange mootBeginsSpec)) mootBeginsCard

/-- THE SECOND FORM's CARD OF 'moothilllaw29.MootBegins'. -/
def mootBeginsUptoCard : Claim7 := { stood := { row := mootBeginsUptoRow, standIns := [], harness := (true, "90ca310b9909c5acea3fc0ce85b6bd2686dcec757276f0938f5a1a6f6dc70558"), looks := false }, kinds := [], alts := [], laidByText := true, laidKinds := [.data, .pinned], laidTests := true, laidLooks := .later }
def MootBeginsUptoCardSaid : Prop := Claim7.holds Tryz.pinned (.plain (OpenSpec.upto mootBeginsSpec)) mootBeginsUptoCard
end Rows
end Go.Proofs.YtladmaggljgjjaaGreatDoor
