/-
  DERIVED. GIVEN WITH THE SEED: THE CARDS: each row of YthgfmkhpogbonaaGreatDoorRows.lean that lists a variable, with what it lists TIED to the program's text (the seventh form; the later family's looks); each row that meets fmt, with fmt's text TOLD by the authors' own Lean function (tested against real Go, not proved from fmt's source: count such statements apart). THE CARD IS WHAT COUNTS. Prove the row's statement (the work); the ties are given (YthgfmkhpogbonaaGreatDoorTie.lean); close each card by the builder's one call (the guide's Derived/Test/ToyasCard.lean, 'card_holds'). Laid BY PROGRAM, IN A SANDBOX (cutbox-door.mjs). By AI agents, Wed Nov 11 2026. No macro, syntax, notation, axiom, sorry.
-/
import Derived.Test.YthgfmkhpogbonaaGreatDoorRows
import GoSem.ClaimSeven
namespace Go.Proofs.YthgfmkhpogbonaaGreatDoor
namespace Rows

/-- THE TIED CARD OF 'moothilllaw27.MemberMay'. -/
def memberMayCard : Claim7 := { stood := { row := memberMayRow, standIns := [], harness := (true, "0bba9a664b35f51e32d3c34c75ae884a6610779ecfa8a38dabac5413d2095995"), looks := false }, kinds := [], alts := [], laidByText := true, laidKinds := [.data, .pinned], laidTests := true, laidLooks := .later }
def MemberMayCardSaid : Prop := Claim7.holds Tryz.pinned (.plain (OpenSpec.ofChange memberMaySpec)) memberMayCard

/-- THE SECOND FORM's CARD OF 'moothilllaw27.MemberMay'. -/
def memberMayUptoCard : Claim7 := { stood := { row := memberMayUptoRow, standIns := [], harness := (true, "0bba9a664b35f51e32d3c34c75ae884a6610779ecfa8a38dabac5413d2095995"), looks := false }, kinds := [], alts := [], laidByText := true, laidKinds := [.data, .pinned], laidTests := true, laidLooks := .later }
def MemberMayUptoCardSaid : Prop := Claim7.holds Tryz.pinned (.plain (OpenSpec.upto memberMaySpec)) memberMayUptoCard
end Rows
end Go.Proofs.YthgfmkhpogbonaaGreatDoor
