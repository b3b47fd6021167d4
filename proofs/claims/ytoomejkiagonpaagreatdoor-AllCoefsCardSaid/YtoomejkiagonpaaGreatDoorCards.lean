/-
  DERIVED. GIVEN WITH THE SEED: THE CARDS: each row of YtoomejkiagonpaaGreatDoorRows.lean that lists a variable, with what it lists TIED to the program's text (the seventh form; the later family's looks); each row that meets fmt, with fmt's text TOLD by the authors' own Lean function (tested against real Go, not proved from fmt's source: count such statements apart). THE CARD IS WHAT COUNTS. Prove the row's statement (the work); the ties are given (YtoomejkiagonpaaGreatDoorTie.lean); close each card by the builder's one call (the guide's Derived/Test/ToyasCard.lean, 'card_holds'). Laid BY PROGRAM, IN A SANDBOX (cutbox-door.mjs). By AI agents, Wed Nov 11 2026. No macro, syntax, notation, axiom, sorry.
-/
import Derived.Test.YtoomejkiagonpaaGreatDoorRows
import GoSem.ClaimSeven
namespace Go.Proofs.YtoomejkiagonpaaGreatDoor
namespace Rows

/-- THE TIED CARD OF 'darkroomtop.AllCoefs'. -/
def allCoefsCard : Claim7 := { stood := { row := allCoefsRow, standIns := [], harness := (true, "6a9adfa2bbf9a49ace4ffffccf0501875afd9b48bc8b91e1bd2c24f6f0eea1f0"), looks := true }, kinds := [], alts := [], laidByText := true, laidKinds := [.data, .data, .data, .data, .sentinel, .sentinel, .sentinel, .pinned], laidTests := true, laidLooks := .later }
def AllCoefsCardSaid : Prop := Claim7.holds Tryz.pinned (.plain (OpenSpec.ofChange allCoefsSpec)) allCoefsCard

/-- THE SECOND FORM's CARD OF 'darkroomtop.AllCoefs'. -/
def allCoefsUptoCard : Claim7 := { stood := { row := allCoefsUptoRow, standIns := [], harness := (true, "6a9adfa2bbf9a49ace4ffffccf0501875afd9b48bc8b91e1bd2c24f6f0eea1f0"), looks := true }, kinds := [], alts := [], laidByText := true, laidKinds := [.data, .data, .data, .data, .sentinel, .sentinel, .sentinel, .pinned], laidTests := true, laidLooks := .later }
def AllCoefsUptoCardSaid : Prop := Claim7.holds Tryz.pinned (.plain (OpenSpec.upto allCoefsSpec)) allCoefsUptoCard
end Rows
end Go.Proofs.YtoomejkiagonpaaGreatDoor
