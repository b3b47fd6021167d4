/-
  DERIVED. GIVEN WITH THE SEED: THE CARDS: each row of YtjdljddfiddnoaaDoorRows.lean that lists a variable, with what it lists TIED to the program's text (the seventh form; the later family's looks); each row that meets fmt, with fmt's text TOLD by the authors' own Lean function (tested against real Go, not proved from fmt's source: count such statements apart). THE CARD IS WHAT COUNTS. Prove the row's statement (the work); the ties are given (YtjdljddfiddnoaaDoorTie.lean); close each card by the builder's one call (the guide's Derived/Test/ToyasCard.lean, 'card_holds'). Laid BY PROGRAM, IN A SANDBOX (cutbox-door.mjs). By AI agents, Wed Nov 11 2026. No macro, syntax, notation, axiom, sorry.
-/
import Derived.Test.YtjdljddfiddnoaaDoorRows
import GoSem.ClaimSeven
namespace Go.Proofs.YtjdljddfiddnoaaDoor
namespace Rows

/-- THE TIED CARD OF 'darkroomlaw11.BmpReads'. -/
def bmpReadsCard : Claim7 := { stood := { row := bmpReadsRow, standIns := [], harness := (true, "585b16756254f9e8882734bf167b9d538feb3b0848da4007900b56639789e60f"), looks := false }, kinds := [], alts := [], laidByText := true, laidKinds := [.data], laidTests := true, laidLooks := .later }
def BmpReadsCardSaid : Prop := Claim7.holds Tryd.pinned (.plain (OpenSpec.ofChange bmpReadsSpec)) bmpReadsCard

/-- THE TIED CARD OF 'darkroomlaw11.BmpWrites'. -/
def bmpWritesCard : Claim7 := { stood := { row := bmpWritesRow, standIns := [], harness := (true, "585b16756254f9e8882734bf167b9d538feb3b0848da4007900b56639789e60f"), looks := false }, kinds := [], alts := [], laidByText := true, laidKinds := [.data], laidTests := true, laidLooks := .later }
def BmpWritesCardSaid : Prop := Claim7.holds Tryd.pinned (.plain (OpenSpec.ofChange bmpWritesSpec)) bmpWritesCard

/-- THE TIED CARD OF 'darkroomlaw11.BmpBack'. -/
def bmpBackCard : Claim7 := { stood := { row := bmpBackRow, standIns := [], harness := (true, "585b16756254f9e8882734bf167b9d538feb3b0848da4007900b56639789e60f"), looks := false }, kinds := [], alts := [], laidByText := true, laidKinds := [.data], laidTests := true, laidLooks := .later }
def BmpBackCardSaid : Prop := Claim7.holds Tryd.pinned (.plain (OpenSpec.ofChange bmpBackSpec)) bmpBackCard

/-- THE TIED CARD OF 'darkroomlaw11.BmpTurns'. -/
def bmpTurnsCard : Claim7 := { stood := { row := bmpTurnsRow, standIns := [], harness := (true, "585b16756254f9e8882734bf167b9d538feb3b0848da4007900b56639789e60f"), looks := false }, kinds := [], alts := [], laidByText := true, laidKinds := [.data], laidTests := true, laidLooks := .later }
def BmpTurnsCardSaid : Prop := Claim7.holds Tryd.pinned (.plain (OpenSpec.ofChange bmpTurnsSpec)) bmpTurnsCard

/-- THE TIED CARD OF 'darkroomlaw11.BmpOwn'. -/
def bmpOwnCard : Claim7 := { stood := { row := bmpOwnRow, standIns := [], harness := (true, "585b16756254f9e8882734bf167b9d538feb3b0848da4007900b56639789e60f"), looks := false }, kinds := [], alts := [], laidByText := true, laidKinds := [.data], laidTests := true, laidLooks := .later }
def BmpOwnCardSaid : Prop := Claim7.holds Tryd.pinned (.plain (OpenSpec.ofChange bmpOwnSpec)) bmpOwnCard

/-- THE SECOND FORM's CARD OF 'darkroomlaw11.BmpReads'. -/
def bmpReadsUptoCard : Claim7 := { stood := { row := bmpReadsUptoRow, standIns := [], harness := (true, "585b16756254f9e8882734bf167b9d538feb3b0848da4007900b56639789e60f"), looks := false }, kinds := [], alts := [], laidByText := true, laidKinds := [.data], laidTests := true, laidLooks := .later }
def BmpReadsUptoCardSaid : Prop := Claim7.holds Tryd.pinned (.plain (OpenSpec.upto bmpReadsSpec)) bmpReadsUptoCard

/-- THE SECOND FORM's CARD OF 'darkroomlaw11.BmpWrites'. -/
def bmpWritesUptoCard : Claim7 := { stood := { row := bmpWritesUptoRow, standIns := [], harness := (true, "585b16756254f9e8882734bf167b9d538feb3b0848da4007900b56639789e60f"), looks := false }, kinds := [], alts := [], laidByText := true, laidKinds := [.data], laidTests := true, laidLooks := .later }
def BmpWritesUptoCardSaid : Prop := Claim7.holds Tryd.pinned (.plain (OpenSpec.upto bmpWritesSpec)) bmpWritesUptoCard

/-- THE SECOND FORM's CARD OF 'darkroomlaw11.BmpBack'. -/
def bmpBackUptoCard : Claim7 := { stood := { row := bmpBackUptoRow, standIns := [], harness := (true, "585b16756254f9e8882734bf167b9d538feb3b0848da4007900b56639789e60f"), looks := false }, kinds := [], alts := [], laidByText := true, laidKinds := [.data], laidTests := true, laidLooks := .later }
def BmpBackUptoCardSaid : Prop := Claim7.holds Tryd.pinned (.plain (OpenSpec.upto bmpBackSpec)) bmpBackUptoCard

/-- THE SECOND FORM's CARD OF 'darkroomlaw11.BmpTurns'. -/
def bmpTurnsUptoCard : Claim7 := { stood := { row := bmpTurnsUptoRow, standIns := [], harness := (true, "585b16756254f9e8882734bf167b9d538feb3b0848da4007900b56639789e60f"), looks := false }, kinds := [], alts := [], laidByText := true, laidKinds := [.data], laidTests := true, laidLooks := .later }
def BmpTurnsUptoCardSaid : Prop := Claim7.holds Tryd.pinned (.plain (OpenSpec.upto bmpTurnsSpec)) bmpTurnsUptoCard

/-- THE SECOND FORM's CARD OF 'darkroomlaw11.BmpOwn'. -/
def bmpOwnUptoCard : Claim7 := { stood := { row := bmpOwnUptoRow, standIns := [], harness := (true, "585b16756254f9e8882734bf167b9d538feb3b0848da4007900b56639789e60f"), looks := false }, kinds := [], alts := [], laidByText := true, laidKinds := [.data], laidTests := true, laidLooks := .later }
def BmpOwnUptoCardSaid : Prop := Claim7.holds Tryd.pinned (.plain (OpenSpec.upto bmpOwnSpec)) bmpOwnUptoCard
end Rows
end Go.Proofs.YtjdljddfiddnoaaDoor
