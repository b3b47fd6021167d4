/- Raster: the document's and the program's laying over. -/
import Derived.Test.YtijplekhbpigiaaQR5
namespace Go.Proofs.Ytijplekhbpigiaa
open Go Go.Vc Go.RowKit
set_option maxRecDepth 100000
set_option linter.unusedVariables false
set_option linter.unusedSimpArgs false

theorem good_iff {W H : Int} {xs : List Int} : good W H xs = true ↔ gfits W H = true ∧ (xs.length : Int) = 4 * (W * H) := by simp [good]
end Go.Proofs.Ytijplekhbpigiaa
