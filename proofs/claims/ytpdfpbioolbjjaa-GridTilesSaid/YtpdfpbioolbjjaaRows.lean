/-
  No cell of these rows narrows 'for every input' (looked for: loops, veiled, ifaces, maps, wideKeys, modest, calm, conditions, laid).
  DERIVED. THE GIVEN ROWS OF THIS SEAT. 8 by the template 'for every input the law returns true; each argument reads behind the call as it read before'; 0 by the template 'total and deterministic' (their statements: YtpdfpbioolbjjaaTotals.lean).
  GIVEN WITH THE SEED: the statements are not yours to turn. If you find one false, say at which input.
  Laid BY PROGRAM, IN A SANDBOX (cutbox-rows.mjs): the forced cells as the released guide's own fill.sh prints them over the translation 7cf1c70358ed7790… (all of the seat's roots in one cut). By AI agents, Wed Nov 11 2026. No macro, syntax, notation, axiom, sorry.
-/
import Derived.Test.YtpdfpbioolbjjaaChecked
import GoSem.Claim
import GoSem.ClaimJoined
import GoSem.ClaimMapViews
import Derived.JoinedTies
import Derived.KernelRfl
namespace Go.Proofs.Ytpdfpbioolbjjaa
/- THE CELL 'sum', in the pinned program and in every row, IS THE sha256 OF THE DUMP (.gsa) THAT YtpdfpbioolbjjaaProg.lean LOADS. Nothing in Lean hashes anything: it is a label: what it is worth is what the hold of that sum in a sandbox is worth. -/
noncomputable def Try.pinned : Pinned := { name := "ytpdfpbioolbjjaa", sum := "7cf1c70358ed7790500bcc0962d7ff02e461b0dd96684f3f769ae2e28c16b5b5", checked := Try.checked }
namespace Rows
def none {H : Type} : Left H := { results := [], args := [] }

/-- 'darkroomlaw07.GridHolds': WHATEVER THE INPUT: true; the input reads as it did. -/
def gridHoldsSpec : ChangeSpec := { name := "gridHolds", fn := fun _ => fun
  | [d1, d2, d3] => { results := [.lit (.bool true)], args := [d1, d2, d3] }
  | _ => none }
def gridHoldsRow : OpenClaim := { program := "ytpdfpbioolbjjaa", sum := "7cf1c70358ed7790500bcc0962d7ff02e461b0dd96684f3f769ae2e28c16b5b5", func := "darkroom/darkroomlaw07.GridHolds", spec := "gridHolds", apart := false }
def GridHoldsSaid : Prop := gridHoldsRow.holds Try.pinned (OpenSpec.ofChange gridHoldsSpec)

/-- ITS FALSE NEIGHBOUR: 'it returns false'. Refute it at one input. -/
def gridHoldsWrong : ChangeSpec := { name := "gridHolds", fn := fun _ => fun
  | [d1, d2, d3] => { results := [.lit (.bool false)], args := [d1, d2, d3] }
  | _ => none }
def GridHoldsWrongFalsely : Prop := gridHoldsRow.holds Try.pinned (OpenSpec.ofChange gridHoldsWrong)

/-- 'darkroomlaw07.GridOwn': WHATEVER THE INPUT: true; the input reads as it did. -/
def gridOwnSpec : ChangeSpec := { name := "gridOwn", fn := fun _ => fun
  | [d] => { results := [.lit (.bool true)], args := [d] }
  | _ => none }
def gridOwnRow : OpenClaim := { program := "ytpdfpbioolbjjaa", sum := "7cf1c70358ed7790500bcc0962d7ff02e461b0dd96684f3f769ae2e28c16b5b5", func := "darkroom/darkroomlaw07.GridOwn", spec := "gridOwn", apart := false }
def GridOwnSaid : Prop := gridOwnRow.holds Try.pinned (OpenSpec.ofChange gridOwnSpec)

/-- ITS FALSE NEIGHBOUR: 'it returns false'. Refute it at one input. -/
def gridOwnWrong : ChangeSpec := { name := "gridOwn", fn := fun _ => fun
  | [d] => { results := [.lit (.bool false)], args := [d] }
  | _ => none }
def GridOwnWrongFalsely : Prop := gridOwnRow.holds Try.pinned (OpenSpec.ofChange gridOwnWrong)

/-- 'darkroomlaw07.GridRows': WHATEVER THE INPUT: true; the input reads as it did. -/
def gridRowsSpec : ChangeSpec := { name := "gridRows", fn := fun _ => fun
  | [d1, d2] => { results := [.lit (.bool true)], args := [d1, d2] }
  | _ => none }
def gridRowsRow : OpenClaim := { program := "ytpdfpbioolbjjaa", sum := "7cf1c70358ed7790500bcc0962d7ff02e461b0dd96684f3f769ae2e28c16b5b5", func := "darkroom/darkroomlaw07.GridRows", spec := "gridRows", unfollowed := true, recurses := true, apart := false }
def GridRowsSaid : Prop := gridRowsRow.holds Try.pinned (OpenSpec.ofChange gridRowsSpec)

/-- ITS FALSE NEIGHBOUR: 'it returns false'. Refute it at one input. -/
def gridRowsWrong : ChangeSpec := { name := "gridRows", fn := fun _ => fun
  | [d1, d2] => { results := [.lit (.bool false)], args := [d1, d2] }
  | _ => none }
def GridRowsWrongFalsely : Prop := gridRowsRow.holds Try.pinned (OpenSpec.ofChange gridRowsWrong)

/-- 'darkroomlaw07.GridTiles': WHATEVER THE INPUT: true; the input reads as it did. -/
def gridTilesSpec : ChangeSpec := { name := "gridTiles", fn := fun _ => fun
  | [d1, d2, d3] => { results := [.lit (.bool true)], args := [d1, d2, d3] }
  | _ => none }
def gridTilesRow : OpenClaim := { program := "ytpdfpbioolbjjaa", sum := "7cf1c70358ed7790500bcc0962d7ff02e461b0dd96684f3f769ae2e28c16b5b5", func := "darkroom/darkroomlaw07.GridTiles", spec := "gridTiles", unfollowed := true, recurses := true, apart := false }
def GridTilesSaid : Prop := gridTilesRow.holds Try.pinned (OpenSpec.ofChange gridTilesSpec)

/-- ITS FALSE NEIGHBOUR: 'it returns false'. Refute it at one input. -/
def gridTilesWrong : ChangeSpec := { name := "gridTiles", fn := fun _ => fun
  | [d1, d2, d3] => { results := [.lit (.bool false)], args := [d1, d2, d3] }
  | _ => none }
def GridTilesWrongFalsely : Prop := gridTilesRow.holds Try.pinned (OpenSpec.ofChange gridTilesWrong)

/-- 'darkroomlaw07.GridMaps': WHATEVER THE INPUT: true; the input reads as it did. -/
def gridMapsSpec : ChangeSpec := { name := "gridMaps", fn := fun _ => fun
  | [d] => { results := [.lit (.bool true)], args := [d] }
  | _ => none }
def gridMapsRow : OpenClaim := { program := "ytpdfpbioolbjjaa", sum := "7cf1c70358ed7790500bcc0962d7ff02e461b0dd96684f3f769ae2e28c16b5b5", func := "darkroom/darkroomlaw07.GridMaps", spec := "gridMaps", unfollowed := true, recurses := true, apart := false }
def GridMapsSaid : Prop := gridMapsRow.holds Try.pinned (OpenSpec.ofChange gridMapsSpec)

/-- ITS FALSE NEIGHBOUR: 'it returns false'. Refute it at one input. -/
def gridMapsWrong : ChangeSpec := { name := "gridMaps", fn := fun _ => fun
  | [d] => { results := [.lit (.bool false)], args := [d] }
  | _ => none }
def GridMapsWrongFalsely : Prop := gridMapsRow.holds Try.pinned (OpenSpec.ofChange gridMapsWrong)

/-- 'darkroomlaw07.GridParts': WHATEVER THE INPUT: true; the input reads as it did. -/
def gridPartsSpec : ChangeSpec := { name := "gridParts", fn := fun _ => fun
  | [d1, d2, d3] => { results := [.lit (.bool true)], args := [d1, d2, d3] }
  | _ => none }
def gridPartsRow : OpenClaim := { program := "ytpdfpbioolbjjaa", sum := "7cf1c70358ed7790500bcc0962d7ff02e461b0dd96684f3f769ae2e28c16b5b5", func := "darkroom/darkroomlaw07.GridParts", spec := "gridParts", apart := false }
def GridPartsSaid : Prop := gridPartsRow.holds Try.pinned (OpenSpec.ofChange gridPartsSpec)

/-- ITS FALSE NEIGHBOUR: 'it returns false'. Refute it at one input. -/
def gridPartsWrong : ChangeSpec := { name := "gridParts", fn := fun _ => fun
  | [d1, d2, d3] => { results := [.lit (.bool false)], args := [d1, d2, d3] }
  | _ => none }
def GridPartsWrongFalsely : Prop := gridPartsRow.holds Try.pinned (OpenSpec.ofChange gridPartsWrong)

/-- 'darkroomlaw07.GridAll': WHATEVER THE INPUT: true; the input reads as it did. -/
def gridAllSpec : ChangeSpec := { name := "gridAll", fn := fun _ => fun
  | [d1, d2] => { results := [.lit (.bool true)], args := [d1, d2] }
  | _ => none }
def gridAllRow : OpenClaim := { program := "ytpdfpbioolbjjaa", sum := "7cf1c70358ed7790500bcc0962d7ff02e461b0dd96684f3f769ae2e28c16b5b5", func := "darkroom/darkroomlaw07.GridAll", spec := "gridAll", unfollowed := true, recurses := true, apart := false }
def GridAllSaid : Prop := gridAllRow.holds Try.pinned (OpenSpec.ofChange gridAllSpec)

/-- ITS FALSE NEIGHBOUR: 'it returns false'. Refute it at one input. -/
def gridAllWrong : ChangeSpec := { name := "gridAll", fn := fun _ => fun
  | [d1, d2] => { results := [.lit (.bool false)], args := [d1, d2] }
  | _ => none }
def GridAllWrongFalsely : Prop := gridAllRow.holds Try.pinned (OpenSpec.ofChange gridAllWrong)

/-- 'darkroomlaw07.GridNil': WHATEVER THE INPUT: true; the input reads as it did. -/
def gridNilSpec : ChangeSpec := { name := "gridNil", fn := fun _ => fun
  | [d1, d2] => { results := [.lit (.bool true)], args := [d1, d2] }
  | _ => none }
def gridNilRow : OpenClaim := { program := "ytpdfpbioolbjjaa", sum := "7cf1c70358ed7790500bcc0962d7ff02e461b0dd96684f3f769ae2e28c16b5b5", func := "darkroom/darkroomlaw07.GridNil", spec := "gridNil", unfollowed := true, recurses := true, apart := false }
def GridNilSaid : Prop := gridNilRow.holds Try.pinned (OpenSpec.ofChange gridNilSpec)

/-- ITS FALSE NEIGHBOUR: 'it returns false'. Refute it at one input. -/
def gridNilWrong : ChangeSpec := { name := "gridNil", fn := fun _ => fun
  | [d1, d2] => { results := [.lit (.bool false)], args := [d1, d2] }
  | _ => none }
def GridNilWrongFalsely : Prop := gridNilRow.holds Try.pinned (OpenSpec.ofChange gridNilWrong)

/- THE SECOND FORM. 'bulk': how many values and letters a reading holds, each counted each time it is reached (what is shared counts as often as it is met; a slice's spare places count too). A statement '..UptoSaid' is the law's where the arguments, and the package variables that the reading takes, are together of bulk at most 1048576: NARROWER than '..Said'. Prove '..Said' where nothing that the law and all that it calls make is longer than what came in: it says more and counts as full. Else prove '..UptoSaid'. A law counts once. -/
mutual
def uptoBulk {H : Type} : DataW H → Nat
  | .lit (.string bytes) => bytes.length + 1
  | .lit _ => 1
  | .nil => 1
  | .ptr d => uptoBulk d + 1
  | .slice elems spare => uptoBulkAll elems + uptoBulkAll spare + 1
  | .agg parts => uptoBulkAll parts + 1
  | .iface _ d => uptoBulk d + 1
  | .map entries => uptoBulkEntries entries + 1
  | .held _ => 1
def uptoBulkAll {H : Type} : List (DataW H) → Nat
  | [] => 0
  | d :: r => uptoBulk d + uptoBulkAll r
def uptoBulkEntries {H : Type} : List (Lit × DataW H) → Nat
  | [] => 0
  | x :: r => uptoBulkEntry x + uptoBulkEntries r
def uptoBulkEntry {H : Type} : Lit × DataW H → Nat
  | (.string bytes, d) => bytes.length + uptoBulk d + 1
  | (_, d) => uptoBulk d + 1
 end
def uptoSmall : (H : Type) → List (DataW H) → Bool := fun _ ds => decide (uptoBulkAll ds ≤ 1048576)
def OpenSpec.upto (s : _root_.Go.ChangeSpec) : _root_.Go.OpenSpec := { _root_.Go.OpenSpec.ofChange s with cond := some uptoSmall }

/-- 'darkroomlaw07.GridHolds', WHERE WHAT IT READS IS OF BULK AT MOST 1048576: true; the input reads as it did. -/
def gridHoldsUptoRow : OpenClaim := { program := "ytpdfpbioolbjjaa", sum := "7cf1c70358ed7790500bcc0962d7ff02e461b0dd96684f3f769ae2e28c16b5b5", func := "darkroom/darkroomlaw07.GridHolds", spec := "gridHolds", apart := false, narrowed := true }
def GridHoldsUptoSaid : Prop := gridHoldsUptoRow.holds Try.pinned (OpenSpec.upto gridHoldsSpec)

/-- 'darkroomlaw07.GridOwn', WHERE WHAT IT READS IS OF BULK AT MOST 1048576: true; the input reads as it did. -/
def gridOwnUptoRow : OpenClaim := { program := "ytpdfpbioolbjjaa", sum := "7cf1c70358ed7790500bcc0962d7ff02e461b0dd96684f3f769ae2e28c16b5b5", func := "darkroom/darkroomlaw07.GridOwn", spec := "gridOwn", apart := false, narrowed := true }
def GridOwnUptoSaid : Prop := gridOwnUptoRow.holds Try.pinned (OpenSpec.upto gridOwnSpec)

/-- 'darkroomlaw07.GridRows', WHERE WHAT IT READS IS OF BULK AT MOST 1048576: true; the input reads as it did. -/
def gridRowsUptoRow : OpenClaim := { program := "ytpdfpbioolbjjaa", sum := "7cf1c70358ed7790500bcc0962d7ff02e461b0dd96684f3f769ae2e28c16b5b5", func := "darkroom/darkroomlaw07.GridRows", spec := "gridRows", unfollowed := true, recurses := true, apart := false, narrowed := true }
def GridRowsUptoSaid : Prop := gridRowsUptoRow.holds Try.pinned (OpenSpec.upto gridRowsSpec)

/-- 'darkroomlaw07.GridTiles', WHERE WHAT IT READS IS OF BULK AT MOST 1048576: true; the input reads as it did. -/
def gridTilesUptoRow : OpenClaim := { program := "ytpdfpbioolbjjaa", sum := "7cf1c70358ed7790500bcc0962d7ff02e461b0dd96684f3f769ae2e28c16b5b5", func := "darkroom/darkroomlaw07.GridTiles", spec := "gridTiles", unfollowed := true, recurses := true, apart := false, narrowed := true }
def GridTilesUptoSaid : Prop := gridTilesUptoRow.holds Try.pinned (OpenSpec.upto gridTilesSpec)

/-- 'darkroomlaw07.GridMaps', WHERE WHAT IT READS IS OF BULK AT MOST 1048576: true; the input reads as it did. -/
def gridMapsUptoRow : OpenClaim := { program := "ytpdfpbioolbjjaa", sum := "7cf1c70358ed7790500bcc0962d7ff02e461b0dd96684f3f769ae2e28c16b5b5", func := "darkroom/darkroomlaw07.GridMaps", spec := "gridMaps", unfollowed := true, recurses := true, apart := false, narrowed := true }
def GridMapsUptoSaid : Prop := gridMapsUptoRow.holds Try.pinned (OpenSpec.upto gridMapsSpec)

/-- 'darkroomlaw07.GridParts', WHERE WHAT IT READS IS OF BULK AT MOST 1048576: true; the input reads as it did. -/
def gridPartsUptoRow : OpenClaim := { program := "ytpdfpbioolbjjaa", sum := "7cf1c70358ed7790500bcc0962d7ff02e461b0dd96684f3f769ae2e28c16b5b5", func := "darkroom/darkroomlaw07.GridParts", spec := "gridParts", apart := false, narrowed := true }
def GridPartsUptoSaid : Prop := gridPartsUptoRow.holds Try.pinned (OpenSpec.upto gridPartsSpec)

/-- 'darkroomlaw07.GridAll', WHERE WHAT IT READS IS OF BULK AT MOST 1048576: true; the input reads as it did. -/
def gridAllUptoRow : OpenClaim := { program := "ytpdfpbioolbjjaa", sum := "7cf1c70358ed7790500bcc0962d7ff02e461b0dd96684f3f769ae2e28c16b5b5", func := "darkroom/darkroomlaw07.GridAll", spec := "gridAll", unfollowed := true, recurses := true, apart := false, narrowed := true }
def GridAllUptoSaid : Prop := gridAllUptoRow.holds Try.pinned (OpenSpec.upto gridAllSpec)

/-- 'darkroomlaw07.GridNil', WHERE WHAT IT READS IS OF BULK AT MOST 1048576: true; the input reads as it did. -/
def gridNilUptoRow : OpenClaim := { program := "ytpdfpbioolbjjaa", sum := "7cf1c70358ed7790500bcc0962d7ff02e461b0dd96684f3f769ae2e28c16b5b5", func := "darkroom/darkroomlaw07.GridNil", spec := "gridNil", unfollowed := true, recurses := true, apart := false, narrowed := true }
def GridNilUptoSaid : Prop := gridNilUptoRow.holds Try.pinned (OpenSpec.upto gridNilSpec)

end Rows
end Go.Proofs.Ytpdfpbioolbjjaa
