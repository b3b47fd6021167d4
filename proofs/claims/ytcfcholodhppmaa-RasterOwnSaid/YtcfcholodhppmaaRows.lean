/-
  No cell of these rows narrows 'for every input' (looked for: loops, veiled, ifaces, maps, wideKeys, modest, calm, conditions, laid).
  DERIVED. THE GIVEN ROWS OF THIS SEAT. 7 by the template 'for every input the law returns true; each argument reads behind the call as it read before'; 0 by the template 'total and deterministic' (their statements: YtcfcholodhppmaaTotals.lean).
  GIVEN WITH THE SEED: the statements are not yours to turn. If you find one false, say at which input.
  Laid BY PROGRAM, IN A SANDBOX (cutbox-rows.mjs): the forced cells as the released guide's own fill.sh prints them over the translation 7ab501e2cb8fa075… (all of the seat's roots in one cut). By AI agents, Wed Nov 11 2026. No macro, syntax, notation, axiom, sorry.
-/
import Derived.Test.YtcfcholodhppmaaChecked
import GoSem.Claim
import GoSem.ClaimJoined
import GoSem.ClaimMapViews
import Derived.JoinedTies
import Derived.KernelRfl
namespace Go.Proofs.Ytcfcholodhppmaa
/- THE CELL 'sum', in the pinned program and in every row, IS THE sha256 OF THE DUMP (.gsa) THAT YtcfcholodhppmaaProg.lean LOADS. Nothing in Lean hashes anything: it is a label: what it is worth is what the hold of that sum in a sandbox is worth. -/
noncomputable def Try.pinned : Pinned := { name := "ytcfcholodhppmaa", sum := "7ab501e2cb8fa075bf635d29b828c1e03a9a9ed19e079b8a81bc4e834b9ffef2", checked := Try.checked }
namespace Rows
def none {H : Type} : Left H := { results := [], args := [] }

/-- 'darkroomlaw09.RasterFills': WHATEVER THE INPUT: true; the input reads as it did. -/
def rasterFillsSpec : ChangeSpec := { name := "rasterFills", fn := fun _ => fun
  | [d1, d2, d3] => { results := [.lit (.bool true)], args := [d1, d2, d3] }
  | _ => none }
def rasterFillsRow : OpenClaim := { program := "ytcfcholodhppmaa", sum := "7ab501e2cb8fa075bf635d29b828c1e03a9a9ed19e079b8a81bc4e834b9ffef2", func := "darkroom/darkroomlaw09.RasterFills", spec := "rasterFills", unfollowed := true, recurses := true, plainKeys := false, apart := false }
def RasterFillsSaid : Prop := rasterFillsRow.holds Try.pinned (OpenSpec.ofChange rasterFillsSpec)

/-- ITS FALSE NEIGHBOUR: 'it returns false'. Refute it at one input. -/
def rasterFillsWrong : ChangeSpec := { name := "rasterFills", fn := fun _ => fun
  | [d1, d2, d3] => { results := [.lit (.bool false)], args := [d1, d2, d3] }
  | _ => none }
def RasterFillsWrongFalsely : Prop := rasterFillsRow.holds Try.pinned (OpenSpec.ofChange rasterFillsWrong)

/-- 'darkroomlaw09.RasterDistinct': WHATEVER THE INPUT: true; the input reads as it did. -/
def rasterDistinctSpec : ChangeSpec := { name := "rasterDistinct", fn := fun _ => fun
  | [d] => { results := [.lit (.bool true)], args := [d] }
  | _ => none }
def rasterDistinctRow : OpenClaim := { program := "ytcfcholodhppmaa", sum := "7ab501e2cb8fa075bf635d29b828c1e03a9a9ed19e079b8a81bc4e834b9ffef2", func := "darkroom/darkroomlaw09.RasterDistinct", spec := "rasterDistinct", unfollowed := true, recurses := true, plainKeys := false, apart := false }
def RasterDistinctSaid : Prop := rasterDistinctRow.holds Try.pinned (OpenSpec.ofChange rasterDistinctSpec)

/-- ITS FALSE NEIGHBOUR: 'it returns false'. Refute it at one input. -/
def rasterDistinctWrong : ChangeSpec := { name := "rasterDistinct", fn := fun _ => fun
  | [d] => { results := [.lit (.bool false)], args := [d] }
  | _ => none }
def RasterDistinctWrongFalsely : Prop := rasterDistinctRow.holds Try.pinned (OpenSpec.ofChange rasterDistinctWrong)

/-- 'darkroomlaw09.RasterLooks': WHATEVER THE INPUT: true; the input reads as it did. -/
def rasterLooksSpec : ChangeSpec := { name := "rasterLooks", fn := fun _ => fun
  | [d1, d2, d3] => { results := [.lit (.bool true)], args := [d1, d2, d3] }
  | _ => none }
def rasterLooksRow : OpenClaim := { program := "ytcfcholodhppmaa", sum := "7ab501e2cb8fa075bf635d29b828c1e03a9a9ed19e079b8a81bc4e834b9ffef2", func := "darkroom/darkroomlaw09.RasterLooks", spec := "rasterLooks", unfollowed := true, recurses := true, plainKeys := false, apart := false }
def RasterLooksSaid : Prop := rasterLooksRow.holds Try.pinned (OpenSpec.ofChange rasterLooksSpec)

/-- ITS FALSE NEIGHBOUR: 'it returns false'. Refute it at one input. -/
def rasterLooksWrong : ChangeSpec := { name := "rasterLooks", fn := fun _ => fun
  | [d1, d2, d3] => { results := [.lit (.bool false)], args := [d1, d2, d3] }
  | _ => none }
def RasterLooksWrongFalsely : Prop := rasterLooksRow.holds Try.pinned (OpenSpec.ofChange rasterLooksWrong)

/-- 'darkroomlaw09.RasterParts': WHATEVER THE INPUT: true; the input reads as it did. -/
def rasterPartsSpec : ChangeSpec := { name := "rasterParts", fn := fun _ => fun
  | [d1, d2, d3] => { results := [.lit (.bool true)], args := [d1, d2, d3] }
  | _ => none }
def rasterPartsRow : OpenClaim := { program := "ytcfcholodhppmaa", sum := "7ab501e2cb8fa075bf635d29b828c1e03a9a9ed19e079b8a81bc4e834b9ffef2", func := "darkroom/darkroomlaw09.RasterParts", spec := "rasterParts", unfollowed := true, recurses := true, plainKeys := false, apart := false }
def RasterPartsSaid : Prop := rasterPartsRow.holds Try.pinned (OpenSpec.ofChange rasterPartsSpec)

/-- ITS FALSE NEIGHBOUR: 'it returns false'. Refute it at one input. -/
def rasterPartsWrong : ChangeSpec := { name := "rasterParts", fn := fun _ => fun
  | [d1, d2, d3] => { results := [.lit (.bool false)], args := [d1, d2, d3] }
  | _ => none }
def RasterPartsWrongFalsely : Prop := rasterPartsRow.holds Try.pinned (OpenSpec.ofChange rasterPartsWrong)

/-- 'darkroomlaw09.RasterBack': WHATEVER THE INPUT: true; the input reads as it did. -/
def rasterBackSpec : ChangeSpec := { name := "rasterBack", fn := fun _ => fun
  | [d1, d2] => { results := [.lit (.bool true)], args := [d1, d2] }
  | _ => none }
def rasterBackRow : OpenClaim := { program := "ytcfcholodhppmaa", sum := "7ab501e2cb8fa075bf635d29b828c1e03a9a9ed19e079b8a81bc4e834b9ffef2", func := "darkroom/darkroomlaw09.RasterBack", spec := "rasterBack", unfollowed := true, recurses := true, plainKeys := false, apart := false }
def RasterBackSaid : Prop := rasterBackRow.holds Try.pinned (OpenSpec.ofChange rasterBackSpec)

/-- ITS FALSE NEIGHBOUR: 'it returns false'. Refute it at one input. -/
def rasterBackWrong : ChangeSpec := { name := "rasterBack", fn := fun _ => fun
  | [d1, d2] => { results := [.lit (.bool false)], args := [d1, d2] }
  | _ => none }
def RasterBackWrongFalsely : Prop := rasterBackRow.holds Try.pinned (OpenSpec.ofChange rasterBackWrong)

/-- 'darkroomlaw09.RasterGrids': WHATEVER THE INPUT: true; the input reads as it did. -/
def rasterGridsSpec : ChangeSpec := { name := "rasterGrids", fn := fun _ => fun
  | [d] => { results := [.lit (.bool true)], args := [d] }
  | _ => none }
def rasterGridsRow : OpenClaim := { program := "ytcfcholodhppmaa", sum := "7ab501e2cb8fa075bf635d29b828c1e03a9a9ed19e079b8a81bc4e834b9ffef2", func := "darkroom/darkroomlaw09.RasterGrids", spec := "rasterGrids", unfollowed := true, recurses := true, plainKeys := false, apart := false }
def RasterGridsSaid : Prop := rasterGridsRow.holds Try.pinned (OpenSpec.ofChange rasterGridsSpec)

/-- ITS FALSE NEIGHBOUR: 'it returns false'. Refute it at one input. -/
def rasterGridsWrong : ChangeSpec := { name := "rasterGrids", fn := fun _ => fun
  | [d] => { results := [.lit (.bool false)], args := [d] }
  | _ => none }
def RasterGridsWrongFalsely : Prop := rasterGridsRow.holds Try.pinned (OpenSpec.ofChange rasterGridsWrong)

/-- 'darkroomlaw09.RasterOwn': WHATEVER THE INPUT: true; the input reads as it did. -/
def rasterOwnSpec : ChangeSpec := { name := "rasterOwn", fn := fun _ => fun
  | [d1, d2, d3] => { results := [.lit (.bool true)], args := [d1, d2, d3] }
  | _ => none }
def rasterOwnRow : OpenClaim := { program := "ytcfcholodhppmaa", sum := "7ab501e2cb8fa075bf635d29b828c1e03a9a9ed19e079b8a81bc4e834b9ffef2", func := "darkroom/darkroomlaw09.RasterOwn", spec := "rasterOwn", unfollowed := true, recurses := true, plainKeys := false, apart := false }
def RasterOwnSaid : Prop := rasterOwnRow.holds Try.pinned (OpenSpec.ofChange rasterOwnSpec)

/-- ITS FALSE NEIGHBOUR: 'it returns false'. Refute it at one input. -/
def rasterOwnWrong : ChangeSpec := { name := "rasterOwn", fn := fun _ => fun
  | [d1, d2, d3] => { results := [.lit (.bool false)], args := [d1, d2, d3] }
  | _ => none }
def RasterOwnWrongFalsely : Prop := rasterOwnRow.holds Try.pinned (OpenSpec.ofChange rasterOwnWrong)

/- THE SECOND FORM. 'bulk': how many values and letters a reading holds, each counted each time it is reached (what is shared counts as often as it is met; a slice's spare places count too). A statement '..UptoSaid' is the law's where the arguments, and the package variables that the reading takes, are together of bulk at most 1048576: NARROWER than '..Said'. Prove '..Said' where nothing that the law and all that it calls make is longer than what came in: it says more and counts as full. Else prove '..UptoSaid'. A law counts once. -/
mutual
def uptoBulk {H : Type} : DataW H → Nat
  | .lit (.string bytes) => bytes.length + 1
  | .lit _ => 1
  | .nil => 1
  | .ptr d => uptoBulk d + 1
  | .slice elems spare => uptoBulkAll elems + uptoBulkAll spare + 1
  | .agg parts => uptoBulkAll parts + 1
  | .iface _ d => uptoBulk d + 1
  | .map entries => uptoBulkEntries entries + 1
  | .held _ => 1
def uptoBulkAll {H : Type} : List (DataW H) → Nat
  | [] => 0
  | d :: r => uptoBulk d + uptoBulkAll r
def uptoBulkEntries {H : Type} : List (Lit × DataW H) → Nat
  | [] => 0
  | x :: r => uptoBulkEntry x + uptoBulkEntries r
def uptoBulkEntry {H : Type} : Lit × DataW H → Nat
  | (.string bytes, d) => bytes.length + uptoBulk d + 1
  | (_, d) => uptoBulk d + 1
 end
def uptoSmall : (H : Type) → List (DataW H) → Bool := fun _ ds => decide (uptoBulkAll ds ≤ 1048576)
def OpenSpec.upto (s : _root_.Go.ChangeSpec) : _root_.Go.OpenSpec := { _root_.Go.OpenSpec.ofChange s with cond := some uptoSmall }

/-- 'darkroomlaw09.RasterFills', WHERE WHAT IT READS IS OF BULK AT MOST 1048576: true; the input reads as it did. -/
def rasterFillsUptoRow : OpenClaim := { program := "ytcfcholodhppmaa", sum := "7ab501e2cb8fa075bf635d29b828c1e03a9a9ed19e079b8a81bc4e834b9ffef2", func := "darkroom/darkroomlaw09.RasterFills", spec := "rasterFills", unfollowed := true, recurses := true, plainKeys := false, apart := false, narrowed := true }
def RasterFillsUptoSaid : Prop := rasterFillsUptoRow.holds Try.pinned (OpenSpec.upto rasterFillsSpec)

/-- 'darkroomlaw09.RasterDistinct', WHERE WHAT IT READS IS OF BULK AT MOST 1048576: true; the input reads as it did. -/
def rasterDistinctUptoRow : OpenClaim := { program := "ytcfcholodhppmaa", sum := "7ab501e2cb8fa075bf635d29b828c1e03a9a9ed19e079b8a81bc4e834b9ffef2", func := "darkroom/darkroomlaw09.RasterDistinct", spec := "rasterDistinct", unfollowed := true, recurses := true, plainKeys := false, apart := false, narrowed := true }
def RasterDistinctUptoSaid : Prop := rasterDistinctUptoRow.holds Try.pinned (OpenSpec.upto rasterDistinctSpec)

/-- 'darkroomlaw09.RasterLooks', WHERE WHAT IT READS IS OF BULK AT MOST 1048576: true; the input reads as it did. -/
def rasterLooksUptoRow : OpenClaim := { program := "ytcfcholodhppmaa", sum := "7ab501e2cb8fa075bf635d29b828c1e03a9a9ed19e079b8a81bc4e834b9ffef2", func := "darkroom/darkroomlaw09.RasterLooks", spec := "rasterLooks", unfollowed := true, recurses := true, plainKeys := false, apart := false, narrowed := true }
def RasterLooksUptoSaid : Prop := rasterLooksUptoRow.holds Try.pinned (OpenSpec.upto rasterLooksSpec)

/-- 'darkroomlaw09.RasterParts', WHERE WHAT IT READS IS OF BULK AT MOST 1048576: true; the input reads as it did. -/
def rasterPartsUptoRow : OpenClaim := { program := "ytcfcholodhppmaa", sum := "7ab501e2cb8fa075bf635d29b828c1e03a9a9ed19e079b8a81bc4e834b9ffef2", func := "darkroom/darkroomlaw09.RasterParts", spec := "rasterParts", unfollowed := true, recurses := true, plainKeys := false, apart := false, narrowed := true }
def RasterPartsUptoSaid : Prop := rasterPartsUptoRow.holds Try.pinned (OpenSpec.upto rasterPartsSpec)

/-- 'darkroomlaw09.RasterBack', WHERE WHAT IT READS IS OF BULK AT MOST 1048576: true; the input reads as it did. -/
def rasterBackUptoRow : OpenClaim := { program := "ytcfcholodhppmaa", sum := "7ab501e2cb8fa075bf635d29b828c1e03a9a9ed19e079b8a81bc4e834b9ffef2", func := "darkroom/darkroomlaw09.RasterBack", spec := "rasterBack", unfollowed := true, recurses := true, plainKeys := false, apart := false, narrowed := true }
def RasterBackUptoSaid : Prop := rasterBackUptoRow.holds Try.pinned (OpenSpec.upto rasterBackSpec)

/-- 'darkroomlaw09.RasterGrids', WHERE WHAT IT READS IS OF BULK AT MOST 1048576: true; the input reads as it did. -/
def rasterGridsUptoRow : OpenClaim := { program := "ytcfcholodhppmaa", sum := "7ab501e2cb8fa075bf635d29b828c1e03a9a9ed19e079b8a81bc4e834b9ffef2", func := "darkroom/darkroomlaw09.RasterGrids", spec := "rasterGrids", unfollowed := true, recurses := true, plainKeys := false, apart := false, narrowed := true }
def RasterGridsUptoSaid : Prop := rasterGridsUptoRow.holds Try.pinned (OpenSpec.upto rasterGridsSpec)

/-- 'darkroomlaw09.RasterOwn', WHERE WHAT IT READS IS OF BULK AT MOST 1048576: true; the input reads as it did. -/
def rasterOwnUptoRow : OpenClaim := { program := "ytcfcholodhppmaa", sum := "7ab501e2cb8fa075bf635d29b828c1e03a9a9ed19e079b8a81bc4e834b9ffef2", func := "darkroom/darkroomlaw09.RasterOwn", spec := "rasterOwn", unfollowed := true, recurses := true, plainKeys := false, apart := false, narrowed := true }
def RasterOwnUptoSaid : Prop := rasterOwnUptoRow.holds Try.pinned (OpenSpec.upto rasterOwnSpec)

end Rows
end Go.Proofs.Ytcfcholodhppmaa
