/-
  No cell of these rows narrows 'for every input' (looked for: loops, veiled, ifaces, maps, wideKeys, modest, calm, conditions, laid).
  DERIVED. THE GIVEN ROWS OF THIS SEAT. 6 by the template 'for every input the law returns true; each argument reads behind the call as it read before'; 0 by the template 'total and deterministic' (their statements: YthfnohbpdoklgaaTotals.lean).
  GIVEN WITH THE SEED: the statements are not yours to turn. If you find one false, say at which input.
  Laid BY PROGRAM, IN A SANDBOX (cutbox-rows.mjs): the forced cells as the released guide's own fill.sh prints them over the translation 2a33c6d873a738aa… (all of the seat's roots in one cut). By AI agents, Wed Nov 11 2026. No macro, syntax, notation, axiom, sorry.
-/
import Derived.Test.YthfnohbpdoklgaaChecked
import GoSem.Claim
import GoSem.ClaimJoined
import GoSem.ClaimMapViews
import Derived.JoinedTies
import Derived.KernelRfl
namespace Go.Proofs.Ythfnohbpdoklgaa
/- THE CELL 'sum', in the pinned program and in every row, IS THE sha256 OF THE DUMP (.gsa) THAT YthfnohbpdoklgaaProg.lean LOADS. Nothing in Lean hashes anything: it is a label: what it is worth is what the hold of that sum in a sandbox is worth. -/
noncomputable def Try.pinned : Pinned := { name := "ythfnohbpdoklgaa", sum := "2a33c6d873a738aa0e951bc4a97e1bae53e71091005d1bf28f5f1f743c2f3eef", checked := Try.checked }
namespace Rows
def none {H : Type} : Left H := { results := [], args := [] }

/-- 'darkroomlaw04.InflateReads': WHATEVER THE INPUT: true; the input reads as it did. -/
def inflateReadsSpec : ChangeSpec := { name := "inflateReads", fn := fun _ => fun
  | [d1, d2] => { results := [.lit (.bool true)], args := [d1, d2] }
  | _ => none }
def inflateReadsRow : OpenClaim := { program := "ythfnohbpdoklgaa", sum := "2a33c6d873a738aa0e951bc4a97e1bae53e71091005d1bf28f5f1f743c2f3eef", func := "darkroom/darkroomlaw04.InflateReads", spec := "inflateReads", unfollowed := true, recurses := true, apart := false }
def InflateReadsSaid : Prop := inflateReadsRow.holds Try.pinned (OpenSpec.ofChange inflateReadsSpec)

/-- ITS FALSE NEIGHBOUR: 'it returns false'. Refute it at one input. -/
def inflateReadsWrong : ChangeSpec := { name := "inflateReads", fn := fun _ => fun
  | [d1, d2] => { results := [.lit (.bool false)], args := [d1, d2] }
  | _ => none }
def InflateReadsWrongFalsely : Prop := inflateReadsRow.holds Try.pinned (OpenSpec.ofChange inflateReadsWrong)

/-- 'darkroomlaw04.InflateZlib': WHATEVER THE INPUT: true; the input reads as it did. -/
def inflateZlibSpec : ChangeSpec := { name := "inflateZlib", fn := fun _ => fun
  | [d1, d2] => { results := [.lit (.bool true)], args := [d1, d2] }
  | _ => none }
def inflateZlibRow : OpenClaim := { program := "ythfnohbpdoklgaa", sum := "2a33c6d873a738aa0e951bc4a97e1bae53e71091005d1bf28f5f1f743c2f3eef", func := "darkroom/darkroomlaw04.InflateZlib", spec := "inflateZlib", unfollowed := true, recurses := true, apart := false }
def InflateZlibSaid : Prop := inflateZlibRow.holds Try.pinned (OpenSpec.ofChange inflateZlibSpec)

/-- ITS FALSE NEIGHBOUR: 'it returns false'. Refute it at one input. -/
def inflateZlibWrong : ChangeSpec := { name := "inflateZlib", fn := fun _ => fun
  | [d1, d2] => { results := [.lit (.bool false)], args := [d1, d2] }
  | _ => none }
def InflateZlibWrongFalsely : Prop := inflateZlibRow.holds Try.pinned (OpenSpec.ofChange inflateZlibWrong)

/-- 'darkroomlaw04.InflateStored': WHATEVER THE INPUT: true; the input reads as it did. -/
def inflateStoredSpec : ChangeSpec := { name := "inflateStored", fn := fun _ => fun
  | [d1, d2] => { results := [.lit (.bool true)], args := [d1, d2] }
  | _ => none }
def inflateStoredRow : OpenClaim := { program := "ythfnohbpdoklgaa", sum := "2a33c6d873a738aa0e951bc4a97e1bae53e71091005d1bf28f5f1f743c2f3eef", func := "darkroom/darkroomlaw04.InflateStored", spec := "inflateStored", unfollowed := true, recurses := true, apart := false }
def InflateStoredSaid : Prop := inflateStoredRow.holds Try.pinned (OpenSpec.ofChange inflateStoredSpec)

/-- ITS FALSE NEIGHBOUR: 'it returns false'. Refute it at one input. -/
def inflateStoredWrong : ChangeSpec := { name := "inflateStored", fn := fun _ => fun
  | [d1, d2] => { results := [.lit (.bool false)], args := [d1, d2] }
  | _ => none }
def InflateStoredWrongFalsely : Prop := inflateStoredRow.holds Try.pinned (OpenSpec.ofChange inflateStoredWrong)

/-- 'darkroomlaw04.InflateCut': WHATEVER THE INPUT: true; the input reads as it did. -/
def inflateCutSpec : ChangeSpec := { name := "inflateCut", fn := fun _ => fun
  | [d1, d2, d3] => { results := [.lit (.bool true)], args := [d1, d2, d3] }
  | _ => none }
def inflateCutRow : OpenClaim := { program := "ythfnohbpdoklgaa", sum := "2a33c6d873a738aa0e951bc4a97e1bae53e71091005d1bf28f5f1f743c2f3eef", func := "darkroom/darkroomlaw04.InflateCut", spec := "inflateCut", unfollowed := true, recurses := true, apart := false }
def InflateCutSaid : Prop := inflateCutRow.holds Try.pinned (OpenSpec.ofChange inflateCutSpec)

/-- ITS FALSE NEIGHBOUR: 'it returns false'. Refute it at one input. -/
def inflateCutWrong : ChangeSpec := { name := "inflateCut", fn := fun _ => fun
  | [d1, d2, d3] => { results := [.lit (.bool false)], args := [d1, d2, d3] }
  | _ => none }
def InflateCutWrongFalsely : Prop := inflateCutRow.holds Try.pinned (OpenSpec.ofChange inflateCutWrong)

/-- 'darkroomlaw04.InflateWraps': WHATEVER THE INPUT: true; the input reads as it did. -/
def inflateWrapsSpec : ChangeSpec := { name := "inflateWraps", fn := fun _ => fun
  | [d1, d2] => { results := [.lit (.bool true)], args := [d1, d2] }
  | _ => none }
def inflateWrapsRow : OpenClaim := { program := "ythfnohbpdoklgaa", sum := "2a33c6d873a738aa0e951bc4a97e1bae53e71091005d1bf28f5f1f743c2f3eef", func := "darkroom/darkroomlaw04.InflateWraps", spec := "inflateWraps", unfollowed := true, recurses := true, apart := false }
def InflateWrapsSaid : Prop := inflateWrapsRow.holds Try.pinned (OpenSpec.ofChange inflateWrapsSpec)

/-- ITS FALSE NEIGHBOUR: 'it returns false'. Refute it at one input. -/
def inflateWrapsWrong : ChangeSpec := { name := "inflateWraps", fn := fun _ => fun
  | [d1, d2] => { results := [.lit (.bool false)], args := [d1, d2] }
  | _ => none }
def InflateWrapsWrongFalsely : Prop := inflateWrapsRow.holds Try.pinned (OpenSpec.ofChange inflateWrapsWrong)

/-- 'darkroomlaw04.InflateOwn': WHATEVER THE INPUT: true; the input reads as it did. -/
def inflateOwnSpec : ChangeSpec := { name := "inflateOwn", fn := fun _ => fun
  | [d1, d2] => { results := [.lit (.bool true)], args := [d1, d2] }
  | _ => none }
def inflateOwnRow : OpenClaim := { program := "ythfnohbpdoklgaa", sum := "2a33c6d873a738aa0e951bc4a97e1bae53e71091005d1bf28f5f1f743c2f3eef", func := "darkroom/darkroomlaw04.InflateOwn", spec := "inflateOwn", unfollowed := true, recurses := true, apart := false }
def InflateOwnSaid : Prop := inflateOwnRow.holds Try.pinned (OpenSpec.ofChange inflateOwnSpec)

/-- ITS FALSE NEIGHBOUR: 'it returns false'. Refute it at one input. -/
def inflateOwnWrong : ChangeSpec := { name := "inflateOwn", fn := fun _ => fun
  | [d1, d2] => { results := [.lit (.bool false)], args := [d1, d2] }
  | _ => none }
def InflateOwnWrongFalsely : Prop := inflateOwnRow.holds Try.pinned (OpenSpec.ofChange inflateOwnWrong)

/- THE SECOND FORM. 'bulk': how many values and letters a reading holds, each counted each time it is reached (what is shared counts as often as it is met; a slice's spare places count too). A statement '..UptoSaid' is the law's where the arguments, and the package variables that the reading takes, are together of bulk at most 1048576: NARROWER than '..Said'. Prove '..Said' where nothing that the law and all that it calls make is longer than what came in: it says more and counts as full. Else prove '..UptoSaid'. A law counts once. -/
mutual
def uptoBulk {H : Type} : DataW H → Nat
  | .lit (.string bytes) => bytes.length + 1
  | .lit _ => 1
  | .nil => 1
  | .ptr d => uptoBulk d + 1
  | .slice elems spare => uptoBulkAll elems + uptoBulkAll spare + 1
  | .agg parts => uptoBulkAll parts + 1
  | .iface _ d => uptoBulk d + 1
  | .map entries => uptoBulkEntries entries + 1
  | .held _ => 1
def uptoBulkAll {H : Type} : List (DataW H) → Nat
  | [] => 0
  | d :: r => uptoBulk d + uptoBulkAll r
def uptoBulkEntries {H : Type} : List (Lit × DataW H) → Nat
  | [] => 0
  | x :: r => uptoBulkEntry x + uptoBulkEntries r
def uptoBulkEntry {H : Type} : Lit × DataW H → Nat
  | (.string bytes, d) => bytes.length + uptoBulk d + 1
  | (_, d) => uptoBulk d + 1
 end
def uptoSmall : (H : Type) → List (DataW H) → Bool := fun _ ds => decide (uptoBulkAll ds ≤ 1048576)
def OpenSpec.upto (s : _root_.Go.ChangeSpec) : _root_.Go.OpenSpec := { _root_.Go.OpenSpec.ofChange s with cond := some uptoSmall }

/-- 'darkroomlaw04.InflateReads', WHERE WHAT IT READS IS OF BULK AT MOST 1048576: true; the input reads as it did. -/
def inflateReadsUptoRow : OpenClaim := { program := "ythfnohbpdoklgaa", sum := "2a33c6d873a738aa0e951bc4a97e1bae53e71091005d1bf28f5f1f743c2f3eef", func := "darkroom/darkroomlaw04.InflateReads", spec := "inflateReads", unfollowed := true, recurses := true, apart := false, narrowed := true }
def InflateReadsUptoSaid : Prop := inflateReadsUptoRow.holds Try.pinned (OpenSpec.upto inflateReadsSpec)

/-- 'darkroomlaw04.InflateZlib', WHERE WHAT IT READS IS OF BULK AT MOST 1048576: true; the input reads as it did. -/
def inflateZlibUptoRow : OpenClaim := { program := "ythfnohbpdoklgaa", sum := "2a33c6d873a738aa0e951bc4a97e1bae53e71091005d1bf28f5f1f743c2f3eef", func := "darkroom/darkroomlaw04.InflateZlib", spec := "inflateZlib", unfollowed := true, recurses := true, apart := false, narrowed := true }
def InflateZlibUptoSaid : Prop := inflateZlibUptoRow.holds Try.pinned (OpenSpec.upto inflateZlibSpec)

/-- 'darkroomlaw04.InflateStored', WHERE WHAT IT READS IS OF BULK AT MOST 1048576: true; the input reads as it did. -/
def inflateStoredUptoRow : OpenClaim := { program := "ythfnohbpdoklgaa", sum := "2a33c6d873a738aa0e951bc4a97e1bae53e71091005d1bf28f5f1f743c2f3eef", func := "darkroom/darkroomlaw04.InflateStored", spec := "inflateStored", unfollowed := true, recurses := true, apart := false, narrowed := true }
def InflateStoredUptoSaid : Prop := inflateStoredUptoRow.holds Try.pinned (OpenSpec.upto inflateStoredSpec)

/-- 'darkroomlaw04.InflateCut', WHERE WHAT IT READS IS OF BULK AT MOST 1048576: true; the input reads as it did. -/
def inflateCutUptoRow : OpenClaim := { program := "ythfnohbpdoklgaa", sum := "2a33c6d873a738aa0e951bc4a97e1bae53e71091005d1bf28f5f1f743c2f3eef", func := "darkroom/darkroomlaw04.InflateCut", spec := "inflateCut", unfollowed := true, recurses := true, apart := false, narrowed := true }
def InflateCutUptoSaid : Prop := inflateCutUptoRow.holds Try.pinned (OpenSpec.upto inflateCutSpec)

/-- 'darkroomlaw04.InflateWraps', WHERE WHAT IT READS IS OF BULK AT MOST 1048576: true; the input reads as it did. -/
def inflateWrapsUptoRow : OpenClaim := { program := "ythfnohbpdoklgaa", sum := "2a33c6d873a738aa0e951bc4a97e1bae53e71091005d1bf28f5f1f743c2f3eef", func := "darkroom/darkroomlaw04.InflateWraps", spec := "inflateWraps", unfollowed := true, recurses := true, apart := false, narrowed := true }
def InflateWrapsUptoSaid : Prop := inflateWrapsUptoRow.holds Try.pinned (OpenSpec.upto inflateWrapsSpec)

/-- 'darkroomlaw04.InflateOwn', WHERE WHAT IT READS IS OF BULK AT MOST 1048576: true; the input reads as it did. -/
def inflateOwnUptoRow : OpenClaim := { program := "ythfnohbpdoklgaa", sum := "2a33c6d873a738aa0e951bc4a97e1bae53e71091005d1bf28f5f1f743c2f3eef", func := "darkroom/darkroomlaw04.InflateOwn", spec := "inflateOwn", unfollowed := true, recurses := true, apart := false, narrowed := true }
def InflateOwnUptoSaid : Prop := inflateOwnUptoRow.holds Try.pinned (OpenSpec.upto inflateOwnSpec)

end Rows
end Go.Proofs.Ythfnohbpdoklgaa
