/-
  No cell of these rows narrows 'for every input' (looked for: loops, veiled, ifaces, maps, wideKeys, modest, calm, conditions, laid).
  DERIVED. THE GIVEN ROWS OF THIS SEAT. 6 by the template 'for every input the law returns true; each argument reads behind the call as it read before'; 0 by the template 'total and deterministic' (their statements: YtombfebgojeliaaTotals.lean).
  GIVEN WITH THE SEED: the statements are not yours to turn. If you find one false, say at which input.
  Laid BY PROGRAM, IN A SANDBOX (cutbox-rows.mjs): the forced cells as the released guide's own fill.sh prints them over the translation 2c8f43e8b42bf438… (all of the seat's roots in one cut). By AI agents, Wed Nov 11 2026. No macro, syntax, notation, axiom, sorry.
-/
import Derived.Test.YtombfebgojeliaaChecked
import GoSem.Claim
import GoSem.ClaimJoined
import GoSem.ClaimMapViews
import Derived.JoinedTies
import Derived.KernelRfl
namespace Go.Proofs.Ytombfebgojeliaa
/- THE CELL 'sum', in the pinned program and in every row, IS THE sha256 OF THE DUMP (.gsa) THAT YtombfebgojeliaaProg.lean LOADS. Nothing in Lean hashes anything: it is a label: what it is worth is what the hold of that sum in a sandbox is worth. -/
noncomputable def Try.pinned : Pinned := { name := "ytombfebgojeliaa", sum := "2c8f43e8b42bf4383d487b02b5590fb27a3c67626361019c04f755b0ca0defc8", checked := Try.checked }
namespace Rows
def none {H : Type} : Left H := { results := [], args := [] }

/-- 'darkroomlaw23.BlendChecks': WHATEVER THE INPUT: true; the input reads as it did. -/
def blendChecksSpec : ChangeSpec := { name := "blendChecks", fn := fun _ => fun
  | [d1, d2] => { results := [.lit (.bool true)], args := [d1, d2] }
  | _ => none }
def blendChecksRow : OpenClaim := { program := "ytombfebgojeliaa", sum := "2c8f43e8b42bf4383d487b02b5590fb27a3c67626361019c04f755b0ca0defc8", func := "darkroom/darkroomlaw23.BlendChecks", spec := "blendChecks", unfollowed := true, recurses := true, apart := false }
def BlendChecksSaid : Prop := blendChecksRow.holds Try.pinned (OpenSpec.ofChange blendChecksSpec)

/-- ITS FALSE NEIGHBOUR: 'it returns false'. Refute it at one input. -/
def blendChecksWrong : ChangeSpec := { name := "blendChecks", fn := fun _ => fun
  | [d1, d2] => { results := [.lit (.bool false)], args := [d1, d2] }
  | _ => none }
def BlendChecksWrongFalsely : Prop := blendChecksRow.holds Try.pinned (OpenSpec.ofChange blendChecksWrong)

/-- 'darkroomlaw23.BlendApplies': WHATEVER THE INPUT: true; the input reads as it did. -/
def blendAppliesSpec : ChangeSpec := { name := "blendApplies", fn := fun _ => fun
  | [d1, d2, d3] => { results := [.lit (.bool true)], args := [d1, d2, d3] }
  | _ => none }
def blendAppliesRow : OpenClaim := { program := "ytombfebgojeliaa", sum := "2c8f43e8b42bf4383d487b02b5590fb27a3c67626361019c04f755b0ca0defc8", func := "darkroom/darkroomlaw23.BlendApplies", spec := "blendApplies", unfollowed := true, recurses := true, apart := false }
def BlendAppliesSaid : Prop := blendAppliesRow.holds Try.pinned (OpenSpec.ofChange blendAppliesSpec)

/-- ITS FALSE NEIGHBOUR: 'it returns false'. Refute it at one input. -/
def blendAppliesWrong : ChangeSpec := { name := "blendApplies", fn := fun _ => fun
  | [d1, d2, d3] => { results := [.lit (.bool false)], args := [d1, d2, d3] }
  | _ => none }
def BlendAppliesWrongFalsely : Prop := blendAppliesRow.holds Try.pinned (OpenSpec.ofChange blendAppliesWrong)

/-- 'darkroomlaw23.BlendTurns': WHATEVER THE INPUT: true; the input reads as it did. -/
def blendTurnsSpec : ChangeSpec := { name := "blendTurns", fn := fun _ => fun
  | [d1, d2] => { results := [.lit (.bool true)], args := [d1, d2] }
  | _ => none }
def blendTurnsRow : OpenClaim := { program := "ytombfebgojeliaa", sum := "2c8f43e8b42bf4383d487b02b5590fb27a3c67626361019c04f755b0ca0defc8", func := "darkroom/darkroomlaw23.BlendTurns", spec := "blendTurns", unfollowed := true, recurses := true, apart := false }
def BlendTurnsSaid : Prop := blendTurnsRow.holds Try.pinned (OpenSpec.ofChange blendTurnsSpec)

/-- ITS FALSE NEIGHBOUR: 'it returns false'. Refute it at one input. -/
def blendTurnsWrong : ChangeSpec := { name := "blendTurns", fn := fun _ => fun
  | [d1, d2] => { results := [.lit (.bool false)], args := [d1, d2] }
  | _ => none }
def BlendTurnsWrongFalsely : Prop := blendTurnsRow.holds Try.pinned (OpenSpec.ofChange blendTurnsWrong)

/-- 'darkroomlaw23.BlendCovers': WHATEVER THE INPUT: true; the input reads as it did. -/
def blendCoversSpec : ChangeSpec := { name := "blendCovers", fn := fun _ => fun
  | [d1, d2, d3] => { results := [.lit (.bool true)], args := [d1, d2, d3] }
  | _ => none }
def blendCoversRow : OpenClaim := { program := "ytombfebgojeliaa", sum := "2c8f43e8b42bf4383d487b02b5590fb27a3c67626361019c04f755b0ca0defc8", func := "darkroom/darkroomlaw23.BlendCovers", spec := "blendCovers", unfollowed := true, recurses := true, apart := false }
def BlendCoversSaid : Prop := blendCoversRow.holds Try.pinned (OpenSpec.ofChange blendCoversSpec)

/-- ITS FALSE NEIGHBOUR: 'it returns false'. Refute it at one input. -/
def blendCoversWrong : ChangeSpec := { name := "blendCovers", fn := fun _ => fun
  | [d1, d2, d3] => { results := [.lit (.bool false)], args := [d1, d2, d3] }
  | _ => none }
def BlendCoversWrongFalsely : Prop := blendCoversRow.holds Try.pinned (OpenSpec.ofChange blendCoversWrong)

/-- 'darkroomlaw23.BlendJoins': WHATEVER THE INPUT: true; the input reads as it did. -/
def blendJoinsSpec : ChangeSpec := { name := "blendJoins", fn := fun _ => fun
  | [d1, d2] => { results := [.lit (.bool true)], args := [d1, d2] }
  | _ => none }
def blendJoinsRow : OpenClaim := { program := "ytombfebgojeliaa", sum := "2c8f43e8b42bf4383d487b02b5590fb27a3c67626361019c04f755b0ca0defc8", func := "darkroom/darkroomlaw23.BlendJoins", spec := "blendJoins", unfollowed := true, recurses := true, apart := false }
def BlendJoinsSaid : Prop := blendJoinsRow.holds Try.pinned (OpenSpec.ofChange blendJoinsSpec)

/-- ITS FALSE NEIGHBOUR: 'it returns false'. Refute it at one input. -/
def blendJoinsWrong : ChangeSpec := { name := "blendJoins", fn := fun _ => fun
  | [d1, d2] => { results := [.lit (.bool false)], args := [d1, d2] }
  | _ => none }
def BlendJoinsWrongFalsely : Prop := blendJoinsRow.holds Try.pinned (OpenSpec.ofChange blendJoinsWrong)

/-- 'darkroomlaw23.BlendOwn': WHATEVER THE INPUT: true; the input reads as it did. -/
def blendOwnSpec : ChangeSpec := { name := "blendOwn", fn := fun _ => fun
  | [d1, d2, d3] => { results := [.lit (.bool true)], args := [d1, d2, d3] }
  | _ => none }
def blendOwnRow : OpenClaim := { program := "ytombfebgojeliaa", sum := "2c8f43e8b42bf4383d487b02b5590fb27a3c67626361019c04f755b0ca0defc8", func := "darkroom/darkroomlaw23.BlendOwn", spec := "blendOwn", unfollowed := true, recurses := true, apart := false }
def BlendOwnSaid : Prop := blendOwnRow.holds Try.pinned (OpenSpec.ofChange blendOwnSpec)

/-- ITS FALSE NEIGHBOUR: 'it returns false'. Refute it at one input. -/
def blendOwnWrong : ChangeSpec := { name := "blendOwn", fn := fun _ => fun
  | [d1, d2, d3] => { results := [.lit (.bool false)], args := [d1, d2, d3] }
  | _ => none }
def BlendOwnWrongFalsely : Prop := blendOwnRow.holds Try.pinned (OpenSpec.ofChange blendOwnWrong)

/- THE SECOND FORM. 'bulk': how many values and letters a reading holds, each counted each time it is reached (what is shared counts as often as it is met; a slice's spare places count too). A statement '..UptoSaid' is the law's where the arguments, and the package variables that the reading takes, are together of bulk at most 1048576: NARROWER than '..Said'. Prove '..Said' where nothing that the law and all that it calls make is longer than what came in: it says more and counts as full. Else prove '..UptoSaid'. A law counts once. -/
mutual
def uptoBulk {H : Type} : DataW H → Nat
  | .lit (.string bytes) => bytes.length + 1
  | .lit _ => 1
  | .nil => 1
  | .ptr d => uptoBulk d + 1
  | .slice elems spare => uptoBulkAll elems + uptoBulkAll spare + 1
  | .agg parts => uptoBulkAll parts + 1
  | .iface _ d => uptoBulk d + 1
  | .map entries => uptoBulkEntries entries + 1
  | .held _ => 1
def uptoBulkAll {H : Type} : List (DataW H) → Nat
  | [] => 0
  | d :: r => uptoBulk d + uptoBulkAll r
def uptoBulkEntries {H : Type} : List (Lit × DataW H) → Nat
  | [] => 0
  | x :: r => uptoBulkEntry x + uptoBulkEntries r
def uptoBulkEntry {H : Type} : Lit × DataW H → Nat
  | (.string bytes, d) => bytes.length + uptoBulk d + 1
  | (_, d) => uptoBulk d + 1
 end
def uptoSmall : (H : Type) → List (DataW H) → Bool := fun _ ds => decide (uptoBulkAll ds ≤ 1048576)
def OpenSpec.upto (s : _root_.Go.ChangeSpec) : _root_.Go.OpenSpec := { _root_.Go.OpenSpec.ofChange s with cond := some uptoSmall }

/-- 'darkroomlaw23.BlendChecks', WHERE WHAT IT READS IS OF BULK AT MOST 1048576: true; the input reads as it did. -/
def blendChecksUptoRow : OpenClaim := { program := "ytombfebgojeliaa", sum := "2c8f43e8b42bf4383d487b02b5590fb27a3c67626361019c04f755b0ca0defc8", func := "darkroom/darkroomlaw23.BlendChecks", spec := "blendChecks", unfollowed := true, recurses := true, apart := false, narrowed := true }
def BlendChecksUptoSaid : Prop := blendChecksUptoRow.holds Try.pinned (OpenSpec.upto blendChecksSpec)

/-- 'darkroomlaw23.BlendApplies', WHERE WHAT IT READS IS OF BULK AT MOST 1048576: true; the input reads as it did. -/
def blendAppliesUptoRow : OpenClaim := { program := "ytombfebgojeliaa", sum := "2c8f43e8b42bf4383d487b02b5590fb27a3c67626361019c04f755b0ca0defc8", func := "darkroom/darkroomlaw23.BlendApplies", spec := "blendApplies", unfollowed := true, recurses := true, apart := false, narrowed := true }
def BlendAppliesUptoSaid : Prop := blendAppliesUptoRow.holds Try.pinned (OpenSpec.upto blendAppliesSpec)

/-- 'darkroomlaw23.BlendTurns', WHERE WHAT IT READS IS OF BULK AT MOST 1048576: true; the input reads as it did. -/
def blendTurnsUptoRow : OpenClaim := { program := "ytombfebgojeliaa", sum := "2c8f43e8b42bf4383d487b02b5590fb27a3c67626361019c04f755b0ca0defc8", func := "darkroom/darkroomlaw23.BlendTurns", spec := "blendTurns", unfollowed := true, recurses := true, apart := false, narrowed := true }
def BlendTurnsUptoSaid : Prop := blendTurnsUptoRow.holds Try.pinned (OpenSpec.upto blendTurnsSpec)

/-- 'darkroomlaw23.BlendCovers', WHERE WHAT IT READS IS OF BULK AT MOST 1048576: true; the input reads as it did. -/
def blendCoversUptoRow : OpenClaim := { program := "ytombfebgojeliaa", sum := "2c8f43e8b42bf4383d487b02b5590fb27a3c67626361019c04f755b0ca0defc8", func := "darkroom/darkroomlaw23.BlendCovers", spec := "blendCovers", unfollowed := true, recurses := true, apart := false, narrowed := true }
def BlendCoversUptoSaid : Prop := blendCoversUptoRow.holds Try.pinned (OpenSpec.upto blendCoversSpec)

/-- 'darkroomlaw23.BlendJoins', WHERE WHAT IT READS IS OF BULK AT MOST 1048576: true; the input reads as it did. -/
def blendJoinsUptoRow : OpenClaim := { program := "ytombfebgojeliaa", sum := "2c8f43e8b42bf4383d487b02b5590fb27a3c67626361019c04f755b0ca0defc8", func := "darkroom/darkroomlaw23.BlendJoins", spec := "blendJoins", unfollowed := true, recurses := true, apart := false, narrowed := true }
def BlendJoinsUptoSaid : Prop := blendJoinsUptoRow.holds Try.pinned (OpenSpec.upto blendJoinsSpec)

/-- 'darkroomlaw23.BlendOwn', WHERE WHAT IT READS IS OF BULK AT MOST 1048576: true; the input reads as it did. -/
def blendOwnUptoRow : OpenClaim := { program := "ytombfebgojeliaa", sum := "2c8f43e8b42bf4383d487b02b5590fb27a3c67626361019c04f755b0ca0defc8", func := "darkroom/darkroomlaw23.BlendOwn", spec := "blendOwn", unfollowed := true, recurses := true, apart := false, narrowed := true }
def BlendOwnUptoSaid : Prop := blendOwnUptoRow.holds Try.pinned (OpenSpec.upto blendOwnSpec)

end Rows
end Go.Proofs.Ytombfebgojeliaa
