/-
  No cell of these rows narrows 'for every input' (looked for: loops, veiled, ifaces, maps, wideKeys, modest, calm, conditions, laid).
  DERIVED. THE GIVEN ROWS OF THIS SEAT. 5 by the template 'for every input the law returns true; each argument reads behind the call as it read before'; 0 by the template 'total and deterministic' (their statements: YtijplekhbpigiaaTotals.lean).
  GIVEN WITH THE SEED: the statements are not yours to turn. If you find one false, say at which input.
  Laid BY PROGRAM, IN A SANDBOX (cutbox-rows.mjs): the forced cells as the released guide's own fill.sh prints them over the translation dbb38c191e2b5895… (all of the seat's roots in one cut). By AI agents, Wed Nov 11 2026. No macro, syntax, notation, axiom, sorry.
-/
import Derived.Test.YtijplekhbpigiaaChecked
import GoSem.Claim
import GoSem.ClaimJoined
import GoSem.ClaimMapViews
import Derived.JoinedTies
import Derived.KernelRfl
namespace Go.Proofs.Ytijplekhbpigiaa
/- THE CELL 'sum', in the pinned program and in every row, IS THE sha256 OF THE DUMP (.gsa) THAT YtijplekhbpigiaaProg.lean LOADS. Nothing in Lean hashes anything: it is a label: what it is worth is what the hold of that sum in a sandbox is worth. -/
noncomputable def Try.pinned : Pinned := { name := "ytijplekhbpigiaa", sum := "dbb38c191e2b5895cad166735949b469a8f9c9a2d16bef32450869293207083c", checked := Try.checked }
namespace Rows
def none {H : Type} : Left H := { results := [], args := [] }

/-- 'darkroomlaw14.QuantPalettes': WHATEVER THE INPUT: true; the input reads as it did. -/
def quantPalettesSpec : ChangeSpec := { name := "quantPalettes", fn := fun _ => fun
  | [d1, d2] => { results := [.lit (.bool true)], args := [d1, d2] }
  | _ => none }
def quantPalettesRow : OpenClaim := { program := "ytijplekhbpigiaa", sum := "dbb38c191e2b5895cad166735949b469a8f9c9a2d16bef32450869293207083c", func := "darkroom/darkroomlaw14.QuantPalettes", spec := "quantPalettes", unfollowed := true, recurses := true, plainKeys := false, apart := false }
def QuantPalettesSaid : Prop := quantPalettesRow.holds Try.pinned (OpenSpec.ofChange quantPalettesSpec)

/-- ITS FALSE NEIGHBOUR: 'it returns false'. Refute it at one input. -/
def quantPalettesWrong : ChangeSpec := { name := "quantPalettes", fn := fun _ => fun
  | [d1, d2] => { results := [.lit (.bool false)], args := [d1, d2] }
  | _ => none }
def QuantPalettesWrongFalsely : Prop := quantPalettesRow.holds Try.pinned (OpenSpec.ofChange quantPalettesWrong)

/-- 'darkroomlaw14.QuantApplies': WHATEVER THE INPUT: true; the input reads as it did. -/
def quantAppliesSpec : ChangeSpec := { name := "quantApplies", fn := fun _ => fun
  | [d1, d2] => { results := [.lit (.bool true)], args := [d1, d2] }
  | _ => none }
def quantAppliesRow : OpenClaim := { program := "ytijplekhbpigiaa", sum := "dbb38c191e2b5895cad166735949b469a8f9c9a2d16bef32450869293207083c", func := "darkroom/darkroomlaw14.QuantApplies", spec := "quantApplies", unfollowed := true, recurses := true, plainKeys := false, apart := false }
def QuantAppliesSaid : Prop := quantAppliesRow.holds Try.pinned (OpenSpec.ofChange quantAppliesSpec)

/-- ITS FALSE NEIGHBOUR: 'it returns false'. Refute it at one input. -/
def quantAppliesWrong : ChangeSpec := { name := "quantApplies", fn := fun _ => fun
  | [d1, d2] => { results := [.lit (.bool false)], args := [d1, d2] }
  | _ => none }
def QuantAppliesWrongFalsely : Prop := quantAppliesRow.holds Try.pinned (OpenSpec.ofChange quantAppliesWrong)

/-- 'darkroomlaw14.QuantOwn': WHATEVER THE INPUT: true; the input reads as it did. -/
def quantOwnSpec : ChangeSpec := { name := "quantOwn", fn := fun _ => fun
  | [d1, d2, d3] => { results := [.lit (.bool true)], args := [d1, d2, d3] }
  | _ => none }
def quantOwnRow : OpenClaim := { program := "ytijplekhbpigiaa", sum := "dbb38c191e2b5895cad166735949b469a8f9c9a2d16bef32450869293207083c", func := "darkroom/darkroomlaw14.QuantOwn", spec := "quantOwn", unfollowed := true, recurses := true, plainKeys := false, apart := false }
def QuantOwnSaid : Prop := quantOwnRow.holds Try.pinned (OpenSpec.ofChange quantOwnSpec)

/-- ITS FALSE NEIGHBOUR: 'it returns false'. Refute it at one input. -/
def quantOwnWrong : ChangeSpec := { name := "quantOwn", fn := fun _ => fun
  | [d1, d2, d3] => { results := [.lit (.bool false)], args := [d1, d2, d3] }
  | _ => none }
def QuantOwnWrongFalsely : Prop := quantOwnRow.holds Try.pinned (OpenSpec.ofChange quantOwnWrong)

/-- 'darkroomlaw14.QuantBack': WHATEVER THE INPUT: true; the input reads as it did. -/
def quantBackSpec : ChangeSpec := { name := "quantBack", fn := fun _ => fun
  | [d] => { results := [.lit (.bool true)], args := [d] }
  | _ => none }
def quantBackRow : OpenClaim := { program := "ytijplekhbpigiaa", sum := "dbb38c191e2b5895cad166735949b469a8f9c9a2d16bef32450869293207083c", func := "darkroom/darkroomlaw14.QuantBack", spec := "quantBack", unfollowed := true, recurses := true, plainKeys := false, apart := false }
def QuantBackSaid : Prop := quantBackRow.holds Try.pinned (OpenSpec.ofChange quantBackSpec)

/-- ITS FALSE NEIGHBOUR: 'it returns false'. Refute it at one input. -/
def quantBackWrong : ChangeSpec := { name := "quantBack", fn := fun _ => fun
  | [d] => { results := [.lit (.bool false)], args := [d] }
  | _ => none }
def QuantBackWrongFalsely : Prop := quantBackRow.holds Try.pinned (OpenSpec.ofChange quantBackWrong)

/-- 'darkroomlaw14.QuantWhole': WHATEVER THE INPUT: true; the input reads as it did. -/
def quantWholeSpec : ChangeSpec := { name := "quantWhole", fn := fun _ => fun
  | [d] => { results := [.lit (.bool true)], args := [d] }
  | _ => none }
def quantWholeRow : OpenClaim := { program := "ytijplekhbpigiaa", sum := "dbb38c191e2b5895cad166735949b469a8f9c9a2d16bef32450869293207083c", func := "darkroom/darkroomlaw14.QuantWhole", spec := "quantWhole", unfollowed := true, recurses := true, plainKeys := false, apart := false }
def QuantWholeSaid : Prop := quantWholeRow.holds Try.pinned (OpenSpec.ofChange quantWholeSpec)

/-- ITS FALSE NEIGHBOUR: 'it returns false'. Refute it at one input. -/
def quantWholeWrong : ChangeSpec := { name := "quantWhole", fn := fun _ => fun
  | [d] => { results := [.lit (.bool false)], args := [d] }
  | _ => none }
def QuantWholeWrongFalsely : Prop := quantWholeRow.holds Try.pinned (OpenSpec.ofChange quantWholeWrong)

/- THE SECOND FORM. 'bulk': how many values and letters a reading holds, each counted each time it is reached (what is shared counts as often as it is met; a slice's spare places count too). A statement '..UptoSaid' is the law's where the arguments, and the package variables that the reading takes, are together of bulk at most 1048576: NARROWER than '..Said'. Prove '..Said' where nothing that the law and all that it calls make is longer than what came in: it says more and counts as full. Else prove '..UptoSaid'. A law counts once. -/
mutual
def uptoBulk {H : Type} : DataW H → Nat
  | .lit (.string bytes) => bytes.length + 1
  | .lit _ => 1
  | .nil => 1
  | .ptr d => uptoBulk d + 1
  | .slice elems spare => uptoBulkAll elems + uptoBulkAll spare + 1
  | .agg parts => uptoBulkAll parts + 1
  | .iface _ d => uptoBulk d + 1
  | .map entries => uptoBulkEntries entries + 1
  | .held _ => 1
def uptoBulkAll {H : Type} : List (DataW H) → Nat
  | [] => 0
  | d :: r => uptoBulk d + uptoBulkAll r
def uptoBulkEntries {H : Type} : List (Lit × DataW H) → Nat
  | [] => 0
  | x :: r => uptoBulkEntry x + uptoBulkEntries r
def uptoBulkEntry {H : Type} : Lit × DataW H → Nat
  | (.string bytes, d) => bytes.length + uptoBulk d + 1
  | (_, d) => uptoBulk d + 1
 end
def uptoSmall : (H : Type) → List (DataW H) → Bool := fun _ ds => decide (uptoBulkAll ds ≤ 1048576)
def OpenSpec.upto (s : _root_.Go.ChangeSpec) : _root_.Go.OpenSpec := { _root_.Go.OpenSpec.ofChange s with cond := some uptoSmall }

/-- 'darkroomlaw14.QuantPalettes', WHERE WHAT IT READS IS OF BULK AT MOST 1048576: true; the input reads as it did. -/
def quantPalettesUptoRow : OpenClaim := { program := "ytijplekhbpigiaa", sum := "dbb38c191e2b5895cad166735949b469a8f9c9a2d16bef32450869293207083c", func := "darkroom/darkroomlaw14.QuantPalettes", spec := "quantPalettes", unfollowed := true, recurses := true, plainKeys := false, apart := false, narrowed := true }
def QuantPalettesUptoSaid : Prop := quantPalettesUptoRow.holds Try.pinned (OpenSpec.upto quantPalettesSpec)

/-- 'darkroomlaw14.QuantApplies', WHERE WHAT IT READS IS OF BULK AT MOST 1048576: true; the input reads as it did. -/
def quantAppliesUptoRow : OpenClaim := { program := "ytijplekhbpigiaa", sum := "dbb38c191e2b5895cad166735949b469a8f9c9a2d16bef32450869293207083c", func := "darkroom/darkroomlaw14.QuantApplies", spec := "quantApplies", unfollowed := true, recurses := true, plainKeys := false, apart := false, narrowed := true }
def QuantAppliesUptoSaid : Prop := quantAppliesUptoRow.holds Try.pinned (OpenSpec.upto quantAppliesSpec)

/-- 'darkroomlaw14.QuantOwn', WHERE WHAT IT READS IS OF BULK AT MOST 1048576: true; the input reads as it did. -/
def quantOwnUptoRow : OpenClaim := { program := "ytijplekhbpigiaa", sum := "dbb38c191e2b5895cad166735949b469a8f9c9a2d16bef32450869293207083c", func := "darkroom/darkroomlaw14.QuantOwn", spec := "quantOwn", unfollowed := true, recurses := true, plainKeys := false, apart := false, narrowed := true }
def QuantOwnUptoSaid : Prop := quantOwnUptoRow.holds Try.pinned (OpenSpec.upto quantOwnSpec)

/-- 'darkroomlaw14.QuantBack', WHERE WHAT IT READS IS OF BULK AT MOST 1048576: true; the input reads as it did. -/
def quantBackUptoRow : OpenClaim := { program := "ytijplekhbpigiaa", sum := "dbb38c191e2b5895cad166735949b469a8f9c9a2d16bef32450869293207083c", func := "darkroom/darkroomlaw14.QuantBack", spec := "quantBack", unfollowed := true, recurses := true, plainKeys := false, apart := false, narrowed := true }
def QuantBackUptoSaid : Prop := quantBackUptoRow.holds Try.pinned (OpenSpec.upto quantBackSpec)

/-- 'darkroomlaw14.QuantWhole', WHERE WHAT IT READS IS OF BULK AT MOST 1048576: true; the input reads as it did. -/
def quantWholeUptoRow : OpenClaim := { program := "ytijplekhbpigiaa", sum := "dbb38c191e2b5895cad166735949b469a8f9c9a2d16bef32450869293207083c", func := "darkroom/darkroomlaw14.QuantWhole", spec := "quantWhole", unfollowed := true, recurses := true, plainKeys := false, apart := false, narrowed := true }
def QuantWholeUptoSaid : Prop := quantWholeUptoRow.holds Try.pinned (OpenSpec.upto quantWholeSpec)

end Rows
end Go.Proofs.Ytijplekhbpigiaa
