/-
  No cell of these rows narrows 'for every input' (looked for: loops, veiled, ifaces, maps, wideKeys, modest, calm, conditions, laid).
  DERIVED. THE GIVEN ROWS OF THIS SEAT. 3 by the template 'for every input the law returns true; each argument reads behind the call as it read before'; 0 by the template 'total and deterministic' (their statements: YtiiaihiliimcoaaGreatTotals.lean).
  GIVEN WITH THE SEED: the statements are not yours to turn. If you find one false, say at which input.
  Laid BY PROGRAM, IN A SANDBOX (cutbox-rows.mjs): the forced cells as the released guide's own fill.sh prints them over the translation b189c3c144cee3b1… (all of the seat's roots in one cut). By AI agents, Wed Nov 11 2026. No macro, syntax, notation, axiom, sorry.
-/
import Derived.Test.YtiiaihiliimcoaaGreatChecked
import GoSem.Claim
import GoSem.ClaimJoined
import GoSem.ClaimMapViews
import Derived.JoinedTies
import Derived.KernelRfl
namespace Go.Proofs.YtiiaihiliimcoaaGreat
/- THE CELL 'sum', in the pinned program and in every row, IS THE sha256 OF THE DUMP (.gsa) THAT YtiiaihiliimcoaaGreatProg.lean LOADS. Nothing in Lean hashes anything: it is a label: what it is worth is what the hold of that sum in a sandbox is worth. -/
noncomputable def Tryz.pinned : Pinned := { name := "ytiiaihiliimcoaagreat", sum := "b189c3c144cee3b1e2f317754eca4a8fa0d974088e31dea326701323ad3ac743", checked := Tryz.checked }
namespace Rows
def none {H : Type} : Left H := { results := [], args := [] }

/-- 'darkroomlaw15.GifReads': WHATEVER THE INPUT: true; the input reads as it did. -/
def gifReadsSpec : ChangeSpec := { name := "gifReads", fn := fun _ => fun
  | [d1, d2] => { results := [.lit (.bool true)], args := [d1, d2] }
  | _ => none }
def gifReadsRow : OpenClaim := { program := "ytiiaihiliimcoaagreat", sum := "b189c3c144cee3b1e2f317754eca4a8fa0d974088e31dea326701323ad3ac743", func := "darkroom/darkroomlaw15.GifReads", spec := "gifReads", unfollowed := true, recurses := true, plainKeys := false, apart := false }
def GifReadsSaid : Prop := gifReadsRow.holds Tryz.pinned (OpenSpec.ofChange gifReadsSpec)

/-- ITS FALSE NEIGHBOUR: 'it returns false'. Refute it at one input. -/
def gifReadsWrong : ChangeSpec := { name := "gifReads", fn := fun _ => fun
  | [d1, d2] => { results := [.lit (.bool false)], args := [d1, d2] }
  | _ => none }
def GifReadsWrongFalsely : Prop := gifReadsRow.holds Tryz.pinned (OpenSpec.ofChange gifReadsWrong)

/-- 'darkroomlaw15.GifBehind': WHATEVER THE INPUT: true; the input reads as it did. -/
def gifBehindSpec : ChangeSpec := { name := "gifBehind", fn := fun _ => fun
  | [d1, d2, d3] => { results := [.lit (.bool true)], args := [d1, d2, d3] }
  | _ => none }
def gifBehindRow : OpenClaim := { program := "ytiiaihiliimcoaagreat", sum := "b189c3c144cee3b1e2f317754eca4a8fa0d974088e31dea326701323ad3ac743", func := "darkroom/darkroomlaw15.GifBehind", spec := "gifBehind", unfollowed := true, recurses := true, plainKeys := false, apart := false }
def GifBehindSaid : Prop := gifBehindRow.holds Tryz.pinned (OpenSpec.ofChange gifBehindSpec)

/-- ITS FALSE NEIGHBOUR: 'it returns false'. Refute it at one input. -/
def gifBehindWrong : ChangeSpec := { name := "gifBehind", fn := fun _ => fun
  | [d1, d2, d3] => { results := [.lit (.bool false)], args := [d1, d2, d3] }
  | _ => none }
def GifBehindWrongFalsely : Prop := gifBehindRow.holds Tryz.pinned (OpenSpec.ofChange gifBehindWrong)

/-- 'darkroomlaw15.GifOwn': WHATEVER THE INPUT: true; the input reads as it did. -/
def gifOwnSpec : ChangeSpec := { name := "gifOwn", fn := fun _ => fun
  | [d1, d2] => { results := [.lit (.bool true)], args := [d1, d2] }
  | _ => none }
def gifOwnRow : OpenClaim := { program := "ytiiaihiliimcoaagreat", sum := "b189c3c144cee3b1e2f317754eca4a8fa0d974088e31dea326701323ad3ac743", func := "darkroom/darkroomlaw15.GifOwn", spec := "gifOwn", unfollowed := true, recurses := true, plainKeys := false, apart := false }
def GifOwnSaid : Prop := gifOwnRow.holds Tryz.pinned (OpenSpec.ofChange gifOwnSpec)

/-- ITS FALSE NEIGHBOUR: 'it returns false'. Refute it at one input. -/
def gifOwnWrong : ChangeSpec := { name := "gifOwn", fn := fun _ => fun
  | [d1, d2] => { results := [.lit (.bool false)], args := [d1, d2] }
  | _ => none }
def GifOwnWrongFalsely : Prop := gifOwnRow.holds Tryz.pinned (OpenSpec.ofChange gifOwnWrong)

/- THE SECOND FORM. 'bulk': how many values and letters a reading holds, each counted each time it is reached (what is shared counts as often as it is met; a slice's spare places count too). A statement '..UptoSaid' is the law's where the arguments, and the package variables that the reading takes, are together of bulk at most 1048576: NARROWER than '..Said'. Prove '..Said' where nothing that the law and all that it calls make is longer than what came in: it says more and counts as full. Else prove '..UptoSaid'. A law counts once. -/
mutual
def uptoBulk {H : Type} : DataW H → Nat
  | .lit (.string bytes) => bytes.length + 1
  | .lit _ => 1
  | .nil => 1
  | .ptr d => uptoBulk d + 1
  | .slice elems spare => uptoBulkAll elems + uptoBulkAll spare + 1
  | .agg parts => uptoBulkAll parts + 1
  | .iface _ d => uptoBulk d + 1
  | .map entries => uptoBulkEntries entries + 1
  | .held _ => 1
def uptoBulkAll {H : Type} : List (DataW H) → Nat
  | [] => 0
  | d :: r => uptoBulk d + uptoBulkAll r
def uptoBulkEntries {H : Type} : List (Lit × DataW H) → Nat
  | [] => 0
  | x :: r => uptoBulkEntry x + uptoBulkEntries r
def uptoBulkEntry {H : Type} : Lit × DataW H → Nat
  | (.string bytes, d) => bytes.length + uptoBulk d + 1
  | (_, d) => uptoBulk d + 1
 end
def uptoSmall : (H : Type) → List (DataW H) → Bool := fun _ ds => decide (uptoBulkAll ds ≤ 1048576)
def OpenSpec.upto (s : _root_.Go.ChangeSpec) : _root_.Go.OpenSpec := { _root_.Go.OpenSpec.ofChange s with cond := some uptoSmall }

/-- 'darkroomlaw15.GifReads', WHERE WHAT IT READS IS OF BULK AT MOST 1048576: true; the input reads as it did. -/
def gifReadsUptoRow : OpenClaim := { program := "ytiiaihiliimcoaagreat", sum := "b189c3c144cee3b1e2f317754eca4a8fa0d974088e31dea326701323ad3ac743", func := "darkroom/darkroomlaw15.GifReads", spec := "gifReads", unfollowed := true, recurses := true, plainKeys := false, apart := false, narrowed := true }
def GifReadsUptoSaid : Prop := gifReadsUptoRow.holds Tryz.pinned (OpenSpec.upto gifReadsSpec)

/-- 'darkroomlaw15.GifBehind', WHERE WHAT IT READS IS OF BULK AT MOST 1048576: true; the input reads as it did. -/
def gifBehindUptoRow : OpenClaim := { program := "ytiiaihiliimcoaagreat", sum := "b189c3c144cee3b1e2f317754eca4a8fa0d974088e31dea326701323ad3ac743", func := "darkroom/darkroomlaw15.GifBehind", spec := "gifBehind", unfollowed := true, recurses := true, plainKeys := false, apart := false, narrowed := true }
def GifBehindUptoSaid : Prop := gifBehindUptoRow.holds Tryz.pinned (OpenSpec.upto gifBehindSpec)

/-- 'darkroomlaw15.GifOwn', WHERE WHAT IT READS IS OF BULK AT MOST 1048576: true; the input reads as it did. -/
def gifOwnUptoRow : OpenClaim := { program := "ytiiaihiliimcoaagreat", sum := "b189c3c144cee3b1e2f317754eca4a8fa0d974088e31dea326701323ad3ac743", func := "darkroom/darkroomlaw15.GifOwn", spec := "gifOwn", unfollowed := true, recurses := true, plainKeys := false, apart := false, narrowed := true }
def GifOwnUptoSaid : Prop := gifOwnUptoRow.holds Tryz.pinned (OpenSpec.upto gifOwnSpec)

end Rows
end Go.Proofs.YtiiaihiliimcoaaGreat
