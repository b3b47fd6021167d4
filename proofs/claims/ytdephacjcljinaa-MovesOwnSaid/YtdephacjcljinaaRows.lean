/-
  No cell of these rows narrows 'for every input' (looked for: loops, veiled, ifaces, maps, wideKeys, modest, calm, conditions, laid).
  DERIVED. THE GIVEN ROWS OF THIS SEAT. 7 by the template 'for every input the law returns true; each argument reads behind the call as it read before'; 0 by the template 'total and deterministic' (their statements: YtdephacjcljinaaTotals.lean).
  GIVEN WITH THE SEED: the statements are not yours to turn. If you find one false, say at which input.
  Laid BY PROGRAM, IN A SANDBOX (cutbox-rows.mjs): the forced cells as the released guide's own fill.sh prints them over the translation 509af0400430c40a… (all of the seat's roots in one cut). By AI agents, Wed Nov 11 2026. No macro, syntax, notation, axiom, sorry.
-/
import Derived.Test.YtdephacjcljinaaChecked
import GoSem.Claim
import GoSem.ClaimJoined
import GoSem.ClaimMapViews
import Derived.JoinedTies
import Derived.KernelRfl
namespace Go.Proofs.Ytdephacjcljinaa
/- THE CELL 'sum', in the pinned program and in every row, IS THE sha256 OF THE DUMP (.gsa) THAT YtdephacjcljinaaProg.lean LOADS. Nothing in Lean hashes anything: it is a label: what it is worth is what the hold of that sum in a sandbox is worth. -/
noncomputable def Try.pinned : Pinned := { name := "ytdephacjcljinaa", sum := "509af0400430c40a9977e5d5fb4767b0156c7b45abeeb3ff700f64e6edfa212e", checked := Try.checked }
namespace Rows
def none {H : Type} : Left H := { results := [], args := [] }

/-- 'darkroomlaw21.MovesChecks': WHATEVER THE INPUT: true; the input reads as it did. -/
def movesChecksSpec : ChangeSpec := { name := "movesChecks", fn := fun _ => fun
  | [d1, d2, d3] => { results := [.lit (.bool true)], args := [d1, d2, d3] }
  | _ => none }
def movesChecksRow : OpenClaim := { program := "ytdephacjcljinaa", sum := "509af0400430c40a9977e5d5fb4767b0156c7b45abeeb3ff700f64e6edfa212e", func := "darkroom/darkroomlaw21.MovesChecks", spec := "movesChecks", unfollowed := true, recurses := true, plainKeys := false, apart := false }
def MovesChecksSaid : Prop := movesChecksRow.holds Try.pinned (OpenSpec.ofChange movesChecksSpec)

/-- ITS FALSE NEIGHBOUR: 'it returns false'. Refute it at one input. -/
def movesChecksWrong : ChangeSpec := { name := "movesChecks", fn := fun _ => fun
  | [d1, d2, d3] => { results := [.lit (.bool false)], args := [d1, d2, d3] }
  | _ => none }
def MovesChecksWrongFalsely : Prop := movesChecksRow.holds Try.pinned (OpenSpec.ofChange movesChecksWrong)

/-- 'darkroomlaw21.MovesApplies': WHATEVER THE INPUT: true; the input reads as it did. -/
def movesAppliesSpec : ChangeSpec := { name := "movesApplies", fn := fun _ => fun
  | [d1, d2, d3] => { results := [.lit (.bool true)], args := [d1, d2, d3] }
  | _ => none }
def movesAppliesRow : OpenClaim := { program := "ytdephacjcljinaa", sum := "509af0400430c40a9977e5d5fb4767b0156c7b45abeeb3ff700f64e6edfa212e", func := "darkroom/darkroomlaw21.MovesApplies", spec := "movesApplies", unfollowed := true, recurses := true, plainKeys := false, apart := false }
def MovesAppliesSaid : Prop := movesAppliesRow.holds Try.pinned (OpenSpec.ofChange movesAppliesSpec)

/-- ITS FALSE NEIGHBOUR: 'it returns false'. Refute it at one input. -/
def movesAppliesWrong : ChangeSpec := { name := "movesApplies", fn := fun _ => fun
  | [d1, d2, d3] => { results := [.lit (.bool false)], args := [d1, d2, d3] }
  | _ => none }
def MovesAppliesWrongFalsely : Prop := movesAppliesRow.holds Try.pinned (OpenSpec.ofChange movesAppliesWrong)

/-- 'darkroomlaw21.MovesTurns': WHATEVER THE INPUT: true; the input reads as it did. -/
def movesTurnsSpec : ChangeSpec := { name := "movesTurns", fn := fun _ => fun
  | [d1, d2] => { results := [.lit (.bool true)], args := [d1, d2] }
  | _ => none }
def movesTurnsRow : OpenClaim := { program := "ytdephacjcljinaa", sum := "509af0400430c40a9977e5d5fb4767b0156c7b45abeeb3ff700f64e6edfa212e", func := "darkroom/darkroomlaw21.MovesTurns", spec := "movesTurns", unfollowed := true, recurses := true, plainKeys := false, apart := false }
def MovesTurnsSaid : Prop := movesTurnsRow.holds Try.pinned (OpenSpec.ofChange movesTurnsSpec)

/-- ITS FALSE NEIGHBOUR: 'it returns false'. Refute it at one input. -/
def movesTurnsWrong : ChangeSpec := { name := "movesTurns", fn := fun _ => fun
  | [d1, d2] => { results := [.lit (.bool false)], args := [d1, d2] }
  | _ => none }
def MovesTurnsWrongFalsely : Prop := movesTurnsRow.holds Try.pinned (OpenSpec.ofChange movesTurnsWrong)

/-- 'darkroomlaw21.MovesBack': WHATEVER THE INPUT: true; the input reads as it did. -/
def movesBackSpec : ChangeSpec := { name := "movesBack", fn := fun _ => fun
  | [d1, d2] => { results := [.lit (.bool true)], args := [d1, d2] }
  | _ => none }
def movesBackRow : OpenClaim := { program := "ytdephacjcljinaa", sum := "509af0400430c40a9977e5d5fb4767b0156c7b45abeeb3ff700f64e6edfa212e", func := "darkroom/darkroomlaw21.MovesBack", spec := "movesBack", unfollowed := true, recurses := true, plainKeys := false, apart := false }
def MovesBackSaid : Prop := movesBackRow.holds Try.pinned (OpenSpec.ofChange movesBackSpec)

/-- ITS FALSE NEIGHBOUR: 'it returns false'. Refute it at one input. -/
def movesBackWrong : ChangeSpec := { name := "movesBack", fn := fun _ => fun
  | [d1, d2] => { results := [.lit (.bool false)], args := [d1, d2] }
  | _ => none }
def MovesBackWrongFalsely : Prop := movesBackRow.holds Try.pinned (OpenSpec.ofChange movesBackWrong)

/-- 'darkroomlaw21.MovesTrims': WHATEVER THE INPUT: true; the input reads as it did. -/
def movesTrimsSpec : ChangeSpec := { name := "movesTrims", fn := fun _ => fun
  | [d] => { results := [.lit (.bool true)], args := [d] }
  | _ => none }
def movesTrimsRow : OpenClaim := { program := "ytdephacjcljinaa", sum := "509af0400430c40a9977e5d5fb4767b0156c7b45abeeb3ff700f64e6edfa212e", func := "darkroom/darkroomlaw21.MovesTrims", spec := "movesTrims", unfollowed := true, recurses := true, plainKeys := false, apart := false }
def MovesTrimsSaid : Prop := movesTrimsRow.holds Try.pinned (OpenSpec.ofChange movesTrimsSpec)

/-- ITS FALSE NEIGHBOUR: 'it returns false'. Refute it at one input. -/
def movesTrimsWrong : ChangeSpec := { name := "movesTrims", fn := fun _ => fun
  | [d] => { results := [.lit (.bool false)], args := [d] }
  | _ => none }
def MovesTrimsWrongFalsely : Prop := movesTrimsRow.holds Try.pinned (OpenSpec.ofChange movesTrimsWrong)

/-- 'darkroomlaw21.MovesOwn': WHATEVER THE INPUT: true; the input reads as it did. -/
def movesOwnSpec : ChangeSpec := { name := "movesOwn", fn := fun _ => fun
  | [d1, d2, d3] => { results := [.lit (.bool true)], args := [d1, d2, d3] }
  | _ => none }
def movesOwnRow : OpenClaim := { program := "ytdephacjcljinaa", sum := "509af0400430c40a9977e5d5fb4767b0156c7b45abeeb3ff700f64e6edfa212e", func := "darkroom/darkroomlaw21.MovesOwn", spec := "movesOwn", unfollowed := true, recurses := true, plainKeys := false, apart := false }
def MovesOwnSaid : Prop := movesOwnRow.holds Try.pinned (OpenSpec.ofChange movesOwnSpec)

/-- ITS FALSE NEIGHBOUR: 'it returns false'. Refute it at one input. -/
def movesOwnWrong : ChangeSpec := { name := "movesOwn", fn := fun _ => fun
  | [d1, d2, d3] => { results := [.lit (.bool false)], args := [d1, d2, d3] }
  | _ => none }
def MovesOwnWrongFalsely : Prop := movesOwnRow.holds Try.pinned (OpenSpec.ofChange movesOwnWrong)

/-- 'darkroomlaw21.MovesKeeps': WHATEVER THE INPUT: true; the input reads as it did. -/
def movesKeepsSpec : ChangeSpec := { name := "movesKeeps", fn := fun _ => fun
  | [d1, d2, d3] => { results := [.lit (.bool true)], args := [d1, d2, d3] }
  | _ => none }
def movesKeepsRow : OpenClaim := { program := "ytdephacjcljinaa", sum := "509af0400430c40a9977e5d5fb4767b0156c7b45abeeb3ff700f64e6edfa212e", func := "darkroom/darkroomlaw21.MovesKeeps", spec := "movesKeeps", unfollowed := true, recurses := true, plainKeys := false, apart := false }
def MovesKeepsSaid : Prop := movesKeepsRow.holds Try.pinned (OpenSpec.ofChange movesKeepsSpec)

/-- ITS FALSE NEIGHBOUR: 'it returns false'. Refute it at one input. -/
def movesKeepsWrong : ChangeSpec := { name := "movesKeeps", fn := fun _ => fun
  | [d1, d2, d3] => { results := [.lit (.bool false)], args := [d1, d2, d3] }
  | _ => none }
def MovesKeepsWrongFalsely : Prop := movesKeepsRow.holds Try.pinned (OpenSpec.ofChange movesKeepsWrong)

/- THE SECOND FORM. 'bulk': how many values and letters a reading holds, each counted each time it is reached (what is shared counts as often as it is met; a slice's spare places count too). A statement '..UptoSaid' is the law's where the arguments, and the package variables that the reading takes, are together of bulk at most 1048576: NARROWER than '..Said'. Prove '..Said' where nothing that the law and all that it calls make is longer than what came in: it says more and counts as full. Else prove '..UptoSaid'. A law counts once. -/
mutual
def uptoBulk {H : Type} : DataW H → Nat
  | .lit (.string bytes) => bytes.length + 1
  | .lit _ => 1
  | .nil => 1
  | .ptr d => uptoBulk d + 1
  | .slice elems spare => uptoBulkAll elems + uptoBulkAll spare + 1
  | .agg parts => uptoBulkAll parts + 1
  | .iface _ d => uptoBulk d + 1
  | .map entries => uptoBulkEntries entries + 1
  | .held _ => 1
def uptoBulkAll {H : Type} : List (DataW H) → Nat
  | [] => 0
  | d :: r => uptoBulk d + uptoBulkAll r
def uptoBulkEntries {H : Type} : List (Lit × DataW H) → Nat
  | [] => 0
  | x :: r => uptoBulkEntry x + uptoBulkEntries r
def uptoBulkEntry {H : Type} : Lit × DataW H → Nat
  | (.string bytes, d) => bytes.length + uptoBulk d + 1
  | (_, d) => uptoBulk d + 1
 end
def uptoSmall : (H : Type) → List (DataW H) → Bool := fun _ ds => decide (uptoBulkAll ds ≤ 1048576)
def OpenSpec.upto (s : _root_.Go.ChangeSpec) : _root_.Go.OpenSpec := { _root_.Go.OpenSpec.ofChange s with cond := some uptoSmall }

/-- 'darkroomlaw21.MovesChecks', WHERE WHAT IT READS IS OF BULK AT MOST 1048576: true; the input reads as it did. -/
def movesChecksUptoRow : OpenClaim := { program := "ytdephacjcljinaa", sum := "509af0400430c40a9977e5d5fb4767b0156c7b45abeeb3ff700f64e6edfa212e", func := "darkroom/darkroomlaw21.MovesChecks", spec := "movesChecks", unfollowed := true, recurses := true, plainKeys := false, apart := false, narrowed := true }
def MovesChecksUptoSaid : Prop := movesChecksUptoRow.holds Try.pinned (OpenSpec.upto movesChecksSpec)

/-- 'darkroomlaw21.MovesApplies', WHERE WHAT IT READS IS OF BULK AT MOST 1048576: true; the input reads as it did. -/
def movesAppliesUptoRow : OpenClaim := { program := "ytdephacjcljinaa", sum := "509af0400430c40a9977e5d5fb4767b0156c7b45abeeb3ff700f64e6edfa212e", func := "darkroom/darkroomlaw21.MovesApplies", spec := "movesApplies", unfollowed := true, recurses := true, plainKeys := false, apart := false, narrowed := true }
def MovesAppliesUptoSaid : Prop := movesAppliesUptoRow.holds Try.pinned (OpenSpec.upto movesAppliesSpec)

/-- 'darkroomlaw21.MovesTurns', WHERE WHAT IT READS IS OF BULK AT MOST 1048576: true; the input reads as it did. -/
def movesTurnsUptoRow : OpenClaim := { program := "ytdephacjcljinaa", sum := "509af0400430c40a9977e5d5fb4767b0156c7b45abeeb3ff700f64e6edfa212e", func := "darkroom/darkroomlaw21.MovesTurns", spec := "movesTurns", unfollowed := true, recurses := true, plainKeys := false, apart := false, narrowed := true }
def MovesTurnsUptoSaid : Prop := movesTurnsUptoRow.holds Try.pinned (OpenSpec.upto movesTurnsSpec)

/-- 'darkroomlaw21.MovesBack', WHERE WHAT IT READS IS OF BULK AT MOST 1048576: true; the input reads as it did. -/
def movesBackUptoRow : OpenClaim := { program := "ytdephacjcljinaa", sum := "509af0400430c40a9977e5d5fb4767b0156c7b45abeeb3ff700f64e6edfa212e", func := "darkroom/darkroomlaw21.MovesBack", spec := "movesBack", unfollowed := true, recurses := true, plainKeys := false, apart := false, narrowed := true }
def MovesBackUptoSaid : Prop := movesBackUptoRow.holds Try.pinned (OpenSpec.upto movesBackSpec)

/-- 'darkroomlaw21.MovesTrims', WHERE WHAT IT READS IS OF BULK AT MOST 1048576: true; the input reads as it did. -/
def movesTrimsUptoRow : OpenClaim := { program := "ytdephacjcljinaa", sum := "509af0400430c40a9977e5d5fb4767b0156c7b45abeeb3ff700f64e6edfa212e", func := "darkroom/darkroomlaw21.MovesTrims", spec := "movesTrims", unfollowed := true, recurses := true, plainKeys := false, apart := false, narrowed := true }
def MovesTrimsUptoSaid : Prop := movesTrimsUptoRow.holds Try.pinned (OpenSpec.upto movesTrimsSpec)

/-- 'darkroomlaw21.MovesOwn', WHERE WHAT IT READS IS OF BULK AT MOST 1048576: true; the input reads as it did. -/
def movesOwnUptoRow : OpenClaim := { program := "ytdephacjcljinaa", sum := "509af0400430c40a9977e5d5fb4767b0156c7b45abeeb3ff700f64e6edfa212e", func := "darkroom/darkroomlaw21.MovesOwn", spec := "movesOwn", unfollowed := true, recurses := true, plainKeys := false, apart := false, narrowed := true }
def MovesOwnUptoSaid : Prop := movesOwnUptoRow.holds Try.pinned (OpenSpec.upto movesOwnSpec)

/-- 'darkroomlaw21.MovesKeeps', WHERE WHAT IT READS IS OF BULK AT MOST 1048576: true; the input reads as it did. -/
def movesKeepsUptoRow : OpenClaim := { program := "ytdephacjcljinaa", sum := "509af0400430c40a9977e5d5fb4767b0156c7b45abeeb3ff700f64e6edfa212e", func := "darkroom/darkroomlaw21.MovesKeeps", spec := "movesKeeps", unfollowed := true, recurses := true, plainKeys := false, apart := false, narrowed := true }
def MovesKeepsUptoSaid : Prop := movesKeepsUptoRow.holds Try.pinned (OpenSpec.upto movesKeepsSpec)

end Rows
end Go.Proofs.Ytdephacjcljinaa
