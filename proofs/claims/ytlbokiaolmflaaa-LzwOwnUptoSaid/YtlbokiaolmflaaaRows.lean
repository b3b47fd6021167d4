/-
  No cell of these rows narrows 'for every input' (looked for: loops, veiled, ifaces, maps, wideKeys, modest, calm, conditions, laid).
  DERIVED. THE GIVEN ROWS OF THIS SEAT. 7 by the template 'for every input the law returns true; each argument reads behind the call as it read before'; 0 by the template 'total and deterministic' (their statements: YtlbokiaolmflaaaTotals.lean).
  GIVEN WITH THE SEED: the statements are not yours to turn. If you find one false, say at which input.
  Laid BY PROGRAM, IN A SANDBOX (cutbox-rows.mjs): the forced cells as the released guide's own fill.sh prints them over the translation 5e4f920d0ba0f740… (all of the seat's roots in one cut). By AI agents, Wed Nov 11 2026. No macro, syntax, notation, axiom, sorry.
-/
import Derived.Test.YtlbokiaolmflaaaChecked
import GoSem.Claim
import GoSem.ClaimJoined
import GoSem.ClaimMapViews
import Derived.JoinedTies
import Derived.KernelRfl
namespace Go.Proofs.Ytlbokiaolmflaaa
/- THE CELL 'sum', in the pinned program and in every row, IS THE sha256 OF THE DUMP (.gsa) THAT YtlbokiaolmflaaaProg.lean LOADS. Nothing in Lean hashes anything: it is a label: what it is worth is what the hold of that sum in a sandbox is worth. -/
noncomputable def Try.pinned : Pinned := { name := "ytlbokiaolmflaaa", sum := "5e4f920d0ba0f7407695211064b8993edde9ff0b0bd01de2ecc329180659230c", checked := Try.checked }
namespace Rows
def none {H : Type} : Left H := { results := [], args := [] }

/-- 'darkroomlaw06.LzwGif': WHATEVER THE INPUT: true; the input reads as it did. -/
def lzwGifSpec : ChangeSpec := { name := "lzwGif", fn := fun _ => fun
  | [d1, d2, d3] => { results := [.lit (.bool true)], args := [d1, d2, d3] }
  | _ => none }
def lzwGifRow : OpenClaim := { program := "ytlbokiaolmflaaa", sum := "5e4f920d0ba0f7407695211064b8993edde9ff0b0bd01de2ecc329180659230c", func := "darkroom/darkroomlaw06.LzwGif", spec := "lzwGif", unfollowed := true, recurses := true, plainKeys := false, apart := false }
def LzwGifSaid : Prop := lzwGifRow.holds Try.pinned (OpenSpec.ofChange lzwGifSpec)

/-- ITS FALSE NEIGHBOUR: 'it returns false'. Refute it at one input. -/
def lzwGifWrong : ChangeSpec := { name := "lzwGif", fn := fun _ => fun
  | [d1, d2, d3] => { results := [.lit (.bool false)], args := [d1, d2, d3] }
  | _ => none }
def LzwGifWrongFalsely : Prop := lzwGifRow.holds Try.pinned (OpenSpec.ofChange lzwGifWrong)

/-- 'darkroomlaw06.LzwRuns': WHATEVER THE INPUT: true; the input reads as it did. -/
def lzwRunsSpec : ChangeSpec := { name := "lzwRuns", fn := fun _ => fun
  | [d1, d2] => { results := [.lit (.bool true)], args := [d1, d2] }
  | _ => none }
def lzwRunsRow : OpenClaim := { program := "ytlbokiaolmflaaa", sum := "5e4f920d0ba0f7407695211064b8993edde9ff0b0bd01de2ecc329180659230c", func := "darkroom/darkroomlaw06.LzwRuns", spec := "lzwRuns", unfollowed := true, recurses := true, plainKeys := false, apart := false }
def LzwRunsSaid : Prop := lzwRunsRow.holds Try.pinned (OpenSpec.ofChange lzwRunsSpec)

/-- ITS FALSE NEIGHBOUR: 'it returns false'. Refute it at one input. -/
def lzwRunsWrong : ChangeSpec := { name := "lzwRuns", fn := fun _ => fun
  | [d1, d2] => { results := [.lit (.bool false)], args := [d1, d2] }
  | _ => none }
def LzwRunsWrongFalsely : Prop := lzwRunsRow.holds Try.pinned (OpenSpec.ofChange lzwRunsWrong)

/-- 'darkroomlaw06.LzwTiff': WHATEVER THE INPUT: true; the input reads as it did. -/
def lzwTiffSpec : ChangeSpec := { name := "lzwTiff", fn := fun _ => fun
  | [d1, d2] => { results := [.lit (.bool true)], args := [d1, d2] }
  | _ => none }
def lzwTiffRow : OpenClaim := { program := "ytlbokiaolmflaaa", sum := "5e4f920d0ba0f7407695211064b8993edde9ff0b0bd01de2ecc329180659230c", func := "darkroom/darkroomlaw06.LzwTiff", spec := "lzwTiff", unfollowed := true, recurses := true, plainKeys := false, apart := false }
def LzwTiffSaid : Prop := lzwTiffRow.holds Try.pinned (OpenSpec.ofChange lzwTiffSpec)

/-- ITS FALSE NEIGHBOUR: 'it returns false'. Refute it at one input. -/
def lzwTiffWrong : ChangeSpec := { name := "lzwTiff", fn := fun _ => fun
  | [d1, d2] => { results := [.lit (.bool false)], args := [d1, d2] }
  | _ => none }
def LzwTiffWrongFalsely : Prop := lzwTiffRow.holds Try.pinned (OpenSpec.ofChange lzwTiffWrong)

/-- 'darkroomlaw06.LzwLong': WHATEVER THE INPUT: true; the input reads as it did. -/
def lzwLongSpec : ChangeSpec := { name := "lzwLong", fn := fun _ => fun
  | [d1, d2] => { results := [.lit (.bool true)], args := [d1, d2] }
  | _ => none }
def lzwLongRow : OpenClaim := { program := "ytlbokiaolmflaaa", sum := "5e4f920d0ba0f7407695211064b8993edde9ff0b0bd01de2ecc329180659230c", func := "darkroom/darkroomlaw06.LzwLong", spec := "lzwLong", unfollowed := true, recurses := true, plainKeys := false, apart := false }
def LzwLongSaid : Prop := lzwLongRow.holds Try.pinned (OpenSpec.ofChange lzwLongSpec)

/-- ITS FALSE NEIGHBOUR: 'it returns false'. Refute it at one input. -/
def lzwLongWrong : ChangeSpec := { name := "lzwLong", fn := fun _ => fun
  | [d1, d2] => { results := [.lit (.bool false)], args := [d1, d2] }
  | _ => none }
def LzwLongWrongFalsely : Prop := lzwLongRow.holds Try.pinned (OpenSpec.ofChange lzwLongWrong)

/-- 'darkroomlaw06.LzwBack': WHATEVER THE INPUT: true; the input reads as it did. -/
def lzwBackSpec : ChangeSpec := { name := "lzwBack", fn := fun _ => fun
  | [d1, d2] => { results := [.lit (.bool true)], args := [d1, d2] }
  | _ => none }
def lzwBackRow : OpenClaim := { program := "ytlbokiaolmflaaa", sum := "5e4f920d0ba0f7407695211064b8993edde9ff0b0bd01de2ecc329180659230c", func := "darkroom/darkroomlaw06.LzwBack", spec := "lzwBack", unfollowed := true, recurses := true, plainKeys := false, apart := false }
def LzwBackSaid : Prop := lzwBackRow.holds Try.pinned (OpenSpec.ofChange lzwBackSpec)

/-- ITS FALSE NEIGHBOUR: 'it returns false'. Refute it at one input. -/
def lzwBackWrong : ChangeSpec := { name := "lzwBack", fn := fun _ => fun
  | [d1, d2] => { results := [.lit (.bool false)], args := [d1, d2] }
  | _ => none }
def LzwBackWrongFalsely : Prop := lzwBackRow.holds Try.pinned (OpenSpec.ofChange lzwBackWrong)

/-- 'darkroomlaw06.LzwFew': WHATEVER THE INPUT: true; the input reads as it did. -/
def lzwFewSpec : ChangeSpec := { name := "lzwFew", fn := fun _ => fun
  | [d1, d2, d3] => { results := [.lit (.bool true)], args := [d1, d2, d3] }
  | _ => none }
def lzwFewRow : OpenClaim := { program := "ytlbokiaolmflaaa", sum := "5e4f920d0ba0f7407695211064b8993edde9ff0b0bd01de2ecc329180659230c", func := "darkroom/darkroomlaw06.LzwFew", spec := "lzwFew", unfollowed := true, recurses := true, plainKeys := false, apart := false }
def LzwFewSaid : Prop := lzwFewRow.holds Try.pinned (OpenSpec.ofChange lzwFewSpec)

/-- ITS FALSE NEIGHBOUR: 'it returns false'. Refute it at one input. -/
def lzwFewWrong : ChangeSpec := { name := "lzwFew", fn := fun _ => fun
  | [d1, d2, d3] => { results := [.lit (.bool false)], args := [d1, d2, d3] }
  | _ => none }
def LzwFewWrongFalsely : Prop := lzwFewRow.holds Try.pinned (OpenSpec.ofChange lzwFewWrong)

/-- 'darkroomlaw06.LzwOwn': WHATEVER THE INPUT: true; the input reads as it did. -/
def lzwOwnSpec : ChangeSpec := { name := "lzwOwn", fn := fun _ => fun
  | [d1, d2] => { results := [.lit (.bool true)], args := [d1, d2] }
  | _ => none }
def lzwOwnRow : OpenClaim := { program := "ytlbokiaolmflaaa", sum := "5e4f920d0ba0f7407695211064b8993edde9ff0b0bd01de2ecc329180659230c", func := "darkroom/darkroomlaw06.LzwOwn", spec := "lzwOwn", unfollowed := true, recurses := true, plainKeys := false, apart := false }
def LzwOwnSaid : Prop := lzwOwnRow.holds Try.pinned (OpenSpec.ofChange lzwOwnSpec)

/-- ITS FALSE NEIGHBOUR: 'it returns false'. Refute it at one input. -/
def lzwOwnWrong : ChangeSpec := { name := "lzwOwn", fn := fun _ => fun
  | [d1, d2] => { results := [.lit (.bool false)], args := [d1, d2] }
  | _ => none }
def LzwOwnWrongFalsely : Prop := lzwOwnRow.holds Try.pinned (OpenSpec.ofChange lzwOwnWrong)

/- THE SECOND FORM. 'bulk': how many values and letters a reading holds, each counted each time it is reached (what is shared counts as often as it is met; a slice's spare places count too). A statement '..UptoSaid' is the law's where the arguments, and the package variables that the reading takes, are together of bulk at most 1048576: NARROWER than '..Said'. Prove '..Said' where nothing that the law and all that it calls make is longer than what came in: it says more and counts as full. Else prove '..UptoSaid'. A law counts once. -/
mutual
def uptoBulk {H : Type} : DataW H → Nat
  | .lit (.string bytes) => bytes.length + 1
  | .lit _ => 1
  | .nil => 1
  | .ptr d => uptoBulk d + 1
  | .slice elems spare => uptoBulkAll elems + uptoBulkAll spare + 1
  | .agg parts => uptoBulkAll parts + 1
  | .iface _ d => uptoBulk d + 1
  | .map entries => uptoBulkEntries entries + 1
  | .held _ => 1
def uptoBulkAll {H : Type} : List (DataW H) → Nat
  | [] => 0
  | d :: r => uptoBulk d + uptoBulkAll r
def uptoBulkEntries {H : Type} : List (Lit × DataW H) → Nat
  | [] => 0
  | x :: r => uptoBulkEntry x + uptoBulkEntries r
def uptoBulkEntry {H : Type} : Lit × DataW H → Nat
  | (.string bytes, d) => bytes.length + uptoBulk d + 1
  | (_, d) => uptoBulk d + 1
 end
def uptoSmall : (H : Type) → List (DataW H) → Bool := fun _ ds => decide (uptoBulkAll ds ≤ 1048576)
def OpenSpec.upto (s : _root_.Go.ChangeSpec) : _root_.Go.OpenSpec := { _root_.Go.OpenSpec.ofChange s with cond := some uptoSmall }

/-- 'darkroomlaw06.LzwGif', WHERE WHAT IT READS IS OF BULK AT MOST 1048576: true; the input reads as it did. -/
def lzwGifUptoRow : OpenClaim := { program := "ytlbokiaolmflaaa", sum := "5e4f920d0ba0f7407695211064b8993edde9ff0b0bd01de2ecc329180659230c", func := "darkroom/darkroomlaw06.LzwGif", spec := "lzwGif", unfollowed := true, recurses := true, plainKeys := false, apart := false, narrowed := true }
def LzwGifUptoSaid : Prop := lzwGifUptoRow.holds Try.pinned (OpenSpec.upto lzwGifSpec)

/-- 'darkroomlaw06.LzwRuns', WHERE WHAT IT READS IS OF BULK AT MOST 1048576: true; the input reads as it did. -/
def lzwRunsUptoRow : OpenClaim := { program := "ytlbokiaolmflaaa", sum := "5e4f920d0ba0f7407695211064b8993edde9ff0b0bd01de2ecc329180659230c", func := "darkroom/darkroomlaw06.LzwRuns", spec := "lzwRuns", unfollowed := true, recurses := true, plainKeys := false, apart := false, narrowed := true }
def LzwRunsUptoSaid : Prop := lzwRunsUptoRow.holds Try.pinned (OpenSpec.upto lzwRunsSpec)

/-- 'darkroomlaw06.LzwTiff', WHERE WHAT IT READS IS OF BULK AT MOST 1048576: true; the input reads as it did. -/
def lzwTiffUptoRow : OpenClaim := { program := "ytlbokiaolmflaaa", sum := "5e4f920d0ba0f7407695211064b8993edde9ff0b0bd01de2ecc329180659230c", func := "darkroom/darkroomlaw06.LzwTiff", spec := "lzwTiff", unfollowed := true, recurses := true, plainKeys := false, apart := false, narrowed := true }
def LzwTiffUptoSaid : Prop := lzwTiffUptoRow.holds Try.pinned (OpenSpec.upto lzwTiffSpec)

/-- 'darkroomlaw06.LzwLong', WHERE WHAT IT READS IS OF BULK AT MOST 1048576: true; the input reads as it did. -/
def lzwLongUptoRow : OpenClaim := { program := "ytlbokiaolmflaaa", sum := "5e4f920d0ba0f7407695211064b8993edde9ff0b0bd01de2ecc329180659230c", func := "darkroom/darkroomlaw06.LzwLong", spec := "lzwLong", unfollowed := true, recurses := true, plainKeys := false, apart := false, narrowed := true }
def LzwLongUptoSaid : Prop := lzwLongUptoRow.holds Try.pinned (OpenSpec.upto lzwLongSpec)

/-- 'darkroomlaw06.LzwBack', WHERE WHAT IT READS IS OF BULK AT MOST 1048576: true; the input reads as it did. -/
def lzwBackUptoRow : OpenClaim := { program := "ytlbokiaolmflaaa", sum := "5e4f920d0ba0f7407695211064b8993edde9ff0b0bd01de2ecc329180659230c", func := "darkroom/darkroomlaw06.LzwBack", spec := "lzwBack", unfollowed := true, recurses := true, plainKeys := false, apart := false, narrowed := true }
def LzwBackUptoSaid : Prop := lzwBackUptoRow.holds Try.pinned (OpenSpec.upto lzwBackSpec)

/-- 'darkroomlaw06.LzwFew', WHERE WHAT IT READS IS OF BULK AT MOST 1048576: true; the input reads as it did. -/
def lzwFewUptoRow : OpenClaim := { program := "ytlbokiaolmflaaa", sum := "5e4f920d0ba0f7407695211064b8993edde9ff0b0bd01de2ecc329180659230c", func := "darkroom/darkroomlaw06.LzwFew", spec := "lzwFew", unfollowed := true, recurses := true, plainKeys := false, apart := false, narrowed := true }
def LzwFewUptoSaid : Prop := lzwFewUptoRow.holds Try.pinned (OpenSpec.upto lzwFewSpec)

/-- 'darkroomlaw06.LzwOwn', WHERE WHAT IT READS IS OF BULK AT MOST 1048576: true; the input reads as it did. -/
def lzwOwnUptoRow : OpenClaim := { program := "ytlbokiaolmflaaa", sum := "5e4f920d0ba0f7407695211064b8993edde9ff0b0bd01de2ecc329180659230c", func := "darkroom/darkroomlaw06.LzwOwn", spec := "lzwOwn", unfollowed := true, recurses := true, plainKeys := false, apart := false, narrowed := true }
def LzwOwnUptoSaid : Prop := lzwOwnUptoRow.holds Try.pinned (OpenSpec.upto lzwOwnSpec)

end Rows
end Go.Proofs.Ytlbokiaolmflaaa
