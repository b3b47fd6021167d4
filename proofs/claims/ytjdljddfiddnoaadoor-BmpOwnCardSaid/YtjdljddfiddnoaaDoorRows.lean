/-
  NARROWER THAN 'FOR EVERY INPUT', by the rows' own cells (each row's printed sentence says how): BmpReads: laid · BmpWrites: laid · BmpBack: laid · BmpTurns: laid · BmpOwn: laid.
  DERIVED. THE GIVEN ROWS OF THIS SEAT. 5 by the template 'for every input the law returns true; each argument reads behind the call as it read before'; 0 by the template 'total and deterministic' (their statements: YtjdljddfiddnoaaDoorTotals.lean).
  GIVEN WITH THE SEED: the statements are not yours to turn. If you find one false, say at which input.
  Laid BY PROGRAM, IN A SANDBOX (cutbox-rows.mjs): the forced cells as the released guide's own fill.sh prints them over the translation 5184a91bd2423d7c… (all of the seat's roots in one cut). By AI agents, Wed Nov 11 2026. No macro, syntax, notation, axiom, sorry.
-/
import Derived.Test.YtjdljddfiddnoaaDoorChecked
import GoSem.Claim
import GoSem.ClaimJoined
import GoSem.ClaimMapViews
import Derived.JoinedTies
import Derived.KernelRfl
namespace Go.Proofs.YtjdljddfiddnoaaDoor
/- THE CELL 'sum', in the pinned program and in every row, IS THE sha256 OF THE DUMP (.gsa) THAT YtjdljddfiddnoaaDoorProg.lean LOADS. Nothing in Lean hashes anything: it is a label: what it is worth is what the hold of that sum in a sandbox is worth. -/
noncomputable def Tryd.pinned : Pinned := { name := "ytjdljddfiddnoaadoor", sum := "5184a91bd2423d7c21bddd418286bbcbb4cd4d7b371c77b9795cde01d00508bd", checked := Tryd.checked }
namespace Rows
def none {H : Type} : Left H := { results := [], args := [] }

/- WHAT THE LISTED PACKAGE-LEVEL VARIABLES READ AS WHEN THE CALL BEGINS. Each datum BY PROGRAM (the guide's laid-datum.mjs) off the statement by which the dump's own 'gosem.cut.vars' lays the variable. In a bare row this is a premise. The card (YtjdljddfiddnoaaDoorCards.lean) ties it to the program's text. -/
def laid_math_bits_deBruijn32tab {H : Type} : DataW H := .agg [.lit (.int .u8 0), .lit (.int .u8 1), .lit (.int .u8 28), .lit (.int .u8 2), .lit (.int .u8 29), .lit (.int .u8 14), .lit (.int .u8 24), .lit (.int .u8 3), .lit (.int .u8 30), .lit (.int .u8 22), .lit (.int .u8 20), .lit (.int .u8 15), .lit (.int .u8 25), .lit (.int .u8 17), .lit (.int .u8 4), .lit (.int .u8 8), .lit (.int .u8 31), .lit (.int .u8 27), .lit (.int .u8 13), .lit (.int .u8 23), .lit (.int .u8 21), .lit (.int .u8 19), .lit (.int .u8 16), .lit (.int .u8 7), .lit (.int .u8 26), .lit (.int .u8 12), .lit (.int .u8 18), .lit (.int .u8 6), .lit (.int .u8 11), .lit (.int .u8 5), .lit (.int .u8 10), .lit (.int .u8 9)]

/-- 'darkroomlaw11.BmpReads': WHATEVER THE INPUT: true; the input reads as it did. -/
def bmpReadsSpec : ChangeSpec := { name := "bmpReads", fn := fun _ => fun
  | [d1, d2] => { results := [.lit (.bool true)], args := [d1, d2] }
  | _ => none }
def bmpReadsRow : OpenClaim := { program := "ytjdljddfiddnoaadoor", sum := "5184a91bd2423d7c21bddd418286bbcbb4cd4d7b371c77b9795cde01d00508bd", func := "darkroom/darkroomlaw11.BmpReads", spec := "bmpReads", unfollowed := true, recurses := true, named := ["math/bits.deBruijn32tab"], apart := false, laid := [("math/bits.deBruijn32tab", laid_math_bits_deBruijn32tab)] }
def BmpReadsSaid : Prop := bmpReadsRow.holds Tryd.pinned (OpenSpec.ofChange bmpReadsSpec)

/-- ITS FALSE NEIGHBOUR: 'it returns false'. Refute it at one input. -/
def bmpReadsWrong : ChangeSpec := { name := "bmpReads", fn := fun _ => fun
  | [d1, d2] => { results := [.lit (.bool false)], args := [d1, d2] }
  | _ => none }
def BmpReadsWrongFalsely : Prop := bmpReadsRow.holds Tryd.pinned (OpenSpec.ofChange bmpReadsWrong)

/-- 'darkroomlaw11.BmpWrites': WHATEVER THE INPUT: true; the input reads as it did. -/
def bmpWritesSpec : ChangeSpec := { name := "bmpWrites", fn := fun _ => fun
  | [d1, d2] => { results := [.lit (.bool true)], args := [d1, d2] }
  | _ => none }
def bmpWritesRow : OpenClaim := { program := "ytjdljddfiddnoaadoor", sum := "5184a91bd2423d7c21bddd418286bbcbb4cd4d7b371c77b9795cde01d00508bd", func := "darkroom/darkroomlaw11.BmpWrites", spec := "bmpWrites", unfollowed := true, recurses := true, named := ["math/bits.deBruijn32tab"], apart := false, laid := [("math/bits.deBruijn32tab", laid_math_bits_deBruijn32tab)] }
def BmpWritesSaid : Prop := bmpWritesRow.holds Tryd.pinned (OpenSpec.ofChange bmpWritesSpec)

/-- ITS FALSE NEIGHBOUR: 'it returns false'. Refute it at one input. -/
def bmpWritesWrong : ChangeSpec := { name := "bmpWrites", fn := fun _ => fun
  | [d1, d2] => { results := [.lit (.bool false)], args := [d1, d2] }
  | _ => none }
def BmpWritesWrongFalsely : Prop := bmpWritesRow.holds Tryd.pinned (OpenSpec.ofChange bmpWritesWrong)

/-- 'darkroomlaw11.BmpBack': WHATEVER THE INPUT: true; the input reads as it did. -/
def bmpBackSpec : ChangeSpec := { name := "bmpBack", fn := fun _ => fun
  | [d1, d2] => { results := [.lit (.bool true)], args := [d1, d2] }
  | _ => none }
def bmpBackRow : OpenClaim := { program := "ytjdljddfiddnoaadoor", sum := "5184a91bd2423d7c21bddd418286bbcbb4cd4d7b371c77b9795cde01d00508bd", func := "darkroom/darkroomlaw11.BmpBack", spec := "bmpBack", unfollowed := true, recurses := true, named := ["math/bits.deBruijn32tab"], apart := false, laid := [("math/bits.deBruijn32tab", laid_math_bits_deBruijn32tab)] }
def BmpBackSaid : Prop := bmpBackRow.holds Tryd.pinned (OpenSpec.ofChange bmpBackSpec)

/-- ITS FALSE NEIGHBOUR: 'it returns false'. Refute it at one input. -/
def bmpBackWrong : ChangeSpec := { name := "bmpBack", fn := fun _ => fun
  | [d1, d2] => { results := [.lit (.bool false)], args := [d1, d2] }
  | _ => none }
def BmpBackWrongFalsely : Prop := bmpBackRow.holds Tryd.pinned (OpenSpec.ofChange bmpBackWrong)

/-- 'darkroomlaw11.BmpTurns': WHATEVER THE INPUT: true; the input reads as it did. -/
def bmpTurnsSpec : ChangeSpec := { name := "bmpTurns", fn := fun _ => fun
  | [d1, d2] => { results := [.lit (.bool true)], args := [d1, d2] }
  | _ => none }
def bmpTurnsRow : OpenClaim := { program := "ytjdljddfiddnoaadoor", sum := "5184a91bd2423d7c21bddd418286bbcbb4cd4d7b371c77b9795cde01d00508bd", func := "darkroom/darkroomlaw11.BmpTurns", spec := "bmpTurns", unfollowed := true, recurses := true, named := ["math/bits.deBruijn32tab"], apart := false, laid := [("math/bits.deBruijn32tab", laid_math_bits_deBruijn32tab)] }
def BmpTurnsSaid : Prop := bmpTurnsRow.holds Tryd.pinned (OpenSpec.ofChange bmpTurnsSpec)

/-- ITS FALSE NEIGHBOUR: 'it returns false'. Refute it at one input. -/
def bmpTurnsWrong : ChangeSpec := { name := "bmpTurns", fn := fun _ => fun
  | [d1, d2] => { results := [.lit (.bool false)], args := [d1, d2] }
  | _ => none }
def BmpTurnsWrongFalsely : Prop := bmpTurnsRow.holds Tryd.pinned (OpenSpec.ofChange bmpTurnsWrong)

/-- 'darkroomlaw11.BmpOwn': WHATEVER THE INPUT: true; the input reads as it did. -/
def bmpOwnSpec : ChangeSpec := { name := "bmpOwn", fn := fun _ => fun
  | [d1, d2, d3] => { results := [.lit (.bool true)], args := [d1, d2, d3] }
  | _ => none }
def bmpOwnRow : OpenClaim := { program := "ytjdljddfiddnoaadoor", sum := "5184a91bd2423d7c21bddd418286bbcbb4cd4d7b371c77b9795cde01d00508bd", func := "darkroom/darkroomlaw11.BmpOwn", spec := "bmpOwn", unfollowed := true, recurses := true, named := ["math/bits.deBruijn32tab"], apart := false, laid := [("math/bits.deBruijn32tab", laid_math_bits_deBruijn32tab)] }
def BmpOwnSaid : Prop := bmpOwnRow.holds Tryd.pinned (OpenSpec.ofChange bmpOwnSpec)

/-- ITS FALSE NEIGHBOUR: 'it returns false'. Refute it at one input. -/
def bmpOwnWrong : ChangeSpec := { name := "bmpOwn", fn := fun _ => fun
  | [d1, d2, d3] => { results := [.lit (.bool false)], args := [d1, d2, d3] }
  | _ => none }
def BmpOwnWrongFalsely : Prop := bmpOwnRow.holds Tryd.pinned (OpenSpec.ofChange bmpOwnWrong)

/- THE SECOND FORM. 'bulk': how many values and letters a reading holds, each counted each time it is reached (what is shared counts as often as it is met; a slice's spare places count too). A statement '..UptoSaid' is the law's where the arguments, and the package variables that the reading takes, are together of bulk at most 1048576: NARROWER than '..Said'. Prove '..Said' where nothing that the law and all that it calls make is longer than what came in: it says more and counts as full. Else prove '..UptoSaid'. A law counts once. -/
mutual
def uptoBulk {H : Type} : DataW H → Nat
  | .lit (.string bytes) => bytes.length + 1
  | .lit _ => 1
  | .nil => 1
  | .ptr d => uptoBulk d + 1
  | .slice elems spare => uptoBulkAll elems + uptoBulkAll spare + 1
  | .agg parts => uptoBulkAll parts + 1
  | .iface _ d => uptoBulk d + 1
  | .map entries => uptoBulkEntries entries + 1
  | .held _ => 1
def uptoBulkAll {H : Type} : List (DataW H) → Nat
  | [] => 0
  | d :: r => uptoBulk d + uptoBulkAll r
def uptoBulkEntries {H : Type} : List (Lit × DataW H) → Nat
  | [] => 0
  | x :: r => uptoBulkEntry x + uptoBulkEntries r
def uptoBulkEntry {H : Type} : Lit × DataW H → Nat
  | (.string bytes, d) => bytes.length + uptoBulk d + 1
  | (_, d) => uptoBulk d + 1
 end
def uptoSmall : (H : Type) → List (DataW H) → Bool := fun _ ds => decide (uptoBulkAll ds ≤ 1048576)
def OpenSpec.upto (s : _root_.Go.ChangeSpec) : _root_.Go.OpenSpec := { _root_.Go.OpenSpec.ofChange s with cond := some uptoSmall }

/-- 'darkroomlaw11.BmpReads', WHERE WHAT IT READS IS OF BULK AT MOST 1048576: true; the input reads as it did. -/
def bmpReadsUptoRow : OpenClaim := { program := "ytjdljddfiddnoaadoor", sum := "5184a91bd2423d7c21bddd418286bbcbb4cd4d7b371c77b9795cde01d00508bd", func := "darkroom/darkroomlaw11.BmpReads", spec := "bmpReads", unfollowed := true, recurses := true, named := ["math/bits.deBruijn32tab"], apart := false, laid := [("math/bits.deBruijn32tab", laid_math_bits_deBruijn32tab)], narrowed := true }
def BmpReadsUptoSaid : Prop := bmpReadsUptoRow.holds Tryd.pinned (OpenSpec.upto bmpReadsSpec)

/-- 'darkroomlaw11.BmpWrites', WHERE WHAT IT READS IS OF BULK AT MOST 1048576: true; the input reads as it did. -/
def bmpWritesUptoRow : OpenClaim := { program := "ytjdljddfiddnoaadoor", sum := "5184a91bd2423d7c21bddd418286bbcbb4cd4d7b371c77b9795cde01d00508bd", func := "darkroom/darkroomlaw11.BmpWrites", spec := "bmpWrites", unfollowed := true, recurses := true, named := ["math/bits.deBruijn32tab"], apart := false, laid := [("math/bits.deBruijn32tab", laid_math_bits_deBruijn32tab)], narrowed := true }
def BmpWritesUptoSaid : Prop := bmpWritesUptoRow.holds Tryd.pinned (OpenSpec.upto bmpWritesSpec)

/-- 'darkroomlaw11.BmpBack', WHERE WHAT IT READS IS OF BULK AT MOST 1048576: true; the input reads as it did. -/
def bmpBackUptoRow : OpenClaim := { program := "ytjdljddfiddnoaadoor", sum := "5184a91bd2423d7c21bddd418286bbcbb4cd4d7b371c77b9795cde01d00508bd", func := "darkroom/darkroomlaw11.BmpBack", spec := "bmpBack", unfollowed := true, recurses := true, named := ["math/bits.deBruijn32tab"], apart := false, laid := [("math/bits.deBruijn32tab", laid_math_bits_deBruijn32tab)], narrowed := true }
def BmpBackUptoSaid : Prop := bmpBackUptoRow.holds Tryd.pinned (OpenSpec.upto bmpBackSpec)

/-- 'darkroomlaw11.BmpTurns', WHERE WHAT IT READS IS OF BULK AT MOST 1048576: true; the input reads as it did. -/
def bmpTurnsUptoRow : OpenClaim := { program := "ytjdljddfiddnoaadoor", sum := "5184a91bd2423d7c21bddd418286bbcbb4cd4d7b371c77b9795cde01d00508bd", func := "darkroom/darkroomlaw11.BmpTurns", spec := "bmpTurns", unfollowed := true, recurses := true, named := ["math/bits.deBruijn32tab"], apart := false, laid := [("math/bits.deBruijn32tab", laid_math_bits_deBruijn32tab)], narrowed := true }
def BmpTurnsUptoSaid : Prop := bmpTurnsUptoRow.holds Tryd.pinned (OpenSpec.upto bmpTurnsSpec)

/-- 'darkroomlaw11.BmpOwn', WHERE WHAT IT READS IS OF BULK AT MOST 1048576: true; the input reads as it did. -/
def bmpOwnUptoRow : OpenClaim := { program := "ytjdljddfiddnoaadoor", sum := "5184a91bd2423d7c21bddd418286bbcbb4cd4d7b371c77b9795cde01d00508bd", func := "darkroom/darkroomlaw11.BmpOwn", spec := "bmpOwn", unfollowed := true, recurses := true, named := ["math/bits.deBruijn32tab"], apart := false, laid := [("math/bits.deBruijn32tab", laid_math_bits_deBruijn32tab)], narrowed := true }
def BmpOwnUptoSaid : Prop := bmpOwnUptoRow.holds Tryd.pinned (OpenSpec.upto bmpOwnSpec)

end Rows
end Go.Proofs.YtjdljddfiddnoaaDoor
