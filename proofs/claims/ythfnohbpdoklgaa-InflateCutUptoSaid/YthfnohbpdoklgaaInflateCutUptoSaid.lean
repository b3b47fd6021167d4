/- InflateCut: where what the law is handed is of bulk at most 1048576, it answers true, and all that was handed in reads as before. The condition: that bulk. -/
import Derived.Test.YthfnohbpdoklgaaIArgs
import Derived.Test.YthfnohbpdoklgaaIL3
namespace Go.Proofs.Ythfnohbpdoklgaa
open Go Go.Vc Go.RowKit Go.ChangeShapes Go.WideShapes Go.Joins Go.ChangeAt Go.ChangeMaps
set_option maxRecDepth 100000
set_option linter.unusedVariables false

theorem inflateCut_lifted (os : Os) (started : os.Started) (H : Type) (enc : TypeId × Value → H) (Fi : Stop.Interp) :
    ReturnsInHanded {} Try.checked os 6 .any ((Rows.OpenSpec.upto Rows.inflateCutSpec).pre6 enc Try.prog Try.f6 Rows.inflateCutUptoRow.domain false) (((Rows.OpenSpec.upto Rows.inflateCutSpec).at Fi).post enc Try.prog Try.f6 false true false false) := by
  refine law_upto (C := Try.checked) (tb := 4) (F := Fi) own_ started (by kernel_rfl) Try.func6 laidOut (by kernel_rfl) rfl Try.underlying4 rfl (fun ds h => ?_)
    (OpenSpec.witness (enc := enc) (C := Try.checked) (s := Rows.OpenSpec.upto Rows.inflateCutSpec) (k := Rows.uptoSmall) rfl false ⟨#[], #[.slice none 0 0, .int .i64 0, .slice none 0 0], []⟩ 8 (by kernel_rfl) (by kernel_rfl) (by kernel_rfl) (x := ([.nil, .lit (.int .i64 0), .nil], [], [])) (by kernel_rfl) rfl (by kernel_rfl)) ?_
  · match ds, h with
    | [_, _, _], _ => rfl
  · intro W base args ds p hval hA hsz
    rw [Try.params6] at hA hval
    obtain ⟨v0, vs0, d0, ds0, p0, q0, hargs, rfl, rfl, h0, r0⟩ := trodAll_cons hA
    obtain ⟨v1, vs1, d1, ds1, p1, q1, rfl, rfl, rfl, h1, r1⟩ := trodAll_cons r0
    obtain ⟨v2, vs2, d2, ds2, p2, q2, rfl, rfl, rfl, h2, r2⟩ := trodAll_cons r1
    obtain ⟨rfl, rfl, rfl⟩ := trodAll_nil r2
    obtain rfl : args = #[v0, v1, v2] := by cases args; simp_all
    obtain ⟨b0, len0, cap0, xs0, rfl, f0⟩ := open_uints22 (hval 0 22 v0 rfl rfl) h0 (Nat.le_trans (bulk_part (d := d0) (by simp)) hsz)
    obtain ⟨a1, rfl, rfl, rfl, w1⟩ := open_int Try.underlying3 (hval 1 3 v1 rfl rfl) h1
    obtain ⟨b2, len2, cap2, xs2, rfl, f2⟩ := open_uints22 (hval 2 22 v2 rfl rfl) h2 (Nat.le_trans (bulk_part (d := d2) (by simp)) hsz)
    exact cut_walk f0 w1 f2 fun w' hE => ⟨rfl, hE⟩
theorem inflateCut_upto : Rows.InflateCutUptoSaid :=
  OpenClaim.holds_of_cond 6 Try.f6 rfl rfl rfl rfl rfl rfl rfl ⟨rfl, rfl, rfl, rfl, rfl⟩ rfl rfl rfl rfl rfl (by kernel_rfl) Try.func6 (by kernel_rfl)
    (of_decide_eq_true (by kernel_rfl)) (by unfold Func.isWrapper; first | (rw [if_pos (by decide +kernel)]; kernel_rfl) | (rw [if_neg (by decide +kernel)]; exact ⟨rfl, rfl⟩))
    (fun os started H enc _ Fi => inflateCut_lifted os started H enc Fi)
#print axioms inflateCut_upto
end Go.Proofs.Ythfnohbpdoklgaa
