/- GifBehind: for all images, places and bytes within the bounds of the given statement, the law answers true: what stands behind the first picture isn't looked at, what is cut off within it is. -/
import Derived.Test.YtiiaihiliimcoaaGreatRPB10
set_option linter.unusedVariables false
namespace Go.Proofs.YtiiaihiliimcoaaGreat
open Go Go.Vc Go.RowKit Go.ChangeShapes Go.WideShapes Go.Joins Go.ChangeAt Go.ChangeMaps
set_option maxRecDepth 100000
theorem gifBehind_lifted (os : Os) (started : os.Started) (H : Type) (enc : TypeId × Value → H) :
    ReturnsInHanded {} Tryz.checked os 4 .any (Rows.gifBehindSpec.pre6 enc Tryz.prog Tryz.f4 Rows.gifBehindRow.domain false) (Rows.gifBehindSpec.post enc Tryz.prog Tryz.f4 false true false false) := by
  refine law_lifted (C := Tryz.checked) (tb := 4) own_ started (by kernel_rfl) Tryz.func4 laidOut (by kernel_rfl) rfl Tryz.underlying4 rfl (fun ds h => ?_)
    (ChangeSpec.witness6 (enc := enc) (C := Tryz.checked) false ⟨#[], #[.agg #[.int .i64 0, .int .i64 0, .slice none 0 0], .int .i64 0, .slice none 0 0], []⟩ 8 (by kernel_rfl) (by kernel_rfl) (by kernel_rfl) (by kernel_rfl)) ?_
  · match ds, h with
    | [_, _, _], _ => rfl
  · intro W base args ds p hval hA hsz
    rw [Tryz.params4] at hA hval hsz
    obtain ⟨v0, vs0, d0, ds0, p0, q0, hargs, rfl, rfl, h0, r0⟩ := trodAll_cons hA
    obtain ⟨v1, vs1, d1, ds1, p1, q1, rfl, rfl, rfl, h1, r1⟩ := trodAll_cons r0
    obtain ⟨v2, vs2, d2, ds2, p2, q2, rfl, rfl, rfl, h2, r2⟩ := trodAll_cons r1
    obtain ⟨rfl, rfl, rfl⟩ := trodAll_nil r2
    obtain rfl : args = #[v0, v1, v2] := by cases args; simp_all
    obtain ⟨wd0, ht0, b0, len0, cap0, xs0, rfl, f0⟩ := open_Image (hval 0 26 v0 rfl rfl) h0 (weights_of hsz (j := 0) rfl rfl)
    obtain ⟨a1, rfl, rfl, rfl, w1⟩ := open_int Tryz.underlying3 (hval 1 3 v1 rfl rfl) h1
    obtain ⟨b2, len2, cap2, xs2, rfl, f2⟩ := open_ints22 (hval 2 22 v2 rfl rfl) h2 (weights_of hsz (j := 2) rfl rfl)
    exact behind_walk f0 w1 f2 fun w' hE => ⟨rfl, hE⟩
theorem gifBehind_said : Rows.GifBehindSaid :=
  OpenClaim.holds_of_wide 4 Tryz.f4 rfl rfl rfl rfl rfl rfl rfl ⟨rfl, rfl, rfl, rfl, rfl⟩ rfl rfl rfl rfl rfl (by kernel_rfl) Tryz.func4 (by kernel_rfl)
    (of_decide_eq_true (by kernel_rfl)) (by unfold Func.isWrapper; first | (rw [if_pos (by decide +kernel)]; kernel_rfl) | (rw [if_neg (by decide +kernel)]; exact ⟨rfl, rfl⟩))
    (fun os started H enc _ => gifBehind_lifted os started H enc)
#print axioms gifBehind_said
end Go.Proofs.YtiiaihiliimcoaaGreat
