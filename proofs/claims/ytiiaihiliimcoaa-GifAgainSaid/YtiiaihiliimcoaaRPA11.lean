/- GifAgain: for all bytes within the bounds of the given statement, the law answers true: what was read, written and read again is the same image, or one that the document allows. -/
import Derived.Test.YtiiaihiliimcoaaRPA9
import Derived.Test.YtiiaihiliimcoaaRPA10
set_option linter.unusedVariables false
namespace Go.Proofs.Ytiiaihiliimcoaa
open Go Go.Vc Go.RowKit Go.ChangeShapes Go.WideShapes Go.Joins Go.ChangeAt Go.ChangeMaps
set_option maxRecDepth 100000
theorem gifAgain_lifted (os : Os) (started : os.Started) (H : Type) (enc : TypeId × Value → H) :
    ReturnsInHanded {} Try.checked os 3 .any (Rows.gifAgainSpec.pre6 enc Try.prog Try.f3 Rows.gifAgainRow.domain false) (Rows.gifAgainSpec.post enc Try.prog Try.f3 false true false false) := by
  refine law_lifted (C := Try.checked) (tb := 4) own_ started (by kernel_rfl) Try.func3 laidOut (by kernel_rfl) rfl Try.underlying4 rfl (fun ds h => ?_)
    (ChangeSpec.witness6 (enc := enc) (C := Try.checked) false ⟨#[], #[.slice none 0 0], []⟩ 8 (by kernel_rfl) (by kernel_rfl) (by kernel_rfl) (by kernel_rfl)) ?_
  · match ds, h with
    | [_], _ => rfl
  · intro W base args ds p hval hA hsz
    rw [Try.params3] at hA hval hsz
    obtain ⟨v0, vs0, d0, ds0, p0, q0, hargs, rfl, rfl, h0, r0⟩ := trodAll_cons hA
    obtain ⟨rfl, rfl, rfl⟩ := trodAll_nil r0
    obtain rfl : args = #[v0] := by cases args; simp_all
    obtain ⟨b0, len0, cap0, xs0, rfl, f0⟩ := open_ints22 (hval 0 22 v0 rfl rfl) h0 (weights_of hsz (j := 0) rfl rfl)
    exact again_walk f0 fun w' hE => ⟨rfl, hE⟩
theorem gifAgain_said : Rows.GifAgainSaid :=
  OpenClaim.holds_of_wide 3 Try.f3 rfl rfl rfl rfl rfl rfl rfl ⟨rfl, rfl, rfl, rfl, rfl⟩ rfl rfl rfl rfl rfl (by kernel_rfl) Try.func3 (by kernel_rfl)
    (of_decide_eq_true (by kernel_rfl)) (by unfold Func.isWrapper; first | (rw [if_pos (by decide +kernel)]; kernel_rfl) | (rw [if_neg (by decide +kernel)]; exact ⟨rfl, rfl⟩))
    (fun os started H enc _ => gifAgain_lifted os started H enc)
#print axioms gifAgain_said
end Go.Proofs.Ytiiaihiliimcoaa
