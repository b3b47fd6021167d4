/- GifOwn: for all bytes and images within the bounds of the given statement, the law answers true: what is handed in stays, what is answered is new memory. -/
import Derived.Test.YtiiaihiliimcoaaGreatRPO10
namespace Go.Proofs.YtiiaihiliimcoaaGreat
open Go Go.Vc Go.RowKit Go.ChangeShapes Go.WideShapes Go.Joins Go.ChangeAt Go.ChangeMaps
set_option maxRecDepth 100000
set_option linter.unusedVariables false

theorem gifOwn_lifted (os : Os) (started : os.Started) (H : Type) (enc : TypeId × Value → H) :
    ReturnsInHanded {} Tryz.checked os 5 .any (Rows.gifOwnSpec.pre6 enc Tryz.prog Tryz.f5 Rows.gifOwnRow.domain false) (Rows.gifOwnSpec.post enc Tryz.prog Tryz.f5 false true false false) := by
  refine law_lifted (C := Tryz.checked) (tb := 4) own_ started (by kernel_rfl) Tryz.func5 laidOut (by kernel_rfl) rfl Tryz.underlying4 rfl (fun ds h => ?_)
    (ChangeSpec.witness6 (enc := enc) (C := Tryz.checked) false ⟨#[], #[.slice none 0 0, .agg #[.int .i64 0, .int .i64 0, .slice none 0 0]], []⟩ 8 (by kernel_rfl) (by kernel_rfl) (by kernel_rfl) (by kernel_rfl)) ?_
  · match ds, h with
    | [_, _], _ => rfl
  · intro W base args ds p hval hA hsz
    rw [Tryz.params5] at hA hval hsz
    obtain ⟨v0, vs0, d0, ds0, p0, q0, hargs, rfl, rfl, h0, r0⟩ := trodAll_cons hA
    obtain ⟨v1, vs1, d1, ds1, p1, q1, rfl, rfl, rfl, h1, r1⟩ := trodAll_cons r0
    obtain ⟨rfl, rfl, rfl⟩ := trodAll_nil r1
    obtain rfl : args = #[v0, v1] := by cases args; simp_all
    obtain ⟨b0, len0, cap0, xs0, rfl, f0⟩ := open_ints22 (hval 0 22 v0 rfl rfl) h0 (weights_of hsz (j := 0) rfl rfl)
    obtain ⟨wd1, ht1, b1, len1, cap1, xs1, rfl, f1⟩ := open_Image (hval 1 26 v1 rfl rfl) h1 (weights_of hsz (j := 1) rfl rfl)
    exact own_walk f0 f1 fun w' hE => ⟨rfl, hE⟩
theorem gifOwn_said : Rows.GifOwnSaid :=
  OpenClaim.holds_of_wide 5 Tryz.f5 rfl rfl rfl rfl rfl rfl rfl ⟨rfl, rfl, rfl, rfl, rfl⟩ rfl rfl rfl rfl rfl (by kernel_rfl) Tryz.func5 (by kernel_rfl)
    (of_decide_eq_true (by kernel_rfl)) (by unfold Func.isWrapper; first | (rw [if_pos (by decide +kernel)]; kernel_rfl) | (rw [if_neg (by decide +kernel)]; exact ⟨rfl, rfl⟩))
    (fun os started H enc _ => gifOwn_lifted os started H enc)
#print axioms gifOwn_said
end Go.Proofs.YtiiaihiliimcoaaGreat
