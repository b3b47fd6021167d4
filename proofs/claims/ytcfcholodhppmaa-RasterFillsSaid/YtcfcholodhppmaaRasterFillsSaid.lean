/- RasterFills: whatever the law is handed, it answers true, and all that was handed in reads as before. No condition. -/
import Derived.Test.YtcfcholodhppmaaRasArgs
import Derived.Test.YtcfcholodhppmaaRasL1
namespace Go.Proofs.Ytcfcholodhppmaa
open Go Go.Vc Go.RowKit Go.ChangeShapes Go.WideShapes Go.Joins Go.ChangeAt Go.ChangeMaps
set_option maxRecDepth 100000
set_option linter.unusedVariables false

theorem rasterFills_lifted (os : Os) (started : os.Started) (H : Type) (enc : TypeId × Value → H) :
    ReturnsInHanded {} Try.checked os 3 .any (Rows.rasterFillsSpec.pre6 enc Try.prog Try.f3 Rows.rasterFillsRow.domain false) (Rows.rasterFillsSpec.post enc Try.prog Try.f3 false true false false) := by
  refine law_lifted (C := Try.checked) (tb := 4) own_ started (by kernel_rfl) Try.func3 laidOut (by kernel_rfl) rfl Try.underlying4 rfl (fun ds h => ?_)
    (ChangeSpec.witness6 (enc := enc) (C := Try.checked) false ⟨#[], #[.int .i64 0, .int .i64 0, .agg #[.int .u16 0, .int .u16 0, .int .u16 0, .int .u16 0]], []⟩ 8 (by kernel_rfl) (by kernel_rfl) (by kernel_rfl) (by kernel_rfl)) ?_
  · match ds, h with
    | [_, _, _], _ => rfl
  · intro W base args ds p hval hA hsz
    rw [Try.params3] at hA hval hsz
    obtain ⟨v0, vs0, d0, ds0, p0, q0, hargs, rfl, rfl, h0, r0⟩ := trodAll_cons hA
    obtain ⟨v1, vs1, d1, ds1, p1, q1, rfl, rfl, rfl, h1, r1⟩ := trodAll_cons r0
    obtain ⟨v2, vs2, d2, ds2, p2, q2, rfl, rfl, rfl, h2, r2⟩ := trodAll_cons r1
    obtain ⟨rfl, rfl, rfl⟩ := trodAll_nil r2
    obtain rfl : args = #[v0, v1, v2] := by cases args; simp_all
    obtain ⟨a0, rfl, rfl, rfl, w0⟩ := open_int Try.underlying3 (hval 0 3 v0 rfl rfl) h0
    obtain ⟨a1, rfl, rfl, rfl, w1⟩ := open_int Try.underlying3 (hval 1 3 v1 rfl rfl) h1
    obtain ⟨ca2, cb2, cc2, cd2, rfl, f2⟩ := open_Color (hval 2 24 v2 rfl rfl) h2 (weights_of hsz (j := 2) rfl rfl)
    exact fills_walk w0 w1 f2 fun w' hE => ⟨rfl, hE⟩
theorem rasterFills_said : Rows.RasterFillsSaid :=
  OpenClaim.holds_of_wide 3 Try.f3 rfl rfl rfl rfl rfl rfl rfl ⟨rfl, rfl, rfl, rfl, rfl⟩ rfl rfl rfl rfl rfl (by kernel_rfl) Try.func3 (by kernel_rfl)
    (of_decide_eq_true (by kernel_rfl)) (by unfold Func.isWrapper; first | (rw [if_pos (by decide +kernel)]; kernel_rfl) | (rw [if_neg (by decide +kernel)]; exact ⟨rfl, rfl⟩))
    (fun os started H enc _ => rasterFills_lifted os started H enc)
#print axioms rasterFills_said
end Go.Proofs.Ytcfcholodhppmaa
