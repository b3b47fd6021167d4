/- InflateStored: whatever it is handed, it answers true, and all that was handed in reads as before. -/
import Derived.Test.YthfnohbpdoklgaaIArgs
import Derived.Test.YthfnohbpdoklgaaIL4
namespace Go.Proofs.Ythfnohbpdoklgaa
open Go Go.Vc Go.RowKit Go.ChangeShapes Go.WideShapes Go.Joins Go.ChangeAt Go.ChangeMaps
set_option maxRecDepth 100000
set_option linter.unusedVariables false

theorem inflateStored_lifted (os : Os) (started : os.Started) (H : Type) (enc : TypeId × Value → H) :
    ReturnsInHanded {} Try.checked os 5 .any (Rows.inflateStoredSpec.pre6 enc Try.prog Try.f5 Rows.inflateStoredRow.domain false) (Rows.inflateStoredSpec.post enc Try.prog Try.f5 false true false false) := by
  refine law_lifted (C := Try.checked) (tb := 4) own_ started (by kernel_rfl) Try.func5 laidOut (by kernel_rfl) rfl Try.underlying4 rfl (fun ds h => ?_)
    (ChangeSpec.witness6 (enc := enc) (C := Try.checked) false ⟨#[], #[.slice none 0 0, .slice none 0 0], []⟩ 8 (by kernel_rfl) (by kernel_rfl) (by kernel_rfl) (by kernel_rfl)) ?_
  · match ds, h with
    | [_, _], _ => rfl
  · intro W base args ds p hval hA hsz
    rw [Try.params5] at hA hval hsz
    obtain ⟨v0, vs0, d0, ds0, p0, q0, hargs, rfl, rfl, h0, r0⟩ := trodAll_cons hA
    obtain ⟨v1, vs1, d1, ds1, p1, q1, rfl, rfl, rfl, h1, r1⟩ := trodAll_cons r0
    obtain ⟨rfl, rfl, rfl⟩ := trodAll_nil r1
    obtain rfl : args = #[v0, v1] := by cases args; simp_all
    obtain ⟨b0, len0, cap0, xs0, rfl, f0⟩ := open_ints22 (hval 0 22 v0 rfl rfl) h0 (weights_of hsz (j := 0) rfl rfl)
    obtain ⟨b1, len1, cap1, xs1, rfl, f1⟩ := open_ints36 (hval 1 36 v1 rfl rfl) h1 (weights_of hsz (j := 1) rfl rfl)
    exact stored_walk f0 f1 fun w' hE => ⟨rfl, hE⟩
theorem inflateStored_said : Rows.InflateStoredSaid :=
  OpenClaim.holds_of_wide 5 Try.f5 rfl rfl rfl rfl rfl rfl rfl ⟨rfl, rfl, rfl, rfl, rfl⟩ rfl rfl rfl rfl rfl (by kernel_rfl) Try.func5 (by kernel_rfl)
    (of_decide_eq_true (by kernel_rfl)) (by unfold Func.isWrapper; first | (rw [if_pos (by decide +kernel)]; kernel_rfl) | (rw [if_neg (by decide +kernel)]; exact ⟨rfl, rfl⟩))
    (fun os started H enc _ => inflateStored_lifted os started H enc)
#print axioms inflateStored_said
end Go.Proofs.Ythfnohbpdoklgaa
