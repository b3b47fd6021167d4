/- BitsStuffs: where what the law is handed is of bulk at most 1048576, it answers true, and all that was handed in reads as before. The condition: that bulk. -/
import Derived.Test.YtlmnooodinfifaaBitsArgs
import Derived.Test.YtlmnooodinfifaaBitsL1
namespace Go.Proofs.Ytlmnooodinfifaa
open Go Go.Vc Go.RowKit Go.ChangeShapes Go.WideShapes Go.Joins Go.ChangeAt Go.ChangeMaps
set_option maxRecDepth 100000
set_option linter.unusedVariables false

theorem bitsStuffs_lifted (os : Os) (started : os.Started) (H : Type) (enc : TypeId × Value → H) (Fi : Stop.Interp) :
    ReturnsInHanded {} Try.checked os 7 .any ((Rows.OpenSpec.upto Rows.bitsStuffsSpec).pre6 enc Try.prog Try.f7 Rows.bitsStuffsUptoRow.domain false) (((Rows.OpenSpec.upto Rows.bitsStuffsSpec).at Fi).post enc Try.prog Try.f7 false true false false) := by
  refine law_upto (C := Try.checked) (tb := 4) (F := Fi) own_ started (by kernel_rfl) Try.func7 laidOut (by kernel_rfl) rfl Try.underlying4 rfl (fun ds h => ?_)
    (OpenSpec.witness (enc := enc) (C := Try.checked) (s := Rows.OpenSpec.upto Rows.bitsStuffsSpec) (k := Rows.uptoSmall) rfl false ⟨#[], #[.slice none 0 0], []⟩ 8 (by kernel_rfl) (by kernel_rfl) (by kernel_rfl) (x := ([.nil], [], [])) (by kernel_rfl) rfl (by kernel_rfl)) ?_
  · match ds, h with
    | [_], _ => rfl
  · intro W base args ds p hval hA hsz
    rw [Try.params7] at hA hval
    obtain ⟨v0, vs0, d0, ds0, p0, q0, hargs, rfl, rfl, h0, r0⟩ := trodAll_cons hA
    obtain ⟨rfl, rfl, rfl⟩ := trodAll_nil r0
    obtain rfl : args = #[v0] := by cases args; simp_all
    obtain ⟨b0, len0, cap0, xs0, rfl, f0⟩ := open_uints26 (hval 0 26 v0 rfl rfl) h0 (Nat.le_trans (bulk_part (d := d0) (by simp)) hsz)
    exact stuffs_walk f0 fun w' hE => ⟨rfl, hE⟩
theorem bitsStuffs_upto : Rows.BitsStuffsUptoSaid :=
  OpenClaim.holds_of_cond 7 Try.f7 rfl rfl rfl rfl rfl rfl rfl ⟨rfl, rfl, rfl, rfl, rfl⟩ rfl rfl rfl rfl rfl (by kernel_rfl) Try.func7 (by kernel_rfl)
    (of_decide_eq_true (by kernel_rfl)) (by unfold Func.isWrapper; first | (rw [if_pos (by decide +kernel)]; kernel_rfl) | (rw [if_neg (by decide +kernel)]; exact ⟨rfl, rfl⟩))
    (fun os started H enc _ Fi => bitsStuffs_lifted os started H enc Fi)
#print axioms bitsStuffs_upto
end Go.Proofs.Ytlmnooodinfifaa
