/- What the laws of grid are handed. -/
import Derived.Test.YtpdfpbioolbjjaaGrid2
import Derived.Test.YtpdfpbioolbjjaaVcS
import Derived.Test.YtpdfpbioolbjjaaRows
namespace Go.Proofs.Ytpdfpbioolbjjaa
open Go Go.Vc Go.RowKit Go.ChangeShapes Go.WideShapes Go.Joins
set_option maxRecDepth 100000
set_option linter.unusedVariables false

theorem own_ : ownKnob Try.prog.godebug = none := by kernel_rfl
theorem laidOut : laidOutB Try.prog = true := by kernel_rfl
theorem cells24 : Try.prog.cellsOf 24 = 3 := by kernel_rfl
theorem bytes3 : Try.prog.bytesOf 3 = 8 := by kernel_rfl
theorem open_Cells {H : Type} {enc : TypeId × Value → H} {W : World} {base : Nat} {v : Value} {d : DataW H} {p : List MemPlace} (hv : Value.okWide Try.prog W .any base 24 v) (h : DataW.Trod enc Try.prog W 0 (fun _ => true) true 24 v d p)
    (hw : ∀ n ∈ d.weights Try.prog 24, n ≤ reachBytes) :
    ∃ (wd ht : Int) (b : Option Addr) (len cap : Nat) (xs : List Int), v = .agg #[i64 wd, i64 ht, .slice b len cap] ∧ len = xs.length ∧ Sl W.heap.size W b (ints xs) ∧ len * 8 ≤ 2 ^ 47 ∧
      (Lit.int .i64 wd).wf = true ∧ (Lit.int .i64 ht).wf = true ∧ (∀ n ∈ xs, (Lit.int .i64 n).wf = true) := by
  obtain ⟨c0, c1, c2, y0, y1, y2, m, rfl, rfl, rfl, hy0, hy1, hy2⟩ := open_agg3 Try.underlying24 (by kernel_rfl) cells24 hv h
  obtain ⟨x, e0, rfl, wx⟩ := DataW.trod_int Try.underlying3 hy0
  obtain ⟨y, e1, rfl, wy⟩ := DataW.trod_int Try.underlying3 hy1
  simp only [List.cons.injEq, and_true] at e0 e1
  subst e0; subst e1
  obtain ⟨b, len, cap, xs, rfl, h1, h2, h3, h4, h5⟩ := cell_ints Try.underlying22 Try.underlying3 (by kernel_rfl) hy2
  have h6 := h5 fun n hn => hw n (by simp [DataW.weights, Try.underlying24, DataW.weightsEach, hn])
  rw [bytes3] at h6
  refine ⟨x, y, b, len, cap, xs, rfl, h1, h3, ?_, wx, wy, h4⟩
  have : reachBytes < 2 ^ 47 := by decide
  omega
end Go.Proofs.Ytpdfpbioolbjjaa
