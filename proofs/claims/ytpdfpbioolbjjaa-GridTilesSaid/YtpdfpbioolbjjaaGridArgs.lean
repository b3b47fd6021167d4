/- What the laws of grid are handed. -/
import Derived.Test.YtpdfpbioolbjjaaGrid2
import Derived.Test.YtpdfpbioolbjjaaVcS
import Derived.Test.YtpdfpbioolbjjaaRows
namespace Go.Proofs.Ytpdfpbioolbjjaa
open Go Go.Vc Go.RowKit Go.ChangeShapes Go.WideShapes Go.Joins
set_option maxRecDepth 100000
set_option linter.unusedVariables false

theorem own_ : ownKnob Try.prog.godebug = none := by kernel_rfl
theorem laidOut : laidOutB Try.prog = true := by kernel_rfl
theorem cells24 : Try.prog.cellsOf 24 = 3 := by kernel_rfl
theorem bytes3 : Try.prog.bytesOf 3 = 8 := by kernel_rfl
/-- what a law of grid is told of cells that it is handed -/
structure CellsOk (W : World) (wd ht : Int) (b : Option Addr) (len cap : Nat) (xs : List Int) : Prop where
  long : len = xs.length
  sl : Sl W.heap.size W b (ints xs)
  bytes : len * 8 ≤ 2 ^ 47
  wide : (Lit.int .i64 wd).wf = true
  high : (Lit.int .i64 ht).wf = true
  fit : ∀ n ∈ xs, (Lit.int .i64 n).wf = true
  room : len ≤ cap
theorem open_Cells {H : Type} {enc : TypeId × Value → H} {W : World} {base : Nat} {v : Value} {d : DataW H} {p : List MemPlace} (hv : Value.okWide Try.prog W .any base 24 v) (h : DataW.Trod enc Try.prog W 0 (fun _ => true) true 24 v d p)
    (hw : ∀ n ∈ d.weights Try.prog 24, n ≤ reachBytes) :
    ∃ (wd ht : Int) (b : Option Addr) (len cap : Nat) (xs : List Int), v = .agg #[i64 wd, i64 ht, .slice b len cap] ∧ CellsOk W wd ht b len cap xs := by
  obtain ⟨c0, c1, c2, y0, y1, y2, m, rfl, rfl, rfl, hy0, hy1, hy2⟩ := open_agg3 Try.underlying24 (by kernel_rfl) cells24 hv h
  obtain ⟨x, e0, rfl, wx⟩ := DataW.trod_int Try.underlying3 hy0
  obtain ⟨y, e1, rfl, wy⟩ := DataW.trod_int Try.underlying3 hy1
  simp only [List.cons.injEq, and_true] at e0 e1
  subst e0; subst e1
  obtain ⟨b, len, cap, xs, rfl, h1, h2, h3, h4, h5⟩ := cell_ints Try.underlying22 Try.underlying3 (by kernel_rfl) hy2
  have h6 := h5.weight Try.underlying22 fun n hn => hw n (by simp [DataW.weights, Try.underlying24, DataW.weightsEach, hn])
  rw [bytes3] at h6
  refine ⟨x, y, b, len, cap, xs, rfl, h1, h3, ?_, wx, wy, h4, h2⟩
  have : reachBytes < 2 ^ 47 := by decide
  omega
theorem cells53 : Try.prog.cellsOf 53 = 4 := by kernel_rfl
def RectOk (x y w h : Int) : Prop := (Lit.int .i64 x).wf = true ∧ (Lit.int .i64 y).wf = true ∧ (Lit.int .i64 w).wf = true ∧ (Lit.int .i64 h).wf = true
theorem open_Rect {H : Type} {enc : TypeId × Value → H} {W : World} {base : Nat} {v : Value} {d : DataW H} {p : List MemPlace} (hv : Value.okWide Try.prog W .any base 53 v) (h : DataW.Trod enc Try.prog W 0 (fun _ => true) true 53 v d p)
    (hw : ∀ n ∈ d.weights Try.prog 53, n ≤ reachBytes) :
    ∃ (x y w h : Int), v = .agg #[i64 x, i64 y, i64 w, i64 h] ∧ RectOk x y w h := by
  obtain ⟨c0, c1, c2, c3, y0, y1, y2, y3, m, rfl, rfl, rfl, hy0, hy1, hy2, hy3⟩ := open_agg4 Try.underlying53 (by kernel_rfl) cells53 hv h
  obtain ⟨x0, e0, rfl, wx⟩ := DataW.trod_int Try.underlying3 hy0
  obtain ⟨x1, e1, rfl, wy⟩ := DataW.trod_int Try.underlying3 hy1
  obtain ⟨x2, e2, rfl, wz⟩ := DataW.trod_int Try.underlying3 hy2
  obtain ⟨x3, e3, rfl, wu⟩ := DataW.trod_int Try.underlying3 hy3
  simp only [List.cons.injEq, and_true] at e0 e1 e2 e3
  subst e0; subst e1; subst e2; subst e3
  exact ⟨x0, x1, x2, x3, rfl, wx, wy, wz, wu⟩
theorem cells47 : Try.prog.cellsOf 47 = 2 := by kernel_rfl
theorem open_arr47 {H : Type} {enc : TypeId × Value → H} {W : World} {base : Nat} {v : Value} {d : DataW H} {p : List MemPlace} (hv : Value.okWide Try.prog W .any base 47 v) (h : DataW.Trod enc Try.prog W 0 (fun _ => true) true 47 v d p)
    (hw : ∀ n ∈ d.weights Try.prog 47, n ≤ reachBytes) :
    ∃ (a b : Int), v = .agg #[i64 a, i64 b] ∧ (Lit.int .i64 a).wf = true ∧ (Lit.int .i64 b).wf = true := by
  obtain ⟨cs, rfl, hsz⟩ := okWide_arr Try.underlying47 hv
  obtain ⟨fuel, hf⟩ := h
  rw [cells47] at hsz
  obtain ⟨cs⟩ := cs
  match cs, hsz with
  | [c0, c1], _ =>
    obtain ⟨_, _, e0⟩ := trod_elems Try.underlying47 (by kernel_rfl) hf 0 c0 (by omega) rfl
    obtain ⟨_, _, e1⟩ := trod_elems Try.underlying47 (by kernel_rfl) hf 1 c1 (by omega) rfl
    obtain ⟨x0, k0, _, w0⟩ := DataW.trod_int Try.underlying3 e0
    obtain ⟨x1, k1, _, w1⟩ := DataW.trod_int Try.underlying3 e1
    simp only [List.cons.injEq, and_true] at k0 k1
    subst k0; subst k1
    exact ⟨x0, x1, rfl, w0, w1⟩
end Go.Proofs.Ytpdfpbioolbjjaa
