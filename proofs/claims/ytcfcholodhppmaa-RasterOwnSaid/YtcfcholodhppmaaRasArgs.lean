/- What the laws of raster are handed. -/
import Derived.Test.YtcfcholodhppmaaRas8
import Derived.Test.YtcfcholodhppmaaRows
namespace Go.Proofs.Ytcfcholodhppmaa
open Go Go.Vc Go.RowKit Go.ChangeShapes Go.WideShapes Go.Joins
set_option maxRecDepth 100000
set_option linter.unusedVariables false

theorem own_ : ownKnob Try.prog.godebug = none := by kernel_rfl
theorem laidOut : laidOutB Try.prog = true := by kernel_rfl
theorem cells28 : Try.prog.cellsOf 28 = 3 := by kernel_rfl
theorem bytes22 : Try.prog.bytesOf 22 = 2 := by kernel_rfl
/-- what a law is told of an image that it is handed -/
structure ImgOk (W : World) (wd ht : Int) (b : Option Addr) (len cap : Nat) (xs : List Int) : Prop where
  img : Img W b len xs
  bytes : len * 2 ≤ reachBytes
  wide : (Lit.int .i64 wd).wf = true
  high : (Lit.int .i64 ht).wf = true
  fit : ∀ n ∈ xs, (Lit.int .u16 n).wf = true
  room : len ≤ cap
theorem ImgOk.sz {W : World} {wd ht : Int} {b : Option Addr} {len cap : Nat} {xs : List Int} (h : ImgOk W wd ht b len cap xs) : len * 2 ≤ 2 ^ 47 := by
  have := h.bytes
  have : reachBytes < 2 ^ 47 := by decide
  omega
theorem ImgOk.sz1 {W : World} {wd ht : Int} {b : Option Addr} {len cap : Nat} {xs : List Int} (h : ImgOk W wd ht b len cap xs) : (len + 1) * 2 ≤ 2 ^ 47 := by
  have := h.bytes
  have : reachBytes + 2 ≤ 2 ^ 47 := by decide
  omega
theorem open_Image {H : Type} {enc : TypeId × Value → H} {W : World} {base : Nat} {v : Value} {d : DataW H} {p : List MemPlace} (hv : Value.okWide Try.prog W .any base 28 v) (h : DataW.Trod enc Try.prog W 0 (fun _ => true) true 28 v d p)
    (hw : ∀ n ∈ d.weights Try.prog 28, n ≤ reachBytes) :
    ∃ (wd ht : Int) (b : Option Addr) (len cap : Nat) (xs : List Int), v = .agg #[i64 wd, i64 ht, .slice b len cap] ∧ ImgOk W wd ht b len cap xs := by
  obtain ⟨c0, c1, c2, y0, y1, y2, m, rfl, rfl, rfl, hy0, hy1, hy2⟩ := open_agg3 Try.underlying28 (by kernel_rfl) cells28 hv h
  obtain ⟨x, e0, rfl, wx⟩ := DataW.trod_int Try.underlying3 hy0
  obtain ⟨y, e1, rfl, wy⟩ := DataW.trod_int Try.underlying3 hy1
  simp only [List.cons.injEq, and_true] at e0 e1
  subst e0; subst e1
  obtain ⟨b, len, cap, xs, rfl, h1, h2, h3, h4, h5⟩ := cell_ints Try.underlying26 Try.underlying22 (by kernel_rfl) hy2
  have h6 := h5.weight Try.underlying26 fun n hn => hw n (by simp [DataW.weights, Try.underlying28, DataW.weightsEach, hn])
  rw [bytes22] at h6
  exact ⟨x, y, b, len, cap, xs, rfl, ⟨⟨h3, h1⟩, h6, wx, wy, h4, h2⟩⟩
theorem cells47 : Try.prog.cellsOf 47 = 4 := by kernel_rfl
def RectOk (x y w h : Int) : Prop := (Lit.int .i64 x).wf = true ∧ (Lit.int .i64 y).wf = true ∧ (Lit.int .i64 w).wf = true ∧ (Lit.int .i64 h).wf = true
theorem open_Rect {H : Type} {enc : TypeId × Value → H} {W : World} {base : Nat} {v : Value} {d : DataW H} {p : List MemPlace} (hv : Value.okWide Try.prog W .any base 47 v) (h : DataW.Trod enc Try.prog W 0 (fun _ => true) true 47 v d p)
    (hw : ∀ n ∈ d.weights Try.prog 47, n ≤ reachBytes) :
    ∃ (x y w h : Int), v = .agg #[i64 x, i64 y, i64 w, i64 h] ∧ RectOk x y w h := by
  obtain ⟨c0, c1, c2, c3, y0, y1, y2, y3, m, rfl, rfl, rfl, hy0, hy1, hy2, hy3⟩ := open_agg4 Try.underlying47 (by kernel_rfl) cells47 hv h
  obtain ⟨x0, e0, rfl, wx⟩ := DataW.trod_int Try.underlying3 hy0
  obtain ⟨x1, e1, rfl, wy⟩ := DataW.trod_int Try.underlying3 hy1
  obtain ⟨x2, e2, rfl, wz⟩ := DataW.trod_int Try.underlying3 hy2
  obtain ⟨x3, e3, rfl, wu⟩ := DataW.trod_int Try.underlying3 hy3
  simp only [List.cons.injEq, and_true] at e0 e1 e2 e3
  subst e0; subst e1; subst e2; subst e3
  exact ⟨x0, x1, x2, x3, rfl, wx, wy, wz, wu⟩
theorem cells24 : Try.prog.cellsOf 24 = 4 := by kernel_rfl
theorem open_Color {H : Type} {enc : TypeId × Value → H} {W : World} {base : Nat} {v : Value} {d : DataW H} {p : List MemPlace} (hv : Value.okWide Try.prog W .any base 24 v) (h : DataW.Trod enc Try.prog W 0 (fun _ => true) true 24 v d p)
    (hw : ∀ n ∈ d.weights Try.prog 24, n ≤ reachBytes) :
    ∃ (x y w h : Int), v = .agg #[u16 x, u16 y, u16 w, u16 h] ∧ True := by
  obtain ⟨c0, c1, c2, c3, y0, y1, y2, y3, m, rfl, rfl, rfl, hy0, hy1, hy2, hy3⟩ := open_agg4 Try.underlying24 (by kernel_rfl) cells24 hv h
  obtain ⟨x0, e0, rfl, wx⟩ := DataW.trod_int Try.underlying22 hy0
  obtain ⟨x1, e1, rfl, wy⟩ := DataW.trod_int Try.underlying22 hy1
  obtain ⟨x2, e2, rfl, wz⟩ := DataW.trod_int Try.underlying22 hy2
  obtain ⟨x3, e3, rfl, wu⟩ := DataW.trod_int Try.underlying22 hy3
  simp only [List.cons.injEq, and_true] at e0 e1 e2 e3
  subst e0; subst e1; subst e2; subst e3
  exact ⟨x0, x1, x2, x3, rfl, trivial⟩
theorem cells42 : Try.prog.cellsOf 42 = 2 := by kernel_rfl
theorem open_Point {H : Type} {enc : TypeId × Value → H} {W : World} {base : Nat} {v : Value} {d : DataW H} {p : List MemPlace} (hv : Value.okWide Try.prog W .any base 42 v) (h : DataW.Trod enc Try.prog W 0 (fun _ => true) true 42 v d p)
    (hw : ∀ n ∈ d.weights Try.prog 42, n ≤ reachBytes) :
    ∃ (x y : Int), v = .agg #[i64 x, i64 y] ∧ True := by
  obtain ⟨c0, c1, y0, y1, m, rfl, rfl, rfl, hy0, hy1⟩ := open_agg2 Try.underlying42 (by kernel_rfl) cells42 hv h
  obtain ⟨x0, e0, rfl, wx⟩ := DataW.trod_int Try.underlying3 hy0
  obtain ⟨x1, e1, rfl, wy⟩ := DataW.trod_int Try.underlying3 hy1
  simp only [List.cons.injEq, and_true] at e0 e1
  subst e0; subst e1
  exact ⟨x0, x1, rfl, trivial⟩
end Go.Proofs.Ytcfcholodhppmaa
