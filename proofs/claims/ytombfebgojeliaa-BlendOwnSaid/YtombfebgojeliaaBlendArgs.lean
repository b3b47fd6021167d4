/- What the laws of blend are handed. -/
import Derived.Test.YtombfebgojeliaaBW2
import Derived.Test.YtombfebgojeliaaRows
namespace Go.Proofs.Ytombfebgojeliaa
open Go Go.Vc Go.RowKit Go.ChangeShapes Go.WideShapes Go.Joins
set_option maxRecDepth 100000
set_option linter.unusedVariables false

theorem own_ : ownKnob Try.prog.godebug = none := by kernel_rfl
theorem laidOut : laidOutB Try.prog = true := by kernel_rfl
theorem cells40 : Try.prog.cellsOf 40 = 3 := by kernel_rfl
theorem bytes50 : Try.prog.bytesOf 50 = 2 := by kernel_rfl
theorem bytes3 : Try.prog.bytesOf 3 = 8 := by kernel_rfl
/-- what a law is told of an image that it is handed -/
structure ImgOk (W : World) (wd ht : Int) (b : Option Addr) (len cap : Nat) (xs : List Int) : Prop where
  img : Img W b len xs
  bytes : len * 2 ≤ reachBytes
  wide : (Lit.int .i64 wd).wf = true
  high : (Lit.int .i64 ht).wf = true
  fit : ∀ n ∈ xs, (Lit.int .u16 n).wf = true
  room : len ≤ cap
theorem ImgOk.sz {W : World} {wd ht : Int} {b : Option Addr} {len cap : Nat} {xs : List Int} (h : ImgOk W wd ht b len cap xs) : len * 2 ≤ 2 ^ 47 := by
  have := h.bytes
  have : reachBytes < 2 ^ 47 := by decide
  omega
theorem wfu16 {n : Int} (h : (Lit.int .u16 n).wf = true) : Sm n := by
  simp [Lit.wf, IntKind.min, IntKind.max, IntKind.signed, IntKind.bits] at h; exact h
theorem ImgOk.sm {W : World} {wd ht : Int} {b : Option Addr} {len cap : Nat} {xs : List Int} (h : ImgOk W wd ht b len cap xs) : SmL xs := fun n hn => wfu16 (h.fit n hn)
theorem open_Image {H : Type} {enc : TypeId × Value → H} {W : World} {base : Nat} {v : Value} {d : DataW H} {p : List MemPlace} (hv : Value.okWide Try.prog W .any base 40 v) (h : DataW.Trod enc Try.prog W 0 (fun _ => true) true 40 v d p)
    (hw : ∀ n ∈ d.weights Try.prog 40, n ≤ reachBytes) :
    ∃ (wd ht : Int) (b : Option Addr) (len cap : Nat) (xs : List Int), v = .agg #[i64 wd, i64 ht, .slice b len cap] ∧ ImgOk W wd ht b len cap xs := by
  obtain ⟨c0, c1, c2, y0, y1, y2, m, rfl, rfl, rfl, hy0, hy1, hy2⟩ := open_agg3 Try.underlying40 (by kernel_rfl) cells40 hv h
  obtain ⟨x, e0, rfl, wx⟩ := DataW.trod_int Try.underlying3 hy0
  obtain ⟨y, e1, rfl, wy⟩ := DataW.trod_int Try.underlying3 hy1
  simp only [List.cons.injEq, and_true] at e0 e1
  subst e0; subst e1
  obtain ⟨b, len, cap, xs, rfl, h1, h2, h3, h4, h5⟩ := cell_ints Try.underlying38 Try.underlying50 (by kernel_rfl) hy2
  have h6 := h5.weight Try.underlying38 fun n hn => hw n (by simp [DataW.weights, Try.underlying40, DataW.weightsEach, hn])
  rw [bytes50] at h6
  exact ⟨x, y, b, len, cap, xs, rfl, ⟨⟨h3, h1⟩, h6, wx, wy, h4, h2⟩⟩
/-- an operator and its arguments -/
structure CallOk (W : World) (s : ByteArray) (b : Option Addr) (len cap : Nat) (xs : List Int) : Prop where
  ints : Ints W b len xs
  bytes : len * 8 ≤ reachBytes
  room : len ≤ cap
theorem cells24 : Try.prog.cellsOf 24 = 2 := by kernel_rfl
theorem reach47 : reachBytes < 2 ^ 47 := by decide
theorem open_Call {H : Type} {enc : TypeId × Value → H} {W : World} {base : Nat} {v : Value} {d : DataW H} {p : List MemPlace} (hv : Value.okWide Try.prog W .any base 24 v) (h : DataW.Trod enc Try.prog W 0 (fun _ => true) true 24 v d p)
    (hw : ∀ n ∈ d.weights Try.prog 24, n ≤ reachBytes) :
    ∃ (s : ByteArray) (b : Option Addr) (len cap : Nat) (xs : List Int), v = .agg #[.string s, .slice b len cap] ∧ CallOk W s b len cap xs := by
  obtain ⟨c0, c1, y0, y1, m, rfl, rfl, rfl, hy0, hy1⟩ := open_agg2 Try.underlying24 (by kernel_rfl) cells24 hv h
  obtain ⟨s, e0, rfl, ws⟩ := DataW.trod_string Try.underlying9 hy0
  simp only [List.cons.injEq, and_true] at e0
  subst e0
  obtain ⟨b, len, cap, xs, rfl, h1, h2, h3, h4, h5⟩ := cell_ints Try.underlying22 Try.underlying3 (by kernel_rfl) hy1
  have h6 := h5.weight Try.underlying22 fun n hn => hw n (by simp [DataW.weights, Try.underlying24, DataW.weightsEach, hn])
  rw [bytes3] at h6
  have := reach47
  exact ⟨s, b, len, cap, xs, rfl, ⟨⟨h3, h1, by omega⟩, h6, h2⟩⟩
theorem cells48 : Try.prog.cellsOf 48 = 2 := by kernel_rfl
theorem open_arr48 {H : Type} {enc : TypeId × Value → H} {W : World} {base : Nat} {v : Value} {d : DataW H} {p : List MemPlace} (hv : Value.okWide Try.prog W .any base 48 v) (h : DataW.Trod enc Try.prog W 0 (fun _ => true) true 48 v d p)
    (hw : ∀ n ∈ d.weights Try.prog 48, n ≤ reachBytes) :
    ∃ (a b : Int), v = .agg #[i64 a, i64 b] ∧ True := by
  obtain ⟨cs, rfl, hsz⟩ := okWide_arr Try.underlying48 hv
  obtain ⟨fuel, hf⟩ := h
  rw [cells48] at hsz
  obtain ⟨cs⟩ := cs
  match cs, hsz with
  | [c0, c1], _ =>
    obtain ⟨_, _, e0⟩ := trod_elems Try.underlying48 (by kernel_rfl) hf 0 c0 (by omega) rfl
    obtain ⟨_, _, e1⟩ := trod_elems Try.underlying48 (by kernel_rfl) hf 1 c1 (by omega) rfl
    obtain ⟨x0, k0, _, w0⟩ := DataW.trod_int Try.underlying3 e0
    obtain ⟨x1, k1, _, w1⟩ := DataW.trod_int Try.underlying3 e1
    simp only [List.cons.injEq, and_true] at k0 k1
    subst k0; subst k1
    exact ⟨x0, x1, rfl, trivial⟩
theorem cells25 : Try.prog.cellsOf 25 = 4 := by kernel_rfl
theorem open_arr25 {H : Type} {enc : TypeId × Value → H} {W : World} {base : Nat} {v : Value} {d : DataW H} {p : List MemPlace} (hv : Value.okWide Try.prog W .any base 25 v) (h : DataW.Trod enc Try.prog W 0 (fun _ => true) true 25 v d p)
    (hw : ∀ n ∈ d.weights Try.prog 25, n ≤ reachBytes) :
    ∃ (a b e f : Int), v = .agg #[i64 a, i64 b, i64 e, i64 f] ∧ True := by
  obtain ⟨cs, rfl, hsz⟩ := okWide_arr Try.underlying25 hv
  obtain ⟨fuel, hf⟩ := h
  rw [cells25] at hsz
  obtain ⟨cs⟩ := cs
  match cs, hsz with
  | [c0, c1, c2, c3], _ =>
    obtain ⟨_, _, e0⟩ := trod_elems Try.underlying25 (by kernel_rfl) hf 0 c0 (by omega) rfl
    obtain ⟨_, _, e1⟩ := trod_elems Try.underlying25 (by kernel_rfl) hf 1 c1 (by omega) rfl
    obtain ⟨_, _, e2⟩ := trod_elems Try.underlying25 (by kernel_rfl) hf 2 c2 (by omega) rfl
    obtain ⟨_, _, e3⟩ := trod_elems Try.underlying25 (by kernel_rfl) hf 3 c3 (by omega) rfl
    obtain ⟨x0, k0, _, w0⟩ := DataW.trod_int Try.underlying3 e0
    obtain ⟨x1, k1, _, w1⟩ := DataW.trod_int Try.underlying3 e1
    obtain ⟨x2, k2, _, w2⟩ := DataW.trod_int Try.underlying3 e2
    obtain ⟨x3, k3, _, w3⟩ := DataW.trod_int Try.underlying3 e3
    simp only [List.cons.injEq, and_true] at k0 k1 k2 k3
    subst k0; subst k1; subst k2; subst k3
    exact ⟨x0, x1, x2, x3, rfl, trivial⟩
end Go.Proofs.Ytombfebgojeliaa
