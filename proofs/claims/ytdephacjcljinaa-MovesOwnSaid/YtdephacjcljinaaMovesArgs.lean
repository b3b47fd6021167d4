/- What the laws of moves are handed. -/
import Derived.Test.YtdephacjcljinaaMW2
import Derived.Test.YtdephacjcljinaaRows
namespace Go.Proofs.Ytdephacjcljinaa
open Go Go.Vc Go.RowKit Go.ChangeShapes Go.WideShapes Go.Joins
set_option maxRecDepth 100000
set_option linter.unusedVariables false

theorem own_ : ownKnob Try.prog.godebug = none := by kernel_rfl
theorem laidOut : laidOutB Try.prog = true := by kernel_rfl
theorem cells38 : Try.prog.cellsOf 38 = 3 := by kernel_rfl
theorem bytes54 : Try.prog.bytesOf 54 = 2 := by kernel_rfl
theorem bytes3 : Try.prog.bytesOf 3 = 8 := by kernel_rfl
/-- what a law is told of an image that it is handed -/
structure ImgOk (W : World) (wd ht : Int) (b : Option Addr) (len cap : Nat) (xs : List Int) : Prop where
  img : Img W b len xs
  bytes : len * 2 ≤ reachBytes
  wide : (Lit.int .i64 wd).wf = true
  high : (Lit.int .i64 ht).wf = true
  fit : ∀ n ∈ xs, (Lit.int .u16 n).wf = true
  room : len ≤ cap
theorem ImgOk.sz {W : World} {wd ht : Int} {b : Option Addr} {len cap : Nat} {xs : List Int} (h : ImgOk W wd ht b len cap xs) : len * 2 ≤ 2 ^ 47 := by
  have := h.bytes
  have : reachBytes < 2 ^ 47 := by decide
  omega
theorem wfu16 {n : Int} (h : (Lit.int .u16 n).wf = true) : Sm n := by
  simp [Lit.wf, IntKind.min, IntKind.max, IntKind.signed, IntKind.bits] at h; exact h
theorem ImgOk.sm {W : World} {wd ht : Int} {b : Option Addr} {len cap : Nat} {xs : List Int} (h : ImgOk W wd ht b len cap xs) : SmL xs := fun n hn => wfu16 (h.fit n hn)
theorem open_Image {H : Type} {enc : TypeId × Value → H} {W : World} {base : Nat} {v : Value} {d : DataW H} {p : List MemPlace} (hv : Value.okWide Try.prog W .any base 38 v) (h : DataW.Trod enc Try.prog W 0 (fun _ => true) true 38 v d p)
    (hw : ∀ n ∈ d.weights Try.prog 38, n ≤ reachBytes) :
    ∃ (wd ht : Int) (b : Option Addr) (len cap : Nat) (xs : List Int), v = .agg #[i64 wd, i64 ht, .slice b len cap] ∧ ImgOk W wd ht b len cap xs := by
  obtain ⟨c0, c1, c2, y0, y1, y2, m, rfl, rfl, rfl, hy0, hy1, hy2⟩ := open_agg3 Try.underlying38 (by kernel_rfl) cells38 hv h
  obtain ⟨x, e0, rfl, wx⟩ := DataW.trod_int Try.underlying3 hy0
  obtain ⟨y, e1, rfl, wy⟩ := DataW.trod_int Try.underlying3 hy1
  simp only [List.cons.injEq, and_true] at e0 e1
  subst e0; subst e1
  obtain ⟨b, len, cap, xs, rfl, h1, h2, h3, h4, h5⟩ := cell_ints Try.underlying36 Try.underlying54 (by kernel_rfl) hy2
  have h6 := h5.weight Try.underlying36 fun n hn => hw n (by simp [DataW.weights, Try.underlying38, DataW.weightsEach, hn])
  rw [bytes54] at h6
  exact ⟨x, y, b, len, cap, xs, rfl, ⟨⟨h3, h1⟩, h6, wx, wy, h4, h2⟩⟩
/-- arguments of an operator -/
structure IntsOk (W : World) (b : Option Addr) (len cap : Nat) (xs : List Int) : Prop where
  ints : Ints W b len xs
  bytes : len * 8 ≤ reachBytes
  room : len ≤ cap
theorem reach47 : reachBytes < 2 ^ 47 := by decide
theorem open_ints22 {H : Type} {enc : TypeId × Value → H} {W : World} {base : Nat} {v : Value} {d : DataW H} {p : List MemPlace} (hv : Value.okWide Try.prog W .any base 22 v) (h : DataW.Trod enc Try.prog W 0 (fun _ => true) true 22 v d p)
    (hw : ∀ n ∈ d.weights Try.prog 22, n ≤ reachBytes) :
    ∃ (b : Option Addr) (len cap : Nat) (xs : List Int), v = .slice b len cap ∧ IntsOk W b len cap xs := by
  obtain ⟨a, b, c, rfl⟩ := okWide_slice Try.underlying22 hv
  obtain ⟨fuel, h⟩ := h
  obtain ⟨b, len, cap, xs, e, h1, h2, h3, h4, h5⟩ := cell_ints Try.underlying22 Try.underlying3 (by kernel_rfl) h
  cases e
  have h6 := h5.weight Try.underlying22 hw
  rw [bytes3] at h6
  have := reach47
  exact ⟨_, _, _, xs, rfl, ⟨⟨h3, h1, by omega⟩, h6, h2⟩⟩
theorem cells23 : Try.prog.cellsOf 23 = 2 := by kernel_rfl
theorem open_arr23 {H : Type} {enc : TypeId × Value → H} {W : World} {base : Nat} {v : Value} {d : DataW H} {p : List MemPlace} (hv : Value.okWide Try.prog W .any base 23 v) (h : DataW.Trod enc Try.prog W 0 (fun _ => true) true 23 v d p)
    (hw : ∀ n ∈ d.weights Try.prog 23, n ≤ reachBytes) :
    ∃ (a b : Int), v = .agg #[i64 a, i64 b] ∧ True := by
  obtain ⟨cs, rfl, hsz⟩ := okWide_arr Try.underlying23 hv
  obtain ⟨fuel, hf⟩ := h
  rw [cells23] at hsz
  obtain ⟨cs⟩ := cs
  match cs, hsz with
  | [c0, c1], _ =>
    obtain ⟨_, _, e0⟩ := trod_elems Try.underlying23 (by kernel_rfl) hf 0 c0 (by omega) rfl
    obtain ⟨_, _, e1⟩ := trod_elems Try.underlying23 (by kernel_rfl) hf 1 c1 (by omega) rfl
    obtain ⟨x0, k0, _, w0⟩ := DataW.trod_int Try.underlying3 e0
    obtain ⟨x1, k1, _, w1⟩ := DataW.trod_int Try.underlying3 e1
    simp only [List.cons.injEq, and_true] at k0 k1
    subst k0; subst k1
    exact ⟨x0, x1, rfl, trivial⟩
end Go.Proofs.Ytdephacjcljinaa
