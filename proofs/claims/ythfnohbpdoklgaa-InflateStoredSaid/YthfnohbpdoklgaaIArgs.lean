/- What the laws of inflate are handed. -/
import Derived.Test.YthfnohbpdoklgaaIX19
import Derived.Test.YthfnohbpdoklgaaUpto
namespace Go.Proofs.Ythfnohbpdoklgaa
open Go Go.Vc Go.RowKit Go.ChangeShapes Go.WideShapes Go.Joins
set_option maxRecDepth 100000
set_option linter.unusedVariables false

theorem own_ : ownKnob Try.prog.godebug = none := by kernel_rfl
theorem laidOut : laidOutB Try.prog = true := by kernel_rfl
/-- bytes that are handed in -/
structure BytesOk (W : World) (b : Option Addr) (len cap : Nat) (xs : List Int) : Prop where
  long : len = xs.length
  cap : len ≤ cap
  sl : Sl W.heap.size W b (bytes xs)
  fit : Bs xs
theorem open_ints22' {H : Type} {enc : TypeId × Value → H} {W : World} {base : Nat} {v : Value} {d : DataW H} {p : List MemPlace} (hv : Value.okWide Try.prog W .any base 22 v) (h : DataW.Trod enc Try.prog W 0 (fun _ => true) true 22 v d p) :
    ∃ (b : Option Addr) (len cap : Nat) (xs : List Int), v = .slice b len cap ∧ BytesOk W b len cap xs ∧ SlLen d len := by
  obtain ⟨a, b, c, rfl⟩ := okWide_slice Try.underlying22 hv
  obtain ⟨fuel, h⟩ := h
  obtain ⟨b, len, cap, xs, e, h1, h2, h3, h4, h5⟩ := cell_ints Try.underlying22 Try.underlying5 (by kernel_rfl) h
  cases e
  exact ⟨_, _, _, xs, rfl, ⟨h1, h2, h3, fun n hn => wfu8 (h4 n hn)⟩, h5⟩
theorem bytes5 : Try.prog.bytesOf 5 = 1 := by kernel_rfl
theorem reach_le : reachBytes + 16 ≤ 2 ^ 47 := by decide
theorem open_ints22 {H : Type} {enc : TypeId × Value → H} {W : World} {base : Nat} {v : Value} {d : DataW H} {p : List MemPlace} (hv : Value.okWide Try.prog W .any base 22 v) (h : DataW.Trod enc Try.prog W 0 (fun _ => true) true 22 v d p)
    (hw : ∀ n ∈ d.weights Try.prog 22, n ≤ reachBytes) :
    ∃ (b : Option Addr) (len cap : Nat) (xs : List Int), v = .slice b len cap ∧ (BytesOk W b len cap xs ∧ len + 16 ≤ 2 ^ 47) := by
  obtain ⟨b, len, cap, xs, rfl, h1, h2⟩ := open_ints22' hv h
  have := h2.weight Try.underlying22 hw
  have := reach_le
  rw [bytes5] at *
  exact ⟨b, len, cap, xs, rfl, h1, by omega⟩
theorem open_uints22 {H : Type} {enc : TypeId × Value → H} {W : World} {base : Nat} {v : Value} {d : DataW H} {p : List MemPlace} (hv : Value.okWide Try.prog W .any base 22 v) (h : DataW.Trod enc Try.prog W 0 (fun _ => true) true 22 v d p)
    (hw : Rows.uptoBulk d ≤ 1048576) :
    ∃ (b : Option Addr) (len cap : Nat) (xs : List Int), v = .slice b len cap ∧ (BytesOk W b len cap xs ∧ len ≤ 1048576) := by
  obtain ⟨b, len, cap, xs, rfl, h1, h2⟩ := open_ints22' hv h
  have := bulk_slice h2
  exact ⟨b, len, cap, xs, rfl, h1, by omega⟩
/-- whole numbers that are handed in -/
structure IntsOk (W : World) (b : Option Addr) (len : Nat) (xs : List Int) : Prop where
  long : len = xs.length
  sl : Sl W.heap.size W b (xs.map i64)
theorem open_ints36 {H : Type} {enc : TypeId × Value → H} {W : World} {base : Nat} {v : Value} {d : DataW H} {p : List MemPlace} (hv : Value.okWide Try.prog W .any base 36 v) (h : DataW.Trod enc Try.prog W 0 (fun _ => true) true 36 v d p)
    (hw : ∀ n ∈ d.weights Try.prog 36, n ≤ reachBytes) :
    ∃ (b : Option Addr) (len cap : Nat) (xs : List Int), v = .slice b len cap ∧ IntsOk W b len xs := by
  obtain ⟨a, b, c, rfl⟩ := okWide_slice Try.underlying36 hv
  obtain ⟨fuel, h⟩ := h
  obtain ⟨b, len, cap, xs, e, h1, h2, h3, h4, h5⟩ := cell_ints Try.underlying36 Try.underlying3 (by kernel_rfl) h
  cases e
  exact ⟨_, _, _, xs, rfl, ⟨h1, h3⟩⟩
end Go.Proofs.Ythfnohbpdoklgaa
