/- What the laws of bits are handed. -/
import Derived.Test.YtlmnooodinfifaaBits7
import Derived.Test.YtlmnooodinfifaaUpto
namespace Go.Proofs.Ytlmnooodinfifaa
open Go Go.Vc Go.RowKit Go.ChangeShapes Go.WideShapes Go.Joins
set_option maxRecDepth 100000
set_option linter.unusedVariables false

theorem own_ : ownKnob Try.prog.godebug = none := by kernel_rfl
theorem laidOut : laidOutB Try.prog = true := by kernel_rfl
abbrev u32 (n : Int) : Value := .int .u32 n
/-- bytes that are handed in -/
structure BytesOk (W : World) (b : Option Addr) (len cap : Nat) (xs : List Int) : Prop where
  long : len = xs.length
  cap : len ≤ cap
  sl : Sl W.heap.size W b (bytes xs)
  fit : Bs xs
theorem open_ints26' {H : Type} {enc : TypeId × Value → H} {W : World} {base : Nat} {v : Value} {d : DataW H} {p : List MemPlace} (hv : Value.okWide Try.prog W .any base 26 v) (h : DataW.Trod enc Try.prog W 0 (fun _ => true) true 26 v d p) :
    ∃ (b : Option Addr) (len cap : Nat) (xs : List Int), v = .slice b len cap ∧ BytesOk W b len cap xs ∧ SlLen d len := by
  obtain ⟨a, b, c, rfl⟩ := okWide_slice Try.underlying26 hv
  obtain ⟨fuel, h⟩ := h
  obtain ⟨b, len, cap, xs, e, h1, h2, h3, h4, h5⟩ := cell_ints Try.underlying26 Try.underlying5 (by kernel_rfl) h
  cases e
  exact ⟨_, _, _, xs, rfl, ⟨h1, h2, h3, fun n hn => wfu8 (h4 n hn)⟩, h5⟩
theorem bytes5 : Try.prog.bytesOf 5 = 1 := by kernel_rfl
theorem reach_lt : reachBytes < 2 ^ 47 := by decide
theorem open_ints26 {H : Type} {enc : TypeId × Value → H} {W : World} {base : Nat} {v : Value} {d : DataW H} {p : List MemPlace} (hv : Value.okWide Try.prog W .any base 26 v) (h : DataW.Trod enc Try.prog W 0 (fun _ => true) true 26 v d p)
    (hw : ∀ n ∈ d.weights Try.prog 26, n ≤ reachBytes) :
    ∃ (b : Option Addr) (len cap : Nat) (xs : List Int), v = .slice b len cap ∧ (BytesOk W b len cap xs ∧ len < 2 ^ 47) := by
  obtain ⟨b, len, cap, xs, rfl, h1, h2⟩ := open_ints26' hv h
  have := h2.weight Try.underlying26 hw
  have := reach_lt
  rw [bytes5] at *
  exact ⟨b, len, cap, xs, rfl, h1, by omega⟩
theorem open_uints26 {H : Type} {enc : TypeId × Value → H} {W : World} {base : Nat} {v : Value} {d : DataW H} {p : List MemPlace} (hv : Value.okWide Try.prog W .any base 26 v) (h : DataW.Trod enc Try.prog W 0 (fun _ => true) true 26 v d p)
    (hw : Rows.uptoBulk d ≤ 1048576) :
    ∃ (b : Option Addr) (len cap : Nat) (xs : List Int), v = .slice b len cap ∧ (BytesOk W b len cap xs ∧ len ≤ 1048576) := by
  obtain ⟨b, len, cap, xs, rfl, h1, h2⟩ := open_ints26' hv h
  have := bulk_slice h2
  exact ⟨b, len, cap, xs, rfl, h1, by omega⟩
/-! ## Calls that are handed in -/
abbrev Act' := Int × Int × Int
def actC (a : Act') : List Value := [i64 a.1, i64 a.2.1, u32 a.2.2]
theorem actC_length (a : Act') : (actC a).length = 3 := rfl
structure ActFit (a : Act') : Prop where
  kind : -9223372036854775808 ≤ a.1 ∧ a.1 ≤ 9223372036854775807
  n : -9223372036854775808 ≤ a.2.1 ∧ a.2.1 ≤ 9223372036854775807
  v : 0 ≤ a.2.2 ∧ a.2.2 < 4294967296
structure ActsOk (W : World) (b : Option Addr) (len : Nat) (acs : List Act') : Prop where
  long : len = acs.length
  sl : Sl W.heap.size W b (cellsF actC acs)
  fit : ∀ a ∈ acs, ActFit a
theorem open_slice22' {H : Type} {enc : TypeId × Value → H} {W : World} {base : Nat} {v : Value} {d : DataW H} {p : List MemPlace} (hv : Value.okWide Try.prog W .any base 22 v) (h : DataW.Trod enc Try.prog W 0 (fun _ => true) true 22 v d p) :
    ∃ (b : Option Addr) (len cap : Nat) (acs : List Act'), v = .slice b len cap ∧ ActsOk W b len acs ∧ SlLen d len := by
  obtain ⟨a, b, c, rfl⟩ := okWide_slice Try.underlying22 hv
  obtain ⟨fuel, h⟩ := h
  obtain ⟨b, len, cap, xs, e, h1, h2, h3, h4, h5⟩ := cell_slice (sz := 3) (Q := fun cs => ∃ a : Act', cs = actC a ∧ ActFit a) Try.underlying22 (by kernel_rfl) (by omega) (fun fuel cs x hx hl => by
    obtain ⟨c0, c1, c2, rfl⟩ : ∃ c0 c1 c2, cs = [c0, c1, c2] := by
      match cs, hl with
      | [c0, c1, c2], _ => exact ⟨c0, c1, c2, rfl⟩
    have hf := trod_fields Try.underlying31 (by kernel_rfl) hx
    obtain ⟨n0, y0, h0⟩ := hf 0 _ c0 rfl rfl
    obtain ⟨n1, y1, h1⟩ := hf 1 _ c1 rfl rfl
    obtain ⟨n2, y2, h2⟩ := hf 2 _ c2 rfl rfl
    obtain ⟨z0, e0, _, w0⟩ := DataW.trod_int Try.underlying3 h0
    obtain ⟨z1, e1, _, w1⟩ := DataW.trod_int Try.underlying3 h1
    obtain ⟨z2, e2, _, w2⟩ := DataW.trod_int Try.underlying29 h2
    cases e0; cases e1; cases e2
    exact ⟨(z0, z1, z2), rfl, wf64 w0, wf64 w1, wfu32 w2⟩) h
  cases e
  obtain ⟨acs, rfl, hfit⟩ := all_map (fun c hc => (h4 c hc).2)
  exact ⟨_, _, _, acs, rfl, ⟨by simpa using h1, h3, hfit⟩, h5⟩
theorem bytes31 : Try.prog.bytesOf 31 = 24 := by kernel_rfl
theorem open_slice22 {H : Type} {enc : TypeId × Value → H} {W : World} {base : Nat} {v : Value} {d : DataW H} {p : List MemPlace} (hv : Value.okWide Try.prog W .any base 22 v) (h : DataW.Trod enc Try.prog W 0 (fun _ => true) true 22 v d p)
    (hw : ∀ n ∈ d.weights Try.prog 22, n ≤ reachBytes) :
    ∃ (b : Option Addr) (len cap : Nat) (acs : List Act'), v = .slice b len cap ∧ (ActsOk W b len acs ∧ len ≤ 2 ^ 43) := by
  obtain ⟨b, len, cap, xs, rfl, h1, h2⟩ := open_slice22' hv h
  have := h2.weight Try.underlying22 hw
  have := reach_lt
  rw [bytes31] at *
  exact ⟨b, len, cap, xs, rfl, h1, by omega⟩
theorem open_uslice22 {H : Type} {enc : TypeId × Value → H} {W : World} {base : Nat} {v : Value} {d : DataW H} {p : List MemPlace} (hv : Value.okWide Try.prog W .any base 22 v) (h : DataW.Trod enc Try.prog W 0 (fun _ => true) true 22 v d p)
    (hw : Rows.uptoBulk d ≤ 1048576) :
    ∃ (b : Option Addr) (len cap : Nat) (acs : List Act'), v = .slice b len cap ∧ (ActsOk W b len acs ∧ len ≤ 2 ^ 43) := by
  obtain ⟨b, len, cap, xs, rfl, h1, h2⟩ := open_slice22' hv h
  have := bulk_slice h2
  exact ⟨b, len, cap, xs, rfl, h1, by omega⟩
theorem open_arr47 {H : Type} {enc : TypeId × Value → H} {W : World} {base : Nat} {v : Value} {d : DataW H} {p : List MemPlace} (hv : Value.okWide Try.prog W .any base 47 v) (h : DataW.Trod enc Try.prog W 0 (fun _ => true) true 47 v d p)
    (hw : ∀ n ∈ d.weights Try.prog 47, n ≤ reachBytes) :
    ∃ (x y z : Int), v = .agg #[i64 x, i64 y, i64 z] ∧ (Lit.int .i64 x).wf = true ∧ (Lit.int .i64 y).wf = true ∧ (Lit.int .i64 z).wf = true := by
  obtain ⟨cs, rfl, hsz⟩ := okWide_arr Try.underlying47 hv
  have hsz : cs.size = 3 := hsz.trans (by kernel_rfl)
  obtain ⟨c0, c1, c2, rfl⟩ : ∃ c0 c1 c2, cs = #[c0, c1, c2] := by
    obtain ⟨l⟩ := cs
    match l, hsz with
    | [c0, c1, c2], _ => exact ⟨c0, c1, c2, rfl⟩
  obtain ⟨fuel, h⟩ := h
  have hf := trod_elems Try.underlying47 (by kernel_rfl) h
  obtain ⟨n0, y0, h0⟩ := hf 0 c0 (by omega) rfl
  obtain ⟨n1, y1, h1⟩ := hf 1 c1 (by omega) rfl
  obtain ⟨n2, y2, h2⟩ := hf 2 c2 (by omega) rfl
  obtain ⟨z0, e0, _, w0⟩ := DataW.trod_int Try.underlying3 h0
  obtain ⟨z1, e1, _, w1⟩ := DataW.trod_int Try.underlying3 h1
  obtain ⟨z2, e2, _, w2⟩ := DataW.trod_int Try.underlying3 h2
  cases e0; cases e1; cases e2
  exact ⟨z0, z1, z2, rfl, w0, w1, w2⟩
end Go.Proofs.Ytlmnooodinfifaa
