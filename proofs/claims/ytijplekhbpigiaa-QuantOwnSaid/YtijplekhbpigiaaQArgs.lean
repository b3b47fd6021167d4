/- What the laws of quant are handed. -/
import Derived.Test.YtijplekhbpigiaaQS13
import Derived.Test.YtijplekhbpigiaaRows
namespace Go.Proofs.Ytijplekhbpigiaa
open Go Go.Vc Go.RowKit Go.ChangeShapes Go.WideShapes Go.Joins
set_option maxRecDepth 100000
set_option linter.unusedVariables false

theorem own_ : ownKnob Try.prog.godebug = none := by kernel_rfl
theorem laidOut : laidOutB Try.prog = true := by kernel_rfl
theorem cells24 : Try.prog.cellsOf 24 = 3 := by kernel_rfl
theorem cells36 : Try.prog.cellsOf 36 = 4 := by kernel_rfl
theorem bytes44 : Try.prog.bytesOf 44 = 2 := by kernel_rfl
theorem bytes46 : Try.prog.bytesOf 46 = 8 := by kernel_rfl
theorem bytes5 : Try.prog.bytesOf 5 = 1 := by kernel_rfl
theorem reach47 : reachBytes + 4096 ≤ 2 ^ 47 := by decide
/-- what a law is told of an image that it is handed -/
structure ImgOk (W : World) (wd ht : Int) (b : Option Addr) (len cap : Nat) (xs : List Int) : Prop where
  img : Img W b len xs
  bytes : len * 2 ≤ reachBytes
  wide : (Lit.int .i64 wd).wf = true
  high : (Lit.int .i64 ht).wf = true
  fit : PxOk xs
  room : len ≤ cap
theorem ImgOk.sz {W : World} {wd ht : Int} {b : Option Addr} {len cap : Nat} {xs : List Int} (h : ImgOk W wd ht b len cap xs) : len * 2 ≤ 2 ^ 47 := by
  have := h.bytes
  have := reach47
  omega
theorem byt_wf {n : Int} (h : (Lit.int .u16 n).wf = true) : Byt n := by
  have := wfu16 h
  exact ⟨by omega, by omega⟩
theorem open_Image {H : Type} {enc : TypeId × Value → H} {W : World} {base : Nat} {v : Value} {d : DataW H} {p : List MemPlace} (hv : Value.okWide Try.prog W .any base 24 v) (h : DataW.Trod enc Try.prog W 0 (fun _ => true) true 24 v d p)
    (hw : ∀ n ∈ d.weights Try.prog 24, n ≤ reachBytes) :
    ∃ (wd ht : Int) (b : Option Addr) (len cap : Nat) (xs : List Int), v = .agg #[i64 wd, i64 ht, .slice b len cap] ∧ ImgOk W wd ht b len cap xs := by
  obtain ⟨c0, c1, c2, y0, y1, y2, m, rfl, rfl, rfl, hy0, hy1, hy2⟩ := open_agg3 Try.underlying24 (by kernel_rfl) cells24 hv h
  obtain ⟨x, e0, rfl, wx⟩ := DataW.trod_int Try.underlying3 hy0
  obtain ⟨y, e1, rfl, wy⟩ := DataW.trod_int Try.underlying3 hy1
  simp only [List.cons.injEq, and_true] at e0 e1
  subst e0; subst e1
  obtain ⟨b, len, cap, xs, rfl, h1, h2, h3, h4, h5⟩ := cell_ints Try.underlying22 Try.underlying44 (by kernel_rfl) hy2
  have h6 := h5.weight Try.underlying22 fun n hn => hw n (by simp [DataW.weights, Try.underlying24, DataW.weightsEach, hn])
  rw [bytes44] at h6
  exact ⟨x, y, b, len, cap, xs, rfl, ⟨⟨h3, h1⟩, h6, wx, wy, fun n hn => byt_wf (h4 n hn), h2⟩⟩
/-- colours that a law is handed -/
structure PalOk (W : World) (b : Option Addr) (len cap : Nat) (l : List Co) : Prop where
  sl : Sl W.heap.size W b (cos l)
  long : l.length = len
  bytes : len * 8 ≤ reachBytes
  fit : ∀ c, c ∈ l → CoOk c
  room : len ≤ cap
theorem PalOk.sz {W : World} {b : Option Addr} {len cap : Nat} {l : List Co} (h : PalOk W b len cap l) : (len + 1) * 8 ≤ 2 ^ 47 := by
  have := h.bytes
  have := reach47
  omega
theorem cell_cols {H : Type} {enc : TypeId × Value → H} {W : World} {fuel : Nat} {v : Value} {x : DataW H × List MemPlace} (h : DataW.trod enc Try.prog W 0 (fun _ => true) true fuel 26 [v] = some x) :
    ∃ (b : Option Addr) (len cap : Nat) (l : List Co), v = .slice b len cap ∧ len = l.length ∧ len ≤ cap ∧ Sl W.heap.size W b (cos l) ∧ (∀ c ∈ l, CoOk c) ∧ SlLen x.1 len := by
  obtain ⟨b, len, cap, xs, e, h1, h2, h3, h4, h5⟩ := cell_slice (sz := 4) (Q := fun cs => ∃ c : Co, cs = co c ∧ CoOk c) Try.underlying26 (by kernel_rfl) (by omega) (fun fuel cs x hx hl => by
    obtain ⟨c0, c1, c2, c3, rfl⟩ : ∃ c0 c1 c2 c3, cs = [c0, c1, c2, c3] := by
      match cs, hl with
      | [c0, c1, c2, c3], _ => exact ⟨c0, c1, c2, c3, rfl⟩
    have hf := trod_fields Try.underlying46 (by kernel_rfl) hx
    obtain ⟨n0, y0, h0⟩ := hf 0 _ c0 rfl rfl
    obtain ⟨n1, y1, h1⟩ := hf 1 _ c1 rfl rfl
    obtain ⟨n2, y2, h2⟩ := hf 2 _ c2 rfl rfl
    obtain ⟨n3, y3, h3⟩ := hf 3 _ c3 rfl rfl
    obtain ⟨z0, e0, _, w0⟩ := DataW.trod_int Try.underlying44 h0
    obtain ⟨z1, e1, _, w1⟩ := DataW.trod_int Try.underlying44 h1
    obtain ⟨z2, e2, _, w2⟩ := DataW.trod_int Try.underlying44 h2
    obtain ⟨z3, e3, _, w3⟩ := DataW.trod_int Try.underlying44 h3
    cases e0; cases e1; cases e2; cases e3
    exact ⟨(z0, z1, z2, z3), rfl, byt_wf w0, byt_wf w1, byt_wf w2, byt_wf w3⟩) h
  obtain ⟨l, rfl, hfit⟩ := all_map (fun c hc => (h4 c hc).2)
  exact ⟨b, len, cap, l, e, by simpa using h1, h2, h3, hfit, h5⟩
theorem open_slice26 {H : Type} {enc : TypeId × Value → H} {W : World} {base : Nat} {v : Value} {d : DataW H} {p : List MemPlace} (hv : Value.okWide Try.prog W .any base 26 v) (h : DataW.Trod enc Try.prog W 0 (fun _ => true) true 26 v d p)
    (hw : ∀ n ∈ d.weights Try.prog 26, n ≤ reachBytes) :
    ∃ (b : Option Addr) (len cap : Nat) (l : List Co), v = .slice b len cap ∧ PalOk W b len cap l := by
  obtain ⟨a, b, c, rfl⟩ := okWide_slice Try.underlying26 hv
  obtain ⟨fuel, h⟩ := h
  obtain ⟨b, len, cap, l, e, h1, h2, h3, h4, h5⟩ := cell_cols h
  cases e
  have h6 := h5.weight Try.underlying26 hw
  rw [bytes46] at h6
  exact ⟨_, _, _, l, rfl, ⟨h3, h1.symm, h6, h4, h2⟩⟩
/-- a paletted image that a law is handed -/
structure PtdOk (W : World) (b : Option Addr) (bn bc : Nat) (l : List Co) (q : Option Addr) (qn qc : Nat) (ix : List Int) : Prop where
  pal : PalOk W b bn bc l
  sl : Sl W.heap.size W q (Go.Proofs.Ytijplekhbpigiaa.bytes ix)
  long : ix.length = qn
  bts : qn ≤ reachBytes
  fit : Bs ix
  room : qn ≤ qc
theorem open_Paletted {H : Type} {enc : TypeId × Value → H} {W : World} {base : Nat} {v : Value} {d : DataW H} {p : List MemPlace} (hv : Value.okWide Try.prog W .any base 36 v) (h : DataW.Trod enc Try.prog W 0 (fun _ => true) true 36 v d p)
    (hw : ∀ n ∈ d.weights Try.prog 36, n ≤ reachBytes) :
    ∃ (wd ht : Int) (b : Option Addr) (bn bc : Nat) (l : List Co) (q : Option Addr) (qn qc : Nat) (ix : List Int), v = .agg #[i64 wd, i64 ht, .slice b bn bc, .slice q qn qc] ∧ PtdOk W b bn bc l q qn qc ix := by
  obtain ⟨c0, c1, c2, c3, y0, y1, y2, y3, m, rfl, rfl, rfl, hy0, hy1, hy2, hy3⟩ := open_agg4 Try.underlying36 (by kernel_rfl) cells36 hv h
  obtain ⟨x, e0, rfl, wx⟩ := DataW.trod_int Try.underlying3 hy0
  obtain ⟨y, e1, rfl, wy⟩ := DataW.trod_int Try.underlying3 hy1
  simp only [List.cons.injEq, and_true] at e0 e1
  subst e0; subst e1
  obtain ⟨b, bn, bc, l, rfl, h1, h2, h3, h4, h5⟩ := cell_cols hy2
  obtain ⟨q, qn, qc, ix, rfl, k1, k2, k3, k4, k5⟩ := cell_ints Try.underlying34 Try.underlying5 (by kernel_rfl) hy3
  have h6 := h5.weight Try.underlying26 fun n hn => hw n (by simp [DataW.weights, Try.underlying36, DataW.weightsEach, hn])
  have k6 := k5.weight Try.underlying34 fun n hn => hw n (by simp [DataW.weights, Try.underlying36, DataW.weightsEach, hn])
  rw [bytes46] at h6
  rw [bytes5] at k6
  exact ⟨x, y, b, bn, bc, l, q, qn, qc, ix, rfl, ⟨⟨h3, h1.symm, h6, h4, h2⟩, k3, k1.symm, by omega, fun n hn => wfu8 (k4 n hn), k2⟩⟩
end Go.Proofs.Ytijplekhbpigiaa
