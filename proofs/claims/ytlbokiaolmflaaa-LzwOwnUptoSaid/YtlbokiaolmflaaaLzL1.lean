/- The walks of LzwGif, LzwTiff, LzwRuns. -/
import Derived.Test.YtlbokiaolmflaaaLzArgs
namespace Go.Proofs.Ytlbokiaolmflaaa
open Go Go.Vc Go.RowKit
set_option maxRecDepth 100000
set_option linter.unusedVariables false
set_option linter.unusedSimpArgs false

theorem gif_walk {W : World} {b : Option Addr} {len cap : Nat} {xs : List Int} {size most : Int} {R : Ending → World → Prop} (h : BytesOk W b len cap xs ∧ len ≤ 1048576) (w1 : (Lit.int .i64 size).wf = true) (w2 : (Lit.int .i64 most).wf = true)
    (hR : ∀ w', Ext W w' → R (.returned (.bool true)) w') : Calls P F.law06_LzwGif #[.slice b len cap, i64 size, i64 most] W R := by
  obtain ⟨f, h20⟩ := h
  have hm := wf64 w2
  have hl := f.long
  have hln := gifR_len (bs := xs) (size := size) (most := most)
  refine calls_law06_LzwGif _ _ _ _ _ _ _ ?_
  refine wakes_spec fun u1 hE1 => ⟨_, rfl, brB_f rfl ?_⟩
  refine own_spec (f.sl.ext hE1) f.long (by omega) fun p1 k2 u2 hE2 ho => ⟨_, _, _, rfl, ?_⟩
  refine GifUnpack_spec ho.sl f.long (by omega) f.fit hm.1 hm.2 fun p2 k3 k4 u3 hg => ⟨_, _, _, _, rfl, ?_⟩
  have hE3 := (hE1.trans hE2).trans hg.ext
  refine refGifUnpack_spec (f.sl.ext hE3) f.long (by omega) f.fit hm.1 hm.2 fun p3 k5 k6 u4 hr => ⟨_, _, _, _, rfl, ?_⟩
  have hk3 := hg.len
  have hk5 := hr.len
  rw [bytes_length] at hk3 hk5
  refine same_spec (hg.sl.ext hr.ext) hr.sl hk3 hk5 (by omega) fun u5 hE5 => ⟨_, rfl, to_bool (hR u5 ((hE3.trans hr.ext).trans hE5)) (by simp)⟩
theorem tiff_walk {W : World} {b : Option Addr} {len cap : Nat} {xs : List Int} {most : Int} {R : Ending → World → Prop} (h : BytesOk W b len cap xs ∧ len ≤ 1048576) (w2 : (Lit.int .i64 most).wf = true)
    (hR : ∀ w', Ext W w' → R (.returned (.bool true)) w') : Calls P F.law06_LzwTiff #[.slice b len cap, i64 most] W R := by
  obtain ⟨f, h20⟩ := h
  have hm := wf64 w2
  have hl := f.long
  have hln := tiffR_len (bs := xs) (most := most)
  refine calls_law06_LzwTiff _ _ _ _ _ _ ?_
  refine wakes_spec fun u1 hE1 => ⟨_, rfl, brB_f rfl ?_⟩
  refine own_spec (f.sl.ext hE1) f.long (by omega) fun p1 k2 u2 hE2 ho => ⟨_, _, _, rfl, ?_⟩
  refine TiffUnpack_spec ho.sl f.long (by omega) f.fit hm.1 hm.2 fun p2 k3 k4 u3 hg => ⟨_, _, _, _, rfl, ?_⟩
  have hE3 := (hE1.trans hE2).trans hg.ext
  refine refTiffUnpack_spec (f.sl.ext hE3) f.long (by omega) f.fit hm.1 hm.2 fun p3 k5 k6 u4 hr => ⟨_, _, _, _, rfl, ?_⟩
  have hk3 := hg.len
  have hk5 := hr.len
  rw [bytes_length] at hk3 hk5
  refine same_spec (hg.sl.ext hr.ext) hr.sl hk3 hk5 (by omega) fun u5 hE5 => ⟨_, rfl, to_bool (hR u5 ((hE3.trans hr.ext).trans hE5)) (by simp)⟩
theorem runs_walk {W : World} {b : Option Addr} {len cap : Nat} {xs : List Int} {most : Int} {R : Ending → World → Prop} (h : BytesOk W b len cap xs ∧ len ≤ 1048576) (w2 : (Lit.int .i64 most).wf = true)
    (hR : ∀ w', Ext W w' → R (.returned (.bool true)) w') : Calls P F.law06_LzwRuns #[.slice b len cap, i64 most] W R := by
  obtain ⟨f, h20⟩ := h
  have hm := wf64 w2
  have hl := f.long
  have hln := runR_len (bs := xs) (most := most)
  refine calls_law06_LzwRuns _ _ _ _ _ _ ?_
  refine wakes_spec fun u1 hE1 => ⟨_, rfl, brB_f rfl ?_⟩
  refine own_spec (f.sl.ext hE1) f.long (by omega) fun p1 k2 u2 hE2 ho => ⟨_, _, _, rfl, ?_⟩
  refine Unpack_spec ho.sl f.long ho.2.1 (by omega) f.fit hm.2 fun p2 k3 k4 u3 hg => ⟨_, _, _, _, rfl, ?_⟩
  have hE3 := (hE1.trans hE2).trans hg.ext
  refine refRuns_spec (f.sl.ext hE3) f.long (by omega) f.fit hm.1 hm.2 fun p3 k5 k6 u4 hr => ⟨_, _, _, _, rfl, ?_⟩
  have hk3 := hg.len
  have hk5 := hr.len
  rw [bytes_length] at hk3 hk5
  refine same_spec (hg.sl.ext hr.ext) hr.sl hk3 hk5 (by omega) fun u5 hE5 => ⟨_, rfl, to_bool (hR u5 ((hE3.trans hr.ext).trans hE5)) (by simp)⟩
end Go.Proofs.Ytlbokiaolmflaaa
