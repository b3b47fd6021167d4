/- The laws of raster over the contracts: wakes, fills, distinct colours. -/
import Derived.Test.YtcfcholodhppmaaRasArgs
namespace Go.Proofs.Ytcfcholodhppmaa
open Go Go.Vc Go.RowKit
set_option maxRecDepth 100000
set_option linter.unusedVariables false
set_option linter.unusedSimpArgs false

theorem fg_img {av : List Nat} {w w' : World} {p : Option Addr} {len cap : Nat} {xs : List Int} (h : Fg av w w' 1 p len cap (px xs)) : Img w' p len xs ∧ len ≤ cap := by
  have := h.ow
  exact ⟨Img.of_ow this, this.2.1⟩
theorem ow_img {N M : Nat} {w : World} {p : Option Addr} {len cap : Nat} {xs : List Int} (h : Ow N M w p len cap 1 (px xs)) : Img w p len xs ∧ len ≤ cap := ⟨Img.of_ow h, h.2.1⟩
theorem wakes_spec {w : World} {R : Ending → World → Prop} (hR : ∀ w', Ext w w' → R (.returned (.bool true)) w') : Calls P F.law09_wakes #[] w R := by
  refine calls_law09_wakes _ _ ?_
  have e0 : fillR 2 1 (1, 2, 3, 4) = (2, 1, [1, 2, 3, 4, 1, 2, 3, 4], 0) := by decide
  refine Fill_spec (c := (1, 2, 3, 4)) fun p l c w1 hf1 => ?_
  rw [e0] at hf1 ⊢
  obtain ⟨hi, hlc⟩ := fg_img hf1
  have hl : l = 8 := hi.len
  subst hl
  refine ⟨_, _, _, _, _, _, rfl, fun k3 hk3 => brB_f rfl fun w3 hL3 => ?_⟩
  have hE3 : Ext w1 w3 := hL3.ext (by simpa using hk3)
  have hs3 := hE3.size
  have ht3 := hL3.there k3 (by simp)
  have hb : good 2 1 [1, 2, 3, 4, 1, 2, 3, 4] = true := by decide
  refine own_spec (hi.ext hE3) (by decide) fun p2 c2 w4 hE4 ho4 => ⟨_, _, _, _, _, rfl, hE4.keep _, ?_⟩
  refine good_spec (xs := [1, 2, 3, 4, 1, 2, 3, 4]) rfl fun w5 hE5 => ⟨_, rfl, hE5.keep _, brB_f (by rw [hb]; rfl) ?_⟩
  have hE35 := (hE3.trans hE4).trans hE5
  have hs35 := (hE4.trans hE5).size
  refine getE (hi.ext hE35).sl rfl (by decide) (by decide) fun a ha => ⟨_, ha _ (Ext.refl _), brB_f (by decide) ?_⟩
  refine good_spec (xs := []) rfl fun w6 hE6 => ⟨_, rfl, hE6.keep _, brB_f (by decide) ?_⟩
  have hE36 := hE35.trans hE6
  have hs6 := hE6.size
  refine own_spec (hi.ext hE36) (by decide) fun p3 c3 w7 hE7 ho7 => ⟨_, _, _, _, _, rfl, hE7.keep _, ?_⟩
  obtain ⟨hi7, hc7⟩ := ow_img ho7
  have e1 : atC 2 1 [1, 2, 3, 4, 1, 2, 3, 4] 1 0 = (1, 2, 3, 4) := by decide
  have e2 : isAt 2 1 [1, 2, 3, 4, 1, 2, 3, 4] 1 0 = true := by decide
  refine At_spec hi7 hc7 fun w8 hE8 => ?_
  rw [e1, e2]
  refine ⟨_, _, _, _, _, rfl, hE8.keep _, fun k8 hk8 w9 hL9 => ?_⟩
  have hE38 := (hE36.trans hE7).trans hE8
  have hs8 := (hE7.trans hE8).size
  have hE39 : Ext w1 w9 := hE38.step hL9.chg (by simp; omega)
  have hs9 := hL9.size
  refine own_spec (hi.ext hE39) (by decide) fun p4 c4 w10 hE10 ho10 => ⟨_, _, _, _, _, rfl, hE10.keep _, ?_⟩
  obtain ⟨hi10, hc10⟩ := ow_img ho10
  have e3 : cropR 2 1 [1, 2, 3, 4, 1, 2, 3, 4] 1 0 1 1 = (1, 1, [1, 2, 3, 4], 0) := by decide
  refine Crop_spec hi10 hc10 fun p5 l5 c5 w11 hf11 => ?_
  rw [e3]
  refine ⟨_, _, _, _, _, _, rfl, hf11.ext.keep _, fun k13 hk13 => brB_t rfl fun w12 hL12 => ?_⟩
  have hE3b := (hE39.trans hE10).trans hf11.ext
  have hs11 := (hE10.trans hf11.ext).size
  have ht8 := hL9.there k8 (by simp)
  have hs10 := hE10.size
  have hsf := hf11.ext.size
  have hs38 := hE38.size
  have hE312 : Ext w1 w12 := hE3b.step hL12.chg (by simp; omega)
  refine own_spec (hi.ext hE312) (by decide) fun p6 c6 w13 hE13 ho13 => ⟨_, _, _, _, _, rfl, hE13.keep _, ?_⟩
  obtain ⟨hi13, hc13⟩ := ow_img ho13
  have e4 : distR 2 1 [1, 2, 3, 4, 1, 2, 3, 4] = [(1, 2, 3, 4)] := by decide
  refine Distinct_spec hi13 hc13 fun p7 c7 w14 hf14 => ?_
  rw [e4]
  exact ⟨_, _, _, rfl, hf14.ext.keep _, hR w14 (((hf1.ext.trans hE312).trans hE13).trans hf14.ext)⟩
theorem same_self {W H : Int} {xs : List Int} : same W H W H xs xs = true := by simp [same]
theorem fills_walk {w : World} {x y c1 c2 c3 c4 : Int} {R : Ending → World → Prop} (_ : (Lit.int .i64 x).wf = true) (_ : (Lit.int .i64 y).wf = true) (_ : True) (hR : ∀ w', Ext w w' → R (.returned (.bool true)) w') :
    Calls P F.law09_RasterFills #[i64 x, i64 y, .agg #[u16 c1, u16 c2, u16 c3, u16 c4]] w R := by
  refine calls_law09_RasterFills _ _ _ _ _ _ _ _ ?_
  intro k1 hk1 w1 hL1
  have hE1 : Ext w w1 := hL1.ext (by simpa using hk1)
  have ht1 := hL1.there k1 (by simp)
  refine wakes_spec fun w2 hE2 => ⟨_, rfl, hE2.keep _, brB_f rfl ?_⟩
  have hs2 := hE2.size
  refine Fill_spec (c := (c1, c2, c3, c4)) fun p l c w3 hf3 => ⟨_, _, _, _, _, _, rfl, hf3.ext.keep _, fun k4 hk4 w4 hL4 => ?_⟩
  have f4 := (hf3.from (bs := [k1]) (hE1.trans hE2) (by simp; omega)).push hL4 (by simp; omega)
  have ht4 := hL4.there k4 (by simp)
  refine refFill_spec (c := (c1, c2, c3, c4)) fun p2 l2 c2' w5 hf5 => ⟨_, _, _, _, _, _, rfl, hf5.ext.keep _, fun k7 hk7 w6 hL6 => ?_⟩
  have f6 := (f4.step hf5.ext).push hL6 (by simp; omega)
  have g6 := (hf5.from (bs := [k4, k1]) f4.ext (by have := hf3.ext.size; have := hE1.size; have := hL4.there k1 (by simp); simp; omega)).push hL6 (by simp; omega)
  have hl : l < 2 ^ 62 := by
    rw [(fg_img f6).1.len]
    unfold fillR
    split
    · have := gfits_iff.1 (by assumption)
      simp only [fillX_length]; omega
    · simp
  refine refSame_spec (fg_img f6).1 (fg_img g6).1 hl fun w7 hE7 => ⟨_, rfl, hE7.keep _, to_bool (hR w7 (f6.ext.trans hE7)) ?_⟩
  simp [same_self]
theorem distinct_walk {w : World} {b : Option Addr} {len cap : Nat} {W H : Int} {xs : List Int} {R : Ending → World → Prop} (hi : ImgOk w W H b len cap xs) (hR : ∀ w', Ext w w' → R (.returned (.bool true)) w') :
    Calls P F.law09_RasterDistinct #[.agg #[i64 W, i64 H, .slice b len cap]] w R := by
  refine calls_law09_RasterDistinct _ _ _ _ _ _ _ ?_
  intro k1 hk1 w1 hL1
  have hE1 : Ext w w1 := hL1.ext (by simpa using hk1)
  refine wakes_spec fun w2 hE2 => ⟨_, rfl, hE2.keep _, brB_f rfl ?_⟩
  have hE12 := (hE1.trans hE2).drew
  refine own_spec (hi.img.ext hE12) hi.sz fun p1 c1 w3 hE3 ho3 => ⟨_, _, _, _, _, rfl, hE3.keep _, hE3.keeps, ?_⟩
  have hE13 := hE12.trans hE3
  refine Distinct_spec (ow_img ho3).1 (ow_img ho3).2 fun p2 c2 w4 hf4 => ⟨_, _, _, rfl, hf4.ext.keep _, hf4.ext.keeps, ?_⟩
  have hE14 := hE13.trans hf4.ext
  refine refDistinct_spec (hi.img.ext hE14) fun p3 c3 w5 hf5 => ⟨_, _, _, rfl, hf5.ext.keep _, ?_⟩
  have hdl : (distR W H xs).length < 2 ^ 62 := by
    unfold distR
    split
    · have hg := (good_iff.1 (by assumption)).1
      have := gfits_iff.1 hg
      have := distX_length xs (W * H).toNat
      omega
    · simp
  refine SameColors_spec (hf4.step hf5.ext).sl hf5.sl rfl rfl hdl fun w6 hE6 => ⟨_, rfl, hE6.keep _, to_bool (hR w6 ((hE14.trans hf5.ext).trans hE6)) (by simp)⟩
end Go.Proofs.Ytcfcholodhppmaa
