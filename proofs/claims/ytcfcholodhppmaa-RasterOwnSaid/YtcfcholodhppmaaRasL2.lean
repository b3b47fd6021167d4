/- The laws of raster over the contracts: looks, parts, grids. -/
import Derived.Test.YtcfcholodhppmaaRasL1
namespace Go.Proofs.Ytcfcholodhppmaa
open Go Go.Vc Go.RowKit
set_option maxRecDepth 100000
set_option linter.unusedVariables false
set_option linter.unusedSimpArgs false

theorem sz62 {W H : Int} {b : Option Addr} {w : World} {len cap : Nat} {xs : List Int} (hi : ImgOk w W H b len cap xs) : len < 2 ^ 62 := by have := hi.sz; omega
theorem cropR_len {W H x y a b : Int} {xs : List Int} : (cropR W H xs x y a b).2.2.1.length < 2 ^ 62 := by
  unfold cropR
  split
  · rename_i hg
    split
    · rename_i hr
      have h1 := (good_iff.1 hg).1
      have h2 := gfits_iff.1 h1
      have h3 := inR_iff.1 hr
      have hab : a * b ≤ W * H := Int.mul_le_mul h3.2.2.2.2.1 h3.2.2.2.2.2.1 (by omega) (by omega)
      have := cropX_length hg hr b.toNat (by omega)
      have e : ((b.toNat * a.toNat : Nat) : Int) = a * b := by
        rw [Int.natCast_mul, Int.mul_comm]; congr 1 <;> omega
      simp only [this]; omega
    · simp
  · simp
theorem pasteR_len {W H pw ph x y : Int} {xs ys : List Int} : (pasteR W H xs pw ph ys x y).2.2.1.length < 2 ^ 62 := by
  unfold pasteR
  split
  · rename_i hg
    simp only [Bool.and_eq_true] at hg
    have h2 := gfits_iff.1 (good_iff.1 hg.1).1
    simp only [pasteX, flat_length, List.length_map, List.length_range]; omega
  · simp
theorem looks_walk {w : World} {b b' : Option Addr} {len cap len' cap' : Nat} {W H W' H' x y : Int} {xs ys : List Int} {R : Ending → World → Prop} (hi : ImgOk w W H b len cap xs) (hj : ImgOk w W' H' b' len' cap' ys) (_ : True) (hR : ∀ w', Ext w w' → R (.returned (.bool true)) w') :
    Calls P F.law09_RasterLooks #[.agg #[i64 W, i64 H, .slice b len cap], .agg #[i64 W', i64 H', .slice b' len' cap'], .agg #[i64 x, i64 y]] w R := by
  refine calls_law09_RasterLooks _ _ _ _ _ _ _ _ _ _ _ _ _ _ ?_
  intro k1 hk1 k2 hk2 k3 hk3 w1 hL1
  have hE1 : Ext w w1 := hL1.ext (by simp; omega)
  have hl1 : ∀ b, b ∈ [k3, k2, k1] → w.heap.size ≤ b ∧ b < w1.heap.size := fun b hb => ⟨by simp at hb; omega, hL1.there b hb⟩
  refine wakes_spec fun w2 hE2 => ⟨_, rfl, hE2.keep _, brB_f rfl ?_⟩
  have hE12 := (hE1.trans hE2).drew
  have hs2 := hE2.size
  have hs12 := hE12.size
  have hl2 : ∀ b, b ∈ [k3, k2, k1] → w.heap.size ≤ b ∧ b < w2.drew.heap.size := fun b hb => ⟨(hl1 b hb).1, Nat.lt_of_lt_of_le (hl1 b hb).2 hs2⟩
  refine ⟨fun vs u => match vs with | [.bool c, .pointer (some a), .int _ n1, .int _ n2, .int _ n3, .int _ n4] => w.heap.size ≤ a.block ∧ Ext w u ∧ c = isAt W H xs x y ∧ (n1, n2, n3, n4) = atC W H xs x y | _ => False,
    ⟨?_, fun k8 hk8 w9 hL9 => ?_⟩, fun c5 k11 n17 n18 n19 n20 w13 hI => ?_⟩
  · refine own_spec (hi.img.ext hE12) hi.sz fun p1 c1 w3 hE3 ho3 => ⟨_, _, _, _, _, rfl, hE3.keep _, hE3.keeps, ?_, fun k7 hk7 w6 hL6 => ?_⟩
    · have hE13 := hE12.trans hE3
      have hs := hE13.size
      refine At_spec (ow_img ho3).1 (ow_img ho3).2 fun w4 hE4 => ⟨_, _, _, _, _, rfl, hE4.keep _, fun k6 hk6 w5 hL5 => ⟨?_, ?_, rfl, rfl⟩⟩
      · have := hE4.size; show w.heap.size ≤ k6; omega
      · exact (hE13.trans hE4).step hL5.chg (by have := hE4.size; simp; omega)
    · have f6 := (Fg.ofOw (bs := [k3, k2, k1]) ho3 hE12 hE3 hl2).push hL6 (by simp; omega)
      have hs3 := hE3.size
      refine At_spec (fg_img f6).1 (fg_img f6).2 fun w7 hE7 => ⟨_, _, _, _, _, rfl, hE7.keep _, fun w8 hL8 => ⟨?_, ?_, rfl, rfl⟩⟩
      · show w.heap.size ≤ k7; omega
      · exact ((f6.step hE7).push hL8 (by simp)).ext
  · have hk8' : w.heap.size ≤ k8 := Nat.le_trans hs12 hk8
    have hE9 : Ext w w9 := hE12.step hL9.chg (by simp; omega)
    refine own_spec (hi.img.ext hE9) hi.sz fun p2 c2 w10 hE10 ho10 => ⟨_, _, _, _, _, rfl, hE10.keep _, hE10.keeps, ?_⟩
    refine At_spec (ow_img ho10).1 (ow_img ho10).2 fun w11 hE11 => ⟨_, _, _, _, _, rfl, hE11.keep _, fun w12 hL12 => ⟨hk8', ?_, rfl, rfl⟩⟩
    exact ((hE9.trans hE10).trans hE11).step hL12.chg (by simp; omega)
  · obtain ⟨hk11, hE13, rfl, hat⟩ := hI
    have hk11 : w.heap.size ≤ k11 := hk11
    have hs13 := hE13.size
    refine refAt_spec (hi.img.ext hE13) fun w14 hE14 => ⟨_, _, _, _, _, rfl, hE14.keep _, fun k12 hk12 w15 hL15 => ?_⟩
    have hs14 := hE14.size
    have hE15 : Ext w w15 := (hE13.trans hE14).step hL15.chg (by simp; omega)
    refine own_spec (hi.img.ext hE15) hi.sz fun p3 c3 w16 hE16 ho16 => ⟨_, _, _, _, _, rfl, hE16.keep _, hE16.keeps, ?_⟩
    refine good_spec hi.img.len fun w17 hE17 => ⟨_, rfl, hE17.keep _, hE17.keeps, ?_⟩
    refine refGood_spec hi.img.len fun w18 hE18 => ⟨_, rfl, hE18.keep _, brB_t (by simp) ?_⟩
    have hE18' := ((hE15.trans hE16).trans hE17).trans hE18
    refine own_spec (hi.img.ext hE18') hi.sz fun p4 c4 w19 hE19 ho19 => ⟨_, _, _, _, _, rfl, hE19.keep _, hE19.keeps, ?_⟩
    have hE19' := hE18'.trans hE19
    refine own_spec (hj.img.ext hE19') hj.sz fun p5 c5 w20 hE20 ho20 => ⟨_, _, _, _, _, rfl, hE20.keep _, hE20.keeps, ?_⟩
    have hE20' := hE19'.trans hE20
    refine Same_spec ((ow_img ho19).1.ext hE20) (ow_img ho20).1 (sz62 hi) fun w21 hE21 => ⟨_, rfl, hE21.keep _, hE21.keeps, ?_⟩
    have hE21' := hE20'.trans hE21
    refine refSame_spec (hi.img.ext hE21') (hj.img.ext hE21') (sz62 hi) fun w22 hE22 => ⟨_, rfl, hE22.keep _, brB_t (by simp) ?_⟩
    have hE22' := hE21'.trans hE22
    refine own_spec (hi.img.ext hE22') hi.sz fun p6 c6 w23 hE23 ho23 => ⟨_, _, _, _, _, rfl, hE23.keep _, hE23.keeps, ?_⟩
    have hE23' := hE22'.trans hE23
    refine own_spec (hi.img.ext hE23') hi.sz fun p7 c7 w24 hE24 ho24 => ⟨_, _, _, _, _, rfl, hE24.keep _, ?_⟩
    refine Same_spec ((ow_img ho23).1.ext hE24) (ow_img ho24).1 (sz62 hi) fun w25 hE25 => ⟨_, rfl, hE25.keep _, brB_t same_self ?_⟩
    refine to_bool (hR w25 ((hE23'.trans hE24).trans hE25)) ?_
    rw [← hat]; simp
theorem parts_walk {w : World} {b b' : Option Addr} {len cap len' cap' : Nat} {W H W' H' x y c d : Int} {xs ys : List Int} {R : Ending → World → Prop} (hi : ImgOk w W H b len cap xs) (hj : ImgOk w W' H' b' len' cap' ys) (hr : RectOk x y c d) (hR : ∀ w', Ext w w' → R (.returned (.bool true)) w') :
    Calls P F.law09_RasterParts #[.agg #[i64 W, i64 H, .slice b len cap], .agg #[i64 W', i64 H', .slice b' len' cap'], .agg #[i64 x, i64 y, i64 c, i64 d]] w R := by
  refine calls_law09_RasterParts _ _ _ _ _ _ _ _ _ _ _ _ _ _ _ _ ?_
  intro k1 hk1 k2 hk2 k3 hk3 w1 hL1
  have hx64 := wf64 hr.1
  have hy64 := wf64 hr.2.1
  have hE1 : Ext w w1 := hL1.ext (by simp; omega)
  have hl1 : ∀ b, b ∈ [k3, k2, k1] → w.heap.size ≤ b ∧ b < w1.heap.size := fun b hb => ⟨by simp at hb; omega, hL1.there b hb⟩
  refine wakes_spec fun w2 hE2 => ⟨_, rfl, hE2.keep _, brB_f rfl ?_⟩
  have hE12 := (hE1.trans hE2).drew
  have hs2 := hE2.size
  have hs12 := hE12.size
  have hl2 : ∀ b, b ∈ [k3, k2, k1] → w.heap.size ≤ b ∧ b < w2.drew.heap.size := fun b hb => ⟨(hl1 b hb).1, Nat.lt_of_lt_of_le (hl1 b hb).2 hs2⟩
  have lf : ∀ {k : Nat} {u u' : World}, Ext w u → w2.drew.heap.size ≤ k → Locl [k, k3, k2, k1] u u' → (k < u'.heap.size ∧ ∀ b, b ∈ [k, k3, k2, k1] → w.heap.size ≤ b ∧ b < u'.heap.size) := fun hE hk hL => ⟨hL.there _ (by simp), fun b hb => ⟨by simp at hb; omega, hL.there b hb⟩⟩
  refine ⟨fun vs u => match vs with | [.int _ e, .pointer (some a), .int _ n1, .int _ n2, .slice p l cp] => w.heap.size ≤ a.block ∧ e = (cropR W H xs x y c d).2.2.2 ∧ n1 = (cropR W H xs x y c d).1 ∧ n2 = (cropR W H xs x y c d).2.1 ∧ Fg [a.block, k3, k2, k1] w u 1 p l cp (px (cropR W H xs x y c d).2.2.1) | _ => False,
    ⟨?_, fun k12 hk12 w9 hL9 => ?_⟩, fun n14 k17 n15 n16 p6 k18 k19 w13 hI => ?_⟩
  · refine own_spec (hi.img.ext hE12) hi.sz fun p1 c1 w3 hE3 ho3 => ⟨_, _, _, _, _, rfl, hE3.keep _, hE3.keeps, ?_, fun k9 hk9 w6 hL6 => ?_⟩
    · have hE13 := hE12.trans hE3
      have hs3 := hE3.size
      have hs := hE13.size
      refine Crop_spec (ow_img ho3).1 (ow_img ho3).2 fun p2 l2 c2 w4 hf4 => ⟨_, _, _, _, _, _, rfl, hf4.ext.keep _, fun k8 hk8 w5 hL5 => ⟨?_, rfl, rfl, rfl, ?_⟩⟩
      · have := hf4.ext.size; show w.heap.size ≤ k8; omega
      · exact ((hf4.from (bs := [k3, k2, k1]) hE13 fun b hb => ⟨(hl2 b hb).1, Nat.lt_of_lt_of_le (hl2 b hb).2 hs3⟩).push hL5 (by simp; omega)).mono (by simp)
    · have f6 := (Fg.ofOw (bs := [k3, k2, k1]) ho3 hE12 hE3 hl2).push hL6 (by simp; omega)
      have hs3 := hE3.size
      have hs6 := f6.ext.size
      refine Crop_spec (fg_img f6).1 (fg_img f6).2 fun p2 l2 c2 w7 hf7 => ⟨_, _, _, _, _, _, rfl, hf7.ext.keep _, fun w8 hL8 => ⟨?_, rfl, rfl, rfl, ?_⟩⟩
      · show w.heap.size ≤ k9; omega
      · exact ((hf7.from (bs := [k9, k3, k2, k1]) f6.ext fun b hb => ⟨by simp at hb; omega, hL6.there b hb⟩).push hL8 (by simp)).mono (by simp)
  · have hk12' : w.heap.size ≤ k12 := Nat.le_trans hs12 hk12
    have hE9 : Ext w w9 := hE12.step hL9.chg (by simp; omega)
    refine own_spec (hi.img.ext hE9) hi.sz fun p2 c2 w10 hE10 ho10 => ⟨_, _, _, _, _, rfl, hE10.keep _, hE10.keeps, ?_⟩
    have hs10 := hE10.size
    refine Crop_spec (ow_img ho10).1 (ow_img ho10).2 fun p3 l3 c3 w11 hf11 => ⟨_, _, _, _, _, _, rfl, hf11.ext.keep _, fun w12 hL12 => ⟨hk12', rfl, rfl, rfl, ?_⟩⟩
    exact ((hf11.from (bs := [k12, k3, k2, k1]) (hE9.trans hE10) fun b hb => ⟨by simp at hb; omega, Nat.lt_of_lt_of_le (hL9.there b hb) hs10⟩).push hL12 (by simp)).mono (by simp)
  · obtain ⟨hk17, rfl, rfl, rfl, f13⟩ := hI
    have hk17 : w.heap.size ≤ k17 := hk17
    have hE13 := f13.ext
    have hs13 := hE13.size
    refine refCrop_spec (hi.img.ext hE13) fun p7 l7 c7 w14 hf14 => ⟨_, _, _, _, _, _, rfl, hf14.ext.keep _, fun k22 hk22 => ?_⟩
    have hE14 := hE13.trans hf14.ext
    have hs14 := hE14.size
    have f14 := f13.step hf14.ext
    have hs1314 := hf14.ext.size
    have hav := f13.avs
    have g14 := hf14.from (bs := [k17, k3, k2, k1]) hE13 hav
    have hk22w : w.heap.size ≤ k22 := Nat.le_trans hs14 hk22
    -- what the laying over answers, with both images as they are now
    let A : List Value → World → Prop := fun vs u => match vs with | [.int _ e, .pointer (some a), .int _ n1, .int _ n2, .slice p l cp] => w.heap.size ≤ a.block ∧ e = (pasteR W H xs W' H' ys x y).2.2.2 ∧ n1 = (pasteR W H xs W' H' ys x y).1 ∧ n2 = (pasteR W H xs W' H' ys x y).2.1 ∧ Fg [a.block, k22, k17, k3, k2, k1] w u 1 p l cp (px (pasteR W H xs W' H' ys x y).2.2.1) ∧ Fg [a.block, k22, k17, k3, k2, k1] w u 1 p6 k18 k19 (px (cropR W H xs x y c d).2.2.1) ∧ Fg [a.block, k22, k17, k3, k2, k1] w u 1 p7 l7 c7 (px (cropR W H xs x y c d).2.2.1) | _ => False
    have pst : ∀ {u : World} {q r : Option Addr} {cq cr : Nat} {L : List Nat} {K : Ending → World → Prop}, Img u q len xs → len ≤ cq → Img u r len' ys → len' ≤ cr → Ext w u → (∀ b, b ∈ L → w.heap.size ≤ b ∧ b < u.heap.size) →
        (∀ p l cp u', Ext u u' → Fg L w u' 1 p l cp (px (pasteR W H xs W' H' ys x y).2.2.1) → K (.returned (.tuple #[.agg #[i64 (pasteR W H xs W' H' ys x y).1, i64 (pasteR W H xs W' H' ys x y).2.1, .slice p l cp], i64 (pasteR W H xs W' H' ys x y).2.2.2])) u') →
        Calls P F.raster_Paste #[.agg #[i64 W, i64 H, .slice q len cq], .agg #[i64 W', i64 H', .slice r len' cr], i64 x, i64 y] u K := by
      intro u q r cq cr L K h1 h2 h3 h4 hE hL hK
      exact Paste_spec h1 h3 h4 hi.sz hx64 hy64 fun p l cp u' hf => hK p l cp u' hf.ext ((hf.from hE hL).mono (by simp))
    refine ⟨A, ⟨fun w15 hL15 => ?_, fun k38 hk38 w27 hL27 => ?_⟩, fun n42 k45 n43 n44 p17 k46 k47 w32 hI => ?_⟩
    · have f15 := f14.push hL15 (by simp; omega)
      have g15 := g14.push hL15 (by simp; omega)
      have hE15 := f15.ext
      refine own_spec (hi.img.ext hE15) hi.sz fun p8 c8 w16 hE16 ho16 => ⟨_, _, _, _, _, rfl, hE16.keep _, hE16.keeps, ⟨?_, fun k33 hk33 w23 hL23 => ?_⟩⟩
      · have hE16' := hE15.trans hE16
        refine own_spec (hj.img.ext hE16') hj.sz fun p9 c9 w17 hE17 ho17 => ⟨_, _, _, _, _, rfl, hE17.keep _, hE17.keeps, ⟨?_, fun k30 hk30 w20 hL20 => ?_⟩⟩
        · have f17 := ((f15.step hE16).step hE17)
          have g17 := ((g15.step hE16).step hE17)
          refine pst (L := [k22, k17, k3, k2, k1]) ((ow_img ho16).1.ext hE17) (ow_img ho16).2 (ow_img ho17).1 (ow_img ho17).2 f17.ext (fun b hb => f17.avs b (by simp at hb ⊢; omega)) fun p l cp w18 hE18 hf18 => ⟨_, _, _, _, _, _, rfl, hE18.keep _, fun k29 hk29 w19 hL19 => ?_⟩
          have hs18 := hf18.ext.size
          exact ⟨(show w.heap.size ≤ k29 by omega), rfl, rfl, rfl, (hf18.push hL19 (by simp; omega)).mono (by simp), ((f17.step hE18).push hL19 (by simp; omega)).mono (by simp), ((g17.step hE18).push hL19 (by simp; omega)).mono (by simp)⟩
        · have f17 := ((f15.step hE16).step hE17)
          have g17 := ((g15.step hE16).step hE17)
          have o16 := ((Fg.ofOw (bs := [k22, k17, k3, k2, k1]) ho16 hE15 hE16 (fun b hb => f15.avs b (by simp at hb ⊢; omega))).step hE17).push hL20 (by simp; omega)
          have o17 := (Fg.ofOw (bs := [k22, k17, k3, k2, k1]) ho17 hE16' hE17 (fun b hb => (f15.step hE16).avs b (by simp at hb ⊢; omega))).push hL20 (by simp; omega)
          have f20 := f17.push hL20 (by simp; omega)
          have g20 := g17.push hL20 (by simp; omega)
          have hs17 := f17.ext.size
          refine pst (L := [k30, k22, k17, k3, k2, k1]) (fg_img o16).1 (fg_img o16).2 (fg_img o17).1 (fg_img o17).2 f20.ext (fun b hb => f20.avs b (by simp at hb ⊢; omega)) fun p l cp w21 hE21 hf21 => ⟨_, _, _, _, _, _, rfl, hE21.keep _, fun w22 hL22 => ?_⟩
          exact ⟨(show w.heap.size ≤ k30 by omega), rfl, rfl, rfl, (hf21.push hL22 (by simp)).mono (by simp), ((f20.step hE21).push hL22 (by simp)).mono (by simp), ((g20.step hE21).push hL22 (by simp)).mono (by simp)⟩
      · have f16 := f15.step hE16
        have hs16 := f16.ext.size
        have o16 := (Fg.ofOw (bs := [k22, k17, k3, k2, k1]) ho16 hE15 hE16 (fun b hb => f15.avs b (by simp at hb ⊢; omega))).push hL23 (by simp; omega)
        have f23 := f16.push hL23 (by simp; omega)
        have g23 := (g15.step hE16).push hL23 (by simp; omega)
        refine own_spec (hj.img.ext f23.ext) hj.sz fun p9 c9 w24 hE24 ho24 => ⟨_, _, _, _, _, rfl, hE24.keep _, hE24.keeps, ?_⟩
        have f24 := f23.step hE24
        have o24 := o16.step hE24
        refine pst (L := [k33, k22, k17, k3, k2, k1]) (fg_img o24).1 (fg_img o24).2 (ow_img ho24).1 (ow_img ho24).2 f24.ext (fun b hb => f24.avs b (by simp at hb ⊢; omega)) fun p l cp w25 hE25 hf25 => ⟨_, _, _, _, _, _, rfl, hE25.keep _, fun w26 hL26 => ?_⟩
        exact ⟨(show w.heap.size ≤ k33 by omega), rfl, rfl, rfl, (hf25.push hL26 (by simp)).mono (by simp), ((f24.step hE25).push hL26 (by simp)).mono (by simp), (((g23.step hE24).step hE25).push hL26 (by simp)).mono (by simp)⟩
    · have f27 := f14.push hL27 (by simp; omega)
      have g27 := g14.push hL27 (by simp; omega)
      refine own_spec (hi.img.ext f27.ext) hi.sz fun p8 c8 w28 hE28 ho28 => ⟨_, _, _, _, _, rfl, hE28.keep _, hE28.keeps, ?_⟩
      refine own_spec (hj.img.ext (f27.step hE28).ext) hj.sz fun p9 c9 w29 hE29 ho29 => ⟨_, _, _, _, _, rfl, hE29.keep _, hE29.keeps, ?_⟩
      have f29 := (f27.step hE28).step hE29
      refine pst (L := [k38, k22, k17, k3, k2, k1]) ((ow_img ho28).1.ext hE29) (ow_img ho28).2 (ow_img ho29).1 (ow_img ho29).2 f29.ext (fun b hb => f29.avs b (by simp at hb ⊢; omega)) fun p l cp w30 hE30 hf30 => ⟨_, _, _, _, _, _, rfl, hE30.keep _, fun w31 hL31 => ?_⟩
      exact ⟨(show w.heap.size ≤ k38 by omega), rfl, rfl, rfl, (hf30.push hL31 (by simp)).mono (by simp), ((f29.step hE30).push hL31 (by simp)).mono (by simp), ((((g27.step hE28).step hE29).step hE30).push hL31 (by simp)).mono (by simp)⟩
    · obtain ⟨hk45, rfl, rfl, rfl, q32, f32, g32⟩ := hI
      refine refPaste_spec (hi.img.ext f32.ext) (hj.img.ext f32.ext) hi.sz fun p18 l18 c18 w33 hf33 => ⟨_, _, _, _, _, _, rfl, hf33.ext.keep _, fun k50 hk50 w34 hL34 => ?_⟩
      have r34 := (hf33.from (bs := [k45, k22, k17, k3, k2, k1]) f32.ext f32.avs).push hL34 (by simp; omega)
      have f34 := (f32.step hf33.ext).push hL34 (by simp; omega)
      have g34 := (g32.step hf33.ext).push hL34 (by simp; omega)
      have q34 := (q32.step hf33.ext).push hL34 (by simp; omega)
      refine refSame_spec (fg_img f34).1 (fg_img g34).1 (by rw [(fg_img f34).1.len]; exact cropR_len) fun w35 hE35 => ⟨_, rfl, hE35.keep _, brB_t (by simp [same_self]) ?_⟩
      refine refSame_spec (fg_img (q34.step hE35)).1 (fg_img (r34.step hE35)).1 (by rw [(fg_img q34).1.len]; exact pasteR_len) fun w36 hE36 => ⟨_, rfl, hE36.keep _, to_bool (hR w36 ((f34.step hE35).step hE36).ext) (by simp [same_self])⟩
end Go.Proofs.Ytcfcholodhppmaa
