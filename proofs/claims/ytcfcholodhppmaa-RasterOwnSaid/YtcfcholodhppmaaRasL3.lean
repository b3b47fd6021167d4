/- The laws of raster over the contracts: a part laid back, grids of images. -/
import Derived.Test.YtcfcholodhppmaaRasL2
namespace Go.Proofs.Ytcfcholodhppmaa
open Go Go.Vc Go.RowKit
set_option maxRecDepth 100000
set_option linter.unusedVariables false
set_option linter.unusedSimpArgs false

theorem colAt_left {a b : List Int} {q : Nat} (h : 4 * q + 4 ≤ a.length) : colAt (a ++ b) q = colAt a q := by
  have g : ∀ i, i < 4 * q + 4 → (a ++ b).getD i 0 = a.getD i 0 := fun i hi => by simp [List.getD, List.getElem?_append_left (show i < a.length by omega)]
  simp only [colAt, g _ (show 4 * q < _ by omega), g _ (show 4 * q + 1 < _ by omega), g _ (show 4 * q + 2 < _ by omega), g _ (show 4 * q + 3 < _ by omega)]
theorem colAt_right {a b : List Int} {n q : Nat} (h : a.length = 4 * n) : colAt (a ++ b) (n + q) = colAt b q := by
  have g : ∀ i, (a ++ b).getD (4 * (n + q) + i) 0 = b.getD (4 * q + i) 0 := fun i => by
    simp only [List.getD]; rw [List.getElem?_append_right (by omega)]; congr 2; omega
  have g0 := g 0
  simp only [Nat.add_zero] at g0
  simp only [colAt, g, g0]
theorem colAt_take {a : List Int} {n q : Nat} (h : q < n) : colAt (a.take (4 * n)) q = colAt a q := by
  have g : ∀ i, i < 4 * n → (a.take (4 * n)).getD i 0 = a.getD i 0 := fun i hi => by simp [List.getD, List.getElem?_take, hi]
  simp only [colAt, g _ (show 4 * q < _ by omega), g _ (show 4 * q + 1 < _ by omega), g _ (show 4 * q + 2 < _ by omega), g _ (show 4 * q + 3 < _ by omega)]
theorem colAt_dropq {a : List Int} {n q : Nat} : colAt (a.drop (4 * n)) q = colAt a (n + q) := by
  have g : ∀ i, (a.drop (4 * n)).getD (4 * q + i) 0 = a.getD (4 * (n + q) + i) 0 := fun i => by simp only [List.getD, List.getElem?_drop]; congr 2; omega
  have g0 := g 0
  simp only [Nat.add_zero] at g0
  simp only [colAt, g, g0]
theorem colAt_crop {xs : List Int} {x y a b W H : Int} (hg : good W H xs = true) (hr : inR x y a b W H = true) {i : Nat} (hi : (i : Int) < a) : ∀ n : Nat, (n : Int) ≤ b → ∀ j : Nat, j < n → colAt (cropX xs W x y a.toNat n) (j * a.toNat + i) = colAt xs ((y + j) * W + x + i).toNat
  | 0, _, j, hj => by omega
  | n + 1, hn, j, hj => by
    have hl := cropX_length hg hr n (by omega)
    obtain ⟨q1, q2, q3, _⟩ := rowAt (good_iff.1 hg).1 hr (k := n) (by omega) (by omega)
    have hxl := (good_iff.1 hg).2
    have hrl : (rowX xs W x y n a.toNat).length = 4 * a.toNat := rowX_length q1 (by omega)
    rw [cropX]
    by_cases hjn : j < n
    · have hm : (j + 1) * a.toNat ≤ n * a.toNat := Nat.mul_le_mul_right _ hjn
      rw [Nat.add_mul] at hm
      rw [colAt_left (by omega)]
      exact colAt_crop hg hr hi n (by omega) j hjn
    · have : j = n := by omega
      subst this
      rw [colAt_right hl, rowX, colAt_take (by omega)]
      obtain ⟨q, hq⟩ := Int.eq_ofNat_of_zero_le q1
      rw [hq, show (4 * ((q : Nat) : Int)).toNat = 4 * q by omega, colAt_dropq, show (((q : Nat) : Int) + (i : Int)).toNat = q + i by omega]
theorem good_crop {xs : List Int} {x y a b W H : Int} (hg : good W H xs = true) (hr : inR x y a b W H = true) : good a b (cropX xs W x y a.toNat b.toNat) = true := by
  obtain ⟨r1, r2, r3, r4, r5, r6, r7, r8⟩ := inR_iff.1 hr
  obtain ⟨g1, g2, g3, g4, g5⟩ := gfits_iff.1 (good_iff.1 hg).1
  have hab : a * b ≤ W * H := Int.mul_le_mul r5 r6 (by omega) (by omega)
  refine good_iff.2 ⟨gfits_iff.2 ⟨by omega, by omega, by omega, by omega, by omega⟩, ?_⟩
  rw [cropX_length hg hr b.toNat (by omega)]
  rw [Int.natCast_mul, Int.natCast_mul, Int.mul_comm a b, show ((b.toNat : Nat) : Int) = b by omega, show ((a.toNat : Nat) : Int) = a by omega]; rfl
theorem paste_crop {xs : List Int} {x y a b W H : Int} (hg : good W H xs = true) (hr : inR x y a b W H = true) : pasteX W H a b x y xs (cropX xs W x y a.toNat b.toNat) = xs := by
  obtain ⟨r1, r2, r3, r4, r5, r6, r7, r8⟩ := inR_iff.1 hr
  obtain ⟨g1, g2, g3, g4, g5⟩ := gfits_iff.1 (good_iff.1 hg).1
  have hxl := (good_iff.1 hg).2
  have e : (List.range (W * H).toNat).map (pasteC W a b x y xs (cropX xs W x y a.toNat b.toNat)) = colsOf xs (W * H).toNat := by
    unfold colsOf
    refine List.map_congr_left fun q hq => ?_
    unfold pasteC
    split
    · rename_i hin
      simp only [inP, decide_eq_true_eq] at hin
      have hc := colAt_crop hg hr (i := ((q : Int) % W - x).toNat) (by omega) b.toNat (by omega) ((q : Int) / W - y).toNat (by omega)
      have e1 : ((((q : Int) / W - y).toNat * a.toNat + ((q : Int) % W - x).toNat : Nat) : Int) = ((q : Int) / W - y) * a + ((q : Int) % W - x) := by
        rw [Int.natCast_add, Int.natCast_mul]; congr 1
        · congr 1 <;> omega
        · omega
      rw [show (((q : Int) / W - y) * a + ((q : Int) % W - x)).toNat = ((q : Int) / W - y).toNat * a.toNat + ((q : Int) % W - x).toNat by omega, hc]
      congr 1
      have := Int.ediv_mul_add_emod (q : Int) W
      rw [show y + (((q : Int) / W - y).toNat : Int) = (q : Int) / W by omega]
      omega
    · rfl
  rw [pasteX, e, flat_colsOf' (by have := Int.mul_pos (show 0 < W by omega) (show 0 < H by omega); omega)]
theorem back_walk {w : World} {b : Option Addr} {len cap : Nat} {W H x y c d : Int} {xs : List Int} {R : Ending → World → Prop} (hi : ImgOk w W H b len cap xs) (hr : RectOk x y c d) (hR : ∀ w', Ext w w' → R (.returned (.bool true)) w') :
    Calls P F.law09_RasterBack #[.agg #[i64 W, i64 H, .slice b len cap], .agg #[i64 x, i64 y, i64 c, i64 d]] w R := by
  refine calls_law09_RasterBack _ _ _ _ _ _ _ _ _ _ _ ?_
  intro k1 hk1 k2 hk2 w1 hL1
  have hx64 := wf64 hr.1
  have hy64 := wf64 hr.2.1
  have hE1 : Ext w w1 := hL1.ext (by simp; omega)
  have hl1 : ∀ b, b ∈ [k2, k1] → w.heap.size ≤ b ∧ b < w1.heap.size := fun b hb => ⟨by simp at hb; omega, hL1.there b hb⟩
  refine wakes_spec fun w2 hE2 => ⟨_, rfl, hE2.keep _, brB_f rfl ?_⟩
  have hE12 := (hE1.trans hE2).drew
  have hs2 := hE2.size
  have hs12 := hE12.size
  have hl2 : ∀ b, b ∈ [k2, k1] → w.heap.size ≤ b ∧ b < w2.drew.heap.size := fun b hb => ⟨(hl1 b hb).1, Nat.lt_of_lt_of_le (hl1 b hb).2 hs2⟩
  refine ⟨fun vs u => match vs with | [.int _ e, .pointer (some a), .int _ n1, .int _ n2, .slice p l cp] => w.heap.size ≤ a.block ∧ e = (cropR W H xs x y c d).2.2.2 ∧ n1 = (cropR W H xs x y c d).1 ∧ n2 = (cropR W H xs x y c d).2.1 ∧ Fg [a.block, k2, k1] w u 1 p l cp (px (cropR W H xs x y c d).2.2.1) | _ => False,
    ⟨?_, fun k12 hk12 w9 hL9 => ?_⟩, fun n14 k17 n15 n16 p6 k18 k19 w13 hI => ?_⟩
  · refine own_spec (hi.img.ext hE12) hi.sz fun p1 c1 w3 hE3 ho3 => ⟨_, _, _, _, _, rfl, hE3.keep _, hE3.keeps, ?_, fun k9 hk9 w6 hL6 => ?_⟩
    · have hE13 := hE12.trans hE3
      have hs3 := hE3.size
      have hs := hE13.size
      refine Crop_spec (ow_img ho3).1 (ow_img ho3).2 fun p2 l2 c2 w4 hf4 => ⟨_, _, _, _, _, _, rfl, hf4.ext.keep _, fun k8 hk8 w5 hL5 => ⟨?_, rfl, rfl, rfl, ?_⟩⟩
      · have := hf4.ext.size; show w.heap.size ≤ k8; omega
      · exact ((hf4.from (bs := [k2, k1]) hE13 fun b hb => ⟨(hl2 b hb).1, Nat.lt_of_lt_of_le (hl2 b hb).2 hs3⟩).push hL5 (by simp; omega)).mono (by simp)
    · have f6 := (Fg.ofOw (bs := [k2, k1]) ho3 hE12 hE3 hl2).push hL6 (by simp; omega)
      have hs3 := hE3.size
      have hs6 := f6.ext.size
      refine Crop_spec (fg_img f6).1 (fg_img f6).2 fun p2 l2 c2 w7 hf7 => ⟨_, _, _, _, _, _, rfl, hf7.ext.keep _, fun w8 hL8 => ⟨?_, rfl, rfl, rfl, ?_⟩⟩
      · show w.heap.size ≤ k9; omega
      · exact ((hf7.from (bs := [k9, k2, k1]) f6.ext fun b hb => ⟨by simp at hb; omega, hL6.there b hb⟩).push hL8 (by simp)).mono (by simp)
  · have hk12' : w.heap.size ≤ k12 := Nat.le_trans hs12 hk12
    have hE9 : Ext w w9 := hE12.step hL9.chg (by simp; omega)
    refine own_spec (hi.img.ext hE9) hi.sz fun p2 c2 w10 hE10 ho10 => ⟨_, _, _, _, _, rfl, hE10.keep _, hE10.keeps, ?_⟩
    have hs10 := hE10.size
    refine Crop_spec (ow_img ho10).1 (ow_img ho10).2 fun p3 l3 c3 w11 hf11 => ⟨_, _, _, _, _, _, rfl, hf11.ext.keep _, fun w12 hL12 => ⟨hk12', rfl, rfl, rfl, ?_⟩⟩
    exact ((hf11.from (bs := [k12, k2, k1]) (hE9.trans hE10) fun b hb => ⟨by simp at hb; omega, Nat.lt_of_lt_of_le (hL9.there b hb) hs10⟩).push hL12 (by simp)).mono (by simp)
  · obtain ⟨hk17, he, hn1, hn2, f13⟩ := hI
    have hk17 : w.heap.size ≤ k17 := hk17
    have hlen := f13.len
    have hbad : cropR W H xs x y c d ≠ (c, d, cropX xs W x y c.toNat d.toNat, 0) → (cropR W H xs x y c d).2.2.2 ≠ 0 ∧ (cropR W H xs x y c d).2.2.1 = [] := by
      unfold cropR; split
      · split
        · intro h; exact absurd rfl h
        · intro _; exact ⟨by decide, rfl⟩
      · intro _; exact ⟨by decide, rfl⟩
    refine brB_i (fun hne => ?_) (fun heq => ?_)
    · have hne : n14 ≠ 0 := by simpa using hne
      have := hbad (fun e => hne (by rw [he, e]))
      rw [this.2] at hlen
      exact to_bool (hR w13 f13.ext) (by simp [hlen, px])
    · have heq : n14 = 0 := by simpa using heq
      have hb0 : cropR W H xs x y c d = (c, d, cropX xs W x y c.toNat d.toNat, 0) := Classical.byContradiction fun hn => (hbad hn).1 (he.symm.trans heq)
      have hg : good W H xs = true ∧ inR x y c d W H = true := by
        unfold cropR at hb0
        split at hb0
        · rename_i h1
          split at hb0
          · rename_i h2; exact ⟨h1, h2⟩
          · simp at hb0
        · simp at hb0
      have hcr := hb0
      rw [hb0] at he hn1 hn2 f13
      have he : n14 = 0 := he
      have hn1 : n15 = c := hn1
      have hn2 : n16 = d := hn2
      subst hn1; subst hn2; subst he
      have f13 : Fg [k17, k2, k1] w w13 1 p6 k18 k19 (px (cropX xs W x y n15.toNat n16.toNat)) := f13
      have hgc := good_crop hg.1 hg.2
      have hpr : pasteR W H xs n15 n16 (cropX xs W x y n15.toNat n16.toNat) x y = (W, H, xs, 0) := by
        unfold pasteR; rw [if_pos (by simp [hg.1, hgc]), paste_crop hg.1 hg.2]
      have f13d := f13.dr
      have hs13 := f13.ext.size
      refine ⟨fun vs u => match vs with | [.int _ e, .pointer (some a), .int _ n1, .int _ n2, .slice p l cp] => w.heap.size ≤ a.block ∧ e = 0 ∧ n1 = W ∧ n2 = H ∧ Fg [a.block, k17, k2, k1] w u 1 p l cp (px xs) ∧ Fg [a.block, k17, k2, k1] w u 1 p6 k18 k19 (px (cropX xs W x y n15.toNat n16.toNat)) | _ => False,
        ⟨?_, fun k27 hk27 w20 hL20 => ?_⟩, fun n30 k32 n31 n32 p12 k33 k34 w24 hI => ?_⟩
      · refine own_spec (hi.img.ext f13d.ext) hi.sz fun p7 c7 w14 hE14 ho14 => ⟨_, _, _, _, _, rfl, hE14.keep _, hE14.keeps, ?_, fun k24 hk24 w17 hL17 => ?_⟩
        · have f14 := f13d.step hE14
          refine Paste_spec (ow_img ho14).1 (fg_img f14).1 (fg_img f14).2 hi.sz hx64 hy64 fun p8 l8 c8 w15 hf15 => ⟨_, _, _, _, _, _, rfl, hf15.ext.keep _, fun k23 hk23 w16 hL16 => ?_⟩
          rw [hpr] at hf15 ⊢
          have hs15 := (f14.step hf15.ext).ext.size
          exact ⟨(show w.heap.size ≤ k23 by omega), rfl, rfl, rfl, ((hf15.from f14.ext f14.avs).push hL16 (by simp; omega)).mono (by simp), ((f14.step hf15.ext).push hL16 (by simp; omega)).mono (by simp)⟩
        · have f14 := f13d.step hE14
          have hs14 := f14.ext.size
          have f17 := f14.push hL17 (by simp; omega)
          have o17 := (Fg.ofOw ho14 f13d.ext hE14 f13d.avs).push hL17 (by simp; omega)
          refine Paste_spec (fg_img o17).1 (fg_img f17).1 (fg_img f17).2 hi.sz hx64 hy64 fun p8 l8 c8 w18 hf18 => ⟨_, _, _, _, _, _, rfl, hf18.ext.keep _, fun w19 hL19 => ?_⟩
          rw [hpr] at hf18 ⊢
          exact ⟨(show w.heap.size ≤ k24 by omega), rfl, rfl, rfl, ((hf18.from f17.ext f17.avs).push hL19 (by simp)).mono (by simp), ((f17.step hf18.ext).push hL19 (by simp)).mono (by simp)⟩
      · have hk27 : w13.heap.size ≤ k27 := hk27
        have hk27d : w13.drew.heap.size ≤ k27 := hk27
        have f20 := f13d.push hL20 (by simp; omega)
        refine own_spec (hi.img.ext f20.ext) hi.sz fun p7 c7 w21 hE21 ho21 => ⟨_, _, _, _, _, rfl, hE21.keep _, hE21.keeps, ?_⟩
        have f21 := f20.step hE21
        refine Paste_spec (ow_img ho21).1 (fg_img f21).1 (fg_img f21).2 hi.sz hx64 hy64 fun p8 l8 c8 w22 hf22 => ⟨_, _, _, _, _, _, rfl, hf22.ext.keep _, fun w23 hL23 => ?_⟩
        rw [hpr] at hf22 ⊢
        exact ⟨(show w.heap.size ≤ k27 by omega), rfl, rfl, rfl, ((hf22.from f21.ext f21.avs).push hL23 (by simp)).mono (by simp), ((f21.step hf22.ext).push hL23 (by simp)).mono (by simp)⟩
      · obtain ⟨hk32, rfl, rfl, rfl, q24, f24⟩ := hI
        have hk32 : w.heap.size ≤ k32 := hk32
        refine Crop_spec (fg_img q24).1 (fg_img q24).2 fun p13 l13 c13 w25 hf25 => ⟨_, _, _, _, _, _, rfl, hf25.ext.keep _, fun k37 hk37 => ?_⟩
        rw [hcr] at hf25 ⊢
        refine brB_t rfl fun w26 hL26 => ?_
        have g26 := (hf25.from f24.ext f24.avs).push hL26 (by simp; omega)
        have f26 := (f24.step hf25.ext).push hL26 (by simp; omega)
        have q26 := (q24.step hf25.ext).push hL26 (by simp; omega)
        have hql := q26.len
        rw [px_length, ← hi.img.len] at hql
        refine refSame_spec (fg_img q26).1 (hi.img.ext q26.ext) (by have := hi.sz; omega) fun w27 hE27 => ⟨_, rfl, hE27.keep _, brB_t same_self ?_⟩
        refine refSame_spec (fg_img (g26.step hE27)).1 (fg_img (f26.step hE27)).1 ?_ fun w28 hE28 => ⟨_, rfl, hE28.keep _, to_bool (hR w28 ((q26.step hE27).step hE28).ext) same_self.symm⟩
        rw [(fg_img g26).1.len]
        have := cropR_len (W := n31) (H := n32) (xs := xs) (x := x) (y := y) (a := n15) (b := n16)
        rw [hcr] at this; exact this
theorem grids_walk {w : World} {b : Option Addr} {len cap : Nat} {W H : Int} {xs : List Int} {R : Ending → World → Prop} (hi : ImgOk w W H b len cap xs) (hR : ∀ w', Ext w w' → R (.returned (.bool true)) w') :
    Calls P F.law09_RasterGrids #[.agg #[i64 W, i64 H, .slice b len cap]] w R := by
  refine calls_law09_RasterGrids _ _ _ _ _ _ _ ?_
  intro k1 hk1 w1 hL1
  have hE1 : Ext w w1 := hL1.ext (by simpa using hk1)
  have ht1 := hL1.there k1 (by simp)
  refine wakes_spec fun w2 hE2 => ⟨_, rfl, hE2.keep _, brB_f rfl ?_⟩
  have hE12 := hE1.trans hE2
  refine own_spec (hi.img.ext hE12) hi.sz fun p1 c1 w3 hE3 ho3 => ⟨_, _, _, _, _, rfl, hE3.keep _, ?_⟩
  have hE13 := hE12.trans hE3
  refine Grid_spec (ow_img ho3).1 (ow_img ho3).2 (fun hg w4 hE4 => ⟨_, _, rfl, hE4.keep _, ?_⟩) (fun hg gb cb w4 hE4 hgb hcb hgr => ⟨_, _, rfl, hE4.keep _, ?_⟩)
  · refine refGood_spec hi.img.len fun w5 hE5 => ⟨_, rfl, hE5.keep _, brB_t (by simp [hg]) ?_⟩
    exact to_bool (hR w5 ((hE13.trans hE4).trans hE5)) rfl
  · refine refGood_spec hi.img.len fun w5 hE5 => ⟨_, rfl, hE5.keep _, brB_f (by simp [hg]) (brB_f rfl ?_)⟩
    have hE15 := ((hE13.trans hE4).trans hE5).drew
    have hgr5 := (hgr.ext hE5).ext (Ext.refl w5).drew
    have hg' := good_iff.1 hg
    have hxl := hg'.2
    have hlen := hi.img.len
    obtain ⟨g1, g2, g3, g4, g5⟩ := gfits_iff.1 hg'.1
    have hpos : 0 < W * H := Int.mul_pos (by omega) (by omega)
    refine GW_spec hgr5 ⟨_, rfl, (Ext.refl _).keep _, Keeps.refl _, brB_f (by simp) ?_⟩
    refine GH_spec hgr5 ⟨_, rfl, (Ext.refl _).keep _, Keeps.refl _, brB_f (by simp) ?_⟩
    refine GCells_spec hgr5 fun p3 k5 w8 hE8 ho8 => ⟨_, _, _, rfl, hE8.keep _, brB_f ?_ ?_⟩
    · rw [wrapmul g1 g2 g3 g4, colsOf_length]; simp; omega
    have hE18 := hE15.trans hE8
    refine ⟨fun vs u => match vs with | [.int _ n] => 0 ≤ n ∧ n ≤ W * H ∧ Ext w8 u | _ => False, fun vs _ => match vs with | [.int _ n] => (W * H - n).toNat | _ => 0, ⟨Int.le_refl _, by omega, Ext.refl _⟩, fun n w9 hI => ?_⟩
    obtain ⟨n0, n1, hE9⟩ := hI
    refine brB_i (fun hlt => ?_) (fun hge => ?_)
    · have hlt : n < W * H := by rw [colsOf_length] at hlt; simp at hlt; omega
      refine cos_elem (ho8.sl.ext hE9).drew rfl n0 (by rw [colsOf_length]; omega) fun a e1 e2 e3 e4 => ⟨_, _, _, _, e1, e2, e3, e4, by omega, by omega, ?_⟩
      have hq : n / W ≤ n := Int.ediv_le_self _ n0
      have hq0 : 0 ≤ n / W := Int.ediv_nonneg n0 (by omega)
      have hr0 := Int.emod_nonneg n (b := W) (by omega)
      have hr1 := Int.emod_lt_of_pos n (b := W) (by omega)
      have hq1 : n / W < H := row_lt g1 (by rw [Int.mul_comm]; exact hlt)
      rw [show divZ .rem .i64 n W = n % W by simp only [divZ]; exact Int.tmod_eq_emod_of_nonneg n0,
        show divZ .quo .i64 n W = n / W by simp only [divZ]; rw [Int.tdiv_eq_ediv_of_nonneg n0]; exact w64 (by omega) (by omega)]
      refine refPixel_spec (hi.img.ext (hE18.trans hE9).drew) hg hr0 hq0 hr1 hq1 fun w10 hE10 => ⟨_, _, _, _, rfl, hE10.keep _, hE10.keeps, ?_⟩
      rw [show n / W * W + n % W = n from Int.ediv_mul_add_emod n W, co_inj (a := (colsOf xs (W * H).toNat).getD n.toNat zeroC) (b := colAt xs n.toNat), colsOf_getD (by omega)]
      refine brB_f (by simp) ?_
      rw [w64 (x := n + 1) (by omega) (by omega)]
      refine ⟨⟨by omega, by omega, hE9.drew.trans hE10⟩, ?_⟩
      show (W * H - (n + 1)).toNat < (W * H - n).toNat
      omega
    · refine Of_spec ((hgr5.ext hE8).ext hE9) fun p4 c4 w11 hf11 => ⟨_, _, _, _, _, _, rfl, hf11.ext.keep _, fun k8 hk8 w12 hL12 => ?_⟩
      have hE19 := hE18.trans hE9
      have hs2 := ((((((hE2.trans hE3).trans hE4).trans hE5).drew).trans hE8).trans hE9).size
      have f12 := (hf11.from (bs := [k1]) hE19 (by simp; omega)).push hL12 (by simp; omega)
      have ht12 := hL12.there
      refine Ofnil_spec fun w13 hE13 => ⟨_, _, _, _, _, _, rfl, hE13.keep _, fun k11 hk11 => brB_t rfl fun w14 hL14 => ?_⟩
      have f14 := (f12.step hE13).push hL14 (by simp; omega)
      rw [flat_colsOf' (by omega)] at f14
      have hs14 := hi.sz
      refine refSame_spec (fg_img f14).1 (hi.img.ext f14.ext) (by rw [colsOf_length]; omega) fun w15 hE15 => ⟨_, rfl, hE15.keep _, to_bool (hR w15 (f14.step hE15).ext) (by simp [same_self])⟩
end Go.Proofs.Ytcfcholodhppmaa
