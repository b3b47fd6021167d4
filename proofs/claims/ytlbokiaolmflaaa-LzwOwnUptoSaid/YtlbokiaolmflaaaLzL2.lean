/- The walks of LzwBack and LzwLong. -/
import Derived.Test.YtlbokiaolmflaaaLzL1
namespace Go.Proofs.Ytlbokiaolmflaaa
open Go Go.Vc Go.RowKit
set_option maxRecDepth 100000
set_option linter.unusedVariables false
set_option linter.unusedSimpArgs false

theorem tiff_back' {bs : List Int} {most : Int} (hb : Bs bs) : tiffR (tiffPackR bs) most = fin (max most 0) bs := by
  unfold tiffR lzR tiffPackR
  exact lz_pack (by omega) (by omega) wide_tiff (by omega) (fun x hx => by have := hb x hx; omega) (by omega)
theorem gif_fit {bs : List Int} {n : Nat} (hb : Bs bs) (hf : fitsB bs (n : Int) = true) : ∀ x ∈ bs, 0 ≤ x ∧ x < ((2 ^ n : Nat) : Int) := by
  rw [fitsB_iff, Int.toNat_natCast] at hf
  intro x hx
  obtain ⟨i, hi, rfl⟩ := List.getElem_of_mem hx
  have h1 := hf i hi
  rw [show bs.getD i 0 = bs[i] by simp [List.getD, List.getElem?_eq_getElem hi]] at h1
  have e : ((2 : Int) ^ n) = ((2 ^ n : Nat) : Int) := by simp
  have := hb _ hx
  omega
theorem gifPack_ok {bs : List Int} {n : Nat} (h1 : 2 ≤ n) (h2 : n < 9) (hf : fitsB bs (n : Int) = true) : gifPackR bs (n : Int) = (packL bs (2 ^ n) (n + 1) 0 false, 0) := by
  unfold gifPackR
  rw [if_neg (by omega), hf, Int.toNat_natCast]; rfl
theorem gif_back {bs : List Int} {n : Nat} {most : Int} (hb : Bs bs) (h1 : 2 ≤ n) (h2 : n < 9) (hf : fitsB bs (n : Int) = true) : gifR (gifPackR bs (n : Int)).1 (n : Int) most = fin (max most 0) bs := by
  have hp := pow8 n h1 h2
  rw [gifPack_ok h1 h2 hf]
  unfold gifR lzR
  rw [if_neg (by omega), Int.toNat_natCast]
  exact lz_pack hp.2 hp.1 (wide_gif h1 h2) (by omega) (gif_fit hb hf) (by omega)
theorem tiffPack_len {bs : List Int} (hb : Bs bs) : (tiffPackR bs).length ≤ 3 * bs.length + 6 :=
  packL_len (by omega) wide_tiff (by omega) (fun x hx => by have := hb x hx; omega)
theorem gifPack_len {bs : List Int} {n : Nat} (hb : Bs bs) (h1 : 2 ≤ n) (h2 : n < 9) (hf : fitsB bs (n : Int) = true) : (gifPackR bs (n : Int)).1.length ≤ 3 * bs.length + 6 := by
  rw [gifPack_ok h1 h2 hf]
  exact packL_len (pow8 n h1 h2).2 (wide_gif h1 h2) (by omega) (gif_fit hb hf)
theorem gifPack_bs {bs : List Int} {size : Int} : Bs (gifPackR bs size).1 := by
  unfold gifPackR
  split
  · simp [Bs]
  split
  · exact packL_bs
  · simp [Bs]
theorem fg_len {av : List Nat} {w w' : World} {p : Option Addr} {l c : Nat} {xs : List Int} (h : Fg av w w' 1 p l c (bytes xs)) : l = xs.length := by have := h.len; rwa [bytes_length] at this
theorem back_walk {W : World} {b : Option Addr} {len cap : Nat} {xs : List Int} {size : Int} {R : Ending → World → Prop} (h : BytesOk W b len cap xs ∧ len ≤ 1048576) (w1 : (Lit.int .i64 size).wf = true)
    (hR : ∀ w', Ext W w' → R (.returned (.bool true)) w') : Calls P F.law06_LzwBack #[.slice b len cap, i64 size] W R := by
  obtain ⟨f, h20⟩ := h
  have hsz := wf64 w1
  have hl := f.long
  have hpl := tiffPack_len f.fit
  refine calls_law06_LzwBack _ _ _ _ _ _ ?_
  refine wakes_spec fun u1 hE1 => ⟨_, rfl, brB_f rfl ?_⟩
  refine own_spec (f.sl.ext hE1) f.long (by omega) fun p1 k2 u2 hE2 ho => ⟨_, _, _, rfl, ?_⟩
  refine TiffPack_spec ho.sl f.long (by omega) f.fit fun p2 k3 k4 u3 hp => ⟨_, _, _, rfl, ?_⟩
  have hE3 := (hE1.trans hE2).trans hp.ext
  have hk3 := fg_len hp
  refine refTiffUnpack_spec hp.sl hk3 (by omega) packL_bs (by omega) (by omega) fun p3 k5 k6 u4 hx => ⟨_, _, _, _, rfl, ?_⟩
  rw [tiff_back' f.fit, fin_ok (by omega)] at hx ⊢
  refine own_spec (hp.sl.ext hx.ext) hk3 (by omega) fun p4 k8 u5 hE5 ho4 => ⟨_, _, _, rfl, ?_⟩
  refine TiffUnpack_spec ho4.sl hk3 (by omega) packL_bs (by omega) (by omega) fun p5 k9 k10 u6 hy => ⟨_, _, _, _, rfl, ?_⟩
  rw [tiff_back' f.fit, fin_ok (by omega)] at hy ⊢
  have hE36 := (hx.ext.trans hE5).trans hy.ext
  refine own_spec (hp.sl.ext hE36) hk3 (by omega) fun p6 k12 u7 hE7 ho6 => ⟨_, _, _, rfl, ?_⟩
  rw [w64 (x := (len : Int) - 1) (by omega) (by omega)]
  refine TiffUnpack_spec ho6.sl hk3 (by omega) packL_bs (by omega) (by omega) fun p7 k13 k14 uz hz => ⟨_, _, _, _, rfl, ?_⟩
  rw [tiff_back' f.fit]
  have hE8 := ((hE3.trans hE36).trans hE7).trans hz.ext
  have hE68 := hE7.trans hz.ext
  have hk5 : k5 = xs.length := fg_len hx
  have hk9 : k9 = xs.length := fg_len hy
  refine ⟨fun vs u => vs = [] ∧ Ext W u, ?_, ?_⟩
  · refine brB_f rfl ?_
    refine same_spec (hx.sl.ext ((hE5.trans hy.ext).trans hE68)) (f.sl.ext hE8) hk5 f.long (by omega) fun u9 hE9 => ⟨_, rfl, brB_f (by simp) ?_⟩
    refine same_spec (hy.sl.ext (hE68.trans hE9)) (f.sl.ext (hE8.trans hE9)) hk9 f.long (by omega) fun u10 hE10 => ⟨_, rfl, brB_f (by simp) ?_⟩
    have hE := (hE8.trans hE9).trans hE10
    refine brB_i (fun hb => brB_i (fun hb2 => ?_) (fun hb2 => ⟨rfl, hE⟩)) (fun hb => ⟨rfl, hE⟩)
    exfalso
    have hb2 : (len : Int) > 0 := by simpa using hb2
    unfold fin at hb
    rw [if_pos (by omega)] at hb
    simp at hb
  intro u11 hI1
  obtain ⟨-, hE11⟩ := hI1
  refine own_spec (f.sl.ext hE11) f.long (by omega) fun p8 k16 u12 hE12 ho8 => ⟨_, _, _, rfl, ?_⟩
  refine GifPack_spec ho8.sl f.long (by omega) f.fit fun p9 k17 k18 u13 hq => ⟨_, _, _, _, rfl, ?_⟩
  have hE13 := (hE11.trans hE12).trans hq.ext
  have hk17 := fg_len hq
  refine ⟨fun vs u => match vs with | [.bool c, .int _ k] => ∃ i : Nat, k = i ∧ i ≤ xs.length ∧ Ext W u ∧ Ext u13 u ∧ (c = true ↔ (2 ≤ size ∧ size ≤ 8 ∧ ∀ j, j < i → xs.getD j 0 < 2 ^ size.toNat)) | _ => False,
    fun vs _ => match vs with | [.bool c, .int _ k] => (xs.length - k).toNat | _ => 0, ⟨0, rfl, by omega, hE13, Ext.refl _, by simp⟩, fun c4 n5 u14 hI2 => ?_⟩
  obtain ⟨i, rfl, hi, hE14, hE1314, hc4⟩ := hI2
  refine brB_i (fun hlt => ?_) (fun hge => ?_)
  · have hlt : (i : Int) < len := by simpa using hlt
    have hil : i < xs.length := by omega
    have hxr : 0 ≤ xs.getD i 0 ∧ xs.getD i 0 ≤ 255 := by
      obtain ⟨v, h1, h2⟩ := getD_fit f.fit i
      omega
    refine ⟨fun vs u => match vs with | [.bool c] => Ext W u ∧ Ext u13 u ∧ (c = true ↔ (2 ≤ size ∧ size ≤ 8 ∧ ∀ j, j < i + 1 → xs.getD j 0 < 2 ^ size.toNat)) | _ => False, brB_i (fun hc => ?_) (fun hc => ?_), fun c5 u15 hI3 => ?_⟩
    · obtain ⟨s1, s2, s3⟩ := hc4.1 hc
      obtain ⟨n, rfl⟩ := Int.eq_ofNat_of_zero_le (show 0 ≤ size by omega)
      have hp := pow8 n (by omega) (by omega)
      have e : ((2 : Int) ^ n) = ((2 ^ n : Nat) : Int) := by simp
      refine (f.sl.ext hE14).get (by omega) (by rw [bytes_length]; omega) (v := u8 (xs.getD i 0)) (by rw [Int.toNat_natCast, bytes_get hil]) fun a1 ha1 => ⟨_, ha1, ?_⟩
      rw [wu64 (x := (n : Int)) (by omega) (by omega), w64 (x := xs.getD i 0) (by omega) (by omega), shl8 n (by omega)]
      refine ⟨by omega, hE14, hE1314, ?_⟩
      rw [decide_eq_true_eq, Int.toNat_natCast]
      rw [Int.toNat_natCast] at s3
      constructor
      · intro hh
        refine ⟨s1, s2, fun j hj => ?_⟩
        by_cases hji : j < i
        · exact s3 j hji
        · have : j = i := by omega
          subst this; omega
      · intro hh
        have := hh.2.2 i (by omega)
        omega
    · refine ⟨hE14, hE1314, ?_⟩
      constructor
      · intro hh; cases hh
      · intro hh
        have : c4 = true := hc4.2 ⟨hh.1, hh.2.1, fun j hj => hh.2.2 j (by omega)⟩
        rw [this] at hc; cases hc
    · obtain ⟨hE15, hE1315, hc5⟩ := hI3
      rw [w64 (by omega) (by omega)]
      exact ⟨⟨i + 1, by omega, by omega, hE15, hE1315, hc5⟩, by show ((xs.length : Int) - (i + 1)).toNat < ((xs.length : Int) - i).toNat; omega⟩
  · have hge : ¬ (i : Int) < len := by simpa using hge
    have : i = xs.length := by omega
    subst this
    refine brB_i (fun hc => ?_) (fun hc => ?_)
    · have hc : c4 = false := by simpa using hc
      have hno : gifPackR xs size = ([], 2) := by
        unfold gifPackR
        split
        · rfl
        · rename_i hs
          rw [if_neg]
          intro hfit
          rw [fitsB_iff] at hfit
          have : c4 = true := hc4.2 ⟨by omega, by omega, hfit⟩
          rw [this] at hc; cases hc
      rw [hno] at hk17 ⊢
      refine to_bool (hR u14 hE14) ?_
      rw [hk17]; rfl
    · have hc : c4 = true := by simpa using hc
      obtain ⟨s1, s2, s3⟩ := hc4.1 hc
      have hfit : fitsB xs size = true := fitsB_iff.2 s3
      obtain ⟨n, rfl⟩ := Int.eq_ofNat_of_zero_le (show 0 ≤ size by omega)
      have hgl := gifPack_len f.fit (by omega) (by omega) hfit
      have hgb := fun most => gif_back (most := most) f.fit (by omega) (by omega) hfit
      have hg2 : (gifPackR xs (n : Int)).2 = 0 := by rw [gifPack_ok (by omega) (by omega) hfit]
      rw [hg2]
      refine refGifUnpack_spec (hq.sl.ext hE1314) hk17 (by omega) gifPack_bs (by omega) (by omega) fun p10 k19 k20 u16 hx2 => ⟨_, _, _, _, rfl, ?_⟩
      rw [hgb, fin_ok (by omega)] at hx2 ⊢
      refine own_spec (hq.sl.ext (hE1314.trans hx2.ext)) hk17 (by omega) fun p11 k22 u17 hE17 ho11 => ⟨_, _, _, rfl, ?_⟩
      refine GifUnpack_spec ho11.sl hk17 (by omega) gifPack_bs (by omega) (by omega) fun p12 k23 k24 u18 hy2 => ⟨_, _, _, _, rfl, ?_⟩
      rw [hgb, fin_ok (by omega)] at hy2 ⊢
      have hE18 := ((hE14.trans hx2.ext).trans hE17).trans hy2.ext
      refine brB_t rfl ?_
      refine same_spec (hx2.sl.ext (hE17.trans hy2.ext)) (f.sl.ext hE18) (fg_len hx2) f.long (by have := fg_len hx2; simp only at this; omega) fun u19 hE19 => ⟨_, rfl, brB_t (by simp) ?_⟩
      refine same_spec (hy2.sl.ext hE19) (f.sl.ext (hE18.trans hE19)) (fg_len hy2) f.long (by have := fg_len hy2; simp only at this; omega) fun u20 hE20 => ⟨_, rfl, to_bool (hR u20 ((hE18.trans hE19).trans hE20)) (by simp)⟩
/-! ## many bytes in turn -/
theorem long_walk {W : World} {x n : Int} {R : Ending → World → Prop} (w1 : (Lit.int .u32 x).wf = true) (w2 : (Lit.int .i64 n).wf = true)
    (hR : ∀ w', Ext W w' → R (.returned (.bool true)) w') : Calls P F.law06_LzwLong #[.int .u32 x, i64 n] W R := by
  refine calls_law06_LzwLong _ _ _ _ ?_
  refine wakes_spec fun u1 hE1 => ⟨_, rfl, brB_f rfl (brB_i (fun hb => hR u1 hE1) (fun hb => ?_))⟩
  have hn : ¬ (n < 0 ∨ n > 12000) := by simpa using hb
  refine ⟨fun vs u => match vs with | [.int .u32 _, .slice p l c, .int _ k] => ∃ (i : Nat) (bs : List Int), k = i ∧ (i : Int) ≤ n ∧ bs.length = i ∧ (∀ y ∈ bs, 0 ≤ y ∧ y < 16) ∧ Fg [] W u 1 p l c (bytes bs) | _ => False,
    fun vs _ => match vs with | [.int .u32 _, .slice p l c, .int _ k] => (n - k).toNat | _ => 0, ⟨0, [], rfl, by omega, rfl, by simp, Fg.nil hE1 1⟩, fun n1 p1 k1 k2 n2 u2 hI => ?_⟩
  obtain ⟨i, bs, rfl, hi, hbl, hb16, hg⟩ := hI
  have hk1 := fg_len hg
  have hbs : Bs bs := fun y hy => by have := hb16 y hy; omega
  refine brB_i (fun hlt => ?_) (fun hge => ?_)
  · have hlt : (i : Int) < n := by simpa using hlt
    intro k3 hk3 u3 hL3
    generalize hv : IntKind.u8.wrap (shiftZ .shr .u32 (IntKind.u32.wrap (IntKind.u32.wrap (n1 * 1664525) + 1013904223)) 24) = v
    have hvr : 0 ≤ v := by rw [← hv, wb8]; omega
    have hdv : 0 ≤ divZ .rem .u8 v 16 ∧ divZ .rem .u8 v 16 < 16 := by
      simp only [divZ]
      rw [Int.tmod_eq_emod_of_nonneg hvr]; omega
    refine (hg.push (bs := [k3]) hL3 (by simp; omega)).app' (by simp [blocks]) rfl rfl (by omega) (by omega) fun p2 k5 u4 hg4 _ _ => ?_
    rw [w64 (by omega) (by omega)]
    refine ⟨⟨i + 1, bs ++ [divZ .rem .u8 v 16], by omega, by omega, by simp [hbl], fun y hy => ?_, ?_⟩, by show (n - ((i : Int) + 1)).toNat < (n - (i : Int)).toNat; omega⟩
    · rcases List.mem_append.1 hy with hy | hy
      · exact hb16 y hy
      · simp at hy; subst hy; exact hdv
    · rw [bytes_append]; exact hg4.mono (by simp)
  · have hge : ¬ (i : Int) < n := by simpa using hge
    have hin : n = i := by omega
    have hpl := tiffPack_len hbs
    have hfit : fitsB bs ((4 : Nat) : Int) = true := by
      rw [fitsB_iff]
      intro j hj
      have := hb16 (bs.getD j 0) (by simp [List.getD, List.getElem?_eq_getElem hj])
      show bs.getD j 0 < 2 ^ 4
      omega
    have hgl := gifPack_len hbs (by omega) (by omega) hfit
    have hg2 : (gifPackR bs ((4 : Nat) : Int)).2 = 0 := by rw [gifPack_ok (by omega) (by omega) hfit]
    refine own_spec hg.sl hk1 (by omega) fun p3 k7 u5 hE5 ho3 => ⟨_, _, _, rfl, ?_⟩
    refine TiffPack_spec ho3.sl hk1 (by omega) hbs fun p4 k8 k9 u6 hp => ⟨_, _, _, rfl, ?_⟩
    have hk8 := fg_len hp
    refine refTiffUnpack_spec hp.sl hk8 (by omega) packL_bs (by omega) (by omega) fun p5 k10 k11 u7 hx => ⟨_, _, _, _, rfl, ?_⟩
    rw [tiff_back' hbs, fin_ok (by omega)] at hx ⊢
    have hE7 := (hE5.trans hp.ext).trans hx.ext
    refine own_spec (hg.sl.ext hE7) hk1 (by omega) fun p6 k13 uz hE8 ho6 => ⟨_, _, _, rfl, ?_⟩
    refine GifPack_spec (size := ((4 : Nat) : Int)) ho6.sl hk1 (by omega) hbs fun p7 k14 k15 u9 hq => ⟨_, _, _, _, rfl, ?_⟩
    have hk14 := fg_len hq
    refine refGifUnpack_spec (size := ((4 : Nat) : Int)) hq.sl hk14 (by omega) gifPack_bs (by omega) (by omega) fun p8 k16 k17 u10 hy => ⟨_, _, _, _, rfl, ?_⟩
    rw [gif_back hbs (by omega) (by omega) hfit, fin_ok (by omega)] at hy ⊢
    rw [hg2]
    have hE710 := (hE8.trans hq.ext).trans hy.ext
    refine brB_t rfl ?_
    refine same_spec (hx.sl.ext hE710) (hg.sl.ext (hE7.trans hE710)) (fg_len hx) hk1 (by have := fg_len hx; simp only at this; omega) fun u11 hE11 => ⟨_, rfl, brB_t (by simp) ?_⟩
    refine same_spec (hy.sl.ext hE11) (hg.sl.ext ((hE7.trans hE710).trans hE11)) (fg_len hy) hk1 (by have := fg_len hy; simp only at this; omega) fun u12 hE12 => ⟨_, rfl, to_bool (hR u12 ((((hg.ext.trans hE7).trans hE710).trans hE11).trans hE12)) (by simp)⟩
end Go.Proofs.Ytlbokiaolmflaaa
