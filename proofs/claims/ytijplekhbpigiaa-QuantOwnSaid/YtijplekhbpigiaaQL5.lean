/- Quant: an image of few solid colours of eight bits comes back: the walk. -/
import Derived.Test.YtijplekhbpigiaaQP6
namespace Go.Proofs.Ytijplekhbpigiaa
open Go Go.Vc Go.RowKit Go.Qn
set_option maxRecDepth 100000
set_option linter.unusedVariables false
set_option linter.unusedSimpArgs false
set_option maxHeartbeats 4000000

def whP (xs : List Int) (n : Nat) : List Int := (List.range xs.length).map fun i => if i < n then whI i (xs.getD i 0) else xs.getD i 0
theorem whP_length (xs : List Int) (n : Nat) : (whP xs n).length = xs.length := by simp [whP]
theorem whP_zero (xs : List Int) : whP xs 0 = xs := by
  refine List.ext_getElem (by simp [whP]) fun i h1 h2 => ?_
  simp [whP, List.getD, h2]
theorem whP_all (xs : List Int) : whP xs xs.length = whX xs := by
  unfold whP whX
  exact List.map_congr_left fun i hi => by rw [if_pos (by simpa using hi)]
theorem whP_at {xs : List Int} {n : Nat} (h : n < xs.length) : (whP xs n).getD n 0 = xs.getD n 0 := by simp [whP, List.getD, h]
theorem whP_set {xs : List Int} {n : Nat} (h : n < xs.length) : (whP xs n).set n (whI n (xs.getD n 0)) = whP xs (n + 1) := by
  refine List.ext_getElem (by simp [whP]) fun i h1 h2 => ?_
  rw [List.getElem_set]
  simp only [whP, List.getElem_map, List.getElem_range]
  by_cases e : n = i
  · subst e; rw [if_pos rfl, if_pos (by omega)]
  · rw [if_neg e]
    by_cases g : i < n
    · rw [if_pos g, if_pos (by omega)]
    · rw [if_neg g, if_neg (by omega)]
theorem px_set {xs : List Int} {n : Nat} {v : Int} : (px xs).set n (u16 v) = px (xs.set n v) := by simp [px, List.map_set]
theorem whole_walk {w : World} {W H : Int} {p : Option Addr} {len cap : Nat} {xs : List Int} {R : Ending → World → Prop} (hi : ImgOk w W H p len cap xs) (hR : ∀ w', Ext w w' → R (.returned (.bool true)) w') :
    Calls P F.law14_QuantWhole #[.agg #[i64 W, i64 H, .slice p len cap]] w R := by
  refine calls_law14_QuantWhole _ _ _ _ _ _ _ ?_
  intro k1 hk1 w1 hL1
  have hE1 : Ext w w1 := hL1.ext (by simpa using hk1)
  have ht1 := hL1.there k1 (by simp)
  refine wakes_spec fun w2 hE2 => ⟨_, rfl, hE2.keep _, brB_f rfl ?_⟩
  have hE12 := hE1.trans hE2
  refine refGood_spec hi.img.len fun w3 hE3 => ⟨_, rfl, hE3.keep _, ?_⟩
  have hE13 := hE12.trans hE3
  refine brB_i (fun hb => ?_) fun hb => ?_
  · have hb : good W H xs = false := by simpa using hb
    refine own_spec (hi.img.ext hE13) hi.sz fun p4 c4 w4 hE4 ho4 => ⟨_, _, _, _, _, rfl, hE4.keep _, ?_⟩
    obtain ⟨i4, c4'⟩ := ow_img ho4
    refine Palette_spec i4 c4' hi.fit fun p5 c5 w5 hf5 => ⟨_, _, _, _, rfl, hf5.ext.keep _, ?_⟩
    refine to_bool (hR w5 ((hE13.trans hE4).trans hf5.ext)) ?_
    have e : palR W H xs 256 = ([], 6) := by unfold palR; rw [if_neg (by rw [hb]; exact Bool.false_ne_true)]
    rw [e]; rfl
  have hb : good W H xs = true := by simpa using hb
  obtain ⟨hg, hxl⟩ := good_iff.1 hb
  obtain ⟨g1, g2, g3, g4, g5⟩ := gfits_iff.1 hg
  have hpos : 0 < W * H := Int.mul_pos (by omega) (by omega)
  have hlx := hi.img.len
  subst hlx
  refine own_spec (hi.img.ext hE13) hi.sz fun p6 c6 w6 hE6 ho6 => ⟨_, _, _, _, _, rfl, hE6.keep _, ?_⟩
  obtain ⟨_, hle6, hx⟩ := ho6
  rcases hx with hx | ⟨b, rest, b0, b1, rfl, hcap, hC6⟩
  · omega
  have hs13 := (hE2.trans hE3).size
  have hs3 := hE13.size
  have hE16 := hE13.trans hE6
  have hs6 := hE6.size
  have hxs : xs.length ≤ 262144 := by omega
  refine ⟨fun vs u => ∃ n : Nat, vs = [i64 n] ∧ n ≤ xs.length ∧ Ext w u ∧ k1 < u.heap.size ∧ w6.heap.size ≤ u.heap.size ∧ Cs u b (px (whP xs n) ++ rest), fun vs _ => match vs with | [.int _ n] => (xs.length - n).toNat | _ => 0, fun w7 hL7 => ⟨0, rfl, Nat.zero_le _, hE16.step hL7.chg (by simp; omega), hL7.there k1 (by simp), hL7.size, ?_⟩, fun n6 w8 hI => ?_⟩
  · rw [whP_zero]
    exact hC6.locl hL7 (by simp; omega)
  obtain ⟨n, hv, hn, hE8, hk8, hs8, hC8⟩ := hI
  obtain rfl : n6 = n := by simpa using hv
  refine brB_i (fun hlt => ?_) fun hge => ?_
  · have hlt : n < xs.length := by simp at hlt; omega
    have hbv := getD_ok hi.fit n
    have hpl : (px (whP xs n)).length = xs.length := by rw [px_length, whP_length]
    have hcell : (px (whP xs n) ++ rest)[n]? = some (u16 (xs.getD n 0)) := by
      rw [List.getElem?_append_left (by omega), px_get (by rw [whP_length]; exact hlt), whP_at hlt]
    have en : (n : Int).toNat * 1 = n := by omega
    refine ⟨fun vs u => vs = [] ∧ Ext w u ∧ u.heap.size = w8.heap.size ∧ Cs u b (px (whP xs (n + 1)) ++ rest), ?_, fun w9 hI => ?_⟩
    · have hb1 : b ≠ k1 := by omega
      have hsetE : ∀ (u : World) (v : Value), Ext w u → Ext w (setCells u ⟨b, n, none⟩ [v] 0) := fun u v hE => hE.step (Chg.setCells u ⟨b, n, none⟩ [v] 0 :) fun i hi => by
        have : i = b := hi
        omega
      have hq : IntKind.u16.wrap (divZ .quo .u16 (xs.getD n 0) 257 * 257) = xs.getD n 0 / 257 * 257 := by
        unfold Byt at hbv
        simp only [divZ]
        rw [Int.tdiv_eq_ediv_of_nonneg hbv.1, wu16 (x := xs.getD n 0 / 257) (by omega) (by omega), wu16 (by omega) (by omega)]
      have st1 : ∀ v, Cs (setCells w8.drew ⟨b, n, none⟩ [u16 v] 0) b (px ((whP xs n).set n v) ++ rest) := fun v => by
        have := hC8.drew.set1 (off := n) (v := u16 v) (by rw [List.length_append]; omega)
        rwa [List.set_append_left _ _ (by omega), px_set] at this
      refine idx_i (a := ⟨b, 0, none⟩) (by omega) (by omega) rfl ?_
      rw [loc_add, Nat.zero_add, en]
      refine ⟨_, hC8.drew.cell hcell, ?_⟩
      refine idx_i (a := ⟨b, 0, none⟩) (by omega) (by omega) rfl ?_
      rw [loc_add, Nat.zero_add, en]
      refine ⟨⟨_, hC8.drew.cell hcell⟩, hC8.drew.frozen _, by simp; omega, ?_⟩
      rw [hq, remN (by omega)]
      refine brB_i (fun h3 => ?_) fun h3 => ?_
      · have h3 : n % 4 = 3 := by have := eq_of_beq h3; omega
        refine idx_i (a := ⟨b, 0, none⟩) (by omega) (by omega) rfl ?_
        rw [loc_add, Nat.zero_add, en]
        have s1 := st1 (xs.getD n 0 / 257 * 257)
        have s2 := s1.set1 (off := n) (v := u16 65535) (by rw [List.length_append, px_length, List.length_set, whP_length]; omega)
        rw [List.set_append_left _ _ (by rw [px_length, List.length_set, whP_length]; omega), px_set, List.set_set] at s2
        have ew : whI n (xs.getD n 0) = 65535 := by unfold whI; rw [if_pos h3]
        refine ⟨⟨u16 (xs.getD n 0 / 257 * 257), s1.cell (by rw [List.getElem?_append_left (by rw [px_length, List.length_set, whP_length]; omega), px_get (by rw [List.length_set, whP_length]; omega)]; simp [List.getD, whP_length, hlt])⟩, s1.frozen _, by simp; omega, rfl, hsetE _ _ (hsetE _ _ hE8.drew), ?_, ?_⟩
        · rw [(setCells_same _ _ _ _).size, (setCells_same _ _ _ _).size]; rfl
        · rw [← whP_set hlt, ew]; exact s2
      · have h3 : ¬ n % 4 = 3 := fun e => by
          have : ((n : Int) % 4 == 3) = true := by rw [show (n : Int) % 4 = 3 by omega]; rfl
          rw [this] at h3; cases h3
        have ew : whI n (xs.getD n 0) = xs.getD n 0 / 257 * 257 := by unfold whI; rw [if_neg h3]
        refine ⟨rfl, hsetE _ _ hE8.drew, ?_, ?_⟩
        · rw [(setCells_same _ _ _ _).size]; rfl
        · rw [← whP_set hlt, ew]; exact st1 _
    · obtain ⟨_, hE9, hs9, hC9⟩ := hI
      rw [w64 (x := (n : Int) + 1) (by omega) (by omega)]
      exact ⟨⟨n + 1, by simp, hlt, hE9, by omega, by omega, hC9⟩, by show ((xs.length : Int) - ((n : Int) + 1)).toNat < ((xs.length : Int) - n).toNat; omega⟩
  have hge : n = xs.length := by simp at hge; omega
  subst hge
  rw [whP_all] at hC8
  have hyb := wh_good hb
  have hyo := whX_ok hi.fit
  have hS := wh_pal hb hi.fit
  have hyl := whX_length xs
  have i8 : Img w8 (some ⟨b, 0, none⟩) xs.length (whX xs) := ⟨hC8.sl (off := 0) (by simp) hC8.lt, hyl.symm⟩
  have hsz := hi.sz
  refine own_spec i8 hsz fun p10 c10 w10 hE10 ho10 => ⟨_, _, _, _, _, rfl, hE10.keep _, ?_⟩
  obtain ⟨i10, c10'⟩ := ow_img ho10
  have e : palR W H (whX xs) 256 = (palV (fullN (whX xs) (W * H).toNat) 256, 0) := by unfold palR; rw [if_pos hyb, if_neg (by omega), all_full]
  have happ := whole_app hyb hS
  have hbk := whole_back hyb hS
  have hbs := whole_bs (ys := whX xs) (n := (W * H).toNat) hS
  have hsame := whole_same hb hi.fit
  have hpv : (fullN (whX xs) (W * H).toNat).length ≤ 256 → palV (fullN (whX xs) (W * H).toNat) 256 = fullN (whX xs) (W * H).toNat := fun h => by unfold palV; rw [if_pos (by omega)]
  refine Palette_spec i10 c10' hyo fun p11 c11 w11 hf11 => ⟨_, _, _, _, rfl, hf11.ext.keep _, ?_⟩
  rw [e] at hf11 ⊢
  generalize hpal : palV (fullN (whX xs) (W * H).toNat) 256 = pal at *
  have hE811 := hE10.trans hf11.ext
  refine own_spec (i8.ext hE811) hsz fun p12 c12 w12 hE12' ho12 => ⟨_, _, _, _, _, rfl, hE12'.keep _, ?_⟩
  obtain ⟨i12, c12'⟩ := ow_img ho12
  have hle := hS.le
  refine colours_spec (hf11.sl.ext hE12') rfl (by show pal.length * 8 ≤ _; omega) fun p13 c13 w13 hE13' ho13 => ⟨_, _, _, rfl, hE13'.keep _, ?_⟩
  refine Apply_spec (i12.ext hE13') c12' hyo ho13.sl rfl (by show pal.length * 8 ≤ _; omega) fun p14 c14 q14 d14 w14 hP => ⟨_, _, _, _, _, _, _, _, _, rfl, hP.ext.keep _, fun k20 hk20 w15 hL15 => ?_⟩
  rw [happ] at hP ⊢
  have hE814 := ((hE811.trans hE12').trans hE13').trans hP.ext
  have hs814 := hE814.size
  have hs1314 := hP.ext.size
  have hs813 := ((hE811.trans hE12').trans hE13').size
  have hE14 := hE8.trans hE814
  have hs14 := hE14.size
  obtain ⟨S1, S2, a1, a2, _, o1, o2⟩ := hP.two
  have x1 := o1.chg hL15.chg fun z hz hm => by
    have := a1 z hz; have := o1.bd z hz
    simp at hm; omega
  have x2 := o2.chg hL15.chg fun z hz hm => by
    have := a2 z hz; have := o2.bd z hz
    simp at hm; omega
  have hE15 : Ext w w15 := hE14.step hL15.chg (by simp; omega)
  have hC15 := (hC8.ext hE814).locl hL15 (by simp; omega)
  have hs15 := hL15.size
  have t20 := hL15.there k20 (by simp)
  refine Back_spec x1.own.sl rfl x2.own.sl rfl hbs fun p16 c16 w16 hf16 => ⟨_, _, _, _, _, _, rfl, hf16.ext.keep _, fun k23 hk23 => ?_⟩
  rw [hbk] at hf16 ⊢
  refine brB_t rfl ?_
  intro w17 hL17
  have hs16 := hf16.ext.size
  have hE16' := hE15.trans hf16.ext
  have hC17 := (hC15.ext hf16.ext).locl hL17 (by simp; omega)
  have o17 := hf16.ow.chg hL17.chg fun z z1 z2 hm => by simp at hm; omega
  have hE17 : Ext w w17 := hE16'.step hL17.chg (by have := hE16'.size; simp; omega)
  have i17 : Img w17 (some ⟨b, 0, none⟩) xs.length (whX xs) := ⟨hC17.sl (off := 0) (by simp) hC17.lt, hyl.symm⟩
  refine rMet_spec (most := 256) i17 hyb hyo (by decide) fun p18 c18 w18 hf18 => ⟨_, _, _, rfl, hf18.ext.keep _, ?_⟩
  have hE18 := hE17.trans hf18.ext
  refine brB_i (fun _ => hR w18 hE18) fun hfew => ?_
  have hfew : (fullN (whX xs) (W * H).toNat).length ≤ 256 := by
    have h1 := of_decide_eq_false hfew
    have h2 := met_full (xs := whX xs) (most := 256) (W * H).toNat
    rw [h2, List.length_take] at h1
    omega
  have hs2 := hsame hfew
  rw [← hpv hfew] at hs2
  refine refSame_spec (Img.of_ow (o17.ext hf18.ext)) (i17.ext hf18.ext) (by rw [hs2, hyl]; omega) fun w19 hE19 => ⟨_, rfl, hE19.keep _, to_bool (hR w19 (hE18.trans hE19)) ?_⟩
  rw [hs2]; simp [same]
end Go.Proofs.Ytijplekhbpigiaa
