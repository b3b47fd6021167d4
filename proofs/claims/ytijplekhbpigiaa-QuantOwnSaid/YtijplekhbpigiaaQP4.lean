/- Quant: which palettes may be; QuantPalettes. -/
import Derived.Test.YtijplekhbpigiaaQP3
namespace Go.Proofs.Ytijplekhbpigiaa
open Go Go.Vc Go.RowKit Go.Qn
set_option maxRecDepth 100000
set_option linter.unusedVariables false
set_option linter.unusedSimpArgs false
set_option maxHeartbeats 4000000

theorem nodup_at {l : List Co} (h : l.Nodup) {i j : Nat} (hi : i < l.length) (hj : j < l.length) (e : l.getD i zeroC = l.getD j zeroC) : i = j := by
  simp only [List.getD, List.getElem?_eq_getElem hi, List.getElem?_eq_getElem hj, Option.getD_some] at e
  rcases Nat.lt_trichotomy i j with g | g | g
  · exact absurd e (List.pairwise_iff_getElem.1 h i j hi hj g)
  · exact g
  · exact absurd e.symm (List.pairwise_iff_getElem.1 h j i hj hi g)
theorem May_spec {N : Nat} {w : World} {p q : Option Addr} {len cap qn qc most : Nat} {W H : Int} {xs : List Int} {pal : List Co} {R : Ending → World → Prop} (h : Img w p len xs) (hb : good W H xs = true) (hok : PxOk xs) (hq : Sl N w q (cos pal)) (hqn : pal.length = qn) (hm1 : 1 ≤ most) (hm : most ≤ 256)
    (hfew : (fullN xs (W * H).toNat).length ≤ most → pal = fullN xs (W * H).toNat)
    (hmany : most < (fullN xs (W * H).toNat).length → pal.length = most ∧ pal.Nodup ∧ ∀ c, c ∈ pal → ∃ j, j < (W * H).toNat ∧ clearC (colAt xs j) = false ∧ c = eightC (colAt xs j))
    (hR : ∀ w', Ext w w' → R (.returned (.bool true)) w') : Calls P F.ref14_May #[.agg #[i64 W, i64 H, .slice p len cap], i64 most, .slice q qn qc] w R := by
  subst hqn
  refine calls_ref14_May _ _ _ _ _ _ _ _ _ _ _ ?_
  intro k1 hk1 w1 hL1
  have hE1 : Ext w w1 := hL1.ext (by simpa using hk1)
  have ht1 := hL1.there k1 (by simp)
  have hs1 := hL1.size
  refine rMet_spec (h.ext hE1) hb hok (by omega) fun p2 c2 w2 hf2 => ⟨_, _, _, rfl, hf2.ext.keep _, ?_⟩
  have hE2 := hE1.trans hf2.ext
  have hs2 := hf2.ext.size
  have hmf := met_full (xs := xs) (most := most) (W * H).toNat
  have hml : (metN xs most (W * H).toNat).length = min (most + 1) (fullN xs (W * H).toNat).length := by rw [hmf, List.length_take]
  refine brB_i (fun hle => ?_) fun hgt => ?_
  · have hle : (metN xs most (W * H).toNat).length ≤ most := by have := of_decide_eq_true hle; omega
    have hful : (fullN xs (W * H).toNat).length ≤ most := by omega
    have hpal := hfew hful
    have e : metN xs most (W * H).toNat = pal := by rw [hmf, List.take_of_length_le (by omega), hpal]
    refine SameColors_spec (hq.ext hE2) hf2.sl rfl rfl (by rw [hpal]; omega) fun w3 hE3 => ⟨_, rfl, hE3.keep _, ?_⟩
    refine to_bool (hR w3 (hE2.trans hE3)) ?_
    rw [e]; simp
  · have hgt : ¬ (metN xs most (W * H).toNat).length ≤ most := by have := of_decide_eq_false hgt; omega
    obtain ⟨m1, m2, m3⟩ := hmany (by omega)
    refine Range_spec (h.ext hE2) hb hok fun a b c d e f g i w4 hE4 hr => ⟨_, _, _, _, _, _, _, _, rfl, hE4.keep _, fun k4 hk4 k5 hk5 => ?_⟩
    have hE24 := hE2.trans hE4
    have hs4 := hE4.size
    refine ⟨fun vs u => ∃ n : Nat, vs = [i64 n] ∧ n ≤ pal.length ∧ Ext w u, fun vs _ => match vs with | [.int _ n] => (pal.length - n).toNat | _ => 0, fun w5 hL5 => ⟨0, rfl, Nat.zero_le _, hE24.step hL5.chg (by simp; omega)⟩, fun n9 w6 hI => ?_⟩
    obtain ⟨n, hv, hn, hE6⟩ := hI
    obtain rfl : n9 = n := by simpa using hv
    refine brB_i (fun hlt => ?_) fun hge => ?_
    · have hlt : n < pal.length := by simp at hlt; omega
      refine cos_elem (hq.ext hE6) rfl (by omega) (by omega) fun a1 e1 e2 e3 e4 => ⟨_, _, _, _, e1, e2, e3, e4, fun k6 hk6 w7 hL7 => ?_⟩
      have en : (n : Int).toNat = n := by omega
      rw [en]
      have hs6 := hE6.size
      have hE7 := hE6.step hL7.chg (by simp; omega)
      have hcm := getD_mem hlt
      obtain ⟨j, hj, hcl, hce⟩ := m3 _ hcm
      refine depth_spec (c := pal.getD n zeroC) ⟨_, colAt_ok hok j, hce⟩ fun w8 hE8 => ⟨_, rfl, hE8.keep _, brB_f rfl ?_⟩
      have hE78 := hE7.trans hE8
      refine Place2_spec (c := pal.getD n zeroC) (hq.ext hE78) rfl (by omega) fun r w9 hE9 hr9 => ⟨_, rfl, hE9.keep _, ?_⟩
      have hrn : r = n := by
        rcases hr9 with ⟨_, h2⟩ | ⟨k, h1, h2, h3, _⟩
        · exact absurd hcm h2
        · rw [h1, nodup_at m2 h2 hlt h3]
      obtain ⟨⟨r1, r2⟩, ⟨r3, r4⟩, r5, r6⟩ := hr j hj hcl
      rw [← hce] at r1 r2 r3 r4 r5 r6
      refine brB_f ?_ ?_
      · rw [hrn]
        simp only [Bool.or_eq_false_iff, bne_self_eq_false, decide_eq_false_iff_not, true_and]
        exact ⟨⟨⟨⟨⟨by omega, by omega⟩, by omega⟩, by omega⟩, by omega⟩, by omega⟩
      · rw [w64 (x := (n : Int) + 1) (by omega) (by omega)]
        exact ⟨⟨n + 1, by simp, hlt, hE78.trans hE9⟩, by show ((pal.length : Int) - ((n : Int) + 1)).toNat < ((pal.length : Int) - n).toNat; omega⟩
    · refine to_bool (hR w6 hE6) ?_
      rw [m1]; simp
theorem palettes_walk {w : World} {W H most : Int} {p : Option Addr} {len cap : Nat} {xs : List Int} {R : Ending → World → Prop} (hi : ImgOk w W H p len cap xs) (hmw : (Lit.int .i64 most).wf = true) (hR : ∀ w', Ext w w' → R (.returned (.bool true)) w') :
    Calls P F.law14_QuantPalettes #[.agg #[i64 W, i64 H, .slice p len cap], i64 most] w R := by
  refine calls_law14_QuantPalettes _ _ _ _ _ _ _ _ ?_
  intro k1 hk1 w1 hL1
  have hE1 : Ext w w1 := hL1.ext (by simpa using hk1)
  refine wakes_spec fun w2 hE2 => ⟨_, rfl, hE2.keep _, brB_f rfl ?_⟩
  have hE12 := hE1.trans hE2
  refine own_spec (hi.img.ext hE12) hi.sz fun p3 c3 w3 hE3 ho3 => ⟨_, _, _, _, _, rfl, hE3.keep _, ?_⟩
  obtain ⟨i3, c3'⟩ := ow_img ho3
  refine Palette_spec i3 c3' hi.fit fun p4 c4 w4 hf4 => ⟨_, _, _, _, rfl, hf4.ext.keep _, ?_⟩
  have hE14 := (hE12.trans hE3).trans hf4.ext
  refine refGood_spec hi.img.len fun w5 hE5 => ⟨_, rfl, hE5.keep _, ?_⟩
  have hE15 := hE14.trans hE5
  refine brB_i (fun hb => ?_) fun hb => ?_
  · have hb : good W H xs = false := by simpa using hb
    refine to_bool (hR w5 hE15) ?_
    have e : palR W H xs most = ([], 6) := by unfold palR; rw [if_neg (by rw [hb]; exact Bool.false_ne_true)]
    rw [e]; rfl
  have hb : good W H xs = true := by simpa using hb
  refine brB_i (fun hm => ?_) fun hm => ?_
  · have hm : most < 1 ∨ 256 < most := by simpa using hm
    refine to_bool (hR w5 hE15) ?_
    have e : palR W H xs most = ([], 2) := by unfold palR; rw [if_pos hb, if_pos hm]
    rw [e]; rfl
  have hm : ¬ (most < 1 ∨ 256 < most) := by
    intro hx
    rcases hx with hx | hx <;> simp [hx] at hm
  obtain ⟨mn, rfl⟩ : ∃ mn : Nat, most = mn := ⟨most.toNat, by omega⟩
  have e : palR W H xs mn = (palV (fullN xs (W * H).toNat) mn, 0) := by unfold palR; rw [if_pos hb, if_neg hm, all_full]
  rw [e] at hf4 ⊢
  refine brB_t rfl ?_
  refine May_spec (hi.img.ext hE15) hb hi.fit (hf4.sl.ext hE5) rfl (by omega) (by omega) (fun hfew => ?_) (fun hmany => ?_) fun w6 hE6 => ⟨_, rfl, hE6.keep _, hR w6 (hE15.trans hE6)⟩
  · unfold palV; rw [if_pos (by omega)]
  · have e2 : palV (fullN xs (W * H).toNat) mn = (spN (fullN xs (W * H).toNat) (mn - 1)).map midC := by
      unfold palV; rw [if_neg (by omega), show (mn : Int).toNat - 1 = mn - 1 by omega]
    obtain ⟨x1, x2, x3⟩ := pal_many (xs := xs) (n := (W * H).toNat) (m := mn - 1) (by omega)
    rw [e2]
    exact ⟨x1.trans (by omega), x2, x3⟩
end Go.Proofs.Ytijplekhbpigiaa
