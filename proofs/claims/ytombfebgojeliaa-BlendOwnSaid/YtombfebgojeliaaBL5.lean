/- Blend: the outcome of two images: the document. -/
import Derived.Test.YtombfebgojeliaaBL4
namespace Go.Proofs.Ytombfebgojeliaa
open Go Go.Vc Go.RowKit
set_option maxRecDepth 100000
set_option linter.unusedVariables false
set_option linter.unusedSimpArgs false

def pf (op : ByteArray) (args : List Int) (W H : Int) (xs : List Int) (V G : Int) (ys : List Int) (w : Int) (k : Nat) : Co := pixR op args W H xs V G ys ((k : Int) % w) ((k : Int) / w)
def pxs (op : ByteArray) (args : List Int) (W H : Int) (xs : List Int) (V G : Int) (ys : List Int) (w : Int) (n : Nat) : List Int := flat ((List.range n).map (pf op args W H xs V G ys w))
def appR (op : ByteArray) (args : List Int) (W H : Int) (xs : List Int) (V G : Int) (ys : List Int) : Int × Int × List Int × Int :=
  if chkR op args ≠ 0 then (0, 0, [], chkR op args) else if good W H xs = false ∨ good V G ys = false then (0, 0, [], 6) else
  if (sizeR op args W H V G).2.2 ≠ 0 then (0, 0, [], (sizeR op args W H V G).2.2) else
  ((sizeR op args W H V G).1, (sizeR op args W H V G).2.1, pxs op args W H xs V G ys (sizeR op args W H V G).1 ((sizeR op args W H V G).1 * (sizeR op args W H V G).2.1).toNat, 0)
theorem size_facts {op : ByteArray} {args : List Int} {W H V G : Int} (h : (sizeR op args W H V G).2.2 = 0) :
    gfits (sizeR op args W H V G).1 (sizeR op args W H V G).2.1 = true ∧ (op = sBeside → (sizeR op args W H V G).1 = W + V ∧ (sizeR op args W H V G).2.1 = H ∧ H = G) ∧ (op = sBelow → (sizeR op args W H V G).1 = W ∧ W = V ∧ (sizeR op args W H V G).2.1 = H + G) ∧
    (op ≠ sBeside → op ≠ sBelow → (sizeR op args W H V G).1 = W ∧ (sizeR op args W H V G).2.1 = H ∧ (op ≠ sOver → W = V ∧ H = G)) := by
  unfold sizeR at h ⊢
  by_cases h1 : chkR op args ≠ 0
  · rw [if_pos h1] at h; exact (h1 h).elim
  rw [if_neg h1] at h ⊢
  by_cases h2 : gfits W H = false ∨ gfits V G = false
  · rw [if_pos h2] at h; simp at h
  rw [if_neg h2] at h ⊢
  by_cases h3 : (whOf op W H V G).2.2 = false
  · rw [if_pos h3] at h; simp at h
  rw [if_neg h3] at h ⊢
  by_cases h4 : gfits (whOf op W H V G).1 (whOf op W H V G).2.1 = false
  · rw [if_pos h4] at h; simp at h
  rw [if_neg h4]
  refine ⟨by simpa using h4, fun e => ?_, fun e => ?_, fun n1 n2 => ?_⟩
  · subst e
    unfold whOf at h3 ⊢
    rw [if_neg (by decide), if_pos rfl] at h3 ⊢
    simp at h3
    exact ⟨rfl, rfl, h3⟩
  · subst e
    unfold whOf at h3 ⊢
    rw [if_neg (by decide), if_neg (by decide), if_pos rfl] at h3 ⊢
    simp at h3
    exact ⟨rfl, h3, rfl⟩
  · unfold whOf at h3 ⊢
    by_cases n3 : op = sOver
    · rw [if_pos n3] at h3 ⊢
      exact ⟨rfl, rfl, fun hh => (hh n3).elim⟩
    · rw [if_neg n3, if_neg n1, if_neg n2] at h3 ⊢
      simp at h3
      exact ⟨rfl, rfl, fun _ => h3⟩
theorem flat_one' (c : Co) : flat [c] = coL c := by simp [flat]
theorem flat_append' (a b : List Co) : flat (a ++ b) = flat a ++ flat b := by simp [flat]
theorem pxs_succ (op : ByteArray) (args : List Int) (W H : Int) (xs : List Int) (V G : Int) (ys : List Int) (w : Int) (n : Nat) : pxs op args W H xs V G ys w (n + 1) = pxs op args W H xs V G ys w n ++ coL (pf op args W H xs V G ys w n) := by
  unfold pxs
  rw [List.range_succ, List.map_append, flat_append']; simp [flat_one']
theorem pxs_length (op : ByteArray) (args : List Int) (W H : Int) (xs : List Int) (V G : Int) (ys : List Int) (w : Int) (n : Nat) : (pxs op args W H xs V G ys w n).length = 4 * n := by simp [pxs, flat_length]
theorem divmod {x y w : Int} (x0 : 0 ≤ x) (x1 : x < w) : (y * w + x) % w = x ∧ (y * w + x) / w = y := by
  constructor
  · rw [Int.add_comm, Int.add_mul_emod_self_right]; exact Int.emod_eq_of_lt x0 x1
  · rw [Int.add_comm, Int.add_mul_ediv_right _ _ (by omega), Int.ediv_eq_zero_of_lt x0 x1]; omega
set_option maxHeartbeats 4000000 in
theorem refApply_spec {w : World} {op : ByteArray} {pa p q : Option Addr} {la ca lp cp lq cq : Nat} {args xs ys : List Int} {W H V G : Int} {R : Ending → World → Prop} (ha : Ints w pa la args)
    (hp : Img w p lp xs) (hq : Img w q lq ys) (hxs : SmL xs) (hys : SmL ys)
    (hR : ∀ p' l' c' w', Fg [] w w' 1 p' l' c' (px (appR op args W H xs V G ys).2.2.1) → R (.returned (.tuple #[.agg #[i64 (appR op args W H xs V G ys).1, i64 (appR op args W H xs V G ys).2.1, .slice p' l' c'], i64 (appR op args W H xs V G ys).2.2.2])) w') :
    Calls P F.ref23_Apply #[.string op, .slice pa la ca, .agg #[i64 W, i64 H, .slice p lp cp], .agg #[i64 V, i64 G, .slice q lq cq]] w R := by
  refine calls_ref23_Apply _ _ _ _ _ _ _ _ _ _ _ _ _ _ _ _ ?_
  intro k1 hk1 k2 hk2 k3 hk3 w1 hL1
  have hb3 : ∀ b, b ∈ [k3, k2, k1] → w.heap.size ≤ b := by simp; omega
  have hE1 := Locl.exW (Ext.refl w) hL1 hb3
  have ht1 := hL1.there
  refine refCheck_spec (ha.ext hE1) fun w2 hE2 => ⟨_, rfl, hE2.keep _, brB_i (fun hb w3 hL3 => ?_) (fun hb => ?_)⟩
  · have hb : chkR op args ≠ 0 := by simpa using hb
    unfold appR at hR
    rw [if_pos hb] at hR
    exact hR none 0 0 w3 (Fg.nil (Locl.exW (hE1.trans hE2) hL3 hb3) 1)
  have hb : chkR op args = 0 := by simpa using hb
  have hE12 := hE1.trans hE2
  refine refGood_spec hp.len fun w4 hE4 => ⟨_, rfl, hE4.keep _, brB_i (fun hb1 w5 hL5 => ?_) (fun hb1 => ?_)⟩
  · have hb1 : good W H xs = false := by simpa using hb1
    unfold appR at hR
    rw [if_neg (by omega), if_pos (.inl hb1)] at hR
    exact hR none 0 0 w5 (Fg.nil (Locl.exW (hE12.trans hE4) hL5 hb3) 1)
  have hb1 : good W H xs = true := by simpa using hb1
  refine refGood_spec hq.len fun w6 hE6 => ⟨_, rfl, hE6.keep _, brB_i (fun hb2 w7 hL7 => ?_) (fun hb2 => ?_)⟩
  · have hb2 : good V G ys = false := by simpa using hb2
    unfold appR at hR
    rw [if_neg (by omega), if_pos (.inr hb2)] at hR
    exact hR none 0 0 w7 (Fg.nil (Locl.exW ((hE12.trans hE4).trans hE6) hL7 hb3) 1)
  have hb2 : good V G ys = true := by simpa using hb2
  have hE6' := (hE12.trans hE4).trans hE6
  refine refSize_spec (ha.ext hE6') fun w8 hE8 => ⟨_, _, _, rfl, hE8.keep _, brB_i (fun hb4 w9 hL9 => ?_) (fun hb4 => ?_)⟩
  · have hb4 : (sizeR op args W H V G).2.2 ≠ 0 := by simpa using hb4
    unfold appR at hR
    rw [if_neg (by omega), if_neg (by simp [hb1, hb2]), if_pos hb4] at hR
    exact hR none 0 0 w9 (Fg.nil (Locl.exW (hE6'.trans hE8) hL9 hb3) 1)
  have hb4 : (sizeR op args W H V G).2.2 = 0 := by simpa using hb4
  unfold appR at hR
  rw [if_neg (by omega), if_neg (by simp [hb1, hb2]), if_neg (by omega)] at hR
  obtain ⟨hfit, z1, z2, z3⟩ := size_facts hb4
  generalize sizeR op args W H V G = z at *
  obtain ⟨ow, oh, oe⟩ := z
  simp only at hb4 hfit z1 z2 z3 hR
  obtain ⟨g1, g2, g3, g4, g5⟩ := gfits_iff.1 hfit
  obtain ⟨a1, a2, a3, a4, a5⟩ := gfits_iff.1 (good_iff.1 hb1).1
  obtain ⟨b1, b2, b3, b4, b5⟩ := gfits_iff.1 (good_iff.1 hb2).1
  have hE8' := hE6'.trans hE8
  intro k4 hk4
  have hs8 := hE8'.size
  have hb5 : ∀ b, b ∈ [k4, k3, k2, k1] → w.heap.size ≤ b := by simp; omega
  refine ⟨fun vs u => match vs with | [.int _ y, .int _ nw, .int _ nh, .slice p1 k5 k6] => nw = ow ∧ nh = oh ∧ 0 ≤ y ∧ y ≤ oh ∧ Fg [k4, k3, k2, k1] w u 1 p1 k5 k6 (px (pxs op args W H xs V G ys ow (y * ow).toNat)) | _ => False,
    fun vs _ => match vs with | [.int _ y, .int _ nw, .int _ nh, .slice p1 k5 k6] => (oh - y).toNat | _ => 0, fun w10 hL10 => ⟨rfl, rfl, by omega, by omega, ?_⟩, ?_⟩
  · have : pxs op args W H xs V G ys ow ((0 : Int) * ow).toNat = [] := by rw [Int.zero_mul]; rfl
    rw [this]
    exact Fg.nil' hE8' hL10 hb5 1
  intro y nw nh p1 k5 k6 w11 hI
  obtain ⟨rfl, rfl, y0, y1, hfg⟩ := hI
  refine brB_i (fun hlt => ?_) (fun hge => ?_)
  · have hlt : y < nh := by simpa using hlt
    have hyw : 0 ≤ y * nw := Int.mul_nonneg y0 (by omega)
    have hyw2 : y * nw + nw ≤ nw * nh := by
      have h1 : (y + 1) * nw ≤ nh * nw := Int.mul_le_mul_of_nonneg_right (by omega) (by omega)
      rw [Int.add_mul, Int.one_mul, Int.mul_comm nh] at h1; exact h1
    refine ⟨fun vs u => match vs with | [.int _ x, .int _ mw, .int _ mh, .slice p2 k7 k8] => mw = nw ∧ mh = nh ∧ 0 ≤ x ∧ x ≤ nw ∧ Fg [k4, k3, k2, k1] w u 1 p2 k7 k8 (px (pxs op args W H xs V G ys nw (y * nw + x).toNat)) | _ => False,
      fun vs _ => match vs with | [.int _ x, .int _ mw, .int _ mh, .slice p2 k7 k8] => (nw - x).toNat | _ => 0, ⟨rfl, rfl, by omega, by omega, by rw [Int.add_zero]; exact hfg⟩, ?_⟩
    intro x mw mh p2 k7 k8 w12 hI2
    obtain ⟨rfl, rfl, x0, x1, hfg2⟩ := hI2
    have hk7 : k7 = 4 * (y * mw + x).toNat := by
      have := hfg2.len
      rw [px_length, pxs_length] at this; exact this
    refine brB_i (fun hlt2 => ?_) (fun hge2 => ?_)
    · have hlt2 : x < mw := by simpa using hlt2
      have hE12' := hfg2.dr.ext
      obtain ⟨dm1, dm2⟩ := divmod (y := y) x0 hlt2
      refine refPix_spec (ha.ext hE12') hb (hp.ext hE12') (hq.ext hE12') hb1 hb2 hxs hys ⟨x0, y0, fun e => ?_, fun e => ?_, fun n1 n2 => ?_⟩ fun w13 hE13 => ⟨_, _, _, _, rfl, hE13.keep _, hE13.keeps, ?_⟩
      · obtain ⟨e1, e2, e3⟩ := z1 e; omega
      · obtain ⟨e1, e2, e3⟩ := z2 e; omega
      · obtain ⟨e1, e2, e3⟩ := z3 n1 n2
        refine ⟨by omega, by omega, fun n3 => ?_⟩
        obtain ⟨e4, e5⟩ := e3 n3
        omega
      · refine Add_spec (c := pixR op args W H xs V G ys x y) (hfg2.dr.step hE13) (by omega) fun p3 c3 w14 hfg4 hk14 => ⟨_, _, _, _, _, rfl, hk14, fun w15 hL15 => ?_⟩
        have hfg5 := hfg4.locl hL15 fun b hb => .inl hb
        rw [w64 (x := x + 1) (by omega) (by omega)]
        refine ⟨⟨rfl, rfl, by omega, by omega, ?_⟩, by show (mw - (x + 1)).toNat < (mw - x).toNat; omega⟩
        have e : pxs op args W H xs V G ys mw (y * mw + (x + 1)).toNat = pxs op args W H xs V G ys mw (y * mw + x).toNat ++ coL (pixR op args W H xs V G ys x y) := by
          rw [show (y * mw + (x + 1)).toNat = (y * mw + x).toNat + 1 by omega, pxs_succ]
          unfold pf
          rw [show (((y * mw + x).toNat : Nat) : Int) = y * mw + x by omega, dm1, dm2]
        rw [e]; exact hfg5
    · have hge2 : ¬ x < mw := by simpa using hge2
      have : x = mw := by omega
      subst this
      rw [w64 (x := y + 1) (by omega) (by omega)]
      refine ⟨⟨rfl, rfl, by omega, by omega, ?_⟩, by show (mh - (y + 1)).toNat < (mh - y).toNat; omega⟩
      rw [Int.add_mul, Int.one_mul]; exact hfg2
  · have hge : ¬ y < nh := by simpa using hge
    have : y = nh := by omega
    subst this
    intro w16 hL16
    have hfg3 := (hfg.locl hL16 fun b hb => .inl hb).weak
    rw [Int.mul_comm] at hfg3
    exact hR _ _ _ _ hfg3
end Go.Proofs.Ytombfebgojeliaa
