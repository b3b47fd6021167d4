/- Blend: the outcome of two images: the program's walk. -/
import Derived.Test.YtombfebgojeliaaBL6
namespace Go.Proofs.Ytombfebgojeliaa
open Go Go.Vc Go.RowKit
set_option maxRecDepth 100000
set_option linter.unusedVariables false
set_option linter.unusedSimpArgs false

theorem good_flat {W H : Int} {f : Nat → Co} (hg : gfits W H = true) : good W H (flat ((List.range (W * H).toNat).map f)) = true := by
  obtain ⟨g1, g2, g3, g4, g5⟩ := gfits_iff.1 hg
  have : 0 ≤ W * H := Int.mul_nonneg (by omega) (by omega)
  rw [good_iff]
  exact ⟨hg, by rw [flat_length]; simp; omega⟩
theorem colAt_flat : ∀ {l : List Co} {k : Nat}, k < l.length → colAt (flat l) k = l.getD k zeroC
  | [], k, h => by simp at h
  | c :: l, 0, _ => by simp [colAt, flat_cons]
  | c :: l, k + 1, h => by
    have ih := colAt_flat (l := l) (k := k) (by simpa using h)
    rw [flat_cons]
    unfold colAt at ih ⊢
    rw [show 4 * (k + 1) = 4 * k + 1 + 1 + 1 + 1 by omega]
    simpa using ih
theorem fillX_flat {n : Nat} {c : Co} : fillX n c = flat ((List.range n).map fun _ => c) := by
  unfold fillX
  congr 1
  exact List.ext_getElem (by simp) (by simp)
theorem Img.of_fg {av : List Nat} {w w' : World} {q : Option Addr} {len c : Nat} {l : List Int} (h : Fg av w w' 1 q len c (px l)) : Img w' q len l := ⟨h.sl, by have := h.len; rwa [px_length] at this⟩
theorem Fg.leC {av : List Nat} {w w' : World} {p : Option Addr} {len c : Nat} {vs : List Value} (h : Fg av w w' 1 p len c vs) : len ≤ c := by
  obtain ⟨S, h1, _, h2⟩ := h.own
  obtain ⟨h3, h4, _⟩ := h2.own
  exact h4
/-- two images beside or below one another, pasted -/
theorem two_px {op : ByteArray} {args xs ys : List Int} {W H V G w h : Int} (hgp : good W H xs = true) (hgq : good V G ys = true) (hfit : gfits w h = true)
    (hb : op = sBeside ∧ w = W + V ∧ h = H ∧ H = G ∨ op = sBelow ∧ w = W ∧ W = V ∧ h = H + G) :
    pasteR w h (pasteR w h (fillX (w * h).toNat zeroC) W H xs 0 0).2.2.1 V G ys (w - V) (h - G) = (w, h, pxs op args W H xs V G ys w (w * h).toNat, 0) := by
  obtain ⟨g1, g2, g3, g4, g5⟩ := gfits_iff.1 hfit
  obtain ⟨a1, a2, a3, a4, a5⟩ := gfits_iff.1 (good_iff.1 hgp).1
  obtain ⟨b1, b2, b3, b4, b5⟩ := gfits_iff.1 (good_iff.1 hgq).1
  have hn : 0 ≤ w * h := Int.mul_nonneg (by omega) (by omega)
  unfold pasteR
  rw [fillX_flat, good_flat hfit, hgp]
  simp only [Bool.and_self, if_true]
  rw [show good w h (pasteX w h W H 0 0 (flat ((List.range (w * h).toNat).map fun _ => zeroC)) xs) = true from good_flat hfit, hgq]
  simp only [Bool.and_self, if_true]
  unfold pxs pasteX
  rw [show (List.range (w * h).toNat).map (pasteC w V G (w - V) (h - G) (flat ((List.range (w * h).toNat).map (pasteC w W H 0 0 (flat ((List.range (w * h).toNat).map fun _ => zeroC)) xs))) ys) = (List.range (w * h).toNat).map (pf op args W H xs V G ys w) from ?_]
  refine List.map_congr_left fun k hk => ?_
  have hk : k < (w * h).toNat := List.mem_range.1 hk
  have hk' : (k : Int) < w * h := by omega
  have m0 : 0 ≤ (k : Int) % w := Int.emod_nonneg _ (by omega)
  have m1 : (k : Int) % w < w := Int.emod_lt_of_pos _ (by omega)
  have d0 : 0 ≤ (k : Int) / w := Int.ediv_nonneg (by omega) (by omega)
  have d1 : (k : Int) / w < h := Int.ediv_lt_of_lt_mul (by omega) (by rw [Int.mul_comm]; exact hk')
  have e1 : colAt (flat ((List.range (w * h).toNat).map (pasteC w W H 0 0 (flat ((List.range (w * h).toNat).map fun _ => zeroC)) xs))) k = pasteC w W H 0 0 (flat ((List.range (w * h).toNat).map fun _ => zeroC)) xs k := by
    rw [colAt_flat (by simpa using hk)]
    simp [List.getD, hk]
  unfold pasteC at e1 ⊢
  rw [e1]
  unfold pf pixR inP
  rcases hb with ⟨rfl, rfl, rfl, rfl⟩ | ⟨rfl, rfl, rfl, rfl⟩
  · rw [if_pos (show sBeside = sBeside from rfl)]
    by_cases hc : (k : Int) % (W + V) ≥ W
    · rw [if_pos hc, if_pos (by simp; omega)]
      rw [show W + V - V = W by omega, show h - h = 0 by omega, Int.sub_zero]
    · rw [if_neg hc, if_neg (by simp; omega), if_pos (by simp; omega), Int.sub_zero, Int.sub_zero]
  · rw [if_neg (show ¬ sBelow = sBeside by decide), if_pos (show sBelow = sBelow from rfl)]
    by_cases hc : (k : Int) / w ≥ H
    · rw [if_pos hc, if_pos (by simp; omega)]
      rw [show w - w = 0 by omega, show H + G - G = H by omega, Int.sub_zero]
    · rw [if_neg hc, if_neg (by simp; omega), if_pos (by simp; omega), Int.sub_zero, Int.sub_zero]
theorem mp_lt {kd : Kd} {w : World} {b : Nat} {kvs : List (Value × Value)} (h : Mp kd w b kvs) : b < w.heap.size := by
  obtain ⟨⟨es, cl, h1, _⟩, _⟩ := h
  exact (Array.getElem?_eq_some_iff.1 h1).1
theorem Ints.atE {w : World} {p : Option Addr} {len : Nat} {l : List Int} (h : Ints w p len l) {i : Int} (h0 : 0 ≤ i) (h1 : i < len) {F : Addr → Prop} (hF : ∀ a : Addr, (∀ u, Ext w u → u.cell? a = some (i64 (l.getD i.toNat 0))) → F a) : idx p len i 1 F := by
  have hl := h.lth
  obtain ⟨a, e1, e2, e3⟩ := h.sl i.toNat _ (i64s_get (by omega))
  refine ⟨h0, h1, a, e1, hF _ fun u hE => ?_⟩
  rw [Nat.mul_one]; exact hE.cell e3
end Go.Proofs.Ytombfebgojeliaa
