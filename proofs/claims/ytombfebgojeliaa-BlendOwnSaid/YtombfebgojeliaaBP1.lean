/- Blend: parts of an outcome: the plain law. -/
import Derived.Test.YtombfebgojeliaaBlendL1
namespace Go.Proofs.Ytombfebgojeliaa
open Go Go.Vc Go.RowKit
set_option maxRecDepth 100000
set_option linter.unusedVariables false
set_option linter.unusedSimpArgs false

theorem colAt_left {a b : List Int} {q : Nat} (h : 4 * q + 4 ≤ a.length) : colAt (a ++ b) q = colAt a q := by
  have g : ∀ i, i < 4 * q + 4 → (a ++ b).getD i 0 = a.getD i 0 := fun i hi => by simp [List.getD, List.getElem?_append_left (show i < a.length by omega)]
  simp only [colAt, g _ (show 4 * q < _ by omega), g _ (show 4 * q + 1 < _ by omega), g _ (show 4 * q + 2 < _ by omega), g _ (show 4 * q + 3 < _ by omega)]
theorem colAt_right {a b : List Int} {n q : Nat} (h : a.length = 4 * n) : colAt (a ++ b) (n + q) = colAt b q := by
  have g : ∀ i, (a ++ b).getD (4 * (n + q) + i) 0 = b.getD (4 * q + i) 0 := fun i => by
    simp only [List.getD]; rw [List.getElem?_append_right (by omega)]; congr 2; omega
  have g0 := g 0
  simp only [Nat.add_zero] at g0
  simp only [colAt, g, g0]
theorem colAt_take {a : List Int} {n q : Nat} (h : q < n) : colAt (a.take (4 * n)) q = colAt a q := by
  have g : ∀ i, i < 4 * n → (a.take (4 * n)).getD i 0 = a.getD i 0 := fun i hi => by simp [List.getD, List.getElem?_take, hi]
  simp only [colAt, g _ (show 4 * q < _ by omega), g _ (show 4 * q + 1 < _ by omega), g _ (show 4 * q + 2 < _ by omega), g _ (show 4 * q + 3 < _ by omega)]
theorem colAt_dropq {a : List Int} {n q : Nat} : colAt (a.drop (4 * n)) q = colAt a (n + q) := by
  have g : ∀ i, (a.drop (4 * n)).getD (4 * q + i) 0 = a.getD (4 * (n + q) + i) 0 := fun i => by simp only [List.getD, List.getElem?_drop]; congr 2; omega
  have g0 := g 0
  simp only [Nat.add_zero] at g0
  simp only [colAt, g, g0]
theorem colAt_crop {xs : List Int} {x y a b W H : Int} (hg : good W H xs = true) (hr : inR x y a b W H = true) {i : Nat} (hi : (i : Int) < a) : ∀ n : Nat, (n : Int) ≤ b → ∀ j : Nat, j < n → colAt (cropX xs W x y a.toNat n) (j * a.toNat + i) = colAt xs ((y + j) * W + x + i).toNat
  | 0, _, j, hj => by omega
  | n + 1, hn, j, hj => by
    have hl := cropX_length hg hr n (by omega)
    obtain ⟨q1, q2, q3, _⟩ := rowAt (good_iff.1 hg).1 hr (k := n) (by omega) (by omega)
    have hxl := (good_iff.1 hg).2
    have hrl : (rowX xs W x y n a.toNat).length = 4 * a.toNat := rowX_length q1 (by omega)
    rw [cropX]
    by_cases hjn : j < n
    · have hm : (j + 1) * a.toNat ≤ n * a.toNat := Nat.mul_le_mul_right _ hjn
      rw [Nat.add_mul] at hm
      rw [colAt_left (by omega)]
      exact colAt_crop hg hr hi n (by omega) j hjn
    · have : j = n := by omega
      subst this
      rw [colAt_right hl, rowX, colAt_take (by omega)]
      obtain ⟨q, hq⟩ := Int.eq_ofNat_of_zero_le q1
      rw [hq, show (4 * ((q : Nat) : Int)).toNat = 4 * q by omega, colAt_dropq, show (((q : Nat) : Int) + (i : Int)).toNat = q + i by omega]
theorem good_crop {xs : List Int} {x y a b W H : Int} (hg : good W H xs = true) (hr : inR x y a b W H = true) : good a b (cropX xs W x y a.toNat b.toNat) = true := by
  obtain ⟨r1, r2, r3, r4, r5, r6, r7, r8⟩ := inR_iff.1 hr
  obtain ⟨g1, g2, g3, g4, g5⟩ := gfits_iff.1 (good_iff.1 hg).1
  have hab : a * b ≤ W * H := Int.mul_le_mul r5 r6 (by omega) (by omega)
  refine good_iff.2 ⟨gfits_iff.2 ⟨by omega, by omega, by omega, by omega, by omega⟩, ?_⟩
  rw [cropX_length hg hr b.toNat (by omega)]
  rw [Int.natCast_mul, Int.natCast_mul, Int.mul_comm a b, show ((b.toNat : Nat) : Int) = b by omega, show ((a.toNat : Nat) : Int) = a by omega]; rfl
theorem img_ext {a b : Int} {xs ys : List Int} (hx : good a b xs = true) (hy : good a b ys = true) (h : ∀ q : Nat, (q : Int) < a * b → colAt xs q = colAt ys q) : xs = ys := by
  obtain ⟨hg, hxl⟩ := good_iff.1 hx
  obtain ⟨_, hyl⟩ := good_iff.1 hy
  obtain ⟨g1, g2, g3, g4, g5⟩ := gfits_iff.1 hg
  have hp : 0 ≤ a * b := Int.mul_nonneg (by omega) (by omega)
  rw [← flat_colsOf' (xs := xs) (n := (a * b).toNat) (by omega), ← flat_colsOf' (xs := ys) (n := (a * b).toNat) (by omega)]
  congr 1
  unfold colsOf
  exact List.map_congr_left fun q hq => h q (by have := List.mem_range.1 hq; omega)
theorem crop_is {w h a b x y : Int} {zs xs : List Int} (hz : good w h zs = true) (hx : good a b xs = true) (hr : inR x y a b w h = true)
    (hc : ∀ i j : Nat, (i : Int) < a → (j : Int) < b → colAt zs ((y + j) * w + x + i).toNat = colAt xs ((j : Int) * a + i).toNat) : cropR w h zs x y a b = (a, b, xs, 0) := by
  unfold cropR
  rw [if_pos hz, if_pos hr]
  obtain ⟨g1, g2, g3, g4, g5⟩ := gfits_iff.1 (good_iff.1 hx).1
  rw [show cropX zs w x y a.toNat b.toNat = xs from img_ext (good_crop hz hr) hx fun q hq => ?_]
  have hm : q % a.toNat < a.toNat := Nat.mod_lt _ (by omega)
  have hd : q / a.toNat < b.toNat := by
    refine Nat.div_lt_of_lt_mul ?_
    have e : ((a.toNat * b.toNat : Nat) : Int) = a * b := by rw [Int.natCast_mul]; congr 1 <;> omega
    omega
  have e : q / a.toNat * a.toNat + q % a.toNat = q := Nat.div_add_mod' q a.toNat
  have h1 := colAt_crop hz hr (i := q % a.toNat) (by omega) b.toNat (by omega) (q / a.toNat) hd
  rw [e] at h1
  rw [h1, hc _ _ (by omega) (by omega)]
  congr 1
  have e2 : (((q / a.toNat * a.toNat + q % a.toNat : Nat)) : Int) = ((q / a.toNat : Nat) : Int) * a + ((q % a.toNat : Nat) : Int) := by
    rw [Int.natCast_add, Int.natCast_mul, show ((a.toNat : Nat) : Int) = a by omega]
  omega
theorem app_ok {op : ByteArray} {args xs ys : List Int} {W H V G : Int} (h : (appR op args W H xs V G ys).2.2.2 = 0) : chkR op args = 0 ∧ good W H xs = true ∧ good V G ys = true ∧ (sizeR op args W H V G).2.2 = 0 ∧
    appR op args W H xs V G ys = ((sizeR op args W H V G).1, (sizeR op args W H V G).2.1, pxs op args W H xs V G ys (sizeR op args W H V G).1 ((sizeR op args W H V G).1 * (sizeR op args W H V G).2.1).toNat, 0) := by
  unfold appR at h ⊢
  by_cases h1 : chkR op args ≠ 0
  · rw [if_pos h1] at h; exact (h1 h).elim
  rw [if_neg h1] at h ⊢
  by_cases h2 : good W H xs = false ∨ good V G ys = false
  · rw [if_pos h2] at h; simp at h
  rw [if_neg h2] at h ⊢
  by_cases h3 : (sizeR op args W H V G).2.2 ≠ 0
  · rw [if_pos h3] at h; exact (h3 h).elim
  rw [if_neg h3] at h ⊢
  refine ⟨Classical.byContradiction h1, ?_, ?_, Classical.byContradiction h3, rfl⟩
  · cases hg : good W H xs with
    | true => rfl
    | false => exact (h2 (.inl hg)).elim
  · cases hg : good V G ys with
    | true => rfl
    | false => exact (h2 (.inr hg)).elim
theorem app_bad {op : ByteArray} {args xs ys : List Int} {W H V G : Int} (h : (appR op args W H xs V G ys).2.2.2 ≠ 0) : (appR op args W H xs V G ys).2.2.1 = [] := by
  unfold appR at h ⊢
  split
  · rfl
  split
  · rfl
  split
  · rfl
  · rename_i h1 h2 h3
    rw [if_neg h1, if_neg h2, if_neg h3] at h
    exact (h rfl).elim
theorem pxs_good {op : ByteArray} {args xs ys : List Int} {W H V G w h : Int} (hg : gfits w h = true) : good w h (pxs op args W H xs V G ys w (w * h).toNat) = true := good_flat hg
theorem colAt_pxs {op : ByteArray} {args xs ys : List Int} {W H V G w : Int} {n q : Nat} (h : q < n) : colAt (pxs op args W H xs V G ys w n) q = pf op args W H xs V G ys w q := by
  unfold pxs
  rw [colAt_flat (by simpa using h)]
  simp [List.getD, h]
/-- the place of a part's place -/
theorem pf_at {op : ByteArray} {args xs ys : List Int} {W H V G w h : Int} (hg : gfits w h = true) {x y : Int} (x0 : 0 ≤ x) (x1 : x < w) (y0 : 0 ≤ y) (y1 : y < h) :
    colAt (pxs op args W H xs V G ys w (w * h).toNat) (y * w + x).toNat = pixR op args W H xs V G ys x y := by
  obtain ⟨g1, g2, g3, g4, g5⟩ := gfits_iff.1 hg
  have hp : 0 ≤ y * w := Int.mul_nonneg y0 (by omega)
  have hq : y * w + w ≤ w * h := by
    have h1 : (y + 1) * w ≤ h * w := Int.mul_le_mul_of_nonneg_right (by omega) (by omega)
    rw [Int.add_mul, Int.one_mul, Int.mul_comm h] at h1; exact h1
  rw [colAt_pxs (by omega)]
  unfold pf
  obtain ⟨d1, d2⟩ := divmod (y := y) x0 x1
  rw [show (((y * w + x).toNat : Nat) : Int) = y * w + x by omega, d1, d2]
theorem joins_beside {xs ys : List Int} {W H V G : Int} (h : (appR sBeside [] W H xs V G ys).2.2.2 = 0) : ∃ zs, appR sBeside [] W H xs V G ys = (W + V, H, zs, 0) ∧ cropR (W + V) H zs 0 0 W H = (W, H, xs, 0) ∧ cropR (W + V) H zs W 0 V G = (V, G, ys, 0) ∧ 0 ≤ W + V ∧ W + V ≤ 8192 ∧ W * H ≤ 65536 ∧ V * G ≤ 65536 := by
  obtain ⟨h1, h2, h3, h4, h5⟩ := app_ok h
  obtain ⟨hf, z1, _, _⟩ := size_facts h4
  obtain ⟨e1, e2, rfl⟩ := z1 rfl
  rw [e1, e2] at h5 hf
  obtain ⟨a1, a2, a3, a4, a5⟩ := gfits_iff.1 (good_iff.1 h2).1
  obtain ⟨b1, b2, b3, b4, b5⟩ := gfits_iff.1 (good_iff.1 h3).1
  refine ⟨_, h5, crop_is (pxs_good hf) h2 (inR_iff.2 (by omega)) fun i j hi hj => ?_, crop_is (pxs_good hf) h3 (inR_iff.2 (by omega)) fun i j hi hj => ?_, by omega, by omega, a5, b5⟩
  · have := pf_at (op := sBeside) (args := []) (xs := xs) (ys := ys) (W := W) (H := H) (V := V) (G := H) hf (x := i) (y := j) (by omega) (by omega) (by omega) (by omega)
    rw [show (0 + (j : Int)) * (W + V) + 0 + i = j * (W + V) + i by rw [Int.zero_add, Int.add_zero], this]
    unfold pixR
    rw [if_pos rfl, if_neg (by omega)]
  · have := pf_at (op := sBeside) (args := []) (xs := xs) (ys := ys) (W := W) (H := H) (V := V) (G := H) hf (x := W + i) (y := j) (by omega) (by omega) (by omega) (by omega)
    rw [show (0 + (j : Int)) * (W + V) + W + i = j * (W + V) + (W + i) by rw [Int.zero_add, Int.add_assoc], this]
    unfold pixR
    rw [if_pos rfl, if_pos (by omega), show W + (i : Int) - W = i by omega]
theorem joins_below {xs ys : List Int} {W H V G : Int} (h : (appR sBelow [] W H xs V G ys).2.2.2 = 0) : ∃ zs, appR sBelow [] W H xs V G ys = (W, H + G, zs, 0) ∧ cropR W (H + G) zs 0 0 W H = (W, H, xs, 0) ∧ cropR W (H + G) zs 0 H V G = (V, G, ys, 0) ∧ 0 ≤ H + G ∧ H + G ≤ 8192 ∧ W * H ≤ 65536 ∧ V * G ≤ 65536 := by
  obtain ⟨h1, h2, h3, h4, h5⟩ := app_ok h
  obtain ⟨hf, _, z1, _⟩ := size_facts h4
  obtain ⟨e1, rfl, e2⟩ := z1 rfl
  rw [e1, e2] at h5 hf
  obtain ⟨a1, a2, a3, a4, a5⟩ := gfits_iff.1 (good_iff.1 h2).1
  obtain ⟨b1, b2, b3, b4, b5⟩ := gfits_iff.1 (good_iff.1 h3).1
  refine ⟨_, h5, crop_is (pxs_good hf) h2 (inR_iff.2 (by omega)) fun i j hi hj => ?_, crop_is (pxs_good hf) h3 (inR_iff.2 (by omega)) fun i j hi hj => ?_, by omega, by omega, a5, b5⟩
  · have := pf_at (op := sBelow) (args := []) (xs := xs) (ys := ys) (W := W) (H := H) (V := W) (G := G) hf (x := i) (y := j) (by omega) (by omega) (by omega) (by omega)
    rw [show (0 + (j : Int)) * W + 0 + i = j * W + i by rw [Int.zero_add, Int.add_zero], this]
    unfold pixR
    rw [if_neg (by decide), if_pos rfl, if_neg (by omega)]
  · have := pf_at (op := sBelow) (args := []) (xs := xs) (ys := ys) (W := W) (H := H) (V := W) (G := G) hf (x := i) (y := H + j) (by omega) (by omega) (by omega) (by omega)
    rw [Int.add_zero, this]
    unfold pixR
    rw [if_neg (by decide), if_pos rfl, if_pos (by omega), show H + (j : Int) - H = j by omega]
end Go.Proofs.Ytombfebgojeliaa
