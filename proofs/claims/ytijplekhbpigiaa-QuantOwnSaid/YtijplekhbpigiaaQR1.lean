/- Raster: copies, pixels, alike. -/
import Derived.Test.YtijplekhbpigiaaQR0
namespace Go.Proofs.Ytijplekhbpigiaa
open Go Go.Vc Go.RowKit
set_option maxRecDepth 100000
set_option linter.unusedVariables false
set_option linter.unusedSimpArgs false

/-- an image's samples stand there -/
structure Img (w : World) (p : Option Addr) (len : Nat) (xs : List Int) : Prop where
  sl : Sl w.heap.size w p (px xs)
  len : len = xs.length
theorem Img.ext {w w' : World} {p : Option Addr} {len : Nat} {xs : List Int} (h : Img w p len xs) (hE : Ext w w') : Img w' p len xs := ⟨(h.sl.ext hE).up, h.len⟩
theorem Img.of_ow {N M : Nat} {w : World} {p : Option Addr} {len cap : Nat} {xs : List Int} (h : Ow N M w p len cap 1 (px xs)) : Img w p len xs :=
  ⟨h.sl.up, by have := h.len; rwa [px_length] at this⟩
theorem copy_spec {w : World} {p : Option Addr} {len cap : Nat} {W H : Int} {xs : List Int} {R : Ending → World → Prop} (h : Img w p len xs) (hsz : len * 2 ≤ 2 ^ 47)
    (hR : ∀ p' c' w', Ext w w' → Ow w.heap.size w'.heap.size w' p' len c' 1 (px xs) → R (.returned (.agg #[i64 W, i64 H, .slice p' len c'])) w') :
    Calls P F.ref09_Copy #[.agg #[i64 W, i64 H, .slice p len cap]] w R := by
  refine calls_ref09_Copy _ _ _ _ _ _ _ ?_
  intro k1 hk1 k2 hk2 w1 hL1 k3 w2 hn
  have hE1 : Ext w w1 := hL1.ext (by simp; omega)
  have hs1 := hE1.size
  have hs2 := hn.ext.size
  have ht1 := hL1.there k1 (by simp)
  have ht2 := hL1.there k2 (by simp)
  have hl := h.len
  refine ⟨px xs, by rw [px_length]; omega, px_oneAll _, ((h.sl.ext hE1).ext hn.ext).cells, ?_⟩
  refine (Ow.nil w2.heap.size w2.heap.size w2 (some ⟨k3, 0, none⟩) 1).appS (by simp [blocks]; omega) (Nat.le_refl _) (Nat.le_refl _) rfl (by rw [px_length]; omega) (by omega) (by omega) fun p' c' w3 ho hC w4 hL4 => ?_
  rw [Nat.zero_add] at ho ⊢
  have hs3 := hC.size
  have hs4 := hL4.size
  have hE3 : Ext w w3 := (hE1.trans hn.ext).step hC (fun i hi => by omega)
  refine hR p' c' w4 (hE3.step hL4.chg (by simp; omega)) ?_
  have ho4 := ho.chg hL4.chg (fun i hi hlt e => by simp at e; omega)
  simpa using ho4.own fun i hi hlt => by omega
theorem own_spec {w : World} {p : Option Addr} {len cap : Nat} {W H : Int} {xs : List Int} {R : Ending → World → Prop} (h : Img w p len xs) (hsz : len * 2 ≤ 2 ^ 47)
    (hR : ∀ p' c' w', Ext w w' → Ow w.heap.size w'.heap.size w' p' len c' 1 (px xs) → R (.returned (.agg #[i64 W, i64 H, .slice p' len c'])) w') :
    Calls P F.law14_own #[.agg #[i64 W, i64 H, .slice p len cap]] w R := by
  refine calls_law14_own _ _ _ _ _ _ _ ?_
  intro k1 hk1 k2 hk2 w1 hL1
  have hE1 : Ext w w1 := hL1.ext (by simp; omega)
  have hs1 := hE1.size
  have ht1 := hL1.there k1 (by simp)
  have ht2 := hL1.there k2 (by simp)
  refine copy_spec (h.ext hE1) hsz fun p' c' w2 hE2 ho => ⟨_, _, _, _, _, rfl, hE2.keep _, fun w3 hL3 => ?_⟩
  have hs2 := hE2.size
  have hs3 := hL3.size
  refine hR p' c' w3 ((hE1.trans hE2).step hL3.chg (by simp; omega)) ?_
  exact (ho.chg hL3.chg (fun i h1 h2 e => by simp at e; omega)).mono hs1 hs3
theorem colour_spec {N : Nat} {w : World} {p : Option Addr} {len cap : Nat} {xs : List Int} {R : Ending → World → Prop} (h : Sl N w p (px xs)) (hl : len = xs.length) (h4 : 4 ≤ len)
    (hR : ∀ w', Ext w w' → R (.returned (.agg (co (colAt xs 0)).toArray)) w') : Calls P F.raster_colour #[.slice p len cap] w R := by
  refine calls_raster_colour _ _ _ _ _ ?_
  intro k1 hk1
  have g : ∀ (i : Nat) {u : World} {F : Addr → Prop}, i < 4 → Ext w u → (∀ a, (∀ u', Ext w u' → u'.cell? a = some (u16 (xs.getD i 0))) → F a) → idx p len (i : Int) 1 F := by
    intro i u F hi hE hF
    obtain ⟨a, h1, h2, h3⟩ := h i _ (px_get (by omega))
    refine ⟨by omega, by omega, a, h1, hF _ fun u' hE' => ?_⟩
    rw [show ((i : Int).toNat * 1) = i by omega]
    exact hE'.cell h3
  refine g 0 (by omega) (Ext.refl w) fun a1 c1 w1 hL1 => ?_
  have hE1 : Ext w w1 := hL1.ext (by simpa using hk1)
  refine ⟨_, c1 _ hE1, g 1 (by omega) hE1 fun a2 c2 => ⟨_, c2 _ hE1, g 2 (by omega) hE1 fun a3 c3 => ⟨_, c3 _ hE1, g 3 (by omega) hE1 fun a4 c4 => ⟨_, c4 _ hE1, fun w2 hL2 => ?_⟩⟩⟩⟩
  exact hR w2 (hE1.step hL2.chg (by simpa using hk1))
/-- where a pixel stands -/
theorem pixAt {W H x y n : Int} (hg : gfits W H = true) (hn : n = 4 * (W * H)) (hx0 : 0 ≤ x) (hy0 : 0 ≤ y) (hx : x < W) (hy : y < H) :
    0 ≤ y * W + x ∧ 4 * (y * W + x) + 4 ≤ n ∧ n ≤ 262144 ∧ IntKind.i64.wrap (IntKind.i64.wrap (y * W) + x) = y * W + x ∧ IntKind.i64.wrap (4 * (y * W + x)) = 4 * (y * W + x) := by
  obtain ⟨h1, h2, h3, h4, h5⟩ := gfits_iff.1 hg
  have a : 0 ≤ y * W := Int.mul_nonneg hy0 (by omega)
  have c : y * W + W ≤ W * H := by
    rw [show y * W + W = (y + 1) * W by rw [Int.add_mul]; omega, Int.mul_comm W H]
    exact Int.mul_le_mul_of_nonneg_right (by omega) (by omega)
  refine ⟨by omega, by omega, by omega, ?_, w64 (by omega) (by omega)⟩
  rw [w64 (x := y * W) (by omega) (by omega), w64 (by omega) (by omega)]
theorem colAt_drop {xs : List Int} {k : Nat} : colAt (xs.drop (4 * k)) 0 = colAt xs k := by simp [colAt, List.getD, List.getElem?_drop]
end Go.Proofs.Ytijplekhbpigiaa
