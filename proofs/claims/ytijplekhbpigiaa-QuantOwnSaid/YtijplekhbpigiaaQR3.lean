/- Raster: a pixel more, an image of one colour by the document, parts that are cut out. -/
import Derived.Test.YtijplekhbpigiaaQR2
namespace Go.Proofs.Ytijplekhbpigiaa
open Go Go.Vc Go.RowKit
set_option maxRecDepth 100000
set_option linter.unusedVariables false
set_option linter.unusedSimpArgs false

theorem Add_spec {av : List Nat} {w0 w : World} {p : Option Addr} {len cap : Nat} {W H : Int} {xs : List Int} {c : Co} {R : Ending → World → Prop} (h : Fg av w0 w 1 p len cap (px xs)) (hsz : len + 4 ≤ 2 ^ 46)
    (hR : ∀ p' c' w', Fg av w0 w' 1 p' (len + 4) c' (px (xs ++ coL c)) → Keep av w w' → R (.returned (.agg #[i64 W, i64 H, .slice p' (len + 4) c'])) w') :
    Calls P F.ref09_Add #[.agg #[i64 W, i64 H, .slice p len cap], .agg (co c).toArray] w R := by
  obtain ⟨c1, c2, c3, c4⟩ := c
  refine calls_ref09_Add _ _ _ _ _ _ _ _ _ _ _ ?_
  intro k1 hk1 k2 hk2 k3 hk3 k4 hk4 w1 hL1
  have hbs : ∀ b, b ∈ [k4, k3, k2, k1] → w.heap.size ≤ b := by simp; omega
  have hav : ∀ b, b ∈ av → b < w.heap.size := fun b hb => (h.avs b hb).2
  have h1 := h.locl (hL1.wide hav) fun b hb => by
    rcases List.mem_append.1 hb with hb | hb
    · exact .inr (hbs b hb)
    · exact .inl hb
  refine h1.app' (fun b hb => List.mem_append_left _ (by simpa [blocks] using hb)) rfl rfl (by omega) (by omega) fun p' c' w2 h2 hk2 hs2 w3 hL3 => ?_
  have h3 := h2.locl (hL3.wide (cs := av) fun b hb => (h2.avs b (List.mem_append_right _ hb)).2) fun b hb => .inl hb
  rw [show px xs ++ [u16 c1, u16 c2, u16 c3, u16 c4] = px (xs ++ coL (c1, c2, c3, c4)) by rw [px_append]; rfl] at h3
  refine hR p' c' w3 (h3.mono fun b hb => List.mem_append_right _ hb) ?_
  have hd : ∀ b, b ∈ av → b ∉ [k4, k3, k2, k1] := fun b hb hm => by have := hbs b hm; have := hav b hb; omega
  have k12 : Keep av w w2 := (hL1.keep fun b hb _ => hd b hb).trans fun b hb hlt => hk2 b (List.mem_append_right _ hb) hlt
  exact k12.trans (hL3.keep fun b hb _ => hd b hb)
def fillX (n : Nat) (c : Co) : List Int := flat (List.replicate n c)
theorem fillX_succ (n : Nat) (c : Co) : fillX (n + 1) c = fillX n c ++ coL c := by
  unfold fillX; rw [List.replicate_succ']; simp [flat]
theorem fillX_length (n : Nat) (c : Co) : (fillX n c).length = 4 * n := by simp [fillX, flat_length]
/-- what filling answers: size, samples, fault -/
def fillR (W H : Int) (c : Co) : Int × Int × List Int × Int := if gfits W H then (W, H, fillX (W * H).toNat c, 0) else (0, 0, [], 4)
/-! ## Parts -/
def inR (x y a b W H : Int) : Bool := decide (1 ≤ a ∧ 1 ≤ b ∧ 0 ≤ x ∧ 0 ≤ y ∧ a ≤ W ∧ b ≤ H ∧ x ≤ W - a ∧ y ≤ H - b)
theorem inR_iff {x y a b W H : Int} : inR x y a b W H = true ↔ 1 ≤ a ∧ 1 ≤ b ∧ 0 ≤ x ∧ 0 ≤ y ∧ a ≤ W ∧ b ≤ H ∧ x ≤ W - a ∧ y ≤ H - b := by simp [inR]
def rowX (xs : List Int) (W x y : Int) (k : Nat) (n : Nat) : List Int := (xs.drop (4 * ((y + k) * W + x)).toNat).take (4 * n)
def cropX (xs : List Int) (W x y : Int) (a : Nat) : Nat → List Int
  | 0 => []
  | k + 1 => cropX xs W x y a k ++ rowX xs W x y k a
/-- what cutting out answers -/
def cropR (W H : Int) (xs : List Int) (x y a b : Int) : Int × Int × List Int × Int :=
  if good W H xs then if inR x y a b W H then (a, b, cropX xs W x y a.toNat b.toNat, 0) else (0, 0, [], 2) else (0, 0, [], 6)
/-- where a row stands -/
theorem rowAt {x y a b W H : Int} (hg : gfits W H = true) (hr : inR x y a b W H = true) {k : Int} (h0 : 0 ≤ k) (h1 : k < b) :
    0 ≤ (y + k) * W + x ∧ (y + k) * W + x + a ≤ W * H ∧ W * H ≤ 65536 ∧ IntKind.i64.wrap (IntKind.i64.wrap (IntKind.i64.wrap (y + k) * W) + x) = (y + k) * W + x := by
  obtain ⟨g1, g2, g3, g4, g5⟩ := gfits_iff.1 hg
  obtain ⟨r1, r2, r3, r4, r5, r6, r7, r8⟩ := inR_iff.1 hr
  have p : 0 ≤ (y + k) * W := Int.mul_nonneg (by omega) (by omega)
  have c : (y + k) * W + W ≤ W * H := by
    rw [show (y + k) * W + W = (y + k + 1) * W by rw [Int.add_mul (y + k) 1]; omega, Int.mul_comm W H]
    exact Int.mul_le_mul_of_nonneg_right (by omega) (by omega)
  refine ⟨by omega, by omega, by omega, ?_⟩
  rw [w64 (x := y + k) (by omega) (by omega), w64 (x := (y + k) * W) (by omega) (by omega), w64 (by omega) (by omega)]
theorem rowX_length {xs : List Int} {x y W : Int} {k n : Nat} (h0 : 0 ≤ (y + k) * W + x) (h1 : 4 * ((y + k) * W + x + n) ≤ xs.length) : (rowX xs W x y k n).length = 4 * n := by
  simp only [rowX, List.length_take, List.length_drop]; omega
theorem cropX_length {xs : List Int} {x y a b W H : Int} (hg : good W H xs = true) (hr : inR x y a b W H = true) : ∀ k : Nat, (k : Int) ≤ b → (cropX xs W x y a.toNat k).length = 4 * (k * a.toNat)
  | 0, _ => by simp [cropX]
  | k + 1, hk => by
    have hg' := hg
    simp only [good, Bool.and_eq_true, decide_eq_true_eq] at hg'
    obtain ⟨r1, r2, r3, _⟩ := rowAt hg'.1 hr (k := k) (by omega) (by omega)
    have := (inR_iff.1 hr).1
    rw [cropX, List.length_append, cropX_length hg hr k (by omega), rowX_length r1 (by omega), Nat.add_mul]; omega
theorem rowX_zero (xs : List Int) (W x y : Int) (k : Nat) : rowX xs W x y k 0 = [] := by simp [rowX]
theorem rowX_succ {xs : List Int} {W x y : Int} {k n : Nat} (h0 : 0 ≤ (y + k) * W + x) (h1 : 4 * ((y + k) * W + x + n + 1) ≤ xs.length) : rowX xs W x y k (n + 1) = rowX xs W x y k n ++ coL (colAt xs ((y + k) * W + x + n).toNat) := by
  obtain ⟨q, hq⟩ := Int.eq_ofNat_of_zero_le h0
  unfold rowX
  rw [hq] at h1 ⊢
  have e1 : (4 * ((q : Nat) : Int)).toNat = 4 * q := by omega
  have e2 : (((q : Nat) : Int) + n).toNat = q + n := by omega
  rw [e1, e2, show 4 * (n + 1) = 4 * n + 4 by omega, List.take_add, List.drop_drop]
  congr 1
  have hl : 4 * q + 4 * n + 4 ≤ xs.length := by omega
  obtain ⟨c1, c2, c3, c4, t, ht⟩ : ∃ c1 c2 c3 c4 t, xs.drop (4 * q + 4 * n) = c1 :: c2 :: c3 :: c4 :: t := by
    match h : xs.drop (4 * q + 4 * n) with
    | [] => have := congrArg List.length h; rw [List.length_drop, List.length_nil] at this; omega
    | [_] => have := congrArg List.length h; rw [List.length_drop] at this; simp only [List.length_cons, List.length_nil] at this; omega
    | [_, _] => have := congrArg List.length h; rw [List.length_drop] at this; simp only [List.length_cons, List.length_nil] at this; omega
    | [_, _, _] => have := congrArg List.length h; rw [List.length_drop] at this; simp only [List.length_cons, List.length_nil] at this; omega
    | c1 :: c2 :: c3 :: c4 :: t => exact ⟨c1, c2, c3, c4, t, rfl⟩
  have hc := colAt_drop (xs := xs) (k := q + n)
  rw [← hc, show 4 * (q + n) = 4 * q + 4 * n by omega, ht]
  rfl
end Go.Proofs.Ytijplekhbpigiaa
