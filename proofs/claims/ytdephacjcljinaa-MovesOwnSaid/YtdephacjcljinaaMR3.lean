/- Raster: a pixel more, an image of one colour by the document, parts that are cut out. -/
import Derived.Test.YtdephacjcljinaaMR2
namespace Go.Proofs.Ytdephacjcljinaa
open Go Go.Vc Go.RowKit
set_option maxRecDepth 100000
set_option linter.unusedVariables false
set_option linter.unusedSimpArgs false

theorem Add_spec {av : List Nat} {w0 w : World} {p : Option Addr} {len cap : Nat} {W H : Int} {xs : List Int} {c : Co} {R : Ending → World → Prop} (h : Fg av w0 w 1 p len cap (px xs)) (hsz : len + 4 ≤ 2 ^ 46)
    (hR : ∀ p' c' w', Fg av w0 w' 1 p' (len + 4) c' (px (xs ++ coL c)) → Keep av w w' → R (.returned (.agg #[i64 W, i64 H, .slice p' (len + 4) c'])) w') :
    Calls P F.ref09_Add #[.agg #[i64 W, i64 H, .slice p len cap], .agg (co c).toArray] w R := by
  obtain ⟨c1, c2, c3, c4⟩ := c
  refine calls_ref09_Add _ _ _ _ _ _ _ _ _ _ _ ?_
  intro k1 hk1 k2 hk2 k3 hk3 k4 hk4 w1 hL1
  have hbs : ∀ b, b ∈ [k4, k3, k2, k1] → w.heap.size ≤ b := by simp; omega
  have hav : ∀ b, b ∈ av → b < w.heap.size := fun b hb => (h.avs b hb).2
  have h1 := h.locl (hL1.wide hav) fun b hb => by
    rcases List.mem_append.1 hb with hb | hb
    · exact .inr (hbs b hb)
    · exact .inl hb
  refine h1.app' (fun b hb => List.mem_append_left _ (by simpa [blocks] using hb)) rfl rfl (by omega) (by omega) fun p' c' w2 h2 hk2 hs2 w3 hL3 => ?_
  have h3 := h2.locl (hL3.wide (cs := av) fun b hb => (h2.avs b (List.mem_append_right _ hb)).2) fun b hb => .inl hb
  rw [show px xs ++ [u16 c1, u16 c2, u16 c3, u16 c4] = px (xs ++ coL (c1, c2, c3, c4)) by rw [px_append]; rfl] at h3
  refine hR p' c' w3 (h3.mono fun b hb => List.mem_append_right _ hb) ?_
  have hd : ∀ b, b ∈ av → b ∉ [k4, k3, k2, k1] := fun b hb hm => by have := hbs b hm; have := hav b hb; omega
  have k12 : Keep av w w2 := (hL1.keep fun b hb _ => hd b hb).trans fun b hb hlt => hk2 b (List.mem_append_right _ hb) hlt
  exact k12.trans (hL3.keep fun b hb _ => hd b hb)
def fillX (n : Nat) (c : Co) : List Int := flat (List.replicate n c)
theorem fillX_succ (n : Nat) (c : Co) : fillX (n + 1) c = fillX n c ++ coL c := by
  unfold fillX; rw [List.replicate_succ']; simp [flat]
theorem fillX_length (n : Nat) (c : Co) : (fillX n c).length = 4 * n := by simp [fillX, flat_length]
/-- what filling answers: size, samples, fault -/
def fillR (W H : Int) (c : Co) : Int × Int × List Int × Int := if gfits W H then (W, H, fillX (W * H).toNat c, 0) else (0, 0, [], 4)
/-! ## Parts -/
def inR (x y a b W H : Int) : Bool := decide (1 ≤ a ∧ 1 ≤ b ∧ 0 ≤ x ∧ 0 ≤ y ∧ a ≤ W ∧ b ≤ H ∧ x ≤ W - a ∧ y ≤ H - b)
theorem inR_iff {x y a b W H : Int} : inR x y a b W H = true ↔ 1 ≤ a ∧ 1 ≤ b ∧ 0 ≤ x ∧ 0 ≤ y ∧ a ≤ W ∧ b ≤ H ∧ x ≤ W - a ∧ y ≤ H - b := by simp [inR]
theorem Within_spec {x y a b W H : Int} {w : World} {R : Ending → World → Prop} (hg : gfits W H = true) (hR : R (.returned (.bool (inR x y a b W H))) w) :
    Calls P F.ref07_Within #[i64 x, i64 y, i64 a, i64 b, i64 W, i64 H] w R := by
  refine calls_ref07_Within _ _ _ _ _ _ _ _ ?_
  unfold vc_ref07_Within
  refine to_bool hR ?_
  obtain ⟨h1, h2, h3, h4, h5⟩ := gfits_iff.1 hg
  by_cases h : 1 ≤ a ∧ 1 ≤ b ∧ a ≤ W ∧ b ≤ H
  · rw [w64 (x := W - a) (by omega) (by omega), w64 (x := H - b) (by omega) (by omega), Bool.eq_iff_iff]
    simp only [inR, Bool.and_eq_true, decide_eq_true_eq]; omega
  · have e1 : inR x y a b W H = false := by simp only [inR, decide_eq_false_iff_not]; omega
    rw [e1, eq_comm, Bool.eq_false_iff]
    simp only [ne_eq, Bool.and_eq_true, decide_eq_true_eq]; omega
def rowX (xs : List Int) (W x y : Int) (k : Nat) (n : Nat) : List Int := (xs.drop (4 * ((y + k) * W + x)).toNat).take (4 * n)
def cropX (xs : List Int) (W x y : Int) (a : Nat) : Nat → List Int
  | 0 => []
  | k + 1 => cropX xs W x y a k ++ rowX xs W x y k a
/-- what cutting out answers -/
def cropR (W H : Int) (xs : List Int) (x y a b : Int) : Int × Int × List Int × Int :=
  if good W H xs then if inR x y a b W H then (a, b, cropX xs W x y a.toNat b.toNat, 0) else (0, 0, [], 2) else (0, 0, [], 6)
/-- where a row stands -/
theorem rowAt {x y a b W H : Int} (hg : gfits W H = true) (hr : inR x y a b W H = true) {k : Int} (h0 : 0 ≤ k) (h1 : k < b) :
    0 ≤ (y + k) * W + x ∧ (y + k) * W + x + a ≤ W * H ∧ W * H ≤ 65536 ∧ IntKind.i64.wrap (IntKind.i64.wrap (IntKind.i64.wrap (y + k) * W) + x) = (y + k) * W + x := by
  obtain ⟨g1, g2, g3, g4, g5⟩ := gfits_iff.1 hg
  obtain ⟨r1, r2, r3, r4, r5, r6, r7, r8⟩ := inR_iff.1 hr
  have p : 0 ≤ (y + k) * W := Int.mul_nonneg (by omega) (by omega)
  have c : (y + k) * W + W ≤ W * H := by
    rw [show (y + k) * W + W = (y + k + 1) * W by rw [Int.add_mul (y + k) 1]; omega, Int.mul_comm W H]
    exact Int.mul_le_mul_of_nonneg_right (by omega) (by omega)
  refine ⟨by omega, by omega, by omega, ?_⟩
  rw [w64 (x := y + k) (by omega) (by omega), w64 (x := (y + k) * W) (by omega) (by omega), w64 (by omega) (by omega)]
theorem rowX_length {xs : List Int} {x y W : Int} {k n : Nat} (h0 : 0 ≤ (y + k) * W + x) (h1 : 4 * ((y + k) * W + x + n) ≤ xs.length) : (rowX xs W x y k n).length = 4 * n := by
  simp only [rowX, List.length_take, List.length_drop]; omega
theorem cropX_length {xs : List Int} {x y a b W H : Int} (hg : good W H xs = true) (hr : inR x y a b W H = true) : ∀ k : Nat, (k : Int) ≤ b → (cropX xs W x y a.toNat k).length = 4 * (k * a.toNat)
  | 0, _ => by simp [cropX]
  | k + 1, hk => by
    have hg' := hg
    simp only [good, Bool.and_eq_true, decide_eq_true_eq] at hg'
    obtain ⟨r1, r2, r3, _⟩ := rowAt hg'.1 hr (k := k) (by omega) (by omega)
    have := (inR_iff.1 hr).1
    rw [cropX, List.length_append, cropX_length hg hr k (by omega), rowX_length r1 (by omega), Nat.add_mul]; omega
theorem rowX_zero (xs : List Int) (W x y : Int) (k : Nat) : rowX xs W x y k 0 = [] := by simp [rowX]
theorem rowX_succ {xs : List Int} {W x y : Int} {k n : Nat} (h0 : 0 ≤ (y + k) * W + x) (h1 : 4 * ((y + k) * W + x + n + 1) ≤ xs.length) : rowX xs W x y k (n + 1) = rowX xs W x y k n ++ coL (colAt xs ((y + k) * W + x + n).toNat) := by
  obtain ⟨q, hq⟩ := Int.eq_ofNat_of_zero_le h0
  unfold rowX
  rw [hq] at h1 ⊢
  have e1 : (4 * ((q : Nat) : Int)).toNat = 4 * q := by omega
  have e2 : (((q : Nat) : Int) + n).toNat = q + n := by omega
  rw [e1, e2, show 4 * (n + 1) = 4 * n + 4 by omega, List.take_add, List.drop_drop]
  congr 1
  have hl : 4 * q + 4 * n + 4 ≤ xs.length := by omega
  obtain ⟨c1, c2, c3, c4, t, ht⟩ : ∃ c1 c2 c3 c4 t, xs.drop (4 * q + 4 * n) = c1 :: c2 :: c3 :: c4 :: t := by
    match h : xs.drop (4 * q + 4 * n) with
    | [] => have := congrArg List.length h; rw [List.length_drop, List.length_nil] at this; omega
    | [_] => have := congrArg List.length h; rw [List.length_drop] at this; simp only [List.length_cons, List.length_nil] at this; omega
    | [_, _] => have := congrArg List.length h; rw [List.length_drop] at this; simp only [List.length_cons, List.length_nil] at this; omega
    | [_, _, _] => have := congrArg List.length h; rw [List.length_drop] at this; simp only [List.length_cons, List.length_nil] at this; omega
    | c1 :: c2 :: c3 :: c4 :: t => exact ⟨c1, c2, c3, c4, t, rfl⟩
  have hc := colAt_drop (xs := xs) (k := q + n)
  rw [← hc, show 4 * (q + n) = 4 * q + 4 * n by omega, ht]
  rfl
theorem refCrop_spec {w : World} {p : Option Addr} {len cap : Nat} {W H x y a b : Int} {xs : List Int} {R : Ending → World → Prop} (h : Img w p len xs)
    (hR : ∀ p' l' c' w', Fg [] w w' 1 p' l' c' (px (cropR W H xs x y a b).2.2.1) → R (.returned (.tuple #[.agg #[i64 (cropR W H xs x y a b).1, i64 (cropR W H xs x y a b).2.1, .slice p' l' c'], i64 (cropR W H xs x y a b).2.2.2])) w') :
    Calls P F.ref09_Crop #[.agg #[i64 W, i64 H, .slice p len cap], .agg #[i64 x, i64 y, i64 a, i64 b]] w R := by
  refine calls_ref09_Crop _ _ _ _ _ _ _ _ _ _ _ ?_
  intro k1 hk1 k2 hk2 k3 hk3 w1 hL1
  have hE1 : Ext w w1 := hL1.ext (by simp; omega)
  refine refGood_spec h.len fun w2 hE2 => ⟨_, rfl, hE2.keep _, ?_⟩
  have hE12 := hE1.trans hE2
  have hs12 := hE12.size
  refine brB_i (fun hb w3 hL3 => ?_) (fun hb => ?_)
  · have hb : good W H xs = false := by simpa using hb
    rw [cropR, if_neg (by simp [hb])] at hR
    exact hR none 0 0 w3 (Fg.nil (hE12.step hL3.chg (by simp; omega)) 1)
  have hb : good W H xs = true := by simpa using hb
  rw [cropR, if_pos hb] at hR
  have hb' := hb
  simp only [good, Bool.and_eq_true, decide_eq_true_eq] at hb'
  refine Within_spec hb'.1 ⟨_, rfl, (Ext.refl _).keep _, ?_⟩
  refine brB_i (fun hi w5 hL5 => ?_) (fun hi k4 hk4 => ?_)
  · have hi : inR x y a b W H = false := by simpa using hi
    rw [if_neg (by simp [hi])] at hR
    exact hR none 0 0 w5 (Fg.nil (hE12.step hL5.chg (by simp; omega)) 1)
  have hi : inR x y a b W H = true := by simpa using hi
  rw [if_pos hi] at hR
  obtain ⟨g1, g2, g3, g4, g5⟩ := gfits_iff.1 hb'.1
  obtain ⟨r1, r2, r3, r4, r5, r6, r7, r8⟩ := inR_iff.1 hi
  have hab : a * b ≤ W * H := Int.mul_le_mul r5 r6 (by omega) (by omega)
  have hbs : ∀ b, b ∈ [k4, k3, k2, k1] → w.heap.size ≤ b := by simp; omega
  refine ⟨fun vs u => match vs with | [.int _ n, .int _ a', .int _ b', .slice p len cap] => 0 ≤ n ∧ n ≤ b ∧ a' = a ∧ b' = b ∧ len = 4 * (n.toNat * a.toNat) ∧ Fg [k4, k3, k2, k1] w u 1 p len cap (px (cropX xs W x y a.toNat n.toNat)) | _ => False,
    fun vs _ => match vs with | [.int _ n, _, _, _] => (b - n).toNat | _ => 0, fun w6 hL6 => ⟨Int.le_refl _, by omega, rfl, rfl, by simp, ?_⟩, fun n a' b' p1 len1 cap1 w7 hI => ?_⟩
  · exact Fg.nil' hE12 hL6 hbs 1
  obtain ⟨n0, n1, rfl, rfl, hlen, hf⟩ := hI
  refine brB_i (fun hlt => ?_) (fun hge w12 hL12 => ?_)
  · have hlt : n < b' := by simpa using hlt
    have hnn : (n.toNat : Int) = n := by omega
    obtain ⟨q1, q2, q3, q4⟩ := rowAt hb'.1 hi n0 hlt
    refine ⟨fun vs u => match vs with | [.int _ m, .int _ a'', .int _ b'', .slice p len cap] => 0 ≤ m ∧ m ≤ a' ∧ a'' = a' ∧ b'' = b' ∧ len = 4 * (n.toNat * a'.toNat) + 4 * m.toNat ∧ Fg [k4, k3, k2, k1] w u 1 p len cap (px (cropX xs W x y a'.toNat n.toNat ++ rowX xs W x y n.toNat m.toNat)) | _ => False,
      fun vs _ => match vs with | [.int _ m, _, _, _] => (a' - m).toNat | _ => 0, ⟨Int.le_refl _, by omega, rfl, rfl, by simpa using hlen, ?_⟩, fun m a'' b'' p2 len2 cap2 w8 hI => ?_⟩
    · show Fg _ _ _ _ _ _ _ (px (_ ++ rowX xs W x y n.toNat 0))
      rw [rowX_zero, List.append_nil]; exact hf
    obtain ⟨m0, m1, rfl, rfl, hlen2, hf2⟩ := hI
    have hna : (((n.toNat + 1) * a''.toNat : Nat) : Int) ≤ b'' * a'' := by
      rw [Int.natCast_mul]
      exact Int.mul_le_mul (by omega) (by omega) (by omega) (by omega)
    rw [Nat.add_mul, Int.mul_comm b'' a''] at hna
    refine brB_i (fun hlt2 => ?_) (fun hge => ?_)
    · have hlt2 : m < a'' := by simpa using hlt2
      rw [w64 (x := x + m) (by omega) (by omega), w64 (x := y + n) (by omega) (by omega)]
      refine refPixel_spec ((h.ext hf2.ext).ext (Ext.refl _).drew) hb (by omega) (by omega) (by omega) (by omega) fun w9 hE9 => ⟨_, _, _, _, rfl, hE9.keep _, hE9.keeps, ?_⟩
      refine Add_spec (c := colAt xs ((y + n) * W + (x + m)).toNat) (hf2.dr.step hE9) (by omega) fun p3 c3 w10 hf10 hk10 => ⟨_, _, _, _, _, rfl, hk10, fun w11 hL11 => ?_⟩
      have hf11 := hf10.locl hL11 fun b hb => .inl hb
      rw [w64 (x := m + 1) (by omega) (by omega)]
      have hmm : (m.toNat : Int) = m := by omega
      have e := rowX_succ (xs := xs) (x := x) (y := y) (W := W) (k := n.toNat) (n := m.toNat) (by rw [hnn]; omega) (by rw [hnn, hmm]; omega)
      rw [hnn, hmm, show (y + n) * W + x + m = (y + n) * W + (x + m) by omega] at e
      rw [List.append_assoc, ← e, show m.toNat + 1 = (m + 1).toNat by omega] at hf11
      refine ⟨⟨by omega, by omega, rfl, rfl, by omega, hf11⟩, ?_⟩
      show (a'' - (m + 1)).toNat < (a'' - m).toNat
      omega
    · have hge : m = a'' := by simp at hge; omega
      subst hge
      rw [w64 (x := n + 1) (by omega) (by omega)]
      rw [← cropX, show n.toNat.succ = (n + 1).toNat by omega] at hf2
      refine ⟨⟨by omega, by omega, rfl, rfl, ?_, hf2⟩, ?_⟩
      · rw [show (n + 1).toNat = n.toNat + 1 by omega, Nat.add_mul]; omega
      · show (b'' - (n + 1)).toNat < (b'' - n).toNat
        omega
  · have hge : n = b' := by simp at hge; omega
    subst hge
    exact hR p1 len1 cap1 w12 ((hf.locl hL12 fun b hb => .inl hb).weak)
end Go.Proofs.Ytdephacjcljinaa
