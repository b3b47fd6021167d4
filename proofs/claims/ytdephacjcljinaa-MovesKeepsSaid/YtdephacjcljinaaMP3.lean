/- Moves: what is cut out, and what trimming makes of a framed image: the plain law. -/
import Derived.Test.YtdephacjcljinaaMP2
namespace Go.Proofs.Ytdephacjcljinaa
open Go Go.Vc Go.RowKit
set_option maxRecDepth 100000
set_option linter.unusedVariables false
set_option linter.unusedSimpArgs false

theorem colAt_left {a b : List Int} {q : Nat} (h : 4 * q + 4 ≤ a.length) : colAt (a ++ b) q = colAt a q := by
  have g : ∀ i, i < 4 * q + 4 → (a ++ b).getD i 0 = a.getD i 0 := fun i hi => by simp [List.getD, List.getElem?_append_left (show i < a.length by omega)]
  simp only [colAt, g _ (show 4 * q < _ by omega), g _ (show 4 * q + 1 < _ by omega), g _ (show 4 * q + 2 < _ by omega), g _ (show 4 * q + 3 < _ by omega)]
theorem colAt_right {a b : List Int} {n q : Nat} (h : a.length = 4 * n) : colAt (a ++ b) (n + q) = colAt b q := by
  have g : ∀ i, (a ++ b).getD (4 * (n + q) + i) 0 = b.getD (4 * q + i) 0 := fun i => by
    simp only [List.getD]; rw [List.getElem?_append_right (by omega)]; congr 2; omega
  have g0 := g 0
  simp only [Nat.add_zero] at g0
  simp only [colAt, g, g0]
theorem colAt_take {a : List Int} {n q : Nat} (h : q < n) : colAt (a.take (4 * n)) q = colAt a q := by
  have g : ∀ i, i < 4 * n → (a.take (4 * n)).getD i 0 = a.getD i 0 := fun i hi => by simp [List.getD, List.getElem?_take, hi]
  simp only [colAt, g _ (show 4 * q < _ by omega), g _ (show 4 * q + 1 < _ by omega), g _ (show 4 * q + 2 < _ by omega), g _ (show 4 * q + 3 < _ by omega)]
theorem colAt_dropq {a : List Int} {n q : Nat} : colAt (a.drop (4 * n)) q = colAt a (n + q) := by
  have g : ∀ i, (a.drop (4 * n)).getD (4 * q + i) 0 = a.getD (4 * (n + q) + i) 0 := fun i => by simp only [List.getD, List.getElem?_drop]; congr 2; omega
  have g0 := g 0
  simp only [Nat.add_zero] at g0
  simp only [colAt, g, g0]
theorem colAt_crop {xs : List Int} {x y a b W H : Int} (hg : good W H xs = true) (hr : inR x y a b W H = true) {i : Nat} (hi : (i : Int) < a) : ∀ n : Nat, (n : Int) ≤ b → ∀ j : Nat, j < n → colAt (cropX xs W x y a.toNat n) (j * a.toNat + i) = colAt xs ((y + j) * W + x + i).toNat
  | 0, _, j, hj => by omega
  | n + 1, hn, j, hj => by
    have hl := cropX_length hg hr n (by omega)
    obtain ⟨q1, q2, q3, _⟩ := rowAt (good_iff.1 hg).1 hr (k := n) (by omega) (by omega)
    have hxl := (good_iff.1 hg).2
    have hrl : (rowX xs W x y n a.toNat).length = 4 * a.toNat := rowX_length q1 (by omega)
    rw [cropX]
    by_cases hjn : j < n
    · have hm : (j + 1) * a.toNat ≤ n * a.toNat := Nat.mul_le_mul_right _ hjn
      rw [Nat.add_mul] at hm
      rw [colAt_left (by omega)]
      exact colAt_crop hg hr hi n (by omega) j hjn
    · have : j = n := by omega
      subst this
      rw [colAt_right hl, rowX, colAt_take (by omega)]
      obtain ⟨q, hq⟩ := Int.eq_ofNat_of_zero_le q1
      rw [hq, show (4 * ((q : Nat) : Int)).toNat = 4 * q by omega, colAt_dropq, show (((q : Nat) : Int) + (i : Int)).toNat = q + i by omega]
theorem good_crop {xs : List Int} {x y a b W H : Int} (hg : good W H xs = true) (hr : inR x y a b W H = true) : good a b (cropX xs W x y a.toNat b.toNat) = true := by
  obtain ⟨r1, r2, r3, r4, r5, r6, r7, r8⟩ := inR_iff.1 hr
  obtain ⟨g1, g2, g3, g4, g5⟩ := gfits_iff.1 (good_iff.1 hg).1
  have hab : a * b ≤ W * H := Int.mul_le_mul r5 r6 (by omega) (by omega)
  refine good_iff.2 ⟨gfits_iff.2 ⟨by omega, by omega, by omega, by omega, by omega⟩, ?_⟩
  rw [cropX_length hg hr b.toNat (by omega)]
  rw [Int.natCast_mul, Int.natCast_mul, Int.mul_comm a b, show ((b.toNat : Nat) : Int) = b by omega, show ((a.toNat : Nat) : Int) = a by omega]; rfl
theorem crop_is {w h a b x y : Int} {zs xs : List Int} (hz : good w h zs = true) (hx : good a b xs = true) (hr : inR x y a b w h = true)
    (hc : ∀ i j : Nat, (i : Int) < a → (j : Int) < b → colAt zs ((y + j) * w + x + i).toNat = colAt xs ((j : Int) * a + i).toNat) : cropR w h zs x y a b = (a, b, xs, 0) := by
  unfold cropR
  rw [if_pos hz, if_pos hr]
  obtain ⟨g1, g2, g3, g4, g5⟩ := gfits_iff.1 (good_iff.1 hx).1
  rw [show cropX zs w x y a.toNat b.toNat = xs from img_ext (good_crop hz hr) hx fun q hq => ?_]
  have hm : q % a.toNat < a.toNat := Nat.mod_lt _ (by omega)
  have hd : q / a.toNat < b.toNat := by
    refine Nat.div_lt_of_lt_mul ?_
    have e : ((a.toNat * b.toNat : Nat) : Int) = a * b := by rw [Int.natCast_mul]; congr 1 <;> omega
    omega
  have e : q / a.toNat * a.toNat + q % a.toNat = q := Nat.div_add_mod' q a.toNat
  have h1 := colAt_crop hz hr (i := q % a.toNat) (by omega) b.toNat (by omega) (q / a.toNat) hd
  rw [e] at h1
  rw [h1, hc _ _ (by omega) (by omega)]
  congr 1
  have e2 : (((q / a.toNat * a.toNat + q % a.toNat : Nat)) : Int) = ((q / a.toNat : Nat) : Int) * a + ((q % a.toNat : Nat) : Int) := by
    rw [Int.natCast_add, Int.natCast_mul, show ((a.toNat : Nat) : Int) = a by omega]
  omega

/-! ## the box of what differs from the first pixel -/
structure Bx (S : Int → Int → Prop) (b : Int × Int × Int × Int) : Prop where
  all : ∀ x y, S x y → b.1 ≤ x ∧ b.2.1 ≤ y ∧ x ≤ b.2.2.1 ∧ y ≤ b.2.2.2
  lx : ∃ y, S b.1 y
  ly : ∃ x, S x b.2.1
  hx : ∃ y, S b.2.2.1 y
  hy : ∃ x, S x b.2.2.2
theorem Bx.shift {S T : Int → Int → Prop} {b c : Int × Int × Int × Int} (h : Bx S b) (k : Bx T c) {d : Int} (e : ∀ x y, T x y ↔ S (x - d) (y - d)) : c = (b.1 + d, b.2.1 + d, b.2.2.1 + d, b.2.2.2 + d) := by
  have e' : ∀ x y, S x y → T (x + d) (y + d) := fun x y hs => (e _ _).2 (by rw [show x + d - d = x by omega, show y + d - d = y by omega]; exact hs)
  obtain ⟨y1, h1⟩ := h.lx
  obtain ⟨x2, h2⟩ := h.ly
  obtain ⟨y3, h3⟩ := h.hx
  obtain ⟨x4, h4⟩ := h.hy
  obtain ⟨y5, h5⟩ := k.lx
  obtain ⟨x6, h6⟩ := k.ly
  obtain ⟨y7, h7⟩ := k.hx
  obtain ⟨x8, h8⟩ := k.hy
  have a1 := k.all _ _ (e' _ _ h1)
  have a2 := k.all _ _ (e' _ _ h2)
  have a3 := k.all _ _ (e' _ _ h3)
  have a4 := k.all _ _ (e' _ _ h4)
  have a5 := h.all _ _ ((e _ _).1 h5)
  have a6 := h.all _ _ ((e _ _).1 h6)
  have a7 := h.all _ _ ((e _ _).1 h7)
  have a8 := h.all _ _ ((e _ _).1 h8)
  obtain ⟨c1, c2, c3, c4⟩ := c
  simp only at *
  simp only [Prod.mk.injEq]
  omega
def Dif (W : Int) (xs : List Int) (n : Nat) (x y : Int) : Prop := 0 ≤ x ∧ x < W ∧ 0 ≤ y ∧ ∃ q : Nat, q < n ∧ (q : Int) = y * W + x ∧ colAt xs q ≠ colAt xs 0
theorem box_sp {W H : Int} {xs : List Int} (hg : gfits W H = true) : ∀ n : Nat, (n : Int) ≤ W * H → (box W H xs n = (W, H, -1, -1) ∧ ∀ q, q < n → colAt xs q = colAt xs 0) ∨ Bx (Dif W xs n) (box W H xs n)
  | 0, _ => .inl ⟨rfl, by omega⟩
  | n + 1, hn => by
    obtain ⟨g1, g2, g3, g4, g5⟩ := gfits_iff.1 hg
    have m0 : 0 ≤ (n : Int) % W := Int.emod_nonneg _ (by omega)
    have m1 : (n : Int) % W < W := Int.emod_lt_of_pos _ (by omega)
    have d0 : 0 ≤ (n : Int) / W := Int.ediv_nonneg (by omega) (by omega)
    have d1 : (n : Int) / W < H := Int.ediv_lt_of_lt_mul (by omega) (by rw [Int.mul_comm]; omega)
    have e : (n : Int) = ((n : Int) / W) * W + (n : Int) % W := by
      have := Int.mul_ediv_add_emod (n : Int) W
      rw [Int.mul_comm] at this; omega
    have up : ∀ x y, Dif W xs n x y → Dif W xs (n + 1) x y := fun x y ⟨a, b, c, q, h1, h2, h3⟩ => ⟨a, b, c, q, by omega, h2, h3⟩
    by_cases hc : colAt xs n = colAt xs 0
    · rw [box, if_pos hc]
      rcases box_sp hg n (by omega) with ⟨h1, h2⟩ | h
      · exact .inl ⟨h1, fun q hq => by
          rcases Nat.lt_or_ge q n with h | h
          · exact h2 q h
          · rw [show q = n by omega]; exact hc⟩
      · refine .inr ⟨fun x y ⟨a, b, c, q, h1, h2, h3⟩ => ?_, ?_, ?_, ?_, ?_⟩
        · rcases Nat.lt_or_ge q n with h' | h'
          · exact h.all x y ⟨a, b, c, q, h', h2, h3⟩
          · rw [show q = n by omega] at h3; exact absurd hc h3
        · obtain ⟨y, hy⟩ := h.lx; exact ⟨y, up _ _ hy⟩
        · obtain ⟨y, hy⟩ := h.ly; exact ⟨y, up _ _ hy⟩
        · obtain ⟨y, hy⟩ := h.hx; exact ⟨y, up _ _ hy⟩
        · obtain ⟨y, hy⟩ := h.hy; exact ⟨y, up _ _ hy⟩
    · rw [box, if_neg hc]
      have hme : Dif W xs (n + 1) ((n : Int) % W) ((n : Int) / W) := ⟨m0, m1, d0, n, by omega, e, hc⟩
      have hnew : ∀ x y, Dif W xs (n + 1) x y → Dif W xs n x y ∨ (x = (n : Int) % W ∧ y = (n : Int) / W) := fun x y ⟨a, b, c, q, h1, h2, h3⟩ => by
        rcases Nat.lt_or_ge q n with h' | h'
        · exact .inl ⟨a, b, c, q, h', h2, h3⟩
        · obtain ⟨k1, k2⟩ := divmod (y := y) a b
          rw [show q = n by omega] at h2
          rw [← h2] at k1 k2
          exact .inr ⟨by omega, by omega⟩
      refine .inr ?_
      rcases box_sp hg n (by omega) with ⟨h1, h2⟩ | h
      · rw [h1]
        simp only
        rw [show min W ((n : Int) % W) = (n : Int) % W by omega, show min H ((n : Int) / W) = (n : Int) / W by omega, show max (-1) ((n : Int) % W) = (n : Int) % W by omega, show max (-1) ((n : Int) / W) = (n : Int) / W by omega]
        refine ⟨fun x y hd => ?_, ⟨_, hme⟩, ⟨_, hme⟩, ⟨_, hme⟩, ⟨_, hme⟩⟩
        rcases hnew x y hd with ⟨a, b, c, q, h3, h4, h5⟩ | ⟨rfl, rfl⟩
        · exact absurd (h2 q h3) h5
        · exact ⟨Int.le_refl _, Int.le_refl _, Int.le_refl _, Int.le_refl _⟩
      · generalize box W H xs n = b at *
        refine ⟨fun x y hd => ?_, ?_, ?_, ?_, ?_⟩
        · simp only
          rcases hnew x y hd with h' | ⟨rfl, rfl⟩
          · have := h.all _ _ h'; omega
          · omega
        · simp only
          obtain ⟨y, hy⟩ := h.lx
          rcases (by omega : min b.1 ((n : Int) % W) = b.1 ∨ min b.1 ((n : Int) % W) = (n : Int) % W) with h' | h' <;> rw [h']
          · exact ⟨y, up _ _ hy⟩
          · exact ⟨_, hme⟩
        · simp only
          obtain ⟨y, hy⟩ := h.ly
          rcases (by omega : min b.2.1 ((n : Int) / W) = b.2.1 ∨ min b.2.1 ((n : Int) / W) = (n : Int) / W) with h' | h' <;> rw [h']
          · exact ⟨y, up _ _ hy⟩
          · exact ⟨_, hme⟩
        · simp only
          obtain ⟨y, hy⟩ := h.hx
          rcases (by omega : max b.2.2.1 ((n : Int) % W) = b.2.2.1 ∨ max b.2.2.1 ((n : Int) % W) = (n : Int) % W) with h' | h' <;> rw [h']
          · exact ⟨y, up _ _ hy⟩
          · exact ⟨_, hme⟩
        · simp only
          obtain ⟨y, hy⟩ := h.hy
          rcases (by omega : max b.2.2.2 ((n : Int) / W) = b.2.2.2 ∨ max b.2.2.2 ((n : Int) / W) = (n : Int) / W) with h' | h' <;> rw [h']
          · exact ⟨y, up _ _ hy⟩
          · exact ⟨_, hme⟩
/-- what is cut out, place by place -/
theorem crop_at {xs : List Int} {x y a b W H : Int} (hg : good W H xs = true) (hr : inR x y a b W H = true) : cropR W H xs x y a b = (a, b, cropX xs W x y a.toNat b.toNat, 0) ∧ Is a b (cropX xs W x y a.toNat b.toNat) fun i j => colAt xs ((y + j) * W + (x + i)).toNat := by
  refine ⟨by unfold cropR; rw [if_pos hg, if_pos hr], good_crop hg hr, fun i j i0 i1 j0 j1 => ?_⟩
  have h := colAt_crop hg hr (i := i.toNat) (by omega) b.toNat (by omega) j.toNat (by omega)
  rw [show ((i.toNat : Nat) : Int) = i by omega, show ((j.toNat : Nat) : Int) = j by omega] at h
  rw [show (y + j) * W + (x + i) = (y + j) * W + x + i by omega, ← h]
  congr 1
  have e : (((j.toNat * a.toNat + i.toNat : Nat)) : Int) = j * a + i := by
    rw [Int.natCast_add, Int.natCast_mul, show ((a.toNat : Nat) : Int) = a by omega, show ((i.toNat : Nat) : Int) = i by omega, show ((j.toNat : Nat) : Int) = j by omega]
  omega
theorem Is.dif {W H : Int} {xs : List Int} {g : Int → Int → Co} (h : Is W H xs g) (x y : Int) : Dif W xs (W * H).toNat x y ↔ (0 ≤ x ∧ x < W ∧ 0 ≤ y ∧ y < H ∧ g x y ≠ g 0 0) := by
  obtain ⟨hf, _⟩ := good_iff.1 h.gd
  obtain ⟨g1, g2, g3, g4, g5⟩ := gfits_iff.1 hf
  have h00 := h.at_ 0 0 (by omega) (by omega) (by omega) (by omega)
  rw [show ((0 : Int) * W + 0).toNat = 0 by simp] at h00
  constructor
  · rintro ⟨a, b, c, q, h1, h2, h3⟩
    have hy : y < H := Int.lt_of_mul_lt_mul_right (show y * W < H * W by rw [Int.mul_comm H]; omega) (by omega)
    refine ⟨a, b, c, hy, ?_⟩
    rw [← h.at_ x y a b c hy, ← h00, ← h2]
    exact h3
  · rintro ⟨a, b, c, d, e⟩
    obtain ⟨i0, i1⟩ := idx_in hf a b c d
    refine ⟨a, b, c, (y * W + x).toNat, by omega, by omega, ?_⟩
    rw [h.at_ x y a b c d, h00]
    exact e
theorem trim_frame {W H : Int} {xs ys : List Int} (hg : good W H xs = true) (hz : gfits (W + 6) (H + 6) = true) (hy : Is (W + 6) (H + 6) ys fun x y => if inI W H (x - 3, y - 3) then colAt xs ((y - 3) * W + (x - 3)).toNat else colAt xs 0) :
    trimR (W + 6) (H + 6) ys = trimR W H xs := by
  obtain ⟨hf, hlen⟩ := good_iff.1 hg
  obtain ⟨g1, g2, g3, g4, g5⟩ := gfits_iff.1 hf
  have hpos : 0 < W * H := Int.mul_pos (by omega) (by omega)
  have hpos' : 0 < (W + 6) * (H + 6) := Int.mul_pos (by omega) (by omega)
  have hx := Is.self hg
  have hD : ∀ x y, Dif (W + 6) ys ((W + 6) * (H + 6)).toNat x y ↔ Dif W xs (W * H).toNat (x - 3) (y - 3) := fun x y => by
    rw [hy.dif, hx.dif]
    have h0 : inI W H ((0 : Int) - 3, (0 : Int) - 3) = false := by unfold inI; exact decide_eq_false (by simp)
    simp only [h0, Bool.false_eq_true, if_false]
    rw [show ((0 : Int) * W + 0).toNat = 0 by simp]
    by_cases hi : inI W H (x - 3, y - 3) = true
    · have hi' := of_decide_eq_true hi
      simp only [hi, if_true]
      simp only at hi'
      constructor
      · rintro ⟨a, b, c, d, e⟩; exact ⟨by omega, by omega, by omega, by omega, e⟩
      · rintro ⟨a, b, c, d, e⟩; exact ⟨by omega, by omega, by omega, by omega, e⟩
    · have hi2 : ¬ (0 ≤ x - 3 ∧ 0 ≤ y - 3 ∧ x - 3 < W ∧ y - 3 < H) := fun h => hi (by unfold inI; exact decide_eq_true h)
      simp only [hi, Bool.false_eq_true, if_false]
      constructor
      · rintro ⟨a, b, c, d, e⟩; exact absurd rfl e
      · rintro ⟨a, b, c, d, e⟩; exact absurd ⟨by omega, by omega, by omega, by omega⟩ hi2
  have key : ∃ b b' : Int × Int × Int × Int, boxT (box W H xs (W * H).toNat) = b ∧ boxT (box (W + 6) (H + 6) ys ((W + 6) * (H + 6)).toNat) = b' ∧ b'.2.2.1 - b'.1 = b.2.2.1 - b.1 ∧ b'.2.2.2 - b'.2.1 = b.2.2.2 - b.2.1 ∧
      (∀ i j, 0 ≤ i → i ≤ b.2.2.1 - b.1 → 0 ≤ j → j ≤ b.2.2.2 - b.2.1 → colAt ys ((b'.2.1 + j) * (W + 6) + (b'.1 + i)).toNat = colAt xs ((b.2.1 + j) * W + (b.1 + i)).toNat) := by
    rcases box_sp (xs := xs) hf (W * H).toNat (by omega) with ⟨h1, h2⟩ | hb
    · rcases box_sp (xs := ys) hz ((W + 6) * (H + 6)).toNat (by omega) with ⟨k1, k2⟩ | kb
      · refine ⟨(0, 0, 0, 0), (0, 0, 0, 0), by rw [h1]; rfl, by rw [k1]; rfl, rfl, rfl, fun i j i0 i1 j0 j1 => ?_⟩
        have hi : i = 0 := by simp only at i1; omega
        have hj : j = 0 := by simp only at j1; omega
        subst hi; subst hj
        simp only
        rw [show ((0 : Int) + 0) * (W + 6) + (0 + 0) = 0 * (W + 6) + 0 by simp, hy.at_ 0 0 (by omega) (by omega) (by omega) (by omega)]
        have h0 : inI W H ((0 : Int) - 3, (0 : Int) - 3) = false := by unfold inI; exact decide_eq_false (by simp)
        simp only [h0, Bool.false_eq_true, if_false]
        rw [show (((0 : Int) + 0) * W + (0 + 0)).toNat = 0 by simp]
      · obtain ⟨y, hd⟩ := kb.lx
        obtain ⟨_, _, _, q, q1, q2, q3⟩ := (hD _ _).1 hd
        exact absurd (h2 q q1) q3
    · have kb : Bx (Dif (W + 6) ys ((W + 6) * (H + 6)).toNat) (box (W + 6) (H + 6) ys ((W + 6) * (H + 6)).toNat) := by
        rcases box_sp (xs := ys) hz ((W + 6) * (H + 6)).toNat (by omega) with ⟨k1, k2⟩ | kb
        · obtain ⟨y, hd⟩ := hb.lx
          obtain ⟨_, _, _, q, q1, q2, q3⟩ := (hD (_ + 3) (y + 3)).2 (by rw [show (box W H xs (W * H).toNat).1 + 3 - 3 = (box W H xs (W * H).toNat).1 by omega, show y + 3 - 3 = y by omega]; exact hd)
          exact absurd (k2 q q1) q3
        · exact kb
      have hsh := hb.shift kb hD
      obtain ⟨ya, hda⟩ := hb.lx
      obtain ⟨xb, hdb⟩ := hb.ly
      obtain ⟨yc, hdc⟩ := hb.hx
      obtain ⟨xd, hdd⟩ := hb.hy
      rw [hx.dif] at hda hdb hdc hdd
      have hc1 := hb.all _ _ ((hx.dif _ _).2 hda)
      have hc2 := hb.all _ _ ((hx.dif _ _).2 hdb)
      rw [hsh]
      generalize box W H xs (W * H).toNat = b at *
      have e1 : boxT b = b := by unfold boxT; rw [if_neg (by omega)]
      have e2 : boxT (b.1 + 3, b.2.1 + 3, b.2.2.1 + 3, b.2.2.2 + 3) = (b.1 + 3, b.2.1 + 3, b.2.2.1 + 3, b.2.2.2 + 3) := by unfold boxT; rw [if_neg (by simp only; omega)]
      refine ⟨b, _, e1, e2, by simp only; omega, by simp only; omega, fun i j i0 i1 j0 j1 => ?_⟩
      simp only
      rw [hy.at_ _ _ (by omega) (by omega) (by omega) (by omega)]
      rw [if_pos (show inI W H (b.1 + 3 + i - 3, b.2.1 + 3 + j - 3) = true by unfold inI; exact decide_eq_true (by simp only; omega))]
      rw [show b.1 + 3 + i - 3 = b.1 + i by omega, show b.2.1 + 3 + j - 3 = b.2.1 + j by omega]
  obtain ⟨b, b', hb, hb', e1, e2, hpix⟩ := key
  have hT := boxT_ok hf (box_ok (xs := xs) hf (q := (W * H).toNat) (by omega))
  have hT' := boxT_ok hz (box_ok (xs := ys) hz (q := ((W + 6) * (H + 6)).toNat) (by omega))
  unfold trimR
  rw [hb] at hT ⊢
  rw [hb'] at hT' ⊢
  obtain ⟨c1, i1⟩ := crop_at hg (show inR b.1 b.2.1 (b.2.2.1 - b.1 + 1) (b.2.2.2 - b.2.1 + 1) W H = true from inR_iff.2 (by omega))
  obtain ⟨c2, i2⟩ := crop_at hy.gd (show inR b'.1 b'.2.1 (b'.2.2.1 - b'.1 + 1) (b'.2.2.2 - b'.2.1 + 1) (W + 6) (H + 6) = true from inR_iff.2 (by omega))
  rw [c1, c2]
  rw [e1, e2] at i2 ⊢
  rw [i1.eq i2 fun i j i0 i1 j0 j1 => (hpix i j i0 (by omega) j0 (by omega)).symm]
/-- trimming, and trimming what was framed -/
theorem trim_eq {W H : Int} {xs : List Int} (hg : good W H xs = true) : appR sTrim [] W H xs = ((trimR W H xs).1, (trimR W H xs).2.1, (trimR W H xs).2.2.1, 0) := by
  have hs : sizeR sTrim [] W H = (W, H, 0) := by
    unfold sizeR
    rw [if_neg (by decide), if_neg (by simp [(good_iff.1 hg).1]), if_neg (fun h => absurd h.1 (by decide)), show whF sTrim [] W H = (W, H) from rfl, if_neg (by simp [(good_iff.1 hg).1])]
  unfold appR
  rw [if_neg (by decide), if_neg (by simp [hg]), hs, if_neg (by simp), if_pos rfl]
theorem trim_bad {W H : Int} {xs : List Int} (hg : good W H xs = false) : appR sTrim [] W H xs = (0, 0, [], 6) := by
  unfold appR
  rw [if_neg (by decide), if_pos hg]
theorem frame_trim {W H : Int} {xs : List Int} (hg : good W H xs = true) (hx : SmL xs) :
    (appR sFrame [3, xs.getD 0 0, xs.getD 1 0, xs.getD 2 0, xs.getD 3 0] W H xs).2.2.1 = [] ∨ ∃ ys, appR sFrame [3, xs.getD 0 0, xs.getD 1 0, xs.getD 2 0, xs.getD 3 0] W H xs = (W + 6, H + 6, ys, 0) ∧ good (W + 6) (H + 6) ys = true ∧ trimR (W + 6) (H + 6) ys = trimR W H xs := by
  have hc0 := hx.col 0
  obtain ⟨m0, m1, m2, m3⟩ : CoOk (xs.getD 0 0, xs.getD 1 0, xs.getD 2 0, xs.getD 3 0) := hc0
  simp only [Sm] at m0 m1 m2 m3
  generalize hA : [3, xs.getD 0 0, xs.getD 1 0, xs.getD 2 0, xs.getD 3 0] = A
  have hc : chkR sFrame A = 0 := by
    refine chk_of (by decide) ?_
    rw [← hA]
    show fitB [3, xs.getD 0 0, xs.getD 1 0, xs.getD 2 0, xs.getD 3 0] [1, 1024, 0, 65535, 0, 65535, 0, 65535, 0, 65535] = true
    revert m0 m1 m2 m3
    generalize xs.getD 0 0 = p0; generalize xs.getD 1 0 = p1; generalize xs.getD 2 0 = p2; generalize xs.getD 3 0 = p3
    intro m0 m1 m2 m3
    simp [fitB]; omega
  have hw : whF sFrame A W H = (W + 6, H + 6) := by
    rw [← hA]
    show (W + 2 * 3, H + 2 * 3) = _
    rw [show (2 : Int) * 3 = 6 from rfl]
  by_cases hz : gfits (W + 6) (H + 6) = true
  · refine .inr ?_
    obtain ⟨ys, e, i⟩ := Is.step (op := sFrame) (a := A) hg hc (fun e => absurd e (by decide)) (by rw [hw]; exact hz) (by decide)
    rw [hw] at e i
    refine ⟨ys, e, i.gd, trim_frame hg hz ⟨i.gd, fun x y x0 x1 y0 y1 => ?_⟩⟩
    rw [i.at_ x y x0 x1 y0 y1]
    unfold pixM
    rw [if_neg (by decide), show frP sFrame A W H x y = (x - 3, y - 3) by rw [← hA]; rfl, ← hA]
    rfl
  · refine .inl ?_
    have hs : sizeR sFrame A W H = (0, 0, 11) := by
      unfold sizeR
      rw [if_neg (by omega), if_neg (by simp [(good_iff.1 hg).1]), if_neg (fun h => absurd h.1 (by decide)), hw, if_pos (by simpa using hz)]
    unfold appR
    rw [if_neg (by omega), if_neg (by simp [hg]), hs, if_pos (by decide)]
end Go.Proofs.Ytdephacjcljinaa
