/- Bmp: what was written is read: the plain law. -/
import Derived.Test.YtjdljddfiddnoaaDoorBL1
namespace Go.Proofs.YtjdljddfiddnoaaDoor
open Go Go.Vc Go.RowKit
set_option maxRecDepth 100000
set_option linter.unusedVariables false
set_option linter.unusedSimpArgs false

theorem litN_congr {l l' : List Int} : ∀ (n a : Nat), (∀ j, a ≤ j → j < a + n → l.getD j 0 = l'.getD j 0) → litN l a n = litN l' a n
  | 0, a, h => rfl
  | n + 1, a, h => by rw [litN, litN, h a (by omega) (by omega), litN_congr n (a + 1) fun j h1 h2 => h j (by omega) (by omega)]
theorem setV_ne {l : List Int} {a n j : Nat} {v : Int} (h : j < a ∨ a + n ≤ j) : (setV l a n false v).getD j 0 = l.getD j 0 := by
  by_cases hj : j < l.length
  · have : ¬ (a ≤ j ∧ j < a + n) := by omega
    simp [setV, setP, List.getD, hj, this]
  · have h1 : (setV l a n false v).length ≤ j := by rw [setV_length]; omega
    rw [List.getD, List.getD, List.getElem?_eq_none h1, List.getElem?_eq_none (by omega)]
theorem lit_ne {l : List Int} {a n b k : Nat} {v : Int} (h : b + k ≤ a ∨ a + n ≤ b) : litN (setV l a n false v) b k = litN l b k := litN_congr k b fun j h1 h2 => setV_ne (by omega)
theorem lit_eq {l : List Int} {a n : Nat} {v : Int} (n1 : 1 ≤ n) (n4 : n ≤ 4) (h : a + n ≤ l.length) (v0 : 0 ≤ v) (v1 : v < 256 ^ n) : litN (setV l a n false v) a n = v := by
  have := getV_setV (bs := l) (big := false) (v := v) n1 n4 h
  have e : getV (setV l a n false v) a n false = litN (setV l a n false v) a n := rfl
  rw [← e, this]
  exact Int.emod_eq_of_lt v0 v1
/-! ## A head that was written -/
structure HdIs (al : Bool) (W H : Int) (l : List Int) : Prop where
  x0 : l.getD 0 0 = 66
  x1 : l.getD 1 0 = 77
  a : litN l 10 4 = 14 + hdS al
  s : litN l 14 4 = hdS al
  w : litN l 18 4 = W
  g : litN l 22 4 = H
  one : litN l 26 2 = 1
  d : litN l 28 2 = if al then 32 else 24
  p : litN l 30 4 = if al then 3 else 0
  m : al = true → litN l 54 4 = 16711680 ∧ litN l 58 4 = 65280 ∧ litN l 62 4 = 255 ∧ litN l 66 4 = 4278190080
theorem hd_is (al : Bool) {W H : Int} (w0 : 0 ≤ W) (w1 : W ≤ 4096) (h0' : 0 ≤ H) (h1 : H ≤ 4096) : HdIs al W H (hdC al W H) := by
  have hl := h0_length al
  have hS : hdS al = 108 ∨ hdS al = 40 := by cases al <;> simp [hdS]
  have hA := hdA_length al W H
  have p4 : (256 : Int) ^ 4 = 4294967296 := by decide
  have p2 : (256 : Int) ^ 2 = 65536 := by decide
  have LE : ∀ {l : List Int} {v : Int} {a : Nat}, a + 4 ≤ l.length → 0 ≤ v → v < 4294967296 → litN (setV l a 4 false v) a 4 = v := fun h a b => lit_eq (by omega) (by omega) h a (by rw [p4]; exact b)
  have LE2 : ∀ {l : List Int} {v : Int} {a : Nat}, a + 2 ≤ l.length → 0 ≤ v → v < 65536 → litN (setV l a 2 false v) a 2 = v := fun h a b => lit_eq (by omega) (by omega) h a (by rw [p2]; exact b)
  have z30 : litN (h0 al) 30 4 = 0 := by cases al <;> decide +kernel
  have z0 : (h0 al).getD 0 0 = 66 := by cases al <;> decide +kernel
  have z1 : (h0 al).getD 1 0 = 77 := by cases al <;> decide +kernel
  have A : (hdA al W H).getD 0 0 = 66 ∧ (hdA al W H).getD 1 0 = 77 ∧ litN (hdA al W H) 10 4 = 14 + hdS al ∧ litN (hdA al W H) 14 4 = hdS al ∧ litN (hdA al W H) 18 4 = W ∧ litN (hdA al W H) 22 4 = H ∧ litN (hdA al W H) 26 2 = 1 ∧ litN (hdA al W H) 28 2 = (if al then 32 else 24) ∧ litN (hdA al W H) 30 4 = 0 := by
    unfold hdA
    refine ⟨?_, ?_, ?_, ?_, ?_, ?_, ?_, ?_, ?_⟩
    · rw [setV_ne (by omega), setV_ne (by omega), setV_ne (by omega), setV_ne (by omega), setV_ne (by omega), setV_ne (by omega), setV_ne (by omega), setV_ne (by omega), z0]
    · rw [setV_ne (by omega), setV_ne (by omega), setV_ne (by omega), setV_ne (by omega), setV_ne (by omega), setV_ne (by omega), setV_ne (by omega), setV_ne (by omega), z1]
    · rw [lit_ne (by omega), lit_ne (by omega), lit_ne (by omega), lit_ne (by omega), lit_ne (by omega), lit_ne (by omega)]
      exact LE (by simp only [setV_length]; omega) (by omega) (by omega)
    · rw [lit_ne (by omega), lit_ne (by omega), lit_ne (by omega), lit_ne (by omega), lit_ne (by omega)]
      exact LE (by simp only [setV_length]; omega) (by omega) (by omega)
    · rw [lit_ne (by omega), lit_ne (by omega), lit_ne (by omega), lit_ne (by omega)]
      exact LE (by simp only [setV_length]; omega) (by omega) (by omega)
    · rw [lit_ne (by omega), lit_ne (by omega), lit_ne (by omega)]
      exact LE (by simp only [setV_length]; omega) (by omega) (by omega)
    · rw [lit_ne (by omega), lit_ne (by omega)]
      exact LE2 (by simp only [setV_length]; omega) (by omega) (by omega)
    · rw [lit_ne (by omega)]
      exact LE2 (by simp only [setV_length]; omega) (by cases al <;> decide) (by cases al <;> decide)
    · rw [lit_ne (by omega), lit_ne (by omega), lit_ne (by omega), lit_ne (by omega), lit_ne (by omega), lit_ne (by omega), lit_ne (by omega), lit_ne (by omega), z30]
  obtain ⟨a0, a1, a2, a3, a4, a5, a6, a7, a8⟩ := A
  unfold hdC
  cases al with
  | false => exact ⟨a0, a1, a2, a3, a4, a5, a6, a7, a8, fun h => by cases h⟩
  | true =>
    rw [if_pos rfl]
    have hS' : hdS true = 108 := rfl
    have N : ∀ {b k : Nat}, b + k ≤ 30 ∨ (34 ≤ b ∧ b + k ≤ 54) → litN (setV (setV (setV (setV (setV (hdA true W H) 30 4 false 3) 54 4 false 16711680) 58 4 false 65280) 62 4 false 255) 66 4 false 4278190080) b k = litN (hdA true W H) b k := fun h => by
      rw [lit_ne (by omega), lit_ne (by omega), lit_ne (by omega), lit_ne (by omega), lit_ne (by omega)]
    refine ⟨?_, ?_, by rw [N (by omega)]; exact a2, by rw [N (by omega)]; exact a3, by rw [N (by omega)]; exact a4, by rw [N (by omega)]; exact a5, by rw [N (by omega)]; exact a6, by rw [N (by omega)]; exact a7, ?_, fun _ => ⟨?_, ?_, ?_, ?_⟩⟩
    · rw [setV_ne (by omega), setV_ne (by omega), setV_ne (by omega), setV_ne (by omega), setV_ne (by omega)]; exact a0
    · rw [setV_ne (by omega), setV_ne (by omega), setV_ne (by omega), setV_ne (by omega), setV_ne (by omega)]; exact a1
    · rw [lit_ne (by omega), lit_ne (by omega), lit_ne (by omega), lit_ne (by omega)]
      exact LE (by omega) (by omega) (by omega)
    · rw [lit_ne (by omega), lit_ne (by omega), lit_ne (by omega)]
      exact LE (by simp only [setV_length]; omega) (by omega) (by omega)
    · rw [lit_ne (by omega), lit_ne (by omega)]
      exact LE (by simp only [setV_length]; omega) (by omega) (by omega)
    · rw [lit_ne (by omega)]
      exact LE (by simp only [setV_length]; omega) (by omega) (by omega)
    · exact LE (by simp only [setV_length]; omega) (by omega) (by omega)
/-! ## Rows -/
theorem getD_left {a b : List Int} {i : Nat} (h : i < a.length) : (a ++ b).getD i 0 = a.getD i 0 := by simp only [List.getD]; rw [List.getElem?_append_left h]
theorem getD_right {a b : List Int} {i : Nat} (h : a.length ≤ i) : (a ++ b).getD i 0 = b.getD (i - a.length) 0 := by simp only [List.getD]; rw [List.getElem?_append_right h]
theorem ln_get {al : Bool} {xs : List Int} {W y : Int} {x i : Nat} (hi : i < szB al) : ∀ {n : Nat}, x < n → (lnB al xs W y n).getD (szB al * x + i) 0 = (pixB al (colAt xs (y * W + x).toNat)).getD i 0
  | 0, h => by omega
  | n + 1, h => by
    have hl := lnB_length al xs W y n
    rw [lnB]
    by_cases hx : x < n
    · have : szB al * (x + 1) ≤ szB al * n := Nat.mul_le_mul_left _ hx
      rw [Nat.mul_succ] at this
      rw [getD_left (by omega)]
      exact ln_get hi hx
    · have : x = n := by omega
      subst this
      rw [getD_right (by omega), hl, Nat.add_sub_cancel_left]
theorem bd_get {al : Bool} {xs : List Int} {W H : Int} (w1 : 1 ≤ W) (w2 : W ≤ 4096) {k j : Nat} (hj : (j : Int) < rowE al W) : ∀ {n : Nat}, k < n → (bdB al xs W H n).getD ((rowE al W).toNat * k + j) 0 = (rwB al xs W (H - 1 - k)).getD j 0
  | 0, h => by omega
  | n + 1, h => by
    have hr := (rw_bounds (al := al) w1 w2).1
    have hl : (bdB al xs W H n).length = (rowE al W).toNat * n := by
      have := bdB_length (al := al) (xs := xs) (H := H) w1 w2 n
      obtain ⟨r, hr'⟩ := Int.eq_ofNat_of_zero_le (show 0 ≤ rowE al W by omega)
      rw [hr'] at this ⊢
      rw [Int.toNat_natCast]
      have e : ((r : Int) * (n : Int)) = ((r * n : Nat) : Int) := by simp
      rw [e] at this; omega
    rw [bdB]
    by_cases hk : k < n
    · have : (rowE al W).toNat * (k + 1) ≤ (rowE al W).toNat * n := Nat.mul_le_mul_left _ hk
      rw [Nat.mul_succ] at this
      rw [getD_left (by omega)]
      exact bd_get w1 w2 hj hk
    · have : k = n := by omega
      subst this
      rw [getD_right (by omega), hl, Nat.add_sub_cancel_left]
theorem pix_at {al : Bool} {xs : List Int} {W H : Int} (w1 : 1 ≤ W) (w2 : W ≤ 4096) {k x i : Nat} (hk : (k : Int) < H) (hx : (x : Int) < W) (hi : i < szB al) :
    (bdB al xs W H H.toNat).getD ((rowE al W).toNat * k + (szB al * x + i)) 0 = (pixB al (colAt xs ((H - 1 - k) * W + x).toNat)).getD i 0 := by
  have hr := rw_bounds (al := al) w1 w2
  have hsz := szB_int al
  have hxw : szB al * (x + 1) ≤ szB al * W.toNat := Nat.mul_le_mul_left _ (by omega)
  rw [Nat.mul_succ] at hxw
  have hlp := ln_pad (al := al) w1 w2
  rw [bd_get w1 w2 (by omega) (by omega)]
  unfold rwB
  rw [getD_left (by rw [lnB_length]; omega)]
  exact ln_get hi (by omega)
/-! ## Samples -/
theorem smp_mod {v m a n : Nat} (hc : conF m = some (a, n)) : smp v m = upV ((v / 2 ^ a % 2 ^ n : Nat) : Int) (2 ^ n - 1) := by
  have e : (v &&& m) / 2 ^ a = v / 2 ^ a % 2 ^ n := by
    obtain ⟨_, _, c3⟩ := conF_some hc
    have h1 : m / 2 ^ a = 2 ^ n - 1 := by rw [c3]; unfold ones; exact Nat.mul_div_cancel_left _ (Nat.two_pow_pos a)
    rw [← Nat.shiftRight_eq_div_pow, Nat.shiftRight_and_distrib, Nat.shiftRight_eq_div_pow, Nat.shiftRight_eq_div_pow, h1, Nat.and_two_pow_sub_one_eq_mod]
  unfold smp
  rw [hc]
  show upV (((v &&& m) / 2 ^ a : Nat) : Int) (2 ^ n - 1) = _
  rw [e]
def rndC (al : Bool) (c : Co) : Co := (roundV c.1, roundV c.2.1, roundV c.2.2.1, if al then roundV c.2.2.2 else 65535)
def mskF (al : Bool) : Nat → Nat := fun i => [16711680, 65280, 255, if al then 4278190080 else 0].getD i 0
theorem pix_round {al : Bool} {c : Co} (hs : ∀ v ∈ coL c, 0 ≤ v ∧ v ≤ 65535) {g : Nat → Nat} (hg : ∀ i, i < 4 → g i = mskF al i) {z : Int} (hz : z = litN (pixB al c) 0 (szB al)) : mkPix g z.toNat = rndC al c := by
  have c1 : conF 16711680 = some (16, 8) := by decide +kernel
  have c2 : conF 65280 = some (8, 8) := by decide +kernel
  have c3 : conF 255 = some (0, 8) := by decide +kernel
  have c4 : conF 4278190080 = some (24, 8) := by decide +kernel
  have d1 := dnV_range (hs c.1 (by simp [coL])).1 (hs c.1 (by simp [coL])).2 (most := 255) (by omega)
  have d2 := dnV_range (hs c.2.1 (by simp [coL])).1 (hs c.2.1 (by simp [coL])).2 (most := 255) (by omega)
  have d3 := dnV_range (hs c.2.2.1 (by simp [coL])).1 (hs c.2.2.1 (by simp [coL])).2 (most := 255) (by omega)
  have d4 := dnV_range (hs c.2.2.2 (by simp [coL])).1 (hs c.2.2.2 (by simp [coL])).2 (most := 255) (by omega)
  have ro : ∀ {v : Int} {m : Nat}, 0 ≤ dnV v 255 → ((m : Nat) : Int) = dnV v 255 → upV (m : Int) (2 ^ 8 - 1) = roundV v := fun h e => by rw [e]; rfl
  unfold mkPix rndC
  rw [hg 0 (by omega), hg 1 (by omega), hg 2 (by omega), hg 3 (by omega)]
  show (smp z.toNat 16711680, smp z.toNat 65280, smp z.toNat 255, smp z.toNat (if al then 4278190080 else 0)) = _
  rw [smp_mod c1, smp_mod c2, smp_mod c3]
  cases al with
  | false =>
    have e : z = dnV c.2.2.1 255 + 256 * (dnV c.2.1 255 + 256 * (dnV c.1 255 + 256 * 0)) := hz
    rw [ro d1.1 (by rw [e]; omega), ro d2.1 (by rw [e]; omega), ro d3.1 (by rw [e]; omega)]
    simp only [Bool.false_eq_true, if_false]
    have : smp z.toNat 0 = 65535 := by unfold smp; rw [con0]
    rw [this]
  | true =>
    have e : z = dnV c.2.2.1 255 + 256 * (dnV c.2.1 255 + 256 * (dnV c.1 255 + 256 * (dnV c.2.2.2 255 + 256 * 0))) := hz
    simp only [if_true]
    rw [smp_mod c4, ro d1.1 (by rw [e]; omega), ro d2.1 (by rw [e]; omega), ro d3.1 (by rw [e]; omega), ro d4.1 (by rw [e]; omega)]
/-! ## The file read -/
def posQ (W H : Int) (dn : Bool) (q : Nat) : Nat := if dn then ((H - 1 - (q : Int) / W) * W + (q : Int) % W).toNat else q
theorem read_back {al : Bool} {W H most : Int} {xs l : List Int} (hg : good W H xs = true) (hs : Sm16 xs) (hl : l.length = (encB al W H xs).length) (hb : ∀ j, j < 22 ∨ 26 ≤ j → l.getD j 0 = (encB al W H xs).getD j 0)
    (hv : fG l = H ∨ fG l = -H) (hm : W * H ≤ most) : decR l most = (W, H, flat ((List.range (W * H).toNat).map fun q => rndC al (colAt xs (posQ W H (fN l) q))), 0) := by
  obtain ⟨hgf, hxl⟩ := good_iff.1 hg
  obtain ⟨g1, g2, g3, g4, g5⟩ := gfits_iff.1 hgf
  have hd := hd_is al (W := W) (H := H) (by omega) g3 (by omega) g4
  obtain ⟨r1, r2, r3, r4⟩ := rw_bounds (al := al) g1 g3
  have hS : hdS al = 108 ∨ hdS al = 40 := by cases al <;> simp [hdS]
  have hcl := hdC_length al W H
  have hbl := bdB_length (al := al) (xs := xs) (H := H) g1 g3 H.toNat
  rw [show ((H.toNat : Nat) : Int) = H by omega] at hbl
  have hlen : (l.length : Int) = 14 + hdS al + rowE al W * H := by rw [hl]; unfold encB; rw [List.length_append]; omega
  have rh0 : 0 ≤ rowE al W * H := Int.mul_nonneg (by omega) (by omega)
  have rh1 : rowE al W * H ≤ (4 * W + 3) * H := Int.mul_le_mul_of_nonneg_right (by cases al <;> simp at r4 <;> omega) (by omega)
  have rh2 : (4 * W + 3) * H = 4 * (W * H) + 3 * H := by rw [Int.add_mul, Int.mul_assoc]
  have hh : ∀ j, j < 22 ∨ (26 ≤ j ∧ j < (hdC al W H).length) → l.getD j 0 = (hdC al W H).getD j 0 := fun j hj => by
    rw [hb j (by omega)]; unfold encB; exact getD_left (by omega)
  have LT : ∀ {a n : Nat}, a + n ≤ 22 ∨ (26 ≤ a ∧ a + n ≤ (hdC al W H).length) → litN l a n = litN (hdC al W H) a n := fun h => litN_congr _ _ fun j h1 h2 => hh j (by omega)
  have eS : fS l = hdS al := (LT (by omega)).trans hd.s
  have eA : fA l = 14 + hdS al := (LT (by omega)).trans hd.a
  have eW : fW l = W := by
    have : litN l 18 4 = W := (LT (by omega)).trans hd.w
    show sg (litN l 18 4) = W
    rw [this]; unfold sg; rw [if_neg (by omega)]
  have e1 : litN l 26 2 = 1 := (LT (by omega)).trans hd.one
  have eD : fD l = if al then 32 else 24 := (LT (by omega)).trans hd.d
  have eP : fP l = if al then 3 else 0 := (LT (by omega)).trans hd.p
  have eH : fH l = H := by unfold fH; split <;> omega
  have hD : fD l = 32 ∨ fD l = 24 := by rw [eD]; cases al <;> simp
  have hE0 : hE l = 0 := by
    unfold hE hdE
    rw [hh 0 (by omega), hh 1 (by omega), hd.x0, hd.x1, eS, eW, e1]
    have hP : (fP l = 3 ∧ fD l = 32) ∨ fP l = 0 := by rw [eP, eD]; cases al <;> simp
    rw [if_neg (by omega), if_neg (by omega), if_neg (by omega), if_neg (by omega), if_neg (by omega), if_neg (by omega), if_neg (by omega), if_neg (by omega)]
  have hgm : ∀ i, i < 4 → gM l i = mskF al i := fun i hi => by
    unfold gM mkI
    cases al with
    | false =>
      rw [eP, eD]
      simp only [Bool.false_eq_true, if_false]
      rw [if_pos (by decide), if_neg (by decide), if_pos (by decide)]
      match i, hi with
      | 0, _ => rfl
      | 1, _ => rfl
      | 2, _ => rfl
      | 3, _ => rfl
    | true =>
      have hS' : hdS true = 108 := rfl
      obtain ⟨m0, m1, m2, m3⟩ := hd.m rfl
      have hmN : mN l = 4 := by unfold mN; rw [if_pos (by rw [eS]; right; decide)]
      rw [eP]
      simp only [if_true]
      rw [if_neg (by decide), hmN, if_pos hi]
      match i, hi with
      | 0, _ => rw [LT (by omega), m0]; rfl
      | 1, _ => rw [LT (by omega), m1]; rfl
      | 2, _ => rw [LT (by omega), m2]; rfl
      | 3, _ => rw [LT (by omega), m3]; rfl
  have hmk : mkOk l = true := by
    unfold mkOk
    cases al with
    | false => rw [if_pos (by rw [eP]; decide)]
    | true =>
      have hS' : hdS true = 108 := rfl
      have hmN : mN l = 4 := by unfold mN; rw [if_pos (by rw [eS]; right; decide)]
      rw [if_neg (by rw [eP]; decide), decide_eq_false (by rw [eP]; simp), hmN, decide_eq_true (by omega)]
      simp only [chkM]
      rw [hgm 0 (by omega), hgm 1 (by omega), hgm 2 (by omega), hgm 3 (by omega), eD]
      decide +kernel
  have hgr : great (fW l) (fH l) most = false := by
    unfold great
    rw [eW, eH]
    simp only [decide_eq_false_iff_not]; omega
  have e0 := decR.eq_1 l most
  rw [if_neg (by omega), if_neg (by omega), hmk, decide_eq_true (show 8 < fD l by omega), if_neg (by simp), if_neg (by rw [hgr]; decide), if_neg (by omega)] at e0
  have hbl2 : (l.drop (fA l).toNat).length = (rowE al W * H).toNat := by rw [List.length_drop]; omega
  have hrow : rowN W (fD l) = rowE al W := by
    unfold rowN rowE
    rw [eD]
    cases al
    · simp only [Bool.false_eq_true, if_false]; omega
    · simp only [if_true]; omega
  have hbody : bodyL l = some (mskL (l.drop (fA l).toNat) W H (fD l) (fN l) (gM l) (W * H).toNat) := by
    unfold bodyL byMsk
    rw [if_neg (by omega), eW, eH, hrow, if_neg (by omega)]
  rw [hbody, eW, eH] at e0
  rw [e0]
  show (W, H, flat (mskL (l.drop (fA l).toNat) W H (fD l) (fN l) (gM l) (W * H).toNat), 0) = _
  suffices hmap : mskL (l.drop (fA l).toNat) W H (fD l) (fN l) (gM l) (W * H).toNat = (List.range (W * H).toNat).map fun q => rndC al (colAt xs (posQ W H (fN l) q)) by rw [hmap]
  unfold mskL
  refine List.map_congr_left fun q hq => ?_
  have hq : (q : Int) < W * H := by have := List.mem_range.1 hq; omega
  have q0 : 0 ≤ (q : Int) / W := Int.ediv_nonneg (by omega) (by omega)
  have q1 : (q : Int) / W < H := Int.ediv_lt_of_lt_mul (by omega) (by rw [Int.mul_comm]; exact hq)
  have x0 : 0 ≤ (q : Int) % W := Int.emod_nonneg _ (by omega)
  have x1 : (q : Int) % W < W := Int.emod_lt_of_pos _ (by omega)
  have hqq : (q : Int) / W * W + (q : Int) % W = q := by have := Int.ediv_mul_add_emod (q : Int) W; omega
  unfold mskQ
  generalize hy : (q : Int) / W = y at q0 q1 hqq
  generalize hx : (q : Int) % W = x at x0 x1 hqq
  obtain ⟨ya, yb⟩ := yAt_range (dn := fN l) q0 q1
  obtain ⟨k, hk⟩ := Int.eq_ofNat_of_zero_le ya
  obtain ⟨x', rfl⟩ := Int.eq_ofNat_of_zero_le x0
  rw [hk] at yb ⊢
  have hpos : ((H - 1 - (k : Int)) * W + (x' : Int)).toNat = posQ W H (fN l) q := by
    unfold posQ
    rw [hy, hx]
    unfold yAt at hk
    cases hfn : fN l with
    | false =>
      rw [hfn] at hk
      simp only [Bool.false_eq_true, if_false] at hk ⊢
      rw [show H - 1 - (k : Int) = y by omega, hqq]; omega
    | true =>
      rw [hfn] at hk
      simp only [if_true] at hk ⊢
      rw [hk]
  rw [← hpos]
  refine pix_round (colAt_sm hs _) hgm ?_
  unfold rawAt
  rw [hrow]
  have hsz : (fD l / 8).toNat = szB al := by rw [eD]; cases al <;> rfl
  have hszi : fD l / 8 = (szB al : Nat) := by rw [eD]; cases al <;> rfl
  obtain ⟨r, hr⟩ := Int.eq_ofNat_of_zero_le (show 0 ≤ rowE al W by omega)
  have hplace : ((k : Int) * rowE al W + (x' : Int) * (fD l / 8)).toNat = (rowE al W).toNat * k + szB al * x' := by
    rw [hszi, hr, Int.toNat_natCast]
    have e : ((k : Int) * (r : Int) + (x' : Int) * ((szB al : Nat) : Int)) = ((k * r + x' * szB al : Nat) : Int) := by simp
    rw [e, Int.toNat_natCast, Nat.mul_comm k r, Nat.mul_comm x']
  rw [hsz, hplace, litN_drop]
  have key : ∀ i, i < szB al → l.getD ((fA l).toNat + ((rowE al W).toNat * k + szB al * x') + i) 0 = (pixB al (colAt xs ((H - 1 - (k : Int)) * W + (x' : Int)).toNat)).getD i 0 := fun i hi => by
    rw [hb _ (by omega)]
    unfold encB
    rw [getD_right (by omega), show (fA l).toNat + ((rowE al W).toNat * k + szB al * x') + i - (hdC al W H).length = (rowE al W).toNat * k + (szB al * x' + i) by omega]
    exact pix_at g1 g3 (by omega) (by omega) hi
  have shift : ∀ (n a : Nat) (u : List Int) (b : Nat), (∀ i, i < n → l.getD (a + i) 0 = u.getD (b + i) 0) → litN l a n = litN u b n := by
    intro n
    induction n with
    | zero => intro a u b _; rfl
    | succ n ih =>
      intro a u b hu
      rw [litN, litN, show l.getD a 0 = u.getD b 0 from hu 0 (by omega), ih (a + 1) u (b + 1) fun i hi => by
        have := hu (i + 1) (by omega)
        rw [show a + 1 + i = a + (i + 1) by omega, show b + 1 + i = b + (i + 1) by omega]; exact this]
  refine shift _ _ _ _ fun i hi => ?_
  rw [Nat.zero_add]
  exact key i hi
end Go.Proofs.YtjdljddfiddnoaaDoor
