/- Moves: there and back: the plain law. -/
import Derived.Test.YtdephacjcljinaaMP1
namespace Go.Proofs.Ytdephacjcljinaa
open Go Go.Vc Go.RowKit
set_option maxRecDepth 100000
set_option linter.unusedVariables false
set_option linter.unusedSimpArgs false

theorem chk_of {op : ByteArray} {a : List Int} (h1 : nameB op = true) (h2 : fitB a (bndOf op) = true) : chkR op a = 0 := by unfold chkR; rw [if_pos h1, if_pos h2]
theorem turn_flip {W H : Int} {xs : List Int} (hg : good W H xs = true) : foldM [(sFlip, []), (sFlip, [])] W H xs = ((W, H, xs), true) := by
  have hf := (good_iff.1 hg).1
  obtain ⟨ys, e1, i1⟩ := (Is.self hg).move (op := sFlip) (a := []) (by decide) (fun e => absurd e (by decide)) hf (by decide) (by decide) (by decide)
  obtain ⟨zs, e2, i2⟩ := i1.move (op := sFlip) (a := []) (by decide) (fun e => absurd e (by decide)) hf (by decide) (by decide) (by decide)
  have i2 : Is W H zs fun x y => colAt xs ((H - 1 - (H - 1 - y)) * W + x).toNat := i2
  have : zs = xs := i2.eq (Is.self hg) fun x y _ _ _ _ => by (try simp only); rw [show H - 1 - (H - 1 - y) = y by omega]
  have e1 : appR sFlip [] W H xs = (W, H, ys, 0) := e1
  have e2 : appR sFlip [] W H ys = (W, H, zs, 0) := e2
  rw [foldM_cons e1, foldM_cons e2, this]; rfl
theorem turn_flop {W H : Int} {xs : List Int} (hg : good W H xs = true) : foldM [(sFlop, []), (sFlop, [])] W H xs = ((W, H, xs), true) := by
  have hf := (good_iff.1 hg).1
  obtain ⟨ys, e1, i1⟩ := (Is.self hg).move (op := sFlop) (a := []) (by decide) (fun e => absurd e (by decide)) hf (by decide) (by decide) (by decide)
  obtain ⟨zs, e2, i2⟩ := i1.move (op := sFlop) (a := []) (by decide) (fun e => absurd e (by decide)) hf (by decide) (by decide) (by decide)
  have i2 : Is W H zs fun x y => colAt xs (y * W + (W - 1 - (W - 1 - x))).toNat := i2
  have : zs = xs := i2.eq (Is.self hg) fun x y _ _ _ _ => by (try simp only); rw [show W - 1 - (W - 1 - x) = x by omega]
  have e1 : appR sFlop [] W H xs = (W, H, ys, 0) := e1
  have e2 : appR sFlop [] W H ys = (W, H, zs, 0) := e2
  rw [foldM_cons e1, foldM_cons e2, this]; rfl
theorem fits_sym {W H : Int} (h : gfits W H = true) : gfits H W = true := by
  obtain ⟨g1, g2, g3, g4, g5⟩ := gfits_iff.1 h
  exact gfits_iff.2 ⟨g2, g1, g4, g3, by rw [Int.mul_comm]; exact g5⟩
theorem turn_transpose {W H : Int} {xs : List Int} (hg : good W H xs = true) : foldM [(sTranspose, []), (sTranspose, [])] W H xs = ((W, H, xs), true) := by
  have hf := (good_iff.1 hg).1
  obtain ⟨ys, e1, i1⟩ := (Is.self hg).move (op := sTranspose) (a := []) (by decide) (fun e => absurd e (by decide)) (fits_sym hf) (by decide) (by decide) (by decide)
  obtain ⟨zs, e2, i2⟩ := i1.move (op := sTranspose) (a := []) (by decide) (fun e => absurd e (by decide)) hf (by decide) (by decide) (by decide)
  have i2 : Is W H zs fun x y => colAt xs (y * W + x).toNat := i2
  have : zs = xs := i2.eq (Is.self hg) fun x y _ _ _ _ => rfl
  have e1 : appR sTranspose [] W H xs = (H, W, ys, 0) := e1
  have e2 : appR sTranspose [] H W ys = (W, H, zs, 0) := e2
  rw [foldM_cons e1, foldM_cons e2, this]; rfl
theorem turn_transverse {W H : Int} {xs : List Int} (hg : good W H xs = true) : foldM [(sTransverse, []), (sTransverse, [])] W H xs = ((W, H, xs), true) := by
  have hf := (good_iff.1 hg).1
  obtain ⟨ys, e1, i1⟩ := (Is.self hg).move (op := sTransverse) (a := []) (by decide) (fun e => absurd e (by decide)) (fits_sym hf) (by decide) (by decide) (by decide)
  obtain ⟨zs, e2, i2⟩ := i1.move (op := sTransverse) (a := []) (by decide) (fun e => absurd e (by decide)) hf (by decide) (by decide) (by decide)
  have i2 : Is W H zs fun x y => colAt xs ((H - 1 - (H - 1 - y)) * W + (W - 1 - (W - 1 - x))).toNat := i2
  have : zs = xs := i2.eq (Is.self hg) fun x y _ _ _ _ => by (try simp only); rw [show H - 1 - (H - 1 - y) = y by omega, show W - 1 - (W - 1 - x) = x by omega]
  have e1 : appR sTransverse [] W H xs = (H, W, ys, 0) := e1
  have e2 : appR sTransverse [] H W ys = (W, H, zs, 0) := e2
  rw [foldM_cons e1, foldM_cons e2, this]; rfl
theorem turn_rot4 {W H : Int} {xs : List Int} (hg : good W H xs = true) : foldM [(sRotate, [1]), (sRotate, [1]), (sRotate, [1]), (sRotate, [1])] W H xs = ((W, H, xs), true) := by
  have hf := (good_iff.1 hg).1
  obtain ⟨y1, e1, i1⟩ := (Is.self hg).move (op := sRotate) (a := [1]) (by decide) (fun e => absurd e (by decide)) (fits_sym hf) (by decide) (by decide) (by decide)
  obtain ⟨y2, e2, i2⟩ := i1.move (op := sRotate) (a := [1]) (by decide) (fun e => absurd e (by decide)) hf (by decide) (by decide) (by decide)
  obtain ⟨y3, e3, i3⟩ := i2.move (op := sRotate) (a := [1]) (by decide) (fun e => absurd e (by decide)) (fits_sym hf) (by decide) (by decide) (by decide)
  obtain ⟨y4, e4, i4⟩ := i3.move (op := sRotate) (a := [1]) (by decide) (fun e => absurd e (by decide)) hf (by decide) (by decide) (by decide)
  have i4 : Is W H y4 fun x y => colAt xs ((H - 1 - (H - 1 - y)) * W + (W - 1 - (W - 1 - x))).toNat := i4
  have : y4 = xs := i4.eq (Is.self hg) fun x y _ _ _ _ => by (try simp only); rw [show H - 1 - (H - 1 - y) = y by omega, show W - 1 - (W - 1 - x) = x by omega]
  have e1 : appR sRotate [1] W H xs = (H, W, y1, 0) := e1
  have e2 : appR sRotate [1] H W y1 = (W, H, y2, 0) := e2
  have e3 : appR sRotate [1] W H y2 = (H, W, y3, 0) := e3
  have e4 : appR sRotate [1] H W y3 = (W, H, y4, 0) := e4
  rw [foldM_cons e1, foldM_cons e2, foldM_cons e3, foldM_cons e4, this]; rfl
theorem turn_rot13 {W H : Int} {xs : List Int} (hg : good W H xs = true) : foldM [(sRotate, [1]), (sRotate, [3])] W H xs = ((W, H, xs), true) := by
  have hf := (good_iff.1 hg).1
  obtain ⟨y1, e1, i1⟩ := (Is.self hg).move (op := sRotate) (a := [1]) (by decide) (fun e => absurd e (by decide)) (fits_sym hf) (by decide) (by decide) (by decide)
  obtain ⟨y2, e2, i2⟩ := i1.move (op := sRotate) (a := [3]) (by decide) (fun e => absurd e (by decide)) hf (by decide) (by decide) (by decide)
  have i2 : Is W H y2 fun x y => colAt xs ((H - 1 - (H - 1 - y)) * W + x).toNat := i2
  have : y2 = xs := i2.eq (Is.self hg) fun x y _ _ _ _ => by (try simp only); rw [show H - 1 - (H - 1 - y) = y by omega]
  have e1 : appR sRotate [1] W H xs = (H, W, y1, 0) := e1
  have e2 : appR sRotate [3] H W y1 = (W, H, y2, 0) := e2
  rw [foldM_cons e1, foldM_cons e2, this]; rfl
theorem roll_back {x a n : Int} (x0 : 0 ≤ x) (x1 : x < n) : ((x - -a) % n - a) % n = x := by
  have h := Int.emod_add_mul_ediv (x - -a) n
  have e : (x - -a) % n - a = x + n * (-((x - -a) / n)) := by rw [Int.mul_neg]; omega
  rw [e, Int.add_mul_emod_self_left, Int.emod_eq_of_lt x0 x1]
theorem roll_chk {a b : Int} (a0 : -4096 ≤ a) (a1 : a ≤ 4096) (b0 : -4096 ≤ b) (b1 : b ≤ 4096) : chkR sRoll [a, b] = 0 := by
  refine chk_of (by decide) ?_
  show fitB [a, b] [-4096, 4096, -4096, 4096] = true
  simp [fitB]; omega
theorem turn_roll {W H a b : Int} {xs : List Int} (hg : good W H xs = true) (a0 : -4096 ≤ a) (a1 : a ≤ 4096) (b0 : -4096 ≤ b) (b1 : b ≤ 4096) : foldM [(sRoll, [a, b]), (sRoll, [-a, -b])] W H xs = ((W, H, xs), true) := by
  have hf := (good_iff.1 hg).1
  obtain ⟨y1, e1, i1⟩ := (Is.self hg).move (op := sRoll) (a := [a, b]) (roll_chk a0 a1 b0 b1) (fun e => absurd e (by decide)) hf (by decide) (by decide) (by decide)
  obtain ⟨y2, e2, i2⟩ := i1.move (op := sRoll) (a := [-a, -b]) (roll_chk (by omega) (by omega) (by omega) (by omega)) (fun e => absurd e (by decide)) hf (by decide) (by decide) (by decide)
  have i2 : Is W H y2 fun x y => colAt xs ((((y - -b) % H - b) % H) * W + ((x - -a) % W - a) % W).toNat := i2
  have : y2 = xs := i2.eq (Is.self hg) fun x y x0 x1 y0 y1 => by (try simp only); rw [roll_back x0 x1, roll_back y0 y1]
  have e1 : appR sRoll [a, b] W H xs = (W, H, y1, 0) := e1
  have e2 : appR sRoll [-a, -b] W H y1 = (W, H, y2, 0) := e2
  rw [foldM_cons e1, foldM_cons e2, this]; rfl
theorem turn_half {W H : Int} {xs : List Int} (hg : good W H xs = true) : ∃ zs, foldM [(sFlip, []), (sFlop, [])] W H xs = ((W, H, zs), true) ∧ foldM [(sRotate, [2])] W H xs = ((W, H, zs), true) := by
  have hf := (good_iff.1 hg).1
  obtain ⟨ys, e1, i1⟩ := (Is.self hg).move (op := sFlip) (a := []) (by decide) (fun e => absurd e (by decide)) hf (by decide) (by decide) (by decide)
  obtain ⟨zs, e2, i2⟩ := i1.move (op := sFlop) (a := []) (by decide) (fun e => absurd e (by decide)) hf (by decide) (by decide) (by decide)
  obtain ⟨us, e3, i3⟩ := (Is.self hg).move (op := sRotate) (a := [2]) (by decide) (fun e => absurd e (by decide)) hf (by decide) (by decide) (by decide)
  have i2 : Is W H zs fun x y => colAt xs ((H - 1 - y) * W + (W - 1 - x)).toNat := i2
  have i3 : Is W H us fun x y => colAt xs ((H - 1 - y) * W + (W - 1 - x)).toNat := i3
  have : zs = us := i2.eq i3 fun x y _ _ _ _ => rfl
  have e1 : appR sFlip [] W H xs = (W, H, ys, 0) := e1
  have e2 : appR sFlop [] W H ys = (W, H, zs, 0) := e2
  have e3 : appR sRotate [2] W H xs = (W, H, us, 0) := e3
  exact ⟨zs, by rw [foldM_cons e1, foldM_cons e2]; rfl, by rw [foldM_cons e3, this]; rfl⟩
theorem turn_bad {W H : Int} {xs : List Int} (hg : good W H xs = false) : foldM [(sFlip, [])] W H xs = ((0, 0, []), false) := by
  have e : appR sFlip [] W H xs = (0, 0, [], 6) := by
    unfold appR
    rw [if_neg (by decide), if_pos hg]
  rw [foldM, e]; rfl
/-! ## there and back -/
theorem crop_chk {a b c d : Int} (a0 : 0 ≤ a) (a1 : a ≤ 4095) (b0 : 0 ≤ b) (b1 : b ≤ 4095) (c0 : 1 ≤ c) (c1 : c ≤ 4096) (d0 : 1 ≤ d) (d1 : d ≤ 4096) : chkR sCrop [a, b, c, d] = 0 := by
  refine chk_of (by decide) ?_
  show fitB [a, b, c, d] [0, 4095, 0, 4095, 1, 4096, 1, 4096] = true
  simp [fitB]; omega
theorem small {a b c : Int} (a0 : 0 ≤ a) (a1 : a ≤ c) (b0 : 0 ≤ b) (b1 : b ≤ c) (c1 : c ≤ 256) : a * b ≤ 65536 := by
  have := Int.mul_le_mul a1 b1 b0 (by omega)
  have h2 := Int.mul_le_mul c1 c1 (by omega) (by omega)
  omega
theorem back_frame {W H k : Int} {xs : List Int} (hg : good W H xs = true) (hw : W ≤ 60) (hh : H ≤ 60) (k0 : 1 ≤ k) (k1 : k ≤ 5) : foldM [(sFrame, [k, 1, 2, 3, 4]), (sCrop, [k, k, W, H])] W H xs = ((W, H, xs), true) := by
  have hf := (good_iff.1 hg).1
  obtain ⟨g1, g2, g3, g4, g5⟩ := gfits_iff.1 hf
  have hc : chkR sFrame [k, 1, 2, 3, 4] = 0 := by
    refine chk_of (by decide) ?_
    show fitB [k, 1, 2, 3, 4] [1, 1024, 0, 65535, 0, 65535, 0, 65535, 0, 65535] = true
    simp [fitB]; omega
  have hz : gfits (W + 2 * k) (H + 2 * k) = true := gfits_iff.2 ⟨by omega, by omega, by omega, by omega, small (c := 70) (by omega) (by omega) (by omega) (by omega) (by omega)⟩
  obtain ⟨ys, e1, i1⟩ := Is.step (op := sFrame) (a := [k, 1, 2, 3, 4]) hg hc (fun e => absurd e (by decide)) hz (by decide)
  have i1 : Is (W + 2 * k) (H + 2 * k) ys (pixM sFrame [k, 1, 2, 3, 4] W H xs) := i1
  obtain ⟨zs, e2, i2⟩ := i1.move (op := sCrop) (a := [k, k, W, H]) (crop_chk (by omega) (by omega) (by omega) (by omega) (by omega) (by omega) (by omega) (by omega)) (fun _ => ⟨by show k + W ≤ W + 2 * k; omega, by show k + H ≤ H + 2 * k; omega⟩) hf (by decide) (by decide) (by decide)
  have i2 : Is W H zs fun x y => pixM sFrame [k, 1, 2, 3, 4] W H xs (k + x) (k + y) := i2
  have : zs = xs := i2.eq (Is.self hg) fun x y x0 x1 y0 y1 => by
    (try simp only)
    have hfr : frP sFrame [k, 1, 2, 3, 4] W H (k + x) (k + y) = (x, y) := by
      show (k + x - k, k + y - k) = (x, y)
      rw [show k + x - k = x by omega, show k + y - k = y by omega]
    unfold pixM
    rw [if_neg (by decide), hfr, if_pos (show inI W H (x, y) = true by unfold inI; exact decide_eq_true (by simp only; omega))]
  have e1 : appR sFrame [k, 1, 2, 3, 4] W H xs = (W + 2 * k, H + 2 * k, ys, 0) := e1
  have e2 : appR sCrop [k, k, W, H] (W + 2 * k) (H + 2 * k) ys = (W, H, zs, 0) := e2
  rw [foldM_cons e1, foldM_cons e2, this]; rfl
theorem back_extend {W H k : Int} {xs : List Int} (hg : good W H xs = true) (hw : W ≤ 60) (hh : H ≤ 60) (k0 : 1 ≤ k) (k1 : k ≤ 5) : foldM [(sExtend, [k, 2 * k, 3, 0]), (sCrop, [k, 2 * k, W, H])] W H xs = ((W, H, xs), true) := by
  have hf := (good_iff.1 hg).1
  obtain ⟨g1, g2, g3, g4, g5⟩ := gfits_iff.1 hf
  have hc : chkR sExtend [k, 2 * k, 3, 0] = 0 := by
    refine chk_of (by decide) ?_
    show fitB [k, 2 * k, 3, 0] [0, 4096, 0, 4096, 0, 4096, 0, 4096] = true
    simp [fitB]; omega
  have hz : gfits (k + W + 3) (2 * k + H + 0) = true := gfits_iff.2 ⟨by omega, by omega, by omega, by omega, small (c := 70) (by omega) (by omega) (by omega) (by omega) (by omega)⟩
  obtain ⟨ys, e1, i1⟩ := (Is.self hg).move (op := sExtend) (a := [k, 2 * k, 3, 0]) hc (fun e => absurd e (by decide)) hz (by decide) (by decide) (by decide)
  obtain ⟨zs, e2, i2⟩ := i1.move (op := sCrop) (a := [k, 2 * k, W, H]) (crop_chk (by omega) (by omega) (by omega) (by omega) (by omega) (by omega) (by omega) (by omega)) (fun _ => ⟨by show k + W ≤ k + W + 3; omega, by show 2 * k + H ≤ 2 * k + H + 0; omega⟩) hf (by decide) (by decide) (by decide)
  have i2 : Is W H zs fun x y => colAt xs ((min (max (2 * k + y - 2 * k) 0) (H - 1)) * W + min (max (k + x - k) 0) (W - 1)).toNat := i2
  have : zs = xs := i2.eq (Is.self hg) fun x y x0 x1 y0 y1 => by
    (try simp only)
    rw [show min (max (2 * k + y - 2 * k) 0) (H - 1) = y by omega, show min (max (k + x - k) 0) (W - 1) = x by omega]
  have e1 : appR sExtend [k, 2 * k, 3, 0] W H xs = (k + W + 3, 2 * k + H + 0, ys, 0) := e1
  have e2 : appR sCrop [k, 2 * k, W, H] (k + W + 3) (2 * k + H + 0) ys = (W, H, zs, 0) := e2
  rw [foldM_cons e1, foldM_cons e2, this]; rfl
theorem sumC_const (c : Co) : ∀ {f : Nat → Co} {n : Nat}, (∀ j, j < n → f j = c) → sumC f n = ((n : Int) * c.1, (n : Int) * c.2.1, (n : Int) * c.2.2.1, (n : Int) * c.2.2.2)
  | f, 0, _ => by simp [sumC, zeroC]
  | f, n + 1, h => by
    rw [sumC, sumC_const c (f := f) (n := n) fun j hj => h j (by omega), h n (by omega)]
    simp only [add4, Prod.mk.injEq]
    push_cast
    simp [Int.add_mul]
theorem avg_const {n c : Int} (hn : 1 ≤ n) : avgI (n * c) n = c := by
  unfold avgI
  rw [Int.add_comm, Int.add_mul_ediv_left _ _ (by omega), Int.ediv_eq_zero_of_lt (by omega) (by omega)]
  omega
theorem back_zoom {W H k : Int} {xs : List Int} (hg : good W H xs = true) (hw : W ≤ 60) (hh : H ≤ 60) (k0 : 1 ≤ k) (k1 : k ≤ 5) (hs : W * H * k * k ≤ 65536) : foldM [(sZoom, [k]), (sShrink, [k])] W H xs = ((W, H, xs), true) := by
  have hf := (good_iff.1 hg).1
  obtain ⟨g1, g2, g3, g4, g5⟩ := gfits_iff.1 hf
  have hc : ∀ op, op = sZoom ∨ op = sShrink → chkR op [k] = 0 := fun op ho => by
    rcases ho with rfl | rfl
    · refine chk_of (by decide) ?_
      show fitB [k] [1, 64] = true
      simp [fitB]; omega
    · refine chk_of (by decide) ?_
      show fitB [k] [1, 64] = true
      simp [fitB]; omega
  have kw : k * W ≤ 300 ∧ 1 ≤ k * W := by
    have := Int.mul_le_mul k1 hw (by omega) (by omega)
    have := Int.mul_pos (show 0 < k by omega) (show 0 < W by omega)
    omega
  have kh : k * H ≤ 300 ∧ 1 ≤ k * H := by
    have := Int.mul_le_mul k1 hh (by omega) (by omega)
    have := Int.mul_pos (show 0 < k by omega) (show 0 < H by omega)
    omega
  have hz : gfits (k * W) (k * H) = true := gfits_iff.2 ⟨by omega, by omega, by omega, by omega, by
    rw [show k * W * (k * H) = W * H * k * k by
      rw [Int.mul_comm k W, Int.mul_assoc W k, Int.mul_left_comm k k H, ← Int.mul_assoc W k, Int.mul_comm W k, Int.mul_assoc k W, Int.mul_left_comm W k H, Int.mul_comm k (k * (W * H)), Int.mul_comm k (W * H)]]
    exact hs⟩
  obtain ⟨ys, e1, i1⟩ := (Is.self hg).move (op := sZoom) (a := [k]) (hc _ (.inl rfl)) (fun e => absurd e (by decide)) hz (by decide) (by decide) (by decide)
  have i1 : Is (k * W) (k * H) ys fun x y => colAt xs ((y / k) * W + x / k).toNat := i1
  have d1 : (k * W + k - 1) / k = W := by
    rw [show k * W + k - 1 = (k - 1) + k * W by omega, Int.add_mul_ediv_left _ _ (by omega), Int.ediv_eq_zero_of_lt (by omega) (by omega)]; omega
  have d2 : (k * H + k - 1) / k = H := by
    rw [show k * H + k - 1 = (k - 1) + k * H by omega, Int.add_mul_ediv_left _ _ (by omega), Int.ediv_eq_zero_of_lt (by omega) (by omega)]; omega
  have hz2 : gfits (whF sShrink [k] (k * W) (k * H)).1 (whF sShrink [k] (k * W) (k * H)).2 = true := by
    show gfits ((k * W + k - 1) / k) ((k * H + k - 1) / k) = true
    rw [d1, d2]; exact hf
  obtain ⟨zs, e2, i2⟩ := Is.step (op := sShrink) (a := [k]) i1.gd (hc _ (.inr rfl)) (fun e => absurd e (by decide)) hz2 (by decide)
  have e2 : appR sShrink [k] (k * W) (k * H) ys = ((k * W + k - 1) / k, (k * H + k - 1) / k, zs, 0) := e2
  have i2 : Is ((k * W + k - 1) / k) ((k * H + k - 1) / k) zs fun x y => meanC (k * W) (k * H) ys k x y := i2
  rw [d1, d2] at e2 i2
  have : zs = xs := i2.eq (Is.self hg) fun x y x0 x1 y0 y1 => by
    (try simp only)
    have hx : k * x + k ≤ k * W := by
      have := Int.mul_le_mul_of_nonneg_left (show x + 1 ≤ W by omega) (show 0 ≤ k by omega)
      rw [Int.mul_add, Int.mul_one] at this; exact this
    have hy : k * y + k ≤ k * H := by
      have := Int.mul_le_mul_of_nonneg_left (show y + 1 ≤ H by omega) (show 0 ≤ k by omega)
      rw [Int.mul_add, Int.mul_one] at this; exact this
    have kx : 0 ≤ k * x := Int.mul_nonneg (by omega) x0
    have ky : 0 ≤ k * y := Int.mul_nonneg (by omega) y0
    unfold meanC
    rw [show min k (k * W - k * x) = k by omega, show min k (k * H - k * y) = k by omega]
    have hkk : 1 ≤ k * k := Int.mul_pos (by omega) (by omega)
    rw [sumC_const (colAt xs (y * W + x).toNat) fun j hj => ?_]
    · rw [show (((k * k).toNat : Nat) : Int) = k * k by omega]
      unfold avgC
      simp only [avg_const hkk]
    · have hj' : (j : Int) < k * k := by omega
      have m0 : 0 ≤ (j : Int) % k := Int.emod_nonneg _ (by omega)
      have m1 : (j : Int) % k < k := Int.emod_lt_of_pos _ (by omega)
      have q0 : 0 ≤ (j : Int) / k := Int.ediv_nonneg (by omega) (by omega)
      have q1 : (j : Int) / k < k := Int.ediv_lt_of_lt_mul (by omega) hj'
      unfold meanF
      rw [i1.at_ _ _ (by omega) (by omega) (by omega) (by omega)]
      rw [show (k * y + (j : Int) / k) / k = y by rw [Int.add_comm, Int.add_mul_ediv_left _ _ (by omega), Int.ediv_eq_zero_of_lt q0 q1]; omega,
        show (k * x + (j : Int) % k) / k = x by rw [Int.add_comm, Int.add_mul_ediv_left _ _ (by omega), Int.ediv_eq_zero_of_lt m0 m1]; omega]
  have e1 : appR sZoom [k] W H xs = (k * W, k * H, ys, 0) := e1
  rw [foldM_cons e1, foldM_cons e2, this]; rfl
theorem back_tile {W H k : Int} {xs : List Int} (hg : good W H xs = true) (hw : W ≤ 60) (hh : H ≤ 60) (k0 : 1 ≤ k) (k1 : k ≤ 5) : foldM [(sTile, [k, 1]), (sCrop, [W * (k - 1), 0, W, H])] W H xs = ((W, H, xs), true) := by
  have hf := (good_iff.1 hg).1
  obtain ⟨g1, g2, g3, g4, g5⟩ := gfits_iff.1 hf
  have hc : chkR sTile [k, 1] = 0 := by
    refine chk_of (by decide) ?_
    show fitB [k, 1] [1, 64, 1, 64] = true
    simp [fitB]; omega
  have kw : k * W ≤ 300 ∧ 1 ≤ k * W := by
    have := Int.mul_le_mul k1 hw (by omega) (by omega)
    have := Int.mul_pos (show 0 < k by omega) (show 0 < W by omega)
    omega
  have hwk : W * (k - 1) = k * W - W := by rw [Int.mul_sub, Int.mul_one, Int.mul_comm]
  have hz : gfits (k * W) (1 * H) = true := gfits_iff.2 ⟨by omega, by omega, by omega, by omega, by
    have := Int.mul_le_mul kw.1 hh (by omega) (by omega)
    rw [Int.one_mul]; omega⟩
  obtain ⟨ys, e1, i1⟩ := (Is.self hg).move (op := sTile) (a := [k, 1]) hc (fun e => absurd e (by decide)) hz (by decide) (by decide) (by decide)
  obtain ⟨zs, e2, i2⟩ := i1.move (op := sCrop) (a := [W * (k - 1), 0, W, H]) (crop_chk (by rw [hwk]; have := Int.mul_le_mul_of_nonneg_right k0 (show 0 ≤ W by omega); omega) (by omega) (by omega) (by omega) (by omega) (by omega) (by omega) (by omega)) (fun _ => ⟨by show W * (k - 1) + W ≤ k * W; omega, by show 0 + H ≤ 1 * H; omega⟩) hf (by decide) (by decide) (by decide)
  have i2 : Is W H zs fun x y => colAt xs (((0 + y) % H) * W + (W * (k - 1) + x) % W).toNat := i2
  have : zs = xs := i2.eq (Is.self hg) fun x y x0 x1 y0 y1 => by
    (try simp only)
    rw [show (0 + y) % H = y by rw [Int.zero_add]; exact Int.emod_eq_of_lt y0 y1, show (W * (k - 1) + x) % W = x by rw [Int.add_comm, Int.add_mul_emod_self_left]; exact Int.emod_eq_of_lt x0 x1]
  have e1 : appR sTile [k, 1] W H xs = (k * W, 1 * H, ys, 0) := e1
  have e2 : appR sCrop [W * (k - 1), 0, W, H] (k * W) (1 * H) ys = (W, H, zs, 0) := e2
  rw [foldM_cons e1, foldM_cons e2, this]; rfl
end Go.Proofs.Ytdephacjcljinaa
