/- Moves: what becomes of images by several operators in turn: the plain law. -/
import Derived.Test.YtdephacjcljinaaMovesL1
namespace Go.Proofs.Ytdephacjcljinaa
open Go Go.Vc Go.RowKit
set_option maxRecDepth 100000
set_option linter.unusedVariables false
set_option linter.unusedSimpArgs false

theorem img_ext {a b : Int} {xs ys : List Int} (hx : good a b xs = true) (hy : good a b ys = true) (h : ∀ q : Nat, (q : Int) < a * b → colAt xs q = colAt ys q) : xs = ys := by
  obtain ⟨hg, hxl⟩ := good_iff.1 hx
  obtain ⟨_, hyl⟩ := good_iff.1 hy
  obtain ⟨g1, g2, g3, g4, g5⟩ := gfits_iff.1 hg
  have hp : 0 ≤ a * b := Int.mul_nonneg (by omega) (by omega)
  rw [← flat_colsOf' (xs := xs) (n := (a * b).toNat) (by omega), ← flat_colsOf' (xs := ys) (n := (a * b).toNat) (by omega)]
  congr 1
  unfold colsOf
  exact List.map_congr_left fun q hq => h q (by have := List.mem_range.1 hq; omega)
theorem colAt_pxs {op : ByteArray} {a xs : List Int} {W H w : Int} {n q : Nat} (h : q < n) : colAt (pxs op a W H xs w n) q = pf op a W H xs w q := by
  unfold pxs
  rw [colAt_flat (by simpa using h)]
  simp [List.getD, h]
theorem pxs_good {op : ByteArray} {a xs : List Int} {W H w h : Int} (hg : gfits w h = true) : good w h (pxs op a W H xs w (w * h).toNat) = true := good_flat hg
theorem idx_in {x y w h : Int} (hg : gfits w h = true) (x0 : 0 ≤ x) (x1 : x < w) (y0 : 0 ≤ y) (y1 : y < h) : 0 ≤ y * w + x ∧ y * w + x < w * h := by
  obtain ⟨g1, g2, g3, g4, g5⟩ := gfits_iff.1 hg
  have hp : 0 ≤ y * w := Int.mul_nonneg y0 (by omega)
  have h1 : (y + 1) * w ≤ h * w := Int.mul_le_mul_of_nonneg_right (by omega) (by omega)
  rw [Int.add_mul, Int.one_mul, Int.mul_comm h] at h1
  omega
theorem pf_at {op : ByteArray} {a xs : List Int} {W H w h : Int} (hg : gfits w h = true) {x y : Int} (x0 : 0 ≤ x) (x1 : x < w) (y0 : 0 ≤ y) (y1 : y < h) :
    colAt (pxs op a W H xs w (w * h).toNat) (y * w + x).toNat = pixM op a W H xs x y := by
  obtain ⟨i0, i1⟩ := idx_in hg x0 x1 y0 y1
  rw [colAt_pxs (by omega)]
  obtain ⟨d1, d2⟩ := divmod (y := y) x0 x1
  unfold pf
  rw [show (((y * w + x).toNat : Nat) : Int) = y * w + x by omega, d1, d2]
/-- an image is such: its size, and the colour at each place -/
structure Is (W H : Int) (xs : List Int) (g : Int → Int → Co) : Prop where
  gd : good W H xs = true
  at_ : ∀ x y, 0 ≤ x → x < W → 0 ≤ y → y < H → colAt xs (y * W + x).toNat = g x y
theorem Is.self {W H : Int} {xs : List Int} (h : good W H xs = true) : Is W H xs fun x y => colAt xs (y * W + x).toNat := ⟨h, fun _ _ _ _ _ _ => rfl⟩
theorem Is.eq {W H : Int} {xs ys : List Int} {g g' : Int → Int → Co} (h : Is W H xs g) (k : Is W H ys g') (e : ∀ x y, 0 ≤ x → x < W → 0 ≤ y → y < H → g x y = g' x y) : xs = ys := by
  obtain ⟨g1, g2, g3, g4, g5⟩ := gfits_iff.1 (good_iff.1 h.gd).1
  refine img_ext h.gd k.gd fun q hq => ?_
  have m0 : 0 ≤ (q : Int) % W := Int.emod_nonneg _ (by omega)
  have m1 : (q : Int) % W < W := Int.emod_lt_of_pos _ (by omega)
  have d0 : 0 ≤ (q : Int) / W := Int.ediv_nonneg (by omega) (by omega)
  have d1 : (q : Int) / W < H := Int.ediv_lt_of_lt_mul (by omega) (by rw [Int.mul_comm]; exact hq)
  have hq2 : (((q : Int) / W) * W + (q : Int) % W).toNat = q := by
    have := Int.mul_ediv_add_emod (q : Int) W
    rw [Int.mul_comm] at this; omega
  have h1 := h.at_ _ _ m0 m1 d0 d1
  have h2 := k.at_ _ _ m0 m1 d0 d1
  rw [hq2] at h1 h2
  rw [h1, h2, e _ _ m0 m1 d0 d1]
/-- what one operator makes -/
theorem Is.step {op : ByteArray} {a : List Int} {W H : Int} {xs : List Int} (hg : good W H xs = true) (hc : chkR op a = 0) (hcr : op = sCrop → cropOk a W H) (hz : gfits (whF op a W H).1 (whF op a W H).2 = true) (nt : op ≠ sTrim) :
    ∃ ys, appR op a W H xs = ((whF op a W H).1, (whF op a W H).2, ys, 0) ∧ Is (whF op a W H).1 (whF op a W H).2 ys (pixM op a W H xs) := by
  have hs : sizeR op a W H = ((whF op a W H).1, (whF op a W H).2, 0) := by
    unfold sizeR
    rw [if_neg (by omega), if_neg (by simp [(good_iff.1 hg).1]), if_neg (fun h => h.2 (hcr h.1)), if_neg (by simp [hz])]
  refine ⟨pxs op a W H xs (whF op a W H).1 ((whF op a W H).1 * (whF op a W H).2).toNat, ?_, pxs_good hz, fun x y x0 x1 y0 y1 => pf_at hz x0 x1 y0 y1⟩
  unfold appR
  rw [if_neg (by omega), if_neg (by simp [hg]), hs, if_neg (by simp), if_neg nt]
/-- an operator that puts pixels elsewhere -/
theorem Is.move {op : ByteArray} {a : List Int} {W H : Int} {xs : List Int} {g : Int → Int → Co} (h : Is W H xs g) (hc : chkR op a = 0) (hcr : op = sCrop → cropOk a W H) (hz : gfits (whF op a W H).1 (whF op a W H).2 = true) (nt : op ≠ sTrim) (nf : op ≠ sFrame) (ns : op ≠ sShrink) :
    ∃ ys, appR op a W H xs = ((whF op a W H).1, (whF op a W H).2, ys, 0) ∧ Is (whF op a W H).1 (whF op a W H).2 ys fun x y => g (frP op a W H x y).1 (frP op a W H x y).2 := by
  obtain ⟨ys, e, hi⟩ := Is.step h.gd hc hcr hz nt
  have hs : (sizeR op a W H).2.2 = 0 := by
    unfold sizeR
    rw [if_neg (by omega), if_neg (by simp [(good_iff.1 h.gd).1]), if_neg (fun h => h.2 (hcr h.1)), if_neg (by simp [hz])]
  refine ⟨ys, e, hi.gd, fun x y x0 x1 y0 y1 => ?_⟩
  have hin := fr_in hs nf ns x0 x1 y0 y1
  have hin' := of_decide_eq_true hin
  rw [hi.at_ x y x0 x1 y0 y1]
  unfold pixM
  rw [if_neg ns, if_pos hin, h.at_ _ _ hin'.1 hin'.2.2.1 hin'.2.1 hin'.2.2.2]
/-! ## samples stay samples -/
theorem avgC_ok {s : Co} {n : Int} (h : CoLe (65535 * n) s) (hn : 1 ≤ n) : CoOk (avgC s n) := by
  obtain ⟨h1, h2, h3, h4⟩ := h
  exact ⟨avg_sm h1.1 h1.2 hn, avg_sm h2.1 h2.2 hn, avg_sm h3.1 h3.2 hn, avg_sm h4.1 h4.2 hn⟩
theorem meanC_ok {xs : List Int} {W H n x y : Int} (hx : SmL xs) (n0 : 1 ≤ n) (x1 : n * x < W) (y1 : n * y < H) : CoOk (meanC W H xs n x y) := by
  unfold meanC
  have h1 : 1 ≤ min n (W - n * x) := by omega
  have h2 : 1 ≤ min n (H - n * y) := by omega
  have h3 : 0 < min n (W - n * x) * min n (H - n * y) := Int.mul_pos (by omega) (by omega)
  have := sumC_le (f := meanF W xs n x y (min n (W - n * x))) (q := (min n (W - n * x) * min n (H - n * y)).toNat) fun _ _ => hx.col _
  rw [show (((min n (W - n * x) * min n (H - n * y)).toNat : Nat) : Int) = min n (W - n * x) * min n (H - n * y) by omega] at this
  exact avgC_ok this (by omega)
theorem SmL.flat {l : List Co} (h : ∀ c ∈ l, CoOk c) : SmL (flat l) := fun n hn => by
  unfold Go.Proofs.Ytdephacjcljinaa.flat at hn
  obtain ⟨k, hk, hn⟩ := List.mem_flatten.1 hn
  obtain ⟨c, hc, rfl⟩ := List.mem_map.1 hk
  obtain ⟨h1, h2, h3, h4⟩ := h c hc
  simp only [coL, List.mem_cons, List.not_mem_nil, or_false] at hn
  rcases hn with rfl | rfl | rfl | rfl <;> assumption
theorem cropX_sm {xs : List Int} (hx : SmL xs) {W x y : Int} {a : Nat} : ∀ k : Nat, SmL (cropX xs W x y a k)
  | 0 => fun n hn => by simp [cropX] at hn
  | k + 1 => fun n hn => by
    rw [cropX] at hn
    rcases List.mem_append.1 hn with hn | hn
    · exact cropX_sm hx k n hn
    · exact hx n (List.mem_of_mem_drop (List.mem_of_mem_take hn))
theorem appR_sm {op : ByteArray} {a xs : List Int} {W H : Int} (hx : SmL xs) : SmL (appR op a W H xs).2.2.1 := by
  unfold appR
  split
  · intro n hn; simp at hn
  split
  · intro n hn; simp at hn
  split
  · intro n hn; simp at hn
  rename_i h1 h2 h3
  have hg : good W H xs = true := by simpa using h2
  split
  · show SmL (trimR W H xs).2.2.1
    unfold trimR
    generalize boxT (box W H xs (W * H).toNat) = b
    unfold cropR
    rw [if_pos hg]
    by_cases h4 : inR b.1 b.2.1 (b.2.2.1 - b.1 + 1) (b.2.2.2 - b.2.1 + 1) W H = true
    · rw [if_pos h4]; exact cropX_sm hx _
    · rw [if_neg h4]; intro n hn; cases hn
  · obtain ⟨hc, hf, _, hz, hsz⟩ := size_facts (Classical.byContradiction h3)
    obtain ⟨g1, g2, g3, g4, g5⟩ := gfits_iff.1 hz
    obtain ⟨a1, a2, a3, a4, a5⟩ := gfits_iff.1 hf
    rw [hsz]
    refine SmL.flat fun c hc' => ?_
    obtain ⟨q, hq, rfl⟩ := List.mem_map.1 hc'
    have hq : q < ((whF op a W H).1 * (whF op a W H).2).toNat := List.mem_range.1 hq
    have hq' : (q : Int) < (whF op a W H).1 * (whF op a W H).2 := by omega
    have m0 : 0 ≤ (q : Int) % (whF op a W H).1 := Int.emod_nonneg _ (by omega)
    have m1 : (q : Int) % (whF op a W H).1 < (whF op a W H).1 := Int.emod_lt_of_pos _ (by omega)
    have d0 : 0 ≤ (q : Int) / (whF op a W H).1 := Int.ediv_nonneg (by omega) (by omega)
    have d1 : (q : Int) / (whF op a W H).1 < (whF op a W H).2 := Int.ediv_lt_of_lt_mul (by omega) (by rw [Int.mul_comm]; exact hq')
    show CoOk (pixM op a W H xs _ _)
    unfold pixM
    split
    · rename_i e
      subst e
      obtain ⟨l1, q0⟩ := shrink_args hc
      exact meanC_ok hx (by omega) (sq_in (by omega) m0 m1).2 (sq_in (by omega) d0 d1).2
    · rename_i ns
      split
      · exact hx.col _
      · rename_i hi
        have hof : op = sFrame := Classical.byContradiction fun nf => hi (fr_in (Classical.byContradiction h3) nf ns m0 m1 d0 d1)
        subst hof
        exact frame_hd hc
/-! ## operators in turn -/
def foldM : List (ByteArray × List Int) → Int → Int → List Int → (Int × Int × List Int) × Bool
  | [], W, H, xs => ((W, H, xs), true)
  | (op, a) :: r, W, H, xs => if (appR op a W H xs).2.2.2 = 0 then foldM r (appR op a W H xs).1 (appR op a W H xs).2.1 (appR op a W H xs).2.2.1 else (((appR op a W H xs).1, (appR op a W H xs).2.1, (appR op a W H xs).2.2.1), false)
theorem foldM_cons {op : ByteArray} {a : List Int} {r : List (ByteArray × List Int)} {W H V G : Int} {xs ys : List Int} (h : appR op a W H xs = (V, G, ys, 0)) : foldM ((op, a) :: r) W H xs = foldM r V G ys := by
  rw [foldM, h]; simp
theorem foldM_sm : ∀ {l : List (ByteArray × List Int)} {W H : Int} {xs : List Int}, SmL xs → SmL (foldM l W H xs).1.2.2
  | [], _, _, _, h => h
  | (op, a) :: r, W, H, xs, h => by
    rw [foldM]
    split
    · exact foldM_sm (appR_sm h)
    · exact appR_sm h
theorem foldM_len : ∀ {l : List (ByteArray × List Int)} {W H : Int} {xs : List Int}, l ≠ [] → (foldM l W H xs).1.2.2.length ≤ 4 * 65536
  | [(op, a)], W, H, xs, _ => by
    rw [foldM]
    split
    · exact appR_len
    · exact appR_len
  | (op, a) :: b :: r, W, H, xs, _ => by
    rw [foldM]
    split
    · exact foldM_len (by simp)
    · exact appR_len
end Go.Proofs.Ytdephacjcljinaa
