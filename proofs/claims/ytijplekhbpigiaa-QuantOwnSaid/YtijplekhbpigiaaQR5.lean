/- Raster: images laid over others: the document's, pixel by pixel; the program's, part by part. -/
import Derived.Test.YtijplekhbpigiaaQR4
namespace Go.Proofs.Ytijplekhbpigiaa
open Go Go.Vc Go.RowKit
set_option maxRecDepth 100000
set_option linter.unusedVariables false
set_option linter.unusedSimpArgs false

theorem flat_append (a b : List Co) : flat (a ++ b) = flat a ++ flat b := by simp [flat]
theorem flat_cons (c : Co) (l : List Co) : flat (c :: l) = c.1 :: c.2.1 :: c.2.2.1 :: c.2.2.2 :: flat l := by simp [flat, coL]
theorem flat_take (l : List Co) : ∀ n, flat (l.take n) = (flat l).take (4 * n) := by
  induction l with
  | nil => intro n; simp [flat]
  | cons c l ih =>
    intro n
    cases n with
    | zero => simp [flat]
    | succ n => rw [List.take_succ_cons, flat_cons, flat_cons, ih, show 4 * (n + 1) = 4 * n + 1 + 1 + 1 + 1 by omega]; rfl
theorem flat_drop (l : List Co) : ∀ n, flat (l.drop n) = (flat l).drop (4 * n) := by
  induction l with
  | nil => intro n; simp [flat]
  | cons c l ih =>
    intro n
    cases n with
    | zero => simp
    | succ n => rw [List.drop_succ_cons, flat_cons, ih, show 4 * (n + 1) = 4 * n + 1 + 1 + 1 + 1 by omega]; rfl
theorem flat_one (c : Co) : flat [c] = coL c := by simp [flat]
/-- a colour's four samples written in their place -/
theorem flat_set {l : List Co} {q : Nat} {c : Co} (h : q < l.length) : (flat l).take (4 * q) ++ coL c ++ (flat l).drop (4 * q + 4) = flat (l.set q c) := by
  rw [List.set_eq_take_append_cons_drop, if_pos h, show (c :: List.drop (q + 1) l) = [c] ++ l.drop (q + 1) from rfl, flat_append, flat_append, flat_one, flat_take, flat_drop, show 4 * (q + 1) = 4 * q + 4 by omega, List.append_assoc]
theorem flat_set4 {c : Co} : ∀ {l : List Co} {q : Nat}, q < l.length → ((((flat l).set (4 * q) c.1).set (4 * q + 1) c.2.1).set (4 * q + 2) c.2.2.1).set (4 * q + 3) c.2.2.2 = flat (l.set q c)
  | [], q, h => by simp at h
  | d :: l, 0, _ => by simp [flat_cons]
  | d :: l, q + 1, h => by
    have ih := flat_set4 (c := c) (l := l) (q := q) (by simpa using h)
    rw [List.set_cons_succ, flat_cons, flat_cons, ← ih]
    rw [show 4 * (q + 1) = 4 * q + 1 + 1 + 1 + 1 by omega, show 4 * q + 1 + 1 + 1 + 1 + 1 = (4 * q + 1) + 1 + 1 + 1 + 1 by omega, show 4 * q + 1 + 1 + 1 + 1 + 2 = (4 * q + 2) + 1 + 1 + 1 + 1 by omega, show 4 * q + 1 + 1 + 1 + 1 + 3 = (4 * q + 3) + 1 + 1 + 1 + 1 by omega]
    simp only [List.set_cons_succ]
theorem take_succ4 {xs : List Int} {n : Nat} (h : 4 * (n + 1) ≤ xs.length) : xs.take (4 * (n + 1)) = xs.take (4 * n) ++ coL (colAt xs n) := by
  have := rowX_succ (xs := xs) (W := 0) (x := 0) (y := 0) (k := 0) (n := n) (by omega) (by omega)
  simpa [rowX] using this
def colsOf (xs : List Int) (n : Nat) : List Co := (List.range n).map (colAt xs)
theorem flat_colsOf {xs : List Int} : ∀ n, 4 * n ≤ xs.length → flat (colsOf xs n) = xs.take (4 * n)
  | 0, _ => by simp [colsOf, flat]
  | n + 1, h => by
    have e : colsOf xs (n + 1) = colsOf xs n ++ [colAt xs n] := by simp [colsOf, List.range_succ]
    rw [take_succ4 h, e, flat_append, flat_colsOf n (by omega), flat_one]
theorem flat_colsOf' {xs : List Int} {n : Nat} (h : xs.length = 4 * n) : flat (colsOf xs n) = xs := by
  rw [flat_colsOf n (by omega), ← h, List.take_length]
theorem colsOf_length (xs : List Int) (n : Nat) : (colsOf xs n).length = n := by simp [colsOf]
theorem colsOf_getD {xs : List Int} {n q : Nat} (h : q < n) : (colsOf xs n).getD q zeroC = colAt xs q := by simp [colsOf, List.getD, h]
/-! ## what laying over makes -/
def inP (x y pw ph i k : Int) : Bool := decide (x ≤ i ∧ y ≤ k ∧ i < x + pw ∧ k < y + ph)
def pasteC (W pw ph x y : Int) (xs ys : List Int) (q : Nat) : Co :=
  if inP x y pw ph ((q : Int) % W) ((q : Int) / W) then colAt ys (((q : Int) / W - y) * pw + ((q : Int) % W - x)).toNat else colAt xs q
def pasteX (W H pw ph x y : Int) (xs ys : List Int) : List Int := flat ((List.range (W * H).toNat).map (pasteC W pw ph x y xs ys))
def pasteR (W H : Int) (xs : List Int) (pw ph : Int) (ys : List Int) (x y : Int) : Int × Int × List Int × Int :=
  if good W H xs && good pw ph ys then (W, H, pasteX W H pw ph x y xs ys, 0) else (0, 0, [], 6)
structure UpTo (W H pw ph x y : Int) (xs ys : List Int) (l : List Co) (N : Int) : Prop where
  len : (l.length : Int) = W * H
  at_ : ∀ q : Nat, q < l.length → l.getD q zeroC = if (q : Int) < N then pasteC W pw ph x y xs ys q else colAt xs q
theorem UpTo.skip {W H pw ph x y : Int} {xs ys : List Int} {l : List Co} {N M : Int} (h : UpTo W H pw ph x y xs ys l N) (hNM : N ≤ M) (hs : ∀ q : Nat, q < l.length → N ≤ q → (q : Int) < M → inP x y pw ph ((q : Int) % W) ((q : Int) / W) = false) : UpTo W H pw ph x y xs ys l M :=
  ⟨h.len, fun q hq => by
    rw [h.at_ q hq]
    by_cases h1 : (q : Int) < N
    · rw [if_pos h1, if_pos (by omega)]
    · rw [if_neg h1]
      by_cases h2 : (q : Int) < M
      · rw [if_pos h2, pasteC, hs q hq (by omega) h2]; rfl
      · rw [if_neg h2]⟩
theorem UpTo.put {W H pw ph x y : Int} {xs ys : List Int} {l : List Co} {N : Int} (h : UpTo W H pw ph x y xs ys l N) (h0 : 0 ≤ N) {c : Co} (hc : c = pasteC W pw ph x y xs ys N.toNat) : UpTo W H pw ph x y xs ys (l.set N.toNat c) (N + 1) :=
  ⟨by rw [List.length_set]; exact h.len, fun q hq => by
    rw [List.length_set] at hq
    have e := h.at_ q hq
    by_cases hqn : q = N.toNat
    · subst hqn
      rw [if_pos (by omega), ← hc]
      simp [List.getD, hq]
    · have : (l.set N.toNat c).getD q zeroC = l.getD q zeroC := by simp [List.getD, List.getElem?_set, Ne.symm hqn]
      rw [this, e]
      by_cases h1 : (q : Int) < N
      · rw [if_pos h1, if_pos (by omega)]
      · rw [if_neg h1, if_neg (by omega)]⟩
theorem UpTo.start {W H pw ph x y : Int} {xs ys : List Int} (hg : good W H xs = true) : UpTo W H pw ph x y xs ys (colsOf xs (W * H).toNat) 0 := by
  simp only [good, Bool.and_eq_true, decide_eq_true_eq] at hg
  obtain ⟨g1, g2, g3, g4, g5⟩ := gfits_iff.1 hg.1
  have hpos : 0 ≤ W * H := Int.mul_nonneg (by omega) (by omega)
  exact ⟨by rw [colsOf_length]; omega, fun q hq => by rw [colsOf_length] at hq; rw [colsOf_getD hq, if_neg (by omega)]⟩
theorem UpTo.done {W H pw ph x y : Int} {xs ys : List Int} {l : List Co} {N : Int} (h : UpTo W H pw ph x y xs ys l N) (hN : W * H ≤ N) : flat l = pasteX W H pw ph x y xs ys := by
  have hl := h.len
  unfold pasteX
  congr 1
  refine List.ext_getElem (by simp; omega) fun q h1 h2 => ?_
  have e := h.at_ q h1
  rw [if_pos (by omega)] at e
  simp only [List.getD, h1, List.getElem?_eq_getElem, Option.getD_some] at e
  simp [e]
/-- a place of a row -/
theorem place_q {W i k : Int} (hW : 1 ≤ W) (h0 : 0 ≤ i) (h1 : i < W) : (k * W + i) % W = i ∧ (k * W + i) / W = k := by
  constructor
  · rw [Int.add_comm, Int.add_mul_emod_self_right, Int.emod_eq_of_lt h0 h1]
  · rw [Int.add_comm, Int.add_mul_ediv_right _ _ (by omega), Int.ediv_eq_zero_of_lt h0 h1, Int.zero_add]
theorem pasteC_in {W pw ph x y i k : Int} {xs ys : List Int} (hW : 1 ≤ W) (h0 : 0 ≤ i) (h1 : i < W) (hk : 0 ≤ k) (hin : inP x y pw ph i k = true) : pasteC W pw ph x y xs ys (k * W + i).toNat = colAt ys ((k - y) * pw + (i - x)).toNat := by
  have hp : 0 ≤ k * W := Int.mul_nonneg hk (by omega)
  obtain ⟨e1, e2⟩ := place_q (k := k) hW h0 h1
  unfold pasteC
  rw [show (((k * W + i).toNat : Nat) : Int) = k * W + i by omega, e1, e2, if_pos hin]
theorem row_lt {W k : Int} {q : Int} (hW : 1 ≤ W) (h : q < k * W) : q / W < k := Int.ediv_lt_of_lt_mul (by omega) h
theorem row_ge {W k : Int} {q : Int} (hW : 1 ≤ W) (h : k * W ≤ q) : k ≤ q / W := Int.le_ediv_of_mul_le (by omega) h
theorem inP_f {x y pw ph i k : Int} (h : ¬ (x ≤ i ∧ y ≤ k ∧ i < x + pw ∧ k < y + ph)) : inP x y pw ph i k = false := by simp only [inP, decide_eq_false_iff_not]; exact h
end Go.Proofs.Ytijplekhbpigiaa
