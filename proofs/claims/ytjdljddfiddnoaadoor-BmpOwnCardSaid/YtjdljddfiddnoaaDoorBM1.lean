/- Bmp: masks: the place of the lowest bit, how many bits; bits that stand side by side. -/
import Derived.Test.YtjdljddfiddnoaaDoorBX9
namespace Go.Proofs.YtjdljddfiddnoaaDoor
open Go Go.Vc Go.RowKit
set_option maxRecDepth 100000
set_option linter.unusedVariables false
set_option linter.unusedSimpArgs false

abbrev u32 (n : Int) : Value := .int .u32 n
/-- the bits of every byte, counted -/
def popT : ByteArray := { data := #[0, 1, 1, 2, 1, 2, 2, 3, 1, 2, 2, 3, 2, 3, 3, 4, 1, 2, 2, 3, 2, 3, 3, 4, 2, 3, 3, 4, 3, 4, 4, 5, 1, 2, 2, 3, 2, 3, 3, 4, 2, 3, 3, 4, 3, 4, 4, 5, 2, 3, 3, 4, 3, 4, 4, 5, 3, 4, 4, 5, 4, 5, 5, 6, 1, 2, 2, 3, 2, 3, 3, 4, 2, 3, 3, 4, 3, 4, 4, 5, 2, 3, 3, 4, 3, 4, 4, 5, 3, 4, 4, 5, 4, 5, 5, 6, 2, 3, 3, 4, 3, 4, 4, 5, 3, 4, 4, 5, 4, 5, 5, 6, 3, 4, 4, 5, 4, 5, 5, 6, 4, 5, 5, 6, 5, 6, 6, 7, 1, 2, 2, 3, 2, 3, 3, 4, 2, 3, 3, 4, 3, 4, 4, 5, 2, 3, 3, 4, 3, 4, 4, 5, 3, 4, 4, 5, 4, 5, 5, 6, 2, 3, 3, 4, 3, 4, 4, 5, 3, 4, 4, 5, 4, 5, 5, 6, 3, 4, 4, 5, 4, 5, 5, 6, 4, 5, 5, 6, 5, 6, 6, 7, 2, 3, 3, 4, 3, 4, 4, 5, 3, 4, 4, 5, 4, 5, 5, 6, 3, 4, 4, 5, 4, 5, 5, 6, 4, 5, 5, 6, 5, 6, 6, 7, 3, 4, 4, 5, 4, 5, 5, 6, 4, 5, 5, 6, 5, 6, 6, 7, 4, 5, 5, 6, 5, 6, 6, 7, 5, 6, 6, 7, 6, 7, 7, 8] }
theorem popT_le : ∀ i : Nat, i < 256 → 0 ≤ sixAt popT i ∧ sixAt popT i ≤ 8 := by decide +kernel
def popN (m : Nat) : Int := sixAt popT (m / 2 ^ 24) + sixAt popT (m / 2 ^ 16 % 256) + sixAt popT (m / 2 ^ 8 % 256) + sixAt popT (m % 256)
/-- n ones, from place a on -/
def ones (a n : Nat) : Nat := 2 ^ a * (2 ^ n - 1)
theorem popN_ones : ∀ a : Fin 33, ∀ n : Fin 33, a.val + n.val ≤ 32 → popN (ones a.val n.val) = n.val := by decide +kernel
theorem popN_range {m : Nat} (h : m < 2 ^ 32) : 0 ≤ popN m ∧ popN m ≤ 32 := by
  have h1 := popT_le (m / 2 ^ 24) (by omega)
  have h2 := popT_le (m / 2 ^ 16 % 256) (by omega)
  have h3 := popT_le (m / 2 ^ 8 % 256) (by omega)
  have h4 := popT_le (m % 256) (by omega)
  unfold popN; omega
/-- the table of the lowest bits -/
def tzL : List Int := [0, 1, 28, 2, 29, 14, 24, 3, 30, 22, 20, 15, 25, 17, 4, 8, 31, 27, 13, 23, 21, 19, 16, 7, 26, 12, 18, 6, 11, 5, 10, 9]
theorem tz_tab : ∀ t : Fin 32, tzL.getD ((2 ^ t.val * 125613361) % 2 ^ 32 / 2 ^ 27) 0 = t.val := by decide +kernel
theorem odd_part : ∀ m : Nat, 0 < m → ∃ t k, m = 2 ^ t * (2 * k + 1) := by
  intro m
  induction m using Nat.strongRecOn with
  | ind m ih =>
    intro h
    rcases Nat.mod_two_eq_zero_or_one m with h0 | h1
    · obtain ⟨t, k, e⟩ := ih (m / 2) (by omega) (by omega)
      exact ⟨t + 1, k, by rw [Nat.pow_succ, Nat.mul_assoc, Nat.mul_left_comm, ← e]; omega⟩
    · exact ⟨0, m / 2, by omega⟩
theorem odd_unique : ∀ (s t k l : Nat), 2 ^ s * (2 * k + 1) = 2 ^ t * (2 * l + 1) → s = t ∧ k = l := by
  intro s
  induction s with
  | zero =>
    intro t k l h
    cases t with
    | zero => exact ⟨rfl, by simp at h; omega⟩
    | succ t => rw [Nat.pow_succ, Nat.mul_comm (2 ^ t), Nat.mul_assoc] at h; omega
  | succ s ih =>
    intro t k l h
    cases t with
    | zero => rw [Nat.pow_succ, Nat.mul_comm (2 ^ s), Nat.mul_assoc] at h; omega
    | succ t =>
      rw [Nat.pow_succ, Nat.pow_succ, Nat.mul_comm (2 ^ s), Nat.mul_comm (2 ^ t), Nat.mul_assoc, Nat.mul_assoc] at h
      obtain ⟨a, b⟩ := ih t k l (by omega)
      exact ⟨by omega, b⟩
theorem ones_odd {n : Nat} (h : 1 ≤ n) : 2 ^ n - 1 = 2 * (2 ^ (n - 1) - 1) + 1 := by
  obtain ⟨k, rfl⟩ : ∃ k, n = k + 1 := ⟨n - 1, by omega⟩
  rw [Nat.pow_succ, Nat.add_sub_cancel]
  have : 0 < 2 ^ k := Nat.two_pow_pos k
  omega
theorem ones_unique {a n b k : Nat} (hn : 1 ≤ n) (hk : 1 ≤ k) (h : ones a n = ones b k) : a = b ∧ n = k := by
  unfold ones at h
  rw [ones_odd hn, ones_odd hk] at h
  obtain ⟨e1, e2⟩ := odd_unique _ _ _ _ h
  refine ⟨e1, ?_⟩
  have p1 : 0 < 2 ^ (n - 1) := Nat.two_pow_pos _
  have p2 : 0 < 2 ^ (k - 1) := Nat.two_pow_pos _
  have e3 : 2 ^ (n - 1) = 2 ^ (k - 1) := by omega
  have l1 := (Nat.pow_le_pow_iff_right (a := 2) (by omega)).1 (Nat.le_of_eq e3)
  have l2 := (Nat.pow_le_pow_iff_right (a := 2) (by omega)).1 (Nat.le_of_eq e3.symm)
  omega
/-- a number and its negative have the lowest bit alone in common -/
theorem and_neg {s k : Nat} (h : 2 * k + 1 < 2 ^ s) : (2 * k + 1) &&& (2 ^ s - (2 * k + 1)) = 1 := by
  refine Nat.eq_of_testBit_eq fun i => ?_
  rw [Nat.testBit_and]
  have e : 2 ^ s - (2 * k + 1) = 2 ^ s - (2 * k + 1) := rfl
  rw [show 2 ^ s - (2 * k + 1) = 2 ^ s - ((2 * k) + 1) by rfl, Nat.testBit_two_pow_sub_succ (by omega)]
  cases i with
  | zero =>
    have hs : 0 < s := by
      rcases Nat.eq_zero_or_pos s with h0 | h0
      · subst h0; simp at h; 
      · exact h0
    simp [Nat.testBit_zero, hs, Nat.mul_mod_right, Nat.add_mod]
  | succ i =>
    have e1 : (2 * k + 1).testBit (i + 1) = k.testBit i := by rw [Nat.testBit_succ]; congr 1; omega
    have e2 : (2 * k).testBit (i + 1) = k.testBit i := by rw [Nat.testBit_succ]; congr 1; omega
    have e3 : (1 : Nat).testBit (i + 1) = false := by rw [Nat.testBit_succ]; simp
    rw [e1, e2, e3]
    cases k.testBit i <;> simp
theorem low_bit {t k : Nat} (h : 2 ^ t * (2 * k + 1) < 2 ^ 32) : (2 ^ t * (2 * k + 1)) &&& (2 ^ 32 - 2 ^ t * (2 * k + 1)) = 2 ^ t := by
  have ht : t < 32 := by
    rcases Nat.lt_or_ge t 32 with h' | h'
    · exact h'
    · have : 2 ^ 32 ≤ 2 ^ t := Nat.pow_le_pow_right (by omega) h'
      have : 2 ^ t * 1 ≤ 2 ^ t * (2 * k + 1) := Nat.mul_le_mul_left _ (by omega)
      omega
  have e : 2 ^ 32 = 2 ^ t * 2 ^ (32 - t) := by rw [← Nat.pow_add]; congr 1; omega
  rw [e] at h
  have hq : 2 * k + 1 < 2 ^ (32 - t) := Nat.lt_of_mul_lt_mul_left h
  rw [e, ← Nat.mul_sub]
  have := Nat.shiftLeft_and_distrib (a := 2 * k + 1) (b := 2 ^ (32 - t) - (2 * k + 1)) (i := t)
  simp only [Nat.shiftLeft_eq] at this
  rw [Nat.mul_comm (2 ^ t), Nat.mul_comm (2 ^ t), ← this, and_neg hq, Nat.one_mul]
theorem low_lt {t k : Nat} (h : 2 ^ t * (2 * k + 1) < 2 ^ 32) : t < 32 := by
  rcases Nat.lt_or_ge t 32 with h' | h'
  · exact h'
  · have : 2 ^ 32 ≤ 2 ^ t := Nat.pow_le_pow_right (by omega) h'
    have : 2 ^ t * 1 ≤ 2 ^ t * (2 * k + 1) := Nat.mul_le_mul_left _ (by omega)
    omega
/-- do a mask's bits stand side by side? (the lowest one's place, how many) -/
def conF (m : Nat) : Option (Nat × Nat) := ((List.range 32).flatMap fun a => (List.range 33).map fun n => (a, n)).find? fun q => 1 ≤ q.2 && q.1 + q.2 ≤ 32 && m == ones q.1 q.2
theorem conF_some {m a n : Nat} (h : conF m = some (a, n)) : 1 ≤ n ∧ a + n ≤ 32 ∧ m = ones a n := by
  have := List.find?_some h
  simpa [and_assoc] using this
theorem conF_none {m : Nat} (h : conF m = none) {a n : Nat} (h1 : 1 ≤ n) (h2 : a + n ≤ 32) : m ≠ ones a n := by
  intro e
  have := List.find?_eq_none.1 h (a, n) (by simp; omega)
  simp at this
  omega
theorem conF_of {m a n : Nat} (h1 : 1 ≤ n) (h2 : a + n ≤ 32) (e : m = ones a n) : conF m = some (a, n) := by
  cases h : conF m with
  | none => exact (conF_none h h1 h2 e).elim
  | some q =>
    obtain ⟨b, k⟩ := q
    obtain ⟨i1, i2, i3⟩ := conF_some h
    obtain ⟨e1, e2⟩ := ones_unique h1 i1 (e.symm.trans i3)
    rw [e1, e2]
theorem con_run {t k : Nat} (h : 2 ^ t * (2 * k + 1) < 2 ^ 32) : (2 * k + 1 = 2 ^ (popN (2 ^ t * (2 * k + 1))).toNat - 1) ↔ ∃ n, conF (2 ^ t * (2 * k + 1)) = some (t, n) := by
  have ht := low_lt h
  constructor
  · intro e
    have hn : 1 ≤ (popN (2 ^ t * (2 * k + 1))).toNat := by
      rcases Nat.eq_zero_or_pos (popN (2 ^ t * (2 * k + 1))).toNat with h0 | h0
      · rw [h0] at e; simp at e
      · exact h0
    refine ⟨(popN (2 ^ t * (2 * k + 1))).toNat, conF_of hn ?_ ?_⟩
    · generalize (popN (2 ^ t * (2 * k + 1))).toNat = n at e hn
      rw [e] at h
      rw [ones_odd hn] at h
      have p : 2 ^ t * 2 ^ (n - 1) ≤ 2 ^ t * (2 * (2 ^ (n - 1) - 1) + 1) := Nat.mul_le_mul_left _ (by have : 0 < 2 ^ (n - 1) := Nat.two_pow_pos _; omega)
      rw [← Nat.pow_add] at p
      have : t + (n - 1) < 32 := (Nat.pow_lt_pow_iff_right (a := 2) (by omega)).1 (by omega)
      omega
    · unfold ones; rw [← e]
  · rintro ⟨n, hc⟩
    obtain ⟨i1, i2, i3⟩ := conF_some hc
    rw [i3, popN_ones ⟨t, by omega⟩ ⟨n, by omega⟩ i2]
    unfold ones at i3
    have := Nat.eq_of_mul_eq_mul_left (Nat.two_pow_pos t) i3
    rw [Int.toNat_natCast]; exact this
end Go.Proofs.YtjdljddfiddnoaaDoor
