/- Numbers of several bytes. -/
import Derived.Test.YthfnohbpdoklgaaIR1
namespace Go.Proofs.Ythfnohbpdoklgaa
open Go Go.Vc Go.RowKit
set_option maxRecDepth 100000
set_option linter.unusedVariables false
set_option linter.unusedSimpArgs false

/-- the number that n bytes from a place on make, the first one the highest -/
def bigN (bs : List Int) (a : Nat) : Nat → Int
  | 0 => 0
  | n + 1 => 256 * bigN bs a n + bs.getD (a + n) 0
/-- the same, the first one the lowest -/
def litN (bs : List Int) : Nat → Nat → Int
  | _, 0 => 0
  | a, n + 1 => bs.getD a 0 + 256 * litN bs (a + 1) n
def getV (bs : List Int) (a n : Nat) (big : Bool) : Int := if big then bigN bs a n else litN bs a n
theorem fit_getD {bs : List Int} (h : Bs bs) (i : Nat) : 0 ≤ bs.getD i 0 ∧ bs.getD i 0 ≤ 255 := by
  by_cases hi : i < bs.length
  · rw [show bs.getD i 0 = bs[i] by simp [List.getD, hi]]
    exact h _ (List.getElem_mem hi)
  · simp [List.getD, List.getElem?_eq_none (Nat.le_of_not_lt hi)]
theorem bigN_range {bs : List Int} (h : Bs bs) (a : Nat) : ∀ n, 0 ≤ bigN bs a n ∧ bigN bs a n < 256 ^ n
  | 0 => by simp [bigN]
  | n + 1 => by
    have := bigN_range h a n
    have := fit_getD h (a + n)
    rw [bigN, Int.pow_succ]; omega
theorem litN_range {bs : List Int} (h : Bs bs) : ∀ n a, 0 ≤ litN bs a n ∧ litN bs a n < 256 ^ n
  | 0, _ => by simp [litN]
  | n + 1, a => by
    have := litN_range h n (a + 1)
    have := fit_getD h a
    rw [litN, Int.pow_succ]; omega
theorem litN_last (bs : List Int) : ∀ n a, litN bs a (n + 1) = litN bs a n + bs.getD (a + n) 0 * 256 ^ n
  | 0, a => by simp [litN]
  | n + 1, a => by
    rw [litN, litN_last bs n (a + 1), litN, Int.mul_add, Int.pow_succ, show a + 1 + n = a + (n + 1) by omega, ← Int.mul_assoc, Int.mul_comm 256 (bs.getD (a + (n + 1)) 0), Int.mul_assoc, Int.mul_comm 256 (256 ^ n)]
    omega
theorem pow32 {n : Nat} (h : n ≤ 4) : (256 : Int) ^ n ≤ 2 ^ 32 := by
  have : (256 : Nat) ^ n ≤ 256 ^ 4 := Nat.pow_le_pow_right (by omega) h
  exact_mod_cast this
theorem or8 {v b : Int} (v0 : 0 ≤ v) (v1 : v < 2 ^ 24) (b0 : 0 ≤ b) (b1 : b ≤ 255) :
    IntKind.u32.wrap (bitsZ .or .u32 (shiftZ .shl .u32 v 8) (IntKind.u32.wrap b)) = 256 * v + b := by
  rw [shiftZ_shl (by omega) (by simp [IntKind.bits]), wrap_u (x := b) rfl b0 (by simp [IntKind.bits]; omega)]
  have e : v * 2 ^ (8 : Int).toNat = 2 ^ 8 * v := by rw [show (8 : Int).toNat = 8 by rfl]; omega
  rw [e, wrap_u (x := 2 ^ 8 * v) rfl (by omega) (by simp [IntKind.bits]; omega), bitsZ_orAdd v0 (by simp [IntKind.bits]; omega) b0 (by omega)]
  exact wrap_u rfl (by omega) (by simp [IntKind.bits]; omega)
/-- why a number isn't there -/
def thereE (len : Nat) (a n : Int) : Int := if n < 1 ∨ n > 4 then 2 else if a < 0 ∨ a > len - n then 5 else 0
theorem there_spec {w : World} {base : Option Addr} {len cap : Nat} {a n : Int} {R : Ending → World → Prop} (hsz : len ≤ 2 ^ 47) (hR : R (.returned (i64 (thereE len a n))) w) : Calls P F.bits_there #[.slice base len cap, i64 a, i64 n] w R := by
  refine calls_bits_there _ _ _ _ _ _ _ ?_
  unfold thereE at hR
  refine brB_i (fun h => ?_) (fun h => ?_)
  · rw [if_pos (by simpa using h)] at hR; exact hR
  · have h : 1 ≤ n ∧ n ≤ 4 := by simpa using h
    rw [if_neg (by omega)] at hR
    rw [w64 (by omega) (by omega)]
    refine brB_i (fun h2 => ?_) (fun h2 => ?_)
    · rw [if_pos (by simpa using h2)] at hR; exact hR
    · have h2 : 0 ≤ a ∧ a ≤ len - n := by simpa using h2
      rw [if_neg (by omega)] at hR; exact hR
theorem thereE_0 {len : Nat} {a n : Int} (h : thereE len a n = 0) : 1 ≤ n ∧ n ≤ 4 ∧ 0 ≤ a ∧ a ≤ len - n := by
  unfold thereE at h; split at h
  · omega
  · split at h <;> omega
theorem Get_spec {N : Nat} {w : World} {base : Option Addr} {len cap : Nat} {bs : List Int} {a n : Int} {big : Bool} {R : Ending → World → Prop} (h : Sl N w base (bytes bs)) (hl : len = bs.length) (hsz : len ≤ 2 ^ 47) (hf : Bs bs)
    (h1 : thereE len a n ≠ 0 → R (.returned (.tuple #[.int .u32 0, i64 (thereE len a n)])) w)
    (h2 : thereE len a n = 0 → R (.returned (.tuple #[.int .u32 (getV bs a.toNat n.toNat big), i64 0])) w) :
    Calls P F.bits_Get #[.slice base len cap, i64 a, i64 n, .bool big] w R := by
  refine calls_bits_Get _ _ _ _ _ _ _ _ ?_
  refine there_spec hsz ⟨_, rfl, brB_i (fun hne => h1 (by simpa using hne)) (fun he => ?_)⟩
  have he : thereE len a n = 0 := by simpa using he
  obtain ⟨n1, n4, a0, a1⟩ := thereE_0 he
  refine ⟨fun l w' => match l with | [.int _ v, .int _ i] => 0 ≤ i ∧ i ≤ n ∧ w' = w ∧ v = (if big then bigN bs a.toNat i.toNat else litN bs (a + n - i).toNat i.toNat) | _ => False,
    fun l _ => match l with | [.int _ v, .int _ i] => (n - i).toNat | _ => 0, ⟨by omega, by omega, rfl, by cases big <;> rfl⟩, fun v i w1 hI => ?_⟩
  obtain ⟨i0, i1, rfl, rfl⟩ := hI
  have hrb := bigN_range hf a.toNat i.toNat
  have hrl := litN_range hf i.toNat (a + n - i).toNat
  refine brB_i (fun hlt => ?_) (fun hge => ?_)
  · have hlt : i < n := by simpa using hlt
    have hp : (256 : Int) ^ i.toNat ≤ 2 ^ 24 := by
      have : (256 : Nat) ^ i.toNat ≤ 256 ^ 3 := Nat.pow_le_pow_right (by omega) (by omega)
      exact_mod_cast this
    refine ⟨fun l w' => match l with | [.int _ v] => w' = w1 ∧ v = (if big then bigN bs a.toNat (i.toNat + 1) else litN bs (a + n - (i + 1)).toNat (i.toNat + 1)) | _ => False, brB_i (fun hb => ?_) (fun hb => ?_), fun v w3 hI => ?_⟩
    · subst hb
      rw [w64 (x := a + i) (by omega) (by omega)]
      refine h.get (by omega) (by rw [bytes_length]; omega) (bytes_get (by omega)) fun c hc => ⟨_, hc, rfl, ?_⟩
      have hg := fit_getD hf (a + i).toNat
      simp only [if_true]
      rw [or8 hrb.1 (by omega) hg.1 hg.2, bigN, show (a + i).toNat = a.toNat + i.toNat by omega]
    · subst hb
      rw [w64 (x := a + n) (by omega) (by omega), w64 (x := a + n - 1) (by omega) (by omega), w64 (x := a + n - 1 - i) (by omega) (by omega)]
      refine h.get (by omega) (by rw [bytes_length]; omega) (bytes_get (by omega)) fun c hc => ⟨_, hc, rfl, ?_⟩
      have hg := fit_getD hf (a + n - 1 - i).toNat
      simp only [Bool.false_eq_true, if_false]
      rw [or8 hrl.1 (by omega) hg.1 hg.2, litN, show (a + n - (i + 1)).toNat = (a + n - 1 - i).toNat by omega, show (a + n - i).toNat = (a + n - 1 - i).toNat + 1 by omega]
      omega
    · obtain ⟨rfl, rfl⟩ := hI
      rw [w64 (x := i + 1) (by omega) (by omega)]
      refine ⟨⟨by omega, by omega, rfl, by rw [show (i + 1).toNat = i.toNat + 1 by omega]⟩, ?_⟩
      show (n - (i + 1)).toNat < (n - i).toNat
      omega
  · have hge : i = n := by simp at hge; omega
    subst hge
    have := h2 he
    unfold getV at this
    rwa [show (a + i - i).toNat = a.toNat by omega]
theorem refGet_spec {N : Nat} {w : World} {base : Option Addr} {len cap : Nat} {bs : List Int} {a n : Int} {big : Bool} {R : Ending → World → Prop} (h : Sl N w base (bytes bs)) (hl : len = bs.length) (hsz : len ≤ 2 ^ 47) (hf : Bs bs)
    (h1 : thereE len a n ≠ 0 → R (.returned (.tuple #[.int .u32 0, i64 (thereE len a n)])) w)
    (h2 : thereE len a n = 0 → R (.returned (.tuple #[.int .u32 (getV bs a.toNat n.toNat big), i64 0])) w) :
    Calls P F.ref01_Get #[.slice base len cap, i64 a, i64 n, .bool big] w R := by
  refine calls_ref01_Get _ _ _ _ _ _ _ _ ?_
  unfold thereE at h1 h2
  refine brB_i (fun hb => ?_) (fun hb => ?_)
  · rw [if_pos (by simpa using hb)] at h1; exact h1 (by omega)
  have hb : 1 ≤ n ∧ n ≤ 4 := by simpa using hb
  rw [if_neg (by omega)] at h1 h2
  refine brB_i (fun hc => ?_) (fun hc => ?_)
  · have hc : a < 0 ∨ a > len - n := by
      by_cases ha : 0 ≤ a ∧ a ≤ len
      · rw [w64 (by omega) (by omega)] at hc
        simp at hc; omega
      · simp at hc; omega
    rw [if_pos hc] at h1; exact h1 (by omega)
  have hc : 0 ≤ a ∧ a ≤ len - n := by
    simp only [Bool.or_eq_false_iff, decide_eq_false_iff_not] at hc
    obtain ⟨⟨hc1, hc2⟩, hc3⟩ := hc
    rw [w64 (by omega) (by omega)] at hc3
    omega
  rw [if_neg (by omega)] at h2
  have h2 := h2 rfl
  refine ⟨fun l w' => match l with | [.int _ v, .int _ i] => 0 ≤ i ∧ i ≤ n ∧ w' = w ∧ v = getV bs a.toNat i.toNat big | _ => False,
    fun l _ => match l with | [.int _ v, .int _ i] => (n - i).toNat | _ => 0, ⟨by omega, by omega, rfl, by cases big <;> rfl⟩, fun v i w1 hI => ?_⟩
  obtain ⟨i0, i1, rfl, rfl⟩ := hI
  have hrb := bigN_range hf a.toNat i.toNat
  have hrl := litN_range hf i.toNat a.toNat
  have hrb1 := bigN_range hf a.toNat (i.toNat + 1)
  have hrl1 := litN_range hf (i.toNat + 1) a.toNat
  refine brB_i (fun hlt => ?_) (fun hge => ?_)
  · have hlt : i < n := by simpa using hlt
    have hp1 := pow32 (n := i.toNat + 1) (by omega)
    have hp : (256 : Int) ^ i.toNat ≤ 2 ^ 24 := by
      have : (256 : Nat) ^ i.toNat ≤ 256 ^ 3 := Nat.pow_le_pow_right (by omega) (by omega)
      exact_mod_cast this
    refine ⟨fun l w' => match l with | [.int _ v] => w' = w1 ∧ v = getV bs a.toNat (i.toNat + 1) big | _ => False, brB_i (fun hb => ?_) (fun hb => ?_), fun v w3 hI => ?_⟩
    · subst hb
      rw [w64 (x := a + i) (by omega) (by omega)]
      refine h.get (by omega) (by rw [bytes_length]; omega) (bytes_get (by omega)) fun c hc => ⟨_, hc, rfl, ?_⟩
      have hg := fit_getD hf (a + i).toNat
      simp only [getV, if_true]
      rw [bigN, ← show (a + i).toNat = a.toNat + i.toNat by omega] at hrb1
      rw [wu32 (x := 256 * bigN bs a.toNat i.toNat) (by omega) (by omega), wu32 (x := bs.getD (a + i).toNat 0) (by omega) (by omega), wu32 (by omega) (by omega), bigN, show (a + i).toNat = a.toNat + i.toNat by omega]
    · subst hb
      rw [w64 (x := a + i) (by omega) (by omega), w64 (x := 8 * i) (by omega) (by omega)]
      refine h.get (by omega) (by rw [bytes_length]; omega) (bytes_get (by omega)) fun c hc => ⟨_, hc, ?_⟩
      have hg := fit_getD hf (a + i).toNat
      have ew : IntKind.u64.wrap (8 * i) = 8 * i := wrap_u rfl (by omega) (by simp [IntKind.bits]; omega)
      have e2 : (2 : Int) ^ (8 * i).toNat = 256 ^ i.toNat := by
        rw [show (8 * i).toNat = 8 * i.toNat by omega, Int.pow_mul]; rfl
      rw [litN_last] at hrl1
      have hm : 0 ≤ bs.getD (a + i).toNat 0 * 256 ^ i.toNat := Int.mul_nonneg hg.1 (Int.le_of_lt (Int.pow_pos (by omega)))
      rw [show a.toNat + i.toNat = (a + i).toNat by omega] at hrl1
      rw [ew]
      refine ⟨by omega, rfl, ?_⟩
      simp only [getV, Bool.false_eq_true, if_false]
      rw [wu32 (x := bs.getD (a + i).toNat 0) (by omega) (by omega), shiftZ_shl (by omega) (by simp [IntKind.bits]; omega), e2,
        wu32 (x := bs.getD (a + i).toNat 0 * 256 ^ i.toNat) hm (by omega), litN_last, show a.toNat + i.toNat = (a + i).toNat by omega]
      exact wu32 (by omega) (by omega)
    · obtain ⟨rfl, rfl⟩ := hI
      rw [w64 (x := i + 1) (by omega) (by omega)]
      refine ⟨⟨by omega, by omega, rfl, by rw [show (i + 1).toNat = i.toNat + 1 by omega]⟩, ?_⟩
      show (n - (i + 1)).toNat < (n - i).toNat
      omega
  · have hge : i = n := by simp at hge; omega
    subst hge
    exact h2
end Go.Proofs.Ythfnohbpdoklgaa
