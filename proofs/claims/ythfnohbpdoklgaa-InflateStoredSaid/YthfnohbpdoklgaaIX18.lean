/- Inflate: Adler's sum, the program's and the document's. -/
import Derived.Test.YthfnohbpdoklgaaIX17
namespace Go.Proofs.Ythfnohbpdoklgaa
open Go Go.Vc Go.RowKit
set_option maxRecDepth 100000
set_option linter.unusedVariables false
set_option linter.unusedSimpArgs false
set_option maxHeartbeats 2000000
abbrev u32 (n : Int) : Value := .int .u32 n
/-- the two sums of the first bytes -/
def adU (xs : List Int) : Nat → Int × Int
  | 0 => (1, 0)
  | i + 1 => (((adU xs i).1 + xs.getD i 0) % 65521, ((adU xs i).2 + ((adU xs i).1 + xs.getD i 0) % 65521) % 65521)
def adV (xs : List Int) : Int := 65536 * (adU xs xs.length).2 + (adU xs xs.length).1
theorem adU_range (xs : List Int) : ∀ i, 0 ≤ (adU xs i).1 ∧ (adU xs i).1 ≤ 65520 ∧ 0 ≤ (adU xs i).2 ∧ (adU xs i).2 ≤ 65520
  | 0 => by simp [adU]
  | i + 1 => by simp only [adU]; omega
theorem remZ {k : IntKind} {a b : Int} (h : 0 ≤ a) : divZ .rem k a b = a % b := by simp only [divZ]; exact Int.tmod_eq_emod_of_nonneg h
theorem refAdler_spec {N : Nat} {w : World} {base : Option Addr} {len cap : Nat} {xs : List Int} {R : Ending → World → Prop} (h : Sl N w base (bytes xs)) (hl : len = xs.length) (hf : Bs xs) (hsz : len ≤ 2 ^ 60) (hR : R (.returned (u32 (adV xs))) w) :
    Calls P F.ref02_Adler #[.slice base len cap] w R := by
  subst hl
  refine calls_ref02_Adler _ _ _ _ _ ?_
  refine calls_ref02_AdlerOn _ _ _ _ _ _ ?_
  refine ⟨fun vs u => u = w ∧ ∃ i : Nat, i ≤ xs.length ∧ vs = [u32 (adU xs i).1, u32 (adU xs i).2, i64 (i : Nat)], fun vs _ => match vs with | [_, _, .int _ i] => (xs.length - i).toNat | _ => 0, ⟨rfl, 0, by omega, rfl⟩, fun n1 n2 n3 w1 hI => ?_⟩
  obtain ⟨rfl, i, hi, hv⟩ := hI
  simp only [List.cons.injEq, Value.int.injEq, true_and, and_true] at hv
  obtain ⟨rfl, rfl, rfl⟩ := hv
  have hr := adU_range xs i
  have hr1 := adU_range xs (i + 1)
  have hx := copyM_fit.fit_getD' hf i
  refine brB_i (fun hlt => ?_) fun hge => ?_
  · have hlt : i < xs.length := by have := of_decide_eq_true hlt; omega
    refine h.get (by omega) (bytes_length xs) (by rw [Int.toNat_natCast]; exact bytes_get hlt) fun a ha => ⟨_, ha, ?_⟩
    rw [wu32 (x := xs.getD i 0) (by omega) (by omega), wu32 (x := (adU xs i).1 + _) (by omega) (by omega), remZ (by omega), wu32 (x := (adU xs i).2 + _) (by omega) (by omega), remZ (by omega), wrap_succ (by omega)]
    exact ⟨⟨rfl, i + 1, hlt, rfl⟩, by show ((xs.length : Int) - ((i + 1 : Nat) : Int)).toNat < ((xs.length : Int) - (i : Nat)).toNat; omega⟩
  · have : i = xs.length := by have := of_decide_eq_false hge; omega
    subst this
    refine ⟨_, rfl, ?_⟩
    rw [wu32 (x := 65536 * (adU xs xs.length).2) (by omega) (by omega), wu32 (by omega) (by omega)]
    exact hR
theorem Adler_spec {N : Nat} {w : World} {base : Option Addr} {len cap : Nat} {xs : List Int} {R : Ending → World → Prop} (h : Sl N w base (bytes xs)) (hl : len = xs.length) (hc : len ≤ cap) (hf : Bs xs) (hsz : len ≤ 2 ^ 60) (hR : R (.returned (u32 (adV xs))) w) :
    Calls P F.sums_Adler #[.slice base len cap] w R := by
  subst hl
  refine calls_sums_Adler _ _ _ _ _ ?_
  refine calls_sums_AdlerOn _ _ _ _ _ _ ?_
  refine ⟨fun vs u => u = w ∧ ∃ (d : Nat) (p : Option Addr) (n c : Nat), vs = [.slice p n c, u32 (adU xs d).1, u32 (adU xs d).2] ∧ d + n = xs.length ∧ n ≤ c ∧ Sl N w p (bytes (xs.drop d)), fun vs _ => match vs with | [.slice _ n _, _, _] => n | _ => 0, ⟨rfl, 0, base, xs.length, cap, rfl, by omega, hc, by simpa using h⟩, fun p1 k1 k2 n1 n2 w1 hI => ?_⟩
  obtain ⟨rfl, d, p, n, c, hv, hd, hnc, hS⟩ := hI
  simp only [List.cons.injEq, Value.slice.injEq, Value.int.injEq, true_and, and_true] at hv
  obtain ⟨⟨rfl, rfl, rfl⟩, rfl, rfl⟩ := hv
  have hr := adU_range xs d
  refine brB_i (fun hgt => ?_) fun hle => ?_
  rotate_left
  · have : d = xs.length := by have := of_decide_eq_false hle; omega
    subst this
    have e1 : shiftZ .shl .u32 (adU xs xs.length).2 16 = 2 ^ 16 * (adU xs xs.length).2 := by
      rw [shiftZ_shl (by omega) (by show (16 : Int) ≤ 32; omega), show (16 : Int).toNat = 16 from rfl, Int.mul_comm]
      exact wu32 (by omega) (by omega)
    rw [e1, bitsZ_orAdd hr.2.2.1 (by show _ < 2 ^ 32; omega) hr.1 (by omega), wu32 (by omega) (by omega)]
    exact ⟨_, rfl, hR⟩
  have hgt : 0 < k1 := by have := of_decide_eq_true hgt; omega
  obtain ⟨m, hm⟩ : ∃ m : Nat, m = min k1 3000 := ⟨_, rfl⟩
  have em : min ((k1 : Nat) : Int) 3000 = (m : Nat) := by omega
  rw [em]
  refine ⟨by omega, by omega, by omega, ?_⟩
  rw [show (0 : Int).toNat = 0 from rfl, slcBase0, Int.toNat_natCast, Nat.sub_zero]
  have hS1 : Sl N w1 p1 (bytes ((xs.drop d).take m)) := hS.pre (by rw [bytes, bytes, List.map_take]; exact List.take_prefix _ _)
  have hl1 : ((xs.drop d).take m).length = m := by rw [List.length_take, List.length_drop]; omega
  refine ⟨fun vs u => u = w1 ∧ ∃ (j : Nat) (a b : Int), vs = [u32 a, u32 b, i64 (j : Nat)] ∧ j ≤ m ∧ 0 ≤ a ∧ a ≤ 65520 + 255 * j ∧ 0 ≤ b ∧ b ≤ 65520 + 830520 * j ∧ a % 65521 = (adU xs (d + j)).1 ∧ b % 65521 = (adU xs (d + j)).2, fun vs _ => match vs with | [_, _, .int _ j] => (m - j : Int).toNat | _ => 0, ⟨rfl, 0, _, _, rfl, by omega, hr.1, by omega, hr.2.2.1, by omega, by rw [Nat.add_zero]; omega, by rw [Nat.add_zero]; omega⟩, fun n3 n4 n5 w2 hI => ?_⟩
  obtain ⟨rfl, j, a, b, hv, hj, a0, a1, b0, b1, ea, eb⟩ := hI
  simp only [List.cons.injEq, Value.int.injEq, true_and, and_true] at hv
  obtain ⟨rfl, rfl, rfl⟩ := hv
  refine brB_i (fun hlt => ?_) fun hge => ?_
  · have hlt : j < m := by have := of_decide_eq_true hlt; omega
    have hx := copyM_fit.fit_getD' hf (d + j)
    have eg : ((xs.drop d).take m).getD j 0 = xs.getD (d + j) 0 := by
      rw [List.getD_eq_getElem?_getD, List.getElem?_take_of_lt hlt, List.getElem?_drop, List.getD_eq_getElem?_getD]
    refine hS1.get (by omega) (by rw [bytes_length, hl1]) (by rw [Int.toNat_natCast]; exact bytes_get (by rw [hl1]; exact hlt)) fun a' ha' => ⟨_, ha', ?_⟩
    rw [eg]
    generalize hX : xs.getD (d + j) 0 = x at *
    rw [wu32 (x := x) (by omega) (by omega), wu32 (x := n3 + x) (by omega) (by omega), wu32 (x := n4 + _) (by omega) (by omega), wrap_succ (by omega)]
    refine ⟨⟨rfl, j + 1, _, _, rfl, hlt, by omega, by omega, by omega, by omega, ?_, ?_⟩, by show ((m : Int) - ((j + 1 : Nat) : Int)).toNat < ((m : Int) - (j : Nat)).toNat; omega⟩
    · rw [← Nat.add_assoc, adU, hX, ← ea]; omega
    · rw [← Nat.add_assoc, adU, hX, ← ea, ← eb]; omega
  · have : j = m := by have := of_decide_eq_false hge; omega
    subst this
    refine ⟨by omega, by omega, by omega, ?_⟩
    rw [Int.toNat_natCast, Int.toNat_natCast, remZ a0, remZ b0, ea, eb]
    refine ⟨⟨rfl, d + j, _, _, _, rfl, by omega, by omega, ?_⟩, by show k1 - j < k1; omega⟩
    exact hS.part (by rw [bytes_length, List.length_drop]; omega) (by rw [bytes, bytes, ← List.map_drop, List.drop_drop]; exact List.prefix_refl _)
end Go.Proofs.Ythfnohbpdoklgaa
