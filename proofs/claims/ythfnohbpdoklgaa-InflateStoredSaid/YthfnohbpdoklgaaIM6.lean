/- Inflate: streams of stored blocks. -/
import Derived.Test.YthfnohbpdoklgaaIM5
namespace Go.Proofs.Ythfnohbpdoklgaa
open Go Go.Vc
set_option linter.unusedVariables false
set_option linter.unusedSimpArgs false
set_option maxRecDepth 100000
def hdr (fl n : Nat) : List Int := [(fl : Int), ((n % 256 : Nat) : Int), ((n / 256 : Nat) : Int), ((255 - n % 256 : Nat) : Int), ((255 - n / 256 : Nat) : Int)]
/-- a stream of stored blocks -/
def strm : List (List Int) → List Int
  | [] => []
  | [c] => hdr 1 c.length ++ c
  | c :: d :: cs => hdr 0 c.length ++ (c ++ strm (d :: cs))
def opens (cs : List (List Int)) : List Int := (cs.map fun c => hdr 0 c.length ++ c).flatten
theorem strm_last : ∀ (cs : List (List Int)) (c : List Int), strm (cs ++ [c]) = opens cs ++ (hdr 1 c.length ++ c)
  | [], c => rfl
  | [d], c => by simp [strm, opens]
  | d :: e :: cs, c => by
    have := strm_last (e :: cs) c
    rw [List.cons_append] at this
    show hdr 0 d.length ++ (d ++ strm (e :: (cs ++ [c]))) = _
    rw [this]
    simp [opens]
theorem bitAt_byte (bs : List Int) (a j : Nat) (hj : j < 8) : bitAt bs false (8 * a + j) = bs.getD a 0 / 2 ^ j % 2 := by
  unfold bitAt
  rw [show (8 * a + j) / 8 = a by omega, show (8 * a + j) % 8 = j by omega]
  rfl
theorem takeV_split (bs : List Int) (i m : Nat) : ∀ n, takeV bs false i (m + n) = takeV bs false i m + 2 ^ m * takeV bs false (i + m) n
  | 0 => by simp [takeV]
  | n + 1 => by
    rw [← Nat.add_assoc, takeV, takeV, if_neg (by simp), if_neg (by simp), takeV_split bs i m n, Int.mul_add, Int.pow_add, Nat.add_assoc]
    rw [Int.add_assoc, Int.mul_comm (2 ^ m) (2 ^ n), ← Int.mul_assoc, Int.mul_comm _ (2 ^ m : Int)]
theorem byte_sum (x : Int) (h0 : 0 ≤ x) (h1 : x ≤ 255) : x / 2 ^ 0 % 2 * 2 ^ 0 + x / 2 ^ 1 % 2 * 2 ^ 1 + x / 2 ^ 2 % 2 * 2 ^ 2 + x / 2 ^ 3 % 2 * 2 ^ 3 + x / 2 ^ 4 % 2 * 2 ^ 4 + x / 2 ^ 5 % 2 * 2 ^ 5 + x / 2 ^ 6 % 2 * 2 ^ 6 + x / 2 ^ 7 % 2 * 2 ^ 7 = x := by omega
theorem takeV8 {bs : List Int} (hf : Bs bs) (a : Nat) : takeV bs false (8 * a) 8 = bs.getD a 0 := by
  have hx := copyM_fit.fit_getD' hf a
  have := byte_sum (bs.getD a 0) hx.1 hx.2
  simp only [takeV, Bool.false_eq_true, if_false]
  rw [bitAt_byte bs a 0 (by omega), bitAt_byte bs a 1 (by omega), bitAt_byte bs a 2 (by omega), bitAt_byte bs a 3 (by omega), bitAt_byte bs a 4 (by omega), bitAt_byte bs a 5 (by omega), bitAt_byte bs a 6 (by omega), bitAt_byte bs a 7 (by omega)]
  omega
theorem takeV16 {bs : List Int} (hf : Bs bs) (a : Nat) : takeV bs false (8 * a) 16 = bs.getD a 0 + 256 * bs.getD (a + 1) 0 := by
  rw [show (16 : Nat) = 8 + 8 by rfl, takeV_split, takeV8 hf, show 8 * a + 8 = 8 * (a + 1) by omega, takeV8 hf]
  rfl
theorem tk_in {bs : List Int} {k n v : Nat} (h : k + n ≤ 8 * bs.length) (hv : takeV bs false k n = (v : Nat)) : tkM bs k n = .ok (v, k + n) := by
  unfold tkM
  rw [if_pos h, hv]; rfl
/-- a stored block is read -/
theorem rawF_stored {S A C B : List Int} {fl n f : Nat} {most : Int} {out : List Int} (hf : Bs S) (hS : S = A ++ (hdr fl n ++ (C ++ B))) (hC : C.length = n) (hn : n ≤ 65535) (hfl : fl < 2) :
    rawF S most (f + 1) (8 * A.length, out) = if (n : Int) > most - out.length then .error 3 else if fl = 1 then .ok (8 * (A.length + 5 + n), out ++ C) else rawF S most f (8 * (A.length + 5 + n), out ++ C) := by
  have hlen : S.length = A.length + 5 + n + B.length := by
    rw [hS]; simp only [List.length_append, hC, hdr, List.length_cons, List.length_nil]; omega
  have hg : ∀ i, i < 5 → S.getD (A.length + i) 0 = (hdr fl n).getD i 0 := fun i hi => by
    rw [hS, List.getD_eq_getElem?_getD, List.getD_eq_getElem?_getD, List.getElem?_append_right (by omega), Nat.add_sub_cancel_left, List.getElem?_append_left (by simpa [hdr] using hi)]
  have g0 : S.getD A.length 0 = (fl : Int) := hg 0 (by omega)
  have g1 : S.getD (A.length + 1) 0 = ((n % 256 : Nat) : Int) := hg 1 (by omega)
  have g2 : S.getD (A.length + 2) 0 = ((n / 256 : Nat) : Int) := hg 2 (by omega)
  have g3 : S.getD (A.length + 3) 0 = ((255 - n % 256 : Nat) : Int) := hg 3 (by omega)
  have g4 : S.getD (A.length + 4) 0 = ((255 - n / 256 : Nat) : Int) := hg 4 (by omega)
  have hb : ∀ j, j < 8 → bitAt S false (8 * A.length + j) = (fl : Int) / 2 ^ j % 2 := fun j hj => by rw [bitAt_byte S _ j hj, g0]
  have t1 : tkM S (8 * A.length) 1 = .ok (fl, 8 * A.length + 1) := tk_in (by omega) (by
    have := hb 0 (by omega)
    simp only [takeV, Bool.false_eq_true, if_false]
    rw [this]; omega)
  have t2 : tkM S (8 * A.length + 1) 2 = .ok (0, 8 * A.length + 1 + 2) := tk_in (by omega) (by
    have h1 := hb 1 (by omega)
    have h2 := hb 2 (by omega)
    simp only [takeV, Bool.false_eq_true, if_false, Nat.add_assoc, Nat.add_zero]
    rw [show 1 + 1 = 2 by rfl, h1, h2]; omega)
  have t3 : tkM S (8 * (A.length + 1)) 16 = .ok (n, 8 * (A.length + 1) + 16) := tk_in (by omega) (by
    rw [takeV16 hf, g1, Nat.add_assoc, g2]; omega)
  have t4 : tkM S (8 * (A.length + 3)) 16 = .ok (65535 - n, 8 * (A.length + 3) + 16) := tk_in (by omega) (by
    rw [takeV16 hf, g3, Nat.add_assoc, g4]; omega)
  have hp : part S (A.length + 5) n = C := by
    unfold part
    rw [hS, show A ++ (hdr fl n ++ (C ++ B)) = (A ++ hdr fl n) ++ (C ++ B) by rw [List.append_assoc], List.drop_left' (by simp [hdr]), List.take_left' hC]
  have hst : storedM S most (8 * A.length + 1 + 2, out) = if (n : Int) > most - out.length then .error 3 else .ok (8 * (A.length + 5 + n), out ++ C) := by
    unfold storedM
    rw [show 8 * ((8 * A.length + 1 + 2 + 7) / 8) = 8 * (A.length + 1) by omega, t3]
    simp only
    rw [show 8 * (A.length + 1) + 16 = 8 * (A.length + 3) by omega, t4]
    simp only
    rw [if_neg (by omega), show (8 * (A.length + 3) + 16 + 7) / 8 = A.length + 5 by omega, hp]
    split
    · rfl
    · rw [if_neg (by omega)]
  rw [rawF, t1]
  simp only
  rw [t2]
  simp only
  unfold blockM
  rw [if_pos rfl, hst]
  by_cases hx : (n : Int) > most - out.length
  · rw [if_pos hx, if_pos hx]
  · rw [if_neg hx, if_neg hx]
theorem rawF_strm {S : List Int} {most : Int} (hf : Bs S) : ∀ (cs : List (List Int)) (A : List Int) (f : Nat) (out : List Int), cs ≠ [] → S = A ++ strm cs → (∀ c, c ∈ cs → c.length ≤ 65535) → cs.length ≤ f → (out.length : Int) ≤ most →
    rawF S most f (8 * A.length, out) = if ((out ++ cs.flatten).length : Int) ≤ most then .ok (8 * S.length, out ++ cs.flatten) else .error 3
  | [], A, f, out, h, _, _, _, _ => absurd rfl h
  | [c], A, f, out, _, hS, hc, hfl, hm => by
    obtain ⟨g, rfl⟩ : ∃ g, f = g + 1 := ⟨f - 1, by simp at hfl; omega⟩
    have hS' : S = A ++ (hdr 1 c.length ++ (c ++ [])) := by rw [hS, List.append_nil]; rfl
    rw [rawF_stored hf hS' rfl (hc c (by simp)) (by omega)]
    have hlen : S.length = A.length + 5 + c.length := by rw [hS']; simp [hdr]; omega
    simp only [List.flatten_cons, List.flatten_nil, List.append_nil, List.length_append]
    by_cases hx : (c.length : Int) > most - out.length
    · rw [if_pos hx, if_neg (show ¬ ((out.length + c.length : Nat) : Int) ≤ most by omega)]
    · rw [if_neg hx, if_pos (show ((out.length + c.length : Nat) : Int) ≤ most by omega), hlen]; rfl
  | c :: d :: cs, A, f, out, _, hS, hc, hfl, hm => by
    obtain ⟨g, rfl⟩ : ∃ g, f = g + 1 := ⟨f - 1, by simp at hfl; omega⟩
    have hS' : S = A ++ (hdr 0 c.length ++ (c ++ strm (d :: cs))) := hS
    rw [rawF_stored hf hS' rfl (hc c (by simp)) (by omega)]
    have hS2 : S = (A ++ (hdr 0 c.length ++ c)) ++ strm (d :: cs) := by rw [hS']; simp
    have hl2 : (A ++ (hdr 0 c.length ++ c)).length = A.length + 5 + c.length := by simp [hdr]; omega
    have hfe : (c :: d :: cs).flatten = c ++ (d :: cs).flatten := rfl
    by_cases hx : (c.length : Int) > most - out.length
    · rw [if_pos hx, if_neg (show ¬ ((out ++ (c :: d :: cs).flatten).length : Int) ≤ most by rw [hfe, List.length_append, List.length_append]; omega)]
    · have := rawF_strm (most := most) hf (d :: cs) (A ++ (hdr 0 c.length ++ c)) g (out ++ c) (by simp) hS2 (fun x hx => hc x (by simp at hx ⊢; exact .inr hx)) (by simp at hfl ⊢; omega) (by rw [List.length_append]; omega)
      rw [if_neg hx, if_neg (show ¬ (0 = 1) by omega), ← hl2, this, hfe, List.append_assoc]
theorem strm_len : ∀ cs : List (List Int), cs.length ≤ (strm cs).length
  | [] => by simp
  | [c] => by simp [strm, hdr]
  | c :: d :: cs => by
    have := strm_len (d :: cs)
    simp only [strm, hdr, List.length_append, List.length_cons, List.length_nil] at this ⊢
    omega
theorem rawR_strm {cs : List (List Int)} {most : Int} (hf : Bs (strm cs)) (h0 : cs ≠ []) (hc : ∀ c, c ∈ cs → c.length ≤ 65535) :
    rawR (strm cs) most = if (cs.flatten.length : Int) ≤ max most 0 then (cs.flatten, (strm cs).length, 0) else ([], 0, 3) := by
  have hl := strm_len cs
  have := rawF_strm (most := max most 0) hf cs [] (8 * (strm cs).length + 1) [] h0 rfl hc (by omega) (by simp only [List.length_nil]; omega)
  rw [List.nil_append, List.length_nil] at this
  unfold rawR
  rw [this]
  split
  · rename_i h
    split at h
    · cases h
    · cases h; rw [if_neg ‹_›]
  · rename_i k out h
    split at h
    · cases h
      rw [if_pos ‹_›, show (8 * (strm cs).length + 7) / 8 = (strm cs).length by omega]
    · cases h
end Go.Proofs.Ythfnohbpdoklgaa
