/- LZW: what is packed is read back: the bits, and the codes. -/
import Derived.Test.YtlbokiaolmflaaaLZ14
namespace Go.Proofs.Ytlbokiaolmflaaa
open Go Go.Vc Go.RowKit
set_option maxRecDepth 100000
set_option linter.unusedVariables false
set_option linter.unusedSimpArgs false

/-- later writes leave earlier bits -/
theorem putV_bits {up : Bool} {bs : List Int} {m : Nat} {v : Int} {n : Nat} (h : WOk up bs m) : ∀ k j, bitAt (putV up bs m v n k) up j = if m ≤ j ∧ j < m + k then bitOf up v n (j - m) else bitAt bs up j
  | 0, j => by rw [if_neg (by omega)]; rfl
  | k + 1, j => by
    rw [putV, ((putV_ok h k).add (bitOf_01 up v n k)).2.1, putV_bits h k]
    by_cases e : j = m + k
    · subst e; rw [if_pos rfl, if_pos (by omega), Nat.add_sub_cancel_left]
    · rw [if_neg e]
      by_cases h2 : m ≤ j ∧ j < m + k
      · rw [if_pos h2, if_pos (by omega)]
      · rw [if_neg h2, if_neg (by omega)]
theorem imod_mul {v a b : Int} (v0 : 0 ≤ v) (a0 : 0 ≤ a) (b0 : 0 ≤ b) : v % (a * b) = v % a + a * (v / a % b) := by
  obtain ⟨v, rfl⟩ := Int.eq_ofNat_of_zero_le v0
  obtain ⟨a, rfl⟩ := Int.eq_ofNat_of_zero_le a0
  obtain ⟨b, rfl⟩ := Int.eq_ofNat_of_zero_le b0
  have := Nat.mod_mul (x := v) (a := a) (b := b)
  exact_mod_cast this
/-- the number that was written is taken -/
theorem takeV_wrote {up : Bool} {bs : List Int} {m n : Nat} {v : Int} (v0 : 0 ≤ v) (hb : ∀ j, j < n → bitAt bs up (m + j) = bitOf up v n j) : takeV bs up m n = v % 2 ^ n := by
  cases up
  · have key : ∀ k, k ≤ n → takeV bs false m k = v % 2 ^ k := by
      intro k
      induction k with
      | zero => intro _; simp [takeV] <;> omega
      | succ k ih =>
        intro hk
        rw [takeV, if_neg (by simp), ih (by omega), hb k (by omega)]
        unfold bitOf
        rw [if_neg (by simp), Int.pow_succ, imod_mul v0 (Int.le_of_lt (Int.pow_pos (by omega))) (by omega)]
        rw [Int.mul_comm]
    exact key n (Nat.le_refl _)
  · have key : ∀ k, k ≤ n → takeV bs true m k = v / 2 ^ (n - k) % 2 ^ k := by
      intro k
      induction k with
      | zero => intro _; simp [takeV] <;> omega
      | succ k ih =>
        intro hk
        rw [takeV, if_pos rfl, ih (by omega), hb k (by omega)]
        unfold bitOf
        rw [if_pos rfl, show n - 1 - k = n - (k + 1) by omega]
        generalize hu : v / 2 ^ (n - (k + 1)) = u
        have e : v / 2 ^ (n - k) = u / 2 := by
          rw [← hu, show n - k = (n - (k + 1)) + 1 by omega, Int.pow_succ, Int.ediv_ediv_of_nonneg (Int.le_of_lt (Int.pow_pos (by omega)))]
        have u0 : 0 ≤ u := hu ▸ Int.ediv_nonneg v0 (Int.le_of_lt (Int.pow_pos (by omega)))
        rw [e, Int.pow_succ, Int.mul_comm (2 ^ k) 2, imod_mul u0 (by omega) (Int.le_of_lt (Int.pow_pos (by omega)))]
        omega
    have := key n (Nat.le_refl _)
    rwa [Nat.sub_self, Int.pow_zero, Int.ediv_one] at this
/-- codes that stand in bytes from a place on -/
def Reads (up : Bool) (W : List Int) : Nat → List (Nat × Nat) → Prop
  | _, [] => True
  | p, e :: r => p + e.2 ≤ 8 * W.length ∧ takeV W up p e.2 = e.1 ∧ Reads up W (p + e.2) r
def FitC (l : List (Nat × Nat)) : Prop := ∀ e ∈ l, e.1 < 2 ^ e.2 ∧ 1 ≤ e.2 ∧ e.2 ≤ 12
theorem putAll_ok {up : Bool} : ∀ (l : List (Nat × Nat)) (s : List Int × Nat), WOk up s.1 s.2 → WOk up (putAll up l s).1 (putAll up l s).2 ∧ s.2 ≤ (putAll up l s).2 ∧ ∀ j, j < s.2 → bitAt (putAll up l s).1 up j = bitAt s.1 up j
  | [], s, h => ⟨h, Nat.le_refl _, fun _ _ => rfl⟩
  | e :: r, s, h => by
    have h1 := putV_ok (v := e.1) (n := e.2) h e.2
    obtain ⟨h2, h3, h4⟩ := putAll_ok r (putV up s.1 s.2 e.1 e.2 e.2, s.2 + e.2) h1
    rw [putAll]
    simp only at h3 h4
    refine ⟨h2, by omega, fun j hj => ?_⟩
    rw [h4 j (by omega), putV_bits h, if_neg (by omega)]
theorem reads_putAll {up : Bool} : ∀ (l : List (Nat × Nat)) (s : List Int × Nat), WOk up s.1 s.2 → FitC l → Reads up (putAll up l s).1 s.2 l
  | [], s, h, hf => trivial
  | e :: r, s, h, hf => by
    have h1 := putV_ok (v := e.1) (n := e.2) h e.2
    obtain ⟨h2, h3, h4⟩ := putAll_ok r (putV up s.1 s.2 e.1 e.2 e.2, s.2 + e.2) h1
    have ih := reads_putAll r (putV up s.1 s.2 e.1 e.2 e.2, s.2 + e.2) h1 (fun x hx => hf x (by simp [hx]))
    have he := hf e (by simp)
    rw [putAll]
    simp only at h3 h4 ih
    refine ⟨Nat.le_trans h3 h2.lo, ?_, ih⟩
    rw [takeV_wrote (v := e.1) (by omega) fun j hj => by rw [h4 _ (by omega), putV_bits h, if_pos (by omega), Nat.add_sub_cancel_left]]
    refine Int.emod_eq_of_lt (by omega) ?_
    have e2 : ((2 : Int) ^ e.2) = ((2 ^ e.2 : Nat) : Int) := by simp
    rw [e2]; omega
theorem putAll_len {up : Bool} : ∀ (l : List (Nat × Nat)) (s : List Int × Nat), FitC l → (putAll up l s).2 ≤ s.2 + 12 * l.length
  | [], s, _ => by simp [putAll]
  | e :: r, s, hf => by
    have ih := putAll_len (up := up) r (putV up s.1 s.2 e.1 e.2 e.2, s.2 + e.2) (fun x hx => hf x (by simp [hx]))
    have he := hf e (by simp)
    rw [putAll, List.length_cons]
    simp only at ih
    omega
theorem pk_length {cl w0 early : Nat} : ∀ (l : List Int) (E : List (Nat × Int)) (wd : Nat) (ato : Option Nat), (pk cl w0 early l E wd ato).length ≤ 2 * l.length + 2
  | [], E, wd, none => by simp [pk]
  | [], E, wd, some a => by simp [pk]
  | x :: r, E, wd, none => by
    rw [pk]
    have := pk_length (cl := cl) (w0 := w0) (early := early) r E wd (some x.toNat)
    rw [List.length_cons]; omega
  | x :: r, E, wd, some a => by
    rw [pk]
    split
    · rename_i c _
      have := pk_length (cl := cl) (w0 := w0) (early := early) r E wd (some c)
      rw [List.length_cons]; omega
    · split
      · have := pk_length (cl := cl) (w0 := w0) (early := early) r [] w0 (some x.toNat)
        simp only [List.length_cons]; omega
      · have := pk_length (cl := cl) (w0 := w0) (early := early) r (E ++ [(a, x)]) (wdA cl early E wd) (some x.toNat)
        simp only [List.length_cons]; omega
/-- the next code fits into the width -/
structure Wide (cl early : Nat) (n wd : Nat) : Prop where
  one : 1 ≤ wd
  most : wd ≤ 12
  fit : cl + 2 + n + early ≤ 2 ^ wd
theorem Wide.next {cl early n wd : Nat} (h : Wide cl early n wd) (h90 : cl + 2 + n ≤ 4090) (he : early ≤ 1) (h1 : n = 0 → cl + 3 + early ≤ 2 ^ wd) {E : List (Nat × Int)} (hE : E.length = n) : Wide cl early (n + 1) (wdA cl early E wd) := by
  obtain ⟨h2, h3, h4⟩ := h
  have hr := wdA_range (cl := cl) (early := early) (E := E) h2 h3
  refine ⟨hr.1, hr.2, ?_⟩
  unfold wdA
  split
  · have := h1 (by omega)
    rw [show cl + 2 + (n + 1) + early = cl + 3 + early + n by omega]
    omega
  · unfold wdN
    rw [hE]
    split
    · rename_i hc
      rw [Nat.pow_succ]; omega
    · rename_i hc
      by_cases h12 : wd < 12
      · have : ¬ cl + 2 + n + early = 2 ^ wd := fun e => hc ⟨e, h12⟩
        omega
      · have : wd = 12 := by omega
        subst this
        have : (2 : Nat) ^ 12 = 4096 := by decide
        omega
theorem pk_fit {cl w0 early : Nat} (hw0 : Wide cl early 1 w0) (he : early ≤ 1) : ∀ (l : List Int) (E : List (Nat × Int)) (wd : Nat) (ato : Option Nat), Wide cl early E.length wd → cl + 2 + E.length ≤ 4090 → (E.length = 0 → wd = w0) →
    (∀ x ∈ l, 0 ≤ x ∧ x < cl) → (∀ a, ato = some a → a < cl + 2 + E.length) → FitC (pk cl w0 early l E wd ato)
  | [], E, wd, none, hw, h90, h0, hl, ha => by
    intro e he
    simp only [pk, List.mem_singleton] at he
    subst he
    exact ⟨by have := hw.fit; simp only; omega, hw.one, hw.most⟩
  | [], E, wd, some a, hw, h90, h0, hl, ha => by
    have hn := hw.next h90 he (fun e => by have := hw0.fit; rw [h0 e]; omega) rfl
    intro e he
    simp only [pk, List.mem_cons, List.not_mem_nil, or_false] at he
    rcases he with rfl | rfl
    · exact ⟨by have := hw.fit; have := ha a rfl; simp only; omega, hw.one, hw.most⟩
    · exact ⟨by have := hn.fit; simp only; omega, hn.one, hn.most⟩
  | x :: r, E, wd, none, hw, h90, h0, hl, ha => by
    rw [pk]
    have hx := hl x (by simp)
    exact pk_fit hw0 he r E wd _ hw h90 h0 (fun y hy => hl y (by simp [hy])) (fun a ha => by cases ha; omega)
  | x :: r, E, wd, some a, hw, h90, h0, hl, ha => by
    have hx := hl x (by simp)
    have hr : ∀ y ∈ r, 0 ≤ y ∧ y < cl := fun y hy => hl y (by simp [hy])
    have hn := hw.next h90 he (fun e => by have := hw0.fit; rw [h0 e]; omega) rfl
    have h1 : (a, wd).1 < 2 ^ (a, wd).2 ∧ 1 ≤ (a, wd).2 ∧ (a, wd).2 ≤ 12 := ⟨by have := hw.fit; have := ha a rfl; simp only; omega, hw.one, hw.most⟩
    rw [pk]
    cases hfd : fnd a x E (cl + 2) with
    | some c =>
      have := fnd_some hfd
      exact pk_fit hw0 he r E wd _ hw h90 h0 hr (fun b hb => by cases hb; omega)
    | none =>
      simp only
      split
      · have ih := pk_fit hw0 he r [] w0 (some x.toNat) ⟨hw0.one, hw0.most, by have := hw0.fit; simp only [List.length_nil]; omega⟩ (by simp; omega) (fun _ => rfl) hr (fun b hb => by cases hb; simp; omega)
        intro e hm
        simp only [List.mem_cons] at hm
        rcases hm with rfl | rfl | hm
        · exact h1
        · exact ⟨by have := hn.fit; simp only; omega, hn.one, hn.most⟩
        · exact ih e hm
      · rename_i h4
        have ih := pk_fit hw0 he r (E ++ [(a, x)]) (wdA cl early E wd) (some x.toNat) (by rw [List.length_append]; exact hn) (by simp; omega) (fun e => by simp at e) hr (fun b hb => by cases hb; simp; omega)
        intro e hm
        simp only [List.mem_cons] at hm
        rcases hm with rfl | hm
        · exact h1
        · exact ih e hm
end Go.Proofs.Ytlbokiaolmflaaa
