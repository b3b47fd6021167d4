/- Bytes with stuffing, and out of it. -/
import Derived.Test.YtlmnooodinfifaaBits7
namespace Go.Proofs.Ytlmnooodinfifaa
open Go Go.Vc Go.RowKit
set_option maxRecDepth 100000
set_option linter.unusedVariables false
set_option linter.unusedSimpArgs false

def stuffL (xs : List Int) : List Int := xs.flatMap fun x => if x = 255 then [255, 0] else [x]
theorem stuffL_take {xs : List Int} {i : Nat} (h : i < xs.length) : stuffL (xs.take (i + 1)) = stuffL (xs.take i) ++ if xs.getD i 0 = 255 then [255, 0] else [xs.getD i 0] := by
  unfold stuffL
  rw [List.take_succ_eq_append_getElem h, List.flatMap_append, show xs.getD i 0 = xs[i] by simp [List.getD, h]]
  simp only [List.flatMap_cons, List.flatMap_nil, List.append_nil]
theorem stuffL_length (xs : List Int) : (stuffL xs).length ≤ 2 * xs.length := by
  induction xs with
  | nil => simp [stuffL]
  | cons x xs ih =>
    have e : stuffL (x :: xs) = (if x = 255 then [255, 0] else [x]) ++ stuffL xs := by simp [stuffL]
    rw [e, List.length_append]
    split <;> simp only [List.length_cons, List.length_nil] <;> omega
theorem Bs.stuff {xs : List Int} (h : Bs xs) : Bs (stuffL xs) := by
  intro n hn
  simp only [stuffL, List.mem_flatMap] at hn
  obtain ⟨x, hx, hn⟩ := hn
  have := h x hx
  split at hn <;> simp at hn <;> omega
theorem bytes_oneAll1 (x : Int) : oneAll [u8 x] = true := rfl
theorem Stuff_spec {N : Nat} {w : World} {base : Option Addr} {len cap : Nat} {xs : List Int} {R : Ending → World → Prop} (h : Sl N w base (bytes xs)) (hl : len = xs.length) (hsz : len ≤ 2 ^ 45)
    (hR : ∀ p c w', Fg [] w w' 1 p (stuffL xs).length c (bytes (stuffL xs)) → R (.returned (.slice p (stuffL xs).length c)) w') :
    Calls P F.bits_Stuff #[.slice base len cap] w R := by
  refine calls_bits_Stuff _ _ _ _ _ ?_
  refine ⟨by omega, by omega, by omega, by omega, fun k1 w1 hn => ?_⟩
  have hf0 : Fg [] w w1 1 (some ⟨k1, 0, none⟩) 0 len [] := Fg.of_ow (M := w1.heap.size) (Ext.refl w) hn.ext (hn.own (List.nil_prefix) rfl (by rw [mkCells_length]; rfl) (by omega) (Nat.le_refl _) (Nat.le_refl _)) (Nat.le_refl _)
  refine ⟨fun l w' => match l with | [.slice p l' c, .int _ i] => 0 ≤ i ∧ i ≤ len ∧ l' = (stuffL (xs.take i.toNat)).length ∧ Fg [] w w' 1 p l' c (bytes (stuffL (xs.take i.toNat))) | _ => False,
    fun l _ => match l with | [.slice p l' c, .int _ i] => (len - i).toNat | _ => 0, ⟨by omega, by omega, rfl, hf0⟩, fun p1 l1 c1 i w2 hI => ?_⟩
  obtain ⟨i0, i1, rfl, hf⟩ := hI
  refine brB_i (fun hlt => ?_) (fun hge => ?_)
  · have hlt : i < len := by simpa using hlt
    have hst := stuffL_take (xs := xs) (i := i.toNat) (by omega)
    have hlen := stuffL_length (xs.take i.toNat)
    simp only [List.length_take] at hlen
    refine ⟨fun l w' => match l with | [.slice p l' c] => l' = (stuffL (xs.take (i.toNat + 1))).length ∧ Fg [] w w' 1 p l' c (bytes (stuffL (xs.take (i.toNat + 1)))) | _ => False, ?_, fun p4 l4 c4 w7 hI => ?_⟩
    · refine (h.ext hf.ext).get i0 (by rw [bytes_length]; omega) (bytes_get (by omega)) fun a1 hc1 => ⟨_, hc1, fun k4 hk4 w3 hL3 => ?_⟩
      refine hf.app hL3 (by simp; omega) (by simp [blocks]) rfl rfl (by omega) (by omega) fun p2 c2 w4 hf2 => ?_
      refine brB_i (fun he k7 hk7 w5 hL5 => ?_) (fun hne => ?_)
      · have he : xs.getD i.toNat 0 = 255 := by simpa using he
        refine hf2.app hL5 (by simp; omega) (by simp [blocks]) rfl rfl (by omega) (by omega) fun p3 c3 w6 hf3 => ?_
        rw [hst, if_pos he, bytes_append]
        refine ⟨by simp, ?_⟩
        rw [he] at hf3
        simpa [bytes] using hf3.weak
      · have hne : ¬ xs.getD i.toNat 0 = 255 := by simpa using hne
        rw [hst, if_neg hne, bytes_append]
        exact ⟨by simp, by simpa [bytes] using hf2.weak⟩
    · obtain ⟨rfl, hf4⟩ := hI
      rw [w64 (x := i + 1) (by omega) (by omega)]
      refine ⟨⟨by omega, by omega, by rw [show (i + 1).toNat = i.toNat + 1 by omega], by rw [show (i + 1).toNat = i.toNat + 1 by omega]; exact hf4⟩, ?_⟩
      show (len - (i + 1)).toNat < (len - i).toNat
      omega
  · have hge : i.toNat = xs.length := by simp at hge; omega
    rw [hge, List.take_length] at hf ⊢
    exact hR p1 c1 w2 hf
theorem refStuff_spec {N : Nat} {w : World} {base : Option Addr} {len cap : Nat} {xs : List Int} {R : Ending → World → Prop} (h : Sl N w base (bytes xs)) (hl : len = xs.length) (hsz : len ≤ 2 ^ 45)
    (hR : ∀ p c w', Fg [] w w' 1 p (stuffL xs).length c (bytes (stuffL xs)) → R (.returned (.slice p (stuffL xs).length c)) w') :
    Calls P F.ref01_Stuff #[.slice base len cap] w R := by
  refine calls_ref01_Stuff _ _ _ _ _ ?_
  refine ⟨fun l w' => match l with | [.slice p l' c, .int _ i] => 0 ≤ i ∧ i ≤ len ∧ l' = (stuffL (xs.take i.toNat)).length ∧ Fg [] w w' 1 p l' c (bytes (stuffL (xs.take i.toNat))) | _ => False,
    fun l _ => match l with | [.slice p l' c, .int _ i] => (len - i).toNat | _ => 0, ⟨by omega, by omega, rfl, Fg.nil (Ext.refl w) 1⟩, fun p1 l1 c1 i w2 hI => ?_⟩
  obtain ⟨i0, i1, rfl, hf⟩ := hI
  refine brB_i (fun hlt => ?_) (fun hge => ?_)
  · have hlt : i < len := by simpa using hlt
    have hst := stuffL_take (xs := xs) (i := i.toNat) (by omega)
    have hlen := stuffL_length (xs.take i.toNat)
    simp only [List.length_take] at hlen
    refine ⟨fun l w' => match l with | [.slice p l' c] => l' = (stuffL (xs.take (i.toNat + 1))).length ∧ Fg [] w w' 1 p l' c (bytes (stuffL (xs.take (i.toNat + 1)))) | _ => False, ?_, fun p4 l4 c4 w7 hI => ?_⟩
    · refine (h.ext hf.ext).get i0 (by rw [bytes_length]; omega) (bytes_get (by omega)) fun a1 hc1 => ⟨_, hc1, fun k4 hk4 w3 hL3 => ?_⟩
      refine hf.app hL3 (by simp; omega) (by simp [blocks]) rfl rfl (by omega) (by omega) fun p2 c2 w4 hf2 => ?_
      refine (h.ext hf2.ext).get i0 (by rw [bytes_length]; omega) (bytes_get (by omega)) fun a2 hc2 => ⟨_, hc2, ?_⟩
      refine brB_i (fun he k7 hk7 w5 hL5 => ?_) (fun hne => ?_)
      · have he : xs.getD i.toNat 0 = 255 := by simpa using he
        refine hf2.app hL5 (by simp; omega) (by simp [blocks]) rfl rfl (by omega) (by omega) fun p3 c3 w6 hf3 => ?_
        rw [hst, if_pos he, bytes_append]
        refine ⟨by simp, ?_⟩
        rw [he] at hf3
        simpa [bytes] using hf3.weak
      · have hne : ¬ xs.getD i.toNat 0 = 255 := by simpa using hne
        rw [hst, if_neg hne, bytes_append]
        exact ⟨by simp, by simpa [bytes] using hf2.weak⟩
    · obtain ⟨rfl, hf4⟩ := hI
      rw [w64 (x := i + 1) (by omega) (by omega)]
      refine ⟨⟨by omega, by omega, by rw [show (i + 1).toNat = i.toNat + 1 by omega], by rw [show (i + 1).toNat = i.toNat + 1 by omega]; exact hf4⟩, ?_⟩
      show (len - (i + 1)).toNat < (len - i).toNat
      omega
  · have hge : i.toNat = xs.length := by simp at hge; omega
    rw [hge, List.take_length] at hf ⊢
    exact hR p1 c1 w2 hf

/-! ## Unstuffing -/
def unst : List Int → List Int × Nat
  | [] => ([], 0)
  | [x] => if x = 255 then ([], 0) else ([x], 1)
  | x :: y :: r => if x = 255 then (if y = 0 then (255 :: (unst r).1, (unst r).2 + 2) else ([], 0)) else (x :: (unst (y :: r)).1, (unst (y :: r)).2 + 1)
theorem unst_ne {x : Int} {r : List Int} (h : x ≠ 255) : unst (x :: r) = (x :: (unst r).1, (unst r).2 + 1) := by
  cases r <;> simp [unst, h]
theorem unst_stuff (xs : List Int) : unst (stuffL xs) = (xs, (stuffL xs).length) := by
  induction xs with
  | nil => rfl
  | cons x xs ih =>
    have e : stuffL (x :: xs) = (if x = 255 then [255, 0] else [x]) ++ stuffL xs := by simp [stuffL]
    rw [e]
    split
    · rename_i h; subst h
      simp [unst, ih]
    · rename_i h
      show unst (x :: stuffL xs) = _
      rw [unst_ne h, ih]; simp
/-- what is to come -/
def UnI (xs acc : List Int) (i : Nat) : Prop := i ≤ xs.length ∧ (unst xs).1 = acc ++ (unst (xs.drop i)).1 ∧ (unst xs).2 = i + (unst (xs.drop i)).2
theorem UnI.nil (xs : List Int) : UnI xs [] 0 := ⟨Nat.zero_le _, rfl, by simp⟩
theorem drop_getD {xs : List Int} {i : Nat} (h : i < xs.length) : xs.drop i = xs.getD i 0 :: xs.drop (i + 1) := by
  rw [List.drop_eq_getElem_cons h]; simp [List.getD, h]
theorem UnI.plain {xs acc : List Int} {i : Nat} (h : UnI xs acc i) (hi : i < xs.length) (hx : xs.getD i 0 ≠ 255) : UnI xs (acc ++ [xs.getD i 0]) (i + 1) := by
  obtain ⟨h0, h1, h2⟩ := h
  rw [drop_getD hi, unst_ne hx] at h1 h2
  exact ⟨by omega, by simpa using h1, by simp only at h2; omega⟩
theorem UnI.mark {xs acc : List Int} {i : Nat} (h : UnI xs acc i) (hi : i < xs.length) (hx : xs.getD i 0 = 255) (h1 : i + 1 = xs.length ∨ xs.getD (i + 1) 0 ≠ 0) : (unst xs).1 = acc ∧ (unst xs).2 = i := by
  obtain ⟨h0, h2, h3⟩ := h
  rw [drop_getD hi, hx] at h2 h3
  by_cases hl : i + 1 = xs.length
  · rw [List.drop_eq_nil_of_le (by omega)] at h2 h3
    have e : unst [(255 : Int)] = ([], 0) := by simp [unst]
    rw [e] at h2 h3
    exact ⟨by simpa using h2, by simpa using h3⟩
  · rw [drop_getD (i := i + 1) (by omega)] at h2 h3
    have := h1.resolve_left hl
    simp only [unst, if_true, this, if_false] at h2 h3
    exact ⟨by simpa using h2, by simpa using h3⟩
theorem UnI.pair {xs acc : List Int} {i : Nat} (h : UnI xs acc i) (hi : i + 1 < xs.length) (hx : xs.getD i 0 = 255) (h1 : xs.getD (i + 1) 0 = 0) : UnI xs (acc ++ [255]) (i + 2) := by
  obtain ⟨h0, h2, h3⟩ := h
  rw [drop_getD (by omega), hx, drop_getD hi, h1] at h2 h3
  simp only [unst, if_true] at h2 h3
  rw [show i + 1 + 1 = i + 2 from rfl] at h2 h3
  exact ⟨by omega, by simpa using h2, by omega⟩
theorem UnI.end {xs acc : List Int} {i : Nat} (h : UnI xs acc i) (hi : i = xs.length) : (unst xs).1 = acc ∧ (unst xs).2 = i := by
  obtain ⟨h0, h2, h3⟩ := h
  rw [hi, List.drop_length] at h2 h3
  have e : unst [] = ([], 0) := rfl
  rw [e] at h2 h3
  exact ⟨by simpa using h2, by simp at h3; omega⟩
theorem Unstuff_spec {N : Nat} {w : World} {base : Option Addr} {len cap : Nat} {xs : List Int} {R : Ending → World → Prop} (h : Sl N w base (bytes xs)) (hl : len = xs.length) (hsz : len ≤ 2 ^ 46)
    (hR : ∀ p c w', Fg [] w w' 1 p (unst xs).1.length c (bytes (unst xs).1) → R (.returned (.tuple #[.slice p (unst xs).1.length c, i64 (unst xs).2])) w') :
    Calls P F.bits_Unstuff #[.slice base len cap] w R := by
  refine calls_bits_Unstuff _ _ _ _ _ ?_
  refine ⟨by omega, by omega, by omega, by omega, fun k1 w1 hn => ?_⟩
  have hf0 : Fg [] w w1 1 (some ⟨k1, 0, none⟩) 0 len [] := Fg.of_ow (M := w1.heap.size) (Ext.refl w) hn.ext (hn.own (List.nil_prefix) rfl (by rw [mkCells_length]; rfl) (by omega) (Nat.le_refl _) (Nat.le_refl _)) (Nat.le_refl _)
  refine ⟨fun l w' => match l with | [.slice p l' c, .int _ i] => ∃ acc : List Int, (unst xs).1 = acc ∧ ((unst xs).2 : Int) = i ∧ l' = acc.length ∧ Fg [] w w' 1 p l' c (bytes acc) | _ => False, ?_, fun p5 l5 c5 i w8 hI => ?_⟩
  · refine ⟨fun l w' => match l with | [.slice p l' c, .int _ i] => ∃ acc : List Int, 0 ≤ i ∧ UnI xs acc i.toNat ∧ acc.length ≤ i ∧ l' = acc.length ∧ Fg [] w w' 1 p l' c (bytes acc) | _ => False,
      fun l _ => match l with | [.slice p l' c, .int _ i] => (len - i).toNat | _ => 0, ⟨[], by omega, UnI.nil xs, by simp, rfl, hf0⟩, fun p1 l1 c1 i w2 hI => ?_⟩
    obtain ⟨acc, i0, hu, hal, rfl, hf⟩ := hI
    have hle := hu.1
    refine brB_i (fun hlt => ?_) (fun hge => ?_)
    · have hlt : i < len := by simpa using hlt
      refine ⟨fun l w' => match l with | [.slice p l' c, .int _ j] => ∃ acc : List Int, i ≤ j ∧ j < len ∧ UnI xs acc (j.toNat + 1) ∧ acc.length ≤ j + 1 ∧ l' = acc.length ∧ Fg [] w w' 1 p l' c (bytes acc) | _ => False, ?_, fun p4 l4 c4 j w7 hI => ?_⟩
      · refine (h.ext hf.ext).get i0 (by rw [bytes_length]; omega) (bytes_get (by omega)) fun a1 hc1 => ⟨_, hc1, brB_i (fun hx => ?_) (fun hx => ?_)⟩
        · have hx : xs.getD i.toNat 0 = 255 := by simpa using hx
          rw [w64 (x := i + 1) (by omega) (by omega)]
          refine brB_i (fun he => ?_) (fun he => ?_)
          · have he : i + 1 = len := by simpa using he
            obtain ⟨e1, e2⟩ := hu.mark (by omega) hx (.inl (by omega))
            exact ⟨acc, e1, by omega, rfl, hf⟩
          · have he : i + 1 ≠ len := by simpa using he
            refine (h.ext hf.ext).get (by omega) (by rw [bytes_length]; omega) (bytes_get (by omega)) fun a2 hc2 => ⟨_, hc2, brB_i (fun hy => ?_) (fun hy k4 hk4 w3 hL3 => ?_)⟩
            · have hy : xs.getD (i.toNat + 1) 0 ≠ 0 := by rw [show i.toNat + 1 = (i + 1).toNat by omega]; simpa using hy
              obtain ⟨e1, e2⟩ := hu.mark (by omega) hx (.inr hy)
              exact ⟨acc, e1, by omega, rfl, hf⟩
            · have hy : xs.getD (i.toNat + 1) 0 = 0 := by rw [show i.toNat + 1 = (i + 1).toNat by omega]; simpa using hy
              refine hf.app hL3 (by simp; omega) (by simp [blocks]) rfl rfl (by omega) (by omega) fun p2 c2 w4 hf2 => ?_
              have hp := hu.pair (by omega) hx hy
              exact ⟨acc ++ [255], by omega, by omega, by rw [show (i + 1).toNat + 1 = i.toNat + 2 by omega]; exact hp, by simp; omega, by simp, by simpa [bytes] using hf2.weak⟩
        · have hx : xs.getD i.toNat 0 ≠ 255 := by simpa using hx
          refine (h.ext hf.ext).get i0 (by rw [bytes_length]; omega) (bytes_get (by omega)) fun a3 hc3 => ⟨_, hc3, fun k7 hk7 w5 hL5 => ?_⟩
          refine hf.app hL5 (by simp; omega) (by simp [blocks]) rfl rfl (by omega) (by omega) fun p2 c2 w4 hf2 => ?_
          exact ⟨acc ++ [xs.getD i.toNat 0], by omega, hlt, hu.plain (by omega) hx, by simp; omega, by simp, by simpa [bytes] using hf2.weak⟩
      · obtain ⟨acc, j0, j1, hu2, hal2, rfl, hf2⟩ := hI
        rw [w64 (x := j + 1) (by omega) (by omega)]
        refine ⟨⟨acc, by omega, by rw [show (j + 1).toNat = j.toNat + 1 by omega]; exact hu2, hal2, rfl, hf2⟩, ?_⟩
        show (len - (j + 1)).toNat < (len - i).toNat
        omega
    · have hge : i = len := by simp at hge; omega
      obtain ⟨e1, e2⟩ := hu.end (by omega)
      exact ⟨acc, e1, by omega, rfl, hf⟩
  · obtain ⟨acc, e1, e2, rfl, hf⟩ := hI
    subst e1; subst e2
    exact hR p5 c5 w8 hf
theorem refUnstuff_spec {N : Nat} {w : World} {base : Option Addr} {len cap : Nat} {xs : List Int} {R : Ending → World → Prop} (h : Sl N w base (bytes xs)) (hl : len = xs.length) (hsz : len ≤ 2 ^ 46)
    (hR : ∀ p c w', Fg [] w w' 1 p (unst xs).1.length c (bytes (unst xs).1) → R (.returned (.tuple #[.slice p (unst xs).1.length c, i64 (unst xs).2])) w') :
    Calls P F.ref01_Unstuff #[.slice base len cap] w R := by
  refine calls_ref01_Unstuff _ _ _ _ _ ?_
  have fin : ∀ (acc : List Int) (i : Int) p c w', (unst xs).1 = acc → ((unst xs).2 : Int) = i → Fg [] w w' 1 p acc.length c (bytes acc) → R (.returned (.tuple #[.slice p acc.length c, i64 i])) w' := by
    rintro acc i p c w' rfl rfl hf; exact hR p c w' hf
  refine ⟨fun l w' => match l with | [.slice p l' c, .int _ i] => ∃ acc : List Int, 0 ≤ i ∧ UnI xs acc i.toNat ∧ acc.length ≤ i ∧ l' = acc.length ∧ Fg [] w w' 1 p l' c (bytes acc) | _ => False,
    fun l _ => match l with | [.slice p l' c, .int _ i] => (len - i).toNat | _ => 0, ⟨[], by omega, UnI.nil xs, by simp, rfl, Fg.nil (Ext.refl w) 1⟩, fun p1 l1 c1 i w2 hI => ?_⟩
  obtain ⟨acc, i0, hu, hal, rfl, hf⟩ := hI
  have hle := hu.1
  refine brB_i (fun hlt => ?_) (fun hge => ?_)
  · have hlt : i < len := by simpa using hlt
    refine ⟨fun l w' => match l with | [.slice p l' c, .int _ j] => ∃ acc : List Int, i ≤ j ∧ j < len ∧ UnI xs acc (j.toNat + 1) ∧ acc.length ≤ j + 1 ∧ l' = acc.length ∧ Fg [] w w' 1 p l' c (bytes acc) | _ => False, ?_, fun p4 l4 c4 j w7 hI => ?_⟩
    · refine (h.ext hf.ext).get i0 (by rw [bytes_length]; omega) (bytes_get (by omega)) fun a1 hc1 => ⟨_, hc1, brB_i (fun hx => ?_) (fun hx => ?_)⟩
      · have hx : xs.getD i.toNat 0 = 255 := by simpa using hx
        rw [w64 (x := i + 1) (by omega) (by omega)]
        refine brB_i (fun he => ?_) (fun he => ?_)
        · have he : i + 1 ≥ len := by simpa using he
          obtain ⟨e1, e2⟩ := hu.mark (by omega) hx (.inl (by omega))
          exact fin acc i _ _ _ e1 (by omega) hf
        · have he : i + 1 < len := by simpa using he
          refine (h.ext hf.ext).get (by omega) (by rw [bytes_length]; omega) (bytes_get (by omega)) fun a2 hc2 => ⟨_, hc2, brB_i (fun hy => ?_) (fun hy k4 hk4 w3 hL3 => ?_)⟩
          · have hy : xs.getD (i.toNat + 1) 0 ≠ 0 := by rw [show i.toNat + 1 = (i + 1).toNat by omega]; simpa using hy
            obtain ⟨e1, e2⟩ := hu.mark (by omega) hx (.inr hy)
            exact fin acc i _ _ _ e1 (by omega) hf
          · have hy : xs.getD (i.toNat + 1) 0 = 0 := by rw [show i.toNat + 1 = (i + 1).toNat by omega]; simpa using hy
            refine hf.app hL3 (by simp; omega) (by simp [blocks]) rfl rfl (by omega) (by omega) fun p2 c2 w4 hf2 => ?_
            have hp := hu.pair (by omega) hx hy
            exact ⟨acc ++ [255], by omega, by omega, by rw [show (i + 1).toNat + 1 = i.toNat + 2 by omega]; exact hp, by simp; omega, by simp, by simpa [bytes] using hf2.weak⟩
      · have hx : xs.getD i.toNat 0 ≠ 255 := by simpa using hx
        refine (h.ext hf.ext).get i0 (by rw [bytes_length]; omega) (bytes_get (by omega)) fun a3 hc3 => ⟨_, hc3, fun k7 hk7 w5 hL5 => ?_⟩
        refine hf.app hL5 (by simp; omega) (by simp [blocks]) rfl rfl (by omega) (by omega) fun p2 c2 w4 hf2 => ?_
        exact ⟨acc ++ [xs.getD i.toNat 0], by omega, hlt, hu.plain (by omega) hx, by simp; omega, by simp, by simpa [bytes] using hf2.weak⟩
    · obtain ⟨acc, j0, j1, hu2, hal2, rfl, hf2⟩ := hI
      rw [w64 (x := j + 1) (by omega) (by omega)]
      refine ⟨⟨acc, by omega, by rw [show (j + 1).toNat = j.toNat + 1 by omega]; exact hu2, hal2, rfl, hf2⟩, ?_⟩
      show (len - (j + 1)).toNat < (len - i).toNat
      omega
  · have hge : i = len := by simp at hge; omega
    obtain ⟨e1, e2⟩ := hu.end (by omega)
    exact fin acc len _ _ _ e1 (by omega) hf
end Go.Proofs.Ytlmnooodinfifaa
