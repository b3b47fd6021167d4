/- Inflate: prefix codes by their lengths, and symbols read by them, in plain words. -/
import Derived.Test.YthfnohbpdoklgaaIR4
namespace Go.Proofs.Ythfnohbpdoklgaa
open Go Go.Vc
set_option linter.unusedVariables false
set_option linter.unusedSimpArgs false

/-- n bits from place k on -/
def tkM (bs : List Int) (k n : Nat) : Except Int (Nat × Nat) := if k + n ≤ 8 * bs.length then .ok ((takeV bs false k n).toNat, k + n) else .error 5
/-- the symbols of length n among the first i -/
def symsU (l : List Nat) (n i : Nat) : List Nat := (List.range i).filter fun j => l.getD j 0 == n
def symsL (l : List Nat) (n : Nat) : List Nat := symsU l n l.length
theorem symsU_zero (l : List Nat) (n : Nat) : symsU l n 0 = [] := rfl
theorem symsU_hit {l : List Nat} {n i : Nat} (h : l.getD i 0 = n) : symsU l n (i + 1) = symsU l n i ++ [i] := by
  rw [List.getD_eq_getElem?_getD] at h
  simp [symsU, List.range_succ, List.filter_append, h]
theorem symsU_miss {l : List Nat} {n i : Nat} (h : l.getD i 0 ≠ n) : symsU l n (i + 1) = symsU l n i := by
  rw [List.getD_eq_getElem?_getD] at h
  simp [symsU, List.range_succ, List.filter_append, h]
theorem symsU_lt {l : List Nat} {n i x : Nat} (h : x ∈ symsU l n i) : x < i ∧ l.getD x 0 = n := by
  simp only [symsU, List.mem_filter, List.mem_range] at h
  exact ⟨h.1, by simpa using h.2⟩
theorem symsU_len (l : List Nat) (n i : Nat) : (symsU l n i).length ≤ i := by
  unfold symsU
  exact Nat.le_trans (List.length_filter_le _ _) (by simp)
/-- behind the last code of length n -/
def nxL (l : List Nat) : Nat → Nat
  | 0 => 0
  | n + 1 => 2 * nxL l n + (symsL l (n + 1)).length
/-- the first code of length n -/
def fsL (l : List Nat) : Nat → Nat
  | 0 => 0
  | n + 1 => 2 * nxL l n
theorem nx_fs (l : List Nat) (n : Nat) : nxL l (n + 1) = fsL l (n + 1) + (symsL l (n + 1)).length := rfl
theorem nx_le (l : List Nat) : ∀ n, nxL l n + l.length ≤ l.length * 2 ^ n
  | 0 => by simp [nxL]
  | n + 1 => by
    have ih := nx_le l n
    have h := symsU_len l (n + 1) l.length
    have e : l.length * 2 ^ (n + 1) = 2 * (l.length * 2 ^ n) := by rw [Nat.pow_succ]; simp [Nat.mul_comm, Nat.mul_left_comm]
    rw [nxL, e]
    unfold symsL
    omega
theorem nx_up (l : List Nat) {n : Nat} : ∀ k, nxL l n * 2 ^ k ≤ nxL l (n + k)
  | 0 => by simp
  | k + 1 => by
    have ih := nx_up l (n := n) k
    have e : nxL l n * 2 ^ (k + 1) = 2 * (nxL l n * 2 ^ k) := by rw [Nat.pow_succ, ← Nat.mul_assoc, Nat.mul_comm]
    rw [← Nat.add_assoc, nxL, e]; omega
/-- the greatest length up to n that is met -/
def deepU (l : List Nat) : Nat → Nat
  | 0 => 0
  | n + 1 => match symsL l (n + 1) with
    | [] => deepU l n
    | _ => n + 1
def deepL (l : List Nat) : Nat := deepU l 16
theorem deepU_le (l : List Nat) : ∀ n, deepU l n ≤ n
  | 0 => Nat.le_refl _
  | n + 1 => by
    have := deepU_le l n
    unfold deepU
    split <;> omega
theorem deepU_met (l : List Nat) : ∀ n, deepU l n ≠ 0 → symsL l (deepU l n) ≠ []
  | 0, h => absurd rfl h
  | n + 1, h => by
    unfold deepU at h ⊢
    split
    · rename_i e
      rw [e] at h
      exact deepU_met l n h
    · rename_i e
      intro h2
      exact e h2
theorem deepU_above (l : List Nat) : ∀ n m, deepU l n < m → m ≤ n → symsL l m = []
  | 0, m, h1, h2 => by omega
  | n + 1, m, h1, h2 => by
    unfold deepU at h1
    split at h1
    · rename_i e
      rcases Nat.lt_or_ge n m with g | g
      · rw [show m = n + 1 by omega]; exact e
      · exact deepU_above l n m h1 g
    · omega
/-- the symbols of the lengths up to n, in their order -/
def tabU (l : List Nat) : Nat → List Nat
  | 0 => []
  | n + 1 => tabU l n ++ symsL l (n + 1)
theorem tabU_lt {l : List Nat} {x : Nat} : ∀ n, x ∈ tabU l n → x < l.length
  | 0, h => by cases h
  | n + 1, h => by
    rcases List.mem_append.1 h with h | h
    · exact tabU_lt n h
    · exact (symsU_lt h).1
theorem tabU_len (l : List Nat) : ∀ n, (tabU l n).length ≤ n * l.length
  | 0 => by simp [tabU]
  | n + 1 => by
    have := tabU_len l n
    have := symsU_len l (n + 1) l.length
    rw [tabU, List.length_append, Nat.add_mul]
    unfold symsL; omega
theorem tabU_get {l : List Nat} {n i : Nat} (hi : i < (symsL l (n + 1)).length) : ∀ m, n < m → (tabU l m)[(tabU l n).length + i]? = (symsL l (n + 1))[i]?
  | 0, h => by omega
  | m + 1, h => by
    rcases Nat.lt_or_ge n m with g | g
    · have ih := tabU_get hi m g
      have hlt : (tabU l n).length + i < (tabU l m).length := by
        rcases Nat.lt_or_ge ((tabU l n).length + i) (tabU l m).length with g | g
        · exact g
        · rw [List.getElem?_eq_none g, List.getElem?_eq_getElem hi] at ih; cases ih
      rw [tabU, List.getElem?_append_left hlt, ih]
    · have : m = n := by omega
      subst this
      rw [tabU, List.getElem?_append_right (by omega), Nat.add_sub_cancel_left]
/-- a symbol, n bits of whose code, the number v, were read already; x: behind the codes of length n -/
def nextGo (bs : List Int) (l : List Nat) (d e : Nat) : Nat → Nat → Nat → Nat → Nat → Except Int (Nat × Nat)
  | 0, _, _, _, _ => .error 32
  | f + 1, n, v, x, k => match tkM bs k 1 with
    | .error er => .error er
    | .ok (b, k') =>
      if 2 * x ≤ 2 * v + b ∧ 2 * v + b < 2 * x + (symsL l (n + 1)).length then .ok ((symsL l (n + 1)).getD (2 * v + b - 2 * x) 0, k')
      else if n + 1 < d ∧ (2 * v + b) * 2 ^ (d - (n + 1)) < e then nextGo bs l d e f (n + 1) (2 * v + b) (2 * x + (symsL l (n + 1)).length) k'
      else .error 32
def nextM (bs : List Int) (l : List Nat) (k : Nat) : Except Int (Nat × Nat) := nextGo bs l (deepL l) (nxL l (deepL l)) (deepL l) 0 0 0 k
theorem tkM_ok {bs : List Int} {k n v k' : Nat} (h : tkM bs k n = .ok (v, k')) : k' = k + n ∧ k' ≤ 8 * bs.length ∧ v < 2 ^ n ∧ v = (takeV bs false k n).toNat := by
  unfold tkM at h
  split at h <;> cases h
  have := takeV_range bs false k n
  refine ⟨rfl, ‹_›, ?_, rfl⟩
  have h2 : ((takeV bs false k n).toNat : Int) < ((2 ^ n : Nat) : Int) := by
    rw [Int.toNat_of_nonneg this.1]; push_cast; exact this.2
  exact_mod_cast h2
theorem tkM_err {bs : List Int} {k n : Nat} {e : Int} (h : tkM bs k n = .error e) : e = 5 ∧ 8 * bs.length < k + n := by
  unfold tkM at h
  split at h <;> cases h
  exact ⟨rfl, by omega⟩
theorem nextGo_ok {bs : List Int} {l : List Nat} {d e : Nat} : ∀ {f n v x k s k'}, nextGo bs l d e f n v x k = .ok (s, k') → k < k' ∧ k' ≤ 8 * bs.length ∧ s < l.length ∧ k' ≤ k + f
  | 0, n, v, x, k, s, k', h => by cases h
  | f + 1, n, v, x, k, s, k', h => by
    unfold nextGo at h
    split at h
    · cases h
    · rename_i b k1 hb
      obtain ⟨h1, h2, _⟩ := tkM_ok hb
      split at h
      · rename_i hc
        cases h
        refine ⟨by omega, h2, ?_, by omega⟩
        have hlt : 2 * v + b - 2 * x < (symsL l (n + 1)).length := by omega
        have : (symsL l (n + 1)).getD (2 * v + b - 2 * x) 0 ∈ symsL l (n + 1) := by
          rw [List.getD_eq_getElem?_getD, List.getElem?_eq_getElem hlt]
          exact List.getElem_mem hlt
        exact (symsU_lt this).1
      · split at h
        · obtain ⟨g1, g2, g3, g4⟩ := nextGo_ok h
          exact ⟨by omega, g2, g3, by omega⟩
        · cases h
theorem nextM_ok {bs : List Int} {l : List Nat} {k s k' : Nat} (h : nextM bs l k = .ok (s, k')) : k < k' ∧ k' ≤ 8 * bs.length ∧ s < l.length ∧ k' ≤ k + 16 := by
  have := nextGo_ok h
  have h2 := deepU_le l 16
  exact ⟨this.1, this.2.1, this.2.2.1, by unfold deepL at this; omega⟩
/-- is a longer code begun? the document's way -/
theorem more_iff {l : List Nat} {n v : Nat} (hn : n ≤ deepL l) (hv : nxL l n ≤ v) :
    (∃ k, n < k ∧ k ≤ 16 ∧ (symsL l k).length > 0 ∧ v * 2 ^ (k - n) + 1 ≤ fsL l k + (symsL l k).length ∧ fsL l k + 1 ≤ v * 2 ^ (k - n) + 2 ^ (k - n)) ↔ n < deepL l ∧ v * 2 ^ (deepL l - n) < nxL l (deepL l) := by
  have hd16 : deepL l ≤ 16 := deepU_le l 16
  constructor
  · rintro ⟨k, h1, h2, h3, h4, _⟩
    have hk : k ≤ deepL l := by
      rcases Nat.lt_or_ge (deepL l) k with g | g
      · rw [deepU_above l 16 k g h2] at h3; simp at h3
      · exact g
    refine ⟨by omega, ?_⟩
    obtain ⟨k0, rfl⟩ : ∃ k0, k = k0 + 1 := ⟨k - 1, by omega⟩
    rw [← nx_fs] at h4
    have hup := nx_up l (n := k0 + 1) (deepL l - (k0 + 1))
    rw [show k0 + 1 + (deepL l - (k0 + 1)) = deepL l by omega] at hup
    have e : v * 2 ^ (deepL l - n) = v * 2 ^ (k0 + 1 - n) * 2 ^ (deepL l - (k0 + 1)) := by
      rw [Nat.mul_assoc, ← Nat.pow_add]; congr 2; omega
    rw [e]
    have hp : 0 < 2 ^ (deepL l - (k0 + 1)) := Nat.pow_pos (by omega)
    exact Nat.lt_of_lt_of_le (Nat.mul_lt_mul_of_pos_right (show v * 2 ^ (k0 + 1 - n) < nxL l (k0 + 1) by omega) hp) hup
  · rintro ⟨h1, h2⟩
    -- the first length at which v's beginning lies below the end
    have key : ∀ j, v * 2 ^ j < nxL l (n + j) → ∃ i, 0 < i ∧ i ≤ j ∧ v * 2 ^ i < nxL l (n + i) ∧ nxL l (n + i - 1) ≤ v * 2 ^ (i - 1) := by
      intro j
      induction j with
      | zero => intro h; simp at h; omega
      | succ j ih =>
        intro h
        rcases Nat.lt_or_ge (v * 2 ^ j) (nxL l (n + j)) with g | g
        · obtain ⟨i, i1, i2, i3, i4⟩ := ih g
          exact ⟨i, i1, by omega, i3, i4⟩
        · exact ⟨j + 1, by omega, Nat.le_refl _, h, by rw [show n + (j + 1) - 1 = n + j by omega, show j + 1 - 1 = j by omega]; exact g⟩
    obtain ⟨i, i1, i2, i3, i4⟩ := key (deepL l - n) (by rw [show n + (deepL l - n) = deepL l by omega]; exact h2)
    obtain ⟨i', rfl⟩ : ∃ i', i = i' + 1 := ⟨i - 1, by omega⟩
    rw [show n + (i' + 1) - 1 = n + i' by omega, show i' + 1 - 1 = i' by omega] at i4
    have e : v * 2 ^ (i' + 1) = 2 * (v * 2 ^ i') := by rw [Nat.pow_succ, ← Nat.mul_assoc, Nat.mul_comm]
    have hfs : fsL l (n + (i' + 1)) = 2 * nxL l (n + i') := rfl
    have hnx : nxL l (n + (i' + 1)) = fsL l (n + (i' + 1)) + (symsL l (n + (i' + 1))).length := rfl
    have hp : 0 < 2 ^ (i' + 1) := Nat.pow_pos (by omega)
    refine ⟨n + (i' + 1), by omega, by omega, ?_, ?_, ?_⟩
    · omega
    · rw [show n + (i' + 1) - n = i' + 1 by omega]; omega
    · rw [show n + (i' + 1) - n = i' + 1 by omega]; omega
end Go.Proofs.Ythfnohbpdoklgaa
