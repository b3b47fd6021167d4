/- Inflate: errors are not nought; streams that are cut, or that others follow. -/
import Derived.Test.YthfnohbpdoklgaaIM4
import Derived.Test.YthfnohbpdoklgaaIX6
namespace Go.Proofs.Ythfnohbpdoklgaa
open Go Go.Vc
set_option linter.unusedVariables false
set_option linter.unusedSimpArgs false
set_option maxRecDepth 100000
theorem tk_ne {bs : List Int} {k n : Nat} : tkM bs k n ≠ .error 0 := fun h => by have := (tkM_err h).1; omega
theorem next_ne (bs : List Int) (l : List Nat) {k : Nat} : nextM bs l k ≠ .error 0 := next_spec.next_ne bs l
theorem stored_ne {bs : List Int} {most : Int} {s : Sx} : storedM bs most s ≠ .error 0 := fun h => by
  unfold storedM at h
  split at h
  · rename_i e he; cases h; exact tk_ne he
  split at h
  · rename_i e he; cases h; exact tk_ne he
  split at h
  · cases h
  split at h
  · cases h
  split at h <;> cases h
theorem match_ne {bs : List Int} {most : Int} {dists : List Nat} {v : Nat} {s : Sx} : matchM bs most dists v s ≠ .error 0 := fun h => by
  unfold matchM at h
  split at h
  · cases h
  split at h
  · rename_i e he; cases h; exact tk_ne he
  split at h
  · rename_i e he; cases h; exact next_ne _ _ he
  split at h
  · cases h
  split at h
  · rename_i e he; cases h; exact tk_ne he
  split at h
  · cases h
  split at h <;> cases h
theorem symF_ne {bs : List Int} {most : Int} {lits dists : List Nat} : ∀ {f : Nat} {s : Sx}, s.1 ≤ 8 * bs.length → 8 * bs.length < s.1 + f → symF bs most lits dists f s ≠ .error 0
  | 0, s, h1, h2, _ => by omega
  | f + 1, s, h1, h2, h => by
    rw [symF] at h
    split at h
    · rename_i e he; cases h; exact next_ne _ _ he
    rename_i v k1 hN
    obtain ⟨a1, a2, _⟩ := nextM_ok hN
    split at h
    · cases h
    split at h
    · split at h
      · cases h
      exact symF_ne (s := (k1, _)) a2 (by simp only; omega) h
    · split at h
      · rename_i e he; cases h; exact match_ne he
      rename_i s1 hM
      have hg := (match_grow hM).2
      simp only at hg
      have h8 : s1.1 ≤ 8 * bs.length := by
        unfold matchM at hM
        split at hM
        · cases hM
        split at hM
        · cases hM
        split at hM
        · cases hM
        split at hM
        · cases hM
        split at hM
        · cases hM
        rename_i y k3 h3
        split at hM
        · cases hM
        split at hM
        · cases hM
        cases hM
        exact (tkM_ok h3).2.1
      exact symF_ne h8 (by omega) h
theorem lensF_ne {bs : List Int} : ∀ {n i k : Nat} {l : List Nat}, lensF bs n i k l ≠ .error 0
  | 0, i, k, l, h => by cases h
  | n + 1, i, k, l, h => by
    rw [lensF] at h
    split at h
    · rename_i e he; cases h; exact tk_ne he
    · exact lensF_ne h
theorem rowS_many {bs : List Int} {row : List Nat} {v k many x k' : Nat} (h : rowS bs row v k = .ok (many, x, k')) : 1 ≤ many := by
  unfold rowS at h
  split at h
  · cases h; omega
  split at h
  · cases h
  split at h
  · cases h
  cases h
  split <;> omega
theorem rowS_ne {bs : List Int} {row : List Nat} {v k : Nat} : rowS bs row v k ≠ .error 0 := fun h => by
  unfold rowS at h
  split at h
  · cases h
  split at h
  · cases h
  split at h
  · rename_i e he; cases h; exact tk_ne he
  · cases h
theorem rowF_ne {bs : List Int} {l : List Nat} {n : Nat} : ∀ {f : Nat} {row : List Nat} {k : Nat}, row.length ≤ n → n < row.length + f → rowF' bs l n f row k ≠ .error 0
  | 0, row, k, h1, h2, _ => by omega
  | f + 1, row, k, h1, h2, h => by
    rw [rowF'] at h
    split at h
    · cases h
    split at h
    · rename_i e he; cases h; exact next_ne _ _ he
    split at h
    · rename_i e he; cases h; exact rowS_ne he
    rename_i many x k2 hS
    have := rowS_many hS
    split at h
    · cases h
    exact rowF_ne (by simp; omega) (by simp; omega) h
theorem tab_ne {bs : List Int} {k : Nat} : tabM bs k ≠ .error 0 := fun h => by
  unfold tabM at h
  split at h
  · rename_i e he; cases h; exact tk_ne he
  split at h
  · rename_i e he; cases h; exact tk_ne he
  split at h
  · rename_i e he; cases h; exact tk_ne he
  split at h
  · cases h
  split at h
  · rename_i e he; cases h; exact lensF_ne he
  split at h
  · cases h
  split at h
  · rename_i e he; cases h; exact rowF_ne (by simp) (by simp) he
  split at h <;> cases h
theorem block_ne {bs : List Int} {most : Int} {kind : Nat} {s : Sx} (hs : s.1 ≤ 8 * bs.length) : blockM bs most kind s ≠ .error 0 := fun h => by
  unfold blockM at h
  split at h
  · exact stored_ne h
  split at h
  · exact symF_ne hs (by omega) h
  split at h
  · split at h
    · rename_i e he; cases h; exact tab_ne he
    · rename_i lits dists k hT
      have := tabM_ok hT
      exact symF_ne (s := (k, s.2)) this.2 (by simp only; omega) h
  · cases h
theorem rawF_ne {bs : List Int} {most : Int} (hf : Bs bs) : ∀ {f : Nat} {s : Sx}, SxOk bs most s → 8 * bs.length < s.1 + f → rawF bs most f s ≠ .error 0
  | 0, s, h1, h2, _ => by have := h1.pos; omega
  | f + 1, s, h1, h2, h => by
    rw [rawF] at h
    split at h
    · rename_i e he; cases h; exact tk_ne he
    rename_i last k1 hA
    split at h
    · rename_i e he; cases h; exact tk_ne he
    rename_i kind k2 hB
    obtain ⟨a1, a2, _⟩ := tkM_ok hA
    obtain ⟨b1, b2, _⟩ := tkM_ok hB
    have hs2 := h1.mv (k := k2) (by omega) b2
    split at h
    · rename_i e he; cases h; exact block_ne (s := (k2, s.2)) b2 he
    rename_i s1 hC
    have c := blockM_ok hf hC hs2
    simp only at c
    split at h
    · cases h
    exact rawF_ne hf c.1 (by omega) h
/-! ## Streams that are read -/
/-- what is known of a stream that is read -/
theorem rawR_good {bs : List Int} {most : Int} (hf : Bs bs) (h : (rawR bs most).2.2 = 0) : ∃ k out, rawF bs (max most 0) (8 * bs.length + 1) (0, []) = .ok (k, out) ∧ rawR bs most = (out, (k + 7) / 8, 0) ∧ SxOk bs (max most 0) (k, out) ∧ 0 < k := by
  rcases rawR_cases (most := most) hf with ⟨e, he, h'⟩ | h'
  · rw [h'] at h
    simp only at h
    subst h
    exact absurd he (rawF_ne hf (sx0 _ _ (by omega)) (by simp))
  · exact h'
theorem rawR_bad {bs : List Int} {most : Int} (hf : Bs bs) (h : (rawR bs most).2.2 ≠ 0) : (rawR bs most).1 = [] ∧ (rawR bs most).2.1 = 0 := by
  rcases rawR_cases (most := most) hf with ⟨e, he, h'⟩ | ⟨k, out, _, h', _⟩
  · rw [h']; exact ⟨rfl, rfl⟩
  · rw [h'] at h; exact absurd rfl h
/-- cut off -/
theorem rawR_cut {bs cs : List Int} {most : Int} (hf : Bs bs) (h : (rawR bs most).2.2 = 0) (ha : Alike bs cs) (hc : cs.length < (rawR bs most).2.1) : (rawR cs most).2.2 = 5 := by
  obtain ⟨k, out, h1, h2, h3, h4⟩ := rawR_good hf h
  rw [h2] at hc
  simp only at hc
  have := (rawF_alike ha hf (most' := max most 0) (f' := 8 * cs.length + 1) h1 (sx0 _ _ (by omega)) h3.few (by simp) (by simp)).2 (by simp only; omega)
  unfold rawR
  rw [this]
/-- others behind -/
theorem rawR_more {bs cs : List Int} {most most' : Int} (hf : Bs bs) (h : (rawR bs most).2.2 = 0) (ha : Alike bs cs) (hc : (rawR bs most).2.1 ≤ cs.length) (hm : ((rawR bs most).1.length : Int) ≤ max most' 0) : rawR cs most' = rawR bs most := by
  obtain ⟨k, out, h1, h2, h3, h4⟩ := rawR_good hf h
  rw [h2] at hc hm ⊢
  simp only at hc hm
  have := (rawF_alike ha hf (most' := max most' 0) (f' := 8 * cs.length + 1) h1 (sx0 _ _ (by omega)) hm (by simp) (by simp)).1 (by simp only; omega)
  unfold rawR
  rw [this]
theorem alike_take (bs : List Int) (n : Nat) : Alike bs (bs.take n) := fun i h1 h2 => by
  rw [List.length_take] at h2
  rw [List.getD_eq_getElem?_getD, List.getD_eq_getElem?_getD, List.getElem?_take_of_lt (by omega)]
theorem alike_more (bs ms : List Int) {n : Nat} (hn : n ≤ bs.length) : Alike (bs.take n) (bs.take n ++ ms) := fun i h1 h2 => by
  rw [List.getD_eq_getElem?_getD, List.getD_eq_getElem?_getD, List.getElem?_append_left h1]
/-- the bytes that were used, and others -/
theorem rawR_used {bs ms : List Int} {most most' : Int} (hf : Bs bs) (h : (rawR bs most).2.2 = 0) (hm : ((rawR bs most).1.length : Int) ≤ max most' 0) : rawR (bs.take (rawR bs most).2.1 ++ ms) most' = rawR bs most := by
  have hu := (rawR_ok (most := most) hf).used
  have e : rawR (bs.take (rawR bs most).2.1) most = rawR bs most := rawR_more hf h (alike_take bs _) (by rw [List.length_take]; omega) (by have := (rawR_ok (most := most) hf).few; omega)
  have hft : Bs (bs.take (rawR bs most).2.1) := fun x hx => hf x (List.mem_of_mem_take hx)
  have := rawR_more (cs := bs.take (rawR bs most).2.1 ++ ms) (most' := most') hft (by rw [e]; exact h) (alike_more bs ms hu) (by rw [e, List.length_append, List.length_take]; omega) (by rw [e]; exact hm)
  rw [this, e]
end Go.Proofs.Ythfnohbpdoklgaa
