/- Inflate: what a stream that is read is. -/
import Derived.Test.YthfnohbpdoklgaaIM2
namespace Go.Proofs.Ythfnohbpdoklgaa
open Go Go.Vc
set_option linter.unusedVariables false
set_option linter.unusedSimpArgs false
theorem lensF_ok {bs : List Int} : ∀ {n i k : Nat} {l l' : List Nat} {k' : Nat}, lensF bs n i k l = .ok (l', k') → k ≤ 8 * bs.length → k ≤ k' ∧ k' ≤ 8 * bs.length
  | 0, i, k, l, l', k', h, hk => by cases h; exact ⟨Nat.le_refl _, hk⟩
  | n + 1, i, k, l, l', k', h, hk => by
    rw [lensF] at h
    split at h
    · cases h
    rename_i x k1 h1
    obtain ⟨a1, a2, _⟩ := tkM_ok h1
    have := lensF_ok h a2
    omega
theorem rowS_ok {bs : List Int} {row : List Nat} {v k many x k' : Nat} (h : rowS bs row v k = .ok (many, x, k')) (hk : k ≤ 8 * bs.length) : k ≤ k' ∧ k' ≤ 8 * bs.length := by
  unfold rowS at h
  split at h
  · cases h; exact ⟨Nat.le_refl _, hk⟩
  split at h
  · cases h
  split at h
  · cases h
  rename_i x k1 h1
  obtain ⟨a1, a2, _⟩ := tkM_ok h1
  cases h
  omega
theorem rowF_ok {bs : List Int} {l : List Nat} {n : Nat} : ∀ {f : Nat} {row : List Nat} {k : Nat} {row' : List Nat} {k' : Nat}, rowF' bs l n f row k = .ok (row', k') → k ≤ 8 * bs.length → k ≤ k' ∧ k' ≤ 8 * bs.length
  | 0, row, k, row', k', h, hk => by cases h
  | f + 1, row, k, row', k', h, hk => by
    rw [rowF'] at h
    split at h
    · cases h; exact ⟨Nat.le_refl _, hk⟩
    split at h
    · cases h
    rename_i v k1 h1
    obtain ⟨a1, a2, _⟩ := nextM_ok h1
    split at h
    · cases h
    rename_i many x k2 h2
    have b := rowS_ok h2 a2
    split at h
    · cases h
    have := rowF_ok h b.2
    omega
theorem tabM_ok {bs : List Int} {k : Nat} {lits dists : List Nat} {k' : Nat} (h : tabM bs k = .ok (lits, dists, k')) : k ≤ k' ∧ k' ≤ 8 * bs.length := by
  unfold tabM at h
  split at h
  · cases h
  rename_i hl k1 h1
  split at h
  · cases h
  rename_i hd k2 h2
  split at h
  · cases h
  rename_i hc k3 h3
  obtain ⟨a1, a2, _⟩ := tkM_ok h1
  obtain ⟨b1, b2, _⟩ := tkM_ok h2
  obtain ⟨c1, c2, _⟩ := tkM_ok h3
  split at h
  · cases h
  split at h
  · cases h
  rename_i l k4 h4
  have d := lensF_ok h4 c2
  split at h
  · cases h
  split at h
  · cases h
  rename_i row k5 h5
  have e := rowF_ok h5 d.2
  split at h
  · cases h
  cases h
  omega
theorem SxOk.mv {bs : List Int} {most : Int} {s : Sx} {k : Nat} (h : SxOk bs most s) (h1 : s.1 ≤ k) (h2 : k ≤ 8 * bs.length) : SxOk bs most (k, s.2) :=
  ⟨h2, h.few, by have := h.slow; simp only; omega, h.fit⟩
theorem blockM_ok {bs : List Int} {most : Int} {kind : Nat} {s s' : Sx} (hf : Bs bs) (h : blockM bs most kind s = .ok s') (hs : SxOk bs most s) : SxOk bs most s' ∧ s.1 < s'.1 := by
  unfold blockM at h
  split at h
  · exact storedM_ok hf h hs
  split at h
  · exact symF_ok h hs
  split at h
  · split at h
    · cases h
    rename_i lits dists k hT
    have a := tabM_ok hT
    have := symF_ok h (hs.mv a.1 a.2)
    simp only at this
    exact ⟨this.1, by omega⟩
  · cases h
theorem rawF_ok {bs : List Int} {most : Int} (hf : Bs bs) : ∀ {f : Nat} {s s' : Sx}, rawF bs most f s = .ok s' → SxOk bs most s → SxOk bs most s' ∧ s.1 < s'.1
  | 0, s, s', h, _ => by cases h
  | f + 1, s, s', h, hs => by
    rw [rawF] at h
    split at h
    · cases h
    rename_i last k1 h1
    obtain ⟨a1, a2, _⟩ := tkM_ok h1
    split at h
    · cases h
    rename_i kind k2 h2
    obtain ⟨b1, b2, _⟩ := tkM_ok h2
    split at h
    · cases h
    rename_i s1 h3
    have c := blockM_ok hf h3 (hs.mv (k := k2) (by omega) b2)
    simp only at c
    split at h
    · cases h
      exact ⟨c.1, by omega⟩
    · have d := rawF_ok hf h c.1
      exact ⟨d.1, by omega⟩
theorem sx0 (bs : List Int) (most : Int) (h : 0 ≤ most) : SxOk bs most (0, []) := ⟨by simp, by simpa using h, by simp, fun x hx => by cases hx⟩
theorem rawR_cases {bs : List Int} {most : Int} (hf : Bs bs) :
    (∃ e, rawF bs (max most 0) (8 * bs.length + 1) (0, []) = .error e ∧ rawR bs most = ([], 0, e)) ∨
    ∃ k out, rawF bs (max most 0) (8 * bs.length + 1) (0, []) = .ok (k, out) ∧ rawR bs most = (out, (k + 7) / 8, 0) ∧ SxOk bs (max most 0) (k, out) ∧ 0 < k := by
  unfold rawR
  cases h : rawF bs (max most 0) (8 * bs.length + 1) (0, []) with
  | error e => exact .inl ⟨e, rfl, rfl⟩
  | ok s =>
    have := rawF_ok hf h (sx0 _ _ (by omega))
    exact .inr ⟨s.1, s.2, rfl, rfl, this.1, this.2⟩
structure RawOk (bs : List Int) (most : Int) : Prop where
  fit : Bs (rawR bs most).1
  few : ((rawR bs most).1.length : Int) ≤ max most 0
  slow : (rawR bs most).1.length ≤ 258 * (8 * bs.length)
  used : (rawR bs most).2.1 ≤ bs.length
theorem rawR_ok {bs : List Int} {most : Int} (hf : Bs bs) : RawOk bs most := by
  rcases rawR_cases (most := most) hf with ⟨e, _, h⟩ | ⟨k, out, _, h, hs, hk⟩
  · rw [RawOk_iff, h]; exact ⟨(fun x hx => by cases hx), (by simp only [List.length_nil]; omega), by simp, by simp⟩
  · rw [RawOk_iff, h]
    have h1 := hs.pos
    have h2 := hs.slow
    simp only at h1 h2
    exact ⟨hs.fit, hs.few, by simp only; omega, by simp only; omega⟩
where RawOk_iff {bs : List Int} {most : Int} : RawOk bs most ↔ Bs (rawR bs most).1 ∧ ((rawR bs most).1.length : Int) ≤ max most 0 ∧ (rawR bs most).1.length ≤ 258 * (8 * bs.length) ∧ (rawR bs most).2.1 ≤ bs.length :=
  ⟨fun h => ⟨h.fit, h.few, h.slow, h.used⟩, fun h => ⟨h.1, h.2.1, h.2.2.1, h.2.2.2⟩⟩
end Go.Proofs.Ythfnohbpdoklgaa
