/- Inflate: a stream is read alike where its bytes are others behind; it ends early where they are cut. -/
import Derived.Test.YthfnohbpdoklgaaIM3
namespace Go.Proofs.Ythfnohbpdoklgaa
open Go Go.Vc
set_option linter.unusedVariables false
set_option linter.unusedSimpArgs false
set_option maxRecDepth 100000

/-- bytes that begin alike -/
def Alike (bs cs : List Int) : Prop := ∀ i, i < bs.length → i < cs.length → cs.getD i 0 = bs.getD i 0
/-- what is read of others: the same, or the end is met -/
def Same {α : Type} (L k : Nat) (x : Except Int α) (a : α) : Prop := (k ≤ L → x = .ok a) ∧ (L < k → x = .error 5)
theorem takeV_alike {bs cs : List Int} (h : Alike bs cs) (k : Nat) : ∀ n, k + n ≤ 8 * bs.length → k + n ≤ 8 * cs.length → takeV cs false k n = takeV bs false k n
  | 0, _, _ => rfl
  | n + 1, h1, h2 => by
    rw [takeV, takeV, takeV_alike h k n (by omega) (by omega)]
    have : bitAt cs false (k + n) = bitAt bs false (k + n) := by
      unfold bitAt
      rw [h _ (by omega) (by omega)]
    rw [this]
theorem tk_alike {bs cs : List Int} (h : Alike bs cs) {k n : Nat} {v k' : Nat} (ht : tkM bs k n = .ok (v, k')) : Same (8 * cs.length) k' (tkM cs k n) (v, k') := by
  obtain ⟨a1, a2, a3, a4⟩ := tkM_ok ht
  constructor
  · intro hk
    unfold tkM
    rw [if_pos (by omega), takeV_alike h k n (by omega) (by omega), ← a4, a1]
  · intro hk
    exact if_neg (by omega)
theorem nextGo_alike {bs cs : List Int} (h : Alike bs cs) {l : List Nat} {d e : Nat} : ∀ {f n v x k s k'}, nextGo bs l d e f n v x k = .ok (s, k') → Same (8 * cs.length) k' (nextGo cs l d e f n v x k) (s, k')
  | 0, n, v, x, k, s, k', ht => by cases ht
  | f + 1, n, v, x, k, s, k', ht => by
    have hall := nextGo_ok ht
    rw [nextGo] at ht ⊢
    cases hb : tkM bs k 1 with
    | error er => rw [hb] at ht; cases ht
    | ok r =>
      obtain ⟨b, k1⟩ := r
      rw [hb] at ht
      simp only at ht
      obtain ⟨a1, a2, _⟩ := tkM_ok hb
      have hk1 : k1 ≤ k' := by
        split at ht
        · cases ht; exact Nat.le_refl _
        · split at ht
          · have := (nextGo_ok ht).1; omega
          · cases ht
      obtain ⟨g1, g2⟩ := tk_alike h hb
      rcases Nat.lt_or_ge (8 * cs.length) k1 with hc | hc
      · rw [g2 hc]
        exact ⟨fun hk => by omega, fun _ => rfl⟩
      · rw [g1 hc]
        simp only
        split at ht
        · rename_i hin
          rw [if_pos hin]
          cases ht
          exact ⟨fun _ => rfl, fun hk => by omega⟩
        · rename_i hin
          rw [if_neg hin]
          split at ht
          · rename_i hm
            rw [if_pos hm]
            exact nextGo_alike h ht
          · cases ht
theorem next_alike {bs cs : List Int} (h : Alike bs cs) {l : List Nat} {k s k' : Nat} (ht : nextM bs l k = .ok (s, k')) : Same (8 * cs.length) k' (nextM cs l k) (s, k') := nextGo_alike h ht
theorem part_alike {bs cs : List Int} (h : Alike bs cs) {i n : Nat} (h1 : i + n ≤ bs.length) (h2 : i + n ≤ cs.length) : part cs i n = part bs i n := by
  refine List.ext_getElem? fun j => ?_
  unfold part
  rcases Nat.lt_or_ge j n with hj | hj
  · rw [List.getElem?_take_of_lt hj, List.getElem?_take_of_lt hj, List.getElem?_drop, List.getElem?_drop]
    have := h (i + j) (by omega) (by omega)
    rw [List.getD_eq_getElem?_getD, List.getD_eq_getElem?_getD, List.getElem?_eq_getElem (by omega), List.getElem?_eq_getElem (by omega)] at this
    rw [List.getElem?_eq_getElem (by omega), List.getElem?_eq_getElem (by omega)]
    simpa using this
  · rw [List.getElem?_eq_none (by simp; omega), List.getElem?_eq_none (by simp; omega)]
theorem stored_alike {bs cs : List Int} (h : Alike bs cs) {most most' : Int} {s s' : Sx} (ht : storedM bs most s = .ok s') (hs : SxOk bs most s) (hf : Bs bs) (hm : (s'.2.length : Int) ≤ most') : Same (8 * cs.length) s'.1 (storedM cs most' s) s' := by
  have hok := storedM_ok hf ht hs
  unfold storedM at ht ⊢
  cases h1 : tkM bs (8 * ((s.1 + 7) / 8)) 16 with
  | error e => rw [h1] at ht; cases ht
  | ok r =>
    obtain ⟨n, k2⟩ := r
    rw [h1] at ht
    simp only at ht
    cases h2 : tkM bs k2 16 with
    | error e => rw [h2] at ht; cases ht
    | ok r =>
      obtain ⟨m, k3⟩ := r
      rw [h2] at ht
      simp only at ht
      obtain ⟨a1, a2, _⟩ := tkM_ok h1
      obtain ⟨b1, b2, _⟩ := tkM_ok h2
      split at ht
      · cases ht
      split at ht
      · cases ht
      split at ht
      · cases ht
      rename_i c1 c2 c3
      cases ht
      simp only at hm
      obtain ⟨g1, g2⟩ := tk_alike h h1
      obtain ⟨g3, g4⟩ := tk_alike h h2
      have hpl : (part bs ((k3 + 7) / 8) n).length = n := part_length (by omega)
      rw [List.length_append, hpl] at hm
      rcases Nat.lt_or_ge (8 * cs.length) k2 with hc | hc
      · rw [g2 hc]
        exact ⟨fun hk => by (try simp only at hk); omega, fun _ => rfl⟩
      rw [g1 hc]
      simp only
      rcases Nat.lt_or_ge (8 * cs.length) k3 with hc | hc
      · rw [g4 hc]
        exact ⟨fun hk => by (try simp only at hk); omega, fun _ => rfl⟩
      rw [g3 hc]
      simp only
      rw [if_neg c1, if_neg (by omega)]
      constructor
      · intro hk
        rw [if_neg (by omega), part_alike h (by omega) (by omega)]
      · intro hk
        rw [if_pos (by omega)]
theorem match_alike {bs cs : List Int} (h : Alike bs cs) {most most' : Int} {dists : List Nat} {v : Nat} {s s' : Sx} (ht : matchM bs most dists v s = .ok s') (hm : (s'.2.length : Int) ≤ most') : Same (8 * cs.length) s'.1 (matchM cs most' dists v s) s' := by
  unfold matchM at ht ⊢
  split at ht
  · cases ht
  rename_i c0
  rw [if_neg c0]
  cases h1 : tkM bs s.1 (lenM v).2 with
  | error e => rw [h1] at ht; cases ht
  | ok r =>
    obtain ⟨x, k1⟩ := r
    rw [h1] at ht
    simp only at ht
    cases h2 : nextM bs dists k1 with
    | error e => rw [h2] at ht; cases ht
    | ok r =>
      obtain ⟨d, k2⟩ := r
      rw [h2] at ht
      simp only at ht
      split at ht
      · cases ht
      rename_i c1
      cases h3 : tkM bs k2 (grpM d 2 1).2 with
      | error e => rw [h3] at ht; cases ht
      | ok r =>
        obtain ⟨y, k3⟩ := r
        rw [h3] at ht
        simp only at ht
        split at ht
        · cases ht
        split at ht
        · cases ht
        rename_i c2 c3
        cases ht
        simp only [copyM_len] at hm
        obtain ⟨a1, a2, _⟩ := tkM_ok h1
        obtain ⟨b1, b2, _⟩ := nextM_ok h2
        obtain ⟨d1, d2, _⟩ := tkM_ok h3
        obtain ⟨g1, g2⟩ := tk_alike h h1
        obtain ⟨g3, g4⟩ := next_alike h h2
        obtain ⟨g5, g6⟩ := tk_alike h h3
        rcases Nat.lt_or_ge (8 * cs.length) k1 with hc | hc
        · rw [g2 hc]
          exact ⟨fun hk => by (try simp only at hk); omega, fun _ => rfl⟩
        rw [g1 hc]
        simp only
        rcases Nat.lt_or_ge (8 * cs.length) k2 with hc | hc
        · rw [g4 hc]
          exact ⟨fun hk => by (try simp only at hk); omega, fun _ => rfl⟩
        rw [g3 hc]
        simp only
        rw [if_neg c1]
        rcases Nat.lt_or_ge (8 * cs.length) k3 with hc | hc
        · rw [g6 hc]
          exact ⟨fun hk => by (try simp only at hk); omega, fun _ => rfl⟩
        rw [g5 hc]
        simp only
        rw [if_neg c2, if_neg (by omega)]
        exact ⟨fun _ => rfl, fun hk => by (try simp only at hk); omega⟩
theorem match_grow {bs : List Int} {most : Int} {dists : List Nat} {v : Nat} {s s' : Sx} (ht : matchM bs most dists v s = .ok s') : s.2.length ≤ s'.2.length ∧ s.1 ≤ s'.1 := by
  unfold matchM at ht
  split at ht
  · cases ht
  split at ht
  · cases ht
  rename_i x k1 h1
  split at ht
  · cases ht
  rename_i d k2 h2
  split at ht
  · cases ht
  split at ht
  · cases ht
  rename_i y k3 h3
  split at ht
  · cases ht
  split at ht
  · cases ht
  cases ht
  have := (tkM_ok h1).1
  have := (nextM_ok h2).1
  have := (tkM_ok h3).1
  simp only [copyM_len]
  omega
theorem symF_grow {bs : List Int} {most : Int} {lits dists : List Nat} : ∀ {f : Nat} {s s' : Sx}, symF bs most lits dists f s = .ok s' → s.2.length ≤ s'.2.length ∧ s.1 ≤ s'.1
  | 0, s, s', h => by cases h
  | f + 1, s, s', h => by
    rw [symF] at h
    split at h
    · cases h
    rename_i v k1 h1
    have := (nextM_ok h1).1
    split at h
    · cases h; simp only; omega
    split at h
    · split at h
      · cases h
      have := symF_grow h
      simp only [List.length_append, List.length_cons, List.length_nil] at this
      omega
    · split at h
      · cases h
      rename_i s1 h2
      have a := match_grow h2
      have := symF_grow h
      simp only at a
      omega
theorem symF_alike {bs cs : List Int} (h : Alike bs cs) {most most' : Int} {lits dists : List Nat} : ∀ {f : Nat} {s s' : Sx} {f' : Nat}, symF bs most lits dists f s = .ok s' → (s'.2.length : Int) ≤ most' → s.1 ≤ 8 * cs.length → 8 * cs.length < s.1 + f' → Same (8 * cs.length) s'.1 (symF cs most' lits dists f' s) s'
  | 0, s, s', f', ht, _, _, _ => by cases ht
  | f + 1, s, s', f', ht, hm, hsc, hf' => by
    have hg := symF_grow ht
    rw [symF] at ht
    cases h1 : nextM bs lits s.1 with
    | error e => rw [h1] at ht; cases ht
    | ok r =>
      obtain ⟨v, k1⟩ := r
      rw [h1] at ht
      simp only at ht
      obtain ⟨a1, a2, _⟩ := nextM_ok h1
      obtain ⟨g1, g2⟩ := next_alike h h1
      have hk1 : k1 ≤ s'.1 := by
        split at ht
        · cases ht; exact Nat.le_refl _
        split at ht
        · split at ht
          · cases ht
          exact (symF_grow ht).2
        · split at ht
          · cases ht
          rename_i s1 h2
          have := (match_grow h2).2
          have := (symF_grow ht).2
          simp only at *
          omega
      obtain ⟨g, rfl⟩ : ∃ g, f' = g + 1 := ⟨f' - 1, by omega⟩
      rw [symF]
      rcases Nat.lt_or_ge (8 * cs.length) k1 with hc | hc
      · rw [g2 hc]
        exact ⟨fun hk => by omega, fun _ => rfl⟩
      rw [g1 hc]
      simp only
      split at ht
      · rename_i c
        rw [if_pos c]
        cases ht
        exact ⟨fun _ => rfl, fun hk => by (try simp only at hk); omega⟩
      rename_i c
      rw [if_neg c]
      split at ht
      · rename_i c2
        rw [if_pos c2]
        split at ht
        · cases ht
        have hg2 := (symF_grow ht).1
        simp only [List.length_append, List.length_cons, List.length_nil] at hg2
        rw [if_neg (by omega)]
        exact symF_alike h ht hm hc (by simp only; omega)
      · rename_i c2
        rw [if_neg c2]
        cases h2 : matchM bs most dists v (k1, s.2) with
        | error e => rw [h2] at ht; cases ht
        | ok s1 =>
          rw [h2] at ht
          simp only at ht
          have hg2 := symF_grow ht
          have hg3 := match_grow h2
          simp only at hg3
          obtain ⟨g3, g4⟩ := match_alike h (most' := most') h2 (by omega)
          rcases Nat.lt_or_ge (8 * cs.length) s1.1 with hc2 | hc2
          · rw [g4 hc2]
            exact ⟨fun hk => by omega, fun _ => rfl⟩
          rw [g3 hc2]
          exact symF_alike h ht hm hc2 (by omega)
theorem lensF_alike {bs cs : List Int} (h : Alike bs cs) : ∀ {n i k : Nat} {l l' : List Nat} {k' : Nat}, lensF bs n i k l = .ok (l', k') → k ≤ 8 * bs.length → k ≤ 8 * cs.length → Same (8 * cs.length) k' (lensF cs n i k l) (l', k')
  | 0, i, k, l, l', k', ht, _, hc => by cases ht; exact ⟨fun _ => rfl, fun hk => by omega⟩
  | n + 1, i, k, l, l', k', ht, hb, hc => by
    rw [lensF] at ht ⊢
    cases h1 : tkM bs k 3 with
    | error e => rw [h1] at ht; cases ht
    | ok r =>
      obtain ⟨x, k1⟩ := r
      rw [h1] at ht
      simp only at ht
      obtain ⟨a1, a2, _⟩ := tkM_ok h1
      have := lensF_ok ht a2
      obtain ⟨g1, g2⟩ := tk_alike h h1
      rcases Nat.lt_or_ge (8 * cs.length) k1 with hc | hc
      · rw [g2 hc]
        exact ⟨fun hk => by omega, fun _ => rfl⟩
      rw [g1 hc]
      exact lensF_alike h ht a2 hc
theorem rowS_alike {bs cs : List Int} (h : Alike bs cs) {row : List Nat} {v k many x k' : Nat} (ht : rowS bs row v k = .ok (many, x, k')) (hc : k ≤ 8 * cs.length) : Same (8 * cs.length) k' (rowS cs row v k) (many, x, k') := by
  unfold rowS at ht ⊢
  split at ht
  · rename_i c
    rw [if_pos c]
    cases ht
    exact ⟨fun _ => rfl, fun hk => by omega⟩
  rename_i c
  rw [if_neg c]
  split at ht
  · cases ht
  rename_i c2
  rw [if_neg c2]
  cases h1 : tkM bs k (if v = 17 then 3 else if v = 18 then 7 else 2) with
  | error e => rw [h1] at ht; cases ht
  | ok r =>
    obtain ⟨y, k1⟩ := r
    rw [h1] at ht
    simp only at ht
    obtain ⟨g1, g2⟩ := tk_alike h h1
    cases ht
    rcases Nat.lt_or_ge (8 * cs.length) k' with hc | hc
    · rw [g2 hc]
      exact ⟨fun hk => by omega, fun _ => rfl⟩
    rw [g1 hc]
    exact ⟨fun _ => rfl, fun hk => by omega⟩
theorem rowF_alike {bs cs : List Int} (h : Alike bs cs) {l : List Nat} {n : Nat} : ∀ {f : Nat} {row : List Nat} {k : Nat} {row' : List Nat} {k' : Nat}, rowF' bs l n f row k = .ok (row', k') → k ≤ 8 * cs.length → Same (8 * cs.length) k' (rowF' cs l n f row k) (row', k')
  | 0, row, k, row', k', ht, hc => by cases ht
  | f + 1, row, k, row', k', ht, hc => by
    rw [rowF'] at ht ⊢
    split at ht
    · rename_i c
      rw [if_pos c]
      cases ht
      exact ⟨fun _ => rfl, fun hk => by omega⟩
    rename_i c
    rw [if_neg c]
    cases h1 : nextM bs l k with
    | error e => rw [h1] at ht; cases ht
    | ok r =>
      obtain ⟨v, k1⟩ := r
      rw [h1] at ht
      simp only at ht
      obtain ⟨a1, a2, _⟩ := nextM_ok h1
      obtain ⟨g1, g2⟩ := next_alike h h1
      cases h2 : rowS bs row v k1 with
      | error e => rw [h2] at ht; cases ht
      | ok r =>
        obtain ⟨many, x, k2⟩ := r
        rw [h2] at ht
        simp only at ht
        have b := rowS_ok h2 a2
        split at ht
        · cases ht
        rename_i c2
        have d := rowF_ok ht b.2
        rcases Nat.lt_or_ge (8 * cs.length) k1 with hc1 | hc1
        · rw [g2 hc1]
          exact ⟨fun hk => by omega, fun _ => rfl⟩
        rw [g1 hc1]
        simp only
        obtain ⟨g3, g4⟩ := rowS_alike h h2 hc1
        rcases Nat.lt_or_ge (8 * cs.length) k2 with hc2 | hc2
        · rw [g4 hc2]
          exact ⟨fun hk => by omega, fun _ => rfl⟩
        rw [g3 hc2]
        simp only
        rw [if_neg c2]
        exact rowF_alike h ht hc2
theorem tab_alike {bs cs : List Int} (h : Alike bs cs) {k : Nat} {lits dists : List Nat} {k' : Nat} (ht : tabM bs k = .ok (lits, dists, k')) : Same (8 * cs.length) k' (tabM cs k) (lits, dists, k') := by
  unfold tabM at ht ⊢
  cases h1 : tkM bs k 5 with
  | error e => rw [h1] at ht; cases ht
  | ok r =>
  obtain ⟨hl, k1⟩ := r
  rw [h1] at ht
  simp only at ht
  cases h2 : tkM bs k1 5 with
  | error e => rw [h2] at ht; cases ht
  | ok r =>
  obtain ⟨hd, k2⟩ := r
  rw [h2] at ht
  simp only at ht
  cases h3 : tkM bs k2 4 with
  | error e => rw [h3] at ht; cases ht
  | ok r =>
  obtain ⟨hc, k3⟩ := r
  rw [h3] at ht
  simp only at ht
  obtain ⟨a1, a2, _⟩ := tkM_ok h1
  obtain ⟨b1, b2, _⟩ := tkM_ok h2
  obtain ⟨c1, c2, _⟩ := tkM_ok h3
  split at ht
  · cases ht
  rename_i q1
  cases h4 : lensF bs (hc + 4) 0 k3 (List.replicate 19 0) with
  | error e => rw [h4] at ht; cases ht
  | ok r =>
  obtain ⟨l, k4⟩ := r
  rw [h4] at ht
  simp only at ht
  have d := lensF_ok h4 c2
  split at ht
  · cases ht
  rename_i q2
  cases h5 : rowM bs l (hl + 257 + hd + 1) k4 with
  | error e => rw [h5] at ht; cases ht
  | ok r =>
  obtain ⟨row, k5⟩ := r
  rw [h5] at ht
  simp only at ht
  have e := rowF_ok h5 d.2
  split at ht
  · cases ht
  rename_i q3
  cases ht
  obtain ⟨g1, g2⟩ := tk_alike h h1
  obtain ⟨g3, g4⟩ := tk_alike h h2
  obtain ⟨g5, g6⟩ := tk_alike h h3
  rcases Nat.lt_or_ge (8 * cs.length) k1 with hc | hc
  · rw [g2 hc]
    exact ⟨fun hk => by omega, fun _ => rfl⟩
  rw [g1 hc]
  simp only
  rcases Nat.lt_or_ge (8 * cs.length) k2 with hc | hc
  · rw [g4 hc]
    exact ⟨fun hk => by omega, fun _ => rfl⟩
  rw [g3 hc]
  simp only
  rcases Nat.lt_or_ge (8 * cs.length) k3 with hc | hc
  · rw [g6 hc]
    exact ⟨fun hk => by omega, fun _ => rfl⟩
  rw [g5 hc]
  simp only
  rw [if_neg q1]
  obtain ⟨g7, g8⟩ := lensF_alike h h4 c2 hc
  rcases Nat.lt_or_ge (8 * cs.length) k4 with hc | hc
  · rw [g8 hc]
    exact ⟨fun hk => by omega, fun _ => rfl⟩
  rw [g7 hc]
  simp only
  rw [if_neg q2]
  obtain ⟨g9, g10⟩ := rowF_alike h h5 hc
  rcases Nat.lt_or_ge (8 * cs.length) k' with hc | hc
  · unfold rowM
    rw [g10 hc]
    exact ⟨fun hk => by omega, fun _ => rfl⟩
  unfold rowM
  rw [g9 hc]
  simp only
  rw [if_neg q3]
  exact ⟨fun _ => rfl, fun hk => by omega⟩
theorem block_alike {bs cs : List Int} (h : Alike bs cs) {most most' : Int} {kind : Nat} {s s' : Sx} (ht : blockM bs most kind s = .ok s') (hs : SxOk bs most s) (hf : Bs bs) (hm : (s'.2.length : Int) ≤ most') (hc : s.1 ≤ 8 * cs.length) : Same (8 * cs.length) s'.1 (blockM cs most' kind s) s' := by
  unfold blockM at ht ⊢
  split at ht
  · rename_i c
    rw [if_pos c]
    exact stored_alike h ht hs hf hm
  rename_i c
  rw [if_neg c]
  split at ht
  · rename_i c
    rw [if_pos c]
    exact symF_alike h ht hm hc (by omega)
  rename_i c
  rw [if_neg c]
  split at ht
  · rename_i c
    rw [if_pos c]
    cases h1 : tabM bs s.1 with
    | error e => rw [h1] at ht; cases ht
    | ok r =>
      obtain ⟨lits, dists, k⟩ := r
      rw [h1] at ht
      simp only at ht
      have a := symF_grow ht
      simp only at a
      obtain ⟨g1, g2⟩ := tab_alike h h1
      rcases Nat.lt_or_ge (8 * cs.length) k with hc | hc
      · rw [g2 hc]
        exact ⟨fun hk => by omega, fun _ => rfl⟩
      rw [g1 hc]
      exact symF_alike h ht hm hc (by simp only; omega)
  · cases ht
theorem block_grow {bs : List Int} {most : Int} {kind : Nat} {s s' : Sx} (ht : blockM bs most kind s = .ok s') : s.2.length ≤ s'.2.length := by
  unfold blockM at ht
  split at ht
  · unfold storedM at ht
    split at ht
    · cases ht
    split at ht
    · cases ht
    split at ht
    · cases ht
    split at ht
    · cases ht
    split at ht
    · cases ht
    cases ht
    simp
  split at ht
  · exact (symF_grow ht).1
  split at ht
  · split at ht
    · cases ht
    exact (symF_grow ht).1
  · cases ht
theorem rawF_grow {bs : List Int} {most : Int} : ∀ {f : Nat} {s s' : Sx}, rawF bs most f s = .ok s' → s.2.length ≤ s'.2.length
  | 0, s, s', h => by cases h
  | f + 1, s, s', h => by
    rw [rawF] at h
    split at h
    · cases h
    split at h
    · cases h
    split at h
    · cases h
    rename_i s1 h3
    have c := block_grow h3
    simp only at c
    split at h
    · cases h; exact c
    · have := rawF_grow h; omega
theorem rawF_alike {bs cs : List Int} (h : Alike bs cs) (hf : Bs bs) {most most' : Int} : ∀ {f : Nat} {s s' : Sx} {f' : Nat}, rawF bs most f s = .ok s' → SxOk bs most s → (s'.2.length : Int) ≤ most' → s.1 ≤ 8 * cs.length → 8 * cs.length < s.1 + f' → Same (8 * cs.length) s'.1 (rawF cs most' f' s) s'
  | 0, s, s', f', ht, _, _, _, _ => by cases ht
  | f + 1, s, s', f', ht, hs, hm, hsc, hf' => by
    have hall := rawF_ok hf ht hs
    rw [rawF] at ht
    cases h1 : tkM bs s.1 1 with
    | error e => rw [h1] at ht; cases ht
    | ok r =>
    obtain ⟨last, k1⟩ := r
    rw [h1] at ht
    simp only at ht
    cases h2 : tkM bs k1 2 with
    | error e => rw [h2] at ht; cases ht
    | ok r =>
    obtain ⟨kind, k2⟩ := r
    rw [h2] at ht
    simp only at ht
    cases h3 : blockM bs most kind (k2, s.2) with
    | error e => rw [h3] at ht; cases ht
    | ok s1 =>
    rw [h3] at ht
    simp only at ht
    obtain ⟨a1, a2, _⟩ := tkM_ok h1
    obtain ⟨b1, b2, _⟩ := tkM_ok h2
    have hs2 := hs.mv (k := k2) (by omega) b2
    have c := blockM_ok hf h3 hs2
    simp only at c
    have hrest : s1.1 ≤ s'.1 ∧ s1.2.length ≤ s'.2.length := by
      split at ht
      · cases ht; exact ⟨Nat.le_refl _, Nat.le_refl _⟩
      · have := rawF_ok hf ht c.1
        have := rawF_grow ht
        omega
    obtain ⟨g, rfl⟩ : ∃ g, f' = g + 1 := ⟨f' - 1, by omega⟩
    rw [rawF]
    obtain ⟨g1, g2⟩ := tk_alike h h1
    obtain ⟨g3, g4⟩ := tk_alike h h2
    rcases Nat.lt_or_ge (8 * cs.length) k1 with hc | hc
    · rw [g2 hc]
      exact ⟨fun hk => by omega, fun _ => rfl⟩
    rw [g1 hc]
    simp only
    rcases Nat.lt_or_ge (8 * cs.length) k2 with hc | hc
    · rw [g4 hc]
      exact ⟨fun hk => by omega, fun _ => rfl⟩
    rw [g3 hc]
    simp only
    obtain ⟨g5, g6⟩ := block_alike h (most' := most') h3 hs2 hf (by omega) hc
    rcases Nat.lt_or_ge (8 * cs.length) s1.1 with hc1 | hc1
    · rw [g6 hc1]
      exact ⟨fun hk => by omega, fun _ => rfl⟩
    rw [g5 hc1]
    simp only
    split at ht
    · rename_i c1
      rw [if_pos c1]
      cases ht
      exact ⟨fun _ => rfl, fun hk => by omega⟩
    · rename_i c1
      rw [if_neg c1]
      exact rawF_alike h hf ht c.1 hm hc1 (by omega)
end Go.Proofs.Ythfnohbpdoklgaa
