/- LZW: what is packed as runs is read back; how long it is. -/
import Derived.Test.YtlbokiaolmflaaaLZ16
namespace Go.Proofs.Ytlbokiaolmflaaa
open Go Go.Vc Go.RowKit
set_option maxRecDepth 100000
set_option linter.unusedVariables false
set_option linter.unusedSimpArgs false

/-- bytes o, read as runs, are the bytes d -/
def DecR (o d : List Int) : Prop := ∀ (most : Int) (tail acc : List Int) (F : Nat), (o ++ tail).length ≤ F → ((acc.length + d.length : Nat) : Int) ≤ most → ∃ F', tail.length ≤ F' ∧ rl most F (o ++ tail) acc = rl most F' tail (acc ++ d)
theorem DecR.nil : DecR [] [] := fun most tail acc F h _ => ⟨F, h, by simp⟩
theorem DecR.comp {o d o' d' : List Int} (h : DecR o d) (k : DecR o' d') : DecR (o ++ o') (d ++ d') := fun most tail acc F hF hm => by
  rw [List.length_append] at hm
  obtain ⟨F1, h1, e1⟩ := h most (o' ++ tail) acc F (by rw [← List.append_assoc]; exact hF) (by omega)
  obtain ⟨F2, h2, e2⟩ := k most tail (acc ++ d) F1 h1 (by rw [List.length_append]; omega)
  exact ⟨F2, h2, by rw [List.append_assoc, e1, e2, List.append_assoc]⟩
theorem DecR.block {ds : List Int} (h1 : 1 ≤ ds.length) (h2 : ds.length ≤ 128) : DecR (((ds.length : Int) - 1) :: ds) ds := fun most tail acc F hF hm => by
  obtain ⟨G, rfl⟩ : ∃ G, F = G + 1 := ⟨F - 1, by simp at hF; omega⟩
  refine ⟨G, by simp at hF; omega, ?_⟩
  rw [List.cons_append, rl_cons, if_pos (by omega)]
  have e : ((ds.length : Int) - 1 + 1).toNat = ds.length := by omega
  rw [e, if_neg (by simp; omega), if_neg (by omega)]
  simp
theorem DecR.run {n : Nat} {x : Int} (h1 : 2 ≤ n) (h2 : n ≤ 128) : DecR [257 - (n : Int), x] (List.replicate n x) := fun most tail acc F hF hm => by
  obtain ⟨G, rfl⟩ : ∃ G, F = G + 1 := ⟨F - 1, by simp at hF; omega⟩
  refine ⟨G, by simp at hF; omega, ?_⟩
  rw [List.length_replicate] at hm
  have e : (257 - (257 - (n : Int))).toNat = n := by omega
  rw [List.cons_append, rl_cons, if_neg (by omega), if_neg (by omega)]
  simp only [List.cons_append, List.nil_append]
  rw [if_neg (by omega), e]
theorem flushL_dec : ∀ (F : Nat) (l : List Int), l.length ≤ F → DecR (flushL F l) l
  | 0, l, h => by
    have : l = [] := List.length_eq_zero_iff.1 (by omega)
    subst this; exact DecR.nil
  | F + 1, l, h => by
    rw [flushL]
    split
    · rename_i h0
      have : l = [] := List.length_eq_zero_iff.1 h0
      subst this; exact DecR.nil
    · rename_i h0
      have htl : (l.take (min l.length 128)).length = min l.length 128 := by rw [List.length_take]; omega
      have ih := flushL_dec F (l.drop (min l.length 128)) (by rw [List.length_drop]; omega)
      have hb := DecR.block (ds := l.take (min l.length 128)) (by omega) (by omega)
      rw [htl] at hb
      have := hb.comp ih
      rw [List.take_append_drop] at this
      exact this
theorem flushL_len : ∀ (F : Nat) (l : List Int), l.length ≤ F → (flushL F l).length = l.length + (l.length + 127) / 128
  | 0, l, h => by
    have : l = [] := List.length_eq_zero_iff.1 (by omega)
    subst this; rfl
  | F + 1, l, h => by
    rw [flushL]
    split
    · rename_i h0
      rw [h0]; rfl
    · rename_i h0
      have ih := flushL_len F (l.drop (min l.length 128)) (by rw [List.length_drop]; omega)
      rw [List.length_drop] at ih
      simp only [List.length_cons, List.length_append, List.length_take, ih]
      omega
theorem flushL_bs : ∀ (F : Nat) (l : List Int), Bs l → Bs (flushL F l)
  | 0, l, h => by simp [flushL, Bs]
  | F + 1, l, h => by
    rw [flushL]
    split
    · simp [Bs]
    · have ih := flushL_bs F _ (h.drop (min l.length 128))
      intro n hn
      rcases List.mem_cons.1 hn with rfl | hn
      · omega
      · rcases List.mem_append.1 hn with hn | hn
        · exact h.take _ n hn
        · exact ih n hn
theorem cnt_take (x : Int) : ∀ (k : Nat) (l : List Int), l.take (cnt x k l) = List.replicate (cnt x k l) x
  | 0, l => by simp [cnt]
  | k + 1, [] => by simp [cnt]
  | k + 1, y :: r => by
    rw [cnt]
    split
    · rename_i h
      subst h
      rw [List.take_succ_cons, cnt_take y k r, List.replicate_succ]
    · simp
theorem take_run {bs : List Int} {i : Nat} (h : i < bs.length) : bs.take (i + runAt bs i) = bs.take i ++ List.replicate (runAt bs i) (bs.getD i 0) := by
  have e : bs.take (i + runAt bs i) = bs.take i ++ (bs.drop i).take (runAt bs i) := by rw [List.take_add]
  rw [e, drop_cons_of h]
  unfold runAt
  rw [List.take_succ_cons, cnt_take, List.replicate_succ]
theorem small_false {n : Nat} {l : List Int} (h : small n l = false) (h1 : 1 ≤ n) : 2 ≤ n ∧ (n = 2 → l.length = 0) := by
  unfold small at h
  rcases Nat.lt_or_ge n 2 with h' | h'
  · exfalso
    have : n = 1 := by omega
    subst this; simp at h
  · refine ⟨h', fun e => ?_⟩
    subst e; simpa using h
theorem small_true {n : Nat} {l : List Int} (h : small n l = true) : n < 3 := by
  unfold small at h
  simp at h; exact h.1
theorem pkF_dec {bs : List Int} (hb : Bs bs) : ∀ (F i : Nat) (s : List Int × List Int) (d : List Int), bs.length ≤ F + i → i ≤ bs.length → DecR s.1 d → d ++ s.2 = bs.take i → Bs s.1 → s.1.length + s.2.length ≤ i + (i - s.2.length) / 128 →
    DecR (pkF bs F i s) bs ∧ Bs (pkF bs F i s) ∧ (pkF bs F i s).length ≤ bs.length + (bs.length + 127) / 128
  | 0, i, s, d, hF, hi, hd, he, hs, hlen => by
    have : i = bs.length := by omega
    subst this
    rw [List.take_length] at he
    have hl := congrArg List.length he
    rw [List.length_append] at hl
    have hs2 : Bs s.2 := fun n hn => hb n (by rw [← he]; exact List.mem_append_right _ hn)
    rw [pkF, List.length_append, flushL_len _ _ (Nat.le_refl _)]
    refine ⟨?_, hs.append (flushL_bs _ _ hs2), by omega⟩
    have := hd.comp (flushL_dec _ s.2 (Nat.le_refl _))
    rw [he] at this; exact this
  | F + 1, i, s, d, hF, hi, hd, he, hs, hlen => by
    have hl := congrArg List.length he
    rw [List.length_append, List.length_take] at hl
    rw [pkF]
    split
    · rename_i hlt
      obtain ⟨r1, r2, r3⟩ := runAt_le hlt
      have hs2 : Bs s.2 := fun n hn => hb n (List.mem_of_mem_take (by rw [← he]; exact List.mem_append_right _ hn))
      have hx : 0 ≤ bs.getD i 0 ∧ bs.getD i 0 ≤ 255 := by
        obtain ⟨v, h1, h2⟩ := getD_fit hb i
        omega
      have htr := take_run hlt
      unfold stepR
      split
      · rename_i hsm
        refine pkF_dec hb F _ _ d (by omega) r3 hd ?_ hs ?_
        · simp only
          rw [htr, ← he, List.append_assoc]
        · simp only [List.length_append, List.length_replicate]
          have h3 := small_true hsm
          have e : i + runAt bs i - (s.2.length + runAt bs i) = i - s.2.length := by omega
          rw [e]; omega
      · rename_i hsm
        have hsm : small (runAt bs i) s.2 = false := by simpa using hsm
        obtain ⟨h2, h3⟩ := small_false hsm r1
        refine pkF_dec hb F _ _ (d ++ s.2 ++ List.replicate (runAt bs i) (bs.getD i 0)) (by omega) r3 ((hd.comp (flushL_dec _ s.2 (Nat.le_refl _))).comp (DecR.run h2 r2)) ?_ ((hs.append (flushL_bs _ _ hs2)).append ?_) ?_
        · simp only
          rw [htr, ← he, List.append_nil]
        · intro n hn
          simp only [List.mem_cons, List.not_mem_nil, or_false] at hn
          rcases hn with rfl | rfl <;> omega
        · simp only [List.length_append, List.length_cons, List.length_nil, flushL_len _ _ (Nat.le_refl _)]
          by_cases h0 : s.2.length = 0
          · rw [h0] at hlen ⊢
            omega
          · have : runAt bs i ≠ 2 := fun e => h0 (h3 e)
            omega
    · rename_i hge
      have : i = bs.length := by omega
      subst this
      rw [List.take_length] at he
      have hs2 : Bs s.2 := fun n hn => hb n (by rw [← he]; exact List.mem_append_right _ hn)
      rw [List.length_append, flushL_len _ _ (Nat.le_refl _)]
      refine ⟨?_, hs.append (flushL_bs _ _ hs2), by omega⟩
      have := hd.comp (flushL_dec _ s.2 (Nat.le_refl _))
      rw [he] at this; exact this
theorem packR_all {bs : List Int} (hb : Bs bs) : DecR (packR bs) bs ∧ Bs (packR bs) ∧ (packR bs).length ≤ bs.length + (bs.length + 127) / 128 :=
  pkF_dec hb _ _ _ [] (by omega) (by omega) DecR.nil (by simp) (by simp [Bs]) (by simp)
theorem runR_pack {bs : List Int} {most : Int} (hb : Bs bs) (hm : (bs.length : Int) ≤ most) : runR (packR bs) most = (bs, 0) := by
  obtain ⟨F', h1, h2⟩ := (packR_all hb).1 (max most 0) [] [] (packR bs).length (by simp) (by simp; omega)
  rw [List.append_nil] at h2
  unfold runR
  rw [h2, rl_nil]; rfl
theorem cnt_rep (x : Int) : ∀ (k m : Nat), cnt x k (List.replicate m x) = min k m
  | 0, m => by simp [cnt]
  | k + 1, 0 => by simp [cnt]
  | k + 1, m + 1 => by
    rw [List.replicate_succ, cnt, if_pos rfl, cnt_rep x k m]; omega
theorem pkF_alike {x : Int} {n : Nat} : ∀ (F i : Nat) (s : List Int × List Int), n ≤ F + i → i ≤ n →
    ((s.2 = [] ∧ s.1.length ≤ 2 * ((i + 127) / 128) ∧ (i % 128 = 0 ∨ i = n)) ∨ (i = n ∧ s.2.length = 1 ∧ s.1.length + 2 ≤ 2 * ((i + 127) / 128))) → (pkF (List.replicate n x) F i s).length ≤ 2 * ((n + 127) / 128)
  | 0, i, s, hF, hi, h => by
    have : i = n := by omega
    subst this
    rw [pkF, List.length_append, flushL_len _ _ (Nat.le_refl _)]
    rcases h with ⟨h1, h2, _⟩ | ⟨_, h1, h2⟩
    · rw [h1]; simp; omega
    · rw [h1]; omega
  | F + 1, i, s, hF, hi, h => by
    rw [pkF]
    split
    · rename_i hlt
      rw [List.length_replicate] at hlt
      have hra : runAt (List.replicate n x) i = min 127 (n - (i + 1)) + 1 := by
        unfold runAt
        have : (List.replicate n x).getD i 0 = x := by simp [List.getD, List.getElem?_replicate, hlt]
        rw [this, List.drop_replicate, cnt_rep]
      rw [hra]
      rcases h with ⟨h1, h2, h3⟩ | ⟨h1, _⟩
      · obtain ⟨o, l⟩ := s
        simp only at h1 h2
        subst h1
        by_cases hr : min 127 (n - (i + 1)) + 1 = 1
        · refine pkF_alike F _ _ (by omega) (by omega) (.inr ⟨by omega, ?_, ?_⟩)
          · unfold stepR; rw [hr]; simp [small]
          · unfold stepR; rw [hr]; simp [small]; omega
        · have hsm : small (min 127 (n - (i + 1)) + 1) ([] : List Int) = false := by
            unfold small
            by_cases h2' : min 127 (n - (i + 1)) + 1 = 2
            · rw [h2']; rfl
            · have : ¬ min 127 (n - (i + 1)) + 1 < 3 := by omega
              simp [this]
          refine pkF_alike F _ _ (by omega) (by omega) (.inl ⟨?_, ?_, by omega⟩)
          · unfold stepR; rw [hsm]; rfl
          · unfold stepR; rw [hsm]
            simp [flushL]; omega
      · omega
    · rename_i hge
      rw [List.length_replicate] at hge
      have : i = n := by omega
      subst this
      rw [List.length_append, flushL_len _ _ (Nat.le_refl _)]
      rcases h with ⟨h1, h2, _⟩ | ⟨_, h1, h2⟩
      · rw [h1]; simp; omega
      · rw [h1]; omega
theorem packR_alike (n : Nat) (x : Int) : (packR (List.replicate n x)).length ≤ 2 * ((n + 127) / 128) := by
  unfold packR
  exact pkF_alike _ 0 _ (by simp) (by omega) (.inl ⟨rfl, by simp, .inl rfl⟩)
end Go.Proofs.Ytlbokiaolmflaaa
