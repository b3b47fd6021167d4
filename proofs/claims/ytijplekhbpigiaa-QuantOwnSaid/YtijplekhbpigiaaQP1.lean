/- Quant: which palettes may be: the document's words, and the plain law. -/
import Derived.Test.YtijplekhbpigiaaQL2
namespace Go.Proofs.Ytijplekhbpigiaa
open Go Go.Vc Go.RowKit Go.Qn
set_option maxRecDepth 100000
set_option linter.unusedVariables false
set_option linter.unusedSimpArgs false
set_option maxHeartbeats 4000000

/-! ## The plain law -/
def fullN (xs : List Int) : Nat → List Co
  | 0 => []
  | n + 1 => if clearC (colAt xs n) then fullN xs n else addC (fullN xs n) (eightC (colAt xs n))
theorem allN_pre {L : List Co} (c : Co) : ∀ n, n ≤ L.length → allN (L ++ [c]) n = allN L n
  | 0, _ => rfl
  | n + 1, h => by
    have ih := allN_pre (L := L) c n (by omega)
    have e : (L ++ [c]).getD n zeroC = L.getD n zeroC := by
      have : n < L.length := by omega
      rw [List.getD, List.getElem?_append_left this]; rfl
    unfold allN
    rw [ih, e]
theorem mem_addC' {l : List Co} {x c : Co} (h : x ∈ l) : x ∈ addC l c := by unfold addC; split <;> simp [h]
theorem allN_mem {L : List Co} : ∀ n j, j < n → clearC (L.getD j zeroC) = false → eightC (L.getD j zeroC) ∈ allN L n
  | 0, j, h, _ => by omega
  | n + 1, j, h, hc => by
    rcases Nat.lt_or_ge j n with g | g
    · have ih := allN_mem n j g hc
      unfold allN
      split
      · exact ih
      · exact mem_addC' ih
    · obtain rfl : j = n := by omega
      unfold allN
      rw [if_neg (by rw [hc]; exact Bool.false_ne_true)]
      exact mem_addC _ _
theorem all_full {xs : List Int} : ∀ n, allN (distX xs n) (distX xs n).length = fullN xs n
  | 0 => rfl
  | n + 1 => by
    have ih := all_full (xs := xs) n
    rw [distX_succ]
    by_cases hm : colAt xs n ∈ distX xs n
    · rw [addC_old hm, ih, fullN]
      split
      · rfl
      · rename_i hcl
        obtain ⟨j, hj, he⟩ := List.getElem_of_mem hm
        have := allN_mem (L := distX xs n) (distX xs n).length j hj (by simp only [List.getD, List.getElem?_eq_getElem hj, Option.getD_some, he]; simpa using hcl)
        simp only [List.getD, List.getElem?_eq_getElem hj, Option.getD_some, he] at this
        rw [ih] at this
        rw [addC_old this]
    · rw [addC_new hm, List.length_append]
      show allN _ ((distX xs n).length + 1) = _
      unfold allN
      rw [allN_pre _ _ (Nat.le_refl _), ih]
      have e : (distX xs n ++ [colAt xs n]).getD (distX xs n).length zeroC = colAt xs n := by simp [List.getD]
      rw [e, fullN]
def metN (xs : List Int) (most : Nat) : Nat → List Co
  | 0 => []
  | n + 1 => if clearC (colAt xs n) = false ∧ (metN xs most n).length ≤ most then addC (metN xs most n) (eightC (colAt xs n)) else metN xs most n
theorem met_full {xs : List Int} {most : Nat} : ∀ n, metN xs most n = (fullN xs n).take (most + 1)
  | 0 => by simp [metN, fullN]
  | n + 1 => by
    have ih := met_full (xs := xs) (most := most) n
    unfold metN fullN
    rw [ih]
    by_cases hc : clearC (colAt xs n) = true
    · rw [if_neg (by simp [hc]), if_pos hc]
    · have hc' : clearC (colAt xs n) = false := by simpa using hc
      rw [if_neg hc]
      rcases Nat.lt_or_ge most (fullN xs n).length with g | g
      · rw [if_neg (by rw [List.length_take]; omega)]
        unfold addC
        split
        · rfl
        · rw [List.take_append_of_le_length (by omega)]
      · have e : (fullN xs n).take (most + 1) = fullN xs n := List.take_of_length_le (by omega)
        rw [e, if_pos ⟨hc', g⟩]
        have := addC_length (fullN xs n) (eightC (colAt xs n))
        rw [List.take_of_length_le (by omega)]
theorem fullN_mem {xs : List Int} : ∀ n c, c ∈ fullN xs n → ∃ j, j < n ∧ clearC (colAt xs j) = false ∧ c = eightC (colAt xs j)
  | 0, c, h => by cases h
  | n + 1, c, h => by
    unfold fullN at h
    split at h
    · obtain ⟨j, h1, h2⟩ := fullN_mem n c h; exact ⟨j, by omega, h2⟩
    · rename_i hcl
      unfold addC at h
      split at h
      · obtain ⟨j, h1, h2⟩ := fullN_mem n c h; exact ⟨j, by omega, h2⟩
      · rcases List.mem_append.1 h with h | h
        · obtain ⟨j, h1, h2⟩ := fullN_mem n c h; exact ⟨j, by omega, h2⟩
        · simp at h; exact ⟨n, by omega, by simpa using hcl, h⟩
theorem fullN_nodup {xs : List Int} : ∀ n, (fullN xs n).Nodup
  | 0 => by simp [fullN]
  | n + 1 => by
    have ih := fullN_nodup (xs := xs) n
    unfold fullN
    split
    · exact ih
    · unfold addC
      split
      · exact ih
      · rename_i hm
        rw [List.nodup_append]
        exact ⟨ih, by simp, fun a ha b hb => by simp at hb; rw [hb]; intro e; exact hm (e ▸ ha)⟩
/-- boxes hold the colours, each once -/
theorem spN_perm {A : List Co} : ∀ i, i < A.length → (spN A i).flatten.Perm A
  | 0, _ => by simp [spN]
  | i + 1, h => by
    have ih := spN_perm (A := A) i (by omega)
    obtain ⟨hj, h2⟩ := (spN_ok (A := A) i (by omega)).big (by omega) (by omega)
    refine List.Perm.trans ?_ ih
    show (cutB (spN A i)).flatten.Perm _
    generalize hB : spN A i = B at *
    unfold cutB
    generalize mxi (B.map List.length) B.length = j at *
    have eg : B.getD j [] = B[j] := by simp [List.getD, hj]
    simp only [eg]
    rw [List.flatten_append]
    have e1 : [(stab (ax (lgV B[j])) B[j]).take (B[j].length / 2), (stab (ax (lgV B[j])) B[j]).drop (B[j].length / 2)].flatten = stab (ax (lgV B[j])) B[j] := by simp
    rw [e1]
    refine (List.Perm.append_left _ (stab_perm _ _)).trans ?_
    rw [List.eraseIdx_eq_take_drop_succ, List.flatten_append]
    have e3 : B = B.take j ++ B[j] :: B.drop (j + 1) := by rw [← List.drop_eq_getElem_cons hj, List.take_append_drop]
    have e2 : B.flatten = (B.take j).flatten ++ (B[j] ++ (B.drop (j + 1)).flatten) :=
      (congrArg List.flatten e3).trans (by rw [List.flatten_append, List.flatten_cons])
    rw [e2, List.append_assoc]
    exact List.Perm.append_left _ List.perm_append_comm
theorem mid_mem {l : List Co} (h : l ≠ []) : midC l ∈ l := by
  unfold midC
  have := List.length_pos_iff.2 h
  exact getD_mem (by omega)
theorem mids_nodup : ∀ {B : List (List Co)}, B.flatten.Nodup → (∀ l, l ∈ B → l ≠ []) → (B.map midC).Nodup
  | [], _, _ => by simp
  | l :: B, h, hne => by
    rw [List.flatten_cons, List.nodup_append] at h
    obtain ⟨h1, h2, h3⟩ := h
    rw [List.map_cons, List.nodup_cons]
    refine ⟨fun hm => ?_, mids_nodup h2 fun x hx => hne x (by simp [hx])⟩
    obtain ⟨x, hx, he⟩ := List.mem_map.1 hm
    have a := mid_mem (hne l (by simp))
    have b := mid_mem (hne x (by simp [hx]))
    exact h3 _ a _ (List.mem_flatten.2 ⟨x, hx, b⟩) he.symm
theorem pal_many {xs : List Int} {n m : Nat} (h : m + 1 < (fullN xs n).length) :
    ((spN (fullN xs n) m).map midC).length = m + 1 ∧ ((spN (fullN xs n) m).map midC).Nodup ∧ ∀ c, c ∈ (spN (fullN xs n) m).map midC → ∃ j, j < n ∧ clearC (colAt xs j) = false ∧ c = eightC (colAt xs j) := by
  have hk := spN_ok (A := fullN xs n) m (by omega)
  have hp := spN_perm (A := fullN xs n) m (by omega)
  refine ⟨by rw [List.length_map, hk.len], mids_nodup (hp.symm.nodup (fullN_nodup n)) hk.ne, fun c hc => ?_⟩
  obtain ⟨l, hl, rfl⟩ := List.mem_map.1 hc
  exact fullN_mem n _ (hp.subset (List.mem_flatten.2 ⟨l, hl, mid_mem (hk.ne l hl)⟩))
end Go.Proofs.Ytijplekhbpigiaa
