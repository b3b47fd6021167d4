/- Quant: eight-bit colours, clear ones; what a palette is. -/
import Derived.Test.YtijplekhbpigiaaQS6
namespace Go.Proofs.Ytijplekhbpigiaa
open Go Go.Vc Go.RowKit Go.Qn
set_option maxRecDepth 100000
set_option linter.unusedVariables false
set_option linter.unusedSimpArgs false

def Byt (x : Int) : Prop := 0 ≤ x ∧ x ≤ 65535
def CoOk (c : Co) : Prop := Byt c.1 ∧ Byt c.2.1 ∧ Byt c.2.2.1 ∧ Byt c.2.2.2
def PxOk (xs : List Int) : Prop := ∀ x, x ∈ xs → Byt x
theorem getD_ok {xs : List Int} (h : PxOk xs) (i : Nat) : Byt (xs.getD i 0) := by
  rcases Nat.lt_or_ge i xs.length with h' | h'
  · have e : xs.getD i 0 = xs[i] := by simp [List.getD, h']
    rw [e]; exact h _ (List.getElem_mem h')
  · have e : xs.getD i 0 = 0 := by simp [List.getD, h']
    rw [e]; exact ⟨by omega, by omega⟩
theorem colAt_ok {xs : List Int} (h : PxOk xs) (k : Nat) : CoOk (colAt xs k) := ⟨getD_ok h _, getD_ok h _, getD_ok h _, getD_ok h _⟩
def clearC (c : Co) : Bool := decide (c.2.2.2 < 32768)
def eightC (c : Co) : Co := (roundV c.1, roundV c.2.1, roundV c.2.2.1, 65535)
theorem round257 {v : Int} (h : Byt v) : roundV v = 257 * dnV v 255 := by
  have := dnV_range h.1 h.2 (most := 255) (by omega)
  unfold roundV upV
  omega
theorem round_ok {v : Int} (h : Byt v) : Byt (roundV v) := by
  have := dnV_range h.1 h.2 (most := 255) (by omega)
  rw [round257 h]; exact ⟨by omega, by omega⟩
theorem eight_ok {c : Co} (h : CoOk c) : CoOk (eightC c) := ⟨round_ok h.1, round_ok h.2.1, round_ok h.2.2.1, by show 0 ≤ (65535 : Int); omega, by show (65535 : Int) ≤ 65535; omega⟩
theorem clear_spec {w : World} {c : Co} {R : Ending → World → Prop} (hR : ∀ w', Ext w w' → R (.returned (.bool (clearC c))) w') : Calls P F.quant_clear #[.agg (co c).toArray] w R := by
  refine calls_quant_clear _ _ _ _ _ _ ?_
  intro k1 hk1 w1 hL
  exact hR w1 (hL.ext (by simpa using hk1))
theorem efn_spec {w : World} {v : Int} {R : Ending → World → Prop} (h : Byt v) (hR : R (.returned (u16 (roundV v))) w) : Calls P F.quant_eight_fn1 #[u16 v] w R := by
  refine calls_quant_eight_fn1 _ _ _ ?_
  unfold vc_quant_eight_fn1
  refine Down_spec h.1 h.2 ⟨_, _, rfl, ?_⟩
  have := dnV_range h.1 h.2 (most := 255) (by omega)
  rw [w64 (x := 257 * dnV v 255) (by omega) (by omega), wu16 (by omega) (by omega), ← round257 h]
  exact hR
theorem eight_spec {w : World} {c : Co} {R : Ending → World → Prop} (h : CoOk c) (hR : ∀ w', Ext w w' → R (.returned (.agg (co (eightC c)).toArray)) w') : Calls P F.quant_eight #[.agg (co c).toArray] w R := by
  refine calls_quant_eight _ _ _ _ _ _ ?_
  intro k1 hk1 k2 hk2 w1 hL1
  have hb : ∀ b, b ∈ [k2, k1] → w.heap.size ≤ b := by simp; omega
  have hE1 := hL1.ext hb
  refine efn_spec h.1 ⟨_, rfl, (Ext.refl _).keep _, Keeps.refl _, efn_spec h.2.1 ⟨_, rfl, (Ext.refl _).keep _, Keeps.refl _, efn_spec h.2.2.1 ⟨_, rfl, (Ext.refl _).keep _, fun w5 hL5 => ?_⟩⟩⟩
  exact hR w5 (hE1.step hL5.chg hb)
/-- eight-bit colours, each once, none clear -/
def allN (l : List Co) : Nat → List Co
  | 0 => []
  | n + 1 => if clearC (l.getD n zeroC) then allN l n else addC (allN l n) (eightC (l.getD n zeroC))
theorem allN_length (l : List Co) : ∀ n, (allN l n).length ≤ n
  | 0 => by simp [allN]
  | n + 1 => by
    have := allN_length l n
    unfold allN
    split
    · omega
    · have := addC_length (allN l n) (eightC (l.getD n zeroC)); omega
/-- a box cut in two -/
def cutB (B : List (List Co)) : List (List Co) :=
  let j := mxi (B.map List.length) B.length
  let l := B.getD j []
  let s := stab (ax (lgV l)) l
  B.eraseIdx j ++ [s.take (l.length / 2), s.drop (l.length / 2)]
def spN (A : List Co) : Nat → List (List Co)
  | 0 => [A]
  | i + 1 => cutB (spN A i)
def midC (l : List Co) : Co := l.getD (l.length / 2) zeroC
def palV (A : List Co) (most : Int) : List Co := if (A.length : Int) ≤ most then A else (spN A (most.toNat - 1)).map midC
def palR (W H : Int) (xs : List Int) (most : Int) : List Co × Int :=
  if good W H xs then (if most < 1 ∨ 256 < most then ([], 2) else (palV (allN (distX xs (W * H).toNat) (distX xs (W * H).toNat).length) most, 0)) else ([], 6)
theorem distX_ok {xs : List Int} (h : PxOk xs) : ∀ n c, c ∈ distX xs n → CoOk c
  | 0, c, hc => by cases hc
  | n + 1, c, hc => by
    rw [distX_succ] at hc
    unfold addC at hc
    split at hc
    · exact distX_ok h n c hc
    · rcases List.mem_append.1 hc with hc | hc
      · exact distX_ok h n c hc
      · simp at hc; rw [hc]; exact colAt_ok h n
/-! ## Boxes that are cut -/
theorem stab_len (key : Co → Int) (l : List Co) : (stab key l).length = l.length := (stab_perm key l).length_eq
theorem sum_erase : ∀ (L : List Nat) (j : Nat), (h : j < L.length) → (L.eraseIdx j).sum + L[j] = L.sum
  | [], j, h => by simp at h
  | a :: L, 0, h => by simp [Nat.add_comm]
  | a :: L, j + 1, h => by
    have := sum_erase L j (by simpa using h)
    simp only [List.eraseIdx_cons_succ, List.sum_cons, List.getElem_cons_succ]; omega
theorem mxi_max (L : List Nat) : ∀ i j, j < i → L.getD j 0 ≤ L.getD (mxi L i) 0
  | 0, j, h => by omega
  | i + 1, j, h => by
    unfold mxi
    split
    · rename_i hg
      rcases Nat.lt_or_ge j i with h' | h'
      · have := mxi_max L i j h'; omega
      · rw [show j = i by omega]; exact Nat.le_refl _
    · rename_i hg
      rcases Nat.lt_or_ge j i with h' | h'
      · exact mxi_max L i j h'
      · rw [show j = i by omega]; omega
theorem sum_le_one : ∀ (L : List Nat), (∀ j, j < L.length → L.getD j 0 ≤ 1) → L.sum ≤ L.length
  | [], _ => by simp
  | a :: L, h => by
    have h0 := h 0 (by simp)
    have := sum_le_one L fun j hj => by simpa using h (j + 1) (by simpa using hj)
    simp at h0
    simp only [List.sum_cons, List.length_cons]; omega
/-- boxes: as many as cut, none empty, together as many colours -/
structure BxOk (A : List Co) (B : List (List Co)) (n : Nat) : Prop where
  len : B.length = n
  sum : (B.map List.length).sum = A.length
  ne : ∀ l, l ∈ B → l ≠ []
theorem BxOk.big {A : List Co} {B : List (List Co)} {n : Nat} (h : BxOk A B n) (hn : n < A.length) (h0 : 0 < n) : mxi (B.map List.length) B.length < B.length ∧ 2 ≤ (B.getD (mxi (B.map List.length) B.length) []).length := by
  have hm := mxi_lt (B.map List.length) B.length
  have hl := h.len
  have hlt : mxi (B.map List.length) B.length < B.length := by omega
  refine ⟨hlt, ?_⟩
  rcases Nat.lt_or_ge 1 (B.getD (mxi (B.map List.length) B.length) []).length with h' | h'
  · exact h'
  · exfalso
    have e : (B.map List.length).getD (mxi (B.map List.length) B.length) 0 = (B.getD (mxi (B.map List.length) B.length) []).length := by simp [List.getD, hlt]
    have := sum_le_one (B.map List.length) fun j hj => by
      have := mxi_max (B.map List.length) B.length j (by simpa using hj)
      omega
    rw [h.sum, List.length_map] at this
    omega
theorem BxOk.cut {A : List Co} {B : List (List Co)} {n : Nat} (h : BxOk A B n) (hn : n < A.length) (h0 : 0 < n) : BxOk A (cutB B) (n + 1) := by
  obtain ⟨hj, h2⟩ := h.big hn h0
  unfold cutB
  generalize hjj : mxi (B.map List.length) B.length = j at *
  have eg : B.getD j [] = B[j] := by simp [List.getD, hj]
  simp only [eg] at h2 ⊢
  have hl := h.len
  refine ⟨?_, ?_, fun l hl => ?_⟩
  · rw [List.length_append, List.length_eraseIdx]; simp [hj]; omega
  · have := sum_erase (B.map List.length) j (by simpa using hj)
    rw [h.sum] at this
    simp only [List.map_append, List.sum_append, List.map_cons, List.map_nil, List.sum_cons, List.sum_nil, List.length_take, List.length_drop, stab_len]
    have e2 : (B.eraseIdx j).map List.length = (B.map List.length).eraseIdx j := by rw [List.eraseIdx_eq_take_drop_succ, List.eraseIdx_eq_take_drop_succ]; simp
    rw [e2]
    simp only [List.getElem_map] at this
    omega
  · rcases List.mem_append.1 hl with hl | hl
    · exact h.ne l (List.mem_of_mem_eraseIdx hl)
    · simp only [List.mem_cons, List.not_mem_nil, or_false] at hl
      intro e
      rcases hl with hl | hl
      · have := congrArg List.length hl; rw [e, List.length_take, stab_len] at this; simp at this; omega
      · have := congrArg List.length hl; rw [e, List.length_drop, stab_len] at this; simp at this; omega
theorem spN_ok {A : List Co} : ∀ i, i < A.length → BxOk A (spN A i) (i + 1)
  | 0, h => ⟨rfl, by simp [spN], fun l hl => by simp [spN] at hl; rw [hl]; intro e; rw [e] at h; simp at h⟩
  | i + 1, h => (spN_ok i (by omega)).cut h (by omega)
end Go.Proofs.Ytijplekhbpigiaa
