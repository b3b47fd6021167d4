/- Inflate: a decoder is made. -/
import Derived.Test.YthfnohbpdoklgaaIX1
namespace Go.Proofs.Ythfnohbpdoklgaa
open Go Go.Vc Go.RowKit
set_option maxRecDepth 100000
set_option linter.unusedVariables false
set_option linter.unusedSimpArgs false
set_option maxHeartbeats 2000000

def fsJ (l : List Nat) (n i : Nat) : Nat := if 1 ≤ i ∧ i ≤ n then fsL l i else 0
def stJ (l : List Nat) (n i : Nat) : Nat := if 1 ≤ i ∧ i ≤ n then (tabU l (i - 1)).length else 0
def cntJ (l : List Nat) (n j i : Nat) : Nat := if 1 ≤ i ∧ i < n then (symsL l i).length else if i = n ∧ 1 ≤ n then (symsU l n j).length else 0
def deepJ (l : List Nat) (n j : Nat) : Nat := if n = 0 then 0 else match symsU l n j with | [] => deepU l (n - 1) | _ => n
/-- a decoder's cells, after the lengths below n, and of length n the first j symbols -/
def decG (l : List Nat) (n j : Nat) (p : Option Addr) (len cap : Nat) (i : Nat) : Value :=
  if i < 17 then i64 (fsJ l n i : Nat) else if i < 34 then i64 (stJ l n (i - 17) : Nat) else if i < 51 then i64 (cntJ l n j (i - 34) : Nat) else if i = 51 then .slice p len cap else i64 (deepJ l n j : Nat)
theorem deepJ_full (l : List Nat) (n : Nat) : deepJ l n l.length = deepU l n := by
  cases n with
  | zero => rfl
  | succ n =>
    rw [deepJ, if_neg (by omega), deepU]
    unfold symsL
    cases symsU l (n + 1) l.length <;> rfl
theorem deepJ_zero (l : List Nat) (n : Nat) : deepJ l (n + 1) 0 = deepU l n := by unfold deepJ; rw [if_neg (by omega)]; rfl
theorem deepJ_miss {l : List Nat} {n j : Nat} (h : l.getD j 0 ≠ n) : deepJ l n (j + 1) = deepJ l n j := by unfold deepJ; rw [symsU_miss h]
theorem deepJ_hit {l : List Nat} {n j : Nat} (h : l.getD j 0 = n) : deepJ l n (j + 1) = n := by
  unfold deepJ
  rw [symsU_hit h]
  split
  · omega
  · cases hs : symsU l n j <;> rfl
theorem cntJ_step (l : List Nat) (n i : Nat) : cntJ l (n + 1) 0 i = cntJ l n l.length i := by
  unfold cntJ
  by_cases h1 : 1 ≤ i ∧ i < n
  · rw [if_pos (by omega), if_pos h1]
  · rw [if_neg h1]
    by_cases h2 : i = n ∧ 1 ≤ n
    · obtain ⟨rfl, h3⟩ := h2
      rw [if_pos (by omega), if_pos ⟨rfl, h3⟩]; rfl
    · rw [if_neg h2, if_neg (by omega)]
      split <;> rfl
theorem cntJ_miss {l : List Nat} {n j : Nat} (h : l.getD j 0 ≠ n) (i : Nat) : cntJ l n (j + 1) i = cntJ l n j i := by unfold cntJ; rw [symsU_miss h]
theorem cntJ_hit {l : List Nat} {n j : Nat} (h : l.getD j 0 = n) (hn : 1 ≤ n) (i : Nat) : cntJ l n (j + 1) i = cntJ l n j i + if i = n then 1 else 0 := by
  unfold cntJ
  rw [symsU_hit h]
  by_cases e : i = n
  · subst e
    rw [if_neg (by omega), if_pos ⟨rfl, hn⟩, if_neg (by omega), if_pos ⟨rfl, hn⟩, if_pos rfl]; simp
  · rw [if_neg e]
    by_cases h1 : 1 ≤ i ∧ i < n
    · rw [if_pos h1, if_pos h1]; rfl
    · rw [if_neg h1, if_neg h1, if_neg (fun h2 => e h2.1), if_neg (fun h2 => e h2.1)]
theorem dec_a {l : List Nat} {n j i len cap : Nat} {p : Option Addr} (h : i < 17) : decG l n j p len cap i = i64 (fsJ l n i : Nat) := by unfold decG; rw [if_pos h]
theorem dec_b {l : List Nat} {n j i len cap : Nat} {p : Option Addr} (h : i < 17) : decG l n j p len cap (17 + i) = i64 (stJ l n i : Nat) := by
  unfold decG; rw [if_neg (by omega), if_pos (by omega), Nat.add_sub_cancel_left]
theorem dec_c {l : List Nat} {n j i len cap : Nat} {p : Option Addr} (h : i < 17) : decG l n j p len cap (34 + i) = i64 (cntJ l n j i : Nat) := by
  unfold decG; rw [if_neg (by omega), if_neg (by omega), if_pos (by omega), Nat.add_sub_cancel_left]
theorem dec_d {l : List Nat} {n j len cap : Nat} {p : Option Addr} : decG l n j p len cap 51 = .slice p len cap := rfl
theorem dec_e {l : List Nat} {n j len cap : Nat} {p : Option Addr} : decG l n j p len cap 52 = i64 (deepJ l n j : Nat) := rfl
/-- a place among a decoder's cells -/
theorem dec_place {i : Nat} (h : i < 53) : i < 17 ∨ (∃ k, k < 17 ∧ i = 17 + k) ∨ (∃ k, k < 17 ∧ i = 34 + k) ∨ i = 51 ∨ i = 52 := by
  rcases Nat.lt_or_ge i 17 with g | g
  · exact .inl g
  · rcases Nat.lt_or_ge i 34 with g2 | g2
    · exact .inr (.inl ⟨i - 17, by omega, by omega⟩)
    · rcases Nat.lt_or_ge i 51 with g3 | g3
      · exact .inr (.inr (.inl ⟨i - 34, by omega, by omega⟩))
      · exact .inr (.inr (.inr (by omega)))
/-- a decoder, all of it in blocks of D -/
structure DecAt (w : World) (kd : Nat) (D : Nat → Prop) (l : List Nat) : Prop where
  obj : ∃ p cap, Cs w kd (rowF 53 (decG l 16 l.length p (tabU l 16).length cap)) ∧ OwnS D w p (tabU l 16).length cap 1 (ni (tabU l 16))
  own : D kd
  lens : Lens l
theorem DecAt.chg {w w' : World} {kd : Nat} {D Z : Nat → Prop} {l : List Nat} (h : DecAt w kd D l) (hc : Chg Z w w') (hz : ∀ b, D b → b < w.heap.size → ¬ Z b) : DecAt w' kd D l := by
  obtain ⟨p, cap, h1, h2⟩ := h.obj
  exact ⟨⟨p, cap, h1.chg hc (hz kd h.own h1.lt), h2.chg hc hz⟩, h.own, h.lens⟩
theorem DecAt.mono {w : World} {kd : Nat} {D E : Nat → Prop} {l : List Nat} (h : DecAt w kd D l) (hE : ∀ b, D b → b < w.heap.size → E b) : DecAt w kd E l := by
  obtain ⟨p, cap, h1, h2⟩ := h.obj
  exact ⟨⟨p, cap, h1, h2.mono hE⟩, hE kd h.own h1.lt, h.lens⟩
theorem shl_2 {x : Int} (h0 : 0 ≤ x) (h1 : x ≤ 2 ^ 40) : shiftZ .shl .i64 x 1 = 2 * x := by
  rw [shiftZ_shl (by omega) (by decide)]
  show IntKind.i64.wrap (x * 2 ^ 1) = 2 * x
  rw [w64 (by omega) (by omega)]; omega
theorem nx_small {l : List Nat} (h : Lens l) {n : Nat} (hn : n ≤ 17) : nxL l n ≤ 2 ^ 30 := by
  have h1 := nx_le l n
  have h2 := h.few
  have h3 : l.length * 2 ^ n ≤ 4096 * 2 ^ 17 := Nat.mul_le_mul h2 (Nat.pow_le_pow_right (by omega) hn)
  omega
theorem New_spec {N : Nat} {w : World} {p : Option Addr} {len cap : Nat} {l : List Nat} {R : Ending → World → Prop} (h : Sl N w p (ni l)) (hl : l.length = len) (hk : Lens l) (h0 : 0 ≤ roomL l)
    (hR : ∀ kd w', Ext w w' → DecAt w' kd (fun i => w.heap.size ≤ i) l → R (.returned (.tuple #[.pointer (some ⟨kd, 0, none⟩), i64 0])) w') : Calls P F.prefix_New #[.slice p len cap] w R := by
  subst hl
  have hfew := hk.few
  refine calls_prefix_New _ _ _ _ _ ?_
  refine checked_spec h rfl hk h0 ⟨_, rfl, brB_f rfl fun k1 w2 hn2 => ?_⟩
  have hk1 : k1 = w.heap.size := hn2.1
  have hs2 := hn2.size
  have hC2 : Cs w2 k1 (rowF 53 (decG l 0 l.length none 0 0)) := hn2.cs
  refine ⟨fun vs u => ∃ (n : Nat) (p : Option Addr) (cap : Nat), n ≤ 16 ∧ vs = [i64 (nxL l n : Nat), i64 (n + 1 : Nat)] ∧ Ext w u ∧ Cs u k1 (rowF 53 (decG l n l.length p (tabU l n).length cap)) ∧
      OwnS (fun i => w.heap.size ≤ i ∧ i ≠ k1) u p (tabU l n).length cap 1 (ni (tabU l n)), fun vs _ => match vs with | [_, .int _ n] => (17 - n).toNat | _ => 0, ⟨0, none, 0, by omega, rfl, hn2.ext, hC2, OwnS.nil _ _ _ _⟩, fun n2 n3 w3 hI => ?_⟩
  obtain ⟨n, q, qc, hn16, hv, hE3, hC3, hO3⟩ := hI
  simp only [List.cons.injEq, Value.int.injEq, true_and, and_true] at hv
  obtain ⟨rfl, rfl⟩ := hv
  have hs3 := hE3.size
  have hk13 := hC3.lt
  refine brB_i (fun hlt => ?_) fun hge => ?_
  rotate_left
  · have : n = 16 := by have := of_decide_eq_false hge; omega
    subst this
    exact hR k1 w3 hE3 ⟨⟨q, qc, hC3, hO3.mono fun i hi _ => hi.1⟩, by omega, hk⟩
  have hn : n < 16 := by have := of_decide_eq_true hlt; omega
  have hnx := nx_small hk (n := n) (by omega)
  have hnx1 := nx_small hk (n := n + 1) (by omega)
  have hshl : shiftZ .shl .i64 ((nxL l n : Nat) : Int) 1 = ((fsL l (n + 1) : Nat) : Int) := by
    rw [shl_2 (by omega) (by omega)]; simp [fsL]
  rw [hshl]
  simp only [loc_add, Int.toNat_natCast, Nat.mul_one, Nat.zero_add]
  have hd3 := hC3.drew
  have g51 : (rowF 53 (decG l n l.length q (tabU l n).length qc))[51]? = some (.slice q (tabU l n).length qc) := rowF_get (by omega)
  -- the two stores
  have sA : Cs (setCells w3.drew ⟨k1, n + 1, none⟩ [i64 (fsL l (n + 1) : Nat)] 0) k1 (rowF 53 fun i => if i = n + 1 then i64 (fsL l (n + 1) : Nat) else decG l n l.length q (tabU l n).length qc i) := by
    have := hd3.set1 (off := n + 1) (v := i64 (fsL l (n + 1) : Nat)) (by rw [rowF_length]; omega)
    rwa [rowF_set (H := fun i => if i = n + 1 then i64 (fsL l (n + 1) : Nat) else decG l n l.length q (tabU l n).length qc i) (by simp) (fun j _ hj => by simp [hj])] at this
  have sB : Cs (setCells (setCells w3.drew ⟨k1, n + 1, none⟩ [i64 (fsL l (n + 1) : Nat)] 0) ⟨k1, 17 + (n + 1), none⟩ [i64 ((tabU l n).length : Nat)] 0) k1 (rowF 53 (decG l (n + 1) 0 q (tabU l n).length qc)) := by
    have := sA.set1 (off := 17 + (n + 1)) (v := i64 ((tabU l n).length : Nat)) (by rw [rowF_length]; omega)
    rwa [rowF_set (H := decG l (n + 1) 0 q (tabU l n).length qc) (by rw [dec_b (by omega)]; simp [stJ]) (fun j hj hne => ?_)] at this
    show decG l (n + 1) 0 q (tabU l n).length qc j = if j = n + 1 then i64 (fsL l (n + 1) : Nat) else decG l n l.length q (tabU l n).length qc j
    rcases dec_place hj with g | ⟨i, g, rfl⟩ | ⟨i, g, rfl⟩ | rfl | rfl
    · rw [dec_a g, dec_a g]
      unfold fsJ
      by_cases e : j = n + 1
      · subst e; rw [if_pos (by omega), if_pos rfl]
      · rw [if_neg e]
        by_cases e2 : 1 ≤ j ∧ j ≤ n
        · rw [if_pos (by omega), if_pos e2]
        · rw [if_neg (by omega), if_neg e2]
    · rw [if_neg (by omega), dec_b g, dec_b g]
      unfold stJ
      by_cases e2 : 1 ≤ i ∧ i ≤ n
      · rw [if_pos (by omega), if_pos e2]
      · rw [if_neg (by omega), if_neg e2]
    · rw [if_neg (by omega), dec_c g, dec_c g, cntJ_step]
    · rw [if_neg (by omega)]; rfl
    · rw [if_neg (by omega), dec_e, dec_e, deepJ_zero, deepJ_full]
  have cA := Chg.setCells w3.drew ⟨k1, n + 1, none⟩ [i64 (fsL l (n + 1) : Nat)] 0
  have cB := Chg.setCells (setCells w3.drew ⟨k1, n + 1, none⟩ [i64 (fsL l (n + 1) : Nat)] 0) ⟨k1, 17 + (n + 1), none⟩ [i64 ((tabU l n).length : Nat)] 0
  have cAB := (Chg.refl (fun i => i = k1) w3).drew.trans (cA.trans cB fun _ h _ => h) fun _ h _ => h
  refine ⟨_, _, _, hd3.cell g51, by omega, by omega, ⟨_, hd3.cell (rowF_get (by omega))⟩, hd3.frozen _, by omega, by omega, ⟨_, sA.cell (rowF_get (by omega))⟩, sA.frozen _, ?_⟩
  refine ⟨fun vs u => ∃ (j : Nat) (p : Option Addr) (cap : Nat), j ≤ l.length ∧ vs = [i64 (j : Nat)] ∧ Ext w u ∧ Cs u k1 (rowF 53 (decG l (n + 1) j p ((tabU l n).length + (symsU l (n + 1) j).length) cap)) ∧
      OwnS (fun i => w.heap.size ≤ i ∧ i ≠ k1) u p ((tabU l n).length + (symsU l (n + 1) j).length) cap 1 (ni (tabU l n ++ symsU l (n + 1) j)), fun vs _ => match vs with | [.int _ n] => (l.length - n).toNat | _ => 0, ⟨0, q, qc, by omega, rfl, hE3.step cAB (fun i hi => by omega), sB, ?_⟩, fun n4 w4 hI => ?_⟩
  · rw [symsU_zero, List.append_nil]
    exact hO3.chg cAB fun b hb _ hz => hb.2 hz
  obtain ⟨j, q4, qc4, hj, hv, hE4, hC4, hO4⟩ := hI
  obtain rfl : n4 = (j : Nat) := by simpa using hv
  have hs4 := hE4.size
  have hk14 := hC4.lt
  have htl := tabU_len l n
  have hsl := symsU_len l (n + 1) j
  have htl2 : n * l.length ≤ 16 * 4096 := Nat.mul_le_mul (by omega) hfew
  refine brB_i (fun hlt => ?_) fun hge => ?_
  rotate_left
  · have : j = l.length := by have := of_decide_eq_false hge; omega
    subst this
    have ec : cntJ l (n + 1) l.length (n + 1) = (symsL l (n + 1)).length := by
      unfold cntJ; rw [if_neg (by omega), if_pos ⟨rfl, by omega⟩]; rfl
    refine ⟨by omega, by omega, _, hC4.cell (i := 34 + (n + 1)) (by rw [rowF_get (by omega), dec_c (by omega), ec]), ?_⟩
    have e1 : IntKind.i64.wrap (((fsL l (n + 1) : Nat) : Int) + ((symsL l (n + 1)).length : Nat)) = ((nxL l (n + 1) : Nat) : Int) := by
      rw [nx_fs] at hnx1 ⊢
      rw [w64 (by omega) (by omega)]; omega
    rw [e1, w64 (x := ((n + 1 : Nat) : Int) + 1) (by omega) (by omega)]
    refine ⟨⟨n + 1, q4, qc4, by omega, by simp, hE4, ?_, ?_⟩, ?_⟩
    · rw [tabU, List.length_append]; exact hC4
    · rw [tabU, List.length_append]; exact hO4
    · show ((17 : Int) - (((n + 1 : Nat) : Int) + 1)).toNat < ((17 : Int) - ((n + 1 : Nat) : Int)).toNat; omega
  have hj : j < l.length := by have := of_decide_eq_true hlt; omega
  refine ⟨fun vs u => vs = [] ∧ ∃ (p : Option Addr) (cap : Nat), Ext w u ∧ Cs u k1 (rowF 53 (decG l (n + 1) (j + 1) p ((tabU l n).length + (symsU l (n + 1) (j + 1)).length) cap)) ∧
      OwnS (fun i => w.heap.size ≤ i ∧ i ≠ k1) u p ((tabU l n).length + (symsU l (n + 1) (j + 1)).length) cap 1 (ni (tabU l n ++ symsU l (n + 1) (j + 1))), ?_, fun w7 hI => ?_⟩
  rotate_left
  · obtain ⟨_, p7, c7, hE7, hC7, hO7⟩ := hI
    rw [w64 (x := ((j : Nat) : Int) + 1) (by omega) (by omega)]
    exact ⟨⟨j + 1, p7, c7, hj, by simp, hE7, hC7, hO7⟩, by show ((l.length : Int) - ((j : Int) + 1)).toNat < ((l.length : Int) - j).toNat; omega⟩
  refine (h.ext hE4).get (by omega) (ni_length l) (by rw [Int.toNat_natCast]; exact ni_get hj) fun a1 ha1 => ⟨_, ha1, ?_⟩
  refine brB_i (fun heq => ?_) fun hne => ?_
  rotate_left
  · have hne : l.getD j 0 ≠ n + 1 := fun e => by rw [e] at hne; simp at hne
    refine ⟨rfl, q4, qc4, hE4, ?_, ?_⟩
    · rw [symsU_miss hne]
      rwa [rowF_congr (H := decG l (n + 1) j q4 ((tabU l n).length + (symsU l (n + 1) j).length) qc4)]
      intro i hi
      unfold decG
      rw [cntJ_miss hne, deepJ_miss hne]
    · rw [symsU_miss hne]; exact hO4
  have heq : l.getD j 0 = n + 1 := by have := eq_of_beq heq; omega
  refine ⟨_, _, _, hC4.cell (rowF_get (i := 51) (by omega)), fun k6 hk6 w5 hL5 => ?_⟩
  refine OwnS.grow hO4 hL5 (by simp; omega) (fun i hi => ⟨by omega, by omega⟩) (by simp [blocks]) rfl rfl (by omega) (by omega) fun p6 c6 w6 hO6 hc6 => ?_
  have hk6' : k1 ≠ k6 := by omega
  have hC6 : Cs w6 k1 (rowF 53 (decG l (n + 1) j q4 ((tabU l n).length + (symsU l (n + 1) j).length) qc4)) := hC4.chg hc6 (by simp; omega)
  have hE6 : Ext w w6 := hE4.step hc6 fun i hi => by
    rcases hi with hi | hi
    · exact hi.1
    · simp at hi; omega
  have hlen : (tabU l n).length + (symsU l (n + 1) j).length + 1 = (tabU l n).length + (symsU l (n + 1) (j + 1)).length := by rw [symsU_hit heq]; simp; omega
  rw [hlen] at hO6 ⊢
  generalize hT : (tabU l n).length + (symsU l (n + 1) (j + 1)).length = T at *
  have hct : cntJ l (n + 1) j (n + 1) + 1 = cntJ l (n + 1) (j + 1) (n + 1) := by rw [cntJ_hit heq (by omega), if_pos rfl]
  have hcs : cntJ l (n + 1) j (n + 1) ≤ 4096 := by unfold cntJ; rw [if_neg (by omega), if_pos ⟨rfl, by omega⟩]; omega
  -- the three stores
  have t1 := hC6.set1 (off := 51) (v := .slice p6 T c6) (by rw [rowF_length]; omega)
  rw [rowF_set (H := fun i => if i = 51 then .slice p6 T c6 else decG l (n + 1) j q4 ((tabU l n).length + (symsU l (n + 1) j).length) qc4 i) (by simp) (fun i _ hi => by simp [hi])] at t1
  have t1c : (rowF 53 fun i => if i = 51 then .slice p6 T c6 else decG l (n + 1) j q4 ((tabU l n).length + (symsU l (n + 1) j).length) qc4 i)[34 + (n + 1)]? = some (i64 (cntJ l (n + 1) j (n + 1) : Nat)) := by
    rw [rowF_get (by omega), if_neg (by omega), dec_c (by omega)]
  have t2 := t1.drew.set1 (off := 34 + (n + 1)) (v := i64 (cntJ l (n + 1) (j + 1) (n + 1) : Nat)) (by rw [rowF_length]; omega)
  rw [rowF_set (H := fun i => if i = 52 then i64 (deepJ l (n + 1) j : Nat) else decG l (n + 1) (j + 1) p6 T c6 i) (by rw [if_neg (by omega), dec_c (by omega)]) (fun i hi hne => ?_)] at t2
  rotate_left
  · show (if i = 52 then i64 (deepJ l (n + 1) j : Nat) else decG l (n + 1) (j + 1) p6 T c6 i) = if i = 51 then .slice p6 T c6 else decG l (n + 1) j q4 ((tabU l n).length + (symsU l (n + 1) j).length) qc4 i
    rcases dec_place hi with g | ⟨i', g, rfl⟩ | ⟨i', g, rfl⟩ | rfl | rfl
    · rw [if_neg (by omega), if_neg (by omega), dec_a g, dec_a g]
    · rw [if_neg (by omega), if_neg (by omega), dec_b g, dec_b g]
    · rw [if_neg (by omega), if_neg (by omega), dec_c g, dec_c g, cntJ_hit heq (by omega), if_neg (by omega)]; rfl
    · rw [if_neg (by omega), if_pos rfl]; rfl
    · rw [if_pos rfl, if_neg (by omega), dec_e]
  have t3 := t2.set1 (off := 52) (v := i64 (n + 1 : Nat)) (by rw [rowF_length]; omega)
  rw [rowF_set (H := decG l (n + 1) (j + 1) p6 T c6) (by rw [dec_e, deepJ_hit heq]) (fun i hi hne => by simp [hne])] at t3
  have u1 := Chg.setCells w6 ⟨k1, 51, none⟩ [.slice p6 T c6] 0
  have u2 := Chg.setCells (setCells w6 ⟨k1, 51, none⟩ [.slice p6 T c6] 0).drew ⟨k1, 34 + (n + 1), none⟩ [i64 (cntJ l (n + 1) (j + 1) (n + 1) : Nat)] 0
  have u3 := Chg.setCells (setCells (setCells w6 ⟨k1, 51, none⟩ [.slice p6 T c6] 0).drew ⟨k1, 34 + (n + 1), none⟩ [i64 (cntJ l (n + 1) (j + 1) (n + 1) : Nat)] 0) ⟨k1, 52, none⟩ [i64 (n + 1 : Nat)] 0
  have u : Chg (· = k1) w6 _ := u1.trans (((Chg.refl (· = k1) _).drew.trans u2 fun _ h _ => h).trans u3 fun _ h _ => h) fun _ h _ => h
  have ew : IntKind.i64.wrap (((cntJ l (n + 1) j (n + 1) : Nat) : Int) + 1) = ((cntJ l (n + 1) (j + 1) (n + 1) : Nat) : Int) := by rw [w64 (by omega) (by omega)]; omega
  refine ⟨⟨_, hC6.cell (rowF_get (i := 51) (by omega))⟩, hC6.frozen _, by simp; omega, by omega, by omega, _, t1.drew.cell t1c, by omega, by omega, ⟨_, t1.drew.cell t1c⟩, t1.drew.frozen _, by simp; omega, ?_⟩
  rw [ew]
  refine ⟨⟨_, t2.cell (rowF_get (i := 52) (by omega))⟩, t2.frozen _, by simp; omega, rfl, p6, c6, hE6.step u (fun i hi => by omega), t3, ?_⟩
  refine OwnS.chg (OwnS.mono (T := fun i => w.heap.size ≤ i ∧ i ≠ k1) ?_ fun i hi _ => hi) u fun b hb _ hz => hb.2 hz
  have e2 : ni (tabU l n ++ symsU l (n + 1) (j + 1)) = ni (tabU l n ++ symsU l (n + 1) j) ++ [i64 (j : Nat)] := by rw [symsU_hit heq, ← List.append_assoc, ni_append (tabU l n ++ _)]; rfl
  rw [e2]
  exact hO6.mono fun i hi _ => hi.1
end Go.Proofs.Ythfnohbpdoklgaa
