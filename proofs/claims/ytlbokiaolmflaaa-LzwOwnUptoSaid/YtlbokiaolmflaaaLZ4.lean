/- LZW: the document's reader. -/
import Derived.Test.YtlbokiaolmflaaaLZ3
namespace Go.Proofs.Ytlbokiaolmflaaa
open Go Go.Vc Go.RowKit
set_option maxRecDepth 100000
set_option linter.unusedVariables false
set_option linter.unusedSimpArgs false

def aC (A : List Nat) : List Value := A.map fun a : Nat => i64 a
def lC (T : List (List Int)) : List Value := bytes (T.map fun t => t.getLastD 0)
def sC (T : List (List Int)) : List Value := T.map fun t => i64 t.length
theorem aC_length (A : List Nat) : (aC A).length = A.length := by simp [aC]
theorem lC_length (T : List (List Int)) : (lC T).length = T.length := by simp [lC, bytes]
theorem sC_length (T : List (List Int)) : (sC T).length = T.length := by simp [sC]
theorem code_idx {cl c : Nat} (h1 : ¬ c < cl) (hcl : cl ≤ 256) (hc : cl + 2 ≤ c) (h4 : c < 4096) : IntKind.i64.wrap (IntKind.i64.wrap ((c : Int) - cl) - 2) = ((c - cl - 2 : Nat) : Int) := by
  rw [w64 (x := (c : Int) - cl) (by omega) (by omega), w64 (by omega) (by omega)]; omega
theorem refSize_spec {N : Nat} {cl : Nat} {s : LS} {w : World} {p3 p4 p5 : Option Addr} {k7 k8 k9 k10 k11 k12 c : Nat} {R : Ending → World → Prop} (hi : Inv cl s) (h : Sl N w p5 (sC s.T)) (hl : k11 = s.T.length) (hc : vcode cl s.T.length c)
    (hR : ∀ w', Ext w w' → R (.returned (i64 (strOf cl s.T c).length)) w') :
    Calls P F.ref06_size #[.agg #[i64 cl, .slice p3 k7 k8, .slice p4 k9 k10, .slice p5 k11 k12], i64 c] w R := by
  refine calls_ref06_size _ _ _ _ _ _ _ _ _ _ _ _ _ ?_
  have hcl := hi.cl256
  have hfull := hi.full
  intro k1 hk1
  refine brB_i (fun hb => fun w1 hL => ?_) (fun hb => ?_)
  · have hb : c < cl := by simpa using hb
    rw [strOf_lt _ hb] at hR
    exact hR w1 (hL.ext (by simpa using hk1))
  · have hb : ¬ c < cl := by simpa using hb
    have hcg : cl + 2 ≤ c ∧ c < cl + 2 + s.T.length := by unfold vcode at hc; omega
    rw [code_idx hb hcl hcg.1 (by omega)]
    have hj : c - cl - 2 < s.T.length := by omega
    have hv : (sC s.T)[c - cl - 2]? = some (i64 (strOf cl s.T c).length) := by
      rw [strOf_ge _ hcg.1]
      simp [sC, List.getElem?_eq_getElem hj, List.getD]
    refine h.get (by omega) (by rw [sC_length]; omega) (by rw [Int.toNat_natCast]; exact hv) fun a ha w2 hL => ⟨_, (hL.ext (by simpa using hk1)).cell ha, hR w2 (hL.ext (by simpa using hk1))⟩
theorem refText_spec {N : Nat} {cl : Nat} {s : LS} {w : World} {p3 p4 p5 : Option Addr} {k7 k8 k9 k10 k11 k12 c : Nat} {R : Ending → World → Prop} (hi : Inv cl s) (h1 : Sl N w p3 (aC s.A)) (h2 : Sl N w p4 (lC s.T)) (h : Sl N w p5 (sC s.T)) (hl1 : k7 = s.T.length) (hl2 : k9 = s.T.length) (hl : k11 = s.T.length) (hc : vcode cl s.T.length c)
    (hR : ∀ p w', Ext w w' → Ow w.heap.size w'.heap.size w' p (strOf cl s.T c).length (strOf cl s.T c).length 1 (bytes (strOf cl s.T c)) → R (.returned (.slice p (strOf cl s.T c).length (strOf cl s.T c).length)) w') :
    Calls P F.ref06_text #[.agg #[i64 cl, .slice p3 k7 k8, .slice p4 k9 k10, .slice p5 k11 k12], i64 c] w R := by
  refine calls_ref06_text _ _ _ _ _ _ _ _ _ _ _ _ _ ?_
  have hcl := hi.cl256
  have hfull := hi.full
  have hstr := hi.str hc
  intro k1 hk1 w1 hL1
  have hE1 : Ext w w1 := hL1.ext (by simpa using hk1)
  have hs1 := hE1.size
  have hk1' := hL1.there k1 (by simp)
  refine refSize_spec hi (h.ext hE1) hl hc fun w2 hE2 => ⟨_, rfl, hE2.keep _, by omega, Int.le_refl _, by omega, by omega, fun k2 w3 hn => ?_⟩
  have hs2 := hE2.size
  have hk2 := hn.1
  have hcs := hn.cs
  rw [Int.toNat_natCast]
  generalize ht : strOf cl s.T c = t at *
  rw [mkCells_rep, Int.toNat_natCast] at hcs
  have hrep : rep t.length [u8 0] = bytes (List.replicate t.length 0) := by
    induction t.length with
    | zero => rfl
    | succ n ih => rw [rep, ih, List.replicate_succ]; rfl
  rw [show ((rep t.length [u8 0]).toArray).toList = rep t.length [u8 0] by simp, hrep] at hcs
  have hE3 : Ext w w3 := (hE1.trans hE2).trans hn.ext
  refine ⟨fun vs u => match vs with | [.int _ c', .int _ i] => ∃ (done : List Int) (m : Nat), Ext w u ∧ Cs u k2 (bytes (List.replicate m 0 ++ done)) ∧ m + done.length = t.length ∧ i = (m : Int) - 1 ∧ ((m = 0 ∧ done = t) ∨ ∃ c2 : Nat, c' = c2 ∧ vcode cl s.T.length c2 ∧ strOf cl s.T c2 ++ done = t) | _ => False,
    fun vs _ => match vs with | [.int _ c', .int _ i] => (i + 1).toNat | _ => 0, ?_, ?_⟩
  · rw [w64 (by omega) (by omega)]
    exact ⟨[], t.length, hE3, by simpa using hcs, by simp, rfl, .inr ⟨c, rfl, hc, by simpa using ht⟩⟩
  intro n2 n3 u hI
  obtain ⟨done, m, hE, hcu, hm, rfl, hcase⟩ := hI
  refine brB_i (fun hb => ?_) (fun hb => ?_)
  · have hb : 0 < m := by have : (m : Int) - 1 ≥ 0 := by simpa using hb
                          omega
    obtain ⟨m', rfl⟩ : ∃ m', m = m' + 1 := ⟨m - 1, by omega⟩
    rcases hcase with ⟨h0, _⟩ | ⟨c2, rfl, hc2, hst⟩
    · omega
    have e1 : ((m' + 1 : Nat) : Int) - 1 = m' := by omega
    rw [e1]
    have hcan := hcu.canSet (off := m') (n := 1) (by simp [bytes]) 0 (by omega)
    rw [loc_add, Nat.add_zero] at hcan
    have hset := fun x : Int => hcu.set1 (off := m') (v := u8 x) (by simp [bytes]; omega)
    have hset' : ∀ x : Int, Cs (setCells u ⟨k2, m', none⟩ [u8 x] 0) k2 (bytes (List.replicate m' 0 ++ x :: done)) := fun x => by
      have h3 := hset x
      have h4 := fill_set [] done m' x
      simp only [List.nil_append, List.length_nil, Nat.zero_add] at h4
      have h5 : (bytes (List.replicate (m' + 1) 0 ++ done)).set m' (u8 x) = bytes ((List.replicate (m' + 1) 0 ++ done).set m' x) := by simp [bytes, List.map_set]
      rw [h5, h4] at h3; exact h3
    have hC := fun x : Int => Chg.setCells u ⟨k2, m', none⟩ [u8 x] 0
    have hEx : ∀ x : Int, Ext w (setCells u ⟨k2, m', none⟩ [u8 x] 0) := fun x => hE.step (hC x) fun i hi => by have hi : i = k2 := hi; omega
    refine ⟨fun vs u' => match vs with | [.int _ c'] => ∃ (x : Int), Ext w u' ∧ Cs u' k2 (bytes (List.replicate m' 0 ++ x :: done)) ∧ ((m' = 0 ∧ x :: done = t) ∨ ∃ c2 : Nat, c' = c2 ∧ vcode cl s.T.length c2 ∧ strOf cl s.T c2 ++ x :: done = t) | _ => False, ?_, ?_⟩
    · refine brB_i (fun hb2 => ?_) (fun hb2 => ?_)
      · have hb2 : c2 < cl := by simpa using hb2
        refine idx_i (by omega) (by omega) rfl ?_
        rw [Int.toNat_natCast, Nat.mul_one, loc_add, Nat.zero_add]
        refine ⟨hcan.1, hcan.2, by simp; omega, ?_⟩
        rw [wu8 (by omega) (by omega)]
        rw [strOf_lt _ hb2] at hst
        refine ⟨c2, hEx _, hset' _, .inl ⟨?_, hst⟩⟩
        have := congrArg List.length hst
        simp at this; omega
      · have hb2 : ¬ c2 < cl := by simpa using hb2
        have hcg : cl + 2 ≤ c2 ∧ c2 < cl + 2 + s.T.length := by unfold vcode at hc2; omega
        rw [code_idx hb2 hcl hcg.1 (by omega)]
        have hj : c2 - cl - 2 < s.T.length := by omega
        obtain ⟨t1, ⟨l, t2⟩, t3, t4⟩ := hi.tab _ hj
        have hA : (aC s.A)[c2 - cl - 2]? = some (i64 (s.A.getD (c2 - cl - 2) 0)) := by
          have := hi.la
          simp [aC, List.getElem?_eq_getElem (show c2 - cl - 2 < s.A.length by omega), List.getD]
        have hLv : (lC s.T)[c2 - cl - 2]? = some (u8 l) := by
          have e : (s.T.map fun t => t.getLastD 0)[c2 - cl - 2]? = some ((s.T.getD (c2 - cl - 2) []).getLastD 0) := by
            simp [List.getElem?_eq_getElem hj, List.getD]
          rw [t2, show (strOf cl s.T (s.A.getD (c2 - cl - 2) 0) ++ [l]).getLastD 0 = l by simp] at e
          simp only [lC, bytes, List.getElem?_map (f := u8), e]; rfl
        refine (h2.ext hE).get (by omega) (by rw [lC_length]; omega) (by rw [Int.toNat_natCast]; exact hLv) fun a2 ha2 => ⟨_, ha2, ?_⟩
        refine idx_i (by omega) (by omega) rfl ?_
        rw [Int.toNat_natCast, Nat.mul_one, loc_add, Nat.zero_add]
        refine ⟨hcan.1, hcan.2, by simp; omega, ?_⟩
        refine (h1.ext (hEx l)).get (by omega) (by rw [aC_length, hi.la]; omega) (by rw [Int.toNat_natCast]; exact hA) fun a4 ha4 => ⟨_, ha4, ?_⟩
        rw [strOf_ge _ hcg.1, t2, List.append_assoc] at hst
        exact ⟨l, hEx _, hset' _, .inr ⟨_, rfl, t1.mono (by omega), hst⟩⟩
    · intro n6 w5 hI2
      obtain ⟨x, hE5, hc5, hca⟩ := hI2
      rw [w64 (by omega) (by omega)]
      exact ⟨⟨x :: done, m', hE5, hc5, by simp; omega, rfl, hca⟩, by show ((m' : Int) - 1 + 1).toNat < ((m' : Int) + 1).toNat; omega⟩
  · have hb : m = 0 := by have : ¬ (m : Int) - 1 ≥ 0 := by simpa using hb
                          omega
    subst hb
    have hd : done = t := by
      rcases hcase with ⟨_, h⟩ | ⟨c2, _, hc2, hst⟩
      · exact h
      · have h3 := congrArg List.length hst
        have h4 := (hi.str hc2).2.1
        rw [List.length_append] at h3; omega
    subst hd
    refine hR _ u hE ⟨by rw [bytes_length]; omega, Nat.le_refl _, .inr ⟨k2, [], by omega, hcu.lt, rfl, by simp [bytes], by simpa using hcu⟩⟩
end Go.Proofs.Ytlbokiaolmflaaa
