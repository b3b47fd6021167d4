/- Quant: the nearest colour, the first clear one; the document's words for them. -/
import Derived.Test.YtijplekhbpigiaaQS8
namespace Go.Proofs.Ytijplekhbpigiaa
open Go Go.Vc Go.RowKit Go.Qn
set_option maxRecDepth 100000
set_option linter.unusedVariables false
set_option linter.unusedSimpArgs false

abbrev wr (x : Int) : Int := IntKind.i64.wrap x
/-- how far two colours are apart -/
def farV (p c : Co) : Int := wr (wr (wr (wr (wr p.1 - wr c.1) * wr (wr p.1 - wr c.1)) + wr (wr (wr p.2.1 - wr c.2.1) * wr (wr p.2.1 - wr c.2.1))) + wr (wr (wr p.2.2.1 - wr c.2.2.1) * wr (wr p.2.2.1 - wr c.2.2.1)))
/-- the nearest of the first n -/
def nearN (l : List Co) (c : Co) : Nat → Int
  | 0 => -1
  | n + 1 => if nearN l c n < 0 then n else if farV (l.getD n zeroC) c < farV (l.getD (nearN l c n).toNat zeroC) c then n else nearN l c n
def nearV (l : List Co) (c : Co) : Int := nearN l c l.length
theorem nearN_range (l : List Co) (c : Co) : ∀ n, -1 ≤ nearN l c n ∧ nearN l c n < n ∧ (0 < n → 0 ≤ nearN l c n)
  | 0 => by simp [nearN]
  | n + 1 => by
    have := nearN_range l c n
    unfold nearN
    split
    · omega
    · split <;> omega
theorem Nearest_spec {N : Nat} {w : World} {p : Option Addr} {len cap : Nat} {l : List Co} {c : Co} {R : Ending → World → Prop} (h : Sl N w p (cos l)) (hl : l.length = len) (h62 : len ≤ 2 ^ 40)
    (hR : ∀ w', Ext w w' → R (.returned (i64 (nearV l c))) w') : Calls P F.tones_Nearest #[.slice p len cap, .agg (co c).toArray] w R := by
  refine calls_tones_Nearest _ _ _ _ _ _ _ _ _ ?_
  intro k1 hk1
  refine ⟨fun vs u => ∃ (n : Nat) (best : Int), vs = [i64 (nearN l c n), i64 best, i64 n] ∧ n ≤ len ∧ Ext w u ∧ (0 < n → best = farV (l.getD (nearN l c n).toNat zeroC) c),
    fun vs _ => match vs with | [_, _, .int _ n] => (len - n).toNat | _ => 0, fun w1 hL => ⟨0, 0, rfl, Nat.zero_le _, hL.ext (by simpa using hk1), by omega⟩, fun n1 n2 n3 w2 hI => ?_⟩
  obtain ⟨n, best, hv, hn, hE, hbest⟩ := hI
  obtain ⟨rfl, rfl, rfl⟩ : n1 = nearN l c n ∧ n2 = best ∧ n3 = n := by simpa using hv
  have hr := nearN_range l c n
  have hs := hE.size
  refine brB_i (fun hlt => ?_) fun hge => ?_
  · have hlt : n < len := by simp at hlt; omega
    refine ⟨fun vs u => ∃ b : Int, vs = [i64 (nearN l c (n + 1)), i64 b] ∧ Ext w u ∧ b = farV (l.getD (nearN l c (n + 1)).toNat zeroC) c, ?_, fun n8 n9 w5 hI => ?_⟩
    · refine cos_elem (h.ext hE) hl (by omega) (by omega) fun a e1 e2 e3 e4 => ⟨_, _, _, _, e1, e2, e3, e4, fun k2 hk2 => ?_⟩
      have en : (n : Int).toNat = n := by omega
      rw [en]
      have hkk : ∀ b, b ∈ [k2, k1] → w.heap.size ≤ b := by simp; omega
      have hfar : ∀ x : Int, x = farV (l.getD n zeroC) c → x = farV (l.getD n zeroC) c := fun _ h => h
      refine brB_i (fun hb => ?_) fun hb => ?_
      · intro w3 hL3
        have hb : nearN l c n < 0 ∨ farV (l.getD n zeroC) c < n2 := by
          rcases Bool.or_eq_true_iff.1 hb with hb | hb
          · exact .inl (of_decide_eq_true hb)
          · exact .inr (of_decide_eq_true hb)
        have e : nearN l c (n + 1) = n := by
          unfold nearN
          split
          · rfl
          · rename_i h0
            rw [if_pos]
            rcases hb with hb | hb
            · omega
            · rw [← hbest (by omega)]; exact hb
        exact ⟨farV (l.getD n zeroC) c, by rw [e]; rfl, hE.step hL3.chg hkk, by rw [e, en]⟩
      · intro w4 hL4
        have hb : ¬ nearN l c n < 0 ∧ ¬ farV (l.getD n zeroC) c < n2 := by
          rw [Bool.or_eq_false_iff] at hb
          exact ⟨of_decide_eq_false hb.1, of_decide_eq_false hb.2⟩
        have e : nearN l c (n + 1) = nearN l c n := by
          rw [nearN, if_neg hb.1, if_neg]
          rw [← hbest (by omega)]; exact hb.2
        exact ⟨_, by rw [e], hE.step hL4.chg hkk, by rw [e]; exact hbest (by omega)⟩
    · obtain ⟨b, hv, hE5, hb⟩ := hI
      obtain ⟨rfl, rfl⟩ : n8 = nearN l c (n + 1) ∧ n9 = b := by simpa using hv
      rw [w64 (x := (n : Int) + 1) (by omega) (by omega)]
      exact ⟨⟨n + 1, _, by simp, by omega, hE5, fun _ => hb⟩, by show ((len : Int) - ((n : Int) + 1)).toNat < ((len : Int) - n).toNat; omega⟩
  · have hge : n = len := by simp at hge; omega
    have := hR w2 hE
    unfold nearV at this
    rw [hl] at this
    rw [hge]; exact this
theorem Far_spec {w : World} {x y : Co} {R : Ending → World → Prop} (hR : ∀ w', Ext w w' → R (.returned (i64 (farV x y))) w') : Calls P F.ref08_Far #[.agg (co x).toArray, .agg (co y).toArray] w R := by
  refine calls_ref08_Far _ _ _ _ _ _ _ _ _ _ ?_
  intro k1 hk1 k2 hk2 w1 hL
  exact hR w1 (hL.ext (by simp; omega))
theorem rNearest_spec {N : Nat} {w : World} {p : Option Addr} {len cap : Nat} {l : List Co} {c : Co} {R : Ending → World → Prop} (h : Sl N w p (cos l)) (hl : l.length = len) (h62 : len ≤ 2 ^ 40)
    (hR : ∀ w', Ext w w' → R (.returned (i64 (nearV l c))) w') : Calls P F.ref08_Nearest #[.slice p len cap, .agg (co c).toArray] w R := by
  refine calls_ref08_Nearest _ _ _ _ _ _ _ _ _ ?_
  intro k1 hk1
  refine ⟨fun vs u => ∃ n : Nat, vs = [i64 (nearN l c n), i64 n] ∧ n ≤ len ∧ Ext w u, fun vs _ => match vs with | [_, .int _ n] => (len - n).toNat | _ => 0, fun w1 hL => ⟨0, rfl, Nat.zero_le _, hL.ext (by simpa using hk1)⟩, fun n1 n2 w2 hI => ?_⟩
  obtain ⟨n, hv, hn, hE⟩ := hI
  obtain ⟨rfl, rfl⟩ : n1 = nearN l c n ∧ n2 = n := by simpa using hv
  have hr := nearN_range l c n
  refine brB_i (fun hlt => ?_) fun hge => ?_
  · have hlt : n < len := by simp at hlt; omega
    refine ⟨fun vs u => vs = [i64 (nearN l c (n + 1))] ∧ Ext w u, ?_, fun n13 w5 hI => ?_⟩
    · refine brB_i (fun h0 => ?_) fun h0 => ?_
      · have h0 : nearN l c n < 0 := of_decide_eq_true h0
        exact ⟨by rw [nearN, if_pos h0], hE.drew⟩
      · have h0 : ¬ nearN l c n < 0 := of_decide_eq_false h0
        refine cos_elem (h.ext hE).drew hl (by omega) (by omega) fun a e1 e2 e3 e4 => ⟨_, _, _, _, e1, e2, e3, e4, ?_⟩
        refine cos_elem (h.ext hE).drew hl (by omega) (by omega) fun a e1 e2 e3 e4 => ⟨_, _, _, _, e1, e2, e3, e4, ?_⟩
        have en : (n : Int).toNat = n := by omega
        rw [en]
        refine Far_spec (x := l.getD n zeroC) (y := c) fun w3 hE3 => ⟨_, rfl, hE3.keep _, hE3.keeps, Far_spec (x := l.getD (nearN l c n).toNat zeroC) (y := c) fun w4 hE4 => ⟨_, rfl, hE4.keep _, ?_⟩⟩
        have hE' := (hE.drew.trans hE3).trans hE4
        refine brB_i (fun hf => ?_) fun hf => ?_
        · exact ⟨by rw [nearN, if_neg h0, if_pos (of_decide_eq_true hf)], hE'⟩
        · exact ⟨by rw [nearN, if_neg h0, if_neg (of_decide_eq_false hf)], hE'⟩
    · obtain ⟨hv, hE5⟩ := hI
      obtain rfl : n13 = nearN l c (n + 1) := by simpa using hv
      rw [w64 (x := (n : Int) + 1) (by omega) (by omega)]
      exact ⟨⟨n + 1, by simp, by omega, hE5⟩, by show ((len : Int) - ((n : Int) + 1)).toNat < ((len : Int) - n).toNat; omega⟩
  · have hge : n = len := by simp at hge; omega
    have := hR w2 hE
    unfold nearV at this
    rw [hl] at this
    rw [hge]; exact this
theorem rClear_spec {w : World} {c : Co} {R : Ending → World → Prop} (hR : ∀ w', Ext w w' → R (.returned (.bool (clearC c))) w') : Calls P F.ref14_Clear #[.agg (co c).toArray] w R := by
  refine calls_ref14_Clear _ _ _ _ _ _ ?_
  intro k1 hk1 w1 hL
  exact hR w1 (hL.ext (by simpa using hk1))
theorem rEight_spec {w : World} {c : Co} {R : Ending → World → Prop} (h : CoOk c) (hR : ∀ w', Ext w w' → R (.returned (.agg (co (eightC c)).toArray)) w') : Calls P F.ref14_Eight #[.agg (co c).toArray] w R := by
  refine calls_ref14_Eight _ _ _ _ _ _ ?_
  intro k1 hk1 k2 hk2 w1 hL1
  have hb : ∀ b, b ∈ [k2, k1] → w.heap.size ≤ b := by simp; omega
  have hE1 := hL1.ext hb
  refine Round_spec h.1.1 h.1.2 ⟨_, rfl, (Ext.refl _).keep _, Keeps.refl _, Round_spec h.2.1.1 h.2.1.2 ⟨_, rfl, (Ext.refl _).keep _, Keeps.refl _, Round_spec h.2.2.1.1 h.2.2.1.2 ⟨_, rfl, (Ext.refl _).keep _, fun w5 hL5 => ?_⟩⟩⟩
  exact hR w5 (hE1.step hL5.chg hb)
/-- v is the first place from i on that is clear, or -1 -/
def NoneIs (l : List Co) (i : Nat) (v : Int) : Prop :=
  (v = -1 ∧ ∀ j, i ≤ j → j < l.length → (l.getD j zeroC).2.2.2 ≠ 0) ∨ ∃ k : Nat, i ≤ k ∧ k < l.length ∧ v = k ∧ (l.getD k zeroC).2.2.2 = 0 ∧ ∀ j, i ≤ j → j < k → (l.getD j zeroC).2.2.2 ≠ 0
theorem NoneIs.uniq {l : List Co} {i : Nat} {u v : Int} (h : NoneIs l i u) (k : NoneIs l i v) : u = v := by
  rcases h with ⟨h1, h2⟩ | ⟨x, h1, h2, h3, h4, h5⟩ <;> rcases k with ⟨k1, k2⟩ | ⟨y, k1, k2, k3, k4, k5⟩
  · omega
  · exact absurd k4 (h2 y k1 k2)
  · exact absurd h4 (k2 x h1 h2)
  · rcases Nat.lt_trichotomy x y with g | g | g
    · exact absurd h4 (k5 x h1 g)
    · omega
    · exact absurd k4 (h5 y k1 g)
def noneF (l : List Co) : Nat → Int
  | 0 => -1
  | n + 1 => if (l.getD (l.length - (n + 1)) zeroC).2.2.2 = 0 then ((l.length - (n + 1) : Nat) : Int) else noneF l n
def noneV (l : List Co) : Int := noneF l l.length
theorem noneF_is (l : List Co) : ∀ n, n ≤ l.length → NoneIs l (l.length - n) (noneF l n)
  | 0, _ => .inl ⟨rfl, fun j h1 h2 => by omega⟩
  | n + 1, h => by
    unfold noneF
    split
    · rename_i h0
      exact .inr ⟨l.length - (n + 1), Nat.le_refl _, by omega, rfl, h0, fun j h1 h2 => by omega⟩
    · rename_i h0
      have step : ∀ j, l.length - (n + 1) ≤ j → l.length - n ≤ j ∨ j = l.length - (n + 1) := fun j hj => by omega
      rcases noneF_is l n (by omega) with ⟨h1, h2⟩ | ⟨k, h1, h2, h3, h4, h5⟩
      · refine .inl ⟨h1, fun j hj hlt => ?_⟩
        rcases step j hj with g | g
        · exact h2 j g hlt
        · rw [g]; exact h0
      · refine .inr ⟨k, by omega, h2, h3, h4, fun j hj hlt => ?_⟩
        rcases step j hj with g | g
        · exact h5 j g hlt
        · rw [g]; exact h0
theorem noneV_is (l : List Co) : NoneIs l 0 (noneV l) := by
  have := noneF_is l l.length (Nat.le_refl _)
  rwa [Nat.sub_self] at this
theorem noneV_range (l : List Co) : -1 ≤ noneV l ∧ noneV l < l.length := by
  rcases noneV_is l with ⟨h, _⟩ | ⟨k, _, h1, h2, _⟩ <;> omega
theorem Index_spec {N : Nat} {w : World} {p : Option Addr} {len cap : Nat} {l : List Co} {R : Ending → World → Prop} (h : Sl N w p (cos l)) (hl : l.length = len) (h62 : len ≤ 2 ^ 40)
    (hR : ∀ w', Ext w w' → R (.returned (i64 (noneV l))) w') : Calls P F.slices_IndexFunc_api_Color #[.slice p len cap, .func (.func F.quant_Apply_fn1) #[] #[]] w R := by
  refine calls_slices_IndexFunc_api_Color _ _ _ _ _ _ ?_
  unfold vc_slices_IndexFunc_api_Color
  refine ⟨fun vs u => ∃ n : Nat, vs = [i64 n] ∧ n ≤ len ∧ Ext w u ∧ ∀ j, j < n → (l.getD j zeroC).2.2.2 ≠ 0, fun vs _ => match vs with | [.int _ n] => (len - n).toNat | _ => 0, ⟨0, rfl, Nat.zero_le _, Ext.refl _, fun j hj => by omega⟩, fun n1 w1 hI => ?_⟩
  obtain ⟨n, hv, hn, hE, hj⟩ := hI
  obtain rfl : n1 = n := by simpa using hv
  refine brB_i (fun hlt => ?_) fun hge => ?_
  · have hlt : n < len := by simp at hlt; omega
    refine cos_elem (h.ext hE) hl (by omega) (by omega) fun a e1 e2 e3 e4 => ⟨_, _, _, _, e1, e2, e3, e4, ?_⟩
    have en : (n : Int).toNat = n := by omega
    rw [en]
    refine callW_i (by kernel_rfl) ?_
    refine calls_quant_Apply_fn1 _ _ _ _ _ _ ?_
    intro k1 hk1 w2 hL
    have hE2 := hE.step hL.chg (by simp; have := hE.size; omega)
    refine ⟨_, rfl, brB_i (fun hb => ?_) fun hb => ?_⟩
    · have hb : (l.getD n zeroC).2.2.2 = 0 := eq_of_beq hb
      have := (noneV_is l).uniq (.inr ⟨n, Nat.zero_le _, by omega, rfl, hb, fun j _ h => hj j h⟩ : NoneIs l 0 n)
      rw [← this]; exact hR w2 hE2
    · have hb : (l.getD n zeroC).2.2.2 ≠ 0 := by
        intro e
        rw [e] at hb
        exact absurd hb (by simp)
      rw [w64 (x := (n : Int) + 1) (by omega) (by omega)]
      refine ⟨⟨n + 1, by simp, by omega, hE2, fun j hjn => ?_⟩, by show ((len : Int) - ((n : Int) + 1)).toNat < ((len : Int) - n).toNat; omega⟩
      rcases Nat.lt_or_ge j n with g | g
      · exact hj j g
      · rw [show j = n by omega]; exact hb
  · have hge : n = len := by simp at hge; omega
    have := (noneV_is l).uniq (.inl ⟨rfl, fun j _ h => hj j (by omega)⟩ : NoneIs l 0 (-1))
    rw [← this]; exact hR w1 hE
end Go.Proofs.Ytijplekhbpigiaa
