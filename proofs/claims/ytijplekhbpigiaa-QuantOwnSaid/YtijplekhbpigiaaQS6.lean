/- Quant: the bag of boxes. -/
import Derived.Test.YtijplekhbpigiaaQS5
namespace Go.Proofs.Ytijplekhbpigiaa
open Go Go.Vc Go.RowKit Go.Qn
set_option maxRecDepth 100000
set_option linter.unusedVariables false
set_option linter.unusedSimpArgs false

theorem locl_set {u : World} {b i : Nat} {vs : List Value} (hb : b < u.heap.size) : Locl [b] u (setCells u ⟨b, i, none⟩ vs 0) := by
  have h := Chg.setCells u ⟨b, i, none⟩ vs 0
  have hs := (setCells_same vs u ⟨b, i, none⟩ 0).size
  exact ⟨h.os, h.tape, h.output, h.size, fun k hk hn => h.block k hk (by simpa using hn), fun k hk => by simp at hk; rw [hk, hs]; exact hb⟩
theorem Delete_spec {w : World} {b cap i : Nat} {vs rest : List Value} {R : Ending → World → Prop} (h : Cs w b (vs ++ rest)) (hc : cap = vs.length + rest.length) (hi : i < vs.length) (hone : oneAll vs = true) (h62 : vs.length ≤ 2 ^ 40)
    (hR : ∀ w', Cs w' b (vs.eraseIdx i ++ (.slice none 0 0 :: rest)) → Chg (· = b) w w' → R (.returned (.slice (some ⟨b, 0, none⟩) (vs.length - 1) cap)) w') :
    Calls P F.slices_Delete_api_Color #[.slice (some ⟨b, 0, none⟩) vs.length cap, i64 i, i64 ((i : Int) + 1)] w R := by
  refine calls_slices_Delete_api_Color _ _ _ _ _ _ _ ?_
  unfold vc_slices_Delete_api_Color
  refine ⟨by omega, by omega, ⟨by omega, by omega, by omega, brB_f (by simp; omega) ⟨by omega, by omega, by omega, ⟨by omega, by omega, by omega, ?_⟩⟩⟩⟩
  refine ⟨vs.drop (i + 1), by rw [List.length_drop]; omega, by simp only [oneAll, List.all_eq_true] at hone ⊢; exact fun x hx => hone x (List.mem_of_mem_drop hx), ?_, ?_⟩
  · have hs : Sl (b + 1) w.drew (some ⟨b, 0, none⟩) vs := h.drew.sl (off := 0) (by simp) (Nat.lt_succ_self b)
    have := (hs.part (lo := ((i : Int) + 1).toNat) (cap := cap) (us := vs.drop (i + 1)) (by omega) (by rw [show ((i : Int) + 1).toNat = i + 1 by omega]; exact List.prefix_refl _)).cells
    exact this
  have e0 : slcBase (some ⟨b, 0, none⟩) (0 : Int).toNat cap 1 = some ⟨b, 0, none⟩ := slcBase0
  rw [e0]
  refine ⟨fun hle => .inr ⟨_, rfl, ?_, ?_⟩, fun hgt => by omega⟩
  · rw [loc_add]
    exact h.drew.canSet (by rw [List.length_append, List.length_drop]; omega)
  · simp only [notIn]
    rw [loc_add, show 0 + ((i : Int).toNat - (0 : Int).toNat) * 1 = i by omega]
    have hset := h.drew.set (off := i) (us := vs.drop (i + 1)) (by rw [List.length_append, List.length_drop]; omega)
    obtain ⟨x, hx⟩ : ∃ x, (vs ++ rest).drop (i + (vs.drop (i + 1)).length) = x :: rest := by
      rw [List.length_drop, List.drop_append, show i + (vs.length - (i + 1)) = vs.length - 1 by omega, show vs.length - 1 - vs.length = 0 by omega, List.drop_eq_getElem_cons (by omega : vs.length - 1 < vs.length)]
      exact ⟨vs[vs.length - 1]'(by omega), by rw [show vs.length - 1 + 1 = vs.length by omega]; simp⟩
    rw [hx, List.take_append_of_le_length (by omega)] at hset
    have eA : vs.take i ++ vs.drop (i + 1) = vs.eraseIdx i := (List.eraseIdx_eq_take_drop_succ ..).symm
    rw [eA] at hset
    have lA : (vs.eraseIdx i).length = vs.length - 1 := by rw [List.length_eraseIdx]; simp [hi]
    refine ⟨by omega, by omega, by omega, .inr ⟨by omega, ⟨b, vs.length - 1, none⟩, ?_, ?_, ?_⟩⟩
    · unfold slcBase
      rw [if_neg (by omega)]
      simp only [Option.map_some, loc_add]
      congr 2; omega
    · intro j hj
      rw [rep_length] at hj
      have hj0 : j = 0 := by
        have : (List.length [Value.slice none 0 0]) = 1 := rfl
        simp [Value.cells] at hj; omega
      subst hj0
      rw [add_zero']
      exact ⟨⟨x, hset.cell (by rw [List.getElem?_append_right (by omega), lA]; simp)⟩, hset.frozen _⟩
    · have e1 : ((vs.length : Nat) : Int).toNat - ((((i : Int).toNat - (0 : Int).toNat) + (((vs.length : Nat) : Int).toNat - ((i : Int) + 1).toNat) : Nat) : Int).toNat = 1 := by omega
      rw [e1]
      have e2 : (i : Int).toNat - (0 : Int).toNat + (((vs.length : Nat) : Int).toNat - ((i : Int) + 1).toNat) = vs.length - 1 := by omega
      rw [e2]
      have hs2 := hset.set1 (off := vs.length - 1) (v := .slice none 0 0) (by rw [List.length_append, lA]; simp)
      rw [List.set_append_right _ _ (by omega), lA, show vs.length - 1 - (vs.length - 1) = 0 by omega, List.set_cons_zero] at hs2
      refine hR _ hs2 ?_
      exact chgb (chg_dr (Chg.refl _ w)) (chgb (Chg.setCells _ ⟨b, i, none⟩ _ 0 :) (Chg.setCells _ ⟨b, vs.length - 1, none⟩ _ 0 :))
/-- a slice of colours, told with them -/
structure Bx where
  p : Option Addr
  n : Nat
  c : Nat
  l : List Co
def Bx.v (t : Bx) : Value := .slice t.p t.n t.c
/-- its colours lie in one of these blocks -/
structure Box (u : World) (bl : List Nat) (t : Bx) : Prop where
  len : t.l.length = t.n
  cap : t.n ≤ t.c
  cs : ∃ b off xs, b ∈ bl ∧ t.p = some ⟨b, off, none⟩ ∧ Cs u b xs ∧ cos t.l <+: xs.drop off
theorem Box.keep {u u' : World} {bl : List Nat} {t : Bx} (h : Box u bl t) (k : Keep bl u u') : Box u' bl t := by
  obtain ⟨b, off, xs, h1, h2, h3, h4⟩ := h.cs
  exact ⟨h.len, h.cap, b, off, xs, h1, h2, h3.keep k h1, h4⟩
theorem Box.mono {u : World} {bl bl' : List Nat} {t : Bx} (h : Box u bl t) (hb : ∀ b, b ∈ bl → b ∈ bl') : Box u bl' t := by
  obtain ⟨b, off, xs, h1, h2, h3, h4⟩ := h.cs
  exact ⟨h.len, h.cap, b, off, xs, hb b h1, h2, h3, h4⟩
theorem Box.sl {u : World} {bl : List Nat} {t : Bx} (h : Box u bl t) : Sl u.heap.size u t.p (cos t.l) := by
  obtain ⟨b, off, xs, h1, h2, h3, h4⟩ := h.cs
  rw [h2]; exact h3.sl h4 h3.lt
/-- boxes in a bag -/
structure Bag (w0 u : World) (lo bl : List Nat) (kb : Nat) (T : List Bx) : Prop where
  own : ∃ s c, Cs u kb [.slice s T.length c, .func (.func F.quant_Palette_fn1) #[] #[]] ∧ Fg (lo ++ kb :: bl) w0 u 1 s T.length c (T.map Bx.v)
  nlo : kb ∉ lo
  nbl : kb ∉ bl
  box : ∀ t, t ∈ T → Box u bl t
theorem Bag.ext {w0 u u' : World} {lo bl : List Nat} {kb : Nat} {T : List Bx} (h : Bag w0 u lo bl kb T) (hE : Ext u u') : Bag w0 u' lo bl kb T := by
  obtain ⟨s, c, h1, h2⟩ := h.own
  exact ⟨⟨s, c, h1.ext hE, h2.step hE⟩, h.nlo, h.nbl, fun t ht => (h.box t ht).keep (hE.keep _)⟩
theorem Bag.avs {w0 u : World} {lo bl : List Nat} {kb : Nat} {T : List Bx} (h : Bag w0 u lo bl kb T) : ∀ b, b ∈ lo ++ kb :: bl → w0.heap.size ≤ b ∧ b < u.heap.size := by
  obtain ⟨s, c, h1, h2⟩ := h.own; exact h2.avs
theorem Bag.ex {w0 u : World} {lo bl : List Nat} {kb : Nat} {T : List Bx} (h : Bag w0 u lo bl kb T) : Ext w0 u := by
  obtain ⟨s, c, h1, h2⟩ := h.own; exact h2.ext
/-- one more block is known -/
theorem Bag.more {w0 u u' : World} {lo bl : List Nat} {kb b : Nat} {T : List Bx} (h : Bag w0 u lo bl kb T) (hE : Ext u u') (h0 : u.heap.size ≤ b) (h1 : b < u'.heap.size) : Bag w0 u' lo (b :: bl) kb T := by
  have ha := h.avs
  obtain ⟨s, c, hc, hf⟩ := h.own
  have hL : Locl [b] u u' := ⟨hE.os, hE.tape, hE.output, hE.size, fun k hk _ => hE.block k hk, fun k hk => by simp at hk; rw [hk]; exact h1⟩
  have hk := ha kb (by simp)
  refine ⟨⟨s, c, hc.ext hE, (hf.push hL (by simp; omega)).mono fun x hx => ?_⟩, h.nlo, fun hm => ?_, fun t ht => ((h.box t ht).keep (hE.keep _)).mono fun x hx => List.mem_cons_of_mem _ hx⟩
  · simp only [List.mem_append, List.mem_cons] at hx ⊢
    rcases hx with h | h | h | h <;> simp [h]
  · rcases List.mem_cons.1 hm with e | e
    · omega
    · exact h.nbl e
theorem bv_oneAll (T : List Bx) : oneAll (T.map Bx.v) = true := by
  simp only [oneAll, List.all_map]
  exact List.all_eq_true.2 fun t _ => rfl
theorem put_spec {w0 w : World} {lo bl : List Nat} {kb : Nat} {T : List Bx} {t : Bx} {R : Ending → World → Prop} (h : Bag w0 w lo bl kb T) (hb : Box w bl t) (hsz : T.length ≤ 2 ^ 20)
    (hR : ∀ w', Bag w0 w' lo bl kb (T ++ [t]) → Keep (lo ++ bl) w w' → w.heap.size ≤ w'.heap.size → R (.returned (.tuple #[])) w') :
    Calls P F.quant_bag_api_Color_put #[.pointer (some ⟨kb, 0, none⟩), t.v] w R := by
  refine calls_quant_bag_api_Color_put _ _ _ _ _ _ ?_
  obtain ⟨s, c, hc, hf⟩ := h.own
  refine ⟨s, T.length, c, hc.cell (i := 0) rfl, fun k3 hk3 w1 hL1 => ?_⟩
  have hkl := hc.lt
  have hf1 := hf.push hL1 (by simp; omega)
  have hc1 := hc.locl hL1 (by simp; omega)
  refine hf1.app' (by simp [blocks]) rfl rfl (by omega) (by omega) fun p2 c2 w2 hf2 hk2 hs2 => ?_
  have hc2 := hc1.keep hk2 (by simp)
  refine ⟨⟨_, hc2.cell (i := 0) rfl⟩, hc2.frozen _, by simp; omega, ?_⟩
  have hset := hc2.set1 (off := 0) (v := .slice p2 (T.length + 1) c2) (by simp)
  have hL2 := locl_set (u := w2) (b := kb) (i := 0) (vs := [.slice p2 (T.length + 1) c2]) hc2.lt
  have hkp : Keep (lo ++ bl) w (setCells w2 ⟨kb, 0, none⟩ [.slice p2 (T.length + 1) c2] 0) := by
    have ha := h.avs
    refine Keep.trans (hL1.keep fun b hb hlt => by simp; omega) (Keep.trans (b := w2) (fun b hb hlt => hk2 b (by simp at hb ⊢; rcases hb with hb | hb <;> simp [hb]) hlt) (hL2.keep fun b hb _ => ?_))
    simp only [List.mem_singleton]
    intro e
    subst e
    rcases List.mem_append.1 hb with hb | hb
    · exact h.nlo hb
    · exact h.nbl hb
  refine hR _ ⟨⟨p2, c2, ?_, ?_⟩, h.nlo, h.nbl, fun x hx => ?_⟩ hkp (by have := hL1.size; have := hL2.size; omega)
  · rw [List.length_append]; exact hset
  · have := (hf2.push hL2 (by simp)).mono (bs := lo ++ kb :: bl) fun b hb => List.mem_append_right _ (List.mem_append_right _ hb)
    rw [List.length_append, List.map_append]
    exact this
  · have hx' : Box w bl x := by
      rcases List.mem_append.1 hx with hx | hx
      · exact h.box x hx
      · simp at hx; rw [hx]; exact hb
    exact hx'.keep fun b hb hlt => hkp b (List.mem_append_right _ hb) hlt
/-- which is the longest: the first of them -/
def mxi (L : List Nat) : Nat → Nat
  | 0 => 0
  | i + 1 => if L.getD i 0 > L.getD (mxi L i) 0 then i else mxi L i
theorem mxi_lt (L : List Nat) : ∀ i, mxi L i < max 1 i
  | 0 => by simp [mxi]
  | i + 1 => by
    have := mxi_lt L i
    unfold mxi
    split <;> omega
theorem weight_spec {w : World} {p : Option Addr} {n c : Nat} {R : Ending → World → Prop} (hR : R (.returned (i64 n)) w) : callV P (.func (.func F.quant_Palette_fn1) #[] #[]) [.slice p n c] w R := by
  refine callW_i (by kernel_rfl) ?_
  refine calls_quant_Palette_fn1 _ _ _ _ _ ?_
  exact hR
theorem take_spec {w0 w : World} {lo bl : List Nat} {kb : Nat} {T : List Bx} {R : Ending → World → Prop} (h : Bag w0 w lo bl kb T) (hT : 0 < T.length) (hsz : T.length ≤ 2 ^ 20)
    (hR : ∀ w' t, T[mxi (T.map Bx.n) T.length]? = some t → Bag w0 w' lo bl kb (T.eraseIdx (mxi (T.map Bx.n) T.length)) → Keep (lo ++ bl) w w' → w.heap.size ≤ w'.heap.size → R (.returned t.v) w') :
    Calls P F.quant_bag_api_Color_take #[.pointer (some ⟨kb, 0, none⟩)] w R := by
  refine calls_quant_bag_api_Color_take _ _ _ ?_
  obtain ⟨s0, c0, hc0, hf0⟩ := h.own
  refine ⟨s0, T.length, c0, hc0.cell (i := 0) rfl, ?_⟩
  have hget : ∀ (u : World) (s : Option Addr) (c i : Nat) (F : Addr → Prop), Fg (lo ++ kb :: bl) w0 u 1 s T.length c (T.map Bx.v) → (hi : i < T.length) → (∀ a : Addr, u.cell? a = some (T[i]).v → F a) → idx s T.length (i : Int) 1 F := by
    intro u s c i F hf hi hF
    exact hf.sl.get (i := (i : Int)) (by omega) (by simp) (v := (T[i]).v) (by simp [hi]) hF
  have hn : ∀ i, (hi : i < T.length) → (T[i]).n = (T.map Bx.n).getD i 0 := fun i hi => by simp [List.getD, hi]
  refine ⟨fun vs u => ∃ i : Nat, vs = [i64 (mxi (T.map Bx.n) i), i64 i] ∧ i ≤ T.length ∧ Ext w u, fun vs _ => match vs with | [_, .int _ i] => (T.length - i).toNat | _ => 0, ⟨0, rfl, Nat.zero_le _, Ext.refl _⟩, fun n1 n2 w1 hI => ?_⟩
  obtain ⟨i, hv, hi, hE⟩ := hI
  obtain ⟨rfl, rfl⟩ : n1 = mxi (T.map Bx.n) i ∧ n2 = i := by simpa using hv
  have hm := mxi_lt (T.map Bx.n) i
  refine brB_i (fun hlt => ?_) fun hge => ?_
  · have hlt : i < T.length := by simp at hlt; omega
    refine ⟨fun vs u => vs = [i64 (mxi (T.map Bx.n) (i + 1))] ∧ Ext w u, ?_, fun n5 w4 hI => ?_⟩
    · have hB := (h.ext hE).ext (Ext.refl w1).drew
      have hc1 := (hc0.ext hE).drew
      have hf1 := (hf0.step hE).dr
      refine ⟨_, _, _, hc1.cell (i := 1) rfl, _, _, _, hc1.cell (i := 0) rfl, hget _ _ _ i _ hf1 hlt fun a1 ha1 => ⟨_, _, _, ha1, ?_⟩⟩
      refine ⟨_, _, _, hc1.cell (i := 1) rfl, _, _, _, hc1.cell (i := 0) rfl, hget _ _ _ (mxi (T.map Bx.n) i) _ hf1 (by omega) fun a2 ha2 => ⟨_, _, _, ha2, ?_⟩⟩
      refine weight_spec ⟨_, rfl, Keeps.refl _, weight_spec ⟨_, rfl, ?_⟩⟩
      rw [hn i hlt, hn (mxi (T.map Bx.n) i) (by omega)]
      refine brB_i (fun hgt => ?_) fun hle => ?_
      · have hgt : (T.map Bx.n).getD i 0 > (T.map Bx.n).getD (mxi (T.map Bx.n) i) 0 := by
          have := of_decide_eq_true hgt; omega
        exact ⟨by rw [mxi, if_pos hgt], hE.drew⟩
      · have hle : ¬ (T.map Bx.n).getD i 0 > (T.map Bx.n).getD (mxi (T.map Bx.n) i) 0 := by
          have := of_decide_eq_false hle; omega
        exact ⟨by rw [mxi, if_neg hle], hE.drew⟩
    · obtain ⟨hv, hE4⟩ := hI
      obtain rfl : n5 = mxi (T.map Bx.n) (i + 1) := by simpa using hv
      rw [w64 (x := (i : Int) + 1) (by omega) (by omega)]
      exact ⟨⟨i + 1, by simp, by omega, hE4⟩, by show ((T.length : Int) - ((i : Int) + 1)).toNat < ((T.length : Int) - i).toNat; omega⟩
  · have hge : i = T.length := by simp at hge; omega
    subst hge
    generalize hat : mxi (T.map Bx.n) T.length = at_ at *
    have hat2 : at_ < T.length := by omega
    have hc1 := hc0.ext hE
    have hf1 := hf0.step hE
    refine ⟨_, _, _, hc1.cell (i := 0) rfl, hget _ _ _ at_ _ hf1 hat2 fun a1 ha1 => ⟨_, _, _, ha1, _, _, _, hc1.cell (i := 0) rfl, ?_⟩⟩
    rw [w64 (x := (at_ : Int) + 1) (by omega) (by omega)]
    obtain ⟨S, hS1, hS2, ho⟩ := hf1.own
    obtain ⟨⟨o1, o2, o3⟩, hbd⟩ := ho
    rcases o3 with o3 | ⟨b, rest, hSb, rfl, o4, o5⟩
    · omega
    have hl : (T.map Bx.v).length = T.length := by simp
    have hbn : ∀ x, x ∈ lo ++ kb :: bl → x ≠ b := fun x hx e => hS2 x hx (e ▸ hSb)
    have hD := Delete_spec (w := w1) (b := b) (cap := c0) (i := at_) (vs := T.map Bx.v) (rest := rest) (R := fun e w5 => ∃ (p9 : Option Addr) (k17 k18 : Nat), e = .returned (.slice p9 k17 k18) ∧ (∃ v1, w5.cell? ⟨kb, 0, none⟩ = some v1) ∧ (w5.frozen? ⟨kb, 0, none⟩ = false) ∧ R (.returned (T[at_]).v) (setCells w5 ⟨kb, 0, none⟩ [.slice p9 k17 k18] 0)) o5 (by omega) (by omega) (bv_oneAll T) (by omega) fun w5 hcs hch => ?_
    · rw [hl] at hD; exact hD
    have hkp5 : Keep (lo ++ kb :: bl) w1 w5 := hch.keep fun x hx e => hbn x hx e
    have hc5 := hc1.keep hkp5 (by simp)
    refine ⟨_, _, _, rfl, ⟨_, hc5.cell (i := 0) rfl⟩, hc5.frozen _, ?_⟩
    have hTe : (T.eraseIdx at_).length = T.length - 1 := by rw [List.length_eraseIdx]; simp [hat2]
    have hf5 : Fg (lo ++ kb :: bl) w0 w5 1 (some ⟨b, 0, none⟩) (T.eraseIdx at_).length c0 ((T.eraseIdx at_).map Bx.v) := by
      have hs5 := hch.size
      refine ⟨hf1.ext.step hch fun x hx => ?_, ⟨S, hS1, hS2, ⟨⟨by simp, by omega, .inr ⟨b, .slice none 0 0 :: rest, hSb, rfl, ?_, ?_⟩⟩, fun x hx => by have := hbd x hx; omega⟩⟩, fun x hx => ?_⟩
      · have hx : x = b := hx
        rw [hx]; exact hS1 b hSb
      · simp only [List.length_map, List.length_cons, hTe]; omega
      · have e : (T.map Bx.v).eraseIdx at_ = (T.eraseIdx at_).map Bx.v := by rw [List.eraseIdx_eq_take_drop_succ, List.eraseIdx_eq_take_drop_succ]; simp
        rw [← e]; exact hcs
      · have := hf1.avs x hx; omega
    have hset := hc5.set1 (off := 0) (v := .slice (some ⟨b, 0, none⟩) ((T.map Bx.v).length - 1) c0) (by simp)
    have hL := locl_set (u := w5) (b := kb) (i := 0) (vs := [.slice (some ⟨b, 0, none⟩) ((T.map Bx.v).length - 1) c0]) hc5.lt
    have hkp : Keep (lo ++ bl) w (setCells w5 ⟨kb, 0, none⟩ [.slice (some ⟨b, 0, none⟩) ((T.map Bx.v).length - 1) c0] 0) := by
      refine Keep.trans (hE.keep _) (Keep.trans (b := w5) (fun x hx hlt => hkp5 x (by simp at hx ⊢; rcases hx with hx | hx <;> simp [hx]) hlt) (hL.keep fun x hx _ => ?_))
      simp only [List.mem_singleton]
      intro e
      subst e
      rcases List.mem_append.1 hx with hx | hx
      · exact h.nlo hx
      · exact h.nbl hx
    refine hR _ (T[at_]) (List.getElem?_eq_getElem hat2) ⟨⟨some ⟨b, 0, none⟩, c0, ?_, (hf5.push hL (by simp)).mono fun x hx => List.mem_append_right _ hx⟩, h.nlo, h.nbl, fun x hx => ?_⟩ hkp (by have := hE.size; have := hch.size; have := hL.size; omega)
    · rw [hTe, ← hl]; exact hset
    · exact (h.box x (List.mem_of_mem_eraseIdx hx)).keep fun y hy hlt => hkp y (List.mem_append_right _ hy) hlt
end Go.Proofs.Ytijplekhbpigiaa
