/- Quant: the laws wake; nearest colours are the document's; indices are an image again. -/
import Derived.Test.YtijplekhbpigiaaQArgs
namespace Go.Proofs.Ytijplekhbpigiaa
open Go Go.Vc Go.RowKit Go.Qn
set_option maxRecDepth 100000
set_option linter.unusedVariables false
set_option linter.unusedSimpArgs false
set_option maxHeartbeats 4000000

def wkX : List Int := [0, 0, 0, 65535, 65535, 65535, 65535, 65535]
def wkP : List Co := [(0, 0, 0, 65535), (65535, 65535, 65535, 65535)]
theorem wk1 : palR 2 1 wkX 256 = (wkP, 0) := by decide +kernel
theorem wk2 : palR 2 1 wkX 1 = ([(65535, 65535, 65535, 65535)], 0) := by decide +kernel
theorem wk3 : appR 2 1 wkX wkP = (2, 1, wkP, [0, 1], 0) := by
  have h : (colsOf wkX ((2 : Int) * 1).toNat).map (idxV wkP) = [0, 1] := by decide +kernel
  unfold appR
  rw [if_pos (by decide +kernel), if_neg (by decide), h]
theorem wkOk : PxOk wkX := by
  intro x hx
  simp only [wkX, List.mem_cons, List.not_mem_nil, or_false] at hx
  unfold Byt
  omega
theorem ow_img {N M : Nat} {w : World} {p : Option Addr} {len cap : Nat} {xs : List Int} (h : Ow N M w p len cap 1 (px xs)) : Img w p len xs ∧ len ≤ cap := ⟨Img.of_ow h, h.2.1⟩
theorem pald_sl {w w' : World} {p q : Option Addr} {n c m d : Nat} {pal : List Co} {ix : List Int} (h : Pald w w' p n c pal q m d ix) : Sl w'.heap.size w' p (cos pal) ∧ Sl w'.heap.size w' q (bytes ix) ∧ n = pal.length ∧ m = ix.length := by
  obtain ⟨S1, S2, _, _, _, h1, h2⟩ := h.two
  have e1 := h1.own.1
  have e2 := h2.own.1
  rw [cos_length] at e1
  rw [bytes_length] at e2
  exact ⟨h1.own.sl, h2.own.sl, by omega, by omega⟩
theorem wakes_spec {w : World} {R : Ending → World → Prop} (hR : ∀ w', Ext w w' → R (.returned (.bool true)) w') : Calls P F.law14_wakes #[] w R := by
  refine calls_law14_wakes _ _ fun k1 w1 hn k2 hk2 w2 hL2 => ?_
  have hE2 : Ext w w2 := hn.ext.step hL2.chg (by have := hn.ext.size; simp; omega)
  have hi1 : Img w1 (some ⟨k1, 0, none⟩) 8 wkX := ⟨hn.cs.sl (off := 0) (by exact List.prefix_refl _) hn.size, rfl⟩
  have hk1 := hn.1
  have hk1' := hn.size
  have hi : Img w2 (some ⟨k1, 0, none⟩) 8 wkX := hi1.ext (hL2.ext (by simpa using hk2))
  refine own_spec hi (by decide) fun p1 c1 w3 hE3 ho3 => ⟨_, _, _, _, _, rfl, hE3.keep _, ?_⟩
  obtain ⟨i3, c3⟩ := ow_img ho3
  refine Palette_spec i3 c3 wkOk fun p2 c2 w4 hf4 => ?_
  rw [wk1] at hf4 ⊢
  refine ⟨_, _, _, _, rfl, hf4.ext.keep _, ?_⟩
  have hE24 := hE3.trans hf4.ext
  refine own_spec (hi.ext hE24) (by decide) fun p3 c3 w5 hE5 ho5 => ⟨_, _, _, _, _, rfl, hE5.keep _, ?_⟩
  obtain ⟨i5, c5⟩ := ow_img ho5
  refine Palette_spec i5 c5 wkOk fun p4 c4 w6 hf6 => ?_
  rw [wk2] at hf6 ⊢
  refine ⟨_, _, _, _, rfl, hf6.ext.keep _, ?_⟩
  have hE26 := (hE24.trans hE5).trans hf6.ext
  refine own_spec (hi.ext hE26) (by decide) fun p5 c5 w7 hE7 ho7 => ⟨_, _, _, _, _, rfl, hE7.keep _, ?_⟩
  obtain ⟨i7, c7⟩ := ow_img ho7
  have hE47 := (hE5.trans hf6.ext).trans hE7
  have s4 := hf4.sl
  obtain ⟨_, hle4, hx4⟩ := hf4.ow
  rcases hx4 with hx4 | ⟨b4, rest4, h40, h41, hp2, _, hC4⟩
  · have : (2 : Nat) ≤ c2 := hle4
    omega
  refine colours_spec (s4.ext hE47) rfl (by decide) fun p6 c6 w8 hE8 ho8 => ⟨_, _, _, rfl, hE8.keep _, ?_⟩
  refine Apply_spec (i7.ext hE8) c7 wkOk ho8.sl rfl (by decide) fun p7 c7 q7 d7 w9 hP => ?_
  rw [wk3] at hP ⊢
  refine ⟨_, _, _, _, _, _, _, _, _, rfl, hP.ext.keep _, fun k19 hk19 => brB_t (by decide) ?_⟩
  have hE49 := (hE47.trans hE8).trans hP.ext
  have hE29 := hE2.trans (((hE26.trans hE7).trans hE8).trans hP.ext)
  have hk2w := hL2.there k2 (by simp)
  have hs3 := hE3.size
  have hs49 := hE49.size
  have hs48 := (hE47.trans hE8).size
  have hs9 := hE29.size
  have hs1 := hn.ext.size
  subst hp2
  obtain ⟨S1, S2, _, hS2, _, _, o2, hbd⟩ := hP.two
  obtain ⟨_, hle7, hx7⟩ := o2
  rcases hx7 with hx7 | ⟨b7, rest7, hS7, hq7, _, hC7⟩
  · have : (2 : Nat) ≤ d7 := hle7
    omega
  subst hq7
  have h70 := hS2 b7 hS7
  have h71 := hbd b7 hS7
  have key : ∀ w10, Locl [k19, k2] w9 w10 → Ext w w10 ∧ Cs w10 b4 (cos wkP ++ rest4) ∧ Cs w10 b7 (bytes [0, 1] ++ rest7) := fun w10 hL10 =>
    ⟨hE29.step hL10.chg (by simp; omega), (hC4.ext hE49).locl hL10 (by simp; omega), hC7.locl hL10 (by simp; omega)⟩
  refine idx_i (a := ⟨b4, 0, none⟩) (by decide) (by decide) rfl fun w10 hL10 => ?_
  obtain ⟨hE10, hA, hB⟩ := key w10 hL10
  refine ⟨_, hA.cell (i := 0) rfl, brB_t (by decide) ?_⟩
  refine idx_i (a := ⟨b4, 0, none⟩) (by decide) (by decide) rfl ⟨_, hA.cell (i := 6) rfl, brB_t (by decide) ?_⟩
  refine idx_i (a := ⟨b7, 0, none⟩) (by decide) (by decide) rfl ⟨_, hB.cell (i := 1) rfl, ?_⟩
  exact hR w10 hE10
theorem applies_walk {w : World} {W H : Int} {p q : Option Addr} {len cap qn qc : Nat} {xs : List Int} {l : List Co} {R : Ending → World → Prop} (hi : ImgOk w W H p len cap xs) (hq : PalOk w q qn qc l) (hR : ∀ w', Ext w w' → R (.returned (.bool true)) w') :
    Calls P F.law14_QuantApplies #[.agg #[i64 W, i64 H, .slice p len cap], .slice q qn qc] w R := by
  refine calls_law14_QuantApplies _ _ _ _ _ _ _ _ _ _ ?_
  intro k1 hk1 w1 hL1
  have hE1 : Ext w w1 := hL1.ext (by simpa using hk1)
  have hs1 := hL1.size
  refine wakes_spec fun w2 hE2 => ⟨_, rfl, hE2.keep _, brB_f rfl ?_⟩
  have hE12 := hE1.trans hE2
  refine own_spec (hi.img.ext hE12) hi.sz fun p3 c3 w3 hE3 ho3 => ⟨_, _, _, _, _, rfl, hE3.keep _, ?_⟩
  obtain ⟨i3, c3'⟩ := ow_img ho3
  have hE13 := hE12.trans hE3
  have hsz := hq.sz
  refine colours_spec (hq.sl.ext hE13) hq.long (by omega) fun p4 c4 w4 hE4 ho4 => ⟨_, _, _, rfl, hE4.keep _, ?_⟩
  refine Apply_spec (i3.ext hE4) c3' hi.fit ho4.sl hq.long (by omega) fun p5 c5 q5 d5 w5 hP5 => ⟨_, _, _, _, _, _, _, _, _, rfl, hP5.ext.keep _, fun k10 hk10 w6 hL6 => ?_⟩
  have hE15 := (hE13.trans hE4).trans hP5.ext
  have hs15 := hE15.size
  have ht1 := hL1.there k1 (by simp)
  have hE6 : Ext w w6 := hE15.step hL6.chg (by simp; omega)
  refine rApply_spec (hi.img.ext hE6) hi.fit (hq.sl.ext hE6) hq.long (by omega) fun p7 c7 q7 d7 w7 hP7 => ⟨_, _, _, _, _, _, _, _, _, rfl, hP7.ext.keep _, fun k15 hk15 w8 hL8 => ?_⟩
  have hE67 := hP7.ext
  have hE7 := hE6.trans hE67
  have hs7 := hE7.size
  have hs67 := hE67.size
  have hE8 : Ext w w8 := hE7.step hL8.chg (by simp; omega)
  have hs5 := hP5.ext.size
  have hs14 := (hE13.trans hE4).size
  have hk14 : k1 < w4.heap.size := Nat.lt_of_lt_of_le ht1 ((hE2.trans hE3).trans hE4).size
  -- both are still there
  obtain ⟨S1, S2, a1, a2, _, o1, o2⟩ := hP5.two
  obtain ⟨T1, T2, b1, b2, _, u1, u2⟩ := hP7.two
  have hs6 := hL6.size
  have t10 := hL6.there k10 (by simp)
  have c56 : ∀ b, (S1 b ∨ S2 b) → b < w5.heap.size → ¬ (b ∈ [k10, k1]) := fun b hb hlt hm => by
    simp at hm
    rcases hb with hb | hb
    · have := a1 b hb; omega
    · have := a2 b hb; omega
  have x1 := (o1.chg hL6.chg fun b hb hm => c56 b (.inl hb) (o1.bd b hb) hm).ext hE67
  have x2 := (o2.chg hL6.chg fun b hb hm => c56 b (.inr hb) (o2.bd b hb) hm).ext hE67
  have d78 : ∀ b, w4.heap.size ≤ b → (b < w5.heap.size ∨ w6.heap.size ≤ b) → b < w7.heap.size → ¬ (b ∈ [k15, k10, k1]) := fun b h0 h1 h2 hm => by
    simp at hm
    omega
  have y1 := x1.chg hL8.chg fun b hb hm => d78 b (a1 b hb) (.inl (o1.bd b hb)) (x1.bd b hb) hm
  have y2 := x2.chg hL8.chg fun b hb hm => d78 b (a2 b hb) (.inl (o2.bd b hb)) (x2.bd b hb) hm
  have z1 := u1.chg hL8.chg fun b hb hm => d78 b (by have := b1 b hb; omega) (.inr (b1 b hb)) (u1.bd b hb) hm
  have z2 := u2.chg hL8.chg fun b hb hm => d78 b (by have := b2 b hb; omega) (.inr (b2 b hb)) (u2.bd b hb) hm
  have l1 : (appR W H xs l).2.2.1.length < 2 ^ 62 := by unfold appR; split <;> (try split) <;> simp <;> have := hq.long <;> omega
  have l2 : (appR W H xs l).2.2.2.1.length < 2 ^ 62 := by
    unfold appR
    split
    · rename_i hg
      obtain ⟨g1, g2⟩ := good_iff.1 hg
      obtain ⟨_, _, _, _, g5⟩ := gfits_iff.1 g1
      split <;> simp [colsOf_length]
      omega
    · simp
  refine SameP_spec y1.own.sl rfl y2.own.sl rfl z1.own.sl rfl z2.own.sl rfl l1 l2 fun w9 hE9 => ⟨_, rfl, hE9.keep _, to_bool (hR w9 (hE8.trans hE9)) ?_⟩
  simp
end Go.Proofs.Ytijplekhbpigiaa
