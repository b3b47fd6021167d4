/- Blend: the outcome of two images: the program's walk. -/
import Derived.Test.YtombfebgojeliaaBL7
namespace Go.Proofs.Ytombfebgojeliaa
open Go Go.Vc Go.RowKit
set_option maxRecDepth 100000
set_option linter.unusedVariables false
set_option linter.unusedSimpArgs false

set_option maxHeartbeats 8000000 in
theorem Apply_spec {w : World} {op : ByteArray} {pa p q : Option Addr} {la ca lp cp lq cq : Nat} {args xs ys : List Int} {W H V G : Int} {R : Ending → World → Prop} (ha : Ints w pa la args)
    (hp : Img w p lp xs) (hq : Img w q lq ys) (hcp : lp ≤ cp) (hcq : lq ≤ cq) (hxs : SmL xs) (hys : SmL ys)
    (hR : ∀ p' l' c' w', Fg [] w w' 1 p' l' c' (px (appR op args W H xs V G ys).2.2.1) → R (.returned (.tuple #[.agg #[i64 (appR op args W H xs V G ys).1, i64 (appR op args W H xs V G ys).2.1, .slice p' l' c'], i64 (appR op args W H xs V G ys).2.2.2])) w') :
    Calls P F.blend_Apply #[.string op, .slice pa la ca, .agg #[i64 W, i64 H, .slice p lp cp], .agg #[i64 V, i64 G, .slice q lq cq]] w R := by
  refine calls_blend_Apply _ _ _ _ _ _ _ _ _ _ _ _ _ _ _ _ ?_
  intro k1 hk1 k2 hk2 k3 hk3 k4 hk4 k5 hk5 w1 hL1
  have hb5 : ∀ b, b ∈ [k5, k4, k3, k2, k1] → w.heap.size ≤ b := by simp; omega
  have hE1 := Locl.exW (Ext.refl w) hL1 hb5
  have t1 := hL1.there k1 (by simp)
  have t2 := hL1.there k2 (by simp)
  have t3 := hL1.there k3 (by simp)
  have t4 := hL1.there k4 (by simp)
  have t5 := hL1.there k5 (by simp)
  refine Check_spec (ha.ext hE1) fun w2 hE2 => ⟨_, rfl, hE2.keep _, brB_i (fun hb w3 hL3 => ?_) (fun hb => ?_)⟩
  · have hb : chkR op args ≠ 0 := by simpa using hb
    unfold appR at hR
    rw [if_pos hb] at hR
    exact hR none 0 0 w3 (Fg.nil (Locl.exW (hE1.trans hE2) hL3 hb5) 1)
  have hb : chkR op args = 0 := by simpa using hb
  have hE12 := hE1.trans hE2
  refine good_spec hp.len fun w4 hE4 => ⟨_, rfl, hE4.keep _, brB_i (fun hb1 w5 hL5 => ?_) (fun hb1 => ?_)⟩
  · have hb1 : good W H xs = false := by simpa using hb1
    unfold appR at hR
    rw [if_neg (by omega), if_pos (.inl hb1)] at hR
    exact hR none 0 0 w5 (Fg.nil (Locl.exW (hE12.trans hE4) hL5 hb5) 1)
  have hb1 : good W H xs = true := by simpa using hb1
  refine good_spec hq.len fun w6 hE6 => ⟨_, rfl, hE6.keep _, brB_i (fun hb2 w7 hL7 => ?_) (fun hb2 => ?_)⟩
  · have hb2 : good V G ys = false := by simpa using hb2
    unfold appR at hR
    rw [if_neg (by omega), if_pos (.inr hb2)] at hR
    exact hR none 0 0 w7 (Fg.nil (Locl.exW ((hE12.trans hE4).trans hE6) hL7 hb5) 1)
  have hb2 : good V G ys = true := by simpa using hb2
  have hE6' := (hE12.trans hE4).trans hE6
  refine Size_spec (ha.ext hE6') fun w8 hE8 => ⟨_, _, _, rfl, hE8.keep _, brB_i (fun hb4 w9 hL9 => ?_) (fun hb4 => ?_)⟩
  · have hb4 : (sizeR op args W H V G).2.2 ≠ 0 := by simpa using hb4
    unfold appR at hR
    rw [if_neg (by omega), if_neg (by simp [hb1, hb2]), if_pos hb4] at hR
    exact hR none 0 0 w9 (Fg.nil (Locl.exW (hE6'.trans hE8) hL9 hb5) 1)
  have hb4 : (sizeR op args W H V G).2.2 = 0 := by simpa using hb4
  unfold appR at hR
  rw [if_neg (by omega), if_neg (by simp [hb1, hb2]), if_neg (by omega)] at hR
  obtain ⟨hfit, z1, z2, z3⟩ := size_facts hb4
  generalize sizeR op args W H V G = z at *
  obtain ⟨ow, oh, oe⟩ := z
  simp only at hb4 hfit z1 z2 z3 hR
  obtain ⟨g1, g2, g3, g4, g5⟩ := gfits_iff.1 hfit
  obtain ⟨a1, a2, a3, a4, a5⟩ := gfits_iff.1 (good_iff.1 hb1).1
  obtain ⟨b1, b2, b3, b4, b5⟩ := gfits_iff.1 (good_iff.1 hb2).1
  have hE8' := hE6'.trans hE8
  have s8 : w1.heap.size ≤ w8.heap.size := Nat.le_trans hE2.size (Nat.le_trans hE4.size (Nat.le_trans hE6.size hE8.size))
  have hnn : 0 ≤ ow * oh := Int.mul_nonneg (by omega) (by omega)
  -- beside, below
  have htwo : (op = sBeside ∧ ow = W + V ∧ oh = H ∧ H = G ∨ op = sBelow ∧ ow = W ∧ W = V ∧ oh = H + G) →
      Calls P F.raster_Fill #[i64 ow, i64 oh, .agg #[u16 0, u16 0, u16 0, u16 0]] w8 fun e5 w10 => ∃ n5 n6 p1 k6 k7 n7, e5 = .returned (.tuple #[.agg #[i64 n5, i64 n6, .slice p1 k6 k7], i64 n7]) ∧ Keep [k5, k4, k3, k2, k1] w8 w10 ∧
        ∀ k8, w10.heap.size ≤ k8 → ∀ w11, Locl [k8, k5, k4, k3, k2, k1] w10 w11 →
        Calls P F.raster_Paste #[.agg #[i64 n5, i64 n6, .slice p1 k6 k7], .agg #[i64 W, i64 H, .slice p lp cp], i64 0, i64 0] w11 fun e6 w12 => ∃ n8 n9 p2 k9 k10 n10, e6 = .returned (.tuple #[.agg #[i64 n8, i64 n9, .slice p2 k9 k10], i64 n10]) ∧ Keep [k8, k5, k4, k3, k2, k1] w11 w12 ∧
        ∀ w13, Locl [k8, k5, k4, k3, k2, k1] w12 w13 →
        Calls P F.raster_Paste #[.agg #[i64 n8, i64 n9, .slice p2 k9 k10], .agg #[i64 V, i64 G, .slice q lq cq], i64 (IntKind.i64.wrap (ow - V)), i64 (IntKind.i64.wrap (oh - G))] w13 fun e7 w14 => ∃ n11 n12 p3 k11 k12 n13, e7 = .returned (.tuple #[.agg #[i64 n11, i64 n12, .slice p3 k11 k12], i64 n13]) ∧ Keep [k8, k5, k4, k3, k2, k1] w13 w14 ∧
        ∀ w15, Locl [k8, k5, k4, k3, k2, k1] w14 w15 → R (.returned (.tuple #[.agg #[i64 n11, i64 n12, .slice p3 k11 k12], i64 n13])) w15 := fun hcase => by
    have htp := two_px (args := args) hb1 hb2 hfit hcase
    refine Fill_spec (c := zeroC) fun p1 l1 c1 w10 hf1 => ?_
    rw [fillR, if_pos hfit] at hf1 ⊢
    refine ⟨_, _, _, _, _, _, rfl, hf1.ext.keep _, fun k8 hk8 w11 hL11 => ?_⟩
    have s10 := hf1.ext.size
    have f11 := (hf1.from (bs := [k5, k4, k3, k2, k1]) hE8' (by simp; omega)).push hL11 (by simp; omega)
    have t8 := hL11.there k8 (by simp)
    have s11 := hL11.size
    have len1 := (Img.of_fg f11).len
    rw [fillX_length] at len1
    refine Paste_spec (Img.of_fg f11) (hp.ext f11.ext) hcp (by omega) (by omega) (by omega) fun p2 l2 c2 w12 hf2 => ⟨_, _, _, _, _, _, rfl, hf2.ext.keep _, fun w13 hL13 => ?_⟩
    have s12 := hf2.ext.size
    have f13 := (hf2.from (bs := [k8, k5, k4, k3, k2, k1]) f11.ext (by simp; omega)).push hL13 (by simp)
    have s13 := hL13.size
    rw [w64 (x := ow - V) (by omega) (by omega), w64 (x := oh - G) (by omega) (by omega)]
    have len2 := (Img.of_fg f13).len
    have e1 : (pasteR ow oh (fillX (ow * oh).toNat zeroC) W H xs 0 0).1 = ow ∧ (pasteR ow oh (fillX (ow * oh).toNat zeroC) W H xs 0 0).2.1 = oh ∧ (pasteR ow oh (fillX (ow * oh).toNat zeroC) W H xs 0 0).2.2.1.length = 4 * (ow * oh).toNat := by
      unfold pasteR
      rw [fillX_flat, good_flat hfit, hb1]
      simp [pasteX, flat_length]
    rw [e1.1, e1.2.1]
    refine Paste_spec (Img.of_fg f13) (hq.ext f13.ext) hcq (by rw [len2, e1.2.2]; omega) (by omega) (by omega) fun p3 l3 c3 w14 hf3 => ⟨_, _, _, _, _, _, rfl, hf3.ext.keep _, fun w15 hL15 => ?_⟩
    have f15 := ((hf3.from (bs := [k8, k5, k4, k3, k2, k1]) f13.ext (by simp; omega)).push hL15 (by simp)).weak
    rw [htp] at f15 ⊢
    exact hR _ _ _ _ f15
  refine brB_i (fun hc1 => ?_) (fun hc1 => ?_)
  · have hc1 : op = sBeside := by simpa using hc1
    obtain ⟨e1, e2, e3⟩ := z1 hc1
    exact htwo (.inl ⟨hc1, e1, e2, e3⟩)
  have n3 : op ≠ sBeside := by simpa using hc1
  refine brB_i (fun hc2 => ?_) (fun hc2 => ?_)
  · have hc2 : op = sBelow := by simpa using hc2
    obtain ⟨e1, e2, e3⟩ := z2 hc2
    exact htwo (.inr ⟨hc2, e1, e2, e3⟩)
  have n4 : op ≠ sBelow := by simpa using hc2
  clear htwo
  obtain ⟨rfl, rfl, hsz⟩ := z3 n3 n4
  refine Grid_spec (hp.ext hE8') hcp (fun hf => by rw [hb1] at hf; cases hf) fun _ gb cb w22 hE22 hgb hcb hg22 => ⟨_, _, rfl, hE22.keep _, fun k20 hk20 => ?_⟩
  have s22 := hE22.size
  have glt := hg22.lt
  have hE22' := hE8'.trans hE22
  let v1 : Value := (fnOr (fidOf op)).1
  let n : Nat := (ow * oh).toNat
  let f : Nat → Co := pf op args ow oh xs V G ys ow
  let g : Nat → Co := colAt xs
  have hg22 : GridC w22 (some ⟨gb, 0, none⟩) gb cb ow oh (Lk f g n 0) := by rw [Lk_zero]; exact hg22
  let I1 : List Value → World → Prop := fun vs u => ∃ k, vs = [.pointer (some ⟨k, 0, none⟩), v1] ∧ w22.heap.size ≤ k ∧ k < u.heap.size ∧ k20 < u.heap.size ∧ Ext w u ∧ GridC u (some ⟨gb, 0, none⟩) gb cb ow oh (Lk f g n 0)
  have hst : ∀ {u u' : World} {k : Nat}, Ext w u → w22.heap.size ≤ u.heap.size → GridC u (some ⟨gb, 0, none⟩) gb cb ow oh (Lk f g n 0) → w22.heap.size ≤ k → Locl [k, k20, k5, k4, k3, k2, k1] u u' → I1 [.pointer (some ⟨k, 0, none⟩), v1] u' := fun {u u' k} hE hs hG hk hL =>
    ⟨k, rfl, hk, hL.there _ (by simp), hL.there _ (by simp), hE.step hL.chg (by simp; omega), hG.chg hL.chg (by simp; omega) (by simp; omega)⟩
  have hmS := mgot_S op
  have hsum : ∀ {Q : Value → Prop}, Q v1 → ((∃ c3 : Bool, mgot kvS (.string op) .nilFunc = (.nilFunc, c3) ∧ Q .nilFunc) ∨
      (∃ y1 : FuncId, ∃ y2 : Array Value, ∃ y3 : Array Value, ∃ c4 : Bool, mgot kvS (.string op) .nilFunc = (.func (.func y1) y2 y3, c4) ∧ Q (.func (.func y1) y2 y3))) := fun {Q} h => by
    cases hf : fidOf op with
    | none =>
      have e : v1 = .nilFunc := by show (fnOr (fidOf op)).1 = _; rw [hf]; rfl
      rw [hf] at hmS; rw [e] at h
      exact .inl ⟨false, hmS, h⟩
    | some m =>
      have e : v1 = fnV m := by show (fnOr (fidOf op)).1 = _; rw [hf]; rfl
      rw [hf] at hmS; rw [e] at h
      exact .inr ⟨m, #[], #[], true, hmS, h⟩
  refine ⟨I1, ⟨fun w23 hL23 => ?_, fun k24 hk24 w30 hL30 => ?_⟩, fun k25 v0 w34 hI1 => ?_⟩
  · have E23 : Ext w w23 := hE22'.step hL23.chg (by simp; omega)
    have G23 := hg22.chg hL23.chg (by simp; omega) (by simp; omega)
    have s23 := hL23.size
    have t20 := hL23.there k20 (by simp)
    refine sums_spec fun mb w24 hE24 hmb hMp => ⟨_, rfl, hE24.keep _, hE24.keeps, ⟨kvS, hMp, hsum (Q := fun v => ∀ k21, w24.heap.size ≤ k21 → ∀ w25, Locl [k21, k20, k5, k4, k3, k2, k1] w24 w25 → I1 [.pointer (some ⟨k21, 0, none⟩), v] w25) fun k21 hk21 w25 hL25 => ?_⟩, fun k23 hk23 w27 hL27 => ⟨kvS, ?_, hsum (Q := fun v => ∀ w25, Locl [k23, k20, k5, k4, k3, k2, k1] w27 w25 → I1 [.pointer (some ⟨k23, 0, none⟩), v] w25) fun w28 hL28 => ?_⟩⟩
    · have s24 := hE24.size
      exact hst (E23.trans hE24) (by omega) (G23.ext hE24) (by omega) hL25
    · have hlt := mp_lt hMp
      exact hMp.same (hL27.block mb hlt (by simp; omega))
    · have s24 := hE24.size
      have s27 := hL27.size
      have E24 := E23.trans hE24
      have G24 := G23.ext hE24
      exact hst (E24.step hL27.chg (by simp; omega)) (by omega) (G24.chg hL27.chg (by simp; omega) (by simp; omega)) (by omega) hL28
  · have E30 : Ext w w30 := hE22'.step hL30.chg (by simp; omega)
    have G30 := hg22.chg hL30.chg (by simp; omega) (by simp; omega)
    have s30 := hL30.size
    refine sums_spec fun mb w31 hE31 hmb hMp => ⟨_, rfl, hE31.keep _, hE31.keeps, ⟨kvS, hMp, hsum (Q := fun v => ∀ w25, Locl [k24, k20, k5, k4, k3, k2, k1] w31 w25 → I1 [.pointer (some ⟨k24, 0, none⟩), v] w25) fun w32 hL32 => ?_⟩⟩
    have s31 := hE31.size
    exact hst (E30.trans hE31) (by omega) (G30.ext hE31) (by omega) hL32
  clear hsum hst
  obtain ⟨k25', e25, q1, q2, q3, hE34, hg34⟩ := hI1
  simp only [List.cons.injEq, Value.pointer.injEq, Option.some.injEq, Addr.mk.injEq, and_true] at e25
  obtain ⟨rfl, rfl⟩ := e25
  clear I1
  refine GAll_spec fun kb w35 hE35 hkb hcb => ⟨_, _, _, rfl, hE35.keep _, fun k26 w36 hrf I2 Z1 stI stZ hI0 rule => ?_⟩
  have s35 := hE35.size
  have hk26 := hrf.eq
  have s36 := hrf.size
  have hkb35 := hcb.lt
  have glt34 := hg34.lt
  let J : Nat → World → Prop := fun k u => k ≤ n ∧ I2 [] u ∧ Bt w u (some ⟨gb, 0, none⟩) gb cb kb ow oh (Lk f g n k) w36.heap.size
  have B36 : Bt w w36 (some ⟨gb, 0, none⟩) gb cb kb ow oh (Lk f g n 0) w36.heap.size := ⟨(hg34.ext hE35).ext hrf.ext, hcb.ext hrf.ext, (hE34.trans hE35).trans hrf.ext, Nat.le_refl _⟩
  refine callF_i (by kernel_rfl) ?_
  refine GAll_iter2 J (q := some ⟨gb, 0, none⟩) (gb := gb) (cb := cb) (W := ow) (H := oh) (n := n) g (by omega) (fun k u ⟨j0, j1, j2⟩ => ⟨j2.c.cell (i := 0) rfl, _, j2.g, fun h => Lk_get h⟩) ⟨Nat.zero_le _, stI _ _ _ hI0 ((Ext.refl w36).drew.keep _), B36.drew⟩ (fun k u hk ⟨j0, j1, B0⟩ => ?_) (fun u ⟨j0, j1, B0⟩ => ?_)
  · have hkn : (k : Int) < ow * oh := by omega
    have m0 : 0 ≤ (k : Int) % ow := Int.emod_nonneg _ (by omega)
    have m1 : (k : Int) % ow < ow := Int.emod_lt_of_pos _ (by omega)
    have d0 : 0 ≤ (k : Int) / ow := Int.ediv_nonneg (by omega) (by omega)
    have d1 : (k : Int) / ow < oh := Int.ediv_lt_of_lt_mul (by omega) (by rw [Int.mul_comm]; exact hkn)
    have hkk : (((k : Int) / ow) * ow + (k : Int) % ow).toNat = k := by
      have := Int.mul_ediv_add_emod (k : Int) ow
      rw [Int.mul_comm] at this; omega
    have hpf : f k = _ := pf_rnd hb hb1 hb2 hxs hys n3 n4 hsz hkn
    have hck : CoOk (g k) := hxs.col k
    have N0 := B0.n
    refine rule _ _ _ _ _ _ u.drew _ (stI _ _ _ j1 ((Ext.refl u).drew.keep _)) fun y14 y15 k27 hk27 k28 hk28 w42 hL42 w43 hP43 => ?_
    have hk27 : u.heap.size ≤ k27 := hk27
    have hk28 : u.heap.size ≤ k28 := hk28
    have t27 := hL42.there k27 (by simp)
    have t28 := hL42.there k28 (by simp)
    have B42 := B0.drew.locl hL42 (by simp; omega)
    have B43 := B42.put hP43 (by omega) (by omega) (by omega) (by omega)
    have s43 := hP43.size
    refine ⟨fun _ u' => Bt w u' (some ⟨gb, 0, none⟩) gb cb kb ow oh (Lk f g n (k + 1)) w36.heap.size, ⟨fun vs u' => vs = [i64 (plc op args ((k : Int) % ow) ((k : Int) / ow)).1, i64 (plc op args ((k : Int) % ow) ((k : Int) / ow)).2] ∧ Bt w u' (some ⟨gb, 0, none⟩) gb cb kb ow oh (Lk f g n k) w36.heap.size ∧ w43.heap.size ≤ u'.heap.size, ?_, ?_⟩, fun n59 n60 n61 n62 w65 hI4 w66 hP66 hI66 => .inl ⟨rfl, by omega, hI66, hI4.put hP66 (by omega) (by omega) (by omega) (by omega)⟩⟩
    · refine brB_i (fun hb5 => ?_) (fun hb5 => ?_)
      · have hb5 : op = sOver := by simpa using hb5
        obtain ⟨r1, r2, r3⟩ := over_args hb hb5
        have haa := ha.ext B43.drew.drew.e
        have hl := ha.lth
        refine haa.at_ (by omega) (by omega) fun A hA => ⟨_, hA, haa.at_ (by omega) (by omega) fun A' hA' => ⟨_, hA', ?_⟩⟩
        rw [show (0 : Int).toNat = 0 from rfl, show (1 : Int).toNat = 1 from rfl, w64 (x := (k : Int) % ow - args.getD 0 0) (by omega) (by omega), w64 (x := (k : Int) / ow - args.getD 1 0) (by omega) (by omega)]
        refine ⟨?_, B43.drew.drew, Nat.le_refl _⟩
        unfold plc; rw [if_pos hb5]
      · have hb5 : op ≠ sOver := by simpa using hb5
        refine ⟨?_, B43.drew, Nat.le_refl _⟩
        unfold plc; rw [if_neg hb5]
    intro n32 n33 w44 hI5
    obtain ⟨e5, B44, s44⟩ := hI5
    simp only [List.cons.injEq, Value.int.injEq, true_and, and_true] at e5
    obtain ⟨rfl, rfl⟩ := e5
    generalize plc op args ((k : Int) % ow) ((k : Int) / ow) = pl at *
    have hdk : CoOk (atC V G ys pl.1 pl.2) := atC_ok hys _ _
    refine At_spec (hq.ext B44.e) hcq fun w45 hE45 => ⟨_, _, _, _, _, rfl, hE45.keep _, fun k29 hk29 => ?_⟩
    have B45 := B44.ext hE45
    have s45 := hE45.size
    have hav : ∀ b, b ∈ [k29, k28, k27, k25, k20, k5, k4, k3, k2, k1] → w.heap.size ≤ b ∧ b ≠ gb ∧ b ≠ cb ∧ b ≠ kb := by simp; omega
    refine ⟨fun vs u' => vs = [u16 (rndC op args (g k) (atC V G ys pl.1 pl.2)).1, u16 (rndC op args (g k) (atC V G ys pl.1 pl.2)).2.1, u16 (rndC op args (g k) (atC V G ys pl.1 pl.2)).2.2.1, u16 (rndC op args (g k) (atC V G ys pl.1 pl.2)).2.2.2] ∧ isAt V G ys pl.1 pl.2 = true ∧ Bt w u' (some ⟨gb, 0, none⟩) gb cb kb ow oh (Lk f g n k) w36.heap.size ∧ w45.heap.size ≤ u'.heap.size ∧ k29 < u'.heap.size, ?_, ?_⟩
    · refine brB_i (fun hat => fun w46 hL46 => ?_) (fun hat => ?_)
      · have hat : isAt V G ys pl.1 pl.2 = false := by simpa using hat
        rw [if_neg (by rw [hat]; decide)] at hpf
        have := B45.locl hL46 (by simp; omega)
        rw [Lk_same hk hpf] at this
        exact this
      have hat : isAt V G ys pl.1 pl.2 = true := by simpa using hat
      generalize hd' : atC V G ys pl.1 pl.2 = d at *
      refine brB_i (fun ho => fun w47 hL47 => ?_) (fun ho => ?_)
      · have ho : op = sOver := by simpa using ho
        have B47 := B45.locl hL47 (by simp; omega)
        have s47 := hL47.size
        refine over_spec hck hdk fun w48 hE48 => ⟨_, _, _, _, rfl, hE48.keep _, fun w49 hL49 => ⟨?_, hat, ?_, ?_, ?_⟩⟩
        · unfold rndC; rw [if_pos ho]
        · exact (B47.ext hE48).locl hL49 (by simp; omega)
        · exact Nat.le_trans s47 (Nat.le_trans hE48.size hL49.size)
        · exact hL49.there k29 (by simp)
      have ho : op ≠ sOver := by simpa using ho
      refine brB_i (fun hm => ?_) (fun hm => fun w57 hL57 => ?_)
      · have hm : op = sMix := by simpa using hm
        obtain ⟨r1, r2, r3⟩ := mix_args hb hm
        have hl := ha.lth
        have hck' := hck
        have hdk' := hdk
        obtain ⟨hc1', hc2', hc3', hc4'⟩ := hck
        obtain ⟨hd1', hd2', hd3', hd4'⟩ := hdk
        have wr : ∀ {x : Int}, Sm x → IntKind.i64.wrap x = x := fun h => by unfold Sm at h; exact w64 (by omega) (by omega)
        refine ha.atE (by omega) (by omega) fun A hA => fun w50 hL50 => ?_
        have B50 := B45.locl hL50 (by simp; omega)
        have s50 := hL50.size
        refine ⟨_, hA w50 B50.e, mix_spec (a := args.getD 0 0) r2 r3 fun y16 y17 y18 w51 hE51 hFn => ⟨_, _, _, rfl, hE51.keep _, hE51.keeps, ?_⟩⟩
        obtain ⟨y, ya, yb, ey, hk'⟩ := hFn
        rw [wr hc4', wr hd4']
        refine hk' w51 (Ext.refl _) _ _ hc4' hd4' _ fun w52 hE52 => ⟨_, rfl, hE52.keep _, clamp_spec ⟨_, rfl, (Ext.refl _).keep _, ?_⟩⟩
        have B52 := (B50.ext hE51).ext hE52
        refine ha.atE (by omega) (by omega) fun A' hA' => ⟨_, hA' _ B52.drew.e, mix_spec (a := args.getD 0 0) r2 r3 fun y19 y20 y21 w54 hE54 hFn2 => ⟨_, _, _, rfl, hE54.keep _, hE54.keeps, ?_⟩⟩
        refine three_spec hFn2 hck' hdk' fun w55 hE55 => ⟨_, _, _, _, rfl, hE55.keep _, fun w56 hL56 => ⟨?_, hat, ?_, ?_, ?_⟩⟩
        · unfold rndC; rw [if_neg ho, if_pos hm]
        · exact ((B52.drew.ext hE54).ext hE55).locl hL56 (by simp; omega)
        · have q1 := hE51.size
          have q2 := hE52.size
          have q3 : w52.heap.size ≤ w54.heap.size := hE54.size
          have q4 := hE55.size
          have q5 := hL56.size
          omega
        · exact hL56.there k29 (by simp)
      · have hm : op ≠ sMix := by simpa using hm
        have B57 := B45.locl hL57 (by simp; omega)
        have s57 := hL57.size
        obtain ⟨m, hfm⟩ := args_fid hb ho hm n3 n4
        have ev : v1 = fnV m := by show (fnOr (fidOf op)).1 = _; rw [hfm]; rfl
        rw [ev]
        refine three_spec (fid_is hfm) hck hdk fun w58 hE58 => ⟨_, _, _, _, rfl, hE58.keep _, fun w59 hL59 => ⟨?_, hat, ?_, ?_, ?_⟩⟩
        · unfold rndC; rw [if_neg ho, if_neg hm]
        · exact (B57.ext hE58).locl hL59 (by simp; omega)
        · exact Nat.le_trans s57 (Nat.le_trans hE58.size hL59.size)
        · exact hL59.there k29 (by simp)
    intro n54 n55 n56 n57 w60 hI6
    obtain ⟨e6, hat, B60, s60, t29⟩ := hI6
    simp only [List.cons.injEq, Value.int.injEq, true_and, and_true] at e6
    obtain ⟨rfl, rfl, rfl, rfl⟩ := e6
    rw [if_pos hat] at hpf
    generalize hd' : atC V G ys pl.1 pl.2 = d at *
    have hok : CoOk (rndC op args (g k) d) := rndC_ok hck
    have hset : ∀ {u' : World} {c' : Co} {K : Ending → World → Prop}, Bt w u' (some ⟨gb, 0, none⟩) gb cb kb ow oh (Lk f g n k) w36.heap.size → w45.heap.size ≤ u'.heap.size → k29 < u'.heap.size → c' = f k → (∀ w63, Keep [k26, w35.heap.size, k29, k28, k27, k25, k20, k5, k4, k3, k2, k1] u' w63 → Bt w w63 (some ⟨gb, 0, none⟩) gb cb kb ow oh (Lk f g n (k + 1)) w36.heap.size → K (.returned (.bool true)) w63) →
        Calls P F.grid_Grid_api_Color_Set #[.pointer (some ⟨gb, 0, none⟩), i64 ((k : Int) % ow), i64 ((k : Int) / ow), .agg (co c').toArray] u' K := fun {u' c' K} hB hs hk29' hc hK => by
      refine GSet2_spec hB.g m0 d0 m1 d1 fun w63 hC hG => hK w63 (hC.keep (by simp; omega)) ⟨?_, hB.c.chg hC (by omega), hB.e.step hC (by intro i hi; omega), Nat.le_trans hB.n hC.size⟩
      rw [hkk, hc, Lk_succ hk] at hG
      exact hG
    refine brB_i (fun hm => ?_) (fun hm => ?_)
    · have hm : op = sMask := by simpa using hm
      refine Luma_spec hdk fun w61 hE61 => ⟨_, rfl, hE61.keep _, hE61.keeps, fun w62 hL62 => ?_⟩
      have B62 := (B60.drew.ext hE61).locl hL62 (by simp; omega)
      have s61 := hE61.size
      have s62 := hL62.size
      have hlu := luma_sm hdk
      obtain ⟨h1', h2', h3', h4'⟩ := hok
      have hpr := prod_range h4' hlu
      have eq4 : IntKind.u16.wrap (divZ BinOp.quo IntKind.i64 (IntKind.i64.wrap (IntKind.i64.wrap (rndC op args (g k) d).2.2.2 * IntKind.i64.wrap (lumaI d))) 65535) = (rndC op args (g k) d).2.2.2 * lumaI d / 65535 := by
        unfold Sm at h4' hlu
        rw [w64 (x := (rndC op args (g k) d).2.2.2) (by omega) (by omega), w64 (x := lumaI d) (by omega) (by omega), w64 (by omega) (by omega), quoP (by omega) (by omega) (by omega)]
        exact wu16 (by omega) (by omega)
      rw [eq4]
      refine hset (c' := ((rndC op args (g k) d).1, (rndC op args (g k) d).2.1, (rndC op args (g k) d).2.2.1, (rndC op args (g k) d).2.2.2 * lumaI d / 65535)) B62 ?_ (hL62.there k29 (by simp)) ?_ fun w63 hk63 hB63 => ⟨_, rfl, hk63, hB63⟩
      · exact Nat.le_trans s60 (Nat.le_trans s61 s62)
      · rw [hpf]; unfold rndM; rw [if_pos hm]
    · have hm : op ≠ sMask := by simpa using hm
      refine hset (c' := rndC op args (g k) d) B60 s60 t29 ?_ fun w63 hk63 hB63 => ⟨_, rfl, hk63, hB63⟩
      rw [hpf]; unfold rndM; rw [if_neg hm]
  · have N0 := B0.n
    refine ⟨_, rfl, .inl ⟨j1, fun w68 hP68 => ?_⟩⟩
    have B68 := B0.put hP68 (by omega) (by omega) (by omega) (by omega)
    have hG := B68.g
    rw [Lk_end] at hG
    have N68 := B68.n
    refine Of_spec hG fun p' c' w69 hf69 => ⟨_, _, _, _, _, _, rfl, hf69.ext.keep _, fun w70 hL70 w71 hP71 => ?_⟩
    have s69 := hf69.ext.size
    have s70 := hL70.size
    have f69 := hf69.from (bs := [w35.heap.size, k25, k20, k5, k4, k3, k2, k1]) B68.e (by simp; omega)
    have f70 := f69.push hL70 (by simp)
    have f71 := (f70.push (hP71.locl (by omega)) (by simp)).weak
    exact hR _ _ _ _ f71
end Go.Proofs.Ytombfebgojeliaa
