/- GridTiles: its function answers true, and nothing that was there turns. -/
import Derived.Test.YtpdfpbioolbjjaaTiles2
namespace Go.Proofs.Ytpdfpbioolbjjaa
open Go Go.Vc Go.RowKit
set_option maxRecDepth 100000
set_option linter.unusedVariables false
set_option linter.unusedSimpArgs false

theorem TilesF_spec {w : World} {W H tw th : Int} {R : Ending → World → Prop}
    (hR : ∀ b1 b2 b3 b4 w', Ext w w' → b1 < w'.heap.size → b2 < w'.heap.size → b3 < w'.heap.size → b4 < w'.heap.size → w.heap.size ≤ b1 → w.heap.size ≤ b2 → w.heap.size ≤ b3 → w.heap.size ≤ b4 → Cs w' b1 [i64 W] → Cs w' b2 [i64 H] → Cs w' b3 [i64 tw] → Cs w' b4 [i64 th] →
      R (.returned (.func (.func F.grid_Tiles_fn1) #[] #[.pointer (some ⟨b1, 0, none⟩), .pointer (some ⟨b2, 0, none⟩), .pointer (some ⟨b3, 0, none⟩), .pointer (some ⟨b4, 0, none⟩)])) w') :
    Calls P F.grid_Tiles #[i64 W, i64 H, i64 tw, i64 th] w R := by
  refine calls_grid_Tiles _ _ _ _ _ _ fun b1 w1 n1 b2 w2 n2 b3 w3 n3 b4 w4 n4 => ?_
  have e1 := n1.ext.size
  have e2 := n2.ext.size
  have e3 := n3.ext.size
  have e4 := n4.ext.size
  have f1 := n1.size
  have f2 := n2.size
  have f3 := n3.size
  have f4 := n4.size
  have g1 := n1.1
  have g2 := n2.1
  have g3 := n3.1
  have g4 := n4.1
  exact hR b1 b2 b3 b4 w4 (((n1.ext.trans n2.ext).trans n3.ext).trans n4.ext) (by omega) (by omega) (by omega) (by omega) (by omega) (by omega) (by omega) (by omega)
    (((n1.cs.ext n2.ext).ext n3.ext).ext n4.ext) ((n2.cs.ext n3.ext).ext n4.ext) (n3.cs.ext n4.ext) n4.cs
theorem tiles_walk {w : World} {W H tw th : Int} {R : Ending → World → Prop}
    (_ : (Lit.int .i64 W).wf = true) (_ : (Lit.int .i64 H).wf = true) (_ : (Lit.int .i64 tw).wf = true ∧ (Lit.int .i64 th).wf = true) (hR : ∀ w', Ext w w' → R (.returned (.bool true)) w') :
    Calls P F.law07_GridTiles #[i64 W, i64 H, .agg #[i64 tw, i64 th]] w R := by
  refine calls_law07_GridTiles _ _ _ _ _ _ ?_
  unfold vc_law07_GridTiles
  intro k1 w1 hn1
  have hE1 := hn1.ext
  have hs1 := hE1.size
  have hb1 := hn1.1
  have hk1 := hn1.size
  refine wakes_spec fun w2 hE2 => ⟨_, rfl, brB_f rfl fun k2 hk2 => ⟨by decide, by decide, fun w3 hL3 => ?_⟩⟩
  have hs2 := hE2.size
  have hE3 : Ext w w3 := (hE1.trans hE2).step hL3.chg (by simp; omega)
  have hs3 := hL3.size
  have ht2 := hL3.there k2 (by simp)
  have hc3 := (hn1.cs.ext hE2).chg hL3.chg (by simp; omega)
  refine ⟨_, hc3.cell (i := 0) rfl, by decide, by decide, _, hc3.cell (i := 1) rfl, ?_⟩
  refine TilesF_spec fun b1 b2 b3 b4 w4 hE4 l1 l2 l3 l4 m1 m2 m3 m4 t1 t2 t3 t4 => ⟨_, _, _, rfl, hE4.keep _, fun k3 w5 hrf J Z stJ stZ hJ0 rule => ?_⟩
  have hs4 := hE4.size
  have hk3 := hrf.eq
  have hs5 := hrf.size
  have hE5 := hrf.ext
  refine callF_i (by kernel_rfl) ?_
  have hlen := tiles_length W H tw th
  -- what stays so while tiles come
  let G : World → Prop := fun u => Ext w u ∧ w5.heap.size ≤ u.heap.size ∧ Cs u b1 [i64 W] ∧ Cs u b2 [i64 H] ∧ Cs u b3 [i64 tw] ∧ Cs u b4 [i64 th] ∧ Cs u k1 [i64 tw, i64 th]
  have G0 : G w5 := ⟨(hE3.trans hE4).trans hE5, Nat.le_refl _, t1.ext hE5, t2.ext hE5, t3.ext hE5, t4.ext hE5, (hc3.ext hE4).ext hE5⟩
  have Gs : ∀ {u u' : World} {S : Nat → Prop}, G u → Chg S u u' → (∀ i, S i → i = k2 ∨ i = k3 ∨ i = w4.heap.size ∨ w5.heap.size ≤ i) → G u' := by
    intro u u' S hG hC hS
    obtain ⟨g1, g2, g3, g4, g5, g6, g7⟩ := hG
    refine ⟨g1.step hC (fun i hi => by have := hS i hi; omega), Nat.le_trans g2 hC.size, g3.chg hC ?_, g4.chg hC ?_, g5.chg hC ?_, g6.chg hC ?_, g7.chg hC ?_⟩
    all_goals (intro hi; have := hS _ hi; omega)
  refine Tiles_iter (W := W) (H := H) (tw := tw) (th := th) (fun l u => G u ∧ ∃ p len cap, J [.slice p len cap] u ∧ Ow w5.heap.size u.heap.size u p len cap 4 (rcs l)) (fun l u hu => ?_)
    ⟨G0, _, _, _, hJ0, Ow.nil _ _ _ _ _⟩ ⟨Gs G0 (Chg.refl (fun _ => False) w5).drew (fun _ hi => hi.elim), _, _, _, stJ _ _ _ hJ0 ((Ext.refl w5).drew.keep _), Ow.nil _ _ _ _ _⟩ (fun l r u hpre hu => ?_) (fun u hu => ?_)
  · obtain ⟨⟨g1, g2, g3, g4, g5, g6, g7⟩, _⟩ := hu
    exact ⟨g3.cell (i := 0) rfl, g4.cell (i := 0) rfl, g5.cell (i := 0) rfl, g6.cell (i := 0) rfl⟩
  · obtain ⟨hG, p, len, cap, hj, ho⟩ := hu
    have hu5 := hG.2.1
    have hll := hpre.length_le
    simp only [List.length_append, List.length_cons, List.length_nil] at hll
    have hl : len = l.length := by have := ho.1; rw [rcs_length] at this; omega
    refine rule p len cap r.1 r.2.1 r.2.2.1 r.2.2.2 u _ hj fun y5 y6 k6 hk6 w11 hL11 w12 hp12 k7 hk7 w13 hL13 => ?_
    have hs11 := hL11.size
    have hs12 := hp12.size
    have hs13 := hL13.size
    have hC13 : Chg (fun i => i = k2 ∨ i = k3 ∨ u.heap.size ≤ i) u w13 := by
      refine (Chg.trans (S := fun i => i = k2 ∨ i = k3 ∨ u.heap.size ≤ i) (T := fun i => i = k3) (hL11.chg.mono ?_) hp12.chg ?_).trans hL13.chg ?_ <;> simp <;> omega
    have hG13 := Gs hG hC13 (fun i hi => by omega)
    have ho13 := ho.chg hC13 (fun i _ hi => by omega)
    have hk6t := hL11.there k6 (by simp)
    have hk7t := hL13.there k7 (by simp)
    refine ho13.appS (by simp [blocks]; omega) (by omega) hC13.size rfl rfl (by omega) (by omega) fun p2 c2 w14 ho14 hC14 => ?_
    intro w15 hL15 w16 hp16 hj16
    have hs14 := hC14.size
    have hs15 := hL15.size
    have hs16 := hp16.size
    refine .inl ⟨rfl, Gs (Gs (Gs hG13 hC14 (fun i hi => by omega)) hL15.chg (by simp; omega)) hp16.chg (by simp), p2, _, c2, hj16, ?_⟩
    rw [rcs_append, rcs_one]
    exact ((ho14.chg hL15.chg (fun i hi hlt e => by simp at e; omega)).chg hp16.chg (fun i hi hlt e => by have e : i = k3 := e; omega)).own fun i hi hlt => by omega
  · obtain ⟨hG, p, len, cap, hj, ho⟩ := hu
    have hl : len = (tilesL W H tw th).length := by have := ho.1; rw [rcs_length] at this; omega
    refine ⟨_, rfl, .inl ⟨p, len, cap, hj, fun w18 hp18 => ?_⟩⟩
    have hG18 := Gs (Gs hG hp18.chg (by simp)) (Chg.refl (fun _ => False) w18).drew (fun _ hi => hi.elim)
    have ho18 := ho.chg hp18.chg (fun i hi _ => by omega)
    have hk18 := hG18.2.2.2.2.2.2
    refine ⟨by decide, by decide, _, hk18.cell (i := 0) rfl, by decide, by decide, _, hk18.cell (i := 1) rfl, ?_⟩
    refine refTiles_spec fun p4 c4 w19 hE19 ho19 => ⟨_, _, _, rfl, hE19.keep _, hE19.keeps, ?_⟩
    have ho18' : Ow w5.heap.size u.heap.size w18.drew p len cap 4 (rcs (tilesL W H tw th)) := ho18
    refine sameRects_spec (ho18'.ext hE19).sl ho19.sl hl rfl (by omega) fun w20 hE20 => ⟨_, rfl, hE20.keep _, brB_f (by simp) ?_⟩
    have hG20 := Gs (Gs hG18 (hE19.chg (S := fun _ => False)) (fun _ hi => hi.elim)) (hE20.chg (S := fun _ => False)) (fun _ hi => hi.elim)
    have hsl := ((ho18'.ext hE19).ext hE20).sl
    refine ⟨fun vs w' => match vs with | [.int _ s, .int _ n] => 0 ≤ n ∧ n ≤ len ∧ s = areas ((tilesL W H tw th).take n.toNat) ∧ Ext w20 w' | _ => False,
      fun vs _ => match vs with | [.int _ s, .int _ n] => (len - n).toNat | _ => 0, ⟨Int.le_refl _, by omega, by simp [areas], Ext.refl _⟩, fun s n w22 hI => ?_⟩
    obtain ⟨n0, n1, rfl, hE22⟩ := hI
    refine brB_i (fun hlt => ?_) (fun hge w23 hp23 => ?_)
    · have hlt : n < len := by simpa using hlt
      have hx : (tilesL W H tw th)[n.toNat]? = some ((tilesL W H tw th)[n.toNat]'(by omega)) := List.getElem?_eq_getElem (by omega)
      have hps := tiles_pos (List.mem_of_getElem? hx)
      have ht0 := areas_take W H tw th n.toNat
      have ht1 := areas_take W H tw th (n.toNat + 1)
      have es : areas ((tilesL W H tw th).take (n.toNat + 1)) = areas ((tilesL W H tw th).take n.toNat) + area ((tilesL W H tw th)[n.toNat]'(by omega)) := by
        rw [List.take_succ_eq_append_getElem (by omega), areas_append]; simp [areas]
      refine (hsl.ext hE22).drew.elem (fun _ => rfl) (by omega) n0 hl.symm hx fun a1 hc1 => ⟨_, hc1 2 _ rfl, ?_⟩
      refine (hsl.ext hE22).drew.elem (fun _ => rfl) (by omega) n0 hl.symm hx fun a2 hc2 => ⟨_, hc2 3 _ rfl, ?_⟩
      have ea : area ((tilesL W H tw th)[n.toNat]'(by omega)) = ((tilesL W H tw th)[n.toNat]'(by omega)).2.2.1 * ((tilesL W H tw th)[n.toNat]'(by omega)).2.2.2 := rfl
      rw [← ea, w64 (x := area _) (by omega) (by omega), ← es, w64 (by omega) (by omega), w64 (by omega) (by omega)]
      refine ⟨⟨by omega, by omega, by rw [show (n + 1).toNat = n.toNat + 1 by omega], hE22.drew⟩, ?_⟩
      show (len - (n + 1)).toNat < (len - n).toNat
      omega
    · have hge : n = len := by simp at hge; omega
      subst hge
      refine to_bool (hR _ ((Gs hG20 (hE22.chg (S := fun _ => False)) (fun _ hi => hi.elim)).1.step hp23.chg (by have := hE3.size; simp; omega))) ?_
      rw [List.take_of_length_le (by omega)]
      cases hg : goodT W H tw th with
      | false => simp [hl, tilesL_bad hg]
      | true =>
        obtain ⟨⟨h1, h2, h3, h4, h5⟩, h6, h7⟩ := good_iff.1 hg
        rw [areas_tiles hg, wrapmul h1 h2 h3 h4]; simp
end Go.Proofs.Ytpdfpbioolbjjaa
