/- Quant: the range of colours; which palettes may be; QuantPalettes. -/
import Derived.Test.YtijplekhbpigiaaQP2
namespace Go.Proofs.Ytijplekhbpigiaa
open Go Go.Vc Go.RowKit Go.Qn
set_option maxRecDepth 100000
set_option linter.unusedVariables false
set_option linter.unusedSimpArgs false
set_option maxHeartbeats 4000000

/-- the first k pixels' colours lie between -/
def Rg (xs : List Int) (k : Nat) (a b c e f g : Int) : Prop := ∀ j, j < k → clearC (colAt xs j) = false →
  (a ≤ (eightC (colAt xs j)).1 ∧ (eightC (colAt xs j)).1 ≤ e) ∧ (b ≤ (eightC (colAt xs j)).2.1 ∧ (eightC (colAt xs j)).2.1 ≤ f) ∧ c ≤ (eightC (colAt xs j)).2.2.1 ∧ (eightC (colAt xs j)).2.2.1 ≤ g
theorem Rg.step {xs : List Int} {k : Nat} {a b c e f g a' b' c' e' f' g' : Int} (h : Rg xs k a b c e f g) (ha : a' ≤ a) (hb : b' ≤ b) (hc : c' ≤ c) (he : e ≤ e') (hf : f ≤ f') (hg : g ≤ g')
    (hk : clearC (colAt xs k) = false → (a' ≤ (eightC (colAt xs k)).1 ∧ (eightC (colAt xs k)).1 ≤ e') ∧ (b' ≤ (eightC (colAt xs k)).2.1 ∧ (eightC (colAt xs k)).2.1 ≤ f') ∧ c' ≤ (eightC (colAt xs k)).2.2.1 ∧ (eightC (colAt xs k)).2.2.1 ≤ g') : Rg xs (k + 1) a' b' c' e' f' g' := fun j hj hcl => by
  rcases Nat.lt_or_ge j k with q | q
  · obtain ⟨⟨h1, h2⟩, ⟨h3, h4⟩, h5, h6⟩ := h j q hcl
    exact ⟨⟨by omega, by omega⟩, ⟨by omega, by omega⟩, by omega, by omega⟩
  · obtain rfl : j = k := by omega
    exact hk hcl
theorem Range_spec {w : World} {p : Option Addr} {len cap : Nat} {W H : Int} {xs : List Int} {R : Ending → World → Prop} (h : Img w p len xs) (hb : good W H xs = true) (hok : PxOk xs)
    (hR : ∀ (a b c d e f g i : Int) w', Ext w w' → Rg xs (W * H).toNat a b c e f g → R (.returned (.tuple #[.agg #[u16 a, u16 b, u16 c, u16 d], .agg #[u16 e, u16 f, u16 g, u16 i]])) w') :
    Calls P F.ref14_Range #[.agg #[i64 W, i64 H, .slice p len cap]] w R := by
  refine calls_ref14_Range _ _ _ _ _ _ _ ?_
  intro k1 hk1 k2 hk2 k3 hk3 k4 hk4 k5 hk5
  obtain ⟨hg, hxl⟩ := good_iff.1 hb
  obtain ⟨g1, g2, g3, g4, g5⟩ := gfits_iff.1 hg
  have hk0 : ∀ b, b ∈ [k5, k4, k3, k2, k1] → w.heap.size ≤ b := by simp; omega
  refine ⟨fun vs u => ∃ (y a b c d e f g i : Int), vs = [i64 y, u16 a, u16 b, u16 c, u16 d, u16 e, u16 f, u16 g, u16 i] ∧ 0 ≤ y ∧ y ≤ H ∧ Ext w u ∧ Rg xs (y * W).toNat a b c e f g,
    fun vs _ => match vs with | .int _ y :: _ => (H - y).toNat | _ => 0, fun w1 hL1 => ⟨0, _, _, _, _, _, _, _, _, rfl, Int.le_refl _, by omega, hL1.ext hk0, fun j hj => by simp at hj⟩, fun n1 n2 n3 n4 n5 n6 n7 n8 n9 w2 hI => ?_⟩
  obtain ⟨y, a, b, c, d, e, f, g, i, hv, y0, y1, hE, hr⟩ := hI
  simp only [List.cons.injEq, Value.int.injEq, true_and, and_true] at hv
  obtain ⟨rfl, rfl, rfl, rfl, rfl, rfl, rfl, rfl, rfl⟩ := hv
  refine brB_i (fun hlt => ?_) (fun hge => ?_)
  · have hlt : n1 < H := by simpa using hlt
    have hyW : 0 ≤ n1 * W := Int.mul_nonneg y0 (by omega)
    have hyW' : n1 * W + W ≤ W * H := by
      rw [show n1 * W + W = (n1 + 1) * W by rw [Int.add_mul]; omega, Int.mul_comm W H]
      exact Int.mul_le_mul_of_nonneg_right (by omega) (by omega)
    refine ⟨fun vs u => ∃ (x a b c d e f g i : Int), vs = [i64 x, u16 a, u16 b, u16 c, u16 d, u16 e, u16 f, u16 g, u16 i] ∧ 0 ≤ x ∧ x ≤ W ∧ Ext w u ∧ Rg xs (n1 * W + x).toNat a b c e f g,
      fun vs _ => match vs with | .int _ x :: _ => (W - x).toNat | _ => 0, ⟨0, _, _, _, _, _, _, _, _, rfl, Int.le_refl _, by omega, hE, by rw [Int.add_zero]; exact hr⟩, fun m1 m2 m3 m4 m5 m6 m7 m8 m9 w3 hI => ?_⟩
    obtain ⟨x, a, b, c, d, e, f, g, i, hv, x0, x1, hE3, hr3⟩ := hI
    simp only [List.cons.injEq, Value.int.injEq, true_and, and_true] at hv
    obtain ⟨rfl, rfl, rfl, rfl, rfl, rfl, rfl, rfl, rfl⟩ := hv
    refine brB_i (fun hlt2 => ?_) (fun hge => ?_)
    · have hlt2 : m1 < W := by simpa using hlt2
      have hnx : (n1 * W + (m1 + 1)).toNat = (n1 * W + m1).toNat + 1 := by omega
      generalize hk : (n1 * W + m1).toNat = k at *
      refine ⟨fun vs u => ∃ (a b c d e f g i : Int), vs = [u16 a, u16 b, u16 c, u16 d, u16 e, u16 f, u16 g, u16 i] ∧ Ext w u ∧ Rg xs (k + 1) a b c e f g, ?_, fun q1 q2 q3 q4 q5 q6 q7 q8 w20 hI => ?_⟩
      · refine refPixel_spec (h.ext hE3) hb x0 y0 hlt2 hlt fun w4 hE4 => ⟨_, _, _, _, rfl, hE4.keep _, fun k6 hk6 w5 hL5 => ?_⟩
        rw [hk]
        have hco := colAt_ok hok k
        have hE34 := hE3.trans hE4
        have hs34 := hE34.size
        have hk6' : ∀ b, b ∈ [k6, k5, k4, k3, k2, k1] → w.heap.size ≤ b := by simp; omega
        have hE5 := hE34.step hL5.chg hk6'
        refine rClear_spec (c := colAt xs k) fun w6 hE6 => ⟨_, rfl, hE6.keep _, ?_⟩
        have hE56 := hE5.trans hE6
        refine brB_i (fun hc => ?_) (fun hc => ?_)
        · exact ⟨_, _, _, _, _, _, _, _, rfl, hE56, hr3.step (Int.le_refl _) (Int.le_refl _) (Int.le_refl _) (Int.le_refl _) (Int.le_refl _) (Int.le_refl _) fun hx => by rw [hx] at hc; cases hc⟩
        refine rEight_spec hco fun w7 hE7 => ⟨_, _, _, _, rfl, hE7.keep _, ?_⟩
        have hE57 := hE56.trans hE7
        generalize hcl : eightC (colAt xs k) = E at *
        refine ⟨fun vs u => ∃ a', vs = [u16 a', u16 m3, u16 m4, u16 m5] ∧ a' ≤ m2 ∧ a' ≤ E.1 ∧ Ext w u, brB_i (fun hq w8 hL8 => ⟨_, rfl, by have := of_decide_eq_true hq; omega, Int.le_refl _, hE57.step hL8.chg hk6'⟩) (fun hq w8 hL8 => ⟨_, rfl, Int.le_refl _, by have := of_decide_eq_false hq; omega, hE57.step hL8.chg hk6'⟩), fun r1 r2 r3 r4 w10 hI => ?_⟩
        obtain ⟨a', hv, ha1, ha2, hE10⟩ := hI
        simp only [List.cons.injEq, Value.int.injEq, true_and, and_true] at hv
        obtain ⟨rfl, rfl, rfl, rfl⟩ := hv
        refine ⟨fun vs u => ∃ b', vs = [u16 r1, u16 b', u16 r3, u16 r4] ∧ b' ≤ r2 ∧ b' ≤ E.2.1 ∧ Ext w u, brB_i (fun hq w8 hL8 => ⟨_, rfl, by have := of_decide_eq_true hq; omega, Int.le_refl _, hE10.step hL8.chg hk6'⟩) (fun hq => ⟨_, rfl, Int.le_refl _, by have := of_decide_eq_false hq; omega, hE10⟩), fun s1 s2 s3 s4 w12 hI => ?_⟩
        obtain ⟨b', hv, hb1, hb2, hE12⟩ := hI
        simp only [List.cons.injEq, Value.int.injEq, true_and, and_true] at hv
        obtain ⟨rfl, rfl, rfl, rfl⟩ := hv
        refine ⟨fun vs u => ∃ c', vs = [u16 s1, u16 s2, u16 c', u16 s4] ∧ c' ≤ s3 ∧ c' ≤ E.2.2.1 ∧ Ext w u, brB_i (fun hq w8 hL8 => ⟨_, rfl, by have := of_decide_eq_true hq; omega, Int.le_refl _, hE12.step hL8.chg hk6'⟩) (fun hq => ⟨_, rfl, Int.le_refl _, by have := of_decide_eq_false hq; omega, hE12⟩), fun t1 t2 t3 t4 w14 hI => ?_⟩
        obtain ⟨c', hv, hc1, hc2, hE14⟩ := hI
        simp only [List.cons.injEq, Value.int.injEq, true_and, and_true] at hv
        obtain ⟨rfl, rfl, rfl, rfl⟩ := hv
        refine ⟨fun vs u => ∃ e', vs = [u16 e', u16 m7, u16 m8, u16 m9] ∧ m6 ≤ e' ∧ E.1 ≤ e' ∧ Ext w u, brB_i (fun hq w8 hL8 => ⟨_, rfl, by have := of_decide_eq_true hq; omega, Int.le_refl _, hE14.step hL8.chg hk6'⟩) (fun hq => ⟨_, rfl, Int.le_refl _, by have := of_decide_eq_false hq; omega, hE14⟩), fun v1 v2 v3 v4 w16 hI => ?_⟩
        obtain ⟨e', hv, he1, he2, hE16⟩ := hI
        simp only [List.cons.injEq, Value.int.injEq, true_and, and_true] at hv
        obtain ⟨rfl, rfl, rfl, rfl⟩ := hv
        have fin : ∀ (f' g' : Int) u, v2 ≤ f' → E.2.1 ≤ f' → v3 ≤ g' → E.2.2.1 ≤ g' → Ext w u → ∃ (a b c d e f g i : Int), [u16 t1, u16 t2, u16 t3, u16 t4, u16 v1, u16 f', u16 g', u16 v4] = [u16 a, u16 b, u16 c, u16 d, u16 e, u16 f, u16 g, u16 i] ∧ Ext w u ∧ Rg xs (k + 1) a b c e f g := fun f' g' u h1 h2 h3 h4 hEu =>
          ⟨_, _, _, _, _, _, _, _, rfl, hEu, hr3.step (by omega) (by omega) (by omega) (by omega) h1 h3 fun _ => by rw [hcl]; exact ⟨⟨by omega, by omega⟩, ⟨by omega, by omega⟩, by omega, by omega⟩⟩
        refine brB_i (fun hq => brB_i (fun hq2 w17 hL17 => ?_) (fun hq2 w18 hL18 => ?_)) (fun hq => brB_i (fun hq2 w19 hL19 => ?_) (fun hq2 => ?_))
        · exact fin _ _ _ (by have := of_decide_eq_true hq; omega) (Int.le_refl _) (by have := of_decide_eq_true hq2; omega) (Int.le_refl _) (hE16.step hL17.chg hk6')
        · exact fin _ _ _ (by have := of_decide_eq_true hq; omega) (Int.le_refl _) (Int.le_refl _) (by have := of_decide_eq_false hq2; omega) (hE16.step hL18.chg hk6')
        · exact fin _ _ _ (Int.le_refl _) (by have := of_decide_eq_false hq; omega) (by have := of_decide_eq_true hq2; omega) (Int.le_refl _) (hE16.step hL19.chg hk6')
        · exact fin _ _ _ (Int.le_refl _) (by have := of_decide_eq_false hq; omega) (Int.le_refl _) (by have := of_decide_eq_false hq2; omega) hE16
      · obtain ⟨a, b, c, d, e, f, g, i, hv, hE20, hr20⟩ := hI
        simp only [List.cons.injEq, Value.int.injEq, true_and, and_true] at hv
        obtain ⟨rfl, rfl, rfl, rfl, rfl, rfl, rfl, rfl⟩ := hv
        rw [w64 (x := m1 + 1) (by omega) (by omega)]
        exact ⟨⟨m1 + 1, _, _, _, _, _, _, _, _, rfl, by omega, by omega, hE20, by rw [hnx]; exact hr20⟩, by show (W - (m1 + 1)).toNat < (W - m1).toNat; omega⟩
    · have hge : m1 = W := by simp at hge; omega
      subst hge
      rw [w64 (x := n1 + 1) (by omega) (by omega)]
      have e0 : (n1 * m1 + m1) = (n1 + 1) * m1 := by rw [Int.add_mul]; omega
      rw [e0] at hr3
      exact ⟨⟨n1 + 1, _, _, _, _, _, _, _, _, rfl, by omega, by omega, hE3, hr3⟩, by show (H - (n1 + 1)).toNat < (H - n1).toNat; omega⟩
  · have hge : n1 = H := by simp at hge; omega
    subst hge
    intro w21 hL21
    rw [Int.mul_comm n1 W] at hr
    exact hR _ _ _ _ _ _ _ _ w21 (hE.drew.step hL21.chg hk0) hr
end Go.Proofs.Ytijplekhbpigiaa
