/- Tiles: the document's list. -/
import Derived.Test.YtpdfpbioolbjjaaTiles1
namespace Go.Proofs.Ytpdfpbioolbjjaa
open Go Go.Vc Go.RowKit
set_option maxRecDepth 100000
set_option linter.unusedVariables false
set_option linter.unusedSimpArgs false

theorem refTiles_spec {w : World} {W H tw th : Int} {R : Ending → World → Prop}
    (hR : ∀ p cap w', Ext w w' → Ow w.heap.size w'.heap.size w' p (tilesL W H tw th).length cap 4 (rcs (tilesL W H tw th)) → R (.returned (.slice p (tilesL W H tw th).length cap)) w') :
    Calls P F.ref07_Tiles #[i64 W, i64 H, i64 tw, i64 th] w R := by
  refine calls_ref07_Tiles _ _ _ _ _ _ ?_
  refine Fits_spec ⟨_, rfl, brB_i (fun hb => ?_) (fun hb => ?_)⟩
  · have hg : goodT W H tw th = false := by
      rw [Bool.eq_false_iff]; intro h
      simp only [goodT, Bool.and_eq_true, decide_eq_true_eq] at h
      simp [h.1.1] at hb; omega
    have e := tilesL_bad hg
    have := hR none 0 w (Ext.refl w)
    rw [e] at this
    exact this (Ow.nil _ _ _ _ _)
  have hg : goodT W H tw th = true := by simp at hb; simp [goodT, hb] <;> omega
  obtain ⟨⟨h1, h2, h3, h4, h5⟩, h6, h7⟩ := good_iff.1 hg
  have htl : tilesL W H tw th = rowsT W H (min tw W) (min th H) (cnt H (min th H)) := by rw [tilesL, if_pos hg]
  have hlen := tiles_length W H tw th
  refine ⟨fun vs u => match vs with | [.int _ n] => n = min tw W ∧ u = w | _ => False, brB_i (fun h => ⟨by simp at h; omega, rfl⟩) (fun h => ⟨by simp at h; omega, rfl⟩), fun a u hI => ?_⟩
  obtain ⟨ea, rfl⟩ := hI
  refine ⟨fun vs u' => match vs with | [.int _ n] => n = min th H ∧ u' = u | _ => False, brB_i (fun h => ⟨by simp at h; omega, rfl⟩) (fun h => ⟨by simp at h; omega, rfl⟩), fun b w hI => ?_⟩
  obtain ⟨eb, rfl⟩ := hI
  have ht : 1 ≤ a := by omega
  have hth : 1 ≤ b := by omega
  rw [← ea, ← eb] at htl
  refine ⟨fun vs u => match vs with | [.slice p len cap, .int _ y] => ∃ j : Nat, y = (j : Int) * b ∧ j ≤ cnt H b ∧ Ext w u ∧ Ow w.heap.size u.heap.size u p len cap 4 (rcs (preT W H a b j 0)) | _ => False,
    fun vs _ => match vs with | [.slice p len cap, .int _ y] => (H + 4096 - y).toNat | _ => 0, ⟨0, by simp, Nat.zero_le _, Ext.refl _, Ow.nil _ _ _ _ _⟩, fun p1 l1 c1 y u hI => ?_⟩
  obtain ⟨j, rfl, hj, hE1, ho1⟩ := hI
  refine brB_i (fun hlt => ?_) (fun hge => ?_)
  · have hlt : (j : Int) * b < H := by simpa using hlt
    have hj' := (cnt_lt hth h2 j).1 hlt
    have hj0 : 0 ≤ (j : Int) * b := Int.mul_nonneg (by omega) (by omega)
    refine ⟨fun vs u => match vs with | [.slice p len cap, .int _ x] => ∃ i : Nat, x = (i : Int) * a ∧ i ≤ cnt W a ∧ Ext w u ∧ Ow w.heap.size u.heap.size u p len cap 4 (rcs (preT W H a b j i)) | _ => False,
      fun vs _ => match vs with | [.slice p len cap, .int _ x] => (W + 4096 - x).toNat | _ => 0, ⟨0, by simp, Nat.zero_le _, hE1, ho1⟩, fun p2 l2 c2 x u5 hI => ?_⟩
    obtain ⟨i, rfl, hi, hE5, ho5⟩ := hI
    refine brB_i (fun hlt2 => ?_) (fun hge2 => ?_)
    · have hlt2 : (i : Int) * a < W := by simpa using hlt2
      have hi' := (cnt_lt ht h1 i).1 hlt2
      have hi0 : 0 ≤ (i : Int) * a := Int.mul_nonneg (by omega) (by omega)
      have hs5 := hE5.size
      have hpl : (preT W H a b j i).length + 1 ≤ 65536 := by
        have := (preT_prefix (h := H) (th := b) hj' (show i + 1 ≤ cnt W a from hi')).length_le
        rw [preT_succ, ← htl] at this
        simp at this
        omega
      have hl2 : l2 = (preT W H a b j i).length := by have := ho5.1; rw [rcs_length] at this; omega
      rw [w64 (x := W - (i : Int) * a) (by omega) (by omega), w64 (x := H - (j : Int) * b) (by omega) (by omega)]
      refine ⟨fun vs u => match vs with | [.slice p len cap] => Ext w u ∧ Ow w.heap.size u.heap.size u p len cap 4 (rcs (preT W H a b j (i + 1))) | _ => False, fun k5 hk5 => ?_, fun p5 l5 c5 w13 hI => ?_⟩
      · refine ⟨fun vs u => match vs with | [.int _ n5, .int _ n6, .int _ n7, .int _ n8] => n5 = (i : Int) * a ∧ n6 = (j : Int) * b ∧ n7 = min a (W - (i : Int) * a) ∧ n8 = b ∧ Chg (fun q => u5.heap.size ≤ q) u5 u | _ => False,
          brB_i (fun h w6 hL => ⟨rfl, rfl, by simp at h; omega, rfl, hL.chg.mono fun q hq _ => by simp at hq; omega⟩) (fun h w6 hL => ⟨rfl, rfl, by simp at h; omega, rfl, hL.chg.mono fun q hq _ => by simp at hq; omega⟩), fun n5 n6 n7 n8 w8 hI => ?_⟩
        obtain ⟨rfl, rfl, e7, e8, hC8⟩ := hI
        have hs8 := hC8.size
        have app : ∀ (k6 : Nat) (w9 : World) (n9 : Int) (t1 t2 : Nat), w8.heap.size ≤ k6 → Locl [k6, k5] w8 w9 → n9 = min b (H - (j : Int) * b) →
            appVC w9 [(t1, k6, [i64 ((i : Int) * a), i64 ((j : Int) * b), i64 n7, i64 n9]), (t2, k5, [i64 ((i : Int) * a), i64 ((j : Int) * b), i64 n7, i64 n9])] p2 l2 c2 1 4 32 53 [i64 0, i64 0, i64 0, i64 0] [i64 ((i : Int) * a), i64 ((j : Int) * b), i64 n7, i64 n9]
              fun p3 k7 k8 w10 => Ext w w10 ∧ Ow w.heap.size w10.heap.size w10 p3 k7 k8 4 (rcs (preT W H a b j (i + 1))) := by
          intro k6 w9 n9 t1 t2 hk6 hL9 h9
          have hC9 : Chg (fun q => u5.heap.size ≤ q) u5 w9 := hC8.trans hL9.chg fun q hq _ => by simp at hq; omega
          have ho9 := ho5.chg hC9 (fun q _ hq => by omega)
          have hs9 := hC9.size
          refine ho9.app (by simp [blocks]; omega) (by omega) hs9 rfl rfl (by omega) (by omega) fun p3 c3 w10 ho10 hC10 => ⟨?_, ?_⟩
          · exact (hE5.step hC9 fun q hq => by omega).step hC10 fun q hq => hq.1
          · rw [preT_succ, rcs_append, rcs_one]
            have : rc (rectAt W H a b j i) = [i64 ((i : Int) * a), i64 ((j : Int) * b), i64 n7, i64 n9] := by rw [e7, h9]; rfl
            rw [this]; exact ho10
        refine brB_i (fun h k6 hk6 w9 hL9 => app k6 w9 _ _ _ hk6 hL9 (by simp at h; omega)) (fun h k6 hk6 w9 hL9 => app k6 w9 _ _ _ hk6 hL9 (by simp at h; omega))
      · obtain ⟨hE13, ho13⟩ := hI
        rw [w64 (x := (i : Int) * a + a) (by omega) (by omega), mul_next]
        refine ⟨⟨i + 1, rfl, hi', hE13, ho13⟩, ?_⟩
        show (W + 4096 - ((i + 1 : Nat) : Int) * a).toNat < (W + 4096 - (i : Int) * a).toNat
        rw [← mul_next]; omega
    · have hge2 : ¬ ((i : Int) * a < W) := by simpa using hge2
      have hie : i = cnt W a := by
        have : ¬ i < cnt W a := fun h => hge2 ((cnt_lt ht h1 i).2 h)
        omega
      subst hie
      rw [preT_row] at ho5
      rw [w64 (x := (j : Int) * b + b) (by omega) (by omega), mul_next]
      refine ⟨⟨j + 1, rfl, hj', hE5, ho5⟩, ?_⟩
      show (H + 4096 - ((j + 1 : Nat) : Int) * b).toNat < (H + 4096 - (j : Int) * b).toNat
      rw [← mul_next]; omega
  · have hge : ¬ ((j : Int) * b < H) := by simpa using hge
    have hje : j = cnt H b := by
      have : ¬ j < cnt H b := fun h => hge ((cnt_lt hth h2 j).2 h)
      omega
    subst hje
    rw [preT_zero, ← htl] at ho1
    have hl1 : l1 = (tilesL W H tw th).length := by have := ho1.1; rw [rcs_length] at this; omega
    subst hl1
    exact hR p1 c1 u hE1 ho1
end Go.Proofs.Ytpdfpbioolbjjaa
