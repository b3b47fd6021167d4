/- Moves: trimming; the outcome: the program. -/
import Derived.Test.YtdephacjcljinaaML8
namespace Go.Proofs.Ytdephacjcljinaa
open Go Go.Vc Go.RowKit
set_option maxRecDepth 100000
set_option linter.unusedVariables false
set_option linter.unusedSimpArgs false

/-- the program's bounds: from, to behind -/
def bx (b : Int × Int × Int × Int) : List Value := [i64 b.1, i64 b.2.1, i64 (b.2.2.1 + 1), i64 (b.2.2.2 + 1)]
set_option maxHeartbeats 4000000 in
theorem trim_spec {w : World} {p : Option Addr} {len cap : Nat} {W H : Int} {xs : List Int} {R : Ending → World → Prop} (h : Img w p len xs) (hcp : len ≤ cap) (hg : good W H xs = true)
    (hR : ∀ p' l' c' w', Fg [] w w' 1 p' l' c' (px (trimR W H xs).2.2.1) → R (.returned (.agg #[i64 (trimR W H xs).1, i64 (trimR W H xs).2.1, .slice p' l' c'])) w') :
    Calls P F.moves_trim #[.agg #[i64 W, i64 H, .slice p len cap]] w R := by
  refine calls_moves_trim _ _ _ _ _ _ _ ?_
  obtain ⟨hf, hlen⟩ := good_iff.1 hg
  obtain ⟨g1, g2, g3, g4, g5⟩ := gfits_iff.1 hf
  have hpos : 0 < W * H := Int.mul_pos (by omega) (by omega)
  intro k1 hk1 k2 hk2 w1 hL1
  have hb2 : ∀ b, b ∈ [k2, k1] → w.heap.size ≤ b := by simp; omega
  have hE1 : Ext w w1 := hL1.ext hb2
  have t1 := hL1.there k1 (by simp)
  have t2 := hL1.there k2 (by simp)
  refine Grid_spec (h.ext hE1) hcp (fun hf => by rw [hg] at hf; cases hf) fun _ gb cb w2 hE2 hgb hcb hG2 => ⟨_, _, rfl, hE2.keep _, ?_⟩
  refine GAt_spec hG2 (by omega) (by omega) (by omega) (by omega) fun w3 hE3 => ⟨_, _, _, _, _, rfl, hE3.keep _, fun k3 hk3 k4 hk4 w4 hL4 => ?_⟩
  rw [show ((0 : Int) * W + 0).toNat = 0 by omega, colsOf_get (by omega)]
  have s2 := hE2.size
  have s3 := hE3.size
  have s4 := hL4.size
  have t3 := hL4.there k3 (by simp)
  have t4 := hL4.there k4 (by simp)
  have hb4 : ∀ b, b ∈ [k4, k3, k2, k1] → w.heap.size ≤ b := by have := hE1.size; simp; omega
  have glt := hG2.lt
  have hG4 : GridC w4 (some ⟨gb, 0, none⟩) gb cb W H (colsOf xs (W * H).toNat) := (hG2.ext hE3).chg hL4.chg (by simp; omega) (by simp; omega)
  have hE4 : Ext w w4 := ((hE1.trans hE2).trans hE3).step hL4.chg hb4
  refine GAll_spec fun kb w5 hE5 hkb hcb5 => ⟨_, _, _, rfl, hE5.keep _, fun k5 w6 hrf I1 Z1 stI stZ hI0 rule => ?_⟩
  have e5 := hrf.eq
  have s5 := hE5.size
  have s6 := hrf.size
  have hkb5 := hcb5.lt
  have hav : ∀ b, b ∈ [k5, w5.heap.size, k4, k3, k2, k1] → w.heap.size ≤ b ∧ b ≠ gb ∧ b ≠ cb ∧ b ≠ kb := by have := hE1.size; simp; omega
  have hli : ∀ {q : Nat}, (q : Int) < W * H → (colsOf xs (W * H).toNat).getD q zeroC = colAt xs q := fun hq => colsOf_get (by omega)
  let J : Nat → World → Prop := fun q u => (q : Int) ≤ W * H ∧ I1 (bx (box W H xs q)) u ∧ Bt w u (some ⟨gb, 0, none⟩) gb cb kb W H (colsOf xs (W * H).toNat) w6.heap.size
  have B6 : Bt w w6 (some ⟨gb, 0, none⟩) gb cb kb W H (colsOf xs (W * H).toNat) w6.heap.size := ⟨(hG4.ext hE5).ext hrf.ext, hcb5.ext hrf.ext, (hE4.trans hE5).trans hrf.ext, Nat.le_refl _⟩
  have hcl : (colsOf xs (W * H).toNat).length = (W * H).toNat := colsOf_length _ _
  refine callF_i (by kernel_rfl) ?_
  refine GAll_iter J (q := some ⟨gb, 0, none⟩) (gb := gb) (cb := cb) (W := W) (H := H) (l := colsOf xs (W * H).toNat) (fun q u ⟨j0, j1, j2⟩ => ⟨j2.c.cell (i := 0) rfl, j2.g⟩) ?_ (fun q u hq ⟨j0, j1, j2⟩ => ?_) (fun u ⟨j0, j1, j2⟩ => ?_)
  · exact ⟨by omega, stI _ _ _ hI0 ((Ext.refl w6).drew.keep _), B6.drew⟩
  · rw [hcl] at hq
    have hq' : (q : Int) < W * H := by omega
    have m0 : 0 ≤ (q : Int) % W := Int.emod_nonneg _ (by omega)
    have m1 : (q : Int) % W < W := Int.emod_lt_of_pos _ (by omega)
    have d0 : 0 ≤ (q : Int) / W := Int.ediv_nonneg (by omega) (by omega)
    have d1 : (q : Int) / W < H := Int.ediv_lt_of_lt_mul (by omega) (by rw [Int.mul_comm]; exact hq')
    have N0 := j2.n
    rw [hli hq']
    have hok := box_ok (xs := xs) hf (q := q) (by omega)
    refine rule _ _ _ _ _ _ (colAt xs q).1 (colAt xs q).2.1 (colAt xs q).2.2.1 (colAt xs q).2.2.2 u.drew _ (stI _ _ _ j1 ((Ext.refl u).drew.keep _)) fun y5 y6 k6 hk6 k7 hk7 w12 hL12 w13 hP13 => ?_
    have hk6 : u.heap.size ≤ k6 := hk6
    have hk7 : u.heap.size ≤ k7 := hk7
    have B12 := j2.drew.locl hL12 (by have := hE1.size; simp; omega)
    have B13 := B12.put hP13 (by omega) (by omega) (by omega) (by omega)
    refine ⟨fun vs u => vs = bx (box W H xs (q + 1)) ∧ Bt w u (some ⟨gb, 0, none⟩) gb cb kb W H (colsOf xs (W * H).toNat) w6.heap.size, ?_, ?_⟩
    · rw [beqC]
      refine brB_i (fun hb w14 hL14 => ⟨?_, ?_⟩) (fun hb => ⟨?_, B13⟩)
      · have hb : ¬ colAt xs q = colAt xs 0 := by rw [Bool.not_eq_true'] at hb; exact of_decide_eq_false hb
        rw [box, if_neg hb]
        generalize box W H xs q = b at *
        obtain ⟨b1, b2, b3, b4⟩ := b
        rw [w64 (x := (q : Int) % W + 1) (by omega) (by omega), w64 (x := (q : Int) / W + 1) (by omega) (by omega)]
        unfold bx
        simp only [List.cons.injEq, Value.int.injEq, true_and, and_true]
        omega
      · exact B13.drew.locl hL14 (by have := hE1.size; simp; omega)
      · have hb : colAt xs q = colAt xs 0 := by rw [Bool.not_eq_false'] at hb; exact of_decide_eq_true hb
        rw [box, if_pos hb]
        rfl
    · intro n16 n17 n18 n19 w15 hI3 w16 hP16 hI1
      obtain ⟨hv, B15⟩ := hI3
      rw [hv] at hI1
      exact .inl ⟨rfl, by omega, hI1, B15.put hP16 (by omega) (by omega) (by omega) (by omega)⟩
  · rw [hcl] at j0 j1
    have hok := box_ok (xs := xs) hf (q := (W * H).toNat) (by omega)
    have hokT := boxT_ok hf hok
    have N0 := j2.n
    refine ⟨_, rfl, .inl ⟨_, _, _, _, j1, fun w18 hP18 => ?_⟩⟩
    have B18 := j2.put hP18 (by omega) (by omega) (by omega) (by omega)
    refine ⟨fun vs u => vs = bx (boxT (box W H xs (W * H).toNat)) ∧ Bt w u (some ⟨gb, 0, none⟩) gb cb kb W H (colsOf xs (W * H).toNat) w6.heap.size, ?_, ?_⟩
    · generalize box W H xs (W * H).toNat = b at *
      obtain ⟨b1, b2, b3, b4⟩ := b
      refine brB_i (fun hb w19 hL19 => ⟨?_, ?_⟩) (fun hb => ⟨?_, B18⟩)
      · have hb : b3 + 1 = 0 := by simpa using hb
        unfold boxT bx
        rw [if_pos (show b3 < 0 by omega)]
        rfl
      · exact B18.locl hL19 (by have := hE1.size; simp; omega)
      · have hb : ¬ b3 + 1 = 0 := by simpa using hb
        have : ¬ b3 < 0 := by
          rcases hok with hk | hk
          · simp only [Prod.mk.injEq] at hk; omega
          · simp only at hk; omega
        unfold boxT
        rw [if_neg this]
        rfl
    intro n24 n25 n26 n27 w20 hI4
    obtain ⟨hv, B20⟩ := hI4
    have hT : trimR W H xs = cropR W H xs (boxT (box W H xs (W * H).toNat)).1 (boxT (box W H xs (W * H).toNat)).2.1 ((boxT (box W H xs (W * H).toNat)).2.2.1 - (boxT (box W H xs (W * H).toNat)).1 + 1) ((boxT (box W H xs (W * H).toNat)).2.2.2 - (boxT (box W H xs (W * H).toNat)).2.1 + 1) := rfl
    generalize boxT (box W H xs (W * H).toNat) = b at *
    obtain ⟨b1, b2, b3, b4⟩ := b
    unfold bx at hv
    simp only [List.cons.injEq, Value.int.injEq, true_and, and_true] at hv
    obtain ⟨rfl, rfl, rfl, rfl⟩ := hv
    simp only at hokT hT
    have hin : inR n24 n25 (b3 + 1 - n24) (b4 + 1 - n25) W H = true := inR_iff.2 (by omega)
    rw [w64 (x := b3 + 1 - n24) (by omega) (by omega), w64 (x := b4 + 1 - n25) (by omega) (by omega)]
    rw [show b3 - n24 + 1 = b3 + 1 - n24 by omega, show b4 - n25 + 1 = b4 + 1 - n25 by omega] at hT
    refine GCrop_spec B20.g hin fun g c w21 hE21 hG21 => ⟨_, _, rfl, hE21.keep _, ?_⟩
    refine Of_spec hG21 fun p' c' w22 hf22 => ⟨_, _, _, _, _, _, rfl, hf22.ext.keep _, fun k10 hk10 w23 hL23 w24 hP24 => ?_⟩
    have N20 := B20.n
    have s21 := hE21.size
    have s22 := hf22.ext.size
    have f22 := hf22.from (bs := [w5.heap.size, k4, k3, k2, k1]) (B20.e.trans hE21) (by have := hE1.size; simp; omega)
    have f23 := f22.push hL23 (by simp; omega)
    have f24 := (f23.push (hP24.locl (by have := hL23.size; omega)) (by simp)).weak
    have hflat : flat (cropL (colsOf xs (W * H).toNat) W n24 n25 (b3 + 1 - n24).toNat (b4 + 1 - n25).toNat) = cropX xs W n24 n25 (b3 + 1 - n24).toNat (b4 + 1 - n25).toNat := by
      rw [cropL_flat hf hin _ (by omega), flat_colsOf' (by omega)]
    rw [hflat] at f24
    rw [hT, cropR, if_pos hg, if_pos hin] at hR
    exact hR _ _ _ _ f24
end Go.Proofs.Ytdephacjcljinaa
