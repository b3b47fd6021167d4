/- The document's laying in of parts. -/
import Derived.Test.YtpdfpbioolbjjaaGridParts1
namespace Go.Proofs.Ytpdfpbioolbjjaa
open Go Go.Vc Go.RowKit
set_option maxRecDepth 100000
set_option linter.unusedVariables false
set_option linter.unusedSimpArgs false

theorem refPaste_spec {N N' : Nat} {w : World} {base base' : Option Addr} {len cap len' cap' : Nat} {W H x y a b : Int} {xs ys : List Int} {R : Ending → World → Prop}
    (h : Sl N w base (ints xs)) (hl : len = xs.length) (hok : gfits W H = true) (hn : W * H = xs.length)
    (h' : Sl N' w base' (ints ys)) (hl' : len' = ys.length) (hok' : gfits a b = true) (hm : a * b = ys.length)
    (h1 : within x y a b W H = false → ∀ w', Ext w w' → R (.returned (.tuple #[.agg #[i64 W, i64 H, .slice base len cap], i64 2])) w')
    (h2 : within x y a b W H = true → ∀ p cp w', Ext w w' → OwnS (fun i => w.heap.size ≤ i) w' p len cp 1 (ints (pasteL xs W x y ys a b.toNat)) → R (.returned (.tuple #[.agg #[i64 W, i64 H, .slice p len cp], i64 0])) w') :
    Calls P F.ref07_Paste #[.agg #[i64 W, i64 H, .slice base len cap], i64 x, i64 y, .agg #[i64 a, i64 b, .slice base' len' cap']] w R := by
  refine calls_ref07_Paste _ _ _ _ _ _ _ _ _ _ _ _ _ _ ?_
  obtain ⟨g0, g1, g2, g3, g4⟩ : 1 ≤ W ∧ 1 ≤ H ∧ W ≤ 4096 ∧ H ≤ 4096 ∧ W * H ≤ 65536 := by simpa [gfits] using hok
  obtain ⟨b0, b1, b2, b3, b4⟩ : 1 ≤ a ∧ 1 ≤ b ∧ a ≤ 4096 ∧ b ≤ 4096 ∧ a * b ≤ 65536 := by simpa [gfits] using hok'
  intro k1 hk1 k2 hk2 k3 hk3 w1 hL1
  have hE1 : Ext w w1 := hL1.ext (by simp; omega)
  have hs1 := hE1.size
  have ht1 := hL1.there k1 (by simp)
  have ht2 := hL1.there k2 (by simp)
  have ht3 := hL1.there k3 (by simp)
  refine Within_spec (by omega) (by omega) g2 g3 ⟨_, rfl, (Ext.refl _).keep _, brB_i (fun hw w3 hL3 => h1 (by simpa using hw) w3 (hE1.step hL3.chg (by simp; omega))) (fun hw => ?_)⟩
  have hw : within x y a b W H = true := by simpa using hw
  have hE1' := hE1.drew
  refine ⟨fun l w' => match l with
      | [.pointer (some k), .int _ c, .int _ d, .slice p ln cp] => c = W ∧ d = H ∧ ln = len ∧ w.heap.size ≤ k.block ∧ Ext w w' ∧ OwnS (fun i => w.heap.size ≤ i ∧ i ≠ k1 ∧ i ≠ k2 ∧ i ≠ k3 ∧ i ≠ k.block) w' p len cp 1 (ints xs)
      | _ => False, ⟨fun k4 w4 hn4 => ⟨⟨ints xs, by rw [ints_length]; omega, ints_oneAll _, ?_, ?_⟩, fun k8 hk8 w7 hL7 => ⟨ints xs, by rw [ints_length]; omega, ints_oneAll _, ?_, ?_⟩⟩, fun k11 hk11 w10 hL10 k12 w11 hn11 => ⟨ints xs, by rw [ints_length]; omega, ints_oneAll _, ?_, ?_⟩⟩,
    fun k15 n1 n2 p4 k16 k17 w14 hI => ?_⟩
  · exact (h.ext (hE1'.trans hn4.ext)).cells
  · have hE4 := hE1'.trans hn4.ext
    have hs4 : w1.heap.size ≤ w4.heap.size := hn4.ext.size
    refine (Own.nil w4.heap.size w4.heap.size w4 (some ⟨k4, 0, none⟩) 1).appS (by simp [blocks]; omega) (Nat.le_refl _) (Nat.le_refl _) rfl (by rw [ints_length]; omega) (by omega) (by omega) fun p cp w5 ho hc => ⟨(hc.ext fun i hi => hi.1).keeps, fun k7 hk7 w6 hL6 => ?_⟩
    have hs5 := hc.size
    refine ⟨rfl, rfl, by omega, by show w.heap.size ≤ k7; omega, (hE4.step hc fun i hi => by omega).step hL6.chg (by simp; omega), ?_⟩
    rw [Nat.zero_add] at ho
    have ho : OwnS (fun i => w.heap.size ≤ i ∧ i ≠ k1 ∧ i ≠ k2 ∧ i ≠ k3 ∧ i ≠ k7) w5 p len cp 1 (ints xs) := ho.mono fun i hi hlt => by omega
    exact ho.chg hL6.chg (by simp; omega)
  · exact (h.ext ((hE1'.trans hn4.ext).step hL7.chg (by have : w1.heap.size ≤ w4.heap.size := hn4.ext.size; simp; omega))).cells
  · have hE4 := hE1'.trans hn4.ext
    have hs4 : w1.heap.size ≤ w4.heap.size := hn4.ext.size
    have hs7 := hL7.size
    have ht7 := hL7.there k8 (by simp)
    have hE7 := hE4.step hL7.chg (by simp; omega)
    refine (Own.nil w7.heap.size w7.heap.size w7 (some ⟨k4, 0, none⟩) 1).appS (by simp [blocks]; omega) (Nat.le_refl _) (Nat.le_refl _) rfl (by rw [ints_length]; omega) (by omega) (by omega) fun p cp w8 ho hc => ⟨(hc.ext fun i hi => hi.1).keeps, fun w9 hL9 => ?_⟩
    have hs8 := hc.size
    refine ⟨rfl, rfl, by omega, by show w.heap.size ≤ k8; omega, (hE7.step hc fun i hi => by omega).step hL9.chg (by simp; omega), ?_⟩
    rw [Nat.zero_add] at ho
    have ho : OwnS (fun i => w.heap.size ≤ i ∧ i ≠ k1 ∧ i ≠ k2 ∧ i ≠ k3 ∧ i ≠ k8) w8 p len cp 1 (ints xs) := ho.mono fun i hi hlt => by omega
    exact ho.chg hL9.chg (by simp; omega)
  · have hk11 : w1.heap.size ≤ k11 := hk11
    exact (h.ext ((hE1'.step hL10.chg (by simp; omega)).trans hn11.ext)).cells
  · have hk11 : w1.heap.size ≤ k11 := hk11
    have hE10 := hE1'.step hL10.chg (by simp; omega)
    have hs10 : w1.heap.size ≤ w10.heap.size := hL10.size
    have ht10 := hL10.there k11 (by simp)
    have hs11 := hn11.ext.size
    have hE11 := hE10.trans hn11.ext
    refine (Own.nil w11.heap.size w11.heap.size w11 (some ⟨k12, 0, none⟩) 1).appS (by simp [blocks]; omega) (Nat.le_refl _) (Nat.le_refl _) rfl (by rw [ints_length]; omega) (by omega) (by omega) fun p cp w12 ho hc => ⟨(hc.ext fun i hi => hi.1).keeps, fun w13 hL13 => ?_⟩
    have hs12 := hc.size
    refine ⟨rfl, rfl, by omega, by show w.heap.size ≤ k11; omega, (hE11.step hc fun i hi => by omega).step hL13.chg (by simp; omega), ?_⟩
    rw [Nat.zero_add] at ho
    have ho : OwnS (fun i => w.heap.size ≤ i ∧ i ≠ k1 ∧ i ≠ k2 ∧ i ≠ k3 ∧ i ≠ k11) w12 p len cp 1 (ints xs) := ho.mono fun i hi hlt => by omega
    exact ho.chg hL13.chg (by simp; omega)
  · obtain ⟨rfl, rfl, rfl, hk15, hE14, ho14⟩ := hI
    have hk15 : w.heap.size ≤ k15 := hk15
    have ho14 : OwnS (fun i => w.heap.size ≤ i ∧ i ≠ k1 ∧ i ≠ k2 ∧ i ≠ k3 ∧ i ≠ k15) w14 p4 k16 k17 1 (ints xs) := ho14
    have hpl := fun k hk => pasteL_length (ys := ys) hw g2 g3 hn hm k hk
    refine ⟨fun l w' => match l with | [.int _ k] => 0 ≤ k ∧ k ≤ b ∧ Ext w w' ∧ OwnS (fun i => w.heap.size ≤ i ∧ i ≠ k1 ∧ i ≠ k2 ∧ i ≠ k3 ∧ i ≠ k15) w' p4 k16 k17 1 (ints (pasteL xs n1 x y ys a k.toNat)) | _ => False,
      fun l _ => match l with | [.int _ k] => (b - k).toNat | _ => 0, ⟨Int.le_refl _, by omega, hE14, ho14⟩, fun n3 w15 hI => ?_⟩
    obtain ⟨c0, c1, hE15, ho15⟩ := hI
    refine brB_i (fun hlt => ?_) (fun hge w17 hL17 => ?_)
    · have hlt : n3 < b := by simpa using hlt
      obtain ⟨r1, r2, r3, r4, r5⟩ := rowAt hw g2 g3 hn c0 hlt
      obtain ⟨s1, s2, s3, s4⟩ := srcAt (W := n1) (H := n2) (n := 0) hm b0 b2 b3 c0 hlt
      have hkk : (n3.toNat : Int) = n3 := by omega
      have hka : ((n3.toNat * a.toNat : Nat) : Int) = n3 * a := by rw [Int.natCast_mul]; congr 1 <;> omega
      have hrl : ((ys.drop (n3.toNat * a.toNat)).take a.toNat).length = a.toNat := by simp only [List.length_take, List.length_drop]; omega
      have hpk := hpl n3.toNat (by omega)
      refine ⟨fun l w' => match l with | [.int _ i] => 0 ≤ i ∧ i ≤ a ∧ Ext w w' ∧ OwnS (fun i => w.heap.size ≤ i ∧ i ≠ k1 ∧ i ≠ k2 ∧ i ≠ k3 ∧ i ≠ k15) w' p4 k16 k17 1 (ints (splice (pasteL xs n1 x y ys a n3.toNat) ((y + n3) * n1 + x).toNat (((ys.drop (n3.toNat * a.toNat)).take a.toNat).take i.toNat))) | _ => False,
        fun l _ => match l with | [.int _ i] => (a - i).toNat | _ => 0, ⟨Int.le_refl _, by omega, hE15, by simpa [splice] using ho15⟩, fun n4 w16 hI => ?_⟩
      obtain ⟨d0, d1, hE16, ho16⟩ := hI
      refine brB_i (fun hlt' => ?_) (fun hge => ?_)
      · have hlt' : n4 < a := by simpa using hlt'
        rw [s3, w64 (x := n3 * a + n4) (by omega) (by omega), r3, w64 (x := (y + n3) * n1 + x + n4) (by omega) (by omega), w64 (x := n4 + 1) (by omega) (by omega)]
        refine ((h'.ext hE16).drew).get (by omega) (by rw [ints_length]; omega) (ints_get (by omega)) fun ad hc => ⟨_, hc, ?_⟩
        obtain ⟨bb, rfl, ⟨q1, q2⟩, q3⟩ := ho16.base (by omega)
        refine idx_i (by omega) (by omega) rfl ?_
        rw [loc_add, Nat.zero_add, Nat.mul_one]
        obtain ⟨u1, u2, u3⟩ := OwnS.write (w := w16.drew) ho16 (i := ((y + n3) * n1 + x + n4).toNat) (by omega)
        obtain ⟨u3, u4⟩ := u3 (i64 (ys.getD (n3 * a + n4).toNat 0))
        refine ⟨u1, u2, by simp; omega, ⟨by omega, by omega, hE16.drew.step u4 (fun i hi => by omega), ?_⟩, ?_⟩
        · have e1 : ((ys.drop (n3.toNat * a.toNat)).take a.toNat).take (n4 + 1).toNat = ((ys.drop (n3.toNat * a.toNat)).take a.toNat).take n4.toNat ++ [ys.getD (n3 * a + n4).toNat 0] := by
            rw [show (n4 + 1).toNat = n4.toNat + 1 by omega, List.take_succ_eq_append_getElem (by omega)]
            congr 2
            simp only [List.getElem_take, List.getElem_drop]
            rw [show (n3 * a + n4).toNat = n3.toNat * a.toNat + n4.toNat by omega]
            have : n3.toNat * a.toNat + n4.toNat < ys.length := by omega
            simp [List.getD, this]
          have hlt2 : (((ys.drop (n3.toNat * a.toNat)).take a.toNat).take n4.toNat).length = n4.toNat := by rw [List.length_take]; omega
          rw [e1, splice_snoc (by rw [hlt2]; omega), hlt2, show ((y + n3) * n1 + x).toNat + n4.toNat = ((y + n3) * n1 + x + n4).toNat by omega]
          simpa [ints, List.map_set] using u3
        · show (a - (n4 + 1)).toNat < (a - n4).toNat
          omega
      · have hge : n4 = a := by simp at hge; omega
        subst hge
        rw [List.take_of_length_le (by omega)] at ho16
        rw [w64 (x := n3 + 1) (by omega) (by omega)]
        refine ⟨⟨by omega, by omega, hE16, ?_⟩, ?_⟩
        · rw [show (n3 + 1).toNat = n3.toNat + 1 by omega, pasteL, hkk]; exact ho16
        · show (b - (n3 + 1)).toNat < (b - n3).toNat
          omega
    · have hge : n3 = b := by simp at hge; omega
      subst hge
      have hs15 := hE15.size
      exact h2 hw p4 k17 w17 (hE15.step hL17.chg (by simp; omega)) ((ho15.chg hL17.chg (by simp; omega)).mono fun i hi _ => hi.1)
end Go.Proofs.Ytpdfpbioolbjjaa
