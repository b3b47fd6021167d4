/- Quant: the document's words on palettes: walks. -/
import Derived.Test.YtijplekhbpigiaaQP1
namespace Go.Proofs.Ytijplekhbpigiaa
open Go Go.Vc Go.RowKit Go.Qn
set_option maxRecDepth 100000
set_option linter.unusedVariables false
set_option linter.unusedSimpArgs false
set_option maxHeartbeats 4000000

theorem Place2_spec {N : Nat} {w : World} {p : Option Addr} {len cap : Nat} {l : List Co} {c : Co} {R : Ending → World → Prop} (h : Sl N w p (cos l)) (hl : l.length = len) (h62 : len < 2 ^ 62)
    (hR : ∀ (n : Int) w', Ext w w' → ((n < 0 ∧ c ∉ l) ∨ ∃ k : Nat, n = k ∧ k < l.length ∧ l.getD k zeroC = c ∧ ∀ j, j < k → l.getD j zeroC ≠ c) → R (.returned (i64 n)) w') : Calls P F.ref09_Place #[.slice p len cap, .agg (co c).toArray] w R := by
  refine calls_ref09_Place _ _ _ _ _ _ _ _ _ ?_
  intro k1 hk1
  refine ⟨fun vs u => match vs with | [.int _ n] => 0 ≤ n ∧ n ≤ len ∧ Ext w u ∧ ∀ j : Nat, (j : Int) < n → l.getD j zeroC ≠ c | _ => False,
    fun vs _ => match vs with | [.int _ n] => (len - n).toNat | _ => 0, fun w1 hL1 => ⟨Int.le_refl _, by omega, hL1.ext (by simpa using hk1), fun j hj => by omega⟩, fun n w2 hI => ?_⟩
  obtain ⟨n0, n1, hE, hj⟩ := hI
  refine brB_i (fun hlt => ?_) (fun hge => ?_)
  · have hlt : n < len := by simpa using hlt
    refine cos_elem (h.ext hE).drew hl n0 hlt fun a h1 h2 h3 h4 => ⟨_, _, _, _, h1, h2, h3, h4, ?_⟩
    rw [co_inj (a := l.getD n.toNat zeroC) (b := c)]
    have hnl : n.toNat < l.length := by omega
    refine brB_i (fun he => ?_) (fun hne => ?_)
    · have he : l.getD n.toNat zeroC = c := by simpa using he
      exact hR n _ hE.drew (.inr ⟨n.toNat, by omega, hnl, he, fun j hjn => hj j (by omega)⟩)
    · have hne : l.getD n.toNat zeroC ≠ c := by simpa using hne
      rw [w64 (x := n + 1) (by omega) (by omega)]
      refine ⟨⟨by omega, by omega, hE.drew, fun j hj' => ?_⟩, ?_⟩
      · by_cases hjn : (j : Int) < n
        · exact hj j hjn
        · rw [show j = n.toNat by omega]; exact hne
      · show (len - (n + 1)).toNat < (len - n).toNat
        omega
  · have hge : n = len := by simp at hge; omega
    refine hR (-1) w2 hE (.inl ⟨by omega, fun hm => ?_⟩)
    obtain ⟨j, hjl, hje⟩ := List.getElem_of_mem hm
    exact hj j (by omega) (by simp [List.getD, hjl, hje])
theorem rMet_spec {w : World} {p : Option Addr} {len cap : Nat} {W H : Int} {xs : List Int} {most : Nat} {R : Ending → World → Prop} (h : Img w p len xs) (hb : good W H xs = true) (hok : PxOk xs) (hm : most ≤ 2 ^ 20)
    (hR : ∀ p' c' w', Fg [] w w' 4 p' (metN xs most (W * H).toNat).length c' (cos (metN xs most (W * H).toNat)) → R (.returned (.slice p' (metN xs most (W * H).toNat).length c')) w') :
    Calls P F.ref14_Met #[.agg #[i64 W, i64 H, .slice p len cap], i64 most] w R := by
  refine calls_ref14_Met _ _ _ _ _ _ _ _ ?_
  intro k1 hk1
  obtain ⟨hg, hxl⟩ := good_iff.1 hb
  obtain ⟨g1, g2, g3, g4, g5⟩ := gfits_iff.1 hg
  have hmlen : ∀ n, (metN xs most n).length ≤ most + 1 := fun n => by rw [met_full, List.length_take]; omega
  refine ⟨fun vs u => ∃ (y : Int) (q : Option Addr) (c : Nat), vs = [.slice q (metN xs most (y * W).toNat).length c, i64 y] ∧ 0 ≤ y ∧ y ≤ H ∧ Fg [k1] w u 4 q (metN xs most (y * W).toNat).length c (cos (metN xs most (y * W).toNat)),
    fun vs _ => match vs with | [_, .int _ y] => (H - y).toNat | _ => 0, fun w1 hL1 => ⟨0, none, 0, by simp [metN], Int.le_refl _, by omega, ?_⟩, fun q1 l1 c1 n1 w2 hI => ?_⟩
  · rw [Int.zero_mul]
    exact Fg.nil' (Ext.refl w) hL1 (by simpa using hk1) 4
  obtain ⟨y, q, c, hv, y0, y1, hf⟩ := hI
  simp only [List.cons.injEq, Value.int.injEq, Value.slice.injEq, true_and, and_true] at hv
  obtain ⟨⟨rfl, rfl, rfl⟩, rfl⟩ := hv
  refine brB_i (fun hlt => ?_) (fun hge => ?_)
  · have hlt : n1 < H := by simpa using hlt
    have hyW : 0 ≤ n1 * W := Int.mul_nonneg y0 (by omega)
    have hyW' : n1 * W + W ≤ W * H := by
      rw [show n1 * W + W = (n1 + 1) * W by rw [Int.add_mul]; omega, Int.mul_comm W H]
      exact Int.mul_le_mul_of_nonneg_right (by omega) (by omega)
    refine ⟨fun vs u => ∃ (x : Int) (q : Option Addr) (c : Nat), vs = [.slice q (metN xs most (n1 * W + x).toNat).length c, i64 x] ∧ 0 ≤ x ∧ x ≤ W ∧ Fg [k1] w u 4 q (metN xs most (n1 * W + x).toNat).length c (cos (metN xs most (n1 * W + x).toNat)),
      fun vs _ => match vs with | [_, .int _ x] => (W - x).toNat | _ => 0, ⟨0, q1, c1, by simp, Int.le_refl _, by omega, by rw [Int.add_zero]; exact hf⟩, fun q2 l2 c2 n2 w3 hI => ?_⟩
    obtain ⟨x, q3, c3, hv, x0, x1, hf3⟩ := hI
    simp only [List.cons.injEq, Value.int.injEq, Value.slice.injEq, true_and, and_true] at hv
    obtain ⟨⟨rfl, rfl, rfl⟩, rfl⟩ := hv
    refine brB_i (fun hlt2 => ?_) (fun hge => ?_)
    · have hlt2 : n2 < W := by simpa using hlt2
      have hnx : (n1 * W + (n2 + 1)).toNat = (n1 * W + n2).toNat + 1 := by omega
      generalize hk : (n1 * W + n2).toNat = k at *
      have hml := hmlen k
      refine ⟨fun vs u => ∃ (q : Option Addr) (c : Nat), vs = [.slice q (metN xs most (k + 1)).length c] ∧ Fg [k1] w u 4 q (metN xs most (k + 1)).length c (cos (metN xs most (k + 1))), ?_, fun q4 l4 c4 w12 hI => ?_⟩
      · refine refPixel_spec (h.ext hf3.ext) hb x0 y0 hlt2 hlt fun w4 hE4 => ⟨_, _, _, _, rfl, hE4.keep _, fun k6 hk6 w5 hL5 => ?_⟩
        rw [hk]
        have hco := colAt_ok hok k
        have f4 := hf3.step hE4
        have f5 := (f4.push hL5 (by simp; omega)).mono (bs := [k6, k1]) (by simp)
        refine rClear_spec (c := colAt xs k) fun w6 hE6 => ⟨_, rfl, hE6.keep _, ?_⟩
        have f6 := f5.step hE6
        refine brB_i (fun hc => ?_) (fun hc => ?_)
        · have hc : clearC (colAt xs k) = false ∧ (metN xs most k).length ≤ most := by simp at hc; exact ⟨hc.1, by omega⟩
          rw [metN, if_pos hc]
          refine rEight_spec hco fun w7 hE7 => ⟨_, _, _, _, rfl, hE7.keep _, ?_⟩
          have f7 := f6.step hE7
          refine Place_spec (c := eightC (colAt xs k)) f7.sl rfl (by omega) fun n w8 hE8 hn => ⟨_, rfl, hE8.keep _, ?_⟩
          have f8 := f7.step hE8
          rw [hn]
          refine brB_i (fun hm => ?_) (fun hm => ?_)
          · have hm : eightC (colAt xs k) ∉ metN xs most k := by simpa using hm
            refine rEight_spec hco fun w9 hE9 => ⟨_, _, _, _, rfl, hE9.keep _, fun k7 hk7 w10 hL10 => ?_⟩
            have f9 := f8.step hE9
            have f10 := (f9.push hL10 (by simp; omega)).mono (bs := [k7, k6, k1]) (by simp)
            refine f10.app' (by simp [blocks]) rfl rfl (by omega) (by omega) fun p' c' w11 hf11 _ _ => ?_
            rw [addC_new hm]
            refine ⟨p', c', by simp, ?_⟩
            rw [cos_append, cos_one, List.length_append]
            exact hf11.mono (by simp)
          · have hm : eightC (colAt xs k) ∈ metN xs most k := by simpa using hm
            rw [addC_old hm]
            exact ⟨_, _, rfl, f8.mono (by simp)⟩
        · have hc : ¬ (clearC (colAt xs k) = false ∧ (metN xs most k).length ≤ most) := by
            intro hx
            simp [hx.1] at hc
            omega
          rw [metN, if_neg hc]
          exact ⟨_, _, rfl, f6.mono (by simp)⟩
      · obtain ⟨q5, c5, hv, f12⟩ := hI
        simp only [List.cons.injEq, Value.slice.injEq, true_and, and_true] at hv
        obtain ⟨rfl, rfl, rfl⟩ := hv
        rw [w64 (x := n2 + 1) (by omega) (by omega)]
        exact ⟨⟨n2 + 1, _, _, by rw [hnx], by omega, by omega, by rw [hnx]; exact f12⟩, by show (W - (n2 + 1)).toNat < (W - n2).toNat; omega⟩
    · have hge : n2 = W := by simp at hge; omega
      subst hge
      rw [w64 (x := n1 + 1) (by omega) (by omega)]
      have e : (n1 * n2 + n2) = (n1 + 1) * n2 := by rw [Int.add_mul]; omega
      rw [e] at hf3 ⊢
      exact ⟨⟨n1 + 1, _, _, rfl, by omega, by omega, hf3⟩, by show (H - (n1 + 1)).toNat < (H - n1).toNat; omega⟩
  · have hge : n1 = H := by simp at hge; omega
    subst hge
    rw [Int.mul_comm W n1] at hR
    exact hR q1 c1 w2 hf.weak
theorem depth_spec {w : World} {c : Co} {R : Ending → World → Prop} (hc : ∃ d, CoOk d ∧ c = eightC d) (hR : ∀ w', Ext w w' → R (.returned (.bool true)) w') : Calls P F.ref14_depth8 #[.agg (co c).toArray] w R := by
  obtain ⟨d, hd, rfl⟩ := hc
  refine calls_ref14_depth8 _ _ _ _ _ _ ?_
  intro k1 hk1 w1 hL
  refine to_bool (hR w1 (hL.ext (by simpa using hk1))) ?_
  have m : ∀ v, Byt v → (divZ .rem .u16 (roundV v) 257 == 0) = true := fun v hv => by
    have := dnV_range hv.1 hv.2 (most := 255) (by omega)
    rw [remN (round_ok hv).1, round257 hv]
    simp
  show true = ((divZ .rem .u16 (roundV d.1) 257 == 0) && (divZ .rem .u16 (roundV d.2.1) 257 == 0) && (divZ .rem .u16 (roundV d.2.2.1) 257 == 0) && ((65535 : Int) == 65535))
  rw [m _ hd.1, m _ hd.2.1, m _ hd.2.2.1]; rfl
end Go.Proofs.Ytijplekhbpigiaa
