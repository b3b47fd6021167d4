/- Quant: the document's nearest colours; paletted images that are the same. -/
import Derived.Test.YtijplekhbpigiaaQS12
namespace Go.Proofs.Ytijplekhbpigiaa
open Go Go.Vc Go.RowKit Go.Qn
set_option maxRecDepth 100000
set_option linter.unusedVariables false
set_option linter.unusedSimpArgs false
set_option maxHeartbeats 4000000

theorem rApply_spec {N : Nat} {w : World} {p pp : Option Addr} {len cap pn pc : Nat} {W H : Int} {xs : List Int} {pal : List Co} {R : Ending → World → Prop} (h : Img w p len xs) (hok : PxOk xs)
    (hpal : Sl N w pp (cos pal)) (hpn : pal.length = pn) (hpc : pn * 8 ≤ 2 ^ 47)
    (hR : ∀ p1 c1 q1 d1 w', Pald w w' p1 (appR W H xs pal).2.2.1.length c1 (appR W H xs pal).2.2.1 q1 (appR W H xs pal).2.2.2.1.length d1 (appR W H xs pal).2.2.2.1 →
      R (.returned (.tuple #[.agg #[i64 (appR W H xs pal).1, i64 (appR W H xs pal).2.1, .slice p1 (appR W H xs pal).2.2.1.length c1, .slice q1 (appR W H xs pal).2.2.2.1.length d1], i64 (appR W H xs pal).2.2.2.2])) w') :
    Calls P F.ref14_Apply #[.agg #[i64 W, i64 H, .slice p len cap], .slice pp pn pc] w R := by
  subst hpn
  refine calls_ref14_Apply _ _ _ _ _ _ _ _ _ _ ?_
  intro k1 hk1 k2 hk2 w1 hL1
  have hk0 : ∀ b, b ∈ [k2, k1] → w.heap.size ≤ b := by simp; omega
  have hE1 : Ext w w1 := hL1.ext hk0
  have hs1 := hL1.size
  have ht1 := hL1.there k1 (by simp)
  have ht2 := hL1.there k2 (by simp)
  refine refGood_spec h.len fun w2 hE2 => ⟨_, rfl, hE2.keep _, ?_⟩
  have hE12 := hE1.trans hE2
  have hs2 := hE2.size
  refine brB_i (fun hb => ?_) fun hb => ?_
  · intro w3 hL3
    have hb : good W H xs = false := by simpa using hb
    rw [appR, if_neg (by simp [hb])] at hR
    exact hR none 0 none 0 w3 (Pald.nil (hE12.step hL3.chg hk0))
  have hb : good W H xs = true := by simpa using hb
  refine brB_i (fun hm => ?_) fun hm => ?_
  · intro w4 hL4
    have hm : pal.length < 1 ∨ 256 < pal.length := by simp at hm; omega
    rw [appR, if_pos hb, if_pos hm] at hR
    exact hR none 0 none 0 w4 (Pald.nil (hE12.step hL4.chg hk0))
  have hm : ¬ (pal.length < 1 ∨ 256 < pal.length) := by
    intro hx
    rcases hx with hx | hx
    · simp [show ((pal.length : Nat) : Int) < 1 by omega] at hm
    · simp [show ((pal.length : Nat) : Int) > 256 by omega] at hm
  rw [appR, if_pos hb, if_neg hm] at hR
  have hs12 := hE12.size
  rw [w64 (x := ((pal.length : Nat) : Int) - 1) (by omega) (by omega)]
  refine ⟨fun vs u => ∃ (v : Int) (n : Nat), vs = [i64 v, i64 ((n : Int) - 1)] ∧ n ≤ pal.length ∧ NoneIs pal n v ∧ Ext w2 u, fun vs _ => match vs with | [_, .int _ n] => (n + 1).toNat | _ => 0, ⟨-1, pal.length, rfl, Nat.le_refl _, .inl ⟨rfl, fun j h1 h2 => by omega⟩, Ext.refl _⟩, fun n1 n2 w5 hI => ?_⟩
  obtain ⟨v, n, hv, hn, hN, hE5⟩ := hI
  obtain ⟨rfl, rfl⟩ : n1 = v ∧ n2 = (n : Int) - 1 := by simpa using hv
  have hE15 := hE12.trans hE5
  have hs5 := hE5.size
  refine brB_i (fun hge => ?_) fun hlt => ?_
  · have hge : 0 < n := by simp at hge; omega
    obtain ⟨m, rfl⟩ : ∃ m, n = m + 1 := ⟨n - 1, by omega⟩
    refine ⟨fun vs u => ∃ v : Int, vs = [i64 v] ∧ NoneIs pal m v ∧ Ext w2 u, ?_, fun n4 w6 hI => ?_⟩
    · refine cos_elem (hpal.ext hE15) rfl (by omega) (by omega) fun a e1 e2 e3 e4 => ⟨_, e4, ?_⟩
      have em : (((m + 1 : Nat) : Int) - 1).toNat = m := by omega
      rw [em]
      refine brB_i (fun hz => ?_) fun hz => ?_
      · have hz : (pal.getD m zeroC).2.2.2 = 0 := eq_of_beq hz
        exact ⟨_, rfl, .inr ⟨m, Nat.le_refl _, by omega, by omega, hz, fun j h1 h2 => by omega⟩, hE5⟩
      · have hz : (pal.getD m zeroC).2.2.2 ≠ 0 := fun e => by rw [e] at hz; exact absurd hz (by simp)
        refine ⟨_, rfl, ?_, hE5⟩
        rcases hN with ⟨h1, h2⟩ | ⟨k, h1, h2, h3, h4, h5⟩
        · refine .inl ⟨h1, fun j hj hl => ?_⟩
          rcases Nat.eq_or_lt_of_le hj with e | e
          · rw [← e]; exact hz
          · exact h2 j e hl
        · refine .inr ⟨k, by omega, h2, h3, h4, fun j hj hl => ?_⟩
          rcases Nat.eq_or_lt_of_le hj with e | e
          · rw [← e]; exact hz
          · exact h5 j e hl
    · obtain ⟨v, hv, hN6, hE6⟩ := hI
      obtain rfl : n4 = v := by simpa using hv
      rw [w64 (x := ((m + 1 : Nat) : Int) - 1 - 1) (by omega) (by omega)]
      exact ⟨⟨n4, m, by simp, by omega, hN6, hE6⟩, by show (((m + 1 : Nat) : Int) - 1 - 1 + 1).toNat < (((m + 1 : Nat) : Int) - 1 + 1).toNat; omega⟩
  have hn0 : n = 0 := by simp at hlt; omega
  subst hn0
  have hnv := hN.uniq (noneV_is pal)
  subst hnv
  have hEd : Ext w w5.drew := hE15.drew
  have hss := hEd.size
  have hsd : w5.drew.heap.size = w5.heap.size := rfl
  refine ⟨fun vs u => ∃ (kx bP c : Nat) (rest : List Value), vs = [.pointer (some ⟨kx, 0, none⟩), i64 W, i64 H, .slice (some ⟨bP, 0, none⟩) pal.length c, .slice none 0 0] ∧ Ext w u ∧ w5.heap.size ≤ kx ∧ kx < u.heap.size ∧ kx ≠ bP ∧ w5.heap.size ≤ bP ∧ bP < u.heap.size ∧
      Cs u bP (cos pal ++ rest) ∧ pal.length ≤ c ∧ c * 4 = (cos pal).length + rest.length, ⟨fun k3 w7 hn7 => ⟨?_, fun k7 hk7 w10 hL10 => ?_⟩, fun k10 hk10 w13 hL13 k11 w14 hn14 => ?_⟩, fun kx n5 n6 p4 l4 c4 p5 l5 c5 w17 hI => ?_⟩
  · have hE7 := hEd.trans hn7.ext
    have hs7 := hn7.ext.size
    refine ⟨cos pal, by rw [cos_length], cos_oneAll _, (hpal.ext hE7).cells, (Ow.nil w7.heap.size w7.heap.size w7 _ 4).app (by simp [blocks]; omega) (Nat.le_refl _) (Nat.le_refl _) rfl (by rw [cos_length]) (by omega) (by omega) fun p1 c1 w8 ho hch => ?_⟩
    have hEch : Ext w7 w8 := hch.ext fun i hi => hi.1
    rw [Nat.zero_add] at ho ⊢
    rw [List.nil_append] at ho
    obtain ⟨_, o2, o3⟩ := ho
    rcases o3 with o3 | ⟨bP, rest, b0, b1, rfl, o4, o5⟩
    · omega
    have hs8 := hEch.size
    intro k6 hk6 w9 hL9
    have hs9 := hL9.size
    exact ⟨k6, bP, c1, rest, rfl, (hE7.trans hEch).step hL9.chg (by simp; omega), by omega, hL9.there k6 (by simp), by omega, by omega, by omega, o5.locl hL9 (by simp; omega), o2, o4⟩
  · have hE10 : Ext w w10 := (hEd.trans hn7.ext).step hL10.chg (by have := hn7.ext.size; simp; omega)
    have hs7 := hn7.ext.size
    have hs10 := hL10.size
    have ht7 := hL10.there k7 (by simp)
    refine ⟨cos pal, by rw [cos_length], cos_oneAll _, (hpal.ext hE10).cells, (Ow.nil w10.heap.size w10.heap.size w10 _ 4).app (by simp [blocks]; omega) (Nat.le_refl _) (Nat.le_refl _) rfl (by rw [cos_length]) (by omega) (by omega) fun p1 c1 w8 ho hch => ?_⟩
    have hEch : Ext w10 w8 := hch.ext fun i hi => hi.1
    rw [Nat.zero_add] at ho ⊢
    rw [List.nil_append] at ho
    obtain ⟨_, o2, o3⟩ := ho
    rcases o3 with o3 | ⟨bP, rest, b0, b1, rfl, o4, o5⟩
    · omega
    have hs8 := hEch.size
    intro w12 hL12
    have hs12' := hL12.size
    exact ⟨k7, bP, c1, rest, rfl, (hE10.trans hEch).step hL12.chg (by simp; omega), by omega, by omega, by omega, by omega, by omega, o5.locl hL12 (by simp; omega), o2, o4⟩
  · have hE13 : Ext w w13 := hEd.step hL13.chg (by simp; omega)
    have hE14 := hE13.trans hn14.ext
    have hs13 := hL13.size
    have hs14 := hn14.ext.size
    have ht10 := hL13.there k10 (by simp)
    refine ⟨cos pal, by rw [cos_length], cos_oneAll _, (hpal.ext hE14).cells, (Ow.nil w14.heap.size w14.heap.size w14 _ 4).app (by simp [blocks]; omega) (Nat.le_refl _) (Nat.le_refl _) rfl (by rw [cos_length]) (by omega) (by omega) fun p1 c1 w8 ho hch => ?_⟩
    have hEch : Ext w14 w8 := hch.ext fun i hi => hi.1
    rw [Nat.zero_add] at ho ⊢
    rw [List.nil_append] at ho
    obtain ⟨_, o2, o3⟩ := ho
    rcases o3 with o3 | ⟨bP, rest, b0, b1, rfl, o4, o5⟩
    · omega
    have hs8 := hEch.size
    intro w16 hL16
    have hs16 := hL16.size
    exact ⟨k10, bP, c1, rest, rfl, (hE14.trans hEch).step hL16.chg (by simp; omega), by omega, by omega, by omega, by omega, by omega, o5.locl hL16 (by simp; omega), o2, o4⟩
  obtain ⟨kx', bP, cP, rest, hv, hE17, x1, x2, x3, x4, x5, hPl, hPc, hPr⟩ := hI
  simp only [List.cons.injEq, Value.pointer.injEq, Option.some.injEq, Addr.mk.injEq, Value.int.injEq, Value.slice.injEq, true_and, and_true] at hv
  obtain ⟨hkx, hW, hH, ⟨rfl, rfl, hcP⟩, ⟨rfl, rfl, rfl⟩⟩ := hv
  subst hkx
  have hW := hW.symm
  have hH := hH.symm
  have hcP := hcP.symm
  subst hW hH hcP
  have hb' := hb
  obtain ⟨hg, hxl⟩ := good_iff.1 hb
  obtain ⟨g1, g2, g3, g4, g5⟩ := gfits_iff.1 hg
  have hpos : 0 < W * H := Int.mul_pos (by omega) (by omega)
  have hll : (colsOf xs (W * H).toNat).length = (W * H).toNat := colsOf_length _ _
  generalize hl : colsOf xs (W * H).toNat = l at *
  have hlok : ∀ c, c ∈ l → CoOk c := fun c hcm => by
    rw [← hl] at hcm
    unfold colsOf at hcm
    obtain ⟨i, _, rfl⟩ := List.mem_map.1 hcm
    exact colAt_ok hok i
  have hav : ∀ b, b ∈ [kx, k2, k1, bP] → w.heap.size ≤ b ∧ b < w17.heap.size := by simp; omega
  refine ⟨fun vs u => ∃ (y : Int) (q : Option Addr) (c : Nat), vs = [i64 y, i64 W, i64 H, .slice (some ⟨bP, 0, none⟩) pal.length cP, .slice q (y * W).toNat c] ∧ 0 ≤ y ∧ y ≤ H ∧ Fg [kx, k2, k1, bP] w u 1 q (y * W).toNat c (bytes ((l.take (y * W).toNat).map (idxV pal))) ∧ Cs u bP (cos pal ++ rest),
    fun vs _ => match vs with | .int _ y :: _ => (H - y).toNat | _ => 0, ⟨0, none, 0, by simp, Int.le_refl _, by omega, ?_, hPl⟩, fun n7 n8 n9 p6 l6 c6 p7 l7 c7 w18 hI => ?_⟩
  · rw [Int.zero_mul]
    exact Fg.nil' hE17 (locl_here fun b hb => (hav b hb).2) (fun b hb => (hav b hb).1) 1
  obtain ⟨y, q, c, hv, y0, y1, hf, hP8⟩ := hI
  simp only [List.cons.injEq, Value.int.injEq, Value.slice.injEq, true_and, and_true] at hv
  obtain ⟨hy, hn8, hn9, ⟨hp6, hl6, hc6⟩, hp7, hl7, hc7⟩ := hv
  subst hy hn8 hn9 hp6 hl6 hc6 hp7 hl7 hc7
  refine brB_i (fun hlt2 => ?_) fun hge2 => ?_
  · have hlt2 : n7 < n9 := by simpa using hlt2
    have hyW : 0 ≤ n7 * n8 := Int.mul_nonneg y0 (by omega)
    have hyW' : n7 * n8 + n8 ≤ n8 * n9 := by
      rw [show n7 * n8 + n8 = (n7 + 1) * n8 by rw [Int.add_mul]; omega, Int.mul_comm n8 n9]
      exact Int.mul_le_mul_of_nonneg_right (by omega) (by omega)
    refine ⟨fun vs u => ∃ (x : Int) (q : Option Addr) (c : Nat), vs = [i64 x, i64 n8, i64 n9, .slice (some ⟨bP, 0, none⟩) pal.length c6, .slice q (n7 * n8 + x).toNat c] ∧ 0 ≤ x ∧ x ≤ n8 ∧ Fg [kx, k2, k1, bP] w u 1 q (n7 * n8 + x).toNat c (bytes ((l.take (n7 * n8 + x).toNat).map (idxV pal))) ∧ Cs u bP (cos pal ++ rest),
      fun vs _ => match vs with | .int _ x :: _ => (n8 - x).toNat | _ => 0, ⟨0, p7, c7, by simp, Int.le_refl _, by omega, by rw [Int.add_zero]; exact hf, hP8⟩, fun n10 n11 n12 p8 l8 c8 p9 l9 c9 w19 hI => ?_⟩
    obtain ⟨x, q9, cc9, hv, x0, x1', hf9, hP9⟩ := hI
    simp only [List.cons.injEq, Value.int.injEq, Value.slice.injEq, true_and, and_true] at hv
    obtain ⟨hx, hn11, hn12, ⟨hp8, hl8, hc8⟩, hp9, hl9, hc9⟩ := hv
    have hn11 := hn11.symm
    have hn12 := hn12.symm
    have hc8 := hc8.symm
    subst hx hn11 hn12 hp8 hl8 hc8 hp9 hl9 hc9
    refine brB_i (fun hlt3 => ?_) fun hge3 => ?_
    · have hlt3 : n10 < n8 := by simpa using hlt3
      refine refPixel_spec (h.ext hf9.ext) hb' x0 y0 hlt3 hlt2 fun w20 hE20 => ⟨_, _, _, _, rfl, hE20.keep _, fun k27 hk27 => ?_⟩
      have hkk : (n7 * n8 + n10).toNat < l.length := by omega
      have hco := hlok _ (getD_mem hkk)
      have ecol : colAt xs (n7 * n8 + n10).toNat = l.getD (n7 * n8 + n10).toNat zeroC := by rw [← hl]; exact (colsOf_getD (by omega)).symm
      generalize hkd : (n7 * n8 + n10).toNat = k at *
      rw [ecol]
      generalize hcl : l.getD k zeroC = cl at *
      have f20 := hf9.step hE20
      have P20 := hP9.ext hE20
      have hs20 := hE20.size
      have ha9 := hf9.avs
      have ha9' := (ha9 bP (by simp)).2
      refine ⟨fun vs u => ∃ n : Int, vs = [i64 n] ∧ IntKind.u8.wrap n = idxV pal cl ∧ Fg [k27, kx, k2, k1, bP] w u 1 p9 k c9 (bytes ((l.take k).map (idxV pal))) ∧ Cs u bP (cos pal ++ rest), ?_, fun n27 w28 hI => ?_⟩
      · refine brB_i (fun hn => ?_) fun hn => ?_
        · have hn : noneV pal < 0 := of_decide_eq_true hn
          intro w21 hL21
          have f21 := (f20.push hL21 (by simp; omega)).mono (bs := [k27, kx, k2, k1, bP]) (by simp)
          have P21 := P20.locl hL21 (by simp; omega)
          refine rEight_spec hco fun w22 hE22 => ⟨_, _, _, _, rfl, hE22.keep _, rNearest_spec (c := eightC cl) ((hpal.ext f21.ext).ext hE22) rfl (by omega) fun w23 hE23 => ⟨_, rfl, hE23.keep _, nearV pal (eightC cl), rfl, by unfold idxV; rw [if_pos (.inl hn)], (f21.step hE22).step hE23, (P21.ext hE22).ext hE23⟩⟩
        · have hn : ¬ noneV pal < 0 := of_decide_eq_false hn
          intro w21 hL21
          have f21 := (f20.push hL21 (by simp; omega)).mono (bs := [k27, kx, k2, k1, bP]) (by simp)
          have P21 := P20.locl hL21 (by simp; omega)
          refine rClear_spec (c := cl) fun w25 hE25 => ⟨_, rfl, hE25.keep _, ?_⟩
          refine brB_i (fun hcl' => ?_) fun hcl' => ?_
          · have hcl' : clearC cl = false := by simpa using hcl'
            have f25 := f21.step hE25
            refine rEight_spec hco fun w22 hE22 => ⟨_, _, _, _, rfl, hE22.keep _, rNearest_spec (c := eightC cl) ((hpal.ext f25.ext).ext hE22) rfl (by omega) fun w23 hE23 => ⟨_, rfl, hE23.keep _, nearV pal (eightC cl), rfl, by unfold idxV; rw [if_pos (.inr hcl')], (f25.step hE22).step hE23, ((P21.ext hE25).ext hE22).ext hE23⟩⟩
          · have hcl' : clearC cl = true := by simpa using hcl'
            exact ⟨noneV pal, rfl, by unfold idxV; rw [if_neg (by simp [hn, hcl'])], f21.step hE25, P21.ext hE25⟩
      · obtain ⟨n, hv, hnn, f28, P28⟩ := hI
        obtain rfl : n27 = n := by simpa using hv
        intro k28 hk28 w29 hL29
        have ha28 := f28.avs
        have ha28' := (ha28 bP (by simp)).2
        have f29 := (f28.push hL29 (by simp; omega)).mono (bs := [k28, k27, kx, k2, k1, bP]) (by simp)
        have P29 := P28.locl hL29 (by simp; omega)
        rw [hnn]
        refine f29.app' (by simp [blocks]) rfl rfl (by omega) (by omega) fun q2 c2 w30 f30 kp30 _ w31 hL31 => ?_
        have P30 := P29.keep kp30 (by simp)
        have e : (l.take (k + 1)).map (idxV pal) = (l.take k).map (idxV pal) ++ [idxV pal cl] := by
          rw [List.take_succ_eq_append_getElem hkk, List.map_append, List.map_singleton, ← hcl]
          simp [List.getD, hkk]
        rw [w64 (x := n10 + 1) (by omega) (by omega)]
        have ek : (n7 * n8 + (n10 + 1)).toNat = k + 1 := by omega
        refine ⟨⟨n10 + 1, q2, c2, by rw [ek], by omega, by omega, ?_, P30.locl hL31 (by simp; omega)⟩, by show (n8 - (n10 + 1)).toNat < (n8 - n10).toNat; omega⟩
        rw [ek, e, bytes_append]
        exact (f30.push hL31 (by simp)).mono (by simp)
    · have hge3 : n10 = n8 := by simp at hge3; omega
      subst hge3
      rw [w64 (x := n7 + 1) (by omega) (by omega)]
      have e : n7 * n10 + n10 = (n7 + 1) * n10 := by rw [Int.add_mul]; omega
      rw [e] at hf9
      refine ⟨⟨n7 + 1, p9, c9, by rw [e], by omega, by omega, hf9, hP9⟩, by show (n9 - (n7 + 1)).toNat < (n9 - n7).toNat; omega⟩
  · intro w32 hL32
    have hge2 : n7 = n9 := by simp at hge2; omega
    subst hge2
    have ek : (n7 * n8).toNat = l.length := by rw [hll, Int.mul_comm]
    rw [ek, List.take_of_length_le (Nat.le_refl _)] at hf
    rw [ek]
    have hb8 := (hf.avs bP (by simp)).2
    have f32 := (hf.push hL32 (by simp)).mono (bs := [bP]) (by simp)
    obtain ⟨S, s1, s2, s3⟩ := f32.own
    have hb32 := (f32.avs bP (by simp))
    have := hR (some ⟨bP, 0, none⟩) c6 p7 c7 w32 ⟨f32.ext, fun i => i = bP, S, fun i hi => ?_, s1, fun i hi hS => ?_, ⟨⟨by rw [cos_length], hPc, .inr ⟨bP, rest, rfl, rfl, hPr, hP8.locl hL32 (by simp; omega)⟩⟩, fun i hi => ?_⟩, ?_⟩
    · simp only [List.length_map] at this
      exact this
    · rw [hi]; exact hb32.1
    · rw [hi] at hS; exact s2 bP (by simp) hS
    · rw [hi]; exact hb32.2
    · simp only [List.length_map]; exact s3
theorem SameP_spec {N1 N2 N3 N4 : Nat} {w : World} {a b c d : Option Addr} {an ac bn bc cn cc dn dc : Nat} {W H V G : Int} {p1 p2 : List Co} {i1 i2 : List Int} {R : Ending → World → Prop} (ha : Sl N1 w a (cos p1)) (han : p1.length = an) (hb : Sl N2 w b (bytes i1)) (hbn : i1.length = bn)
    (hc : Sl N3 w c (cos p2)) (hcn : p2.length = cn) (hd : Sl N4 w d (bytes i2)) (hdn : i2.length = dn) (h62 : an < 2 ^ 62) (h62' : bn < 2 ^ 62)
    (hR : ∀ w', Ext w w' → R (.returned (.bool (decide (W = V ∧ H = G ∧ p1 = p2 ∧ i1 = i2)))) w') :
    Calls P F.ref14_SamePaletted #[.agg #[i64 W, i64 H, .slice a an ac, .slice b bn bc], .agg #[i64 V, i64 G, .slice c cn cc, .slice d dn dc]] w R := by
  subst han hbn hcn hdn
  refine calls_ref14_SamePaletted _ _ _ _ _ _ _ _ _ _ _ _ _ _ _ _ _ _ ?_
  intro k1 hk1 k2 hk2
  have hk0 : ∀ b, b ∈ [k2, k1] → w.heap.size ≤ b := by simp; omega
  refine brB_i (fun hne => ?_) fun heq => ?_
  · intro w1 hL1
    refine to_bool (hR w1 (hL1.ext hk0)) (decide_eq_false fun ⟨e1, e2, e3, e4⟩ => ?_)
    subst e1 e2 e3 e4
    simp at hne
  intro w2 hL2
  have hE2 := hL2.ext hk0
  have heq : W = V ∧ H = G ∧ i1.length = i2.length := by simp at heq; omega
  obtain ⟨rfl, rfl, hl⟩ := heq
  refine SameColors_spec (ha.ext hE2) (hc.ext hE2) rfl rfl h62 fun w3 hE3 => ⟨_, rfl, hE3.keep _, ?_⟩
  have hE23 := hE2.trans hE3
  refine brB_i (fun hne => ?_) fun he => ?_
  · have hne : p1 ≠ p2 := by simpa using hne
    exact to_bool (hR w3 hE23) (decide_eq_false fun ⟨_, _, e, _⟩ => hne e)
  have he : p1 = p2 := by simpa using he
  subst he
  refine ⟨fun vs u => ∃ n : Nat, vs = [i64 n] ∧ n ≤ i1.length ∧ Ext w u ∧ ∀ j, j < n → i1.getD j 0 = i2.getD j 0, fun vs _ => match vs with | [.int _ n] => (i1.length - n).toNat | _ => 0, ⟨0, rfl, Nat.zero_le _, hE23, fun j hj => by omega⟩, fun n1 w4 hI => ?_⟩
  obtain ⟨n, hv, hn, hE4, hj⟩ := hI
  obtain rfl : n1 = n := by simpa using hv
  refine brB_i (fun hlt => ?_) fun hge => ?_
  · have hlt : n < i1.length := by simp at hlt; omega
    have en : (n : Int).toNat = n := by omega
    refine (hb.ext hE4.drew).get (i := (n : Int)) (by omega) (by rw [bytes_length]) (v := u8 (i1.getD n 0)) (by rw [en]; exact bytes_get hlt) fun a ha => ⟨_, ha, ?_⟩
    refine (hd.ext hE4.drew).get (i := (n : Int)) (by omega) (by rw [bytes_length]) (v := u8 (i2.getD n 0)) (by rw [en]; exact bytes_get (by omega)) fun a ha => ⟨_, ha, ?_⟩
    refine brB_i (fun hne => ?_) fun he => ?_
    · have hne : i1.getD n 0 ≠ i2.getD n 0 := by simpa using hne
      exact to_bool (hR _ hE4.drew) (decide_eq_false fun ⟨_, _, _, e⟩ => hne (by rw [e]))
    · have he : i1.getD n 0 = i2.getD n 0 := by simpa using he
      rw [w64 (x := (n : Int) + 1) (by omega) (by omega)]
      refine ⟨⟨n + 1, by simp, hlt, hE4.drew, fun j hjn => ?_⟩, by show ((i1.length : Int) - ((n : Int) + 1)).toNat < ((i1.length : Int) - n).toNat; omega⟩
      rcases Nat.lt_or_ge j n with g | g
      · exact hj j g
      · rw [show j = n by omega]; exact he
  · have hge : n = i1.length := by simp at hge; omega
    refine to_bool (hR w4 hE4) (decide_eq_true ⟨rfl, rfl, rfl, ?_⟩)
    refine List.ext_getElem hl fun j h1 h2 => ?_
    have := hj j (by omega)
    simpa [List.getD, h1, h2] using this
theorem colours_spec {N : Nat} {w : World} {p : Option Addr} {len cap : Nat} {l : List Co} {R : Ending → World → Prop} (h : Sl N w p (cos l)) (hl : l.length = len) (hsz : len * 8 ≤ 2 ^ 47)
    (hR : ∀ p' k w', Ext w w' → Ow w.heap.size w'.heap.size w' p' len k 4 (cos l) → R (.returned (.slice p' len k)) w') : Calls P F.law14_colours #[.slice p len cap] w R := by
  subst hl
  refine calls_law14_colours _ _ _ _ _ fun k1 w1 hn => ?_
  refine ⟨cos l, by rw [cos_length], cos_oneAll _, (h.ext hn.ext).cells, ?_⟩
  have hs1 := hn.ext.size
  refine (Ow.nil w.heap.size w1.heap.size w1 (some ⟨k1, 0, none⟩) 4).app (by simp [blocks]) hs1 (Nat.le_refl _) rfl (by rw [cos_length]) (by omega) (by omega) fun p k w2 ho hc => ?_
  rw [Nat.zero_add] at ho ⊢
  exact hR p k w2 (hn.ext.step hc fun i hi => hi.1) (by simpa using ho)
end Go.Proofs.Ytijplekhbpigiaa
