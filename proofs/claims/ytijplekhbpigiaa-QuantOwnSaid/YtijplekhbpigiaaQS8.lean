/- Quant: the program's palettes. -/
import Derived.Test.YtijplekhbpigiaaQS7
namespace Go.Proofs.Ytijplekhbpigiaa
open Go Go.Vc Go.RowKit Go.Qn
set_option maxRecDepth 100000
set_option linter.unusedVariables false
set_option linter.unusedSimpArgs false
set_option maxHeartbeats 4000000

theorem locl_here {w : World} {bs : List Nat} (h : ∀ b, b ∈ bs → b < w.heap.size) : Locl bs w w := ⟨rfl, rfl, rfl, Nat.le_refl _, fun _ _ _ => rfl, h⟩
theorem Cs.all {w : World} {b : Nat} {l : List Co} {rest : List Value} (h : Cs w b (cos l ++ rest)) : Sl w.heap.size w (some ⟨b, 0, none⟩) (cos l) := h.sl (off := 0) (by simp) h.lt
theorem getD_mem {l : List Co} {i : Nat} (h : i < l.length) : l.getD i zeroC ∈ l := by simp [List.getD, h]
/-- the boxes of a bag that has been cut -/
theorem cut_boxes {T : List Bx} {t t1 t2 : Bx} {B : List (List Co)} (hB : T.map Bx.l = B) (hlen : ∀ t, t ∈ T → t.l.length = t.n) (ht : T[mxi (T.map Bx.n) T.length]? = some t)
    (h1 : t1.l = (stab (ax (lgV t.l)) t.l).take (t.l.length / 2)) (h2 : t2.l = (stab (ax (lgV t.l)) t.l).drop (t.l.length / 2)) :
    (T.eraseIdx (mxi (T.map Bx.n) T.length) ++ [t1] ++ [t2]).map Bx.l = cutB B := by
  have en : T.map Bx.n = B.map List.length := by
    rw [← hB, List.map_map]
    exact List.map_congr_left fun t ht => (hlen t ht).symm
  have el : T.length = B.length := by rw [← hB]; simp
  rw [en, el] at ht ⊢
  unfold cutB
  have eg : B.getD (mxi (B.map List.length) B.length) [] = t.l := by
    rw [← hB, List.getD, List.getElem?_map, hB, ht]; rfl
  simp only [eg, List.map_append, List.map_cons, List.map_nil, h1, h2]
  have e2 : (T.eraseIdx (mxi (B.map List.length) B.length)).map Bx.l = B.eraseIdx (mxi (B.map List.length) B.length) := by
    rw [← hB, List.eraseIdx_eq_take_drop_succ, List.eraseIdx_eq_take_drop_succ]; simp
  rw [e2]; simp
theorem Palette_spec {w : World} {p : Option Addr} {len cap : Nat} {W H most : Int} {xs : List Int} {R : Ending → World → Prop} (h : Img w p len xs) (hc : len ≤ cap) (hok : PxOk xs)
    (hR : ∀ p' c' w', Fg [] w w' 4 p' (palR W H xs most).1.length c' (cos (palR W H xs most).1) → R (.returned (.tuple #[.slice p' (palR W H xs most).1.length c', i64 (palR W H xs most).2])) w') :
    Calls P F.quant_Palette #[.agg #[i64 W, i64 H, .slice p len cap], i64 most] w R := by
  refine calls_quant_Palette _ _ _ _ _ _ _ _ ?_
  intro k1 hk1 w1 hL1
  have hE1 : Ext w w1 := hL1.ext (by simpa using hk1)
  have ht1 := hL1.there k1 (by simp)
  refine good_spec h.len fun w2 hE2 => ⟨_, rfl, hE2.keep _, ?_⟩
  have hE12 := hE1.trans hE2
  have hs2 := hE2.size
  refine brB_i (fun hb => ?_) fun hb => ?_
  · have hb : good W H xs = false := by simpa using hb
    rw [palR, if_neg (by simp [hb])] at hR
    exact hR none 0 w2 (Fg.nil hE12 4)
  have hb : good W H xs = true := by simpa using hb
  refine brB_i (fun hm => ?_) fun hm k2 w3 hn3 => ?_
  · have hm : most < 1 ∨ 256 < most := by simpa using hm
    rw [palR, if_pos hb, if_pos hm] at hR
    exact hR none 0 w2 (Fg.nil hE12 4)
  have hm : ¬ (most < 1 ∨ 256 < most) := by
    intro hx
    rcases hx with hx | hx <;> simp [hx] at hm
  rw [palR, if_pos hb, if_neg hm] at hR
  have hs12 := hE12.size
  have hk2 : w2.heap.size = k2 := hn3.1.symm
  have hk2' := hn3.size
  have hE3 := hE12.trans hn3.ext
  have hs3 := hn3.ext.size
  have hd : distR W H xs = distX xs (W * H).toNat := by rw [distR, if_pos hb]
  refine Distinct_spec ((h.ext hE12).ext hn3.ext) hc fun p1 c1 w4 hfD => ⟨_, _, _, rfl, hfD.ext.keep _, ?_⟩
  rw [hd] at hfD ⊢
  obtain ⟨hg, hxl⟩ := good_iff.1 hb
  obtain ⟨g1, g2, g3, g4, g5⟩ := gfits_iff.1 hg
  have hpos : 0 < W * H := Int.mul_pos (by omega) (by omega)
  have hLk := distX_ok hok (W * H).toNat
  have hL1' : 0 < (distX xs (W * H).toNat).length := by
    obtain ⟨n, hn⟩ : ∃ n, (W * H).toNat = n + 1 := ⟨(W * H).toNat - 1, by omega⟩
    rw [hn]
    exact List.length_pos_of_mem (distX_mem xs n)
  have hL2' := distX_length xs (W * H).toNat
  generalize distX xs (W * H).toNat = L at *
  have hE4 := hE3.trans hfD.ext
  have hs4 := hfD.ext.size
  obtain ⟨_, hcc, hx⟩ := hfD.ow
  rcases hx with hx | ⟨bD, rest, hb0, hb1, rfl, _, hcD⟩
  · omega
  refine ⟨fun vs u => ∃ (q : Option Addr) (c n : Nat), vs = [.slice q (allN L n).length c, i64 n] ∧ n ≤ L.length ∧ Fg [k1, k2, bD] w u 4 q (allN L n).length c (cos (allN L n)) ∧ Cs u bD (cos L ++ rest) ∧ Mp kdC u k2 (kvC (allN L n)),
    fun vs _ => match vs with | [_, .int _ n] => (L.length - n).toNat | _ => 0, ⟨none, 0, 0, rfl, Nat.zero_le _, ?_, hcD, (hn3.mp kdC).same (hfD.ext.block k2 hk2')⟩, fun q5 l5 c5 n5 w5 hI => ?_⟩
  · exact Fg.nil' hE4 (locl_here (by simp; omega)) (by simp; omega) 4
  obtain ⟨q, c, n, hv, hn, hf, hcs, hmp⟩ := hI
  obtain ⟨rfl, rfl, rfl, rfl⟩ : q5 = q ∧ l5 = (allN L n).length ∧ c5 = c ∧ n5 = n := by simpa [and_assoc] using hv
  have hk5 := hf.avs
  have hall := allN_length L n
  have hk51 := (hk5 k1 (by simp)).2
  have hk52 := (hk5 k2 (by simp)).2
  have hk53 := (hk5 bD (by simp)).2
  refine brB_i (fun hlt => ?_) fun hge => ?_
  · have hlt : n < L.length := by simp at hlt; omega
    have hco := hLk _ (getD_mem hlt)
    refine ⟨fun vs u => ∃ (q : Option Addr) (c : Nat), vs = [.slice q (allN L (n + 1)).length c] ∧ Fg [k1, k2, bD] w u 4 q (allN L (n + 1)).length c (cos (allN L (n + 1))) ∧ Cs u bD (cos L ++ rest) ∧ Mp kdC u k2 (kvC (allN L (n + 1))), ?_, fun q' l' c' w15 hI => ?_⟩
    · refine cos_elem (Cs.all hcs) rfl (by omega) (by omega) fun a e1 e2 e3 e4 => ⟨_, _, _, _, e1, e2, e3, e4, fun k7 hk7 w6 hL6 => ?_⟩
      have en : (n : Int).toNat = n := by omega
      rw [en]
      have hf6 := (hf.push hL6 (by simp; omega)).mono (bs := [k7, k1, k2, bD]) (by simp)
      have hcs6 := hcs.locl hL6 (by simp; omega)
      have hm6 := hmp.same (hL6.block k2 hk52 (by simp; omega))
      have hs6 := hL6.size
      refine clear_spec (c := L.getD n zeroC) fun w7 hE7 => ⟨_, rfl, hE7.keep _, ?_⟩
      have hf7 := hf6.step hE7
      have hcs7 := hcs6.ext hE7
      have hm7 := hm6.same (hE7.block k2 (by omega))
      have hs7 := hE7.size
      refine brB_i (fun hcl => ?_) fun hcl => ?_
      · have e : allN L (n + 1) = allN L n := by rw [allN, if_pos hcl]
        rw [e]
        exact ⟨_, _, rfl, hf7.mono (by simp), hcs7, hm7⟩
      have e : allN L (n + 1) = addC (allN L n) (eightC (L.getD n zeroC)) := by rw [allN, if_neg (by rw [hcl]; exact Bool.false_ne_true)]
      rw [e]
      refine eight_spec hco fun w8 hE8 => ⟨_, _, _, _, rfl, hE8.keep _, fun w9 hL9 => ?_⟩
      have hs8 := hE8.size
      have hs9 := hL9.size
      have hf9 := ((hf7.step hE8).push hL9 (by simp)).mono (bs := [k7, k1, k2, bD]) (by simp)
      have hcs9 := (hcs7.ext hE8).locl hL9 (by simp; omega)
      have hm9 := (hm7.same (hE8.block k2 (by omega))).same (hL9.block k2 (by omega) (by simp; omega))
      refine ⟨_, hm9, _, mgot_co (eightC (L.getD n zeroC)) (allN L n), fun k8 hk8 => ?_⟩
      refine brB_i (fun hnew w10 hL10 => ?_) fun hold w14 hL14 => ?_
      · have hnew : eightC (L.getD n zeroC) ∉ allN L n := by simpa using hnew
        have hs10 := hL10.size
        have hf10 := (hf9.push hL10 (by simp; omega)).mono (bs := [k8, k7, k1, k2, bD]) (by simp)
        have hcs10 := hcs9.locl hL10 (by simp; omega)
        have hm10 := hm9.same (hL10.block k2 (by omega) (by simp; omega))
        refine ⟨_, hm10, fun w11 hP11 hm11 k9 hk9 w12 hL12 => ?_⟩
        have hm11' : Mp kdC w11 k2 (kvC (allN L n ++ [eightC (L.getD n zeroC)])) := by
          rw [← mput_co _ _ hnew]; exact hm11
        have hs11 : w11.heap.size = w10.heap.size := hP11.size
        have hf11 := (hf10.push (hP11.locl (by omega)) (by simp)).mono (bs := [k8, k7, k1, k2, bD]) (by simp)
        have hcs11 := hcs10.put hP11 (by omega)
        have hs12' := hL12.size
        have hf12 := (hf11.push hL12 (by simp; omega)).mono (bs := [k9, k8, k7, k1, k2, bD]) (by simp)
        have hcs12 := hcs11.locl hL12 (by simp; omega)
        have hm12 := hm11'.same (hL12.block k2 (by omega) (by simp; omega))
        refine hf12.app' (by simp [blocks]) rfl rfl (by omega) (by omega) fun p' c' w13 hf13 hk13 _ => ?_
        rw [addC_new hnew]
        refine ⟨p', c', by simp, ?_, hcs12.keep hk13 (by simp), hm12.same (hk13 k2 (by simp) (by omega)).2⟩
        rw [cos_append, cos_one, List.length_append]
        exact hf13.mono (by simp)
      · have hold : eightC (L.getD n zeroC) ∈ allN L n := by simpa using hold
        rw [addC_old hold]
        exact ⟨_, _, rfl, (hf9.push hL14 (by simp; omega)).mono (by simp), hcs9.locl hL14 (by simp; omega), hm9.same (hL14.block k2 (by omega) (by simp; omega))⟩
    · obtain ⟨q2, c2, hv, h1, h2, h3⟩ := hI
      obtain ⟨rfl, rfl, rfl⟩ : q' = q2 ∧ l' = (allN L (n + 1)).length ∧ c' = c2 := by simpa using hv
      rw [w64 (x := (n : Int) + 1) (by omega) (by omega)]
      exact ⟨⟨_, _, n + 1, by simp, hlt, h1, h2, h3⟩, by show ((L.length : Int) - ((n : Int) + 1)).toNat < ((L.length : Int) - n).toNat; omega⟩
  have hge : n = L.length := by simp at hge; omega
  subst hge
  generalize hA : allN L L.length = A at *
  refine brB_i (fun hfew => ?_) fun hmany k14 w16 hn16 => ?_
  · have hfew : (A.length : Int) ≤ most := by simpa using hfew
    rw [palV, if_pos hfew] at hR
    exact hR _ _ w5 hf.weak
  have hmany : most < A.length := by simpa using hmany
  rw [palV, if_neg (by omega)] at hR
  obtain ⟨m, hm0⟩ : ∃ m : Nat, most = (m + 1 : Nat) := ⟨most.toNat - 1, by omega⟩
  subst hm0
  rw [show ((m + 1 : Nat) : Int).toNat - 1 = m by omega] at hR
  have hmA : m + 1 < A.length := by omega
  obtain ⟨SA, hSA1, hSA2, ⟨_, hcc5, hx⟩, hSAb⟩ := hf.own
  rcases hx with hx | ⟨bA, restA, hbA, rfl, _, hcA⟩
  · omega
  have hbA0 := hSA1 bA hbA
  have hbA1 := hSAb bA hbA
  have hkA : k1 ≠ bA := fun e => hSA2 k1 (by simp) (e ▸ hbA)
  have hk14 : k14 = w5.heap.size := hn16.1
  have hk14' := hn16.size
  have hE5 := hf.ext
  have hE16 := hE5.trans hn16.ext
  have hs16 := hn16.ext.size
  have hs5 := hE5.size
  have hB16 : Bag w w16 [k1] [bA] k14 [] := by
    refine ⟨⟨none, 0, hn16.cs, Fg.nil' hE16 (locl_here (by simp; omega)) (by simp; omega) 1⟩, by simp; omega, by simp; omega, fun t ht => by cases ht⟩
  refine put_spec (t := ⟨some ⟨bA, 0, none⟩, A.length, c5, A⟩) hB16 ⟨rfl, hcc5, bA, 0, _, by simp, rfl, hcA.ext hn16.ext, by simp⟩ (by simp) fun w17 hB17 hkp17 hs17 => ⟨rfl, fun b hb hlt => hkp17 b (by simp at hb ⊢; simp [hb]) hlt, ?_⟩
  refine ⟨fun vs u => vs = [] ∧ ∃ (T : List Bx) (bl : List Nat) (i : Nat), Bag w u [k1] bl k14 T ∧ T.map Bx.l = spN A i ∧ i ≤ m ∧ k1 ∉ bl, fun _ u => match u.cell? ⟨k14, 0, none⟩ with | some (.slice _ n _) => m + 1 - n | _ => 0,
    ⟨rfl, _, [bA], 0, hB17, rfl, Nat.zero_le _, by simpa using hkA⟩, fun w18 hI => ?_⟩
  obtain ⟨_, T, bl, i, hB, hT, hi, hk1b⟩ := hI
  have hTl : T.length = i + 1 := by
    have := congrArg List.length hT
    rw [List.length_map, (spN_ok i (by omega)).len] at this
    exact this
  obtain ⟨s0, c0, hcs0, hf0⟩ := hB.own
  have hcell0 := hcs0.cell (i := 0) rfl
  refine ⟨_, _, _, hcell0, ?_⟩
  have hlens : ∀ t, t ∈ T → t.l.length = t.n := fun t ht => (hB.box t ht).len
  refine brB_i (fun hlt => ?_) fun hge => ?_
  · have hlt : T.length < m + 1 := by simp at hlt; omega
    refine take_spec hB (by omega) (by omega) fun w19 t ht hB19 hkp19 hs19 => ⟨_, _, _, rfl, fun b hb hlt => hkp19 b (by simp at hb ⊢; simp [hb]) hlt, ?_⟩
    have htm : t ∈ T := List.mem_of_getElem? ht
    have hbt := (hB.box t htm).keep fun b hb hlt => hkp19 b (List.mem_append_right _ hb) hlt
    -- its size
    obtain ⟨hbig1, hbig2⟩ := (spN_ok (A := A) i (by omega)).big (by omega) (by omega)
    have e1 : T.map Bx.n = (spN A i).map List.length := by
      rw [← hT, List.map_map]
      exact List.map_congr_left fun t ht => (hlens t ht).symm
    have e2 : T.length = (spN A i).length := by rw [← hT]; simp
    have htl : (spN A i).getD (mxi ((spN A i).map List.length) (spN A i).length) [] = t.l := by
      rw [List.getD, ← e1, ← e2, ← hT, List.getElem?_map, ht]; rfl
    rw [htl] at hbig2
    have hsum : t.l.length ≤ A.length := by
      have h1 := sum_erase ((spN A i).map List.length) (mxi ((spN A i).map List.length) (spN A i).length) (by simpa using hbig1)
      rw [(spN_ok (A := A) i (by omega)).sum] at h1
      have h2 : ((spN A i).map List.length)[mxi ((spN A i).map List.length) (spN A i).length]'(by simpa using hbig1) = t.l.length := by
        rw [← htl]; simp [List.getD, hbig1]
      omega
    have hnl := hbt.len
    have hAl : A.length ≤ 65536 := by omega
    refine longest_spec hbt.sl hnl (by omega) (by omega) fun w20 hE20 => ⟨_, rfl, hE20.keep _, fun k19 w21 hn21 => ?_⟩
    have hk19 : k19 = w20.heap.size := hn21.1
    have hk19' := hn21.size
    have hs20 := hE20.size
    have hc21 := hn21.cs
    have ha19 := hB19.avs
    have hk119 := (ha19 k1 (by simp)).2
    have hk1419 := (ha19 k14 (by simp)).2
    have hc22 := hc21.set1 (off := 0) (v := i64 (lgV t.l)) (by simp)
    refine ⟨⟨_, hc21.cell (i := 0) rfl⟩, hc21.frozen 0, by simp; omega, ?_⟩
    have hEs : Ext w20 (setCells w21 ⟨k19, 0, none⟩ [i64 (lgV t.l)] 0) := hn21.ext.step (Chg.setCells w21 ⟨k19, 0, none⟩ _ 0) fun j hj => by
      have : j = k19 := hj
      omega
    generalize setCells w21 ⟨k19, 0, none⟩ [i64 (lgV t.l)] 0 = ws at *
    have hss := hEs.size
    have hE19s := hE20.trans hEs
    refine Clones_spec (hbt.sl.ext hE19s) hnl.symm (by omega) fun p7 c7 w22 hE22 ho => ⟨_, _, _, rfl, hE22.keep _, ?_⟩
    obtain ⟨_, hcc7, hx⟩ := ho
    rcases hx with hx | ⟨b7, rest7, hb70, hb71, rfl, _, hc7⟩
    · omega
    have hQ22 : Cs w22 k19 [i64 (lgV t.l)] := hc22.ext hE22
    have hkn : k19 ≠ b7 := by
      have := hc22.lt
      omega
    rw [← hnl]
    refine Sort_spec (key := ax (lgV t.l)) (Q := fun u => Cs u k19 [i64 (lgV t.l)]) ⟨rest7, hc7⟩ hQ22 (fn2_cmp (lgV_lt t.l) hkn).cmp (by omega) fun w23 hS23 hC23 => ⟨rfl, hC23.keep (by simp; omega), ?_⟩
    have hE1923 : Ext w19 w23 := (hE19s.trans hE22).step hC23 fun j hj => by
      have : j = b7 := hj
      omega
    have hs22 := hE22.size
    have hs23 := hC23.size
    have hB23 := hB19.more hE1923 (b := b7) (by omega) (by omega)
    obtain ⟨rest23, hc23⟩ := hS23
    generalize hSt : stab (ax (lgV t.l)) t.l = S at *
    have hSl : S.length = t.l.length := by rw [← hSt, stab_len]
    rw [show divZ .quo .i64 ((t.l.length : Nat) : Int) 2 = ((t.l.length / 2 : Nat) : Int) by
      rw [quoN (by omega) (by omega) (by omega)]; omega]
    generalize hhalf : t.l.length / 2 = hf2 at *
    refine ⟨by omega, by omega, by omega, ?_⟩
    have ep8 : slcBase (some ⟨b7, 0, none⟩) (0 : Int).toNat c7 4 = some ⟨b7, 0, none⟩ := slcBase0
    rw [ep8, show ((hf2 : Nat) : Int).toNat - (0 : Int).toNat = hf2 by omega, show c7 - (0 : Int).toNat = c7 by omega]
    refine put_spec (t := ⟨some ⟨b7, 0, none⟩, hf2, c7, S.take hf2⟩) hB23 ⟨by show (S.take hf2).length = hf2; rw [List.length_take]; omega, by show hf2 ≤ c7; omega, b7, 0, _, by simp, rfl, hc23, ?_⟩ (by rw [List.length_eraseIdx]; split <;> omega) fun w24 hB24 hkp24 hs24 => ⟨rfl, fun b hb hlt => hkp24 b (by simp at hb ⊢; simp [hb]) hlt, ?_⟩
    · show cos (S.take hf2) <+: (cos S ++ rest23).drop 0
      refine ⟨cos (S.drop hf2) ++ rest23, ?_⟩
      rw [← List.append_assoc, ← cos_append, List.take_append_drop, List.drop_zero]
    refine ⟨by omega, by omega, by omega, ?_⟩
    have ep9 : slcBase (some ⟨b7, 0, none⟩) ((hf2 : Nat) : Int).toNat c7 4 = some ⟨b7, hf2 * 4, none⟩ := by
      unfold slcBase
      rw [if_neg (by omega)]
      simp only [Option.map_some, loc_add]
      congr 2; omega
    rw [ep9, show ((t.l.length : Nat) : Int).toNat - ((hf2 : Nat) : Int).toNat = t.l.length - hf2 by omega, show c7 - ((hf2 : Nat) : Int).toNat = c7 - hf2 by omega]
    have hc24 : Cs w24 b7 (cos S ++ rest23) := hc23.keep (fun b hb hlt => hkp24 b (List.mem_append_right _ hb) hlt) (by simp)
    refine put_spec (t := ⟨some ⟨b7, hf2 * 4, none⟩, t.l.length - hf2, c7 - hf2, S.drop hf2⟩) hB24 ⟨by show (S.drop hf2).length = t.l.length - hf2; rw [List.length_drop]; omega, by show t.l.length - hf2 ≤ c7 - hf2; omega, b7, hf2 * 4, _, by simp, rfl, hc24, ?_⟩ (by rw [List.length_append, List.length_eraseIdx]; split <;> simp <;> omega) fun w25 hB25 hkp25 hs25 => ⟨rfl, fun b hb hlt => hkp25 b (by simp at hb ⊢; simp [hb]) hlt, ?_, ?_⟩
    · show cos (S.drop hf2) <+: (cos S ++ rest23).drop (hf2 * 4)
      refine ⟨rest23, ?_⟩
      have : cos S = cos (S.take hf2) ++ cos (S.drop hf2) := by rw [← cos_append, List.take_append_drop]
      rw [this, List.append_assoc, List.drop_left' (by rw [cos_length, List.length_take]; omega)]
    · refine ⟨rfl, _, _, i + 1, hB25, ?_, by omega, by simp only [List.mem_cons, not_or]; exact ⟨by omega, hk1b⟩⟩
      rw [cut_boxes hT hlens ht (by rw [hSt, hhalf]) (by rw [hSt, hhalf])]; rfl
    · obtain ⟨s25, c25, hcs25, _⟩ := hB25.own
      have hcell25 := hcs25.cell (i := 0) rfl
      simp only [hcell0, hcell25]
      rw [List.length_append, List.length_append, List.length_eraseIdx]
      have : mxi (T.map Bx.n) T.length < T.length := by rw [e1, e2]; exact hbig1
      rw [if_pos this]
      simp; omega
  · have hge : T.length = m + 1 := by simp at hge; omega
    have him : i = m := by omega
    subst him
    refine ⟨_, _, _, hcell0, ?_⟩
    obtain ⟨S0, hS1, hS2, ho⟩ := hf0.own
    obtain ⟨⟨o1, o2, o3⟩, hbd⟩ := ho
    rcases o3 with o3 | ⟨bi, resti, hSb, rfl, o4, o5⟩
    · omega
    have ha18 := hB.avs
    have hbi := hS1 bi hSb
    have hbi' := hbd bi hSb
    have hout : (spN A i).map midC = T.map fun t => midC t.l := by rw [← hT, List.map_map]; rfl
    rw [hout] at hR
    refine ⟨fun vs u => ∃ (q : Option Addr) (c n : Nat), vs = [.slice q n c, i64 n] ∧ n ≤ T.length ∧ Fg (k1 :: bi :: bl) w u 4 q n c (cos ((T.take n).map fun t => midC t.l)) ∧ Cs u bi (T.map Bx.v ++ resti) ∧ ∀ t, t ∈ T → Box u bl t,
      fun vs _ => match vs with | [_, .int _ n] => (T.length - n).toNat | _ => 0, ⟨none, 0, 0, rfl, Nat.zero_le _, ?_, o5, hB.box⟩, fun q26 l26 c26 n26 w26 hI => ?_⟩
    · have hall : ∀ b, b ∈ k1 :: bi :: bl → w.heap.size ≤ b ∧ b < w18.heap.size := fun b hb => by
        rcases List.mem_cons.1 hb with rfl | hb
        · exact ha18 _ (by simp)
        · rcases List.mem_cons.1 hb with rfl | hb
          · exact ⟨hbi, hbi'⟩
          · exact ha18 _ (by simp [hb])
      exact Fg.nil' hB.ex (locl_here fun b hb => (hall b hb).2) (fun b hb => (hall b hb).1) 4
    obtain ⟨q, c2, n, hv, hn, hf26, hc26, hbx⟩ := hI
    obtain ⟨rfl, h26, rfl, rfl⟩ : q26 = q ∧ l26 = n ∧ c26 = c2 ∧ n26 = n := by simpa [and_assoc] using hv
    have h26' := h26.symm
    subst h26'
    refine brB_i (fun hlt => ?_) fun hge2 => ?_
    · have hlt : n < T.length := by simp at hlt; omega
      have hsl : Sl w26.heap.size w26 (some ⟨bi, 0, none⟩) (T.map Bx.v) := hc26.sl (off := 0) (by simp) hc26.lt
      refine hsl.get (i := (n : Int)) (by omega) (by simp) (v := (T[n]).v) (by simp [hlt]) fun a ha => ⟨_, _, _, ha, ?_⟩
      have hbn := hbx _ (List.getElem_mem hlt)
      have hnl := hbn.len
      have hne := (spN_ok (A := A) i (by omega)).ne (T[n]).l (by rw [← hT]; exact List.mem_map_of_mem (List.getElem_mem hlt))
      have hpos2 : 0 < (T[n]).l.length := List.length_pos_iff.2 hne
      have hle2 : (T[n]).l.length ≤ 2 ^ 60 := by
        have h1 := (spN_ok (A := A) i (by omega)).sum
        have h2 := sum_erase ((spN A i).map List.length) n (by rw [← hT]; simpa using hlt)
        have h3 : ((spN A i).map List.length)[n]'(by rw [← hT]; simpa using hlt) = (T[n]).l.length := by simp [← hT]
        omega
      rw [show divZ .quo .i64 (((T[n]).n : Nat) : Int) 2 = (((T[n]).l.length / 2 : Nat) : Int) by
        rw [quoN (by omega) (by omega) (by omega)]; omega]
      refine cos_elem hbn.sl hnl (by omega) (by omega) fun a e1 e2 e3 e4 => ⟨_, _, _, _, e1, e2, e3, e4, fun k32 hk32 w27 hL27 => ?_⟩
      have en : (((T[n]).l.length / 2 : Nat) : Int).toNat = (T[n]).l.length / 2 := by omega
      rw [en]
      have ha26 := hf26.avs
      have hf27 := (hf26.push hL27 (by simp; omega)).mono (bs := k32 :: k1 :: bi :: bl) (by simp)
      have hkk : k1 ≠ bi ∧ k1 ∉ bl := ⟨fun e => hS2 k1 (by simp) (e ▸ hSb), hk1b⟩
      · have hc27 := hc26.locl hL27 (by have := (ha26 bi (by simp)).2; simp; omega)
        have hk27 : Keep (bi :: bl) w26 w27 := hL27.keep fun b hb hlt => by
          simp only [List.mem_cons, List.not_mem_nil, or_false, not_or]
          refine ⟨by omega, fun e => ?_⟩
          subst e
          rcases List.mem_cons.1 hb with e | e
          · exact hkk.1 e
          · exact hkk.2 e
        refine hf27.app' (by simp [blocks]) rfl rfl (by omega) (by omega) fun p' c' w28 hf28 hk28 _ => ?_
        rw [w64 (x := (n : Int) + 1) (by omega) (by omega)]
        refine ⟨⟨p', c', n + 1, by simp, hlt, ?_, hc27.keep hk28 (by simp), fun t ht => ((hbx t ht).keep fun b hb hlt => hk27 b (by simp [hb]) hlt).keep fun b hb hlt => hk28 b (by simp [hb]) hlt⟩, by show ((T.length : Int) - ((n : Int) + 1)).toNat < ((T.length : Int) - n).toNat; omega⟩
        rw [List.take_succ_eq_append_getElem hlt, List.map_append, cos_append]
        exact hf28.mono (fun b hb => List.mem_cons_of_mem _ hb)
    · have hge2 : n = T.length := by simp at hge2; omega
      subst hge2
      rw [List.take_length] at hf26
      have := hR q26 c26 w26 (by rw [List.length_map]; exact hf26.weak)
      rw [List.length_map] at this
      exact this
end Go.Proofs.Ytijplekhbpigiaa
