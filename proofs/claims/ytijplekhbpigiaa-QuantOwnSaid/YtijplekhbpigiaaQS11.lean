/- Quant: the nearest colour for each pixel: the program's walk. -/
import Derived.Test.YtijplekhbpigiaaQS10
namespace Go.Proofs.Ytijplekhbpigiaa
open Go Go.Vc Go.RowKit Go.Qn
set_option maxRecDepth 100000
set_option linter.unusedVariables false
set_option linter.unusedSimpArgs false
set_option maxHeartbeats 4000000

theorem Apply_spec {N : Nat} {w : World} {p pp : Option Addr} {len cap pn pc' : Nat} {W H : Int} {xs : List Int} {pal : List Co} {R : Ending → World → Prop} (h : Img w p len xs) (hc : len ≤ cap) (hok : PxOk xs)
    (hpal : Sl N w pp (cos pal)) (hpn : pal.length = pn) (hpc : pn * 8 ≤ 2 ^ 47)
    (hR : ∀ p1 c1 q1 d1 w', Pald w w' p1 (appR W H xs pal).2.2.1.length c1 (appR W H xs pal).2.2.1 q1 (appR W H xs pal).2.2.2.1.length d1 (appR W H xs pal).2.2.2.1 →
      R (.returned (.tuple #[.agg #[i64 (appR W H xs pal).1, i64 (appR W H xs pal).2.1, .slice p1 (appR W H xs pal).2.2.1.length c1, .slice q1 (appR W H xs pal).2.2.2.1.length d1], i64 (appR W H xs pal).2.2.2.2])) w') :
    Calls P F.quant_Apply #[.agg #[i64 W, i64 H, .slice p len cap], .slice pp pn pc'] w R := by
  subst hpn
  refine calls_quant_Apply _ _ _ _ _ _ _ _ _ _ ?_
  intro k1 hk1 k2 hk2 k3 hk3 w1 hL1
  have hE1 : Ext w w1 := hL1.ext (by simp; omega)
  have hs1 := hL1.size
  have ht1 := hL1.there k1 (by simp)
  have ht2 := hL1.there k2 (by simp)
  have ht3 := hL1.there k3 (by simp)
  have hk0 : ∀ b, b ∈ [k3, k2, k1] → w.heap.size ≤ b := by simp; omega
  refine Grid_spec (h.ext hE1) hc (fun hb w2 hE2 => ⟨_, _, rfl, hE2.keep _, brB_t (by decide) fun w3 hL3 => ?_⟩) fun hb gb cb w2 hE2 hgb hcb hgr => ⟨_, _, rfl, hE2.keep _, brB_f (by decide) ?_⟩
  · rw [appR, if_neg (by simp [hb])] at hR
    exact hR none 0 none 0 w3 (Pald.nil ((hE1.trans hE2).step hL3.chg hk0))
  have hE12 := hE1.trans hE2
  have hs2 := hE2.size
  refine brB_i (fun hm => ?_) fun hm => ?_
  · intro w4 hL4
    have hm : pal.length < 1 ∨ 256 < pal.length := by simp at hm; omega
    rw [appR, if_pos hb, if_pos hm] at hR
    exact hR none 0 none 0 w4 (Pald.nil (hE12.step hL4.chg hk0))
  have hm : ¬ (pal.length < 1 ∨ 256 < pal.length) := by
    intro hx
    rcases hx with hx | hx
    · simp [show ((pal.length : Nat) : Int) < 1 by omega] at hm
    · simp [show ((pal.length : Nat) : Int) > 256 by omega] at hm
  rw [appR, if_pos hb, if_neg hm] at hR
  refine Index_spec (hpal.ext hE12) rfl (by omega) fun w5 hE5 => ⟨_, rfl, hE5.keep _, fun k4 hk4 w6 hL6 k5 w7 hn7 k6 hk6 => ?_⟩
  have hs5 := hE5.size
  have hs6 := hL6.size
  have hE15 := hE12.trans hE5
  have hE6 : Ext w w6 := hE15.step hL6.chg (by have := hE15.size; simp; omega)
  have hk5 : k5 = w6.heap.size := hn7.1
  have hk5' := hn7.size
  have hE7 := hE6.trans hn7.ext
  have hs7 := hn7.ext.size
  have hgl := hgr.lt
  have hg5 := hgr.ext hE5
  have hg6 := hg5.chg hL6.chg (by simp; omega) (by simp; omega)
  have hg7 := hg6.ext hn7.ext
  have hm7 : Mp kdC w7 k5 (kvI pal []) := hn7.mp _
  have ht4 := hL6.there k4 (by simp)
  refine ⟨fun vs u => ∃ (kx bP c : Nat) (rest : List Value), vs = [.pointer (some ⟨kx, 0, none⟩), i64 W, i64 H, .slice (some ⟨bP, 0, none⟩) pal.length c, .slice none 0 0] ∧ Ext w u ∧ w7.heap.size ≤ kx ∧ kx < u.heap.size ∧ kx ≠ bP ∧ k6 < u.heap.size ∧ w7.heap.size ≤ bP ∧ bP < u.heap.size ∧ bP ≠ k6 ∧
      w7.heap.size ≤ u.heap.size ∧ Cs u bP (cos pal ++ rest) ∧ pal.length ≤ c ∧ c * 4 = (cos pal).length + rest.length ∧ GridC u (some ⟨gb, 0, none⟩) gb cb W H (colsOf xs (W * H).toNat) ∧ Mp kdC u k5 (kvI pal []), ⟨fun w8 hL8 => ?_, fun k10 hk10 w11 hL11 => ?_⟩, fun kx n3 n4 p4 l4 c4 p5 l5 c5 w14 hI => ?_⟩
  · have hs8 := hL8.size
    have hE8 : Ext w w8 := hE7.step hL8.chg (by have := hE7.size; simp; omega)
    have ht6 := hL8.there k6 (by simp)
    refine Clones_spec (hpal.ext hE8) rfl (by omega) fun p2 c2 w9 hE9 ho => ⟨_, _, _, rfl, hE9.keep _, hE9.keeps, fun k9 hk9 w10 hL10 => ?_⟩
    obtain ⟨_, o2, o3⟩ := ho
    rcases o3 with o3 | ⟨bP, rest, b0, b1, rfl, o4, o5⟩
    · omega
    have hs9 := hE9.size
    have hs10 := hL10.size
    refine ⟨k9, bP, c2, rest, rfl, (hE8.trans hE9).step hL10.chg (by have := hE7.size; simp; omega), by omega, hL10.there k9 (by simp), by omega, by omega, by omega, by omega, by omega, by omega, o5.locl hL10 (by simp; omega), o2, o4, ?_, ?_⟩
    · exact ((hg7.chg hL8.chg (by simp; omega) (by simp; omega)).ext hE9).chg hL10.chg (by simp; omega) (by simp; omega)
    · exact ((hm7.same (hL8.block k5 hk5' (by simp; omega))).same (hE9.block k5 (by omega))).same (hL10.block k5 (by omega) (by simp; omega))
  · have hs8 := hL11.size
    have hE8 : Ext w w11 := hE7.step hL11.chg (by have := hE7.size; simp; omega)
    have ht6 := hL11.there k6 (by simp)
    have ht10 := hL11.there k10 (by simp)
    refine Clones_spec (hpal.ext hE8) rfl (by omega) fun p2 c2 w9 hE9 ho => ⟨_, _, _, rfl, hE9.keep _, hE9.keeps, fun w10 hL10 => ?_⟩
    obtain ⟨_, o2, o3⟩ := ho
    rcases o3 with o3 | ⟨bP, rest, b0, b1, rfl, o4, o5⟩
    · omega
    have hs9 := hE9.size
    have hs10 := hL10.size
    refine ⟨k10, bP, c2, rest, rfl, (hE8.trans hE9).step hL10.chg (by have := hE7.size; simp; omega), by omega, by omega, by omega, by omega, by omega, by omega, by omega, by omega, o5.locl hL10 (by simp; omega), o2, o4, ?_, ?_⟩
    · exact ((hg7.chg hL11.chg (by simp; omega) (by simp; omega)).ext hE9).chg hL10.chg (by simp; omega) (by simp; omega)
    · exact ((hm7.same (hL11.block k5 hk5' (by simp; omega))).same (hE9.block k5 (by omega))).same (hL10.block k5 (by omega) (by simp; omega))
  obtain ⟨kx', bP, cP, rest, hv, hE14, x1, x2, x3, x5, x6, x7, x8, x9, hPl, hPc, hPr, hG14, hM14⟩ := hI
  simp only [List.cons.injEq, Value.pointer.injEq, Option.some.injEq, Addr.mk.injEq, Value.int.injEq, Value.slice.injEq, true_and, and_true] at hv
  obtain ⟨hkx, hW, hH, ⟨rfl, rfl, hcP⟩, ⟨rfl, rfl, rfl⟩⟩ := hv
  subst hkx
  have hW := hW.symm
  have hH := hH.symm
  have hcP := hcP.symm
  subst hW hH hcP
  refine GAll_spec fun kb w15 hE15' hkb hcb15 => ⟨_, _, _, rfl, hE15'.keep _, fun k18 w16 hrf I2 Z1 stI stZ hI0 rule => ?_⟩
  have hs15 := hE15'.size
  have hk18 := hrf.eq
  have hs16 := hrf.size
  have hE16 := hrf.ext
  have hkb15 := hcb15.lt
  have hss7 := hE7.size
  refine callF_i (by kernel_rfl) ?_
  have hlen := hG14.len
  generalize hl : colsOf xs (W * H).toNat = l at *
  have hlok : ∀ c, c ∈ l → CoOk c := fun c hcm => by
    rw [← hl] at hcm
    unfold colsOf at hcm
    obtain ⟨i, _, rfl⟩ := List.mem_map.1 hcm
    exact colAt_ok hok i
  have hwg : w.heap.size ≤ gb ∧ w.heap.size ≤ cb := by omega
  have hA16 : Ap w w16 [k18, w15.heap.size, kx, k6, k4, k3, k2, k1] kb bP gb cb k5 (some ⟨gb, 0, none⟩) W H l pal rest [] none 0 0 [] := by
    have hE := (hE14.trans hE15').trans hE16
    refine ⟨?_, hcb15.ext hE16, (hPl.ext hE15').ext hE16, (hG14.ext hE15').ext hE16, (hM14.same (hE15'.block k5 (by omega))).same (hE16.block k5 (by omega)), ?_, by omega⟩
    · exact Fg.nil' hE (locl_here (by simp; omega)) (by simp; omega) 1
    · intro b hb
      simp at hb
      omega
  let J : Nat → World → Prop := fun k u => ∃ (q : Option Addr) (c : Nat) (ms : List Co), I2 [i64 W, i64 H, .slice (some ⟨bP, 0, none⟩) pal.length cP, .slice q k c] u ∧ Ap w u [k18, w15.heap.size, kx, k6, k4, k3, k2, k1] kb bP gb cb k5 (some ⟨gb, 0, none⟩) W H l pal rest ms q k c ((l.take k).map (idxV pal))
  refine GAll_iter J (q := some ⟨gb, 0, none⟩) (gb := gb) (cb := cb) (W := W) (H := H) (l := l) (fun k u ⟨q, c, ms, j1, j2⟩ => ⟨j2.it.cell (i := 0) rfl, j2.gr⟩) ?_ (fun k u hk ⟨q, c, ms, j1, j2⟩ => ?_) (fun u ⟨q, c, ms, j1, j2⟩ => ?_)
  · exact ⟨none, 0, [], stI _ _ _ hI0 ((Ext.refl w16).drew.keep _), hA16.ext (Ext.refl w16).drew⟩
  · have hco := hlok _ (getD_mem hk)
    have hkl : k < 2 ^ 30 := by have := hG14.dims; omega
    refine rule _ _ _ _ _ _ _ _ _ _ (l.getD k zeroC).1 (l.getD k zeroC).2.1 (l.getD k zeroC).2.2.1 (l.getD k zeroC).2.2.2 u.drew _ (stI _ _ _ j1 ((Ext.refl u).drew.keep _)) fun y5 y6 k23 hk23 w22 hL22 w23 hP23 => ?_
    generalize hcl : l.getD k zeroC = cl at *
    have A2 := (j2.ext (Ext.refl u).drew).locl hL22 (fun b hb => by have e : u.drew.heap.size = u.heap.size := rfl; rw [e] at hk23 ⊢; simp at hb ⊢; omega)
    have A3 := (A2.put hP23 (by simp)).mono (lo' := [k23, k18, w15.heap.size, kx, k6, k4, k3, k2, k1]) (by simp)
    refine ⟨fun vs u' => ∃ (d : Co) (n : Int), vs = i64 n :: co d ∧ IntKind.u8.wrap n = idxV pal cl ∧ ∃ ms', Ap w u' [k23, k18, w15.heap.size, kx, k6, k4, k3, k2, k1] kb bP gb cb k5 (some ⟨gb, 0, none⟩) W H l pal rest ms' q k c ((l.take k).map (idxV pal)), ?_, fun n25 n26 n27 n28 n29 w33 hI => ?_⟩
    · refine brB_i (fun hn => ?_) fun hn => ?_
      · have hn : noneV pal < 0 := of_decide_eq_true hn
        refine eight_spec hco fun wa hEa => ⟨_, _, _, _, rfl, hEa.keep _, fun wb hLb => ?_⟩
        have Ab := ((A3.ext hEa).locl hLb (by simp)).mono (lo' := [k23, k18, w15.heap.size, kx, k6, k4, k3, k2, k1]) (by simp)
        refine ⟨_, Ab.mp, _, _, mgot_kvI pal (eightC cl) ms, ?_⟩
        refine brB_i (fun hnew => ?_) fun hold => ?_
        · have hnew : eightC cl ∉ ms := by simpa using hnew
          refine Nearest_spec (c := eightC cl) (hpal.ext Ab.fg.ext) rfl (by omega) fun wc hEc => ⟨_, rfl, hEc.keep _, ?_⟩
          have Ac := Ab.ext hEc
          refine ⟨_, Ac.mp, fun wd hPd hmd => ?_⟩
          have hmd' : Mp kdC wd k5 (kvI pal (ms ++ [eightC cl])) := by rw [← mput_kvI pal _ _ hnew]; exact hmd
          exact ⟨eightC cl, nearV pal (eightC cl), rfl, by unfold idxV; rw [if_pos (.inl hn)], _, Ac.map hPd hmd'⟩
        · have hold : eightC cl ∈ ms := by simpa using hold
          refine ⟨eightC cl, _, rfl, ?_, _, Ab⟩
          rw [if_pos hold]; unfold idxV; rw [if_pos (.inl hn)]
      · have hn : ¬ noneV pal < 0 := of_decide_eq_false hn
        refine clear_spec (c := cl) fun wz hEz => ⟨_, rfl, hEz.keep _, ?_⟩
        have A3' := A3.ext hEz
        clear A3 A2
        have A3 := A3'
        refine brB_i (fun hcl' => ?_) fun hcl' => ?_
        · have hcl' : clearC cl = false := by simpa using hcl'
          refine eight_spec hco fun wa hEa => ⟨_, _, _, _, rfl, hEa.keep _, fun wb hLb => ?_⟩
          have Ab := ((A3.ext hEa).locl hLb (by simp)).mono (lo' := [k23, k18, w15.heap.size, kx, k6, k4, k3, k2, k1]) (by simp)
          refine ⟨_, Ab.mp, _, _, mgot_kvI pal (eightC cl) ms, ?_⟩
          refine brB_i (fun hnew => ?_) fun hold => ?_
          · have hnew : eightC cl ∉ ms := by simpa using hnew
            refine Nearest_spec (c := eightC cl) (hpal.ext Ab.fg.ext) rfl (by omega) fun wc hEc => ⟨_, rfl, hEc.keep _, ?_⟩
            have Ac := Ab.ext hEc
            refine ⟨_, Ac.mp, fun wd hPd hmd => ?_⟩
            have hmd' : Mp kdC wd k5 (kvI pal (ms ++ [eightC cl])) := by rw [← mput_kvI pal _ _ hnew]; exact hmd
            exact ⟨eightC cl, nearV pal (eightC cl), rfl, by unfold idxV; rw [if_pos (.inr hcl')], _, Ac.map hPd hmd'⟩
          · have hold : eightC cl ∈ ms := by simpa using hold
            refine ⟨eightC cl, _, rfl, ?_, _, Ab⟩
            rw [if_pos hold]; unfold idxV; rw [if_pos (.inr hcl')]
        · have hcl' : clearC cl = true := by simpa using hcl'
          exact ⟨cl, noneV pal, rfl, by unfold idxV; rw [if_neg (by simp [hn, hcl'])], _, A3⟩
    · obtain ⟨d, n, hv, hn, ms', A33⟩ := hI
      obtain rfl : n25 = n := by
        simp only [co, List.cons.injEq, Value.int.injEq, true_and] at hv
        exact hv.1
      intro k24 hk24 w34 hL34
      have A34 := (A33.locl hL34 (by simp; omega)).mono (lo' := [k24, k23, k18, w15.heap.size, kx, k6, k4, k3, k2, k1]) (by simp)
      rw [hn]
      refine A34.fg.app' (by simp [blocks]) rfl rfl (by omega) (by omega) fun q2 c2 w35 f35 kp35 _ w36 hL36 w37 hP37 hI37 => .inl ⟨rfl, q2, c2, ms', hI37, ?_⟩
      have five := A34.five
      have A35 : Ap w w35 [k24, k23, k18, w15.heap.size, kx, k6, k4, k3, k2, k1] kb bP gb cb k5 (some ⟨gb, 0, none⟩) W H l pal rest ms' q2 (k + 1) c2 ((l.take (k + 1)).map (idxV pal)) := by
        refine ⟨?_, A34.it.keep kp35 (by simp), A34.pl.keep kp35 (by simp), ?_, A34.mp.same (kp35 k5 (by simp) five.2.2.2.2).2, A34.dj, A34.dm⟩
        · have e : (l.take (k + 1)).map (idxV pal) = (l.take k).map (idxV pal) ++ [idxV pal cl] := by
            rw [List.take_succ_eq_append_getElem hk, List.map_append, List.map_singleton, ← hcl]
            simp [List.getD, hk]
          rw [e, bytes_append]
          exact f35
        · obtain ⟨r, cc, g3, g5, g4⟩ := A34.gr.cells
          exact ⟨A34.gr.ptr, ⟨r, cc, g3.keep kp35 (by simp), g5, g4.keep kp35 (by simp)⟩, A34.gr.ne, A34.gr.ok, A34.gr.len⟩
      exact (((A35.locl hL36 (by simp)).put hP37 (by simp)).mono (by simp))
  · have hll : l.length = (W * H).toNat := by rw [← hl, colsOf_length]
    refine ⟨_, rfl, .inl ⟨_, _, _, _, _, _, _, _, j1, fun w39 hP39 w40 hL40 w41 hP41 => ?_⟩⟩
    have Az := ((((j2.put hP39 (by simp)).locl hL40 (by simp)).put hP41 (by simp)).mono (lo' := [k18, w15.heap.size, kx, k6, k4, k3, k2, k1]) (by simp))
    rw [List.take_of_length_le (Nat.le_refl _)] at Az
    obtain ⟨S, s1, s2, s3⟩ := Az.fg.own
    have := hR (some ⟨bP, 0, none⟩) cP q c w41 ⟨Az.fg.ext, fun i => i = bP, S, fun i hi => ?_, s1, fun i hi hS => ?_, ⟨⟨by rw [cos_length], hPc, .inr ⟨bP, rest, rfl, rfl, hPr, Az.pl⟩⟩, fun i hi => ?_⟩, ?_⟩
    · simp only [List.length_map] at this
      exact this
    · rw [hi]; omega
    · rw [hi] at hS; exact s2 bP (by simp) hS
    · rw [hi]; exact Az.five.2.1
    · simp only [List.length_map]; exact s3
end Go.Proofs.Ytijplekhbpigiaa
