/- Quant: indices made an image again; paletted images that are the same; colours copied. -/
import Derived.Test.YtijplekhbpigiaaQS11
namespace Go.Proofs.Ytijplekhbpigiaa
open Go Go.Vc Go.RowKit Go.Qn
set_option maxRecDepth 100000
set_option linter.unusedVariables false
set_option linter.unusedSimpArgs false
set_option maxHeartbeats 4000000

/-- bytes that fit -/
def Bs (xs : List Int) : Prop := ∀ n ∈ xs, 0 ≤ n ∧ n ≤ 255
theorem bs_getD {xs : List Int} (h : Bs xs) {i : Nat} (hi : i < xs.length) : 0 ≤ xs.getD i 0 ∧ xs.getD i 0 ≤ 255 := by
  have e : xs.getD i 0 = xs[i] := by simp [List.getD, hi]
  rw [e]; exact h _ (List.getElem_mem hi)
def backC (pal : List Co) (i : Int) : Co := pal.getD i.toNat zeroC
def backR (W H : Int) (pal : List Co) (ix : List Int) : Int × Int × List Int × Int :=
  if gfits W H then (if (ix.length : Int) ≠ W * H ∨ 256 < pal.length then (0, 0, [], 3) else
    (if ix.all (fun i => decide (i < pal.length)) then (W, H, flat (ix.map (backC pal)), 0) else (0, 0, [], 2))) else (0, 0, [], 4)
theorem nfits {x y : Int} : (decide (min x y < 1) || decide (max x y > 4096) || decide (IntKind.i64.wrap (x * y) > 65536)) = !gfits x y := by
  rw [← fitsB, Bool.eq_iff_iff]
  simp only [Bool.or_eq_true, decide_eq_true_eq, Bool.not_eq_true', Bool.and_eq_false_iff, decide_eq_false_iff_not]
  omega
theorem all_step {ix : List Int} {m : Nat} {n : Nat} (h : ∀ j, j < n → ix.getD j 0 < m) (hn : n = ix.length) : ix.all (fun i => decide (i < (m : Int))) = true := by
  rw [List.all_eq_true]
  intro x hx
  obtain ⟨j, hj, rfl⟩ := List.getElem_of_mem hx
  have := h j (by omega)
  simpa [List.getD, hj] using this
theorem all_not {ix : List Int} {m : Nat} {n : Nat} (hn : n < ix.length) (h : (m : Int) ≤ ix.getD n 0) : ¬ (ix.all (fun i => decide (i < (m : Int))) = true) := by
  intro ha
  rw [List.all_eq_true] at ha
  have := ha ix[n] (List.getElem_mem hn)
  have e : ix.getD n 0 = ix[n] := by simp [List.getD, hn]
  simp at this
  omega
theorem take_back {pal : List Co} {ix : List Int} {n : Nat} (h : n < ix.length) : flat ((ix.take (n + 1)).map (backC pal)) = flat ((ix.take n).map (backC pal)) ++ coL (pal.getD (ix.getD n 0).toNat zeroC) := by
  rw [List.take_succ_eq_append_getElem h, List.map_append, List.map_singleton, flat_append, flat_one]
  simp [backC, List.getD, h]
theorem Back_spec {N M : Nat} {w : World} {p q : Option Addr} {pn pc qn qc : Nat} {W H : Int} {pal : List Co} {ix : List Int} {R : Ending → World → Prop} (hp : Sl N w p (cos pal)) (hpn : pal.length = pn) (hq : Sl M w q (bytes ix)) (hqn : ix.length = qn) (hb : Bs ix)
    (hR : ∀ p' c' w', Fg [] w w' 1 p' (backR W H pal ix).2.2.1.length c' (px (backR W H pal ix).2.2.1) → R (.returned (.tuple #[.agg #[i64 (backR W H pal ix).1, i64 (backR W H pal ix).2.1, .slice p' (backR W H pal ix).2.2.1.length c'], i64 (backR W H pal ix).2.2.2])) w') :
    Calls P F.quant_Back #[.agg #[i64 W, i64 H, .slice p pn pc, .slice q qn qc]] w R := by
  subst hpn hqn
  refine calls_quant_Back _ _ _ _ _ _ _ _ _ _ ?_
  intro k1 hk1 k2 hk2
  have hk0 : ∀ b, b ∈ [k2, k1] → w.heap.size ≤ b := by simp; omega
  refine brB_i (fun hg => ?_) fun hg => ?_
  · intro w1 hL1
    have hg : gfits W H = false := by rw [nfits] at hg; simpa using hg
    rw [backR, if_neg (by simp [hg])] at hR
    exact hR none 0 w1 (Fg.nil (hL1.ext hk0) 1)
  have hg : gfits W H = true := by rw [nfits] at hg; simpa using hg
  obtain ⟨g1, g2, g3, g4, g5⟩ := gfits_iff.1 hg
  have hwm := wrapmul g1 g2 g3 g4
  rw [backR, if_pos hg] at hR
  rw [hwm]
  refine brB_i (fun hl => ?_) fun hl => ?_
  · intro w2 hL2
    have hl : (ix.length : Int) ≠ W * H ∨ 256 < pal.length := by simp at hl; omega
    rw [if_pos hl] at hR
    exact hR none 0 w2 (Fg.nil (hL2.ext hk0) 1)
  have hl : ¬ ((ix.length : Int) ≠ W * H ∨ 256 < pal.length) := by simp at hl; omega
  rw [if_neg hl] at hR
  intro k3 hk3
  have hk03 : ∀ b, b ∈ [k3, k2, k1] → w.heap.size ≤ b := by simp; omega
  refine ⟨fun vs u => ∃ (n c : Nat) (q' : Option Addr), vs = [i64 n, i64 0, i64 0, .slice none 0 0, i64 W, i64 H, .slice q' (4 * n) c] ∧ n ≤ ix.length ∧ Fg [k3, k2, k1] w u 1 q' (4 * n) c (px (flat ((ix.take n).map (backC pal)))) ∧ ∀ j, j < n → ix.getD j 0 < pal.length,
    fun vs _ => match vs with | .int _ n :: _ => (ix.length - n).toNat | _ => 0, fun w3 hL3 => ⟨0, 0, none, rfl, Nat.zero_le _, Fg.nil' (Ext.refl w) hL3 hk03 1, fun j hj => by omega⟩, fun n1 n2 n3 p1 l1 c1 n4 n5 p2 l2 c2 w4 hI => ?_⟩
  obtain ⟨n, c, q', hv, hn, hf, hlt⟩ := hI
  simp only [List.cons.injEq, Value.int.injEq, Value.slice.injEq, true_and, and_true] at hv
  obtain ⟨rfl, rfl, rfl, ⟨rfl, rfl, rfl⟩, hW, hH, rfl, rfl, hc⟩ := hv
  have hW := hW.symm
  have hH := hH.symm
  have hc := hc.symm
  subst hW hH hc
  refine brB_i (fun hnl => ?_) fun hge => ?_
  · have hnl : n < ix.length := by simp at hnl; omega
    have hbn := bs_getD hb hnl
    have en : (n : Int).toNat = n := by omega
    refine ((hq.ext hf.ext)).get (i := (n : Int)) (by omega) (by rw [bytes_length]) (v := u8 (ix.getD n 0)) (by rw [en]; exact bytes_get hnl) fun a ha => ⟨_, ha, ?_⟩
    rw [w64 (x := ix.getD n 0) (by omega) (by omega)]
    refine brB_i (fun hbad => ?_) fun hok => ?_
    · intro w5 hL5
      have hbad : (pal.length : Int) ≤ ix.getD n 0 := by simpa using of_decide_eq_true hbad
      rw [if_neg (all_not hnl hbad)] at hR
      exact hR none 0 w5 (Fg.nil (hf.ext.step hL5.chg hk03) 1)
    · have hok : ix.getD n 0 < pal.length := by have := of_decide_eq_false hok; omega
      refine cos_elem (hp.ext hf.ext) rfl (by omega) (by omega) fun a e1 e2 e3 e4 => ⟨_, _, _, _, e1, e2, e3, e4, fun k8 hk8 k9 hk9 w6 hL6 => ?_⟩
      have ha4 := hf.avs
      have f6 := (hf.push hL6 (by simp; omega)).mono (bs := [k9, k8, k3, k2, k1]) (by simp)
      refine f6.app' (by simp [blocks]) rfl rfl (by omega) (by omega) fun p3 c3 w7 f7 _ _ w8 hL8 => ?_
      rw [w64 (x := (n : Int) + 1) (by omega) (by omega)]
      refine ⟨⟨n + 1, c3, p3, by simp; omega, hnl, ?_, fun j hj => ?_⟩, by show ((ix.length : Int) - ((n : Int) + 1)).toNat < ((ix.length : Int) - n).toNat; omega⟩
      · have := (f7.push hL8 (by simp)).mono (bs := [k3, k2, k1]) (by simp)
        rw [take_back hnl, px_append]
        exact this
      · rcases Nat.lt_or_ge j n with g | g
        · exact hlt j g
        · rw [show j = n by omega]; exact hok
  · intro w9 hL9
    have hge : n = ix.length := by simp at hge; omega
    rw [if_pos (all_step hlt hge)] at hR
    have f9 := (hf.push hL9 (by simp)).mono (bs := []) (by simp)
    have he : (flat (ix.map (backC pal))).length = 4 * n := by rw [flat_length, List.length_map, hge]
    have := hR p2 c w9 (by rw [he, hge] ; rw [hge, List.take_of_length_le (Nat.le_refl _)] at f9; exact f9)
    rw [he] at this
    exact this
theorem rBack_spec {N M : Nat} {w : World} {p q : Option Addr} {pn pc qn qc : Nat} {W H : Int} {pal : List Co} {ix : List Int} {R : Ending → World → Prop} (hp : Sl N w p (cos pal)) (hpn : pal.length = pn) (hq : Sl M w q (bytes ix)) (hqn : ix.length = qn) (hb : Bs ix)
    (hR : ∀ p' c' w', Fg [] w w' 1 p' (backR W H pal ix).2.2.1.length c' (px (backR W H pal ix).2.2.1) → R (.returned (.tuple #[.agg #[i64 (backR W H pal ix).1, i64 (backR W H pal ix).2.1, .slice p' (backR W H pal ix).2.2.1.length c'], i64 (backR W H pal ix).2.2.2])) w') :
    Calls P F.ref14_Back #[.agg #[i64 W, i64 H, .slice p pn pc, .slice q qn qc]] w R := by
  subst hpn hqn
  refine calls_ref14_Back _ _ _ _ _ _ _ _ _ _ ?_
  intro k1 hk1 k2 hk2 w1 hL1
  have hk0 : ∀ b, b ∈ [k2, k1] → w.heap.size ≤ b := by simp; omega
  have hE1 := hL1.ext hk0
  have hs1 := hL1.size
  have ht1 := hL1.there k1 (by simp)
  have ht2 := hL1.there k2 (by simp)
  refine Fits_spec ⟨_, rfl, (Ext.refl _).keep _, ?_⟩
  refine brB_i (fun hg => ?_) fun hg => ?_
  · intro w3 hL3
    have hg : gfits W H = false := by simpa using hg
    rw [backR, if_neg (by simp [hg])] at hR
    exact hR none 0 w3 (Fg.nil (hE1.step hL3.chg hk0) 1)
  have hg : gfits W H = true := by simpa using hg
  obtain ⟨g1, g2, g3, g4, g5⟩ := gfits_iff.1 hg
  have hwm := wrapmul g1 g2 g3 g4
  rw [backR, if_pos hg] at hR
  rw [hwm]
  refine brB_i (fun hl => ?_) fun hl => ?_
  · intro w4 hL4
    have hl : (ix.length : Int) ≠ W * H ∨ 256 < pal.length := by simp at hl; omega
    rw [if_pos hl] at hR
    exact hR none 0 w4 (Fg.nil (hE1.step hL4.chg hk0) 1)
  have hl : ¬ ((ix.length : Int) ≠ W * H ∨ 256 < pal.length) := by simp at hl; omega
  rw [if_neg hl] at hR
  intro k3 hk3
  have hk03 : ∀ b, b ∈ [k3, k2, k1] → w.heap.size ≤ b := by simp; omega
  refine ⟨fun vs u => ∃ (n c : Nat) (q' : Option Addr), vs = [i64 n, i64 0, i64 0, .slice none 0 0, i64 W, i64 H, .slice q' (4 * n) c] ∧ n ≤ ix.length ∧ Fg [k3, k2, k1] w u 1 q' (4 * n) c (px (flat ((ix.take n).map (backC pal)))) ∧ ∀ j, j < n → ix.getD j 0 < pal.length,
    fun vs _ => match vs with | .int _ n :: _ => (ix.length - n).toNat | _ => 0, fun w5 hL5 => ⟨0, 0, none, rfl, Nat.zero_le _, Fg.nil' hE1 hL5 hk03 1, fun j hj => by omega⟩, fun n1 n2 n3 p1 l1 c1 n4 n5 p2 l2 c2 w6 hI => ?_⟩
  obtain ⟨n, c, q', hv, hn, hf, hlt⟩ := hI
  simp only [List.cons.injEq, Value.int.injEq, Value.slice.injEq, true_and, and_true] at hv
  obtain ⟨rfl, rfl, rfl, ⟨rfl, rfl, rfl⟩, hW, hH, rfl, rfl, hc⟩ := hv
  have hW := hW.symm
  have hH := hH.symm
  have hc := hc.symm
  subst hW hH hc
  refine brB_i (fun hnl => ?_) fun hge => ?_
  · have hnl : n < ix.length := by simp at hnl; omega
    have hbn := bs_getD hb hnl
    have en : (n : Int).toNat = n := by omega
    have hf' := hf.dr
    refine ((hq.ext hf'.ext)).get (i := (n : Int)) (by omega) (by rw [bytes_length]) (v := u8 (ix.getD n 0)) (by rw [en]; exact bytes_get hnl) fun a ha => ⟨_, ha, ?_⟩
    rw [w64 (x := ix.getD n 0) (by omega) (by omega)]
    refine brB_i (fun hbad => ?_) fun hok => ?_
    · intro w5 hL5
      have hbad : (pal.length : Int) ≤ ix.getD n 0 := by simpa using of_decide_eq_true hbad
      rw [if_neg (all_not hnl hbad)] at hR
      exact hR none 0 w5 (Fg.nil (hf'.ext.step hL5.chg hk03) 1)
    · have hok : ix.getD n 0 < pal.length := by have := of_decide_eq_false hok; omega
      have hf2 := hf'.dr
      refine ((hq.ext hf2.ext)).get (i := (n : Int)) (by omega) (by rw [bytes_length]) (v := u8 (ix.getD n 0)) (by rw [en]; exact bytes_get hnl) fun a ha => ⟨_, ha, ?_⟩
      refine cos_elem (hp.ext hf2.ext) rfl (by omega) (by omega) fun a e1 e2 e3 e4 => ⟨_, _, _, _, e1, e2, e3, e4, ?_⟩
      refine Add_spec (c := pal.getD (ix.getD n 0).toNat zeroC) hf2 (by omega) fun p3 c3 w8 f8 kp8 => ⟨_, _, _, _, _, rfl, kp8, fun w9 hL9 => ?_⟩
      rw [w64 (x := (n : Int) + 1) (by omega) (by omega)]
      refine ⟨⟨n + 1, c3, p3, by simp; omega, hnl, ?_, fun j hj => ?_⟩, by show ((ix.length : Int) - ((n : Int) + 1)).toNat < ((ix.length : Int) - n).toNat; omega⟩
      · have := (f8.push hL9 (by simp)).mono (bs := [k3, k2, k1]) (by simp)
        rw [take_back hnl]
        exact this
      · rcases Nat.lt_or_ge j n with g | g
        · exact hlt j g
        · rw [show j = n by omega]; exact hok
  · intro w9 hL9
    have hge : n = ix.length := by simp at hge; omega
    rw [if_pos (all_step hlt hge)] at hR
    have f9 := (hf.push hL9 (by simp)).mono (bs := []) (by simp)
    have he : (flat (ix.map (backC pal))).length = 4 * n := by rw [flat_length, List.length_map, hge]
    have := hR p2 c w9 (by rw [he, hge] ; rw [hge, List.take_of_length_le (Nat.le_refl _)] at f9; exact f9)
    rw [he] at this
    exact this
end Go.Proofs.Ytijplekhbpigiaa
