/- Bmp: the program reads runs. -/
import Derived.Test.YtjdljddfiddnoaaDoorBM15
namespace Go.Proofs.YtjdljddfiddnoaaDoor
open Go Go.Vc Go.RowKit
set_option maxRecDepth 100000
set_option linter.unusedVariables false
set_option linter.unusedSimpArgs false

def runsL (b : List Int) (W H d : Int) (pl : List Co) : Option (List Co) := (unrL W H d b).bind (ixImg pl)
theorem By.next {w : World} {p : Option Addr} {len cap i n : Nat} {b : List Int} (h : By w p len (b.drop i)) (hc : len ≤ cap) (hn : n ≤ len) : By w (slcBase p n cap 1) (len - n) (b.drop (i + n)) := by
  have := By.from_ h hc hn
  rwa [List.drop_drop] at this
theorem runs_spec {w0 : World} {fb : Nat} {p q : Option Addr} {len cap ql qc : Nat} {bs : List Int} {pl : List Co} {W H : Int} {dn : Bool} {d pk a m0 m1 m2 m3 : Int} {R : Ending → World → Prop} (h : By w0 p len bs) (hcap : len ≤ cap)
    (hC : Cs w0 fb (fl (.slice p len cap) W H dn d pk a m0 m1 m2 m3 (.slice q ql qc))) (hg : gfits W H = true) (hd : d = 4 ∨ d = 8) (a0 : 0 ≤ a) (a2 : a ≤ len)
    (hp : Sl w0.heap.size w0 q (cos pl)) (hql : ql = pl.length)
    (h1 : runsL (bs.drop a.toNat) W H d pl = none → ∀ x y s k c u, Ext w0 u → R (.returned (.tuple #[.agg #[i64 x, i64 y, .slice s k c], .bool false])) u)
    (h2 : ∀ l, runsL (bs.drop a.toNat) W H d pl = some l → (l.length : Int) = W * H → ∀ s c u, Ext w0 u → Ow w0.heap.size u.heap.size u s (4 * l.length) c 1 (px (flat l)) → R (.returned (.tuple #[.agg #[i64 W, i64 H, .slice s (4 * l.length) c], .bool true])) u) :
    Calls P F.bmp_file_runs #[.pointer (some ⟨fb, 0, none⟩)] w0 R := by
  obtain ⟨g1, g2, g3, g4, g5⟩ := gfits_iff.1 hg
  have wh0 : 0 ≤ W * H := Int.mul_nonneg (by omega) (by omega)
  have hlim := h.lim
  have hln := h.ln
  refine calls_bmp_file_runs _ _ _ ?_
  unfold vc_bmp_file_runs
  intro k1 hk1
  refine nn_i rfl fun w1 hL1 => ?_
  have hE1 : Ext w0 w1 := hL1.ext (by simpa using hk1)
  have ht1 := hL1.there k1 (by simp)
  have hs1 := hL1.size
  have hC1 := hC.ext hE1
  refine ⟨_, hC1.cell (i := 1) rfl, nn_i rfl ⟨_, hC1.cell (i := 2) rfl, fun k2 w2 hN2 => ?_⟩⟩
  have hk2 : k2 = w1.heap.size := hN2.1
  have hs2 := hN2.size
  have hc2 := hN2.cs
  have hE2 := hE1.trans hN2.ext
  have hL3 := set_locl (u := w2) (b := k2) (i := 0) (vs := [i64 W, i64 H, .slice none 0 0]) hc2.lt
  have hc3 := hc2.set (off := 0) (us := [i64 W, i64 H, .slice none 0 0]) (by simp)
  have hE3 := hE2.step hL3.chg (by simp; omega)
  refine ⟨⟨_, hc2.cell (i := 0) rfl⟩, hc2.frozen _, ⟨_, hc2.cell (i := 1) rfl⟩, hc2.frozen _, ⟨_, hc2.cell (i := 2) rfl⟩, hc2.frozen _, by simp; omega, ?_⟩
  have hsz3 : (setCells w2 ⟨k2, 0, none⟩ [i64 W, i64 H, .slice none 0 0] 0).heap.size = w2.heap.size := (setCells_same _ _ _ _).size
  generalize setCells w2 ⟨k2, 0, none⟩ [i64 W, i64 H, .slice none 0 0] 0 = u3 at hc3 hE3 hsz3 ⊢
  have hC3 := hC.ext hE3.drew
  refine nn_i rfl ⟨_, hC3.cell (i := 1) rfl, nn_i rfl ⟨_, hC3.cell (i := 2) rfl, ?_⟩⟩
  rw [w64 (x := W * H) (by omega) (by omega)]
  refine ⟨wh0, Int.le_refl _, by omega, by omega, fun k3 w3 hN3 k4 w4 hN4 => ?_⟩
  have hd3 : u3.drew.heap.size = u3.heap.size := rfl
  have hk3 : k3 = u3.drew.heap.size := hN3.1
  have hk4 : k4 = w3.heap.size := hN4.1
  have hs3 := hN3.size
  have hs4 := hN4.size
  have hE4 : Ext w0 w4 := (hE3.drew.trans hN3.ext).trans hN4.ext
  have hV4 : Cv w4 k4 k3 fb (W * H).toNat ⟨0, 0, List.replicate (W * H).toNat 0⟩ := by
    refine ⟨hN4.cs, ?_⟩
    have := hN3.cs
    rw [mkCells_rep, rep_ints] at this
    exact this.ext hN4.ext
  have hM4 : Im w0 w4 [k4, k3, k2, k1] k2 W H [] := by
    refine ⟨⟨none, 0, ((hc3.drew).ext hN3.ext).ext hN4.ext, hE4, ⟨fun _ => False, fun _ h => h.elim, fun _ _ => id, OwB.nil _ _ _⟩, ?_⟩, by simp⟩
    simp; omega
  have hok0 : StOk W H ⟨0, 0, List.replicate (W * H).toNat 0⟩ := ⟨Int.le_refl _, by show 0 ≤ W; omega, Int.le_refl _, by show 0 ≤ H; omega, by simp; omega, fun n hn => by rw [List.eq_of_mem_replicate hn]; omega⟩
  have hfb : fb < w0.heap.size := hC.lt
  have hne : k1 ≠ k2 ∧ k1 ≠ k3 ∧ k1 ≠ k4 ∧ k2 ≠ k3 ∧ k2 ≠ k4 ∧ k3 ≠ k4 ∧ fb ≠ k3 := by omega
  obtain ⟨n12, n13, n14, n23, n24, n34, nf3⟩ := hne
  generalize hb : bs.drop a.toNat = b at h1 h2
  have hblen : b.length = len - a.toNat := by rw [← hb, List.length_drop]; omega
  generalize hres : unrL W H d b = res
  have hrl : runsL b W H d pl = res.bind (ixImg pl) := by unfold runsL; rw [hres]
  have bf : ∀ i, 0 ≤ b.getD i 0 ∧ b.getD i 0 ≤ 255 := fun i => by rw [← hb, getD_drop]; exact fit_getD h.fit _
  have kL : ∀ {u u' : World} {l : List Co}, Im w0 u [k4, k3, k2, k1] k2 W H l → Locl [k1] u u' → Im w0 u' [k4, k3, k2, k1] k2 W H l := fun hM hL => hM.keepL hL (by simpa using n12)
  have fin : ∀ {u : World} {l : List Co}, Im w0 u [k4, k3, k2, k1] k2 W H l → res.bind (ixImg pl) = none → ∃ (n7 n8 : Int) (p2 : Option Addr) (k5 k6 : Nat), u.cell? ⟨k2, 0, none⟩ = some (i64 n7) ∧ u.cell? ⟨k2, 1, none⟩ = some (i64 n8) ∧ u.cell? ⟨k2, 2, none⟩ = some (.slice p2 k5 k6) ∧
      ∀ w4, Locl [k1] u w4 → R (.returned (.tuple #[.agg #[i64 n7, i64 n8, .slice p2 k5 k6], .bool false])) w4 := fun hM hn => by
    obtain ⟨s, c, hcs, hF⟩ := hM.cs
    exact ⟨_, _, _, _, _, hcs.cell (i := 0) rfl, hcs.cell (i := 1) rfl, hcs.cell (i := 2) rfl, fun w4 hL4 => h1 (hrl.trans hn) _ _ _ _ _ _ (kL hM hL4).ext⟩
  have bad : res = none → res.bind (ixImg pl) = none := fun e => by rw [e]; rfl
  refine nn_i rfl ⟨_, _, _, (hC.ext hM4.dr.ext).cell (i := 0) rfl, nn_i rfl ⟨_, (hC.ext hM4.dr.ext).cell (i := 6) rfl, by omega, by omega, by omega, ?_⟩⟩
  rw [Int.toNat_natCast]
  refine ⟨fun vs u => ∃ (i : Nat) (s : RS) (f : Nat) (q : Option Addr) (n c : Nat), vs = [.slice q n c, i64 0, i64 0, .slice none 0 0] ∧ i ≤ b.length ∧ b.length - i < f ∧ unr W H d b f i s = res ∧ By w0 q n (b.drop i) ∧ n ≤ c ∧ StOk W H s ∧ Cv u k4 k3 fb (W * H).toNat s ∧ Im w0 u [k4, k3, k2, k1] k2 W H [],
    fun vs _ => match vs with | .slice _ n _ :: _ => n | _ => 0, ⟨0, ⟨0, 0, List.replicate (W * H).toNat 0⟩, b.length + 1, _, _, _, rfl, by omega, by omega, hres, ?_, by omega, hok0, hV4.dr, hM4.dr⟩, ?_⟩
  · rw [List.drop_zero, ← hb]; exact By.from_ h hcap (by omega)
  intro p3 k9 k10 n6 n7 p4 k11 k12 w5 hI
  obtain ⟨i, s, f, q', n', c', hv, hi, hf, hu, hB, hnc, hst, hV, hM⟩ := hI
  simp only [List.cons.injEq, Value.int.injEq, Value.slice.injEq, true_and, and_true] at hv
  obtain ⟨⟨rfl, rfl, rfl⟩, rfl, rfl, rfl, rfl, rfl⟩ := hv
  obtain ⟨f, rfl⟩ : ∃ g, f = g + 1 := ⟨f - 1, by omega⟩
  have hBn : k9 = b.length - i := by have := hB.ln; rwa [List.length_drop] at this
  have stop : rnd W H d b i s = .stop → res.bind (ixImg pl) = none := fun e => bad (by rw [← hu]; exact unr_stop e)
  have r1 := rnd.eq_1 W H d b i s
  refine brB_i (fun hlt => fin hM (stop ?_)) fun hlt => ?_
  · rw [r1, if_pos (by simp at hlt; omega)]
  have hlt : i + 2 ≤ b.length := by simp at hlt; omega
  rw [if_neg (by omega)] at r1
  have hMd := hM.dr
  have hg0 : (b.drop i).getD (0 : Int).toNat 0 = b.getD i 0 := getD_drop
  have hg1 : (b.drop i).getD (1 : Int).toNat 0 = b.getD (i + 1) 0 := getD_drop
  refine (hB.ext hMd.ext).get (by omega) (by omega) fun a1 ha1 => ⟨_, ha1, (hB.ext hMd.ext).get (by omega) (by omega) fun a2 ha2 => ⟨_, ha2, by omega, by omega, by omega, ?_⟩⟩
  rw [hg0, hg1]
  have bn := bf i
  have bv := bf (i + 1)
  have hB2 := By.next hB hnc (n := 2) (by omega)
  rw [Int.toNat_natCast, show (2 : Int).toNat = 2 by rfl]
  generalize hbn : b.getD i 0 = n at r1 bn ⊢
  generalize hbv : b.getD (i + 1) 0 = v at r1 bv ⊢
  rw [w64 (x := n) (by omega) (by omega), w64 (x := v) (by omega) (by omega)]
  have hVd := hV.dr
  have go : ∀ {j t}, rnd W H d b i s = .go j t → unr W H d b f j t = res := fun e => by rw [← hu]; exact (unr_go e).symm
  refine ⟨fun vs u => ∃ (j : Nat) (t : RS) (q : Option Addr) (n c : Nat), vs = [.slice q n c, i64 0, i64 0, .slice none 0 0] ∧ i < j ∧ j ≤ b.length ∧ By w0 q n (b.drop j) ∧ n ≤ c ∧ (0 ≤ t.x ∧ 0 ≤ t.y ∧ (t.ix.length : Int) = W * H ∧ Bs t.ix) ∧ Cv u k4 k3 fb (W * H).toNat t ∧ Im w0 u [k4, k3, k2, k1] k2 W H [] ∧
      (t.x ≤ W ∧ t.y ≤ H → unr W H d b f j t = res) ∧ (¬ (t.x ≤ W ∧ t.y ≤ H) → res = none), ?_, fun p19 k41 k42 n41 n42 p20 k43 k44 w19 hI => ?_⟩
  · refine brB_i (fun hn => ?_) fun hn => brB_i (fun hv0 => ?_) fun hv0 => brB_i (fun hv1 => ?_) fun hv1 => brB_i (fun hv2 => brB_i (fun hb4 => fin hMd (stop ?_)) fun hb4 => ?_) fun hv2 => ?_
    · have hn : 0 < n := by simpa using hn
      rw [if_pos hn] at r1
      refine ⟨fun vs u => ∃ (k : Nat) (t : RS), vs = [i64 k, i64 0, i64 0, .slice none 0 0] ∧ (k : Int) ≤ n ∧ StOk W H t ∧ Cv u k4 k3 fb (W * H).toNat t ∧ Im w0 u [k4, k3, k2, k1] k2 W H [] ∧ putN W H (nib d v) (n.toNat - k) k t = putN W H (nib d v) n.toNat 0 s,
        fun vs _ => match vs with | .int _ k :: _ => (n - k).toNat | _ => 0, ⟨0, s, rfl, by omega, hst, hVd, hMd, rfl⟩, fun n12' n13' n14' p7 k17 k18 w7 hI => ?_⟩
      obtain ⟨k, t, hv', hk, hst7, hV7, hM7, hput⟩ := hI
      simp only [List.cons.injEq, Value.int.injEq, Value.slice.injEq, true_and, and_true] at hv'
      obtain ⟨rfl, rfl, rfl, rfl, rfl, rfl⟩ := hv'
      refine brB_i (fun hc => ?_) fun hc => ?_
      · have hkn : (k : Int) < n := by simpa using hc
        rw [show n.toNat - k = (n.toNat - (k + 1)) + 1 by omega, putN] at hput
        refine cput_spec hV7 (hC.ext hM7.ext) hst7 hg n34 hd bv.1 bv.2 (by omega) nf3 (fun e => ⟨_, rfl, (Ext.refl _).drew.keep _, brB_t rfl (fin hM7.dr (stop ?_))⟩) fun t' e u' hc' hsz hV' => ⟨_, rfl, hc'.keep (by simp; omega), brB_f rfl ⟨⟨k + 1, t', ?_, by omega, putS_ok hst7 (nib_range bv) e, hV', hM7.turn hc' hsz (by simp; omega), ?_⟩, ?_⟩⟩
        · rw [e] at hput; rw [r1, ← hput]; rfl
        · rw [w64 (by omega) (by omega)]; rfl
        · rw [e] at hput; exact hput
        · rw [w64 (by omega) (by omega)]; show (n - ((k : Int) + 1)).toNat < (n - (k : Int)).toNat; omega
      · have hkn : (k : Int) = n := by simp at hc; omega
        rw [show n.toNat - k = 0 by omega, putN] at hput
        exact ⟨i + 2, t, _, _, _, rfl, by omega, by omega, hB2, by omega, ⟨hst7.x0, hst7.y0, hst7.len, hst7.fit⟩, hV7, hM7, fun _ => go (by rw [r1, ← hput]; rfl), fun hx => (hx ⟨hst7.x1, hst7.y1⟩).elim⟩
    · have hn : ¬ 0 < n := by simpa using hn
      rw [if_neg hn, if_pos (by simpa using hv0)] at r1
      have y0 := hst.y0
      have y1 := hst.y1
      refine ⟨s.y, hVd.c.cell (i := 2) rfl, ?_⟩
      rw [w64 (x := s.y + 1) (by omega) (by omega)]
      have hL1 := set_locl (u := w5.drew) (b := k4) (i := 1) (vs := [i64 0]) hVd.c.lt
      have e1 := hVd.c.set1 (off := 1) (v := i64 0) (by simp)
      have hsz1 : (setCells w5.drew ⟨k4, 1, none⟩ [i64 0] 0).heap.size = w5.drew.heap.size := (setCells_same _ _ _ _).size
      have hM1 := hMd.keepL hL1 (by simp; omega)
      have hi1 := hVd.ix.locl hL1 (by simpa using n34)
      generalize setCells w5.drew ⟨k4, 1, none⟩ [i64 0] 0 = u1 at hL1 e1 hM1 hi1 ⊢
      have hL2 := set_locl (u := u1) (b := k4) (i := 2) (vs := [i64 (s.y + 1)]) e1.lt
      have e2 := e1.set1 (off := 2) (v := i64 (s.y + 1)) (by simp)
      refine ⟨⟨_, hVd.c.cell (i := 1) rfl⟩, hVd.c.frozen _, by simp; omega, ⟨_, e1.cell (i := 2) rfl⟩, e1.frozen _, by simp; omega, i + 2, ⟨0, s.y + 1, s.ix⟩, _, _, _, rfl, by omega, by omega, hB2, by omega, ⟨Int.le_refl _, by show 0 ≤ s.y + 1; omega, hst.len, hst.fit⟩, ⟨e2, hi1.locl hL2 (by simpa using n34)⟩, hM1.keepL hL2 (by simp; omega), fun hx => go ?_, fun hx => ?_⟩
      · rw [r1, if_pos hx.2]
      · rw [← hu]; refine unr_stop ?_; rw [r1, if_neg]; intro hy; exact hx ⟨by show 0 ≤ W; omega, hy⟩
    · have hn : ¬ 0 < n := by simpa using hn
      rw [if_neg hn, if_neg (by simpa using hv0), if_pos (by simpa using hv1)] at r1
      have hr : res = some s.ix := by rw [← hu]; exact unr_done r1
      have hlen := hst.len
      have hfit := hst.fit
      subst hr
      refine ⟨_, _, _, hVd.c.cell (i := 3) rfl, fun vs u => ∃ k : Nat, vs = [i64 k, i64 0, i64 0, .slice none 0 0] ∧ k ≤ s.ix.length ∧ (∀ x ∈ s.ix.take k, x < pl.length) ∧ Cs u k3 (s.ix.map i64) ∧ Im w0 u [k4, k3, k2, k1] k2 W H ((s.ix.take k).map (palC pl)),
        fun vs _ => match vs with | .int _ k :: _ => (s.ix.length - k).toNat | _ => 0, ⟨0, rfl, by omega, by simp, hVd.ix, hMd⟩, fun n18 n19 n20 p10 k23 k24 w10 hI => ?_⟩
      obtain ⟨k, hv', hk, hin, hC10, hM10⟩ := hI
      simp only [List.cons.injEq, Value.int.injEq, Value.slice.injEq, true_and, and_true] at hv'
      obtain ⟨rfl, rfl, rfl, rfl, rfl, rfl⟩ := hv'
      refine brB_i (fun hc => ?_) fun hc => ?_
      · have hkn : k < s.ix.length := by simp at hc; omega
        have hel : s.ix.getD ((k : Int)).toNat 0 = s.ix[k] := by rw [Int.toNat_natCast, List.getD, List.getElem?_eq_getElem hkn]; rfl
        have hmem : s.ix[k] ∈ s.ix := List.getElem_mem hkn
        have hsl : Sl w10.heap.size w10 (some ⟨k3, 0, none⟩) (s.ix.map i64) := hC10.sl (by simp) hC10.lt
        refine ints_elem hsl (by omega) (by omega) (by omega) fun a9 ha9 => ⟨_, ha9, ?_⟩
        rw [hel]
        refine index_spec hM10 hC hp hql (hfit _ hmem).1 (by rw [List.length_map, List.length_take]; omega) (fun hge => ⟨_, rfl, (Ext.refl _).keep _, brB_t rfl (fin hM10 (ixImg_no hmem hge))⟩) fun hlt' u' hI kp => ⟨_, rfl, kp _ (by simpa using n12), brB_f rfl ⟨⟨k + 1, ?_, by omega, ?_, hC10.keep (kp [k3] (by simp; omega)) (by simp), ?_⟩, ?_⟩⟩
        · rw [w64 (by omega) (by omega)]; rfl
        · intro x hx
          rw [List.take_succ_eq_append_getElem hkn] at hx
          rcases List.mem_append.1 hx with hx | hx
          · exact hin x hx
          · simp at hx; rw [hx]; exact hlt'
        · rw [List.take_succ_eq_append_getElem hkn, List.map_append, List.map_singleton]; exact hI
        · rw [w64 (by omega) (by omega)]; show ((s.ix.length : Int) - ((k : Int) + 1)).toNat < ((s.ix.length : Int) - (k : Int)).toNat; omega
      · have hkn : k = s.ix.length := by simp at hc; omega
        subst hkn
        rw [List.take_length] at hin hM10
        have hyes := ixImg_yes hin
        obtain ⟨z, c, hcs, hFg⟩ := hM10.cs
        refine ⟨_, _, _, _, _, hcs.cell (i := 0) rfl, hcs.cell (i := 1) rfl, hcs.cell (i := 2) rfl, fun w18 hL18 => ?_⟩
        obtain ⟨z', c', hcs', hFg'⟩ := (kL hM10 hL18).cs
        have := Cs.uniq (hcs.locl hL18 (by simpa using n12.symm)) hcs'
        simp only [List.cons.injEq, Value.slice.injEq, true_and, and_true] at this
        obtain ⟨rfl, rfl⟩ := this
        exact h2 _ (hrl.trans hyes) (by rw [List.length_map]; exact hlen) _ _ w18 hFg'.ext hFg'.ow
    · have hn : ¬ 0 < n := by simpa using hn
      rw [if_neg hn, if_neg (by simpa using hv0), if_neg (by simpa using hv1), if_pos (by simpa using hv2)] at r1
      rw [r1, if_pos (by simp at hb4; omega)]
    · have hn : ¬ 0 < n := by simpa using hn
      rw [if_neg hn, if_neg (by simpa using hv0), if_neg (by simpa using hv1), if_pos (by simpa using hv2)] at r1
      have hb4 : i + 4 ≤ b.length := by simp at hb4; omega
      rw [if_neg (by omega)] at r1
      have h20 : (b.drop (i + 2)).getD (0 : Int).toNat 0 = b.getD (i + 2) 0 := getD_drop
      have h21 : (b.drop (i + 2)).getD (1 : Int).toNat 0 = b.getD (i + 3) 0 := getD_drop
      have b2 := bf (i + 2)
      have b3 := bf (i + 3)
      have x0 := hst.x0
      have x1 := hst.x1
      have y0 := hst.y0
      have y1 := hst.y1
      have hVdd := hVd.dr
      have hMdd := hMd.dr
      refine ⟨_, hVdd.c.cell (i := 1) rfl, (hB2.ext hMdd.ext).get (by omega) (by omega) fun a10 ha10 => ⟨_, ha10, _, hVdd.c.cell (i := 2) rfl, (hB2.ext hMdd.ext).get (by omega) (by omega) fun a11 ha11 => ⟨_, ha11, ?_⟩⟩⟩
      rw [h20, h21]
      generalize b.getD (i + 2) 0 = e2 at r1 b2 ⊢
      generalize b.getD (i + 3) 0 = e3 at r1 b3 ⊢
      rw [w64 (x := e2) (by omega) (by omega), w64 (x := e3) (by omega) (by omega), w64 (x := s.x + e2) (by omega) (by omega), w64 (x := s.y + e3) (by omega) (by omega)]
      have hL1 := set_locl (u := w5.drew.drew) (b := k4) (i := 1) (vs := [i64 (s.x + e2)]) hVdd.c.lt
      have d1 := hVdd.c.set1 (off := 1) (v := i64 (s.x + e2)) (by simp)
      have hM1 := hMdd.keepL hL1 (by simp; omega)
      have hi1 := hVdd.ix.locl hL1 (by simpa using n34)
      generalize setCells w5.drew.drew ⟨k4, 1, none⟩ [i64 (s.x + e2)] 0 = u1 at hL1 d1 hM1 hi1 ⊢
      have hL2 := set_locl (u := u1) (b := k4) (i := 2) (vs := [i64 (s.y + e3)]) d1.lt
      have d2 := d1.set1 (off := 2) (v := i64 (s.y + e3)) (by simp)
      have hB4 := By.next hB2 (cap := k10 - 2) (n := 2) (by omega) (by omega)
      refine ⟨⟨_, hVdd.c.cell (i := 1) rfl⟩, hVdd.c.frozen _, by simp; omega, ⟨_, d1.cell (i := 2) rfl⟩, d1.frozen _, by simp; omega, by omega, by omega, by omega, i + 4, ⟨s.x + e2, s.y + e3, s.ix⟩, _, _, _, rfl, by omega, by omega, hB4, by omega, ⟨by show 0 ≤ s.x + e2; omega, by show 0 ≤ s.y + e3; omega, hst.len, hst.fit⟩, ⟨d2, hi1.locl hL2 (by simpa using n34)⟩, hM1.keepL hL2 (by simp; omega), fun hx => go ?_, fun hx => ?_⟩
      · rw [r1, if_pos hx]
      · rw [← hu]; refine unr_stop ?_; rw [r1, if_neg hx]
    · have hn : ¬ 0 < n := by simpa using hn
      have hv2' : ¬ v = 2 := by simpa using hv2
      have hv0' : ¬ v = 0 := by simpa using hv0
      have hv1' : ¬ v = 1 := by simpa using hv1
      rw [if_neg hn, if_neg hv0', if_neg hv1', if_neg hv2'] at r1
      obtain ⟨hsz, hper⟩ := abs_size hd bv.1 bv.2
      refine nn_i rfl ⟨_, (hC.ext hMd.ext).cell (i := 4) rfl, by omega, hper, ?_⟩
      rw [hsz]
      refine brB_i (fun hbs => fin hMd (stop ?_)) fun hbs => ?_
      · rw [r1, if_pos (by simp at hbs; omega)]
      have hbs : i + 2 + absN d v ≤ b.length := by simp at hbs; omega
      rw [if_neg (by omega)] at r1
      have hin : ∀ k : Nat, (k : Int) < v → i + 2 + (if d = 8 then k else k / 2) < b.length := fun k hk => by
        have : (if d = 8 then k else k / 2) < absN d v := by
          unfold absN
          rcases hd with rfl | rfl
          · simp; omega
          · simp; omega
        omega
      refine ⟨fun vs u => ∃ (k : Nat) (t : RS), vs = [i64 k, i64 0, i64 0, .slice none 0 0] ∧ (k : Int) ≤ v ∧ StOk W H t ∧ Cv u k4 k3 fb (W * H).toNat t ∧ Im w0 u [k4, k3, k2, k1] k2 W H [] ∧ putN W H (absV d b (i + 2)) (v.toNat - k) k t = putN W H (absV d b (i + 2)) v.toNat 0 s,
        fun vs _ => match vs with | .int _ k :: _ => (v - k).toNat | _ => 0, ⟨0, s, rfl, by omega, hst, hVd, hMd, rfl⟩, fun n35 n36 n37 p16 k35 k36 w16 hI => ?_⟩
      obtain ⟨k, t, hv', hk, hst7, hV7, hM7, hput⟩ := hI
      simp only [List.cons.injEq, Value.int.injEq, Value.slice.injEq, true_and, and_true] at hv'
      obtain ⟨rfl, rfl, rfl, rfl, rfl, rfl⟩ := hv'
      refine brB_i (fun hc => ?_) fun hc => ?_
      · have hkn : (k : Int) < v := by simpa using hc
        have hik := hin k hkn
        rw [show v.toNat - k = (v.toNat - (k + 1)) + 1 by omega, putN, absV_nib hd] at hput
        rw [per_at hd k (by omega)]
        refine ⟨hper, (hB2.ext hM7.ext).get (by omega) (by omega) fun a13 ha13 => ⟨_, ha13, ?_⟩⟩
        rw [Int.toNat_natCast, getD_drop]
        have bq := bf (i + 2 + if d = 8 then k else k / 2)
        generalize b.getD (i + 2 + if d = 8 then k else k / 2) 0 = z at bq hput ⊢
        rw [w64 (x := z) (by omega) (by omega)]
        refine cput_spec hV7 (hC.ext hM7.ext) hst7 hg n34 hd bq.1 bq.2 (by omega) nf3 (fun e => ⟨_, rfl, (Ext.refl _).drew.keep _, brB_t rfl (fin hM7.dr (stop ?_))⟩) fun t' e u' hc' hsz hV' => ⟨_, rfl, hc'.keep (by simp; omega), brB_f rfl ⟨⟨k + 1, t', ?_, by omega, putS_ok hst7 (nib_range bq) e, hV', hM7.turn hc' hsz (by simp; omega), ?_⟩, ?_⟩⟩
        · rw [e] at hput; rw [r1, ← hput]; rfl
        · rw [w64 (by omega) (by omega)]; rfl
        · rw [e] at hput; exact hput
        · rw [w64 (by omega) (by omega)]; show (v - ((k : Int) + 1)).toNat < (v - (k : Int)).toNat; omega
      · have hkn : (k : Int) = v := by simp at hc; omega
        rw [show v.toNat - k = 0 by omega, putN] at hput
        have hB4 := By.next hB2 (cap := k10 - 2) (n := absN d v) (by omega) (by omega)
        exact ⟨by omega, by omega, by omega, i + 2 + absN d v, t, _, _, _, rfl, by omega, by omega, hB4, by omega, ⟨hst7.x0, hst7.y0, hst7.len, hst7.fit⟩, hV7, hM7, fun _ => go (by rw [r1, ← hput]; rfl), fun hx => (hx ⟨hst7.x1, hst7.y1⟩).elim⟩
  · obtain ⟨j, t, q', n', c', hv', hij, hj, hBj, hnc', hpos, hVt, hMt, hgo, hno⟩ := hI
    simp only [List.cons.injEq, Value.int.injEq, Value.slice.injEq, true_and, and_true] at hv'
    obtain ⟨⟨rfl, rfl, rfl⟩, rfl, rfl, rfl, rfl, rfl⟩ := hv'
    have hVt' := hVt.dr
    have hMt' := hMt.dr
    refine ⟨_, hVt'.c.cell (i := 1) rfl, nn_i rfl ⟨_, (hC.ext hMt'.ext).cell (i := 1) rfl, brB_i (fun hx => fin hMt' (bad (hno (by simp at hx; omega)))) fun hx => ⟨_, hVt'.c.cell (i := 2) rfl, nn_i rfl ⟨_, (hC.ext hMt'.ext).cell (i := 2) rfl, brB_i (fun hy => fin hMt' (bad (hno (by simp at hy; omega)))) fun hy => ?_⟩⟩⟩⟩
    have hx : t.x ≤ W := by simpa using hx
    have hy : t.y ≤ H := by simpa using hy
    have hBn' : k41 = b.length - j := by have := hBj.ln; rwa [List.length_drop] at this
    exact ⟨⟨j, t, f, _, _, _, rfl, hj, by omega, hgo ⟨hx, hy⟩, hBj, hnc', ⟨hpos.1, hx, hpos.2.1, hy, hpos.2.2.1, hpos.2.2.2⟩, hVt', hMt'⟩, by show k41 < k9; omega⟩
end Go.Proofs.YtjdljddfiddnoaaDoor
