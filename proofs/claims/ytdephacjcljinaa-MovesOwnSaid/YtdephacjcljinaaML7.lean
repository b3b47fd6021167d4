/- Moves: the outcome, the document's. -/
import Derived.Test.YtdephacjcljinaaML6
namespace Go.Proofs.Ytdephacjcljinaa
open Go Go.Vc Go.RowKit
set_option maxRecDepth 100000
set_option linter.unusedVariables false
set_option linter.unusedSimpArgs false

theorem beqC {a1 a2 a3 a4 b1 b2 b3 b4 : Int} : (decide (a1 = b1) && (decide (a2 = b2) && (decide (a3 = b3) && (decide (a4 = b4) && true)))) = decide (((a1, a2, a3, a4) : Co) = (b1, b2, b3, b4)) := by
  rw [Bool.eq_iff_iff]; simp
set_option maxHeartbeats 4000000 in
theorem reftrim_spec {w : World} {p : Option Addr} {len cap : Nat} {W H : Int} {xs : List Int} {R : Ending → World → Prop} (h : Img w p len xs) (hg : good W H xs = true)
    (hR : ∀ p' l' c' w', Fg [] w w' 1 p' l' c' (px (trimR W H xs).2.2.1) → R (.returned (.agg #[i64 (trimR W H xs).1, i64 (trimR W H xs).2.1, .slice p' l' c'])) w') :
    Calls P F.ref21_trim #[.agg #[i64 W, i64 H, .slice p len cap]] w R := by
  refine calls_ref21_trim _ _ _ _ _ _ _ ?_
  obtain ⟨hf, hlen⟩ := good_iff.1 hg
  obtain ⟨g1, g2, g3, g4, g5⟩ := gfits_iff.1 hf
  have hpos : 0 < W * H := Int.mul_pos (by omega) (by omega)
  intro k1 hk1 k2 hk2 w1 hL1
  have hb2 : ∀ b, b ∈ [k2, k1] → w.heap.size ≤ b := by simp; omega
  have hE1 : Ext w w1 := hL1.ext hb2
  refine refPixel_spec (h.ext hE1) hg (by omega) (by omega) (by omega) (by omega) fun w2 hE2 => ⟨_, _, _, _, rfl, hE2.keep _, fun k3 hk3 => ?_⟩
  have hE12 := hE1.trans hE2
  have s12 := hE12.size
  have hb3 : ∀ b, b ∈ [k3, k2, k1] → w.heap.size ≤ b := by simp; omega
  rw [show ((0 : Int) * W + 0).toNat = 0 by omega]
  refine ⟨fun vs u => match vs with | [.int _ a, .int _ b, .int _ c, .int _ d, .int _ y] => 0 ≤ y ∧ y ≤ H ∧ (a, b, c, d) = box W H xs (y * W).toNat ∧ Ext w u ∧ (k1 < u.heap.size ∧ k2 < u.heap.size ∧ k3 < u.heap.size) | _ => False, fun vs _ => match vs with | [_, _, _, _, .int _ y] => (H - y).toNat | _ => 0,
    fun w3 hL3 => ⟨Int.le_refl _, by omega, by rw [Int.zero_mul]; rfl, hE12.step hL3.chg hb3, hL3.there k1 (by simp), hL3.there k2 (by simp), hL3.there k3 (by simp)⟩, ?_⟩
  intro b1 b2 b3 b4 y w4 hI
  obtain ⟨y0, y1, hbox, hE4, tk⟩ := hI
  refine brB_i (fun hlt => ?_) (fun hge => ?_)
  · have hlt : y < H := by simpa using hlt
    have yW : 0 ≤ y * W := Int.mul_nonneg y0 (by omega)
    have yW2 : y * W + W ≤ W * H := by
      have h1 : (y + 1) * W ≤ H * W := Int.mul_le_mul_of_nonneg_right (by omega) (by omega)
      rw [Int.add_mul, Int.one_mul, Int.mul_comm H] at h1; exact h1
    refine ⟨fun vs u => match vs with | [.int _ a, .int _ b, .int _ c, .int _ d, .int _ x] => 0 ≤ x ∧ x ≤ W ∧ (a, b, c, d) = box W H xs (y * W + x).toNat ∧ Ext w u ∧ (k1 < u.heap.size ∧ k2 < u.heap.size ∧ k3 < u.heap.size) | _ => False, fun vs _ => match vs with | [_, _, _, _, .int _ x] => (W - x).toNat | _ => 0,
      ⟨Int.le_refl _, by omega, by rw [Int.add_zero]; exact hbox, hE4, tk⟩, ?_⟩
    intro c1 c2 c3 c4 x w5 hI2
    obtain ⟨x0, x1, hbox2, hE5, tk5⟩ := hI2
    refine brB_i (fun hlt2 => ?_) (fun hge2 => ?_)
    · have hlt2 : x < W := by simpa using hlt2
      obtain ⟨d1, d2⟩ := divmod (y := y) x0 hlt2
      have hn : (((y * W + x).toNat : Nat) : Int) = y * W + x := by omega
      have hstep : box W H xs (y * W + (x + 1)).toNat = if colAt xs (y * W + x).toNat = colAt xs 0 then (c1, c2, c3, c4) else (min c1 x, min c2 y, max c3 x, max c4 y) := by
        rw [show (y * W + (x + 1)).toNat = (y * W + x).toNat + 1 by omega, box, ← hbox2, hn, d1, d2]
      refine ⟨fun vs u => match vs with | [.int _ a, .int _ b, .int _ c, .int _ d] => (a, b, c, d) = box W H xs (y * W + (x + 1)).toNat ∧ Ext w u ∧ w5.heap.size ≤ u.heap.size | _ => False, ?_, ?_⟩
      · refine refPixel_spec ((h.ext hE5).ext (Ext.refl _).drew) hg x0 y0 hlt2 hlt fun w6 hE6 => ⟨_, _, _, _, rfl, hE6.keep _, hE6.keeps, ?_⟩
        have hE56 := hE5.drew.trans hE6
        have s56 : w5.heap.size ≤ w6.heap.size := hE6.size
        rw [beqC]
        refine brB_i (fun hb => ?_) (fun hb => ?_)
        · have hb : colAt xs (y * W + x).toNat = colAt xs 0 := of_decide_eq_true hb
          rw [if_pos hb] at hstep
          exact ⟨hstep.symm, hE56, s56⟩
        · have hb : ¬ colAt xs (y * W + x).toNat = colAt xs 0 := of_decide_eq_false hb
          rw [if_neg hb] at hstep
          refine ⟨fun vs u => match vs with | [.int _ a] => a = min c1 x ∧ Ext w u ∧ w5.heap.size ≤ u.heap.size | _ => False, brB_i (fun hc => ⟨?_, hE56, s56⟩) (fun hc => ⟨?_, hE56, s56⟩), fun a u hI4 => ?_⟩
          · have hc : x < c1 := by simpa using hc
            omega
          · have hc : ¬ x < c1 := by simpa using hc
            omega
          obtain ⟨rfl, hE7, s7⟩ := hI4
          refine brB_i (fun e1 => brB_i (fun e2 => brB_i (fun e3 => ?_) (fun e3 => ?_)) (fun e2 => brB_i (fun e3 => ?_) (fun e3 => ?_))) (fun e1 => brB_i (fun e2 => brB_i (fun e3 => ?_) (fun e3 => ?_)) (fun e2 => brB_i (fun e3 => ?_) (fun e3 => ?_)))
          all_goals
            simp only [decide_eq_true_eq, decide_eq_false_iff_not] at e1 e2 e3
            refine ⟨?_, hE7, s7⟩
            rw [hstep]
            simp only [Prod.mk.injEq]
            refine ⟨trivial, ?_, ?_, ?_⟩ <;> omega
      · intro a b c d w8 hI3
        obtain ⟨hbx, hE8, s8⟩ := hI3
        rw [w64 (x := x + 1) (by omega) (by omega)]
        exact ⟨⟨by omega, by omega, hbx, hE8, by omega⟩, by show (W - (x + 1)).toNat < (W - x).toNat; omega⟩
    · have hge2 : x = W := by simp at hge2; omega
      subst hge2
      rw [w64 (x := y + 1) (by omega) (by omega)]
      exact ⟨⟨by omega, by omega, by rw [Int.add_mul, Int.one_mul]; exact hbox2, hE5, tk5⟩, by show (H - (y + 1)).toNat < (H - y).toNat; omega⟩
  · have hge : y = H := by simp at hge; omega
    subst hge
    rw [Int.mul_comm y W] at hbox
    have hok := box_ok (xs := xs) hf (q := (W * y).toNat) (by omega)
    have hokT := boxT_ok hf hok
    refine ⟨fun vs u => match vs with | [.int _ a, .int _ b, .int _ c, .int _ d] => (a, b, c, d) = boxT (box W y xs (W * y).toNat) ∧ Ext w u ∧ (k1 < u.heap.size ∧ k2 < u.heap.size ∧ k3 < u.heap.size) | _ => False, brB_i (fun hb => ⟨?_, hE4, tk⟩) (fun hb => ⟨?_, hE4, tk⟩), ?_⟩
    · have hb : b3 < 0 := by simpa using hb
      unfold boxT
      rw [← hbox, if_pos (show ((b1, b2, b3, b4) : Int × Int × Int × Int).2.2.1 < 0 from hb)]
    · have hb : ¬ b3 < 0 := by simpa using hb
      unfold boxT
      rw [← hbox, if_neg (show ¬ ((b1, b2, b3, b4) : Int × Int × Int × Int).2.2.1 < 0 from hb)]
    intro t1 t2 t3 t4 w9 hI5
    obtain ⟨ht, hE9, tk9⟩ := hI5
    rw [← ht] at hokT
    simp only at hokT
    rw [w64 (x := t3 - t1) (by omega) (by omega), w64 (x := t4 - t2) (by omega) (by omega), w64 (x := t3 - t1 + 1) (by omega) (by omega), w64 (x := t4 - t2 + 1) (by omega) (by omega)]
    have hT : trimR W y xs = cropR W y xs t1 t2 (t3 - t1 + 1) (t4 - t2 + 1) := by unfold trimR; rw [← ht]
    rw [hT] at hR
    refine refCrop_spec (h.ext hE9) fun p' l' c' w10 hf10 => ⟨_, _, _, _, _, _, rfl, hf10.ext.keep _, fun k6 hk6 w11 hL11 => ?_⟩
    have s9 := hE9.size
    have s10 := hf10.ext.size
    exact hR _ _ _ _ (((hf10.from (bs := [k3, k2, k1]) hE9 (by simp; omega)).push hL11 (by simp; omega)).weak)
theorem frame_hd {args : List Int} (h : chkR sFrame args = 0) : CoOk (args.getD 1 0, args.getD 2 0, args.getD 3 0, args.getD 4 0) := by
  obtain ⟨l1, q0, q1, q2, q3, q4⟩ := frame_args h
  exact ⟨q1, q2, q3, q4⟩
set_option maxHeartbeats 8000000 in
theorem refApply_spec {w : World} {op : ByteArray} {pa p : Option Addr} {la ca lp cp : Nat} {args xs : List Int} {W H : Int} {R : Ending → World → Prop} (ha : Ints w pa la args)
    (hp : Img w p lp xs) (hxs : SmL xs)
    (hR : ∀ p' l' c' w', Fg [] w w' 1 p' l' c' (px (appR op args W H xs).2.2.1) → R (.returned (.tuple #[.agg #[i64 (appR op args W H xs).1, i64 (appR op args W H xs).2.1, .slice p' l' c'], i64 (appR op args W H xs).2.2.2])) w') :
    Calls P F.ref21_Apply #[.string op, .slice pa la ca, .agg #[i64 W, i64 H, .slice p lp cp]] w R := by
  refine calls_ref21_Apply _ _ _ _ _ _ _ _ _ _ _ ?_
  intro k1 hk1 k2 hk2 w1 hL1
  have hb2 : ∀ b, b ∈ [k2, k1] → w.heap.size ≤ b := by simp; omega
  have hE1 := Locl.exW (Ext.refl w) hL1 hb2
  have hla := ha.lth
  refine refCheck_spec (ha.ext hE1) fun w2 hE2 => ⟨_, rfl, hE2.keep _, brB_i (fun hb w3 hL3 => ?_) (fun hb => ?_)⟩
  · have hb : chkR op args ≠ 0 := by simpa using hb
    unfold appR at hR
    rw [if_pos hb] at hR
    exact hR none 0 0 w3 (Fg.nil (Locl.exW (hE1.trans hE2) hL3 hb2) 1)
  have hb : chkR op args = 0 := by simpa using hb
  have hE12 := hE1.trans hE2
  refine refGood_spec hp.len fun w4 hE4 => ⟨_, rfl, hE4.keep _, brB_i (fun hb1 w5 hL5 => ?_) (fun hb1 => ?_)⟩
  · have hb1 : good W H xs = false := by simpa using hb1
    unfold appR at hR
    rw [if_neg (by omega), if_pos hb1] at hR
    exact hR none 0 0 w5 (Fg.nil (Locl.exW (hE12.trans hE4) hL5 hb2) 1)
  have hb1 : good W H xs = true := by simpa using hb1
  have hE14 := hE12.trans hE4
  refine refSize_spec (ha.ext hE14) fun w6 hE6 => ⟨_, _, _, rfl, hE6.keep _, brB_i (fun hb4 w7 hL7 => ?_) (fun hb4 => ?_)⟩
  · have hb4 : (sizeR op args W H).2.2 ≠ 0 := by simpa using hb4
    unfold appR at hR
    rw [if_neg (by omega), if_neg (by simp [hb1]), if_pos hb4] at hR
    exact hR none 0 0 w7 (Fg.nil (Locl.exW (hE14.trans hE6) hL7 hb2) 1)
  have hb4 : (sizeR op args W H).2.2 = 0 := by simpa using hb4
  have hE16 := hE14.trans hE6
  have s16 := hE16.size
  unfold appR at hR
  rw [if_neg (by omega), if_neg (by simp [hb1]), if_neg (by omega)] at hR
  obtain ⟨_, hf, _, hz, hsz⟩ := size_facts hb4
  have hin : op ≠ sFrame → op ≠ sShrink → ∀ {x y : Int}, 0 ≤ x → x < (whF op args W H).1 → 0 ≤ y → y < (whF op args W H).2 → inI W H (frP op args W H x y) = true := fun n1 n2 x y => fr_in hb4 n1 n2
  have hwh : op = sShrink → (whF op args W H).1 = (W + args.getD 0 0 - 1) / args.getD 0 0 ∧ (whF op args W H).2 = (H + args.getD 0 0 - 1) / args.getD 0 0 := fun e => by subst e; exact ⟨rfl, rfl⟩
  rw [hsz] at hR ⊢
  generalize whF op args W H = z at *
  obtain ⟨ow, oh⟩ := z
  simp only at hz hin hwh hR ⊢
  obtain ⟨g1, g2, g3, g4, g5⟩ := gfits_iff.1 hz
  obtain ⟨a1, a2, a3, a4, a5⟩ := gfits_iff.1 hf
  refine eB (fun e => ?_) fun nt => ?_
  · rw [if_pos e] at hR
    refine reftrim_spec (hp.ext hE16) hb1 fun p' l' c' w8 hf8 => ⟨_, _, _, _, _, rfl, hf8.ext.keep _, fun w9 hL9 => ?_⟩
    exact hR _ _ _ _ (((hf8.from (bs := [k2, k1]) hE16 (by have := hL1.there k1 (by simp); have := hL1.there k2 (by simp); have := hE12.size; have := hE2.size; have := hE4.size; have := hE6.size; simp; omega)).push hL9 (by simp)).weak)
  rw [if_neg nt] at hR
  intro k5 hk5
  have hb5 : ∀ b, b ∈ [k5, k2, k1] → w.heap.size ≤ b := by simp; omega
  refine ⟨fun vs u => match vs with | [.int _ y, .int _ nw, .int _ nh, .slice p1 l1 c1] => nw = ow ∧ nh = oh ∧ 0 ≤ y ∧ y ≤ oh ∧ Fg [k5, k2, k1] w u 1 p1 l1 c1 (px (pxs op args W H xs ow (y * ow).toNat)) | _ => False,
    fun vs _ => match vs with | [.int _ y, _, _, _] => (oh - y).toNat | _ => 0, fun w10 hL10 => ⟨rfl, rfl, by omega, by omega, ?_⟩, ?_⟩
  · have : pxs op args W H xs ow ((0 : Int) * ow).toNat = [] := by rw [Int.zero_mul]; rfl
    rw [this]
    exact Fg.nil' hE16 hL10 hb5 1
  intro y nw nh p1 l1 c1 w11 hI
  obtain ⟨rfl, rfl, y0, y1, hfg⟩ := hI
  refine brB_i (fun hlt0 => ?_) (fun hge => ?_)
  · have hlt : y < nh := by simpa using hlt0
    clear hlt0
    have hyw : 0 ≤ y * nw := Int.mul_nonneg y0 (by omega)
    have hyw2 : y * nw + nw ≤ nw * nh := by
      have h1 : (y + 1) * nw ≤ nh * nw := Int.mul_le_mul_of_nonneg_right (by omega) (by omega)
      rw [Int.add_mul, Int.one_mul, Int.mul_comm nh] at h1; exact h1
    refine ⟨fun vs u => match vs with | [.int _ x, .int _ mw, .int _ mh, .slice p2 l2 c2] => mw = nw ∧ mh = nh ∧ 0 ≤ x ∧ x ≤ nw ∧ Fg [k5, k2, k1] w u 1 p2 l2 c2 (px (pxs op args W H xs nw (y * nw + x).toNat)) | _ => False,
      fun vs _ => match vs with | [.int _ x, _, _, _] => (nw - x).toNat | _ => 0, ⟨rfl, rfl, by omega, by omega, by rw [Int.add_zero]; exact hfg⟩, ?_⟩
    intro x mw mh p2 l2 c2 w12 hI2
    obtain ⟨rfl, rfl, x0, x1, hfg2⟩ := hI2
    have hl2 : l2 = 4 * (y * mw + x).toNat := by
      have := hfg2.len
      rw [px_length, pxs_length] at this; exact this
    refine brB_i (fun hlt2 k10 hk10 => ?_) (fun hge2 => ?_)
    · have hlt2 : x < mw := by simpa using hlt2
      obtain ⟨dm1, dm2⟩ := divmod (y := y) x0 hlt2
      have hE12' := hfg2.ext
      have s12 := hE12'.size
      have hav : ∀ b, b ∈ [k10, k5, k2, k1] → b ∈ [k5, k2, k1] ∨ w12.heap.size ≤ b := by simp; omega
      have hpx : pxs op args W H xs mw (y * mw + (x + 1)).toNat = pxs op args W H xs mw (y * mw + x).toNat ++ coL (pixM op args W H xs x y) := by
        rw [show (y * mw + (x + 1)).toNat = (y * mw + x).toNat + 1 by omega, pxs_succ]
        unfold pf
        rw [show (((y * mw + x).toNat : Nat) : Int) = y * mw + x by omega, dm1, dm2]
      refine ⟨fun vs u => vs = [u16 (pixM op args W H xs x y).1, u16 (pixM op args W H xs x y).2.1, u16 (pixM op args W H xs x y).2.2.1, u16 (pixM op args W H xs x y).2.2.2] ∧ Fg [k10, k5, k2, k1] w u 1 p2 l2 c2 (px (pxs op args W H xs mw (y * mw + x).toNat)), ?_, ?_⟩
      · refine eB (fun e => ?_) fun ns => eB (fun e => ?_) fun nf => ?_
        · have hb' := hb
          rw [e] at hb'
          obtain ⟨l1', q0⟩ := shrink_args hb'
          obtain ⟨wh1, wh2⟩ := hwh e
          obtain ⟨i1, i2⟩ := sq_in (n := args.getD 0 0) (x := x) (W := W) (by omega) x0 (by omega)
          obtain ⟨i3, i4⟩ := sq_in (n := args.getD 0 0) (x := y) (W := H) (by omega) y0 (by omega)
          refine ha.atE (i := 0) (by omega) (by omega) fun A hA w13 hL13 => ?_
          have f13 := hfg2.locl hL13 hav
          refine ⟨_, hA _ f13.ext, ?_⟩
          rw [show (0 : Int).toNat = 0 from rfl]
          refine refmean_spec (hp.ext f13.ext) hb1 hxs (by omega) (by omega) i1 i2 i3 i4 fun w14 hE14' => ⟨_, _, _, _, rfl, hE14'.keep _, fun w15 hL15 => ?_⟩
          have f15 := (f13.step hE14').locl hL15 fun b hb => .inl hb
          refine ⟨?_, f15⟩
          unfold pixM
          rw [if_pos e]
        · have hb' := hb
          rw [e] at hb'
          obtain ⟨l1', q0, q1, q2, q3, q4⟩ := frame_args hb'
          have hfr : frP op args W H x y = (x - args.getD 0 0, y - args.getD 0 0) := by rw [e]; rfl
          refine ha.atE (i := 1) (by omega) (by omega) fun A1 hA1 w16 hL16 => ?_
          have f16 := hfg2.locl hL16 hav
          refine ⟨_, hA1 _ f16.ext, ha.atE (i := 2) (by omega) (by omega) fun A2 hA2 => ⟨_, hA2 _ f16.ext, ha.atE (i := 3) (by omega) (by omega) fun A3 hA3 => ⟨_, hA3 _ f16.ext, ha.atE (i := 4) (by omega) (by omega) fun A4 hA4 => ⟨_, hA4 _ f16.ext, ha.atE (i := 0) (by omega) (by omega) fun A5 hA5 w17 hL17 => ?_⟩⟩⟩⟩
          have f17 := f16.locl hL17 fun b hb => .inl hb
          refine ⟨_, hA5 _ f17.ext, ha.atE (i := 0) (by omega) (by omega) fun A6 hA6 => ⟨_, hA6 _ f17.ext, ?_⟩⟩
          rw [show (0 : Int).toNat = 0 from rfl, show (1 : Int).toNat = 1 from rfl, show (2 : Int).toNat = 2 from rfl, show (3 : Int).toNat = 3 from rfl, show (4 : Int).toNat = 4 from rfl, w64 (x := x - args.getD 0 0) (by omega) (by omega), w64 (x := y - args.getD 0 0) (by omega) (by omega)]
          have hcd : (decide (x - args.getD 0 0 ≥ 0) && decide (y - args.getD 0 0 ≥ 0) && decide (x - args.getD 0 0 < W) && decide (y - args.getD 0 0 < H)) = inI W H (frP op args W H x y) := by
            rw [hfr]; unfold inI
            rw [Bool.eq_iff_iff]
            simp only [Bool.and_eq_true, decide_eq_true_eq]
            omega
          rw [hcd]
          refine brB_i (fun hi => ?_) (fun hi => ?_)
          · have hi2 := hi
            rw [hfr] at hi2
            have hi3 := of_decide_eq_true hi2
            simp only at hi3
            refine refPixel_spec (hp.ext f17.ext) hb1 (by omega) (by omega) (by omega) (by omega) fun w18 hE18 => ⟨_, _, _, _, rfl, hE18.keep _, fun w19 hL19 => ⟨?_, (f17.step hE18).locl hL19 fun b hb => .inl hb⟩⟩
            unfold pixM
            rw [if_neg ns, if_pos hi, hfr]
          · refine ⟨?_, f17⟩
            unfold pixM
            rw [if_neg ns, if_neg (by simp [hi]), wu16 (by omega) (by omega), wu16 (by omega) (by omega), wu16 (by omega) (by omega), wu16 (by omega) (by omega)]
        · intro w20 hL20
          have f20 := hfg2.locl hL20 hav
          have hi := hin nf ns x0 hlt2 y0 hlt
          have hi' := of_decide_eq_true hi
          refine refFrom_spec (ha.ext f20.ext) hb hf nf x0 (by omega) y0 (by omega) fun w21 hE21 => ⟨_, _, rfl, hE21.keep _, ?_⟩
          refine refPixel_spec ((hp.ext f20.ext).ext hE21) hb1 hi'.1 hi'.2.1 hi'.2.2.1 hi'.2.2.2 fun w22 hE22 => ⟨_, _, _, _, rfl, hE22.keep _, fun w23 hL23 => ⟨?_, ((f20.step hE21).step hE22).locl hL23 fun b hb => .inl hb⟩⟩
          unfold pixM
          rw [if_neg ns, if_pos hi]
      · intro n34 n35 n36 n37 w24 hI3
        obtain ⟨hv, hf24⟩ := hI3
        simp only [List.cons.injEq, Value.int.injEq, true_and, and_true] at hv
        obtain ⟨rfl, rfl, rfl, rfl⟩ := hv
        refine Add_spec (c := pixM op args W H xs x y) hf24 (by omega) fun p3 c3 w25 hf25 hk25 => ⟨_, _, _, _, _, rfl, hk25, fun w26 hL26 => ?_⟩
        have hf26 := (hf25.locl hL26 fun b hb => .inl hb).mono (bs := [k5, k2, k1]) (by intro b hb; simp at hb ⊢; omega)
        rw [w64 (x := x + 1) (by omega) (by omega)]
        refine ⟨⟨rfl, rfl, by omega, by omega, ?_⟩, by show (mw - (x + 1)).toNat < (mw - x).toNat; omega⟩
        rw [hpx]; exact hf26
    · have hge2 : x = mw := by simp at hge2; omega
      subst hge2
      rw [w64 (x := y + 1) (by omega) (by omega)]
      exact ⟨⟨rfl, rfl, by omega, by omega, by rw [Int.add_mul, Int.one_mul]; exact hfg2⟩, by show (mh - (y + 1)).toNat < (mh - y).toNat; omega⟩
  · have hge : y = nh := by simp at hge; omega
    subst hge
    intro w27 hL27
    have hfg3 := (hfg.locl hL27 fun b hb => .inl hb).weak
    rw [Int.mul_comm] at hfg3
    exact hR _ _ _ _ hfg3
end Go.Proofs.Ytdephacjcljinaa
