/- Blend: what becomes of two samples, of two colours, of a place: the document. -/
import Derived.Test.YtombfebgojeliaaBL3
namespace Go.Proofs.Ytombfebgojeliaa
open Go Go.Vc Go.RowKit
set_option maxRecDepth 100000
set_option linter.unusedVariables false
set_option linter.unusedSimpArgs false

theorem Locl.exW {w u u' : World} {bs : List Nat} (hE : Ext w u) (hL : Locl bs u u') (hb : ∀ b, b ∈ bs → w.heap.size ≤ b) : Ext w u' := hE.step hL.chg hb
theorem Clamp_spec {w : World} {v : Int} {R : Ending → World → Prop} (hR : R (.returned (i64 (clampI v))) w) : Calls P F.ref08_Clamp #[i64 v, i64 65535] w R := by
  refine calls_ref08_Clamp _ _ _ _ ?_
  unfold clampI at hR
  refine brB_i (fun hb => ?_) (fun hb => ?_)
  · have hb : v < 0 := by simpa using hb
    rwa [show min (max v 0) 65535 = 0 by omega] at hR
  · have hb : ¬ v < 0 := by simpa using hb
    refine brB_i (fun hb2 => ?_) (fun hb2 => ?_)
    · have hb2 : v > 65535 := by simpa using hb2
      rwa [show min (max v 0) 65535 = 65535 by omega] at hR
    · have hb2 : ¬ v > 65535 := by simpa using hb2
      rwa [show min (max v 0) 65535 = v by omega] at hR
theorem Over_spec {w : World} {v : Int} {R : Ending → World → Prop} (h0 : -33554432 ≤ v) (h1 : v ≤ 33554432) (hR : R (.returned (i64 (v / 256))) w) : Calls P F.ref08_Over #[i64 v, i64 256] w R := by
  refine calls_ref08_Over _ _ _ _ ?_
  refine ⟨by omega, by omega, ?_⟩
  have e1 : divZ .quo .i64 v 256 = v.tdiv 256 := by
    simp only [divZ]
    have h3 : v.tdiv 256 = if 0 ≤ v ∨ v % 256 = 0 then v / 256 else v / 256 + 1 := by
      rcases (by omega : v < 0 ∨ 0 ≤ v) with hn | hn
      · obtain ⟨m, rfl⟩ : ∃ m : Nat, v = -(m : Int) := ⟨(-v).toNat, by omega⟩
        rw [Int.neg_tdiv, Int.tdiv_eq_ediv_of_nonneg (by omega)]
        split <;> omega
      · rw [Int.tdiv_eq_ediv_of_nonneg hn, if_pos (.inl hn)]
    exact w64 (by rw [h3]; split <;> omega) (by rw [h3]; split <;> omega)
  have h3 : v.tdiv 256 = if 0 ≤ v ∨ v % 256 = 0 then v / 256 else v / 256 + 1 := by
    rcases (by omega : v < 0 ∨ 0 ≤ v) with hn | hn
    · obtain ⟨m, rfl⟩ : ∃ m : Nat, v = -(m : Int) := ⟨(-v).toNat, by omega⟩
      rw [Int.neg_tdiv, Int.tdiv_eq_ediv_of_nonneg (by omega)]
      split <;> omega
    · rw [Int.tdiv_eq_ediv_of_nonneg hn, if_pos (.inl hn)]
  have e2 : divZ .rem .i64 v 256 = v - 256 * v.tdiv 256 := by
    simp only [divZ]
    have := Int.tmod_add_mul_tdiv v 256
    omega
  rw [e1, e2]
  refine brB_i (fun hb => ?_) (fun hb => ?_)
  · have hb : v - 256 * v.tdiv 256 < 0 := by simpa using hb
    rw [w64 (by rw [h3]; split <;> omega) (by rw [h3]; split <;> omega)]
    rw [h3] at hb ⊢
    split at hb
    · omega
    · rename_i hc
      rw [if_neg hc, show v / 256 + 1 - 1 = v / 256 by omega]; exact hR
  · have hb : ¬ v - 256 * v.tdiv 256 < 0 := by simpa using hb
    rw [h3] at hb ⊢
    split at hb
    · rename_i hc
      rw [if_pos hc]; exact hR
    · omega
theorem func3_spec {w : World} {a s t : Int} {R : Ending → World → Prop} (ha : Sm a) (hs : Sm s) (ht : Sm t) (hR : R (.returned (u16 (ovI a s t))) w) : Calls P F.ref23_func3 #[i64 s, i64 t, i64 a] w R := by
  refine calls_ref23_func3 _ _ _ _ _ ?_
  have ha' : Sm (65535 - a) := by unfold Sm at *; omega
  have h1 := prod_range ht ha
  have h2 := prod_range hs ha'
  have hr := ov_range ha hs ht
  have ho := ov_sm ha hs ht
  unfold Sm at ha
  unfold ovI Sm at ho
  rw [vc_ref23_func3, w64 (x := t * a) (by omega) (by omega), w64 (x := 65535 - a) (by omega) (by omega), w64 (x := s * (65535 - a)) (by omega) (by omega), w64 (x := t * a + s * (65535 - a)) (by omega) (by omega), w64 (x := t * a + s * (65535 - a) + 32767) (by omega) (by omega), quoP (by omega) (by omega) (by omega), wu16 (by omega) (by omega)]
  exact hR
theorem laid_spec {w : World} {c d : Co} {R : Ending → World → Prop} (hc : CoOk c) (hd : CoOk d) (hR : ∀ w', Ext w w' → R (.returned (coV (overC c d))) w') : Calls P F.ref23_laid #[coV c, coV d] w R := by
  refine calls_ref23_laid _ _ _ _ _ _ _ _ _ _ ?_
  intro k1 hk1 k2 hk2 k3 hk3 w1 hL1
  have hb3 : ∀ b, b ∈ [k3, k2, k1] → w.heap.size ≤ b := by simp; omega
  have hE1 : Ext w w1 := hL1.ext hb3
  obtain ⟨c1, c2, c3, c4⟩ := hc
  obtain ⟨d1, d2, d3, d4⟩ := hd
  have wr : ∀ {x : Int}, Sm x → IntKind.i64.wrap x = x := fun h => by unfold Sm at h; exact w64 (by omega) (by omega)
  have hr := prod_range c4 (t := 65535 - d.2.2.2) (by unfold Sm at *; omega)
  rw [wr c1, wr c2, wr c3, wr c4, wr d1, wr d2, wr d3, wr d4]
  unfold overC at hR
  rw [clamp_id (ov_sm d4 c1 d1), clamp_id (ov_sm d4 c2 d2), clamp_id (ov_sm d4 c3 d3)] at hR
  refine func3_spec d4 c1 d1 ⟨_, rfl, (Ext.refl _).keep _, func3_spec d4 c2 d2 ⟨_, rfl, (Ext.refl _).keep _, Keeps.refl _, func3_spec d4 c3 d3 ⟨_, rfl, (Ext.refl _).keep _, Keeps.refl _, ?_⟩⟩⟩
  have d4' := d4; have c4' := c4
  unfold Sm at d4' c4'
  rw [w64 (x := 65535 - d.2.2.2) (by omega) (by omega), w64 (x := c.2.2.2 * (65535 - d.2.2.2)) (by omega) (by omega), w64 (x := c.2.2.2 * (65535 - d.2.2.2) + 32767) (by omega) (by omega), quoP (by omega) (by omega) (by omega), w64 (by omega) (by omega)]
  refine Clamp_spec ⟨_, rfl, (Ext.refl _).keep _, fun w6 hL6 => ?_⟩
  have := hR w6 (Locl.exW hE1.drew hL6 hb3)
  rw [wu16 (by have := clamp_sm (d.2.2.2 + (c.2.2.2 * (65535 - d.2.2.2) + 32767) / 65535); unfold Sm at this; omega) (by have := clamp_sm (d.2.2.2 + (c.2.2.2 * (65535 - d.2.2.2) + 32767) / 65535); unfold Sm at this; omega)]
  exact this
def argsOk (op : ByteArray) (args : List Int) : Prop := chkR op args = 0
theorem mix_args {op : ByteArray} {args : List Int} (h : argsOk op args) (hm : op = sMix) : args.length = 1 ∧ 0 ≤ args.getD 0 0 ∧ args.getD 0 0 ≤ 256 := by
  subst hm
  unfold argsOk chkR specOf at h
  rw [if_neg (by decide), if_pos rfl] at h
  simp only at h
  split at h
  · omega
  · rename_i hn
    split at h
    · rename_i ha
      rw [all_iff] at ha
      exact ⟨by omega, ha 0 (by omega)⟩
    · omega
theorem over_args {op : ByteArray} {args : List Int} (h : argsOk op args) (hm : op = sOver) : args.length = 2 ∧ (-4096 ≤ args.getD 0 0 ∧ args.getD 0 0 ≤ 4096) ∧ (-4096 ≤ args.getD 1 0 ∧ args.getD 1 0 ≤ 4096) := by
  subst hm
  unfold argsOk chkR specOf at h
  rw [if_pos rfl] at h
  simp only at h
  split at h
  · omega
  · rename_i hn
    split at h
    · rename_i ha
      rw [all_iff] at ha
      exact ⟨by omega, ha 0 (by omega), ha 1 (by omega)⟩
    · omega
def smpl (op : ByteArray) (args : List Int) (s t : Int) : Int := if op = sMix then mixI (args.getD 0 0) s t else clampI (rawF op s t)
theorem smpl_sm {op : ByteArray} {args : List Int} (h : argsOk op args) {s t : Int} (hs : Sm s) (ht : Sm t) : Sm (smpl op args s t) := by
  unfold smpl
  split
  · rename_i hm
    obtain ⟨h1, h2, h3⟩ := mix_args h hm
    exact mix_sm h2 h3 hs ht
  · exact clamp_sm _
theorem sample_spec {w : World} {op : ByteArray} {p : Option Addr} {len cap : Nat} {args : List Int} {s t : Int} {R : Ending → World → Prop} (h : Ints w p len args) (ha : argsOk op args) (hs : Sm s) (ht : Sm t)
    (hR : R (.returned (i64 (smpl op args s t))) w) : Calls P F.ref23_sample #[.string op, .slice p len cap, i64 s, i64 t] w R := by
  refine calls_ref23_sample _ _ _ _ _ _ _ _ ?_
  have hp := prod_range hs ht
  have hs' : Sm (65535 - s) := by unfold Sm at *; omega
  have ht' : Sm (65535 - t) := by unfold Sm at *; omega
  have hp' := prod_range hs' ht'
  have htm := times_range hs ht
  have htm' := times_range hs' ht'
  have hs1 := hs; have ht1 := ht
  unfold Sm at hs1 ht1
  unfold timesI Sm at htm htm'
  unfold smpl rawF at hR
  have nm : ∀ {s' : ByteArray}, op = s' → s' ≠ sMix → op ≠ sMix := fun e n => e ▸ n
  refine ⟨fun vs u => vs = [] ∧ w = u ∧ R (.returned (i64 s)) u, ?_, fun w4 hI => hI.2.2⟩
  refine brB_i (fun hb => ?_) (fun hb => ?_)
  · have hb : op = sPlus := by simpa using hb
    rw [if_neg (nm hb (by decide)), if_pos hb] at hR
    rw [w64 (x := s + t) (by omega) (by omega)]
    exact Clamp_spec ⟨_, rfl, hR⟩
  have n1 : op ≠ sPlus := by simpa using hb
  rw [if_neg n1] at hR
  refine brB_i (fun hb => ?_) (fun hb => ?_)
  · have hb : op = sMinus := by simpa using hb
    rw [if_neg (nm hb (by decide)), if_pos hb] at hR
    rw [w64 (x := s - t) (by omega) (by omega)]
    exact Clamp_spec ⟨_, rfl, hR⟩
  have n2 : op ≠ sMinus := by simpa using hb
  rw [if_neg n2] at hR
  refine brB_i (fun hb => ?_) (fun hb => ?_)
  · have hb : op = sTimes := by simpa using hb
    rw [if_neg (nm hb (by decide)), if_pos hb, clamp_id (times_range hs ht)] at hR
    rw [w64 (x := s * t) (by omega) (by omega), w64 (x := s * t + 32767) (by omega) (by omega), quoP (by omega) (by omega) (by omega)]
    exact hR
  have n3 : op ≠ sTimes := by simpa using hb
  rw [if_neg n3] at hR
  refine brB_i (fun hb => ?_) (fun hb => ?_)
  · have hb : op = sScreen := by simpa using hb
    rw [if_neg (nm hb (by decide)), if_pos hb, clamp_id (by unfold timesI Sm; omega)] at hR
    rw [w64 (x := 65535 - s) (by omega) (by omega), w64 (x := 65535 - t) (by omega) (by omega), w64 (x := (65535 - s) * (65535 - t)) (by omega) (by omega), w64 (x := (65535 - s) * (65535 - t) + 32767) (by omega) (by omega), quoP (by omega) (by omega) (by omega), w64 (by omega) (by omega)]
    exact hR
  have n4 : op ≠ sScreen := by simpa using hb
  rw [if_neg n4] at hR
  refine brB_i (fun hb => ?_) (fun hb => ?_)
  · have hb : op = sDiffer := by simpa using hb
    rw [if_neg (nm hb (by decide)), if_pos hb, clamp_id (by unfold Sm; omega)] at hR
    rw [w64 (x := s - t) (by omega) (by omega), w64 (x := t - s) (by omega) (by omega)]
    refine brB_i (fun hb2 => ?_) (fun hb2 => ?_)
    · have hb2 : s < t := by simpa using hb2
      rwa [show max (s - t) (t - s) = t - s by omega] at hR
    · have hb2 : ¬ s < t := by simpa using hb2
      rwa [show max (s - t) (t - s) = s - t by omega] at hR
  have n5 : op ≠ sDiffer := by simpa using hb
  rw [if_neg n5] at hR
  refine brB_i (fun hb => ?_) (fun hb => ?_)
  · have hb : op = sLighter := by simpa using hb
    rw [if_neg (nm hb (by decide)), if_pos hb, clamp_id (by unfold Sm; omega)] at hR
    refine brB_i (fun hb2 => ?_) (fun hb2 => ?_)
    · have hb2 : t > s := by simpa using hb2
      rwa [show max s t = t by omega] at hR
    · have hb2 : ¬ t > s := by simpa using hb2
      rw [show max s t = s by omega] at hR
      exact ⟨rfl, rfl, hR⟩
  have n6 : op ≠ sLighter := by simpa using hb
  rw [if_neg n6] at hR
  refine brB_i (fun hb => ?_) (fun hb => ?_)
  · have hb : op = sDarker := by simpa using hb
    rw [if_neg (nm hb (by decide)), if_pos hb, clamp_id (by unfold Sm; omega)] at hR
    refine brB_i (fun hb2 => ?_) (fun hb2 => ?_)
    · have hb2 : t < s := by simpa using hb2
      rwa [show min s t = t by omega] at hR
    · have hb2 : ¬ t < s := by simpa using hb2
      rw [show min s t = s by omega] at hR
      exact ⟨rfl, rfl, hR⟩
  have n7 : op ≠ sDarker := by simpa using hb
  rw [if_neg n7, clamp_id hs] at hR
  refine brB_i (fun hb => ?_) (fun hb => ?_)
  · have hb : op = sMix := by simpa using hb
    rw [if_pos hb] at hR
    obtain ⟨h1, h2, h3⟩ := mix_args ha hb
    have hmr := mix_range h2 h3 hs ht
    have hmm := mix_sm h2 h3 hs ht
    unfold mixI Sm at hmm
    unfold mixI at hR
    refine h.at_ (by omega) (by have := h.lth; omega) fun a1 ha1 => ⟨_, ha1, ?_⟩
    rw [show (0 : Int).toNat = 0 from rfl]
    have hb2 : -33554432 ≤ (t - s) * args.getD 0 0 ∧ (t - s) * args.getD 0 0 ≤ 33554432 := by
      rcases Int.le_total s t with hst | hst
      · have := hmr.1 hst; omega
      · have := hmr.2 hst; omega
    rw [w64 (x := t - s) (by omega) (by omega), w64 (x := (t - s) * args.getD 0 0) (by omega) (by omega)]
    refine Over_spec hb2.1 hb2.2 ⟨_, rfl, ?_⟩
    rw [w64 (by omega) (by omega)]; exact hR
  · have hb : op ≠ sMix := by simpa using hb
    rw [if_neg hb] at hR
    exact ⟨rfl, rfl, hR⟩
theorem refLuma_spec {w : World} {d : Co} {R : Ending → World → Prop} (hd : CoOk d) (hR : ∀ w', Ext w w' → R (.returned (u16 (lumaI d))) w') : Calls P F.ref08_Luma #[coV d] w R := by
  refine calls_ref08_Luma _ _ _ _ _ _ ?_
  intro k1 hk1 w1 hL1
  have hs := luma_sm hd
  obtain ⟨h1, h2, h3, h4⟩ := hd
  unfold lumaI at hs hR
  unfold Sm at hs h1 h2 h3
  rw [w64 (x := d.1) (by omega) (by omega), w64 (x := d.2.1) (by omega) (by omega), w64 (x := d.2.2.1) (by omega) (by omega), w64 (x := 19595 * d.1) (by omega) (by omega), w64 (x := 38470 * d.2.1) (by omega) (by omega), w64 (x := 7471 * d.2.2.1) (by omega) (by omega), w64 (x := 19595 * d.1 + 38470 * d.2.1) (by omega) (by omega), w64 (x := 19595 * d.1 + 38470 * d.2.1 + 7471 * d.2.2.1) (by omega) (by omega), w64 (x := 19595 * d.1 + 38470 * d.2.1 + 7471 * d.2.2.1 + 32768) (by omega) (by omega), quoP (by omega) (by omega) (by omega), wu16 (by omega) (by omega)]
  exact hR _ (hL1.ext (by simpa using hk1))
/-! ## a place of the outcome -/
def mapC (op : ByteArray) (args : List Int) (c d : Co) : Co :=
  (smpl op args c.1 d.1, smpl op args c.2.1 d.2.1, smpl op args c.2.2.1 d.2.2.1, if op = sMix then smpl op args c.2.2.2 d.2.2.2 else if op = sMask then c.2.2.2 * lumaI d / 65535 else c.2.2.2)
def pixR (op : ByteArray) (args : List Int) (W H : Int) (xs : List Int) (V G : Int) (ys : List Int) (x y : Int) : Co :=
  if op = sBeside then (if x ≥ W then colAt ys (y * V + (x - W)).toNat else colAt xs (y * W + x).toNat)
  else if op = sBelow then (if y ≥ H then colAt ys ((y - H) * V + x).toNat else colAt xs (y * W + x).toNat)
  else if op = sOver then (if isAt V G ys (x - args.getD 0 0) (y - args.getD 1 0) then overC (colAt xs (y * W + x).toNat) (atC V G ys (x - args.getD 0 0) (y - args.getD 1 0)) else colAt xs (y * W + x).toNat)
  else mapC op args (colAt xs (y * W + x).toNat) (colAt ys (y * V + x).toNat)
def SmL (xs : List Int) : Prop := ∀ x ∈ xs, Sm x
theorem SmL.getD {xs : List Int} (h : SmL xs) (i : Nat) : Sm (xs.getD i 0) := by
  by_cases hi : i < xs.length
  · rw [show xs.getD i 0 = xs[i] by simp [List.getD, List.getElem?_eq_getElem hi]]
    exact h _ (List.getElem_mem hi)
  · simp [List.getD, List.getElem?_eq_none (Nat.le_of_not_lt hi), Sm]
theorem SmL.col {xs : List Int} (h : SmL xs) (k : Nat) : CoOk (colAt xs k) := ⟨h.getD _, h.getD _, h.getD _, h.getD _⟩
theorem atC_ok {V G : Int} {ys : List Int} (h : SmL ys) (x y : Int) : CoOk (atC V G ys x y) := by
  unfold atC
  split
  · exact h.col _
  · simp [zeroC, CoOk, Sm]
set_option maxHeartbeats 4000000 in
theorem refPix_spec {w : World} {op : ByteArray} {pa p q : Option Addr} {la ca lp cp lq cq : Nat} {args xs ys : List Int} {W H V G x y : Int} {R : Ending → World → Prop} (ha : Ints w pa la args) (hok : argsOk op args)
    (hp : Img w p lp xs) (hq : Img w q lq ys) (hgp : good W H xs = true) (hgq : good V G ys = true) (hxs : SmL xs) (hys : SmL ys)
    (hin : 0 ≤ x ∧ 0 ≤ y ∧ (op = sBeside → x < W + V ∧ y < H ∧ y < G) ∧ (op = sBelow → x < W ∧ x < V ∧ y < H + G) ∧ (op ≠ sBeside → op ≠ sBelow → x < W ∧ y < H ∧ (op ≠ sOver → x < V ∧ y < G)))
    (hR : ∀ w', Ext w w' → R (.returned (coV (pixR op args W H xs V G ys x y))) w') :
    Calls P F.ref23_pixel #[.string op, .slice pa la ca, .agg #[i64 W, i64 H, .slice p lp cp], .agg #[i64 V, i64 G, .slice q lq cq], i64 x, i64 y] w R := by
  refine calls_ref23_pixel _ _ _ _ _ _ _ _ _ _ _ _ _ _ _ _ _ _ ?_
  unfold vc_ref23_pixel
  intro k1 hk1 k2 hk2 k3 hk3
  have hb3 : ∀ b, b ∈ [k3, k2, k1] → w.heap.size ≤ b := by simp; omega
  obtain ⟨g1, g2, g3, g4, g5⟩ := gfits_iff.1 (good_iff.1 hgp).1
  obtain ⟨f1, f2, f3, f4, f5⟩ := gfits_iff.1 (good_iff.1 hgq).1
  obtain ⟨i0, i1, i2, i3, i4⟩ := hin
  unfold pixR at hR
  refine brB_i (fun hb => ?_) (fun hb => ?_)
  · have hb : op = sBeside := by simpa using hb
    obtain ⟨j1, j2, j3⟩ := i2 hb
    rw [if_pos hb] at hR
    refine brB_i (fun hb2 => ?_) (fun hb2 => ?_)
    · have hb2 : x ≥ W := by simpa using hb2
      rw [if_pos hb2] at hR
      intro w1 hL1
      have hE1 := Locl.exW (Ext.refl w) hL1 hb3
      rw [w64 (x := x - W) (by omega) (by omega)]
      refine refPixel_spec (hq.ext hE1) hgq (by omega) i1 (by omega) j3 fun w2 hE2 => ⟨_, _, _, _, rfl, hE2.keep _, fun w3 hL3 => hR w3 (Locl.exW (hE1.trans hE2) hL3 hb3)⟩
    · have hb2 : ¬ x ≥ W := by simpa using hb2
      rw [if_neg hb2] at hR
      intro w1 hL1
      have hE1 := Locl.exW (Ext.refl w) hL1 hb3
      refine refPixel_spec (hp.ext hE1) hgp i0 i1 (by omega) j2 fun w2 hE2 => ⟨_, _, _, _, rfl, hE2.keep _, fun w3 hL3 => hR w3 (Locl.exW (hE1.trans hE2) hL3 hb3)⟩
  have n1 : op ≠ sBeside := by simpa using hb
  rw [if_neg n1] at hR
  refine brB_i (fun hb => ?_) (fun hb => ?_)
  · have hb : op = sBelow := by simpa using hb
    obtain ⟨j1, j2, j3⟩ := i3 hb
    rw [if_pos hb] at hR
    refine brB_i (fun hb2 => ?_) (fun hb2 => ?_)
    · have hb2 : y ≥ H := by simpa using hb2
      rw [if_pos hb2] at hR
      intro w1 hL1
      have hE1 := Locl.exW (Ext.refl w) hL1 hb3
      rw [w64 (x := y - H) (by omega) (by omega)]
      refine refPixel_spec (hq.ext hE1) hgq i0 (by omega) j2 (by omega) fun w2 hE2 => ⟨_, _, _, _, rfl, hE2.keep _, fun w3 hL3 => hR w3 (Locl.exW (hE1.trans hE2) hL3 hb3)⟩
    · have hb2 : ¬ y ≥ H := by simpa using hb2
      rw [if_neg hb2] at hR
      intro w1 hL1
      have hE1 := Locl.exW (Ext.refl w) hL1 hb3
      refine refPixel_spec (hp.ext hE1) hgp i0 i1 j1 (by omega) fun w2 hE2 => ⟨_, _, _, _, rfl, hE2.keep _, fun w3 hL3 => hR w3 (Locl.exW (hE1.trans hE2) hL3 hb3)⟩
  have n2 : op ≠ sBelow := by simpa using hb
  rw [if_neg n2] at hR
  obtain ⟨j1, j2, j3⟩ := i4 n1 n2
  intro w13 hL13
  have hE13 := Locl.exW (Ext.refl w) hL13 hb3
  refine refPixel_spec (hp.ext hE13) hgp i0 i1 j1 j2 fun w14 hE14 => ⟨_, _, _, _, rfl, hE14.keep _, fun k4 hk4 => ?_⟩
  have hEa := hE13.trans hE14
  have hsa := hEa.size
  have hc := hxs.col (y * W + x).toNat
  generalize colAt xs (y * W + x).toNat = c at *
  have hb4 : ∀ b, b ∈ [k4, k3, k2, k1] → w.heap.size ≤ b := by simp; omega
  refine brB_i (fun hb => ?_) (fun hb => ?_)
  · have hb : op = sOver := by simpa using hb
    rw [if_pos hb] at hR
    obtain ⟨a1, ⟨a2, a3⟩, a4, a5⟩ := over_args hok hb
    have hla := ha.lth
    refine ⟨fun vs u => match vs with | [.bool b, .pointer (some pk), .int .u16 n1, .int .u16 n2, .int .u16 n3, .int .u16 n4] => ∃ k, pk = ⟨k, 0, none⟩ ∧ b = isAt V G ys (x - args.getD 0 0) (y - args.getD 1 0) ∧ (n1, n2, n3, n4) = atC V G ys (x - args.getD 0 0) (y - args.getD 1 0) ∧ Ext w u ∧ w.heap.size ≤ k | _ => False, ?_, ?_⟩
    · obtain ⟨ad, e1, e2, e3⟩ := ha.sl 0 _ (i64s_get (by omega))
      refine ⟨by omega, by omega, ad, e1, fun w15 hL15 => ?_⟩
      have hE15 := Locl.exW hEa hL15 hb4
      rw [show (0 : Int).toNat * 1 = 0 from rfl]
      refine ⟨_, hE15.cell e3, (ha.ext hE15).at_ (by omega) (by omega) fun a2' h2' => ⟨_, h2', ?_⟩⟩
      rw [show (1 : Int).toNat = 1 from rfl, w64 (x := x - args.getD 0 0) (by omega) (by omega), w64 (x := y - args.getD 1 0) (by omega) (by omega)]
      have hs15 := hE15.size
      refine ⟨refAt_spec (hq.ext hE15) fun w16 hE16 => ⟨_, _, _, _, _, rfl, hE16.keep _, fun k5 hk5 w17 hL17 => ?_⟩, fun k6 hk6 w18 hL18 => ?_⟩
      · have hE16' := hE15.trans hE16
        have hs16 := hE16'.size
        exact ⟨k5, rfl, rfl, rfl, Locl.exW hE16' hL17 (by simp; omega), by omega⟩
      · have hE18 := Locl.exW hE15 hL18 (by simp; omega)
        refine refAt_spec (hq.ext hE18) fun w19 hE19 => ⟨_, _, _, _, _, rfl, hE19.keep _, fun w20 hL20 => ?_⟩
        exact ⟨k6, rfl, rfl, rfl, Locl.exW (hE18.trans hE19) hL20 (by simp; omega), by omega⟩
    intro c3 k7 m1 m2 m3 m4 w21 hI
    obtain ⟨k, ek, rfl, ec, hE21, hkk⟩ := hI
    cases ek
    have hb5 : ∀ b, b ∈ [k7, k4, k3, k2, k1] → w.heap.size ≤ b := by simp; omega
    refine brB_i (fun hb2 => ?_) (fun hb2 => ?_)
    · have hb2 : isAt V G ys (x - args.getD 0 0) (y - args.getD 1 0) = false := by simpa using hb2
      rw [hb2] at hR
      exact fun w22 hL22 => hR w22 (Locl.exW hE21 hL22 hb5)
    · have hb2 : isAt V G ys (x - args.getD 0 0) (y - args.getD 1 0) = true := by simpa using hb2
      rw [hb2, if_pos rfl] at hR
      have hd := atC_ok (V := V) (G := G) hys (x - args.getD 0 0) (y - args.getD 1 0)
      rw [← ec] at hR hd
      exact laid_spec (d := (m1, m2, m3, m4)) hc hd fun w23 hE23 => ⟨_, _, _, _, rfl, hE23.keep _, fun w24 hL24 => hR w24 (Locl.exW (hE21.trans hE23) hL24 hb5)⟩
  have n3 : op ≠ sOver := by simpa using hb
  rw [if_neg n3] at hR
  obtain ⟨j4, j5⟩ := j3 n3
  intro w25 hL25
  have hE25 := Locl.exW hEa hL25 hb4
  refine refPixel_spec (hq.ext hE25) hgq i0 i1 j4 j5 fun w26 hE26 => ⟨_, _, _, _, rfl, hE26.keep _, fun k8 hk8 => ?_⟩
  have hE26' := hE25.trans hE26
  have hs26 := hE26'.size
  have hd := hys.col (y * V + x).toNat
  generalize colAt ys (y * V + x).toNat = d at *
  have wr : ∀ {x : Int}, Sm x → IntKind.i64.wrap x = x := fun h => by unfold Sm at h; exact w64 (by omega) (by omega)
  have wq : ∀ {x : Int}, Sm x → IntKind.u16.wrap x = x := fun h => by unfold Sm at h; exact wu16 (by omega) (by omega)
  obtain ⟨c1, c2, c3, c4⟩ := hc
  obtain ⟨d1, d2, d3, d4⟩ := hd
  have s1 := smpl_sm hok c1 d1
  have s2 := smpl_sm hok c2 d2
  have s3 := smpl_sm hok c3 d3
  have s4 := smpl_sm hok c4 d4
  rw [wr c1, wr c2, wr c3, wr c4, wr d1, wr d2, wr d3, wr d4]
  have smp : ∀ {u : World} {s t : Int} {K : Ending → World → Prop}, Ext w u → Sm s → Sm t → K (.returned (i64 (smpl op args s t))) u → Calls P F.ref23_sample #[.string op, .slice pa la ca, i64 s, i64 t] u K := fun hE hs ht hK => sample_spec (ha.ext hE) hok hs ht hK
  refine ⟨fun vs u => match vs with | [.pointer (some pk), .int .u16 n1, .int .u16 n2, .int .u16 n3, .int .u16 n4] => ∃ k, pk = ⟨k, 0, none⟩ ∧ n1 = smpl op args c.1 d.1 ∧ n2 = smpl op args c.2.1 d.2.1 ∧ n3 = smpl op args c.2.2.1 d.2.2.1 ∧ n4 = c.2.2.2 ∧ Ext w u ∧ w.heap.size ≤ k | _ => False, ?_, ?_⟩
  · refine ⟨fun w27 hL27 => ?_, fun k12 hk12 w39 hL39 => ?_⟩
    · have hE27 := Locl.exW hE26' hL27 (by simp; omega)
      have hs27 := hE27.size
      refine smp hE27 c1 d1 ⟨_, rfl, (Ext.refl _).keep _, Keeps.refl _, smp hE27 c2 d2 ⟨_, rfl, (Ext.refl _).keep _, Keeps.refl _, smp hE27 c3 d3 ⟨_, rfl, (Ext.refl _).keep _, Keeps.refl _, fun k9 hk9 w31 hL31 => ?_⟩, fun k10 hk10 w32 hL32 => ?_⟩, fun k11 hk11 w35 hL35 => ?_⟩
      · exact ⟨k9, rfl, wq s1, wq s2, wq s3, rfl, Locl.exW hE27 hL31 (by simp; omega), by omega⟩
      · have hE32 := Locl.exW hE27 hL32 (by simp; omega)
        exact smp hE32 c3 d3 ⟨_, rfl, (Ext.refl _).keep _, Keeps.refl _, fun w34 hL34 => ⟨k10, rfl, wq s1, wq s2, wq s3, rfl, Locl.exW hE32 hL34 (by simp; omega), by omega⟩⟩
      · have hE35 := Locl.exW hE27 hL35 (by simp; omega)
        exact smp hE35 c2 d2 ⟨_, rfl, (Ext.refl _).keep _, Keeps.refl _, smp hE35 c3 d3 ⟨_, rfl, (Ext.refl _).keep _, Keeps.refl _, fun w38 hL38 => ⟨k11, rfl, wq s1, wq s2, wq s3, rfl, Locl.exW hE35 hL38 (by simp; omega), by omega⟩⟩⟩
    · have hE39 := Locl.exW hE26' hL39 (by simp; omega)
      exact smp hE39 c1 d1 ⟨_, rfl, (Ext.refl _).keep _, Keeps.refl _, smp hE39 c2 d2 ⟨_, rfl, (Ext.refl _).keep _, Keeps.refl _, smp hE39 c3 d3 ⟨_, rfl, (Ext.refl _).keep _, Keeps.refl _, fun w43 hL43 => ⟨k12, rfl, wq s1, wq s2, wq s3, rfl, Locl.exW hE39 hL43 (by simp; omega), by omega⟩⟩⟩⟩
  intro k13 m1 m2 m3 m4 w44 hI
  obtain ⟨k, ek, rfl, rfl, rfl, rfl, hE44, hkk⟩ := hI
  cases ek
  have hb6 : ∀ b, b ∈ [k13, k8, k4, k3, k2, k1] → w.heap.size ≤ b := by simp; omega
  refine ⟨fun vs u => match vs with | [.int .u16 n1, .int .u16 n2, .int .u16 n3, .int .u16 n4] => n1 = smpl op args c.1 d.1 ∧ n2 = smpl op args c.2.1 d.2.1 ∧ n3 = smpl op args c.2.2.1 d.2.2.1 ∧ n4 = (if op = sMix then smpl op args c.2.2.2 d.2.2.2 else c.2.2.2) ∧ Ext w u | _ => False, ?_, ?_⟩
  · refine brB_i (fun hb => ?_) (fun hb => ?_)
    · have hb : op = sMix := by simpa using hb
      exact smp hE44 c4 d4 ⟨_, rfl, (Ext.refl _).keep _, fun w46 hL46 => ⟨rfl, rfl, rfl, by rw [if_pos hb]; exact wq s4, Locl.exW hE44 hL46 hb6⟩⟩
    · have hb : op ≠ sMix := by simpa using hb
      exact ⟨rfl, rfl, rfl, by rw [if_neg hb], hE44⟩
  intro n57 n58 n59 n60 w47 hI
  obtain ⟨rfl, rfl, rfl, rfl, hE47⟩ := hI
  unfold mapC at hR
  refine brB_i (fun hb => ?_) (fun hb => ?_)
  · have hb : op = sMask := by simpa using hb
    have hnm : op ≠ sMix := by rw [hb]; decide
    rw [if_neg hnm, if_pos hb] at hR
    have hlu := luma_sm ⟨d1, d2, d3, d4⟩
    have hpr := prod_range c4 hlu
    refine refLuma_spec ⟨d1, d2, d3, d4⟩ fun w48 hE48 => ⟨_, rfl, hE48.keep _, hE48.keeps, fun w49 hL49 => ?_⟩
    rw [wr hlu, w64 (x := c.2.2.2 * lumaI d) (by omega) (by omega), quoP (by omega) (by omega) (by omega), wu16 (by omega) (by omega)]
    exact hR w49 (Locl.exW (hE47.drew.trans hE48) hL49 hb6)
  · have hb : op ≠ sMask := by simpa using hb
    intro w50 hL50
    have := hR w50 (Locl.exW hE47 hL50 hb6)
    simpa only [if_neg hb] using this
end Go.Proofs.Ytombfebgojeliaa
