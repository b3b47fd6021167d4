/- Blend: what becomes of two samples, of two colours: the program. -/
import Derived.Test.YtombfebgojeliaaBL2
namespace Go.Proofs.Ytombfebgojeliaa
open Go Go.Vc Go.RowKit
set_option maxRecDepth 100000
set_option linter.unusedVariables false
set_option linter.unusedSimpArgs false

def Sm (s : Int) : Prop := 0 ≤ s ∧ s ≤ 65535
def clampI (v : Int) : Int := min (max v 0) 65535
def timesI (s t : Int) : Int := (s * t + 32767) / 65535
def mixI (a s t : Int) : Int := s + (t - s) * a / 256
def ovI (a s t : Int) : Int := (t * a + s * (65535 - a) + 32767) / 65535
def rawF (op : ByteArray) (s t : Int) : Int :=
  if op = sPlus then s + t else if op = sMinus then s - t else if op = sTimes then timesI s t else if op = sScreen then 65535 - timesI (65535 - s) (65535 - t)
  else if op = sDiffer then max (s - t) (t - s) else if op = sLighter then max s t else if op = sDarker then min s t else s
theorem prod_range {s t : Int} (hs : Sm s) (ht : Sm t) : 0 ≤ s * t ∧ s * t ≤ 4294836225 := by
  obtain ⟨s0, s1⟩ := hs
  obtain ⟨t0, t1⟩ := ht
  refine ⟨Int.mul_nonneg s0 t0, ?_⟩
  have := Int.mul_le_mul s1 t1 t0 (by omega)
  omega
theorem times_range {s t : Int} (hs : Sm s) (ht : Sm t) : Sm (timesI s t) := by
  have := prod_range hs ht
  unfold timesI Sm; omega
theorem clamp_spec {w : World} {v : Int} {R : Ending → World → Prop} (hR : R (.returned (u16 (clampI v))) w) : Calls P F.blend_clamp #[i64 v] w R := by
  refine calls_blend_clamp _ _ _ ?_
  rw [vc_blend_clamp, wu16 (by omega) (by omega)]; exact hR
theorem clamp_sm (v : Int) : Sm (clampI v) := by unfold clampI Sm; omega
theorem clamp_id {v : Int} (h : Sm v) : clampI v = v := by unfold clampI; unfold Sm at h; omega
theorem quoP {a b : Int} (h0 : 0 ≤ a) (h1 : a ≤ 2 ^ 60) (hb : 1 ≤ b) : divZ .quo .i64 a b = a / b := by
  simp only [divZ]
  rw [Int.tdiv_eq_ediv_of_nonneg h0]
  have h2 : 0 ≤ a / b := Int.ediv_nonneg h0 (by omega)
  have h3 : a / b ≤ a := Int.ediv_le_self _ h0
  exact w64 (by omega) (by omega)
/-- a value that is a function of two samples -/
def FnIs (w : World) (fv : Value) (g : Int → Int → Int) : Prop := ∃ (y : Nat) (a b : Array Value), fv = .func (.func y) a b ∧ ∀ u, Ext w u → ∀ s t, Sm s → Sm t → ∀ K : Ending → World → Prop, (∀ u', Ext u u' → K (.returned (i64 (g s t))) u') → callV P fv [.agg #[i64 s, i64 t]] u K
theorem FnIs.ext {w w' : World} {fv : Value} {g : Int → Int → Int} (h : FnIs w fv g) (hE : Ext w w') : FnIs w' fv g := by
  obtain ⟨y, a, b, e, hk⟩ := h
  exact ⟨y, a, b, e, fun u hu => hk u (hE.trans hu)⟩
theorem times_spec {w : World} {s t : Int} {K : Ending → World → Prop} (hs : Sm s) (ht : Sm t) (hK : ∀ u', Ext w u' → K (.returned (i64 (timesI s t))) u') : Calls P F.blend_pair_times #[.agg #[i64 s, i64 t]] w K := by
  refine calls_blend_pair_times _ _ _ _ ?_
  intro k1 hk1 w1 hL
  have := prod_range hs ht
  rw [w64 (x := s * t) (by omega) (by omega), w64 (x := s * t + 32767) (by omega) (by omega), quoP (by omega) (by omega) (by omega)]
  exact hK w1 (hL.ext (by simpa using hk1))
theorem fid_is {w : World} {op : ByteArray} {n : Nat} (h : fidOf op = some n) : FnIs w (fnV n) (rawF op) := by
  have go : ∀ (m : Nat) (g : Int → Int → Int), FnOk P m = true → (∀ u s t, Sm s → Sm t → ∀ K : Ending → World → Prop, (∀ u', Ext u u' → K (.returned (i64 (g s t))) u') → Calls P m #[.agg #[i64 s, i64 t]] u K) → FnIs w (fnV m) g :=
    fun m g hok hc => ⟨m, #[], #[], rfl, fun u _ s t hs ht K hK => callV_i hok (hc u s t hs ht K hK)⟩
  have lc : ∀ {u u' : World} {k : Nat}, u.heap.size ≤ k → Locl [k] u u' → Ext u u' := fun hk hL => hL.ext (by simpa using hk)
  unfold fidOf at h
  unfold rawF
  split at h
  · rename_i e
    cases h
    simp only [if_pos e]
    refine go _ _ (by kernel_rfl) fun u s t hs ht K hK => calls_blend_pair_plus _ _ _ _ fun k hk u1 hL => ?_
    unfold Sm at hs ht
    rw [w64 (by omega) (by omega)]; exact hK u1 (lc hk hL)
  rename_i n1
  simp only [if_neg n1]
  split at h
  · rename_i e
    cases h
    simp only [if_pos e]
    refine go _ _ (by kernel_rfl) fun u s t hs ht K hK => calls_blend_pair_minus _ _ _ _ fun k hk u1 hL => ?_
    unfold Sm at hs ht
    rw [w64 (by omega) (by omega)]; exact hK u1 (lc hk hL)
  rename_i n2
  simp only [if_neg n2]
  split at h
  · rename_i e
    cases h
    simp only [if_pos e]
    exact go _ _ (by kernel_rfl) fun u s t hs ht K hK => times_spec hs ht hK
  rename_i n3
  simp only [if_neg n3]
  split at h
  · rename_i e
    cases h
    simp only [if_pos e]
    refine go _ _ (by kernel_rfl) fun u s t hs ht K hK => calls_blend_pair_screen _ _ _ _ fun k hk u1 hL => ?_
    have hs' : Sm (65535 - s) := by unfold Sm at *; omega
    have ht' : Sm (65535 - t) := by unfold Sm at *; omega
    have hr := times_range hs' ht'
    unfold Sm at hs ht
    rw [w64 (x := 65535 - s) (by omega) (by omega), w64 (x := 65535 - t) (by omega) (by omega)]
    refine times_spec hs' ht' fun u2 hE2 => ⟨_, rfl, hE2.keep _, ?_⟩
    unfold Sm at hr
    rw [w64 (by omega) (by omega)]; exact hK u2 ((lc hk hL).trans hE2)
  rename_i n4
  simp only [if_neg n4]
  split at h
  · rename_i e
    cases h
    simp only [if_pos e]
    refine go _ _ (by kernel_rfl) fun u s t hs ht K hK => calls_blend_pair_differ _ _ _ _ fun k hk u1 hL => ?_
    unfold Sm at hs ht
    rw [w64 (x := s - t) (by omega) (by omega), w64 (x := t - s) (by omega) (by omega)]; exact hK u1 (lc hk hL)
  rename_i n5
  simp only [if_neg n5]
  split at h
  · rename_i e
    cases h
    simp only [if_pos e]
    exact go _ _ (by kernel_rfl) fun u s t hs ht K hK => calls_blend_pair_lighter _ _ _ _ fun k hk u1 hL => hK u1 (lc hk hL)
  rename_i n6
  simp only [if_neg n6]
  split at h
  · rename_i e
    cases h
    simp only [if_pos e]
    exact go _ _ (by kernel_rfl) fun u s t hs ht K hK => calls_blend_pair_darker _ _ _ _ fun k hk u1 hL => hK u1 (lc hk hL)
  rename_i n7
  simp only [if_neg n7]
  split at h
  · cases h
    exact go _ _ (by kernel_rfl) fun u s t hs ht K hK => calls_blend_pair_first _ _ _ _ fun k hk u1 hL => hK u1 (lc hk hL)
  · cases h
theorem three1_spec {w : World} {fv : Value} {g : Int → Int → Int} {k : Nat} {s t : Int} {R : Ending → World → Prop} (h : FnIs w fv g) (hc : Cs w k [fv]) (hs : Sm s) (ht : Sm t)
    (hR : ∀ w', Ext w w' → R (.returned (u16 (clampI (g s t)))) w') : Calls P F.blend_three_fn1 #[u16 s, u16 t, .pointer (some ⟨k, 0, none⟩)] w R := by
  refine calls_blend_three_fn1 _ _ _ _ _ ?_
  obtain ⟨y, a, b, rfl, hk⟩ := h
  refine ⟨y, a, b, hc.cell rfl, ?_⟩
  have h1 := hs; have h2 := ht
  unfold Sm at h1 h2
  rw [w64 (x := s) (by omega) (by omega), w64 (x := t) (by omega) (by omega)]
  exact hk w (Ext.refl w) s t hs ht _ fun u' hE => ⟨_, rfl, clamp_spec ⟨_, rfl, hR u' hE⟩⟩
def CoOk (c : Co) : Prop := Sm c.1 ∧ Sm c.2.1 ∧ Sm c.2.2.1 ∧ Sm c.2.2.2
abbrev coV (c : Co) : Value := .agg #[u16 c.1, u16 c.2.1, u16 c.2.2.1, u16 c.2.2.2]
def threeC (g : Int → Int → Int) (c d : Co) : Co := (clampI (g c.1 d.1), clampI (g c.2.1 d.2.1), clampI (g c.2.2.1 d.2.2.1), c.2.2.2)
theorem three_spec {w : World} {fv : Value} {g : Int → Int → Int} {c d : Co} {R : Ending → World → Prop} (h : FnIs w fv g) (hc : CoOk c) (hd : CoOk d)
    (hR : ∀ w', Ext w w' → R (.returned (coV (threeC g c d))) w') : Calls P F.blend_three #[coV c, coV d, fv] w R := by
  obtain ⟨y, a, b, rfl, hk⟩ := h
  have h : FnIs w (.func (.func y) a b) g := ⟨y, a, b, rfl, hk⟩
  refine calls_blend_three _ _ _ _ _ _ _ _ _ _ _ _ _ ?_
  intro k1 hk1 k2 hk2 w1 hL1 k3 w2 hn k4 hk4 w3 hL3
  have hE1 : Ext w w1 := hL1.ext (by simp; omega)
  have hE2 := hE1.trans hn.ext
  have t1 := hL1.there k1 (by simp)
  have t2 := hL1.there k2 (by simp)
  have hk3 := hn.1
  have hs1 := hE1.size
  have hs2 := hn.ext.size
  have hs3 := hn.size
  have hE3 : Ext w w3 := hE2.step hL3.chg (by simp; omega)
  have c3 : Cs w3 k3 [.func (.func y) a b] := hn.cs.locl hL3 (by simp; omega)
  refine three1_spec (h.ext hE3) c3 hc.1 hd.1 fun w4 hE4 => ⟨_, rfl, hE4.keep _, hE4.keeps, ?_⟩
  refine three1_spec ((h.ext hE3).ext hE4) (c3.ext hE4) hc.2.1 hd.2.1 fun w5 hE5 => ⟨_, rfl, hE5.keep _, hE5.keeps, ?_⟩
  refine three1_spec (((h.ext hE3).ext hE4).ext hE5) ((c3.ext hE4).ext hE5) hc.2.2.1 hd.2.2.1 fun w6 hE6 => ⟨_, rfl, hE6.keep _, hE6.keeps, fun w7 hL7 => ?_⟩
  refine hR w7 ((((hE3.trans hE4).trans hE5).trans hE6).step hL7.chg fun i hi => ?_)
  simp at hi; omega
theorem ov_range {a s t : Int} (ha : Sm a) (hs : Sm s) (ht : Sm t) : 0 ≤ t * a + s * (65535 - a) ∧ t * a + s * (65535 - a) ≤ 4294836225 := by
  have ha' : Sm (65535 - a) := by unfold Sm at *; omega
  have h1 := prod_range ht ha
  have h2 := prod_range hs ha'
  obtain ⟨s0, s1⟩ := hs
  obtain ⟨t0, t1⟩ := ht
  obtain ⟨a0, a1⟩ := ha
  have h3 : t * a ≤ 65535 * a := Int.mul_le_mul_of_nonneg_right t1 a0
  have h4 : s * (65535 - a) ≤ 65535 * (65535 - a) := Int.mul_le_mul_of_nonneg_right s1 (by omega)
  omega
theorem ov_sm {a s t : Int} (ha : Sm a) (hs : Sm s) (ht : Sm t) : Sm (ovI a s t) := by
  have := ov_range ha hs ht
  unfold ovI Sm; omega
def overC (c d : Co) : Co := (clampI (ovI d.2.2.2 c.1 d.1), clampI (ovI d.2.2.2 c.2.1 d.2.1), clampI (ovI d.2.2.2 c.2.2.1 d.2.2.1), clampI (d.2.2.2 + (c.2.2.2 * (65535 - d.2.2.2) + 32767) / 65535))
theorem over1_is {w : World} {k : Nat} {a : Int} (ha : Sm a) (hc : Cs w k [i64 a]) : FnIs w (.func (.func F.blend_over_fn1) #[] #[.pointer (some ⟨k, 0, none⟩)]) (ovI a) := by
  refine ⟨_, _, _, rfl, fun u hE s t hs ht K hK => callW_i (by kernel_rfl) ?_⟩
  refine calls_blend_over_fn1 _ _ _ _ _ fun k1 hk1 u1 hL => ?_
  have hE1 : Ext u u1 := hL.ext (by simpa using hk1)
  have hc1 := (hc.ext hE).ext hE1
  refine ⟨_, hc1.cell rfl, _, hc1.cell rfl, ?_⟩
  have ha' : Sm (65535 - a) := by unfold Sm at *; omega
  have h1 := prod_range ht ha
  have h2 := prod_range hs ha'
  have hr := ov_range ha hs ht
  unfold Sm at ha
  rw [w64 (x := t * a) (by omega) (by omega), w64 (x := 65535 - a) (by omega) (by omega), w64 (x := s * (65535 - a)) (by omega) (by omega), w64 (x := t * a + s * (65535 - a)) (by omega) (by omega), w64 (x := t * a + s * (65535 - a) + 32767) (by omega) (by omega), quoP (by omega) (by omega) (by omega)]
  exact hK u1 hE1
theorem over_spec {w : World} {c d : Co} {R : Ending → World → Prop} (hc : CoOk c) (hd : CoOk d) (hR : ∀ w', Ext w w' → R (.returned (coV (overC c d))) w') : Calls P F.blend_over #[coV c, coV d] w R := by
  refine calls_blend_over _ _ _ _ _ _ _ _ _ _ ?_
  intro k1 hk1 k2 hk2 k3 hk3 w1 hL1 k4 w2 hn
  have hE1 : Ext w w1 := hL1.ext (by simp; omega)
  have t1 := hL1.there k1 (by simp)
  have t2 := hL1.there k2 (by simp)
  have t3 := hL1.there k3 (by simp)
  have hk4 := hn.1
  have hs1 := hE1.size
  have hs2 := hn.ext.size
  have hs3 := hn.size
  have hE2 := hE1.trans hn.ext
  have hd4 := hd.2.2.2
  have hc4 := hc.2.2.2
  have hd4' := hd4; have hc4' := hc4
  unfold Sm at hd4' hc4'
  rw [w64 (x := d.2.2.2) (by omega) (by omega)]
  have hset := hn.cs.set1 (off := 0) (v := i64 d.2.2.2) (by simp)
  have hset : Cs (setCells w2 ⟨k4, 0, none⟩ [i64 d.2.2.2] 0) k4 [i64 d.2.2.2] := by simpa using hset
  have hC := Chg.setCells w2 ⟨k4, 0, none⟩ [i64 d.2.2.2] 0
  have hE3 : Ext w (setCells w2 ⟨k4, 0, none⟩ [i64 d.2.2.2] 0) := hE2.step hC fun i hi => by have hi : i = k4 := hi; omega
  have hsz3 : (setCells w2 ⟨k4, 0, none⟩ [i64 d.2.2.2] 0).heap.size = w2.heap.size := (setCells_same _ _ _ _).size
  refine ⟨⟨_, hn.cs.cell (i := 0) rfl⟩, hn.cs.frozen 0, by simp; omega, ?_⟩
  refine three_spec (over1_is hd4 hset) hc hd fun w3 hE3' => ⟨_, _, _, _, rfl, hE3'.keep _, fun k5 hk5 w4 hL4 => ?_⟩
  have hs3' : w2.heap.size ≤ w3.heap.size := Nat.le_trans (Nat.le_of_eq hsz3.symm) hE3'.size
  have hs3'' := hs3'
  have c4 : Cs w4 k4 [i64 d.2.2.2] := (hset.ext hE3').locl hL4 (by simp; omega)
  have hE4 : Ext w w4 := (hE3.trans hE3').step hL4.chg (by simp; omega)
  have hk4lt := hL4.size
  have hr := prod_range hc4 (t := 65535 - d.2.2.2) (by unfold Sm; omega)
  refine ⟨_, c4.cell rfl, _, c4.cell rfl, ?_⟩
  show Calls P F.blend_clamp #[i64 (IntKind.i64.wrap (d.2.2.2 + divZ .quo .i64 (IntKind.i64.wrap (IntKind.i64.wrap (IntKind.i64.wrap c.2.2.2 * IntKind.i64.wrap (65535 - d.2.2.2)) + 32767)) 65535))] w4 _
  rw [w64 (x := 65535 - d.2.2.2) (by omega) (by omega), w64 (x := c.2.2.2) (by omega) (by omega), w64 (x := c.2.2.2 * (65535 - d.2.2.2)) (by omega) (by omega), w64 (x := c.2.2.2 * (65535 - d.2.2.2) + 32767) (by omega) (by omega), quoP (by omega) (by omega) (by omega), w64 (by omega) (by omega)]
  refine clamp_spec ⟨_, rfl, (Ext.refl _).keep _, fun w6 hL6 => hR w6 (hE4.step hL6.chg (by simp; omega))⟩
theorem mix_range {a s t : Int} (a0 : 0 ≤ a) (a1 : a ≤ 256) (hs : Sm s) (ht : Sm t) : (s ≤ t → 0 ≤ (t - s) * a ∧ (t - s) * a ≤ (t - s) * 256) ∧ (t ≤ s → (t - s) * 256 ≤ (t - s) * a ∧ (t - s) * a ≤ 0) := by
  constructor
  · intro h
    exact ⟨Int.mul_nonneg (by omega) a0, Int.mul_le_mul_of_nonneg_left a1 (by omega)⟩
  · intro h
    have h1 := Int.mul_nonneg (show 0 ≤ s - t by omega) a0
    have h2 := Int.mul_le_mul_of_nonneg_left a1 (show 0 ≤ s - t by omega)
    have e : (t - s) * a = -((s - t) * a) := by rw [← Int.neg_mul]; congr 1; omega
    rw [e]; omega
theorem mix_sm {a s t : Int} (a0 : 0 ≤ a) (a1 : a ≤ 256) (hs : Sm s) (ht : Sm t) : Sm (mixI a s t) := by
  have h := mix_range a0 a1 hs ht
  unfold mixI Sm at *
  rcases Int.le_total s t with hst | hst
  · have := h.1 hst; omega
  · have := h.2 hst; omega
theorem mix_spec {w : World} {a : Int} {R : Ending → World → Prop} (a0 : 0 ≤ a) (a1 : a ≤ 256) (hR : ∀ y q, ∀ b w', Ext w w' → FnIs w' (.func (.func y) q b) (mixI a) → R (.returned (.func (.func y) q b)) w') : Calls P F.blend_mix #[i64 a] w R := by
  refine calls_blend_mix _ _ _ ?_
  intro k w1 hn
  refine hR _ _ _ w1 hn.ext ⟨_, _, _, rfl, fun u hE s t hs ht K hK => callW_i (by kernel_rfl) ?_⟩
  refine calls_blend_mix_fn1 _ _ _ _ _ fun k1 hk1 u1 hL => ?_
  have hE1 : Ext u u1 := hL.ext (by simpa using hk1)
  have hc := (hn.cs.ext hE).ext hE1
  refine ⟨_, hc.cell rfl, ?_⟩
  have h := mix_range a0 a1 hs ht
  have hmm := mix_sm a0 a1 hs ht
  unfold mixI at hmm
  have hb : -33554432 ≤ (t - s) * a ∧ (t - s) * a ≤ 33554432 := by
    unfold Sm at hs ht
    rcases Int.le_total s t with hst | hst
    · have := h.1 hst; omega
    · have := h.2 hst; omega
  unfold Sm at hs ht hmm
  rw [w64 (x := t - s) (by omega) (by omega), w64 (x := (t - s) * a) (by omega) (by omega)]
  have e : shiftZ .shr .i64 ((t - s) * a) 8 = (t - s) * a / 256 := by
    simp only [shiftZ]
    rw [Int.fdiv_eq_ediv_of_nonneg _ (by decide)]; rfl
  rw [e, w64 (by omega) (by omega)]
  exact hK u1 hE1
def lumaI (d : Co) : Int := (19595 * d.1 + 38470 * d.2.1 + 7471 * d.2.2.1 + 32768) / 65536
theorem luma_sm {d : Co} (hd : CoOk d) : Sm (lumaI d) := by
  obtain ⟨h1, h2, h3, h4⟩ := hd
  unfold lumaI Sm at *; omega
theorem Luma_spec {w : World} {d : Co} {R : Ending → World → Prop} (hd : CoOk d) (hR : ∀ w', Ext w w' → R (.returned (u16 (lumaI d))) w') : Calls P F.tones_Luma #[coV d] w R := by
  refine calls_tones_Luma _ _ _ _ _ _ ?_
  intro k1 hk1 w1 hL1 k2 w2 hn
  have hE1 : Ext w w1 := hL1.ext (by simpa using hk1)
  have t1 := hL1.there k1 (by simp)
  have hk2 := hn.1
  have hs1 := hE1.size
  have hs := luma_sm hd
  have hset := hn.cs.set (off := 0) (us := [i64 19595, i64 38470, i64 7471]) (by simp)
  have hset : Cs (setCells w2 ⟨k2, 0, none⟩ [i64 19595, i64 38470, i64 7471] 0) k2 [i64 19595, i64 38470, i64 7471] := by simpa using hset
  have hC := Chg.setCells w2 ⟨k2, 0, none⟩ [i64 19595, i64 38470, i64 7471] 0
  obtain ⟨h1, h2, h3, h4⟩ := hd
  refine ⟨⟨_, hn.cs.cell (i := 0) rfl⟩, hn.cs.frozen 0, ⟨_, hn.cs.cell (i := 1) rfl⟩, hn.cs.frozen 1, ⟨_, hn.cs.cell (i := 2) rfl⟩, hn.cs.frozen 2, by simp; omega, by omega, by omega, _, hset.cell (i := 0) rfl, by omega, by omega, _, hset.cell (i := 1) rfl, by omega, by omega, _, hset.cell (i := 2) rfl, ?_⟩
  unfold lumaI at hs hR
  unfold Sm at hs h1 h2 h3
  rw [w64 (x := d.1) (by omega) (by omega), w64 (x := d.2.1) (by omega) (by omega), w64 (x := d.2.2.1) (by omega) (by omega), w64 (x := 19595 * d.1) (by omega) (by omega), w64 (x := 38470 * d.2.1) (by omega) (by omega), w64 (x := 7471 * d.2.2.1) (by omega) (by omega), w64 (x := 19595 * d.1 + 38470 * d.2.1) (by omega) (by omega), w64 (x := 19595 * d.1 + 38470 * d.2.1 + 7471 * d.2.2.1) (by omega) (by omega), w64 (x := 19595 * d.1 + 38470 * d.2.1 + 7471 * d.2.2.1 + 32768) (by omega) (by omega)]
  have e : shiftZ .shr .i64 (19595 * d.1 + 38470 * d.2.1 + 7471 * d.2.2.1 + 32768) 16 = (19595 * d.1 + 38470 * d.2.1 + 7471 * d.2.2.1 + 32768) / 65536 := by
    simp only [shiftZ]
    rw [Int.fdiv_eq_ediv_of_nonneg _ (by decide)]; rfl
  rw [e, wu16 (by omega) (by omega)]
  exact hR _ ((hE1.trans hn.ext).step hC fun i hi => by have hi : i = k2 := hi; omega)
end Go.Proofs.Ytombfebgojeliaa
