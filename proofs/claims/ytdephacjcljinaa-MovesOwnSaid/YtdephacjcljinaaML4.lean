/- Moves: the outcome's size; where a pixel comes from. -/
import Derived.Test.YtdephacjcljinaaML3
namespace Go.Proofs.Ytdephacjcljinaa
open Go Go.Vc Go.RowKit
set_option maxRecDepth 100000
set_option linter.unusedVariables false
set_option linter.unusedSimpArgs false

theorem mfits_spec {x y : Int} {w : World} {R : Ending → World → Prop} (hR : R (.returned (.bool (gfits x y))) w) : Calls P F.moves_fits #[i64 x, i64 y] w R := by
  refine calls_moves_fits _ _ _ _ ?_
  unfold vc_moves_fits
  rw [fitsB]; exact hR
def cropOk (a : List Int) (W H : Int) : Prop := a.getD 0 0 + a.getD 2 0 ≤ W ∧ a.getD 1 0 + a.getD 3 0 ≤ H
instance (a : List Int) (W H : Int) : Decidable (cropOk a W H) := by unfold cropOk; exact inferInstance
def sizeR (op : ByteArray) (args : List Int) (W H : Int) : Int × Int × Int :=
  if chkR op args ≠ 0 then (0, 0, chkR op args) else if gfits W H = false then (0, 0, 4) else if op = sCrop ∧ ¬ cropOk args W H then (0, 0, 190) else
  if gfits (whF op args W H).1 (whF op args W H).2 = false then (0, 0, 11) else ((whF op args W H).1, (whF op args W H).2, 0)
abbrev tri3 (t : Int × Int × Int) : Value := .tuple #[i64 t.1, i64 t.2.1, i64 t.2.2]
theorem one_row' {s : ByteArray} {p : Option Addr} {n m : Nat} {v1 v2 : Value} (o1 : Value.oneCell' v1 = true) (o2 : Value.oneCell' v2 = true) : (oneAll [.string s, .slice p n m, v1, v2] && true) = true := by
  simp only [oneAll, List.all_cons, List.all_nil, o1, o2, Bool.and_true]; rfl
theorem Size_spec {w : World} {op : ByteArray} {p : Option Addr} {len cap : Nat} {args : List Int} {W H : Int} {R : Ending → World → Prop} (h : Ints w p len args)
    (hR : ∀ w', Ext w w' → R (.returned (tri3 (sizeR op args W H))) w') : Calls P F.moves_Size #[.string op, .slice p len cap, i64 W, i64 H] w R := by
  refine calls_moves_Size _ _ _ _ _ _ _ _ ?_
  have hl := h.lth
  refine find_spec h fun s q n m v1 v2 w1 hE1 o1 o2 hv => ⟨_, _, _, _, _, _, _, rfl, fun k3 hk3 => brB_t (one_row' o1 o2) ?_⟩
  have hb3 : ∀ b, b ∈ [k3] → w.heap.size ≤ b := by have := hE1.size; simp; omega
  refine brB_i (fun hb w2 hL2 => ?_) (fun hb w3 hL3 => ?_)
  · have hb : chkR op args ≠ 0 := by simpa using hb
    have := hR w2 (hE1.step hL2.chg hb3)
    unfold sizeR at this
    rwa [if_pos hb] at this
  have hb : chkR op args = 0 := by simpa using hb
  obtain ⟨rfl, rfl⟩ := hv hb
  have hE3 := hE1.step hL3.chg hb3
  unfold sizeR at hR
  rw [if_neg (by omega)] at hR
  refine mfits_spec ⟨_, rfl, (Ext.refl _).keep _, brB_i (fun hf => ?_) (fun hf => ?_)⟩
  · have hf : gfits W H = false := by simpa using hf
    rw [if_pos hf] at hR
    exact hR w3 hE3
  have hf : gfits W H = true := by simpa using hf
  rw [if_neg (by simp [hf])] at hR
  obtain ⟨g1, g2, g3, g4, g5⟩ := gfits_iff.1 hf
  refine ⟨fun vs u => vs = [] ∧ Ext w u ∧ ¬ (op = sCrop ∧ ¬ cropOk args W H), ?_, fun w5 hI => ?_⟩
  · have h3 := h.ext hE3
    refine eB (fun e => ?_) fun n1 => ⟨rfl, hE3.drew, fun hh => n1 hh.1⟩
    have hb' := hb
    rw [e] at hb'
    obtain ⟨l4, q0, q1, q2, q3⟩ := crop_args hb'
    refine Ints.lit 0 rfl h3 (by omega) fun a ha => ⟨_, ha, Ints.lit 2 rfl h3 (by omega) fun b hbb => ⟨_, hbb, ?_⟩⟩
    rw [w64 (x := args.getD 0 0 + args.getD 2 0) (by omega) (by omega)]
    refine brB_i (fun hc => ?_) (fun hc => ?_)
    · have hc : args.getD 0 0 + args.getD 2 0 > W := by simpa using hc
      rw [if_pos ⟨e, fun hk => by have := hk.1; omega⟩] at hR
      exact hR _ hE3.drew
    have hc : ¬ args.getD 0 0 + args.getD 2 0 > W := by simpa using hc
    refine Ints.lit 1 rfl h3 (by omega) fun a ha => ⟨_, ha, Ints.lit 3 rfl h3 (by omega) fun b hbb => ⟨_, hbb, ?_⟩⟩
    rw [w64 (x := args.getD 1 0 + args.getD 3 0) (by omega) (by omega)]
    refine brB_i (fun hc2 => ?_) (fun hc2 => ?_)
    · have hc2 : args.getD 1 0 + args.getD 3 0 > H := by simpa using hc2
      rw [if_pos ⟨e, fun hk => by have := hk.2; omega⟩] at hR
      exact hR _ hE3.drew
    have hc2 : ¬ args.getD 1 0 + args.getD 3 0 > H := by simpa using hc2
    exact ⟨rfl, hE3.drew, fun hh => hh.2 ⟨by omega, by omega⟩⟩
  obtain ⟨_, hE5, hcr⟩ := hI
  rw [if_neg hcr] at hR
  refine size_call (h.ext hE5) hb hf fun w6 hE6 => ⟨_, _, rfl, hE6.keep _, mfits_spec ⟨_, rfl, (Ext.refl _).keep _, ?_⟩⟩
  have hE6' := hE5.trans hE6
  refine brB_i (fun hz => ?_) (fun hz => ?_)
  · have hz : gfits (whF op args W H).1 (whF op args W H).2 = false := by simpa using hz
    rw [if_pos hz] at hR
    exact hR _ hE6'
  · have hz : gfits (whF op args W H).1 (whF op args W H).2 = true := by simpa using hz
    rw [if_neg (by simp [hz])] at hR
    exact hR _ hE6'
theorem refSize_spec {w : World} {op : ByteArray} {p : Option Addr} {len cap : Nat} {args : List Int} {W H : Int} {R : Ending → World → Prop} (h : Ints w p len args)
    (hR : ∀ w', Ext w w' → R (.returned (tri3 (sizeR op args W H))) w') : Calls P F.ref21_Size #[.string op, .slice p len cap, i64 W, i64 H] w R := by
  refine calls_ref21_Size _ _ _ _ _ _ _ _ ?_
  have hl := h.lth
  refine refCheck_spec h fun w1 hE1 => ⟨_, rfl, ?_⟩
  unfold sizeR at hR
  refine brB_i (fun hb => ?_) (fun hb => ?_)
  · have hb : chkR op args ≠ 0 := by simpa using hb
    rw [if_pos hb] at hR
    exact hR w1 hE1
  have hb : chkR op args = 0 := by simpa using hb
  rw [if_neg (by omega)] at hR
  refine Fits_spec ⟨_, rfl, brB_i (fun hf => ?_) (fun hf => ?_)⟩
  · have hf : gfits W H = false := by simpa using hf
    rw [if_pos hf] at hR
    exact hR _ hE1
  have hf : gfits W H = true := by simpa using hf
  rw [if_neg (by simp [hf])] at hR
  obtain ⟨g1, g2, g3, g4, g5⟩ := gfits_iff.1 hf
  refine ⟨fun vs u => vs = [] ∧ Ext w u ∧ ¬ (op = sCrop ∧ ¬ cropOk args W H), ?_, fun w5 hI => ?_⟩
  · have h3 := h.ext hE1
    refine eB (fun e => ?_) fun n1 => ⟨rfl, hE1.drew, fun hh => n1 hh.1⟩
    have hb' := hb
    rw [e] at hb'
    obtain ⟨l4, q0, q1, q2, q3⟩ := crop_args hb'
    refine Ints.lit 0 rfl h3 (by omega) fun a ha => ⟨_, ha, Ints.lit 1 rfl h3 (by omega) fun b hbb => ⟨_, hbb, Ints.lit 2 rfl h3 (by omega) fun c hcc => ⟨_, hcc, Ints.lit 3 rfl h3 (by omega) fun d hdd => ⟨_, hdd, ?_⟩⟩⟩⟩
    refine Within_spec hf ⟨_, rfl, ?_⟩
    refine brB_i (fun hc => ?_) (fun hc => ?_)
    · have hc : inR (args.getD 0 0) (args.getD 1 0) (args.getD 2 0) (args.getD 3 0) W H = false := by simpa using hc
      have hk : ¬ cropOk args W H := fun hk => by
        have : inR (args.getD 0 0) (args.getD 1 0) (args.getD 2 0) (args.getD 3 0) W H = true := by
          have := hk.1; have := hk.2
          rw [inR_iff]; omega
        exact Bool.noConfusion (this.symm.trans hc)
      rw [if_pos ⟨e, hk⟩] at hR
      exact hR _ hE1.drew
    · have hc : inR (args.getD 0 0) (args.getD 1 0) (args.getD 2 0) (args.getD 3 0) W H = true := by simpa using hc
      rw [inR_iff] at hc
      exact ⟨rfl, hE1.drew, fun hh => hh.2 ⟨by omega, by omega⟩⟩
  obtain ⟨_, hE5, hcr⟩ := hI
  rw [if_neg hcr] at hR
  refine refsize_spec (h.ext hE5) hb hf fun w6 hE6 => ⟨_, _, rfl, Fits_spec ⟨_, rfl, ?_⟩⟩
  have hE6' := hE5.trans hE6
  refine brB_i (fun hz => ?_) (fun hz => ?_)
  · have hz : gfits (whF op args W H).1 (whF op args W H).2 = false := by simpa using hz
    rw [if_pos hz] at hR
    exact hR _ hE6'
  · have hz : gfits (whF op args W H).1 (whF op args W H).2 = true := by simpa using hz
    rw [if_neg (by simp [hz])] at hR
    exact hR _ hE6'
theorem size_facts {op : ByteArray} {args : List Int} {W H : Int} (h : (sizeR op args W H).2.2 = 0) :
    chkR op args = 0 ∧ gfits W H = true ∧ (op = sCrop → cropOk args W H) ∧ gfits (whF op args W H).1 (whF op args W H).2 = true ∧ sizeR op args W H = ((whF op args W H).1, (whF op args W H).2, 0) := by
  unfold sizeR at h ⊢
  by_cases h1 : chkR op args ≠ 0
  · rw [if_pos h1] at h; exact (h1 h).elim
  rw [if_neg h1] at h ⊢
  by_cases h2 : gfits W H = false
  · rw [if_pos h2] at h; simp at h
  rw [if_neg h2] at h ⊢
  by_cases h3 : op = sCrop ∧ ¬ cropOk args W H
  · rw [if_pos h3] at h; simp at h
  rw [if_neg h3] at h ⊢
  by_cases h4 : gfits (whF op args W H).1 (whF op args W H).2 = false
  · rw [if_pos h4] at h; simp at h
  rw [if_neg h4]
  exact ⟨by simpa using h1, by simpa using h2, fun e => Classical.byContradiction fun n => h3 ⟨e, n⟩, by simpa using h4, rfl⟩
/-! ## places -/
def frP (op : ByteArray) (a : List Int) (W H x y : Int) : Int × Int :=
  if op = sCrop then (a.getD 0 0 + x, a.getD 1 0 + y) else if op = sFlip then (x, H - 1 - y) else if op = sFlop then (W - 1 - x, y)
  else if op = sRotate then (if a.getD 0 0 = 1 then (y, H - 1 - x) else if a.getD 0 0 = 2 then (W - 1 - x, H - 1 - y) else (W - 1 - y, x))
  else if op = sTranspose then (y, x) else if op = sTransverse then (W - 1 - y, H - 1 - x) else if op = sRoll then ((x - a.getD 0 0) % W, (y - a.getD 1 0) % H)
  else if op = sResize then (x * W / a.getD 0 0, y * H / a.getD 1 0) else if op = sZoom then (x / a.getD 0 0, y / a.getD 0 0) else if op = sTile then (x % W, y % H)
  else if op = sExtend then (min (max (x - a.getD 0 0) 0) (W - 1), min (max (y - a.getD 1 0) 0) (H - 1)) else if op = sFrame then (x - a.getD 0 0, y - a.getD 0 0) else (x, y)
theorem rem_round {v n : Int} (hn : 1 ≤ n) : (if v.tmod n < 0 then v.tmod n + n else v.tmod n) = v % n := by
  have h1 := Int.tmod_add_mul_tdiv v n
  have h2 := Int.tmod_lt_of_pos v (show 0 < n by omega)
  have h3 := Int.lt_tmod_of_pos v (show 0 < n by omega)
  have e : v % n = v.tmod n % n := by
    conv => lhs; rw [← h1]
    rw [Int.add_mul_emod_self_left]
  rw [e]
  split
  · rw [show v.tmod n % n = (v.tmod n + n) % n by rw [Int.add_emod_right], Int.emod_eq_of_lt (by omega) (by omega)]
  · rw [Int.emod_eq_of_lt (by omega) (by omega)]
theorem rem_twice {v n : Int} (hn : 1 ≤ n) : (v.tmod n + n).tmod n = v % n := by
  have h1 := Int.tmod_add_mul_tdiv v n
  have h3 := Int.lt_tmod_of_pos v (show 0 < n by omega)
  have e : v % n = v.tmod n % n := by
    conv => lhs; rw [← h1]
    rw [Int.add_mul_emod_self_left]
  rw [Int.tmod_eq_emod_of_nonneg (by omega), Int.add_emod_right, e]
theorem tmod_rng {v n : Int} (hn : 1 ≤ n) : -n < v.tmod n ∧ v.tmod n < n := ⟨Int.lt_tmod_of_pos v (by omega), Int.tmod_lt_of_pos v (by omega)⟩
theorem round_spec {v n : Int} {w : World} {R : Ending → World → Prop} (hn : 1 ≤ n) (hn2 : n ≤ 4096) (hR : R (.returned (i64 (v % n))) w) : Calls P F.moves_round #[i64 v, i64 n] w R := by
  refine calls_moves_round _ _ _ _ ⟨by omega, ?_⟩
  have e := rem_round (v := v) hn
  obtain ⟨r1, r2⟩ := tmod_rng (v := v) hn
  rw [show divZ .rem .i64 v n = v.tmod n from rfl]
  refine brB_i (fun hb => ?_) (fun hb => ?_)
  · have hb : v.tmod n < 0 := by simpa using hb
    rw [if_pos hb] at e
    rw [w64 (by omega) (by omega), e]; exact hR
  · have hb : ¬ v.tmod n < 0 := by simpa using hb
    rw [if_neg hb] at e
    rw [e]; exact hR
theorem near_spec {v n : Int} {w : World} {R : Ending → World → Prop} (hn : 1 ≤ n) (hn2 : n ≤ 4096) (hR : R (.returned (i64 (min (max v 0) (n - 1)))) w) : Calls P F.moves_near #[i64 v, i64 n] w R := by
  refine calls_moves_near _ _ _ _ ?_
  rw [vc_moves_near, w64 (by omega) (by omega)]; exact hR
theorem refnear_spec {v n : Int} {w : World} {R : Ending → World → Prop} (hn : 1 ≤ n) (hn2 : n ≤ 4096) (hR : R (.returned (i64 (min (max v 0) (n - 1)))) w) : Calls P F.ref21_near #[i64 v, i64 n] w R := by
  refine calls_ref21_near _ _ _ _ ?_
  refine brB_i (fun hb => ?_) (fun hb => ?_)
  · have hb : v < 0 := by simpa using hb
    rwa [show min (max v 0) (n - 1) = 0 by omega] at hR
  have hb : ¬ v < 0 := by simpa using hb
  refine brB_i (fun hb2 => ?_) (fun hb2 => ?_)
  · have hb2 : v ≥ n := by simpa using hb2
    rw [w64 (by omega) (by omega)]
    rwa [show min (max v 0) (n - 1) = n - 1 by omega] at hR
  · have hb2 : ¬ v ≥ n := by simpa using hb2
    rwa [show min (max v 0) (n - 1) = v by omega] at hR
theorem remP {a n : Int} (h0 : 0 ≤ a) : divZ .rem .i64 a n = a % n := by simp only [divZ]; exact Int.tmod_eq_emod_of_nonneg h0
set_option maxHeartbeats 4000000 in
theorem from_call {w : World} {op : ByteArray} {p : Option Addr} {len cap : Nat} {args : List Int} {W H x y : Int} {R : Ending → World → Prop} (h : Ints w p len args) (hc : chkR op args = 0) (hg : gfits W H = true) (hn : frF op ≠ none) (x0 : 0 ≤ x) (x1 : x ≤ 4096) (y0 : 0 ≤ y) (y1 : y ≤ 4096)
    (hR : ∀ w', Ext w w' → R (.returned (two (frP op args W H x y))) w') : callV P (fnO (frF op)) [.slice p len cap, i64 W, i64 H, i64 x, i64 y] w R := by
  obtain ⟨g1, g2, g3, g4, g5⟩ := gfits_iff.1 hg
  have hl := h.lth
  have hd := hR _ (Ext.refl w).drew
  have hw := hR _ (Ext.refl w)
  rcases names_cases (chk_fit hc).1 with rfl | rfl | rfl | rfl | rfl | rfl | rfl | rfl | rfl | rfl | rfl | rfl | rfl | rfl
  · -- crop
    refine callV_i (by kernel_rfl) (calls_moves_operators_fn2 _ _ _ _ _ _ _ _ _ ?_)
    obtain ⟨l4, q0, q1, q2, q3⟩ := crop_args hc
    refine Ints.lit 0 rfl h (by omega) fun a ha => ⟨_, ha, Ints.lit 1 rfl h (by omega) fun b hb => ⟨_, hb, ?_⟩⟩
    rw [w64 (x := args.getD 0 0 + x) (by omega) (by omega), w64 (x := args.getD 1 0 + y) (by omega) (by omega)]
    exact hd
  · -- flip
    refine callV_i (by kernel_rfl) (calls_moves_operators_fn3 _ _ _ _ _ _ _ _ _ ?_)
    rw [vc_moves_operators_fn3, w64 (x := H - 1) (by omega) (by omega), w64 (x := H - 1 - y) (by omega) (by omega)]
    exact hw
  · -- flop
    refine callV_i (by kernel_rfl) (calls_moves_operators_fn4 _ _ _ _ _ _ _ _ _ ?_)
    rw [vc_moves_operators_fn4, w64 (x := W - 1) (by omega) (by omega), w64 (x := W - 1 - x) (by omega) (by omega)]
    exact hw
  · -- rotate
    refine callV_i (by kernel_rfl) (calls_moves_operators_fn6 _ _ _ _ _ _ _ _ _ ?_)
    obtain ⟨l1, q0⟩ := rotate_args hc
    rw [(show frP sRotate args W H x y = if args.getD 0 0 = 1 then (y, H - 1 - x) else if args.getD 0 0 = 2 then (W - 1 - x, H - 1 - y) else (W - 1 - y, x) from rfl)] at hw
    unfold vc_moves_operators_fn6
    rw [w64 (x := H - 1) (by omega) (by omega), w64 (x := W - 1) (by omega) (by omega), w64 (x := H - 1 - x) (by omega) (by omega), w64 (x := W - 1 - x) (by omega) (by omega), w64 (x := H - 1 - y) (by omega) (by omega), w64 (x := W - 1 - y) (by omega) (by omega)]
    refine Ints.lit 0 rfl h (by omega) fun a ha => ⟨_, ha, brB_i (fun hb => ?_) (fun hb => ?_)⟩
    · have hb : args.getD 0 0 = 1 := by simpa using hb
      rwa [if_pos hb] at hw
    have hb : args.getD 0 0 ≠ 1 := by simpa using hb
    rw [if_neg hb] at hw
    refine brB_i (fun hb2 => ?_) (fun hb2 => ?_)
    · have hb2 : args.getD 0 0 = 2 := by simpa using hb2
      rwa [if_pos hb2] at hw
    · have hb2 : args.getD 0 0 ≠ 2 := by simpa using hb2
      rwa [if_neg hb2] at hw
  · -- transpose
    refine callV_i (by kernel_rfl) (calls_moves_operators_fn7 _ _ _ _ _ _ _ _ _ ?_)
    exact hw
  · -- transverse
    refine callV_i (by kernel_rfl) (calls_moves_operators_fn8 _ _ _ _ _ _ _ _ _ ?_)
    rw [vc_moves_operators_fn8, w64 (x := W - 1) (by omega) (by omega), w64 (x := W - 1 - y) (by omega) (by omega), w64 (x := H - 1) (by omega) (by omega), w64 (x := H - 1 - x) (by omega) (by omega)]
    exact hw
  · -- roll
    refine callV_i (by kernel_rfl) (calls_moves_operators_fn9 _ _ _ _ _ _ _ _ _ ?_)
    obtain ⟨l1, q0, q1⟩ := roll_args hc
    refine Ints.lit 0 rfl h (by omega) fun a ha => ⟨_, ha, Ints.lit 1 rfl h (by omega) fun b hb => ⟨_, hb, ?_⟩⟩
    rw [w64 (x := x - args.getD 0 0) (by omega) (by omega), w64 (x := y - args.getD 1 0) (by omega) (by omega)]
    exact round_spec (by omega) (by omega) ⟨_, rfl, Keeps.refl _, round_spec (by omega) (by omega) ⟨_, rfl, hd⟩⟩
  · -- resize
    refine callV_i (by kernel_rfl) (calls_moves_operators_fn11 _ _ _ _ _ _ _ _ _ ?_)
    obtain ⟨l1, q0, q1⟩ := resize_args hc
    have m1 := mul_rng (a := x) (b := W) (by omega) (by omega) (by omega) (by omega)
    have m2 := mul_rng (a := y) (b := H) (by omega) (by omega) (by omega) (by omega)
    refine Ints.lit 0 rfl h (by omega) fun a ha => ⟨_, ha, by omega, Ints.lit 1 rfl h (by omega) fun b hb => ⟨_, hb, by omega, ?_⟩⟩
    rw [w64 (x := x * W) (by omega) (by omega), w64 (x := y * H) (by omega) (by omega), quoS (by omega) (by omega) (by omega), quoS (by omega) (by omega) (by omega)]
    exact hd
  · -- zoom
    refine callV_i (by kernel_rfl) (calls_moves_operators_fn13 _ _ _ _ _ _ _ _ _ ?_)
    obtain ⟨l1, q0⟩ := zoom_args hc
    refine Ints.lit 0 rfl h (by omega) fun a ha => ⟨_, ha, by omega, Ints.lit 0 rfl h (by omega) fun b hb => ⟨_, hb, by omega, ?_⟩⟩
    rw [quoS (by omega) (by omega) (by omega), quoS (by omega) (by omega) (by omega)]
    exact hd
  · -- tile
    refine callV_i (by kernel_rfl) (calls_moves_operators_fn15 _ _ _ _ _ _ _ _ _ ?_)
    refine ⟨by omega, by omega, ?_⟩
    rw [remP (by omega), remP (by omega)]
    exact hd
  · -- extend
    refine callV_i (by kernel_rfl) (calls_moves_operators_fn17 _ _ _ _ _ _ _ _ _ ?_)
    obtain ⟨l1, q0, q1, q2, q3⟩ := extend_args hc
    refine Ints.lit 0 rfl h (by omega) fun a ha => ⟨_, ha, Ints.lit 1 rfl h (by omega) fun b hb => ⟨_, hb, ?_⟩⟩
    rw [w64 (x := x - args.getD 0 0) (by omega) (by omega), w64 (x := y - args.getD 1 0) (by omega) (by omega)]
    exact near_spec (by omega) (by omega) ⟨_, rfl, Keeps.refl _, near_spec (by omega) (by omega) ⟨_, rfl, hd⟩⟩
  · -- frame
    refine callV_i (by kernel_rfl) (calls_moves_operators_fn19 _ _ _ _ _ _ _ _ _ ?_)
    obtain ⟨l1, q0, q1, q2, q3, q4⟩ := frame_args hc
    refine Ints.lit 0 rfl h (by omega) fun a ha => ⟨_, ha, Ints.lit 0 rfl h (by omega) fun b hb => ⟨_, hb, ?_⟩⟩
    rw [w64 (x := x - args.getD 0 0) (by omega) (by omega), w64 (x := y - args.getD 0 0) (by omega) (by omega)]
    exact hd
  · -- shrink
    exact (hn rfl).elim
  · -- trim
    exact (hn rfl).elim
set_option maxHeartbeats 4000000 in
theorem refFrom_spec {w : World} {op : ByteArray} {p : Option Addr} {len cap : Nat} {args : List Int} {W H x y : Int} {R : Ending → World → Prop} (h : Ints w p len args) (hc : chkR op args = 0) (hg : gfits W H = true) (hn : op ≠ sFrame) (x0 : 0 ≤ x) (x1 : x ≤ 4096) (y0 : 0 ≤ y) (y1 : y ≤ 4096)
    (hR : ∀ w', Ext w w' → R (.returned (two (frP op args W H x y))) w') : Calls P F.ref21_from #[.string op, .slice p len cap, i64 W, i64 H, i64 x, i64 y] w R := by
  refine calls_ref21_from _ _ _ _ _ _ _ _ _ _ ?_
  obtain ⟨g1, g2, g3, g4, g5⟩ := gfits_iff.1 hg
  have hl := h.lth
  have hd := hR _ (Ext.refl w).drew
  have hw := hR _ (Ext.refl w)
  refine eB (fun e => ?_) fun n0 => ?_
  · subst e
    obtain ⟨l4, q0, q1, q2, q3⟩ := crop_args hc
    refine Ints.lit 0 rfl h (by omega) fun a ha => ⟨_, ha, Ints.lit 1 rfl h (by omega) fun b hb => ⟨_, hb, ?_⟩⟩
    rw [w64 (x := args.getD 0 0 + x) (by omega) (by omega), w64 (x := args.getD 1 0 + y) (by omega) (by omega)]
    exact hd
  refine eB (fun e => ?_) fun n1 => ?_
  · subst e
    rw [w64 (x := H - 1) (by omega) (by omega), w64 (x := H - 1 - y) (by omega) (by omega)]
    exact hw
  refine eB (fun e => ?_) fun n2 => ?_
  · subst e
    rw [w64 (x := W - 1) (by omega) (by omega), w64 (x := W - 1 - x) (by omega) (by omega)]
    exact hw
  refine eB (fun e => ?_) fun n3 => ?_
  · subst e
    obtain ⟨l1, q0⟩ := rotate_args hc
    rw [(show frP sRotate args W H x y = if args.getD 0 0 = 1 then (y, H - 1 - x) else if args.getD 0 0 = 2 then (W - 1 - x, H - 1 - y) else (W - 1 - y, x) from rfl)] at hw
    rw [w64 (x := H - 1) (by omega) (by omega), w64 (x := W - 1) (by omega) (by omega), w64 (x := H - 1 - x) (by omega) (by omega), w64 (x := W - 1 - x) (by omega) (by omega), w64 (x := H - 1 - y) (by omega) (by omega), w64 (x := W - 1 - y) (by omega) (by omega)]
    refine Ints.lit 0 rfl h (by omega) fun a ha => ⟨_, ha, brB_i (fun hb => ?_) (fun hb => ?_)⟩
    · have hb : args.getD 0 0 = 1 := by simpa using hb
      rwa [if_pos hb] at hw
    have hb : args.getD 0 0 ≠ 1 := by simpa using hb
    rw [if_neg hb] at hw
    refine Ints.lit 0 rfl h (by omega) fun a2 ha2 => ⟨_, ha2, brB_i (fun hb2 => ?_) (fun hb2 => ?_)⟩
    · have hb2 : args.getD 0 0 = 2 := by simpa using hb2
      rwa [if_pos hb2] at hw
    · have hb2 : args.getD 0 0 ≠ 2 := by simpa using hb2
      rwa [if_neg hb2] at hw
  refine eB (fun e => ?_) fun n4 => ?_
  · subst e
    exact hw
  refine eB (fun e => ?_) fun n5 => ?_
  · subst e
    rw [w64 (x := W - 1) (by omega) (by omega), w64 (x := W - 1 - y) (by omega) (by omega), w64 (x := H - 1) (by omega) (by omega), w64 (x := H - 1 - x) (by omega) (by omega)]
    exact hw
  refine eB (fun e => ?_) fun n6 => ?_
  · subst e
    obtain ⟨l1, q0, q1⟩ := roll_args hc
    refine Ints.lit 0 rfl h (by omega) fun a ha => ⟨_, ha, by omega, by omega, Ints.lit 1 rfl h (by omega) fun b hb => ⟨_, hb, by omega, by omega, ?_⟩⟩
    rw [w64 (x := x - args.getD 0 0) (by omega) (by omega), w64 (x := y - args.getD 1 0) (by omega) (by omega)]
    have r1 := tmod_rng (v := x - args.getD 0 0) g1
    have r2 := tmod_rng (v := y - args.getD 1 0) g2
    simp only [show ∀ a b : Int, divZ .rem .i64 a b = a.tmod b from fun _ _ => rfl]
    rw [w64 (x := (x - args.getD 0 0).tmod W + W) (by omega) (by omega), w64 (x := (y - args.getD 1 0).tmod H + H) (by omega) (by omega), rem_twice g1, rem_twice g2]
    exact hd
  refine eB (fun e => ?_) fun n7 => ?_
  · subst e
    obtain ⟨l1, q0, q1⟩ := resize_args hc
    have m1 := mul_rng (a := x) (b := W) (by omega) (by omega) (by omega) (by omega)
    have m2 := mul_rng (a := y) (b := H) (by omega) (by omega) (by omega) (by omega)
    refine Ints.lit 0 rfl h (by omega) fun a ha => ⟨_, ha, by omega, Ints.lit 1 rfl h (by omega) fun b hb => ⟨_, hb, by omega, ?_⟩⟩
    rw [w64 (x := x * W) (by omega) (by omega), w64 (x := y * H) (by omega) (by omega), quoS (by omega) (by omega) (by omega), quoS (by omega) (by omega) (by omega)]
    exact hd
  refine eB (fun e => ?_) fun n8 => ?_
  · subst e
    obtain ⟨l1, q0⟩ := zoom_args hc
    refine Ints.lit 0 rfl h (by omega) fun a ha => ⟨_, ha, by omega, Ints.lit 0 rfl h (by omega) fun b hb => ⟨_, hb, by omega, ?_⟩⟩
    rw [quoS (by omega) (by omega) (by omega), quoS (by omega) (by omega) (by omega)]
    exact hd
  refine eB (fun e => ?_) fun n9 => ?_
  · subst e
    refine ⟨by omega, by omega, ?_⟩
    rw [remP (by omega), remP (by omega)]
    exact hd
  refine eB (fun e => ?_) fun n10 => ?_
  · subst e
    obtain ⟨l1, q0, q1, q2, q3⟩ := extend_args hc
    refine Ints.lit 0 rfl h (by omega) fun a ha => ⟨_, ha, Ints.lit 1 rfl h (by omega) fun b hb => ⟨_, hb, ?_⟩⟩
    rw [w64 (x := x - args.getD 0 0) (by omega) (by omega), w64 (x := y - args.getD 1 0) (by omega) (by omega)]
    exact refnear_spec (by omega) (by omega) ⟨_, rfl, Keeps.refl _, refnear_spec (by omega) (by omega) ⟨_, rfl, hd⟩⟩
  have e : frP op args W H x y = (x, y) := by
    unfold frP
    rw [if_neg n0, if_neg n1, if_neg n2, if_neg n3, if_neg n4, if_neg n5, if_neg n6, if_neg n7, if_neg n8, if_neg n9, if_neg n10, if_neg hn]
  rw [e] at hw
  exact hw
end Go.Proofs.Ytdephacjcljinaa
