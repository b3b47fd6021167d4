/- The laws of grid: helpers, and that each law's function answers true and changes nothing that was there. -/
import Derived.Test.YtpdfpbioolbjjaaGrid1
namespace Go.Proofs.Ytpdfpbioolbjjaa
open Go Go.Vc Go.RowKit
set_option maxRecDepth 100000
set_option linter.unusedVariables false
set_option linter.unusedSimpArgs false

/-! ## Grids of texts -/
theorem clones_spec {N : Nat} {w : World} {base : Option Addr} {len cap : Nat} {vs : List Value} {R : Ending → World → Prop}
    (h : Sl N w base vs) (ho : oneAll vs = true) (hl : len = vs.length) (hsz : len * 16 ≤ 2 ^ 47)
    (hR : ∀ p k w', Ext w w' → Ow w.heap.size w'.heap.size w' p len k 1 vs → R (.returned (.slice p len k)) w') :
    Calls P F.slices_Clone_string #[.slice base len cap] w R := by
  refine calls_slices_Clone_string _ _ _ _ _ ?_
  unfold vc_slices_Clone_string
  refine brB_i (fun hn => ?_) (fun _ k1 w1 hnew => ⟨vs, by omega, ho, (h.ext hnew.ext).cells, ?_⟩)
  · have hx : vs = [] := by
      cases vs with
      | nil => rfl
      | cons x xs => obtain ⟨a, ha, _⟩ := h 0 x rfl; subst ha; cases hn
    subst hx
    have hl0 : len = 0 := by simpa using hl
    subst hl0
    exact hR none 0 w (Ext.refl w) (Ow.nil _ _ _ _ _)
  · have hsz' := hnew.ext.size
    refine (Ow.nil w.heap.size w1.heap.size w1 (some ⟨k1, 0, none⟩) 1).app (by simp [blocks]) hsz' (Nat.le_refl _) rfl (by omega) (by omega) (by omega) fun p k w2 ho hc => ?_
    rw [Nat.zero_add] at ho ⊢
    exact hR p k w2 (hnew.ext.step hc fun i hi => hi.1) (by simpa using ho)
theorem Ws_spec {w : World} {q : Option Addr} {gb cb : Nat} {W H : Int} {vs : List Value} {R : Ending → World → Prop} (h : GridAt w q gb cb W H vs) (hR : R (.returned (i64 W)) w) :
    Calls P F.grid_Grid_string_W #[.pointer q] w R := by
  refine calls_grid_Grid_string_W _ _ _ ?_
  obtain ⟨rest, h3, h4⟩ := h.cells
  obtain rfl := h.ptr
  exact brB_f rfl (nn_i rfl ⟨_, h3.cell (i := 0) rfl, hR⟩)
theorem Hs_spec {w : World} {q : Option Addr} {gb cb : Nat} {W H : Int} {vs : List Value} {R : Ending → World → Prop} (h : GridAt w q gb cb W H vs) (hR : R (.returned (i64 H)) w) :
    Calls P F.grid_Grid_string_H #[.pointer q] w R := by
  refine calls_grid_Grid_string_H _ _ _ ?_
  obtain ⟨rest, h3, h4⟩ := h.cells
  obtain rfl := h.ptr
  exact brB_f rfl (nn_i rfl ⟨_, h3.cell (i := 1) rfl, hR⟩)
theorem Cellss_spec {w : World} {q : Option Addr} {gb cb : Nat} {W H : Int} {vs : List Value} {R : Ending → World → Prop} (h : GridAt w q gb cb W H vs) (ho : oneAll vs = true)
    (hR : ∀ p k w', Ext w w' → Ow w.heap.size w'.heap.size w' p vs.length k 1 vs → R (.returned (.slice p vs.length k)) w') :
    Calls P F.grid_Grid_string_Cells #[.pointer q] w R := by
  refine calls_grid_Grid_string_Cells _ _ _ ?_
  have hd := h.dims
  have hsl := h.sl
  obtain ⟨rest, h3, h4⟩ := h.cells
  obtain rfl := h.ptr
  refine brB_f rfl (nn_i rfl ⟨_, _, _, h3.cell (i := 2) rfl, ?_⟩)
  refine clones_spec hsl ho rfl (by omega) fun p k w' hE ho => ⟨_, _, _, rfl, hR p k w' hE ho⟩
theorem rep_length (n : Nat) (z : List Value) : (rep n z).length = n * z.length := by
  induction n with
  | zero => simp [rep]
  | succ n ih => simp [rep, ih, Nat.add_mul]; omega
theorem rep_oneAll {n : Nat} {z : List Value} (h : oneAll z = true) : oneAll (rep n z) = true := by
  induction n with
  | zero => rfl
  | succ n ih => simp only [rep, oneAll, List.all_append, Bool.and_eq_true] at h ih ⊢; exact ⟨h, ih⟩
theorem News_spec {w : World} {W H : Int} {R : Ending → World → Prop}
    (h1 : gfits W H = false → R (.returned (.tuple #[.pointer none, i64 4])) w)
    (h2 : gfits W H = true → ∀ gb cb w', Ext w w' → w.heap.size ≤ gb → w.heap.size ≤ cb → GridAt w' (some ⟨gb, 0, none⟩) gb cb W H (rep (W * H).toNat [.string ⟨#[]⟩]) → R (.returned (.tuple #[.pointer (some ⟨gb, 0, none⟩), i64 0])) w') :
    Calls P F.grid_New_string #[i64 W, i64 H] w R := by
  refine calls_grid_New_string _ _ _ _ ?_
  refine fits_spec ⟨_, rfl, brB_i (fun hb => h1 (by simpa using hb)) (fun hb => ?_)⟩
  have hb : gfits W H = true := by simpa using hb
  obtain ⟨g0, g1, g2, g3, g4⟩ : 1 ≤ W ∧ 1 ≤ H ∧ W ≤ 4096 ∧ H ≤ 4096 ∧ W * H ≤ 65536 := by simpa [gfits] using hb
  rw [wrapmul g0 g1 g2 g3]
  have hpos : 0 < W * H := Int.mul_pos (by omega) (by omega)
  refine ⟨by omega, Int.le_refl _, by omega, by omega, fun k1 w2 hn1 k2 w3 hn2 => ?_⟩
  have hs := hn1.ext.size
  have hs1 := hn1.size
  have hb1 : k1 = w.heap.size := hn1.1
  have hb2 : k2 = w2.heap.size := hn2.1
  have hc := hn1.cs
  rw [mkCells_rep] at hc
  have hl : (rep (W * H).toNat [Value.string ⟨#[]⟩]).length = (W * H).toNat := by rw [rep_length]; simp
  refine h2 hb k2 k1 w3 (hn1.ext.trans hn2.ext) (by omega) (by omega) ⟨rfl, ⟨[], ?_, ?_⟩, by omega, hb, ?_⟩
  · have := hn2.cs
    simpa [hl] using this
  · simpa using hc.ext hn2.ext
  · rw [hl]; omega

/-! ## The laws' helpers -/
theorem same07_spec {N : Nat} {w : World} {q : Option Addr} {gb cb : Nat} {W H W' H' : Int} {xs ys : List Int} {base : Option Addr} {len cap : Nat} {R : Ending → World → Prop}
    (h : GridAt w q gb cb W H (ints xs)) (hs : Sl N w base (ints ys)) (hl : len = ys.length)
    (hR : ∀ w', Ext w w' → R (.returned (.bool (decide (W = W' ∧ H = H' ∧ xs = ys)))) w') :
    Calls P F.law07_same #[.pointer q, .agg #[i64 W', i64 H', .slice base len cap]] w R := by
  refine calls_law07_same _ _ _ _ _ _ _ _ ?_
  have hd := h.dims
  rw [ints_length] at hd
  intro k1 hk1 w1 hL
  have hE1 : Ext w w1 := hL.ext (by simpa using hk1)
  refine W_spec (h.ext hE1) ⟨_, rfl, (Ext.refl _).keep _, Keeps.refl _, brB_i (fun hw => ?_) (fun hw => ?_)⟩
  · refine H_spec (h.ext hE1) ⟨_, rfl, (Ext.refl _).keep _, Keeps.refl _, brB_i (fun hh => ?_) (fun hh => ?_)⟩
    · refine Cells_spec (h.ext hE1) fun p k w2 hE2 ho => ⟨_, _, _, rfl, hE2.keep _, hE2.keeps, ?_⟩
      refine same_spec ho.sl ((hs.ext hE1).ext hE2) rfl hl (by omega) fun w3 hE3 => ⟨_, rfl, hE3.keep _, ?_⟩
      refine to_bool (hR w3 ((hE1.trans hE2).trans hE3)) ?_
      simp at hw hh; simp [hw, hh]
    · refine to_bool (hR w1 hE1) ?_
      simp at hh; simp [hh]
  · refine to_bool (hR w1 hE1) ?_
    simp at hw; simp [hw]
theorem both_spec {N : Nat} {w : World} {base : Option Addr} {len cap : Nat} {W H : Int} {xs : List Int} {R : Ending → World → Prop}
    (h : Sl N w base (ints xs)) (hl : len = xs.length) (hsz : len * 8 ≤ 2 ^ 47)
    (h1 : ∀ w', Ext w w' → R (.returned (.tuple #[.pointer none, .agg #[i64 W, i64 H, .slice base len cap], .bool false, .bool true])) w')
    (h2 : ∀ gb cb w', Ext w w' → w.heap.size ≤ gb → w.heap.size ≤ cb → GridAt w' (some ⟨gb, 0, none⟩) gb cb W H (ints xs) → R (.returned (.tuple #[.pointer (some ⟨gb, 0, none⟩), .agg #[i64 W, i64 H, .slice base len cap], .bool true, .bool true])) w') :
    Calls P F.law07_both #[.agg #[i64 W, i64 H, .slice base len cap]] w R := by
  refine calls_law07_both _ _ _ _ _ _ _ ?_
  intro k1 hk1 k2 hk2 w1 hL
  have hE1 : Ext w w1 := hL.ext (by simp; omega)
  have hs1 := hE1.size
  refine own_spec (h.ext hE1) hl hsz fun p k w2 hE2 ho => ⟨_, _, _, rfl, hE2.keep _, hE2.keeps, ?_⟩
  have hE12 := hE1.trans hE2
  have hs2 := hE2.size
  have hth1 := hL.there k1 (by simp)
  have hth2 := hL.there k2 (by simp)
  -- what comes behind grid.Of
  have tail : ∀ (q : Option Addr) (e : Int) (w3 : World), Ext w2 w3 → e = (if gfits W H then (if (len : Int) = W * H then 0 else 3) else 4) → q.isNone = (e != 0) →
      (∀ w4, Chg (fun i => i = k1 ∨ i = k2 ∨ w3.heap.size ≤ i) w3 w4 → R (.returned (.tuple #[.pointer q, .agg #[i64 W, i64 H, .slice base len cap], .bool (!q.isNone), .bool true])) w4) →
      ∃ p2 n1, (Ending.returned (Value.tuple #[Value.pointer q, i64 e]) = Ending.returned (Value.tuple #[Value.pointer p2, Value.int IntKind.i64 n1])) ∧ Keep [k2, k1] w2 w3 ∧
        ∀ k5, w3.heap.size ≤ k5 → ∃ I1 : List Value → World → Prop, (brB ((len : Int) != IntKind.i64.wrap (W * H)) (∀ w4, Locl [k5, k2, k1] w3 w4 → I1 [i64 3] w4) (∀ w5, Locl [k5, k2, k1] w3 w5 → I1 [i64 0] w5)) ∧
          ∀ n2 w6, I1 [i64 n2] w6 → ∃ I2 : List Value → World → Prop, (Calls P F.ref07_Fits #[i64 W, i64 H] w6 fun e3 w7 => ∃ c1 : Bool, (e3 = Ending.returned (Value.bool c1)) ∧ Keep [k5, k2, k1] w6 w7 ∧ brB (!c1) (I2 [i64 4] w7) (I2 [i64 n2] w7)) ∧
            ∀ n3 w8, I2 [i64 n3] w8 → ∀ w9, Locl [k5, k2, k1] w8.drew w9 → R (Ending.returned (Value.tuple #[Value.pointer p2, Value.agg #[i64 W, i64 H, Value.slice base len cap], Value.bool !p2.isNone, Value.bool (n1 == n3 && p2.isNone == (n3 != 0))])) w9 := by
    intro q e w3 hE3 he hq hRR
    refine ⟨q, e, rfl, hE3.keep _, fun k5 hk5 => ?_⟩
    have hS : ∀ i, i ∈ [k5, k2, k1] → (i = k1 ∨ i = k2 ∨ w3.heap.size ≤ i) := by simp; omega
    refine ⟨fun vs w' => match vs with | [.int _ n] => n = (if (len : Int) = IntKind.i64.wrap (W * H) then 0 else 3) ∧ Chg (fun i => i = k1 ∨ i = k2 ∨ w3.heap.size ≤ i) w3 w' | _ => False,
      brB_i (fun h w4 h4 => ⟨?_, h4.chg.mono fun i hi _ => hS i hi⟩) (fun h w4 h4 => ⟨?_, h4.chg.mono fun i hi _ => hS i hi⟩), fun n2 w6 hI => ?_⟩
    · have h : ¬ (len : Int) = IntKind.i64.wrap (W * H) := by simpa using h
      rw [if_neg h]
    · have h : (len : Int) = IntKind.i64.wrap (W * H) := by simpa using h
      rw [if_pos h]
    · obtain ⟨hn2, hC6⟩ := hI
      refine ⟨fun vs w' => match vs with | [.int _ n] => n = (if gfits W H then n2 else 4) ∧ Chg (fun i => i = k1 ∨ i = k2 ∨ w3.heap.size ≤ i) w3 w' | _ => False,
        Fits_spec ⟨_, rfl, (Ext.refl _).keep _, brB_i (fun h => ⟨?_, hC6⟩) (fun h => ⟨?_, hC6⟩)⟩, fun n3 w8 hI w9 h9 => ?_⟩
      · have h : gfits W H = false := by simpa using h
        simp [h]
      · have h : gfits W H = true := by simpa using h
        simp [h]
      · obtain ⟨hn3, hC8⟩ := hI
        have hne : e = n3 := by
          rw [he, hn3, hn2]
          by_cases hg : gfits W H = true
          · obtain ⟨g0, g1, g2, g3, g4⟩ : 1 ≤ W ∧ 1 ≤ H ∧ W ≤ 4096 ∧ H ≤ 4096 ∧ W * H ≤ 65536 := by simpa [gfits] using hg
            rw [wrapmul g0 g1 g2 g3]
          · simp [hg]
        have := hRR w9 (hC8.drew.trans h9.chg fun i hi _ => hS i hi)
        rw [← hne, hq]
        simpa [hq] using this
  have hin : ∀ {w3 w4 : World}, Ext w2 w3 → Chg (fun i => i = k1 ∨ i = k2 ∨ w3.heap.size ≤ i) w3 w4 → Ext w w4 := fun hE3 hC =>
    (hE12.trans hE3).step hC fun i hi => by have := hE3.size; omega
  refine Of_spec ho.sl hl hsz (fun hg => ?_) (fun hg hne => ?_) (fun hg heq gb cb w3 hE3 hb1 hb2 hgr => ?_)
  · exact tail none 4 w2 (Ext.refl _) (by simp [hg]) rfl fun w4 hC => h1 w4 (hin (Ext.refl _) hC)
  · exact tail none 3 w2 (Ext.refl _) (by simp [hg, hne]) rfl fun w4 hC => h1 w4 (hin (Ext.refl _) hC)
  · refine tail _ 0 w3 hE3 (by simp [hg, heq]) rfl fun w4 hC => h2 gb cb w4 (hin hE3 hC) (by omega) (by omega) (hgr.chg hC ?_ ?_)
    · have := hgr.lt; omega
    · have := hgr.lt; omega
theorem wakes_spec {w : World} {R : Ending → World → Prop} (hR : ∀ w', Ext w w' → R (.returned (.bool true)) w') : Calls P F.law07_wakes #[] w R := by
  refine calls_law07_wakes _ _ ?_
  intro k1 w1 hn1
  have hE1 := hn1.ext
  have h1 : Sl w1.heap.size w1 (some ⟨k1, 0, none⟩) (ints [1, 2, 3, 4]) := hn1.cs.sl (by simp [ints]) hn1.size
  refine Of_spec h1 rfl (by omega) (fun hg => by simp [gfits] at hg) (fun _ hne => (hne rfl).elim) (fun _ _ gb cb w2 hE2 _ _ hg => ⟨_, _, rfl, brB_f rfl ?_⟩)
  refine At_spec hg fun w3 hE3 => ⟨_, _, rfl, ?_⟩
  have e1 : inside 2 2 1 0 = true := by decide
  rw [e1]
  refine Crop_spec (hg.ext hE3) (fun hw => by simp [within] at hw) (fun _ g c w4 hE4 _ _ hp => ⟨_, _, rfl, ?_⟩)
  refine News_spec (fun hg => by simp [gfits] at hg) (fun _ ng nc w5 hE5 _ _ hn => ⟨_, _, rfl, brB_t rfl ?_⟩)
  refine Cells_spec (hp.ext hE5) fun p k w6 hE6 ho => ⟨_, _, _, rfl, fun k4 w7 hn7 => ?_⟩
  have h7 : Sl w7.heap.size w7 (some ⟨k4, 0, none⟩) (ints [2, 4]) := hn7.cs.sl (by simp [ints]) hn7.size
  have e2 : cropL [1, 2, 3, 4] 2 1 0 1 (2 : Int).toNat = [2, 4] := by decide
  rw [e2] at ho
  refine same_spec (ho.ext hn7.ext).sl h7 rfl rfl (by decide) fun w8 hE8 => ⟨_, rfl, brB_t rfl ?_⟩
  refine Ws_spec (((hn.ext hE6).ext hn7.ext).ext hE8) ⟨_, rfl, brB_t rfl ?_⟩
  refine Cellss_spec (((hn.ext hE6).ext hn7.ext).ext hE8) (rep_oneAll rfl) fun p k w9 hE9 _ => ⟨_, _, _, rfl, ?_⟩
  have hE : Ext w w9 := (((((((hE1.trans hE2).trans hE3).trans hE4).trans hE5).trans hE6).trans hn7.ext).trans hE8).trans hE9
  exact to_bool (hR w9 hE) rfl
end Go.Proofs.Ytpdfpbioolbjjaa
