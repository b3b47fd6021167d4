/- Raster: what the loops over functions hand out; an image of a grid, a grid of an image, an image of one colour. -/
import Derived.Test.YtijplekhbpigiaaQR7
namespace Go.Proofs.Ytijplekhbpigiaa
open Go Go.Vc Go.RowKit
set_option maxRecDepth 100000
set_option linter.unusedVariables false
set_option linter.unusedSimpArgs false

theorem yield_mono {F : Fence} {m : Nat} {P : Program} {l : Nat} {args : Array Value} {W : World} {R R' : Ending → World → Prop} (h : YieldAt F m P l args W R) (hr : ∀ e w, R e w → R' e w) : YieldAt F m P l args W R' := by
  obtain ⟨fn, tmps, assign, body, hy, hR⟩ := h
  exact ⟨fn, tmps, assign, body, hy, hR.mono hr⟩
theorem callF_i {P : Program} {f : FuncId} {first caps : Array Value} {args : List Value} {w : World} {R : Ending → World → Prop} (hok : FnOk P f = true) (h : Calls P f (first.toList ++ args ++ caps.toList).toArray w R) : callF P (.func (.func f) first caps) args w R := by
  unfold callF
  simp only [hok]
  exact h
/-- what a round may answer: go on, or stop -/
def Goes (go : World → Prop) (R : Ending → World → Prop) (e : Ending) (w : World) : Prop :=
  (e = .returned (.bool true) ∧ go w) ∨ (e = .returned (.bool false) ∧ R (.returned (.tuple #[])) w)
theorem GAll_iter {w : World} {fr : Addr} {yl : Nat} {q : Option Addr} {gb cb : Nat} {W H : Int} {l : List Co} (J : Nat → World → Prop) {R : Ending → World → Prop}
    (hJ : ∀ k u, J k u → u.cell? fr = some (.pointer q) ∧ GridC u q gb cb W H l) (h0 : J 0 w.drew)
    (hy : ∀ (k : Nat) u, k < l.length → J k u → YieldAt Fence.wide 0 P yl #[.agg #[i64 ((k : Int) % W), i64 ((k : Int) / W)], .agg (co (l.getD k zeroC)).toArray] u.drew (Goes (J (k + 1)) R))
    (hend : ∀ u, J l.length u → R (.returned (.tuple #[])) u) :
    Calls P F.grid_Grid_api_Color_All_fn1 #[.func (.yield yl) #[] #[], .pointer (some fr)] w R := by
  refine calls_grid_Grid_api_Color_All_fn1 _ _ _ _ ?_
  obtain ⟨hc0, hg0⟩ := hJ _ _ h0
  have hd := hg0.dims
  have hwm := wrapmul hd.1 hd.2.1 hd.2.2.1 hd.2.2.2.1
  have hpos : 0 < W * H := Int.mul_pos (by omega) (by omega)
  have hlen := hg0.len
  refine ⟨_, hc0, _, hc0, GW_spec hg0 ⟨_, rfl, Keeps.refl _, GH_spec hg0 ⟨_, rfl, fun vs w' => match vs with | [.int _ k] => 0 ≤ k ∧ k ≤ W * H ∧ J k.toNat w' | _ => False,
    fun vs _ => match vs with | [.int _ k] => (W * H - k).toNat | _ => 0, ⟨Int.le_refl _, by omega, h0⟩, fun k w2 hI => ?_⟩⟩⟩
  obtain ⟨k0, k1, hI⟩ := hI
  obtain ⟨hc, hg⟩ := hJ _ _ hI
  rw [hwm]
  refine brB_i (fun hlt => ?_) (fun hge => ?_)
  · have hlt : k < W * H := by simpa using hlt
    have hsl := hg.sl
    obtain ⟨rest, cc, h3, _, h4⟩ := hg.cells
    refine ⟨_, hc, nn_i hg.ptr ⟨_, h3.drew.cell (i := 0) rfl, by omega, _, hc, nn_i hg.ptr ⟨_, h3.drew.cell (i := 0) rfl, by omega, _, hc, nn_i hg.ptr ⟨_, _, _, h3.drew.cell (i := 2) rfl, ?_⟩⟩⟩⟩
    refine cos_elem hsl.drew rfl k0 (by omega) fun a e1 e2 e3 e4 => ⟨_, _, _, _, e1, e2, e3, e4, ?_⟩
    have hkk : (k.toNat : Int) = k := by omega
    have := hy k.toNat w2 (by omega) hI
    rw [hkk] at this
    have hq : k / W ≤ k := Int.ediv_le_self _ k0
    have hq0 : 0 ≤ k / W := Int.ediv_nonneg k0 (by omega)
    rw [show divZ .rem .i64 k W = k % W by simp only [divZ]; exact Int.tmod_eq_emod_of_nonneg k0,
      show divZ .quo .i64 k W = k / W by simp only [divZ]; rw [Int.tdiv_eq_ediv_of_nonneg k0]; exact w64 (by omega) (by omega)]
    refine yield_mono this fun e w4 he => ?_
    rcases he with ⟨rfl, he⟩ | ⟨rfl, he⟩
    · refine ⟨_, rfl, brB_f rfl ⟨?_, ?_⟩⟩
      · rw [w64 (by omega) (by omega)]
        exact ⟨by omega, by omega, by rw [show (k + 1).toNat = k.toNat + 1 by omega]; exact he⟩
      · rw [w64 (by omega) (by omega)]
        show (W * H - (k + 1)).toNat < (W * H - k).toNat
        omega
    · exact ⟨_, rfl, brB_t rfl he⟩
  · have hge : k = W * H := by simp at hge; omega
    subst hge
    refine hend w2 ?_
    rw [show l.length = (W * H).toNat by omega]; exact hI
theorem GAll_spec {w : World} {q : Option Addr} {R : Ending → World → Prop} (hR : ∀ k w', Ext w w' → w.heap.size ≤ k → Cs w' k [.pointer q] → R (.returned (.func (.func F.grid_Grid_api_Color_All_fn1) #[] #[.pointer (some ⟨k, 0, none⟩)])) w') :
    Calls P F.grid_Grid_api_Color_All #[.pointer q] w R := by
  refine calls_grid_Grid_api_Color_All _ _ _ fun k1 w1 hn => ?_
  exact hR k1 w1 hn.ext (Nat.le_of_eq hn.1.symm) hn.cs
theorem flat_takeS {l : List Co} {k : Nat} (h : k < l.length) : flat (l.take (k + 1)) = flat (l.take k) ++ coL (l.getD k zeroC) := by
  rw [List.take_succ_eq_append_getElem h, flat_append, flat_one]; simp [List.getD, h]
/-! ## pieces of four samples -/
theorem Chunk_iter {N : Nat} {w : World} {fr1 fr2 : Addr} {yl : Nat} {p : Option Addr} {len cap n : Nat} (J : Nat → World → Prop) {R : Ending → World → Prop} (hl : len = 4 * n) (hc : len ≤ cap) (h62 : len < 2 ^ 62)
    (hJ : ∀ k u, J k u → u.cell? fr1 = some (.slice p len cap) ∧ u.cell? fr2 = some (i64 4)) (h0 : J 0 w)
    (hy : ∀ (k : Nat) u, k < n → J k u → YieldAt Fence.wide 0 P yl #[.slice (slcBase p (4 * k) (4 * k + 4) 1) 4 4] u.drew (Goes (J (k + 1)) R))
    (hend : ∀ u, J n u → R (.returned (.tuple #[])) u) :
    Calls P F.slices_Chunk_uint16_fn1 #[.func (.yield yl) #[] #[], .pointer (some fr1), .pointer (some fr2)] w R := by
  refine calls_slices_Chunk_uint16_fn1 _ _ _ _ _ ?_
  refine ⟨fun vs w' => match vs with | [.int _ i] => ∃ k : Nat, i = 4 * (k : Int) ∧ k ≤ n ∧ J k w' | _ => False, fun vs _ => match vs with | [.int _ i] => (len - i).toNat | _ => 0, ⟨0, by simp, Nat.zero_le _, h0⟩, fun i w1 hI => ?_⟩
  obtain ⟨k, rfl, hk, hI⟩ := hI
  obtain ⟨h1, h2⟩ := hJ _ _ hI
  refine ⟨_, _, _, h1, brB_i (fun hlt => ?_) (fun hge => ?_)⟩
  · have hlt : 4 * (k : Int) < len := by simpa using hlt
    have hkn : k < n := by omega
    refine ⟨_, h2, _, _, _, h1, by omega, by omega, by omega, _, _, _, h1, ?_⟩
    rw [show min (4 : Int) (((len : Int).toNat - (4 * (k : Int)).toNat : Nat) : Int) = 4 by omega, w64 (x := 4 * (k : Int) + 4) (by omega) (by omega)]
    refine ⟨by omega, by omega, by omega, by omega, by omega, ?_⟩
    have hyy := hy k w1 hkn hI
    rw [show (4 * (k : Int) + 4).toNat = 4 * k + 4 by omega, show (4 * (k : Int)).toNat = 4 * k by omega, show 4 * k + 4 - 4 * k = 4 by omega]
    refine yield_mono hyy fun e w4 he => ?_
    rcases he with ⟨rfl, he⟩ | ⟨rfl, he⟩
    · obtain ⟨h3, h4⟩ := hJ _ _ he
      refine ⟨_, rfl, brB_f rfl ⟨_, h4, ?_⟩⟩
      rw [w64 (x := 4 * (k : Int) + 4) (by omega) (by omega)]
      refine ⟨⟨k + 1, by omega, hkn, he⟩, ?_⟩
      show (len - (4 * (k : Int) + 4)).toNat < (len - 4 * (k : Int)).toNat
      omega
    · exact ⟨_, rfl, brB_t rfl he⟩
  · have hge : k = n := by simp at hge; omega
    subst hge
    exact hend w1 hI
/-- what a grid of an image is -/
theorem Grid_spec {w : World} {p : Option Addr} {len cap : Nat} {W H : Int} {xs : List Int} {R : Ending → World → Prop} (h : Img w p len xs) (hc : len ≤ cap)
    (h1 : good W H xs = false → ∀ w', Ext w w' → R (.returned (.tuple #[.pointer none, i64 6])) w')
    (h2 : good W H xs = true → ∀ gb cb w', Ext w w' → w.heap.size ≤ gb → w.heap.size ≤ cb → GridC w' (some ⟨gb, 0, none⟩) gb cb W H (colsOf xs (W * H).toNat) → R (.returned (.tuple #[.pointer (some ⟨gb, 0, none⟩), i64 0])) w') :
    Calls P F.raster_Grid #[.agg #[i64 W, i64 H, .slice p len cap]] w R := by
  refine calls_raster_Grid _ _ _ _ _ _ _ ?_
  intro k1 hk1 w1 hL1
  have hE1 : Ext w w1 := hL1.ext (by simpa using hk1)
  have ht1 := hL1.there k1 (by simp)
  refine good_spec h.len fun w2 hE2 => ⟨_, rfl, hE2.keep _, ?_⟩
  have hE12 := hE1.trans hE2
  have hs12 := hE12.size
  have hs2 := hE2.size
  refine brB_i (fun hb => h1 (by simpa using hb) w2 hE12) (fun hb => ?_)
  have hb : good W H xs = true := by simpa using hb
  obtain ⟨hg, hxl⟩ := good_iff.1 hb
  obtain ⟨g1, g2, g3, g4, g5⟩ := gfits_iff.1 hg
  have hpos : 0 < W * H := Int.mul_pos (by omega) (by omega)
  have hlen := h.len
  rw [wrapmul g1 g2 g3 g4]
  refine ⟨Int.le_refl _, by omega, by omega, by omega, fun k2 w3 hn3 k3 hk3 w4 hL4 => ?_⟩
  have hk2 : k2 = w2.heap.size := hn3.1
  have hk2s := hn3.size
  have hE3 := hE12.trans hn3.ext
  have hs3 := hn3.ext.size
  have hE4 : Ext w w4 := hE3.step hL4.chg (by simp; omega)
  have hs4 := hL4.size
  have ht3 := hL4.there k3 (by simp)
  refine calls_slices_Chunk_uint16 _ _ _ _ _ _ ?_
  intro b1 v1 hn1 b2 v2 hn2
  have hb1 : b1 = w4.heap.size := hn1.1
  have hb2 : b2 = v1.heap.size := hn2.1
  have hb1s := hn1.size
  have hb2s := hn2.size
  have hE5 : Ext w4 v2 := hn1.ext.trans hn2.ext
  have hc1 : Cs v2 b1 [.slice p len cap] := hn1.cs.ext hn2.ext
  have hc2 : Cs v2 b2 [i64 4] := hn2.cs
  refine ⟨_, hc2.cell (i := 0) rfl, brB_f (by simp) ⟨_, _, _, rfl, hE5.keep _, fun k4 w6 hrf I1 Z1 stI stZ hI0 rule => ?_⟩⟩
  have hs5 := hE5.size
  have hk4 := hrf.eq
  have hs6 := hrf.size
  have hE6 := hrf.ext
  have hv1 := hn2.ext.size
  refine callF_i (by kernel_rfl) ?_
  have hav : ∀ b, b ∈ [k4, v2.heap.size, k3, k1, b1, b2] → w.heap.size ≤ b ∧ b < w6.heap.size := by simp; omega
  have hL6 : Locl [k4, v2.heap.size, k3, k1, b1, b2] w6 w6 := ⟨rfl, rfl, rfl, Nat.le_refl _, fun _ _ _ => rfl, fun b hb => (hav b hb).2⟩
  let J : Nat → World → Prop := fun k u => ∃ q c, I1 [.slice q k c] u ∧ Fg [k4, v2.heap.size, k3, k1, b1, b2] w u 4 q k c (cos (colsOf xs k)) ∧ Cs u b1 [.slice p len cap] ∧ Cs u b2 [i64 4] ∧ w6.heap.size ≤ u.heap.size
  refine Chunk_iter (N := 0) J (p := p) (len := len) (cap := cap) (n := (W * H).toNat) (by omega) hc (by omega) (fun k u ⟨q, c, j1, j2, j3, j4, j5⟩ => ⟨j3.cell (i := 0) rfl, j4.cell (i := 0) rfl⟩) ?_ (fun k u hk ⟨q, c, j1, j2, j3, j4, j5⟩ => ?_) (fun u ⟨q, c, j1, j2, j3, j4, j5⟩ => ?_)
  · refine ⟨_, _, hI0, ?_, hc1.ext hE6, hc2.ext hE6, Nat.le_refl _⟩
    have := hn3.own (N := k2) (M := k2 + 1) (vs := []) (len := 0) (cap := (W * H).toNat) (sz := 4) (by simp) (by simp) (by rw [mkCells_length]; simp) (by omega) (by omega) (by rw [hn3.2, hk2]; simp)
    have o4 := ((this.chg hL4.chg (by simp; omega)).ext hE5).ext hE6
    exact Fg.of_owB ((hE4.trans hE5).trans hE6) (o4.owB (by omega)) (fun i hi => by omega) (by simp; omega) hav
  · refine rule _ _ _ _ _ _ u.drew _ (stI _ _ _ j1 ((Ext.refl u).drew.keep _)) fun y5 y6 w12 hP12 => ?_
    have f12 := j2.dr.push (hP12.locl (show k4 < u.heap.size by omega)) (by simp)
    have c12 := j3.drew.put hP12 (by omega)
    have d12 := j4.drew.put hP12 (by omega)
    have hs12' : w12.heap.size = u.heap.size := hP12.size
    have hsl : Sl w12.drew.heap.size w12.drew (slcBase p (4 * k) (4 * k + 4) 1) (px ((xs.drop (4 * k)).take 4)) := by
      have h0 : Sl w12.drew.heap.size w12.drew p (px (xs.take (4 * k + 4))) := ((h.sl.ext f12.dr.ext).up).pre (by
        simp only [px, List.map_take]; exact List.take_prefix _ _)
      refine h0.part (by rw [px_length, List.length_take]; omega) ?_
      simp only [px, List.map_take, List.map_drop, List.drop_take]
      rw [show 4 * k + 4 - 4 * k = 4 by omega]
      exact List.prefix_refl _
    refine colour_spec hsl (by rw [List.length_take, List.length_drop]; omega) (by omega) fun w13 hE13 => ?_
    have ecol : colAt ((xs.drop (4 * k)).take 4) 0 = colAt xs k := by
      rw [← colAt_drop]; simp [colAt, List.getD, List.getElem?_take]
    rw [ecol]
    refine ⟨_, _, _, _, rfl, hE13.keep _, hE13.keeps, fun k9 hk9 w14 hL14 => ?_⟩
    have f13 := f12.dr.step hE13
    have hs13 : w12.heap.size ≤ w13.heap.size := hE13.size
    have c13 := c12.drew.ext hE13
    have d13 := d12.drew.ext hE13
    have f14 := f13.push hL14 (by simp; omega)
    have c14 := c13.locl hL14 (by simp; omega)
    have d14 := d13.locl hL14 (by simp; omega)
    have hs14 := hL14.size
    refine f14.app' (by simp [blocks]) rfl rfl (by omega) (by omega) fun p2 c2 w15 f15 hk15 hs15 w16 hL16 w17 hP17 hI17 => ?_
    have c15 := c14.keep hk15 (by simp)
    have d15 := d14.keep hk15 (by simp)
    have f16 := f15.push hL16 (by simp)
    have c16 := c15.locl hL16 (by simp; omega)
    have d16 := d15.locl hL16 (by simp; omega)
    have hs16 := hL16.size
    have f17 := f16.push (hP17.locl (by omega)) (by simp)
    have c17 := c16.put hP17 (by omega)
    have d17 := d16.put hP17 (by omega)
    have hs17 := hP17.size
    refine .inl ⟨rfl, p2, c2, hI17, ?_, c17, d17, by omega⟩
    have e : colsOf xs (k + 1) = colsOf xs k ++ [colAt xs k] := by simp [colsOf, List.range_succ]
    rw [e, cos_append, cos_one]
    exact f17.mono (by simp)
  · refine ⟨_, rfl, .inl ⟨q, _, _, j1, fun w19 hP19 => ?_⟩⟩
    have hs19 := hP19.size
    have f19 := j2.push (hP19.locl (by omega)) (by simp)
    refine GOf_spec (f19.sl) (by rw [colsOf_length]) hg (by omega) fun gb cb w20 hE20 q1 q2 q3 => ⟨_, _, rfl, hE20.keep _, fun w21 hP21 => ?_⟩
    have hsE := f19.ext.size
    have hs20 := hE20.size
    refine h2 hb gb cb w21 ((f19.ext.trans hE20).step hP21.chg (by omega)) (by omega) (by omega) (q3.chg hP21.chg (by omega) (by omega))
/-! ## one colour -/
end Go.Proofs.Ytijplekhbpigiaa
