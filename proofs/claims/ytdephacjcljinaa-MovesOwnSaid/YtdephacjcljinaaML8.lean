/- Moves: parts of grids; trimming: the program. -/
import Derived.Test.YtdephacjcljinaaML7
namespace Go.Proofs.Ytdephacjcljinaa
open Go Go.Vc Go.RowKit
set_option maxRecDepth 100000
set_option linter.unusedVariables false
set_option linter.unusedSimpArgs false

def cropL (l : List Co) (W x y : Int) (a : Nat) : Nat → List Co
  | 0 => []
  | k + 1 => cropL l W x y a k ++ (l.drop ((y + k) * W + x).toNat).take a
theorem cropL_flat {l : List Co} {W H x y : Int} {a b : Int} (hg : gfits W H = true) (hr : inR x y a b W H = true) : ∀ k : Nat, (k : Int) ≤ b → flat (cropL l W x y a.toNat k) = cropX (flat l) W x y a.toNat k
  | 0, _ => rfl
  | k + 1, h => by
    obtain ⟨q1, q2, q3, q4⟩ := rowAt hg hr (k := k) (by omega) (by omega)
    rw [cropL, cropX, flat_append', cropL_flat hg hr k (by omega), flat_take, flat_drop, rowX]
    rw [show (4 * ((y + (k : Int)) * W + x)).toNat = 4 * ((y + (k : Int)) * W + x).toNat by omega]
theorem cropL_length {l : List Co} {W H x y : Int} {a b : Int} (hg : gfits W H = true) (hr : inR x y a b W H = true) (hl : W * H = l.length) : ∀ k : Nat, (k : Int) ≤ b → (cropL l W x y a.toNat k).length = k * a.toNat
  | 0, _ => by simp [cropL]
  | k + 1, h => by
    obtain ⟨q1, q2, q3, q4⟩ := rowAt hg hr (k := k) (by omega) (by omega)
    rw [cropL, List.length_append, cropL_length hg hr hl k (by omega), List.length_take, List.length_drop, Nat.add_mul]
    have := (inR_iff.1 hr).1
    omega
set_option maxHeartbeats 2000000 in
theorem GCrop_spec {w : World} {q : Option Addr} {gb cb : Nat} {W H x y a b : Int} {l : List Co} {R : Ending → World → Prop} (h : GridC w q gb cb W H l) (hin : inR x y a b W H = true)
    (hR : ∀ g c w', Ext w w' → GridC w' (some ⟨g, 0, none⟩) g c a b (cropL l W x y a.toNat b.toNat) → R (.returned (.tuple #[.pointer (some ⟨g, 0, none⟩), i64 0])) w') :
    Calls P F.grid_Grid_api_Color_Crop #[.pointer q, i64 x, i64 y, i64 a, i64 b] w R := by
  refine calls_grid_Grid_api_Color_Crop _ _ _ _ _ _ _ ?_
  obtain ⟨rest, cc, h3, h5, h4⟩ := h.cells
  have hp := h.ptr
  subst hp
  have hg := h.ok
  have hlen := h.len
  obtain ⟨g1, g2, g3, g4, g5⟩ := gfits_iff.1 hg
  obtain ⟨r1, r2, r3, r4, r5, r6, r7, r8⟩ := inR_iff.1 hin
  have hab : a * b ≤ W * H := Int.mul_le_mul r5 r6 (by omega) (by omega)
  have hpos : 0 < a * b := Int.mul_pos (by omega) (by omega)
  refine brB_f rfl (nn_i rfl ⟨_, h3.drew.cell (i := 0) rfl, brB_f (by simp; omega) (nn_i rfl ⟨_, h3.drew.cell (i := 1) rfl, brB_f (by simp; omega) (nn_i rfl ⟨_, h3.drew.cell (i := 0) rfl, nn_i rfl ⟨_, h3.drew.cell (i := 1) rfl, ?_⟩⟩)⟩)⟩)
  refine calls_grid_within _ _ _ _ _ _ _ _ ?_
  unfold vc_grid_within
  rw [w64 (x := W - a) (by omega) (by omega), w64 (x := H - b) (by omega) (by omega)]
  refine ⟨_, rfl, brB_f (by simp; omega) fun k1 w2 hn => ?_⟩
  have hk1 : k1 = w.heap.size := hn.1
  have hE2 : Ext w w2 := (Ext.refl w).drew.trans hn.ext
  have s2 := hn.size
  have hL2 : Locl [k1] w2 w2 := ⟨rfl, rfl, rfl, Nat.le_refl _, fun _ _ _ => rfl, fun b hb => by simp at hb; omega⟩
  refine ⟨fun vs u => match vs with | [.int _ k] => 0 ≤ k ∧ k ≤ b ∧ ∃ p ln cp, Cs u k1 [i64 a, i64 b, .slice p ln cp] ∧ ln = k.toNat * a.toNat ∧ Fg [k1] w u 4 p ln cp (cos (cropL l W x y a.toNat k.toNat)) | _ => False,
    fun vs _ => match vs with | [.int _ k] => (b - k).toNat | _ => 0, ⟨Int.le_refl _, by omega, none, 0, 0, hn.cs, by simp, ?_⟩, fun k u hI => ?_⟩
  · exact Fg.nil' hE2 hL2 (by simp; omega) 4
  obtain ⟨k0, k1', p, ln, cp, hc, hln, hf⟩ := hI
  refine brB_i (fun hlt => ?_) (fun hge => ?_)
  · have hlt : k < b := by simpa using hlt
    obtain ⟨q1, q2, q3, q4⟩ := rowAt hg hin k0 hlt
    have hu := hf.ext
    refine nn_i rfl ⟨_, ((h3.ext hu)).cell (i := 0) rfl, _, _, _, hc.drew.cell (i := 2) rfl, nn_i rfl ⟨_, _, _, (h3.ext hu).drew.cell (i := 2) rfl, ?_⟩⟩
    rw [q4, w64 (x := (y + k) * W + x + a) (by omega) (by omega)]
    refine ⟨by omega, by omega, by omega, ?_⟩
    have hsl : CellsAre u.drew (slcBase (some ⟨cb, 0, none⟩) ((y + k) * W + x).toNat cc 4) (cos ((l.drop ((y + k) * W + x).toNat).take a.toNat)) := by
      unfold slcBase
      rw [if_neg (by omega), Option.map_some, loc_add, Nat.zero_add]
      refine ((h4.ext hu).drew.sl (off := ((y + k) * W + x).toNat * 4) (us := cos ((l.drop ((y + k) * W + x).toNat).take a.toNat)) ?_ (Nat.lt_succ_self cb)).cells
      have e : l = l.take ((y + k) * W + x).toNat ++ ((l.drop ((y + k) * W + x).toNat).take a.toNat ++ (l.drop ((y + k) * W + x).toNat).drop a.toNat) := by rw [List.take_append_drop, List.take_append_drop]
      have e2 : cos l = cos (l.take ((y + k) * W + x).toNat) ++ (cos ((l.drop ((y + k) * W + x).toNat).take a.toNat) ++ cos ((l.drop ((y + k) * W + x).toNat).drop a.toNat)) := by
        conv => lhs; rw [e]
        rw [cos_append, cos_append]
      have hl1 : (cos (l.take ((y + k) * W + x).toNat)).length = ((y + k) * W + x).toNat * 4 := by rw [cos_length, List.length_take]; omega
      have hd : (cos (l.take ((y + k) * W + x).toNat)).drop (((y + k) * W + x).toNat * 4) = [] := List.drop_eq_nil_of_le (by omega)
      rw [e2, List.append_assoc, List.drop_append_of_le_length (by omega), hd, List.nil_append, List.append_assoc]
      exact List.prefix_append _ _
    have hrl : ((l.drop ((y + k) * W + x).toNat).take a.toNat).length = a.toNat := by rw [List.length_take, List.length_drop]; omega
    have hkab : ((k.toNat + 1) * a.toNat : Nat) ≤ (b * a).toNat := by
      have h1 : (k + 1) * a ≤ b * a := Int.mul_le_mul_of_nonneg_right (by omega) (by omega)
      have h2 : (((k.toNat + 1) * a.toNat : Nat) : Int) = (k + 1) * a := by
        rw [Int.natCast_mul]
        congr 1 <;> omega
      omega
    rw [Int.mul_comm b a, Nat.add_mul] at hkab
    rw [show ((y + k) * W + x + a).toNat - ((y + k) * W + x).toNat = a.toNat by omega]
    refine ⟨_, by rw [cos_length, hrl], cos_oneAll _, hsl, ?_⟩
    refine hf.dr.app' (by simp [blocks]) rfl (by rw [cos_length, hrl]) (by omega) (by omega) fun p' c' u' hf' hk' hs' => ?_
    have hc' := hc.drew.keep hk' (by simp)
    have hset := hc'.set1 (off := 2) (v := .slice p' (ln + a.toNat) c') (by simp)
    have hC := Chg.setCells u' ⟨k1, 2, none⟩ [.slice p' (ln + a.toNat) c'] 0
    refine ⟨⟨_, hc'.cell (i := 2) rfl⟩, hc'.frozen 2, ?_⟩
    rw [w64 (x := k + 1) (by omega) (by omega)]
    have hf2 : Fg [k1] w (setCells u' ⟨k1, 2, none⟩ [.slice p' (ln + a.toNat) c'] 0) 4 p' (ln + a.toNat) c' (cos (cropL l W x y a.toNat k.toNat) ++ cos ((l.drop ((y + k) * W + x).toNat).take a.toNat)) := by
      obtain ⟨S, f1, f3, f2⟩ := hf'.own
      have hav := hf'.avs k1 (by simp)
      refine ⟨hf'.ext.step hC fun i hi => by have hi : i = k1 := hi; omega, ⟨S, f1, f3, f2.chg hC fun i hi e => by have e : i = k1 := e; subst e; exact f3 _ (by simp) hi⟩, fun i hi => ?_⟩
      rw [(setCells_same _ _ _ _).size]; exact hf'.avs i hi
    refine ⟨⟨by omega, by omega, _, _, _, hset, ?_, ?_⟩, by show (b - (k + 1)).toNat < (b - k).toNat; omega⟩
    · rw [show (k + 1).toNat = k.toNat + 1 by omega, Nat.add_mul, hln]; omega
    · rw [show (k + 1).toNat = k.toNat + 1 by omega, cropL, cos_append, show ((k.toNat : Nat) : Int) = k by omega]
      exact hf2
  · have hge : k = b := by simp at hge; omega
    subst hge
    have hL := cropL_length (l := l) hg hin hlen k.toNat (by omega)
    have hab2 : ((k.toNat * a.toNat : Nat) : Int) = a * k := by
      rw [Int.natCast_mul, Int.mul_comm a k]
      congr 1 <;> omega
    obtain ⟨S, f1, f3, f2⟩ := hf.own
    obtain ⟨o1, o2, o3⟩ := f2.own
    rcases o3 with o3 | ⟨bb, rs, o4, o5, o6, o7⟩
    · omega
    refine hR k1 bb u hf.ext ⟨rfl, ⟨rs, cp, ?_, by omega, o7⟩, fun e => f3 k1 (by simp) (e ▸ o4), ?_, ?_⟩
    · rw [hL, ← hln, ← o5]; exact hc
    · have := Int.mul_le_mul r5 r6 (by omega) (by omega)
      exact gfits_iff.2 ⟨r1, r2, by omega, by omega, by omega⟩
    · rw [hL]; omega
theorem GAt_spec {w : World} {q : Option Addr} {gb cb : Nat} {W H x y : Int} {l : List Co} {R : Ending → World → Prop} (h : GridC w q gb cb W H l) (hx0 : 0 ≤ x) (hy0 : 0 ≤ y) (hx : x < W) (hy : y < H)
    (hR : ∀ w', Ext w w' → R (.returned (.tuple #[.agg (co (l.getD (y * W + x).toNat zeroC)).toArray, .bool true])) w') : Calls P F.grid_Grid_api_Color_At #[.pointer q, i64 x, i64 y] w R := by
  refine calls_grid_Grid_api_Color_At _ _ _ _ _ ?_
  intro k1 hk1 w1 hL1
  have hE1 : Ext w w1 := hL1.ext (by simpa using hk1)
  have h1 := h.ext hE1
  refine Ghas_spec h1 ⟨_, rfl, (Ext.refl _).keep _, brB_f (by simp; omega) ?_⟩
  have hsl := h1.sl
  have hlen := h1.len
  obtain ⟨rest, cc, h3, h5, h4⟩ := h1.cells
  obtain ⟨p0, p1, _, p3, _⟩ := pixAt h1.ok (n := 4 * (W * H)) rfl hx0 hy0 hx hy
  refine nn_i h1.ptr ⟨_, _, _, h3.drew.cell (i := 2) rfl, nn_i h1.ptr ⟨_, h3.drew.cell (i := 0) rfl, ?_⟩⟩
  rw [p3]
  refine cos_elem hsl.drew rfl p0 (by omega) fun a e1 e2 e3 e4 => ⟨_, _, _, _, e1, e2, e3, e4, fun w4 hL4 => ?_⟩
  exact hR w4 (hE1.drew.step hL4.chg (by simpa using hk1))
theorem colsOf_get {xs : List Int} {n k : Nat} (h : k < n) : (colsOf xs n).getD k zeroC = colAt xs k := by
  rw [colsOf_getD]; exact h
end Go.Proofs.Ytdephacjcljinaa
