/- Grids of colours. -/
import Derived.Test.YtombfebgojeliaaBR6
namespace Go.Proofs.Ytombfebgojeliaa
open Go Go.Vc Go.RowKit
set_option maxRecDepth 100000
set_option linter.unusedVariables false
set_option linter.unusedSimpArgs false

theorem callW_i {P : Program} {f : FuncId} {first caps : Array Value} {args : List Value} {w : World} {R : Ending → World → Prop} (hok : FnOk P f = true) (h : Calls P f (first.toList ++ args ++ caps.toList).toArray w R) : callV P (.func (.func f) first caps) args w R := by
  unfold callV
  simp only [hok]
  exact h
theorem cos_oneAll (l : List Co) : oneAll (cos l) = true := by rw [cos_px]; exact px_oneAll _
structure GridC (w : World) (q : Option Addr) (gb cb : Nat) (W H : Int) (l : List Co) : Prop where
  ptr : q = some ⟨gb, 0, none⟩
  cells : ∃ rest c, Cs w gb [i64 W, i64 H, .slice (some ⟨cb, 0, none⟩) l.length c] ∧ l.length ≤ c ∧ Cs w cb (cos l ++ rest)
  ne : gb ≠ cb
  ok : gfits W H = true
  len : W * H = l.length
theorem GridC.chg {w w' : World} {q : Option Addr} {gb cb : Nat} {W H : Int} {l : List Co} {S : Nat → Prop} (h : GridC w q gb cb W H l) (hc : Chg S w w') (h1 : ¬ S gb) (h2 : ¬ S cb) : GridC w' q gb cb W H l := by
  obtain ⟨rest, c, h3, h5, h4⟩ := h.cells
  exact ⟨h.ptr, ⟨rest, c, h3.chg hc h1, h5, h4.chg hc h2⟩, h.ne, h.ok, h.len⟩
theorem GridC.ext {w w' : World} {q : Option Addr} {gb cb : Nat} {W H : Int} {l : List Co} (h : GridC w q gb cb W H l) (hc : Ext w w') : GridC w' q gb cb W H l :=
  h.chg (S := fun _ => False) hc.chg id id
theorem GridC.lt {w : World} {q : Option Addr} {gb cb : Nat} {W H : Int} {l : List Co} (h : GridC w q gb cb W H l) : gb < w.heap.size ∧ cb < w.heap.size := by
  obtain ⟨rest, c, h3, _, h4⟩ := h.cells
  exact ⟨h3.lt, h4.lt⟩
theorem GridC.dims {w : World} {q : Option Addr} {gb cb : Nat} {W H : Int} {l : List Co} (h : GridC w q gb cb W H l) : 1 ≤ W ∧ 1 ≤ H ∧ W ≤ 4096 ∧ H ≤ 4096 ∧ (l.length : Int) ≤ 65536 := by
  have := gfits_iff.1 h.ok
  rw [← h.len]
  exact this
theorem GridC.sl {w : World} {q : Option Addr} {gb cb : Nat} {W H : Int} {l : List Co} (h : GridC w q gb cb W H l) : Sl w.heap.size w (some ⟨cb, 0, none⟩) (cos l) := by
  obtain ⟨rest, c, h3, _, h4⟩ := h.cells
  exact h4.sl (by simp) h4.lt
theorem GW_spec {w : World} {q : Option Addr} {gb cb : Nat} {W H : Int} {l : List Co} {R : Ending → World → Prop} (h : GridC w q gb cb W H l) (hR : R (.returned (i64 W)) w) :
    Calls P F.grid_Grid_api_Color_W #[.pointer q] w R := by
  refine calls_grid_Grid_api_Color_W _ _ _ ?_
  obtain ⟨rest, c, h3, _, h4⟩ := h.cells
  obtain rfl := h.ptr
  exact brB_f rfl (nn_i rfl ⟨_, h3.cell (i := 0) rfl, hR⟩)
theorem GH_spec {w : World} {q : Option Addr} {gb cb : Nat} {W H : Int} {l : List Co} {R : Ending → World → Prop} (h : GridC w q gb cb W H l) (hR : R (.returned (i64 H)) w) :
    Calls P F.grid_Grid_api_Color_H #[.pointer q] w R := by
  refine calls_grid_Grid_api_Color_H _ _ _ ?_
  obtain ⟨rest, c, h3, _, h4⟩ := h.cells
  obtain rfl := h.ptr
  exact brB_f rfl (nn_i rfl ⟨_, h3.cell (i := 1) rfl, hR⟩)
theorem Clones_spec {N : Nat} {w : World} {p : Option Addr} {len cap : Nat} {l : List Co} {R : Ending → World → Prop}
    (h : Sl N w p (cos l)) (hl : len = l.length) (hsz : len * 8 ≤ 2 ^ 47)
    (hR : ∀ p' k w', Ext w w' → Ow w.heap.size w'.heap.size w' p' len k 4 (cos l) → R (.returned (.slice p' len k)) w') :
    Calls P F.slices_Clone_api_Color #[.slice p len cap] w R := by
  refine calls_slices_Clone_api_Color _ _ _ _ _ ?_
  unfold vc_slices_Clone_api_Color
  refine brB_i (fun hn => ?_) (fun _ k1 w1 hnew => ⟨cos l, by rw [cos_length]; omega, cos_oneAll _, (h.ext hnew.ext).cells, ?_⟩)
  · have hx : l = [] := by
      cases l with
      | nil => rfl
      | cons x xs => obtain ⟨a, ha, _⟩ := h 0 (u16 x.1) rfl; subst ha; cases hn
    subst hx
    have hl0 : len = 0 := by simpa using hl
    subst hl0
    exact hR none 0 w (Ext.refl w) (Ow.nil _ _ _ _ _)
  · have hsz' := hnew.ext.size
    refine (Ow.nil w.heap.size w1.heap.size w1 (some ⟨k1, 0, none⟩) 4).app (by simp [blocks]) hsz' (Nat.le_refl _) rfl (by rw [cos_length]; omega) (by omega) (by omega) fun p' k w2 ho hc => ?_
    rw [Nat.zero_add] at ho ⊢
    exact hR p' k w2 (hnew.ext.step hc fun i hi => hi.1) (by simpa using ho)
theorem GOf_spec {N : Nat} {w : World} {p : Option Addr} {len cap : Nat} {W H : Int} {l : List Co} {R : Ending → World → Prop}
    (h : Sl N w p (cos l)) (hl : len = l.length) (hg : gfits W H = true) (hn : (len : Int) = W * H)
    (hR : ∀ gb cb w', Ext w w' → w.heap.size ≤ gb → w.heap.size ≤ cb → GridC w' (some ⟨gb, 0, none⟩) gb cb W H l → R (.returned (.tuple #[.pointer (some ⟨gb, 0, none⟩), i64 0])) w') :
    Calls P F.grid_Of_api_Color #[i64 W, i64 H, .slice p len cap] w R := by
  refine calls_grid_Of_api_Color _ _ _ _ _ _ _ ?_
  obtain ⟨g0, g1, g2, g3, g4⟩ := gfits_iff.1 hg
  have hpos : 0 < W * H := Int.mul_pos (by omega) (by omega)
  refine fits_spec ⟨_, rfl, brB_f (by simp [hg]) ?_⟩
  rw [wrapmul g0 g1 g2 g3]
  refine brB_f (by simp [hn]) ?_
  refine Clones_spec h hl (by omega) fun p' k w' hE ho => ⟨_, _, _, rfl, fun k3 w3 hnew => ?_⟩
  obtain ⟨ho1, ho2, ho3⟩ := ho
  have hs := hE.size
  rcases ho3 with ho3 | ⟨b, rest, hb1, hb2, rfl, hcap, hcs⟩
  · omega
  · have hcs' := hcs.ext hnew.ext
    refine hR k3 b w3 (hE.trans hnew.ext) (by rw [hnew.1]; exact hs) hb1 ⟨rfl, ⟨rest, k, ?_, by omega, hcs'⟩, ?_, hg, by omega⟩
    · have := hnew.cs
      rw [← hl]; exact this
    · have := hnew.1; omega
theorem cos_rep (n : Nat) (c : Co) : rep n (co c) = cos (List.replicate n c) := by
  induction n with
  | zero => rfl
  | succ n ih => rw [List.replicate_succ, rep, ih]; simp [cos, cellsF]
theorem GNew_spec {w : World} {W H : Int} {R : Ending → World → Prop}
    (h1 : gfits W H = false → R (.returned (.tuple #[.pointer none, i64 4])) w)
    (h2 : gfits W H = true → ∀ gb cb w', Ext w w' → w.heap.size ≤ gb → w.heap.size ≤ cb → GridC w' (some ⟨gb, 0, none⟩) gb cb W H (List.replicate (W * H).toNat zeroC) → R (.returned (.tuple #[.pointer (some ⟨gb, 0, none⟩), i64 0])) w') :
    Calls P F.grid_New_api_Color #[i64 W, i64 H] w R := by
  refine calls_grid_New_api_Color _ _ _ _ ?_
  refine fits_spec ⟨_, rfl, brB_i (fun hb => h1 (by simpa using hb)) (fun hb => ?_)⟩
  have hb : gfits W H = true := by simpa using hb
  obtain ⟨g0, g1, g2, g3, g4⟩ := gfits_iff.1 hb
  rw [wrapmul g0 g1 g2 g3]
  have hpos : 0 < W * H := Int.mul_pos (by omega) (by omega)
  refine ⟨by omega, Int.le_refl _, by omega, by omega, fun k1 w2 hn1 k2 w3 hn2 => ?_⟩
  have hs := hn1.ext.size
  have hs1 := hn1.size
  have hb1 : k1 = w.heap.size := hn1.1
  have hb2 : k2 = w2.heap.size := hn2.1
  have hc := hn1.cs
  rw [mkCells_rep, show [u16 0, u16 0, u16 0, u16 0] = co zeroC from rfl, cos_rep] at hc
  refine h2 hb k2 k1 w3 (hn1.ext.trans hn2.ext) (by omega) (by omega) ⟨rfl, ⟨[], (W * H).toNat, ?_, by simp, ?_⟩, by omega, hb, by simp; omega⟩
  · have := hn2.cs
    simpa using this
  · simpa using hc.ext hn2.ext
theorem GMap_spec {w : World} {q : Option Addr} {gb cb : Nat} {W H : Int} {l : List Co} {va : Value} {f : Co → Co} {R : Ending → World → Prop} (h : GridC w q gb cb W H l)
    (hf : ∀ (c : Co) (u : World) (K : Ending → World → Prop), Ext w u → (∀ u', Ext u u' → K (.returned (.agg (co (f c)).toArray)) u') → callV P va [.agg (co c).toArray] u K)
    (hR : ∀ g c w', Ext w w' → w.heap.size ≤ g → w.heap.size ≤ c → GridC w' (some ⟨g, 0, none⟩) g c W H (l.map f) → R (.returned (.pointer (some ⟨g, 0, none⟩))) w') :
    Calls P F.grid_Map_api_Color_api_Color #[.pointer q, va] w R := by
  refine calls_grid_Map_api_Color_api_Color _ _ _ _ ?_
  have hd := h.dims
  have hlen := h.len
  have hok := h.ok
  have hsl := h.sl
  have hlt := h.lt
  obtain ⟨rest, cc, h3, h5, h4⟩ := h.cells
  obtain rfl := h.ptr
  have hdr := (Ext.refl w).drew
  unfold vc_grid_Map_api_Color_api_Color
  refine brB_f rfl (nn_i rfl ⟨_, h3.drew.cell (i := 0) rfl, nn_i rfl ⟨_, h3.drew.cell (i := 1) rfl, nn_i rfl ⟨_, _, _, h3.drew.cell (i := 2) rfl, Int.le_refl _, by omega, by omega, by omega, ?_⟩⟩⟩)
  intro k3 w1 hn1 k4 w2 hn2
  have hE1 := hdr.trans hn1.ext
  have hE2 := hE1.trans hn2.ext
  have hk3 : w.heap.size = k3 := hn1.1.symm
  have hk4 : w1.heap.size = k4 := hn2.1.symm
  have hs1 := hn1.size
  have hs2 := hn2.size
  have ho1 : Fg [k4] w w2 4 (some ⟨k3, 0, none⟩) 0 l.length (cos ((l.map f).take 0)) := by
    have := hn1.own (N := k3) (M := k4) (vs := []) (len := 0) (cap := l.length) (sz := 4) (by simp) (by simp) (by rw [mkCells_length]; simp) (by omega) (by exact Nat.le_of_eq hk3.symm) (by omega)
    exact Fg.of_owB hE2 ((this.ext hn2.ext).owB (by omega)) (fun i hi => by omega) (by simp) (by simp; omega)
  refine nn_i rfl ⟨_, _, _, (h3.ext hE2).cell (i := 2) rfl, ?_⟩
  refine ⟨fun vs w' => match vs with | [.int _ n] => 0 ≤ n ∧ n ≤ l.length ∧ ∃ p cap, Cs w' k4 [i64 W, i64 H, .slice p n.toNat cap] ∧ Fg [k4] w w' 4 p n.toNat cap (cos ((l.map f).take n.toNat)) | _ => False,
    fun vs _ => match vs with | [.int _ n] => (l.length - n).toNat | _ => 0, ⟨Int.le_refl _, by omega, _, _, hn2.cs, ho1⟩, fun n w3 hI => ?_⟩
  obtain ⟨n0, n1, p, cap, hcs, ho⟩ := hI
  refine brB_i (fun hltn => ?_) (fun hge => ?_)
  · have hltn : n < l.length := by simpa using hltn
    have hnl : n.toNat < l.length := by omega
    have hk43 := hcs.lt
    refine cos_elem (hsl.ext ho.ext) rfl n0 hltn fun a e1 e2 e3 e4 => ⟨_, _, _, _, e1, e2, e3, e4, fun k7 hk7 w4 hL4 => ?_⟩
    have ho4 := ho.locl (hL4.wide (cs := [k4]) (by simpa using hk43)) (by simp; omega)
    have hcs4 := hcs.chg hL4.chg (by simp; omega)
    refine ⟨_, _, _, hcs4.cell (i := 2) rfl, ?_⟩
    refine hf (l.getD n.toNat zeroC) _ _ ho4.ext fun w5 hE5 => ⟨_, _, _, _, rfl, hE5.keep _, hE5.keeps, fun k10 hk10 w6 hL6 => ?_⟩
    have ho5 := ho4.step hE5
    have hcs5 := hcs4.ext hE5
    have hk45 := hcs5.lt
    have hs4 := hL4.size
    have hs5 := hE5.size
    have ho6 := ho5.locl (hL6.wide (cs := [k4]) (by simpa using hk45)) (by simp; omega)
    have hcs6 := hcs5.chg hL6.chg (by simp; omega)
    refine ho6.app' (by simp [blocks]) rfl rfl (by omega) (by omega) fun p' c' w7 ho7 hk7' hs7 => ?_
    have hcs7 : Cs w7 k4 [i64 W, i64 H, .slice p n.toNat cap] := by
      obtain ⟨e, he⟩ := hcs6
      exact ⟨e, by rw [(hk7' k4 (by simp) (Cs.lt ⟨e, he⟩)).2]; exact he⟩
    have hset := Chg.setCells w7 ⟨k4, 2, none⟩ [.slice p' (n.toNat + 1) c'] 0
    have hL8 : Locl [k10, k7, k4] w7 (setCells w7 ⟨k4, 2, none⟩ [.slice p' (n.toNat + 1) c'] 0) :=
      ⟨hset.os, hset.tape, hset.output, hset.size, fun k hk hn => hset.block k hk (fun e => hn (by have e : k = k4 := e; simp [e])), fun b hb => Nat.lt_of_lt_of_le (ho7.avs b hb).2 hset.size⟩
    have ho8 := ho7.locl hL8 (fun b hb => .inl hb)
    rw [w64 (x := n + 1) (by omega) (by omega)]
    refine ⟨⟨_, hcs7.cell (i := 2) rfl⟩, hcs7.frozen 2, by simp; omega, ⟨by omega, by omega, p', c', ?_, ?_⟩, ?_⟩
    · rw [show (n + 1).toNat = n.toNat + 1 by omega]; exact hcs7.set1 (by simp)
    · rw [show (n + 1).toNat = n.toNat + 1 by omega, List.take_succ_eq_append_getElem (by simpa using hnl), cos_append, cos_one]
      have e : (l.map f)[n.toNat]'(by simpa using hnl) = f (l.getD n.toNat zeroC) := by simp [List.getD, hnl]
      rw [e]
      exact ho8.mono (by simp)
    · show (l.length - (n + 1)).toNat < (l.length - n).toNat
      omega
  · have hge : n = l.length := by simp at hge; omega
    subst hge
    have e : ((l.map f).take ((l.length : Int)).toNat) = l.map f := List.take_of_length_le (by simp)
    rw [e] at ho
    have hpos : 0 < W * H := Int.mul_pos (by omega) (by omega)
    obtain ⟨S, q1, q3, q2⟩ := ho.own
    obtain ⟨o1, o2, o3⟩ := q2.own
    rcases o3 with o3 | ⟨b, rest', o3, o4, o5, o6⟩
    · simp at o2; omega
    · subst o4
      refine hR k4 b w3 ho.ext (by omega) (q1 b o3) ⟨rfl, ⟨rest', cap, ?_, by simpa using o2, o6⟩, fun e => q3 k4 (by simp) (e ▸ o3), hok, by simpa using hlen⟩
      simpa using hcs
theorem Ghas_spec {w : World} {q : Option Addr} {gb cb : Nat} {W H x y : Int} {l : List Co} {R : Ending → World → Prop} (h : GridC w q gb cb W H l) (hR : R (.returned (.bool (decide (0 ≤ x ∧ 0 ≤ y ∧ x < W ∧ y < H)))) w) :
    Calls P F.grid_Grid_api_Color_has #[.pointer q, i64 x, i64 y] w R := by
  refine calls_grid_Grid_api_Color_has _ _ _ _ _ ?_
  obtain ⟨rest, c, h3, _, h4⟩ := h.cells
  obtain rfl := h.ptr
  unfold vc_grid_Grid_api_Color_has
  refine brB_i (fun hb => ?_) (fun hb => ?_)
  · refine nn_i rfl ⟨_, h3.cell (i := 0) rfl, brB_i (fun hx => nn_i rfl ⟨_, h3.cell (i := 1) rfl, to_bool hR ?_⟩) (fun hx => to_bool hR ?_)⟩
    · simp at hb hx; simp [hb, hx]
    · simp at hb hx; simp [hb]; omega
  · refine to_bool hR ?_
    simp at hb; simp; omega
end Go.Proofs.Ytombfebgojeliaa
