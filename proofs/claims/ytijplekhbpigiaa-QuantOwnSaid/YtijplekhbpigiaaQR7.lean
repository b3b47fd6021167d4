/- Grids of colours. -/
import Derived.Test.YtijplekhbpigiaaQR6
namespace Go.Proofs.Ytijplekhbpigiaa
open Go Go.Vc Go.RowKit
set_option maxRecDepth 100000
set_option linter.unusedVariables false
set_option linter.unusedSimpArgs false

theorem callW_i {P : Program} {f : FuncId} {first caps : Array Value} {args : List Value} {w : World} {R : Ending → World → Prop} (hok : FnOk P f = true) (h : Calls P f (first.toList ++ args ++ caps.toList).toArray w R) : callV P (.func (.func f) first caps) args w R := by
  unfold callV
  simp only [hok]
  exact h
theorem cos_oneAll (l : List Co) : oneAll (cos l) = true := by rw [cos_px]; exact px_oneAll _
structure GridC (w : World) (q : Option Addr) (gb cb : Nat) (W H : Int) (l : List Co) : Prop where
  ptr : q = some ⟨gb, 0, none⟩
  cells : ∃ rest c, Cs w gb [i64 W, i64 H, .slice (some ⟨cb, 0, none⟩) l.length c] ∧ l.length ≤ c ∧ Cs w cb (cos l ++ rest)
  ne : gb ≠ cb
  ok : gfits W H = true
  len : W * H = l.length
theorem GridC.chg {w w' : World} {q : Option Addr} {gb cb : Nat} {W H : Int} {l : List Co} {S : Nat → Prop} (h : GridC w q gb cb W H l) (hc : Chg S w w') (h1 : ¬ S gb) (h2 : ¬ S cb) : GridC w' q gb cb W H l := by
  obtain ⟨rest, c, h3, h5, h4⟩ := h.cells
  exact ⟨h.ptr, ⟨rest, c, h3.chg hc h1, h5, h4.chg hc h2⟩, h.ne, h.ok, h.len⟩
theorem GridC.ext {w w' : World} {q : Option Addr} {gb cb : Nat} {W H : Int} {l : List Co} (h : GridC w q gb cb W H l) (hc : Ext w w') : GridC w' q gb cb W H l :=
  h.chg (S := fun _ => False) hc.chg id id
theorem GridC.lt {w : World} {q : Option Addr} {gb cb : Nat} {W H : Int} {l : List Co} (h : GridC w q gb cb W H l) : gb < w.heap.size ∧ cb < w.heap.size := by
  obtain ⟨rest, c, h3, _, h4⟩ := h.cells
  exact ⟨h3.lt, h4.lt⟩
theorem GridC.dims {w : World} {q : Option Addr} {gb cb : Nat} {W H : Int} {l : List Co} (h : GridC w q gb cb W H l) : 1 ≤ W ∧ 1 ≤ H ∧ W ≤ 4096 ∧ H ≤ 4096 ∧ (l.length : Int) ≤ 65536 := by
  have := gfits_iff.1 h.ok
  rw [← h.len]
  exact this
theorem GridC.sl {w : World} {q : Option Addr} {gb cb : Nat} {W H : Int} {l : List Co} (h : GridC w q gb cb W H l) : Sl w.heap.size w (some ⟨cb, 0, none⟩) (cos l) := by
  obtain ⟨rest, c, h3, _, h4⟩ := h.cells
  exact h4.sl (by simp) h4.lt
theorem GW_spec {w : World} {q : Option Addr} {gb cb : Nat} {W H : Int} {l : List Co} {R : Ending → World → Prop} (h : GridC w q gb cb W H l) (hR : R (.returned (i64 W)) w) :
    Calls P F.grid_Grid_api_Color_W #[.pointer q] w R := by
  refine calls_grid_Grid_api_Color_W _ _ _ ?_
  obtain ⟨rest, c, h3, _, h4⟩ := h.cells
  obtain rfl := h.ptr
  exact brB_f rfl (nn_i rfl ⟨_, h3.cell (i := 0) rfl, hR⟩)
theorem GH_spec {w : World} {q : Option Addr} {gb cb : Nat} {W H : Int} {l : List Co} {R : Ending → World → Prop} (h : GridC w q gb cb W H l) (hR : R (.returned (i64 H)) w) :
    Calls P F.grid_Grid_api_Color_H #[.pointer q] w R := by
  refine calls_grid_Grid_api_Color_H _ _ _ ?_
  obtain ⟨rest, c, h3, _, h4⟩ := h.cells
  obtain rfl := h.ptr
  exact brB_f rfl (nn_i rfl ⟨_, h3.cell (i := 1) rfl, hR⟩)
theorem Clones_spec {N : Nat} {w : World} {p : Option Addr} {len cap : Nat} {l : List Co} {R : Ending → World → Prop}
    (h : Sl N w p (cos l)) (hl : len = l.length) (hsz : len * 8 ≤ 2 ^ 47)
    (hR : ∀ p' k w', Ext w w' → Ow w.heap.size w'.heap.size w' p' len k 4 (cos l) → R (.returned (.slice p' len k)) w') :
    Calls P F.slices_Clone_api_Color #[.slice p len cap] w R := by
  refine calls_slices_Clone_api_Color _ _ _ _ _ ?_
  unfold vc_slices_Clone_api_Color
  refine brB_i (fun hn => ?_) (fun _ k1 w1 hnew => ⟨cos l, by rw [cos_length]; omega, cos_oneAll _, (h.ext hnew.ext).cells, ?_⟩)
  · have hx : l = [] := by
      cases l with
      | nil => rfl
      | cons x xs => obtain ⟨a, ha, _⟩ := h 0 (u16 x.1) rfl; subst ha; cases hn
    subst hx
    have hl0 : len = 0 := by simpa using hl
    subst hl0
    exact hR none 0 w (Ext.refl w) (Ow.nil _ _ _ _ _)
  · have hsz' := hnew.ext.size
    refine (Ow.nil w.heap.size w1.heap.size w1 (some ⟨k1, 0, none⟩) 4).app (by simp [blocks]) hsz' (Nat.le_refl _) rfl (by rw [cos_length]; omega) (by omega) (by omega) fun p' k w2 ho hc => ?_
    rw [Nat.zero_add] at ho ⊢
    exact hR p' k w2 (hnew.ext.step hc fun i hi => hi.1) (by simpa using ho)
theorem GOf_spec {N : Nat} {w : World} {p : Option Addr} {len cap : Nat} {W H : Int} {l : List Co} {R : Ending → World → Prop}
    (h : Sl N w p (cos l)) (hl : len = l.length) (hg : gfits W H = true) (hn : (len : Int) = W * H)
    (hR : ∀ gb cb w', Ext w w' → w.heap.size ≤ gb → w.heap.size ≤ cb → GridC w' (some ⟨gb, 0, none⟩) gb cb W H l → R (.returned (.tuple #[.pointer (some ⟨gb, 0, none⟩), i64 0])) w') :
    Calls P F.grid_Of_api_Color #[i64 W, i64 H, .slice p len cap] w R := by
  refine calls_grid_Of_api_Color _ _ _ _ _ _ _ ?_
  obtain ⟨g0, g1, g2, g3, g4⟩ := gfits_iff.1 hg
  have hpos : 0 < W * H := Int.mul_pos (by omega) (by omega)
  refine fits_spec ⟨_, rfl, brB_f (by simp [hg]) ?_⟩
  rw [wrapmul g0 g1 g2 g3]
  refine brB_f (by simp [hn]) ?_
  refine Clones_spec h hl (by omega) fun p' k w' hE ho => ⟨_, _, _, rfl, fun k3 w3 hnew => ?_⟩
  obtain ⟨ho1, ho2, ho3⟩ := ho
  have hs := hE.size
  rcases ho3 with ho3 | ⟨b, rest, hb1, hb2, rfl, hcap, hcs⟩
  · omega
  · have hcs' := hcs.ext hnew.ext
    refine hR k3 b w3 (hE.trans hnew.ext) (by rw [hnew.1]; exact hs) hb1 ⟨rfl, ⟨rest, k, ?_, by omega, hcs'⟩, ?_, hg, by omega⟩
    · have := hnew.cs
      rw [← hl]; exact this
    · have := hnew.1; omega
theorem cos_rep (n : Nat) (c : Co) : rep n (co c) = cos (List.replicate n c) := by
  induction n with
  | zero => rfl
  | succ n ih => rw [List.replicate_succ, rep, ih]; simp [cos, cellsF]
end Go.Proofs.Ytijplekhbpigiaa
