/- GridNil: its function answers true, and nothing that was there turns. -/
import Derived.Test.YtpdfpbioolbjjaaGrid3
namespace Go.Proofs.Ytpdfpbioolbjjaa
open Go Go.Vc Go.RowKit
set_option maxRecDepth 100000
set_option linter.unusedVariables false
set_option linter.unusedSimpArgs false

theorem hasNil_spec {w : World} {x y : Int} {R : Ending → World → Prop} (hR : R (.returned (.bool false)) w) : Calls P F.grid_Grid_string_has #[.pointer none, i64 x, i64 y] w R :=
  calls_grid_Grid_string_has _ _ _ _ _ (brB_f rfl hR)
theorem WNil_spec {w : World} {R : Ending → World → Prop} (hR : R (.returned (i64 0)) w) : Calls P F.grid_Grid_string_W #[.pointer none] w R :=
  calls_grid_Grid_string_W _ _ _ (brB_t rfl hR)
theorem HNil_spec {w : World} {R : Ending → World → Prop} (hR : R (.returned (i64 0)) w) : Calls P F.grid_Grid_string_H #[.pointer none] w R :=
  calls_grid_Grid_string_H _ _ _ (brB_t rfl hR)
theorem RowsNil_iter {w : World} {fr : Addr} {yl : Nat} {R : Ending → World → Prop} (h : w.cell? fr = some (.pointer none)) (hR : R (.returned (.tuple #[])) w) :
    Calls P F.grid_Grid_string_Rows_fn1 #[.func (.yield yl) #[] #[], .pointer (some fr)] w R := by
  refine calls_grid_Grid_string_Rows_fn1 _ _ _ _ ⟨_, h, HNil_spec ⟨_, rfl, fun vs w' => vs = [i64 0] ∧ w' = w, fun _ _ => 0, ⟨rfl, rfl⟩, fun n w' hI => ?_⟩⟩
  obtain ⟨h1, rfl⟩ := hI
  simp only [List.cons.injEq, Value.int.injEq, and_true, true_and] at h1
  subst h1
  exact brB_f rfl hR
theorem nil_walk {w : World} {x y : Int} {R : Ending → World → Prop}
    (_ : (Lit.int .i64 x).wf = true) (_ : (Lit.int .i64 y).wf = true) (hR : ∀ w', Ext w w' → R (.returned (.bool true)) w') :
    Calls P F.law07_GridNil #[i64 x, i64 y] w R := by
  refine calls_law07_GridNil _ _ _ _ ?_
  refine wakes_spec fun w1 hE1 => ⟨_, rfl, brB_f rfl ?_⟩
  refine calls_grid_Grid_string_At _ _ _ _ _ (hasNil_spec ⟨_, rfl, brB_t rfl ⟨_, _, rfl, ?_⟩⟩)
  refine calls_grid_Grid_string_Crop _ _ _ _ _ _ _ (brB_t rfl ⟨_, _, rfl, fun k1 hk1 w4 hL4 => ?_⟩)
  have hE4 : Ext w1 w4 := hL4.ext (by simpa using hk1)
  refine calls_grid_Grid_string_Rows _ _ _ fun kb w5 hn => ⟨_, _, _, rfl, hn.ext.keep _, fun k2 w6 hrf J Z stJ stZ hJ0 rule => ?_⟩
  refine callF_i (by kernel_rfl) ?_
  refine RowsNil_iter ((hn.cs.ext hrf.ext).cell (i := 0) rfl) ⟨_, rfl, .inl ⟨_, hJ0, fun w16 hp => brB_t rfl ?_⟩⟩
  have hE6 := ((hE1.trans hE4).trans hn.ext).trans hrf.ext
  have hk2 := hrf.eq
  have hs5 := ((hE1.trans hE4).trans hn.ext).size
  have hE16 : Ext w w16 := hE6.step hp.chg (by simp; omega)
  refine calls_grid_Grid_string_Set _ _ _ _ _ _ (hasNil_spec ⟨_, rfl, brB_t rfl ⟨_, rfl, (Ext.refl _).keep _, brB_t rfl ?_⟩⟩)
  refine calls_grid_Grid_string_Paste _ _ _ _ _ _ (brB_t rfl ⟨_, rfl, (Ext.refl _).keep _, brB_t rfl ?_⟩)
  refine WNil_spec ⟨_, rfl, (Ext.refl _).keep _, Keeps.refl _, ?_⟩
  refine HNil_spec ⟨_, rfl, (Ext.refl _).keep _, Keeps.refl _, ?_⟩
  refine calls_grid_Grid_string_Cells _ _ _ (brB_t rfl ⟨_, _, _, rfl, (Ext.refl _).keep _, Keeps.refl _, fun w22 hp22 => ?_⟩)
  exact to_bool (hR _ (hE16.drew.step hp22.chg (by simp; omega))) rfl
end Go.Proofs.Ytpdfpbioolbjjaa
