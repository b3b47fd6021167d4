/- Bmp: counting bits, tones, numbers of a head. -/
import Derived.Test.YtijplekhbpigiaaQR8
namespace Go.Proofs.Ytijplekhbpigiaa
open Go Go.Vc Go.RowKit
set_option maxRecDepth 100000
set_option linter.unusedVariables false
set_option linter.unusedSimpArgs false

theorem ret_eq {R : Ending → World → Prop} {w : World} {v u : Value} (h : R (.returned v) w) (e : u = v) : R (.returned u) w := e ▸ h
/-- the program's table stands in its place -/
theorem quoN {a b : Int} (h0 : 0 ≤ a) (h1 : a ≤ 2 ^ 60) (hb : 1 ≤ b) : divZ .quo .i64 a b = a / b := by
  simp only [divZ]
  rw [Int.tdiv_eq_ediv_of_nonneg h0, w64]
  · have := Int.ediv_nonneg h0 (show 0 ≤ b by omega); omega
  · have := Int.ediv_le_self b h0; omega
theorem remN {a n : Int} (h0 : 0 ≤ a) (k : IntKind) : divZ .rem k a n = a % n := by simp only [divZ]; exact Int.tmod_eq_emod_of_nonneg h0

/-! ## Tones -/
def upV (v most : Int) : Int := (65535 * v + most / 2) / most
def dnV (v most : Int) : Int := (v * most + 32767) / 65535
theorem upV_range {v most : Int} (h0 : 0 ≤ v) (h1 : v ≤ most) (h2 : 1 ≤ most) : 0 ≤ upV v most ∧ upV v most ≤ 65535 := by
  unfold upV
  refine ⟨Int.ediv_nonneg (by omega) (by omega), ?_⟩
  have : (65535 * v + most / 2) / most < 65536 := Int.ediv_lt_of_lt_mul (by omega) (by omega)
  omega
theorem dnV_range {v most : Int} (h0 : 0 ≤ v) (h1 : v ≤ 65535) (h2 : 1 ≤ most) : 0 ≤ dnV v most ∧ dnV v most ≤ most := by
  unfold dnV
  have p0 : 0 ≤ v * most := Int.mul_nonneg h0 (by omega)
  have p1 : v * most ≤ 65535 * most := Int.mul_le_mul_of_nonneg_right h1 (by omega)
  omega
theorem up_val {v most : Int} (h2 : 1 ≤ most) (h3 : most ≤ 65535) (h0 : 0 ≤ v) (h1 : v ≤ most) : IntKind.u16.wrap (divZ .quo .i64 (IntKind.i64.wrap (IntKind.i64.wrap (65535 * v) + divZ .quo .i64 most 2)) most) = upV v most := by
  have hr := upV_range h0 h1 h2
  rw [w64 (x := 65535 * v) (by omega) (by omega), quoN (a := most) (by omega) (by omega) (by omega), w64 (by omega) (by omega), quoN (by omega) (by omega) h2]
  exact wu16 hr.1 (by have := hr.2; unfold upV at this; omega)
theorem rUp_spec {v most : Int} {w : World} {R : Ending → World → Prop} (h2 : 1 ≤ most) (h3 : most ≤ 65535) (h0 : 0 ≤ v) (h1 : v ≤ most) (hR : R (.returned (.tuple #[u16 (upV v most), i64 0])) w) : Calls P F.ref08_Up #[i64 v, i64 most] w R := by
  refine calls_ref08_Up _ _ _ _ ?_
  unfold vc_ref08_Up
  refine brB_f (by simp; omega) ⟨by omega, ?_⟩
  rw [up_val h2 h3 h0 h1]; exact hR
theorem dn_val {v : Int} (h0 : 0 ≤ v) (h1 : v ≤ 65535) : divZ .quo .i64 (IntKind.i64.wrap (IntKind.i64.wrap (IntKind.i64.wrap v * 255) + 32767)) 65535 = dnV v 255 := by
  rw [w64 (x := v) (by omega) (by omega), w64 (x := v * 255) (by omega) (by omega), w64 (by omega) (by omega), quoN (by omega) (by omega) (by omega)]
  rfl
theorem Down_spec {v : Int} {w : World} {R : Ending → World → Prop} (h0 : 0 ≤ v) (h1 : v ≤ 65535) (hR : R (.returned (.tuple #[i64 (dnV v 255), i64 0])) w) : Calls P F.tones_Down #[u16 v, i64 255] w R := by
  refine calls_tones_Down _ _ _ _ ?_
  unfold vc_tones_Down
  refine brB_f (by simp) ?_
  rw [dn_val h0 h1]; exact hR
theorem rDown_spec {v : Int} {w : World} {R : Ending → World → Prop} (h0 : 0 ≤ v) (h1 : v ≤ 65535) (hR : R (.returned (.tuple #[i64 (dnV v 255), i64 0])) w) : Calls P F.ref08_Down #[u16 v, i64 255] w R := by
  refine calls_ref08_Down _ _ _ _ ?_
  unfold vc_ref08_Down
  refine brB_f (by simp) ?_
  rw [dn_val h0 h1]; exact hR
def roundV (v : Int) : Int := upV (dnV v 255) 255
theorem Round_spec {v : Int} {w : World} {R : Ending → World → Prop} (h0 : 0 ≤ v) (h1 : v ≤ 65535) (hR : R (.returned (u16 (roundV v))) w) : Calls P F.ref08_Round #[u16 v, i64 255] w R := by
  refine calls_ref08_Round _ _ _ _ ?_
  unfold vc_ref08_Round
  have hd := dnV_range h0 h1 (most := 255) (by omega)
  exact rDown_spec h0 h1 ⟨_, _, rfl, rUp_spec (by omega) (by omega) hd.1 hd.2 ⟨_, _, rfl, hR⟩⟩
/-! ## Bits that stand side by side: the document's -/
end Go.Proofs.Ytijplekhbpigiaa
