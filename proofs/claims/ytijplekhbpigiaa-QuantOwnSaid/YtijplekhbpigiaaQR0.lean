/- Numbers, sizes, slices of samples and of colours: what the texts on raster share. -/
import Derived.Test.YtijplekhbpigiaaVcs
import Derived.Test.YtijplekhbpigiaaVcM
import Derived.Test.YtijplekhbpigiaaVcS
namespace Go.Proofs.Ytijplekhbpigiaa
open Go Go.Vc Go.RowKit
set_option maxRecDepth 100000
set_option linter.unusedVariables false
set_option linter.unusedSimpArgs false

abbrev i64 (n : Int) : Value := .int .i64 n
abbrev u16 (n : Int) : Value := .int .u16 n
theorem to_bool {R : Ending → World → Prop} {w : World} {b c : Bool} (h : R (.returned (.bool b)) w) (e : b = c) : R (.returned (.bool c)) w := e ▸ h
def gfits (x y : Int) : Bool := decide (1 ≤ x ∧ 1 ≤ y ∧ x ≤ 4096 ∧ y ≤ 4096 ∧ x * y ≤ 65536)
theorem gfits_iff {x y : Int} : gfits x y = true ↔ 1 ≤ x ∧ 1 ≤ y ∧ x ≤ 4096 ∧ y ≤ 4096 ∧ x * y ≤ 65536 := by simp [gfits]
theorem wrapmul {x y : Int} (h0 : 1 ≤ x) (h1 : 1 ≤ y) (h2 : x ≤ 4096) (h3 : y ≤ 4096) : IntKind.i64.wrap (x * y) = x * y := by
  have a : 0 ≤ x * y := Int.mul_nonneg (by omega) (by omega)
  have b : x * y ≤ 4096 * 4096 := Int.mul_le_mul h2 h3 (by omega) (by omega)
  exact w64 (by omega) (by omega)
theorem fitsB {x y : Int} : (decide (min x y ≥ 1) && decide (max x y ≤ 4096) && decide (IntKind.i64.wrap (x * y) ≤ 65536)) = gfits x y := by
  by_cases h : 1 ≤ x ∧ 1 ≤ y ∧ x ≤ 4096 ∧ y ≤ 4096
  · rw [wrapmul h.1 h.2.1 h.2.2.1 h.2.2.2, Bool.eq_iff_iff]; simp only [gfits, Bool.and_eq_true, decide_eq_true_eq]; omega
  · rw [Bool.eq_iff_iff]; simp only [gfits, Bool.and_eq_true, decide_eq_true_eq]
    constructor
    · intro h'; exact (h (by omega)).elim
    · intro h'; exact (h (by omega)).elim
theorem fits_spec {x y : Int} {w : World} {R : Ending → World → Prop} (hR : R (.returned (.bool (gfits x y))) w) : Calls P F.grid_fits #[i64 x, i64 y] w R := by
  refine calls_grid_fits _ _ _ _ ?_
  unfold vc_grid_fits
  rw [fitsB]; exact hR
theorem Fits_spec {x y : Int} {w : World} {R : Ending → World → Prop} (hR : R (.returned (.bool (gfits x y))) w) : Calls P F.ref07_Fits #[i64 x, i64 y] w R := by
  refine calls_ref07_Fits _ _ _ _ ?_
  unfold vc_ref07_Fits
  rw [show (decide (x ≥ 1) && decide (y ≥ 1) && decide (x ≤ 4096) && decide (y ≤ 4096) && decide (IntKind.i64.wrap (x * y) ≤ 65536)) = gfits x y from ?_]
  · exact hR
  · rw [← fitsB]
    congr 1
    rw [Bool.eq_iff_iff]; simp only [Bool.and_eq_true, decide_eq_true_eq]; omega
/-- samples -/
def px (xs : List Int) : List Value := xs.map u16
theorem px_length (xs : List Int) : (px xs).length = xs.length := by simp [px]
theorem px_get {xs : List Int} {i : Nat} (h : i < xs.length) : (px xs)[i]? = some (u16 (xs.getD i 0)) := by simp [px, List.getD, h]
theorem px_append (xs ys : List Int) : px (xs ++ ys) = px xs ++ px ys := by simp [px]
theorem px_oneAll (xs : List Int) : oneAll (px xs) = true := by simp [oneAll, px, Value.oneCell']
/-- colours -/
abbrev Co := Int × Int × Int × Int
def co (c : Co) : List Value := [u16 c.1, u16 c.2.1, u16 c.2.2.1, u16 c.2.2.2]
def coL (c : Co) : List Int := [c.1, c.2.1, c.2.2.1, c.2.2.2]
theorem co_px (c : Co) : co c = px (coL c) := rfl
def cos (l : List Co) : List Value := cellsF co l
theorem cos_length (l : List Co) : (cos l).length = l.length * 4 := cellsF_length (sz := 4) (fun _ => rfl) l
theorem cos_append (a b : List Co) : cos (a ++ b) = cos a ++ cos b := by simp [cos, cellsF]
theorem cos_one (c : Co) : cos [c] = co c := by simp [cos, cellsF]
def flat (l : List Co) : List Int := (l.map coL).flatten
theorem cos_px (l : List Co) : cos l = px (flat l) := by
  induction l with
  | nil => rfl
  | cons c l ih =>
    have h1 : cos (c :: l) = co c ++ cos l := by simp [cos, cellsF]
    have h2 : flat (c :: l) = coL c ++ flat l := by simp [flat]
    rw [h1, h2, px_append, ih, co_px]
theorem flat_length (l : List Co) : (flat l).length = 4 * l.length := by
  have := cos_length l
  rw [cos_px, px_length] at this
  omega
/-- the colour at a place of samples -/
def colAt (xs : List Int) (k : Nat) : Co := (xs.getD (4 * k) 0, xs.getD (4 * k + 1) 0, xs.getD (4 * k + 2) 0, xs.getD (4 * k + 3) 0)
/-- an image: its size fits and its samples are as many as its size asks for -/
def good (W H : Int) (xs : List Int) : Bool := gfits W H && decide ((xs.length : Int) = 4 * (W * H))
theorem good_spec {w : World} {p : Option Addr} {len cap : Nat} {W H : Int} {xs : List Int} {R : Ending → World → Prop} (hl : len = xs.length)
    (hR : ∀ w', Ext w w' → R (.returned (.bool (good W H xs))) w') : Calls P F.raster_Good #[.agg #[i64 W, i64 H, .slice p len cap]] w R := by
  refine calls_raster_Good _ _ _ _ _ _ _ ?_
  intro k1 hk1 w1 hL
  refine to_bool (hR w1 (hL.ext (by simpa using hk1))) ?_
  rw [fitsB, good]
  cases hg : gfits W H with
  | false => rfl
  | true =>
    obtain ⟨h1, h2, h3, h4, h5⟩ := gfits_iff.1 hg
    have hp : 0 ≤ W * H := Int.mul_nonneg (by omega) (by omega)
    have e : 4 * W * H = 4 * (W * H) := Int.mul_assoc _ _ _
    rw [w64 (x := 4 * W) (by omega) (by omega), e, w64 (x := 4 * (W * H)) (by omega) (by omega), hl, Bool.eq_iff_iff]
    simp
theorem refGood_spec {w : World} {p : Option Addr} {len cap : Nat} {W H : Int} {xs : List Int} {R : Ending → World → Prop} (hl : len = xs.length)
    (hR : ∀ w', Ext w w' → R (.returned (.bool (good W H xs))) w') : Calls P F.ref09_Good #[.agg #[i64 W, i64 H, .slice p len cap]] w R := by
  refine calls_ref09_Good _ _ _ _ _ _ _ ?_
  intro k1 hk1 w1 hL
  refine Fits_spec ⟨_, rfl, (Ext.refl _).keep _, ?_⟩
  refine to_bool (hR w1 (hL.ext (by simpa using hk1))) ?_
  rw [good]
  cases hg : gfits W H with
  | false => rfl
  | true =>
    obtain ⟨h1, h2, h3, h4, h5⟩ := gfits_iff.1 hg
    have hp : 0 ≤ W * H := Int.mul_nonneg (by omega) (by omega)
    have e : 4 * W * H = 4 * (W * H) := Int.mul_assoc _ _ _
    rw [w64 (x := 4 * W) (by omega) (by omega), e, w64 (x := 4 * (W * H)) (by omega) (by omega), hl, Bool.eq_iff_iff]
    simp
end Go.Proofs.Ytijplekhbpigiaa
