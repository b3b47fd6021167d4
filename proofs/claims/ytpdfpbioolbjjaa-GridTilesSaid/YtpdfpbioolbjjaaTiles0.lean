/- Tiles of a size: the plain law. -/
import Derived.Test.YtpdfpbioolbjjaaGrid1
namespace Go.Proofs.Ytpdfpbioolbjjaa
open Go Go.Vc Go.RowKit
set_option linter.unusedVariables false

abbrev Rc := Int × Int × Int × Int
def rc (r : Rc) : List Value := [i64 r.1, i64 r.2.1, i64 r.2.2.1, i64 r.2.2.2]
def cnt (n t : Int) : Nat := ((n + t - 1) / t).toNat
theorem cnt_lt {n t : Int} (ht : 1 ≤ t) (hn : 1 ≤ n) (i : Nat) : (i : Int) * t < n ↔ i < cnt n t := by
  have h0 : 0 ≤ (n + t - 1) / t := Int.ediv_nonneg (by omega) (by omega)
  have h1 : ((i : Int) + 1 ≤ (n + t - 1) / t) ↔ ((i : Int) + 1) * t ≤ n + t - 1 := Int.le_ediv_iff_mul_le (by omega)
  rw [Int.add_mul, Int.one_mul] at h1
  unfold cnt
  omega
def rectAt (w h tw th : Int) (j i : Nat) : Rc := ((i : Int) * tw, (j : Int) * th, min tw (w - (i : Int) * tw), min th (h - (j : Int) * th))
def rowT (w h tw th : Int) (j n : Nat) : List Rc := (List.range n).map (rectAt w h tw th j)
def rowsT (w h tw th : Int) (j : Nat) : List Rc := (List.range j).flatMap fun j => rowT w h tw th j (cnt w tw)
def preT (w h tw th : Int) (j i : Nat) : List Rc := rowsT w h tw th j ++ rowT w h tw th j i
def goodT (w h tw th : Int) : Bool := gfits w h && decide (1 ≤ tw) && decide (1 ≤ th)
def tilesL (w h tw th : Int) : List Rc := if goodT w h tw th then rowsT w h (min tw w) (min th h) (cnt h (min th h)) else []
theorem rowT_succ (w h tw th : Int) (j n : Nat) : rowT w h tw th j (n + 1) = rowT w h tw th j n ++ [rectAt w h tw th j n] := by simp [rowT, List.range_succ]
theorem rowsT_succ (w h tw th : Int) (j : Nat) : rowsT w h tw th (j + 1) = rowsT w h tw th j ++ rowT w h tw th j (cnt w tw) := by simp [rowsT, List.range_succ]
theorem preT_zero (w h tw th : Int) (j : Nat) : preT w h tw th j 0 = rowsT w h tw th j := by simp [preT, rowT]
theorem preT_succ (w h tw th : Int) (j i : Nat) : preT w h tw th j (i + 1) = preT w h tw th j i ++ [rectAt w h tw th j i] := by simp [preT, rowT_succ]
theorem preT_row (w h tw th : Int) (j : Nat) : preT w h tw th j (cnt w tw) = preT w h tw th (j + 1) 0 := by rw [preT_zero, rowsT_succ]; rfl
theorem rowT_prefix (w h tw th : Int) (j : Nat) {n m : Nat} (hnm : n ≤ m) : rowT w h tw th j n <+: rowT w h tw th j m := by
  obtain ⟨k, rfl⟩ := Nat.exists_eq_add_of_le hnm
  exact ⟨_, by rw [rowT, rowT, List.range_add, List.map_append]⟩
theorem rowsT_prefix (w h tw th : Int) {n m : Nat} (hnm : n ≤ m) : rowsT w h tw th n <+: rowsT w h tw th m := by
  obtain ⟨k, rfl⟩ := Nat.exists_eq_add_of_le hnm
  exact ⟨_, by rw [rowsT, rowsT, List.range_add, List.flatMap_append]⟩
theorem preT_prefix {w h tw th : Int} {j i m : Nat} (hj : j < m) (hi : i ≤ cnt w tw) : preT w h tw th j i <+: rowsT w h tw th m := by
  refine List.IsPrefix.trans ?_ (rowsT_prefix w h tw th (Nat.succ_le_of_lt hj))
  rw [rowsT_succ, preT]
  exact (List.prefix_append_right_inj _).2 (rowT_prefix w h tw th j hi)
/-! ## Areas -/
def area (r : Rc) : Int := r.2.2.1 * r.2.2.2
def areas (l : List Rc) : Int := (l.map area).sum
theorem areas_append (a b : List Rc) : areas (a ++ b) = areas a + areas b := by simp [areas]
theorem areas_row {w h tw th : Int} (hw : 1 ≤ w) (ht : 1 ≤ tw) (j : Nat) : ∀ n : Nat, n ≤ cnt w tw → areas (rowT w h tw th j n) = min ((n : Int) * tw) w * min th (h - (j : Int) * th)
  | 0, _ => by
    have : min (((0 : Nat) : Int) * tw) w = 0 := by simp <;> omega
    rw [this]
    simp [rowT, areas]
  | n + 1, hn => by
    have h1 := (cnt_lt ht hw n).2 (by omega)
    rw [rowT_succ, areas_append, areas_row hw ht j n (by omega)]
    have e : areas [rectAt w h tw th j n] = min tw (w - (n : Int) * tw) * min th (h - (j : Int) * th) := by simp [areas, area, rectAt]
    rw [e, ← Int.add_mul]
    congr 1
    have e2 : ((n + 1 : Nat) : Int) * tw = (n : Int) * tw + tw := by rw [Int.natCast_add, Int.add_mul]; simp
    rw [e2]; omega
theorem areas_row_all {w h tw th : Int} (hw : 1 ≤ w) (ht : 1 ≤ tw) (j : Nat) : areas (rowT w h tw th j (cnt w tw)) = w * min th (h - (j : Int) * th) := by
  rw [areas_row hw ht j _ (Nat.le_refl _)]
  have : ¬ ((cnt w tw : Int) * tw < w) := fun h => by have := (cnt_lt ht hw _).1 h; omega
  congr 1; omega
theorem areas_rows {w h tw th : Int} (hw : 1 ≤ w) (hh : 1 ≤ h) (ht : 1 ≤ tw) (hth : 1 ≤ th) : ∀ n : Nat, n ≤ cnt h th → areas (rowsT w h tw th n) = w * min ((n : Int) * th) h
  | 0, _ => by
    have : min (((0 : Nat) : Int) * th) h = 0 := by simp <;> omega
    rw [this]
    simp [rowsT, areas]
  | n + 1, hn => by
    have h1 := (cnt_lt hth hh n).2 (by omega)
    rw [rowsT_succ, areas_append, areas_rows hw hh ht hth n (by omega), areas_row_all hw ht, ← Int.mul_add]
    congr 1
    have e2 : ((n + 1 : Nat) : Int) * th = (n : Int) * th + th := by rw [Int.natCast_add, Int.add_mul]; simp
    rw [e2]; omega
theorem areas_tiles {w h tw th : Int} (hg : goodT w h tw th = true) : areas (tilesL w h tw th) = w * h := by
  obtain ⟨⟨⟨h1, h2, h3, h4, h5⟩, h6⟩, h7⟩ : ((1 ≤ w ∧ 1 ≤ h ∧ w ≤ 4096 ∧ h ≤ 4096 ∧ w * h ≤ 65536) ∧ 1 ≤ tw) ∧ 1 ≤ th := by simpa [goodT, gfits] using hg
  rw [tilesL, if_pos hg, areas_rows h1 h2 (by omega) (by omega) _ (Nat.le_refl _)]
  have : ¬ ((cnt h (min th h) : Int) * min th h < h) := fun h' => by have := (cnt_lt (by omega) h2 _).1 h'; omega
  congr 1; omega
theorem tiles_pos {w h tw th : Int} {r : Rc} (hr : r ∈ tilesL w h tw th) : 1 ≤ r.2.2.1 ∧ r.2.2.1 ≤ 4096 ∧ 1 ≤ r.2.2.2 ∧ r.2.2.2 ≤ 4096 ∧ 1 ≤ area r := by
  unfold tilesL at hr
  split at hr
  · rename_i hg
    obtain ⟨⟨⟨h1, h2, h3, h4, h5⟩, h6⟩, h7⟩ : ((1 ≤ w ∧ 1 ≤ h ∧ w ≤ 4096 ∧ h ≤ 4096 ∧ w * h ≤ 65536) ∧ 1 ≤ tw) ∧ 1 ≤ th := by simpa [goodT, gfits] using hg
    simp only [rowsT, rowT, List.mem_flatMap, List.mem_map, List.mem_range] at hr
    obtain ⟨j, hj, i, hi, rfl⟩ := hr
    have a := (cnt_lt (by omega) h1 i).2 hi
    have b := (cnt_lt (by omega) h2 j).2 hj
    simp only [rectAt, area]
    have c : 1 ≤ min (min tw w) (w - (i : Int) * min tw w) := by omega
    have d : 1 ≤ min (min th h) (h - (j : Int) * min th h) := by omega
    refine ⟨c, by omega, d, by omega, ?_⟩
    have := Int.mul_le_mul c d (by omega) (by omega)
    omega
  · cases hr
theorem areas_len : ∀ {l : List Rc}, (∀ r ∈ l, 1 ≤ area r) → (l.length : Int) ≤ areas l
  | [], _ => by simp [areas]
  | r :: l, h => by
    have h1 := h r (by simp)
    have h2 := areas_len (l := l) fun r hr => h r (by simp [hr])
    have : areas (r :: l) = area r + areas l := by simp [areas]
    rw [this, List.length_cons]; omega
theorem tiles_length (w h tw th : Int) : (tilesL w h tw th).length ≤ 65536 := by
  cases hg : goodT w h tw th with
  | false => simp [tilesL, hg]
  | true =>
    have h1 := areas_len (l := tilesL w h tw th) fun r hr => (tiles_pos hr).2.2.2.2
    rw [areas_tiles hg] at h1
    obtain ⟨⟨⟨_, _, _, _, h5⟩, _⟩, _⟩ : ((1 ≤ w ∧ 1 ≤ h ∧ w ≤ 4096 ∧ h ≤ 4096 ∧ w * h ≤ 65536) ∧ 1 ≤ tw) ∧ 1 ≤ th := by simpa [goodT, gfits] using hg
    omega
theorem areas_take (w h tw th : Int) (k : Nat) : 0 ≤ areas ((tilesL w h tw th).take k) ∧ areas ((tilesL w h tw th).take k) ≤ 65536 := by
  have e : areas (tilesL w h tw th) = areas ((tilesL w h tw th).take k) + areas ((tilesL w h tw th).drop k) := by rw [← areas_append, List.take_append_drop]
  have h1 := areas_len (l := (tilesL w h tw th).take k) fun r hr => (tiles_pos (List.mem_of_mem_take hr)).2.2.2.2
  have h2 := areas_len (l := (tilesL w h tw th).drop k) fun r hr => (tiles_pos (List.mem_of_mem_drop hr)).2.2.2.2
  cases hg : goodT w h tw th with
  | false => simp [tilesL, hg, areas]
  | true =>
    rw [areas_tiles hg] at e
    obtain ⟨⟨⟨_, _, _, _, h5⟩, _⟩, _⟩ : ((1 ≤ w ∧ 1 ≤ h ∧ w ≤ 4096 ∧ h ≤ 4096 ∧ w * h ≤ 65536) ∧ 1 ≤ tw) ∧ 1 ≤ th := by simpa [goodT, gfits] using hg
    omega
end Go.Proofs.Ytpdfpbioolbjjaa
