/- What the functions of grid, and the laws' helpers over it, answer: each is told by what its condition asks. -/
import Derived.Test.YtpdfpbioolbjjaaVcs
import Derived.Test.YtpdfpbioolbjjaaVcM
namespace Go.Proofs.Ytpdfpbioolbjjaa
open Go Go.Vc Go.RowKit
set_option maxRecDepth 100000
set_option linter.unusedVariables false
set_option linter.unusedSimpArgs false

abbrev i64 (n : Int) : Value := .int .i64 n
def ints (xs : List Int) : List Value := xs.map i64
theorem to_bool {R : Ending → World → Prop} {w : World} {b c : Bool} (h : R (.returned (.bool b)) w) (e : b = c) : R (.returned (.bool c)) w := e ▸ h
theorem ints_length (xs : List Int) : (ints xs).length = xs.length := by simp [ints]
theorem ints_get {xs : List Int} {i : Nat} (h : i < xs.length) : (ints xs)[i]? = some (i64 (xs.getD i 0)) := by
  simp [ints, List.getD, h]
theorem ints_append (xs ys : List Int) : ints (xs ++ ys) = ints xs ++ ints ys := by simp [ints]
theorem ints_oneAll (xs : List Int) : oneAll (ints xs) = true := by
  simp [oneAll, ints, Value.oneCell']
def gfits (x y : Int) : Bool := decide (1 ≤ x ∧ 1 ≤ y ∧ x ≤ 4096 ∧ y ≤ 4096 ∧ x * y ≤ 65536)
theorem wrapmul {x y : Int} (h0 : 1 ≤ x) (h1 : 1 ≤ y) (h2 : x ≤ 4096) (h3 : y ≤ 4096) : IntKind.i64.wrap (x * y) = x * y := by
  have a : 0 ≤ x * y := Int.mul_nonneg (by omega) (by omega)
  have b : x * y ≤ 4096 * 4096 := Int.mul_le_mul h2 h3 (by omega) (by omega)
  exact w64 (by omega) (by omega)
theorem fits_spec {x y : Int} {w : World} {R : Ending → World → Prop} (hR : R (.returned (.bool (gfits x y))) w) : Calls P F.grid_fits #[i64 x, i64 y] w R := by
  refine calls_grid_fits _ _ _ _ ?_
  unfold vc_grid_fits
  rw [show (decide (min x y ≥ 1) && decide (max x y ≤ 4096) && decide (IntKind.i64.wrap (x * y) ≤ 65536)) = gfits x y from ?_]
  · exact hR
  · by_cases h : 1 ≤ x ∧ 1 ≤ y ∧ x ≤ 4096 ∧ y ≤ 4096
    · rw [wrapmul h.1 h.2.1 h.2.2.1 h.2.2.2, Bool.eq_iff_iff]; simp only [gfits, Bool.and_eq_true, decide_eq_true_eq]; omega
    · rw [Bool.eq_iff_iff]; simp only [gfits, Bool.and_eq_true, decide_eq_true_eq]
      constructor
      · intro h'; exact (h (by omega)).elim
      · intro h'; exact (h (by omega)).elim
theorem Fits_spec {x y : Int} {w : World} {R : Ending → World → Prop} (hR : R (.returned (.bool (gfits x y))) w) : Calls P F.ref07_Fits #[i64 x, i64 y] w R := by
  refine calls_ref07_Fits _ _ _ _ ?_
  unfold vc_ref07_Fits
  rw [show (decide (x ≥ 1) && decide (y ≥ 1) && decide (x ≤ 4096) && decide (y ≤ 4096) && decide (IntKind.i64.wrap (x * y) ≤ 65536)) = gfits x y from ?_]
  · exact hR
  · by_cases h : 1 ≤ x ∧ 1 ≤ y ∧ x ≤ 4096 ∧ y ≤ 4096
    · rw [wrapmul h.1 h.2.1 h.2.2.1 h.2.2.2, Bool.eq_iff_iff]; simp only [gfits, Bool.and_eq_true, decide_eq_true_eq]; omega
    · rw [Bool.eq_iff_iff]; simp only [gfits, Bool.and_eq_true, decide_eq_true_eq]
      constructor
      · intro h'; exact (h (by omega)).elim
      · intro h'; exact (h (by omega)).elim

/-! ## Slices -/
theorem clone_spec {N : Nat} {w : World} {base : Option Addr} {len cap : Nat} {xs : List Int} {R : Ending → World → Prop}
    (h : Sl N w base (ints xs)) (hl : len = xs.length) (hsz : len * 8 ≤ 2 ^ 47)
    (hR : ∀ p k w', Ext w w' → Ow w.heap.size w'.heap.size w' p len k 1 (ints xs) → R (.returned (.slice p len k)) w') :
    Calls P F.slices_Clone_int #[.slice base len cap] w R := by
  refine calls_slices_Clone_int _ _ _ _ _ ?_
  unfold vc_slices_Clone_int
  refine brB_i (fun hn => ?_) (fun _ k1 w1 hnew => ⟨ints xs, by rw [ints_length]; omega, ints_oneAll _, (h.ext hnew.ext).cells, ?_⟩)
  · have hx : xs = [] := by
      cases xs with
      | nil => rfl
      | cons x xs => obtain ⟨a, ha, _⟩ := h 0 (i64 x) rfl; subst ha; cases hn
    subst hx
    have hl0 : len = 0 := by simpa using hl
    subst hl0
    exact hR none 0 w (Ext.refl w) (Ow.nil _ _ _ _ _)
  · have hsz' := hnew.ext.size
    refine (Ow.nil w.heap.size w1.heap.size w1 (some ⟨k1, 0, none⟩) 1).app (by simp [blocks]) hsz' (Nat.le_refl _) rfl (by rw [ints_length]; omega) (by omega) (by omega) fun p k w2 ho hc => ?_
    rw [Nat.zero_add] at ho ⊢
    exact hR p k w2 (hnew.ext.step hc fun i hi => hi.1) (by simpa using ho)

theorem own_spec {N : Nat} {w : World} {base : Option Addr} {len cap : Nat} {xs : List Int} {R : Ending → World → Prop}
    (h : Sl N w base (ints xs)) (hl : len = xs.length) (hsz : len * 8 ≤ 2 ^ 47)
    (hR : ∀ p k w', Ext w w' → Ow w.heap.size w'.heap.size w' p len k 1 (ints xs) → R (.returned (.slice p len k)) w') :
    Calls P F.law07_own #[.slice base len cap] w R := by
  refine calls_law07_own _ _ _ _ _ ?_
  unfold vc_law07_own
  refine fun k1 w1 hnew => ⟨ints xs, by rw [ints_length]; omega, ints_oneAll _, (h.ext hnew.ext).cells, ?_⟩
  have hsz' := hnew.ext.size
  refine (Ow.nil w.heap.size w1.heap.size w1 (some ⟨k1, 0, none⟩) 1).app (by simp [blocks]) hsz' (Nat.le_refl _) rfl (by rw [ints_length]; omega) (by omega) (by omega) fun p k w2 ho hc => ?_
  rw [Nat.zero_add] at ho ⊢
  exact hR p k w2 (hnew.ext.step hc fun i hi => hi.1) (by simpa using ho)

/-- they are alike -/
theorem same_spec {N M : Nat} {w : World} {a b : Option Addr} {la ca lb cb : Nat} {xs ys : List Int} {R : Ending → World → Prop}
    (ha : Sl N w a (ints xs)) (hb : Sl M w b (ints ys)) (hla : la = xs.length) (hlb : lb = ys.length) (h62 : la < 2 ^ 62)
    (hR : ∀ w', Ext w w' → R (.returned (.bool (decide (xs = ys)))) w') :
    Calls P F.ref01_SameInts #[.slice a la ca, .slice b lb cb] w R := by
  refine calls_ref01_SameInts _ _ _ _ _ _ _ _ ?_
  unfold vc_ref01_SameInts
  refine brB_i (fun hne => ?_) (fun heq => ?_)
  · have : xs ≠ ys := fun e => by subst e; simp [hla, hlb] at hne
    simpa [this] using hR w (Ext.refl w)
  · have hlen : xs.length = ys.length := by
      have : (la : Int) = lb := by simpa using heq
      omega
    refine ⟨fun vs w' => match vs with | [.int _ i] => 0 ≤ i ∧ i ≤ la ∧ Ext w w' ∧ ∀ j : Nat, (j : Int) < i → xs.getD j 0 = ys.getD j 0 | _ => False,
      fun vs _ => match vs with | [.int _ i] => (la - i).toNat | _ => 0, ⟨Int.le_refl _, by omega, Ext.refl w, fun j hj => by omega⟩, fun n w1 hI => ?_⟩
    obtain ⟨h0, h1, hE, hj⟩ := hI
    refine brB_i (fun hlt => ?_) (fun hge => ?_)
    · have hlt : n < la := by simpa using hlt
      refine (ha.ext hE).drew.get h0 (by rw [ints_length]; omega) (ints_get (by omega)) fun a1 hc1 => ⟨_, hc1, ?_⟩
      refine (hb.ext hE).drew.get h0 (by rw [ints_length]; omega) (ints_get (by omega)) fun a2 hc2 => ⟨_, hc2, ?_⟩
      refine brB_i (fun hne => ?_) (fun heq => ?_)
      · have : xs ≠ ys := fun e => by subst e; simp at hne
        simpa [this] using hR _ hE.drew
      · have heq : xs.getD n.toNat 0 = ys.getD n.toNat 0 := by simpa using heq
        rw [w64 (by omega) (by omega)]
        refine ⟨⟨by omega, by omega, hE.drew, fun j hj' => ?_⟩, ?_⟩
        · by_cases hjn : (j : Int) < n
          · exact hj j hjn
          · rw [show j = n.toNat by omega]; exact heq
        · show (la - (n + 1)).toNat < (la - n).toNat
          omega
    · have hge : n = la := by simp at hge; omega
      have : xs = ys := by
        refine List.ext_getElem hlen fun j h1 h2 => ?_
        have := hj j (by omega)
        simpa [List.getD, h1, h2] using this
      simpa [this] using hR _ hE

/-! ## Grids -/
structure GridAt (w : World) (q : Option Addr) (gb cb : Nat) (W H : Int) (vs : List Value) : Prop where
  ptr : q = some ⟨gb, 0, none⟩
  cells : ∃ rest, Cs w gb [i64 W, i64 H, .slice (some ⟨cb, 0, none⟩) vs.length (vs.length + rest.length)] ∧ Cs w cb (vs ++ rest)
  ne : gb ≠ cb
  ok : gfits W H = true
  len : W * H = vs.length
theorem GridAt.chg {w w' : World} {q : Option Addr} {gb cb : Nat} {W H : Int} {vs : List Value} {S : Nat → Prop} (h : GridAt w q gb cb W H vs) (hc : Chg S w w') (h1 : ¬ S gb) (h2 : ¬ S cb) : GridAt w' q gb cb W H vs := by
  obtain ⟨rest, h3, h4⟩ := h.cells
  exact ⟨h.ptr, ⟨rest, h3.chg hc h1, h4.chg hc h2⟩, h.ne, h.ok, h.len⟩
theorem GridAt.ext {w w' : World} {q : Option Addr} {gb cb : Nat} {W H : Int} {vs : List Value} (h : GridAt w q gb cb W H vs) (hc : Ext w w') : GridAt w' q gb cb W H vs :=
  h.chg (S := fun _ => False) hc.chg id id
theorem GridAt.lt {w : World} {q : Option Addr} {gb cb : Nat} {W H : Int} {vs : List Value} (h : GridAt w q gb cb W H vs) : gb < w.heap.size ∧ cb < w.heap.size := by
  obtain ⟨rest, h3, h4⟩ := h.cells
  exact ⟨h3.lt, h4.lt⟩
theorem GridAt.dims {w : World} {q : Option Addr} {gb cb : Nat} {W H : Int} {vs : List Value} (h : GridAt w q gb cb W H vs) : 1 ≤ W ∧ 1 ≤ H ∧ W ≤ 4096 ∧ H ≤ 4096 ∧ (vs.length : Int) ≤ 65536 := by
  have := h.ok
  rw [← h.len]
  simpa [gfits] using this
theorem GridAt.sl {w : World} {q : Option Addr} {gb cb : Nat} {W H : Int} {vs : List Value} (h : GridAt w q gb cb W H vs) : Sl w.heap.size w (some ⟨cb, 0, none⟩) vs := by
  obtain ⟨rest, h3, h4⟩ := h.cells
  exact h4.sl (by simp) h4.lt
def inside (W H x y : Int) : Bool := decide (0 ≤ x ∧ 0 ≤ y ∧ x < W ∧ y < H)
/-- the place of a cell -/
theorem place {W H x y : Int} (h : inside W H x y = true) (hW : W ≤ 4096) (hH : H ≤ 4096) {n : Int} (hn : W * H = n) :
    0 ≤ y * W + x ∧ y * W + x < n ∧ IntKind.i64.wrap (IntKind.i64.wrap (y * W) + x) = y * W + x := by
  obtain ⟨h0, h1, h2, h3⟩ : 0 ≤ x ∧ 0 ≤ y ∧ x < W ∧ y < H := by simpa [inside] using h
  have a : 0 ≤ y * W := Int.mul_nonneg h1 (by omega)
  have b : y * W ≤ 4096 * 4096 := Int.mul_le_mul (by omega) hW (by omega) (by omega)
  have c : y * W + W ≤ n := by
    rw [← hn, show y * W + W = (y + 1) * W by rw [Int.add_mul]; omega, Int.mul_comm W H]
    exact Int.mul_le_mul_of_nonneg_right (by omega) (by omega)
  refine ⟨by omega, by omega, ?_⟩
  rw [w64 (x := y * W) (by omega) (by omega), w64 (by omega) (by omega)]
theorem has_spec {w : World} {q : Option Addr} {gb cb : Nat} {W H x y : Int} {vs : List Value} {R : Ending → World → Prop} (h : GridAt w q gb cb W H vs) (hR : R (.returned (.bool (inside W H x y))) w) :
    Calls P F.grid_Grid_int_has #[.pointer q, i64 x, i64 y] w R := by
  refine calls_grid_Grid_int_has _ _ _ _ _ ?_
  obtain ⟨rest, h3, h4⟩ := h.cells
  obtain rfl := h.ptr
  unfold vc_grid_Grid_int_has
  refine brB_i (fun hb => ?_) (fun hb => ?_)
  · refine nn_i rfl ⟨_, h3.cell (i := 0) rfl, brB_i (fun hx => nn_i rfl ⟨_, h3.cell (i := 1) rfl, ?_⟩) (fun hx => ?_)⟩
    · rw [show decide (y < H) = inside W H x y from ?_]
      · exact hR
      · simp at hb hx; simp [inside, hb, hx]
    · rw [show false = inside W H x y from ?_]
      · exact hR
      · simp at hb hx; simp [inside]; omega
  · rw [show false = inside W H x y from ?_]
    · exact hR
    · simp at hb; simp [inside]; omega
theorem W_spec {w : World} {q : Option Addr} {gb cb : Nat} {W H : Int} {vs : List Value} {R : Ending → World → Prop} (h : GridAt w q gb cb W H vs) (hR : R (.returned (i64 W)) w) :
    Calls P F.grid_Grid_int_W #[.pointer q] w R := by
  refine calls_grid_Grid_int_W _ _ _ ?_
  obtain ⟨rest, h3, h4⟩ := h.cells
  obtain rfl := h.ptr
  exact brB_f rfl (nn_i rfl ⟨_, h3.cell (i := 0) rfl, hR⟩)
theorem H_spec {w : World} {q : Option Addr} {gb cb : Nat} {W H : Int} {vs : List Value} {R : Ending → World → Prop} (h : GridAt w q gb cb W H vs) (hR : R (.returned (i64 H)) w) :
    Calls P F.grid_Grid_int_H #[.pointer q] w R := by
  refine calls_grid_Grid_int_H _ _ _ ?_
  obtain ⟨rest, h3, h4⟩ := h.cells
  obtain rfl := h.ptr
  exact brB_f rfl (nn_i rfl ⟨_, h3.cell (i := 1) rfl, hR⟩)
theorem At_spec {w : World} {q : Option Addr} {gb cb : Nat} {W H x y : Int} {xs : List Int} {R : Ending → World → Prop} (h : GridAt w q gb cb W H (ints xs))
    (hR : ∀ w', Ext w w' → R (.returned (.tuple #[i64 (if inside W H x y then xs.getD (y * W + x).toNat 0 else 0), .bool (inside W H x y)])) w') :
    Calls P F.grid_Grid_int_At #[.pointer q, i64 x, i64 y] w R := by
  refine calls_grid_Grid_int_At _ _ _ _ _ ?_
  have hd := h.dims
  have hlen := h.len
  rw [ints_length] at hlen
  have hsl := h.sl
  obtain ⟨rest, h3, h4⟩ := h.cells
  refine has_spec h ⟨_, rfl, brB_i (fun hb => ?_) (fun hb => ?_)⟩
  · have hb : inside W H x y = false := by simpa using hb
    simpa [hb] using hR w (Ext.refl w)
  · have hb : inside W H x y = true := by simpa using hb
    obtain ⟨p0, p1, p2⟩ := place hb hd.2.2.1 hd.2.2.2.1 hlen
    refine nn_i h.ptr ⟨_, _, _, h3.drew.cell (i := 2) rfl, nn_i h.ptr ⟨_, h3.drew.cell (i := 0) rfl, ?_⟩⟩
    rw [p2]
    refine hsl.drew.get p0 rfl (ints_get (by omega)) fun a hc => ⟨_, hc, ?_⟩
    simpa [hb] using hR w.drew (Ext.refl w).drew
theorem Set_spec {w : World} {q : Option Addr} {gb cb : Nat} {W H x y v : Int} {xs : List Int} {R : Ending → World → Prop} (h : GridAt w q gb cb W H (ints xs))
    (hR : ∀ w', Chg (· = cb) w w' → GridAt w' q gb cb W H (ints (if inside W H x y then xs.set (y * W + x).toNat v else xs)) → R (.returned (.bool (inside W H x y))) w') :
    Calls P F.grid_Grid_int_Set #[.pointer q, i64 x, i64 y, i64 v] w R := by
  refine calls_grid_Grid_int_Set _ _ _ _ _ _ ?_
  have hd := h.dims
  have hlen := h.len
  rw [ints_length] at hlen
  obtain ⟨rest, h3, h4⟩ := h.cells
  refine has_spec h ⟨_, rfl, brB_i (fun hb => ?_) (fun hb => ?_)⟩
  · have hb : inside W H x y = false := by simpa using hb
    simpa [hb] using hR w (Chg.refl _ w) (by simpa [hb] using h)
  · have hb : inside W H x y = true := by simpa using hb
    obtain ⟨p0, p1, p2⟩ := place hb hd.2.2.1 hd.2.2.2.1 hlen
    refine nn_i h.ptr ⟨_, _, _, h3.drew.cell (i := 2) rfl, nn_i h.ptr ⟨_, h3.drew.cell (i := 0) rfl, ?_⟩⟩
    rw [p2]
    refine idx_i p0 (by rw [ints_length]; omega) rfl ?_
    rw [loc_add, Nat.zero_add, Nat.mul_one]
    have hlt : (y * W + x).toNat < (ints xs ++ rest).length := by rw [List.length_append, ints_length]; omega
    obtain ⟨⟨u, hu⟩, hfz⟩ := h4.drew.canSet (off := (y * W + x).toNat) (n := 1) (by omega) 0 (by omega)
    rw [loc_add, Nat.add_zero] at hu hfz
    refine ⟨⟨u, hu⟩, hfz, ?_⟩
    have hc := Chg.setCells w.drew ⟨cb, (y * W + x).toNat, none⟩ [i64 v] 0
    have hc' : Chg (· = cb) w (setCells w.drew ⟨cb, (y * W + x).toNat, none⟩ [i64 v] 0) := ((Chg.refl (· = cb) w).drew).trans hc fun i hi _ => hi
    have h5 := h4.drew.set1 (v := i64 v) hlt
    have h6 := h3.chg hc' (fun e => h.ne e)
    have hset : (ints xs ++ rest).set (y * W + x).toNat (i64 v) = ints (xs.set (y * W + x).toNat v) ++ rest := by
      rw [List.set_append_left _ _ (by rw [ints_length]; omega)]; simp [ints, List.map_set]
    rw [hset] at h5
    simpa [hb] using hR _ hc' (by
      simp only [hb, if_true]
      exact ⟨h.ptr, ⟨rest, by simpa [ints_length] using h6, h5⟩, h.ne, h.ok, by rw [ints_length, List.length_set]; exact hlen⟩)
theorem Cells_spec {w : World} {q : Option Addr} {gb cb : Nat} {W H : Int} {xs : List Int} {R : Ending → World → Prop} (h : GridAt w q gb cb W H (ints xs))
    (hR : ∀ p k w', Ext w w' → Ow w.heap.size w'.heap.size w' p xs.length k 1 (ints xs) → R (.returned (.slice p xs.length k)) w') :
    Calls P F.grid_Grid_int_Cells #[.pointer q] w R := by
  refine calls_grid_Grid_int_Cells _ _ _ ?_
  have hd := h.dims
  rw [ints_length] at hd
  have hsl := h.sl
  obtain ⟨rest, h3, h4⟩ := h.cells
  obtain rfl := h.ptr
  refine brB_f rfl (nn_i rfl ⟨_, _, _, h3.cell (i := 2) rfl, ?_⟩)
  rw [ints_length]
  refine clone_spec hsl rfl (by omega) fun p k w' hE ho => ⟨_, _, _, rfl, hR p k w' hE ho⟩
theorem Of_spec {N : Nat} {w : World} {base : Option Addr} {len cap : Nat} {W H : Int} {xs : List Int} {R : Ending → World → Prop}
    (h : Sl N w base (ints xs)) (hl : len = xs.length) (hsz : len * 8 ≤ 2 ^ 47)
    (h1 : gfits W H = false → R (.returned (.tuple #[.pointer none, i64 4])) w)
    (h2 : gfits W H = true → (len : Int) ≠ W * H → R (.returned (.tuple #[.pointer none, i64 3])) w)
    (h3 : gfits W H = true → (len : Int) = W * H → ∀ gb cb w', Ext w w' → w.heap.size ≤ gb → w.heap.size ≤ cb → GridAt w' (some ⟨gb, 0, none⟩) gb cb W H (ints xs) → R (.returned (.tuple #[.pointer (some ⟨gb, 0, none⟩), i64 0])) w') :
    Calls P F.grid_Of_int #[i64 W, i64 H, .slice base len cap] w R := by
  refine calls_grid_Of_int _ _ _ _ _ _ _ ?_
  refine fits_spec ⟨_, rfl, brB_i (fun hb => h1 (by simpa using hb)) (fun hb => ?_)⟩
  have hb : gfits W H = true := by simpa using hb
  obtain ⟨g0, g1, g2, g3, g4⟩ : 1 ≤ W ∧ 1 ≤ H ∧ W ≤ 4096 ∧ H ≤ 4096 ∧ W * H ≤ 65536 := by simpa [gfits] using hb
  rw [wrapmul g0 g1 g2 g3]
  refine brB_i (fun hne => h2 hb (by simpa using hne)) (fun heq => ?_)
  have heq : (len : Int) = W * H := by simpa using heq
  have hpos : 0 < W * H := Int.mul_pos (by omega) (by omega)
  refine clone_spec h hl hsz fun p k w' hE ho => ⟨_, _, _, rfl, fun k3 w3 hnew => ?_⟩
  obtain ⟨ho1, ho2, ho3⟩ := ho
  have hs := hE.size
  rcases ho3 with ho3 | ⟨b, rest, hb1, hb2, rfl, hcap, hcs⟩
  · omega
  · have hk : k = len + rest.length := by rw [ints_length] at hcap; omega
    have hcs' := hcs.ext hnew.ext
    refine h3 hb heq k3 b w3 (hE.trans hnew.ext) (by rw [hnew.1]; exact hs) hb1 ⟨rfl, ⟨rest, ?_, hcs'⟩, ?_, hb, ?_⟩
    · have := hnew.cs
      simpa [ints_length, hk, hl] using this
    · have := hnew.1; omega
    · rw [ints_length, ← heq, hl]

/-! ## Parts -/
def within (x y w h W H : Int) : Bool := decide (1 ≤ w ∧ 1 ≤ h ∧ 0 ≤ x ∧ 0 ≤ y ∧ x ≤ W - w ∧ y ≤ H - h)
def row (xs : List Int) (W x y w : Int) (k : Nat) : List Int := (xs.drop ((y + k) * W + x).toNat).take w.toNat
def cropL (xs : List Int) (W x y w : Int) (h : Nat) : List Int := (List.range h).flatMap (row xs W x y w)
theorem cropL_succ (xs : List Int) (W x y w : Int) (h : Nat) : cropL xs W x y w (h + 1) = cropL xs W x y w h ++ row xs W x y w h := by
  simp [cropL, List.range_succ]
/-- where a part's row stands -/
theorem rowAt {x y w h W H n : Int} (hw : within x y w h W H = true) (hW : W ≤ 4096) (hH : H ≤ 4096) (hn : W * H = n) {k : Int} (h0 : 0 ≤ k) (h1 : k < h) :
    0 ≤ (y + k) * W + x ∧ (y + k) * W + x + w ≤ n ∧ IntKind.i64.wrap (IntKind.i64.wrap (IntKind.i64.wrap (y + k) * W) + x) = (y + k) * W + x ∧
    IntKind.i64.wrap (IntKind.i64.wrap (IntKind.i64.wrap (IntKind.i64.wrap (y + k) * W) + x) + w) = (y + k) * W + x + w ∧ n ≤ 16777216 := by
  obtain ⟨a1, a2, a3, a4, a5, a6⟩ : 1 ≤ w ∧ 1 ≤ h ∧ 0 ≤ x ∧ 0 ≤ y ∧ x ≤ W - w ∧ y ≤ H - h := by simpa [within] using hw
  have a : 0 ≤ (y + k) * W := Int.mul_nonneg (by omega) (by omega)
  have b : (y + k) * W ≤ 4096 * 4096 := Int.mul_le_mul (by omega) hW (by omega) (by omega)
  have b' : W * H ≤ 4096 * 4096 := Int.mul_le_mul hW hH (by omega) (by omega)
  have c : (y + k) * W + W ≤ n := by
    rw [← hn, show (y + k) * W + W = (y + k + 1) * W by rw [Int.add_mul (y + k) 1]; omega, Int.mul_comm W H]
    exact Int.mul_le_mul_of_nonneg_right (by omega) (by omega)
  have e1 : IntKind.i64.wrap (IntKind.i64.wrap (IntKind.i64.wrap (y + k) * W) + x) = (y + k) * W + x := by
    rw [w64 (x := y + k) (by omega) (by omega), w64 (x := (y + k) * W) (by omega) (by omega), w64 (by omega) (by omega)]
  refine ⟨by omega, by omega, e1, ?_, by omega⟩
  rw [e1, w64 (by omega) (by omega)]
theorem row_length {xs : List Int} {W x y w : Int} {k : Nat} (h0 : 0 ≤ (y + k) * W + x) (h1 : (y + k) * W + x + w ≤ xs.length) (hw : 0 ≤ w) : (row xs W x y w k).length = w.toNat := by
  simp only [row, List.length_take, List.length_drop]; omega
theorem cropL_length {xs : List Int} {x y w h W H : Int} (hw : within x y w h W H = true) (hW : W ≤ 4096) (hH : H ≤ 4096) (hn : W * H = xs.length) : ∀ k : Nat, (k : Int) ≤ h → (cropL xs W x y w k).length = k * w.toNat
  | 0, _ => by simp [cropL]
  | k + 1, hk => by
    obtain ⟨r1, r2, _⟩ := rowAt hw hW hH hn (k := k) (by omega) (by omega)
    have hw0 : 1 ≤ w := by simp [within] at hw; omega
    rw [cropL_succ, List.length_append, cropL_length hw hW hH hn k (by omega), row_length r1 r2 (by omega), Nat.add_mul, Nat.one_mul]
theorem within_spec {x y a b W H : Int} {w : World} {R : Ending → World → Prop} (hW : 0 ≤ W) (hH : 0 ≤ H) (hW' : W ≤ 4096) (hH' : H ≤ 4096) (ha : a ≤ W) (hb : b ≤ H) (hR : R (.returned (.bool (within x y a b W H))) w) :
    Calls P F.grid_within #[i64 x, i64 y, i64 a, i64 b, i64 W, i64 H] w R := by
  refine calls_grid_within _ _ _ _ _ _ _ _ ?_
  unfold vc_grid_within
  by_cases h1 : 1 ≤ a ∧ 1 ≤ b
  · rw [w64 (x := W - a) (by omega) (by omega), w64 (x := H - b) (by omega) (by omega)]
    refine to_bool hR ?_
    rw [Bool.eq_iff_iff]; simp only [within, Bool.and_eq_true, decide_eq_true_eq]; omega
  · have e1 : within x y a b W H = false := by simp [within]; omega
    have e2 : (decide (a ≥ 1) && decide (b ≥ 1)) = false := by rw [Bool.eq_false_iff]; simp; omega
    rw [e1] at hR
    refine to_bool hR ?_
    rw [e2]; simp
theorem Crop_spec {w : World} {q : Option Addr} {gb cb : Nat} {W H x y a b : Int} {xs : List Int} {R : Ending → World → Prop} (h : GridAt w q gb cb W H (ints xs))
    (h1 : within x y a b W H = false → ∀ w', Ext w w' → R (.returned (.tuple #[.pointer none, i64 2])) w')
    (h2 : within x y a b W H = true → ∀ g c w', Ext w w' → w.heap.size ≤ g → w.heap.size ≤ c → GridAt w' (some ⟨g, 0, none⟩) g c a b (ints (cropL xs W x y a b.toNat)) → R (.returned (.tuple #[.pointer (some ⟨g, 0, none⟩), i64 0])) w') :
    Calls P F.grid_Grid_int_Crop #[.pointer q, i64 x, i64 y, i64 a, i64 b] w R := by
  refine calls_grid_Grid_int_Crop _ _ _ _ _ _ _ ?_
  have hd := h.dims
  have hlen := h.len
  rw [ints_length] at hlen hd
  have hsl := h.sl
  have hlt := h.lt
  obtain ⟨rest, h3, h4⟩ := h.cells
  obtain rfl := h.ptr
  have hdr := (Ext.refl w).drew
  unfold vc_grid_Grid_int_Crop
  refine brB_f rfl (nn_i rfl ⟨_, h3.drew.cell (i := 0) rfl, brB_i (fun hgt => ?_) (fun hle => ?_)⟩)
  · exact h1 (by simp at hgt; simp [within]; omega) _ hdr
  refine nn_i rfl ⟨_, h3.drew.cell (i := 1) rfl, brB_i (fun hgt => ?_) (fun hle' => ?_)⟩
  · exact h1 (by simp at hgt; simp [within]; omega) _ hdr
  refine nn_i rfl ⟨_, h3.drew.cell (i := 0) rfl, nn_i rfl ⟨_, h3.drew.cell (i := 1) rfl, ?_⟩⟩
  have hle : a ≤ W := by simpa using hle
  have hle' : b ≤ H := by simpa using hle'
  refine within_spec (by omega) (by omega) (by omega) (by omega) hle hle' ⟨_, rfl, brB_i (fun hw => ?_) (fun hw => ?_)⟩
  · exact h1 (by simpa using hw) _ hdr
  have hw : within x y a b W H = true := by simpa using hw
  obtain ⟨a1, a2, a3, a4, a5, a6⟩ : 1 ≤ a ∧ 1 ≤ b ∧ 0 ≤ x ∧ 0 ≤ y ∧ x ≤ W - a ∧ y ≤ H - b := by simpa [within] using hw
  have hab : a * b ≤ W * H := Int.mul_le_mul hle hle' (by omega) (by omega)
  refine fun k1 w2 hnew => ?_
  have hE2 : Ext w w2 := hdr.trans hnew.ext
  have hk1 : w.heap.size = k1 := hnew.1.symm
  have hk1' : w2.heap.size = k1 + 1 := by rw [hnew.2, ← hk1]; simp
  refine ⟨fun vs w' => match vs with | [.int _ k] => 0 ≤ k ∧ k ≤ b ∧ Ext w w' ∧ k1 + 1 ≤ w'.heap.size ∧ ∃ p len cap, Cs w' k1 [i64 a, i64 b, .slice p len cap] ∧ Ow (k1 + 1) w'.heap.size w' p len cap 1 (ints (cropL xs W x y a k.toNat)) | _ => False,
    fun vs _ => match vs with | [.int _ k] => (b - k).toNat | _ => 0,
    ⟨Int.le_refl _, by omega, hE2, by omega, none, 0, 0, hnew.cs, Ow.nil _ _ _ _ _⟩, fun k w3 hI => ?_⟩
  obtain ⟨k0, kb, hE, hsz3, p, len, cap, hcs, ho⟩ := hI
  refine brB_i (fun hlt' => ?_) (fun hge => ?_)
  · have hkb : k < b := by simpa using hlt'
    obtain ⟨r1, r2, r3, r4, r5⟩ := rowAt hw hd.2.2.1 hd.2.2.2.1 hlen k0 hkb
    have hlo := ho.len
    rw [ints_length, cropL_length hw hd.2.2.1 hd.2.2.2.1 hlen k.toNat (by omega)] at hlo
    have hlo' : len + a.toNat ≤ 65536 := by
      have : (k + 1) * a ≤ b * a := Int.mul_le_mul_of_nonneg_right (by omega) (by omega)
      have h0 : ((k.toNat * a.toNat : Nat) : Int) = k * a := by rw [Int.natCast_mul]; congr 1 <;> omega
      rw [Int.mul_comm b a, Int.add_mul] at this
      omega
    refine nn_i rfl ⟨_, (h3.ext hE).cell (i := 0) rfl, _, _, _, hcs.drew.cell (i := 2) rfl, nn_i rfl ⟨_, _, _, (h3.ext hE).drew.cell (i := 2) rfl, ?_⟩⟩
    rw [r3, w64 (x := (y + k) * W + x + a) (by omega) (by omega)]
    have hkk : (k.toNat : Int) = k := by omega
    have hrow : (row xs W x y a k.toNat).length = a.toNat := row_length (by rw [hkk]; omega) (by rw [hkk]; omega) (by omega)
    refine ⟨r1, by omega, by rw [ints_length]; omega, ints (row xs W x y a k.toNat), ?_, ints_oneAll _, ?_, ?_⟩
    · rw [ints_length, hrow]; omega
    · have hp : Sl w3.drew.heap.size w3.drew (slcBase (some ⟨cb, 0, none⟩) ((y + k) * W + x).toNat ((ints xs).length + rest.length) 1) (ints (row xs W x y a k.toNat)) := by
        refine (((hsl.ext hE).drew).up).part (by omega) ?_
        rw [row, hkk]
        simp only [ints, List.map_take, List.map_drop]
        exact List.take_prefix _ _
      exact hp.cells
    · refine Ow.app (w := w3.drew) ho (by simp [blocks]) (by exact hsz3) (Nat.le_refl _) rfl ?_ ?_ ?_ fun p' cap' w4 ho' hc' => ?_
      · rw [ints_length, hrow]; omega
      · omega
      · omega
      · have hE4 : Ext w w4 := hE.drew.step hc' (fun i hi => by omega)
        have hcs4 := hcs.drew.chg hc' (by omega)
        have hs4 : w3.heap.size ≤ w4.heap.size := hc'.size
        refine ⟨⟨_, hcs4.cell (i := 2) rfl⟩, hcs4.frozen 2, ⟨by rw [w64 (by omega) (by omega)]; omega, by rw [w64 (by omega) (by omega)]; omega, ?_, ?_, p', _, cap', hcs4.set1 (by simp), ?_⟩, ?_⟩
        · exact hE4.step (Chg.setCells _ _ _ _) (fun i hi => by simp only at hi; omega)
        · rw [(setCells_same _ _ _ _).size]; omega
        · rw [(setCells_same _ _ _ _).size]
          refine Ow.chg ?_ (Chg.setCells _ _ _ _) (fun i hi _ => by simp only; omega)
          rw [w64 (by omega) (by omega), show (k + 1).toNat = k.toNat + 1 by omega, cropL_succ, ints_append]
          exact ho'
        · rw [w64 (by omega) (by omega)]
          show (b - (k + 1)).toNat < (b - k).toNat
          omega
  · have hkb : k = b := by simp at hge; omega
    subst hkb
    obtain ⟨ho1, ho2, ho3⟩ := ho
    have hcl := cropL_length hw hd.2.2.1 hd.2.2.2.1 hlen k.toNat (by omega)
    have hab' : ((k.toNat * a.toNat : Nat) : Int) = a * k := by rw [Int.natCast_mul, Int.mul_comm]; congr 1 <;> omega
    have hpos : 0 < a * k := Int.mul_pos (by omega) (by omega)
    have hll : len = (cropL xs W x y a k.toNat).length := by rw [ints_length] at ho1; omega
    rcases ho3 with ho3 | ⟨bb, rest', hb1, hb2, rfl, hcap, hcs'⟩
    · omega
    · refine h2 hw k1 bb w3 hE (by omega) (by omega) ⟨rfl, ⟨rest', ?_, hcs'⟩, by omega, ?_, ?_⟩
      · rw [ints_length] at hcap ⊢
        rw [← hll, show len + rest'.length = cap by omega]; exact hcs
      · simp [gfits]; omega
      · rw [ints_length, hcl, hab']
end Go.Proofs.Ytpdfpbioolbjjaa
