/- Parts of grids, as the document has them, and as grid lays them in. -/
import Derived.Test.YtpdfpbioolbjjaaGridArgs
namespace Go.Proofs.Ytpdfpbioolbjjaa
open Go Go.Vc Go.RowKit
set_option maxRecDepth 100000
set_option linter.unusedVariables false
set_option linter.unusedSimpArgs false

theorem Within_spec {x y a b W H : Int} {w : World} {R : Ending → World → Prop} (hW : 0 ≤ W) (hH : 0 ≤ H) (hW' : W ≤ 4096) (hH' : H ≤ 4096) (hR : R (.returned (.bool (within x y a b W H))) w) :
    Calls P F.ref07_Within #[i64 x, i64 y, i64 a, i64 b, i64 W, i64 H] w R := by
  refine calls_ref07_Within _ _ _ _ _ _ _ _ ?_
  unfold vc_ref07_Within
  by_cases h1 : 1 ≤ a ∧ 1 ≤ b ∧ a ≤ W ∧ b ≤ H
  · rw [w64 (x := W - a) (by omega) (by omega), w64 (x := H - b) (by omega) (by omega)]
    refine to_bool hR ?_
    rw [Bool.eq_iff_iff]; simp only [within, Bool.and_eq_true, decide_eq_true_eq]; omega
  · have e1 : within x y a b W H = false := by simp [within]; omega
    rw [e1] at hR
    refine to_bool hR ?_
    symm
    rw [Bool.eq_false_iff]
    simp only [ne_eq, Bool.and_eq_true, decide_eq_true_eq]
    omega
theorem row_take_succ {xs : List Int} {W x y w : Int} {k i : Nat} (h0 : 0 ≤ (y + k) * W + x) (h1 : (y + k) * W + x + w ≤ xs.length) (hi : (i : Int) < w) :
    (row xs W x y w k).take (i + 1) = (row xs W x y w k).take i ++ [xs.getD ((y + k) * W + x + i).toNat 0] := by
  have hl := row_length h0 h1 (w := w) (by omega)
  rw [List.take_succ_eq_append_getElem (by omega)]
  congr 2
  simp only [row, List.getElem_take, List.getElem_drop]
  rw [show ((y + (k : Int)) * W + x + (i : Int)).toNat = ((y + (k : Int)) * W + x).toNat + i by omega]
  have : ((y + (k : Int)) * W + x).toNat + i < xs.length := by omega
  simp [List.getD, this]
theorem refCrop_spec {N : Nat} {w : World} {base : Option Addr} {len cap : Nat} {W H x y a b : Int} {xs : List Int} {R : Ending → World → Prop}
    (h : Sl N w base (ints xs)) (hl : len = xs.length) (hok : gfits W H = true) (hn : W * H = xs.length)
    (h1 : within x y a b W H = false → ∀ w', Ext w w' → R (.returned (.tuple #[.agg #[i64 0, i64 0, .slice none 0 0], i64 2])) w')
    (h2 : within x y a b W H = true → ∀ p ln cp w', Ext w w' → Own w.heap.size w'.heap.size w' p ln cp 1 (ints (cropL xs W x y a b.toNat)) → R (.returned (.tuple #[.agg #[i64 a, i64 b, .slice p ln cp], i64 0])) w') :
    Calls P F.ref07_Crop #[.agg #[i64 W, i64 H, .slice base len cap], i64 x, i64 y, i64 a, i64 b] w R := by
  refine calls_ref07_Crop _ _ _ _ _ _ _ _ _ _ _ ?_
  obtain ⟨g0, g1, g2, g3, g4⟩ : 1 ≤ W ∧ 1 ≤ H ∧ W ≤ 4096 ∧ H ≤ 4096 ∧ W * H ≤ 65536 := by simpa [gfits] using hok
  intro k1 hk1 k2 hk2 w1 hL1
  have hE1 : Ext w w1 := hL1.ext (by simp; omega)
  have hs1 := hE1.size
  have ht1 := hL1.there k1 (by simp)
  have ht2 := hL1.there k2 (by simp)
  refine Within_spec (by omega) (by omega) g2 g3 ⟨_, rfl, (Ext.refl _).keep _, brB_i (fun hw w3 hL3 => h1 (by simpa using hw) w3 (hE1.step hL3.chg (by simp; omega))) (fun hw k3 hk3 => ?_)⟩
  have hw : within x y a b W H = true := by simpa using hw
  obtain ⟨a1, a2, a3, a4, a5, a6⟩ : 1 ≤ a ∧ 1 ≤ b ∧ 0 ≤ x ∧ 0 ≤ y ∧ x ≤ W - a ∧ y ≤ H - b := by simpa [within] using hw
  have hab : b * a ≤ H * W := Int.mul_le_mul (by omega) (by omega) (by omega) (by omega)
  rw [Int.mul_comm H W] at hab
  refine ⟨fun l w' => match l with
      | [.int _ n, .int _ c, .int _ d, .slice p ln cp] => 0 ≤ n ∧ n ≤ b ∧ c = a ∧ d = b ∧ Ext w w' ∧ (∃ N0, w.heap.size ≤ N0 ∧ N0 ≤ w'.heap.size ∧ k1 < N0 ∧ k2 < N0 ∧ k3 < N0 ∧ Own N0 w'.heap.size w' p ln cp 1 (ints (cropL xs W x y a n.toNat)))
      | _ => False,
    fun l _ => match l with | [.int _ n, .int _ _, .int _ _, .slice _ _ _] => (b - n).toNat | _ => 0, fun w4 hL4 => ?_, fun n1 n2 n3 p1 k4 k5 w5 hI => ?_⟩
  · have hs4 := hL4.size
    have ht3 := hL4.there k3 (by simp)
    exact ⟨Int.le_refl _, by omega, rfl, rfl, hE1.step hL4.chg (by simp; omega), w4.heap.size, by omega, Nat.le_refl _, by omega, by omega, by omega, Own.nil _ _ _ _ _⟩
  · obtain ⟨c0, c1, rfl, rfl, hE5, N0, d1, d2, d3, d4, d5, ho⟩ := hI
    refine brB_i (fun hlt => ?_) (fun hge => fun w10 hL10 => ?_)
    · have hlt : n1 < n3 := by simpa using hlt
      obtain ⟨r1, r2, r3, r4, r5⟩ := rowAt hw g2 g3 hn c0 hlt
      have hkk : (n1.toNat : Int) = n1 := by omega
      have hrl : (row xs W x y n2 n1.toNat).length = n2.toNat := row_length (by rw [hkk]; omega) (by rw [hkk]; omega) (by omega)
      have hcl := cropL_length hw g2 g3 hn n1.toNat (by omega)
      have hroom : n1.toNat * n2.toNat + n2.toNat ≤ 65536 := by
        have : (n1 + 1) * n2 ≤ n3 * n2 := Int.mul_le_mul_of_nonneg_right (by omega) (by omega)
        have h0 : ((n1.toNat * n2.toNat : Nat) : Int) = n1 * n2 := by rw [Int.natCast_mul]; congr 1; omega
        rw [Int.add_mul] at this
        omega
      refine ⟨fun l w' => match l with
          | [.int _ i, .int _ c, .int _ d, .slice p ln cp] => 0 ≤ i ∧ i ≤ n2 ∧ c = n2 ∧ d = n3 ∧ Ext w w' ∧ (∃ N0, w.heap.size ≤ N0 ∧ N0 ≤ w'.heap.size ∧ k1 < N0 ∧ k2 < N0 ∧ k3 < N0 ∧ Own N0 w'.heap.size w' p ln cp 1 (ints (cropL xs W x y n2 n1.toNat ++ (row xs W x y n2 n1.toNat).take i.toNat)))
          | _ => False,
        fun l _ => match l with | [.int _ i, .int _ _, .int _ _, .slice _ _ _] => (n2 - i).toNat | _ => 0, ⟨Int.le_refl _, by omega, rfl, rfl, hE5, N0, d1, d2, d3, d4, d5, by simpa using ho⟩, fun n4 n5 n6 p2 k6 k7 w6 hI => ?_⟩
      obtain ⟨e0, e1, rfl, rfl, hE6, N1, f1, f2, f3, f4, f5, ho6⟩ := hI
      refine brB_i (fun hlt' => ?_) (fun hge => ?_)
      · have hlt' : n4 < n5 := by simpa using hlt'
        rw [r3, w64 (x := (y + n1) * W + x + n4) (by omega) (by omega)]
        refine ((h.ext hE6).drew).get (by omega) (by rw [ints_length]; omega) (ints_get (by omega)) fun ad hc => ⟨_, hc, fun k8 hk8 w7 hL7 => ?_⟩
        have hk8 : w6.heap.size ≤ k8 := hk8
        have hs7 : w6.heap.size ≤ w7.heap.size := hL7.size
        have hE7 : Ext w w7 := hE6.drew.step hL7.chg (by have := hE6.size; simp; omega)
        have ho7 := (Own.chg (w := w6.drew) ho6 hL7.chg (by simp; omega))
        have hlo := ho6.len
        rw [ints_length, List.length_append, List.length_take, hcl, hrl] at hlo
        refine ho7.appS (by simp [blocks]; omega) (by omega) hs7 rfl rfl (by omega) (by omega) fun p3 k10 w8 ho8 hc8 w9 hL9 => ?_
        have hs8 := hc8.size
        have hs9 := hL9.size
        have ht8 := hL7.there k8 (by simp)
        have hE8 := hE7.step hc8 (fun i hi => by omega)
        have hE9 := hE8.step hL9.chg (by have := hE6.size; simp; omega)
        have ho9 := (ho8.chg hL9.chg (by simp; omega)).own (N := N1) (M := w9.heap.size) (fun i hi hlt => by omega)
        have hrow := row_take_succ (xs := xs) (W := W) (x := x) (y := y) (w := n5) (k := n1.toNat) (i := n4.toNat) (by rw [hkk]; omega) (by rw [hkk]; omega) (by omega)
        rw [hkk, show (n4.toNat : Int) = n4 by omega] at hrow
        rw [w64 (x := n4 + 1) (by omega) (by omega)]
        refine ⟨⟨by omega, by omega, rfl, rfl, hE9, N1, f1, by omega, f3, f4, f5, ?_⟩, ?_⟩
        · rw [show (n4 + 1).toNat = n4.toNat + 1 by omega, hrow, ← List.append_assoc, ints_append _ [_]]
          exact ho9
        · show (n5 - (n4 + 1)).toNat < (n5 - n4).toNat
          omega
      · have hge : n4 = n5 := by simp at hge; omega
        subst hge
        rw [List.take_of_length_le (by omega), ← cropL_succ] at ho6
        rw [w64 (x := n1 + 1) (by omega) (by omega)]
        refine ⟨⟨by omega, by omega, rfl, rfl, hE6, N1, f1, f2, f3, f4, f5, ?_⟩, ?_⟩
        · rw [show (n1 + 1).toNat = n1.toNat + 1 by omega]; exact ho6
        · show (n6 - (n1 + 1)).toNat < (n6 - n1).toNat
          omega
    · have hge : n1 = n3 := by simp at hge; omega
      subst hge
      have hs10 := hL10.size
      refine h2 hw p1 k4 k5 w10 (hE5.step hL10.chg (by simp; omega)) ((ho.chg hL10.chg (by simp; omega)).mono d1 (by omega))
/-- one list laid over another at a place -/
def splice (xs : List Int) (o : Nat) (r : List Int) : List Int := xs.take o ++ r ++ xs.drop (o + r.length)
theorem splice_length {xs : List Int} {o : Nat} {r : List Int} (h : o + r.length ≤ xs.length) : (splice xs o r).length = xs.length := by
  simp only [splice, List.length_append, List.length_take, List.length_drop]; omega
theorem splice_self {xs : List Int} {o n : Nat} (h : o + n ≤ xs.length) : splice xs o ((xs.drop o).take n) = xs := by
  have hl : ((xs.drop o).take n).length = n := by simp only [List.length_take, List.length_drop]; omega
  simp only [splice, hl]
  rw [← List.drop_drop, List.append_assoc, List.take_append_drop, List.take_append_drop]
theorem splice_snoc {xs : List Int} {o : Nat} {r : List Int} {v : Int} (h : o + r.length < xs.length) : splice xs o (r ++ [v]) = (splice xs o r).set (o + r.length) v := by
  have hl : (xs.take o ++ r).length = o + r.length := by simp only [List.length_append, List.length_take]; omega
  simp only [splice]
  rw [List.set_append_right _ _ (by omega), hl, Nat.sub_self, List.length_append, List.length_singleton, ← Nat.add_assoc]
  rw [List.drop_eq_getElem_cons (i := o + r.length) h]
  simp only [List.append_assoc, List.set_cons_zero, List.singleton_append, List.cons_append, List.nil_append]
def pasteL (xs : List Int) (W x y : Int) (ys : List Int) (w : Int) : Nat → List Int
  | 0 => xs
  | k + 1 => splice (pasteL xs W x y ys w k) ((y + k) * W + x).toNat ((ys.drop (k * w.toNat)).take w.toNat)
/-- the rows' places, when a part of size a, b is laid in -/
theorem srcAt {a b W H n m : Int} (hab : a * b = m) (ha : 1 ≤ a) (haW : a ≤ 4096) (hbH : b ≤ 4096) {k : Int} (h0 : 0 ≤ k) (h1 : k < b) :
    0 ≤ k * a ∧ k * a + a ≤ m ∧ IntKind.i64.wrap (k * a) = k * a ∧ IntKind.i64.wrap (IntKind.i64.wrap (k + 1) * a) = k * a + a := by
  have c0 : 0 ≤ k * a := Int.mul_nonneg h0 (by omega)
  have c1 : (k + 1) * a ≤ b * a := Int.mul_le_mul_of_nonneg_right (by omega) (by omega)
  have c2 : b * a ≤ 4096 * 4096 := Int.mul_le_mul hbH haW (by omega) (by omega)
  rw [Int.add_mul, Int.one_mul, Int.mul_comm b a, hab] at c1
  rw [Int.mul_comm b a, hab] at c2
  refine ⟨c0, by omega, w64 (by omega) (by omega), ?_⟩
  rw [w64 (x := k + 1) (by omega) (by omega), Int.add_mul, Int.one_mul, w64 (by omega) (by omega)]
theorem pasteL_length {xs ys : List Int} {x y a b W H : Int} (hw : within x y a b W H = true) (hW : W ≤ 4096) (hH : H ≤ 4096) (hn : W * H = xs.length) (hm : a * b = ys.length) : ∀ k : Nat, (k : Int) ≤ b → (pasteL xs W x y ys a k).length = xs.length
  | 0, _ => rfl
  | k + 1, hk => by
    obtain ⟨a1, a2, a3, a4, a5, a6⟩ : 1 ≤ a ∧ 1 ≤ b ∧ 0 ≤ x ∧ 0 ≤ y ∧ x ≤ W - a ∧ y ≤ H - b := by simpa [within] using hw
    obtain ⟨r1, r2, _⟩ := rowAt hw hW hH hn (k := k) (by omega) (by omega)
    have ih := pasteL_length hw hW hH hn hm k (by omega)
    rw [pasteL, splice_length, ih]
    rw [ih, List.length_take]
    omega
/-- one grid is laid into another; 'G k' is what holds when k rows are in -/
theorem Paste_spec {w : World} {q1 q2 : Option Addr} {gb cb gb' cb' : Nat} {W H a b x y : Int} {R : Ending → World → Prop} {cur src : Nat → List Int} {n : Nat} {m : Nat}
    (h1 : GridAt w q1 gb cb W H (ints (cur 0))) (h2 : GridAt w q2 gb' cb' a b (ints (src 0)))
    (hlen : within x y a b W H = true → ∀ k : Nat, (k : Int) ≤ b → (cur k).length = n ∧ (src k).length = m)
    (hstep : ∀ (k : Nat) (w' w'' : World), (k : Int) < b → within x y a b W H = true → GridAt w' q2 gb' cb' a b (ints (src k)) → Chg (· = cb) w' w'' →
      GridAt w'' q1 gb cb W H (ints (splice (cur k) ((y + k) * W + x).toNat (((src k).drop (k * a.toNat)).take a.toNat))) → GridAt w'' q1 gb cb W H (ints (cur (k + 1))) ∧ GridAt w'' q2 gb' cb' a b (ints (src (k + 1))))
    (hR1 : within x y a b W H = false → ∀ w', Ext w w' → R (.returned (i64 2)) w')
    (hR2 : within x y a b W H = true → ∀ w', Chg (· = cb) w w' → GridAt w' q1 gb cb W H (ints (cur b.toNat)) → GridAt w' q2 gb' cb' a b (ints (src b.toNat)) → R (.returned (i64 0)) w') :
    Calls P F.grid_Grid_int_Paste #[.pointer q1, i64 x, i64 y, .pointer q2] w R := by
  refine calls_grid_Grid_int_Paste _ _ _ _ _ _ ?_
  have hd1 := h1.dims
  have hd2 := h2.dims
  have hn := h1.len
  have hm := h2.len
  rw [ints_length] at hd1 hd2 hn hm
  obtain ⟨rest, h3, h4⟩ := h1.cells
  obtain ⟨rest', h3', h4'⟩ := h2.cells
  have hp1 := h1.ptr
  have hp2 := h2.ptr
  have hdr := (Ext.refl w).drew
  unfold vc_grid_Grid_int_Paste
  refine brB_f (by rw [hp1, hp2]; rfl) (nn_i hp2 ⟨_, h3'.drew.cell (i := 0) rfl, nn_i hp2 ⟨_, h3'.drew.cell (i := 1) rfl, nn_i hp1 ⟨_, h3.drew.cell (i := 0) rfl, nn_i hp1 ⟨_, h3.drew.cell (i := 1) rfl, ?_⟩⟩⟩⟩)
  have key : Calls P F.grid_within #[i64 x, i64 y, i64 a, i64 b, i64 W, i64 H] w.drew fun e w' => e = .returned (.bool (within x y a b W H)) ∧ w' = w.drew := by
    refine calls_grid_within _ _ _ _ _ _ _ _ ?_
    unfold vc_grid_within
    rw [w64 (x := W - a) (by omega) (by omega), w64 (x := H - b) (by omega) (by omega)]
    refine ⟨?_, rfl⟩
    congr 2
    rw [Bool.eq_iff_iff]; simp only [within, Bool.and_eq_true, decide_eq_true_eq]; omega
  refine key.mono fun e1 w1 he => ?_
  obtain ⟨rfl, rfl⟩ := he
  refine ⟨_, rfl, brB_i (fun hw => hR1 (by simpa using hw) _ hdr) (fun hw => ?_)⟩
  have hw : within x y a b W H = true := by simpa using hw
  have hl0 := hlen hw 0 (by omega)
  refine nn_i hp2 ⟨_, h3'.drew.cell (i := 1) rfl, ?_⟩
  refine ⟨fun l w' => match l with | [.int _ k] => 0 ≤ k ∧ k ≤ b ∧ Chg (· = cb) w w' ∧ GridAt w' q1 gb cb W H (ints (cur k.toNat)) ∧ GridAt w' q2 gb' cb' a b (ints (src k.toNat)) | _ => False,
    fun l _ => match l with | [.int _ k] => (b - k).toNat | _ => 0, ⟨Int.le_refl _, by omega, hdr.chg, h1.ext hdr, h2.ext hdr⟩, fun k w2 hI => ?_⟩
  obtain ⟨k0, kb, hC, i1, i2⟩ := hI
  refine brB_i (fun hlt => ?_) (fun hge => ?_)
  · have hkb : k < b := by simpa using hlt
    obtain ⟨hlk, hmk⟩ := hlen hw k.toNat (by omega)
    obtain ⟨r1, r2, r3, r4, r5⟩ := rowAt hw hd1.2.2.1 hd1.2.2.2.1 hn k0 hkb
    obtain ⟨s1, s2, s3, s4⟩ := srcAt (W := W) (H := H) (n := 0) hm hd2.1 hd2.2.2.1 hd2.2.2.2.1 k0 hkb
    have sl2 := i2.sl
    obtain ⟨t, j3, j4⟩ := i1.cells
    obtain ⟨t', j3', j4'⟩ := i2.cells
    refine nn_i hp1 ⟨_, _, _, j3.drew.cell (i := 2) rfl, nn_i hp1 ⟨_, j3.drew.cell (i := 0) rfl, ?_⟩⟩
    rw [r3]
    refine ⟨r1, by rw [ints_length]; omega, by rw [ints_length]; omega, nn_i hp2 ⟨_, _, _, j3'.drew.cell (i := 2) rfl, nn_i hp2 ⟨_, j3'.drew.cell (i := 0) rfl, nn_i hp2 ⟨_, j3'.drew.cell (i := 0) rfl, ?_⟩⟩⟩⟩
    rw [s3, s4]
    refine ⟨s1, by omega, by rw [ints_length]; omega, ?_⟩
    have hka : ((k.toNat * a.toNat : Nat) : Int) = k * a := by rw [Int.natCast_mul]; congr 1 <;> omega
    have hka' : (k * a).toNat = k.toNat * a.toNat := by omega
    have hrl : (((src k.toNat).drop (k.toNat * a.toNat)).take a.toNat).length = a.toNat := by
      simp only [List.length_take, List.length_drop]; omega
    refine ⟨ints (((src k.toNat).drop (k.toNat * a.toNat)).take a.toNat), ?_, ints_oneAll _, ?_, .inr ?_⟩
    · rw [ints_length, hrl, ints_length]; omega
    · have : Sl w2.drew.heap.size w2.drew (slcBase (some ⟨cb', 0, none⟩) (k * a).toNat ((ints (src k.toNat)).length + t'.length) 1) (ints (((src k.toNat).drop (k.toNat * a.toNat)).take a.toNat)) := by
        refine (sl2.drew.up).part (by omega) ?_
        rw [hka']
        simp only [ints, List.map_take, List.map_drop]
        exact List.take_prefix _ _
      exact this.cells
    · have hkk : (k.toNat : Int) = k := by omega
      have hne : ((ints (cur k.toNat)).length + t.length) ≠ ((y + k) * W + x).toNat := by rw [ints_length]; omega
      refine ⟨⟨cb, ((y + k) * W + x).toNat, none⟩, by simp only [slcBase, if_neg hne, Option.map_some, Nat.mul_one, loc_add, Nat.zero_add], ?_, ?_, ?_⟩
      · refine j4.drew.canSet ?_
        rw [List.length_append, ints_length, ints_length, hrl]; omega
      · have hset := j4.drew.set (off := ((y + k) * W + x).toNat) (us := ints (((src k.toNat).drop (k.toNat * a.toNat)).take a.toNat)) (by rw [List.length_append, ints_length, ints_length, hrl]; omega)
        have hc := Chg.setCells w2.drew ⟨cb, ((y + k) * W + x).toNat, none⟩ (ints (((src k.toNat).drop (k.toNat * a.toNat)).take a.toNat)) 0
        have hc' : Chg (· = cb) w2 (setCells w2.drew ⟨cb, ((y + k) * W + x).toNat, none⟩ (ints (((src k.toNat).drop (k.toNat * a.toNat)).take a.toNat)) 0) := ((Chg.refl (· = cb) w2).drew).trans hc fun i hi _ => hi
        have hsp : (splice (cur k.toNat) ((y + k) * W + x).toNat (((src k.toNat).drop (k.toNat * a.toNat)).take a.toNat)).length = (cur k.toNat).length := splice_length (by rw [hrl]; omega)
        have hst := hstep k.toNat w2 _ (by omega) hw i2 hc' (by
          rw [hkk]
          refine ⟨hp1, ⟨t, ?_, ?_⟩, i1.ne, i1.ok, by rw [ints_length, hsp]; rw [← ints_length]; exact i1.len⟩
          · rw [ints_length, hsp, ← ints_length]; exact j3.chg hc' (fun e => i1.ne e)
          · have e : (ints (cur k.toNat) ++ t).take ((y + k) * W + x).toNat ++ ints (((src k.toNat).drop (k.toNat * a.toNat)).take a.toNat) ++ (ints (cur k.toNat) ++ t).drop (((y + k) * W + x).toNat + (ints (((src k.toNat).drop (k.toNat * a.toNat)).take a.toNat)).length) = ints (splice (cur k.toNat) ((y + k) * W + x).toNat (((src k.toNat).drop (k.toNat * a.toNat)).take a.toNat)) ++ t := by
              rw [List.take_append_of_le_length (by rw [ints_length]; omega), List.drop_append_of_le_length (by rw [ints_length, ints_length, hrl]; omega), ints_length]
              simp [splice, ints]
            rw [e] at hset
            exact hset)
        rw [w64 (x := k + 1) (by omega) (by omega)]
        refine ⟨by omega, by omega, hC.trans hc' (fun i hi _ => hi), ?_, ?_⟩
        · rw [show (k + 1).toNat = k.toNat + 1 by omega]; exact hst.1
        · rw [show (k + 1).toNat = k.toNat + 1 by omega]; exact hst.2
      · rw [w64 (x := k + 1) (by omega) (by omega)]
        show (b - (k + 1)).toNat < (b - k).toNat
        omega
  · have hkb : k = b := by simp at hge; omega
    subst hkb
    exact hR2 hw w2 hC i1 i2
end Go.Proofs.Ytpdfpbioolbjjaa
