/- Moves: the mean of a square, the document's; the outcome's pixels. -/
import Derived.Test.YtdephacjcljinaaML5
namespace Go.Proofs.Ytdephacjcljinaa
open Go Go.Vc Go.RowKit
set_option maxRecDepth 100000
set_option linter.unusedVariables false
set_option linter.unusedSimpArgs false

set_option maxHeartbeats 4000000 in
theorem refmean_spec {w : World} {p : Option Addr} {len cap : Nat} {W H n x y : Int} {xs : List Int} {R : Ending → World → Prop} (h : Img w p len xs) (hg : good W H xs = true) (hxs : SmL xs) (n0 : 1 ≤ n) (n1 : n ≤ 64) (x0 : 0 ≤ n * x) (x1 : n * x < W) (y0 : 0 ≤ n * y) (y1 : n * y < H)
    (hR : ∀ w', Ext w w' → R (.returned (coV (meanC W H xs n x y))) w') : Calls P F.ref21_mean #[.agg #[i64 W, i64 H, .slice p len cap], i64 n, i64 x, i64 y] w R := by
  refine calls_ref21_mean _ _ _ _ _ _ _ _ _ _ ?_
  obtain ⟨hf, hlen⟩ := good_iff.1 hg
  obtain ⟨g1, g2, g3, g4, g5⟩ := gfits_iff.1 hf
  have hl := h.len
  intro k1 hk1 k2 hk2 w1 hL1 k3 w2 hn2
  have hE1 : Ext w w1 := hL1.ext (by simp; omega)
  have hk3 := hn2.1
  have s1 := hE1.size
  have s2 := hn2.size
  have s2' := hn2.ext.size
  have t1 := hL1.there k1 (by simp)
  have t2 := hL1.there k2 (by simp)
  have hb2 : ∀ b, b ∈ [k2, k1] → w.heap.size ≤ b := by simp; omega
  have hE2 : Ext w w2 := hE1.trans hn2.ext
  rw [w64 (x := n * x) (by omega) (by omega), w64 (x := n * y) (by omega) (by omega), w64 (x := n * x + n) (by omega) (by omega), w64 (x := n * y + n) (by omega) (by omega)]
  generalize ha : min n (W - n * x) = a
  generalize hb : min n (H - n * y) = b
  have a0 : 1 ≤ a ∧ a ≤ 64 ∧ n * x + a ≤ W := by omega
  have b0 : 1 ≤ b ∧ b ≤ 64 ∧ n * y + b ≤ H := by omega
  have hab : 1 ≤ a * b ∧ a * b ≤ 4096 := by
    have h1 := Int.mul_le_mul a0.1 b0.1 (by omega) (by omega)
    have h2 := Int.mul_le_mul a0.2.1 b0.2.1 (by omega) (by omega)
    omega
  have hRm : meanC W H xs n x y = avgC (sumC (meanF W xs n x y a) (a * b).toNat) (a * b) := by unfold meanC; rw [ha, hb]
  rw [hRm] at hR
  have hfo : ∀ q, CoOk (meanF W xs n x y a q) := fun q => hxs.col _
  refine ⟨fun vs u => match vs with | [.int _ m, .int _ k] => ∃ r : Int, k = n * y + r ∧ 0 ≤ r ∧ r ≤ b ∧ m = r * a ∧ Cs u k3 (coK .i64 (sumC (meanF W xs n x y a) (r * a).toNat)) ∧ Ext w u ∧ w2.heap.size ≤ u.heap.size | _ => False,
    fun vs _ => match vs with | [.int _ m, .int _ k] => (n * y + b - k).toNat | _ => 0, ⟨0, by omega, by omega, by omega, by omega, ?_, hE2, Nat.le_refl _⟩, fun m k u hI => ?_⟩
  · rw [Int.zero_mul]; exact hn2.cs
  obtain ⟨r, rfl, r0, r1, rfl, hcs, hE, hs⟩ := hI
  have ra : 0 ≤ r * a := Int.mul_nonneg r0 (by omega)
  have rab : r * a ≤ a * b := by
    have := Int.mul_le_mul_of_nonneg_right r1 (show 0 ≤ a by omega)
    rwa [Int.mul_comm b] at this
  refine brB_i (fun hlt => ?_) (fun hge => ?_)
  · have hlt : r < b := by simp at hlt; omega
    have rab2 : r * a + a ≤ a * b := by
      have h1 : (r + 1) * a ≤ b * a := Int.mul_le_mul_of_nonneg_right (by omega) (by omega)
      rw [Int.add_mul, Int.one_mul, Int.mul_comm b] at h1; exact h1
    refine ⟨fun vs u => match vs with | [.int _ m, .int _ i] => ∃ j : Int, i = n * x + j ∧ 0 ≤ j ∧ j ≤ a ∧ m = r * a + j ∧ Cs u k3 (coK .i64 (sumC (meanF W xs n x y a) (r * a + j).toNat)) ∧ Ext w u ∧ w2.heap.size ≤ u.heap.size | _ => False,
      fun vs _ => match vs with | [.int _ m, .int _ i] => (n * x + a - i).toNat | _ => 0, ⟨0, by omega, by omega, by omega, by omega, by rw [Int.add_zero]; exact hcs, hE, hs⟩, fun m i u2 hI2 => ?_⟩
    obtain ⟨j, rfl, j0, j1, rfl, hcs2, hE2, hs2⟩ := hI2
    refine brB_i (fun hlt2 => ?_) (fun hge2 => ?_)
    · have hlt2 : j < a := by simp at hlt2; omega
      obtain ⟨d1, d2⟩ := divmod (y := r) j0 hlt2
      have hn : (((r * a + j).toNat : Nat) : Int) = r * a + j := by omega
      have hMF : meanF W xs n x y a (r * a + j).toNat = colAt xs ((n * y + r) * W + (n * x + j)).toNat := by unfold meanF; rw [hn, d1, d2]
      have hle := sumC_le (f := meanF W xs n x y a) (q := (r * a + j).toNat) fun _ _ => hfo _
      have hsum : sumC (meanF W xs n x y a) (r * a + (j + 1)).toNat = add4 (sumC (meanF W xs n x y a) (r * a + j).toNat) (colAt xs ((n * y + r) * W + (n * x + j)).toNat) := by
        rw [show (r * a + (j + 1)).toNat = (r * a + j).toNat + 1 by omega, sumC, hMF]
      rw [hn] at hle
      have hck : CoOk (colAt xs ((n * y + r) * W + (n * x + j)).toNat) := hxs.col _
      refine refPixel_spec (h.ext hE2) hg (by omega) (by omega) (by omega) (by omega) fun w5 hE5 => ⟨_, _, _, _, rfl, hE5.keep _, fun k4 hk4 => ⟨by omega, by omega, fun w6 hL6 => ?_⟩⟩
      generalize sumC (meanF W xs n x y a) (r * a + j).toNat = s at *
      generalize colAt xs ((n * y + r) * W + (n * x + j)).toNat = c at *
      have s5 := hE5.size
      have c6 : Cs w6 k3 (coK .i64 s) := (hcs2.ext hE5).locl hL6 (by simp; omega)
      have s6 := hL6.size
      obtain ⟨l1, l2, l3, l4⟩ := hle
      obtain ⟨m1, m2, m3, m4⟩ := hck
      unfold Sm at m1 m2 m3 m4
      obtain ⟨c1, c2, c3, c4⟩ := c
      obtain ⟨s1', s2'', s3', s4'⟩ := s
      simp only at l1 l2 l3 l4 m1 m2 m3 m4 hsum ⊢
      have c7 := c6.set1 (off := 0) (v := i64 (s1' + c1)) (by simp [coK])
      have c8 := c7.set1 (off := 1) (v := i64 (s2'' + c2)) (by simp [coK])
      have c9 := c8.set1 (off := 2) (v := i64 (s3' + c3)) (by simp [coK])
      have c10 := c9.set1 (off := 3) (v := i64 (s4' + c4)) (by simp [coK])
      have hE6 : Ext w w6 := (hE2.trans hE5).step hL6.chg (by have := hE2.size; simp; omega)
      have hst : ∀ {u : World} (o : Nat) (v : Value), Ext w u → Ext w (setCells u ⟨k3, o, none⟩ [v] 0) := fun o v hE => hE.step (Chg.setCells _ ⟨k3, o, none⟩ [v] 0) fun k hk => by have hk : k = k3 := hk; omega
      have hnk : ¬ k3 ∈ [k4, k2, k1] := by simp; omega
      refine ⟨_, c6.cell (i := 0) rfl, by omega, by omega, ⟨_, c6.cell (i := 0) rfl⟩, c6.frozen 0, hnk, by omega, by omega, ?_⟩
      rw [w64 (x := c1) (by omega) (by omega), w64 (x := s1' + c1) (by omega) (by omega)]
      refine ⟨_, c7.cell (i := 1) rfl, by omega, by omega, ⟨_, c7.cell (i := 1) rfl⟩, c7.frozen 1, hnk, by omega, by omega, ?_⟩
      rw [w64 (x := c2) (by omega) (by omega), w64 (x := s2'' + c2) (by omega) (by omega)]
      refine ⟨_, c8.cell (i := 2) rfl, by omega, by omega, ⟨_, c8.cell (i := 2) rfl⟩, c8.frozen 2, hnk, by omega, by omega, ?_⟩
      rw [w64 (x := c3) (by omega) (by omega), w64 (x := s3' + c3) (by omega) (by omega)]
      refine ⟨_, c9.cell (i := 3) rfl, by omega, by omega, ⟨_, c9.cell (i := 3) rfl⟩, c9.frozen 3, hnk, ?_⟩
      rw [w64 (x := c4) (by omega) (by omega), w64 (x := s4' + c4) (by omega) (by omega), w64 (x := r * a + j + 1) (by omega) (by omega), w64 (x := n * x + j + 1) (by omega) (by omega)]
      refine ⟨⟨j + 1, by omega, by omega, by omega, by omega, ?_, hst _ _ (hst _ _ (hst _ _ (hst _ _ hE6))), ?_⟩, by show (n * x + a - (n * x + j + 1)).toNat < (n * x + a - (n * x + j)).toNat; omega⟩
      · rw [hsum]; exact c10
      · rw [(setCells_same _ _ _ _).size, (setCells_same _ _ _ _).size, (setCells_same _ _ _ _).size, (setCells_same _ _ _ _).size]; omega
    · have hge2 : j = a := by simp at hge2; omega
      subst hge2
      rw [w64 (x := n * y + r + 1) (by omega) (by omega)]
      exact ⟨⟨r + 1, by omega, by omega, by omega, by rw [Int.add_mul, Int.one_mul], by rw [Int.add_mul, Int.one_mul]; exact hcs2, hE2, hs2⟩, by show (n * y + b - (n * y + r + 1)).toNat < (n * y + b - (n * y + r)).toNat; omega⟩
  · have hge : r = b := by simp at hge; omega
    subst hge
    have hle := sumC_le (f := meanF W xs n x y a) (q := (r * a).toNat) fun _ _ => hfo _
    rw [Int.mul_comm a r] at hR hab
    rw [show (((r * a).toNat : Nat) : Int) = r * a by omega] at hle
    generalize hS : sumC (meanF W xs n x y a) (r * a).toNat = s at *
    refine ⟨fun vs u => match vs with | [.int _ c] => 0 ≤ c ∧ c ≤ 4 ∧ Cs u k3 (coK .i64 (part4 c s (avgC s (r * a)))) ∧ Ext w u ∧ w2.heap.size ≤ u.heap.size | _ => False, fun vs _ => match vs with | [.int _ c] => (4 - c).toNat | _ => 0,
      ⟨by omega, by omega, by rw [part4_0]; exact hcs, hE, hs⟩, fun c w7 hI4 => ?_⟩
    obtain ⟨i0, i1, hcs7, hE7, s7⟩ := hI4
    have hav : ∀ c, Sm (avgI (sel c s) (r * a)) := fun c => avg_sm (hle.sel c).1 (hle.sel c).2 hab.1
    refine brB_i (fun hlt => ?_) (fun hge => ?_)
    · have hlt : c < 4 := by simpa using hlt
      obtain ⟨q1, q2, q3, q4⟩ := cs_four hcs7 i0 hlt
      rw [part4_sel i0 hlt] at q1
      have hsl2 := hle.sel c
      have hav2 := hav c
      have eq1 : divZ .quo .i64 (IntKind.i64.wrap (sel c s + divZ .quo .i64 (r * a) 2)) (r * a) = sel c (avgC s (r * a)) := by
        rw [sel_avg]
        unfold avgI at hav2 ⊢
        unfold Sm at hav2
        rw [quoS (a := r * a) (n := 2) (by omega) (by omega) (by omega), w64 (x := sel c s + r * a / 2) (by omega) (by omega), quoS (by omega) (by omega) (by omega)]
      obtain ⟨r1, r2, r3⟩ := q4 (sel c (avgC s (r * a)))
      rw [part4_upd i0 hlt] at r1
      refine ⟨i0, hlt, _, q1, by omega, i0, hlt, ⟨_, q1⟩, q2, by rw [q3]; simp; omega, ?_⟩
      rw [eq1, w64 (x := c + 1) (by omega) (by omega)]
      exact ⟨⟨by omega, by omega, r1, hE7.step r2 fun k hk => by have hk : k = k3 := hk; omega, by rw [r3]; exact s7⟩, by show (4 - (c + 1)).toNat < (4 - c).toNat; omega⟩
    · have hge : c = 4 := by simp at hge; omega
      subst hge
      rw [part4_4] at hcs7
      refine ⟨by omega, by omega, _, hcs7.cell (i := 0) rfl, by omega, by omega, _, hcs7.cell (i := 1) rfl, by omega, by omega, _, hcs7.cell (i := 2) rfl, by omega, by omega, _, hcs7.cell (i := 3) rfl, fun w8 hL8 => ?_⟩
      have := hR w8 (hE7.step hL8.chg hb2)
      have v0 : 0 ≤ avgI s.1 (r * a) ∧ avgI s.1 (r * a) ≤ 65535 := hav 0
      have v1 : 0 ≤ avgI s.2.1 (r * a) ∧ avgI s.2.1 (r * a) ≤ 65535 := hav 1
      have v2 : 0 ≤ avgI s.2.2.1 (r * a) ∧ avgI s.2.2.1 (r * a) ≤ 65535 := hav 2
      have v3 : 0 ≤ avgI s.2.2.2 (r * a) ∧ avgI s.2.2.2 (r * a) ≤ 65535 := hav 3
      rw [wu16 (x := (avgC s (r * a)).1) v0.1 (by show avgI s.1 (r * a) < 65536; omega), wu16 (x := (avgC s (r * a)).2.1) v1.1 (by show avgI s.2.1 (r * a) < 65536; omega), wu16 (x := (avgC s (r * a)).2.2.1) v2.1 (by show avgI s.2.2.1 (r * a) < 65536; omega), wu16 (x := (avgC s (r * a)).2.2.2) v3.1 (by show avgI s.2.2.2 (r * a) < 65536; omega)]
      exact this
/-! ## the outcome's pixels -/
def inI (W H : Int) (t : Int × Int) : Bool := decide (0 ≤ t.1 ∧ 0 ≤ t.2 ∧ t.1 < W ∧ t.2 < H)
def pixM (op : ByteArray) (a : List Int) (W H : Int) (xs : List Int) (x y : Int) : Co :=
  if op = sShrink then meanC W H xs (a.getD 0 0) x y else if inI W H (frP op a W H x y) then colAt xs ((frP op a W H x y).2 * W + (frP op a W H x y).1).toNat else (a.getD 1 0, a.getD 2 0, a.getD 3 0, a.getD 4 0)
theorem fr_in {op : ByteArray} {a : List Int} {W H x y : Int} (h : (sizeR op a W H).2.2 = 0) (n1 : op ≠ sFrame) (n2 : op ≠ sShrink) (x0 : 0 ≤ x) (x1 : x < (whF op a W H).1) (y0 : 0 ≤ y) (y1 : y < (whF op a W H).2) : inI W H (frP op a W H x y) = true := by
  obtain ⟨hc, hg, hcr, hz, _⟩ := size_facts h
  obtain ⟨g1, g2, g3, g4, g5⟩ := gfits_iff.1 hg
  suffices hh : 0 ≤ (frP op a W H x y).1 ∧ 0 ≤ (frP op a W H x y).2 ∧ (frP op a W H x y).1 < W ∧ (frP op a W H x y).2 < H by unfold inI; exact decide_eq_true hh
  have q : ∀ {v n s : Int}, 0 ≤ v → 1 ≤ s → v < s → 1 ≤ n → 0 ≤ v * n / s ∧ v * n / s < n := fun {v n s} v0 s1 v1 n1 => by
    refine ⟨Int.ediv_nonneg (Int.mul_nonneg v0 (by omega)) (by omega), Int.ediv_lt_of_lt_mul (by omega) ?_⟩
    rw [Int.mul_comm n s]
    exact Int.mul_lt_mul_of_pos_right v1 (by omega)
  have q2 : ∀ {v n s : Int}, 0 ≤ v → 1 ≤ s → v < s * n → 0 ≤ v / s ∧ v / s < n := fun {v n s} v0 s1 v1 =>
    ⟨Int.ediv_nonneg v0 (by omega), Int.ediv_lt_of_lt_mul (by omega) (by rw [Int.mul_comm]; exact v1)⟩
  rcases names_cases (chk_fit hc).1 with rfl | rfl | rfl | rfl | rfl | rfl | rfl | rfl | rfl | rfl | rfl | rfl | rfl | rfl
  · obtain ⟨l4, q0, q1, q2, q3⟩ := crop_args hc
    have hk := hcr rfl
    have e1 : x < a.getD 2 0 := x1
    have e2 : y < a.getD 3 0 := y1
    show 0 ≤ a.getD 0 0 + x ∧ 0 ≤ a.getD 1 0 + y ∧ a.getD 0 0 + x < W ∧ a.getD 1 0 + y < H
    have := hk.1; have := hk.2
    omega
  · have e1 : x < W := x1
    have e2 : y < H := y1
    show 0 ≤ x ∧ 0 ≤ H - 1 - y ∧ x < W ∧ H - 1 - y < H
    omega
  · have e1 : x < W := x1
    have e2 : y < H := y1
    show 0 ≤ W - 1 - x ∧ 0 ≤ y ∧ W - 1 - x < W ∧ y < H
    omega
  · obtain ⟨l1, q0⟩ := rotate_args hc
    rw [show whF sRotate a W H = if a.getD 0 0 = 2 then (W, H) else (H, W) from rfl] at x1 y1
    rw [show frP sRotate a W H x y = if a.getD 0 0 = 1 then (y, H - 1 - x) else if a.getD 0 0 = 2 then (W - 1 - x, H - 1 - y) else (W - 1 - y, x) from rfl]
    by_cases e1 : a.getD 0 0 = 1
    · rw [if_neg (by omega)] at x1 y1
      rw [if_pos e1]
      simp only at x1 y1 ⊢
      omega
    · by_cases e2 : a.getD 0 0 = 2
      · rw [if_pos e2] at x1 y1
        rw [if_neg e1, if_pos e2]
        simp only at x1 y1 ⊢
        omega
      · rw [if_neg e2] at x1 y1
        rw [if_neg e1, if_neg e2]
        simp only at x1 y1 ⊢
        omega
  · have e1 : x < H := x1
    have e2 : y < W := y1
    show 0 ≤ y ∧ 0 ≤ x ∧ y < W ∧ x < H
    omega
  · have e1 : x < H := x1
    have e2 : y < W := y1
    show 0 ≤ W - 1 - y ∧ 0 ≤ H - 1 - x ∧ W - 1 - y < W ∧ H - 1 - x < H
    omega
  · exact ⟨Int.emod_nonneg _ (by omega), Int.emod_nonneg _ (by omega), Int.emod_lt_of_pos _ (by omega), Int.emod_lt_of_pos _ (by omega)⟩
  · obtain ⟨l1, q0, q1⟩ := resize_args hc
    have e1 : x < a.getD 0 0 := x1
    have e2 : y < a.getD 1 0 := y1
    have h1 := q x0 (by omega) e1 g1
    have h2 := q y0 (by omega) e2 g2
    exact ⟨h1.1, h2.1, h1.2, h2.2⟩
  · obtain ⟨l1, q0⟩ := zoom_args hc
    have e1 : x < a.getD 0 0 * W := x1
    have e2 : y < a.getD 0 0 * H := y1
    have h1 := q2 x0 (by omega) e1
    have h2 := q2 y0 (by omega) e2
    exact ⟨h1.1, h2.1, h1.2, h2.2⟩
  · exact ⟨Int.emod_nonneg _ (by omega), Int.emod_nonneg _ (by omega), Int.emod_lt_of_pos _ (by omega), Int.emod_lt_of_pos _ (by omega)⟩
  · show 0 ≤ min (max (x - a.getD 0 0) 0) (W - 1) ∧ 0 ≤ min (max (y - a.getD 1 0) 0) (H - 1) ∧ min (max (x - a.getD 0 0) 0) (W - 1) < W ∧ min (max (y - a.getD 1 0) 0) (H - 1) < H
    omega
  · exact (n1 rfl).elim
  · exact (n2 rfl).elim
  · have e1 : x < W := x1
    have e2 : y < H := y1
    show 0 ≤ x ∧ 0 ≤ y ∧ x < W ∧ y < H
    omega
def pf (op : ByteArray) (a : List Int) (W H : Int) (xs : List Int) (w : Int) (k : Nat) : Co := pixM op a W H xs ((k : Int) % w) ((k : Int) / w)
def pxs (op : ByteArray) (a : List Int) (W H : Int) (xs : List Int) (w : Int) (n : Nat) : List Int := flat ((List.range n).map (pf op a W H xs w))
theorem pxs_succ (op : ByteArray) (a : List Int) (W H : Int) (xs : List Int) (w : Int) (n : Nat) : pxs op a W H xs w (n + 1) = pxs op a W H xs w n ++ coL (pf op a W H xs w n) := by
  unfold pxs
  rw [List.range_succ, List.map_append, flat_append']; simp [flat_one']
theorem pxs_length (op : ByteArray) (a : List Int) (W H : Int) (xs : List Int) (w : Int) (n : Nat) : (pxs op a W H xs w n).length = 4 * n := by simp [pxs, flat_length]
/-! ## trimming -/
def box (W H : Int) (xs : List Int) : Nat → Int × Int × Int × Int
  | 0 => (W, H, -1, -1)
  | q + 1 => if colAt xs q = colAt xs 0 then box W H xs q else
    (min (box W H xs q).1 ((q : Int) % W), min (box W H xs q).2.1 ((q : Int) / W), max (box W H xs q).2.2.1 ((q : Int) % W), max (box W H xs q).2.2.2 ((q : Int) / W))
def boxT (b : Int × Int × Int × Int) : Int × Int × Int × Int := if b.2.2.1 < 0 then (0, 0, 0, 0) else b
def trimR (W H : Int) (xs : List Int) : Int × Int × List Int × Int :=
  cropR W H xs (boxT (box W H xs (W * H).toNat)).1 (boxT (box W H xs (W * H).toNat)).2.1 ((boxT (box W H xs (W * H).toNat)).2.2.1 - (boxT (box W H xs (W * H).toNat)).1 + 1) ((boxT (box W H xs (W * H).toNat)).2.2.2 - (boxT (box W H xs (W * H).toNat)).2.1 + 1)
def BoxOk (W H : Int) (b : Int × Int × Int × Int) : Prop := b = (W, H, -1, -1) ∨ (0 ≤ b.1 ∧ b.1 ≤ b.2.2.1 ∧ b.2.2.1 < W ∧ 0 ≤ b.2.1 ∧ b.2.1 ≤ b.2.2.2 ∧ b.2.2.2 < H)
theorem box_ok {W H : Int} {xs : List Int} (hg : gfits W H = true) : ∀ {q : Nat}, (q : Int) ≤ W * H → BoxOk W H (box W H xs q)
  | 0, _ => .inl rfl
  | q + 1, h => by
    obtain ⟨g1, g2, g3, g4, g5⟩ := gfits_iff.1 hg
    have ih := box_ok (xs := xs) hg (q := q) (by omega)
    have m0 : 0 ≤ (q : Int) % W := Int.emod_nonneg _ (by omega)
    have m1 : (q : Int) % W < W := Int.emod_lt_of_pos _ (by omega)
    have d0 : 0 ≤ (q : Int) / W := Int.ediv_nonneg (by omega) (by omega)
    have d1 : (q : Int) / W < H := Int.ediv_lt_of_lt_mul (by omega) (by rw [Int.mul_comm]; omega)
    rw [box]
    split
    · exact ih
    · right
      generalize box W H xs q = b at *
      obtain ⟨b1, b2, b3, b4⟩ := b
      rcases ih with ih | ih
      · cases ih
        simp only; omega
      · simp only at ih ⊢; omega
theorem boxT_ok {W H : Int} {b : Int × Int × Int × Int} (hg : gfits W H = true) (h : BoxOk W H b) : 0 ≤ (boxT b).1 ∧ (boxT b).1 ≤ (boxT b).2.2.1 ∧ (boxT b).2.2.1 < W ∧ 0 ≤ (boxT b).2.1 ∧ (boxT b).2.1 ≤ (boxT b).2.2.2 ∧ (boxT b).2.2.2 < H := by
  obtain ⟨g1, g2, g3, g4, g5⟩ := gfits_iff.1 hg
  unfold boxT
  rcases h with h | h
  · subst h
    simp; omega
  · rw [if_neg (by omega)]; exact h
def appR (op : ByteArray) (a : List Int) (W H : Int) (xs : List Int) : Int × Int × List Int × Int :=
  if chkR op a ≠ 0 then (0, 0, [], chkR op a) else if good W H xs = false then (0, 0, [], 6) else if (sizeR op a W H).2.2 ≠ 0 then (0, 0, [], (sizeR op a W H).2.2) else
  if op = sTrim then ((trimR W H xs).1, (trimR W H xs).2.1, (trimR W H xs).2.2.1, 0) else
  ((sizeR op a W H).1, (sizeR op a W H).2.1, pxs op a W H xs (sizeR op a W H).1 ((sizeR op a W H).1 * (sizeR op a W H).2.1).toNat, 0)
end Go.Proofs.Ytdephacjcljinaa
