/- Bmp: the program's runs. -/
import Derived.Test.YtjdljddfiddnoaaDoorBM14
namespace Go.Proofs.YtjdljddfiddnoaaDoor
open Go Go.Vc Go.RowKit
set_option maxRecDepth 100000
set_option linter.unusedVariables false
set_option linter.unusedSimpArgs false

structure Cv (u : World) (k4 k3 fb N : Nat) (s : RS) : Prop where
  c : Cs u k4 [.pointer (some ⟨fb, 0, none⟩), i64 s.x, i64 s.y, .slice (some ⟨k3, 0, none⟩) N N]
  ix : Cs u k3 (s.ix.map i64)
theorem Cv.keep {bs : List Nat} {u u' : World} {k4 k3 fb N : Nat} {s : RS} (h : Cv u k4 k3 fb N s) (k : Keep bs u u') (h4 : k4 ∈ bs) (h3 : k3 ∈ bs) : Cv u' k4 k3 fb N s := ⟨h.c.keep k h4, h.ix.keep k h3⟩
theorem Cv.dr {u : World} {k4 k3 fb N : Nat} {s : RS} (h : Cv u k4 k3 fb N s) : Cv u.drew k4 k3 fb N s := ⟨h.c.drew, h.ix.drew⟩
theorem Cv.locl {bs : List Nat} {u u' : World} {k4 k3 fb N : Nat} {s : RS} (h : Cv u k4 k3 fb N s) (k : Locl bs u u') (h4 : k4 ∉ bs) (h3 : k3 ∉ bs) : Cv u' k4 k3 fb N s := ⟨h.c.locl k h4, h.ix.locl k h3⟩
theorem nib4 {v : Int} {k : Nat} (h0 : 0 ≤ v) (h1 : v ≤ 255) (hk : k < 2 ^ 60) : 0 ≤ IntKind.i64.wrap (4 * IntKind.i64.wrap (1 - divZ .rem .i64 (k : Int) 2)) ∧
    IntKind.i64.wrap (bitsZ .and .i64 (shiftZ .shr .i64 v (IntKind.i64.wrap (4 * IntKind.i64.wrap (1 - divZ .rem .i64 (k : Int) 2)))) 15) = nib 4 v k := by
  have key : ∀ m : Nat, m ≤ 255 → IntKind.i64.wrap (bitsZ .and .i64 (m : Int) 15) = ((m % 16 : Nat) : Int) := fun m hm => by
    rw [bitsZ_and (by omega) (by simp [IntKind.bits]; omega) (by omega) (by decide), Int.toNat_natCast, show (15 : Int).toNat = 2 ^ 4 - 1 by rfl, Nat.and_two_pow_sub_one_eq_mod]
    exact w64 (by omega) (by omega)
  obtain ⟨n, rfl⟩ := Int.eq_ofNat_of_zero_le h0
  rw [remN (by omega)]
  unfold nib
  rw [if_neg (by decide)]
  rcases Nat.mod_two_eq_zero_or_one k with e | e
  · rw [show (k : Int) % 2 = 0 by omega, if_pos e, show IntKind.i64.wrap (4 * IntKind.i64.wrap (1 - 0)) = 4 by decide, shiftZ_shr (by omega) (by omega) (by decide)]
    refine ⟨by decide, ?_⟩
    have e2 : ((n : Int) / 2 ^ (4 : Int).toNat) = ((n / 16 : Nat) : Int) := by rw [show (4 : Int).toNat = 4 by rfl]; simp
    rw [e2, key _ (by omega)]; omega
  · rw [show (k : Int) % 2 = 1 by omega, if_neg (by omega), show IntKind.i64.wrap (4 * IntKind.i64.wrap (1 - 1)) = 0 by decide, shiftZ_shr (by omega) (by omega) (by decide)]
    refine ⟨by decide, ?_⟩
    have e2 : ((n : Int) / 2 ^ (0 : Int).toNat) = (n : Int) := by rw [show (0 : Int).toNat = 0 by rfl]; simp
    rw [e2, key _ (by omega)]; omega
theorem cput_spec {u : World} {k4 k3 fb : Nat} {sl pal : Value} {W H : Int} {dn : Bool} {d pk a m0 m1 m2 m3 v : Int} {s : RS} {k : Nat} {R : Ending → World → Prop} (hV : Cv u k4 k3 fb (W * H).toNat s) (hC : Cs u fb (fl sl W H dn d pk a m0 m1 m2 m3 pal))
    (ok : StOk W H s) (hg : gfits W H = true) (h34 : k3 ≠ k4) (hd : d = 4 ∨ d = 8) (v0 : 0 ≤ v) (v1 : v ≤ 255) (hk : k < 2 ^ 60) (hf3 : fb ≠ k3)
    (h1 : putS W H s (nib d v k) = none → R (.returned (.bool false)) u.drew)
    (h2 : ∀ t, putS W H s (nib d v k) = some t → ∀ u', Chg (· ∈ [k3, k4]) u u' → u'.heap.size = u.heap.size → Cv u' k4 k3 fb (W * H).toNat t → R (.returned (.bool true)) u') :
    Calls P F.bmp_canvas_put #[.pointer (some ⟨k4, 0, none⟩), i64 v, i64 k] u R := by
  obtain ⟨g1, g2, g3, g4, g5⟩ := gfits_iff.1 hg
  have wh0 : 0 ≤ W * H := Int.mul_nonneg (by omega) (by omega)
  obtain ⟨x0, x1, y0, y1, hl, hfit⟩ := ok
  refine calls_bmp_canvas_put _ _ _ _ _ ?_
  unfold vc_bmp_canvas_put
  have hD := hV.dr
  have hCd := hC.drew
  refine nn_i rfl ⟨_, hD.c.cell (i := 1) rfl, nn_i rfl ⟨_, hD.c.cell (i := 0) rfl, nn_i rfl ⟨_, hCd.cell (i := 1) rfl, brB_i (fun hb => h1 (by unfold putS; rw [if_neg]; simp at hb; omega)) fun hb => ?_⟩⟩⟩
  refine nn_i rfl ⟨_, hD.c.cell (i := 2) rfl, nn_i rfl ⟨_, hD.c.cell (i := 0) rfl, nn_i rfl ⟨_, hCd.cell (i := 2) rfl, brB_i (fun hc => h1 (by unfold putS; rw [if_neg]; simp at hc; omega)) fun hc => ?_⟩⟩⟩
  have hx : s.x < W := by simp at hb; omega
  have hy : s.y < H := by simp at hc; omega
  have hput : putS W H s (nib d v k) = some ⟨s.x + 1, s.y, s.ix.set ((H - 1 - s.y) * W + s.x).toNat (nib d v k)⟩ := by unfold putS; rw [if_pos ⟨hx, hy⟩]
  refine ⟨fun vs u' => vs = [i64 (nib d v k)] ∧ u' = u.drew, nn_i rfl ⟨_, hD.c.cell (i := 0) rfl, nn_i rfl ⟨_, hCd.cell (i := 4) rfl, brB_i (fun h4 => ?_) fun h4 => ⟨?_, rfl⟩⟩⟩, fun n6 w1 hI => ?_⟩
  · obtain rfl : d = 4 := by simpa using h4
    obtain ⟨n1, n2⟩ := nib4 (k := k) v0 v1 hk
    exact ⟨n1, by rw [n2], rfl⟩
  · obtain rfl : d = 8 := by simp at h4; omega
    rfl
  obtain ⟨hv, rfl⟩ := hI
  obtain rfl : n6 = nib d v k := by simpa using hv
  have hD2 := hD.dr
  have r0 : 0 ≤ (H - 1 - s.y) * W := Int.mul_nonneg (by omega) (by omega)
  have r1 : (H - 1 - s.y) * W + W ≤ W * H := by
    rw [show (H - 1 - s.y) * W + W = (H - 1 - s.y + 1) * W by rw [Int.add_mul (H - 1 - s.y) 1]; omega, Int.mul_comm W H]
    exact Int.mul_le_mul_of_nonneg_right (by omega) (by omega)
  refine nn_i rfl ⟨_, _, _, hD2.c.cell (i := 3) rfl, nn_i rfl ⟨_, hD2.c.cell (i := 0) rfl, nn_i rfl ⟨_, hCd.drew.cell (i := 2) rfl, nn_i rfl ⟨_, hD2.c.cell (i := 2) rfl, nn_i rfl ⟨_, hD2.c.cell (i := 0) rfl, nn_i rfl ⟨_, hCd.drew.cell (i := 1) rfl, nn_i rfl ⟨_, hD2.c.cell (i := 1) rfl, ?_⟩⟩⟩⟩⟩⟩⟩
  rw [w64 (x := H - 1) (by omega) (by omega), w64 (x := H - 1 - s.y) (by omega) (by omega), w64 (x := (H - 1 - s.y) * W) (by omega) (by omega), w64 (x := (H - 1 - s.y) * W + s.x) (by omega) (by omega)]
  refine idx_i (a := ⟨k3, 0, none⟩) (by omega) (by omega) rfl ?_
  rw [loc_add, Nat.zero_add, Nat.mul_one]
  have hlt : ((H - 1 - s.y) * W + s.x).toNat < (s.ix.map i64).length := by rw [List.length_map]; omega
  have hL1 := set_locl (u := u.drew.drew) (b := k3) (i := ((H - 1 - s.y) * W + s.x).toNat) (vs := [i64 (nib d v k)]) hD2.ix.lt
  have hs1 : (setCells u.drew.drew ⟨k3, ((H - 1 - s.y) * W + s.x).toNat, none⟩ [i64 (nib d v k)] 0).heap.size = u.heap.size := (setCells_same _ _ _ _).size
  have hc1 := hD2.c.locl hL1 (by simp; omega)
  have hi1 := hD2.ix.set1 (v := i64 (nib d v k)) hlt
  refine ⟨⟨_, hD2.ix.cell (List.getElem?_eq_getElem hlt)⟩, hD2.ix.frozen _, nn_i rfl ⟨_, hc1.cell (i := 1) rfl, nn_i rfl ⟨⟨_, hc1.cell (i := 1) rfl⟩, hc1.frozen _, ?_⟩⟩⟩
  rw [w64 (x := s.x + 1) (by omega) (by omega)]
  generalize hu1 : setCells u.drew.drew ⟨k3, ((H - 1 - s.y) * W + s.x).toNat, none⟩ [i64 (nib d v k)] 0 = u1 at hL1 hc1 hi1 hs1 ⊢
  have hL2 := set_locl (u := u1) (b := k4) (i := 1) (vs := [i64 (s.x + 1)]) hc1.lt
  have hc2 := hc1.set1 (off := 1) (v := i64 (s.x + 1)) (by simp)
  have hi2 := hi1.locl hL2 (by simpa using h34)
  refine h2 _ hput _ ?_ ?_ ⟨hc2, by rw [List.map_set]; exact hi2⟩
  · have c1 : Chg (· ∈ [k3, k4]) u u1 := ((Ext.refl u).drew.drew.chg (S := (· ∈ [k3, k4]))).trans hL1.chg fun i hi _ => by simp at hi; simp [hi]
    exact c1.trans hL2.chg fun i hi _ => by simp at hi; simp [hi]
  · exact ((setCells_same _ _ _ _).size).trans hs1
theorem abs_size {d v : Int} (hd : d = 4 ∨ d = 8) (v0 : 0 ≤ v) (v1 : v ≤ 255) :
    IntKind.i64.wrap (divZ .quo .i64 (IntKind.i64.wrap (IntKind.i64.wrap (v + divZ .quo .i64 8 d) - 1)) (divZ .quo .i64 8 d) + divZ .rem .i64 (divZ .quo .i64 (IntKind.i64.wrap (IntKind.i64.wrap (v + divZ .quo .i64 8 d) - 1)) (divZ .quo .i64 8 d)) 2) = (absN d v : Int) ∧ divZ .quo .i64 8 d ≠ 0 := by
  unfold absN
  rcases hd with rfl | rfl
  · rw [show divZ .quo .i64 8 4 = 2 by decide, if_pos rfl, w64 (x := v + 2) (by omega) (by omega), w64 (x := v + 2 - 1) (by omega) (by omega), quoN (a := v + 2 - 1) (by omega) (by omega) (by omega), remN (by omega)]
    exact ⟨by rw [w64 (by omega) (by omega)]; omega, by decide⟩
  · rw [show divZ .quo .i64 8 8 = 1 by decide, if_neg (by decide), w64 (x := v + 1) (by omega) (by omega), w64 (x := v + 1 - 1) (by omega) (by omega), quoN (a := v + 1 - 1) (by omega) (by omega) (by omega), remN (by omega)]
    exact ⟨by rw [w64 (by omega) (by omega)]; omega, by decide⟩
theorem per_at {d : Int} (hd : d = 4 ∨ d = 8) (k : Nat) (hk : k < 2 ^ 60) : divZ .quo .i64 (k : Int) (divZ .quo .i64 8 d) = (((if d = 8 then k else k / 2) : Nat) : Int) := by
  rcases hd with rfl | rfl
  · rw [show divZ .quo .i64 8 4 = 2 by decide, quoN (by omega) (by omega) (by omega), if_neg (by decide)]; omega
  · rw [show divZ .quo .i64 8 8 = 1 by decide, quoN (by omega) (by omega) (by omega), if_pos rfl]; omega
theorem absV_nib {d : Int} (hd : d = 4 ∨ d = 8) (b : List Int) (j k : Nat) : absV d b j k = nib d (b.getD (j + if d = 8 then k else k / 2) 0) k := by
  unfold absV
  rcases hd with rfl | rfl
  · rw [if_neg (by decide), if_neg (by decide)]
  · rw [if_pos rfl, if_pos rfl]; unfold nib; rw [if_pos rfl]
end Go.Proofs.YtjdljddfiddnoaaDoor
