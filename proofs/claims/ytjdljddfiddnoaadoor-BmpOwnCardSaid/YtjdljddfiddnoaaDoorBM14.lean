/- Bmp: the program's plain pixels. -/
import Derived.Test.YtjdljddfiddnoaaDoorBM13
namespace Go.Proofs.YtjdljddfiddnoaaDoor
open Go Go.Vc Go.RowKit
set_option maxRecDepth 100000
set_option linter.unusedVariables false
set_option linter.unusedSimpArgs false

def pxQ (b : List Int) (W H d : Int) (dn : Bool) (g : Nat → Nat) (pl : List Co) (q : Nat) : Option Co :=
  if d ≤ 8 then (if ixQ b W H d dn q < pl.length then some (palC pl (ixQ b W H d dn q)) else none) else some (mskQ b W H d dn g q)
def plN (f : Nat → Option Co) : Nat → Option (List Co)
  | 0 => some []
  | n + 1 => match plN f n, f n with | some l, some c => some (l ++ [c]) | _, _ => none
theorem plN_len {f : Nat → Option Co} : ∀ {n : Nat} {l : List Co}, plN f n = some l → l.length = n
  | 0, l, h => by cases h; rfl
  | n + 1, l, h => by
    rw [plN] at h
    split at h
    · rename_i l' c h1 h2
      cases h
      rw [List.length_append, plN_len h1]; rfl
    · cases h
theorem plN_none {f : Nat → Option Co} {n : Nat} (h : plN f n = none) : ∀ {m : Nat}, n ≤ m → plN f m = none
  | 0, hm => by have : n = 0 := by omega
                subst this; exact h
  | m + 1, hm => by
    by_cases e : n = m + 1
    · subst e; exact h
    · rw [plN, plN_none h (m := m) (by omega)]
theorem plN_succ {f : Nat → Option Co} {n : Nat} {l : List Co} {c : Co} (h : plN f n = some l) (hc : f n = some c) : plN f (n + 1) = some (l ++ [c]) := by rw [plN, h, hc]
theorem plN_fail {f : Nat → Option Co} {n : Nat} (hc : f n = none) : plN f (n + 1) = none := by
  rw [plN, hc]; split
  · rename_i h1 h2; cases h2
  · rfl
def plainL (b : List Int) (W H d : Int) (dn : Bool) (g : Nat → Nat) (pl : List Co) : Option (List Co) := if rowN W d * H > b.length then none else plN (pxQ b W H d dn g pl) (W * H).toNat
theorem litN_drop {bs : List Int} {k : Nat} : ∀ (n i : Nat), litN (bs.drop k) i n = litN bs (k + i) n
  | 0, i => rfl
  | n + 1, i => by rw [litN, litN, getD_drop, litN_drop n (i + 1)]; rfl
theorem ix_bits {v sh d : Int} (hv : 0 ≤ v ∧ v ≤ 255) (s0 : 0 ≤ sh) (s1 : sh ≤ 7) (hd : d = 1 ∨ d = 4 ∨ d = 8) :
    IntKind.i64.wrap (bitsZ .and .i64 (shiftZ .shr .i64 (IntKind.i64.wrap v) sh) (IntKind.i64.wrap (shiftZ .shl .i64 1 d - 1))) = v / 2 ^ sh.toNat % 2 ^ d.toNat := by
  rw [w64 (x := v) (by omega) (by omega), shiftZ_shr hv.1 s0 (by simp [IntKind.bits]; omega)]
  obtain ⟨n, rfl⟩ := Int.eq_ofNat_of_zero_le hv.1
  have e : ((n : Int) / 2 ^ sh.toNat) = ((n / 2 ^ sh.toNat : Nat) : Int) := by simp
  rw [e]
  have hle : n / 2 ^ sh.toNat ≤ n := Nat.div_le_self _ _
  generalize n / 2 ^ sh.toNat = m at hle ⊢
  have key : ∀ k : Nat, k ≤ 8 → IntKind.i64.wrap (bitsZ .and .i64 (m : Int) ((2 ^ k - 1 : Nat) : Int)) = ((m % 2 ^ k : Nat) : Int) := fun k hk => by
    have p : 2 ^ k ≤ 2 ^ 8 := Nat.pow_le_pow_right (by omega) hk
    rw [bitsZ_and (by omega) (by simp [IntKind.bits]; omega) (by omega) (by simp [IntKind.bits]; omega), Int.toNat_natCast, Int.toNat_natCast, Nat.and_two_pow_sub_one_eq_mod]
    have := Nat.mod_le m (2 ^ k)
    exact w64 (by omega) (by omega)
  rcases hd with rfl | rfl | rfl
  · exact (key 1 (by omega)).trans (by simp)
  · exact (key 4 (by omega)).trans (by simp)
  · exact (key 8 (by omega)).trans (by simp)
theorem plain_spec {w0 : World} {fb : Nat} {p q : Option Addr} {len cap ql qc : Nat} {bs : List Int} {pl : List Co} {W H : Int} {dn : Bool} {d pk a : Int} {g : Nat → Nat} {R : Ending → World → Prop} (h : By w0 p len bs) (hT : Tab w0)
    (hC : Cs w0 fb (fl (.slice p len cap) W H dn d pk a (g 0 : Nat) (g 1 : Nat) (g 2 : Nat) (g 3 : Nat) (.slice q ql qc))) (hg : gfits W H = true) (hd : d = 1 ∨ d = 4 ∨ d = 8 ∨ d = 16 ∨ d = 24 ∨ d = 32) (a0 : 0 ≤ a) (a1 : a < 4294967296) (a2 : a ≤ len)
    (hp : d ≤ 8 → Sl w0.heap.size w0 q (cos pl) ∧ ql = pl.length) (hm : 8 < d → ∀ i, i < 4 → MskOk (g i))
    (h1 : plainL (bs.drop a.toNat) W H d dn g pl = none → ∀ x y s k c u, Ext w0 u → R (.returned (.tuple #[.agg #[i64 x, i64 y, .slice s k c], .bool false])) u)
    (h2 : ∀ l, plainL (bs.drop a.toNat) W H d dn g pl = some l → (l.length : Int) = W * H → ∀ s c u, Ext w0 u → Ow w0.heap.size u.heap.size u s (4 * l.length) c 1 (px (flat l)) → R (.returned (.tuple #[.agg #[i64 W, i64 H, .slice s (4 * l.length) c], .bool true])) u) :
    Calls P F.bmp_file_plain #[.pointer (some ⟨fb, 0, none⟩)] w0 R := by
  obtain ⟨g1, g2, g3, g4, g5⟩ := gfits_iff.1 hg
  have wh0 : 0 ≤ W * H := Int.mul_nonneg (by omega) (by omega)
  have hlim := h.lim
  have hln := h.ln
  obtain ⟨b1, b2, b3, b4, b5⟩ := row_bounds (W := W) (d := d) g1 g3 (by omega) (by omega)
  have rh : rowN W d * H ≤ 16384 * 4096 := Int.mul_le_mul b4 g4 (by omega) (by omega)
  have rh0 : 0 ≤ rowN W d * H := Int.mul_nonneg (by omega) (by omega)
  refine calls_bmp_file_plain _ _ _ ?_
  unfold vc_bmp_file_plain
  intro k1 hk1
  refine nn_i rfl fun w1 hL1 => ?_
  have hE1 : Ext w0 w1 := hL1.ext (by simpa using hk1)
  have ht1 := hL1.there k1 (by simp)
  have hs1 := hL1.size
  have hC1 := hC.ext hE1
  refine ⟨_, hC1.cell (i := 1) rfl, nn_i rfl ⟨_, hC1.cell (i := 2) rfl, fun k2 w2 hN2 => ?_⟩⟩
  have hk2 : k2 = w1.heap.size := hN2.1
  have hs2 := hN2.size
  have hc2 := hN2.cs
  have hE2 := hE1.trans hN2.ext
  have hL3 := set_locl (u := w2) (b := k2) (i := 0) (vs := [i64 W, i64 H, .slice none 0 0]) hc2.lt
  have hc3 := hc2.set (off := 0) (us := [i64 W, i64 H, .slice none 0 0]) (by simp)
  have hE3 := hE2.step hL3.chg (by simp; omega)
  refine ⟨⟨_, hc2.cell (i := 0) rfl⟩, hc2.frozen _, ⟨_, hc2.cell (i := 1) rfl⟩, hc2.frozen _, ⟨_, hc2.cell (i := 2) rfl⟩, hc2.frozen _, by simp; omega, ?_⟩
  have hsz3 : (setCells w2 ⟨k2, 0, none⟩ [i64 W, i64 H, .slice none 0 0] 0).heap.size = w2.heap.size := (setCells_same _ _ _ _).size
  have hM0 : Im w0 (setCells w2 ⟨k2, 0, none⟩ [i64 W, i64 H, .slice none 0 0] 0) [k2, k1] k2 W H [] := by
    refine ⟨⟨none, 0, hc3, hE3, ⟨fun _ => False, fun _ h => h.elim, fun _ _ => id, OwB.nil _ _ _⟩, ?_⟩, by simp⟩
    rw [hsz3]; simp; omega
  generalize setCells w2 ⟨k2, 0, none⟩ [i64 W, i64 H, .slice none 0 0] 0 = u3 at hM0 ⊢
  have hne : k1 ≠ k2 := by omega
  have kL : ∀ {u u' : World} {l : List Co}, Im w0 u [k2, k1] k2 W H l → Locl [k1] u u' → Im w0 u' [k2, k1] k2 W H l := fun hM hL => hM.keepL hL (by simpa using hne)
  have fin : ∀ {u : World} {l : List Co}, Im w0 u [k2, k1] k2 W H l → plainL (bs.drop a.toNat) W H d dn g pl = none → ∃ (n7 n8 : Int) (p2 : Option Addr) (k5 k6 : Nat), u.cell? ⟨k2, 0, none⟩ = some (i64 n7) ∧ u.cell? ⟨k2, 1, none⟩ = some (i64 n8) ∧ u.cell? ⟨k2, 2, none⟩ = some (.slice p2 k5 k6) ∧
      ∀ w4, Locl [k1] u w4 → R (.returned (.tuple #[.agg #[i64 n7, i64 n8, .slice p2 k5 k6], .bool false])) w4 := fun hM hn => by
    obtain ⟨s, c, hcs, hF⟩ := hM.cs
    exact ⟨_, _, _, _, _, hcs.cell (i := 0) rfl, hcs.cell (i := 1) rfl, hcs.cell (i := 2) rfl, fun w4 hL4 => h1 hn _ _ _ _ _ _ (kL hM hL4).ext⟩
  refine row_spec (hC.ext hM0.ext) g1 g3 (by omega) (by omega) g4 (Int.le_refl _) (by omega) a0 a1 ⟨_, _, rfl, (Ext.refl _).drew.keep _, ?_⟩
  have hM1 := hM0.dr.dr
  have hC4 := hC.ext hM1.ext
  refine nn_i rfl ⟨_, _, _, hC4.cell (i := 0) rfl, nn_i rfl ⟨_, hC4.cell (i := 6) rfl, nn_i rfl ⟨_, hC4.cell (i := 2) rfl, ?_⟩⟩⟩
  rw [w64 (x := (len : Int) - a) (by omega) (by omega), w64 (x := rowN W d * H) (by omega) (by omega)]
  refine brB_i (fun hb => fin hM1 (by unfold plainL; rw [if_pos]; simp at hb; rw [List.length_drop]; omega)) fun hb => ?_
  have hfit : rowN W d * H ≤ len - a := by simp at hb; omega
  have hpl : plainL (bs.drop a.toNat) W H d dn g pl = plN (pxQ (bs.drop a.toNat) W H d dn g pl) (W * H).toNat := by unfold plainL; rw [if_neg]; rw [List.length_drop]; omega
  refine nn_i rfl ⟨_, hC4.cell (i := 2) rfl, ?_⟩
  generalize hf : pxQ (bs.drop a.toNat) W H d dn g pl = f at hpl
  refine ⟨fun vs u => ∃ (y : Int) (l : List Co), vs = [i64 y, i64 0, i64 0, .slice none 0 0] ∧ 0 ≤ y ∧ y ≤ H ∧ plN f (y * W).toNat = some l ∧ Im w0 u [k2, k1] k2 W H l,
    fun vs _ => match vs with | .int _ n :: _ => (H - n).toNat | _ => 0, ⟨0, [], rfl, by omega, by omega, by simp [plN], hM1⟩, fun n10 n11 n12 p3 k7 k8 w5 hI => ?_⟩
  obtain ⟨y, l, hv, y0, y1, hl, hM5⟩ := hI
  simp only [List.cons.injEq, Value.int.injEq, Value.slice.injEq, true_and, and_true] at hv
  obtain ⟨rfl, rfl, rfl, rfl, rfl, rfl⟩ := hv
  refine brB_i (fun hb => ?_) fun hb => ?_
  · have hy : n10 < H := by simpa using hb
    obtain ⟨ya, yb⟩ := yAt_range (dn := dn) y0 hy
    have yw0 : 0 ≤ n10 * W := Int.mul_nonneg y0 (by omega)
    have yw1 : n10 * W + W ≤ W * H := by
      rw [show n10 * W + W = (n10 + 1) * W by rw [Int.add_mul n10 1]; omega, Int.mul_comm W H]
      exact Int.mul_le_mul_of_nonneg_right (by omega) (by omega)
    have yr0 : 0 ≤ yAt H dn n10 * rowN W d := Int.mul_nonneg ya (by omega)
    have yr1 : yAt H dn n10 * rowN W d + rowN W d ≤ rowN W d * H := by
      rw [show yAt H dn n10 * rowN W d + rowN W d = (yAt H dn n10 + 1) * rowN W d by rw [Int.add_mul (yAt H dn n10) 1]; omega, Int.mul_comm (rowN W d) H]
      exact Int.mul_le_mul_of_nonneg_right (by omega) (by omega)
    refine row_spec (hC.ext hM5.ext) g1 g3 (by omega) (by omega) g4 y0 hy a0 a1 ⟨_, _, rfl, (Ext.refl _).drew.keep _, ?_⟩
    have hM6 := hM5.dr
    refine nn_i rfl ⟨_, (hC.ext hM6.ext).cell (i := 1) rfl, ?_⟩
    refine ⟨fun vs u => ∃ (x : Int) (l : List Co), vs = [i64 x, i64 0, i64 0, .slice none 0 0] ∧ 0 ≤ x ∧ x ≤ W ∧ plN f (n10 * W + x).toNat = some l ∧ Im w0 u [k2, k1] k2 W H l,
      fun vs _ => match vs with | .int _ n :: _ => (W - n).toNat | _ => 0, ⟨0, l, rfl, by omega, by omega, by rw [Int.add_zero]; exact hl, hM6⟩, fun n16 n17 n18 p4 k9 k10 w7 hI => ?_⟩
    obtain ⟨x, l7, hv, x0, x1, hl7, hM7⟩ := hI
    simp only [List.cons.injEq, Value.int.injEq, Value.slice.injEq, true_and, and_true] at hv
    obtain ⟨rfl, rfl, rfl, rfl, rfl, rfl⟩ := hv
    have hlen7 := plN_len hl7
    refine brB_i (fun hb => ?_) fun hb => ?_
    · have hx : n16 < W := by simpa using hb
      have hC7 := hC.ext hM7.ext
      have hCd := hC.ext hM7.dr.ext
      have hq : (n10 * W + (n16 + 1)).toNat = (n10 * W + n16).toNat + 1 := by omega
      obtain ⟨pq1, pq2⟩ := place_q' g1 x0 hx y0
      refine ⟨fun vs u => ∃ l, vs = [i64 0, i64 0, .slice none 0 0] ∧ plN f (n10 * W + (n16 + 1)).toNat = some l ∧ Im w0 u [k2, k1] k2 W H l, nn_i rfl ⟨_, hC7.cell (i := 4) rfl, brB_i (fun h8 => ?_) fun h8 => ?_⟩, fun n34 n35 p10 k22 k23 w17 hI => ?_⟩
      · have h8 : d ≤ 8 := by simpa using h8
        obtain ⟨hsl, hql⟩ := hp h8
        have hd3 : d = 1 ∨ d = 4 ∨ d = 8 := by omega
        obtain ⟨q1, q2, q3, q4, q5, q6⟩ := ix_place hd3 g1 g3 x0 hx
        obtain ⟨e1, e2, e3⟩ := pow_shl hd3
        refine nn_i rfl ⟨_, hC7.cell (i := 4) rfl, nn_i rfl ⟨_, _, _, hCd.cell (i := 0) rfl, ?_⟩⟩
        rw [w64 (x := n16 * d) (by omega) (by omega), quoN q1 (by omega) (by omega), remN q1, w64 (x := a + yAt H dn n10 * rowN W d + n16 * d / 8) (by omega) (by omega)]
        refine (h.ext hM7.dr.ext).get (by omega) (by omega) fun a11 ha11 => ⟨_, ha11, nn_i rfl ⟨_, hCd.cell (i := 4) rfl, ?_⟩⟩
        rw [w64 (x := 8 - d) (by omega) (by omega), w64 (x := 8 - d - n16 * d % 8) (by omega) (by omega)]
        refine ⟨q5, nn_i rfl ⟨_, hCd.cell (i := 4) rfl, by omega, ?_⟩⟩
        rw [ix_bits (fit_getD h.fit _) q5 q6 hd3]
        have hix : bs.getD (a + yAt H dn n10 * rowN W d + n16 * d / 8).toNat 0 / 2 ^ (8 - d - n16 * d % 8).toNat % 2 ^ d.toNat = ixQ (bs.drop a.toNat) W H d dn (n10 * W + n16).toNat := by
          unfold ixQ ixAt
          rw [pq1, pq2, getD_drop, show a.toNat + (yAt H dn n10 * rowN W d + n16 * d / 8).toNat = (a + yAt H dn n10 * rowN W d + n16 * d / 8).toNat by omega]
        rw [hix]
        have hv0 : 0 ≤ ixQ (bs.drop a.toNat) W H d dn (n10 * W + n16).toNat := by unfold ixQ ixAt; exact Int.emod_nonneg _ (Int.ne_of_gt (Int.pow_pos (by omega)))
        have hfq : f (n10 * W + n16).toNat = if ixQ (bs.drop a.toNat) W H d dn (n10 * W + n16).toNat < pl.length then some (palC pl (ixQ (bs.drop a.toNat) W H d dn (n10 * W + n16).toNat)) else none := by rw [← hf]; unfold pxQ; rw [if_pos h8]
        generalize ixQ (bs.drop a.toNat) W H d dn (n10 * W + n16).toNat = v at hv0 hfq ⊢
        refine index_spec hM7.dr hC hsl hql hv0 (by omega) (fun hge => ⟨_, rfl, (Ext.refl _).keep _, brB_t rfl (fin hM7.dr ?_)⟩) fun hlt u' hI kp => ⟨_, rfl, kp _ (by simpa using hne), brB_f rfl ⟨_, rfl, ?_, hI⟩⟩
        · rw [hpl]
          rw [if_neg (by omega)] at hfq
          exact plN_none (plN_fail hfq) (by omega)
        · rw [if_pos hlt] at hfq
          rw [hq]; exact plN_succ hl7 hfq
      · have h8 : 8 < d := by simp at h8; omega
        have hd3 : d = 16 ∨ d = 24 ∨ d = 32 := by omega
        obtain ⟨r1, r2, r3, r4, r5, r6, r7⟩ := raw_place (dn := dn) (len := len - a) hd3 g1 g3 g4 hfit x0 hx ya yb
        have ex : n16 * d / 8 = n16 * (d / 8) := by rcases hd3 with rfl | rfl | rfl <;> omega
        have hMd := hM7.dr
        refine nn_i rfl ⟨_, _, _, hCd.cell (i := 0) rfl, nn_i rfl ⟨_, hCd.cell (i := 4) rfl, nn_i rfl ⟨_, hCd.cell (i := 4) rfl, ?_⟩⟩⟩
        have nd0 : 0 ≤ n16 * d := Int.mul_nonneg x0 (by omega)
        have nd1 : n16 * d ≤ 4096 * 32 := Int.mul_le_mul (by omega) (by omega) (by omega) (by omega)
        rw [w64 (x := n16 * d) (by omega) (by omega), quoN nd0 (by omega) (by omega), quo8 hd3, ex, w64 (x := a + yAt H dn n10 * rowN W d + n16 * (d / 8)) (by omega) (by omega)]
        have hB := h.ext hMd.ext
        refine Get_spec hB.sl hB.ln hB.lim hB.fit (fun hne => (hne ?_).elim) fun _ => ⟨_, _, rfl, (Ext.refl _).keep _, ?_⟩
        · unfold thereE; rw [if_neg (by omega), if_neg (by omega)]
        have hl := lit_u32 h.fit (a + yAt H dn n10 * rowN W d + n16 * (d / 8)).toNat (d / 8).toNat (by omega)
        have hraw : getV bs (a + yAt H dn n10 * rowN W d + n16 * (d / 8)).toNat (d / 8).toNat false = rawAt (bs.drop a.toNat) W d (yAt H dn n10) n16 := by
          show litN bs _ _ = _
          unfold rawAt
          rw [litN_drop, show a.toNat + (yAt H dn n10 * rowN W d + n16 * (d / 8)).toNat = (a + yAt H dn n10 * rowN W d + n16 * (d / 8)).toNat by omega]
        have hl' : 0 ≤ rawAt (bs.drop a.toNat) W d (yAt H dn n10) n16 ∧ rawAt (bs.drop a.toNat) W d (yAt H dn n10) n16 < 4294967296 := by rw [← hraw]; exact hl
        rw [hraw]
        have hfq : f (n10 * W + n16).toNat = some (mkPix g (rawAt (bs.drop a.toNat) W d (yAt H dn n10) n16).toNat) := by
          rw [← hf]; unfold pxQ mskQ; rw [if_neg (by omega), pq1, pq2]
        generalize rawAt (bs.drop a.toNat) W d (yAt H dn n10) n16 = z at hfq hl' ⊢
        obtain ⟨v, rfl⟩ := Int.eq_ofNat_of_zero_le hl'.1
        rw [Int.toNat_natCast] at hfq
        have hv32 : v < 2 ^ 32 := by omega
        obtain ⟨s, c, hcs, hFg⟩ := hMd.dr.cs
        refine ⟨_, _, _, hcs.cell (i := 2) rfl, ?_⟩
        have hmk := hm h8
        refine sample_spec (hC.ext hMd.dr.ext) (hT.ext hMd.dr.ext) hv32 (i := 0) (by omega) (hmk 0 (by omega)) fun v1 hv1 => ⟨_, rfl, hv1.keep _, hv1.keeps, ?_⟩
        have hN1 := hMd.dr.step hv1
        refine sample_spec (hC.ext hN1.ext) (hT.ext hN1.ext) hv32 (i := 1) (by omega) (hmk 1 (by omega)) fun v2 hv2 => ⟨_, rfl, hv2.keep _, hv2.keeps, ?_⟩
        have hN2 := hN1.step hv2
        refine sample_spec (hC.ext hN2.ext) (hT.ext hN2.ext) hv32 (i := 2) (by omega) (hmk 2 (by omega)) fun v3 hv3 => ⟨_, rfl, hv3.keep _, hv3.keeps, ?_⟩
        have hN3 := hN2.step hv3
        refine sample_spec (hC.ext hN3.ext) (hT.ext hN3.ext) hv32 (i := 3) (by omega) (hmk 3 (by omega)) fun v4 hv4 => ⟨_, rfl, hv4.keep _, hv4.keeps, fun k19 hk19 w15 hL15 => ?_⟩
        have hN4 := hN3.step hv4
        have hcs4 := (((hcs.ext hv1).ext hv2).ext hv3).ext hv4
        have hlt4 := hcs4.lt
        have hN5 := hN4.locl hL15 (by intro b hb; simp at hb; rcases hb with rfl | rfl; right; exact hk19; left; exact ⟨by simp, hne⟩)
        have hcs5 := hcs4.locl hL15 (by simp; omega)
        refine Im.app (c := mkPix g v) hN5 hcs5 (by simp [blocks]) (by omega) fun p' c' w16 e1 e2 hI kp => ⟨e1, e2, by simp; omega, l7 ++ [mkPix g v], rfl, by rw [hq]; exact plN_succ hl7 hfq, hI.mono (by simp) (by simp)⟩
      · obtain ⟨l17, hv, hl17, hM17⟩ := hI
        simp only [List.cons.injEq, Value.int.injEq, Value.slice.injEq, true_and, and_true] at hv
        obtain ⟨rfl, rfl, rfl, rfl, rfl⟩ := hv
        rw [w64 (x := n16 + 1) (by omega) (by omega)]
        exact ⟨⟨n16 + 1, l17, rfl, by omega, by omega, hl17, hM17⟩, by show (W - (n16 + 1)).toNat < (W - n16).toNat; omega⟩
    · have hx : n16 = W := by simp at hb; omega
      subst hx
      rw [show n10 * n16 + n16 = (n10 + 1) * n16 by rw [Int.add_mul n10 1]; omega] at hl7
      rw [w64 (x := n10 + 1) (by omega) (by omega)]
      exact ⟨⟨n10 + 1, l7, rfl, by omega, by omega, hl7, hM7⟩, by show (H - (n10 + 1)).toNat < (H - n10).toNat; omega⟩
  · have hy : n10 = H := by simp at hb; omega
    subst hy
    obtain ⟨s, c, hcs, hFg⟩ := hM5.cs
    refine ⟨_, _, _, _, _, hcs.cell (i := 0) rfl, hcs.cell (i := 1) rfl, hcs.cell (i := 2) rfl, fun w18 hL18 => ?_⟩
    obtain ⟨s', c', hcs', hFg'⟩ := (kL hM5 hL18).cs
    have := Cs.uniq (hcs.locl hL18 (by simpa using hne.symm)) hcs'
    simp only [List.cons.injEq, Value.slice.injEq, true_and, and_true] at this
    obtain ⟨rfl, rfl⟩ := this
    rw [Int.mul_comm n10 W] at hl
    exact h2 l (hpl.trans hl) (by rw [plN_len hl]; omega) _ _ w18 hFg'.ext hFg'.ow
end Go.Proofs.YtjdljddfiddnoaaDoor
