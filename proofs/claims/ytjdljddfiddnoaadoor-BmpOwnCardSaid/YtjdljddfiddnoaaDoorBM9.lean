/- Bmp: the program's head: numbers, packing, masks, palette, rows, samples. -/
import Derived.Test.YtjdljddfiddnoaaDoorBM8
import Derived.Test.YtjdljddfiddnoaaDoorVcsQopen
namespace Go.Proofs.YtjdljddfiddnoaaDoor
open Go Go.Vc Go.RowKit
set_option maxRecDepth 100000
set_option linter.unusedVariables false
set_option linter.unusedSimpArgs false

theorem num_s {w : World} {p : Option Addr} {len cap k1 k2 : Nat} {bs : List Int} {a n : Int} {m : Bool} {R : Ending → World → Prop} (h : By w p len bs) (h1 : Cs w k1 [.slice p len cap]) (h2 : Cs w k2 [.bool m])
    (hy : thereE len a n = 0 → ∀ u, Chg (· = k2) w u → Cs u k2 [.bool m] → R (.returned (i64 (litN bs a.toNat n.toNat))) u)
    (hn : thereE len a n ≠ 0 → ∀ u, Chg (· = k2) w u → Cs u k2 [.bool true] → R (.returned (i64 0)) u) :
    Calls P F.bmp_open_fn1 #[i64 a, i64 n, .pointer (some ⟨k1, 0, none⟩), .pointer (some ⟨k2, 0, none⟩)] w R := by
  refine calls_bmp_open_fn1 _ _ _ _ _ _ ?_
  unfold vc_bmp_open_fn1
  have hc : ∀ x, Cs (setCells w ⟨k2, 0, none⟩ [.bool x] 0) k2 [.bool x] := fun x => h2.set1 (off := 0) (v := .bool x) (by simp)
  refine ⟨_, _, _, h1.cell (i := 0) rfl, Get_spec h.sl h.ln h.lim h.fit (fun hne => ⟨_, _, rfl, _, h2.cell (i := 0) rfl, ⟨_, h2.cell (i := 0) rfl⟩, h2.frozen _, ?_⟩) fun he => ⟨_, _, rfl, _, h2.cell (i := 0) rfl, ⟨_, h2.cell (i := 0) rfl⟩, h2.frozen _, ?_⟩⟩
  · have hb : (m || thereE len a n != 0) = true := by simp [hne]
    rw [hb, w64 (by omega) (by omega)]
    exact hn hne _ (Chg.setCells w ⟨k2, 0, none⟩ _ 0 :) (hc _)
  · have hl := lit_u32 h.fit a.toNat n.toNat (by have := thereE_0 he; omega)
    have hb : (m || (0 : Int) != 0) = m := by simp
    have e : getV bs a.toNat n.toNat false = litN bs a.toNat n.toNat := rfl
    rw [hb, e, w64 (by omega) (by omega)]
    exact hy he _ (Chg.setCells w ⟨k2, 0, none⟩ _ 0 :) (hc _)
/-- a file in memory -/
def fl (sl : Value) (W H : Int) (dn : Bool) (d pk a : Int) (m0 m1 m2 m3 : Int) (pal : Value) : List Value := sl :: hdL W H dn d pk a m0 m1 m2 m3 pal
def pkE (d pk : Int) (dn : Bool) : Int :=
  if ¬ (d = 1 ∨ d = 4 ∨ d = 8 ∨ d = 16 ∨ d = 24 ∨ d = 32) then 9 else
  if pk = 4 ∨ pk = 5 then 10 else
  if pk = 0 ∨ (pk = 1 ∧ d = 8 ∧ dn = false) ∨ (pk = 2 ∧ d = 4 ∧ dn = false) ∨ ((pk = 3 ∨ pk = 6) ∧ (d = 16 ∨ d = 32)) then 0 else 9
section
variable {w : World} {fb : Nat} {sl pal : Value} {W H : Int} {dn : Bool} {d pk a m0 m1 m2 m3 : Int} {R : Ending → World → Prop}
theorem packing_spec (hC : Cs w fb (fl sl W H dn d pk a m0 m1 m2 m3 pal)) (hR : R (.returned (i64 (pkE d pk dn))) w) : Calls P F.bmp_file_packing #[.pointer (some ⟨fb, 0, none⟩)] w R := by
  refine calls_bmp_file_packing _ _ _ ?_
  unfold vc_bmp_file_packing
  have dc : (∃ v, w.cell? ⟨fb, 0, none⟩ = some v) := ⟨_, hC.cell (i := 0) rfl⟩
  have bad : ∀ {e : Int}, pkE d pk dn = e → R (.returned (i64 e)) w := fun he => he ▸ hR
  refine nn_i rfl ⟨d, hC.cell (i := 4) rfl, fun vs u => u = w ∧ (d = 1 ∨ d = 4 ∨ d = 8 ∨ d = 16 ∨ d = 24 ∨ d = 32), ?_, fun w1 hI => ?_⟩
  · have no : ¬ (d = 1 ∨ d = 4 ∨ d = 8 ∨ d = 16 ∨ d = 24 ∨ d = 32) → R (.returned (i64 9)) w := fun hx => bad (by unfold pkE; rw [if_pos hx])
    repeat' first | exact ⟨rfl, by simp only [beq_iff_eq] at *; omega⟩ | exact no (by simp only [beq_iff_eq, beq_eq_false_iff_ne, ne_eq] at *; omega) | refine brB_i (fun hb => ?_) (fun hb => ?_)
  obtain ⟨rfl, hd⟩ := hI
  have hq := pkE.eq_1 d pk dn
  rw [if_neg (by omega)] at hq
  refine nn_i rfl ⟨pk, hC.cell (i := 5) rfl, fun vs u => u = w1 ∧ ¬ (pk = 4 ∨ pk = 5) ∧ ∃ c : Bool, vs = [.bool c] ∧ (c = true ↔ pk = 0 ∨ (pk = 1 ∧ d = 8 ∧ dn = false) ∨ (pk = 2 ∧ d = 4 ∧ dn = false) ∨ ((pk = 3 ∨ pk = 6) ∧ (d = 16 ∨ d = 32))), ?_, fun c4 w3 hI => ?_⟩
  · refine ⟨fun vs u => u = w1 ∧ vs = [.bool (decide (pk = 4 ∨ pk = 5))], brB_i (fun hb => ⟨rfl, by simp only [beq_iff_eq] at hb; simp [hb]⟩) fun hb => ⟨rfl, by simp only [beq_eq_false_iff_ne, ne_eq] at hb; rw [Bool.beq_eq_decide_eq]; simp [hb]⟩, fun c1 w2 hI => ?_⟩
    obtain ⟨rfl, hv⟩ := hI
    obtain rfl : c1 = decide (pk = 4 ∨ pk = 5) := by simpa using hv
    refine brB_i (fun hb => bad ?_) fun hb => ?_
    · rw [hq, if_pos (by simpa using hb)]
    have hp : ¬ (pk = 4 ∨ pk = 5) := by simpa using hb
    refine brB_i (fun h0 => ⟨rfl, hp, _, rfl, by simp at h0; simp [h0]⟩) fun h0 => brB_i (fun h1 => nn_i rfl ⟨d, hC.cell (i := 4) rfl, brB_i (fun h8 => nn_i rfl ⟨_, hC.cell (i := 3) rfl, rfl, hp, _, rfl, ?_⟩) fun h8 => ⟨rfl, hp, _, rfl, ?_⟩⟩) fun h1 =>
      brB_i (fun h2 => nn_i rfl ⟨d, hC.cell (i := 4) rfl, brB_i (fun h4 => nn_i rfl ⟨_, hC.cell (i := 3) rfl, rfl, hp, _, rfl, ?_⟩) fun h4 => ⟨rfl, hp, _, rfl, ?_⟩⟩) fun h2 =>
      brB_i (fun h3 => brB_t h3 (nn_i rfl ⟨d, hC.cell (i := 4) rfl, brB_i (fun h16 => ⟨rfl, hp, _, rfl, ?_⟩) fun h16 => nn_i rfl ⟨_, hC.cell (i := 4) rfl, rfl, hp, _, rfl, ?_⟩⟩)) fun h3 =>
      brB_i (fun h6 => nn_i rfl ⟨d, hC.cell (i := 4) rfl, brB_i (fun h16 => ⟨rfl, hp, _, rfl, ?_⟩) fun h16 => nn_i rfl ⟨_, hC.cell (i := 4) rfl, rfl, hp, _, rfl, ?_⟩⟩) fun h6 => ⟨rfl, hp, _, rfl, ?_⟩
    all_goals simp only [beq_iff_eq, beq_eq_false_iff_ne, ne_eq] at *
    all_goals cases dn <;> simp <;> omega
  · obtain ⟨rfl, hp, c, hv, hc⟩ := hI
    obtain rfl : c4 = c := by simpa using hv
    rw [if_neg hp] at hq
    refine brB_i (fun hb => bad ?_) fun hb => bad ?_
    · rw [hq, if_neg]; intro hx; rw [hc.2 hx] at hb; cases hb
    · rw [hq, if_pos]; exact hc.1 (by simpa using hb)
theorem row_spec {y : Int} (hC : Cs w fb (fl sl W H dn d pk a m0 m1 m2 m3 pal)) (w1 : 1 ≤ W) (w2 : W ≤ 4096) (d0 : 1 ≤ d) (d1 : d ≤ 32) (h1 : H ≤ 4096) (y0 : 0 ≤ y) (y1 : y < H) (a0 : 0 ≤ a) (a1 : a < 4294967296)
    (hR : R (.returned (.tuple #[i64 (a + yAt H dn y * rowN W d), i64 (rowN W d)])) w.drew) : Calls P F.bmp_file_row #[.pointer (some ⟨fb, 0, none⟩), i64 y] w R := by
  refine calls_bmp_file_row _ _ _ _ ?_
  unfold vc_bmp_file_row
  obtain ⟨b1, b2, b3, b4, b5⟩ := row_bounds w1 w2 d0 d1
  obtain ⟨ya, yb⟩ := yAt_range (dn := dn) y0 y1
  have p0 : 0 ≤ yAt H dn y * rowN W d := Int.mul_nonneg ya (by omega)
  have p1 : yAt H dn y * rowN W d ≤ 4096 * 16384 := Int.mul_le_mul (by omega) b4 (by omega) (by omega)
  have hD := hC.drew
  refine nn_i rfl ⟨_, hD.cell (i := 1) rfl, nn_i rfl ⟨_, hD.cell (i := 4) rfl, nn_i rfl ⟨_, hD.cell (i := 3) rfl, ?_⟩⟩⟩
  rw [row_val w1 w2 d0 d1]
  refine brB_i (fun hb => nn_i rfl ⟨_, hD.cell (i := 2) rfl, nn_i rfl ⟨_, hD.cell (i := 6) rfl, ?_⟩⟩) fun hb => nn_i rfl ⟨_, hD.cell (i := 6) rfl, ?_⟩
  · have e : yAt H dn y = H - 1 - y := by simp at hb; unfold yAt; rw [hb]; rfl
    rw [e] at hR p0 p1
    rw [w64 (x := H - 1) (by omega) (by omega), w64 (x := H - 1 - y) (by omega) (by omega), w64 (x := (H - 1 - y) * rowN W d) (by omega) (by omega), w64 (by omega) (by omega)]
    exact hR
  · have e : yAt H dn y = y := by simp at hb; unfold yAt; rw [hb]; rfl
    rw [e] at hR p0 p1
    rw [w64 (x := y * rowN W d) (by omega) (by omega), w64 (by omega) (by omega)]
    exact hR
end
theorem fl_msk {sl pal : Value} {W H : Int} {dn : Bool} {d pk a : Int} {g : Nat → Nat} {i : Nat} (h : i < 4) : (fl sl W H dn d pk a (g 0 : Nat) (g 1 : Nat) (g 2 : Nat) (g 3 : Nat) pal)[7 + i]? = some (u32 (g i : Nat)) := by
  match i, h with
  | 0, _ => rfl
  | 1, _ => rfl
  | 2, _ => rfl
  | 3, _ => rfl
theorem sample_spec {w : World} {fb : Nat} {sl pal : Value} {W H : Int} {dn : Bool} {d pk a : Int} {g : Nat → Nat} {v i : Nat} {R : Ending → World → Prop} (hC : Cs w fb (fl sl W H dn d pk a (g 0 : Nat) (g 1 : Nat) (g 2 : Nat) (g 3 : Nat) pal)) (hT : Tab w) (hv : v < 2 ^ 32) (hi : i < 4) (hm : MskOk (g i))
    (hR : ∀ u, Ext w u → R (.returned (u16 (smp v (g i)))) u) : Calls P F.bmp_file_sample #[.pointer (some ⟨fb, 0, none⟩), u32 v, i64 i] w R := by
  refine calls_bmp_file_sample _ _ _ _ _ ?_
  unfold vc_bmp_file_sample
  refine nn_i rfl ⟨by omega, by omega, (g i : Nat), ?_, ?_⟩
  · rw [loc_add, loc_add, show 0 + 7 + (i : Int).toNat * 1 = 7 + i by omega]
    exact hC.cell (fl_msk hi)
  · generalize g i = m at hm hR ⊢
    refine brB_i (fun h0 => ?_) fun h0 => ?_
    · have h0 : m = 0 := by simp at h0; exact h0
      subst h0
      have := hR w (Ext.refl w)
      unfold smp at this; rw [con0] at this; exact this
    · have h0 : m ≠ 0 := by intro e; subst e; simp at h0
      obtain ⟨hm32, hm0 | ⟨ca, n, hc, h16⟩⟩ := hm
      · exact (h0 hm0).elim
      obtain ⟨c1, c2, c3⟩ := conF_some hc
      obtain ⟨g1, g2, g3⟩ := smp_arg hv hm32 hc h16
      obtain ⟨s1, s2, s3⟩ := smp_part (v := v) hc h16
      have hpn : popN m = n := by rw [c3]; exact popN_ones ⟨ca, by omega⟩ ⟨n, by omega⟩ c2
      have hfm : m = 2 ^ ca * (2 * (2 ^ (n - 1) - 1) + 1) := by rw [c3, ones, ones_odd c1]
      have hEd : Ext w w.drew := (Ext.refl w).drew
      have key : Calls P F.math_bits_TrailingZeros32 #[u32 (m : Nat)] w.drew fun e1 w1 => e1 = .returned (i64 ca) ∧ w1 = w.drew := by
        have := Trail_spec (t := ca) (k := 2 ^ (n - 1) - 1) (R := fun e1 w1 => e1 = .returned (i64 ca) ∧ w1 = w.drew) (hT.ext hEd) (by rw [← hfm]; exact hm32) ⟨rfl, rfl⟩
        rw [← hfm] at this; exact this
      refine key.mono fun e1 w1 he => ?_
      obtain ⟨rfl, rfl⟩ := he
      refine ⟨_, rfl, by omega, Ones_spec hm32 ⟨_, rfl, by omega, ?_⟩⟩
      rw [hpn, g1, g2]
      have hR := hR w.drew.drew hEd.drew
      unfold smp at hR; rw [hc] at hR
      replace hR : R (.returned (u16 (upV (((v &&& m) / 2 ^ ca : Nat) : Int) (2 ^ n - 1)))) w.drew.drew := hR
      rw [g3] at hR
      generalize (v &&& m) / 2 ^ ca = s at s1 hR ⊢
      exact Up_spec (by omega) (by omega) (by omega) (by omega) ⟨_, _, rfl, hR⟩
theorem pow1 {n : Nat} (h : n ≤ 32) : IntKind.u32.wrap (shiftZ .shl .u32 1 (n : Int) - 1) = ((2 ^ n - 1 : Nat) : Int) := by
  rw [shiftZ_shl (by omega) (by simp [IntKind.bits]; omega), wb32, wb32, Int.toNat_natCast]
  have p : 0 < 2 ^ n := Nat.two_pow_pos n
  have p2 : 2 ^ n ≤ 2 ^ 32 := Nat.pow_le_pow_right (by omega) h
  have e : (1 : Int) * 2 ^ n = ((2 ^ n : Nat) : Int) := by simp
  rw [e]
  generalize 2 ^ n = z at p p2 ⊢
  omega
theorem masked_spec {w : World} {fb : Nat} {sl pal : Value} {W H : Int} {dn : Bool} {d pk a : Int} {g : Nat → Nat} {R : Ending → World → Prop} (hC : Cs w fb (fl sl W H dn d pk a (g 0 : Nat) (g 1 : Nat) (g 2 : Nat) (g 3 : Nat) pal)) (hT : Tab w) (hg : ∀ i, g i < 2 ^ 32)
    (hR : ∀ u, Ext w u → R (.returned (.bool (chkM d g 4 0 0))) u) : Calls P F.bmp_file_masked #[.pointer (some ⟨fb, 0, none⟩)] w R := by
  refine calls_bmp_file_masked _ _ _ ?_
  unfold vc_bmp_file_masked
  refine nn_i rfl ⟨_, _, _, _, hC.cell (i := 7) rfl, hC.cell (i := 8) rfl, hC.cell (i := 9) rfl, hC.cell (i := 10) rfl, ?_⟩
  refine ⟨fun vs u => ∃ (all i : Nat), vs = [u32 all, i64 i] ∧ all < 2 ^ 32 ∧ i ≤ 4 ∧ chkM d g (4 - i) i all = chkM d g 4 0 0 ∧ Ext w u,
    fun vs _ => match vs with | _ :: .int _ n :: _ => (5 - n).toNat | _ => 0, ⟨0, 0, rfl, by omega, by omega, rfl, Ext.refl w⟩, fun n5 n6 w1 hI => ?_⟩
  obtain ⟨all, i, hv, hall, hi, hck, hE⟩ := hI
  simp only [List.cons.injEq, Value.int.injEq, true_and, and_true] at hv
  obtain ⟨rfl, rfl⟩ := hv
  refine brB_i (fun hb => ?_) fun hb => ?_
  · have hb : i < 4 := by simp at hb; omega
    rw [show 4 - i = (3 - i) + 1 by omega, chkM] at hck
    have hm := hg i
    have hor : all ||| g i < 2 ^ 32 := Nat.or_lt_two_pow hall hm
    have hget : [u32 (g 0 : Nat), u32 (g 1 : Nat), u32 (g 2 : Nat), u32 (g 3 : Nat)][((i : Nat) : Int).toNat]? = some (u32 (g i : Nat)) := by
      rw [Int.toNat_natCast]
      match i, hb with
      | 0, _ => rfl
      | 1, _ => rfl
      | 2, _ => rfl
      | 3, _ => rfl
    have hand : IntKind.u32.wrap (bitsZ .and .u32 (all : Int) (g i : Int)) = ((all &&& g i : Nat) : Int) := by
      rw [bitsZ_and (by omega) (by simp [IntKind.bits]; omega) (by omega) (by simp [IntKind.bits]; omega), Int.toNat_natCast, Int.toNat_natCast]
      exact wu32 (by omega) (by have : all &&& g i ≤ all := Nat.and_le_left; omega)
    have horw : IntKind.u32.wrap (bitsZ .or .u32 (all : Int) (g i : Int)) = ((all ||| g i : Nat) : Int) := by
      rw [bitsZ_or (by omega) (by simp [IntKind.bits]; omega) (by omega) (by simp [IntKind.bits]; omega), Int.toNat_natCast, Int.toNat_natCast]
      exact wu32 (by omega) (by omega)
    refine ⟨fun vs u => vs = [u32 ((all ||| g i : Nat) : Int)] ∧ okM d all i (g i) = true ∧ Ext w u, ?_, fun n11 w5 hI => ?_⟩
    · refine ⟨by omega, by omega, _, hget, Ones_spec hm ⟨_, rfl, (popN_range hm).1, ?_⟩⟩
      have hED : Ext w w1.drew.drew := hE.drew.drew
      -- the run of ones
      have tail : ∀ (t : Int) (w3 : World), Ext w w3 → (0 < g i → ∃ k : Nat, ∃ tt : Nat, t = tt ∧ g i = 2 ^ tt * (2 * k + 1)) → 0 ≤ t →
          ∃ I3 : List Value → World → Prop, (brB ((g i : Int) == 0) (I3 [.bool ((i : Int) == 3)] w3) (I3 [.bool (shiftZ .shr .u32 (g i : Int) t == IntKind.u32.wrap (shiftZ .shl .u32 1 (popN (g i)) - 1))] w3)) ∧
            ∀ (c1 : Bool) (w4 : World), I3 [.bool c1] w4 → brB (!c1 || decide (popN (g i) > 16) || IntKind.u32.wrap (bitsZ .and .u32 (all : Int) (g i : Int)) != 0) (R (.returned (.bool false)) w4)
              (nn (some ⟨fb, 0, none⟩) fun a2 => ∃ n10 : Int, w4.cell? (a2.add 4) = some (i64 n10) ∧ brB (n10 == 16) (brB (shiftZ .shr .u32 (g i : Int) 16 != 0) (R (.returned (.bool false)) w4) ([u32 (IntKind.u32.wrap (bitsZ .or .u32 (all : Int) (g i : Int)))] = [u32 ((all ||| g i : Nat) : Int)] ∧ okM d all i (g i) = true ∧ Ext w w4))
                ([u32 (IntKind.u32.wrap (bitsZ .or .u32 (all : Int) (g i : Int)))] = [u32 ((all ||| g i : Nat) : Int)] ∧ okM d all i (g i) = true ∧ Ext w w4)) := by
        intro t w3 hE3 hpos ht0
        refine ⟨fun vs u => ∃ c : Bool, vs = [.bool c] ∧ u = w3 ∧ c = (if g i = 0 then decide (3 ≤ i) else (conF (g i)).isSome), brB_i (fun h0 => ⟨_, rfl, rfl, ?_⟩) fun h0 => ⟨_, rfl, rfl, ?_⟩, fun c1 w4 hI => ?_⟩
        · have h0 : g i = 0 := by simp at h0; exact h0
          rw [if_pos h0, Bool.eq_iff_iff]; simp; omega
        · have h0 : g i ≠ 0 := by intro e; rw [e] at h0; simp at h0
          obtain ⟨k, tt, rfl, hf⟩ := hpos (by omega)
          have htt := low_lt (hf ▸ hm)
          have hpr := popN_range hm
          obtain ⟨n, hn⟩ := Int.eq_ofNat_of_zero_le hpr.1
          have hrun := con_run (hf ▸ hm)
          rw [← hf, hn, Int.toNat_natCast] at hrun
          rw [if_neg h0, shr_at (by omega) (by omega), Int.toNat_natCast, hn, pow1 (by omega)]
          have hdv : g i / 2 ^ tt = 2 * k + 1 := by rw [hf]; exact Nat.mul_div_cancel_left _ (Nat.two_pow_pos tt)
          rw [hdv, Bool.eq_iff_iff]
          simp only [beq_iff_eq, Int.natCast_inj]
          rw [hrun]
          constructor
          · rintro ⟨n', e⟩; rw [e]; rfl
          · intro hs
            obtain ⟨⟨aa, n'⟩, e⟩ := Option.isSome_iff_exists.1 hs
            obtain ⟨c1, c2, c3⟩ := conF_some e
            rw [hf] at c3
            unfold ones at c3
            rw [ones_odd c1] at c3
            obtain ⟨rfl, _⟩ := odd_unique _ _ _ _ c3
            exact ⟨n', e⟩
        · obtain ⟨c, hv, rfl, hc⟩ := hI
          obtain rfl : c1 = c := by simpa using hv
          -- the test that the document makes
          have hok : okM d all i (g i) = (!(!c1 || decide (popN (g i) > 16) || (IntKind.u32.wrap (bitsZ .and .u32 (all : Int) (g i : Int)) != 0)) && !(decide (d = 16) && decide (g i > 65535))) := by
            rw [hand]
            unfold okM
            have e1 : (if g i = 0 then decide (3 ≤ i) else match conF (g i) with | some (_, n) => decide (n ≤ 16) | none => false) = (c1 && !decide (popN (g i) > 16)) := by
              by_cases h0 : g i = 0
              · rw [if_pos h0, hc, if_pos h0, h0, show popN 0 = 0 by decide]; simp
              · rw [if_neg h0, hc, if_neg h0]
                cases hcf : conF (g i) with
                | none => rfl
                | some q =>
                  obtain ⟨aa, n'⟩ := q
                  obtain ⟨c1, c2, c3⟩ := conF_some hcf
                  have hpn : popN (g i) = n' := by rw [c3]; exact popN_ones ⟨aa, by omega⟩ ⟨n', by omega⟩ c2
                  rw [hpn, Bool.eq_iff_iff]; simp; omega
            refine (congrArg (fun z => z && decide (all &&& g i = 0) && !(decide (d = 16) && decide (g i > 65535))) e1).trans ?_
            have e2 : decide (all &&& g i = 0) = !(((all &&& g i : Nat) : Int) != 0) := by rw [Bool.eq_iff_iff]; simp
            rw [e2]
            cases c1 <;> cases decide (popN (g i) > 16) <;> cases (((all &&& g i : Nat) : Int) != 0) <;> rfl
          refine brB_i (fun hx => ?_) fun hx => ?_
          · rw [hx] at hok
            have hf : okM d all i (g i) = false := by rw [hok]; rfl
            have := hR _ hE3
            rw [← hck, hf] at this; exact this
          · rw [hx] at hok
            have hs16 : shiftZ .shr .u32 (g i : Int) 16 = ((g i / 2 ^ 16 : Nat) : Int) := by rw [shiftZ_shr (by omega) (by omega) (by decide)]; rfl
            refine nn_i rfl ⟨_, (hC.ext hE3).cell (i := 4) rfl, brB_i (fun hd => brB_i (fun hy => ?_) fun hy => ⟨by rw [horw], ?_, hE3⟩) fun hd => ⟨by rw [horw], ?_, hE3⟩⟩
            · have hd : d = 16 := by simpa using hd
              rw [hs16] at hy
              have hf : okM d all i (g i) = false := by rw [hok]; simp at hy ⊢; omega
              have := hR _ hE3
              rw [← hck, hf] at this; exact this
            · rw [hs16] at hy
              rw [hok]; simp at hy ⊢; omega
            · rw [hok]; simp at hd ⊢; omega
      by_cases h0 : g i = 0
      · refine Calls.mono (R := fun e1 w3 => e1 = .returned (i64 32) ∧ w3 = w1.drew.drew) ?_ fun e1 w3 he => ?_
        · refine calls_math_bits_TrailingZeros32 _ _ _ ?_
          unfold vc_math_bits_TrailingZeros32
          exact brB_t (by simp [h0]) ⟨rfl, rfl⟩
        · obtain ⟨rfl, rfl⟩ := he
          exact ⟨_, rfl, by omega, tail 32 _ hED (fun hp => by omega) (by omega)⟩
      · obtain ⟨tt, k, hf⟩ := odd_part (g i) (by omega)
        have key : Calls P F.math_bits_TrailingZeros32 #[u32 (g i : Nat)] w1.drew.drew fun e1 w3 => e1 = .returned (i64 tt) ∧ w3 = w1.drew.drew := by
          have := Trail_spec (t := tt) (k := k) (R := fun e1 w3 => e1 = .returned (i64 tt) ∧ w3 = w1.drew.drew) (hT.ext hED) (hf ▸ hm) ⟨rfl, rfl⟩
          rw [← hf] at this; exact this
        refine key.mono fun e1 w3 he => ?_
        obtain ⟨rfl, rfl⟩ := he
        exact ⟨_, rfl, by omega, tail tt _ hED (fun _ => ⟨k, tt, rfl, hf⟩) (by omega)⟩
    · obtain ⟨hv, hok, hE5⟩ := hI
      obtain rfl : n11 = ((all ||| g i : Nat) : Int) := by simpa using hv
      rw [hok, Bool.true_and] at hck
      rw [w64 (x := (i : Int) + 1) (by omega) (by omega)]
      exact ⟨⟨all ||| g i, i + 1, rfl, hor, by omega, by rw [show 4 - (i + 1) = 3 - i by omega]; exact hck, hE5⟩, by show (5 - ((i : Int) + 1)).toNat < (5 - (i : Int)).toNat; omega⟩
  · have hb : i = 4 := by simp at hb; omega
    subst hb
    have := hR w1 hE
    rw [← hck] at this; exact this
end Go.Proofs.YtjdljddfiddnoaaDoor
