/- Bmp: the document's palette, samples, pixels of runs, indices. -/
import Derived.Test.YtjdljddfiddnoaaDoorBM4
namespace Go.Proofs.YtjdljddfiddnoaaDoor
open Go Go.Vc Go.RowKit
set_option maxRecDepth 100000
set_option linter.unusedVariables false
set_option linter.unusedSimpArgs false

/-! ## The palette -/
def palN (bs : List Int) : Int := if fC bs = 0 then 2 ^ (fD bs).toNat else fC bs
def palAt (bs : List Int) (i : Nat) : Co := (257 * bs.getD ((14 + fS bs).toNat + 4 * i + 2) 0, 257 * bs.getD ((14 + fS bs).toNat + 4 * i + 1) 0, 257 * bs.getD ((14 + fS bs).toNat + 4 * i) 0, 65535)
def palL (bs : List Int) (n : Nat) : List Co := (List.range n).map (palAt bs)
def pal (bs : List Int) : List Co := palL bs (palN bs).toNat
theorem palL_length (bs : List Int) (n : Nat) : (palL bs n).length = n := by simp [palL]
theorem palL_succ (bs : List Int) (n : Nat) : palL bs (n + 1) = palL bs n ++ [palAt bs n] := by simp [palL, List.range_succ]
def palOk (bs : List Int) : Bool := decide (4 * palN bs ≤ bs.length - 14 - fS bs)
theorem pow_d {d : Int} (h : d = 1 ∨ d = 4 ∨ d = 8) : (2 : Int) ^ d.toNat = 2 ∨ (2 : Int) ^ d.toNat = 16 ∨ (2 : Int) ^ d.toNat = 256 := by
  rcases h with rfl | rfl | rfl <;> decide
theorem palN_range {bs : List Int} (hf : Bs bs) (ok : HdOk bs) (hd : fD bs ≤ 8) : 0 ≤ palN bs ∧ palN bs ≤ 256 := by
  have hd' : fD bs = 1 ∨ fD bs = 4 ∨ fD bs = 8 := by have := ok.d; omega
  have hp := pow_d hd'
  have hc := ok.c hd
  have : 0 ≤ fC bs := (lit_u32 hf 46 4 (by omega)).1
  unfold palN; split <;> omega
theorem byte257 {b : Int} (h : 0 ≤ b ∧ b ≤ 255) : IntKind.u16.wrap (257 * IntKind.u16.wrap b) = 257 * b := by
  rw [wu16 (x := b) h.1 (by omega), wu16 (by omega) (by omega)]
theorem palette_spec {w : World} {p : Option Addr} {len cap : Nat} {bs : List Int} {m0 m1 m2 m3 : Int} {R : Ending → World → Prop} (h : By w p len bs) (ok : HdOk bs) (hd : fD bs ≤ 8)
    (h1 : palOk bs = false → ∀ q k c w', Ext w w' → R (.returned (.tuple #[.agg #[i64 (fW bs), i64 (fH bs), .bool (fN bs), i64 (fD bs), i64 (fP bs), i64 (fA bs), u32 m0, u32 m1, u32 m2, u32 m3, .slice q k c], .bool false])) w')
    (h2 : palOk bs = true → ∀ q c w', Ext w w' → Ow w.heap.size w'.heap.size w' q (pal bs).length c 4 (cos (pal bs)) → R (.returned (.tuple #[.agg #[i64 (fW bs), i64 (fH bs), .bool (fN bs), i64 (fD bs), i64 (fP bs), i64 (fA bs), u32 m0, u32 m1, u32 m2, u32 m3, .slice q (pal bs).length c], .bool true])) w') :
    Calls P F.ref11_palette #[.slice p len cap, .agg #[i64 (fW bs), i64 (fH bs), .bool (fN bs), i64 (fD bs), i64 (fP bs), i64 (fA bs), u32 m0, u32 m1, u32 m2, u32 m3, .slice none 0 0], i64 (fS bs)] w R := by
  have hlen := h.ln
  have hlim := h.lim
  have hS := ok.s
  have hall := ok.all
  have hd' : fD bs = 1 ∨ fD bs = 4 ∨ fD bs = 8 := by have := ok.d; omega
  have hpr := palN_range h.fit ok hd
  obtain ⟨e1, e2, e3⟩ := pow_shl hd'
  refine calls_ref11_palette _ _ _ _ _ _ _ _ _ _ _ _ _ _ _ _ _ _ _ ?_
  unfold vc_ref11_palette
  intro k1 hk1 k2 hk2 w1 hL1
  have hb12 : ∀ b, b ∈ [k2, k1] → w.heap.size ≤ b := by simp; omega
  have F1 := Fg.nil' (Ext.refl w) hL1 hb12 4
  have hB1 := h.ext F1.ext
  refine num_spec (v := fC bs) hB1 (by omega) (by omega) (by omega) (by omega) rfl ⟨_, rfl, (Ext.refl _).keep _, ?_⟩
  refine ⟨fun vs u => vs = [i64 (palN bs)] ∧ u = w1, brB_i (fun hc => ⟨by rw [e2]; exact e3, ?_, rfl⟩) fun hc => ⟨?_, rfl⟩, fun n2 w3 hI => ?_⟩
  · have hc : fC bs = 0 := by simpa using hc
    rw [e2, e1]; unfold palN; rw [if_pos hc]
  · have hc : ¬ fC bs = 0 := by simpa using hc
    unfold palN; rw [if_neg hc]
  obtain ⟨hv, rfl⟩ := hI
  obtain rfl : n2 = palN bs := by simpa using hv
  rw [w64 (x := 4 * palN bs) (by omega) (by omega), w64 (x := (len : Int) - 14) (by omega) (by omega), w64 (x := (len : Int) - 14 - fS bs) (by omega) (by omega)]
  refine brB_i (fun hc w4 hL4 => h1 ?_ _ _ _ _ (F1.locl hL4 fun b hb => .inl hb).ext) fun hc => ?_
  · unfold palOk; simp at hc ⊢; omega
  have hc : 4 * palN bs ≤ len - 14 - fS bs := by simpa using hc
  have hok : palOk bs = true := by unfold palOk; simp; omega
  refine ⟨fun vs u => ∃ (n : Nat) (q : Option Addr) (c : Nat), vs = [i64 n, i64 (fW bs), i64 (fH bs), .bool (fN bs), i64 (fD bs), i64 (fP bs), i64 (fA bs), u32 m0, u32 m1, u32 m2, u32 m3, .slice q n c] ∧ (n : Int) ≤ palN bs ∧ Fg [k2, k1] w u 4 q n c (cos (palL bs n)),
    fun vs _ => match vs with | .int _ n :: _ => (palN bs - n).toNat | _ => 0, ⟨0, none, 0, rfl, by omega, F1⟩, ?_⟩
  intro n3 n4 n5 c1 n6 n7 n8 n9 n10 n11 n12 p1 k3 k4 w5 hI
  obtain ⟨n, q, c, hv, hn, hF⟩ := hI
  simp only [List.cons.injEq, Value.int.injEq, Value.bool.injEq, Value.slice.injEq, true_and, and_true] at hv
  obtain ⟨rfl, rfl, rfl, rfl, rfl, rfl, rfl, rfl, rfl, rfl, rfl, rfl, rfl, rfl⟩ := hv
  refine brB_i (fun hb => ?_) fun hb w9 hL9 => ?_
  · have hb : (k3 : Int) < palN bs := by simpa using hb
    have hB := h.ext hF.ext.drew
    rw [w64 (x := 4 * (k3 : Int)) (by omega) (by omega), w64 (x := 14 + fS bs) (by omega) (by omega), w64 (x := 14 + fS bs + 4 * (k3 : Int)) (by omega) (by omega), w64 (x := 14 + fS bs + 4 * (k3 : Int) + 2) (by omega) (by omega), w64 (x := 14 + fS bs + 4 * (k3 : Int) + 1) (by omega) (by omega), w64 (x := (k3 : Int) + 1) (by omega) (by omega)]
    refine hB.get (by omega) (by omega) fun a1 ha1 => ⟨_, ha1, hB.get (by omega) (by omega) fun a2 ha2 => ⟨_, ha2, hB.get (by omega) (by omega) fun a3 ha3 => ⟨_, ha3, fun k5 hk5 w6 hL6 => ?_⟩⟩⟩
    rw [byte257 (fit_getD h.fit _), byte257 (fit_getD h.fit _), byte257 (fit_getD h.fit _)]
    have hq : palAt bs k3 = (257 * bs.getD (14 + fS bs + 4 * (k3 : Int) + 2).toNat 0, 257 * bs.getD (14 + fS bs + 4 * (k3 : Int) + 1).toNat 0, 257 * bs.getD (14 + fS bs + 4 * (k3 : Int)).toNat 0, 65535) := by
      unfold palAt
      rw [show (14 + fS bs + 4 * (k3 : Int) + 2).toNat = (14 + fS bs).toNat + 4 * k3 + 2 by omega, show (14 + fS bs + 4 * (k3 : Int) + 1).toNat = (14 + fS bs).toNat + 4 * k3 + 1 by omega, show (14 + fS bs + 4 * (k3 : Int)).toNat = (14 + fS bs).toNat + 4 * k3 by omega]
    refine hF.dr.app hL6 (fun b hb => ?_) (fun b hb => by simpa [blocks] using hb) rfl rfl (by omega) (by omega) fun q' c' w7 hF7 w8 hL8 => ⟨⟨k3 + 1, q', c', rfl, by omega, ?_⟩, by show (palN bs - ((k3 : Int) + 1)).toNat < (palN bs - (k3 : Int)).toNat; omega⟩
    · simp only [List.mem_cons, List.not_mem_nil, or_false] at hb
      rcases hb with rfl | hb
      · exact .inr hk5
      · exact .inl (by simpa using hb)
    · have := (hF7.locl hL8 fun b hb => .inl hb).mono (bs := [k2, k1]) (fun b hb => by simp at hb ⊢; omega)
      rw [palL_succ, cos_append, cos_one, hq]; exact this
  · have hb : (k3 : Int) = palN bs := by simp at hb; omega
    have hF9 := hF.locl hL9 fun b hb => .inl hb
    have e : palL bs k3 = pal bs := by unfold pal; rw [← hb]; rfl
    rw [e] at hF9
    have el : (pal bs).length = k3 := by rw [← e, palL_length]
    obtain ⟨S, _, _, hO⟩ := hF9.own
    have := h2 hok p1 k4 w9 hF9.ext (by rw [el]; exact hF9.ow)
    rw [el] at this; exact this

/-! ## A sample by a mask -/
def smp (v m : Nat) : Int := match conF m with | some (a, n) => upV (((v &&& m) / 2 ^ a : Nat) : Int) (2 ^ n - 1) | none => 65535
/-- a mask that may be -/
def MskOk (m : Nat) : Prop := m < 2 ^ 32 ∧ (m = 0 ∨ ∃ a n, conF m = some (a, n) ∧ n ≤ 16)
theorem smp_part {v m a n : Nat} (hc : conF m = some (a, n)) (h16 : n ≤ 16) : (v &&& m) / 2 ^ a ≤ 2 ^ n - 1 ∧ 1 ≤ 2 ^ n - 1 ∧ 2 ^ n - 1 ≤ 65535 := by
  obtain ⟨c1, c2, c3⟩ := conF_some hc
  have p : 2 ^ n ≤ 2 ^ 16 := Nat.pow_le_pow_right (by omega) h16
  have p1 : 2 ^ 1 ≤ 2 ^ n := Nat.pow_le_pow_right (by omega) c1
  have e : m / 2 ^ a = 2 ^ n - 1 := by rw [c3]; unfold ones; exact Nat.mul_div_cancel_left _ (Nat.two_pow_pos a)
  have : (v &&& m) / 2 ^ a ≤ m / 2 ^ a := Nat.div_le_div_right Nat.and_le_right
  omega
theorem smp_range {v m : Nat} (h : MskOk m) : 0 ≤ smp v m ∧ smp v m ≤ 65535 := by
  unfold smp
  rcases h.2 with rfl | ⟨a, n, hc, h16⟩
  · rw [con0]; show (0 : Int) ≤ 65535 ∧ (65535 : Int) ≤ 65535; decide
  · rw [hc]
    obtain ⟨s1, s2, s3⟩ := smp_part (v := v) hc h16
    have e : ((2 : Int) ^ n - 1) = ((2 ^ n - 1 : Nat) : Int) := by
      have : 0 < 2 ^ n := Nat.two_pow_pos n
      rw [Int.natCast_sub (by omega)]; simp
    show 0 ≤ upV (((v &&& m) / 2 ^ a : Nat) : Int) (2 ^ n - 1) ∧ upV (((v &&& m) / 2 ^ a : Nat) : Int) (2 ^ n - 1) ≤ 65535
    rw [e]
    generalize (v &&& m) / 2 ^ a = s at s1 ⊢
    exact upV_range (v := (s : Int)) (most := ((2 ^ n - 1 : Nat) : Int)) (by omega) (by omega) (by omega)
theorem smp_arg {v m a n : Nat} (hv : v < 2 ^ 32) (hm : m < 2 ^ 32) (hc : conF m = some (a, n)) (h16 : n ≤ 16) :
    IntKind.i64.wrap (shiftZ .shr .u32 (IntKind.u32.wrap (bitsZ .and .u32 (v : Int) (m : Int))) (a : Int)) = (((v &&& m) / 2 ^ a : Nat) : Int) ∧
    IntKind.i64.wrap (shiftZ .shl .i64 1 (n : Int) - 1) = ((2 ^ n - 1 : Nat) : Int) ∧ ((2 : Int) ^ n - 1) = ((2 ^ n - 1 : Nat) : Int) := by
  obtain ⟨c1, c2, c3⟩ := conF_some hc
  obtain ⟨s1, s2, s3⟩ := smp_part (v := v) hc h16
  have hle : v &&& m ≤ v := Nat.and_le_left
  refine ⟨?_, ?_, ?_⟩
  · rw [bitsZ_and (by omega) (by simp [IntKind.bits]; omega) (by omega) (by simp [IntKind.bits]; omega), Int.toNat_natCast, Int.toNat_natCast, wu32 (by omega) (by omega), shiftZ_shr (by omega) (by omega) (by simp [IntKind.bits]; omega), Int.toNat_natCast]
    have e : ((v &&& m : Nat) : Int) / 2 ^ a = (((v &&& m) / 2 ^ a : Nat) : Int) := by simp
    rw [e]
    generalize (v &&& m) / 2 ^ a = s at s1 ⊢
    exact w64 (by omega) (by omega)
  · have e : (2 : Int) ^ n = ((2 ^ n : Nat) : Int) := by simp
    rw [shiftZ_shl (by omega) (by simp [IntKind.bits]; omega), Int.toNat_natCast, Int.one_mul, e, w64 (x := ((2 ^ n : Nat) : Int)) (by omega) (by omega), w64 (by omega) (by omega)]
    omega
  · have : 0 < 2 ^ n := Nat.two_pow_pos n
    rw [Int.natCast_sub (by omega)]; simp
theorem rsample_spec {v m : Nat} {w : World} {R : Ending → World → Prop} (hv : v < 2 ^ 32) (hm : MskOk m) (hR : R (.returned (u16 (smp v m))) w) : Calls P F.ref11_sample #[u32 v, u32 m] w R := by
  refine calls_ref11_sample _ _ _ _ ?_
  unfold vc_ref11_sample
  refine Span_spec hm.1 (fun h0 => ⟨_, _, _, rfl, brB_t rfl ?_⟩) (fun a n hc => ⟨_, _, _, rfl, brB_f ?_ ?_⟩) (fun a n hp hc _ => ?_)
  · subst h0; unfold smp at hR; rw [con0] at hR; exact hR
  · obtain ⟨c1, c2, c3⟩ := conF_some hc
    simp; omega
  · obtain ⟨c1, c2, c3⟩ := conF_some hc
    have h16 : n ≤ 16 := by
      rcases hm.2 with rfl | ⟨a', n', hc', h'⟩
      · rw [con0] at hc; cases hc
      · rw [hc] at hc'; cases hc'; exact h'
    obtain ⟨s1, s2, s3⟩ := smp_part (v := v) hc h16
    obtain ⟨g1, g2, g3⟩ := smp_arg hv hm.1 hc h16
    rw [wu64 (x := (a : Int)) (by omega) (by omega), wu64 (x := (n : Int)) (by omega) (by omega)]
    refine ⟨by omega, by omega, ?_⟩
    rw [g1, g2]
    unfold smp at hR; rw [hc] at hR
    replace hR : R (.returned (u16 (upV (((v &&& m) / 2 ^ a : Nat) : Int) (2 ^ n - 1)))) w := hR
    rw [g3] at hR
    generalize (v &&& m) / 2 ^ a = s at s1 hR ⊢
    exact rUp_spec (by omega) (by omega) (by omega) (by omega) ⟨_, _, rfl, hR⟩
  · exfalso
    rcases hm.2 with h0 | ⟨a', n', hc', h'⟩
    · omega
    · rw [hc] at hc'; cases hc'

/-! ## A pixel of runs -/
theorem rput_spec {w : World} {kb : Nat} {l : List Int} {X Y W H x : Int} {dn : Bool} {d pk a m0 m1 m2 m3 : Int} {q : Option Addr} {ql qc : Nat} {R : Ending → World → Prop}
    (hC : Cs w kb (l.map i64)) (hl : (l.length : Int) = W * H) (hg : gfits W H = true) (x0 : 0 ≤ X) (y0 : 0 ≤ Y)
    (h1 : ¬ (X < W ∧ Y < H) → ∀ w', Ext w w' → R (.returned (.tuple #[.agg #[i64 X, i64 Y, .slice (some ⟨kb, 0, none⟩) l.length l.length], .bool false])) w')
    (h2 : X < W → Y < H → ∀ w', Chg (· = kb) w w' → Cs w' kb ((l.set ((H - 1 - Y) * W + X).toNat x).map i64) → R (.returned (.tuple #[.agg #[i64 (X + 1), i64 Y, .slice (some ⟨kb, 0, none⟩) l.length l.length], .bool true])) w') :
    Calls P F.ref11_put #[.agg #[i64 X, i64 Y, .slice (some ⟨kb, 0, none⟩) l.length l.length], .agg #[i64 W, i64 H, .bool dn, i64 d, i64 pk, i64 a, u32 m0, u32 m1, u32 m2, u32 m3, .slice q ql qc], i64 x] w R := by
  obtain ⟨g1, g2, g3, g4, g5⟩ := gfits_iff.1 hg
  refine calls_ref11_put _ _ _ _ _ _ _ _ _ _ _ _ _ _ _ _ _ _ _ _ _ ?_
  unfold vc_ref11_put
  intro k1 hk1 k2 hk2 k3 hk3
  have hkb := hC.lt
  have hbs : ∀ b, b ∈ [k3, k2, k1] → w.heap.size ≤ b := by simp; omega
  refine brB_i (fun hb w1 hL1 => h1 (by simp at hb; omega) w1 (hL1.ext hbs)) fun hb => ?_
  have hb : X < W ∧ Y < H := by simp at hb; omega
  have r0 : 0 ≤ (H - 1 - Y) * W := Int.mul_nonneg (by omega) (by omega)
  have r1 : (H - 1 - Y) * W + W ≤ W * H := by
    rw [show (H - 1 - Y) * W + W = (H - 1 - Y + 1) * W by rw [Int.add_mul (H - 1 - Y) 1]; omega, Int.mul_comm W H]
    exact Int.mul_le_mul_of_nonneg_right (by omega) (by omega)
  rw [w64 (x := H - 1) (by omega) (by omega), w64 (x := H - 1 - Y) (by omega) (by omega), w64 (x := (H - 1 - Y) * W) (by omega) (by omega), w64 (x := (H - 1 - Y) * W + X) (by omega) (by omega)]
  refine idx_i (a := ⟨kb, 0, none⟩) (by omega) (by omega) rfl fun w2 hL2 => ?_
  have hnb : kb ∉ [k3, k2, k1] := fun hm => by have := hbs kb hm; omega
  have hC2 := hC.locl hL2 hnb
  rw [loc_add, Nat.zero_add, Nat.mul_one]
  have hlt : ((H - 1 - Y) * W + X).toNat < (l.map i64).length := by rw [List.length_map]; omega
  have hC3 : Cs (setCells w2 ⟨kb, ((H - 1 - Y) * W + X).toNat, none⟩ [i64 x] 0) kb ((l.set ((H - 1 - Y) * W + X).toNat x).map i64) := by
    rw [List.map_set]; exact hC2.set1 hlt
  refine ⟨⟨_, hC2.cell (List.getElem?_eq_getElem hlt)⟩, hC2.frozen _, hnb, fun w3 hL3 => ?_⟩
  rw [w64 (x := X + 1) (by omega) (by omega)]
  refine h2 hb.1 hb.2 w3 ?_ (hC3.locl hL3 hnb)
  have c1 : Chg (· = kb) w w2 := (hL2.ext hbs).chg
  have c2 : Chg (· = kb) w (setCells w2 ⟨kb, ((H - 1 - Y) * W + X).toNat, none⟩ [i64 x] 0) := c1.trans (Chg.setCells _ _ _ _) fun i hi _ => hi
  exact c2.trans hL3.chg fun i hi hlt => by have := hbs i hi; omega
def nib (d v : Int) (k : Nat) : Int := if d = 8 then v else if k % 2 = 0 then v / 16 else v % 16
theorem nib_range {d v : Int} {k : Nat} (h : 0 ≤ v ∧ v ≤ 255) : 0 ≤ nib d v k ∧ nib d v k ≤ 255 := by unfold nib; split <;> (try split) <;> omega
theorem nibble_spec {w : World} {W H : Int} {dn : Bool} {d pk a m0 m1 m2 m3 : Int} {q : Option Addr} {ql qc : Nat} {v : Int} {k : Nat} {R : Ending → World → Prop} (v0 : 0 ≤ v) (v1 : v ≤ 255) (hk : k < 2 ^ 60)
    (hR : ∀ w', Ext w w' → R (.returned (i64 (nib d v k))) w') :
    Calls P F.ref11_nibble #[.agg #[i64 W, i64 H, .bool dn, i64 d, i64 pk, i64 a, u32 m0, u32 m1, u32 m2, u32 m3, .slice q ql qc], i64 v, i64 k] w R := by
  refine calls_ref11_nibble _ _ _ _ _ _ _ _ _ _ _ _ _ _ _ _ _ ?_
  unfold vc_ref11_nibble
  intro k1 hk1
  have hbs : ∀ b, b ∈ [k1] → w.heap.size ≤ b := by simp; omega
  unfold nib at hR
  refine brB_i (fun hb w1 hL1 => ?_) fun hb => ?_
  · rw [if_pos (by simpa using hb)] at hR; exact hR w1 (hL1.ext hbs)
  rw [if_neg (by simpa using hb)] at hR
  rw [remN (by omega), quoN v0 (by omega) (by omega), remN v0]
  refine brB_i (fun hc w1 hL1 => ?_) fun hc w1 hL1 => ?_
  · rw [if_pos (by simp at hc; omega)] at hR; exact hR w1 (hL1.ext hbs)
  · rw [if_neg (by simp at hc; omega)] at hR; exact hR w1 (hL1.ext hbs)

/-! ## Rows and indices -/
def rowN (W d : Int) : Int := (W * d + 31) / 32 * 4
def yAt (H : Int) (dn : Bool) (y : Int) : Int := if dn then y else H - 1 - y
def ixAt (b : List Int) (W d y x : Int) : Int := b.getD (y * rowN W d + x * d / 8).toNat 0 / 2 ^ (8 - d - x * d % 8).toNat % 2 ^ d.toNat
/-- the index of pixel q -/
def ixQ (b : List Int) (W H d : Int) (dn : Bool) (q : Nat) : Int := ixAt b W d (yAt H dn ((q : Int) / W)) ((q : Int) % W)
def ixL (b : List Int) (W H d : Int) (dn : Bool) (n : Nat) : List Int := (List.range n).map (ixQ b W H d dn)
theorem ixL_succ (b : List Int) (W H d : Int) (dn : Bool) (n : Nat) : ixL b W H d dn (n + 1) = ixL b W H d dn n ++ [ixQ b W H d dn n] := by simp [ixL, List.range_succ]
theorem ixL_length (b : List Int) (W H d : Int) (dn : Bool) (n : Nat) : (ixL b W H d dn n).length = n := by simp [ixL]
theorem row_bounds {W d : Int} (w1 : 1 ≤ W) (w2 : W ≤ 4096) (d0 : 1 ≤ d) (d1 : d ≤ 32) : 0 ≤ W * d ∧ W * d ≤ 131072 ∧ 4 ≤ rowN W d ∧ rowN W d ≤ 16384 ∧ W * d ≤ rowN W d * 8 := by
  have p1 : W * d ≤ 4096 * 32 := Int.mul_le_mul w2 d1 (by omega) (by omega)
  have p0 : 1 * 1 ≤ W * d := Int.mul_le_mul w1 d0 (by omega) (by omega)
  unfold rowN; omega
theorem row_val {W d : Int} (w1 : 1 ≤ W) (w2 : W ≤ 4096) (d0 : 1 ≤ d) (d1 : d ≤ 32) : IntKind.i64.wrap (divZ .quo .i64 (IntKind.i64.wrap (IntKind.i64.wrap (W * d) + 31)) 32 * 4) = rowN W d := by
  obtain ⟨b1, b2, b3, b4, b5⟩ := row_bounds w1 w2 d0 d1
  rw [w64 (x := W * d) (by omega) (by omega), w64 (x := W * d + 31) (by omega) (by omega), quoN (by omega) (by omega) (by omega), w64 (by unfold rowN at b3; omega) (by unfold rowN at b4; omega)]
  rfl
theorem yAt_range {H y : Int} {dn : Bool} (h0 : 0 ≤ y) (h1 : y < H) : 0 ≤ yAt H dn y ∧ yAt H dn y < H := by unfold yAt; split <;> omega
/-- where a pixel's byte stands -/
theorem ix_place {W d x : Int} (hd : d = 1 ∨ d = 4 ∨ d = 8) (w1 : 1 ≤ W) (w2 : W ≤ 4096) (x0 : 0 ≤ x) (x1 : x < W) : 0 ≤ x * d ∧ x * d ≤ 32768 ∧ 0 ≤ x * d / 8 ∧ x * d / 8 < rowN W d ∧ 0 ≤ 8 - d - x * d % 8 ∧ 8 - d - x * d % 8 ≤ 7 := by
  unfold rowN
  rcases hd with rfl | rfl | rfl <;> omega
theorem place_q' {W i k : Int} (hW : 1 ≤ W) (h0 : 0 ≤ i) (h1 : i < W) (hk : 0 ≤ k) : (((k * W + i).toNat : Nat) : Int) % W = i ∧ (((k * W + i).toNat : Nat) : Int) / W = k := by
  have : 0 ≤ k * W := Int.mul_nonneg hk (by omega)
  rw [Int.toNat_of_nonneg (by omega)]
  exact place_q hW h0 h1
theorem ints_elem {N : Nat} {w : World} {p : Option Addr} {len : Nat} {l : List Int} {F : Addr → Prop} (h : Sl N w p (l.map i64)) (hl : l.length = len) {i : Int} (h0 : 0 ≤ i) (h1 : i < len)
    (hF : ∀ a, w.cell? a = some (i64 (l.getD i.toNat 0)) → F a) : idx p len i 1 F := by
  have hlt : i.toNat < l.length := by omega
  obtain ⟨a, e, _, hc⟩ := h i.toNat (i64 (l.getD i.toNat 0)) (by simp [List.getD, hlt])
  exact idx_i h0 h1 e (hF _ (by rw [Nat.mul_one]; exact hc))
theorem indices_spec {w : World} {p : Option Addr} {len cap : Nat} {b : List Int} {W H : Int} {dn : Bool} {d pk a m0 m1 m2 m3 : Int} {q : Option Addr} {ql qc : Nat} {R : Ending → World → Prop} (h : By w p len b) (hg : gfits W H = true) (hd : d = 1 ∨ d = 4 ∨ d = 8)
    (h1 : rowN W d * H > len → ∀ w', Ext w w' → R (.returned (.tuple #[.slice none 0 0, .bool false])) w')
    (h2 : rowN W d * H ≤ len → ∀ s c w', Ext w w' → Ow w.heap.size w'.heap.size w' s (W * H).toNat c 1 ((ixL b W H d dn (W * H).toNat).map i64) → R (.returned (.tuple #[.slice s (W * H).toNat c, .bool true])) w') :
    Calls P F.ref11_indices #[.slice p len cap, .agg #[i64 W, i64 H, .bool dn, i64 d, i64 pk, i64 a, u32 m0, u32 m1, u32 m2, u32 m3, .slice q ql qc]] w R := by
  obtain ⟨g1, g2, g3, g4, g5⟩ := gfits_iff.1 hg
  obtain ⟨b1, b2, b3, b4, b5⟩ := row_bounds (W := W) (d := d) g1 g3 (by omega) (by omega)
  have rh : rowN W d * H ≤ 16384 * 4096 := Int.mul_le_mul b4 g4 (by omega) (by omega)
  have rh0 : 0 ≤ rowN W d * H := Int.mul_nonneg (by omega) (by omega)
  have wh0 : 0 ≤ W * H := Int.mul_nonneg (by omega) (by omega)
  obtain ⟨e1, e2, e3⟩ := pow_shl hd
  have hp := pow_d hd
  refine calls_ref11_indices _ _ _ _ _ _ _ _ _ _ _ _ _ _ _ _ _ _ ?_
  unfold vc_ref11_indices
  rw [row_val g1 g3 (by omega) (by omega)]
  intro k1 hk1
  have hbs : ∀ b, b ∈ [k1] → w.heap.size ≤ b := by simp; omega
  rw [w64 (x := rowN W d * H) (by omega) (by omega)]
  refine brB_i (fun hb w1 hL1 => h1 (by simpa using hb) w1 (hL1.ext hbs)) fun hb => ?_
  have hfit : rowN W d * H ≤ len := by simpa using hb
  refine ⟨fun vs u => ∃ (y : Int) (s : Option Addr) (c : Nat), vs = [.slice s (y * W).toNat c, i64 y] ∧ 0 ≤ y ∧ y ≤ H ∧ Fg [k1] w u 1 s (y * W).toNat c ((ixL b W H d dn (y * W).toNat).map i64),
    fun vs _ => match vs with | _ :: .int _ n :: _ => (H - n).toNat | _ => 0, fun w2 hL2 => ⟨0, none, 0, by simp, by omega, by omega, ?_⟩, ?_⟩
  · have := Fg.nil' (Ext.refl w) hL2 hbs 1
    simpa [ixL] using this
  intro p1 k2 k3 n1 w3 hI
  obtain ⟨y, s, c, hv, y0, y1, hF⟩ := hI
  simp only [List.cons.injEq, Value.int.injEq, Value.slice.injEq, true_and, and_true] at hv
  obtain ⟨⟨rfl, rfl, rfl⟩, rfl⟩ := hv
  refine brB_i (fun hb => ?_) fun hb => ?_
  · have hy : n1 < H := by simpa using hb
    rw [w64 (x := H - 1) (by omega) (by omega), w64 (x := H - 1 - n1) (by omega) (by omega), w64 (x := n1 + 1) (by omega) (by omega)]
    refine ⟨fun vs u => vs = [i64 (yAt H dn n1)] ∧ u = w3, brB_i (fun hn => ⟨by simp at hn; unfold yAt; rw [hn]; rfl, rfl⟩) fun hn => ⟨by simp at hn; unfold yAt; rw [hn]; rfl, rfl⟩, fun n2 w4 hI => ?_⟩
    obtain ⟨hv, rfl⟩ := hI
    obtain rfl : n2 = yAt H dn n1 := by simpa using hv
    obtain ⟨ya, yb⟩ := yAt_range (dn := dn) y0 hy
    have yw0 : 0 ≤ n1 * W := Int.mul_nonneg y0 (by omega)
    have yw1 : n1 * W + W ≤ W * H := by
      rw [show n1 * W + W = (n1 + 1) * W by rw [Int.add_mul n1 1]; omega, Int.mul_comm W H]
      exact Int.mul_le_mul_of_nonneg_right (by omega) (by omega)
    have yr0 : 0 ≤ yAt H dn n1 * rowN W d := Int.mul_nonneg ya (by omega)
    have yr1 : yAt H dn n1 * rowN W d + rowN W d ≤ rowN W d * H := by
      rw [show yAt H dn n1 * rowN W d + rowN W d = (yAt H dn n1 + 1) * rowN W d by rw [Int.add_mul (yAt H dn n1) 1]; omega, Int.mul_comm (rowN W d) H]
      exact Int.mul_le_mul_of_nonneg_right (by omega) (by omega)
    refine ⟨fun vs u => ∃ (x : Int) (s : Option Addr) (c : Nat), vs = [.slice s (n1 * W + x).toNat c, i64 x] ∧ 0 ≤ x ∧ x ≤ W ∧ Fg [k1] w u 1 s (n1 * W + x).toNat c ((ixL b W H d dn (n1 * W + x).toNat).map i64),
      fun vs _ => match vs with | _ :: .int _ n :: _ => (W - n).toNat | _ => 0, ⟨0, p1, k3, by rw [Int.add_zero], by omega, by omega, by rw [Int.add_zero]; exact hF⟩, ?_⟩
    intro p2 k4 k5 n3 w5 hI
    obtain ⟨x, s, c, hv, x0, x1, hF⟩ := hI
    simp only [List.cons.injEq, Value.int.injEq, Value.slice.injEq, true_and, and_true] at hv
    obtain ⟨⟨rfl, rfl, rfl⟩, rfl⟩ := hv
    refine brB_i (fun hb => ?_) fun hb => ?_
    · have hx : n3 < W := by simpa using hb
      obtain ⟨q1, q2, q3, q4, q5, q6⟩ := ix_place hd g1 g3 x0 hx
      have hB := h.ext hF.ext.drew
      rw [w64 (x := n3 * d) (by omega) (by omega), quoN q1 (by omega) (by omega), remN q1, w64 (x := yAt H dn n1 * rowN W d) (by omega) (by omega), w64 (x := 8 - d) (by omega) (by omega), w64 (x := 8 - d - n3 * d % 8) (by omega) (by omega), wu64 (x := 8 - d - n3 * d % 8) (by omega) (by omega), e2, e1,
        w64 (x := yAt H dn n1 * rowN W d + n3 * d / 8) (by omega) (by omega), w64 (x := n3 + 1) (by omega) (by omega)]
      refine hB.get (by omega) (by omega) fun a1 ha1 => ⟨_, ha1, q5, e3, by omega, fun k6 hk6 w6 hL6 => ?_⟩
      have hby := fit_getD h.fit (yAt H dn n1 * rowN W d + n3 * d / 8).toNat
      have hval : divZ .rem .i64 (shiftZ .shr .i64 (IntKind.i64.wrap (b.getD (yAt H dn n1 * rowN W d + n3 * d / 8).toNat 0)) (8 - d - n3 * d % 8)) (2 ^ d.toNat) = ixAt b W d (yAt H dn n1) n3 := by
        rw [w64 (by omega) (by omega), shiftZ_shr hby.1 q5 (by simp [IntKind.bits]; omega), remN (Int.ediv_nonneg hby.1 (Int.le_of_lt (Int.pow_pos (by omega))))]
        rfl
      rw [hval]
      have hq : ixQ b W H d dn (n1 * W + n3).toNat = ixAt b W d (yAt H dn n1) n3 := by
        unfold ixQ
        obtain ⟨h1, h2⟩ := place_q' g1 x0 hx y0
        rw [h1, h2]
      refine hF.dr.app hL6 (fun b hb => ?_) (fun b hb => by simpa [blocks] using hb) rfl rfl (by omega) (by omega) fun q' c' w7 hF7 => ⟨⟨n3 + 1, q', c', ?_, by omega, by omega, ?_⟩, by show (W - (n3 + 1)).toNat < (W - n3).toNat; omega⟩
      · simp only [List.mem_cons, List.not_mem_nil, or_false] at hb
        rcases hb with rfl | rfl
        · exact .inr hk6
        · exact .inl (by simp)
      · rw [show (n1 * W + (n3 + 1)).toNat = (n1 * W + n3).toNat + 1 by omega]
      · have := hF7.mono (bs := [k1]) (fun b hb => by simp at hb ⊢; omega)
        rw [show (n1 * W + (n3 + 1)).toNat = (n1 * W + n3).toNat + 1 by omega, ixL_succ, List.map_append, List.map_singleton, hq]; exact this
    · have hx : n3 = W := by simp at hb; omega
      subst hx
      have e : n1 * n3 + n3 = (n1 + 1) * n3 := by rw [Int.add_mul n1 1]; omega
      rw [e] at hF ⊢
      exact ⟨⟨n1 + 1, p2, k5, rfl, by omega, by omega, hF⟩, by show (H - (n1 + 1)).toNat < (H - n1).toNat; omega⟩
  · have hy : n1 = H := by simp at hb; omega
    subst hy
    rw [Int.mul_comm n1 W] at hF ⊢
    exact h2 hfit _ _ _ hF.ext hF.ow
end Go.Proofs.YtjdljddfiddnoaaDoor
