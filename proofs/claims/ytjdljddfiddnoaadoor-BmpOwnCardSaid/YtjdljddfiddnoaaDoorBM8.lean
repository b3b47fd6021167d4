/- Bmp: the document's images of masks; its reader. -/
import Derived.Test.YtjdljddfiddnoaaDoorBM7
namespace Go.Proofs.YtjdljddfiddnoaaDoor
open Go Go.Vc Go.RowKit
set_option maxRecDepth 100000
set_option linter.unusedVariables false
set_option linter.unusedSimpArgs false

def mkPix (g : Nat → Nat) (v : Nat) : Co := (smp v (g 0), smp v (g 1), smp v (g 2), smp v (g 3))
/-- the number of pixel x in row y of a file -/
def rawAt (b : List Int) (W d y x : Int) : Int := litN b (y * rowN W d + x * (d / 8)).toNat (d / 8).toNat
def mskQ (b : List Int) (W H d : Int) (dn : Bool) (g : Nat → Nat) (q : Nat) : Co := mkPix g (rawAt b W d (yAt H dn ((q : Int) / W)) ((q : Int) % W)).toNat
def mskL (b : List Int) (W H d : Int) (dn : Bool) (g : Nat → Nat) (n : Nat) : List Co := (List.range n).map (mskQ b W H d dn g)
theorem mskL_succ (b : List Int) (W H d : Int) (dn : Bool) (g : Nat → Nat) (n : Nat) : mskL b W H d dn g (n + 1) = mskL b W H d dn g n ++ [mskQ b W H d dn g n] := by simp [mskL, List.range_succ]
theorem mskL_length (b : List Int) (W H d : Int) (dn : Bool) (g : Nat → Nat) (n : Nat) : (mskL b W H d dn g n).length = n := by simp [mskL]
def byMsk (W H d : Int) (dn : Bool) (b : List Int) (g : Nat → Nat) : Option (List Co) := if rowN W d * H > b.length then none else some (mskL b W H d dn g (W * H).toNat)
/-- where a pixel's number stands -/
theorem raw_place {W H d x y len : Int} {dn : Bool} (hd : d = 16 ∨ d = 24 ∨ d = 32) (g1 : 1 ≤ W) (g3 : W ≤ 4096) (g4 : H ≤ 4096) (hfit : rowN W d * H ≤ len) (x0 : 0 ≤ x) (x1 : x < W) (y0 : 0 ≤ y) (y1 : y < H) :
    2 ≤ d / 8 ∧ d / 8 ≤ 4 ∧ 0 ≤ x * (d / 8) ∧ x * (d / 8) ≤ 16384 ∧ 0 ≤ y * rowN W d ∧ y * rowN W d ≤ 67108864 ∧ y * rowN W d + x * (d / 8) + d / 8 ≤ len := by
  obtain ⟨b1, b2, b3, b4, b5⟩ := row_bounds (W := W) (d := d) g1 g3 (by omega) (by omega)
  have p0 : 0 ≤ y * rowN W d := Int.mul_nonneg y0 (by omega)
  have p1 : y * rowN W d + rowN W d ≤ rowN W d * H := by
    rw [show y * rowN W d + rowN W d = (y + 1) * rowN W d by rw [Int.add_mul y 1]; omega, Int.mul_comm (rowN W d) H]
    exact Int.mul_le_mul_of_nonneg_right (by omega) (by omega)
  have p2 : rowN W d * H ≤ 16384 * 4096 := Int.mul_le_mul b4 g4 (by omega) (by omega)
  rcases hd with rfl | rfl | rfl
  · show (2 : Int) ≤ 2 ∧ (2 : Int) ≤ 4 ∧ 0 ≤ x * 2 ∧ x * 2 ≤ 16384 ∧ _ ∧ _ ∧ _ + x * 2 + 2 ≤ _
    omega
  · show (2 : Int) ≤ 3 ∧ (3 : Int) ≤ 4 ∧ 0 ≤ x * 3 ∧ x * 3 ≤ 16384 ∧ _ ∧ _ ∧ _ + x * 3 + 3 ≤ _
    omega
  · show (2 : Int) ≤ 4 ∧ (4 : Int) ≤ 4 ∧ 0 ≤ x * 4 ∧ x * 4 ≤ 16384 ∧ _ ∧ _ ∧ _ + x * 4 + 4 ≤ _
    omega
theorem quo8 {d : Int} (hd : d = 16 ∨ d = 24 ∨ d = 32) : divZ .quo .i64 d 8 = d / 8 := quoN (by omega) (by omega) (by omega)
theorem byMask_spec {w : World} {p : Option Addr} {len cap : Nat} {b : List Int} {W H : Int} {dn : Bool} {d pk a : Int} {g : Nat → Nat} {q : Option Addr} {ql qc : Nat} {R : Ending → World → Prop} (h : By w p len b) (hg : gfits W H = true)
    (hd : d = 16 ∨ d = 24 ∨ d = 32) (hm : ∀ i, i < 4 → MskOk (g i))
    (h1 : byMsk W H d dn b g = none → ∀ x y s k c w', Ext w w' → R (.returned (.tuple #[.agg #[i64 x, i64 y, .slice s k c], .bool false])) w')
    (h2 : ∀ l, byMsk W H d dn b g = some l → (l.length : Int) = W * H → ∀ s c w', Ext w w' → Ow w.heap.size w'.heap.size w' s (4 * l.length) c 1 (px (flat l)) → R (.returned (.tuple #[.agg #[i64 W, i64 H, .slice s (4 * l.length) c], .bool true])) w') :
    Calls P F.ref11_byMask #[.slice p len cap, .agg #[i64 W, i64 H, .bool dn, i64 d, i64 pk, i64 a, u32 (g 0 : Nat), u32 (g 1 : Nat), u32 (g 2 : Nat), u32 (g 3 : Nat), .slice q ql qc]] w R := by
  obtain ⟨g1, g2, g3, g4, g5⟩ := gfits_iff.1 hg
  have wh0 : 0 ≤ W * H := Int.mul_nonneg (by omega) (by omega)
  have hlim := h.lim
  have hln := h.ln
  obtain ⟨b1, b2, b3, b4, b5⟩ := row_bounds (W := W) (d := d) g1 g3 (by omega) (by omega)
  have rh : rowN W d * H ≤ 16384 * 4096 := Int.mul_le_mul b4 g4 (by omega) (by omega)
  have rh0 : 0 ≤ rowN W d * H := Int.mul_nonneg (by omega) (by omega)
  refine calls_ref11_byMask _ _ _ _ _ _ _ _ _ _ _ _ _ _ _ _ _ _ ?_
  unfold vc_ref11_byMask
  intro k1 w1 hN1 k2 hk2 w2 hL2
  have hE1 := hN1.ext
  have hk1 : k1 = w.heap.size := hN1.1
  have hs1 := hN1.size
  have ht2 := hL2.there k2 (by simp)
  have hs2 := hL2.size
  have hE2 : Ext w w2 := hE1.step hL2.chg (by simp; omega)
  have hC2 := (hN1.cs).locl hL2 (by simp; omega)
  refine ⟨_, hC2.cell (i := 0) rfl, _, hC2.cell (i := 3) rfl, _, hC2.cell (i := 3) rfl, _, hC2.cell (i := 0) rfl, _, hC2.cell (i := 1) rfl, fun k3 hk3 w3 hL3 => ?_⟩
  have hC3 := hC2.locl hL3 (by simp; omega)
  have hs3 := hL3.size
  have hE3 : Ext w w3 := hE2.step hL3.chg (by simp; omega)
  have ht3 := hL3.there k3 (by simp)
  have ht32 := hL3.there k2 (by simp)
  rw [row_val g1 g3 (by omega) (by omega), quo8 hd]
  refine ⟨_, hC3.cell (i := 1) rfl, ?_⟩
  rw [w64 (x := rowN W d * H) (by omega) (by omega)]
  have hne : k1 ∉ [k3, k2] := by simp; omega
  have lx : ∀ {u u' : World}, Ext w u → Locl [k3, k2] u u' → Ext w u' := fun hE hL => hE.step hL.chg (by simp; omega)
  refine brB_i (fun hb w4 hL4 => h1 (by unfold byMsk; rw [if_pos]; simp at hb; omega) _ _ _ _ _ _ (lx hE3 hL4)) fun hb => ?_
  have hfit : rowN W d * H ≤ len := by simpa using hb
  have hby : byMsk W H d dn b g = some (mskL b W H d dn g (W * H).toNat) := by unfold byMsk; rw [if_neg (by omega)]
  let Hd : List Value := [i64 W, i64 H, .bool dn, i64 d, i64 pk, i64 a, u32 (g 0 : Nat), u32 (g 1 : Nat), u32 (g 2 : Nat), u32 (g 3 : Nat), .slice q ql qc]
  have hF3 : Fg [k1, k3, k2] w w3 1 none 0 0 [] := ⟨hE3, ⟨fun _ => False, fun _ h => h.elim, fun _ _ => id, OwB.nil _ _ _⟩, by simp; omega⟩
  refine ⟨fun vs u => ∃ (y : Int) (s : Option Addr) (c : Nat), vs = [i64 y, i64 W, i64 H, .slice s (4 * (y * W).toNat) c] ∧ 0 ≤ y ∧ y ≤ H ∧ Cs u k1 Hd ∧ Fg [k1, k3, k2] w u 1 s (4 * (y * W).toNat) c (px (flat (mskL b W H d dn g (y * W).toNat))),
    fun vs _ => match vs with | .int _ n :: _ => (H - n).toNat | _ => 0, ⟨0, none, 0, by simp, by omega, by omega, hC3, by simpa [mskL, flat, px] using hF3⟩, ?_⟩
  intro n7 n8 n9 p1 k4 k5 w5 hI
  obtain ⟨y, s, c, hv, y0, y1, hC5, hF⟩ := hI
  simp only [List.cons.injEq, Value.int.injEq, Value.slice.injEq, true_and, and_true] at hv
  obtain ⟨rfl, rfl, rfl, rfl, rfl, rfl⟩ := hv
  refine ⟨_, hC5.cell (i := 1) rfl, brB_i (fun hb => ?_) fun hb w15 hL15 => ?_⟩
  · have hy : n7 < n9 := by simpa using hb
    refine ⟨fun vs u => vs = [i64 (yAt n9 dn n7)] ∧ u = w5, ⟨_, hC5.cell (i := 2) rfl, brB_i (fun hn => ⟨_, hC5.cell (i := 1) rfl, ?_, rfl⟩) fun hn => ⟨?_, rfl⟩⟩, fun n12 w6 hI => ?_⟩
    · rw [w64 (x := n9 - 1) (by omega) (by omega), w64 (x := n9 - 1 - n7) (by omega) (by omega)]
      simp at hn; unfold yAt; rw [hn]; rfl
    · simp at hn; unfold yAt; rw [hn]; rfl
    obtain ⟨hv, rfl⟩ := hI
    obtain rfl : n12 = yAt n9 dn n7 := by simpa using hv
    obtain ⟨ya, yb⟩ := yAt_range (dn := dn) y0 hy
    have yw0 : 0 ≤ n7 * n8 := Int.mul_nonneg y0 (by omega)
    have yw1 : n7 * n8 + n8 ≤ n8 * n9 := by
      rw [show n7 * n8 + n8 = (n7 + 1) * n8 by rw [Int.add_mul n7 1]; omega, Int.mul_comm n8 n9]
      exact Int.mul_le_mul_of_nonneg_right (by omega) (by omega)
    refine ⟨fun vs u => ∃ (x : Int) (s : Option Addr) (c : Nat), vs = [i64 x, i64 n8, i64 n9, .slice s (4 * (n7 * n8 + x).toNat) c] ∧ 0 ≤ x ∧ x ≤ n8 ∧ Cs u k1 Hd ∧ Fg [k1, k3, k2] w u 1 s (4 * (n7 * n8 + x).toNat) c (px (flat (mskL b n8 n9 d dn g (n7 * n8 + x).toNat))),
      fun vs _ => match vs with | .int _ n :: _ => (n8 - n).toNat | _ => 0, ⟨0, p1, k5, by rw [Int.add_zero], by omega, by omega, hC5, by rw [Int.add_zero]; exact hF⟩, ?_⟩
    intro n13 n14 n15 p2 k6 k7 w7 hI
    obtain ⟨x, s, c, hv, x0, x1, hC7, hF⟩ := hI
    simp only [List.cons.injEq, Value.int.injEq, Value.slice.injEq, true_and, and_true] at hv
    obtain ⟨rfl, rfl, rfl, rfl, rfl, rfl⟩ := hv
    refine ⟨_, hC7.cell (i := 0) rfl, brB_i (fun hb => ?_) fun hb => ?_⟩
    · have hx : n13 < n14 := by simpa using hb
      obtain ⟨r1, r2, r3, r4, r5, r6, r7⟩ := raw_place (dn := dn) hd g1 g3 g4 hfit x0 hx ya yb
      rw [w64 (x := yAt n15 dn n7 * rowN n14 d) (by omega) (by omega), w64 (x := n13 * (d / 8)) (by omega) (by omega), w64 (x := yAt n15 dn n7 * rowN n14 d + n13 * (d / 8)) (by omega) (by omega), w64 (x := n13 + 1) (by omega) (by omega)]
      have hB := h.ext hF.ext
      refine refGet_spec hB.sl hB.ln hB.lim hB.fit (fun hne => (hne ?_).elim) fun _ => ⟨_, _, rfl, (Ext.refl _).keep _, ?_⟩
      · unfold thereE; rw [if_neg (by omega), if_neg (by omega)]
      have hl := lit_u32 h.fit (yAt n15 dn n7 * rowN n14 d + n13 * (d / 8)).toNat (d / 8).toNat (by omega)
      have hraw : getV b (yAt n15 dn n7 * rowN n14 d + n13 * (d / 8)).toNat (d / 8).toNat false = rawAt b n14 d (yAt n15 dn n7) n13 := rfl
      rw [hraw]
      have hq : mskQ b n14 n15 d dn g (n7 * n14 + n13).toNat = mkPix g (rawAt b n14 d (yAt n15 dn n7) n13).toNat := by
        unfold mskQ
        obtain ⟨h1, h2⟩ := place_q' g1 x0 hx y0
        rw [h1, h2]
      have hl' : 0 ≤ rawAt b n14 d (yAt n15 dn n7) n13 ∧ rawAt b n14 d (yAt n15 dn n7) n13 < 4294967296 := hl
      generalize rawAt b n14 d (yAt n15 dn n7) n13 = z at hq hl' ⊢
      obtain ⟨v, rfl⟩ := Int.eq_ofNat_of_zero_le hl'.1
      rw [Int.toNat_natCast] at hq
      have hv32 : v < 2 ^ 32 := by omega
      have kp : ∀ {u : World}, Keep [k3, k2] u u := fun {u} => (Ext.refl u).keep _
      refine ⟨by omega, by omega, _, hC7.drew.cell (i := 6) rfl, by omega, by omega, _, hC7.drew.cell (i := 7) rfl, by omega, by omega, _, hC7.drew.cell (i := 8) rfl, by omega, by omega, _, hC7.drew.cell (i := 9) rfl, ?_⟩
      refine rsample_spec hv32 (hm 0 (by omega)) ⟨_, rfl, kp, (Ext.refl _).keeps, rsample_spec hv32 (hm 1 (by omega)) ⟨_, rfl, kp, (Ext.refl _).keeps, rsample_spec hv32 (hm 2 (by omega)) ⟨_, rfl, kp, (Ext.refl _).keeps, rsample_spec hv32 (hm 3 (by omega)) ⟨_, rfl, kp, (Ext.refl _).keeps, ?_⟩⟩⟩⟩
      refine Add_spec (c := mkPix g v) hF.dr (by omega) fun p' c' w' hF' kp' => ⟨_, _, _, _, _, rfl, fun x hx => kp' x (List.mem_cons_of_mem _ hx), fun w9 hL9 => ⟨⟨n13 + 1, p', c', ?_, by omega, by omega, ?_, ?_⟩, ?_⟩⟩
      · rw [show (n7 * n14 + (n13 + 1)).toNat = (n7 * n14 + n13).toNat + 1 by omega]; rfl
      · exact (hC7.drew.keep kp' (by simp)).locl hL9 hne
      · rw [show (n7 * n14 + (n13 + 1)).toNat = (n7 * n14 + n13).toNat + 1 by omega, mskL_succ, hq]
        exact ((addpx hF').push hL9 (by simp)).mono (by simp)
      · show (n14 - (n13 + 1)).toNat < (n14 - n13).toNat; omega
    · have hx : n13 = n14 := by simp at hb; omega
      subst hx
      have e : n7 * n13 + n13 = (n7 + 1) * n13 := by rw [Int.add_mul n7 1]; omega
      rw [e] at hF ⊢
      rw [w64 (x := n7 + 1) (by omega) (by omega)]
      exact ⟨⟨n7 + 1, p2, k7, rfl, by omega, by omega, hC7, hF⟩, by show (n15 - (n7 + 1)).toNat < (n15 - n7).toNat; omega⟩
  · have hy : n7 = n9 := by simp at hb; omega
    subst hy
    have hF15 := hF.push hL15 (by simp)
    have := h2 _ hby (by rw [mskL_length]; omega) p1 k5 w15 hF15.ext
    rw [mskL_length, Int.mul_comm n8 n7] at this
    exact this hF15.ow
/-! ## The masks may be -/
theorem conF_at {m a n : Nat} (h : conF m = some (a, n)) (h16 : n ≤ 16) (hm : m < 2 ^ 32) : MskOk m := ⟨hm, .inr ⟨a, n, h, h16⟩⟩
theorem okM_mask {d : Int} {all i m : Nat} (h : okM d all i m = true) (hm : m < 2 ^ 32) : MskOk m := by
  unfold okM at h
  simp only [Bool.and_eq_true] at h
  obtain ⟨⟨h, _⟩, _⟩ := h
  by_cases h0 : m = 0
  · exact ⟨hm, .inl h0⟩
  · rw [if_neg h0] at h
    split at h
    · rename_i a n hc; exact conF_at hc (by simpa using h) hm
    · cases h
theorem chkM_all {d : Int} {g : Nat → Nat} (hg : ∀ i, g i < 2 ^ 32) : ∀ {n i all : Nat}, chkM d g n i all = true → ∀ k, k < n → MskOk (g (i + k))
  | 0, _, _, _, k, hk => by omega
  | n + 1, i, all, h, k, hk => by
    rw [chkM, Bool.and_eq_true] at h
    cases k with
    | zero => exact okM_mask h.1 (hg _)
    | succ k => have := chkM_all hg h.2 k (by omega); rwa [show i + 1 + k = i + (k + 1) by omega] at this
theorem masks_ok {bs : List Int} (hf : Bs bs) (ok : HdOk bs) (hm : mkOk bs = true) (hd : 8 < fD bs) : ∀ i, i < 4 → MskOk (gM bs i) := by
  intro i hi
  unfold mkOk at hm
  split at hm
  · rename_i hp
    have e : gM bs i = (if fD bs = 16 then [31744, 992, 31, 0] else [16711680, 65280, 255, 0]).getD i 0 := by
      have hdd := ok.d
      unfold gM mkI
      rw [if_pos hp]
      by_cases h16 : fD bs = 16
      · rw [if_pos h16, if_pos h16]
        match i, hi with
        | 0, _ => rfl
        | 1, _ => rfl
        | 2, _ => rfl
        | 3, _ => rfl
      · rw [if_neg h16, if_neg h16, if_pos (by omega)]
        match i, hi with
        | 0, _ => rfl
        | 1, _ => rfl
        | 2, _ => rfl
        | 3, _ => rfl
    rw [e]
    have c1 : conF 31744 = some (10, 5) := by decide +kernel
    have c2 : conF 992 = some (5, 5) := by decide +kernel
    have c3 : conF 31 = some (0, 5) := by decide +kernel
    have c4 : conF 16711680 = some (16, 8) := by decide +kernel
    have c5 : conF 65280 = some (8, 8) := by decide +kernel
    have c6 : conF 255 = some (0, 8) := by decide +kernel
    split
    · match i, hi with
      | 0, _ => exact conF_at c1 (by decide) (by decide)
      | 1, _ => exact conF_at c2 (by decide) (by decide)
      | 2, _ => exact conF_at c3 (by decide) (by decide)
      | 3, _ => exact ⟨by decide, .inl rfl⟩
    · match i, hi with
      | 0, _ => exact conF_at c4 (by decide) (by decide)
      | 1, _ => exact conF_at c5 (by decide) (by decide)
      | 2, _ => exact conF_at c6 (by decide) (by decide)
      | 3, _ => exact ⟨by decide, .inl rfl⟩
  · simp only [Bool.and_eq_true] at hm
    have := chkM_all (fun i => (gM_lt hf i).1) hm.2 i hi
    rwa [Nat.zero_add] at this
/-! ## The document's reader -/
def great (W H most : Int) : Bool := decide (W > 4096 ∨ H > 4096 ∨ W * H > most ∨ W * H > 65536)
/-- the pixels, if they may be -/
def bodyL (bs : List Int) : Option (List Co) :=
  if fD bs ≤ 8 then byIx (fW bs) (fH bs) (fD bs) (fN bs) (fP bs) (bs.drop (fA bs).toNat) (pal bs) else byMsk (fW bs) (fH bs) (fD bs) (fN bs) (bs.drop (fA bs).toNat) (gM bs)
/-- what reading answers: width, height, samples, fault -/
def decR (bs : List Int) (most : Int) : Int × Int × List Int × Int :=
  if bs.length > 4194304 then (0, 0, [], 11) else
  if hE bs ≠ 0 then (0, 0, [], hE bs) else
  if (mkOk bs && (decide (8 < fD bs) || palOk bs)) = false then (0, 0, [], 9) else
  if great (fW bs) (fH bs) most = true then (0, 0, [], 11) else
  if fA bs > bs.length then (0, 0, [], 9) else
  match bodyL bs with | some l => (fW bs, fH bs, flat l, 0) | none => (0, 0, [], 9)
/-- an image's answer with its samples in memory -/
def ImgIs (w : World) (v : Value) (W H : Int) (xs : List Int) : Prop := ∃ p len c, v = .agg #[i64 W, i64 H, .slice p len c] ∧ Img w p len xs
theorem fW_range {bs : List Int} (h : Bs bs) (a : Nat) : -2147483648 ≤ sg (litN bs a 4) ∧ sg (litN bs a 4) ≤ 2147483647 := by
  have := lit_u32 h a 4 (by omega)
  unfold sg; split <;> omega
theorem fH_range {bs : List Int} (h : Bs bs) : 0 ≤ fH bs ∧ fH bs ≤ 2147483648 := by
  have := fW_range h 22
  unfold fH; unfold fG; split <;> omega
theorem Great_spec {W H most : Int} {w : World} {R : Ending → World → Prop} (w0 : 0 ≤ W) (w1 : W ≤ 2147483648) (h0 : 0 ≤ H) (h1 : H ≤ 2147483648) (hR : R (.returned (.bool (great W H most))) w) : Calls P F.ref10_Great #[i64 W, i64 H, i64 most] w R := by
  refine calls_ref10_Great _ _ _ _ _ ?_
  unfold vc_ref10_Great
  have p0 : 0 ≤ W * H := Int.mul_nonneg w0 h0
  have p1 : W * H ≤ 2147483648 * 2147483648 := Int.mul_le_mul w1 h1 h0 (by omega)
  rw [w64 (x := W * H) (by omega) (by omega)]
  refine to_bool hR ?_
  unfold great
  rw [Bool.eq_iff_iff]; simp [or_assoc]
theorem not_great {W H most : Int} (h : great W H most = false) (w1 : 1 ≤ W) (h1 : 1 ≤ H) : gfits W H = true := by
  unfold great at h
  simp only [decide_eq_false_iff_not] at h
  exact gfits_iff.2 (by omega)
theorem fH_pos {bs : List Int} (ok : HdOk bs) : 1 ≤ fH bs := by have := ok.h; unfold fH; split <;> omega
theorem By.from_ {w : World} {p : Option Addr} {len cap : Nat} {bs : List Int} (h : By w p len bs) (hc : len ≤ cap) {n : Nat} (hn : n ≤ len) : By w (slcBase p n cap 1) (len - n) (bs.drop n) :=
  ⟨h.sl.part (by rw [bytes_length]; have := h.ln; omega) (by rw [bytes, bytes, List.map_drop]; exact List.prefix_refl _), by rw [List.length_drop]; have := h.ln; omega, by have := h.lim; omega, fun n hn => h.fit n (List.mem_of_mem_drop hn)⟩
theorem mkI_g {bs : List Int} (h : Bs bs) (k : Nat) : mkI bs k = (gM bs k : Nat) := ((gM_lt h k).2).symm
theorem sl_locl {N : Nat} {w w' : World} {bs : List Nat} {base : Option Addr} {vs : List Value} (h : Sl N w base vs) (hL : Locl bs w w') (hb : ∀ a, base = some a → 0 < vs.length → a.block < w.heap.size → a.block ∉ bs) : Sl N w' base vs := by
  intro j v hj
  obtain ⟨a, h1, h2, h3⟩ := h j v hj
  have hlt := World.block_lt_of_cell? w _ h3
  rw [add_block] at hlt
  refine ⟨a, h1, h2, ?_⟩
  rw [World.cell?_of_block (w := w) (hL.block _ (by rw [add_block]; exact hlt) (by rw [add_block]; exact hb a h1 (by have := (List.getElem?_eq_some_iff.1 hj).1; omega) hlt))]
  exact h3
theorem Img0 (w : World) : Img w none 0 [] := ⟨Sl.nil _ _ _, rfl⟩
theorem refDecode_spec {w : World} {p : Option Addr} {len cap : Nat} {bs : List Int} {most : Int} {R : Ending → World → Prop} (h : By w p len bs) (hc : len ≤ cap)
    (hR : ∀ w' s n c, Ext w w' → Ow w.heap.size w'.heap.size w' s n c 1 (px (decR bs most).2.2.1) → R (.returned (.tuple #[.agg #[i64 (decR bs most).1, i64 (decR bs most).2.1, .slice s n c], i64 (decR bs most).2.2.2])) w') :
    Calls P F.ref11_Decode #[.slice p len cap, i64 most] w R := by
  have hln := h.ln
  refine calls_ref11_Decode _ _ _ _ _ _ ?_
  unfold vc_ref11_Decode
  intro k1 hk1
  have lx : ∀ {u u' : World}, Ext w u → Locl [k1] u u' → Ext w u' := fun hE hL => hE.step hL.chg (by simp; omega)
  have bad : ∀ {e : Int} {u : World}, decR bs most = (0, 0, [], e) → Ext w u → R (.returned (.tuple #[.agg #[i64 0, i64 0, .slice none 0 0], i64 e])) u := fun he hE => by
    have := hR _ none 0 0 hE (by rw [he]; exact Ow.nil _ _ _ _ _)
    rw [he] at this; exact this
  have e0 := decR.eq_1 bs most
  refine brB_i (fun hb w1 hL1 => bad (by rw [e0, if_pos (by simp at hb; omega)]) (lx (Ext.refl w) hL1)) fun hb w2 hL2 => ?_
  rw [if_neg (by simp at hb; omega)] at e0
  have hE2 := lx (Ext.refl w) hL2
  refine fields_spec (h.ext hE2) (fun hne a b c d e f s w3 hE3 => ⟨_, _, _, _, _, _, _, _, _, _, _, _, _, _, _, rfl, hE3.keep _, fun k4 hk4 => brB_t (by simpa using hne) fun w4 hL4 => ?_⟩) fun heq w3 hE3 => ⟨_, _, _, _, _, _, _, _, _, _, _, _, _, _, _, rfl, hE3.keep _, fun k4 hk4 => brB_f rfl fun w5 hL5 => ?_⟩
  · have hs := (hE2.trans hE3).size
    exact bad (by rw [e0, if_pos hne]) ((hE2.trans hE3).step hL4.chg (by simp; omega))
  rw [if_neg (by omega)] at e0
  have ok := HdOk.of heq
  have hs3 := (hE2.trans hE3).size
  have lx4 : ∀ {u u' : World}, Ext w u → Locl [k4, k1] u u' → Ext w u' := fun hE hL => hE.step hL.chg (by simp; omega)
  have hE5 := lx4 (hE2.trans hE3) hL5
  let J : List Value → World → Prop := fun vs u => Ext w u ∧ ∃ (c : Bool) (m0 m1 m2 m3 : Int) (s : Option Addr) (n cp : Nat), vs = [.bool c, i64 (fW bs), i64 (fH bs), .bool (fN bs), i64 (fD bs), i64 (fP bs), i64 (fA bs), u32 m0, u32 m1, u32 m2, u32 m3, .slice s n cp] ∧
    (c = false → (mkOk bs && (decide (8 < fD bs) || palOk bs)) = false) ∧ (c = true → (mkOk bs && (decide (8 < fD bs) || palOk bs)) = true ∧ m0 = mkI bs 0 ∧ m1 = mkI bs 1 ∧ m2 = mkI bs 2 ∧ m3 = mkI bs 3 ∧ (fD bs ≤ 8 → Sl u.heap.size u s (cos (pal bs)) ∧ n = (pal bs).length ∧ ∀ a, s = some a → 0 < n → a.block ≠ k1 ∧ a.block ≠ k4))
  refine (fun rest => masks_spec (h.ext hE5) ok (fun hm m0 m1 m2 m3 w6 hE6 => ⟨_, _, _, _, _, _, _, _, _, _, _, _, _, _, rfl, hE6.keep _, J, brB_f rfl fun w10 hL10 => ⟨lx4 (hE5.trans hE6) hL10, _, _, _, _, _, _, _, _, rfl, fun _ => by rw [hm]; rfl, fun h => by cases h⟩, rest⟩)
    fun hm w6 hE6 => ⟨_, _, _, _, _, _, _, _, _, _, _, _, _, _, rfl, hE6.keep _, J, brB_i (fun hd w7 hL7 => ?pal) fun hd w10 hL10 => ⟨lx4 (hE5.trans hE6) hL10, _, _, _, _, _, _, _, _, rfl, (fun h => by cases h), fun _ => ⟨by rw [hm]; simp at hd ⊢; left; exact hd, rfl, rfl, rfl, rfl, fun hx => by simp at hd; omega⟩⟩, rest⟩) ?rest
  case pal =>
    have hd : fD bs ≤ 8 := by simpa using hd
    have hE7 := lx4 (hE5.trans hE6) hL7
    have hs5 := hL5.size
    have t1 := hL7.there k1 (by simp)
    have t4 := hL7.there k4 (by simp)
    refine palette_spec (h.ext hE7) ok hd (fun hp s n cp w8 hE8 => ⟨_, _, _, _, _, _, _, _, _, _, _, _, _, _, rfl, hE8.keep _, fun w9 hL9 => ⟨lx4 (hE7.trans hE8) hL9, _, _, _, _, _, _, _, _, rfl, fun _ => ?_, fun h => by cases h⟩⟩)
      fun hp s cp w8 hE8 ho => ⟨_, _, _, _, _, _, _, _, _, _, _, _, _, _, rfl, hE8.keep _, fun w9 hL9 => ⟨lx4 (hE7.trans hE8) hL9, _, _, _, _, _, _, _, _, rfl, (fun h => by cases h), fun _ => ⟨?_, rfl, rfl, rfl, rfl, fun _ => ⟨(ow_locl ho hL9 (by simp; omega)).sl.up, rfl, fun a ha hn => ?_⟩⟩⟩⟩
    · rw [hm, hp]; simp; omega
    · rw [hm, hp]; simp
    · obtain ⟨b, hb, hb1, hb2⟩ := ho.base hn
      rw [hb] at ha; cases ha
      show b ≠ k1 ∧ b ≠ k4
      omega
  case rest =>
    intro c6 n30 n31 c7 n32 n33 n34 n35 n36 n37 n38 p4 k9 k10 w11 hI
    obtain ⟨hE11, c, m0, m1, m2, m3, s, n, cp, hv, hc0, hc1⟩ := hI
    simp only [List.cons.injEq, Value.int.injEq, Value.bool.injEq, Value.slice.injEq, true_and, and_true] at hv
    obtain ⟨rfl, rfl, rfl, rfl, rfl, rfl, rfl, rfl, rfl, rfl, rfl, rfl, rfl, rfl⟩ := hv
    cases c6 with
    | false => exact brB_t rfl fun w12 hL12 => bad (by rw [e0, if_pos (hc0 rfl)]) (lx4 hE11 hL12)
    | true =>
      obtain ⟨hok, rfl, rfl, rfl, rfl, hpal⟩ := hc1 rfl
      rw [hok, if_neg (by decide)] at e0
      have hw := fW_range h.fit 18
      have hh := fH_range h.fit
      have w1 := ok.w
      have h1 := fH_pos ok
      refine brB_f rfl (Great_spec (by omega) (by unfold fW; omega) (by omega) (by omega) ⟨_, rfl, (Ext.refl _).keep _, ?_⟩)
      refine brB_i (fun hg w14 hL14 => bad (by rw [e0, if_pos hg]) (lx4 hE11 hL14)) fun hg => ?_
      rw [if_neg (by rw [hg]; decide)] at e0
      have hgf := not_great hg w1 h1
      refine brB_i (fun ha w15 hL15 => bad (by rw [e0, if_pos (by simp at ha; omega)]) (lx4 hE11 hL15)) fun ha k11 hk11 => ?_
      have ha : fA bs ≤ len := by simpa using ha
      rw [if_neg (by omega)] at e0
      have a0 := (lit_u32 h.fit 10 4 (by omega)).1
      have hs11 := hE11.size
      have lxx : ∀ {u u' : World}, Ext w u → Locl [k11, k4, k1] u u' → Ext w u' := fun hE hL => hE.step hL.chg (by simp; omega)
      let J2 : List Value → World → Prop := fun vs u => Ext w u ∧ ∃ (c : Bool) (x y : Int) (s : Option Addr) (n cp : Nat), vs = [.bool c, i64 x, i64 y, .slice s n cp] ∧ (c = false → bodyL bs = none) ∧ (c = true → ∃ l, bodyL bs = some l ∧ x = fW bs ∧ y = fH bs ∧ ∃ N, (∀ b, b ∈ [k11, k4, k1] → b < N) ∧ w.heap.size ≤ N ∧ Ow N u.heap.size u s n cp 1 (px (flat l)))
      refine ⟨J2, brB_i (fun hd => ⟨by omega, by omega, by omega, fun w16 hL16 => ?_⟩) fun hd => ⟨by omega, by omega, by omega, fun w19 hL19 => ?_⟩, ?_⟩
      · have hd : fD bs ≤ 8 := by simpa using hd
        have hE16 := lxx hE11 hL16
        obtain ⟨hsl, rfl, hne⟩ := hpal hd
        have hdd := ok.d
        have hpk := ok.pk
        have hbl : bodyL bs = byIx (fW bs) (fH bs) (fD bs) (fN bs) (fP bs) (bs.drop (fA bs).toNat) (pal bs) := by unfold bodyL; rw [if_pos hd]
        have hB := By.from_ (h.ext hE16) hc (n := (fA bs).toNat) (by omega)
        have hsl16 : Sl w16.heap.size w16 p4 (cos (pal bs)) := (sl_locl hsl hL16 fun a ha hn hlt => by have := hne a ha (by rw [cos_length] at hn; omega); simp; omega).up
        rw [Int.toNat_natCast]
        refine byIndex_spec hB hgf (by omega) (fun hp => by omega) hsl16 rfl (fun hn x y s k c w17 hE17 => ⟨_, _, _, _, _, _, rfl, hE17.keep _, fun w18 hL18 => ⟨lxx (hE16.trans hE17) hL18, _, _, _, _, _, _, rfl, fun _ => hbl.trans hn, fun h => by cases h⟩⟩)
          fun l hl hlen s c w17 hE17 hI => ⟨_, _, _, _, _, _, rfl, hE17.keep _, fun w18 hL18 => ⟨lxx (hE16.trans hE17) hL18, _, _, _, _, _, _, rfl, (fun h => by cases h), fun _ => ⟨l, hbl.trans hl, rfl, rfl, ?_⟩⟩⟩
        exact ⟨_, fun b hb => hL16.there b hb, hE16.size, (ow_locl hI hL18 fun b hb => hL16.there b hb).mono (Nat.le_refl _) hL18.size⟩
      · have hd : 8 < fD bs := by simp at hd; omega
        have hE19 := lxx hE11 hL19
        have hdd := ok.d
        have hbl : bodyL bs = byMsk (fW bs) (fH bs) (fD bs) (fN bs) (bs.drop (fA bs).toNat) (gM bs) := by unfold bodyL; rw [if_neg (by omega)]
        have hB := By.from_ (h.ext hE19) hc (n := (fA bs).toNat) (by omega)
        have hmk : mkOk bs = true := by simp at hok; exact hok.1
        rw [Int.toNat_natCast, mkI_g h.fit 0, mkI_g h.fit 1, mkI_g h.fit 2, mkI_g h.fit 3]
        refine byMask_spec hB hgf (by omega) (masks_ok h.fit ok hmk hd) (fun hn x y s k c w17 hE17 => ⟨_, _, _, _, _, _, rfl, hE17.keep _, fun w18 hL18 => ⟨lxx (hE19.trans hE17) hL18, _, _, _, _, _, _, rfl, fun _ => hbl.trans hn, fun h => by cases h⟩⟩)
          fun l hl hlen s c w17 hE17 hI => ⟨_, _, _, _, _, _, rfl, hE17.keep _, fun w18 hL18 => ⟨lxx (hE19.trans hE17) hL18, _, _, _, _, _, _, rfl, (fun h => by cases h), fun _ => ⟨l, hbl.trans hl, rfl, rfl, ?_⟩⟩⟩
        exact ⟨_, fun b hb => hL19.there b hb, hE19.size, (ow_locl hI hL18 fun b hb => hL19.there b hb).mono (Nat.le_refl _) hL18.size⟩
      · intro c11 n43 n44 p9 k20 k21 w22 hI
        obtain ⟨hE22, c, x, y, s, n, cp, hv, hc0, hc1⟩ := hI
        simp only [List.cons.injEq, Value.int.injEq, Value.bool.injEq, Value.slice.injEq, true_and, and_true] at hv
        obtain ⟨rfl, rfl, rfl, rfl, rfl, rfl⟩ := hv
        cases c11 with
        | false => exact brB_t rfl fun w23 hL23 => bad (by rw [e0, hc0 rfl]) (lxx hE22 hL23)
        | true =>
          obtain ⟨l, hl, rfl, rfl, N, hN, hwN, hI⟩ := hc1 rfl
          refine brB_f rfl fun w24 hL24 => ?_
          rw [hl] at e0
          have := hR w24 p9 k20 k21 (lxx hE22 hL24) (by rw [e0]; exact (ow_locl hI hL24 hN).mono hwN hL24.size)
          rw [e0] at this; exact this
end Go.Proofs.YtjdljddfiddnoaaDoor
