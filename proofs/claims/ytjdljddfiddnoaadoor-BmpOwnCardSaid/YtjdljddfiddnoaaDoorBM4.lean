/- Bmp: the document's masks. -/
import Derived.Test.YtjdljddfiddnoaaDoorBM3
import Derived.Test.YtjdljddfiddnoaaDoorVcsQmasks
namespace Go.Proofs.YtjdljddfiddnoaaDoor
open Go Go.Vc Go.RowKit
set_option maxRecDepth 100000
set_option linter.unusedVariables false
set_option linter.unusedSimpArgs false

/-- how many masks stand in a head -/
def mN (bs : List Int) : Nat := if fP bs = 6 ∨ fS bs ≥ 56 then 4 else 3
/-- mask number k -/
def mkI (bs : List Int) (k : Nat) : Int :=
  if fP bs < 3 then (if fD bs = 16 then [31744, 992, 31, 0] else if fD bs = 24 ∨ fD bs = 32 then [16711680, 65280, 255, 0] else [0, 0, 0, 0]).getD k 0
  else if k < mN bs then litN bs (54 + 4 * k) 4 else 0
/-- may mask number i be? -/
def okM (d : Int) (all i m : Nat) : Bool :=
  (if m = 0 then decide (3 ≤ i) else match conF m with | some (_, n) => decide (n ≤ 16) | none => false) && decide (all &&& m = 0) && !(decide (d = 16) && decide (m > 65535))
def chkM (d : Int) (g : Nat → Nat) : Nat → Nat → Nat → Bool
  | 0, _, _ => true
  | n + 1, i, all => okM d all i (g i) && chkM d g n (i + 1) (all ||| g i)
def gM (bs : List Int) (i : Nat) : Nat := (mkI bs i).toNat
def mkOk (bs : List Int) : Bool := if fP bs < 3 then true else !decide (fP bs = 6 ∧ fS bs = 52) && decide (54 + 4 * mN bs ≤ bs.length) && chkM (fD bs) (gM bs) 4 0 0
theorem mkI_range {bs : List Int} (h : Bs bs) (k : Nat) : 0 ≤ mkI bs k ∧ mkI bs k < 4294967296 := by
  unfold mkI
  split
  · split
    · match k with
      | 0 => decide
      | 1 => decide
      | 2 => decide
      | 3 => decide
      | k + 4 => simp
    · split
      · match k with
        | 0 => decide
        | 1 => decide
        | 2 => decide
        | 3 => decide
        | k + 4 => simp
      · match k with
        | 0 => decide
        | 1 => decide
        | 2 => decide
        | 3 => decide
        | k + 4 => simp
  · split
    · exact lit_u32 h _ _ (by omega)
    · decide
theorem gM_lt {bs : List Int} (h : Bs bs) (k : Nat) : gM bs k < 2 ^ 32 ∧ (gM bs k : Int) = mkI bs k := by
  have := mkI_range h k
  unfold gM; omega
/-- a head in memory -/
def hdL (W H : Int) (dn : Bool) (d pk a : Int) (m0 m1 m2 m3 : Int) (pal : Value) : List Value := [i64 W, i64 H, .bool dn, i64 d, i64 pk, i64 a, u32 m0, u32 m1, u32 m2, u32 m3, pal]
theorem hdL_get {W H : Int} {dn : Bool} {d pk a : Int} {m0 m1 m2 m3 : Int} {pal : Value} {i : Nat} (h : i < 4) : (hdL W H dn d pk a m0 m1 m2 m3 pal)[6 + i]? = some (u32 ([m0, m1, m2, m3].getD i 0)) := by
  match i, h with
  | 0, _ => rfl
  | 1, _ => rfl
  | 2, _ => rfl
  | 3, _ => rfl
/-- the first n masks that stand in a head -/
def mLst (bs : List Int) (n : Nat) : List Int := (List.range 4).map fun k => if k < n then litN bs (54 + 4 * k) 4 else 0
theorem mLst_len (bs : List Int) (n : Nat) : (mLst bs n).length = 4 := by simp [mLst]
theorem mLst_getD {bs : List Int} {n i : Nat} (h : i < 4) : (mLst bs n).getD i 0 = if i < n then litN bs (54 + 4 * i) 4 else 0 := by
  simp [mLst, List.getD, h]
theorem hdL_set {W H : Int} {dn : Bool} {d pk a : Int} {bs : List Int} {pal : Value} {i : Nat} (h : i < 4) :
    (hdL W H dn d pk a ((mLst bs i).getD 0 0) ((mLst bs i).getD 1 0) ((mLst bs i).getD 2 0) ((mLst bs i).getD 3 0) pal).set (6 + i) (u32 (litN bs (54 + 4 * i) 4)) =
      hdL W H dn d pk a ((mLst bs (i + 1)).getD 0 0) ((mLst bs (i + 1)).getD 1 0) ((mLst bs (i + 1)).getD 2 0) ((mLst bs (i + 1)).getD 3 0) pal := by
  match i, h with
  | 0, _ => rfl
  | 1, _ => rfl
  | 2, _ => rfl
  | 3, _ => rfl
theorem con0 : conF 0 = none := by decide +kernel
theorem masks_spec {w : World} {p : Option Addr} {len cap : Nat} {bs : List Int} {R : Ending → World → Prop} (h : By w p len bs) (ok : HdOk bs)
    (h1 : mkOk bs = false → ∀ m0 m1 m2 m3 w', Ext w w' → R (.returned (.tuple #[.agg #[i64 (fW bs), i64 (fH bs), .bool (fN bs), i64 (fD bs), i64 (fP bs), i64 (fA bs), u32 m0, u32 m1, u32 m2, u32 m3, .slice none 0 0], .bool false])) w')
    (h2 : mkOk bs = true → ∀ w', Ext w w' → R (.returned (.tuple #[.agg #[i64 (fW bs), i64 (fH bs), .bool (fN bs), i64 (fD bs), i64 (fP bs), i64 (fA bs), u32 (mkI bs 0), u32 (mkI bs 1), u32 (mkI bs 2), u32 (mkI bs 3), .slice none 0 0], .bool true])) w') :
    Calls P F.ref11_masks #[.slice p len cap, .agg #[i64 (fW bs), i64 (fH bs), .bool (fN bs), i64 (fD bs), i64 (fP bs), i64 (fA bs), u32 0, u32 0, u32 0, u32 0, .slice none 0 0], i64 (fS bs)] w R := by
  have hlen := h.ln
  refine calls_ref11_masks _ _ _ _ _ _ _ _ _ _ _ _ _ _ _ _ _ _ _ ?_
  unfold vc_ref11_masks
  intro k1 w1 hN1 k2 hk2 w2 hL2
  have hE1 := hN1.ext
  have hk1 : w.heap.size ≤ k1 := by rw [hN1.1]; omega
  have hne : k1 ≠ k2 := by have := hN1.size; omega
  have hk2' : w.heap.size ≤ k2 := by have := hE1.size; omega
  have lx : ∀ {u u' : World}, Ext w u → Locl [k2] u u' → Ext w u' := fun hE hL => hE.step hL.chg fun i hi => by simp at hi; omega
  have kp : ∀ {u : World}, Keep [k2] u u := fun {u} => (Ext.refl u).keep _
  have hE2 := lx hE1 hL2
  have hC2 : Cs w2 k1 (hdL (fW bs) (fH bs) (fN bs) (fD bs) (fP bs) (fA bs) 0 0 0 0 (.slice none 0 0)) := (hN1.cs).chg hL2.chg (by simpa using hne)
  have sc : ∀ {u : World} {vs us : List Value} {off : Nat}, Ext w u → Ext w (setCells u ⟨k1, off, none⟩ us 0) := fun hE => hE.step (Chg.setCells _ _ _ _) fun i hi => by rw [hi]; exact hk1
  refine ⟨_, hC2.cell (i := 4) rfl, brB_i (fun hp => ?_) fun hp => ?_⟩
  · have hp : fP bs < 3 := by simpa using hp
    have hok : mkOk bs = true := by unfold mkOk; rw [if_pos hp]
    refine ⟨_, hC2.cell (i := 3) rfl, fun vs u => vs = [] ∧ Ext w u ∧ Cs u k1 (hdL (fW bs) (fH bs) (fN bs) (fD bs) (fP bs) (fA bs) (mkI bs 0) (mkI bs 1) (mkI bs 2) (mkI bs 3) (.slice none 0 0)), ?_, fun w3 hI => ?_⟩
    · have cs : ∀ {n : Nat}, n < 11 → (∃ v, w2.cell? ⟨k1, n, none⟩ = some v) ∧ w2.frozen? ⟨k1, n, none⟩ = false := fun {n} hn =>
        ⟨⟨_, hC2.cell (List.getElem?_eq_getElem (by simpa [hdL] using hn))⟩, hC2.frozen _⟩
      have d24 : fD bs = 24 ∨ fD bs = 32 → (∃ v, w2.cell? ⟨k1, 6, none⟩ = some v) ∧ w2.frozen? ⟨k1, 6, none⟩ = false ∧ (∃ v, w2.cell? ⟨k1, 7, none⟩ = some v) ∧ w2.frozen? ⟨k1, 7, none⟩ = false ∧ (∃ v, w2.cell? ⟨k1, 8, none⟩ = some v) ∧ w2.frozen? ⟨k1, 8, none⟩ = false ∧ (∃ v, w2.cell? ⟨k1, 9, none⟩ = some v) ∧ w2.frozen? ⟨k1, 9, none⟩ = false ∧ (¬ k1 ∈ [k2]) ∧
          (fun (vs : List Value) (u : World) => vs = [] ∧ Ext w u ∧ Cs u k1 (hdL (fW bs) (fH bs) (fN bs) (fD bs) (fP bs) (fA bs) (mkI bs 0) (mkI bs 1) (mkI bs 2) (mkI bs 3) (.slice none 0 0))) [] (setCells w2 ⟨k1, 6, none⟩ [u32 16711680, u32 65280, u32 255, u32 0] 0) := fun hd => by
        have hn16 : ¬ fD bs = 16 := by omega
        refine ⟨(cs (by omega)).1, (cs (by omega)).2, (cs (by omega)).1, (cs (by omega)).2, (cs (by omega)).1, (cs (by omega)).2, (cs (by omega)).1, (cs (by omega)).2, by simpa using hne, rfl, sc (vs := []) hE2, ?_⟩
        have := hC2.set (off := 6) (us := [u32 16711680, u32 65280, u32 255, u32 0]) (by simp [hdL])
        have e : ∀ k, mkI bs k = [16711680, 65280, 255, 0].getD k 0 := fun k => by unfold mkI; rw [if_pos hp, if_neg hn16, if_pos hd]
        rw [e, e, e, e]; exact this
      refine brB_i (fun hd => ?_) fun hd => brB_i (fun he => brB_t he (d24 (.inl (by simpa using he)))) fun he => brB_i (fun hf => d24 (.inr (by simpa using hf))) fun hf => ⟨rfl, hE2, ?_⟩
      · have hd : fD bs = 16 := by simpa using hd
        refine ⟨(cs (by omega)).1, (cs (by omega)).2, (cs (by omega)).1, (cs (by omega)).2, (cs (by omega)).1, (cs (by omega)).2, (cs (by omega)).1, (cs (by omega)).2, by simpa using hne, rfl, sc (vs := []) hE2, ?_⟩
        have := hC2.set (off := 6) (us := [u32 31744, u32 992, u32 31, u32 0]) (by simp [hdL])
        have e : ∀ k, mkI bs k = [31744, 992, 31, 0].getD k 0 := fun k => by unfold mkI; rw [if_pos hp, if_pos hd]
        rw [e, e, e, e]; exact this
      · have hd : ¬ fD bs = 16 := by simpa using hd
        have he : ¬ fD bs = 24 := by simpa using he
        have hf : ¬ fD bs = 32 := by simpa using hf
        have e : ∀ k, mkI bs k = [0, 0, 0, 0].getD k 0 := fun k => by unfold mkI; rw [if_pos hp, if_neg hd, if_neg (by omega)]
        rw [e, e, e, e]; exact hC2
    · obtain ⟨_, hE, hC⟩ := hI
      refine ⟨_, _, _, _, _, _, _, _, _, _, _, _, _, hC.cell (i := 0) rfl, hC.cell (i := 1) rfl, hC.cell (i := 2) rfl, hC.cell (i := 3) rfl, hC.cell (i := 4) rfl, hC.cell (i := 5) rfl, hC.cell (i := 6) rfl, hC.cell (i := 7) rfl, hC.cell (i := 8) rfl, hC.cell (i := 9) rfl, hC.cell (i := 10) rfl, fun w' hL => ?_⟩
      exact h2 hok _ (lx hE hL)
  have hp : ¬ fP bs < 3 := by simpa using hp
  have hmk : mkOk bs = (!decide (fP bs = 6 ∧ fS bs = 52) && decide (54 + 4 * mN bs ≤ bs.length) && chkM (fD bs) (gM bs) 4 0 0) := by unfold mkOk; rw [if_neg hp]
  have hmN : mN bs = 3 ∨ mN bs = 4 := by unfold mN; split <;> simp
  refine ⟨fun vs u => vs = [i64 (mN bs)] ∧ u = w2, ⟨_, hC2.cell (i := 4) rfl, brB_i (fun hb => ⟨?_, rfl⟩) fun hb => ⟨?_, rfl⟩⟩, fun n13 w5 hI => ?_⟩
  · have hb : fP bs = 6 ∨ fS bs ≥ 56 := by simpa using hb
    unfold mN; rw [if_pos hb]; rfl
  · have hb : ¬ (fP bs = 6 ∨ fS bs ≥ 56) := by simp at hb; omega
    unfold mN; rw [if_neg hb]; rfl
  obtain ⟨hv, rfl⟩ := hI
  obtain rfl : n13 = mN bs := by simpa using hv
  refine ⟨_, hC2.cell (i := 4) rfl, brB_i (fun hb => ?_) fun hb => ?_⟩
  · have hb : fP bs = 6 ∧ fS bs = 52 := by simpa using hb
    have hC := hC2
    refine ⟨_, _, _, _, _, _, _, _, _, _, _, _, _, hC.cell (i := 0) rfl, hC.cell (i := 1) rfl, hC.cell (i := 2) rfl, hC.cell (i := 3) rfl, hC.cell (i := 4) rfl, hC.cell (i := 5) rfl, hC.cell (i := 6) rfl, hC.cell (i := 7) rfl, hC.cell (i := 8) rfl, hC.cell (i := 9) rfl, hC.cell (i := 10) rfl, fun w' hL => ?_⟩
    exact h1 (by rw [hmk, decide_eq_true hb]; rfl) _ _ _ _ _ (lx hE2 hL)
  have hb : ¬ (fP bs = 6 ∧ fS bs = 52) := by intro hx; simp [hx.1, hx.2] at hb
  rw [decide_eq_false hb] at hmk
  refine ⟨fun vs u => ∃ n : Nat, vs = [i64 n, i64 0, i64 0, .bool false, i64 0, i64 0, i64 0, u32 0, u32 0, u32 0, u32 0, .slice none 0 0] ∧ n ≤ mN bs ∧ (0 < n → 54 + 4 * n ≤ bs.length) ∧ Ext w u ∧ Cs u k1 (hdL (fW bs) (fH bs) (fN bs) (fD bs) (fP bs) (fA bs) ((mLst bs n).getD 0 0) ((mLst bs n).getD 1 0) ((mLst bs n).getD 2 0) ((mLst bs n).getD 3 0) (.slice none 0 0)),
    fun vs _ => match vs with | .int _ n :: _ => (5 - n).toNat | _ => 0, ⟨0, rfl, by omega, by omega, hE2, hC2⟩, ?_⟩
  intro n24 n25 n26 c3 n27 n28 n29 n30 n31 n32 n33 p3 k7 k8 w7 hI
  obtain ⟨n, hv, hn, hin, hE, hC⟩ := hI
  simp only [List.cons.injEq, Value.int.injEq, Value.bool.injEq, Value.slice.injEq, true_and, and_true] at hv
  obtain ⟨rfl, rfl, rfl, rfl, rfl, rfl, rfl, rfl, rfl, rfl, rfl, rfl, rfl, rfl⟩ := hv
  have hB := h.ext hE
  refine brB_i (fun hc => ?_) fun hc => ?_
  · have hc : n < mN bs := by simp at hc; omega
    rw [w64 (x := 4 * (n : Int)) (by omega) (by omega), w64 (x := 54 + 4 * (n : Int)) (by omega) (by omega), w64 (x := (n : Int) + 1) (by omega) (by omega)]
    refine refGet_spec hB.sl hB.ln hB.lim hB.fit (fun ht => ⟨_, _, rfl, kp, brB_t (by simpa using ht) ?_⟩) fun ht => ⟨_, _, rfl, kp, brB_f rfl ?_⟩
    · refine ⟨_, _, _, _, _, _, _, _, _, _, _, _, _, hC.cell (i := 0) rfl, hC.cell (i := 1) rfl, hC.cell (i := 2) rfl, hC.cell (i := 3) rfl, hC.cell (i := 4) rfl, hC.cell (i := 5) rfl, hC.cell (i := 6) rfl, hC.cell (i := 7) rfl, hC.cell (i := 8) rfl, hC.cell (i := 9) rfl, hC.cell (i := 10) rfl, fun w' hL => ?_⟩
      refine h1 ?_ _ _ _ _ _ (lx hE hL)
      have hx : ¬ (54 + 4 * mN bs ≤ bs.length) := by
        intro hx; apply ht; unfold thereE; rw [if_neg (by omega), if_neg (by omega)]
      rw [hmk, decide_eq_false hx]; simp
    · have ht := thereE_0 ht
      have hg : getV bs (54 + 4 * (n : Int)).toNat (4 : Int).toNat false = litN bs (54 + 4 * n) 4 := by
        show litN bs _ 4 = _; congr 1
      rw [hg, loc_add, show 6 + (n : Int).toNat * 1 = 6 + n by omega]
      have hl : 6 + n < (hdL (fW bs) (fH bs) (fN bs) (fD bs) (fP bs) (fA bs) ((mLst bs n).getD 0 0) ((mLst bs n).getD 1 0) ((mLst bs n).getD 2 0) ((mLst bs n).getD 3 0) (.slice none 0 0)).length := by
        show 6 + n < 11; omega
      refine ⟨by omega, by omega, ⟨_, hC.cell (List.getElem?_eq_getElem hl)⟩, hC.frozen _, by simpa using hne, ⟨n + 1, rfl, by omega, by omega, sc (vs := []) hE, ?_⟩, by show (5 - ((n : Int) + 1)).toNat < (5 - (n : Int)).toNat; omega⟩
      rw [← hdL_set (by omega)]
      exact hC.set1 hl
  have hc : n = mN bs := by simp at hc; omega
  subst hc
  have hin := hin (by omega)
  rw [decide_eq_true hin] at hmk
  have hmk : mkOk bs = chkM (fD bs) (gM bs) 4 0 0 := by rw [hmk]; rfl
  have hms : ∀ i : Nat, i < 4 → [(mLst bs (mN bs)).getD 0 0, (mLst bs (mN bs)).getD 1 0, (mLst bs (mN bs)).getD 2 0, (mLst bs (mN bs)).getD 3 0].getD i 0 = gM bs i := fun i hi => by
    rw [(gM_lt h.fit i).2]; unfold mkI; rw [if_neg hp]
    match i, hi with
    | 0, _ => exact mLst_getD (by omega)
    | 1, _ => exact mLst_getD (by omega)
    | 2, _ => exact mLst_getD (by omega)
    | 3, _ => exact mLst_getD (by omega)
  refine ⟨fun vs u => ∃ (all i : Nat), vs = [u32 all, i64 i, i64 0, i64 0, .bool false, i64 0, i64 0, i64 0, u32 0, u32 0, u32 0, u32 0, .slice none 0 0] ∧ all < 2 ^ 32 ∧ i ≤ 4 ∧ chkM (fD bs) (gM bs) (4 - i) i all = mkOk bs ∧ u = w7,
    fun vs _ => match vs with | _ :: .int _ n :: _ => (5 - n).toNat | _ => 0, ⟨0, 0, rfl, by omega, by omega, hmk.symm, rfl⟩, ?_⟩
  intro n45 n46 n47 n48 c5 n49 n50 n51 n52 n53 n54 n55 p5 k11 k12 w10 hI
  obtain ⟨all, i, hv, hall, hi, hck, rfl⟩ := hI
  simp only [List.cons.injEq, Value.int.injEq, Value.bool.injEq, Value.slice.injEq, true_and, and_true] at hv
  obtain ⟨rfl, rfl, rfl, rfl, rfl, rfl, rfl, rfl, rfl, rfl, rfl, rfl, rfl, rfl, rfl⟩ := hv
  refine brB_i (fun hc => ?_) fun hc => ?_
  · have hc : i < 4 := by simp at hc; omega
    rw [show 4 - i = (3 - i) + 1 by omega, chkM] at hck
    have hcell : w10.cell? (Addr.add ⟨k1, 6, none⟩ ((i : Int).toNat * 1)) = some (u32 (gM bs i)) := by
      rw [loc_add, show 6 + (i : Int).toNat * 1 = 6 + i by omega, ← hms i hc]
      exact hC.cell (hdL_get hc)
    have hg := (gM_lt h.fit i).1
    have hand : IntKind.u32.wrap (bitsZ .and .u32 (all : Int) (gM bs i : Int)) = ((all &&& gM bs i : Nat) : Int) := by
      rw [bitsZ_and (by omega) (by simp [IntKind.bits]; omega) (by omega) (by simp [IntKind.bits]; omega), Int.toNat_natCast, Int.toNat_natCast]
      exact wu32 (by omega) (by have : all &&& gM bs i ≤ all := Nat.and_le_left; omega)
    have hor : all ||| gM bs i < 2 ^ 32 := Nat.or_lt_two_pow hall hg
    have horw : IntKind.u32.wrap (bitsZ .or .u32 (all : Int) (gM bs i : Int)) = ((all ||| gM bs i : Nat) : Int) := by
      rw [bitsZ_or (by omega) (by simp [IntKind.bits]; omega) (by omega) (by simp [IntKind.bits]; omega), Int.toNat_natCast, Int.toNat_natCast]
      exact wu32 (by omega) (by omega)
    refine ⟨fun vs u => vs = [u32 ((all ||| gM bs i : Nat) : Int), i64 0, i64 0, .bool false, i64 0, i64 0, i64 0, u32 0, u32 0, u32 0, u32 0, .slice none 0 0] ∧ okM (fD bs) all i (gM bs i) = true ∧ u = w10, ⟨by omega, by omega, _, hcell, ?_⟩, ?_⟩
    · refine Span_spec hg (fun h0 => ⟨_, _, _, rfl, kp, brB_f (by decide) (brB_t rfl (brB_i (fun h3 => ?_) fun h3 => ?_))⟩) (fun a n hcf => ⟨_, _, _, rfl, kp, brB_i (fun h16 => ?_) fun h16 => brB_f ?_ ?_⟩) (fun a n h0 hcf hn1 => ⟨_, _, _, rfl, kp, brB_t rfl ?_⟩)
      · have hf : okM (fD bs) all i (gM bs i) = false := by unfold okM; rw [if_pos h0, decide_eq_false (by simp at h3; omega)]; rfl
        refine ⟨_, _, _, _, _, _, _, _, _, _, _, _, _, hC.cell (i := 0) rfl, hC.cell (i := 1) rfl, hC.cell (i := 2) rfl, hC.cell (i := 3) rfl, hC.cell (i := 4) rfl, hC.cell (i := 5) rfl, hC.cell (i := 6) rfl, hC.cell (i := 7) rfl, hC.cell (i := 8) rfl, hC.cell (i := 9) rfl, hC.cell (i := 10) rfl, fun w' hL => ?_⟩
        exact h1 (by rw [← hck, hf]; rfl) _ _ _ _ _ (lx hE hL)
      · have hq : (if gM bs i = 0 then decide (3 ≤ i) else match conF (gM bs i) with | some (_, n) => decide (n ≤ 16) | none => false) = true := by rw [if_pos h0, decide_eq_true (by simp at h3; omega)]
        refine ⟨by omega, by omega, _, hcell, brB_i (fun ha => ?_) fun ha => ⟨_, hC.cell (i := 3) rfl, brB_i (fun hd => ⟨by omega, by omega, _, hcell, brB_i (fun hm => ?_) fun hm => ⟨by omega, by omega, _, hcell, ?_⟩⟩) fun hd => ⟨by omega, by omega, _, hcell, ?_⟩⟩⟩
        · have hf : okM (fD bs) all i (gM bs i) = false := by unfold okM; rw [hq, decide_eq_false (by rw [hand] at ha; simp at ha; omega)]; rfl
          refine ⟨_, _, _, _, _, _, _, _, _, _, _, _, _, hC.cell (i := 0) rfl, hC.cell (i := 1) rfl, hC.cell (i := 2) rfl, hC.cell (i := 3) rfl, hC.cell (i := 4) rfl, hC.cell (i := 5) rfl, hC.cell (i := 6) rfl, hC.cell (i := 7) rfl, hC.cell (i := 8) rfl, hC.cell (i := 9) rfl, hC.cell (i := 10) rfl, fun w' hL => ?_⟩
          exact h1 (by rw [← hck, hf]; rfl) _ _ _ _ _ (lx hE hL)
        · have ha : all &&& gM bs i = 0 := by rw [hand] at ha; simp at ha; omega
          have hd : fD bs = 16 := by simpa using hd
          have hm : gM bs i > 65535 := by simp at hm; omega
          have hf : okM (fD bs) all i (gM bs i) = false := by unfold okM; rw [hq, decide_eq_true ha, decide_eq_true hd, decide_eq_true hm]; rfl
          refine ⟨_, _, _, _, _, _, _, _, _, _, _, _, _, hC.cell (i := 0) rfl, hC.cell (i := 1) rfl, hC.cell (i := 2) rfl, hC.cell (i := 3) rfl, hC.cell (i := 4) rfl, hC.cell (i := 5) rfl, hC.cell (i := 6) rfl, hC.cell (i := 7) rfl, hC.cell (i := 8) rfl, hC.cell (i := 9) rfl, hC.cell (i := 10) rfl, fun w' hL => ?_⟩
          exact h1 (by rw [← hck, hf]; rfl) _ _ _ _ _ (lx hE hL)
        · have ha : all &&& gM bs i = 0 := by rw [hand] at ha; simp at ha; omega
          have hm : ¬ gM bs i > 65535 := by simp at hm; omega
          exact ⟨by rw [horw], by unfold okM; rw [hq, decide_eq_true ha, decide_eq_false hm]; simp, rfl⟩
        · have ha : all &&& gM bs i = 0 := by rw [hand] at ha; simp at ha; omega
          have hd : ¬ fD bs = 16 := by simpa using hd
          exact ⟨by rw [horw], by unfold okM; rw [hq, decide_eq_true ha, decide_eq_false hd]; simp, rfl⟩
      · have hf : okM (fD bs) all i (gM bs i) = false := by
          obtain ⟨c1, c2, c3⟩ := conF_some hcf
          have hpos : gM bs i ≠ 0 := by
            intro h0; rw [h0, con0] at hcf; cases hcf
          unfold okM; rw [if_neg hpos, hcf]
          simp at h16 ⊢; omega
        refine ⟨_, _, _, _, _, _, _, _, _, _, _, _, _, hC.cell (i := 0) rfl, hC.cell (i := 1) rfl, hC.cell (i := 2) rfl, hC.cell (i := 3) rfl, hC.cell (i := 4) rfl, hC.cell (i := 5) rfl, hC.cell (i := 6) rfl, hC.cell (i := 7) rfl, hC.cell (i := 8) rfl, hC.cell (i := 9) rfl, hC.cell (i := 10) rfl, fun w' hL => ?_⟩
        exact h1 (by rw [← hck, hf]; rfl) _ _ _ _ _ (lx hE hL)
      · obtain ⟨c1, c2, c3⟩ := conF_some hcf
        simp; omega
      · have hq : (if gM bs i = 0 then decide (3 ≤ i) else match conF (gM bs i) with | some (_, n) => decide (n ≤ 16) | none => false) = true := by
          have hpos : gM bs i ≠ 0 := by
            intro h0; rw [h0, con0] at hcf; cases hcf
          rw [if_neg hpos, hcf]
          simp at h16 ⊢; omega
        refine ⟨by omega, by omega, _, hcell, brB_i (fun ha => ?_) fun ha => ⟨_, hC.cell (i := 3) rfl, brB_i (fun hd => ⟨by omega, by omega, _, hcell, brB_i (fun hm => ?_) fun hm => ⟨by omega, by omega, _, hcell, ?_⟩⟩) fun hd => ⟨by omega, by omega, _, hcell, ?_⟩⟩⟩
        · have hf : okM (fD bs) all i (gM bs i) = false := by unfold okM; rw [hq, decide_eq_false (by rw [hand] at ha; simp at ha; omega)]; rfl
          refine ⟨_, _, _, _, _, _, _, _, _, _, _, _, _, hC.cell (i := 0) rfl, hC.cell (i := 1) rfl, hC.cell (i := 2) rfl, hC.cell (i := 3) rfl, hC.cell (i := 4) rfl, hC.cell (i := 5) rfl, hC.cell (i := 6) rfl, hC.cell (i := 7) rfl, hC.cell (i := 8) rfl, hC.cell (i := 9) rfl, hC.cell (i := 10) rfl, fun w' hL => ?_⟩
          exact h1 (by rw [← hck, hf]; rfl) _ _ _ _ _ (lx hE hL)
        · have ha : all &&& gM bs i = 0 := by rw [hand] at ha; simp at ha; omega
          have hd : fD bs = 16 := by simpa using hd
          have hm : gM bs i > 65535 := by simp at hm; omega
          have hf : okM (fD bs) all i (gM bs i) = false := by unfold okM; rw [hq, decide_eq_true ha, decide_eq_true hd, decide_eq_true hm]; rfl
          refine ⟨_, _, _, _, _, _, _, _, _, _, _, _, _, hC.cell (i := 0) rfl, hC.cell (i := 1) rfl, hC.cell (i := 2) rfl, hC.cell (i := 3) rfl, hC.cell (i := 4) rfl, hC.cell (i := 5) rfl, hC.cell (i := 6) rfl, hC.cell (i := 7) rfl, hC.cell (i := 8) rfl, hC.cell (i := 9) rfl, hC.cell (i := 10) rfl, fun w' hL => ?_⟩
          exact h1 (by rw [← hck, hf]; rfl) _ _ _ _ _ (lx hE hL)
        · have ha : all &&& gM bs i = 0 := by rw [hand] at ha; simp at ha; omega
          have hm : ¬ gM bs i > 65535 := by simp at hm; omega
          exact ⟨by rw [horw], by unfold okM; rw [hq, decide_eq_true ha, decide_eq_false hm]; simp, rfl⟩
        · have ha : all &&& gM bs i = 0 := by rw [hand] at ha; simp at ha; omega
          have hd : ¬ fD bs = 16 := by simpa using hd
          exact ⟨by rw [horw], by unfold okM; rw [hq, decide_eq_true ha, decide_eq_false hd]; simp, rfl⟩
      · have hf : okM (fD bs) all i (gM bs i) = false := by unfold okM; rw [if_neg (by omega), hcf]; rfl
        refine ⟨_, _, _, _, _, _, _, _, _, _, _, _, _, hC.cell (i := 0) rfl, hC.cell (i := 1) rfl, hC.cell (i := 2) rfl, hC.cell (i := 3) rfl, hC.cell (i := 4) rfl, hC.cell (i := 5) rfl, hC.cell (i := 6) rfl, hC.cell (i := 7) rfl, hC.cell (i := 8) rfl, hC.cell (i := 9) rfl, hC.cell (i := 10) rfl, fun w' hL => ?_⟩
        exact h1 (by rw [← hck, hf]; rfl) _ _ _ _ _ (lx hE hL)
    · intro n123 n124 n125 c13 n126 n127 n128 n129 n130 n131 n132 p12 k25 k26 w18 hI
      obtain ⟨hv, hokm, rfl⟩ := hI
      simp only [List.cons.injEq, Value.int.injEq, Value.bool.injEq, Value.slice.injEq, true_and, and_true] at hv
      obtain ⟨rfl, rfl, rfl, rfl, rfl, rfl, rfl, rfl, rfl, rfl, rfl, rfl, rfl, rfl⟩ := hv
      rw [w64 (x := (i : Int) + 1) (by omega) (by omega)]
      rw [hokm, Bool.true_and] at hck
      exact ⟨⟨all ||| gM bs i, i + 1, rfl, hor, by omega, by rw [show 4 - (i + 1) = 3 - i by omega]; exact hck, rfl⟩, by show (5 - ((i : Int) + 1)).toNat < (5 - (i : Int)).toNat; omega⟩
  have hc : i = 4 := by simp at hc; omega
  subst hc
  have hok : mkOk bs = true := by rw [← hck]; rfl
  refine ⟨_, _, _, _, _, _, _, _, _, _, _, _, _, hC.cell (i := 0) rfl, hC.cell (i := 1) rfl, hC.cell (i := 2) rfl, hC.cell (i := 3) rfl, hC.cell (i := 4) rfl, hC.cell (i := 5) rfl, hC.cell (i := 6) rfl, hC.cell (i := 7) rfl, hC.cell (i := 8) rfl, hC.cell (i := 9) rfl, hC.cell (i := 10) rfl, fun w' hL => ?_⟩
  have e : ∀ k : Nat, k < 4 → (mLst bs (mN bs)).getD k 0 = mkI bs k := fun k hk => by
    unfold mkI; rw [if_neg hp]; exact mLst_getD hk
  rw [e 0 (by omega), e 1 (by omega), e 2 (by omega), e 3 (by omega)]
  exact h2 hok _ (lx hE hL)
end Go.Proofs.YtjdljddfiddnoaaDoor
