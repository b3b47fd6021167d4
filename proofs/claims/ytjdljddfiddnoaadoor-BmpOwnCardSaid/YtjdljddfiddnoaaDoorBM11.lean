/- Bmp: the program opens a file as the document does. -/
import Derived.Test.YtjdljddfiddnoaaDoorBM10
namespace Go.Proofs.YtjdljddfiddnoaaDoor
open Go Go.Vc Go.RowKit
set_option maxRecDepth 100000
set_option linter.unusedVariables false
set_option linter.unusedSimpArgs false

theorem fl_set {sl pal : Value} {W H : Int} {dn : Bool} {d pk a : Int} {bs : List Int} {i : Nat} (h : i < 4) :
    (fl sl W H dn d pk a ((mLst bs i).getD 0 0) ((mLst bs i).getD 1 0) ((mLst bs i).getD 2 0) ((mLst bs i).getD 3 0) pal).set (7 + i) (u32 (litN bs (54 + 4 * i) 4)) =
      fl sl W H dn d pk a ((mLst bs (i + 1)).getD 0 0) ((mLst bs (i + 1)).getD 1 0) ((mLst bs (i + 1)).getD 2 0) ((mLst bs (i + 1)).getD 3 0) pal := by
  match i, h with
  | 0, _ => rfl
  | 1, _ => rfl
  | 2, _ => rfl
  | 3, _ => rfl
theorem fl_set' {sl pal : Value} {W H : Int} {dn : Bool} {d pk a m0 m1 m2 m3 v : Int} {i : Nat} (h : i < 4) :
    ∃ x0 x1 x2 x3 : Int, (fl sl W H dn d pk a m0 m1 m2 m3 pal).set (7 + i) (u32 v) = fl sl W H dn d pk a x0 x1 x2 x3 pal := by
  match i, h with
  | 0, _ => exact ⟨_, _, _, _, rfl⟩
  | 1, _ => exact ⟨_, _, _, _, rfl⟩
  | 2, _ => exact ⟨_, _, _, _, rfl⟩
  | 3, _ => exact ⟨_, _, _, _, rfl⟩
/-- what opening answers, where it may -/
def OpenIs (w : World) (p : Option Addr) (len cap : Nat) (bs : List Int) (u : World) (fb : Nat) : Prop :=
  ∃ (q : Option Addr) (n c : Nat), Ext w u ∧ w.heap.size ≤ fb ∧ Cs u fb (fl (.slice p len cap) (fW bs) (fH bs) (fN bs) (fD bs) (fP bs) (fA bs) (gM bs 0 : Nat) (gM bs 1 : Nat) (gM bs 2 : Nat) (gM bs 3 : Nat) (.slice q n c)) ∧
    (fD bs ≤ 8 → n = (pal bs).length ∧ Ow w.heap.size u.heap.size u q n c 4 (cos (pal bs)))
section
variable {w : World} {p : Option Addr} {len cap : Nat} {bs : List Int}
/-- masks that stand in the file -/
theorem mask_loop {w13 : World} {k1 k2 fb N : Nat} {R : Ending → World → Prop} {I : World → Prop} (h : By w p len bs) (hT : Tab w) (ok : HdOk bs) (hN : N = mN bs) (hp : ¬ fP bs < 3)
    (hS : Opn w w13 k1 k2 fb (.slice p len cap) false (fl (.slice p len cap) (fW bs) (fH bs) (fN bs) (fD bs) (fP bs) (fA bs) 0 0 0 0 (.slice none 0 0)))
    (bad : mkOk bs = false → ∀ u, Ext w u → R (.returned (.tuple #[.pointer none, i64 9])) u)
    (good : mkOk bs = true → ∀ u, Opn w u k1 k2 fb (.slice p len cap) false (fl (.slice p len cap) (fW bs) (fH bs) (fN bs) (fD bs) (fP bs) (fA bs) (gM bs 0 : Nat) (gM bs 1 : Nat) (gM bs 2 : Nat) (gM bs 3 : Nat) (.slice none 0 0)) → I u) :
    ∃ (J : List Value → World → Prop) (m : List Value → World → Nat), J [i64 0] w13 ∧ ∀ (n : Int) (w16 : World), J [i64 n] w16 →
      brB (decide (n < (N : Int)))
        (Calls P F.bmp_open_fn1 #[i64 (IntKind.i64.wrap (54 + IntKind.i64.wrap (4 * n))), i64 4, .pointer (some ⟨k1, 0, none⟩), .pointer (some ⟨k2, 0, none⟩)] w16.drew fun e w17 =>
          ∃ x : Int, e = .returned (i64 x) ∧ 0 ≤ n ∧ n < 4 ∧ (∃ v, w17.cell? ((⟨fb, 7, none⟩ : Addr).add (n.toNat * 1)) = some v) ∧ w17.frozen? ((⟨fb, 7, none⟩ : Addr).add (n.toNat * 1)) = false ∧
            J [i64 (IntKind.i64.wrap (n + 1))] (setCells w17 ((⟨fb, 7, none⟩ : Addr).add (n.toNat * 1)) [u32 (IntKind.u32.wrap x)] 0) ∧
            m [i64 (IntKind.i64.wrap (n + 1))] (setCells w17 ((⟨fb, 7, none⟩ : Addr).add (n.toNat * 1)) [u32 (IntKind.u32.wrap x)] 0) < m [i64 n] w16)
        (∃ c : Bool, w16.cell? ⟨k2, 0, none⟩ = some (.bool c) ∧ brB c (R (.returned (.tuple #[.pointer none, i64 9])) w16)
          (∃ y : Int, w16.cell? ⟨fb, 5, none⟩ = some (i64 y) ∧ brB (y == 6)
            (brB (fS bs == 52) (R (.returned (.tuple #[.pointer none, i64 9])) w16)
              (Calls P F.bmp_file_masked #[.pointer (some ⟨fb, 0, none⟩)] w16 fun e w18 => ∃ c : Bool, e = .returned (.bool c) ∧ brB (!c) (R (.returned (.tuple #[.pointer none, i64 9])) w18) (I w18)))
            (Calls P F.bmp_file_masked #[.pointer (some ⟨fb, 0, none⟩)] w16 fun e w18 => ∃ c : Bool, e = .returned (.bool c) ∧ brB (!c) (R (.returned (.tuple #[.pointer none, i64 9])) w18) (I w18)))) := by
  have hmN : mN bs = 3 ∨ mN bs = 4 := by unfold mN; split <;> simp
  have hln := h.ln
  have hlim := h.lim
  have hmk : mkOk bs = (!decide (fP bs = 6 ∧ fS bs = 52) && decide (54 + 4 * mN bs ≤ bs.length) && chkM (fD bs) (gM bs) 4 0 0) := by unfold mkOk; rw [if_neg hp]
  subst hN
  refine ⟨fun vs u => ∃ (n : Nat) (m : Bool) (x0 x1 x2 x3 : Int), vs = [i64 n] ∧ n ≤ mN bs ∧ Opn w u k1 k2 fb (.slice p len cap) m (fl (.slice p len cap) (fW bs) (fH bs) (fN bs) (fD bs) (fP bs) (fA bs) x0 x1 x2 x3 (.slice none 0 0)) ∧
      (m = true → ¬ 54 + 4 * mN bs ≤ bs.length) ∧ (m = false → (0 < n → 54 + 4 * n ≤ bs.length) ∧ x0 = (mLst bs n).getD 0 0 ∧ x1 = (mLst bs n).getD 1 0 ∧ x2 = (mLst bs n).getD 2 0 ∧ x3 = (mLst bs n).getD 3 0),
    fun vs _ => match vs with | [.int _ n] => (5 - n).toNat | _ => 0, ⟨0, false, 0, 0, 0, 0, rfl, by omega, hS, (fun h => by cases h), fun _ => ⟨by omega, rfl, rfl, rfl, rfl⟩⟩, fun n0 w16 hI => ?_⟩
  obtain ⟨n, m, x0, x1, x2, x3, hv, hn, hS, hm1, hm0⟩ := hI
  obtain rfl : n0 = n := by simpa using hv
  refine brB_i (fun hb => ?_) fun hb => ?_
  · have hb : n < mN bs := by simp at hb; omega
    rw [w64 (x := 4 * (n : Int)) (by omega) (by omega), w64 (x := 54 + 4 * (n : Int)) (by omega) (by omega), w64 (x := (n : Int) + 1) (by omega) (by omega)]
    have hSd := hS.dr
    have hms : (5 - ((n : Int) + 1)).toNat < (5 - (n : Int)).toNat := by omega
    have hadd : (⟨fb, 7, none⟩ : Addr).add ((n : Int).toNat * 1) = ⟨fb, 7 + n, none⟩ := by rw [loc_add]; congr 1; omega
    rw [hadd]
    have hlen7 : 7 + n < (fl (.slice p len cap) (fW bs) (fH bs) (fN bs) (fD bs) (fP bs) (fA bs) x0 x1 x2 x3 (.slice none 0 0)).length := by show 7 + n < 12; omega
    refine num_s (h.ext hSd.ext) hSd.c1 hSd.c2 (fun he u hc hcs => ?_) fun hne u hc hcs => ?_
    · have ht := thereE_0 he
      have hSu := hSd.chg hc hcs
      obtain ⟨s1, s2, s3⟩ := hSu.set (v := u32 (IntKind.u32.wrap (litN bs (54 + 4 * (n : Int)).toNat (4 : Int).toNat))) hlen7
      refine ⟨_, rfl, by omega, by omega, s1, s2, ?_, hms⟩
      have el : litN bs (54 + 4 * (n : Int)).toNat (4 : Int).toNat = litN bs (54 + 4 * n) 4 := by congr 1
      have hl := lit_u32 h.fit (54 + 4 * n) 4 (by omega)
      rw [el, wu32 (by omega) (by omega)] at s3 ⊢
      cases m with
      | true =>
        obtain ⟨y0, y1, y2, y3, e⟩ := fl_set' (sl := .slice p len cap) (pal := .slice none 0 0) (W := fW bs) (H := fH bs) (dn := fN bs) (d := fD bs) (pk := fP bs) (a := fA bs) (m0 := x0) (m1 := x1) (m2 := x2) (m3 := x3) (v := litN bs (54 + 4 * n) 4) (i := n) (by omega)
        rw [e] at s3
        exact ⟨n + 1, true, y0, y1, y2, y3, rfl, by omega, s3, hm1, fun h => by cases h⟩
      | false =>
        obtain ⟨hin, rfl, rfl, rfl, rfl⟩ := hm0 rfl
        rw [fl_set (by omega)] at s3
        exact ⟨n + 1, false, _, _, _, _, rfl, by omega, s3, hm1, fun _ => ⟨by omega, rfl, rfl, rfl, rfl⟩⟩
    · have hSu := hSd.chg hc hcs
      obtain ⟨s1, s2, s3⟩ := hSu.set (v := u32 (IntKind.u32.wrap 0)) hlen7
      refine ⟨_, rfl, by omega, by omega, s1, s2, ?_, hms⟩
      obtain ⟨y0, y1, y2, y3, e⟩ := fl_set' (sl := .slice p len cap) (pal := .slice none 0 0) (W := fW bs) (H := fH bs) (dn := fN bs) (d := fD bs) (pk := fP bs) (a := fA bs) (m0 := x0) (m1 := x1) (m2 := x2) (m3 := x3) (v := IntKind.u32.wrap 0) (i := n) (by omega)
      rw [e] at s3
      refine ⟨n + 1, true, y0, y1, y2, y3, rfl, by omega, s3, fun _ hx => hne ?_, fun h => by cases h⟩
      unfold thereE; rw [if_neg (by omega), if_neg (by omega)]
  · have hb : n = mN bs := by simp at hb; omega
    subst hb
    cases m with
    | true => exact ⟨true, hS.c2.cell (i := 0) rfl, brB_t rfl (bad (by rw [hmk, decide_eq_false (hm1 rfl)]; simp) _ hS.ext)⟩
    | false =>
      obtain ⟨hin, rfl, rfl, rfl, rfl⟩ := hm0 rfl
      have hin := hin (by omega)
      have e : ∀ k : Nat, k < 4 → (mLst bs (mN bs)).getD k 0 = (gM bs k : Nat) := fun k hk => by
        rw [(gM_lt h.fit k).2]; unfold mkI; rw [if_neg hp]; exact mLst_getD hk
      rw [e 0 (by omega), e 1 (by omega), e 2 (by omega), e 3 (by omega)] at hS
      rw [decide_eq_true hin, Bool.and_true] at hmk
      have fin : ¬ (fP bs = 6 ∧ fS bs = 52) → Calls P F.bmp_file_masked #[.pointer (some ⟨fb, 0, none⟩)] w16 fun e w18 => ∃ c : Bool, e = .returned (.bool c) ∧ brB (!c) (R (.returned (.tuple #[.pointer none, i64 9])) w18) (I w18) := fun hx => by
        rw [decide_eq_false hx] at hmk
        refine masked_spec hS.cf (hT.ext hS.ext) (fun i => (gM_lt h.fit i).1) fun u hu => ⟨_, rfl, brB_i (fun hc => bad ?_ _ (hS.ext.trans hu)) fun hc => good ?_ _ (hS.step hu)⟩
        · rw [hmk]; simpa using hc
        · rw [hmk]; simpa using hc
      refine ⟨false, hS.c2.cell (i := 0) rfl, brB_f rfl ⟨_, hS.cf.cell (i := 5) rfl, brB_i (fun h6 => brB_i (fun h52 => bad ?_ _ hS.ext) fun h52 => fin (by simp at h52; omega)) fun h6 => fin (by simp at h6; omega)⟩⟩
      rw [hmk, decide_eq_true ⟨by simpa using h6, by simpa using h52⟩]; rfl
end
end Go.Proofs.YtjdljddfiddnoaaDoor
