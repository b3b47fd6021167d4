/- Bmp: the document's head. -/
import Derived.Test.YtjdljddfiddnoaaDoorBM2
namespace Go.Proofs.YtjdljddfiddnoaaDoor
open Go Go.Vc Go.RowKit
set_option maxRecDepth 100000
set_option linter.unusedVariables false
set_option linter.unusedSimpArgs false

/-- bytes stand there, and fit -/
structure By (w : World) (p : Option Addr) (len : Nat) (bs : List Int) : Prop where
  sl : Sl w.heap.size w p (bytes bs)
  ln : len = bs.length
  lim : len ≤ 2 ^ 47
  fit : Bs bs
theorem By.ext {w w' : World} {p : Option Addr} {len : Nat} {bs : List Int} (h : By w p len bs) (hE : Ext w w') : By w' p len bs := ⟨(h.sl.ext hE).up, h.ln, h.lim, h.fit⟩
theorem By.get {w : World} {p : Option Addr} {len : Nat} {bs : List Int} (h : By w p len bs) {i : Int} (h0 : 0 ≤ i) (h1 : i < len) {F : Addr → Prop}
    (hF : ∀ a, w.cell? a = some (u8 (bs.getD i.toNat 0)) → F a) : idx p len i 1 F := by
  have hlt : i.toNat < bs.length := by have := h.ln; omega
  obtain ⟨a, e, _, hc⟩ := h.sl _ _ (bytes_get hlt)
  exact idx_i h0 h1 e (hF _ (by rw [Nat.mul_one]; exact hc))
theorem lit_range {bs : List Int} (h : Bs bs) (a n : Nat) : 0 ≤ litN bs a n ∧ litN bs a n < 256 ^ n := litN_range h n a
theorem lit_u32 {bs : List Int} (h : Bs bs) (a n : Nat) (hn : n ≤ 4) : 0 ≤ litN bs a n ∧ litN bs a n < 4294967296 := by
  have := lit_range h a n
  have hp : (256 : Int) ^ n ≤ 2 ^ 32 := pow32 hn
  omega
theorem num_spec {w : World} {p : Option Addr} {len cap : Nat} {bs : List Int} {a n v : Int} {R : Ending → World → Prop} (h : By w p len bs) (n1 : 1 ≤ n) (n4 : n ≤ 4) (a0 : 0 ≤ a) (a1 : a + n ≤ len) (hv : litN bs a.toNat n.toNat = v) (hR : R (.returned (i64 v)) w) :
    Calls P F.ref11_num #[.slice p len cap, i64 a, i64 n] w R := by
  refine calls_ref11_num _ _ _ _ _ _ _ ?_
  unfold vc_ref11_num
  refine refGet_spec h.sl h.ln h.lim h.fit (fun hn => ?_) (fun _ => ⟨_, _, rfl, ?_⟩)
  · exact (hn (by unfold thereE; rw [if_neg (by omega), if_neg (by omega)])).elim
  · have := lit_u32 h.fit a.toNat n.toNat (by omega)
    have e : getV bs a.toNat n.toNat false = litN bs a.toNat n.toNat := rfl
    rw [e, w64 (by omega) (by omega), hv]; exact hR
def sg (v : Int) : Int := if v ≥ 2147483648 then v - 4294967296 else v
theorem signed_spec {w : World} {p : Option Addr} {len cap : Nat} {bs : List Int} {a v : Int} {R : Ending → World → Prop} (h : By w p len bs) (a0 : 0 ≤ a) (a1 : a + 4 ≤ len) (hv : sg (litN bs a.toNat 4) = v) (hR : R (.returned (i64 v)) w) :
    Calls P F.ref11_signed #[.slice p len cap, i64 a] w R := by
  refine calls_ref11_signed _ _ _ _ _ _ ?_
  unfold vc_ref11_signed
  refine num_spec h (by omega) (by omega) a0 a1 rfl ⟨_, rfl, ?_⟩
  have := lit_u32 h.fit a.toNat 4 (by omega)
  show brB (decide (litN bs a.toNat 4 ≥ 2147483648)) (R (.returned (i64 (IntKind.i64.wrap (litN bs a.toNat 4 - 4294967296)))) w) (R (.returned (i64 (litN bs a.toNat 4))) w)
  unfold sg at hv
  refine brB_i (fun hb => ?_) fun hb => ?_
  · rw [if_pos (by simpa using hb)] at hv; rw [w64 (by omega) (by omega), hv]; exact hR
  · rw [if_neg (by simpa using hb)] at hv; rw [hv]; exact hR

/-! ## What a head says -/
abbrev fS (bs : List Int) : Int := litN bs 14 4
abbrev fW (bs : List Int) : Int := sg (litN bs 18 4)
abbrev fG (bs : List Int) : Int := sg (litN bs 22 4)
abbrev fD (bs : List Int) : Int := litN bs 28 2
abbrev fP (bs : List Int) : Int := litN bs 30 4
abbrev fA (bs : List Int) : Int := litN bs 10 4
abbrev fC (bs : List Int) : Int := litN bs 46 4
def fH (bs : List Int) : Int := if fG bs < 0 then - fG bs else fG bs
def fN (bs : List Int) : Bool := decide (fG bs < 0)
/-- why a head may not be -/
def hdE (len x0 x1 s w h one d pk c pw : Int) : Int :=
  if len < 18 ∨ x0 ≠ 66 ∨ x1 ≠ 77 then 9 else
  if s = 12 ∨ s = 16 ∨ s = 64 then 10 else
  if (s ≠ 40 ∧ s ≠ 52 ∧ s ≠ 56 ∧ s ≠ 108 ∧ s ≠ 124) ∨ len < 14 + s then 9 else
  if w < 1 ∨ h = 0 ∨ one ≠ 1 then 9 else
  if d ≠ 1 ∧ d ≠ 4 ∧ d ≠ 8 ∧ d ≠ 16 ∧ d ≠ 24 ∧ d ≠ 32 then 9 else
  if pk = 4 ∨ pk = 5 then 10 else
  if (pk ≠ 0 ∧ ¬ (pk = 1 ∧ d = 8 ∨ pk = 2 ∧ d = 4) ∧ ¬ ((pk = 3 ∨ pk = 6) ∧ (d = 16 ∨ d = 32))) ∨ ((pk = 1 ∧ d = 8 ∨ pk = 2 ∧ d = 4) ∧ h < 0) then 9 else
  if d ≤ 8 ∧ c > pw then 9 else 0
def hE (bs : List Int) : Int := hdE bs.length (bs.getD 0 0) (bs.getD 1 0) (fS bs) (fW bs) (fG bs) (litN bs 26 2) (fD bs) (fP bs) (fC bs) (2 ^ (fD bs).toNat)
/-- what is so, if it may -/
structure HdOk (bs : List Int) : Prop where
  len : 18 ≤ bs.length
  x0 : bs.getD 0 0 = 66
  x1 : bs.getD 1 0 = 77
  s : fS bs = 40 ∨ fS bs = 52 ∨ fS bs = 56 ∨ fS bs = 108 ∨ fS bs = 124
  all : 14 + fS bs ≤ bs.length
  w : 1 ≤ fW bs
  h : fG bs ≠ 0
  one : litN bs 26 2 = 1
  d : fD bs = 1 ∨ fD bs = 4 ∨ fD bs = 8 ∨ fD bs = 16 ∨ fD bs = 24 ∨ fD bs = 32
  pk : fP bs = 0 ∨ (fP bs = 1 ∧ fD bs = 8 ∧ 0 < fG bs) ∨ (fP bs = 2 ∧ fD bs = 4 ∧ 0 < fG bs) ∨ ((fP bs = 3 ∨ fP bs = 6) ∧ (fD bs = 16 ∨ fD bs = 32))
  c : fD bs ≤ 8 → fC bs ≤ 2 ^ (fD bs).toNat
theorem hdE_0 {len x0 x1 s w h one d pk c pw : Int} (e : hdE len x0 x1 s w h one d pk c pw = 0) :
    18 ≤ len ∧ x0 = 66 ∧ x1 = 77 ∧ (s = 40 ∨ s = 52 ∨ s = 56 ∨ s = 108 ∨ s = 124) ∧ 14 + s ≤ len ∧ 1 ≤ w ∧ h ≠ 0 ∧ one = 1 ∧ (d = 1 ∨ d = 4 ∨ d = 8 ∨ d = 16 ∨ d = 24 ∨ d = 32) ∧
      (pk = 0 ∨ (pk = 1 ∧ d = 8 ∧ 0 < h) ∨ (pk = 2 ∧ d = 4 ∧ 0 < h) ∨ ((pk = 3 ∨ pk = 6) ∧ (d = 16 ∨ d = 32))) ∧ (d ≤ 8 → c ≤ pw) := by
  unfold hdE at e
  by_cases c1 : len < 18 ∨ x0 ≠ 66 ∨ x1 ≠ 77
  · rw [if_pos c1] at e; exact absurd e (by decide)
  rw [if_neg c1] at e
  by_cases c2 : s = 12 ∨ s = 16 ∨ s = 64
  · rw [if_pos c2] at e; exact absurd e (by decide)
  rw [if_neg c2] at e
  by_cases c3 : (s ≠ 40 ∧ s ≠ 52 ∧ s ≠ 56 ∧ s ≠ 108 ∧ s ≠ 124) ∨ len < 14 + s
  · rw [if_pos c3] at e; exact absurd e (by decide)
  rw [if_neg c3] at e
  by_cases c4 : w < 1 ∨ h = 0 ∨ one ≠ 1
  · rw [if_pos c4] at e; exact absurd e (by decide)
  rw [if_neg c4] at e
  by_cases c5 : d ≠ 1 ∧ d ≠ 4 ∧ d ≠ 8 ∧ d ≠ 16 ∧ d ≠ 24 ∧ d ≠ 32
  · rw [if_pos c5] at e; exact absurd e (by decide)
  rw [if_neg c5] at e
  by_cases c6 : pk = 4 ∨ pk = 5
  · rw [if_pos c6] at e; exact absurd e (by decide)
  rw [if_neg c6] at e
  by_cases c7 : (pk ≠ 0 ∧ ¬ (pk = 1 ∧ d = 8 ∨ pk = 2 ∧ d = 4) ∧ ¬ ((pk = 3 ∨ pk = 6) ∧ (d = 16 ∨ d = 32))) ∨ ((pk = 1 ∧ d = 8 ∨ pk = 2 ∧ d = 4) ∧ h < 0)
  · rw [if_pos c7] at e; exact absurd e (by decide)
  rw [if_neg c7] at e
  by_cases c8 : d ≤ 8 ∧ c > pw
  · rw [if_pos c8] at e; exact absurd e (by decide)
  exact ⟨by omega, by omega, by omega, by omega, by omega, by omega, by omega, by omega, by omega, by omega, by omega⟩
theorem HdOk.of {bs : List Int} (h : hE bs = 0) : HdOk bs := by
  obtain ⟨a1, a2, a3, a4, a5, a6, a7, a8, a9, a10, a11⟩ := hdE_0 h
  exact ⟨by omega, a2, a3, a4, a5, a6, a7, a8, a9, a10, a11⟩
theorem pow_shl {d : Int} (h : d = 1 ∨ d = 4 ∨ d = 8) : shiftZ .shl .i64 1 d = 2 ^ d.toNat ∧ IntKind.u64.wrap d = d ∧ 0 ≤ d := by
  rcases h with rfl | rfl | rfl <;> decide
theorem fields_spec {w : World} {p : Option Addr} {len cap : Nat} {bs : List Int} {R : Ending → World → Prop} (h : By w p len bs)
    (h1 : hE bs ≠ 0 → ∀ a b c d e f s w', Ext w w' → R (.returned (.tuple #[.agg #[i64 a, i64 b, .bool c, i64 d, i64 e, i64 f, u32 0, u32 0, u32 0, u32 0, .slice none 0 0], i64 s, i64 (hE bs)])) w')
    (h2 : hE bs = 0 → ∀ w', Ext w w' → R (.returned (.tuple #[.agg #[i64 (fW bs), i64 (fH bs), .bool (fN bs), i64 (fD bs), i64 (fP bs), i64 (fA bs), u32 0, u32 0, u32 0, u32 0, .slice none 0 0], i64 (fS bs), i64 0])) w') :
    Calls P F.ref11_fields #[.slice p len cap] w R := by
  refine calls_ref11_fields _ _ _ _ _ ?_
  unfold vc_ref11_fields
  intro k1 hk1 k2 hk2
  have hlen := h.ln
  have L : ∀ e : Int, hE bs = e → e ≠ 0 → ∀ a b c d e2 f s w', Ext w w' → R (.returned (.tuple #[.agg #[i64 a, i64 b, .bool c, i64 d, i64 e2, i64 f, u32 0, u32 0, u32 0, u32 0, .slice none 0 0], i64 s, i64 e])) w' :=
    fun e he h0 => by subst he; exact h1 h0
  have lx : ∀ {u u' : World}, Ext w u → Locl [k2, k1] u u' → Ext w u' := fun hE hL => hE.step hL.chg fun i hi => by simp at hi; rcases hi with rfl | rfl <;> assumption
  have kp : ∀ {u : World}, Keep [k2, k1] u u := fun {u} => (Ext.refl u).keep _
  unfold hE hdE at L h2
  refine brB_i (fun hb w1 hL1 => L 9 (by rw [if_pos]; have : (len : Int) < 18 := by simpa using hb
                                         omega) (by decide) _ _ _ _ _ _ _ _ (lx (Ext.refl w) hL1)) fun hb => ?_
  have hb : ¬ (len : Int) < 18 := by simpa using hb
  refine h.get (by omega) (by omega) fun a1 ha1 w2 hL2 => ⟨_, (lx (Ext.refl w) hL2).cell ha1, ?_⟩
  have hE2 := lx (Ext.refl w) hL2
  have hB2 := h.ext hE2
  rw [show (0 : Int).toNat = 0 by rfl]
  refine brB_i (fun hc w3 hL3 => L 9 (by rw [if_pos]; have : bs.getD 0 0 ≠ 66 := by simpa using hc
                                         omega) (by decide) _ _ _ _ _ _ _ _ (lx hE2 hL3)) fun hc => ?_
  have hc : bs.getD 0 0 = 66 := by simpa using hc
  refine hB2.get (by omega) (by omega) fun a2 ha2 => ⟨_, ha2, ?_⟩
  rw [show (1 : Int).toNat = 1 by rfl]
  refine brB_i (fun hd w3 hL3 => L 9 (by rw [if_pos]; have : bs.getD 1 0 ≠ 77 := by simpa using hd
                                         omega) (by decide) _ _ _ _ _ _ _ _ (lx hE2 hL3)) fun hd => ?_
  have hd : bs.getD 1 0 = 77 := by simpa using hd
  rw [if_neg (by omega)] at L h2
  refine num_spec (v := fA bs) hB2 (by omega) (by omega) (by omega) (by omega) rfl ⟨_, rfl, kp, fun w6 hL6 => ?_⟩
  have hE6 := lx hE2 hL6
  have hB6 := h.ext hE6
  refine num_spec (v := fS bs) hB6 (by omega) (by omega) (by omega) (by omega) rfl ⟨_, rfl, kp, ?_⟩
  refine brB_i (fun hs w3 hL3 => L 10 (by rw [if_pos]; simp at hs; omega) (by decide) _ _ _ _ _ _ _ _ (lx hE6 hL3)) fun hs => ?_
  have hs : ¬ (fS bs = 12 ∨ fS bs = 16 ∨ fS bs = 64) := by simp at hs; omega
  rw [if_neg hs] at L h2
  have sr : 0 ≤ fS bs ∧ fS bs < 4294967296 := lit_u32 h.fit 14 4 (by omega)
  rw [w64 (by omega) (by omega)]
  refine brB_i (fun ht w3 hL3 => L 9 (by rw [if_pos]; simp at ht; omega) (by decide) _ _ _ _ _ _ _ _ (lx hE6 hL3)) fun ht => ?_
  have ht : ¬ ((fS bs ≠ 40 ∧ fS bs ≠ 52 ∧ fS bs ≠ 56 ∧ fS bs ≠ 108 ∧ fS bs ≠ 124) ∨ (bs.length : Int) < 14 + fS bs) := by simp at ht; omega
  rw [if_neg ht] at L h2
  refine signed_spec (v := fW bs) hB6 (by omega) (by omega) rfl ⟨_, rfl, kp, ?_⟩
  refine signed_spec (v := fG bs) hB6 (by omega) (by omega) rfl ⟨_, rfl, kp, ?_⟩
  refine num_spec (v := fD bs) hB6 (by omega) (by omega) (by omega) (by omega) rfl ⟨_, rfl, kp, ?_⟩
  refine num_spec (v := fP bs) hB6 (by omega) (by omega) (by omega) (by omega) rfl ⟨_, rfl, kp, ?_⟩
  refine brB_i (fun hu w3 hL3 => L 9 (by rw [if_pos]; simp at hu; omega) (by decide) _ _ _ _ _ _ _ _ (lx hE6 hL3)) fun hu w15 hL15 => ?_
  have hu : ¬ (fW bs < 1 ∨ fG bs = 0) := by simp at hu; omega
  have hE15 := lx hE6 hL15
  have hB15 := h.ext hE15
  refine num_spec (v := litN bs 26 2) hB15 (by omega) (by omega) (by omega) (by omega) rfl ⟨_, rfl, kp, ?_⟩
  refine brB_i (fun hv w3 hL3 => L 9 (by rw [if_pos]; simp at hv; omega) (by decide) _ _ _ _ _ _ _ _ (lx hE15 hL3)) fun hv => ?_
  have hv : litN bs 26 2 = 1 := by simpa using hv
  rw [if_neg (by omega)] at L h2
  have gr : -2147483648 ≤ fG bs ∧ fG bs ≤ 2147483647 := by
    have := lit_u32 h.fit 22 4 (by omega)
    unfold fG sg; split <;> omega
  refine ⟨fun vs w' => vs = [i64 (fW bs), i64 (fH bs), .bool (fN bs), i64 (fD bs), i64 (fP bs), i64 (fA bs), u32 0, u32 0, u32 0, u32 0, .slice none 0 0] ∧ Ext w w', ?_, ?_⟩
  · refine brB_i (fun hg w3 hL3 => ⟨?_, lx hE15 hL3⟩) fun hg => ⟨?_, hE15⟩
    · have hg : fG bs < 0 := by simpa using hg
      rw [w64 (by omega) (by omega)]
      unfold fH fN
      rw [if_pos hg, show (0 - fG bs) = - fG bs by omega, decide_eq_true hg]
    · have hg : ¬ fG bs < 0 := by simpa using hg
      unfold fH fN
      rw [if_neg hg, decide_eq_false hg]
  intro n10 n11 c1 n12 n13 n14 n15 n16 n17 n18 p1 k3 k4 w19 hI
  obtain ⟨hI, hE19⟩ := hI
  simp only [List.cons.injEq, Value.int.injEq, Value.bool.injEq, Value.slice.injEq, true_and, and_true] at hI
  obtain ⟨rfl, rfl, rfl, rfl, rfl, rfl, rfl, rfl, rfl, rfl, rfl, rfl, rfl⟩ := hI
  have hB19 := h.ext hE19
  refine brB_i (fun hb w3 hL3 => L 9 (by rw [if_pos]; simp at hb; omega) (by decide) _ _ _ _ _ _ _ _ (lx hE19 hL3)) fun hb => ?_
  have hdd : fD bs = 1 ∨ fD bs = 4 ∨ fD bs = 8 ∨ fD bs = 16 ∨ fD bs = 24 ∨ fD bs = 32 := by simp at hb; omega
  rw [if_neg (by omega)] at L h2
  refine brB_i (fun hb w3 hL3 => L 10 (by rw [if_pos]; simp at hb; omega) (by decide) _ _ _ _ _ _ _ _ (lx hE19 hL3)) fun hb => ?_
  have hpp : ¬ (fP bs = 4 ∨ fP bs = 5) := by simp at hb; omega
  rw [if_neg hpp] at L h2
  have hnn : fN bs = decide (fG bs < 0) := rfl
  refine ⟨fun vs w' => vs = [.bool (decide (fP bs = 1 ∧ fD bs = 8 ∨ fP bs = 2 ∧ fD bs = 4))] ∧ w' = w19, ?_, ?_⟩
  · refine brB_i (fun hb => ⟨?_, rfl⟩) fun hb => brB_i (fun hc => ⟨?_, rfl⟩) fun hc => ⟨?_, rfl⟩
    · have : fP bs = 1 ∧ fD bs = 8 := by simpa using hb
      rw [decide_eq_true (.inl this)]
    · have hc : fP bs = 2 := by simpa using hc
      congr 2
      rw [Bool.eq_iff_iff]; simp [hc]
    · have hc : fP bs ≠ 2 := by simpa using hc
      have hb : ¬ (fP bs = 1 ∧ fD bs = 8) := by
        intro hx; simp [hx.1, hx.2] at hb
      rw [decide_eq_false (by omega)]
  intro c2 w22 hI
  obtain ⟨hI, rfl⟩ := hI
  simp only [List.cons.injEq, Value.bool.injEq, and_true] at hI
  subst hI
  refine ⟨fun vs w' => vs = [.bool (decide ((fP bs = 3 ∨ fP bs = 6) ∧ (fD bs = 16 ∨ fD bs = 32)))] ∧ w' = w22, ?_, ?_⟩
  · refine brB_i (fun hb => brB_i (fun hc => ⟨?_, rfl⟩) fun hc => ⟨?_, rfl⟩) fun hb => ⟨?_, rfl⟩
    · have hb : fP bs = 3 ∨ fP bs = 6 := by simpa using hb
      have hc : fD bs = 16 := by simpa using hc
      rw [decide_eq_true ⟨hb, .inl hc⟩]
    · have hb : fP bs = 3 ∨ fP bs = 6 := by simpa using hb
      have hc : fD bs ≠ 16 := by simpa using hc
      congr 2
      rw [Bool.eq_iff_iff]; simp [hc]; omega
    · have hb : ¬ (fP bs = 3 ∨ fP bs = 6) := by simp at hb; omega
      rw [decide_eq_false (by omega)]
  intro c3 w23 hI
  obtain ⟨hI, rfl⟩ := hI
  simp only [List.cons.injEq, Value.bool.injEq, and_true] at hI
  subst hI
  refine brB_i (fun hb w3 hL3 => L 9 (by rw [if_pos]; simp at hb; omega) (by decide) _ _ _ _ _ _ _ _ (lx hE19 hL3)) fun hb => ?_
  have hb : ¬ (fP bs ≠ 0 ∧ ¬ (fP bs = 1 ∧ fD bs = 8 ∨ fP bs = 2 ∧ fD bs = 4) ∧ ¬ ((fP bs = 3 ∨ fP bs = 6) ∧ (fD bs = 16 ∨ fD bs = 32))) := by
    intro hx; rw [decide_eq_false hx.2.1, decide_eq_false hx.2.2] at hb; simp at hb; exact hx.1 hb
  have fin : ¬ ((fP bs = 1 ∧ fD bs = 8 ∨ fP bs = 2 ∧ fD bs = 4) ∧ fG bs < 0) →
      brB (decide (fD bs ≤ 8)) (Calls P F.ref11_num #[.slice p len cap, i64 46, i64 4] w23 fun e8 w26 => ∃ n19 : Int, e8 = .returned (i64 n19) ∧ Keep [k2, k1] w23 w26 ∧ 0 ≤ IntKind.u64.wrap (fD bs) ∧
        brB (decide (n19 > shiftZ .shl .i64 1 (IntKind.u64.wrap (fD bs)))) (∀ w27, Locl [k2, k1] w26 w27 → R (.returned (.tuple #[.agg #[i64 (fW bs), i64 (fH bs), .bool (fN bs), i64 (fD bs), i64 (fP bs), i64 (fA bs), u32 0, u32 0, u32 0, u32 0, .slice none 0 0], i64 0, i64 9])) w27)
          (∀ w28, Locl [k2, k1] w26 w28 → R (.returned (.tuple #[.agg #[i64 (fW bs), i64 (fH bs), .bool (fN bs), i64 (fD bs), i64 (fP bs), i64 (fA bs), u32 0, u32 0, u32 0, u32 0, .slice none 0 0], i64 (fS bs), i64 0])) w28))
        (∀ w29, Locl [k2, k1] w23 w29 → R (.returned (.tuple #[.agg #[i64 (fW bs), i64 (fH bs), .bool (fN bs), i64 (fD bs), i64 (fP bs), i64 (fA bs), u32 0, u32 0, u32 0, u32 0, .slice none 0 0], i64 (fS bs), i64 0])) w29) := by
    intro hx
    rw [if_neg (by omega)] at L h2
    refine brB_i (fun hy => ?_) fun hy w29 hL29 => h2 (by rw [if_neg]; simp at hy; omega) w29 (lx hE19 hL29)
    have hy : fD bs ≤ 8 := by simpa using hy
    obtain ⟨e1, e2, e3⟩ := pow_shl (d := fD bs) (by omega)
    refine num_spec (v := fC bs) hB19 (by omega) (by omega) (by omega) (by omega) rfl ⟨_, rfl, kp, by rw [e2]; exact e3, ?_⟩
    rw [e2, e1]
    refine brB_i (fun hz w3 hL3 => L 9 (by rw [if_pos]; exact ⟨hy, by simpa using hz⟩) (by decide) _ _ _ _ _ _ _ _ (lx hE19 hL3)) fun hz w3 hL3 => h2 (by rw [if_neg]; rintro ⟨_, hq⟩; simp at hz; omega) _ (lx hE19 hL3)
  refine brB_i (fun hc => brB_i (fun hg w3 hL3 => L 9 (by rw [if_pos]; simp at hc; simp [fN] at hg; omega) (by decide) _ _ _ _ _ _ _ _ (lx hE19 hL3)) fun hg => fin (by simp [fN] at hg; omega)) fun hc => fin (by simp at hc; omega)
end Go.Proofs.YtjdljddfiddnoaaDoor
