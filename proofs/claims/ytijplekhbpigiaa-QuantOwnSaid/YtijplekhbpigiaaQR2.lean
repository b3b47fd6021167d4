/- Raster: the document's pixels; alike; a pixel more. -/
import Derived.Test.YtijplekhbpigiaaQR1
namespace Go.Proofs.Ytijplekhbpigiaa
open Go Go.Vc Go.RowKit
set_option maxRecDepth 100000
set_option linter.unusedVariables false
set_option linter.unusedSimpArgs false

theorem getE {N : Nat} {w : World} {p : Option Addr} {len : Nat} {xs : List Int} (h : Sl N w p (px xs)) (hl : len = xs.length) {i : Int} (h0 : 0 ≤ i) (h1 : i < len) {F : Addr → Prop}
    (hF : ∀ a, (∀ u, Ext w u → u.cell? a = some (u16 (xs.getD i.toNat 0))) → F a) : idx p len i 1 F := by
  obtain ⟨a, e1, e2, e3⟩ := h i.toNat _ (px_get (by omega))
  refine ⟨h0, h1, a, e1, hF _ fun u hE => ?_⟩
  rw [Nat.mul_one]; exact hE.cell e3
theorem refPixel_spec {w : World} {p : Option Addr} {len cap : Nat} {W H x y : Int} {xs : List Int} {R : Ending → World → Prop} (h : Img w p len xs) (hg : good W H xs = true) (hx0 : 0 ≤ x) (hy0 : 0 ≤ y) (hx : x < W) (hy : y < H)
    (hR : ∀ w', Ext w w' → R (.returned (.agg (co (colAt xs (y * W + x).toNat)).toArray)) w') : Calls P F.ref09_Pixel #[.agg #[i64 W, i64 H, .slice p len cap], i64 x, i64 y] w R := by
  refine calls_ref09_Pixel _ _ _ _ _ _ _ _ _ ?_
  intro k1 hk1 k2 hk2
  simp only [good, Bool.and_eq_true, decide_eq_true_eq] at hg
  obtain ⟨p0, p1, p2, p3, p4⟩ := pixAt hg.1 hg.2 hx0 hy0 hx hy
  have hl := h.len
  rw [p3, p4, w64 (x := 4 * (y * W + x) + 1) (by omega) (by omega), w64 (x := 4 * (y * W + x) + 2) (by omega) (by omega), w64 (x := 4 * (y * W + x) + 3) (by omega) (by omega)]
  refine getE h.sl hl (by omega) (by omega) fun a1 c1 w1 hL1 => ?_
  have hE1 : Ext w w1 := hL1.ext (by simp; omega)
  refine ⟨_, c1 _ hE1, getE h.sl hl (by omega) (by omega) fun a2 c2 => ⟨_, c2 _ hE1, getE h.sl hl (by omega) (by omega) fun a3 c3 => ⟨_, c3 _ hE1, getE h.sl hl (by omega) (by omega) fun a4 c4 => ⟨_, c4 _ hE1, fun w2 hL2 => ?_⟩⟩⟩⟩
  have := hR w2 (hE1.step hL2.chg (by simp; omega))
  rw [show (4 * (y * W + x)).toNat = 4 * (y * W + x).toNat by omega, show (4 * (y * W + x) + 1).toNat = 4 * (y * W + x).toNat + 1 by omega, show (4 * (y * W + x) + 2).toNat = 4 * (y * W + x).toNat + 2 by omega, show (4 * (y * W + x) + 3).toNat = 4 * (y * W + x).toNat + 3 by omega]
  exact this
def isAt (W H : Int) (xs : List Int) (x y : Int) : Bool := good W H xs && decide (0 ≤ x ∧ 0 ≤ y ∧ x < W ∧ y < H)
def zeroC : Co := (0, 0, 0, 0)
def atC (W H : Int) (xs : List Int) (x y : Int) : Co := if isAt W H xs x y then colAt xs (y * W + x).toNat else zeroC
theorem isAtB {W H x y : Int} {xs : List Int} : (!good W H xs || decide (x < 0) || decide (y < 0) || decide (x ≥ W) || decide (y ≥ H)) = !isAt W H xs x y := by
  unfold isAt
  cases good W H xs <;> rw [Bool.eq_iff_iff] <;> simp <;> omega
/-- the loop that holds two rows of samples against each other -/
theorem px_loop {N M : Nat} {w : World} {a b : Option Addr} {la lb : Nat} {xs ys : List Int} {S : World → Prop} {f : World → Prop} {t : World → Prop}
    (ha : Sl N w a (px xs)) (hb : Sl M w b (px ys)) (hla : la = xs.length) (hlb : lb = ys.length) (heq : la = lb) (h62 : la < 2 ^ 62) (hS : ∀ u, S u → Ext w u)
    (hf : ∀ u, Ext w u → xs ≠ ys → f u) (ht : ∀ u, Ext w u → xs = ys → t u) :
    ∃ (I : List Value → World → Prop) (m : List Value → World → Nat), (∀ u, S u → I [i64 0] u) ∧ ∀ (n : Int) (w1 : World), I [i64 n] w1 → brB (decide (n < (la : Int)))
      (idx a la n 1 fun a1 => ∃ n2 : Int, (w1.drew.cell? a1 = some (u16 n2)) ∧ idx b lb n 1 fun a2 => ∃ n3 : Int, (w1.drew.cell? a2 = some (u16 n3)) ∧
        brB (n2 != n3) (f w1.drew) ((I [i64 (IntKind.i64.wrap (n + 1))] w1.drew) ∧ m [i64 (IntKind.i64.wrap (n + 1))] w1.drew < m [i64 n] w1)) (t w1) := by
  have hlen : xs.length = ys.length := by omega
  refine ⟨fun vs w' => match vs with | [.int _ i] => 0 ≤ i ∧ i ≤ la ∧ Ext w w' ∧ ∀ j : Nat, (j : Int) < i → xs.getD j 0 = ys.getD j 0 | _ => False,
    fun vs _ => match vs with | [.int _ i] => (la - i).toNat | _ => 0, fun u hu => ⟨Int.le_refl _, by omega, hS u hu, fun j hj => by omega⟩, fun n w1 hI => ?_⟩
  obtain ⟨h0, h1, hE, hj⟩ := hI
  refine brB_i (fun hlt => ?_) (fun hge => ?_)
  · have hlt : n < la := by simpa using hlt
    refine (ha.ext hE).drew.get h0 (by rw [px_length]; omega) (px_get (by omega)) fun a1 hc1 => ⟨_, hc1, ?_⟩
    refine (hb.ext hE).drew.get h0 (by rw [px_length]; omega) (px_get (by omega)) fun a2 hc2 => ⟨_, hc2, ?_⟩
    refine brB_i (fun hne => ?_) (fun heq => ?_)
    · exact hf _ hE.drew (fun e => by subst e; simp at hne)
    · have heq : xs.getD n.toNat 0 = ys.getD n.toNat 0 := by simpa using heq
      rw [w64 (by omega) (by omega)]
      refine ⟨⟨by omega, by omega, hE.drew, fun j hj' => ?_⟩, ?_⟩
      · by_cases hjn : (j : Int) < n
        · exact hj j hjn
        · rw [show j = n.toNat by omega]; exact heq
      · show (la - (n + 1)).toNat < (la - n).toNat
        omega
  · have hge : n = la := by simp at hge; omega
    refine ht _ hE (List.ext_getElem hlen fun j h1 h2 => ?_)
    have := hj j (by omega)
    simpa [List.getD, h1, h2] using this
def same (W H W' H' : Int) (xs ys : List Int) : Bool := decide (W = W' ∧ H = H' ∧ xs = ys)
theorem refSame_spec {w : World} {a b : Option Addr} {la ca lb cb : Nat} {W H W' H' : Int} {xs ys : List Int} {R : Ending → World → Prop} (ha : Img w a la xs) (hb : Img w b lb ys) (h62 : la < 2 ^ 62)
    (hR : ∀ w', Ext w w' → R (.returned (.bool (same W H W' H' xs ys))) w') : Calls P F.ref09_Same #[.agg #[i64 W, i64 H, .slice a la ca], .agg #[i64 W', i64 H', .slice b lb cb]] w R := by
  refine calls_ref09_Same _ _ _ _ _ _ _ _ _ _ _ _ ?_
  intro k1 hk1 k2 hk2
  refine brB_i (fun he w1 hL1 => ?_) (fun he => ?_)
  · have hE1 : Ext w w1 := hL1.ext (by simp; omega)
    refine to_bool (hR w1 hE1) ?_
    have h1 := ha.len
    have h2 := hb.len
    simp only [Bool.or_eq_true, bne_iff_ne, ne_eq] at he
    simp only [same, decide_eq_false_iff_not]
    rintro ⟨rfl, rfl, rfl⟩
    rcases he with (he | he) | he
    · exact he rfl
    · exact he rfl
    · exact he (by omega)
  · simp only [Bool.or_eq_false_iff, bne_eq_false_iff_eq] at he
    obtain ⟨⟨rfl, rfl⟩, he⟩ := he
    exact px_loop (S := fun u => Locl [k2, k1] w u) (f := fun u => R (.returned (.bool false)) u) (t := fun u => R (.returned (.bool true)) u) ha.sl hb.sl ha.len hb.len (by omega) h62 (fun u hu => hu.ext (by simp; omega))
      (fun u hE hne => to_bool (hR u hE) (by simp [same, hne])) (fun u hE he => to_bool (hR u hE) (by simp [same, he]))
end Go.Proofs.Ytijplekhbpigiaa
