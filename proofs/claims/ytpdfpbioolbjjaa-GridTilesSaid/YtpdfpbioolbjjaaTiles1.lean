/- Tiles: what the program's loop hands out, what the document's list holds, and when lists of parts are alike. -/
import Derived.Test.YtpdfpbioolbjjaaGrid3
import Derived.Test.YtpdfpbioolbjjaaTiles0
namespace Go.Proofs.Ytpdfpbioolbjjaa
open Go Go.Vc Go.RowKit
set_option maxRecDepth 100000
set_option linter.unusedVariables false
set_option linter.unusedSimpArgs false

theorem good_iff {w h tw th : Int} : goodT w h tw th = true ↔ (1 ≤ w ∧ 1 ≤ h ∧ w ≤ 4096 ∧ h ≤ 4096 ∧ w * h ≤ 65536) ∧ 1 ≤ tw ∧ 1 ≤ th := by
  simp [goodT, gfits, and_assoc]
theorem tilesL_bad {w h tw th : Int} (hg : goodT w h tw th = false) : tilesL w h tw th = [] := by simp [tilesL, hg]
theorem mul_next {i : Nat} {t : Int} : (i : Int) * t + t = ((i + 1 : Nat) : Int) * t := by rw [Int.natCast_add, Int.add_mul]; simp
theorem Tiles_iter {w : World} {fr1 fr2 fr3 fr4 : Addr} {yl : Nat} {W H tw th : Int} (J : List Rc → World → Prop) {R : Ending → World → Prop}
    (hJ : ∀ l u, J l u → u.cell? fr1 = some (i64 W) ∧ u.cell? fr2 = some (i64 H) ∧ u.cell? fr3 = some (i64 tw) ∧ u.cell? fr4 = some (i64 th)) (h0 : J [] w) (h0' : J [] w.drew)
    (hy : ∀ l r u, l ++ [r] <+: tilesL W H tw th → J l u → YieldAt Fence.wide 0 P yl #[.agg (rc r).toArray] u (Goes (J (l ++ [r])) R))
    (hend : ∀ u, J (tilesL W H tw th) u → R (.returned (.tuple #[])) u) :
    Calls P F.grid_Tiles_fn1 #[.func (.yield yl) #[] #[], .pointer (some fr1), .pointer (some fr2), .pointer (some fr3), .pointer (some fr4)] w R := by
  refine calls_grid_Tiles_fn1 _ _ _ _ _ _ _ ?_
  obtain ⟨c1, c2, c3, c4⟩ := hJ _ _ h0
  obtain ⟨d1, d2, d3, d4⟩ := hJ _ _ h0'
  have bad : goodT W H tw th = false → R (.returned (.tuple #[])) w := fun hg => hend w (by rw [tilesL_bad hg]; exact h0)
  refine ⟨_, c1, _, c2, fits_spec ⟨_, rfl, brB_i (fun hb => bad ?_) (fun hb => ⟨_, c3, brB_i (fun hb => bad ?_) (fun hb2 => ⟨_, c4, brB_i (fun hb => bad ?_) (fun hb3 => ?_)⟩)⟩)⟩⟩
  · simp at hb; simp [goodT, hb]
  · simp at hb; simp [goodT]; omega
  · simp at hb; simp [goodT]; omega
  have hg : goodT W H tw th = true := by simp at hb hb2 hb3; simp [goodT, hb]; omega
  obtain ⟨⟨h1, h2, h3, h4, h5⟩, h6, h7⟩ := good_iff.1 hg
  have htl : tilesL W H tw th = rowsT W H (min tw W) (min th H) (cnt H (min th H)) := by rw [tilesL, if_pos hg]
  have ht : 1 ≤ min tw W := by omega
  have hth : 1 ≤ min th H := by omega
  refine ⟨_, d3, _, d1, _, d4, _, d2, fun vs u => match vs with | [.int _ y] => ∃ j : Nat, y = (j : Int) * min th H ∧ j ≤ cnt H (min th H) ∧ J (preT W H (min tw W) (min th H) j 0) u | _ => False,
    fun vs _ => match vs with | [.int _ y] => (H + 4096 - y).toNat | _ => 0, ⟨0, by simp, Nat.zero_le _, h0'⟩, fun y u hI => ?_⟩
  obtain ⟨j, rfl, hj, hI⟩ := hI
  refine ⟨_, (hJ _ _ hI).2.1, brB_i (fun hlt => ?_) (fun hge => ?_)⟩
  · have hlt : (j : Int) * min th H < H := by simpa using hlt
    have hj' := (cnt_lt hth h2 j).1 hlt
    have hj0 : 0 ≤ (j : Int) * min th H := Int.mul_nonneg (by omega) (by omega)
    refine ⟨fun vs u => match vs with | [.int _ x] => ∃ i : Nat, x = (i : Int) * min tw W ∧ i ≤ cnt W (min tw W) ∧ J (preT W H (min tw W) (min th H) j i) u | _ => False,
      fun vs _ => match vs with | [.int _ x] => (W + 4096 - x).toNat | _ => 0, ⟨0, by simp, Nat.zero_le _, hI⟩, fun x u hI => ?_⟩
    obtain ⟨i, rfl, hi, hI⟩ := hI
    obtain ⟨e1, e2, e3, e4⟩ := hJ _ _ hI
    refine ⟨_, e1, brB_i (fun hlt2 => ?_) (fun hge2 => ?_)⟩
    · have hlt2 : (i : Int) * min tw W < W := by simpa using hlt2
      have hi' := (cnt_lt ht h1 i).1 hlt2
      have hi0 : 0 ≤ (i : Int) * min tw W := Int.mul_nonneg (by omega) (by omega)
      refine ⟨_, e1, _, e2, ?_⟩
      rw [w64 (x := W - (i : Int) * min tw W) (by omega) (by omega), w64 (x := H - (j : Int) * min th H) (by omega) (by omega), w64 (x := (i : Int) * min tw W + min tw W) (by omega) (by omega), mul_next]
      have hyy := hy (preT W H (min tw W) (min th H) j i) (rectAt W H (min tw W) (min th H) j i) u (by rw [htl, ← preT_succ]; exact preT_prefix hj' hi') hI
      rw [← preT_succ] at hyy
      dsimp only [rc, rectAt] at hyy
      refine yield_mono hyy fun e u' he => ?_
      rcases he with ⟨rfl, he⟩ | ⟨rfl, he⟩
      · refine ⟨_, rfl, brB_f rfl ⟨⟨i + 1, rfl, hi', he⟩, ?_⟩⟩
        show (W + 4096 - ((i + 1 : Nat) : Int) * min tw W).toNat < (W + 4096 - (i : Int) * min tw W).toNat
        rw [← mul_next]; omega
      · exact ⟨_, rfl, brB_t rfl he⟩
    · have hge2 : ¬ ((i : Int) * min tw W < W) := by simpa using hge2
      have hie : i = cnt W (min tw W) := by
        have : ¬ i < cnt W (min tw W) := fun h => hge2 ((cnt_lt ht h1 i).2 h)
        omega
      subst hie
      rw [preT_row] at hI
      rw [w64 (x := (j : Int) * min th H + min th H) (by omega) (by omega), mul_next]
      refine ⟨⟨j + 1, rfl, hj', hI⟩, ?_⟩
      show (H + 4096 - ((j + 1 : Nat) : Int) * min th H).toNat < (H + 4096 - (j : Int) * min th H).toNat
      rw [← mul_next]; omega
  · have hge : ¬ ((j : Int) * min th H < H) := by simpa using hge
    have hje : j = cnt H (min th H) := by
      have : ¬ j < cnt H (min th H) := fun h => hge ((cnt_lt hth h2 j).2 h)
      omega
    subst hje
    rw [preT_zero, ← htl] at hI
    exact hend u hI

def rcs (l : List Rc) : List Value := cellsF rc l
theorem rcs_length (l : List Rc) : (rcs l).length = l.length * 4 := cellsF_length (sz := 4) (fun _ => rfl) l
theorem rcs_append (a b : List Rc) : rcs (a ++ b) = rcs a ++ rcs b := by simp [rcs, cellsF]
theorem rcs_one (r : Rc) : rcs [r] = rc r := by simp [rcs, cellsF]
theorem sameRects_spec {N M : Nat} {w : World} {a b : Option Addr} {la ca lb cb : Nat} {xs ys : List Rc} {R : Ending → World → Prop}
    (ha : Sl N w a (rcs xs)) (hb : Sl M w b (rcs ys)) (hla : la = xs.length) (hlb : lb = ys.length) (h62 : la < 2 ^ 62)
    (hR : ∀ w', Ext w w' → R (.returned (.bool (decide (xs = ys)))) w') :
    Calls P F.ref07_SameRects #[.slice a la ca, .slice b lb cb] w R := by
  refine calls_ref07_SameRects _ _ _ _ _ _ _ _ ?_
  unfold vc_ref07_SameRects
  refine brB_i (fun hne => ?_) (fun heq => ?_)
  · have : xs ≠ ys := fun e => by subst e; simp [hla, hlb] at hne
    simpa [this] using hR w (Ext.refl w)
  · have hlen : xs.length = ys.length := by
      have : (la : Int) = lb := by simpa using heq
      omega
    refine ⟨fun vs w' => match vs with | [.int _ i] => 0 ≤ i ∧ i ≤ la ∧ Ext w w' ∧ ∀ j : Nat, (j : Int) < i → xs[j]? = ys[j]? | _ => False,
      fun vs _ => match vs with | [.int _ i] => (la - i).toNat | _ => 0, ⟨Int.le_refl _, by omega, Ext.refl w, fun j hj => by omega⟩, fun n w1 hI => ?_⟩
    obtain ⟨h0, h1, hE, hj⟩ := hI
    refine brB_i (fun hlt => ?_) (fun hge => ?_)
    · have hlt : n < la := by simpa using hlt
      have hx : xs[n.toNat]? = some (xs[n.toNat]'(by omega)) := List.getElem?_eq_getElem (by omega)
      have hy : ys[n.toNat]? = some (ys[n.toNat]'(by omega)) := List.getElem?_eq_getElem (by omega)
      refine (ha.ext hE).drew.elem (fun _ => rfl) (by omega) h0 hla.symm hx fun a1 hc1 => ?_
      have hz1 := hc1 0 _ rfl
      rw [add_zero'] at hz1
      refine ⟨_, _, _, _, hz1, hc1 1 _ rfl, hc1 2 _ rfl, hc1 3 _ rfl, ?_⟩
      refine (hb.ext hE).drew.elem (fun _ => rfl) (by omega) h0 hlb.symm hy fun a2 hc2 => ?_
      have hz2 := hc2 0 _ rfl
      rw [add_zero'] at hz2
      refine ⟨_, _, _, _, hz2, hc2 1 _ rfl, hc2 2 _ rfl, hc2 3 _ rfl, ?_⟩
      refine brB_i (fun hne => ?_) (fun heq => ?_)
      · have : xs ≠ ys := fun e => by subst e; simp at hne
        simpa [this] using hR _ hE.drew
      · have heq : xs[n.toNat]'(by omega) = ys[n.toNat]'(by omega) := by
          simp at heq
          exact Prod.ext heq.1 (Prod.ext heq.2.1 (Prod.ext heq.2.2.1 heq.2.2.2))
        rw [w64 (by omega) (by omega)]
        refine ⟨⟨by omega, by omega, hE.drew, fun j hj' => ?_⟩, ?_⟩
        · by_cases hjn : (j : Int) < n
          · exact hj j hjn
          · rw [show j = n.toNat by omega, hx, hy, heq]
        · show (la - (n + 1)).toNat < (la - n).toNat
          omega
    · have hge : n = la := by simp at hge; omega
      have : xs = ys := by
        refine List.ext_getElem hlen fun j h1 h2 => ?_
        have := hj j (by omega)
        simpa [List.getElem?_eq_getElem, h1, h2] using this
      simpa [this] using hR _ hE
end Go.Proofs.Ytpdfpbioolbjjaa
