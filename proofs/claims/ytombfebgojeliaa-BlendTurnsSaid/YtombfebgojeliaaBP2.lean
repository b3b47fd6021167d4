/- Blend: where order makes no difference; none and all mixed in: the plain law; colours alike but for alpha. -/
import Derived.Test.YtombfebgojeliaaBlendL2
namespace Go.Proofs.Ytombfebgojeliaa
open Go Go.Vc Go.RowKit
set_option maxRecDepth 100000
set_option linter.unusedVariables false
set_option linter.unusedSimpArgs false

def six : List ByteArray := [sPlus, sTimes, sScreen, sDiffer, sLighter, sDarker]
theorem raw_comm {op : ByteArray} (h : op ∈ six) (s t : Int) : rawF op s t = rawF op t s := by
  simp only [six, List.mem_cons, List.not_mem_nil, or_false] at h
  rcases h with rfl | rfl | rfl | rfl | rfl | rfl
  · show s + t = t + s; omega
  · show timesI s t = timesI t s; unfold timesI; rw [Int.mul_comm]
  · show 65535 - timesI (65535 - s) (65535 - t) = 65535 - timesI (65535 - t) (65535 - s); unfold timesI; rw [Int.mul_comm (65535 - s)]
  · show max (s - t) (t - s) = max (t - s) (s - t); omega
  · show max s t = max t s; omega
  · show min s t = min t s; omega
theorem six_ne {op : ByteArray} (h : op ∈ six) : op ≠ sOver ∧ op ≠ sBeside ∧ op ≠ sBelow ∧ op ≠ sMix ∧ op ≠ sMask ∧ chkR op [] = 0 := by
  simp only [six, List.mem_cons, List.not_mem_nil, or_false] at h
  rcases h with rfl | rfl | rfl | rfl | rfl | rfl <;> exact ⟨by decide, by decide, by decide, by decide, by decide, by decide⟩
/-- an operator of one size that takes its arguments -/
theorem app_one {op : ByteArray} {args xs ys : List Int} {W H V G : Int} (n1 : op ≠ sOver) (n2 : op ≠ sBeside) (n3 : op ≠ sBelow) (hc : chkR op args = 0) :
    appR op args W H xs V G ys = if good W H xs = false ∨ good V G ys = false then (0, 0, [], 6) else if W = V ∧ H = G then (W, H, pxs op args W H xs V G ys W (W * H).toNat, 0) else (0, 0, [], 190) := by
  unfold appR
  rw [if_neg (by omega)]
  by_cases h2 : good W H xs = false ∨ good V G ys = false
  · rw [if_pos h2, if_pos h2]
  · rw [if_neg h2, if_neg h2]
    have hgp : good W H xs = true := by
      cases hg : good W H xs with
      | true => rfl
      | false => exact (h2 (.inl hg)).elim
    have hgq : good V G ys = true := by
      cases hg : good V G ys with
      | true => rfl
      | false => exact (h2 (.inr hg)).elim
    have gp := (good_iff.1 hgp).1
    have gq := (good_iff.1 hgq).1
    have hz : sizeR op args W H V G = if W = V ∧ H = G then (W, H, 0) else (0, 0, 190) := by
      unfold sizeR whOf
      rw [if_neg (show ¬ chkR op args ≠ 0 by omega), if_neg (show ¬ (gfits W H = false ∨ gfits V G = false) by simp [gp, gq]), if_neg n1, if_neg n2, if_neg n3]
      by_cases e : W = V ∧ H = G
      · obtain ⟨rfl, rfl⟩ := e
        simp [gp]
      · simp [e]
    rw [hz]
    by_cases e : W = V ∧ H = G
    · simp [e]
    · simp [e]
theorem colAt_get (l : List Int) (k : Nat) : l.getD (4 * k) 0 = (colAt l k).1 ∧ l.getD (4 * k + 1) 0 = (colAt l k).2.1 ∧ l.getD (4 * k + 2) 0 = (colAt l k).2.2.1 := ⟨rfl, rfl, rfl⟩
theorem pf_map {op : ByteArray} {args xs ys : List Int} {W H : Int} (n1 : op ≠ sOver) (n2 : op ≠ sBeside) (n3 : op ≠ sBelow) (k : Nat) (h1 : 1 ≤ W) : pf op args W H xs W H ys W k = mapC op args (colAt xs k) (colAt ys k) := by
  unfold pf pixR
  rw [if_neg n2, if_neg n3, if_neg n1]
  have e : (((k : Int) / W) * W + (k : Int) % W).toNat = k := by
    have := Int.mul_ediv_add_emod (k : Int) W
    rw [Int.mul_comm] at this; omega
  rw [e]
structure Turned (a b : Int × Int × List Int × Int) : Prop where
  e : a.2.2.2 = b.2.2.2
  w : a.1 = b.1
  h : a.2.1 = b.2.1
  l : a.2.2.1.length = b.2.2.1.length
  c : ∀ i : Nat, i < a.2.2.1.length → i % 4 ≠ 3 → a.2.2.1.getD i 0 = b.2.2.1.getD i 0
theorem turned_same (a : Int × Int × List Int × Int) : Turned a a := ⟨rfl, rfl, rfl, rfl, fun _ _ _ => rfl⟩
theorem app_turn {op : ByteArray} {xs ys : List Int} {W H V G : Int} (h : op ∈ six) : Turned (appR op [] W H xs V G ys) (appR op [] V G ys W H xs) := by
  obtain ⟨n1, n2, n3, n4, n5, hc⟩ := six_ne h
  rw [app_one n1 n2 n3 hc, app_one n1 n2 n3 hc]
  by_cases h2 : good W H xs = false ∨ good V G ys = false
  · rw [if_pos h2, if_pos (show good V G ys = false ∨ good W H xs = false from h2.symm)]; exact turned_same _
  rw [if_neg h2, if_neg (show ¬ (good V G ys = false ∨ good W H xs = false) from fun h => h2 h.symm)]
  by_cases e : W = V ∧ H = G
  · obtain ⟨rfl, rfl⟩ := e
    rw [if_pos ⟨rfl, rfl⟩, if_pos ⟨rfl, rfl⟩]
    have hgp : good W H xs = true := by
      cases hg : good W H xs with
      | true => rfl
      | false => exact (h2 (.inl hg)).elim
    obtain ⟨g1, _⟩ := gfits_iff.1 (good_iff.1 hgp).1
    refine ⟨rfl, rfl, rfl, by simp [pxs_length], fun i hi hm => ?_⟩
    simp only [pxs_length] at hi ⊢
    have sy : ∀ s t, smpl op [] s t = smpl op [] t s := fun s t => by unfold smpl; rw [if_neg n4, if_neg n4, raw_comm h]
    have hk : i / 4 < (W * H).toNat := by omega
    have e1 := colAt_pxs (op := op) (args := []) (xs := xs) (ys := ys) (W := W) (H := H) (V := W) (G := H) (w := W) hk
    have e2 := colAt_pxs (op := op) (args := []) (xs := ys) (ys := xs) (W := W) (H := H) (V := W) (G := H) (w := W) hk
    rw [pf_map n1 n2 n3 _ g1] at e1 e2
    obtain ⟨a1, a2, a3⟩ := colAt_get (pxs op [] W H xs W H ys W (W * H).toNat) (i / 4)
    obtain ⟨b1, b2, b3⟩ := colAt_get (pxs op [] W H ys W H xs W (W * H).toNat) (i / 4)
    rw [e1] at a1 a2 a3
    rw [e2] at b1 b2 b3
    have h4 := Nat.div_add_mod i 4
    have hlt : i % 4 < 4 := Nat.mod_lt _ (by omega)
    rcases (show i % 4 = 0 ∨ i % 4 = 1 ∨ i % 4 = 2 by omega) with h5 | h5 | h5
    · rw [show i = 4 * (i / 4) by omega, a1, b1]; exact sy _ _
    · rw [show i = 4 * (i / 4) + 1 by omega, a2, b2]; exact sy _ _
    · rw [show i = 4 * (i / 4) + 2 by omega, a3, b3]; exact sy _ _
  · rw [if_neg e, if_neg (show ¬ (V = W ∧ G = H) from fun h => e ⟨h.1.symm, h.2.symm⟩)]; exact turned_same _
theorem mix_err {xs ys : List Int} {W H V G : Int} : (appR sMix [0] W H xs V G ys).2.2.2 = (appR sMix [256] W H xs V G ys).2.2.2 := by
  rw [app_one (by decide) (by decide) (by decide) (by decide), app_one (by decide) (by decide) (by decide) (by decide)]
  split
  · rfl
  · split <;> rfl
theorem mix_none {xs ys : List Int} {W H V G : Int} (h : (appR sMix [0] W H xs V G ys).2.2.2 = 0) : appR sMix [0] W H xs V G ys = (W, H, xs, 0) ∧ good W H xs = true := by
  obtain ⟨_, hgp, hgq, _, _⟩ := app_ok h
  rw [app_one (by decide) (by decide) (by decide) (by decide)] at h ⊢
  rw [if_neg (by simp [hgp, hgq])] at h ⊢
  by_cases e : W = V ∧ H = G
  · obtain ⟨rfl, rfl⟩ := e
    rw [if_pos ⟨rfl, rfl⟩]
    obtain ⟨g1, _⟩ := gfits_iff.1 (good_iff.1 hgp).1
    refine ⟨?_, hgp⟩
    rw [img_ext (pxs_good (good_iff.1 hgp).1) hgp fun q hq => ?_]
    rw [colAt_pxs (by omega), pf_map (by decide) (by decide) (by decide) _ g1]
    unfold mapC smpl mixI
    simp
  · rw [if_neg e] at h; simp at h
theorem mix_all {xs ys : List Int} {W H V G : Int} (h : (appR sMix [256] W H xs V G ys).2.2.2 = 0) : appR sMix [256] W H xs V G ys = (V, G, ys, 0) ∧ good V G ys = true := by
  obtain ⟨_, hgp, hgq, _, _⟩ := app_ok h
  rw [app_one (by decide) (by decide) (by decide) (by decide)] at h ⊢
  rw [if_neg (by simp [hgp, hgq])] at h ⊢
  by_cases e : W = V ∧ H = G
  · obtain ⟨rfl, rfl⟩ := e
    rw [if_pos ⟨rfl, rfl⟩]
    obtain ⟨g1, _⟩ := gfits_iff.1 (good_iff.1 hgp).1
    refine ⟨?_, hgq⟩
    have hx : ∀ s t : Int, s + (t - s) = t := fun s t => by omega
    rw [img_ext (pxs_good (good_iff.1 hgp).1) hgq fun q hq => ?_]
    rw [colAt_pxs (by omega), pf_map (by decide) (by decide) (by decide) _ g1]
    unfold mapC smpl mixI
    simp [hx]
  · rw [if_neg e] at h; simp at h
/-! ## alike but for alpha -/
theorem colours_spec {w : World} {a b : Option Addr} {la ca lb cb : Nat} {A B : Int × Int × List Int × Int} {R : Ending → World → Prop} (ha : Img w a la A.2.2.1) (hb : Img w b lb B.2.2.1) (hl : la < 2 ^ 60) (ht : Turned A B)
    (hR : ∀ w', Ext w w' → R (.returned (.bool true)) w') : Calls P F.law23_colours #[.agg #[i64 A.1, i64 A.2.1, .slice a la ca], .agg #[i64 B.1, i64 B.2.1, .slice b lb cb]] w R := by
  refine calls_law23_colours _ _ _ _ _ _ _ _ _ _ _ _ ?_
  intro k1 hk1 k2 hk2
  have e1 := ha.len
  have e2 := hb.len
  have e3 := ht.l
  refine brB_f (by simp [ht.w, ht.h]; omega) ?_
  refine ⟨fun vs u => match vs with | [.int _ n] => 0 ≤ n ∧ n ≤ la ∧ Ext w u | _ => False, fun vs _ => match vs with | [.int _ n] => (la - n).toNat | _ => 0, fun w2 hL2 => ⟨Int.le_refl _, by omega, hL2.ext (by simp; omega)⟩, fun n w3 hI => ?_⟩
  obtain ⟨n0, n1, hE3⟩ := hI
  refine brB_i (fun hlt => ?_) (fun hge => hR w3 hE3)
  have hlt : n < la := by simpa using hlt
  refine ⟨fun vs u => vs = [] ∧ Ext w u, brB_i (fun hm => ?_) (fun hm => ⟨rfl, hE3.drew⟩), fun w4 hI => ?_⟩
  · have hm : ¬ n.tmod 4 = 3 := by simpa [divZ] using hm
    rw [Int.tmod_eq_emod_of_nonneg n0] at hm
    refine getE (ha.ext hE3.drew).sl ha.len n0 hlt fun p hp => ⟨_, hp _ (Ext.refl _), ?_⟩
    refine getE (hb.ext hE3.drew).sl hb.len n0 (by omega) fun q hq => ⟨_, hq _ (Ext.refl _), ?_⟩
    rw [ht.c n.toNat (by omega) (by omega)]
    exact brB_f (by simp) ⟨rfl, hE3.drew⟩
  · obtain ⟨_, hE4⟩ := hI
    rw [w64 (x := n + 1) (by omega) (by omega)]
    exact ⟨⟨by omega, by omega, hE4⟩, by show (la - (n + 1)).toNat < (la - n).toNat; omega⟩
end Go.Proofs.Ytombfebgojeliaa
