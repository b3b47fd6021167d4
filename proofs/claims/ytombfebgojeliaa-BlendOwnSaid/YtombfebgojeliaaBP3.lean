/- Blend: a clear image changes nothing, a solid one hides: the plain law; a sample written in its place. -/
import Derived.Test.YtombfebgojeliaaBlendL2
namespace Go.Proofs.Ytombfebgojeliaa
open Go Go.Vc Go.RowKit
set_option maxRecDepth 100000
set_option linter.unusedVariables false
set_option linter.unusedSimpArgs false

theorem px_set {xs : List Int} {k : Nat} {v : Int} (h : k < xs.length) : (px xs).take k ++ [u16 v] ++ (px xs).drop (k + 1) = px (xs.set k v) := by
  rw [List.set_eq_take_append_cons_drop, if_pos h]
  simp [px, List.map_take, List.map_drop]
section
variable {w u : World} {f : Nat → Nat} {L : List Nat} {l : List Tg}
theorem write_st {c len cap : Nat} {p : Option Addr} {xs : List Int} (h : Ths w u f L (⟨c, p, len, cap, 1, px xs⟩ :: l)) (hd : ∀ t', t' ∈ l → t'.c ≠ c) {n : Int} (n0 : 0 ≤ n) (n1 : n < len) {F : Addr → Prop}
    (hF : ∀ a : Addr, (∃ v, u.cell? a = some v) → u.frozen? a = false → a.block ∉ L → u.cell? a = some (u16 (xs.getD n.toNat 0)) → (∀ v, Ths w (setCells u a [u16 v] 0) f L (⟨c, p, len, cap, 1, px (xs.set n.toNat v)⟩ :: l)) → F a) : idx p len n 1 F := by
  have hl := St.len h (List.Mem.head _)
  have hlt : n.toNat < xs.length := by omega
  have key : ∀ v, ∃ b, p = some ⟨b, 0, none⟩ ∧ b ∉ L ∧ CanSet u ⟨b, n.toNat, none⟩ 1 ∧ Ths w (setCells u ⟨b, n.toNat, none⟩ [u16 v] 0) f L (⟨c, p, len, cap, 1, px (xs.set n.toNat v)⟩ :: l) := fun v => by
    have := h.set hd (k := n.toNat) (us := [u16 v]) (by simp only [px_length, List.length_cons, List.length_nil]; omega) (by show 0 < len; omega)
    simp only [List.length_cons, List.length_nil, Nat.zero_add] at this
    rw [px_set hlt] at this
    exact this
  obtain ⟨b, e, e1, e2, e3⟩ := key 0
  subst e
  have hc : u.cell? ⟨b, n.toNat, none⟩ = some (u16 (xs.getD n.toNat 0)) := by
    obtain ⟨a, q1, q2, q3⟩ := (St.img h (List.Mem.head _)).sl n.toNat _ (px_get hlt)
    cases q1
    simpa [loc_add] using q3
  obtain ⟨f1, f2⟩ := e2 0 (by omega)
  rw [add_zero'] at f1 f2
  refine idx_i n0 n1 rfl ?_
  rw [loc_add, Nat.mul_one, Nat.zero_add]
  refine hF _ f1 f2 e1 hc fun v => ?_
  obtain ⟨b', e', _, _, h3⟩ := key v
  cases e'
  exact h3
theorem St.cell (h : Ths w u f L l) {c k len cap : Nat} {vs : List Value} (ht : (⟨c, some ⟨k, 0, none⟩, len, cap, 1, vs⟩ : Tg) ∈ l) {i : Nat} {v : Value} (hv : vs[i]? = some v) : u.cell? ⟨k, i, none⟩ = some v := by
  obtain ⟨a, q1, q2, q3⟩ := (h.get ht).sl i v hv
  cases q1
  simpa [loc_add] using q3
end
/-! ## alphas cleared; an image made solid -/
def clrTo (n : Nat) (ys : List Int) : List Int := ys.mapIdx fun i v => if i % 4 = 3 ∧ i < n then 0 else v
theorem clrTo_length (n : Nat) (ys : List Int) : (clrTo n ys).length = ys.length := by simp [clrTo]
theorem clrTo_start (ys : List Int) : clrTo 3 ys = ys := by
  refine List.ext_getElem (by simp [clrTo]) fun i h1 h2 => ?_
  simp only [clrTo, List.getElem_mapIdx]
  rw [if_neg (by omega)]
theorem clrTo_step {n : Nat} {ys : List Int} (hn : n % 4 = 3) : (clrTo n ys).set n 0 = clrTo (n + 4) ys := by
  refine List.ext_getElem (by simp [clrTo]) fun i h1 h2 => ?_
  simp only [clrTo, List.getElem_mapIdx, List.getElem_set]
  by_cases e : n = i
  · subst e
    rw [if_pos rfl, if_pos (by omega)]
  · rw [if_neg e]
    by_cases hi : i % 4 = 3 ∧ i < n
    · rw [if_pos hi, if_pos (by omega)]
    · rw [if_neg hi, if_neg (by omega)]
def clr (ys : List Int) : List Int := ys.mapIdx fun i v => if i % 4 = 3 then 0 else v
theorem clrTo_end {n : Nat} {ys : List Int} (hn : ys.length ≤ n) : clrTo n ys = clr ys := by
  refine List.ext_getElem (by simp [clrTo, clr]) fun i h1 h2 => ?_
  have : i < ys.length := by simpa [clrTo] using h1
  simp only [clrTo, clr, List.getElem_mapIdx]
  by_cases hi : i % 4 = 3
  · rw [if_pos (by omega), if_pos hi]
  · rw [if_neg (by omega), if_neg hi]
def sldTo (n : Nat) (xs : List Int) : List Int := xs.mapIdx fun i v => if i < n then (if i % 4 = 3 then 65535 else 65535 - v) else v
theorem sldTo_length (n : Nat) (ys : List Int) : (sldTo n ys).length = ys.length := by simp [sldTo]
theorem sldTo_start (xs : List Int) : sldTo 0 xs = xs := by
  refine List.ext_getElem (by simp [sldTo]) fun i h1 h2 => ?_
  simp only [sldTo, List.getElem_mapIdx]
  rw [if_neg (by omega)]
theorem sldTo_at {n : Nat} {xs : List Int} (h : n < xs.length) : (sldTo n xs).getD n 0 = xs.getD n 0 := by
  have h' : n < (sldTo n xs).length := by rw [sldTo_length]; exact h
  simp only [List.getD, List.getElem?_eq_getElem h, List.getElem?_eq_getElem h', Option.getD_some]
  simp only [sldTo, List.getElem_mapIdx]
  rw [if_neg (by omega)]
theorem sldTo_step {n : Nat} {xs : List Int} (h : n < xs.length) : (sldTo n xs).set n (if n % 4 = 3 then 65535 else 65535 - xs.getD n 0) = sldTo (n + 1) xs := by
  refine List.ext_getElem (by simp [sldTo]) fun i h1 h2 => ?_
  simp only [sldTo, List.getElem_mapIdx, List.getElem_set]
  by_cases e : n = i
  · subst e
    rw [if_pos rfl, if_pos (show n < n + 1 by omega)]
    simp [List.getD, h]
  · rw [if_neg e]
    by_cases hi : i < n
    · rw [if_pos hi, if_pos (show i < n + 1 by omega)]
    · rw [if_neg hi, if_neg (show ¬ i < n + 1 by omega)]
abbrev sld (xs : List Int) : List Int := sldTo xs.length xs
theorem clr_sm {ys : List Int} (h : SmL ys) : SmL (clr ys) := fun x hx => by
  obtain ⟨i, hi, rfl⟩ := List.getElem_of_mem hx
  simp only [clr, List.getElem_mapIdx]
  split
  · unfold Sm; omega
  · exact h _ (List.getElem_mem _)
theorem sld_sm {xs : List Int} (h : SmL xs) {n : Nat} : SmL (sldTo n xs) := fun x hx => by
  obtain ⟨i, hi, rfl⟩ := List.getElem_of_mem hx
  simp only [sldTo, List.getElem_mapIdx]
  have hs := h _ (List.getElem_mem (by simpa [sldTo] using hi) : xs[i]'(by simpa [sldTo] using hi) ∈ xs)
  split
  · split
    · unfold Sm; omega
    · unfold Sm at hs ⊢; omega
  · exact hs
theorem clr_alpha (ys : List Int) (k : Nat) : (colAt (clr ys) k).2.2.2 = 0 := by
  show (clr ys).getD (4 * k + 3) 0 = 0
  unfold clr
  simp only [List.getD, List.getElem?_mapIdx]
  cases ys[4 * k + 3]? with
  | none => rfl
  | some v => rw [Option.map_some, if_pos (show (4 * k + 3) % 4 = 3 by omega)]; rfl
theorem sld_alpha {xs : List Int} {k : Nat} (h : 4 * k + 3 < xs.length) : (colAt (sld xs) k).2.2.2 = 65535 := by
  show (sld xs).getD (4 * k + 3) 0 = 65535
  unfold sld sldTo
  simp only [List.getD, List.getElem?_mapIdx, List.getElem?_eq_getElem h, Option.map_some, Option.getD_some]
  rw [if_pos h, if_pos (by omega)]
theorem ov_none {s t : Int} (h : Sm s) : ovI 0 s t = s := by unfold ovI; unfold Sm at h; omega
theorem ov_all {s t : Int} (h : Sm t) : ovI 65535 s t = t := by unfold ovI; unfold Sm at h; omega
theorem over_clear {c d : Co} (hc : CoOk c) (hd : d.2.2.2 = 0) : overC c d = c := by
  obtain ⟨c1, c2, c3, c4⟩ := c
  obtain ⟨h1, h2, h3, h4⟩ := hc
  unfold overC
  rw [hd]
  simp only at h1 h2 h3 h4 ⊢
  rw [ov_none h1, ov_none h2, ov_none h3, clamp_id h1, clamp_id h2, clamp_id h3, show (0 + (c4 * (65535 - 0) + 32767) / 65535 : Int) = c4 by unfold Sm at h4; omega, clamp_id h4]
theorem over_solid {c d : Co} (hd : CoOk d) (ha : d.2.2.2 = 65535) : overC c d = d := by
  obtain ⟨d1, d2, d3, d4⟩ := d
  obtain ⟨h1, h2, h3, h4⟩ := hd
  simp only at ha
  subst ha
  unfold overC
  simp only at h1 h2 h3 h4 ⊢
  rw [ov_all h1, ov_all h2, ov_all h3, clamp_id h1, clamp_id h2, clamp_id h3, show (65535 + (c.2.2.2 * (65535 - 65535) + 32767) / 65535 : Int) = 65535 by simp, clamp_id h4]
/-- 'over' of two good images -/
theorem app_over {args xs ys : List Int} {W H V G : Int} (hc : chkR sOver args = 0) (hgp : good W H xs = true) (hgq : good V G ys = true) : appR sOver args W H xs V G ys = (W, H, pxs sOver args W H xs V G ys W (W * H).toNat, 0) := by
  have gp := (good_iff.1 hgp).1
  have gq := (good_iff.1 hgq).1
  have hz : sizeR sOver args W H V G = (W, H, 0) := by
    unfold sizeR whOf
    rw [if_neg (show ¬ chkR sOver args ≠ 0 by omega), if_neg (show ¬ (gfits W H = false ∨ gfits V G = false) by simp [gp, gq]), if_pos rfl]
    simp [gp]
  unfold appR
  rw [if_neg (by omega), if_neg (by simp [hgp, hgq]), hz]
  simp
theorem over_chk (a b : Int) : chkR sOver [divZ .rem .i64 a 4097, divZ .rem .i64 b 4097] = 0 := by
  have h : ∀ x : Int, -4096 ≤ x.tmod 4097 ∧ x.tmod 4097 ≤ 4096 := fun x => by
    have h1 := Int.tmod_lt_of_pos x (show (0 : Int) < 4097 by omega)
    have h2 := Int.lt_tmod_of_pos x (show (0 : Int) < 4097 by omega)
    omega
  unfold chkR specOf
  rw [if_pos rfl]
  simp [divZ, h]
theorem covers_clear {a b : Int} {xs ys : List Int} {W H V G : Int} (hgp : good W H xs = true) (hgq : good V G ys = true) (hx : SmL xs) : appR sOver [divZ .rem .i64 a 4097, divZ .rem .i64 b 4097] W H xs V G (clr ys) = (W, H, xs, 0) := by
  have hgc : good V G (clr ys) = true := by
    obtain ⟨h1, h2⟩ := good_iff.1 hgq
    exact good_iff.2 ⟨h1, by simpa [clr] using h2⟩
  obtain ⟨g1, g2, g3, g4, g5⟩ := gfits_iff.1 (good_iff.1 hgp).1
  rw [app_over (over_chk a b) hgp hgc]
  rw [img_ext (pxs_good (good_iff.1 hgp).1) hgp fun q hq => ?_]
  rw [colAt_pxs (by omega)]
  have e : (((q : Int) / W) * W + (q : Int) % W).toNat = q := by
    have := Int.mul_ediv_add_emod (q : Int) W
    rw [Int.mul_comm] at this; omega
  unfold pf pixR
  rw [if_neg (by decide), if_neg (by decide), if_pos rfl, e]
  split
  · rename_i hat
    refine over_clear (hx.col q) ?_
    unfold atC
    rw [if_pos hat]
    exact clr_alpha _ _
  · rfl
theorem covers_solid {xs : List Int} {W H : Int} (hgp : good W H xs = true) (hx : SmL xs) : appR sOver [0, 0] W H xs W H (sld xs) = (W, H, sld xs, 0) := by
  obtain ⟨hg, hl⟩ := good_iff.1 hgp
  have hgs : good W H (sld xs) = true := good_iff.2 ⟨hg, by rw [sldTo_length]; exact hl⟩
  obtain ⟨g1, g2, g3, g4, g5⟩ := gfits_iff.1 hg
  rw [app_over (by decide) hgp hgs]
  rw [img_ext (pxs_good hg) hgs fun q hq => ?_]
  rw [colAt_pxs (by omega)]
  have e : (((q : Int) / W) * W + (q : Int) % W).toNat = q := by
    have := Int.mul_ediv_add_emod (q : Int) W
    rw [Int.mul_comm] at this; omega
  have m0 : 0 ≤ (q : Int) % W := Int.emod_nonneg _ (by omega)
  have m1 : (q : Int) % W < W := Int.emod_lt_of_pos _ (by omega)
  have d0 : 0 ≤ (q : Int) / W := Int.ediv_nonneg (by omega) (by omega)
  have d1 : (q : Int) / W < H := Int.ediv_lt_of_lt_mul (by omega) (by rw [Int.mul_comm]; exact hq)
  have hat : isAt W H (sld xs) ((q : Int) % W) ((q : Int) / W) = true := by unfold isAt; simp [hgs]; omega
  unfold pf pixR
  rw [if_neg (by decide), if_neg (by decide), if_pos rfl, e]
  rw [show (List.getD [(0 : Int), 0] 0 0) = 0 from rfl, show (List.getD [(0 : Int), 0] 1 0) = 0 from rfl, Int.sub_zero, Int.sub_zero, if_pos hat]
  unfold atC
  rw [if_pos hat, e]
  exact over_solid ((sld_sm hx).col q) (sld_alpha (by omega))
theorem over_bad {xs ys : List Int} {W H V G : Int} (h : good W H xs = false ∨ good V G ys = false) : appR sOver [0, 0] W H xs V G ys = (0, 0, [], 6) := by
  unfold appR
  rw [if_neg (by decide), if_pos h]
end Go.Proofs.Ytombfebgojeliaa
