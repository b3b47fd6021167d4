/- Quant: an image of few solid colours of eight bits comes back: joined. -/
import Derived.Test.YtijplekhbpigiaaQP5
namespace Go.Proofs.Ytijplekhbpigiaa
open Go Go.Vc Go.RowKit Go.Qn
set_option maxRecDepth 100000
set_option linter.unusedVariables false
set_option linter.unusedSimpArgs false

/-- a palette of solid colours: no more than 256 -/
structure Solid (pal : List Co) : Prop where
  ok : ∀ x, x ∈ pal → CoOk x ∧ x.2.2.2 = 65535
  pos : 0 < pal.length
  le : pal.length ≤ 256
theorem Solid.none {pal : List Co} (h : Solid pal) : noneV pal = -1 :=
  (noneV_is pal).uniq (.inl ⟨rfl, fun j _ hj => by rw [(h.ok _ (getD_mem hj)).2]; decide⟩)
theorem Solid.idx {pal : List Co} (h : Solid pal) (c : Co) : idxV pal c = nearV pal (eightC c) ∧ 0 ≤ nearV pal (eightC c) ∧ nearV pal (eightC c) < pal.length := by
  have hr := nearN_range pal (eightC c) pal.length
  have hp := h.pos; have hl := h.le
  have h0 := hr.2.2 hp
  unfold idxV
  rw [if_pos (.inl (by rw [h.none]; decide))]
  unfold nearV
  rw [wu8 h0 (by omega)]
  exact ⟨rfl, h0, hr.2.1⟩
theorem whole_app {W H : Int} {ys : List Int} {pal : List Co} (hb : good W H ys = true) (h : Solid pal) : appR W H ys pal = (W, H, pal, (colsOf ys (W * H).toNat).map (idxV pal), 0) := by
  unfold appR
  rw [if_pos hb, if_neg (by have := h.pos; have := h.le; omega)]
theorem whole_back {W H : Int} {ys : List Int} {pal : List Co} (hb : good W H ys = true) (h : Solid pal) :
    backR W H pal ((colsOf ys (W * H).toNat).map (idxV pal)) = (W, H, flat (((colsOf ys (W * H).toNat).map (idxV pal)).map (backC pal)), 0) := by
  obtain ⟨hg, hxl⟩ := good_iff.1 hb
  obtain ⟨g1, g2, g3, g4, g5⟩ := gfits_iff.1 hg
  have hpos : 0 < W * H := Int.mul_pos (by omega) (by omega)
  unfold backR
  rw [if_pos hg, if_neg (by rw [List.length_map, colsOf_length]; have := h.le; omega), if_pos]
  rw [List.all_eq_true]
  intro x hx
  obtain ⟨c, _, rfl⟩ := List.mem_map.1 hx
  obtain ⟨e, _, h2⟩ := h.idx c
  rw [e]; simpa using h2
theorem whole_bs {ys : List Int} {n : Nat} {pal : List Co} (h : Solid pal) : Bs ((colsOf ys n).map (idxV pal)) := fun x hx => by
  obtain ⟨c, _, rfl⟩ := List.mem_map.1 hx
  obtain ⟨e, h1, h2⟩ := h.idx c
  have := h.le
  rw [e]; omega
theorem full_all {ys : List Int} : ∀ n j, j < n → clearC (colAt ys j) = false → eightC (colAt ys j) ∈ fullN ys n
  | 0, j, h, _ => by omega
  | n + 1, j, h, hc => by
    rcases Nat.lt_or_ge j n with g | g
    · have ih := full_all (ys := ys) n j g hc
      unfold fullN
      split
      · exact ih
      · exact mem_addC' ih
    · obtain rfl : j = n := by omega
      unfold fullN
      rw [if_neg (by rw [hc]; exact Bool.false_ne_true)]
      exact mem_addC _ _
theorem wh_good {W H : Int} {xs : List Int} (hb : good W H xs = true) : good W H (whX xs) = true := by
  unfold good at *; rw [whX_length]; exact hb
theorem wh_len {W H : Int} {xs : List Int} (hb : good W H xs = true) {j : Nat} (hj : j < (W * H).toNat) : 4 * j + 3 < xs.length := by
  obtain ⟨hg, hxl⟩ := good_iff.1 hb
  obtain ⟨g1, g2, g3, g4, g5⟩ := gfits_iff.1 hg
  have hpos : 0 < W * H := Int.mul_pos (by omega) (by omega)
  omega
theorem wh_clear {W H : Int} {xs : List Int} (hb : good W H xs = true) (hok : PxOk xs) {j : Nat} (hj : j < (W * H).toNat) : clearC (colAt (whX xs) j) = false := by
  have := (wh_col hok (wh_len hb hj)).2
  unfold clearC
  rw [this]; decide
theorem wh_solid {W H : Int} {xs : List Int} (hb : good W H xs = true) (hok : PxOk xs) {c : Co} (hc : ∃ j, j < (W * H).toNat ∧ clearC (colAt (whX xs) j) = false ∧ c = eightC (colAt (whX xs) j)) : CoOk c ∧ c.2.2.2 = 65535 := by
  obtain ⟨j, hj, _, rfl⟩ := hc
  exact ⟨eight_ok (colAt_ok (whX_ok hok) j), rfl⟩
theorem wh_pal {W H : Int} {xs : List Int} (hb : good W H xs = true) (hok : PxOk xs) : Solid (palV (fullN (whX xs) (W * H).toNat) 256) := by
  obtain ⟨hg, hxl⟩ := good_iff.1 hb
  obtain ⟨g1, g2, g3, g4, g5⟩ := gfits_iff.1 hg
  have hpos : 0 < W * H := Int.mul_pos (by omega) (by omega)
  unfold palV
  split
  · rename_i hl
    refine ⟨fun x hx => wh_solid hb hok (fullN_mem _ _ hx), ?_, by omega⟩
    exact List.length_pos_of_mem (full_all (W * H).toNat 0 (by omega) (wh_clear hb hok (by omega)))
  · rename_i hl
    rw [show (256 : Int).toNat - 1 = 255 from rfl]
    obtain ⟨x1, x2, x3⟩ := pal_many (xs := whX xs) (n := (W * H).toNat) (m := 255) (by omega)
    exact ⟨fun x hx => wh_solid hb hok (x3 x hx), by omega, by omega⟩
/-- few colours: the image itself -/
theorem whole_same {W H : Int} {xs : List Int} (hb : good W H xs = true) (hok : PxOk xs) (hfew : (fullN (whX xs) (W * H).toNat).length ≤ 256) :
    flat (((colsOf (whX xs) (W * H).toNat).map (idxV (fullN (whX xs) (W * H).toNat))).map (backC (fullN (whX xs) (W * H).toNat))) = whX xs := by
  obtain ⟨hg, hxl⟩ := good_iff.1 hb
  obtain ⟨g1, g2, g3, g4, g5⟩ := gfits_iff.1 hg
  have hpos : 0 < W * H := Int.mul_pos (by omega) (by omega)
  have hs : Solid (fullN (whX xs) (W * H).toNat) := by
    have := wh_pal hb hok
    unfold palV at this
    rwa [if_pos (by omega)] at this
  rw [List.map_map]
  have e : (colsOf (whX xs) (W * H).toNat).map (backC (fullN (whX xs) (W * H).toNat) ∘ idxV (fullN (whX xs) (W * H).toNat)) = colsOf (whX xs) (W * H).toNat := by
    conv => rhs; rw [← List.map_id (colsOf (whX xs) (W * H).toNat)]
    refine List.map_congr_left fun c hc => ?_
    unfold colsOf at hc
    obtain ⟨j, hj, rfl⟩ := List.mem_map.1 hc
    have hj : j < (W * H).toNat := by simpa using hj
    have he := (wh_col hok (wh_len hb hj)).1
    have hm := full_all (W * H).toNat j hj (wh_clear hb hok hj)
    obtain ⟨i1, _, _⟩ := hs.idx (colAt (whX xs) j)
    obtain ⟨_, _, n3⟩ := near_self hs.ok hm
    show backC _ (idxV _ (colAt (whX xs) j)) = colAt (whX xs) j
    rw [i1]
    unfold backC
    rw [n3, he]
  rw [e]
  exact flat_colsOf' (by rw [whX_length]; omega)
end Go.Proofs.Ytijplekhbpigiaa
