/- GridHolds: its function answers true, and nothing that was there turns: at every size, every cells and every place. -/
import Derived.Test.YtpdfpbioolbjjaaGridArgs
namespace Go.Proofs.Ytpdfpbioolbjjaa
open Go Go.Vc Go.RowKit
set_option maxRecDepth 100000
set_option linter.unusedVariables false
set_option linter.unusedSimpArgs false

theorem holds_walk {N : Nat} {w : World} {base : Option Addr} {len cap : Nat} {W H x y : Int} {xs : List Int} {R : Ending → World → Prop}
    (h : Sl N w base (ints xs)) (hl : len = xs.length) (hsz : len * 8 ≤ 2 ^ 47) (hR : ∀ w', Ext w w' → R (.returned (.bool true)) w') :
    Calls P F.law07_GridHolds #[.agg #[i64 W, i64 H, .slice base len cap], i64 x, i64 y] w R := by
  refine calls_law07_GridHolds _ _ _ _ _ _ _ _ _ ?_
  unfold vc_law07_GridHolds
  have hin : (decide (x ≥ 0) && decide (y ≥ 0) && decide (x < W) && decide (y < H)) = inside W H x y := by
    rw [Bool.eq_iff_iff]; simp only [inside, Bool.and_eq_true, decide_eq_true_eq]; omega
  rw [hin]
  intro k1 hk1 w1 hL1
  have hE1 : Ext w w1 := hL1.ext (by simpa using hk1)
  have ht1 := hL1.there k1 (by simp)
  refine wakes_spec fun w2 hE2 => ⟨_, rfl, hE2.keep _, brB_f rfl ?_⟩
  have hE12 := hE1.trans hE2
  have hs2 := hE2.size
  refine both_spec (h.ext hE12) hl hsz (fun w3 hE3 => ⟨_, _, _, _, _, _, _, _, rfl, hE3.keep _, fun k4 hk4 => brB_t rfl fun w4 hL4 => hR w4 ?_⟩)
    (fun gb cb w3 hE3 hb1 hb2 hg => ⟨_, _, _, _, _, _, _, _, rfl, hE3.keep _, fun k4 hk4 => brB_f rfl fun w5 hL5 => ?_⟩)
  · have hs3 := hE3.size
    have hs1 := hE1.size
    exact (hE12.trans hE3).step hL4.chg (by simp; omega)
  · have hs3 := hE3.size
    have hs1 := hE1.size
    have hE5 : Ext w w5 := (hE12.trans hE3).step hL5.chg (by simp; omega)
    have hlt := hg.lt
    have hd := hg.dims
    rw [ints_length] at hd
    have hlen := hg.len
    rw [ints_length] at hlen
    have hg5 := hg.chg hL5.chg (by simp; omega) (by simp; omega)
    have hpl : inside W H x y = true → 0 ≤ y * W + x ∧ y * W + x < len ∧ IntKind.i64.wrap (IntKind.i64.wrap (y * W) + x) = y * W + x := fun hi => by
      have := place hi hd.2.2.1 hd.2.2.2.1 hlen
      rw [hl]; exact this
    refine At_spec hg5 fun w6 hE6 => ⟨_, _, rfl, hE6.keep _, fun vs w' => match vs with | [] => Ext w w' ∧ GridAt w' (some ⟨gb, 0, none⟩) gb cb W H (ints xs) ∧ w5.heap.size ≤ w'.heap.size | _ => False, ?_, ?_⟩
    · refine same07_spec (hg5.ext hE6) ((h.ext hE5).ext hE6) hl fun w7 hE7 => ⟨_, rfl, hE7.keep _, brB_f (by simp) ?_⟩
      have hE57 := (hE5.trans hE6).trans hE7
      have hg7 := (hg5.ext hE6).ext hE7
      have hs7 := (hE6.trans hE7).size
      refine brB_i (fun hi => brB_f ?_ (brB_f ?_ ⟨hE57, hg7, hs7⟩)) (fun hi => brB_t (by simpa using hi) ?_)
      · have hi : inside W H x y = false := by simpa using hi
        simp [hi]
      · simpa using hi
      · have hi : inside W H x y = true := by simpa using hi
        obtain ⟨p0, p1, p2⟩ := hpl hi
        rw [p2]
        refine (h.ext hE57).get p0 (by rw [ints_length]; omega) (ints_get (by omega)) fun a hc => ⟨_, hc, brB_f (by simp [hi]) ⟨hE57, hg7, hs7⟩⟩
    · intro w8 hI
      obtain ⟨hE8, hg8, hs8⟩ := hI
      have ht4 := hL5.there k4 (by simp)
      refine Set_spec hg8 fun w9 hC9 hg9 => ⟨_, rfl, hC9.keep (by simp; omega), brB_f (by simp) ?_⟩
      have hE9 : Ext w w9 := hE8.step hC9 (fun i hi => by omega)
      refine brB_i (fun hi => ?_) (fun hi => ?_)
      · rw [if_pos hi] at hg9
        obtain ⟨p0, p1, p2⟩ := hpl hi
        refine own_spec (h.ext hE9) hl hsz fun p k w10 hE10 ho => ⟨_, _, _, rfl, hE10.keep _, ?_⟩
        have hs10 := hE10.size
        have hs9 := hE9.size
        have hl9 := hg9.lt
        obtain ⟨b, rfl, hb, hb'⟩ := ho.base (by omega)
        rw [p2]
        refine idx_i p0 p1 rfl fun w11 hL11 => ?_
        have hs11 := hL11.size
        have hcn := hC9.size
        rw [loc_add, Nat.zero_add, Nat.mul_one]
        have ho11 := ho.chg hL11.chg (by simp; omega)
        obtain ⟨q1, q2, q3⟩ := ho11.write (i := (y * W + x).toNat) (by omega)
        obtain ⟨q3, q4⟩ := q3 (i64 123456)
        refine ⟨q1, q2, by simp; omega, ?_⟩
        have hg11 := ((hg9.ext hE10).chg hL11.chg (by simp; omega) (by simp; omega)).chg q4 (by omega) (by omega)
        have hset : (ints xs).set (y * W + x).toNat (i64 123456) = ints (xs.set (y * W + x).toNat 123456) := by simp [ints, List.map_set]
        rw [hset] at q3
        refine same07_spec hg11 q3.sl (by rw [List.length_set]; exact hl) fun w12 hE12' => ⟨_, rfl, hE12'.keep _, to_bool (hR w12 ?_) (by simp)⟩
        refine Ext.trans (((hE9.trans hE10).step hL11.chg (by simp; omega)).step q4 (fun i hi => by omega)) hE12'
      · rw [if_neg (by simp [hi])] at hg9
        refine same07_spec hg9 (h.ext hE9) hl fun w10 hE10 => ⟨_, rfl, hE10.keep _, to_bool (hR w10 (hE9.trans hE10)) (by simp)⟩
theorem holds_walk_ok {w : World} {base : Option Addr} {len cap : Nat} {W H x y : Int} {xs : List Int} {R : Ending → World → Prop} (h : CellsOk w W H base len cap xs) (_ : (Lit.int .i64 x).wf = true) (_ : (Lit.int .i64 y).wf = true) (hR : ∀ w', Ext w w' → R (.returned (.bool true)) w') :
    Calls P F.law07_GridHolds #[.agg #[i64 W, i64 H, .slice base len cap], i64 x, i64 y] w R := holds_walk h.sl h.long h.bytes hR
end Go.Proofs.Ytpdfpbioolbjjaa
