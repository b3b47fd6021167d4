/- Moves: what is got back. -/
import Derived.Test.YtdephacjcljinaaMovesL2
namespace Go.Proofs.Ytdephacjcljinaa
open Go Go.Vc Go.RowKit
set_option maxRecDepth 100000
set_option linter.unusedVariables false
set_option linter.unusedSimpArgs false

theorem oneto5 (x : Int) : ∃ k : Int, IntKind.i64.wrap (1 + IntKind.i64.wrap (divZ .rem .u64 (IntKind.u64.wrap x) 5)) = k ∧ 1 ≤ k ∧ k ≤ 5 := by
  have h0 : 0 ≤ IntKind.u64.wrap x := by simp [IntKind.wrap, IntKind.signed, IntKind.bits]; omega
  have h1 : divZ .rem .u64 (IntKind.u64.wrap x) 5 = (IntKind.u64.wrap x).tmod 5 := rfl
  have h2 := Int.tmod_lt_of_pos (IntKind.u64.wrap x) (show 0 < (5 : Int) by omega)
  have h3 := Int.tmod_nonneg 5 h0
  rw [h1, w64 (x := (IntKind.u64.wrap x).tmod 5) (by omega) (by omega), w64 (by omega) (by omega)]
  exact ⟨_, rfl, by omega, by omega⟩
set_option maxHeartbeats 4000000 in
theorem back_walk {w : World} {p : Option Addr} {lp cp : Nat} {xs : List Int} {W H x3 : Int} {R : Ending → World → Prop} {Q : Prop} (hp : ImgOk w W H p lp cp xs) (_ : Q) (hR : ∀ w', Ext w w' → R (.returned (.bool true)) w') :
    Calls P F.law21_MovesBack #[.agg #[i64 W, i64 H, .slice p lp cp], i64 x3] w R := by
  refine calls_law21_MovesBack _ _ _ _ _ _ _ _ ?_
  have H0 := St.start w
  intro k1 hk1
  refine St.locl H0 (by simp; omega) fun w1 f1 H1 => ?_
  refine wakes_spec fun w2 hE2 => ⟨_, rfl, hE2.keep _, brB_f rfl ?_⟩
  have H2 := H1.step hE2 0
  refine refGood_spec hp.img.len fun w3 hE3 => ⟨_, rfl, hE3.keep _, ?_⟩
  have H3 := H2.step hE3 0
  have hxl : xs.length < 2 ^ 62 := by have := hp.sz; have := hp.img.len; omega
  refine brB_i (fun hb => hR _ H3.pal.ext) (fun hb => ?_)
  obtain ⟨⟨hg, hw⟩, hh⟩ : (good W H xs = true ∧ W ≤ 60) ∧ H ≤ 60 := by simpa using hb
  obtain ⟨k, hk, k0, k5⟩ := oneto5 x3
  rw [hk]
  clear hb hk
  obtain ⟨g1, g2, g3, g4, g5⟩ := gfits_iff.1 (good_iff.1 hg).1
  have hwh : 0 ≤ W * H := Int.mul_nonneg (by omega) (by omega)
  have hk1' : W * H * k ≤ 65536 * 5 := Int.mul_le_mul g5 k5 (by omega) (by omega)
  have hk0 : 0 ≤ W * H * k := Int.mul_nonneg hwh (by omega)
  have hk2 : W * H * k * k ≤ 65536 * 5 * 5 := Int.mul_le_mul hk1' k5 (by omega) (by omega)
  have hk3 : 0 ≤ W * H * k * k := Int.mul_nonneg hk0 (by omega)
  have hk4 : W * (k - 1) ≤ 60 * 4 := Int.mul_le_mul hw (by omega) (by omega) (by omega)
  have hk5' : 0 ≤ W * (k - 1) := Int.mul_nonneg (by omega) (by omega)
  rw [w64 (x := 2 * k) (by omega) (by omega), w64 (x := W * H) (by omega) (by omega), w64 (x := W * H * k) (by omega) (by omega), w64 (x := W * H * k * k) (by omega) (by omega), w64 (x := k - 1) (by omega) (by omega), w64 (x := W * (k - 1)) (by omega) (by omega)]
  refine St.new (n := 2) 21 (strs [sFrame, sCrop]) H3 (by decide) rfl rfl fun k101 w4 f4 _ H4 => ?_
  refine St.new (n := 5) 22 (i64s [k, 1, 2, 3, 4]) H4 (by decide) rfl rfl fun k102 w5 f5 _ H5 => ?_
  refine St.new (n := 4) 23 (i64s [k, k, W, H]) H5 (by decide) rfl rfl fun k103 w6 f6 _ H6 => ?_
  refine St.new (n := 2) 24 [.slice (some ⟨k102, 0, none⟩) 5 5, .slice (some ⟨k103, 0, none⟩) 4 4] H6 (by decide) rfl rfl fun k104 w7 f7 _ H7 => ?_
  refine in_st 1 [(sFrame, [k, 1, 2, 3, 4]), (sCrop, [k, k, W, H])] _ H7 (Opl.two H7 (by repeat (first | exact List.Mem.head _ | apply List.Mem.tail)) (by repeat (first | exact List.Mem.head _ | apply List.Mem.tail)) (St.ints H7 (by repeat (first | exact List.Mem.head _ | apply List.Mem.tail)) (by decide)) (St.ints H7 (by repeat (first | exact List.Mem.head _ | apply List.Mem.tail)) (by decide))) rfl rfl (by simp) (hp.img.ext H7.pal.ext) hp.sz hp.sm (by decide) (back_frame hg hw hh k0 k5) fun p1 l1 c1 w8 f8 hE8 H8 => ⟨_, _, _, _, _, _, rfl, hE8.keep _, fun bk1 hbk1 => ?_⟩
  refine St.locl H8 (by simp; omega) fun w9 f9 H9 => ?_
  refine St.new (n := 2) 25 (strs [sExtend, sCrop]) H9 (by decide) rfl rfl fun k105 w10 f10 _ H10 => ?_
  refine St.new (n := 4) 26 (i64s [k, 2 * k, 3, 0]) H10 (by decide) rfl rfl fun k106 w11 f11 _ H11 => ?_
  refine St.new (n := 4) 27 (i64s [k, 2 * k, W, H]) H11 (by decide) rfl rfl fun k107 w12 f12 _ H12 => ?_
  refine St.new (n := 2) 28 [.slice (some ⟨k106, 0, none⟩) 4 4, .slice (some ⟨k107, 0, none⟩) 4 4] H12 (by decide) rfl rfl fun k108 w13 f13 _ H13 => ?_
  refine in_st 2 [(sExtend, [k, 2 * k, 3, 0]), (sCrop, [k, 2 * k, W, H])] _ H13 (Opl.two H13 (by repeat (first | exact List.Mem.head _ | apply List.Mem.tail)) (by repeat (first | exact List.Mem.head _ | apply List.Mem.tail)) (St.ints H13 (by repeat (first | exact List.Mem.head _ | apply List.Mem.tail)) (by decide)) (St.ints H13 (by repeat (first | exact List.Mem.head _ | apply List.Mem.tail)) (by decide))) rfl rfl (by simp) (hp.img.ext H13.pal.ext) hp.sz hp.sm (by decide) (back_extend hg hw hh k0 k5) fun p2 l2 c2 w14 f14 hE14 H14 => ⟨_, _, _, _, _, _, rfl, hE14.keep _, fun bk2 hbk2 => ?_⟩
  refine brB_i (fun hgt => brB_t rfl ?_) (fun hle => ?_)
  · refine St.locl H14 (by simp; omega) fun w15 f15 H15 => ?_
    refine same_st (c := 1) H15 (by repeat (first | exact List.Mem.head _ | apply List.Mem.tail)) (hp.img.ext H15.pal.ext) hxl fun w16 f16 hE16 H16 => ⟨_, rfl, hE16.keep _, brB_t (by simp [same]) ?_⟩
    refine same_st (c := 2) H16 (by repeat (first | exact List.Mem.head _ | apply List.Mem.tail)) (hp.img.ext H16.pal.ext) hxl fun w17 f17 hE17 H17 => ⟨_, rfl, hE17.keep _, to_bool (hR _ H17.pal.ext) (by simp [same])⟩
  have hle : W * H * k * k ≤ 65536 := by simpa using hle
  refine St.locl H14 (by simp; omega) fun w25 f25 H25 => ?_
  refine St.new (n := 2) 29 (strs [sZoom, sShrink]) H25 (by decide) rfl rfl fun k109 w26 f26 _ H26 => ?_
  refine St.new (n := 1) 30 (i64s [k]) H26 (by decide) rfl rfl fun k110 w27 f27 _ H27 => ?_
  refine St.new (n := 1) 31 (i64s [k]) H27 (by decide) rfl rfl fun k111 w28 f28 _ H28 => ?_
  refine St.new (n := 2) 32 [.slice (some ⟨k110, 0, none⟩) 1 1, .slice (some ⟨k111, 0, none⟩) 1 1] H28 (by decide) rfl rfl fun k112 w29 f29 _ H29 => ?_
  refine in_st 3 [(sZoom, [k]), (sShrink, [k])] _ H29 (Opl.two H29 (by repeat (first | exact List.Mem.head _ | apply List.Mem.tail)) (by repeat (first | exact List.Mem.head _ | apply List.Mem.tail)) (St.ints H29 (by repeat (first | exact List.Mem.head _ | apply List.Mem.tail)) (by decide)) (St.ints H29 (by repeat (first | exact List.Mem.head _ | apply List.Mem.tail)) (by decide))) rfl rfl (by simp) (hp.img.ext H29.pal.ext) hp.sz hp.sm (by decide) (back_zoom hg hw hh k0 k5 hle) fun p3 l3 c3 w30 f30 hE30 H30 => ⟨_, _, _, _, _, _, rfl, hE30.keep _, fun bk3 hbk3 => ?_⟩
  refine St.locl H30 (by simp; omega) fun w31 f31 H31 => ?_
  refine St.new (n := 2) 33 (strs [sTile, sCrop]) H31 (by decide) rfl rfl fun k113 w32 f32 _ H32 => ?_
  refine St.new (n := 2) 34 (i64s [k, 1]) H32 (by decide) rfl rfl fun k114 w33 f33 _ H33 => ?_
  refine St.new (n := 4) 35 (i64s [W * (k - 1), 0, W, H]) H33 (by decide) rfl rfl fun k115 w34 f34 _ H34 => ?_
  refine St.new (n := 2) 36 [.slice (some ⟨k114, 0, none⟩) 2 2, .slice (some ⟨k115, 0, none⟩) 4 4] H34 (by decide) rfl rfl fun k116 w35 f35 _ H35 => ?_
  refine in_st 4 [(sTile, [k, 1]), (sCrop, [W * (k - 1), 0, W, H])] _ H35 (Opl.two H35 (by repeat (first | exact List.Mem.head _ | apply List.Mem.tail)) (by repeat (first | exact List.Mem.head _ | apply List.Mem.tail)) (St.ints H35 (by repeat (first | exact List.Mem.head _ | apply List.Mem.tail)) (by decide)) (St.ints H35 (by repeat (first | exact List.Mem.head _ | apply List.Mem.tail)) (by decide))) rfl rfl (by simp) (hp.img.ext H35.pal.ext) hp.sz hp.sm (by decide) (back_tile hg hw hh k0 k5) fun p4 l4 c4 w36 f36 hE36 H36 => ⟨_, _, _, _, _, _, rfl, hE36.keep _, fun bk4 hbk4 => ?_⟩
  refine brB_t rfl ?_
  refine St.locl H36 (by simp; omega) fun w37 f37 H37 => ?_
  refine same_st (c := 1) H37 (by repeat (first | exact List.Mem.head _ | apply List.Mem.tail)) (hp.img.ext H37.pal.ext) hxl fun w38 f38 hE38 H38 => ⟨_, rfl, hE38.keep _, brB_t (by simp [same]) ?_⟩
  refine same_st (c := 2) H38 (by repeat (first | exact List.Mem.head _ | apply List.Mem.tail)) (hp.img.ext H38.pal.ext) hxl fun w39 f39 hE39 H39 => ⟨_, rfl, hE39.keep _, brB_t (by simp [same]) ?_⟩
  refine same_st (c := 3) H39 (by repeat (first | exact List.Mem.head _ | apply List.Mem.tail)) (hp.img.ext H39.pal.ext) hxl fun w40 f40 hE40 H40 => ⟨_, rfl, hE40.keep _, brB_t (by simp [same]) ?_⟩
  refine same_st (c := 4) H40 (by repeat (first | exact List.Mem.head _ | apply List.Mem.tail)) (hp.img.ext H40.pal.ext) hxl fun w41 f41 hE41 H41 => ⟨_, rfl, hE41.keep _, to_bool (hR _ H41.pal.ext) (by simp [same])⟩
end Go.Proofs.Ytdephacjcljinaa
