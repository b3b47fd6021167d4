/- Moves: turned, mirrored and rolled there and back. -/
import Derived.Test.YtdephacjcljinaaMovesL2
namespace Go.Proofs.Ytdephacjcljinaa
open Go Go.Vc Go.RowKit
set_option maxRecDepth 100000
set_option linter.unusedVariables false
set_option linter.unusedSimpArgs false

abbrev fourT (k8 k9 k10 k11 : Nat) : List Value := [.slice (some ⟨k8, 0, none⟩) 2 2, .slice (some ⟨k9, 0, none⟩) 2 2, .slice (some ⟨k10, 0, none⟩) 2 2, .slice (some ⟨k11, 0, none⟩) 2 2]
theorem rem4097 (x : Int) : divZ .rem .i64 x 4097 = x.tmod 4097 ∧ -4096 ≤ x.tmod 4097 ∧ x.tmod 4097 ≤ 4096 := by
  have h1 := Int.tmod_lt_of_pos x (show 0 < (4097 : Int) by omega)
  have h2 := Int.lt_tmod_of_pos x (show 0 < (4097 : Int) by omega)
  exact ⟨rfl, by omega, by omega⟩
theorem foldM_len' {l : List (ByteArray × List Int)} {W H : Int} {xs : List Int} {r : (Int × Int × List Int) × Bool} (h : foldM l W H xs = r) (hl : l ≠ []) : r.1.2.2.length ≤ 4 * 65536 := by rw [← h]; exact foldM_len hl
set_option maxHeartbeats 4000000 in
theorem turns_walk {w : World} {p : Option Addr} {lp cp : Nat} {xs : List Int} {W H x1 x2 : Int} {R : Ending → World → Prop} (hp : ImgOk w W H p lp cp xs) (_ : True) (hR : ∀ w', Ext w w' → R (.returned (.bool true)) w') :
    Calls P F.law21_MovesTurns #[.agg #[i64 W, i64 H, .slice p lp cp], .agg #[i64 x1, i64 x2]] w R := by
  refine calls_law21_MovesTurns _ _ _ _ _ _ _ _ _ ?_
  have H0 := St.start w
  intro k1 hk1
  refine St.locl H0 (by simp; omega) fun w1 f1 H1 => ?_
  refine St.new (n := 2) 1 (i64s [x1, x2]) H1 (by decide) rfl rfl fun k2 w2 f2 _ H2 => ?_
  refine wakes_spec fun w3 hE3 => ⟨_, rfl, hE3.keep _, brB_f rfl ?_⟩
  have H3 := H2.step hE3 0
  refine refGood_spec hp.img.len fun w4 hE4 => ⟨_, rfl, hE4.keep _, ?_⟩
  have H4 := (H3.step hE4 0).dr
  have hxl : xs.length < 2 ^ 62 := by have := hp.sz; have := hp.img.len; omega
  refine brB_i (fun hb => ?_) (fun hb => ?_)
  · have hb : good W H xs = false := by simpa using hb
    have H4 := H3.step hE4 0
    refine St.new (n := 1) 2 (strs [sFlip]) H4 (by decide) rfl rfl fun k3 w5 f5 _ H5 => ?_
    refine St.new (n := 1) 3 [.slice none 0 0] H5 (by decide) rfl rfl fun k4 w6 f6 _ H6 => ?_
    refine in_st 4 [(sFlip, [])] _ H6 (Opl.one H6 (by repeat (first | exact List.Mem.head _ | apply List.Mem.tail)) (by repeat (first | exact List.Mem.head _ | apply List.Mem.tail)) (Ints.nil _)) rfl rfl (by decide) (hp.img.ext H6.pal.ext) hp.sz hp.sm (by decide) (turn_bad hb) fun p1 l1 c1 w7 f7 hE7 H7 => ⟨_, _, _, _, _, _, rfl, hE7.keep _, fun k7 hk7 => ?_⟩
    refine St.locl H7 (by simp; omega) fun w8 f8 H8 => ?_
    exact to_bool (hR w8 H8.pal.ext) rfl
  have hg : good W H xs = true := by simpa using hb
  have hc := (H4.get (t := ⟨1, some ⟨k2, 0, none⟩, 2, 2, 1, i64s [x1, x2]⟩) (by repeat (first | exact List.Mem.head _ | apply List.Mem.tail)))
  have hsl := hc.sl
  obtain ⟨a0, e0, _, c0⟩ := hsl 0 _ rfl
  obtain ⟨a1, e1, _, c1⟩ := hsl 1 _ rfl
  cases e0; cases e1
  refine ⟨by omega, by omega, _, c0, by omega, by omega, _, c1, ?_⟩
  have H4a : Ths w w4.drew _ [k1] [] := H4.mono (by simp) (by simp)
  refine St.new (n := 2) 2 (strs [sFlip, sFlip]) H4a (by decide) rfl rfl fun k8 w9 f9 _ H9 => ?_
  refine St.new (n := 2) 3 (strs [sFlop, sFlop]) H9 (by decide) rfl rfl fun k9 w10 f10 _ H10 => ?_
  refine St.new (n := 2) 4 (strs [sTranspose, sTranspose]) H10 (by decide) rfl rfl fun k10 w11 f11 _ H11 => ?_
  refine St.new (n := 2) 5 (strs [sTransverse, sTransverse]) H11 (by decide) rfl rfl fun k11 w12 f12 _ H12 => ?_
  refine St.new (n := 4) 6 (fourT k8 k9 k10 k11) H12 (by decide) rfl rfl fun k12 w13 f13 _ H13 => ?_
  clear H0 H1 H2 H3 H4 H4a H9 H10 H11 H12
  have hrow : ∃ T, Ths w w13 f13 [k1] T ∧ (∃ c, (⟨c, some ⟨k12, 0, none⟩, 4, 4, 1, fourT k8 k9 k10 k11⟩ : Tg) ∈ T) ∧ ∀ n : Int, 0 ≤ n → n < 4 → ∃ c s k, (fourT k8 k9 k10 k11)[n.toNat]? = some (.slice (some ⟨k, 0, none⟩) 2 2) ∧ (⟨c, some ⟨k, 0, none⟩, 2, 2, 1, strs [s, s]⟩ : Tg) ∈ T ∧ foldM [(s, []), (s, [])] W H xs = ((W, H, xs), true) := by
    refine ⟨_, H13, ⟨6, (by repeat (first | exact List.Mem.head _ | apply List.Mem.tail))⟩, fun n n0 n1 => ?_⟩
    rcases (by omega : n = 0 ∨ n = 1 ∨ n = 2 ∨ n = 3) with rfl | rfl | rfl | rfl
    · exact ⟨2, sFlip, k8, rfl, (by repeat (first | exact List.Mem.head _ | apply List.Mem.tail)), turn_flip hg⟩
    · exact ⟨3, sFlop, k9, rfl, (by repeat (first | exact List.Mem.head _ | apply List.Mem.tail)), turn_flop hg⟩
    · exact ⟨4, sTranspose, k10, rfl, (by repeat (first | exact List.Mem.head _ | apply List.Mem.tail)), turn_transpose hg⟩
    · exact ⟨5, sTransverse, k11, rfl, (by repeat (first | exact List.Mem.head _ | apply List.Mem.tail)), turn_transverse hg⟩
  clear H13
  obtain ⟨T, H13, ⟨cset, mset⟩, hrow⟩ := hrow
  refine ⟨fun vs u => match vs with | [.int _ n] => 0 ≤ n ∧ n ≤ 4 ∧ ∃ f, Ths w u f [k1] T | _ => False, fun vs _ => match vs with | [.int _ n] => (4 - n).toNat | _ => 0, ⟨Int.le_refl _, by omega, _, H13⟩, fun n w14 hI => ?_⟩
  obtain ⟨n0, n1, f14, H14⟩ := hI
  refine brB_i (fun hlt => ?_) (fun hge => ?_)
  · have hlt : n < 4 := by simpa using hlt
    have H14' := H14.dr
    obtain ⟨cs, s, k, hv, ms, hfold⟩ := hrow n n0 hlt
    refine ⟨fun vs u => match vs with | [] => ∃ f, Ths w u f [k1] T | _ => False, ?_, ?_⟩
    · refine (St.sl H14' mset).get n0 rfl hv fun a ha => ⟨_, _, _, ha, ?_⟩
      clear H14 H13
      repeat' first
        | (refine St.locl (by assumption) (by first | (simp; done) | (simp; omega) | (intro b hb; simp at *; omega)) fun u f H => ?_)
        | (refine St.new (n := 2) 7 [.slice none 0 0, .slice none 0 0] (by assumption) (by decide) rfl rfl fun k u f _ H => ?_)
        | (refine in_st 8 [(s, []), (s, [])] _ (by assumption) (Opl.two (by assumption) (by repeat (first | exact List.Mem.head _ | assumption | refine List.mem_cons_of_mem _ ?_)) (by repeat (first | exact List.Mem.head _ | assumption | refine List.mem_cons_of_mem _ ?_)) (Ints.nil _) (Ints.nil _)) rfl rfl (by simp) (hp.img.ext (Pal.ext (Ths.pal (by assumption)))) hp.sz hp.sm (by decide) hfold fun p l c u f hE H => ⟨_, _, _, _, _, _, rfl, hE.keep _, ?_⟩)
        | (refine same_st (c := 8) (by assumption) (by repeat (first | exact List.Mem.head _ | assumption | refine List.mem_cons_of_mem _ ?_)) (hp.img.ext (Pal.ext (Ths.pal (by assumption)))) hxl fun u f hE H => ⟨_, rfl, hE.keep _, brB_f (by simp [same]) ?_⟩)
        | (refine brB_f rfl ?_)
        | (refine ⟨_, Ths.mono (by assumption) (by simp) (fun t ht => by repeat (first | assumption | refine List.mem_cons_of_mem _ ?_))⟩)
        | (intro k hk)
        | (refine And.intro ?_ ?_)
    · intro w31 hI
      obtain ⟨f31, H31⟩ := hI
      rw [w64 (x := n + 1) (by omega) (by omega)]
      exact ⟨⟨by omega, by omega, f31, H31⟩, by show (4 - (n + 1)).toNat < (4 - n).toNat; omega⟩
  clear hge
  obtain ⟨zs, hz1, hz2⟩ := turn_half hg
  have hzl : zs.length < 2 ^ 62 := by have := foldM_len' hz1 (by simp); simp only at this; omega
  obtain ⟨ea, a0, a1⟩ := rem4097 x1
  obtain ⟨eb, b0, b1⟩ := rem4097 x2
  rw [ea, eb, show (0 : Int) - x1.tmod 4097 = -x1.tmod 4097 by omega, show (0 : Int) - x2.tmod 4097 = -x2.tmod 4097 by omega, w64 (x := -x1.tmod 4097) (by omega) (by omega), w64 (x := -x2.tmod 4097) (by omega) (by omega)]
  generalize x1.tmod 4097 = a at *
  generalize x2.tmod 4097 = b at *
  refine St.new (n := 4) 21 (strs [sRotate, sRotate, sRotate, sRotate]) H14 (by decide) rfl rfl fun k101 w33 f33 _ H33 => ?_
  refine St.new (n := 1) 22 (i64s [1]) H33 (by decide) rfl rfl fun k102 w34 f34 _ H34 => ?_
  refine St.new (n := 1) 23 (i64s [1]) H34 (by decide) rfl rfl fun k103 w35 f35 _ H35 => ?_
  refine St.new (n := 1) 24 (i64s [1]) H35 (by decide) rfl rfl fun k104 w36 f36 _ H36 => ?_
  refine St.new (n := 1) 25 (i64s [1]) H36 (by decide) rfl rfl fun k105 w37 f37 _ H37 => ?_
  refine St.new (n := 4) 26 [.slice (some ⟨k102, 0, none⟩) 1 1, .slice (some ⟨k103, 0, none⟩) 1 1, .slice (some ⟨k104, 0, none⟩) 1 1, .slice (some ⟨k105, 0, none⟩) 1 1] H37 (by decide) rfl rfl fun k106 w38 f38 _ H38 => ?_
  refine in_st 1 [(sRotate, [1]), (sRotate, [1]), (sRotate, [1]), (sRotate, [1])] _ H38 (Opl.four H38 (by repeat (first | exact List.Mem.head _ | apply List.Mem.tail)) (by repeat (first | exact List.Mem.head _ | apply List.Mem.tail)) (St.ints H38 (by repeat (first | exact List.Mem.head _ | apply List.Mem.tail)) (by decide)) (St.ints H38 (by repeat (first | exact List.Mem.head _ | apply List.Mem.tail)) (by decide)) (St.ints H38 (by repeat (first | exact List.Mem.head _ | apply List.Mem.tail)) (by decide)) (St.ints H38 (by repeat (first | exact List.Mem.head _ | apply List.Mem.tail)) (by decide))) rfl rfl (by simp) (hp.img.ext H38.pal.ext) hp.sz hp.sm (by decide) (turn_rot4 hg) fun p1 l1 c1 w39 f39 hE39 H39 => ⟨_, _, _, _, _, _, rfl, hE39.keep _, fun bk1 hbk1 => ?_⟩
  refine St.locl H39 (by simp; omega) fun w40 f40 H40 => ?_
  refine St.new (n := 2) 27 (strs [sRotate, sRotate]) H40 (by decide) rfl rfl fun k107 w41 f41 _ H41 => ?_
  refine St.new (n := 1) 28 (i64s [1]) H41 (by decide) rfl rfl fun k108 w42 f42 _ H42 => ?_
  refine St.new (n := 1) 29 (i64s [3]) H42 (by decide) rfl rfl fun k109 w43 f43 _ H43 => ?_
  refine St.new (n := 2) 30 [.slice (some ⟨k108, 0, none⟩) 1 1, .slice (some ⟨k109, 0, none⟩) 1 1] H43 (by decide) rfl rfl fun k110 w44 f44 _ H44 => ?_
  refine in_st 2 [(sRotate, [1]), (sRotate, [3])] _ H44 (Opl.two H44 (by repeat (first | exact List.Mem.head _ | apply List.Mem.tail)) (by repeat (first | exact List.Mem.head _ | apply List.Mem.tail)) (St.ints H44 (by repeat (first | exact List.Mem.head _ | apply List.Mem.tail)) (by decide)) (St.ints H44 (by repeat (first | exact List.Mem.head _ | apply List.Mem.tail)) (by decide))) rfl rfl (by simp) (hp.img.ext H44.pal.ext) hp.sz hp.sm (by decide) (turn_rot13 hg) fun p2 l2 c2 w45 f45 hE45 H45 => ⟨_, _, _, _, _, _, rfl, hE45.keep _, fun bk2 hbk2 => ?_⟩
  refine St.locl H45 (by simp; omega) fun w46 f46 H46 => ?_
  refine St.new (n := 2) 31 (strs [sRoll, sRoll]) H46 (by decide) rfl rfl fun k111 w47 f47 _ H47 => ?_
  refine St.new (n := 2) 32 (i64s [a, b]) H47 (by decide) rfl rfl fun k112 w48 f48 _ H48 => ?_
  refine St.new (n := 2) 33 (i64s [-a, -b]) H48 (by decide) rfl rfl fun k113 w49 f49 _ H49 => ?_
  refine St.new (n := 2) 34 [.slice (some ⟨k112, 0, none⟩) 2 2, .slice (some ⟨k113, 0, none⟩) 2 2] H49 (by decide) rfl rfl fun k114 w50 f50 _ H50 => ?_
  refine in_st 3 [(sRoll, [a, b]), (sRoll, [-a, -b])] _ H50 (Opl.two H50 (by repeat (first | exact List.Mem.head _ | apply List.Mem.tail)) (by repeat (first | exact List.Mem.head _ | apply List.Mem.tail)) (St.ints H50 (by repeat (first | exact List.Mem.head _ | apply List.Mem.tail)) (by decide)) (St.ints H50 (by repeat (first | exact List.Mem.head _ | apply List.Mem.tail)) (by decide))) rfl rfl (by simp) (hp.img.ext H50.pal.ext) hp.sz hp.sm (by decide) (turn_roll hg a0 a1 b0 b1) fun p3 l3 c3 w51 f51 hE51 H51 => ⟨_, _, _, _, _, _, rfl, hE51.keep _, fun bk3 hbk3 => ?_⟩
  refine St.locl H51 (by simp; omega) fun w52 f52 H52 => ?_
  refine St.new (n := 2) 35 (strs [sFlip, sFlop]) H52 (by decide) rfl rfl fun k115 w53 f53 _ H53 => ?_
  refine St.new (n := 2) 36 [.slice none 0 0, .slice none 0 0] H53 (by decide) rfl rfl fun k116 w54 f54 _ H54 => ?_
  refine in_st 4 [(sFlip, []), (sFlop, [])] _ H54 (Opl.two H54 (by repeat (first | exact List.Mem.head _ | apply List.Mem.tail)) (by repeat (first | exact List.Mem.head _ | apply List.Mem.tail)) (Ints.nil _) (Ints.nil _)) rfl rfl (by simp) (hp.img.ext H54.pal.ext) hp.sz hp.sm (by decide) hz1 fun p4 l4 c4 w55 f55 hE55 H55 => ⟨_, _, _, _, _, _, rfl, hE55.keep _, fun bk4 hbk4 => ?_⟩
  refine St.locl H55 (by simp; omega) fun w56 f56 H56 => ?_
  refine St.new (n := 1) 37 (strs [sRotate]) H56 (by decide) rfl rfl fun k117 w57 f57 _ H57 => ?_
  refine St.new (n := 1) 38 (i64s [2]) H57 (by decide) rfl rfl fun k118 w58 f58 _ H58 => ?_
  refine St.new (n := 1) 39 [.slice (some ⟨k118, 0, none⟩) 1 1] H58 (by decide) rfl rfl fun k119 w59 f59 _ H59 => ?_
  refine in_st 5 [(sRotate, [2])] _ H59 (Opl.one H59 (by repeat (first | exact List.Mem.head _ | apply List.Mem.tail)) (by repeat (first | exact List.Mem.head _ | apply List.Mem.tail)) (St.ints H59 (by repeat (first | exact List.Mem.head _ | apply List.Mem.tail)) (by decide))) rfl rfl (by simp) (hp.img.ext H59.pal.ext) hp.sz hp.sm (by decide) hz2 fun p5 l5 c5 w60 f60 hE60 H60 => ⟨_, _, _, _, _, _, rfl, hE60.keep _, fun bk5 hbk5 => ?_⟩
  refine brB_t rfl ?_
  refine St.locl H60 (by simp; omega) fun w61 f61 H61 => ?_
  refine same_st (c := 1) H61 (by repeat (first | exact List.Mem.head _ | apply List.Mem.tail)) (hp.img.ext H61.pal.ext) hxl fun w62 f62 hE62 H62 => ⟨_, rfl, hE62.keep _, brB_t (by simp [same]) ?_⟩
  refine same_st (c := 2) H62 (by repeat (first | exact List.Mem.head _ | apply List.Mem.tail)) (hp.img.ext H62.pal.ext) hxl fun w63 f63 hE63 H63 => ⟨_, rfl, hE63.keep _, brB_t (by simp [same]) ?_⟩
  refine same_st (c := 3) H63 (by repeat (first | exact List.Mem.head _ | apply List.Mem.tail)) (hp.img.ext H63.pal.ext) hxl fun w64 f64 hE64 H64 => ⟨_, rfl, hE64.keep _, brB_t (by simp [same]) ?_⟩
  refine same_st (c := 4) H64 (by repeat (first | exact List.Mem.head _ | apply List.Mem.tail)) (St.img (c := 5) H64 (by repeat (first | exact List.Mem.head _ | apply List.Mem.tail))) hzl fun w65 f65 hE65 H65 => ⟨_, rfl, hE65.keep _, to_bool (hR _ H65.pal.ext) (by simp [same])⟩
end Go.Proofs.Ytdephacjcljinaa
