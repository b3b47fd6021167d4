/- Moves: which operators there are; what becomes of an image. -/
import Derived.Test.YtdephacjcljinaaMovesArgs
namespace Go.Proofs.Ytdephacjcljinaa
open Go Go.Vc Go.RowKit
set_option maxRecDepth 100000
set_option linter.unusedVariables false
set_option linter.unusedSimpArgs false

section
variable {w u : World} {f : Nat → Nat} {L : List Nat} {l : List Tg}
theorem own_w (i : Nat) {p : Option Addr} {len cap : Nat} {W H : Int} {xs : List Int} {R : Ending → World → Prop} (h : Ths w u f L l) (hi : ImgOk w W H p len cap xs) (h0 : i ≠ 0)
    (hK : ∀ p' c' u' f', Ext u u' → Ths w u' f' L (⟨i, p', len, c', 1, px xs⟩ :: l) → R (.returned (.agg #[i64 W, i64 H, .slice p' len c'])) u') : Calls P F.law21_own #[.agg #[i64 W, i64 H, .slice p len cap]] u R :=
  own_st i h (hi.img.ext h.pal.ext) hi.sz h0 hK
theorem ints_w (i : Nat) {p : Option Addr} {len cap : Nat} {xs : List Int} {R : Ending → World → Prop} (h : Ths w u f L l) (hi : IntsOk w p len cap xs) (h0 : i ≠ 0)
    (hK : ∀ p' c' u' f', Ext u u' → Ths w u' f' L (⟨i, p', len, c', 1, i64s xs⟩ :: l) → R (.returned (.slice p' len c')) u') : Calls P F.law21_ints #[.slice p len cap] u R :=
  ints_spec (hi.ints.ext h.pal.ext) fun p' c' u' hf => hK p' c' u' _ hf.ext (h.new hf.ext h0 hf.ow)
end
theorem checks_walk {w : World} {s : ByteArray} {b : Option Addr} {len cap : Nat} {xs : List Int} {x1 x2 : Int} {R : Ending → World → Prop} {Q : Prop} (hq : Q) (hc : IntsOk w b len cap xs) (_ : True) (hR : ∀ w', Ext w w' → R (.returned (.bool true)) w') :
    Calls P F.law21_MovesChecks #[.string s, .slice b len cap, .agg #[i64 x1, i64 x2]] w R := by
  refine calls_law21_MovesChecks _ _ _ _ _ _ _ _ ?_
  intro k2 w2 hn2
  have hE2 := hn2.ext
  refine wakes_spec fun w3 hE3 => ⟨_, rfl, brB_f rfl ?_⟩
  refine Names_spec fun p1 c1 w4 hE4 h1 => ⟨_, _, _, rfl, ?_⟩
  refine rNames_spec fun p2 w5 hE5 h2 => ⟨_, _, _, rfl, ?_⟩
  have hE := ((hE2.trans hE3).trans hE4).trans hE5
  have hcs := ((hn2.cs.ext hE3).ext hE4).ext hE5
  refine ⟨fun vs u => match vs with | [.int _ n] => 0 ≤ n ∧ n ≤ 14 ∧ Ext w5 u | _ => False, fun vs _ => match vs with | [.int _ n] => (14 - n).toNat | _ => 0, ⟨Int.le_refl _, by omega, Ext.refl _⟩, fun n w6 hI => ?_⟩
  obtain ⟨n0, n1, hE6⟩ := hI
  refine brB_i (fun hlt => ?_) (fun hge => ?_)
  · have hlt : n < 14 := by simpa using hlt
    have hl14 : (strs names14).length = 14 := rfl
    refine brB_f (by simp; omega) ?_
    refine ((h1.ext (hE5.trans hE6).drew)).get n0 (by rw [hl14]) (strs_get (show n.toNat < names14.length by have : names14.length = 14 := rfl; omega)) fun a ha => ⟨_, ha, ?_⟩
    refine ((h2.ext hE6.drew)).get n0 (by rw [hl14]) (strs_get (show n.toNat < names14.length by have : names14.length = 14 := rfl; omega)) fun a ha => ⟨_, ha, ?_⟩
    refine brB_f (by simp) ?_
    rw [w64 (x := n + 1) (by omega) (by omega)]
    exact ⟨⟨by omega, by omega, hE6.drew⟩, by show (14 - (n + 1)).toNat < (14 - n).toNat; omega⟩
  · have hcs6 := hcs.ext hE6.drew
    refine ⟨by omega, by omega, _, hcs6.cell (i := 0) rfl, by omega, by omega, _, hcs6.cell (i := 1) rfl, ?_⟩
    have hE06 := hE.trans hE6.drew
    have hsm := hc.ints.small
    refine ints_spec (hc.ints.ext hE06) fun p3 c3 w7 hf7 => ⟨_, _, _, rfl, hf7.ext.keeps, ?_⟩
    refine Size_spec (Ints.of_fg hf7 hsm) fun w8 hE8 => ⟨_, _, _, rfl, ?_⟩
    have hcs8 := (hcs6.ext hf7.ext).ext hE8
    refine ⟨by omega, by omega, _, hcs8.cell (i := 0) rfl, by omega, by omega, _, hcs8.cell (i := 1) rfl, ?_⟩
    have hE08 := (hE06.trans hf7.ext).trans hE8
    refine refSize_spec (hc.ints.ext hE08) fun w9 hE9 => ⟨_, _, _, rfl, brB_t rfl ?_⟩
    have hE09 := hE08.trans hE9
    refine ints_spec (hc.ints.ext hE09) fun p4 c4 w10 hf10 => ⟨_, _, _, rfl, ?_⟩
    refine Check_spec (Ints.of_fg hf10 hsm) fun w11 hE11 => ⟨_, rfl, ?_⟩
    have hE011 := (hE09.trans hf10.ext).trans hE11
    refine refCheck_spec (hc.ints.ext hE011) fun w12 hE12 => ⟨_, rfl, to_bool (hR w12 (hE011.trans hE12)) (by simp)⟩
theorem cropX_le {xs : List Int} {W x y : Int} {a : Nat} : ∀ k : Nat, (cropX xs W x y a k).length ≤ 4 * (k * a)
  | 0 => by simp [cropX]
  | k + 1 => by
    have := cropX_le (xs := xs) (W := W) (x := x) (y := y) (a := a) k
    rw [cropX, List.length_append, rowX, List.length_take, Nat.add_mul]
    omega
theorem trimR_ok {xs : List Int} {W H : Int} (hg : good W H xs = true) :
    trimR W H xs = ((trimR W H xs).1, (trimR W H xs).2.1, (trimR W H xs).2.2.1, 0) ∧ good (trimR W H xs).1 (trimR W H xs).2.1 (trimR W H xs).2.2.1 = true ∧ (trimR W H xs).1 ≤ W ∧ (trimR W H xs).2.1 ≤ H := by
  obtain ⟨hf, hlen⟩ := good_iff.1 hg
  obtain ⟨g1, g2, g3, g4, g5⟩ := gfits_iff.1 hf
  have hpos : 0 < W * H := Int.mul_pos (by omega) (by omega)
  have hT := boxT_ok hf (box_ok (xs := xs) hf (q := (W * H).toNat) (by omega))
  unfold trimR
  generalize boxT (box W H xs (W * H).toNat) = b at *
  have hin : inR b.1 b.2.1 (b.2.2.1 - b.1 + 1) (b.2.2.2 - b.2.1 + 1) W H = true := inR_iff.2 (by omega)
  unfold cropR
  rw [if_pos hg, if_pos hin]
  refine ⟨rfl, ?_, by simp only; omega, by simp only; omega⟩
  have h1 : (b.2.2.1 - b.1 + 1) * (b.2.2.2 - b.2.1 + 1) ≤ W * H := Int.mul_le_mul (by omega) (by omega) (by omega) (by omega)
  have h0 : 0 ≤ (b.2.2.1 - b.1 + 1) * (b.2.2.2 - b.2.1 + 1) := Int.mul_nonneg (by omega) (by omega)
  have hl := cropX_length hg hin (b.2.2.2 - b.2.1 + 1).toNat (by omega)
  have h2 : (((b.2.2.2 - b.2.1 + 1).toNat * (b.2.2.1 - b.1 + 1).toNat : Nat) : Int) = (b.2.2.1 - b.1 + 1) * (b.2.2.2 - b.2.1 + 1) := by
    rw [Int.natCast_mul, Int.mul_comm]
    congr 1 <;> omega
  show good (b.2.2.1 - b.1 + 1) (b.2.2.2 - b.2.1 + 1) (cropX xs W b.1 b.2.1 (b.2.2.1 - b.1 + 1).toNat (b.2.2.2 - b.2.1 + 1).toNat) = true
  refine good_iff.2 ⟨gfits_iff.2 ⟨by omega, by omega, by omega, by omega, by omega⟩, ?_⟩
  omega
theorem appR_len {op : ByteArray} {args xs : List Int} {W H : Int} : (appR op args W H xs).2.2.1.length ≤ 4 * 65536 := by
  unfold appR
  split
  · simp
  split
  · simp
  split
  · simp
  rename_i h1 h2 h3
  split
  · obtain ⟨_, hg, _⟩ := trimR_ok (show good W H xs = true by simpa using h2)
    obtain ⟨hf, hl⟩ := good_iff.1 hg
    obtain ⟨g1, g2, g3, g4, g5⟩ := gfits_iff.1 hf
    simp only; omega
  · obtain ⟨_, _, _, hf, hz⟩ := size_facts (Classical.byContradiction h3)
    rw [hz]
    obtain ⟨g1, g2, g3, g4, g5⟩ := gfits_iff.1 hf
    simp only [pxs_length]
    omega
set_option maxHeartbeats 2000000 in
theorem applies_walk {w : World} {s : ByteArray} {b p : Option Addr} {len cap lp cp : Nat} {args xs : List Int} {W H : Int} {R : Ending → World → Prop} {Q : Prop} (hq : Q) (hc : IntsOk w b len cap args) (hp : ImgOk w W H p lp cp xs) (hR : ∀ w', Ext w w' → R (.returned (.bool true)) w') :
    Calls P F.law21_MovesApplies #[.string s, .slice b len cap, .agg #[i64 W, i64 H, .slice p lp cp]] w R := by
  refine calls_law21_MovesApplies _ _ _ _ _ _ _ _ _ _ _ ?_
  have H0 := St.start w
  intro k1 hk1
  refine St.locl H0 (by first | (simp; done) | (simp; omega) | (intro b hb; simp at *; omega)) fun w1 f1 H1 => ?_
  refine wakes_spec fun w2 hE2 => ⟨_, rfl, hE2.keep _, brB_f rfl ?_⟩
  have H2 := (H1.step hE2 0).dr
  have hsm := hc.ints.small
  refine ⟨fun vs u => match vs with | [.int _ n, .pointer (some ⟨k, _, _⟩), .int _ a, .int _ b, .slice p l c] => n = (appR s args W H xs).2.2.2 ∧ a = (appR s args W H xs).1 ∧ b = (appR s args W H xs).2.1 ∧ ∃ f, Ths w u f [k, k1] [⟨4, p, l, c, 1, px (appR s args W H xs).2.2.1⟩] | _ => False, ?_, ?_⟩
  · repeat' first
      | (refine St.locl (by assumption) (by first | (simp; done) | (simp; omega) | (intro b hb; simp at *; omega)) fun u f H => ?_)
      | (refine ints_w 1 (by assumption) hc (by decide) fun p c u f hE H => ⟨_, _, _, rfl, hE.keep _, hE.keeps, ?_⟩)
      | (refine own_w 2 (by assumption) hp (by decide) fun p c u f hE H => ⟨_, _, _, _, _, rfl, hE.keep _, ?_⟩)
      | (refine apply_st 4 _ (by assumption) (St.ints (c := 1) (by assumption) (by repeat (first | exact List.Mem.head _ | apply List.Mem.tail)) hsm) (St.room (c := 1) (by assumption) (by repeat (first | exact List.Mem.head _ | apply List.Mem.tail))) (St.img (c := 2) (by assumption) (by repeat (first | exact List.Mem.head _ | apply List.Mem.tail))) (St.room (c := 2) (by assumption) (by repeat (first | exact List.Mem.head _ | apply List.Mem.tail))) hp.sm (by decide) rfl fun p l c u f hE H => ⟨_, _, _, _, _, _, rfl, hE.keep _, ?_⟩)
      | (refine ⟨rfl, rfl, rfl, _, Ths.mono (by assumption) (by simp) (by simp)⟩)
      | (intro k hk)
      | (refine And.intro ?_ ?_)
  intro n30 k37 n31 n32 p15 k38 k39 w26 hI
  obtain ⟨rfl, rfl, rfl, f26, H26⟩ := hI
  have hE26 := H26.pal.ext
  refine refApply_st 5 H26 (hc.ints.ext hE26) (hp.img.ext hE26) hp.sm (by decide) fun p16 k40 k41 w27 f27 hE27 H27 => ⟨_, _, _, _, _, _, rfl, hE27.keep _, fun k42 hk42 => ?_⟩
  refine St.locl H27 (by first | (simp; done) | (simp; omega) | (intro b hb; simp at *; omega)) fun w28 f28 H28 => ?_
  have hl := St.len H28 (c := 4) (p := p15) (by repeat (first | exact List.Mem.head _ | apply List.Mem.tail))
  have := appR_len (op := s) (args := args) (xs := xs) (W := W) (H := H)
  refine refSame_spec (St.img H28 (c := 4) (p := p15) (by repeat (first | exact List.Mem.head _ | apply List.Mem.tail))) (St.img H28 (c := 5) (p := p16) (by repeat (first | exact List.Mem.head _ | apply List.Mem.tail))) (by omega) fun w29 hE29 => ⟨_, rfl, hE29.keep _, to_bool (hR w29 (H28.pal.ext.trans hE29)) (by simp [same])⟩
end Go.Proofs.Ytdephacjcljinaa
