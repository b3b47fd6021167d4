/- Moves: trimmed images. -/
import Derived.Test.YtdephacjcljinaaMP3
import Derived.Test.YtdephacjcljinaaMovesL2
namespace Go.Proofs.Ytdephacjcljinaa
open Go Go.Vc Go.RowKit
set_option maxRecDepth 100000
set_option linter.unusedVariables false
set_option linter.unusedSimpArgs false

set_option maxHeartbeats 4000000 in
theorem trims_walk {w : World} {p : Option Addr} {lp cp : Nat} {xs : List Int} {W H : Int} {R : Ending → World → Prop} (hp : ImgOk w W H p lp cp xs) (hR : ∀ w', Ext w w' → R (.returned (.bool true)) w') :
    Calls P F.law21_MovesTrims #[.agg #[i64 W, i64 H, .slice p lp cp]] w R := by
  refine calls_law21_MovesTrims _ _ _ _ _ _ _ ?_
  have H0 := St.start w
  intro k1 hk1
  refine St.locl H0 (by simp; omega) fun w1 f1 H1 => ?_
  refine wakes_spec fun w2 hE2 => ⟨_, rfl, hE2.keep _, brB_f rfl ?_⟩
  have H2 := H1.step hE2 0
  refine own_w 2 H2 hp (by decide) fun p3 c3 w3 f3 hE3 H3 => ⟨_, _, _, _, _, rfl, hE3.keep _, ?_⟩
  refine apply_st 3 _ H3 (Ints.nil _) (Nat.le_refl _) (St.img (c := 2) H3 (by repeat (first | exact List.Mem.head _ | apply List.Mem.tail))) (St.room (c := 2) H3 (by repeat (first | exact List.Mem.head _ | apply List.Mem.tail))) hp.sm (by decide) rfl fun p4 l4 c4 w4 f4 hE4 H4 => ⟨_, _, _, _, _, _, rfl, hE4.keep _, fun k6 hk6 => ?_⟩
  refine St.locl H4 (by simp; omega) fun w5 f5 H5 => ?_
  refine refGood_spec hp.img.len fun w6 hE6 => ⟨_, rfl, hE6.keep _, ?_⟩
  have H6 := H5.step hE6 0
  refine brB_i (fun hb => to_bool (hR _ H6.pal.ext) ?_) (fun hb => ?_)
  · rw [trim_bad (by simpa using hb)]; rfl
  have hg : good W H xs = true := by simpa using hb
  clear hb
  have hg' := good_iff.1 hg
  obtain ⟨g1, g2, g3, g4, g5⟩ := gfits_iff.1 hg'.1
  have hpos : 0 < W * H := Int.mul_pos (by omega) (by omega)
  have hlen := hp.img.len
  have hl4 : 4 ≤ lp := by omega
  obtain ⟨ht, htg, htW, htH⟩ := trimR_ok hg
  rw [trim_eq hg] at H6
  rw [trim_eq hg]
  simp only at H6 ⊢
  have H6' : Ths w w6.drew _ [k6, k1] [⟨3, p4, l4, c4, 1, px (trimR W H xs).2.2.1⟩] := H6.dr.mono (by simp) (by simp)
  clear H0 H1 H2 H3 H4 H5 H6
  have hE6d : Ext w w6.drew := H6'.pal.ext
  have sm : ∀ i, Sm (xs.getD i 0) := fun i => by
    by_cases hi : i < xs.length
    · rw [List.getD, List.getElem?_eq_getElem hi]; exact hp.sm _ (List.getElem_mem hi)
    · rw [List.getD, List.getElem?_eq_none (by omega)]; exact ⟨by simp, by simp⟩
  have wsm : ∀ i, IntKind.i64.wrap (xs.getD i 0) = xs.getD i 0 := fun i => by have := sm i; simp only [Sm] at this; exact w64 (by omega) (by omega)
  refine ⟨fun vs u => match vs with | [.pointer (some ⟨k, _, _⟩), .int _ a, .int _ b, .slice p l c] => a = (appR sFrame [3, xs.getD 0 0, xs.getD 1 0, xs.getD 2 0, xs.getD 3 0] W H xs).1 ∧ b = (appR sFrame [3, xs.getD 0 0, xs.getD 1 0, xs.getD 2 0, xs.getD 3 0] W H xs).2.1 ∧ ∃ f, Ths w u f [k, k6, k1] [⟨4, p, l, c, 1, px (appR sFrame [3, xs.getD 0 0, xs.getD 1 0, xs.getD 2 0, xs.getD 3 0] W H xs).2.2.1⟩, ⟨3, p4, l4, c4, 1, px (trimR W H xs).2.2.1⟩] | _ => False, ?_, ?_⟩
  · refine getE (hp.img.ext hE6d).sl hlen (by decide) (by omega) fun a1 ha1 => ⟨_, ha1 _ (Ext.refl _), ?_⟩
    refine getE (hp.img.ext hE6d).sl hlen (by decide) (by omega) fun a2 ha2 => ⟨_, ha2 _ (Ext.refl _), ?_⟩
    refine getE (hp.img.ext hE6d).sl hlen (by decide) (by omega) fun a3 ha3 => ⟨_, ha3 _ (Ext.refl _), ?_⟩
    refine getE (hp.img.ext hE6d).sl hlen (by decide) (by omega) fun a4 ha4 => ⟨_, ha4 _ (Ext.refl _), ?_⟩
    rw [show ((0 : Int)).toNat = 0 from rfl, show ((1 : Int)).toNat = 1 from rfl, show ((2 : Int)).toNat = 2 from rfl, show ((3 : Int)).toNat = 3 from rfl, wsm 0, wsm 1, wsm 2, wsm 3]
    repeat' first
      | (refine St.locl (by assumption) (by first | (simp; done) | (simp; omega) | (intro b hb; simp at *; omega)) fun u f H => ?_)
      | (refine St.new (n := 5) 7 (i64s [3, xs.getD 0 0, xs.getD 1 0, xs.getD 2 0, xs.getD 3 0]) (by assumption) (by decide) rfl rfl fun k u f _ H => ?_)
      | (refine own_w 2 (by assumption) hp (by decide) fun p c u f hE H => ⟨_, _, _, _, _, rfl, hE.keep _, hE.keeps, ?_⟩)
      | (refine apply_st 4 _ (by assumption) (St.ints (c := 7) (by assumption) (by repeat (first | exact List.Mem.head _ | apply List.Mem.tail)) (by decide)) (St.room (c := 7) (by assumption) (by repeat (first | exact List.Mem.head _ | apply List.Mem.tail))) (St.img (c := 2) (by assumption) (by repeat (first | exact List.Mem.head _ | apply List.Mem.tail))) (St.room (c := 2) (by assumption) (by repeat (first | exact List.Mem.head _ | apply List.Mem.tail))) hp.sm (by decide) rfl fun p l c u f hE H => ⟨_, _, _, _, _, _, rfl, hE.keep _, ?_⟩)
      | (refine ⟨rfl, rfl, _, Ths.mono (by assumption) (by simp) (by simp)⟩)
      | (intro k hk)
      | (refine And.intro ?_ ?_)
  intro k45 n44 n45 p16 k46 k47 w39 hI
  obtain ⟨rfl, rfl, f39, H39⟩ := hI
  clear H6'
  refine apply_st 5 _ H39 (Ints.nil _) (Nat.le_refl _) (St.img (c := 4) H39 (by repeat (first | exact List.Mem.head _ | apply List.Mem.tail))) (St.room (c := 4) H39 (by repeat (first | exact List.Mem.head _ | apply List.Mem.tail))) (appR_sm hp.sm) (by decide) rfl fun p17 l17 c17 w40 f40 hE40 H40 => ⟨_, _, _, _, _, _, rfl, hE40.keep _, fun k50 hk50 => ?_⟩
  have hl46 := St.len H40 (c := 4) (p := p16) (by repeat (first | exact List.Mem.head _ | apply List.Mem.tail))
  refine brB_i (fun h0 => St.locl H40 (by simp; omega) fun u f H => to_bool (hR _ H.pal.ext) rfl) (fun h0 => ?_)
  have h0 : k46 ≠ 0 := by simpa using h0
  rcases frame_trim hg hp.sm with hn | ⟨ys, hfr, hgy, hty⟩
  · rw [hn] at hl46; simp at hl46; omega
  rw [hfr] at H40 ⊢
  simp only at H40 ⊢
  rw [trim_eq hgy, hty] at H40 ⊢
  simp only at H40 ⊢
  refine brB_t rfl ?_
  refine St.locl H40 (by simp; omega) fun w42 f42 H42 => ?_
  have hl3 := St.len H42 (c := 3) (p := p4) (by repeat (first | exact List.Mem.head _ | apply List.Mem.tail))
  obtain ⟨q1, q2, q3, q4, q5⟩ := gfits_iff.1 (good_iff.1 htg).1
  have := (good_iff.1 htg).2
  refine same_st (c := 3) H42 (by repeat (first | exact List.Mem.head _ | apply List.Mem.tail)) (St.img (c := 5) H42 (by repeat (first | exact List.Mem.head _ | apply List.Mem.tail))) (by omega) fun w43 f43 hE43 H43 => ⟨_, rfl, hE43.keep _, to_bool (hR _ H43.pal.ext) (by simp [same]; exact ⟨htW, htH⟩)⟩
end Go.Proofs.Ytdephacjcljinaa
