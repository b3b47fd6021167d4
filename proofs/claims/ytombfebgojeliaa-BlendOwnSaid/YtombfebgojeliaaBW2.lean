/- Blend: what is sure ahead of each law. -/
import Derived.Test.YtombfebgojeliaaBW1
import Derived.Test.YtombfebgojeliaaVcsQwakes
namespace Go.Proofs.Ytombfebgojeliaa
open Go Go.Vc Go.RowKit
set_option maxRecDepth 100000
set_option linter.unusedVariables false
set_option linter.unusedSimpArgs false

set_option maxHeartbeats 4000000 in
theorem wakes_spec {w : World} {R : Ending → World → Prop} (hR : ∀ w', Ext w w' → R (.returned (.bool true)) w') : Calls P F.law23_wakes #[] w R := by
  refine calls_law23_wakes _ _ ?_
  have H := St.start w
  have sP : SmL wkP := SmL.of rfl
  have sQ : SmL wkQ := SmL.of rfl
  refine St.new (n := 4) 1 (px wkP) H (by decide) rfl rfl fun k1 w1 f1 _ H => ?_
  intro k2 hk2
  refine St.locl H (by simp; omega) fun w2 f2 H => ?_
  refine St.new (n := 4) 2 (px wkQ) H (by decide) rfl rfl fun k3 w3 f3 _ H => ?_
  intro k4 hk4
  refine ⟨fun vs u => match vs with | [.int _ n, .pointer (some ⟨k, _, _⟩), .int _ a, .int _ b, .slice p l c] => n = 0 ∧ l = 4 ∧ ∃ f, Ths w u f [k, k4, k2] [⟨7, p, l, c, 1, px [0, 0, 7, 65535]⟩, ⟨2, some ⟨k3, 0, none⟩, 4, 4, 1, px wkQ⟩, ⟨1, some ⟨k1, 0, none⟩, 4, 4, 1, px wkP⟩] | _ => False, ?_, ?_⟩
  · repeat' first
      | (refine St.locl (by assumption) (by first | (simp; done) | (simp; omega) | (simp at hk ⊢; omega)) fun w2 f2 H => ?_)
      | (refine own_st 5 (by assumption) (St.img (by assumption) (by repeat (first | exact List.Mem.head _ | apply List.Mem.tail))) (by decide) (by decide) fun p c u f hE H => ⟨_, _, _, _, _, rfl, hE.keep _, hE.keeps, ?_⟩)
      | (refine own_st 5 (by assumption) (St.img (by assumption) (by repeat (first | exact List.Mem.head _ | apply List.Mem.tail))) (by decide) (by decide) fun p c u f hE H => ⟨_, _, _, _, _, rfl, hE.keep _, ?_⟩)
      | (refine apply_st 7 _ (by assumption) (Ints.nil _) (St.img (by assumption) (by repeat (first | exact List.Mem.head _ | apply List.Mem.tail))) (St.img (by assumption) (by repeat (first | exact List.Mem.head _ | apply List.Mem.tail))) (St.room (by assumption) (by repeat (first | exact List.Mem.head _ | apply List.Mem.tail))) (St.room (by assumption) (by repeat (first | exact List.Mem.head _ | apply List.Mem.tail))) sQ sP (by decide) wk1 fun p l c u f hE H => ⟨_, _, _, _, _, _, rfl, hE.keep _, ?_⟩)
      | (refine ⟨rfl, St.len (xs := [0, 0, 7, 65535]) (by assumption) (by repeat (first | exact List.Mem.head _ | apply List.Mem.tail)), _, Ths.mono (by assumption) (by simp) (by simp)⟩)
      | (intro k hk)
      | (refine And.intro ?_ ?_)
  intro n23 k27 n24 n25 p10 k28 k29 w21 hI1
  obtain ⟨rfl, rfl, f21, H⟩ := hI1
  have H' := H.dr
  refine ⟨fun vs u => match vs with | [.int _ n, .pointer (some ⟨k, _, _⟩), .int _ a, .int _ b, .slice p l c] => n = 0 ∧ a = 1 ∧ b = 1 ∧ l = 4 ∧ ∃ f, Ths w u f [k, k27, k4, k2] [⟨8, p, l, c, 1, px wkQ⟩, ⟨7, p10, 4, k29, 1, px [0, 0, 7, 65535]⟩, ⟨2, some ⟨k3, 0, none⟩, 4, 4, 1, px wkQ⟩] | _ => False, ?_, ?_⟩
  · repeat' first
      | (refine St.locl (by assumption) (by first | (simp; done) | (simp; omega) | (simp at hk ⊢; omega)) fun w2 f2 H => ?_)
      | (refine St.new (n := 2) 6 (i64s [0, 0]) (by assumption) (by decide) rfl rfl fun k w f _ H => ?_)
      | (refine own_st 5 (by assumption) (St.img (by assumption) (by repeat (first | exact List.Mem.head _ | apply List.Mem.tail))) (by decide) (by decide) fun p c u f hE H => ⟨_, _, _, _, _, rfl, hE.keep _, hE.keeps, ?_⟩)
      | (refine own_st 5 (by assumption) (St.img (by assumption) (by repeat (first | exact List.Mem.head _ | apply List.Mem.tail))) (by decide) (by decide) fun p c u f hE H => ⟨_, _, _, _, _, rfl, hE.keep _, ?_⟩)
      | (refine apply_st 8 _ (by assumption) (St.ints (by assumption) (by repeat (first | exact List.Mem.head _ | apply List.Mem.tail)) (by decide)) (St.img (by assumption) (by repeat (first | exact List.Mem.head _ | apply List.Mem.tail))) (St.img (by assumption) (by repeat (first | exact List.Mem.head _ | apply List.Mem.tail))) (St.room (by assumption) (by repeat (first | exact List.Mem.head _ | apply List.Mem.tail))) (St.room (by assumption) (by repeat (first | exact List.Mem.head _ | apply List.Mem.tail))) sP sQ (by decide) wk2 fun p l c u f hE H => ⟨_, _, _, _, _, _, rfl, hE.keep _, ?_⟩)
      | (refine ⟨rfl, rfl, rfl, St.len (xs := wkQ) (by assumption) (by repeat (first | exact List.Mem.head _ | apply List.Mem.tail)), _, Ths.mono (by assumption) (by simp) (by simp)⟩)
      | (intro k hk)
      | (refine And.intro ?_ ?_)
  clear H H'
  intro n103 k113 n104 n105 p42 k114 k115 w88 hI2
  obtain ⟨rfl, rfl, rfl, rfl, f88, H⟩ := hI2
  refine Size_spec (Ints.nil _) fun w89 hE89 => ?_
  rw [wk3]
  refine ⟨_, _, _, rfl, hE89.keep _, brB_t rfl ?_⟩
  have H89 := H.step hE89 0
  have iX := St.img H89 (xs := [0, 0, 7, 65535]) (p := p10) (c := 7) (by repeat (first | exact List.Mem.head _ | apply List.Mem.tail))
  have iY := St.img H89 (xs := wkQ) (p := p42) (c := 8) (by repeat (first | exact List.Mem.head _ | apply List.Mem.tail))
  have iQ := St.img H89 (xs := wkQ) (p := some ⟨k3, 0, none⟩) (c := 2) (by repeat (first | exact List.Mem.head _ | apply List.Mem.tail))
  refine getE iX.sl rfl (by decide) (by decide) fun a ha => ⟨_, ha _ (Ext.refl _), brB_t rfl ?_⟩
  refine getE iX.sl rfl (by decide) (by decide) fun a ha => ⟨_, ha _ (Ext.refl _), brB_t rfl ?_⟩
  refine refSame_spec iY iQ (by decide) fun w90 hE90 => ⟨_, rfl, hE90.keep _, brB_t (by decide) ?_⟩
  refine bNames_spec fun p w91 hE91 _ => ⟨_, _, _, rfl, hE91.keep _, brB_t rfl ?_⟩
  refine Check_spec (Ints.nil _) fun w92 hE92 => ?_
  rw [wk4]
  refine ⟨_, rfl, hE92.keep _, brB_t rfl ?_⟩
  refine Check_spec (Ints.nil _) fun w93 hE93 => ?_
  rw [wk5]
  exact ⟨_, rfl, hE93.keep _, hR w93 ((((H89.pal.ext.trans hE90).trans hE91).trans hE92).trans hE93)⟩
end Go.Proofs.Ytombfebgojeliaa
