/- Moves: what is sure ahead of each law. -/
import Derived.Test.YtdephacjcljinaaMW1
namespace Go.Proofs.Ytdephacjcljinaa
open Go Go.Vc Go.RowKit
set_option maxRecDepth 100000
set_option linter.unusedVariables false
set_option linter.unusedSimpArgs false

set_option maxHeartbeats 4000000 in
theorem wakes_spec {w : World} {R : Ending → World → Prop} (hR : ∀ w', Ext w w' → R (.returned (.bool true)) w') : Calls P F.law21_wakes #[] w R := by
  refine calls_law21_wakes _ _ ?_
  have H := St.start w
  have sM : SmL wkM := SmL.of rfl
  refine St.new (n := 12) 1 (px wkM) H (by decide) rfl rfl fun k1 w1 f1 _ H1 => ?_
  intro k2 hk2
  refine St.locl H1 (by simp; omega) fun w2 f2 H2 => ?_
  refine St.new (n := 1) 2 (i64s [1]) H2 (by decide) rfl rfl fun k3 w3 f3 _ H3 => ?_
  refine own_st 3 H3 (St.img H3 (c := 1) (by repeat (first | exact List.Mem.head _ | apply List.Mem.tail))) (by decide) (by decide) fun p4 c4 w4 f4 hE4 H4 => ⟨_, _, _, _, _, rfl, hE4.keep _, ?_⟩
  refine apply_st 4 _ H4 (St.ints (c := 2) H4 (by repeat (first | exact List.Mem.head _ | apply List.Mem.tail)) (by decide)) (Nat.le_refl _) (St.img (c := 3) H4 (by repeat (first | exact List.Mem.head _ | apply List.Mem.tail))) (St.room (c := 3) H4 (by repeat (first | exact List.Mem.head _ | apply List.Mem.tail))) sM (by decide) wk1 fun p5 l5 c5 w5 f5 hE5 H5 => ⟨_, _, _, _, _, _, rfl, hE5.keep _, fun k8 hk8 => ?_⟩
  refine St.locl H5 (by simp; omega) fun w6 f6 H6 => ?_
  refine St.new (n := 5) 5 (i64s [2, 0, 0, 0, 0]) H6 (by decide) rfl rfl fun k9 w7 f7 _ H7 => ?_
  refine Size_spec (St.ints (c := 5) H7 (by repeat (first | exact List.Mem.head _ | apply List.Mem.tail)) (by decide)) fun w8 hE8 => ?_
  rw [wk3]
  have H8 := H7.step hE8 0
  have iX := St.img H8 (xs := wkM) (p := p5) (c := 4) (by repeat (first | exact List.Mem.head _ | apply List.Mem.tail))
  have hl : l5 = 12 := iX.len
  subst hl
  refine ⟨_, _, _, rfl, hE8.keep _, brB_t rfl ?_⟩
  refine getE iX.sl rfl (by decide) (by decide) fun a ha => ⟨_, ha _ (Ext.refl _), brB_t rfl ?_⟩
  refine getE iX.sl rfl (by decide) (by decide) fun a ha => ⟨_, ha _ (Ext.refl _), brB_t rfl ?_⟩
  refine Names_spec fun p c w9 hE9 _ => ⟨_, _, _, rfl, hE9.keep _, brB_t rfl ?_⟩
  have H9 := H8.step hE9 0
  refine St.new (n := 1) 6 (i64s [1]) H9 (by decide) rfl rfl fun k12 w10 f10 _ H10 => ?_
  refine Check_spec (St.ints (c := 6) H10 (by repeat (first | exact List.Mem.head _ | apply List.Mem.tail)) (by decide)) fun w11 hE11 => ?_
  rw [wk4]
  exact ⟨_, rfl, hE11.keep _, hR w11 (H10.pal.ext.trans hE11)⟩
end Go.Proofs.Ytdephacjcljinaa
