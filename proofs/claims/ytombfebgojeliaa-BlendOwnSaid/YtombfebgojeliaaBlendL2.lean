/- Blend: two images side by side, or one below the other. -/
import Derived.Test.YtombfebgojeliaaBP1
namespace Go.Proofs.Ytombfebgojeliaa
open Go Go.Vc Go.RowKit
set_option maxRecDepth 100000
set_option linter.unusedVariables false
set_option linter.unusedSimpArgs false

section
variable {w u : World} {f : Nat → Nat} {L : List Nat} {l : List Tg}
theorem crop_st (i : Nat) (r : Int × Int × List Int × Int) {p : Option Addr} {len cap : Nat} {W H x y a b : Int} {xs : List Int} {R : Ending → World → Prop} (h : Ths w u f L l) (hp : Img u p len xs) (h0 : i ≠ 0) (hr : cropR W H xs x y a b = r)
    (hK : ∀ p' l' c' u' f', Ext u u' → Ths w u' f' L (⟨i, p', l', c', 1, px r.2.2.1⟩ :: l) → R (.returned (.tuple #[.agg #[i64 r.1, i64 r.2.1, .slice p' l' c'], i64 r.2.2.2])) u') :
    Calls P F.ref09_Crop #[.agg #[i64 W, i64 H, .slice p len cap], .agg #[i64 x, i64 y, i64 a, i64 b]] u R := by
  subst hr
  exact refCrop_spec hp fun p' l' c' u' hf => hK p' l' c' u' _ hf.ext (h.new hf.ext h0 hf.ow)
end
theorem good_small {a b : Int} {xs : List Int} (h : good a b xs = true) : xs.length ≤ 262144 := by
  obtain ⟨hg, hl⟩ := good_iff.1 h
  obtain ⟨g1, g2, g3, g4, g5⟩ := gfits_iff.1 hg
  omega
set_option maxHeartbeats 2000000 in
theorem joins_walk {w : World} {p q : Option Addr} {lp cp lq cq : Nat} {xs ys : List Int} {W H V G : Int} {R : Ending → World → Prop} (hp : ImgOk w W H p lp cp xs) (hq : ImgOk w V G q lq cq ys) (hR : ∀ w', Ext w w' → R (.returned (.bool true)) w') :
    Calls P F.law23_BlendJoins #[.agg #[i64 W, i64 H, .slice p lp cp], .agg #[i64 V, i64 G, .slice q lq cq]] w R := by
  refine calls_law23_BlendJoins _ _ _ _ _ _ _ _ _ _ _ _ ?_
  have H0 := St.start w
  intro k1 hk1 k2 hk2
  refine St.locl H0 (by first | (simp; done) | (simp; omega) | (intro b hb; simp at *; omega)) fun w1 f1 H1 => ?_
  refine wakes_spec fun w2 hE2 => ⟨_, rfl, hE2.keep _, brB_f rfl ?_⟩
  have H2 := (H1.step hE2 0).dr
  refine ⟨fun vs u => match vs with | [.int _ n, .pointer (some ⟨k, _, _⟩), .int _ a, .int _ b, .slice p l c] => n = (appR sBeside [] W H xs V G ys).2.2.2 ∧ a = (appR sBeside [] W H xs V G ys).1 ∧ b = (appR sBeside [] W H xs V G ys).2.1 ∧ ∃ f, Ths w u f [k, k2, k1] [⟨4, p, l, c, 1, px (appR sBeside [] W H xs V G ys).2.2.1⟩] | _ => False, ?_, ?_⟩
  · repeat' first
      | (refine St.locl (by assumption) (by first | (simp; done) | (simp; omega) | (intro b hb; simp at *; omega)) fun u f H => ?_)
      | (refine own_w 2 (by assumption) hp (by decide) fun p c u f hE H => ⟨_, _, _, _, _, rfl, hE.keep _, hE.keeps, ?_⟩)
      | (refine own_w 3 (by assumption) hq (by decide) fun p c u f hE H => ⟨_, _, _, _, _, rfl, hE.keep _, ?_⟩)
      | (refine apply_st 4 _ (by assumption) (Ints.nil _) (St.img (c := 2) (by assumption) (by repeat (first | exact List.Mem.head _ | apply List.Mem.tail))) (St.img (c := 3) (by assumption) (by repeat (first | exact List.Mem.head _ | apply List.Mem.tail))) (St.room (by assumption) (by repeat (first | exact List.Mem.head _ | apply List.Mem.tail))) (St.room (by assumption) (by repeat (first | exact List.Mem.head _ | apply List.Mem.tail))) hp.sm hq.sm (by decide) rfl fun p l c u f hE H => ⟨_, _, _, _, _, _, rfl, hE.keep _, ?_⟩)
      | (refine ⟨rfl, rfl, rfl, _, Ths.mono (by assumption) (by simp) (by simp)⟩)
      | (intro k hk)
      | (refine And.intro ?_ ?_)
  intro n23 k25 n24 n25 p10 k26 k27 w19 hI
  obtain ⟨rfl, rfl, rfl, f19, H19⟩ := hI
  refine ⟨fun vs u => vs = [] ∧ ∃ f, Ths w u f [k25, k2, k1] [], brB_i (fun hb => ?_) (fun hb => ⟨rfl, _, H19.mono (fun _ h => h) (by simp)⟩), ?_⟩
  · have hb : (appR sBeside [] W H xs V G ys).2.2.2 = 0 := by simpa using hb
    have hgp := (app_ok hb).2.1
    have hgq := (app_ok hb).2.2.1
    obtain ⟨zs, e, c1, c2, r1, r2, r3, r4⟩ := joins_beside hb
    rw [e] at H19 ⊢
    have hxl := good_small hgp
    have hyl := good_small hgq
    refine crop_st 5 _ H19 (St.img (c := 4) H19 (by repeat (first | exact List.Mem.head _ | apply List.Mem.tail))) (by decide) c1 fun p11 k28 k29 w20 f20 hE20 H20 => ⟨_, _, _, _, _, _, rfl, hE20.keep _, fun k30 hk30 => ?_⟩
    refine St.locl H20 (by first | (simp; done) | (simp; omega) | (intro b hb; simp at *; omega)) fun w21 f21 H21 => ?_
    refine crop_st 6 _ H21 (St.img (c := 4) H21 (by repeat (first | exact List.Mem.head _ | apply List.Mem.tail))) (by decide) c2 fun p12 k31 k32 w22 f22 hE22 H22 => ⟨_, _, _, _, _, _, rfl, hE22.keep _, fun k33 hk33 => brB_f rfl ?_⟩
    refine St.locl H22 (by first | (simp; done) | (simp; omega) | (intro b hb; simp at *; omega)) fun w24 f24 H24 => ?_
    have l5 := St.len H24 (c := 5) (p := p11) (by repeat (first | exact List.Mem.head _ | apply List.Mem.tail))
    have l6 := St.len H24 (c := 6) (p := p12) (by repeat (first | exact List.Mem.head _ | apply List.Mem.tail))
    refine refSame_spec (St.img (c := 5) H24 (by repeat (first | exact List.Mem.head _ | apply List.Mem.tail))) (hp.img.ext H24.pal.ext) (by rw [l5]; simp only; omega) fun w25 hE25 => ⟨_, rfl, hE25.keep _, brB_f (by simp [same]) ?_⟩
    have H25 := H24.step hE25 0
    refine refSame_spec (St.img (c := 6) H25 (by repeat (first | exact List.Mem.head _ | apply List.Mem.tail))) (hq.img.ext H25.pal.ext) (by rw [l6]; simp only; omega) fun w26 hE26 => ⟨_, rfl, hE26.keep _, brB_f (by rw [w64 (x := W + V) (by omega) (by omega)]; simp [same]) ?_⟩
    exact ⟨rfl, _, (H25.step hE26 0).mono (by simp) (by simp)⟩
  intro w27 hI2
  obtain ⟨_, f27, H27⟩ := hI2
  have H27' := H27.dr
  clear H0 H1 H2 H19
  refine ⟨fun vs u => match vs with | [.int _ n, .pointer (some ⟨k, _, _⟩), .int _ a, .int _ b, .slice p l c] => n = (appR sBelow [] W H xs V G ys).2.2.2 ∧ a = (appR sBelow [] W H xs V G ys).1 ∧ b = (appR sBelow [] W H xs V G ys).2.1 ∧ ∃ f, Ths w u f [k, k25, k2, k1] [⟨4, p, l, c, 1, px (appR sBelow [] W H xs V G ys).2.2.1⟩] | _ => False, ?_, ?_⟩
  · repeat' first
      | (refine St.locl (by assumption) (by first | (simp; done) | (simp; omega) | (intro b hb; simp at *; omega)) fun u f H => ?_)
      | (refine own_w 2 (by assumption) hp (by decide) fun p c u f hE H => ⟨_, _, _, _, _, rfl, hE.keep _, hE.keeps, ?_⟩)
      | (refine own_w 3 (by assumption) hq (by decide) fun p c u f hE H => ⟨_, _, _, _, _, rfl, hE.keep _, ?_⟩)
      | (refine apply_st 4 _ (by assumption) (Ints.nil _) (St.img (c := 2) (by assumption) (by repeat (first | exact List.Mem.head _ | apply List.Mem.tail))) (St.img (c := 3) (by assumption) (by repeat (first | exact List.Mem.head _ | apply List.Mem.tail))) (St.room (by assumption) (by repeat (first | exact List.Mem.head _ | apply List.Mem.tail))) (St.room (by assumption) (by repeat (first | exact List.Mem.head _ | apply List.Mem.tail))) hp.sm hq.sm (by decide) rfl fun p l c u f hE H => ⟨_, _, _, _, _, _, rfl, hE.keep _, ?_⟩)
      | (refine ⟨rfl, rfl, rfl, _, Ths.mono (by assumption) (by simp) (by simp)⟩)
      | (intro k hk)
      | (refine And.intro ?_ ?_)
  clear H27 H27'
  intro n54 k56 n55 n56 p22 k57 k58 w44 hI
  obtain ⟨rfl, rfl, rfl, f44, H44⟩ := hI
  refine brB_i (fun hb => ?_) (fun hb => ?_)
  · have hb : (appR sBelow [] W H xs V G ys).2.2.2 ≠ 0 := by simpa using hb
    have l4 := St.len H44 (c := 4) (p := p22) (by repeat (first | exact List.Mem.head _ | apply List.Mem.tail))
    rw [app_bad hb] at l4
    exact to_bool (hR _ H44.pal.ext) (by rw [l4]; rfl)
  · have hb : (appR sBelow [] W H xs V G ys).2.2.2 = 0 := by simpa using hb
    have hgp := (app_ok hb).2.1
    have hgq := (app_ok hb).2.2.1
    obtain ⟨zs, e, c1, c2, r1, r2, r3, r4⟩ := joins_below hb
    rw [e] at H44 ⊢
    have hxl := good_small hgp
    have hyl := good_small hgq
    refine crop_st 5 _ H44 (St.img (c := 4) H44 (by repeat (first | exact List.Mem.head _ | apply List.Mem.tail))) (by decide) c1 fun p23 k59 k60 w45 f45 hE45 H45 => ⟨_, _, _, _, _, _, rfl, hE45.keep _, fun k61 hk61 => ?_⟩
    refine St.locl H45 (by first | (simp; done) | (simp; omega) | (intro b hb; simp at *; omega)) fun w46 f46 H46 => ?_
    refine crop_st 6 _ H46 (St.img (c := 4) H46 (by repeat (first | exact List.Mem.head _ | apply List.Mem.tail))) (by decide) c2 fun p24 k62 k63 w47 f47 hE47 H47 => ⟨_, _, _, _, _, _, rfl, hE47.keep _, fun k64 hk64 => brB_t rfl ?_⟩
    refine St.locl H47 (by first | (simp; done) | (simp; omega) | (intro b hb; simp at *; omega)) fun w48 f48 H48 => ?_
    have l5 := St.len H48 (c := 5) (p := p23) (by repeat (first | exact List.Mem.head _ | apply List.Mem.tail))
    have l6 := St.len H48 (c := 6) (p := p24) (by repeat (first | exact List.Mem.head _ | apply List.Mem.tail))
    refine refSame_spec (St.img (c := 5) H48 (by repeat (first | exact List.Mem.head _ | apply List.Mem.tail))) (hp.img.ext H48.pal.ext) (by rw [l5]; simp only; omega) fun w49 hE49 => ⟨_, rfl, hE49.keep _, brB_t (by simp [same]) ?_⟩
    have H49 := H48.step hE49 0
    refine refSame_spec (St.img (c := 6) H49 (by repeat (first | exact List.Mem.head _ | apply List.Mem.tail))) (hq.img.ext H49.pal.ext) (by rw [l6]; simp only; omega) fun w50 hE50 => ⟨_, rfl, hE50.keep _, to_bool (hR _ (H49.pal.ext.trans hE50)) (by rw [w64 (x := H + G) (by omega) (by omega)]; simp [same])⟩
end Go.Proofs.Ytombfebgojeliaa
