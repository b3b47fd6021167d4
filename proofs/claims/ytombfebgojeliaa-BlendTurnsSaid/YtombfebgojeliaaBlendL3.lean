/- Blend: where order makes no difference. -/
import Derived.Test.YtombfebgojeliaaBP2
import Derived.Test.YtombfebgojeliaaVcsQBlendTurns
namespace Go.Proofs.Ytombfebgojeliaa
open Go Go.Vc Go.RowKit
set_option maxRecDepth 100000
set_option linter.unusedVariables false
set_option linter.unusedSimpArgs false

set_option maxHeartbeats 4000000 in
theorem turns_walk {w : World} {p q : Option Addr} {lp cp lq cq : Nat} {xs ys : List Int} {W H V G : Int} {R : Ending → World → Prop} (hp : ImgOk w W H p lp cp xs) (hq : ImgOk w V G q lq cq ys) (hR : ∀ w', Ext w w' → R (.returned (.bool true)) w') :
    Calls P F.law23_BlendTurns #[.agg #[i64 W, i64 H, .slice p lp cp], .agg #[i64 V, i64 G, .slice q lq cq]] w R := by
  refine calls_law23_BlendTurns _ _ _ _ _ _ _ _ _ _ _ _ ?_
  have H0 := St.start w
  intro k1 hk1 k2 hk2
  refine St.locl H0 (by first | (simp; done) | (simp; omega) | (intro b hb; simp at *; omega)) fun w1 f1 H1 => ?_
  refine wakes_spec fun w2 hE2 => ⟨_, rfl, hE2.keep _, brB_f rfl ?_⟩
  have H2 := H1.step hE2 0
  refine St.new (n := 6) 9 (strs six) H2 (by decide) rfl rfl fun k3 w3 f3 _ H3 => ?_
  refine ⟨fun vs u => match vs with | [.int _ n] => 0 ≤ n ∧ n ≤ 6 ∧ ∃ f, Ths w u f [k2, k1] [⟨9, some ⟨k3, 0, none⟩, 6, 6, 1, strs six⟩] | _ => False, fun vs _ => match vs with | [.int _ n] => (6 - n).toNat | _ => 0, ⟨Int.le_refl _, by omega, _, H3⟩, fun n w4 hI => ?_⟩
  obtain ⟨n0, n1, f4, H4⟩ := hI
  have H4' := H4.dr
  clear H0 H1 H2 H3
  refine brB_i (fun hlt => ?_) (fun hge => ?_)
  · have hlt : n < 6 := by simpa using hlt
    have hlen : six.length = 6 := rfl
    have hmem : six.getD n.toNat ByteArray.empty ∈ six := mem_getD.2 ⟨n.toNat, by omega, rfl⟩
    have hs := strs_get (l := six) (i := n.toNat) (by omega)
    generalize six.getD n.toNat ByteArray.empty = s at hmem hs
    have ht := app_turn (xs := xs) (ys := ys) (W := W) (H := H) (V := V) (G := G) hmem
    refine ⟨fun vs u => match vs with | [.int _ n, .pointer (some ⟨k, _, _⟩), .int _ a, .int _ b, .slice p l c] => n = (appR s [] W H xs V G ys).2.2.2 ∧ a = (appR s [] W H xs V G ys).1 ∧ b = (appR s [] W H xs V G ys).2.1 ∧ ∃ f, Ths w u f [k, k2, k1] [⟨4, p, l, c, 1, px (appR s [] W H xs V G ys).2.2.1⟩, ⟨9, some ⟨k3, 0, none⟩, 6, 6, 1, strs six⟩] | _ => False, ?_, ?_⟩
    · refine (H4'.get (t := ⟨9, some ⟨k3, 0, none⟩, 6, 6, 1, strs six⟩) (by simp)).sl.get n0 rfl hs fun a ha => ⟨_, ha, ?_⟩
      repeat' first
        | (refine St.locl (by assumption) (by first | (simp; done) | (simp; omega) | (intro b hb; simp at *; omega)) fun u f H => ?_)
        | (refine own_w 2 (by assumption) hp (by decide) fun p c u f hE H => ⟨_, _, _, _, _, rfl, hE.keep _, hE.keeps, ?_⟩)
        | (refine own_w 3 (by assumption) hq (by decide) fun p c u f hE H => ⟨_, _, _, _, _, rfl, hE.keep _, hE.keeps, ?_⟩)
        | (refine apply_st 4 _ (by assumption) (Ints.nil _) (St.img (c := 2) (by assumption) (by repeat (first | exact List.Mem.head _ | apply List.Mem.tail))) (St.img (c := 3) (by assumption) (by repeat (first | exact List.Mem.head _ | apply List.Mem.tail))) (St.room (by assumption) (by repeat (first | exact List.Mem.head _ | apply List.Mem.tail))) (St.room (by assumption) (by repeat (first | exact List.Mem.head _ | apply List.Mem.tail))) hp.sm hq.sm (by decide) rfl fun p l c u f hE H => ⟨_, _, _, _, _, _, rfl, hE.keep _, ?_⟩)
        | (refine ⟨rfl, rfl, rfl, _, Ths.mono (by assumption) (by simp) (by simp)⟩)
        | (intro k hk)
        | (refine And.intro ?_ ?_)
    clear H4 H4'
    intro n24 k26 n25 n26 p10 k27 k28 w21 hI
    obtain ⟨rfl, rfl, rfl, f21, H21⟩ := hI
    have H21' := H21.dr
    refine ⟨fun vs u => match vs with | [.int _ n, .pointer (some ⟨k, _, _⟩), .int _ a, .int _ b, .slice p l c] => n = (appR s [] V G ys W H xs).2.2.2 ∧ a = (appR s [] V G ys W H xs).1 ∧ b = (appR s [] V G ys W H xs).2.1 ∧ ∃ f, Ths w u f [k, k26, k2, k1] [⟨5, p, l, c, 1, px (appR s [] V G ys W H xs).2.2.1⟩, ⟨4, p10, k27, k28, 1, px (appR s [] W H xs V G ys).2.2.1⟩, ⟨9, some ⟨k3, 0, none⟩, 6, 6, 1, strs six⟩] | _ => False, ?_, ?_⟩
    · refine (H21'.get (t := ⟨9, some ⟨k3, 0, none⟩, 6, 6, 1, strs six⟩) (by simp)).sl.get n0 rfl hs fun a ha => ⟨_, ha, ?_⟩
      repeat' first
        | (refine St.locl (by assumption) (by first | (simp; done) | (simp; omega) | (intro b hb; simp at *; omega)) fun u f H => ?_)
        | (refine own_w 2 (by assumption) hp (by decide) fun p c u f hE H => ⟨_, _, _, _, _, rfl, hE.keep _, hE.keeps, ?_⟩)
        | (refine own_w 3 (by assumption) hq (by decide) fun p c u f hE H => ⟨_, _, _, _, _, rfl, hE.keep _, hE.keeps, ?_⟩)
        | (refine apply_st 5 _ (by assumption) (Ints.nil _) (St.img (c := 3) (by assumption) (by repeat (first | exact List.Mem.head _ | apply List.Mem.tail))) (St.img (c := 2) (by assumption) (by repeat (first | exact List.Mem.head _ | apply List.Mem.tail))) (St.room (by assumption) (by repeat (first | exact List.Mem.head _ | apply List.Mem.tail))) (St.room (by assumption) (by repeat (first | exact List.Mem.head _ | apply List.Mem.tail))) hq.sm hp.sm (by decide) rfl fun p l c u f hE H => ⟨_, _, _, _, _, _, rfl, hE.keep _, ?_⟩)
        | (refine ⟨rfl, rfl, rfl, _, Ths.mono (by assumption) (by simp) (by simp)⟩)
        | (intro k hk)
        | (refine And.intro ?_ ?_)
    clear H21 H21'
    intro n49 k51 n50 n51 p20 k52 k53 w38 hI
    obtain ⟨rfl, rfl, rfl, f38, H38⟩ := hI
    have hle := appR_len (op := s) (args := []) (xs := xs) (ys := ys) (W := W) (H := H) (V := V) (G := G)
    have l4 := St.len H38 (c := 4) (p := p10) (by repeat (first | exact List.Mem.head _ | apply List.Mem.tail))
    refine brB_f (by simp [ht.e]) ?_
    refine colours_spec (St.img (c := 4) H38 (by repeat (first | exact List.Mem.head _ | apply List.Mem.tail))) (St.img (c := 5) H38 (by repeat (first | exact List.Mem.head _ | apply List.Mem.tail))) (by omega) ht fun w39 hE39 => ⟨_, rfl, hE39.keep _, brB_f rfl ?_⟩
    rw [w64 (x := n + 1) (by omega) (by omega)]
    exact ⟨⟨by omega, by omega, _, (H38.step hE39 0).mono (by simp) (by simp)⟩, by show (6 - (n + 1)).toNat < (6 - n).toNat; omega⟩
  clear hge
  refine ⟨fun vs u => match vs with | [.int _ n, .pointer (some ⟨k, _, _⟩), .int _ a, .int _ b, .slice p l c] => n = (appR sMix [0] W H xs V G ys).2.2.2 ∧ a = (appR sMix [0] W H xs V G ys).1 ∧ b = (appR sMix [0] W H xs V G ys).2.1 ∧ ∃ f, Ths w u f [k, k2, k1] [⟨4, p, l, c, 1, px (appR sMix [0] W H xs V G ys).2.2.1⟩] | _ => False, ?_, ?_⟩
  · repeat' first
      | (refine St.locl (by assumption) (by first | (simp; done) | (simp; omega) | (intro b hb; simp at *; omega)) fun u f H => ?_)
      | (refine St.new (n := 1) 6 (i64s [0]) (by assumption) (by decide) rfl rfl fun k w f hE H => ?_)
      | (refine own_w 2 (by assumption) hp (by decide) fun p c u f hE H => ⟨_, _, _, _, _, rfl, hE.keep _, hE.keeps, ?_⟩)
      | (refine own_w 3 (by assumption) hq (by decide) fun p c u f hE H => ⟨_, _, _, _, _, rfl, hE.keep _, hE.keeps, ?_⟩)
      | (refine own_w 3 (by assumption) hq (by decide) fun p c u f hE H => ⟨_, _, _, _, _, rfl, hE.keep _, ?_⟩)
      | (refine apply_st 4 _ (by assumption) (St.ints (c := 6) (by assumption) (by repeat (first | exact List.Mem.head _ | apply List.Mem.tail)) (by decide)) (St.img (c := 2) (by assumption) (by repeat (first | exact List.Mem.head _ | apply List.Mem.tail))) (St.img (c := 3) (by assumption) (by repeat (first | exact List.Mem.head _ | apply List.Mem.tail))) (St.room (by assumption) (by repeat (first | exact List.Mem.head _ | apply List.Mem.tail))) (St.room (by assumption) (by repeat (first | exact List.Mem.head _ | apply List.Mem.tail))) hp.sm hq.sm (by decide) rfl fun p l c u f hE H => ⟨_, _, _, _, _, _, rfl, hE.keep _, ?_⟩)
      | (refine ⟨rfl, rfl, rfl, _, Ths.mono (by assumption) (by simp) (by simp)⟩)
      | (intro k hk)
      | (refine And.intro ?_ ?_)
  clear H4 H4'
  intro n129 k137 n130 n131 p52 k138 k139 w106 hI
  obtain ⟨rfl, rfl, rfl, f106, H106⟩ := hI
  have H106' := H106.dr
  refine ⟨fun vs u => match vs with | [.int _ n, .pointer (some ⟨k, _, _⟩), .int _ a, .int _ b, .slice p l c] => n = (appR sMix [256] W H xs V G ys).2.2.2 ∧ a = (appR sMix [256] W H xs V G ys).1 ∧ b = (appR sMix [256] W H xs V G ys).2.1 ∧ ∃ f, Ths w u f [k, k137, k2, k1] [⟨5, p, l, c, 1, px (appR sMix [256] W H xs V G ys).2.2.1⟩, ⟨4, p52, k138, k139, 1, px (appR sMix [0] W H xs V G ys).2.2.1⟩] | _ => False, ?_, ?_⟩
  · repeat' first
      | (refine St.locl (by assumption) (by first | (simp; done) | (simp; omega) | (intro b hb; simp at *; omega)) fun u f H => ?_)
      | (refine St.new (n := 1) 6 (i64s [256]) (by assumption) (by decide) rfl rfl fun k w f hE H => ?_)
      | (refine own_w 2 (by assumption) hp (by decide) fun p c u f hE H => ⟨_, _, _, _, _, rfl, hE.keep _, hE.keeps, ?_⟩)
      | (refine own_w 3 (by assumption) hq (by decide) fun p c u f hE H => ⟨_, _, _, _, _, rfl, hE.keep _, hE.keeps, ?_⟩)
      | (refine own_w 3 (by assumption) hq (by decide) fun p c u f hE H => ⟨_, _, _, _, _, rfl, hE.keep _, ?_⟩)
      | (refine apply_st 5 _ (by assumption) (St.ints (c := 6) (by assumption) (by repeat (first | exact List.Mem.head _ | apply List.Mem.tail)) (by decide)) (St.img (c := 2) (by assumption) (by repeat (first | exact List.Mem.head _ | apply List.Mem.tail))) (St.img (c := 3) (by assumption) (by repeat (first | exact List.Mem.head _ | apply List.Mem.tail))) (St.room (by assumption) (by repeat (first | exact List.Mem.head _ | apply List.Mem.tail))) (St.room (by assumption) (by repeat (first | exact List.Mem.head _ | apply List.Mem.tail))) hp.sm hq.sm (by decide) rfl fun p l c u f hE H => ⟨_, _, _, _, _, _, rfl, hE.keep _, ?_⟩)
      | (refine ⟨rfl, rfl, rfl, _, Ths.mono (by assumption) (by simp) (by simp)⟩)
      | (intro k hk)
      | (refine And.intro ?_ ?_)
  clear H106 H106'
  intro n209 k223 n210 n211 p84 k224 k225 w173 hI
  obtain ⟨rfl, rfl, rfl, f173, H173⟩ := hI
  refine brB_i (fun hb => to_bool (hR _ H173.pal.ext) (by simp [mix_err])) (fun hb => ?_)
  have hb : (appR sMix [0] W H xs V G ys).2.2.2 = 0 := by simpa using hb
  have hb2 : (appR sMix [256] W H xs V G ys).2.2.2 = 0 := by rw [← mix_err]; exact hb
  obtain ⟨e1, g1⟩ := mix_none hb
  obtain ⟨e2, g2⟩ := mix_all hb2
  rw [e1, e2] at H173
  rw [e1, e2]
  have hxl := good_small g1
  have hyl := good_small g2
  have l4 := St.len H173 (c := 4) (p := p52) (by repeat (first | exact List.Mem.head _ | apply List.Mem.tail))
  have l5 := St.len H173 (c := 5) (p := p84) (by repeat (first | exact List.Mem.head _ | apply List.Mem.tail))
  simp only at l4 l5
  refine brB_t rfl ?_
  refine refSame_spec (St.img (c := 4) H173 (by repeat (first | exact List.Mem.head _ | apply List.Mem.tail))) (hp.img.ext H173.pal.ext) (by omega) fun w174 hE174 => ⟨_, rfl, hE174.keep _, brB_t (by simp [same]) ?_⟩
  have H174 := H173.step hE174 0
  refine refSame_spec (St.img (c := 5) H174 (by repeat (first | exact List.Mem.head _ | apply List.Mem.tail))) (hq.img.ext H174.pal.ext) (by omega) fun w175 hE175 => ⟨_, rfl, hE175.keep _, to_bool (hR _ (H174.pal.ext.trans hE175)) (by simp [same])⟩
end Go.Proofs.Ytombfebgojeliaa
