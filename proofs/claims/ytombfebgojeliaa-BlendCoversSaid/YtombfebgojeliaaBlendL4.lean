/- Blend: a clear image changes nothing, a solid one hides. -/
import Derived.Test.YtombfebgojeliaaBP3
import Derived.Test.YtombfebgojeliaaVcsQBlendCovers
namespace Go.Proofs.Ytombfebgojeliaa
open Go Go.Vc Go.RowKit
set_option maxRecDepth 100000
set_option linter.unusedVariables false
set_option linter.unusedSimpArgs false

theorem clr_fold {n : Nat} {ys : List Int} (hn : ys.length ≤ n) {l : List Int} (h : l = clrTo n ys) : l = clr ys := by rw [h, clrTo_end hn]
set_option maxHeartbeats 8000000 in
theorem covers_walk {w : World} {p q : Option Addr} {lp cp lq cq : Nat} {xs ys : List Int} {W H V G x5 x6 : Int} {R : Ending → World → Prop} (hp : ImgOk w W H p lp cp xs) (hq : ImgOk w V G q lq cq ys) (_ : True) (hR : ∀ w', Ext w w' → R (.returned (.bool true)) w') :
    Calls P F.law23_BlendCovers #[.agg #[i64 W, i64 H, .slice p lp cp], .agg #[i64 V, i64 G, .slice q lq cq], .agg #[i64 x5, i64 x6]] w R := by
  refine calls_law23_BlendCovers _ _ _ _ _ _ _ _ _ _ _ _ _ _ ?_
  have H0 := St.start w
  intro k1 hk1 k2 hk2
  refine St.locl H0 (by first | (simp; done) | (simp; omega) | (intro b hb; simp at *; omega)) fun w1 f1 H1 => ?_
  refine St.new (n := 2) 8 (i64s [x5, x6]) H1 (by decide) rfl rfl fun k3 w2 f2 _ H2 => ?_
  refine wakes_spec fun w3 hE3 => ⟨_, rfl, hE3.keep _, brB_f rfl ?_⟩
  have H3 := H2.step hE3 0
  refine refGood_spec hp.img.len fun w4 hE4 => ⟨_, rfl, hE4.keep _, brB_i (fun hb1 => ?_) (fun hb1 => ?_)⟩
  · have hb1 : good W H xs = false := by simpa using hb1
    have H4 := (H3.step hE4 0).dr
    clear H0 H1 H2 H3
    repeat' first
      | (refine St.locl (by assumption) (by first | (simp; done) | (simp; omega) | (intro b hb; simp at *; omega)) fun u f H => ?_)
      | (refine St.new (n := 2) 6 (i64s [0, 0]) (by assumption) (by decide) rfl rfl fun k w f hE H => ?_)
      | (refine own_w 2 (by assumption) hp (by decide) fun p c u f hE H => ⟨_, _, _, _, _, rfl, hE.keep _, hE.keeps, ?_⟩)
      | (refine own_w 2 (by assumption) hp (by decide) fun p c u f hE H => ⟨_, _, _, _, _, rfl, hE.keep _, ?_⟩)
      | (refine own_w 3 (by assumption) hq (by decide) fun p c u f hE H => ⟨_, _, _, _, _, rfl, hE.keep _, hE.keeps, ?_⟩)
      | (refine own_w 3 (by assumption) hq (by decide) fun p c u f hE H => ⟨_, _, _, _, _, rfl, hE.keep _, ?_⟩)
      | (refine apply_st 4 _ (by assumption) (St.ints (c := 6) (by assumption) (by repeat (first | exact List.Mem.head _ | apply List.Mem.tail)) (by decide)) (St.img (c := 2) (by assumption) (by repeat (first | exact List.Mem.head _ | apply List.Mem.tail))) (St.img (c := 3) (by assumption) (by repeat (first | exact List.Mem.head _ | apply List.Mem.tail))) (St.room (by assumption) (by repeat (first | exact List.Mem.head _ | apply List.Mem.tail))) (St.room (by assumption) (by repeat (first | exact List.Mem.head _ | apply List.Mem.tail))) hp.sm hq.sm (by decide) (over_bad (by simp [hb1])) fun p l c u f hE H => ⟨_, _, _, _, _, _, rfl, hE.keep _, ?_⟩)
      | (exact to_bool (hR _ (Ths.pal (by assumption)).ext) rfl)
      | (intro k hk)
      | (refine And.intro ?_ ?_)
  have hb1 : good W H xs = true := by simpa using hb1
  have H4 := H3.step hE4 0
  refine refGood_spec hq.img.len fun w71 hE71 => ⟨_, rfl, hE71.keep _, brB_i (fun hb2 => ?_) (fun hb2 => ?_)⟩
  · have hb2 : good V G ys = false := by simpa using hb2
    have H5 := (H4.step hE71 0).dr
    clear H0 H1 H2 H3 H4
    repeat' first
      | (refine St.locl (by assumption) (by first | (simp; done) | (simp; omega) | (intro b hb; simp at *; omega)) fun u f H => ?_)
      | (refine St.new (n := 2) 6 (i64s [0, 0]) (by assumption) (by decide) rfl rfl fun k w f hE H => ?_)
      | (refine own_w 2 (by assumption) hp (by decide) fun p c u f hE H => ⟨_, _, _, _, _, rfl, hE.keep _, hE.keeps, ?_⟩)
      | (refine own_w 2 (by assumption) hp (by decide) fun p c u f hE H => ⟨_, _, _, _, _, rfl, hE.keep _, ?_⟩)
      | (refine own_w 3 (by assumption) hq (by decide) fun p c u f hE H => ⟨_, _, _, _, _, rfl, hE.keep _, hE.keeps, ?_⟩)
      | (refine own_w 3 (by assumption) hq (by decide) fun p c u f hE H => ⟨_, _, _, _, _, rfl, hE.keep _, ?_⟩)
      | (refine apply_st 4 _ (by assumption) (St.ints (c := 6) (by assumption) (by repeat (first | exact List.Mem.head _ | apply List.Mem.tail)) (by decide)) (St.img (c := 2) (by assumption) (by repeat (first | exact List.Mem.head _ | apply List.Mem.tail))) (St.img (c := 3) (by assumption) (by repeat (first | exact List.Mem.head _ | apply List.Mem.tail))) (St.room (by assumption) (by repeat (first | exact List.Mem.head _ | apply List.Mem.tail))) (St.room (by assumption) (by repeat (first | exact List.Mem.head _ | apply List.Mem.tail))) hp.sm hq.sm (by decide) (over_bad (by simp [hb2])) fun p l c u f hE H => ⟨_, _, _, _, _, _, rfl, hE.keep _, ?_⟩)
      | (exact to_bool (hR _ (Ths.pal (by assumption)).ext) rfl)
      | (intro k hk)
      | (refine And.intro ?_ ?_)
  have hb2 : good V G ys = true := by simpa using hb2
  have H5 := (H4.step hE71 0).dr
  clear H0 H1 H2 H3 H4
  refine ⟨fun vs u => match vs with | [.pointer (some ⟨k, _, _⟩), .int _ a, .int _ b, .slice p l c, .pointer (some ⟨k', _, _⟩), .int _ a', .int _ b', .slice p' l' c'] => a = V ∧ b = G ∧ l = lq ∧ a' = W ∧ b' = H ∧ l' = lp ∧ ∃ f, Ths w u f [k', k, k2, k1] [⟨2, p, l, c, 1, px ys⟩, ⟨3, p', l', c', 1, px xs⟩, ⟨8, some ⟨k3, 0, none⟩, 2, 2, 1, i64s [x5, x6]⟩] | _ => False, ?_, ?_⟩
  · repeat' first
      | (refine St.locl (by assumption) (by first | (simp; done) | (simp; omega) | (intro b hb; simp at *; omega)) fun u f H => ?_)
      | (refine own_w 3 (by assumption) hp (by decide) fun p c u f hE H => ⟨_, _, _, _, _, rfl, hE.keep _, hE.keeps, ?_⟩)
      | (refine own_w 3 (by assumption) hp (by decide) fun p c u f hE H => ⟨_, _, _, _, _, rfl, hE.keep _, ?_⟩)
      | (refine own_w 2 (by assumption) hq (by decide) fun p c u f hE H => ⟨_, _, _, _, _, rfl, hE.keep _, hE.keeps, ?_⟩)
      | (refine own_w 2 (by assumption) hq (by decide) fun p c u f hE H => ⟨_, _, _, _, _, rfl, hE.keep _, ?_⟩)
      | (refine ⟨rfl, rfl, rfl, rfl, rfl, rfl, _, Ths.mono (by assumption) (by simp) (by simp)⟩)
      | (intro k hk)
      | (refine And.intro ?_ ?_)
  clear H5
  intro k220 n187 n188 p79 k221 k222 k223 n189 n190 p80 k224 k225 w176 hI
  obtain ⟨rfl, rfl, rfl, rfl, rfl, rfl, f176, H176⟩ := hI
  have hlp := hp.img.len
  have hlq := hq.img.len
  have hxl := good_small hb1
  have hyl := good_small hb2
  refine ⟨fun vs u => match vs with | [.int _ n] => 3 ≤ n ∧ n ≤ k221 + 4 ∧ n % 4 = 3 ∧ ∃ f, Ths w u f [k223, k220, k2, k1] [⟨2, p79, k221, k222, 1, px (clrTo n.toNat ys)⟩, ⟨3, p80, k224, k225, 1, px xs⟩, ⟨8, some ⟨k3, 0, none⟩, 2, 2, 1, i64s [x5, x6]⟩] | _ => False,
    fun vs _ => match vs with | [.int _ n] => (k221 + 4 - n).toNat | _ => 0, ⟨by omega, by omega, by omega, _, by rw [show (3 : Int).toNat = 3 from rfl, clrTo_start]; exact H176⟩, fun n w177 hI => ?_⟩
  clear H176
  obtain ⟨n0, n1, n3, f177, H177⟩ := hI
  refine brB_i (fun hlt => ?_) (fun hge => ?_)
  · have hlt : n < k221 := by simpa using hlt
    refine write_st H177 (by simp) (by omega) hlt fun a e1 e2 e3 e4 e5 => ⟨e1, e2, e3, ?_⟩
    rw [w64 (x := n + 4) (by omega) (by omega)]
    have e6 := e5 0
    rw [clrTo_step (by omega), show n.toNat + 4 = (n + 4).toNat by omega] at e6
    exact ⟨⟨by omega, by omega, by omega, _, e6⟩, by show (k221 + 4 - (n + 4)).toNat < (k221 + 4 - n).toNat; omega⟩
  have hge : ¬ n < k221 := by simpa using hge
  rw [clrTo_end (by omega)] at H177
  clear n0 n1 n3 hge
  have hcl : (clr ys).length = ys.length := by simp [clr]
  refine ⟨fun vs u => match vs with | [.int _ n] => 0 ≤ n ∧ n ≤ k224 ∧ ∃ f, Ths w u f [k223, k220, k2, k1] [⟨3, p80, k224, k225, 1, px (sldTo n.toNat xs)⟩, ⟨2, p79, k221, k222, 1, px (clr ys)⟩, ⟨8, some ⟨k3, 0, none⟩, 2, 2, 1, i64s [x5, x6]⟩] | _ => False,
    fun vs _ => match vs with | [.int _ n] => (k224 - n).toNat | _ => 0, ⟨by omega, by omega, _, by rw [show (0 : Int).toNat = 0 from rfl, sldTo_start]; exact H177.mono (fun _ h => h) (by simp)⟩, fun n w178 hI => ?_⟩
  clear H177
  obtain ⟨n0, n1, f178, H178⟩ := hI
  refine brB_i (fun hlt => ?_) (fun hge => ?_)
  · have hlt : n < k224 := by simpa using hlt
    have hnl : n.toNat < xs.length := by omega
    refine ⟨fun vs u => vs = [] ∧ ∃ f, Ths w u f [k223, k220, k2, k1] [⟨3, p80, k224, k225, 1, px (sldTo (n + 1).toNat xs)⟩, ⟨2, p79, k221, k222, 1, px (clr ys)⟩, ⟨8, some ⟨k3, 0, none⟩, 2, 2, 1, i64s [x5, x6]⟩], ?_, fun w179 hI => ?_⟩
    · have hst := sldTo_step hnl
      have hv := SmL.getD hp.sm n.toNat
      unfold Sm at hv
      refine write_st H178.dr (by simp) n0 hlt fun a2 _ _ _ e4 _ => ⟨_, e4, ?_⟩
      rw [sldTo_at hnl]
      refine write_st H178.dr (by simp) n0 hlt fun a3 e1 e2 e3 _ e5 => ⟨e1, e2, e3, ?_⟩
      rw [wu16 (by omega) (by omega)]
      have e6 := e5 (65535 - xs.getD n.toNat 0)
      refine brB_i (fun hm => ?_) (fun hm => ?_)
      · have hm : n.tmod 4 = 3 := by simpa [divZ] using hm
        rw [Int.tmod_eq_emod_of_nonneg n0] at hm
        rw [if_pos (by omega)] at hst
        refine write_st e6 (by simp) n0 hlt fun a4 g1 g2 g3 _ g5 => ⟨g1, g2, g3, rfl, f178, ?_⟩
        have g6 := g5 65535
        rw [List.set_set, hst, show n.toNat + 1 = (n + 1).toNat by omega] at g6
        exact g6
      · have hm : ¬ n.tmod 4 = 3 := by simpa [divZ] using hm
        rw [Int.tmod_eq_emod_of_nonneg n0] at hm
        rw [if_neg (by omega)] at hst
        rw [hst, show n.toNat + 1 = (n + 1).toNat by omega] at e6
        exact ⟨rfl, _, e6⟩
    · obtain ⟨_, f179, H179⟩ := hI
      rw [w64 (x := n + 1) (by omega) (by omega)]
      exact ⟨⟨by omega, by omega, _, H179⟩, by show (k224 - (n + 1)).toNat < (k224 - n).toNat; omega⟩
  have hge : ¬ n < k224 := by simpa using hge
  have hnl : n.toNat = xs.length := by omega
  rw [hnl] at H178
  clear n0 n1 hge hnl
  have H178' := H178.dr
  have sC := clr_sm hq.sm
  have sS : SmL (sld xs) := sld_sm hp.sm
  have c1 := covers_clear (a := x5) (b := x6) hb1 hb2 hp.sm
  have c2 := covers_solid hb1 hp.sm
  refine ⟨fun vs u => match vs with | [.int _ n, .pointer (some ⟨k, _, _⟩), .int _ a, .int _ b, .slice p l c] => n = 0 ∧ a = n189 ∧ b = n190 ∧ ∃ f, Ths w u f [k, k223, k220, k2, k1] [⟨5, p, l, c, 1, px xs⟩, ⟨3, p80, k224, k225, 1, px (sld xs)⟩] | _ => False, ⟨by omega, by omega, x5, St.cell H178' (c := 8) (by repeat (first | exact List.Mem.head _ | apply List.Mem.tail)) (i := 0) rfl, by omega, by omega, x6, St.cell H178' (c := 8) (by repeat (first | exact List.Mem.head _ | apply List.Mem.tail)) (i := 1) rfl, ?_⟩, ?_⟩
  · repeat' first
      | (refine St.locl (by assumption) (by first | (simp; done) | (simp; omega) | (intro b hb; simp at *; omega)) fun u f H => ?_)
      | (refine St.new (n := 2) 6 (i64s [divZ .rem .i64 x5 4097, divZ .rem .i64 x6 4097]) (by assumption) (by decide) rfl rfl fun k w f hE H => ?_)
      | (refine own_w 4 (by assumption) hp (by decide) fun p c u f hE H => ⟨_, _, _, _, _, rfl, hE.keep _, hE.keeps, ?_⟩)
      | (refine own_w 4 (by assumption) hp (by decide) fun p c u f hE H => ⟨_, _, _, _, _, rfl, hE.keep _, ?_⟩)
      | (refine apply_st 5 _ (by assumption) (St.ints (c := 6) (by assumption) (by repeat (first | exact List.Mem.head _ | apply List.Mem.tail)) (by decide)) (St.img (c := 4) (by assumption) (by repeat (first | exact List.Mem.head _ | apply List.Mem.tail))) (St.img (c := 2) (by assumption) (by repeat (first | exact List.Mem.head _ | apply List.Mem.tail))) (St.room (by assumption) (by repeat (first | exact List.Mem.head _ | apply List.Mem.tail))) (St.room (by assumption) (by repeat (first | exact List.Mem.head _ | apply List.Mem.tail))) hp.sm sC (by decide) c1 fun p l c u f hE H => ⟨_, _, _, _, _, _, rfl, hE.keep _, ?_⟩)
      | (refine ⟨rfl, rfl, rfl, _, Ths.mono (by assumption) (by simp) (by simp)⟩)
      | (intro k hk)
      | (refine And.intro ?_ ?_)
  clear H178 H178'
  intro n230 k264 n231 n232 p94 k265 k266 w212 hI
  obtain ⟨rfl, rfl, rfl, f212, H212⟩ := hI
  have H212' := H212.dr
  refine ⟨fun vs u => match vs with | [.int _ n, .pointer (some ⟨k, _, _⟩), .int _ a, .int _ b, .slice p l c] => n = 0 ∧ a = n231 ∧ b = n232 ∧ ∃ f, Ths w u f [k, k264, k223, k220, k2, k1] [⟨9, p, l, c, 1, px (sld xs)⟩, ⟨5, p94, k265, k266, 1, px xs⟩, ⟨3, p80, k224, k225, 1, px (sld xs)⟩] | _ => False, ?_, ?_⟩
  · repeat' first
      | (refine St.locl (by assumption) (by first | (simp; done) | (simp; omega) | (intro b hb; simp at *; omega)) fun u f H => ?_)
      | (refine St.new (n := 2) 6 (i64s [0, 0]) (by assumption) (by decide) rfl rfl fun k w f hE H => ?_)
      | (refine own_w 4 (by assumption) hp (by decide) fun p c u f hE H => ⟨_, _, _, _, _, rfl, hE.keep _, hE.keeps, ?_⟩)
      | (refine own_w 4 (by assumption) hp (by decide) fun p c u f hE H => ⟨_, _, _, _, _, rfl, hE.keep _, ?_⟩)
      | (refine own_st 7 (by assumption) (St.img (c := 3) (by assumption) (by repeat (first | exact List.Mem.head _ | apply List.Mem.tail))) hp.sz (by decide) fun p c u f hE H => ⟨_, _, _, _, _, rfl, hE.keep _, hE.keeps, ?_⟩)
      | (refine own_st 7 (by assumption) (St.img (c := 3) (by assumption) (by repeat (first | exact List.Mem.head _ | apply List.Mem.tail))) hp.sz (by decide) fun p c u f hE H => ⟨_, _, _, _, _, rfl, hE.keep _, ?_⟩)
      | (refine apply_st 9 _ (by assumption) (St.ints (c := 6) (by assumption) (by repeat (first | exact List.Mem.head _ | apply List.Mem.tail)) (by decide)) (St.img (c := 4) (by assumption) (by repeat (first | exact List.Mem.head _ | apply List.Mem.tail))) (St.img (c := 7) (by assumption) (by repeat (first | exact List.Mem.head _ | apply List.Mem.tail))) (St.room (by assumption) (by repeat (first | exact List.Mem.head _ | apply List.Mem.tail))) (St.room (by assumption) (by repeat (first | exact List.Mem.head _ | apply List.Mem.tail))) hp.sm sS (by decide) c2 fun p l c u f hE H => ⟨_, _, _, _, _, _, rfl, hE.keep _, ?_⟩)
      | (refine ⟨rfl, rfl, rfl, _, Ths.mono (by assumption) (by simp) (by simp)⟩)
      | (intro k hk)
      | (refine And.intro ?_ ?_)
  clear H212 H212'
  intro n310 k350 n311 n312 p126 k351 k352 w279 hI
  obtain ⟨rfl, rfl, rfl, f279, H279⟩ := hI
  have l5 := St.len H279 (c := 5) (p := p94) (by repeat (first | exact List.Mem.head _ | apply List.Mem.tail))
  have l9 := (St.len H279 (c := 9) (p := p126) (by repeat (first | exact List.Mem.head _ | apply List.Mem.tail))).trans (sldTo_length xs.length xs)
  refine brB_t rfl ?_
  refine refSame_spec (St.img (c := 5) H279 (by repeat (first | exact List.Mem.head _ | apply List.Mem.tail))) (hp.img.ext H279.pal.ext) (by omega) fun w280 hE280 => ⟨_, rfl, hE280.keep _, brB_t (by simp [same]) ?_⟩
  have H280 := H279.step hE280 0
  refine refSame_spec (St.img (c := 9) H280 (by repeat (first | exact List.Mem.head _ | apply List.Mem.tail))) (St.img (c := 3) H280 (by repeat (first | exact List.Mem.head _ | apply List.Mem.tail))) (by omega) fun w281 hE281 => ⟨_, rfl, hE281.keep _, to_bool (hR _ (H280.pal.ext.trans hE281)) (by simp [same])⟩
end Go.Proofs.Ytombfebgojeliaa
