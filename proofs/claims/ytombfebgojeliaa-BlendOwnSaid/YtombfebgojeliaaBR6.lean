/- Raster: the document's and the program's laying over. -/
import Derived.Test.YtombfebgojeliaaBR5
namespace Go.Proofs.Ytombfebgojeliaa
open Go Go.Vc Go.RowKit
set_option maxRecDepth 100000
set_option linter.unusedVariables false
set_option linter.unusedSimpArgs false

theorem good_iff {W H : Int} {xs : List Int} : good W H xs = true ↔ gfits W H = true ∧ (xs.length : Int) = 4 * (W * H) := by simp [good]
theorem Clone_spec {N : Nat} {w : World} {p : Option Addr} {len cap : Nat} {xs : List Int} {R : Ending → World → Prop} (h : Sl N w p (px xs)) (hl : len = xs.length) (hsz : len * 2 ≤ 2 ^ 47)
    (hR : ∀ p' k w', Ext w w' → Ow w.heap.size w'.heap.size w' p' len k 1 (px xs) → R (.returned (.slice p' len k)) w') :
    Calls P F.slices_Clone_uint16 #[.slice p len cap] w R := by
  refine calls_slices_Clone_uint16 _ _ _ _ _ ?_
  unfold vc_slices_Clone_uint16
  refine brB_i (fun hn => ?_) (fun _ k1 w1 hnew => ⟨px xs, by rw [px_length]; omega, px_oneAll _, (h.ext hnew.ext).cells, ?_⟩)
  · have hx : xs = [] := by
      cases xs with
      | nil => rfl
      | cons x xs => obtain ⟨a, ha, _⟩ := h 0 (u16 x) rfl; subst ha; cases hn
    subst hx
    have hl0 : len = 0 := by simpa using hl
    subst hl0
    exact hR none 0 w (Ext.refl w) (Ow.nil _ _ _ _ _)
  · have hsz' := hnew.ext.size
    refine (Ow.nil w.heap.size w1.heap.size w1 (some ⟨k1, 0, none⟩) 1).app (by simp [blocks]) hsz' (Nat.le_refl _) rfl (by rw [px_length]; omega) (by omega) (by omega) fun p' k w2 ho hc => ?_
    rw [Nat.zero_add] at ho ⊢
    exact hR p' k w2 (hnew.ext.step hc fun i hi => hi.1) (by simpa using ho)
theorem Paste_spec {w : World} {p r : Option Addr} {len cap ln cp : Nat} {W H pw ph x y : Int} {xs ys : List Int} {R : Ending → World → Prop} (h : Img w p len xs) (hy : Img w r ln ys) (hcp : ln ≤ cp) (hsz : len * 2 ≤ 2 ^ 47)
    (hx64 : -9223372036854775808 ≤ x ∧ x ≤ 9223372036854775807) (hy64 : -9223372036854775808 ≤ y ∧ y ≤ 9223372036854775807)
    (hR : ∀ p' l' c' w', Fg [] w w' 1 p' l' c' (px (pasteR W H xs pw ph ys x y).2.2.1) → R (.returned (.tuple #[.agg #[i64 (pasteR W H xs pw ph ys x y).1, i64 (pasteR W H xs pw ph ys x y).2.1, .slice p' l' c'], i64 (pasteR W H xs pw ph ys x y).2.2.2])) w') :
    Calls P F.raster_Paste #[.agg #[i64 W, i64 H, .slice p len cap], .agg #[i64 pw, i64 ph, .slice r ln cp], i64 x, i64 y] w R := by
  refine calls_raster_Paste _ _ _ _ _ _ _ _ _ _ _ _ _ _ ?_
  intro k1 hk1 k2 hk2 k3 hk3 w1 hL1
  have hE1 : Ext w w1 := hL1.ext (by simp; omega)
  refine good_spec h.len fun w2 hE2 => ⟨_, rfl, hE2.keep _, ?_⟩
  have hE12 := hE1.trans hE2
  have hs12 := hE12.size
  refine brB_i (fun hb w3 hL3 => ?_) (fun hb => ?_)
  · have hb : good W H xs = false := by simpa using hb
    rw [pasteR, if_neg (by simp [hb])] at hR
    exact hR none 0 0 w3 (Fg.nil (hE12.step hL3.chg (by simp; omega)) 1)
  have hb : good W H xs = true := by simpa using hb
  refine good_spec hy.len fun w4 hE4 => ⟨_, rfl, hE4.keep _, ?_⟩
  have hE14 := hE12.trans hE4
  have hs14 := hE14.size
  have hs4 := hE4.size
  refine brB_i (fun hb2 w5 hL5 => ?_) (fun hb2 => ?_)
  · have hb2 : good pw ph ys = false := by simpa using hb2
    rw [pasteR, if_neg (by simp [hb2])] at hR
    exact hR none 0 0 w5 (Fg.nil (hE14.step hL5.chg (by simp; omega)) 1)
  have hb2 : good pw ph ys = true := by simpa using hb2
  rw [pasteR, if_pos (by simp [hb, hb2])] at hR
  obtain ⟨hg, hxl⟩ := good_iff.1 hb
  obtain ⟨hg2, hyl⟩ := good_iff.1 hb2
  obtain ⟨g1, g2, g3, g4, g5⟩ := gfits_iff.1 hg
  obtain ⟨f1, f2, f3, f4, f5⟩ := gfits_iff.1 hg2
  have hpos : 0 ≤ W * H := Int.mul_nonneg (by omega) (by omega)
  have ht := hL1.there
  have hs2 := hE2.size
  have hlo : ∀ b, b ∈ [k3, k2, k1] → b < w4.heap.size := fun b hb => by have := ht b hb; omega
  have hlen := h.len
  refine ⟨fun vs u => match vs with | [.pointer (some a), .int _ n1, .int _ n2, .slice p l c] => a.off = 0 ∧ a.spot = none ∧ n1 = W ∧ n2 = H ∧ l = len ∧ Fg [a.block, k3, k2, k1] w u 1 p l c (px xs) | _ => False,
    ⟨?_, fun k7 hk7 w8 hL8 => ?_⟩, fun k10 n1 n2 p3 l3 c3 w11 hI => ?_⟩
  · refine Clone_spec (((h.ext hE14).sl.ext (Ext.refl _).drew)) h.len hsz fun p1 c1 w6 hE6 ho6 => ⟨_, _, _, rfl, hE6.keep _, hE6.keeps, fun k6 hk6 w7 hL7 => ⟨rfl, rfl, rfl, rfl, rfl, ?_⟩⟩
    have hs6 : w4.heap.size ≤ w6.heap.size := hE6.size
    have hf6 : Fg [k3, k2, k1] w w6 1 p1 len c1 (px xs) := Fg.of_owB ((hE14.trans (Ext.refl _).drew).trans hE6) (ho6.owB (Nat.le_refl _)) (fun i hi => by have hi : w4.heap.size ≤ i ∧ _ := hi; omega) (fun b hb hS => by have := hlo b hb; have hS : w4.heap.size ≤ b ∧ _ := hS; omega) (fun b hb => ⟨by simp at hb; omega, by have := hlo b hb; omega⟩)
    exact hf6.locl hL7 (by simp; omega)
  · have hk7 : w4.heap.size ≤ k7 := hk7
    have hs8 : w4.heap.size ≤ w8.heap.size := hL8.size
    have hE8 : Ext w w8 := (hE14.trans (Ext.refl _).drew).step hL8.chg (by simp; omega)
    refine Clone_spec ((h.ext hE8).sl) h.len hsz fun p1 c1 w9 hE9 ho9 => ⟨_, _, _, rfl, hE9.keep _, hE9.keeps, fun w10 hL10 => ⟨rfl, rfl, rfl, rfl, rfl, ?_⟩⟩
    have hs9 := hE9.size
    have hf9 : Fg [k7, k3, k2, k1] w w9 1 p1 len c1 (px xs) := Fg.of_owB (hE8.trans hE9) (ho9.owB (Nat.le_refl _)) (fun i hi => by omega) (fun b hb hS => by have := hL8.there b hb; omega) (fun b hb => ⟨by simp at hb; omega, by have := hL8.there b hb; omega⟩)
    exact hf9.locl hL10 fun b hb => .inl hb
  obtain ⟨_, _, rfl, rfl, rfl, hf⟩ := hI
  rw [w64 (x := 0 - pw) (by omega) (by omega), w64 (x := 0 - ph) (by omega) (by omega)]
  refine brB_i (fun hout w12 hL12 => ?_) (fun hin => ?_)
  · have hu := (UpTo.start (pw := pw) (ph := ph) (x := x) (y := y) (ys := ys) hb).skip hpos fun q hq h0 h1 => inP_f fun hh => by
      have e1 := Int.emod_nonneg (q : Int) (b := n1) (by omega)
      have e2 := Int.emod_lt_of_pos (q : Int) (b := n1) (by omega)
      have e3 : (q : Int) / n1 < n2 := row_lt g1 (by rw [Int.mul_comm]; exact h1)
      have e4 : 0 ≤ (q : Int) / n1 := Int.ediv_nonneg h0 (by omega)
      simp only [Bool.or_eq_true, decide_eq_true_eq] at hout
      omega
    have e := hu.done (Int.le_refl _)
    rw [flat_colsOf' (by omega)] at e
    rw [← e] at hR
    exact hR p3 l3 c3 w12 ((hf.locl hL12 fun b hb => .inl hb).weak)
  simp only [Bool.or_eq_false_iff, decide_eq_false_iff_not] at hin
  have hxb : -4096 < x ∧ x < 4096 := by omega
  have hyb : -4096 < y ∧ y < 4096 := by omega
  rw [w64 (x := 0 - y) (by omega) (by omega), w64 (x := 0 - x) (by omega) (by omega)]
  refine ⟨fun vs u => match vs with | [.int _ k] => max 0 (0 - y) ≤ k ∧ k ≤ ph ∧ y + k ≤ n2 ∧ ∃ l, UpTo n1 n2 pw ph x y xs ys l ((y + k) * n1) ∧ Fg [k10, k3, k2, k1] w u 1 p3 l3 c3 (px (flat l)) | _ => False,
    fun vs _ => match vs with | [.int _ k] => (ph - k).toNat | _ => 0, ⟨Int.le_refl _, by omega, by omega, colsOf xs (n1 * n2).toNat, ?_, ?_⟩, fun k w13 hI => ?_⟩
  · refine (UpTo.start hb).skip ?_ fun q hq h0 h1 => inP_f fun hh => ?_
    · exact Int.mul_nonneg (by omega) (by omega)
    · have := row_lt g1 h1
      have := Int.ediv_nonneg (a := (q : Int)) (b := n1) h0 (by omega)
      omega
  · rw [flat_colsOf' (by omega)]; exact hf
  obtain ⟨k0, kH, kN, l, hu, hf3⟩ := hI
  rw [w64 (x := y + k) (by omega) (by omega)]
  refine brB_i (fun hlt => ?_) (fun hge w15 hL15 => ?_)
  · simp only [Bool.and_eq_true, decide_eq_true_eq] at hlt
    have hkW : 0 ≤ (y + k) * n1 := Int.mul_nonneg (by omega) (by omega)
    refine ⟨fun vs u => match vs with | [.int _ i] => max 0 (0 - x) ≤ i ∧ i ≤ pw ∧ x + i ≤ n1 ∧ ∃ l, UpTo n1 n2 pw ph x y xs ys l ((y + k) * n1 + (x + i)) ∧ Fg [k10, k3, k2, k1] w u 1 p3 l3 c3 (px (flat l)) | _ => False,
      fun vs _ => match vs with | [.int _ i] => (pw - i).toNat | _ => 0, ⟨Int.le_refl _, by omega, by omega, l, ?_, hf3⟩, fun i w14 hI => ?_⟩
    · refine hu.skip (by omega) fun q hq h0 h1 => inP_f fun hh => ?_
      obtain ⟨e1, e2⟩ := place_q (W := n1) (k := y + k) (i := (q : Int) - (y + k) * n1) g1 (by omega) (by omega)
      rw [show (y + k) * n1 + ((q : Int) - (y + k) * n1) = q by omega] at e1 e2
      rw [e1, e2] at hh
      omega
    obtain ⟨i0, i1, i2, l2, hu2, hf2⟩ := hI
    rw [w64 (x := x + i) (by omega) (by omega)]
    refine brB_i (fun hlt2 => ?_) (fun hge => ?_)
    · simp only [Bool.and_eq_true, decide_eq_true_eq] at hlt2
      obtain ⟨p0, p1, p2, p3', p4⟩ := pixAt hg hxl (x := x + i) (y := y + k) (by omega) (by omega) (by omega) (by omega)
      obtain ⟨r0, r1, r2, r3, r4⟩ := pixAt hg2 hyl (x := i) (y := k) (by omega) (by omega) (by omega) (by omega)
      have hyln := hy.len
      rw [show IntKind.i64.wrap (IntKind.i64.wrap (IntKind.i64.wrap ((y + k) * n1) + x) + i) = (y + k) * n1 + (x + i) from ?_, p4, r3, r4, w64 (x := 4 * (k * pw + i) + 4) (by omega) (by omega), w64 (x := i + 1) (by omega) (by omega)]
      · have hcap : l3 ≤ c3 := by
          obtain ⟨S, h1, h3, h2⟩ := hf2.own
          exact h2.own.2.1
        refine ⟨by omega, by omega, by omega, by omega, by omega, by omega, px (coL (colAt ys (k * pw + i).toNat)), ?_, px_oneAll _, ?_, .inr ?_⟩
        · simp only [px_length, coL, List.length_cons, List.length_nil]; omega
        · have hs : Sl w14.drew.heap.size w14.drew (slcBase r (4 * (k * pw + i)).toNat cp 1) (px (ys.drop (4 * (k * pw + i).toNat))) := by
            refine (((hy.sl.ext hf2.ext).drew).up).part (by rw [px_length]; omega) ?_
            rw [show (4 * (k * pw + i)).toNat = 4 * (k * pw + i).toNat by omega]; simp [px, List.map_drop]
          intro j v hj
          refine hs.cells j v ?_
          rw [← colAt_drop] at hj
          have hdl : (ys.drop (4 * (k * pw + i).toNat)).length ≥ 4 := by rw [List.length_drop]; omega
          generalize ys.drop (4 * (k * pw + i).toNat) = zs at hj hdl ⊢
          match zs, hdl with
          | a :: b :: c :: d :: t, _ =>
            simp only [coL, colAt, px, List.map_cons, List.map_nil, List.getD, List.getElem?_cons_zero, List.getElem?_cons_succ, Nat.mul_zero, Nat.zero_add, Option.getD_some] at hj ⊢
            match j, hj with
            | 0, hj => exact hj
            | 1, hj => exact hj
            | 2, hj => exact hj
            | 3, hj => exact hj
            | j + 4, hj => simp at hj
        · have hl2 := hu2.len
          have hql : ((y + k) * n1 + (x + i)).toNat < l2.length := by omega
          obtain ⟨b, hb, hba, hbw, hcs, hfs, hks⟩ := hf2.dr.set (i := 4 * ((y + k) * n1 + (x + i)).toNat) (us := px (coL (colAt ys (k * pw + i).toNat))) (by simp only [px_length, flat_length, coL, List.length_cons, List.length_nil]; omega) (by omega)
          subst hb
          refine ⟨⟨b, 4 * ((y + k) * n1 + (x + i)).toNat, none⟩, ?_, hcs, hba, ⟨by omega, by omega, by omega, l2.set ((y + k) * n1 + (x + i)).toNat (colAt ys (k * pw + i).toNat), ?_⟩, ?_⟩
          · unfold slcBase
            rw [if_neg (by omega), show (4 * ((y + k) * n1 + (x + i))).toNat = 4 * ((y + k) * n1 + (x + i)).toNat by omega]
            simp only [Option.map_some, Nat.mul_one, loc_add, Nat.zero_add]
          · have hin2 : inP x y pw ph (x + i) (y + k) = true := by simp only [inP, decide_eq_true_eq]; omega
            have := hu2.put p0 (c := colAt ys (k * pw + i).toNat) (by
              rw [pasteC_in g1 (by omega) (by omega) (by omega) hin2, show y + k - y = k by omega, show x + i - x = i by omega])
            refine ⟨?_, ?_⟩
            · rw [show (y + k) * n1 + (x + (i + 1)) = (y + k) * n1 + (x + i) + 1 by omega]; exact this
            · rw [← flat_set hql, px_append, px_append]
              have e : (px (flat l2)).take (4 * ((y + k) * n1 + (x + i)).toNat) = px ((flat l2).take (4 * ((y + k) * n1 + (x + i)).toNat)) := by simp [px, List.map_take]
              have e2 : (px (flat l2)).drop (4 * ((y + k) * n1 + (x + i)).toNat + (px (coL (colAt ys (k * pw + i).toNat))).length) = px ((flat l2).drop (4 * ((y + k) * n1 + (x + i)).toNat + 4)) := by simp [px, List.map_drop, coL]
              rw [e, e2] at hfs
              exact hfs
          · show (pw - (i + 1)).toNat < (pw - i).toNat
            omega
      · rw [w64 (x := (y + k) * n1) (by omega) (by omega), w64 (x := (y + k) * n1 + x) (by omega) (by omega), w64 (by omega) (by omega)]; omega
    · rw [w64 (x := k + 1) (by omega) (by omega)]
      simp only [Bool.and_eq_false_iff, decide_eq_false_iff_not] at hge
      refine ⟨⟨by omega, by omega, by omega, l2, ?_, hf2⟩, ?_⟩
      · rw [show (y + (k + 1)) * n1 = (y + k) * n1 + n1 by rw [← Int.add_assoc, Int.add_mul (y + k) 1]; omega]
        refine hu2.skip (by omega) fun q hq h0 h1 => inP_f fun hh => ?_
        obtain ⟨e1, e2⟩ := place_q (W := n1) (k := y + k) (i := (q : Int) - (y + k) * n1) g1 (by omega) (by omega)
        rw [show (y + k) * n1 + ((q : Int) - (y + k) * n1) = q by omega] at e1 e2
        rw [e1, e2] at hh
        omega
      · show (ph - (k + 1)).toNat < (ph - k).toNat
        omega
  · simp only [Bool.and_eq_false_iff, decide_eq_false_iff_not] at hge
    have hu2 := hu.skip (M := n1 * n2) ?_ fun q hq h0 h1 => inP_f fun hh => ?_
    · have e := hu2.done (Int.le_refl _)
      rw [e] at hf3
      exact hR p3 l3 c3 w15 ((hf3.locl hL15 fun b hb => .inl hb).weak)
    · rw [Int.mul_comm n1 n2]; exact Int.mul_le_mul_of_nonneg_right (by omega) (by omega)
    · have := row_ge g1 h0
      have : (q : Int) / n1 < n2 := row_lt g1 (by rw [Int.mul_comm]; exact h1)
      omega
end Go.Proofs.Ytombfebgojeliaa
