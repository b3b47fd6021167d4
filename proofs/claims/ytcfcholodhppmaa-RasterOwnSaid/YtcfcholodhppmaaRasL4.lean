/- The laws of raster over the contracts: what is handed in stays, what is answered is new memory. -/
import Derived.Test.YtcfcholodhppmaaRasL3
namespace Go.Proofs.Ytcfcholodhppmaa
open Go Go.Vc Go.RowKit
set_option maxRecDepth 100000
set_option linter.unusedVariables false
set_option linter.unusedSimpArgs false

theorem slc0 {p : Option Addr} {cap : Nat} : slcBase p 0 cap 1 = p := by
  unfold slcBase
  split
  · rfl
  · cases p with
    | none => rfl
    | some a => rw [Option.map_some, Nat.zero_mul, add_zero']
theorem Ow.set {N M : Nat} {u : World} {sz : Nat} {base : Option Addr} {len cap : Nat} {vs : List Value} (h : Ow N M u base len cap sz vs) {i : Nat} {us : List Value} (hi : i + us.length ≤ vs.length) (h0 : 0 < len) :
    ∃ b, base = some ⟨b, 0, none⟩ ∧ N ≤ b ∧ b < M ∧ CanSet u ⟨b, i, none⟩ us.length ∧ Ow N M (setCells u ⟨b, i, none⟩ us 0) base len cap sz (vs.take i ++ us ++ vs.drop (i + us.length)) := by
  obtain ⟨o1, o2, o3⟩ := h
  rcases o3 with o3 | ⟨b, rest, o3, o3', o4, o5, o6⟩
  · omega
  refine ⟨b, o4, o3, o3', o6.canSet (by rw [List.length_append]; omega), ?_⟩
  have hs := o6.set (off := i) (us := us) (by rw [List.length_append]; omega)
  have hl : (vs.take i ++ us ++ vs.drop (i + us.length)).length = vs.length := by simp only [List.length_append, List.length_take, List.length_drop]; omega
  have e : (vs ++ rest).take i ++ us ++ (vs ++ rest).drop (i + us.length) = (vs.take i ++ us ++ vs.drop (i + us.length)) ++ rest := by
    rw [List.take_append_of_le_length (by omega), List.drop_append_of_le_length (by omega)]; simp
  rw [e] at hs
  exact ⟨by rw [hl]; exact o1, o2, .inr ⟨b, rest, o3, o3', o4, by rw [hl]; exact o5, hs⟩⟩
theorem spoil_spec {N M : Nat} {w : World} {p : Option Addr} {len cap : Nat} {W H : Int} {xs : List Int} {R : Ending → World → Prop} (h : Ow N M w p len cap 1 (px xs)) (hM : M ≤ w.heap.size) (hsz : len + 20 ≤ 2 ^ 45)
    (hR : ∀ w', Chg (fun i => (N ≤ i ∧ i < M) ∨ w.heap.size ≤ i) w w' → R (.returned (.tuple #[])) w') : Calls P F.law09_spoil #[.agg #[i64 W, i64 H, .slice p len cap]] w R := by
  refine calls_law09_spoil _ _ _ _ _ _ _ ?_
  intro k1 hk1
  refine ⟨fun vs u => match vs with | [.int _ n] => 0 ≤ n ∧ n ≤ len ∧ Chg (fun i => (N ≤ i ∧ i < M) ∨ w.heap.size ≤ i) w u ∧ ∃ ys, Ow N M u p len cap 1 (px ys) | _ => False,
    fun vs _ => match vs with | [.int _ n] => (len - n).toNat | _ => 0, fun w1 hL1 => ⟨Int.le_refl _, by omega, hL1.chg.mono (by simp; omega), xs, h.chg hL1.chg (by simp; omega)⟩, fun n w2 hI => ?_⟩
  obtain ⟨n0, n1, hC, ys, ho⟩ := hI
  have hlen := ho.len
  rw [px_length] at hlen
  refine brB_i (fun hlt => ?_) (fun hge => ?_)
  · have hlt : n < len := by simpa using hlt
    have ho' : Ow N M w2.drew p len cap 1 (px ys) := ho
    refine ho'.sl.get n0 (by rw [px_length]; omega) (px_get (by omega)) fun a1 hc1 => ⟨_, hc1, ?_⟩
    obtain ⟨b, rfl, hb1, hb2⟩ := ho'.base (by omega)
    refine idx_i n0 (by omega) rfl ?_
    rw [loc_add, Nat.zero_add, Nat.mul_one]
    obtain ⟨q1, q2, q3⟩ := ho'.write (i := n.toNat) (by omega)
    obtain ⟨q3, q4⟩ := q3 (u16 (IntKind.u16.wrap (ys.getD n.toNat 0 + 1)))
    refine ⟨q1, q2, by simp; omega, ?_, ?_⟩
    · rw [w64 (x := n + 1) (by omega) (by omega)]
      refine ⟨by omega, by omega, hC.drew.trans q4 (fun i hi _ => .inl (by have hi : i = b := hi; omega)), ys.set n.toNat (IntKind.u16.wrap (ys.getD n.toNat 0 + 1)), ?_⟩
      rw [show px (ys.set n.toNat (IntKind.u16.wrap (ys.getD n.toNat 0 + 1))) = (px ys).set n.toNat (u16 (IntKind.u16.wrap (ys.getD n.toNat 0 + 1))) by simp [px, List.map_set]]
      exact q3
    · rw [w64 (x := n + 1) (by omega) (by omega)]
      show (len - (n + 1)).toNat < (len - n).toNat
      omega
  · have hs2 := hC.size
    refine ⟨fun vs u => match vs with | [.int _ m, .int _ _, .int _ _, .slice q l c] => 0 ≤ m ∧ m ≤ 20 ∧ l = len + m.toNat ∧ Chg (fun i => (N ≤ i ∧ i < M) ∨ w.heap.size ≤ i) w u ∧ ∃ S ys, OwB S u q l c 1 (px ys) ∧ ∀ i, S i → i ≠ k1 ∧ ((N ≤ i ∧ i < M) ∨ w.heap.size ≤ i) | _ => False,
      fun vs _ => match vs with | [.int _ m, _, _, _] => (20 - m).toNat | _ => 0, ⟨Int.le_refl _, by omega, by simp, hC, _, ys, ho.owB (by omega), fun i hi => by omega⟩, fun m a b q l c w3 hI => ?_⟩
    obtain ⟨m0, m1, rfl, hC3, S, zs, ho3, hS⟩ := hI
    refine brB_i (fun hlt k4 hk4 w4 hL4 => ?_) (fun _ => hR w3 hC3)
    have hlt : m < 20 := by simpa using hlt
    have hs3 := hC3.size
    have hbd := ho3.bd
    have ho4 := ho3.chg hL4.chg (fun i hi hm => by have := hbd i hi; have := (hS i hi).1; simp at hm; omega)
    refine ho4.app (fun b hb hs => by have := hbd b hs; have := (hS b hs).1; simp [blocks] at hb; omega) rfl rfl (by omega) (by omega) fun S' q' c' w5 hg ho5 hc5 w6 hL6 => ?_
    have hbd4 := ho4.bd
    rw [w64 (x := m + 1) (by omega) (by omega), show px zs ++ [u16 5] = px (zs ++ [5]) by simp [px]] at *
    have hno : ∀ i, S' i → i ≠ k1 ∧ i ≠ k4 ∧ ((N ≤ i ∧ i < M) ∨ w.heap.size ≤ i) := fun i hi => by
      have := hL4.there k1 (by simp); have := hL4.there k4 (by simp); have := hL4.size
      rcases hg.2 i hi with hi | hi
      · have := hS i hi; have := hbd i hi; omega
      · omega
    refine ⟨⟨by omega, by omega, by omega, ?_, S', zs ++ [5], ho5.chg hL6.chg (fun i hi hm => by have := hno i hi; simp at hm; omega), fun i hi => ⟨(hno i hi).1, (hno i hi).2.2⟩⟩, ?_⟩
    · refine ((hC3.trans hL4.chg fun i hi _ => ?_).trans hc5 fun i hi _ => (hS i hi).2).trans hL6.chg fun i hi _ => ?_
      · simp at hi; omega
      · simp at hi; omega
    · show (20 - (m + 1)).toNat < (20 - m).toNat
      omega
theorem GSetnil_spec {w : World} {x y : Int} {c : Co} {R : Ending → World → Prop} (hR : ∀ w', Ext w w' → R (.returned (.bool false)) w') : Calls P F.grid_Grid_api_Color_Set #[.pointer none, i64 x, i64 y, .agg (co c).toArray] w R := by
  obtain ⟨c1, c2, c3, c4⟩ := c
  refine calls_grid_Grid_api_Color_Set _ _ _ _ _ _ _ _ _ ?_
  intro k1 hk1 w1 hL1
  refine calls_grid_Grid_api_Color_has _ _ _ _ _ (brB_f rfl ⟨_, rfl, (Ext.refl _).keep _, brB_t rfl (hR w1 (hL1.ext (by simpa using hk1)))⟩)
theorem Grid_any {w : World} {p : Option Addr} {len cap : Nat} {W H : Int} {xs : List Int} {R : Ending → World → Prop} (h : Img w p len xs) (hc : len ≤ cap)
    (hR : ∀ q e w', Ext w w' → (q = none ∨ ∃ gb cb l, w.heap.size ≤ gb ∧ w.heap.size ≤ cb ∧ cb < w'.heap.size ∧ GridC w' q gb cb W H l) → R (.returned (.tuple #[.pointer q, i64 e])) w') :
    Calls P F.raster_Grid #[.agg #[i64 W, i64 H, .slice p len cap]] w R :=
  Grid_spec h hc (fun _ w' hE => hR _ _ w' hE (.inl rfl)) fun _ gb cb w' hE h1 h2 h3 => hR _ _ w' hE (.inr ⟨gb, cb, _, h1, h2, h3.lt.2, h3⟩)
theorem GSet_any {w : World} {q : Option Addr} {W H : Int} {c : Co} {N M : Nat} {R : Ending → World → Prop} (h : q = none ∨ ∃ gb cb l, N ≤ cb ∧ cb < M ∧ 1 ≤ W ∧ 1 ≤ H ∧ GridC w q gb cb W H l)
    (hR : ∀ b w', Chg (fun i => (N ≤ i ∧ i < M) ∨ w.heap.size ≤ i) w w' → R (.returned (.bool b)) w') :
    Calls P F.grid_Grid_api_Color_Set #[.pointer q, i64 0, i64 0, .agg (co c).toArray] w R := by
  rcases h with rfl | ⟨gb, cb, l, h1, h2, h3, h4, h5⟩
  · exact GSetnil_spec fun w' hE => hR false w' hE.chg
  · exact GSet_spec h5 (by omega) (by omega) (by omega) (by omega) fun w' hC => hR true w' (hC.mono fun i hi _ => by omega)
/-- two slices that were made since, apart from one another -/
structure Two (L : List Nat) (w u : World) (p : Option Addr) (len c : Nat) (xs : List Int) (q : Option Addr) (len' c' : Nat) (ys : List Int) : Prop where
  ext : Ext w u
  own : ∃ S T : Nat → Prop, OwB S u p len c 1 (px xs) ∧ OwB T u q len' c' 1 (px ys) ∧ (∀ i, S i → w.heap.size ≤ i ∧ i ∉ L ∧ ¬ T i) ∧ ∀ i, T i → w.heap.size ≤ i ∧ i ∉ L
  avs : ∀ b, b ∈ L → w.heap.size ≤ b ∧ b < u.heap.size
theorem Two.mk' {L : List Nat} {w u u' : World} {p q : Option Addr} {len c len' c' : Nat} {xs ys : List Int} (f : Fg L w u 1 p len c (px xs)) (hE : Ext u u') (ho : Ow u.heap.size u'.heap.size u' q len' c' 1 (px ys)) : Two L w u' p len c xs q len' c' ys := by
  obtain ⟨S, h1, h3, h2⟩ := f.own
  have hs := f.ext.size
  refine ⟨f.ext.trans hE, ⟨S, _, h2.ext hE, ho.owB (Nat.le_refl _), fun i hi => ⟨h1 i hi, fun hm => h3 i hm hi, fun hT => by have := h2.bd i hi; omega⟩, fun i hi => ⟨by omega, fun hm => by have := f.avs i hm; omega⟩⟩, fun b hb => ?_⟩
  have := f.avs b hb; have := hE.size; omega
theorem Two.push {L bs : List Nat} {w u u' : World} {p q : Option Addr} {len c len' c' : Nat} {xs ys : List Int} (h : Two L w u p len c xs q len' c' ys) (hL : Locl bs u u') (hb : ∀ b, b ∈ bs → b ∈ L ∨ u.heap.size ≤ b) : Two (bs ++ L) w u' p len c xs q len' c' ys := by
  obtain ⟨S, T, h1, h2, h3, h4⟩ := h.own
  have hs := h.ext.size
  have n1 : ∀ i, S i → i ∉ bs := fun i hi hm => by
    rcases hb i hm with hm | hm
    · exact (h3 i hi).2.1 hm
    · have := h1.bd i hi; omega
  have n2 : ∀ i, T i → i ∉ bs := fun i hi hm => by
    rcases hb i hm with hm | hm
    · exact (h4 i hi).2 hm
    · have := h2.bd i hi; omega
  refine ⟨h.ext.step hL.chg fun i hi => ?_, ⟨S, T, h1.chg hL.chg fun i hi hm => n1 i hi hm, h2.chg hL.chg fun i hi hm => n2 i hi hm, fun i hi => ⟨(h3 i hi).1, fun hm => ?_, (h3 i hi).2.2⟩, fun i hi => ⟨(h4 i hi).1, fun hm => ?_⟩⟩, fun b hm => ?_⟩
  · rcases hb i hi with hm | hm
    · exact (h.avs i hm).1
    · omega
  · rcases List.mem_append.1 hm with hm | hm
    · exact n1 i hi hm
    · exact (h3 i hi).2.1 hm
  · rcases List.mem_append.1 hm with hm | hm
    · exact n2 i hi hm
    · exact (h4 i hi).2 hm
  · rcases List.mem_append.1 hm with hm | hm
    · refine ⟨?_, hL.there b hm⟩
      rcases hb b hm with hm | hm
      · exact (h.avs b hm).1
      · omega
    · have := h.avs b hm; have := hL.size; omega
theorem Two.mono {L L' : List Nat} {w u : World} {p q : Option Addr} {len c len' c' : Nat} {xs ys : List Int} (h : Two L w u p len c xs q len' c' ys) (hb : ∀ b, b ∈ L' → b ∈ L) : Two L' w u p len c xs q len' c' ys := by
  obtain ⟨S, T, h1, h2, h3, h4⟩ := h.own
  exact ⟨h.ext, ⟨S, T, h1, h2, fun i hi => ⟨(h3 i hi).1, fun hm => (h3 i hi).2.1 (hb i hm), (h3 i hi).2.2⟩, fun i hi => ⟨(h4 i hi).1, fun hm => (h4 i hi).2 (hb i hm)⟩⟩, fun b hm => h.avs b (hb b hm)⟩
set_option maxHeartbeats 4000000 in
theorem own2_walk {w : World} {b b' : Option Addr} {len cap len' cap' : Nat} {W H W' H' x y cx cy : Int} {xs ys : List Int} {R : Ending → World → Prop} (hi : ImgOk w W H b len cap xs) (hj : ImgOk w W' H' b' len' cap' ys) (hr : RectOk x y cx cy) (hR : ∀ w', Ext w w' → R (.returned (.bool true)) w') :
    Calls P F.law09_RasterOwn #[.agg #[i64 W, i64 H, .slice b len cap], .agg #[i64 W', i64 H', .slice b' len' cap'], .agg #[i64 x, i64 y, i64 cx, i64 cy]] w R := by
  refine calls_law09_RasterOwn _ _ _ _ _ _ _ _ _ _ _ _ _ _ _ _ ?_
  intro k1 hk1 k2 hk2 k3 hk3 w1 hL1
  have hx64 := wf64 hr.1
  have hy64 := wf64 hr.2.1
  have hE1 : Ext w w1 := hL1.ext (by simp; omega)
  have hl1 : ∀ b, b ∈ [k3, k2, k1] → w.heap.size ≤ b ∧ b < w1.heap.size := fun b hb => ⟨by simp at hb; omega, hL1.there b hb⟩
  refine wakes_spec fun w2 hE2 => ⟨_, rfl, hE2.keep _, brB_f rfl ?_⟩
  have hE12 := (hE1.trans hE2).drew
  have hs2 := hE2.size
  have hs12 := hE12.size
  have hl2 : ∀ b, b ∈ [k3, k2, k1] → w.heap.size ≤ b ∧ b < w2.drew.heap.size := fun b hb => ⟨(hl1 b hb).1, Nat.lt_of_lt_of_le (hl1 b hb).2 hs2⟩
  have hh : ∀ {u u' : World} {k : Nat}, Ext w u → Locl [k, k3, k2, k1] u u' → u.heap.size ≤ k → Ext w u' ∧ ∀ b, b ∈ [k, k3, k2, k1] → w.heap.size ≤ b ∧ b < u'.heap.size := fun hE hL hk => by
    have := hE.size
    exact ⟨hE.step hL.chg (by simp; omega), fun b hb => ⟨by simp at hb; omega, hL.there b hb⟩⟩
  refine ⟨fun vs u => match vs with | [.pointer (some a), .int _ n1, .int _ n2, .slice p l c, .pointer (some a'), .int _ n3, .int _ n4, .slice q l' c'] => n1 = W ∧ n2 = H ∧ l = len ∧ n3 = W' ∧ n4 = H' ∧ l' = len' ∧ Two [a'.block, a.block, k3, k2, k1] w u p l c xs q l' c' ys | _ => False,
    ⟨?_, fun k26 hk26 => ⟨fun w19 hL19 => ?_, fun k35 hk35 w26 hL26 => ?_⟩, fun k40 hk40 => ⟨fun w30 hL30 => ?_, fun k49 hk49 w37 hL37 => ?_⟩⟩, fun k54 n33 n34 p17 k55 k56 k57 n35 n36 p18 k58 k59 w41 hI => ?_⟩
  · refine own_spec (hi.img.ext hE12) hi.sz fun p1 c1 w3 hE3 ho3 => ⟨_, _, _, _, _, rfl, hE3.keep _, hE3.keeps, ?_, fun k12 hk12 => ⟨fun w7 hL7 => ?_, fun k16 hk16 w10 hL10 => ?_⟩, fun k19 hk19 => ⟨fun w13 hL13 => ?_, fun k23 hk23 w16 hL16 => ?_⟩⟩
    all_goals have f3 := Fg.ofOw (bs := [k3, k2, k1]) ho3 hE12 hE3 hl2
    all_goals have hs3 := hE3.size
    · refine own_spec (hj.img.ext f3.ext) hj.sz fun p2 c2 w4 hE4 ho4 => ⟨_, _, _, _, _, rfl, hE4.keep _, fun k8 hk8 k9 hk9 w5 hL5 => ⟨rfl, rfl, rfl, rfl, rfl, rfl, ?_⟩, fun k10 hk10 k11 hk11 w6 hL6 => ⟨rfl, rfl, rfl, rfl, rfl, rfl, ?_⟩⟩
      · exact ((Two.mk' f3 hE4 ho4).push hL5 (by simp; omega)).mono (by simp)
      · exact ((Two.mk' f3 hE4 ho4).push hL6 (by simp; omega)).mono (by simp)
    · have f7 := f3.push hL7 (by simp; omega)
      refine own_spec (hj.img.ext f7.ext) hj.sz fun p2 c2 w8 hE8 ho8 => ⟨_, _, _, _, _, rfl, hE8.keep _, fun k15 hk15 w9 hL9 => ⟨rfl, rfl, rfl, rfl, rfl, rfl, ?_⟩⟩
      exact ((Two.mk' f7 hE8 ho8).push hL9 (by simp; omega)).mono (by simp)
    · have f10 := f3.push hL10 (by simp; omega)
      refine own_spec (hj.img.ext f10.ext) hj.sz fun p2 c2 w11 hE11 ho11 => ⟨_, _, _, _, _, rfl, hE11.keep _, fun w12 hL12 => ⟨rfl, rfl, rfl, rfl, rfl, rfl, ?_⟩⟩
      exact ((Two.mk' f10 hE11 ho11).push hL12 (by simp)).mono (by simp)
    · have f13 := f3.push hL13 (by simp; omega)
      refine own_spec (hj.img.ext f13.ext) hj.sz fun p2 c2 w14 hE14 ho14 => ⟨_, _, _, _, _, rfl, hE14.keep _, fun k22 hk22 w15 hL15 => ⟨rfl, rfl, rfl, rfl, rfl, rfl, ?_⟩⟩
      exact ((Two.mk' f13 hE14 ho14).push hL15 (by simp; omega)).mono (by simp)
    · have f16 := f3.push hL16 (by simp; omega)
      refine own_spec (hj.img.ext f16.ext) hj.sz fun p2 c2 w17 hE17 ho17 => ⟨_, _, _, _, _, rfl, hE17.keep _, fun w18 hL18 => ⟨rfl, rfl, rfl, rfl, rfl, rfl, ?_⟩⟩
      exact ((Two.mk' f16 hE17 ho17).push hL18 (by simp)).mono (by simp)
  · have hk26' : w2.heap.size ≤ k26 := hk26
    obtain ⟨hE19, hl19⟩ := hh hE12 hL19 hk26
    refine own_spec (hi.img.ext hE19) hi.sz fun p1 c1 w20 hE20 ho20 => ⟨_, _, _, _, _, rfl, hE20.keep _, hE20.keeps, ?_, fun k32 hk32 w23 hL23 => ?_⟩
    all_goals have f20 := Fg.ofOw ho20 hE19 hE20 hl19
    · refine own_spec (hj.img.ext f20.ext) hj.sz fun p2 c2 w21 hE21 ho21 => ⟨_, _, _, _, _, rfl, hE21.keep _, fun k31 hk31 w22 hL22 => ⟨rfl, rfl, rfl, rfl, rfl, rfl, ?_⟩⟩
      exact ((Two.mk' f20 hE21 ho21).push hL22 (by simp; omega)).mono (by simp)
    · have f23 := f20.push hL23 (by simp; omega)
      refine own_spec (hj.img.ext f23.ext) hj.sz fun p2 c2 w24 hE24 ho24 => ⟨_, _, _, _, _, rfl, hE24.keep _, fun w25 hL25 => ⟨rfl, rfl, rfl, rfl, rfl, rfl, ?_⟩⟩
      exact ((Two.mk' f23 hE24 ho24).push hL25 (by simp)).mono (by simp)
  · have hk26' : w.heap.size ≤ k26 := Nat.le_trans hs12 hk26
    have hk35' : w.heap.size ≤ k35 := Nat.le_trans hs12 hk35
    have hE26 : Ext w w26 := hE12.step hL26.chg (by simp; omega)
    refine own_spec (hi.img.ext hE26) hi.sz fun p1 c1 w27 hE27 ho27 => ⟨_, _, _, _, _, rfl, hE27.keep _, hE27.keeps, ?_⟩
    have f27 := Fg.ofOw (bs := [k35, k26, k3, k2, k1]) ho27 hE26 hE27 (fun b hb => ⟨by simp at hb; omega, hL26.there b hb⟩)
    refine own_spec (hj.img.ext f27.ext) hj.sz fun p2 c2 w28 hE28 ho28 => ⟨_, _, _, _, _, rfl, hE28.keep _, fun w29 hL29 => ⟨rfl, rfl, rfl, rfl, rfl, rfl, ?_⟩⟩
    exact ((Two.mk' f27 hE28 ho28).push hL29 (by simp)).mono (by simp)
  · have hk40' : w2.heap.size ≤ k40 := hk40
    obtain ⟨hE30, hl30⟩ := hh hE12 hL30 hk40
    refine own_spec (hi.img.ext hE30) hi.sz fun p1 c1 w31 hE31 ho31 => ⟨_, _, _, _, _, rfl, hE31.keep _, hE31.keeps, ?_, fun k46 hk46 w34 hL34 => ?_⟩
    all_goals have f31 := Fg.ofOw ho31 hE30 hE31 hl30
    · refine own_spec (hj.img.ext f31.ext) hj.sz fun p2 c2 w32 hE32 ho32 => ⟨_, _, _, _, _, rfl, hE32.keep _, fun k45 hk45 w33 hL33 => ⟨rfl, rfl, rfl, rfl, rfl, rfl, ?_⟩⟩
      exact ((Two.mk' f31 hE32 ho32).push hL33 (by simp; omega)).mono (by simp)
    · have f34 := f31.push hL34 (by simp; omega)
      refine own_spec (hj.img.ext f34.ext) hj.sz fun p2 c2 w35 hE35 ho35 => ⟨_, _, _, _, _, rfl, hE35.keep _, fun w36 hL36 => ⟨rfl, rfl, rfl, rfl, rfl, rfl, ?_⟩⟩
      exact ((Two.mk' f34 hE35 ho35).push hL36 (by simp)).mono (by simp)
  · have hk40' : w.heap.size ≤ k40 := Nat.le_trans hs12 hk40
    have hk49' : w.heap.size ≤ k49 := Nat.le_trans hs12 hk49
    have hE37 : Ext w w37 := hE12.step hL37.chg (by simp; omega)
    refine own_spec (hi.img.ext hE37) hi.sz fun p1 c1 w38 hE38 ho38 => ⟨_, _, _, _, _, rfl, hE38.keep _, hE38.keeps, ?_⟩
    have f38 := Fg.ofOw (bs := [k49, k40, k3, k2, k1]) ho38 hE37 hE38 (fun b hb => ⟨by simp at hb; omega, hL37.there b hb⟩)
    refine own_spec (hj.img.ext f38.ext) hj.sz fun p2 c2 w39 hE39 ho39 => ⟨_, _, _, _, _, rfl, hE39.keep _, fun w40 hL40 => ⟨rfl, rfl, rfl, rfl, rfl, rfl, ?_⟩⟩
    exact ((Two.mk' f38 hE39 ho39).push hL40 (by simp)).mono (by simp)
  obtain ⟨rfl, rfl, rfl, rfl, rfl, rfl, hT⟩ := hI
  have hT : Two [k57, k54, k3, k2, k1] w w41 p17 k55 k56 xs p18 k58 k59 ys := hT
  intro k60 hk60 w42 hL42
  have hT2 := hT.push hL42 (by simp; omega)
  have hT2 := hT2.mono (L' := [k60, k57, k54, k3, k2, k1]) (by simp)
  obtain ⟨S, T, oS, oT, hS, hTT⟩ := hT2.own
  have hav := hT2.avs
  have hs42 := hT2.ext.size
  have hilen := hi.img.len
  have hisz := hi.sz1
  refine oS.app (fun b hb hs => (hS b hs).2.1 (by simpa [blocks] using hb)) rfl rfl (by omega) (by omega) fun S' p19 k62 w43 hg oS' hc43 => ?_
  rw [show px xs ++ [u16 77] = px (xs ++ [77]) by simp [px]] at oS'
  have hbS := oS.bd
  have hbT := oT.bd
  have hs43 := hc43.size
  have hS' : ∀ i, S' i → w.heap.size ≤ i ∧ i ∉ [k60, k57, k54, k3, k2, k1] ∧ ¬ T i := fun i hi => by
    rcases hg.2 i hi with hi | hi
    · exact hS i hi
    · exact ⟨by omega, fun hm => by have := hav i hm; omega, fun ht => by have := hbT i ht; omega⟩
  have oT' := oT.chg hc43 fun i hi hs => (hS i hs).2.2 hi
  have hcap := oS'.own.2.1
  refine ⟨Int.le_refl _, by omega, by omega, ?_⟩
  rw [Int.toNat_natCast, show (0 : Int).toNat = 0 from rfl, slc0]
  simp only [Nat.sub_zero]
  intro w44 hL44
  have hE43 : Ext w w43 := hT2.ext.step hc43 fun i hi => (hS i hi).1
  have hE44 : Ext w w44 := hE43.step hL44.chg fun i hi => (hav i hi).1
  have oS4 := oS'.chg hL44.chg fun i hi hm => (hS' i hi).2.1 hm
  have oT4 := oT'.chg hL44.chg fun i hi hm => (hTT i hi).2 hm
  have hbS4 := oS4.bd
  have hbT4 := oT4.bd
  have hl44 : ∀ b, b ∈ [k60, k57, k54, k3, k2, k1] → w.heap.size ≤ b ∧ b < w44.heap.size := fun b hb => ⟨(hav b hb).1, hL44.there b hb⟩
  let G : World → Prop := fun u => Ext w u ∧ OwB S' u p19 (k55 + 1) k62 1 (px (xs ++ [77])) ∧ OwB T u p18 k58 k59 1 (px ys) ∧ w44.heap.size ≤ u.heap.size
  have G44 : G w44 := ⟨hE44, oS4, oT4, Nat.le_refl _⟩
  have Gs : ∀ {u u' : World} {Z : Nat → Prop}, G u → Chg Z u u' → (∀ i, Z i → i ∈ [k60, k57, k54, k3, k2, k1] ∨ w44.heap.size ≤ i) → G u' := by
    intro u u' Z ⟨g1, g2, g3, g4⟩ hC hZ
    have hsz := hE44.size
    refine ⟨g1.step hC fun i hi => ?_, g2.chg hC fun i hi hz => ?_, g3.chg hC fun i hi hz => ?_, Nat.le_trans g4 hC.size⟩
    · rcases hZ i hi with hm | hm
      · exact (hl44 i hm).1
      · omega
    · rcases hZ i hz with hm | hm
      · exact (hS' i hi).2.1 hm
      · have := hbS4 i hi; omega
    · rcases hZ i hz with hm | hm
      · exact (hTT i hi).2 hm
      · have := hbT4 i hi; omega
  have inI : ∀ {u : World}, G u → Img u p19 k55 xs ∧ Img u p18 k58 ys := by
    intro u ⟨g1, g2, g3, g4⟩
    exact ⟨⟨g2.own.sl.pre (by rw [px_append]; exact List.prefix_append _ _), hilen⟩, ⟨g3.own.sl, hj.img.len⟩⟩
  have hqc := oT4.own.2.1
  refine Crop_spec (inI G44).1 (by omega) fun p21 k65 k66 w45 hf45 => ⟨_, _, _, _, _, _, rfl, hf45.ext.keep _, fun k67 hk67 w46 hL46 => ?_⟩
  have oA := hf45.ow
  have hs45 := hf45.ext.size
  have G45 := Gs G44 (hf45.ext.chg (S := fun _ => False)) (by simp)
  have G46 := Gs G45 hL46.chg (by simp; omega)
  have hs46 := hL46.size
  refine Paste_spec (inI G46).1 (inI G46).2 hqc hi.sz hx64 hy64 fun p22 k68 k69 w47 hf47 => ⟨_, _, _, _, _, _, rfl, hf47.ext.keep _, fun k70 hk70 w48 hL48 => ?_⟩
  have oB := hf47.ow
  have hs47 := hf47.ext.size
  have G47 := Gs G46 (hf47.ext.chg (S := fun _ => False)) (by simp)
  have G48 := Gs G47 hL48.chg (by simp; omega)
  have hs48 := hL48.size
  refine Paste_spec (inI G48).1 (inI G48).2 hqc hi.sz hx64 hy64 fun p23 k71 k72 w49 hf49 => ⟨_, _, _, _, _, _, rfl, hf49.ext.keep _, fun k73 hk73 w50 hL50 => ?_⟩
  have oC := hf49.ow
  have hs49 := hf49.ext.size
  have G49 := Gs G48 (hf49.ext.chg (S := fun _ => False)) (by simp)
  have G50 := Gs G49 hL50.chg (by simp; omega)
  have hs50 := hL50.size
  have hA50 : Ow w44.heap.size w45.heap.size w50 p21 k65 k66 1 (px (cropR n33 n34 xs x y cx cy).2.2.1) := by
    refine (((oA.chg hL46.chg ?_).ext hf47.ext).chg hL48.chg ?_ |>.ext hf49.ext).chg hL50.chg ?_
    all_goals intro i h1 h2 hm; have h67 := hl44 i; simp only [List.mem_cons, List.not_mem_nil, or_false] at hm h67; omega
  have hB50 : Ow w46.heap.size w47.heap.size w50 p22 k68 k69 1 (px (pasteR n33 n34 xs n35 n36 ys x y).2.2.1) := by
    have h67 := hL46.there k67 (by simp)
    refine ((oB.chg hL48.chg ?_).ext hf49.ext).chg hL50.chg ?_
    all_goals intro i h1 h2 hm; have h67 := hl44 i; simp only [List.mem_cons, List.not_mem_nil, or_false] at hm h67; omega
  have hC50 : Ow w48.heap.size w49.heap.size w50 p23 k71 k72 1 (px (pasteR n33 n34 xs n35 n36 ys x y).2.2.1) := by
    have h67 := hL46.there k67 (by simp)
    have h70 := hL48.there k70 (by simp)
    refine oC.chg hL50.chg ?_
    intro i h1 h2 hm; have h67 := hl44 i; simp only [List.mem_cons, List.not_mem_nil, or_false] at hm h67; omega
  have hloc : ∀ i, i ∈ [k73, k70, k67, k60, k57, k54, k3, k2, k1] → i < w50.heap.size ∧ ¬ (w44.heap.size ≤ i ∧ i < w45.heap.size) ∧ ¬ (w46.heap.size ≤ i ∧ i < w47.heap.size) := fun i hm => by
    have h67 := hL46.there k67 (by simp)
    have h70 := hL48.there k70 (by simp)
    have h73 := hL50.there k73 (by simp)
    have h44 := hl44 i
    simp only [List.mem_cons, List.not_mem_nil, or_false] at hm h44; omega
  have hAl : k65 + 20 ≤ 2 ^ 45 := by
    rw [oA.len, px_length]
    unfold cropR
    split
    · rename_i hg
      split
      · rename_i hr'
        have h2 := gfits_iff.1 (good_iff.1 hg).1
        have h3 := inR_iff.1 hr'
        have hab : cx * cy ≤ n33 * n34 := Int.mul_le_mul h3.2.2.2.2.1 h3.2.2.2.2.2.1 (by omega) (by omega)
        have := cropX_length hg hr' cy.toNat (by omega)
        have e : ((cy.toNat * cx.toNat : Nat) : Int) = cx * cy := by
          rw [Int.natCast_mul, Int.mul_comm]; congr 1 <;> omega
        simp only [this]; omega
      · simp
    · simp
  have hBl : k68 + 20 ≤ 2 ^ 45 := by
    rw [oB.len, px_length]
    unfold pasteR
    split
    · rename_i hg
      simp only [Bool.and_eq_true] at hg
      have h2 := gfits_iff.1 (good_iff.1 hg.1).1
      simp only [pasteX, flat_length, List.length_map, List.length_range]; omega
    · simp
  -- behind the grid
  refine Grid_any (inI G50).1 (by omega) fun q e w51 hE51 hq => ⟨_, _, rfl, hE51.keep _, ?_⟩
  have G51 := Gs G50 (hE51.chg (S := fun _ => False)) (by simp)
  have hs51 := hE51.size
  refine Distinct_spec (inI G51).1 (by omega) fun p25 k75 w52 hf52 => ⟨_, _, _, rfl, hf52.ext.keep _, ?_⟩
  have G52 := Gs G51 (hf52.ext.chg (S := fun _ => False)) (by simp)
  have hs52 := hf52.ext.size
  have oD := hf52.ow
  have hE502 := hE51.trans hf52.ext
  refine spoil_spec (hA50.ext hE502) (by omega) hAl fun w53 hC53 => ⟨rfl, hC53.keep fun i hm hz => by have := hloc i hm; omega, ?_⟩
  have hs53 := hC53.size
  refine spoil_spec ((hB50.ext hE502).chg hC53 (by omega)) (by omega) hBl fun w54 hC54 => ⟨rfl, hC54.keep fun i hm hz => by have := hloc i hm; omega, ?_⟩
  have hs54 := hC54.size
  have G53 := Gs G52 hC53 (by omega)
  have G54 := Gs G53 hC54 (by omega)
  have hC524 : Chg (fun i => (w44.heap.size ≤ i ∧ i < w45.heap.size) ∨ (w46.heap.size ≤ i ∧ i < w47.heap.size) ∨ w52.heap.size ≤ i) w52 w54 :=
    (hC53.mono fun i hi _ => by omega).trans hC54 fun i hi hlt => by omega
  have oD54 := oD.chg hC524 (by omega)
  have hdl : (distR n33 n34 xs).length < 2 ^ 62 := by
    unfold distR
    split
    · have hg := (good_iff.1 (by assumption)).1
      have := gfits_iff.1 hg
      have := distX_length xs (n33 * n34).toNat
      omega
    · simp
  refine ⟨fun vs u => match vs with | [.int _ n] => 0 ≤ n ∧ n ≤ (distR n33 n34 xs).length ∧ Chg (fun i => w51.heap.size ≤ i ∧ i < w52.heap.size) w54 u ∧ ∃ vs, Ow w51.heap.size w52.heap.size u p25 (distR n33 n34 xs).length k75 4 vs | _ => False,
    fun vs _ => match vs with | [.int _ n] => ((distR n33 n34 xs).length - n).toNat | _ => 0, ⟨Int.le_refl _, by omega, Chg.refl _ _, _, oD54⟩, fun n w55 hI => ?_⟩
  obtain ⟨n0, n1, hC55, vs, oD55⟩ := hI
  have hs55 := hC55.size
  have hvl := oD55.1
  refine brB_i (fun hlt => ?_) (fun _ => ?_)
  · have hlt : n < (distR n33 n34 xs).length := by simpa using hlt
    obtain ⟨b, rfl, hb1, hb2, hcs, oD'⟩ := Ow.set oD55 (i := n.toNat * 4) (us := [u16 0, u16 0, u16 0, u16 0]) (by simp only [List.length_cons, List.length_nil]; omega) (by omega)
    refine idx_i n0 hlt rfl ?_
    rw [loc_add, Nat.zero_add]
    obtain ⟨a0, b0⟩ := hcs 0 (by simp)
    obtain ⟨a1, b1⟩ := hcs 1 (by simp)
    obtain ⟨a2, b2⟩ := hcs 2 (by simp)
    obtain ⟨a3, b3⟩ := hcs 3 (by simp)
    rw [add_zero'] at a0 b0
    refine ⟨a0, b0, a1, b1, a2, b2, a3, b3, fun hm => by have := (hloc b hm).1; omega, ?_, ?_⟩
    · rw [w64 (x := n + 1) (by omega) (by omega)]
      exact ⟨by omega, by omega, hC55.trans (Chg.setCells _ _ _ _) fun i hi _ => by have hi : i = b := hi; omega, _, oD'⟩
    · rw [w64 (x := n + 1) (by omega) (by omega)]
      show ((distR n33 n34 xs).length - (n + 1)).toNat < ((distR n33 n34 xs).length - n).toNat
      omega
  · have hC525 : Chg (fun i => (w44.heap.size ≤ i ∧ i < w45.heap.size) ∨ (w46.heap.size ≤ i ∧ i < w47.heap.size) ∨ w51.heap.size ≤ i) w52 w55 :=
      (hC524.mono fun i hi _ => by omega).trans hC55 fun i hi _ => by omega
    have G55 := Gs G54 hC55 (by omega)
    have hq55 : q = none ∨ ∃ gb cb l, w50.heap.size ≤ cb ∧ cb < w51.heap.size ∧ 1 ≤ n33 ∧ 1 ≤ n34 ∧ GridC w55 q gb cb n33 n34 l := by
      rcases hq with rfl | ⟨gb, cb, l, q1, q2, q3, q4⟩
      · exact .inl rfl
      · have hd := q4.dims
        have hlt := q4.lt
        exact .inr ⟨gb, cb, l, q2, q3, hd.1, hd.2.1, (q4.ext hf52.ext).chg hC525 (by omega) (by omega)⟩
    refine GSet_any (c := (5, 0, 0, 0)) (N := w50.heap.size) (M := w51.heap.size) hq55 fun r w56 hC56 => ⟨_, rfl, hC56.keep fun i hm hz => by have := (hloc i hm).1; omega, ?_⟩
    have G56 := Gs G55 hC56 (by omega)
    have hs56 := hC56.size
    refine refPaste_spec (hi.img.ext G56.1) (hj.img.ext G56.1) hi.sz fun p26 k76 k77 w57 hf57 => ⟨_, _, _, _, _, _, rfl, hf57.ext.keep _, fun k78 hk78 w58 hL58 => ?_⟩
    have hs57 := hf57.ext.size
    have G57 := Gs G56 (hf57.ext.chg (S := fun _ => False)) (by simp)
    have hloc58 : ∀ i, i ∈ [k78, k73, k70, k67, k60, k57, k54, k3, k2, k1] → i ∈ [k60, k57, k54, k3, k2, k1] ∨ w44.heap.size ≤ i := fun i hm => by simp at hm ⊢; omega
    have G58 := Gs G57 hL58.chg hloc58
    refine refSame_spec (inI G58).1 (hi.img.ext G58.1) (sz62 hi) fun w59 hE59 => ⟨_, rfl, hE59.keep _, brB_t same_self ?_⟩
    have G59 := Gs G58 (hE59.chg (S := fun _ => False)) (by simp)
    rw [w64 (x := (k55 : Int) + 1) (by omega) (by omega)]
    refine ⟨Int.le_refl _, by omega, by omega, ?_⟩
    rw [show (0 : Int).toNat = 0 from rfl, slc0]
    refine G59.2.1.own.sl.get (by omega) (by rw [px_length, List.length_append, ← hilen]; simp) (v := u16 77) (by rw [px_get (by rw [List.length_append, ← hilen]; simp)]; rw [Int.toNat_natCast, hilen]; simp [List.getD]) fun a ha => ⟨_, ha, brB_t rfl ?_⟩
    refine refSame_spec (inI G59).2 (hj.img.ext G59.1) (sz62 hj) fun w60 hE60 => ⟨_, rfl, hE60.keep _, brB_t same_self ?_⟩
    have hC5060 : Chg (fun i => (w44.heap.size ≤ i ∧ i < w45.heap.size) ∨ (w46.heap.size ≤ i ∧ i < w47.heap.size) ∨ w50.heap.size ≤ i ∨ i ∈ [k78, k73, k70, k67, k60, k57, k54, k3, k2, k1]) w50 w60 := by
      refine (((((hE502.chg (S := fun _ => False)).mono (fun _ h _ => h.elim)).trans hC525 fun i hi _ => by omega).trans hC56 fun i hi _ => by omega).trans (hf57.ext.chg (S := fun _ => False)) (by simp) |>.trans hL58.chg fun i hi _ => .inr (.inr (.inr hi))).trans ((hE59.trans hE60).chg (S := fun _ => False)) (by simp)
    have oC60 := hC50.chg hC5060 fun i h1 h2 hz => by
      have h67 := hL46.there k67 (by simp)
      have h70 := hL48.there k70 (by simp)
      have h44 := hl44 i
      simp only [List.mem_cons, List.not_mem_nil, or_false] at hz h44
      omega
    have r60 : Img w60 p26 k76 (pasteR n33 n34 xs n35 n36 ys x y).2.2.1 := by
      have o57 := hf57.ow
      have : Ow w56.heap.size w57.heap.size w58 p26 k76 k77 1 (px (pasteR n33 n34 xs n35 n36 ys x y).2.2.1) := o57.chg hL58.chg fun i h1 h2 hm => by
        have hm' := hloc i
        simp only [List.mem_cons, List.not_mem_nil, or_false] at hm hm'
        omega
      exact (ow_img ((this.ext hE59).ext hE60)).1
    refine refSame_spec (ow_img oC60).1 r60 (by rw [(ow_img oC60).1.len]; exact pasteR_len) fun w61 hE61 => ⟨_, rfl, hE61.keep _, to_bool (hR w61 ((G59.1.trans hE60).trans hE61)) same_self.symm⟩
end Go.Proofs.Ytcfcholodhppmaa
