/- Quant: along which sample colours spread most. -/
import Derived.Test.YtijplekhbpigiaaQS4
namespace Go.Proofs.Ytijplekhbpigiaa
open Go Go.Vc Go.RowKit Go.Qn
set_option maxRecDepth 100000
set_option linter.unusedVariables false
set_option linter.unusedSimpArgs false

/-- a sample of a colour -/
def ax (k : Nat) (c : Co) : Int := IntKind.i64.wrap ([c.1, c.2.1, c.2.2.1].getD k 0)
theorem axis_spec {w : World} {c : Co} {k : Nat} {R : Ending → World → Prop} (hk : k < 3) (hR : ∀ w', Ext w w' → R (.returned (i64 (ax k c))) w') : Calls P F.quant_axis #[.agg (co c).toArray, i64 k] w R := by
  refine calls_quant_axis _ _ _ _ _ _ _ ?_
  intro k1 hk1
  refine ⟨by omega, by omega, ax k c, ?_, fun w1 hL => hR w1 (hL.ext (by simpa using hk1))⟩
  rcases k with _ | _ | _ | k
  · rfl
  · rfl
  · rfl
  · omega
theorem isNaN_spec {w : World} {x : Int} {R : Ending → World → Prop} (hR : R (.returned (.bool false)) w) : Calls P F.cmp_isNaN_int #[i64 x] w R := by
  refine calls_cmp_isNaN_int _ _ _ ?_
  unfold vc_cmp_isNaN_int
  simpa using hR
theorem Compare_spec {w : World} {x y : Int} {R : Ending → World → Prop} (hR : ∀ n : Int, (n < 0 ↔ x < y) → (0 < n ↔ y < x) → R (.returned (i64 n)) w) : Calls P F.cmp_Compare_int #[i64 x, i64 y] w R := by
  refine calls_cmp_Compare_int _ _ _ _ ?_
  unfold vc_cmp_Compare_int
  refine isNaN_spec ⟨_, rfl, isNaN_spec ⟨_, rfl, brB_f rfl (brB_f rfl (brB_i (fun h => ?_) fun h => brB_i (fun h' => ?_) fun h' => ?_))⟩⟩
  · have h : x < y := by simpa using h
    exact hR (-1) (by omega) (by omega)
  · have h : ¬ x < y := by simpa using h
    have h' : y < x := by simpa using h'
    exact hR 1 (by omega) (by omega)
  · have h : ¬ x < y := by simpa using h
    have h' : ¬ y < x := by simpa using h'
    exact hR 0 (by omega) (by omega)
/-- a comparison by a key: both ways -/
structure Cmp2 (va : Value) (key : Co → Int) (b : Nat) (Q : World → Prop) : Prop where
  go : ∀ (u : World) (x y : Co) (R : Ending → World → Prop), Q u → (∀ (n : Int) w', Ext u w' → (n < 0 ↔ key x < key y) → (0 < n ↔ key y < key x) → R (.returned (i64 n)) w') → callV P va [.agg (co x).toArray, .agg (co y).toArray] u R
  kp : ∀ u u', Q u → Chg (· = b) u u' → Q u'
theorem Cmp2.cmp {va : Value} {key : Co → Int} {b : Nat} {Q : World → Prop} (h : Cmp2 va key b Q) : Cmp va key b Q := ⟨fun u x y R hQ hR => h.go u x y R hQ fun n w' hE h1 _ => hR n w' hE h1, h.kp⟩
theorem fn2_cmp {kk k b : Nat} (hk : k < 3) (hb : kk ≠ b) : Cmp2 (.func (.func F.quant_Palette_fn2) #[] #[.pointer (some ⟨kk, 0, none⟩)]) (ax k) b fun u => Cs u kk [i64 k] := by
  refine ⟨fun u x y R hQ hR => callW_i (by kernel_rfl) ?_, fun u u' hQ hC => hQ.chg hC hb⟩
  refine calls_quant_Palette_fn2 _ _ _ _ _ _ _ _ _ _ _ ?_
  intro k1 hk1 k2 hk2 w1 hL1
  have hE1 : Ext u w1 := hL1.ext (by simp; omega)
  have h1 := (hQ.ext hE1).cell (i := 0) rfl
  refine ⟨_, h1, _, h1, ?_⟩
  refine axis_spec (c := x) hk fun w2 hE2 => ⟨_, rfl, hE2.keep _, hE2.keeps, axis_spec (c := y) hk fun w3 hE3 => ⟨_, rfl, hE3.keep _, Compare_spec fun n h1 h2 => ⟨n, rfl, (Ext.refl _).keep _, hR n w3 ((hE1.trans hE2).trans hE3) h1 h2⟩⟩⟩
theorem lfn_cmp {kk k b : Nat} (hk : k < 3) (hb : kk ≠ b) : Cmp2 (.func (.func F.quant_longest_fn1) #[] #[.pointer (some ⟨kk, 0, none⟩)]) (ax k) b fun u => Cs u kk [i64 k] := by
  refine ⟨fun u x y R hQ hR => callW_i (by kernel_rfl) ?_, fun u u' hQ hC => hQ.chg hC hb⟩
  refine calls_quant_longest_fn1 _ _ _ _ _ _ _ _ _ _ _ ?_
  intro k1 hk1 k2 hk2 w1 hL1
  have hE1 : Ext u w1 := hL1.ext (by simp; omega)
  have h1 := (hQ.ext hE1).cell (i := 0) rfl
  refine ⟨_, h1, _, h1, ?_⟩
  refine axis_spec (c := x) hk fun w2 hE2 => ⟨_, rfl, hE2.keep _, hE2.keeps, axis_spec (c := y) hk fun w3 hE3 => ⟨_, rfl, hE3.keep _, Compare_spec fun n h1 h2 => ⟨n, rfl, (Ext.refl _).keep _, hR n w3 ((hE1.trans hE2).trans hE3) h1 h2⟩⟩⟩
/-- the greatest, the least sample of the first n + 1 -/
def hiN (k : Nat) (l : List Co) : Nat → Int
  | 0 => ax k (l.getD 0 zeroC)
  | n + 1 => max (hiN k l n) (ax k (l.getD (n + 1) zeroC))
def loN (k : Nat) (l : List Co) : Nat → Int
  | 0 => ax k (l.getD 0 zeroC)
  | n + 1 => min (loN k l n) (ax k (l.getD (n + 1) zeroC))
theorem Max_spec {N : Nat} {w : World} {p : Option Addr} {len cap k b : Nat} {l : List Co} {va : Value} {Q : World → Prop} {R : Ending → World → Prop} (h : Sl N w p (cos l)) (hl : l.length = len) (h0 : 0 < len) (h62 : len ≤ 2 ^ 40)
    (hQ : Q w) (hC : Cmp2 va (ax k) b Q) (hR : ∀ c w', Ext w w' → ax k c = hiN k l (len - 1) → R (.returned (.agg (co c).toArray)) w') :
    Calls P F.slices_MaxFunc_api_Color #[.slice p len cap, va] w R := by
  refine calls_slices_MaxFunc_api_Color _ _ _ _ _ _ ?_
  intro k1 hk1
  refine ⟨fun vs u => vs = [] ∧ Ext w u, brB_f (by simp; omega) fun w1 hL => ⟨rfl, hL.ext (by simpa using hk1)⟩, fun w2 hI => ?_⟩
  obtain ⟨_, hE2⟩ := hI
  refine cos_elem (h.ext hE2) hl (by omega) (by omega) fun a e1 e2 e3 e4 => ⟨_, _, _, _, e1, e2, e3, e4, fun k2 hk2 => ?_⟩
  refine ⟨fun vs u => ∃ (i : Nat) (c : Co), vs = i64 (i + 1 : Nat) :: co c ∧ i < len ∧ Ext w u ∧ ax k c = hiN k l i, fun vs _ => match vs with | .int _ n :: _ => (len - n).toNat | _ => 0,
    fun w3 hL => ⟨0, l.getD 0 zeroC, rfl, h0, hE2.step hL.chg (by simp; have := hE2.size; omega), rfl⟩, fun n5 n6 n7 n8 n9 w4 hI => ?_⟩
  obtain ⟨i, c, hv, hi, hE4, hc⟩ := hI
  obtain ⟨rfl, rfl⟩ : n5 = (i + 1 : Nat) ∧ c = (n6, n7, n8, n9) := by
    simp only [co, List.cons.injEq, Value.int.injEq, true_and, and_true] at hv
    obtain ⟨h1, h2, h3, h4, h5⟩ := hv
    exact ⟨h1, by rw [h2, h3, h4, h5]⟩
  have hkk : ∀ b, b ∈ [k2, k1] → w.heap.size ≤ b := by simp; have := hE2.size; omega
  refine brB_i (fun hlt => ?_) fun hge => ?_
  · have hlt : i + 1 < len := by simp at hlt; omega
    refine ⟨fun vs u => ∃ c : Co, vs = co c ∧ Ext w u ∧ ax k c = hiN k l (i + 1), ?_, fun m1 m2 m3 m4 w7 hI => ?_⟩
    · have ei : ((i + 1 : Nat) : Int).toNat = i + 1 := by omega
      refine cos_elem (h.ext hE4).drew hl (by omega) (by omega) fun a e1 e2 e3 e4 => ⟨_, _, _, _, e1, e2, e3, e4, ?_⟩
      rw [ei]
      refine hC.go _ (l.getD (i + 1) zeroC) (n6, n7, n8, n9) _ (hC.kp _ _ hQ hE4.drew.chg) fun n w5 hE5 hn1 hn2 => ⟨n, rfl, hE5.keep _, ?_⟩
      have hE5' := hE4.drew.trans hE5
      refine brB_i (fun hgt => ?_) fun hle => ?_
      · have hgt := hn2.1 (by simpa using hgt)
        refine cos_elem (h.ext hE5') hl (by omega) (by omega) fun a e1 e2 e3 e4 => ⟨_, _, _, _, e1, e2, e3, e4, fun w6 hL6 => ⟨l.getD (i + 1) zeroC, by rw [ei]; rfl, hE5'.step hL6.chg hkk, ?_⟩⟩
        rw [hiN]; omega
      · have hle : ¬ (0 < n) := by simpa using hle
        have := mt hn2.2 hle
        exact ⟨(n6, n7, n8, n9), rfl, hE5', by rw [hiN]; omega⟩
    · obtain ⟨c', hv, hE7, hc'⟩ := hI
      obtain rfl : c' = (m1, m2, m3, m4) := by
        simp only [co, List.cons.injEq, Value.int.injEq, true_and, and_true] at hv
        obtain ⟨h1, h2, h3, h4⟩ := hv
        rw [h1, h2, h3, h4]
      rw [w64 (x := ((i + 1 : Nat) : Int) + 1) (by omega) (by omega)]
      exact ⟨⟨i + 1, _, by simp [co], hlt, hE7, hc'⟩, by show ((len : Int) - (((i + 1 : Nat) : Int) + 1)).toNat < ((len : Int) - ((i + 1 : Nat) : Int)).toNat; omega⟩
  · have hge : len = i + 1 := by simp at hge; omega
    exact fun w8 hL8 => hR (n6, n7, n8, n9) w8 (hE4.step hL8.chg hkk) (by rw [hc, hge]; rfl)
theorem Min_spec {N : Nat} {w : World} {p : Option Addr} {len cap k b : Nat} {l : List Co} {va : Value} {Q : World → Prop} {R : Ending → World → Prop} (h : Sl N w p (cos l)) (hl : l.length = len) (h0 : 0 < len) (h62 : len ≤ 2 ^ 40)
    (hQ : Q w) (hC : Cmp2 va (ax k) b Q) (hR : ∀ c w', Ext w w' → ax k c = loN k l (len - 1) → R (.returned (.agg (co c).toArray)) w') :
    Calls P F.slices_MinFunc_api_Color #[.slice p len cap, va] w R := by
  refine calls_slices_MinFunc_api_Color _ _ _ _ _ _ ?_
  intro k1 hk1
  refine ⟨fun vs u => vs = [] ∧ Ext w u, brB_f (by simp; omega) fun w1 hL => ⟨rfl, hL.ext (by simpa using hk1)⟩, fun w2 hI => ?_⟩
  obtain ⟨_, hE2⟩ := hI
  refine cos_elem (h.ext hE2) hl (by omega) (by omega) fun a e1 e2 e3 e4 => ⟨_, _, _, _, e1, e2, e3, e4, fun k2 hk2 => ?_⟩
  refine ⟨fun vs u => ∃ (i : Nat) (c : Co), vs = i64 (i + 1 : Nat) :: co c ∧ i < len ∧ Ext w u ∧ ax k c = loN k l i, fun vs _ => match vs with | .int _ n :: _ => (len - n).toNat | _ => 0,
    fun w3 hL => ⟨0, l.getD 0 zeroC, rfl, h0, hE2.step hL.chg (by simp; have := hE2.size; omega), rfl⟩, fun n5 n6 n7 n8 n9 w4 hI => ?_⟩
  obtain ⟨i, c, hv, hi, hE4, hc⟩ := hI
  obtain ⟨rfl, rfl⟩ : n5 = (i + 1 : Nat) ∧ c = (n6, n7, n8, n9) := by
    simp only [co, List.cons.injEq, Value.int.injEq, true_and, and_true] at hv
    obtain ⟨h1, h2, h3, h4, h5⟩ := hv
    exact ⟨h1, by rw [h2, h3, h4, h5]⟩
  have hkk : ∀ b, b ∈ [k2, k1] → w.heap.size ≤ b := by simp; have := hE2.size; omega
  refine brB_i (fun hlt => ?_) fun hge => ?_
  · have hlt : i + 1 < len := by simp at hlt; omega
    refine ⟨fun vs u => ∃ c : Co, vs = co c ∧ Ext w u ∧ ax k c = loN k l (i + 1), ?_, fun m1 m2 m3 m4 w7 hI => ?_⟩
    · have ei : ((i + 1 : Nat) : Int).toNat = i + 1 := by omega
      refine cos_elem (h.ext hE4).drew hl (by omega) (by omega) fun a e1 e2 e3 e4 => ⟨_, _, _, _, e1, e2, e3, e4, ?_⟩
      rw [ei]
      refine hC.go _ (l.getD (i + 1) zeroC) (n6, n7, n8, n9) _ (hC.kp _ _ hQ hE4.drew.chg) fun n w5 hE5 hn1 hn2 => ⟨n, rfl, hE5.keep _, ?_⟩
      have hE5' := hE4.drew.trans hE5
      refine brB_i (fun hgt => ?_) fun hle => ?_
      · have hgt := hn1.1 (by simpa using hgt)
        refine cos_elem (h.ext hE5') hl (by omega) (by omega) fun a e1 e2 e3 e4 => ⟨_, _, _, _, e1, e2, e3, e4, fun w6 hL6 => ⟨l.getD (i + 1) zeroC, by rw [ei]; rfl, hE5'.step hL6.chg hkk, ?_⟩⟩
        rw [loN]; omega
      · have hle : ¬ (n < 0) := by simpa using hle
        have := mt hn1.2 hle
        exact ⟨(n6, n7, n8, n9), rfl, hE5', by rw [loN]; omega⟩
    · obtain ⟨c', hv, hE7, hc'⟩ := hI
      obtain rfl : c' = (m1, m2, m3, m4) := by
        simp only [co, List.cons.injEq, Value.int.injEq, true_and, and_true] at hv
        obtain ⟨h1, h2, h3, h4⟩ := hv
        rw [h1, h2, h3, h4]
      rw [w64 (x := ((i + 1 : Nat) : Int) + 1) (by omega) (by omega)]
      exact ⟨⟨i + 1, _, by simp [co], hlt, hE7, hc'⟩, by show ((len : Int) - (((i + 1 : Nat) : Int) + 1)).toNat < ((len : Int) - ((i + 1 : Nat) : Int)).toNat; omega⟩
  · have hge : len = i + 1 := by simp at hge; omega
    exact fun w8 hL8 => hR (n6, n7, n8, n9) w8 (hE4.step hL8.chg hkk) (by rw [hc, hge]; rfl)
/-- how far a list's samples spread -/
def spr (l : List Co) (k : Nat) : Int := IntKind.i64.wrap (hiN k l (l.length - 1) - loN k l (l.length - 1))
/-- the widest of the first k samples, and which it is -/
def lgs (l : List Co) : Nat → Int × Nat
  | 0 => (-1, 0)
  | k + 1 => if spr l k > (lgs l k).1 then (spr l k, k) else lgs l k
def lgV (l : List Co) : Nat := (lgs l 3).2
theorem lgs_lt (l : List Co) : ∀ k, (lgs l k).2 < max 1 k
  | 0 => by simp [lgs]
  | k + 1 => by
    have := lgs_lt l k
    unfold lgs
    split
    · show k < _; omega
    · omega
theorem lgV_lt (l : List Co) : lgV l < 3 := by have := lgs_lt l 3; unfold lgV; omega
theorem longest_spec {N : Nat} {w : World} {p : Option Addr} {len cap : Nat} {l : List Co} {R : Ending → World → Prop} (h : Sl N w p (cos l)) (hl : l.length = len) (h0 : 0 < len) (h62 : len ≤ 2 ^ 40)
    (hR : ∀ w', Ext w w' → R (.returned (i64 (lgV l))) w') : Calls P F.quant_longest #[.slice p len cap] w R := by
  refine calls_quant_longest _ _ _ _ _ ?_
  unfold vc_quant_longest
  refine ⟨fun vs u => ∃ k : Nat, vs = [i64 (lgs l k).1, i64 (lgs l k).2, i64 k] ∧ k ≤ 3 ∧ Ext w u, fun vs _ => match vs with | [_, _, .int _ k] => (3 - k).toNat | _ => 0, ⟨0, rfl, by omega, Ext.refl _⟩, fun n1 n2 n3 w1 hI => ?_⟩
  obtain ⟨k, hv, hk, hE⟩ := hI
  obtain ⟨rfl, rfl, rfl⟩ : n1 = (lgs l k).1 ∧ n2 = (lgs l k).2 ∧ n3 = k := by simpa using hv
  refine brB_i (fun hlt => ?_) fun hge => ?_
  · have hlt : k < 3 := by simp at hlt; omega
    refine ⟨fun vs u => vs = [i64 (lgs l (k + 1)).1, i64 (lgs l (k + 1)).2] ∧ Ext w u, fun k1 w2 hn => ?_, fun n17 n18 w7 hI => ?_⟩
    · have hc0 := hn.cs
      have hset := hc0.set1 (off := 0) (v := i64 k) (by simp)
      have hcell := hset.drew.cell (i := 0) rfl
      have hE2 : Ext w1 (setCells w2 ⟨k1, 0, none⟩ [i64 k] 0) := hn.ext.step (Chg.setCells w2 ⟨k1, 0, none⟩ [i64 k] 0) fun i hi => by
        have : i = k1 := hi
        rw [this, hn.1]; exact Nat.le_refl _
      have hEa := (hE.trans hE2).drew
      have hlc := lfn_cmp (k := k) (kk := k1) (b := k1 + 1) hlt (by omega)
      refine ⟨⟨_, hc0.cell (i := 0) rfl⟩, hc0.frozen 0, _, hcell, _, hcell, ?_⟩
      refine Max_spec (k := k) (h.ext hEa) hl h0 h62 (hset.drew) hlc fun c w3 hE3 hc => ⟨_, _, _, _, rfl, hE3.keeps, ?_⟩
      refine axis_spec (c := c) hlt fun w4 hE4 => ⟨_, rfl, hE4.keeps, ?_⟩
      have hEb := (hEa.trans hE3).trans hE4
      have hs4 := ((hset.drew).ext hE3).ext hE4
      refine Min_spec (k := k) (h.ext hEb) hl h0 h62 hs4 hlc fun d w5 hE5 hd => ⟨_, _, _, _, rfl, hE5.keeps, ?_⟩
      refine axis_spec (c := d) hlt fun w6 hE6 => ⟨_, rfl, ?_⟩
      have hEc := (hEb.trans hE5).trans hE6
      have hs6 := (hs4.ext hE5).ext hE6
      have hsp : IntKind.i64.wrap (ax k c - ax k d) = spr l k := by unfold spr; rw [hc, hd, hl]
      rw [hsp]
      refine brB_i (fun hgt => ?_) fun hle => ?_
      · have hgt : spr l k > (lgs l k).1 := by simpa using hgt
        refine ⟨_, hs6.drew.cell (i := 0) rfl, ?_, hEc.drew⟩
        rw [lgs, if_pos hgt]
      · have hle : ¬ spr l k > (lgs l k).1 := by simpa using hle
        refine ⟨?_, hEc⟩
        rw [lgs, if_neg hle]
    · obtain ⟨hv, hE7⟩ := hI
      obtain ⟨rfl, rfl⟩ : n17 = (lgs l (k + 1)).1 ∧ n18 = (lgs l (k + 1)).2 := by simpa using hv
      rw [w64 (x := (k : Int) + 1) (by omega) (by omega)]
      exact ⟨⟨k + 1, by simp, by omega, hE7⟩, by show (3 - ((k : Int) + 1)).toNat < (3 - (k : Int)).toNat; omega⟩
  · have hge : k = 3 := by simp at hge; omega
    subst hge
    exact hR w1 hE
end Go.Proofs.Ytijplekhbpigiaa
