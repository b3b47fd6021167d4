/- GridAll: its function answers true, and nothing that was there turns. -/
import Derived.Test.YtpdfpbioolbjjaaGrid3
namespace Go.Proofs.Ytpdfpbioolbjjaa
open Go Go.Vc Go.RowKit
set_option maxRecDepth 100000
set_option linter.unusedVariables false
set_option linter.unusedSimpArgs false

def neg (v : Int) : Int := IntKind.i64.wrap (0 - v)
def negL (xs : List Int) (k : Nat) : List Int := (xs.take k).map neg ++ xs.drop k
theorem negL_zero (xs : List Int) : negL xs 0 = xs := by simp [negL]
theorem negL_length (xs : List Int) (k : Nat) : (negL xs k).length = xs.length := by
  simp only [negL, List.length_append, List.length_map, List.length_take, List.length_drop]; omega
theorem negL_get {xs : List Int} {k : Nat} (h : k < xs.length) : (negL xs k).getD k 0 = xs.getD k 0 := by
  have e : (negL xs k)[k]? = xs[k]? := by
    rw [negL, List.getElem?_append_right (by simp; omega)]
    simp [Nat.min_eq_left (Nat.le_of_lt h)]
  simp [List.getD, e]
theorem negL_set {xs : List Int} {k : Nat} (h : k < xs.length) : (negL xs k).set k (neg (xs.getD k 0)) = negL xs (k + 1) := by
  have e : xs.drop k = xs[k] :: xs.drop (k + 1) := List.drop_eq_getElem_cons h
  have hl : ((xs.take k).map neg).length = k := by simp; omega
  rw [negL, List.set_append_right _ _ (by omega), hl, Nat.sub_self, e, List.set_cons_zero, negL, List.take_succ_eq_append_getElem h, List.map_append]
  simp [List.getD, h]
/-- a loop that turns the first m numbers of a slice about -/
theorem neg_loop {N M : Nat} {w0 : World} {base : Option Addr} {len cap : Nat} {xs : List Int} {bs : List Nat} {m : Int} {K : World → Prop}
    (ho : Ow N M w0 base len cap 1 (ints xs)) (hlen : len < 2 ^ 62) (hm0 : 0 ≤ m) (hm : m ≤ len) (hb : ∀ b ∈ bs, b < N ∨ M ≤ b)
    (hK : ∀ w', Chg (fun k => (N ≤ k ∧ k < M) ∨ k ∈ bs) w0 w' → Ow N M w' base len cap 1 (ints (negL xs m.toNat)) → K w') :
    ∃ (I : List Value → World → Prop) (me : List Value → World → Nat), (∀ w, Locl bs w0 w → I [i64 0] w) ∧ ∀ (n : Int) (w' : World), I [i64 n] w' → brB (decide (n < m))
      (idx base len n 1 fun a1 => ∃ n6 : Int, (w'.drew.cell? a1 = some (i64 n6)) ∧ idx base len n 1 fun a => (∃ v1, w'.drew.cell? a = some v1) ∧ (w'.drew.frozen? a = false) ∧ (¬ a.block ∈ bs) ∧
        I [i64 (IntKind.i64.wrap (n + 1))] (setCells w'.drew a [i64 (IntKind.i64.wrap (0 - n6))] 0) ∧ me [i64 (IntKind.i64.wrap (n + 1))] (setCells w'.drew a [i64 (IntKind.i64.wrap (0 - n6))] 0) < me [i64 n] w') (K w') := by
  refine ⟨fun l w' => match l with | [.int _ n] => 0 ≤ n ∧ n ≤ m ∧ Chg (fun k => (N ≤ k ∧ k < M) ∨ k ∈ bs) w0 w' ∧ Ow N M w' base len cap 1 (ints (negL xs n.toNat)) | _ => False,
    fun l _ => match l with | [.int _ n] => (m - n).toNat | _ => 0, fun w hL => ⟨Int.le_refl _, hm0, hL.chg.mono fun i hi _ => .inr hi, ?_⟩, fun n w' hI => ?_⟩
  · rw [show (0 : Int).toNat = 0 from rfl, negL_zero]
    exact ho.chg hL.chg fun b h1 h2 h3 => by have := hb b h3; omega
  obtain ⟨h0, h1, hc, ho'⟩ := hI
  refine brB_i (fun hlt => ?_) (fun hge => ?_)
  · have hlt : n < m := by simpa using hlt
    have hly := ho'.len
    rw [ints_length, negL_length] at hly
    have ho' : Ow N M w'.drew base len cap 1 (ints (negL xs n.toNat)) := ho'
    refine ho'.sl.get h0 (by rw [ints_length, negL_length]; omega) (ints_get (by rw [negL_length]; omega)) fun a1 hc1 => ⟨_, hc1, ?_⟩
    obtain ⟨b, rfl, hb1, hb2⟩ := ho'.base (by omega)
    refine idx_i h0 (by omega) rfl ?_
    rw [loc_add, Nat.zero_add, Nat.mul_one, negL_get (by omega)]
    obtain ⟨q1, q2, q3⟩ := ho'.write (i := n.toNat) (by omega)
    obtain ⟨q3, q4⟩ := q3 (i64 (neg (xs.getD n.toNat 0)))
    refine ⟨q1, q2, fun hm => ?_, ?_, ?_⟩
    · have := hb b hm; omega
    · rw [w64 (x := n + 1) (by omega) (by omega)]
      refine ⟨by omega, by omega, hc.drew.trans q4 (fun i hi _ => .inl (by have hi : i = b := hi; omega)), ?_⟩
      have e : (ints (negL xs n.toNat)).set n.toNat (i64 (neg (xs.getD n.toNat 0))) = ints (negL xs (n + 1).toNat) := by
        rw [show (n + 1).toNat = n.toNat + 1 by omega, ← negL_set (by omega)]; simp [ints, List.map_set]
      rw [← e]; exact q3
    · rw [w64 (x := n + 1) (by omega) (by omega)]
      show (m - (n + 1)).toNat < (m - n).toNat
      omega
  · have : n = m := by simp at hge; omega
    subst this
    exact hK w' hc ho'
theorem all_walk {w : World} {base : Option Addr} {len cap : Nat} {W H stop : Int} {xs : List Int} {R : Ending → World → Prop}
    (hc : CellsOk w W H base len cap xs) (_ : (Lit.int .i64 stop).wf = true) (hR : ∀ w', Ext w w' → R (.returned (.bool true)) w') :
    Calls P F.law07_GridAll #[.agg #[i64 W, i64 H, .slice base len cap], i64 stop] w R := by
  have h := hc.sl
  have hl := hc.long
  refine calls_law07_GridAll _ _ _ _ _ _ _ _ ?_
  unfold vc_law07_GridAll
  intro k1 hk1 k2 hk2 k3 hk3 w1 hL1
  have hE1 : Ext w w1 := hL1.ext (by simp; omega)
  have ht1 := hL1.there k1 (by simp)
  have ht2 := hL1.there k2 (by simp)
  have ht3 := hL1.there k3 (by simp)
  refine wakes_spec fun w2 hE2 => ⟨_, rfl, hE2.keep _, brB_f rfl ?_⟩
  have hE12 := hE1.trans hE2
  have hs1 := hE1.size
  have hs2 := hE2.size
  refine both_spec (h.ext hE12) hl hc.bytes (fun w4 hE4 => ⟨_, _, _, _, _, _, _, _, rfl, hE4.keep _, fun k6 hk6 k7 hk7 => brB_t rfl fun w5 hL5 => hR w5 ?_⟩)
    (fun gb cb w4 hE4 hb1 hb2 hg => ⟨_, _, _, _, _, _, _, _, rfl, hE4.keep _, fun k6 hk6 k7 hk7 => brB_f rfl fun k8 hk8 w6 hL6 => ?_⟩)
  · have hs4 := hE4.size
    exact (hE12.trans hE4).step hL5.chg (by simp; omega)
  have hs4 := hE4.size
  have hE6 : Ext w w6 := (hE12.trans hE4).step hL6.chg (by simp; omega)
  have hs6 := hL6.size
  have ht6 := hL6.there k6 (by simp)
  have ht7 := hL6.there k7 (by simp)
  have ht8 := hL6.there k8 (by simp)
  have hlt := hg.lt
  have hd := hg.dims
  have hlen := hg.len
  rw [ints_length] at hd hlen
  have hwm := wrapmul hd.1 hd.2.1 hd.2.2.1 hd.2.2.2.1
  have hg6 := hg.chg hL6.chg (by simp; omega) (by simp; omega)
  refine All_spec fun kb w7 hE7 hkb hcs7 => ⟨_, _, _, rfl, hE7.keep _, fun k9 w8 hrf J Z stJ stZ hJ0 rule => ?_⟩
  have hs7 := hE7.size
  have hk9 := hrf.eq
  have hs8 := hrf.size
  have hE8 := hrf.ext
  refine callF_i (by kernel_rfl) ?_
  have hkb7 := hcs7.lt
  have hsz := hE6.size
  -- what stays so while cells come
  let G : Nat → World → Prop := fun k u => Ext w u ∧ w8.heap.size ≤ u.heap.size ∧ u.cell? ⟨kb, 0, none⟩ = some (.pointer (some ⟨gb, 0, none⟩)) ∧ GridAt u (some ⟨gb, 0, none⟩) gb cb W H (ints (negL xs k))
  have G0 : G 0 w8 := ⟨((hE6.trans hE7).trans hE8), Nat.le_refl _, (hcs7.ext hE8).cell (i := 0) rfl, by rw [negL_zero]; exact (hg6.ext hE7).ext hE8⟩
  have Gs : ∀ {k : Nat} {u u' : World} {S : Nat → Prop}, G k u → Chg S u u' → (∀ i, S i → i = k1 ∨ i = k2 ∨ i = k3 ∨ i = k6 ∨ i = k7 ∨ i = k8 ∨ i = k9 ∨ i = w7.heap.size ∨ w8.heap.size ≤ i) → G k u' := by
    intro k u u' S hG hC hS
    obtain ⟨g1, g2, g3, g4⟩ := hG
    have := g1.size
    refine ⟨g1.step hC (fun i hi => by have := hS i hi; omega), Nat.le_trans g2 hC.size, ?_, g4.chg hC (fun hi => by have := hS _ hi; omega) (fun hi => by have := hS _ hi; omega)⟩
    have : u'.heap[kb]? = u.heap[kb]? := hC.block kb (by omega) (fun hi => by have := hS _ hi; omega)
    simpa [World.cell?, this] using g3
  -- what is done behind
  have done : ∀ {n : Int} {u : World}, 0 ≤ n → n ≤ W * H → G n.toNat u → (n = stop ∨ n = W * H) → ∀ u', Put k9 u u' → Calls P F.law07_own #[Value.slice base len cap] u' fun e6 w31 =>
        ∃ p3 : Option Addr, ∃ k11 : Nat, ∃ k12 : Nat, (e6 = Ending.returned (Value.slice p3 k11 k12)) ∧ (Keep ([w7.heap.size, k8, k7, k6, k3, k2, k1]) u' w31) ∧
        ∃ I3 : List Value → World → Prop, ∃ m1 : List Value → World → Nat, (∀ w32 : World, (Locl ([k8, k7, k6, k3, k2, k1]) w31 w32) → I3 [Value.int IntKind.i64 0] w32) ∧
        ∀ n9 : Int, ∀ w33 : World, (I3 [Value.int IntKind.i64 n9] w33) →
        brB (decide (n9 < n))
          (idx (p3) (k11) (n9) (1) fun a2 => ∃ n10 : Int, (w33.drew.cell? a2 = some (Value.int IntKind.i64 n10)) ∧ idx (p3) (k11) (n9) (1) fun a3 => (∃ v2 : Value, w33.drew.cell? a3 = some v2) ∧
          (w33.drew.frozen? a3 = false) ∧ (¬a3.block ∈ [k8, k7, k6, k3, k2, k1]) ∧
          (I3 [Value.int IntKind.i64 (IntKind.i64.wrap (n9 + 1))] (setCells w33.drew a3 [Value.int IntKind.i64 (IntKind.i64.wrap (0 - n10))] 0)) ∧
          m1 [Value.int IntKind.i64 (IntKind.i64.wrap (n9 + 1))] (setCells w33.drew a3 [Value.int IntKind.i64 (IntKind.i64.wrap (0 - n10))] 0) < m1 [Value.int IntKind.i64 n9] w33)
          (Calls P F.law07_same #[Value.pointer (some ⟨gb, 0, none⟩), Value.agg #[Value.int IntKind.i64 W, Value.int IntKind.i64 H, Value.slice p3 k11 k12]] w33 fun e7 w34 =>
          ∃ c7 : Bool, (e7 = Ending.returned (Value.bool c7)) ∧ (Keep ([w7.heap.size, k8, k7, k6, k3, k2, k1]) w33 w34) ∧
          brB (c7)
            (brB (n == stop)
              (∀ w35 : World, (Locl ([k8, k7, k6, k3, k2, k1]) w34 w35) → ∀ w36 : World, (Put (w7.heap.size) w35 w36) → R (Ending.returned (Value.bool true)) w36)
              (∀ w37 : World, (Locl ([k8, k7, k6, k3, k2, k1]) w34 w37) → ∀ w38 : World, (Put (w7.heap.size) w37 w38) → R (Ending.returned (Value.bool (n == IntKind.i64.wrap (W * H)))) w38))
            (∀ w39 : World, (Locl ([k8, k7, k6, k3, k2, k1]) w34 w39) → ∀ w40 : World, (Put (w7.heap.size) w39 w40) → R (Ending.returned (Value.bool false)) w40)) := by
    intro n u hn0 hnm hG hn u' hp
    have hG' := Gs hG hp.chg (by simp <;> omega)
    refine own_spec (h.ext hG'.1) hl hc.bytes fun p3 k11 w31 hE31 ho31 => ⟨_, _, _, rfl, hE31.keep _, ?_⟩
    have hu8 := hG'.2.1
    have hG31 := Gs hG' (hE31.chg (S := fun _ => False)) (fun _ hi => hi.elim)
    refine neg_loop ho31 (by omega) hn0 (by omega) (by simp <;> omega) fun w33 hC33 ho33 => ?_
    have hG33 := Gs hG31 hC33 (by simp <;> omega)
    refine same07_spec hG33.2.2.2 ho33.sl (by rw [negL_length]; exact hl) fun w34 hE34 => ⟨_, rfl, hE34.keep _, brB_t (by simp) ?_⟩
    have fin : ∀ w28, Locl ([k8, k7, k6, k3, k2, k1]) w34 w28 → ∀ w29, Put (w7.heap.size) w28 w29 → Ext w w29 := by
      intro w28 hL28 w29 hp29
      have g2 := Gs (Gs (Gs hG33 (hE34.chg (S := fun _ => False)) (fun _ hi => hi.elim)) hL28.chg (by simp <;> omega)) hp29.chg (by simp <;> omega)
      exact g2.1
    refine brB_i (fun _ w28 hL28 w29 hp29 => hR _ (fin _ hL28 _ hp29)) (fun hne w28 hL28 w29 hp29 => ?_)
    have hn' : n = W * H := by
      have : n ≠ stop := by simpa using hne
      omega
    refine to_bool (hR _ (fin _ hL28 _ hp29)) (by rw [hwm]; simp [hn'])
  refine All_iter (q := some ⟨gb, 0, none⟩) (gb := gb) (cb := cb) (W := W) (H := H) (fun k ys u => ys = negL xs k ∧ G k u ∧ ∃ c : Bool, J [.bool c, i64 k] u) (xs0 := xs) (fun k ys u hu => ?_) ⟨(negL_zero xs).symm, Gs G0 (Chg.refl (fun _ => False) w8).drew (fun _ hi => hi.elim), _, stJ _ _ _ hJ0 ((Ext.refl w8).drew.keep _)⟩ (fun k ys u hk hu => ?_) (fun ys u hu => ?_)
  · obtain ⟨rfl, hG, _⟩ := hu
    exact ⟨hG.2.2.1, hG.2.2.2⟩
  · obtain ⟨rfl, hG, cc, hj⟩ := hu
    have hj' := stJ _ _ _ hj ((Ext.refl u).drew.keep _)
    have hG' := Gs hG (Chg.refl (fun _ => False) u).drew (fun _ hi => hi.elim)
    have hu8 := hG.2.1
    refine rule cc k (k % W) (k / W) _ u.drew _ hj' fun y5 y6 k10 hk10 w14 hL14 w15 hp => ?_
    have hk10 : u.heap.size ≤ k10 := hk10
    have hG15 := Gs (Gs hG' hL14.chg (by simp <;> omega)) hp.chg (by simp <;> omega)
    have hsz15 : u.heap.size ≤ w15.heap.size := Nat.le_trans hL14.size (Nat.le_of_eq hp.size.symm)
    have hq : (k : Int) / W ≤ k := Int.ediv_le_self _ (by omega)
    have hq0 : 0 ≤ (k : Int) / W := Int.ediv_nonneg (by omega) (by omega)
    refine brB_f (by simp; omega) ⟨by omega, ?_⟩
    rw [show divZ .rem .i64 k W = k % W by simp only [divZ]; exact Int.tmod_eq_emod_of_nonneg (by omega),
      show divZ .quo .i64 k W = k / W by simp only [divZ]; rw [Int.tdiv_eq_ediv_of_nonneg (by omega)]; exact w64 (by omega) (by omega)]
    refine brB_f (by simp) ⟨by omega, brB_f (by simp) ?_⟩
    have hkl : k < xs.length := by omega
    refine (h.ext hG15.1).drew.get (by omega) (by rw [ints_length]; omega) (ints_get (i := (k : Int).toNat) (by omega)) fun a hca => ⟨_, hca, brB_f ?_ ?_⟩
    · rw [negL_get hkl]; simp
    rw [negL_get hkl]
    have hm0 : 0 ≤ (k : Int) % W := Int.emod_nonneg _ (by omega)
    have hm1 : (k : Int) % W < W := Int.emod_lt_of_pos _ (by omega)
    have hdm : (k : Int) / W * W + k % W = k := by rw [Int.mul_comm]; exact Int.mul_ediv_add_emod _ _
    have hyH : (k : Int) / W < H := Int.ediv_lt_of_lt_mul (by omega) (by rw [Int.mul_comm H W]; exact hk)
    have hin : inside W H (k % W) (k / W) = true := by simp [inside]; omega
    refine Set_spec (Gs hG15 (Chg.refl (fun _ => False) w15).drew (fun _ hi => hi.elim)).2.2.2 fun w24 hC24 hg24 => ⟨_, rfl, hC24.keep (by simp; omega), ?_⟩
    rw [hin, hdm, if_pos rfl, Int.toNat_natCast] at hg24
    have e24 := negL_set hkl
    unfold neg at e24
    rw [e24] at hg24
    have hc15 : w15.drew.cell? ⟨kb, 0, none⟩ = some (.pointer (some ⟨gb, 0, none⟩)) := hG15.2.2.1
    have hG24 : G (k + 1) w24 := by
      refine ⟨hG15.1.drew.step hC24 (fun i hi => by have hi : i = cb := hi; omega), Nat.le_trans hG15.2.1 hC24.size, ?_, hg24⟩
      have : w24.heap[kb]? = w15.drew.heap[kb]? := hC24.block kb (by show kb < w15.heap.size; omega) (fun hi => by have hi : kb = cb := hi; omega)
      simpa [World.cell?, this] using hc15
    have hsz24 : w15.heap.size ≤ w24.heap.size := hC24.size
    rw [w64 (x := (k : Int) + 1) (by omega) (by omega)]
    refine brB_i (fun hst w21 hL21 w22 hp22 hz => ?_) (fun hst w23 hL23 w24 hp24 hj24 => ?_)
    · have hst : (k : Int) + 1 = stop := by simpa using hst
      have hG22 := Gs (Gs hG24 hL21.chg (by simp <;> omega)) hp22.chg (by simp <;> omega)
      exact .inr ⟨rfl, _, rfl, .inr (.inr ⟨_, _, hz, done (by omega) (by omega) (by rw [show ((k : Int) + 1).toNat = k + 1 by omega]; exact hG22) (.inl hst)⟩)⟩
    · have hG24 := Gs (Gs hG24 hL23.chg (by simp <;> omega)) hp24.chg (by simp <;> omega)
      exact .inl ⟨rfl, _, rfl, hG24, _, by simpa using hj24⟩
  · obtain ⟨rfl, hG, cc, hj⟩ := hu
    have hpos : 0 < W * H := Int.mul_pos (by omega) (by omega)
    have e : (((W * H).toNat : Nat) : Int) = W * H := by omega
    rw [e] at hj
    exact ⟨_, rfl, .inl ⟨_, _, hj, done (by omega) (by omega) hG (.inr rfl)⟩⟩
end Go.Proofs.Ytpdfpbioolbjjaa
