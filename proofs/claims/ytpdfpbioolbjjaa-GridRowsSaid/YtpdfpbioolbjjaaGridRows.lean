/- GridRows: its function answers true, and nothing that was there turns. -/
import Derived.Test.YtpdfpbioolbjjaaGrid3
namespace Go.Proofs.Ytpdfpbioolbjjaa
open Go Go.Vc Go.RowKit
set_option maxRecDepth 100000
set_option linter.unusedVariables false
set_option linter.unusedSimpArgs false

/-- a loop that adds one to each number of a slice -/
theorem add_loop {N M : Nat} {w : World} {base : Option Addr} {len cap : Nat} {xs : List Int} {bs : List Nat} {K : World → Prop}
    (ho : Ow N M w base len cap 1 (ints xs)) (hlen : len < 2 ^ 62) (hb : ∀ b ∈ bs, b < N ∨ M ≤ b) (hK : ∀ w', Chg (fun k => N ≤ k ∧ k < M) w w' → K w') :
    ∃ (I : List Value → World → Prop) (m : List Value → World → Nat), I [i64 0] w ∧ ∀ (n : Int) (w' : World), I [i64 n] w' → brB (decide (n < (len : Int)))
      (idx base len n 1 fun a1 => ∃ n6 : Int, (w'.cell? a1 = some (i64 n6)) ∧ idx base len n 1 fun a => (∃ v1, w'.cell? a = some v1) ∧ (w'.frozen? a = false) ∧ (¬ a.block ∈ bs) ∧
        I [i64 (IntKind.i64.wrap (n + 1))] (setCells w' a [i64 (IntKind.i64.wrap (n6 + 1))] 0) ∧ m [i64 (IntKind.i64.wrap (n + 1))] (setCells w' a [i64 (IntKind.i64.wrap (n6 + 1))] 0) < m [i64 n] w') (K w') := by
  refine ⟨fun l w' => match l with | [.int _ n] => 0 ≤ n ∧ n ≤ len ∧ Chg (fun k => N ≤ k ∧ k < M) w w' ∧ ∃ ys, Ow N M w' base len cap 1 (ints ys) | _ => False,
    fun l _ => match l with | [.int _ n] => (len - n).toNat | _ => 0, ⟨Int.le_refl _, by omega, Chg.refl _ _, xs, ho⟩, fun n w' hI => ?_⟩
  obtain ⟨h0, h1, hc, ys, ho'⟩ := hI
  refine brB_i (fun hlt => ?_) (fun hge => hK w' hc)
  have hlt : n < len := by simpa using hlt
  have hly := ho'.len
  rw [ints_length] at hly
  refine ho'.sl.get h0 (by rw [ints_length]; omega) (ints_get (by omega)) fun a1 hc1 => ⟨_, hc1, ?_⟩
  obtain ⟨b, rfl, hb1, hb2⟩ := ho'.base (by omega)
  refine idx_i h0 hlt rfl ?_
  rw [loc_add, Nat.zero_add, Nat.mul_one]
  obtain ⟨q1, q2, q3⟩ := ho'.write (i := n.toNat) (by omega)
  obtain ⟨q3, q4⟩ := q3 (i64 (IntKind.i64.wrap (ys.getD n.toNat 0 + 1)))
  refine ⟨q1, q2, fun hm => ?_, ?_, ?_⟩
  · have := hb b hm; omega
  · rw [w64 (x := n + 1) (by omega) (by omega)]
    refine ⟨by omega, by omega, hc.trans q4 (fun i hi _ => by have hi : i = b := hi; omega), ys.set n.toNat (IntKind.i64.wrap (ys.getD n.toNat 0 + 1)), ?_⟩
    have e : (ints ys).set n.toNat (i64 (IntKind.i64.wrap (ys.getD n.toNat 0 + 1))) = ints (ys.set n.toNat (IntKind.i64.wrap (ys.getD n.toNat 0 + 1))) := by simp [ints, List.map_set]
    rw [← e]; exact q3
  · rw [w64 (x := n + 1) (by omega) (by omega)]
    show (len - (n + 1)).toNat < (len - n).toNat
    omega
theorem rows_walk {w : World} {base : Option Addr} {len cap : Nat} {W H stop : Int} {xs : List Int} {R : Ending → World → Prop}
    (hc : CellsOk w W H base len cap xs) (_ : (Lit.int .i64 stop).wf = true) (hR : ∀ w', Ext w w' → R (.returned (.bool true)) w') :
    Calls P F.law07_GridRows #[.agg #[i64 W, i64 H, .slice base len cap], i64 stop] w R := by
  have h := hc.sl
  have hl := hc.long
  refine calls_law07_GridRows _ _ _ _ _ _ _ _ ?_
  unfold vc_law07_GridRows
  intro k1 hk1 k2 hk2 k3 hk3 w1 hL1
  have hE1 : Ext w w1 := hL1.ext (by simp <;> omega)
  have ht1 := hL1.there k1 (by simp)
  have ht2 := hL1.there k2 (by simp)
  have ht3 := hL1.there k3 (by simp)
  refine wakes_spec fun w2 hE2 => ⟨_, rfl, hE2.keep _, brB_f rfl ?_⟩
  have hE12 := hE1.trans hE2
  have hs1 := hE1.size
  have hs2 := hE2.size
  refine both_spec (h.ext hE12) hl hc.bytes (fun w4 hE4 => ⟨_, _, _, _, _, _, _, _, rfl, hE4.keep _, fun k6 hk6 => brB_t rfl fun w5 hL5 => hR w5 ?_⟩)
    (fun gb cb w4 hE4 hb1 hb2 hg => ⟨_, _, _, _, _, _, _, _, rfl, hE4.keep _, fun k6 hk6 => brB_f rfl fun k7 hk7 w6 hL6 => ?_⟩)
  · have hs4 := hE4.size
    exact (hE12.trans hE4).step hL5.chg (by simp <;> omega)
  have hs4 := hE4.size
  have hE6 : Ext w w6 := (hE12.trans hE4).step hL6.chg (by simp <;> omega)
  have hs6 := hL6.size
  have ht6 := hL6.there k6 (by simp)
  have ht7 := hL6.there k7 (by simp)
  have hlt := hg.lt
  have hd := hg.dims
  have hlen := hg.len
  rw [ints_length] at hd hlen
  have hg6 := hg.chg hL6.chg (by simp <;> omega) (by simp <;> omega)
  refine Rows_spec fun kb w7 hE7 hkb hcs7 => ⟨_, _, _, rfl, hE7.keep _, fun k8 w8 hrf J Z stJ stZ hJ0 rule => ?_⟩
  have hs7 := hE7.size
  have hk8 := hrf.eq
  have hs8 := hrf.size
  have hE8 := hrf.ext
  refine callF_i (by kernel_rfl) ?_
  have hkb7 := hcs7.lt
  -- what stays so while rows come
  let G : World → Prop := fun u => Ext w u ∧ w8.heap.size ≤ u.heap.size ∧ u.cell? ⟨kb, 0, none⟩ = some (.pointer (some ⟨gb, 0, none⟩)) ∧ GridAt u (some ⟨gb, 0, none⟩) gb cb W H (ints xs)
  have G0 : G w8 := ⟨((hE6.trans hE7).trans hE8), Nat.le_refl _, (hcs7.ext hE8).cell (i := 0) rfl, (hg6.ext hE7).ext hE8⟩
  have Gs : ∀ {u u' : World} {S : Nat → Prop}, G u → Chg S u u' → (∀ i, S i → i = k1 ∨ i = k2 ∨ i = k3 ∨ i = k6 ∨ i = k7 ∨ i = k8 ∨ i = w7.heap.size ∨ w8.heap.size ≤ i) → G u' := by
    intro u u' S hG hC hS
    obtain ⟨g1, g2, g3, g4⟩ := hG
    have := g1.size
    have := hE6.size
    refine ⟨g1.step hC (fun i hi => by have := hS i hi; omega), Nat.le_trans g2 hC.size, ?_, g4.chg hC (fun hi => by have := hS _ hi; omega) (fun hi => by have := hS _ hi; omega)⟩
    have : u'.heap[kb]? = u.heap[kb]? := hC.block kb (by omega) (fun hi => by have := hS _ hi; omega)
    simpa [World.cell?, this] using g3
  -- what is done behind
  have done : ∀ {n : Int} {u : World}, G u → (n = stop ∨ n = H) → ∀ u', Put k8 u u' → Calls P F.law07_same #[Value.pointer (some ⟨gb, 0, none⟩), Value.agg #[i64 W, i64 H, Value.slice base len cap]] u' fun e6 w27 =>
      ∃ c7 : Bool, (e6 = Ending.returned (Value.bool c7)) ∧ (Keep ([w7.heap.size, k7, k6, k3, k2, k1]) u' w27) ∧
      brB (c7) (brB (n == stop) (∀ w28, (Locl ([k7, k6, k3, k2, k1]) w27 w28) → ∀ w29, (Put (w7.heap.size) w28 w29) → R (Ending.returned (Value.bool true)) w29)
          (∀ w30 : World, (Locl ([k7, k6, k3, k2, k1]) w27 w30) → ∀ w31 : World, (Put (w7.heap.size) w30 w31) → R (Ending.returned (Value.bool (n == H))) w31))
        (∀ w32 : World, (Locl ([k7, k6, k3, k2, k1]) w27 w32) → ∀ w33 : World, (Put (w7.heap.size) w32 w33) → R (Ending.returned (Value.bool false)) w33) := by
    intro n u hG hn u' hp
    have hG' := Gs hG hp.chg (by simp <;> omega)
    refine same07_spec hG'.2.2.2 (h.ext hG'.1) hl fun w27 hE27 => ⟨_, rfl, hE27.keep _, ?_⟩
    refine brB_t (by simp) ?_
    have fin : ∀ w28, Locl ([k7, k6, k3, k2, k1]) w27 w28 → ∀ w29, Put (w7.heap.size) w28 w29 → Ext w w29 := by
      intro w28 hL28 w29 hp29
      have g2 := Gs (Gs (Gs hG' (hE27.chg (S := fun _ => False)) (fun _ hi => hi.elim)) hL28.chg (by simp <;> omega)) hp29.chg (by simp <;> omega)
      exact g2.1
    refine brB_i (fun _ w28 hL28 w29 hp29 => hR _ (fin _ hL28 _ hp29)) (fun hne w28 hL28 w29 hp29 => ?_)
    have hn' : n = H := by
      have : n ≠ stop := by simpa using hne
      omega
    refine to_bool (hR _ (fin _ hL28 _ hp29)) (by simp [hn'])
  refine Rows_iter (q := some ⟨gb, 0, none⟩) (gb := gb) (cb := cb) (W := W) (H := H) (fun k ys u => xs = ys ∧ G u ∧ ∃ c : Bool, J [.bool c, i64 k] u) (xs0 := xs) (fun k ys u hu => ?_) ⟨rfl, G0, _, hJ0⟩ (fun k ys u u' p c hk hu hE ho => ?_) (fun ys u hu => ?_)
  · obtain ⟨rfl, hG, _⟩ := hu
    exact ⟨hG.2.2.1, hG.2.2.2⟩
  · obtain ⟨rfl, hG, cc, hj⟩ := hu
    have hj' := stJ _ _ _ hj (hE.keep _)
    have hG' := Gs hG (hE.chg (S := fun _ => False)) (fun _ hi => hi.elim)
    have hu8 := hG.2.1
    refine rule cc k k p W.toNat c u' _ hj' fun y5 y6 w14 hp => ?_
    have hG14 := Gs hG' hp.chg (by simp <;> omega)
    have ho14 := ho.chg hp.chg (by omega)
    obtain ⟨a1, a2, a3, a4⟩ := rowL_at hd.1 hd.2.2.1 hd.2.2.2.1 hlen (k := k) (by omega) hk
    refine brB_f (by simp <;> omega) ?_
    rw [w64 (x := (k : Int) * W) (by omega) (by omega), w64 (x := (k : Int) + 1) (by omega) (by omega), w64 (x := ((k : Int) + 1) * W) (by omega) (by omega)]
    have hcap := hc.room
    refine ⟨a1, by omega, by omega, ?_⟩
    have hrow : (rowL xs W k).length = W.toNat := rowL_length (by omega) (by omega) (by omega)
    have hp : Sl w14.heap.size w14 (slcBase base ((k : Int) * W).toNat cap 1) (ints (rowL xs W k)) := by
      refine ((h.ext hG14.1).up).part (by rw [ints_length]; omega) ?_
      simp only [rowL, ints, List.map_take, List.map_drop]
      exact List.take_prefix _ _
    rw [show (((k : Int) + 1) * W).toNat - ((k : Int) * W).toNat = W.toNat by omega]
    refine same_spec ho14.sl hp hrow.symm hrow.symm (by omega) fun w17 hE17 => ⟨_, rfl, hE17.keep _, brB_f (by simp) ?_⟩
    have ho17 := ho14.ext hE17
    have hG17 := Gs hG14 (hE17.chg (S := fun _ => False)) (fun _ hi => hi.elim)
    refine add_loop ho17 (by omega) (by simp <;> omega) fun w20 hC20 => ?_
    have hG20 := Gs hG17 hC20 (fun i hi => by omega)
    refine brB_i (fun hst w21 hL21 w22 hp22 hz => ?_) (fun hst w23 hL23 w24 hp24 hj24 => ?_)
    · have hst : (k : Int) + 1 = stop := by simpa using hst
      have hG22 := Gs (Gs hG20 hL21.chg (by simp <;> omega)) hp22.chg (by simp <;> omega)
      exact .inr ⟨rfl, _, rfl, .inr (.inr ⟨_, _, hz, done hG22 (.inl hst)⟩)⟩
    · have hG24 := Gs (Gs hG20 hL23.chg (by simp <;> omega)) hp24.chg (by simp <;> omega)
      exact .inl ⟨rfl, xs, rfl, hG24, _, by simpa using hj24⟩
  · obtain ⟨rfl, hG, cc, hj⟩ := hu
    exact ⟨_, rfl, .inl ⟨_, _, hj, done hG (.inr (by omega))⟩⟩
end Go.Proofs.Ytpdfpbioolbjjaa
