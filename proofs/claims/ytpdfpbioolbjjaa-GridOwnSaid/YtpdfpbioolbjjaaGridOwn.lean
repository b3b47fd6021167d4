/- GridOwn: its function answers true, and nothing that was there turns. -/
import Derived.Test.YtpdfpbioolbjjaaGridArgs
namespace Go.Proofs.Ytpdfpbioolbjjaa
open Go Go.Vc Go.RowKit
set_option maxRecDepth 100000
set_option linter.unusedVariables false
set_option linter.unusedSimpArgs false

/-- a loop that writes one value into each place of a slice -/
theorem fill_loop {N M : Nat} {w : World} {base : Option Addr} {len cap : Nat} {vs : List Value} {v : Value} {bs : List Nat} {K : World → Prop}
    (ho : Own N M w base len cap 1 vs) (hlen : len < 2 ^ 62) (hb : ∀ b ∈ bs, b < N ∨ M ≤ b) (hK : ∀ w' vs', Own N M w' base len cap 1 vs' → Chg (fun k => N ≤ k ∧ k < M) w w' → K w') :
    ∃ (I : List Value → World → Prop) (m : List Value → World → Nat), I [i64 0] w ∧ ∀ (n : Int) (w' : World), I [i64 n] w' → brB (decide (n < (len : Int)))
      (idx base len n 1 fun a => (∃ v1, w'.cell? a = some v1) ∧ (w'.frozen? a = false) ∧ (¬ a.block ∈ bs) ∧ I [i64 (IntKind.i64.wrap (n + 1))] (setCells w' a [v] 0) ∧ m [i64 (IntKind.i64.wrap (n + 1))] (setCells w' a [v] 0) < m [i64 n] w') (K w') := by
  refine ⟨fun l w' => match l with | [.int _ n] => 0 ≤ n ∧ n ≤ len ∧ Chg (fun k => N ≤ k ∧ k < M) w w' ∧ ∃ vs', Own N M w' base len cap 1 vs' | _ => False,
    fun l _ => match l with | [.int _ n] => (len - n).toNat | _ => 0, ⟨Int.le_refl _, by omega, Chg.refl _ _, vs, ho⟩, fun n w' hI => ?_⟩
  obtain ⟨h0, h1, hc, vs', ho'⟩ := hI
  refine brB_i (fun hlt => ?_) (fun hge => hK w' vs' ho' hc)
  have hlt : n < len := by simpa using hlt
  obtain ⟨b, rfl, hb1, hb2⟩ := ho'.base (by omega)
  refine idx_i h0 hlt rfl ?_
  rw [loc_add, Nat.zero_add, Nat.mul_one]
  obtain ⟨q1, q2, q3⟩ := ho'.write (i := n.toNat) (by omega)
  obtain ⟨q3, q4⟩ := q3 v
  refine ⟨q1, q2, fun hm => ?_, ?_, ?_⟩
  · have := hb b hm; omega
  · rw [w64 (by omega) (by omega)]
    exact ⟨by omega, by omega, hc.trans q4 (fun i hi _ => by have hi : i = b := hi; omega), _, q3⟩
  · rw [w64 (by omega) (by omega)]
    show (len - (n + 1)).toNat < (len - n).toNat
    omega
theorem cropL_take {xs : List Int} {W : Int} (hW : 0 ≤ W) : ∀ h : Nat, cropL xs W 0 0 W h = xs.take (h * W.toNat)
  | 0 => by simp [cropL]
  | h + 1 => by
    rw [cropL_succ, cropL_take hW h, Nat.add_mul, Nat.one_mul, List.take_add, row]
    congr 3
    have : ((h : Int) * W).toNat = h * W.toNat := by
      obtain ⟨n, rfl⟩ := Int.eq_ofNat_of_zero_le hW
      rw [← Int.natCast_mul]; exact Int.toNat_natCast _
    simpa using this
theorem cropL_all {xs : List Int} {W H : Int} (hW : 1 ≤ W) (hH : 1 ≤ H) (hn : W * H = xs.length) : cropL xs W 0 0 W H.toNat = xs := by
  rw [cropL_take (by omega), List.take_of_length_le]
  have : ((H.toNat * W.toNat : Nat) : Int) = W * H := by rw [Int.natCast_mul, Int.mul_comm]; congr 1 <;> omega
  omega
theorem own_walk {N : Nat} {w : World} {base : Option Addr} {len cap : Nat} {W H : Int} {xs : List Int} {R : Ending → World → Prop}
    (h : Sl N w base (ints xs)) (hl : len = xs.length) (hsz : len * 8 ≤ 2 ^ 47) (hR : ∀ w', Ext w w' → R (.returned (.bool true)) w') :
    Calls P F.law07_GridOwn #[.agg #[i64 W, i64 H, .slice base len cap]] w R := by
  refine calls_law07_GridOwn _ _ _ _ _ _ _ ?_
  unfold vc_law07_GridOwn
  intro k1 hk1 w1 hL1
  have hE1 : Ext w w1 := hL1.ext (by simpa using hk1)
  have ht1 := hL1.there k1 (by simp)
  refine wakes_spec fun w2 hE2 => ⟨_, rfl, hE2.keep _, brB_f rfl ?_⟩
  have hE12 := hE1.trans hE2
  have hs1 := hE1.size
  have hs2 := hE2.size
  refine own_spec (h.ext hE12) hl hsz fun p k w3 hE3 ho => ⟨_, _, _, rfl, hE3.keep _, ?_⟩
  have hs3 := hE3.size
  have hE13 := hE12.trans hE3
  refine Of_spec ho.sl hl hsz (fun hg => ⟨_, _, rfl, (Ext.refl _).keep _, ?_⟩) (fun hg hne => ⟨_, _, rfl, (Ext.refl _).keep _, ?_⟩) (fun hg heq gb cb w4 hE4 hb1 hb2 hgr => ⟨_, _, rfl, hE4.keep _, ?_⟩)
  · exact fill_loop ho (by omega) (by simp; omega) fun w5 _ _ hc => brB_t rfl (hR w5 (hE13.step hc fun i hi => by omega))
  · exact fill_loop ho (by omega) (by simp; omega) fun w5 _ _ hc => brB_t rfl (hR w5 (hE13.step hc fun i hi => by omega))
  · have hs4 := hE4.size
    refine fill_loop (ho.ext hE4) (by omega) (by simp; omega) fun w5 vs5 ho5 hc5 => brB_f rfl fun k4 hk4 w6 hL6 => ?_
    have hE5 : Ext w w5 := (hE13.trans hE4).step hc5 fun i hi => by omega
    have hg5 := hgr.chg hc5 (by omega) (by omega)
    have hl5 := hg5.lt
    have hs5 := hc5.size
    have hE6 : Ext w w6 := hE5.step hL6.chg (by simp; omega)
    have hg6 := hg5.chg hL6.chg (by simp; omega) (by simp; omega)
    have hl6 := hg6.lt
    have ht4 := hL6.there k4 (by simp)
    have hs6 := hL6.size
    refine Cells_spec hg6 fun p3 k6 w7 hE7 ho7 => ⟨_, _, _, rfl, hE7.keep _, ?_⟩
    have hs7 := hE7.size
    refine fill_loop ho7 (by omega) (by simp; omega) fun w8 vs8 ho8 hc8 => ?_
    have hE8 : Ext w6 w8 := hE7.step hc8 fun i hi => hi.1
    have hs8 : w7.heap.size ≤ w8.heap.size := hc8.size
    have hE8' : Ext w w8 := hE6.trans hE8
    have hg8 := hg6.ext hE8
    refine ⟨fun l w' => match l with | [.slice p ln cp, .int _ n] => 0 ≤ n ∧ n ≤ 20 ∧ (ln : Int) = len + n ∧ Ext w w' ∧ GridAt w' (some ⟨gb, 0, none⟩) gb cb W H (ints xs) ∧ w6.heap.size ≤ w'.heap.size ∧ ∃ vs', Own w6.heap.size w'.heap.size w' p ln cp 1 vs' | _ => False,
      fun l _ => match l with | [.slice _ _ _, .int _ n] => (20 - n).toNat | _ => 0, ⟨Int.le_refl _, by omega, by omega, hE8', hg8, hE8.size, vs8, ho8.mono (Nat.le_refl _) hs8⟩, fun p4 k7 k8 n4 w9 hI => ?_⟩
    obtain ⟨h0, h1, hln, hE9, hg9, hs9, vs9, ho9⟩ := hI
    refine brB_i (fun hlt => ?_) (fun hge => ?_)
    · have hlt : n4 < 20 := by simpa using hlt
      intro k9 hk9 w10 hL10
      have hs10 := hL10.size
      have hd9 := hg9.dims
      rw [ints_length] at hd9
      have hE10 : Ext w w10 := hE9.step hL10.chg (by have := hE9.size; simp; omega)
      have hg10 := hg9.chg hL10.chg (by simp; omega) (by simp; omega)
      have ho10 := ho9.chg hL10.chg (by simp; omega)
      refine ho10.app (by simp [blocks]; omega) (by omega) hs10 rfl rfl (by omega) (by omega) fun p5 k11 w11 ho11 hc11 => ⟨⟨?_, ?_, ?_, hE10.step hc11 (fun i hi => by omega), hg10.chg hc11 (by omega) (by omega), ?_, _, ho11⟩, ?_⟩
      · rw [w64 (by omega) (by omega)]; omega
      · rw [w64 (by omega) (by omega)]; omega
      · rw [w64 (by omega) (by omega)]; omega
      · have := hc11.size; omega
      · rw [w64 (by omega) (by omega)]
        show (20 - (n4 + 1)).toNat < (20 - n4).toNat
        omega
    · have hd := hg9.dims
      have hlen := hg9.len
      rw [ints_length] at hlen
      have hwi : within 0 0 W H W H = true := by simp [within]; omega
      refine Crop_spec hg9 (fun hw => by rw [hwi] at hw; cases hw) (fun _ g c w12 hE12 hb3 hb4 hp => ⟨_, _, rfl, hE12.keep _, brB_f rfl ?_⟩)
      rw [cropL_all hd.1 hd.2.1 hlen] at hp
      have hE12' := hE9.trans hE12
      refine same07_spec (hg9.ext hE12) (h.ext hE12') hl fun w13 hE13' => ⟨_, rfl, hE13'.keep _, brB_f (by simp) ?_⟩
      have hE13'' := hE12'.trans hE13'
      have hs12 := hE12.size
      have hs13 := hE13'.size
      have hl9 := hg9.lt
      refine Set_spec (hp.ext hE13') fun w14 hc14 hp14 => ⟨_, rfl, hc14.keep (by simp; omega), ?_⟩
      have hg14 := ((hg9.ext hE12).ext hE13').chg hc14 (by omega) (by omega)
      have hE14 : Ext w w14 := hE13''.step hc14 (fun i hi => by have := hE9.size; omega)
      refine same07_spec (hg14.ext (Ext.refl _).drew) ((h.ext hE14).drew) hl fun w15 hE15 => ⟨_, rfl, hE15.keep _, brB_t (by simp) ?_⟩
      have hE15' : Ext w w15 := hE14.drew.trans hE15
      refine Cells_spec ((hp14.ext (Ext.refl _).drew).ext hE15) fun p k w16 hE16 ho16 => ⟨_, _, _, rfl, hE16.keep _, hE16.keeps, to_bool (hR w16 (hE15'.trans hE16)) ?_⟩
      split <;> simp [hl]
theorem own_walk_ok {w : World} {base : Option Addr} {len cap : Nat} {W H : Int} {xs : List Int} {R : Ending → World → Prop} (h : CellsOk w W H base len cap xs) (hR : ∀ w', Ext w w' → R (.returned (.bool true)) w') :
    Calls P F.law07_GridOwn #[.agg #[i64 W, i64 H, .slice base len cap]] w R := own_walk h.sl h.long h.bytes hR
end Go.Proofs.Ytpdfpbioolbjjaa
