/- The walks of BitsWrites and BitsBack. -/
import Derived.Test.YtlmnooodinfifaaBitsArgs
import Derived.Test.YtlmnooodinfifaaBits10
import Derived.Test.YtlmnooodinfifaaBits11
namespace Go.Proofs.Ytlmnooodinfifaa
open Go Go.Vc Go.RowKit
set_option maxRecDepth 100000
set_option linter.unusedVariables false
set_option linter.unusedSimpArgs false

theorem ActsOk.get {W w : World} {b : Option Addr} {len : Nat} {acs : List Act'} {i : Int} {F : Addr → Prop} (h : ActsOk W b len acs) (hE : Ext W w) (h0 : 0 ≤ i) (h1 : i < len)
    (hF : ∀ (a : Act') (c : Addr), acs[i.toNat]? = some a → ActFit a → w.cell? c = some (i64 a.1) → w.cell? (c.add 1) = some (i64 a.2.1) → w.cell? (c.add 2) = some (u32 a.2.2) → F c) : idx b len i 3 F := by
  have hl := h.long
  have hlt : i.toNat < acs.length := by omega
  have ha : acs[i.toNat]? = some acs[i.toNat] := List.getElem?_eq_getElem hlt
  refine (h.sl.ext hE).elem (fun a => rfl) (by omega) h0 hl.symm ha fun c hc => hF _ c ha (h.fit _ (List.getElem_mem hlt)) ?_ (hc 1 _ rfl) (hc 2 _ rfl)
  have := hc 0 _ rfl
  simpa [Addr.add] using this
theorem writes_walk {W : World} {b : Option Addr} {len cap : Nat} {acs : List Act'} {up : Bool} {R : Ending → World → Prop} (h : ActsOk W b len acs ∧ len ≤ 2 ^ 43) (hR : ∀ w', Ext W w' → R (.returned (.bool true)) w') :
    Calls P F.law01_BitsWrites #[.bool up, .slice b len cap] W R := by
  obtain ⟨h, hsz⟩ := h
  have hl := h.long
  refine calls_law01_BitsWrites _ _ _ _ _ _ ?_
  refine wakes_spec fun w1 hE1 => ⟨_, rfl, brB_f rfl ?_⟩
  refine NewWriter_spec fun wb w2 hE2 hwb hw2 => ⟨_, rfl, fun k1 hk1 => brB_f rfl ?_⟩
  have e2 := hE1.trans hE2
  have hs1 := hE1.size
  refine ⟨fun l w' => match l with | [.int _ i, .bool u, .slice p l' c, .int _ n] => 0 ≤ i ∧ i ≤ len ∧ u = up ∧ ∃ (bs : List Int) (m : Nat), n = m ∧ l' = bs.length ∧ (m : Int) ≤ 40 * i ∧ WOk up bs m ∧ Pair2 W w' (some ⟨wb, 0, none⟩) wb p c bs m bs up [k1] | _ => False,
    fun l _ => match l with | [.int _ i, .bool u, .slice p l' c, .int _ n] => (len - i).toNat | _ => 0, fun w4 hL4 => ⟨by omega, by omega, rfl, [], 0, rfl, rfl, by omega, WOk.nil up, ?_⟩, fun i u p2 l2 c2 n2 w5 hI => ?_⟩
  · have hE4 : Ext w2 w4 := hL4.ext (by simp; omega)
    have hlt := hw2.lt
    have := hL4.there k1 (by simp)
    have := hE2.size
    exact Pair2.start (e2.trans hE4) (hw2.ext hE4) (by omega) (by simp; omega)
  obtain ⟨i0, i1, rfl, bs, m, rfl, rfl, hm, hok, hP⟩ := hI
  have hblo := hok.lo
  have hbhi := hok.hi
  refine brB_i (fun hlt => ?_) (fun hge => hR w5 hP.ext)
  have hlt : i < len := by simpa using hlt
  refine ⟨fun l w' => match l with | [.bool v, .slice p l' c, .int _ n] => v = u ∧ ∃ (bs : List Int) (m : Nat), n = m ∧ l' = bs.length ∧ (m : Int) ≤ 40 * (i + 1) ∧ WOk u bs m ∧ Pair2 W w' (some ⟨wb, 0, none⟩) wb p c bs m bs u [k1] | _ => False, ?_, fun c6 p6 l6 c7 n14 w17 hI => ?_⟩
  · refine h.get hP.ext i0 hlt fun a c ha hfit hc0 hc1 hc2 => ⟨_, hc0, brB_i (fun hk => ?_) (fun hk => ?_)⟩
    · refine hP.align (by omega) fun w6 hk6 hP6 => ⟨rfl, hk6, ?_⟩
      refine hP6.ralign hok (by omega) fun p7 c7 w7 hk7 hP7 => ⟨_, _, _, _, _, rfl, hk7, fun w8 hL8 => ?_⟩
      exact ⟨rfl, bs, 8 * bs.length, rfl, rfl, by omega, hok.align, hP7.locl hL8 (by simp)⟩
    · refine h.get hP.ext.drew i0 hlt fun a2 c2 ha2 _ _ _ hc2 => ⟨_, hc2, h.get hP.ext.drew i0 hlt fun a3 c3 ha3 hfit3 _ hc3 _ => ⟨_, hc3, ?_⟩⟩
      obtain rfl : a2 = a := Option.some.inj (ha2.symm.trans ha)
      obtain rfl : a3 = a2 := Option.some.inj (ha3.symm.trans ha2)
      have hPd : Pair2 W w5.drew _ wb _ _ bs m bs u [k1] := hP.step (Ext.refl _).drew
      refine hPd.put hok (by omega) hfit.v.1 hfit.v.2 fun w9 hk9 hP9 => ⟨_, rfl, hk9, ?_⟩
      refine h.get hP9.ext.drew i0 hlt fun a4 c4 ha4 _ _ _ hc4 => ⟨_, hc4, h.get hP9.ext.drew i0 hlt fun a5 c5 ha5 _ _ hc5 _ => ⟨_, hc5, ?_⟩⟩
      obtain rfl : a4 = a3 := Option.some.inj (ha4.symm.trans ha)
      obtain rfl : a5 = a4 := Option.some.inj (ha5.symm.trans ha4)
      have hP9d := hP9.step (Ext.refl w9).drew
      have hok' := putA_ok hok a5.2.2 a5.2.1
      have hml := putM_le m a5.2.1
      refine ⟨?_, fun k9 hk9' w13 hL13 => ?_⟩
      · refine hP9d.rput hok (by omega) hfit.v.1 hfit.v.2 fun p10 c10 w10 hk10 hP10 => ⟨_, _, _, _, _, _, rfl, hk10, fun k8 hk8 => brB_f (by simp) fun w12 hL12 => ?_⟩
        exact ⟨rfl, _, _, rfl, rfl, by omega, hok', hP10.locl hL12 (by simp; omega)⟩
      · have hP13 := hP9d.locl' (av' := [k9, k1]) hL13 (by simp; exact .inr hk9') (by simp)
        refine hP13.rput hok (by omega) hfit.v.1 hfit.v.2 fun p10 c10 w14 hk14 hP14 => ⟨_, _, _, _, _, _, rfl, hk14, brB_f (by simp) fun w16 hL16 => ?_⟩
        exact ⟨rfl, _, _, rfl, rfl, by omega, hok', hP14.locl' hL16 (by simp) (by simp)⟩
  · obtain ⟨rfl, bs2, m2, rfl, rfl, hm2, hok2, hP2⟩ := hI
    have hblo := hok2.lo
    have hbhi := hok2.hi
    have hPd := hP2.step (Ext.refl w17).drew
    refine hPd.len ⟨_, rfl, (Ext.refl _).keep _, (Ext.refl _).keeps, brB_f (by simp) ?_⟩
    refine hPd.out (by omega) fun p7 c7 w19 hE19 ho19 => ⟨_, _, _, rfl, hE19.keep _, hE19.keeps, ?_⟩
    refine same_spec ho19.sl (hPd.rsl.ext hE19) rfl rfl (by omega) fun w20 hE20 => ⟨_, rfl, hE20.keep _, brB_f (by simp) ?_⟩
    rw [w64 (x := i + 1) (by omega) (by omega)]
    refine ⟨⟨by omega, by omega, rfl, bs2, m2, rfl, rfl, hm2, hok2, hPd.step (hE19.trans hE20)⟩, ?_⟩
    show (len - (i + 1)).toNat < (len - i).toNat
    omega
/-- what k acts of Put write -/
def wrote (up : Bool) (acs : List Act') : List Int × Nat := acs.foldl (fun s a => (putA up s.1 s.2 a.2.2 a.2.1, putM s.2 a.2.1)) ([], 0)
theorem wrote_succ {up : Bool} {acs : List Act'} {i : Nat} {a : Act'} (ha : acs[i]? = some a) : wrote up (acs.take (i + 1)) = (putA up (wrote up (acs.take i)).1 (wrote up (acs.take i)).2 a.2.2 a.2.1, putM (wrote up (acs.take i)).2 a.2.1) := by
  obtain ⟨hlt, he⟩ := List.getElem?_eq_some_iff.1 ha
  rw [List.take_succ_eq_append_getElem hlt, he]
  simp [wrote, List.foldl_append]
theorem wrote_ok (up : Bool) (acs : List Act') : ∀ i, WOk up (wrote up (acs.take i)).1 (wrote up (acs.take i)).2 ∧ (wrote up (acs.take i)).2 ≤ 32 * i
  | 0 => ⟨WOk.nil up, by simp [wrote]⟩
  | i + 1 => by
    have ih := wrote_ok up acs i
    cases ha : acs[i]? with
    | none =>
      rw [List.take_of_length_le (by rw [List.getElem?_eq_none_iff] at ha; omega)]
      rw [List.take_of_length_le (by rw [List.getElem?_eq_none_iff] at ha; omega)] at ih
      exact ⟨ih.1, by omega⟩
    | some a =>
      rw [wrote_succ ha]
      have := putM_le (wrote up (acs.take i)).2 a.2.1
      exact ⟨putA_ok ih.1 _ _, by simp only; omega⟩
/-- later writes leave earlier bits -/
theorem putV_bits {up : Bool} {bs : List Int} {m : Nat} {v : Int} {n : Nat} (h : WOk up bs m) : ∀ k j, bitAt (putV up bs m v n k) up j = if m ≤ j ∧ j < m + k then bitOf up v n (j - m) else bitAt bs up j
  | 0, j => by rw [if_neg (by omega)]; rfl
  | k + 1, j => by
    rw [putV, ((putV_ok h k).add (bitOf_01 up v n k)).2.1, putV_bits h k]
    by_cases e : j = m + k
    · subst e; rw [if_pos rfl, if_pos (by omega), Nat.add_sub_cancel_left]
    · rw [if_neg e]
      by_cases h2 : m ≤ j ∧ j < m + k
      · rw [if_pos h2, if_pos (by omega)]
      · rw [if_neg h2, if_neg (by omega)]
theorem putA_bits {up : Bool} {bs : List Int} {m : Nat} {v n : Int} (h : WOk up bs m) {j : Nat} (hj : j < m) : bitAt (putA up bs m v n) up j = bitAt bs up j := by
  unfold putA
  split
  · rfl
  · rw [putV_bits h, if_neg (by omega)]
theorem putM_ge (m : Nat) (n : Int) : m ≤ putM m n := by unfold putM; split <;> omega
/-- all bits of the first i acts stay -/
theorem wrote_bits {up : Bool} {acs : List Act'} {i : Nat} : ∀ {k : Nat}, i ≤ k → (wrote up (acs.take i)).2 ≤ (wrote up (acs.take k)).2 ∧ ∀ j, j < (wrote up (acs.take i)).2 → bitAt (wrote up (acs.take k)).1 up j = bitAt (wrote up (acs.take i)).1 up j
  | 0, h => by rw [Nat.le_zero.1 h]; exact ⟨Nat.le_refl _, fun _ _ => rfl⟩
  | k + 1, h => by
    by_cases e : i = k + 1
    · subst e; exact ⟨Nat.le_refl _, fun _ _ => rfl⟩
    · obtain ⟨h1, h2⟩ := wrote_bits (up := up) (acs := acs) (i := i) (k := k) (by omega)
      cases ha : acs[k]? with
      | none =>
        have hl : acs.length ≤ k := by rwa [List.getElem?_eq_none_iff] at ha
        rw [List.take_of_length_le (i := k + 1) (by omega)]
        rw [List.take_of_length_le (l := acs) (i := k) hl] at h1 h2
        exact ⟨h1, h2⟩
      | some a =>
        rw [wrote_succ ha]
        have := putM_ge (wrote up (acs.take k)).2 a.2.1
        exact ⟨by simp only; omega, fun j hj => by rw [putA_bits (wrote_ok up acs k).1 (by omega)]; exact h2 j hj⟩
theorem imod_mul {v a b : Int} (v0 : 0 ≤ v) (a0 : 0 ≤ a) (b0 : 0 ≤ b) : v % (a * b) = v % a + a * (v / a % b) := by
  obtain ⟨v, rfl⟩ := Int.eq_ofNat_of_zero_le v0
  obtain ⟨a, rfl⟩ := Int.eq_ofNat_of_zero_le a0
  obtain ⟨b, rfl⟩ := Int.eq_ofNat_of_zero_le b0
  have := Nat.mod_mul (x := v) (a := a) (b := b)
  exact_mod_cast this
/-- the number that was written is taken -/
theorem takeV_wrote {up : Bool} {bs : List Int} {m n : Nat} {v : Int} (v0 : 0 ≤ v) (hb : ∀ j, j < n → bitAt bs up (m + j) = bitOf up v n j) : takeV bs up m n = v % 2 ^ n := by
  cases up
  · have key : ∀ k, k ≤ n → takeV bs false m k = v % 2 ^ k := by
      intro k
      induction k with
      | zero => intro _; simp [takeV] <;> omega
      | succ k ih =>
        intro hk
        rw [takeV, if_neg (by simp), ih (by omega), hb k (by omega)]
        unfold bitOf
        rw [if_neg (by simp), Int.pow_succ, imod_mul v0 (Int.le_of_lt (Int.pow_pos (by omega))) (by omega)]
        rw [Int.mul_comm]
    exact key n (Nat.le_refl _)
  · have key : ∀ k, k ≤ n → takeV bs true m k = v / 2 ^ (n - k) % 2 ^ k := by
      intro k
      induction k with
      | zero => intro _; simp [takeV] <;> omega
      | succ k ih =>
        intro hk
        rw [takeV, if_pos rfl, ih (by omega), hb k (by omega)]
        unfold bitOf
        rw [if_pos rfl, show n - 1 - k = n - (k + 1) by omega]
        generalize hu : v / 2 ^ (n - (k + 1)) = u
        have e : v / 2 ^ (n - k) = u / 2 := by
          rw [← hu, show n - k = (n - (k + 1)) + 1 by omega, Int.pow_succ, Int.ediv_ediv_of_nonneg (Int.le_of_lt (Int.pow_pos (by omega)))]
        have u0 : 0 ≤ u := hu ▸ Int.ediv_nonneg v0 (Int.le_of_lt (Int.pow_pos (by omega)))
        rw [e, Int.pow_succ, Int.mul_comm (2 ^ k) 2, imod_mul u0 (by omega) (Int.le_of_lt (Int.pow_pos (by omega)))]
        omega
    have := key n (Nat.le_refl _)
    rwa [Nat.sub_self, Int.pow_zero, Int.ediv_one] at this
/-- how many bits the first i acts have taken -/
theorem wrote_m (up : Bool) (acs : List Act') (i : Nat) {a : Act'} (ha : acs[i]? = some a) : (wrote up (acs.take (i + 1))).2 = putM (wrote up (acs.take i)).2 a.2.1 := by rw [wrote_succ ha]
theorem back_walk {W : World} {b : Option Addr} {len cap : Nat} {acs : List Act'} {up : Bool} {R : Ending → World → Prop} (h : ActsOk W b len acs ∧ len ≤ 2 ^ 43) (hR : ∀ w', Ext W w' → R (.returned (.bool true)) w') :
    Calls P F.law01_BitsBack #[.bool up, .slice b len cap] W R := by
  obtain ⟨h, hsz⟩ := h
  have hl := h.long
  refine calls_law01_BitsBack _ _ _ _ _ _ ?_
  refine wakes_spec fun w1 hE1 => ⟨_, rfl, brB_f rfl ?_⟩
  refine NewWriter_spec fun wb w2 hE2 hwb hw2 => ⟨_, rfl, brB_f rfl ?_⟩
  have e2 := hE1.trans hE2
  have hs1 := hE1.size
  refine ⟨fun l w' => match l with | [.int _ i] => 0 ≤ i ∧ i ≤ len ∧ Pair2 W w' (some ⟨wb, 0, none⟩) wb none 0 (wrote up (acs.take i.toNat)).1 (wrote up (acs.take i.toNat)).2 [] up [] | _ => False,
    fun l _ => match l with | [.int _ i] => (len - i).toNat | _ => 0, ⟨by omega, by omega, Pair2.start e2 hw2 (by omega) (by simp)⟩, fun i w3 hI => ?_⟩
  obtain ⟨i0, i1, hP⟩ := hI
  obtain ⟨hok, hmle⟩ := wrote_ok up acs i.toNat
  refine brB_i (fun hlt => ?_) (fun hge => ?_)
  · have hlt : i < len := by simpa using hlt
    refine h.get hP.ext.drew i0 hlt fun a c ha hfit _ _ hc2 => ⟨_, hc2, h.get hP.ext.drew i0 hlt fun a3 c3 ha3 _ _ hc3 _ => ⟨_, hc3, ?_⟩⟩
    obtain rfl : a3 = a := Option.some.inj (ha3.symm.trans ha)
    refine (hP.step (Ext.refl _).drew).put hok (by omega) hfit.v.1 hfit.v.2 fun w4 _ hP4 => ⟨_, rfl, ?_⟩
    rw [w64 (x := i + 1) (by omega) (by omega)]
    refine ⟨⟨by omega, by omega, ?_⟩, ?_⟩
    · rw [show (i + 1).toNat = i.toNat + 1 by omega, wrote_succ ha]; exact hP4
    · show (len - (i + 1)).toNat < (len - i).toNat
      omega
  have hge : i.toNat = acs.length := by simp at hge; omega
  rw [hge] at hP hok hmle
  have ew := List.take_length (l := acs)
  have hblo := hok.lo
  have hbhi := hok.hi
  generalize hbs : (wrote up (acs.take acs.length)).1 = bs at hP hok hblo hbhi
  generalize hms : (wrote up (acs.take acs.length)).2 = m at hP hok hmle hblo hbhi
  refine hP.out (by omega) fun p5 c5 w5 hE5 ho5 => ⟨_, _, _, rfl, ?_⟩
  refine NewReader_spec ho5.sl rfl (by omega) hok.fit fun rb w6 hE6 hrb hr6 => ⟨_, rfl, ?_⟩
  have hP6 := hP.step (hE5.trans hE6)
  have hs5 := hE5.size
  have hs6 := hE6.size
  refine ⟨fun l w' => match l with | [.int _ i] => 0 ≤ i ∧ i ≤ len ∧ Ext W w' ∧ Chg (· = rb) w6 w' ∧ RdAt w' (some ⟨rb, 0, none⟩) rb (fun i => w5.heap.size ≤ i ∧ i < rb) bs (wrote up (acs.take i.toNat)).2 up | _ => False,
    fun l _ => match l with | [.int _ i] => (len - i).toNat | _ => 0, ⟨by omega, by omega, hP6.ext, Chg.refl _ _, by simpa [wrote] using hr6⟩, fun i w7 hI => ?_⟩
  obtain ⟨j0, j1, e7, hc7, hr7⟩ := hI
  refine brB_i (fun hlt => ?_) (fun hge => ?_)
  · have hlt : i < len := by simpa using hlt
    refine ⟨fun _ w' => Ext W w' ∧ Chg (· = rb) w6 w' ∧ RdAt w' (some ⟨rb, 0, none⟩) rb (fun i => w5.heap.size ≤ i ∧ i < rb) bs (wrote up (acs.take (i.toNat + 1))).2 up, ?_, fun w9 hI => ?_⟩
    · refine h.get e7 j0 hlt fun a c ha hfit _ hc1 _ => ⟨_, hc1, brB_i (fun hb => ?_) (fun hb => ?_)⟩
      · have hb : a.2.1 < 0 ∨ a.2.1 > 32 := by simpa using hb
        refine ⟨e7, hc7, ?_⟩
        rw [wrote_m up acs _ ha, putM, if_pos hb]; exact hr7
      · have hb : 0 ≤ a.2.1 ∧ a.2.1 ≤ 32 := by simpa using hb
        obtain ⟨hb1, hb2⟩ := wrote_bits (up := up) (acs := acs) (i := i.toNat + 1) (k := acs.length) (by omega)
        obtain ⟨hoki, hmi⟩ := wrote_ok up acs i.toNat
        have hmm := wrote_m up acs _ ha
        rw [putM, if_neg (by omega)] at hmm
        rw [hms, hmm] at hb1
        refine Take_spec hr7 (fun h => by omega) (fun _ _ h => by omega) fun _ _ _ w8 hc8 hr8 => ⟨_, _, rfl, brB_f rfl ?_⟩
        have e8 : Ext W w8 := e7.step hc8 fun i hi => by have hi : i = rb := hi; have := hP.ext.size; omega
        refine h.get e8 j0 hlt fun a4 c4 ha4 _ _ _ hc4 => ⟨_, hc4, ?_⟩
        obtain rfl : a4 = a := Option.some.inj (ha4.symm.trans ha)
        have ew : IntKind.u64.wrap a4.2.1 = a4.2.1 := wu64 hb.1 (by omega)
        have hp3 : (0 : Int) < 2 ^ a4.2.1.toNat := Int.pow_pos (by omega)
        have hp4 : (2 : Int) ^ a4.2.1.toNat ≤ 2 ^ 32 := by
          have : (2 : Nat) ^ a4.2.1.toNat ≤ 2 ^ 32 := Nat.pow_le_pow_right (by omega) (by omega)
          exact_mod_cast this
        have ep : shiftZ .shl .u64 1 a4.2.1 = 2 ^ a4.2.1.toNat := by
          rw [shiftZ_shl hb.1 (by simp [IntKind.bits]; omega), Int.one_mul]
          exact wu64 (by omega) (by omega)
        have hv : takeV bs up (wrote up (acs.take i.toNat)).2 a4.2.1.toNat = a4.2.2 % 2 ^ a4.2.1.toNat := by
          refine takeV_wrote hfit.v.1 fun j hj => ?_
          rw [← hbs, hb2 _ (by rw [hmm]; omega), wrote_succ ha]
          simp only [putA]
          rw [if_neg (by omega), putV_bits hoki, if_pos (by omega), Nat.add_sub_cancel_left]
        have hmod := Int.emod_lt_of_pos a4.2.2 hp3
        have hmod0 := Int.emod_nonneg a4.2.2 (Int.ne_of_gt hp3)
        rw [ew, ep, Int.toNat_natCast, hv]
        refine ⟨hb.1, by omega, brB_f ?_ ⟨e8, ?_, ?_⟩⟩
        · have hf := hfit.v
          rw [wu64 hmod0 (by omega), wu64 hf.1 (by omega)]
          simp only [divZ]
          rw [Int.tmod_eq_emod_of_nonneg hf.1]
          simp
        · exact hc7.trans hc8 fun i hi _ => hi
        · rw [hmm]
          have : (((wrote up (acs.take i.toNat)).2 + a4.2.1.toNat : Nat) : Int) = ((wrote up (acs.take i.toNat)).2 : Int) + a4.2.1 := by omega
          rw [this]; exact hr8
    · obtain ⟨e9, hc9, hr9⟩ := hI
      rw [w64 (x := i + 1) (by omega) (by omega)]
      refine ⟨⟨by omega, by omega, e9, hc9, by rw [show (i + 1).toNat = i.toNat + 1 by omega]; exact hr9⟩, ?_⟩
      show (len - (i + 1)).toNat < (len - i).toNat
      omega
  · have hge : i.toNat = acs.length := by simp at hge; omega
    rw [hge, hms] at hr7
    refine Left_spec hr7 ⟨_, rfl, brB_t (by simp; omega) ?_⟩
    have hr7d := hr7.ext (Ext.refl w7).drew
    refine Place_spec hr7d ⟨_, rfl, ?_⟩
    obtain ⟨S, T, h1, h2, h3, h4⟩ := hP.wr
    replace h1 := h1.ext (hE5.trans hE6)
    have hwbr : wb ≠ rb := by
      have := hP.wb.2.1; omega
    have hw7 := h1.chg hc7.drew (fun e => hwbr e) fun i hi e => by
      have e : i = rb := e
      have := (h3 i hi).1
      omega
    exact Len_spec hw7 ⟨_, rfl, to_bool (hR _ e7.drew) (by simp)⟩
end Go.Proofs.Ytlmnooodinfifaa
