/- Inflate: the document's side: bits, symbols, groups, fixed lengths, lengths that may be. -/
import Derived.Test.YthfnohbpdoklgaaIX10
namespace Go.Proofs.Ythfnohbpdoklgaa
open Go Go.Vc Go.RowKit
set_option maxRecDepth 100000
set_option linter.unusedVariables false
set_option linter.unusedSimpArgs false
set_option maxHeartbeats 2000000

abbrev stt (base : Option Addr) (len cap : Nat) (k : Int) (p : Option Addr) (n c : Nat) (most e : Int) : Value :=
  .agg #[.slice base len cap, .bool false, i64 k, .slice p n c, i64 most, i64 e]
theorem cs_at0 {w : World} {b : Nat} {vs : List Value} (h : Cs w b vs) : CellsAt w ⟨b, 0, none⟩ vs := fun j v hj => by
  rw [loc_add, Nat.zero_add]; exact h.cell hj
section
variable {N : Nat} {w : World} {base : Option Addr} {len cap k : Nat} {bs : List Int} {p : Option Addr} {n c : Nat} {most : Int} {R : Ending → World → Prop}
theorem refT_spec {m : Nat} {e0 : Int} (hs : Sl N w base (bytes bs)) (hl : len = bs.length) (hf : Bs bs) (hsz : len ≤ 2 ^ 47) (hk : k ≤ 8 * len) (hm : m ≤ 28)
    (hok : ∀ v k' w', tkM bs k m = .ok (v, k') → Ext w w' → R (.returned (.tuple #[stt base len cap (k' : Nat) p n c most e0, i64 (v : Nat)])) w')
    (herr : ∀ w', tkM bs k m = .error 5 → Ext w w' → R (.returned (.tuple #[stt base len cap (k : Nat) p n c most 5, i64 0])) w') :
    Calls P F.ref04_take #[stt base len cap (k : Nat) p n c most e0, i64 (m : Nat)] w R := by
  refine calls_ref04_take _ _ _ _ _ _ _ _ _ _ _ _ _ ?_
  intro k1 hk1 k2 hk2 w1 hL1
  have hE1 : Ext w w1 := hL1.ext (by simp; omega)
  have s1 := hE1.size
  refine refTake_spec (hs.ext hE1) hl hf hsz (by omega) (by omega) (fun h => by omega) (fun _ _ hgt w2 hE2 => ?_) fun _ _ hle w2 hE2 => ?_
  · have s2 := hE2.size
    exact ⟨_, _, _, _, _, _, _, rfl, hE2.keep _, fun k5 hk5 => brB_t rfl fun w3 hL3 => herr w3 (if_neg (by omega)) ((hE1.trans hE2).step hL3.chg (by simp; omega))⟩
  · have s2 := hE2.size
    refine ⟨_, _, _, _, _, _, _, rfl, hE2.keep _, fun k5 hk5 => brB_f rfl fun w3 hL3 => ?_⟩
    have hr := takeV_range bs false k m
    have hp : (2 : Int) ^ m ≤ 2 ^ 28 := by
      have : (2 : Nat) ^ m ≤ 2 ^ 28 := Nat.pow_le_pow_right (by omega) hm
      exact_mod_cast this
    simp only [Int.toNat_natCast]
    rw [w64 (by omega) (by omega)]
    have := hok (takeV bs false k m).toNat (k + m) w3 (if_pos (by omega)) ((hE1.trans hE2).step hL3.chg (by simp; omega))
    rw [Int.toNat_of_nonneg hr.1] at this
    exact this
theorem refN_spec {vs : List Value} {D : Nat → Prop} {l : List Nat} (hT : TblAt w vs D l) (hs : Sl N w base (bytes bs)) (hl : len = bs.length) (hf : Bs bs) (hsz : len ≤ 2 ^ 47) (hk : k ≤ 8 * len)
    (hok : ∀ v k' w', nextM bs l k = .ok (v, k') → Ext w w' → R (.returned (.tuple #[stt base len cap (k' : Nat) p n c most 0, i64 (v : Nat)])) w')
    (herr : ∀ e r w', e ≠ 0 → nextM bs l k = .error e → Ext w w' → R (.returned (.tuple #[stt base len cap r p n c most e, i64 0])) w') :
    Calls P F.ref04_next #[stt base len cap (k : Nat) p n c most 0, .agg vs.toArray] w R := by
  refine calls_ref04_next _ _ _ _ _ _ _ _ _ _ _ _ _ ?_
  intro k1 hk1 w1 hL1 k2 w2 hn2 k3 hk3 w3 hL3
  have hE1 : Ext w w1 := hL1.ext (by simp; omega)
  have s1 := hE1.size
  have e2 : k2 = w1.heap.size := hn2.1
  have s2 := hn2.size
  have t1 := hL1.there k1 (by simp)
  have hE2 := hE1.trans hn2.ext
  have hE3 : Ext w w3 := hE2.step hL3.chg (by simp; omega)
  have s2' := hn2.ext.size
  have hC2 : Cs w2 k2 vs := hn2.cs
  have hC3 := hC2.locl hL3 (by simp; omega)
  refine ⟨vs, hT.length, cs_at0 hC3, ?_⟩
  refine refNext_spec (hT.chg (Z := fun _ => False) hE3.chg fun _ _ _ h => h) (hs.ext hE3) hl hf hsz hk (fun v k' w4 hM hE4 => ?_) fun e r w4 hM hE4 => ?_
  · exact ⟨_, _, _, _, _, _, _, rfl, hE4.keep _, fun k6 hk6 => brB_f rfl fun w6 hL6 => hok v k' w6 hM ((hE3.trans hE4).step hL6.chg (by have := hE4.size; have := hE3.size; simp; omega))⟩
  · have he : e ≠ 0 := fun h => by subst h; exact absurd hM (next_spec.next_ne bs l)
    exact ⟨_, _, _, _, _, _, _, rfl, hE4.keep _, fun k6 hk6 => brB_t (by simpa using he) fun w5 hL5 => herr e r w5 he hM ((hE3.trans hE4).step hL5.chg (by have := hE4.size; have := hE3.size; simp; omega))⟩
end
def baseU (size from_ : Nat) : Nat → Nat
  | 0 => from_
  | i + 1 => baseU size from_ i + if 2 * size ≤ i then 2 ^ (i / size - 1) else 1
theorem base_len : ∀ k, k < 30 → (baseU 4 3 k ≤ 2 ^ 20 ∧ (¬ k < 8 → baseU 4 3 k = (grpM k 4 3).1)) := by decide +kernel
theorem base_dist : ∀ k, k < 30 → (baseU 2 1 k ≤ 2 ^ 20 ∧ (¬ k < 4 → baseU 2 1 k = (grpM k 2 1).1)) := by decide +kernel
theorem refBase_spec {k size from_ : Nat} {w : World} {R : Ending → World → Prop} (hk : k ≤ 29) (h : size = 4 ∧ from_ = 3 ∨ size = 2 ∧ from_ = 1) (hR : R (.returned (.tuple #[i64 ((grpM k size from_).1 : Nat), i64 ((grpM k size from_).2 : Nat)])) w) :
    Calls P F.ref04_base #[i64 (k : Nat), i64 (size : Nat), i64 (from_ : Nat)] w R := by
  have hb : ∀ i, i < 30 → baseU size from_ i ≤ 2 ^ 20 := fun i hi => by
    rcases h with ⟨rfl, rfl⟩ | ⟨rfl, rfl⟩
    · exact (base_len i hi).1
    · exact (base_dist i hi).1
  have hg : ¬ k < 2 * size → baseU size from_ k = (grpM k size from_).1 := fun hn => by
    rcases h with ⟨rfl, rfl⟩ | ⟨rfl, rfl⟩
    · exact (base_len k (by omega)).2 hn
    · exact (base_dist k (by omega)).2 hn
  have h12 : 2 ≤ size ∧ size ≤ 4 ∧ from_ ≤ 3 := by omega
  clear h
  refine calls_ref04_base _ _ _ _ _ ?_
  unfold vc_ref04_base
  refine brB_i (fun h => ?_) fun h => ?_
  · have h : k < 2 * size := by have := of_decide_eq_true h; rw [w64 (by omega) (by omega)] at this; omega
    unfold grpM at hR
    rw [if_pos h] at hR
    rw [w64 (by omega) (by omega)]
    have e : ((from_ : Nat) : Int) + (k : Nat) = ((from_ + k : Nat) : Int) := by omega
    rw [e]
    exact hR
  have h : ¬ k < 2 * size := by have := of_decide_eq_false h; rw [w64 (by omega) (by omega)] at this; omega
  refine ⟨by omega, fun vs u => u = w ∧ ∃ i : Nat, i ≤ k ∧ vs = [i64 (baseU size from_ i : Nat), i64 (i : Nat)], fun vs _ => match vs with | [_, .int _ i] => (k - i).toNat | _ => 0, ⟨rfl, 0, by omega, rfl⟩, fun n1 n2 w1 hI => ?_⟩
  obtain ⟨rfl, i, hi, hv⟩ := hI
  simp only [List.cons.injEq, Value.int.injEq, true_and, and_true] at hv
  obtain ⟨rfl, rfl⟩ := hv
  refine brB_i (fun hlt => ?_) fun hge => ?_
  · have hlt : i < k := by have := of_decide_eq_true hlt; omega
    have b1 := hb i (by omega)
    have b2 := hb (i + 1) (by omega)
    refine ⟨fun vs u => u = w1 ∧ vs = [i64 (baseU size from_ (i + 1) : Nat)], ?_, fun n3 w2 hI => ?_⟩
    · refine brB_i (fun h1 => ?_) fun h1 => ?_
      · have h1 : 2 * size ≤ i := by have := of_decide_eq_true h1; rw [w64 (by omega) (by omega)] at this; omega
        have hd : 2 ≤ i / size := (Nat.le_div_iff_mul_le (by omega)).2 (by omega)
        have hd2 : i / size ≤ i := Nat.div_le_self _ _
        rw [baseU, if_pos h1] at b2 ⊢
        rw [quoN (by omega) (by omega)]
        have hp : 2 ^ (i / size - 1) ≤ 2 ^ 28 := Nat.pow_le_pow_right (by omega) (by omega)
        generalize i / size = a at *
        have ea := u64n (a := a) (b := 1) (by omega) (by omega)
        rw [show ((1 : Nat) : Int) = 1 by rfl] at ea
        have es := shlN (v := 1) (m := a - 1) (by omega) (by omega)
        rw [show ((1 : Nat) : Int) = 1 by rfl] at es
        rw [ea, es, Nat.one_mul]
        generalize 2 ^ (a - 1) = x at *
        rw [w64 (by omega) (by omega)]
        refine ⟨by omega, by omega, rfl, ?_⟩
        rw [show ((baseU size from_ i : Nat) : Int) + (x : Nat) = ((baseU size from_ i + x : Nat) : Int) by omega]
      · have h1 : ¬ 2 * size ≤ i := by have := of_decide_eq_false h1; rw [w64 (by omega) (by omega)] at this; omega
        rw [baseU, if_neg h1] at b2 ⊢
        rw [w64 (by omega) (by omega)]
        exact ⟨by omega, rfl, rfl⟩
    · obtain ⟨rfl, hv⟩ := hI
      simp only [List.cons.injEq, Value.int.injEq, true_and, and_true] at hv
      subst hv
      rw [wrap_succ (by omega)]
      exact ⟨⟨rfl, i + 1, hlt, rfl⟩, by show ((k : Int) - ((i + 1 : Nat) : Int)).toNat < ((k : Int) - (i : Nat)).toNat; omega⟩
  · have : i = k := by have := of_decide_eq_false hge; omega
    subst this
    have hd : 2 ≤ i / size := (Nat.le_div_iff_mul_le (by omega)).2 (by omega)
    have hd2 : i / size ≤ i := Nat.div_le_self _ _
    have e2 : (grpM i size from_).2 = i / size - 1 := by unfold grpM; rw [if_neg h]
    rw [← hg h, e2] at hR
    rw [quoN (by omega) (by omega)]
    generalize i / size = a at *
    rw [w64 (by omega) (by omega)]
    rw [show ((a : Nat) : Int) - 1 = ((a - 1 : Nat) : Int) by omega]
    exact hR
theorem refMay_spec {N : Nat} {w : World} {p : Option Addr} {len cap : Nat} {l : List Nat} {b : Bool} {R : Ending → World → Prop} (h : Sl N w p (ni l)) (hl : l.length = len) (hk : Lens l)
    (hR : R (.returned (.bool (mayM l b))) w) : Calls P F.ref04_may #[.slice p len cap, .bool b] w R := by
  subst hl
  have hfew := hk.few
  refine calls_ref04_may _ _ _ _ _ _ ?_
  refine ⟨fun vs u => u = w ∧ ∃ i : Nat, i ≤ l.length ∧ vs = [i64 (nzU l i : Nat), i64 (onU l i : Nat), i64 (i : Nat)], fun vs _ => match vs with | [_, _, .int _ i] => (l.length - i).toNat | _ => 0, ⟨rfl, 0, by omega, rfl⟩, fun n1 n2 n3 w1 hI => ?_⟩
  obtain ⟨rfl, i, hi, hv⟩ := hI
  simp only [List.cons.injEq, Value.int.injEq, true_and, and_true] at hv
  obtain ⟨rfl, rfl, rfl⟩ := hv
  have hnz := nz_le l i
  have hon := on_nz l i
  refine brB_i (fun hlt => ?_) fun hge => ?_
  · have hlt : i < l.length := by have := of_decide_eq_true hlt; omega
    refine ⟨fun vs u => u = w1 ∧ vs = [i64 (nzU l (i + 1) : Nat), i64 (onU l (i + 1) : Nat)], ?_, fun n7 n8 w2 hI => ?_⟩
    · refine h.get (by omega) (ni_length l) (by rw [Int.toNat_natCast]; exact ni_get hlt) fun a ha => ⟨_, ha, ?_⟩
      refine brB_i (fun h0 => ?_) fun h0 => ?_
      · have h0 : l.getD i 0 ≠ 0 := by have := of_decide_eq_true h0; omega
        refine h.get (by omega) (ni_length l) (by rw [Int.toNat_natCast]; exact ni_get hlt) fun a ha => ⟨_, ha, ?_⟩
        rw [nzU, if_neg h0, onU]
        refine brB_i (fun h1 => ?_) fun h1 => ?_
        · have h1 : l.getD i 0 = 1 := by have := eq_of_beq h1; omega
          rw [if_pos h1, wrap_succ (by omega), wrap_succ (by omega)]
          exact ⟨rfl, rfl⟩
        · have h1 : ¬ l.getD i 0 = 1 := fun e => by rw [e] at h1; cases h1
          rw [if_neg h1, wrap_succ (by omega)]
          exact ⟨rfl, rfl⟩
      · have h0 : l.getD i 0 = 0 := by have := of_decide_eq_false h0; omega
        refine h.get (by omega) (ni_length l) (by rw [Int.toNat_natCast]; exact ni_get hlt) fun a ha => ⟨_, ha, ?_⟩
        rw [nzU, if_pos h0, onU, if_neg (by omega)]
        exact brB_f (by rw [h0]; rfl) ⟨rfl, rfl⟩
    · obtain ⟨rfl, hv⟩ := hI
      simp only [List.cons.injEq, Value.int.injEq, true_and, and_true] at hv
      obtain ⟨rfl, rfl⟩ := hv
      rw [wrap_succ (by omega)]
      exact ⟨⟨rfl, i + 1, hlt, rfl⟩, by show ((l.length : Int) - ((i + 1 : Nat) : Int)).toNat < ((l.length : Int) - (i : Nat)).toNat; omega⟩
  have : i = l.length := by have := of_decide_eq_false hge; omega
  subst this
  refine refRoom_spec h rfl hk ⟨_, _, rfl, ?_⟩
  have hmay : mayM l b = (decide (roomL l = 0) || (nzL l == 1 && onL l == 1) || (b && nzL l == 0)) := rfl
  have hnzL : nzU l l.length = nzL l := rfl
  have honL : onU l l.length = onL l := rfl
  rw [hnzL, honL]
  have c1 : (((nzL l : Nat) : Int) == 1) = (nzL l == 1) := by rw [Bool.eq_iff_iff]; simp only [beq_iff_eq]; omega
  have c2 : (((onL l : Nat) : Int) == 1) = (onL l == 1) := by rw [Bool.eq_iff_iff]; simp only [beq_iff_eq]; omega
  have c3 : (((nzL l : Nat) : Int) == 0) = (nzL l == 0) := by rw [Bool.eq_iff_iff]; simp only [beq_iff_eq]; omega
  have c4 : (roomL l == 0) = decide (roomL l = 0) := by rw [Bool.eq_iff_iff]; simp
  rw [c1, c2, c3, c4]
  refine brB_i (fun h1 => by rw [hmay, h1] at hR; exact hR) fun h1 => ?_
  rw [h1, Bool.false_or] at hmay
  refine brB_i (fun h2 => ?_) fun h2 => ?_
  · refine brB_i (fun h3 => by rw [hmay, h2, h3] at hR; exact hR) fun h3 => ?_
    rw [h2, h3, Bool.and_false, Bool.false_or] at hmay
    refine brB_i (fun hb => ?_) fun hb => ?_
    · rw [hmay, hb, Bool.true_and] at hR; exact hR
    · rw [hmay, hb, Bool.false_and] at hR; exact hR
  · rw [h2, Bool.false_and, Bool.false_or] at hmay
    refine brB_i (fun hb => ?_) fun hb => ?_
    · rw [hmay, hb, Bool.true_and] at hR; exact hR
    · rw [hmay, hb, Bool.false_and] at hR; exact hR
theorem fixL_range : (List.range 288).map fixV = fixL := by decide +kernel
theorem refFixed_spec {w : World} {R : Ending → World → Prop}
    (hR : ∀ p c q d w', Ext w w' → OwnS (fun i => w.heap.size ≤ i) w' p 288 c 1 (ni fixL) → OwnS (fun i => w.heap.size ≤ i) w' q 30 d 1 (ni fixD) → R (.returned (.tuple #[.slice p 288 c, .slice q 30 d])) w') :
    Calls P F.ref04_Fixed #[] w R := by
  refine calls_ref04_Fixed _ _ ?_
  refine ⟨fun vs u => ∃ (n : Nat) (p : Option Addr) (c : Nat), vs = [.slice p n c, i64 (n : Nat)] ∧ n ≤ 288 ∧ Ext w u ∧ OwnS (fun i => w.heap.size ≤ i) u p n c 1 (ni ((List.range n).map fixV)), fun vs _ => match vs with | [_, .int _ i] => (288 - i).toNat | _ => 0, ⟨0, none, 0, rfl, by omega, Ext.refl w, OwnS.nil _ _ _ _⟩, fun p1 k1 k2 n1 w1 hI => ?_⟩
  obtain ⟨n, p, c, hv, hn, hE1, hO1⟩ := hI
  simp only [List.cons.injEq, Value.slice.injEq, Value.int.injEq, true_and, and_true] at hv
  obtain ⟨⟨rfl, rfl, rfl⟩, rfl⟩ := hv
  have s1 := hE1.size
  refine brB_i (fun hlt => ?_) fun hge => ?_
  · have hlt : k1 < 288 := by have := of_decide_eq_true hlt; omega
    refine ⟨fun vs u => ∃ p c, vs = [.slice p (k1 + 1) c] ∧ Ext w u ∧ OwnS (fun i => w.heap.size ≤ i) u p (k1 + 1) c 1 (ni ((List.range (k1 + 1)).map fixV)), ?_, fun p4 k9 k10 w7 hI => ?_⟩
    rotate_left
    · obtain ⟨p', c', hv, hE, hO⟩ := hI
      simp only [List.cons.injEq, Value.slice.injEq, and_true] at hv
      obtain ⟨rfl, rfl, rfl⟩ := hv
      rw [wrap_succ (by omega)]
      exact ⟨⟨k1 + 1, _, _, rfl, hlt, hE, hO⟩, by show ((288 : Int) - ((k1 + 1 : Nat) : Int)).toNat < ((288 : Int) - (k1 : Nat)).toNat; omega⟩
    have key : ∀ (v : Nat) (ka : Nat) (w5 : World) (L : List (Nat × Nat × List Value)), fixV k1 = v → w1.heap.size ≤ ka → Locl [ka] w1 w5 → (∀ b, b ∈ blocks L → b ∈ [ka]) →
        appVC w5 L p1 k1 k2 1 1 8 3 [i64 0] [i64 (v : Nat)] fun p3 k7 k8 w6 => ∃ p c, [Value.slice p3 k7 k8] = [.slice p (k1 + 1) c] ∧ Ext w w6 ∧ OwnS (fun i => w.heap.size ≤ i) w6 p (k1 + 1) c 1 (ni ((List.range (k1 + 1)).map fixV)) := fun v ka w5 L hv hka hL hbl => by
      refine OwnS.grow hO1 hL (fun b hb => .inl (by simp at hb; omega)) (fun i hi => by omega) hbl rfl rfl (by omega) (by omega) fun p' c' w6 hO6 hc6 => ⟨p', c', rfl, hE1.step hc6 (fun i hi => by simp at hi; omega), ?_⟩
      rw [List.range_succ, List.map_append, ni_append]
      have := OwnS.mono hO6 (T := fun i => w.heap.size ≤ i) fun i hi _ => hi.1
      rw [← hv] at this
      exact this
    refine ⟨fun vs u => u = w1 ∧ vs = [i64 ((if 144 ≤ k1 ∧ k1 < 256 then 9 else 8 : Nat) : Nat)], ?_, fun n2 w2 hI => ?_⟩
    · refine brB_i (fun h => ⟨rfl, ?_⟩) fun h => ⟨rfl, ?_⟩
      · rw [if_pos (by simp only [Bool.and_eq_true, decide_eq_true_eq] at h; omega)]; rfl
      · rw [if_neg (by simp only [Bool.and_eq_false_iff, decide_eq_false_iff_not] at h; omega)]; rfl
    obtain ⟨rfl, hv⟩ := hI
    simp only [List.cons.injEq, Value.int.injEq, true_and, and_true] at hv
    subst hv
    refine brB_i (fun h => ?_) fun h => ?_
    · intro k3 hk3 w3 hL3
      simp only [Bool.and_eq_true, decide_eq_true_eq] at h
      exact key 7 k3 w3 _ (by unfold fixV; rw [if_neg (by omega), if_neg (by omega)]) hk3 hL3 (by simp [blocks])
    · intro k3 hk3 w3 hL3
      simp only [Bool.and_eq_false_iff, decide_eq_false_iff_not] at h
      refine key _ k3 w3 _ ?_ hk3 hL3 (by simp [blocks])
      unfold fixV
      by_cases h1 : k1 < 144 ∨ 279 < k1
      · rw [if_pos h1, if_neg (by omega)]
      · rw [if_neg h1, if_pos (by omega), if_pos (by omega)]
  have : k1 = 288 := by have := of_decide_eq_false hge; omega
  subst this
  rw [fixL_range] at hO1
  refine ⟨fun vs u => ∃ (n : Nat) (q : Option Addr) (d : Nat), vs = [.slice q n d, i64 (n : Nat)] ∧ n ≤ 30 ∧ Ext w1 u ∧ OwnS (fun i => w1.heap.size ≤ i) u q n d 1 (ni (List.replicate n 5)), fun vs _ => match vs with | [_, .int _ i] => (30 - i).toNat | _ => 0, ⟨0, none, 0, rfl, by omega, Ext.refl w1, OwnS.nil _ _ _ _⟩, fun p5 k11 k12 n3 w8 hI => ?_⟩
  obtain ⟨n, q, d, hv, hn, hE8, hO8⟩ := hI
  simp only [List.cons.injEq, Value.slice.injEq, Value.int.injEq, true_and, and_true] at hv
  obtain ⟨⟨rfl, rfl, rfl⟩, rfl⟩ := hv
  have s8 := hE8.size
  refine brB_i (fun hlt => ?_) fun hge => ?_
  · have hlt : k11 < 30 := by have := of_decide_eq_true hlt; omega
    intro k13 hk13 w9 hL9
    refine OwnS.grow hO8 hL9 (fun b hb => .inl (by simp at hb; omega)) (fun i hi => by omega) (by simp [blocks]) rfl rfl (by omega) (by omega) fun p' c' w6 hO6 hc6 => ?_
    rw [wrap_succ (by omega)]
    refine ⟨⟨k11 + 1, p', c', rfl, hlt, hE8.step hc6 (fun i hi => by simp at hi; omega), ?_⟩, by show ((30 : Int) - ((k11 + 1 : Nat) : Int)).toNat < ((30 : Int) - (k11 : Nat)).toNat; omega⟩
    rw [List.replicate_succ', ni_append]
    exact OwnS.mono hO6 (T := fun i => w1.heap.size ≤ i) fun i hi _ => hi.1
  have : k11 = 30 := by have := of_decide_eq_false hge; omega
  subst this
  exact hR _ _ _ _ w8 (hE1.trans hE8) (hO1.chg (T := fun _ => False) hE8.chg fun _ _ _ h => h) (OwnS.mono hO8 fun i hi _ => by omega)
end Go.Proofs.Ythfnohbpdoklgaa
