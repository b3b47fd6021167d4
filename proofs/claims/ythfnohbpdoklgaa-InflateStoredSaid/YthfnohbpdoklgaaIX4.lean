/- Inflate: a symbol is read by a decoder. -/
import Derived.Test.YthfnohbpdoklgaaIX3
namespace Go.Proofs.Ythfnohbpdoklgaa
open Go Go.Vc Go.RowKit
set_option maxRecDepth 100000
set_option linter.unusedVariables false
set_option linter.unusedSimpArgs false
set_option maxHeartbeats 2000000

theorem cntF {l : List Nat} {i : Nat} (h1 : 1 ≤ i) (h2 : i ≤ 16) : cntJ l 16 l.length i = (symsL l i).length := by
  unfold cntJ
  by_cases e : i < 16
  · rw [if_pos ⟨h1, e⟩]
  · obtain rfl : i = 16 := by omega
    rw [if_neg (by omega), if_pos ⟨rfl, by omega⟩]; rfl
theorem fsF {l : List Nat} {i : Nat} (h1 : 1 ≤ i) (h2 : i ≤ 16) : fsJ l 16 i = fsL l i := if_pos ⟨h1, h2⟩
theorem stF {l : List Nat} {i : Nat} (h2 : i + 1 ≤ 16) : stJ l 16 (i + 1) = (tabU l i).length := by
  unfold stJ; rw [if_pos (by omega)]; rfl
theorem nx_pos {l : List Nat} (h : deepL l ≠ 0) : 1 ≤ nxL l (deepL l) := by
  have h1 := deepU_met l 16 h
  obtain ⟨d, hd⟩ : ∃ d, deepL l = d + 1 := ⟨deepL l - 1, by omega⟩
  have h2 : symsL l (deepL l) ≠ [] := h1
  rw [hd] at h2 ⊢
  have : 0 < (symsL l (d + 1)).length := List.length_pos_iff.2 h2
  rw [nxL]; omega
theorem wrap_succ {X : Nat} (h : X ≤ 2 ^ 60) : IntKind.i64.wrap ((X : Int) + 1) = ((X + 1 : Nat) : Int) := by rw [w64 (by omega) (by omega)]; omega
theorem above_spec {w : World} {kd : Nat} {D : Nat → Prop} {l : List Nat} {n : Nat} {R : Ending → World → Prop} (hd : DecAt w kd D l) (h0 : deepL l ≠ 0) (hn : n ≤ 16)
    (hR : ∀ v : Nat, (∀ t : Nat, v ≤ t ↔ ¬ (n < deepL l ∧ t * 2 ^ (deepL l - n) < nxL l (deepL l))) → R (.returned (i64 (v : Nat))) w.drew) : Calls P F.prefix_Decoder_above #[.pointer (some ⟨kd, 0, none⟩), i64 (n : Nat)] w R := by
  refine calls_prefix_Decoder_above _ _ _ _ ?_
  obtain ⟨p, cap, hC, hO⟩ := hd.obj
  have hd16 : deepL l ≤ 16 := deepU_le l 16
  have hC := hC.drew
  have c52 : (rowF 53 (decG l 16 l.length p (tabU l 16).length cap))[52]? = some (i64 (deepL l : Nat)) := by rw [rowF_get (by omega), dec_e, deepJ_full]; rfl
  have cf : (rowF 53 (decG l 16 l.length p (tabU l 16).length cap))[deepL l]? = some (i64 (fsL l (deepL l) : Nat)) := by rw [rowF_get (by omega), dec_a (by omega), fsF (by omega) hd16]
  have cc : (rowF 53 (decG l 16 l.length p (tabU l 16).length cap))[34 + deepL l]? = some (i64 ((symsL l (deepL l)).length : Nat)) := by rw [rowF_get (by omega), dec_c (by omega), cntF (by omega) hd16]
  have hnx := nx_small hd.lens (n := deepL l) (by omega)
  have hnp := nx_pos h0
  have hsum : fsL l (deepL l) + (symsL l (deepL l)).length = nxL l (deepL l) := by
    obtain ⟨d, e⟩ : ∃ d, deepL l = d + 1 := ⟨deepL l - 1, by omega⟩
    rw [e]; exact (nx_fs l d).symm
  refine nn_i rfl ⟨_, hC.cell (i := 52) c52, nn_i rfl ⟨by omega, by omega, ?_⟩⟩
  simp only [loc_add, Int.toNat_natCast, Nat.mul_one, Nat.zero_add]
  refine ⟨_, hC.cell cf, nn_i rfl ⟨_, hC.cell (i := 52) c52, nn_i rfl ⟨by omega, by omega, ?_⟩⟩⟩
  simp only [loc_add, Int.toNat_natCast, Nat.mul_one, Nat.zero_add]
  refine ⟨_, hC.cell cc, nn_i rfl ⟨_, hC.cell (i := 52) c52, ?_⟩⟩
  refine brB_i (fun hge => ?_) fun hlt => ?_
  · have hge : deepL l ≤ n := by have := of_decide_eq_true hge; omega
    exact hR 0 fun t => ⟨fun _ h => by omega, fun _ => Nat.zero_le _⟩
  · have hlt : n < deepL l := by have := of_decide_eq_false hlt; omega
    refine nn_i rfl ⟨_, hC.cell (i := 52) c52, ?_⟩
    have e1 : IntKind.i64.wrap (((deepL l : Nat) : Int) - (n : Nat)) = ((deepL l - n : Nat) : Int) := by rw [w64 (by omega) (by omega)]; omega
    have e2 : IntKind.i64.wrap (IntKind.i64.wrap (((fsL l (deepL l) : Nat) : Int) + ((symsL l (deepL l)).length : Nat)) - 1) = ((nxL l (deepL l) - 1 : Nat) : Int) := by
      rw [w64 (x := ((fsL l (deepL l) : Nat) : Int) + _) (by omega) (by omega), w64 (by omega) (by omega)]; omega
    have e3 : shiftZ .shr .i64 ((nxL l (deepL l) - 1 : Nat) : Int) ((deepL l - n : Nat) : Int) = (((nxL l (deepL l) - 1) / 2 ^ (deepL l - n) : Nat) : Int) := by
      rw [shiftZ_shr (by omega) (by omega) (by show ((deepL l - n : Nat) : Int) ≤ 64; omega), Int.toNat_natCast]
      push_cast; rfl
    have hdv : (nxL l (deepL l) - 1) / 2 ^ (deepL l - n) ≤ nxL l (deepL l) - 1 := Nat.div_le_self _ _
    rw [e1, e2, e3, wrap_succ (Nat.le_trans hdv (by omega))]
    refine ⟨by omega, ?_⟩
    have hp : 0 < 2 ^ (deepL l - n) := Nat.pow_pos (by omega)
    refine hR ((nxL l (deepL l) - 1) / 2 ^ (deepL l - n) + 1) fun t => ?_
    have h1 := Nat.div_lt_iff_lt_mul hp (x := nxL l (deepL l) - 1) (y := t)
    constructor
    · intro h h2
      have := h1.1 (by omega)
      omega
    · intro h
      have : ¬ t * 2 ^ (deepL l - n) < nxL l (deepL l) := fun g => h ⟨hlt, g⟩
      have := h1.2 (by omega)
      omega
theorem or_bit {v b : Nat} (hv : v < 2 ^ 40) (hb : b < 2) : IntKind.i64.wrap (bitsZ .or .i64 (shiftZ .shl .i64 ((v : Nat) : Int) 1) (IntKind.i64.wrap ((b : Nat) : Int))) = ((2 * v + b : Nat) : Int) := by
  rw [shl_2 (by omega) (by omega), w64 (x := ((b : Nat) : Int)) (by omega) (by omega)]
  have := bitsZ_orAdd (k := .i64) (i := 1) (a := ((v : Nat) : Int)) (b := ((b : Nat) : Int)) (by omega) (by show (2 : Int) ^ 1 * v + b < 2 ^ 64; omega) (by omega) (by omega)
  rw [show (2 : Int) * ((v : Nat) : Int) = 2 ^ 1 * ((v : Nat) : Int) by omega, this, w64 (by omega) (by omega)]
  omega
theorem tk1 {bs : List Int} {k : Nat} (h : k + 1 ≤ 8 * bs.length) : tkM bs k 1 = .ok ((takeV bs false k 1).toNat, k + 1) ∧ (takeV bs false k 1).toNat < 2 ∧ ((takeV bs false k 1).toNat : Int) = takeV bs false k 1 := by
  have := takeV_range bs false k 1
  exact ⟨if_pos h, by omega, by omega⟩
theorem Next_spec {w : World} {kd rb : Nat} {D S : Nat → Prop} {l : List Nat} {bs : List Int} {q : Option Addr} {k : Nat} {R : Ending → World → Prop} (hd : DecAt w kd D l) (hr : RdAt w q rb S bs k false) (hD : ∀ b, D b → b ≠ rb)
    (hok : ∀ s k' w', nextM bs l k = .ok (s, k') → Chg (· = rb) w w' → RdAt w' q rb S bs (k' : Nat) false → R (.returned (.tuple #[i64 (s : Nat), i64 0])) w')
    (herr : ∀ e w', nextM bs l k = .error e → Chg (· = rb) w w' → R (.returned (.tuple #[i64 0, i64 e])) w') : Calls P F.prefix_Decoder_Next #[.pointer (some ⟨kd, 0, none⟩), .pointer q] w R := by
  refine calls_prefix_Decoder_Next _ _ _ _ ?_
  have hptr := hr.ptr
  have hd16 : deepL l ≤ 16 := deepU_le l 16
  refine brB_f (by rw [hptr]; rfl) ?_
  have hroom := hr.room
  refine ⟨fun vs u => nextM bs l k = .error 32 ∧ Chg (· = rb) w u, ?_, fun w4 hI => herr 32 w4 hI.1 hI.2⟩
  refine ⟨fun vs u => ∃ n v K, vs = [i64 (v : Nat), i64 (n + 1 : Nat)] ∧ n ≤ 16 ∧ v < 2 ^ n ∧ nxL l n ≤ v ∧ nextM bs l k = nextGo bs l (deepL l) (nxL l (deepL l)) (deepL l - n) n v (nxL l n) K ∧ Chg (· = rb) w u ∧ RdAt u q rb S bs (K : Nat) false,
    fun vs _ => match vs with | [_, .int _ n] => (17 - n).toNat | _ => 0, ⟨0, 0, k, rfl, by omega, by omega, Nat.zero_le _, rfl, Chg.refl _ _, hr⟩, fun n1 n2 w1 hI => ?_⟩
  obtain ⟨n, v, K, hv, hn, hv2, hnv, hM, hc1, hr1⟩ := hI
  simp only [List.cons.injEq, Value.int.injEq, true_and, and_true] at hv
  obtain ⟨rfl, rfl⟩ := hv
  have hd1 := hd.chg hc1 fun b hb _ e => hD b hb e
  obtain ⟨p, cap, hC, hO⟩ := hd1.obj
  have c52 : (rowF 53 (decG l 16 l.length p (tabU l 16).length cap))[52]? = some (i64 (deepL l : Nat)) := by rw [rowF_get (by omega), dec_e, deepJ_full]; rfl
  refine nn_i rfl ⟨_, hC.cell (i := 52) c52, brB_i (fun hle => ?_) fun hgt => ?_⟩
  rotate_left
  · have hgt : deepL l ≤ n := by have := of_decide_eq_false hgt; omega
    rw [show deepL l - n = 0 by omega] at hM
    exact ⟨hM, hc1⟩
  have hle : n < deepL l := by have := of_decide_eq_true hle; omega
  have h0 : deepL l ≠ 0 := by omega
  obtain ⟨f, hf⟩ : ∃ f, deepL l - n = f + 1 := ⟨deepL l - n - 1, by omega⟩
  rw [hf, nextGo] at hM
  have hpow : 2 ^ n ≤ 2 ^ 16 := Nat.pow_le_pow_right (by omega) hn
  refine Take_spec hr1 (fun h => by omega) (fun _ _ hgt => ?_) fun _ _ hle2 w2 hc2 hr2 => ?_
  · have : tkM bs K 1 = .error 5 := if_neg (by omega)
    rw [this] at hM
    exact ⟨_, _, rfl, brB_t rfl (herr 5 _ hM hc1.drew)⟩
  obtain ⟨e1, e2, e3⟩ := tk1 (bs := bs) (k := K) (by omega)
  rw [e1] at hM
  simp only at hM
  rw [show ((K : Int)).toNat = K from Int.toNat_natCast K, show (1 : Int).toNat = 1 from rfl, ← e3]
  generalize (takeV bs false K 1).toNat = b at *
  have hc12 : Chg (· = rb) w w2 := hc1.trans hc2 fun _ h _ => h
  have hd2 := hd.chg hc12 fun b hb _ e => hD b hb e
  obtain ⟨p2, cap2, hC2, hO2⟩ := hd2.obj
  refine ⟨_, _, rfl, brB_f rfl (nn_i rfl ⟨by omega, by omega, ?_⟩)⟩
  simp only [loc_add, Int.toNat_natCast, Nat.mul_one, Nat.zero_add]
  refine ⟨_, hC2.cell (i := n + 1) (by rw [rowF_get (by omega), dec_a (by omega), fsF (by omega) (by omega)]), nn_i rfl ⟨by omega, by omega, ?_⟩⟩
  simp only [loc_add, Int.toNat_natCast, Nat.mul_one, Nat.zero_add]
  refine ⟨_, hC2.cell (i := 34 + (n + 1)) (by rw [rowF_get (by omega), dec_c (by omega), cntF (by omega) (by omega)]), ?_⟩
  have hfs : fsL l (n + 1) = 2 * nxL l n := rfl
  have hnx := nx_small hd.lens (n := n + 1) (by omega)
  rw [nx_fs] at hnx
  rw [or_bit (by omega) e2, w64 (x := ((2 * v + b : Nat) : Int) - _) (by omega) (by omega)]
  refine brB_i (fun hin => ?_) fun hout => ?_
  · have hin : 2 * nxL l n ≤ 2 * v + b ∧ 2 * v + b < 2 * nxL l n + (symsL l (n + 1)).length := by
      simp only [Bool.and_eq_true, decide_eq_true_eq] at hin
      omega
    rw [if_pos hin] at hM
    have hlt : 2 * v + b - 2 * nxL l n < (symsL l (n + 1)).length := by omega
    have hget := tabU_get (l := l) hlt 16 (by omega)
    have hget2 : (tabU l 16)[(tabU l n).length + (2 * v + b - 2 * nxL l n)]? = some ((symsL l (n + 1)).getD (2 * v + b - 2 * nxL l n) 0) := by
      rw [hget, List.getD_eq_getElem?_getD, List.getElem?_eq_getElem hlt]; rfl
    have htl := tabU_len l n
    have htl2 : n * l.length ≤ 16 * 4096 := Nat.mul_le_mul (by omega) hd.lens.few
    refine nn_i rfl ⟨_, _, _, hC2.drew.cell (i := 51) (rowF_get (by omega)), nn_i rfl ⟨by omega, by omega, ?_⟩⟩
    simp only [loc_add, Int.toNat_natCast, Nat.mul_one, Nat.zero_add]
    refine ⟨_, hC2.drew.cell (i := 17 + (n + 1)) (by rw [rowF_get (by omega), dec_b (by omega), stF (by omega)]), ?_⟩
    rw [w64 (x := (((tabU l n).length : Nat) : Int) + _) (by omega) (by omega)]
    refine (hO2.sl.drew).get (by omega) (ni_length _) (v := i64 ((symsL l (n + 1)).getD (2 * v + b - 2 * nxL l n) 0 : Nat)) ?_ fun a ha => ⟨_, ha, hok _ _ _ hM hc12.drew (hr2.ext (Ext.refl w2).drew)⟩
    rw [show ((((tabU l n).length : Nat) : Int) + (((2 * v + b : Nat) : Int) - ((fsL l (n + 1) : Nat) : Int))).toNat = (tabU l n).length + (2 * v + b - 2 * nxL l n) by omega]
    simp only [ni, List.getElem?_map, hget2]; rfl
  · have hout : ¬ (2 * nxL l n ≤ 2 * v + b ∧ 2 * v + b < 2 * nxL l n + (symsL l (n + 1)).length) := fun g => by
      have : (decide (((2 * v + b : Nat) : Int) - ((fsL l (n + 1) : Nat) : Int) < ((symsL l (n + 1)).length : Nat)) && decide (((2 * v + b : Nat) : Int) - ((fsL l (n + 1) : Nat) : Int) ≥ 0)) = true := by
        simp only [Bool.and_eq_true, decide_eq_true_eq]; omega
      rw [this] at hout; cases hout
    rw [if_neg hout] at hM
    have hge : nxL l (n + 1) ≤ 2 * v + b := by rw [nxL]; omega
    refine above_spec hd2 h0 (n := n + 1) (by omega) fun t ht => ⟨_, rfl, brB_i (fun h1 => ?_) fun h1 => ?_⟩
    · have h1 : t ≤ 2 * v + b := by have := of_decide_eq_true h1; omega
      rw [if_neg ((ht _).1 h1)] at hM
      exact ⟨hM, hc12.drew⟩
    · have h1 : ¬ t ≤ 2 * v + b := by have := of_decide_eq_false h1; omega
      have h2 : n + 1 < deepL l ∧ (2 * v + b) * 2 ^ (deepL l - (n + 1)) < nxL l (deepL l) := Classical.byContradiction fun h2 => h1 ((ht _).2 h2)
      rw [if_pos h2] at hM
      rw [w64 (x := ((n + 1 : Nat) : Int) + 1) (by omega) (by omega)]
      refine ⟨⟨n + 1, 2 * v + b, K + 1, by simp, by omega, by rw [Nat.pow_succ]; omega, hge, ?_, hc12.drew, ?_⟩, by show ((17 : Int) - (((n + 1 : Nat) : Int) + 1)).toNat < ((17 : Int) - ((n + 1 : Nat) : Int)).toNat; omega⟩
      · rw [hM, show deepL l - (n + 1) = f by omega]; rfl
      · have := hr2.ext (Ext.refl w2).drew
        push_cast
        exact this
end Go.Proofs.Ythfnohbpdoklgaa
