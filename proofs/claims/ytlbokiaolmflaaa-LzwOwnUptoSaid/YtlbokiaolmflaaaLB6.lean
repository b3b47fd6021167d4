/- Writers: Put, and the document's. -/
import Derived.Test.YtlbokiaolmflaaaLB5
namespace Go.Proofs.Ytlbokiaolmflaaa
open Go Go.Vc Go.RowKit
set_option maxRecDepth 100000
set_option linter.unusedVariables false
set_option linter.unusedSimpArgs false

/-- the bit that is written in turn i of n -/
def bitOf (up : Bool) (v : Int) (n i : Nat) : Int := (v / 2 ^ (if up then n - 1 - i else i)) % 2
/-- the bytes when k of a number's n bits are written -/
def putV (up : Bool) (bs : List Int) (m : Nat) (v : Int) (n : Nat) : Nat → List Int
  | 0 => bs
  | k + 1 => addBit up (putV up bs m v n k) (m + k) (bitOf up v n k)
theorem bitOf_01 (up : Bool) (v : Int) (n i : Nat) : bitOf up v n i = 0 ∨ bitOf up v n i = 1 := by unfold bitOf; omega
theorem putV_ok {up : Bool} {bs : List Int} {m : Nat} {v : Int} {n : Nat} (h : WOk up bs m) : ∀ k, WOk up (putV up bs m v n k) (m + k)
  | 0 => h
  | k + 1 => ((putV_ok h k).add (bitOf_01 up v n k)).1
theorem shr_bit {x i : Int} (x0 : 0 ≤ x) (x1 : x < 2 ^ 32) (i0 : 0 ≤ i) (i1 : i ≤ 31) :
    IntKind.u32.wrap (bitsZ .and .u32 (shiftZ .shr .u32 x i) 1) = x / 2 ^ i.toNat % 2 ∧ divZ .rem .u32 (shiftZ .shr .u32 x i) 2 = x / 2 ^ i.toNat % 2 := by
  have hp : (0 : Int) < 2 ^ i.toNat := Int.pow_pos (by omega)
  have h0 : 0 ≤ x / 2 ^ i.toNat := Int.ediv_nonneg x0 (Int.le_of_lt hp)
  have h1 : x / 2 ^ i.toNat ≤ x := Int.ediv_le_self _ x0
  rw [shiftZ_shr x0 i0 (by simp [IntKind.bits]; omega)]
  refine ⟨?_, ?_⟩
  · rw [bitsZ_and1 h0 (by simp [IntKind.bits]; omega)]
    exact wrap_u rfl (by omega) (by simp [IntKind.bits]; omega)
  · simp only [divZ]; rw [Int.tmod_eq_emod_of_nonneg h0]
theorem Put_spec {w : World} {q : Option Addr} {wb : Nat} {S : Nat → Prop} {bs : List Int} {m : Nat} {up : Bool} {v n : Int} {R : Ending → World → Prop} (h : WrAt w q wb S bs m up) (hok : WOk up bs m) (hm : m ≤ 2 ^ 48 + 2 ^ 47) (v0 : 0 ≤ v) (v1 : v < 2 ^ 32)
    (h1 : n < 0 ∨ n > 32 → R (.returned (i64 2)) w)
    (h2 : 0 ≤ n → n ≤ 32 → ∀ S' w', Gr S S' w w' → Chg (fun k => k = wb ∨ S k) w w' → WrAt w' q wb S' (putV up bs m v n.toNat n.toNat) (m + n.toNat) up → R (.returned (i64 0)) w') :
    Calls P F.bits_Writer_Put #[.pointer q, .int .u32 v, i64 n] w R := by
  refine calls_bits_Writer_Put _ _ _ _ _ ?_
  have hptr := h.ptr
  refine brB_f (by rw [hptr]; rfl) (brB_i (fun hb => h1 (by simpa using hb)) (fun hb => ?_))
  have hb : 0 ≤ n ∧ n ≤ 32 := by simpa using hb
  refine ⟨fun l w' => match l with | [.int _ i] => 0 ≤ i ∧ i ≤ n ∧ ∃ S', Gr S S' w w' ∧ Chg (fun k => k = wb ∨ S k) w w' ∧ WrAt w' q wb S' (putV up bs m v n.toNat i.toNat) (m + i.toNat) up | _ => False,
    fun l _ => match l with | [.int _ i] => (n - i).toNat | _ => 0, ⟨Int.le_refl _, hb.1, S, Gr.refl _ _, Chg.refl _ _, h⟩, fun i w1 hI => ?_⟩
  obtain ⟨i0, i1, S1, hg1, hc1, h1'⟩ := hI
  refine brB_i (fun hlt => ?_) (fun hge => ?_)
  · have hlt : i < n := by simpa using hlt
    obtain ⟨base, cap, h3, h4⟩ := h1'.obj
    have key : ∀ x S2 w2, Gr S1 S2 w1 w2 → Chg (fun k => k = wb ∨ S1 k) w1 w2 → x = bitOf up v n.toNat i.toNat → WrAt w2 q wb S2 (addBit up (putV up bs m v n.toNat i.toNat) (m + i.toNat) x) (m + i.toNat + 1) up →
        ∃ S', Gr S S' w w2 ∧ Chg (fun k => k = wb ∨ S k) w w2 ∧ WrAt w2 q wb S' (putV up bs m v n.toNat (i.toNat + 1)) (m + (i.toNat + 1)) up := by
      intro x S2 w2 hg hc hx hw
      refine ⟨S2, hg1.trans hg, hc1.trans hc fun j hj hlt => ?_, ?_⟩
      · rcases hj with hj | hj
        · exact .inl hj
        · rcases hg1.2 j hj with hj | hj
          · exact .inr hj
          · omega
      · rw [putV, ← hx]; exact hw
    have h01 := bitOf_01 up v n.toNat i.toNat
    have hko := putV_ok (v := v) (n := n.toNat) hok i.toNat
    refine ⟨fun _ w' => ∃ S', Gr S S' w w' ∧ Chg (fun k => k = wb ∨ S k) w w' ∧ WrAt w' q wb S' (putV up bs m v n.toNat (i.toNat + 1)) (m + (i.toNat + 1)) up, ?_, fun w4 hI => ?_⟩
    · refine nn_i hptr ⟨_, h3.cell (i := 2) rfl, brB_i (fun hu => ?_) (fun hu => ?_)⟩
      · subst hu
        rw [w64 (x := n - 1) (by omega) (by omega), w64 (x := n - 1 - i) (by omega) (by omega)]
        have e := (shr_bit v0 v1 (i := n - 1 - i) (by omega) (by omega)).1
        have e2 : v / 2 ^ (n - 1 - i).toNat % 2 = bitOf true v n.toNat i.toNat := by
          unfold bitOf; rw [if_pos rfl]; congr 3; omega
        rw [e, wrap_u (k := .u8) rfl (by omega) (by simp [IntKind.bits]; omega), e2]
        exact ⟨by omega, one_spec h1' hko h01 (by omega) fun S2 w2 hg hc hw => ⟨rfl, key _ S2 w2 hg hc rfl hw⟩⟩
      · subst hu
        have e := (shr_bit v0 v1 (i := i) (by omega) (by omega)).1
        have e2 : v / 2 ^ i.toNat % 2 = bitOf false v n.toNat i.toNat := by unfold bitOf; simp
        rw [e, wrap_u (k := .u8) rfl (by omega) (by simp [IntKind.bits]; omega), e2]
        exact ⟨by omega, one_spec h1' hko h01 (by omega) fun S2 w2 hg hc hw => ⟨rfl, key _ S2 w2 hg hc rfl hw⟩⟩
    · obtain ⟨S2, hg2, hc2, hw2⟩ := hI
      rw [w64 (x := i + 1) (by omega) (by omega)]
      refine ⟨⟨by omega, by omega, S2, hg2, hc2, by rw [show (i + 1).toNat = i.toNat + 1 by omega]; exact hw2⟩, ?_⟩
      show (n - (i + 1)).toNat < (n - i).toNat
      omega
  · have hge : i = n := by simp at hge; omega
    subst hge
    exact h2 hb.1 hb.2 S1 w1 hg1 hc1 h1'

end Go.Proofs.Ytlbokiaolmflaaa
