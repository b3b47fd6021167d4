/- Writers: Put, and the document's. -/
import Derived.Test.YtlmnooodinfifaaBits5
namespace Go.Proofs.Ytlmnooodinfifaa
open Go Go.Vc Go.RowKit
set_option maxRecDepth 100000
set_option linter.unusedVariables false
set_option linter.unusedSimpArgs false

/-- the bit that is written in turn i of n -/
def bitOf (up : Bool) (v : Int) (n i : Nat) : Int := (v / 2 ^ (if up then n - 1 - i else i)) % 2
/-- the bytes when k of a number's n bits are written -/
def putV (up : Bool) (bs : List Int) (m : Nat) (v : Int) (n : Nat) : Nat → List Int
  | 0 => bs
  | k + 1 => addBit up (putV up bs m v n k) (m + k) (bitOf up v n k)
theorem bitOf_01 (up : Bool) (v : Int) (n i : Nat) : bitOf up v n i = 0 ∨ bitOf up v n i = 1 := by unfold bitOf; omega
theorem putV_ok {up : Bool} {bs : List Int} {m : Nat} {v : Int} {n : Nat} (h : WOk up bs m) : ∀ k, WOk up (putV up bs m v n k) (m + k)
  | 0 => h
  | k + 1 => ((putV_ok h k).add (bitOf_01 up v n k)).1
theorem shr_bit {x i : Int} (x0 : 0 ≤ x) (x1 : x < 2 ^ 32) (i0 : 0 ≤ i) (i1 : i ≤ 31) :
    IntKind.u32.wrap (bitsZ .and .u32 (shiftZ .shr .u32 x i) 1) = x / 2 ^ i.toNat % 2 ∧ divZ .rem .u32 (shiftZ .shr .u32 x i) 2 = x / 2 ^ i.toNat % 2 := by
  have hp : (0 : Int) < 2 ^ i.toNat := Int.pow_pos (by omega)
  have h0 : 0 ≤ x / 2 ^ i.toNat := Int.ediv_nonneg x0 (Int.le_of_lt hp)
  have h1 : x / 2 ^ i.toNat ≤ x := Int.ediv_le_self _ x0
  rw [shiftZ_shr x0 i0 (by simp [IntKind.bits]; omega)]
  refine ⟨?_, ?_⟩
  · rw [bitsZ_and1 h0 (by simp [IntKind.bits]; omega)]
    exact wrap_u rfl (by omega) (by simp [IntKind.bits]; omega)
  · simp only [divZ]; rw [Int.tmod_eq_emod_of_nonneg h0]
theorem Put_spec {w : World} {q : Option Addr} {wb : Nat} {S : Nat → Prop} {bs : List Int} {m : Nat} {up : Bool} {v n : Int} {R : Ending → World → Prop} (h : WrAt w q wb S bs m up) (hok : WOk up bs m) (hm : m ≤ 2 ^ 48 + 2 ^ 47) (v0 : 0 ≤ v) (v1 : v < 2 ^ 32)
    (h1 : n < 0 ∨ n > 32 → R (.returned (i64 2)) w)
    (h2 : 0 ≤ n → n ≤ 32 → ∀ S' w', Gr S S' w w' → Chg (fun k => k = wb ∨ S k) w w' → WrAt w' q wb S' (putV up bs m v n.toNat n.toNat) (m + n.toNat) up → R (.returned (i64 0)) w') :
    Calls P F.bits_Writer_Put #[.pointer q, .int .u32 v, i64 n] w R := by
  refine calls_bits_Writer_Put _ _ _ _ _ ?_
  have hptr := h.ptr
  refine brB_f (by rw [hptr]; rfl) (brB_i (fun hb => h1 (by simpa using hb)) (fun hb => ?_))
  have hb : 0 ≤ n ∧ n ≤ 32 := by simpa using hb
  refine ⟨fun l w' => match l with | [.int _ i] => 0 ≤ i ∧ i ≤ n ∧ ∃ S', Gr S S' w w' ∧ Chg (fun k => k = wb ∨ S k) w w' ∧ WrAt w' q wb S' (putV up bs m v n.toNat i.toNat) (m + i.toNat) up | _ => False,
    fun l _ => match l with | [.int _ i] => (n - i).toNat | _ => 0, ⟨Int.le_refl _, hb.1, S, Gr.refl _ _, Chg.refl _ _, h⟩, fun i w1 hI => ?_⟩
  obtain ⟨i0, i1, S1, hg1, hc1, h1'⟩ := hI
  refine brB_i (fun hlt => ?_) (fun hge => ?_)
  · have hlt : i < n := by simpa using hlt
    obtain ⟨base, cap, h3, h4⟩ := h1'.obj
    have key : ∀ x S2 w2, Gr S1 S2 w1 w2 → Chg (fun k => k = wb ∨ S1 k) w1 w2 → x = bitOf up v n.toNat i.toNat → WrAt w2 q wb S2 (addBit up (putV up bs m v n.toNat i.toNat) (m + i.toNat) x) (m + i.toNat + 1) up →
        ∃ S', Gr S S' w w2 ∧ Chg (fun k => k = wb ∨ S k) w w2 ∧ WrAt w2 q wb S' (putV up bs m v n.toNat (i.toNat + 1)) (m + (i.toNat + 1)) up := by
      intro x S2 w2 hg hc hx hw
      refine ⟨S2, hg1.trans hg, hc1.trans hc fun j hj hlt => ?_, ?_⟩
      · rcases hj with hj | hj
        · exact .inl hj
        · rcases hg1.2 j hj with hj | hj
          · exact .inr hj
          · omega
      · rw [putV, ← hx]; exact hw
    have h01 := bitOf_01 up v n.toNat i.toNat
    have hko := putV_ok (v := v) (n := n.toNat) hok i.toNat
    refine ⟨fun _ w' => ∃ S', Gr S S' w w' ∧ Chg (fun k => k = wb ∨ S k) w w' ∧ WrAt w' q wb S' (putV up bs m v n.toNat (i.toNat + 1)) (m + (i.toNat + 1)) up, ?_, fun w4 hI => ?_⟩
    · refine nn_i hptr ⟨_, h3.cell (i := 2) rfl, brB_i (fun hu => ?_) (fun hu => ?_)⟩
      · subst hu
        rw [w64 (x := n - 1) (by omega) (by omega), w64 (x := n - 1 - i) (by omega) (by omega)]
        have e := (shr_bit v0 v1 (i := n - 1 - i) (by omega) (by omega)).1
        have e2 : v / 2 ^ (n - 1 - i).toNat % 2 = bitOf true v n.toNat i.toNat := by
          unfold bitOf; rw [if_pos rfl]; congr 3; omega
        rw [e, wrap_u (k := .u8) rfl (by omega) (by simp [IntKind.bits]; omega), e2]
        exact ⟨by omega, one_spec h1' hko h01 (by omega) fun S2 w2 hg hc hw => ⟨rfl, key _ S2 w2 hg hc rfl hw⟩⟩
      · subst hu
        have e := (shr_bit v0 v1 (i := i) (by omega) (by omega)).1
        have e2 : v / 2 ^ i.toNat % 2 = bitOf false v n.toNat i.toNat := by unfold bitOf; simp
        rw [e, wrap_u (k := .u8) rfl (by omega) (by simp [IntKind.bits]; omega), e2]
        exact ⟨by omega, one_spec h1' hko h01 (by omega) fun S2 w2 hg hc hw => ⟨rfl, key _ S2 w2 hg hc rfl hw⟩⟩
    · obtain ⟨S2, hg2, hc2, hw2⟩ := hI
      rw [w64 (x := i + 1) (by omega) (by omega)]
      refine ⟨⟨by omega, by omega, S2, hg2, hc2, by rw [show (i + 1).toNat = i.toNat + 1 by omega]; exact hw2⟩, ?_⟩
      show (n - (i + 1)).toNat < (n - i).toNat
      omega
  · have hge : i = n := by simp at hge; omega
    subst hge
    exact h2 hb.1 hb.2 S1 w1 hg1 hc1 h1'

/-! ## The document's writers -/
abbrev refW (up : Bool) (p : Option Addr) (len cap : Nat) (n : Int) : Value := .agg #[.bool up, .slice p len cap, i64 n]
theorem put1_spec {w : World} {p : Option Addr} {cap : Nat} {S : Nat → Prop} {bs : List Int} {n : Nat} {up : Bool} {x : Int} {R : Ending → World → Prop} (h : OwB S w p bs.length cap 1 (bytes bs)) (hok : WOk up bs n) (hx : x = 0 ∨ x = 1) (hsz : n ≤ 2 ^ 49)
    (hR : ∀ S' p' c' w', Gr S S' w w' → Chg S w w' → OwB S' w' p' (addBit up bs n x).length c' 1 (bytes (addBit up bs n x)) → R (.returned (refW up p' (addBit up bs n x).length c' ((n : Int) + 1))) w') :
    Calls P F.ref01_put1 #[refW up p bs.length cap n, .int .u32 x] w R := by
  refine calls_ref01_put1 _ _ _ _ _ _ _ _ ?_
  have hlo := hok.lo
  have hhi := hok.hi
  have hrem : divZ .rem .i64 (n : Int) 8 = ((n % 8 : Nat) : Int) := by simp only [divZ]; rw [Int.tmod_eq_emod_of_nonneg (by omega)]; simp
  have hquo : divZ .quo .i64 (n : Int) 8 = ((n / 8 : Nat) : Int) := by
    simp only [divZ]
    rw [Int.tdiv_eq_ediv_of_nonneg (by omega), w64 (by omega) (by omega)]; simp
  obtain ⟨gfit, glt, glen⟩ := hok.wide
  obtain ⟨hok', _, hlen', v, hv, hv2, hv0⟩ := hok.add hx
  have hp := plc_lt up n
  intro k1 hk1 k2 hk2
  rw [hrem]
  refine ⟨fun l w' => match l with | [.bool u, .slice p' l' c', .int _ n'] => u = up ∧ n' = n ∧ l' = (grown bs n).length ∧ ∃ S', Gr S S' w w' ∧ Chg S w w' ∧ OwB S' w' p' l' c' 1 (bytes (grown bs n)) ∧ ¬ S' k1 ∧ ¬ S' k2 | _ => False, ?_, fun u p2 l2 c2 n' w5 hI => ?_⟩
  · refine brB_i (fun h0 => ?_) (fun h0 => ?_)
    · have h0 : n % 8 = 0 := by
        have : ((n % 8 : Nat) : Int) = 0 := by simpa using h0
        omega
      intro k3 hk3 w1 hL1
      have hE1 : Ext w w1 := hL1.ext (by simp; omega)
      have ht := hL1.there
      refine (h.ext hE1).app (by simp [blocks]; exact ⟨fun hS => by have := h.bd _ hS; omega, fun hS => by have := h.bd _ hS; omega, fun hS => by have := h.bd _ hS; omega⟩) rfl rfl (by omega) (by omega) fun S' p' c' w2 hg ho hc w3 hL3 => ?_
      have e : grown bs n = bs ++ [0] := by simp [grown, h0]
      have hn : ∀ k, k = k1 ∨ k = k2 ∨ k = k3 → ¬ S' k := fun k hk hS => by
        have h1 := ht k1 (by simp); have h2 := ht k2 (by simp); have h3 := ht k3 (by simp)
        rcases hg.2 _ hS with hS | hS
        · have := h.bd _ hS; omega
        · omega
      refine ⟨rfl, rfl, by rw [e]; simp, S', (hg.pre hE1.size).size hL3.size, (hE1.chg.trans hc fun i hi _ => hi).trans hL3.chg (fun i hi hlt => by simp at hi; omega), ?_, hn _ (by simp), hn _ (by simp)⟩
      rw [e, bytes_append]
      exact ho.chg hL3.chg fun i hi hm => hn i (by simp at hm; omega) hi
    · have h0 : n % 8 ≠ 0 := by
        have : ((n % 8 : Nat) : Int) ≠ 0 := by simpa using h0
        omega
      intro w4 hL4
      have e : grown bs n = bs := by simp [grown, h0]
      have hE4 : Ext w w4 := hL4.ext (by simp; omega)
      exact ⟨rfl, rfl, by rw [e], S, (Gr.refl _ _).size hE4.size, hE4.chg, by rw [e]; exact h.ext hE4, fun hS => by have := h.bd _ hS; omega, fun hS => by have := h.bd _ hS; omega⟩
  · obtain ⟨rfl, rfl, rfl, S', hg, hc, ho, hn1, hn2⟩ := hI
    rw [hrem, hquo]
    refine ⟨fun l w' => match l with | [.int _ pl] => pl = plc u n ∧ w' = w5 | _ => False, ?_, fun pl w6 hI => ?_⟩
    · rw [u64_nn (x := ((n % 8 : Nat) : Int)) (by omega) (by omega), u64_nn (x := 7 - ((n % 8 : Nat) : Int)) (by omega) (by omega)]
      refine brB_i (fun hu => ⟨?_, rfl⟩) (fun hu => ⟨?_, rfl⟩)
      · subst hu; simp only [plc, if_true]; omega
      · subst hu; simp [plc]
    · obtain ⟨rfl, rfl⟩ := hI
      obtain ⟨b, rfl, hSb, hblt⟩ := ho.own.base (by omega)
      obtain ⟨hu, hf, hw⟩ := ho.own.write (i := n / 8) glt
      refine (ho.own.sl).get (by omega) (bytes_length _) (bytes_get (by rw [Int.toNat_natCast]; exact glt)) fun a1 hc1 => ⟨_, hc1, by omega, idx_i (a := ⟨b, 0, none⟩) (by omega) (by omega) rfl ?_⟩
      have ea : (⟨b, 0, none⟩ : Addr).add ((↑(n / 8) : Int).toNat * 1) = ⟨b, n / 8, none⟩ := by rw [loc_add, Int.toNat_natCast]; simp
      rw [ea, Int.toNat_natCast, hv]
      refine ⟨hu, hf, by simp; exact ⟨fun e => hn2 (e ▸ hSb), fun e => hn1 (e ▸ hSb)⟩, fun w7 hL7 => ?_⟩
      have h2 : (2 : Int) ^ plc u n < 256 := by
        have : (2 : Nat) ^ plc u n < 2 ^ 8 := Nat.pow_lt_pow_right (by omega) hp
        exact_mod_cast this
      have h3 : (0 : Int) < 2 ^ plc u n := Int.pow_pos (by omega)
      have hle := byte_le v hv2 _ hp hv0
      have hle : ((v + 2 ^ plc u n : Nat) : Int) < 256 := by exact_mod_cast hle
      simp at hle
      have ex : IntKind.u8.wrap ((v : Int) + IntKind.u8.wrap (shiftZ .shl .u32 x (plc u n : Int))) = v + x * 2 ^ plc u n := by
        rw [shiftZ_shl (by omega) (by simp [IntKind.bits]; omega), Int.toNat_natCast]
        rcases hx with rfl | rfl
        · rw [Int.zero_mul, wrap_u (k := .u32) rfl (by omega) (by decide), wrap_u (x := 0) rfl (by omega) (by decide)]
          exact wrap_u rfl (by omega) (by simp [IntKind.bits]; omega)
        · rw [Int.one_mul, wrap_u (k := .u32) rfl (by omega) (by simp [IntKind.bits]; omega), wrap_u (k := .u8) (x := 2 ^ plc u n) rfl (by omega) (by simp [IntKind.bits]; omega)]
          exact wrap_u rfl (by omega) (by simp [IntKind.bits]; omega)
      rw [ex] at hL7
      obtain ⟨ho2, hc2⟩ := hw (u8 (v + x * 2 ^ plc u n))
      have e1 : bytes (addBit u bs n x) = (bytes (grown bs n)).set (n / 8) (u8 (v + x * 2 ^ plc u n)) := by rw [addBit_eq, hv]; simp [bytes]
      have e2 : (addBit u bs n x).length = (grown bs n).length := by rw [hlen', glen]
      have hs7 := hc2.size
      have hs8 := hL7.size
      rw [w64 (x := (n : Int) + 1) (by omega) (by omega)]
      have hfin := hR S' (some ⟨b, 0, none⟩) c2 w7 (hg.size (Nat.le_trans hs7 hs8)) ?_ ?_
      · rwa [e2] at hfin
      · refine (hc.trans hc2 fun i hi hlt => ?_).trans hL7.chg fun i hi hlt => ?_
        · have hi : i = b := hi
          subst hi
          rcases hg.2 _ hSb with h | h
          · exact h
          · omega
        · simp at hi; omega
      · rw [e1, e2]
        refine ⟨OwnS.chg ho2 hL7.chg fun i hi _ hm => ?_, fun i hi => Nat.lt_of_lt_of_le (ho.bd i hi) (Nat.le_trans hs7 hs8)⟩
        simp at hm
        rcases hm with rfl | rfl
        · exact hn2 hi
        · exact hn1 hi
theorem refPut_spec {w : World} {p : Option Addr} {cap : Nat} {S : Nat → Prop} {bs : List Int} {m : Nat} {up : Bool} {v n : Int} {R : Ending → World → Prop} (h : OwB S w p bs.length cap 1 (bytes bs)) (hok : WOk up bs m) (hm : m ≤ 2 ^ 48 + 2 ^ 47) (v0 : 0 ≤ v) (v1 : v < 2 ^ 32)
    (h1 : n < 0 ∨ n > 32 → ∀ w', Ext w w' → R (.returned (.tuple #[refW up p bs.length cap m, i64 2])) w')
    (h2 : 0 ≤ n → n ≤ 32 → ∀ S' p' c' w', Gr S S' w w' → Chg S w w' → OwB S' w' p' (putV up bs m v n.toNat n.toNat).length c' 1 (bytes (putV up bs m v n.toNat n.toNat)) → R (.returned (.tuple #[refW up p' (putV up bs m v n.toNat n.toNat).length c' ((m + n.toNat : Nat) : Int), i64 0])) w') :
    Calls P F.ref01_Put #[refW up p bs.length cap m, .int .u32 v, i64 n] w R := by
  refine calls_ref01_Put _ _ _ _ _ _ _ _ _ ?_
  intro k1 hk1 k2 hk2
  refine brB_i (fun hb w1 hL => h1 (by simpa using hb) w1 (hL.ext (by simp; omega))) (fun hb => ?_)
  have hb : 0 ≤ n ∧ n ≤ 32 := by simpa using hb
  have hbd := h.bd
  refine ⟨fun l w' => match l with | [.int _ i, .bool u, .slice p' l' c', .int _ n'] => 0 ≤ i ∧ i ≤ n ∧ u = up ∧ n' = (m + i.toNat : Nat) ∧ l' = (putV up bs m v n.toNat i.toNat).length ∧ k1 < w'.heap.size ∧ k2 < w'.heap.size ∧ ∃ S', Gr S S' w w' ∧ Chg S w w' ∧ OwB S' w' p' l' c' 1 (bytes (putV up bs m v n.toNat i.toNat)) ∧ ¬ S' k1 ∧ ¬ S' k2 | _ => False,
    fun l _ => match l with | [.int _ i, .bool u, .slice p' l' c', .int _ n'] => (n - i).toNat | _ => 0, fun w2 hL2 => ?_, fun i u p1 l1 c1 n1 w3 hI => ?_⟩
  · have hE := hL2.ext (by simp; omega)
    have t1 := hL2.there k1 (by simp); have t2 := hL2.there k2 (by simp)
    exact ⟨Int.le_refl _, hb.1, rfl, rfl, rfl, t1, t2, S, (Gr.refl _ _).size hE.size, hE.chg, h.ext hE, fun hS => by have := hbd _ hS; omega, fun hS => by have := hbd _ hS; omega⟩
  · obtain ⟨i0, i1, rfl, rfl, rfl, t1, t2, S1, hg1, hc1, ho1, hn1, hn2⟩ := hI
    refine brB_i (fun hlt => ?_) (fun hge w7 hL7 => ?_)
    · have hlt : i < n := by simpa using hlt
      have h01 := bitOf_01 u v n.toNat i.toNat
      have hko := putV_ok (v := v) (n := n.toNat) hok i.toNat
      refine ⟨fun l w' => match l with | [.int _ j] => j = (if u then n - 1 - i else i) ∧ w' = w3 | _ => False, ?_, fun j w4 hI => ?_⟩
      · refine brB_i (fun hu => ⟨?_, rfl⟩) (fun hu => ⟨?_, rfl⟩)
        · rw [w64 (x := n - 1) (by omega) (by omega), w64 (x := n - 1 - i) (by omega) (by omega), if_pos hu]
        · rw [if_neg (by simp [hu])]
      · obtain ⟨hj, rfl⟩ := hI
        have j0 : 0 ≤ j ∧ j ≤ 31 := by rw [hj]; split <;> omega
        have e := (shr_bit v0 v1 j0.1 j0.2).2
        have e2 : v / 2 ^ j.toNat % 2 = bitOf u v n.toNat i.toNat := by
          unfold bitOf; rw [hj]; cases u <;> simp; congr 3; omega
        rw [u64_nn j0.1 (by omega), e, e2]
        refine ⟨j0.1, put1_spec ho1 hko h01 (by omega) fun S2 p2 c2 w5 hg2 hc2 ho2 => ⟨_, _, _, _, _, rfl, hc2.keep (by simp; exact ⟨hn2, hn1⟩), fun w6 hL6 => ?_⟩⟩
        have hs2 := hg2.1
        have hq : ∀ k, (k = k1 ∨ k = k2) → ¬ S2 k := fun k hk hS => by
          rcases hg2.2 _ hS with hS | hS
          · rcases hk with rfl | rfl
            · exact hn1 hS
            · exact hn2 hS
          · omega
        have hgf := (hg1.trans hg2).size hL6.size
        have hs6 := hL6.size
        rw [w64 (x := i + 1) (by omega) (by omega)]
        refine ⟨⟨by omega, by omega, rfl, by omega, by rw [show (i + 1).toNat = i.toNat + 1 by omega]; rfl, by omega, by omega, S2, hgf, ?_, ?_, hq _ (by simp), hq _ (by simp)⟩, ?_⟩
        · refine (hc1.trans hc2 fun k hk hlt => ?_).trans hL6.chg fun k hk hlt => by simp at hk; omega
          rcases hg1.2 k hk with hk | hk
          · exact hk
          · omega
        · rw [show (i + 1).toNat = i.toNat + 1 by omega]
          exact ho2.chg hL6.chg fun k hk hm => hq k (by simp at hm; omega) hk
        · show (n - (i + 1)).toNat < (n - i).toNat
          omega
    · have hge : i = n := by simp at hge; omega
      subst hge
      refine h2 hb.1 hb.2 S1 p1 c1 w7 (hg1.size hL7.size) (hc1.trans hL7.chg fun k hk hlt => by simp at hk; omega) (ho1.chg hL7.chg fun k hk hm => ?_)
      simp at hm
      rcases hm with rfl | rfl
      · exact hn2 hk
      · exact hn1 hk
theorem refAlignW_spec {w : World} {p : Option Addr} {cap : Nat} {S : Nat → Prop} {bs : List Int} {m : Nat} {up : Bool} {R : Ending → World → Prop} (h : OwB S w p bs.length cap 1 (bytes bs)) (hok : WOk up bs m) (hm : m ≤ 2 ^ 48 + 2 ^ 47)
    (h2 : ∀ S' p' c' w', Gr S S' w w' → Chg S w w' → OwB S' w' p' bs.length c' 1 (bytes bs) → R (.returned (refW up p' bs.length c' ((8 * bs.length : Nat) : Int))) w') :
    Calls P F.ref01_AlignW #[refW up p bs.length cap m] w R := by
  refine calls_ref01_AlignW _ _ _ _ _ _ _ ?_
  intro k1 hk1 k2 hk2
  have hlo := hok.lo
  have hhi := hok.hi
  have hbd := h.bd
  refine ⟨fun l w' => match l with | [.bool u, .slice p' l' c', .int _ n'] => u = up ∧ l' = bs.length ∧ k1 < w'.heap.size ∧ k2 < w'.heap.size ∧ ∃ (n : Nat) (S' : Nat → Prop), n' = n ∧ WOk up bs n ∧ m ≤ n ∧ Gr S S' w w' ∧ Chg S w w' ∧ OwB S' w' p' bs.length c' 1 (bytes bs) ∧ ¬ S' k1 ∧ ¬ S' k2 | _ => False,
    fun l _ => match l with | [.bool u, .slice p' l' c', .int _ n'] => (8 * bs.length - n').toNat | _ => 0, fun w1 hL1 => ?_, fun u p1 l1 c1 n1 w2 hI => ?_⟩
  · have hE := hL1.ext (by simp; omega)
    exact ⟨rfl, rfl, hL1.there k1 (by simp), hL1.there k2 (by simp), m, S, rfl, hok, Nat.le_refl _, (Gr.refl _ _).size hE.size, hE.chg, h.ext hE, fun hS => by have := hbd _ hS; omega, fun hS => by have := hbd _ hS; omega⟩
  · obtain ⟨rfl, rfl, t1, t2, n, S1, rfl, hokn, hmn, hg, hc, ho, hn1, hn2⟩ := hI
    have hlo := hokn.lo
    have hhi := hokn.hi
    have hrem : divZ .rem .i64 (n : Int) 8 = ((n % 8 : Nat) : Int) := by simp only [divZ]; rw [Int.tmod_eq_emod_of_nonneg (by omega)]; simp
    rw [hrem]
    refine brB_i (fun hne => ?_) (fun heq w5 hL5 => ?_)
    · have h0 : n % 8 ≠ 0 := by
        have : ((n % 8 : Nat) : Int) ≠ 0 := by simpa using hne
        omega
      refine put1_spec ho hokn (.inl rfl) (by omega) fun S2 p2 c2 w3 hg2 hc2 ho2 => ⟨_, _, _, _, _, rfl, hc2.keep (by simp; exact ⟨hn2, hn1⟩), fun w4 hL4 => ?_⟩
      have e := addBit_zero (up := u) (bs := bs) h0
      rw [e] at ho2 ⊢
      have h8 : n + 1 ≤ 8 * bs.length := by omega
      have hs2 := hg2.1
      have hs4 := hL4.size
      have hq : ∀ k, (k = k1 ∨ k = k2) → ¬ S2 k := fun k hk hS => by
        rcases hg2.2 _ hS with hS | hS
        · rcases hk with rfl | rfl
          · exact hn1 hS
          · exact hn2 hS
        · omega
      have hok2 : WOk u bs (n + 1) := by have := (hokn.add (x := 0) (.inl rfl)).1; rwa [e] at this
      refine ⟨⟨rfl, rfl, by omega, by omega, n + 1, S2, by simp, hok2, by omega, (hg.trans hg2).size hL4.size, (hc.trans hc2 fun k hk hlt => ?_).trans hL4.chg (fun k hk hlt => by simp at hk; omega), ho2.chg hL4.chg fun k hk hm => hq k (by simp at hm; omega) hk, hq _ (by simp), hq _ (by simp)⟩, ?_⟩
      · rcases hg.2 k hk with hk | hk
        · exact hk
        · omega
      · show (8 * bs.length - ((n : Int) + 1)).toNat < (8 * bs.length - (n : Int)).toNat
        omega
    · have h0 : n % 8 = 0 := by
        have : ((n % 8 : Nat) : Int) = 0 := by simpa using heq
        omega
      have e : n = 8 * bs.length := by omega
      subst e
      refine h2 S1 p1 c1 w5 (hg.size hL5.size) (hc.trans hL5.chg fun k hk hlt => by simp at hk; omega) (ho.chg hL5.chg fun k hk hm => ?_)
      simp at hm
      rcases hm with rfl | rfl
      · exact hn2 hk
      · exact hn1 hk
end Go.Proofs.Ytlmnooodinfifaa
