/- The walks of InflateCut and InflateWraps. -/
import Derived.Test.YthfnohbpdoklgaaIL1
import Derived.Test.YthfnohbpdoklgaaIM5
namespace Go.Proofs.Ythfnohbpdoklgaa
open Go Go.Vc Go.RowKit
set_option maxRecDepth 100000
set_option linter.unusedVariables false
set_option linter.unusedSimpArgs false
set_option maxHeartbeats 2000000
theorem bytes_take (xs : List Int) (n : Nat) : bytes (xs.take n) <+: bytes xs := by rw [bytes, bytes, List.map_take]; exact List.take_prefix _ _
theorem cut_walk {W : World} {b b' : Option Addr} {len cap len' cap' : Nat} {xs ms : List Int} {x : Int} {R : Ending → World → Prop} (h : BytesOk W b len cap xs ∧ len ≤ 1048576) (w1 : (Lit.int .i64 x).wf = true) (h' : BytesOk W b' len' cap' ms ∧ len' ≤ 1048576)
    (hR : ∀ w', Ext W w' → R (.returned (.bool true)) w') : Calls P F.law04_InflateCut #[.slice b len cap, i64 x, .slice b' len' cap'] W R := by
  obtain ⟨f, h20⟩ := h
  obtain ⟨g, g20⟩ := h'
  have hm := wf64 w1
  have hl := f.long
  have hl' := g.long
  have hcp := f.cap
  have hok := rawR_ok (most := 100000) f.fit
  refine calls_law04_InflateCut _ _ _ _ _ _ _ _ _ ?_
  refine wakes_spec fun u1 hE1 => ⟨_, rfl, brB_f rfl ?_⟩
  refine own_spec (f.sl.ext hE1) f.long (by omega) fun p1 k2 u2 hE2 ho => ⟨_, _, _, rfl, ?_⟩
  refine Raw_spec ho.sl f.long (by omega) f.fit (by omega) (fun m h1 h2 => by omega) fun p2 k4 u3 hE3 hO3 => ⟨_, _, _, _, _, rfl, ?_⟩
  have hE3' := (hE1.trans hE2).trans hE3
  refine brB_i (fun he => ?_) fun he => ?_
  · have he : (rawR xs 100000).2.2 ≠ 0 := by simpa using he
    obtain ⟨q1, q2⟩ := rawR_bad f.fit he
    rw [q1, q2]
    exact hR u3 hE3'
  have he : (rawR xs 100000).2.2 = 0 := by simpa using he
  obtain ⟨k, out, h1, h2, h3, h4⟩ := rawR_good f.fit he
  have hcut := fun cs => rawR_cut (cs := cs) f.fit he
  have hmore := fun ms => rawR_used (ms := ms) (most' := 100000) f.fit he (by have := hok.few; omega)
  have hu := hok.used
  have hfw := hok.few
  rw [h2] at hO3 hcut hmore hu hfw ⊢
  simp only at hO3 hcut hmore hu hfw ⊢
  generalize hn : (k + 7) / 8 = n at *
  have hn1 : 1 ≤ n := by omega
  refine brB_f (by simp only [Bool.or_eq_false_iff, decide_eq_false_iff_not]; omega) ?_
  have en : IntKind.u64.wrap ((n : Nat) : Int) = (n : Nat) := wu64 (by omega) (by omega)
  rw [en]
  refine ⟨by omega, ?_⟩
  have hxu : 0 ≤ IntKind.u64.wrap x := by rw [IntKind.wrap]; simp only [IntKind.signed, IntKind.bits]; exact Int.emod_nonneg _ (by decide)
  rw [remZ hxu]
  obtain ⟨m, hmv⟩ : ∃ m : Nat, IntKind.u64.wrap x % (n : Int) = m := ⟨(IntKind.u64.wrap x % (n : Int)).toNat, by have := Int.emod_nonneg (IntKind.u64.wrap x) (show (n : Int) ≠ 0 by omega); omega⟩
  have hmn : m < n := by have := Int.emod_lt_of_pos (IntKind.u64.wrap x) (show (0 : Int) < n by omega); omega
  rw [hmv, w64 (by omega) (by omega)]
  refine ⟨by omega, by omega, by omega, ?_⟩
  rw [show (0 : Int).toNat = 0 from rfl, slcBase0, Int.toNat_natCast, Nat.sub_zero, Nat.sub_zero]
  have hft : ∀ j, Bs (xs.take j) := fun j y hy => f.fit y (List.mem_of_mem_take hy)
  have hlt : ∀ j, j ≤ n → j = (xs.take j).length := fun j hj => by rw [List.length_take]; omega
  refine own_spec ((f.sl.ext hE3').pre (bytes_take xs m)) (hlt m (by omega)) (by omega) fun p4 k8 u4 hE4 ho4 => ⟨_, _, _, rfl, ?_⟩
  refine Raw_spec ho4.sl (hlt m (by omega)) (by omega) (hft m) (by omega) (fun m h1 h2 => by omega) fun p5 k10 u5 hE5 hO5 => ⟨_, _, _, _, _, rfl, ?_⟩
  have h5 := hcut (xs.take m) (alike_take xs m) (by rw [← hlt m (by omega)]; exact hmn)
  have hE5' := (hE3'.trans hE4).trans hE5
  refine ⟨by omega, by omega, by omega, ?_⟩
  rw [Int.toNat_natCast, show (0 : Int).toNat = 0 from rfl, slcBase0, Nat.sub_zero, Nat.sub_zero]
  refine own_spec ((f.sl.ext hE5').pre (bytes_take xs n)) (hlt n (Nat.le_refl _)) (by omega) fun p7 k14 u6 hE6 ho6 => ⟨_, _, _, rfl, bytes ms, by rw [bytes_length]; omega, bytes_oneAll _, ((g.sl.ext hE5').ext hE6).cells, ?_⟩
  refine OwnS.app ho6.ownS (by simp [blocks]) rfl (by rw [bytes_length]; omega) (by omega) (by omega) fun p8 k16 u7 hO7 hc7 => ?_
  have hE57 : Ext u5 u7 := hE6.step hc7 fun i hi => hi.1
  have hS7 := hO7.sl
  rw [← bytes_append] at hS7
  have hfm : Bs (xs.take n ++ ms) := fun y hy => by
    rcases List.mem_append.1 hy with hy | hy
    · exact hft n y hy
    · exact g.fit y hy
  have hlm : n + len' = (xs.take n ++ ms).length := by rw [List.length_append, ← hlt n (Nat.le_refl _), hl']
  refine Raw_spec hS7 hlm (by omega) hfm (by omega) (fun m h1 h2 => by omega) fun p9 k18 u8' hE8 hO8 => ⟨_, _, _, _, _, rfl, ?_⟩
  rw [hmore ms] at hO8 ⊢
  simp only at hO8 ⊢
  have hE58 := hE57.trans hE8
  refine brB_t (by rw [h5]; simp) ?_
  refine same_spec (((hO3.sl.ext hE4).ext hE5).ext hE58) hO8.sl rfl rfl (by omega) fun u9 hE9 => ⟨_, rfl, to_bool (hR u9 ((hE5'.trans hE58).trans hE9)) (by simp)⟩
theorem u8mod (y : Int) : IntKind.u8.wrap y = y % 256 := by rw [IntKind.wrap]; simp [IntKind.signed, IntKind.bits]
theorem xor_alone {a x : Int} (a0 : 0 ≤ a) (a1 : a < 4294967296) (x0 : 0 ≤ x) (x1 : x < 4294967296) : 0 ≤ bitsZ .xor .u32 a x ∧ bitsZ .xor .u32 a x < 4294967296 ∧ (bitsZ .xor .u32 a x = a ↔ x = 0) := by
  have e : bitsZ .xor .u32 a x = ((a.toNat ^^^ x.toNat : Nat) : Int) := by
    show (((BitVec.ofInt 32 a) ^^^ (BitVec.ofInt 32 x)).toNat : Int) = _
    have e1 : (BitVec.ofInt 32 a).toNat = a.toNat := by rw [BitVec.toNat_ofInt]; omega
    have e2 : (BitVec.ofInt 32 x).toNat = x.toNat := by rw [BitVec.toNat_ofInt]; omega
    rw [BitVec.toNat_xor, e1, e2]
  rw [e]
  have hlt : a.toNat ^^^ x.toNat < 2 ^ 32 := Nat.xor_lt_two_pow (by omega) (by omega)
  refine ⟨by omega, by omega, fun h => ?_, fun h => ?_⟩
  · have h : a.toNat ^^^ x.toNat = a.toNat := by omega
    have := congrArg (fun y => a.toNat ^^^ y) h
    simp only [← Nat.xor_assoc, Nat.xor_self, Nat.zero_xor] at this
    omega
  · subst h
    simp only [Int.toNat_zero, Nat.xor_zero]
    omega
theorem adV_range (xs : List Int) : 0 ≤ adV xs ∧ adV xs < 4294967296 := by
  have := adU_range xs xs.length
  unfold adV; omega
/-- what the wrapping of bytes that are read is -/
theorem zlib_wrapped {bs : List Int} {most : Int} {x v : Int} (hf : Bs bs) (he : (rawR bs most).2.2 = 0) (v0 : 0 ≤ v) (v1 : v < 4294967296) (hv : v = adV (rawR bs most).1 ↔ x = 0) :
    zlibR ([120, 1] ++ (bs.take (rawR bs most).2.1 ++ [v / 16777216 % 256, v / 65536 % 256, v / 256 % 256, v % 256, 9])) (rawR bs most).1.length = if x = 0 then ((rawR bs most).1, 0) else ([], 44) := by
  have hu := (rawR_ok (most := most) hf).used
  have hr := rawR_used (ms := [v / 16777216 % 256, v / 65536 % 256, v / 256 % 256, v % 256, 9]) (most' := ((rawR bs most).1.length : Int)) hf he (by omega)
  generalize hq : rawR bs most = r at *
  have hlt : (bs.take r.2.1).length = r.2.1 := by rw [List.length_take]; omega
  have hd : ([120, 1] ++ (bs.take r.2.1 ++ [v / 16777216 % 256, v / 65536 % 256, v / 256 % 256, v % 256, 9])).drop 2 = bs.take r.2.1 ++ [v / 16777216 % 256, v / 65536 % 256, v / 256 % 256, v % 256, 9] := rfl
  have g0 : ([120, 1] ++ (bs.take r.2.1 ++ [v / 16777216 % 256, v / 65536 % 256, v / 256 % 256, v % 256, 9])).getD 0 0 = 120 := rfl
  have g1 : ([120, 1] ++ (bs.take r.2.1 ++ [v / 16777216 % 256, v / 65536 % 256, v / 256 % 256, v % 256, 9])).getD 1 0 = 1 := rfl
  have hlen : ([120, 1] ++ (bs.take r.2.1 ++ [v / 16777216 % 256, v / 65536 % 256, v / 256 % 256, v % 256, 9])).length = r.2.1 + 7 := by
    simp only [List.length_append, hlt, List.length_cons, List.length_nil]; omega
  have gi : ∀ i, i < 5 → ([120, 1] ++ (bs.take r.2.1 ++ [v / 16777216 % 256, v / 65536 % 256, v / 256 % 256, v % 256, 9])).getD (2 + r.2.1 + i) 0 = [v / 16777216 % 256, v / 65536 % 256, v / 256 % 256, v % 256, 9].getD i 0 := fun i hi => by
    rw [List.getD_eq_getElem?_getD, List.getD_eq_getElem?_getD, List.getElem?_append_right (by simp; omega), List.getElem?_append_right (by simp [hlt]; omega), hlt]
    congr 2
    simp only [List.length_cons, List.length_nil]; omega
  have hgv : getV ([120, 1] ++ (bs.take r.2.1 ++ [v / 16777216 % 256, v / 65536 % 256, v / 256 % 256, v % 256, 9])) (2 + r.2.1) 4 true = v := by
    have a0 := gi 0 (by omega)
    have a1 := gi 1 (by omega)
    have a2 := gi 2 (by omega)
    have a3 := gi 3 (by omega)
    simp only [getV, if_true, bigN]
    rw [a0, a1, a2, a3]
    simp only [List.getD_cons_zero, List.getD_cons_succ]
    omega
  unfold zlibR
  rw [hd, g0, g1, hlen, hr, hgv, if_neg (by omega), if_neg (by decide), if_neg (by decide), if_neg (by decide), if_neg (by decide), if_neg (fun g => g he), if_neg (by unfold thereE; omega)]
  by_cases hx : x = 0
  · rw [if_neg (fun g => g (hv.2 hx)), if_pos hx]
  · rw [if_pos (fun g => hx (hv.1 g)), if_neg hx]
theorem wraps_walk {W : World} {b : Option Addr} {len cap : Nat} {xs : List Int} {x : Int} {R : Ending → World → Prop} (h : BytesOk W b len cap xs ∧ len + 16 ≤ 2 ^ 47) (w1 : (Lit.int .u32 x).wf = true)
    (hR : ∀ w', Ext W w' → R (.returned (.bool true)) w') : Calls P F.law04_InflateWraps #[.slice b len cap, u32 x] W R := by
  obtain ⟨f, h20⟩ := h
  have hx := wfu32 w1
  have hl := f.long
  have hcp := f.cap
  have hok := rawR_ok (most := 100000) f.fit
  refine calls_law04_InflateWraps _ _ _ _ _ _ ?_
  refine wakes_spec fun u1 hE1 => ⟨_, rfl, brB_f rfl ?_⟩
  refine own_spec (f.sl.ext hE1) f.long (by omega) fun p1 k2 u2 hE2 ho => ⟨_, _, _, rfl, ?_⟩
  refine Raw_spec ho.sl f.long (by omega) f.fit (by omega) (fun m h1 h2 => by omega) fun p2 k4 u3 hE3 hO3 => ⟨_, _, _, _, _, rfl, ?_⟩
  have hE3' := (hE1.trans hE2).trans hE3
  refine brB_i (fun he => ?_) fun he => ?_
  · have he : (rawR xs 100000).2.2 ≠ 0 := by simpa using he
    obtain ⟨q1, q2⟩ := rawR_bad f.fit he
    rw [q1]
    exact hR u3 hE3'
  have he : (rawR xs 100000).2.2 = 0 := by simpa using he
  obtain ⟨k, out, h1, h2, h3, h4⟩ := rawR_good f.fit he
  have hu := hok.used
  have hfw := hok.few
  have hfo := hok.fit
  have hav := adV_range (rawR xs 100000).1
  obtain ⟨v0, v1, hv⟩ := xor_alone hav.1 hav.2 hx.1 hx.2
  have hz := zlib_wrapped (v := bitsZ .xor .u32 (adV (rawR xs 100000).1) x) f.fit he v0 v1 hv
  have hun : 1 ≤ (rawR xs 100000).2.1 := by rw [h2]; simp only; omega
  generalize rawR xs 100000 = r at *
  refine brB_f (by simp only [Bool.or_eq_false_iff, decide_eq_false_iff_not]; omega) ?_
  refine refAdler_spec hO3.sl rfl hfo (by omega) ⟨_, rfl, fun k5 u5 hn5 => ?_⟩
  generalize adV r.1 = a at *
  generalize bitsZ .xor .u32 a x = v at *
  have e5 := hn5.1
  have s5 := hn5.size
  refine ⟨by omega, by omega, by omega, ?_⟩
  rw [show (0 : Int).toNat = 0 from rfl, slcBase0, Int.toNat_natCast, Nat.sub_zero, Nat.sub_zero]
  have hE5 := hE3'.trans hn5.ext
  have hlt : (xs.take r.2.1).length = r.2.1 := by rw [List.length_take]; omega
  refine ⟨bytes (xs.take r.2.1), by rw [bytes_length, hlt, Nat.mul_one], bytes_oneAll _, ((f.sl.ext hE5).pre (bytes_take xs _)).cells, ?_⟩
  have ho5 : OwnS (fun i => u3.heap.size ≤ i) u5 (some ⟨k5, 0, none⟩) 2 2 1 (bytes [120, 1]) := (New.own (N := u3.heap.size) (M := u5.heap.size) (vs := bytes [120, 1]) hn5 (List.prefix_refl _) rfl rfl (Nat.le_refl _) (Nat.le_refl _) (Nat.le_refl _)).ownS.mono fun i hi _ => hi.1
  refine OwnS.app ho5 (by simp [blocks]) rfl (by rw [bytes_length, hlt, Nat.mul_one]) (by omega) (by omega) fun p4 k9 u6 hO6 hc6 k10 hk10 u7 hL7 => ?_
  have s6 := hc6.size
  have hE36 : Ext u3 u6 := hn5.ext.step hc6 fun i hi => hi
  have hv8 : ∀ y : Int, IntKind.u8.wrap y = y % 256 := u8mod
  have hsh : ∀ j : Int, 0 ≤ j → j ≤ 32 → shiftZ .shr .u32 (IntKind.u32.wrap v) j = v / 2 ^ j.toNat := fun j j0 j1 => by
    rw [wu32 v0 (by omega)]
    exact shiftZ_shr v0 j0 j1
  rw [hsh 24 (by omega) (by omega), hsh 16 (by omega) (by omega), hsh 8 (by omega) (by omega), wu32 v0 (by omega), hv8, hv8, hv8, hv8]
  have ho6 : OwnS (fun i => u3.heap.size ≤ i) u6 p4 (2 + r.2.1) k9 1 (bytes ([120, 1] ++ xs.take r.2.1)) := by
    rw [bytes_append]
    exact OwnS.mono hO6 fun i hi _ => hi.elim id fun g => by omega
  refine OwnS.grow (fs := bytes [v / 16777216 % 256, v / 65536 % 256, v / 256 % 256, v % 256, 9]) ho6 hL7 (fun b hb => .inl (by simp at hb; omega)) (fun i hi => by have := hE36.size; omega) (by simp [blocks]) rfl rfl (by omega) (by omega) fun p5 k12 u8' hO8 hc8 => ?_
  have hE38 : Ext u3 u8' := hE36.step hc8 fun i hi => by
    have := hE36.size
    simp at hi; omega
  have hS8 := hO8.sl
  rw [← bytes_append, List.append_assoc] at hS8
  have hfz : Bs ([120, 1] ++ (xs.take r.2.1 ++ [v / 16777216 % 256, v / 65536 % 256, v / 256 % 256, v % 256, 9])) := fun y hy => by
    simp only [List.mem_append, List.mem_cons, List.not_mem_nil, or_false] at hy
    rcases hy with (rfl | rfl) | hy | rfl | rfl | rfl | rfl | rfl
    · omega
    · omega
    · exact f.fit y (List.mem_of_mem_take hy)
    · omega
    · omega
    · omega
    · omega
    · omega
  refine Zlib_spec hS8 (by simp only [List.length_append, hlt, List.length_cons, List.length_nil]; omega) hO8.2.1 (by omega) hfz (by omega) (fun m h1 h2 => by omega) fun p6 k14 u9 hE9 hS9 => ⟨_, _, _, _, rfl, hE9.keep _, ?_⟩
  rw [hz] at hS9 ⊢
  have hE39 := hE38.trans hE9
  refine brB_i (fun hx0 => ?_) fun hx0 => ?_
  · have hx0 : x = 0 := by simpa using hx0
    rw [if_pos hx0] at hS9 ⊢
    refine brB_t rfl ?_
    refine same_spec (hO3.sl.ext hE39) hS9 rfl rfl (by omega) fun u10 hE10 => ⟨_, rfl, hE10.keep _, to_bool (hR u10 ((hE3'.trans hE39).trans hE10)) (by simp)⟩
  · have hx0 : x ≠ 0 := by simpa using hx0
    rw [if_neg hx0]
    exact hR u9 (hE3'.trans hE39)
end Go.Proofs.Ythfnohbpdoklgaa
