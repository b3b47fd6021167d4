/- Gif: the palette: never empty, whole colours. -/
import Derived.Test.YtiiaihiliimcoaaRows
import Derived.Deep.CondSized
import Derived.Test.YtiiaihiliimcoaaRPA4
import Derived.Test.YtiiaihiliimcoaaRPA5
import Derived.Test.YtiiaihiliimcoaaRPA6
import Derived.Test.YtiiaihiliimcoaaRPA8
set_option linter.unusedVariables false
set_option linter.unusedSimpArgs false
namespace Go.Proofs.Ytiiaihiliimcoaa
open Go Go.Vc Go.RowKit Go.Qn
set_option maxRecDepth 100000
set_option maxHeartbeats 2000000
theorem pal_so {S : Nat → Prop} {u : World} {pa : Option Addr} {ca : Nat} {pal : List Co} (h : OwnS S u pa pal.length ca 4 (cos pal)) (h0 : 0 < pal.length) : ∃ b, pa = some ⟨b, 0, none⟩ ∧ S b ∧ b < u.heap.size ∧ So u b pal.length (fun i => pal.getD i zeroC) := by
 obtain ⟨_, h2, h3⟩ := h
 rcases h3 with h3 | ⟨b, rest, h4, h6, _, h8⟩
 ·omega
 ·exact ⟨b, h6, h4, h8.lt, rest, by rw [seg_getD]; exact h8⟩
theorem shr8 {x : Int} (h : Byt x) : IntKind.u8.wrap (shiftZ .shr .u16 x 8) = x / 256 % 256 := by
 obtain ⟨h0, h1⟩ := h
 rw [shiftZ_shr h0 (by omega) (by simp [IntKind.bits])]
 have hm : ∀ y : Int, IntKind.u8.wrap y = y % 256 := fun y => by rw [IntKind.wrap]; simp [IntKind.signed, IntKind.bits]
 rw [hm]; rfl
theorem zero_ok : CoOk zeroC := ⟨⟨by decide, by decide⟩, ⟨by decide, by decide⟩, ⟨by decide, by decide⟩, ⟨by decide, by decide⟩⟩
theorem getD_ok' {l : List Co} (h : ∀ c, c ∈ l → CoOk c) (i : Nat) : CoOk (l.getD i zeroC) := by
 rcases Nat.lt_or_ge i l.length with g | g
 ·have e : l.getD i zeroC = l[i] := by simp [List.getD, g]
  rw [e]; exact h _ (List.getElem_mem g)
 ·have e : l.getD i zeroC = zeroC := by simp [List.getD, g]
  rw [e]; exact zero_ok
theorem allN_ok {l : List Co} (h : ∀ c, c ∈ l → CoOk c) : ∀ n c, c ∈ allN l n → CoOk c
 | 0, c, hc => by cases hc
 | n + 1, c, hc => by
  unfold allN at hc
  split at hc
  ·exact allN_ok h n c hc
  ·unfold addC at hc
   split at hc
   ·exact allN_ok h n c hc
   ·rcases List.mem_append.1 hc with hc | hc
    ·exact allN_ok h n c hc
    ·simp at hc; rw [hc]; exact eight_ok (getD_ok' h n)
theorem cutB_ok {B : List (List Co)} (h : ∀ l, l ∈ B → ∀ c, c ∈ l → CoOk c) : ∀ l, l ∈ cutB B → ∀ c, c ∈ l → CoOk c := by
 intro l hl c hc
 have hg : ∀ c, c ∈ B.getD (mxi (B.map List.length) B.length) [] → CoOk c := by
  intro c hc
  rcases Nat.lt_or_ge (mxi (B.map List.length) B.length) B.length with g | g
  ·have e : B.getD (mxi (B.map List.length) B.length) [] = B[mxi (B.map List.length) B.length] := by simp [List.getD, g]
   rw [e] at hc; exact h _ (List.getElem_mem g) c hc
  ·have e : B.getD (mxi (B.map List.length) B.length) [] = [] := by simp [List.getD, g]
   rw [e] at hc; cases hc
 unfold cutB at hl
 rcases List.mem_append.1 hl with hl | hl
 ·exact h l (List.mem_of_mem_eraseIdx hl) c hc
 ·simp only [List.mem_cons, List.not_mem_nil, or_false] at hl
  rcases hl with rfl | rfl
  ·exact hg c ((stab_perm _ _).mem_iff.1 (List.mem_of_mem_take hc))
  ·exact hg c ((stab_perm _ _).mem_iff.1 (List.mem_of_mem_drop hc))
theorem spN_mem {A : List Co} (h : ∀ c, c ∈ A → CoOk c) : ∀ i l, l ∈ spN A i → ∀ c, c ∈ l → CoOk c
 | 0, l, hl, c, hc => by simp [spN] at hl; rw [hl] at hc; exact h c hc
 | i + 1, l, hl, c, hc => cutB_ok (spN_mem h i) l hl c hc
theorem palR_ok {W H most : Int} {xs : List Int} (h : PxOk xs) : ∀ c, c ∈ (palR W H xs most).1 → CoOk c := by
 have hA := allN_ok (distX_ok h (W * H).toNat) (distX xs (W * H).toNat).length
 intro c hc
 unfold palR at hc
 split at hc
 ·split at hc
  ·cases hc
  ·change c ∈ palV _ most at hc
   unfold palV at hc
   split at hc
   ·exact hA c hc
   ·obtain ⟨l, hl, rfl⟩ := List.mem_map.1 hc
    exact getD_ok' (spN_mem hA _ l hl) _
 ·cases hc
theorem palG_ok {W H : Int} {xs : List Int} (h : PxOk xs) : ∀ c, c ∈ palG W H xs → CoOk c := by
 intro c hc
 unfold palG at hc
 split at hc
 ·rcases List.mem_append.1 hc with hc | hc
  ·exact palR_ok h c hc
  ·simp at hc; rw [hc]; exact zero_ok
 ·exact palR_ok h c hc
theorem addC_ne (l : List Co) (c : Co) : addC l c ≠ [] := by
 unfold addC
 split
 ·rename_i hc
  intro e; subst e; simp at hc
 ·simp
theorem allN_pos {l : List Co} (h : ∀ c, c ∈ l → clearC c = false) : ∀ n, 0 < n → n ≤ l.length → 0 < (allN l n).length
 | 0, h0, _ => by omega
 | n + 1, _, hn => by
  have hlt : n < l.length := by omega
  have e : l.getD n zeroC = l[n] := by simp [List.getD, hlt]
  unfold allN
  rw [e, h _ (List.getElem_mem hlt)]
  exact List.length_pos_iff.2 (addC_ne _ _)
theorem distX_clear {xs : List Int} : ∀ n, (∀ i, i < n → 32768 ≤ xs.getD (4 * i + 3) 0) → ∀ c, c ∈ distX xs n → clearC c = false
 | 0, _, c, hc => by cases hc
 | n + 1, h, c, hc => by
  rw [distX_succ] at hc
  unfold addC at hc
  have h1 := distX_clear n fun i hi => h i (by omega)
  split at hc
  ·exact h1 c hc
  ·rcases List.mem_append.1 hc with hc | hc
   ·exact h1 c hc
   ·simp at hc
    have := h n (by omega)
    rw [hc]
    exact decide_eq_false (by show ¬ xs.getD (4 * n + 3) 0 < 32768; omega)
theorem goneU_false {xs : List Int} : ∀ n, goneU xs n = false → ∀ i, i < n → 32768 ≤ xs.getD (4 * i + 3) 0 := by
 intro n h i hi
 unfold goneU at h
 have := (List.any_eq_false.1 h) i (List.mem_range.2 hi)
 simpa using this
theorem palG_pos {W H : Int} {xs : List Int} (hb : good W H xs = true) : 1 ≤ (palG W H xs).length := by
 obtain ⟨hg, hxl⟩ := good_iff.1 hb
 obtain ⟨g1, g2, g3, g4, g5⟩ := gfits_iff.1 hg
 have hpos : 0 < W * H := Int.mul_pos (by omega) (by omega)
 unfold palG
 split
 ·simp
 ·rename_i hg1
  have hg1 : goneM xs = false := by simpa using hg1
  have hcl := goneU_false _ hg1
  have hwh : (W * H).toNat = xs.length / 4 := by omega
  have hL1' : 0 < (distX xs (W * H).toNat).length := by
   obtain ⟨n, hn⟩ : ∃ n, (W * H).toNat = n + 1 := ⟨(W * H).toNat - 1, by omega⟩
   rw [hn]
   exact List.length_pos_of_mem (distX_mem xs n)
  have hc := distX_clear (xs := xs) (W * H).toNat (by rw [hwh]; exact hcl)
  have hp := allN_pos hc _ hL1' (Nat.le_refl _)
  have e : pal0G W H xs = palV (allN (distX xs (W * H).toNat) (distX xs (W * H).toNat).length) 256 := by
   unfold pal0G palR
   rw [hg1, if_pos hb, if_neg (by simp)]; rfl
  rw [e]
  unfold palV
  split
  ·exact hp
  ·rename_i hm
   rw [List.length_map, (spN_ok _ (by omega)).len]; omega
end Go.Proofs.Ytiiaihiliimcoaa
namespace Go.Proofs.Ytiiaihiliimcoaa
open Go Go.Vc
set_option maxRecDepth 100000
def vc_gif_Encode (x1 x2 : Int) (sa1 : Option Addr) (sl1 sc1 : Nat) (w : World) (R : Ending → World → Prop) : Prop :=
 ∀ k1 : Nat,
 w.heap.size ≤ k1 →
 ∀ w1 : World,
 Locl [k1] w w1 →
 Calls P F.raster_Good #[.agg #[.int .i64 x1, .int .i64 x2, .slice sa1 sl1 sc1]] w1 fun e1 w2 =>
 ∃ c1 : Bool,
 (e1 = .returned (.bool c1)) ∧
 Keep [k1] w1 w2 ∧
 brB (!c1)
 (R (.returned (.tuple #[.slice none 0 0, .int .i64 6])) w2)
 (∃ I1 : List Value → World → Prop,
 ∃ m1 : List Value → World → Nat,
 (I1 [.bool false, .int .i64 3] w2) ∧
 ∀ (c2 : Bool) (n1 : Int) (w3 : World),
 (I1 [.bool c2, .int .i64 n1] w3) →
 brB (decide (n1 < (sl1 : Int)))
 (∃ I2 : List Value → World → Prop,
 (brB (c2)
 (I2 [.bool true] w3)
 (idx (sa1) (sl1) (n1) (1) fun a1 =>
 ∃ n2 : Int,
 (w3.cell? a1 = some (.int .u16 n2)) ∧
 I2 [.bool (decide (n2 < 32768))] w3)) ∧
 ∀ (c3 : Bool) (w4 : World),
 (I2 [.bool c3] w4) →
 (I1 [.bool c3, .int .i64 (IntKind.i64.wrap (n1 + 4))] w4) ∧
 m1 [.bool c3, .int .i64 (IntKind.i64.wrap (n1 + 4))] w4 < m1 [.bool c2, .int .i64 n1] w3)
 (∃ I3 : List Value → World → Prop,
 (brB (c2)
 (I3 [.int .i64 255] w3)
 (I3 [.int .i64 256] w3)) ∧
 ∀ (n3 : Int) (w5 : World),
 (I3 [.int .i64 n3] w5) →
 Calls P F.quant_Palette #[.agg #[.int .i64 x1, .int .i64 x2, .slice sa1 sl1 sc1], .int .i64 n3] w5 fun e2 w6 =>
 ∃ (p1 : Option Addr) (k2 k3 : Nat) (n4 : Int),
 (e2 = .returned (.tuple #[.slice p1 k2 k3, .int .i64 n4])) ∧
 Keep [k1] w5 w6 ∧
 ∃ I4 : List Value → World → Prop,
 (brB (c2)
 (∀ k4 : Nat,
 w6.heap.size ≤ k4 →
 ∀ w7 : World,
 Locl [k4, k1] w6 w7 →
 appVC (w7) ([(51, k4, [.int .u16 0, .int .u16 0, .int .u16 0, .int .u16 0]), (1, k1, [.int .i64 x1, .int .i64 x2, .slice sa1 sl1 sc1])]) (p1) (k2) (k3) (1) (4) (8) (53) ([.int .u16 0, .int .u16 0, .int .u16 0, .int .u16 0]) ([.int .u16 0, .int .u16 0, .int .u16 0, .int .u16 0]) fun p2 k5 k6 w8 =>
 I4 [.slice p2 k5 k6] w8)
 (I4 [.slice p1 k2 k3] w6)) ∧
 ∀ (p3 : Option Addr) (k7 k8 : Nat) (w9 : World),
 (I4 [.slice p3 k7 k8] w9) →
 Calls P F.quant_Apply #[.agg #[.int .i64 x1, .int .i64 x2, .slice sa1 sl1 sc1], .slice p3 k7 k8] w9 fun e3 w10 =>
 ∃ (n5 n6 : Int) (p4 : Option Addr) (k9 k10 : Nat) (p5 : Option Addr) (k11 k12 : Nat) (n7 : Int),
 (e3 = .returned (.tuple #[.agg #[.int .i64 n5, .int .i64 n6, .slice p4 k9 k10, .slice p5 k11 k12], .int .i64 n7])) ∧
 Keep [k1] w9 w10 ∧
 ∀ k13 : Nat,
 w10.heap.size ≤ k13 →
 ∃ I5 : List Value → World → Prop,
 (brB (c2)
 (∃ I6 : List Value → World → Prop,
 (slcc (p3) (k8) (0) (IntKind.i64.wrap ((k7 : Int) - 1)) (4) fun p6 k14 k15 =>
 (∀ w11 : World,
 Locl [k13, k1] w10 w11 →
 Calls P F.quant_Apply #[.agg #[.int .i64 x1, .int .i64 x2, .slice sa1 sl1 sc1], .slice p6 k14 k15] w11 fun e4 w12 =>
 ∃ (n8 n9 : Int) (p7 : Option Addr) (k16 k17 : Nat) (p8 : Option Addr) (k18 k19 : Nat) (n10 : Int),
 (e4 = .returned (.tuple #[.agg #[.int .i64 n8, .int .i64 n9, .slice p7 k16 k17, .slice p8 k18 k19], .int .i64 n10])) ∧
 Keep [k13, k1] w11 w12 ∧
 ∀ k20 : Nat,
 w12.heap.size ≤ k20 →
 ∀ w13 : World,
 Locl [k20, k13, k1] w12 w13 →
 I6 [.int .i64 n10, .pointer (some { block := k20, off := 0 }), .int .i64 n8, .int .i64 n9, .slice p7 k16 k17, .slice p8 k18 k19] w13) ∧
 ∀ k21 : Nat,
 w10.heap.size ≤ k21 →
 ∀ w14 : World,
 Locl [k21, k13, k1] w10 w14 →
 Calls P F.quant_Apply #[.agg #[.int .i64 x1, .int .i64 x2, .slice sa1 sl1 sc1], .slice p6 k14 k15] w14 fun e5 w15 =>
 ∃ (n11 n12 : Int) (p9 : Option Addr) (k22 k23 : Nat) (p10 : Option Addr) (k24 k25 : Nat) (n13 : Int),
 (e5 = .returned (.tuple #[.agg #[.int .i64 n11, .int .i64 n12, .slice p9 k22 k23, .slice p10 k24 k25], .int .i64 n13])) ∧
 Keep [k21, k13, k1] w14 w15 ∧
 ∀ w16 : World,
 Locl [k21, k13, k1] w15 w16 →
 I6 [.int .i64 n13, .pointer (some { block := k21, off := 0 }), .int .i64 n11, .int .i64 n12, .slice p9 k22 k23, .slice p10 k24 k25] w16) ∧
 ∀ (n14 : Int) (k26 : Nat) (n15 n16 : Int) (p11 : Option Addr) (k27 k28 : Nat) (p12 : Option Addr) (k29 k30 : Nat) (w17 : World),
 (I6 [.int .i64 n14, .pointer (some { block := k26, off := 0 }), .int .i64 n15, .int .i64 n16, .slice p11 k27 k28, .slice p12 k29 k30] w17) →
 ∃ (I7 : List Value → World → Prop) (m2 : List Value → World → Nat),
 (I7 [.int .i64 0] w17) ∧
 ∀ (n17 : Int) (w18 : World),
 (I7 [.int .i64 n17] w18) →
 brB (decide (n17 < (k11 : Int)))
 (∃ I8 : List Value → World → Prop,
 (brB (n14 == 0)
 (idx (sa1) (sl1) (IntKind.i64.wrap (IntKind.i64.wrap (4 * n17) + 3)) (1) fun a2 =>
 ∃ n18 : Int,
 (w18.cell? a2 = some (.int .u16 n18)) ∧
 brB (decide (n18 ≥ 32768))
 (idx (p12) (k29) (n17) (1) fun a3 =>
 ∃ n19 : Int,
 (w18.drew.cell? a3 = some (.int .u8 n19)) ∧
 idx (p5) (k11) (n17) (1) fun a4 =>
 (∃ v1 : Value,
 w18.drew.cell? a4 = some v1) ∧
 (w18.drew.frozen? a4 = false) ∧
 (¬a4.block ∈ [k26, k13, k1]) ∧
 I8 [] (setCells w18.drew a4 [.int .u8 n19] 0))
 (I8 [] w18))
 (I8 [] w18)) ∧
 ∀ w19 : World,
 (I8 [] w19) →
 (I7 [.int .i64 (IntKind.i64.wrap (n17 + 1))] w19) ∧
 m2 [.int .i64 (IntKind.i64.wrap (n17 + 1))] w19 < m2 [.int .i64 n17] w18)
 (I5 [] w18))
 (∀ w20 : World,
 Locl [k13, k1] w10 w20 →
 I5 [] w20)) ∧
 ∀ w21 : World,
 (I5 [] w21) →
 ∃ (I9 : List Value → World → Prop) (m3 : List Value → World → Nat),
 (I9 [.int .i64 1] w21) ∧
 ∀ (n20 : Int) (w22 : World),
 (I9 [.int .i64 n20] w22) →
 (0 ≤ n20) ∧
 brB (decide (shiftZ .shl .i64 1 n20 < (k7 : Int)))
 ((I9 [.int .i64 (IntKind.i64.wrap (n20 + 1))] w22) ∧
 m3 [.int .i64 (IntKind.i64.wrap (n20 + 1))] w22 < m3 [.int .i64 n20] w22)
 (∀ k31 : Nat,
 ∀ w23 : World,
 (New w22 (Obj.cells #[.int .u8 71, .int .u8 73, .int .u8 70, .int .u8 56, .int .u8 57, .int .u8 97] 5) k31 w23) →
 ∃ (y1 : Array Value) (y2 : TypeId),
 (w23.heap[k31]? = some (Obj.cells y1 y2)) ∧
 (¬k31 ∈ [k13, k1]) ∧
 ∀ w24 : World,
 (Mk k31 w23 w24) →
 ∀ (k32 : Nat) (w25 : World),
 (New w24 (Obj.cells #[.slice none 0 0] 22) k32 w25) →
 (∃ v2 : Value,
 w25.cell? { block := k32, off := 0 } = some v2) ∧
 (w25.frozen? { block := k32, off := 0 } = false) ∧
 (¬k32 ∈ [k13, k1]) ∧
 Calls P F.gif_Encode_fn1 #[.int .i64 x1, .pointer (some { block := k32, off := 0 })] (setCells w25 { block := k32, off := 0 } [.slice (some { block := k31, off := 0 }) 6 6] 0) fun e6 w26 =>
 (e6 = .returned (.tuple #[])) ∧
 (Keep ([k13, k1]) (setCells w25 { block := k32, off := 0 } [.slice (some { block := k31, off := 0 }) 6 6] 0) w26) ∧
 Calls P F.gif_Encode_fn1 #[.int .i64 x2, .pointer (some { block := k32, off := 0 })] w26 fun e7 w27 =>
 (e7 = .returned (.tuple #[])) ∧
 Keep [k13, k1] w26 w27 ∧
 ∃ (p13 : Option Addr) (k33 k34 : Nat),
 (w27.cell? { block := k32, off := 0 } = some (.slice p13 k33 k34)) ∧
 ∀ k35 : Nat,
 w27.heap.size ≤ k35 →
 ∀ w28 : World,
 Locl [k35, k13, k1] w27 w28 →
 appVC (w28) ([(121, k35, [.int .u8 (IntKind.u8.wrap (IntKind.i64.wrap (IntKind.i64.wrap (bitsZ .or .i64 128 n20) - 1))), .int .u8 0, .int .u8 0]), (9, k13, [.int .i64 n5, .int .i64 n6, .slice p4 k9 k10, .slice p5 k11 k12]), (1, k1, [.int .i64 x1, .int .i64 x2, .slice sa1 sl1 sc1])]) (p13) (k33) (k34) (3) (1) (1) (5) ([.int .u8 0]) ([.int .u8 (IntKind.u8.wrap (IntKind.i64.wrap (IntKind.i64.wrap (bitsZ .or .i64 128 n20) - 1))), .int .u8 0, .int .u8 0]) fun p14 k36 k37 w29 =>
 (∃ v3 : Value,
 w29.cell? { block := k32, off := 0 } = some v3) ∧
 (w29.frozen? { block := k32, off := 0 } = false) ∧
 (¬k32 ∈ [k35, k13, k1]) ∧
 (0 ≤ n20) ∧
 ∃ (I10 : List Value → World → Prop) (m4 : List Value → World → Nat),
 (I10 [.int .i64 0] (setCells w29 { block := k32, off := 0 } [.slice p14 k36 k37] 0)) ∧
 ∀ (n21 : Int) (w30 : World),
 (I10 [.int .i64 n21] w30) →
 brB (decide (n21 < shiftZ .shl .i64 1 n20))
 (idx (p3) (k7) (0) (4) fun a5 =>
 ∃ n22 n23 n24 n25 : Int,
 (w30.cell? a5 = some (.int .u16 n22)) ∧
 (w30.cell? (a5.add 1) = some (.int .u16 n23)) ∧
 (w30.cell? (a5.add 2) = some (.int .u16 n24)) ∧
 (w30.cell? (a5.add 3) = some (.int .u16 n25)) ∧
 ∀ k38 : Nat,
 w30.heap.size ≤ k38 →
 ∃ I11 : List Value → World → Prop,
 (brB (decide (n21 < (k7 : Int)))
 (idx (p3) (k7) (n21) (4) fun a6 =>
 ∀ w31 : World,
 Locl [k38, k35, k13, k1] w30 w31 →
 ∃ n26 : Int,
 (w31.cell? (a6.add 3) = some (.int .u16 n26)) ∧
 brB (n26 != 0)
 (idx (p3) (k7) (n21) (4) fun a7 =>
 ∃ n27 n28 n29 n30 : Int,
 (w31.cell? a7 = some (.int .u16 n27)) ∧
 (w31.cell? (a7.add 1) = some (.int .u16 n28)) ∧
 (w31.cell? (a7.add 2) = some (.int .u16 n29)) ∧
 (w31.cell? (a7.add 3) = some (.int .u16 n30)) ∧
 ∀ w32 : World,
 Locl [k38, k35, k13, k1] w31 w32 →
 I11 [.int .u16 n27, .int .u16 n28, .int .u16 n29, .int .u16 n30] w32)
 (I11 [.int .u16 n22, .int .u16 n23, .int .u16 n24, .int .u16 n25] w31))
 (∀ w33 : World,
 Locl [k38, k35, k13, k1] w30 w33 →
 I11 [.int .u16 n22, .int .u16 n23, .int .u16 n24, .int .u16 n25] w33)) ∧
 ∀ (n31 n32 n33 n34 : Int) (w34 : World),
 (I11 [.int .u16 n31, .int .u16 n32, .int .u16 n33, .int .u16 n34] w34) →
 ∃ (p15 : Option Addr) (k39 k40 : Nat),
 (w34.cell? { block := k32, off := 0 } = some (.slice p15 k39 k40)) ∧
 ∀ k41 : Nat,
 w34.heap.size ≤ k41 →
 ∀ w35 : World,
 Locl [k41, k38, k35, k13, k1] w34 w35 →
 appVC (w35) ([(160, k41, [.int .u8 (IntKind.u8.wrap (shiftZ .shr .u16 n31 8)), .int .u8 (IntKind.u8.wrap (shiftZ .shr .u16 n32 8)), .int .u8 (IntKind.u8.wrap (shiftZ .shr .u16 n33 8))]), (18, k38, [.int .u16 n31, .int .u16 n32, .int .u16 n33, .int .u16 n34]), (121, k35, [.int .u8 (IntKind.u8.wrap (IntKind.i64.wrap (IntKind.i64.wrap (bitsZ .or .i64 128 n20) - 1))), .int .u8 0, .int .u8 0]), (9, k13, [.int .i64 n5, .int .i64 n6, .slice p4 k9 k10, .slice p5 k11 k12]), (1, k1, [.int .i64 x1, .int .i64 x2, .slice sa1 sl1 sc1])]) (p15) (k39) (k40) (3) (1) (1) (5) ([.int .u8 0]) ([.int .u8 (IntKind.u8.wrap (shiftZ .shr .u16 n31 8)), .int .u8 (IntKind.u8.wrap (shiftZ .shr .u16 n32 8)), .int .u8 (IntKind.u8.wrap (shiftZ .shr .u16 n33 8))]) fun p16 k42 k43 w36 =>
 (∃ v4 : Value,
 w36.cell? { block := k32, off := 0 } = some v4) ∧
 (w36.frozen? { block := k32, off := 0 } = false) ∧
 (¬k32 ∈ [k41, k38, k35, k13, k1]) ∧
 (I10 [.int .i64 (IntKind.i64.wrap (n21 + 1))] (setCells w36 { block := k32, off := 0 } [.slice p16 k42 k43] 0)) ∧
 m4 [.int .i64 (IntKind.i64.wrap (n21 + 1))] (setCells w36 { block := k32, off := 0 } [.slice p16 k42 k43] 0) < m4 [.int .i64 n21] w30)
 (∃ I12 : List Value → World → Prop,
 (brB (c2)
 (∃ p17 : Option Addr,
 ∃ k44 k45 : Nat,
 (w30.cell? { block := k32, off := 0 } = some (.slice p17 k44 k45)) ∧
 ∀ k46 : Nat,
 w30.heap.size ≤ k46 →
 ∀ w37 : World,
 Locl [k46, k35, k13, k1] w30 w37 →
 appVC (w37) ([(169, k46, [.int .u8 33, .int .u8 249, .int .u8 4, .int .u8 1, .int .u8 0, .int .u8 0, .int .u8 (IntKind.u8.wrap (IntKind.i64.wrap ((k7 : Int) - 1))), .int .u8 0]), (121, k35, [.int .u8 (IntKind.u8.wrap (IntKind.i64.wrap (IntKind.i64.wrap (bitsZ .or .i64 128 n20) - 1))), .int .u8 0, .int .u8 0]), (9, k13, [.int .i64 n5, .int .i64 n6, .slice p4 k9 k10, .slice p5 k11 k12]), (1, k1, [.int .i64 x1, .int .i64 x2, .slice sa1 sl1 sc1])]) (p17) (k44) (k45) (8) (1) (1) (5) ([.int .u8 0]) ([.int .u8 33, .int .u8 249, .int .u8 4, .int .u8 1, .int .u8 0, .int .u8 0, .int .u8 (IntKind.u8.wrap (IntKind.i64.wrap ((k7 : Int) - 1))), .int .u8 0]) fun p18 k47 k48 w38 =>
 (∃ v5 : Value,
 w38.cell? { block := k32, off := 0 } = some v5) ∧
 (w38.frozen? { block := k32, off := 0 } = false) ∧
 (¬k32 ∈ [k46, k35, k13, k1]) ∧
 I12 [] (setCells w38 { block := k32, off := 0 } [.slice p18 k47 k48] 0))
 (I12 [] w30)) ∧
 ∀ w39 : World,
 (I12 [] w39) →
 ∃ (p19 : Option Addr) (k49 k50 : Nat),
 (w39.cell? { block := k32, off := 0 } = some (.slice p19 k49 k50)) ∧
 ∀ k51 : Nat,
 w39.heap.size ≤ k51 →
 ∀ w40 : World,
 Locl [k51, k35, k13, k1] w39 w40 →
 appVC (w40) ([(172, k51, [.int .u8 44, .int .u8 0, .int .u8 0, .int .u8 0, .int .u8 0]), (121, k35, [.int .u8 (IntKind.u8.wrap (IntKind.i64.wrap (IntKind.i64.wrap (bitsZ .or .i64 128 n20) - 1))), .int .u8 0, .int .u8 0]), (9, k13, [.int .i64 n5, .int .i64 n6, .slice p4 k9 k10, .slice p5 k11 k12]), (1, k1, [.int .i64 x1, .int .i64 x2, .slice sa1 sl1 sc1])]) (p19) (k49) (k50) (5) (1) (1) (5) ([.int .u8 0]) ([.int .u8 44, .int .u8 0, .int .u8 0, .int .u8 0, .int .u8 0]) fun p20 k52 k53 w41 =>
 (∃ v6 : Value,
 w41.cell? { block := k32, off := 0 } = some v6) ∧
 (w41.frozen? { block := k32, off := 0 } = false) ∧
 (¬k32 ∈ [k51, k35, k13, k1]) ∧
 Calls P F.gif_Encode_fn1 #[.int .i64 x1, .pointer (some { block := k32, off := 0 })] (setCells w41 { block := k32, off := 0 } [.slice p20 k52 k53] 0) fun e8 w42 =>
 (e8 = .returned (.tuple #[])) ∧
 (Keep ([k51, k35, k13, k1]) (setCells w41 { block := k32, off := 0 } [.slice p20 k52 k53] 0) w42) ∧
 Calls P F.gif_Encode_fn1 #[.int .i64 x2, .pointer (some { block := k32, off := 0 })] w42 fun e9 w43 =>
 (e9 = .returned (.tuple #[])) ∧
 Keep [k51, k35, k13, k1] w42 w43 ∧
 Calls P F.lzw_GifPack #[.slice p5 k11 k12, .int .i64 (max n20 2)] w43 fun e10 w44 =>
 ∃ (p21 : Option Addr) (k54 k55 : Nat) (n35 : Int),
 (e10 = .returned (.tuple #[.slice p21 k54 k55, .int .i64 n35])) ∧
 Keep [k51, k35, k13, k1] w43 w44 ∧
 ∃ (p22 : Option Addr) (k56 k57 : Nat),
 (w44.cell? { block := k32, off := 0 } = some (.slice p22 k56 k57)) ∧
 ∀ k58 : Nat,
 w44.heap.size ≤ k58 →
 ∀ w45 : World,
 Locl [k58, k51, k35, k13, k1] w44 w45 →
 appVC (w45) ([(194, k58, [.int .u8 0, .int .u8 (IntKind.u8.wrap (max n20 2))]), (172, k51, [.int .u8 44, .int .u8 0, .int .u8 0, .int .u8 0, .int .u8 0]), (121, k35, [.int .u8 (IntKind.u8.wrap (IntKind.i64.wrap (IntKind.i64.wrap (bitsZ .or .i64 128 n20) - 1))), .int .u8 0, .int .u8 0]), (9, k13, [.int .i64 n5, .int .i64 n6, .slice p4 k9 k10, .slice p5 k11 k12]), (1, k1, [.int .i64 x1, .int .i64 x2, .slice sa1 sl1 sc1])]) (p22) (k56) (k57) (2) (1) (1) (5) ([.int .u8 0]) ([.int .u8 0, .int .u8 (IntKind.u8.wrap (max n20 2))]) fun p23 k59 k60 w46 =>
 (∃ v7 : Value,
 w46.cell? { block := k32, off := 0 } = some v7) ∧
 (w46.frozen? { block := k32, off := 0 } = false) ∧
 (¬k32 ∈ [k58, k51, k35, k13, k1]) ∧
 Calls P F.slices_Chunk_byte #[.slice p21 k54 k55, .int .i64 255] (setCells w46 { block := k32, off := 0 } [.slice p23 k59 k60] 0) fun e11 w47 =>
 ∃ (y3 : FuncId) (y4 y5 : Array Value),
 (e11 = .returned (.func (Fn.func y3) y4 y5)) ∧
 (Keep ([k58, k51, k35, k13, k1]) (setCells w46 { block := k32, off := 0 } [.slice p23 k59 k60] 0) w47) ∧
 ∀ (k61 : Nat) (w48 : World),
 (Rf w47 w48 k61) →
 ∀ (I13 : List Value → World → Prop) (Z1 : Exit → List Value → World → Prop),
 (∀ l1 : List Value,
 ∀ w49 w50 : World,
 (I13 l1 w49) →
 (Keep ([k61, w47.heap.size, k58, k51, k35, k13, k1]) w49 w50) →
 I13 l1 w50) →
 (∀ y6 : Exit,
 ∀ (l2 : List Value) (w51 w52 : World),
 (Z1 y6 l2 w51) →
 (Keep ([k61, w47.heap.size, k58, k51, k35, k13, k1]) w51 w52) →
 Z1 y6 l2 w52) →
 (I13 [] w48) →
 (∀ p24 : Option Addr,
 ∀ (k62 k63 : Nat) (w53 : World) (I14 : Ending → World → Prop),
 (I13 [] w53) →
 (∀ y7 : Obj,
 ∀ (y8 : Obj) (w54 : World),
 (Put k61 w53 w54) →
 ∃ (p25 : Option Addr) (k64 k65 : Nat),
 (w54.cell? { block := k32, off := 0 } = some (.slice p25 k64 k65)) ∧
 ∀ k66 : Nat,
 w54.heap.size ≤ k66 →
 ∀ w55 : World,
 Locl [k66, k58, k51, k35, k13, k1] w54 w55 →
 appVC (w55) ([(203, k66, [.int .u8 (IntKind.u8.wrap (k62 : Int))]), (194, k58, [.int .u8 0, .int .u8 (IntKind.u8.wrap (max n20 2))]), (172, k51, [.int .u8 44, .int .u8 0, .int .u8 0, .int .u8 0, .int .u8 0]), (121, k35, [.int .u8 (IntKind.u8.wrap (IntKind.i64.wrap (IntKind.i64.wrap (bitsZ .or .i64 128 n20) - 1))), .int .u8 0, .int .u8 0]), (9, k13, [.int .i64 n5, .int .i64 n6, .slice p4 k9 k10, .slice p5 k11 k12]), (1, k1, [.int .i64 x1, .int .i64 x2, .slice sa1 sl1 sc1])]) (p25) (k64) (k65) (1) (1) (1) (5) ([.int .u8 0]) ([.int .u8 (IntKind.u8.wrap (k62 : Int))]) fun p26 k67 k68 w56 =>
 ∃ l3 : List Value,
 (l3.length = k62 * 1) ∧
 (oneAll l3 = true) ∧
 (CellsAre w56 p24 l3) ∧
 appVC (w56) ([(203, k66, [.int .u8 (IntKind.u8.wrap (k62 : Int))]), (194, k58, [.int .u8 0, .int .u8 (IntKind.u8.wrap (max n20 2))]), (172, k51, [.int .u8 44, .int .u8 0, .int .u8 0, .int .u8 0, .int .u8 0]), (121, k35, [.int .u8 (IntKind.u8.wrap (IntKind.i64.wrap (IntKind.i64.wrap (bitsZ .or .i64 128 n20) - 1))), .int .u8 0, .int .u8 0]), (9, k13, [.int .i64 n5, .int .i64 n6, .slice p4 k9 k10, .slice p5 k11 k12]), (1, k1, [.int .i64 x1, .int .i64 x2, .slice sa1 sl1 sc1])]) (p26) (k67) (k68) (k62) (1) (1) (5) ([.int .u8 0]) (l3) fun p27 k69 k70 w57 =>
 (∃ v8 : Value,
 w57.cell? { block := k32, off := 0 } = some v8) ∧
 (w57.frozen? { block := k32, off := 0 } = false) ∧
 (¬k32 ∈ [k66, k58, k51, k35, k13, k1]) ∧
 ∀ w58 : World,
 (Put k61 (setCells w57 { block := k32, off := 0 } [.slice p27 k69 k70] 0) w58) →
 (I13 [] w58) →
 I14 (.returned (.bool true)) w58) →
 YieldAt Fence.wide 0 P (k61) #[.slice p24 k62 k63] (w53) I14) →
 callF P (.func (Fn.func y3) y4 y5) [.func (Fn.yield k61) #[] #[]] w48 fun e12 w59 =>
 ∃ v9 : Value,
 (e12 = .returned v9) ∧
 (((I13 [] w59) ∧
 ∀ w60 : World,
 (Put k61 w59 w60) →
 ∃ (p28 : Option Addr) (k71 k72 : Nat),
 (w60.cell? { block := k32, off := 0 } = some (.slice p28 k71 k72)) ∧
 ∀ k73 : Nat,
 w60.heap.size ≤ k73 →
 ∀ w61 : World,
 Locl [k73, k58, k51, k35, k13, k1] w60 w61 →
 appVC (w61) ([(208, k73, [.int .u8 0, .int .u8 59]), (194, k58, [.int .u8 0, .int .u8 (IntKind.u8.wrap (max n20 2))]), (172, k51, [.int .u8 44, .int .u8 0, .int .u8 0, .int .u8 0, .int .u8 0]), (121, k35, [.int .u8 (IntKind.u8.wrap (IntKind.i64.wrap (IntKind.i64.wrap (bitsZ .or .i64 128 n20) - 1))), .int .u8 0, .int .u8 0]), (9, k13, [.int .i64 n5, .int .i64 n6, .slice p4 k9 k10, .slice p5 k11 k12]), (1, k1, [.int .i64 x1, .int .i64 x2, .slice sa1 sl1 sc1])]) (p28) (k71) (k72) (2) (1) (1) (5) ([.int .u8 0]) ([.int .u8 0, .int .u8 59]) fun p29 k74 k75 w62 =>
 ∀ w63 : World,
 (Put (w47.heap.size) w62 w63) →
 R (.returned (.tuple #[.slice p29 k74 k75, .int .i64 0])) w63) ∨
 (False))))))
theorem calls_gif_Encode (x1 x2 : Int) (sa1 : Option Addr) (sl1 sc1 : Nat) (w : World) (R : Ending → World → Prop) (h : vc_gif_Encode x1 x2 sa1 sl1 sc1 w R) : Calls P F.gif_Encode #[.agg #[.int .i64 x1, .int .i64 x2, .slice sa1 sl1 sc1]] w R :=
  calls_of_vc (ac := ac_gif_Encode) mixed Try.func7 (by kernel_rfl) (cast (by unfold vc_gif_Encode FnVc; kernel_rfl) h)
end Go.Proofs.Ytiiaihiliimcoaa
namespace Go.Proofs.Ytiiaihiliimcoaa
open Go Go.Vc Go.RowKit Go.Qn
set_option maxRecDepth 100000
set_option maxHeartbeats 4000000
theorem palR_len {W H most : Int} {xs : List Int} : (palR W H xs most).1.length ≤ 256 := by
 unfold palR
 split
 ·split
  ·simp
  ·show (palV _ most).length ≤ 256
   unfold palV
   split
   ·omega
   ·rw [List.length_map, (spN_ok (most.toNat - 1) (by omega)).len]; omega
 ·simp
theorem palR_most {W H most : Int} {xs : List Int} : (palR W H xs most).1.length ≤ most.toNat := by
 unfold palR
 split
 ·split
  ·simp
  ·show (palV _ most).length ≤ most.toNat
   unfold palV
   split
   ·omega
   ·rw [List.length_map, (spN_ok (most.toNat - 1) (by omega)).len]; omega
 ·simp
theorem sizeG_is {s n : Nat} (h1 : 1 ≤ s) (h8 : s ≤ 8) (hn : n ≤ 2 ^ s) (hs : s = 1 ∨ 2 ^ (s - 1) < n) : sizeG n = s := by
 have : s = 1 ∨ s = 2 ∨ s = 3 ∨ s = 4 ∨ s = 5 ∨ s = 6 ∨ s = 7 ∨ s = 8 := by omega
 unfold sizeG
 rcases this with rfl | rfl | rfl | rfl | rfl | rfl | rfl | rfl <;> simp only [Nat.reducePow, Nat.reduceSub] at hn hs <;> (repeat' split) <;> omega
theorem or128 : ∀ s, s < 9 → 1 ≤ s → IntKind.u8.wrap (IntKind.i64.wrap (IntKind.i64.wrap (bitsZ .or .i64 128 ((s : Nat) : Int)) - 1)) = ((127 + s : Nat) : Int) := by decide +kernel
theorem shl1n : ∀ n, n < 10 → shiftZ .shl .i64 1 ((n : Nat) : Int) = ((2 ^ n : Nat) : Int) := by decide +kernel
theorem appR_len {W H : Int} {xs : List Int} {pal : List Co} : (appR W H xs pal).2.2.2.1.length ≤ (W * H).toNat ∧ ((appR W H xs pal).2.2.2.2 = 0 → (appR W H xs pal).2.2.2.1.length = (W * H).toNat) := by
 unfold appR
 split
 ·split
  ·exact ⟨by simp, fun h => by cases h⟩
  ·exact ⟨by simp [colsOf_length], fun _ => by simp [colsOf_length]⟩
 ·exact ⟨by simp, fun h => by cases h⟩
theorem idxU_zero (W H : Int) (xs : List Int) : idxU W H xs 0 = (appR W H xs (palG W H xs)).2.2.2.1 := by
 unfold idxU
 refine List.ext_getElem (by simp) fun i h1 h2 => ?_
 simp [List.getD, h2]
theorem idxU_len (W H : Int) (xs : List Int) (n : Nat) : (idxU W H xs n).length = (appR W H xs (palG W H xs)).2.2.2.1.length := by simp [idxU]
theorem idxU_succ (W H : Int) (xs : List Int) {n : Nat} (hn : n < (appR W H xs (palG W H xs)).2.2.2.1.length) :
  idxU W H xs (n + 1) = if (appR W H xs (pal0G W H xs)).2.2.2.2 = 0 ∧ 32768 ≤ xs.getD (4 * n + 3) 0 then (idxU W H xs n).set n ((appR W H xs (pal0G W H xs)).2.2.2.1.getD n 0) else idxU W H xs n := by
 have e : ∀ j, j < (appR W H xs (palG W H xs)).2.2.2.1.length → ∀ m, (idxU W H xs m)[j]? = some (if j < m ∧ (appR W H xs (pal0G W H xs)).2.2.2.2 = 0 ∧ 32768 ≤ xs.getD (4 * j + 3) 0 then (appR W H xs (pal0G W H xs)).2.2.2.1.getD j 0 else (appR W H xs (palG W H xs)).2.2.2.1.getD j 0) := fun j hj m => by
  simp [idxU, hj]
 refine List.ext_getElem? fun j => ?_
 rcases Nat.lt_or_ge j (appR W H xs (palG W H xs)).2.2.2.1.length with hj | hj
 ·rw [e j hj]
  by_cases hc : (appR W H xs (pal0G W H xs)).2.2.2.2 = 0 ∧ 32768 ≤ xs.getD (4 * n + 3) 0
  ·rw [if_pos hc, List.getElem?_set, idxU_len]
   by_cases hjn : n = j
   ·subst hjn
    rw [if_pos ⟨by omega, hc⟩, if_pos rfl, if_pos hn]
   ·rw [if_neg hjn, e j hj]
    congr 1
    by_cases hlt : j < n
    ·simp only [hlt, show j < n + 1 by omega]
    ·simp only [hlt, show ¬ j < n + 1 by omega]
  ·rw [if_neg hc, e j hj]
   congr 1
   by_cases hjn : j = n
   ·subst hjn
    rw [if_neg (fun g => hc g.2), if_neg (fun g => hc g.2)]
   ·by_cases hlt : j < n
    ·simp only [hlt, show j < n + 1 by omega]
    ·simp only [hlt, show ¬ j < n + 1 by omega]
 ·have l1 := idxU_len W H xs (n + 1)
  have l2 := idxU_len W H xs n
  rw [List.getElem?_eq_none (by omega)]
  split
  ·rw [List.getElem?_eq_none (by rw [List.length_set]; omega)]
  ·rw [List.getElem?_eq_none (by omega)]
theorem idxV_byte (pal : List Co) (c : Co) : 0 ≤ idxV pal c ∧ idxV pal c ≤ 255 := by
 have hm : ∀ y : Int, IntKind.u8.wrap y = y % 256 := fun y => by rw [IntKind.wrap]; simp [IntKind.signed, IntKind.bits]
 unfold idxV
 rw [hm]; omega
theorem appR_bs (W H : Int) (xs : List Int) (pal : List Co) : Bs (appR W H xs pal).2.2.2.1 := by
 intro n hn
 unfold appR at hn
 split at hn
 ·split at hn
  ·cases hn
  ·obtain ⟨c, _, rfl⟩ := List.mem_map.1 hn
   exact idxV_byte _ _
 ·cases hn
theorem bs_getD0 {l : List Int} (h : Bs l) (i : Nat) : 0 ≤ l.getD i 0 ∧ l.getD i 0 ≤ 255 := by
 rcases Nat.lt_or_ge i l.length with g | g
 ·have e : l.getD i 0 = l[i] := by simp [List.getD, g]
  rw [e]; exact h _ (List.getElem_mem g)
 ·have e : l.getD i 0 = 0 := by simp [List.getD, g]
  rw [e]; omega
theorem idxG_bs (W H : Int) (xs : List Int) : Bs (idxG W H xs) := by
 unfold idxG
 split
 ·intro n hn
  unfold idxU at hn
  obtain ⟨i, _, rfl⟩ := List.mem_map.1 hn
  split
  ·exact bs_getD0 (appR_bs _ _ _ _) i
  ·exact bs_getD0 (appR_bs _ _ _ _) i
 ·exact appR_bs _ _ _ _
theorem idxG_len (W H : Int) (xs : List Int) : (idxG W H xs).length = (appR W H xs (palG W H xs)).2.2.2.1.length := by
 unfold idxG
 split
 ·exact idxU_len _ _ _ _
 ·rfl
theorem bytes_set (xs : List Int) (i : Nat) (x : Int) : bytes (xs.set i x) = (bytes xs).set i (u8 x) := by simp [bytes]
theorem entG_succ (pal : List Co) (n : Nat) : entG pal (n + 1) = entG pal n ++ (let c := if n < pal.length ∧ (pal.getD n zeroC).2.2.2 ≠ 0 then pal.getD n zeroC else pal.getD 0 zeroC
 [c.1 / 256 % 256, c.2.1 / 256 % 256, c.2.2.1 / 256 % 256]) := by
 unfold entG
 rw [List.range_succ, List.map_append, List.flatten_append]; simp
theorem entG_len (pal : List Co) : ∀ n, (entG pal n).length = 3 * n
 | 0 => rfl
 | n + 1 => by rw [entG_succ, List.length_append, entG_len pal n]; simp; omega
theorem subU_succ (bs : List Int) (n : Nat) : subU bs (n + 1) = subU bs n ++ ((((min 255 (bs.length - 255 * n) : Nat) : Int)) :: part bs (255 * n) (min 255 (bs.length - 255 * n))) := by
 unfold subU
 rw [List.range_succ, List.map_append, List.flatten_append]; simp
theorem subU_len (bs : List Int) : ∀ n, (subU bs n).length ≤ 256 * n
 | 0 => by simp [subU]
 | n + 1 => by
  have := subU_len bs n
  rw [subU_succ, List.length_append, List.length_cons]
  have h2 : (part bs (255 * n) (min 255 (bs.length - 255 * n))).length ≤ 255 := by unfold part; rw [List.length_take]; omega
  omega
theorem gifPack_len {bs : List Int} {size : Nat} (hb : Bs bs) (h1 : 2 ≤ size) (h2 : size < 9) : (gifPackR bs (size : Nat)).1.length ≤ 3 * bs.length + 6 := by
 unfold gifPackR
 split
 ·simp
 ·split
  ·rename_i hf
   have hq : ∀ x ∈ bs, 0 ≤ x ∧ x < ((2 ^ size : Nat) : Int) := fun x hx => by
    have := List.all_eq_true.1 hf x hx
    have h3 := of_decide_eq_true this
    rw [Int.toNat_natCast] at h3
    exact ⟨(hb x hx).1, by simpa using h3⟩
   show (packL bs (2 ^ ((size : Nat) : Int).toNat) (((size : Nat) : Int).toNat + 1) 0 false).length ≤ _
   rw [Int.toNat_natCast]
   exact packL_len (pow8 size h1 h2).2 (wide_gif h1 h2) (by omega) hq
  ·simp
theorem Encode_spec {w : World} {p : Option Addr} {len cap : Nat} {W H : Int} {xs : List Int} {R : Ending → World → Prop} (h : Img w p len xs) (hc : len ≤ cap) (hok : PxOk xs)
  (hR : ∀ q c w', Ext w w' → OwnS (fun i => w.heap.size ≤ i) w' q (encR W H xs).1.length c 1 (bytes (encR W H xs).1) → R (.returned (.tuple #[.slice q (encR W H xs).1.length c, i64 (encR W H xs).2])) w') :
  Calls P F.gif_Encode #[.agg #[i64 W, i64 H, .slice p len cap]] w R := by
 refine calls_gif_Encode _ _ _ _ _ _ _ ?_
 intro k1 hk1 w1 hL1
 have hE1 : Ext w w1 := hL1.ext (by simpa using hk1)
 have t1 := hL1.there k1 (by simp)
 refine good_spec h.len fun w2 hE2 => ⟨_, rfl, hE2.keep _, ?_⟩
 have hE12 := hE1.trans hE2
 have s1 := hE1.size
 have s2 := hE2.size
 refine brB_i (fun hb => ?_) fun hb => ?_
 ·have hb : good W H xs = false := by simpa using hb
  have hd : encR W H xs = ([], 6) := by unfold encR; rw [if_neg (by simp [hb])]
  rw [hd] at hR
  exact hR none 0 w2 hE12 (OwnS.nil _ _ _ _)
 have hb : good W H xs = true := by simpa using hb
 have hd : encR W H xs = (encG W H xs, 0) := by unfold encR; rw [if_pos hb]
 rw [hd] at hR
 simp only at hR
 obtain ⟨hg, hxl⟩ := good_iff.1 hb
 obtain ⟨q1, q2, q3, q4, q5⟩ := gfits_iff.1 hg
 obtain ⟨Wn, rfl⟩ := Int.eq_ofNat_of_zero_le (show 0 ≤ W by omega)
 obtain ⟨Hn, rfl⟩ := Int.eq_ofNat_of_zero_le (show 0 ≤ H by omega)
 have hlen := h.len
 have eWH : ((Wn : Nat) : Int) * (Hn : Nat) = ((Wn * Hn : Nat) : Int) := by rw [Int.natCast_mul]
 rw [eWH] at hxl q5
 have hx4 : xs.length = 4 * (Wn * Hn) := by omega
 generalize hWH : Wn * Hn = nn_ at *
 have hget : ∀ {u : World} {j : Nat} {i : Int} {F : Addr → Prop}, Ext w u → i = j → j < xs.length → (∀ a, u.cell? a = some (u16 (xs.getD j 0)) → F a) → idx p len i 1 F := fun {u j i F} hE hi hj hF => by
  subst hi
  exact (h.sl.ext hE).get (by omega) (by rw [px_length]; omega) (by rw [Int.toNat_natCast]; exact px_get hj) hF
 refine ⟨fun vs u => u = w2 ∧ ∃ n : Nat, n ≤ nn_ ∧ vs = [.bool (goneU xs n), i64 ((4 * n + 3 : Nat) : Int)], fun vs _ => match vs with | [_, .int _ i] => (4 * nn_ + 8 - i).toNat | _ => 0, ⟨rfl, 0, by omega, rfl⟩, fun c2 n1 w3 hI => ?_⟩
 obtain ⟨rfl, n, hn, hv⟩ := hI
 simp only [List.cons.injEq, Value.bool.injEq, Value.int.injEq, true_and, and_true] at hv
 obtain ⟨rfl, rfl⟩ := hv
 refine brB_i (fun hlt => ?_) fun hge => ?_
 ·have hlt : n < nn_ := by have := of_decide_eq_true hlt; omega
  refine ⟨fun vs u => u = w3 ∧ vs = [.bool (goneU xs (n + 1))], ?_, fun c3 w4 hI => ?_⟩
  ·rw [goneU_succ]
   refine brB_i (fun hg1 => by rw [hg1]; exact ⟨rfl, rfl⟩) fun hg1 => ?_
   refine hget hE12 rfl (by omega) fun a ha => ⟨_, ha, rfl, ?_⟩
   rw [hg1, Bool.false_or]
  ·obtain ⟨rfl, hv⟩ := hI
   obtain rfl : c3 = goneU xs (n + 1) := by simpa using hv
   rw [w64 (by omega) (by omega)]
   exact ⟨⟨rfl, n + 1, hlt, by rw [show (((4 * n + 3 : Nat) : Int)) + 4 = ((4 * (n + 1) + 3 : Nat) : Int) by omega]⟩, by show (4 * (nn_ : Int) + 8 - (((4 * n + 3 : Nat) : Int) + 4)).toNat < (4 * (nn_ : Int) + 8 - ((4 * n + 3 : Nat) : Int)).toNat; omega⟩
 have : n = nn_ := by have := of_decide_eq_false hge; omega
 subst this
 have eg : goneU xs n = goneM xs := by unfold goneM; rw [hx4]; congr 1; omega
 rw [eg]
 refine ⟨fun vs u => u = w3 ∧ vs = [i64 (if goneM xs then 255 else 256)], brB_i (fun hg1 => ⟨rfl, by rw [hg1]; rfl⟩) fun hg1 => ⟨rfl, by rw [hg1]; rfl⟩, fun n3 w5 hI => ?_⟩
 obtain ⟨rfl, hv⟩ := hI
 obtain rfl : n3 = _ := by simpa using hv
 refine Palette_spec (h.ext hE12) hc hok fun pq qc w6 hf6 => ⟨_, _, _, _, rfl, hf6.ext.keep _, ?_⟩
 have e0 : (palR (Wn : Nat) (Hn : Nat) xs (if goneM xs then 255 else 256)).1 = pal0G (Wn : Nat) (Hn : Nat) xs := rfl
 have hpl0 := palR_len (W := (Wn : Nat)) (H := (Hn : Nat)) (most := if goneM xs then 255 else 256) (xs := xs)
 rw [e0] at hf6 hpl0 ⊢
 have hE6 := hE12.trans hf6.ext
 have s6 := hf6.ext.size
 have o6 : OwnS (fun i => w5.heap.size ≤ i) w6 pq (pal0G (Wn : Nat) (Hn : Nat) xs).length qc 4 (cos (pal0G (Wn : Nat) (Hn : Nat) xs)) := hf6.ow.ownS.mono fun i hi _ => hi.1
 have epal : palG (Wn : Nat) (Hn : Nat) xs = if goneM xs then pal0G (Wn : Nat) (Hn : Nat) xs ++ [zeroC] else pal0G (Wn : Nat) (Hn : Nat) xs := rfl
 have hplen : (palG (Wn : Nat) (Hn : Nat) xs).length ≤ 257 := by
  rw [epal]
  split
  ·simp; omega
  ·omega
 have eidx : idxG (Wn : Nat) (Hn : Nat) xs = if goneM xs then idxU (Wn : Nat) (Hn : Nat) xs (appR (Wn : Nat) (Hn : Nat) xs (palG (Wn : Nat) (Hn : Nat) xs)).2.2.2.1.length else (appR (Wn : Nat) (Hn : Nat) xs (palG (Wn : Nat) (Hn : Nat) xs)).2.2.2.1 := rfl
 refine ⟨fun vs u => ∃ (pa : Option Addr) (ca : Nat) (SP : Nat → Prop), vs = [.slice pa (palG (Wn : Nat) (Hn : Nat) xs).length ca] ∧ Ext w u ∧ w6.heap.size ≤ u.heap.size ∧ OwnS SP u pa (palG (Wn : Nat) (Hn : Nat) xs).length ca 4 (cos (palG (Wn : Nat) (Hn : Nat) xs)) ∧ (∀ i, SP i → w5.heap.size ≤ i ∧ i < u.heap.size), ?_, fun p3 k7 k8 w9 hI => ?_⟩
 ·refine brB_i (fun hg1 k4 hk4 w7 hL7 => ?_) fun hg1 => ?_
  ·have hkd : ∀ {i}, i ∈ [k4, k1] → i = k4 ∨ i = k1 := fun hi => by simpa using hi
   refine OwnS.grow (fs := co zeroC) o6 hL7 (fun i hi => ?_) (fun i hi => by omega) (by simp [blocks]) rfl rfl (by omega) (by omega) fun p8 c8 w8 hO8 hc8 => ?_
   ·rcases hkd hi with rfl | rfl
    ·exact .inl hk4
    ·exact .inr (by omega)
   have s8 := hc8.size
   refine ⟨p8, c8, fun i => w5.heap.size ≤ i ∧ i < w8.heap.size, by rw [epal, hg1]; simp, hE6.step hc8 fun i hi => ?_, s8, ?_, fun i hi => hi⟩
   ·have := hE12.size
    rcases hi with hi | hi
    ·omega
    ·have := hE6.size
     rcases hkd hi with rfl | rfl <;> omega
   ·rw [epal, hg1]
    simp only [if_true, List.length_append, List.length_cons, List.length_nil]
    rw [cos_append, cos_one]
    exact OwnS.mono hO8 fun i hi hl => ⟨hi.1, hl⟩
  ·have e : palG (Wn : Nat) (Hn : Nat) xs = pal0G (Wn : Nat) (Hn : Nat) xs := by rw [epal, hg1]; rfl
   rw [e]
   exact ⟨pq, qc, fun i => w5.heap.size ≤ i ∧ i < w6.heap.size, rfl, hE6, Nat.le_refl _, o6.mono fun i hi hl => ⟨hi, hl⟩, fun i hi => hi⟩
 obtain ⟨pa, ca, SP, hv, hE9, s9, hP9, hSP⟩ := hI
 have hv := hv.symm
 simp only [List.cons.injEq, Value.slice.injEq, and_true] at hv
 obtain ⟨rfl, rfl, rfl⟩ := hv
 refine Apply_spec (h.ext hE9) hc hok hP9.sl rfl (by omega) fun p4 c4 p5 d5 w10 hA => ⟨_, _, _, _, _, _, _, _, _, rfl, hA.ext.keep _, fun k13 hk13 => ?_⟩
 generalize happ : appR (Wn : Nat) (Hn : Nat) xs (palG (Wn : Nat) (Hn : Nat) xs) = ap at *
 generalize hpal : palG (Wn : Nat) (Hn : Nat) xs = pal at *
 obtain ⟨S1, S2, a1, a2, a3, a4, a5⟩ := hA.two
 have hE10 := hE9.trans hA.ext
 have s10 := hA.ext.size
 have hP10 := OwnS.chg (T := fun _ => False) hP9 hA.ext.chg fun _ _ _ h => h
 have hlm := a5.own.1
 refine ⟨fun _ u => ∃ SI : Nat → Prop, Ext w u ∧ w10.heap.size ≤ u.heap.size ∧ k13 < u.heap.size ∧ OwnS SP u pa pal.length ca 4 (cos pal) ∧ OwnS SI u p5 ap.2.2.2.1.length d5 1 (bytes (idxG (Wn : Nat) (Hn : Nat) xs)) ∧ (∀ i, SI i → w5.heap.size ≤ i ∧ i < w10.heap.size), brB_i (fun hg1 => ?_) fun hg1 w20 hL20 => ?_, fun w21 hI => ?_⟩
 ·have hkd : ∀ {i}, i ∈ [k13, k1] → i = k13 ∨ i = k1 := fun hi => by simpa using hi
  have s6' := hE6.size
  have s12' := hE12.size
  have ep : pal = pal0G (Wn : Nat) (Hn : Nat) xs ++ [zeroC] := by rw [epal, hg1]; rfl
  have hpn : pal.length = (pal0G (Wn : Nat) (Hn : Nat) xs).length + 1 := by rw [ep]; simp
  generalize hsol : appR (Wn : Nat) (Hn : Nat) xs (pal0G (Wn : Nat) (Hn : Nat) xs) = sol at *
  have hcapP := hP10.2.1
  let St : World → Prop := fun u => Ext w u ∧ w10.heap.size ≤ u.heap.size ∧ OwnS SP u pa pal.length ca 4 (cos pal) ∧ OwnS (fun i => S2 i ∧ i < w10.heap.size) u p5 ap.2.2.2.1.length d5 1 (bytes ap.2.2.2.1)
  have hS2 : ∀ i, S2 i → w9.heap.size ≤ i := a2
  have stL : ∀ {u u' ls}, St u → Locl ls u u' → (∀ i, i ∈ ls → w10.heap.size ≤ i ∨ i = k1) → St u' := fun {u u' ls} hs hL hls => ⟨hs.1.step hL.chg fun i hi => by rcases hls i hi with e | e <;> omega, Nat.le_trans hs.2.1 hL.size, OwnS.chg hs.2.2.1 hL.chg fun i hi _ hm => by have := hSP i hi; rcases hls i hm with e | e <;> omega, OwnS.chg hs.2.2.2 hL.chg fun i hi _ hm => by have := a2 i hi.1; rcases hls i hm with e | e <;> omega⟩
  have stE : ∀ {u u'}, St u → Ext u u' → St u' := fun hs hE => ⟨hs.1.trans hE, Nat.le_trans hs.2.1 hE.size, OwnS.chg (T := fun _ => False) hs.2.2.1 hE.chg fun _ _ _ h => h, OwnS.chg (T := fun _ => False) hs.2.2.2 hE.chg fun _ _ _ h => h⟩
  have st10 : St w10 := ⟨hE10, Nat.le_refl _, hP10, a5.own.mono fun i hi hl => ⟨hi, hl⟩⟩
  have hsl0 : ∀ {u}, St u → Sl u.heap.size u pa (cos (pal0G (Wn : Nat) (Hn : Nat) xs)) := fun hs => hs.2.2.1.sl.pre (by rw [ep, cos_append]; exact List.prefix_append _ _)
  refine ⟨fun vs u => ∃ (n15 n16 : Int) (p11 : Option Addr) (k27 k28 : Nat) (q8 : Option Addr) (d8 kt : Nat) (SQ : Nat → Prop), vs = [i64 sol.2.2.2.2, .pointer (some ⟨kt, 0, none⟩), i64 n15, i64 n16, .slice p11 k27 k28, .slice q8 sol.2.2.2.1.length d8] ∧ St u ∧ k13 < u.heap.size ∧ w10.heap.size ≤ kt ∧ OwnS SQ u q8 sol.2.2.2.1.length d8 1 (bytes sol.2.2.2.1) ∧ (∀ i, SQ i → w10.heap.size ≤ i),
   ⟨by omega, by rw [w64 (by omega) (by omega)]; omega, by rw [w64 (by omega) (by omega)]; omega, ?_⟩, fun n14 k26 n15 n16 p11 k27 k28 p12 k29 k30 w17 hI => ?_⟩
  ·rw [w64 (by omega) (by omega), show (0 : Int).toNat = 0 from rfl, slcBase0, show ((pal.length : Int) - 1).toNat - 0 = (pal0G (Wn : Nat) (Hn : Nat) xs).length by omega]
   refine ⟨fun w11 hL11 => ?_, fun k21 hk21 w14 hL14 => ?_⟩
   ·have st11 := stL st10 hL11 fun i hi => by rcases hkd hi with e | e <;> omega
    have tk := hL11.there k13 (by simp)
    refine Apply_spec (h.ext st11.1) hc hok (hsl0 st11) rfl (by omega) fun p7 c7 p8 d8 w12 hA2 => ⟨_, _, _, _, _, _, _, _, _, rfl, hA2.ext.keep _, fun k20 hk20 w13 hL13 => ?_⟩
    rw [hsol] at hA2 ⊢
    obtain ⟨B1, B2, b1, b2, b3, b4, b5⟩ := hA2.two
    have st12 := stE st11 hA2.ext
    have sA := hA2.ext.size
    have hk3 : ∀ {i}, i ∈ [k20, k13, k1] → i = k20 ∨ i = k13 ∨ i = k1 := fun hi => by simpa using hi
    have s11 := st11.2.1
    refine ⟨_, _, _, _, _, _, _, _, fun i => B2 i ∧ i < w12.heap.size, rfl, stL st12 hL13 (fun i hi => by rcases hk3 hi with e | e | e <;> omega), hL13.there k13 (by simp), by omega, OwnS.chg (b5.own.mono fun i hi hl => ⟨hi, hl⟩) hL13.chg fun i hi _ hm => by have := b2 i hi.1; rcases hk3 hm with e | e | e <;> omega, fun i hi => by have := b2 i hi.1; omega⟩
   ·have hk3 : ∀ {i}, i ∈ [k21, k13, k1] → i = k21 ∨ i = k13 ∨ i = k1 := fun hi => by simpa using hi
    have st14 := stL st10 hL14 fun i hi => by rcases hk3 hi with e | e | e <;> omega
    have tk := hL14.there k13 (by simp)
    have tk2 := hL14.there k21 (by simp)
    refine Apply_spec (h.ext st14.1) hc hok (hsl0 st14) rfl (by omega) fun p7 c7 p8 d8 w15 hA2 => ⟨_, _, _, _, _, _, _, _, _, rfl, hA2.ext.keep _, fun w16 hL16 => ?_⟩
    rw [hsol] at hA2 ⊢
    obtain ⟨B1, B2, b1, b2, b3, b4, b5⟩ := hA2.two
    have st15 := stE st14 hA2.ext
    have sA := hA2.ext.size
    have s14 := st14.2.1
    refine ⟨_, _, _, _, _, _, _, _, fun i => B2 i ∧ i < w15.heap.size, rfl, stL st15 hL16 (fun i hi => by rcases hk3 hi with e | e | e <;> omega), hL16.there k13 (by simp), by omega, OwnS.chg (b5.own.mono fun i hi hl => ⟨hi, hl⟩) hL16.chg fun i hi _ hm => by have := b2 i hi.1; rcases hk3 hm with e | e | e <;> omega, fun i hi => by have := b2 i hi.1; omega⟩
  obtain ⟨m15, m16, r11, j27, j28, q8, d8, kt, SQ, hv, st17, hk17, hkt, hQ17, hSQ⟩ := hI
  have hv := hv.symm
  simp only [List.cons.injEq, Value.slice.injEq, Value.int.injEq, Value.pointer.injEq, Option.some.injEq, Addr.mk.injEq, true_and, and_true] at hv
  obtain ⟨rfl, rfl, rfl, rfl, ⟨rfl, rfl, rfl⟩, rfl, rfl, rfl⟩ := hv
  have hU0 := idxU_zero (Wn : Nat) (Hn : Nat) xs
  have hUl := idxU_len (Wn : Nat) (Hn : Nat) xs
  have hUs := fun n => @idxU_succ (Wn : Nat) (Hn : Nat) xs n
  have hAl := (appR_len (W := (Wn : Nat)) (H := (Hn : Nat)) (xs := xs) (pal := palG (Wn : Nat) (Hn : Nat) xs)).1
  have hSl := (appR_len (W := (Wn : Nat)) (H := (Hn : Nat)) (xs := xs) (pal := pal0G (Wn : Nat) (Hn : Nat) xs)).2
  rw [hpal, happ] at hU0 hAl
  rw [hpal, happ] at hUl
  simp only [hpal, happ, hsol] at hUs
  rw [hsol] at hSl
  rw [eWH, Int.toNat_natCast] at hAl hSl
  have eidx' : idxG (Wn : Nat) (Hn : Nat) xs = idxU (Wn : Nat) (Hn : Nat) xs ap.2.2.2.1.length := by rw [eidx, hg1]; rfl
  refine ⟨fun vs u => ∃ j : Nat, vs = [i64 (j : Nat)] ∧ j ≤ ap.2.2.2.1.length ∧ Chg (fun i => S2 i ∧ i < w10.heap.size) w17 u ∧ OwnS (fun i => S2 i ∧ i < w10.heap.size) u p5 ap.2.2.2.1.length d5 1 (bytes (idxU (Wn : Nat) (Hn : Nat) xs j)),
   fun vs _ => match vs with | [.int _ j] => (ap.2.2.2.1.length - j : Int).toNat | _ => 0, ⟨0, rfl, by omega, Chg.refl _ _, by rw [hU0]; exact st17.2.2.2⟩, fun n17 w18 hI => ?_⟩
  obtain ⟨j, hv, hj, hc18, hO18⟩ := hI
  obtain rfl : n17 = (j : Nat) := by simpa using hv
  have s17 := st17.2.1
  have s18 := hc18.size
  have hE18 : Ext w w18 := st17.1.step hc18 fun i hi => by have := a2 i hi.1; omega
  refine brB_i (fun hlt => ?_) fun hge => ?_
  rotate_left
  ·have : j = ap.2.2.2.1.length := by have := of_decide_eq_false hge; omega
   subst this
   exact ⟨fun i => S2 i ∧ i < w10.heap.size, hE18, by omega, by omega, OwnS.chg st17.2.2.1 hc18 fun i hi _ hx => by have := hSP i hi; have := a2 i hx.1; omega, by rw [eidx']; exact hO18, fun i hi => by have := a2 i hi.1; omega⟩
  have hlt : j < ap.2.2.2.1.length := by have := of_decide_eq_true hlt; omega
  have hUj := hUs j hlt
  refine ⟨fun _ u => Chg (fun i => S2 i ∧ i < w10.heap.size) w17 u ∧ OwnS (fun i => S2 i ∧ i < w10.heap.size) u p5 ap.2.2.2.1.length d5 1 (bytes (idxU (Wn : Nat) (Hn : Nat) xs (j + 1))), ?_, fun w19 hI => ?_⟩
  rotate_left
  ·rw [w64 (by omega) (by omega)]
   exact ⟨⟨j + 1, by rw [show ((j : Nat) : Int) + 1 = ((j + 1 : Nat) : Int) by omega], hlt, hI.1, hI.2⟩, by show ((ap.2.2.2.1.length : Int) - ((j : Int) + 1)).toNat < ((ap.2.2.2.1.length : Int) - (j : Nat)).toNat; omega⟩
  refine brB_i (fun h0 => ?_) fun h0 => ?_
  rotate_left
  ·have h0 : ¬ sol.2.2.2.2 = 0 := fun e => by rw [e] at h0; cases h0
   rw [if_neg (fun g => h0 g.1)] at hUj
   exact ⟨hc18, by rw [hUj]; exact hO18⟩
  have h0 : sol.2.2.2.2 = 0 := eq_of_beq h0
  have hsn := hSl h0
  rw [w64 (x := 4 * ((j : Nat) : Int)) (by omega) (by omega), w64 (x := 4 * ((j : Nat) : Int) + 3) (by omega) (by omega)]
  refine hget hE18 (j := 4 * j + 3) (by omega) (by omega) fun a ha => ⟨_, ha, ?_⟩
  refine brB_i (fun h3 => ?_) fun h3 => ?_
  rotate_left
  ·have h3 := of_decide_eq_false h3
   rw [if_neg (fun g => h3 g.2)] at hUj
   exact ⟨hc18, by rw [hUj]; exact hO18⟩
  have h3 := of_decide_eq_true h3
  rw [if_pos ⟨h0, h3⟩] at hUj
  have hQ18 : OwnS SQ w18.drew q8 sol.2.2.2.1.length d8 1 (bytes sol.2.2.2.1) := OwnS.chg hQ17 hc18.drew fun i hi _ hx => by have := hSQ i hi; have := hx.2; omega
  refine Sl.byte hQ18.sl rfl rfl (by omega) fun a3 ha3 => ⟨_, ha3, ?_⟩
  have hOd : OwnS (fun i => S2 i ∧ i < w10.heap.size) w18.drew p5 ap.2.2.2.1.length d5 1 (bytes (idxU (Wn : Nat) (Hn : Nat) xs j)) := hO18
  obtain ⟨bb, e1, e2, e3⟩ := OwnS.base hOd (by omega)
  subst e1
  obtain ⟨q1', q2', q3'⟩ := OwnS.write hOd hlt
  refine idx_i (by omega) (by omega) rfl ?_
  rw [loc_add, Nat.zero_add, Nat.mul_one, Int.toNat_natCast]
  have hb2 := a2 bb e2.1
  have hb3 : bb < w10.heap.size := e2.2
  have hE12s := hE12.size
  refine ⟨q1', q2', by simp; omega, hc18.drew.trans (q3' _).2 fun i hi _ => by have hi : i = bb := hi; rw [hi]; exact e2, ?_⟩
  rw [hUj, bytes_set]
  exact (q3' _).1
 ·have hkd : ∀ {i}, i ∈ [k13, k1] → i = k13 ∨ i = k1 := fun hi => by simpa using hi
  have s6' := hE6.size
  have s12' := hE12.size
  refine ⟨fun i => S2 i ∧ i < w10.heap.size, hE10.step hL20.chg fun i hi => by rcases hkd hi with rfl | rfl <;> omega, hL20.size, hL20.there k13 (by simp), OwnS.chg hP10 hL20.chg fun i hi _ hm => by have := hSP i hi; rcases hkd hm with e | e <;> omega, ?_, fun i hi => by have := a2 i hi.1; omega⟩
  rw [eidx, hg1]
  exact OwnS.chg (a5.own.mono fun i hi hl => ⟨hi, hl⟩) hL20.chg fun i hi _ hm => by have := a2 i hi.1; rcases hkd hm with e | e <;> omega
 obtain ⟨SI, hE21, s21, hk21, hP21, hI21, hSI⟩ := hI
 have hp256 : pal.length ≤ 256 := by
  have := palR_most (W := (Wn : Nat)) (H := (Hn : Nat)) (most := if goneM xs then 255 else 256) (xs := xs)
  rw [e0] at this
  rw [epal]
  split at this
  ·rename_i hg1
   rw [if_pos hg1]; simp; omega
  ·rename_i hg1
   rw [if_neg hg1]; omega
 refine ⟨fun vs u => u = w21 ∧ ∃ s : Nat, vs = [i64 (s : Nat)] ∧ 1 ≤ s ∧ s ≤ 8 ∧ (s = 1 ∨ 2 ^ (s - 1) < pal.length), fun vs _ => match vs with | [.int _ s] => (9 - s).toNat | _ => 0, ⟨rfl, 1, rfl, by omega, by omega, .inl rfl⟩, fun n20 w22 hI => ?_⟩
 obtain ⟨rfl, s, hv, hs1, hs8, hs2⟩ := hI
 obtain rfl : n20 = (s : Nat) := by simpa using hv
 rw [shl1n s (by omega)]
 refine ⟨by omega, brB_i (fun hlt => ?_) fun hge k31 w23 hn23 => ?_⟩
 ·have hlt : 2 ^ s < pal.length := by have := of_decide_eq_true hlt; omega
  have h9 : s + 1 ≤ 8 := by
   rcases Nat.lt_or_ge s 8 with g | g
   ·omega
   ·have : s = 8 := by omega
    subst this
    simp only [Nat.reducePow] at hlt; omega
  rw [w64 (by omega) (by omega)]
  exact ⟨⟨rfl, s + 1, by rw [show ((s : Nat) : Int) + 1 = ((s + 1 : Nat) : Int) by omega], by omega, h9, .inr hlt⟩, by show ((9 : Int) - ((s : Int) + 1)).toNat < ((9 : Int) - (s : Nat)).toNat; omega⟩
 have hge : pal.length ≤ 2 ^ s := by have := of_decide_eq_false hge; omega
 have hsz := sizeG_is hs1 hs8 hge hs2
 have e31 := hn23.1
 have s31 := hn23.size
 have hC31 : Cs w23 k31 (bytes sig89) := hn23.cs
 have s12' := hE12.size
 have s6' := hE6.size
 refine ⟨_, _, by rw [hn23.1, hn23.2]; exact cells_alloc_new w22 _, by simp; omega, fun w24 hmk k32 w25 hn25 => ?_⟩
 have hs24 := hmk.put.size
 have hS24 : Sl w23.heap.size w24 (some ⟨k31, 0, none⟩) (bytes sig89) := mk_sl hmk (hC31.sl (off := 0) (by exact List.prefix_refl _) hn23.size)
 have e32 := hn25.1
 have s32 := hn25.size
 have hE23 := hE21.trans hn23.ext
 have s23 := hn23.ext.size
 have hE24 : Ext w w24 := hE23.step hmk.put.chg fun i hi => by have hi : i = k31 := hi; omega
 have hE25 := hE24.trans hn25.ext
 have s25 := hn25.ext.size
 have hC32 : Cs w25 k32 [.slice none 0 0] := hn25.cs
 have hset := Chg.setCells w25 ⟨k32, 0, none⟩ [.slice (some ⟨k31, 0, none⟩) 6 6] 0
 have hC26 : Cs (setCells w25 ⟨k32, 0, none⟩ [.slice (some ⟨k31, 0, none⟩) 6 6] 0) k32 [.slice (some ⟨k31, 0, none⟩) sig89.length sig89.length] := hC32.set1 (off := 0) (v := .slice (some ⟨k31, 0, none⟩) 6 6) (by simp)
 have hS26 : Sl w25.heap.size (setCells w25 ⟨k32, 0, none⟩ [.slice (some ⟨k31, 0, none⟩) 6 6] 0) (some ⟨k31, 0, none⟩) (bytes sig89) := by
  have h1 : Sl w23.heap.size w25 (some ⟨k31, 0, none⟩) (bytes sig89) := hS24.ext hn25.ext
  refine (h1.below (hset.below (N := w23.heap.size) (fun i hi _ => by have hi : i = k32 := hi; omega) (by omega))).mono (by omega)
 let K : World → Prop := fun u => Ext w u ∧ w25.heap.size ≤ u.heap.size ∧ OwnS SP u pa pal.length ca 4 (cos pal) ∧ OwnS SI u p5 ap.2.2.2.1.length d5 1 (bytes (idxG (Wn : Nat) (Hn : Nat) xs))
 have ks : ∀ {u u' : World} {S : Nat → Prop}, K u → Chg S u u' → (∀ i, S i → w22.heap.size ≤ i ∨ i = k1 ∨ i = k13) → K u' := fun {u u' S} hk hc hS => ⟨hk.1.step hc fun i hi => by rcases hS i hi with e | e | e <;> omega, Nat.le_trans hk.2.1 hc.size, OwnS.chg hk.2.2.1 hc fun i hi _ hx => by have := hSP i hi; rcases hS i hx with e | e | e <;> omega, OwnS.chg hk.2.2.2 hc fun i hi _ hx => by have := hSI i hi; rcases hS i hx with e | e | e <;> omega⟩
 have k22 : K (setCells w25 ⟨k32, 0, none⟩ [.slice (some ⟨k31, 0, none⟩) 6 6] 0) := by
  have c0 : Chg (fun i => w22.heap.size ≤ i) w22 (setCells w25 ⟨k32, 0, none⟩ [.slice (some ⟨k31, 0, none⟩) 6 6] 0) := (((hn23.ext.chg (S := fun i => w22.heap.size ≤ i)).trans hmk.put.chg fun i hi _ => by have hi : i = k31 := hi; omega).trans (hn25.ext.chg (S := fun _ => False)) fun i hi _ => hi.elim).trans hset fun i hi _ => by have hi : i = k32 := hi; omega
  refine ⟨hE21.step c0 fun i hi => by have := hE21.size; omega, by rw [show (setCells w25 ⟨k32, 0, none⟩ [.slice (some ⟨k31, 0, none⟩) 6 6] 0).heap.size = w25.heap.size from (setCells_same _ _ _ _).size]; exact Nat.le_refl _, OwnS.chg hP21 c0 fun i hi _ hx => by have := hSP i hi; omega, OwnS.chg hI21 c0 fun i hi _ hx => by have := hSI i hi; omega⟩
 have hk13' := hk21
 refine ⟨⟨_, hC32.cell (i := 0) rfl⟩, hC32.frozen _, by simp; omega, ?_⟩
 generalize hu26 : setCells w25 ⟨k32, 0, none⟩ [.slice (some ⟨k31, 0, none⟩) 6 6] 0 = u26 at *
 have s26 := hset.size
 refine etwo_first (out := sig89) hC26 hS26 (by omega) (by omega) (by simp [sig89]) fun w26 hX26 hc26 => ⟨rfl, hc26.keep fun i hi hx => by simp at hi; rcases hx with e | e <;> omega, ?_⟩
 have K26 := ks k22 hc26 fun i hi => by rcases hi with e | e <;> exact .inl (by omega)
 have s26' := hc26.size
 refine etwo_spec hX26 (by omega) (fun b hb => by omega) (by omega) (by omega) (by simp [sig89, two2]) fun w27 hX27 hc27 => ⟨rfl, hc27.keep fun i hi hx => by simp at hi; rcases hx with e | e <;> omega, ?_⟩
 have K27 := ks K26 hc27 fun i hi => by rcases hi with e | e <;> exact .inl (by omega)
 have s27 := hc27.size
 have hp1 : 1 ≤ pal.length := by rw [← hpal]; exact palG_pos hb
 have hpok : ∀ c, c ∈ pal → CoOk c := by rw [← hpal]; exact palG_ok hok
 obtain ⟨p13, c33, x1, x2⟩ := hX27.obj
 generalize hout : sig89 ++ two2 (Wn : Nat) ++ two2 (Hn : Nat) = out27 at *
 have hol : out27.length = 10 := by rw [← hout]; simp [sig89, two2]
 refine ⟨_, _, _, x1.cell (i := 0) rfl, fun k35 hk35 w28 hL28 => ?_⟩
 rw [or128 s (by omega) hs1]
 have hkd : ∀ {i}, i ∈ [k35, k13, k1] → i = k35 ∨ i = k13 ∨ i = k1 := fun hi => by simpa using hi
 have t35 := hL28.there k35 (by simp)
 have hk27 := x1.lt
 refine EAt.app (ys := [((127 + s : Nat) : Int), 0, 0]) x1 x2 hX27.ne (fun b hb => by omega) hL28 (fun i hi => by
  rcases hkd hi with e | e | e
  ·exact .inl (by omega)
  ·exact .inr (by omega)
  ·exact .inr (by omega)) (by simp; omega) (by simp [blocks]) rfl (by rw [hol]; omega) fun p14 c37 w29 hcell hfro hc29 hs29 hX29 hc29' hs28 => ⟨hcell, hfro, by simp; omega, by omega, ?_⟩
 have K29 := ks K27 hc29' fun i hi => by
  rcases hi with e | e | e
  ·exact .inl (by omega)
  ·exact .inl (by omega)
  ·rcases hkd e with e | e | e
   ·exact .inl (by omega)
   ·exact .inr (.inr e)
   ·exact .inr (.inl e)
 have s29 := hc29.size
 generalize hu29 : setCells w29 ⟨k32, 0, none⟩ [.slice p14 (out27 ++ [((127 + s : Nat) : Int), 0, 0]).length c37] 0 = u29 at *
 generalize hout2 : out27 ++ [((127 + s : Nat) : Int), 0, 0] = out29 at *
 have hol2 : out29.length = 13 := by rw [← hout2, List.length_append, hol]; rfl
 have t35' : k35 < u29.heap.size := by omega
 refine ⟨fun vs u => ∃ i : Nat, vs = [i64 (i : Nat)] ∧ i ≤ 2 ^ s ∧ K u ∧ u29.heap.size ≤ u.heap.size ∧ EAt u (fun b => u26.heap.size ≤ b ∧ b ≠ k35) k32 (out29 ++ entG pal i), fun vs _ => match vs with | [.int _ i] => (2 ^ s - i : Int).toNat | _ => 0, ⟨0, rfl, by omega, K29, Nat.le_refl _, ?_⟩, fun n21 w30 hI => ?_⟩
 ·rw [show entG pal 0 = [] from rfl, List.append_nil]
  exact hX29.lim (fun b hb _ => ⟨hb.1, fun e => hb.2 (by simp [e])⟩) (by omega)
 obtain ⟨i, hv, hi, K30, s30, hX30⟩ := hI
 obtain rfl : n21 = (i : Nat) := by simpa using hv
 have s23' := hn23.size
 have kb1 : k1 < w22.heap.size ∧ k13 < w22.heap.size ∧ w22.heap.size ≤ k32 ∧ k32 < u26.heap.size ∧ u26.heap.size ≤ k35 := by omega
 refine brB_i (fun hlt => ?_) fun hge2 => ?_
 ·have hlt : i < 2 ^ s := by have := of_decide_eq_true hlt; omega
  have hps : 2 ^ s ≤ 256 := by
   have : s = 1 ∨ s = 2 ∨ s = 3 ∨ s = 4 ∨ s = 5 ∨ s = 6 ∨ s = 7 ∨ s = 8 := by omega
   rcases this with rfl | rfl | rfl | rfl | rfl | rfl | rfl | rfl <;> decide
  obtain ⟨pb, hpb, hSpb, hpbl, hSo⟩ := pal_so K30.2.2.1 (by omega)
  have hpb2 := hSP pb hSpb
  rw [hpb]
  refine hSo.ld (i := 0) (by omega) (by omega) fun e0 e1 e2 e3 => ⟨_, _, _, _, e0, e1, e2, e3, fun k38 hk38 => ?_⟩
  have hk4 : ∀ {j}, j ∈ [k38, k35, k13, k1] → j = k38 ∨ j = k35 ∨ j = k13 ∨ j = k1 := fun hj => by simpa using hj
  have npb : ¬ pb ∈ [k38, k35, k13, k1] := fun hm => by rcases hk4 hm with e | e | e | e <;> omega
  have hCok : ∀ j, CoOk (pal.getD j zeroC) := getD_ok' hpok
  refine ⟨fun vs u => ∃ c : Co, vs = [.int .u16 c.1, .int .u16 c.2.1, .int .u16 c.2.2.1, .int .u16 c.2.2.2] ∧ c = (if i < pal.length ∧ (pal.getD i zeroC).2.2.2 ≠ 0 then pal.getD i zeroC else pal.getD 0 zeroC) ∧ Chg (· ∈ [k38, k35, k13, k1]) w30 u ∧ k38 < u.heap.size, brB_i (fun hlp => ?_) fun hlp w33 hL33 => ?_, fun n31 n32 n33 n34 w34 hI => ?_⟩
  ·have hlp : i < pal.length := by have := of_decide_eq_true hlp; omega
   refine hSo.ld (i := (i : Nat)) (by omega) (by omega) fun _ _ _ _ w31 hL31 => ?_
   have hSo1 := hSo.chg hL31.chg npb
   rw [Int.toNat_natCast]
   refine ⟨_, hSo1.cell hlp (j := 3) rfl, brB_i (fun ha => ?_) fun ha => ?_⟩
   ·refine hSo.ld (i := (i : Nat)) (by omega) (by omega) fun _ _ _ _ => ?_
    rw [Int.toNat_natCast]
    have z0 := hSo1.cell hlp (j := 0) rfl
    rw [add_zero'] at z0
    refine ⟨_, _, _, _, z0, hSo1.cell hlp (j := 1) rfl, hSo1.cell hlp (j := 2) rfl, hSo1.cell hlp (j := 3) rfl, fun w32 hL32 => ⟨pal.getD i zeroC, rfl, ?_, hL31.chg.trans hL32.chg fun b hb _ => hb, hL32.there k38 (by simp)⟩⟩
    rw [if_pos ⟨hlp, by simpa using ha⟩]
   ·refine ⟨pal.getD 0 zeroC, rfl, ?_, hL31.chg, hL31.there k38 (by simp)⟩
    rw [if_neg (fun g => g.2 (by simpa using ha))]
  ·have hlp : ¬ i < pal.length := by have := of_decide_eq_false hlp; omega
   refine ⟨pal.getD 0 zeroC, rfl, ?_, hL33.chg, hL33.there k38 (by simp)⟩
   rw [if_neg (fun g => hlp g.1)]
  obtain ⟨c, hv, hc, hc34, hk38'⟩ := hI
  simp only [List.cons.injEq, Value.int.injEq, true_and, and_true] at hv
  obtain ⟨rfl, rfl, rfl, rfl⟩ := hv
  have hcok : CoOk c := by
   rw [hc]; split
   ·exact hCok _
   ·exact hCok _
  have s34 := hc34.size
  have K34 := ks K30 hc34 fun j hj => by
   rcases hk4 hj with e | e | e | e
   ·exact .inl (by omega)
   ·exact .inl (by omega)
   ·exact .inr (.inr e)
   ·exact .inr (.inl e)
  have hX34 : EAt w34 (fun b => (u26.heap.size ≤ b ∧ b ≠ k35) ∧ b ≠ k38) k32 (out29 ++ entG pal i) := by
   have h1 : EAt w30 (fun b => (u26.heap.size ≤ b ∧ b ≠ k35) ∧ b ≠ k38) k32 (out29 ++ entG pal i) := hX30.lim (fun b hb hl => ⟨hb, by omega⟩) (by omega)
   exact h1.chg hc34 (fun hm => by rcases hk4 hm with e | e | e | e <;> omega) fun b hb hl hm => by have := hb.1.1; have := hb.1.2; have := hb.2; rcases hk4 hm with e | e | e | e <;> omega
  obtain ⟨p15, c40, y1, y2⟩ := hX34.obj
  refine ⟨_, _, _, y1.cell (i := 0) rfl, fun k41 hk41 w35 hL35 => ?_⟩
  rw [shr8 hcok.1, shr8 hcok.2.1, shr8 hcok.2.2.1]
  have hk5 : ∀ {j}, j ∈ [k41, k38, k35, k13, k1] → j = k41 ∨ j = k38 ∨ j = k35 ∨ j = k13 ∨ j = k1 := fun hj => by simpa using hj
  refine EAt.app (ys := [c.1 / 256 % 256, c.2.1 / 256 % 256, c.2.2.1 / 256 % 256]) y1 y2 hX34.ne (fun b hb => by omega) hL35 (fun j hj => by
   rcases hk5 hj with e | e | e | e | e
   ·exact .inl (by omega)
   ·exact .inr (by omega)
   ·exact .inr (by omega)
   ·exact .inr (by omega)
   ·exact .inr (by omega)) (by simp; omega) (by simp [blocks]) rfl (by rw [List.length_append, hol2, entG_len]; omega) fun p16 c43 w36 hcell hfro hc36 hs36 hX36 hc36' hs35 => ⟨hcell, hfro, by simp; omega, ?_, ?_⟩
  ·have K36 := ks K34 hc36' fun j hj => by
    rcases hj with e | e | e
    ·exact .inl (by omega)
    ·exact .inl (by omega)
    ·rcases hk5 e with e | e | e | e | e
     ·exact .inl (by omega)
     ·exact .inl (by omega)
     ·exact .inl (by omega)
     ·exact .inr (.inr e)
     ·exact .inr (.inl e)
   have s36 := hc36'.size
   refine ⟨i + 1, by rw [w64 (by omega) (by omega)]; rfl, by omega, K36, by omega, ?_⟩
   rw [entG_succ, ← List.append_assoc]
   simp only [← hc]
   exact hX36.lim (fun b hb _ => hb.1.1) (by omega)
  ·rw [w64 (by omega) (by omega)]
   show ((2 : Int) ^ s - ((i : Int) + 1)).toNat < ((2 : Int) ^ s - (i : Nat)).toNat
   have : ((2 ^ s : Nat) : Int) = (2 : Int) ^ s := by simp
   omega
 have : i = 2 ^ s := by have := of_decide_eq_false hge2; omega
 subst this
 have hps : 2 ^ s ≤ 256 := by
  have : s = 1 ∨ s = 2 ∨ s = 3 ∨ s = 4 ∨ s = 5 ∨ s = 6 ∨ s = 7 ∨ s = 8 := by omega
  rcases this with rfl | rfl | rfl | rfl | rfl | rfl | rfl | rfl <;> decide
 generalize hout3 : out29 ++ entG pal (2 ^ s) = out30 at *
 have hol3 : out30.length = 13 + 3 * 2 ^ s := by rw [← hout3, List.length_append, hol2, entG_len]
 generalize hGe : (if goneM xs then [33, 249, 4, 1, 0, 0, ((pal.length - 1 : Nat) : Int), 0] else ([] : List Int)) = Ge at *
 have hGl : Ge.length ≤ 8 := by rw [← hGe]; split <;> simp
 have kd3 : ∀ {k j}, j ∈ [k, k35, k13, k1] → j = k ∨ j = k35 ∨ j = k13 ∨ j = k1 := fun hj => by simpa using hj
 refine ⟨fun _ u => K u ∧ u29.heap.size ≤ u.heap.size ∧ EAt u (fun b => u26.heap.size ≤ b ∧ b ≠ k35) k32 (out30 ++ Ge), brB_i (fun hg1 => ?_) fun hg1 => ?_, fun w39 hI => ?_⟩
 ·obtain ⟨p17, c45, y1, y2⟩ := hX30.obj
  refine ⟨_, _, _, y1.cell (i := 0) rfl, fun k46 hk46 w37 hL37 => ?_⟩
  rw [w64 (by omega) (by omega), wrap_u (x := (pal.length : Int) - 1) rfl (by omega) (by simp [IntKind.bits]; omega), show (pal.length : Int) - 1 = ((pal.length - 1 : Nat) : Int) by omega]
  refine EAt.app (ys := [33, 249, 4, 1, 0, 0, ((pal.length - 1 : Nat) : Int), 0]) y1 y2 hX30.ne (fun b hb => by omega) hL37 (fun j hj => by
   rcases kd3 hj with e | e | e | e
   ·exact .inl (by omega)
   ·exact .inr (by omega)
   ·exact .inr (by omega)
   ·exact .inr (by omega)) (by simp; omega) (by simp [blocks]) rfl (by omega) fun p18 c48 w38 hcell hfro hc38 hs38 hX38 hc38' hs37 => ⟨hcell, hfro, by simp; omega, ?_⟩
  have K38 := ks K30 hc38' fun j hj => by
   rcases hj with e | e | e
   ·exact .inl (by omega)
   ·exact .inl (by omega)
   ·rcases kd3 e with e | e | e | e
    ·exact .inl (by omega)
    ·exact .inl (by omega)
    ·exact .inr (.inr e)
    ·exact .inr (.inl e)
  have s38 := hc38'.size
  refine ⟨K38, by omega, ?_⟩
  rw [← hGe, hg1]
  exact hX38.lim (fun b hb _ => hb.1) (by omega)
 ·refine ⟨K30, s30, ?_⟩
  rw [← hGe, hg1]
  simpa using hX30
 obtain ⟨K39, s39, hX39⟩ := hI
 generalize hout4 : out30 ++ Ge = out39 at *
 have hol4 : out39.length ≤ 21 + 3 * 2 ^ s := by rw [← hout4, List.length_append]; omega
 obtain ⟨p19, c50, z1, z2⟩ := hX39.obj
 refine ⟨_, _, _, z1.cell (i := 0) rfl, fun k51 hk51 w40 hL40 => ?_⟩
 have t51 := hL40.there k51 (by simp)
 refine EAt.app (ys := [44, 0, 0, 0, 0]) z1 z2 hX39.ne (fun b hb => by omega) hL40 (fun j hj => by
  rcases kd3 hj with e | e | e | e
  ·exact .inl (by omega)
  ·exact .inr (by omega)
  ·exact .inr (by omega)
  ·exact .inr (by omega)) (by simp; omega) (by simp [blocks]) rfl (by omega) fun p20 c53 w41 hcell hfro hc41 hs41 hX41 hc41' hs40 => ⟨hcell, hfro, by simp; omega, ?_⟩
 have K41 := ks K39 hc41' fun j hj => by
  rcases hj with e | e | e
  ·exact .inl (by omega)
  ·exact .inl (by omega)
  ·rcases kd3 e with e | e | e | e
   ·exact .inl (by omega)
   ·exact .inl (by omega)
   ·exact .inr (.inr e)
   ·exact .inr (.inl e)
 have s41 := hc41'.size
 generalize hu41 : setCells w41 ⟨k32, 0, none⟩ [.slice p20 (out39 ++ [44, 0, 0, 0, 0]).length c53] 0 = u41 at *
 have hol5 : (out39 ++ [44, 0, 0, 0, 0]).length = out39.length + 5 := by simp
 generalize hout5 : out39 ++ [44, 0, 0, 0, 0] = out41 at *
 have hk51' : k51 < u41.heap.size := by omega
 have hX41' : EAt u41 (fun b => (u26.heap.size ≤ b ∧ b ≠ k35) ∧ b ≠ k51) k32 out41 := hX41.lim (fun b hb _ => ⟨hb.1, fun e => hb.2 (by simp [e])⟩) (by omega)
 refine etwo_spec hX41' (by omega) (fun b hb => by omega) (by omega) (by omega) (by omega) fun w42 hX42 hc42 => ⟨rfl, hc42.keep fun j hj hx => by rcases kd3 hj with e | e | e | e <;> rcases hx with g | g <;> omega, ?_⟩
 have K42 := ks K41 hc42 fun j hj => by rcases hj with e | e <;> exact .inl (by omega)
 have s42 := hc42.size
 refine etwo_spec hX42 (by omega) (fun b hb => by omega) (by omega) (by omega) (by rw [List.length_append]; simp [two2]; omega) fun w43 hX43 hc43 => ⟨rfl, hc43.keep fun j hj hx => by rcases kd3 hj with e | e | e | e <;> rcases hx with g | g <;> omega, ?_⟩
 have K43 := ks K42 hc43 fun j hj => by rcases hj with e | e <;> exact .inl (by omega)
 have s43 := hc43.size
 generalize hout6 : out41 ++ two2 (Wn : Nat) ++ two2 (Hn : Nat) = out43 at *
 have hol6 : out43.length = out41.length + 4 := by rw [← hout6]; simp [two2]
 have hil := idxG_len (Wn : Nat) (Hn : Nat) xs
 have hAl' := (appR_len (W := (Wn : Nat)) (H := (Hn : Nat)) (xs := xs) (pal := palG (Wn : Nat) (Hn : Nat) xs)).1
 rw [hpal, happ] at hil hAl'
 rw [eWH, Int.toNat_natCast] at hAl'
 have emx : max ((s : Nat) : Int) 2 = ((max s 2 : Nat) : Int) := by omega
 rw [emx]
 refine GifPack_spec K43.2.2.2.sl hil.symm (by omega) (idxG_bs _ _ _) fun p21 k54 k55 w44 hf44 => ⟨_, _, _, _, rfl, hf44.ext.keep _, ?_⟩
 have s44 := hf44.ext.size
 have K44 := ks K43 (hf44.ext.chg (S := fun _ => False)) fun j hj => hj.elim
 generalize hpk : (gifPackR (idxG (Wn : Nat) (Hn : Nat) xs) ((max s 2 : Nat) : Int)).1 = pk at *
 have hX44 : EAt w44 (fun b => ((u26.heap.size ≤ b ∧ b ≠ k35) ∧ b ≠ k51) ∧ (b < w43.heap.size ∨ w44.heap.size ≤ b)) k32 out43 := (hX43.lim (fun b hb hl => ⟨hb, .inl hl⟩) (by omega)).ext hf44.ext
 obtain ⟨SK, sk1, _, sk3⟩ := hf44.own
 have hPk : OwnS (fun i => w43.heap.size ≤ i ∧ i < w44.heap.size) w44 p21 k54 k55 1 (bytes pk) := sk3.own.mono fun i hi hl => ⟨sk1 i hi, hl⟩
 obtain ⟨p22, c57, y1, y2⟩ := hX44.obj
 refine ⟨_, _, _, y1.cell (i := 0) rfl, fun k58 hk58 w45 hL45 => ?_⟩
 have t58 := hL45.there k58 (by simp)
 have e2 : IntKind.u8.wrap ((max s 2 : Nat) : Int) = ((max s 2 : Nat) : Int) := wrap_u rfl (by omega) (by simp [IntKind.bits]; omega)
 rw [e2]
 have kd5 : ∀ {j}, j ∈ [k58, k51, k35, k13, k1] → j = k58 ∨ j = k51 ∨ j = k35 ∨ j = k13 ∨ j = k1 := fun hj => by simpa using hj
 refine EAt.app (ys := [0, ((max s 2 : Nat) : Int)]) y1 y2 hX44.ne (fun b hb => by omega) hL45 (fun j hj => by
  rcases kd5 hj with e | e | e | e | e
  ·exact .inl (by omega)
  ·exact .inr (by omega)
  ·exact .inr (by omega)
  ·exact .inr (by omega)
  ·exact .inr (by omega)) (by simp; omega) (by simp [blocks]) rfl (by omega) fun p23 c60 w46 hcell hfro hc46 hs46 hX46 hc46' hs45 => ⟨hcell, hfro, by simp; omega, ?_⟩
 have K46 := ks K44 hc46' fun j hj => by
  rcases hj with e | e | e
  ·exact .inl (by omega)
  ·exact .inl (by omega)
  ·rcases kd5 e with e | e | e | e | e
   ·exact .inl (by omega)
   ·exact .inl (by omega)
   ·exact .inl (by omega)
   ·exact .inr (.inr e)
   ·exact .inr (.inl e)
 have s46 := hc46'.size
 have hPk46 := OwnS.chg hPk hc46' fun i hi _ hx => by
  rcases hx with e | e | e
  ·omega
  ·omega
  ·rcases kd5 e with e | e | e | e | e <;> omega
 generalize hu46 : setCells w46 ⟨k32, 0, none⟩ [.slice p23 (out43 ++ [0, ((max s 2 : Nat) : Int)]).length c60] 0 = u46 at *
 generalize hout7 : out43 ++ [0, ((max s 2 : Nat) : Int)] = out46 at *
 have hpkl : pk.length ≤ 2 ^ 24 := by
  rw [← hpk]
  have h := gifPack_len (size := max s 2) (idxG_bs (Wn : Nat) (Hn : Nat) xs) (by omega) (by omega)
  omega
 have hk54 : k54 = pk.length := by have := hPk46.len; rw [bytes_length] at this; exact this
 subst hk54
 have hc55 : pk.length ≤ k55 := hPk46.2.1
 have hol7 : out46.length ≤ 1000 := by rw [← hout7, List.length_append]; simp; omega
 refine calls_slices_Chunk_byte _ _ _ _ _ _ ?_
 intro b1 v1 hn1 b2 v2 hn2
 have hb1 : b1 = u46.heap.size := hn1.1
 have hb2 : b2 = v1.heap.size := hn2.1
 have hb1s := hn1.size
 have hb2s := hn2.size
 have hE5 : Ext u46 v2 := hn1.ext.trans hn2.ext
 have hc1 : Cs v2 b1 [.slice p21 pk.length k55] := (show Cs v1 b1 [.slice p21 pk.length k55] from hn1.cs).ext hn2.ext
 have hc2' : Cs v2 b2 [i64 255] := hn2.cs
 refine ⟨_, hc2'.cell (i := 0) rfl, brB_f (by simp) ⟨_, _, _, rfl, hE5.keep _, fun k61 w48 hrf I13 Z1 stI stZ hI0 rule => ?_⟩⟩
 have hs5 := hE5.size
 have hk61 := hrf.eq
 have hs48 := hrf.size
 have hE48 := hrf.ext
 refine callF_i (by kernel_rfl) ?_
 have X48 : EAt w48 (fun b => (u26.heap.size ≤ b ∧ b ≠ k35 ∧ b ≠ k51 ∧ b ≠ k58) ∧ (b < w43.heap.size ∨ w44.heap.size ≤ b) ∧ (b < u46.heap.size ∨ w48.heap.size ≤ b)) k32 out46 := ((hX46.lim (fun b hb hl => ⟨⟨hb.1.1.1.1, hb.1.1.1.2, hb.1.1.2, fun e => hb.2 (by simp [e])⟩, hb.1.2, .inl hl⟩) (by omega)).ext hE5).ext hE48
 let J : Nat → World → Prop := fun k u => I13 [] u ∧ K u ∧ w48.heap.size ≤ u.heap.size ∧ EAt u (fun b => (u26.heap.size ≤ b ∧ b ≠ k35 ∧ b ≠ k51 ∧ b ≠ k58) ∧ (b < w43.heap.size ∨ w44.heap.size ≤ b) ∧ (b < u46.heap.size ∨ w48.heap.size ≤ b)) k32 (out46 ++ subU pk k) ∧ OwnS (fun i => w43.heap.size ≤ i ∧ i < w44.heap.size) u p21 pk.length k55 1 (bytes pk) ∧ Cs u b1 [.slice p21 pk.length k55] ∧ Cs u b2 [i64 ((255 : Nat) : Int)]
 have K48 : K w48 := ks (ks K46 (hE5.chg (S := fun _ => False)) fun j hj => hj.elim) (hE48.chg (S := fun _ => False)) fun j hj => hj.elim
 refine ChunkB_iter J (p := p21) (len := pk.length) (cap := k55) (s := 255) (m := (pk.length + 254) / 255) (by omega) (by omega) (fun k => by omega) hc55 (by omega) (fun k u ⟨j1, j2, j3, j4, j5, j6, j7⟩ => ⟨j6.cell (i := 0) rfl, j7.cell (i := 0) rfl⟩) ⟨hI0, K48, Nat.le_refl _, by rw [show subU pk 0 = [] from rfl, List.append_nil]; exact X48, OwnS.chg (T := fun _ => False) hPk46 (hE5.trans hE48).chg fun _ _ _ h => h, hc1.ext hE48, hc2'.ext hE48⟩ (fun k u hk ⟨j1, j2, j3, j4, j5, j6, j7⟩ => ?_) (fun u ⟨j1, j2, j3, j4, j5, j6, j7⟩ => ?_)
 ·refine rule _ _ _ u.drew _ (stI _ _ _ j1 ((Ext.refl u).drew.keep _)) fun y7 y8 w54 hP54 => ?_
  generalize hn : min 255 (pk.length - 255 * k) = n at *
  have c54 : Chg (fun i => i = k61) u w54 := ((Ext.refl u).drew.chg (S := fun i => i = k61)).trans hP54.chg fun i hi _ => hi
  have s54 := c54.size
  have K54 := ks j2 c54 fun j hj => .inl (by have hj : j = k61 := hj; omega)
  have X54 := j4.chg c54 (fun e => by have e : k32 = k61 := e; omega) fun b hb hl e => by have e : b = k61 := e; omega
  have P54 := OwnS.chg j5 c54 fun b hb hl e => by have e : b = k61 := e; omega
  have C1 := j6.chg c54 (fun e => by have e : b1 = k61 := e; omega)
  have C2 := j7.chg c54 (fun e => by have e : b2 = k61 := e; omega)
  have hsl := subU_len pk k
  have hlo : (out46 ++ subU pk k).length ≤ 2 ^ 26 := by rw [List.length_append]; omega
  have hsucc : out46 ++ subU pk (k + 1) = (out46 ++ subU pk k) ++ [((n : Nat) : Int)] ++ part pk (255 * k) n := by rw [subU_succ, hn]; simp
  have hnl : n ≤ 255 ∧ 255 * k + n ≤ pk.length := by omega
  obtain ⟨p25, c65, y1, y2⟩ := X54.obj
  refine ⟨_, _, _, y1.cell (i := 0) rfl, fun k66 hk66 w55 hL55 => ?_⟩
  have kd7 : ∀ {j}, j ∈ [k66, k58, k51, k35, k13, k1] → j = k66 ∨ j = k58 ∨ j = k51 ∨ j = k35 ∨ j = k13 ∨ j = k1 := fun hj => by simpa using hj
  rw [show IntKind.u8.wrap ((n : Nat) : Int) = ((n : Nat) : Int) from wrap_u rfl (by omega) (by simp [IntKind.bits]; omega)]
  refine OwnS.grow' (fs := bytes [((n : Nat) : Int)]) y2 hL55 (fun j hj => by
   rcases kd7 hj with e | e | e | e | e | e
   ·exact .inl (by omega)
   ·exact .inr (by omega)
   ·exact .inr (by omega)
   ·exact .inr (by omega)
   ·exact .inr (by omega)
   ·exact .inr (by omega)) (fun j hj => by omega) (by simp [blocks]) rfl rfl (by omega) (by omega) fun p26 c68 w56 hO56 hc56 hs56 => ?_
  have hpl : (part pk (255 * k) n).length = n := part_length (by omega)
  have P56 := OwnS.chg P54 hc56 fun i hi _ hx => by
   rcases hx with e | e
   ·omega
   ·rcases kd7 e with e | e | e | e | e | e <;> omega
  have hsrc : Sl w56.heap.size w56 p21 (bytes pk) := P56.sl
  have hS : Sl w56.heap.size w56 (slcBase p21 (255 * k) (255 * k + n) 1) (bytes (part pk (255 * k) n)) := by
   have h0 : Sl w56.heap.size w56 p21 (bytes (pk.take (255 * k + n))) := hsrc.pre (by rw [bytes, bytes, List.map_take]; exact List.take_prefix _ _)
   refine h0.part (by rw [bytes_length, List.length_take]; omega) ?_
   simp only [part, bytes, List.map_take, List.map_drop, List.drop_take]
   rw [show 255 * k + n - 255 * k = n by omega]
   exact List.prefix_refl _
  refine ⟨bytes (part pk (255 * k) n), by rw [bytes_length, hpl, Nat.mul_one], bytes_oneAll _, hS.cells, ?_⟩
  refine OwnS.app hO56 (fun b hb hs => hs.2 (by simpa [blocks] using hb)) rfl (by rw [bytes_length, hpl, Nat.mul_one]) (by omega) (by omega) fun p27 c70 w57 hO57 hc57 => ?_
  have nk : ¬ k32 ∈ [k66, k58, k51, k35, k13, k1] := fun hm => by rcases kd7 hm with e | e | e | e | e | e <;> omega
  have D57 := (y1.chg hc56 fun hx => hx.elim X54.ne nk).chg hc57 fun hx => X54.ne hx.1
  have hset := Chg.setCells w57 ⟨k32, 0, none⟩ [.slice p27 ((out46 ++ subU pk k).length + 1 + n) c70] 0
  refine ⟨⟨_, D57.cell (i := 0) rfl⟩, D57.frozen _, nk, fun w58 hP58 hI58 => ?_⟩
  have D58 := (D57.set1 (off := 0) (v := .slice p27 ((out46 ++ subU pk k).length + 1 + n) c70) (by simp)).put hP58 (by omega)
  have s56 := hc56.size
  have s57 := hc57.size
  have s57' := hset.size
  have cA : Chg (fun i => (i = k32 ∨ i = k61) ∨ ((u26.heap.size ≤ i ∧ i ≠ k35 ∧ i ≠ k51 ∧ i ≠ k58) ∧ (i < w43.heap.size ∨ w44.heap.size ≤ i) ∧ (i < u46.heap.size ∨ w48.heap.size ≤ i)) ∨ i ∈ [k66, k58, k51, k35, k13, k1]) w54 w58 := (((hc56.mono fun i hi _ => .inr hi).trans hc57 fun i hi _ => .inr (.inl hi.1)).trans hset fun i hi _ => .inl (.inl hi)).trans hP58.chg fun i hi _ => .inl (.inr hi)
  have s58 := cA.size
  have K58 := ks K54 cA fun j hj => by
   rcases hj with (e | e) | e | e
   ·exact .inl (by omega)
   ·exact .inl (by omega)
   ·exact .inl (by omega)
   ·rcases kd7 e with e | e | e | e | e | e
    ·exact .inl (by omega)
    ·exact .inl (by omega)
    ·exact .inl (by omega)
    ·exact .inl (by omega)
    ·exact .inr (.inr e)
    ·exact .inr (.inl e)
  refine .inl ⟨rfl, hI58, K58, by omega, ⟨⟨p27, c70, ?_, ?_⟩, by omega⟩, ?_, ?_, ?_⟩
  ·rw [hsucc, List.length_append, List.length_append, hpl]; exact D58
  ·rw [hsucc, List.length_append, List.length_append, hpl, bytes_append, bytes_append]
   exact OwnS.mono (OwnS.chg (OwnS.chg hO57 hset fun b hb hl e => by have e : b = k32 := e; rcases hb with hb | hb <;> omega) hP58.chg fun b hb hl e => by have e : b = k61 := e; rcases hb with hb | hb <;> omega) fun b hb hl => by
    rcases hb with hb | hb
    ·exact hb.1
    ·omega
  ·exact OwnS.chg P54 cA fun i hi _ hx => by
    rcases hx with (e | e) | e | e
    ·omega
    ·omega
    ·omega
    ·rcases kd7 e with e | e | e | e | e | e <;> omega
  ·exact C1.chg cA fun hx => by
    rcases hx with (e | e) | e | e
    ·omega
    ·omega
    ·omega
    ·rcases kd7 e with e | e | e | e | e | e <;> omega
  ·exact C2.chg cA fun hx => by
    rcases hx with (e | e) | e | e
    ·omega
    ·omega
    ·omega
    ·rcases kd7 e with e | e | e | e | e | e <;> omega
 ·refine ⟨_, rfl, .inl ⟨j1, fun w60 hP60 => ?_⟩⟩
  have c60 : Chg (fun i => i = k61) u w60 := hP60.chg
  have s60 := c60.size
  have K60 := ks j2 c60 fun j hj => .inl (by have hj : j = k61 := hj; omega)
  have X60 := j4.chg c60 (fun e => by have e : k32 = k61 := e; omega) fun b hb hl e => by have e : b = k61 := e; omega
  have hsl := subU_len pk ((pk.length + 254) / 255)
  have hEnc : encG (Wn : Nat) (Hn : Nat) xs = out46 ++ subU pk ((pk.length + 254) / 255) ++ [0, 59] := by
   rw [← hout7, ← hout6, ← hout5, ← hout4, ← hout3, ← hout2, ← hout]
   simp only [encG, headG, subG, hpal, hsz, hpk, hGe]
  have hlo : (out46 ++ subU pk ((pk.length + 254) / 255)).length ≤ 2 ^ 26 := by rw [List.length_append]; omega
  rw [hEnc] at hR
  generalize hgo : out46 ++ subU pk ((pk.length + 254) / 255) = oo at *
  obtain ⟨p28, c72, y1, y2⟩ := X60.obj
  refine ⟨_, _, _, y1.cell (i := 0) rfl, fun k73 hk73 w61 hL61 => ?_⟩
  have kd7 : ∀ {j}, j ∈ [k73, k58, k51, k35, k13, k1] → j = k73 ∨ j = k58 ∨ j = k51 ∨ j = k35 ∨ j = k13 ∨ j = k1 := fun hj => by simpa using hj
  refine OwnS.grow (fs := bytes [0, 59]) y2 hL61 (fun j hj => by
   rcases kd7 hj with e | e | e | e | e | e
   ·exact .inl (by omega)
   ·exact .inr (by omega)
   ·exact .inr (by omega)
   ·exact .inr (by omega)
   ·exact .inr (by omega)
   ·exact .inr (by omega)) (fun j hj => by omega) (by simp [blocks]) rfl rfl (by omega) (by omega) fun p29 c75 w62 hO62 hc62 w63 hP63 => ?_
  have E62 : Ext w w62 := K60.1.step hc62 fun j hj => by
   rcases hj with e | e
   ·omega
   ·rcases kd7 e with e | e | e | e | e | e <;> omega
  have s62 := hc62.size
  have E63 : Ext w w63 := E62.step hP63.chg fun j hj => by have hj : j = v2.heap.size := hj; omega
  have := hR p29 c75 w63 E63 (by
   rw [List.length_append, bytes_append]
   exact OwnS.mono (OwnS.chg hO62 hP63.chg fun b hb hl e => by have e : b = v2.heap.size := e; have := hb.1; omega) fun b hb hl => by have := hb.1.1.1; omega)
  rw [List.length_append] at this
  exact this
end Go.Proofs.Ytiiaihiliimcoaa
namespace Go.Proofs.Ytiiaihiliimcoaa
open Go Go.Vc Go.RowKit Go.Qn
set_option maxRecDepth 100000
def wkG : List Int := [257, 514, 771, 65535, 9, 9, 9, 0]
theorem wkGok : PxOk wkG := by
 intro x hx
 simp [wkG] at hx
 unfold Byt
 omega
def wkB : List Int := (encR 2 1 wkG).1
theorem wkG1 : (encR 2 1 wkG).2 = 0 := by decide +kernel
theorem wkG2 : decR wkB 2 = (2, 1, [257, 514, 771, 65535, 0, 0, 0, 0], 0) := by decide +kernel
theorem wkG3 : (decR wkB 1).2.2.2 = 11 := by decide +kernel
theorem wkG4 : (decR [71, 73, 70] 9).2.2.2 = 9 := by decide +kernel
end Go.Proofs.Ytiiaihiliimcoaa
namespace Go.Proofs.Ytiiaihiliimcoaa
open Go Go.Vc Go.RowKit Go.Qn
set_option maxRecDepth 100000
set_option maxHeartbeats 2000000
theorem wkB_bs : Bs wkB := by
 have h : (wkB.all fun n => decide (0 ≤ n ∧ n ≤ 255)) = true := by decide +kernel
 exact fun n hn => of_decide_eq_true (List.all_eq_true.1 h n hn)
theorem wkB_len : wkB.length ≤ 100 := by decide +kernel
theorem wakes_spec {w : World} {R : Ending → World → Prop} (hR : ∀ w', Ext w w' → R (.returned (.bool true)) w') : Calls P F.law15_wakes #[] w R := by
 refine calls_law15_wakes _ _ fun k1 w1 hn k2 hk2 w2 hL2 => ?_
 have hE2 : Ext w w2 := hn.ext.step hL2.chg (by have := hn.ext.size; simp; omega)
 have hi1 : Img w1 (some ⟨k1, 0, none⟩) 8 wkG := ⟨hn.cs.sl (off := 0) (by exact List.prefix_refl _) hn.size, rfl⟩
 have hi : Img w2 (some ⟨k1, 0, none⟩) 8 wkG := hi1.ext (hL2.ext (by simpa using hk2))
 have t2 := hL2.there k2 (by simp)
 refine copy_spec hi (by decide) fun p1 c1 w3 hE3 ho3 => ⟨_, _, _, _, _, rfl, hE3.keep _, ?_⟩
 refine Encode_spec (Img.of_ow ho3) ho3.2.1 wkGok fun p2 c2 w4 hE4 ho4 => ?_
 rw [wkG1]
 refine ⟨_, _, _, _, rfl, hE4.keep _, ?_⟩
 have hl := wkB_len
 have s4 := ho4.sl
 have e24 := (hE3.trans hE4)
 change Sl _ _ _ (bytes wkB) at s4
 refine bown_spec s4 rfl (by show wkB.length ≤ _; omega) fun p3 c3 w5 hE5 ho5 => ⟨_, _, _, rfl, hE5.keep _, ?_⟩
 refine gDecode_spec ho5.sl rfl ho5.2.1 wkB_bs fun p4 c4 w6 hE6 ho6 => ?_
 rw [wkG2] at ho6 ⊢
 refine ⟨_, _, _, _, _, _, rfl, hE6.keep _, fun k11 hk11 w7 hL7 => ?_⟩
 have s1 := hn.size
 have s2 := hE2.size
 have s3 := hE3.size
 have s4' := hE4.size
 have s5 := hE5.size
 have s6 := hE6.size
 have s7 := hL7.size
 have P4 : OwnS (fun i => w3.heap.size ≤ i ∧ i < w4.heap.size) w4 p2 wkB.length c2 1 (bytes wkB) := ho4.mono fun i hi hl => ⟨hi, hl⟩
 have P7 := OwnS.chg (OwnS.chg (T := fun _ => False) P4 (hE5.trans hE6).chg fun _ _ _ h => h) hL7.chg fun i hi _ hm => by simp at hm; omega
 have P6 : OwnS (fun i => w5.heap.size ≤ i ∧ i < w6.heap.size) w6 p4 8 c4 1 (px [257, 514, 771, 65535, 0, 0, 0, 0]) := ho6.mono fun i hi hl => ⟨hi, hl⟩
 have P67 := OwnS.chg P6 hL7.chg fun i hi _ hm => by simp at hm; omega
 refine bown_spec P7.sl rfl (by show wkB.length ≤ _; omega) fun p5 c5 w8 hE8 ho8 => ⟨_, _, _, rfl, hE8.keep _, ?_⟩
 refine gDecode_spec ho8.sl rfl ho8.2.1 wkB_bs fun p6 c6 w9 hE9 ho9 => ?_
 rw [wkG3]
 refine ⟨_, _, _, _, _, _, rfl, hE9.keep _, fun k16 hk16 w10 hL10 k17 w11 hn11 => ?_⟩
 have s10 := hL10.size
 have t10a := hL10.there k16 (by simp)
 have t10b := hL10.there k11 (by simp)
 have t10c := hL10.there k2 (by simp)
 have e17 := hn11.1
 refine ⟨_, _, by rw [hn11.1, hn11.2]; exact cells_alloc_new w10 _, by simp; omega, fun w12 hmk => ?_⟩
 have C17 : Cs w11 k17 (bytes [71, 73, 70]) := hn11.cs
 have hS : Sl w11.heap.size w12 (some ⟨k17, 0, none⟩) (bytes [71, 73, 70]) := mk_sl hmk (C17.sl (off := 0) (by exact List.prefix_refl _) hn11.size)
 refine gDecode_spec hS rfl (by decide) (by intro n hn; simp at hn; omega) fun p7 c7 w13 hE13 ho13 => ?_
 rw [wkG4]
 refine ⟨_, _, _, _, _, _, rfl, hE13.keep _, fun k20 hk20 => brB_t (by rfl) ?_⟩
 have s0 := hn.ext.size
 have s8 := hE8.size
 have s9 := hE9.size
 have s11 := hn11.size
 have s12 := hmk.put.size
 have s13 := hE13.size
 have c13 : Chg (fun i => w6.heap.size ≤ i ∨ i = k2) w6 w13 := ((((((hL7.chg.mono (T := fun i => w6.heap.size ≤ i ∨ i = k2) fun i hi _ => by simp at hi; omega).trans (hE8.trans hE9).chg fun i hi _ => hi).trans hL10.chg fun i hi _ => by simp at hi; omega).trans (hn11.ext.chg (S := fun _ => False)) fun i hi _ => hi.elim).trans hmk.put.chg fun i hi _ => by have hi : i = k17 := hi; omega).trans (hE13.chg (S := fun _ => False)) fun i hi _ => hi.elim)
 obtain ⟨_, hle, hx⟩ := OwnS.chg P6 c13 fun i hi _ hm => by omega
 rcases hx with hx | ⟨b4, rest, hb4, hp4, _, hC4⟩
 ·omega
 have key : ∀ w14, Locl [k20, k16, k11, k2] w13 w14 → Ext w w14 ∧ Cs w14 b4 (px [257, 514, 771, 65535, 0, 0, 0, 0] ++ rest) := fun w14 hL14 =>
  ⟨((((hE2.trans hE3).trans hE4).trans hE5).trans hE6).step (c13.trans hL14.chg fun i hi _ => by simp at hi; omega) fun i hi => by omega, hC4.locl hL14 (by simp; omega)⟩
 rw [hp4]
 refine idx_i (a := ⟨b4, 0, none⟩) (by decide) (by decide) rfl fun w14 hL14 => ?_
 obtain ⟨hE14, hA⟩ := key w14 hL14
 refine ⟨_, hA.cell (i := 2) rfl, brB_t (by decide) ?_⟩
 refine idx_i (a := ⟨b4, 0, none⟩) (by decide) (by decide) rfl ⟨_, hA.cell (i := 3) rfl, brB_t (by decide) ?_⟩
 refine idx_i (a := ⟨b4, 0, none⟩) (by decide) (by decide) rfl ⟨_, hA.cell (i := 4) rfl, ?_⟩
 refine idx_i (a := ⟨b4, 0, none⟩) (by decide) (by decide) rfl ⟨_, hA.cell (i := 7) rfl, ?_⟩
 exact hR w14 hE14
end Go.Proofs.Ytiiaihiliimcoaa
namespace Go.Proofs.Ytiiaihiliimcoaa
open Go Go.Vc Go.RowKit Go.ChangeShapes Go.WideShapes Go.Joins
set_option maxRecDepth 100000
theorem own_ : ownKnob Try.prog.godebug = none := by kernel_rfl
theorem laidOut : laidOutB Try.prog = true := by kernel_rfl
theorem bytes5 : Try.prog.bytesOf 5 = 1 := by kernel_rfl
theorem reach47 : reachBytes + 4096 ≤ 2 ^ 47 := by decide
structure BytesOk (W : World) (b : Option Addr) (len cap : Nat) (xs : List Int) : Prop where
 long : len = xs.length
 cap : len ≤ cap
 sl : Sl W.heap.size W b (bytes xs)
 fit : Bs xs
 bts : len ≤ reachBytes
theorem BytesOk.sz {W : World} {b : Option Addr} {len cap : Nat} {xs : List Int} (h : BytesOk W b len cap xs) : len + 4096 ≤ 2 ^ 47 := by
 have := h.bts
 have := reach47
 omega
theorem open_ints22 {H : Type} {enc : TypeId × Value → H} {W : World} {base : Nat} {v : Value} {d : DataW H} {p : List MemPlace} (hv : Value.okWide Try.prog W .any base 22 v) (h : DataW.Trod enc Try.prog W 0 (fun _ => true) true 22 v d p)
  (hw : ∀ n ∈ d.weights Try.prog 22, n ≤ reachBytes) :
  ∃ (b : Option Addr) (len cap : Nat) (xs : List Int), v = .slice b len cap ∧ BytesOk W b len cap xs := by
 obtain ⟨a, b, c, rfl⟩ := okWide_slice Try.underlying22 hv
 obtain ⟨fuel, h⟩ := h
 obtain ⟨b, len, cap, xs, e, h1, h2, h3, h4, h5⟩ := cell_ints Try.underlying22 Try.underlying5 (by kernel_rfl) h
 cases e
 have h6 := h5.weight Try.underlying22 hw
 rw [bytes5] at h6
 exact ⟨_, _, _, xs, rfl, ⟨h1, h2, h3, fun n hn => wfu8 (h4 n hn), by omega⟩⟩
end Go.Proofs.Ytiiaihiliimcoaa
namespace Go.Proofs.Ytiiaihiliimcoaa
open Go Go.Vc Go.RowKit Go.Qn
set_option maxRecDepth 100000
set_option maxHeartbeats 1000000
def D8 (c : Co) : Prop := ∃ r g b : Int, (0 ≤ r ∧ r ≤ 255) ∧ (0 ≤ g ∧ g ≤ 255) ∧ (0 ≤ b ∧ b ≤ 255) ∧ c = (257 * r, 257 * g, 257 * b, 65535)
theorem D8.ok {c : Co} (h : D8 c) : CoOk c := by
 obtain ⟨r, g, b, h1, h2, h3, rfl⟩ := h
 exact ⟨⟨by show 0 ≤ 257 * r; omega, by show 257 * r ≤ 65535; omega⟩, ⟨by show 0 ≤ 257 * g; omega, by show 257 * g ≤ 65535; omega⟩, ⟨by show 0 ≤ 257 * b; omega, by show 257 * b ≤ 65535; omega⟩, ⟨by show (0 : Int) ≤ 65535; omega, by show (65535 : Int) ≤ 65535; omega⟩⟩
def Z8 (c : Co) : Prop := c = zeroC ∨ D8 c
theorem setPx_ok {xs : List Int} {k : Nat} {c : Co} (h : PxOk xs) (hc : CoOk c) : PxOk (setPx xs k c) := by
 intro x hx
 simp only [setPx, List.mem_append] at hx
 rcases hx with (hx | hx) | hx
 ·exact h x (List.mem_of_mem_take hx)
 ·simp [coL] at hx
  rcases hx with rfl | rfl | rfl | rfl
  ·exact hc.1
  ·exact hc.2.1
  ·exact hc.2.2.1
  ·exact hc.2.2.2
 ·exact h x (List.mem_of_mem_drop hx)
theorem setPx_get {xs : List Int} {k : Nat} {c : Co} (h : 4 * k + 4 ≤ xs.length) (i : Nat) : (setPx xs k c).getD i 0 = if 4 * k ≤ i ∧ i < 4 * k + 4 then (coL c).getD (i - 4 * k) 0 else xs.getD i 0 := by
 have ht : (xs.take (4 * k)).length = 4 * k := by rw [List.length_take]; omega
 have hc : (coL c).length = 4 := rfl
 unfold setPx
 simp only [List.getD_eq_getElem?_getD]
 by_cases h1 : i < 4 * k
 ·rw [if_neg (by omega), List.append_assoc, List.getElem?_append_left (by omega), List.getElem?_take_of_lt h1]
 ·by_cases h2 : i < 4 * k + 4
  ·rw [if_pos (by omega), List.append_assoc, List.getElem?_append_right (by omega), List.getElem?_append_left (by omega), ht]
  ·rw [if_neg (by omega), List.getElem?_append_right (by rw [List.length_append]; omega), List.length_append, ht, hc, List.getElem?_drop, show 4 * k + 4 + (i - (4 * k + 4)) = i by omega]
theorem colAt_set {xs : List Int} {k : Nat} {c : Co} (h : 4 * k + 4 ≤ xs.length) (j : Nat) : colAt (setPx xs k c) j = if j = k then c else colAt xs j := by
 unfold colAt
 simp only [setPx_get h]
 by_cases e : j = k
 ·subst e
  rw [if_pos rfl, if_pos (by omega), if_pos (by omega), if_pos (by omega), if_pos (by omega)]
  simp [coL, show 4 * j + 1 - 4 * j = 1 by omega, show 4 * j + 2 - 4 * j = 2 by omega, show 4 * j + 3 - 4 * j = 3 by omega]
 ·rw [if_neg e, if_neg (by omega), if_neg (by omega), if_neg (by omega), if_neg (by omega)]
def Pic8 (xs : List Int) : Prop := PxOk xs ∧ ∀ k, Z8 (colAt xs k)
theorem Pic8.set {xs : List Int} {k : Nat} {c : Co} (h : Pic8 xs) (hk : 4 * k + 4 ≤ xs.length) (hc : D8 c) : Pic8 (setPx xs k c) :=
 ⟨setPx_ok h.1 hc.ok, fun j => by
  rw [colAt_set hk]
  split
  ·exact .inr hc
  ·exact h.2 j⟩
theorem Pic8.zero (n : Nat) : Pic8 (List.replicate n 0) := by
 have e : ∀ i, (List.replicate n (0 : Int)).getD i 0 = 0 := fun i => by
  rw [List.getD_eq_getElem?_getD, List.getElem?_replicate]
  split <;> rfl
 refine ⟨fun x hx => ?_, fun k => .inl ?_⟩
 ·rw [List.eq_of_mem_replicate hx]; exact ⟨by omega, by omega⟩
 ·unfold colAt
  simp only [e]; rfl
theorem colB_d8 {b : List Int} (h : Bs b) (k i : Nat) : D8 (colB b k i) := ⟨_, _, _, bget h _, bget h _, bget h _, rfl⟩
theorem palU_d8 {b : List Int} (h : Bs b) (k n : Nat) : ∀ c, c ∈ palU b k n → D8 c := by
 intro c hc
 simp only [palU, List.mem_map] at hc
 obtain ⟨i, -, rfl⟩ := hc
 exact colB_d8 h k i
theorem paint_pic {pal : List Co} {clear : Int} {W x y w : Nat} {rows idx : List Int} (hp : ∀ c, c ∈ pal → D8 c) (hi0 : ∀ j, 0 ≤ idx.getD j 0) : ∀ {n i : Nat} {px px' : List Int}, paintF pal clear W x y w rows idx n i px = some px' → (∀ j, i ≤ j → j < i + n → 4 * ((y + (rows.getD (j / w) 0).toNat) * W + x + j % w) + 4 ≤ px.length) → Pic8 px → px'.length = px.length ∧ Pic8 px'
 | 0, i, px, px', h, _, hq => by cases h; exact ⟨rfl, hq⟩
 | n + 1, i, px, px', h, hb, hq => by
  rw [paintF] at h
  split at h
  ·cases h
  rename_i hlt
  have hk := hb i (by omega) (by omega)
  have h0 := hi0 i
  have hm : pal.getD (idx.getD i 0).toNat zeroC ∈ pal := by
   have : (idx.getD i 0).toNat < pal.length := by omega
   rw [List.getD_eq_getElem?_getD, List.getElem?_eq_getElem this]
   exact List.getElem_mem _
  have step : (if idx.getD i 0 = clear then px else setPx px ((y + (rows.getD (i / w) 0).toNat) * W + x + i % w) (pal.getD (idx.getD i 0).toNat zeroC)).length = px.length ∧ Pic8 (if idx.getD i 0 = clear then px else setPx px ((y + (rows.getD (i / w) 0).toNat) * W + x + i % w) (pal.getD (idx.getD i 0).toNat zeroC)) := by
   split
   ·exact ⟨rfl, hq⟩
   ·exact ⟨setPx_len hk, hq.set hk (hp _ hm)⟩
  obtain ⟨h1, h2⟩ := paint_pic hp hi0 h (fun j hj hj2 => by rw [step.1]; exact hb j (by omega) (by omega)) step.2
  exact ⟨h1.trans step.1, h2⟩
theorem place_in {W H x y w h j : Nat} {rows : List Int} (hx : x + w ≤ W) (hy : y + h ≤ H) (hr : rows.length = h) (hm : ∀ z, z ∈ rows → 0 ≤ z ∧ z < h) (hj : j < w * h) : 4 * ((y + (rows.getD (j / w) 0).toNat) * W + x + j % w) + 4 ≤ 4 * (W * H) := by
 have hw : 0 < w := by
  rcases Nat.eq_zero_or_pos w with e | e
  ·rw [e, Nat.zero_mul] at hj; omega
  ·exact e
 have h1 : j / w < h := Nat.div_lt_of_lt_mul hj
 have h2 := Nat.mod_lt j hw
 have h3 := hm (rows.getD (j / w) 0) (by
  rw [List.getD_eq_getElem?_getD, List.getElem?_eq_getElem (by omega)]
  exact List.getElem_mem _)
 have h4 := Nat.mul_le_mul_right W (show y + (rows.getD (j / w) 0).toNat + 1 ≤ H by omega)
 rw [Nat.succ_mul, Nat.mul_comm H W] at h4
 omega
theorem picM_pic {b : List Int} {k W H : Nat} {pal : List Co} {clear : Int} {xs xs' : List Int} (hb : Bs b) (hx : xs.length = 4 * (W * H)) (hq : Pic8 xs) (hp : ∀ c, c ∈ pal → D8 c) (h : picM b k W H pal clear xs = some xs') : xs'.length = xs.length ∧ Pic8 xs' := by
 unfold picM at h
 split at h
 ·cases h
 split at h
 ·cases h
 rename_i hg
 split at h
 ·cases h
 have hp' : ∀ c, c ∈ (if 128 ≤ b.getD (k + 8) 0 then palU b (k + 9) (palN (b.getD (k + 8) 0)) else pal) → D8 c := fun c hc => by
  split at hc
  ·exact palU_d8 hb _ _ c hc
  ·exact hp c hc
 simp only at h
 generalize (if 128 ≤ b.getD (k + 8) 0 then palU b (k + 9) (palN (b.getD (k + 8) 0)) else pal) = pal' at h hp'
 generalize (if 128 ≤ b.getD (k + 8) 0 then k + 9 + 3 * palN (b.getD (k + 8) 0) else k + 9) = k' at h
 split at h
 ·cases h
 split at h
 ·cases h
 rename_i l e hl
 split at h
 ·cases h
 rename_i hn
 have r0 := twoM_range hb k
 have r2 := twoM_range hb (k + 2)
 have hlen := rowsM_len (twoM b (k + 6)).toNat (decide (64 ≤ b.getD (k + 8) 0 % 128))
 have hb2 : ∀ x, x ∈ l.flatten → 0 ≤ x ∧ x ≤ 255 := fun z hz => by
  obtain ⟨m, hm1, hm2⟩ := List.mem_flatten.1 hz
  exact (blkF_ok hb (show blkF b (b.length + 1) _ = some (l, e) from hl)).2.2.1 m hm1 z hm2
 refine paint_pic (W := W) hp' (fun j => (bget (gifR_bs hb2) j).1) h (fun j _ hj => ?_) hq
 rw [hx]
 refine place_in (h := (twoM b (k + 6)).toNat) (by omega) (by omega) hlen (fun z hz => rowsM_mem hz) ?_
 have he : ((gifR l.flatten (b.getD k' 0) (twoM b (k + 4) * twoM b (k + 6))).1.length : Int) = twoM b (k + 4) * twoM b (k + 6) := by
  rcases Decidable.em (((gifR l.flatten (b.getD k' 0) (twoM b (k + 4) * twoM b (k + 6))).1.length : Int) = twoM b (k + 4) * twoM b (k + 6)) with e | e
  ·exact e
  ·exact (hn (.inr (.inl e))).elim
 have e2 : (((twoM b (k + 4)).toNat * (twoM b (k + 6)).toNat : Nat) : Int) = twoM b (k + 4) * twoM b (k + 6) := by
  rw [Int.natCast_mul, Int.toNat_of_nonneg (by omega), Int.toNat_of_nonneg (by omega)]
 omega
theorem steps_pic {b : List Int} {W H : Nat} {pal : List Co} (hb : Bs b) (hp : ∀ c, c ∈ pal → D8 c) : ∀ {f k : Nat} {clear : Int} {xs : List Int}, stepsF b W H pal f k clear = some xs → xs.length = 4 * (W * H) ∧ Pic8 xs
 | 0, k, clear, xs, h => by cases h
 | f + 1, k, clear, xs, h => by
  rw [stepsF] at h
  split at h
  ·cases h
  split at h
  ·split at h
   ·cases h
   ·exact steps_pic hb hp h
  split at h
  ·have := picM_pic hb (by rw [List.length_replicate]) (Pic8.zero _) hp h
   rw [List.length_replicate] at this
   exact this
  ·cases h
theorem decR_cases {b : List Int} (hb : Bs b) (most : Int) : (∃ e, e ≠ 0 ∧ decR b most = (0, 0, [], e)) ∨ ∃ W H xs, decR b most = (W, H, xs, 0) ∧ good W H xs = true ∧ Pic8 xs ∧ W * H ≤ most := by
 unfold decR
 split
 ·exact .inl ⟨11, by decide, rfl⟩
 split
 ·exact .inl ⟨9, by decide, rfl⟩
 rename_i hh
 split
 ·exact .inl ⟨11, by decide, rfl⟩
 rename_i hs
 split
 ·exact .inl ⟨9, by decide, rfl⟩
 rename_i xs hx
 have hh : headOk b = true := by simpa using hh
 simp only [headOk, Bool.and_eq_true, decide_eq_true_eq] at hh
 obtain ⟨⟨⟨⟨h1, h2⟩, h3⟩, h4⟩, h5⟩ := hh
 have hp : ∀ c, c ∈ (if 128 ≤ b.getD 10 0 then palU b 13 (palN (b.getD 10 0)) else []) → D8 c := fun c hc => by
  split at hc
  ·exact palU_d8 hb _ _ c hc
  ·cases hc
 obtain ⟨g1, g2⟩ := steps_pic hb hp hx
 refine .inr ⟨_, _, _, rfl, ?_, g2, by omega⟩
 unfold good
 rw [Bool.and_eq_true, gfits_iff, decide_eq_true_eq]
 refine ⟨⟨h3, h4, by omega, by omega, by omega⟩, ?_⟩
 rw [g1, Int.natCast_mul, Int.natCast_mul, Int.toNat_of_nonneg (by omega), Int.toNat_of_nonneg (by omega)]
 rfl
theorem good_len {W H : Int} {xs : List Int} (h : good W H xs = true) : xs.length ≤ 262144 ∧ (xs.length : Int) = 4 * (W * H) ∧ gfits W H = true := by
 unfold good at h
 rw [Bool.and_eq_true, decide_eq_true_eq] at h
 have := gfits_iff.1 h.1
 exact ⟨by omega, h.2, h.1⟩
theorem decR_pic {b : List Int} (hb : Bs b) (most : Int) : Pic8 (decR b most).2.2.1 := by
 rcases decR_cases hb most with ⟨e, _, he⟩ | ⟨W, H, xs, he, hg, hp, -⟩
 ·rw [he]; exact Pic8.zero 0
 ·rw [he]; exact hp
end Go.Proofs.Ytiiaihiliimcoaa
namespace Go.Proofs.Ytiiaihiliimcoaa
open Go Go.Vc Go.RowKit Go.Qn
set_option maxRecDepth 100000
set_option maxHeartbeats 1000000
def At (b : List Int) (k : Nat) (l : List Int) : Prop := ∃ post, b.drop k = l ++ post
theorem At.left {b : List Int} {k : Nat} {l m : List Int} (h : At b k (l ++ m)) : At b k l := by
 obtain ⟨p, h⟩ := h
 exact ⟨m ++ p, by rw [h, List.append_assoc]⟩
theorem At.right {b : List Int} {k : Nat} {l m : List Int} (h : At b k (l ++ m)) : At b (k + l.length) m := by
 obtain ⟨p, h⟩ := h
 exact ⟨p, by rw [← List.drop_drop, h, List.append_assoc, List.drop_left]⟩
theorem At.tail {b : List Int} {k : Nat} {x : Int} {l : List Int} (h : At b k (x :: l)) : At b (k + 1) l := At.right (l := [x]) h
theorem At.get {b : List Int} {k i : Nat} {l : List Int} (h : At b k l) (hi : i < l.length) : b.getD (k + i) 0 = l.getD i 0 ∧ k + i < b.length := by
 obtain ⟨p, h⟩ := h
 have e : b[k + i]? = l[i]? := by rw [← List.getElem?_drop, h, List.getElem?_append_left hi]
 refine ⟨by rw [List.getD_eq_getElem?_getD, e, List.getD_eq_getElem?_getD], ?_⟩
 rw [List.getElem?_eq_getElem hi] at e
 exact (List.getElem?_eq_some_iff.1 e).1
theorem At.head {b : List Int} {k : Nat} {x : Int} {l : List Int} (h : At b k (x :: l)) : b.getD k 0 = x ∧ k < b.length := At.get (i := 0) h (Nat.succ_pos _)
theorem At.len {b : List Int} {k : Nat} {l : List Int} (h : At b k l) (h0 : 0 < l.length) : k + l.length ≤ b.length := by
 have := (h.get (i := l.length - 1) (by omega)).2
 omega
theorem At.part {b : List Int} {k : Nat} {l : List Int} (h : At b k l) : part b k l.length = l := by
 obtain ⟨p, h⟩ := h
 unfold Go.Proofs.Ytiiaihiliimcoaa.part
 rw [h, List.take_left]
theorem At.two {b : List Int} {k : Nat} {v : Int} (h : At b k (two2 v)) (h0 : 0 ≤ v) (h1 : v ≤ 65535) : twoM b k = v := by
 have e0 := (h.get (i := 0) (show 0 < 2 by omega)).1
 have e1 := (h.get (i := 1) (show 1 < 2 by omega)).1
 unfold twoM
 rw [show k = k + 0 from rfl, e0, show k + 0 + 1 = k + 1 from rfl, e1]
 show v % 256 + 256 * (v / 256 % 256) = v
 omega
theorem subG_nil : subG [] = [] := rfl
theorem subG_step {bs : List Int} (h : bs ≠ []) : subG bs = (((min 255 bs.length : Nat) : Int) :: bs.take 255) ++ subG (bs.drop 255) := by
 have hl : 0 < bs.length := List.length_pos_iff.2 h
 obtain ⟨n, hn⟩ : ∃ n, (bs.length + 254) / 255 = n + 1 := ⟨(bs.length + 254) / 255 - 1, by omega⟩
 have hn' : ((bs.drop 255).length + 254) / 255 = n := by rw [List.length_drop]; omega
 unfold subG
 rw [hn, hn']
 unfold subU
 rw [List.range_succ_eq_map, List.map_cons, List.flatten_cons, List.map_map]
 have e0 : part bs (255 * 0) (min 255 (bs.length - 255 * 0)) = bs.take 255 := by
  unfold part
  rw [Nat.mul_zero, List.drop_zero, Nat.sub_zero, ← List.take_take, List.take_length]
 rw [e0]
 congr 2
 apply List.map_congr_left
 intro k hk
 show _ = _
 simp only [Function.comp]
 rw [List.length_drop, show bs.length - 255 * (k + 1) = bs.length - 255 - 255 * k by omega]
 unfold part
 rw [List.drop_drop, show 255 + 255 * k = 255 * (k + 1) by omega]
theorem blk_at {b : List Int} : ∀ (n : Nat) (bs : List Int) (k : Nat), bs.length ≤ n → At b k (subG bs ++ [0]) → ∃ l e, blkM b k = some (l, e) ∧ l.flatten = bs
 | n, [], k, _, hA => by
  rw [subG_nil, List.nil_append] at hA
  have := hA.head
  rw [blkM_step, if_neg (by omega), if_pos this.1]
  exact ⟨[], _, rfl, rfl⟩
 | 0, x :: r, k, h, _ => by simp at h
 | n + 1, x :: r, k, h, hA => by
  rw [subG_step (by simp), List.append_assoc] at hA
  have hlen : ((x :: r).take 255).length = min 255 (x :: r).length := by rw [List.length_take]
  have h1 : 0 < (x :: r).length := Nat.succ_pos _
  have hL := hA.left
  obtain ⟨a1, a2⟩ := hL.head
  have hT := hL.tail
  have hR := hA.right
  rw [List.length_cons, hlen] at hR
  have a3 := hT.len (by rw [hlen]; omega)
  rw [hlen] at a3
  have a4 := hT.part
  rw [hlen] at a4
  obtain ⟨l, e, g1, g2⟩ := blk_at n ((x :: r).drop 255) _ (by rw [List.length_drop]; simp only [List.length_cons] at h ⊢; omega) hR
  rw [show k + (min 255 (x :: r).length + 1) = k + 1 + min 255 (x :: r).length by omega] at g1
  rw [blkM_step, if_neg (by omega), a1, if_neg (by omega), Int.toNat_natCast, if_neg (by omega), g1, a4]
  exact ⟨_, e, rfl, by rw [List.flatten_cons, g2, List.take_append_drop]⟩
theorem upto_get {H m : Nat} (h : m < H) : (upto H).getD m 0 = m := by
 unfold upto
 rw [List.getD_eq_getElem?_getD, List.getElem?_map, List.getElem?_range h]; rfl
theorem paint_all {pal : List Co} {clear : Int} {W H : Nat} {idx : List Int} (hW : 0 < W) (hidx : ∀ j, j < W * H → 0 ≤ idx.getD j 0 ∧ idx.getD j 0 < pal.length) : ∀ (n i : Nat) (px : List Int), i + n = W * H → px.length = 4 * (W * H) →
  ∃ px', paintF pal clear W 0 0 W (upto H) idx n i px = some px' ∧ px'.length = 4 * (W * H) ∧ ∀ j, colAt px' j = if i ≤ j ∧ j < W * H ∧ idx.getD j 0 ≠ clear then pal.getD (idx.getD j 0).toNat zeroC else colAt px j
 | 0, i, px, hi, hp => ⟨px, rfl, hp, fun j => by rw [if_neg (by omega)]⟩
 | n + 1, i, px, hi, hp => by
  have hid := hidx i (by omega)
  have hdv : i / W < H := Nat.div_lt_of_lt_mul (by omega)
  have hpl : (0 + ((upto H).getD (i / W) 0).toNat) * W + 0 + i % W = i := by
   rw [upto_get hdv, Int.toNat_natCast, Nat.zero_add, Nat.add_zero, Nat.mul_comm]
   exact Nat.div_add_mod i W
  rw [paintF, if_neg (by omega), hpl]
  by_cases hc : idx.getD i 0 = clear
  ·rw [if_pos hc]
   obtain ⟨q, h1, h2, h3⟩ := paint_all hW hidx n (i + 1) px (by omega) hp
   refine ⟨q, h1, h2, fun j => ?_⟩
   rw [h3]
   by_cases e : j = i
   ·subst e; rw [if_neg (by omega), if_neg (fun hx => hx.2.2 hc)]
   ·by_cases g : i + 1 ≤ j ∧ j < W * H ∧ idx.getD j 0 ≠ clear
    ·rw [if_pos g, if_pos ⟨by omega, g.2⟩]
    ·rw [if_neg g, if_neg (fun hx => g ⟨by omega, hx.2⟩)]
  ·rw [if_neg hc]
   have hk : 4 * i + 4 ≤ px.length := by omega
   obtain ⟨q, h1, h2, h3⟩ := paint_all hW hidx n (i + 1) (setPx px i (pal.getD (idx.getD i 0).toNat zeroC)) (by omega) (by rw [setPx_len hk]; exact hp)
   refine ⟨q, h1, h2, fun j => ?_⟩
   rw [h3, colAt_set hk]
   by_cases e : j = i
   ·subst e; rw [if_neg (by omega), if_pos rfl, if_pos ⟨by omega, by omega, hc⟩]
   ·rw [if_neg e]
    by_cases g : i + 1 ≤ j ∧ j < W * H ∧ idx.getD j 0 ≠ clear
    ·rw [if_pos g, if_pos ⟨by omega, g.2⟩]
    ·rw [if_neg g, if_neg (fun hx => g ⟨by omega, hx.2⟩)]
def entC (pal : List Co) (i : Nat) : Co :=
 let c := if i < pal.length ∧ (pal.getD i zeroC).2.2.2 ≠ 0 then pal.getD i zeroC else pal.getD 0 zeroC
 (257 * (c.1 / 256 % 256), 257 * (c.2.1 / 256 % 256), 257 * (c.2.2.1 / 256 % 256), 65535)
theorem ent_at {b : List Int} {k : Nat} {pal : List Co} : ∀ (n : Nat), At b k (entG pal n) → palU b k n = (List.range n).map (entC pal)
 | 0, _ => rfl
 | n + 1, h => by
  rw [entG_succ] at h
  have h1 := h.left
  have h2 := h.right
  rw [entG_len] at h2
  rw [palU_succ, ent_at n h1, List.range_succ, List.map_append]
  congr 1
  have a0 := (h2.get (i := 0) (show 0 < 3 by omega)).1
  have a1 := (h2.get (i := 1) (show 1 < 3 by omega)).1
  have a2 := (h2.get (i := 2) (show 2 < 3 by omega)).1
  show [colB b k n] = [entC pal n]
  unfold colB entC
  rw [show k + 3 * n = k + 3 * n + 0 from rfl, a0, show k + 3 * n + 0 + 1 = k + 3 * n + 1 from rfl, a1, show k + 3 * n + 0 + 2 = k + 3 * n + 2 from rfl, a2]
  rfl
theorem size_range (n : Nat) (h : n ≤ 256) : 1 ≤ sizeG n ∧ sizeG n ≤ 8 ∧ n ≤ 2 ^ sizeG n := by
 unfold sizeG
 repeat' split
 all_goals simp only [Nat.reducePow]
 all_goals omega
theorem palG_len {W H : Int} {xs : List Int} : (palG W H xs).length ≤ 256 := by
 unfold palG pal0G
 split
 ·have := @palR_most W H 255 xs
  rw [List.length_append]
  simp only [List.length_cons, List.length_nil]
  omega
 ·exact palR_len
theorem pal0_len {W H : Int} {xs : List Int} : (pal0G W H xs).length ≤ (palG W H xs).length := by
 unfold palG
 split
 ·rw [List.length_append]; omega
 ·exact Nat.le_refl _
theorem idxV_lt {pal : List Co} (h1 : 1 ≤ pal.length) (h2 : pal.length ≤ 256) (c : Co) : idxV pal c = (if noneV pal < 0 ∨ clearC c = false then nearV pal (eightC c) else noneV pal) ∧ 0 ≤ idxV pal c ∧ idxV pal c < pal.length := by
 have hn := nearN_range pal (eightC c) pal.length
 have hv : nearV pal (eightC c) = nearN pal (eightC c) pal.length := rfl
 have hm := noneV_range pal
 have hw : ∀ y : Int, 0 ≤ y → y ≤ 255 → IntKind.u8.wrap y = y := fun y h0 h1 => by rw [IntKind.wrap]; simp [IntKind.signed, IntKind.bits]; omega
 unfold idxV
 split
 ·rw [hw _ (by omega) (by omega)]; omega
 ·rw [hw _ (by omega) (by omega)]; omega
theorem appR_get {W H : Int} {xs : List Int} {pal : List Co} (hb : good W H xs = true) (h1 : 1 ≤ pal.length) (h2 : pal.length ≤ 256) : appR W H xs pal = (W, H, pal, (colsOf xs (W * H).toNat).map (idxV pal), 0) := by
 unfold appR
 rw [if_pos hb, if_neg (by omega)]
theorem cols_get {xs : List Int} {n j : Nat} {f : Co → Int} (hj : j < n) : ((colsOf xs n).map f).getD j 0 = f (colAt xs j) := by
 unfold colsOf
 rw [List.map_map, List.getD_eq_getElem?_getD, List.getElem?_map, List.getElem?_range hj]; rfl
theorem idxG_get {W H : Int} {xs : List Int} (hb : good W H xs = true) {j : Nat} (hj : j < (W * H).toNat) :
  (idxG W H xs).getD j 0 = (if goneM xs = true ∧ 1 ≤ (pal0G W H xs).length ∧ clearC (colAt xs j) = false then idxV (pal0G W H xs) (colAt xs j) else idxV (palG W H xs) (colAt xs j)) := by
 have p1 := palG_pos hb
 have p2 := @palG_len W H xs
 have p3 := @pal0_len W H xs
 have hA := appR_get hb p1 p2
 have hl : ((colsOf xs (W * H).toNat).map (idxV (palG W H xs))).length = (W * H).toNat := by simp [colsOf]
 unfold idxG
 by_cases hg : goneM xs = true
 ·rw [if_pos hg]
  unfold idxU
  rw [hA]
  simp only
  rw [hl, List.getD_eq_getElem?_getD, List.getElem?_map, List.getElem?_range hj]
  simp only [Option.map_some, Option.getD_some]
  rw [cols_get hj]
  by_cases h0 : 1 ≤ (pal0G W H xs).length
  ·rw [appR_get hb h0 (by omega)]
   simp only
   rw [cols_get hj]
   by_cases hc : clearC (colAt xs j) = false
   ·have hc' : 32768 ≤ xs.getD (4 * j + 3) 0 := by
     have := of_decide_eq_false hc
     have e : (colAt xs j).2.2.2 = xs.getD (4 * j + 3) 0 := rfl
     omega
    rw [if_pos ⟨hj, trivial, hc'⟩, if_pos ⟨hg, h0, hc⟩]
   ·have hc' : ¬ 32768 ≤ xs.getD (4 * j + 3) 0 := fun hx => hc (decide_eq_false (by
     have e : (colAt xs j).2.2.2 = xs.getD (4 * j + 3) 0 := rfl
     omega))
    rw [if_neg (fun hx => hc' hx.2.2), if_neg (fun hx => hc hx.2.2)]
  ·have he : (appR W H xs (pal0G W H xs)).2.2.2.2 = 2 := by
    unfold appR
    rw [if_pos hb, if_pos (.inl (by omega))]
   rw [he, if_neg (fun hx => absurd hx.2.1 (by decide)), if_neg (fun hx => h0 hx.2.1)]
 ·rw [if_neg hg, if_neg (fun hx => hg hx.1), hA]
  simp only
  rw [cols_get hj]
theorem idxG_lt {W H : Int} {xs : List Int} (hb : good W H xs = true) {j : Nat} (hj : j < (W * H).toNat) : 0 ≤ (idxG W H xs).getD j 0 ∧ (idxG W H xs).getD j 0 < (palG W H xs).length := by
 have p1 := palG_pos hb
 have p2 := @palG_len W H xs
 have p3 := @pal0_len W H xs
 rw [idxG_get hb hj]
 split
 ·rename_i h
  have := (idxV_lt h.2.1 (by omega) (colAt xs j)).2
  omega
 ·exact (idxV_lt p1 p2 (colAt xs j)).2
theorem idxG_length {W H : Int} {xs : List Int} (hb : good W H xs = true) : (idxG W H xs).length = (W * H).toNat := by
 rw [idxG_len, appR_get hb (palG_pos hb) palG_len]
 simp [colsOf]
end Go.Proofs.Ytiiaihiliimcoaa
namespace Go.Proofs.Ytiiaihiliimcoaa
open Go Go.Vc Go.RowKit Go.Qn
set_option maxRecDepth 100000
set_option maxHeartbeats 1000000
theorem two_pow8 {s : Nat} (h1 : 1 ≤ s) (h8 : s ≤ 8) : 2 ≤ 2 ^ s ∧ 2 ^ s ≤ 256 ∧ palN ((127 + s : Nat) : Int) = 2 ^ s := by
 have : ∀ s : Nat, s < 9 → 1 ≤ s → 2 ≤ 2 ^ s ∧ 2 ^ s ≤ 256 ∧ palN ((127 + s : Nat) : Int) = 2 ^ s := by decide
 exact this s (by omega) h1
theorem gif_round {W H : Int} {xs : List Int} (hb : good W H xs = true) : ∃ n : Nat, n = max (sizeG (palG W H xs).length) 2 ∧ 2 ≤ n ∧ n < 9 ∧
  (gifPackR (idxG W H xs) ((n : Nat) : Int)).1.length ≤ 3 * (W * H).toNat + 6 ∧ Bs (gifPackR (idxG W H xs) ((n : Nat) : Int)).1 ∧ gifR (gifPackR (idxG W H xs) ((n : Nat) : Int)).1 ((n : Nat) : Int) (W * H) = (idxG W H xs, 0) := by
 have hs := size_range (palG W H xs).length palG_len
 have hbs := idxG_bs W H xs
 have hil := idxG_length hb
 obtain ⟨n, hn⟩ : ∃ n : Nat, n = max (sizeG (palG W H xs).length) 2 := ⟨_, rfl⟩
 have h2 : 2 ≤ n := by omega
 have h9 : n < 9 := by omega
 have hpn : (2 : Nat) ^ sizeG (palG W H xs).length ≤ 2 ^ n := Nat.pow_le_pow_right (by omega) (by omega)
 have hfit : ∀ x, x ∈ idxG W H xs → 0 ≤ x ∧ x < ((2 ^ n : Nat) : Int) := fun x hx => by
  obtain ⟨j, hj, rfl⟩ := List.getElem_of_mem hx
  have h := idxG_lt hb (j := j) (by omega)
  rw [show (idxG W H xs).getD j 0 = (idxG W H xs)[j] by simp [List.getD, List.getElem?_eq_getElem hj]] at h
  omega
 have hf : gfitsB (idxG W H xs) ((n : Nat) : Int) = true := by
  rw [fitsB_iff, Int.toNat_natCast]
  intro i hi
  have h := hfit _ (List.getElem_mem hi)
  rw [show (idxG W H xs).getD i 0 = (idxG W H xs)[i] by simp [List.getD, List.getElem?_eq_getElem hi]]
  have e : ((2 : Int) ^ n) = ((2 ^ n : Nat) : Int) := by simp
  omega
 have hp := pow8 n h2 h9
 have hpk : gifPackR (idxG W H xs) ((n : Nat) : Int) = (packL (idxG W H xs) (2 ^ n) (n + 1) 0 false, 0) := by
  unfold gifPackR
  rw [if_neg (by omega), hf, Int.toNat_natCast]; rfl
 have hg : gfits W H = true := (good_len hb).2.2
 have hg := gfits_iff.1 hg
 have h0 : 0 ≤ W * H := Int.mul_nonneg (by omega) (by omega)
 refine ⟨n, hn, h2, h9, ?_, ?_, ?_⟩
 ·rw [hpk, ← hil]
  exact packL_len hp.2 (wide_gif h2 h9) (by omega) hfit
 ·rw [hpk]; exact packL_bs
 ·rw [hpk]
  unfold gifR lzR
  have hmx : max (W * H) 0 = W * H := by omega
  rw [if_neg (by omega), Int.toNat_natCast, hmx]
  refine Eq.trans (lz_pack hp.2 hp.1 (wide_gif h2 h9) (by omega) hfit h0) ?_
  exact fin_ok (by omega)
theorem subG_len (bs : List Int) : (subG bs).length ≤ 256 * ((bs.length + 254) / 255) := subU_len bs _
theorem encG_len {W H : Int} {xs : List Int} (hb : good W H xs = true) : 13 ≤ (encG W H xs).length ∧ (encG W H xs).length ≤ 400000 := by
 obtain ⟨n, hn, h2, h9, hl, -, -⟩ := gif_round hb
 have hs := size_range (palG W H xs).length palG_len
 have hp := two_pow8 hs.1 hs.2.1
 have hg := gfits_iff.1 (good_len hb).2.2
 have e : (encG W H xs).length = (headG W H xs).length + 2 + (subG (gifPackR (idxG W H xs) ((n : Nat) : Int)).1).length + 2 := by
  rw [hn]
  simp only [encG, List.length_append, List.length_cons, List.length_nil]
 have e2 : (headG W H xs).length = 6 + 2 + 2 + 3 + 3 * 2 ^ sizeG (palG W H xs).length + (if goneM xs then 8 else 0) + 5 + 2 + 2 := by
  simp only [headG, List.length_append, entG_len, two2, sig89, List.length_cons, List.length_nil]
  split <;> rfl
 have h3 := subG_len (gifPackR (idxG W H xs) ((n : Nat) : Int)).1
 rw [e, e2]
 split <;> omega
theorem enc_at {W H : Int} {xs : List Int} (hb : good W H xs = true) : ∃ n : Nat, n = max (sizeG (palG W H xs).length) 2 ∧ 2 ≤ n ∧ n < 9 ∧
  At (encG W H xs) 0 (sig89 ++ (two2 W ++ (two2 H ++ ([((127 + sizeG (palG W H xs).length : Nat) : Int), 0, 0] ++ (entG (palG W H xs) (2 ^ sizeG (palG W H xs).length) ++ ((if goneM xs then [33, 249, 4, 1, 0, 0, (((palG W H xs).length - 1 : Nat) : Int), 0] else []) ++ ([44] ++ ([0, 0] ++ ([0, 0] ++ (two2 W ++ (two2 H ++ ([0, ((n : Nat) : Int)] ++ (subG (gifPackR (idxG W H xs) ((n : Nat) : Int)).1 ++ [0])))))))))))))
  ∧ gifR (gifPackR (idxG W H xs) ((n : Nat) : Int)).1 ((n : Nat) : Int) (W * H) = (idxG W H xs, 0) := by
 obtain ⟨n, hn, h2, h9, hl, hbs, hr⟩ := gif_round hb
 refine ⟨n, hn, h2, h9, ⟨[59], ?_⟩, hr⟩
 rw [List.drop_zero, encG, headG, ← hn]
 simp only [List.append_assoc, List.cons_append, List.nil_append]
theorem decR_enc {W H most : Int} {xs : List Int} (hb : good W H xs = true) (hm : W * H ≤ most) : ∃ Y, decR (encG W H xs) most = (W, H, Y, 0) ∧ Y.length = 4 * (W * H).toNat ∧
  ∀ j, j < (W * H).toNat → colAt Y j = (if goneM xs = true ∧ (idxG W H xs).getD j 0 = (((palG W H xs).length - 1 : Nat) : Int) then zeroC else entC (palG W H xs) ((idxG W H xs).getD j 0).toNat) := by
 obtain ⟨n, hn, h2, h9, A, hr⟩ := enc_at hb
 have hlen := encG_len hb
 have hs := size_range (palG W H xs).length palG_len
 have hp := two_pow8 hs.1 hs.2.1
 obtain ⟨g1, g2, g3, g4, g5⟩ := gfits_iff.1 (good_len hb).2.2
 have p1 := palG_pos hb
 have hil := idxG_length hb
 have hilt := fun j => @idxG_lt W H xs hb j
 obtain ⟨Wn, rfl⟩ := Int.eq_ofNat_of_zero_le (show 0 ≤ W by omega)
 obtain ⟨Hn, rfl⟩ := Int.eq_ofNat_of_zero_le (show 0 ≤ H by omega)
 have eWH : ((Wn : Nat) : Int) * (Hn : Nat) = ((Wn * Hn : Nat) : Int) := by rw [Int.natCast_mul]
 rw [eWH] at hr hm g5 hil hilt ⊢
 rw [Int.toNat_natCast] at hil hilt ⊢
 generalize hS : (2 : Nat) ^ sizeG (palG Wn Hn xs).length = S at *
 generalize hB : encG Wn Hn xs = B at *
 have a0 := A.part
 have a1 := A.left
 have A := A.right
 have b1 := A.left
 have A := A.right
 have c1 := A.left
 have A := A.right
 have d1 := A.left
 have A := A.right
 have e1 := A.left
 have A := A.right
 have l6 : sig89.length = 6 := rfl
 have lt : ∀ v, (two2 v).length = 2 := fun v => rfl
 simp only [l6, lt, entG_len, Nat.zero_add, List.length_cons, List.length_nil] at b1 c1 d1 e1 A
 have hW := b1.two (by omega) (by omega)
 have hH := c1.two (by omega) (by omega)
 have h10 := d1.head.1
 have hE := e1.len (by rw [entG_len]; omega)
 rw [entG_len] at hE
 have hpal := ent_at _ e1
 have ht6 : B.take 6 = sig89 := by
  have := a1.part
  rwa [l6, part, List.drop_zero] at this
 have hhead : headOk B = true := by
  simp only [headOk, Bool.and_eq_true, Bool.or_eq_true, decide_eq_true_eq]
  rw [hW, hH, h10, hp.2.2]
  exact ⟨⟨⟨⟨hlen.1, .inr ht6⟩, g1⟩, g2⟩, .inr (by omega)⟩
 have n0 : ¬ 4194304 < B.length := by omega
 have n1 : ¬ headOk B = false := by rw [hhead]; decide
 have n2 : ¬ (((Wn : Nat) : Int) > 4096 ∨ ((Hn : Nat) : Int) > 4096 ∨ ((Wn : Nat) : Int) * (Hn : Nat) > most ∨ ((Wn : Nat) : Int) * (Hn : Nat) > 65536) := by
  rw [eWH]; omega
 have n3 : (128 : Int) ≤ ((127 + sizeG (palG Wn Hn xs).length : Nat) : Int) := by omega
 have pic : ∀ (k : Nat) (clear : Int), At B k ([44] ++ ([0, 0] ++ ([0, 0] ++ (two2 (Wn : Nat) ++ (two2 (Hn : Nat) ++ ([0, ((n : Nat) : Int)] ++ (subG (gifPackR (idxG Wn Hn xs) ((n : Nat) : Int)).1 ++ [0]))))))) →
   B.getD k 0 = 44 ∧ k < B.length ∧ ∃ Y, picM B (k + 1) Wn Hn ((List.range S).map (entC (palG Wn Hn xs))) clear (List.replicate (4 * (Wn * Hn)) 0) = some Y ∧ Y.length = 4 * (Wn * Hn) ∧
    ∀ j, j < Wn * Hn → colAt Y j = if (idxG Wn Hn xs).getD j 0 ≠ clear then entC (palG Wn Hn xs) ((idxG Wn Hn xs).getD j 0).toNat else zeroC := by
  intro k clear A
  have q0 := A.left.head
  refine ⟨q0.1, q0.2, ?_⟩
  have A := A.right
  have x1 := A.left
  have A := A.right
  have y1 := A.left
  have A := A.right
  have w1 := A.left
  have A := A.right
  have v1 := A.left
  have A := A.right
  have f1 := A.left
  have A := A.right
  simp only [lt, List.length_cons, List.length_nil, Nat.zero_add] at x1 y1 w1 v1 f1 A
  have hx := At.two (v := 0) x1 (by omega) (by omega)
  have hy := At.two (v := 0) y1 (by omega) (by omega)
  have hw := w1.two (by omega) (by omega)
  have hv := v1.two (by omega) (by omega)
  have hf := f1.head
  have hz := f1.tail.head
  obtain ⟨l, e, hl, hfl⟩ := blk_at _ _ _ (Nat.le_refl _) A
  unfold picM
  rw [if_neg (by omega), show k + 1 + 4 = k + 1 + 2 + 2 by omega, hx, hw, hy, show k + 1 + 6 = k + 1 + 2 + 2 + 2 by omega, hv, show k + 1 + 8 = k + 1 + 2 + 2 + 2 + 2 by omega, hf.1, if_neg (by omega), if_neg (by omega)]
  simp only
  rw [if_neg (show ¬ (128 : Int) ≤ 0 by omega), if_neg (show ¬ (128 : Int) ≤ 0 by omega), if_neg (by omega), show k + 1 + 9 + 1 = k + 1 + 2 + 2 + 2 + 2 + 2 by omega, hl]
  simp only
  rw [show k + 1 + 9 = k + 1 + 2 + 2 + 2 + 2 + 1 by omega, hz.1, hfl, eWH, hr]
  simp only
  rw [if_neg (fun hx => by
   rcases hx with hx | hx | hx
   ·exact hx rfl
   ·exact hx (by omega)
   ·have := congrArg List.length hx
    simp at this
    omega)]
  simp only [Int.toNat_natCast, Int.toNat_zero]
  have hrow : rowsM Hn (decide ((64 : Int) ≤ 0 % 128)) = upto Hn := rfl
  rw [hrow, hil]
  have hWp : 0 < Wn := by omega
  obtain ⟨Y, h1, h2, h3⟩ := paint_all (pal := (List.range S).map (entC (palG Wn Hn xs))) (clear := clear) (idx := idxG Wn Hn xs) hWp (fun j hj => by
   have := hilt j hj
   rw [List.length_map, List.length_range]
   omega) (Wn * Hn) 0 (List.replicate (4 * (Wn * Hn)) 0) (by omega) (List.length_replicate)
  refine ⟨Y, h1, h2, fun j hj => ?_⟩
  have hij := hilt j hj
  rw [h3]
  by_cases hc : (idxG Wn Hn xs).getD j 0 ≠ clear
  ·rw [if_pos ⟨by omega, hj, hc⟩, if_pos hc, List.getD_eq_getElem?_getD, List.getElem?_map, List.getElem?_range (by omega)]; rfl
  ·rw [if_neg (fun hx => hc hx.2.2), if_neg hc]
   unfold colAt
   have e : ∀ i, (List.replicate (4 * (Wn * Hn)) (0 : Int)).getD i 0 = 0 := fun i => by
    rw [List.getD_eq_getElem?_getD, List.getElem?_replicate]
    split <;> rfl
   simp only [e]; rfl
 have fin : ∀ (clear : Int) (Y : List Int), stepsF B Wn Hn ((List.range S).map (entC (palG Wn Hn xs))) (B.length + 1) (13 + 3 * S) (-1) = some Y → decR B most = (((Wn : Nat) : Int), ((Hn : Nat) : Int), Y, 0) := by
  intro clear Y h
  unfold decR
  rw [if_neg n0, if_neg n1, hW, hH, if_neg n2, h10, if_pos n3, if_pos n3, hp.2.2, hpal, Int.toNat_natCast, Int.toNat_natCast, h]
 by_cases hg : goneM xs = true
 ·rw [if_pos hg] at A
  obtain ⟨z0, z1⟩ := A.left.head
  have T := A.left.tail
  obtain ⟨z2, z3⟩ := T.head
  have T := T.tail
  obtain ⟨z4, z5⟩ := T.head
  have T := T.tail
  have T4 : At B (6 + 2 + 2 + 3 + 3 * S + 1 + 1 + 1) [1, 0, 0, (((palG Wn Hn xs).length - 1 : Nat) : Int)] := At.left (m := [0]) T
  have z6 := T4.part
  have T0 : At B (6 + 2 + 2 + 3 + 3 * S + 1 + 1 + 1 + 4) [0] := At.right (l := [1, 0, 0, (((palG Wn Hn xs).length - 1 : Nat) : Int)]) T
  obtain ⟨z7, z8⟩ := T0.head
  have A := A.right
  simp only [List.length_cons, List.length_nil, Nat.zero_add] at A z6
  obtain ⟨q1, q2, Y, q3, q4, q5⟩ := pic _ (((palG Wn Hn xs).length - 1 : Nat) : Int) A
  have hext : extM B (13 + 3 * S + 1) (-1) = some ((((palG Wn Hn xs).length - 1 : Nat) : Int), 13 + 3 * S + 8) := by
   unfold extM
   rw [if_neg (by omega)]
   have hbk : blkM B (13 + 3 * S + 1 + 1) = some ([[1, 0, 0, (((palG Wn Hn xs).length - 1 : Nat) : Int)]], 13 + 3 * S + 8) := by
    rw [show 13 + 3 * S + 1 + 1 = 6 + 2 + 2 + 3 + 3 * S + 1 + 1 by omega, blkM_step, if_neg (by omega), z4, if_neg (by decide), show ((4 : Int)).toNat = 4 from rfl, if_neg (by omega), blkM_step, if_neg (by omega), z7, if_pos rfl, z6]
   rw [hbk, show 13 + 3 * S + 1 = 6 + 2 + 2 + 3 + 3 * S + 1 by omega, z2]
   rfl
  refine ⟨Y, fin 0 Y ?_, q4, fun j hj => ?_⟩
  ·rw [stepsF, if_neg (by omega), show 13 + 3 * S = 6 + 2 + 2 + 3 + 3 * S by omega, z0, if_pos rfl, show 6 + 2 + 2 + 3 + 3 * S = 13 + 3 * S by omega, hext]
   obtain ⟨m, hm⟩ : ∃ m, B.length = m + 1 := ⟨B.length - 1, by omega⟩
   rw [hm]
   simp only
   rw [stepsF, show 13 + 3 * S + 8 = 6 + 2 + 2 + 3 + 3 * S + 8 by omega, if_neg (by omega), q1, if_neg (by decide), if_pos rfl]
   exact q3
  ·rw [q5 j hj]
   by_cases hc : (idxG Wn Hn xs).getD j 0 = (((palG Wn Hn xs).length - 1 : Nat) : Int)
   ·rw [if_neg (fun h => h hc), if_pos ⟨hg, hc⟩]
   ·rw [if_pos hc, if_neg (fun h => hc h.2)]
 ·rw [if_neg hg, List.nil_append] at A
  have A := At.right (l := []) A
  simp only [List.length_nil, Nat.add_zero] at A
  obtain ⟨q1, q2, Y, q3, q4, q5⟩ := pic _ (-1) A
  refine ⟨Y, fin 0 Y ?_, q4, fun j hj => ?_⟩
  ·rw [stepsF, if_neg (by omega), show 13 + 3 * S = 6 + 2 + 2 + 3 + 3 * S by omega, q1, if_neg (by decide), if_pos rfl]
   exact q3
  ·have := hilt j hj
   rw [q5 j hj, if_pos (by omega), if_neg (fun h => hg h.1)]
end Go.Proofs.Ytiiaihiliimcoaa
namespace Go.Proofs.Ytiiaihiliimcoaa
open Go Go.Vc Go.RowKit Go.Qn
set_option maxRecDepth 100000
set_option maxHeartbeats 4000000
def fullN (xs : List Int) : Nat → List Co
 | 0 => []
 | n + 1 => if clearC (colAt xs n) then fullN xs n else addC (fullN xs n) (eightC (colAt xs n))
theorem allN_pre {L : List Co} (c : Co) : ∀ n, n ≤ L.length → allN (L ++ [c]) n = allN L n
 | 0, _ => rfl
 | n + 1, h => by
  have ih := allN_pre (L := L) c n (by omega)
  have e : (L ++ [c]).getD n zeroC = L.getD n zeroC := by
   have : n < L.length := by omega
   rw [List.getD, List.getElem?_append_left this]; rfl
  unfold allN
  rw [ih, e]
theorem mem_addC' {l : List Co} {x c : Co} (h : x ∈ l) : x ∈ addC l c := by unfold addC; split <;> simp [h]
theorem allN_mem {L : List Co} : ∀ n j, j < n → clearC (L.getD j zeroC) = false → eightC (L.getD j zeroC) ∈ allN L n
 | 0, j, h, _ => by omega
 | n + 1, j, h, hc => by
  rcases Nat.lt_or_ge j n with g | g
  ·have ih := allN_mem n j g hc
   unfold allN
   split
   ·exact ih
   ·exact mem_addC' ih
  ·obtain rfl : j = n := by omega
   unfold allN
   rw [if_neg (by rw [hc]; exact Bool.false_ne_true)]
   exact mem_addC _ _
theorem all_full {xs : List Int} : ∀ n, allN (distX xs n) (distX xs n).length = fullN xs n
 | 0 => rfl
 | n + 1 => by
  have ih := all_full (xs := xs) n
  rw [distX_succ]
  by_cases hm : colAt xs n ∈ distX xs n
  ·rw [addC_old hm, ih, fullN]
   split
   ·rfl
   ·rename_i hcl
    obtain ⟨j, hj, he⟩ := List.getElem_of_mem hm
    have := allN_mem (L := distX xs n) (distX xs n).length j hj (by simp only [List.getD, List.getElem?_eq_getElem hj, Option.getD_some, he]; simpa using hcl)
    simp only [List.getD, List.getElem?_eq_getElem hj, Option.getD_some, he] at this
    rw [ih] at this
    rw [addC_old this]
  ·rw [addC_new hm, List.length_append]
   show allN _ ((distX xs n).length + 1) = _
   unfold allN
   rw [allN_pre _ _ (Nat.le_refl _), ih]
   have e : (distX xs n ++ [colAt xs n]).getD (distX xs n).length zeroC = colAt xs n := by simp [List.getD]
   rw [e, fullN]
def metN (xs : List Int) (most : Nat) : Nat → List Co
 | 0 => []
 | n + 1 => if clearC (colAt xs n) = false ∧ (metN xs most n).length ≤ most then addC (metN xs most n) (eightC (colAt xs n)) else metN xs most n
theorem met_full {xs : List Int} {most : Nat} : ∀ n, metN xs most n = (fullN xs n).take (most + 1)
 | 0 => by simp [metN, fullN]
 | n + 1 => by
  have ih := met_full (xs := xs) (most := most) n
  unfold metN fullN
  rw [ih]
  by_cases hc : clearC (colAt xs n) = true
  ·rw [if_neg (by simp [hc]), if_pos hc]
  ·have hc' : clearC (colAt xs n) = false := by simpa using hc
   rw [if_neg hc]
   rcases Nat.lt_or_ge most (fullN xs n).length with g | g
   ·rw [if_neg (by rw [List.length_take]; omega)]
    unfold addC
    split
    ·rfl
    ·rw [List.take_append_of_le_length (by omega)]
   ·have e : (fullN xs n).take (most + 1) = fullN xs n := List.take_of_length_le (by omega)
    rw [e, if_pos ⟨hc', g⟩]
    have := addC_length (fullN xs n) (eightC (colAt xs n))
    rw [List.take_of_length_le (by omega)]
theorem fullN_mem {xs : List Int} : ∀ n c, c ∈ fullN xs n → ∃ j, j < n ∧ clearC (colAt xs j) = false ∧ c = eightC (colAt xs j)
 | 0, c, h => by cases h
 | n + 1, c, h => by
  unfold fullN at h
  split at h
  ·obtain ⟨j, h1, h2⟩ := fullN_mem n c h; exact ⟨j, by omega, h2⟩
  ·rename_i hcl
   unfold addC at h
   split at h
   ·obtain ⟨j, h1, h2⟩ := fullN_mem n c h; exact ⟨j, by omega, h2⟩
   ·rcases List.mem_append.1 h with h | h
    ·obtain ⟨j, h1, h2⟩ := fullN_mem n c h; exact ⟨j, by omega, h2⟩
    ·simp at h; exact ⟨n, by omega, by simpa using hcl, h⟩
theorem fullN_nodup {xs : List Int} : ∀ n, (fullN xs n).Nodup
 | 0 => by simp [fullN]
 | n + 1 => by
  have ih := fullN_nodup (xs := xs) n
  unfold fullN
  split
  ·exact ih
  ·unfold addC
   split
   ·exact ih
   ·rename_i hm
    rw [List.nodup_append]
    exact ⟨ih, by simp, fun a ha b hb => by simp at hb; rw [hb]; intro e; exact hm (e ▸ ha)⟩
theorem spN_perm {A : List Co} : ∀ i, i < A.length → (spN A i).flatten.Perm A
 | 0, _ => by simp [spN]
 | i + 1, h => by
  have ih := spN_perm (A := A) i (by omega)
  obtain ⟨hj, h2⟩ := (spN_ok (A := A) i (by omega)).big (by omega) (by omega)
  refine List.Perm.trans ?_ ih
  show (cutB (spN A i)).flatten.Perm _
  generalize hB : spN A i = B at *
  unfold cutB
  generalize mxi (B.map List.length) B.length = j at *
  have eg : B.getD j [] = B[j] := by simp [List.getD, hj]
  simp only [eg]
  rw [List.flatten_append]
  have e1 : [(stab (ax (lgV B[j])) B[j]).take (B[j].length / 2), (stab (ax (lgV B[j])) B[j]).drop (B[j].length / 2)].flatten = stab (ax (lgV B[j])) B[j] := by simp
  rw [e1]
  refine (List.Perm.append_left _ (stab_perm _ _)).trans ?_
  rw [List.eraseIdx_eq_take_drop_succ, List.flatten_append]
  have e3 : B = B.take j ++ B[j] :: B.drop (j + 1) := by rw [← List.drop_eq_getElem_cons hj, List.take_append_drop]
  have e2 : B.flatten = (B.take j).flatten ++ (B[j] ++ (B.drop (j + 1)).flatten) :=
   (congrArg List.flatten e3).trans (by rw [List.flatten_append, List.flatten_cons])
  rw [e2, List.append_assoc]
  exact List.Perm.append_left _ List.perm_append_comm
theorem mid_mem {l : List Co} (h : l ≠ []) : midC l ∈ l := by
 unfold midC
 have := List.length_pos_iff.2 h
 exact getD_mem (by omega)
theorem mids_nodup : ∀ {B : List (List Co)}, B.flatten.Nodup → (∀ l, l ∈ B → l ≠ []) → (B.map midC).Nodup
 | [], _, _ => by simp
 | l :: B, h, hne => by
  rw [List.flatten_cons, List.nodup_append] at h
  obtain ⟨h1, h2, h3⟩ := h
  rw [List.map_cons, List.nodup_cons]
  refine ⟨fun hm => ?_, mids_nodup h2 fun x hx => hne x (by simp [hx])⟩
  obtain ⟨x, hx, he⟩ := List.mem_map.1 hm
  have a := mid_mem (hne l (by simp))
  have b := mid_mem (hne x (by simp [hx]))
  exact h3 _ a _ (List.mem_flatten.2 ⟨x, hx, b⟩) he.symm
theorem pal_many {xs : List Int} {n m : Nat} (h : m + 1 < (fullN xs n).length) :
  ((spN (fullN xs n) m).map midC).length = m + 1 ∧ ((spN (fullN xs n) m).map midC).Nodup ∧ ∀ c, c ∈ (spN (fullN xs n) m).map midC → ∃ j, j < n ∧ clearC (colAt xs j) = false ∧ c = eightC (colAt xs j) := by
 have hk := spN_ok (A := fullN xs n) m (by omega)
 have hp := spN_perm (A := fullN xs n) m (by omega)
 refine ⟨by rw [List.length_map, hk.len], mids_nodup (hp.symm.nodup (fullN_nodup n)) hk.ne, fun c hc => ?_⟩
 obtain ⟨l, hl, rfl⟩ := List.mem_map.1 hc
 exact fullN_mem n _ (hp.subset (List.mem_flatten.2 ⟨l, hl, mid_mem (hk.ne l hl)⟩))
end Go.Proofs.Ytiiaihiliimcoaa
namespace Go.Proofs.Ytiiaihiliimcoaa
open Go Go.Vc Go.RowKit Go.Qn
set_option maxRecDepth 100000
set_option maxHeartbeats 4000000
theorem Place2_spec {N : Nat} {w : World} {p : Option Addr} {len cap : Nat} {l : List Co} {c : Co} {R : Ending → World → Prop} (h : Sl N w p (cos l)) (hl : l.length = len) (h62 : len < 2 ^ 62)
  (hR : ∀ (n : Int) w', Ext w w' → ((n < 0 ∧ c ∉ l) ∨ ∃ k : Nat, n = k ∧ k < l.length ∧ l.getD k zeroC = c ∧ ∀ j, j < k → l.getD j zeroC ≠ c) → R (.returned (i64 n)) w') : Calls P F.ref09_Place #[.slice p len cap, .agg (co c).toArray] w R := by
 refine calls_ref09_Place _ _ _ _ _ _ _ _ _ ?_
 intro k1 hk1
 refine ⟨fun vs u => match vs with | [.int _ n] => 0 ≤ n ∧ n ≤ len ∧ Ext w u ∧ ∀ j : Nat, (j : Int) < n → l.getD j zeroC ≠ c | _ => False,
  fun vs _ => match vs with | [.int _ n] => (len - n).toNat | _ => 0, fun w1 hL1 => ⟨Int.le_refl _, by omega, hL1.ext (by simpa using hk1), fun j hj => by omega⟩, fun n w2 hI => ?_⟩
 obtain ⟨n0, n1, hE, hj⟩ := hI
 refine brB_i (fun hlt => ?_) (fun hge => ?_)
 ·have hlt : n < len := by simpa using hlt
  refine cos_elem (h.ext hE).drew hl n0 hlt fun a h1 h2 h3 h4 => ⟨_, _, _, _, h1, h2, h3, h4, ?_⟩
  rw [co_inj (a := l.getD n.toNat zeroC) (b := c)]
  have hnl : n.toNat < l.length := by omega
  refine brB_i (fun he => ?_) (fun hne => ?_)
  ·have he : l.getD n.toNat zeroC = c := by simpa using he
   exact hR n _ hE.drew (.inr ⟨n.toNat, by omega, hnl, he, fun j hjn => hj j (by omega)⟩)
  ·have hne : l.getD n.toNat zeroC ≠ c := by simpa using hne
   rw [w64 (x := n + 1) (by omega) (by omega)]
   refine ⟨⟨by omega, by omega, hE.drew, fun j hj' => ?_⟩, ?_⟩
   ·by_cases hjn : (j : Int) < n
    ·exact hj j hjn
    ·rw [show j = n.toNat by omega]; exact hne
   ·show (len - (n + 1)).toNat < (len - n).toNat
    omega
 ·have hge : n = len := by simp at hge; omega
  refine hR (-1) w2 hE (.inl ⟨by omega, fun hm => ?_⟩)
  obtain ⟨j, hjl, hje⟩ := List.getElem_of_mem hm
  exact hj j (by omega) (by simp [List.getD, hjl, hje])
theorem rMet_spec {w : World} {p : Option Addr} {len cap : Nat} {W H : Int} {xs : List Int} {most : Nat} {R : Ending → World → Prop} (h : Img w p len xs) (hb : good W H xs = true) (hok : PxOk xs) (hm : most ≤ 2 ^ 20)
  (hR : ∀ p' c' w', Fg [] w w' 4 p' (metN xs most (W * H).toNat).length c' (cos (metN xs most (W * H).toNat)) → R (.returned (.slice p' (metN xs most (W * H).toNat).length c')) w') :
  Calls P F.ref14_Met #[.agg #[i64 W, i64 H, .slice p len cap], i64 most] w R := by
 refine calls_ref14_Met _ _ _ _ _ _ _ _ ?_
 intro k1 hk1
 obtain ⟨hg, hxl⟩ := good_iff.1 hb
 obtain ⟨g1, g2, g3, g4, g5⟩ := gfits_iff.1 hg
 have hmlen : ∀ n, (metN xs most n).length ≤ most + 1 := fun n => by rw [met_full, List.length_take]; omega
 refine ⟨fun vs u => ∃ (y : Int) (q : Option Addr) (c : Nat), vs = [.slice q (metN xs most (y * W).toNat).length c, i64 y] ∧ 0 ≤ y ∧ y ≤ H ∧ Fg [k1] w u 4 q (metN xs most (y * W).toNat).length c (cos (metN xs most (y * W).toNat)),
  fun vs _ => match vs with | [_, .int _ y] => (H - y).toNat | _ => 0, fun w1 hL1 => ⟨0, none, 0, by simp [metN], Int.le_refl _, by omega, ?_⟩, fun q1 l1 c1 n1 w2 hI => ?_⟩
 ·rw [Int.zero_mul]
  exact Fg.nil' (Ext.refl w) hL1 (by simpa using hk1) 4
 obtain ⟨y, q, c, hv, y0, y1, hf⟩ := hI
 simp only [List.cons.injEq, Value.int.injEq, Value.slice.injEq, true_and, and_true] at hv
 obtain ⟨⟨rfl, rfl, rfl⟩, rfl⟩ := hv
 refine brB_i (fun hlt => ?_) (fun hge => ?_)
 ·have hlt : n1 < H := by simpa using hlt
  have hyW : 0 ≤ n1 * W := Int.mul_nonneg y0 (by omega)
  have hyW' : n1 * W + W ≤ W * H := by
   rw [show n1 * W + W = (n1 + 1) * W by rw [Int.add_mul]; omega, Int.mul_comm W H]
   exact Int.mul_le_mul_of_nonneg_right (by omega) (by omega)
  refine ⟨fun vs u => ∃ (x : Int) (q : Option Addr) (c : Nat), vs = [.slice q (metN xs most (n1 * W + x).toNat).length c, i64 x] ∧ 0 ≤ x ∧ x ≤ W ∧ Fg [k1] w u 4 q (metN xs most (n1 * W + x).toNat).length c (cos (metN xs most (n1 * W + x).toNat)),
   fun vs _ => match vs with | [_, .int _ x] => (W - x).toNat | _ => 0, ⟨0, q1, c1, by simp, Int.le_refl _, by omega, by rw [Int.add_zero]; exact hf⟩, fun q2 l2 c2 n2 w3 hI => ?_⟩
  obtain ⟨x, q3, c3, hv, x0, x1, hf3⟩ := hI
  simp only [List.cons.injEq, Value.int.injEq, Value.slice.injEq, true_and, and_true] at hv
  obtain ⟨⟨rfl, rfl, rfl⟩, rfl⟩ := hv
  refine brB_i (fun hlt2 => ?_) (fun hge => ?_)
  ·have hlt2 : n2 < W := by simpa using hlt2
   have hnx : (n1 * W + (n2 + 1)).toNat = (n1 * W + n2).toNat + 1 := by omega
   generalize hk : (n1 * W + n2).toNat = k at *
   have hml := hmlen k
   refine ⟨fun vs u => ∃ (q : Option Addr) (c : Nat), vs = [.slice q (metN xs most (k + 1)).length c] ∧ Fg [k1] w u 4 q (metN xs most (k + 1)).length c (cos (metN xs most (k + 1))), ?_, fun q4 l4 c4 w12 hI => ?_⟩
   ·refine refPixel_spec (h.ext hf3.ext) hb x0 y0 hlt2 hlt fun w4 hE4 => ⟨_, _, _, _, rfl, hE4.keep _, fun k6 hk6 w5 hL5 => ?_⟩
    rw [hk]
    have hco := colAt_ok hok k
    have f4 := hf3.step hE4
    have f5 := (f4.push hL5 (by simp; omega)).mono (bs := [k6, k1]) (by simp)
    refine rClear_spec (c := colAt xs k) fun w6 hE6 => ⟨_, rfl, hE6.keep _, ?_⟩
    have f6 := f5.step hE6
    refine brB_i (fun hc => ?_) (fun hc => ?_)
    ·have hc : clearC (colAt xs k) = false ∧ (metN xs most k).length ≤ most := by simp at hc; exact ⟨hc.1, by omega⟩
     rw [metN, if_pos hc]
     refine rEight_spec hco fun w7 hE7 => ⟨_, _, _, _, rfl, hE7.keep _, ?_⟩
     have f7 := f6.step hE7
     refine Place_spec (c := eightC (colAt xs k)) f7.sl rfl (by omega) fun n w8 hE8 hn => ⟨_, rfl, hE8.keep _, ?_⟩
     have f8 := f7.step hE8
     rw [hn]
     refine brB_i (fun hm => ?_) (fun hm => ?_)
     ·have hm : eightC (colAt xs k) ∉ metN xs most k := by simpa using hm
      refine rEight_spec hco fun w9 hE9 => ⟨_, _, _, _, rfl, hE9.keep _, fun k7 hk7 w10 hL10 => ?_⟩
      have f9 := f8.step hE9
      have f10 := (f9.push hL10 (by simp; omega)).mono (bs := [k7, k6, k1]) (by simp)
      refine f10.app' (by simp [blocks]) rfl rfl (by omega) (by omega) fun p' c' w11 hf11 _ _ => ?_
      rw [addC_new hm]
      refine ⟨p', c', by simp, ?_⟩
      rw [cos_append, cos_one, List.length_append]
      exact hf11.mono (by simp)
     ·have hm : eightC (colAt xs k) ∈ metN xs most k := by simpa using hm
      rw [addC_old hm]
      exact ⟨_, _, rfl, f8.mono (by simp)⟩
    ·have hc : ¬ (clearC (colAt xs k) = false ∧ (metN xs most k).length ≤ most) := by
      intro hx
      simp [hx.1] at hc
      omega
     rw [metN, if_neg hc]
     exact ⟨_, _, rfl, f6.mono (by simp)⟩
   ·obtain ⟨q5, c5, hv, f12⟩ := hI
    simp only [List.cons.injEq, Value.slice.injEq, true_and, and_true] at hv
    obtain ⟨rfl, rfl, rfl⟩ := hv
    rw [w64 (x := n2 + 1) (by omega) (by omega)]
    exact ⟨⟨n2 + 1, _, _, by rw [hnx], by omega, by omega, by rw [hnx]; exact f12⟩, by show (W - (n2 + 1)).toNat < (W - n2).toNat; omega⟩
  ·have hge : n2 = W := by simp at hge; omega
   subst hge
   rw [w64 (x := n1 + 1) (by omega) (by omega)]
   have e : (n1 * n2 + n2) = (n1 + 1) * n2 := by rw [Int.add_mul]; omega
   rw [e] at hf3 ⊢
   exact ⟨⟨n1 + 1, _, _, rfl, by omega, by omega, hf3⟩, by show (H - (n1 + 1)).toNat < (H - n1).toNat; omega⟩
 ·have hge : n1 = H := by simp at hge; omega
  subst hge
  rw [Int.mul_comm W n1] at hR
  exact hR q1 c1 w2 hf.weak
end Go.Proofs.Ytiiaihiliimcoaa
namespace Go.Proofs.Ytiiaihiliimcoaa
open Go Go.Vc Go.RowKit Go.Qn
set_option maxRecDepth 100000
theorem nearN_min (l : List Co) (c : Co) : ∀ n j, j < n → farV (l.getD (nearN l c n).toNat zeroC) c ≤ farV (l.getD j zeroC) c
 | 0, j, h => by omega
 | n + 1, j, h => by
  have hr := nearN_range l c n
  have key : ∀ j, j < n → farV (l.getD (nearN l c n).toNat zeroC) c ≤ farV (l.getD j zeroC) c := fun j hj => nearN_min l c n j hj
  unfold nearN
  split
  ·rename_i h0
   have : n = 0 := by omega
   subst this
   obtain rfl : j = 0 := by omega
   exact Int.le_refl _
  ·split
   ·rename_i h1
    rw [show ((n : Int)).toNat = n by omega]
    rcases Nat.lt_or_ge j n with g | g
    ·have := key j g; omega
    ·rw [show j = n by omega]; exact Int.le_refl _
   ·rename_i h1
    rcases Nat.lt_or_ge j n with g | g
    ·exact key j g
    ·rw [show j = n by omega]; omega
theorem sq_nn (x : Int) : 0 ≤ x * x := by
 rcases Int.le_total 0 x with h | h
 ·exact Int.mul_nonneg h h
 ·exact Int.mul_nonneg_of_nonpos_of_nonpos h h
theorem sq_zero {x : Int} (h : x * x = 0) : x = 0 := by
 rcases Int.mul_eq_zero.1 h with h | h <;> exact h
theorem sq_le {x : Int} (h1 : -65535 ≤ x) (h2 : x ≤ 65535) : x * x ≤ 4294836225 := by
 rcases Int.le_total 0 x with h | h
 ·have := Int.mul_le_mul h2 h2 h (by omega); omega
 ·have := Int.mul_le_mul (show -x ≤ 65535 by omega) (show -x ≤ 65535 by omega) (by omega) (by omega)
  rw [Int.neg_mul_neg] at this; omega
theorem far_eq {p c : Co} (hp : CoOk p) (hc : CoOk c) : farV p c = (p.1 - c.1) * (p.1 - c.1) + (p.2.1 - c.2.1) * (p.2.1 - c.2.1) + (p.2.2.1 - c.2.2.1) * (p.2.2.1 - c.2.2.1) := by
 obtain ⟨⟨a1, a2⟩, ⟨a3, a4⟩, ⟨a5, a6⟩, _⟩ := hp
 obtain ⟨⟨b1, b2⟩, ⟨b3, b4⟩, ⟨b5, b6⟩, _⟩ := hc
 unfold farV wr
 rw [w64 (x := p.1) (by omega) (by omega), w64 (x := c.1) (by omega) (by omega), w64 (x := p.2.1) (by omega) (by omega), w64 (x := c.2.1) (by omega) (by omega), w64 (x := p.2.2.1) (by omega) (by omega), w64 (x := c.2.2.1) (by omega) (by omega)]
 rw [w64 (x := p.1 - c.1) (by omega) (by omega), w64 (x := p.2.1 - c.2.1) (by omega) (by omega), w64 (x := p.2.2.1 - c.2.2.1) (by omega) (by omega)]
 have n1 := sq_nn (p.1 - c.1); have n2 := sq_nn (p.2.1 - c.2.1); have n3 := sq_nn (p.2.2.1 - c.2.2.1)
 have l1 := sq_le (x := p.1 - c.1) (by omega) (by omega); have l2 := sq_le (x := p.2.1 - c.2.1) (by omega) (by omega); have l3 := sq_le (x := p.2.2.1 - c.2.2.1) (by omega) (by omega)
 generalize (p.1 - c.1) * (p.1 - c.1) = u at *
 generalize (p.2.1 - c.2.1) * (p.2.1 - c.2.1) = v at *
 generalize (p.2.2.1 - c.2.2.1) * (p.2.2.1 - c.2.2.1) = z at *
 rw [w64 (x := u) (by omega) (by omega), w64 (x := v) (by omega) (by omega), w64 (x := z) (by omega) (by omega), w64 (x := u + v) (by omega) (by omega), w64 (x := u + v + z) (by omega) (by omega)]
theorem near_self {l : List Co} {c : Co} (hl : ∀ x, x ∈ l → CoOk x ∧ x.2.2.2 = 65535) (hc : c ∈ l) : 0 ≤ nearV l c ∧ nearV l c < l.length ∧ l.getD (nearV l c).toNat zeroC = c := by
 obtain ⟨j, hj, he⟩ := List.getElem_of_mem hc
 have hr := nearN_range l c l.length
 have hm := nearN_min l c l.length j hj
 have h0 := hr.2.2 (by omega)
 have hlt := hr.2.1
 have hg : l.getD j zeroC = c := by simp [List.getD, hj, he]
 rw [hg] at hm
 have hn := hl _ (getD_mem (l := l) (i := (nearN l c l.length).toNat) (by omega))
 have hcc := hl c hc
 rw [far_eq hn.1 hcc.1, far_eq hcc.1 hcc.1] at hm
 unfold nearV
 refine ⟨h0, hlt, ?_⟩
 generalize l.getD (nearN l c l.length).toNat zeroC = x at *
 obtain ⟨x1, x2, x3, x4⟩ := x
 obtain ⟨c1, c2, c3, c4⟩ := c
 simp only [Int.sub_self] at hm
 have n1 := sq_nn (x1 - c1); have n2 := sq_nn (x2 - c2); have n3 := sq_nn (x3 - c3)
 have z1 := sq_zero (x := x1 - c1) (by omega)
 have z2 := sq_zero (x := x2 - c2) (by omega)
 have z3 := sq_zero (x := x3 - c3) (by omega)
 have w1 := hn.2; have w2 := hcc.2
 simp only at w1 w2
 simp only [Prod.mk.injEq]
 exact ⟨by omega, by omega, by omega, by omega⟩
end Go.Proofs.Ytiiaihiliimcoaa
namespace Go.Proofs.Ytiiaihiliimcoaa
open Go Go.Vc Go.RowKit Go.Qn
set_option maxRecDepth 100000
set_option maxHeartbeats 1000000
theorem bs_app {l m : List Int} (h : Bs l) (g : Bs m) : Bs (l ++ m) := fun x hx => (List.mem_append.1 hx).elim (h x) (g x)
theorem entG_bs (pal : List Co) (n : Nat) : Bs (entG pal n) := by
 intro x hx
 unfold entG at hx
 obtain ⟨l, hl, hx⟩ := List.mem_flatten.1 hx
 obtain ⟨i, -, rfl⟩ := List.mem_map.1 hl
 simp only [List.mem_cons, List.not_mem_nil, or_false] at hx
 rcases hx with rfl | rfl | rfl <;> omega
theorem two_bs (v : Int) : Bs (two2 v) := by
 intro x hx
 simp only [two2, List.mem_cons, List.not_mem_nil, or_false] at hx
 rcases hx with rfl | rfl <;> omega
theorem subU_bs {bs : List Int} (h : Bs bs) (n : Nat) : Bs (subU bs n) := by
 intro x hx
 unfold subU at hx
 obtain ⟨l, hl, hx⟩ := List.mem_flatten.1 hx
 obtain ⟨i, -, rfl⟩ := List.mem_map.1 hl
 rcases List.mem_cons.1 hx with rfl | hx
 ·omega
 ·exact part_bs h _ _ x hx
theorem encG_bs {W H : Int} {xs : List Int} (hb : good W H xs = true) : Bs (encG W H xs) := by
 obtain ⟨n, hn, h2, h9, hl, hbs, hr⟩ := gif_round hb
 have hs := size_range (palG W H xs).length palG_len
 have hpl := @palG_len W H xs
 have lit : ∀ l : List Int, l.all (fun n => decide (0 ≤ n ∧ n ≤ 255)) = true → Bs l := fun l h => bs_of h
 unfold encG headG
 rw [← hn]
 refine bs_app (bs_app (bs_app (bs_app (bs_app (bs_app (bs_app (bs_app (bs_app (bs_app (bs_app (lit _ (by decide)) (two_bs W)) (two_bs H)) ?_) (entG_bs _ _)) ?_) (lit _ (by decide))) (two_bs W)) (two_bs H)) ?_) (subU_bs hbs _)) (lit _ (by decide))
 ·intro x hx
  simp only [List.mem_cons, List.not_mem_nil, or_false] at hx
  rcases hx with rfl | rfl | rfl <;> omega
 ·split
  ·intro x hx
   simp only [List.mem_cons, List.not_mem_nil, or_false] at hx
   rcases hx with rfl | rfl | rfl | rfl | rfl | rfl | rfl | rfl <;> omega
  ·exact bs_nil
 ·intro x hx
  simp only [List.mem_cons, List.not_mem_nil, or_false] at hx
  rcases hx with rfl | rfl <;> omega
def fewG (xs : List Int) : Nat := if goneM xs = true then 255 else 256
theorem few_range (xs : List Int) : 255 ≤ fewG xs ∧ fewG xs ≤ 256 := by unfold fewG; split <;> omega
theorem pal0_eq {W H : Int} {xs : List Int} (hb : good W H xs = true) : pal0G W H xs = palV (fullN xs (W * H).toNat) ((fewG xs : Nat) : Int) := by
 unfold pal0G palR
 rw [if_pos hb, all_full]
 by_cases hg : goneM xs = true
 ·rw [if_pos hg, if_neg (by omega)]
  show palV _ _ = _
  unfold fewG; rw [if_pos hg]; rfl
 ·rw [if_neg hg, if_neg (by omega)]
  show palV _ _ = _
  unfold fewG; rw [if_neg hg]; rfl
theorem pal0_from {W H : Int} {xs : List Int} (hb : good W H xs = true) : (∀ c, c ∈ pal0G W H xs → ∃ j, j < (W * H).toNat ∧ clearC (colAt xs j) = false ∧ c = eightC (colAt xs j)) ∧ (pal0G W H xs).length ≤ fewG xs ∧ (0 < (fullN xs (W * H).toNat).length → 0 < (pal0G W H xs).length) := by
 have hf := few_range xs
 rw [pal0_eq hb]
 unfold palV
 split
 ·exact ⟨fun c hc => fullN_mem _ c hc, by omega, fun h => h⟩
 ·rename_i hn
  have := pal_many (xs := xs) (n := (W * H).toNat) (m := fewG xs - 1) (by omega)
  rw [Int.toNat_natCast]
  refine ⟨this.2.2, by omega, fun _ => by omega⟩
theorem eight_d8 {c : Co} (h : CoOk c) : D8 (eightC c) := by
 have r1 := dnV_range h.1.1 h.1.2 (most := 255) (by omega)
 have r2 := dnV_range h.2.1.1 h.2.1.2 (most := 255) (by omega)
 have r3 := dnV_range h.2.2.1.1 h.2.2.1.2 (most := 255) (by omega)
 refine ⟨dnV c.1 255, dnV c.2.1 255, dnV c.2.2.1 255, by omega, by omega, by omega, ?_⟩
 unfold eightC
 rw [round257 h.1, round257 h.2.1, round257 h.2.2.1]
theorem pal0_d8 {W H : Int} {xs : List Int} (hb : good W H xs = true) (hok : PxOk xs) : ∀ c, c ∈ pal0G W H xs → D8 c := fun c hc => by
 obtain ⟨j, -, -, rfl⟩ := (pal0_from hb).1 c hc
 exact eight_d8 (colAt_ok hok j)
theorem D8.alpha {c : Co} (h : D8 c) : c.2.2.2 = 65535 := by obtain ⟨r, g, b, -, -, -, rfl⟩ := h; rfl
theorem D8.clear {c : Co} (h : D8 c) : clearC c = false := decide_eq_false (by rw [h.alpha]; omega)
theorem round_wh {v : Int} (h : Byt v) : roundV (v / 257 * 257) = v / 257 * 257 := by
 unfold Byt at h
 unfold roundV upV dnV
 omega
theorem by257 {r : Int} (h0 : 0 ≤ r) (h1 : r ≤ 255) : 257 * (257 * r / 256 % 256) = 257 * r := by
 have e : 257 * r / 256 = r := by rw [show 257 * r = r + 256 * r by omega, Int.add_mul_ediv_left _ _ (by omega), Int.ediv_eq_zero_of_lt h0 (by omega), Int.zero_add]
 rw [e, Int.emod_eq_of_lt h0 (by omega)]
theorem D8.eight {c : Co} (h : D8 c) : eightC c = c := by
 obtain ⟨r, g, b, h1, h2, h3, rfl⟩ := h
 have key : ∀ v : Int, 0 ≤ v → v ≤ 255 → roundV (257 * v) = 257 * v := fun v h0 h1 => by
  have e := round_wh (v := 257 * v) ⟨by omega, by omega⟩
  have e2 : 257 * v / 257 * 257 = 257 * v := by omega
  rwa [e2] at e
 unfold eightC
 simp only [key r h1.1 h1.2, key g h2.1 h2.2, key b h3.1 h3.2]
theorem ent_d8 {pal : List Co} {i : Nat} (h : i < pal.length) (hd : D8 (pal.getD i zeroC)) : entC pal i = pal.getD i zeroC := by
 unfold entC
 rw [if_pos ⟨h, by rw [hd.alpha]; decide⟩]
 obtain ⟨r, g, b, h1, h2, h3, e⟩ := hd
 simp only [e]
 refine Prod.ext ?_ (Prod.ext ?_ (Prod.ext ?_ rfl))
 ·exact by257 h1.1 h1.2
 ·exact by257 h2.1 h2.2
 ·exact by257 h3.1 h3.2
theorem full_all {ys : List Int} : ∀ n j, j < n → clearC (colAt ys j) = false → eightC (colAt ys j) ∈ fullN ys n
 | 0, j, h, _ => by omega
 | n + 1, j, h, hc => by
  unfold fullN
  rcases Nat.lt_or_ge j n with g | g
  ·have ih := full_all n j g hc
   split
   ·exact ih
   ·exact mem_addC' ih
  ·obtain rfl : j = n := by omega
   rw [if_neg (by rw [hc]; exact Bool.false_ne_true)]
   exact mem_addC _ _
theorem gone_of {W H : Int} {xs : List Int} (hb : good W H xs = true) {j : Nat} (hj : j < (W * H).toNat) (hc : clearC (colAt xs j) = true) : goneM xs = true := by
 obtain ⟨-, h2, h3⟩ := good_len hb
 have hg := gfits_iff.1 h3
 unfold goneM goneU
 refine List.any_eq_true.2 ⟨j, List.mem_range.2 (by omega), decide_eq_true (of_decide_eq_true hc)⟩
theorem none_last {pal : List Co} (h : ∀ c, c ∈ pal → D8 c) : noneV (pal ++ [zeroC]) = (pal.length : Nat) := by
 have hi := noneV_is (pal ++ [zeroC])
 have hz : (pal ++ [zeroC]).getD pal.length zeroC = zeroC := by
  rw [List.getD_eq_getElem?_getD, List.getElem?_append_right (Nat.le_refl _), Nat.sub_self]; rfl
 have hs : ∀ k, k < pal.length → ((pal ++ [zeroC]).getD k zeroC).2.2.2 = 65535 := fun k hk => by
  rw [List.getD_eq_getElem?_getD, List.getElem?_append_left hk, List.getElem?_eq_getElem hk]
  exact (h _ (List.getElem_mem hk)).alpha
 rcases hi with ⟨-, h2⟩ | ⟨k, h1, h2, h3, h4, h5⟩
 ·exact absurd (by rw [hz]; rfl) (h2 pal.length (Nat.zero_le _) (by simp))
 ·rw [h3]
  have hk : k < (pal ++ [zeroC]).length := h2
  rw [List.length_append] at hk
  simp only [List.length_cons, List.length_nil] at hk
  rcases Nat.lt_or_ge k pal.length with g | g
  ·have := hs k g
   rw [h4] at this
   omega
  ·omega
theorem near_range {l : List Co} (h : 0 < l.length) (c : Co) : 0 ≤ nearV l c ∧ nearV l c < l.length := by
 have := nearN_range l c l.length
 exact ⟨this.2.2 h, this.2.1⟩
theorem decR_again {W H most : Int} {xs : List Int} (hb : good W H xs = true) (hok : PxOk xs) (hm : W * H ≤ most) : ∃ Y, decR (encG W H xs) most = (W, H, Y, 0) ∧ Y.length = 4 * (W * H).toNat ∧
  ∀ j, j < (W * H).toNat → colAt Y j = if clearC (colAt xs j) = true then zeroC else (pal0G W H xs).getD (nearV (pal0G W H xs) (eightC (colAt xs j))).toNat zeroC := by
 obtain ⟨Y, h1, h2, h3⟩ := decR_enc hb hm
 have hd := pal0_d8 hb hok
 have hfr := pal0_from hb
 have hfw := few_range xs
 refine ⟨Y, h1, h2, fun j hj => ?_⟩
 rw [h3 j hj, idxG_get hb hj]
 by_cases hc : clearC (colAt xs j) = true
 ·have hg := gone_of hb hj hc
  have hpg : palG W H xs = pal0G W H xs ++ [zeroC] := by unfold palG; rw [if_pos hg]
  have hi : ¬ (goneM xs = true ∧ 1 ≤ (pal0G W H xs).length ∧ clearC (colAt xs j) = false) := fun h => by
   rw [hc] at h
   exact absurd h.2.2 (by decide)
  rw [if_neg hi, if_pos hc]
  have hlen : (palG W H xs).length = (pal0G W H xs).length + 1 := by rw [hpg, List.length_append]; rfl
  have e := (idxV_lt (palG_pos hb) palG_len (colAt xs j)).1
  have hnn : noneV (palG W H xs) = ((pal0G W H xs).length : Nat) := by rw [hpg]; exact none_last hd
  rw [if_neg (fun h => by
   rcases h with h | h
   ·omega
   ·rw [hc] at h; cases h)] at e
  rw [e, hnn, hlen, if_pos ⟨hg, by rw [Nat.add_sub_cancel]⟩]
 ·have hc' : clearC (colAt xs j) = false := by simpa using hc
  have hfull : 0 < (fullN xs (W * H).toNat).length := List.length_pos_of_mem (full_all _ j hj hc')
  have hp0 := hfr.2.2 hfull
  have hnr := near_range hp0 (eightC (colAt xs j))
  rw [if_neg hc]
  by_cases hg : goneM xs = true
  ·have hpg : palG W H xs = pal0G W H xs ++ [zeroC] := by unfold palG; rw [if_pos hg]
   have hlen : (palG W H xs).length = (pal0G W H xs).length + 1 := by rw [hpg, List.length_append]; rfl
   have hi : goneM xs = true ∧ 1 ≤ (pal0G W H xs).length ∧ clearC (colAt xs j) = false := ⟨hg, hp0, hc'⟩
   rw [if_pos hi]
   have e := (idxV_lt hp0 (by omega) (colAt xs j)).1
   rw [if_pos (.inr hc')] at e
   rw [e, hlen, if_neg (fun h => by have := h.2; omega)]
   have hget : (palG W H xs).getD (nearV (pal0G W H xs) (eightC (colAt xs j))).toNat zeroC = (pal0G W H xs).getD (nearV (pal0G W H xs) (eightC (colAt xs j))).toNat zeroC := by
    rw [hpg, List.getD_eq_getElem?_getD, List.getElem?_append_left (by omega), List.getD_eq_getElem?_getD]
   rw [← hget]
   refine ent_d8 (by omega) ?_
   rw [hget]
   exact hd _ (getD_mem (by omega))
  ·have hpg : palG W H xs = pal0G W H xs := by unfold palG; rw [if_neg hg]
   have hi : ¬ (goneM xs = true ∧ 1 ≤ (pal0G W H xs).length ∧ clearC (colAt xs j) = false) := fun h => hg h.1
   rw [if_neg hi, if_neg (fun h => hg h.1), hpg]
   have e := (idxV_lt hp0 (by omega) (colAt xs j)).1
   rw [if_pos (.inr hc')] at e
   rw [e]
   exact ent_d8 (by omega) (hd _ (getD_mem (by omega)))
theorem px_ext {n : Nat} {xs ys : List Int} (hx : xs.length = 4 * n) (hy : ys.length = 4 * n) (h : ∀ j, j < n → colAt xs j = colAt ys j) : xs = ys := by
 refine List.ext_getElem (by omega) fun i h1 h2 => ?_
 have hj := h (i / 4) (by omega)
 unfold colAt at hj
 simp only [Prod.mk.injEq] at hj
 have e1 : xs.getD i 0 = xs[i] := by simp [List.getD, h1]
 have e2 : ys.getD i 0 = ys[i] := by simp [List.getD, h2]
 rw [← e1, ← e2]
 have hm : i % 4 = 0 ∨ i % 4 = 1 ∨ i % 4 = 2 ∨ i % 4 = 3 := by omega
 rcases hm with m | m | m | m
 ·rw [show i = 4 * (i / 4) by omega]; exact hj.1
 ·rw [show i = 4 * (i / 4) + 1 by omega]; exact hj.2.1
 ·rw [show i = 4 * (i / 4) + 2 by omega]; exact hj.2.2.1
 ·rw [show i = 4 * (i / 4) + 3 by omega]; exact hj.2.2.2
theorem own_col {W H : Int} {xs : List Int} (hb : good W H xs = true) (hok : PxOk xs) (hf : (fullN xs (W * H).toNat).length ≤ fewG xs) {j : Nat} (hj : j < (W * H).toNat) (hc : clearC (colAt xs j) = false) :
  (pal0G W H xs).getD (nearV (pal0G W H xs) (eightC (colAt xs j))).toNat zeroC = eightC (colAt xs j) := by
 have e : pal0G W H xs = fullN xs (W * H).toNat := by rw [pal0_eq hb]; unfold palV; rw [if_pos (by omega)]
 have hd := pal0_d8 hb hok
 exact (near_self (fun x hx => ⟨(hd x hx).ok, (hd x hx).alpha⟩) (by rw [e]; exact full_all _ j hj hc)).2.2
theorem again_same {W H : Int} {xs Y : List Int} (hb : good W H xs = true) (hp : Pic8 xs) (hf : (fullN xs (W * H).toNat).length ≤ 255) (hl : Y.length = 4 * (W * H).toNat)
  (hY : ∀ j, j < (W * H).toNat → colAt Y j = if clearC (colAt xs j) = true then zeroC else (pal0G W H xs).getD (nearV (pal0G W H xs) (eightC (colAt xs j))).toNat zeroC) : Y = xs := by
 have hfw := few_range xs
 obtain ⟨-, h2, h3⟩ := good_len hb
 have hg := gfits_iff.1 h3
 have h0 : 0 ≤ W * H := Int.mul_nonneg (by omega) (by omega)
 refine px_ext (n := (W * H).toNat) hl (by omega) fun j hj => ?_
 rw [hY j hj]
 rcases hp.2 j with hz | hd
 ·rw [hz]; rfl
 ·rw [if_neg (by rw [hd.clear]; decide), own_col hb hp.1 (by omega) hj hd.clear, hd.eight]
def usedN (xs Y : List Int) : Nat → List Co
 | 0 => []
 | n + 1 => if clearC (colAt xs n) then usedN xs Y n else addC (usedN xs Y n) (colAt Y n)
theorem used_mem {xs Y : List Int} : ∀ n c, c ∈ usedN xs Y n → ∃ j, j < n ∧ clearC (colAt xs j) = false ∧ c = colAt Y j
 | 0, c, h => by cases h
 | n + 1, c, h => by
  unfold usedN at h
  split at h
  ·obtain ⟨j, h1, h2⟩ := used_mem n c h; exact ⟨j, by omega, h2⟩
  ·rename_i hcl
   unfold addC at h
   split at h
   ·obtain ⟨j, h1, h2⟩ := used_mem n c h; exact ⟨j, by omega, h2⟩
   ·rcases List.mem_append.1 h with h | h
    ·obtain ⟨j, h1, h2⟩ := used_mem n c h; exact ⟨j, by omega, h2⟩
    ·simp at h; exact ⟨n, by omega, by simpa using hcl, h⟩
theorem used_all {xs Y : List Int} : ∀ n j, j < n → clearC (colAt xs j) = false → colAt Y j ∈ usedN xs Y n
 | 0, j, h, _ => by omega
 | n + 1, j, h, hc => by
  unfold usedN
  rcases Nat.lt_or_ge j n with g | g
  ·have ih := used_all (Y := Y) n j g hc
   split
   ·exact ih
   ·exact mem_addC' ih
  ·obtain rfl : j = n := by omega
   rw [if_neg (by rw [hc]; exact Bool.false_ne_true)]
   exact mem_addC _ _
theorem used_nodup {xs Y : List Int} : ∀ n, (usedN xs Y n).Nodup
 | 0 => by simp [usedN]
 | n + 1 => by
  have ih := used_nodup (xs := xs) (Y := Y) n
  unfold usedN
  split
  ·exact ih
  ·unfold addC
   split
   ·exact ih
   ·rename_i hm
    rw [List.nodup_append]
    exact ⟨ih, by simp, fun a ha b hb => by simp at hb; rw [hb]; intro e; exact hm (e ▸ ha)⟩
theorem nodup_sub {α : Type} [DecidableEq α] : ∀ {l m : List α}, l.Nodup → (∀ x, x ∈ l → x ∈ m) → l.length ≤ m.length
 | [], _, _, _ => Nat.zero_le _
 | a :: l, m, h, hs => by
  rw [List.nodup_cons] at h
  have ha := hs a (List.mem_cons_self ..)
  have := nodup_sub (m := m.erase a) h.2 fun x hx => by
   have hne : x ≠ a := fun e => h.1 (e ▸ hx)
   exact (List.mem_erase_of_ne hne).2 (hs x (List.mem_cons_of_mem _ hx))
  rw [List.length_erase_of_mem ha] at this
  have := List.length_pos_of_mem ha
  simp only [List.length_cons]
  omega
structure MayOk (W H : Int) (xs Y : List Int) : Prop where
 clear : ∀ j, j < (W * H).toNat → clearC (colAt xs j) = true → colAt Y j = zeroC
 solid : ∀ j, j < (W * H).toNat → clearC (colAt xs j) = false → (colAt Y j).2.2.2 = 65535
 few : (usedN xs Y (W * H).toNat).length ≤ fewG xs
 own : (fullN xs (W * H).toNat).length ≤ fewG xs → ∀ j, j < (W * H).toNat → clearC (colAt xs j) = false → colAt Y j = eightC (colAt xs j)
 near : ∀ j, j < (W * H).toNat → clearC (colAt xs j) = false → farV ((usedN xs Y (W * H).toNat).getD (nearV (usedN xs Y (W * H).toNat) (eightC (colAt xs j))).toNat zeroC) (eightC (colAt xs j)) = farV (colAt Y j) (eightC (colAt xs j))
theorem may_ok {W H : Int} {xs Y : List Int} (hb : good W H xs = true) (hok : PxOk xs)
  (hY : ∀ j, j < (W * H).toNat → colAt Y j = if clearC (colAt xs j) = true then zeroC else (pal0G W H xs).getD (nearV (pal0G W H xs) (eightC (colAt xs j))).toNat zeroC) : MayOk W H xs Y := by
 have hd := pal0_d8 hb hok
 have hfr := pal0_from hb
 have hsol : ∀ j, j < (W * H).toNat → clearC (colAt xs j) = false → colAt Y j = (pal0G W H xs).getD (nearV (pal0G W H xs) (eightC (colAt xs j))).toNat zeroC ∧ colAt Y j ∈ pal0G W H xs := fun j hj hc => by
  have hp0 := hfr.2.2 (List.length_pos_of_mem (full_all _ j hj hc))
  have hnr := near_range hp0 (eightC (colAt xs j))
  have e := hY j hj
  rw [if_neg (by rw [hc]; decide)] at e
  exact ⟨e, by rw [e]; exact getD_mem (by omega)⟩
 have hsub : ∀ x, x ∈ usedN xs Y (W * H).toNat → x ∈ pal0G W H xs := fun x hx => by
  obtain ⟨j, hj, hc, rfl⟩ := used_mem _ x hx
  exact (hsol j hj hc).2
 refine ⟨fun j hj hc => by rw [hY j hj, if_pos hc], fun j hj hc => (hd _ (hsol j hj hc).2).alpha, Nat.le_trans (nodup_sub (used_nodup _) hsub) hfr.2.1, fun hf j hj hc => by rw [(hsol j hj hc).1, own_col hb hok hf hj hc], fun j hj hc => ?_⟩
 have hu := used_all (xs := xs) (Y := Y) (W * H).toNat j hj hc
 have hup := List.length_pos_of_mem hu
 have hnu := near_range hup (eightC (colAt xs j))
 have hp0 := hfr.2.2 (List.length_pos_of_mem (full_all _ j hj hc))
 obtain ⟨i, hi, he⟩ := List.getElem_of_mem hu
 have a1 := nearN_min (usedN xs Y (W * H).toNat) (eightC (colAt xs j)) _ i hi
 have hgi : (usedN xs Y (W * H).toNat).getD i zeroC = colAt Y j := by simp [List.getD, hi, he]
 rw [hgi] at a1
 have hm2 := hsub _ (getD_mem (l := usedN xs Y (W * H).toNat) (i := (nearV (usedN xs Y (W * H).toNat) (eightC (colAt xs j))).toNat) (by omega))
 obtain ⟨i2, hi2, he2⟩ := List.getElem_of_mem hm2
 have a2 := nearN_min (pal0G W H xs) (eightC (colAt xs j)) _ i2 hi2
 have hgi2 : (pal0G W H xs).getD i2 zeroC = (usedN xs Y (W * H).toNat).getD (nearV (usedN xs Y (W * H).toNat) (eightC (colAt xs j))).toNat zeroC := by rw [← he2]; simp [List.getD, hi2]
 rw [hgi2] at a2
 have e3 := (hsol j hj hc).1
 unfold nearV at e3 a2 ⊢
 rw [← e3] at a2
 omega
end Go.Proofs.Ytiiaihiliimcoaa
