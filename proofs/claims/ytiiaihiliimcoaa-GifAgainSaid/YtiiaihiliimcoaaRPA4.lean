/- For each function the condition that its code asks, written out (by a program of ours), and the theorem that it suffices: the kernel holds both against the code. -/
import Derived.Test.YtiiaihiliimcoaaRPA3
set_option linter.unusedVariables false
namespace Go.Proofs.Ytiiaihiliimcoaa
open Go Go.Vc
set_option maxRecDepth 100000
def vc_law15_GifAgain (sa1 : Option Addr) (sl1 sc1 : Nat) (w : World) (R : Ending → World → Prop) : Prop :=
 Calls P F.law15_wakes #[] w fun e1 w1 =>
 ∃ c1 : Bool,
 (e1 = .returned (.bool c1)) ∧
 brB (!c1)
 (R (.returned (.bool false)) w1)
 (Calls P F.law15_own #[.slice sa1 sl1 sc1] w1 fun e2 w2 =>
 ∃ (p1 : Option Addr) (k1 k2 : Nat),
 (e2 = .returned (.slice p1 k1 k2)) ∧
 Calls P F.gif_Decode #[.slice p1 k1 k2, .int .i64 5000] w2 fun e3 w3 =>
 ∃ (n1 n2 : Int) (p2 : Option Addr) (k3 k4 : Nat) (n3 : Int),
 (e3 = .returned (.tuple #[.agg #[.int .i64 n1, .int .i64 n2, .slice p2 k3 k4], .int .i64 n3])) ∧
 ∀ k5 : Nat,
 w3.heap.size ≤ k5 →
 brB (n3 != 0)
 (∀ w4 : World,
 Locl [k5] w3 w4 →
 R (.returned (.bool ((k3 : Int) == 0))) w4)
 (∀ w5 : World,
 Locl [k5] w3 w5 →
 Calls P F.ref09_Copy #[.agg #[.int .i64 n1, .int .i64 n2, .slice p2 k3 k4]] w5 fun e4 w6 =>
 ∃ (n4 n5 : Int) (p3 : Option Addr) (k6 k7 : Nat),
 (e4 = .returned (.agg #[.int .i64 n4, .int .i64 n5, .slice p3 k6 k7])) ∧
 Keep [k5] w5 w6 ∧
 Calls P F.gif_Encode #[.agg #[.int .i64 n4, .int .i64 n5, .slice p3 k6 k7]] w6 fun e5 w7 =>
 ∃ (p4 : Option Addr) (k8 k9 : Nat) (n6 : Int),
 (e5 = .returned (.tuple #[.slice p4 k8 k9, .int .i64 n6])) ∧
 Keep [k5] w6 w7 ∧
 Calls P F.gif_Decode #[.slice p4 k8 k9, .int .i64 5000] w7 fun e6 w8 =>
 ∃ (n7 n8 : Int) (p5 : Option Addr) (k10 k11 : Nat) (n9 : Int),
 (e6 = .returned (.tuple #[.agg #[.int .i64 n7, .int .i64 n8, .slice p5 k10 k11], .int .i64 n9])) ∧
 Keep [k5] w7 w8 ∧
 ∀ k12 : Nat,
 w8.heap.size ≤ k12 →
 ∀ w9 : World,
 Locl [k12, k5] w8 w9 →
 Calls P F.ref14_Met #[.agg #[.int .i64 n1, .int .i64 n2, .slice p2 k3 k4], .int .i64 255] w9 fun e7 w10 =>
 ∃ (p6 : Option Addr) (k13 k14 : Nat),
 (e7 = .returned (.slice p6 k13 k14)) ∧
 Keep [k12, k5] w9 w10 ∧
 brB (n6 == 0 && n9 == 0)
 (Calls P F.ref09_Same #[.agg #[.int .i64 n7, .int .i64 n8, .slice p5 k10 k11], .agg #[.int .i64 n1, .int .i64 n2, .slice p2 k3 k4]] w10 fun e8 w11 =>
 ∃ c2 : Bool,
 (e8 = .returned (.bool c2)) ∧
 Keep [k12, k5] w10 w11 ∧
 brB (c2)
 (R (.returned (.bool true)) w11)
 (brB (!decide ((k13 : Int) ≤ 255))
 (Calls P F.ref15_May #[.agg #[.int .i64 n1, .int .i64 n2, .slice p2 k3 k4], .agg #[.int .i64 n7, .int .i64 n8, .slice p5 k10 k11]] w11 fun e9 w12 =>
 ∃ c3 : Bool,
 (e9 = .returned (.bool c3)) ∧
 Keep [k12, k5] w11 w12 ∧
 R (.returned (.bool c3)) w12)
 (R (.returned (.bool false)) w11)))
 (R (.returned (.bool false)) w10)))
theorem calls_law15_GifAgain (sa1 : Option Addr) (sl1 sc1 : Nat) (w : World) (R : Ending → World → Prop) (h : vc_law15_GifAgain sa1 sl1 sc1 w R) : Calls P F.law15_GifAgain #[.slice sa1 sl1 sc1] w R :=
  calls_of_vc (ac := ac_law15_GifAgain) mixed Try.func3 (by kernel_rfl) (cast (by unfold vc_law15_GifAgain FnVc; kernel_rfl) h)
def vc_law15_wakes  (w : World) (R : Ending → World → Prop) : Prop :=
 ∀ (k1 : Nat) (w1 : World),
 (New w (Obj.cells #[.int .u16 257, .int .u16 514, .int .u16 771, .int .u16 65535, .int .u16 9, .int .u16 9, .int .u16 9, .int .u16 0] 38) k1 w1) →
 ∀ k2 : Nat,
 w1.heap.size ≤ k2 →
 ∀ w2 : World,
 Locl [k2] w1 w2 →
 Calls P F.ref09_Copy #[.agg #[.int .i64 2, .int .i64 1, .slice (some { block := k1, off := 0 }) 8 8]] w2 fun e1 w3 =>
 ∃ (n1 n2 : Int) (p1 : Option Addr) (k3 k4 : Nat),
 (e1 = .returned (.agg #[.int .i64 n1, .int .i64 n2, .slice p1 k3 k4])) ∧
 Keep [k2] w2 w3 ∧
 Calls P F.gif_Encode #[.agg #[.int .i64 n1, .int .i64 n2, .slice p1 k3 k4]] w3 fun e2 w4 =>
 ∃ (p2 : Option Addr) (k5 k6 : Nat) (n3 : Int),
 (e2 = .returned (.tuple #[.slice p2 k5 k6, .int .i64 n3])) ∧
 Keep [k2] w3 w4 ∧
 Calls P F.law15_own #[.slice p2 k5 k6] w4 fun e3 w5 =>
 ∃ (p3 : Option Addr) (k7 k8 : Nat),
 (e3 = .returned (.slice p3 k7 k8)) ∧
 Keep [k2] w4 w5 ∧
 Calls P F.gif_Decode #[.slice p3 k7 k8, .int .i64 2] w5 fun e4 w6 =>
 ∃ (n4 n5 : Int) (p4 : Option Addr) (k9 k10 : Nat) (n6 : Int),
 (e4 = .returned (.tuple #[.agg #[.int .i64 n4, .int .i64 n5, .slice p4 k9 k10], .int .i64 n6])) ∧
 Keep [k2] w5 w6 ∧
 ∀ k11 : Nat,
 w6.heap.size ≤ k11 →
 ∀ w7 : World,
 Locl [k11, k2] w6 w7 →
 Calls P F.law15_own #[.slice p2 k5 k6] w7 fun e5 w8 =>
 ∃ (p5 : Option Addr) (k12 k13 : Nat),
 (e5 = .returned (.slice p5 k12 k13)) ∧
 Keep [k11, k2] w7 w8 ∧
 Calls P F.gif_Decode #[.slice p5 k12 k13, .int .i64 1] w8 fun e6 w9 =>
 ∃ (n7 n8 : Int) (p6 : Option Addr) (k14 k15 : Nat) (n9 : Int),
 (e6 = .returned (.tuple #[.agg #[.int .i64 n7, .int .i64 n8, .slice p6 k14 k15], .int .i64 n9])) ∧
 Keep [k11, k2] w8 w9 ∧
 ∀ k16 : Nat,
 w9.heap.size ≤ k16 →
 ∀ w10 : World,
 Locl [k16, k11, k2] w9 w10 →
 ∀ (k17 : Nat) (w11 : World),
 (New w10 (Obj.cells #[.int .u8 71, .int .u8 73, .int .u8 70] 5) k17 w11) →
 ∃ (y1 : Array Value) (y2 : TypeId),
 (w11.heap[k17]? = some (Obj.cells y1 y2)) ∧
 (¬k17 ∈ [k16, k11, k2]) ∧
 ∀ w12 : World,
 (Mk k17 w11 w12) →
 Calls P F.gif_Decode #[.slice (some { block := k17, off := 0 }) 3 3, .int .i64 9] w12 fun e7 w13 =>
 ∃ (n10 n11 : Int) (p7 : Option Addr) (k18 k19 : Nat) (n12 : Int),
 (e7 = .returned (.tuple #[.agg #[.int .i64 n10, .int .i64 n11, .slice p7 k18 k19], .int .i64 n12])) ∧
 Keep [k16, k11, k2] w12 w13 ∧
 ∀ k20 : Nat,
 w13.heap.size ≤ k20 →
 brB (n3 == 0 && n6 == 0 && n9 == 11 && n12 == 9 && (k9 : Int) == 8)
 (idx (p4) (k9) (2) (1) fun a1 =>
 ∀ w14 : World,
 Locl [k20, k16, k11, k2] w13 w14 →
 ∃ n13 : Int,
 (w14.cell? a1 = some (.int .u16 n13)) ∧
 brB (n13 == 771)
 (idx (p4) (k9) (3) (1) fun a2 =>
 ∃ n14 : Int,
 (w14.cell? a2 = some (.int .u16 n14)) ∧
 brB (n14 == 65535)
 (idx (p4) (k9) (4) (1) fun a3 =>
 ∃ n15 : Int,
 (w14.cell? a3 = some (.int .u16 n15)) ∧
 idx (p4) (k9) (7) (1) fun a4 =>
 ∃ n16 : Int,
 (w14.cell? a4 = some (.int .u16 n16)) ∧
 R (.returned (.bool (IntKind.u16.wrap (n15 + n16) == 0))) w14)
 (R (.returned (.bool false)) w14))
 (R (.returned (.bool false)) w14))
 (∀ w15 : World,
 Locl [k20, k16, k11, k2] w13 w15 →
 R (.returned (.bool false)) w15)
theorem calls_law15_wakes  (w : World) (R : Ending → World → Prop) (h : vc_law15_wakes  w R) : Calls P F.law15_wakes #[] w R :=
  calls_of_vc (ac := ac_law15_wakes) mixed Try.func4 (by kernel_rfl) (cast (by unfold vc_law15_wakes FnVc; kernel_rfl) h)
def vc_law15_own (sa1 : Option Addr) (sl1 sc1 : Nat) (w : World) (R : Ending → World → Prop) : Prop :=
 ∀ (k1 : Nat) (w1 : World),
 (New w (Obj.cells #[] 5) k1 w1) →
 ∃ l1 : List Value,
 (l1.length = sl1 * 1) ∧
 (oneAll l1 = true) ∧
 (CellsAre w1 sa1 l1) ∧
 appVC (w1) ([]) (some { block := k1, off := 0 }) (0) (0) (sl1) (1) (1) (5) ([.int .u8 0]) (l1) fun p1 k2 k3 w2 =>
 R (.returned (.slice p1 k2 k3)) w2
theorem calls_law15_own (sa1 : Option Addr) (sl1 sc1 : Nat) (w : World) (R : Ending → World → Prop) (h : vc_law15_own sa1 sl1 sc1 w R) : Calls P F.law15_own #[.slice sa1 sl1 sc1] w R :=
  calls_of_vc (ac := ac_law15_own) mixed Try.func6 (by kernel_rfl) (cast (by unfold vc_law15_own FnVc; kernel_rfl) h)
def vc_ref09_Copy (x1 x2 : Int) (sa1 : Option Addr) (sl1 sc1 : Nat) (w : World) (R : Ending → World → Prop) : Prop :=
 ∀ k1 : Nat,
 w.heap.size ≤ k1 →
 ∀ k2 : Nat,
 w.heap.size ≤ k2 →
 ∀ w1 : World,
 Locl [k2, k1] w w1 →
 ∀ (k3 : Nat) (w2 : World),
 (New w1 (Obj.cells #[] 38) k3 w2) →
 ∃ l1 : List Value,
 (l1.length = sl1 * 1) ∧
 (oneAll l1 = true) ∧
 (CellsAre w2 sa1 l1) ∧
 appVC (w2) ([(2, k2, [.int .i64 0, .int .i64 0, .slice none 0 0]), (1, k1, [.int .i64 x1, .int .i64 x2, .slice sa1 sl1 sc1])]) (some { block := k3, off := 0 }) (0) (0) (sl1) (1) (2) (38) ([.int .u16 0]) (l1) fun p1 k4 k5 w3 =>
 ∀ w4 : World,
 Locl [k2, k1] w3 w4 →
 R (.returned (.agg #[.int .i64 x1, .int .i64 x2, .slice p1 k4 k5])) w4
theorem calls_ref09_Copy (x1 x2 : Int) (sa1 : Option Addr) (sl1 sc1 : Nat) (w : World) (R : Ending → World → Prop) (h : vc_ref09_Copy x1 x2 sa1 sl1 sc1 w R) : Calls P F.ref09_Copy #[.agg #[.int .i64 x1, .int .i64 x2, .slice sa1 sl1 sc1]] w R :=
  calls_of_vc (ac := ac_ref09_Copy) mixed Try.func8 (by kernel_rfl) (cast (by unfold vc_ref09_Copy FnVc; kernel_rfl) h)
def vc_ref14_Met (x1 x2 : Int) (sa1 : Option Addr) (sl1 sc1 : Nat) (x3 : Int) (w : World) (R : Ending → World → Prop) : Prop :=
 ∀ k1 : Nat,
 w.heap.size ≤ k1 →
 ∃ (I1 : List Value → World → Prop) (m1 : List Value → World → Nat),
 (∀ w1 : World,
 Locl [k1] w w1 →
 I1 [.slice none 0 0, .int .i64 0] w1) ∧
 ∀ (p1 : Option Addr) (k2 k3 : Nat) (n1 : Int) (w2 : World),
 (I1 [.slice p1 k2 k3, .int .i64 n1] w2) →
 brB (decide (n1 < x2))
 (∃ I2 : List Value → World → Prop,
 ∃ m2 : List Value → World → Nat,
 (I2 [.slice p1 k2 k3, .int .i64 0] w2) ∧
 ∀ (p2 : Option Addr) (k4 k5 : Nat) (n2 : Int) (w3 : World),
 (I2 [.slice p2 k4 k5, .int .i64 n2] w3) →
 brB (decide (n2 < x1))
 (∃ I3 : List Value → World → Prop,
 (Calls P F.ref09_Pixel #[.agg #[.int .i64 x1, .int .i64 x2, .slice sa1 sl1 sc1], .int .i64 n2, .int .i64 n1] w3 fun e1 w4 =>
 ∃ n3 n4 n5 n6 : Int,
 (e1 = .returned (.agg #[.int .u16 n3, .int .u16 n4, .int .u16 n5, .int .u16 n6])) ∧
 Keep [k1] w3 w4 ∧
 ∀ k6 : Nat,
 w4.heap.size ≤ k6 →
 ∀ w5 : World,
 Locl [k6, k1] w4 w5 →
 Calls P F.ref14_Clear #[.agg #[.int .u16 n3, .int .u16 n4, .int .u16 n5, .int .u16 n6]] w5 fun e2 w6 =>
 ∃ c1 : Bool,
 (e2 = .returned (.bool c1)) ∧
 Keep [k6, k1] w5 w6 ∧
 brB (!c1 && decide ((k4 : Int) ≤ x3))
 (Calls P F.ref14_Eight #[.agg #[.int .u16 n3, .int .u16 n4, .int .u16 n5, .int .u16 n6]] w6 fun e3 w7 =>
 ∃ n7 n8 n9 n10 : Int,
 (e3 = .returned (.agg #[.int .u16 n7, .int .u16 n8, .int .u16 n9, .int .u16 n10])) ∧
 Keep [k6, k1] w6 w7 ∧
 Calls P F.ref09_Place #[.slice p2 k4 k5, .agg #[.int .u16 n7, .int .u16 n8, .int .u16 n9, .int .u16 n10]] w7 fun e4 w8 =>
 ∃ n11 : Int,
 (e4 = .returned (.int .i64 n11)) ∧
 Keep [k6, k1] w7 w8 ∧
 brB (decide (n11 < 0))
 (Calls P F.ref14_Eight #[.agg #[.int .u16 n3, .int .u16 n4, .int .u16 n5, .int .u16 n6]] w8 fun e5 w9 =>
 ∃ n12 n13 n14 n15 : Int,
 (e5 = .returned (.agg #[.int .u16 n12, .int .u16 n13, .int .u16 n14, .int .u16 n15])) ∧
 Keep [k6, k1] w8 w9 ∧
 ∀ k7 : Nat,
 w9.heap.size ≤ k7 →
 ∀ w10 : World,
 Locl [k7, k6, k1] w9 w10 →
 appVC (w10) ([(44, k7, [.int .u16 n12, .int .u16 n13, .int .u16 n14, .int .u16 n15]), (8, k6, [.int .u16 n3, .int .u16 n4, .int .u16 n5, .int .u16 n6]), (2, k1, [.int .i64 x1, .int .i64 x2, .slice sa1 sl1 sc1])]) (p2) (k4) (k5) (1) (4) (8) (53) ([.int .u16 0, .int .u16 0, .int .u16 0, .int .u16 0]) ([.int .u16 n12, .int .u16 n13, .int .u16 n14, .int .u16 n15]) fun p3 k8 k9 w11 =>
 I3 [.slice p3 k8 k9] w11)
 (I3 [.slice p2 k4 k5] w8))
 (I3 [.slice p2 k4 k5] w6)) ∧
 ∀ (p4 : Option Addr) (k10 k11 : Nat) (w12 : World),
 (I3 [.slice p4 k10 k11] w12) →
 (I2 [.slice p4 k10 k11, .int .i64 (IntKind.i64.wrap (n2 + 1))] w12) ∧
 m2 [.slice p4 k10 k11, .int .i64 (IntKind.i64.wrap (n2 + 1))] w12 < m2 [.slice p2 k4 k5, .int .i64 n2] w3)
 ((I1 [.slice p2 k4 k5, .int .i64 (IntKind.i64.wrap (n1 + 1))] w3) ∧
 m1 [.slice p2 k4 k5, .int .i64 (IntKind.i64.wrap (n1 + 1))] w3 < m1 [.slice p1 k2 k3, .int .i64 n1] w2))
 (R (.returned (.slice p1 k2 k3)) w2)
theorem calls_ref14_Met (x1 x2 : Int) (sa1 : Option Addr) (sl1 sc1 : Nat) (x3 : Int) (w : World) (R : Ending → World → Prop) (h : vc_ref14_Met x1 x2 sa1 sl1 sc1 x3 w R) : Calls P F.ref14_Met #[.agg #[.int .i64 x1, .int .i64 x2, .slice sa1 sl1 sc1], .int .i64 x3] w R :=
  calls_of_vc (ac := ac_ref14_Met) mixed Try.func9 (by kernel_rfl) (cast (by unfold vc_ref14_Met FnVc; kernel_rfl) h)
def vc_ref09_Same (x1 x2 : Int) (sa1 : Option Addr) (sl1 sc1 : Nat) (x3 x4 : Int) (sa2 : Option Addr) (sl2 sc2 : Nat) (w : World) (R : Ending → World → Prop) : Prop :=
 ∀ k1 : Nat,
 w.heap.size ≤ k1 →
 ∀ k2 : Nat,
 w.heap.size ≤ k2 →
 brB (x1 != x3 || x2 != x4 || (sl1 : Int) != (sl2 : Int))
 (∀ w1 : World,
 Locl [k2, k1] w w1 →
 R (.returned (.bool false)) w1)
 (∃ I1 : List Value → World → Prop,
 ∃ m1 : List Value → World → Nat,
 (∀ w2 : World,
 Locl [k2, k1] w w2 →
 I1 [.int .i64 0] w2) ∧
 ∀ (n1 : Int) (w3 : World),
 (I1 [.int .i64 n1] w3) →
 brB (decide (n1 < (sl1 : Int)))
 (idx (sa1) (sl1) (n1) (1) fun a1 =>
 ∃ n2 : Int,
 (w3.drew.cell? a1 = some (.int .u16 n2)) ∧
 idx (sa2) (sl2) (n1) (1) fun a2 =>
 ∃ n3 : Int,
 (w3.drew.cell? a2 = some (.int .u16 n3)) ∧
 brB (n2 != n3)
 (R (.returned (.bool false)) w3.drew)
 ((I1 [.int .i64 (IntKind.i64.wrap (n1 + 1))] w3.drew) ∧
 m1 [.int .i64 (IntKind.i64.wrap (n1 + 1))] w3.drew < m1 [.int .i64 n1] w3))
 (R (.returned (.bool true)) w3))
theorem calls_ref09_Same (x1 x2 : Int) (sa1 : Option Addr) (sl1 sc1 : Nat) (x3 x4 : Int) (sa2 : Option Addr) (sl2 sc2 : Nat) (w : World) (R : Ending → World → Prop) (h : vc_ref09_Same x1 x2 sa1 sl1 sc1 x3 x4 sa2 sl2 sc2 w R) : Calls P F.ref09_Same #[.agg #[.int .i64 x1, .int .i64 x2, .slice sa1 sl1 sc1], .agg #[.int .i64 x3, .int .i64 x4, .slice sa2 sl2 sc2]] w R :=
  calls_of_vc (ac := ac_ref09_Same) mixed Try.func10 (by kernel_rfl) (cast (by unfold vc_ref09_Same FnVc; kernel_rfl) h)
def vc_gif_Decode_fn1 (fr1 fr2 : Addr) (rv : Value) (w : World) (R : Ending → World → Prop) : Prop :=
 ∃ I1 : List Value → World → Prop,
 ((isIfV rv = true) ∧
 brB (isNilI rv)
 (I1 [] w)
 ((((rv = Value.iface 40 (Value.agg #[])) ∧
 ∀ k1 : Nat,
 w.heap.size ≤ k1 →
 ∀ w1 : World,
 Locl [k1] w w1 →
 (∃ v1 : Value,
 w1.cell? fr1 = some v1) ∧
 (w1.frozen? fr1 = false) ∧
 (∃ v2 : Value,
 w1.cell? (fr1.add 1) = some v2) ∧
 (w1.frozen? (fr1.add 1) = false) ∧
 (∃ v3 : Value,
 w1.cell? (fr1.add 2) = some v3) ∧
 (w1.frozen? (fr1.add 2) = false) ∧
 (¬fr1.block ∈ [k1]) ∧
 (∃ v4 : Value,
 (setCells w1 fr1 [.int .i64 0, .int .i64 0, .slice none 0 0] 0).cell? fr2 = some v4) ∧
 ((setCells w1 fr1 [.int .i64 0, .int .i64 0, .slice none 0 0] 0).frozen? fr2 = false) ∧
 (¬fr2.block ∈ [k1]) ∧
 I1 [] (setCells (setCells w1 fr1 [.int .i64 0, .int .i64 0, .slice none 0 0] 0) fr2 [.int .i64 9] 0)) ∨
 ((isIfV rv = true) ∧
 (∀ v5 : Value,
 rv ≠ Value.iface 40 v5) ∧
 (∃ y1 : TypeId,
 ∃ v6 : Value,
 rv = Value.iface y1 v6) ∧
 R (.panicked [{ v := rv, recovered := false }]) w)))) ∧
 ∀ w2 : World,
 (I1 [] w2) →
 R (.returned (.tuple #[])) w2
theorem off_gif_Decode_fn1 (fr1 : Addr) (fr2 : Addr) (rv : Value) (w : World) (R : Ending → World → Prop) (h : vc_gif_Decode_fn1 fr1 fr2 rv w R) : CallsOff P F.gif_Decode_fn1 [.pointer (some fr1), .pointer (some fr2)] rv w R := fun u hu => by
 subst hu
 exact calls_of_vcR (fn := Try.f12) (ac := ac_gif_Decode_fn1) (args := [.pointer (some fr1), .pointer (some fr2)]) mixed Try.func12 (by kernel_rfl) (cast (by unfold vc_gif_Decode_fn1 FnVcR; kernel_rfl) h)
def vc_gif_reader_bytes (q1 : Option Addr) (x1 : Int) (w : World) (R : Ending → World → Prop) : Prop :=
 nn (q1) fun a1 =>
 ∃ (p1 : Option Addr) (k1 k2 : Nat),
 (w.cell? a1 = some (.slice p1 k1 k2)) ∧
 brB (decide (x1 > (k1 : Int)))
 ((∃ y1 : TypeId,
 ∃ v1 : Value,
 Value.iface 40 (Value.agg #[]) = Value.iface y1 v1) ∧
 R (.panicked [{ v := Value.iface 40 (Value.agg #[]), recovered := false }]) w)
 (nn (q1) fun a2 =>
 ∃ (p2 : Option Addr) (k3 k4 : Nat),
 (w.cell? a2 = some (.slice p2 k3 k4)) ∧
 slcc (p2) (k4) (0) (x1) (1) fun p3 k5 k6 =>
 nn (q1) fun a3 =>
 ∃ (p4 : Option Addr) (k7 k8 : Nat),
 (w.cell? a3 = some (.slice p4 k7 k8)) ∧
 slcc (p4) (k8) (x1) ((k7 : Int)) (1) fun p5 k9 k10 =>
 nn (q1) fun a4 =>
 (∃ v2 : Value,
 w.cell? a4 = some v2) ∧
 (w.frozen? a4 = false) ∧
 R (.returned (.slice p3 k5 k6)) (setCells w a4 [.slice p5 k9 k10] 0))
theorem calls_gif_reader_bytes (q1 : Option Addr) (x1 : Int) (w : World) (R : Ending → World → Prop) (h : vc_gif_reader_bytes q1 x1 w R) : Calls P F.gif_reader_bytes #[.pointer q1, .int .i64 x1] w R :=
  calls_of_vc (ac := ac_gif_reader_bytes) mixed Try.func13 (by kernel_rfl) (cast (by unfold vc_gif_reader_bytes FnVc; kernel_rfl) h)
def vc_gif_reader_two (q1 : Option Addr) (w : World) (R : Ending → World → Prop) : Prop :=
 Calls P F.gif_reader_bytes #[.pointer q1, .int .i64 2] w fun e1 w1 =>
 ((∃ p1 : Option Addr,
 ∃ k1 k2 : Nat,
 (e1 = .returned (.slice p1 k1 k2)) ∧
 idx (p1) (k1) (0) (1) fun a1 =>
 ∃ n1 : Int,
 (w1.drew.cell? a1 = some (.int .u8 n1)) ∧
 idx (p1) (k1) (1) (1) fun a2 =>
 ∃ n2 : Int,
 (w1.drew.cell? a2 = some (.int .u8 n2)) ∧
 R (.returned (.int .i64 (IntKind.i64.wrap (bitsZ .or .i64 (IntKind.i64.wrap n1) (shiftZ .shl .i64 (IntKind.i64.wrap n2) 8))))) w1.drew) ∨
 (∃ l1 : List PanicEntry,
 (e1 = .panicked l1) ∧
 R (.panicked l1) w1))
theorem calls_gif_reader_two (q1 : Option Addr) (w : World) (R : Ending → World → Prop) (h : vc_gif_reader_two q1 w R) : Calls P F.gif_reader_two #[.pointer q1] w R :=
  calls_of_vc (ac := ac_gif_reader_two) mixed Try.func14 (by kernel_rfl) (cast (by unfold vc_gif_reader_two FnVc; kernel_rfl) h)
def vc_gif_reader_one (q1 : Option Addr) (w : World) (R : Ending → World → Prop) : Prop :=
 Calls P F.gif_reader_bytes #[.pointer q1, .int .i64 1] w fun e1 w1 =>
 ((∃ p1 : Option Addr,
 ∃ k1 k2 : Nat,
 (e1 = .returned (.slice p1 k1 k2)) ∧
 idx (p1) (k1) (0) (1) fun a1 =>
 ∃ n1 : Int,
 (w1.cell? a1 = some (.int .u8 n1)) ∧
 R (.returned (.int .i64 (IntKind.i64.wrap n1))) w1) ∨
 (∃ l1 : List PanicEntry,
 (e1 = .panicked l1) ∧
 R (.panicked l1) w1))
theorem calls_gif_reader_one (q1 : Option Addr) (w : World) (R : Ending → World → Prop) (h : vc_gif_reader_one q1 w R) : Calls P F.gif_reader_one #[.pointer q1] w R :=
  calls_of_vc (ac := ac_gif_reader_one) mixed Try.func15 (by kernel_rfl) (cast (by unfold vc_gif_reader_one FnVc; kernel_rfl) h)
def vc_gif_reader_palette (q1 : Option Addr) (x1 : Int) (w : World) (R : Ending → World → Prop) : Prop :=
 ∀ k1 : Nat,
 w.heap.size ≤ k1 →
 (0 ≤ IntKind.i64.wrap (bitsZ .and .i64 x1 7)) ∧
 ∀ w1 : World,
 Locl [k1] w w1 →
 Calls P F.gif_reader_bytes #[.pointer q1, .int .i64 (shiftZ .shl .i64 6 (IntKind.i64.wrap (bitsZ .and .i64 x1 7)))] w1 fun e1 w2 =>
 ((∃ p1 : Option Addr,
 ∃ k2 k3 : Nat,
 (e1 = .returned (.slice p1 k2 k3)) ∧
 Keep [k1] w1 w2 ∧
 Calls P F.slices_Chunk_byte #[.slice p1 k2 k3, .int .i64 3] w2 fun e2 w3 =>
 ∃ (y1 : FuncId) (y2 y3 : Array Value),
 (e2 = .returned (.func (Fn.func y1) y2 y3)) ∧
 Keep [k1] w2 w3 ∧
 ∀ (k4 : Nat) (w4 : World),
 (Rf w3 w4 k4) →
 ∀ (I1 : List Value → World → Prop) (Z1 : Exit → List Value → World → Prop),
 (∀ l1 : List Value,
 ∀ w5 w6 : World,
 (I1 l1 w5) →
 (Keep ([k4, w3.heap.size, k1]) w5 w6) →
 I1 l1 w6) →
 (∀ y4 : Exit,
 ∀ (l2 : List Value) (w7 w8 : World),
 (Z1 y4 l2 w7) →
 (Keep ([k4, w3.heap.size, k1]) w7 w8) →
 Z1 y4 l2 w8) →
 (I1 [.slice none 0 0] w4) →
 (∀ p2 : Option Addr,
 ∀ (k5 k6 : Nat) (p3 : Option Addr) (k7 k8 : Nat) (w9 : World) (I2 : Ending → World → Prop),
 (I1 [.slice p2 k5 k6] w9) →
 (∀ y5 : Obj,
 ∀ (y6 : Obj) (w10 : World),
 (Put k4 w9 w10) →
 idx (p3) (k7) (0) (1) fun a1 =>
 ∃ n1 : Int,
 (w10.drew.cell? a1 = some (.int .u8 n1)) ∧
 idx (p3) (k7) (1) (1) fun a2 =>
 ∃ n2 : Int,
 (w10.drew.cell? a2 = some (.int .u8 n2)) ∧
 idx (p3) (k7) (2) (1) fun a3 =>
 ∃ n3 : Int,
 (w10.drew.cell? a3 = some (.int .u8 n3)) ∧
 ∀ k9 : Nat,
 (w10.drew.heap.size ≤ k9) →
 ∀ w11 : World,
 (Locl ([k9, k1]) (w10.drew) w11) →
 appVC (w11) ([(31, k9, [.int .u16 (IntKind.u16.wrap (257 * IntKind.u16.wrap n1)), .int .u16 (IntKind.u16.wrap (257 * IntKind.u16.wrap n2)), .int .u16 (IntKind.u16.wrap (257 * IntKind.u16.wrap n3)), .int .u16 65535]), (5, k1, [.slice p2 k5 k6])]) (p2) (k5) (k6) (1) (4) (8) (53) ([.int .u16 0, .int .u16 0, .int .u16 0, .int .u16 0]) ([.int .u16 (IntKind.u16.wrap (257 * IntKind.u16.wrap n1)), .int .u16 (IntKind.u16.wrap (257 * IntKind.u16.wrap n2)), .int .u16 (IntKind.u16.wrap (257 * IntKind.u16.wrap n3)), .int .u16 65535]) fun p4 k10 k11 w12 =>
 ∀ w13 : World,
 Locl [k9, k1] w12 w13 →
 ∀ w14 : World,
 (Put k4 w13 w14) →
 (I1 [.slice p4 k10 k11] w14) →
 I2 (.returned (.bool true)) w14) →
 YieldAt Fence.wide 0 P (k4) #[.slice p3 k7 k8] (w9) I2) →
 callF P (.func (Fn.func y1) y2 y3) [.func (Fn.yield k4) #[] #[]] w4 fun e3 w15 =>
 ∃ v1 : Value,
 (e3 = .returned v1) ∧
 ((∃ p5 : Option Addr,
 ∃ k12 k13 : Nat,
 (I1 [.slice p5 k12 k13] w15) ∧
 ∀ w16 : World,
 (Put k4 w15 w16) →
 ∀ w17 : World,
 (Put (w3.heap.size) w16 w17) →
 R (.returned (.slice p5 k12 k13)) w17) ∨
 (False))) ∨
 (∃ l3 : List PanicEntry,
 (e1 = .panicked l3) ∧
 R (.panicked l3) w2))
theorem calls_gif_reader_palette (q1 : Option Addr) (x1 : Int) (w : World) (R : Ending → World → Prop) (h : vc_gif_reader_palette q1 x1 w R) : Calls P F.gif_reader_palette #[.pointer q1, .int .i64 x1] w R :=
  calls_of_vc (ac := ac_gif_reader_palette) mixed Try.func16 (by kernel_rfl) (cast (by unfold vc_gif_reader_palette FnVc; kernel_rfl) h)
def vc_gif_reader_extension (q1 : Option Addr) (x1 : Int) (w : World) (R : Ending → World → Prop) : Prop :=
 Calls P F.gif_reader_one #[.pointer q1] w fun e1 w1 =>
 ((∃ n1 : Int,
 (e1 = .returned (.int .i64 n1)) ∧
 ∀ k1 : Nat,
 w1.heap.size ≤ k1 →
 ∀ w2 : World,
 Locl [k1] w1 w2 →
 Calls P F.gif_reader_blocks #[.pointer q1] w2 fun e2 w3 =>
 ∃ (y1 : FuncId) (y2 y3 : Array Value),
 (e2 = .returned (.func (Fn.func y1) y2 y3)) ∧
 Keep [k1] w2 w3 ∧
 ∀ (k2 : Nat) (w4 : World),
 (Rf w3 w4 k2) →
 ∀ (I1 : List Value → World → Prop) (Z1 : Exit → List Value → World → Prop),
 (∀ l1 : List Value,
 ∀ w5 w6 : World,
 (I1 l1 w5) →
 (Keep ([k2, w3.heap.size, k1]) w5 w6) →
 I1 l1 w6) →
 (∀ y4 : Exit,
 ∀ (l2 : List Value) (w7 w8 : World),
 (Z1 y4 l2 w7) →
 (Keep ([k2, w3.heap.size, k1]) w7 w8) →
 Z1 y4 l2 w8) →
 (I1 [.slice none 0 0] w4) →
 (∀ p1 : Option Addr,
 ∀ (k3 k4 : Nat) (p2 : Option Addr) (k5 k6 : Nat) (w9 : World) (I2 : Ending → World → Prop),
 (I1 [.slice p1 k3 k4] w9) →
 (∀ y5 : Obj,
 ∀ (y6 : Obj) (w10 : World),
 (Put k2 w9 w10) →
 ∀ k7 : Nat,
 w10.heap.size ≤ k7 →
 ∀ w11 : World,
 Locl [k7, k1] w10 w11 →
 appVC (w11) ([(15, k7, [.slice p2 k5 k6]), (6, k1, [.slice p1 k3 k4])]) (p1) (k3) (k4) (1) (1) (24) (22) ([.slice none 0 0]) ([.slice p2 k5 k6]) fun p3 k8 k9 w12 =>
 ∀ w13 : World,
 Locl [k7, k1] w12 w13 →
 ∀ w14 : World,
 (Put k2 w13 w14) →
 (I1 [.slice p3 k8 k9] w14) →
 I2 (.returned (.bool true)) w14) →
 YieldAt Fence.wide 0 P (k2) #[.slice p2 k5 k6] (w9) I2) →
 callF P (.func (Fn.func y1) y2 y3) [.func (Fn.yield k2) #[] #[]] w4 fun e3 w15 =>
 ((∃ v1 : Value,
 (e3 = .returned v1) ∧
 ((∃ p4 : Option Addr,
 ∃ k10 k11 : Nat,
 (I1 [.slice p4 k10 k11] w15) ∧
 ∀ w16 : World,
 (Put k2 w15 w16) →
 brB (n1 != 249)
 (∀ w17 : World,
 (Put (w3.heap.size) w16 w17) →
 R (.returned (.int .i64 x1)) w17)
 (brB ((k10 : Int) == 0)
 ((∃ y7 : TypeId,
 ∃ v2 : Value,
 Value.iface 40 (Value.agg #[]) = Value.iface y7 v2) ∧
 ∀ w18 : World,
 (Put (w3.heap.size) w16 w18) →
 R (.panicked [{ v := Value.iface 40 (Value.agg #[]), recovered := false }]) w18)
 (idx (p4) (k10) (0) (1) fun a1 =>
 ∃ (p5 : Option Addr) (k12 k13 : Nat),
 (w16.cell? a1 = some (.slice p5 k12 k13)) ∧
 brB ((k12 : Int) != 4)
 ((∃ y8 : TypeId,
 ∃ v3 : Value,
 Value.iface 40 (Value.agg #[]) = Value.iface y8 v3) ∧
 ∀ w19 : World,
 (Put (w3.heap.size) w16 w19) →
 R (.panicked [{ v := Value.iface 40 (Value.agg #[]), recovered := false }]) w19)
 (idx (p4) (k10) (0) (1) fun a2 =>
 ∃ (p6 : Option Addr) (k14 k15 : Nat),
 (w16.cell? a2 = some (.slice p6 k14 k15)) ∧
 idx (p6) (k14) (0) (1) fun a3 =>
 ∃ n2 : Int,
 (w16.cell? a3 = some (.int .u8 n2)) ∧
 brB (IntKind.u8.wrap (bitsZ .and .u8 n2 1) == 0)
 (∀ w20 : World,
 (Put (w3.heap.size) w16 w20) →
 R (.returned (.int .i64 (-1))) w20)
 (idx (p4) (k10) (0) (1) fun a4 =>
 ∃ (p7 : Option Addr) (k16 k17 : Nat),
 (w16.cell? a4 = some (.slice p7 k16 k17)) ∧
 idx (p7) (k16) (3) (1) fun a5 =>
 ∃ n3 : Int,
 (w16.cell? a5 = some (.int .u8 n3)) ∧
 ∀ w21 : World,
 (Put (w3.heap.size) w16 w21) →
 R (.returned (.int .i64 (IntKind.i64.wrap n3))) w21))))) ∨
 (False))) ∨
 (∃ l3 : List PanicEntry,
 (e3 = .panicked l3) ∧
 Keep [w3.heap.size] w4 w15 ∧
 ∀ w22 : World,
 (Put (w3.heap.size) w15 w22) →
 R (.panicked l3) w22))) ∨
 (∃ l4 : List PanicEntry,
 (e1 = .panicked l4) ∧
 R (.panicked l4) w1))
theorem calls_gif_reader_extension (q1 : Option Addr) (x1 : Int) (w : World) (R : Ending → World → Prop) (h : vc_gif_reader_extension q1 x1 w R) : Calls P F.gif_reader_extension #[.pointer q1, .int .i64 x1] w R :=
  calls_of_vc (ac := ac_gif_reader_extension) mixed Try.func17 (by kernel_rfl) (cast (by unfold vc_gif_reader_extension FnVc; kernel_rfl) h)
def vc_raster_Good (x1 x2 : Int) (sa1 : Option Addr) (sl1 sc1 : Nat) (w : World) (R : Ending → World → Prop) : Prop :=
 ∀ k1 : Nat,
 w.heap.size ≤ k1 →
 ∀ w1 : World,
 Locl [k1] w w1 →
 R (.returned (.bool (decide (min x1 x2 ≥ 1) && decide (max x1 x2 ≤ 4096) && decide (IntKind.i64.wrap (x1 * x2) ≤ 65536) && (sl1 : Int) == IntKind.i64.wrap (IntKind.i64.wrap (4 * x1) * x2)))) w1
theorem calls_raster_Good (x1 x2 : Int) (sa1 : Option Addr) (sl1 sc1 : Nat) (w : World) (R : Ending → World → Prop) (h : vc_raster_Good x1 x2 sa1 sl1 sc1 w R) : Calls P F.raster_Good #[.agg #[.int .i64 x1, .int .i64 x2, .slice sa1 sl1 sc1]] w R :=
  calls_of_vc (ac := ac_raster_Good) mixed Try.func19 (by kernel_rfl) (cast (by unfold vc_raster_Good FnVc; kernel_rfl) h)
def vc_quant_Palette (x1 x2 : Int) (sa1 : Option Addr) (sl1 sc1 : Nat) (x3 : Int) (w : World) (R : Ending → World → Prop) : Prop :=
 ∀ k1 : Nat,
 w.heap.size ≤ k1 →
 ∀ w1 : World,
 Locl [k1] w w1 →
 Calls P F.raster_Good #[.agg #[.int .i64 x1, .int .i64 x2, .slice sa1 sl1 sc1]] w1 fun e1 w2 =>
 ∃ c1 : Bool,
 (e1 = .returned (.bool c1)) ∧
 Keep [k1] w1 w2 ∧
 brB (!c1)
 (R (.returned (.tuple #[.slice none 0 0, .int .i64 6])) w2)
 (brB (decide (x3 < 1) || decide (x3 > 256))
 (R (.returned (.tuple #[.slice none 0 0, .int .i64 2])) w2)
 (∀ k2 : Nat,
 ∀ w3 : World,
 (New w2 (Obj.map #[] 0) k2 w3) →
 Calls P F.raster_Distinct #[.agg #[.int .i64 x1, .int .i64 x2, .slice sa1 sl1 sc1]] w3 fun e2 w4 =>
 ∃ (p1 : Option Addr) (k3 k4 : Nat),
 (e2 = .returned (.slice p1 k3 k4)) ∧
 Keep [k1] w3 w4 ∧
 ∃ (I1 : List Value → World → Prop) (m1 : List Value → World → Nat),
 (I1 [.slice none 0 0, .int .i64 0] w4) ∧
 ∀ (p2 : Option Addr) (k5 k6 : Nat) (n1 : Int) (w5 : World),
 (I1 [.slice p2 k5 k6, .int .i64 n1] w5) →
 brB (decide (n1 < (k3 : Int)))
 (∃ I2 : List Value → World → Prop,
 (idx (p1) (k3) (n1) (4) fun a1 =>
 ∃ n2 n3 n4 n5 : Int,
 (w5.cell? a1 = some (.int .u16 n2)) ∧
 (w5.cell? (a1.add 1) = some (.int .u16 n3)) ∧
 (w5.cell? (a1.add 2) = some (.int .u16 n4)) ∧
 (w5.cell? (a1.add 3) = some (.int .u16 n5)) ∧
 ∀ k7 : Nat,
 w5.heap.size ≤ k7 →
 ∀ w6 : World,
 Locl [k7, k1] w5 w6 →
 Calls P F.quant_clear #[.agg #[.int .u16 n2, .int .u16 n3, .int .u16 n4, .int .u16 n5]] w6 fun e3 w7 =>
 ∃ c2 : Bool,
 (e3 = .returned (.bool c2)) ∧
 Keep [k7, k1] w6 w7 ∧
 brB (c2)
 (I2 [.slice p2 k5 k6] w7)
 (Calls P F.quant_eight #[.agg #[.int .u16 n2, .int .u16 n3, .int .u16 n4, .int .u16 n5]] w7 fun e4 w8 =>
 ∃ n6 n7 n8 n9 : Int,
 (e4 = .returned (.agg #[.int .u16 n6, .int .u16 n7, .int .u16 n8, .int .u16 n9])) ∧
 Keep [k7, k1] w7 w8 ∧
 ∀ w9 : World,
 Locl [k7, k1] w8 w9 →
 mapIn (Kd.agg [.u16, .u16, .u16, .u16]) (w9) (.map (some k2)) fun l1 =>
 ∃ c3 : Bool,
 (mgot l1 (.agg #[.int .u16 n6, .int .u16 n7, .int .u16 n8, .int .u16 n9]) (.agg #[]) = (.agg #[], c3)) ∧
 ∀ k8 : Nat,
 w9.heap.size ≤ k8 →
 brB (!c3)
 (∀ w10 : World,
 Locl [k8, k7, k1] w9 w10 →
 mapTo (Kd.agg [.u16, .u16, .u16, .u16]) (w10) (.map (some k2)) fun b1 l2 =>
 ∀ w11 : World,
 (Put b1 w10 w11) →
 (Mp (Kd.agg [.u16, .u16, .u16, .u16]) w11 b1 (mput (.agg #[.int .u16 n6, .int .u16 n7, .int .u16 n8, .int .u16 n9]) (.agg #[]) l2)) →
 ∀ k9 : Nat,
 w11.heap.size ≤ k9 →
 ∀ w12 : World,
 Locl [k9, k8, k7, k1] w11 w12 →
 appVC (w12) ([(52, k9, [.int .u16 n6, .int .u16 n7, .int .u16 n8, .int .u16 n9]), (10, k8, []), (9, k7, [.int .u16 n6, .int .u16 n7, .int .u16 n8, .int .u16 n9]), (2, k1, [.int .i64 x1, .int .i64 x2, .slice sa1 sl1 sc1])]) (p2) (k5) (k6) (1) (4) (8) (53) ([.int .u16 0, .int .u16 0, .int .u16 0, .int .u16 0]) ([.int .u16 n6, .int .u16 n7, .int .u16 n8, .int .u16 n9]) fun p3 k10 k11 w13 =>
 I2 [.slice p3 k10 k11] w13)
 (∀ w14 : World,
 Locl [k8, k7, k1] w9 w14 →
 I2 [.slice p2 k5 k6] w14))) ∧
 ∀ (p4 : Option Addr) (k12 k13 : Nat) (w15 : World),
 (I2 [.slice p4 k12 k13] w15) →
 (I1 [.slice p4 k12 k13, .int .i64 (IntKind.i64.wrap (n1 + 1))] w15) ∧
 m1 [.slice p4 k12 k13, .int .i64 (IntKind.i64.wrap (n1 + 1))] w15 < m1 [.slice p2 k5 k6, .int .i64 n1] w5)
 (brB (decide ((k5 : Int) ≤ x3))
 (R (.returned (.tuple #[.slice p2 k5 k6, .int .i64 0])) w5)
 (∀ k14 : Nat,
 ∀ w16 : World,
 (New w5 (Obj.cells #[.slice none 0 0, .func (Fn.func 38) #[] #[]] 81) k14 w16) →
 Calls P F.quant_bag_api_Color_put #[.pointer (some { block := k14, off := 0 }), .slice p2 k5 k6] w16 fun e5 w17 =>
 (e5 = .returned (.tuple #[])) ∧
 Keep [k1] w16 w17 ∧
 ∃ (I3 : List Value → World → Prop) (m2 : List Value → World → Nat),
 (I3 [] w17) ∧
 ∀ w18 : World,
 (I3 [] w18) →
 ∃ (p5 : Option Addr) (k15 k16 : Nat),
 (w18.cell? { block := k14, off := 0 } = some (.slice p5 k15 k16)) ∧
 brB (decide ((k15 : Int) < x3))
 (Calls P F.quant_bag_api_Color_take #[.pointer (some { block := k14, off := 0 })] w18 fun e6 w19 =>
 ∃ (p6 : Option Addr) (k17 k18 : Nat),
 (e6 = .returned (.slice p6 k17 k18)) ∧
 Keep [k1] w18 w19 ∧
 Calls P F.quant_longest #[.slice p6 k17 k18] w19 fun e7 w20 =>
 ∃ n10 : Int,
 (e7 = .returned (.int .i64 n10)) ∧
 Keep [k1] w19 w20 ∧
 ∀ (k19 : Nat) (w21 : World),
 (New w20 (Obj.cells #[.int .i64 0] 3) k19 w21) →
 (∃ v1 : Value,
 w21.cell? { block := k19, off := 0 } = some v1) ∧
 (w21.frozen? { block := k19, off := 0 } = false) ∧
 (¬k19 ∈ [k1]) ∧
 Calls P F.slices_Clone_api_Color #[.slice p6 k17 k18] (setCells w21 { block := k19, off := 0 } [.int .i64 n10] 0) fun e8 w22 =>
 ∃ (p7 : Option Addr) (k20 k21 : Nat),
 (e8 = .returned (.slice p7 k20 k21)) ∧
 (Keep ([k1]) (setCells w21 { block := k19, off := 0 } [.int .i64 n10] 0) w22) ∧
 Calls P F.slices_SortStableFunc_api_Color #[.slice p7 k20 k21, .func (Fn.func 44) #[] #[.pointer (some { block := k19, off := 0 })]] w22 fun e9 w23 =>
 (e9 = .returned (.tuple #[])) ∧
 Keep [k1] w22 w23 ∧
 slcc (p7) (k21) (0) (divZ .quo .i64 (k20 : Int) 2) (4) fun p8 k22 k23 =>
 Calls P F.quant_bag_api_Color_put #[.pointer (some { block := k14, off := 0 }), .slice p8 k22 k23] w23 fun e10 w24 =>
 (e10 = .returned (.tuple #[])) ∧
 Keep [k1] w23 w24 ∧
 slcc (p7) (k21) (divZ .quo .i64 (k20 : Int) 2) ((k20 : Int)) (4) fun p9 k24 k25 =>
 Calls P F.quant_bag_api_Color_put #[.pointer (some { block := k14, off := 0 }), .slice p9 k24 k25] w24 fun e11 w25 =>
 (e11 = .returned (.tuple #[])) ∧
 Keep [k1] w24 w25 ∧
 (I3 [] w25) ∧
 m2 [] w25 < m2 [] w18)
 (∃ p10 : Option Addr,
 ∃ k26 k27 : Nat,
 (w18.cell? { block := k14, off := 0 } = some (.slice p10 k26 k27)) ∧
 ∃ (I4 : List Value → World → Prop) (m3 : List Value → World → Nat),
 (I4 [.slice none 0 0, .int .i64 0] w18) ∧
 ∀ (p11 : Option Addr) (k28 k29 : Nat) (n11 : Int) (w26 : World),
 (I4 [.slice p11 k28 k29, .int .i64 n11] w26) →
 brB (decide (n11 < (k26 : Int)))
 (idx (p10) (k26) (n11) (1) fun a2 =>
 ∃ (p12 : Option Addr) (k30 k31 : Nat),
 (w26.cell? a2 = some (.slice p12 k30 k31)) ∧
 idx (p12) (k30) (divZ .quo .i64 (k30 : Int) 2) (4) fun a3 =>
 ∃ n12 n13 n14 n15 : Int,
 (w26.cell? a3 = some (.int .u16 n12)) ∧
 (w26.cell? (a3.add 1) = some (.int .u16 n13)) ∧
 (w26.cell? (a3.add 2) = some (.int .u16 n14)) ∧
 (w26.cell? (a3.add 3) = some (.int .u16 n15)) ∧
 ∀ k32 : Nat,
 w26.heap.size ≤ k32 →
 ∀ w27 : World,
 Locl [k32, k1] w26 w27 →
 appVC (w27) ([(111, k32, [.int .u16 n12, .int .u16 n13, .int .u16 n14, .int .u16 n15]), (2, k1, [.int .i64 x1, .int .i64 x2, .slice sa1 sl1 sc1])]) (p11) (k28) (k29) (1) (4) (8) (53) ([.int .u16 0, .int .u16 0, .int .u16 0, .int .u16 0]) ([.int .u16 n12, .int .u16 n13, .int .u16 n14, .int .u16 n15]) fun p13 k33 k34 w28 =>
 (I4 [.slice p13 k33 k34, .int .i64 (IntKind.i64.wrap (n11 + 1))] w28) ∧
 m3 [.slice p13 k33 k34, .int .i64 (IntKind.i64.wrap (n11 + 1))] w28 < m3 [.slice p11 k28 k29, .int .i64 n11] w26)
 (R (.returned (.tuple #[.slice p11 k28 k29, .int .i64 0])) w26))))))
theorem calls_quant_Palette (x1 x2 : Int) (sa1 : Option Addr) (sl1 sc1 : Nat) (x3 : Int) (w : World) (R : Ending → World → Prop) (h : vc_quant_Palette x1 x2 sa1 sl1 sc1 x3 w R) : Calls P F.quant_Palette #[.agg #[.int .i64 x1, .int .i64 x2, .slice sa1 sl1 sc1], .int .i64 x3] w R :=
  calls_of_vc (ac := ac_quant_Palette) mixed Try.func20 (by kernel_rfl) (cast (by unfold vc_quant_Palette FnVc; kernel_rfl) h)
def vc_gif_Encode_fn1 (x1 : Int) (fr1 : Addr) (w : World) (R : Ending → World → Prop) : Prop :=
 ∃ (p1 : Option Addr) (k1 k2 : Nat),
 (w.cell? fr1 = some (.slice p1 k1 k2)) ∧
 ∀ k3 : Nat,
 w.heap.size ≤ k3 →
 ∀ w1 : World,
 Locl [k3] w w1 →
 appVC (w1) ([(9, k3, [.int .u8 (IntKind.u8.wrap x1), .int .u8 (IntKind.u8.wrap (shiftZ .shr .i64 x1 8))])]) (p1) (k1) (k2) (2) (1) (1) (5) ([.int .u8 0]) ([.int .u8 (IntKind.u8.wrap x1), .int .u8 (IntKind.u8.wrap (shiftZ .shr .i64 x1 8))]) fun p2 k4 k5 w2 =>
 (∃ v1 : Value,
 w2.cell? fr1 = some v1) ∧
 (w2.frozen? fr1 = false) ∧
 (¬fr1.block ∈ [k3]) ∧
 R (.returned (.tuple #[])) (setCells w2 fr1 [.slice p2 k4 k5] 0)
theorem calls_gif_Encode_fn1 (x1 : Int) (fr1 : Addr) (w : World) (R : Ending → World → Prop) (h : vc_gif_Encode_fn1 x1 fr1 w R) : Calls P F.gif_Encode_fn1 #[.int .i64 x1, .pointer (some fr1)] w R :=
  calls_of_vc (ac := ac_gif_Encode_fn1) mixed Try.func22 (by kernel_rfl) (cast (by unfold vc_gif_Encode_fn1 FnVc; kernel_rfl) h)
def vc_lzw_GifPack (sa1 : Option Addr) (sl1 sc1 : Nat) (x1 : Int) (w : World) (R : Ending → World → Prop) : Prop :=
 brB (decide (x1 < 2) || decide (x1 > 8))
 (R (.returned (.tuple #[.slice none 0 0, .int .i64 2])) w)
 (∃ I1 : List Value → World → Prop,
 ∃ m1 : List Value → World → Nat,
 (I1 [.int .i64 0] w) ∧
 ∀ (n1 : Int) (w1 : World),
 (I1 [.int .i64 n1] w1) →
 brB (decide (n1 < (sl1 : Int)))
 (idx (sa1) (sl1) (n1) (1) fun a1 =>
 ∃ n2 : Int,
 (w1.cell? a1 = some (.int .u8 n2)) ∧
 (0 ≤ x1) ∧
 brB (decide (IntKind.i64.wrap n2 ≥ shiftZ .shl .i64 1 x1))
 (R (.returned (.tuple #[.slice none 0 0, .int .i64 2])) w1)
 ((I1 [.int .i64 (IntKind.i64.wrap (n1 + 1))] w1) ∧
 m1 [.int .i64 (IntKind.i64.wrap (n1 + 1))] w1 < m1 [.int .i64 n1] w1))
 (Calls P F.lzw_gif #[.int .i64 x1] w1 fun e1 w2 =>
 ∃ (n3 n4 : Int) (c1 : Bool) (n5 : Int),
 (e1 = .returned (.agg #[.int .i64 n3, .int .i64 n4, .bool c1, .int .i64 n5])) ∧
 Calls P F.lzw_kind_pack #[.agg #[.int .i64 n3, .int .i64 n4, .bool c1, .int .i64 n5], .slice sa1 sl1 sc1] w2 fun e2 w3 =>
 ∃ (p1 : Option Addr) (k1 k2 : Nat),
 (e2 = .returned (.slice p1 k1 k2)) ∧
 R (.returned (.tuple #[.slice p1 k1 k2, .int .i64 0])) w3))
theorem calls_lzw_GifPack (sa1 : Option Addr) (sl1 sc1 : Nat) (x1 : Int) (w : World) (R : Ending → World → Prop) (h : vc_lzw_GifPack sa1 sl1 sc1 x1 w R) : Calls P F.lzw_GifPack #[.slice sa1 sl1 sc1, .int .i64 x1] w R :=
  calls_of_vc (ac := ac_lzw_GifPack) mixed Try.func23 (by kernel_rfl) (cast (by unfold vc_lzw_GifPack FnVc; kernel_rfl) h)
def vc_slices_Chunk_byte (sa1 : Option Addr) (sl1 sc1 : Nat) (x1 : Int) (w : World) (R : Ending → World → Prop) : Prop :=
 ∀ (k1 : Nat) (w1 : World),
 (New w (Obj.cells #[.slice sa1 sl1 sc1] 22) k1 w1) →
 ∀ (k2 : Nat) (w2 : World),
 (New w1 (Obj.cells #[.int .i64 x1] 3) k2 w2) →
 ∃ n1 : Int,
 (w2.cell? { block := k2, off := 0 } = some (.int .i64 n1)) ∧
 brB (decide (n1 < 1))
 ((∃ y1 : TypeId,
 ∃ v1 : Value,
 Value.iface 9 (Value.string { data := #[99, 97, 110, 110, 111, 116, 32, 98, 101, 32, 108, 101, 115, 115, 32, 116, 104, 97, 110, 32, 49] }) = Value.iface y1 v1) ∧
 R (.panicked [{ v := Value.iface 9 (Value.string { data := #[99, 97, 110, 110, 111, 116, 32, 98, 101, 32, 108, 101, 115, 115, 32, 116, 104, 97, 110, 32, 49] }), recovered := false }]) w2)
 (R (.returned (.func (Fn.func 54) #[] #[.pointer (some { block := k1, off := 0 }), .pointer (some { block := k2, off := 0 })])) w2)
theorem calls_slices_Chunk_byte (sa1 : Option Addr) (sl1 sc1 : Nat) (x1 : Int) (w : World) (R : Ending → World → Prop) (h : vc_slices_Chunk_byte sa1 sl1 sc1 x1 w R) : Calls P F.slices_Chunk_byte #[.slice sa1 sl1 sc1, .int .i64 x1] w R :=
  calls_of_vc (ac := ac_slices_Chunk_byte) mixed Try.func24 (by kernel_rfl) (cast (by unfold vc_slices_Chunk_byte FnVc; kernel_rfl) h)
def vc_ref09_Pixel (x1 x2 : Int) (sa1 : Option Addr) (sl1 sc1 : Nat) (x3 x4 : Int) (w : World) (R : Ending → World → Prop) : Prop :=
 ∀ k1 : Nat,
 w.heap.size ≤ k1 →
 ∀ k2 : Nat,
 w.heap.size ≤ k2 →
 idx (sa1) (sl1) (IntKind.i64.wrap (4 * IntKind.i64.wrap (IntKind.i64.wrap (x4 * x1) + x3))) (1) fun a1 =>
 ∀ w1 : World,
 Locl [k2, k1] w w1 →
 ∃ n1 : Int,
 (w1.cell? a1 = some (.int .u16 n1)) ∧
 idx (sa1) (sl1) (IntKind.i64.wrap (IntKind.i64.wrap (4 * IntKind.i64.wrap (IntKind.i64.wrap (x4 * x1) + x3)) + 1)) (1) fun a2 =>
 ∃ n2 : Int,
 (w1.cell? a2 = some (.int .u16 n2)) ∧
 idx (sa1) (sl1) (IntKind.i64.wrap (IntKind.i64.wrap (4 * IntKind.i64.wrap (IntKind.i64.wrap (x4 * x1) + x3)) + 2)) (1) fun a3 =>
 ∃ n3 : Int,
 (w1.cell? a3 = some (.int .u16 n3)) ∧
 idx (sa1) (sl1) (IntKind.i64.wrap (IntKind.i64.wrap (4 * IntKind.i64.wrap (IntKind.i64.wrap (x4 * x1) + x3)) + 3)) (1) fun a4 =>
 ∃ n4 : Int,
 (w1.cell? a4 = some (.int .u16 n4)) ∧
 ∀ w2 : World,
 Locl [k2, k1] w1 w2 →
 R (.returned (.agg #[.int .u16 n1, .int .u16 n2, .int .u16 n3, .int .u16 n4])) w2
theorem calls_ref09_Pixel (x1 x2 : Int) (sa1 : Option Addr) (sl1 sc1 : Nat) (x3 x4 : Int) (w : World) (R : Ending → World → Prop) (h : vc_ref09_Pixel x1 x2 sa1 sl1 sc1 x3 x4 w R) : Calls P F.ref09_Pixel #[.agg #[.int .i64 x1, .int .i64 x2, .slice sa1 sl1 sc1], .int .i64 x3, .int .i64 x4] w R :=
  calls_of_vc (ac := ac_ref09_Pixel) mixed Try.func25 (by kernel_rfl) (cast (by unfold vc_ref09_Pixel FnVc; kernel_rfl) h)
def vc_ref14_Clear (x1 x2 x3 x4 : Int) (w : World) (R : Ending → World → Prop) : Prop :=
 ∀ k1 : Nat,
 w.heap.size ≤ k1 →
 ∀ w1 : World,
 Locl [k1] w w1 →
 R (.returned (.bool (decide (x4 < 32768)))) w1
theorem calls_ref14_Clear (x1 x2 x3 x4 : Int) (w : World) (R : Ending → World → Prop) (h : vc_ref14_Clear x1 x2 x3 x4 w R) : Calls P F.ref14_Clear #[.agg #[.int .u16 x1, .int .u16 x2, .int .u16 x3, .int .u16 x4]] w R :=
  calls_of_vc (ac := ac_ref14_Clear) mixed Try.func26 (by kernel_rfl) (cast (by unfold vc_ref14_Clear FnVc; kernel_rfl) h)
def vc_ref09_Place (sa1 : Option Addr) (sl1 sc1 : Nat) (x1 x2 x3 x4 : Int) (w : World) (R : Ending → World → Prop) : Prop :=
 ∀ k1 : Nat,
 w.heap.size ≤ k1 →
 ∃ (I1 : List Value → World → Prop) (m1 : List Value → World → Nat),
 (∀ w1 : World,
 Locl [k1] w w1 →
 I1 [.int .i64 0] w1) ∧
 ∀ (n1 : Int) (w2 : World),
 (I1 [.int .i64 n1] w2) →
 brB (decide (n1 < (sl1 : Int)))
 (idx (sa1) (sl1) (n1) (4) fun a1 =>
 ∃ n2 n3 n4 n5 : Int,
 (w2.drew.cell? a1 = some (.int .u16 n2)) ∧
 (w2.drew.cell? (a1.add 1) = some (.int .u16 n3)) ∧
 (w2.drew.cell? (a1.add 2) = some (.int .u16 n4)) ∧
 (w2.drew.cell? (a1.add 3) = some (.int .u16 n5)) ∧
 brB (decide (n2 = x1) && (decide (n3 = x2) && (decide (n4 = x3) && (decide (n5 = x4) && true))))
 (R (.returned (.int .i64 n1)) w2.drew)
 ((I1 [.int .i64 (IntKind.i64.wrap (n1 + 1))] w2.drew) ∧
 m1 [.int .i64 (IntKind.i64.wrap (n1 + 1))] w2.drew < m1 [.int .i64 n1] w2))
 (R (.returned (.int .i64 (-1))) w2)
theorem calls_ref09_Place (sa1 : Option Addr) (sl1 sc1 : Nat) (x1 x2 x3 x4 : Int) (w : World) (R : Ending → World → Prop) (h : vc_ref09_Place sa1 sl1 sc1 x1 x2 x3 x4 w R) : Calls P F.ref09_Place #[.slice sa1 sl1 sc1, .agg #[.int .u16 x1, .int .u16 x2, .int .u16 x3, .int .u16 x4]] w R :=
  calls_of_vc (ac := ac_ref09_Place) mixed Try.func27 (by kernel_rfl) (cast (by unfold vc_ref09_Place FnVc; kernel_rfl) h)
def vc_ref14_Eight (x1 x2 x3 x4 : Int) (w : World) (R : Ending → World → Prop) : Prop :=
 ∀ k1 : Nat,
 w.heap.size ≤ k1 →
 ∀ k2 : Nat,
 w.heap.size ≤ k2 →
 ∀ w1 : World,
 Locl [k2, k1] w w1 →
 Calls P F.ref08_Round #[.int .u16 x1, .int .i64 255] w1 fun e1 w2 =>
 ∃ n1 : Int,
 (e1 = .returned (.int .u16 n1)) ∧
 Keep [k2, k1] w1 w2 ∧
 (Keeps w1 w2) ∧
 Calls P F.ref08_Round #[.int .u16 x2, .int .i64 255] w2 fun e2 w3 =>
 ∃ n2 : Int,
 (e2 = .returned (.int .u16 n2)) ∧
 Keep [k2, k1] w2 w3 ∧
 (Keeps w2 w3) ∧
 Calls P F.ref08_Round #[.int .u16 x3, .int .i64 255] w3 fun e3 w4 =>
 ∃ n3 : Int,
 (e3 = .returned (.int .u16 n3)) ∧
 Keep [k2, k1] w3 w4 ∧
 ∀ w5 : World,
 Locl [k2, k1] w4 w5 →
 R (.returned (.agg #[.int .u16 n1, .int .u16 n2, .int .u16 n3, .int .u16 65535])) w5
theorem calls_ref14_Eight (x1 x2 x3 x4 : Int) (w : World) (R : Ending → World → Prop) (h : vc_ref14_Eight x1 x2 x3 x4 w R) : Calls P F.ref14_Eight #[.agg #[.int .u16 x1, .int .u16 x2, .int .u16 x3, .int .u16 x4]] w R :=
  calls_of_vc (ac := ac_ref14_Eight) mixed Try.func28 (by kernel_rfl) (cast (by unfold vc_ref14_Eight FnVc; kernel_rfl) h)
def vc_ref09_Good (x1 x2 : Int) (sa1 : Option Addr) (sl1 sc1 : Nat) (w : World) (R : Ending → World → Prop) : Prop :=
 ∀ k1 : Nat,
 w.heap.size ≤ k1 →
 ∀ w1 : World,
 Locl [k1] w w1 →
 Calls P F.ref07_Fits #[.int .i64 x1, .int .i64 x2] w1 fun e1 w2 =>
 ∃ c1 : Bool,
 (e1 = .returned (.bool c1)) ∧
 Keep [k1] w1 w2 ∧
 R (.returned (.bool (c1 && (sl1 : Int) == IntKind.i64.wrap (IntKind.i64.wrap (4 * x1) * x2)))) w2
theorem calls_ref09_Good (x1 x2 : Int) (sa1 : Option Addr) (sl1 sc1 : Nat) (w : World) (R : Ending → World → Prop) (h : vc_ref09_Good x1 x2 sa1 sl1 sc1 w R) : Calls P F.ref09_Good #[.agg #[.int .i64 x1, .int .i64 x2, .slice sa1 sl1 sc1]] w R :=
  calls_of_vc (ac := ac_ref09_Good) mixed Try.func29 (by kernel_rfl) (cast (by unfold vc_ref09_Good FnVc; kernel_rfl) h)
def vc_ref08_Nearest (sa1 : Option Addr) (sl1 sc1 : Nat) (x1 x2 x3 x4 : Int) (w : World) (R : Ending → World → Prop) : Prop :=
 ∀ k1 : Nat,
 w.heap.size ≤ k1 →
 ∃ (I1 : List Value → World → Prop) (m1 : List Value → World → Nat),
 (∀ w1 : World,
 Locl [k1] w w1 →
 I1 [.int .i64 (-1), .int .i64 0] w1) ∧
 ∀ (n1 n2 : Int) (w2 : World),
 (I1 [.int .i64 n1, .int .i64 n2] w2) →
 brB (decide (n2 < (sl1 : Int)))
 (∃ I2 : List Value → World → Prop,
 (brB (decide (n1 < 0))
 (I2 [.int .i64 n2] w2.drew)
 (idx (sa1) (sl1) (n2) (4) fun a1 =>
 ∃ n3 n4 n5 n6 : Int,
 (w2.drew.cell? a1 = some (.int .u16 n3)) ∧
 (w2.drew.cell? (a1.add 1) = some (.int .u16 n4)) ∧
 (w2.drew.cell? (a1.add 2) = some (.int .u16 n5)) ∧
 (w2.drew.cell? (a1.add 3) = some (.int .u16 n6)) ∧
 idx (sa1) (sl1) (n1) (4) fun a2 =>
 ∃ n7 n8 n9 n10 : Int,
 (w2.drew.cell? a2 = some (.int .u16 n7)) ∧
 (w2.drew.cell? (a2.add 1) = some (.int .u16 n8)) ∧
 (w2.drew.cell? (a2.add 2) = some (.int .u16 n9)) ∧
 (w2.drew.cell? (a2.add 3) = some (.int .u16 n10)) ∧
 Calls P F.ref08_Far #[.agg #[.int .u16 n3, .int .u16 n4, .int .u16 n5, .int .u16 n6], .agg #[.int .u16 x1, .int .u16 x2, .int .u16 x3, .int .u16 x4]] (w2.drew) fun e1 w3 =>
 ∃ n11 : Int,
 (e1 = .returned (.int .i64 n11)) ∧
 (Keep ([k1]) (w2.drew) w3) ∧
 (Keeps (w2.drew) w3) ∧
 Calls P F.ref08_Far #[.agg #[.int .u16 n7, .int .u16 n8, .int .u16 n9, .int .u16 n10], .agg #[.int .u16 x1, .int .u16 x2, .int .u16 x3, .int .u16 x4]] w3 fun e2 w4 =>
 ∃ n12 : Int,
 (e2 = .returned (.int .i64 n12)) ∧
 Keep [k1] w3 w4 ∧
 brB (decide (n11 < n12))
 (I2 [.int .i64 n2] w4)
 (I2 [.int .i64 n1] w4))) ∧
 ∀ (n13 : Int) (w5 : World),
 (I2 [.int .i64 n13] w5) →
 (I1 [.int .i64 n13, .int .i64 (IntKind.i64.wrap (n2 + 1))] w5) ∧
 m1 [.int .i64 n13, .int .i64 (IntKind.i64.wrap (n2 + 1))] w5 < m1 [.int .i64 n1, .int .i64 n2] w2)
 (R (.returned (.int .i64 n1)) w2)
theorem calls_ref08_Nearest (sa1 : Option Addr) (sl1 sc1 : Nat) (x1 x2 x3 x4 : Int) (w : World) (R : Ending → World → Prop) (h : vc_ref08_Nearest sa1 sl1 sc1 x1 x2 x3 x4 w R) : Calls P F.ref08_Nearest #[.slice sa1 sl1 sc1, .agg #[.int .u16 x1, .int .u16 x2, .int .u16 x3, .int .u16 x4]] w R :=
  calls_of_vc (ac := ac_ref08_Nearest) mixed Try.func30 (by kernel_rfl) (cast (by unfold vc_ref08_Nearest FnVc; kernel_rfl) h)
def vc_ref08_Far (x1 x2 x3 x4 x5 x6 x7 x8 : Int) (w : World) (R : Ending → World → Prop) : Prop :=
 ∀ k1 : Nat,
 w.heap.size ≤ k1 →
 ∀ k2 : Nat,
 w.heap.size ≤ k2 →
 ∀ w1 : World,
 Locl [k2, k1] w w1 →
 R (.returned (.int .i64 (IntKind.i64.wrap (IntKind.i64.wrap (IntKind.i64.wrap (IntKind.i64.wrap (IntKind.i64.wrap x1 - IntKind.i64.wrap x5) * IntKind.i64.wrap (IntKind.i64.wrap x1 - IntKind.i64.wrap x5)) + IntKind.i64.wrap (IntKind.i64.wrap (IntKind.i64.wrap x2 - IntKind.i64.wrap x6) * IntKind.i64.wrap (IntKind.i64.wrap x2 - IntKind.i64.wrap x6))) + IntKind.i64.wrap (IntKind.i64.wrap (IntKind.i64.wrap x3 - IntKind.i64.wrap x7) * IntKind.i64.wrap (IntKind.i64.wrap x3 - IntKind.i64.wrap x7)))))) w1
theorem calls_ref08_Far (x1 x2 x3 x4 x5 x6 x7 x8 : Int) (w : World) (R : Ending → World → Prop) (h : vc_ref08_Far x1 x2 x3 x4 x5 x6 x7 x8 w R) : Calls P F.ref08_Far #[.agg #[.int .u16 x1, .int .u16 x2, .int .u16 x3, .int .u16 x4], .agg #[.int .u16 x5, .int .u16 x6, .int .u16 x7, .int .u16 x8]] w R :=
  calls_of_vc (ac := ac_ref08_Far) mixed Try.func31 (by kernel_rfl) (cast (by unfold vc_ref08_Far FnVc; kernel_rfl) h)
def vc_gif_reader_blocks (q1 : Option Addr) (w : World) (R : Ending → World → Prop) : Prop :=
 ∀ (k1 : Nat) (w1 : World),
 (New w (Obj.cells #[.pointer q1] 41) k1 w1) →
 R (.returned (.func (Fn.func 57) #[] #[.pointer (some { block := k1, off := 0 })])) w1
theorem calls_gif_reader_blocks (q1 : Option Addr) (w : World) (R : Ending → World → Prop) (h : vc_gif_reader_blocks q1 w R) : Calls P F.gif_reader_blocks #[.pointer q1] w R :=
  calls_of_vc (ac := ac_gif_reader_blocks) mixed Try.func32 (by kernel_rfl) (cast (by unfold vc_gif_reader_blocks FnVc; kernel_rfl) h)
def vc_lzw_GifUnpack (sa1 : Option Addr) (sl1 sc1 : Nat) (x1 x2 : Int) (w : World) (R : Ending → World → Prop) : Prop :=
 brB (decide (x1 < 2) || decide (x1 > 8))
 (R (.returned (.tuple #[.slice none 0 0, .int .i64 2])) w)
 (Calls P F.lzw_gif #[.int .i64 x1] w fun e1 w1 =>
 ∃ (n1 n2 : Int) (c1 : Bool) (n3 : Int),
 (e1 = .returned (.agg #[.int .i64 n1, .int .i64 n2, .bool c1, .int .i64 n3])) ∧
 Calls P F.lzw_kind_unpack #[.agg #[.int .i64 n1, .int .i64 n2, .bool c1, .int .i64 n3], .slice sa1 sl1 sc1, .int .i64 (max x2 0)] w1 fun e2 w2 =>
 ∃ (p1 : Option Addr) (k1 k2 : Nat) (n4 : Int),
 (e2 = .returned (.tuple #[.slice p1 k1 k2, .int .i64 n4])) ∧
 R (.returned (.tuple #[.slice p1 k1 k2, .int .i64 n4])) w2)
theorem calls_lzw_GifUnpack (sa1 : Option Addr) (sl1 sc1 : Nat) (x1 x2 : Int) (w : World) (R : Ending → World → Prop) (h : vc_lzw_GifUnpack sa1 sl1 sc1 x1 x2 w R) : Calls P F.lzw_GifUnpack #[.slice sa1 sl1 sc1, .int .i64 x1, .int .i64 x2] w R :=
  calls_of_vc (ac := ac_lzw_GifUnpack) mixed Try.func33 (by kernel_rfl) (cast (by unfold vc_lzw_GifUnpack FnVc; kernel_rfl) h)
def vc_gif_rows (x1 : Int) (b1 : Bool) (w : World) (R : Ending → World → Prop) : Prop :=
 ∃ (I1 : List Value → World → Prop) (m1 : List Value → World → Nat),
 (I1 [.slice none 0 0, .int .i64 0] w) ∧
 ∀ (p1 : Option Addr) (k1 k2 : Nat) (n1 : Int) (w1 : World),
 (I1 [.slice p1 k1 k2, .int .i64 n1] w1) →
 brB (decide (n1 < x1))
 (∀ k3 : Nat,
 w1.heap.size ≤ k3 →
 ∀ w2 : World,
 Locl [k3] w1 w2 →
 appVC (w2) ([(14, k3, [.int .i64 n1])]) (p1) (k1) (k2) (1) (1) (8) (3) ([.int .i64 0]) ([.int .i64 n1]) fun p2 k4 k5 w3 =>
 (I1 [.slice p2 k4 k5, .int .i64 (IntKind.i64.wrap (n1 + 1))] w3) ∧
 m1 [.slice p2 k4 k5, .int .i64 (IntKind.i64.wrap (n1 + 1))] w3 < m1 [.slice p1 k1 k2, .int .i64 n1] w1)
 (brB (b1)
 (∀ k6 : Nat,
 ∀ w4 : World,
 (New w1 (Obj.cells #[Value.nilFunc] 47) k6 w4) →
 (∃ v1 : Value,
 w4.cell? { block := k6, off := 0 } = some v1) ∧
 (w4.frozen? { block := k6, off := 0 } = false) ∧
 Calls P F.slices_SortStableFunc_int #[.slice p1 k1 k2, .func (Fn.func 61) #[] #[.pointer (some { block := k6, off := 0 })]] (setCells w4 { block := k6, off := 0 } [.func (Fn.func 59) #[] #[]] 0) fun e1 w5 =>
 (e1 = .returned (.tuple #[])) ∧
 R (.returned (.slice p1 k1 k2)) w5)
 (R (.returned (.slice p1 k1 k2)) w1))
theorem calls_gif_rows (x1 : Int) (b1 : Bool) (w : World) (R : Ending → World → Prop) (h : vc_gif_rows x1 b1 w R) : Calls P F.gif_rows #[.int .i64 x1, .bool b1] w R :=
  calls_of_vc (ac := ac_gif_rows) mixed Try.func34 (by kernel_rfl) (cast (by unfold vc_gif_rows FnVc; kernel_rfl) h)
def vc_raster_Distinct (x1 x2 : Int) (sa1 : Option Addr) (sl1 sc1 : Nat) (w : World) (R : Ending → World → Prop) : Prop :=
 ∀ k1 : Nat,
 w.heap.size ≤ k1 →
 ∀ w1 : World,
 Locl [k1] w w1 →
 Calls P F.raster_Good #[.agg #[.int .i64 x1, .int .i64 x2, .slice sa1 sl1 sc1]] w1 fun e1 w2 =>
 ∃ c1 : Bool,
 (e1 = .returned (.bool c1)) ∧
 Keep [k1] w1 w2 ∧
 brB (!c1)
 (R (.returned (.slice none 0 0)) w2)
 (∀ k2 : Nat,
 ∀ w3 : World,
 (New w2 (Obj.map #[] 0) k2 w3) →
 ∀ k3 : Nat,
 w3.heap.size ≤ k3 →
 ∃ (I1 : List Value → World → Prop) (m1 : List Value → World → Nat),
 (∀ w4 : World,
 Locl [k3, k1] w3 w4 →
 I1 [.slice none 0 0, .int .i64 0, .int .u16 0, .int .u16 0, .int .u16 0, .int .u16 0] w4) ∧
 ∀ (p1 : Option Addr) (k4 k5 : Nat) (n1 n2 n3 n4 n5 : Int) (w5 : World),
 (I1 [.slice p1 k4 k5, .int .i64 n1, .int .u16 n2, .int .u16 n3, .int .u16 n4, .int .u16 n5] w5) →
 brB (decide (n1 < IntKind.i64.wrap (x1 * x2)))
 (∃ I2 : List Value → World → Prop,
 (slcc (sa1) (sc1) (IntKind.i64.wrap (4 * n1)) ((sl1 : Int)) (1) fun p2 k6 k7 =>
 Calls P F.raster_colour #[.slice p2 k6 k7] w5 fun e2 w6 =>
 ∃ n6 n7 n8 n9 : Int,
 (e2 = .returned (.agg #[.int .u16 n6, .int .u16 n7, .int .u16 n8, .int .u16 n9])) ∧
 Keep [k3, k1] w5 w6 ∧
 ∀ k8 : Nat,
 w6.heap.size ≤ k8 →
 ∃ I3 : List Value → World → Prop,
 (brB (decide (n1 > 0))
 (brB (decide (n6 = n2) && (decide (n7 = n3) && (decide (n8 = n4) && (decide (n9 = n5) && true))))
 (∀ w7 : World,
 Locl [k8, k3, k1] w6 w7 →
 I2 [.slice p1 k4 k5, .int .u16 n2, .int .u16 n3, .int .u16 n4, .int .u16 n5] w7)
 (∀ w8 : World,
 Locl [k8, k3, k1] w6 w8 →
 I3 [] w8))
 (∀ w9 : World,
 Locl [k8, k3, k1] w6 w9 →
 I3 [] w9)) ∧
 ∀ w10 : World,
 (I3 [] w10) →
 ∀ w11 : World,
 Locl [k8, k3, k1] w10 w11 →
 mapIn (Kd.agg [.u16, .u16, .u16, .u16]) (w11) (.map (some k2)) fun l1 =>
 ∃ c2 : Bool,
 (mgot l1 (.agg #[.int .u16 n6, .int .u16 n7, .int .u16 n8, .int .u16 n9]) (.agg #[]) = (.agg #[], c2)) ∧
 ∀ k9 : Nat,
 w11.heap.size ≤ k9 →
 brB (!c2)
 (∀ w12 : World,
 Locl [k9, k8, k3, k1] w11 w12 →
 mapTo (Kd.agg [.u16, .u16, .u16, .u16]) (w12) (.map (some k2)) fun b1 l2 =>
 ∀ w13 : World,
 (Put b1 w12 w13) →
 (Mp (Kd.agg [.u16, .u16, .u16, .u16]) w13 b1 (mput (.agg #[.int .u16 n6, .int .u16 n7, .int .u16 n8, .int .u16 n9]) (.agg #[]) l2)) →
 ∀ k10 : Nat,
 w13.heap.size ≤ k10 →
 ∀ w14 : World,
 Locl [k10, k9, k8, k3, k1] w13 w14 →
 appVC (w14) ([(50, k10, [.int .u16 n6, .int .u16 n7, .int .u16 n8, .int .u16 n9]), (8, k9, []), (7, k8, [.int .u16 n6, .int .u16 n7, .int .u16 n8, .int .u16 n9]), (5, k3, [.int .u16 n6, .int .u16 n7, .int .u16 n8, .int .u16 n9]), (1, k1, [.int .i64 x1, .int .i64 x2, .slice sa1 sl1 sc1])]) (p1) (k4) (k5) (1) (4) (8) (53) ([.int .u16 0, .int .u16 0, .int .u16 0, .int .u16 0]) ([.int .u16 n6, .int .u16 n7, .int .u16 n8, .int .u16 n9]) fun p3 k11 k12 w15 =>
 I2 [.slice p3 k11 k12, .int .u16 n6, .int .u16 n7, .int .u16 n8, .int .u16 n9] w15)
 (∀ w16 : World,
 Locl [k9, k8, k3, k1] w11 w16 →
 I2 [.slice p1 k4 k5, .int .u16 n6, .int .u16 n7, .int .u16 n8, .int .u16 n9] w16)) ∧
 ∀ (p4 : Option Addr) (k13 k14 : Nat) (n10 n11 n12 n13 : Int) (w17 : World),
 (I2 [.slice p4 k13 k14, .int .u16 n10, .int .u16 n11, .int .u16 n12, .int .u16 n13] w17) →
 (I1 [.slice p4 k13 k14, .int .i64 (IntKind.i64.wrap (n1 + 1)), .int .u16 n10, .int .u16 n11, .int .u16 n12, .int .u16 n13] w17) ∧
 m1 [.slice p4 k13 k14, .int .i64 (IntKind.i64.wrap (n1 + 1)), .int .u16 n10, .int .u16 n11, .int .u16 n12, .int .u16 n13] w17 < m1 [.slice p1 k4 k5, .int .i64 n1, .int .u16 n2, .int .u16 n3, .int .u16 n4, .int .u16 n5] w5)
 (R (.returned (.slice p1 k4 k5)) w5))
theorem calls_raster_Distinct (x1 x2 : Int) (sa1 : Option Addr) (sl1 sc1 : Nat) (w : World) (R : Ending → World → Prop) (h : vc_raster_Distinct x1 x2 sa1 sl1 sc1 w R) : Calls P F.raster_Distinct #[.agg #[.int .i64 x1, .int .i64 x2, .slice sa1 sl1 sc1]] w R :=
  calls_of_vc (ac := ac_raster_Distinct) mixed Try.func35 (by kernel_rfl) (cast (by unfold vc_raster_Distinct FnVc; kernel_rfl) h)
def vc_quant_clear (x1 x2 x3 x4 : Int) (w : World) (R : Ending → World → Prop) : Prop :=
 ∀ k1 : Nat,
 w.heap.size ≤ k1 →
 ∀ w1 : World,
 Locl [k1] w w1 →
 R (.returned (.bool (decide (x4 < 32768)))) w1
theorem calls_quant_clear (x1 x2 x3 x4 : Int) (w : World) (R : Ending → World → Prop) (h : vc_quant_clear x1 x2 x3 x4 w R) : Calls P F.quant_clear #[.agg #[.int .u16 x1, .int .u16 x2, .int .u16 x3, .int .u16 x4]] w R :=
  calls_of_vc (ac := ac_quant_clear) mixed Try.func36 (by kernel_rfl) (cast (by unfold vc_quant_clear FnVc; kernel_rfl) h)
def vc_quant_eight (x1 x2 x3 x4 : Int) (w : World) (R : Ending → World → Prop) : Prop :=
 ∀ k1 : Nat,
 w.heap.size ≤ k1 →
 ∀ k2 : Nat,
 w.heap.size ≤ k2 →
 ∀ w1 : World,
 Locl [k2, k1] w w1 →
 Calls P F.quant_eight_fn1 #[.int .u16 x1] w1 fun e1 w2 =>
 ∃ n1 : Int,
 (e1 = .returned (.int .u16 n1)) ∧
 Keep [k2, k1] w1 w2 ∧
 (Keeps w1 w2) ∧
 Calls P F.quant_eight_fn1 #[.int .u16 x2] w2 fun e2 w3 =>
 ∃ n2 : Int,
 (e2 = .returned (.int .u16 n2)) ∧
 Keep [k2, k1] w2 w3 ∧
 (Keeps w2 w3) ∧
 Calls P F.quant_eight_fn1 #[.int .u16 x3] w3 fun e3 w4 =>
 ∃ n3 : Int,
 (e3 = .returned (.int .u16 n3)) ∧
 Keep [k2, k1] w3 w4 ∧
 ∀ w5 : World,
 Locl [k2, k1] w4 w5 →
 R (.returned (.agg #[.int .u16 n1, .int .u16 n2, .int .u16 n3, .int .u16 65535])) w5
theorem calls_quant_eight (x1 x2 x3 x4 : Int) (w : World) (R : Ending → World → Prop) (h : vc_quant_eight x1 x2 x3 x4 w R) : Calls P F.quant_eight #[.agg #[.int .u16 x1, .int .u16 x2, .int .u16 x3, .int .u16 x4]] w R :=
  calls_of_vc (ac := ac_quant_eight) mixed Try.func37 (by kernel_rfl) (cast (by unfold vc_quant_eight FnVc; kernel_rfl) h)
def vc_quant_Palette_fn1 (sa1 : Option Addr) (sl1 sc1 : Nat) (w : World) (R : Ending → World → Prop) : Prop :=
 R (.returned (.int .i64 (sl1 : Int))) w
theorem calls_quant_Palette_fn1 (sa1 : Option Addr) (sl1 sc1 : Nat) (w : World) (R : Ending → World → Prop) (h : vc_quant_Palette_fn1 sa1 sl1 sc1 w R) : Calls P F.quant_Palette_fn1 #[.slice sa1 sl1 sc1] w R :=
  calls_of_vc (ac := ac_quant_Palette_fn1) mixed Try.func38 (by kernel_rfl) (cast (by unfold vc_quant_Palette_fn1 FnVc; kernel_rfl) h)
def vc_quant_bag_api_Color_put (q1 sa1 : Option Addr) (sl1 sc1 : Nat) (w : World) (R : Ending → World → Prop) : Prop :=
 nn (q1) fun a1 =>
 ∃ (p1 : Option Addr) (k1 k2 : Nat),
 (w.cell? a1 = some (.slice p1 k1 k2)) ∧
 ∀ k3 : Nat,
 w.heap.size ≤ k3 →
 ∀ w1 : World,
 Locl [k3] w w1 →
 appVC (w1) ([(10, k3, [.slice sa1 sl1 sc1])]) (p1) (k1) (k2) (1) (1) (24) (34) ([.slice none 0 0]) ([.slice sa1 sl1 sc1]) fun p2 k4 k5 w2 =>
 nn (q1) fun a2 =>
 (∃ v1 : Value,
 w2.cell? a2 = some v1) ∧
 (w2.frozen? a2 = false) ∧
 (¬a2.block ∈ [k3]) ∧
 R (.returned (.tuple #[])) (setCells w2 a2 [.slice p2 k4 k5] 0)
theorem calls_quant_bag_api_Color_put (q1 sa1 : Option Addr) (sl1 sc1 : Nat) (w : World) (R : Ending → World → Prop) (h : vc_quant_bag_api_Color_put q1 sa1 sl1 sc1 w R) : Calls P F.quant_bag_api_Color_put #[.pointer q1, .slice sa1 sl1 sc1] w R :=
  calls_of_vc (ac := ac_quant_bag_api_Color_put) mixed Try.func39 (by kernel_rfl) (cast (by unfold vc_quant_bag_api_Color_put FnVc; kernel_rfl) h)
def vc_quant_bag_api_Color_take (q1 : Option Addr) (w : World) (R : Ending → World → Prop) : Prop :=
 nn (q1) fun a1 =>
 ∃ (p1 : Option Addr) (k1 k2 : Nat),
 (w.cell? a1 = some (.slice p1 k1 k2)) ∧
 ∃ (I1 : List Value → World → Prop) (m1 : List Value → World → Nat),
 (I1 [.int .i64 0, .int .i64 0] w) ∧
 ∀ (n1 n2 : Int) (w1 : World),
 (I1 [.int .i64 n1, .int .i64 n2] w1) →
 brB (decide (n2 < (k1 : Int)))
 (∃ I2 : List Value → World → Prop,
 (nn (q1) fun a2 =>
 ∃ (y1 : FuncId) (y2 y3 : Array Value),
 (w1.drew.cell? (a2.add 1) = some (.func (Fn.func y1) y2 y3)) ∧
 nn (q1) fun a3 =>
 ∃ (p2 : Option Addr) (k3 k4 : Nat),
 (w1.drew.cell? a3 = some (.slice p2 k3 k4)) ∧
 idx (p2) (k3) (n2) (1) fun a4 =>
 ∃ (p3 : Option Addr) (k5 k6 : Nat),
 (w1.drew.cell? a4 = some (.slice p3 k5 k6)) ∧
 nn (q1) fun a5 =>
 ∃ (y4 : FuncId) (y5 y6 : Array Value),
 (w1.drew.cell? (a5.add 1) = some (.func (Fn.func y4) y5 y6)) ∧
 nn (q1) fun a6 =>
 ∃ (p4 : Option Addr) (k7 k8 : Nat),
 (w1.drew.cell? a6 = some (.slice p4 k7 k8)) ∧
 idx (p4) (k7) (n1) (1) fun a7 =>
 ∃ (p5 : Option Addr) (k9 k10 : Nat),
 (w1.drew.cell? a7 = some (.slice p5 k9 k10)) ∧
 callV P (.func (Fn.func y1) y2 y3) [.slice p3 k5 k6] (w1.drew) fun e1 w2 =>
 ∃ n3 : Int,
 (e1 = .returned (.int .i64 n3)) ∧
 (Keeps (w1.drew) w2) ∧
 callV P (.func (Fn.func y4) y5 y6) [.slice p5 k9 k10] w2 fun e2 w3 =>
 ∃ n4 : Int,
 (e2 = .returned (.int .i64 n4)) ∧
 brB (decide (n3 > n4))
 (I2 [.int .i64 n2] w3)
 (I2 [.int .i64 n1] w3)) ∧
 ∀ (n5 : Int) (w4 : World),
 (I2 [.int .i64 n5] w4) →
 (I1 [.int .i64 n5, .int .i64 (IntKind.i64.wrap (n2 + 1))] w4) ∧
 m1 [.int .i64 n5, .int .i64 (IntKind.i64.wrap (n2 + 1))] w4 < m1 [.int .i64 n1, .int .i64 n2] w1)
 (nn (q1) fun a8 =>
 ∃ (p6 : Option Addr) (k11 k12 : Nat),
 (w1.cell? a8 = some (.slice p6 k11 k12)) ∧
 idx (p6) (k11) (n1) (1) fun a9 =>
 ∃ (p7 : Option Addr) (k13 k14 : Nat),
 (w1.cell? a9 = some (.slice p7 k13 k14)) ∧
 nn (q1) fun a10 =>
 ∃ (p8 : Option Addr) (k15 k16 : Nat),
 (w1.cell? a10 = some (.slice p8 k15 k16)) ∧
 Calls P F.slices_Delete_api_Color #[.slice p8 k15 k16, .int .i64 n1, .int .i64 (IntKind.i64.wrap (n1 + 1))] w1 fun e3 w5 =>
 ∃ (p9 : Option Addr) (k17 k18 : Nat),
 (e3 = .returned (.slice p9 k17 k18)) ∧
 nn (q1) fun a11 =>
 (∃ v1 : Value,
 w5.cell? a11 = some v1) ∧
 (w5.frozen? a11 = false) ∧
 R (.returned (.slice p7 k13 k14)) (setCells w5 a11 [.slice p9 k17 k18] 0))
theorem calls_quant_bag_api_Color_take (q1 : Option Addr) (w : World) (R : Ending → World → Prop) (h : vc_quant_bag_api_Color_take q1 w R) : Calls P F.quant_bag_api_Color_take #[.pointer q1] w R :=
  calls_of_vc (ac := ac_quant_bag_api_Color_take) mixed Try.func40 (by kernel_rfl) (cast (by unfold vc_quant_bag_api_Color_take FnVc; kernel_rfl) h)
def vc_quant_longest (sa1 : Option Addr) (sl1 sc1 : Nat) (w : World) (R : Ending → World → Prop) : Prop :=
 ∃ (I1 : List Value → World → Prop) (m1 : List Value → World → Nat),
 (I1 [.int .i64 (-1), .int .i64 0, .int .i64 0] w) ∧
 ∀ (n1 n2 n3 : Int) (w1 : World),
 (I1 [.int .i64 n1, .int .i64 n2, .int .i64 n3] w1) →
 brB (decide (n3 < 3))
 (∃ I2 : List Value → World → Prop,
 (∀ k1 : Nat,
 ∀ w2 : World,
 (New w1 (Obj.cells #[.int .i64 0] 3) k1 w2) →
 (∃ v1 : Value,
 w2.cell? { block := k1, off := 0 } = some v1) ∧
 (w2.frozen? { block := k1, off := 0 } = false) ∧
 ∃ n4 : Int,
 ((setCells w2 { block := k1, off := 0 } [.int .i64 n3] 0).drew.cell? { block := k1, off := 0 } = some (.int .i64 n4)) ∧
 ∃ n5 : Int,
 ((setCells w2 { block := k1, off := 0 } [.int .i64 n3] 0).drew.cell? { block := k1, off := 0 } = some (.int .i64 n5)) ∧
 Calls P F.slices_MaxFunc_api_Color #[.slice sa1 sl1 sc1, .func (Fn.func 66) #[] #[.pointer (some { block := k1, off := 0 })]] ((setCells w2 { block := k1, off := 0 } [.int .i64 n3] 0).drew) fun e1 w3 =>
 ∃ n6 n7 n8 n9 : Int,
 (e1 = .returned (.agg #[.int .u16 n6, .int .u16 n7, .int .u16 n8, .int .u16 n9])) ∧
 (Keeps ((setCells w2 { block := k1, off := 0 } [.int .i64 n3] 0).drew) w3) ∧
 Calls P F.quant_axis #[.agg #[.int .u16 n6, .int .u16 n7, .int .u16 n8, .int .u16 n9], .int .i64 n4] w3 fun e2 w4 =>
 ∃ n10 : Int,
 (e2 = .returned (.int .i64 n10)) ∧
 (Keeps w3 w4) ∧
 Calls P F.slices_MinFunc_api_Color #[.slice sa1 sl1 sc1, .func (Fn.func 66) #[] #[.pointer (some { block := k1, off := 0 })]] w4 fun e3 w5 =>
 ∃ n11 n12 n13 n14 : Int,
 (e3 = .returned (.agg #[.int .u16 n11, .int .u16 n12, .int .u16 n13, .int .u16 n14])) ∧
 (Keeps w4 w5) ∧
 Calls P F.quant_axis #[.agg #[.int .u16 n11, .int .u16 n12, .int .u16 n13, .int .u16 n14], .int .i64 n5] w5 fun e4 w6 =>
 ∃ n15 : Int,
 (e4 = .returned (.int .i64 n15)) ∧
 brB (decide (IntKind.i64.wrap (n10 - n15) > n1))
 (∃ n16 : Int,
 (w6.drew.cell? { block := k1, off := 0 } = some (.int .i64 n16)) ∧
 I2 [.int .i64 (IntKind.i64.wrap (n10 - n15)), .int .i64 n16] w6.drew)
 (I2 [.int .i64 n1, .int .i64 n2] w6)) ∧
 ∀ (n17 n18 : Int) (w7 : World),
 (I2 [.int .i64 n17, .int .i64 n18] w7) →
 (I1 [.int .i64 n17, .int .i64 n18, .int .i64 (IntKind.i64.wrap (n3 + 1))] w7) ∧
 m1 [.int .i64 n17, .int .i64 n18, .int .i64 (IntKind.i64.wrap (n3 + 1))] w7 < m1 [.int .i64 n1, .int .i64 n2, .int .i64 n3] w1)
 (R (.returned (.int .i64 n2)) w1)
theorem calls_quant_longest (sa1 : Option Addr) (sl1 sc1 : Nat) (w : World) (R : Ending → World → Prop) (h : vc_quant_longest sa1 sl1 sc1 w R) : Calls P F.quant_longest #[.slice sa1 sl1 sc1] w R :=
  calls_of_vc (ac := ac_quant_longest) mixed Try.func41 (by kernel_rfl) (cast (by unfold vc_quant_longest FnVc; kernel_rfl) h)
def vc_slices_Clone_api_Color (sa1 : Option Addr) (sl1 sc1 : Nat) (w : World) (R : Ending → World → Prop) : Prop :=
 brB (sa1.isNone)
 (R (.returned (.slice none 0 0)) w)
 (∀ k1 : Nat,
 ∀ w1 : World,
 (New w (Obj.cells #[] 53) k1 w1) →
 ∃ l1 : List Value,
 (l1.length = sl1 * 4) ∧
 (oneAll l1 = true) ∧
 (CellsAre w1 sa1 l1) ∧
 appVC (w1) ([]) (some { block := k1, off := 0 }) (0) (0) (sl1) (4) (8) (53) ([.int .u16 0, .int .u16 0, .int .u16 0, .int .u16 0]) (l1) fun p1 k2 k3 w2 =>
 R (.returned (.slice p1 k2 k3)) w2)
theorem calls_slices_Clone_api_Color (sa1 : Option Addr) (sl1 sc1 : Nat) (w : World) (R : Ending → World → Prop) (h : vc_slices_Clone_api_Color sa1 sl1 sc1 w R) : Calls P F.slices_Clone_api_Color #[.slice sa1 sl1 sc1] w R :=
  calls_of_vc (ac := ac_slices_Clone_api_Color) mixed Try.func42 (by kernel_rfl) (cast (by unfold vc_slices_Clone_api_Color FnVc; kernel_rfl) h)
def vc_slices_SortStableFunc_api_Color (sa1 : Option Addr) (sl1 sc1 : Nat) (va1 : Value) (w : World) (R : Ending → World → Prop) : Prop :=
 Calls P F.slices_stableCmpFunc_api_Color #[.slice sa1 sl1 sc1, .int .i64 (sl1 : Int), va1] w fun e1 w1 =>
 (e1 = .returned (.tuple #[])) ∧
 R (.returned (.tuple #[])) w1
theorem calls_slices_SortStableFunc_api_Color (sa1 : Option Addr) (sl1 sc1 : Nat) (va1 : Value) (w : World) (R : Ending → World → Prop) (h : vc_slices_SortStableFunc_api_Color sa1 sl1 sc1 va1 w R) : Calls P F.slices_SortStableFunc_api_Color #[.slice sa1 sl1 sc1, va1] w R :=
  calls_of_vc (ac := ac_slices_SortStableFunc_api_Color) mixed Try.func43 (by kernel_rfl) (cast (by unfold vc_slices_SortStableFunc_api_Color FnVc; kernel_rfl) h)
def vc_quant_Palette_fn2 (x1 x2 x3 x4 x5 x6 x7 x8 : Int) (fr1 : Addr) (w : World) (R : Ending → World → Prop) : Prop :=
 ∀ k1 : Nat,
 w.heap.size ≤ k1 →
 ∀ k2 : Nat,
 w.heap.size ≤ k2 →
 ∀ w1 : World,
 Locl [k2, k1] w w1 →
 ∃ n1 : Int,
 (w1.cell? fr1 = some (.int .i64 n1)) ∧
 ∃ n2 : Int,
 (w1.cell? fr1 = some (.int .i64 n2)) ∧
 Calls P F.quant_axis #[.agg #[.int .u16 x1, .int .u16 x2, .int .u16 x3, .int .u16 x4], .int .i64 n1] w1 fun e1 w2 =>
 ∃ n3 : Int,
 (e1 = .returned (.int .i64 n3)) ∧
 Keep [k2, k1] w1 w2 ∧
 (Keeps w1 w2) ∧
 Calls P F.quant_axis #[.agg #[.int .u16 x5, .int .u16 x6, .int .u16 x7, .int .u16 x8], .int .i64 n2] w2 fun e2 w3 =>
 ∃ n4 : Int,
 (e2 = .returned (.int .i64 n4)) ∧
 Keep [k2, k1] w2 w3 ∧
 Calls P F.cmp_Compare_int #[.int .i64 n3, .int .i64 n4] w3 fun e3 w4 =>
 ∃ n5 : Int,
 (e3 = .returned (.int .i64 n5)) ∧
 Keep [k2, k1] w3 w4 ∧
 R (.returned (.int .i64 n5)) w4
theorem calls_quant_Palette_fn2 (x1 x2 x3 x4 x5 x6 x7 x8 : Int) (fr1 : Addr) (w : World) (R : Ending → World → Prop) (h : vc_quant_Palette_fn2 x1 x2 x3 x4 x5 x6 x7 x8 fr1 w R) : Calls P F.quant_Palette_fn2 #[.agg #[.int .u16 x1, .int .u16 x2, .int .u16 x3, .int .u16 x4], .agg #[.int .u16 x5, .int .u16 x6, .int .u16 x7, .int .u16 x8], .pointer (some fr1)] w R :=
  calls_of_vc (ac := ac_quant_Palette_fn2) mixed Try.func44 (by kernel_rfl) (cast (by unfold vc_quant_Palette_fn2 FnVc; kernel_rfl) h)
def vc_cmp_Compare_int (x1 x2 : Int) (w : World) (R : Ending → World → Prop) : Prop :=
 Calls P F.cmp_isNaN_int #[.int .i64 x1] w fun e1 w1 =>
 ∃ c1 : Bool,
 (e1 = .returned (.bool c1)) ∧
 Calls P F.cmp_isNaN_int #[.int .i64 x2] w1 fun e2 w2 =>
 ∃ c2 : Bool,
 (e2 = .returned (.bool c2)) ∧
 brB (c1)
 (brB (c2)
 (R (.returned (.int .i64 0)) w2)
 (R (.returned (.int .i64 (-1))) w2))
 (brB (c2)
 (R (.returned (.int .i64 1)) w2)
 (brB (decide (x1 < x2))
 (R (.returned (.int .i64 (-1))) w2)
 (brB (decide (x1 > x2))
 (R (.returned (.int .i64 1)) w2)
 (R (.returned (.int .i64 0)) w2))))
theorem calls_cmp_Compare_int (x1 x2 : Int) (w : World) (R : Ending → World → Prop) (h : vc_cmp_Compare_int x1 x2 w R) : Calls P F.cmp_Compare_int #[.int .i64 x1, .int .i64 x2] w R :=
  calls_of_vc (ac := ac_cmp_Compare_int) mixed Try.func45 (by kernel_rfl) (cast (by unfold vc_cmp_Compare_int FnVc; kernel_rfl) h)
def vc_quant_axis (x1 x2 x3 x4 x5 : Int) (w : World) (R : Ending → World → Prop) : Prop :=
 ∀ k1 : Nat,
 w.heap.size ≤ k1 →
 (0 ≤ x5) ∧
 (x5 < 3) ∧
 ∃ n1 : Int,
 ([Value.int .i64 (IntKind.i64.wrap x1), Value.int .i64 (IntKind.i64.wrap x2), Value.int .i64 (IntKind.i64.wrap x3)][x5.toNat]? = some (Value.int .i64 n1)) ∧
 ∀ w1 : World,
 Locl [k1] w w1 →
 R (.returned (.int .i64 n1)) w1
theorem calls_quant_axis (x1 x2 x3 x4 x5 : Int) (w : World) (R : Ending → World → Prop) (h : vc_quant_axis x1 x2 x3 x4 x5 w R) : Calls P F.quant_axis #[.agg #[.int .u16 x1, .int .u16 x2, .int .u16 x3, .int .u16 x4], .int .i64 x5] w R :=
  calls_of_vc (ac := ac_quant_axis) mixed Try.func46 (by kernel_rfl) (cast (by unfold vc_quant_axis FnVc; kernel_rfl) h)
def vc_raster_Grid (x1 x2 : Int) (sa1 : Option Addr) (sl1 sc1 : Nat) (w : World) (R : Ending → World → Prop) : Prop :=
 ∀ k1 : Nat,
 w.heap.size ≤ k1 →
 ∀ w1 : World,
 Locl [k1] w w1 →
 Calls P F.raster_Good #[.agg #[.int .i64 x1, .int .i64 x2, .slice sa1 sl1 sc1]] w1 fun e1 w2 =>
 ∃ c1 : Bool,
 (e1 = .returned (.bool c1)) ∧
 Keep [k1] w1 w2 ∧
 brB (!c1)
 (R (.returned (.tuple #[.pointer none, .int .i64 6])) w2)
 (((0 : Int) ≤ 0) ∧
 (0 ≤ IntKind.i64.wrap (x1 * x2)) ∧
 (IntKind.i64.wrap (x1 * x2) * 8 ≤ 281474976710656) ∧
 (IntKind.i64.wrap (x1 * x2) < 4611686018427387904) ∧
 ∀ (k2 : Nat) (w3 : World),
 (New w2 (Obj.cells (mkCells [.int .u16 0, .int .u16 0, .int .u16 0, .int .u16 0] (IntKind.i64.wrap (x1 * x2)).toNat) 53) k2 w3) →
 ∀ k3 : Nat,
 w3.heap.size ≤ k3 →
 ∀ w4 : World,
 Locl [k3, k1] w3 w4 →
 Calls P F.slices_Chunk_uint16 #[.slice sa1 sl1 sc1, .int .i64 4] w4 fun e2 w5 =>
 ∃ (y1 : FuncId) (y2 y3 : Array Value),
 (e2 = .returned (.func (Fn.func y1) y2 y3)) ∧
 Keep [k3, k1] w4 w5 ∧
 ∀ (k4 : Nat) (w6 : World),
 (Rf w5 w6 k4) →
 ∀ (I1 : List Value → World → Prop) (Z1 : Exit → List Value → World → Prop),
 (∀ l1 : List Value,
 ∀ w7 w8 : World,
 (I1 l1 w7) →
 (Keep ([k4, w5.heap.size, k3, k1]) w7 w8) →
 I1 l1 w8) →
 (∀ y4 : Exit,
 ∀ (l2 : List Value) (w9 w10 : World),
 (Z1 y4 l2 w9) →
 (Keep ([k4, w5.heap.size, k3, k1]) w9 w10) →
 Z1 y4 l2 w10) →
 (I1 [.slice (some { block := k2, off := 0 }) 0 (IntKind.i64.wrap (x1 * x2)).toNat] w6) →
 (∀ p1 : Option Addr,
 ∀ (k5 k6 : Nat) (p2 : Option Addr) (k7 k8 : Nat) (w11 : World) (I2 : Ending → World → Prop),
 (I1 [.slice p1 k5 k6] w11) →
 (∀ y5 : Obj,
 ∀ (y6 : Obj) (w12 : World),
 (Put k4 w11 w12) →
 Calls P F.raster_colour #[.slice p2 k7 k8] (w12.drew) fun e3 w13 =>
 ∃ n1 n2 n3 n4 : Int,
 (e3 = .returned (.agg #[.int .u16 n1, .int .u16 n2, .int .u16 n3, .int .u16 n4])) ∧
 (Keep ([k4, w5.heap.size, k3, k1]) (w12.drew) w13) ∧
 (Keeps (w12.drew) w13) ∧
 ∀ k9 : Nat,
 w13.heap.size ≤ k9 →
 ∀ w14 : World,
 Locl [k9, k3, k1] w13 w14 →
 appVC (w14) ([(22, k9, [.int .u16 n1, .int .u16 n2, .int .u16 n3, .int .u16 n4]), (4, k3, [.slice p1 k5 k6]), (1, k1, [.int .i64 x1, .int .i64 x2, .slice sa1 sl1 sc1])]) (p1) (k5) (k6) (1) (4) (8) (53) ([.int .u16 0, .int .u16 0, .int .u16 0, .int .u16 0]) ([.int .u16 n1, .int .u16 n2, .int .u16 n3, .int .u16 n4]) fun p3 k10 k11 w15 =>
 ∀ w16 : World,
 Locl [k9, k3, k1] w15 w16 →
 ∀ w17 : World,
 (Put k4 w16 w17) →
 (I1 [.slice p3 k10 k11] w17) →
 I2 (.returned (.bool true)) w17) →
 YieldAt Fence.wide 0 P (k4) #[.slice p2 k7 k8] (w11) I2) →
 callF P (.func (Fn.func y1) y2 y3) [.func (Fn.yield k4) #[] #[]] w6 fun e4 w18 =>
 ∃ v1 : Value,
 (e4 = .returned v1) ∧
 ((∃ p4 : Option Addr,
 ∃ k12 k13 : Nat,
 (I1 [.slice p4 k12 k13] w18) ∧
 ∀ w19 : World,
 (Put k4 w18 w19) →
 Calls P F.grid_Of_api_Color #[.int .i64 x1, .int .i64 x2, .slice p4 k12 k13] w19 fun e5 w20 =>
 ∃ (p5 : Option Addr) (n5 : Int),
 (e5 = .returned (.tuple #[.pointer p5, .int .i64 n5])) ∧
 Keep [w5.heap.size, k3, k1] w19 w20 ∧
 ∀ w21 : World,
 (Put (w5.heap.size) w20 w21) →
 R (.returned (.tuple #[.pointer p5, .int .i64 n5])) w21) ∨
 (False)))
theorem calls_raster_Grid (x1 x2 : Int) (sa1 : Option Addr) (sl1 sc1 : Nat) (w : World) (R : Ending → World → Prop) (h : vc_raster_Grid x1 x2 sa1 sl1 sc1 w R) : Calls P F.raster_Grid #[.agg #[.int .i64 x1, .int .i64 x2, .slice sa1 sl1 sc1]] w R :=
  calls_of_vc (ac := ac_raster_Grid) mixed Try.func47 (by kernel_rfl) (cast (by unfold vc_raster_Grid FnVc; kernel_rfl) h)
def vc_slices_IndexFunc_api_Color (sa1 : Option Addr) (sl1 sc1 : Nat) (va1 : Value) (w : World) (R : Ending → World → Prop) : Prop :=
 ∃ (I1 : List Value → World → Prop) (m1 : List Value → World → Nat),
 (I1 [.int .i64 0] w) ∧
 ∀ (n1 : Int) (w1 : World),
 (I1 [.int .i64 n1] w1) →
 brB (decide (n1 < (sl1 : Int)))
 (idx (sa1) (sl1) (n1) (4) fun a1 =>
 ∃ n2 n3 n4 n5 : Int,
 (w1.cell? a1 = some (.int .u16 n2)) ∧
 (w1.cell? (a1.add 1) = some (.int .u16 n3)) ∧
 (w1.cell? (a1.add 2) = some (.int .u16 n4)) ∧
 (w1.cell? (a1.add 3) = some (.int .u16 n5)) ∧
 callV P (va1) [.agg #[.int .u16 n2, .int .u16 n3, .int .u16 n4, .int .u16 n5]] w1 fun e1 w2 =>
 ∃ c1 : Bool,
 (e1 = .returned (.bool c1)) ∧
 brB (c1)
 (R (.returned (.int .i64 n1)) w2)
 ((I1 [.int .i64 (IntKind.i64.wrap (n1 + 1))] w2) ∧
 m1 [.int .i64 (IntKind.i64.wrap (n1 + 1))] w2 < m1 [.int .i64 n1] w1))
 (R (.returned (.int .i64 (-1))) w1)
theorem calls_slices_IndexFunc_api_Color (sa1 : Option Addr) (sl1 sc1 : Nat) (va1 : Value) (w : World) (R : Ending → World → Prop) (h : vc_slices_IndexFunc_api_Color sa1 sl1 sc1 va1 w R) : Calls P F.slices_IndexFunc_api_Color #[.slice sa1 sl1 sc1, va1] w R :=
  calls_of_vc (ac := ac_slices_IndexFunc_api_Color) mixed Try.func48 (by kernel_rfl) (cast (by unfold vc_slices_IndexFunc_api_Color FnVc; kernel_rfl) h)
def vc_quant_Apply_fn1 (x1 x2 x3 x4 : Int) (w : World) (R : Ending → World → Prop) : Prop :=
 ∀ k1 : Nat,
 w.heap.size ≤ k1 →
 ∀ w1 : World,
 Locl [k1] w w1 →
 R (.returned (.bool (x4 == 0))) w1
theorem calls_quant_Apply_fn1 (x1 x2 x3 x4 : Int) (w : World) (R : Ending → World → Prop) (h : vc_quant_Apply_fn1 x1 x2 x3 x4 w R) : Calls P F.quant_Apply_fn1 #[.agg #[.int .u16 x1, .int .u16 x2, .int .u16 x3, .int .u16 x4]] w R :=
  calls_of_vc (ac := ac_quant_Apply_fn1) mixed Try.func49 (by kernel_rfl) (cast (by unfold vc_quant_Apply_fn1 FnVc; kernel_rfl) h)
def vc_grid_Grid_api_Color_All (q1 : Option Addr) (w : World) (R : Ending → World → Prop) : Prop :=
 ∀ (k1 : Nat) (w1 : World),
 (New w (Obj.cells #[.pointer q1] 88) k1 w1) →
 R (.returned (.func (Fn.func 73) #[] #[.pointer (some { block := k1, off := 0 })])) w1
theorem calls_grid_Grid_api_Color_All (q1 : Option Addr) (w : World) (R : Ending → World → Prop) (h : vc_grid_Grid_api_Color_All q1 w R) : Calls P F.grid_Grid_api_Color_All #[.pointer q1] w R :=
  calls_of_vc (ac := ac_grid_Grid_api_Color_All) mixed Try.func50 (by kernel_rfl) (cast (by unfold vc_grid_Grid_api_Color_All FnVc; kernel_rfl) h)
def vc_tones_Nearest (sa1 : Option Addr) (sl1 sc1 : Nat) (x1 x2 x3 x4 : Int) (w : World) (R : Ending → World → Prop) : Prop :=
 ∀ k1 : Nat,
 w.heap.size ≤ k1 →
 ∃ (I1 : List Value → World → Prop) (m1 : List Value → World → Nat),
 (∀ w1 : World,
 Locl [k1] w w1 →
 I1 [.int .i64 (-1), .int .i64 0, .int .i64 0] w1) ∧
 ∀ (n1 n2 n3 : Int) (w2 : World),
 (I1 [.int .i64 n1, .int .i64 n2, .int .i64 n3] w2) →
 brB (decide (n3 < (sl1 : Int)))
 (∃ I2 : List Value → World → Prop,
 (idx (sa1) (sl1) (n3) (4) fun a1 =>
 ∃ n4 n5 n6 n7 : Int,
 (w2.cell? a1 = some (.int .u16 n4)) ∧
 (w2.cell? (a1.add 1) = some (.int .u16 n5)) ∧
 (w2.cell? (a1.add 2) = some (.int .u16 n6)) ∧
 (w2.cell? (a1.add 3) = some (.int .u16 n7)) ∧
 ∀ k2 : Nat,
 w2.heap.size ≤ k2 →
 brB (decide (n1 < 0) || decide (IntKind.i64.wrap (IntKind.i64.wrap (IntKind.i64.wrap (IntKind.i64.wrap (IntKind.i64.wrap n4 - IntKind.i64.wrap x1) * IntKind.i64.wrap (IntKind.i64.wrap n4 - IntKind.i64.wrap x1)) + IntKind.i64.wrap (IntKind.i64.wrap (IntKind.i64.wrap n5 - IntKind.i64.wrap x2) * IntKind.i64.wrap (IntKind.i64.wrap n5 - IntKind.i64.wrap x2))) + IntKind.i64.wrap (IntKind.i64.wrap (IntKind.i64.wrap n6 - IntKind.i64.wrap x3) * IntKind.i64.wrap (IntKind.i64.wrap n6 - IntKind.i64.wrap x3))) < n2))
 (∀ w3 : World,
 Locl [k2, k1] w2 w3 →
 I2 [.int .i64 n3, .int .i64 (IntKind.i64.wrap (IntKind.i64.wrap (IntKind.i64.wrap (IntKind.i64.wrap (IntKind.i64.wrap n4 - IntKind.i64.wrap x1) * IntKind.i64.wrap (IntKind.i64.wrap n4 - IntKind.i64.wrap x1)) + IntKind.i64.wrap (IntKind.i64.wrap (IntKind.i64.wrap n5 - IntKind.i64.wrap x2) * IntKind.i64.wrap (IntKind.i64.wrap n5 - IntKind.i64.wrap x2))) + IntKind.i64.wrap (IntKind.i64.wrap (IntKind.i64.wrap n6 - IntKind.i64.wrap x3) * IntKind.i64.wrap (IntKind.i64.wrap n6 - IntKind.i64.wrap x3))))] w3)
 (∀ w4 : World,
 Locl [k2, k1] w2 w4 →
 I2 [.int .i64 n1, .int .i64 n2] w4)) ∧
 ∀ (n8 n9 : Int) (w5 : World),
 (I2 [.int .i64 n8, .int .i64 n9] w5) →
 (I1 [.int .i64 n8, .int .i64 n9, .int .i64 (IntKind.i64.wrap (n3 + 1))] w5) ∧
 m1 [.int .i64 n8, .int .i64 n9, .int .i64 (IntKind.i64.wrap (n3 + 1))] w5 < m1 [.int .i64 n1, .int .i64 n2, .int .i64 n3] w2)
 (R (.returned (.int .i64 n1)) w2)
theorem calls_tones_Nearest (sa1 : Option Addr) (sl1 sc1 : Nat) (x1 x2 x3 x4 : Int) (w : World) (R : Ending → World → Prop) (h : vc_tones_Nearest sa1 sl1 sc1 x1 x2 x3 x4 w R) : Calls P F.tones_Nearest #[.slice sa1 sl1 sc1, .agg #[.int .u16 x1, .int .u16 x2, .int .u16 x3, .int .u16 x4]] w R :=
  calls_of_vc (ac := ac_tones_Nearest) mixed Try.func51 (by kernel_rfl) (cast (by unfold vc_tones_Nearest FnVc; kernel_rfl) h)
def vc_lzw_gif (x1 : Int) (w : World) (R : Ending → World → Prop) : Prop :=
 ∀ k1 : Nat,
 w.heap.size ≤ k1 →
 (0 ≤ x1) ∧
 ∀ w1 : World,
 Locl [k1] w w1 →
 R (.returned (.agg #[.int .i64 (shiftZ .shl .i64 1 x1), .int .i64 (IntKind.i64.wrap (x1 + 1)), .bool false, .int .i64 0])) w1
theorem calls_lzw_gif (x1 : Int) (w : World) (R : Ending → World → Prop) (h : vc_lzw_gif x1 w R) : Calls P F.lzw_gif #[.int .i64 x1] w R :=
  calls_of_vc (ac := ac_lzw_gif) mixed Try.func52 (by kernel_rfl) (cast (by unfold vc_lzw_gif FnVc; kernel_rfl) h)
def vc_slices_Chunk_byte_fn1 (yl1 : Nat) (fr1 fr2 : Addr) (w : World) (R : Ending → World → Prop) : Prop :=
 ∃ (I1 : List Value → World → Prop) (m1 : List Value → World → Nat),
 (I1 [.int .i64 0] w) ∧
 ∀ (n1 : Int) (w1 : World),
 (I1 [.int .i64 n1] w1) →
 ∃ (p1 : Option Addr) (k1 k2 : Nat),
 (w1.cell? fr1 = some (.slice p1 k1 k2)) ∧
 brB (decide (n1 < (k1 : Int)))
 (∃ n2 : Int,
 (w1.drew.cell? fr2 = some (.int .i64 n2)) ∧
 ∃ (p2 : Option Addr) (k3 k4 : Nat),
 (w1.drew.cell? fr1 = some (.slice p2 k3 k4)) ∧
 slcc (p2) (k4) (n1) ((k3 : Int)) (1) fun p3 k5 k6 =>
 ∃ (p4 : Option Addr) (k7 k8 : Nat),
 (w1.drew.cell? fr1 = some (.slice p4 k7 k8)) ∧
 (0 ≤ IntKind.i64.wrap (n1 + min n2 (k5 : Int))) ∧
 (IntKind.i64.wrap (n1 + min n2 (k5 : Int)) ≤ (k8 : Int)) ∧
 slcc (p4) ((IntKind.i64.wrap (n1 + min n2 (k5 : Int))).toNat) (n1) (IntKind.i64.wrap (n1 + min n2 (k5 : Int))) (1) fun p5 k9 k10 =>
 YieldAt Fence.wide 0 P (yl1) #[.slice p5 k9 k10] (w1.drew) fun e1 w2 =>
 ∃ c1 : Bool,
 (e1 = .returned (.bool c1)) ∧
 brB (!c1)
 (R (.returned (.tuple #[])) w2)
 (∃ n3 : Int,
 (w2.cell? fr2 = some (.int .i64 n3)) ∧
 (I1 [.int .i64 (IntKind.i64.wrap (n1 + n3))] w2) ∧
 m1 [.int .i64 (IntKind.i64.wrap (n1 + n3))] w2 < m1 [.int .i64 n1] w1))
 (R (.returned (.tuple #[])) w1)
theorem calls_slices_Chunk_byte_fn1 (yl1 : Nat) (fr1 fr2 : Addr) (w : World) (R : Ending → World → Prop) (h : vc_slices_Chunk_byte_fn1 yl1 fr1 fr2 w R) : Calls P F.slices_Chunk_byte_fn1 #[.func (.yield yl1) #[] #[], .pointer (some fr1), .pointer (some fr2)] w R :=
  calls_of_vc (ac := ac_slices_Chunk_byte_fn1) mixed Try.func54 (by kernel_rfl) (cast (by unfold vc_slices_Chunk_byte_fn1 FnVc; kernel_rfl) h)
def vc_ref08_Round (x1 x2 : Int) (w : World) (R : Ending → World → Prop) : Prop :=
 Calls P F.ref08_Down #[.int .u16 x1, .int .i64 x2] w fun e1 w1 =>
 ∃ n1 n2 : Int,
 (e1 = .returned (.tuple #[.int .i64 n1, .int .i64 n2])) ∧
 Calls P F.ref08_Up #[.int .i64 n1, .int .i64 x2] w1 fun e2 w2 =>
 ∃ n3 n4 : Int,
 (e2 = .returned (.tuple #[.int .u16 n3, .int .i64 n4])) ∧
 R (.returned (.int .u16 n3)) w2
theorem calls_ref08_Round (x1 x2 : Int) (w : World) (R : Ending → World → Prop) (h : vc_ref08_Round x1 x2 w R) : Calls P F.ref08_Round #[.int .u16 x1, .int .i64 x2] w R :=
  calls_of_vc (ac := ac_ref08_Round) mixed Try.func55 (by kernel_rfl) (cast (by unfold vc_ref08_Round FnVc; kernel_rfl) h)
def vc_ref07_Fits (x1 x2 : Int) (w : World) (R : Ending → World → Prop) : Prop :=
 R (.returned (.bool (decide (x1 ≥ 1) && decide (x2 ≥ 1) && decide (x1 ≤ 4096) && decide (x2 ≤ 4096) && decide (IntKind.i64.wrap (x1 * x2) ≤ 65536)))) w
theorem calls_ref07_Fits (x1 x2 : Int) (w : World) (R : Ending → World → Prop) (h : vc_ref07_Fits x1 x2 w R) : Calls P F.ref07_Fits #[.int .i64 x1, .int .i64 x2] w R :=
  calls_of_vc (ac := ac_ref07_Fits) mixed Try.func56 (by kernel_rfl) (cast (by unfold vc_ref07_Fits FnVc; kernel_rfl) h)
def vc_gif_reader_blocks_fn1 (yl1 : Nat) (fr1 : Addr) (w : World) (R : Ending → World → Prop) : Prop :=
 ∃ p1 : Option Addr,
 (w.cell? fr1 = some (.pointer p1)) ∧
 Calls P F.gif_reader_one #[.pointer p1] w fun e1 w1 =>
 ((∃ n1 : Int,
 (e1 = .returned (.int .i64 n1)) ∧
 ∃ (I1 : List Value → World → Prop) (m1 : List Value → World → Nat),
 (I1 [.int .i64 n1] w1) ∧
 ∀ (n2 : Int) (w2 : World),
 (I1 [.int .i64 n2] w2) →
 brB (decide (n2 > 0))
 (∃ p2 : Option Addr,
 (w2.cell? fr1 = some (.pointer p2)) ∧
 Calls P F.gif_reader_bytes #[.pointer p2, .int .i64 n2] w2 fun e2 w3 =>
 ((∃ p3 : Option Addr,
 ∃ k1 k2 : Nat,
 (e2 = .returned (.slice p3 k1 k2)) ∧
 YieldAt Fence.wide 0 P (yl1) #[.slice p3 k1 k2] w3 fun e3 w4 =>
 ∃ c1 : Bool,
 (e3 = .returned (.bool c1)) ∧
 brB (!c1)
 (R (.returned (.tuple #[])) w4)
 (∃ p4 : Option Addr,
 (w4.cell? fr1 = some (.pointer p4)) ∧
 Calls P F.gif_reader_one #[.pointer p4] w4 fun e4 w5 =>
 ((∃ n3 : Int,
 (e4 = .returned (.int .i64 n3)) ∧
 (I1 [.int .i64 n3] w5) ∧
 m1 [.int .i64 n3] w5 < m1 [.int .i64 n2] w2) ∨
 (∃ l1 : List PanicEntry,
 (e4 = .panicked l1) ∧
 R (.panicked l1) w5)))) ∨
 (∃ l2 : List PanicEntry,
 (e2 = .panicked l2) ∧
 R (.panicked l2) w3)))
 (R (.returned (.tuple #[])) w2)) ∨
 (∃ l3 : List PanicEntry,
 (e1 = .panicked l3) ∧
 R (.panicked l3) w1))
theorem calls_gif_reader_blocks_fn1 (yl1 : Nat) (fr1 : Addr) (w : World) (R : Ending → World → Prop) (h : vc_gif_reader_blocks_fn1 yl1 fr1 w R) : Calls P F.gif_reader_blocks_fn1 #[.func (.yield yl1) #[] #[], .pointer (some fr1)] w R :=
  calls_of_vc (ac := ac_gif_reader_blocks_fn1) mixed Try.func57 (by kernel_rfl) (cast (by unfold vc_gif_reader_blocks_fn1 FnVc; kernel_rfl) h)
def vc_lzw_kind_unpack (x1 x2 : Int) (b1 : Bool) (x3 : Int) (sa1 : Option Addr) (sl1 sc1 : Nat) (x4 : Int) (w : World) (R : Ending → World → Prop) : Prop :=
 ∀ k1 : Nat,
 w.heap.size ≤ k1 →
 ∀ w1 : World,
 Locl [k1] w w1 →
 Calls P F.bits_NewReader #[.slice sa1 sl1 sc1, .bool b1] w1 fun e1 w2 =>
 ∃ p1 : Option Addr,
 (e1 = .returned (.pointer p1)) ∧
 Keep [k1] w1 w2 ∧
 Calls P F.lzw_kind_entries #[.agg #[.int .i64 x1, .int .i64 x2, .bool b1, .int .i64 x3]] (w2.drew) fun e2 w3 =>
 ∃ (p2 : Option Addr) (k2 k3 : Nat),
 (e2 = .returned (.slice p2 k2 k3)) ∧
 (Keep ([k1]) (w2.drew) w3) ∧
 (Keeps (w2.drew) w3) ∧
 ∃ (I1 : List Value → World → Prop) (m1 : List Value → World → Nat),
 (I1 [.slice p2 k2 k3, .int .i64 x2, .int .i64 (-1), .slice none 0 0] w3) ∧
 ∀ (p3 : Option Addr) (k4 k5 : Nat) (n1 n2 : Int) (p4 : Option Addr) (k6 k7 : Nat) (w4 : World),
 (I1 [.slice p3 k4 k5, .int .i64 n1, .int .i64 n2, .slice p4 k6 k7] w4) →
 ∃ I2 : List Value → World → Prop,
 (Calls P F.bits_Reader_Take #[.pointer p1, .int .i64 n1] w4 fun e3 w5 =>
 ∃ n3 n4 : Int,
 (e3 = .returned (.tuple #[.int .u32 n3, .int .i64 n4])) ∧
 Keep [k1] w4 w5 ∧
 brB (n4 != 0)
 (R (.returned (.tuple #[.slice none 0 0, .int .i64 5])) w5)
 (∃ I3 : List Value → World → Prop,
 (brB (IntKind.i64.wrap n3 == x1)
 (slcc (p3) (k5) (0) (IntKind.i64.wrap (x1 + 2)) (4) fun p5 k8 k9 =>
 I2 [.slice p5 k8 k9, .int .i64 x2, .int .i64 (-1), .slice p4 k6 k7] w5.drew)
 (brB (IntKind.i64.wrap n3 == IntKind.i64.wrap (x1 + 1))
 (R (.returned (.tuple #[.slice p4 k6 k7, .int .i64 0])) w5)
 (brB (decide (n2 < 0) && decide (IntKind.i64.wrap n3 > x1))
 (brB (decide (n2 < 0) && decide (IntKind.i64.wrap n3 > x1))
 (R (.returned (.tuple #[.slice none 0 0, .int .i64 32])) w5)
 (I3 [.slice p3 k4 k5, .int .i64 n1, .int .i64 n2] w5))
 (brB (decide (IntKind.i64.wrap n3 > (k4 : Int)))
 (brB (decide (IntKind.i64.wrap n3 > (k4 : Int)))
 (R (.returned (.tuple #[.slice none 0 0, .int .i64 32])) w5)
 (I3 [.slice p3 k4 k5, .int .i64 n1, .int .i64 n2] w5))
 (brB (IntKind.i64.wrap n3 == (k4 : Int) && (k4 : Int) == 4096)
 (R (.returned (.tuple #[.slice none 0 0, .int .i64 32])) w5)
 (I3 [.slice p3 k4 k5, .int .i64 n1, .int .i64 n2] w5)))))) ∧
 ∀ (p6 : Option Addr) (k10 k11 : Nat) (n5 n6 : Int) (w6 : World),
 (I3 [.slice p6 k10 k11, .int .i64 n5, .int .i64 n6] w6) →
 ∃ I4 : List Value → World → Prop,
 (brB (decide (n6 ≥ 0) && decide ((k10 : Int) < 4096))
 (idx (p6) (k10) (n6) (4) fun a1 =>
 ∃ n7 : Int,
 (w6.cell? (a1.add 2) = some (.int .u8 n7)) ∧
 ∃ I5 : List Value → World → Prop,
 (brB (decide (IntKind.i64.wrap n3 < (k10 : Int)))
 (idx (p6) (k10) (IntKind.i64.wrap n3) (4) fun a2 =>
 ∃ n8 : Int,
 (w6.cell? (a2.add 2) = some (.int .u8 n8)) ∧
 I5 [.int .u8 n8] w6)
 (I5 [.int .u8 n7] w6)) ∧
 ∀ (n9 : Int) (w7 : World),
 (I5 [.int .u8 n9] w7) →
 idx (p6) (k10) (n6) (4) fun a3 =>
 ∃ n10 : Int,
 (w7.drew.cell? (a3.add 2) = some (.int .u8 n10)) ∧
 idx (p6) (k10) (n6) (4) fun a4 =>
 ∃ n11 : Int,
 (w7.drew.cell? (a4.add 3) = some (.int .i64 n11)) ∧
 ∀ k12 : Nat,
 (w7.drew.heap.size ≤ k12) →
 ∀ w8 : World,
 (Locl ([k12, k1]) (w7.drew) w8) →
 appVC (w8) ([(114, k12, [.int .i64 n6, .int .u8 n9, .int .u8 n10, .int .i64 (IntKind.i64.wrap (n11 + 1))]), (3, k1, [.int .i64 x1, .int .i64 x2, .bool b1, .int .i64 x3])]) (p6) (k10) (k11) (1) (4) (24) (141) ([.int .i64 0, .int .u8 0, .int .u8 0, .int .i64 0]) ([.int .i64 n6, .int .u8 n9, .int .u8 n10, .int .i64 (IntKind.i64.wrap (n11 + 1))]) fun p7 k13 k14 w9 =>
 (0 ≤ n5) ∧
 brB ((k13 : Int) == IntKind.i64.wrap (shiftZ .shl .i64 1 n5 - x3) && decide (n5 < 12))
 (I4 [.slice p7 k13 k14, .int .i64 (IntKind.i64.wrap (n5 + 1))] w9.drew)
 (I4 [.slice p7 k13 k14, .int .i64 n5] w9.drew))
 (I4 [.slice p6 k10 k11, .int .i64 n5] w6)) ∧
 ∀ (p8 : Option Addr) (k15 k16 : Nat) (n12 : Int) (w10 : World),
 (I4 [.slice p8 k15 k16, .int .i64 n12] w10) →
 idx (p8) (k15) (IntKind.i64.wrap n3) (4) fun a5 =>
 ∃ n13 : Int,
 (w10.cell? (a5.add 3) = some (.int .i64 n13)) ∧
 brB (decide (n13 > IntKind.i64.wrap (x4 - (k6 : Int))))
 (R (.returned (.tuple #[.slice none 0 0, .int .i64 3])) w10)
 (idx (p8) (k15) (IntKind.i64.wrap n3) (4) fun a6 =>
 ∃ n14 : Int,
 (w10.cell? (a6.add 3) = some (.int .i64 n14)) ∧
 (0 ≤ n14) ∧
 (n14 * 1 ≤ 281474976710656) ∧
 (n14 < 4611686018427387904) ∧
 appVC (w10) ([(3, k1, [Value.int .i64 x1, Value.int .i64 x2, Value.bool b1, Value.int .i64 x3])]) (p4) (k6) (k7) (n14.toNat) (1) (1) (5) ([Value.int .u8 0]) (rep n14.toNat ((fun x => x.cells.toList) (Value.int .u8 0))) fun p9 k17 k18 w11 =>
 ∃ (I6 : List Value → World → Prop) (m2 : List Value → World → Nat),
 (I6 [.int .i64 (IntKind.i64.wrap ((k17 : Int) - 1)), .int .i64 (IntKind.i64.wrap n3)] w11) ∧
 ∀ (n15 n16 : Int) (w12 : World),
 (I6 [.int .i64 n15, .int .i64 n16] w12) →
 brB (decide (n16 ≥ 0))
 (idx (p8) (k15) (n16) (4) fun a7 =>
 ∃ n17 : Int,
 (w12.cell? (a7.add 1) = some (.int .u8 n17)) ∧
 idx (p9) (k17) (n15) (1) fun a8 =>
 (∃ v1 : Value,
 w12.cell? a8 = some v1) ∧
 (w12.frozen? a8 = false) ∧
 (¬a8.block ∈ [k1]) ∧
 idx (p8) (k15) (n16) (4) fun a9 =>
 ∃ n18 : Int,
 ((setCells w12 a8 [.int .u8 n17] 0).drew.cell? a9 = some (.int .i64 n18)) ∧
 (I6 [.int .i64 (IntKind.i64.wrap (n15 - 1)), .int .i64 n18] (setCells w12 a8 [.int .u8 n17] 0).drew) ∧
 m2 [.int .i64 (IntKind.i64.wrap (n15 - 1)), .int .i64 n18] (setCells w12 a8 [.int .u8 n17] 0).drew < m2 [.int .i64 n15, .int .i64 n16] w12)
 (I2 [.slice p8 k15 k16, .int .i64 n12, .int .i64 (IntKind.i64.wrap n3), .slice p9 k17 k18] w12)))) ∧
 ∀ (p10 : Option Addr) (k19 k20 : Nat) (n19 n20 : Int) (p11 : Option Addr) (k21 k22 : Nat) (w13 : World),
 (I2 [.slice p10 k19 k20, .int .i64 n19, .int .i64 n20, .slice p11 k21 k22] w13) →
 (I1 [.slice p10 k19 k20, .int .i64 n19, .int .i64 n20, .slice p11 k21 k22] w13) ∧
 m1 [.slice p10 k19 k20, .int .i64 n19, .int .i64 n20, .slice p11 k21 k22] w13 < m1 [.slice p3 k4 k5, .int .i64 n1, .int .i64 n2, .slice p4 k6 k7] w4
theorem calls_lzw_kind_unpack (x1 x2 : Int) (b1 : Bool) (x3 : Int) (sa1 : Option Addr) (sl1 sc1 : Nat) (x4 : Int) (w : World) (R : Ending → World → Prop) (h : vc_lzw_kind_unpack x1 x2 b1 x3 sa1 sl1 sc1 x4 w R) : Calls P F.lzw_kind_unpack #[.agg #[.int .i64 x1, .int .i64 x2, .bool b1, .int .i64 x3], .slice sa1 sl1 sc1, .int .i64 x4] w R :=
  calls_of_vc (ac := ac_lzw_kind_unpack) mixed Try.func58 (by kernel_rfl) (cast (by unfold vc_lzw_kind_unpack FnVc; kernel_rfl) h)
def vc_gif_rows_fn1 (x1 : Int) (w : World) (R : Ending → World → Prop) : Prop :=
 brB (divZ .rem .i64 x1 8 == 0)
 (R (.returned (.int .i64 0)) w)
 (brB (divZ .rem .i64 x1 4 == 0)
 (R (.returned (.int .i64 1)) w)
 (brB (divZ .rem .i64 x1 2 == 0)
 (R (.returned (.int .i64 2)) w)
 (R (.returned (.int .i64 3)) w)))
theorem calls_gif_rows_fn1 (x1 : Int) (w : World) (R : Ending → World → Prop) (h : vc_gif_rows_fn1 x1 w R) : Calls P F.gif_rows_fn1 #[.int .i64 x1] w R :=
  calls_of_vc (ac := ac_gif_rows_fn1) mixed Try.func59 (by kernel_rfl) (cast (by unfold vc_gif_rows_fn1 FnVc; kernel_rfl) h)
def vc_slices_SortStableFunc_int (sa1 : Option Addr) (sl1 sc1 : Nat) (va1 : Value) (w : World) (R : Ending → World → Prop) : Prop :=
 Calls P F.slices_stableCmpFunc_int #[.slice sa1 sl1 sc1, .int .i64 (sl1 : Int), va1] w fun e1 w1 =>
 (e1 = .returned (.tuple #[])) ∧
 R (.returned (.tuple #[])) w1
theorem calls_slices_SortStableFunc_int (sa1 : Option Addr) (sl1 sc1 : Nat) (va1 : Value) (w : World) (R : Ending → World → Prop) (h : vc_slices_SortStableFunc_int sa1 sl1 sc1 va1 w R) : Calls P F.slices_SortStableFunc_int #[.slice sa1 sl1 sc1, va1] w R :=
  calls_of_vc (ac := ac_slices_SortStableFunc_int) mixed Try.func60 (by kernel_rfl) (cast (by unfold vc_slices_SortStableFunc_int FnVc; kernel_rfl) h)
def vc_gif_rows_fn2 (x1 x2 : Int) (fr1 : Addr) (w : World) (R : Ending → World → Prop) : Prop :=
 ∃ (y1 : FuncId) (y2 y3 : Array Value),
 (w.drew.cell? fr1 = some (.func (Fn.func y1) y2 y3)) ∧
 ∃ (y4 : FuncId) (y5 y6 : Array Value),
 (w.drew.cell? fr1 = some (.func (Fn.func y4) y5 y6)) ∧
 callV P (.func (Fn.func y1) y2 y3) [.int .i64 x1] (w.drew) fun e1 w1 =>
 ∃ n1 : Int,
 (e1 = .returned (.int .i64 n1)) ∧
 (Keeps (w.drew) w1) ∧
 callV P (.func (Fn.func y4) y5 y6) [.int .i64 x2] w1 fun e2 w2 =>
 ∃ n2 : Int,
 (e2 = .returned (.int .i64 n2)) ∧
 R (.returned (.int .i64 (IntKind.i64.wrap (n1 - n2)))) w2
theorem calls_gif_rows_fn2 (x1 x2 : Int) (fr1 : Addr) (w : World) (R : Ending → World → Prop) (h : vc_gif_rows_fn2 x1 x2 fr1 w R) : Calls P F.gif_rows_fn2 #[.int .i64 x1, .int .i64 x2, .pointer (some fr1)] w R :=
  calls_of_vc (ac := ac_gif_rows_fn2) mixed Try.func61 (by kernel_rfl) (cast (by unfold vc_gif_rows_fn2 FnVc; kernel_rfl) h)
def vc_raster_colour (sa1 : Option Addr) (sl1 sc1 : Nat) (w : World) (R : Ending → World → Prop) : Prop :=
 ∀ k1 : Nat,
 w.heap.size ≤ k1 →
 idx (sa1) (sl1) (0) (1) fun a1 =>
 ∀ w1 : World,
 Locl [k1] w w1 →
 ∃ n1 : Int,
 (w1.cell? a1 = some (.int .u16 n1)) ∧
 idx (sa1) (sl1) (1) (1) fun a2 =>
 ∃ n2 : Int,
 (w1.cell? a2 = some (.int .u16 n2)) ∧
 idx (sa1) (sl1) (2) (1) fun a3 =>
 ∃ n3 : Int,
 (w1.cell? a3 = some (.int .u16 n3)) ∧
 idx (sa1) (sl1) (3) (1) fun a4 =>
 ∃ n4 : Int,
 (w1.cell? a4 = some (.int .u16 n4)) ∧
 ∀ w2 : World,
 Locl [k1] w1 w2 →
 R (.returned (.agg #[.int .u16 n1, .int .u16 n2, .int .u16 n3, .int .u16 n4])) w2
theorem calls_raster_colour (sa1 : Option Addr) (sl1 sc1 : Nat) (w : World) (R : Ending → World → Prop) (h : vc_raster_colour sa1 sl1 sc1 w R) : Calls P F.raster_colour #[.slice sa1 sl1 sc1] w R :=
  calls_of_vc (ac := ac_raster_colour) mixed Try.func62 (by kernel_rfl) (cast (by unfold vc_raster_colour FnVc; kernel_rfl) h)
def vc_quant_eight_fn1 (x1 : Int) (w : World) (R : Ending → World → Prop) : Prop :=
 Calls P F.tones_Down #[.int .u16 x1, .int .i64 255] w fun e1 w1 =>
 ∃ n1 n2 : Int,
 (e1 = .returned (.tuple #[.int .i64 n1, .int .i64 n2])) ∧
 R (.returned (.int .u16 (IntKind.u16.wrap (IntKind.i64.wrap (257 * n1))))) w1
theorem calls_quant_eight_fn1 (x1 : Int) (w : World) (R : Ending → World → Prop) (h : vc_quant_eight_fn1 x1 w R) : Calls P F.quant_eight_fn1 #[.int .u16 x1] w R :=
  calls_of_vc (ac := ac_quant_eight_fn1) mixed Try.func63 (by kernel_rfl) (cast (by unfold vc_quant_eight_fn1 FnVc; kernel_rfl) h)
def vc_tones_Down (x1 x2 : Int) (w : World) (R : Ending → World → Prop) : Prop :=
 brB (decide (x2 < 1) || decide (x2 > 65535))
 (R (.returned (.tuple #[.int .i64 0, .int .i64 2])) w)
 (R (.returned (.tuple #[.int .i64 (divZ .quo .i64 (IntKind.i64.wrap (IntKind.i64.wrap (IntKind.i64.wrap x1 * x2) + 32767)) 65535), .int .i64 0])) w)
theorem calls_tones_Down (x1 x2 : Int) (w : World) (R : Ending → World → Prop) (h : vc_tones_Down x1 x2 w R) : Calls P F.tones_Down #[.int .u16 x1, .int .i64 x2] w R :=
  calls_of_vc (ac := ac_tones_Down) mixed Try.func64 (by kernel_rfl) (cast (by unfold vc_tones_Down FnVc; kernel_rfl) h)
def vc_slices_Delete_api_Color (sa1 : Option Addr) (sl1 sc1 : Nat) (x1 x2 : Int) (w : World) (R : Ending → World → Prop) : Prop :=
 (0 ≤ (sl1 : Int)) ∧
 ((sl1 : Int) ≤ (sc1 : Int)) ∧
 slcc (sa1) ((sl1 : Int).toNat) (x1) (x2) (1) fun p1 k1 k2 =>
 brB (x1 == x2)
 (R (.returned (.slice sa1 sl1 sc1)) w)
 (slcc (sa1) (sc1) (0) (x1) (1) fun p2 k3 k4 =>
 slcc (sa1) (sc1) (x2) ((sl1 : Int)) (1) fun p3 k5 k6 =>
 ∃ l1 : List Value,
 (l1.length = k5 * 1) ∧
 (oneAll l1 = true) ∧
 (CellsAre (w.drew) p3 l1) ∧
 appVC (w.drew) ([]) (p2) (k3) (k4) (k5) (1) (24) (34) ([.slice none 0 0]) (l1) fun p4 k7 k8 w1 =>
 slcc (p4) (k8) ((k7 : Int)) ((sl1 : Int)) (1) fun p5 k9 k10 =>
 (((k9 = 0) ∧
 R (.returned (.slice p4 k7 k8)) w1) ∨
 ((k9 ≠ 0) ∧
 ∃ a1 : Addr,
 (p5 = some a1) ∧
 (CanSet w1 a1 ((rep k9 ((fun x => x.cells.toList) (Value.slice none 0 0))).length)) ∧
 R (.returned (Value.slice p4 k7 k8)) (setCells w1 a1 (rep k9 ((fun x => x.cells.toList) (Value.slice none 0 0))) 0))))
theorem calls_slices_Delete_api_Color (sa1 : Option Addr) (sl1 sc1 : Nat) (x1 x2 : Int) (w : World) (R : Ending → World → Prop) (h : vc_slices_Delete_api_Color sa1 sl1 sc1 x1 x2 w R) : Calls P F.slices_Delete_api_Color #[.slice sa1 sl1 sc1, .int .i64 x1, .int .i64 x2] w R :=
  calls_of_vc (ac := ac_slices_Delete_api_Color) mixed Try.func65 (by kernel_rfl) (cast (by unfold vc_slices_Delete_api_Color FnVc; kernel_rfl) h)
def vc_quant_longest_fn1 (x1 x2 x3 x4 x5 x6 x7 x8 : Int) (fr1 : Addr) (w : World) (R : Ending → World → Prop) : Prop :=
 ∀ k1 : Nat,
 w.heap.size ≤ k1 →
 ∀ k2 : Nat,
 w.heap.size ≤ k2 →
 ∀ w1 : World,
 Locl [k2, k1] w w1 →
 ∃ n1 : Int,
 (w1.cell? fr1 = some (.int .i64 n1)) ∧
 ∃ n2 : Int,
 (w1.cell? fr1 = some (.int .i64 n2)) ∧
 Calls P F.quant_axis #[.agg #[.int .u16 x1, .int .u16 x2, .int .u16 x3, .int .u16 x4], .int .i64 n1] w1 fun e1 w2 =>
 ∃ n3 : Int,
 (e1 = .returned (.int .i64 n3)) ∧
 Keep [k2, k1] w1 w2 ∧
 (Keeps w1 w2) ∧
 Calls P F.quant_axis #[.agg #[.int .u16 x5, .int .u16 x6, .int .u16 x7, .int .u16 x8], .int .i64 n2] w2 fun e2 w3 =>
 ∃ n4 : Int,
 (e2 = .returned (.int .i64 n4)) ∧
 Keep [k2, k1] w2 w3 ∧
 Calls P F.cmp_Compare_int #[.int .i64 n3, .int .i64 n4] w3 fun e3 w4 =>
 ∃ n5 : Int,
 (e3 = .returned (.int .i64 n5)) ∧
 Keep [k2, k1] w3 w4 ∧
 R (.returned (.int .i64 n5)) w4
theorem calls_quant_longest_fn1 (x1 x2 x3 x4 x5 x6 x7 x8 : Int) (fr1 : Addr) (w : World) (R : Ending → World → Prop) (h : vc_quant_longest_fn1 x1 x2 x3 x4 x5 x6 x7 x8 fr1 w R) : Calls P F.quant_longest_fn1 #[.agg #[.int .u16 x1, .int .u16 x2, .int .u16 x3, .int .u16 x4], .agg #[.int .u16 x5, .int .u16 x6, .int .u16 x7, .int .u16 x8], .pointer (some fr1)] w R :=
  calls_of_vc (ac := ac_quant_longest_fn1) mixed Try.func66 (by kernel_rfl) (cast (by unfold vc_quant_longest_fn1 FnVc; kernel_rfl) h)
def vc_slices_MaxFunc_api_Color (sa1 : Option Addr) (sl1 sc1 : Nat) (va1 : Value) (w : World) (R : Ending → World → Prop) : Prop :=
 ∀ k1 : Nat,
 w.heap.size ≤ k1 →
 brB (decide ((sl1 : Int) < 1))
 ((∃ y1 : TypeId,
 ∃ v1 : Value,
 Value.iface 9 (Value.string { data := #[115, 108, 105, 99, 101, 115, 46, 77, 97, 120, 70, 117, 110, 99, 58, 32, 101, 109, 112, 116, 121, 32, 108, 105, 115, 116] }) = Value.iface y1 v1) ∧
 ∀ w1 : World,
 Locl [k1] w w1 →
 R (.panicked [{ v := Value.iface 9 (Value.string { data := #[115, 108, 105, 99, 101, 115, 46, 77, 97, 120, 70, 117, 110, 99, 58, 32, 101, 109, 112, 116, 121, 32, 108, 105, 115, 116] }), recovered := false }]) w1)
 (idx (sa1) (sl1) (0) (4) fun a1 =>
 ∀ w2 : World,
 Locl [k1] w w2 →
 ∃ n1 n2 n3 n4 : Int,
 (w2.cell? a1 = some (.int .u16 n1)) ∧
 (w2.cell? (a1.add 1) = some (.int .u16 n2)) ∧
 (w2.cell? (a1.add 2) = some (.int .u16 n3)) ∧
 (w2.cell? (a1.add 3) = some (.int .u16 n4)) ∧
 ∀ k2 : Nat,
 w2.heap.size ≤ k2 →
 ∃ (I1 : List Value → World → Prop) (m1 : List Value → World → Nat),
 (∀ w3 : World,
 Locl [k2, k1] w2 w3 →
 I1 [.int .i64 1, .int .u16 n1, .int .u16 n2, .int .u16 n3, .int .u16 n4] w3) ∧
 ∀ (n5 n6 n7 n8 n9 : Int) (w4 : World),
 (I1 [.int .i64 n5, .int .u16 n6, .int .u16 n7, .int .u16 n8, .int .u16 n9] w4) →
 brB (decide (n5 < (sl1 : Int)))
 (∃ I2 : List Value → World → Prop,
 (idx (sa1) (sl1) (n5) (4) fun a2 =>
 ∃ n10 n11 n12 n13 : Int,
 (w4.drew.cell? a2 = some (.int .u16 n10)) ∧
 (w4.drew.cell? (a2.add 1) = some (.int .u16 n11)) ∧
 (w4.drew.cell? (a2.add 2) = some (.int .u16 n12)) ∧
 (w4.drew.cell? (a2.add 3) = some (.int .u16 n13)) ∧
 callV P (va1) [.agg #[.int .u16 n10, .int .u16 n11, .int .u16 n12, .int .u16 n13], .agg #[.int .u16 n6, .int .u16 n7, .int .u16 n8, .int .u16 n9]] (w4.drew) fun e1 w5 =>
 ∃ n14 : Int,
 (e1 = .returned (.int .i64 n14)) ∧
 (Keep ([k2, k1]) (w4.drew) w5) ∧
 brB (decide (n14 > 0))
 (idx (sa1) (sl1) (n5) (4) fun a3 =>
 ∃ n15 n16 n17 n18 : Int,
 (w5.cell? a3 = some (.int .u16 n15)) ∧
 (w5.cell? (a3.add 1) = some (.int .u16 n16)) ∧
 (w5.cell? (a3.add 2) = some (.int .u16 n17)) ∧
 (w5.cell? (a3.add 3) = some (.int .u16 n18)) ∧
 ∀ w6 : World,
 Locl [k2, k1] w5 w6 →
 I2 [.int .u16 n15, .int .u16 n16, .int .u16 n17, .int .u16 n18] w6)
 (I2 [.int .u16 n6, .int .u16 n7, .int .u16 n8, .int .u16 n9] w5)) ∧
 ∀ (n19 n20 n21 n22 : Int) (w7 : World),
 (I2 [.int .u16 n19, .int .u16 n20, .int .u16 n21, .int .u16 n22] w7) →
 (I1 [.int .i64 (IntKind.i64.wrap (n5 + 1)), .int .u16 n19, .int .u16 n20, .int .u16 n21, .int .u16 n22] w7) ∧
 m1 [.int .i64 (IntKind.i64.wrap (n5 + 1)), .int .u16 n19, .int .u16 n20, .int .u16 n21, .int .u16 n22] w7 < m1 [.int .i64 n5, .int .u16 n6, .int .u16 n7, .int .u16 n8, .int .u16 n9] w4)
 (∀ w8 : World,
 Locl [k2, k1] w4 w8 →
 R (.returned (.agg #[.int .u16 n6, .int .u16 n7, .int .u16 n8, .int .u16 n9])) w8))
theorem calls_slices_MaxFunc_api_Color (sa1 : Option Addr) (sl1 sc1 : Nat) (va1 : Value) (w : World) (R : Ending → World → Prop) (h : vc_slices_MaxFunc_api_Color sa1 sl1 sc1 va1 w R) : Calls P F.slices_MaxFunc_api_Color #[.slice sa1 sl1 sc1, va1] w R :=
  calls_of_vc (ac := ac_slices_MaxFunc_api_Color) mixed Try.func67 (by kernel_rfl) (cast (by unfold vc_slices_MaxFunc_api_Color FnVc; kernel_rfl) h)
def vc_slices_MinFunc_api_Color (sa1 : Option Addr) (sl1 sc1 : Nat) (va1 : Value) (w : World) (R : Ending → World → Prop) : Prop :=
 ∀ k1 : Nat,
 w.heap.size ≤ k1 →
 brB (decide ((sl1 : Int) < 1))
 ((∃ y1 : TypeId,
 ∃ v1 : Value,
 Value.iface 9 (Value.string { data := #[115, 108, 105, 99, 101, 115, 46, 77, 105, 110, 70, 117, 110, 99, 58, 32, 101, 109, 112, 116, 121, 32, 108, 105, 115, 116] }) = Value.iface y1 v1) ∧
 ∀ w1 : World,
 Locl [k1] w w1 →
 R (.panicked [{ v := Value.iface 9 (Value.string { data := #[115, 108, 105, 99, 101, 115, 46, 77, 105, 110, 70, 117, 110, 99, 58, 32, 101, 109, 112, 116, 121, 32, 108, 105, 115, 116] }), recovered := false }]) w1)
 (idx (sa1) (sl1) (0) (4) fun a1 =>
 ∀ w2 : World,
 Locl [k1] w w2 →
 ∃ n1 n2 n3 n4 : Int,
 (w2.cell? a1 = some (.int .u16 n1)) ∧
 (w2.cell? (a1.add 1) = some (.int .u16 n2)) ∧
 (w2.cell? (a1.add 2) = some (.int .u16 n3)) ∧
 (w2.cell? (a1.add 3) = some (.int .u16 n4)) ∧
 ∀ k2 : Nat,
 w2.heap.size ≤ k2 →
 ∃ (I1 : List Value → World → Prop) (m1 : List Value → World → Nat),
 (∀ w3 : World,
 Locl [k2, k1] w2 w3 →
 I1 [.int .i64 1, .int .u16 n1, .int .u16 n2, .int .u16 n3, .int .u16 n4] w3) ∧
 ∀ (n5 n6 n7 n8 n9 : Int) (w4 : World),
 (I1 [.int .i64 n5, .int .u16 n6, .int .u16 n7, .int .u16 n8, .int .u16 n9] w4) →
 brB (decide (n5 < (sl1 : Int)))
 (∃ I2 : List Value → World → Prop,
 (idx (sa1) (sl1) (n5) (4) fun a2 =>
 ∃ n10 n11 n12 n13 : Int,
 (w4.drew.cell? a2 = some (.int .u16 n10)) ∧
 (w4.drew.cell? (a2.add 1) = some (.int .u16 n11)) ∧
 (w4.drew.cell? (a2.add 2) = some (.int .u16 n12)) ∧
 (w4.drew.cell? (a2.add 3) = some (.int .u16 n13)) ∧
 callV P (va1) [.agg #[.int .u16 n10, .int .u16 n11, .int .u16 n12, .int .u16 n13], .agg #[.int .u16 n6, .int .u16 n7, .int .u16 n8, .int .u16 n9]] (w4.drew) fun e1 w5 =>
 ∃ n14 : Int,
 (e1 = .returned (.int .i64 n14)) ∧
 (Keep ([k2, k1]) (w4.drew) w5) ∧
 brB (decide (n14 < 0))
 (idx (sa1) (sl1) (n5) (4) fun a3 =>
 ∃ n15 n16 n17 n18 : Int,
 (w5.cell? a3 = some (.int .u16 n15)) ∧
 (w5.cell? (a3.add 1) = some (.int .u16 n16)) ∧
 (w5.cell? (a3.add 2) = some (.int .u16 n17)) ∧
 (w5.cell? (a3.add 3) = some (.int .u16 n18)) ∧
 ∀ w6 : World,
 Locl [k2, k1] w5 w6 →
 I2 [.int .u16 n15, .int .u16 n16, .int .u16 n17, .int .u16 n18] w6)
 (I2 [.int .u16 n6, .int .u16 n7, .int .u16 n8, .int .u16 n9] w5)) ∧
 ∀ (n19 n20 n21 n22 : Int) (w7 : World),
 (I2 [.int .u16 n19, .int .u16 n20, .int .u16 n21, .int .u16 n22] w7) →
 (I1 [.int .i64 (IntKind.i64.wrap (n5 + 1)), .int .u16 n19, .int .u16 n20, .int .u16 n21, .int .u16 n22] w7) ∧
 m1 [.int .i64 (IntKind.i64.wrap (n5 + 1)), .int .u16 n19, .int .u16 n20, .int .u16 n21, .int .u16 n22] w7 < m1 [.int .i64 n5, .int .u16 n6, .int .u16 n7, .int .u16 n8, .int .u16 n9] w4)
 (∀ w8 : World,
 Locl [k2, k1] w4 w8 →
 R (.returned (.agg #[.int .u16 n6, .int .u16 n7, .int .u16 n8, .int .u16 n9])) w8))
theorem calls_slices_MinFunc_api_Color (sa1 : Option Addr) (sl1 sc1 : Nat) (va1 : Value) (w : World) (R : Ending → World → Prop) (h : vc_slices_MinFunc_api_Color sa1 sl1 sc1 va1 w R) : Calls P F.slices_MinFunc_api_Color #[.slice sa1 sl1 sc1, va1] w R :=
  calls_of_vc (ac := ac_slices_MinFunc_api_Color) mixed Try.func68 (by kernel_rfl) (cast (by unfold vc_slices_MinFunc_api_Color FnVc; kernel_rfl) h)
def vc_slices_stableCmpFunc_api_Color (sa1 : Option Addr) (sl1 sc1 : Nat) (x1 : Int) (va1 : Value) (w : World) (R : Ending → World → Prop) : Prop :=
 ∃ (I1 : List Value → World → Prop) (m1 : List Value → World → Nat),
 (I1 [.int .i64 0, .int .i64 20] w) ∧
 ∀ (n1 n2 : Int) (w1 : World),
 (I1 [.int .i64 n1, .int .i64 n2] w1) →
 brB (decide (n2 ≤ x1))
 (Calls P F.slices_insertionSortCmpFunc_api_Color #[.slice sa1 sl1 sc1, .int .i64 n1, .int .i64 n2, va1] w1 fun e1 w2 =>
 (e1 = .returned (.tuple #[])) ∧
 (I1 [.int .i64 n2, .int .i64 (IntKind.i64.wrap (n2 + 20))] w2) ∧
 m1 [.int .i64 n2, .int .i64 (IntKind.i64.wrap (n2 + 20))] w2 < m1 [.int .i64 n1, .int .i64 n2] w1)
 (Calls P F.slices_insertionSortCmpFunc_api_Color #[.slice sa1 sl1 sc1, .int .i64 n1, .int .i64 x1, va1] w1 fun e2 w3 =>
 (e2 = .returned (.tuple #[])) ∧
 ∃ (I2 : List Value → World → Prop) (m2 : List Value → World → Nat),
 (I2 [.int .i64 20] w3) ∧
 ∀ (n3 : Int) (w4 : World),
 (I2 [.int .i64 n3] w4) →
 brB (decide (n3 < x1))
 (∃ I3 : List Value → World → Prop,
 (∃ I4 : List Value → World → Prop,
 ∃ m3 : List Value → World → Nat,
 (I4 [.int .i64 0, .int .i64 (IntKind.i64.wrap (2 * n3))] w4) ∧
 ∀ (n4 n5 : Int) (w5 : World),
 (I4 [.int .i64 n4, .int .i64 n5] w5) →
 brB (decide (n5 ≤ x1))
 (Calls P F.slices_symMergeCmpFunc_api_Color #[.slice sa1 sl1 sc1, .int .i64 n4, .int .i64 (IntKind.i64.wrap (n4 + n3)), .int .i64 n5, va1] w5 fun e3 w6 =>
 (e3 = .returned (.tuple #[])) ∧
 (I4 [.int .i64 n5, .int .i64 (IntKind.i64.wrap (n5 + IntKind.i64.wrap (2 * n3)))] w6) ∧
 m3 [.int .i64 n5, .int .i64 (IntKind.i64.wrap (n5 + IntKind.i64.wrap (2 * n3)))] w6 < m3 [.int .i64 n4, .int .i64 n5] w5)
 (brB (decide (IntKind.i64.wrap (n4 + n3) < x1))
 (Calls P F.slices_symMergeCmpFunc_api_Color #[.slice sa1 sl1 sc1, .int .i64 n4, .int .i64 (IntKind.i64.wrap (n4 + n3)), .int .i64 x1, va1] w5 fun e4 w7 =>
 (e4 = .returned (.tuple #[])) ∧
 I3 [.int .i64 (IntKind.i64.wrap (n3 * 2))] w7)
 (I3 [.int .i64 (IntKind.i64.wrap (n3 * 2))] w5))) ∧
 ∀ (n6 : Int) (w8 : World),
 (I3 [.int .i64 n6] w8) →
 (I2 [.int .i64 n6] w8) ∧
 m2 [.int .i64 n6] w8 < m2 [.int .i64 n3] w4)
 (R (.returned (.tuple #[])) w4))
theorem calls_slices_stableCmpFunc_api_Color (sa1 : Option Addr) (sl1 sc1 : Nat) (x1 : Int) (va1 : Value) (w : World) (R : Ending → World → Prop) (h : vc_slices_stableCmpFunc_api_Color sa1 sl1 sc1 x1 va1 w R) : Calls P F.slices_stableCmpFunc_api_Color #[.slice sa1 sl1 sc1, .int .i64 x1, va1] w R :=
  calls_of_vc (ac := ac_slices_stableCmpFunc_api_Color) mixed Try.func69 (by kernel_rfl) (cast (by unfold vc_slices_stableCmpFunc_api_Color FnVc; kernel_rfl) h)
def vc_cmp_isNaN_int (x1 : Int) (w : World) (R : Ending → World → Prop) : Prop :=
 R (.returned (.bool (x1 != x1))) w
theorem calls_cmp_isNaN_int (x1 : Int) (w : World) (R : Ending → World → Prop) (h : vc_cmp_isNaN_int x1 w R) : Calls P F.cmp_isNaN_int #[.int .i64 x1] w R :=
  calls_of_vc (ac := ac_cmp_isNaN_int) mixed Try.func70 (by kernel_rfl) (cast (by unfold vc_cmp_isNaN_int FnVc; kernel_rfl) h)
def vc_slices_Chunk_uint16 (sa1 : Option Addr) (sl1 sc1 : Nat) (x1 : Int) (w : World) (R : Ending → World → Prop) : Prop :=
 ∀ (k1 : Nat) (w1 : World),
 (New w (Obj.cells #[.slice sa1 sl1 sc1] 24) k1 w1) →
 ∀ (k2 : Nat) (w2 : World),
 (New w1 (Obj.cells #[.int .i64 x1] 3) k2 w2) →
 ∃ n1 : Int,
 (w2.cell? { block := k2, off := 0 } = some (.int .i64 n1)) ∧
 brB (decide (n1 < 1))
 ((∃ y1 : TypeId,
 ∃ v1 : Value,
 Value.iface 9 (Value.string { data := #[99, 97, 110, 110, 111, 116, 32, 98, 101, 32, 108, 101, 115, 115, 32, 116, 104, 97, 110, 32, 49] }) = Value.iface y1 v1) ∧
 R (.panicked [{ v := Value.iface 9 (Value.string { data := #[99, 97, 110, 110, 111, 116, 32, 98, 101, 32, 108, 101, 115, 115, 32, 116, 104, 97, 110, 32, 49] }), recovered := false }]) w2)
 (R (.returned (.func (Fn.func 88) #[] #[.pointer (some { block := k1, off := 0 }), .pointer (some { block := k2, off := 0 })])) w2)
theorem calls_slices_Chunk_uint16 (sa1 : Option Addr) (sl1 sc1 : Nat) (x1 : Int) (w : World) (R : Ending → World → Prop) (h : vc_slices_Chunk_uint16 sa1 sl1 sc1 x1 w R) : Calls P F.slices_Chunk_uint16 #[.slice sa1 sl1 sc1, .int .i64 x1] w R :=
  calls_of_vc (ac := ac_slices_Chunk_uint16) mixed Try.func71 (by kernel_rfl) (cast (by unfold vc_slices_Chunk_uint16 FnVc; kernel_rfl) h)
def vc_grid_Of_api_Color (x1 x2 : Int) (sa1 : Option Addr) (sl1 sc1 : Nat) (w : World) (R : Ending → World → Prop) : Prop :=
 Calls P F.grid_fits #[.int .i64 x1, .int .i64 x2] w fun e1 w1 =>
 ∃ c1 : Bool,
 (e1 = .returned (.bool c1)) ∧
 brB (!c1)
 (R (.returned (.tuple #[.pointer none, .int .i64 4])) w1)
 (brB ((sl1 : Int) != IntKind.i64.wrap (x1 * x2))
 (R (.returned (.tuple #[.pointer none, .int .i64 3])) w1)
 (Calls P F.slices_Clone_api_Color #[.slice sa1 sl1 sc1] w1 fun e2 w2 =>
 ∃ (p1 : Option Addr) (k1 k2 : Nat),
 (e2 = .returned (.slice p1 k1 k2)) ∧
 ∀ (k3 : Nat) (w3 : World),
 (New w2 (Obj.cells #[.int .i64 x1, .int .i64 x2, .slice p1 k1 k2] 120) k3 w3) →
 R (.returned (.tuple #[.pointer (some { block := k3, off := 0 }), .int .i64 0])) w3))
theorem calls_grid_Of_api_Color (x1 x2 : Int) (sa1 : Option Addr) (sl1 sc1 : Nat) (w : World) (R : Ending → World → Prop) (h : vc_grid_Of_api_Color x1 x2 sa1 sl1 sc1 w R) : Calls P F.grid_Of_api_Color #[.int .i64 x1, .int .i64 x2, .slice sa1 sl1 sc1] w R :=
  calls_of_vc (ac := ac_grid_Of_api_Color) mixed Try.func72 (by kernel_rfl) (cast (by unfold vc_grid_Of_api_Color FnVc; kernel_rfl) h)
def vc_grid_Grid_api_Color_All_fn1 (yl1 : Nat) (fr1 : Addr) (w : World) (R : Ending → World → Prop) : Prop :=
 ∃ p1 : Option Addr,
 (w.drew.cell? fr1 = some (.pointer p1)) ∧
 ∃ p2 : Option Addr,
 (w.drew.cell? fr1 = some (.pointer p2)) ∧
 Calls P F.grid_Grid_api_Color_W #[.pointer p1] (w.drew) fun e1 w1 =>
 ∃ n1 : Int,
 (e1 = .returned (.int .i64 n1)) ∧
 (Keeps (w.drew) w1) ∧
 Calls P F.grid_Grid_api_Color_H #[.pointer p2] w1 fun e2 w2 =>
 ∃ n2 : Int,
 (e2 = .returned (.int .i64 n2)) ∧
 ∃ (I1 : List Value → World → Prop) (m1 : List Value → World → Nat),
 (I1 [.int .i64 0] w2) ∧
 ∀ (n3 : Int) (w3 : World),
 (I1 [.int .i64 n3] w3) →
 brB (decide (n3 < IntKind.i64.wrap (n1 * n2)))
 (∃ p3 : Option Addr,
 (w3.drew.cell? fr1 = some (.pointer p3)) ∧
 nn (p3) fun a1 =>
 ∃ n4 : Int,
 (w3.drew.cell? a1 = some (.int .i64 n4)) ∧
 (n4 ≠ 0) ∧
 ∃ p4 : Option Addr,
 (w3.drew.cell? fr1 = some (.pointer p4)) ∧
 nn (p4) fun a2 =>
 ∃ n5 : Int,
 (w3.drew.cell? a2 = some (.int .i64 n5)) ∧
 (n5 ≠ 0) ∧
 ∃ p5 : Option Addr,
 (w3.drew.cell? fr1 = some (.pointer p5)) ∧
 nn (p5) fun a3 =>
 ∃ (p6 : Option Addr) (k1 k2 : Nat),
 (w3.drew.cell? (a3.add 2) = some (.slice p6 k1 k2)) ∧
 idx (p6) (k1) (n3) (4) fun a4 =>
 ∃ n6 n7 n8 n9 : Int,
 (w3.drew.cell? a4 = some (.int .u16 n6)) ∧
 (w3.drew.cell? (a4.add 1) = some (.int .u16 n7)) ∧
 (w3.drew.cell? (a4.add 2) = some (.int .u16 n8)) ∧
 (w3.drew.cell? (a4.add 3) = some (.int .u16 n9)) ∧
 YieldAt Fence.wide 0 P (yl1) #[.agg #[.int .i64 (divZ .rem .i64 n3 n4), .int .i64 (divZ .quo .i64 n3 n5)], .agg #[.int .u16 n6, .int .u16 n7, .int .u16 n8, .int .u16 n9]] (w3.drew) fun e3 w4 =>
 ∃ c1 : Bool,
 (e3 = .returned (.bool c1)) ∧
 brB (!c1)
 (R (.returned (.tuple #[])) w4)
 ((I1 [.int .i64 (IntKind.i64.wrap (n3 + 1))] w4) ∧
 m1 [.int .i64 (IntKind.i64.wrap (n3 + 1))] w4 < m1 [.int .i64 n3] w3))
 (R (.returned (.tuple #[])) w3)
theorem calls_grid_Grid_api_Color_All_fn1 (yl1 : Nat) (fr1 : Addr) (w : World) (R : Ending → World → Prop) (h : vc_grid_Grid_api_Color_All_fn1 yl1 fr1 w R) : Calls P F.grid_Grid_api_Color_All_fn1 #[.func (.yield yl1) #[] #[], .pointer (some fr1)] w R :=
  calls_of_vc (ac := ac_grid_Grid_api_Color_All_fn1) mixed Try.func73 (by kernel_rfl) (cast (by unfold vc_grid_Grid_api_Color_All_fn1 FnVc; kernel_rfl) h)
def vc_grid_Grid_api_Color_W (q1 : Option Addr) (w : World) (R : Ending → World → Prop) : Prop :=
 brB (q1.isNone)
 (R (.returned (.int .i64 0)) w)
 (nn (q1) fun a1 =>
 ∃ n1 : Int,
 (w.cell? a1 = some (.int .i64 n1)) ∧
 R (.returned (.int .i64 n1)) w)
theorem calls_grid_Grid_api_Color_W (q1 : Option Addr) (w : World) (R : Ending → World → Prop) (h : vc_grid_Grid_api_Color_W q1 w R) : Calls P F.grid_Grid_api_Color_W #[.pointer q1] w R :=
  calls_of_vc (ac := ac_grid_Grid_api_Color_W) mixed Try.func74 (by kernel_rfl) (cast (by unfold vc_grid_Grid_api_Color_W FnVc; kernel_rfl) h)
def vc_grid_Grid_api_Color_H (q1 : Option Addr) (w : World) (R : Ending → World → Prop) : Prop :=
 brB (q1.isNone)
 (R (.returned (.int .i64 0)) w)
 (nn (q1) fun a1 =>
 ∃ n1 : Int,
 (w.cell? (a1.add 1) = some (.int .i64 n1)) ∧
 R (.returned (.int .i64 n1)) w)
theorem calls_grid_Grid_api_Color_H (q1 : Option Addr) (w : World) (R : Ending → World → Prop) (h : vc_grid_Grid_api_Color_H q1 w R) : Calls P F.grid_Grid_api_Color_H #[.pointer q1] w R :=
  calls_of_vc (ac := ac_grid_Grid_api_Color_H) mixed Try.func75 (by kernel_rfl) (cast (by unfold vc_grid_Grid_api_Color_H FnVc; kernel_rfl) h)
def vc_bits_NewWriter (b1 : Bool) (w : World) (R : Ending → World → Prop) : Prop :=
 Calls P F.bits_order #[.bool b1] w fun e1 w1 =>
 ∃ (y1 : FuncId) (y2 y3 : Array Value),
 (e1 = .returned (.func (Fn.func y1) y2 y3)) ∧
 ∀ (k1 : Nat) (w2 : World),
 (New w1 (Obj.cells #[.slice none 0 0, .int .i64 0, .bool b1, .func (Fn.func y1) y2 y3] 149) k1 w2) →
 R (.returned (.pointer (some { block := k1, off := 0 }))) w2
theorem calls_bits_NewWriter (b1 : Bool) (w : World) (R : Ending → World → Prop) (h : vc_bits_NewWriter b1 w R) : Calls P F.bits_NewWriter #[.bool b1] w R :=
  calls_of_vc (ac := ac_bits_NewWriter) mixed Try.func76 (by kernel_rfl) (cast (by unfold vc_bits_NewWriter FnVc; kernel_rfl) h)
def vc_bits_Writer_Put (q1 : Option Addr) (x1 x2 : Int) (w : World) (R : Ending → World → Prop) : Prop :=
 brB (q1.isNone)
 (R (.returned (.int .i64 1)) w)
 (brB (decide (x2 < 0) || decide (x2 > 32))
 (R (.returned (.int .i64 2)) w)
 (∃ I1 : List Value → World → Prop,
 ∃ m1 : List Value → World → Nat,
 (I1 [.int .i64 0] w) ∧
 ∀ (n1 : Int) (w1 : World),
 (I1 [.int .i64 n1] w1) →
 brB (decide (n1 < x2))
 (∃ I2 : List Value → World → Prop,
 (nn (q1) fun a1 =>
 ∃ c1 : Bool,
 (w1.cell? (a1.add 2) = some (.bool c1)) ∧
 brB (c1)
 ((0 ≤ IntKind.i64.wrap (IntKind.i64.wrap (x2 - 1) - n1)) ∧
 Calls P F.bits_Writer_one #[.pointer q1, .int .u8 (IntKind.u8.wrap (IntKind.u32.wrap (bitsZ .and .u32 (shiftZ .shr .u32 x1 (IntKind.i64.wrap (IntKind.i64.wrap (x2 - 1) - n1))) 1)))] w1 fun e1 w2 =>
 (e1 = .returned (.tuple #[])) ∧
 I2 [] w2)
 ((0 ≤ n1) ∧
 Calls P F.bits_Writer_one #[.pointer q1, .int .u8 (IntKind.u8.wrap (IntKind.u32.wrap (bitsZ .and .u32 (shiftZ .shr .u32 x1 n1) 1)))] w1 fun e2 w3 =>
 (e2 = .returned (.tuple #[])) ∧
 I2 [] w3)) ∧
 ∀ w4 : World,
 (I2 [] w4) →
 (I1 [.int .i64 (IntKind.i64.wrap (n1 + 1))] w4) ∧
 m1 [.int .i64 (IntKind.i64.wrap (n1 + 1))] w4 < m1 [.int .i64 n1] w1)
 (R (.returned (.int .i64 0)) w1)))
theorem calls_bits_Writer_Put (q1 : Option Addr) (x1 x2 : Int) (w : World) (R : Ending → World → Prop) (h : vc_bits_Writer_Put q1 x1 x2 w R) : Calls P F.bits_Writer_Put #[.pointer q1, .int .u32 x1, .int .i64 x2] w R :=
  calls_of_vc (ac := ac_bits_Writer_Put) mixed Try.func77 (by kernel_rfl) (cast (by unfold vc_bits_Writer_Put FnVc; kernel_rfl) h)
def vc_lzw_kind_pack_fn1 (x1 : Int) (b1 : Bool) (fr1 fr2 fr3 fr4 : Addr) (w : World) (R : Ending → World → Prop) : Prop :=
 ∃ p1 : Option Addr,
 (w.cell? fr1 = some (.pointer p1)) ∧
 ∃ n1 : Int,
 (w.cell? fr2 = some (.int .i64 n1)) ∧
 Calls P F.bits_Writer_Put #[.pointer p1, .int .u32 (IntKind.u32.wrap x1), .int .i64 n1] w fun e1 w1 =>
 ∃ n2 : Int,
 (e1 = .returned (.int .i64 n2)) ∧
 brB (b1)
 (∃ n3 : Int,
 (w1.cell? fr3 = some (.int .i64 n3)) ∧
 (∃ v1 : Value,
 w1.cell? fr3 = some v1) ∧
 (w1.frozen? fr3 = false) ∧
 ∃ n4 : Int,
 ((setCells w1 fr3 [.int .i64 (IntKind.i64.wrap (n3 + 1))] 0).drew.cell? fr3 = some (.int .i64 n4)) ∧
 ∃ n5 : Int,
 ((setCells w1 fr3 [.int .i64 (IntKind.i64.wrap (n3 + 1))] 0).drew.cell? fr2 = some (.int .i64 n5)) ∧
 (0 ≤ n5) ∧
 ∃ n6 : Int,
 ((setCells w1 fr3 [.int .i64 (IntKind.i64.wrap (n3 + 1))] 0).drew.cell? (fr4.add 3) = some (.int .i64 n6)) ∧
 brB (n4 == IntKind.i64.wrap (shiftZ .shl .i64 1 n5 - n6))
 (∃ n7 : Int,
 ((setCells w1 fr3 [.int .i64 (IntKind.i64.wrap (n3 + 1))] 0).drew.cell? fr2 = some (.int .i64 n7)) ∧
 brB (decide (n7 < 12))
 (∃ n8 : Int,
 ((setCells w1 fr3 [.int .i64 (IntKind.i64.wrap (n3 + 1))] 0).drew.cell? fr2 = some (.int .i64 n8)) ∧
 (∃ v2 : Value,
 (setCells w1 fr3 [.int .i64 (IntKind.i64.wrap (n3 + 1))] 0).drew.cell? fr2 = some v2) ∧
 ((setCells w1 fr3 [.int .i64 (IntKind.i64.wrap (n3 + 1))] 0).drew.frozen? fr2 = false) ∧
 R (.returned (.tuple #[])) (setCells (setCells w1 fr3 [.int .i64 (IntKind.i64.wrap (n3 + 1))] 0).drew fr2 [.int .i64 (IntKind.i64.wrap (n8 + 1))] 0))
 (R (.returned (.tuple #[])) (setCells w1 fr3 [.int .i64 (IntKind.i64.wrap (n3 + 1))] 0).drew))
 (R (.returned (.tuple #[])) (setCells w1 fr3 [.int .i64 (IntKind.i64.wrap (n3 + 1))] 0).drew))
 (R (.returned (.tuple #[])) w1)
theorem calls_lzw_kind_pack_fn1 (x1 : Int) (b1 : Bool) (fr1 fr2 fr3 fr4 : Addr) (w : World) (R : Ending → World → Prop) (h : vc_lzw_kind_pack_fn1 x1 b1 fr1 fr2 fr3 fr4 w R) : Calls P F.lzw_kind_pack_fn1 #[.int .i64 x1, .bool b1, .pointer (some fr1), .pointer (some fr2), .pointer (some fr3), .pointer (some fr4)] w R :=
  calls_of_vc (ac := ac_lzw_kind_pack_fn1) mixed Try.func78 (by kernel_rfl) (cast (by unfold vc_lzw_kind_pack_fn1 FnVc; kernel_rfl) h)
def vc_bits_Writer_Bytes (q1 : Option Addr) (w : World) (R : Ending → World → Prop) : Prop :=
 brB (q1.isNone)
 (R (.returned (.slice none 0 0)) w)
 (nn (q1) fun a1 =>
 ∃ (p1 : Option Addr) (k1 k2 : Nat),
 (w.cell? a1 = some (.slice p1 k1 k2)) ∧
 Calls P F.slices_Clone_byte #[.slice p1 k1 k2] w fun e1 w1 =>
 ∃ (p2 : Option Addr) (k3 k4 : Nat),
 (e1 = .returned (.slice p2 k3 k4)) ∧
 R (.returned (.slice p2 k3 k4)) w1)
theorem calls_bits_Writer_Bytes (q1 : Option Addr) (w : World) (R : Ending → World → Prop) (h : vc_bits_Writer_Bytes q1 w R) : Calls P F.bits_Writer_Bytes #[.pointer q1] w R :=
  calls_of_vc (ac := ac_bits_Writer_Bytes) mixed Try.func79 (by kernel_rfl) (cast (by unfold vc_bits_Writer_Bytes FnVc; kernel_rfl) h)
def vc_ref08_Down (x1 x2 : Int) (w : World) (R : Ending → World → Prop) : Prop :=
 brB (decide (x2 < 1) || decide (x2 > 65535))
 (R (.returned (.tuple #[.int .i64 0, .int .i64 2])) w)
 (R (.returned (.tuple #[.int .i64 (divZ .quo .i64 (IntKind.i64.wrap (IntKind.i64.wrap (IntKind.i64.wrap x1 * x2) + 32767)) 65535), .int .i64 0])) w)
theorem calls_ref08_Down (x1 x2 : Int) (w : World) (R : Ending → World → Prop) (h : vc_ref08_Down x1 x2 w R) : Calls P F.ref08_Down #[.int .u16 x1, .int .i64 x2] w R :=
  calls_of_vc (ac := ac_ref08_Down) mixed Try.func80 (by kernel_rfl) (cast (by unfold vc_ref08_Down FnVc; kernel_rfl) h)
def vc_ref08_Up (x1 x2 : Int) (w : World) (R : Ending → World → Prop) : Prop :=
 brB (decide (x2 < 1) || decide (x2 > 65535) || decide (x1 < 0) || decide (x1 > x2))
 (R (.returned (.tuple #[.int .u16 0, .int .i64 2])) w)
 ((x2 ≠ 0) ∧
 R (.returned (.tuple #[.int .u16 (IntKind.u16.wrap (divZ .quo .i64 (IntKind.i64.wrap (IntKind.i64.wrap (65535 * x1) + divZ .quo .i64 x2 2)) x2)), .int .i64 0])) w)
theorem calls_ref08_Up (x1 x2 : Int) (w : World) (R : Ending → World → Prop) (h : vc_ref08_Up x1 x2 w R) : Calls P F.ref08_Up #[.int .i64 x1, .int .i64 x2] w R :=
  calls_of_vc (ac := ac_ref08_Up) mixed Try.func81 (by kernel_rfl) (cast (by unfold vc_ref08_Up FnVc; kernel_rfl) h)
def vc_bits_NewReader (sa1 : Option Addr) (sl1 sc1 : Nat) (b1 : Bool) (w : World) (R : Ending → World → Prop) : Prop :=
 Calls P F.slices_Clone_byte #[.slice sa1 sl1 sc1] w fun e1 w1 =>
 ∃ (p1 : Option Addr) (k1 k2 : Nat),
 (e1 = .returned (.slice p1 k1 k2)) ∧
 Calls P F.bits_order #[.bool b1] w1 fun e2 w2 =>
 ∃ (y1 : FuncId) (y2 y3 : Array Value),
 (e2 = .returned (.func (Fn.func y1) y2 y3)) ∧
 ∀ (k3 : Nat) (w3 : World),
 (New w2 (Obj.cells #[.slice p1 k1 k2, .int .i64 0, .bool b1, .func (Fn.func y1) y2 y3] 152) k3 w3) →
 R (.returned (.pointer (some { block := k3, off := 0 }))) w3
theorem calls_bits_NewReader (sa1 : Option Addr) (sl1 sc1 : Nat) (b1 : Bool) (w : World) (R : Ending → World → Prop) (h : vc_bits_NewReader sa1 sl1 sc1 b1 w R) : Calls P F.bits_NewReader #[.slice sa1 sl1 sc1, .bool b1] w R :=
  calls_of_vc (ac := ac_bits_NewReader) mixed Try.func82 (by kernel_rfl) (cast (by unfold vc_bits_NewReader FnVc; kernel_rfl) h)
def vc_lzw_kind_entries (x1 x2 : Int) (b1 : Bool) (x3 : Int) (w : World) (R : Ending → World → Prop) : Prop :=
 ∀ k1 : Nat,
 w.heap.size ≤ k1 →
 ∀ w1 : World,
 Locl [k1] w w1 →
 (0 ≤ IntKind.i64.wrap (x1 + 2)) ∧
 (IntKind.i64.wrap (x1 + 2) ≤ 4096) ∧
 ((98304 : Int) ≤ 281474976710656) ∧
 ((4096 : Int) < 4611686018427387904) ∧
 ∀ (k2 : Nat) (w2 : World),
 (New w1 (Obj.cells (mkCells [.int .i64 0, .int .u8 0, .int .u8 0, .int .i64 0] 4096) 141) k2 w2) →
 ∃ (I1 : List Value → World → Prop) (m1 : List Value → World → Nat),
 (I1 [.int .i64 0] w2) ∧
 ∀ (n1 : Int) (w3 : World),
 (I1 [.int .i64 n1] w3) →
 brB (decide (n1 < x1))
 (idx (some { block := k2, off := 0 }) ((IntKind.i64.wrap (x1 + 2)).toNat) (n1) (4) fun a1 =>
 (∃ v1 : Value,
 w3.cell? a1 = some v1) ∧
 (w3.frozen? a1 = false) ∧
 (∃ v2 : Value,
 w3.cell? (a1.add 1) = some v2) ∧
 (w3.frozen? (a1.add 1) = false) ∧
 (∃ v3 : Value,
 w3.cell? (a1.add 2) = some v3) ∧
 (w3.frozen? (a1.add 2) = false) ∧
 (∃ v4 : Value,
 w3.cell? (a1.add 3) = some v4) ∧
 (w3.frozen? (a1.add 3) = false) ∧
 (¬a1.block ∈ [k1]) ∧
 (I1 [.int .i64 (IntKind.i64.wrap (n1 + 1))] (setCells w3 a1 [.int .i64 (-1), .int .u8 (IntKind.u8.wrap n1), .int .u8 (IntKind.u8.wrap n1), .int .i64 1] 0)) ∧
 m1 [.int .i64 (IntKind.i64.wrap (n1 + 1))] (setCells w3 a1 [.int .i64 (-1), .int .u8 (IntKind.u8.wrap n1), .int .u8 (IntKind.u8.wrap n1), .int .i64 1] 0) < m1 [.int .i64 n1] w3)
 (R (.returned (.slice (some { block := k2, off := 0 }) (IntKind.i64.wrap (x1 + 2)).toNat 4096)) w3)
theorem calls_lzw_kind_entries (x1 x2 : Int) (b1 : Bool) (x3 : Int) (w : World) (R : Ending → World → Prop) (h : vc_lzw_kind_entries x1 x2 b1 x3 w R) : Calls P F.lzw_kind_entries #[.agg #[.int .i64 x1, .int .i64 x2, .bool b1, .int .i64 x3]] w R :=
  calls_of_vc (ac := ac_lzw_kind_entries) mixed Try.func83 (by kernel_rfl) (cast (by unfold vc_lzw_kind_entries FnVc; kernel_rfl) h)
def vc_bits_Reader_Take (q1 : Option Addr) (x1 : Int) (w : World) (R : Ending → World → Prop) : Prop :=
 brB (q1.isNone)
 (R (.returned (.tuple #[.int .u32 0, .int .i64 1])) w)
 (brB (decide (x1 < 0) || decide (x1 > 32))
 (R (.returned (.tuple #[.int .u32 0, .int .i64 2])) w)
 (Calls P F.bits_Reader_Left #[.pointer q1] w fun e1 w1 =>
 ∃ n1 : Int,
 (e1 = .returned (.int .i64 n1)) ∧
 brB (decide (x1 > n1))
 (R (.returned (.tuple #[.int .u32 0, .int .i64 5])) w1)
 (∃ I1 : List Value → World → Prop,
 ∃ m1 : List Value → World → Nat,
 (I1 [.int .u32 0, .int .i64 0] w1) ∧
 ∀ (n2 n3 : Int) (w2 : World),
 (I1 [.int .u32 n2, .int .i64 n3] w2) →
 brB (decide (n3 < x1))
 (∃ I2 : List Value → World → Prop,
 (nn (q1) fun a1 =>
 ∃ (p1 : Option Addr) (k1 k2 : Nat),
 (w2.drew.cell? a1 = some (.slice p1 k1 k2)) ∧
 nn (q1) fun a2 =>
 ∃ n4 : Int,
 (w2.drew.cell? (a2.add 1) = some (.int .i64 n4)) ∧
 idx (p1) (k1) (divZ .quo .i64 n4 8) (1) fun a3 =>
 ∃ n5 : Int,
 (w2.drew.cell? a3 = some (.int .u8 n5)) ∧
 nn (q1) fun a4 =>
 ∃ (y1 : FuncId) (y2 y3 : Array Value),
 (w2.drew.cell? (a4.add 3) = some (.func (Fn.func y1) y2 y3)) ∧
 nn (q1) fun a5 =>
 ∃ n6 : Int,
 (w2.drew.cell? (a5.add 1) = some (.int .i64 n6)) ∧
 callV P (.func (Fn.func y1) y2 y3) [.int .i64 n6] (w2.drew) fun e2 w3 =>
 ∃ n7 : Int,
 (e2 = .returned (.int .u64 n7)) ∧
 (Keeps (w2.drew) w3) ∧
 (0 ≤ n7) ∧
 nn (q1) fun a6 =>
 ∃ n8 : Int,
 (w3.cell? (a6.add 1) = some (.int .i64 n8)) ∧
 nn (q1) fun a7 =>
 (∃ v1 : Value,
 w3.cell? (a7.add 1) = some v1) ∧
 (w3.frozen? (a7.add 1) = false) ∧
 nn (q1) fun a8 =>
 ∃ c1 : Bool,
 ((setCells w3 (a7.add 1) [.int .i64 (IntKind.i64.wrap (n8 + 1))] 0).cell? (a8.add 2) = some (.bool c1)) ∧
 brB (c1)
 (I2 [.int .u32 (IntKind.u32.wrap (bitsZ .or .u32 (shiftZ .shl .u32 n2 1) (IntKind.u32.wrap (bitsZ .and .u32 (IntKind.u32.wrap (shiftZ .shr .u8 n5 n7)) 1))))] (setCells w3 (a7.add 1) [.int .i64 (IntKind.i64.wrap (n8 + 1))] 0))
 ((0 ≤ n3) ∧
 I2 [.int .u32 (IntKind.u32.wrap (bitsZ .or .u32 n2 (shiftZ .shl .u32 (IntKind.u32.wrap (bitsZ .and .u32 (IntKind.u32.wrap (shiftZ .shr .u8 n5 n7)) 1)) n3)))] (setCells w3 (a7.add 1) [.int .i64 (IntKind.i64.wrap (n8 + 1))] 0))) ∧
 ∀ (n9 : Int) (w4 : World),
 (I2 [.int .u32 n9] w4) →
 (I1 [.int .u32 n9, .int .i64 (IntKind.i64.wrap (n3 + 1))] w4) ∧
 m1 [.int .u32 n9, .int .i64 (IntKind.i64.wrap (n3 + 1))] w4 < m1 [.int .u32 n2, .int .i64 n3] w2)
 (R (.returned (.tuple #[.int .u32 n2, .int .i64 0])) w2))))
theorem calls_bits_Reader_Take (q1 : Option Addr) (x1 : Int) (w : World) (R : Ending → World → Prop) (h : vc_bits_Reader_Take q1 x1 w R) : Calls P F.bits_Reader_Take #[.pointer q1, .int .i64 x1] w R :=
  calls_of_vc (ac := ac_bits_Reader_Take) mixed Try.func84 (by kernel_rfl) (cast (by unfold vc_bits_Reader_Take FnVc; kernel_rfl) h)
def vc_slices_stableCmpFunc_int (sa1 : Option Addr) (sl1 sc1 : Nat) (x1 : Int) (va1 : Value) (w : World) (R : Ending → World → Prop) : Prop :=
 ∃ (I1 : List Value → World → Prop) (m1 : List Value → World → Nat),
 (I1 [.int .i64 0, .int .i64 20] w) ∧
 ∀ (n1 n2 : Int) (w1 : World),
 (I1 [.int .i64 n1, .int .i64 n2] w1) →
 brB (decide (n2 ≤ x1))
 (Calls P F.slices_insertionSortCmpFunc_int #[.slice sa1 sl1 sc1, .int .i64 n1, .int .i64 n2, va1] w1 fun e1 w2 =>
 (e1 = .returned (.tuple #[])) ∧
 (I1 [.int .i64 n2, .int .i64 (IntKind.i64.wrap (n2 + 20))] w2) ∧
 m1 [.int .i64 n2, .int .i64 (IntKind.i64.wrap (n2 + 20))] w2 < m1 [.int .i64 n1, .int .i64 n2] w1)
 (Calls P F.slices_insertionSortCmpFunc_int #[.slice sa1 sl1 sc1, .int .i64 n1, .int .i64 x1, va1] w1 fun e2 w3 =>
 (e2 = .returned (.tuple #[])) ∧
 ∃ (I2 : List Value → World → Prop) (m2 : List Value → World → Nat),
 (I2 [.int .i64 20] w3) ∧
 ∀ (n3 : Int) (w4 : World),
 (I2 [.int .i64 n3] w4) →
 brB (decide (n3 < x1))
 (∃ I3 : List Value → World → Prop,
 (∃ I4 : List Value → World → Prop,
 ∃ m3 : List Value → World → Nat,
 (I4 [.int .i64 0, .int .i64 (IntKind.i64.wrap (2 * n3))] w4) ∧
 ∀ (n4 n5 : Int) (w5 : World),
 (I4 [.int .i64 n4, .int .i64 n5] w5) →
 brB (decide (n5 ≤ x1))
 (Calls P F.slices_symMergeCmpFunc_int #[.slice sa1 sl1 sc1, .int .i64 n4, .int .i64 (IntKind.i64.wrap (n4 + n3)), .int .i64 n5, va1] w5 fun e3 w6 =>
 (e3 = .returned (.tuple #[])) ∧
 (I4 [.int .i64 n5, .int .i64 (IntKind.i64.wrap (n5 + IntKind.i64.wrap (2 * n3)))] w6) ∧
 m3 [.int .i64 n5, .int .i64 (IntKind.i64.wrap (n5 + IntKind.i64.wrap (2 * n3)))] w6 < m3 [.int .i64 n4, .int .i64 n5] w5)
 (brB (decide (IntKind.i64.wrap (n4 + n3) < x1))
 (Calls P F.slices_symMergeCmpFunc_int #[.slice sa1 sl1 sc1, .int .i64 n4, .int .i64 (IntKind.i64.wrap (n4 + n3)), .int .i64 x1, va1] w5 fun e4 w7 =>
 (e4 = .returned (.tuple #[])) ∧
 I3 [.int .i64 (IntKind.i64.wrap (n3 * 2))] w7)
 (I3 [.int .i64 (IntKind.i64.wrap (n3 * 2))] w5))) ∧
 ∀ (n6 : Int) (w8 : World),
 (I3 [.int .i64 n6] w8) →
 (I2 [.int .i64 n6] w8) ∧
 m2 [.int .i64 n6] w8 < m2 [.int .i64 n3] w4)
 (R (.returned (.tuple #[])) w4))
theorem calls_slices_stableCmpFunc_int (sa1 : Option Addr) (sl1 sc1 : Nat) (x1 : Int) (va1 : Value) (w : World) (R : Ending → World → Prop) (h : vc_slices_stableCmpFunc_int sa1 sl1 sc1 x1 va1 w R) : Calls P F.slices_stableCmpFunc_int #[.slice sa1 sl1 sc1, .int .i64 x1, va1] w R :=
  calls_of_vc (ac := ac_slices_stableCmpFunc_int) mixed Try.func85 (by kernel_rfl) (cast (by unfold vc_slices_stableCmpFunc_int FnVc; kernel_rfl) h)
def vc_slices_insertionSortCmpFunc_api_Color (sa1 : Option Addr) (sl1 sc1 : Nat) (x1 x2 : Int) (va1 : Value) (w : World) (R : Ending → World → Prop) : Prop :=
 ∃ (I1 : List Value → World → Prop) (m1 : List Value → World → Nat),
 (I1 [.int .i64 (IntKind.i64.wrap (x1 + 1))] w) ∧
 ∀ (n1 : Int) (w1 : World),
 (I1 [.int .i64 n1] w1) →
 brB (decide (n1 < x2))
 (∃ I2 : List Value → World → Prop,
 (∃ I3 : List Value → World → Prop,
 ∃ m2 : List Value → World → Nat,
 (I3 [.int .i64 n1] w1) ∧
 ∀ (n2 : Int) (w2 : World),
 (I3 [.int .i64 n2] w2) →
 brB (decide (n2 > x1))
 (idx (sa1) (sl1) (n2) (4) fun a1 =>
 ∃ n3 n4 n5 n6 : Int,
 (w2.drew.cell? a1 = some (.int .u16 n3)) ∧
 (w2.drew.cell? (a1.add 1) = some (.int .u16 n4)) ∧
 (w2.drew.cell? (a1.add 2) = some (.int .u16 n5)) ∧
 (w2.drew.cell? (a1.add 3) = some (.int .u16 n6)) ∧
 idx (sa1) (sl1) (IntKind.i64.wrap (n2 - 1)) (4) fun a2 =>
 ∃ n7 n8 n9 n10 : Int,
 (w2.drew.cell? a2 = some (.int .u16 n7)) ∧
 (w2.drew.cell? (a2.add 1) = some (.int .u16 n8)) ∧
 (w2.drew.cell? (a2.add 2) = some (.int .u16 n9)) ∧
 (w2.drew.cell? (a2.add 3) = some (.int .u16 n10)) ∧
 callV P (va1) [.agg #[.int .u16 n3, .int .u16 n4, .int .u16 n5, .int .u16 n6], .agg #[.int .u16 n7, .int .u16 n8, .int .u16 n9, .int .u16 n10]] (w2.drew) fun e1 w3 =>
 ∃ n11 : Int,
 (e1 = .returned (.int .i64 n11)) ∧
 brB (decide (n11 < 0))
 (idx (sa1) (sl1) (IntKind.i64.wrap (n2 - 1)) (4) fun a3 =>
 ∃ n12 n13 n14 n15 : Int,
 (w3.drew.cell? a3 = some (.int .u16 n12)) ∧
 (w3.drew.cell? (a3.add 1) = some (.int .u16 n13)) ∧
 (w3.drew.cell? (a3.add 2) = some (.int .u16 n14)) ∧
 (w3.drew.cell? (a3.add 3) = some (.int .u16 n15)) ∧
 idx (sa1) (sl1) (n2) (4) fun a4 =>
 ∃ n16 n17 n18 n19 : Int,
 (w3.drew.cell? a4 = some (.int .u16 n16)) ∧
 (w3.drew.cell? (a4.add 1) = some (.int .u16 n17)) ∧
 (w3.drew.cell? (a4.add 2) = some (.int .u16 n18)) ∧
 (w3.drew.cell? (a4.add 3) = some (.int .u16 n19)) ∧
 idx (sa1) (sl1) (n2) (4) fun a5 =>
 (∃ v1 : Value,
 w3.drew.cell? a5 = some v1) ∧
 (w3.drew.frozen? a5 = false) ∧
 (∃ v2 : Value,
 w3.drew.cell? (a5.add 1) = some v2) ∧
 (w3.drew.frozen? (a5.add 1) = false) ∧
 (∃ v3 : Value,
 w3.drew.cell? (a5.add 2) = some v3) ∧
 (w3.drew.frozen? (a5.add 2) = false) ∧
 (∃ v4 : Value,
 w3.drew.cell? (a5.add 3) = some v4) ∧
 (w3.drew.frozen? (a5.add 3) = false) ∧
 idx (sa1) (sl1) (IntKind.i64.wrap (n2 - 1)) (4) fun a6 =>
 (∃ v5 : Value,
 (setCells w3.drew a5 [.int .u16 n12, .int .u16 n13, .int .u16 n14, .int .u16 n15] 0).cell? a6 = some v5) ∧
 ((setCells w3.drew a5 [.int .u16 n12, .int .u16 n13, .int .u16 n14, .int .u16 n15] 0).frozen? a6 = false) ∧
 (∃ v6 : Value,
 (setCells w3.drew a5 [.int .u16 n12, .int .u16 n13, .int .u16 n14, .int .u16 n15] 0).cell? (a6.add 1) = some v6) ∧
 ((setCells w3.drew a5 [.int .u16 n12, .int .u16 n13, .int .u16 n14, .int .u16 n15] 0).frozen? (a6.add 1) = false) ∧
 (∃ v7 : Value,
 (setCells w3.drew a5 [.int .u16 n12, .int .u16 n13, .int .u16 n14, .int .u16 n15] 0).cell? (a6.add 2) = some v7) ∧
 ((setCells w3.drew a5 [.int .u16 n12, .int .u16 n13, .int .u16 n14, .int .u16 n15] 0).frozen? (a6.add 2) = false) ∧
 (∃ v8 : Value,
 (setCells w3.drew a5 [.int .u16 n12, .int .u16 n13, .int .u16 n14, .int .u16 n15] 0).cell? (a6.add 3) = some v8) ∧
 ((setCells w3.drew a5 [.int .u16 n12, .int .u16 n13, .int .u16 n14, .int .u16 n15] 0).frozen? (a6.add 3) = false) ∧
 (I3 [.int .i64 (IntKind.i64.wrap (n2 - 1))] (setCells (setCells w3.drew a5 [.int .u16 n12, .int .u16 n13, .int .u16 n14, .int .u16 n15] 0) a6 [.int .u16 n16, .int .u16 n17, .int .u16 n18, .int .u16 n19] 0)) ∧
 m2 [.int .i64 (IntKind.i64.wrap (n2 - 1))] (setCells (setCells w3.drew a5 [.int .u16 n12, .int .u16 n13, .int .u16 n14, .int .u16 n15] 0) a6 [.int .u16 n16, .int .u16 n17, .int .u16 n18, .int .u16 n19] 0) < m2 [.int .i64 n2] w2)
 (I2 [] w3))
 (I2 [] w2.drew)) ∧
 ∀ w4 : World,
 (I2 [] w4) →
 (I1 [.int .i64 (IntKind.i64.wrap (n1 + 1))] w4) ∧
 m1 [.int .i64 (IntKind.i64.wrap (n1 + 1))] w4 < m1 [.int .i64 n1] w1)
 (R (.returned (.tuple #[])) w1)
theorem calls_slices_insertionSortCmpFunc_api_Color (sa1 : Option Addr) (sl1 sc1 : Nat) (x1 x2 : Int) (va1 : Value) (w : World) (R : Ending → World → Prop) (h : vc_slices_insertionSortCmpFunc_api_Color sa1 sl1 sc1 x1 x2 va1 w R) : Calls P F.slices_insertionSortCmpFunc_api_Color #[.slice sa1 sl1 sc1, .int .i64 x1, .int .i64 x2, va1] w R :=
  calls_of_vc (ac := ac_slices_insertionSortCmpFunc_api_Color) mixed Try.func86 (by kernel_rfl) (cast (by unfold vc_slices_insertionSortCmpFunc_api_Color FnVc; kernel_rfl) h)
def vc_slices_Chunk_uint16_fn1 (yl1 : Nat) (fr1 fr2 : Addr) (w : World) (R : Ending → World → Prop) : Prop :=
 ∃ (I1 : List Value → World → Prop) (m1 : List Value → World → Nat),
 (I1 [.int .i64 0] w) ∧
 ∀ (n1 : Int) (w1 : World),
 (I1 [.int .i64 n1] w1) →
 ∃ (p1 : Option Addr) (k1 k2 : Nat),
 (w1.cell? fr1 = some (.slice p1 k1 k2)) ∧
 brB (decide (n1 < (k1 : Int)))
 (∃ n2 : Int,
 (w1.drew.cell? fr2 = some (.int .i64 n2)) ∧
 ∃ (p2 : Option Addr) (k3 k4 : Nat),
 (w1.drew.cell? fr1 = some (.slice p2 k3 k4)) ∧
 slcc (p2) (k4) (n1) ((k3 : Int)) (1) fun p3 k5 k6 =>
 ∃ (p4 : Option Addr) (k7 k8 : Nat),
 (w1.drew.cell? fr1 = some (.slice p4 k7 k8)) ∧
 (0 ≤ IntKind.i64.wrap (n1 + min n2 (k5 : Int))) ∧
 (IntKind.i64.wrap (n1 + min n2 (k5 : Int)) ≤ (k8 : Int)) ∧
 slcc (p4) ((IntKind.i64.wrap (n1 + min n2 (k5 : Int))).toNat) (n1) (IntKind.i64.wrap (n1 + min n2 (k5 : Int))) (1) fun p5 k9 k10 =>
 YieldAt Fence.wide 0 P (yl1) #[.slice p5 k9 k10] (w1.drew) fun e1 w2 =>
 ∃ c1 : Bool,
 (e1 = .returned (.bool c1)) ∧
 brB (!c1)
 (R (.returned (.tuple #[])) w2)
 (∃ n3 : Int,
 (w2.cell? fr2 = some (.int .i64 n3)) ∧
 (I1 [.int .i64 (IntKind.i64.wrap (n1 + n3))] w2) ∧
 m1 [.int .i64 (IntKind.i64.wrap (n1 + n3))] w2 < m1 [.int .i64 n1] w1))
 (R (.returned (.tuple #[])) w1)
theorem calls_slices_Chunk_uint16_fn1 (yl1 : Nat) (fr1 fr2 : Addr) (w : World) (R : Ending → World → Prop) (h : vc_slices_Chunk_uint16_fn1 yl1 fr1 fr2 w R) : Calls P F.slices_Chunk_uint16_fn1 #[.func (.yield yl1) #[] #[], .pointer (some fr1), .pointer (some fr2)] w R :=
  calls_of_vc (ac := ac_slices_Chunk_uint16_fn1) mixed Try.func88 (by kernel_rfl) (cast (by unfold vc_slices_Chunk_uint16_fn1 FnVc; kernel_rfl) h)
def vc_grid_fits (x1 x2 : Int) (w : World) (R : Ending → World → Prop) : Prop :=
 R (.returned (.bool (decide (min x1 x2 ≥ 1) && decide (max x1 x2 ≤ 4096) && decide (IntKind.i64.wrap (x1 * x2) ≤ 65536)))) w
theorem calls_grid_fits (x1 x2 : Int) (w : World) (R : Ending → World → Prop) (h : vc_grid_fits x1 x2 w R) : Calls P F.grid_fits #[.int .i64 x1, .int .i64 x2] w R :=
  calls_of_vc (ac := ac_grid_fits) mixed Try.func89 (by kernel_rfl) (cast (by unfold vc_grid_fits FnVc; kernel_rfl) h)
def vc_bits_order (b1 : Bool) (w : World) (R : Ending → World → Prop) : Prop :=
 brB (b1)
 (R (.returned (.func (Fn.func 97) #[] #[])) w)
 (R (.returned (.func (Fn.func 98) #[] #[])) w)
theorem calls_bits_order (b1 : Bool) (w : World) (R : Ending → World → Prop) (h : vc_bits_order b1 w R) : Calls P F.bits_order #[.bool b1] w R :=
  calls_of_vc (ac := ac_bits_order) mixed Try.func90 (by kernel_rfl) (cast (by unfold vc_bits_order FnVc; kernel_rfl) h)
def vc_bits_Writer_one (q1 : Option Addr) (x1 : Int) (w : World) (R : Ending → World → Prop) : Prop :=
 ∃ I1 : List Value → World → Prop,
 (nn (q1) fun a1 =>
 ∃ n1 : Int,
 (w.cell? (a1.add 1) = some (.int .i64 n1)) ∧
 brB (divZ .rem .i64 n1 8 == 0)
 (nn (q1) fun a2 =>
 ∃ (p1 : Option Addr) (k1 k2 : Nat),
 (w.cell? a2 = some (.slice p1 k1 k2)) ∧
 ∀ k3 : Nat,
 w.heap.size ≤ k3 →
 ∀ w1 : World,
 Locl [k3] w w1 →
 appVC (w1) ([(15, k3, [.int .u8 0])]) (p1) (k1) (k2) (1) (1) (1) (5) ([.int .u8 0]) ([.int .u8 0]) fun p2 k4 k5 w2 =>
 nn (q1) fun a3 =>
 (∃ v1 : Value,
 w2.cell? a3 = some v1) ∧
 (w2.frozen? a3 = false) ∧
 (¬a3.block ∈ [k3]) ∧
 I1 [] (setCells w2 a3 [.slice p2 k4 k5] 0))
 (I1 [] w)) ∧
 ∀ w3 : World,
 (I1 [] w3) →
 nn (q1) fun a4 =>
 ∃ (p3 : Option Addr) (k6 k7 : Nat),
 (w3.drew.cell? a4 = some (.slice p3 k6 k7)) ∧
 nn (q1) fun a5 =>
 ∃ n2 : Int,
 (w3.drew.cell? (a5.add 1) = some (.int .i64 n2)) ∧
 idx (p3) (k6) (divZ .quo .i64 n2 8) (1) fun a6 =>
 ∃ n3 : Int,
 (w3.drew.cell? a6 = some (.int .u8 n3)) ∧
 nn (q1) fun a7 =>
 ∃ (y1 : FuncId) (y2 y3 : Array Value),
 (w3.drew.cell? (a7.add 3) = some (.func (Fn.func y1) y2 y3)) ∧
 nn (q1) fun a8 =>
 ∃ n4 : Int,
 (w3.drew.cell? (a8.add 1) = some (.int .i64 n4)) ∧
 callV P (.func (Fn.func y1) y2 y3) [.int .i64 n4] (w3.drew) fun e1 w4 =>
 ∃ n5 : Int,
 (e1 = .returned (.int .u64 n5)) ∧
 (Keeps (w3.drew) w4) ∧
 (0 ≤ n5) ∧
 idx (p3) (k6) (divZ .quo .i64 n2 8) (1) fun a9 =>
 (∃ v2 : Value,
 w4.cell? a9 = some v2) ∧
 (w4.frozen? a9 = false) ∧
 nn (q1) fun a10 =>
 ∃ n6 : Int,
 ((setCells w4 a9 [.int .u8 (IntKind.u8.wrap (bitsZ .or .u8 n3 (shiftZ .shl .u8 x1 n5)))] 0).cell? (a10.add 1) = some (.int .i64 n6)) ∧
 nn (q1) fun a11 =>
 (∃ v3 : Value,
 (setCells w4 a9 [.int .u8 (IntKind.u8.wrap (bitsZ .or .u8 n3 (shiftZ .shl .u8 x1 n5)))] 0).cell? (a11.add 1) = some v3) ∧
 ((setCells w4 a9 [.int .u8 (IntKind.u8.wrap (bitsZ .or .u8 n3 (shiftZ .shl .u8 x1 n5)))] 0).frozen? (a11.add 1) = false) ∧
 R (.returned (.tuple #[])) (setCells (setCells w4 a9 [.int .u8 (IntKind.u8.wrap (bitsZ .or .u8 n3 (shiftZ .shl .u8 x1 n5)))] 0) (a11.add 1) [.int .i64 (IntKind.i64.wrap (n6 + 1))] 0)
theorem calls_bits_Writer_one (q1 : Option Addr) (x1 : Int) (w : World) (R : Ending → World → Prop) (h : vc_bits_Writer_one q1 x1 w R) : Calls P F.bits_Writer_one #[.pointer q1, .int .u8 x1] w R :=
  calls_of_vc (ac := ac_bits_Writer_one) mixed Try.func91 (by kernel_rfl) (cast (by unfold vc_bits_Writer_one FnVc; kernel_rfl) h)
def vc_slices_Clone_byte (sa1 : Option Addr) (sl1 sc1 : Nat) (w : World) (R : Ending → World → Prop) : Prop :=
 brB (sa1.isNone)
 (R (.returned (.slice none 0 0)) w)
 (∀ k1 : Nat,
 ∀ w1 : World,
 (New w (Obj.cells #[] 5) k1 w1) →
 ∃ l1 : List Value,
 (l1.length = sl1 * 1) ∧
 (oneAll l1 = true) ∧
 (CellsAre w1 sa1 l1) ∧
 appVC (w1) ([]) (some { block := k1, off := 0 }) (0) (0) (sl1) (1) (1) (5) ([.int .u8 0]) (l1) fun p1 k2 k3 w2 =>
 R (.returned (.slice p1 k2 k3)) w2)
theorem calls_slices_Clone_byte (sa1 : Option Addr) (sl1 sc1 : Nat) (w : World) (R : Ending → World → Prop) (h : vc_slices_Clone_byte sa1 sl1 sc1 w R) : Calls P F.slices_Clone_byte #[.slice sa1 sl1 sc1] w R :=
  calls_of_vc (ac := ac_slices_Clone_byte) mixed Try.func92 (by kernel_rfl) (cast (by unfold vc_slices_Clone_byte FnVc; kernel_rfl) h)
def vc_bits_Reader_Left (q1 : Option Addr) (w : World) (R : Ending → World → Prop) : Prop :=
 brB (q1.isNone)
 (R (.returned (.int .i64 0)) w)
 (nn (q1) fun a1 =>
 ∃ (p1 : Option Addr) (k1 k2 : Nat),
 (w.drew.cell? a1 = some (.slice p1 k1 k2)) ∧
 nn (q1) fun a2 =>
 ∃ n1 : Int,
 (w.drew.cell? (a2.add 1) = some (.int .i64 n1)) ∧
 R (.returned (.int .i64 (IntKind.i64.wrap (IntKind.i64.wrap (8 * (k1 : Int)) - n1)))) w.drew)
theorem calls_bits_Reader_Left (q1 : Option Addr) (w : World) (R : Ending → World → Prop) (h : vc_bits_Reader_Left q1 w R) : Calls P F.bits_Reader_Left #[.pointer q1] w R :=
  calls_of_vc (ac := ac_bits_Reader_Left) mixed Try.func93 (by kernel_rfl) (cast (by unfold vc_bits_Reader_Left FnVc; kernel_rfl) h)
def vc_slices_insertionSortCmpFunc_int (sa1 : Option Addr) (sl1 sc1 : Nat) (x1 x2 : Int) (va1 : Value) (w : World) (R : Ending → World → Prop) : Prop :=
 ∃ (I1 : List Value → World → Prop) (m1 : List Value → World → Nat),
 (I1 [.int .i64 (IntKind.i64.wrap (x1 + 1))] w) ∧
 ∀ (n1 : Int) (w1 : World),
 (I1 [.int .i64 n1] w1) →
 brB (decide (n1 < x2))
 (∃ I2 : List Value → World → Prop,
 (∃ I3 : List Value → World → Prop,
 ∃ m2 : List Value → World → Nat,
 (I3 [.int .i64 n1] w1) ∧
 ∀ (n2 : Int) (w2 : World),
 (I3 [.int .i64 n2] w2) →
 brB (decide (n2 > x1))
 (idx (sa1) (sl1) (n2) (1) fun a1 =>
 ∃ n3 : Int,
 (w2.drew.cell? a1 = some (.int .i64 n3)) ∧
 idx (sa1) (sl1) (IntKind.i64.wrap (n2 - 1)) (1) fun a2 =>
 ∃ n4 : Int,
 (w2.drew.cell? a2 = some (.int .i64 n4)) ∧
 callV P (va1) [.int .i64 n3, .int .i64 n4] (w2.drew) fun e1 w3 =>
 ∃ n5 : Int,
 (e1 = .returned (.int .i64 n5)) ∧
 brB (decide (n5 < 0))
 (idx (sa1) (sl1) (IntKind.i64.wrap (n2 - 1)) (1) fun a3 =>
 ∃ n6 : Int,
 (w3.drew.cell? a3 = some (.int .i64 n6)) ∧
 idx (sa1) (sl1) (n2) (1) fun a4 =>
 ∃ n7 : Int,
 (w3.drew.cell? a4 = some (.int .i64 n7)) ∧
 idx (sa1) (sl1) (n2) (1) fun a5 =>
 (∃ v1 : Value,
 w3.drew.cell? a5 = some v1) ∧
 (w3.drew.frozen? a5 = false) ∧
 idx (sa1) (sl1) (IntKind.i64.wrap (n2 - 1)) (1) fun a6 =>
 (∃ v2 : Value,
 (setCells w3.drew a5 [.int .i64 n6] 0).cell? a6 = some v2) ∧
 ((setCells w3.drew a5 [.int .i64 n6] 0).frozen? a6 = false) ∧
 (I3 [.int .i64 (IntKind.i64.wrap (n2 - 1))] (setCells (setCells w3.drew a5 [.int .i64 n6] 0) a6 [.int .i64 n7] 0)) ∧
 m2 [.int .i64 (IntKind.i64.wrap (n2 - 1))] (setCells (setCells w3.drew a5 [.int .i64 n6] 0) a6 [.int .i64 n7] 0) < m2 [.int .i64 n2] w2)
 (I2 [] w3))
 (I2 [] w2.drew)) ∧
 ∀ w4 : World,
 (I2 [] w4) →
 (I1 [.int .i64 (IntKind.i64.wrap (n1 + 1))] w4) ∧
 m1 [.int .i64 (IntKind.i64.wrap (n1 + 1))] w4 < m1 [.int .i64 n1] w1)
 (R (.returned (.tuple #[])) w1)
theorem calls_slices_insertionSortCmpFunc_int (sa1 : Option Addr) (sl1 sc1 : Nat) (x1 x2 : Int) (va1 : Value) (w : World) (R : Ending → World → Prop) (h : vc_slices_insertionSortCmpFunc_int sa1 sl1 sc1 x1 x2 va1 w R) : Calls P F.slices_insertionSortCmpFunc_int #[.slice sa1 sl1 sc1, .int .i64 x1, .int .i64 x2, va1] w R :=
  calls_of_vc (ac := ac_slices_insertionSortCmpFunc_int) mixed Try.func94 (by kernel_rfl) (cast (by unfold vc_slices_insertionSortCmpFunc_int FnVc; kernel_rfl) h)
def vc_slices_symMergeCmpFunc_int (sa1 : Option Addr) (sl1 sc1 : Nat) (x1 x2 x3 : Int) (va1 : Value) (w : World) (R : Ending → World → Prop) : Prop :=
 brB (IntKind.i64.wrap (x2 - x1) == 1)
 (∃ I1 : List Value → World → Prop,
 ∃ m1 : List Value → World → Nat,
 (I1 [.int .i64 x2, .int .i64 x3] w) ∧
 ∀ (n1 n2 : Int) (w1 : World),
 (I1 [.int .i64 n1, .int .i64 n2] w1) →
 brB (decide (n1 < n2))
 (∃ I2 : List Value → World → Prop,
 (idx (sa1) (sl1) (IntKind.i64.wrap (shiftZ .shr .u64 (IntKind.u64.wrap (IntKind.i64.wrap (n1 + n2))) 1)) (1) fun a1 =>
 ∃ n3 : Int,
 (w1.drew.cell? a1 = some (.int .i64 n3)) ∧
 idx (sa1) (sl1) (x1) (1) fun a2 =>
 ∃ n4 : Int,
 (w1.drew.cell? a2 = some (.int .i64 n4)) ∧
 callV P (va1) [.int .i64 n3, .int .i64 n4] (w1.drew) fun e1 w2 =>
 ∃ n5 : Int,
 (e1 = .returned (.int .i64 n5)) ∧
 brB (decide (n5 < 0))
 (I2 [.int .i64 (IntKind.i64.wrap (IntKind.i64.wrap (shiftZ .shr .u64 (IntKind.u64.wrap (IntKind.i64.wrap (n1 + n2))) 1) + 1)), .int .i64 n2] w2)
 (I2 [.int .i64 n1, .int .i64 (IntKind.i64.wrap (shiftZ .shr .u64 (IntKind.u64.wrap (IntKind.i64.wrap (n1 + n2))) 1))] w2)) ∧
 ∀ (n6 n7 : Int) (w3 : World),
 (I2 [.int .i64 n6, .int .i64 n7] w3) →
 (I1 [.int .i64 n6, .int .i64 n7] w3) ∧
 m1 [.int .i64 n6, .int .i64 n7] w3 < m1 [.int .i64 n1, .int .i64 n2] w1)
 (∃ I3 : List Value → World → Prop,
 ∃ m2 : List Value → World → Nat,
 (I3 [.int .i64 x1] w1) ∧
 ∀ (n8 : Int) (w4 : World),
 (I3 [.int .i64 n8] w4) →
 brB (decide (n8 < IntKind.i64.wrap (n1 - 1)))
 (idx (sa1) (sl1) (IntKind.i64.wrap (n8 + 1)) (1) fun a3 =>
 ∃ n9 : Int,
 (w4.drew.cell? a3 = some (.int .i64 n9)) ∧
 idx (sa1) (sl1) (n8) (1) fun a4 =>
 ∃ n10 : Int,
 (w4.drew.cell? a4 = some (.int .i64 n10)) ∧
 idx (sa1) (sl1) (n8) (1) fun a5 =>
 (∃ v1 : Value,
 w4.drew.cell? a5 = some v1) ∧
 (w4.drew.frozen? a5 = false) ∧
 idx (sa1) (sl1) (IntKind.i64.wrap (n8 + 1)) (1) fun a6 =>
 (∃ v2 : Value,
 (setCells w4.drew a5 [.int .i64 n9] 0).cell? a6 = some v2) ∧
 ((setCells w4.drew a5 [.int .i64 n9] 0).frozen? a6 = false) ∧
 (I3 [.int .i64 (IntKind.i64.wrap (n8 + 1))] (setCells (setCells w4.drew a5 [.int .i64 n9] 0) a6 [.int .i64 n10] 0)) ∧
 m2 [.int .i64 (IntKind.i64.wrap (n8 + 1))] (setCells (setCells w4.drew a5 [.int .i64 n9] 0) a6 [.int .i64 n10] 0) < m2 [.int .i64 n8] w4)
 (R (.returned (.tuple #[])) w4)))
 (brB (IntKind.i64.wrap (x3 - x2) == 1)
 (∃ I4 : List Value → World → Prop,
 ∃ m3 : List Value → World → Nat,
 (I4 [.int .i64 x1, .int .i64 x2] w) ∧
 ∀ (n11 n12 : Int) (w5 : World),
 (I4 [.int .i64 n11, .int .i64 n12] w5) →
 brB (decide (n11 < n12))
 (∃ I5 : List Value → World → Prop,
 (idx (sa1) (sl1) (x2) (1) fun a7 =>
 ∃ n13 : Int,
 (w5.drew.cell? a7 = some (.int .i64 n13)) ∧
 idx (sa1) (sl1) (IntKind.i64.wrap (shiftZ .shr .u64 (IntKind.u64.wrap (IntKind.i64.wrap (n11 + n12))) 1)) (1) fun a8 =>
 ∃ n14 : Int,
 (w5.drew.cell? a8 = some (.int .i64 n14)) ∧
 callV P (va1) [.int .i64 n13, .int .i64 n14] (w5.drew) fun e2 w6 =>
 ∃ n15 : Int,
 (e2 = .returned (.int .i64 n15)) ∧
 brB (!decide (n15 < 0))
 (I5 [.int .i64 (IntKind.i64.wrap (IntKind.i64.wrap (shiftZ .shr .u64 (IntKind.u64.wrap (IntKind.i64.wrap (n11 + n12))) 1) + 1)), .int .i64 n12] w6)
 (I5 [.int .i64 n11, .int .i64 (IntKind.i64.wrap (shiftZ .shr .u64 (IntKind.u64.wrap (IntKind.i64.wrap (n11 + n12))) 1))] w6)) ∧
 ∀ (n16 n17 : Int) (w7 : World),
 (I5 [.int .i64 n16, .int .i64 n17] w7) →
 (I4 [.int .i64 n16, .int .i64 n17] w7) ∧
 m3 [.int .i64 n16, .int .i64 n17] w7 < m3 [.int .i64 n11, .int .i64 n12] w5)
 (∃ I6 : List Value → World → Prop,
 ∃ m4 : List Value → World → Nat,
 (I6 [.int .i64 x2] w5) ∧
 ∀ (n18 : Int) (w8 : World),
 (I6 [.int .i64 n18] w8) →
 brB (decide (n18 > n11))
 (idx (sa1) (sl1) (IntKind.i64.wrap (n18 - 1)) (1) fun a9 =>
 ∃ n19 : Int,
 (w8.drew.cell? a9 = some (.int .i64 n19)) ∧
 idx (sa1) (sl1) (n18) (1) fun a10 =>
 ∃ n20 : Int,
 (w8.drew.cell? a10 = some (.int .i64 n20)) ∧
 idx (sa1) (sl1) (n18) (1) fun a11 =>
 (∃ v3 : Value,
 w8.drew.cell? a11 = some v3) ∧
 (w8.drew.frozen? a11 = false) ∧
 idx (sa1) (sl1) (IntKind.i64.wrap (n18 - 1)) (1) fun a12 =>
 (∃ v4 : Value,
 (setCells w8.drew a11 [.int .i64 n19] 0).cell? a12 = some v4) ∧
 ((setCells w8.drew a11 [.int .i64 n19] 0).frozen? a12 = false) ∧
 (I6 [.int .i64 (IntKind.i64.wrap (n18 - 1))] (setCells (setCells w8.drew a11 [.int .i64 n19] 0) a12 [.int .i64 n20] 0)) ∧
 m4 [.int .i64 (IntKind.i64.wrap (n18 - 1))] (setCells (setCells w8.drew a11 [.int .i64 n19] 0) a12 [.int .i64 n20] 0) < m4 [.int .i64 n18] w8)
 (R (.returned (.tuple #[])) w8)))
 (∃ I7 : List Value → World → Prop,
 (brB (decide (x2 > IntKind.i64.wrap (shiftZ .shr .u64 (IntKind.u64.wrap (IntKind.i64.wrap (x1 + x3))) 1)))
 (I7 [.int .i64 (IntKind.i64.wrap (IntKind.i64.wrap (IntKind.i64.wrap (shiftZ .shr .u64 (IntKind.u64.wrap (IntKind.i64.wrap (x1 + x3))) 1) + x2) - x3)), .int .i64 (IntKind.i64.wrap (shiftZ .shr .u64 (IntKind.u64.wrap (IntKind.i64.wrap (x1 + x3))) 1))] w)
 (I7 [.int .i64 x1, .int .i64 x2] w)) ∧
 ∀ (n21 n22 : Int) (w9 : World),
 (I7 [.int .i64 n21, .int .i64 n22] w9) →
 ∃ (I8 : List Value → World → Prop) (m5 : List Value → World → Nat),
 (I8 [.int .i64 n21, .int .i64 n22] w9) ∧
 ∀ (n23 n24 : Int) (w10 : World),
 (I8 [.int .i64 n23, .int .i64 n24] w10) →
 brB (decide (n23 < n24))
 (∃ I9 : List Value → World → Prop,
 (idx (sa1) (sl1) (IntKind.i64.wrap (IntKind.i64.wrap (IntKind.i64.wrap (IntKind.i64.wrap (shiftZ .shr .u64 (IntKind.u64.wrap (IntKind.i64.wrap (x1 + x3))) 1) + x2) - 1) - IntKind.i64.wrap (shiftZ .shr .u64 (IntKind.u64.wrap (IntKind.i64.wrap (n23 + n24))) 1))) (1) fun a13 =>
 ∃ n25 : Int,
 (w10.drew.cell? a13 = some (.int .i64 n25)) ∧
 idx (sa1) (sl1) (IntKind.i64.wrap (shiftZ .shr .u64 (IntKind.u64.wrap (IntKind.i64.wrap (n23 + n24))) 1)) (1) fun a14 =>
 ∃ n26 : Int,
 (w10.drew.cell? a14 = some (.int .i64 n26)) ∧
 callV P (va1) [.int .i64 n25, .int .i64 n26] (w10.drew) fun e3 w11 =>
 ∃ n27 : Int,
 (e3 = .returned (.int .i64 n27)) ∧
 brB (!decide (n27 < 0))
 (I9 [.int .i64 (IntKind.i64.wrap (IntKind.i64.wrap (shiftZ .shr .u64 (IntKind.u64.wrap (IntKind.i64.wrap (n23 + n24))) 1) + 1)), .int .i64 n24] w11)
 (I9 [.int .i64 n23, .int .i64 (IntKind.i64.wrap (shiftZ .shr .u64 (IntKind.u64.wrap (IntKind.i64.wrap (n23 + n24))) 1))] w11)) ∧
 ∀ (n28 n29 : Int) (w12 : World),
 (I9 [.int .i64 n28, .int .i64 n29] w12) →
 (I8 [.int .i64 n28, .int .i64 n29] w12) ∧
 m5 [.int .i64 n28, .int .i64 n29] w12 < m5 [.int .i64 n23, .int .i64 n24] w10)
 (∃ I10 : List Value → World → Prop,
 (brB (decide (n23 < x2) && decide (x2 < IntKind.i64.wrap (IntKind.i64.wrap (IntKind.i64.wrap (shiftZ .shr .u64 (IntKind.u64.wrap (IntKind.i64.wrap (x1 + x3))) 1) + x2) - n23)))
 (Calls P F.slices_rotateCmpFunc_int #[.slice sa1 sl1 sc1, .int .i64 n23, .int .i64 x2, .int .i64 (IntKind.i64.wrap (IntKind.i64.wrap (IntKind.i64.wrap (shiftZ .shr .u64 (IntKind.u64.wrap (IntKind.i64.wrap (x1 + x3))) 1) + x2) - n23)), va1] w10 fun e4 w13 =>
 (e4 = .returned (.tuple #[])) ∧
 I10 [] w13)
 (I10 [] w10)) ∧
 ∀ w14 : World,
 (I10 [] w14) →
 ∃ I11 : List Value → World → Prop,
 (brB (decide (x1 < n23) && decide (n23 < IntKind.i64.wrap (shiftZ .shr .u64 (IntKind.u64.wrap (IntKind.i64.wrap (x1 + x3))) 1)))
 (Calls P F.slices_symMergeCmpFunc_int #[.slice sa1 sl1 sc1, .int .i64 x1, .int .i64 n23, .int .i64 (IntKind.i64.wrap (shiftZ .shr .u64 (IntKind.u64.wrap (IntKind.i64.wrap (x1 + x3))) 1)), va1] w14 fun e5 w15 =>
 (e5 = .returned (.tuple #[])) ∧
 I11 [] w15)
 (I11 [] w14)) ∧
 ∀ w16 : World,
 (I11 [] w16) →
 brB (decide (IntKind.i64.wrap (shiftZ .shr .u64 (IntKind.u64.wrap (IntKind.i64.wrap (x1 + x3))) 1) < IntKind.i64.wrap (IntKind.i64.wrap (IntKind.i64.wrap (shiftZ .shr .u64 (IntKind.u64.wrap (IntKind.i64.wrap (x1 + x3))) 1) + x2) - n23)) && decide (IntKind.i64.wrap (IntKind.i64.wrap (IntKind.i64.wrap (shiftZ .shr .u64 (IntKind.u64.wrap (IntKind.i64.wrap (x1 + x3))) 1) + x2) - n23) < x3))
 (Calls P F.slices_symMergeCmpFunc_int #[.slice sa1 sl1 sc1, .int .i64 (IntKind.i64.wrap (shiftZ .shr .u64 (IntKind.u64.wrap (IntKind.i64.wrap (x1 + x3))) 1)), .int .i64 (IntKind.i64.wrap (IntKind.i64.wrap (IntKind.i64.wrap (shiftZ .shr .u64 (IntKind.u64.wrap (IntKind.i64.wrap (x1 + x3))) 1) + x2) - n23)), .int .i64 x3, va1] w16 fun e6 w17 =>
 (e6 = .returned (.tuple #[])) ∧
 R (.returned (.tuple #[])) w17)
 (R (.returned (.tuple #[])) w16))))
theorem calls_slices_symMergeCmpFunc_int (sa1 : Option Addr) (sl1 sc1 : Nat) (x1 x2 x3 : Int) (va1 : Value) (w : World) (R : Ending → World → Prop) (h : vc_slices_symMergeCmpFunc_int sa1 sl1 sc1 x1 x2 x3 va1 w R) : Calls P F.slices_symMergeCmpFunc_int #[.slice sa1 sl1 sc1, .int .i64 x1, .int .i64 x2, .int .i64 x3, va1] w R :=
  calls_of_vc (ac := ac_slices_symMergeCmpFunc_int) mixed Try.func95 (by kernel_rfl) (cast (by unfold vc_slices_symMergeCmpFunc_int FnVc; kernel_rfl) h)
def vc_slices_rotateCmpFunc_api_Color (sa1 : Option Addr) (sl1 sc1 : Nat) (x1 x2 x3 : Int) (va1 : Value) (w : World) (R : Ending → World → Prop) : Prop :=
 ∃ (I1 : List Value → World → Prop) (m1 : List Value → World → Nat),
 (I1 [.int .i64 (IntKind.i64.wrap (x2 - x1)), .int .i64 (IntKind.i64.wrap (x3 - x2))] w) ∧
 ∀ (n1 n2 : Int) (w1 : World),
 (I1 [.int .i64 n1, .int .i64 n2] w1) →
 brB (n1 != n2)
 (∃ I2 : List Value → World → Prop,
 (brB (decide (n1 > n2))
 (Calls P F.slices_swapRangeCmpFunc_api_Color #[.slice sa1 sl1 sc1, .int .i64 (IntKind.i64.wrap (x2 - n1)), .int .i64 x2, .int .i64 n2, va1] w1 fun e1 w2 =>
 (e1 = .returned (.tuple #[])) ∧
 I2 [.int .i64 (IntKind.i64.wrap (n1 - n2)), .int .i64 n2] w2)
 (Calls P F.slices_swapRangeCmpFunc_api_Color #[.slice sa1 sl1 sc1, .int .i64 (IntKind.i64.wrap (x2 - n1)), .int .i64 (IntKind.i64.wrap (IntKind.i64.wrap (x2 + n2) - n1)), .int .i64 n1, va1] w1 fun e2 w3 =>
 (e2 = .returned (.tuple #[])) ∧
 I2 [.int .i64 n1, .int .i64 (IntKind.i64.wrap (n2 - n1))] w3)) ∧
 ∀ (n3 n4 : Int) (w4 : World),
 (I2 [.int .i64 n3, .int .i64 n4] w4) →
 (I1 [.int .i64 n3, .int .i64 n4] w4) ∧
 m1 [.int .i64 n3, .int .i64 n4] w4 < m1 [.int .i64 n1, .int .i64 n2] w1)
 (Calls P F.slices_swapRangeCmpFunc_api_Color #[.slice sa1 sl1 sc1, .int .i64 (IntKind.i64.wrap (x2 - n1)), .int .i64 x2, .int .i64 n1, va1] w1 fun e3 w5 =>
 (e3 = .returned (.tuple #[])) ∧
 R (.returned (.tuple #[])) w5)
theorem calls_slices_rotateCmpFunc_api_Color (sa1 : Option Addr) (sl1 sc1 : Nat) (x1 x2 x3 : Int) (va1 : Value) (w : World) (R : Ending → World → Prop) (h : vc_slices_rotateCmpFunc_api_Color sa1 sl1 sc1 x1 x2 x3 va1 w R) : Calls P F.slices_rotateCmpFunc_api_Color #[.slice sa1 sl1 sc1, .int .i64 x1, .int .i64 x2, .int .i64 x3, va1] w R :=
  calls_of_vc (ac := ac_slices_rotateCmpFunc_api_Color) mixed Try.func96 (by kernel_rfl) (cast (by unfold vc_slices_rotateCmpFunc_api_Color FnVc; kernel_rfl) h)
def vc_bits_high (x1 : Int) (w : World) (R : Ending → World → Prop) : Prop :=
 R (.returned (.int .u64 (IntKind.u64.wrap (7 - divZ .rem .u64 (IntKind.u64.wrap x1) 8)))) w
theorem calls_bits_high (x1 : Int) (w : World) (R : Ending → World → Prop) (h : vc_bits_high x1 w R) : Calls P F.bits_high #[.int .i64 x1] w R :=
  calls_of_vc (ac := ac_bits_high) mixed Try.func97 (by kernel_rfl) (cast (by unfold vc_bits_high FnVc; kernel_rfl) h)
def vc_bits_low (x1 : Int) (w : World) (R : Ending → World → Prop) : Prop :=
 R (.returned (.int .u64 (divZ .rem .u64 (IntKind.u64.wrap x1) 8))) w
theorem calls_bits_low (x1 : Int) (w : World) (R : Ending → World → Prop) (h : vc_bits_low x1 w R) : Calls P F.bits_low #[.int .i64 x1] w R :=
  calls_of_vc (ac := ac_bits_low) mixed Try.func98 (by kernel_rfl) (cast (by unfold vc_bits_low FnVc; kernel_rfl) h)
def vc_slices_rotateCmpFunc_int (sa1 : Option Addr) (sl1 sc1 : Nat) (x1 x2 x3 : Int) (va1 : Value) (w : World) (R : Ending → World → Prop) : Prop :=
 ∃ (I1 : List Value → World → Prop) (m1 : List Value → World → Nat),
 (I1 [.int .i64 (IntKind.i64.wrap (x2 - x1)), .int .i64 (IntKind.i64.wrap (x3 - x2))] w) ∧
 ∀ (n1 n2 : Int) (w1 : World),
 (I1 [.int .i64 n1, .int .i64 n2] w1) →
 brB (n1 != n2)
 (∃ I2 : List Value → World → Prop,
 (brB (decide (n1 > n2))
 (Calls P F.slices_swapRangeCmpFunc_int #[.slice sa1 sl1 sc1, .int .i64 (IntKind.i64.wrap (x2 - n1)), .int .i64 x2, .int .i64 n2, va1] w1 fun e1 w2 =>
 (e1 = .returned (.tuple #[])) ∧
 I2 [.int .i64 (IntKind.i64.wrap (n1 - n2)), .int .i64 n2] w2)
 (Calls P F.slices_swapRangeCmpFunc_int #[.slice sa1 sl1 sc1, .int .i64 (IntKind.i64.wrap (x2 - n1)), .int .i64 (IntKind.i64.wrap (IntKind.i64.wrap (x2 + n2) - n1)), .int .i64 n1, va1] w1 fun e2 w3 =>
 (e2 = .returned (.tuple #[])) ∧
 I2 [.int .i64 n1, .int .i64 (IntKind.i64.wrap (n2 - n1))] w3)) ∧
 ∀ (n3 n4 : Int) (w4 : World),
 (I2 [.int .i64 n3, .int .i64 n4] w4) →
 (I1 [.int .i64 n3, .int .i64 n4] w4) ∧
 m1 [.int .i64 n3, .int .i64 n4] w4 < m1 [.int .i64 n1, .int .i64 n2] w1)
 (Calls P F.slices_swapRangeCmpFunc_int #[.slice sa1 sl1 sc1, .int .i64 (IntKind.i64.wrap (x2 - n1)), .int .i64 x2, .int .i64 n1, va1] w1 fun e3 w5 =>
 (e3 = .returned (.tuple #[])) ∧
 R (.returned (.tuple #[])) w5)
theorem calls_slices_rotateCmpFunc_int (sa1 : Option Addr) (sl1 sc1 : Nat) (x1 x2 x3 : Int) (va1 : Value) (w : World) (R : Ending → World → Prop) (h : vc_slices_rotateCmpFunc_int sa1 sl1 sc1 x1 x2 x3 va1 w R) : Calls P F.slices_rotateCmpFunc_int #[.slice sa1 sl1 sc1, .int .i64 x1, .int .i64 x2, .int .i64 x3, va1] w R :=
  calls_of_vc (ac := ac_slices_rotateCmpFunc_int) mixed Try.func99 (by kernel_rfl) (cast (by unfold vc_slices_rotateCmpFunc_int FnVc; kernel_rfl) h)
def vc_slices_swapRangeCmpFunc_api_Color (sa1 : Option Addr) (sl1 sc1 : Nat) (x1 x2 x3 : Int) (va1 : Value) (w : World) (R : Ending → World → Prop) : Prop :=
 ∃ (I1 : List Value → World → Prop) (m1 : List Value → World → Nat),
 (I1 [.int .i64 0] w) ∧
 ∀ (n1 : Int) (w1 : World),
 (I1 [.int .i64 n1] w1) →
 brB (decide (n1 < x3))
 (idx (sa1) (sl1) (IntKind.i64.wrap (x2 + n1)) (4) fun a1 =>
 ∃ n2 n3 n4 n5 : Int,
 (w1.drew.cell? a1 = some (.int .u16 n2)) ∧
 (w1.drew.cell? (a1.add 1) = some (.int .u16 n3)) ∧
 (w1.drew.cell? (a1.add 2) = some (.int .u16 n4)) ∧
 (w1.drew.cell? (a1.add 3) = some (.int .u16 n5)) ∧
 idx (sa1) (sl1) (IntKind.i64.wrap (x1 + n1)) (4) fun a2 =>
 ∃ n6 n7 n8 n9 : Int,
 (w1.drew.cell? a2 = some (.int .u16 n6)) ∧
 (w1.drew.cell? (a2.add 1) = some (.int .u16 n7)) ∧
 (w1.drew.cell? (a2.add 2) = some (.int .u16 n8)) ∧
 (w1.drew.cell? (a2.add 3) = some (.int .u16 n9)) ∧
 idx (sa1) (sl1) (IntKind.i64.wrap (x1 + n1)) (4) fun a3 =>
 (∃ v1 : Value,
 w1.drew.cell? a3 = some v1) ∧
 (w1.drew.frozen? a3 = false) ∧
 (∃ v2 : Value,
 w1.drew.cell? (a3.add 1) = some v2) ∧
 (w1.drew.frozen? (a3.add 1) = false) ∧
 (∃ v3 : Value,
 w1.drew.cell? (a3.add 2) = some v3) ∧
 (w1.drew.frozen? (a3.add 2) = false) ∧
 (∃ v4 : Value,
 w1.drew.cell? (a3.add 3) = some v4) ∧
 (w1.drew.frozen? (a3.add 3) = false) ∧
 idx (sa1) (sl1) (IntKind.i64.wrap (x2 + n1)) (4) fun a4 =>
 (∃ v5 : Value,
 (setCells w1.drew a3 [.int .u16 n2, .int .u16 n3, .int .u16 n4, .int .u16 n5] 0).cell? a4 = some v5) ∧
 ((setCells w1.drew a3 [.int .u16 n2, .int .u16 n3, .int .u16 n4, .int .u16 n5] 0).frozen? a4 = false) ∧
 (∃ v6 : Value,
 (setCells w1.drew a3 [.int .u16 n2, .int .u16 n3, .int .u16 n4, .int .u16 n5] 0).cell? (a4.add 1) = some v6) ∧
 ((setCells w1.drew a3 [.int .u16 n2, .int .u16 n3, .int .u16 n4, .int .u16 n5] 0).frozen? (a4.add 1) = false) ∧
 (∃ v7 : Value,
 (setCells w1.drew a3 [.int .u16 n2, .int .u16 n3, .int .u16 n4, .int .u16 n5] 0).cell? (a4.add 2) = some v7) ∧
 ((setCells w1.drew a3 [.int .u16 n2, .int .u16 n3, .int .u16 n4, .int .u16 n5] 0).frozen? (a4.add 2) = false) ∧
 (∃ v8 : Value,
 (setCells w1.drew a3 [.int .u16 n2, .int .u16 n3, .int .u16 n4, .int .u16 n5] 0).cell? (a4.add 3) = some v8) ∧
 ((setCells w1.drew a3 [.int .u16 n2, .int .u16 n3, .int .u16 n4, .int .u16 n5] 0).frozen? (a4.add 3) = false) ∧
 (I1 [.int .i64 (IntKind.i64.wrap (n1 + 1))] (setCells (setCells w1.drew a3 [.int .u16 n2, .int .u16 n3, .int .u16 n4, .int .u16 n5] 0) a4 [.int .u16 n6, .int .u16 n7, .int .u16 n8, .int .u16 n9] 0)) ∧
 m1 [.int .i64 (IntKind.i64.wrap (n1 + 1))] (setCells (setCells w1.drew a3 [.int .u16 n2, .int .u16 n3, .int .u16 n4, .int .u16 n5] 0) a4 [.int .u16 n6, .int .u16 n7, .int .u16 n8, .int .u16 n9] 0) < m1 [.int .i64 n1] w1)
 (R (.returned (.tuple #[])) w1)
theorem calls_slices_swapRangeCmpFunc_api_Color (sa1 : Option Addr) (sl1 sc1 : Nat) (x1 x2 x3 : Int) (va1 : Value) (w : World) (R : Ending → World → Prop) (h : vc_slices_swapRangeCmpFunc_api_Color sa1 sl1 sc1 x1 x2 x3 va1 w R) : Calls P F.slices_swapRangeCmpFunc_api_Color #[.slice sa1 sl1 sc1, .int .i64 x1, .int .i64 x2, .int .i64 x3, va1] w R :=
  calls_of_vc (ac := ac_slices_swapRangeCmpFunc_api_Color) mixed Try.func100 (by kernel_rfl) (cast (by unfold vc_slices_swapRangeCmpFunc_api_Color FnVc; kernel_rfl) h)
def vc_slices_swapRangeCmpFunc_int (sa1 : Option Addr) (sl1 sc1 : Nat) (x1 x2 x3 : Int) (va1 : Value) (w : World) (R : Ending → World → Prop) : Prop :=
 ∃ (I1 : List Value → World → Prop) (m1 : List Value → World → Nat),
 (I1 [.int .i64 0] w) ∧
 ∀ (n1 : Int) (w1 : World),
 (I1 [.int .i64 n1] w1) →
 brB (decide (n1 < x3))
 (idx (sa1) (sl1) (IntKind.i64.wrap (x2 + n1)) (1) fun a1 =>
 ∃ n2 : Int,
 (w1.drew.cell? a1 = some (.int .i64 n2)) ∧
 idx (sa1) (sl1) (IntKind.i64.wrap (x1 + n1)) (1) fun a2 =>
 ∃ n3 : Int,
 (w1.drew.cell? a2 = some (.int .i64 n3)) ∧
 idx (sa1) (sl1) (IntKind.i64.wrap (x1 + n1)) (1) fun a3 =>
 (∃ v1 : Value,
 w1.drew.cell? a3 = some v1) ∧
 (w1.drew.frozen? a3 = false) ∧
 idx (sa1) (sl1) (IntKind.i64.wrap (x2 + n1)) (1) fun a4 =>
 (∃ v2 : Value,
 (setCells w1.drew a3 [.int .i64 n2] 0).cell? a4 = some v2) ∧
 ((setCells w1.drew a3 [.int .i64 n2] 0).frozen? a4 = false) ∧
 (I1 [.int .i64 (IntKind.i64.wrap (n1 + 1))] (setCells (setCells w1.drew a3 [.int .i64 n2] 0) a4 [.int .i64 n3] 0)) ∧
 m1 [.int .i64 (IntKind.i64.wrap (n1 + 1))] (setCells (setCells w1.drew a3 [.int .i64 n2] 0) a4 [.int .i64 n3] 0) < m1 [.int .i64 n1] w1)
 (R (.returned (.tuple #[])) w1)
theorem calls_slices_swapRangeCmpFunc_int (sa1 : Option Addr) (sl1 sc1 : Nat) (x1 x2 x3 : Int) (va1 : Value) (w : World) (R : Ending → World → Prop) (h : vc_slices_swapRangeCmpFunc_int sa1 sl1 sc1 x1 x2 x3 va1 w R) : Calls P F.slices_swapRangeCmpFunc_int #[.slice sa1 sl1 sc1, .int .i64 x1, .int .i64 x2, .int .i64 x3, va1] w R :=
  calls_of_vc (ac := ac_slices_swapRangeCmpFunc_int) mixed Try.func101 (by kernel_rfl) (cast (by unfold vc_slices_swapRangeCmpFunc_int FnVc; kernel_rfl) h)
end Go.Proofs.Ytiiaihiliimcoaa
