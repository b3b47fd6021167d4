/- The condition of a great law, written out (by a program of ours), and the theorem that it suffices. -/
import Derived.Test.YtiiaihiliimcoaaRPA4
import Derived.Test.YtiiaihiliimcoaaRPA9
set_option linter.unusedVariables false
set_option linter.unusedSimpArgs false
namespace Go.Proofs.Ytiiaihiliimcoaa
open Go Go.Vc
set_option maxRecDepth 100000
def vc_ref15_May (x1 x2 : Int) (sa1 : Option Addr) (sl1 sc1 : Nat) (x3 x4 : Int) (sa2 : Option Addr) (sl2 sc2 : Nat) (w : World) (R : Ending → World → Prop) : Prop :=
 ∀ k1 : Nat,
 w.heap.size ≤ k1 →
 ∀ k2 : Nat,
 w.heap.size ≤ k2 →
 brB (x3 != x1 || x4 != x2)
 (∀ w1 : World,
 Locl [k2, k1] w w1 →
 R (.returned (.bool false)) w1)
 (∀ w2 : World,
 Locl [k2, k1] w w2 →
 Calls P F.ref09_Good #[.agg #[.int .i64 x3, .int .i64 x4, .slice sa2 sl2 sc2]] w2 fun e1 w3 =>
 ∃ c1 : Bool,
 (e1 = .returned (.bool c1)) ∧
 Keep [k2, k1] w2 w3 ∧
 brB (!c1)
 (R (.returned (.bool false)) w3)
 (∃ I1 : List Value → World → Prop,
 ∃ m1 : List Value → World → Nat,
 (I1 [.bool false, .slice none 0 0, .int .i64 0] w3) ∧
 ∀ (c2 : Bool) (p1 : Option Addr) (k3 k4 : Nat) (n1 : Int) (w4 : World),
 (I1 [.bool c2, .slice p1 k3 k4, .int .i64 n1] w4) →
 brB (decide (n1 < x2))
 (∃ I2 : List Value → World → Prop,
 ∃ m2 : List Value → World → Nat,
 (I2 [.bool c2, .slice p1 k3 k4, .int .i64 0] w4) ∧
 ∀ (c3 : Bool) (p2 : Option Addr) (k5 k6 : Nat) (n2 : Int) (w5 : World),
 (I2 [.bool c3, .slice p2 k5 k6, .int .i64 n2] w5) →
 brB (decide (n2 < x1))
 (∃ I3 : List Value → World → Prop,
 (∃ I4 : List Value → World → Prop,
 ((Calls P F.ref09_Pixel #[.agg #[.int .i64 x1, .int .i64 x2, .slice sa1 sl1 sc1], .int .i64 n2, .int .i64 n1] (w5.drew) fun e2 w6 =>
 ∃ n3 n4 n5 n6 : Int,
 (e2 = .returned (.agg #[.int .u16 n3, .int .u16 n4, .int .u16 n5, .int .u16 n6])) ∧
 (Keep ([k2, k1]) (w5.drew) w6) ∧
 (Keeps (w5.drew) w6) ∧
 (Calls P F.ref09_Pixel #[.agg #[.int .i64 x3, .int .i64 x4, .slice sa2 sl2 sc2], .int .i64 n2, .int .i64 n1] w6 fun e3 w7 =>
 ∃ n7 n8 n9 n10 : Int,
 (e3 = .returned (.agg #[.int .u16 n7, .int .u16 n8, .int .u16 n9, .int .u16 n10])) ∧
 Keep [k2, k1] w6 w7 ∧
 (∀ k7 : Nat,
 w7.heap.size ≤ k7 →
 ∀ k8 : Nat,
 w7.heap.size ≤ k8 →
 ∀ w8 : World,
 Locl [k8, k7, k2, k1] w7 w8 →
 I4 [.pointer (some { block := k7, off := 0 }), .int .u16 n3, .int .u16 n4, .int .u16 n5, .int .u16 n6, .pointer (some { block := k8, off := 0 }), .int .u16 n7, .int .u16 n8, .int .u16 n9, .int .u16 n10] w8) ∧
 ∀ k9 : Nat,
 w7.heap.size ≤ k9 →
 ∀ k10 : Nat,
 w7.heap.size ≤ k10 →
 ∀ w9 : World,
 Locl [k10, k9, k2, k1] w7 w9 →
 I4 [.pointer (some { block := k10, off := 0 }), .int .u16 n3, .int .u16 n4, .int .u16 n5, .int .u16 n6, .pointer (some { block := k9, off := 0 }), .int .u16 n7, .int .u16 n8, .int .u16 n9, .int .u16 n10] w9) ∧
 (∀ k11 : Nat,
 w6.heap.size ≤ k11 →
 (∀ w10 : World,
 Locl [k11, k2, k1] w6 w10 →
 Calls P F.ref09_Pixel #[.agg #[.int .i64 x3, .int .i64 x4, .slice sa2 sl2 sc2], .int .i64 n2, .int .i64 n1] w10 fun e4 w11 =>
 ∃ n11 n12 n13 n14 : Int,
 (e4 = .returned (.agg #[.int .u16 n11, .int .u16 n12, .int .u16 n13, .int .u16 n14])) ∧
 Keep [k11, k2, k1] w10 w11 ∧
 ∀ k12 : Nat,
 w11.heap.size ≤ k12 →
 ∀ w12 : World,
 Locl [k12, k11, k2, k1] w11 w12 →
 I4 [.pointer (some { block := k11, off := 0 }), .int .u16 n3, .int .u16 n4, .int .u16 n5, .int .u16 n6, .pointer (some { block := k12, off := 0 }), .int .u16 n11, .int .u16 n12, .int .u16 n13, .int .u16 n14] w12) ∧
 ∀ k13 : Nat,
 w6.heap.size ≤ k13 →
 ∀ w13 : World,
 Locl [k13, k11, k2, k1] w6 w13 →
 Calls P F.ref09_Pixel #[.agg #[.int .i64 x3, .int .i64 x4, .slice sa2 sl2 sc2], .int .i64 n2, .int .i64 n1] w13 fun e5 w14 =>
 ∃ n15 n16 n17 n18 : Int,
 (e5 = .returned (.agg #[.int .u16 n15, .int .u16 n16, .int .u16 n17, .int .u16 n18])) ∧
 Keep [k13, k11, k2, k1] w13 w14 ∧
 ∀ w15 : World,
 Locl [k13, k11, k2, k1] w14 w15 →
 I4 [.pointer (some { block := k11, off := 0 }), .int .u16 n3, .int .u16 n4, .int .u16 n5, .int .u16 n6, .pointer (some { block := k13, off := 0 }), .int .u16 n15, .int .u16 n16, .int .u16 n17, .int .u16 n18] w15) ∧
 ∀ k14 : Nat,
 w6.heap.size ≤ k14 →
 (∀ w16 : World,
 Locl [k14, k2, k1] w6 w16 →
 Calls P F.ref09_Pixel #[.agg #[.int .i64 x3, .int .i64 x4, .slice sa2 sl2 sc2], .int .i64 n2, .int .i64 n1] w16 fun e6 w17 =>
 ∃ n19 n20 n21 n22 : Int,
 (e6 = .returned (.agg #[.int .u16 n19, .int .u16 n20, .int .u16 n21, .int .u16 n22])) ∧
 Keep [k14, k2, k1] w16 w17 ∧
 ∀ k15 : Nat,
 w17.heap.size ≤ k15 →
 ∀ w18 : World,
 Locl [k15, k14, k2, k1] w17 w18 →
 I4 [.pointer (some { block := k15, off := 0 }), .int .u16 n3, .int .u16 n4, .int .u16 n5, .int .u16 n6, .pointer (some { block := k14, off := 0 }), .int .u16 n19, .int .u16 n20, .int .u16 n21, .int .u16 n22] w18) ∧
 ∀ k16 : Nat,
 w6.heap.size ≤ k16 →
 ∀ w19 : World,
 Locl [k16, k14, k2, k1] w6 w19 →
 Calls P F.ref09_Pixel #[.agg #[.int .i64 x3, .int .i64 x4, .slice sa2 sl2 sc2], .int .i64 n2, .int .i64 n1] w19 fun e7 w20 =>
 ∃ n23 n24 n25 n26 : Int,
 (e7 = .returned (.agg #[.int .u16 n23, .int .u16 n24, .int .u16 n25, .int .u16 n26])) ∧
 Keep [k16, k14, k2, k1] w19 w20 ∧
 ∀ w21 : World,
 Locl [k16, k14, k2, k1] w20 w21 →
 I4 [.pointer (some { block := k16, off := 0 }), .int .u16 n3, .int .u16 n4, .int .u16 n5, .int .u16 n6, .pointer (some { block := k14, off := 0 }), .int .u16 n23, .int .u16 n24, .int .u16 n25, .int .u16 n26] w21) ∧
 (∀ k17 : Nat,
 (w5.drew.heap.size ≤ k17) →
 (∀ w22 : World,
 (Locl ([k17, k2, k1]) (w5.drew) w22) →
 Calls P F.ref09_Pixel #[.agg #[.int .i64 x1, .int .i64 x2, .slice sa1 sl1 sc1], .int .i64 n2, .int .i64 n1] w22 fun e8 w23 =>
 ∃ n27 n28 n29 n30 : Int,
 (e8 = .returned (.agg #[.int .u16 n27, .int .u16 n28, .int .u16 n29, .int .u16 n30])) ∧
 Keep [k17, k2, k1] w22 w23 ∧
 (Keeps w22 w23) ∧
 (Calls P F.ref09_Pixel #[.agg #[.int .i64 x3, .int .i64 x4, .slice sa2 sl2 sc2], .int .i64 n2, .int .i64 n1] w23 fun e9 w24 =>
 ∃ n31 n32 n33 n34 : Int,
 (e9 = .returned (.agg #[.int .u16 n31, .int .u16 n32, .int .u16 n33, .int .u16 n34])) ∧
 Keep [k17, k2, k1] w23 w24 ∧
 ∀ k18 : Nat,
 w24.heap.size ≤ k18 →
 ∀ w25 : World,
 Locl [k18, k17, k2, k1] w24 w25 →
 I4 [.pointer (some { block := k17, off := 0 }), .int .u16 n27, .int .u16 n28, .int .u16 n29, .int .u16 n30, .pointer (some { block := k18, off := 0 }), .int .u16 n31, .int .u16 n32, .int .u16 n33, .int .u16 n34] w25) ∧
 ∀ k19 : Nat,
 w23.heap.size ≤ k19 →
 ∀ w26 : World,
 Locl [k19, k17, k2, k1] w23 w26 →
 Calls P F.ref09_Pixel #[.agg #[.int .i64 x3, .int .i64 x4, .slice sa2 sl2 sc2], .int .i64 n2, .int .i64 n1] w26 fun e10 w27 =>
 ∃ n35 n36 n37 n38 : Int,
 (e10 = .returned (.agg #[.int .u16 n35, .int .u16 n36, .int .u16 n37, .int .u16 n38])) ∧
 Keep [k19, k17, k2, k1] w26 w27 ∧
 ∀ w28 : World,
 Locl [k19, k17, k2, k1] w27 w28 →
 I4 [.pointer (some { block := k17, off := 0 }), .int .u16 n27, .int .u16 n28, .int .u16 n29, .int .u16 n30, .pointer (some { block := k19, off := 0 }), .int .u16 n35, .int .u16 n36, .int .u16 n37, .int .u16 n38] w28) ∧
 ∀ k20 : Nat,
 (w5.drew.heap.size ≤ k20) →
 ∀ w29 : World,
 (Locl ([k20, k17, k2, k1]) (w5.drew) w29) →
 Calls P F.ref09_Pixel #[.agg #[.int .i64 x1, .int .i64 x2, .slice sa1 sl1 sc1], .int .i64 n2, .int .i64 n1] w29 fun e11 w30 =>
 ∃ n39 n40 n41 n42 : Int,
 (e11 = .returned (.agg #[.int .u16 n39, .int .u16 n40, .int .u16 n41, .int .u16 n42])) ∧
 Keep [k20, k17, k2, k1] w29 w30 ∧
 (Keeps w29 w30) ∧
 Calls P F.ref09_Pixel #[.agg #[.int .i64 x3, .int .i64 x4, .slice sa2 sl2 sc2], .int .i64 n2, .int .i64 n1] w30 fun e12 w31 =>
 ∃ n43 n44 n45 n46 : Int,
 (e12 = .returned (.agg #[.int .u16 n43, .int .u16 n44, .int .u16 n45, .int .u16 n46])) ∧
 Keep [k20, k17, k2, k1] w30 w31 ∧
 ∀ w32 : World,
 Locl [k20, k17, k2, k1] w31 w32 →
 I4 [.pointer (some { block := k17, off := 0 }), .int .u16 n39, .int .u16 n40, .int .u16 n41, .int .u16 n42, .pointer (some { block := k20, off := 0 }), .int .u16 n43, .int .u16 n44, .int .u16 n45, .int .u16 n46] w32) ∧
 ∀ k21 : Nat,
 (w5.drew.heap.size ≤ k21) →
 (∀ w33 : World,
 (Locl ([k21, k2, k1]) (w5.drew) w33) →
 Calls P F.ref09_Pixel #[.agg #[.int .i64 x1, .int .i64 x2, .slice sa1 sl1 sc1], .int .i64 n2, .int .i64 n1] w33 fun e13 w34 =>
 ∃ n47 n48 n49 n50 : Int,
 (e13 = .returned (.agg #[.int .u16 n47, .int .u16 n48, .int .u16 n49, .int .u16 n50])) ∧
 Keep [k21, k2, k1] w33 w34 ∧
 (Keeps w33 w34) ∧
 (Calls P F.ref09_Pixel #[.agg #[.int .i64 x3, .int .i64 x4, .slice sa2 sl2 sc2], .int .i64 n2, .int .i64 n1] w34 fun e14 w35 =>
 ∃ n51 n52 n53 n54 : Int,
 (e14 = .returned (.agg #[.int .u16 n51, .int .u16 n52, .int .u16 n53, .int .u16 n54])) ∧
 Keep [k21, k2, k1] w34 w35 ∧
 ∀ k22 : Nat,
 w35.heap.size ≤ k22 →
 ∀ w36 : World,
 Locl [k22, k21, k2, k1] w35 w36 →
 I4 [.pointer (some { block := k22, off := 0 }), .int .u16 n47, .int .u16 n48, .int .u16 n49, .int .u16 n50, .pointer (some { block := k21, off := 0 }), .int .u16 n51, .int .u16 n52, .int .u16 n53, .int .u16 n54] w36) ∧
 ∀ k23 : Nat,
 w34.heap.size ≤ k23 →
 ∀ w37 : World,
 Locl [k23, k21, k2, k1] w34 w37 →
 Calls P F.ref09_Pixel #[.agg #[.int .i64 x3, .int .i64 x4, .slice sa2 sl2 sc2], .int .i64 n2, .int .i64 n1] w37 fun e15 w38 =>
 ∃ n55 n56 n57 n58 : Int,
 (e15 = .returned (.agg #[.int .u16 n55, .int .u16 n56, .int .u16 n57, .int .u16 n58])) ∧
 Keep [k23, k21, k2, k1] w37 w38 ∧
 ∀ w39 : World,
 Locl [k23, k21, k2, k1] w38 w39 →
 I4 [.pointer (some { block := k23, off := 0 }), .int .u16 n47, .int .u16 n48, .int .u16 n49, .int .u16 n50, .pointer (some { block := k21, off := 0 }), .int .u16 n55, .int .u16 n56, .int .u16 n57, .int .u16 n58] w39) ∧
 ∀ k24 : Nat,
 (w5.drew.heap.size ≤ k24) →
 ∀ w40 : World,
 (Locl ([k24, k21, k2, k1]) (w5.drew) w40) →
 Calls P F.ref09_Pixel #[.agg #[.int .i64 x1, .int .i64 x2, .slice sa1 sl1 sc1], .int .i64 n2, .int .i64 n1] w40 fun e16 w41 =>
 ∃ n59 n60 n61 n62 : Int,
 (e16 = .returned (.agg #[.int .u16 n59, .int .u16 n60, .int .u16 n61, .int .u16 n62])) ∧
 Keep [k24, k21, k2, k1] w40 w41 ∧
 (Keeps w40 w41) ∧
 Calls P F.ref09_Pixel #[.agg #[.int .i64 x3, .int .i64 x4, .slice sa2 sl2 sc2], .int .i64 n2, .int .i64 n1] w41 fun e17 w42 =>
 ∃ n63 n64 n65 n66 : Int,
 (e17 = .returned (.agg #[.int .u16 n63, .int .u16 n64, .int .u16 n65, .int .u16 n66])) ∧
 Keep [k24, k21, k2, k1] w41 w42 ∧
 ∀ w43 : World,
 Locl [k24, k21, k2, k1] w42 w43 →
 I4 [.pointer (some { block := k24, off := 0 }), .int .u16 n59, .int .u16 n60, .int .u16 n61, .int .u16 n62, .pointer (some { block := k21, off := 0 }), .int .u16 n63, .int .u16 n64, .int .u16 n65, .int .u16 n66] w43) ∧
 ∀ (k25 : Nat) (n67 n68 n69 n70 : Int) (k26 : Nat) (n71 n72 n73 n74 : Int) (w44 : World),
 (I4 [.pointer (some { block := k25, off := 0 }), .int .u16 n67, .int .u16 n68, .int .u16 n69, .int .u16 n70, .pointer (some { block := k26, off := 0 }), .int .u16 n71, .int .u16 n72, .int .u16 n73, .int .u16 n74] w44) →
 Calls P F.ref14_Clear #[.agg #[.int .u16 n67, .int .u16 n68, .int .u16 n69, .int .u16 n70]] w44 fun e18 w45 =>
 ∃ c4 : Bool,
 (e18 = .returned (.bool c4)) ∧
 Keep [k26, k25, k2, k1] w44 w45 ∧
 brB (c4)
 (brB (!(decide (n71 = 0) && (decide (n72 = 0) && (decide (n73 = 0) && (decide (n74 = 0) && true)))))
 (R (.returned (.bool false)) w45)
 (I3 [.bool true, .slice p2 k5 k6] w45))
 (brB (n74 != 65535)
 (R (.returned (.bool false)) w45)
 (Calls P F.ref09_Place #[.slice p2 k5 k6, .agg #[.int .u16 n71, .int .u16 n72, .int .u16 n73, .int .u16 n74]] w45 fun e19 w46 =>
 ∃ n75 : Int,
 (e19 = .returned (.int .i64 n75)) ∧
 Keep [k26, k25, k2, k1] w45 w46 ∧
 brB (decide (n75 < 0))
 (∀ k27 : Nat,
 w46.heap.size ≤ k27 →
 ∀ w47 : World,
 Locl [k27, k26, k25, k2, k1] w46 w47 →
 appVC (w47) ([(70, k27, [.int .u16 n71, .int .u16 n72, .int .u16 n73, .int .u16 n74]), (10, k26, [.int .u16 n71, .int .u16 n72, .int .u16 n73, .int .u16 n74]), (9, k25, [.int .u16 n67, .int .u16 n68, .int .u16 n69, .int .u16 n70]), (3, k2, [.int .i64 x3, .int .i64 x4, .slice sa2 sl2 sc2]), (2, k1, [.int .i64 x1, .int .i64 x2, .slice sa1 sl1 sc1])]) (p2) (k5) (k6) (1) (4) (8) (53) ([.int .u16 0, .int .u16 0, .int .u16 0, .int .u16 0]) ([.int .u16 n71, .int .u16 n72, .int .u16 n73, .int .u16 n74]) fun p3 k28 k29 w48 =>
 I3 [.bool c3, .slice p3 k28 k29] w48)
 (I3 [.bool c3, .slice p2 k5 k6] w46)))) ∧
 ∀ (c5 : Bool) (p4 : Option Addr) (k30 k31 : Nat) (w49 : World),
 (I3 [.bool c5, .slice p4 k30 k31] w49) →
 (I2 [.bool c5, .slice p4 k30 k31, .int .i64 (IntKind.i64.wrap (n2 + 1))] w49) ∧
 m2 [.bool c5, .slice p4 k30 k31, .int .i64 (IntKind.i64.wrap (n2 + 1))] w49 < m2 [.bool c3, .slice p2 k5 k6, .int .i64 n2] w5)
 ((I1 [.bool c3, .slice p2 k5 k6, .int .i64 (IntKind.i64.wrap (n1 + 1))] w5) ∧
 m1 [.bool c3, .slice p2 k5 k6, .int .i64 (IntKind.i64.wrap (n1 + 1))] w5 < m1 [.bool c2, .slice p1 k3 k4, .int .i64 n1] w4))
 (∃ I5 : List Value → World → Prop,
 (brB (c2)
 (I5 [.int .i64 255] w4)
 (I5 [.int .i64 256] w4)) ∧
 ∀ (n76 : Int) (w50 : World),
 (I5 [.int .i64 n76] w50) →
 Calls P F.ref14_Met #[.agg #[.int .i64 x1, .int .i64 x2, .slice sa1 sl1 sc1], .int .i64 n76] w50 fun e20 w51 =>
 ∃ (p5 : Option Addr) (k32 k33 : Nat),
 (e20 = .returned (.slice p5 k32 k33)) ∧
 Keep [k2, k1] w50 w51 ∧
 brB (decide ((k3 : Int) > n76))
 (R (.returned (.bool false)) w51)
 (∃ I6 : List Value → World → Prop,
 ∃ m3 : List Value → World → Nat,
 (I6 [.int .i64 0] w51) ∧
 ∀ (n77 : Int) (w52 : World),
 (I6 [.int .i64 n77] w52) →
 brB (decide (n77 < x2))
 (∃ I7 : List Value → World → Prop,
 ∃ m4 : List Value → World → Nat,
 (I7 [.int .i64 0] w52) ∧
 ∀ (n78 : Int) (w53 : World),
 (I7 [.int .i64 n78] w53) →
 brB (decide (n78 < x1))
 (∃ I8 : List Value → World → Prop,
 (∃ I9 : List Value → World → Prop,
 ((Calls P F.ref09_Pixel #[.agg #[.int .i64 x1, .int .i64 x2, .slice sa1 sl1 sc1], .int .i64 n78, .int .i64 n77] (w53.drew) fun e21 w54 =>
 ∃ n79 n80 n81 n82 : Int,
 (e21 = .returned (.agg #[.int .u16 n79, .int .u16 n80, .int .u16 n81, .int .u16 n82])) ∧
 (Keep ([k2, k1]) (w53.drew) w54) ∧
 (Keeps (w53.drew) w54) ∧
 (Calls P F.ref09_Pixel #[.agg #[.int .i64 x3, .int .i64 x4, .slice sa2 sl2 sc2], .int .i64 n78, .int .i64 n77] w54 fun e22 w55 =>
 ∃ n83 n84 n85 n86 : Int,
 (e22 = .returned (.agg #[.int .u16 n83, .int .u16 n84, .int .u16 n85, .int .u16 n86])) ∧
 Keep [k2, k1] w54 w55 ∧
 (∀ k34 : Nat,
 w55.heap.size ≤ k34 →
 ∀ k35 : Nat,
 w55.heap.size ≤ k35 →
 ∀ w56 : World,
 Locl [k35, k34, k2, k1] w55 w56 →
 I9 [.pointer (some { block := k34, off := 0 }), .int .u16 n79, .int .u16 n80, .int .u16 n81, .int .u16 n82, .pointer (some { block := k35, off := 0 }), .int .u16 n83, .int .u16 n84, .int .u16 n85, .int .u16 n86] w56) ∧
 ∀ k36 : Nat,
 w55.heap.size ≤ k36 →
 ∀ k37 : Nat,
 w55.heap.size ≤ k37 →
 ∀ w57 : World,
 Locl [k37, k36, k2, k1] w55 w57 →
 I9 [.pointer (some { block := k37, off := 0 }), .int .u16 n79, .int .u16 n80, .int .u16 n81, .int .u16 n82, .pointer (some { block := k36, off := 0 }), .int .u16 n83, .int .u16 n84, .int .u16 n85, .int .u16 n86] w57) ∧
 (∀ k38 : Nat,
 w54.heap.size ≤ k38 →
 (∀ w58 : World,
 Locl [k38, k2, k1] w54 w58 →
 Calls P F.ref09_Pixel #[.agg #[.int .i64 x3, .int .i64 x4, .slice sa2 sl2 sc2], .int .i64 n78, .int .i64 n77] w58 fun e23 w59 =>
 ∃ n87 n88 n89 n90 : Int,
 (e23 = .returned (.agg #[.int .u16 n87, .int .u16 n88, .int .u16 n89, .int .u16 n90])) ∧
 Keep [k38, k2, k1] w58 w59 ∧
 ∀ k39 : Nat,
 w59.heap.size ≤ k39 →
 ∀ w60 : World,
 Locl [k39, k38, k2, k1] w59 w60 →
 I9 [.pointer (some { block := k38, off := 0 }), .int .u16 n79, .int .u16 n80, .int .u16 n81, .int .u16 n82, .pointer (some { block := k39, off := 0 }), .int .u16 n87, .int .u16 n88, .int .u16 n89, .int .u16 n90] w60) ∧
 ∀ k40 : Nat,
 w54.heap.size ≤ k40 →
 ∀ w61 : World,
 Locl [k40, k38, k2, k1] w54 w61 →
 Calls P F.ref09_Pixel #[.agg #[.int .i64 x3, .int .i64 x4, .slice sa2 sl2 sc2], .int .i64 n78, .int .i64 n77] w61 fun e24 w62 =>
 ∃ n91 n92 n93 n94 : Int,
 (e24 = .returned (.agg #[.int .u16 n91, .int .u16 n92, .int .u16 n93, .int .u16 n94])) ∧
 Keep [k40, k38, k2, k1] w61 w62 ∧
 ∀ w63 : World,
 Locl [k40, k38, k2, k1] w62 w63 →
 I9 [.pointer (some { block := k38, off := 0 }), .int .u16 n79, .int .u16 n80, .int .u16 n81, .int .u16 n82, .pointer (some { block := k40, off := 0 }), .int .u16 n91, .int .u16 n92, .int .u16 n93, .int .u16 n94] w63) ∧
 ∀ k41 : Nat,
 w54.heap.size ≤ k41 →
 (∀ w64 : World,
 Locl [k41, k2, k1] w54 w64 →
 Calls P F.ref09_Pixel #[.agg #[.int .i64 x3, .int .i64 x4, .slice sa2 sl2 sc2], .int .i64 n78, .int .i64 n77] w64 fun e25 w65 =>
 ∃ n95 n96 n97 n98 : Int,
 (e25 = .returned (.agg #[.int .u16 n95, .int .u16 n96, .int .u16 n97, .int .u16 n98])) ∧
 Keep [k41, k2, k1] w64 w65 ∧
 ∀ k42 : Nat,
 w65.heap.size ≤ k42 →
 ∀ w66 : World,
 Locl [k42, k41, k2, k1] w65 w66 →
 I9 [.pointer (some { block := k42, off := 0 }), .int .u16 n79, .int .u16 n80, .int .u16 n81, .int .u16 n82, .pointer (some { block := k41, off := 0 }), .int .u16 n95, .int .u16 n96, .int .u16 n97, .int .u16 n98] w66) ∧
 ∀ k43 : Nat,
 w54.heap.size ≤ k43 →
 ∀ w67 : World,
 Locl [k43, k41, k2, k1] w54 w67 →
 Calls P F.ref09_Pixel #[.agg #[.int .i64 x3, .int .i64 x4, .slice sa2 sl2 sc2], .int .i64 n78, .int .i64 n77] w67 fun e26 w68 =>
 ∃ n99 n100 n101 n102 : Int,
 (e26 = .returned (.agg #[.int .u16 n99, .int .u16 n100, .int .u16 n101, .int .u16 n102])) ∧
 Keep [k43, k41, k2, k1] w67 w68 ∧
 ∀ w69 : World,
 Locl [k43, k41, k2, k1] w68 w69 →
 I9 [.pointer (some { block := k43, off := 0 }), .int .u16 n79, .int .u16 n80, .int .u16 n81, .int .u16 n82, .pointer (some { block := k41, off := 0 }), .int .u16 n99, .int .u16 n100, .int .u16 n101, .int .u16 n102] w69) ∧
 (∀ k44 : Nat,
 (w53.drew.heap.size ≤ k44) →
 (∀ w70 : World,
 (Locl ([k44, k2, k1]) (w53.drew) w70) →
 Calls P F.ref09_Pixel #[.agg #[.int .i64 x1, .int .i64 x2, .slice sa1 sl1 sc1], .int .i64 n78, .int .i64 n77] w70 fun e27 w71 =>
 ∃ n103 n104 n105 n106 : Int,
 (e27 = .returned (.agg #[.int .u16 n103, .int .u16 n104, .int .u16 n105, .int .u16 n106])) ∧
 Keep [k44, k2, k1] w70 w71 ∧
 (Keeps w70 w71) ∧
 (Calls P F.ref09_Pixel #[.agg #[.int .i64 x3, .int .i64 x4, .slice sa2 sl2 sc2], .int .i64 n78, .int .i64 n77] w71 fun e28 w72 =>
 ∃ n107 n108 n109 n110 : Int,
 (e28 = .returned (.agg #[.int .u16 n107, .int .u16 n108, .int .u16 n109, .int .u16 n110])) ∧
 Keep [k44, k2, k1] w71 w72 ∧
 ∀ k45 : Nat,
 w72.heap.size ≤ k45 →
 ∀ w73 : World,
 Locl [k45, k44, k2, k1] w72 w73 →
 I9 [.pointer (some { block := k44, off := 0 }), .int .u16 n103, .int .u16 n104, .int .u16 n105, .int .u16 n106, .pointer (some { block := k45, off := 0 }), .int .u16 n107, .int .u16 n108, .int .u16 n109, .int .u16 n110] w73) ∧
 ∀ k46 : Nat,
 w71.heap.size ≤ k46 →
 ∀ w74 : World,
 Locl [k46, k44, k2, k1] w71 w74 →
 Calls P F.ref09_Pixel #[.agg #[.int .i64 x3, .int .i64 x4, .slice sa2 sl2 sc2], .int .i64 n78, .int .i64 n77] w74 fun e29 w75 =>
 ∃ n111 n112 n113 n114 : Int,
 (e29 = .returned (.agg #[.int .u16 n111, .int .u16 n112, .int .u16 n113, .int .u16 n114])) ∧
 Keep [k46, k44, k2, k1] w74 w75 ∧
 ∀ w76 : World,
 Locl [k46, k44, k2, k1] w75 w76 →
 I9 [.pointer (some { block := k44, off := 0 }), .int .u16 n103, .int .u16 n104, .int .u16 n105, .int .u16 n106, .pointer (some { block := k46, off := 0 }), .int .u16 n111, .int .u16 n112, .int .u16 n113, .int .u16 n114] w76) ∧
 ∀ k47 : Nat,
 (w53.drew.heap.size ≤ k47) →
 ∀ w77 : World,
 (Locl ([k47, k44, k2, k1]) (w53.drew) w77) →
 Calls P F.ref09_Pixel #[.agg #[.int .i64 x1, .int .i64 x2, .slice sa1 sl1 sc1], .int .i64 n78, .int .i64 n77] w77 fun e30 w78 =>
 ∃ n115 n116 n117 n118 : Int,
 (e30 = .returned (.agg #[.int .u16 n115, .int .u16 n116, .int .u16 n117, .int .u16 n118])) ∧
 Keep [k47, k44, k2, k1] w77 w78 ∧
 (Keeps w77 w78) ∧
 Calls P F.ref09_Pixel #[.agg #[.int .i64 x3, .int .i64 x4, .slice sa2 sl2 sc2], .int .i64 n78, .int .i64 n77] w78 fun e31 w79 =>
 ∃ n119 n120 n121 n122 : Int,
 (e31 = .returned (.agg #[.int .u16 n119, .int .u16 n120, .int .u16 n121, .int .u16 n122])) ∧
 Keep [k47, k44, k2, k1] w78 w79 ∧
 ∀ w80 : World,
 Locl [k47, k44, k2, k1] w79 w80 →
 I9 [.pointer (some { block := k44, off := 0 }), .int .u16 n115, .int .u16 n116, .int .u16 n117, .int .u16 n118, .pointer (some { block := k47, off := 0 }), .int .u16 n119, .int .u16 n120, .int .u16 n121, .int .u16 n122] w80) ∧
 ∀ k48 : Nat,
 (w53.drew.heap.size ≤ k48) →
 (∀ w81 : World,
 (Locl ([k48, k2, k1]) (w53.drew) w81) →
 Calls P F.ref09_Pixel #[.agg #[.int .i64 x1, .int .i64 x2, .slice sa1 sl1 sc1], .int .i64 n78, .int .i64 n77] w81 fun e32 w82 =>
 ∃ n123 n124 n125 n126 : Int,
 (e32 = .returned (.agg #[.int .u16 n123, .int .u16 n124, .int .u16 n125, .int .u16 n126])) ∧
 Keep [k48, k2, k1] w81 w82 ∧
 (Keeps w81 w82) ∧
 (Calls P F.ref09_Pixel #[.agg #[.int .i64 x3, .int .i64 x4, .slice sa2 sl2 sc2], .int .i64 n78, .int .i64 n77] w82 fun e33 w83 =>
 ∃ n127 n128 n129 n130 : Int,
 (e33 = .returned (.agg #[.int .u16 n127, .int .u16 n128, .int .u16 n129, .int .u16 n130])) ∧
 Keep [k48, k2, k1] w82 w83 ∧
 ∀ k49 : Nat,
 w83.heap.size ≤ k49 →
 ∀ w84 : World,
 Locl [k49, k48, k2, k1] w83 w84 →
 I9 [.pointer (some { block := k49, off := 0 }), .int .u16 n123, .int .u16 n124, .int .u16 n125, .int .u16 n126, .pointer (some { block := k48, off := 0 }), .int .u16 n127, .int .u16 n128, .int .u16 n129, .int .u16 n130] w84) ∧
 ∀ k50 : Nat,
 w82.heap.size ≤ k50 →
 ∀ w85 : World,
 Locl [k50, k48, k2, k1] w82 w85 →
 Calls P F.ref09_Pixel #[.agg #[.int .i64 x3, .int .i64 x4, .slice sa2 sl2 sc2], .int .i64 n78, .int .i64 n77] w85 fun e34 w86 =>
 ∃ n131 n132 n133 n134 : Int,
 (e34 = .returned (.agg #[.int .u16 n131, .int .u16 n132, .int .u16 n133, .int .u16 n134])) ∧
 Keep [k50, k48, k2, k1] w85 w86 ∧
 ∀ w87 : World,
 Locl [k50, k48, k2, k1] w86 w87 →
 I9 [.pointer (some { block := k50, off := 0 }), .int .u16 n123, .int .u16 n124, .int .u16 n125, .int .u16 n126, .pointer (some { block := k48, off := 0 }), .int .u16 n131, .int .u16 n132, .int .u16 n133, .int .u16 n134] w87) ∧
 ∀ k51 : Nat,
 (w53.drew.heap.size ≤ k51) →
 ∀ w88 : World,
 (Locl ([k51, k48, k2, k1]) (w53.drew) w88) →
 Calls P F.ref09_Pixel #[.agg #[.int .i64 x1, .int .i64 x2, .slice sa1 sl1 sc1], .int .i64 n78, .int .i64 n77] w88 fun e35 w89 =>
 ∃ n135 n136 n137 n138 : Int,
 (e35 = .returned (.agg #[.int .u16 n135, .int .u16 n136, .int .u16 n137, .int .u16 n138])) ∧
 Keep [k51, k48, k2, k1] w88 w89 ∧
 (Keeps w88 w89) ∧
 Calls P F.ref09_Pixel #[.agg #[.int .i64 x3, .int .i64 x4, .slice sa2 sl2 sc2], .int .i64 n78, .int .i64 n77] w89 fun e36 w90 =>
 ∃ n139 n140 n141 n142 : Int,
 (e36 = .returned (.agg #[.int .u16 n139, .int .u16 n140, .int .u16 n141, .int .u16 n142])) ∧
 Keep [k51, k48, k2, k1] w89 w90 ∧
 ∀ w91 : World,
 Locl [k51, k48, k2, k1] w90 w91 →
 I9 [.pointer (some { block := k51, off := 0 }), .int .u16 n135, .int .u16 n136, .int .u16 n137, .int .u16 n138, .pointer (some { block := k48, off := 0 }), .int .u16 n139, .int .u16 n140, .int .u16 n141, .int .u16 n142] w91) ∧
 ∀ (k52 : Nat) (n143 n144 n145 n146 : Int) (k53 : Nat) (n147 n148 n149 n150 : Int) (w92 : World),
 (I9 [.pointer (some { block := k52, off := 0 }), .int .u16 n143, .int .u16 n144, .int .u16 n145, .int .u16 n146, .pointer (some { block := k53, off := 0 }), .int .u16 n147, .int .u16 n148, .int .u16 n149, .int .u16 n150] w92) →
 Calls P F.ref14_Clear #[.agg #[.int .u16 n143, .int .u16 n144, .int .u16 n145, .int .u16 n146]] w92 fun e37 w93 =>
 ∃ c6 : Bool,
 (e37 = .returned (.bool c6)) ∧
 Keep [k53, k52, k2, k1] w92 w93 ∧
 brB (c6)
 (I8 [] w93)
 (Calls P F.ref14_Eight #[.agg #[.int .u16 n143, .int .u16 n144, .int .u16 n145, .int .u16 n146]] w93 fun e38 w94 =>
 ∃ n151 n152 n153 n154 : Int,
 (e38 = .returned (.agg #[.int .u16 n151, .int .u16 n152, .int .u16 n153, .int .u16 n154])) ∧
 Keep [k53, k52, k2, k1] w93 w94 ∧
 ∀ k54 : Nat,
 w94.heap.size ≤ k54 →
 ∀ w95 : World,
 Locl [k54, k53, k52, k2, k1] w94 w95 →
 Calls P F.ref08_Nearest #[.slice p1 k3 k4, .agg #[.int .u16 n151, .int .u16 n152, .int .u16 n153, .int .u16 n154]] w95 fun e39 w96 =>
 ∃ n155 : Int,
 (e39 = .returned (.int .i64 n155)) ∧
 Keep [k54, k53, k52, k2, k1] w95 w96 ∧
 brB (decide ((k32 : Int) ≤ n76))
 (brB (!(decide (n147 = n151) && (decide (n148 = n152) && (decide (n149 = n153) && (decide (n150 = n154) && true)))))
 (R (.returned (.bool false)) w96.drew)
 (idx (p1) (k3) (n155) (4) fun a1 =>
 ∃ n156 n157 n158 n159 : Int,
 (w96.drew.cell? a1 = some (.int .u16 n156)) ∧
 (w96.drew.cell? (a1.add 1) = some (.int .u16 n157)) ∧
 (w96.drew.cell? (a1.add 2) = some (.int .u16 n158)) ∧
 (w96.drew.cell? (a1.add 3) = some (.int .u16 n159)) ∧
 Calls P F.ref08_Far #[.agg #[.int .u16 n156, .int .u16 n157, .int .u16 n158, .int .u16 n159], .agg #[.int .u16 n151, .int .u16 n152, .int .u16 n153, .int .u16 n154]] (w96.drew) fun e40 w97 =>
 ∃ n160 : Int,
 (e40 = .returned (.int .i64 n160)) ∧
 (Keep ([k54, k53, k52, k2, k1]) (w96.drew) w97) ∧
 (Keeps (w96.drew) w97) ∧
 Calls P F.ref08_Far #[.agg #[.int .u16 n147, .int .u16 n148, .int .u16 n149, .int .u16 n150], .agg #[.int .u16 n151, .int .u16 n152, .int .u16 n153, .int .u16 n154]] w97 fun e41 w98 =>
 ∃ n161 : Int,
 (e41 = .returned (.int .i64 n161)) ∧
 Keep [k54, k53, k52, k2, k1] w97 w98 ∧
 brB (n160 != n161)
 (R (.returned (.bool false)) w98)
 (I8 [] w98)))
 (idx (p1) (k3) (n155) (4) fun a2 =>
 ∃ n162 n163 n164 n165 : Int,
 (w96.drew.cell? a2 = some (.int .u16 n162)) ∧
 (w96.drew.cell? (a2.add 1) = some (.int .u16 n163)) ∧
 (w96.drew.cell? (a2.add 2) = some (.int .u16 n164)) ∧
 (w96.drew.cell? (a2.add 3) = some (.int .u16 n165)) ∧
 Calls P F.ref08_Far #[.agg #[.int .u16 n162, .int .u16 n163, .int .u16 n164, .int .u16 n165], .agg #[.int .u16 n151, .int .u16 n152, .int .u16 n153, .int .u16 n154]] (w96.drew) fun e42 w99 =>
 ∃ n166 : Int,
 (e42 = .returned (.int .i64 n166)) ∧
 (Keep ([k54, k53, k52, k2, k1]) (w96.drew) w99) ∧
 (Keeps (w96.drew) w99) ∧
 Calls P F.ref08_Far #[.agg #[.int .u16 n147, .int .u16 n148, .int .u16 n149, .int .u16 n150], .agg #[.int .u16 n151, .int .u16 n152, .int .u16 n153, .int .u16 n154]] w99 fun e43 w100 =>
 ∃ n167 : Int,
 (e43 = .returned (.int .i64 n167)) ∧
 Keep [k54, k53, k52, k2, k1] w99 w100 ∧
 brB (n166 != n167)
 (R (.returned (.bool false)) w100)
 (I8 [] w100)))) ∧
 ∀ w101 : World,
 (I8 [] w101) →
 (I7 [.int .i64 (IntKind.i64.wrap (n78 + 1))] w101) ∧
 m4 [.int .i64 (IntKind.i64.wrap (n78 + 1))] w101 < m4 [.int .i64 n78] w53)
 ((I6 [.int .i64 (IntKind.i64.wrap (n77 + 1))] w53) ∧
 m3 [.int .i64 (IntKind.i64.wrap (n77 + 1))] w53 < m3 [.int .i64 n77] w52))
 (R (.returned (.bool true)) w52)))))
theorem calls_ref15_May (x1 x2 : Int) (sa1 : Option Addr) (sl1 sc1 : Nat) (x3 x4 : Int) (sa2 : Option Addr) (sl2 sc2 : Nat) (w : World) (R : Ending → World → Prop) (h : vc_ref15_May x1 x2 sa1 sl1 sc1 x3 x4 sa2 sl2 sc2 w R) : Calls P F.ref15_May #[.agg #[.int .i64 x1, .int .i64 x2, .slice sa1 sl1 sc1], .agg #[.int .i64 x3, .int .i64 x4, .slice sa2 sl2 sc2]] w R :=
  calls_of_vc (ac := ac_ref15_May) mixed Try.func11 (by kernel_rfl) (cast (by unfold vc_ref15_May FnVc; kernel_rfl) h)
end Go.Proofs.Ytiiaihiliimcoaa
namespace Go.Proofs.Ytiiaihiliimcoaa
open Go Go.Vc Go.RowKit Go.Qn
set_option maxRecDepth 100000
set_option maxHeartbeats 8000000
section
variable {w u u' : World} {f : Nat → Nat} {L : List Nat} {l T : List Tg}
theorem St.loc {bs : List Nat} {X : World → Prop} (h : Ths w u f L l) (hb : ∀ b, b ∈ bs → b ∈ L ∨ u.heap.size ≤ b) (hX : ∀ u' f', Ths w u' f' bs l → X u') : ∀ u', Locl bs u u' → X u' := fun u' hL =>
 hX u' _ ((h.locl hL hb).mono (fun b hb => List.mem_append_left _ hb) fun t ht => ht)
theorem St.pix (h : Ths w u f L l) {c len cap : Nat} {p : Option Addr} {xs : List Int} (ht : (⟨c, p, len, cap, 1, px xs⟩ : Tg) ∈ l) : Img u p len xs ∧ len ≤ cap :=
 ⟨⟨(h.get ht).sl, by have := (h.get ht).len; rwa [px_length] at this⟩, (h.get ht).room⟩
theorem St.start (w : World) : Ths w w (fun _ => 0) [] [] := ⟨⟨Ext.refl w, fun _ h => by cases h⟩, fun _ h => by cases h⟩
theorem St.own {b : Option Addr} {len cap : Nat} {xs : List Int} {R : Ending → World → Prop} (h : Ths w u f L T) (hi : BytesOk w b len cap xs)
  (hR : ∀ p c u' f', Ext u u' → Ths w u' f' L (⟨1, p, len, c, 1, bytes xs⟩ :: T) → R (.returned (.slice p len c)) u') : Calls P F.law15_own #[.slice b len cap] u R := by
 have := hi.sz
 exact bown_spec (hi.sl.ext h.pal.ext) hi.long (by omega) fun p c u' hE ho => hR p c u' _ hE (h.new (i := 1) hE (by decide) ho)
theorem OwnS.new {base : Option Addr} {len cap sz : Nat} {vs : List Value} (h : OwnS (fun i => u.heap.size ≤ i) u' base len cap sz vs) : Ow u.heap.size u'.heap.size u' base len cap sz vs := h.own fun i hi hl => ⟨hi, hl⟩
theorem St.dec {i : Nat} {p : Option Addr} {len cap : Nat} {xs : List Int} {most : Int} {R : Ending → World → Prop} (h : Ths w u f L T) (hs : Sl u.heap.size u p (bytes xs)) (hl : len = xs.length) (hc : len ≤ cap) (hf : Bs xs) (hi : i ≠ 0)
  (hR : ∀ p c u' f', Ext u u' → Ths w u' f' L (⟨i, p, (decR xs most).2.2.1.length, c, 1, px (decR xs most).2.2.1⟩ :: T) → R (.returned (.tuple #[.agg #[i64 (decR xs most).1, i64 (decR xs most).2.1, .slice p (decR xs most).2.2.1.length c], i64 (decR xs most).2.2.2])) u') :
  Calls P F.gif_Decode #[.slice p len cap, i64 most] u R :=
 gDecode_spec hs hl hc hf fun p c u' hE ho => hR p c u' _ hE (h.new (i := i) hE hi (OwnS.new ho))
theorem St.enc {i c0 : Nat} {p : Option Addr} {len cap : Nat} {W H : Int} {xs : List Int} {R : Ending → World → Prop} (h : Ths w u f L T) (ht : (⟨c0, p, len, cap, 1, px xs⟩ : Tg) ∈ T) (hf : PxOk xs) (hi : i ≠ 0)
  (hR : ∀ q c u' f', Ext u u' → Ths w u' f' L (⟨i, q, (encR W H xs).1.length, c, 1, bytes (encR W H xs).1⟩ :: T) → R (.returned (.tuple #[.slice q (encR W H xs).1.length c, i64 (encR W H xs).2])) u') :
  Calls P F.gif_Encode #[.agg #[i64 W, i64 H, .slice p len cap]] u R :=
 Encode_spec (St.pix h ht).1 (St.pix h ht).2 hf fun p c u' hE ho => hR p c u' _ hE (h.new (i := i) hE hi (OwnS.new ho))
theorem St.sl (h : Ths w u f L T) {c len cap sz : Nat} {p : Option Addr} {vs : List Value} (ht : (⟨c, p, len, cap, sz, vs⟩ : Tg) ∈ T) : Sl u.heap.size u p vs := (h.get ht).sl
theorem St.rm (h : Ths w u f L T) {c len cap sz : Nat} {p : Option Addr} {vs : List Value} (ht : (⟨c, p, len, cap, sz, vs⟩ : Tg) ∈ T) : len ≤ cap := (h.get ht).room
theorem St.pixel {p : Option Addr} {len cap : Nat} {W H x y : Int} {xs : List Int} {R : Ending → World → Prop} (h : Ths w u f L T) (hi : Img w p len xs) (hg : good W H xs = true) (hx0 : 0 ≤ x) (hy0 : 0 ≤ y) (hx : x < W) (hy : y < H)
  (hR : ∀ u' f', Ext u u' → Ths w u' f' L T → R (.returned (.agg (co (colAt xs (y * W + x).toNat)).toArray)) u') : Calls P F.ref09_Pixel #[.agg #[i64 W, i64 H, .slice p len cap], i64 x, i64 y] u R :=
 refPixel_spec (hi.ext h.pal.ext) hg hx0 hy0 hx hy fun u' hE => hR u' _ hE (h.step hE 0)
theorem St.cols (h : Ths w u f L l) {c len cap : Nat} {p : Option Addr} {xs : List Co} (ht : (⟨c, p, len, cap, 4, cos xs⟩ : Tg) ∈ l) : Sl u.heap.size u p (cos xs) ∧ xs.length = len := by
 have := h.get ht
 have e := this.1
 simp only [cos_length] at e
 exact ⟨this.sl, by omega⟩
end
theorem used_len {xs Y : List Int} : ∀ n, (usedN xs Y n).length ≤ n
 | 0 => Nat.le_refl _
 | n + 1 => by
  have ih := used_len (xs := xs) (Y := Y) n
  have := addC_length (usedN xs Y n) (colAt Y n)
  unfold usedN
  split <;> omega
def twoP (ka kb : Nat) (c d : Co) : List Value := [.pointer (some ⟨ka, 0, none⟩), u16 c.1, u16 c.2.1, u16 c.2.2.1, u16 c.2.2.2, .pointer (some ⟨kb, 0, none⟩), u16 d.1, u16 d.2.1, u16 d.2.2.1, u16 d.2.2.2]
theorem rMay_spec {w : World} {p q : Option Addr} {len cap len' cap' : Nat} {W H : Int} {xs Y : List Int} {R : Ending → World → Prop} (h : Img w p len xs) (hb : good W H xs = true) (hok : PxOk xs) (h' : Img w q len' Y) (hb' : good W H Y = true) (hok' : PxOk Y) (hm : MayOk W H xs Y)
  (hR : ∀ w', Ext w w' → R (.returned (.bool true)) w') : Calls P F.ref15_May #[.agg #[i64 W, i64 H, .slice p len cap], .agg #[i64 W, i64 H, .slice q len' cap']] w R := by
 refine calls_ref15_May _ _ _ _ _ _ _ _ _ _ _ _ ?_
 intro k1 hk1 k2 hk2
 refine brB_f (by simp) ?_
 refine St.loc (St.start w) (by simp; omega) fun w2 f2 H2 => ?_
 refine refGood_spec h'.len fun w3 hE3 => ⟨_, rfl, hE3.keep _, brB_f (by rw [hb']; rfl) ?_⟩
 have H3 := H2.step hE3 0
 obtain ⟨hg, hxl⟩ := good_iff.1 hb
 obtain ⟨g1, g2, g3, g4, g5⟩ := gfits_iff.1 hg
 have hfw := few_range xs
 have h0WH : 0 ≤ W * H := Int.mul_nonneg (by omega) (by omega)
 refine ⟨fun vs u => ∃ (y : Int) (q : Option Addr) (c : Nat) (f : Nat → Nat), vs = [.bool (goneU xs (y * W).toNat), .slice q (usedN xs Y (y * W).toNat).length c, i64 y] ∧ 0 ≤ y ∧ y ≤ H ∧ Ths w u f [k2, k1] [⟨1, q, (usedN xs Y (y * W).toNat).length, c, 4, cos (usedN xs Y (y * W).toNat)⟩],
  fun vs _ => match vs with | [_, _, .int _ y] => (H - y).toNat | _ => 0, ⟨0, none, 0, _, by simp [usedN, goneU], Int.le_refl _, by omega, H3.pal, fun t ht => ?_⟩, fun c2 p1 k3 k4 n1 w4 hI => ?_⟩
 ·simp only [Int.zero_mul, Int.toNat_zero, List.mem_cons, List.not_mem_nil, or_false] at ht
  subst ht
  exact ⟨by show (1 : Nat) ≠ 0; omega, OwnS.nil _ _ _ _⟩
 obtain ⟨y, q1, c1, f4, hv, y0, y1, H4⟩ := hI
 simp only [List.cons.injEq, Value.int.injEq, Value.slice.injEq, Value.bool.injEq, true_and, and_true] at hv
 obtain ⟨rfl, ⟨rfl, rfl, rfl⟩, rfl⟩ := hv
 refine brB_i (fun hlt => ?_) (fun hge => ?_)
 ·have hlt : n1 < H := by simpa using hlt
  have hyW : 0 ≤ n1 * W := Int.mul_nonneg y0 (by omega)
  have hyW' : n1 * W + W ≤ W * H := by
   rw [show n1 * W + W = (n1 + 1) * W by rw [Int.add_mul]; omega, Int.mul_comm W H]
   exact Int.mul_le_mul_of_nonneg_right (by omega) (by omega)
  refine ⟨fun vs u => ∃ (x : Int) (q : Option Addr) (c : Nat) (f : Nat → Nat), vs = [.bool (goneU xs (n1 * W + x).toNat), .slice q (usedN xs Y (n1 * W + x).toNat).length c, i64 x] ∧ 0 ≤ x ∧ x ≤ W ∧ Ths w u f [k2, k1] [⟨1, q, (usedN xs Y (n1 * W + x).toNat).length, c, 4, cos (usedN xs Y (n1 * W + x).toNat)⟩],
   fun vs _ => match vs with | [_, _, .int _ x] => (W - x).toNat | _ => 0, ⟨0, p1, k4, f4, by simp, Int.le_refl _, by omega, by rw [Int.add_zero]; exact H4⟩, fun c3 p2 k5 k6 n2 w5 hI => ?_⟩
  obtain ⟨x, q3, c3', f5, hv, x0, x1, H5⟩ := hI
  simp only [List.cons.injEq, Value.int.injEq, Value.slice.injEq, Value.bool.injEq, true_and, and_true] at hv
  obtain ⟨rfl, ⟨rfl, rfl, rfl⟩, rfl⟩ := hv
  refine brB_i (fun hlt2 => ?_) (fun hge => ?_)
  ·have hlt2 : n2 < W := by simpa using hlt2
   have hnx : (n1 * W + (n2 + 1)).toNat = (n1 * W + n2).toNat + 1 := by omega
   have hkN : (n1 * W + n2).toNat < (W * H).toNat := by omega
   have hul := @used_len xs Y (n1 * W + n2).toNat
   have H := H5.dr
   have sd : w5.drew.heap.size = w5.heap.size := rfl
   refine ⟨fun vs u => ∃ (q : Option Addr) (c : Nat) (f : Nat → Nat), vs = [.bool (goneU xs ((n1 * W + n2).toNat + 1)), .slice q (usedN xs Y ((n1 * W + n2).toNat + 1)).length c] ∧ Ths w u f [k2, k1] [⟨1, q, (usedN xs Y ((n1 * W + n2).toNat + 1)).length, c, 4, cos (usedN xs Y ((n1 * W + n2).toNat + 1))⟩],
    ⟨fun vs u => ∃ (ka kb : Nat) (f : Nat → Nat), vs = twoP ka kb (colAt xs (n1 * W + n2).toNat) (colAt Y (n1 * W + n2).toNat) ∧ Ths w u f [kb, ka, k2, k1] [⟨1, p2, (usedN xs Y (n1 * W + n2).toNat).length, k6, 4, cos (usedN xs Y (n1 * W + n2).toNat)⟩], ?_, ?_⟩, ?_⟩
   ·repeat' first
     | (refine St.loc (by assumption) (by simp <;> omega) fun u f H => ?_)
     | (refine St.pixel H h hb x0 y0 hlt2 hlt fun u f hE H => ⟨_, _, _, _, rfl, hE.keep _, ?_⟩)
     | (refine St.pixel H h' hb' x0 y0 hlt2 hlt fun u f hE H => ⟨_, _, _, _, rfl, hE.keep _, ?_⟩)
     | (refine And.intro (Ext.keeps (by assumption)) ?_)
     | (refine And.intro ?_ ?_)
     | (exact ⟨_, _, _, rfl, Ths.mono (by assumption) (by simp) (by simp)⟩)
     | (intro k hk)
   ·intro k25 n67 n68 n69 n70 k26 n71 n72 n73 n74 w44 hI
    obtain ⟨ka, kb, f44, hv, H44⟩ := hI
    simp only [twoP, List.cons.injEq, Value.int.injEq, Value.pointer.injEq, Option.some.injEq, Addr.mk.injEq, true_and, and_true] at hv
    obtain ⟨rfl, rfl, rfl, rfl, rfl, rfl, rfl, rfl, rfl, rfl⟩ := hv
    have hgs : goneU xs ((n1 * W + n2).toNat + 1) = (goneU xs (n1 * W + n2).toNat || clearC (colAt xs (n1 * W + n2).toNat)) := goneU_succ xs _
    have hdo := colAt_ok hok' (n1 * W + n2).toNat
    generalize hk : (n1 * W + n2).toNat = k at *
    refine rClear_spec (c := colAt xs k) fun w45 hE45 => ⟨_, rfl, hE45.keep _, ?_⟩
    have H45 := H44.step hE45 0
    refine brB_i (fun hc => ?_) (fun hc => ?_)
    ·rw [hm.clear k hkN hc]
     refine brB_f (by decide) ?_
     rw [hgs, hc, Bool.or_true, usedN, if_pos hc]
     exact ⟨p2, k6, _, rfl, H45.mono (by simp) (fun t ht => ht)⟩
    ·have hc : clearC (colAt xs k) = false := by simpa using hc
     have hs := hm.solid k hkN hc
     refine brB_f (by simp [hs]) ?_
     obtain ⟨s45, -⟩ := St.cols H45 (List.Mem.head _)
     refine Place2_spec (c := colAt Y k) s45 rfl (by omega) fun n w46 hE46 hn => ⟨_, rfl, hE46.keep _, ?_⟩
     have H46 := H45.step hE46 0
     rw [hgs, hc, Bool.or_false, usedN, if_neg (by rw [hc]; decide)]
     rcases hn with ⟨hn, hmem⟩ | ⟨j, rfl, hj, hje, -⟩
     ·refine brB_t (by simpa using hn) ?_
      intro k27 hk27
      refine St.loc H46 (by simp <;> omega) fun w47 f47 H47 => ?_
      refine Ths.app H47 (by simp) (by simp [blocks]) rfl rfl (by show ((usedN xs Y k).length + 1) * 8 ≤ _; omega) (by show (usedN xs Y k).length + 1 < _; omega) fun p3 c3 w48 f48 H48 => ?_
      rw [addC_new hmem]
      refine ⟨p3, c3, f48, by simp, ?_⟩
      rw [cos_append, cos_one, List.length_append]
      exact H48.mono (by simp) (fun t ht => ht)
     ·refine brB_f (by simp) ?_
      have hmem : colAt Y k ∈ usedN xs Y k := by rw [← hje]; exact getD_mem hj
      rw [addC_old hmem]
      exact ⟨p2, k6, _, rfl, H46.mono (by simp) (fun t ht => ht)⟩
   ·intro c5 p4 k30 k31 w49 hI
    obtain ⟨q5, c5', f49, hv, H49⟩ := hI
    simp only [List.cons.injEq, Value.bool.injEq, Value.slice.injEq, true_and, and_true] at hv
    obtain ⟨rfl, rfl, rfl, rfl⟩ := hv
    rw [w64 (x := n2 + 1) (by omega) (by omega)]
    exact ⟨⟨n2 + 1, _, _, _, by rw [hnx], by omega, by omega, by rw [hnx]; exact H49⟩, by show (W - (n2 + 1)).toNat < (W - n2).toNat; omega⟩
  ·have hge : n2 = W := by simp at hge; omega
   subst hge
   rw [w64 (x := n1 + 1) (by omega) (by omega)]
   have e : (n1 * n2 + n2) = (n1 + 1) * n2 := by rw [Int.add_mul]; omega
   rw [e] at H5 ⊢
   exact ⟨⟨n1 + 1, _, _, _, rfl, by omega, by omega, H5⟩, by show (H - (n1 + 1)).toNat < (H - n1).toNat; omega⟩
 have hge : n1 = H := by simp at hge; omega
 subst hge
 rw [Int.mul_comm n1 W] at H4 ⊢
 have hgone : goneU xs (W * n1).toNat = goneM xs := by
  unfold goneM
  rw [show xs.length / 4 = (W * n1).toNat by omega]
 rw [hgone]
 generalize hN : (W * n1).toNat = N at *
 have hul := hm.few
 rw [hN] at hul
 refine ⟨fun vs u => vs = [i64 ((fewG xs : Nat) : Int)] ∧ u = w4, brB_i (fun hg => ⟨by unfold fewG; rw [if_pos hg]; rfl, rfl⟩) (fun hg => ⟨by unfold fewG; rw [if_neg (by rw [hg]; decide)]; rfl, rfl⟩), fun n76 w50 hI => ?_⟩
 obtain ⟨hv, rfl⟩ := hI
 obtain rfl : n76 = ((fewG xs : Nat) : Int) := by simpa using hv
 refine rMet_spec (h.ext H4.pal.ext) hb hok (by omega) fun p5 c5 w51 hf51 => ⟨_, _, _, rfl, hf51.ext.keep _, ?_⟩
 have H51 := H4.step hf51.ext 0
 refine brB_f (by simp; omega) ?_
 have hown : (metN xs (fewG xs) (W * n1).toNat).length ≤ fewG xs ↔ (fullN xs (W * n1).toNat).length ≤ fewG xs := by
  rw [met_full, List.length_take]; omega
 generalize (metN xs (fewG xs) (W * n1).toNat).length = ml at *
 have hclear := hm.clear
 have hsolid := hm.solid
 have hownc := hm.own
 have hnear := hm.near
 rw [hN] at hclear hsolid hownc hnear hown
 generalize hU : usedN xs Y N = U at *
 refine ⟨fun vs u => ∃ (y : Int) (f : Nat → Nat), vs = [i64 y] ∧ 0 ≤ y ∧ y ≤ n1 ∧ Ths w u f [k2, k1] [⟨1, p1, U.length, k4, 4, cos U⟩],
  fun vs _ => match vs with | [.int _ y] => (n1 - y).toNat | _ => 0, ⟨0, _, rfl, Int.le_refl _, by omega, H51⟩, fun n77 w52 hI => ?_⟩
 obtain ⟨y, f52, hv, y0, y1, H52⟩ := hI
 obtain rfl : n77 = y := by simpa using hv
 refine brB_i (fun hlt => ?_) (fun hge => hR w52 H52.pal.ext)
 have hlt : n77 < n1 := by simpa using hlt
 have hyW : 0 ≤ n77 * W := Int.mul_nonneg y0 (by omega)
 have hyW' : n77 * W + W ≤ W * n1 := by
  rw [show n77 * W + W = (n77 + 1) * W by rw [Int.add_mul]; omega, Int.mul_comm W n1]
  exact Int.mul_le_mul_of_nonneg_right (by omega) (by omega)
 refine ⟨fun vs u => ∃ (x : Int) (f : Nat → Nat), vs = [i64 x] ∧ 0 ≤ x ∧ x ≤ W ∧ Ths w u f [k2, k1] [⟨1, p1, U.length, k4, 4, cos U⟩],
  fun vs _ => match vs with | [.int _ x] => (W - x).toNat | _ => 0, ⟨0, _, rfl, Int.le_refl _, by omega, H52⟩, fun n78 w53 hI => ?_⟩
 obtain ⟨x, f53, hv, x0, x1, H53⟩ := hI
 obtain rfl : n78 = x := by simpa using hv
 refine brB_i (fun hlt2 => ?_) (fun hge => ?_)
 rotate_left
 ·rw [w64 (x := n77 + 1) (by omega) (by omega)]
  exact ⟨⟨n77 + 1, _, rfl, by omega, by omega, H53⟩, by show (n1 - (n77 + 1)).toNat < (n1 - n77).toNat; omega⟩
 have hlt2 : n78 < W := by simpa using hlt2
 have hkN : (n77 * W + n78).toNat < N := by omega
 have H := H53.dr
 have sd : w53.drew.heap.size = w53.heap.size := rfl
 refine ⟨fun vs u => vs = [] ∧ ∃ f, Ths w u f [k2, k1] [⟨1, p1, U.length, k4, 4, cos U⟩],
  ⟨fun vs u => ∃ (ka kb : Nat) (f : Nat → Nat), vs = twoP ka kb (colAt xs (n77 * W + n78).toNat) (colAt Y (n77 * W + n78).toNat) ∧ Ths w u f [kb, ka, k2, k1] [⟨1, p1, U.length, k4, 4, cos U⟩], ?_, ?_⟩, ?_⟩
 ·repeat' first
   | (refine St.loc (by assumption) (by simp <;> omega) fun u f H => ?_)
   | (refine St.pixel H h hb x0 y0 hlt2 hlt fun u f hE H => ⟨_, _, _, _, rfl, hE.keep _, ?_⟩)
   | (refine St.pixel H h' hb' x0 y0 hlt2 hlt fun u f hE H => ⟨_, _, _, _, rfl, hE.keep _, ?_⟩)
   | (refine And.intro (Ext.keeps (by assumption)) ?_)
   | (refine And.intro ?_ ?_)
   | (exact ⟨_, _, _, rfl, Ths.mono (by assumption) (by simp) (by simp)⟩)
   | (intro k hk)
 ·intro k52 n143 n144 n145 n146 k53 n147 n148 n149 n150 w92 hI
  obtain ⟨ka, kb, f92, hv, H92⟩ := hI
  simp only [twoP, List.cons.injEq, Value.int.injEq, Value.pointer.injEq, Option.some.injEq, Addr.mk.injEq, true_and, and_true] at hv
  obtain ⟨rfl, rfl, rfl, rfl, rfl, rfl, rfl, rfl, rfl, rfl⟩ := hv
  generalize hk : (n77 * W + n78).toNat = k at *
  refine rClear_spec (c := colAt xs k) fun w93 hE93 => ⟨_, rfl, hE93.keep _, ?_⟩
  have H93 := H92.step hE93 0
  refine brB_i (fun hc => ⟨rfl, _, H93.mono (by simp) (fun t ht => ht)⟩) (fun hc => ?_)
  have hc : clearC (colAt xs k) = false := by simpa using hc
  refine rEight_spec (c := colAt xs k) (colAt_ok hok k) fun w94 hE94 => ⟨_, _, _, _, rfl, hE94.keep _, fun k54 hk54 => ?_⟩
  refine St.loc (H93.step hE94 0) (by simp <;> omega) fun w95 f95 H95 => ?_
  obtain ⟨s95, -⟩ := St.cols H95 (List.Mem.head _)
  refine rNearest_spec (c := eightC (colAt xs k)) s95 rfl (by omega) fun w96 hE96 => ⟨_, rfl, hE96.keep _, ?_⟩
  have H96 := (H95.step hE96 0).dr
  have hn := hnear k hkN hc
  have hU0 : 0 < U.length := by
   have := used_all (xs := xs) (Y := Y) N k hkN hc
   rw [hU] at this
   exact List.length_pos_of_mem this
  have hnr := near_range hU0 (eightC (colAt xs k))
  obtain ⟨s96, -⟩ := St.cols H96 (List.Mem.head _)
  have tail : idx p1 U.length (nearV U (eightC (colAt xs k))) 4 fun a1 => ∃ n156, ∃ n157, ∃ n158, ∃ n159, (w96.drew.cell? a1 = some (u16 n156)) ∧ (w96.drew.cell? (a1.add 1) = some (u16 n157)) ∧ (w96.drew.cell? (a1.add 2) = some (u16 n158)) ∧ (w96.drew.cell? (a1.add 3) = some (u16 n159)) ∧
    Calls P F.ref08_Far #[.agg #[u16 n156, u16 n157, u16 n158, u16 n159], .agg #[u16 (eightC (colAt xs k)).1, u16 (eightC (colAt xs k)).2.1, u16 (eightC (colAt xs k)).2.2.1, u16 (eightC (colAt xs k)).2.2.2]] (w96.drew) fun e40 w97 =>
     ∃ n160, (e40 = .returned (i64 n160)) ∧ (Keep ([k54, k53, k52, k2, k1]) (w96.drew) w97) ∧ (Keeps (w96.drew) w97) ∧
     Calls P F.ref08_Far #[.agg #[u16 (colAt Y k).1, u16 (colAt Y k).2.1, u16 (colAt Y k).2.2.1, u16 (colAt Y k).2.2.2], .agg #[u16 (eightC (colAt xs k)).1, u16 (eightC (colAt xs k)).2.1, u16 (eightC (colAt xs k)).2.2.1, u16 (eightC (colAt xs k)).2.2.2]] w97 fun e41 w98 =>
     ∃ n161, (e41 = .returned (i64 n161)) ∧ (Keep ([k54, k53, k52, k2, k1]) w97 w98) ∧
     brB (n160 != n161) (R (.returned (.bool false)) w98) (([] : List Value) = [] ∧ ∃ f, Ths w w98 f [k2, k1] [⟨1, p1, U.length, k4, 4, cos U⟩]) := by
   refine cos_elem s96 rfl hnr.1 hnr.2 fun a h1 h2 h3 h4 => ⟨_, _, _, _, h1, h2, h3, h4, ?_⟩
   refine Far_spec (x := U.getD (nearV U (eightC (colAt xs k))).toNat zeroC) (y := eightC (colAt xs k)) fun w97 hE97 => ⟨_, rfl, hE97.keep _, hE97.keeps, ?_⟩
   refine Far_spec (x := colAt Y k) (y := eightC (colAt xs k)) fun w98 hE98 => ⟨_, rfl, hE98.keep _, ?_⟩
   exact brB_f (by rw [hn]; simp) ⟨rfl, _, (((H96.step hE97 0).step hE98 0)).mono (by simp) (fun t ht => ht)⟩
  refine brB_i (fun ho => ?_) (fun ho => tail)
  have ho : ml ≤ fewG xs := by have := of_decide_eq_true ho; omega
  have he := hownc (hown.1 ho) k hkN hc
  refine brB_f ?_ tail
  rw [he]
  simp
 ·intro w101 hI
  obtain ⟨-, f101, H101⟩ := hI
  rw [w64 (x := n78 + 1) (by omega) (by omega)]
  exact ⟨⟨n78 + 1, _, rfl, by omega, by omega, H101⟩, by show (W - (n78 + 1)).toNat < (W - n78).toNat; omega⟩
end Go.Proofs.Ytiiaihiliimcoaa
namespace Go.Proofs.Ytiiaihiliimcoaa
open Go Go.Vc Go.RowKit Go.Qn
set_option maxRecDepth 100000
set_option maxHeartbeats 8000000
theorem again_walk {W : World} {b : Option Addr} {len cap : Nat} {bs : List Int} {R : Ending → World → Prop} (fb : BytesOk W b len cap bs)
  (hR : ∀ w', Ext W w' → R (.returned (.bool true)) w') : Calls P F.law15_GifAgain #[.slice b len cap] W R := by
 have hl := fb.long
 have hz := fb.sz
 refine calls_law15_GifAgain _ _ _ _ _ ?_
 refine wakes_spec fun w1 hE1 => ⟨_, rfl, brB_f rfl ?_⟩
 have H1 := (St.start W).step hE1 0
 refine St.own H1 fb fun p1 c1 w2 f2 hE2 H2 => ⟨_, _, _, rfl, ?_⟩
 refine St.dec H2 (St.sl H2 (List.Mem.head _)) hl (St.rm H2 (List.Mem.head _)) fb.fit (i := 2) (by decide) fun p2 c2 w3 f3 hE3 H3 => ⟨_, _, _, _, _, _, rfl, fun k5 hk5 => ?_⟩
 rcases decR_cases fb.fit 5000 with ⟨e, he0, he⟩ | ⟨wd, ht, xs, he, hb, hp, hmost⟩
 ·rw [he] at H3 ⊢
  refine brB_t (by simpa using he0) ?_
  exact St.loc H3 (by simp <;> omega) fun w4 f4 H4 => to_bool (hR w4 H4.pal.ext) rfl
 rw [he] at H3 ⊢
 simp only at H3 ⊢
 obtain ⟨hxl, hx4, hgf⟩ := good_len hb
 have hg := gfits_iff.1 hgf
 have h0 : 0 ≤ wd * ht := Int.mul_nonneg (by omega) (by omega)
 refine brB_f (by decide) ?_
 refine St.loc H3 (by simp <;> omega) fun w5 f5 H5 => ?_
 obtain ⟨i5, r5⟩ := St.pix H5 (c := 2) (p := p2) (xs := xs) (len := xs.length) (cap := c2) (List.Mem.head _)
 refine copy_spec i5 (by omega) fun p3 c3 w6 hE6 ho6 => ⟨_, _, _, _, _, rfl, hE6.keep _, ?_⟩
 have H6 := H5.new (i := 3) hE6 (by decide) ho6
 have e : encR wd ht xs = (encG wd ht xs, 0) := by unfold encR; rw [if_pos hb]
 refine St.enc H6 (c0 := 3) (by simp) hp.1 (i := 4) (by decide) fun p4 c4 w7 f7 hE7 H7 => ⟨_, _, _, _, rfl, hE7.keep _, ?_⟩
 rw [e] at H7 ⊢
 simp only at H7 ⊢
 have hBs := encG_bs hb
 obtain ⟨Y, hD, hYl, hY⟩ := decR_again (most := 5000) hb hp.1 hmost
 refine St.dec H7 (St.sl H7 (List.Mem.head _)) rfl (St.rm H7 (List.Mem.head _)) hBs (most := 5000) (i := 5) (by decide) fun p5 c5 w8 f8 hE8 H8 => ⟨_, _, _, _, _, _, rfl, hE8.keep _, fun k12 hk12 => ?_⟩
 have hYp := decR_pic hBs 5000
 rw [hD] at H8 hYp ⊢
 simp only at H8 hYp ⊢
 refine St.loc H8 (by simp <;> omega) fun w9 f9 H9 => ?_
 obtain ⟨i9, r9⟩ := St.pix H9 (c := 2) (p := p2) (xs := xs) (len := xs.length) (cap := c2) (by simp)
 refine rMet_spec (most := 255) i9 hb hp.1 (by omega) fun p6 c6 w10 hf10 => ⟨_, _, _, rfl, hf10.ext.keep _, ?_⟩
 have H10 := H9.step hf10.ext 0
 refine brB_t (by decide) ?_
 obtain ⟨i10, -⟩ := St.pix H10 (c := 2) (p := p2) (xs := xs) (len := xs.length) (cap := c2) (by simp)
 obtain ⟨j10, -⟩ := St.pix H10 (c := 5) (p := p5) (xs := Y) (len := Y.length) (cap := c5) (by simp)
 refine refSame_spec j10 i10 (by omega) fun w11 hE11 => ⟨_, rfl, hE11.keep _, ?_⟩
 have H11 := H10.step hE11 0
 refine brB_i (fun _ => hR w11 H11.pal.ext) fun hne => ?_
 have hne : Y ≠ xs := fun e => by simp [same, e] at hne
 have hmany : 255 < (fullN xs (wd * ht).toNat).length := by
  rcases Nat.lt_or_ge 255 (fullN xs (wd * ht).toNat).length with h | h
  ·exact h
  ·exact (hne (again_same hb hp h hYl hY)).elim
 have hml : (metN xs 255 (wd * ht).toNat).length = 256 := by rw [met_full, List.length_take]; omega
 rw [hml]
 refine brB_t (by decide) ?_
 obtain ⟨i11, -⟩ := St.pix H11 (c := 2) (p := p2) (xs := xs) (len := xs.length) (cap := c2) (by simp)
 obtain ⟨j11, -⟩ := St.pix H11 (c := 5) (p := p5) (xs := Y) (len := Y.length) (cap := c5) (by simp)
 have hbY : good wd ht Y = true := by
  unfold good
  rw [Bool.and_eq_true, decide_eq_true_eq]
  exact ⟨hgf, by rw [hYl]; omega⟩
 refine rMay_spec i11 hb hp.1 j11 hbY hYp.1 (may_ok hb hp.1 hY) fun w12 hE12 => ⟨_, rfl, hE12.keep _, hR w12 (H11.pal.ext.trans hE12)⟩
end Go.Proofs.Ytiiaihiliimcoaa
