/- For each function the condition that its code asks, written out (by a program of ours), and the theorem that it suffices: the kernel holds both against the code. -/
import Derived.Test.YtijplekhbpigiaaFns
namespace Go.Proofs.Ytijplekhbpigiaa
open Go Go.Vc
set_option maxRecDepth 100000
set_option linter.unusedVariables false
/-- darkroom/darkroomlaw14.QuantPalettes -/
def vc_law14_QuantPalettes (x1 : Int) (x2 : Int) (sa1 : Option Addr) (sl1 sc1 : Nat) (x3 : Int) (w : World) (R : Ending → World → Prop) : Prop :=
  ∀ k1 : Nat,
  (w.heap.size ≤ k1) →
  ∀ w1 : World,
  (Locl ([k1]) w w1) →
  Calls P F.law14_wakes #[] w1 fun e1 w2 =>
  ∃ c1 : Bool,
  (e1 = Ending.returned (Value.bool c1)) ∧
  (Keep ([k1]) w1 w2) ∧
  brB (!c1)
    (R (Ending.returned (Value.bool false)) w2)
    (Calls P F.law14_own #[Value.agg #[Value.int IntKind.i64 x1, Value.int IntKind.i64 x2, Value.slice sa1 sl1 sc1]] w2 fun e2 w3 =>
    ∃ n1 : Int,
    ∃ n2 : Int,
    ∃ p1 : Option Addr,
    ∃ k2 : Nat,
    ∃ k3 : Nat,
    (e2 = Ending.returned (Value.agg #[Value.int IntKind.i64 n1, Value.int IntKind.i64 n2, Value.slice p1 k2 k3])) ∧
    (Keep ([k1]) w2 w3) ∧
    Calls P F.quant_Palette #[Value.agg #[Value.int IntKind.i64 n1, Value.int IntKind.i64 n2, Value.slice p1 k2 k3], Value.int IntKind.i64 x3] w3 fun e3 w4 =>
    ∃ p2 : Option Addr,
    ∃ k4 : Nat,
    ∃ k5 : Nat,
    ∃ n3 : Int,
    (e3 = Ending.returned (Value.tuple #[Value.slice p2 k4 k5, Value.int IntKind.i64 n3])) ∧
    (Keep ([k1]) w3 w4) ∧
    Calls P F.ref09_Good #[Value.agg #[Value.int IntKind.i64 x1, Value.int IntKind.i64 x2, Value.slice sa1 sl1 sc1]] w4 fun e4 w5 =>
    ∃ c2 : Bool,
    (e4 = Ending.returned (Value.bool c2)) ∧
    (Keep ([k1]) w4 w5) ∧
    brB (!c2)
      (R (Ending.returned (Value.bool (n3 == 6 && (↑k4 : Int) == 0))) w5)
      (brB (decide (x3 < 1) || decide (x3 > 256))
        (R (Ending.returned (Value.bool (n3 == 2 && (↑k4 : Int) == 0))) w5)
        (brB (n3 == 0)
          (Calls P F.ref14_May #[Value.agg #[Value.int IntKind.i64 x1, Value.int IntKind.i64 x2, Value.slice sa1 sl1 sc1], Value.int IntKind.i64 x3, Value.slice p2 k4 k5] w5 fun e5 w6 =>
          ∃ c3 : Bool,
          (e5 = Ending.returned (Value.bool c3)) ∧
          (Keep ([k1]) w5 w6) ∧
          R (Ending.returned (Value.bool c3)) w6)
          (R (Ending.returned (Value.bool false)) w5))))
theorem calls_law14_QuantPalettes (x1 : Int) (x2 : Int) (sa1 : Option Addr) (sl1 sc1 : Nat) (x3 : Int) (w : World) (R : Ending → World → Prop) (h : vc_law14_QuantPalettes x1 x2 sa1 sl1 sc1 x3 w R) : Calls P F.law14_QuantPalettes #[.agg #[.int .i64 x1, .int .i64 x2, .slice sa1 sl1 sc1], .int .i64 x3] w R :=
  calls_of_vc (fn := Try.f3) (ac := ac_law14_QuantPalettes) (args := [.agg #[.int .i64 x1, .int .i64 x2, .slice sa1 sl1 sc1], .int .i64 x3]) mixed Try.func3 (by kernel_rfl) (cast (by unfold vc_law14_QuantPalettes FnVc; kernel_rfl) h)
/-- darkroom/darkroomlaw14.QuantApplies -/
def vc_law14_QuantApplies (x1 : Int) (x2 : Int) (sa1 : Option Addr) (sl1 sc1 : Nat) (sa2 : Option Addr) (sl2 sc2 : Nat) (w : World) (R : Ending → World → Prop) : Prop :=
  ∀ k1 : Nat,
  (w.heap.size ≤ k1) →
  ∀ w1 : World,
  (Locl ([k1]) w w1) →
  Calls P F.law14_wakes #[] w1 fun e1 w2 =>
  ∃ c1 : Bool,
  (e1 = Ending.returned (Value.bool c1)) ∧
  (Keep ([k1]) w1 w2) ∧
  brB (!c1)
    (R (Ending.returned (Value.bool false)) w2)
    (Calls P F.law14_own #[Value.agg #[Value.int IntKind.i64 x1, Value.int IntKind.i64 x2, Value.slice sa1 sl1 sc1]] w2 fun e2 w3 =>
    ∃ n1 : Int,
    ∃ n2 : Int,
    ∃ p1 : Option Addr,
    ∃ k2 : Nat,
    ∃ k3 : Nat,
    (e2 = Ending.returned (Value.agg #[Value.int IntKind.i64 n1, Value.int IntKind.i64 n2, Value.slice p1 k2 k3])) ∧
    (Keep ([k1]) w2 w3) ∧
    Calls P F.law14_colours #[Value.slice sa2 sl2 sc2] w3 fun e3 w4 =>
    ∃ p2 : Option Addr,
    ∃ k4 : Nat,
    ∃ k5 : Nat,
    (e3 = Ending.returned (Value.slice p2 k4 k5)) ∧
    (Keep ([k1]) w3 w4) ∧
    Calls P F.quant_Apply #[Value.agg #[Value.int IntKind.i64 n1, Value.int IntKind.i64 n2, Value.slice p1 k2 k3], Value.slice p2 k4 k5] w4 fun e4 w5 =>
    ∃ n3 : Int,
    ∃ n4 : Int,
    ∃ p3 : Option Addr,
    ∃ k6 : Nat,
    ∃ k7 : Nat,
    ∃ p4 : Option Addr,
    ∃ k8 : Nat,
    ∃ k9 : Nat,
    ∃ n5 : Int,
    (e4 = Ending.returned (Value.tuple #[Value.agg #[Value.int IntKind.i64 n3, Value.int IntKind.i64 n4, Value.slice p3 k6 k7, Value.slice p4 k8 k9], Value.int IntKind.i64 n5])) ∧
    (Keep ([k1]) w4 w5) ∧
    ∀ k10 : Nat,
    (w5.heap.size ≤ k10) →
    ∀ w6 : World,
    (Locl ([k10, k1]) w5 w6) →
    Calls P F.ref14_Apply #[Value.agg #[Value.int IntKind.i64 x1, Value.int IntKind.i64 x2, Value.slice sa1 sl1 sc1], Value.slice sa2 sl2 sc2] w6 fun e5 w7 =>
    ∃ n6 : Int,
    ∃ n7 : Int,
    ∃ p5 : Option Addr,
    ∃ k11 : Nat,
    ∃ k12 : Nat,
    ∃ p6 : Option Addr,
    ∃ k13 : Nat,
    ∃ k14 : Nat,
    ∃ n8 : Int,
    (e5 = Ending.returned (Value.tuple #[Value.agg #[Value.int IntKind.i64 n6, Value.int IntKind.i64 n7, Value.slice p5 k11 k12, Value.slice p6 k13 k14], Value.int IntKind.i64 n8])) ∧
    (Keep ([k10, k1]) w6 w7) ∧
    ∀ k15 : Nat,
    (w7.heap.size ≤ k15) →
    ∀ w8 : World,
    (Locl ([k15, k10, k1]) w7 w8) →
    Calls P F.ref14_SamePaletted #[Value.agg #[Value.int IntKind.i64 n3, Value.int IntKind.i64 n4, Value.slice p3 k6 k7, Value.slice p4 k8 k9], Value.agg #[Value.int IntKind.i64 n6, Value.int IntKind.i64 n7, Value.slice p5 k11 k12, Value.slice p6 k13 k14]] w8 fun e6 w9 =>
    ∃ c2 : Bool,
    (e6 = Ending.returned (Value.bool c2)) ∧
    (Keep ([k15, k10, k1]) w8 w9) ∧
    R (Ending.returned (Value.bool (c2 && n5 == n8))) w9)
theorem calls_law14_QuantApplies (x1 : Int) (x2 : Int) (sa1 : Option Addr) (sl1 sc1 : Nat) (sa2 : Option Addr) (sl2 sc2 : Nat) (w : World) (R : Ending → World → Prop) (h : vc_law14_QuantApplies x1 x2 sa1 sl1 sc1 sa2 sl2 sc2 w R) : Calls P F.law14_QuantApplies #[.agg #[.int .i64 x1, .int .i64 x2, .slice sa1 sl1 sc1], .slice sa2 sl2 sc2] w R :=
  calls_of_vc (fn := Try.f4) (ac := ac_law14_QuantApplies) (args := [.agg #[.int .i64 x1, .int .i64 x2, .slice sa1 sl1 sc1], .slice sa2 sl2 sc2]) mixed Try.func4 (by kernel_rfl) (cast (by unfold vc_law14_QuantApplies FnVc; kernel_rfl) h)
/-- darkroom/darkroomlaw14.QuantOwn -/
def vc_law14_QuantOwn (x1 : Int) (x2 : Int) (sa1 : Option Addr) (sl1 sc1 : Nat) (sa2 : Option Addr) (sl2 sc2 : Nat) (x3 : Int) (w : World) (R : Ending → World → Prop) : Prop :=
  ∀ k1 : Nat,
  (w.heap.size ≤ k1) →
  ∀ w1 : World,
  (Locl ([k1]) w w1) →
  Calls P F.law14_wakes #[] w1 fun e1 w2 =>
  ∃ c1 : Bool,
  (e1 = Ending.returned (Value.bool c1)) ∧
  (Keep ([k1]) w1 w2) ∧
  brB (!c1)
    (R (Ending.returned (Value.bool false)) w2)
    (Calls P F.law14_own #[Value.agg #[Value.int IntKind.i64 x1, Value.int IntKind.i64 x2, Value.slice sa1 sl1 sc1]] w2 fun e2 w3 =>
    ∃ n1 : Int,
    ∃ n2 : Int,
    ∃ p1 : Option Addr,
    ∃ k2 : Nat,
    ∃ k3 : Nat,
    (e2 = Ending.returned (Value.agg #[Value.int IntKind.i64 n1, Value.int IntKind.i64 n2, Value.slice p1 k2 k3])) ∧
    (Keep ([k1]) w2 w3) ∧
    Calls P F.law14_colours #[Value.slice sa2 sl2 sc2] w3 fun e3 w4 =>
    ∃ p2 : Option Addr,
    ∃ k4 : Nat,
    ∃ k5 : Nat,
    (e3 = Ending.returned (Value.slice p2 k4 k5)) ∧
    (Keep ([k1]) w3 w4) ∧
    ∀ k6 : Nat,
    (w4.heap.size ≤ k6) →
    ∀ w5 : World,
    (Locl ([k6, k1]) w4 w5) →
    appVC (w5) ([(31, k6, [Value.int IntKind.u16 9, Value.int IntKind.u16 0, Value.int IntKind.u16 0, Value.int IntKind.u16 0]), (3, k1, [Value.int IntKind.i64 x1, Value.int IntKind.i64 x2, Value.slice sa1 sl1 sc1])]) (p2) (k4) (k5) (1) (4) (8) (46) ([Value.int IntKind.u16 0, Value.int IntKind.u16 0, Value.int IntKind.u16 0, Value.int IntKind.u16 0]) ([Value.int IntKind.u16 9, Value.int IntKind.u16 0, Value.int IntKind.u16 0, Value.int IntKind.u16 0]) fun p3 k7 k8 w6 =>
    ∀ k9 : Nat,
    (w6.heap.size ≤ k9) →
    ∀ w7 : World,
    (Locl ([k9, k6, k1]) w6 w7) →
    Calls P F.quant_Palette #[Value.agg #[Value.int IntKind.i64 n1, Value.int IntKind.i64 n2, Value.slice p1 k2 k3], Value.int IntKind.i64 x3] w7 fun e4 w8 =>
    ∃ p4 : Option Addr,
    ∃ k10 : Nat,
    ∃ k11 : Nat,
    ∃ n3 : Int,
    (e4 = Ending.returned (Value.tuple #[Value.slice p4 k10 k11, Value.int IntKind.i64 n3])) ∧
    (Keep ([k9, k6, k1]) w7 w8) ∧
    Calls P F.quant_Palette #[Value.agg #[Value.int IntKind.i64 n1, Value.int IntKind.i64 n2, Value.slice p1 k2 k3], Value.int IntKind.i64 x3] w8 fun e5 w9 =>
    ∃ p5 : Option Addr,
    ∃ k12 : Nat,
    ∃ k13 : Nat,
    ∃ n4 : Int,
    (e5 = Ending.returned (Value.tuple #[Value.slice p5 k12 k13, Value.int IntKind.i64 n4])) ∧
    (Keep ([k9, k6, k1]) w8 w9) ∧
    ∃ I1 : List Value → World → Prop,
    (slcc (p3) (k8) (0) ((↑sl2 : Int)) (4) fun p6 k14 k15 =>
      (Calls P F.quant_Apply #[Value.agg #[Value.int IntKind.i64 n1, Value.int IntKind.i64 n2, Value.slice p1 k2 k3], Value.slice p6 k14 k15] (w9.drew) fun e6 w10 =>
        ∃ n5 : Int,
        ∃ n6 : Int,
        ∃ p7 : Option Addr,
        ∃ k16 : Nat,
        ∃ k17 : Nat,
        ∃ p8 : Option Addr,
        ∃ k18 : Nat,
        ∃ k19 : Nat,
        ∃ n7 : Int,
        (e6 = Ending.returned (Value.tuple #[Value.agg #[Value.int IntKind.i64 n5, Value.int IntKind.i64 n6, Value.slice p7 k16 k17, Value.slice p8 k18 k19], Value.int IntKind.i64 n7])) ∧
        (Keep ([k9, k6, k1]) (w9.drew) w10) ∧
        ∀ k20 : Nat,
        (w10.heap.size ≤ k20) →
        ∀ w11 : World,
        (Locl ([k20, k9, k6, k1]) w10 w11) →
        I1 [Value.pointer (some { block := k20, off := 0 }), Value.int IntKind.i64 n5, Value.int IntKind.i64 n6, Value.slice p7 k16 k17, Value.slice p8 k18 k19] w11) ∧
      ∀ k21 : Nat,
      (w9.drew.heap.size ≤ k21) →
      ∀ w12 : World,
      (Locl ([k21, k9, k6, k1]) (w9.drew) w12) →
      Calls P F.quant_Apply #[Value.agg #[Value.int IntKind.i64 n1, Value.int IntKind.i64 n2, Value.slice p1 k2 k3], Value.slice p6 k14 k15] w12 fun e7 w13 =>
      ∃ n8 : Int,
      ∃ n9 : Int,
      ∃ p9 : Option Addr,
      ∃ k22 : Nat,
      ∃ k23 : Nat,
      ∃ p10 : Option Addr,
      ∃ k24 : Nat,
      ∃ k25 : Nat,
      ∃ n10 : Int,
      (e7 = Ending.returned (Value.tuple #[Value.agg #[Value.int IntKind.i64 n8, Value.int IntKind.i64 n9, Value.slice p9 k22 k23, Value.slice p10 k24 k25], Value.int IntKind.i64 n10])) ∧
      (Keep ([k21, k9, k6, k1]) w12 w13) ∧
      ∀ w14 : World,
      (Locl ([k21, k9, k6, k1]) w13 w14) →
      I1 [Value.pointer (some { block := k21, off := 0 }), Value.int IntKind.i64 n8, Value.int IntKind.i64 n9, Value.slice p9 k22 k23, Value.slice p10 k24 k25] w14) ∧
    ∀ k26 : Nat,
    ∀ n11 : Int,
    ∀ n12 : Int,
    ∀ p11 : Option Addr,
    ∀ k27 : Nat,
    ∀ k28 : Nat,
    ∀ p12 : Option Addr,
    ∀ k29 : Nat,
    ∀ k30 : Nat,
    ∀ w15 : World,
    (I1 [Value.pointer (some { block := k26, off := 0 }), Value.int IntKind.i64 n11, Value.int IntKind.i64 n12, Value.slice p11 k27 k28, Value.slice p12 k29 k30] w15) →
    ∃ I2 : List Value → World → Prop,
    (slcc (p3) (k8) (0) ((↑sl2 : Int)) (4) fun p13 k31 k32 =>
      (Calls P F.quant_Apply #[Value.agg #[Value.int IntKind.i64 n1, Value.int IntKind.i64 n2, Value.slice p1 k2 k3], Value.slice p13 k31 k32] (w15.drew) fun e8 w16 =>
        ∃ n13 : Int,
        ∃ n14 : Int,
        ∃ p14 : Option Addr,
        ∃ k33 : Nat,
        ∃ k34 : Nat,
        ∃ p15 : Option Addr,
        ∃ k35 : Nat,
        ∃ k36 : Nat,
        ∃ n15 : Int,
        (e8 = Ending.returned (Value.tuple #[Value.agg #[Value.int IntKind.i64 n13, Value.int IntKind.i64 n14, Value.slice p14 k33 k34, Value.slice p15 k35 k36], Value.int IntKind.i64 n15])) ∧
        (Keep ([k26, k9, k6, k1]) (w15.drew) w16) ∧
        ∀ k37 : Nat,
        (w16.heap.size ≤ k37) →
        ∀ w17 : World,
        (Locl ([k37, k26, k9, k6, k1]) w16 w17) →
        I2 [Value.pointer (some { block := k37, off := 0 }), Value.int IntKind.i64 n13, Value.int IntKind.i64 n14, Value.slice p14 k33 k34, Value.slice p15 k35 k36] w17) ∧
      ∀ k38 : Nat,
      (w15.drew.heap.size ≤ k38) →
      ∀ w18 : World,
      (Locl ([k38, k26, k9, k6, k1]) (w15.drew) w18) →
      Calls P F.quant_Apply #[Value.agg #[Value.int IntKind.i64 n1, Value.int IntKind.i64 n2, Value.slice p1 k2 k3], Value.slice p13 k31 k32] w18 fun e9 w19 =>
      ∃ n16 : Int,
      ∃ n17 : Int,
      ∃ p16 : Option Addr,
      ∃ k39 : Nat,
      ∃ k40 : Nat,
      ∃ p17 : Option Addr,
      ∃ k41 : Nat,
      ∃ k42 : Nat,
      ∃ n18 : Int,
      (e9 = Ending.returned (Value.tuple #[Value.agg #[Value.int IntKind.i64 n16, Value.int IntKind.i64 n17, Value.slice p16 k39 k40, Value.slice p17 k41 k42], Value.int IntKind.i64 n18])) ∧
      (Keep ([k38, k26, k9, k6, k1]) w18 w19) ∧
      ∀ w20 : World,
      (Locl ([k38, k26, k9, k6, k1]) w19 w20) →
      I2 [Value.pointer (some { block := k38, off := 0 }), Value.int IntKind.i64 n16, Value.int IntKind.i64 n17, Value.slice p16 k39 k40, Value.slice p17 k41 k42] w20) ∧
    ∀ k43 : Nat,
    ∀ n19 : Int,
    ∀ n20 : Int,
    ∀ p18 : Option Addr,
    ∀ k44 : Nat,
    ∀ k45 : Nat,
    ∀ p19 : Option Addr,
    ∀ k46 : Nat,
    ∀ k47 : Nat,
    ∀ w21 : World,
    (I2 [Value.pointer (some { block := k43, off := 0 }), Value.int IntKind.i64 n19, Value.int IntKind.i64 n20, Value.slice p18 k44 k45, Value.slice p19 k46 k47] w21) →
    Calls P F.ref09_SameColors #[Value.slice p4 k10 k11, Value.slice p5 k12 k13] w21 fun e10 w22 =>
    ∃ c2 : Bool,
    (e10 = Ending.returned (Value.bool c2)) ∧
    (Keep ([k43, k26, k9, k6, k1]) w21 w22) ∧
    brB (!c2)
      (R (Ending.returned (Value.bool false)) w22)
      (Calls P F.ref09_Same #[Value.agg #[Value.int IntKind.i64 n1, Value.int IntKind.i64 n2, Value.slice p1 k2 k3], Value.agg #[Value.int IntKind.i64 x1, Value.int IntKind.i64 x2, Value.slice sa1 sl1 sc1]] w22 fun e11 w23 =>
      ∃ c3 : Bool,
      (e11 = Ending.returned (Value.bool c3)) ∧
      (Keep ([k43, k26, k9, k6, k1]) w22 w23) ∧
      brB (!c3)
        (R (Ending.returned (Value.bool false)) w23)
        (idx (p3) (k7) ((↑sl2 : Int)) (4) fun a1 =>
        ∃ n21 : Int,
        ∃ n22 : Int,
        ∃ n23 : Int,
        ∃ n24 : Int,
        (w23.cell? a1 = some (Value.int IntKind.u16 n21)) ∧
        (w23.cell? (a1.add 1) = some (Value.int IntKind.u16 n22)) ∧
        (w23.cell? (a1.add 2) = some (Value.int IntKind.u16 n23)) ∧
        (w23.cell? (a1.add 3) = some (Value.int IntKind.u16 n24)) ∧
        brB (!(decide (n21 = 9) && (decide (n22 = 0) && (decide (n23 = 0) && (decide (n24 = 0) && true)))))
          (R (Ending.returned (Value.bool false)) w23)
          (∃ I3 : List Value → World → Prop,
          ∃ m1 : List Value → World → Nat,
          (I3 [Value.int IntKind.i64 0] w23) ∧
          ∀ n25 : Int,
          ∀ w24 : World,
          (I3 [Value.int IntKind.i64 n25] w24) →
          brB (decide (n25 < (↑k10 : Int)))
            (idx (p4) (k10) (n25) (4) fun a2 =>
            (∃ v1 : Value,
              w24.cell? a2 = some v1) ∧
            (w24.frozen? a2 = false) ∧
            (∃ v2 : Value,
              w24.cell? (a2.add 1) = some v2) ∧
            (w24.frozen? (a2.add 1) = false) ∧
            (∃ v3 : Value,
              w24.cell? (a2.add 2) = some v3) ∧
            (w24.frozen? (a2.add 2) = false) ∧
            (∃ v4 : Value,
              w24.cell? (a2.add 3) = some v4) ∧
            (w24.frozen? (a2.add 3) = false) ∧
            (¬a2.block ∈ [k43, k26, k9, k6, k1]) ∧
            (I3 [Value.int IntKind.i64 (IntKind.i64.wrap (n25 + 1))] (setCells w24 a2 [Value.int IntKind.u16 0, Value.int IntKind.u16 0, Value.int IntKind.u16 0, Value.int IntKind.u16 1] 0)) ∧
            m1 [Value.int IntKind.i64 (IntKind.i64.wrap (n25 + 1))] (setCells w24 a2 [Value.int IntKind.u16 0, Value.int IntKind.u16 0, Value.int IntKind.u16 0, Value.int IntKind.u16 1] 0) < m1 [Value.int IntKind.i64 n25] w24)
            (∃ I4 : List Value → World → Prop,
            ∃ m2 : List Value → World → Nat,
            (I4 [Value.int IntKind.i64 0] w24) ∧
            ∀ n26 : Int,
            ∀ w25 : World,
            (I4 [Value.int IntKind.i64 n26] w25) →
            brB (decide (n26 < (↑k29 : Int)))
              (idx (p12) (k29) (n26) (1) fun a3 =>
              ∃ n27 : Int,
              (w25.drew.cell? a3 = some (Value.int IntKind.u8 n27)) ∧
              idx (p12) (k29) (n26) (1) fun a4 =>
              (∃ v5 : Value,
                w25.drew.cell? a4 = some v5) ∧
              (w25.drew.frozen? a4 = false) ∧
              (¬a4.block ∈ [k43, k26, k9, k6, k1]) ∧
              (I4 [Value.int IntKind.i64 (IntKind.i64.wrap (n26 + 1))] (setCells w25.drew a4 [Value.int IntKind.u8 (IntKind.u8.wrap (n27 + 1))] 0)) ∧
              m2 [Value.int IntKind.i64 (IntKind.i64.wrap (n26 + 1))] (setCells w25.drew a4 [Value.int IntKind.u8 (IntKind.u8.wrap (n27 + 1))] 0) < m2 [Value.int IntKind.i64 n26] w25)
              (∃ I5 : List Value → World → Prop,
              ∃ m3 : List Value → World → Nat,
              (I5 [Value.int IntKind.i64 0] w25) ∧
              ∀ n28 : Int,
              ∀ w26 : World,
              (I5 [Value.int IntKind.i64 n28] w26) →
              brB (decide (n28 < (↑k27 : Int)))
                (idx (p11) (k27) (n28) (4) fun a5 =>
                (∃ v6 : Value,
                  w26.cell? a5 = some v6) ∧
                (w26.frozen? a5 = false) ∧
                (∃ v7 : Value,
                  w26.cell? (a5.add 1) = some v7) ∧
                (w26.frozen? (a5.add 1) = false) ∧
                (∃ v8 : Value,
                  w26.cell? (a5.add 2) = some v8) ∧
                (w26.frozen? (a5.add 2) = false) ∧
                (∃ v9 : Value,
                  w26.cell? (a5.add 3) = some v9) ∧
                (w26.frozen? (a5.add 3) = false) ∧
                (¬a5.block ∈ [k43, k26, k9, k6, k1]) ∧
                (I5 [Value.int IntKind.i64 (IntKind.i64.wrap (n28 + 1))] (setCells w26 a5 [Value.int IntKind.u16 0, Value.int IntKind.u16 0, Value.int IntKind.u16 0, Value.int IntKind.u16 2] 0)) ∧
                m3 [Value.int IntKind.i64 (IntKind.i64.wrap (n28 + 1))] (setCells w26 a5 [Value.int IntKind.u16 0, Value.int IntKind.u16 0, Value.int IntKind.u16 0, Value.int IntKind.u16 2] 0) < m3 [Value.int IntKind.i64 n28] w26)
                (Calls P F.ref14_Apply #[Value.agg #[Value.int IntKind.i64 x1, Value.int IntKind.i64 x2, Value.slice sa1 sl1 sc1], Value.slice sa2 sl2 sc2] w26 fun e12 w27 =>
                ∃ n29 : Int,
                ∃ n30 : Int,
                ∃ p20 : Option Addr,
                ∃ k48 : Nat,
                ∃ k49 : Nat,
                ∃ p21 : Option Addr,
                ∃ k50 : Nat,
                ∃ k51 : Nat,
                ∃ n31 : Int,
                (e12 = Ending.returned (Value.tuple #[Value.agg #[Value.int IntKind.i64 n29, Value.int IntKind.i64 n30, Value.slice p20 k48 k49, Value.slice p21 k50 k51], Value.int IntKind.i64 n31])) ∧
                (Keep ([k43, k26, k9, k6, k1]) w26 w27) ∧
                ∀ k52 : Nat,
                (w27.heap.size ≤ k52) →
                ∀ w28 : World,
                (Locl ([k52, k43, k26, k9, k6, k1]) w27 w28) →
                Calls P F.law14_own #[Value.agg #[Value.int IntKind.i64 x1, Value.int IntKind.i64 x2, Value.slice sa1 sl1 sc1]] w28 fun e13 w29 =>
                ∃ n32 : Int,
                ∃ n33 : Int,
                ∃ p22 : Option Addr,
                ∃ k53 : Nat,
                ∃ k54 : Nat,
                (e13 = Ending.returned (Value.agg #[Value.int IntKind.i64 n32, Value.int IntKind.i64 n33, Value.slice p22 k53 k54])) ∧
                (Keep ([k52, k43, k26, k9, k6, k1]) w28 w29) ∧
                Calls P F.quant_Palette #[Value.agg #[Value.int IntKind.i64 n32, Value.int IntKind.i64 n33, Value.slice p22 k53 k54], Value.int IntKind.i64 x3] w29 fun e14 w30 =>
                ∃ p23 : Option Addr,
                ∃ k55 : Nat,
                ∃ k56 : Nat,
                ∃ n34 : Int,
                (e14 = Ending.returned (Value.tuple #[Value.slice p23 k55 k56, Value.int IntKind.i64 n34])) ∧
                (Keep ([k52, k43, k26, k9, k6, k1]) w29 w30) ∧
                Calls P F.ref14_SamePaletted #[Value.agg #[Value.int IntKind.i64 n19, Value.int IntKind.i64 n20, Value.slice p18 k44 k45, Value.slice p19 k46 k47], Value.agg #[Value.int IntKind.i64 n29, Value.int IntKind.i64 n30, Value.slice p20 k48 k49, Value.slice p21 k50 k51]] w30 fun e15 w31 =>
                ∃ c4 : Bool,
                (e15 = Ending.returned (Value.bool c4)) ∧
                (Keep ([k52, k43, k26, k9, k6, k1]) w30 w31) ∧
                brB (c4)
                  (slcc (p3) (k8) (0) ((↑sl2 : Int)) (4) fun p24 k57 k58 =>
                  Calls P F.ref09_SameColors #[Value.slice p24 k57 k58, Value.slice sa2 sl2 sc2] w31 fun e16 w32 =>
                  ∃ c5 : Bool,
                  (e16 = Ending.returned (Value.bool c5)) ∧
                  (Keep ([k52, k43, k26, k9, k6, k1]) w31 w32) ∧
                  brB (c5)
                    (Calls P F.ref09_SameColors #[Value.slice p5 k12 k13, Value.slice p23 k55 k56] w32 fun e17 w33 =>
                    ∃ c6 : Bool,
                    (e17 = Ending.returned (Value.bool c6)) ∧
                    (Keep ([k52, k43, k26, k9, k6, k1]) w32 w33) ∧
                    R (Ending.returned (Value.bool c6)) w33)
                    (R (Ending.returned (Value.bool false)) w32))
                  (R (Ending.returned (Value.bool false)) w31))))))))
theorem calls_law14_QuantOwn (x1 : Int) (x2 : Int) (sa1 : Option Addr) (sl1 sc1 : Nat) (sa2 : Option Addr) (sl2 sc2 : Nat) (x3 : Int) (w : World) (R : Ending → World → Prop) (h : vc_law14_QuantOwn x1 x2 sa1 sl1 sc1 sa2 sl2 sc2 x3 w R) : Calls P F.law14_QuantOwn #[.agg #[.int .i64 x1, .int .i64 x2, .slice sa1 sl1 sc1], .slice sa2 sl2 sc2, .int .i64 x3] w R :=
  calls_of_vc (fn := Try.f5) (ac := ac_law14_QuantOwn) (args := [.agg #[.int .i64 x1, .int .i64 x2, .slice sa1 sl1 sc1], .slice sa2 sl2 sc2, .int .i64 x3]) mixed Try.func5 (by kernel_rfl) (cast (by unfold vc_law14_QuantOwn FnVc; kernel_rfl) h)
/-- darkroom/darkroomlaw14.QuantBack -/
def vc_law14_QuantBack (x1 : Int) (x2 : Int) (sa1 : Option Addr) (sl1 sc1 : Nat) (sa2 : Option Addr) (sl2 sc2 : Nat) (w : World) (R : Ending → World → Prop) : Prop :=
  ∀ k1 : Nat,
  (w.heap.size ≤ k1) →
  ∀ w1 : World,
  (Locl ([k1]) w w1) →
  Calls P F.law14_wakes #[] w1 fun e1 w2 =>
  ∃ c1 : Bool,
  (e1 = Ending.returned (Value.bool c1)) ∧
  (Keep ([k1]) w1 w2) ∧
  brB (!c1)
    (R (Ending.returned (Value.bool false)) w2)
    (∃ I1 : List Value → World → Prop,
    ((Calls P F.law14_colours #[Value.slice sa1 sl1 sc1] (w2.drew) fun e2 w3 =>
        ∃ p1 : Option Addr,
        ∃ k2 : Nat,
        ∃ k3 : Nat,
        (e2 = Ending.returned (Value.slice p1 k2 k3)) ∧
        (Keep ([k1]) (w2.drew) w3) ∧
        (Keeps (w2.drew) w3) ∧
        ∀ k4 : Nat,
        ∀ w4 : World,
        (New w3 (Obj.cells #[] 5) k4 w4) →
        ∃ l1 : List Value,
        (l1.length = sl2 * 1) ∧
        (oneAll l1 = true) ∧
        (CellsAre w4 sa2 l1) ∧
        appVC (w4) ([(1, k1, [Value.int IntKind.i64 x1, Value.int IntKind.i64 x2, Value.slice sa1 sl1 sc1, Value.slice sa2 sl2 sc2])]) (some { block := k4, off := 0 }) (0) (0) (sl2) (1) (1) (5) ([Value.int IntKind.u8 0]) (l1) fun p2 k5 k6 w5 =>
        ∀ w6 : World,
        (Locl ([k1]) w5 w6) →
        I1 [Value.int IntKind.i64 x1, Value.int IntKind.i64 x2, Value.slice p1 k2 k3, Value.slice p2 k5 k6] w6) ∧
      ∀ k7 : Nat,
      ∀ w7 : World,
      (New (w2.drew) (Obj.cells #[] 5) k7 w7) →
      Calls P F.law14_colours #[Value.slice sa1 sl1 sc1] w7 fun e3 w8 =>
      ∃ p3 : Option Addr,
      ∃ k8 : Nat,
      ∃ k9 : Nat,
      (e3 = Ending.returned (Value.slice p3 k8 k9)) ∧
      (Keep ([k1]) w7 w8) ∧
      (Keeps w7 w8) ∧
      ∃ l2 : List Value,
      (l2.length = sl2 * 1) ∧
      (oneAll l2 = true) ∧
      (CellsAre w8 sa2 l2) ∧
      appVC (w8) ([(1, k1, [Value.int IntKind.i64 x1, Value.int IntKind.i64 x2, Value.slice sa1 sl1 sc1, Value.slice sa2 sl2 sc2])]) (some { block := k7, off := 0 }) (0) (0) (sl2) (1) (1) (5) ([Value.int IntKind.u8 0]) (l2) fun p4 k10 k11 w9 =>
      ∀ w10 : World,
      (Locl ([k1]) w9 w10) →
      I1 [Value.int IntKind.i64 x1, Value.int IntKind.i64 x2, Value.slice p3 k8 k9, Value.slice p4 k10 k11] w10) ∧
    ∀ n1 : Int,
    ∀ n2 : Int,
    ∀ p5 : Option Addr,
    ∀ k12 : Nat,
    ∀ k13 : Nat,
    ∀ p6 : Option Addr,
    ∀ k14 : Nat,
    ∀ k15 : Nat,
    ∀ w11 : World,
    (I1 [Value.int IntKind.i64 n1, Value.int IntKind.i64 n2, Value.slice p5 k12 k13, Value.slice p6 k14 k15] w11) →
    Calls P F.quant_Back #[Value.agg #[Value.int IntKind.i64 n1, Value.int IntKind.i64 n2, Value.slice p5 k12 k13, Value.slice p6 k14 k15]] w11 fun e4 w12 =>
    ∃ n3 : Int,
    ∃ n4 : Int,
    ∃ p7 : Option Addr,
    ∃ k16 : Nat,
    ∃ k17 : Nat,
    ∃ n5 : Int,
    (e4 = Ending.returned (Value.tuple #[Value.agg #[Value.int IntKind.i64 n3, Value.int IntKind.i64 n4, Value.slice p7 k16 k17], Value.int IntKind.i64 n5])) ∧
    (Keep ([k1]) w11 w12) ∧
    ∀ k18 : Nat,
    (w12.heap.size ≤ k18) →
    ∀ w13 : World,
    (Locl ([k18, k1]) w12 w13) →
    Calls P F.ref14_Back #[Value.agg #[Value.int IntKind.i64 n1, Value.int IntKind.i64 n2, Value.slice p5 k12 k13, Value.slice p6 k14 k15]] w13 fun e5 w14 =>
    ∃ n6 : Int,
    ∃ n7 : Int,
    ∃ p8 : Option Addr,
    ∃ k19 : Nat,
    ∃ k20 : Nat,
    ∃ n8 : Int,
    (e5 = Ending.returned (Value.tuple #[Value.agg #[Value.int IntKind.i64 n6, Value.int IntKind.i64 n7, Value.slice p8 k19 k20], Value.int IntKind.i64 n8])) ∧
    (Keep ([k18, k1]) w13 w14) ∧
    ∀ k21 : Nat,
    (w14.heap.size ≤ k21) →
    ∀ w15 : World,
    (Locl ([k21, k18, k1]) w14 w15) →
    Calls P F.ref09_Same #[Value.agg #[Value.int IntKind.i64 n3, Value.int IntKind.i64 n4, Value.slice p7 k16 k17], Value.agg #[Value.int IntKind.i64 n6, Value.int IntKind.i64 n7, Value.slice p8 k19 k20]] w15 fun e6 w16 =>
    ∃ c2 : Bool,
    (e6 = Ending.returned (Value.bool c2)) ∧
    (Keep ([k21, k18, k1]) w15 w16) ∧
    R (Ending.returned (Value.bool (c2 && n5 == n8))) w16)
theorem calls_law14_QuantBack (x1 : Int) (x2 : Int) (sa1 : Option Addr) (sl1 sc1 : Nat) (sa2 : Option Addr) (sl2 sc2 : Nat) (w : World) (R : Ending → World → Prop) (h : vc_law14_QuantBack x1 x2 sa1 sl1 sc1 sa2 sl2 sc2 w R) : Calls P F.law14_QuantBack #[.agg #[.int .i64 x1, .int .i64 x2, .slice sa1 sl1 sc1, .slice sa2 sl2 sc2]] w R :=
  calls_of_vc (fn := Try.f6) (ac := ac_law14_QuantBack) (args := [.agg #[.int .i64 x1, .int .i64 x2, .slice sa1 sl1 sc1, .slice sa2 sl2 sc2]]) mixed Try.func6 (by kernel_rfl) (cast (by unfold vc_law14_QuantBack FnVc; kernel_rfl) h)
/-- darkroom/darkroomlaw14.QuantWhole -/
def vc_law14_QuantWhole (x1 : Int) (x2 : Int) (sa1 : Option Addr) (sl1 sc1 : Nat) (w : World) (R : Ending → World → Prop) : Prop :=
  ∀ k1 : Nat,
  (w.heap.size ≤ k1) →
  ∀ w1 : World,
  (Locl ([k1]) w w1) →
  Calls P F.law14_wakes #[] w1 fun e1 w2 =>
  ∃ c1 : Bool,
  (e1 = Ending.returned (Value.bool c1)) ∧
  (Keep ([k1]) w1 w2) ∧
  brB (!c1)
    (R (Ending.returned (Value.bool false)) w2)
    (Calls P F.ref09_Good #[Value.agg #[Value.int IntKind.i64 x1, Value.int IntKind.i64 x2, Value.slice sa1 sl1 sc1]] w2 fun e2 w3 =>
    ∃ c2 : Bool,
    (e2 = Ending.returned (Value.bool c2)) ∧
    (Keep ([k1]) w2 w3) ∧
    brB (!c2)
      (Calls P F.law14_own #[Value.agg #[Value.int IntKind.i64 x1, Value.int IntKind.i64 x2, Value.slice sa1 sl1 sc1]] w3 fun e3 w4 =>
      ∃ n1 : Int,
      ∃ n2 : Int,
      ∃ p1 : Option Addr,
      ∃ k2 : Nat,
      ∃ k3 : Nat,
      (e3 = Ending.returned (Value.agg #[Value.int IntKind.i64 n1, Value.int IntKind.i64 n2, Value.slice p1 k2 k3])) ∧
      (Keep ([k1]) w3 w4) ∧
      Calls P F.quant_Palette #[Value.agg #[Value.int IntKind.i64 n1, Value.int IntKind.i64 n2, Value.slice p1 k2 k3], Value.int IntKind.i64 256] w4 fun e4 w5 =>
      ∃ p2 : Option Addr,
      ∃ k4 : Nat,
      ∃ k5 : Nat,
      ∃ n3 : Int,
      (e4 = Ending.returned (Value.tuple #[Value.slice p2 k4 k5, Value.int IntKind.i64 n3])) ∧
      (Keep ([k1]) w4 w5) ∧
      R (Ending.returned (Value.bool (n3 == 6))) w5)
      (Calls P F.law14_own #[Value.agg #[Value.int IntKind.i64 x1, Value.int IntKind.i64 x2, Value.slice sa1 sl1 sc1]] w3 fun e5 w6 =>
      ∃ n4 : Int,
      ∃ n5 : Int,
      ∃ p3 : Option Addr,
      ∃ k6 : Nat,
      ∃ k7 : Nat,
      (e5 = Ending.returned (Value.agg #[Value.int IntKind.i64 n4, Value.int IntKind.i64 n5, Value.slice p3 k6 k7])) ∧
      (Keep ([k1]) w3 w6) ∧
      ∃ I1 : List Value → World → Prop,
      ∃ m1 : List Value → World → Nat,
      (∀ w7 : World,
        (Locl ([k1]) w6 w7) →
        I1 [Value.int IntKind.i64 0] w7) ∧
      ∀ n6 : Int,
      ∀ w8 : World,
      (I1 [Value.int IntKind.i64 n6] w8) →
      brB (decide (n6 < (↑k6 : Int)))
        (∃ I2 : List Value → World → Prop,
        (idx (p3) (k6) (n6) (1) fun a1 =>
          ∃ n7 : Int,
          (w8.drew.cell? a1 = some (Value.int IntKind.u16 n7)) ∧
          idx (p3) (k6) (n6) (1) fun a2 =>
          (∃ v1 : Value,
            w8.drew.cell? a2 = some v1) ∧
          (w8.drew.frozen? a2 = false) ∧
          (¬a2.block ∈ [k1]) ∧
          brB (divZ BinOp.rem IntKind.i64 n6 4 == 3)
            (idx (p3) (k6) (n6) (1) fun a3 =>
            (∃ v2 : Value,
              (setCells w8.drew a2 [Value.int IntKind.u16 (IntKind.u16.wrap (divZ BinOp.quo IntKind.u16 n7 257 * 257))] 0).cell? a3 = some v2) ∧
            ((setCells w8.drew a2 [Value.int IntKind.u16 (IntKind.u16.wrap (divZ BinOp.quo IntKind.u16 n7 257 * 257))] 0).frozen? a3 = false) ∧
            (¬a3.block ∈ [k1]) ∧
            I2 [] (setCells (setCells w8.drew a2 [Value.int IntKind.u16 (IntKind.u16.wrap (divZ BinOp.quo IntKind.u16 n7 257 * 257))] 0) a3 [Value.int IntKind.u16 65535] 0))
            (I2 [] (setCells w8.drew a2 [Value.int IntKind.u16 (IntKind.u16.wrap (divZ BinOp.quo IntKind.u16 n7 257 * 257))] 0))) ∧
        ∀ w9 : World,
        (I2 [] w9) →
        (I1 [Value.int IntKind.i64 (IntKind.i64.wrap (n6 + 1))] w9) ∧
        m1 [Value.int IntKind.i64 (IntKind.i64.wrap (n6 + 1))] w9 < m1 [Value.int IntKind.i64 n6] w8)
        (Calls P F.law14_own #[Value.agg #[Value.int IntKind.i64 n4, Value.int IntKind.i64 n5, Value.slice p3 k6 k7]] w8 fun e6 w10 =>
        ∃ n8 : Int,
        ∃ n9 : Int,
        ∃ p4 : Option Addr,
        ∃ k8 : Nat,
        ∃ k9 : Nat,
        (e6 = Ending.returned (Value.agg #[Value.int IntKind.i64 n8, Value.int IntKind.i64 n9, Value.slice p4 k8 k9])) ∧
        (Keep ([k1]) w8 w10) ∧
        Calls P F.quant_Palette #[Value.agg #[Value.int IntKind.i64 n8, Value.int IntKind.i64 n9, Value.slice p4 k8 k9], Value.int IntKind.i64 256] w10 fun e7 w11 =>
        ∃ p5 : Option Addr,
        ∃ k10 : Nat,
        ∃ k11 : Nat,
        ∃ n10 : Int,
        (e7 = Ending.returned (Value.tuple #[Value.slice p5 k10 k11, Value.int IntKind.i64 n10])) ∧
        (Keep ([k1]) w10 w11) ∧
        Calls P F.law14_own #[Value.agg #[Value.int IntKind.i64 n4, Value.int IntKind.i64 n5, Value.slice p3 k6 k7]] w11 fun e8 w12 =>
        ∃ n11 : Int,
        ∃ n12 : Int,
        ∃ p6 : Option Addr,
        ∃ k12 : Nat,
        ∃ k13 : Nat,
        (e8 = Ending.returned (Value.agg #[Value.int IntKind.i64 n11, Value.int IntKind.i64 n12, Value.slice p6 k12 k13])) ∧
        (Keep ([k1]) w11 w12) ∧
        Calls P F.law14_colours #[Value.slice p5 k10 k11] w12 fun e9 w13 =>
        ∃ p7 : Option Addr,
        ∃ k14 : Nat,
        ∃ k15 : Nat,
        (e9 = Ending.returned (Value.slice p7 k14 k15)) ∧
        (Keep ([k1]) w12 w13) ∧
        Calls P F.quant_Apply #[Value.agg #[Value.int IntKind.i64 n11, Value.int IntKind.i64 n12, Value.slice p6 k12 k13], Value.slice p7 k14 k15] w13 fun e10 w14 =>
        ∃ n13 : Int,
        ∃ n14 : Int,
        ∃ p8 : Option Addr,
        ∃ k16 : Nat,
        ∃ k17 : Nat,
        ∃ p9 : Option Addr,
        ∃ k18 : Nat,
        ∃ k19 : Nat,
        ∃ n15 : Int,
        (e10 = Ending.returned (Value.tuple #[Value.agg #[Value.int IntKind.i64 n13, Value.int IntKind.i64 n14, Value.slice p8 k16 k17, Value.slice p9 k18 k19], Value.int IntKind.i64 n15])) ∧
        (Keep ([k1]) w13 w14) ∧
        ∀ k20 : Nat,
        (w14.heap.size ≤ k20) →
        ∀ w15 : World,
        (Locl ([k20, k1]) w14 w15) →
        Calls P F.quant_Back #[Value.agg #[Value.int IntKind.i64 n13, Value.int IntKind.i64 n14, Value.slice p8 k16 k17, Value.slice p9 k18 k19]] w15 fun e11 w16 =>
        ∃ n16 : Int,
        ∃ n17 : Int,
        ∃ p10 : Option Addr,
        ∃ k21 : Nat,
        ∃ k22 : Nat,
        ∃ n18 : Int,
        (e11 = Ending.returned (Value.tuple #[Value.agg #[Value.int IntKind.i64 n16, Value.int IntKind.i64 n17, Value.slice p10 k21 k22], Value.int IntKind.i64 n18])) ∧
        (Keep ([k20, k1]) w15 w16) ∧
        ∀ k23 : Nat,
        (w16.heap.size ≤ k23) →
        brB (n10 == 0 && n15 == 0 && n18 == 0)
          (∀ w17 : World,
          (Locl ([k23, k20, k1]) w16 w17) →
          Calls P F.ref14_Met #[Value.agg #[Value.int IntKind.i64 n4, Value.int IntKind.i64 n5, Value.slice p3 k6 k7], Value.int IntKind.i64 256] w17 fun e12 w18 =>
          ∃ p11 : Option Addr,
          ∃ k24 : Nat,
          ∃ k25 : Nat,
          (e12 = Ending.returned (Value.slice p11 k24 k25)) ∧
          (Keep ([k23, k20, k1]) w17 w18) ∧
          brB (decide ((↑k24 : Int) > 256))
            (R (Ending.returned (Value.bool true)) w18)
            (Calls P F.ref09_Same #[Value.agg #[Value.int IntKind.i64 n16, Value.int IntKind.i64 n17, Value.slice p10 k21 k22], Value.agg #[Value.int IntKind.i64 n4, Value.int IntKind.i64 n5, Value.slice p3 k6 k7]] w18 fun e13 w19 =>
            ∃ c3 : Bool,
            (e13 = Ending.returned (Value.bool c3)) ∧
            (Keep ([k23, k20, k1]) w18 w19) ∧
            R (Ending.returned (Value.bool c3)) w19))
          (∀ w20 : World,
          (Locl ([k23, k20, k1]) w16 w20) →
          R (Ending.returned (Value.bool false)) w20))))
theorem calls_law14_QuantWhole (x1 : Int) (x2 : Int) (sa1 : Option Addr) (sl1 sc1 : Nat) (w : World) (R : Ending → World → Prop) (h : vc_law14_QuantWhole x1 x2 sa1 sl1 sc1 w R) : Calls P F.law14_QuantWhole #[.agg #[.int .i64 x1, .int .i64 x2, .slice sa1 sl1 sc1]] w R :=
  calls_of_vc (fn := Try.f7) (ac := ac_law14_QuantWhole) (args := [.agg #[.int .i64 x1, .int .i64 x2, .slice sa1 sl1 sc1]]) mixed Try.func7 (by kernel_rfl) (cast (by unfold vc_law14_QuantWhole FnVc; kernel_rfl) h)
/-- darkroom/darkroomlaw14.wakes -/
def vc_law14_wakes  (w : World) (R : Ending → World → Prop) : Prop :=
  ∀ k1 : Nat,
  ∀ w1 : World,
  (New w (Obj.cells #[Value.int IntKind.u16 0, Value.int IntKind.u16 0, Value.int IntKind.u16 0, Value.int IntKind.u16 65535, Value.int IntKind.u16 65535, Value.int IntKind.u16 65535, Value.int IntKind.u16 65535, Value.int IntKind.u16 65535] 44) k1 w1) →
  ∀ k2 : Nat,
  (w1.heap.size ≤ k2) →
  ∀ w2 : World,
  (Locl ([k2]) w1 w2) →
  Calls P F.law14_own #[Value.agg #[Value.int IntKind.i64 2, Value.int IntKind.i64 1, Value.slice (some { block := k1, off := 0 }) 8 8]] w2 fun e1 w3 =>
  ∃ n1 : Int,
  ∃ n2 : Int,
  ∃ p1 : Option Addr,
  ∃ k3 : Nat,
  ∃ k4 : Nat,
  (e1 = Ending.returned (Value.agg #[Value.int IntKind.i64 n1, Value.int IntKind.i64 n2, Value.slice p1 k3 k4])) ∧
  (Keep ([k2]) w2 w3) ∧
  Calls P F.quant_Palette #[Value.agg #[Value.int IntKind.i64 n1, Value.int IntKind.i64 n2, Value.slice p1 k3 k4], Value.int IntKind.i64 256] w3 fun e2 w4 =>
  ∃ p2 : Option Addr,
  ∃ k5 : Nat,
  ∃ k6 : Nat,
  ∃ n3 : Int,
  (e2 = Ending.returned (Value.tuple #[Value.slice p2 k5 k6, Value.int IntKind.i64 n3])) ∧
  (Keep ([k2]) w3 w4) ∧
  Calls P F.law14_own #[Value.agg #[Value.int IntKind.i64 2, Value.int IntKind.i64 1, Value.slice (some { block := k1, off := 0 }) 8 8]] w4 fun e3 w5 =>
  ∃ n4 : Int,
  ∃ n5 : Int,
  ∃ p3 : Option Addr,
  ∃ k7 : Nat,
  ∃ k8 : Nat,
  (e3 = Ending.returned (Value.agg #[Value.int IntKind.i64 n4, Value.int IntKind.i64 n5, Value.slice p3 k7 k8])) ∧
  (Keep ([k2]) w4 w5) ∧
  Calls P F.quant_Palette #[Value.agg #[Value.int IntKind.i64 n4, Value.int IntKind.i64 n5, Value.slice p3 k7 k8], Value.int IntKind.i64 1] w5 fun e4 w6 =>
  ∃ p4 : Option Addr,
  ∃ k9 : Nat,
  ∃ k10 : Nat,
  ∃ n6 : Int,
  (e4 = Ending.returned (Value.tuple #[Value.slice p4 k9 k10, Value.int IntKind.i64 n6])) ∧
  (Keep ([k2]) w5 w6) ∧
  Calls P F.law14_own #[Value.agg #[Value.int IntKind.i64 2, Value.int IntKind.i64 1, Value.slice (some { block := k1, off := 0 }) 8 8]] w6 fun e5 w7 =>
  ∃ n7 : Int,
  ∃ n8 : Int,
  ∃ p5 : Option Addr,
  ∃ k11 : Nat,
  ∃ k12 : Nat,
  (e5 = Ending.returned (Value.agg #[Value.int IntKind.i64 n7, Value.int IntKind.i64 n8, Value.slice p5 k11 k12])) ∧
  (Keep ([k2]) w6 w7) ∧
  Calls P F.law14_colours #[Value.slice p2 k5 k6] w7 fun e6 w8 =>
  ∃ p6 : Option Addr,
  ∃ k13 : Nat,
  ∃ k14 : Nat,
  (e6 = Ending.returned (Value.slice p6 k13 k14)) ∧
  (Keep ([k2]) w7 w8) ∧
  Calls P F.quant_Apply #[Value.agg #[Value.int IntKind.i64 n7, Value.int IntKind.i64 n8, Value.slice p5 k11 k12], Value.slice p6 k13 k14] w8 fun e7 w9 =>
  ∃ n9 : Int,
  ∃ n10 : Int,
  ∃ p7 : Option Addr,
  ∃ k15 : Nat,
  ∃ k16 : Nat,
  ∃ p8 : Option Addr,
  ∃ k17 : Nat,
  ∃ k18 : Nat,
  ∃ n11 : Int,
  (e7 = Ending.returned (Value.tuple #[Value.agg #[Value.int IntKind.i64 n9, Value.int IntKind.i64 n10, Value.slice p7 k15 k16, Value.slice p8 k17 k18], Value.int IntKind.i64 n11])) ∧
  (Keep ([k2]) w8 w9) ∧
  ∀ k19 : Nat,
  (w9.heap.size ≤ k19) →
  brB (n3 == 0 && n6 == 0 && n11 == 0 && (↑k5 : Int) == 2)
    (idx (p2) (k5) (0) (4) fun a1 =>
    ∀ w10 : World,
    (Locl ([k19, k2]) w9 w10) →
    ∃ n12 : Int,
    (w10.cell? a1 = some (Value.int IntKind.u16 n12)) ∧
    brB (n12 == 0)
      (idx (p2) (k5) (1) (4) fun a2 =>
      ∃ n13 : Int,
      (w10.cell? (a2.add 2) = some (Value.int IntKind.u16 n13)) ∧
      brB (n13 == 65535 && (↑k9 : Int) == 1 && (↑k17 : Int) == 2)
        (idx (p8) (k17) (1) (1) fun a3 =>
        ∃ n14 : Int,
        (w10.cell? a3 = some (Value.int IntKind.u8 n14)) ∧
        R (Ending.returned (Value.bool (n14 == 1))) w10)
        (R (Ending.returned (Value.bool false)) w10))
      (R (Ending.returned (Value.bool false)) w10))
    (∀ w11 : World,
    (Locl ([k19, k2]) w9 w11) →
    R (Ending.returned (Value.bool false)) w11)
theorem calls_law14_wakes  (w : World) (R : Ending → World → Prop) (h : vc_law14_wakes  w R) : Calls P F.law14_wakes #[] w R :=
  calls_of_vc (fn := Try.f8) (ac := ac_law14_wakes) (args := []) mixed Try.func8 (by kernel_rfl) (cast (by unfold vc_law14_wakes FnVc; kernel_rfl) h)
/-- darkroom/quant.Palette -/
def vc_quant_Palette (x1 : Int) (x2 : Int) (sa1 : Option Addr) (sl1 sc1 : Nat) (x3 : Int) (w : World) (R : Ending → World → Prop) : Prop :=
  ∀ k1 : Nat,
  (w.heap.size ≤ k1) →
  ∀ w1 : World,
  (Locl ([k1]) w w1) →
  Calls P F.raster_Good #[Value.agg #[Value.int IntKind.i64 x1, Value.int IntKind.i64 x2, Value.slice sa1 sl1 sc1]] w1 fun e1 w2 =>
  ∃ c1 : Bool,
  (e1 = Ending.returned (Value.bool c1)) ∧
  (Keep ([k1]) w1 w2) ∧
  brB (!c1)
    (R (Ending.returned (Value.tuple #[Value.slice none 0 0, Value.int IntKind.i64 6])) w2)
    (brB (decide (x3 < 1) || decide (x3 > 256))
      (R (Ending.returned (Value.tuple #[Value.slice none 0 0, Value.int IntKind.i64 2])) w2)
      (∀ k2 : Nat,
      ∀ w3 : World,
      (New w2 (Obj.map #[] 0) k2 w3) →
      Calls P F.raster_Distinct #[Value.agg #[Value.int IntKind.i64 x1, Value.int IntKind.i64 x2, Value.slice sa1 sl1 sc1]] w3 fun e2 w4 =>
      ∃ p1 : Option Addr,
      ∃ k3 : Nat,
      ∃ k4 : Nat,
      (e2 = Ending.returned (Value.slice p1 k3 k4)) ∧
      (Keep ([k1]) w3 w4) ∧
      ∃ I1 : List Value → World → Prop,
      ∃ m1 : List Value → World → Nat,
      (I1 [Value.slice none 0 0, Value.int IntKind.i64 0] w4) ∧
      ∀ p2 : Option Addr,
      ∀ k5 : Nat,
      ∀ k6 : Nat,
      ∀ n1 : Int,
      ∀ w5 : World,
      (I1 [Value.slice p2 k5 k6, Value.int IntKind.i64 n1] w5) →
      brB (decide (n1 < (↑k3 : Int)))
        (∃ I2 : List Value → World → Prop,
        (idx (p1) (k3) (n1) (4) fun a1 =>
          ∃ n2 : Int,
          ∃ n3 : Int,
          ∃ n4 : Int,
          ∃ n5 : Int,
          (w5.cell? a1 = some (Value.int IntKind.u16 n2)) ∧
          (w5.cell? (a1.add 1) = some (Value.int IntKind.u16 n3)) ∧
          (w5.cell? (a1.add 2) = some (Value.int IntKind.u16 n4)) ∧
          (w5.cell? (a1.add 3) = some (Value.int IntKind.u16 n5)) ∧
          ∀ k7 : Nat,
          (w5.heap.size ≤ k7) →
          ∀ w6 : World,
          (Locl ([k7, k1]) w5 w6) →
          Calls P F.quant_clear #[Value.agg #[Value.int IntKind.u16 n2, Value.int IntKind.u16 n3, Value.int IntKind.u16 n4, Value.int IntKind.u16 n5]] w6 fun e3 w7 =>
          ∃ c2 : Bool,
          (e3 = Ending.returned (Value.bool c2)) ∧
          (Keep ([k7, k1]) w6 w7) ∧
          brB (c2)
            (I2 [Value.slice p2 k5 k6] w7)
            (Calls P F.quant_eight #[Value.agg #[Value.int IntKind.u16 n2, Value.int IntKind.u16 n3, Value.int IntKind.u16 n4, Value.int IntKind.u16 n5]] w7 fun e4 w8 =>
            ∃ n6 : Int,
            ∃ n7 : Int,
            ∃ n8 : Int,
            ∃ n9 : Int,
            (e4 = Ending.returned (Value.agg #[Value.int IntKind.u16 n6, Value.int IntKind.u16 n7, Value.int IntKind.u16 n8, Value.int IntKind.u16 n9])) ∧
            (Keep ([k7, k1]) w7 w8) ∧
            ∀ w9 : World,
            (Locl ([k7, k1]) w8 w9) →
            mapIn (Kd.agg [IntKind.u16, IntKind.u16, IntKind.u16, IntKind.u16]) (w9) (Value.map (some k2)) fun l1 =>
            ∃ c3 : Bool,
            (mgot l1 (Value.agg #[Value.int IntKind.u16 n6, Value.int IntKind.u16 n7, Value.int IntKind.u16 n8, Value.int IntKind.u16 n9]) (Value.agg #[]) = (Value.agg #[], c3)) ∧
            ∀ k8 : Nat,
            (w9.heap.size ≤ k8) →
            brB (!c3)
              (∀ w10 : World,
              (Locl ([k8, k7, k1]) w9 w10) →
              mapTo (Kd.agg [IntKind.u16, IntKind.u16, IntKind.u16, IntKind.u16]) (w10) (Value.map (some k2)) fun b1 l2 =>
              ∀ w11 : World,
              (Put b1 w10 w11) →
              (Mp (Kd.agg [IntKind.u16, IntKind.u16, IntKind.u16, IntKind.u16]) w11 b1 (mput (Value.agg #[Value.int IntKind.u16 n6, Value.int IntKind.u16 n7, Value.int IntKind.u16 n8, Value.int IntKind.u16 n9]) (Value.agg #[]) l2)) →
              ∀ k9 : Nat,
              (w11.heap.size ≤ k9) →
              ∀ w12 : World,
              (Locl ([k9, k8, k7, k1]) w11 w12) →
              appVC (w12) ([(52, k9, [Value.int IntKind.u16 n6, Value.int IntKind.u16 n7, Value.int IntKind.u16 n8, Value.int IntKind.u16 n9]), (10, k8, []), (9, k7, [Value.int IntKind.u16 n6, Value.int IntKind.u16 n7, Value.int IntKind.u16 n8, Value.int IntKind.u16 n9]), (2, k1, [Value.int IntKind.i64 x1, Value.int IntKind.i64 x2, Value.slice sa1 sl1 sc1])]) (p2) (k5) (k6) (1) (4) (8) (46) ([Value.int IntKind.u16 0, Value.int IntKind.u16 0, Value.int IntKind.u16 0, Value.int IntKind.u16 0]) ([Value.int IntKind.u16 n6, Value.int IntKind.u16 n7, Value.int IntKind.u16 n8, Value.int IntKind.u16 n9]) fun p3 k10 k11 w13 =>
              I2 [Value.slice p3 k10 k11] w13)
              (∀ w14 : World,
              (Locl ([k8, k7, k1]) w9 w14) →
              I2 [Value.slice p2 k5 k6] w14))) ∧
        ∀ p4 : Option Addr,
        ∀ k12 : Nat,
        ∀ k13 : Nat,
        ∀ w15 : World,
        (I2 [Value.slice p4 k12 k13] w15) →
        (I1 [Value.slice p4 k12 k13, Value.int IntKind.i64 (IntKind.i64.wrap (n1 + 1))] w15) ∧
        m1 [Value.slice p4 k12 k13, Value.int IntKind.i64 (IntKind.i64.wrap (n1 + 1))] w15 < m1 [Value.slice p2 k5 k6, Value.int IntKind.i64 n1] w5)
        (brB (decide ((↑k5 : Int) ≤ x3))
          (R (Ending.returned (Value.tuple #[Value.slice p2 k5 k6, Value.int IntKind.i64 0])) w5)
          (∀ k14 : Nat,
          ∀ w16 : World,
          (New w5 (Obj.cells #[Value.slice none 0 0, Value.func (Fn.func 26) #[] #[]] 66) k14 w16) →
          Calls P F.quant_bag_api_Color_put #[Value.pointer (some { block := k14, off := 0 }), Value.slice p2 k5 k6] w16 fun e5 w17 =>
          (e5 = Ending.returned (Value.tuple #[])) ∧
          (Keep ([k1]) w16 w17) ∧
          ∃ I3 : List Value → World → Prop,
          ∃ m2 : List Value → World → Nat,
          (I3 [] w17) ∧
          ∀ w18 : World,
          (I3 [] w18) →
          ∃ p5 : Option Addr,
          ∃ k15 : Nat,
          ∃ k16 : Nat,
          (w18.cell? { block := k14, off := 0 } = some (Value.slice p5 k15 k16)) ∧
          brB (decide ((↑k15 : Int) < x3))
            (Calls P F.quant_bag_api_Color_take #[Value.pointer (some { block := k14, off := 0 })] w18 fun e6 w19 =>
            ∃ p6 : Option Addr,
            ∃ k17 : Nat,
            ∃ k18 : Nat,
            (e6 = Ending.returned (Value.slice p6 k17 k18)) ∧
            (Keep ([k1]) w18 w19) ∧
            Calls P F.quant_longest #[Value.slice p6 k17 k18] w19 fun e7 w20 =>
            ∃ n10 : Int,
            (e7 = Ending.returned (Value.int IntKind.i64 n10)) ∧
            (Keep ([k1]) w19 w20) ∧
            ∀ k19 : Nat,
            ∀ w21 : World,
            (New w20 (Obj.cells #[Value.int IntKind.i64 0] 3) k19 w21) →
            (∃ v1 : Value,
              w21.cell? { block := k19, off := 0 } = some v1) ∧
            (w21.frozen? { block := k19, off := 0 } = false) ∧
            (¬k19 ∈ [k1]) ∧
            Calls P F.slices_Clone_api_Color #[Value.slice p6 k17 k18] (setCells w21 { block := k19, off := 0 } [Value.int IntKind.i64 n10] 0) fun e8 w22 =>
            ∃ p7 : Option Addr,
            ∃ k20 : Nat,
            ∃ k21 : Nat,
            (e8 = Ending.returned (Value.slice p7 k20 k21)) ∧
            (Keep ([k1]) (setCells w21 { block := k19, off := 0 } [Value.int IntKind.i64 n10] 0) w22) ∧
            Calls P F.slices_SortStableFunc_api_Color #[Value.slice p7 k20 k21, Value.func (Fn.func 32) #[] #[Value.pointer (some { block := k19, off := 0 })]] w22 fun e9 w23 =>
            (e9 = Ending.returned (Value.tuple #[])) ∧
            (Keep ([k1]) w22 w23) ∧
            slcc (p7) (k21) (0) (divZ BinOp.quo IntKind.i64 (↑k20 : Int) 2) (4) fun p8 k22 k23 =>
            Calls P F.quant_bag_api_Color_put #[Value.pointer (some { block := k14, off := 0 }), Value.slice p8 k22 k23] w23 fun e10 w24 =>
            (e10 = Ending.returned (Value.tuple #[])) ∧
            (Keep ([k1]) w23 w24) ∧
            slcc (p7) (k21) (divZ BinOp.quo IntKind.i64 (↑k20 : Int) 2) ((↑k20 : Int)) (4) fun p9 k24 k25 =>
            Calls P F.quant_bag_api_Color_put #[Value.pointer (some { block := k14, off := 0 }), Value.slice p9 k24 k25] w24 fun e11 w25 =>
            (e11 = Ending.returned (Value.tuple #[])) ∧
            (Keep ([k1]) w24 w25) ∧
            (I3 [] w25) ∧
            m2 [] w25 < m2 [] w18)
            (∃ p10 : Option Addr,
            ∃ k26 : Nat,
            ∃ k27 : Nat,
            (w18.cell? { block := k14, off := 0 } = some (Value.slice p10 k26 k27)) ∧
            ∃ I4 : List Value → World → Prop,
            ∃ m3 : List Value → World → Nat,
            (I4 [Value.slice none 0 0, Value.int IntKind.i64 0] w18) ∧
            ∀ p11 : Option Addr,
            ∀ k28 : Nat,
            ∀ k29 : Nat,
            ∀ n11 : Int,
            ∀ w26 : World,
            (I4 [Value.slice p11 k28 k29, Value.int IntKind.i64 n11] w26) →
            brB (decide (n11 < (↑k26 : Int)))
              (idx (p10) (k26) (n11) (1) fun a2 =>
              ∃ p12 : Option Addr,
              ∃ k30 : Nat,
              ∃ k31 : Nat,
              (w26.cell? a2 = some (Value.slice p12 k30 k31)) ∧
              idx (p12) (k30) (divZ BinOp.quo IntKind.i64 (↑k30 : Int) 2) (4) fun a3 =>
              ∃ n12 : Int,
              ∃ n13 : Int,
              ∃ n14 : Int,
              ∃ n15 : Int,
              (w26.cell? a3 = some (Value.int IntKind.u16 n12)) ∧
              (w26.cell? (a3.add 1) = some (Value.int IntKind.u16 n13)) ∧
              (w26.cell? (a3.add 2) = some (Value.int IntKind.u16 n14)) ∧
              (w26.cell? (a3.add 3) = some (Value.int IntKind.u16 n15)) ∧
              ∀ k32 : Nat,
              (w26.heap.size ≤ k32) →
              ∀ w27 : World,
              (Locl ([k32, k1]) w26 w27) →
              appVC (w27) ([(111, k32, [Value.int IntKind.u16 n12, Value.int IntKind.u16 n13, Value.int IntKind.u16 n14, Value.int IntKind.u16 n15]), (2, k1, [Value.int IntKind.i64 x1, Value.int IntKind.i64 x2, Value.slice sa1 sl1 sc1])]) (p11) (k28) (k29) (1) (4) (8) (46) ([Value.int IntKind.u16 0, Value.int IntKind.u16 0, Value.int IntKind.u16 0, Value.int IntKind.u16 0]) ([Value.int IntKind.u16 n12, Value.int IntKind.u16 n13, Value.int IntKind.u16 n14, Value.int IntKind.u16 n15]) fun p13 k33 k34 w28 =>
              (I4 [Value.slice p13 k33 k34, Value.int IntKind.i64 (IntKind.i64.wrap (n11 + 1))] w28) ∧
              m3 [Value.slice p13 k33 k34, Value.int IntKind.i64 (IntKind.i64.wrap (n11 + 1))] w28 < m3 [Value.slice p11 k28 k29, Value.int IntKind.i64 n11] w26)
              (R (Ending.returned (Value.tuple #[Value.slice p11 k28 k29, Value.int IntKind.i64 0])) w26))))))
theorem calls_quant_Palette (x1 : Int) (x2 : Int) (sa1 : Option Addr) (sl1 sc1 : Nat) (x3 : Int) (w : World) (R : Ending → World → Prop) (h : vc_quant_Palette x1 x2 sa1 sl1 sc1 x3 w R) : Calls P F.quant_Palette #[.agg #[.int .i64 x1, .int .i64 x2, .slice sa1 sl1 sc1], .int .i64 x3] w R :=
  calls_of_vc (fn := Try.f9) (ac := ac_quant_Palette) (args := [.agg #[.int .i64 x1, .int .i64 x2, .slice sa1 sl1 sc1], .int .i64 x3]) mixed Try.func9 (by kernel_rfl) (cast (by unfold vc_quant_Palette FnVc; kernel_rfl) h)
/-- darkroom/darkroomlaw14.own -/
def vc_law14_own (x1 : Int) (x2 : Int) (sa1 : Option Addr) (sl1 sc1 : Nat) (w : World) (R : Ending → World → Prop) : Prop :=
  ∀ k1 : Nat,
  (w.heap.size ≤ k1) →
  ∀ k2 : Nat,
  (w.heap.size ≤ k2) →
  ∀ w1 : World,
  (Locl ([k2, k1]) w w1) →
  Calls P F.ref09_Copy #[Value.agg #[Value.int IntKind.i64 x1, Value.int IntKind.i64 x2, Value.slice sa1 sl1 sc1]] w1 fun e1 w2 =>
  ∃ n1 : Int,
  ∃ n2 : Int,
  ∃ p1 : Option Addr,
  ∃ k3 : Nat,
  ∃ k4 : Nat,
  (e1 = Ending.returned (Value.agg #[Value.int IntKind.i64 n1, Value.int IntKind.i64 n2, Value.slice p1 k3 k4])) ∧
  (Keep ([k2, k1]) w1 w2) ∧
  ∀ w3 : World,
  (Locl ([k2, k1]) w2 w3) →
  R (Ending.returned (Value.agg #[Value.int IntKind.i64 n1, Value.int IntKind.i64 n2, Value.slice p1 k3 k4])) w3
theorem calls_law14_own (x1 : Int) (x2 : Int) (sa1 : Option Addr) (sl1 sc1 : Nat) (w : World) (R : Ending → World → Prop) (h : vc_law14_own x1 x2 sa1 sl1 sc1 w R) : Calls P F.law14_own #[.agg #[.int .i64 x1, .int .i64 x2, .slice sa1 sl1 sc1]] w R :=
  calls_of_vc (fn := Try.f10) (ac := ac_law14_own) (args := [.agg #[.int .i64 x1, .int .i64 x2, .slice sa1 sl1 sc1]]) mixed Try.func10 (by kernel_rfl) (cast (by unfold vc_law14_own FnVc; kernel_rfl) h)
/-- darkroom/darkroomref09.Good -/
def vc_ref09_Good (x1 : Int) (x2 : Int) (sa1 : Option Addr) (sl1 sc1 : Nat) (w : World) (R : Ending → World → Prop) : Prop :=
  ∀ k1 : Nat,
  (w.heap.size ≤ k1) →
  ∀ w1 : World,
  (Locl ([k1]) w w1) →
  Calls P F.ref07_Fits #[Value.int IntKind.i64 x1, Value.int IntKind.i64 x2] w1 fun e1 w2 =>
  ∃ c1 : Bool,
  (e1 = Ending.returned (Value.bool c1)) ∧
  (Keep ([k1]) w1 w2) ∧
  R (Ending.returned (Value.bool (c1 && (↑sl1 : Int) == IntKind.i64.wrap (IntKind.i64.wrap (4 * x1) * x2)))) w2
theorem calls_ref09_Good (x1 : Int) (x2 : Int) (sa1 : Option Addr) (sl1 sc1 : Nat) (w : World) (R : Ending → World → Prop) (h : vc_ref09_Good x1 x2 sa1 sl1 sc1 w R) : Calls P F.ref09_Good #[.agg #[.int .i64 x1, .int .i64 x2, .slice sa1 sl1 sc1]] w R :=
  calls_of_vc (fn := Try.f11) (ac := ac_ref09_Good) (args := [.agg #[.int .i64 x1, .int .i64 x2, .slice sa1 sl1 sc1]]) mixed Try.func11 (by kernel_rfl) (cast (by unfold vc_ref09_Good FnVc; kernel_rfl) h)
/-- darkroom/darkroomref14.May -/
def vc_ref14_May (x1 : Int) (x2 : Int) (sa1 : Option Addr) (sl1 sc1 : Nat) (x3 : Int) (sa2 : Option Addr) (sl2 sc2 : Nat) (w : World) (R : Ending → World → Prop) : Prop :=
  ∀ k1 : Nat,
  (w.heap.size ≤ k1) →
  ∀ w1 : World,
  (Locl ([k1]) w w1) →
  Calls P F.ref14_Met #[Value.agg #[Value.int IntKind.i64 x1, Value.int IntKind.i64 x2, Value.slice sa1 sl1 sc1], Value.int IntKind.i64 x3] w1 fun e1 w2 =>
  ∃ p1 : Option Addr,
  ∃ k2 : Nat,
  ∃ k3 : Nat,
  (e1 = Ending.returned (Value.slice p1 k2 k3)) ∧
  (Keep ([k1]) w1 w2) ∧
  brB (decide ((↑k2 : Int) ≤ x3))
    (Calls P F.ref09_SameColors #[Value.slice sa2 sl2 sc2, Value.slice p1 k2 k3] w2 fun e2 w3 =>
    ∃ c1 : Bool,
    (e2 = Ending.returned (Value.bool c1)) ∧
    (Keep ([k1]) w2 w3) ∧
    R (Ending.returned (Value.bool c1)) w3)
    (Calls P F.ref14_Range #[Value.agg #[Value.int IntKind.i64 x1, Value.int IntKind.i64 x2, Value.slice sa1 sl1 sc1]] w2 fun e3 w4 =>
    ∃ n1 : Int,
    ∃ n2 : Int,
    ∃ n3 : Int,
    ∃ n4 : Int,
    ∃ n5 : Int,
    ∃ n6 : Int,
    ∃ n7 : Int,
    ∃ n8 : Int,
    (e3 = Ending.returned (Value.tuple #[Value.agg #[Value.int IntKind.u16 n1, Value.int IntKind.u16 n2, Value.int IntKind.u16 n3, Value.int IntKind.u16 n4], Value.agg #[Value.int IntKind.u16 n5, Value.int IntKind.u16 n6, Value.int IntKind.u16 n7, Value.int IntKind.u16 n8]])) ∧
    (Keep ([k1]) w2 w4) ∧
    ∀ k4 : Nat,
    (w4.heap.size ≤ k4) →
    ∀ k5 : Nat,
    (w4.heap.size ≤ k5) →
    ∃ I1 : List Value → World → Prop,
    ∃ m1 : List Value → World → Nat,
    (∀ w5 : World,
      (Locl ([k5, k4, k1]) w4 w5) →
      I1 [Value.int IntKind.i64 0] w5) ∧
    ∀ n9 : Int,
    ∀ w6 : World,
    (I1 [Value.int IntKind.i64 n9] w6) →
    brB (decide (n9 < (↑sl2 : Int)))
      (idx (sa2) (sl2) (n9) (4) fun a1 =>
      ∃ n10 : Int,
      ∃ n11 : Int,
      ∃ n12 : Int,
      ∃ n13 : Int,
      (w6.cell? a1 = some (Value.int IntKind.u16 n10)) ∧
      (w6.cell? (a1.add 1) = some (Value.int IntKind.u16 n11)) ∧
      (w6.cell? (a1.add 2) = some (Value.int IntKind.u16 n12)) ∧
      (w6.cell? (a1.add 3) = some (Value.int IntKind.u16 n13)) ∧
      ∀ k6 : Nat,
      (w6.heap.size ≤ k6) →
      ∀ w7 : World,
      (Locl ([k6, k5, k4, k1]) w6 w7) →
      Calls P F.ref14_depth8 #[Value.agg #[Value.int IntKind.u16 n10, Value.int IntKind.u16 n11, Value.int IntKind.u16 n12, Value.int IntKind.u16 n13]] w7 fun e4 w8 =>
      ∃ c2 : Bool,
      (e4 = Ending.returned (Value.bool c2)) ∧
      (Keep ([k6, k5, k4, k1]) w7 w8) ∧
      brB (!c2)
        (R (Ending.returned (Value.bool false)) w8)
        (Calls P F.ref09_Place #[Value.slice sa2 sl2 sc2, Value.agg #[Value.int IntKind.u16 n10, Value.int IntKind.u16 n11, Value.int IntKind.u16 n12, Value.int IntKind.u16 n13]] w8 fun e5 w9 =>
        ∃ n14 : Int,
        (e5 = Ending.returned (Value.int IntKind.i64 n14)) ∧
        (Keep ([k6, k5, k4, k1]) w8 w9) ∧
        brB (n14 != n9 || decide (n10 < n1) || decide (n10 > n5) || decide (n11 < n2) || decide (n11 > n6) || decide (n12 < n3) || decide (n12 > n7))
          (R (Ending.returned (Value.bool false)) w9)
          ((I1 [Value.int IntKind.i64 (IntKind.i64.wrap (n9 + 1))] w9) ∧
          m1 [Value.int IntKind.i64 (IntKind.i64.wrap (n9 + 1))] w9 < m1 [Value.int IntKind.i64 n9] w6)))
      (R (Ending.returned (Value.bool ((↑sl2 : Int) == x3))) w6))
theorem calls_ref14_May (x1 : Int) (x2 : Int) (sa1 : Option Addr) (sl1 sc1 : Nat) (x3 : Int) (sa2 : Option Addr) (sl2 sc2 : Nat) (w : World) (R : Ending → World → Prop) (h : vc_ref14_May x1 x2 sa1 sl1 sc1 x3 sa2 sl2 sc2 w R) : Calls P F.ref14_May #[.agg #[.int .i64 x1, .int .i64 x2, .slice sa1 sl1 sc1], .int .i64 x3, .slice sa2 sl2 sc2] w R :=
  calls_of_vc (fn := Try.f12) (ac := ac_ref14_May) (args := [.agg #[.int .i64 x1, .int .i64 x2, .slice sa1 sl1 sc1], .int .i64 x3, .slice sa2 sl2 sc2]) mixed Try.func12 (by kernel_rfl) (cast (by unfold vc_ref14_May FnVc; kernel_rfl) h)
/-- darkroom/quant.Apply -/
def vc_quant_Apply (x1 : Int) (x2 : Int) (sa1 : Option Addr) (sl1 sc1 : Nat) (sa2 : Option Addr) (sl2 sc2 : Nat) (w : World) (R : Ending → World → Prop) : Prop :=
  ∀ k1 : Nat,
  (w.heap.size ≤ k1) →
  ∀ k2 : Nat,
  (w.heap.size ≤ k2) →
  ∀ k3 : Nat,
  (w.heap.size ≤ k3) →
  ∀ w1 : World,
  (Locl ([k3, k2, k1]) w w1) →
  Calls P F.raster_Grid #[Value.agg #[Value.int IntKind.i64 x1, Value.int IntKind.i64 x2, Value.slice sa1 sl1 sc1]] w1 fun e1 w2 =>
  ∃ p1 : Option Addr,
  ∃ n1 : Int,
  (e1 = Ending.returned (Value.tuple #[Value.pointer p1, Value.int IntKind.i64 n1])) ∧
  (Keep ([k3, k2, k1]) w1 w2) ∧
  brB (n1 != 0)
    (∀ w3 : World,
    (Locl ([k3, k2, k1]) w2 w3) →
    R (Ending.returned (Value.tuple #[Value.agg #[Value.int IntKind.i64 0, Value.int IntKind.i64 0, Value.slice none 0 0, Value.slice none 0 0], Value.int IntKind.i64 n1])) w3)
    (brB (decide ((↑sl2 : Int) < 1) || decide ((↑sl2 : Int) > 256))
      (∀ w4 : World,
      (Locl ([k3, k2, k1]) w2 w4) →
      R (Ending.returned (Value.tuple #[Value.agg #[Value.int IntKind.i64 0, Value.int IntKind.i64 0, Value.slice none 0 0, Value.slice none 0 0], Value.int IntKind.i64 2])) w4)
      (Calls P F.slices_IndexFunc_api_Color #[Value.slice sa2 sl2 sc2, Value.func (Fn.func 42) #[] #[]] w2 fun e2 w5 =>
      ∃ n2 : Int,
      (e2 = Ending.returned (Value.int IntKind.i64 n2)) ∧
      (Keep ([k3, k2, k1]) w2 w5) ∧
      ∀ k4 : Nat,
      (w5.heap.size ≤ k4) →
      ∀ w6 : World,
      (Locl ([k4, k3, k2, k1]) w5 w6) →
      ∀ k5 : Nat,
      ∀ w7 : World,
      (New w6 (Obj.map #[] 0) k5 w7) →
      ∀ k6 : Nat,
      (w7.heap.size ≤ k6) →
      ∃ I1 : List Value → World → Prop,
      ((∀ w8 : World,
          (Locl ([k6, k4, k3, k2, k1]) w7 w8) →
          Calls P F.slices_Clone_api_Color #[Value.slice sa2 sl2 sc2] w8 fun e3 w9 =>
          ∃ p2 : Option Addr,
          ∃ k7 : Nat,
          ∃ k8 : Nat,
          (e3 = Ending.returned (Value.slice p2 k7 k8)) ∧
          (Keep ([k6, k4, k3, k2, k1]) w8 w9) ∧
          (Keeps w8 w9) ∧
          ∀ k9 : Nat,
          (w9.heap.size ≤ k9) →
          ∀ w10 : World,
          (Locl ([k9, k6, k4, k3, k2, k1]) w9 w10) →
          I1 [Value.pointer (some { block := k9, off := 0 }), Value.int IntKind.i64 x1, Value.int IntKind.i64 x2, Value.slice p2 k7 k8, Value.slice none 0 0] w10) ∧
        ∀ k10 : Nat,
        (w7.heap.size ≤ k10) →
        ∀ w11 : World,
        (Locl ([k10, k6, k4, k3, k2, k1]) w7 w11) →
        Calls P F.slices_Clone_api_Color #[Value.slice sa2 sl2 sc2] w11 fun e4 w12 =>
        ∃ p3 : Option Addr,
        ∃ k11 : Nat,
        ∃ k12 : Nat,
        (e4 = Ending.returned (Value.slice p3 k11 k12)) ∧
        (Keep ([k10, k6, k4, k3, k2, k1]) w11 w12) ∧
        (Keeps w11 w12) ∧
        ∀ w13 : World,
        (Locl ([k10, k6, k4, k3, k2, k1]) w12 w13) →
        I1 [Value.pointer (some { block := k10, off := 0 }), Value.int IntKind.i64 x1, Value.int IntKind.i64 x2, Value.slice p3 k11 k12, Value.slice none 0 0] w13) ∧
      ∀ k13 : Nat,
      ∀ n3 : Int,
      ∀ n4 : Int,
      ∀ p4 : Option Addr,
      ∀ k14 : Nat,
      ∀ k15 : Nat,
      ∀ p5 : Option Addr,
      ∀ k16 : Nat,
      ∀ k17 : Nat,
      ∀ w14 : World,
      (I1 [Value.pointer (some { block := k13, off := 0 }), Value.int IntKind.i64 n3, Value.int IntKind.i64 n4, Value.slice p4 k14 k15, Value.slice p5 k16 k17] w14) →
      Calls P F.grid_Grid_api_Color_All #[Value.pointer p1] w14 fun e5 w15 =>
      ∃ y1 : FuncId,
      ∃ y2 : Array Value,
      ∃ y3 : Array Value,
      (e5 = Ending.returned (Value.func (Fn.func y1) y2 y3)) ∧
      (Keep ([k13, k6, k4, k3, k2, k1]) w14 w15) ∧
      ∀ k18 : Nat,
      ∀ w16 : World,
      (Rf w15 w16 k18) →
      ∀ I2 : List Value → World → Prop,
      ∀ Z1 : Exit → List Value → World → Prop,
      (∀ l1 : List Value,
      ∀ w17 : World,
      ∀ w18 : World,
      (I2 l1 w17) →
      (Keep ([k18, w15.heap.size, k13, k6, k4, k3, k2, k1]) w17 w18) →
      I2 l1 w18) →
      (∀ y4 : Exit,
      ∀ l2 : List Value,
      ∀ w19 : World,
      ∀ w20 : World,
      (Z1 y4 l2 w19) →
      (Keep ([k18, w15.heap.size, k13, k6, k4, k3, k2, k1]) w19 w20) →
      Z1 y4 l2 w20) →
      (I2 [Value.int IntKind.i64 n3, Value.int IntKind.i64 n4, Value.slice p4 k14 k15, Value.slice p5 k16 k17] w16) →
      (∀ n5 : Int,
      ∀ n6 : Int,
      ∀ p6 : Option Addr,
      ∀ k19 : Nat,
      ∀ k20 : Nat,
      ∀ p7 : Option Addr,
      ∀ k21 : Nat,
      ∀ k22 : Nat,
      ∀ n7 : Int,
      ∀ n8 : Int,
      ∀ n9 : Int,
      ∀ n10 : Int,
      ∀ n11 : Int,
      ∀ n12 : Int,
      ∀ w21 : World,
      ∀ I3 : Ending → World → Prop,
      (I2 [Value.int IntKind.i64 n5, Value.int IntKind.i64 n6, Value.slice p6 k19 k20, Value.slice p7 k21 k22] w21) →
      (∀ y5 : Obj,
      ∀ y6 : Obj,
      ∀ k23 : Nat,
      (w21.heap.size ≤ k23) →
      ∀ w22 : World,
      (Locl ([k23, k13, k6, k4, k3, k2, k1]) w21 w22) →
      ∀ w23 : World,
      (Put k18 w22 w23) →
      ∃ I4 : List Value → World → Prop,
      (brB (decide (n2 < 0))
          (Calls P F.quant_eight #[Value.agg #[Value.int IntKind.u16 n9, Value.int IntKind.u16 n10, Value.int IntKind.u16 n11, Value.int IntKind.u16 n12]] w23 fun e6 w24 =>
          ∃ n13 : Int,
          ∃ n14 : Int,
          ∃ n15 : Int,
          ∃ n16 : Int,
          (e6 = Ending.returned (Value.agg #[Value.int IntKind.u16 n13, Value.int IntKind.u16 n14, Value.int IntKind.u16 n15, Value.int IntKind.u16 n16])) ∧
          (Keep ([k18, w15.heap.size, k23, k13, k6, k4, k3, k2, k1]) w23 w24) ∧
          ∀ w25 : World,
          (Locl ([k23, k13, k6, k4, k3, k2, k1]) w24 w25) →
          mapIn (Kd.agg [IntKind.u16, IntKind.u16, IntKind.u16, IntKind.u16]) (w25) (Value.map (some k5)) fun l3 =>
          ∃ n17 : Int,
          ∃ c1 : Bool,
          (mgot l3 (Value.agg #[Value.int IntKind.u16 n13, Value.int IntKind.u16 n14, Value.int IntKind.u16 n15, Value.int IntKind.u16 n16]) (Value.int IntKind.i64 0) = (Value.int IntKind.i64 n17, c1)) ∧
          brB (!c1)
            (Calls P F.tones_Nearest #[Value.slice sa2 sl2 sc2, Value.agg #[Value.int IntKind.u16 n13, Value.int IntKind.u16 n14, Value.int IntKind.u16 n15, Value.int IntKind.u16 n16]] w25 fun e7 w26 =>
            ∃ n18 : Int,
            (e7 = Ending.returned (Value.int IntKind.i64 n18)) ∧
            (Keep ([k18, w15.heap.size, k23, k13, k6, k4, k3, k2, k1]) w25 w26) ∧
            mapTo (Kd.agg [IntKind.u16, IntKind.u16, IntKind.u16, IntKind.u16]) (w26) (Value.map (some k5)) fun b1 l4 =>
            ∀ w27 : World,
            (Put b1 w26 w27) →
            (Mp (Kd.agg [IntKind.u16, IntKind.u16, IntKind.u16, IntKind.u16]) w27 b1 (mput (Value.agg #[Value.int IntKind.u16 n13, Value.int IntKind.u16 n14, Value.int IntKind.u16 n15, Value.int IntKind.u16 n16]) (Value.int IntKind.i64 n18) l4)) →
            I4 [Value.int IntKind.i64 n18, Value.int IntKind.u16 n13, Value.int IntKind.u16 n14, Value.int IntKind.u16 n15, Value.int IntKind.u16 n16] w27)
            (I4 [Value.int IntKind.i64 n17, Value.int IntKind.u16 n13, Value.int IntKind.u16 n14, Value.int IntKind.u16 n15, Value.int IntKind.u16 n16] w25))
          (Calls P F.quant_clear #[Value.agg #[Value.int IntKind.u16 n9, Value.int IntKind.u16 n10, Value.int IntKind.u16 n11, Value.int IntKind.u16 n12]] w23 fun e8 w28 =>
          ∃ c2 : Bool,
          (e8 = Ending.returned (Value.bool c2)) ∧
          (Keep ([k18, w15.heap.size, k23, k13, k6, k4, k3, k2, k1]) w23 w28) ∧
          brB (!c2)
            (Calls P F.quant_eight #[Value.agg #[Value.int IntKind.u16 n9, Value.int IntKind.u16 n10, Value.int IntKind.u16 n11, Value.int IntKind.u16 n12]] w28 fun e9 w29 =>
            ∃ n19 : Int,
            ∃ n20 : Int,
            ∃ n21 : Int,
            ∃ n22 : Int,
            (e9 = Ending.returned (Value.agg #[Value.int IntKind.u16 n19, Value.int IntKind.u16 n20, Value.int IntKind.u16 n21, Value.int IntKind.u16 n22])) ∧
            (Keep ([k18, w15.heap.size, k23, k13, k6, k4, k3, k2, k1]) w28 w29) ∧
            ∀ w30 : World,
            (Locl ([k23, k13, k6, k4, k3, k2, k1]) w29 w30) →
            mapIn (Kd.agg [IntKind.u16, IntKind.u16, IntKind.u16, IntKind.u16]) (w30) (Value.map (some k5)) fun l5 =>
            ∃ n23 : Int,
            ∃ c3 : Bool,
            (mgot l5 (Value.agg #[Value.int IntKind.u16 n19, Value.int IntKind.u16 n20, Value.int IntKind.u16 n21, Value.int IntKind.u16 n22]) (Value.int IntKind.i64 0) = (Value.int IntKind.i64 n23, c3)) ∧
            brB (!c3)
              (Calls P F.tones_Nearest #[Value.slice sa2 sl2 sc2, Value.agg #[Value.int IntKind.u16 n19, Value.int IntKind.u16 n20, Value.int IntKind.u16 n21, Value.int IntKind.u16 n22]] w30 fun e10 w31 =>
              ∃ n24 : Int,
              (e10 = Ending.returned (Value.int IntKind.i64 n24)) ∧
              (Keep ([k18, w15.heap.size, k23, k13, k6, k4, k3, k2, k1]) w30 w31) ∧
              mapTo (Kd.agg [IntKind.u16, IntKind.u16, IntKind.u16, IntKind.u16]) (w31) (Value.map (some k5)) fun b2 l6 =>
              ∀ w32 : World,
              (Put b2 w31 w32) →
              (Mp (Kd.agg [IntKind.u16, IntKind.u16, IntKind.u16, IntKind.u16]) w32 b2 (mput (Value.agg #[Value.int IntKind.u16 n19, Value.int IntKind.u16 n20, Value.int IntKind.u16 n21, Value.int IntKind.u16 n22]) (Value.int IntKind.i64 n24) l6)) →
              I4 [Value.int IntKind.i64 n24, Value.int IntKind.u16 n19, Value.int IntKind.u16 n20, Value.int IntKind.u16 n21, Value.int IntKind.u16 n22] w32)
              (I4 [Value.int IntKind.i64 n23, Value.int IntKind.u16 n19, Value.int IntKind.u16 n20, Value.int IntKind.u16 n21, Value.int IntKind.u16 n22] w30))
            (I4 [Value.int IntKind.i64 n2, Value.int IntKind.u16 n9, Value.int IntKind.u16 n10, Value.int IntKind.u16 n11, Value.int IntKind.u16 n12] w28))) ∧
      ∀ n25 : Int,
      ∀ n26 : Int,
      ∀ n27 : Int,
      ∀ n28 : Int,
      ∀ n29 : Int,
      ∀ w33 : World,
      (I4 [Value.int IntKind.i64 n25, Value.int IntKind.u16 n26, Value.int IntKind.u16 n27, Value.int IntKind.u16 n28, Value.int IntKind.u16 n29] w33) →
      ∀ k24 : Nat,
      (w33.heap.size ≤ k24) →
      ∀ w34 : World,
      (Locl ([k24, k23, k13, k6, k4, k3, k2, k1]) w33 w34) →
      appVC (w34) ([(77, k24, [Value.int IntKind.u8 (IntKind.u8.wrap n25)]), (12, k23, [Value.int IntKind.u16 n26, Value.int IntKind.u16 n27, Value.int IntKind.u16 n28, Value.int IntKind.u16 n29]), (10, k13, [Value.int IntKind.i64 n5, Value.int IntKind.i64 n6, Value.slice p6 k19 k20, Value.slice p7 k21 k22]), (9, k6, [Value.map (some k5)]), (8, k4, [Value.int IntKind.i64 n2]), (4, k3, [Value.int IntKind.i64 0, Value.int IntKind.i64 0, Value.slice none 0 0, Value.slice none 0 0]), (3, k2, [Value.slice sa2 sl2 sc2]), (2, k1, [Value.int IntKind.i64 x1, Value.int IntKind.i64 x2, Value.slice sa1 sl1 sc1])]) (p7) (k21) (k22) (1) (1) (1) (5) ([Value.int IntKind.u8 0]) ([Value.int IntKind.u8 (IntKind.u8.wrap n25)]) fun p8 k25 k26 w35 =>
      ∀ w36 : World,
      (Locl ([k24, k23, k13, k6, k4, k3, k2, k1]) w35 w36) →
      ∀ w37 : World,
      (Put k18 w36 w37) →
      (I2 [Value.int IntKind.i64 n5, Value.int IntKind.i64 n6, Value.slice p6 k19 k20, Value.slice p8 k25 k26] w37) →
      I3 (Ending.returned (Value.bool true)) w37) →
      YieldAt Fence.wide 0 P (k18) #[Value.agg #[Value.int IntKind.i64 n7, Value.int IntKind.i64 n8], Value.agg #[Value.int IntKind.u16 n9, Value.int IntKind.u16 n10, Value.int IntKind.u16 n11, Value.int IntKind.u16 n12]] (w21) I3) →
      callF P (Value.func (Fn.func y1) y2 y3) [Value.func (Fn.yield k18) #[] #[]] w16 fun e11 w38 =>
      ∃ v1 : Value,
      (e11 = Ending.returned v1) ∧
      ((∃ n30 : Int,
        ∃ n31 : Int,
        ∃ p9 : Option Addr,
        ∃ k27 : Nat,
        ∃ k28 : Nat,
        ∃ p10 : Option Addr,
        ∃ k29 : Nat,
        ∃ k30 : Nat,
        (I2 [Value.int IntKind.i64 n30, Value.int IntKind.i64 n31, Value.slice p9 k27 k28, Value.slice p10 k29 k30] w38) ∧
        ∀ w39 : World,
        (Put k18 w38 w39) →
        ∀ w40 : World,
        (Locl ([k13, k6, k4, k3, k2, k1]) w39 w40) →
        ∀ w41 : World,
        (Put (w15.heap.size) w40 w41) →
        R (Ending.returned (Value.tuple #[Value.agg #[Value.int IntKind.i64 n30, Value.int IntKind.i64 n31, Value.slice p9 k27 k28, Value.slice p10 k29 k30], Value.int IntKind.i64 0])) w41) ∨
      (False))))
theorem calls_quant_Apply (x1 : Int) (x2 : Int) (sa1 : Option Addr) (sl1 sc1 : Nat) (sa2 : Option Addr) (sl2 sc2 : Nat) (w : World) (R : Ending → World → Prop) (h : vc_quant_Apply x1 x2 sa1 sl1 sc1 sa2 sl2 sc2 w R) : Calls P F.quant_Apply #[.agg #[.int .i64 x1, .int .i64 x2, .slice sa1 sl1 sc1], .slice sa2 sl2 sc2] w R :=
  calls_of_vc (fn := Try.f13) (ac := ac_quant_Apply) (args := [.agg #[.int .i64 x1, .int .i64 x2, .slice sa1 sl1 sc1], .slice sa2 sl2 sc2]) mixed Try.func13 (by kernel_rfl) (cast (by unfold vc_quant_Apply FnVc; kernel_rfl) h)
/-- darkroom/darkroomlaw14.colours -/
def vc_law14_colours (sa1 : Option Addr) (sl1 sc1 : Nat) (w : World) (R : Ending → World → Prop) : Prop :=
  ∀ k1 : Nat,
  ∀ w1 : World,
  (New w (Obj.cells #[] 46) k1 w1) →
  ∃ l1 : List Value,
  (l1.length = sl1 * 4) ∧
  (oneAll l1 = true) ∧
  (CellsAre w1 sa1 l1) ∧
  appVC (w1) ([]) (some { block := k1, off := 0 }) (0) (0) (sl1) (4) (8) (46) ([Value.int IntKind.u16 0, Value.int IntKind.u16 0, Value.int IntKind.u16 0, Value.int IntKind.u16 0]) (l1) fun p1 k2 k3 w2 =>
  R (Ending.returned (Value.slice p1 k2 k3)) w2
theorem calls_law14_colours (sa1 : Option Addr) (sl1 sc1 : Nat) (w : World) (R : Ending → World → Prop) (h : vc_law14_colours sa1 sl1 sc1 w R) : Calls P F.law14_colours #[.slice sa1 sl1 sc1] w R :=
  calls_of_vc (fn := Try.f14) (ac := ac_law14_colours) (args := [.slice sa1 sl1 sc1]) mixed Try.func14 (by kernel_rfl) (cast (by unfold vc_law14_colours FnVc; kernel_rfl) h)
/-- darkroom/darkroomref14.Apply -/
def vc_ref14_Apply (x1 : Int) (x2 : Int) (sa1 : Option Addr) (sl1 sc1 : Nat) (sa2 : Option Addr) (sl2 sc2 : Nat) (w : World) (R : Ending → World → Prop) : Prop :=
  ∀ k1 : Nat,
  (w.heap.size ≤ k1) →
  ∀ k2 : Nat,
  (w.heap.size ≤ k2) →
  ∀ w1 : World,
  (Locl ([k2, k1]) w w1) →
  Calls P F.ref09_Good #[Value.agg #[Value.int IntKind.i64 x1, Value.int IntKind.i64 x2, Value.slice sa1 sl1 sc1]] w1 fun e1 w2 =>
  ∃ c1 : Bool,
  (e1 = Ending.returned (Value.bool c1)) ∧
  (Keep ([k2, k1]) w1 w2) ∧
  brB (!c1)
    (∀ w3 : World,
    (Locl ([k2, k1]) w2 w3) →
    R (Ending.returned (Value.tuple #[Value.agg #[Value.int IntKind.i64 0, Value.int IntKind.i64 0, Value.slice none 0 0, Value.slice none 0 0], Value.int IntKind.i64 6])) w3)
    (brB (decide ((↑sl2 : Int) < 1) || decide ((↑sl2 : Int) > 256))
      (∀ w4 : World,
      (Locl ([k2, k1]) w2 w4) →
      R (Ending.returned (Value.tuple #[Value.agg #[Value.int IntKind.i64 0, Value.int IntKind.i64 0, Value.slice none 0 0, Value.slice none 0 0], Value.int IntKind.i64 2])) w4)
      (∃ I1 : List Value → World → Prop,
      ∃ m1 : List Value → World → Nat,
      (I1 [Value.int IntKind.i64 (-1), Value.int IntKind.i64 (IntKind.i64.wrap ((↑sl2 : Int) - 1))] w2) ∧
      ∀ n1 : Int,
      ∀ n2 : Int,
      ∀ w5 : World,
      (I1 [Value.int IntKind.i64 n1, Value.int IntKind.i64 n2] w5) →
      brB (decide (n2 ≥ 0))
        (∃ I2 : List Value → World → Prop,
        (idx (sa2) (sl2) (n2) (4) fun a1 =>
          ∃ n3 : Int,
          (w5.cell? (a1.add 3) = some (Value.int IntKind.u16 n3)) ∧
          brB (n3 == 0)
            (I2 [Value.int IntKind.i64 n2] w5)
            (I2 [Value.int IntKind.i64 n1] w5)) ∧
        ∀ n4 : Int,
        ∀ w6 : World,
        (I2 [Value.int IntKind.i64 n4] w6) →
        (I1 [Value.int IntKind.i64 n4, Value.int IntKind.i64 (IntKind.i64.wrap (n2 - 1))] w6) ∧
        m1 [Value.int IntKind.i64 n4, Value.int IntKind.i64 (IntKind.i64.wrap (n2 - 1))] w6 < m1 [Value.int IntKind.i64 n1, Value.int IntKind.i64 n2] w5)
        (∃ I3 : List Value → World → Prop,
        ((∀ k3 : Nat,
            ∀ w7 : World,
            (New (w5.drew) (Obj.cells #[] 46) k3 w7) →
            (∃ l1 : List Value,
              (l1.length = sl2 * 4) ∧
              (oneAll l1 = true) ∧
              (CellsAre w7 sa2 l1) ∧
              appVC (w7) ([(4, k2, [Value.int IntKind.i64 0, Value.int IntKind.i64 0, Value.slice none 0 0, Value.slice none 0 0]), (2, k1, [Value.int IntKind.i64 x1, Value.int IntKind.i64 x2, Value.slice sa1 sl1 sc1])]) (some { block := k3, off := 0 }) (0) (0) (sl2) (4) (8) (46) ([Value.int IntKind.u16 0, Value.int IntKind.u16 0, Value.int IntKind.u16 0, Value.int IntKind.u16 0]) (l1) fun p1 k4 k5 w8 =>
              ∀ k6 : Nat,
              (w8.heap.size ≤ k6) →
              ∀ w9 : World,
              (Locl ([k6, k2, k1]) w8 w9) →
              I3 [Value.pointer (some { block := k6, off := 0 }), Value.int IntKind.i64 x1, Value.int IntKind.i64 x2, Value.slice p1 k4 k5, Value.slice none 0 0] w9) ∧
            ∀ k7 : Nat,
            (w7.heap.size ≤ k7) →
            ∀ w10 : World,
            (Locl ([k7, k2, k1]) w7 w10) →
            ∃ l2 : List Value,
            (l2.length = sl2 * 4) ∧
            (oneAll l2 = true) ∧
            (CellsAre w10 sa2 l2) ∧
            appVC (w10) ([(8, k7, [Value.int IntKind.i64 0, Value.int IntKind.i64 0, Value.slice none 0 0, Value.slice none 0 0]), (4, k2, [Value.int IntKind.i64 0, Value.int IntKind.i64 0, Value.slice none 0 0, Value.slice none 0 0]), (2, k1, [Value.int IntKind.i64 x1, Value.int IntKind.i64 x2, Value.slice sa1 sl1 sc1])]) (some { block := k3, off := 0 }) (0) (0) (sl2) (4) (8) (46) ([Value.int IntKind.u16 0, Value.int IntKind.u16 0, Value.int IntKind.u16 0, Value.int IntKind.u16 0]) (l2) fun p2 k8 k9 w11 =>
            ∀ w12 : World,
            (Locl ([k7, k2, k1]) w11 w12) →
            I3 [Value.pointer (some { block := k7, off := 0 }), Value.int IntKind.i64 x1, Value.int IntKind.i64 x2, Value.slice p2 k8 k9, Value.slice none 0 0] w12) ∧
          ∀ k10 : Nat,
          (w5.drew.heap.size ≤ k10) →
          ∀ w13 : World,
          (Locl ([k10, k2, k1]) (w5.drew) w13) →
          ∀ k11 : Nat,
          ∀ w14 : World,
          (New w13 (Obj.cells #[] 46) k11 w14) →
          ∃ l3 : List Value,
          (l3.length = sl2 * 4) ∧
          (oneAll l3 = true) ∧
          (CellsAre w14 sa2 l3) ∧
          appVC (w14) ([(8, k10, [Value.int IntKind.i64 0, Value.int IntKind.i64 0, Value.slice none 0 0, Value.slice none 0 0]), (4, k2, [Value.int IntKind.i64 0, Value.int IntKind.i64 0, Value.slice none 0 0, Value.slice none 0 0]), (2, k1, [Value.int IntKind.i64 x1, Value.int IntKind.i64 x2, Value.slice sa1 sl1 sc1])]) (some { block := k11, off := 0 }) (0) (0) (sl2) (4) (8) (46) ([Value.int IntKind.u16 0, Value.int IntKind.u16 0, Value.int IntKind.u16 0, Value.int IntKind.u16 0]) (l3) fun p3 k12 k13 w15 =>
          ∀ w16 : World,
          (Locl ([k10, k2, k1]) w15 w16) →
          I3 [Value.pointer (some { block := k10, off := 0 }), Value.int IntKind.i64 x1, Value.int IntKind.i64 x2, Value.slice p3 k12 k13, Value.slice none 0 0] w16) ∧
        ∀ k14 : Nat,
        ∀ n5 : Int,
        ∀ n6 : Int,
        ∀ p4 : Option Addr,
        ∀ k15 : Nat,
        ∀ k16 : Nat,
        ∀ p5 : Option Addr,
        ∀ k17 : Nat,
        ∀ k18 : Nat,
        ∀ w17 : World,
        (I3 [Value.pointer (some { block := k14, off := 0 }), Value.int IntKind.i64 n5, Value.int IntKind.i64 n6, Value.slice p4 k15 k16, Value.slice p5 k17 k18] w17) →
        ∃ I4 : List Value → World → Prop,
        ∃ m2 : List Value → World → Nat,
        (I4 [Value.int IntKind.i64 0, Value.int IntKind.i64 n5, Value.int IntKind.i64 n6, Value.slice p4 k15 k16, Value.slice p5 k17 k18] w17) ∧
        ∀ n7 : Int,
        ∀ n8 : Int,
        ∀ n9 : Int,
        ∀ p6 : Option Addr,
        ∀ k19 : Nat,
        ∀ k20 : Nat,
        ∀ p7 : Option Addr,
        ∀ k21 : Nat,
        ∀ k22 : Nat,
        ∀ w18 : World,
        (I4 [Value.int IntKind.i64 n7, Value.int IntKind.i64 n8, Value.int IntKind.i64 n9, Value.slice p6 k19 k20, Value.slice p7 k21 k22] w18) →
        brB (decide (n7 < x2))
          (∃ I5 : List Value → World → Prop,
          ∃ m3 : List Value → World → Nat,
          (I5 [Value.int IntKind.i64 0, Value.int IntKind.i64 n8, Value.int IntKind.i64 n9, Value.slice p6 k19 k20, Value.slice p7 k21 k22] w18) ∧
          ∀ n10 : Int,
          ∀ n11 : Int,
          ∀ n12 : Int,
          ∀ p8 : Option Addr,
          ∀ k23 : Nat,
          ∀ k24 : Nat,
          ∀ p9 : Option Addr,
          ∀ k25 : Nat,
          ∀ k26 : Nat,
          ∀ w19 : World,
          (I5 [Value.int IntKind.i64 n10, Value.int IntKind.i64 n11, Value.int IntKind.i64 n12, Value.slice p8 k23 k24, Value.slice p9 k25 k26] w19) →
          brB (decide (n10 < x1))
            (Calls P F.ref09_Pixel #[Value.agg #[Value.int IntKind.i64 x1, Value.int IntKind.i64 x2, Value.slice sa1 sl1 sc1], Value.int IntKind.i64 n10, Value.int IntKind.i64 n7] w19 fun e2 w20 =>
            ∃ n13 : Int,
            ∃ n14 : Int,
            ∃ n15 : Int,
            ∃ n16 : Int,
            (e2 = Ending.returned (Value.agg #[Value.int IntKind.u16 n13, Value.int IntKind.u16 n14, Value.int IntKind.u16 n15, Value.int IntKind.u16 n16])) ∧
            (Keep ([k14, k2, k1]) w19 w20) ∧
            ∀ k27 : Nat,
            (w20.heap.size ≤ k27) →
            ∃ I6 : List Value → World → Prop,
            (brB (decide (n1 < 0))
                (∀ w21 : World,
                (Locl ([k27, k14, k2, k1]) w20 w21) →
                Calls P F.ref14_Eight #[Value.agg #[Value.int IntKind.u16 n13, Value.int IntKind.u16 n14, Value.int IntKind.u16 n15, Value.int IntKind.u16 n16]] w21 fun e3 w22 =>
                ∃ n17 : Int,
                ∃ n18 : Int,
                ∃ n19 : Int,
                ∃ n20 : Int,
                (e3 = Ending.returned (Value.agg #[Value.int IntKind.u16 n17, Value.int IntKind.u16 n18, Value.int IntKind.u16 n19, Value.int IntKind.u16 n20])) ∧
                (Keep ([k27, k14, k2, k1]) w21 w22) ∧
                Calls P F.ref08_Nearest #[Value.slice sa2 sl2 sc2, Value.agg #[Value.int IntKind.u16 n17, Value.int IntKind.u16 n18, Value.int IntKind.u16 n19, Value.int IntKind.u16 n20]] w22 fun e4 w23 =>
                ∃ n21 : Int,
                (e4 = Ending.returned (Value.int IntKind.i64 n21)) ∧
                (Keep ([k27, k14, k2, k1]) w22 w23) ∧
                I6 [Value.int IntKind.i64 n21] w23)
                (∀ w24 : World,
                (Locl ([k27, k14, k2, k1]) w20 w24) →
                Calls P F.ref14_Clear #[Value.agg #[Value.int IntKind.u16 n13, Value.int IntKind.u16 n14, Value.int IntKind.u16 n15, Value.int IntKind.u16 n16]] w24 fun e5 w25 =>
                ∃ c2 : Bool,
                (e5 = Ending.returned (Value.bool c2)) ∧
                (Keep ([k27, k14, k2, k1]) w24 w25) ∧
                brB (!c2)
                  (Calls P F.ref14_Eight #[Value.agg #[Value.int IntKind.u16 n13, Value.int IntKind.u16 n14, Value.int IntKind.u16 n15, Value.int IntKind.u16 n16]] w25 fun e6 w26 =>
                  ∃ n22 : Int,
                  ∃ n23 : Int,
                  ∃ n24 : Int,
                  ∃ n25 : Int,
                  (e6 = Ending.returned (Value.agg #[Value.int IntKind.u16 n22, Value.int IntKind.u16 n23, Value.int IntKind.u16 n24, Value.int IntKind.u16 n25])) ∧
                  (Keep ([k27, k14, k2, k1]) w25 w26) ∧
                  Calls P F.ref08_Nearest #[Value.slice sa2 sl2 sc2, Value.agg #[Value.int IntKind.u16 n22, Value.int IntKind.u16 n23, Value.int IntKind.u16 n24, Value.int IntKind.u16 n25]] w26 fun e7 w27 =>
                  ∃ n26 : Int,
                  (e7 = Ending.returned (Value.int IntKind.i64 n26)) ∧
                  (Keep ([k27, k14, k2, k1]) w26 w27) ∧
                  I6 [Value.int IntKind.i64 n26] w27)
                  (I6 [Value.int IntKind.i64 n1] w25))) ∧
            ∀ n27 : Int,
            ∀ w28 : World,
            (I6 [Value.int IntKind.i64 n27] w28) →
            ∀ k28 : Nat,
            (w28.heap.size ≤ k28) →
            ∀ w29 : World,
            (Locl ([k28, k27, k14, k2, k1]) w28 w29) →
            appVC (w29) ([(80, k28, [Value.int IntKind.u8 (IntKind.u8.wrap n27)]), (11, k27, [Value.int IntKind.u16 n13, Value.int IntKind.u16 n14, Value.int IntKind.u16 n15, Value.int IntKind.u16 n16]), (8, k14, [Value.int IntKind.i64 n11, Value.int IntKind.i64 n12, Value.slice p8 k23 k24, Value.slice p9 k25 k26]), (4, k2, [Value.int IntKind.i64 0, Value.int IntKind.i64 0, Value.slice none 0 0, Value.slice none 0 0]), (2, k1, [Value.int IntKind.i64 x1, Value.int IntKind.i64 x2, Value.slice sa1 sl1 sc1])]) (p9) (k25) (k26) (1) (1) (1) (5) ([Value.int IntKind.u8 0]) ([Value.int IntKind.u8 (IntKind.u8.wrap n27)]) fun p10 k29 k30 w30 =>
            ∀ w31 : World,
            (Locl ([k28, k27, k14, k2, k1]) w30 w31) →
            (I5 [Value.int IntKind.i64 (IntKind.i64.wrap (n10 + 1)), Value.int IntKind.i64 n11, Value.int IntKind.i64 n12, Value.slice p8 k23 k24, Value.slice p10 k29 k30] w31) ∧
            m3 [Value.int IntKind.i64 (IntKind.i64.wrap (n10 + 1)), Value.int IntKind.i64 n11, Value.int IntKind.i64 n12, Value.slice p8 k23 k24, Value.slice p10 k29 k30] w31 < m3 [Value.int IntKind.i64 n10, Value.int IntKind.i64 n11, Value.int IntKind.i64 n12, Value.slice p8 k23 k24, Value.slice p9 k25 k26] w19)
            ((I4 [Value.int IntKind.i64 (IntKind.i64.wrap (n7 + 1)), Value.int IntKind.i64 n11, Value.int IntKind.i64 n12, Value.slice p8 k23 k24, Value.slice p9 k25 k26] w19) ∧
            m2 [Value.int IntKind.i64 (IntKind.i64.wrap (n7 + 1)), Value.int IntKind.i64 n11, Value.int IntKind.i64 n12, Value.slice p8 k23 k24, Value.slice p9 k25 k26] w19 < m2 [Value.int IntKind.i64 n7, Value.int IntKind.i64 n8, Value.int IntKind.i64 n9, Value.slice p6 k19 k20, Value.slice p7 k21 k22] w18))
          (∀ w32 : World,
          (Locl ([k14, k2, k1]) w18 w32) →
          R (Ending.returned (Value.tuple #[Value.agg #[Value.int IntKind.i64 n8, Value.int IntKind.i64 n9, Value.slice p6 k19 k20, Value.slice p7 k21 k22], Value.int IntKind.i64 0])) w32))))
theorem calls_ref14_Apply (x1 : Int) (x2 : Int) (sa1 : Option Addr) (sl1 sc1 : Nat) (sa2 : Option Addr) (sl2 sc2 : Nat) (w : World) (R : Ending → World → Prop) (h : vc_ref14_Apply x1 x2 sa1 sl1 sc1 sa2 sl2 sc2 w R) : Calls P F.ref14_Apply #[.agg #[.int .i64 x1, .int .i64 x2, .slice sa1 sl1 sc1], .slice sa2 sl2 sc2] w R :=
  calls_of_vc (fn := Try.f15) (ac := ac_ref14_Apply) (args := [.agg #[.int .i64 x1, .int .i64 x2, .slice sa1 sl1 sc1], .slice sa2 sl2 sc2]) mixed Try.func15 (by kernel_rfl) (cast (by unfold vc_ref14_Apply FnVc; kernel_rfl) h)
/-- darkroom/darkroomref14.SamePaletted -/
def vc_ref14_SamePaletted (x1 : Int) (x2 : Int) (sa1 : Option Addr) (sl1 sc1 : Nat) (sa2 : Option Addr) (sl2 sc2 : Nat) (x3 : Int) (x4 : Int) (sa3 : Option Addr) (sl3 sc3 : Nat) (sa4 : Option Addr) (sl4 sc4 : Nat) (w : World) (R : Ending → World → Prop) : Prop :=
  ∀ k1 : Nat,
  (w.heap.size ≤ k1) →
  ∀ k2 : Nat,
  (w.heap.size ≤ k2) →
  brB (x1 != x3 || x2 != x4 || (↑sl2 : Int) != (↑sl4 : Int))
    (∀ w1 : World,
    (Locl ([k2, k1]) w w1) →
    R (Ending.returned (Value.bool false)) w1)
    (∀ w2 : World,
    (Locl ([k2, k1]) w w2) →
    Calls P F.ref09_SameColors #[Value.slice sa1 sl1 sc1, Value.slice sa3 sl3 sc3] w2 fun e1 w3 =>
    ∃ c1 : Bool,
    (e1 = Ending.returned (Value.bool c1)) ∧
    (Keep ([k2, k1]) w2 w3) ∧
    brB (!c1)
      (R (Ending.returned (Value.bool false)) w3)
      (∃ I1 : List Value → World → Prop,
      ∃ m1 : List Value → World → Nat,
      (I1 [Value.int IntKind.i64 0] w3) ∧
      ∀ n1 : Int,
      ∀ w4 : World,
      (I1 [Value.int IntKind.i64 n1] w4) →
      brB (decide (n1 < (↑sl2 : Int)))
        (idx (sa2) (sl2) (n1) (1) fun a1 =>
        ∃ n2 : Int,
        (w4.drew.cell? a1 = some (Value.int IntKind.u8 n2)) ∧
        idx (sa4) (sl4) (n1) (1) fun a2 =>
        ∃ n3 : Int,
        (w4.drew.cell? a2 = some (Value.int IntKind.u8 n3)) ∧
        brB (n2 != n3)
          (R (Ending.returned (Value.bool false)) w4.drew)
          ((I1 [Value.int IntKind.i64 (IntKind.i64.wrap (n1 + 1))] w4.drew) ∧
          m1 [Value.int IntKind.i64 (IntKind.i64.wrap (n1 + 1))] w4.drew < m1 [Value.int IntKind.i64 n1] w4))
        (R (Ending.returned (Value.bool true)) w4)))
theorem calls_ref14_SamePaletted (x1 : Int) (x2 : Int) (sa1 : Option Addr) (sl1 sc1 : Nat) (sa2 : Option Addr) (sl2 sc2 : Nat) (x3 : Int) (x4 : Int) (sa3 : Option Addr) (sl3 sc3 : Nat) (sa4 : Option Addr) (sl4 sc4 : Nat) (w : World) (R : Ending → World → Prop) (h : vc_ref14_SamePaletted x1 x2 sa1 sl1 sc1 sa2 sl2 sc2 x3 x4 sa3 sl3 sc3 sa4 sl4 sc4 w R) : Calls P F.ref14_SamePaletted #[.agg #[.int .i64 x1, .int .i64 x2, .slice sa1 sl1 sc1, .slice sa2 sl2 sc2], .agg #[.int .i64 x3, .int .i64 x4, .slice sa3 sl3 sc3, .slice sa4 sl4 sc4]] w R :=
  calls_of_vc (fn := Try.f16) (ac := ac_ref14_SamePaletted) (args := [.agg #[.int .i64 x1, .int .i64 x2, .slice sa1 sl1 sc1, .slice sa2 sl2 sc2], .agg #[.int .i64 x3, .int .i64 x4, .slice sa3 sl3 sc3, .slice sa4 sl4 sc4]]) mixed Try.func16 (by kernel_rfl) (cast (by unfold vc_ref14_SamePaletted FnVc; kernel_rfl) h)
/-- darkroom/darkroomref09.SameColors -/
def vc_ref09_SameColors (sa1 : Option Addr) (sl1 sc1 : Nat) (sa2 : Option Addr) (sl2 sc2 : Nat) (w : World) (R : Ending → World → Prop) : Prop :=
  brB ((↑sl1 : Int) != (↑sl2 : Int))
    (R (Ending.returned (Value.bool false)) w)
    (∃ I1 : List Value → World → Prop,
    ∃ m1 : List Value → World → Nat,
    (I1 [Value.int IntKind.i64 0] w) ∧
    ∀ n1 : Int,
    ∀ w1 : World,
    (I1 [Value.int IntKind.i64 n1] w1) →
    brB (decide (n1 < (↑sl1 : Int)))
      (idx (sa1) (sl1) (n1) (4) fun a1 =>
      ∃ n2 : Int,
      ∃ n3 : Int,
      ∃ n4 : Int,
      ∃ n5 : Int,
      (w1.drew.cell? a1 = some (Value.int IntKind.u16 n2)) ∧
      (w1.drew.cell? (a1.add 1) = some (Value.int IntKind.u16 n3)) ∧
      (w1.drew.cell? (a1.add 2) = some (Value.int IntKind.u16 n4)) ∧
      (w1.drew.cell? (a1.add 3) = some (Value.int IntKind.u16 n5)) ∧
      idx (sa2) (sl2) (n1) (4) fun a2 =>
      ∃ n6 : Int,
      ∃ n7 : Int,
      ∃ n8 : Int,
      ∃ n9 : Int,
      (w1.drew.cell? a2 = some (Value.int IntKind.u16 n6)) ∧
      (w1.drew.cell? (a2.add 1) = some (Value.int IntKind.u16 n7)) ∧
      (w1.drew.cell? (a2.add 2) = some (Value.int IntKind.u16 n8)) ∧
      (w1.drew.cell? (a2.add 3) = some (Value.int IntKind.u16 n9)) ∧
      brB (!(decide (n2 = n6) && (decide (n3 = n7) && (decide (n4 = n8) && (decide (n5 = n9) && true)))))
        (R (Ending.returned (Value.bool false)) w1.drew)
        ((I1 [Value.int IntKind.i64 (IntKind.i64.wrap (n1 + 1))] w1.drew) ∧
        m1 [Value.int IntKind.i64 (IntKind.i64.wrap (n1 + 1))] w1.drew < m1 [Value.int IntKind.i64 n1] w1))
      (R (Ending.returned (Value.bool true)) w1))
theorem calls_ref09_SameColors (sa1 : Option Addr) (sl1 sc1 : Nat) (sa2 : Option Addr) (sl2 sc2 : Nat) (w : World) (R : Ending → World → Prop) (h : vc_ref09_SameColors sa1 sl1 sc1 sa2 sl2 sc2 w R) : Calls P F.ref09_SameColors #[.slice sa1 sl1 sc1, .slice sa2 sl2 sc2] w R :=
  calls_of_vc (fn := Try.f17) (ac := ac_ref09_SameColors) (args := [.slice sa1 sl1 sc1, .slice sa2 sl2 sc2]) mixed Try.func17 (by kernel_rfl) (cast (by unfold vc_ref09_SameColors FnVc; kernel_rfl) h)
/-- darkroom/darkroomref09.Same -/
def vc_ref09_Same (x1 : Int) (x2 : Int) (sa1 : Option Addr) (sl1 sc1 : Nat) (x3 : Int) (x4 : Int) (sa2 : Option Addr) (sl2 sc2 : Nat) (w : World) (R : Ending → World → Prop) : Prop :=
  ∀ k1 : Nat,
  (w.heap.size ≤ k1) →
  ∀ k2 : Nat,
  (w.heap.size ≤ k2) →
  brB (x1 != x3 || x2 != x4 || (↑sl1 : Int) != (↑sl2 : Int))
    (∀ w1 : World,
    (Locl ([k2, k1]) w w1) →
    R (Ending.returned (Value.bool false)) w1)
    (∃ I1 : List Value → World → Prop,
    ∃ m1 : List Value → World → Nat,
    (∀ w2 : World,
      (Locl ([k2, k1]) w w2) →
      I1 [Value.int IntKind.i64 0] w2) ∧
    ∀ n1 : Int,
    ∀ w3 : World,
    (I1 [Value.int IntKind.i64 n1] w3) →
    brB (decide (n1 < (↑sl1 : Int)))
      (idx (sa1) (sl1) (n1) (1) fun a1 =>
      ∃ n2 : Int,
      (w3.drew.cell? a1 = some (Value.int IntKind.u16 n2)) ∧
      idx (sa2) (sl2) (n1) (1) fun a2 =>
      ∃ n3 : Int,
      (w3.drew.cell? a2 = some (Value.int IntKind.u16 n3)) ∧
      brB (n2 != n3)
        (R (Ending.returned (Value.bool false)) w3.drew)
        ((I1 [Value.int IntKind.i64 (IntKind.i64.wrap (n1 + 1))] w3.drew) ∧
        m1 [Value.int IntKind.i64 (IntKind.i64.wrap (n1 + 1))] w3.drew < m1 [Value.int IntKind.i64 n1] w3))
      (R (Ending.returned (Value.bool true)) w3))
theorem calls_ref09_Same (x1 : Int) (x2 : Int) (sa1 : Option Addr) (sl1 sc1 : Nat) (x3 : Int) (x4 : Int) (sa2 : Option Addr) (sl2 sc2 : Nat) (w : World) (R : Ending → World → Prop) (h : vc_ref09_Same x1 x2 sa1 sl1 sc1 x3 x4 sa2 sl2 sc2 w R) : Calls P F.ref09_Same #[.agg #[.int .i64 x1, .int .i64 x2, .slice sa1 sl1 sc1], .agg #[.int .i64 x3, .int .i64 x4, .slice sa2 sl2 sc2]] w R :=
  calls_of_vc (fn := Try.f18) (ac := ac_ref09_Same) (args := [.agg #[.int .i64 x1, .int .i64 x2, .slice sa1 sl1 sc1], .agg #[.int .i64 x3, .int .i64 x4, .slice sa2 sl2 sc2]]) mixed Try.func18 (by kernel_rfl) (cast (by unfold vc_ref09_Same FnVc; kernel_rfl) h)
/-- darkroom/quant.Back -/
def vc_quant_Back (x1 : Int) (x2 : Int) (sa1 : Option Addr) (sl1 sc1 : Nat) (sa2 : Option Addr) (sl2 sc2 : Nat) (w : World) (R : Ending → World → Prop) : Prop :=
  ∀ k1 : Nat,
  (w.heap.size ≤ k1) →
  ∀ k2 : Nat,
  (w.heap.size ≤ k2) →
  brB (decide (min x1 x2 < 1) || decide (max x1 x2 > 4096) || decide (IntKind.i64.wrap (x1 * x2) > 65536))
    (∀ w1 : World,
    (Locl ([k2, k1]) w w1) →
    R (Ending.returned (Value.tuple #[Value.agg #[Value.int IntKind.i64 0, Value.int IntKind.i64 0, Value.slice none 0 0], Value.int IntKind.i64 4])) w1)
    (brB ((↑sl2 : Int) != IntKind.i64.wrap (x1 * x2) || decide ((↑sl1 : Int) > 256))
      (∀ w2 : World,
      (Locl ([k2, k1]) w w2) →
      R (Ending.returned (Value.tuple #[Value.agg #[Value.int IntKind.i64 0, Value.int IntKind.i64 0, Value.slice none 0 0], Value.int IntKind.i64 3])) w2)
      (∀ k3 : Nat,
      (w.heap.size ≤ k3) →
      ∃ I1 : List Value → World → Prop,
      ∃ m1 : List Value → World → Nat,
      (∀ w3 : World,
        (Locl ([k3, k2, k1]) w w3) →
        I1 [Value.int IntKind.i64 0, Value.int IntKind.i64 0, Value.int IntKind.i64 0, Value.slice none 0 0, Value.int IntKind.i64 x1, Value.int IntKind.i64 x2, Value.slice none 0 0] w3) ∧
      ∀ n1 : Int,
      ∀ n2 : Int,
      ∀ n3 : Int,
      ∀ p1 : Option Addr,
      ∀ k4 : Nat,
      ∀ k5 : Nat,
      ∀ n4 : Int,
      ∀ n5 : Int,
      ∀ p2 : Option Addr,
      ∀ k6 : Nat,
      ∀ k7 : Nat,
      ∀ w4 : World,
      (I1 [Value.int IntKind.i64 n1, Value.int IntKind.i64 n2, Value.int IntKind.i64 n3, Value.slice p1 k4 k5, Value.int IntKind.i64 n4, Value.int IntKind.i64 n5, Value.slice p2 k6 k7] w4) →
      brB (decide (n1 < (↑sl2 : Int)))
        (idx (sa2) (sl2) (n1) (1) fun a1 =>
        ∃ n6 : Int,
        (w4.cell? a1 = some (Value.int IntKind.u8 n6)) ∧
        brB (decide (IntKind.i64.wrap n6 ≥ (↑sl1 : Int)))
          (∀ w5 : World,
          (Locl ([k3, k2, k1]) w4 w5) →
          R (Ending.returned (Value.tuple #[Value.agg #[Value.int IntKind.i64 0, Value.int IntKind.i64 0, Value.slice none 0 0], Value.int IntKind.i64 2])) w5)
          (idx (sa1) (sl1) (n6) (4) fun a2 =>
          ∃ n7 : Int,
          ∃ n8 : Int,
          ∃ n9 : Int,
          ∃ n10 : Int,
          (w4.cell? a2 = some (Value.int IntKind.u16 n7)) ∧
          (w4.cell? (a2.add 1) = some (Value.int IntKind.u16 n8)) ∧
          (w4.cell? (a2.add 2) = some (Value.int IntKind.u16 n9)) ∧
          (w4.cell? (a2.add 3) = some (Value.int IntKind.u16 n10)) ∧
          ∀ k8 : Nat,
          (w4.heap.size ≤ k8) →
          ∀ k9 : Nat,
          (w4.heap.size ≤ k9) →
          ∀ w6 : World,
          (Locl ([k9, k8, k3, k2, k1]) w4 w6) →
          appVC (w6) ([(81, k9, [Value.int IntKind.u16 n7, Value.int IntKind.u16 n8, Value.int IntKind.u16 n9, Value.int IntKind.u16 n10]), (7, k8, [Value.int IntKind.u16 n7, Value.int IntKind.u16 n8, Value.int IntKind.u16 n9, Value.int IntKind.u16 n10]), (4, k3, [Value.int IntKind.i64 n4, Value.int IntKind.i64 n5, Value.slice p2 k6 k7]), (2, k2, [Value.int IntKind.i64 n2, Value.int IntKind.i64 n3, Value.slice p1 k4 k5]), (1, k1, [Value.int IntKind.i64 x1, Value.int IntKind.i64 x2, Value.slice sa1 sl1 sc1, Value.slice sa2 sl2 sc2])]) (p2) (k6) (k7) (4) (1) (2) (44) ([Value.int IntKind.u16 0]) ([Value.int IntKind.u16 n7, Value.int IntKind.u16 n8, Value.int IntKind.u16 n9, Value.int IntKind.u16 n10]) fun p3 k10 k11 w7 =>
          ∀ w8 : World,
          (Locl ([k9, k8, k3, k2, k1]) w7 w8) →
          (I1 [Value.int IntKind.i64 (IntKind.i64.wrap (n1 + 1)), Value.int IntKind.i64 n2, Value.int IntKind.i64 n3, Value.slice p1 k4 k5, Value.int IntKind.i64 n4, Value.int IntKind.i64 n5, Value.slice p3 k10 k11] w8) ∧
          m1 [Value.int IntKind.i64 (IntKind.i64.wrap (n1 + 1)), Value.int IntKind.i64 n2, Value.int IntKind.i64 n3, Value.slice p1 k4 k5, Value.int IntKind.i64 n4, Value.int IntKind.i64 n5, Value.slice p3 k10 k11] w8 < m1 [Value.int IntKind.i64 n1, Value.int IntKind.i64 n2, Value.int IntKind.i64 n3, Value.slice p1 k4 k5, Value.int IntKind.i64 n4, Value.int IntKind.i64 n5, Value.slice p2 k6 k7] w4))
        (∀ w9 : World,
        (Locl ([k3, k2, k1]) w4 w9) →
        R (Ending.returned (Value.tuple #[Value.agg #[Value.int IntKind.i64 n4, Value.int IntKind.i64 n5, Value.slice p2 k6 k7], Value.int IntKind.i64 0])) w9)))
theorem calls_quant_Back (x1 : Int) (x2 : Int) (sa1 : Option Addr) (sl1 sc1 : Nat) (sa2 : Option Addr) (sl2 sc2 : Nat) (w : World) (R : Ending → World → Prop) (h : vc_quant_Back x1 x2 sa1 sl1 sc1 sa2 sl2 sc2 w R) : Calls P F.quant_Back #[.agg #[.int .i64 x1, .int .i64 x2, .slice sa1 sl1 sc1, .slice sa2 sl2 sc2]] w R :=
  calls_of_vc (fn := Try.f19) (ac := ac_quant_Back) (args := [.agg #[.int .i64 x1, .int .i64 x2, .slice sa1 sl1 sc1, .slice sa2 sl2 sc2]]) mixed Try.func19 (by kernel_rfl) (cast (by unfold vc_quant_Back FnVc; kernel_rfl) h)
/-- darkroom/darkroomref14.Back -/
def vc_ref14_Back (x1 : Int) (x2 : Int) (sa1 : Option Addr) (sl1 sc1 : Nat) (sa2 : Option Addr) (sl2 sc2 : Nat) (w : World) (R : Ending → World → Prop) : Prop :=
  ∀ k1 : Nat,
  (w.heap.size ≤ k1) →
  ∀ k2 : Nat,
  (w.heap.size ≤ k2) →
  ∀ w1 : World,
  (Locl ([k2, k1]) w w1) →
  Calls P F.ref07_Fits #[Value.int IntKind.i64 x1, Value.int IntKind.i64 x2] w1 fun e1 w2 =>
  ∃ c1 : Bool,
  (e1 = Ending.returned (Value.bool c1)) ∧
  (Keep ([k2, k1]) w1 w2) ∧
  brB (!c1)
    (∀ w3 : World,
    (Locl ([k2, k1]) w2 w3) →
    R (Ending.returned (Value.tuple #[Value.agg #[Value.int IntKind.i64 0, Value.int IntKind.i64 0, Value.slice none 0 0], Value.int IntKind.i64 4])) w3)
    (brB ((↑sl2 : Int) != IntKind.i64.wrap (x1 * x2) || decide ((↑sl1 : Int) > 256))
      (∀ w4 : World,
      (Locl ([k2, k1]) w2 w4) →
      R (Ending.returned (Value.tuple #[Value.agg #[Value.int IntKind.i64 0, Value.int IntKind.i64 0, Value.slice none 0 0], Value.int IntKind.i64 3])) w4)
      (∀ k3 : Nat,
      (w2.heap.size ≤ k3) →
      ∃ I1 : List Value → World → Prop,
      ∃ m1 : List Value → World → Nat,
      (∀ w5 : World,
        (Locl ([k3, k2, k1]) w2 w5) →
        I1 [Value.int IntKind.i64 0, Value.int IntKind.i64 0, Value.int IntKind.i64 0, Value.slice none 0 0, Value.int IntKind.i64 x1, Value.int IntKind.i64 x2, Value.slice none 0 0] w5) ∧
      ∀ n1 : Int,
      ∀ n2 : Int,
      ∀ n3 : Int,
      ∀ p1 : Option Addr,
      ∀ k4 : Nat,
      ∀ k5 : Nat,
      ∀ n4 : Int,
      ∀ n5 : Int,
      ∀ p2 : Option Addr,
      ∀ k6 : Nat,
      ∀ k7 : Nat,
      ∀ w6 : World,
      (I1 [Value.int IntKind.i64 n1, Value.int IntKind.i64 n2, Value.int IntKind.i64 n3, Value.slice p1 k4 k5, Value.int IntKind.i64 n4, Value.int IntKind.i64 n5, Value.slice p2 k6 k7] w6) →
      brB (decide (n1 < (↑sl2 : Int)))
        (idx (sa2) (sl2) (n1) (1) fun a1 =>
        ∃ n6 : Int,
        (w6.drew.cell? a1 = some (Value.int IntKind.u8 n6)) ∧
        brB (decide (IntKind.i64.wrap n6 ≥ (↑sl1 : Int)))
          (∀ w7 : World,
          (Locl ([k3, k2, k1]) (w6.drew) w7) →
          R (Ending.returned (Value.tuple #[Value.agg #[Value.int IntKind.i64 0, Value.int IntKind.i64 0, Value.slice none 0 0], Value.int IntKind.i64 2])) w7)
          (idx (sa2) (sl2) (n1) (1) fun a2 =>
          ∃ n7 : Int,
          (w6.drew.drew.cell? a2 = some (Value.int IntKind.u8 n7)) ∧
          idx (sa1) (sl1) (n7) (4) fun a3 =>
          ∃ n8 : Int,
          ∃ n9 : Int,
          ∃ n10 : Int,
          ∃ n11 : Int,
          (w6.drew.drew.cell? a3 = some (Value.int IntKind.u16 n8)) ∧
          (w6.drew.drew.cell? (a3.add 1) = some (Value.int IntKind.u16 n9)) ∧
          (w6.drew.drew.cell? (a3.add 2) = some (Value.int IntKind.u16 n10)) ∧
          (w6.drew.drew.cell? (a3.add 3) = some (Value.int IntKind.u16 n11)) ∧
          Calls P F.ref09_Add #[Value.agg #[Value.int IntKind.i64 n4, Value.int IntKind.i64 n5, Value.slice p2 k6 k7], Value.agg #[Value.int IntKind.u16 n8, Value.int IntKind.u16 n9, Value.int IntKind.u16 n10, Value.int IntKind.u16 n11]] (w6.drew.drew) fun e2 w8 =>
          ∃ n12 : Int,
          ∃ n13 : Int,
          ∃ p3 : Option Addr,
          ∃ k8 : Nat,
          ∃ k9 : Nat,
          (e2 = Ending.returned (Value.agg #[Value.int IntKind.i64 n12, Value.int IntKind.i64 n13, Value.slice p3 k8 k9])) ∧
          (Keep ([k3, k2, k1]) (w6.drew.drew) w8) ∧
          ∀ w9 : World,
          (Locl ([k3, k2, k1]) w8 w9) →
          (I1 [Value.int IntKind.i64 (IntKind.i64.wrap (n1 + 1)), Value.int IntKind.i64 n2, Value.int IntKind.i64 n3, Value.slice p1 k4 k5, Value.int IntKind.i64 n12, Value.int IntKind.i64 n13, Value.slice p3 k8 k9] w9) ∧
          m1 [Value.int IntKind.i64 (IntKind.i64.wrap (n1 + 1)), Value.int IntKind.i64 n2, Value.int IntKind.i64 n3, Value.slice p1 k4 k5, Value.int IntKind.i64 n12, Value.int IntKind.i64 n13, Value.slice p3 k8 k9] w9 < m1 [Value.int IntKind.i64 n1, Value.int IntKind.i64 n2, Value.int IntKind.i64 n3, Value.slice p1 k4 k5, Value.int IntKind.i64 n4, Value.int IntKind.i64 n5, Value.slice p2 k6 k7] w6))
        (∀ w10 : World,
        (Locl ([k3, k2, k1]) w6 w10) →
        R (Ending.returned (Value.tuple #[Value.agg #[Value.int IntKind.i64 n4, Value.int IntKind.i64 n5, Value.slice p2 k6 k7], Value.int IntKind.i64 0])) w10)))
theorem calls_ref14_Back (x1 : Int) (x2 : Int) (sa1 : Option Addr) (sl1 sc1 : Nat) (sa2 : Option Addr) (sl2 sc2 : Nat) (w : World) (R : Ending → World → Prop) (h : vc_ref14_Back x1 x2 sa1 sl1 sc1 sa2 sl2 sc2 w R) : Calls P F.ref14_Back #[.agg #[.int .i64 x1, .int .i64 x2, .slice sa1 sl1 sc1, .slice sa2 sl2 sc2]] w R :=
  calls_of_vc (fn := Try.f20) (ac := ac_ref14_Back) (args := [.agg #[.int .i64 x1, .int .i64 x2, .slice sa1 sl1 sc1, .slice sa2 sl2 sc2]]) mixed Try.func20 (by kernel_rfl) (cast (by unfold vc_ref14_Back FnVc; kernel_rfl) h)
/-- darkroom/darkroomref14.Met -/
def vc_ref14_Met (x1 : Int) (x2 : Int) (sa1 : Option Addr) (sl1 sc1 : Nat) (x3 : Int) (w : World) (R : Ending → World → Prop) : Prop :=
  ∀ k1 : Nat,
  (w.heap.size ≤ k1) →
  ∃ I1 : List Value → World → Prop,
  ∃ m1 : List Value → World → Nat,
  (∀ w1 : World,
    (Locl ([k1]) w w1) →
    I1 [Value.slice none 0 0, Value.int IntKind.i64 0] w1) ∧
  ∀ p1 : Option Addr,
  ∀ k2 : Nat,
  ∀ k3 : Nat,
  ∀ n1 : Int,
  ∀ w2 : World,
  (I1 [Value.slice p1 k2 k3, Value.int IntKind.i64 n1] w2) →
  brB (decide (n1 < x2))
    (∃ I2 : List Value → World → Prop,
    ∃ m2 : List Value → World → Nat,
    (I2 [Value.slice p1 k2 k3, Value.int IntKind.i64 0] w2) ∧
    ∀ p2 : Option Addr,
    ∀ k4 : Nat,
    ∀ k5 : Nat,
    ∀ n2 : Int,
    ∀ w3 : World,
    (I2 [Value.slice p2 k4 k5, Value.int IntKind.i64 n2] w3) →
    brB (decide (n2 < x1))
      (∃ I3 : List Value → World → Prop,
      (Calls P F.ref09_Pixel #[Value.agg #[Value.int IntKind.i64 x1, Value.int IntKind.i64 x2, Value.slice sa1 sl1 sc1], Value.int IntKind.i64 n2, Value.int IntKind.i64 n1] w3 fun e1 w4 =>
        ∃ n3 : Int,
        ∃ n4 : Int,
        ∃ n5 : Int,
        ∃ n6 : Int,
        (e1 = Ending.returned (Value.agg #[Value.int IntKind.u16 n3, Value.int IntKind.u16 n4, Value.int IntKind.u16 n5, Value.int IntKind.u16 n6])) ∧
        (Keep ([k1]) w3 w4) ∧
        ∀ k6 : Nat,
        (w4.heap.size ≤ k6) →
        ∀ w5 : World,
        (Locl ([k6, k1]) w4 w5) →
        Calls P F.ref14_Clear #[Value.agg #[Value.int IntKind.u16 n3, Value.int IntKind.u16 n4, Value.int IntKind.u16 n5, Value.int IntKind.u16 n6]] w5 fun e2 w6 =>
        ∃ c1 : Bool,
        (e2 = Ending.returned (Value.bool c1)) ∧
        (Keep ([k6, k1]) w5 w6) ∧
        brB (!c1 && decide ((↑k4 : Int) ≤ x3))
          (Calls P F.ref14_Eight #[Value.agg #[Value.int IntKind.u16 n3, Value.int IntKind.u16 n4, Value.int IntKind.u16 n5, Value.int IntKind.u16 n6]] w6 fun e3 w7 =>
          ∃ n7 : Int,
          ∃ n8 : Int,
          ∃ n9 : Int,
          ∃ n10 : Int,
          (e3 = Ending.returned (Value.agg #[Value.int IntKind.u16 n7, Value.int IntKind.u16 n8, Value.int IntKind.u16 n9, Value.int IntKind.u16 n10])) ∧
          (Keep ([k6, k1]) w6 w7) ∧
          Calls P F.ref09_Place #[Value.slice p2 k4 k5, Value.agg #[Value.int IntKind.u16 n7, Value.int IntKind.u16 n8, Value.int IntKind.u16 n9, Value.int IntKind.u16 n10]] w7 fun e4 w8 =>
          ∃ n11 : Int,
          (e4 = Ending.returned (Value.int IntKind.i64 n11)) ∧
          (Keep ([k6, k1]) w7 w8) ∧
          brB (decide (n11 < 0))
            (Calls P F.ref14_Eight #[Value.agg #[Value.int IntKind.u16 n3, Value.int IntKind.u16 n4, Value.int IntKind.u16 n5, Value.int IntKind.u16 n6]] w8 fun e5 w9 =>
            ∃ n12 : Int,
            ∃ n13 : Int,
            ∃ n14 : Int,
            ∃ n15 : Int,
            (e5 = Ending.returned (Value.agg #[Value.int IntKind.u16 n12, Value.int IntKind.u16 n13, Value.int IntKind.u16 n14, Value.int IntKind.u16 n15])) ∧
            (Keep ([k6, k1]) w8 w9) ∧
            ∀ k7 : Nat,
            (w9.heap.size ≤ k7) →
            ∀ w10 : World,
            (Locl ([k7, k6, k1]) w9 w10) →
            appVC (w10) ([(44, k7, [Value.int IntKind.u16 n12, Value.int IntKind.u16 n13, Value.int IntKind.u16 n14, Value.int IntKind.u16 n15]), (8, k6, [Value.int IntKind.u16 n3, Value.int IntKind.u16 n4, Value.int IntKind.u16 n5, Value.int IntKind.u16 n6]), (2, k1, [Value.int IntKind.i64 x1, Value.int IntKind.i64 x2, Value.slice sa1 sl1 sc1])]) (p2) (k4) (k5) (1) (4) (8) (46) ([Value.int IntKind.u16 0, Value.int IntKind.u16 0, Value.int IntKind.u16 0, Value.int IntKind.u16 0]) ([Value.int IntKind.u16 n12, Value.int IntKind.u16 n13, Value.int IntKind.u16 n14, Value.int IntKind.u16 n15]) fun p3 k8 k9 w11 =>
            I3 [Value.slice p3 k8 k9] w11)
            (I3 [Value.slice p2 k4 k5] w8))
          (I3 [Value.slice p2 k4 k5] w6)) ∧
      ∀ p4 : Option Addr,
      ∀ k10 : Nat,
      ∀ k11 : Nat,
      ∀ w12 : World,
      (I3 [Value.slice p4 k10 k11] w12) →
      (I2 [Value.slice p4 k10 k11, Value.int IntKind.i64 (IntKind.i64.wrap (n2 + 1))] w12) ∧
      m2 [Value.slice p4 k10 k11, Value.int IntKind.i64 (IntKind.i64.wrap (n2 + 1))] w12 < m2 [Value.slice p2 k4 k5, Value.int IntKind.i64 n2] w3)
      ((I1 [Value.slice p2 k4 k5, Value.int IntKind.i64 (IntKind.i64.wrap (n1 + 1))] w3) ∧
      m1 [Value.slice p2 k4 k5, Value.int IntKind.i64 (IntKind.i64.wrap (n1 + 1))] w3 < m1 [Value.slice p1 k2 k3, Value.int IntKind.i64 n1] w2))
    (R (Ending.returned (Value.slice p1 k2 k3)) w2)
theorem calls_ref14_Met (x1 : Int) (x2 : Int) (sa1 : Option Addr) (sl1 sc1 : Nat) (x3 : Int) (w : World) (R : Ending → World → Prop) (h : vc_ref14_Met x1 x2 sa1 sl1 sc1 x3 w R) : Calls P F.ref14_Met #[.agg #[.int .i64 x1, .int .i64 x2, .slice sa1 sl1 sc1], .int .i64 x3] w R :=
  calls_of_vc (fn := Try.f21) (ac := ac_ref14_Met) (args := [.agg #[.int .i64 x1, .int .i64 x2, .slice sa1 sl1 sc1], .int .i64 x3]) mixed Try.func21 (by kernel_rfl) (cast (by unfold vc_ref14_Met FnVc; kernel_rfl) h)
/-- darkroom/raster.Good -/
def vc_raster_Good (x1 : Int) (x2 : Int) (sa1 : Option Addr) (sl1 sc1 : Nat) (w : World) (R : Ending → World → Prop) : Prop :=
  ∀ k1 : Nat,
  (w.heap.size ≤ k1) →
  ∀ w1 : World,
  (Locl ([k1]) w w1) →
  R (Ending.returned (Value.bool (decide (min x1 x2 ≥ 1) && decide (max x1 x2 ≤ 4096) && decide (IntKind.i64.wrap (x1 * x2) ≤ 65536) && (↑sl1 : Int) == IntKind.i64.wrap (IntKind.i64.wrap (4 * x1) * x2)))) w1
theorem calls_raster_Good (x1 : Int) (x2 : Int) (sa1 : Option Addr) (sl1 sc1 : Nat) (w : World) (R : Ending → World → Prop) (h : vc_raster_Good x1 x2 sa1 sl1 sc1 w R) : Calls P F.raster_Good #[.agg #[.int .i64 x1, .int .i64 x2, .slice sa1 sl1 sc1]] w R :=
  calls_of_vc (fn := Try.f22) (ac := ac_raster_Good) (args := [.agg #[.int .i64 x1, .int .i64 x2, .slice sa1 sl1 sc1]]) mixed Try.func22 (by kernel_rfl) (cast (by unfold vc_raster_Good FnVc; kernel_rfl) h)
/-- darkroom/raster.Distinct -/
def vc_raster_Distinct (x1 : Int) (x2 : Int) (sa1 : Option Addr) (sl1 sc1 : Nat) (w : World) (R : Ending → World → Prop) : Prop :=
  ∀ k1 : Nat,
  (w.heap.size ≤ k1) →
  ∀ w1 : World,
  (Locl ([k1]) w w1) →
  Calls P F.raster_Good #[Value.agg #[Value.int IntKind.i64 x1, Value.int IntKind.i64 x2, Value.slice sa1 sl1 sc1]] w1 fun e1 w2 =>
  ∃ c1 : Bool,
  (e1 = Ending.returned (Value.bool c1)) ∧
  (Keep ([k1]) w1 w2) ∧
  brB (!c1)
    (R (Ending.returned (Value.slice none 0 0)) w2)
    (∀ k2 : Nat,
    ∀ w3 : World,
    (New w2 (Obj.map #[] 0) k2 w3) →
    ∀ k3 : Nat,
    (w3.heap.size ≤ k3) →
    ∃ I1 : List Value → World → Prop,
    ∃ m1 : List Value → World → Nat,
    (∀ w4 : World,
      (Locl ([k3, k1]) w3 w4) →
      I1 [Value.slice none 0 0, Value.int IntKind.i64 0, Value.int IntKind.u16 0, Value.int IntKind.u16 0, Value.int IntKind.u16 0, Value.int IntKind.u16 0] w4) ∧
    ∀ p1 : Option Addr,
    ∀ k4 : Nat,
    ∀ k5 : Nat,
    ∀ n1 : Int,
    ∀ n2 : Int,
    ∀ n3 : Int,
    ∀ n4 : Int,
    ∀ n5 : Int,
    ∀ w5 : World,
    (I1 [Value.slice p1 k4 k5, Value.int IntKind.i64 n1, Value.int IntKind.u16 n2, Value.int IntKind.u16 n3, Value.int IntKind.u16 n4, Value.int IntKind.u16 n5] w5) →
    brB (decide (n1 < IntKind.i64.wrap (x1 * x2)))
      (∃ I2 : List Value → World → Prop,
      (slcc (sa1) (sc1) (IntKind.i64.wrap (4 * n1)) ((↑sl1 : Int)) (1) fun p2 k6 k7 =>
        Calls P F.raster_colour #[Value.slice p2 k6 k7] w5 fun e2 w6 =>
        ∃ n6 : Int,
        ∃ n7 : Int,
        ∃ n8 : Int,
        ∃ n9 : Int,
        (e2 = Ending.returned (Value.agg #[Value.int IntKind.u16 n6, Value.int IntKind.u16 n7, Value.int IntKind.u16 n8, Value.int IntKind.u16 n9])) ∧
        (Keep ([k3, k1]) w5 w6) ∧
        ∀ k8 : Nat,
        (w6.heap.size ≤ k8) →
        ∃ I3 : List Value → World → Prop,
        (brB (decide (n1 > 0))
            (brB (decide (n6 = n2) && (decide (n7 = n3) && (decide (n8 = n4) && (decide (n9 = n5) && true))))
              (∀ w7 : World,
              (Locl ([k8, k3, k1]) w6 w7) →
              I2 [Value.slice p1 k4 k5, Value.int IntKind.u16 n2, Value.int IntKind.u16 n3, Value.int IntKind.u16 n4, Value.int IntKind.u16 n5] w7)
              (∀ w8 : World,
              (Locl ([k8, k3, k1]) w6 w8) →
              I3 [] w8))
            (∀ w9 : World,
            (Locl ([k8, k3, k1]) w6 w9) →
            I3 [] w9)) ∧
        ∀ w10 : World,
        (I3 [] w10) →
        ∀ w11 : World,
        (Locl ([k8, k3, k1]) w10 w11) →
        mapIn (Kd.agg [IntKind.u16, IntKind.u16, IntKind.u16, IntKind.u16]) (w11) (Value.map (some k2)) fun l1 =>
        ∃ c2 : Bool,
        (mgot l1 (Value.agg #[Value.int IntKind.u16 n6, Value.int IntKind.u16 n7, Value.int IntKind.u16 n8, Value.int IntKind.u16 n9]) (Value.agg #[]) = (Value.agg #[], c2)) ∧
        ∀ k9 : Nat,
        (w11.heap.size ≤ k9) →
        brB (!c2)
          (∀ w12 : World,
          (Locl ([k9, k8, k3, k1]) w11 w12) →
          mapTo (Kd.agg [IntKind.u16, IntKind.u16, IntKind.u16, IntKind.u16]) (w12) (Value.map (some k2)) fun b1 l2 =>
          ∀ w13 : World,
          (Put b1 w12 w13) →
          (Mp (Kd.agg [IntKind.u16, IntKind.u16, IntKind.u16, IntKind.u16]) w13 b1 (mput (Value.agg #[Value.int IntKind.u16 n6, Value.int IntKind.u16 n7, Value.int IntKind.u16 n8, Value.int IntKind.u16 n9]) (Value.agg #[]) l2)) →
          ∀ k10 : Nat,
          (w13.heap.size ≤ k10) →
          ∀ w14 : World,
          (Locl ([k10, k9, k8, k3, k1]) w13 w14) →
          appVC (w14) ([(50, k10, [Value.int IntKind.u16 n6, Value.int IntKind.u16 n7, Value.int IntKind.u16 n8, Value.int IntKind.u16 n9]), (8, k9, []), (7, k8, [Value.int IntKind.u16 n6, Value.int IntKind.u16 n7, Value.int IntKind.u16 n8, Value.int IntKind.u16 n9]), (5, k3, [Value.int IntKind.u16 n6, Value.int IntKind.u16 n7, Value.int IntKind.u16 n8, Value.int IntKind.u16 n9]), (1, k1, [Value.int IntKind.i64 x1, Value.int IntKind.i64 x2, Value.slice sa1 sl1 sc1])]) (p1) (k4) (k5) (1) (4) (8) (46) ([Value.int IntKind.u16 0, Value.int IntKind.u16 0, Value.int IntKind.u16 0, Value.int IntKind.u16 0]) ([Value.int IntKind.u16 n6, Value.int IntKind.u16 n7, Value.int IntKind.u16 n8, Value.int IntKind.u16 n9]) fun p3 k11 k12 w15 =>
          I2 [Value.slice p3 k11 k12, Value.int IntKind.u16 n6, Value.int IntKind.u16 n7, Value.int IntKind.u16 n8, Value.int IntKind.u16 n9] w15)
          (∀ w16 : World,
          (Locl ([k9, k8, k3, k1]) w11 w16) →
          I2 [Value.slice p1 k4 k5, Value.int IntKind.u16 n6, Value.int IntKind.u16 n7, Value.int IntKind.u16 n8, Value.int IntKind.u16 n9] w16)) ∧
      ∀ p4 : Option Addr,
      ∀ k13 : Nat,
      ∀ k14 : Nat,
      ∀ n10 : Int,
      ∀ n11 : Int,
      ∀ n12 : Int,
      ∀ n13 : Int,
      ∀ w17 : World,
      (I2 [Value.slice p4 k13 k14, Value.int IntKind.u16 n10, Value.int IntKind.u16 n11, Value.int IntKind.u16 n12, Value.int IntKind.u16 n13] w17) →
      (I1 [Value.slice p4 k13 k14, Value.int IntKind.i64 (IntKind.i64.wrap (n1 + 1)), Value.int IntKind.u16 n10, Value.int IntKind.u16 n11, Value.int IntKind.u16 n12, Value.int IntKind.u16 n13] w17) ∧
      m1 [Value.slice p4 k13 k14, Value.int IntKind.i64 (IntKind.i64.wrap (n1 + 1)), Value.int IntKind.u16 n10, Value.int IntKind.u16 n11, Value.int IntKind.u16 n12, Value.int IntKind.u16 n13] w17 < m1 [Value.slice p1 k4 k5, Value.int IntKind.i64 n1, Value.int IntKind.u16 n2, Value.int IntKind.u16 n3, Value.int IntKind.u16 n4, Value.int IntKind.u16 n5] w5)
      (R (Ending.returned (Value.slice p1 k4 k5)) w5))
theorem calls_raster_Distinct (x1 : Int) (x2 : Int) (sa1 : Option Addr) (sl1 sc1 : Nat) (w : World) (R : Ending → World → Prop) (h : vc_raster_Distinct x1 x2 sa1 sl1 sc1 w R) : Calls P F.raster_Distinct #[.agg #[.int .i64 x1, .int .i64 x2, .slice sa1 sl1 sc1]] w R :=
  calls_of_vc (fn := Try.f23) (ac := ac_raster_Distinct) (args := [.agg #[.int .i64 x1, .int .i64 x2, .slice sa1 sl1 sc1]]) mixed Try.func23 (by kernel_rfl) (cast (by unfold vc_raster_Distinct FnVc; kernel_rfl) h)
/-- darkroom/quant.clear -/
def vc_quant_clear (x1 : Int) (x2 : Int) (x3 : Int) (x4 : Int) (w : World) (R : Ending → World → Prop) : Prop :=
  ∀ k1 : Nat,
  (w.heap.size ≤ k1) →
  ∀ w1 : World,
  (Locl ([k1]) w w1) →
  R (Ending.returned (Value.bool (decide (x4 < 32768)))) w1
theorem calls_quant_clear (x1 : Int) (x2 : Int) (x3 : Int) (x4 : Int) (w : World) (R : Ending → World → Prop) (h : vc_quant_clear x1 x2 x3 x4 w R) : Calls P F.quant_clear #[.agg #[.int .u16 x1, .int .u16 x2, .int .u16 x3, .int .u16 x4]] w R :=
  calls_of_vc (fn := Try.f24) (ac := ac_quant_clear) (args := [.agg #[.int .u16 x1, .int .u16 x2, .int .u16 x3, .int .u16 x4]]) mixed Try.func24 (by kernel_rfl) (cast (by unfold vc_quant_clear FnVc; kernel_rfl) h)
/-- darkroom/quant.eight -/
def vc_quant_eight (x1 : Int) (x2 : Int) (x3 : Int) (x4 : Int) (w : World) (R : Ending → World → Prop) : Prop :=
  ∀ k1 : Nat,
  (w.heap.size ≤ k1) →
  ∀ k2 : Nat,
  (w.heap.size ≤ k2) →
  ∀ w1 : World,
  (Locl ([k2, k1]) w w1) →
  Calls P F.quant_eight_fn1 #[Value.int IntKind.u16 x1] w1 fun e1 w2 =>
  ∃ n1 : Int,
  (e1 = Ending.returned (Value.int IntKind.u16 n1)) ∧
  (Keep ([k2, k1]) w1 w2) ∧
  (Keeps w1 w2) ∧
  Calls P F.quant_eight_fn1 #[Value.int IntKind.u16 x2] w2 fun e2 w3 =>
  ∃ n2 : Int,
  (e2 = Ending.returned (Value.int IntKind.u16 n2)) ∧
  (Keep ([k2, k1]) w2 w3) ∧
  (Keeps w2 w3) ∧
  Calls P F.quant_eight_fn1 #[Value.int IntKind.u16 x3] w3 fun e3 w4 =>
  ∃ n3 : Int,
  (e3 = Ending.returned (Value.int IntKind.u16 n3)) ∧
  (Keep ([k2, k1]) w3 w4) ∧
  ∀ w5 : World,
  (Locl ([k2, k1]) w4 w5) →
  R (Ending.returned (Value.agg #[Value.int IntKind.u16 n1, Value.int IntKind.u16 n2, Value.int IntKind.u16 n3, Value.int IntKind.u16 65535])) w5
theorem calls_quant_eight (x1 : Int) (x2 : Int) (x3 : Int) (x4 : Int) (w : World) (R : Ending → World → Prop) (h : vc_quant_eight x1 x2 x3 x4 w R) : Calls P F.quant_eight #[.agg #[.int .u16 x1, .int .u16 x2, .int .u16 x3, .int .u16 x4]] w R :=
  calls_of_vc (fn := Try.f25) (ac := ac_quant_eight) (args := [.agg #[.int .u16 x1, .int .u16 x2, .int .u16 x3, .int .u16 x4]]) mixed Try.func25 (by kernel_rfl) (cast (by unfold vc_quant_eight FnVc; kernel_rfl) h)
/-- darkroom/quant.Palette$1 -/
def vc_quant_Palette_fn1 (sa1 : Option Addr) (sl1 sc1 : Nat) (w : World) (R : Ending → World → Prop) : Prop :=
  R (Ending.returned (Value.int IntKind.i64 (↑sl1 : Int))) w
theorem calls_quant_Palette_fn1 (sa1 : Option Addr) (sl1 sc1 : Nat) (w : World) (R : Ending → World → Prop) (h : vc_quant_Palette_fn1 sa1 sl1 sc1 w R) : Calls P F.quant_Palette_fn1 #[.slice sa1 sl1 sc1] w R :=
  calls_of_vc (fn := Try.f26) (ac := ac_quant_Palette_fn1) (args := [.slice sa1 sl1 sc1]) mixed Try.func26 (by kernel_rfl) (cast (by unfold vc_quant_Palette_fn1 FnVc; kernel_rfl) h)
/-- (*darkroom/quant.bag[[]darkroom/api.Color]).put -/
def vc_quant_bag_api_Color_put (q1 : Option Addr) (sa1 : Option Addr) (sl1 sc1 : Nat) (w : World) (R : Ending → World → Prop) : Prop :=
  nn (q1) fun a1 =>
  ∃ p1 : Option Addr,
  ∃ k1 : Nat,
  ∃ k2 : Nat,
  (w.cell? a1 = some (Value.slice p1 k1 k2)) ∧
  ∀ k3 : Nat,
  (w.heap.size ≤ k3) →
  ∀ w1 : World,
  (Locl ([k3]) w w1) →
  appVC (w1) ([(10, k3, [Value.slice sa1 sl1 sc1])]) (p1) (k1) (k2) (1) (1) (24) (26) ([Value.slice none 0 0]) ([Value.slice sa1 sl1 sc1]) fun p2 k4 k5 w2 =>
  nn (q1) fun a2 =>
  (∃ v1 : Value,
    w2.cell? a2 = some v1) ∧
  (w2.frozen? a2 = false) ∧
  (¬a2.block ∈ [k3]) ∧
  R (Ending.returned (Value.tuple #[])) (setCells w2 a2 [Value.slice p2 k4 k5] 0)
theorem calls_quant_bag_api_Color_put (q1 : Option Addr) (sa1 : Option Addr) (sl1 sc1 : Nat) (w : World) (R : Ending → World → Prop) (h : vc_quant_bag_api_Color_put q1 sa1 sl1 sc1 w R) : Calls P F.quant_bag_api_Color_put #[.pointer q1, .slice sa1 sl1 sc1] w R :=
  calls_of_vc (fn := Try.f27) (ac := ac_quant_bag_api_Color_put) (args := [.pointer q1, .slice sa1 sl1 sc1]) mixed Try.func27 (by kernel_rfl) (cast (by unfold vc_quant_bag_api_Color_put FnVc; kernel_rfl) h)
/-- (*darkroom/quant.bag[[]darkroom/api.Color]).take -/
def vc_quant_bag_api_Color_take (q1 : Option Addr) (w : World) (R : Ending → World → Prop) : Prop :=
  nn (q1) fun a1 =>
  ∃ p1 : Option Addr,
  ∃ k1 : Nat,
  ∃ k2 : Nat,
  (w.cell? a1 = some (Value.slice p1 k1 k2)) ∧
  ∃ I1 : List Value → World → Prop,
  ∃ m1 : List Value → World → Nat,
  (I1 [Value.int IntKind.i64 0, Value.int IntKind.i64 0] w) ∧
  ∀ n1 : Int,
  ∀ n2 : Int,
  ∀ w1 : World,
  (I1 [Value.int IntKind.i64 n1, Value.int IntKind.i64 n2] w1) →
  brB (decide (n2 < (↑k1 : Int)))
    (∃ I2 : List Value → World → Prop,
    (nn (q1) fun a2 =>
      ∃ y1 : FuncId,
      ∃ y2 : Array Value,
      ∃ y3 : Array Value,
      (w1.drew.cell? (a2.add 1) = some (Value.func (Fn.func y1) y2 y3)) ∧
      nn (q1) fun a3 =>
      ∃ p2 : Option Addr,
      ∃ k3 : Nat,
      ∃ k4 : Nat,
      (w1.drew.cell? a3 = some (Value.slice p2 k3 k4)) ∧
      idx (p2) (k3) (n2) (1) fun a4 =>
      ∃ p3 : Option Addr,
      ∃ k5 : Nat,
      ∃ k6 : Nat,
      (w1.drew.cell? a4 = some (Value.slice p3 k5 k6)) ∧
      nn (q1) fun a5 =>
      ∃ y4 : FuncId,
      ∃ y5 : Array Value,
      ∃ y6 : Array Value,
      (w1.drew.cell? (a5.add 1) = some (Value.func (Fn.func y4) y5 y6)) ∧
      nn (q1) fun a6 =>
      ∃ p4 : Option Addr,
      ∃ k7 : Nat,
      ∃ k8 : Nat,
      (w1.drew.cell? a6 = some (Value.slice p4 k7 k8)) ∧
      idx (p4) (k7) (n1) (1) fun a7 =>
      ∃ p5 : Option Addr,
      ∃ k9 : Nat,
      ∃ k10 : Nat,
      (w1.drew.cell? a7 = some (Value.slice p5 k9 k10)) ∧
      callV P (Value.func (Fn.func y1) y2 y3) [Value.slice p3 k5 k6] (w1.drew) fun e1 w2 =>
      ∃ n3 : Int,
      (e1 = Ending.returned (Value.int IntKind.i64 n3)) ∧
      (Keeps (w1.drew) w2) ∧
      callV P (Value.func (Fn.func y4) y5 y6) [Value.slice p5 k9 k10] w2 fun e2 w3 =>
      ∃ n4 : Int,
      (e2 = Ending.returned (Value.int IntKind.i64 n4)) ∧
      brB (decide (n3 > n4))
        (I2 [Value.int IntKind.i64 n2] w3)
        (I2 [Value.int IntKind.i64 n1] w3)) ∧
    ∀ n5 : Int,
    ∀ w4 : World,
    (I2 [Value.int IntKind.i64 n5] w4) →
    (I1 [Value.int IntKind.i64 n5, Value.int IntKind.i64 (IntKind.i64.wrap (n2 + 1))] w4) ∧
    m1 [Value.int IntKind.i64 n5, Value.int IntKind.i64 (IntKind.i64.wrap (n2 + 1))] w4 < m1 [Value.int IntKind.i64 n1, Value.int IntKind.i64 n2] w1)
    (nn (q1) fun a8 =>
    ∃ p6 : Option Addr,
    ∃ k11 : Nat,
    ∃ k12 : Nat,
    (w1.cell? a8 = some (Value.slice p6 k11 k12)) ∧
    idx (p6) (k11) (n1) (1) fun a9 =>
    ∃ p7 : Option Addr,
    ∃ k13 : Nat,
    ∃ k14 : Nat,
    (w1.cell? a9 = some (Value.slice p7 k13 k14)) ∧
    nn (q1) fun a10 =>
    ∃ p8 : Option Addr,
    ∃ k15 : Nat,
    ∃ k16 : Nat,
    (w1.cell? a10 = some (Value.slice p8 k15 k16)) ∧
    Calls P F.slices_Delete_api_Color #[Value.slice p8 k15 k16, Value.int IntKind.i64 n1, Value.int IntKind.i64 (IntKind.i64.wrap (n1 + 1))] w1 fun e3 w5 =>
    ∃ p9 : Option Addr,
    ∃ k17 : Nat,
    ∃ k18 : Nat,
    (e3 = Ending.returned (Value.slice p9 k17 k18)) ∧
    nn (q1) fun a11 =>
    (∃ v1 : Value,
      w5.cell? a11 = some v1) ∧
    (w5.frozen? a11 = false) ∧
    R (Ending.returned (Value.slice p7 k13 k14)) (setCells w5 a11 [Value.slice p9 k17 k18] 0))
theorem calls_quant_bag_api_Color_take (q1 : Option Addr) (w : World) (R : Ending → World → Prop) (h : vc_quant_bag_api_Color_take q1 w R) : Calls P F.quant_bag_api_Color_take #[.pointer q1] w R :=
  calls_of_vc (fn := Try.f28) (ac := ac_quant_bag_api_Color_take) (args := [.pointer q1]) mixed Try.func28 (by kernel_rfl) (cast (by unfold vc_quant_bag_api_Color_take FnVc; kernel_rfl) h)
/-- darkroom/quant.longest -/
def vc_quant_longest (sa1 : Option Addr) (sl1 sc1 : Nat) (w : World) (R : Ending → World → Prop) : Prop :=
  ∃ I1 : List Value → World → Prop,
  ∃ m1 : List Value → World → Nat,
  (I1 [Value.int IntKind.i64 (-1), Value.int IntKind.i64 0, Value.int IntKind.i64 0] w) ∧
  ∀ n1 : Int,
  ∀ n2 : Int,
  ∀ n3 : Int,
  ∀ w1 : World,
  (I1 [Value.int IntKind.i64 n1, Value.int IntKind.i64 n2, Value.int IntKind.i64 n3] w1) →
  brB (decide (n3 < 3))
    (∃ I2 : List Value → World → Prop,
    (∀ k1 : Nat,
      ∀ w2 : World,
      (New w1 (Obj.cells #[Value.int IntKind.i64 0] 3) k1 w2) →
      (∃ v1 : Value,
        w2.cell? { block := k1, off := 0 } = some v1) ∧
      (w2.frozen? { block := k1, off := 0 } = false) ∧
      ∃ n4 : Int,
      ((setCells w2 { block := k1, off := 0 } [Value.int IntKind.i64 n3] 0).drew.cell? { block := k1, off := 0 } = some (Value.int IntKind.i64 n4)) ∧
      ∃ n5 : Int,
      ((setCells w2 { block := k1, off := 0 } [Value.int IntKind.i64 n3] 0).drew.cell? { block := k1, off := 0 } = some (Value.int IntKind.i64 n5)) ∧
      Calls P F.slices_MaxFunc_api_Color #[Value.slice sa1 sl1 sc1, Value.func (Fn.func 54) #[] #[Value.pointer (some { block := k1, off := 0 })]] ((setCells w2 { block := k1, off := 0 } [Value.int IntKind.i64 n3] 0).drew) fun e1 w3 =>
      ∃ n6 : Int,
      ∃ n7 : Int,
      ∃ n8 : Int,
      ∃ n9 : Int,
      (e1 = Ending.returned (Value.agg #[Value.int IntKind.u16 n6, Value.int IntKind.u16 n7, Value.int IntKind.u16 n8, Value.int IntKind.u16 n9])) ∧
      (Keeps ((setCells w2 { block := k1, off := 0 } [Value.int IntKind.i64 n3] 0).drew) w3) ∧
      Calls P F.quant_axis #[Value.agg #[Value.int IntKind.u16 n6, Value.int IntKind.u16 n7, Value.int IntKind.u16 n8, Value.int IntKind.u16 n9], Value.int IntKind.i64 n4] w3 fun e2 w4 =>
      ∃ n10 : Int,
      (e2 = Ending.returned (Value.int IntKind.i64 n10)) ∧
      (Keeps w3 w4) ∧
      Calls P F.slices_MinFunc_api_Color #[Value.slice sa1 sl1 sc1, Value.func (Fn.func 54) #[] #[Value.pointer (some { block := k1, off := 0 })]] w4 fun e3 w5 =>
      ∃ n11 : Int,
      ∃ n12 : Int,
      ∃ n13 : Int,
      ∃ n14 : Int,
      (e3 = Ending.returned (Value.agg #[Value.int IntKind.u16 n11, Value.int IntKind.u16 n12, Value.int IntKind.u16 n13, Value.int IntKind.u16 n14])) ∧
      (Keeps w4 w5) ∧
      Calls P F.quant_axis #[Value.agg #[Value.int IntKind.u16 n11, Value.int IntKind.u16 n12, Value.int IntKind.u16 n13, Value.int IntKind.u16 n14], Value.int IntKind.i64 n5] w5 fun e4 w6 =>
      ∃ n15 : Int,
      (e4 = Ending.returned (Value.int IntKind.i64 n15)) ∧
      brB (decide (IntKind.i64.wrap (n10 - n15) > n1))
        (∃ n16 : Int,
        (w6.drew.cell? { block := k1, off := 0 } = some (Value.int IntKind.i64 n16)) ∧
        I2 [Value.int IntKind.i64 (IntKind.i64.wrap (n10 - n15)), Value.int IntKind.i64 n16] w6.drew)
        (I2 [Value.int IntKind.i64 n1, Value.int IntKind.i64 n2] w6)) ∧
    ∀ n17 : Int,
    ∀ n18 : Int,
    ∀ w7 : World,
    (I2 [Value.int IntKind.i64 n17, Value.int IntKind.i64 n18] w7) →
    (I1 [Value.int IntKind.i64 n17, Value.int IntKind.i64 n18, Value.int IntKind.i64 (IntKind.i64.wrap (n3 + 1))] w7) ∧
    m1 [Value.int IntKind.i64 n17, Value.int IntKind.i64 n18, Value.int IntKind.i64 (IntKind.i64.wrap (n3 + 1))] w7 < m1 [Value.int IntKind.i64 n1, Value.int IntKind.i64 n2, Value.int IntKind.i64 n3] w1)
    (R (Ending.returned (Value.int IntKind.i64 n2)) w1)
theorem calls_quant_longest (sa1 : Option Addr) (sl1 sc1 : Nat) (w : World) (R : Ending → World → Prop) (h : vc_quant_longest sa1 sl1 sc1 w R) : Calls P F.quant_longest #[.slice sa1 sl1 sc1] w R :=
  calls_of_vc (fn := Try.f29) (ac := ac_quant_longest) (args := [.slice sa1 sl1 sc1]) mixed Try.func29 (by kernel_rfl) (cast (by unfold vc_quant_longest FnVc; kernel_rfl) h)
/-- slices.Clone[[]darkroom/api.Color,darkroom/api.Color] -/
def vc_slices_Clone_api_Color (sa1 : Option Addr) (sl1 sc1 : Nat) (w : World) (R : Ending → World → Prop) : Prop :=
  brB (sa1.isNone)
    (R (Ending.returned (Value.slice none 0 0)) w)
    (∀ k1 : Nat,
    ∀ w1 : World,
    (New w (Obj.cells #[] 46) k1 w1) →
    ∃ l1 : List Value,
    (l1.length = sl1 * 4) ∧
    (oneAll l1 = true) ∧
    (CellsAre w1 sa1 l1) ∧
    appVC (w1) ([]) (some { block := k1, off := 0 }) (0) (0) (sl1) (4) (8) (46) ([Value.int IntKind.u16 0, Value.int IntKind.u16 0, Value.int IntKind.u16 0, Value.int IntKind.u16 0]) (l1) fun p1 k2 k3 w2 =>
    R (Ending.returned (Value.slice p1 k2 k3)) w2)
theorem calls_slices_Clone_api_Color (sa1 : Option Addr) (sl1 sc1 : Nat) (w : World) (R : Ending → World → Prop) (h : vc_slices_Clone_api_Color sa1 sl1 sc1 w R) : Calls P F.slices_Clone_api_Color #[.slice sa1 sl1 sc1] w R :=
  calls_of_vc (fn := Try.f30) (ac := ac_slices_Clone_api_Color) (args := [.slice sa1 sl1 sc1]) mixed Try.func30 (by kernel_rfl) (cast (by unfold vc_slices_Clone_api_Color FnVc; kernel_rfl) h)
/-- slices.SortStableFunc[[]darkroom/api.Color,darkroom/api.Color] -/
def vc_slices_SortStableFunc_api_Color (sa1 : Option Addr) (sl1 sc1 : Nat) (va1 : Value) (w : World) (R : Ending → World → Prop) : Prop :=
  Calls P F.slices_stableCmpFunc_api_Color #[Value.slice sa1 sl1 sc1, Value.int IntKind.i64 (↑sl1 : Int), va1] w fun e1 w1 =>
  (e1 = Ending.returned (Value.tuple #[])) ∧
  R (Ending.returned (Value.tuple #[])) w1
theorem calls_slices_SortStableFunc_api_Color (sa1 : Option Addr) (sl1 sc1 : Nat) (va1 : Value) (w : World) (R : Ending → World → Prop) (h : vc_slices_SortStableFunc_api_Color sa1 sl1 sc1 va1 w R) : Calls P F.slices_SortStableFunc_api_Color #[.slice sa1 sl1 sc1, va1] w R :=
  calls_of_vc (fn := Try.f31) (ac := ac_slices_SortStableFunc_api_Color) (args := [.slice sa1 sl1 sc1, va1]) mixed Try.func31 (by kernel_rfl) (cast (by unfold vc_slices_SortStableFunc_api_Color FnVc; kernel_rfl) h)
/-- darkroom/quant.Palette$2 -/
def vc_quant_Palette_fn2 (x1 : Int) (x2 : Int) (x3 : Int) (x4 : Int) (x5 : Int) (x6 : Int) (x7 : Int) (x8 : Int) (fr1 : Addr) (w : World) (R : Ending → World → Prop) : Prop :=
  ∀ k1 : Nat,
  (w.heap.size ≤ k1) →
  ∀ k2 : Nat,
  (w.heap.size ≤ k2) →
  ∀ w1 : World,
  (Locl ([k2, k1]) w w1) →
  ∃ n1 : Int,
  (w1.cell? fr1 = some (Value.int IntKind.i64 n1)) ∧
  ∃ n2 : Int,
  (w1.cell? fr1 = some (Value.int IntKind.i64 n2)) ∧
  Calls P F.quant_axis #[Value.agg #[Value.int IntKind.u16 x1, Value.int IntKind.u16 x2, Value.int IntKind.u16 x3, Value.int IntKind.u16 x4], Value.int IntKind.i64 n1] w1 fun e1 w2 =>
  ∃ n3 : Int,
  (e1 = Ending.returned (Value.int IntKind.i64 n3)) ∧
  (Keep ([k2, k1]) w1 w2) ∧
  (Keeps w1 w2) ∧
  Calls P F.quant_axis #[Value.agg #[Value.int IntKind.u16 x5, Value.int IntKind.u16 x6, Value.int IntKind.u16 x7, Value.int IntKind.u16 x8], Value.int IntKind.i64 n2] w2 fun e2 w3 =>
  ∃ n4 : Int,
  (e2 = Ending.returned (Value.int IntKind.i64 n4)) ∧
  (Keep ([k2, k1]) w2 w3) ∧
  Calls P F.cmp_Compare_int #[Value.int IntKind.i64 n3, Value.int IntKind.i64 n4] w3 fun e3 w4 =>
  ∃ n5 : Int,
  (e3 = Ending.returned (Value.int IntKind.i64 n5)) ∧
  (Keep ([k2, k1]) w3 w4) ∧
  R (Ending.returned (Value.int IntKind.i64 n5)) w4
theorem calls_quant_Palette_fn2 (x1 : Int) (x2 : Int) (x3 : Int) (x4 : Int) (x5 : Int) (x6 : Int) (x7 : Int) (x8 : Int) (fr1 : Addr) (w : World) (R : Ending → World → Prop) (h : vc_quant_Palette_fn2 x1 x2 x3 x4 x5 x6 x7 x8 fr1 w R) : Calls P F.quant_Palette_fn2 #[.agg #[.int .u16 x1, .int .u16 x2, .int .u16 x3, .int .u16 x4], .agg #[.int .u16 x5, .int .u16 x6, .int .u16 x7, .int .u16 x8], .pointer (some fr1)] w R :=
  calls_of_vc (fn := Try.f32) (ac := ac_quant_Palette_fn2) (args := [.agg #[.int .u16 x1, .int .u16 x2, .int .u16 x3, .int .u16 x4], .agg #[.int .u16 x5, .int .u16 x6, .int .u16 x7, .int .u16 x8], .pointer (some fr1)]) mixed Try.func32 (by kernel_rfl) (cast (by unfold vc_quant_Palette_fn2 FnVc; kernel_rfl) h)
/-- cmp.Compare[int] -/
def vc_cmp_Compare_int (x1 : Int) (x2 : Int) (w : World) (R : Ending → World → Prop) : Prop :=
  Calls P F.cmp_isNaN_int #[Value.int IntKind.i64 x1] w fun e1 w1 =>
  ∃ c1 : Bool,
  (e1 = Ending.returned (Value.bool c1)) ∧
  Calls P F.cmp_isNaN_int #[Value.int IntKind.i64 x2] w1 fun e2 w2 =>
  ∃ c2 : Bool,
  (e2 = Ending.returned (Value.bool c2)) ∧
  brB (c1)
    (brB (c2)
      (R (Ending.returned (Value.int IntKind.i64 0)) w2)
      (R (Ending.returned (Value.int IntKind.i64 (-1))) w2))
    (brB (c2)
      (R (Ending.returned (Value.int IntKind.i64 1)) w2)
      (brB (decide (x1 < x2))
        (R (Ending.returned (Value.int IntKind.i64 (-1))) w2)
        (brB (decide (x1 > x2))
          (R (Ending.returned (Value.int IntKind.i64 1)) w2)
          (R (Ending.returned (Value.int IntKind.i64 0)) w2))))
theorem calls_cmp_Compare_int (x1 : Int) (x2 : Int) (w : World) (R : Ending → World → Prop) (h : vc_cmp_Compare_int x1 x2 w R) : Calls P F.cmp_Compare_int #[.int .i64 x1, .int .i64 x2] w R :=
  calls_of_vc (fn := Try.f33) (ac := ac_cmp_Compare_int) (args := [.int .i64 x1, .int .i64 x2]) mixed Try.func33 (by kernel_rfl) (cast (by unfold vc_cmp_Compare_int FnVc; kernel_rfl) h)
/-- darkroom/quant.axis -/
def vc_quant_axis (x1 : Int) (x2 : Int) (x3 : Int) (x4 : Int) (x5 : Int) (w : World) (R : Ending → World → Prop) : Prop :=
  ∀ k1 : Nat,
  (w.heap.size ≤ k1) →
  (0 ≤ x5) ∧
  (x5 < 3) ∧
  ∃ n1 : Int,
  ([Value.int IntKind.i64 (IntKind.i64.wrap x1), Value.int IntKind.i64 (IntKind.i64.wrap x2), Value.int IntKind.i64 (IntKind.i64.wrap x3)][x5.toNat]? = some (Value.int IntKind.i64 n1)) ∧
  ∀ w1 : World,
  (Locl ([k1]) w w1) →
  R (Ending.returned (Value.int IntKind.i64 n1)) w1
theorem calls_quant_axis (x1 : Int) (x2 : Int) (x3 : Int) (x4 : Int) (x5 : Int) (w : World) (R : Ending → World → Prop) (h : vc_quant_axis x1 x2 x3 x4 x5 w R) : Calls P F.quant_axis #[.agg #[.int .u16 x1, .int .u16 x2, .int .u16 x3, .int .u16 x4], .int .i64 x5] w R :=
  calls_of_vc (fn := Try.f34) (ac := ac_quant_axis) (args := [.agg #[.int .u16 x1, .int .u16 x2, .int .u16 x3, .int .u16 x4], .int .i64 x5]) mixed Try.func34 (by kernel_rfl) (cast (by unfold vc_quant_axis FnVc; kernel_rfl) h)
/-- darkroom/darkroomref09.Copy -/
def vc_ref09_Copy (x1 : Int) (x2 : Int) (sa1 : Option Addr) (sl1 sc1 : Nat) (w : World) (R : Ending → World → Prop) : Prop :=
  ∀ k1 : Nat,
  (w.heap.size ≤ k1) →
  ∀ k2 : Nat,
  (w.heap.size ≤ k2) →
  ∀ w1 : World,
  (Locl ([k2, k1]) w w1) →
  ∀ k3 : Nat,
  ∀ w2 : World,
  (New w1 (Obj.cells #[] 44) k3 w2) →
  ∃ l1 : List Value,
  (l1.length = sl1 * 1) ∧
  (oneAll l1 = true) ∧
  (CellsAre w2 sa1 l1) ∧
  appVC (w2) ([(2, k2, [Value.int IntKind.i64 0, Value.int IntKind.i64 0, Value.slice none 0 0]), (1, k1, [Value.int IntKind.i64 x1, Value.int IntKind.i64 x2, Value.slice sa1 sl1 sc1])]) (some { block := k3, off := 0 }) (0) (0) (sl1) (1) (2) (44) ([Value.int IntKind.u16 0]) (l1) fun p1 k4 k5 w3 =>
  ∀ w4 : World,
  (Locl ([k2, k1]) w3 w4) →
  R (Ending.returned (Value.agg #[Value.int IntKind.i64 x1, Value.int IntKind.i64 x2, Value.slice p1 k4 k5])) w4
theorem calls_ref09_Copy (x1 : Int) (x2 : Int) (sa1 : Option Addr) (sl1 sc1 : Nat) (w : World) (R : Ending → World → Prop) (h : vc_ref09_Copy x1 x2 sa1 sl1 sc1 w R) : Calls P F.ref09_Copy #[.agg #[.int .i64 x1, .int .i64 x2, .slice sa1 sl1 sc1]] w R :=
  calls_of_vc (fn := Try.f35) (ac := ac_ref09_Copy) (args := [.agg #[.int .i64 x1, .int .i64 x2, .slice sa1 sl1 sc1]]) mixed Try.func35 (by kernel_rfl) (cast (by unfold vc_ref09_Copy FnVc; kernel_rfl) h)
/-- darkroom/darkroomref07.Fits -/
def vc_ref07_Fits (x1 : Int) (x2 : Int) (w : World) (R : Ending → World → Prop) : Prop :=
  R (Ending.returned (Value.bool (decide (x1 ≥ 1) && decide (x2 ≥ 1) && decide (x1 ≤ 4096) && decide (x2 ≤ 4096) && decide (IntKind.i64.wrap (x1 * x2) ≤ 65536)))) w
theorem calls_ref07_Fits (x1 : Int) (x2 : Int) (w : World) (R : Ending → World → Prop) (h : vc_ref07_Fits x1 x2 w R) : Calls P F.ref07_Fits #[.int .i64 x1, .int .i64 x2] w R :=
  calls_of_vc (fn := Try.f36) (ac := ac_ref07_Fits) (args := [.int .i64 x1, .int .i64 x2]) mixed Try.func36 (by kernel_rfl) (cast (by unfold vc_ref07_Fits FnVc; kernel_rfl) h)
/-- darkroom/darkroomref14.Range -/
def vc_ref14_Range (x1 : Int) (x2 : Int) (sa1 : Option Addr) (sl1 sc1 : Nat) (w : World) (R : Ending → World → Prop) : Prop :=
  ∀ k1 : Nat,
  (w.heap.size ≤ k1) →
  ∀ k2 : Nat,
  (w.heap.size ≤ k2) →
  ∀ k3 : Nat,
  (w.heap.size ≤ k3) →
  ∀ k4 : Nat,
  (w.heap.size ≤ k4) →
  ∀ k5 : Nat,
  (w.heap.size ≤ k5) →
  ∃ I1 : List Value → World → Prop,
  ∃ m1 : List Value → World → Nat,
  (∀ w1 : World,
    (Locl ([k5, k4, k3, k2, k1]) w w1) →
    I1 [Value.int IntKind.i64 0, Value.int IntKind.u16 65535, Value.int IntKind.u16 65535, Value.int IntKind.u16 65535, Value.int IntKind.u16 65535, Value.int IntKind.u16 0, Value.int IntKind.u16 0, Value.int IntKind.u16 0, Value.int IntKind.u16 65535] w1) ∧
  ∀ n1 : Int,
  ∀ n2 : Int,
  ∀ n3 : Int,
  ∀ n4 : Int,
  ∀ n5 : Int,
  ∀ n6 : Int,
  ∀ n7 : Int,
  ∀ n8 : Int,
  ∀ n9 : Int,
  ∀ w2 : World,
  (I1 [Value.int IntKind.i64 n1, Value.int IntKind.u16 n2, Value.int IntKind.u16 n3, Value.int IntKind.u16 n4, Value.int IntKind.u16 n5, Value.int IntKind.u16 n6, Value.int IntKind.u16 n7, Value.int IntKind.u16 n8, Value.int IntKind.u16 n9] w2) →
  brB (decide (n1 < x2))
    (∃ I2 : List Value → World → Prop,
    ∃ m2 : List Value → World → Nat,
    (I2 [Value.int IntKind.i64 0, Value.int IntKind.u16 n2, Value.int IntKind.u16 n3, Value.int IntKind.u16 n4, Value.int IntKind.u16 n5, Value.int IntKind.u16 n6, Value.int IntKind.u16 n7, Value.int IntKind.u16 n8, Value.int IntKind.u16 n9] w2) ∧
    ∀ n10 : Int,
    ∀ n11 : Int,
    ∀ n12 : Int,
    ∀ n13 : Int,
    ∀ n14 : Int,
    ∀ n15 : Int,
    ∀ n16 : Int,
    ∀ n17 : Int,
    ∀ n18 : Int,
    ∀ w3 : World,
    (I2 [Value.int IntKind.i64 n10, Value.int IntKind.u16 n11, Value.int IntKind.u16 n12, Value.int IntKind.u16 n13, Value.int IntKind.u16 n14, Value.int IntKind.u16 n15, Value.int IntKind.u16 n16, Value.int IntKind.u16 n17, Value.int IntKind.u16 n18] w3) →
    brB (decide (n10 < x1))
      (∃ I3 : List Value → World → Prop,
      (Calls P F.ref09_Pixel #[Value.agg #[Value.int IntKind.i64 x1, Value.int IntKind.i64 x2, Value.slice sa1 sl1 sc1], Value.int IntKind.i64 n10, Value.int IntKind.i64 n1] w3 fun e1 w4 =>
        ∃ n19 : Int,
        ∃ n20 : Int,
        ∃ n21 : Int,
        ∃ n22 : Int,
        (e1 = Ending.returned (Value.agg #[Value.int IntKind.u16 n19, Value.int IntKind.u16 n20, Value.int IntKind.u16 n21, Value.int IntKind.u16 n22])) ∧
        (Keep ([k5, k4, k3, k2, k1]) w3 w4) ∧
        ∀ k6 : Nat,
        (w4.heap.size ≤ k6) →
        ∀ w5 : World,
        (Locl ([k6, k5, k4, k3, k2, k1]) w4 w5) →
        Calls P F.ref14_Clear #[Value.agg #[Value.int IntKind.u16 n19, Value.int IntKind.u16 n20, Value.int IntKind.u16 n21, Value.int IntKind.u16 n22]] w5 fun e2 w6 =>
        ∃ c1 : Bool,
        (e2 = Ending.returned (Value.bool c1)) ∧
        (Keep ([k6, k5, k4, k3, k2, k1]) w5 w6) ∧
        brB (c1)
          (I3 [Value.int IntKind.u16 n11, Value.int IntKind.u16 n12, Value.int IntKind.u16 n13, Value.int IntKind.u16 n14, Value.int IntKind.u16 n15, Value.int IntKind.u16 n16, Value.int IntKind.u16 n17, Value.int IntKind.u16 n18] w6)
          (Calls P F.ref14_Eight #[Value.agg #[Value.int IntKind.u16 n19, Value.int IntKind.u16 n20, Value.int IntKind.u16 n21, Value.int IntKind.u16 n22]] w6 fun e3 w7 =>
          ∃ n23 : Int,
          ∃ n24 : Int,
          ∃ n25 : Int,
          ∃ n26 : Int,
          (e3 = Ending.returned (Value.agg #[Value.int IntKind.u16 n23, Value.int IntKind.u16 n24, Value.int IntKind.u16 n25, Value.int IntKind.u16 n26])) ∧
          (Keep ([k6, k5, k4, k3, k2, k1]) w6 w7) ∧
          ∃ I4 : List Value → World → Prop,
          (brB (decide (n23 < n11))
              (∀ w8 : World,
              (Locl ([k6, k5, k4, k3, k2, k1]) w7 w8) →
              I4 [Value.int IntKind.u16 n23, Value.int IntKind.u16 n12, Value.int IntKind.u16 n13, Value.int IntKind.u16 n14] w8)
              (∀ w9 : World,
              (Locl ([k6, k5, k4, k3, k2, k1]) w7 w9) →
              I4 [Value.int IntKind.u16 n11, Value.int IntKind.u16 n12, Value.int IntKind.u16 n13, Value.int IntKind.u16 n14] w9)) ∧
          ∀ n27 : Int,
          ∀ n28 : Int,
          ∀ n29 : Int,
          ∀ n30 : Int,
          ∀ w10 : World,
          (I4 [Value.int IntKind.u16 n27, Value.int IntKind.u16 n28, Value.int IntKind.u16 n29, Value.int IntKind.u16 n30] w10) →
          ∃ I5 : List Value → World → Prop,
          (brB (decide (n24 < n28))
              (∀ w11 : World,
              (Locl ([k6, k5, k4, k3, k2, k1]) w10 w11) →
              I5 [Value.int IntKind.u16 n27, Value.int IntKind.u16 n24, Value.int IntKind.u16 n29, Value.int IntKind.u16 n30] w11)
              (I5 [Value.int IntKind.u16 n27, Value.int IntKind.u16 n28, Value.int IntKind.u16 n29, Value.int IntKind.u16 n30] w10)) ∧
          ∀ n31 : Int,
          ∀ n32 : Int,
          ∀ n33 : Int,
          ∀ n34 : Int,
          ∀ w12 : World,
          (I5 [Value.int IntKind.u16 n31, Value.int IntKind.u16 n32, Value.int IntKind.u16 n33, Value.int IntKind.u16 n34] w12) →
          ∃ I6 : List Value → World → Prop,
          (brB (decide (n25 < n33))
              (∀ w13 : World,
              (Locl ([k6, k5, k4, k3, k2, k1]) w12 w13) →
              I6 [Value.int IntKind.u16 n31, Value.int IntKind.u16 n32, Value.int IntKind.u16 n25, Value.int IntKind.u16 n34] w13)
              (I6 [Value.int IntKind.u16 n31, Value.int IntKind.u16 n32, Value.int IntKind.u16 n33, Value.int IntKind.u16 n34] w12)) ∧
          ∀ n35 : Int,
          ∀ n36 : Int,
          ∀ n37 : Int,
          ∀ n38 : Int,
          ∀ w14 : World,
          (I6 [Value.int IntKind.u16 n35, Value.int IntKind.u16 n36, Value.int IntKind.u16 n37, Value.int IntKind.u16 n38] w14) →
          ∃ I7 : List Value → World → Prop,
          (brB (decide (n23 > n15))
              (∀ w15 : World,
              (Locl ([k6, k5, k4, k3, k2, k1]) w14 w15) →
              I7 [Value.int IntKind.u16 n23, Value.int IntKind.u16 n16, Value.int IntKind.u16 n17, Value.int IntKind.u16 n18] w15)
              (I7 [Value.int IntKind.u16 n15, Value.int IntKind.u16 n16, Value.int IntKind.u16 n17, Value.int IntKind.u16 n18] w14)) ∧
          ∀ n39 : Int,
          ∀ n40 : Int,
          ∀ n41 : Int,
          ∀ n42 : Int,
          ∀ w16 : World,
          (I7 [Value.int IntKind.u16 n39, Value.int IntKind.u16 n40, Value.int IntKind.u16 n41, Value.int IntKind.u16 n42] w16) →
          brB (decide (n24 > n40))
            (brB (decide (n25 > n41))
              (∀ w17 : World,
              (Locl ([k6, k5, k4, k3, k2, k1]) w16 w17) →
              I3 [Value.int IntKind.u16 n35, Value.int IntKind.u16 n36, Value.int IntKind.u16 n37, Value.int IntKind.u16 n38, Value.int IntKind.u16 n39, Value.int IntKind.u16 n24, Value.int IntKind.u16 n25, Value.int IntKind.u16 n42] w17)
              (∀ w18 : World,
              (Locl ([k6, k5, k4, k3, k2, k1]) w16 w18) →
              I3 [Value.int IntKind.u16 n35, Value.int IntKind.u16 n36, Value.int IntKind.u16 n37, Value.int IntKind.u16 n38, Value.int IntKind.u16 n39, Value.int IntKind.u16 n24, Value.int IntKind.u16 n41, Value.int IntKind.u16 n42] w18))
            (brB (decide (n25 > n41))
              (∀ w19 : World,
              (Locl ([k6, k5, k4, k3, k2, k1]) w16 w19) →
              I3 [Value.int IntKind.u16 n35, Value.int IntKind.u16 n36, Value.int IntKind.u16 n37, Value.int IntKind.u16 n38, Value.int IntKind.u16 n39, Value.int IntKind.u16 n40, Value.int IntKind.u16 n25, Value.int IntKind.u16 n42] w19)
              (I3 [Value.int IntKind.u16 n35, Value.int IntKind.u16 n36, Value.int IntKind.u16 n37, Value.int IntKind.u16 n38, Value.int IntKind.u16 n39, Value.int IntKind.u16 n40, Value.int IntKind.u16 n41, Value.int IntKind.u16 n42] w16)))) ∧
      ∀ n43 : Int,
      ∀ n44 : Int,
      ∀ n45 : Int,
      ∀ n46 : Int,
      ∀ n47 : Int,
      ∀ n48 : Int,
      ∀ n49 : Int,
      ∀ n50 : Int,
      ∀ w20 : World,
      (I3 [Value.int IntKind.u16 n43, Value.int IntKind.u16 n44, Value.int IntKind.u16 n45, Value.int IntKind.u16 n46, Value.int IntKind.u16 n47, Value.int IntKind.u16 n48, Value.int IntKind.u16 n49, Value.int IntKind.u16 n50] w20) →
      (I2 [Value.int IntKind.i64 (IntKind.i64.wrap (n10 + 1)), Value.int IntKind.u16 n43, Value.int IntKind.u16 n44, Value.int IntKind.u16 n45, Value.int IntKind.u16 n46, Value.int IntKind.u16 n47, Value.int IntKind.u16 n48, Value.int IntKind.u16 n49, Value.int IntKind.u16 n50] w20) ∧
      m2 [Value.int IntKind.i64 (IntKind.i64.wrap (n10 + 1)), Value.int IntKind.u16 n43, Value.int IntKind.u16 n44, Value.int IntKind.u16 n45, Value.int IntKind.u16 n46, Value.int IntKind.u16 n47, Value.int IntKind.u16 n48, Value.int IntKind.u16 n49, Value.int IntKind.u16 n50] w20 < m2 [Value.int IntKind.i64 n10, Value.int IntKind.u16 n11, Value.int IntKind.u16 n12, Value.int IntKind.u16 n13, Value.int IntKind.u16 n14, Value.int IntKind.u16 n15, Value.int IntKind.u16 n16, Value.int IntKind.u16 n17, Value.int IntKind.u16 n18] w3)
      ((I1 [Value.int IntKind.i64 (IntKind.i64.wrap (n1 + 1)), Value.int IntKind.u16 n11, Value.int IntKind.u16 n12, Value.int IntKind.u16 n13, Value.int IntKind.u16 n14, Value.int IntKind.u16 n15, Value.int IntKind.u16 n16, Value.int IntKind.u16 n17, Value.int IntKind.u16 n18] w3) ∧
      m1 [Value.int IntKind.i64 (IntKind.i64.wrap (n1 + 1)), Value.int IntKind.u16 n11, Value.int IntKind.u16 n12, Value.int IntKind.u16 n13, Value.int IntKind.u16 n14, Value.int IntKind.u16 n15, Value.int IntKind.u16 n16, Value.int IntKind.u16 n17, Value.int IntKind.u16 n18] w3 < m1 [Value.int IntKind.i64 n1, Value.int IntKind.u16 n2, Value.int IntKind.u16 n3, Value.int IntKind.u16 n4, Value.int IntKind.u16 n5, Value.int IntKind.u16 n6, Value.int IntKind.u16 n7, Value.int IntKind.u16 n8, Value.int IntKind.u16 n9] w2))
    (∀ w21 : World,
    (Locl ([k5, k4, k3, k2, k1]) (w2.drew) w21) →
    R (Ending.returned (Value.tuple #[Value.agg #[Value.int IntKind.u16 n2, Value.int IntKind.u16 n3, Value.int IntKind.u16 n4, Value.int IntKind.u16 n5], Value.agg #[Value.int IntKind.u16 n6, Value.int IntKind.u16 n7, Value.int IntKind.u16 n8, Value.int IntKind.u16 n9]])) w21)
theorem calls_ref14_Range (x1 : Int) (x2 : Int) (sa1 : Option Addr) (sl1 sc1 : Nat) (w : World) (R : Ending → World → Prop) (h : vc_ref14_Range x1 x2 sa1 sl1 sc1 w R) : Calls P F.ref14_Range #[.agg #[.int .i64 x1, .int .i64 x2, .slice sa1 sl1 sc1]] w R :=
  calls_of_vc (fn := Try.f37) (ac := ac_ref14_Range) (args := [.agg #[.int .i64 x1, .int .i64 x2, .slice sa1 sl1 sc1]]) mixed Try.func37 (by kernel_rfl) (cast (by unfold vc_ref14_Range FnVc; kernel_rfl) h)
/-- darkroom/darkroomref14.depth8 -/
def vc_ref14_depth8 (x1 : Int) (x2 : Int) (x3 : Int) (x4 : Int) (w : World) (R : Ending → World → Prop) : Prop :=
  ∀ k1 : Nat,
  (w.heap.size ≤ k1) →
  ∀ w1 : World,
  (Locl ([k1]) w w1) →
  R (Ending.returned (Value.bool (divZ BinOp.rem IntKind.u16 x1 257 == 0 && divZ BinOp.rem IntKind.u16 x2 257 == 0 && divZ BinOp.rem IntKind.u16 x3 257 == 0 && x4 == 65535))) w1
theorem calls_ref14_depth8 (x1 : Int) (x2 : Int) (x3 : Int) (x4 : Int) (w : World) (R : Ending → World → Prop) (h : vc_ref14_depth8 x1 x2 x3 x4 w R) : Calls P F.ref14_depth8 #[.agg #[.int .u16 x1, .int .u16 x2, .int .u16 x3, .int .u16 x4]] w R :=
  calls_of_vc (fn := Try.f38) (ac := ac_ref14_depth8) (args := [.agg #[.int .u16 x1, .int .u16 x2, .int .u16 x3, .int .u16 x4]]) mixed Try.func38 (by kernel_rfl) (cast (by unfold vc_ref14_depth8 FnVc; kernel_rfl) h)
/-- darkroom/darkroomref09.Place -/
def vc_ref09_Place (sa1 : Option Addr) (sl1 sc1 : Nat) (x1 : Int) (x2 : Int) (x3 : Int) (x4 : Int) (w : World) (R : Ending → World → Prop) : Prop :=
  ∀ k1 : Nat,
  (w.heap.size ≤ k1) →
  ∃ I1 : List Value → World → Prop,
  ∃ m1 : List Value → World → Nat,
  (∀ w1 : World,
    (Locl ([k1]) w w1) →
    I1 [Value.int IntKind.i64 0] w1) ∧
  ∀ n1 : Int,
  ∀ w2 : World,
  (I1 [Value.int IntKind.i64 n1] w2) →
  brB (decide (n1 < (↑sl1 : Int)))
    (idx (sa1) (sl1) (n1) (4) fun a1 =>
    ∃ n2 : Int,
    ∃ n3 : Int,
    ∃ n4 : Int,
    ∃ n5 : Int,
    (w2.drew.cell? a1 = some (Value.int IntKind.u16 n2)) ∧
    (w2.drew.cell? (a1.add 1) = some (Value.int IntKind.u16 n3)) ∧
    (w2.drew.cell? (a1.add 2) = some (Value.int IntKind.u16 n4)) ∧
    (w2.drew.cell? (a1.add 3) = some (Value.int IntKind.u16 n5)) ∧
    brB (decide (n2 = x1) && (decide (n3 = x2) && (decide (n4 = x3) && (decide (n5 = x4) && true))))
      (R (Ending.returned (Value.int IntKind.i64 n1)) w2.drew)
      ((I1 [Value.int IntKind.i64 (IntKind.i64.wrap (n1 + 1))] w2.drew) ∧
      m1 [Value.int IntKind.i64 (IntKind.i64.wrap (n1 + 1))] w2.drew < m1 [Value.int IntKind.i64 n1] w2))
    (R (Ending.returned (Value.int IntKind.i64 (-1))) w2)
theorem calls_ref09_Place (sa1 : Option Addr) (sl1 sc1 : Nat) (x1 : Int) (x2 : Int) (x3 : Int) (x4 : Int) (w : World) (R : Ending → World → Prop) (h : vc_ref09_Place sa1 sl1 sc1 x1 x2 x3 x4 w R) : Calls P F.ref09_Place #[.slice sa1 sl1 sc1, .agg #[.int .u16 x1, .int .u16 x2, .int .u16 x3, .int .u16 x4]] w R :=
  calls_of_vc (fn := Try.f39) (ac := ac_ref09_Place) (args := [.slice sa1 sl1 sc1, .agg #[.int .u16 x1, .int .u16 x2, .int .u16 x3, .int .u16 x4]]) mixed Try.func39 (by kernel_rfl) (cast (by unfold vc_ref09_Place FnVc; kernel_rfl) h)
/-- darkroom/raster.Grid -/
def vc_raster_Grid (x1 : Int) (x2 : Int) (sa1 : Option Addr) (sl1 sc1 : Nat) (w : World) (R : Ending → World → Prop) : Prop :=
  ∀ k1 : Nat,
  (w.heap.size ≤ k1) →
  ∀ w1 : World,
  (Locl ([k1]) w w1) →
  Calls P F.raster_Good #[Value.agg #[Value.int IntKind.i64 x1, Value.int IntKind.i64 x2, Value.slice sa1 sl1 sc1]] w1 fun e1 w2 =>
  ∃ c1 : Bool,
  (e1 = Ending.returned (Value.bool c1)) ∧
  (Keep ([k1]) w1 w2) ∧
  brB (!c1)
    (R (Ending.returned (Value.tuple #[Value.pointer none, Value.int IntKind.i64 6])) w2)
    (((0 : Int) ≤ 0) ∧
    (0 ≤ IntKind.i64.wrap (x1 * x2)) ∧
    (IntKind.i64.wrap (x1 * x2) * 8 ≤ 281474976710656) ∧
    (IntKind.i64.wrap (x1 * x2) < 4611686018427387904) ∧
    ∀ k2 : Nat,
    ∀ w3 : World,
    (New w2 (Obj.cells (mkCells [Value.int IntKind.u16 0, Value.int IntKind.u16 0, Value.int IntKind.u16 0, Value.int IntKind.u16 0] (IntKind.i64.wrap (x1 * x2)).toNat) 46) k2 w3) →
    ∀ k3 : Nat,
    (w3.heap.size ≤ k3) →
    ∀ w4 : World,
    (Locl ([k3, k1]) w3 w4) →
    Calls P F.slices_Chunk_uint16 #[Value.slice sa1 sl1 sc1, Value.int IntKind.i64 4] w4 fun e2 w5 =>
    ∃ y1 : FuncId,
    ∃ y2 : Array Value,
    ∃ y3 : Array Value,
    (e2 = Ending.returned (Value.func (Fn.func y1) y2 y3)) ∧
    (Keep ([k3, k1]) w4 w5) ∧
    ∀ k4 : Nat,
    ∀ w6 : World,
    (Rf w5 w6 k4) →
    ∀ I1 : List Value → World → Prop,
    ∀ Z1 : Exit → List Value → World → Prop,
    (∀ l1 : List Value,
    ∀ w7 : World,
    ∀ w8 : World,
    (I1 l1 w7) →
    (Keep ([k4, w5.heap.size, k3, k1]) w7 w8) →
    I1 l1 w8) →
    (∀ y4 : Exit,
    ∀ l2 : List Value,
    ∀ w9 : World,
    ∀ w10 : World,
    (Z1 y4 l2 w9) →
    (Keep ([k4, w5.heap.size, k3, k1]) w9 w10) →
    Z1 y4 l2 w10) →
    (I1 [Value.slice (some { block := k2, off := 0 }) 0 (IntKind.i64.wrap (x1 * x2)).toNat] w6) →
    (∀ p1 : Option Addr,
    ∀ k5 : Nat,
    ∀ k6 : Nat,
    ∀ p2 : Option Addr,
    ∀ k7 : Nat,
    ∀ k8 : Nat,
    ∀ w11 : World,
    ∀ I2 : Ending → World → Prop,
    (I1 [Value.slice p1 k5 k6] w11) →
    (∀ y5 : Obj,
    ∀ y6 : Obj,
    ∀ w12 : World,
    (Put k4 w11 w12) →
    Calls P F.raster_colour #[Value.slice p2 k7 k8] (w12.drew) fun e3 w13 =>
    ∃ n1 : Int,
    ∃ n2 : Int,
    ∃ n3 : Int,
    ∃ n4 : Int,
    (e3 = Ending.returned (Value.agg #[Value.int IntKind.u16 n1, Value.int IntKind.u16 n2, Value.int IntKind.u16 n3, Value.int IntKind.u16 n4])) ∧
    (Keep ([k4, w5.heap.size, k3, k1]) (w12.drew) w13) ∧
    (Keeps (w12.drew) w13) ∧
    ∀ k9 : Nat,
    (w13.heap.size ≤ k9) →
    ∀ w14 : World,
    (Locl ([k9, k3, k1]) w13 w14) →
    appVC (w14) ([(22, k9, [Value.int IntKind.u16 n1, Value.int IntKind.u16 n2, Value.int IntKind.u16 n3, Value.int IntKind.u16 n4]), (4, k3, [Value.slice p1 k5 k6]), (1, k1, [Value.int IntKind.i64 x1, Value.int IntKind.i64 x2, Value.slice sa1 sl1 sc1])]) (p1) (k5) (k6) (1) (4) (8) (46) ([Value.int IntKind.u16 0, Value.int IntKind.u16 0, Value.int IntKind.u16 0, Value.int IntKind.u16 0]) ([Value.int IntKind.u16 n1, Value.int IntKind.u16 n2, Value.int IntKind.u16 n3, Value.int IntKind.u16 n4]) fun p3 k10 k11 w15 =>
    ∀ w16 : World,
    (Locl ([k9, k3, k1]) w15 w16) →
    ∀ w17 : World,
    (Put k4 w16 w17) →
    (I1 [Value.slice p3 k10 k11] w17) →
    I2 (Ending.returned (Value.bool true)) w17) →
    YieldAt Fence.wide 0 P (k4) #[Value.slice p2 k7 k8] (w11) I2) →
    callF P (Value.func (Fn.func y1) y2 y3) [Value.func (Fn.yield k4) #[] #[]] w6 fun e4 w18 =>
    ∃ v1 : Value,
    (e4 = Ending.returned v1) ∧
    ((∃ p4 : Option Addr,
      ∃ k12 : Nat,
      ∃ k13 : Nat,
      (I1 [Value.slice p4 k12 k13] w18) ∧
      ∀ w19 : World,
      (Put k4 w18 w19) →
      Calls P F.grid_Of_api_Color #[Value.int IntKind.i64 x1, Value.int IntKind.i64 x2, Value.slice p4 k12 k13] w19 fun e5 w20 =>
      ∃ p5 : Option Addr,
      ∃ n5 : Int,
      (e5 = Ending.returned (Value.tuple #[Value.pointer p5, Value.int IntKind.i64 n5])) ∧
      (Keep ([w5.heap.size, k3, k1]) w19 w20) ∧
      ∀ w21 : World,
      (Put (w5.heap.size) w20 w21) →
      R (Ending.returned (Value.tuple #[Value.pointer p5, Value.int IntKind.i64 n5])) w21) ∨
    (False)))
theorem calls_raster_Grid (x1 : Int) (x2 : Int) (sa1 : Option Addr) (sl1 sc1 : Nat) (w : World) (R : Ending → World → Prop) (h : vc_raster_Grid x1 x2 sa1 sl1 sc1 w R) : Calls P F.raster_Grid #[.agg #[.int .i64 x1, .int .i64 x2, .slice sa1 sl1 sc1]] w R :=
  calls_of_vc (fn := Try.f40) (ac := ac_raster_Grid) (args := [.agg #[.int .i64 x1, .int .i64 x2, .slice sa1 sl1 sc1]]) mixed Try.func40 (by kernel_rfl) (cast (by unfold vc_raster_Grid FnVc; kernel_rfl) h)
/-- slices.IndexFunc[[]darkroom/api.Color,darkroom/api.Color] -/
def vc_slices_IndexFunc_api_Color (sa1 : Option Addr) (sl1 sc1 : Nat) (va1 : Value) (w : World) (R : Ending → World → Prop) : Prop :=
  ∃ I1 : List Value → World → Prop,
  ∃ m1 : List Value → World → Nat,
  (I1 [Value.int IntKind.i64 0] w) ∧
  ∀ n1 : Int,
  ∀ w1 : World,
  (I1 [Value.int IntKind.i64 n1] w1) →
  brB (decide (n1 < (↑sl1 : Int)))
    (idx (sa1) (sl1) (n1) (4) fun a1 =>
    ∃ n2 : Int,
    ∃ n3 : Int,
    ∃ n4 : Int,
    ∃ n5 : Int,
    (w1.cell? a1 = some (Value.int IntKind.u16 n2)) ∧
    (w1.cell? (a1.add 1) = some (Value.int IntKind.u16 n3)) ∧
    (w1.cell? (a1.add 2) = some (Value.int IntKind.u16 n4)) ∧
    (w1.cell? (a1.add 3) = some (Value.int IntKind.u16 n5)) ∧
    callV P (va1) [Value.agg #[Value.int IntKind.u16 n2, Value.int IntKind.u16 n3, Value.int IntKind.u16 n4, Value.int IntKind.u16 n5]] w1 fun e1 w2 =>
    ∃ c1 : Bool,
    (e1 = Ending.returned (Value.bool c1)) ∧
    brB (c1)
      (R (Ending.returned (Value.int IntKind.i64 n1)) w2)
      ((I1 [Value.int IntKind.i64 (IntKind.i64.wrap (n1 + 1))] w2) ∧
      m1 [Value.int IntKind.i64 (IntKind.i64.wrap (n1 + 1))] w2 < m1 [Value.int IntKind.i64 n1] w1))
    (R (Ending.returned (Value.int IntKind.i64 (-1))) w1)
theorem calls_slices_IndexFunc_api_Color (sa1 : Option Addr) (sl1 sc1 : Nat) (va1 : Value) (w : World) (R : Ending → World → Prop) (h : vc_slices_IndexFunc_api_Color sa1 sl1 sc1 va1 w R) : Calls P F.slices_IndexFunc_api_Color #[.slice sa1 sl1 sc1, va1] w R :=
  calls_of_vc (fn := Try.f41) (ac := ac_slices_IndexFunc_api_Color) (args := [.slice sa1 sl1 sc1, va1]) mixed Try.func41 (by kernel_rfl) (cast (by unfold vc_slices_IndexFunc_api_Color FnVc; kernel_rfl) h)
/-- darkroom/quant.Apply$1 -/
def vc_quant_Apply_fn1 (x1 : Int) (x2 : Int) (x3 : Int) (x4 : Int) (w : World) (R : Ending → World → Prop) : Prop :=
  ∀ k1 : Nat,
  (w.heap.size ≤ k1) →
  ∀ w1 : World,
  (Locl ([k1]) w w1) →
  R (Ending.returned (Value.bool (x4 == 0))) w1
theorem calls_quant_Apply_fn1 (x1 : Int) (x2 : Int) (x3 : Int) (x4 : Int) (w : World) (R : Ending → World → Prop) (h : vc_quant_Apply_fn1 x1 x2 x3 x4 w R) : Calls P F.quant_Apply_fn1 #[.agg #[.int .u16 x1, .int .u16 x2, .int .u16 x3, .int .u16 x4]] w R :=
  calls_of_vc (fn := Try.f42) (ac := ac_quant_Apply_fn1) (args := [.agg #[.int .u16 x1, .int .u16 x2, .int .u16 x3, .int .u16 x4]]) mixed Try.func42 (by kernel_rfl) (cast (by unfold vc_quant_Apply_fn1 FnVc; kernel_rfl) h)
/-- (*darkroom/grid.Grid[darkroom/api.Color]).All -/
def vc_grid_Grid_api_Color_All (q1 : Option Addr) (w : World) (R : Ending → World → Prop) : Prop :=
  ∀ k1 : Nat,
  ∀ w1 : World,
  (New w (Obj.cells #[Value.pointer q1] 77) k1 w1) →
  R (Ending.returned (Value.func (Fn.func 61) #[] #[Value.pointer (some { block := k1, off := 0 })])) w1
theorem calls_grid_Grid_api_Color_All (q1 : Option Addr) (w : World) (R : Ending → World → Prop) (h : vc_grid_Grid_api_Color_All q1 w R) : Calls P F.grid_Grid_api_Color_All #[.pointer q1] w R :=
  calls_of_vc (fn := Try.f43) (ac := ac_grid_Grid_api_Color_All) (args := [.pointer q1]) mixed Try.func43 (by kernel_rfl) (cast (by unfold vc_grid_Grid_api_Color_All FnVc; kernel_rfl) h)
/-- darkroom/tones.Nearest -/
def vc_tones_Nearest (sa1 : Option Addr) (sl1 sc1 : Nat) (x1 : Int) (x2 : Int) (x3 : Int) (x4 : Int) (w : World) (R : Ending → World → Prop) : Prop :=
  ∀ k1 : Nat,
  (w.heap.size ≤ k1) →
  ∃ I1 : List Value → World → Prop,
  ∃ m1 : List Value → World → Nat,
  (∀ w1 : World,
    (Locl ([k1]) w w1) →
    I1 [Value.int IntKind.i64 (-1), Value.int IntKind.i64 0, Value.int IntKind.i64 0] w1) ∧
  ∀ n1 : Int,
  ∀ n2 : Int,
  ∀ n3 : Int,
  ∀ w2 : World,
  (I1 [Value.int IntKind.i64 n1, Value.int IntKind.i64 n2, Value.int IntKind.i64 n3] w2) →
  brB (decide (n3 < (↑sl1 : Int)))
    (∃ I2 : List Value → World → Prop,
    (idx (sa1) (sl1) (n3) (4) fun a1 =>
      ∃ n4 : Int,
      ∃ n5 : Int,
      ∃ n6 : Int,
      ∃ n7 : Int,
      (w2.cell? a1 = some (Value.int IntKind.u16 n4)) ∧
      (w2.cell? (a1.add 1) = some (Value.int IntKind.u16 n5)) ∧
      (w2.cell? (a1.add 2) = some (Value.int IntKind.u16 n6)) ∧
      (w2.cell? (a1.add 3) = some (Value.int IntKind.u16 n7)) ∧
      ∀ k2 : Nat,
      (w2.heap.size ≤ k2) →
      brB (decide (n1 < 0) || decide (IntKind.i64.wrap (IntKind.i64.wrap (IntKind.i64.wrap (IntKind.i64.wrap (IntKind.i64.wrap n4 - IntKind.i64.wrap x1) * IntKind.i64.wrap (IntKind.i64.wrap n4 - IntKind.i64.wrap x1)) + IntKind.i64.wrap (IntKind.i64.wrap (IntKind.i64.wrap n5 - IntKind.i64.wrap x2) * IntKind.i64.wrap (IntKind.i64.wrap n5 - IntKind.i64.wrap x2))) + IntKind.i64.wrap (IntKind.i64.wrap (IntKind.i64.wrap n6 - IntKind.i64.wrap x3) * IntKind.i64.wrap (IntKind.i64.wrap n6 - IntKind.i64.wrap x3))) < n2))
        (∀ w3 : World,
        (Locl ([k2, k1]) w2 w3) →
        I2 [Value.int IntKind.i64 n3, Value.int IntKind.i64 (IntKind.i64.wrap (IntKind.i64.wrap (IntKind.i64.wrap (IntKind.i64.wrap (IntKind.i64.wrap n4 - IntKind.i64.wrap x1) * IntKind.i64.wrap (IntKind.i64.wrap n4 - IntKind.i64.wrap x1)) + IntKind.i64.wrap (IntKind.i64.wrap (IntKind.i64.wrap n5 - IntKind.i64.wrap x2) * IntKind.i64.wrap (IntKind.i64.wrap n5 - IntKind.i64.wrap x2))) + IntKind.i64.wrap (IntKind.i64.wrap (IntKind.i64.wrap n6 - IntKind.i64.wrap x3) * IntKind.i64.wrap (IntKind.i64.wrap n6 - IntKind.i64.wrap x3))))] w3)
        (∀ w4 : World,
        (Locl ([k2, k1]) w2 w4) →
        I2 [Value.int IntKind.i64 n1, Value.int IntKind.i64 n2] w4)) ∧
    ∀ n8 : Int,
    ∀ n9 : Int,
    ∀ w5 : World,
    (I2 [Value.int IntKind.i64 n8, Value.int IntKind.i64 n9] w5) →
    (I1 [Value.int IntKind.i64 n8, Value.int IntKind.i64 n9, Value.int IntKind.i64 (IntKind.i64.wrap (n3 + 1))] w5) ∧
    m1 [Value.int IntKind.i64 n8, Value.int IntKind.i64 n9, Value.int IntKind.i64 (IntKind.i64.wrap (n3 + 1))] w5 < m1 [Value.int IntKind.i64 n1, Value.int IntKind.i64 n2, Value.int IntKind.i64 n3] w2)
    (R (Ending.returned (Value.int IntKind.i64 n1)) w2)
theorem calls_tones_Nearest (sa1 : Option Addr) (sl1 sc1 : Nat) (x1 : Int) (x2 : Int) (x3 : Int) (x4 : Int) (w : World) (R : Ending → World → Prop) (h : vc_tones_Nearest sa1 sl1 sc1 x1 x2 x3 x4 w R) : Calls P F.tones_Nearest #[.slice sa1 sl1 sc1, .agg #[.int .u16 x1, .int .u16 x2, .int .u16 x3, .int .u16 x4]] w R :=
  calls_of_vc (fn := Try.f44) (ac := ac_tones_Nearest) (args := [.slice sa1 sl1 sc1, .agg #[.int .u16 x1, .int .u16 x2, .int .u16 x3, .int .u16 x4]]) mixed Try.func44 (by kernel_rfl) (cast (by unfold vc_tones_Nearest FnVc; kernel_rfl) h)
/-- darkroom/darkroomref09.Pixel -/
def vc_ref09_Pixel (x1 : Int) (x2 : Int) (sa1 : Option Addr) (sl1 sc1 : Nat) (x3 : Int) (x4 : Int) (w : World) (R : Ending → World → Prop) : Prop :=
  ∀ k1 : Nat,
  (w.heap.size ≤ k1) →
  ∀ k2 : Nat,
  (w.heap.size ≤ k2) →
  idx (sa1) (sl1) (IntKind.i64.wrap (4 * IntKind.i64.wrap (IntKind.i64.wrap (x4 * x1) + x3))) (1) fun a1 =>
  ∀ w1 : World,
  (Locl ([k2, k1]) w w1) →
  ∃ n1 : Int,
  (w1.cell? a1 = some (Value.int IntKind.u16 n1)) ∧
  idx (sa1) (sl1) (IntKind.i64.wrap (IntKind.i64.wrap (4 * IntKind.i64.wrap (IntKind.i64.wrap (x4 * x1) + x3)) + 1)) (1) fun a2 =>
  ∃ n2 : Int,
  (w1.cell? a2 = some (Value.int IntKind.u16 n2)) ∧
  idx (sa1) (sl1) (IntKind.i64.wrap (IntKind.i64.wrap (4 * IntKind.i64.wrap (IntKind.i64.wrap (x4 * x1) + x3)) + 2)) (1) fun a3 =>
  ∃ n3 : Int,
  (w1.cell? a3 = some (Value.int IntKind.u16 n3)) ∧
  idx (sa1) (sl1) (IntKind.i64.wrap (IntKind.i64.wrap (4 * IntKind.i64.wrap (IntKind.i64.wrap (x4 * x1) + x3)) + 3)) (1) fun a4 =>
  ∃ n4 : Int,
  (w1.cell? a4 = some (Value.int IntKind.u16 n4)) ∧
  ∀ w2 : World,
  (Locl ([k2, k1]) w1 w2) →
  R (Ending.returned (Value.agg #[Value.int IntKind.u16 n1, Value.int IntKind.u16 n2, Value.int IntKind.u16 n3, Value.int IntKind.u16 n4])) w2
theorem calls_ref09_Pixel (x1 : Int) (x2 : Int) (sa1 : Option Addr) (sl1 sc1 : Nat) (x3 : Int) (x4 : Int) (w : World) (R : Ending → World → Prop) (h : vc_ref09_Pixel x1 x2 sa1 sl1 sc1 x3 x4 w R) : Calls P F.ref09_Pixel #[.agg #[.int .i64 x1, .int .i64 x2, .slice sa1 sl1 sc1], .int .i64 x3, .int .i64 x4] w R :=
  calls_of_vc (fn := Try.f45) (ac := ac_ref09_Pixel) (args := [.agg #[.int .i64 x1, .int .i64 x2, .slice sa1 sl1 sc1], .int .i64 x3, .int .i64 x4]) mixed Try.func45 (by kernel_rfl) (cast (by unfold vc_ref09_Pixel FnVc; kernel_rfl) h)
/-- darkroom/darkroomref14.Clear -/
def vc_ref14_Clear (x1 : Int) (x2 : Int) (x3 : Int) (x4 : Int) (w : World) (R : Ending → World → Prop) : Prop :=
  ∀ k1 : Nat,
  (w.heap.size ≤ k1) →
  ∀ w1 : World,
  (Locl ([k1]) w w1) →
  R (Ending.returned (Value.bool (decide (x4 < 32768)))) w1
theorem calls_ref14_Clear (x1 : Int) (x2 : Int) (x3 : Int) (x4 : Int) (w : World) (R : Ending → World → Prop) (h : vc_ref14_Clear x1 x2 x3 x4 w R) : Calls P F.ref14_Clear #[.agg #[.int .u16 x1, .int .u16 x2, .int .u16 x3, .int .u16 x4]] w R :=
  calls_of_vc (fn := Try.f46) (ac := ac_ref14_Clear) (args := [.agg #[.int .u16 x1, .int .u16 x2, .int .u16 x3, .int .u16 x4]]) mixed Try.func46 (by kernel_rfl) (cast (by unfold vc_ref14_Clear FnVc; kernel_rfl) h)
/-- darkroom/darkroomref08.Nearest -/
def vc_ref08_Nearest (sa1 : Option Addr) (sl1 sc1 : Nat) (x1 : Int) (x2 : Int) (x3 : Int) (x4 : Int) (w : World) (R : Ending → World → Prop) : Prop :=
  ∀ k1 : Nat,
  (w.heap.size ≤ k1) →
  ∃ I1 : List Value → World → Prop,
  ∃ m1 : List Value → World → Nat,
  (∀ w1 : World,
    (Locl ([k1]) w w1) →
    I1 [Value.int IntKind.i64 (-1), Value.int IntKind.i64 0] w1) ∧
  ∀ n1 : Int,
  ∀ n2 : Int,
  ∀ w2 : World,
  (I1 [Value.int IntKind.i64 n1, Value.int IntKind.i64 n2] w2) →
  brB (decide (n2 < (↑sl1 : Int)))
    (∃ I2 : List Value → World → Prop,
    (brB (decide (n1 < 0))
        (I2 [Value.int IntKind.i64 n2] w2.drew)
        (idx (sa1) (sl1) (n2) (4) fun a1 =>
        ∃ n3 : Int,
        ∃ n4 : Int,
        ∃ n5 : Int,
        ∃ n6 : Int,
        (w2.drew.cell? a1 = some (Value.int IntKind.u16 n3)) ∧
        (w2.drew.cell? (a1.add 1) = some (Value.int IntKind.u16 n4)) ∧
        (w2.drew.cell? (a1.add 2) = some (Value.int IntKind.u16 n5)) ∧
        (w2.drew.cell? (a1.add 3) = some (Value.int IntKind.u16 n6)) ∧
        idx (sa1) (sl1) (n1) (4) fun a2 =>
        ∃ n7 : Int,
        ∃ n8 : Int,
        ∃ n9 : Int,
        ∃ n10 : Int,
        (w2.drew.cell? a2 = some (Value.int IntKind.u16 n7)) ∧
        (w2.drew.cell? (a2.add 1) = some (Value.int IntKind.u16 n8)) ∧
        (w2.drew.cell? (a2.add 2) = some (Value.int IntKind.u16 n9)) ∧
        (w2.drew.cell? (a2.add 3) = some (Value.int IntKind.u16 n10)) ∧
        Calls P F.ref08_Far #[Value.agg #[Value.int IntKind.u16 n3, Value.int IntKind.u16 n4, Value.int IntKind.u16 n5, Value.int IntKind.u16 n6], Value.agg #[Value.int IntKind.u16 x1, Value.int IntKind.u16 x2, Value.int IntKind.u16 x3, Value.int IntKind.u16 x4]] (w2.drew) fun e1 w3 =>
        ∃ n11 : Int,
        (e1 = Ending.returned (Value.int IntKind.i64 n11)) ∧
        (Keep ([k1]) (w2.drew) w3) ∧
        (Keeps (w2.drew) w3) ∧
        Calls P F.ref08_Far #[Value.agg #[Value.int IntKind.u16 n7, Value.int IntKind.u16 n8, Value.int IntKind.u16 n9, Value.int IntKind.u16 n10], Value.agg #[Value.int IntKind.u16 x1, Value.int IntKind.u16 x2, Value.int IntKind.u16 x3, Value.int IntKind.u16 x4]] w3 fun e2 w4 =>
        ∃ n12 : Int,
        (e2 = Ending.returned (Value.int IntKind.i64 n12)) ∧
        (Keep ([k1]) w3 w4) ∧
        brB (decide (n11 < n12))
          (I2 [Value.int IntKind.i64 n2] w4)
          (I2 [Value.int IntKind.i64 n1] w4))) ∧
    ∀ n13 : Int,
    ∀ w5 : World,
    (I2 [Value.int IntKind.i64 n13] w5) →
    (I1 [Value.int IntKind.i64 n13, Value.int IntKind.i64 (IntKind.i64.wrap (n2 + 1))] w5) ∧
    m1 [Value.int IntKind.i64 n13, Value.int IntKind.i64 (IntKind.i64.wrap (n2 + 1))] w5 < m1 [Value.int IntKind.i64 n1, Value.int IntKind.i64 n2] w2)
    (R (Ending.returned (Value.int IntKind.i64 n1)) w2)
theorem calls_ref08_Nearest (sa1 : Option Addr) (sl1 sc1 : Nat) (x1 : Int) (x2 : Int) (x3 : Int) (x4 : Int) (w : World) (R : Ending → World → Prop) (h : vc_ref08_Nearest sa1 sl1 sc1 x1 x2 x3 x4 w R) : Calls P F.ref08_Nearest #[.slice sa1 sl1 sc1, .agg #[.int .u16 x1, .int .u16 x2, .int .u16 x3, .int .u16 x4]] w R :=
  calls_of_vc (fn := Try.f47) (ac := ac_ref08_Nearest) (args := [.slice sa1 sl1 sc1, .agg #[.int .u16 x1, .int .u16 x2, .int .u16 x3, .int .u16 x4]]) mixed Try.func47 (by kernel_rfl) (cast (by unfold vc_ref08_Nearest FnVc; kernel_rfl) h)
/-- darkroom/darkroomref14.Eight -/
def vc_ref14_Eight (x1 : Int) (x2 : Int) (x3 : Int) (x4 : Int) (w : World) (R : Ending → World → Prop) : Prop :=
  ∀ k1 : Nat,
  (w.heap.size ≤ k1) →
  ∀ k2 : Nat,
  (w.heap.size ≤ k2) →
  ∀ w1 : World,
  (Locl ([k2, k1]) w w1) →
  Calls P F.ref08_Round #[Value.int IntKind.u16 x1, Value.int IntKind.i64 255] w1 fun e1 w2 =>
  ∃ n1 : Int,
  (e1 = Ending.returned (Value.int IntKind.u16 n1)) ∧
  (Keep ([k2, k1]) w1 w2) ∧
  (Keeps w1 w2) ∧
  Calls P F.ref08_Round #[Value.int IntKind.u16 x2, Value.int IntKind.i64 255] w2 fun e2 w3 =>
  ∃ n2 : Int,
  (e2 = Ending.returned (Value.int IntKind.u16 n2)) ∧
  (Keep ([k2, k1]) w2 w3) ∧
  (Keeps w2 w3) ∧
  Calls P F.ref08_Round #[Value.int IntKind.u16 x3, Value.int IntKind.i64 255] w3 fun e3 w4 =>
  ∃ n3 : Int,
  (e3 = Ending.returned (Value.int IntKind.u16 n3)) ∧
  (Keep ([k2, k1]) w3 w4) ∧
  ∀ w5 : World,
  (Locl ([k2, k1]) w4 w5) →
  R (Ending.returned (Value.agg #[Value.int IntKind.u16 n1, Value.int IntKind.u16 n2, Value.int IntKind.u16 n3, Value.int IntKind.u16 65535])) w5
theorem calls_ref14_Eight (x1 : Int) (x2 : Int) (x3 : Int) (x4 : Int) (w : World) (R : Ending → World → Prop) (h : vc_ref14_Eight x1 x2 x3 x4 w R) : Calls P F.ref14_Eight #[.agg #[.int .u16 x1, .int .u16 x2, .int .u16 x3, .int .u16 x4]] w R :=
  calls_of_vc (fn := Try.f48) (ac := ac_ref14_Eight) (args := [.agg #[.int .u16 x1, .int .u16 x2, .int .u16 x3, .int .u16 x4]]) mixed Try.func48 (by kernel_rfl) (cast (by unfold vc_ref14_Eight FnVc; kernel_rfl) h)
/-- darkroom/darkroomref09.Add -/
def vc_ref09_Add (x1 : Int) (x2 : Int) (sa1 : Option Addr) (sl1 sc1 : Nat) (x3 : Int) (x4 : Int) (x5 : Int) (x6 : Int) (w : World) (R : Ending → World → Prop) : Prop :=
  ∀ k1 : Nat,
  (w.heap.size ≤ k1) →
  ∀ k2 : Nat,
  (w.heap.size ≤ k2) →
  ∀ k3 : Nat,
  (w.heap.size ≤ k3) →
  ∀ k4 : Nat,
  (w.heap.size ≤ k4) →
  ∀ w1 : World,
  (Locl ([k4, k3, k2, k1]) w w1) →
  appVC (w1) ([(15, k4, [Value.int IntKind.u16 x3, Value.int IntKind.u16 x4, Value.int IntKind.u16 x5, Value.int IntKind.u16 x6]), (4, k3, [Value.int IntKind.i64 0, Value.int IntKind.i64 0, Value.slice none 0 0]), (3, k2, [Value.int IntKind.u16 x3, Value.int IntKind.u16 x4, Value.int IntKind.u16 x5, Value.int IntKind.u16 x6]), (2, k1, [Value.int IntKind.i64 x1, Value.int IntKind.i64 x2, Value.slice sa1 sl1 sc1])]) (sa1) (sl1) (sc1) (4) (1) (2) (44) ([Value.int IntKind.u16 0]) ([Value.int IntKind.u16 x3, Value.int IntKind.u16 x4, Value.int IntKind.u16 x5, Value.int IntKind.u16 x6]) fun p1 k5 k6 w2 =>
  ∀ w3 : World,
  (Locl ([k4, k3, k2, k1]) w2 w3) →
  R (Ending.returned (Value.agg #[Value.int IntKind.i64 x1, Value.int IntKind.i64 x2, Value.slice p1 k5 k6])) w3
theorem calls_ref09_Add (x1 : Int) (x2 : Int) (sa1 : Option Addr) (sl1 sc1 : Nat) (x3 : Int) (x4 : Int) (x5 : Int) (x6 : Int) (w : World) (R : Ending → World → Prop) (h : vc_ref09_Add x1 x2 sa1 sl1 sc1 x3 x4 x5 x6 w R) : Calls P F.ref09_Add #[.agg #[.int .i64 x1, .int .i64 x2, .slice sa1 sl1 sc1], .agg #[.int .u16 x3, .int .u16 x4, .int .u16 x5, .int .u16 x6]] w R :=
  calls_of_vc (fn := Try.f49) (ac := ac_ref09_Add) (args := [.agg #[.int .i64 x1, .int .i64 x2, .slice sa1 sl1 sc1], .agg #[.int .u16 x3, .int .u16 x4, .int .u16 x5, .int .u16 x6]]) mixed Try.func49 (by kernel_rfl) (cast (by unfold vc_ref09_Add FnVc; kernel_rfl) h)
/-- darkroom/raster.colour -/
def vc_raster_colour (sa1 : Option Addr) (sl1 sc1 : Nat) (w : World) (R : Ending → World → Prop) : Prop :=
  ∀ k1 : Nat,
  (w.heap.size ≤ k1) →
  idx (sa1) (sl1) (0) (1) fun a1 =>
  ∀ w1 : World,
  (Locl ([k1]) w w1) →
  ∃ n1 : Int,
  (w1.cell? a1 = some (Value.int IntKind.u16 n1)) ∧
  idx (sa1) (sl1) (1) (1) fun a2 =>
  ∃ n2 : Int,
  (w1.cell? a2 = some (Value.int IntKind.u16 n2)) ∧
  idx (sa1) (sl1) (2) (1) fun a3 =>
  ∃ n3 : Int,
  (w1.cell? a3 = some (Value.int IntKind.u16 n3)) ∧
  idx (sa1) (sl1) (3) (1) fun a4 =>
  ∃ n4 : Int,
  (w1.cell? a4 = some (Value.int IntKind.u16 n4)) ∧
  ∀ w2 : World,
  (Locl ([k1]) w1 w2) →
  R (Ending.returned (Value.agg #[Value.int IntKind.u16 n1, Value.int IntKind.u16 n2, Value.int IntKind.u16 n3, Value.int IntKind.u16 n4])) w2
theorem calls_raster_colour (sa1 : Option Addr) (sl1 sc1 : Nat) (w : World) (R : Ending → World → Prop) (h : vc_raster_colour sa1 sl1 sc1 w R) : Calls P F.raster_colour #[.slice sa1 sl1 sc1] w R :=
  calls_of_vc (fn := Try.f50) (ac := ac_raster_colour) (args := [.slice sa1 sl1 sc1]) mixed Try.func50 (by kernel_rfl) (cast (by unfold vc_raster_colour FnVc; kernel_rfl) h)
/-- darkroom/quant.eight$1 -/
def vc_quant_eight_fn1 (x1 : Int) (w : World) (R : Ending → World → Prop) : Prop :=
  Calls P F.tones_Down #[Value.int IntKind.u16 x1, Value.int IntKind.i64 255] w fun e1 w1 =>
  ∃ n1 : Int,
  ∃ n2 : Int,
  (e1 = Ending.returned (Value.tuple #[Value.int IntKind.i64 n1, Value.int IntKind.i64 n2])) ∧
  R (Ending.returned (Value.int IntKind.u16 (IntKind.u16.wrap (IntKind.i64.wrap (257 * n1))))) w1
theorem calls_quant_eight_fn1 (x1 : Int) (w : World) (R : Ending → World → Prop) (h : vc_quant_eight_fn1 x1 w R) : Calls P F.quant_eight_fn1 #[.int .u16 x1] w R :=
  calls_of_vc (fn := Try.f51) (ac := ac_quant_eight_fn1) (args := [.int .u16 x1]) mixed Try.func51 (by kernel_rfl) (cast (by unfold vc_quant_eight_fn1 FnVc; kernel_rfl) h)
/-- darkroom/tones.Down -/
def vc_tones_Down (x1 : Int) (x2 : Int) (w : World) (R : Ending → World → Prop) : Prop :=
  brB (decide (x2 < 1) || decide (x2 > 65535))
    (R (Ending.returned (Value.tuple #[Value.int IntKind.i64 0, Value.int IntKind.i64 2])) w)
    (R (Ending.returned (Value.tuple #[Value.int IntKind.i64 (divZ BinOp.quo IntKind.i64 (IntKind.i64.wrap (IntKind.i64.wrap (IntKind.i64.wrap x1 * x2) + 32767)) 65535), Value.int IntKind.i64 0])) w)
theorem calls_tones_Down (x1 : Int) (x2 : Int) (w : World) (R : Ending → World → Prop) (h : vc_tones_Down x1 x2 w R) : Calls P F.tones_Down #[.int .u16 x1, .int .i64 x2] w R :=
  calls_of_vc (fn := Try.f52) (ac := ac_tones_Down) (args := [.int .u16 x1, .int .i64 x2]) mixed Try.func52 (by kernel_rfl) (cast (by unfold vc_tones_Down FnVc; kernel_rfl) h)
/-- slices.Delete[[][]darkroom/api.Color,[]darkroom/api.Color] -/
def vc_slices_Delete_api_Color (sa1 : Option Addr) (sl1 sc1 : Nat) (x1 : Int) (x2 : Int) (w : World) (R : Ending → World → Prop) : Prop :=
  (0 ≤ (↑sl1 : Int)) ∧
  ((↑sl1 : Int) ≤ (↑sc1 : Int)) ∧
  slcc (sa1) ((↑sl1 : Int).toNat) (x1) (x2) (1) fun p1 k1 k2 =>
  brB (x1 == x2)
    (R (Ending.returned (Value.slice sa1 sl1 sc1)) w)
    (slcc (sa1) (sc1) (0) (x1) (1) fun p2 k3 k4 =>
    slcc (sa1) (sc1) (x2) ((↑sl1 : Int)) (1) fun p3 k5 k6 =>
    ∃ l1 : List Value,
    (l1.length = k5 * 1) ∧
    (oneAll l1 = true) ∧
    (CellsAre (w.drew) p3 l1) ∧
    appVC (w.drew) ([]) (p2) (k3) (k4) (k5) (1) (24) (26) ([Value.slice none 0 0]) (l1) fun p4 k7 k8 w1 =>
    slcc (p4) (k8) ((↑k7 : Int)) ((↑sl1 : Int)) (1) fun p5 k9 k10 =>
    (((k9 = 0) ∧
      R (Ending.returned (Value.slice p4 k7 k8)) w1) ∨
    ((k9 ≠ 0) ∧
      ∃ a1 : Addr,
      (p5 = some a1) ∧
      (CanSet w1 a1 ((rep k9 ((fun x => x.cells.toList) (Value.slice none 0 0))).length)) ∧
      R (Ending.returned (Value.slice p4 k7 k8)) (setCells w1 a1 (rep k9 ((fun x => x.cells.toList) (Value.slice none 0 0))) 0))))
theorem calls_slices_Delete_api_Color (sa1 : Option Addr) (sl1 sc1 : Nat) (x1 : Int) (x2 : Int) (w : World) (R : Ending → World → Prop) (h : vc_slices_Delete_api_Color sa1 sl1 sc1 x1 x2 w R) : Calls P F.slices_Delete_api_Color #[.slice sa1 sl1 sc1, .int .i64 x1, .int .i64 x2] w R :=
  calls_of_vc (fn := Try.f53) (ac := ac_slices_Delete_api_Color) (args := [.slice sa1 sl1 sc1, .int .i64 x1, .int .i64 x2]) mixed Try.func53 (by kernel_rfl) (cast (by unfold vc_slices_Delete_api_Color FnVc; kernel_rfl) h)
/-- darkroom/quant.longest$1 -/
def vc_quant_longest_fn1 (x1 : Int) (x2 : Int) (x3 : Int) (x4 : Int) (x5 : Int) (x6 : Int) (x7 : Int) (x8 : Int) (fr1 : Addr) (w : World) (R : Ending → World → Prop) : Prop :=
  ∀ k1 : Nat,
  (w.heap.size ≤ k1) →
  ∀ k2 : Nat,
  (w.heap.size ≤ k2) →
  ∀ w1 : World,
  (Locl ([k2, k1]) w w1) →
  ∃ n1 : Int,
  (w1.cell? fr1 = some (Value.int IntKind.i64 n1)) ∧
  ∃ n2 : Int,
  (w1.cell? fr1 = some (Value.int IntKind.i64 n2)) ∧
  Calls P F.quant_axis #[Value.agg #[Value.int IntKind.u16 x1, Value.int IntKind.u16 x2, Value.int IntKind.u16 x3, Value.int IntKind.u16 x4], Value.int IntKind.i64 n1] w1 fun e1 w2 =>
  ∃ n3 : Int,
  (e1 = Ending.returned (Value.int IntKind.i64 n3)) ∧
  (Keep ([k2, k1]) w1 w2) ∧
  (Keeps w1 w2) ∧
  Calls P F.quant_axis #[Value.agg #[Value.int IntKind.u16 x5, Value.int IntKind.u16 x6, Value.int IntKind.u16 x7, Value.int IntKind.u16 x8], Value.int IntKind.i64 n2] w2 fun e2 w3 =>
  ∃ n4 : Int,
  (e2 = Ending.returned (Value.int IntKind.i64 n4)) ∧
  (Keep ([k2, k1]) w2 w3) ∧
  Calls P F.cmp_Compare_int #[Value.int IntKind.i64 n3, Value.int IntKind.i64 n4] w3 fun e3 w4 =>
  ∃ n5 : Int,
  (e3 = Ending.returned (Value.int IntKind.i64 n5)) ∧
  (Keep ([k2, k1]) w3 w4) ∧
  R (Ending.returned (Value.int IntKind.i64 n5)) w4
theorem calls_quant_longest_fn1 (x1 : Int) (x2 : Int) (x3 : Int) (x4 : Int) (x5 : Int) (x6 : Int) (x7 : Int) (x8 : Int) (fr1 : Addr) (w : World) (R : Ending → World → Prop) (h : vc_quant_longest_fn1 x1 x2 x3 x4 x5 x6 x7 x8 fr1 w R) : Calls P F.quant_longest_fn1 #[.agg #[.int .u16 x1, .int .u16 x2, .int .u16 x3, .int .u16 x4], .agg #[.int .u16 x5, .int .u16 x6, .int .u16 x7, .int .u16 x8], .pointer (some fr1)] w R :=
  calls_of_vc (fn := Try.f54) (ac := ac_quant_longest_fn1) (args := [.agg #[.int .u16 x1, .int .u16 x2, .int .u16 x3, .int .u16 x4], .agg #[.int .u16 x5, .int .u16 x6, .int .u16 x7, .int .u16 x8], .pointer (some fr1)]) mixed Try.func54 (by kernel_rfl) (cast (by unfold vc_quant_longest_fn1 FnVc; kernel_rfl) h)
/-- slices.MaxFunc[[]darkroom/api.Color,darkroom/api.Color] -/
def vc_slices_MaxFunc_api_Color (sa1 : Option Addr) (sl1 sc1 : Nat) (va1 : Value) (w : World) (R : Ending → World → Prop) : Prop :=
  ∀ k1 : Nat,
  (w.heap.size ≤ k1) →
  ∃ I1 : List Value → World → Prop,
  (brB (decide ((↑sl1 : Int) < 1))
      (False)
      (∀ w1 : World,
      (Locl ([k1]) w w1) →
      I1 [] w1)) ∧
  ∀ w2 : World,
  (I1 [] w2) →
  idx (sa1) (sl1) (0) (4) fun a1 =>
  ∃ n1 : Int,
  ∃ n2 : Int,
  ∃ n3 : Int,
  ∃ n4 : Int,
  (w2.cell? a1 = some (Value.int IntKind.u16 n1)) ∧
  (w2.cell? (a1.add 1) = some (Value.int IntKind.u16 n2)) ∧
  (w2.cell? (a1.add 2) = some (Value.int IntKind.u16 n3)) ∧
  (w2.cell? (a1.add 3) = some (Value.int IntKind.u16 n4)) ∧
  ∀ k2 : Nat,
  (w2.heap.size ≤ k2) →
  ∃ I2 : List Value → World → Prop,
  ∃ m1 : List Value → World → Nat,
  (∀ w3 : World,
    (Locl ([k2, k1]) w2 w3) →
    I2 [Value.int IntKind.i64 1, Value.int IntKind.u16 n1, Value.int IntKind.u16 n2, Value.int IntKind.u16 n3, Value.int IntKind.u16 n4] w3) ∧
  ∀ n5 : Int,
  ∀ n6 : Int,
  ∀ n7 : Int,
  ∀ n8 : Int,
  ∀ n9 : Int,
  ∀ w4 : World,
  (I2 [Value.int IntKind.i64 n5, Value.int IntKind.u16 n6, Value.int IntKind.u16 n7, Value.int IntKind.u16 n8, Value.int IntKind.u16 n9] w4) →
  brB (decide (n5 < (↑sl1 : Int)))
    (∃ I3 : List Value → World → Prop,
    (idx (sa1) (sl1) (n5) (4) fun a2 =>
      ∃ n10 : Int,
      ∃ n11 : Int,
      ∃ n12 : Int,
      ∃ n13 : Int,
      (w4.drew.cell? a2 = some (Value.int IntKind.u16 n10)) ∧
      (w4.drew.cell? (a2.add 1) = some (Value.int IntKind.u16 n11)) ∧
      (w4.drew.cell? (a2.add 2) = some (Value.int IntKind.u16 n12)) ∧
      (w4.drew.cell? (a2.add 3) = some (Value.int IntKind.u16 n13)) ∧
      callV P (va1) [Value.agg #[Value.int IntKind.u16 n10, Value.int IntKind.u16 n11, Value.int IntKind.u16 n12, Value.int IntKind.u16 n13], Value.agg #[Value.int IntKind.u16 n6, Value.int IntKind.u16 n7, Value.int IntKind.u16 n8, Value.int IntKind.u16 n9]] (w4.drew) fun e1 w5 =>
      ∃ n14 : Int,
      (e1 = Ending.returned (Value.int IntKind.i64 n14)) ∧
      (Keep ([k2, k1]) (w4.drew) w5) ∧
      brB (decide (n14 > 0))
        (idx (sa1) (sl1) (n5) (4) fun a3 =>
        ∃ n15 : Int,
        ∃ n16 : Int,
        ∃ n17 : Int,
        ∃ n18 : Int,
        (w5.cell? a3 = some (Value.int IntKind.u16 n15)) ∧
        (w5.cell? (a3.add 1) = some (Value.int IntKind.u16 n16)) ∧
        (w5.cell? (a3.add 2) = some (Value.int IntKind.u16 n17)) ∧
        (w5.cell? (a3.add 3) = some (Value.int IntKind.u16 n18)) ∧
        ∀ w6 : World,
        (Locl ([k2, k1]) w5 w6) →
        I3 [Value.int IntKind.u16 n15, Value.int IntKind.u16 n16, Value.int IntKind.u16 n17, Value.int IntKind.u16 n18] w6)
        (I3 [Value.int IntKind.u16 n6, Value.int IntKind.u16 n7, Value.int IntKind.u16 n8, Value.int IntKind.u16 n9] w5)) ∧
    ∀ n19 : Int,
    ∀ n20 : Int,
    ∀ n21 : Int,
    ∀ n22 : Int,
    ∀ w7 : World,
    (I3 [Value.int IntKind.u16 n19, Value.int IntKind.u16 n20, Value.int IntKind.u16 n21, Value.int IntKind.u16 n22] w7) →
    (I2 [Value.int IntKind.i64 (IntKind.i64.wrap (n5 + 1)), Value.int IntKind.u16 n19, Value.int IntKind.u16 n20, Value.int IntKind.u16 n21, Value.int IntKind.u16 n22] w7) ∧
    m1 [Value.int IntKind.i64 (IntKind.i64.wrap (n5 + 1)), Value.int IntKind.u16 n19, Value.int IntKind.u16 n20, Value.int IntKind.u16 n21, Value.int IntKind.u16 n22] w7 < m1 [Value.int IntKind.i64 n5, Value.int IntKind.u16 n6, Value.int IntKind.u16 n7, Value.int IntKind.u16 n8, Value.int IntKind.u16 n9] w4)
    (∀ w8 : World,
    (Locl ([k2, k1]) w4 w8) →
    R (Ending.returned (Value.agg #[Value.int IntKind.u16 n6, Value.int IntKind.u16 n7, Value.int IntKind.u16 n8, Value.int IntKind.u16 n9])) w8)
theorem calls_slices_MaxFunc_api_Color (sa1 : Option Addr) (sl1 sc1 : Nat) (va1 : Value) (w : World) (R : Ending → World → Prop) (h : vc_slices_MaxFunc_api_Color sa1 sl1 sc1 va1 w R) : Calls P F.slices_MaxFunc_api_Color #[.slice sa1 sl1 sc1, va1] w R :=
  calls_of_vc (fn := Try.f55) (ac := ac_slices_MaxFunc_api_Color) (args := [.slice sa1 sl1 sc1, va1]) mixed Try.func55 (by kernel_rfl) (cast (by unfold vc_slices_MaxFunc_api_Color FnVc; kernel_rfl) h)
/-- slices.MinFunc[[]darkroom/api.Color,darkroom/api.Color] -/
def vc_slices_MinFunc_api_Color (sa1 : Option Addr) (sl1 sc1 : Nat) (va1 : Value) (w : World) (R : Ending → World → Prop) : Prop :=
  ∀ k1 : Nat,
  (w.heap.size ≤ k1) →
  ∃ I1 : List Value → World → Prop,
  (brB (decide ((↑sl1 : Int) < 1))
      (False)
      (∀ w1 : World,
      (Locl ([k1]) w w1) →
      I1 [] w1)) ∧
  ∀ w2 : World,
  (I1 [] w2) →
  idx (sa1) (sl1) (0) (4) fun a1 =>
  ∃ n1 : Int,
  ∃ n2 : Int,
  ∃ n3 : Int,
  ∃ n4 : Int,
  (w2.cell? a1 = some (Value.int IntKind.u16 n1)) ∧
  (w2.cell? (a1.add 1) = some (Value.int IntKind.u16 n2)) ∧
  (w2.cell? (a1.add 2) = some (Value.int IntKind.u16 n3)) ∧
  (w2.cell? (a1.add 3) = some (Value.int IntKind.u16 n4)) ∧
  ∀ k2 : Nat,
  (w2.heap.size ≤ k2) →
  ∃ I2 : List Value → World → Prop,
  ∃ m1 : List Value → World → Nat,
  (∀ w3 : World,
    (Locl ([k2, k1]) w2 w3) →
    I2 [Value.int IntKind.i64 1, Value.int IntKind.u16 n1, Value.int IntKind.u16 n2, Value.int IntKind.u16 n3, Value.int IntKind.u16 n4] w3) ∧
  ∀ n5 : Int,
  ∀ n6 : Int,
  ∀ n7 : Int,
  ∀ n8 : Int,
  ∀ n9 : Int,
  ∀ w4 : World,
  (I2 [Value.int IntKind.i64 n5, Value.int IntKind.u16 n6, Value.int IntKind.u16 n7, Value.int IntKind.u16 n8, Value.int IntKind.u16 n9] w4) →
  brB (decide (n5 < (↑sl1 : Int)))
    (∃ I3 : List Value → World → Prop,
    (idx (sa1) (sl1) (n5) (4) fun a2 =>
      ∃ n10 : Int,
      ∃ n11 : Int,
      ∃ n12 : Int,
      ∃ n13 : Int,
      (w4.drew.cell? a2 = some (Value.int IntKind.u16 n10)) ∧
      (w4.drew.cell? (a2.add 1) = some (Value.int IntKind.u16 n11)) ∧
      (w4.drew.cell? (a2.add 2) = some (Value.int IntKind.u16 n12)) ∧
      (w4.drew.cell? (a2.add 3) = some (Value.int IntKind.u16 n13)) ∧
      callV P (va1) [Value.agg #[Value.int IntKind.u16 n10, Value.int IntKind.u16 n11, Value.int IntKind.u16 n12, Value.int IntKind.u16 n13], Value.agg #[Value.int IntKind.u16 n6, Value.int IntKind.u16 n7, Value.int IntKind.u16 n8, Value.int IntKind.u16 n9]] (w4.drew) fun e1 w5 =>
      ∃ n14 : Int,
      (e1 = Ending.returned (Value.int IntKind.i64 n14)) ∧
      (Keep ([k2, k1]) (w4.drew) w5) ∧
      brB (decide (n14 < 0))
        (idx (sa1) (sl1) (n5) (4) fun a3 =>
        ∃ n15 : Int,
        ∃ n16 : Int,
        ∃ n17 : Int,
        ∃ n18 : Int,
        (w5.cell? a3 = some (Value.int IntKind.u16 n15)) ∧
        (w5.cell? (a3.add 1) = some (Value.int IntKind.u16 n16)) ∧
        (w5.cell? (a3.add 2) = some (Value.int IntKind.u16 n17)) ∧
        (w5.cell? (a3.add 3) = some (Value.int IntKind.u16 n18)) ∧
        ∀ w6 : World,
        (Locl ([k2, k1]) w5 w6) →
        I3 [Value.int IntKind.u16 n15, Value.int IntKind.u16 n16, Value.int IntKind.u16 n17, Value.int IntKind.u16 n18] w6)
        (I3 [Value.int IntKind.u16 n6, Value.int IntKind.u16 n7, Value.int IntKind.u16 n8, Value.int IntKind.u16 n9] w5)) ∧
    ∀ n19 : Int,
    ∀ n20 : Int,
    ∀ n21 : Int,
    ∀ n22 : Int,
    ∀ w7 : World,
    (I3 [Value.int IntKind.u16 n19, Value.int IntKind.u16 n20, Value.int IntKind.u16 n21, Value.int IntKind.u16 n22] w7) →
    (I2 [Value.int IntKind.i64 (IntKind.i64.wrap (n5 + 1)), Value.int IntKind.u16 n19, Value.int IntKind.u16 n20, Value.int IntKind.u16 n21, Value.int IntKind.u16 n22] w7) ∧
    m1 [Value.int IntKind.i64 (IntKind.i64.wrap (n5 + 1)), Value.int IntKind.u16 n19, Value.int IntKind.u16 n20, Value.int IntKind.u16 n21, Value.int IntKind.u16 n22] w7 < m1 [Value.int IntKind.i64 n5, Value.int IntKind.u16 n6, Value.int IntKind.u16 n7, Value.int IntKind.u16 n8, Value.int IntKind.u16 n9] w4)
    (∀ w8 : World,
    (Locl ([k2, k1]) w4 w8) →
    R (Ending.returned (Value.agg #[Value.int IntKind.u16 n6, Value.int IntKind.u16 n7, Value.int IntKind.u16 n8, Value.int IntKind.u16 n9])) w8)
theorem calls_slices_MinFunc_api_Color (sa1 : Option Addr) (sl1 sc1 : Nat) (va1 : Value) (w : World) (R : Ending → World → Prop) (h : vc_slices_MinFunc_api_Color sa1 sl1 sc1 va1 w R) : Calls P F.slices_MinFunc_api_Color #[.slice sa1 sl1 sc1, va1] w R :=
  calls_of_vc (fn := Try.f56) (ac := ac_slices_MinFunc_api_Color) (args := [.slice sa1 sl1 sc1, va1]) mixed Try.func56 (by kernel_rfl) (cast (by unfold vc_slices_MinFunc_api_Color FnVc; kernel_rfl) h)
/-- slices.stableCmpFunc[darkroom/api.Color] -/
def vc_slices_stableCmpFunc_api_Color (sa1 : Option Addr) (sl1 sc1 : Nat) (x1 : Int) (va1 : Value) (w : World) (R : Ending → World → Prop) : Prop :=
  ∃ I1 : List Value → World → Prop,
  ∃ m1 : List Value → World → Nat,
  (I1 [Value.int IntKind.i64 0, Value.int IntKind.i64 20] w) ∧
  ∀ n1 : Int,
  ∀ n2 : Int,
  ∀ w1 : World,
  (I1 [Value.int IntKind.i64 n1, Value.int IntKind.i64 n2] w1) →
  brB (decide (n2 ≤ x1))
    (Calls P F.slices_insertionSortCmpFunc_api_Color #[Value.slice sa1 sl1 sc1, Value.int IntKind.i64 n1, Value.int IntKind.i64 n2, va1] w1 fun e1 w2 =>
    (e1 = Ending.returned (Value.tuple #[])) ∧
    (I1 [Value.int IntKind.i64 n2, Value.int IntKind.i64 (IntKind.i64.wrap (n2 + 20))] w2) ∧
    m1 [Value.int IntKind.i64 n2, Value.int IntKind.i64 (IntKind.i64.wrap (n2 + 20))] w2 < m1 [Value.int IntKind.i64 n1, Value.int IntKind.i64 n2] w1)
    (Calls P F.slices_insertionSortCmpFunc_api_Color #[Value.slice sa1 sl1 sc1, Value.int IntKind.i64 n1, Value.int IntKind.i64 x1, va1] w1 fun e2 w3 =>
    (e2 = Ending.returned (Value.tuple #[])) ∧
    ∃ I2 : List Value → World → Prop,
    ∃ m2 : List Value → World → Nat,
    (I2 [Value.int IntKind.i64 20] w3) ∧
    ∀ n3 : Int,
    ∀ w4 : World,
    (I2 [Value.int IntKind.i64 n3] w4) →
    brB (decide (n3 < x1))
      (∃ I3 : List Value → World → Prop,
      (∃ I4 : List Value → World → Prop,
        ∃ m3 : List Value → World → Nat,
        (I4 [Value.int IntKind.i64 0, Value.int IntKind.i64 (IntKind.i64.wrap (2 * n3))] w4) ∧
        ∀ n4 : Int,
        ∀ n5 : Int,
        ∀ w5 : World,
        (I4 [Value.int IntKind.i64 n4, Value.int IntKind.i64 n5] w5) →
        brB (decide (n5 ≤ x1))
          (Calls P F.slices_symMergeCmpFunc_api_Color #[Value.slice sa1 sl1 sc1, Value.int IntKind.i64 n4, Value.int IntKind.i64 (IntKind.i64.wrap (n4 + n3)), Value.int IntKind.i64 n5, va1] w5 fun e3 w6 =>
          (e3 = Ending.returned (Value.tuple #[])) ∧
          (I4 [Value.int IntKind.i64 n5, Value.int IntKind.i64 (IntKind.i64.wrap (n5 + IntKind.i64.wrap (2 * n3)))] w6) ∧
          m3 [Value.int IntKind.i64 n5, Value.int IntKind.i64 (IntKind.i64.wrap (n5 + IntKind.i64.wrap (2 * n3)))] w6 < m3 [Value.int IntKind.i64 n4, Value.int IntKind.i64 n5] w5)
          (brB (decide (IntKind.i64.wrap (n4 + n3) < x1))
            (Calls P F.slices_symMergeCmpFunc_api_Color #[Value.slice sa1 sl1 sc1, Value.int IntKind.i64 n4, Value.int IntKind.i64 (IntKind.i64.wrap (n4 + n3)), Value.int IntKind.i64 x1, va1] w5 fun e4 w7 =>
            (e4 = Ending.returned (Value.tuple #[])) ∧
            I3 [Value.int IntKind.i64 (IntKind.i64.wrap (n3 * 2))] w7)
            (I3 [Value.int IntKind.i64 (IntKind.i64.wrap (n3 * 2))] w5))) ∧
      ∀ n6 : Int,
      ∀ w8 : World,
      (I3 [Value.int IntKind.i64 n6] w8) →
      (I2 [Value.int IntKind.i64 n6] w8) ∧
      m2 [Value.int IntKind.i64 n6] w8 < m2 [Value.int IntKind.i64 n3] w4)
      (R (Ending.returned (Value.tuple #[])) w4))
theorem calls_slices_stableCmpFunc_api_Color (sa1 : Option Addr) (sl1 sc1 : Nat) (x1 : Int) (va1 : Value) (w : World) (R : Ending → World → Prop) (h : vc_slices_stableCmpFunc_api_Color sa1 sl1 sc1 x1 va1 w R) : Calls P F.slices_stableCmpFunc_api_Color #[.slice sa1 sl1 sc1, .int .i64 x1, va1] w R :=
  calls_of_vc (fn := Try.f57) (ac := ac_slices_stableCmpFunc_api_Color) (args := [.slice sa1 sl1 sc1, .int .i64 x1, va1]) mixed Try.func57 (by kernel_rfl) (cast (by unfold vc_slices_stableCmpFunc_api_Color FnVc; kernel_rfl) h)
/-- cmp.isNaN[int] -/
def vc_cmp_isNaN_int (x1 : Int) (w : World) (R : Ending → World → Prop) : Prop :=
  R (Ending.returned (Value.bool (x1 != x1))) w
theorem calls_cmp_isNaN_int (x1 : Int) (w : World) (R : Ending → World → Prop) (h : vc_cmp_isNaN_int x1 w R) : Calls P F.cmp_isNaN_int #[.int .i64 x1] w R :=
  calls_of_vc (fn := Try.f58) (ac := ac_cmp_isNaN_int) (args := [.int .i64 x1]) mixed Try.func58 (by kernel_rfl) (cast (by unfold vc_cmp_isNaN_int FnVc; kernel_rfl) h)
/-- slices.Chunk[[]uint16,uint16] -/
def vc_slices_Chunk_uint16 (sa1 : Option Addr) (sl1 sc1 : Nat) (x1 : Int) (w : World) (R : Ending → World → Prop) : Prop :=
  ∀ k1 : Nat,
  ∀ w1 : World,
  (New w (Obj.cells #[Value.slice sa1 sl1 sc1] 22) k1 w1) →
  ∀ k2 : Nat,
  ∀ w2 : World,
  (New w1 (Obj.cells #[Value.int IntKind.i64 x1] 3) k2 w2) →
  ∃ n1 : Int,
  (w2.cell? { block := k2, off := 0 } = some (Value.int IntKind.i64 n1)) ∧
  brB (decide (n1 < 1))
    (False)
    (R (Ending.returned (Value.func (Fn.func 68) #[] #[Value.pointer (some { block := k1, off := 0 }), Value.pointer (some { block := k2, off := 0 })])) w2)
theorem calls_slices_Chunk_uint16 (sa1 : Option Addr) (sl1 sc1 : Nat) (x1 : Int) (w : World) (R : Ending → World → Prop) (h : vc_slices_Chunk_uint16 sa1 sl1 sc1 x1 w R) : Calls P F.slices_Chunk_uint16 #[.slice sa1 sl1 sc1, .int .i64 x1] w R :=
  calls_of_vc (fn := Try.f59) (ac := ac_slices_Chunk_uint16) (args := [.slice sa1 sl1 sc1, .int .i64 x1]) mixed Try.func59 (by kernel_rfl) (cast (by unfold vc_slices_Chunk_uint16 FnVc; kernel_rfl) h)
/-- darkroom/grid.Of[darkroom/api.Color] -/
def vc_grid_Of_api_Color (x1 : Int) (x2 : Int) (sa1 : Option Addr) (sl1 sc1 : Nat) (w : World) (R : Ending → World → Prop) : Prop :=
  Calls P F.grid_fits #[Value.int IntKind.i64 x1, Value.int IntKind.i64 x2] w fun e1 w1 =>
  ∃ c1 : Bool,
  (e1 = Ending.returned (Value.bool c1)) ∧
  brB (!c1)
    (R (Ending.returned (Value.tuple #[Value.pointer none, Value.int IntKind.i64 4])) w1)
    (brB ((↑sl1 : Int) != IntKind.i64.wrap (x1 * x2))
      (R (Ending.returned (Value.tuple #[Value.pointer none, Value.int IntKind.i64 3])) w1)
      (Calls P F.slices_Clone_api_Color #[Value.slice sa1 sl1 sc1] w1 fun e2 w2 =>
      ∃ p1 : Option Addr,
      ∃ k1 : Nat,
      ∃ k2 : Nat,
      (e2 = Ending.returned (Value.slice p1 k1 k2)) ∧
      ∀ k3 : Nat,
      ∀ w3 : World,
      (New w2 (Obj.cells #[Value.int IntKind.i64 x1, Value.int IntKind.i64 x2, Value.slice p1 k1 k2] 106) k3 w3) →
      R (Ending.returned (Value.tuple #[Value.pointer (some { block := k3, off := 0 }), Value.int IntKind.i64 0])) w3))
theorem calls_grid_Of_api_Color (x1 : Int) (x2 : Int) (sa1 : Option Addr) (sl1 sc1 : Nat) (w : World) (R : Ending → World → Prop) (h : vc_grid_Of_api_Color x1 x2 sa1 sl1 sc1 w R) : Calls P F.grid_Of_api_Color #[.int .i64 x1, .int .i64 x2, .slice sa1 sl1 sc1] w R :=
  calls_of_vc (fn := Try.f60) (ac := ac_grid_Of_api_Color) (args := [.int .i64 x1, .int .i64 x2, .slice sa1 sl1 sc1]) mixed Try.func60 (by kernel_rfl) (cast (by unfold vc_grid_Of_api_Color FnVc; kernel_rfl) h)
/-- (*darkroom/grid.Grid[darkroom/api.Color]).All$1 -/
def vc_grid_Grid_api_Color_All_fn1 (yl1 : Nat) (fr1 : Addr) (w : World) (R : Ending → World → Prop) : Prop :=
  ∃ p1 : Option Addr,
  (w.drew.cell? fr1 = some (Value.pointer p1)) ∧
  ∃ p2 : Option Addr,
  (w.drew.cell? fr1 = some (Value.pointer p2)) ∧
  Calls P F.grid_Grid_api_Color_W #[Value.pointer p1] (w.drew) fun e1 w1 =>
  ∃ n1 : Int,
  (e1 = Ending.returned (Value.int IntKind.i64 n1)) ∧
  (Keeps (w.drew) w1) ∧
  Calls P F.grid_Grid_api_Color_H #[Value.pointer p2] w1 fun e2 w2 =>
  ∃ n2 : Int,
  (e2 = Ending.returned (Value.int IntKind.i64 n2)) ∧
  ∃ I1 : List Value → World → Prop,
  ∃ m1 : List Value → World → Nat,
  (I1 [Value.int IntKind.i64 0] w2) ∧
  ∀ n3 : Int,
  ∀ w3 : World,
  (I1 [Value.int IntKind.i64 n3] w3) →
  brB (decide (n3 < IntKind.i64.wrap (n1 * n2)))
    (∃ p3 : Option Addr,
    (w3.drew.cell? fr1 = some (Value.pointer p3)) ∧
    nn (p3) fun a1 =>
    ∃ n4 : Int,
    (w3.drew.cell? a1 = some (Value.int IntKind.i64 n4)) ∧
    (n4 ≠ 0) ∧
    ∃ p4 : Option Addr,
    (w3.drew.cell? fr1 = some (Value.pointer p4)) ∧
    nn (p4) fun a2 =>
    ∃ n5 : Int,
    (w3.drew.cell? a2 = some (Value.int IntKind.i64 n5)) ∧
    (n5 ≠ 0) ∧
    ∃ p5 : Option Addr,
    (w3.drew.cell? fr1 = some (Value.pointer p5)) ∧
    nn (p5) fun a3 =>
    ∃ p6 : Option Addr,
    ∃ k1 : Nat,
    ∃ k2 : Nat,
    (w3.drew.cell? (a3.add 2) = some (Value.slice p6 k1 k2)) ∧
    idx (p6) (k1) (n3) (4) fun a4 =>
    ∃ n6 : Int,
    ∃ n7 : Int,
    ∃ n8 : Int,
    ∃ n9 : Int,
    (w3.drew.cell? a4 = some (Value.int IntKind.u16 n6)) ∧
    (w3.drew.cell? (a4.add 1) = some (Value.int IntKind.u16 n7)) ∧
    (w3.drew.cell? (a4.add 2) = some (Value.int IntKind.u16 n8)) ∧
    (w3.drew.cell? (a4.add 3) = some (Value.int IntKind.u16 n9)) ∧
    YieldAt Fence.wide 0 P (yl1) #[Value.agg #[Value.int IntKind.i64 (divZ BinOp.rem IntKind.i64 n3 n4), Value.int IntKind.i64 (divZ BinOp.quo IntKind.i64 n3 n5)], Value.agg #[Value.int IntKind.u16 n6, Value.int IntKind.u16 n7, Value.int IntKind.u16 n8, Value.int IntKind.u16 n9]] (w3.drew) fun e3 w4 =>
    ∃ c1 : Bool,
    (e3 = Ending.returned (Value.bool c1)) ∧
    brB (!c1)
      (R (Ending.returned (Value.tuple #[])) w4)
      ((I1 [Value.int IntKind.i64 (IntKind.i64.wrap (n3 + 1))] w4) ∧
      m1 [Value.int IntKind.i64 (IntKind.i64.wrap (n3 + 1))] w4 < m1 [Value.int IntKind.i64 n3] w3))
    (R (Ending.returned (Value.tuple #[])) w3)
theorem calls_grid_Grid_api_Color_All_fn1 (yl1 : Nat) (fr1 : Addr) (w : World) (R : Ending → World → Prop) (h : vc_grid_Grid_api_Color_All_fn1 yl1 fr1 w R) : Calls P F.grid_Grid_api_Color_All_fn1 #[.func (.yield yl1) #[] #[], .pointer (some fr1)] w R :=
  calls_of_vc (fn := Try.f61) (ac := ac_grid_Grid_api_Color_All_fn1) (args := [.func (.yield yl1) #[] #[], .pointer (some fr1)]) mixed Try.func61 (by kernel_rfl) (cast (by unfold vc_grid_Grid_api_Color_All_fn1 FnVc; kernel_rfl) h)
/-- (*darkroom/grid.Grid[darkroom/api.Color]).W -/
def vc_grid_Grid_api_Color_W (q1 : Option Addr) (w : World) (R : Ending → World → Prop) : Prop :=
  brB (q1.isNone)
    (R (Ending.returned (Value.int IntKind.i64 0)) w)
    (nn (q1) fun a1 =>
    ∃ n1 : Int,
    (w.cell? a1 = some (Value.int IntKind.i64 n1)) ∧
    R (Ending.returned (Value.int IntKind.i64 n1)) w)
theorem calls_grid_Grid_api_Color_W (q1 : Option Addr) (w : World) (R : Ending → World → Prop) (h : vc_grid_Grid_api_Color_W q1 w R) : Calls P F.grid_Grid_api_Color_W #[.pointer q1] w R :=
  calls_of_vc (fn := Try.f62) (ac := ac_grid_Grid_api_Color_W) (args := [.pointer q1]) mixed Try.func62 (by kernel_rfl) (cast (by unfold vc_grid_Grid_api_Color_W FnVc; kernel_rfl) h)
/-- (*darkroom/grid.Grid[darkroom/api.Color]).H -/
def vc_grid_Grid_api_Color_H (q1 : Option Addr) (w : World) (R : Ending → World → Prop) : Prop :=
  brB (q1.isNone)
    (R (Ending.returned (Value.int IntKind.i64 0)) w)
    (nn (q1) fun a1 =>
    ∃ n1 : Int,
    (w.cell? (a1.add 1) = some (Value.int IntKind.i64 n1)) ∧
    R (Ending.returned (Value.int IntKind.i64 n1)) w)
theorem calls_grid_Grid_api_Color_H (q1 : Option Addr) (w : World) (R : Ending → World → Prop) (h : vc_grid_Grid_api_Color_H q1 w R) : Calls P F.grid_Grid_api_Color_H #[.pointer q1] w R :=
  calls_of_vc (fn := Try.f63) (ac := ac_grid_Grid_api_Color_H) (args := [.pointer q1]) mixed Try.func63 (by kernel_rfl) (cast (by unfold vc_grid_Grid_api_Color_H FnVc; kernel_rfl) h)
/-- darkroom/darkroomref08.Far -/
def vc_ref08_Far (x1 : Int) (x2 : Int) (x3 : Int) (x4 : Int) (x5 : Int) (x6 : Int) (x7 : Int) (x8 : Int) (w : World) (R : Ending → World → Prop) : Prop :=
  ∀ k1 : Nat,
  (w.heap.size ≤ k1) →
  ∀ k2 : Nat,
  (w.heap.size ≤ k2) →
  ∀ w1 : World,
  (Locl ([k2, k1]) w w1) →
  R (Ending.returned (Value.int IntKind.i64 (IntKind.i64.wrap (IntKind.i64.wrap (IntKind.i64.wrap (IntKind.i64.wrap (IntKind.i64.wrap x1 - IntKind.i64.wrap x5) * IntKind.i64.wrap (IntKind.i64.wrap x1 - IntKind.i64.wrap x5)) + IntKind.i64.wrap (IntKind.i64.wrap (IntKind.i64.wrap x2 - IntKind.i64.wrap x6) * IntKind.i64.wrap (IntKind.i64.wrap x2 - IntKind.i64.wrap x6))) + IntKind.i64.wrap (IntKind.i64.wrap (IntKind.i64.wrap x3 - IntKind.i64.wrap x7) * IntKind.i64.wrap (IntKind.i64.wrap x3 - IntKind.i64.wrap x7)))))) w1
theorem calls_ref08_Far (x1 : Int) (x2 : Int) (x3 : Int) (x4 : Int) (x5 : Int) (x6 : Int) (x7 : Int) (x8 : Int) (w : World) (R : Ending → World → Prop) (h : vc_ref08_Far x1 x2 x3 x4 x5 x6 x7 x8 w R) : Calls P F.ref08_Far #[.agg #[.int .u16 x1, .int .u16 x2, .int .u16 x3, .int .u16 x4], .agg #[.int .u16 x5, .int .u16 x6, .int .u16 x7, .int .u16 x8]] w R :=
  calls_of_vc (fn := Try.f64) (ac := ac_ref08_Far) (args := [.agg #[.int .u16 x1, .int .u16 x2, .int .u16 x3, .int .u16 x4], .agg #[.int .u16 x5, .int .u16 x6, .int .u16 x7, .int .u16 x8]]) mixed Try.func64 (by kernel_rfl) (cast (by unfold vc_ref08_Far FnVc; kernel_rfl) h)
/-- darkroom/darkroomref08.Round -/
def vc_ref08_Round (x1 : Int) (x2 : Int) (w : World) (R : Ending → World → Prop) : Prop :=
  Calls P F.ref08_Down #[Value.int IntKind.u16 x1, Value.int IntKind.i64 x2] w fun e1 w1 =>
  ∃ n1 : Int,
  ∃ n2 : Int,
  (e1 = Ending.returned (Value.tuple #[Value.int IntKind.i64 n1, Value.int IntKind.i64 n2])) ∧
  Calls P F.ref08_Up #[Value.int IntKind.i64 n1, Value.int IntKind.i64 x2] w1 fun e2 w2 =>
  ∃ n3 : Int,
  ∃ n4 : Int,
  (e2 = Ending.returned (Value.tuple #[Value.int IntKind.u16 n3, Value.int IntKind.i64 n4])) ∧
  R (Ending.returned (Value.int IntKind.u16 n3)) w2
theorem calls_ref08_Round (x1 : Int) (x2 : Int) (w : World) (R : Ending → World → Prop) (h : vc_ref08_Round x1 x2 w R) : Calls P F.ref08_Round #[.int .u16 x1, .int .i64 x2] w R :=
  calls_of_vc (fn := Try.f65) (ac := ac_ref08_Round) (args := [.int .u16 x1, .int .i64 x2]) mixed Try.func65 (by kernel_rfl) (cast (by unfold vc_ref08_Round FnVc; kernel_rfl) h)
/-- slices.insertionSortCmpFunc[darkroom/api.Color] -/
def vc_slices_insertionSortCmpFunc_api_Color (sa1 : Option Addr) (sl1 sc1 : Nat) (x1 : Int) (x2 : Int) (va1 : Value) (w : World) (R : Ending → World → Prop) : Prop :=
  ∃ I1 : List Value → World → Prop,
  ∃ m1 : List Value → World → Nat,
  (I1 [Value.int IntKind.i64 (IntKind.i64.wrap (x1 + 1))] w) ∧
  ∀ n1 : Int,
  ∀ w1 : World,
  (I1 [Value.int IntKind.i64 n1] w1) →
  brB (decide (n1 < x2))
    (∃ I2 : List Value → World → Prop,
    (∃ I3 : List Value → World → Prop,
      ∃ m2 : List Value → World → Nat,
      (I3 [Value.int IntKind.i64 n1] w1) ∧
      ∀ n2 : Int,
      ∀ w2 : World,
      (I3 [Value.int IntKind.i64 n2] w2) →
      brB (decide (n2 > x1))
        (idx (sa1) (sl1) (n2) (4) fun a1 =>
        ∃ n3 : Int,
        ∃ n4 : Int,
        ∃ n5 : Int,
        ∃ n6 : Int,
        (w2.drew.cell? a1 = some (Value.int IntKind.u16 n3)) ∧
        (w2.drew.cell? (a1.add 1) = some (Value.int IntKind.u16 n4)) ∧
        (w2.drew.cell? (a1.add 2) = some (Value.int IntKind.u16 n5)) ∧
        (w2.drew.cell? (a1.add 3) = some (Value.int IntKind.u16 n6)) ∧
        idx (sa1) (sl1) (IntKind.i64.wrap (n2 - 1)) (4) fun a2 =>
        ∃ n7 : Int,
        ∃ n8 : Int,
        ∃ n9 : Int,
        ∃ n10 : Int,
        (w2.drew.cell? a2 = some (Value.int IntKind.u16 n7)) ∧
        (w2.drew.cell? (a2.add 1) = some (Value.int IntKind.u16 n8)) ∧
        (w2.drew.cell? (a2.add 2) = some (Value.int IntKind.u16 n9)) ∧
        (w2.drew.cell? (a2.add 3) = some (Value.int IntKind.u16 n10)) ∧
        callV P (va1) [Value.agg #[Value.int IntKind.u16 n3, Value.int IntKind.u16 n4, Value.int IntKind.u16 n5, Value.int IntKind.u16 n6], Value.agg #[Value.int IntKind.u16 n7, Value.int IntKind.u16 n8, Value.int IntKind.u16 n9, Value.int IntKind.u16 n10]] (w2.drew) fun e1 w3 =>
        ∃ n11 : Int,
        (e1 = Ending.returned (Value.int IntKind.i64 n11)) ∧
        brB (decide (n11 < 0))
          (idx (sa1) (sl1) (IntKind.i64.wrap (n2 - 1)) (4) fun a3 =>
          ∃ n12 : Int,
          ∃ n13 : Int,
          ∃ n14 : Int,
          ∃ n15 : Int,
          (w3.drew.cell? a3 = some (Value.int IntKind.u16 n12)) ∧
          (w3.drew.cell? (a3.add 1) = some (Value.int IntKind.u16 n13)) ∧
          (w3.drew.cell? (a3.add 2) = some (Value.int IntKind.u16 n14)) ∧
          (w3.drew.cell? (a3.add 3) = some (Value.int IntKind.u16 n15)) ∧
          idx (sa1) (sl1) (n2) (4) fun a4 =>
          ∃ n16 : Int,
          ∃ n17 : Int,
          ∃ n18 : Int,
          ∃ n19 : Int,
          (w3.drew.cell? a4 = some (Value.int IntKind.u16 n16)) ∧
          (w3.drew.cell? (a4.add 1) = some (Value.int IntKind.u16 n17)) ∧
          (w3.drew.cell? (a4.add 2) = some (Value.int IntKind.u16 n18)) ∧
          (w3.drew.cell? (a4.add 3) = some (Value.int IntKind.u16 n19)) ∧
          idx (sa1) (sl1) (n2) (4) fun a5 =>
          (∃ v1 : Value,
            w3.drew.cell? a5 = some v1) ∧
          (w3.drew.frozen? a5 = false) ∧
          (∃ v2 : Value,
            w3.drew.cell? (a5.add 1) = some v2) ∧
          (w3.drew.frozen? (a5.add 1) = false) ∧
          (∃ v3 : Value,
            w3.drew.cell? (a5.add 2) = some v3) ∧
          (w3.drew.frozen? (a5.add 2) = false) ∧
          (∃ v4 : Value,
            w3.drew.cell? (a5.add 3) = some v4) ∧
          (w3.drew.frozen? (a5.add 3) = false) ∧
          idx (sa1) (sl1) (IntKind.i64.wrap (n2 - 1)) (4) fun a6 =>
          (∃ v5 : Value,
            (setCells w3.drew a5 [Value.int IntKind.u16 n12, Value.int IntKind.u16 n13, Value.int IntKind.u16 n14, Value.int IntKind.u16 n15] 0).cell? a6 = some v5) ∧
          ((setCells w3.drew a5 [Value.int IntKind.u16 n12, Value.int IntKind.u16 n13, Value.int IntKind.u16 n14, Value.int IntKind.u16 n15] 0).frozen? a6 = false) ∧
          (∃ v6 : Value,
            (setCells w3.drew a5 [Value.int IntKind.u16 n12, Value.int IntKind.u16 n13, Value.int IntKind.u16 n14, Value.int IntKind.u16 n15] 0).cell? (a6.add 1) = some v6) ∧
          ((setCells w3.drew a5 [Value.int IntKind.u16 n12, Value.int IntKind.u16 n13, Value.int IntKind.u16 n14, Value.int IntKind.u16 n15] 0).frozen? (a6.add 1) = false) ∧
          (∃ v7 : Value,
            (setCells w3.drew a5 [Value.int IntKind.u16 n12, Value.int IntKind.u16 n13, Value.int IntKind.u16 n14, Value.int IntKind.u16 n15] 0).cell? (a6.add 2) = some v7) ∧
          ((setCells w3.drew a5 [Value.int IntKind.u16 n12, Value.int IntKind.u16 n13, Value.int IntKind.u16 n14, Value.int IntKind.u16 n15] 0).frozen? (a6.add 2) = false) ∧
          (∃ v8 : Value,
            (setCells w3.drew a5 [Value.int IntKind.u16 n12, Value.int IntKind.u16 n13, Value.int IntKind.u16 n14, Value.int IntKind.u16 n15] 0).cell? (a6.add 3) = some v8) ∧
          ((setCells w3.drew a5 [Value.int IntKind.u16 n12, Value.int IntKind.u16 n13, Value.int IntKind.u16 n14, Value.int IntKind.u16 n15] 0).frozen? (a6.add 3) = false) ∧
          (I3 [Value.int IntKind.i64 (IntKind.i64.wrap (n2 - 1))] (setCells (setCells w3.drew a5 [Value.int IntKind.u16 n12, Value.int IntKind.u16 n13, Value.int IntKind.u16 n14, Value.int IntKind.u16 n15] 0) a6 [Value.int IntKind.u16 n16, Value.int IntKind.u16 n17, Value.int IntKind.u16 n18, Value.int IntKind.u16 n19] 0)) ∧
          m2 [Value.int IntKind.i64 (IntKind.i64.wrap (n2 - 1))] (setCells (setCells w3.drew a5 [Value.int IntKind.u16 n12, Value.int IntKind.u16 n13, Value.int IntKind.u16 n14, Value.int IntKind.u16 n15] 0) a6 [Value.int IntKind.u16 n16, Value.int IntKind.u16 n17, Value.int IntKind.u16 n18, Value.int IntKind.u16 n19] 0) < m2 [Value.int IntKind.i64 n2] w2)
          (I2 [] w3))
        (I2 [] w2.drew)) ∧
    ∀ w4 : World,
    (I2 [] w4) →
    (I1 [Value.int IntKind.i64 (IntKind.i64.wrap (n1 + 1))] w4) ∧
    m1 [Value.int IntKind.i64 (IntKind.i64.wrap (n1 + 1))] w4 < m1 [Value.int IntKind.i64 n1] w1)
    (R (Ending.returned (Value.tuple #[])) w1)
theorem calls_slices_insertionSortCmpFunc_api_Color (sa1 : Option Addr) (sl1 sc1 : Nat) (x1 : Int) (x2 : Int) (va1 : Value) (w : World) (R : Ending → World → Prop) (h : vc_slices_insertionSortCmpFunc_api_Color sa1 sl1 sc1 x1 x2 va1 w R) : Calls P F.slices_insertionSortCmpFunc_api_Color #[.slice sa1 sl1 sc1, .int .i64 x1, .int .i64 x2, va1] w R :=
  calls_of_vc (fn := Try.f66) (ac := ac_slices_insertionSortCmpFunc_api_Color) (args := [.slice sa1 sl1 sc1, .int .i64 x1, .int .i64 x2, va1]) mixed Try.func66 (by kernel_rfl) (cast (by unfold vc_slices_insertionSortCmpFunc_api_Color FnVc; kernel_rfl) h)
/-- slices.symMergeCmpFunc[darkroom/api.Color] -/
def vc_slices_symMergeCmpFunc_api_Color (sa1 : Option Addr) (sl1 sc1 : Nat) (x1 : Int) (x2 : Int) (x3 : Int) (va1 : Value) (w : World) (R : Ending → World → Prop) : Prop :=
  brB (IntKind.i64.wrap (x2 - x1) == 1)
    (∃ I1 : List Value → World → Prop,
    ∃ m1 : List Value → World → Nat,
    (I1 [Value.int IntKind.i64 x2, Value.int IntKind.i64 x3] w) ∧
    ∀ n1 : Int,
    ∀ n2 : Int,
    ∀ w1 : World,
    (I1 [Value.int IntKind.i64 n1, Value.int IntKind.i64 n2] w1) →
    brB (decide (n1 < n2))
      (∃ I2 : List Value → World → Prop,
      (idx (sa1) (sl1) (IntKind.i64.wrap (shiftZ BinOp.shr IntKind.u64 (IntKind.u64.wrap (IntKind.i64.wrap (n1 + n2))) 1)) (4) fun a1 =>
        ∃ n3 : Int,
        ∃ n4 : Int,
        ∃ n5 : Int,
        ∃ n6 : Int,
        (w1.drew.cell? a1 = some (Value.int IntKind.u16 n3)) ∧
        (w1.drew.cell? (a1.add 1) = some (Value.int IntKind.u16 n4)) ∧
        (w1.drew.cell? (a1.add 2) = some (Value.int IntKind.u16 n5)) ∧
        (w1.drew.cell? (a1.add 3) = some (Value.int IntKind.u16 n6)) ∧
        idx (sa1) (sl1) (x1) (4) fun a2 =>
        ∃ n7 : Int,
        ∃ n8 : Int,
        ∃ n9 : Int,
        ∃ n10 : Int,
        (w1.drew.cell? a2 = some (Value.int IntKind.u16 n7)) ∧
        (w1.drew.cell? (a2.add 1) = some (Value.int IntKind.u16 n8)) ∧
        (w1.drew.cell? (a2.add 2) = some (Value.int IntKind.u16 n9)) ∧
        (w1.drew.cell? (a2.add 3) = some (Value.int IntKind.u16 n10)) ∧
        callV P (va1) [Value.agg #[Value.int IntKind.u16 n3, Value.int IntKind.u16 n4, Value.int IntKind.u16 n5, Value.int IntKind.u16 n6], Value.agg #[Value.int IntKind.u16 n7, Value.int IntKind.u16 n8, Value.int IntKind.u16 n9, Value.int IntKind.u16 n10]] (w1.drew) fun e1 w2 =>
        ∃ n11 : Int,
        (e1 = Ending.returned (Value.int IntKind.i64 n11)) ∧
        brB (decide (n11 < 0))
          (I2 [Value.int IntKind.i64 (IntKind.i64.wrap (IntKind.i64.wrap (shiftZ BinOp.shr IntKind.u64 (IntKind.u64.wrap (IntKind.i64.wrap (n1 + n2))) 1) + 1)), Value.int IntKind.i64 n2] w2)
          (I2 [Value.int IntKind.i64 n1, Value.int IntKind.i64 (IntKind.i64.wrap (shiftZ BinOp.shr IntKind.u64 (IntKind.u64.wrap (IntKind.i64.wrap (n1 + n2))) 1))] w2)) ∧
      ∀ n12 : Int,
      ∀ n13 : Int,
      ∀ w3 : World,
      (I2 [Value.int IntKind.i64 n12, Value.int IntKind.i64 n13] w3) →
      (I1 [Value.int IntKind.i64 n12, Value.int IntKind.i64 n13] w3) ∧
      m1 [Value.int IntKind.i64 n12, Value.int IntKind.i64 n13] w3 < m1 [Value.int IntKind.i64 n1, Value.int IntKind.i64 n2] w1)
      (∃ I3 : List Value → World → Prop,
      ∃ m2 : List Value → World → Nat,
      (I3 [Value.int IntKind.i64 x1] w1) ∧
      ∀ n14 : Int,
      ∀ w4 : World,
      (I3 [Value.int IntKind.i64 n14] w4) →
      brB (decide (n14 < IntKind.i64.wrap (n1 - 1)))
        (idx (sa1) (sl1) (IntKind.i64.wrap (n14 + 1)) (4) fun a3 =>
        ∃ n15 : Int,
        ∃ n16 : Int,
        ∃ n17 : Int,
        ∃ n18 : Int,
        (w4.drew.cell? a3 = some (Value.int IntKind.u16 n15)) ∧
        (w4.drew.cell? (a3.add 1) = some (Value.int IntKind.u16 n16)) ∧
        (w4.drew.cell? (a3.add 2) = some (Value.int IntKind.u16 n17)) ∧
        (w4.drew.cell? (a3.add 3) = some (Value.int IntKind.u16 n18)) ∧
        idx (sa1) (sl1) (n14) (4) fun a4 =>
        ∃ n19 : Int,
        ∃ n20 : Int,
        ∃ n21 : Int,
        ∃ n22 : Int,
        (w4.drew.cell? a4 = some (Value.int IntKind.u16 n19)) ∧
        (w4.drew.cell? (a4.add 1) = some (Value.int IntKind.u16 n20)) ∧
        (w4.drew.cell? (a4.add 2) = some (Value.int IntKind.u16 n21)) ∧
        (w4.drew.cell? (a4.add 3) = some (Value.int IntKind.u16 n22)) ∧
        idx (sa1) (sl1) (n14) (4) fun a5 =>
        (∃ v1 : Value,
          w4.drew.cell? a5 = some v1) ∧
        (w4.drew.frozen? a5 = false) ∧
        (∃ v2 : Value,
          w4.drew.cell? (a5.add 1) = some v2) ∧
        (w4.drew.frozen? (a5.add 1) = false) ∧
        (∃ v3 : Value,
          w4.drew.cell? (a5.add 2) = some v3) ∧
        (w4.drew.frozen? (a5.add 2) = false) ∧
        (∃ v4 : Value,
          w4.drew.cell? (a5.add 3) = some v4) ∧
        (w4.drew.frozen? (a5.add 3) = false) ∧
        idx (sa1) (sl1) (IntKind.i64.wrap (n14 + 1)) (4) fun a6 =>
        (∃ v5 : Value,
          (setCells w4.drew a5 [Value.int IntKind.u16 n15, Value.int IntKind.u16 n16, Value.int IntKind.u16 n17, Value.int IntKind.u16 n18] 0).cell? a6 = some v5) ∧
        ((setCells w4.drew a5 [Value.int IntKind.u16 n15, Value.int IntKind.u16 n16, Value.int IntKind.u16 n17, Value.int IntKind.u16 n18] 0).frozen? a6 = false) ∧
        (∃ v6 : Value,
          (setCells w4.drew a5 [Value.int IntKind.u16 n15, Value.int IntKind.u16 n16, Value.int IntKind.u16 n17, Value.int IntKind.u16 n18] 0).cell? (a6.add 1) = some v6) ∧
        ((setCells w4.drew a5 [Value.int IntKind.u16 n15, Value.int IntKind.u16 n16, Value.int IntKind.u16 n17, Value.int IntKind.u16 n18] 0).frozen? (a6.add 1) = false) ∧
        (∃ v7 : Value,
          (setCells w4.drew a5 [Value.int IntKind.u16 n15, Value.int IntKind.u16 n16, Value.int IntKind.u16 n17, Value.int IntKind.u16 n18] 0).cell? (a6.add 2) = some v7) ∧
        ((setCells w4.drew a5 [Value.int IntKind.u16 n15, Value.int IntKind.u16 n16, Value.int IntKind.u16 n17, Value.int IntKind.u16 n18] 0).frozen? (a6.add 2) = false) ∧
        (∃ v8 : Value,
          (setCells w4.drew a5 [Value.int IntKind.u16 n15, Value.int IntKind.u16 n16, Value.int IntKind.u16 n17, Value.int IntKind.u16 n18] 0).cell? (a6.add 3) = some v8) ∧
        ((setCells w4.drew a5 [Value.int IntKind.u16 n15, Value.int IntKind.u16 n16, Value.int IntKind.u16 n17, Value.int IntKind.u16 n18] 0).frozen? (a6.add 3) = false) ∧
        (I3 [Value.int IntKind.i64 (IntKind.i64.wrap (n14 + 1))] (setCells (setCells w4.drew a5 [Value.int IntKind.u16 n15, Value.int IntKind.u16 n16, Value.int IntKind.u16 n17, Value.int IntKind.u16 n18] 0) a6 [Value.int IntKind.u16 n19, Value.int IntKind.u16 n20, Value.int IntKind.u16 n21, Value.int IntKind.u16 n22] 0)) ∧
        m2 [Value.int IntKind.i64 (IntKind.i64.wrap (n14 + 1))] (setCells (setCells w4.drew a5 [Value.int IntKind.u16 n15, Value.int IntKind.u16 n16, Value.int IntKind.u16 n17, Value.int IntKind.u16 n18] 0) a6 [Value.int IntKind.u16 n19, Value.int IntKind.u16 n20, Value.int IntKind.u16 n21, Value.int IntKind.u16 n22] 0) < m2 [Value.int IntKind.i64 n14] w4)
        (R (Ending.returned (Value.tuple #[])) w4)))
    (brB (IntKind.i64.wrap (x3 - x2) == 1)
      (∃ I4 : List Value → World → Prop,
      ∃ m3 : List Value → World → Nat,
      (I4 [Value.int IntKind.i64 x1, Value.int IntKind.i64 x2] w) ∧
      ∀ n23 : Int,
      ∀ n24 : Int,
      ∀ w5 : World,
      (I4 [Value.int IntKind.i64 n23, Value.int IntKind.i64 n24] w5) →
      brB (decide (n23 < n24))
        (∃ I5 : List Value → World → Prop,
        (idx (sa1) (sl1) (x2) (4) fun a7 =>
          ∃ n25 : Int,
          ∃ n26 : Int,
          ∃ n27 : Int,
          ∃ n28 : Int,
          (w5.drew.cell? a7 = some (Value.int IntKind.u16 n25)) ∧
          (w5.drew.cell? (a7.add 1) = some (Value.int IntKind.u16 n26)) ∧
          (w5.drew.cell? (a7.add 2) = some (Value.int IntKind.u16 n27)) ∧
          (w5.drew.cell? (a7.add 3) = some (Value.int IntKind.u16 n28)) ∧
          idx (sa1) (sl1) (IntKind.i64.wrap (shiftZ BinOp.shr IntKind.u64 (IntKind.u64.wrap (IntKind.i64.wrap (n23 + n24))) 1)) (4) fun a8 =>
          ∃ n29 : Int,
          ∃ n30 : Int,
          ∃ n31 : Int,
          ∃ n32 : Int,
          (w5.drew.cell? a8 = some (Value.int IntKind.u16 n29)) ∧
          (w5.drew.cell? (a8.add 1) = some (Value.int IntKind.u16 n30)) ∧
          (w5.drew.cell? (a8.add 2) = some (Value.int IntKind.u16 n31)) ∧
          (w5.drew.cell? (a8.add 3) = some (Value.int IntKind.u16 n32)) ∧
          callV P (va1) [Value.agg #[Value.int IntKind.u16 n25, Value.int IntKind.u16 n26, Value.int IntKind.u16 n27, Value.int IntKind.u16 n28], Value.agg #[Value.int IntKind.u16 n29, Value.int IntKind.u16 n30, Value.int IntKind.u16 n31, Value.int IntKind.u16 n32]] (w5.drew) fun e2 w6 =>
          ∃ n33 : Int,
          (e2 = Ending.returned (Value.int IntKind.i64 n33)) ∧
          brB (!decide (n33 < 0))
            (I5 [Value.int IntKind.i64 (IntKind.i64.wrap (IntKind.i64.wrap (shiftZ BinOp.shr IntKind.u64 (IntKind.u64.wrap (IntKind.i64.wrap (n23 + n24))) 1) + 1)), Value.int IntKind.i64 n24] w6)
            (I5 [Value.int IntKind.i64 n23, Value.int IntKind.i64 (IntKind.i64.wrap (shiftZ BinOp.shr IntKind.u64 (IntKind.u64.wrap (IntKind.i64.wrap (n23 + n24))) 1))] w6)) ∧
        ∀ n34 : Int,
        ∀ n35 : Int,
        ∀ w7 : World,
        (I5 [Value.int IntKind.i64 n34, Value.int IntKind.i64 n35] w7) →
        (I4 [Value.int IntKind.i64 n34, Value.int IntKind.i64 n35] w7) ∧
        m3 [Value.int IntKind.i64 n34, Value.int IntKind.i64 n35] w7 < m3 [Value.int IntKind.i64 n23, Value.int IntKind.i64 n24] w5)
        (∃ I6 : List Value → World → Prop,
        ∃ m4 : List Value → World → Nat,
        (I6 [Value.int IntKind.i64 x2] w5) ∧
        ∀ n36 : Int,
        ∀ w8 : World,
        (I6 [Value.int IntKind.i64 n36] w8) →
        brB (decide (n36 > n23))
          (idx (sa1) (sl1) (IntKind.i64.wrap (n36 - 1)) (4) fun a9 =>
          ∃ n37 : Int,
          ∃ n38 : Int,
          ∃ n39 : Int,
          ∃ n40 : Int,
          (w8.drew.cell? a9 = some (Value.int IntKind.u16 n37)) ∧
          (w8.drew.cell? (a9.add 1) = some (Value.int IntKind.u16 n38)) ∧
          (w8.drew.cell? (a9.add 2) = some (Value.int IntKind.u16 n39)) ∧
          (w8.drew.cell? (a9.add 3) = some (Value.int IntKind.u16 n40)) ∧
          idx (sa1) (sl1) (n36) (4) fun a10 =>
          ∃ n41 : Int,
          ∃ n42 : Int,
          ∃ n43 : Int,
          ∃ n44 : Int,
          (w8.drew.cell? a10 = some (Value.int IntKind.u16 n41)) ∧
          (w8.drew.cell? (a10.add 1) = some (Value.int IntKind.u16 n42)) ∧
          (w8.drew.cell? (a10.add 2) = some (Value.int IntKind.u16 n43)) ∧
          (w8.drew.cell? (a10.add 3) = some (Value.int IntKind.u16 n44)) ∧
          idx (sa1) (sl1) (n36) (4) fun a11 =>
          (∃ v9 : Value,
            w8.drew.cell? a11 = some v9) ∧
          (w8.drew.frozen? a11 = false) ∧
          (∃ v10 : Value,
            w8.drew.cell? (a11.add 1) = some v10) ∧
          (w8.drew.frozen? (a11.add 1) = false) ∧
          (∃ v11 : Value,
            w8.drew.cell? (a11.add 2) = some v11) ∧
          (w8.drew.frozen? (a11.add 2) = false) ∧
          (∃ v12 : Value,
            w8.drew.cell? (a11.add 3) = some v12) ∧
          (w8.drew.frozen? (a11.add 3) = false) ∧
          idx (sa1) (sl1) (IntKind.i64.wrap (n36 - 1)) (4) fun a12 =>
          (∃ v13 : Value,
            (setCells w8.drew a11 [Value.int IntKind.u16 n37, Value.int IntKind.u16 n38, Value.int IntKind.u16 n39, Value.int IntKind.u16 n40] 0).cell? a12 = some v13) ∧
          ((setCells w8.drew a11 [Value.int IntKind.u16 n37, Value.int IntKind.u16 n38, Value.int IntKind.u16 n39, Value.int IntKind.u16 n40] 0).frozen? a12 = false) ∧
          (∃ v14 : Value,
            (setCells w8.drew a11 [Value.int IntKind.u16 n37, Value.int IntKind.u16 n38, Value.int IntKind.u16 n39, Value.int IntKind.u16 n40] 0).cell? (a12.add 1) = some v14) ∧
          ((setCells w8.drew a11 [Value.int IntKind.u16 n37, Value.int IntKind.u16 n38, Value.int IntKind.u16 n39, Value.int IntKind.u16 n40] 0).frozen? (a12.add 1) = false) ∧
          (∃ v15 : Value,
            (setCells w8.drew a11 [Value.int IntKind.u16 n37, Value.int IntKind.u16 n38, Value.int IntKind.u16 n39, Value.int IntKind.u16 n40] 0).cell? (a12.add 2) = some v15) ∧
          ((setCells w8.drew a11 [Value.int IntKind.u16 n37, Value.int IntKind.u16 n38, Value.int IntKind.u16 n39, Value.int IntKind.u16 n40] 0).frozen? (a12.add 2) = false) ∧
          (∃ v16 : Value,
            (setCells w8.drew a11 [Value.int IntKind.u16 n37, Value.int IntKind.u16 n38, Value.int IntKind.u16 n39, Value.int IntKind.u16 n40] 0).cell? (a12.add 3) = some v16) ∧
          ((setCells w8.drew a11 [Value.int IntKind.u16 n37, Value.int IntKind.u16 n38, Value.int IntKind.u16 n39, Value.int IntKind.u16 n40] 0).frozen? (a12.add 3) = false) ∧
          (I6 [Value.int IntKind.i64 (IntKind.i64.wrap (n36 - 1))] (setCells (setCells w8.drew a11 [Value.int IntKind.u16 n37, Value.int IntKind.u16 n38, Value.int IntKind.u16 n39, Value.int IntKind.u16 n40] 0) a12 [Value.int IntKind.u16 n41, Value.int IntKind.u16 n42, Value.int IntKind.u16 n43, Value.int IntKind.u16 n44] 0)) ∧
          m4 [Value.int IntKind.i64 (IntKind.i64.wrap (n36 - 1))] (setCells (setCells w8.drew a11 [Value.int IntKind.u16 n37, Value.int IntKind.u16 n38, Value.int IntKind.u16 n39, Value.int IntKind.u16 n40] 0) a12 [Value.int IntKind.u16 n41, Value.int IntKind.u16 n42, Value.int IntKind.u16 n43, Value.int IntKind.u16 n44] 0) < m4 [Value.int IntKind.i64 n36] w8)
          (R (Ending.returned (Value.tuple #[])) w8)))
      (∃ I7 : List Value → World → Prop,
      (brB (decide (x2 > IntKind.i64.wrap (shiftZ BinOp.shr IntKind.u64 (IntKind.u64.wrap (IntKind.i64.wrap (x1 + x3))) 1)))
          (I7 [Value.int IntKind.i64 (IntKind.i64.wrap (IntKind.i64.wrap (IntKind.i64.wrap (shiftZ BinOp.shr IntKind.u64 (IntKind.u64.wrap (IntKind.i64.wrap (x1 + x3))) 1) + x2) - x3)), Value.int IntKind.i64 (IntKind.i64.wrap (shiftZ BinOp.shr IntKind.u64 (IntKind.u64.wrap (IntKind.i64.wrap (x1 + x3))) 1))] w)
          (I7 [Value.int IntKind.i64 x1, Value.int IntKind.i64 x2] w)) ∧
      ∀ n45 : Int,
      ∀ n46 : Int,
      ∀ w9 : World,
      (I7 [Value.int IntKind.i64 n45, Value.int IntKind.i64 n46] w9) →
      ∃ I8 : List Value → World → Prop,
      ∃ m5 : List Value → World → Nat,
      (I8 [Value.int IntKind.i64 n45, Value.int IntKind.i64 n46] w9) ∧
      ∀ n47 : Int,
      ∀ n48 : Int,
      ∀ w10 : World,
      (I8 [Value.int IntKind.i64 n47, Value.int IntKind.i64 n48] w10) →
      brB (decide (n47 < n48))
        (∃ I9 : List Value → World → Prop,
        (idx (sa1) (sl1) (IntKind.i64.wrap (IntKind.i64.wrap (IntKind.i64.wrap (IntKind.i64.wrap (shiftZ BinOp.shr IntKind.u64 (IntKind.u64.wrap (IntKind.i64.wrap (x1 + x3))) 1) + x2) - 1) - IntKind.i64.wrap (shiftZ BinOp.shr IntKind.u64 (IntKind.u64.wrap (IntKind.i64.wrap (n47 + n48))) 1))) (4) fun a13 =>
          ∃ n49 : Int,
          ∃ n50 : Int,
          ∃ n51 : Int,
          ∃ n52 : Int,
          (w10.drew.cell? a13 = some (Value.int IntKind.u16 n49)) ∧
          (w10.drew.cell? (a13.add 1) = some (Value.int IntKind.u16 n50)) ∧
          (w10.drew.cell? (a13.add 2) = some (Value.int IntKind.u16 n51)) ∧
          (w10.drew.cell? (a13.add 3) = some (Value.int IntKind.u16 n52)) ∧
          idx (sa1) (sl1) (IntKind.i64.wrap (shiftZ BinOp.shr IntKind.u64 (IntKind.u64.wrap (IntKind.i64.wrap (n47 + n48))) 1)) (4) fun a14 =>
          ∃ n53 : Int,
          ∃ n54 : Int,
          ∃ n55 : Int,
          ∃ n56 : Int,
          (w10.drew.cell? a14 = some (Value.int IntKind.u16 n53)) ∧
          (w10.drew.cell? (a14.add 1) = some (Value.int IntKind.u16 n54)) ∧
          (w10.drew.cell? (a14.add 2) = some (Value.int IntKind.u16 n55)) ∧
          (w10.drew.cell? (a14.add 3) = some (Value.int IntKind.u16 n56)) ∧
          callV P (va1) [Value.agg #[Value.int IntKind.u16 n49, Value.int IntKind.u16 n50, Value.int IntKind.u16 n51, Value.int IntKind.u16 n52], Value.agg #[Value.int IntKind.u16 n53, Value.int IntKind.u16 n54, Value.int IntKind.u16 n55, Value.int IntKind.u16 n56]] (w10.drew) fun e3 w11 =>
          ∃ n57 : Int,
          (e3 = Ending.returned (Value.int IntKind.i64 n57)) ∧
          brB (!decide (n57 < 0))
            (I9 [Value.int IntKind.i64 (IntKind.i64.wrap (IntKind.i64.wrap (shiftZ BinOp.shr IntKind.u64 (IntKind.u64.wrap (IntKind.i64.wrap (n47 + n48))) 1) + 1)), Value.int IntKind.i64 n48] w11)
            (I9 [Value.int IntKind.i64 n47, Value.int IntKind.i64 (IntKind.i64.wrap (shiftZ BinOp.shr IntKind.u64 (IntKind.u64.wrap (IntKind.i64.wrap (n47 + n48))) 1))] w11)) ∧
        ∀ n58 : Int,
        ∀ n59 : Int,
        ∀ w12 : World,
        (I9 [Value.int IntKind.i64 n58, Value.int IntKind.i64 n59] w12) →
        (I8 [Value.int IntKind.i64 n58, Value.int IntKind.i64 n59] w12) ∧
        m5 [Value.int IntKind.i64 n58, Value.int IntKind.i64 n59] w12 < m5 [Value.int IntKind.i64 n47, Value.int IntKind.i64 n48] w10)
        (∃ I10 : List Value → World → Prop,
        (brB (decide (n47 < x2) && decide (x2 < IntKind.i64.wrap (IntKind.i64.wrap (IntKind.i64.wrap (shiftZ BinOp.shr IntKind.u64 (IntKind.u64.wrap (IntKind.i64.wrap (x1 + x3))) 1) + x2) - n47)))
            (Calls P F.slices_rotateCmpFunc_api_Color #[Value.slice sa1 sl1 sc1, Value.int IntKind.i64 n47, Value.int IntKind.i64 x2, Value.int IntKind.i64 (IntKind.i64.wrap (IntKind.i64.wrap (IntKind.i64.wrap (shiftZ BinOp.shr IntKind.u64 (IntKind.u64.wrap (IntKind.i64.wrap (x1 + x3))) 1) + x2) - n47)), va1] w10 fun e4 w13 =>
            (e4 = Ending.returned (Value.tuple #[])) ∧
            I10 [] w13)
            (I10 [] w10)) ∧
        ∀ w14 : World,
        (I10 [] w14) →
        ∃ I11 : List Value → World → Prop,
        (brB (decide (x1 < n47) && decide (n47 < IntKind.i64.wrap (shiftZ BinOp.shr IntKind.u64 (IntKind.u64.wrap (IntKind.i64.wrap (x1 + x3))) 1)))
            (Calls P F.slices_symMergeCmpFunc_api_Color #[Value.slice sa1 sl1 sc1, Value.int IntKind.i64 x1, Value.int IntKind.i64 n47, Value.int IntKind.i64 (IntKind.i64.wrap (shiftZ BinOp.shr IntKind.u64 (IntKind.u64.wrap (IntKind.i64.wrap (x1 + x3))) 1)), va1] w14 fun e5 w15 =>
            (e5 = Ending.returned (Value.tuple #[])) ∧
            I11 [] w15)
            (I11 [] w14)) ∧
        ∀ w16 : World,
        (I11 [] w16) →
        brB (decide (IntKind.i64.wrap (shiftZ BinOp.shr IntKind.u64 (IntKind.u64.wrap (IntKind.i64.wrap (x1 + x3))) 1) < IntKind.i64.wrap (IntKind.i64.wrap (IntKind.i64.wrap (shiftZ BinOp.shr IntKind.u64 (IntKind.u64.wrap (IntKind.i64.wrap (x1 + x3))) 1) + x2) - n47)) && decide (IntKind.i64.wrap (IntKind.i64.wrap (IntKind.i64.wrap (shiftZ BinOp.shr IntKind.u64 (IntKind.u64.wrap (IntKind.i64.wrap (x1 + x3))) 1) + x2) - n47) < x3))
          (Calls P F.slices_symMergeCmpFunc_api_Color #[Value.slice sa1 sl1 sc1, Value.int IntKind.i64 (IntKind.i64.wrap (shiftZ BinOp.shr IntKind.u64 (IntKind.u64.wrap (IntKind.i64.wrap (x1 + x3))) 1)), Value.int IntKind.i64 (IntKind.i64.wrap (IntKind.i64.wrap (IntKind.i64.wrap (shiftZ BinOp.shr IntKind.u64 (IntKind.u64.wrap (IntKind.i64.wrap (x1 + x3))) 1) + x2) - n47)), Value.int IntKind.i64 x3, va1] w16 fun e6 w17 =>
          (e6 = Ending.returned (Value.tuple #[])) ∧
          R (Ending.returned (Value.tuple #[])) w17)
          (R (Ending.returned (Value.tuple #[])) w16))))
theorem calls_slices_symMergeCmpFunc_api_Color (sa1 : Option Addr) (sl1 sc1 : Nat) (x1 : Int) (x2 : Int) (x3 : Int) (va1 : Value) (w : World) (R : Ending → World → Prop) (h : vc_slices_symMergeCmpFunc_api_Color sa1 sl1 sc1 x1 x2 x3 va1 w R) : Calls P F.slices_symMergeCmpFunc_api_Color #[.slice sa1 sl1 sc1, .int .i64 x1, .int .i64 x2, .int .i64 x3, va1] w R :=
  calls_of_vc (fn := Try.f67) (ac := ac_slices_symMergeCmpFunc_api_Color) (args := [.slice sa1 sl1 sc1, .int .i64 x1, .int .i64 x2, .int .i64 x3, va1]) mixed Try.func67 (by kernel_rfl) (cast (by unfold vc_slices_symMergeCmpFunc_api_Color FnVc; kernel_rfl) h)
/-- slices.Chunk[[]uint16,uint16]$1 -/
def vc_slices_Chunk_uint16_fn1 (yl1 : Nat) (fr1 : Addr) (fr2 : Addr) (w : World) (R : Ending → World → Prop) : Prop :=
  ∃ I1 : List Value → World → Prop,
  ∃ m1 : List Value → World → Nat,
  (I1 [Value.int IntKind.i64 0] w) ∧
  ∀ n1 : Int,
  ∀ w1 : World,
  (I1 [Value.int IntKind.i64 n1] w1) →
  ∃ p1 : Option Addr,
  ∃ k1 : Nat,
  ∃ k2 : Nat,
  (w1.cell? fr1 = some (Value.slice p1 k1 k2)) ∧
  brB (decide (n1 < (↑k1 : Int)))
    (∃ n2 : Int,
    (w1.drew.cell? fr2 = some (Value.int IntKind.i64 n2)) ∧
    ∃ p2 : Option Addr,
    ∃ k3 : Nat,
    ∃ k4 : Nat,
    (w1.drew.cell? fr1 = some (Value.slice p2 k3 k4)) ∧
    slcc (p2) (k4) (n1) ((↑k3 : Int)) (1) fun p3 k5 k6 =>
    ∃ p4 : Option Addr,
    ∃ k7 : Nat,
    ∃ k8 : Nat,
    (w1.drew.cell? fr1 = some (Value.slice p4 k7 k8)) ∧
    (0 ≤ IntKind.i64.wrap (n1 + min n2 (↑k5 : Int))) ∧
    (IntKind.i64.wrap (n1 + min n2 (↑k5 : Int)) ≤ (↑k8 : Int)) ∧
    slcc (p4) ((IntKind.i64.wrap (n1 + min n2 (↑k5 : Int))).toNat) (n1) (IntKind.i64.wrap (n1 + min n2 (↑k5 : Int))) (1) fun p5 k9 k10 =>
    YieldAt Fence.wide 0 P (yl1) #[Value.slice p5 k9 k10] (w1.drew) fun e1 w2 =>
    ∃ c1 : Bool,
    (e1 = Ending.returned (Value.bool c1)) ∧
    brB (!c1)
      (R (Ending.returned (Value.tuple #[])) w2)
      (∃ n3 : Int,
      (w2.cell? fr2 = some (Value.int IntKind.i64 n3)) ∧
      (I1 [Value.int IntKind.i64 (IntKind.i64.wrap (n1 + n3))] w2) ∧
      m1 [Value.int IntKind.i64 (IntKind.i64.wrap (n1 + n3))] w2 < m1 [Value.int IntKind.i64 n1] w1))
    (R (Ending.returned (Value.tuple #[])) w1)
theorem calls_slices_Chunk_uint16_fn1 (yl1 : Nat) (fr1 : Addr) (fr2 : Addr) (w : World) (R : Ending → World → Prop) (h : vc_slices_Chunk_uint16_fn1 yl1 fr1 fr2 w R) : Calls P F.slices_Chunk_uint16_fn1 #[.func (.yield yl1) #[] #[], .pointer (some fr1), .pointer (some fr2)] w R :=
  calls_of_vc (fn := Try.f68) (ac := ac_slices_Chunk_uint16_fn1) (args := [.func (.yield yl1) #[] #[], .pointer (some fr1), .pointer (some fr2)]) mixed Try.func68 (by kernel_rfl) (cast (by unfold vc_slices_Chunk_uint16_fn1 FnVc; kernel_rfl) h)
/-- darkroom/grid.fits -/
def vc_grid_fits (x1 : Int) (x2 : Int) (w : World) (R : Ending → World → Prop) : Prop :=
  R (Ending.returned (Value.bool (decide (min x1 x2 ≥ 1) && decide (max x1 x2 ≤ 4096) && decide (IntKind.i64.wrap (x1 * x2) ≤ 65536)))) w
theorem calls_grid_fits (x1 : Int) (x2 : Int) (w : World) (R : Ending → World → Prop) (h : vc_grid_fits x1 x2 w R) : Calls P F.grid_fits #[.int .i64 x1, .int .i64 x2] w R :=
  calls_of_vc (fn := Try.f69) (ac := ac_grid_fits) (args := [.int .i64 x1, .int .i64 x2]) mixed Try.func69 (by kernel_rfl) (cast (by unfold vc_grid_fits FnVc; kernel_rfl) h)
/-- darkroom/darkroomref08.Down -/
def vc_ref08_Down (x1 : Int) (x2 : Int) (w : World) (R : Ending → World → Prop) : Prop :=
  brB (decide (x2 < 1) || decide (x2 > 65535))
    (R (Ending.returned (Value.tuple #[Value.int IntKind.i64 0, Value.int IntKind.i64 2])) w)
    (R (Ending.returned (Value.tuple #[Value.int IntKind.i64 (divZ BinOp.quo IntKind.i64 (IntKind.i64.wrap (IntKind.i64.wrap (IntKind.i64.wrap x1 * x2) + 32767)) 65535), Value.int IntKind.i64 0])) w)
theorem calls_ref08_Down (x1 : Int) (x2 : Int) (w : World) (R : Ending → World → Prop) (h : vc_ref08_Down x1 x2 w R) : Calls P F.ref08_Down #[.int .u16 x1, .int .i64 x2] w R :=
  calls_of_vc (fn := Try.f70) (ac := ac_ref08_Down) (args := [.int .u16 x1, .int .i64 x2]) mixed Try.func70 (by kernel_rfl) (cast (by unfold vc_ref08_Down FnVc; kernel_rfl) h)
/-- darkroom/darkroomref08.Up -/
def vc_ref08_Up (x1 : Int) (x2 : Int) (w : World) (R : Ending → World → Prop) : Prop :=
  brB (decide (x2 < 1) || decide (x2 > 65535) || decide (x1 < 0) || decide (x1 > x2))
    (R (Ending.returned (Value.tuple #[Value.int IntKind.u16 0, Value.int IntKind.i64 2])) w)
    ((x2 ≠ 0) ∧
    R (Ending.returned (Value.tuple #[Value.int IntKind.u16 (IntKind.u16.wrap (divZ BinOp.quo IntKind.i64 (IntKind.i64.wrap (IntKind.i64.wrap (65535 * x1) + divZ BinOp.quo IntKind.i64 x2 2)) x2)), Value.int IntKind.i64 0])) w)
theorem calls_ref08_Up (x1 : Int) (x2 : Int) (w : World) (R : Ending → World → Prop) (h : vc_ref08_Up x1 x2 w R) : Calls P F.ref08_Up #[.int .i64 x1, .int .i64 x2] w R :=
  calls_of_vc (fn := Try.f71) (ac := ac_ref08_Up) (args := [.int .i64 x1, .int .i64 x2]) mixed Try.func71 (by kernel_rfl) (cast (by unfold vc_ref08_Up FnVc; kernel_rfl) h)
/-- slices.rotateCmpFunc[darkroom/api.Color] -/
def vc_slices_rotateCmpFunc_api_Color (sa1 : Option Addr) (sl1 sc1 : Nat) (x1 : Int) (x2 : Int) (x3 : Int) (va1 : Value) (w : World) (R : Ending → World → Prop) : Prop :=
  ∃ I1 : List Value → World → Prop,
  ∃ m1 : List Value → World → Nat,
  (I1 [Value.int IntKind.i64 (IntKind.i64.wrap (x2 - x1)), Value.int IntKind.i64 (IntKind.i64.wrap (x3 - x2))] w) ∧
  ∀ n1 : Int,
  ∀ n2 : Int,
  ∀ w1 : World,
  (I1 [Value.int IntKind.i64 n1, Value.int IntKind.i64 n2] w1) →
  brB (n1 != n2)
    (∃ I2 : List Value → World → Prop,
    (brB (decide (n1 > n2))
        (Calls P F.slices_swapRangeCmpFunc_api_Color #[Value.slice sa1 sl1 sc1, Value.int IntKind.i64 (IntKind.i64.wrap (x2 - n1)), Value.int IntKind.i64 x2, Value.int IntKind.i64 n2, va1] w1 fun e1 w2 =>
        (e1 = Ending.returned (Value.tuple #[])) ∧
        I2 [Value.int IntKind.i64 (IntKind.i64.wrap (n1 - n2)), Value.int IntKind.i64 n2] w2)
        (Calls P F.slices_swapRangeCmpFunc_api_Color #[Value.slice sa1 sl1 sc1, Value.int IntKind.i64 (IntKind.i64.wrap (x2 - n1)), Value.int IntKind.i64 (IntKind.i64.wrap (IntKind.i64.wrap (x2 + n2) - n1)), Value.int IntKind.i64 n1, va1] w1 fun e2 w3 =>
        (e2 = Ending.returned (Value.tuple #[])) ∧
        I2 [Value.int IntKind.i64 n1, Value.int IntKind.i64 (IntKind.i64.wrap (n2 - n1))] w3)) ∧
    ∀ n3 : Int,
    ∀ n4 : Int,
    ∀ w4 : World,
    (I2 [Value.int IntKind.i64 n3, Value.int IntKind.i64 n4] w4) →
    (I1 [Value.int IntKind.i64 n3, Value.int IntKind.i64 n4] w4) ∧
    m1 [Value.int IntKind.i64 n3, Value.int IntKind.i64 n4] w4 < m1 [Value.int IntKind.i64 n1, Value.int IntKind.i64 n2] w1)
    (Calls P F.slices_swapRangeCmpFunc_api_Color #[Value.slice sa1 sl1 sc1, Value.int IntKind.i64 (IntKind.i64.wrap (x2 - n1)), Value.int IntKind.i64 x2, Value.int IntKind.i64 n1, va1] w1 fun e3 w5 =>
    (e3 = Ending.returned (Value.tuple #[])) ∧
    R (Ending.returned (Value.tuple #[])) w5)
theorem calls_slices_rotateCmpFunc_api_Color (sa1 : Option Addr) (sl1 sc1 : Nat) (x1 : Int) (x2 : Int) (x3 : Int) (va1 : Value) (w : World) (R : Ending → World → Prop) (h : vc_slices_rotateCmpFunc_api_Color sa1 sl1 sc1 x1 x2 x3 va1 w R) : Calls P F.slices_rotateCmpFunc_api_Color #[.slice sa1 sl1 sc1, .int .i64 x1, .int .i64 x2, .int .i64 x3, va1] w R :=
  calls_of_vc (fn := Try.f72) (ac := ac_slices_rotateCmpFunc_api_Color) (args := [.slice sa1 sl1 sc1, .int .i64 x1, .int .i64 x2, .int .i64 x3, va1]) mixed Try.func72 (by kernel_rfl) (cast (by unfold vc_slices_rotateCmpFunc_api_Color FnVc; kernel_rfl) h)
/-- slices.swapRangeCmpFunc[darkroom/api.Color] -/
def vc_slices_swapRangeCmpFunc_api_Color (sa1 : Option Addr) (sl1 sc1 : Nat) (x1 : Int) (x2 : Int) (x3 : Int) (va1 : Value) (w : World) (R : Ending → World → Prop) : Prop :=
  ∃ I1 : List Value → World → Prop,
  ∃ m1 : List Value → World → Nat,
  (I1 [Value.int IntKind.i64 0] w) ∧
  ∀ n1 : Int,
  ∀ w1 : World,
  (I1 [Value.int IntKind.i64 n1] w1) →
  brB (decide (n1 < x3))
    (idx (sa1) (sl1) (IntKind.i64.wrap (x2 + n1)) (4) fun a1 =>
    ∃ n2 : Int,
    ∃ n3 : Int,
    ∃ n4 : Int,
    ∃ n5 : Int,
    (w1.drew.cell? a1 = some (Value.int IntKind.u16 n2)) ∧
    (w1.drew.cell? (a1.add 1) = some (Value.int IntKind.u16 n3)) ∧
    (w1.drew.cell? (a1.add 2) = some (Value.int IntKind.u16 n4)) ∧
    (w1.drew.cell? (a1.add 3) = some (Value.int IntKind.u16 n5)) ∧
    idx (sa1) (sl1) (IntKind.i64.wrap (x1 + n1)) (4) fun a2 =>
    ∃ n6 : Int,
    ∃ n7 : Int,
    ∃ n8 : Int,
    ∃ n9 : Int,
    (w1.drew.cell? a2 = some (Value.int IntKind.u16 n6)) ∧
    (w1.drew.cell? (a2.add 1) = some (Value.int IntKind.u16 n7)) ∧
    (w1.drew.cell? (a2.add 2) = some (Value.int IntKind.u16 n8)) ∧
    (w1.drew.cell? (a2.add 3) = some (Value.int IntKind.u16 n9)) ∧
    idx (sa1) (sl1) (IntKind.i64.wrap (x1 + n1)) (4) fun a3 =>
    (∃ v1 : Value,
      w1.drew.cell? a3 = some v1) ∧
    (w1.drew.frozen? a3 = false) ∧
    (∃ v2 : Value,
      w1.drew.cell? (a3.add 1) = some v2) ∧
    (w1.drew.frozen? (a3.add 1) = false) ∧
    (∃ v3 : Value,
      w1.drew.cell? (a3.add 2) = some v3) ∧
    (w1.drew.frozen? (a3.add 2) = false) ∧
    (∃ v4 : Value,
      w1.drew.cell? (a3.add 3) = some v4) ∧
    (w1.drew.frozen? (a3.add 3) = false) ∧
    idx (sa1) (sl1) (IntKind.i64.wrap (x2 + n1)) (4) fun a4 =>
    (∃ v5 : Value,
      (setCells w1.drew a3 [Value.int IntKind.u16 n2, Value.int IntKind.u16 n3, Value.int IntKind.u16 n4, Value.int IntKind.u16 n5] 0).cell? a4 = some v5) ∧
    ((setCells w1.drew a3 [Value.int IntKind.u16 n2, Value.int IntKind.u16 n3, Value.int IntKind.u16 n4, Value.int IntKind.u16 n5] 0).frozen? a4 = false) ∧
    (∃ v6 : Value,
      (setCells w1.drew a3 [Value.int IntKind.u16 n2, Value.int IntKind.u16 n3, Value.int IntKind.u16 n4, Value.int IntKind.u16 n5] 0).cell? (a4.add 1) = some v6) ∧
    ((setCells w1.drew a3 [Value.int IntKind.u16 n2, Value.int IntKind.u16 n3, Value.int IntKind.u16 n4, Value.int IntKind.u16 n5] 0).frozen? (a4.add 1) = false) ∧
    (∃ v7 : Value,
      (setCells w1.drew a3 [Value.int IntKind.u16 n2, Value.int IntKind.u16 n3, Value.int IntKind.u16 n4, Value.int IntKind.u16 n5] 0).cell? (a4.add 2) = some v7) ∧
    ((setCells w1.drew a3 [Value.int IntKind.u16 n2, Value.int IntKind.u16 n3, Value.int IntKind.u16 n4, Value.int IntKind.u16 n5] 0).frozen? (a4.add 2) = false) ∧
    (∃ v8 : Value,
      (setCells w1.drew a3 [Value.int IntKind.u16 n2, Value.int IntKind.u16 n3, Value.int IntKind.u16 n4, Value.int IntKind.u16 n5] 0).cell? (a4.add 3) = some v8) ∧
    ((setCells w1.drew a3 [Value.int IntKind.u16 n2, Value.int IntKind.u16 n3, Value.int IntKind.u16 n4, Value.int IntKind.u16 n5] 0).frozen? (a4.add 3) = false) ∧
    (I1 [Value.int IntKind.i64 (IntKind.i64.wrap (n1 + 1))] (setCells (setCells w1.drew a3 [Value.int IntKind.u16 n2, Value.int IntKind.u16 n3, Value.int IntKind.u16 n4, Value.int IntKind.u16 n5] 0) a4 [Value.int IntKind.u16 n6, Value.int IntKind.u16 n7, Value.int IntKind.u16 n8, Value.int IntKind.u16 n9] 0)) ∧
    m1 [Value.int IntKind.i64 (IntKind.i64.wrap (n1 + 1))] (setCells (setCells w1.drew a3 [Value.int IntKind.u16 n2, Value.int IntKind.u16 n3, Value.int IntKind.u16 n4, Value.int IntKind.u16 n5] 0) a4 [Value.int IntKind.u16 n6, Value.int IntKind.u16 n7, Value.int IntKind.u16 n8, Value.int IntKind.u16 n9] 0) < m1 [Value.int IntKind.i64 n1] w1)
    (R (Ending.returned (Value.tuple #[])) w1)
theorem calls_slices_swapRangeCmpFunc_api_Color (sa1 : Option Addr) (sl1 sc1 : Nat) (x1 : Int) (x2 : Int) (x3 : Int) (va1 : Value) (w : World) (R : Ending → World → Prop) (h : vc_slices_swapRangeCmpFunc_api_Color sa1 sl1 sc1 x1 x2 x3 va1 w R) : Calls P F.slices_swapRangeCmpFunc_api_Color #[.slice sa1 sl1 sc1, .int .i64 x1, .int .i64 x2, .int .i64 x3, va1] w R :=
  calls_of_vc (fn := Try.f73) (ac := ac_slices_swapRangeCmpFunc_api_Color) (args := [.slice sa1 sl1 sc1, .int .i64 x1, .int .i64 x2, .int .i64 x3, va1]) mixed Try.func73 (by kernel_rfl) (cast (by unfold vc_slices_swapRangeCmpFunc_api_Color FnVc; kernel_rfl) h)
end Go.Proofs.Ytijplekhbpigiaa
