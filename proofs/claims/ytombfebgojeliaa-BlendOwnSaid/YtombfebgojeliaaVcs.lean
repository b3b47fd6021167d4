/- For each function the condition that its code asks, written out (by a program of ours), and the theorem that it suffices: the kernel holds both against the code. -/
import Derived.Test.YtombfebgojeliaaFns
namespace Go.Proofs.Ytombfebgojeliaa
open Go Go.Vc
set_option maxRecDepth 100000
set_option linter.unusedVariables false
/-- darkroom/darkroomlaw23.BlendChecks -/
def vc_law23_BlendChecks (st1 : ByteArray) (sa1 : Option Addr) (sl1 sc1 : Nat) (x1 : Int) (x2 : Int) (x3 : Int) (x4 : Int) (w : World) (R : Ending → World → Prop) : Prop :=
  ∀ k1 : Nat,
  (w.heap.size ≤ k1) →
  ∀ w1 : World,
  (Locl ([k1]) w w1) →
  ∀ k2 : Nat,
  ∀ w2 : World,
  (New w1 (Obj.cells #[Value.int IntKind.i64 x1, Value.int IntKind.i64 x2, Value.int IntKind.i64 x3, Value.int IntKind.i64 x4] 25) k2 w2) →
  Calls P F.law23_wakes #[] w2 fun e1 w3 =>
  ∃ c1 : Bool,
  (e1 = Ending.returned (Value.bool c1)) ∧
  (Keep ([k1]) w2 w3) ∧
  brB (!c1)
    (R (Ending.returned (Value.bool false)) w3)
    (Calls P F.blend_Names #[] w3 fun e2 w4 =>
    ∃ p1 : Option Addr,
    ∃ k3 : Nat,
    ∃ k4 : Nat,
    (e2 = Ending.returned (Value.slice p1 k3 k4)) ∧
    (Keep ([k1]) w3 w4) ∧
    Calls P F.ref23_Names #[] w4 fun e3 w5 =>
    ∃ p2 : Option Addr,
    ∃ k5 : Nat,
    ∃ k6 : Nat,
    (e3 = Ending.returned (Value.slice p2 k5 k6)) ∧
    (Keep ([k1]) w4 w5) ∧
    ∃ I1 : List Value → World → Prop,
    ∃ m1 : List Value → World → Nat,
    (I1 [Value.int IntKind.i64 0] w5) ∧
    ∀ n1 : Int,
    ∀ w6 : World,
    (I1 [Value.int IntKind.i64 n1] w6) →
    brB (decide (n1 < (↑k5 : Int)))
      (brB (decide (n1 ≥ (↑k3 : Int)))
        (R (Ending.returned (Value.bool false)) w6.drew)
        (idx (p1) (k3) (n1) (1) fun a1 =>
        ∃ s1 : ByteArray,
        (w6.drew.cell? a1 = some (Value.string s1)) ∧
        idx (p2) (k5) (n1) (1) fun a2 =>
        ∃ s2 : ByteArray,
        (w6.drew.cell? a2 = some (Value.string s2)) ∧
        brB (!decide (s1 = s2))
          (R (Ending.returned (Value.bool false)) w6.drew)
          ((I1 [Value.int IntKind.i64 (IntKind.i64.wrap (n1 + 1))] w6.drew) ∧
          m1 [Value.int IntKind.i64 (IntKind.i64.wrap (n1 + 1))] w6.drew < m1 [Value.int IntKind.i64 n1] w6)))
      (((0 : Int) ≤ 0) ∧
      ((0 : Int) < 4) ∧
      ∃ n2 : Int,
      (w6.drew.cell? { block := k2, off := 0 } = some (Value.int IntKind.i64 n2)) ∧
      ((0 : Int) ≤ 1) ∧
      ((1 : Int) < 4) ∧
      ∃ n3 : Int,
      (w6.drew.cell? { block := k2, off := 1 } = some (Value.int IntKind.i64 n3)) ∧
      ((0 : Int) ≤ 2) ∧
      ((2 : Int) < 4) ∧
      ∃ n4 : Int,
      (w6.drew.cell? { block := k2, off := 2 } = some (Value.int IntKind.i64 n4)) ∧
      ((0 : Int) ≤ 3) ∧
      ((3 : Int) < 4) ∧
      ∃ n5 : Int,
      (w6.drew.cell? { block := k2, off := 3 } = some (Value.int IntKind.i64 n5)) ∧
      Calls P F.law23_ints #[Value.slice sa1 sl1 sc1] (w6.drew) fun e4 w7 =>
      ∃ p3 : Option Addr,
      ∃ k7 : Nat,
      ∃ k8 : Nat,
      (e4 = Ending.returned (Value.slice p3 k7 k8)) ∧
      (Keep ([k1]) (w6.drew) w7) ∧
      (Keeps (w6.drew) w7) ∧
      Calls P F.blend_Size #[Value.string st1, Value.slice p3 k7 k8, Value.int IntKind.i64 n2, Value.int IntKind.i64 n3, Value.int IntKind.i64 n4, Value.int IntKind.i64 n5] w7 fun e5 w8 =>
      ∃ n6 : Int,
      ∃ n7 : Int,
      ∃ n8 : Int,
      (e5 = Ending.returned (Value.tuple #[Value.int IntKind.i64 n6, Value.int IntKind.i64 n7, Value.int IntKind.i64 n8])) ∧
      (Keep ([k1]) w7 w8) ∧
      ((0 : Int) ≤ 0) ∧
      ((0 : Int) < 4) ∧
      ∃ n9 : Int,
      (w8.cell? { block := k2, off := 0 } = some (Value.int IntKind.i64 n9)) ∧
      ((0 : Int) ≤ 1) ∧
      ((1 : Int) < 4) ∧
      ∃ n10 : Int,
      (w8.cell? { block := k2, off := 1 } = some (Value.int IntKind.i64 n10)) ∧
      ((0 : Int) ≤ 2) ∧
      ((2 : Int) < 4) ∧
      ∃ n11 : Int,
      (w8.cell? { block := k2, off := 2 } = some (Value.int IntKind.i64 n11)) ∧
      ((0 : Int) ≤ 3) ∧
      ((3 : Int) < 4) ∧
      ∃ n12 : Int,
      (w8.cell? { block := k2, off := 3 } = some (Value.int IntKind.i64 n12)) ∧
      Calls P F.ref23_Size #[Value.string st1, Value.slice sa1 sl1 sc1, Value.int IntKind.i64 n9, Value.int IntKind.i64 n10, Value.int IntKind.i64 n11, Value.int IntKind.i64 n12] w8 fun e6 w9 =>
      ∃ n13 : Int,
      ∃ n14 : Int,
      ∃ n15 : Int,
      (e6 = Ending.returned (Value.tuple #[Value.int IntKind.i64 n13, Value.int IntKind.i64 n14, Value.int IntKind.i64 n15])) ∧
      (Keep ([k1]) w8 w9) ∧
      brB ((↑k3 : Int) == (↑k5 : Int))
        (Calls P F.law23_ints #[Value.slice sa1 sl1 sc1] (w9.drew) fun e7 w10 =>
        ∃ p4 : Option Addr,
        ∃ k9 : Nat,
        ∃ k10 : Nat,
        (e7 = Ending.returned (Value.slice p4 k9 k10)) ∧
        (Keep ([k1]) (w9.drew) w10) ∧
        (Keeps (w9.drew) w10) ∧
        Calls P F.blend_Check #[Value.string st1, Value.slice p4 k9 k10] w10 fun e8 w11 =>
        ∃ n16 : Int,
        (e8 = Ending.returned (Value.int IntKind.i64 n16)) ∧
        (Keep ([k1]) w10 w11) ∧
        (Keeps w10 w11) ∧
        Calls P F.ref23_Check #[Value.string st1, Value.slice sa1 sl1 sc1] w11 fun e9 w12 =>
        ∃ n17 : Int,
        (e9 = Ending.returned (Value.int IntKind.i64 n17)) ∧
        (Keep ([k1]) w11 w12) ∧
        R (Ending.returned (Value.bool (n16 == n17 && n6 == n13 && n7 == n14 && n8 == n15))) w12)
        (R (Ending.returned (Value.bool false)) w9.drew)))
theorem calls_law23_BlendChecks (st1 : ByteArray) (sa1 : Option Addr) (sl1 sc1 : Nat) (x1 : Int) (x2 : Int) (x3 : Int) (x4 : Int) (w : World) (R : Ending → World → Prop) (h : vc_law23_BlendChecks st1 sa1 sl1 sc1 x1 x2 x3 x4 w R) : Calls P F.law23_BlendChecks #[.agg #[.string st1, .slice sa1 sl1 sc1], .agg #[.int .i64 x1, .int .i64 x2, .int .i64 x3, .int .i64 x4]] w R :=
  calls_of_vc (fn := Try.f3) (ac := ac_law23_BlendChecks) (args := [.agg #[.string st1, .slice sa1 sl1 sc1], .agg #[.int .i64 x1, .int .i64 x2, .int .i64 x3, .int .i64 x4]]) mixed Try.func3 (by kernel_rfl) (cast (by unfold vc_law23_BlendChecks FnVc; kernel_rfl) h)
/-- darkroom/darkroomlaw23.BlendApplies -/
def vc_law23_BlendApplies (st1 : ByteArray) (sa1 : Option Addr) (sl1 sc1 : Nat) (x1 : Int) (x2 : Int) (sa2 : Option Addr) (sl2 sc2 : Nat) (x3 : Int) (x4 : Int) (sa3 : Option Addr) (sl3 sc3 : Nat) (w : World) (R : Ending → World → Prop) : Prop :=
  ∀ k1 : Nat,
  (w.heap.size ≤ k1) →
  ∀ k2 : Nat,
  (w.heap.size ≤ k2) →
  ∀ k3 : Nat,
  (w.heap.size ≤ k3) →
  ∀ w1 : World,
  (Locl ([k3, k2, k1]) w w1) →
  Calls P F.law23_wakes #[] w1 fun e1 w2 =>
  ∃ c1 : Bool,
  (e1 = Ending.returned (Value.bool c1)) ∧
  (Keep ([k3, k2, k1]) w1 w2) ∧
  brB (!c1)
    (R (Ending.returned (Value.bool false)) w2)
    (∃ I1 : List Value → World → Prop,
    ((Calls P F.law23_ints #[Value.slice sa1 sl1 sc1] (w2.drew) fun e2 w3 =>
        ∃ p1 : Option Addr,
        ∃ k4 : Nat,
        ∃ k5 : Nat,
        (e2 = Ending.returned (Value.slice p1 k4 k5)) ∧
        (Keep ([k3, k2, k1]) (w2.drew) w3) ∧
        (Keeps (w2.drew) w3) ∧
        (Calls P F.law23_own #[Value.agg #[Value.int IntKind.i64 x1, Value.int IntKind.i64 x2, Value.slice sa2 sl2 sc2]] w3 fun e3 w4 =>
          ∃ n1 : Int,
          ∃ n2 : Int,
          ∃ p2 : Option Addr,
          ∃ k6 : Nat,
          ∃ k7 : Nat,
          (e3 = Ending.returned (Value.agg #[Value.int IntKind.i64 n1, Value.int IntKind.i64 n2, Value.slice p2 k6 k7])) ∧
          (Keep ([k3, k2, k1]) w3 w4) ∧
          (Keeps w3 w4) ∧
          (Calls P F.law23_own #[Value.agg #[Value.int IntKind.i64 x3, Value.int IntKind.i64 x4, Value.slice sa3 sl3 sc3]] w4 fun e4 w5 =>
            ∃ n3 : Int,
            ∃ n4 : Int,
            ∃ p3 : Option Addr,
            ∃ k8 : Nat,
            ∃ k9 : Nat,
            (e4 = Ending.returned (Value.agg #[Value.int IntKind.i64 n3, Value.int IntKind.i64 n4, Value.slice p3 k8 k9])) ∧
            (Keep ([k3, k2, k1]) w4 w5) ∧
            (Keeps w4 w5) ∧
            (Calls P F.blend_Apply #[Value.string st1, Value.slice p1 k4 k5, Value.agg #[Value.int IntKind.i64 n1, Value.int IntKind.i64 n2, Value.slice p2 k6 k7], Value.agg #[Value.int IntKind.i64 n3, Value.int IntKind.i64 n4, Value.slice p3 k8 k9]] w5 fun e5 w6 =>
              ∃ n5 : Int,
              ∃ n6 : Int,
              ∃ p4 : Option Addr,
              ∃ k10 : Nat,
              ∃ k11 : Nat,
              ∃ n7 : Int,
              (e5 = Ending.returned (Value.tuple #[Value.agg #[Value.int IntKind.i64 n5, Value.int IntKind.i64 n6, Value.slice p4 k10 k11], Value.int IntKind.i64 n7])) ∧
              (Keep ([k3, k2, k1]) w5 w6) ∧
              ∀ k12 : Nat,
              (w6.heap.size ≤ k12) →
              ∀ w7 : World,
              (Locl ([k12, k3, k2, k1]) w6 w7) →
              I1 [Value.int IntKind.i64 n7, Value.pointer (some { block := k12, off := 0 }), Value.int IntKind.i64 n5, Value.int IntKind.i64 n6, Value.slice p4 k10 k11] w7) ∧
            ∀ k13 : Nat,
            (w5.heap.size ≤ k13) →
            ∀ w8 : World,
            (Locl ([k13, k3, k2, k1]) w5 w8) →
            Calls P F.blend_Apply #[Value.string st1, Value.slice p1 k4 k5, Value.agg #[Value.int IntKind.i64 n1, Value.int IntKind.i64 n2, Value.slice p2 k6 k7], Value.agg #[Value.int IntKind.i64 n3, Value.int IntKind.i64 n4, Value.slice p3 k8 k9]] w8 fun e6 w9 =>
            ∃ n8 : Int,
            ∃ n9 : Int,
            ∃ p5 : Option Addr,
            ∃ k14 : Nat,
            ∃ k15 : Nat,
            ∃ n10 : Int,
            (e6 = Ending.returned (Value.tuple #[Value.agg #[Value.int IntKind.i64 n8, Value.int IntKind.i64 n9, Value.slice p5 k14 k15], Value.int IntKind.i64 n10])) ∧
            (Keep ([k13, k3, k2, k1]) w8 w9) ∧
            ∀ w10 : World,
            (Locl ([k13, k3, k2, k1]) w9 w10) →
            I1 [Value.int IntKind.i64 n10, Value.pointer (some { block := k13, off := 0 }), Value.int IntKind.i64 n8, Value.int IntKind.i64 n9, Value.slice p5 k14 k15] w10) ∧
          ∀ k16 : Nat,
          (w4.heap.size ≤ k16) →
          ∀ w11 : World,
          (Locl ([k16, k3, k2, k1]) w4 w11) →
          Calls P F.law23_own #[Value.agg #[Value.int IntKind.i64 x3, Value.int IntKind.i64 x4, Value.slice sa3 sl3 sc3]] w11 fun e7 w12 =>
          ∃ n11 : Int,
          ∃ n12 : Int,
          ∃ p6 : Option Addr,
          ∃ k17 : Nat,
          ∃ k18 : Nat,
          (e7 = Ending.returned (Value.agg #[Value.int IntKind.i64 n11, Value.int IntKind.i64 n12, Value.slice p6 k17 k18])) ∧
          (Keep ([k16, k3, k2, k1]) w11 w12) ∧
          (Keeps w11 w12) ∧
          Calls P F.blend_Apply #[Value.string st1, Value.slice p1 k4 k5, Value.agg #[Value.int IntKind.i64 n1, Value.int IntKind.i64 n2, Value.slice p2 k6 k7], Value.agg #[Value.int IntKind.i64 n11, Value.int IntKind.i64 n12, Value.slice p6 k17 k18]] w12 fun e8 w13 =>
          ∃ n13 : Int,
          ∃ n14 : Int,
          ∃ p7 : Option Addr,
          ∃ k19 : Nat,
          ∃ k20 : Nat,
          ∃ n15 : Int,
          (e8 = Ending.returned (Value.tuple #[Value.agg #[Value.int IntKind.i64 n13, Value.int IntKind.i64 n14, Value.slice p7 k19 k20], Value.int IntKind.i64 n15])) ∧
          (Keep ([k16, k3, k2, k1]) w12 w13) ∧
          ∀ w14 : World,
          (Locl ([k16, k3, k2, k1]) w13 w14) →
          I1 [Value.int IntKind.i64 n15, Value.pointer (some { block := k16, off := 0 }), Value.int IntKind.i64 n13, Value.int IntKind.i64 n14, Value.slice p7 k19 k20] w14) ∧
        ∀ k21 : Nat,
        (w3.heap.size ≤ k21) →
        ∀ w15 : World,
        (Locl ([k21, k3, k2, k1]) w3 w15) →
        Calls P F.law23_own #[Value.agg #[Value.int IntKind.i64 x1, Value.int IntKind.i64 x2, Value.slice sa2 sl2 sc2]] w15 fun e9 w16 =>
        ∃ n16 : Int,
        ∃ n17 : Int,
        ∃ p8 : Option Addr,
        ∃ k22 : Nat,
        ∃ k23 : Nat,
        (e9 = Ending.returned (Value.agg #[Value.int IntKind.i64 n16, Value.int IntKind.i64 n17, Value.slice p8 k22 k23])) ∧
        (Keep ([k21, k3, k2, k1]) w15 w16) ∧
        (Keeps w15 w16) ∧
        Calls P F.law23_own #[Value.agg #[Value.int IntKind.i64 x3, Value.int IntKind.i64 x4, Value.slice sa3 sl3 sc3]] w16 fun e10 w17 =>
        ∃ n18 : Int,
        ∃ n19 : Int,
        ∃ p9 : Option Addr,
        ∃ k24 : Nat,
        ∃ k25 : Nat,
        (e10 = Ending.returned (Value.agg #[Value.int IntKind.i64 n18, Value.int IntKind.i64 n19, Value.slice p9 k24 k25])) ∧
        (Keep ([k21, k3, k2, k1]) w16 w17) ∧
        (Keeps w16 w17) ∧
        Calls P F.blend_Apply #[Value.string st1, Value.slice p1 k4 k5, Value.agg #[Value.int IntKind.i64 n16, Value.int IntKind.i64 n17, Value.slice p8 k22 k23], Value.agg #[Value.int IntKind.i64 n18, Value.int IntKind.i64 n19, Value.slice p9 k24 k25]] w17 fun e11 w18 =>
        ∃ n20 : Int,
        ∃ n21 : Int,
        ∃ p10 : Option Addr,
        ∃ k26 : Nat,
        ∃ k27 : Nat,
        ∃ n22 : Int,
        (e11 = Ending.returned (Value.tuple #[Value.agg #[Value.int IntKind.i64 n20, Value.int IntKind.i64 n21, Value.slice p10 k26 k27], Value.int IntKind.i64 n22])) ∧
        (Keep ([k21, k3, k2, k1]) w17 w18) ∧
        ∀ w19 : World,
        (Locl ([k21, k3, k2, k1]) w18 w19) →
        I1 [Value.int IntKind.i64 n22, Value.pointer (some { block := k21, off := 0 }), Value.int IntKind.i64 n20, Value.int IntKind.i64 n21, Value.slice p10 k26 k27] w19) ∧
      ∀ k28 : Nat,
      (w2.drew.heap.size ≤ k28) →
      ∀ w20 : World,
      (Locl ([k28, k3, k2, k1]) (w2.drew) w20) →
      Calls P F.law23_ints #[Value.slice sa1 sl1 sc1] w20 fun e12 w21 =>
      ∃ p11 : Option Addr,
      ∃ k29 : Nat,
      ∃ k30 : Nat,
      (e12 = Ending.returned (Value.slice p11 k29 k30)) ∧
      (Keep ([k28, k3, k2, k1]) w20 w21) ∧
      (Keeps w20 w21) ∧
      Calls P F.law23_own #[Value.agg #[Value.int IntKind.i64 x1, Value.int IntKind.i64 x2, Value.slice sa2 sl2 sc2]] w21 fun e13 w22 =>
      ∃ n23 : Int,
      ∃ n24 : Int,
      ∃ p12 : Option Addr,
      ∃ k31 : Nat,
      ∃ k32 : Nat,
      (e13 = Ending.returned (Value.agg #[Value.int IntKind.i64 n23, Value.int IntKind.i64 n24, Value.slice p12 k31 k32])) ∧
      (Keep ([k28, k3, k2, k1]) w21 w22) ∧
      (Keeps w21 w22) ∧
      Calls P F.law23_own #[Value.agg #[Value.int IntKind.i64 x3, Value.int IntKind.i64 x4, Value.slice sa3 sl3 sc3]] w22 fun e14 w23 =>
      ∃ n25 : Int,
      ∃ n26 : Int,
      ∃ p13 : Option Addr,
      ∃ k33 : Nat,
      ∃ k34 : Nat,
      (e14 = Ending.returned (Value.agg #[Value.int IntKind.i64 n25, Value.int IntKind.i64 n26, Value.slice p13 k33 k34])) ∧
      (Keep ([k28, k3, k2, k1]) w22 w23) ∧
      (Keeps w22 w23) ∧
      Calls P F.blend_Apply #[Value.string st1, Value.slice p11 k29 k30, Value.agg #[Value.int IntKind.i64 n23, Value.int IntKind.i64 n24, Value.slice p12 k31 k32], Value.agg #[Value.int IntKind.i64 n25, Value.int IntKind.i64 n26, Value.slice p13 k33 k34]] w23 fun e15 w24 =>
      ∃ n27 : Int,
      ∃ n28 : Int,
      ∃ p14 : Option Addr,
      ∃ k35 : Nat,
      ∃ k36 : Nat,
      ∃ n29 : Int,
      (e15 = Ending.returned (Value.tuple #[Value.agg #[Value.int IntKind.i64 n27, Value.int IntKind.i64 n28, Value.slice p14 k35 k36], Value.int IntKind.i64 n29])) ∧
      (Keep ([k28, k3, k2, k1]) w23 w24) ∧
      ∀ w25 : World,
      (Locl ([k28, k3, k2, k1]) w24 w25) →
      I1 [Value.int IntKind.i64 n29, Value.pointer (some { block := k28, off := 0 }), Value.int IntKind.i64 n27, Value.int IntKind.i64 n28, Value.slice p14 k35 k36] w25) ∧
    ∀ n30 : Int,
    ∀ k37 : Nat,
    ∀ n31 : Int,
    ∀ n32 : Int,
    ∀ p15 : Option Addr,
    ∀ k38 : Nat,
    ∀ k39 : Nat,
    ∀ w26 : World,
    (I1 [Value.int IntKind.i64 n30, Value.pointer (some { block := k37, off := 0 }), Value.int IntKind.i64 n31, Value.int IntKind.i64 n32, Value.slice p15 k38 k39] w26) →
    Calls P F.ref23_Apply #[Value.string st1, Value.slice sa1 sl1 sc1, Value.agg #[Value.int IntKind.i64 x1, Value.int IntKind.i64 x2, Value.slice sa2 sl2 sc2], Value.agg #[Value.int IntKind.i64 x3, Value.int IntKind.i64 x4, Value.slice sa3 sl3 sc3]] w26 fun e16 w27 =>
    ∃ n33 : Int,
    ∃ n34 : Int,
    ∃ p16 : Option Addr,
    ∃ k40 : Nat,
    ∃ k41 : Nat,
    ∃ n35 : Int,
    (e16 = Ending.returned (Value.tuple #[Value.agg #[Value.int IntKind.i64 n33, Value.int IntKind.i64 n34, Value.slice p16 k40 k41], Value.int IntKind.i64 n35])) ∧
    (Keep ([k37, k3, k2, k1]) w26 w27) ∧
    ∀ k42 : Nat,
    (w27.heap.size ≤ k42) →
    ∀ w28 : World,
    (Locl ([k42, k37, k3, k2, k1]) w27 w28) →
    Calls P F.ref09_Same #[Value.agg #[Value.int IntKind.i64 n31, Value.int IntKind.i64 n32, Value.slice p15 k38 k39], Value.agg #[Value.int IntKind.i64 n33, Value.int IntKind.i64 n34, Value.slice p16 k40 k41]] w28 fun e17 w29 =>
    ∃ c2 : Bool,
    (e17 = Ending.returned (Value.bool c2)) ∧
    (Keep ([k42, k37, k3, k2, k1]) w28 w29) ∧
    R (Ending.returned (Value.bool (c2 && n30 == n35))) w29)
theorem calls_law23_BlendApplies (st1 : ByteArray) (sa1 : Option Addr) (sl1 sc1 : Nat) (x1 : Int) (x2 : Int) (sa2 : Option Addr) (sl2 sc2 : Nat) (x3 : Int) (x4 : Int) (sa3 : Option Addr) (sl3 sc3 : Nat) (w : World) (R : Ending → World → Prop) (h : vc_law23_BlendApplies st1 sa1 sl1 sc1 x1 x2 sa2 sl2 sc2 x3 x4 sa3 sl3 sc3 w R) : Calls P F.law23_BlendApplies #[.agg #[.string st1, .slice sa1 sl1 sc1], .agg #[.int .i64 x1, .int .i64 x2, .slice sa2 sl2 sc2], .agg #[.int .i64 x3, .int .i64 x4, .slice sa3 sl3 sc3]] w R :=
  calls_of_vc (fn := Try.f4) (ac := ac_law23_BlendApplies) (args := [.agg #[.string st1, .slice sa1 sl1 sc1], .agg #[.int .i64 x1, .int .i64 x2, .slice sa2 sl2 sc2], .agg #[.int .i64 x3, .int .i64 x4, .slice sa3 sl3 sc3]]) mixed Try.func4 (by kernel_rfl) (cast (by unfold vc_law23_BlendApplies FnVc; kernel_rfl) h)
/-- darkroom/darkroomlaw23.BlendJoins -/
def vc_law23_BlendJoins (x1 : Int) (x2 : Int) (sa1 : Option Addr) (sl1 sc1 : Nat) (x3 : Int) (x4 : Int) (sa2 : Option Addr) (sl2 sc2 : Nat) (w : World) (R : Ending → World → Prop) : Prop :=
  ∀ k1 : Nat,
  (w.heap.size ≤ k1) →
  ∀ k2 : Nat,
  (w.heap.size ≤ k2) →
  ∀ w1 : World,
  (Locl ([k2, k1]) w w1) →
  Calls P F.law23_wakes #[] w1 fun e1 w2 =>
  ∃ c1 : Bool,
  (e1 = Ending.returned (Value.bool c1)) ∧
  (Keep ([k2, k1]) w1 w2) ∧
  brB (!c1)
    (R (Ending.returned (Value.bool false)) w2)
    (∃ I1 : List Value → World → Prop,
    ((Calls P F.law23_own #[Value.agg #[Value.int IntKind.i64 x1, Value.int IntKind.i64 x2, Value.slice sa1 sl1 sc1]] (w2.drew) fun e2 w3 =>
        ∃ n1 : Int,
        ∃ n2 : Int,
        ∃ p1 : Option Addr,
        ∃ k3 : Nat,
        ∃ k4 : Nat,
        (e2 = Ending.returned (Value.agg #[Value.int IntKind.i64 n1, Value.int IntKind.i64 n2, Value.slice p1 k3 k4])) ∧
        (Keep ([k2, k1]) (w2.drew) w3) ∧
        (Keeps (w2.drew) w3) ∧
        (Calls P F.law23_own #[Value.agg #[Value.int IntKind.i64 x3, Value.int IntKind.i64 x4, Value.slice sa2 sl2 sc2]] w3 fun e3 w4 =>
          ∃ n3 : Int,
          ∃ n4 : Int,
          ∃ p2 : Option Addr,
          ∃ k5 : Nat,
          ∃ k6 : Nat,
          (e3 = Ending.returned (Value.agg #[Value.int IntKind.i64 n3, Value.int IntKind.i64 n4, Value.slice p2 k5 k6])) ∧
          (Keep ([k2, k1]) w3 w4) ∧
          (Calls P F.blend_Apply #[Value.string { data := #[98, 101, 115, 105, 100, 101] }, Value.slice none 0 0, Value.agg #[Value.int IntKind.i64 n1, Value.int IntKind.i64 n2, Value.slice p1 k3 k4], Value.agg #[Value.int IntKind.i64 n3, Value.int IntKind.i64 n4, Value.slice p2 k5 k6]] w4 fun e4 w5 =>
            ∃ n5 : Int,
            ∃ n6 : Int,
            ∃ p3 : Option Addr,
            ∃ k7 : Nat,
            ∃ k8 : Nat,
            ∃ n7 : Int,
            (e4 = Ending.returned (Value.tuple #[Value.agg #[Value.int IntKind.i64 n5, Value.int IntKind.i64 n6, Value.slice p3 k7 k8], Value.int IntKind.i64 n7])) ∧
            (Keep ([k2, k1]) w4 w5) ∧
            ∀ k9 : Nat,
            (w5.heap.size ≤ k9) →
            ∀ w6 : World,
            (Locl ([k9, k2, k1]) w5 w6) →
            I1 [Value.int IntKind.i64 n7, Value.pointer (some { block := k9, off := 0 }), Value.int IntKind.i64 n5, Value.int IntKind.i64 n6, Value.slice p3 k7 k8] w6) ∧
          ∀ k10 : Nat,
          (w4.heap.size ≤ k10) →
          ∀ w7 : World,
          (Locl ([k10, k2, k1]) w4 w7) →
          Calls P F.blend_Apply #[Value.string { data := #[98, 101, 115, 105, 100, 101] }, Value.slice none 0 0, Value.agg #[Value.int IntKind.i64 n1, Value.int IntKind.i64 n2, Value.slice p1 k3 k4], Value.agg #[Value.int IntKind.i64 n3, Value.int IntKind.i64 n4, Value.slice p2 k5 k6]] w7 fun e5 w8 =>
          ∃ n8 : Int,
          ∃ n9 : Int,
          ∃ p4 : Option Addr,
          ∃ k11 : Nat,
          ∃ k12 : Nat,
          ∃ n10 : Int,
          (e5 = Ending.returned (Value.tuple #[Value.agg #[Value.int IntKind.i64 n8, Value.int IntKind.i64 n9, Value.slice p4 k11 k12], Value.int IntKind.i64 n10])) ∧
          (Keep ([k10, k2, k1]) w7 w8) ∧
          ∀ w9 : World,
          (Locl ([k10, k2, k1]) w8 w9) →
          I1 [Value.int IntKind.i64 n10, Value.pointer (some { block := k10, off := 0 }), Value.int IntKind.i64 n8, Value.int IntKind.i64 n9, Value.slice p4 k11 k12] w9) ∧
        ∀ k13 : Nat,
        (w3.heap.size ≤ k13) →
        ∀ w10 : World,
        (Locl ([k13, k2, k1]) w3 w10) →
        Calls P F.law23_own #[Value.agg #[Value.int IntKind.i64 x3, Value.int IntKind.i64 x4, Value.slice sa2 sl2 sc2]] w10 fun e6 w11 =>
        ∃ n11 : Int,
        ∃ n12 : Int,
        ∃ p5 : Option Addr,
        ∃ k14 : Nat,
        ∃ k15 : Nat,
        (e6 = Ending.returned (Value.agg #[Value.int IntKind.i64 n11, Value.int IntKind.i64 n12, Value.slice p5 k14 k15])) ∧
        (Keep ([k13, k2, k1]) w10 w11) ∧
        Calls P F.blend_Apply #[Value.string { data := #[98, 101, 115, 105, 100, 101] }, Value.slice none 0 0, Value.agg #[Value.int IntKind.i64 n1, Value.int IntKind.i64 n2, Value.slice p1 k3 k4], Value.agg #[Value.int IntKind.i64 n11, Value.int IntKind.i64 n12, Value.slice p5 k14 k15]] w11 fun e7 w12 =>
        ∃ n13 : Int,
        ∃ n14 : Int,
        ∃ p6 : Option Addr,
        ∃ k16 : Nat,
        ∃ k17 : Nat,
        ∃ n15 : Int,
        (e7 = Ending.returned (Value.tuple #[Value.agg #[Value.int IntKind.i64 n13, Value.int IntKind.i64 n14, Value.slice p6 k16 k17], Value.int IntKind.i64 n15])) ∧
        (Keep ([k13, k2, k1]) w11 w12) ∧
        ∀ w13 : World,
        (Locl ([k13, k2, k1]) w12 w13) →
        I1 [Value.int IntKind.i64 n15, Value.pointer (some { block := k13, off := 0 }), Value.int IntKind.i64 n13, Value.int IntKind.i64 n14, Value.slice p6 k16 k17] w13) ∧
      ∀ k18 : Nat,
      (w2.drew.heap.size ≤ k18) →
      ∀ w14 : World,
      (Locl ([k18, k2, k1]) (w2.drew) w14) →
      Calls P F.law23_own #[Value.agg #[Value.int IntKind.i64 x1, Value.int IntKind.i64 x2, Value.slice sa1 sl1 sc1]] w14 fun e8 w15 =>
      ∃ n16 : Int,
      ∃ n17 : Int,
      ∃ p7 : Option Addr,
      ∃ k19 : Nat,
      ∃ k20 : Nat,
      (e8 = Ending.returned (Value.agg #[Value.int IntKind.i64 n16, Value.int IntKind.i64 n17, Value.slice p7 k19 k20])) ∧
      (Keep ([k18, k2, k1]) w14 w15) ∧
      (Keeps w14 w15) ∧
      Calls P F.law23_own #[Value.agg #[Value.int IntKind.i64 x3, Value.int IntKind.i64 x4, Value.slice sa2 sl2 sc2]] w15 fun e9 w16 =>
      ∃ n18 : Int,
      ∃ n19 : Int,
      ∃ p8 : Option Addr,
      ∃ k21 : Nat,
      ∃ k22 : Nat,
      (e9 = Ending.returned (Value.agg #[Value.int IntKind.i64 n18, Value.int IntKind.i64 n19, Value.slice p8 k21 k22])) ∧
      (Keep ([k18, k2, k1]) w15 w16) ∧
      Calls P F.blend_Apply #[Value.string { data := #[98, 101, 115, 105, 100, 101] }, Value.slice none 0 0, Value.agg #[Value.int IntKind.i64 n16, Value.int IntKind.i64 n17, Value.slice p7 k19 k20], Value.agg #[Value.int IntKind.i64 n18, Value.int IntKind.i64 n19, Value.slice p8 k21 k22]] w16 fun e10 w17 =>
      ∃ n20 : Int,
      ∃ n21 : Int,
      ∃ p9 : Option Addr,
      ∃ k23 : Nat,
      ∃ k24 : Nat,
      ∃ n22 : Int,
      (e10 = Ending.returned (Value.tuple #[Value.agg #[Value.int IntKind.i64 n20, Value.int IntKind.i64 n21, Value.slice p9 k23 k24], Value.int IntKind.i64 n22])) ∧
      (Keep ([k18, k2, k1]) w16 w17) ∧
      ∀ w18 : World,
      (Locl ([k18, k2, k1]) w17 w18) →
      I1 [Value.int IntKind.i64 n22, Value.pointer (some { block := k18, off := 0 }), Value.int IntKind.i64 n20, Value.int IntKind.i64 n21, Value.slice p9 k23 k24] w18) ∧
    ∀ n23 : Int,
    ∀ k25 : Nat,
    ∀ n24 : Int,
    ∀ n25 : Int,
    ∀ p10 : Option Addr,
    ∀ k26 : Nat,
    ∀ k27 : Nat,
    ∀ w19 : World,
    (I1 [Value.int IntKind.i64 n23, Value.pointer (some { block := k25, off := 0 }), Value.int IntKind.i64 n24, Value.int IntKind.i64 n25, Value.slice p10 k26 k27] w19) →
    ∃ I2 : List Value → World → Prop,
    (brB (n23 == 0)
        (Calls P F.ref09_Crop #[Value.agg #[Value.int IntKind.i64 n24, Value.int IntKind.i64 n25, Value.slice p10 k26 k27], Value.agg #[Value.int IntKind.i64 0, Value.int IntKind.i64 0, Value.int IntKind.i64 x1, Value.int IntKind.i64 x2]] w19 fun e11 w20 =>
        ∃ n26 : Int,
        ∃ n27 : Int,
        ∃ p11 : Option Addr,
        ∃ k28 : Nat,
        ∃ k29 : Nat,
        ∃ n28 : Int,
        (e11 = Ending.returned (Value.tuple #[Value.agg #[Value.int IntKind.i64 n26, Value.int IntKind.i64 n27, Value.slice p11 k28 k29], Value.int IntKind.i64 n28])) ∧
        (Keep ([k25, k2, k1]) w19 w20) ∧
        ∀ k30 : Nat,
        (w20.heap.size ≤ k30) →
        ∀ w21 : World,
        (Locl ([k30, k25, k2, k1]) w20 w21) →
        Calls P F.ref09_Crop #[Value.agg #[Value.int IntKind.i64 n24, Value.int IntKind.i64 n25, Value.slice p10 k26 k27], Value.agg #[Value.int IntKind.i64 x1, Value.int IntKind.i64 0, Value.int IntKind.i64 x3, Value.int IntKind.i64 x4]] w21 fun e12 w22 =>
        ∃ n29 : Int,
        ∃ n30 : Int,
        ∃ p12 : Option Addr,
        ∃ k31 : Nat,
        ∃ k32 : Nat,
        ∃ n31 : Int,
        (e12 = Ending.returned (Value.tuple #[Value.agg #[Value.int IntKind.i64 n29, Value.int IntKind.i64 n30, Value.slice p12 k31 k32], Value.int IntKind.i64 n31])) ∧
        (Keep ([k30, k25, k2, k1]) w21 w22) ∧
        ∀ k33 : Nat,
        (w22.heap.size ≤ k33) →
        brB (n28 != 0 || n31 != 0)
          (∀ w23 : World,
          (Locl ([k33, k30, k25, k2, k1]) w22 w23) →
          R (Ending.returned (Value.bool false)) w23)
          (∀ w24 : World,
          (Locl ([k33, k30, k25, k2, k1]) w22 w24) →
          Calls P F.ref09_Same #[Value.agg #[Value.int IntKind.i64 n26, Value.int IntKind.i64 n27, Value.slice p11 k28 k29], Value.agg #[Value.int IntKind.i64 x1, Value.int IntKind.i64 x2, Value.slice sa1 sl1 sc1]] w24 fun e13 w25 =>
          ∃ c2 : Bool,
          (e13 = Ending.returned (Value.bool c2)) ∧
          (Keep ([k33, k30, k25, k2, k1]) w24 w25) ∧
          brB (!c2)
            (R (Ending.returned (Value.bool false)) w25)
            (Calls P F.ref09_Same #[Value.agg #[Value.int IntKind.i64 n29, Value.int IntKind.i64 n30, Value.slice p12 k31 k32], Value.agg #[Value.int IntKind.i64 x3, Value.int IntKind.i64 x4, Value.slice sa2 sl2 sc2]] w25 fun e14 w26 =>
            ∃ c3 : Bool,
            (e14 = Ending.returned (Value.bool c3)) ∧
            (Keep ([k33, k30, k25, k2, k1]) w25 w26) ∧
            brB (!c3 || n24 != IntKind.i64.wrap (x1 + x3))
              (R (Ending.returned (Value.bool false)) w26)
              (I2 [] w26))))
        (I2 [] w19)) ∧
    ∀ w27 : World,
    (I2 [] w27) →
    ∃ I3 : List Value → World → Prop,
    ((Calls P F.law23_own #[Value.agg #[Value.int IntKind.i64 x1, Value.int IntKind.i64 x2, Value.slice sa1 sl1 sc1]] (w27.drew) fun e15 w28 =>
        ∃ n32 : Int,
        ∃ n33 : Int,
        ∃ p13 : Option Addr,
        ∃ k34 : Nat,
        ∃ k35 : Nat,
        (e15 = Ending.returned (Value.agg #[Value.int IntKind.i64 n32, Value.int IntKind.i64 n33, Value.slice p13 k34 k35])) ∧
        (Keep ([k25, k2, k1]) (w27.drew) w28) ∧
        (Keeps (w27.drew) w28) ∧
        (Calls P F.law23_own #[Value.agg #[Value.int IntKind.i64 x3, Value.int IntKind.i64 x4, Value.slice sa2 sl2 sc2]] w28 fun e16 w29 =>
          ∃ n34 : Int,
          ∃ n35 : Int,
          ∃ p14 : Option Addr,
          ∃ k36 : Nat,
          ∃ k37 : Nat,
          (e16 = Ending.returned (Value.agg #[Value.int IntKind.i64 n34, Value.int IntKind.i64 n35, Value.slice p14 k36 k37])) ∧
          (Keep ([k25, k2, k1]) w28 w29) ∧
          (Calls P F.blend_Apply #[Value.string { data := #[98, 101, 108, 111, 119] }, Value.slice none 0 0, Value.agg #[Value.int IntKind.i64 n32, Value.int IntKind.i64 n33, Value.slice p13 k34 k35], Value.agg #[Value.int IntKind.i64 n34, Value.int IntKind.i64 n35, Value.slice p14 k36 k37]] w29 fun e17 w30 =>
            ∃ n36 : Int,
            ∃ n37 : Int,
            ∃ p15 : Option Addr,
            ∃ k38 : Nat,
            ∃ k39 : Nat,
            ∃ n38 : Int,
            (e17 = Ending.returned (Value.tuple #[Value.agg #[Value.int IntKind.i64 n36, Value.int IntKind.i64 n37, Value.slice p15 k38 k39], Value.int IntKind.i64 n38])) ∧
            (Keep ([k25, k2, k1]) w29 w30) ∧
            ∀ k40 : Nat,
            (w30.heap.size ≤ k40) →
            ∀ w31 : World,
            (Locl ([k40, k25, k2, k1]) w30 w31) →
            I3 [Value.int IntKind.i64 n38, Value.pointer (some { block := k40, off := 0 }), Value.int IntKind.i64 n36, Value.int IntKind.i64 n37, Value.slice p15 k38 k39] w31) ∧
          ∀ k41 : Nat,
          (w29.heap.size ≤ k41) →
          ∀ w32 : World,
          (Locl ([k41, k25, k2, k1]) w29 w32) →
          Calls P F.blend_Apply #[Value.string { data := #[98, 101, 108, 111, 119] }, Value.slice none 0 0, Value.agg #[Value.int IntKind.i64 n32, Value.int IntKind.i64 n33, Value.slice p13 k34 k35], Value.agg #[Value.int IntKind.i64 n34, Value.int IntKind.i64 n35, Value.slice p14 k36 k37]] w32 fun e18 w33 =>
          ∃ n39 : Int,
          ∃ n40 : Int,
          ∃ p16 : Option Addr,
          ∃ k42 : Nat,
          ∃ k43 : Nat,
          ∃ n41 : Int,
          (e18 = Ending.returned (Value.tuple #[Value.agg #[Value.int IntKind.i64 n39, Value.int IntKind.i64 n40, Value.slice p16 k42 k43], Value.int IntKind.i64 n41])) ∧
          (Keep ([k41, k25, k2, k1]) w32 w33) ∧
          ∀ w34 : World,
          (Locl ([k41, k25, k2, k1]) w33 w34) →
          I3 [Value.int IntKind.i64 n41, Value.pointer (some { block := k41, off := 0 }), Value.int IntKind.i64 n39, Value.int IntKind.i64 n40, Value.slice p16 k42 k43] w34) ∧
        ∀ k44 : Nat,
        (w28.heap.size ≤ k44) →
        ∀ w35 : World,
        (Locl ([k44, k25, k2, k1]) w28 w35) →
        Calls P F.law23_own #[Value.agg #[Value.int IntKind.i64 x3, Value.int IntKind.i64 x4, Value.slice sa2 sl2 sc2]] w35 fun e19 w36 =>
        ∃ n42 : Int,
        ∃ n43 : Int,
        ∃ p17 : Option Addr,
        ∃ k45 : Nat,
        ∃ k46 : Nat,
        (e19 = Ending.returned (Value.agg #[Value.int IntKind.i64 n42, Value.int IntKind.i64 n43, Value.slice p17 k45 k46])) ∧
        (Keep ([k44, k25, k2, k1]) w35 w36) ∧
        Calls P F.blend_Apply #[Value.string { data := #[98, 101, 108, 111, 119] }, Value.slice none 0 0, Value.agg #[Value.int IntKind.i64 n32, Value.int IntKind.i64 n33, Value.slice p13 k34 k35], Value.agg #[Value.int IntKind.i64 n42, Value.int IntKind.i64 n43, Value.slice p17 k45 k46]] w36 fun e20 w37 =>
        ∃ n44 : Int,
        ∃ n45 : Int,
        ∃ p18 : Option Addr,
        ∃ k47 : Nat,
        ∃ k48 : Nat,
        ∃ n46 : Int,
        (e20 = Ending.returned (Value.tuple #[Value.agg #[Value.int IntKind.i64 n44, Value.int IntKind.i64 n45, Value.slice p18 k47 k48], Value.int IntKind.i64 n46])) ∧
        (Keep ([k44, k25, k2, k1]) w36 w37) ∧
        ∀ w38 : World,
        (Locl ([k44, k25, k2, k1]) w37 w38) →
        I3 [Value.int IntKind.i64 n46, Value.pointer (some { block := k44, off := 0 }), Value.int IntKind.i64 n44, Value.int IntKind.i64 n45, Value.slice p18 k47 k48] w38) ∧
      ∀ k49 : Nat,
      (w27.drew.heap.size ≤ k49) →
      ∀ w39 : World,
      (Locl ([k49, k25, k2, k1]) (w27.drew) w39) →
      Calls P F.law23_own #[Value.agg #[Value.int IntKind.i64 x1, Value.int IntKind.i64 x2, Value.slice sa1 sl1 sc1]] w39 fun e21 w40 =>
      ∃ n47 : Int,
      ∃ n48 : Int,
      ∃ p19 : Option Addr,
      ∃ k50 : Nat,
      ∃ k51 : Nat,
      (e21 = Ending.returned (Value.agg #[Value.int IntKind.i64 n47, Value.int IntKind.i64 n48, Value.slice p19 k50 k51])) ∧
      (Keep ([k49, k25, k2, k1]) w39 w40) ∧
      (Keeps w39 w40) ∧
      Calls P F.law23_own #[Value.agg #[Value.int IntKind.i64 x3, Value.int IntKind.i64 x4, Value.slice sa2 sl2 sc2]] w40 fun e22 w41 =>
      ∃ n49 : Int,
      ∃ n50 : Int,
      ∃ p20 : Option Addr,
      ∃ k52 : Nat,
      ∃ k53 : Nat,
      (e22 = Ending.returned (Value.agg #[Value.int IntKind.i64 n49, Value.int IntKind.i64 n50, Value.slice p20 k52 k53])) ∧
      (Keep ([k49, k25, k2, k1]) w40 w41) ∧
      Calls P F.blend_Apply #[Value.string { data := #[98, 101, 108, 111, 119] }, Value.slice none 0 0, Value.agg #[Value.int IntKind.i64 n47, Value.int IntKind.i64 n48, Value.slice p19 k50 k51], Value.agg #[Value.int IntKind.i64 n49, Value.int IntKind.i64 n50, Value.slice p20 k52 k53]] w41 fun e23 w42 =>
      ∃ n51 : Int,
      ∃ n52 : Int,
      ∃ p21 : Option Addr,
      ∃ k54 : Nat,
      ∃ k55 : Nat,
      ∃ n53 : Int,
      (e23 = Ending.returned (Value.tuple #[Value.agg #[Value.int IntKind.i64 n51, Value.int IntKind.i64 n52, Value.slice p21 k54 k55], Value.int IntKind.i64 n53])) ∧
      (Keep ([k49, k25, k2, k1]) w41 w42) ∧
      ∀ w43 : World,
      (Locl ([k49, k25, k2, k1]) w42 w43) →
      I3 [Value.int IntKind.i64 n53, Value.pointer (some { block := k49, off := 0 }), Value.int IntKind.i64 n51, Value.int IntKind.i64 n52, Value.slice p21 k54 k55] w43) ∧
    ∀ n54 : Int,
    ∀ k56 : Nat,
    ∀ n55 : Int,
    ∀ n56 : Int,
    ∀ p22 : Option Addr,
    ∀ k57 : Nat,
    ∀ k58 : Nat,
    ∀ w44 : World,
    (I3 [Value.int IntKind.i64 n54, Value.pointer (some { block := k56, off := 0 }), Value.int IntKind.i64 n55, Value.int IntKind.i64 n56, Value.slice p22 k57 k58] w44) →
    brB (n54 != 0)
      (R (Ending.returned (Value.bool ((↑k57 : Int) == 0))) w44)
      (Calls P F.ref09_Crop #[Value.agg #[Value.int IntKind.i64 n55, Value.int IntKind.i64 n56, Value.slice p22 k57 k58], Value.agg #[Value.int IntKind.i64 0, Value.int IntKind.i64 0, Value.int IntKind.i64 x1, Value.int IntKind.i64 x2]] w44 fun e24 w45 =>
      ∃ n57 : Int,
      ∃ n58 : Int,
      ∃ p23 : Option Addr,
      ∃ k59 : Nat,
      ∃ k60 : Nat,
      ∃ n59 : Int,
      (e24 = Ending.returned (Value.tuple #[Value.agg #[Value.int IntKind.i64 n57, Value.int IntKind.i64 n58, Value.slice p23 k59 k60], Value.int IntKind.i64 n59])) ∧
      (Keep ([k56, k25, k2, k1]) w44 w45) ∧
      ∀ k61 : Nat,
      (w45.heap.size ≤ k61) →
      ∀ w46 : World,
      (Locl ([k61, k56, k25, k2, k1]) w45 w46) →
      Calls P F.ref09_Crop #[Value.agg #[Value.int IntKind.i64 n55, Value.int IntKind.i64 n56, Value.slice p22 k57 k58], Value.agg #[Value.int IntKind.i64 0, Value.int IntKind.i64 x2, Value.int IntKind.i64 x3, Value.int IntKind.i64 x4]] w46 fun e25 w47 =>
      ∃ n60 : Int,
      ∃ n61 : Int,
      ∃ p24 : Option Addr,
      ∃ k62 : Nat,
      ∃ k63 : Nat,
      ∃ n62 : Int,
      (e25 = Ending.returned (Value.tuple #[Value.agg #[Value.int IntKind.i64 n60, Value.int IntKind.i64 n61, Value.slice p24 k62 k63], Value.int IntKind.i64 n62])) ∧
      (Keep ([k61, k56, k25, k2, k1]) w46 w47) ∧
      ∀ k64 : Nat,
      (w47.heap.size ≤ k64) →
      brB (n59 == 0 && n62 == 0)
        (∀ w48 : World,
        (Locl ([k64, k61, k56, k25, k2, k1]) w47 w48) →
        Calls P F.ref09_Same #[Value.agg #[Value.int IntKind.i64 n57, Value.int IntKind.i64 n58, Value.slice p23 k59 k60], Value.agg #[Value.int IntKind.i64 x1, Value.int IntKind.i64 x2, Value.slice sa1 sl1 sc1]] w48 fun e26 w49 =>
        ∃ c4 : Bool,
        (e26 = Ending.returned (Value.bool c4)) ∧
        (Keep ([k64, k61, k56, k25, k2, k1]) w48 w49) ∧
        brB (c4)
          (Calls P F.ref09_Same #[Value.agg #[Value.int IntKind.i64 n60, Value.int IntKind.i64 n61, Value.slice p24 k62 k63], Value.agg #[Value.int IntKind.i64 x3, Value.int IntKind.i64 x4, Value.slice sa2 sl2 sc2]] w49 fun e27 w50 =>
          ∃ c5 : Bool,
          (e27 = Ending.returned (Value.bool c5)) ∧
          (Keep ([k64, k61, k56, k25, k2, k1]) w49 w50) ∧
          R (Ending.returned (Value.bool (c5 && n56 == IntKind.i64.wrap (x2 + x4)))) w50)
          (R (Ending.returned (Value.bool false)) w49))
        (∀ w51 : World,
        (Locl ([k64, k61, k56, k25, k2, k1]) w47 w51) →
        R (Ending.returned (Value.bool false)) w51)))
theorem calls_law23_BlendJoins (x1 : Int) (x2 : Int) (sa1 : Option Addr) (sl1 sc1 : Nat) (x3 : Int) (x4 : Int) (sa2 : Option Addr) (sl2 sc2 : Nat) (w : World) (R : Ending → World → Prop) (h : vc_law23_BlendJoins x1 x2 sa1 sl1 sc1 x3 x4 sa2 sl2 sc2 w R) : Calls P F.law23_BlendJoins #[.agg #[.int .i64 x1, .int .i64 x2, .slice sa1 sl1 sc1], .agg #[.int .i64 x3, .int .i64 x4, .slice sa2 sl2 sc2]] w R :=
  calls_of_vc (fn := Try.f7) (ac := ac_law23_BlendJoins) (args := [.agg #[.int .i64 x1, .int .i64 x2, .slice sa1 sl1 sc1], .agg #[.int .i64 x3, .int .i64 x4, .slice sa2 sl2 sc2]]) mixed Try.func7 (by kernel_rfl) (cast (by unfold vc_law23_BlendJoins FnVc; kernel_rfl) h)
/-- darkroom/blend.Names -/
def vc_blend_Names  (w : World) (R : Ending → World → Prop) : Prop :=
  ∀ k1 : Nat,
  ∀ w1 : World,
  (New w (Obj.cells #[Value.string { data := #[111, 118, 101, 114] }, Value.string { data := #[112, 108, 117, 115] }, Value.string { data := #[109, 105, 110, 117, 115] }, Value.string { data := #[116, 105, 109, 101, 115] }, Value.string { data := #[115, 99, 114, 101, 101, 110] }, Value.string { data := #[100, 105, 102, 102, 101, 114] }, Value.string { data := #[108, 105, 103, 104, 116, 101, 114] }, Value.string { data := #[100, 97, 114, 107, 101, 114] }, Value.string { data := #[109, 105, 120] }, Value.string { data := #[109, 97, 115, 107] }, Value.string { data := #[98, 101, 115, 105, 100, 101] }, Value.string { data := #[98, 101, 108, 111, 119] }] 9) k1 w1) →
  R (Ending.returned (Value.slice (some { block := k1, off := 0 }) 12 12)) w1
theorem calls_blend_Names  (w : World) (R : Ending → World → Prop) (h : vc_blend_Names  w R) : Calls P F.blend_Names #[] w R :=
  calls_of_vc (fn := Try.f10) (ac := ac_blend_Names) (args := []) mixed Try.func10 (by kernel_rfl) (cast (by unfold vc_blend_Names FnVc; kernel_rfl) h)
/-- darkroom/darkroomref23.Names -/
def vc_ref23_Names  (w : World) (R : Ending → World → Prop) : Prop :=
  ∀ k1 : Nat,
  ∀ w1 : World,
  (New w (Obj.cells #[Value.string { data := #[111, 118, 101, 114] }, Value.string { data := #[112, 108, 117, 115] }, Value.string { data := #[109, 105, 110, 117, 115] }, Value.string { data := #[116, 105, 109, 101, 115] }, Value.string { data := #[115, 99, 114, 101, 101, 110] }, Value.string { data := #[100, 105, 102, 102, 101, 114] }, Value.string { data := #[108, 105, 103, 104, 116, 101, 114] }, Value.string { data := #[100, 97, 114, 107, 101, 114] }, Value.string { data := #[109, 105, 120] }, Value.string { data := #[109, 97, 115, 107] }, Value.string { data := #[98, 101, 115, 105, 100, 101] }, Value.string { data := #[98, 101, 108, 111, 119] }] 9) k1 w1) →
  R (Ending.returned (Value.slice (some { block := k1, off := 0 }) 12 12)) w1
theorem calls_ref23_Names  (w : World) (R : Ending → World → Prop) (h : vc_ref23_Names  w R) : Calls P F.ref23_Names #[] w R :=
  calls_of_vc (fn := Try.f11) (ac := ac_ref23_Names) (args := []) mixed Try.func11 (by kernel_rfl) (cast (by unfold vc_ref23_Names FnVc; kernel_rfl) h)
/-- darkroom/blend.Size -/
def vc_blend_Size (st1 : ByteArray) (sa1 : Option Addr) (sl1 sc1 : Nat) (x1 : Int) (x2 : Int) (x3 : Int) (x4 : Int) (w : World) (R : Ending → World → Prop) : Prop :=
  Calls P F.blend_Check #[Value.string st1, Value.slice sa1 sl1 sc1] w fun e1 w1 =>
  ∃ n1 : Int,
  (e1 = Ending.returned (Value.int IntKind.i64 n1)) ∧
  brB (n1 != 0)
    (R (Ending.returned (Value.tuple #[Value.int IntKind.i64 0, Value.int IntKind.i64 0, Value.int IntKind.i64 n1])) w1)
    (Calls P F.blend_fits #[Value.int IntKind.i64 x1, Value.int IntKind.i64 x2] w1 fun e2 w2 =>
    ∃ c1 : Bool,
    (e2 = Ending.returned (Value.bool c1)) ∧
    brB (!c1)
      (R (Ending.returned (Value.tuple #[Value.int IntKind.i64 0, Value.int IntKind.i64 0, Value.int IntKind.i64 4])) w2)
      (Calls P F.blend_fits #[Value.int IntKind.i64 x3, Value.int IntKind.i64 x4] w2 fun e3 w3 =>
      ∃ c2 : Bool,
      (e3 = Ending.returned (Value.bool c2)) ∧
      brB (!c2)
        (R (Ending.returned (Value.tuple #[Value.int IntKind.i64 0, Value.int IntKind.i64 0, Value.int IntKind.i64 4])) w3)
        (∃ I1 : List Value → World → Prop,
        (brB (decide (st1 = { data := #[111, 118, 101, 114] }))
            (I1 [Value.int IntKind.i64 x1, Value.int IntKind.i64 x2, Value.bool true] w3)
            (brB (decide (st1 = { data := #[98, 101, 115, 105, 100, 101] }))
              (I1 [Value.int IntKind.i64 (IntKind.i64.wrap (x1 + x3)), Value.int IntKind.i64 x2, Value.bool (x2 == x4)] w3)
              (brB (decide (st1 = { data := #[98, 101, 108, 111, 119] }))
                (I1 [Value.int IntKind.i64 x1, Value.int IntKind.i64 (IntKind.i64.wrap (x2 + x4)), Value.bool (x1 == x3)] w3)
                (I1 [Value.int IntKind.i64 x1, Value.int IntKind.i64 x2, Value.bool (x1 == x3 && x2 == x4)] w3)))) ∧
        ∀ n2 : Int,
        ∀ n3 : Int,
        ∀ c3 : Bool,
        ∀ w4 : World,
        (I1 [Value.int IntKind.i64 n2, Value.int IntKind.i64 n3, Value.bool c3] w4) →
        brB (!c3)
          (R (Ending.returned (Value.tuple #[Value.int IntKind.i64 0, Value.int IntKind.i64 0, Value.int IntKind.i64 190])) w4)
          (Calls P F.blend_fits #[Value.int IntKind.i64 n2, Value.int IntKind.i64 n3] w4 fun e4 w5 =>
          ∃ c4 : Bool,
          (e4 = Ending.returned (Value.bool c4)) ∧
          brB (!c4)
            (R (Ending.returned (Value.tuple #[Value.int IntKind.i64 0, Value.int IntKind.i64 0, Value.int IntKind.i64 11])) w5)
            (R (Ending.returned (Value.tuple #[Value.int IntKind.i64 n2, Value.int IntKind.i64 n3, Value.int IntKind.i64 0])) w5)))))
theorem calls_blend_Size (st1 : ByteArray) (sa1 : Option Addr) (sl1 sc1 : Nat) (x1 : Int) (x2 : Int) (x3 : Int) (x4 : Int) (w : World) (R : Ending → World → Prop) (h : vc_blend_Size st1 sa1 sl1 sc1 x1 x2 x3 x4 w R) : Calls P F.blend_Size #[.string st1, .slice sa1 sl1 sc1, .int .i64 x1, .int .i64 x2, .int .i64 x3, .int .i64 x4] w R :=
  calls_of_vc (fn := Try.f12) (ac := ac_blend_Size) (args := [.string st1, .slice sa1 sl1 sc1, .int .i64 x1, .int .i64 x2, .int .i64 x3, .int .i64 x4]) mixed Try.func12 (by kernel_rfl) (cast (by unfold vc_blend_Size FnVc; kernel_rfl) h)
/-- darkroom/darkroomlaw23.ints -/
def vc_law23_ints (sa1 : Option Addr) (sl1 sc1 : Nat) (w : World) (R : Ending → World → Prop) : Prop :=
  ∀ k1 : Nat,
  ∀ w1 : World,
  (New w (Obj.cells #[] 3) k1 w1) →
  ∃ l1 : List Value,
  (l1.length = sl1 * 1) ∧
  (oneAll l1 = true) ∧
  (CellsAre w1 sa1 l1) ∧
  appVC (w1) ([]) (some { block := k1, off := 0 }) (0) (0) (sl1) (1) (8) (3) ([Value.int IntKind.i64 0]) (l1) fun p1 k2 k3 w2 =>
  R (Ending.returned (Value.slice p1 k2 k3)) w2
theorem calls_law23_ints (sa1 : Option Addr) (sl1 sc1 : Nat) (w : World) (R : Ending → World → Prop) (h : vc_law23_ints sa1 sl1 sc1 w R) : Calls P F.law23_ints #[.slice sa1 sl1 sc1] w R :=
  calls_of_vc (fn := Try.f13) (ac := ac_law23_ints) (args := [.slice sa1 sl1 sc1]) mixed Try.func13 (by kernel_rfl) (cast (by unfold vc_law23_ints FnVc; kernel_rfl) h)
/-- darkroom/darkroomref23.Size -/
def vc_ref23_Size (st1 : ByteArray) (sa1 : Option Addr) (sl1 sc1 : Nat) (x1 : Int) (x2 : Int) (x3 : Int) (x4 : Int) (w : World) (R : Ending → World → Prop) : Prop :=
  Calls P F.ref23_Check #[Value.string st1, Value.slice sa1 sl1 sc1] w fun e1 w1 =>
  ∃ n1 : Int,
  (e1 = Ending.returned (Value.int IntKind.i64 n1)) ∧
  brB (n1 != 0)
    (R (Ending.returned (Value.tuple #[Value.int IntKind.i64 0, Value.int IntKind.i64 0, Value.int IntKind.i64 n1])) w1)
    (Calls P F.ref07_Fits #[Value.int IntKind.i64 x1, Value.int IntKind.i64 x2] w1 fun e2 w2 =>
    ∃ c1 : Bool,
    (e2 = Ending.returned (Value.bool c1)) ∧
    brB (!c1)
      (R (Ending.returned (Value.tuple #[Value.int IntKind.i64 0, Value.int IntKind.i64 0, Value.int IntKind.i64 4])) w2)
      (Calls P F.ref07_Fits #[Value.int IntKind.i64 x3, Value.int IntKind.i64 x4] w2 fun e3 w3 =>
      ∃ c2 : Bool,
      (e3 = Ending.returned (Value.bool c2)) ∧
      brB (!c2)
        (R (Ending.returned (Value.tuple #[Value.int IntKind.i64 0, Value.int IntKind.i64 0, Value.int IntKind.i64 4])) w3)
        (∃ I1 : List Value → World → Prop,
        (brB (decide (st1 = { data := #[111, 118, 101, 114] }))
            (I1 [Value.int IntKind.i64 x1, Value.int IntKind.i64 x2] w3)
            (brB (decide (st1 = { data := #[98, 101, 115, 105, 100, 101] }))
              (brB (x2 != x4)
                (R (Ending.returned (Value.tuple #[Value.int IntKind.i64 0, Value.int IntKind.i64 0, Value.int IntKind.i64 190])) w3)
                (I1 [Value.int IntKind.i64 (IntKind.i64.wrap (x1 + x3)), Value.int IntKind.i64 x2] w3))
              (brB (decide (st1 = { data := #[98, 101, 108, 111, 119] }))
                (brB (x1 != x3)
                  (R (Ending.returned (Value.tuple #[Value.int IntKind.i64 0, Value.int IntKind.i64 0, Value.int IntKind.i64 190])) w3)
                  (I1 [Value.int IntKind.i64 x1, Value.int IntKind.i64 (IntKind.i64.wrap (x2 + x4))] w3))
                (brB (x1 != x3 || x2 != x4)
                  (R (Ending.returned (Value.tuple #[Value.int IntKind.i64 0, Value.int IntKind.i64 0, Value.int IntKind.i64 190])) w3)
                  (I1 [Value.int IntKind.i64 x1, Value.int IntKind.i64 x2] w3))))) ∧
        ∀ n2 : Int,
        ∀ n3 : Int,
        ∀ w4 : World,
        (I1 [Value.int IntKind.i64 n2, Value.int IntKind.i64 n3] w4) →
        Calls P F.ref07_Fits #[Value.int IntKind.i64 n2, Value.int IntKind.i64 n3] w4 fun e4 w5 =>
        ∃ c3 : Bool,
        (e4 = Ending.returned (Value.bool c3)) ∧
        brB (!c3)
          (R (Ending.returned (Value.tuple #[Value.int IntKind.i64 0, Value.int IntKind.i64 0, Value.int IntKind.i64 11])) w5)
          (R (Ending.returned (Value.tuple #[Value.int IntKind.i64 n2, Value.int IntKind.i64 n3, Value.int IntKind.i64 0])) w5))))
theorem calls_ref23_Size (st1 : ByteArray) (sa1 : Option Addr) (sl1 sc1 : Nat) (x1 : Int) (x2 : Int) (x3 : Int) (x4 : Int) (w : World) (R : Ending → World → Prop) (h : vc_ref23_Size st1 sa1 sl1 sc1 x1 x2 x3 x4 w R) : Calls P F.ref23_Size #[.string st1, .slice sa1 sl1 sc1, .int .i64 x1, .int .i64 x2, .int .i64 x3, .int .i64 x4] w R :=
  calls_of_vc (fn := Try.f14) (ac := ac_ref23_Size) (args := [.string st1, .slice sa1 sl1 sc1, .int .i64 x1, .int .i64 x2, .int .i64 x3, .int .i64 x4]) mixed Try.func14 (by kernel_rfl) (cast (by unfold vc_ref23_Size FnVc; kernel_rfl) h)
/-- darkroom/blend.Check -/
def vc_blend_Check (st1 : ByteArray) (sa1 : Option Addr) (sl1 sc1 : Nat) (w : World) (R : Ending → World → Prop) : Prop :=
  ∃ I1 : List Value → World → Prop,
  (brB (decide (st1 = { data := #[111, 118, 101, 114] }))
      (I1 [Value.int IntKind.i64 (-4096), Value.int IntKind.i64 4096, Value.int IntKind.i64 2] w)
      (brB (decide (st1 = { data := #[109, 105, 120] }))
        (I1 [Value.int IntKind.i64 0, Value.int IntKind.i64 256, Value.int IntKind.i64 1] w)
        (brB (decide (st1 = { data := #[98, 101, 115, 105, 100, 101] }))
          (brB (decide (st1 = { data := #[98, 101, 115, 105, 100, 101] }))
            (I1 [Value.int IntKind.i64 0, Value.int IntKind.i64 0, Value.int IntKind.i64 0] w)
            (Calls P F.blend_sums #[] w fun e1 w1 =>
            ∃ p1 : Option Nat,
            (e1 = Ending.returned (Value.map p1)) ∧
            mapIn (Kd.str) (w1) (Value.map p1) fun l1 =>
            ((∃ c1 : Bool,
              (mgot l1 (Value.string st1) Value.nilFunc = (Value.nilFunc, c1)) ∧
              (isFnV Value.nilFunc = true) ∧
              brB (isNilF Value.nilFunc)
                (R (Ending.returned (Value.int IntKind.i64 8)) w1)
                (I1 [Value.int IntKind.i64 0, Value.int IntKind.i64 0, Value.int IntKind.i64 0] w1)) ∨
            (∃ y1 : FuncId,
              ∃ y2 : Array Value,
              ∃ y3 : Array Value,
              ∃ c2 : Bool,
              (mgot l1 (Value.string st1) Value.nilFunc = (Value.func (Fn.func y1) y2 y3, c2)) ∧
              (isFnV (Value.func (Fn.func y1) y2 y3) = true) ∧
              brB (isNilF (Value.func (Fn.func y1) y2 y3))
                (R (Ending.returned (Value.int IntKind.i64 8)) w1)
                (I1 [Value.int IntKind.i64 0, Value.int IntKind.i64 0, Value.int IntKind.i64 0] w1)))))
          (brB (decide (st1 = { data := #[98, 101, 108, 111, 119] }))
            (I1 [Value.int IntKind.i64 0, Value.int IntKind.i64 0, Value.int IntKind.i64 0] w)
            (Calls P F.blend_sums #[] w fun e2 w2 =>
            ∃ p2 : Option Nat,
            (e2 = Ending.returned (Value.map p2)) ∧
            mapIn (Kd.str) (w2) (Value.map p2) fun l2 =>
            ((∃ c3 : Bool,
              (mgot l2 (Value.string st1) Value.nilFunc = (Value.nilFunc, c3)) ∧
              (isFnV Value.nilFunc = true) ∧
              brB (isNilF Value.nilFunc)
                (R (Ending.returned (Value.int IntKind.i64 8)) w2)
                (I1 [Value.int IntKind.i64 0, Value.int IntKind.i64 0, Value.int IntKind.i64 0] w2)) ∨
            (∃ y4 : FuncId,
              ∃ y5 : Array Value,
              ∃ y6 : Array Value,
              ∃ c4 : Bool,
              (mgot l2 (Value.string st1) Value.nilFunc = (Value.func (Fn.func y4) y5 y6, c4)) ∧
              (isFnV (Value.func (Fn.func y4) y5 y6) = true) ∧
              brB (isNilF (Value.func (Fn.func y4) y5 y6))
                (R (Ending.returned (Value.int IntKind.i64 8)) w2)
                (I1 [Value.int IntKind.i64 0, Value.int IntKind.i64 0, Value.int IntKind.i64 0] w2)))))))) ∧
  ∀ n1 : Int,
  ∀ n2 : Int,
  ∀ n3 : Int,
  ∀ w3 : World,
  (I1 [Value.int IntKind.i64 n1, Value.int IntKind.i64 n2, Value.int IntKind.i64 n3] w3) →
  brB ((↑sl1 : Int) != n3)
    (R (Ending.returned (Value.int IntKind.i64 190)) w3)
    (∃ I2 : List Value → World → Prop,
    ∃ m1 : List Value → World → Nat,
    (I2 [Value.int IntKind.i64 0] w3) ∧
    ∀ n4 : Int,
    ∀ w4 : World,
    (I2 [Value.int IntKind.i64 n4] w4) →
    brB (decide (n4 < (↑sl1 : Int)))
      (idx (sa1) (sl1) (n4) (1) fun a1 =>
      ∃ n5 : Int,
      (w4.cell? a1 = some (Value.int IntKind.i64 n5)) ∧
      brB (decide (n5 < n1) || decide (n5 > n2))
        (R (Ending.returned (Value.int IntKind.i64 190)) w4)
        ((I2 [Value.int IntKind.i64 (IntKind.i64.wrap (n4 + 1))] w4) ∧
        m1 [Value.int IntKind.i64 (IntKind.i64.wrap (n4 + 1))] w4 < m1 [Value.int IntKind.i64 n4] w4))
      (R (Ending.returned (Value.int IntKind.i64 0)) w4))
theorem calls_blend_Check (st1 : ByteArray) (sa1 : Option Addr) (sl1 sc1 : Nat) (w : World) (R : Ending → World → Prop) (h : vc_blend_Check st1 sa1 sl1 sc1 w R) : Calls P F.blend_Check #[.string st1, .slice sa1 sl1 sc1] w R :=
  calls_of_vc (fn := Try.f15) (ac := ac_blend_Check) (args := [.string st1, .slice sa1 sl1 sc1]) mixed Try.func15 (by kernel_rfl) (cast (by unfold vc_blend_Check FnVc; kernel_rfl) h)
/-- darkroom/darkroomref23.Check -/
def vc_ref23_Check (st1 : ByteArray) (sa1 : Option Addr) (sl1 sc1 : Nat) (w : World) (R : Ending → World → Prop) : Prop :=
  Calls P F.ref23_Names #[] w fun e1 w1 =>
  ∃ p1 : Option Addr,
  ∃ k1 : Nat,
  ∃ k2 : Nat,
  (e1 = Ending.returned (Value.slice p1 k1 k2)) ∧
  Calls P F.ref20_In #[Value.string st1, Value.slice p1 k1 k2] w1 fun e2 w2 =>
  ∃ c1 : Bool,
  (e2 = Ending.returned (Value.bool c1)) ∧
  brB (!c1)
    (R (Ending.returned (Value.int IntKind.i64 8)) w2)
    (∃ I1 : List Value → World → Prop,
    (brB (decide (st1 = { data := #[111, 118, 101, 114] }))
        (∀ k3 : Nat,
        ∀ w3 : World,
        (New w2 (Obj.cells #[Value.int IntKind.i64 (-4096), Value.int IntKind.i64 4096, Value.int IntKind.i64 (-4096), Value.int IntKind.i64 4096] 3) k3 w3) →
        I1 [Value.slice (some { block := k3, off := 0 }) 4 4] w3)
        (brB (decide (st1 = { data := #[109, 105, 120] }))
          (∀ k4 : Nat,
          ∀ w4 : World,
          (New w2 (Obj.cells #[Value.int IntKind.i64 0, Value.int IntKind.i64 256] 3) k4 w4) →
          I1 [Value.slice (some { block := k4, off := 0 }) 2 2] w4)
          (I1 [Value.slice none 0 0] w2))) ∧
    ∀ p2 : Option Addr,
    ∀ k5 : Nat,
    ∀ k6 : Nat,
    ∀ w5 : World,
    (I1 [Value.slice p2 k5 k6] w5) →
    Calls P F.ref20_Fit #[Value.slice sa1 sl1 sc1, Value.slice p2 k5 k6] w5 fun e3 w6 =>
    ∃ c2 : Bool,
    (e3 = Ending.returned (Value.bool c2)) ∧
    brB (!c2)
      (R (Ending.returned (Value.int IntKind.i64 190)) w6)
      (R (Ending.returned (Value.int IntKind.i64 0)) w6))
theorem calls_ref23_Check (st1 : ByteArray) (sa1 : Option Addr) (sl1 sc1 : Nat) (w : World) (R : Ending → World → Prop) (h : vc_ref23_Check st1 sa1 sl1 sc1 w R) : Calls P F.ref23_Check #[.string st1, .slice sa1 sl1 sc1] w R :=
  calls_of_vc (fn := Try.f16) (ac := ac_ref23_Check) (args := [.string st1, .slice sa1 sl1 sc1]) mixed Try.func16 (by kernel_rfl) (cast (by unfold vc_ref23_Check FnVc; kernel_rfl) h)
/-- darkroom/blend.Apply -/
def vc_blend_Apply (st1 : ByteArray) (sa1 : Option Addr) (sl1 sc1 : Nat) (x1 : Int) (x2 : Int) (sa2 : Option Addr) (sl2 sc2 : Nat) (x3 : Int) (x4 : Int) (sa3 : Option Addr) (sl3 sc3 : Nat) (w : World) (R : Ending → World → Prop) : Prop :=
  ∀ k1 : Nat,
  (w.heap.size ≤ k1) →
  ∀ k2 : Nat,
  (w.heap.size ≤ k2) →
  ∀ k3 : Nat,
  (w.heap.size ≤ k3) →
  ∀ k4 : Nat,
  (w.heap.size ≤ k4) →
  ∀ k5 : Nat,
  (w.heap.size ≤ k5) →
  ∀ w1 : World,
  (Locl ([k5, k4, k3, k2, k1]) w w1) →
  Calls P F.blend_Check #[Value.string st1, Value.slice sa1 sl1 sc1] w1 fun e1 w2 =>
  ∃ n1 : Int,
  (e1 = Ending.returned (Value.int IntKind.i64 n1)) ∧
  (Keep ([k5, k4, k3, k2, k1]) w1 w2) ∧
  brB (n1 != 0)
    (∀ w3 : World,
    (Locl ([k5, k4, k3, k2, k1]) w2 w3) →
    R (Ending.returned (Value.tuple #[Value.agg #[Value.int IntKind.i64 0, Value.int IntKind.i64 0, Value.slice none 0 0], Value.int IntKind.i64 n1])) w3)
    (Calls P F.raster_Good #[Value.agg #[Value.int IntKind.i64 x1, Value.int IntKind.i64 x2, Value.slice sa2 sl2 sc2]] w2 fun e2 w4 =>
    ∃ c1 : Bool,
    (e2 = Ending.returned (Value.bool c1)) ∧
    (Keep ([k5, k4, k3, k2, k1]) w2 w4) ∧
    brB (!c1)
      (∀ w5 : World,
      (Locl ([k5, k4, k3, k2, k1]) w4 w5) →
      R (Ending.returned (Value.tuple #[Value.agg #[Value.int IntKind.i64 0, Value.int IntKind.i64 0, Value.slice none 0 0], Value.int IntKind.i64 6])) w5)
      (Calls P F.raster_Good #[Value.agg #[Value.int IntKind.i64 x3, Value.int IntKind.i64 x4, Value.slice sa3 sl3 sc3]] w4 fun e3 w6 =>
      ∃ c2 : Bool,
      (e3 = Ending.returned (Value.bool c2)) ∧
      (Keep ([k5, k4, k3, k2, k1]) w4 w6) ∧
      brB (!c2)
        (∀ w7 : World,
        (Locl ([k5, k4, k3, k2, k1]) w6 w7) →
        R (Ending.returned (Value.tuple #[Value.agg #[Value.int IntKind.i64 0, Value.int IntKind.i64 0, Value.slice none 0 0], Value.int IntKind.i64 6])) w7)
        (Calls P F.blend_Size #[Value.string st1, Value.slice sa1 sl1 sc1, Value.int IntKind.i64 x1, Value.int IntKind.i64 x2, Value.int IntKind.i64 x3, Value.int IntKind.i64 x4] w6 fun e4 w8 =>
        ∃ n2 : Int,
        ∃ n3 : Int,
        ∃ n4 : Int,
        (e4 = Ending.returned (Value.tuple #[Value.int IntKind.i64 n2, Value.int IntKind.i64 n3, Value.int IntKind.i64 n4])) ∧
        (Keep ([k5, k4, k3, k2, k1]) w6 w8) ∧
        brB (n4 != 0)
          (∀ w9 : World,
          (Locl ([k5, k4, k3, k2, k1]) w8 w9) →
          R (Ending.returned (Value.tuple #[Value.agg #[Value.int IntKind.i64 0, Value.int IntKind.i64 0, Value.slice none 0 0], Value.int IntKind.i64 n4])) w9)
          (brB (decide (st1 = { data := #[98, 101, 115, 105, 100, 101] }))
            (Calls P F.raster_Fill #[Value.int IntKind.i64 n2, Value.int IntKind.i64 n3, Value.agg #[Value.int IntKind.u16 0, Value.int IntKind.u16 0, Value.int IntKind.u16 0, Value.int IntKind.u16 0]] w8 fun e5 w10 =>
            ∃ n5 : Int,
            ∃ n6 : Int,
            ∃ p1 : Option Addr,
            ∃ k6 : Nat,
            ∃ k7 : Nat,
            ∃ n7 : Int,
            (e5 = Ending.returned (Value.tuple #[Value.agg #[Value.int IntKind.i64 n5, Value.int IntKind.i64 n6, Value.slice p1 k6 k7], Value.int IntKind.i64 n7])) ∧
            (Keep ([k5, k4, k3, k2, k1]) w8 w10) ∧
            ∀ k8 : Nat,
            (w10.heap.size ≤ k8) →
            ∀ w11 : World,
            (Locl ([k8, k5, k4, k3, k2, k1]) w10 w11) →
            Calls P F.raster_Paste #[Value.agg #[Value.int IntKind.i64 n5, Value.int IntKind.i64 n6, Value.slice p1 k6 k7], Value.agg #[Value.int IntKind.i64 x1, Value.int IntKind.i64 x2, Value.slice sa2 sl2 sc2], Value.int IntKind.i64 0, Value.int IntKind.i64 0] w11 fun e6 w12 =>
            ∃ n8 : Int,
            ∃ n9 : Int,
            ∃ p2 : Option Addr,
            ∃ k9 : Nat,
            ∃ k10 : Nat,
            ∃ n10 : Int,
            (e6 = Ending.returned (Value.tuple #[Value.agg #[Value.int IntKind.i64 n8, Value.int IntKind.i64 n9, Value.slice p2 k9 k10], Value.int IntKind.i64 n10])) ∧
            (Keep ([k8, k5, k4, k3, k2, k1]) w11 w12) ∧
            ∀ w13 : World,
            (Locl ([k8, k5, k4, k3, k2, k1]) w12 w13) →
            Calls P F.raster_Paste #[Value.agg #[Value.int IntKind.i64 n8, Value.int IntKind.i64 n9, Value.slice p2 k9 k10], Value.agg #[Value.int IntKind.i64 x3, Value.int IntKind.i64 x4, Value.slice sa3 sl3 sc3], Value.int IntKind.i64 (IntKind.i64.wrap (n2 - x3)), Value.int IntKind.i64 (IntKind.i64.wrap (n3 - x4))] w13 fun e7 w14 =>
            ∃ n11 : Int,
            ∃ n12 : Int,
            ∃ p3 : Option Addr,
            ∃ k11 : Nat,
            ∃ k12 : Nat,
            ∃ n13 : Int,
            (e7 = Ending.returned (Value.tuple #[Value.agg #[Value.int IntKind.i64 n11, Value.int IntKind.i64 n12, Value.slice p3 k11 k12], Value.int IntKind.i64 n13])) ∧
            (Keep ([k8, k5, k4, k3, k2, k1]) w13 w14) ∧
            ∀ w15 : World,
            (Locl ([k8, k5, k4, k3, k2, k1]) w14 w15) →
            R (Ending.returned (Value.tuple #[Value.agg #[Value.int IntKind.i64 n11, Value.int IntKind.i64 n12, Value.slice p3 k11 k12], Value.int IntKind.i64 n13])) w15)
            (brB (decide (st1 = { data := #[98, 101, 108, 111, 119] }))
              (Calls P F.raster_Fill #[Value.int IntKind.i64 n2, Value.int IntKind.i64 n3, Value.agg #[Value.int IntKind.u16 0, Value.int IntKind.u16 0, Value.int IntKind.u16 0, Value.int IntKind.u16 0]] w8 fun e8 w16 =>
              ∃ n14 : Int,
              ∃ n15 : Int,
              ∃ p4 : Option Addr,
              ∃ k13 : Nat,
              ∃ k14 : Nat,
              ∃ n16 : Int,
              (e8 = Ending.returned (Value.tuple #[Value.agg #[Value.int IntKind.i64 n14, Value.int IntKind.i64 n15, Value.slice p4 k13 k14], Value.int IntKind.i64 n16])) ∧
              (Keep ([k5, k4, k3, k2, k1]) w8 w16) ∧
              ∀ k15 : Nat,
              (w16.heap.size ≤ k15) →
              ∀ w17 : World,
              (Locl ([k15, k5, k4, k3, k2, k1]) w16 w17) →
              Calls P F.raster_Paste #[Value.agg #[Value.int IntKind.i64 n14, Value.int IntKind.i64 n15, Value.slice p4 k13 k14], Value.agg #[Value.int IntKind.i64 x1, Value.int IntKind.i64 x2, Value.slice sa2 sl2 sc2], Value.int IntKind.i64 0, Value.int IntKind.i64 0] w17 fun e9 w18 =>
              ∃ n17 : Int,
              ∃ n18 : Int,
              ∃ p5 : Option Addr,
              ∃ k16 : Nat,
              ∃ k17 : Nat,
              ∃ n19 : Int,
              (e9 = Ending.returned (Value.tuple #[Value.agg #[Value.int IntKind.i64 n17, Value.int IntKind.i64 n18, Value.slice p5 k16 k17], Value.int IntKind.i64 n19])) ∧
              (Keep ([k15, k5, k4, k3, k2, k1]) w17 w18) ∧
              ∀ w19 : World,
              (Locl ([k15, k5, k4, k3, k2, k1]) w18 w19) →
              Calls P F.raster_Paste #[Value.agg #[Value.int IntKind.i64 n17, Value.int IntKind.i64 n18, Value.slice p5 k16 k17], Value.agg #[Value.int IntKind.i64 x3, Value.int IntKind.i64 x4, Value.slice sa3 sl3 sc3], Value.int IntKind.i64 (IntKind.i64.wrap (n2 - x3)), Value.int IntKind.i64 (IntKind.i64.wrap (n3 - x4))] w19 fun e10 w20 =>
              ∃ n20 : Int,
              ∃ n21 : Int,
              ∃ p6 : Option Addr,
              ∃ k18 : Nat,
              ∃ k19 : Nat,
              ∃ n22 : Int,
              (e10 = Ending.returned (Value.tuple #[Value.agg #[Value.int IntKind.i64 n20, Value.int IntKind.i64 n21, Value.slice p6 k18 k19], Value.int IntKind.i64 n22])) ∧
              (Keep ([k15, k5, k4, k3, k2, k1]) w19 w20) ∧
              ∀ w21 : World,
              (Locl ([k15, k5, k4, k3, k2, k1]) w20 w21) →
              R (Ending.returned (Value.tuple #[Value.agg #[Value.int IntKind.i64 n20, Value.int IntKind.i64 n21, Value.slice p6 k18 k19], Value.int IntKind.i64 n22])) w21)
              (Calls P F.raster_Grid #[Value.agg #[Value.int IntKind.i64 x1, Value.int IntKind.i64 x2, Value.slice sa2 sl2 sc2]] w8 fun e11 w22 =>
              ∃ p7 : Option Addr,
              ∃ n23 : Int,
              (e11 = Ending.returned (Value.tuple #[Value.pointer p7, Value.int IntKind.i64 n23])) ∧
              (Keep ([k5, k4, k3, k2, k1]) w8 w22) ∧
              ∀ k20 : Nat,
              (w22.heap.size ≤ k20) →
              ∃ I1 : List Value → World → Prop,
              ((∀ w23 : World,
                  (Locl ([k20, k5, k4, k3, k2, k1]) w22 w23) →
                  Calls P F.blend_sums #[] w23 fun e12 w24 =>
                  ∃ p8 : Option Nat,
                  (e12 = Ending.returned (Value.map p8)) ∧
                  (Keep ([k20, k5, k4, k3, k2, k1]) w23 w24) ∧
                  (Keeps w23 w24) ∧
                  (mapIn (Kd.str) (w24) (Value.map p8) fun l1 =>
                    ((∃ c3 : Bool,
                      (mgot l1 (Value.string st1) Value.nilFunc = (Value.nilFunc, c3)) ∧
                      ∀ k21 : Nat,
                      (w24.heap.size ≤ k21) →
                      ∀ w25 : World,
                      (Locl ([k21, k20, k5, k4, k3, k2, k1]) w24 w25) →
                      I1 [Value.pointer (some { block := k21, off := 0 }), Value.nilFunc] w25) ∨
                    (∃ y1 : FuncId,
                      ∃ y2 : Array Value,
                      ∃ y3 : Array Value,
                      ∃ c4 : Bool,
                      (mgot l1 (Value.string st1) Value.nilFunc = (Value.func (Fn.func y1) y2 y3, c4)) ∧
                      ∀ k22 : Nat,
                      (w24.heap.size ≤ k22) →
                      ∀ w26 : World,
                      (Locl ([k22, k20, k5, k4, k3, k2, k1]) w24 w26) →
                      I1 [Value.pointer (some { block := k22, off := 0 }), Value.func (Fn.func y1) y2 y3] w26))) ∧
                  ∀ k23 : Nat,
                  (w24.heap.size ≤ k23) →
                  ∀ w27 : World,
                  (Locl ([k23, k20, k5, k4, k3, k2, k1]) w24 w27) →
                  mapIn (Kd.str) (w27) (Value.map p8) fun l2 =>
                  ((∃ c5 : Bool,
                    (mgot l2 (Value.string st1) Value.nilFunc = (Value.nilFunc, c5)) ∧
                    ∀ w28 : World,
                    (Locl ([k23, k20, k5, k4, k3, k2, k1]) w27 w28) →
                    I1 [Value.pointer (some { block := k23, off := 0 }), Value.nilFunc] w28) ∨
                  (∃ y4 : FuncId,
                    ∃ y5 : Array Value,
                    ∃ y6 : Array Value,
                    ∃ c6 : Bool,
                    (mgot l2 (Value.string st1) Value.nilFunc = (Value.func (Fn.func y4) y5 y6, c6)) ∧
                    ∀ w29 : World,
                    (Locl ([k23, k20, k5, k4, k3, k2, k1]) w27 w29) →
                    I1 [Value.pointer (some { block := k23, off := 0 }), Value.func (Fn.func y4) y5 y6] w29))) ∧
                ∀ k24 : Nat,
                (w22.heap.size ≤ k24) →
                ∀ w30 : World,
                (Locl ([k24, k20, k5, k4, k3, k2, k1]) w22 w30) →
                Calls P F.blend_sums #[] w30 fun e13 w31 =>
                ∃ p9 : Option Nat,
                (e13 = Ending.returned (Value.map p9)) ∧
                (Keep ([k24, k20, k5, k4, k3, k2, k1]) w30 w31) ∧
                (Keeps w30 w31) ∧
                mapIn (Kd.str) (w31) (Value.map p9) fun l3 =>
                ((∃ c7 : Bool,
                  (mgot l3 (Value.string st1) Value.nilFunc = (Value.nilFunc, c7)) ∧
                  ∀ w32 : World,
                  (Locl ([k24, k20, k5, k4, k3, k2, k1]) w31 w32) →
                  I1 [Value.pointer (some { block := k24, off := 0 }), Value.nilFunc] w32) ∨
                (∃ y7 : FuncId,
                  ∃ y8 : Array Value,
                  ∃ y9 : Array Value,
                  ∃ c8 : Bool,
                  (mgot l3 (Value.string st1) Value.nilFunc = (Value.func (Fn.func y7) y8 y9, c8)) ∧
                  ∀ w33 : World,
                  (Locl ([k24, k20, k5, k4, k3, k2, k1]) w31 w33) →
                  I1 [Value.pointer (some { block := k24, off := 0 }), Value.func (Fn.func y7) y8 y9] w33))) ∧
              ∀ k25 : Nat,
              ∀ v1 : Value,
              ∀ w34 : World,
              (I1 [Value.pointer (some { block := k25, off := 0 }), v1] w34) →
              Calls P F.grid_Grid_api_Color_All #[Value.pointer p7] w34 fun e14 w35 =>
              ∃ y10 : FuncId,
              ∃ y11 : Array Value,
              ∃ y12 : Array Value,
              (e14 = Ending.returned (Value.func (Fn.func y10) y11 y12)) ∧
              (Keep ([k25, k20, k5, k4, k3, k2, k1]) w34 w35) ∧
              ∀ k26 : Nat,
              ∀ w36 : World,
              (Rf w35 w36 k26) →
              ∀ I2 : List Value → World → Prop,
              ∀ Z1 : Exit → List Value → World → Prop,
              (∀ l4 : List Value,
              ∀ w37 : World,
              ∀ w38 : World,
              (I2 l4 w37) →
              (Keep ([k26, w35.heap.size, k25, k20, k5, k4, k3, k2, k1]) w37 w38) →
              I2 l4 w38) →
              (∀ y13 : Exit,
              ∀ l5 : List Value,
              ∀ w39 : World,
              ∀ w40 : World,
              (Z1 y13 l5 w39) →
              (Keep ([k26, w35.heap.size, k25, k20, k5, k4, k3, k2, k1]) w39 w40) →
              Z1 y13 l5 w40) →
              (I2 [] w36) →
              (∀ n24 : Int,
              ∀ n25 : Int,
              ∀ n26 : Int,
              ∀ n27 : Int,
              ∀ n28 : Int,
              ∀ n29 : Int,
              ∀ w41 : World,
              ∀ I3 : Ending → World → Prop,
              (I2 [] w41) →
              (∀ y14 : Obj,
              ∀ y15 : Obj,
              ∀ k27 : Nat,
              (w41.heap.size ≤ k27) →
              ∀ k28 : Nat,
              (w41.heap.size ≤ k28) →
              ∀ w42 : World,
              (Locl ([k28, k27, k25, k20, k5, k4, k3, k2, k1]) w41 w42) →
              ∀ w43 : World,
              (Put k26 w42 w43) →
              ∃ I4 : List Value → World → Prop,
              (∃ I5 : List Value → World → Prop,
                (brB (decide (st1 = { data := #[111, 118, 101, 114] }))
                    (idx (sa1) (sl1) (0) (1) fun a1 =>
                    ∃ n30 : Int,
                    (w43.drew.drew.cell? a1 = some (Value.int IntKind.i64 n30)) ∧
                    idx (sa1) (sl1) (1) (1) fun a2 =>
                    ∃ n31 : Int,
                    (w43.drew.drew.cell? a2 = some (Value.int IntKind.i64 n31)) ∧
                    I5 [Value.int IntKind.i64 (IntKind.i64.wrap (n24 - n30)), Value.int IntKind.i64 (IntKind.i64.wrap (n25 - n31))] w43.drew.drew)
                    (I5 [Value.int IntKind.i64 n24, Value.int IntKind.i64 n25] w43.drew)) ∧
                ∀ n32 : Int,
                ∀ n33 : Int,
                ∀ w44 : World,
                (I5 [Value.int IntKind.i64 n32, Value.int IntKind.i64 n33] w44) →
                Calls P F.raster_At #[Value.agg #[Value.int IntKind.i64 x3, Value.int IntKind.i64 x4, Value.slice sa3 sl3 sc3], Value.int IntKind.i64 n32, Value.int IntKind.i64 n33] w44 fun e15 w45 =>
                ∃ n34 : Int,
                ∃ n35 : Int,
                ∃ n36 : Int,
                ∃ n37 : Int,
                ∃ c9 : Bool,
                (e15 = Ending.returned (Value.tuple #[Value.agg #[Value.int IntKind.u16 n34, Value.int IntKind.u16 n35, Value.int IntKind.u16 n36, Value.int IntKind.u16 n37], Value.bool c9])) ∧
                (Keep ([k26, w35.heap.size, k28, k27, k25, k20, k5, k4, k3, k2, k1]) w44 w45) ∧
                ∀ k29 : Nat,
                (w45.heap.size ≤ k29) →
                ∃ I6 : List Value → World → Prop,
                (brB (!c9)
                    (∀ w46 : World,
                    (Locl ([k29, k28, k27, k25, k20, k5, k4, k3, k2, k1]) w45 w46) →
                    I4 [Value.int IntKind.u16 n26, Value.int IntKind.u16 n27, Value.int IntKind.u16 n28, Value.int IntKind.u16 n29] w46)
                    (brB (decide (st1 = { data := #[111, 118, 101, 114] }))
                      (∀ w47 : World,
                      (Locl ([k29, k28, k27, k25, k20, k5, k4, k3, k2, k1]) w45 w47) →
                      Calls P F.blend_over #[Value.agg #[Value.int IntKind.u16 n26, Value.int IntKind.u16 n27, Value.int IntKind.u16 n28, Value.int IntKind.u16 n29], Value.agg #[Value.int IntKind.u16 n34, Value.int IntKind.u16 n35, Value.int IntKind.u16 n36, Value.int IntKind.u16 n37]] w47 fun e16 w48 =>
                      ∃ n38 : Int,
                      ∃ n39 : Int,
                      ∃ n40 : Int,
                      ∃ n41 : Int,
                      (e16 = Ending.returned (Value.agg #[Value.int IntKind.u16 n38, Value.int IntKind.u16 n39, Value.int IntKind.u16 n40, Value.int IntKind.u16 n41])) ∧
                      (Keep ([k26, w35.heap.size, k29, k28, k27, k25, k20, k5, k4, k3, k2, k1]) w47 w48) ∧
                      ∀ w49 : World,
                      (Locl ([k29, k28, k27, k25, k20, k5, k4, k3, k2, k1]) w48 w49) →
                      I6 [Value.int IntKind.u16 n38, Value.int IntKind.u16 n39, Value.int IntKind.u16 n40, Value.int IntKind.u16 n41] w49)
                      (brB (decide (st1 = { data := #[109, 105, 120] }))
                        (idx (sa1) (sl1) (0) (1) fun a3 =>
                        ∀ w50 : World,
                        (Locl ([k29, k28, k27, k25, k20, k5, k4, k3, k2, k1]) w45 w50) →
                        ∃ n42 : Int,
                        (w50.cell? a3 = some (Value.int IntKind.i64 n42)) ∧
                        Calls P F.blend_mix #[Value.int IntKind.i64 n42] w50 fun e17 w51 =>
                        ∃ y16 : FuncId,
                        ∃ y17 : Array Value,
                        ∃ y18 : Array Value,
                        (e17 = Ending.returned (Value.func (Fn.func y16) y17 y18)) ∧
                        (Keep ([k26, w35.heap.size, k29, k28, k27, k25, k20, k5, k4, k3, k2, k1]) w50 w51) ∧
                        (Keeps w50 w51) ∧
                        callV P (Value.func (Fn.func y16) y17 y18) [Value.agg #[Value.int IntKind.i64 (IntKind.i64.wrap n29), Value.int IntKind.i64 (IntKind.i64.wrap n37)]] w51 fun e18 w52 =>
                        ∃ n43 : Int,
                        (e18 = Ending.returned (Value.int IntKind.i64 n43)) ∧
                        (Keep ([k26, w35.heap.size, k29, k28, k27, k25, k20, k5, k4, k3, k2, k1]) w51 w52) ∧
                        Calls P F.blend_clamp #[Value.int IntKind.i64 n43] w52 fun e19 w53 =>
                        ∃ n44 : Int,
                        (e19 = Ending.returned (Value.int IntKind.u16 n44)) ∧
                        (Keep ([k26, w35.heap.size, k29, k28, k27, k25, k20, k5, k4, k3, k2, k1]) w52 w53) ∧
                        idx (sa1) (sl1) (0) (1) fun a4 =>
                        ∃ n45 : Int,
                        (w53.drew.cell? a4 = some (Value.int IntKind.i64 n45)) ∧
                        Calls P F.blend_mix #[Value.int IntKind.i64 n45] (w53.drew) fun e20 w54 =>
                        ∃ y19 : FuncId,
                        ∃ y20 : Array Value,
                        ∃ y21 : Array Value,
                        (e20 = Ending.returned (Value.func (Fn.func y19) y20 y21)) ∧
                        (Keep ([k26, w35.heap.size, k29, k28, k27, k25, k20, k5, k4, k3, k2, k1]) (w53.drew) w54) ∧
                        (Keeps (w53.drew) w54) ∧
                        Calls P F.blend_three #[Value.agg #[Value.int IntKind.u16 n26, Value.int IntKind.u16 n27, Value.int IntKind.u16 n28, Value.int IntKind.u16 n29], Value.agg #[Value.int IntKind.u16 n34, Value.int IntKind.u16 n35, Value.int IntKind.u16 n36, Value.int IntKind.u16 n37], Value.func (Fn.func y19) y20 y21] w54 fun e21 w55 =>
                        ∃ n46 : Int,
                        ∃ n47 : Int,
                        ∃ n48 : Int,
                        ∃ n49 : Int,
                        (e21 = Ending.returned (Value.agg #[Value.int IntKind.u16 n46, Value.int IntKind.u16 n47, Value.int IntKind.u16 n48, Value.int IntKind.u16 n49])) ∧
                        (Keep ([k26, w35.heap.size, k29, k28, k27, k25, k20, k5, k4, k3, k2, k1]) w54 w55) ∧
                        ∀ w56 : World,
                        (Locl ([k29, k28, k27, k25, k20, k5, k4, k3, k2, k1]) w55 w56) →
                        I6 [Value.int IntKind.u16 n46, Value.int IntKind.u16 n47, Value.int IntKind.u16 n48, Value.int IntKind.u16 n44] w56)
                        (∀ w57 : World,
                        (Locl ([k29, k28, k27, k25, k20, k5, k4, k3, k2, k1]) w45 w57) →
                        Calls P F.blend_three #[Value.agg #[Value.int IntKind.u16 n26, Value.int IntKind.u16 n27, Value.int IntKind.u16 n28, Value.int IntKind.u16 n29], Value.agg #[Value.int IntKind.u16 n34, Value.int IntKind.u16 n35, Value.int IntKind.u16 n36, Value.int IntKind.u16 n37], v1] w57 fun e22 w58 =>
                        ∃ n50 : Int,
                        ∃ n51 : Int,
                        ∃ n52 : Int,
                        ∃ n53 : Int,
                        (e22 = Ending.returned (Value.agg #[Value.int IntKind.u16 n50, Value.int IntKind.u16 n51, Value.int IntKind.u16 n52, Value.int IntKind.u16 n53])) ∧
                        (Keep ([k26, w35.heap.size, k29, k28, k27, k25, k20, k5, k4, k3, k2, k1]) w57 w58) ∧
                        ∀ w59 : World,
                        (Locl ([k29, k28, k27, k25, k20, k5, k4, k3, k2, k1]) w58 w59) →
                        I6 [Value.int IntKind.u16 n50, Value.int IntKind.u16 n51, Value.int IntKind.u16 n52, Value.int IntKind.u16 n53] w59)))) ∧
                ∀ n54 : Int,
                ∀ n55 : Int,
                ∀ n56 : Int,
                ∀ n57 : Int,
                ∀ w60 : World,
                (I6 [Value.int IntKind.u16 n54, Value.int IntKind.u16 n55, Value.int IntKind.u16 n56, Value.int IntKind.u16 n57] w60) →
                brB (decide (st1 = { data := #[109, 97, 115, 107] }))
                  (Calls P F.tones_Luma #[Value.agg #[Value.int IntKind.u16 n34, Value.int IntKind.u16 n35, Value.int IntKind.u16 n36, Value.int IntKind.u16 n37]] (w60.drew) fun e23 w61 =>
                  ∃ n58 : Int,
                  (e23 = Ending.returned (Value.int IntKind.u16 n58)) ∧
                  (Keep ([k26, w35.heap.size, k29, k28, k27, k25, k20, k5, k4, k3, k2, k1]) (w60.drew) w61) ∧
                  (Keeps (w60.drew) w61) ∧
                  ∀ w62 : World,
                  (Locl ([k29, k28, k27, k25, k20, k5, k4, k3, k2, k1]) w61 w62) →
                  Calls P F.grid_Grid_api_Color_Set #[Value.pointer p7, Value.int IntKind.i64 n24, Value.int IntKind.i64 n25, Value.agg #[Value.int IntKind.u16 n54, Value.int IntKind.u16 n55, Value.int IntKind.u16 n56, Value.int IntKind.u16 (IntKind.u16.wrap (divZ BinOp.quo IntKind.i64 (IntKind.i64.wrap (IntKind.i64.wrap n57 * IntKind.i64.wrap n58)) 65535))]] w62 fun e24 w63 =>
                  ∃ c10 : Bool,
                  (e24 = Ending.returned (Value.bool c10)) ∧
                  (Keep ([k26, w35.heap.size, k29, k28, k27, k25, k20, k5, k4, k3, k2, k1]) w62 w63) ∧
                  I4 [Value.int IntKind.u16 n54, Value.int IntKind.u16 n55, Value.int IntKind.u16 n56, Value.int IntKind.u16 (IntKind.u16.wrap (divZ BinOp.quo IntKind.i64 (IntKind.i64.wrap (IntKind.i64.wrap n57 * IntKind.i64.wrap n58)) 65535))] w63)
                  (Calls P F.grid_Grid_api_Color_Set #[Value.pointer p7, Value.int IntKind.i64 n24, Value.int IntKind.i64 n25, Value.agg #[Value.int IntKind.u16 n54, Value.int IntKind.u16 n55, Value.int IntKind.u16 n56, Value.int IntKind.u16 n57]] w60 fun e25 w64 =>
                  ∃ c11 : Bool,
                  (e25 = Ending.returned (Value.bool c11)) ∧
                  (Keep ([k26, w35.heap.size, k29, k28, k27, k25, k20, k5, k4, k3, k2, k1]) w60 w64) ∧
                  I4 [Value.int IntKind.u16 n54, Value.int IntKind.u16 n55, Value.int IntKind.u16 n56, Value.int IntKind.u16 n57] w64)) ∧
              ∀ n59 : Int,
              ∀ n60 : Int,
              ∀ n61 : Int,
              ∀ n62 : Int,
              ∀ w65 : World,
              (I4 [Value.int IntKind.u16 n59, Value.int IntKind.u16 n60, Value.int IntKind.u16 n61, Value.int IntKind.u16 n62] w65) →
              ∀ w66 : World,
              (Put k26 w65 w66) →
              (I2 [] w66) →
              I3 (Ending.returned (Value.bool true)) w66) →
              YieldAt Fence.wide 0 P (k26) #[Value.agg #[Value.int IntKind.i64 n24, Value.int IntKind.i64 n25], Value.agg #[Value.int IntKind.u16 n26, Value.int IntKind.u16 n27, Value.int IntKind.u16 n28, Value.int IntKind.u16 n29]] (w41) I3) →
              callF P (Value.func (Fn.func y10) y11 y12) [Value.func (Fn.yield k26) #[] #[]] w36 fun e26 w67 =>
              ∃ v2 : Value,
              (e26 = Ending.returned v2) ∧
              (((I2 [] w67) ∧
                ∀ w68 : World,
                (Put k26 w67 w68) →
                Calls P F.raster_Of #[Value.pointer p7] w68 fun e27 w69 =>
                ∃ n63 : Int,
                ∃ n64 : Int,
                ∃ p10 : Option Addr,
                ∃ k30 : Nat,
                ∃ k31 : Nat,
                ∃ n65 : Int,
                (e27 = Ending.returned (Value.tuple #[Value.agg #[Value.int IntKind.i64 n63, Value.int IntKind.i64 n64, Value.slice p10 k30 k31], Value.int IntKind.i64 n65])) ∧
                (Keep ([w35.heap.size, k25, k20, k5, k4, k3, k2, k1]) w68 w69) ∧
                ∀ w70 : World,
                (Locl ([k25, k20, k5, k4, k3, k2, k1]) w69 w70) →
                ∀ w71 : World,
                (Put (w35.heap.size) w70 w71) →
                R (Ending.returned (Value.tuple #[Value.agg #[Value.int IntKind.i64 n63, Value.int IntKind.i64 n64, Value.slice p10 k30 k31], Value.int IntKind.i64 n65])) w71) ∨
              (False))))))))
theorem calls_blend_Apply (st1 : ByteArray) (sa1 : Option Addr) (sl1 sc1 : Nat) (x1 : Int) (x2 : Int) (sa2 : Option Addr) (sl2 sc2 : Nat) (x3 : Int) (x4 : Int) (sa3 : Option Addr) (sl3 sc3 : Nat) (w : World) (R : Ending → World → Prop) (h : vc_blend_Apply st1 sa1 sl1 sc1 x1 x2 sa2 sl2 sc2 x3 x4 sa3 sl3 sc3 w R) : Calls P F.blend_Apply #[.string st1, .slice sa1 sl1 sc1, .agg #[.int .i64 x1, .int .i64 x2, .slice sa2 sl2 sc2], .agg #[.int .i64 x3, .int .i64 x4, .slice sa3 sl3 sc3]] w R :=
  calls_of_vc (fn := Try.f17) (ac := ac_blend_Apply) (args := [.string st1, .slice sa1 sl1 sc1, .agg #[.int .i64 x1, .int .i64 x2, .slice sa2 sl2 sc2], .agg #[.int .i64 x3, .int .i64 x4, .slice sa3 sl3 sc3]]) mixed Try.func17 (by kernel_rfl) (cast (by unfold vc_blend_Apply FnVc; kernel_rfl) h)
/-- darkroom/darkroomlaw23.own -/
def vc_law23_own (x1 : Int) (x2 : Int) (sa1 : Option Addr) (sl1 sc1 : Nat) (w : World) (R : Ending → World → Prop) : Prop :=
  ∀ k1 : Nat,
  (w.heap.size ≤ k1) →
  ∀ k2 : Nat,
  (w.heap.size ≤ k2) →
  ∀ w1 : World,
  (Locl ([k2, k1]) w w1) →
  Calls P F.ref09_Copy #[Value.agg #[Value.int IntKind.i64 x1, Value.int IntKind.i64 x2, Value.slice sa1 sl1 sc1]] w1 fun e1 w2 =>
  ∃ n1 : Int,
  ∃ n2 : Int,
  ∃ p1 : Option Addr,
  ∃ k3 : Nat,
  ∃ k4 : Nat,
  (e1 = Ending.returned (Value.agg #[Value.int IntKind.i64 n1, Value.int IntKind.i64 n2, Value.slice p1 k3 k4])) ∧
  (Keep ([k2, k1]) w1 w2) ∧
  ∀ w3 : World,
  (Locl ([k2, k1]) w2 w3) →
  R (Ending.returned (Value.agg #[Value.int IntKind.i64 n1, Value.int IntKind.i64 n2, Value.slice p1 k3 k4])) w3
theorem calls_law23_own (x1 : Int) (x2 : Int) (sa1 : Option Addr) (sl1 sc1 : Nat) (w : World) (R : Ending → World → Prop) (h : vc_law23_own x1 x2 sa1 sl1 sc1 w R) : Calls P F.law23_own #[.agg #[.int .i64 x1, .int .i64 x2, .slice sa1 sl1 sc1]] w R :=
  calls_of_vc (fn := Try.f18) (ac := ac_law23_own) (args := [.agg #[.int .i64 x1, .int .i64 x2, .slice sa1 sl1 sc1]]) mixed Try.func18 (by kernel_rfl) (cast (by unfold vc_law23_own FnVc; kernel_rfl) h)
/-- darkroom/darkroomref23.Apply -/
def vc_ref23_Apply (st1 : ByteArray) (sa1 : Option Addr) (sl1 sc1 : Nat) (x1 : Int) (x2 : Int) (sa2 : Option Addr) (sl2 sc2 : Nat) (x3 : Int) (x4 : Int) (sa3 : Option Addr) (sl3 sc3 : Nat) (w : World) (R : Ending → World → Prop) : Prop :=
  ∀ k1 : Nat,
  (w.heap.size ≤ k1) →
  ∀ k2 : Nat,
  (w.heap.size ≤ k2) →
  ∀ k3 : Nat,
  (w.heap.size ≤ k3) →
  ∀ w1 : World,
  (Locl ([k3, k2, k1]) w w1) →
  Calls P F.ref23_Check #[Value.string st1, Value.slice sa1 sl1 sc1] w1 fun e1 w2 =>
  ∃ n1 : Int,
  (e1 = Ending.returned (Value.int IntKind.i64 n1)) ∧
  (Keep ([k3, k2, k1]) w1 w2) ∧
  brB (n1 != 0)
    (∀ w3 : World,
    (Locl ([k3, k2, k1]) w2 w3) →
    R (Ending.returned (Value.tuple #[Value.agg #[Value.int IntKind.i64 0, Value.int IntKind.i64 0, Value.slice none 0 0], Value.int IntKind.i64 n1])) w3)
    (Calls P F.ref09_Good #[Value.agg #[Value.int IntKind.i64 x1, Value.int IntKind.i64 x2, Value.slice sa2 sl2 sc2]] w2 fun e2 w4 =>
    ∃ c1 : Bool,
    (e2 = Ending.returned (Value.bool c1)) ∧
    (Keep ([k3, k2, k1]) w2 w4) ∧
    brB (!c1)
      (∀ w5 : World,
      (Locl ([k3, k2, k1]) w4 w5) →
      R (Ending.returned (Value.tuple #[Value.agg #[Value.int IntKind.i64 0, Value.int IntKind.i64 0, Value.slice none 0 0], Value.int IntKind.i64 6])) w5)
      (Calls P F.ref09_Good #[Value.agg #[Value.int IntKind.i64 x3, Value.int IntKind.i64 x4, Value.slice sa3 sl3 sc3]] w4 fun e3 w6 =>
      ∃ c2 : Bool,
      (e3 = Ending.returned (Value.bool c2)) ∧
      (Keep ([k3, k2, k1]) w4 w6) ∧
      brB (!c2)
        (∀ w7 : World,
        (Locl ([k3, k2, k1]) w6 w7) →
        R (Ending.returned (Value.tuple #[Value.agg #[Value.int IntKind.i64 0, Value.int IntKind.i64 0, Value.slice none 0 0], Value.int IntKind.i64 6])) w7)
        (Calls P F.ref23_Size #[Value.string st1, Value.slice sa1 sl1 sc1, Value.int IntKind.i64 x1, Value.int IntKind.i64 x2, Value.int IntKind.i64 x3, Value.int IntKind.i64 x4] w6 fun e4 w8 =>
        ∃ n2 : Int,
        ∃ n3 : Int,
        ∃ n4 : Int,
        (e4 = Ending.returned (Value.tuple #[Value.int IntKind.i64 n2, Value.int IntKind.i64 n3, Value.int IntKind.i64 n4])) ∧
        (Keep ([k3, k2, k1]) w6 w8) ∧
        brB (n4 != 0)
          (∀ w9 : World,
          (Locl ([k3, k2, k1]) w8 w9) →
          R (Ending.returned (Value.tuple #[Value.agg #[Value.int IntKind.i64 0, Value.int IntKind.i64 0, Value.slice none 0 0], Value.int IntKind.i64 n4])) w9)
          (∀ k4 : Nat,
          (w8.heap.size ≤ k4) →
          ∃ I1 : List Value → World → Prop,
          ∃ m1 : List Value → World → Nat,
          (∀ w10 : World,
            (Locl ([k4, k3, k2, k1]) w8 w10) →
            I1 [Value.int IntKind.i64 0, Value.int IntKind.i64 n2, Value.int IntKind.i64 n3, Value.slice none 0 0] w10) ∧
          ∀ n5 : Int,
          ∀ n6 : Int,
          ∀ n7 : Int,
          ∀ p1 : Option Addr,
          ∀ k5 : Nat,
          ∀ k6 : Nat,
          ∀ w11 : World,
          (I1 [Value.int IntKind.i64 n5, Value.int IntKind.i64 n6, Value.int IntKind.i64 n7, Value.slice p1 k5 k6] w11) →
          brB (decide (n5 < n3))
            (∃ I2 : List Value → World → Prop,
            ∃ m2 : List Value → World → Nat,
            (I2 [Value.int IntKind.i64 0, Value.int IntKind.i64 n6, Value.int IntKind.i64 n7, Value.slice p1 k5 k6] w11) ∧
            ∀ n8 : Int,
            ∀ n9 : Int,
            ∀ n10 : Int,
            ∀ p2 : Option Addr,
            ∀ k7 : Nat,
            ∀ k8 : Nat,
            ∀ w12 : World,
            (I2 [Value.int IntKind.i64 n8, Value.int IntKind.i64 n9, Value.int IntKind.i64 n10, Value.slice p2 k7 k8] w12) →
            brB (decide (n8 < n2))
              (Calls P F.ref23_pixel #[Value.string st1, Value.slice sa1 sl1 sc1, Value.agg #[Value.int IntKind.i64 x1, Value.int IntKind.i64 x2, Value.slice sa2 sl2 sc2], Value.agg #[Value.int IntKind.i64 x3, Value.int IntKind.i64 x4, Value.slice sa3 sl3 sc3], Value.int IntKind.i64 n8, Value.int IntKind.i64 n5] (w12.drew) fun e5 w13 =>
              ∃ n11 : Int,
              ∃ n12 : Int,
              ∃ n13 : Int,
              ∃ n14 : Int,
              (e5 = Ending.returned (Value.agg #[Value.int IntKind.u16 n11, Value.int IntKind.u16 n12, Value.int IntKind.u16 n13, Value.int IntKind.u16 n14])) ∧
              (Keep ([k4, k3, k2, k1]) (w12.drew) w13) ∧
              (Keeps (w12.drew) w13) ∧
              Calls P F.ref09_Add #[Value.agg #[Value.int IntKind.i64 n9, Value.int IntKind.i64 n10, Value.slice p2 k7 k8], Value.agg #[Value.int IntKind.u16 n11, Value.int IntKind.u16 n12, Value.int IntKind.u16 n13, Value.int IntKind.u16 n14]] w13 fun e6 w14 =>
              ∃ n15 : Int,
              ∃ n16 : Int,
              ∃ p3 : Option Addr,
              ∃ k9 : Nat,
              ∃ k10 : Nat,
              (e6 = Ending.returned (Value.agg #[Value.int IntKind.i64 n15, Value.int IntKind.i64 n16, Value.slice p3 k9 k10])) ∧
              (Keep ([k4, k3, k2, k1]) w13 w14) ∧
              ∀ w15 : World,
              (Locl ([k4, k3, k2, k1]) w14 w15) →
              (I2 [Value.int IntKind.i64 (IntKind.i64.wrap (n8 + 1)), Value.int IntKind.i64 n15, Value.int IntKind.i64 n16, Value.slice p3 k9 k10] w15) ∧
              m2 [Value.int IntKind.i64 (IntKind.i64.wrap (n8 + 1)), Value.int IntKind.i64 n15, Value.int IntKind.i64 n16, Value.slice p3 k9 k10] w15 < m2 [Value.int IntKind.i64 n8, Value.int IntKind.i64 n9, Value.int IntKind.i64 n10, Value.slice p2 k7 k8] w12)
              ((I1 [Value.int IntKind.i64 (IntKind.i64.wrap (n5 + 1)), Value.int IntKind.i64 n9, Value.int IntKind.i64 n10, Value.slice p2 k7 k8] w12) ∧
              m1 [Value.int IntKind.i64 (IntKind.i64.wrap (n5 + 1)), Value.int IntKind.i64 n9, Value.int IntKind.i64 n10, Value.slice p2 k7 k8] w12 < m1 [Value.int IntKind.i64 n5, Value.int IntKind.i64 n6, Value.int IntKind.i64 n7, Value.slice p1 k5 k6] w11))
            (∀ w16 : World,
            (Locl ([k4, k3, k2, k1]) w11 w16) →
            R (Ending.returned (Value.tuple #[Value.agg #[Value.int IntKind.i64 n6, Value.int IntKind.i64 n7, Value.slice p1 k5 k6], Value.int IntKind.i64 0])) w16)))))
theorem calls_ref23_Apply (st1 : ByteArray) (sa1 : Option Addr) (sl1 sc1 : Nat) (x1 : Int) (x2 : Int) (sa2 : Option Addr) (sl2 sc2 : Nat) (x3 : Int) (x4 : Int) (sa3 : Option Addr) (sl3 sc3 : Nat) (w : World) (R : Ending → World → Prop) (h : vc_ref23_Apply st1 sa1 sl1 sc1 x1 x2 sa2 sl2 sc2 x3 x4 sa3 sl3 sc3 w R) : Calls P F.ref23_Apply #[.string st1, .slice sa1 sl1 sc1, .agg #[.int .i64 x1, .int .i64 x2, .slice sa2 sl2 sc2], .agg #[.int .i64 x3, .int .i64 x4, .slice sa3 sl3 sc3]] w R :=
  calls_of_vc (fn := Try.f19) (ac := ac_ref23_Apply) (args := [.string st1, .slice sa1 sl1 sc1, .agg #[.int .i64 x1, .int .i64 x2, .slice sa2 sl2 sc2], .agg #[.int .i64 x3, .int .i64 x4, .slice sa3 sl3 sc3]]) mixed Try.func19 (by kernel_rfl) (cast (by unfold vc_ref23_Apply FnVc; kernel_rfl) h)
/-- darkroom/darkroomref09.Same -/
def vc_ref09_Same (x1 : Int) (x2 : Int) (sa1 : Option Addr) (sl1 sc1 : Nat) (x3 : Int) (x4 : Int) (sa2 : Option Addr) (sl2 sc2 : Nat) (w : World) (R : Ending → World → Prop) : Prop :=
  ∀ k1 : Nat,
  (w.heap.size ≤ k1) →
  ∀ k2 : Nat,
  (w.heap.size ≤ k2) →
  brB (x1 != x3 || x2 != x4 || (↑sl1 : Int) != (↑sl2 : Int))
    (∀ w1 : World,
    (Locl ([k2, k1]) w w1) →
    R (Ending.returned (Value.bool false)) w1)
    (∃ I1 : List Value → World → Prop,
    ∃ m1 : List Value → World → Nat,
    (∀ w2 : World,
      (Locl ([k2, k1]) w w2) →
      I1 [Value.int IntKind.i64 0] w2) ∧
    ∀ n1 : Int,
    ∀ w3 : World,
    (I1 [Value.int IntKind.i64 n1] w3) →
    brB (decide (n1 < (↑sl1 : Int)))
      (idx (sa1) (sl1) (n1) (1) fun a1 =>
      ∃ n2 : Int,
      (w3.drew.cell? a1 = some (Value.int IntKind.u16 n2)) ∧
      idx (sa2) (sl2) (n1) (1) fun a2 =>
      ∃ n3 : Int,
      (w3.drew.cell? a2 = some (Value.int IntKind.u16 n3)) ∧
      brB (n2 != n3)
        (R (Ending.returned (Value.bool false)) w3.drew)
        ((I1 [Value.int IntKind.i64 (IntKind.i64.wrap (n1 + 1))] w3.drew) ∧
        m1 [Value.int IntKind.i64 (IntKind.i64.wrap (n1 + 1))] w3.drew < m1 [Value.int IntKind.i64 n1] w3))
      (R (Ending.returned (Value.bool true)) w3))
theorem calls_ref09_Same (x1 : Int) (x2 : Int) (sa1 : Option Addr) (sl1 sc1 : Nat) (x3 : Int) (x4 : Int) (sa2 : Option Addr) (sl2 sc2 : Nat) (w : World) (R : Ending → World → Prop) (h : vc_ref09_Same x1 x2 sa1 sl1 sc1 x3 x4 sa2 sl2 sc2 w R) : Calls P F.ref09_Same #[.agg #[.int .i64 x1, .int .i64 x2, .slice sa1 sl1 sc1], .agg #[.int .i64 x3, .int .i64 x4, .slice sa2 sl2 sc2]] w R :=
  calls_of_vc (fn := Try.f20) (ac := ac_ref09_Same) (args := [.agg #[.int .i64 x1, .int .i64 x2, .slice sa1 sl1 sc1], .agg #[.int .i64 x3, .int .i64 x4, .slice sa2 sl2 sc2]]) mixed Try.func20 (by kernel_rfl) (cast (by unfold vc_ref09_Same FnVc; kernel_rfl) h)
/-- darkroom/darkroomlaw23.colours -/
def vc_law23_colours (x1 : Int) (x2 : Int) (sa1 : Option Addr) (sl1 sc1 : Nat) (x3 : Int) (x4 : Int) (sa2 : Option Addr) (sl2 sc2 : Nat) (w : World) (R : Ending → World → Prop) : Prop :=
  ∀ k1 : Nat,
  (w.heap.size ≤ k1) →
  ∀ k2 : Nat,
  (w.heap.size ≤ k2) →
  brB (x1 != x3 || x2 != x4 || (↑sl1 : Int) != (↑sl2 : Int))
    (∀ w1 : World,
    (Locl ([k2, k1]) w w1) →
    R (Ending.returned (Value.bool false)) w1)
    (∃ I1 : List Value → World → Prop,
    ∃ m1 : List Value → World → Nat,
    (∀ w2 : World,
      (Locl ([k2, k1]) w w2) →
      I1 [Value.int IntKind.i64 0] w2) ∧
    ∀ n1 : Int,
    ∀ w3 : World,
    (I1 [Value.int IntKind.i64 n1] w3) →
    brB (decide (n1 < (↑sl1 : Int)))
      (∃ I2 : List Value → World → Prop,
      (brB (divZ BinOp.rem IntKind.i64 n1 4 != 3)
          (idx (sa1) (sl1) (n1) (1) fun a1 =>
          ∃ n2 : Int,
          (w3.drew.cell? a1 = some (Value.int IntKind.u16 n2)) ∧
          idx (sa2) (sl2) (n1) (1) fun a2 =>
          ∃ n3 : Int,
          (w3.drew.cell? a2 = some (Value.int IntKind.u16 n3)) ∧
          brB (n2 != n3)
            (R (Ending.returned (Value.bool false)) w3.drew)
            (I2 [] w3.drew))
          (I2 [] w3.drew)) ∧
      ∀ w4 : World,
      (I2 [] w4) →
      (I1 [Value.int IntKind.i64 (IntKind.i64.wrap (n1 + 1))] w4) ∧
      m1 [Value.int IntKind.i64 (IntKind.i64.wrap (n1 + 1))] w4 < m1 [Value.int IntKind.i64 n1] w3)
      (R (Ending.returned (Value.bool true)) w3))
theorem calls_law23_colours (x1 : Int) (x2 : Int) (sa1 : Option Addr) (sl1 sc1 : Nat) (x3 : Int) (x4 : Int) (sa2 : Option Addr) (sl2 sc2 : Nat) (w : World) (R : Ending → World → Prop) (h : vc_law23_colours x1 x2 sa1 sl1 sc1 x3 x4 sa2 sl2 sc2 w R) : Calls P F.law23_colours #[.agg #[.int .i64 x1, .int .i64 x2, .slice sa1 sl1 sc1], .agg #[.int .i64 x3, .int .i64 x4, .slice sa2 sl2 sc2]] w R :=
  calls_of_vc (fn := Try.f21) (ac := ac_law23_colours) (args := [.agg #[.int .i64 x1, .int .i64 x2, .slice sa1 sl1 sc1], .agg #[.int .i64 x3, .int .i64 x4, .slice sa2 sl2 sc2]]) mixed Try.func21 (by kernel_rfl) (cast (by unfold vc_law23_colours FnVc; kernel_rfl) h)
/-- darkroom/darkroomref09.Good -/
def vc_ref09_Good (x1 : Int) (x2 : Int) (sa1 : Option Addr) (sl1 sc1 : Nat) (w : World) (R : Ending → World → Prop) : Prop :=
  ∀ k1 : Nat,
  (w.heap.size ≤ k1) →
  ∀ w1 : World,
  (Locl ([k1]) w w1) →
  Calls P F.ref07_Fits #[Value.int IntKind.i64 x1, Value.int IntKind.i64 x2] w1 fun e1 w2 =>
  ∃ c1 : Bool,
  (e1 = Ending.returned (Value.bool c1)) ∧
  (Keep ([k1]) w1 w2) ∧
  R (Ending.returned (Value.bool (c1 && (↑sl1 : Int) == IntKind.i64.wrap (IntKind.i64.wrap (4 * x1) * x2)))) w2
theorem calls_ref09_Good (x1 : Int) (x2 : Int) (sa1 : Option Addr) (sl1 sc1 : Nat) (w : World) (R : Ending → World → Prop) (h : vc_ref09_Good x1 x2 sa1 sl1 sc1 w R) : Calls P F.ref09_Good #[.agg #[.int .i64 x1, .int .i64 x2, .slice sa1 sl1 sc1]] w R :=
  calls_of_vc (fn := Try.f22) (ac := ac_ref09_Good) (args := [.agg #[.int .i64 x1, .int .i64 x2, .slice sa1 sl1 sc1]]) mixed Try.func22 (by kernel_rfl) (cast (by unfold vc_ref09_Good FnVc; kernel_rfl) h)
/-- darkroom/darkroomref09.Crop -/
def vc_ref09_Crop (x1 : Int) (x2 : Int) (sa1 : Option Addr) (sl1 sc1 : Nat) (x3 : Int) (x4 : Int) (x5 : Int) (x6 : Int) (w : World) (R : Ending → World → Prop) : Prop :=
  ∀ k1 : Nat,
  (w.heap.size ≤ k1) →
  ∀ k2 : Nat,
  (w.heap.size ≤ k2) →
  ∀ k3 : Nat,
  (w.heap.size ≤ k3) →
  ∀ w1 : World,
  (Locl ([k3, k2, k1]) w w1) →
  Calls P F.ref09_Good #[Value.agg #[Value.int IntKind.i64 x1, Value.int IntKind.i64 x2, Value.slice sa1 sl1 sc1]] w1 fun e1 w2 =>
  ∃ c1 : Bool,
  (e1 = Ending.returned (Value.bool c1)) ∧
  (Keep ([k3, k2, k1]) w1 w2) ∧
  brB (!c1)
    (∀ w3 : World,
    (Locl ([k3, k2, k1]) w2 w3) →
    R (Ending.returned (Value.tuple #[Value.agg #[Value.int IntKind.i64 0, Value.int IntKind.i64 0, Value.slice none 0 0], Value.int IntKind.i64 6])) w3)
    (Calls P F.ref07_Within #[Value.int IntKind.i64 x3, Value.int IntKind.i64 x4, Value.int IntKind.i64 x5, Value.int IntKind.i64 x6, Value.int IntKind.i64 x1, Value.int IntKind.i64 x2] w2 fun e2 w4 =>
    ∃ c2 : Bool,
    (e2 = Ending.returned (Value.bool c2)) ∧
    (Keep ([k3, k2, k1]) w2 w4) ∧
    brB (!c2)
      (∀ w5 : World,
      (Locl ([k3, k2, k1]) w4 w5) →
      R (Ending.returned (Value.tuple #[Value.agg #[Value.int IntKind.i64 0, Value.int IntKind.i64 0, Value.slice none 0 0], Value.int IntKind.i64 2])) w5)
      (∀ k4 : Nat,
      (w4.heap.size ≤ k4) →
      ∃ I1 : List Value → World → Prop,
      ∃ m1 : List Value → World → Nat,
      (∀ w6 : World,
        (Locl ([k4, k3, k2, k1]) w4 w6) →
        I1 [Value.int IntKind.i64 0, Value.int IntKind.i64 x5, Value.int IntKind.i64 x6, Value.slice none 0 0] w6) ∧
      ∀ n1 : Int,
      ∀ n2 : Int,
      ∀ n3 : Int,
      ∀ p1 : Option Addr,
      ∀ k5 : Nat,
      ∀ k6 : Nat,
      ∀ w7 : World,
      (I1 [Value.int IntKind.i64 n1, Value.int IntKind.i64 n2, Value.int IntKind.i64 n3, Value.slice p1 k5 k6] w7) →
      brB (decide (n1 < x6))
        (∃ I2 : List Value → World → Prop,
        ∃ m2 : List Value → World → Nat,
        (I2 [Value.int IntKind.i64 0, Value.int IntKind.i64 n2, Value.int IntKind.i64 n3, Value.slice p1 k5 k6] w7) ∧
        ∀ n4 : Int,
        ∀ n5 : Int,
        ∀ n6 : Int,
        ∀ p2 : Option Addr,
        ∀ k7 : Nat,
        ∀ k8 : Nat,
        ∀ w8 : World,
        (I2 [Value.int IntKind.i64 n4, Value.int IntKind.i64 n5, Value.int IntKind.i64 n6, Value.slice p2 k7 k8] w8) →
        brB (decide (n4 < x5))
          (Calls P F.ref09_Pixel #[Value.agg #[Value.int IntKind.i64 x1, Value.int IntKind.i64 x2, Value.slice sa1 sl1 sc1], Value.int IntKind.i64 (IntKind.i64.wrap (x3 + n4)), Value.int IntKind.i64 (IntKind.i64.wrap (x4 + n1))] (w8.drew) fun e3 w9 =>
          ∃ n7 : Int,
          ∃ n8 : Int,
          ∃ n9 : Int,
          ∃ n10 : Int,
          (e3 = Ending.returned (Value.agg #[Value.int IntKind.u16 n7, Value.int IntKind.u16 n8, Value.int IntKind.u16 n9, Value.int IntKind.u16 n10])) ∧
          (Keep ([k4, k3, k2, k1]) (w8.drew) w9) ∧
          (Keeps (w8.drew) w9) ∧
          Calls P F.ref09_Add #[Value.agg #[Value.int IntKind.i64 n5, Value.int IntKind.i64 n6, Value.slice p2 k7 k8], Value.agg #[Value.int IntKind.u16 n7, Value.int IntKind.u16 n8, Value.int IntKind.u16 n9, Value.int IntKind.u16 n10]] w9 fun e4 w10 =>
          ∃ n11 : Int,
          ∃ n12 : Int,
          ∃ p3 : Option Addr,
          ∃ k9 : Nat,
          ∃ k10 : Nat,
          (e4 = Ending.returned (Value.agg #[Value.int IntKind.i64 n11, Value.int IntKind.i64 n12, Value.slice p3 k9 k10])) ∧
          (Keep ([k4, k3, k2, k1]) w9 w10) ∧
          ∀ w11 : World,
          (Locl ([k4, k3, k2, k1]) w10 w11) →
          (I2 [Value.int IntKind.i64 (IntKind.i64.wrap (n4 + 1)), Value.int IntKind.i64 n11, Value.int IntKind.i64 n12, Value.slice p3 k9 k10] w11) ∧
          m2 [Value.int IntKind.i64 (IntKind.i64.wrap (n4 + 1)), Value.int IntKind.i64 n11, Value.int IntKind.i64 n12, Value.slice p3 k9 k10] w11 < m2 [Value.int IntKind.i64 n4, Value.int IntKind.i64 n5, Value.int IntKind.i64 n6, Value.slice p2 k7 k8] w8)
          ((I1 [Value.int IntKind.i64 (IntKind.i64.wrap (n1 + 1)), Value.int IntKind.i64 n5, Value.int IntKind.i64 n6, Value.slice p2 k7 k8] w8) ∧
          m1 [Value.int IntKind.i64 (IntKind.i64.wrap (n1 + 1)), Value.int IntKind.i64 n5, Value.int IntKind.i64 n6, Value.slice p2 k7 k8] w8 < m1 [Value.int IntKind.i64 n1, Value.int IntKind.i64 n2, Value.int IntKind.i64 n3, Value.slice p1 k5 k6] w7))
        (∀ w12 : World,
        (Locl ([k4, k3, k2, k1]) w7 w12) →
        R (Ending.returned (Value.tuple #[Value.agg #[Value.int IntKind.i64 n2, Value.int IntKind.i64 n3, Value.slice p1 k5 k6], Value.int IntKind.i64 0])) w12)))
theorem calls_ref09_Crop (x1 : Int) (x2 : Int) (sa1 : Option Addr) (sl1 sc1 : Nat) (x3 : Int) (x4 : Int) (x5 : Int) (x6 : Int) (w : World) (R : Ending → World → Prop) (h : vc_ref09_Crop x1 x2 sa1 sl1 sc1 x3 x4 x5 x6 w R) : Calls P F.ref09_Crop #[.agg #[.int .i64 x1, .int .i64 x2, .slice sa1 sl1 sc1], .agg #[.int .i64 x3, .int .i64 x4, .int .i64 x5, .int .i64 x6]] w R :=
  calls_of_vc (fn := Try.f23) (ac := ac_ref09_Crop) (args := [.agg #[.int .i64 x1, .int .i64 x2, .slice sa1 sl1 sc1], .agg #[.int .i64 x3, .int .i64 x4, .int .i64 x5, .int .i64 x6]]) mixed Try.func23 (by kernel_rfl) (cast (by unfold vc_ref09_Crop FnVc; kernel_rfl) h)
/-- darkroom/blend.fits -/
def vc_blend_fits (x1 : Int) (x2 : Int) (w : World) (R : Ending → World → Prop) : Prop :=
  R (Ending.returned (Value.bool (decide (min x1 x2 ≥ 1) && decide (max x1 x2 ≤ 4096) && decide (IntKind.i64.wrap (x1 * x2) ≤ 65536)))) w
theorem calls_blend_fits (x1 : Int) (x2 : Int) (w : World) (R : Ending → World → Prop) (h : vc_blend_fits x1 x2 w R) : Calls P F.blend_fits #[.int .i64 x1, .int .i64 x2] w R :=
  calls_of_vc (fn := Try.f24) (ac := ac_blend_fits) (args := [.int .i64 x1, .int .i64 x2]) mixed Try.func24 (by kernel_rfl) (cast (by unfold vc_blend_fits FnVc; kernel_rfl) h)
/-- darkroom/darkroomref07.Fits -/
def vc_ref07_Fits (x1 : Int) (x2 : Int) (w : World) (R : Ending → World → Prop) : Prop :=
  R (Ending.returned (Value.bool (decide (x1 ≥ 1) && decide (x2 ≥ 1) && decide (x1 ≤ 4096) && decide (x2 ≤ 4096) && decide (IntKind.i64.wrap (x1 * x2) ≤ 65536)))) w
theorem calls_ref07_Fits (x1 : Int) (x2 : Int) (w : World) (R : Ending → World → Prop) (h : vc_ref07_Fits x1 x2 w R) : Calls P F.ref07_Fits #[.int .i64 x1, .int .i64 x2] w R :=
  calls_of_vc (fn := Try.f25) (ac := ac_ref07_Fits) (args := [.int .i64 x1, .int .i64 x2]) mixed Try.func25 (by kernel_rfl) (cast (by unfold vc_ref07_Fits FnVc; kernel_rfl) h)
/-- darkroom/blend.sums -/
def vc_blend_sums  (w : World) (R : Ending → World → Prop) : Prop :=
  ∀ k1 : Nat,
  ∀ w1 : World,
  (New w (Obj.map #[] 0) k1 w1) →
  mapTo (Kd.str) (w1) (Value.map (some k1)) fun b1 l1 =>
  ∀ w2 : World,
  (Put b1 w1 w2) →
  (Mp (Kd.str) w2 b1 (mput (Value.string { data := #[112, 108, 117, 115] }) (Value.func (Fn.func 47) #[] #[]) l1)) →
  mapTo (Kd.str) (w2) (Value.map (some k1)) fun b2 l2 =>
  ∀ w3 : World,
  (Put b2 w2 w3) →
  (Mp (Kd.str) w3 b2 (mput (Value.string { data := #[109, 105, 110, 117, 115] }) (Value.func (Fn.func 48) #[] #[]) l2)) →
  mapTo (Kd.str) (w3) (Value.map (some k1)) fun b3 l3 =>
  ∀ w4 : World,
  (Put b3 w3 w4) →
  (Mp (Kd.str) w4 b3 (mput (Value.string { data := #[116, 105, 109, 101, 115] }) (Value.func (Fn.func 49) #[] #[]) l3)) →
  mapTo (Kd.str) (w4) (Value.map (some k1)) fun b4 l4 =>
  ∀ w5 : World,
  (Put b4 w4 w5) →
  (Mp (Kd.str) w5 b4 (mput (Value.string { data := #[115, 99, 114, 101, 101, 110] }) (Value.func (Fn.func 50) #[] #[]) l4)) →
  mapTo (Kd.str) (w5) (Value.map (some k1)) fun b5 l5 =>
  ∀ w6 : World,
  (Put b5 w5 w6) →
  (Mp (Kd.str) w6 b5 (mput (Value.string { data := #[100, 105, 102, 102, 101, 114] }) (Value.func (Fn.func 51) #[] #[]) l5)) →
  mapTo (Kd.str) (w6) (Value.map (some k1)) fun b6 l6 =>
  ∀ w7 : World,
  (Put b6 w6 w7) →
  (Mp (Kd.str) w7 b6 (mput (Value.string { data := #[108, 105, 103, 104, 116, 101, 114] }) (Value.func (Fn.func 52) #[] #[]) l6)) →
  mapTo (Kd.str) (w7) (Value.map (some k1)) fun b7 l7 =>
  ∀ w8 : World,
  (Put b7 w7 w8) →
  (Mp (Kd.str) w8 b7 (mput (Value.string { data := #[100, 97, 114, 107, 101, 114] }) (Value.func (Fn.func 53) #[] #[]) l7)) →
  mapTo (Kd.str) (w8) (Value.map (some k1)) fun b8 l8 =>
  ∀ w9 : World,
  (Put b8 w8 w9) →
  (Mp (Kd.str) w9 b8 (mput (Value.string { data := #[109, 97, 115, 107] }) (Value.func (Fn.func 54) #[] #[]) l8)) →
  R (Ending.returned (Value.map (some k1))) w9
theorem calls_blend_sums  (w : World) (R : Ending → World → Prop) (h : vc_blend_sums  w R) : Calls P F.blend_sums #[] w R :=
  calls_of_vc (fn := Try.f26) (ac := ac_blend_sums) (args := []) mixed Try.func26 (by kernel_rfl) (cast (by unfold vc_blend_sums FnVc; kernel_rfl) h)
/-- darkroom/darkroomref20.In -/
def vc_ref20_In (st1 : ByteArray) (sa1 : Option Addr) (sl1 sc1 : Nat) (w : World) (R : Ending → World → Prop) : Prop :=
  ∃ I1 : List Value → World → Prop,
  ∃ m1 : List Value → World → Nat,
  (I1 [Value.int IntKind.i64 0] w) ∧
  ∀ n1 : Int,
  ∀ w1 : World,
  (I1 [Value.int IntKind.i64 n1] w1) →
  brB (decide (n1 < (↑sl1 : Int)))
    (idx (sa1) (sl1) (n1) (1) fun a1 =>
    ∃ s1 : ByteArray,
    (w1.cell? a1 = some (Value.string s1)) ∧
    brB (decide (s1 = st1))
      (R (Ending.returned (Value.bool true)) w1)
      ((I1 [Value.int IntKind.i64 (IntKind.i64.wrap (n1 + 1))] w1) ∧
      m1 [Value.int IntKind.i64 (IntKind.i64.wrap (n1 + 1))] w1 < m1 [Value.int IntKind.i64 n1] w1))
    (R (Ending.returned (Value.bool false)) w1)
theorem calls_ref20_In (st1 : ByteArray) (sa1 : Option Addr) (sl1 sc1 : Nat) (w : World) (R : Ending → World → Prop) (h : vc_ref20_In st1 sa1 sl1 sc1 w R) : Calls P F.ref20_In #[.string st1, .slice sa1 sl1 sc1] w R :=
  calls_of_vc (fn := Try.f27) (ac := ac_ref20_In) (args := [.string st1, .slice sa1 sl1 sc1]) mixed Try.func27 (by kernel_rfl) (cast (by unfold vc_ref20_In FnVc; kernel_rfl) h)
/-- darkroom/darkroomref20.Fit -/
def vc_ref20_Fit (sa1 : Option Addr) (sl1 sc1 : Nat) (sa2 : Option Addr) (sl2 sc2 : Nat) (w : World) (R : Ending → World → Prop) : Prop :=
  brB (IntKind.i64.wrap (2 * (↑sl1 : Int)) != (↑sl2 : Int))
    (R (Ending.returned (Value.bool false)) w)
    (∃ I1 : List Value → World → Prop,
    ∃ m1 : List Value → World → Nat,
    (I1 [Value.int IntKind.i64 0] w) ∧
    ∀ n1 : Int,
    ∀ w1 : World,
    (I1 [Value.int IntKind.i64 n1] w1) →
    brB (decide (n1 < (↑sl1 : Int)))
      (idx (sa1) (sl1) (n1) (1) fun a1 =>
      ∃ n2 : Int,
      (w1.drew.cell? a1 = some (Value.int IntKind.i64 n2)) ∧
      idx (sa2) (sl2) (IntKind.i64.wrap (2 * n1)) (1) fun a2 =>
      ∃ n3 : Int,
      (w1.drew.cell? a2 = some (Value.int IntKind.i64 n3)) ∧
      brB (decide (n2 < n3))
        (R (Ending.returned (Value.bool false)) w1.drew)
        (idx (sa1) (sl1) (n1) (1) fun a3 =>
        ∃ n4 : Int,
        (w1.drew.cell? a3 = some (Value.int IntKind.i64 n4)) ∧
        idx (sa2) (sl2) (IntKind.i64.wrap (IntKind.i64.wrap (2 * n1) + 1)) (1) fun a4 =>
        ∃ n5 : Int,
        (w1.drew.cell? a4 = some (Value.int IntKind.i64 n5)) ∧
        brB (decide (n4 > n5))
          (R (Ending.returned (Value.bool false)) w1.drew)
          ((I1 [Value.int IntKind.i64 (IntKind.i64.wrap (n1 + 1))] w1.drew) ∧
          m1 [Value.int IntKind.i64 (IntKind.i64.wrap (n1 + 1))] w1.drew < m1 [Value.int IntKind.i64 n1] w1)))
      (R (Ending.returned (Value.bool true)) w1))
theorem calls_ref20_Fit (sa1 : Option Addr) (sl1 sc1 : Nat) (sa2 : Option Addr) (sl2 sc2 : Nat) (w : World) (R : Ending → World → Prop) (h : vc_ref20_Fit sa1 sl1 sc1 sa2 sl2 sc2 w R) : Calls P F.ref20_Fit #[.slice sa1 sl1 sc1, .slice sa2 sl2 sc2] w R :=
  calls_of_vc (fn := Try.f28) (ac := ac_ref20_Fit) (args := [.slice sa1 sl1 sc1, .slice sa2 sl2 sc2]) mixed Try.func28 (by kernel_rfl) (cast (by unfold vc_ref20_Fit FnVc; kernel_rfl) h)
/-- darkroom/raster.Good -/
def vc_raster_Good (x1 : Int) (x2 : Int) (sa1 : Option Addr) (sl1 sc1 : Nat) (w : World) (R : Ending → World → Prop) : Prop :=
  ∀ k1 : Nat,
  (w.heap.size ≤ k1) →
  ∀ w1 : World,
  (Locl ([k1]) w w1) →
  R (Ending.returned (Value.bool (decide (min x1 x2 ≥ 1) && decide (max x1 x2 ≤ 4096) && decide (IntKind.i64.wrap (x1 * x2) ≤ 65536) && (↑sl1 : Int) == IntKind.i64.wrap (IntKind.i64.wrap (4 * x1) * x2)))) w1
theorem calls_raster_Good (x1 : Int) (x2 : Int) (sa1 : Option Addr) (sl1 sc1 : Nat) (w : World) (R : Ending → World → Prop) (h : vc_raster_Good x1 x2 sa1 sl1 sc1 w R) : Calls P F.raster_Good #[.agg #[.int .i64 x1, .int .i64 x2, .slice sa1 sl1 sc1]] w R :=
  calls_of_vc (fn := Try.f29) (ac := ac_raster_Good) (args := [.agg #[.int .i64 x1, .int .i64 x2, .slice sa1 sl1 sc1]]) mixed Try.func29 (by kernel_rfl) (cast (by unfold vc_raster_Good FnVc; kernel_rfl) h)
/-- darkroom/raster.Fill -/
def vc_raster_Fill (x1 : Int) (x2 : Int) (x3 : Int) (x4 : Int) (x5 : Int) (x6 : Int) (w : World) (R : Ending → World → Prop) : Prop :=
  ∀ k1 : Nat,
  ∀ w1 : World,
  (New w (Obj.cells #[Value.int IntKind.u16 x3, Value.int IntKind.u16 x4, Value.int IntKind.u16 x5, Value.int IntKind.u16 x6] 63) k1 w1) →
  ∀ k2 : Nat,
  (w1.heap.size ≤ k2) →
  ∀ w2 : World,
  (Locl ([k2]) w1 w2) →
  Calls P F.grid_New_api_Color #[Value.int IntKind.i64 x1, Value.int IntKind.i64 x2] w2 fun e1 w3 =>
  ∃ p1 : Option Addr,
  ∃ n1 : Int,
  (e1 = Ending.returned (Value.tuple #[Value.pointer p1, Value.int IntKind.i64 n1])) ∧
  (Keep ([k2]) w2 w3) ∧
  brB (n1 != 0)
    (∀ w4 : World,
    (Locl ([k2]) w3 w4) →
    R (Ending.returned (Value.tuple #[Value.agg #[Value.int IntKind.i64 0, Value.int IntKind.i64 0, Value.slice none 0 0], Value.int IntKind.i64 n1])) w4)
    (Calls P F.grid_Map_api_Color_api_Color #[Value.pointer p1, Value.func (Fn.func 57) #[] #[Value.pointer (some { block := k1, off := 0 })]] w3 fun e2 w5 =>
    ∃ p2 : Option Addr,
    (e2 = Ending.returned (Value.pointer p2)) ∧
    (Keep ([k2]) w3 w5) ∧
    Calls P F.raster_Of #[Value.pointer p2] w5 fun e3 w6 =>
    ∃ n2 : Int,
    ∃ n3 : Int,
    ∃ p3 : Option Addr,
    ∃ k3 : Nat,
    ∃ k4 : Nat,
    ∃ n4 : Int,
    (e3 = Ending.returned (Value.tuple #[Value.agg #[Value.int IntKind.i64 n2, Value.int IntKind.i64 n3, Value.slice p3 k3 k4], Value.int IntKind.i64 n4])) ∧
    (Keep ([k2]) w5 w6) ∧
    ∀ w7 : World,
    (Locl ([k2]) w6 w7) →
    R (Ending.returned (Value.tuple #[Value.agg #[Value.int IntKind.i64 n2, Value.int IntKind.i64 n3, Value.slice p3 k3 k4], Value.int IntKind.i64 n4])) w7)
theorem calls_raster_Fill (x1 : Int) (x2 : Int) (x3 : Int) (x4 : Int) (x5 : Int) (x6 : Int) (w : World) (R : Ending → World → Prop) (h : vc_raster_Fill x1 x2 x3 x4 x5 x6 w R) : Calls P F.raster_Fill #[.int .i64 x1, .int .i64 x2, .agg #[.int .u16 x3, .int .u16 x4, .int .u16 x5, .int .u16 x6]] w R :=
  calls_of_vc (fn := Try.f30) (ac := ac_raster_Fill) (args := [.int .i64 x1, .int .i64 x2, .agg #[.int .u16 x3, .int .u16 x4, .int .u16 x5, .int .u16 x6]]) mixed Try.func30 (by kernel_rfl) (cast (by unfold vc_raster_Fill FnVc; kernel_rfl) h)
/-- darkroom/raster.Paste -/
def vc_raster_Paste (x1 : Int) (x2 : Int) (sa1 : Option Addr) (sl1 sc1 : Nat) (x3 : Int) (x4 : Int) (sa2 : Option Addr) (sl2 sc2 : Nat) (x5 : Int) (x6 : Int) (w : World) (R : Ending → World → Prop) : Prop :=
  ∀ k1 : Nat,
  (w.heap.size ≤ k1) →
  ∀ k2 : Nat,
  (w.heap.size ≤ k2) →
  ∀ k3 : Nat,
  (w.heap.size ≤ k3) →
  ∀ w1 : World,
  (Locl ([k3, k2, k1]) w w1) →
  Calls P F.raster_Good #[Value.agg #[Value.int IntKind.i64 x1, Value.int IntKind.i64 x2, Value.slice sa1 sl1 sc1]] w1 fun e1 w2 =>
  ∃ c1 : Bool,
  (e1 = Ending.returned (Value.bool c1)) ∧
  (Keep ([k3, k2, k1]) w1 w2) ∧
  brB (!c1)
    (∀ w3 : World,
    (Locl ([k3, k2, k1]) w2 w3) →
    R (Ending.returned (Value.tuple #[Value.agg #[Value.int IntKind.i64 0, Value.int IntKind.i64 0, Value.slice none 0 0], Value.int IntKind.i64 6])) w3)
    (Calls P F.raster_Good #[Value.agg #[Value.int IntKind.i64 x3, Value.int IntKind.i64 x4, Value.slice sa2 sl2 sc2]] w2 fun e2 w4 =>
    ∃ c2 : Bool,
    (e2 = Ending.returned (Value.bool c2)) ∧
    (Keep ([k3, k2, k1]) w2 w4) ∧
    brB (!c2)
      (∀ w5 : World,
      (Locl ([k3, k2, k1]) w4 w5) →
      R (Ending.returned (Value.tuple #[Value.agg #[Value.int IntKind.i64 0, Value.int IntKind.i64 0, Value.slice none 0 0], Value.int IntKind.i64 6])) w5)
      (∃ I1 : List Value → World → Prop,
      ((Calls P F.slices_Clone_uint16 #[Value.slice sa1 sl1 sc1] (w4.drew) fun e3 w6 =>
          ∃ p1 : Option Addr,
          ∃ k4 : Nat,
          ∃ k5 : Nat,
          (e3 = Ending.returned (Value.slice p1 k4 k5)) ∧
          (Keep ([k3, k2, k1]) (w4.drew) w6) ∧
          (Keeps (w4.drew) w6) ∧
          ∀ k6 : Nat,
          (w6.heap.size ≤ k6) →
          ∀ w7 : World,
          (Locl ([k6, k3, k2, k1]) w6 w7) →
          I1 [Value.pointer (some { block := k6, off := 0 }), Value.int IntKind.i64 x1, Value.int IntKind.i64 x2, Value.slice p1 k4 k5] w7) ∧
        ∀ k7 : Nat,
        (w4.drew.heap.size ≤ k7) →
        ∀ w8 : World,
        (Locl ([k7, k3, k2, k1]) (w4.drew) w8) →
        Calls P F.slices_Clone_uint16 #[Value.slice sa1 sl1 sc1] w8 fun e4 w9 =>
        ∃ p2 : Option Addr,
        ∃ k8 : Nat,
        ∃ k9 : Nat,
        (e4 = Ending.returned (Value.slice p2 k8 k9)) ∧
        (Keep ([k7, k3, k2, k1]) w8 w9) ∧
        (Keeps w8 w9) ∧
        ∀ w10 : World,
        (Locl ([k7, k3, k2, k1]) w9 w10) →
        I1 [Value.pointer (some { block := k7, off := 0 }), Value.int IntKind.i64 x1, Value.int IntKind.i64 x2, Value.slice p2 k8 k9] w10) ∧
      ∀ k10 : Nat,
      ∀ n1 : Int,
      ∀ n2 : Int,
      ∀ p3 : Option Addr,
      ∀ k11 : Nat,
      ∀ k12 : Nat,
      ∀ w11 : World,
      (I1 [Value.pointer (some { block := k10, off := 0 }), Value.int IntKind.i64 n1, Value.int IntKind.i64 n2, Value.slice p3 k11 k12] w11) →
      brB (decide (x5 ≤ IntKind.i64.wrap (0 - x3)) || decide (x6 ≤ IntKind.i64.wrap (0 - x4)) || decide (x5 ≥ x1) || decide (x6 ≥ x2))
        (∀ w12 : World,
        (Locl ([k10, k3, k2, k1]) w11 w12) →
        R (Ending.returned (Value.tuple #[Value.agg #[Value.int IntKind.i64 n1, Value.int IntKind.i64 n2, Value.slice p3 k11 k12], Value.int IntKind.i64 0])) w12)
        (∃ I2 : List Value → World → Prop,
        ∃ m1 : List Value → World → Nat,
        (I2 [Value.int IntKind.i64 (max 0 (IntKind.i64.wrap (0 - x6)))] w11) ∧
        ∀ n3 : Int,
        ∀ w13 : World,
        (I2 [Value.int IntKind.i64 n3] w13) →
        brB (decide (n3 < x4) && decide (IntKind.i64.wrap (x6 + n3) < x2))
          (∃ I3 : List Value → World → Prop,
          ∃ m2 : List Value → World → Nat,
          (I3 [Value.int IntKind.i64 (max 0 (IntKind.i64.wrap (0 - x5)))] w13) ∧
          ∀ n4 : Int,
          ∀ w14 : World,
          (I3 [Value.int IntKind.i64 n4] w14) →
          brB (decide (n4 < x3) && decide (IntKind.i64.wrap (x5 + n4) < x1))
            (slcc (p3) (k12) (IntKind.i64.wrap (4 * IntKind.i64.wrap (IntKind.i64.wrap (IntKind.i64.wrap (IntKind.i64.wrap (x6 + n3) * x1) + x5) + n4))) ((↑k11 : Int)) (1) fun p4 k13 k14 =>
            slcc (sa2) (sc2) (IntKind.i64.wrap (4 * IntKind.i64.wrap (IntKind.i64.wrap (n3 * x3) + n4))) (IntKind.i64.wrap (IntKind.i64.wrap (4 * IntKind.i64.wrap (IntKind.i64.wrap (n3 * x3) + n4)) + 4)) (1) fun p5 k15 k16 =>
            ∃ l1 : List Value,
            (l1.length = min k15 k13 * 1) ∧
            (oneAll l1 = true) ∧
            (CellsAre (w14.drew) p5 l1) ∧
            (((l1 = []) ∧
              (I3 [Value.int IntKind.i64 (IntKind.i64.wrap (n4 + 1))] w14.drew) ∧
              m2 [Value.int IntKind.i64 (IntKind.i64.wrap (n4 + 1))] w14.drew < m2 [Value.int IntKind.i64 n4] w14) ∨
            (∃ a1 : Addr,
              (p4 = some a1) ∧
              (CanSet (w14.drew) a1 (l1.length)) ∧
              (¬a1.block ∈ [k10, k3, k2, k1]) ∧
              (I3 [Value.int IntKind.i64 (IntKind.i64.wrap (n4 + 1))] (setCells w14.drew a1 l1 0)) ∧
              m2 [Value.int IntKind.i64 (IntKind.i64.wrap (n4 + 1))] (setCells w14.drew a1 l1 0) < m2 [Value.int IntKind.i64 n4] w14)))
            ((I2 [Value.int IntKind.i64 (IntKind.i64.wrap (n3 + 1))] w14) ∧
            m1 [Value.int IntKind.i64 (IntKind.i64.wrap (n3 + 1))] w14 < m1 [Value.int IntKind.i64 n3] w13))
          (∀ w15 : World,
          (Locl ([k10, k3, k2, k1]) w13 w15) →
          R (Ending.returned (Value.tuple #[Value.agg #[Value.int IntKind.i64 n1, Value.int IntKind.i64 n2, Value.slice p3 k11 k12], Value.int IntKind.i64 0])) w15))))
theorem calls_raster_Paste (x1 : Int) (x2 : Int) (sa1 : Option Addr) (sl1 sc1 : Nat) (x3 : Int) (x4 : Int) (sa2 : Option Addr) (sl2 sc2 : Nat) (x5 : Int) (x6 : Int) (w : World) (R : Ending → World → Prop) (h : vc_raster_Paste x1 x2 sa1 sl1 sc1 x3 x4 sa2 sl2 sc2 x5 x6 w R) : Calls P F.raster_Paste #[.agg #[.int .i64 x1, .int .i64 x2, .slice sa1 sl1 sc1], .agg #[.int .i64 x3, .int .i64 x4, .slice sa2 sl2 sc2], .int .i64 x5, .int .i64 x6] w R :=
  calls_of_vc (fn := Try.f31) (ac := ac_raster_Paste) (args := [.agg #[.int .i64 x1, .int .i64 x2, .slice sa1 sl1 sc1], .agg #[.int .i64 x3, .int .i64 x4, .slice sa2 sl2 sc2], .int .i64 x5, .int .i64 x6]) mixed Try.func31 (by kernel_rfl) (cast (by unfold vc_raster_Paste FnVc; kernel_rfl) h)
/-- darkroom/raster.Grid -/
def vc_raster_Grid (x1 : Int) (x2 : Int) (sa1 : Option Addr) (sl1 sc1 : Nat) (w : World) (R : Ending → World → Prop) : Prop :=
  ∀ k1 : Nat,
  (w.heap.size ≤ k1) →
  ∀ w1 : World,
  (Locl ([k1]) w w1) →
  Calls P F.raster_Good #[Value.agg #[Value.int IntKind.i64 x1, Value.int IntKind.i64 x2, Value.slice sa1 sl1 sc1]] w1 fun e1 w2 =>
  ∃ c1 : Bool,
  (e1 = Ending.returned (Value.bool c1)) ∧
  (Keep ([k1]) w1 w2) ∧
  brB (!c1)
    (R (Ending.returned (Value.tuple #[Value.pointer none, Value.int IntKind.i64 6])) w2)
    (((0 : Int) ≤ 0) ∧
    (0 ≤ IntKind.i64.wrap (x1 * x2)) ∧
    (IntKind.i64.wrap (x1 * x2) * 8 ≤ 281474976710656) ∧
    (IntKind.i64.wrap (x1 * x2) < 4611686018427387904) ∧
    ∀ k2 : Nat,
    ∀ w3 : World,
    (New w2 (Obj.cells (mkCells [Value.int IntKind.u16 0, Value.int IntKind.u16 0, Value.int IntKind.u16 0, Value.int IntKind.u16 0] (IntKind.i64.wrap (x1 * x2)).toNat) 63) k2 w3) →
    ∀ k3 : Nat,
    (w3.heap.size ≤ k3) →
    ∀ w4 : World,
    (Locl ([k3, k1]) w3 w4) →
    Calls P F.slices_Chunk_uint16 #[Value.slice sa1 sl1 sc1, Value.int IntKind.i64 4] w4 fun e2 w5 =>
    ∃ y1 : FuncId,
    ∃ y2 : Array Value,
    ∃ y3 : Array Value,
    (e2 = Ending.returned (Value.func (Fn.func y1) y2 y3)) ∧
    (Keep ([k3, k1]) w4 w5) ∧
    ∀ k4 : Nat,
    ∀ w6 : World,
    (Rf w5 w6 k4) →
    ∀ I1 : List Value → World → Prop,
    ∀ Z1 : Exit → List Value → World → Prop,
    (∀ l1 : List Value,
    ∀ w7 : World,
    ∀ w8 : World,
    (I1 l1 w7) →
    (Keep ([k4, w5.heap.size, k3, k1]) w7 w8) →
    I1 l1 w8) →
    (∀ y4 : Exit,
    ∀ l2 : List Value,
    ∀ w9 : World,
    ∀ w10 : World,
    (Z1 y4 l2 w9) →
    (Keep ([k4, w5.heap.size, k3, k1]) w9 w10) →
    Z1 y4 l2 w10) →
    (I1 [Value.slice (some { block := k2, off := 0 }) 0 (IntKind.i64.wrap (x1 * x2)).toNat] w6) →
    (∀ p1 : Option Addr,
    ∀ k5 : Nat,
    ∀ k6 : Nat,
    ∀ p2 : Option Addr,
    ∀ k7 : Nat,
    ∀ k8 : Nat,
    ∀ w11 : World,
    ∀ I2 : Ending → World → Prop,
    (I1 [Value.slice p1 k5 k6] w11) →
    (∀ y5 : Obj,
    ∀ y6 : Obj,
    ∀ w12 : World,
    (Put k4 w11 w12) →
    Calls P F.raster_colour #[Value.slice p2 k7 k8] (w12.drew) fun e3 w13 =>
    ∃ n1 : Int,
    ∃ n2 : Int,
    ∃ n3 : Int,
    ∃ n4 : Int,
    (e3 = Ending.returned (Value.agg #[Value.int IntKind.u16 n1, Value.int IntKind.u16 n2, Value.int IntKind.u16 n3, Value.int IntKind.u16 n4])) ∧
    (Keep ([k4, w5.heap.size, k3, k1]) (w12.drew) w13) ∧
    (Keeps (w12.drew) w13) ∧
    ∀ k9 : Nat,
    (w13.heap.size ≤ k9) →
    ∀ w14 : World,
    (Locl ([k9, k3, k1]) w13 w14) →
    appVC (w14) ([(22, k9, [Value.int IntKind.u16 n1, Value.int IntKind.u16 n2, Value.int IntKind.u16 n3, Value.int IntKind.u16 n4]), (4, k3, [Value.slice p1 k5 k6]), (1, k1, [Value.int IntKind.i64 x1, Value.int IntKind.i64 x2, Value.slice sa1 sl1 sc1])]) (p1) (k5) (k6) (1) (4) (8) (63) ([Value.int IntKind.u16 0, Value.int IntKind.u16 0, Value.int IntKind.u16 0, Value.int IntKind.u16 0]) ([Value.int IntKind.u16 n1, Value.int IntKind.u16 n2, Value.int IntKind.u16 n3, Value.int IntKind.u16 n4]) fun p3 k10 k11 w15 =>
    ∀ w16 : World,
    (Locl ([k9, k3, k1]) w15 w16) →
    ∀ w17 : World,
    (Put k4 w16 w17) →
    (I1 [Value.slice p3 k10 k11] w17) →
    I2 (Ending.returned (Value.bool true)) w17) →
    YieldAt Fence.wide 0 P (k4) #[Value.slice p2 k7 k8] (w11) I2) →
    callF P (Value.func (Fn.func y1) y2 y3) [Value.func (Fn.yield k4) #[] #[]] w6 fun e4 w18 =>
    ∃ v1 : Value,
    (e4 = Ending.returned v1) ∧
    ((∃ p4 : Option Addr,
      ∃ k12 : Nat,
      ∃ k13 : Nat,
      (I1 [Value.slice p4 k12 k13] w18) ∧
      ∀ w19 : World,
      (Put k4 w18 w19) →
      Calls P F.grid_Of_api_Color #[Value.int IntKind.i64 x1, Value.int IntKind.i64 x2, Value.slice p4 k12 k13] w19 fun e5 w20 =>
      ∃ p5 : Option Addr,
      ∃ n5 : Int,
      (e5 = Ending.returned (Value.tuple #[Value.pointer p5, Value.int IntKind.i64 n5])) ∧
      (Keep ([w5.heap.size, k3, k1]) w19 w20) ∧
      ∀ w21 : World,
      (Put (w5.heap.size) w20 w21) →
      R (Ending.returned (Value.tuple #[Value.pointer p5, Value.int IntKind.i64 n5])) w21) ∨
    (False)))
theorem calls_raster_Grid (x1 : Int) (x2 : Int) (sa1 : Option Addr) (sl1 sc1 : Nat) (w : World) (R : Ending → World → Prop) (h : vc_raster_Grid x1 x2 sa1 sl1 sc1 w R) : Calls P F.raster_Grid #[.agg #[.int .i64 x1, .int .i64 x2, .slice sa1 sl1 sc1]] w R :=
  calls_of_vc (fn := Try.f32) (ac := ac_raster_Grid) (args := [.agg #[.int .i64 x1, .int .i64 x2, .slice sa1 sl1 sc1]]) mixed Try.func32 (by kernel_rfl) (cast (by unfold vc_raster_Grid FnVc; kernel_rfl) h)
/-- (*darkroom/grid.Grid[darkroom/api.Color]).All -/
def vc_grid_Grid_api_Color_All (q1 : Option Addr) (w : World) (R : Ending → World → Prop) : Prop :=
  ∀ k1 : Nat,
  ∀ w1 : World,
  (New w (Obj.cells #[Value.pointer q1] 65) k1 w1) →
  R (Ending.returned (Value.func (Fn.func 62) #[] #[Value.pointer (some { block := k1, off := 0 })])) w1
theorem calls_grid_Grid_api_Color_All (q1 : Option Addr) (w : World) (R : Ending → World → Prop) (h : vc_grid_Grid_api_Color_All q1 w R) : Calls P F.grid_Grid_api_Color_All #[.pointer q1] w R :=
  calls_of_vc (fn := Try.f33) (ac := ac_grid_Grid_api_Color_All) (args := [.pointer q1]) mixed Try.func33 (by kernel_rfl) (cast (by unfold vc_grid_Grid_api_Color_All FnVc; kernel_rfl) h)
/-- darkroom/raster.At -/
def vc_raster_At (x1 : Int) (x2 : Int) (sa1 : Option Addr) (sl1 sc1 : Nat) (x3 : Int) (x4 : Int) (w : World) (R : Ending → World → Prop) : Prop :=
  ∀ k1 : Nat,
  (w.heap.size ≤ k1) →
  ∀ k2 : Nat,
  (w.heap.size ≤ k2) →
  ∀ w1 : World,
  (Locl ([k2, k1]) w w1) →
  Calls P F.raster_Good #[Value.agg #[Value.int IntKind.i64 x1, Value.int IntKind.i64 x2, Value.slice sa1 sl1 sc1]] w1 fun e1 w2 =>
  ∃ c1 : Bool,
  (e1 = Ending.returned (Value.bool c1)) ∧
  (Keep ([k2, k1]) w1 w2) ∧
  brB (!c1 || decide (x3 < 0) || decide (x4 < 0) || decide (x3 ≥ x1) || decide (x4 ≥ x2))
    (∀ w3 : World,
    (Locl ([k2, k1]) w2 w3) →
    R (Ending.returned (Value.tuple #[Value.agg #[Value.int IntKind.u16 0, Value.int IntKind.u16 0, Value.int IntKind.u16 0, Value.int IntKind.u16 0], Value.bool false])) w3)
    (Calls P F.raster_pixel #[Value.agg #[Value.int IntKind.i64 x1, Value.int IntKind.i64 x2, Value.slice sa1 sl1 sc1], Value.int IntKind.i64 x3, Value.int IntKind.i64 x4] w2 fun e2 w4 =>
    ∃ n1 : Int,
    ∃ n2 : Int,
    ∃ n3 : Int,
    ∃ n4 : Int,
    (e2 = Ending.returned (Value.agg #[Value.int IntKind.u16 n1, Value.int IntKind.u16 n2, Value.int IntKind.u16 n3, Value.int IntKind.u16 n4])) ∧
    (Keep ([k2, k1]) w2 w4) ∧
    ∀ w5 : World,
    (Locl ([k2, k1]) w4 w5) →
    R (Ending.returned (Value.tuple #[Value.agg #[Value.int IntKind.u16 n1, Value.int IntKind.u16 n2, Value.int IntKind.u16 n3, Value.int IntKind.u16 n4], Value.bool true])) w5)
theorem calls_raster_At (x1 : Int) (x2 : Int) (sa1 : Option Addr) (sl1 sc1 : Nat) (x3 : Int) (x4 : Int) (w : World) (R : Ending → World → Prop) (h : vc_raster_At x1 x2 sa1 sl1 sc1 x3 x4 w R) : Calls P F.raster_At #[.agg #[.int .i64 x1, .int .i64 x2, .slice sa1 sl1 sc1], .int .i64 x3, .int .i64 x4] w R :=
  calls_of_vc (fn := Try.f34) (ac := ac_raster_At) (args := [.agg #[.int .i64 x1, .int .i64 x2, .slice sa1 sl1 sc1], .int .i64 x3, .int .i64 x4]) mixed Try.func34 (by kernel_rfl) (cast (by unfold vc_raster_At FnVc; kernel_rfl) h)
/-- darkroom/blend.over -/
def vc_blend_over (x1 : Int) (x2 : Int) (x3 : Int) (x4 : Int) (x5 : Int) (x6 : Int) (x7 : Int) (x8 : Int) (w : World) (R : Ending → World → Prop) : Prop :=
  ∀ k1 : Nat,
  (w.heap.size ≤ k1) →
  ∀ k2 : Nat,
  (w.heap.size ≤ k2) →
  ∀ k3 : Nat,
  (w.heap.size ≤ k3) →
  ∀ w1 : World,
  (Locl ([k3, k2, k1]) w w1) →
  ∀ k4 : Nat,
  ∀ w2 : World,
  (New w1 (Obj.cells #[Value.int IntKind.i64 0] 3) k4 w2) →
  (∃ v1 : Value,
    w2.cell? { block := k4, off := 0 } = some v1) ∧
  (w2.frozen? { block := k4, off := 0 } = false) ∧
  (¬k4 ∈ [k3, k2, k1]) ∧
  Calls P F.blend_three #[Value.agg #[Value.int IntKind.u16 x1, Value.int IntKind.u16 x2, Value.int IntKind.u16 x3, Value.int IntKind.u16 x4], Value.agg #[Value.int IntKind.u16 x5, Value.int IntKind.u16 x6, Value.int IntKind.u16 x7, Value.int IntKind.u16 x8], Value.func (Fn.func 66) #[] #[Value.pointer (some { block := k4, off := 0 })]] (setCells w2 { block := k4, off := 0 } [Value.int IntKind.i64 (IntKind.i64.wrap x8)] 0) fun e1 w3 =>
  ∃ n1 : Int,
  ∃ n2 : Int,
  ∃ n3 : Int,
  ∃ n4 : Int,
  (e1 = Ending.returned (Value.agg #[Value.int IntKind.u16 n1, Value.int IntKind.u16 n2, Value.int IntKind.u16 n3, Value.int IntKind.u16 n4])) ∧
  (Keep ([k3, k2, k1]) (setCells w2 { block := k4, off := 0 } [Value.int IntKind.i64 (IntKind.i64.wrap x8)] 0) w3) ∧
  ∀ k5 : Nat,
  (w3.heap.size ≤ k5) →
  ∀ w4 : World,
  (Locl ([k5, k3, k2, k1]) w3 w4) →
  ∃ n5 : Int,
  (w4.cell? { block := k4, off := 0 } = some (Value.int IntKind.i64 n5)) ∧
  ∃ n6 : Int,
  (w4.cell? { block := k4, off := 0 } = some (Value.int IntKind.i64 n6)) ∧
  Calls P F.blend_clamp #[Value.int IntKind.i64 (IntKind.i64.wrap (n5 + divZ BinOp.quo IntKind.i64 (IntKind.i64.wrap (IntKind.i64.wrap (IntKind.i64.wrap x4 * IntKind.i64.wrap (65535 - n6)) + 32767)) 65535))] w4 fun e2 w5 =>
  ∃ n7 : Int,
  (e2 = Ending.returned (Value.int IntKind.u16 n7)) ∧
  (Keep ([k5, k3, k2, k1]) w4 w5) ∧
  ∀ w6 : World,
  (Locl ([k5, k3, k2, k1]) w5 w6) →
  R (Ending.returned (Value.agg #[Value.int IntKind.u16 n1, Value.int IntKind.u16 n2, Value.int IntKind.u16 n3, Value.int IntKind.u16 n7])) w6
theorem calls_blend_over (x1 : Int) (x2 : Int) (x3 : Int) (x4 : Int) (x5 : Int) (x6 : Int) (x7 : Int) (x8 : Int) (w : World) (R : Ending → World → Prop) (h : vc_blend_over x1 x2 x3 x4 x5 x6 x7 x8 w R) : Calls P F.blend_over #[.agg #[.int .u16 x1, .int .u16 x2, .int .u16 x3, .int .u16 x4], .agg #[.int .u16 x5, .int .u16 x6, .int .u16 x7, .int .u16 x8]] w R :=
  calls_of_vc (fn := Try.f35) (ac := ac_blend_over) (args := [.agg #[.int .u16 x1, .int .u16 x2, .int .u16 x3, .int .u16 x4], .agg #[.int .u16 x5, .int .u16 x6, .int .u16 x7, .int .u16 x8]]) mixed Try.func35 (by kernel_rfl) (cast (by unfold vc_blend_over FnVc; kernel_rfl) h)
/-- darkroom/blend.clamp -/
def vc_blend_clamp (x1 : Int) (w : World) (R : Ending → World → Prop) : Prop :=
  R (Ending.returned (Value.int IntKind.u16 (IntKind.u16.wrap (min (max x1 0) 65535)))) w
theorem calls_blend_clamp (x1 : Int) (w : World) (R : Ending → World → Prop) (h : vc_blend_clamp x1 w R) : Calls P F.blend_clamp #[.int .i64 x1] w R :=
  calls_of_vc (fn := Try.f36) (ac := ac_blend_clamp) (args := [.int .i64 x1]) mixed Try.func36 (by kernel_rfl) (cast (by unfold vc_blend_clamp FnVc; kernel_rfl) h)
/-- darkroom/blend.mix -/
def vc_blend_mix (x1 : Int) (w : World) (R : Ending → World → Prop) : Prop :=
  ∀ k1 : Nat,
  ∀ w1 : World,
  (New w (Obj.cells #[Value.int IntKind.i64 x1] 3) k1 w1) →
  R (Ending.returned (Value.func (Fn.func 67) #[] #[Value.pointer (some { block := k1, off := 0 })])) w1
theorem calls_blend_mix (x1 : Int) (w : World) (R : Ending → World → Prop) (h : vc_blend_mix x1 w R) : Calls P F.blend_mix #[.int .i64 x1] w R :=
  calls_of_vc (fn := Try.f37) (ac := ac_blend_mix) (args := [.int .i64 x1]) mixed Try.func37 (by kernel_rfl) (cast (by unfold vc_blend_mix FnVc; kernel_rfl) h)
/-- darkroom/blend.three -/
def vc_blend_three (x1 : Int) (x2 : Int) (x3 : Int) (x4 : Int) (x5 : Int) (x6 : Int) (x7 : Int) (x8 : Int) (fy1 : Fn) (fy1a fy1b : Array Value) (w : World) (R : Ending → World → Prop) : Prop :=
  ∀ k1 : Nat,
  (w.heap.size ≤ k1) →
  ∀ k2 : Nat,
  (w.heap.size ≤ k2) →
  ∀ w1 : World,
  (Locl ([k2, k1]) w w1) →
  ∀ k3 : Nat,
  ∀ w2 : World,
  (New w1 (Obj.cells #[Value.func fy1 fy1a fy1b] 56) k3 w2) →
  ∀ k4 : Nat,
  (w2.heap.size ≤ k4) →
  ∀ w3 : World,
  (Locl ([k4, k2, k1]) w2 w3) →
  Calls P F.blend_three_fn1 #[Value.int IntKind.u16 x1, Value.int IntKind.u16 x5, Value.pointer (some { block := k3, off := 0 })] w3 fun e1 w4 =>
  ∃ n1 : Int,
  (e1 = Ending.returned (Value.int IntKind.u16 n1)) ∧
  (Keep ([k4, k2, k1]) w3 w4) ∧
  (Keeps w3 w4) ∧
  Calls P F.blend_three_fn1 #[Value.int IntKind.u16 x2, Value.int IntKind.u16 x6, Value.pointer (some { block := k3, off := 0 })] w4 fun e2 w5 =>
  ∃ n2 : Int,
  (e2 = Ending.returned (Value.int IntKind.u16 n2)) ∧
  (Keep ([k4, k2, k1]) w4 w5) ∧
  (Keeps w4 w5) ∧
  Calls P F.blend_three_fn1 #[Value.int IntKind.u16 x3, Value.int IntKind.u16 x7, Value.pointer (some { block := k3, off := 0 })] w5 fun e3 w6 =>
  ∃ n3 : Int,
  (e3 = Ending.returned (Value.int IntKind.u16 n3)) ∧
  (Keep ([k4, k2, k1]) w5 w6) ∧
  (Keeps w5 w6) ∧
  ∀ w7 : World,
  (Locl ([k4, k2, k1]) w6 w7) →
  R (Ending.returned (Value.agg #[Value.int IntKind.u16 n1, Value.int IntKind.u16 n2, Value.int IntKind.u16 n3, Value.int IntKind.u16 x4])) w7
theorem calls_blend_three (x1 : Int) (x2 : Int) (x3 : Int) (x4 : Int) (x5 : Int) (x6 : Int) (x7 : Int) (x8 : Int) (fy1 : Fn) (fy1a fy1b : Array Value) (w : World) (R : Ending → World → Prop) (h : vc_blend_three x1 x2 x3 x4 x5 x6 x7 x8 fy1 fy1a fy1b w R) : Calls P F.blend_three #[.agg #[.int .u16 x1, .int .u16 x2, .int .u16 x3, .int .u16 x4], .agg #[.int .u16 x5, .int .u16 x6, .int .u16 x7, .int .u16 x8], .func fy1 fy1a fy1b] w R :=
  calls_of_vc (fn := Try.f38) (ac := ac_blend_three) (args := [.agg #[.int .u16 x1, .int .u16 x2, .int .u16 x3, .int .u16 x4], .agg #[.int .u16 x5, .int .u16 x6, .int .u16 x7, .int .u16 x8], .func fy1 fy1a fy1b]) mixed Try.func38 (by kernel_rfl) (cast (by unfold vc_blend_three FnVc; kernel_rfl) h)
/-- darkroom/tones.Luma -/
def vc_tones_Luma (x1 : Int) (x2 : Int) (x3 : Int) (x4 : Int) (w : World) (R : Ending → World → Prop) : Prop :=
  ∀ k1 : Nat,
  (w.heap.size ≤ k1) →
  ∀ w1 : World,
  (Locl ([k1]) w w1) →
  ∀ k2 : Nat,
  ∀ w2 : World,
  (New w1 (Obj.cells #[Value.int IntKind.i64 0, Value.int IntKind.i64 0, Value.int IntKind.i64 0] 104) k2 w2) →
  (∃ v1 : Value,
    w2.cell? { block := k2, off := 0 } = some v1) ∧
  (w2.frozen? { block := k2, off := 0 } = false) ∧
  (∃ v2 : Value,
    w2.cell? { block := k2, off := 1 } = some v2) ∧
  (w2.frozen? { block := k2, off := 1 } = false) ∧
  (∃ v3 : Value,
    w2.cell? { block := k2, off := 2 } = some v3) ∧
  (w2.frozen? { block := k2, off := 2 } = false) ∧
  (¬k2 ∈ [k1]) ∧
  ((0 : Int) ≤ 0) ∧
  ((0 : Int) < 3) ∧
  ∃ n1 : Int,
  ((setCells w2 { block := k2, off := 0 } [Value.int IntKind.i64 19595, Value.int IntKind.i64 38470, Value.int IntKind.i64 7471] 0).cell? { block := k2, off := 0 } = some (Value.int IntKind.i64 n1)) ∧
  ((0 : Int) ≤ 1) ∧
  ((1 : Int) < 3) ∧
  ∃ n2 : Int,
  ((setCells w2 { block := k2, off := 0 } [Value.int IntKind.i64 19595, Value.int IntKind.i64 38470, Value.int IntKind.i64 7471] 0).cell? { block := k2, off := 1 } = some (Value.int IntKind.i64 n2)) ∧
  ((0 : Int) ≤ 2) ∧
  ((2 : Int) < 3) ∧
  ∃ n3 : Int,
  ((setCells w2 { block := k2, off := 0 } [Value.int IntKind.i64 19595, Value.int IntKind.i64 38470, Value.int IntKind.i64 7471] 0).cell? { block := k2, off := 2 } = some (Value.int IntKind.i64 n3)) ∧
  R (Ending.returned (Value.int IntKind.u16 (IntKind.u16.wrap (shiftZ BinOp.shr IntKind.i64 (IntKind.i64.wrap (IntKind.i64.wrap (IntKind.i64.wrap (IntKind.i64.wrap (n1 * IntKind.i64.wrap x1) + IntKind.i64.wrap (n2 * IntKind.i64.wrap x2)) + IntKind.i64.wrap (n3 * IntKind.i64.wrap x3)) + 32768)) 16)))) (setCells w2 { block := k2, off := 0 } [Value.int IntKind.i64 19595, Value.int IntKind.i64 38470, Value.int IntKind.i64 7471] 0)
theorem calls_tones_Luma (x1 : Int) (x2 : Int) (x3 : Int) (x4 : Int) (w : World) (R : Ending → World → Prop) (h : vc_tones_Luma x1 x2 x3 x4 w R) : Calls P F.tones_Luma #[.agg #[.int .u16 x1, .int .u16 x2, .int .u16 x3, .int .u16 x4]] w R :=
  calls_of_vc (fn := Try.f39) (ac := ac_tones_Luma) (args := [.agg #[.int .u16 x1, .int .u16 x2, .int .u16 x3, .int .u16 x4]]) mixed Try.func39 (by kernel_rfl) (cast (by unfold vc_tones_Luma FnVc; kernel_rfl) h)
/-- (*darkroom/grid.Grid[darkroom/api.Color]).Set -/
def vc_grid_Grid_api_Color_Set (q1 : Option Addr) (x1 : Int) (x2 : Int) (x3 : Int) (x4 : Int) (x5 : Int) (x6 : Int) (w : World) (R : Ending → World → Prop) : Prop :=
  ∀ k1 : Nat,
  (w.heap.size ≤ k1) →
  ∀ w1 : World,
  (Locl ([k1]) w w1) →
  Calls P F.grid_Grid_api_Color_has #[Value.pointer q1, Value.int IntKind.i64 x1, Value.int IntKind.i64 x2] w1 fun e1 w2 =>
  ∃ c1 : Bool,
  (e1 = Ending.returned (Value.bool c1)) ∧
  (Keep ([k1]) w1 w2) ∧
  brB (!c1)
    (R (Ending.returned (Value.bool false)) w2)
    (nn (q1) fun a1 =>
    ∃ p1 : Option Addr,
    ∃ k2 : Nat,
    ∃ k3 : Nat,
    (w2.drew.cell? (a1.add 2) = some (Value.slice p1 k2 k3)) ∧
    nn (q1) fun a2 =>
    ∃ n1 : Int,
    (w2.drew.cell? a2 = some (Value.int IntKind.i64 n1)) ∧
    idx (p1) (k2) (IntKind.i64.wrap (IntKind.i64.wrap (x2 * n1) + x1)) (4) fun a3 =>
    (∃ v1 : Value,
      w2.drew.cell? a3 = some v1) ∧
    (w2.drew.frozen? a3 = false) ∧
    (∃ v2 : Value,
      w2.drew.cell? (a3.add 1) = some v2) ∧
    (w2.drew.frozen? (a3.add 1) = false) ∧
    (∃ v3 : Value,
      w2.drew.cell? (a3.add 2) = some v3) ∧
    (w2.drew.frozen? (a3.add 2) = false) ∧
    (∃ v4 : Value,
      w2.drew.cell? (a3.add 3) = some v4) ∧
    (w2.drew.frozen? (a3.add 3) = false) ∧
    (¬a3.block ∈ [k1]) ∧
    R (Ending.returned (Value.bool true)) (setCells w2.drew a3 [Value.int IntKind.u16 x3, Value.int IntKind.u16 x4, Value.int IntKind.u16 x5, Value.int IntKind.u16 x6] 0))
theorem calls_grid_Grid_api_Color_Set (q1 : Option Addr) (x1 : Int) (x2 : Int) (x3 : Int) (x4 : Int) (x5 : Int) (x6 : Int) (w : World) (R : Ending → World → Prop) (h : vc_grid_Grid_api_Color_Set q1 x1 x2 x3 x4 x5 x6 w R) : Calls P F.grid_Grid_api_Color_Set #[.pointer q1, .int .i64 x1, .int .i64 x2, .agg #[.int .u16 x3, .int .u16 x4, .int .u16 x5, .int .u16 x6]] w R :=
  calls_of_vc (fn := Try.f40) (ac := ac_grid_Grid_api_Color_Set) (args := [.pointer q1, .int .i64 x1, .int .i64 x2, .agg #[.int .u16 x3, .int .u16 x4, .int .u16 x5, .int .u16 x6]]) mixed Try.func40 (by kernel_rfl) (cast (by unfold vc_grid_Grid_api_Color_Set FnVc; kernel_rfl) h)
/-- darkroom/raster.Of -/
def vc_raster_Of (q1 : Option Addr) (w : World) (R : Ending → World → Prop) : Prop :=
  ∀ k1 : Nat,
  (w.heap.size ≤ k1) →
  brB (q1.isNone)
    (∀ w1 : World,
    (Locl ([k1]) w w1) →
    R (Ending.returned (Value.tuple #[Value.agg #[Value.int IntKind.i64 0, Value.int IntKind.i64 0, Value.slice none 0 0], Value.int IntKind.i64 1])) w1)
    (∀ w2 : World,
    (Locl ([k1]) w w2) →
    Calls P F.grid_Grid_api_Color_W #[Value.pointer q1] w2 fun e1 w3 =>
    ∃ n1 : Int,
    (e1 = Ending.returned (Value.int IntKind.i64 n1)) ∧
    (Keep ([k1]) w2 w3) ∧
    Calls P F.grid_Grid_api_Color_H #[Value.pointer q1] w3 fun e2 w4 =>
    ∃ n2 : Int,
    (e2 = Ending.returned (Value.int IntKind.i64 n2)) ∧
    (Keep ([k1]) w3 w4) ∧
    ∀ k2 : Nat,
    (w4.heap.size ≤ k2) →
    ∀ w5 : World,
    (Locl ([k2, k1]) w4 w5) →
    Calls P F.grid_Grid_api_Color_All #[Value.pointer q1] w5 fun e3 w6 =>
    ∃ y1 : FuncId,
    ∃ y2 : Array Value,
    ∃ y3 : Array Value,
    (e3 = Ending.returned (Value.func (Fn.func y1) y2 y3)) ∧
    (Keep ([k2, k1]) w5 w6) ∧
    ∀ k3 : Nat,
    ∀ w7 : World,
    (Rf w6 w7 k3) →
    ∀ I1 : List Value → World → Prop,
    ∀ Z1 : Exit → List Value → World → Prop,
    (∀ l1 : List Value,
    ∀ w8 : World,
    ∀ w9 : World,
    (I1 l1 w8) →
    (Keep ([k3, w6.heap.size, k2, k1]) w8 w9) →
    I1 l1 w9) →
    (∀ y4 : Exit,
    ∀ l2 : List Value,
    ∀ w10 : World,
    ∀ w11 : World,
    (Z1 y4 l2 w10) →
    (Keep ([k3, w6.heap.size, k2, k1]) w10 w11) →
    Z1 y4 l2 w11) →
    (I1 [Value.int IntKind.i64 n1, Value.int IntKind.i64 n2, Value.slice none 0 0] w7) →
    (∀ n3 : Int,
    ∀ n4 : Int,
    ∀ p1 : Option Addr,
    ∀ k4 : Nat,
    ∀ k5 : Nat,
    ∀ n5 : Int,
    ∀ n6 : Int,
    ∀ n7 : Int,
    ∀ n8 : Int,
    ∀ n9 : Int,
    ∀ n10 : Int,
    ∀ w12 : World,
    ∀ I2 : Ending → World → Prop,
    (I1 [Value.int IntKind.i64 n3, Value.int IntKind.i64 n4, Value.slice p1 k4 k5] w12) →
    (∀ y5 : Obj,
    ∀ y6 : Obj,
    ∀ k6 : Nat,
    (w12.heap.size ≤ k6) →
    ∀ w13 : World,
    (Locl ([k6, k2, k1]) w12 w13) →
    ∀ w14 : World,
    (Put k3 w13 w14) →
    ∀ k7 : Nat,
    (w14.heap.size ≤ k7) →
    ∀ w15 : World,
    (Locl ([k7, k6, k2, k1]) w14 w15) →
    appVC (w15) ([(29, k7, [Value.int IntKind.u16 n7, Value.int IntKind.u16 n8, Value.int IntKind.u16 n9, Value.int IntKind.u16 n10]), (6, k6, [Value.int IntKind.u16 n7, Value.int IntKind.u16 n8, Value.int IntKind.u16 n9, Value.int IntKind.u16 n10]), (4, k2, [Value.int IntKind.i64 n3, Value.int IntKind.i64 n4, Value.slice p1 k4 k5]), (2, k1, [Value.int IntKind.i64 0, Value.int IntKind.i64 0, Value.slice none 0 0])]) (p1) (k4) (k5) (4) (1) (2) (50) ([Value.int IntKind.u16 0]) ([Value.int IntKind.u16 n7, Value.int IntKind.u16 n8, Value.int IntKind.u16 n9, Value.int IntKind.u16 n10]) fun p2 k8 k9 w16 =>
    ∀ w17 : World,
    (Locl ([k7, k6, k2, k1]) w16 w17) →
    ∀ w18 : World,
    (Put k3 w17 w18) →
    (I1 [Value.int IntKind.i64 n3, Value.int IntKind.i64 n4, Value.slice p2 k8 k9] w18) →
    I2 (Ending.returned (Value.bool true)) w18) →
    YieldAt Fence.wide 0 P (k3) #[Value.agg #[Value.int IntKind.i64 n5, Value.int IntKind.i64 n6], Value.agg #[Value.int IntKind.u16 n7, Value.int IntKind.u16 n8, Value.int IntKind.u16 n9, Value.int IntKind.u16 n10]] (w12) I2) →
    callF P (Value.func (Fn.func y1) y2 y3) [Value.func (Fn.yield k3) #[] #[]] w7 fun e4 w19 =>
    ∃ v1 : Value,
    (e4 = Ending.returned v1) ∧
    ((∃ n11 : Int,
      ∃ n12 : Int,
      ∃ p3 : Option Addr,
      ∃ k10 : Nat,
      ∃ k11 : Nat,
      (I1 [Value.int IntKind.i64 n11, Value.int IntKind.i64 n12, Value.slice p3 k10 k11] w19) ∧
      ∀ w20 : World,
      (Put k3 w19 w20) →
      ∀ w21 : World,
      (Locl ([k2, k1]) w20 w21) →
      ∀ w22 : World,
      (Put (w6.heap.size) w21 w22) →
      R (Ending.returned (Value.tuple #[Value.agg #[Value.int IntKind.i64 n11, Value.int IntKind.i64 n12, Value.slice p3 k10 k11], Value.int IntKind.i64 0])) w22) ∨
    (False)))
theorem calls_raster_Of (q1 : Option Addr) (w : World) (R : Ending → World → Prop) (h : vc_raster_Of q1 w R) : Calls P F.raster_Of #[.pointer q1] w R :=
  calls_of_vc (fn := Try.f41) (ac := ac_raster_Of) (args := [.pointer q1]) mixed Try.func41 (by kernel_rfl) (cast (by unfold vc_raster_Of FnVc; kernel_rfl) h)
/-- darkroom/darkroomref09.Copy -/
def vc_ref09_Copy (x1 : Int) (x2 : Int) (sa1 : Option Addr) (sl1 sc1 : Nat) (w : World) (R : Ending → World → Prop) : Prop :=
  ∀ k1 : Nat,
  (w.heap.size ≤ k1) →
  ∀ k2 : Nat,
  (w.heap.size ≤ k2) →
  ∀ w1 : World,
  (Locl ([k2, k1]) w w1) →
  ∀ k3 : Nat,
  ∀ w2 : World,
  (New w1 (Obj.cells #[] 50) k3 w2) →
  ∃ l1 : List Value,
  (l1.length = sl1 * 1) ∧
  (oneAll l1 = true) ∧
  (CellsAre w2 sa1 l1) ∧
  appVC (w2) ([(2, k2, [Value.int IntKind.i64 0, Value.int IntKind.i64 0, Value.slice none 0 0]), (1, k1, [Value.int IntKind.i64 x1, Value.int IntKind.i64 x2, Value.slice sa1 sl1 sc1])]) (some { block := k3, off := 0 }) (0) (0) (sl1) (1) (2) (50) ([Value.int IntKind.u16 0]) (l1) fun p1 k4 k5 w3 =>
  ∀ w4 : World,
  (Locl ([k2, k1]) w3 w4) →
  R (Ending.returned (Value.agg #[Value.int IntKind.i64 x1, Value.int IntKind.i64 x2, Value.slice p1 k4 k5])) w4
theorem calls_ref09_Copy (x1 : Int) (x2 : Int) (sa1 : Option Addr) (sl1 sc1 : Nat) (w : World) (R : Ending → World → Prop) (h : vc_ref09_Copy x1 x2 sa1 sl1 sc1 w R) : Calls P F.ref09_Copy #[.agg #[.int .i64 x1, .int .i64 x2, .slice sa1 sl1 sc1]] w R :=
  calls_of_vc (fn := Try.f42) (ac := ac_ref09_Copy) (args := [.agg #[.int .i64 x1, .int .i64 x2, .slice sa1 sl1 sc1]]) mixed Try.func42 (by kernel_rfl) (cast (by unfold vc_ref09_Copy FnVc; kernel_rfl) h)
/-- darkroom/darkroomref09.Add -/
def vc_ref09_Add (x1 : Int) (x2 : Int) (sa1 : Option Addr) (sl1 sc1 : Nat) (x3 : Int) (x4 : Int) (x5 : Int) (x6 : Int) (w : World) (R : Ending → World → Prop) : Prop :=
  ∀ k1 : Nat,
  (w.heap.size ≤ k1) →
  ∀ k2 : Nat,
  (w.heap.size ≤ k2) →
  ∀ k3 : Nat,
  (w.heap.size ≤ k3) →
  ∀ k4 : Nat,
  (w.heap.size ≤ k4) →
  ∀ w1 : World,
  (Locl ([k4, k3, k2, k1]) w w1) →
  appVC (w1) ([(15, k4, [Value.int IntKind.u16 x3, Value.int IntKind.u16 x4, Value.int IntKind.u16 x5, Value.int IntKind.u16 x6]), (4, k3, [Value.int IntKind.i64 0, Value.int IntKind.i64 0, Value.slice none 0 0]), (3, k2, [Value.int IntKind.u16 x3, Value.int IntKind.u16 x4, Value.int IntKind.u16 x5, Value.int IntKind.u16 x6]), (2, k1, [Value.int IntKind.i64 x1, Value.int IntKind.i64 x2, Value.slice sa1 sl1 sc1])]) (sa1) (sl1) (sc1) (4) (1) (2) (50) ([Value.int IntKind.u16 0]) ([Value.int IntKind.u16 x3, Value.int IntKind.u16 x4, Value.int IntKind.u16 x5, Value.int IntKind.u16 x6]) fun p1 k5 k6 w2 =>
  ∀ w3 : World,
  (Locl ([k4, k3, k2, k1]) w2 w3) →
  R (Ending.returned (Value.agg #[Value.int IntKind.i64 x1, Value.int IntKind.i64 x2, Value.slice p1 k5 k6])) w3
theorem calls_ref09_Add (x1 : Int) (x2 : Int) (sa1 : Option Addr) (sl1 sc1 : Nat) (x3 : Int) (x4 : Int) (x5 : Int) (x6 : Int) (w : World) (R : Ending → World → Prop) (h : vc_ref09_Add x1 x2 sa1 sl1 sc1 x3 x4 x5 x6 w R) : Calls P F.ref09_Add #[.agg #[.int .i64 x1, .int .i64 x2, .slice sa1 sl1 sc1], .agg #[.int .u16 x3, .int .u16 x4, .int .u16 x5, .int .u16 x6]] w R :=
  calls_of_vc (fn := Try.f43) (ac := ac_ref09_Add) (args := [.agg #[.int .i64 x1, .int .i64 x2, .slice sa1 sl1 sc1], .agg #[.int .u16 x3, .int .u16 x4, .int .u16 x5, .int .u16 x6]]) mixed Try.func43 (by kernel_rfl) (cast (by unfold vc_ref09_Add FnVc; kernel_rfl) h)
/-- darkroom/darkroomref23.pixel -/
def vc_ref23_pixel (st1 : ByteArray) (sa1 : Option Addr) (sl1 sc1 : Nat) (x1 : Int) (x2 : Int) (sa2 : Option Addr) (sl2 sc2 : Nat) (x3 : Int) (x4 : Int) (sa3 : Option Addr) (sl3 sc3 : Nat) (x5 : Int) (x6 : Int) (w : World) (R : Ending → World → Prop) : Prop :=
  ∀ k1 : Nat,
  (w.heap.size ≤ k1) →
  ∀ k2 : Nat,
  (w.heap.size ≤ k2) →
  ∀ k3 : Nat,
  (w.heap.size ≤ k3) →
  brB (decide (st1 = { data := #[98, 101, 115, 105, 100, 101] }))
    (brB (decide (x5 ≥ x1))
      (∀ w1 : World,
      (Locl ([k3, k2, k1]) w w1) →
      Calls P F.ref09_Pixel #[Value.agg #[Value.int IntKind.i64 x3, Value.int IntKind.i64 x4, Value.slice sa3 sl3 sc3], Value.int IntKind.i64 (IntKind.i64.wrap (x5 - x1)), Value.int IntKind.i64 x6] w1 fun e1 w2 =>
      ∃ n1 : Int,
      ∃ n2 : Int,
      ∃ n3 : Int,
      ∃ n4 : Int,
      (e1 = Ending.returned (Value.agg #[Value.int IntKind.u16 n1, Value.int IntKind.u16 n2, Value.int IntKind.u16 n3, Value.int IntKind.u16 n4])) ∧
      (Keep ([k3, k2, k1]) w1 w2) ∧
      ∀ w3 : World,
      (Locl ([k3, k2, k1]) w2 w3) →
      R (Ending.returned (Value.agg #[Value.int IntKind.u16 n1, Value.int IntKind.u16 n2, Value.int IntKind.u16 n3, Value.int IntKind.u16 n4])) w3)
      (∀ w4 : World,
      (Locl ([k3, k2, k1]) w w4) →
      Calls P F.ref09_Pixel #[Value.agg #[Value.int IntKind.i64 x1, Value.int IntKind.i64 x2, Value.slice sa2 sl2 sc2], Value.int IntKind.i64 x5, Value.int IntKind.i64 x6] w4 fun e2 w5 =>
      ∃ n5 : Int,
      ∃ n6 : Int,
      ∃ n7 : Int,
      ∃ n8 : Int,
      (e2 = Ending.returned (Value.agg #[Value.int IntKind.u16 n5, Value.int IntKind.u16 n6, Value.int IntKind.u16 n7, Value.int IntKind.u16 n8])) ∧
      (Keep ([k3, k2, k1]) w4 w5) ∧
      ∀ w6 : World,
      (Locl ([k3, k2, k1]) w5 w6) →
      R (Ending.returned (Value.agg #[Value.int IntKind.u16 n5, Value.int IntKind.u16 n6, Value.int IntKind.u16 n7, Value.int IntKind.u16 n8])) w6))
    (brB (decide (st1 = { data := #[98, 101, 108, 111, 119] }))
      (brB (decide (x6 ≥ x2))
        (∀ w7 : World,
        (Locl ([k3, k2, k1]) w w7) →
        Calls P F.ref09_Pixel #[Value.agg #[Value.int IntKind.i64 x3, Value.int IntKind.i64 x4, Value.slice sa3 sl3 sc3], Value.int IntKind.i64 x5, Value.int IntKind.i64 (IntKind.i64.wrap (x6 - x2))] w7 fun e3 w8 =>
        ∃ n9 : Int,
        ∃ n10 : Int,
        ∃ n11 : Int,
        ∃ n12 : Int,
        (e3 = Ending.returned (Value.agg #[Value.int IntKind.u16 n9, Value.int IntKind.u16 n10, Value.int IntKind.u16 n11, Value.int IntKind.u16 n12])) ∧
        (Keep ([k3, k2, k1]) w7 w8) ∧
        ∀ w9 : World,
        (Locl ([k3, k2, k1]) w8 w9) →
        R (Ending.returned (Value.agg #[Value.int IntKind.u16 n9, Value.int IntKind.u16 n10, Value.int IntKind.u16 n11, Value.int IntKind.u16 n12])) w9)
        (∀ w10 : World,
        (Locl ([k3, k2, k1]) w w10) →
        Calls P F.ref09_Pixel #[Value.agg #[Value.int IntKind.i64 x1, Value.int IntKind.i64 x2, Value.slice sa2 sl2 sc2], Value.int IntKind.i64 x5, Value.int IntKind.i64 x6] w10 fun e4 w11 =>
        ∃ n13 : Int,
        ∃ n14 : Int,
        ∃ n15 : Int,
        ∃ n16 : Int,
        (e4 = Ending.returned (Value.agg #[Value.int IntKind.u16 n13, Value.int IntKind.u16 n14, Value.int IntKind.u16 n15, Value.int IntKind.u16 n16])) ∧
        (Keep ([k3, k2, k1]) w10 w11) ∧
        ∀ w12 : World,
        (Locl ([k3, k2, k1]) w11 w12) →
        R (Ending.returned (Value.agg #[Value.int IntKind.u16 n13, Value.int IntKind.u16 n14, Value.int IntKind.u16 n15, Value.int IntKind.u16 n16])) w12))
      (∀ w13 : World,
      (Locl ([k3, k2, k1]) w w13) →
      Calls P F.ref09_Pixel #[Value.agg #[Value.int IntKind.i64 x1, Value.int IntKind.i64 x2, Value.slice sa2 sl2 sc2], Value.int IntKind.i64 x5, Value.int IntKind.i64 x6] w13 fun e5 w14 =>
      ∃ n17 : Int,
      ∃ n18 : Int,
      ∃ n19 : Int,
      ∃ n20 : Int,
      (e5 = Ending.returned (Value.agg #[Value.int IntKind.u16 n17, Value.int IntKind.u16 n18, Value.int IntKind.u16 n19, Value.int IntKind.u16 n20])) ∧
      (Keep ([k3, k2, k1]) w13 w14) ∧
      ∀ k4 : Nat,
      (w14.heap.size ≤ k4) →
      brB (decide (st1 = { data := #[111, 118, 101, 114] }))
        (∃ I1 : List Value → World → Prop,
        (idx (sa1) (sl1) (0) (1) fun a1 =>
          ∀ w15 : World,
          (Locl ([k4, k3, k2, k1]) w14 w15) →
          ∃ n21 : Int,
          (w15.cell? a1 = some (Value.int IntKind.i64 n21)) ∧
          idx (sa1) (sl1) (1) (1) fun a2 =>
          ∃ n22 : Int,
          (w15.cell? a2 = some (Value.int IntKind.i64 n22)) ∧
          (Calls P F.ref09_At #[Value.agg #[Value.int IntKind.i64 x3, Value.int IntKind.i64 x4, Value.slice sa3 sl3 sc3], Value.int IntKind.i64 (IntKind.i64.wrap (x5 - n21)), Value.int IntKind.i64 (IntKind.i64.wrap (x6 - n22))] w15 fun e6 w16 =>
            ∃ n23 : Int,
            ∃ n24 : Int,
            ∃ n25 : Int,
            ∃ n26 : Int,
            ∃ c1 : Bool,
            (e6 = Ending.returned (Value.tuple #[Value.agg #[Value.int IntKind.u16 n23, Value.int IntKind.u16 n24, Value.int IntKind.u16 n25, Value.int IntKind.u16 n26], Value.bool c1])) ∧
            (Keep ([k4, k3, k2, k1]) w15 w16) ∧
            ∀ k5 : Nat,
            (w16.heap.size ≤ k5) →
            ∀ w17 : World,
            (Locl ([k5, k4, k3, k2, k1]) w16 w17) →
            I1 [Value.bool c1, Value.pointer (some { block := k5, off := 0 }), Value.int IntKind.u16 n23, Value.int IntKind.u16 n24, Value.int IntKind.u16 n25, Value.int IntKind.u16 n26] w17) ∧
          ∀ k6 : Nat,
          (w15.heap.size ≤ k6) →
          ∀ w18 : World,
          (Locl ([k6, k4, k3, k2, k1]) w15 w18) →
          Calls P F.ref09_At #[Value.agg #[Value.int IntKind.i64 x3, Value.int IntKind.i64 x4, Value.slice sa3 sl3 sc3], Value.int IntKind.i64 (IntKind.i64.wrap (x5 - n21)), Value.int IntKind.i64 (IntKind.i64.wrap (x6 - n22))] w18 fun e7 w19 =>
          ∃ n27 : Int,
          ∃ n28 : Int,
          ∃ n29 : Int,
          ∃ n30 : Int,
          ∃ c2 : Bool,
          (e7 = Ending.returned (Value.tuple #[Value.agg #[Value.int IntKind.u16 n27, Value.int IntKind.u16 n28, Value.int IntKind.u16 n29, Value.int IntKind.u16 n30], Value.bool c2])) ∧
          (Keep ([k6, k4, k3, k2, k1]) w18 w19) ∧
          ∀ w20 : World,
          (Locl ([k6, k4, k3, k2, k1]) w19 w20) →
          I1 [Value.bool c2, Value.pointer (some { block := k6, off := 0 }), Value.int IntKind.u16 n27, Value.int IntKind.u16 n28, Value.int IntKind.u16 n29, Value.int IntKind.u16 n30] w20) ∧
        ∀ c3 : Bool,
        ∀ k7 : Nat,
        ∀ n31 : Int,
        ∀ n32 : Int,
        ∀ n33 : Int,
        ∀ n34 : Int,
        ∀ w21 : World,
        (I1 [Value.bool c3, Value.pointer (some { block := k7, off := 0 }), Value.int IntKind.u16 n31, Value.int IntKind.u16 n32, Value.int IntKind.u16 n33, Value.int IntKind.u16 n34] w21) →
        brB (!c3)
          (∀ w22 : World,
          (Locl ([k7, k4, k3, k2, k1]) w21 w22) →
          R (Ending.returned (Value.agg #[Value.int IntKind.u16 n17, Value.int IntKind.u16 n18, Value.int IntKind.u16 n19, Value.int IntKind.u16 n20])) w22)
          (Calls P F.ref23_laid #[Value.agg #[Value.int IntKind.u16 n17, Value.int IntKind.u16 n18, Value.int IntKind.u16 n19, Value.int IntKind.u16 n20], Value.agg #[Value.int IntKind.u16 n31, Value.int IntKind.u16 n32, Value.int IntKind.u16 n33, Value.int IntKind.u16 n34]] w21 fun e8 w23 =>
          ∃ n35 : Int,
          ∃ n36 : Int,
          ∃ n37 : Int,
          ∃ n38 : Int,
          (e8 = Ending.returned (Value.agg #[Value.int IntKind.u16 n35, Value.int IntKind.u16 n36, Value.int IntKind.u16 n37, Value.int IntKind.u16 n38])) ∧
          (Keep ([k7, k4, k3, k2, k1]) w21 w23) ∧
          ∀ w24 : World,
          (Locl ([k7, k4, k3, k2, k1]) w23 w24) →
          R (Ending.returned (Value.agg #[Value.int IntKind.u16 n35, Value.int IntKind.u16 n36, Value.int IntKind.u16 n37, Value.int IntKind.u16 n38])) w24))
        (∀ w25 : World,
        (Locl ([k4, k3, k2, k1]) w14 w25) →
        Calls P F.ref09_Pixel #[Value.agg #[Value.int IntKind.i64 x3, Value.int IntKind.i64 x4, Value.slice sa3 sl3 sc3], Value.int IntKind.i64 x5, Value.int IntKind.i64 x6] w25 fun e9 w26 =>
        ∃ n39 : Int,
        ∃ n40 : Int,
        ∃ n41 : Int,
        ∃ n42 : Int,
        (e9 = Ending.returned (Value.agg #[Value.int IntKind.u16 n39, Value.int IntKind.u16 n40, Value.int IntKind.u16 n41, Value.int IntKind.u16 n42])) ∧
        (Keep ([k4, k3, k2, k1]) w25 w26) ∧
        ∀ k8 : Nat,
        (w26.heap.size ≤ k8) →
        ∃ I2 : List Value → World → Prop,
        ((∀ w27 : World,
            (Locl ([k8, k4, k3, k2, k1]) w26 w27) →
            Calls P F.ref23_sample #[Value.string st1, Value.slice sa1 sl1 sc1, Value.int IntKind.i64 (IntKind.i64.wrap n17), Value.int IntKind.i64 (IntKind.i64.wrap n39)] w27 fun e10 w28 =>
            ∃ n43 : Int,
            (e10 = Ending.returned (Value.int IntKind.i64 n43)) ∧
            (Keep ([k8, k4, k3, k2, k1]) w27 w28) ∧
            (Keeps w27 w28) ∧
            (Calls P F.ref23_sample #[Value.string st1, Value.slice sa1 sl1 sc1, Value.int IntKind.i64 (IntKind.i64.wrap n18), Value.int IntKind.i64 (IntKind.i64.wrap n40)] w28 fun e11 w29 =>
              ∃ n44 : Int,
              (e11 = Ending.returned (Value.int IntKind.i64 n44)) ∧
              (Keep ([k8, k4, k3, k2, k1]) w28 w29) ∧
              (Keeps w28 w29) ∧
              (Calls P F.ref23_sample #[Value.string st1, Value.slice sa1 sl1 sc1, Value.int IntKind.i64 (IntKind.i64.wrap n19), Value.int IntKind.i64 (IntKind.i64.wrap n41)] w29 fun e12 w30 =>
                ∃ n45 : Int,
                (e12 = Ending.returned (Value.int IntKind.i64 n45)) ∧
                (Keep ([k8, k4, k3, k2, k1]) w29 w30) ∧
                (Keeps w29 w30) ∧
                ∀ k9 : Nat,
                (w30.heap.size ≤ k9) →
                ∀ w31 : World,
                (Locl ([k9, k8, k4, k3, k2, k1]) w30 w31) →
                I2 [Value.pointer (some { block := k9, off := 0 }), Value.int IntKind.u16 (IntKind.u16.wrap n43), Value.int IntKind.u16 (IntKind.u16.wrap n44), Value.int IntKind.u16 (IntKind.u16.wrap n45), Value.int IntKind.u16 n20] w31) ∧
              ∀ k10 : Nat,
              (w29.heap.size ≤ k10) →
              ∀ w32 : World,
              (Locl ([k10, k8, k4, k3, k2, k1]) w29 w32) →
              Calls P F.ref23_sample #[Value.string st1, Value.slice sa1 sl1 sc1, Value.int IntKind.i64 (IntKind.i64.wrap n19), Value.int IntKind.i64 (IntKind.i64.wrap n41)] w32 fun e13 w33 =>
              ∃ n46 : Int,
              (e13 = Ending.returned (Value.int IntKind.i64 n46)) ∧
              (Keep ([k10, k8, k4, k3, k2, k1]) w32 w33) ∧
              (Keeps w32 w33) ∧
              ∀ w34 : World,
              (Locl ([k10, k8, k4, k3, k2, k1]) w33 w34) →
              I2 [Value.pointer (some { block := k10, off := 0 }), Value.int IntKind.u16 (IntKind.u16.wrap n43), Value.int IntKind.u16 (IntKind.u16.wrap n44), Value.int IntKind.u16 (IntKind.u16.wrap n46), Value.int IntKind.u16 n20] w34) ∧
            ∀ k11 : Nat,
            (w28.heap.size ≤ k11) →
            ∀ w35 : World,
            (Locl ([k11, k8, k4, k3, k2, k1]) w28 w35) →
            Calls P F.ref23_sample #[Value.string st1, Value.slice sa1 sl1 sc1, Value.int IntKind.i64 (IntKind.i64.wrap n18), Value.int IntKind.i64 (IntKind.i64.wrap n40)] w35 fun e14 w36 =>
            ∃ n47 : Int,
            (e14 = Ending.returned (Value.int IntKind.i64 n47)) ∧
            (Keep ([k11, k8, k4, k3, k2, k1]) w35 w36) ∧
            (Keeps w35 w36) ∧
            Calls P F.ref23_sample #[Value.string st1, Value.slice sa1 sl1 sc1, Value.int IntKind.i64 (IntKind.i64.wrap n19), Value.int IntKind.i64 (IntKind.i64.wrap n41)] w36 fun e15 w37 =>
            ∃ n48 : Int,
            (e15 = Ending.returned (Value.int IntKind.i64 n48)) ∧
            (Keep ([k11, k8, k4, k3, k2, k1]) w36 w37) ∧
            (Keeps w36 w37) ∧
            ∀ w38 : World,
            (Locl ([k11, k8, k4, k3, k2, k1]) w37 w38) →
            I2 [Value.pointer (some { block := k11, off := 0 }), Value.int IntKind.u16 (IntKind.u16.wrap n43), Value.int IntKind.u16 (IntKind.u16.wrap n47), Value.int IntKind.u16 (IntKind.u16.wrap n48), Value.int IntKind.u16 n20] w38) ∧
          ∀ k12 : Nat,
          (w26.heap.size ≤ k12) →
          ∀ w39 : World,
          (Locl ([k12, k8, k4, k3, k2, k1]) w26 w39) →
          Calls P F.ref23_sample #[Value.string st1, Value.slice sa1 sl1 sc1, Value.int IntKind.i64 (IntKind.i64.wrap n17), Value.int IntKind.i64 (IntKind.i64.wrap n39)] w39 fun e16 w40 =>
          ∃ n49 : Int,
          (e16 = Ending.returned (Value.int IntKind.i64 n49)) ∧
          (Keep ([k12, k8, k4, k3, k2, k1]) w39 w40) ∧
          (Keeps w39 w40) ∧
          Calls P F.ref23_sample #[Value.string st1, Value.slice sa1 sl1 sc1, Value.int IntKind.i64 (IntKind.i64.wrap n18), Value.int IntKind.i64 (IntKind.i64.wrap n40)] w40 fun e17 w41 =>
          ∃ n50 : Int,
          (e17 = Ending.returned (Value.int IntKind.i64 n50)) ∧
          (Keep ([k12, k8, k4, k3, k2, k1]) w40 w41) ∧
          (Keeps w40 w41) ∧
          Calls P F.ref23_sample #[Value.string st1, Value.slice sa1 sl1 sc1, Value.int IntKind.i64 (IntKind.i64.wrap n19), Value.int IntKind.i64 (IntKind.i64.wrap n41)] w41 fun e18 w42 =>
          ∃ n51 : Int,
          (e18 = Ending.returned (Value.int IntKind.i64 n51)) ∧
          (Keep ([k12, k8, k4, k3, k2, k1]) w41 w42) ∧
          (Keeps w41 w42) ∧
          ∀ w43 : World,
          (Locl ([k12, k8, k4, k3, k2, k1]) w42 w43) →
          I2 [Value.pointer (some { block := k12, off := 0 }), Value.int IntKind.u16 (IntKind.u16.wrap n49), Value.int IntKind.u16 (IntKind.u16.wrap n50), Value.int IntKind.u16 (IntKind.u16.wrap n51), Value.int IntKind.u16 n20] w43) ∧
        ∀ k13 : Nat,
        ∀ n52 : Int,
        ∀ n53 : Int,
        ∀ n54 : Int,
        ∀ n55 : Int,
        ∀ w44 : World,
        (I2 [Value.pointer (some { block := k13, off := 0 }), Value.int IntKind.u16 n52, Value.int IntKind.u16 n53, Value.int IntKind.u16 n54, Value.int IntKind.u16 n55] w44) →
        ∃ I3 : List Value → World → Prop,
        (brB (decide (st1 = { data := #[109, 105, 120] }))
            (Calls P F.ref23_sample #[Value.string st1, Value.slice sa1 sl1 sc1, Value.int IntKind.i64 (IntKind.i64.wrap n20), Value.int IntKind.i64 (IntKind.i64.wrap n42)] w44 fun e19 w45 =>
            ∃ n56 : Int,
            (e19 = Ending.returned (Value.int IntKind.i64 n56)) ∧
            (Keep ([k13, k8, k4, k3, k2, k1]) w44 w45) ∧
            ∀ w46 : World,
            (Locl ([k13, k8, k4, k3, k2, k1]) w45 w46) →
            I3 [Value.int IntKind.u16 n52, Value.int IntKind.u16 n53, Value.int IntKind.u16 n54, Value.int IntKind.u16 (IntKind.u16.wrap n56)] w46)
            (I3 [Value.int IntKind.u16 n52, Value.int IntKind.u16 n53, Value.int IntKind.u16 n54, Value.int IntKind.u16 n55] w44)) ∧
        ∀ n57 : Int,
        ∀ n58 : Int,
        ∀ n59 : Int,
        ∀ n60 : Int,
        ∀ w47 : World,
        (I3 [Value.int IntKind.u16 n57, Value.int IntKind.u16 n58, Value.int IntKind.u16 n59, Value.int IntKind.u16 n60] w47) →
        brB (decide (st1 = { data := #[109, 97, 115, 107] }))
          (Calls P F.ref08_Luma #[Value.agg #[Value.int IntKind.u16 n39, Value.int IntKind.u16 n40, Value.int IntKind.u16 n41, Value.int IntKind.u16 n42]] (w47.drew) fun e20 w48 =>
          ∃ n61 : Int,
          (e20 = Ending.returned (Value.int IntKind.u16 n61)) ∧
          (Keep ([k13, k8, k4, k3, k2, k1]) (w47.drew) w48) ∧
          (Keeps (w47.drew) w48) ∧
          ∀ w49 : World,
          (Locl ([k13, k8, k4, k3, k2, k1]) w48 w49) →
          R (Ending.returned (Value.agg #[Value.int IntKind.u16 n57, Value.int IntKind.u16 n58, Value.int IntKind.u16 n59, Value.int IntKind.u16 (IntKind.u16.wrap (divZ BinOp.quo IntKind.i64 (IntKind.i64.wrap (IntKind.i64.wrap n20 * IntKind.i64.wrap n61)) 65535))])) w49)
          (∀ w50 : World,
          (Locl ([k13, k8, k4, k3, k2, k1]) w47 w50) →
          R (Ending.returned (Value.agg #[Value.int IntKind.u16 n57, Value.int IntKind.u16 n58, Value.int IntKind.u16 n59, Value.int IntKind.u16 n60])) w50))))
theorem calls_ref23_pixel (st1 : ByteArray) (sa1 : Option Addr) (sl1 sc1 : Nat) (x1 : Int) (x2 : Int) (sa2 : Option Addr) (sl2 sc2 : Nat) (x3 : Int) (x4 : Int) (sa3 : Option Addr) (sl3 sc3 : Nat) (x5 : Int) (x6 : Int) (w : World) (R : Ending → World → Prop) (h : vc_ref23_pixel st1 sa1 sl1 sc1 x1 x2 sa2 sl2 sc2 x3 x4 sa3 sl3 sc3 x5 x6 w R) : Calls P F.ref23_pixel #[.string st1, .slice sa1 sl1 sc1, .agg #[.int .i64 x1, .int .i64 x2, .slice sa2 sl2 sc2], .agg #[.int .i64 x3, .int .i64 x4, .slice sa3 sl3 sc3], .int .i64 x5, .int .i64 x6] w R :=
  calls_of_vc (fn := Try.f44) (ac := ac_ref23_pixel) (args := [.string st1, .slice sa1 sl1 sc1, .agg #[.int .i64 x1, .int .i64 x2, .slice sa2 sl2 sc2], .agg #[.int .i64 x3, .int .i64 x4, .slice sa3 sl3 sc3], .int .i64 x5, .int .i64 x6]) mixed Try.func44 (by kernel_rfl) (cast (by unfold vc_ref23_pixel FnVc; kernel_rfl) h)
/-- darkroom/darkroomref07.Within -/
def vc_ref07_Within (x1 : Int) (x2 : Int) (x3 : Int) (x4 : Int) (x5 : Int) (x6 : Int) (w : World) (R : Ending → World → Prop) : Prop :=
  R (Ending.returned (Value.bool (decide (x3 ≥ 1) && decide (x4 ≥ 1) && decide (x1 ≥ 0) && decide (x2 ≥ 0) && decide (x3 ≤ x5) && decide (x4 ≤ x6) && decide (x1 ≤ IntKind.i64.wrap (x5 - x3)) && decide (x2 ≤ IntKind.i64.wrap (x6 - x4))))) w
theorem calls_ref07_Within (x1 : Int) (x2 : Int) (x3 : Int) (x4 : Int) (x5 : Int) (x6 : Int) (w : World) (R : Ending → World → Prop) (h : vc_ref07_Within x1 x2 x3 x4 x5 x6 w R) : Calls P F.ref07_Within #[.int .i64 x1, .int .i64 x2, .int .i64 x3, .int .i64 x4, .int .i64 x5, .int .i64 x6] w R :=
  calls_of_vc (fn := Try.f45) (ac := ac_ref07_Within) (args := [.int .i64 x1, .int .i64 x2, .int .i64 x3, .int .i64 x4, .int .i64 x5, .int .i64 x6]) mixed Try.func45 (by kernel_rfl) (cast (by unfold vc_ref07_Within FnVc; kernel_rfl) h)
/-- darkroom/darkroomref09.Pixel -/
def vc_ref09_Pixel (x1 : Int) (x2 : Int) (sa1 : Option Addr) (sl1 sc1 : Nat) (x3 : Int) (x4 : Int) (w : World) (R : Ending → World → Prop) : Prop :=
  ∀ k1 : Nat,
  (w.heap.size ≤ k1) →
  ∀ k2 : Nat,
  (w.heap.size ≤ k2) →
  idx (sa1) (sl1) (IntKind.i64.wrap (4 * IntKind.i64.wrap (IntKind.i64.wrap (x4 * x1) + x3))) (1) fun a1 =>
  ∀ w1 : World,
  (Locl ([k2, k1]) w w1) →
  ∃ n1 : Int,
  (w1.cell? a1 = some (Value.int IntKind.u16 n1)) ∧
  idx (sa1) (sl1) (IntKind.i64.wrap (IntKind.i64.wrap (4 * IntKind.i64.wrap (IntKind.i64.wrap (x4 * x1) + x3)) + 1)) (1) fun a2 =>
  ∃ n2 : Int,
  (w1.cell? a2 = some (Value.int IntKind.u16 n2)) ∧
  idx (sa1) (sl1) (IntKind.i64.wrap (IntKind.i64.wrap (4 * IntKind.i64.wrap (IntKind.i64.wrap (x4 * x1) + x3)) + 2)) (1) fun a3 =>
  ∃ n3 : Int,
  (w1.cell? a3 = some (Value.int IntKind.u16 n3)) ∧
  idx (sa1) (sl1) (IntKind.i64.wrap (IntKind.i64.wrap (4 * IntKind.i64.wrap (IntKind.i64.wrap (x4 * x1) + x3)) + 3)) (1) fun a4 =>
  ∃ n4 : Int,
  (w1.cell? a4 = some (Value.int IntKind.u16 n4)) ∧
  ∀ w2 : World,
  (Locl ([k2, k1]) w1 w2) →
  R (Ending.returned (Value.agg #[Value.int IntKind.u16 n1, Value.int IntKind.u16 n2, Value.int IntKind.u16 n3, Value.int IntKind.u16 n4])) w2
theorem calls_ref09_Pixel (x1 : Int) (x2 : Int) (sa1 : Option Addr) (sl1 sc1 : Nat) (x3 : Int) (x4 : Int) (w : World) (R : Ending → World → Prop) (h : vc_ref09_Pixel x1 x2 sa1 sl1 sc1 x3 x4 w R) : Calls P F.ref09_Pixel #[.agg #[.int .i64 x1, .int .i64 x2, .slice sa1 sl1 sc1], .int .i64 x3, .int .i64 x4] w R :=
  calls_of_vc (fn := Try.f46) (ac := ac_ref09_Pixel) (args := [.agg #[.int .i64 x1, .int .i64 x2, .slice sa1 sl1 sc1], .int .i64 x3, .int .i64 x4]) mixed Try.func46 (by kernel_rfl) (cast (by unfold vc_ref09_Pixel FnVc; kernel_rfl) h)
/-- (darkroom/blend.pair).plus -/
def vc_blend_pair_plus (x1 : Int) (x2 : Int) (w : World) (R : Ending → World → Prop) : Prop :=
  ∀ k1 : Nat,
  (w.heap.size ≤ k1) →
  ∀ w1 : World,
  (Locl ([k1]) w w1) →
  R (Ending.returned (Value.int IntKind.i64 (IntKind.i64.wrap (x1 + x2)))) w1
theorem calls_blend_pair_plus (x1 : Int) (x2 : Int) (w : World) (R : Ending → World → Prop) (h : vc_blend_pair_plus x1 x2 w R) : Calls P F.blend_pair_plus #[.agg #[.int .i64 x1, .int .i64 x2]] w R :=
  calls_of_vc (fn := Try.f47) (ac := ac_blend_pair_plus) (args := [.agg #[.int .i64 x1, .int .i64 x2]]) mixed Try.func47 (by kernel_rfl) (cast (by unfold vc_blend_pair_plus FnVc; kernel_rfl) h)
/-- (darkroom/blend.pair).minus -/
def vc_blend_pair_minus (x1 : Int) (x2 : Int) (w : World) (R : Ending → World → Prop) : Prop :=
  ∀ k1 : Nat,
  (w.heap.size ≤ k1) →
  ∀ w1 : World,
  (Locl ([k1]) w w1) →
  R (Ending.returned (Value.int IntKind.i64 (IntKind.i64.wrap (x1 - x2)))) w1
theorem calls_blend_pair_minus (x1 : Int) (x2 : Int) (w : World) (R : Ending → World → Prop) (h : vc_blend_pair_minus x1 x2 w R) : Calls P F.blend_pair_minus #[.agg #[.int .i64 x1, .int .i64 x2]] w R :=
  calls_of_vc (fn := Try.f48) (ac := ac_blend_pair_minus) (args := [.agg #[.int .i64 x1, .int .i64 x2]]) mixed Try.func48 (by kernel_rfl) (cast (by unfold vc_blend_pair_minus FnVc; kernel_rfl) h)
/-- (darkroom/blend.pair).times -/
def vc_blend_pair_times (x1 : Int) (x2 : Int) (w : World) (R : Ending → World → Prop) : Prop :=
  ∀ k1 : Nat,
  (w.heap.size ≤ k1) →
  ∀ w1 : World,
  (Locl ([k1]) w w1) →
  R (Ending.returned (Value.int IntKind.i64 (divZ BinOp.quo IntKind.i64 (IntKind.i64.wrap (IntKind.i64.wrap (x1 * x2) + 32767)) 65535))) w1
theorem calls_blend_pair_times (x1 : Int) (x2 : Int) (w : World) (R : Ending → World → Prop) (h : vc_blend_pair_times x1 x2 w R) : Calls P F.blend_pair_times #[.agg #[.int .i64 x1, .int .i64 x2]] w R :=
  calls_of_vc (fn := Try.f49) (ac := ac_blend_pair_times) (args := [.agg #[.int .i64 x1, .int .i64 x2]]) mixed Try.func49 (by kernel_rfl) (cast (by unfold vc_blend_pair_times FnVc; kernel_rfl) h)
/-- (darkroom/blend.pair).screen -/
def vc_blend_pair_screen (x1 : Int) (x2 : Int) (w : World) (R : Ending → World → Prop) : Prop :=
  ∀ k1 : Nat,
  (w.heap.size ≤ k1) →
  ∀ w1 : World,
  (Locl ([k1]) w w1) →
  Calls P F.blend_pair_times #[Value.agg #[Value.int IntKind.i64 (IntKind.i64.wrap (65535 - x1)), Value.int IntKind.i64 (IntKind.i64.wrap (65535 - x2))]] w1 fun e1 w2 =>
  ∃ n1 : Int,
  (e1 = Ending.returned (Value.int IntKind.i64 n1)) ∧
  (Keep ([k1]) w1 w2) ∧
  R (Ending.returned (Value.int IntKind.i64 (IntKind.i64.wrap (65535 - n1)))) w2
theorem calls_blend_pair_screen (x1 : Int) (x2 : Int) (w : World) (R : Ending → World → Prop) (h : vc_blend_pair_screen x1 x2 w R) : Calls P F.blend_pair_screen #[.agg #[.int .i64 x1, .int .i64 x2]] w R :=
  calls_of_vc (fn := Try.f50) (ac := ac_blend_pair_screen) (args := [.agg #[.int .i64 x1, .int .i64 x2]]) mixed Try.func50 (by kernel_rfl) (cast (by unfold vc_blend_pair_screen FnVc; kernel_rfl) h)
/-- (darkroom/blend.pair).differ -/
def vc_blend_pair_differ (x1 : Int) (x2 : Int) (w : World) (R : Ending → World → Prop) : Prop :=
  ∀ k1 : Nat,
  (w.heap.size ≤ k1) →
  ∀ w1 : World,
  (Locl ([k1]) w w1) →
  R (Ending.returned (Value.int IntKind.i64 (max (IntKind.i64.wrap (x1 - x2)) (IntKind.i64.wrap (x2 - x1))))) w1
theorem calls_blend_pair_differ (x1 : Int) (x2 : Int) (w : World) (R : Ending → World → Prop) (h : vc_blend_pair_differ x1 x2 w R) : Calls P F.blend_pair_differ #[.agg #[.int .i64 x1, .int .i64 x2]] w R :=
  calls_of_vc (fn := Try.f51) (ac := ac_blend_pair_differ) (args := [.agg #[.int .i64 x1, .int .i64 x2]]) mixed Try.func51 (by kernel_rfl) (cast (by unfold vc_blend_pair_differ FnVc; kernel_rfl) h)
/-- (darkroom/blend.pair).lighter -/
def vc_blend_pair_lighter (x1 : Int) (x2 : Int) (w : World) (R : Ending → World → Prop) : Prop :=
  ∀ k1 : Nat,
  (w.heap.size ≤ k1) →
  ∀ w1 : World,
  (Locl ([k1]) w w1) →
  R (Ending.returned (Value.int IntKind.i64 (max x1 x2))) w1
theorem calls_blend_pair_lighter (x1 : Int) (x2 : Int) (w : World) (R : Ending → World → Prop) (h : vc_blend_pair_lighter x1 x2 w R) : Calls P F.blend_pair_lighter #[.agg #[.int .i64 x1, .int .i64 x2]] w R :=
  calls_of_vc (fn := Try.f52) (ac := ac_blend_pair_lighter) (args := [.agg #[.int .i64 x1, .int .i64 x2]]) mixed Try.func52 (by kernel_rfl) (cast (by unfold vc_blend_pair_lighter FnVc; kernel_rfl) h)
/-- (darkroom/blend.pair).darker -/
def vc_blend_pair_darker (x1 : Int) (x2 : Int) (w : World) (R : Ending → World → Prop) : Prop :=
  ∀ k1 : Nat,
  (w.heap.size ≤ k1) →
  ∀ w1 : World,
  (Locl ([k1]) w w1) →
  R (Ending.returned (Value.int IntKind.i64 (min x1 x2))) w1
theorem calls_blend_pair_darker (x1 : Int) (x2 : Int) (w : World) (R : Ending → World → Prop) (h : vc_blend_pair_darker x1 x2 w R) : Calls P F.blend_pair_darker #[.agg #[.int .i64 x1, .int .i64 x2]] w R :=
  calls_of_vc (fn := Try.f53) (ac := ac_blend_pair_darker) (args := [.agg #[.int .i64 x1, .int .i64 x2]]) mixed Try.func53 (by kernel_rfl) (cast (by unfold vc_blend_pair_darker FnVc; kernel_rfl) h)
/-- (darkroom/blend.pair).first -/
def vc_blend_pair_first (x1 : Int) (x2 : Int) (w : World) (R : Ending → World → Prop) : Prop :=
  ∀ k1 : Nat,
  (w.heap.size ≤ k1) →
  ∀ w1 : World,
  (Locl ([k1]) w w1) →
  R (Ending.returned (Value.int IntKind.i64 x1)) w1
theorem calls_blend_pair_first (x1 : Int) (x2 : Int) (w : World) (R : Ending → World → Prop) (h : vc_blend_pair_first x1 x2 w R) : Calls P F.blend_pair_first #[.agg #[.int .i64 x1, .int .i64 x2]] w R :=
  calls_of_vc (fn := Try.f54) (ac := ac_blend_pair_first) (args := [.agg #[.int .i64 x1, .int .i64 x2]]) mixed Try.func54 (by kernel_rfl) (cast (by unfold vc_blend_pair_first FnVc; kernel_rfl) h)
/-- darkroom/grid.New[darkroom/api.Color] -/
def vc_grid_New_api_Color (x1 : Int) (x2 : Int) (w : World) (R : Ending → World → Prop) : Prop :=
  Calls P F.grid_fits #[Value.int IntKind.i64 x1, Value.int IntKind.i64 x2] w fun e1 w1 =>
  ∃ c1 : Bool,
  (e1 = Ending.returned (Value.bool c1)) ∧
  brB (!c1)
    (R (Ending.returned (Value.tuple #[Value.pointer none, Value.int IntKind.i64 4])) w1)
    ((0 ≤ IntKind.i64.wrap (x1 * x2)) ∧
    (IntKind.i64.wrap (x1 * x2) ≤ IntKind.i64.wrap (x1 * x2)) ∧
    (IntKind.i64.wrap (x1 * x2) * 8 ≤ 281474976710656) ∧
    (IntKind.i64.wrap (x1 * x2) < 4611686018427387904) ∧
    ∀ k1 : Nat,
    ∀ w2 : World,
    (New w1 (Obj.cells (mkCells [Value.int IntKind.u16 0, Value.int IntKind.u16 0, Value.int IntKind.u16 0, Value.int IntKind.u16 0] (IntKind.i64.wrap (x1 * x2)).toNat) 63) k1 w2) →
    ∀ k2 : Nat,
    ∀ w3 : World,
    (New w2 (Obj.cells #[Value.int IntKind.i64 x1, Value.int IntKind.i64 x2, Value.slice (some { block := k1, off := 0 }) (IntKind.i64.wrap (x1 * x2)).toNat (IntKind.i64.wrap (x1 * x2)).toNat] 101) k2 w3) →
    R (Ending.returned (Value.tuple #[Value.pointer (some { block := k2, off := 0 }), Value.int IntKind.i64 0])) w3)
theorem calls_grid_New_api_Color (x1 : Int) (x2 : Int) (w : World) (R : Ending → World → Prop) (h : vc_grid_New_api_Color x1 x2 w R) : Calls P F.grid_New_api_Color #[.int .i64 x1, .int .i64 x2] w R :=
  calls_of_vc (fn := Try.f55) (ac := ac_grid_New_api_Color) (args := [.int .i64 x1, .int .i64 x2]) mixed Try.func55 (by kernel_rfl) (cast (by unfold vc_grid_New_api_Color FnVc; kernel_rfl) h)
/-- darkroom/grid.Map[darkroom/api.Color,darkroom/api.Color] -/
def vc_grid_Map_api_Color_api_Color (q1 : Option Addr) (va1 : Value) (w : World) (R : Ending → World → Prop) : Prop :=
  brB (q1.isNone)
    (R (Ending.returned (Value.pointer none)) w)
    (nn (q1) fun a1 =>
    ∃ n1 : Int,
    (w.drew.cell? a1 = some (Value.int IntKind.i64 n1)) ∧
    nn (q1) fun a2 =>
    ∃ n2 : Int,
    (w.drew.cell? (a2.add 1) = some (Value.int IntKind.i64 n2)) ∧
    nn (q1) fun a3 =>
    ∃ p1 : Option Addr,
    ∃ k1 : Nat,
    ∃ k2 : Nat,
    (w.drew.cell? (a3.add 2) = some (Value.slice p1 k1 k2)) ∧
    ((0 : Int) ≤ 0) ∧
    (0 ≤ (↑k1 : Int)) ∧
    ((↑k1 : Int) * 8 ≤ 281474976710656) ∧
    ((↑k1 : Int) < 4611686018427387904) ∧
    ∀ k3 : Nat,
    ∀ w1 : World,
    (New (w.drew) (Obj.cells (mkCells [Value.int IntKind.u16 0, Value.int IntKind.u16 0, Value.int IntKind.u16 0, Value.int IntKind.u16 0] k1) 63) k3 w1) →
    ∀ k4 : Nat,
    ∀ w2 : World,
    (New w1 (Obj.cells #[Value.int IntKind.i64 n1, Value.int IntKind.i64 n2, Value.slice (some { block := k3, off := 0 }) 0 k1] 101) k4 w2) →
    nn (q1) fun a4 =>
    ∃ p2 : Option Addr,
    ∃ k5 : Nat,
    ∃ k6 : Nat,
    (w2.cell? (a4.add 2) = some (Value.slice p2 k5 k6)) ∧
    ∃ I1 : List Value → World → Prop,
    ∃ m1 : List Value → World → Nat,
    (I1 [Value.int IntKind.i64 0] w2) ∧
    ∀ n3 : Int,
    ∀ w3 : World,
    (I1 [Value.int IntKind.i64 n3] w3) →
    brB (decide (n3 < (↑k5 : Int)))
      (idx (p2) (k5) (n3) (4) fun a5 =>
      ∃ n4 : Int,
      ∃ n5 : Int,
      ∃ n6 : Int,
      ∃ n7 : Int,
      (w3.cell? a5 = some (Value.int IntKind.u16 n4)) ∧
      (w3.cell? (a5.add 1) = some (Value.int IntKind.u16 n5)) ∧
      (w3.cell? (a5.add 2) = some (Value.int IntKind.u16 n6)) ∧
      (w3.cell? (a5.add 3) = some (Value.int IntKind.u16 n7)) ∧
      ∀ k7 : Nat,
      (w3.heap.size ≤ k7) →
      ∀ w4 : World,
      (Locl ([k7]) w3 w4) →
      ∃ p3 : Option Addr,
      ∃ k8 : Nat,
      ∃ k9 : Nat,
      (w4.cell? { block := k4, off := 2 } = some (Value.slice p3 k8 k9)) ∧
      callV P (va1) [Value.agg #[Value.int IntKind.u16 n4, Value.int IntKind.u16 n5, Value.int IntKind.u16 n6, Value.int IntKind.u16 n7]] w4 fun e1 w5 =>
      ∃ n8 : Int,
      ∃ n9 : Int,
      ∃ n10 : Int,
      ∃ n11 : Int,
      (e1 = Ending.returned (Value.agg #[Value.int IntKind.u16 n8, Value.int IntKind.u16 n9, Value.int IntKind.u16 n10, Value.int IntKind.u16 n11])) ∧
      (Keep ([k7]) w4 w5) ∧
      (Keeps w4 w5) ∧
      ∀ k10 : Nat,
      (w5.heap.size ≤ k10) →
      ∀ w6 : World,
      (Locl ([k10, k7]) w5 w6) →
      appVC (w6) ([(43, k10, [Value.int IntKind.u16 n8, Value.int IntKind.u16 n9, Value.int IntKind.u16 n10, Value.int IntKind.u16 n11]), (7, k7, [Value.int IntKind.u16 n4, Value.int IntKind.u16 n5, Value.int IntKind.u16 n6, Value.int IntKind.u16 n7])]) (p3) (k8) (k9) (1) (4) (8) (63) ([Value.int IntKind.u16 0, Value.int IntKind.u16 0, Value.int IntKind.u16 0, Value.int IntKind.u16 0]) ([Value.int IntKind.u16 n8, Value.int IntKind.u16 n9, Value.int IntKind.u16 n10, Value.int IntKind.u16 n11]) fun p4 k11 k12 w7 =>
      (∃ v1 : Value,
        w7.cell? { block := k4, off := 2 } = some v1) ∧
      (w7.frozen? { block := k4, off := 2 } = false) ∧
      (¬k4 ∈ [k10, k7]) ∧
      (I1 [Value.int IntKind.i64 (IntKind.i64.wrap (n3 + 1))] (setCells w7 { block := k4, off := 2 } [Value.slice p4 k11 k12] 0)) ∧
      m1 [Value.int IntKind.i64 (IntKind.i64.wrap (n3 + 1))] (setCells w7 { block := k4, off := 2 } [Value.slice p4 k11 k12] 0) < m1 [Value.int IntKind.i64 n3] w3)
      (R (Ending.returned (Value.pointer (some { block := k4, off := 0 }))) w3))
theorem calls_grid_Map_api_Color_api_Color (q1 : Option Addr) (va1 : Value) (w : World) (R : Ending → World → Prop) (h : vc_grid_Map_api_Color_api_Color q1 va1 w R) : Calls P F.grid_Map_api_Color_api_Color #[.pointer q1, va1] w R :=
  calls_of_vc (fn := Try.f56) (ac := ac_grid_Map_api_Color_api_Color) (args := [.pointer q1, va1]) mixed Try.func56 (by kernel_rfl) (cast (by unfold vc_grid_Map_api_Color_api_Color FnVc; kernel_rfl) h)
/-- darkroom/raster.Fill$1 -/
def vc_raster_Fill_fn1 (x1 : Int) (x2 : Int) (x3 : Int) (x4 : Int) (fr1 : Addr) (w : World) (R : Ending → World → Prop) : Prop :=
  ∀ k1 : Nat,
  (w.heap.size ≤ k1) →
  ∀ k2 : Nat,
  (w.heap.size ≤ k2) →
  ∀ w1 : World,
  (Locl ([k2, k1]) w w1) →
  ∃ n1 : Int,
  ∃ n2 : Int,
  ∃ n3 : Int,
  ∃ n4 : Int,
  (w1.cell? fr1 = some (Value.int IntKind.u16 n1)) ∧
  (w1.cell? (fr1.add 1) = some (Value.int IntKind.u16 n2)) ∧
  (w1.cell? (fr1.add 2) = some (Value.int IntKind.u16 n3)) ∧
  (w1.cell? (fr1.add 3) = some (Value.int IntKind.u16 n4)) ∧
  ∀ w2 : World,
  (Locl ([k2, k1]) w1 w2) →
  R (Ending.returned (Value.agg #[Value.int IntKind.u16 n1, Value.int IntKind.u16 n2, Value.int IntKind.u16 n3, Value.int IntKind.u16 n4])) w2
theorem calls_raster_Fill_fn1 (x1 : Int) (x2 : Int) (x3 : Int) (x4 : Int) (fr1 : Addr) (w : World) (R : Ending → World → Prop) (h : vc_raster_Fill_fn1 x1 x2 x3 x4 fr1 w R) : Calls P F.raster_Fill_fn1 #[.agg #[.int .u16 x1, .int .u16 x2, .int .u16 x3, .int .u16 x4], .pointer (some fr1)] w R :=
  calls_of_vc (fn := Try.f57) (ac := ac_raster_Fill_fn1) (args := [.agg #[.int .u16 x1, .int .u16 x2, .int .u16 x3, .int .u16 x4], .pointer (some fr1)]) mixed Try.func57 (by kernel_rfl) (cast (by unfold vc_raster_Fill_fn1 FnVc; kernel_rfl) h)
/-- slices.Clone[[]uint16,uint16] -/
def vc_slices_Clone_uint16 (sa1 : Option Addr) (sl1 sc1 : Nat) (w : World) (R : Ending → World → Prop) : Prop :=
  brB (sa1.isNone)
    (R (Ending.returned (Value.slice none 0 0)) w)
    (∀ k1 : Nat,
    ∀ w1 : World,
    (New w (Obj.cells #[] 50) k1 w1) →
    ∃ l1 : List Value,
    (l1.length = sl1 * 1) ∧
    (oneAll l1 = true) ∧
    (CellsAre w1 sa1 l1) ∧
    appVC (w1) ([]) (some { block := k1, off := 0 }) (0) (0) (sl1) (1) (2) (50) ([Value.int IntKind.u16 0]) (l1) fun p1 k2 k3 w2 =>
    R (Ending.returned (Value.slice p1 k2 k3)) w2)
theorem calls_slices_Clone_uint16 (sa1 : Option Addr) (sl1 sc1 : Nat) (w : World) (R : Ending → World → Prop) (h : vc_slices_Clone_uint16 sa1 sl1 sc1 w R) : Calls P F.slices_Clone_uint16 #[.slice sa1 sl1 sc1] w R :=
  calls_of_vc (fn := Try.f58) (ac := ac_slices_Clone_uint16) (args := [.slice sa1 sl1 sc1]) mixed Try.func58 (by kernel_rfl) (cast (by unfold vc_slices_Clone_uint16 FnVc; kernel_rfl) h)
/-- slices.Chunk[[]uint16,uint16] -/
def vc_slices_Chunk_uint16 (sa1 : Option Addr) (sl1 sc1 : Nat) (x1 : Int) (w : World) (R : Ending → World → Prop) : Prop :=
  ∀ k1 : Nat,
  ∀ w1 : World,
  (New w (Obj.cells #[Value.slice sa1 sl1 sc1] 38) k1 w1) →
  ∀ k2 : Nat,
  ∀ w2 : World,
  (New w1 (Obj.cells #[Value.int IntKind.i64 x1] 3) k2 w2) →
  ∃ n1 : Int,
  (w2.cell? { block := k2, off := 0 } = some (Value.int IntKind.i64 n1)) ∧
  brB (decide (n1 < 1))
    (False)
    (R (Ending.returned (Value.func (Fn.func 75) #[] #[Value.pointer (some { block := k1, off := 0 }), Value.pointer (some { block := k2, off := 0 })])) w2)
theorem calls_slices_Chunk_uint16 (sa1 : Option Addr) (sl1 sc1 : Nat) (x1 : Int) (w : World) (R : Ending → World → Prop) (h : vc_slices_Chunk_uint16 sa1 sl1 sc1 x1 w R) : Calls P F.slices_Chunk_uint16 #[.slice sa1 sl1 sc1, .int .i64 x1] w R :=
  calls_of_vc (fn := Try.f59) (ac := ac_slices_Chunk_uint16) (args := [.slice sa1 sl1 sc1, .int .i64 x1]) mixed Try.func59 (by kernel_rfl) (cast (by unfold vc_slices_Chunk_uint16 FnVc; kernel_rfl) h)
/-- darkroom/raster.colour -/
def vc_raster_colour (sa1 : Option Addr) (sl1 sc1 : Nat) (w : World) (R : Ending → World → Prop) : Prop :=
  ∀ k1 : Nat,
  (w.heap.size ≤ k1) →
  idx (sa1) (sl1) (0) (1) fun a1 =>
  ∀ w1 : World,
  (Locl ([k1]) w w1) →
  ∃ n1 : Int,
  (w1.cell? a1 = some (Value.int IntKind.u16 n1)) ∧
  idx (sa1) (sl1) (1) (1) fun a2 =>
  ∃ n2 : Int,
  (w1.cell? a2 = some (Value.int IntKind.u16 n2)) ∧
  idx (sa1) (sl1) (2) (1) fun a3 =>
  ∃ n3 : Int,
  (w1.cell? a3 = some (Value.int IntKind.u16 n3)) ∧
  idx (sa1) (sl1) (3) (1) fun a4 =>
  ∃ n4 : Int,
  (w1.cell? a4 = some (Value.int IntKind.u16 n4)) ∧
  ∀ w2 : World,
  (Locl ([k1]) w1 w2) →
  R (Ending.returned (Value.agg #[Value.int IntKind.u16 n1, Value.int IntKind.u16 n2, Value.int IntKind.u16 n3, Value.int IntKind.u16 n4])) w2
theorem calls_raster_colour (sa1 : Option Addr) (sl1 sc1 : Nat) (w : World) (R : Ending → World → Prop) (h : vc_raster_colour sa1 sl1 sc1 w R) : Calls P F.raster_colour #[.slice sa1 sl1 sc1] w R :=
  calls_of_vc (fn := Try.f60) (ac := ac_raster_colour) (args := [.slice sa1 sl1 sc1]) mixed Try.func60 (by kernel_rfl) (cast (by unfold vc_raster_colour FnVc; kernel_rfl) h)
/-- darkroom/grid.Of[darkroom/api.Color] -/
def vc_grid_Of_api_Color (x1 : Int) (x2 : Int) (sa1 : Option Addr) (sl1 sc1 : Nat) (w : World) (R : Ending → World → Prop) : Prop :=
  Calls P F.grid_fits #[Value.int IntKind.i64 x1, Value.int IntKind.i64 x2] w fun e1 w1 =>
  ∃ c1 : Bool,
  (e1 = Ending.returned (Value.bool c1)) ∧
  brB (!c1)
    (R (Ending.returned (Value.tuple #[Value.pointer none, Value.int IntKind.i64 4])) w1)
    (brB ((↑sl1 : Int) != IntKind.i64.wrap (x1 * x2))
      (R (Ending.returned (Value.tuple #[Value.pointer none, Value.int IntKind.i64 3])) w1)
      (Calls P F.slices_Clone_api_Color #[Value.slice sa1 sl1 sc1] w1 fun e2 w2 =>
      ∃ p1 : Option Addr,
      ∃ k1 : Nat,
      ∃ k2 : Nat,
      (e2 = Ending.returned (Value.slice p1 k1 k2)) ∧
      ∀ k3 : Nat,
      ∀ w3 : World,
      (New w2 (Obj.cells #[Value.int IntKind.i64 x1, Value.int IntKind.i64 x2, Value.slice p1 k1 k2] 101) k3 w3) →
      R (Ending.returned (Value.tuple #[Value.pointer (some { block := k3, off := 0 }), Value.int IntKind.i64 0])) w3))
theorem calls_grid_Of_api_Color (x1 : Int) (x2 : Int) (sa1 : Option Addr) (sl1 sc1 : Nat) (w : World) (R : Ending → World → Prop) (h : vc_grid_Of_api_Color x1 x2 sa1 sl1 sc1 w R) : Calls P F.grid_Of_api_Color #[.int .i64 x1, .int .i64 x2, .slice sa1 sl1 sc1] w R :=
  calls_of_vc (fn := Try.f61) (ac := ac_grid_Of_api_Color) (args := [.int .i64 x1, .int .i64 x2, .slice sa1 sl1 sc1]) mixed Try.func61 (by kernel_rfl) (cast (by unfold vc_grid_Of_api_Color FnVc; kernel_rfl) h)
/-- (*darkroom/grid.Grid[darkroom/api.Color]).All$1 -/
def vc_grid_Grid_api_Color_All_fn1 (yl1 : Nat) (fr1 : Addr) (w : World) (R : Ending → World → Prop) : Prop :=
  ∃ p1 : Option Addr,
  (w.drew.cell? fr1 = some (Value.pointer p1)) ∧
  ∃ p2 : Option Addr,
  (w.drew.cell? fr1 = some (Value.pointer p2)) ∧
  Calls P F.grid_Grid_api_Color_W #[Value.pointer p1] (w.drew) fun e1 w1 =>
  ∃ n1 : Int,
  (e1 = Ending.returned (Value.int IntKind.i64 n1)) ∧
  (Keeps (w.drew) w1) ∧
  Calls P F.grid_Grid_api_Color_H #[Value.pointer p2] w1 fun e2 w2 =>
  ∃ n2 : Int,
  (e2 = Ending.returned (Value.int IntKind.i64 n2)) ∧
  ∃ I1 : List Value → World → Prop,
  ∃ m1 : List Value → World → Nat,
  (I1 [Value.int IntKind.i64 0] w2) ∧
  ∀ n3 : Int,
  ∀ w3 : World,
  (I1 [Value.int IntKind.i64 n3] w3) →
  brB (decide (n3 < IntKind.i64.wrap (n1 * n2)))
    (∃ p3 : Option Addr,
    (w3.drew.cell? fr1 = some (Value.pointer p3)) ∧
    nn (p3) fun a1 =>
    ∃ n4 : Int,
    (w3.drew.cell? a1 = some (Value.int IntKind.i64 n4)) ∧
    (n4 ≠ 0) ∧
    ∃ p4 : Option Addr,
    (w3.drew.cell? fr1 = some (Value.pointer p4)) ∧
    nn (p4) fun a2 =>
    ∃ n5 : Int,
    (w3.drew.cell? a2 = some (Value.int IntKind.i64 n5)) ∧
    (n5 ≠ 0) ∧
    ∃ p5 : Option Addr,
    (w3.drew.cell? fr1 = some (Value.pointer p5)) ∧
    nn (p5) fun a3 =>
    ∃ p6 : Option Addr,
    ∃ k1 : Nat,
    ∃ k2 : Nat,
    (w3.drew.cell? (a3.add 2) = some (Value.slice p6 k1 k2)) ∧
    idx (p6) (k1) (n3) (4) fun a4 =>
    ∃ n6 : Int,
    ∃ n7 : Int,
    ∃ n8 : Int,
    ∃ n9 : Int,
    (w3.drew.cell? a4 = some (Value.int IntKind.u16 n6)) ∧
    (w3.drew.cell? (a4.add 1) = some (Value.int IntKind.u16 n7)) ∧
    (w3.drew.cell? (a4.add 2) = some (Value.int IntKind.u16 n8)) ∧
    (w3.drew.cell? (a4.add 3) = some (Value.int IntKind.u16 n9)) ∧
    YieldAt Fence.wide 0 P (yl1) #[Value.agg #[Value.int IntKind.i64 (divZ BinOp.rem IntKind.i64 n3 n4), Value.int IntKind.i64 (divZ BinOp.quo IntKind.i64 n3 n5)], Value.agg #[Value.int IntKind.u16 n6, Value.int IntKind.u16 n7, Value.int IntKind.u16 n8, Value.int IntKind.u16 n9]] (w3.drew) fun e3 w4 =>
    ∃ c1 : Bool,
    (e3 = Ending.returned (Value.bool c1)) ∧
    brB (!c1)
      (R (Ending.returned (Value.tuple #[])) w4)
      ((I1 [Value.int IntKind.i64 (IntKind.i64.wrap (n3 + 1))] w4) ∧
      m1 [Value.int IntKind.i64 (IntKind.i64.wrap (n3 + 1))] w4 < m1 [Value.int IntKind.i64 n3] w3))
    (R (Ending.returned (Value.tuple #[])) w3)
theorem calls_grid_Grid_api_Color_All_fn1 (yl1 : Nat) (fr1 : Addr) (w : World) (R : Ending → World → Prop) (h : vc_grid_Grid_api_Color_All_fn1 yl1 fr1 w R) : Calls P F.grid_Grid_api_Color_All_fn1 #[.func (.yield yl1) #[] #[], .pointer (some fr1)] w R :=
  calls_of_vc (fn := Try.f62) (ac := ac_grid_Grid_api_Color_All_fn1) (args := [.func (.yield yl1) #[] #[], .pointer (some fr1)]) mixed Try.func62 (by kernel_rfl) (cast (by unfold vc_grid_Grid_api_Color_All_fn1 FnVc; kernel_rfl) h)
/-- (*darkroom/grid.Grid[darkroom/api.Color]).W -/
def vc_grid_Grid_api_Color_W (q1 : Option Addr) (w : World) (R : Ending → World → Prop) : Prop :=
  brB (q1.isNone)
    (R (Ending.returned (Value.int IntKind.i64 0)) w)
    (nn (q1) fun a1 =>
    ∃ n1 : Int,
    (w.cell? a1 = some (Value.int IntKind.i64 n1)) ∧
    R (Ending.returned (Value.int IntKind.i64 n1)) w)
theorem calls_grid_Grid_api_Color_W (q1 : Option Addr) (w : World) (R : Ending → World → Prop) (h : vc_grid_Grid_api_Color_W q1 w R) : Calls P F.grid_Grid_api_Color_W #[.pointer q1] w R :=
  calls_of_vc (fn := Try.f63) (ac := ac_grid_Grid_api_Color_W) (args := [.pointer q1]) mixed Try.func63 (by kernel_rfl) (cast (by unfold vc_grid_Grid_api_Color_W FnVc; kernel_rfl) h)
/-- (*darkroom/grid.Grid[darkroom/api.Color]).H -/
def vc_grid_Grid_api_Color_H (q1 : Option Addr) (w : World) (R : Ending → World → Prop) : Prop :=
  brB (q1.isNone)
    (R (Ending.returned (Value.int IntKind.i64 0)) w)
    (nn (q1) fun a1 =>
    ∃ n1 : Int,
    (w.cell? (a1.add 1) = some (Value.int IntKind.i64 n1)) ∧
    R (Ending.returned (Value.int IntKind.i64 n1)) w)
theorem calls_grid_Grid_api_Color_H (q1 : Option Addr) (w : World) (R : Ending → World → Prop) (h : vc_grid_Grid_api_Color_H q1 w R) : Calls P F.grid_Grid_api_Color_H #[.pointer q1] w R :=
  calls_of_vc (fn := Try.f64) (ac := ac_grid_Grid_api_Color_H) (args := [.pointer q1]) mixed Try.func64 (by kernel_rfl) (cast (by unfold vc_grid_Grid_api_Color_H FnVc; kernel_rfl) h)
/-- darkroom/raster.pixel -/
def vc_raster_pixel (x1 : Int) (x2 : Int) (sa1 : Option Addr) (sl1 sc1 : Nat) (x3 : Int) (x4 : Int) (w : World) (R : Ending → World → Prop) : Prop :=
  ∀ k1 : Nat,
  (w.heap.size ≤ k1) →
  ∀ k2 : Nat,
  (w.heap.size ≤ k2) →
  slcc (sa1) (sc1) (IntKind.i64.wrap (4 * IntKind.i64.wrap (IntKind.i64.wrap (x4 * x1) + x3))) ((↑sl1 : Int)) (1) fun p1 k3 k4 =>
  ∀ w1 : World,
  (Locl ([k2, k1]) w w1) →
  Calls P F.raster_colour #[Value.slice p1 k3 k4] w1 fun e1 w2 =>
  ∃ n1 : Int,
  ∃ n2 : Int,
  ∃ n3 : Int,
  ∃ n4 : Int,
  (e1 = Ending.returned (Value.agg #[Value.int IntKind.u16 n1, Value.int IntKind.u16 n2, Value.int IntKind.u16 n3, Value.int IntKind.u16 n4])) ∧
  (Keep ([k2, k1]) w1 w2) ∧
  ∀ w3 : World,
  (Locl ([k2, k1]) w2 w3) →
  R (Ending.returned (Value.agg #[Value.int IntKind.u16 n1, Value.int IntKind.u16 n2, Value.int IntKind.u16 n3, Value.int IntKind.u16 n4])) w3
theorem calls_raster_pixel (x1 : Int) (x2 : Int) (sa1 : Option Addr) (sl1 sc1 : Nat) (x3 : Int) (x4 : Int) (w : World) (R : Ending → World → Prop) (h : vc_raster_pixel x1 x2 sa1 sl1 sc1 x3 x4 w R) : Calls P F.raster_pixel #[.agg #[.int .i64 x1, .int .i64 x2, .slice sa1 sl1 sc1], .int .i64 x3, .int .i64 x4] w R :=
  calls_of_vc (fn := Try.f65) (ac := ac_raster_pixel) (args := [.agg #[.int .i64 x1, .int .i64 x2, .slice sa1 sl1 sc1], .int .i64 x3, .int .i64 x4]) mixed Try.func65 (by kernel_rfl) (cast (by unfold vc_raster_pixel FnVc; kernel_rfl) h)
/-- darkroom/blend.over$1 -/
def vc_blend_over_fn1 (x1 : Int) (x2 : Int) (fr1 : Addr) (w : World) (R : Ending → World → Prop) : Prop :=
  ∀ k1 : Nat,
  (w.heap.size ≤ k1) →
  ∀ w1 : World,
  (Locl ([k1]) w w1) →
  ∃ n1 : Int,
  (w1.cell? fr1 = some (Value.int IntKind.i64 n1)) ∧
  ∃ n2 : Int,
  (w1.cell? fr1 = some (Value.int IntKind.i64 n2)) ∧
  R (Ending.returned (Value.int IntKind.i64 (divZ BinOp.quo IntKind.i64 (IntKind.i64.wrap (IntKind.i64.wrap (IntKind.i64.wrap (x2 * n1) + IntKind.i64.wrap (x1 * IntKind.i64.wrap (65535 - n2))) + 32767)) 65535))) w1
theorem calls_blend_over_fn1 (x1 : Int) (x2 : Int) (fr1 : Addr) (w : World) (R : Ending → World → Prop) (h : vc_blend_over_fn1 x1 x2 fr1 w R) : Calls P F.blend_over_fn1 #[.agg #[.int .i64 x1, .int .i64 x2], .pointer (some fr1)] w R :=
  calls_of_vc (fn := Try.f66) (ac := ac_blend_over_fn1) (args := [.agg #[.int .i64 x1, .int .i64 x2], .pointer (some fr1)]) mixed Try.func66 (by kernel_rfl) (cast (by unfold vc_blend_over_fn1 FnVc; kernel_rfl) h)
/-- darkroom/blend.mix$1 -/
def vc_blend_mix_fn1 (x1 : Int) (x2 : Int) (fr1 : Addr) (w : World) (R : Ending → World → Prop) : Prop :=
  ∀ k1 : Nat,
  (w.heap.size ≤ k1) →
  ∀ w1 : World,
  (Locl ([k1]) w w1) →
  ∃ n1 : Int,
  (w1.cell? fr1 = some (Value.int IntKind.i64 n1)) ∧
  R (Ending.returned (Value.int IntKind.i64 (IntKind.i64.wrap (x1 + shiftZ BinOp.shr IntKind.i64 (IntKind.i64.wrap (IntKind.i64.wrap (x2 - x1) * n1)) 8)))) w1
theorem calls_blend_mix_fn1 (x1 : Int) (x2 : Int) (fr1 : Addr) (w : World) (R : Ending → World → Prop) (h : vc_blend_mix_fn1 x1 x2 fr1 w R) : Calls P F.blend_mix_fn1 #[.agg #[.int .i64 x1, .int .i64 x2], .pointer (some fr1)] w R :=
  calls_of_vc (fn := Try.f67) (ac := ac_blend_mix_fn1) (args := [.agg #[.int .i64 x1, .int .i64 x2], .pointer (some fr1)]) mixed Try.func67 (by kernel_rfl) (cast (by unfold vc_blend_mix_fn1 FnVc; kernel_rfl) h)
/-- darkroom/blend.three$1 -/
def vc_blend_three_fn1 (x1 : Int) (x2 : Int) (fr1 : Addr) (w : World) (R : Ending → World → Prop) : Prop :=
  ∃ y1 : FuncId,
  ∃ y2 : Array Value,
  ∃ y3 : Array Value,
  (w.cell? fr1 = some (Value.func (Fn.func y1) y2 y3)) ∧
  callV P (Value.func (Fn.func y1) y2 y3) [Value.agg #[Value.int IntKind.i64 (IntKind.i64.wrap x1), Value.int IntKind.i64 (IntKind.i64.wrap x2)]] w fun e1 w1 =>
  ∃ n1 : Int,
  (e1 = Ending.returned (Value.int IntKind.i64 n1)) ∧
  Calls P F.blend_clamp #[Value.int IntKind.i64 n1] w1 fun e2 w2 =>
  ∃ n2 : Int,
  (e2 = Ending.returned (Value.int IntKind.u16 n2)) ∧
  R (Ending.returned (Value.int IntKind.u16 n2)) w2
theorem calls_blend_three_fn1 (x1 : Int) (x2 : Int) (fr1 : Addr) (w : World) (R : Ending → World → Prop) (h : vc_blend_three_fn1 x1 x2 fr1 w R) : Calls P F.blend_three_fn1 #[.int .u16 x1, .int .u16 x2, .pointer (some fr1)] w R :=
  calls_of_vc (fn := Try.f68) (ac := ac_blend_three_fn1) (args := [.int .u16 x1, .int .u16 x2, .pointer (some fr1)]) mixed Try.func68 (by kernel_rfl) (cast (by unfold vc_blend_three_fn1 FnVc; kernel_rfl) h)
/-- (*darkroom/grid.Grid[darkroom/api.Color]).has -/
def vc_grid_Grid_api_Color_has (q1 : Option Addr) (x1 : Int) (x2 : Int) (w : World) (R : Ending → World → Prop) : Prop :=
  brB (!q1.isNone && decide (x1 ≥ 0) && decide (x2 ≥ 0))
    (nn (q1) fun a1 =>
    ∃ n1 : Int,
    (w.cell? a1 = some (Value.int IntKind.i64 n1)) ∧
    brB (decide (x1 < n1))
      (nn (q1) fun a2 =>
      ∃ n2 : Int,
      (w.cell? (a2.add 1) = some (Value.int IntKind.i64 n2)) ∧
      R (Ending.returned (Value.bool (decide (x2 < n2)))) w)
      (R (Ending.returned (Value.bool false)) w))
    (R (Ending.returned (Value.bool false)) w)
theorem calls_grid_Grid_api_Color_has (q1 : Option Addr) (x1 : Int) (x2 : Int) (w : World) (R : Ending → World → Prop) (h : vc_grid_Grid_api_Color_has q1 x1 x2 w R) : Calls P F.grid_Grid_api_Color_has #[.pointer q1, .int .i64 x1, .int .i64 x2] w R :=
  calls_of_vc (fn := Try.f69) (ac := ac_grid_Grid_api_Color_has) (args := [.pointer q1, .int .i64 x1, .int .i64 x2]) mixed Try.func69 (by kernel_rfl) (cast (by unfold vc_grid_Grid_api_Color_has FnVc; kernel_rfl) h)
/-- darkroom/darkroomref09.At -/
def vc_ref09_At (x1 : Int) (x2 : Int) (sa1 : Option Addr) (sl1 sc1 : Nat) (x3 : Int) (x4 : Int) (w : World) (R : Ending → World → Prop) : Prop :=
  ∀ k1 : Nat,
  (w.heap.size ≤ k1) →
  ∀ k2 : Nat,
  (w.heap.size ≤ k2) →
  ∀ w1 : World,
  (Locl ([k2, k1]) w w1) →
  Calls P F.ref09_Good #[Value.agg #[Value.int IntKind.i64 x1, Value.int IntKind.i64 x2, Value.slice sa1 sl1 sc1]] w1 fun e1 w2 =>
  ∃ c1 : Bool,
  (e1 = Ending.returned (Value.bool c1)) ∧
  (Keep ([k2, k1]) w1 w2) ∧
  brB (!c1 || decide (x3 < 0) || decide (x4 < 0) || decide (x3 ≥ x1) || decide (x4 ≥ x2))
    (∀ w3 : World,
    (Locl ([k2, k1]) w2 w3) →
    R (Ending.returned (Value.tuple #[Value.agg #[Value.int IntKind.u16 0, Value.int IntKind.u16 0, Value.int IntKind.u16 0, Value.int IntKind.u16 0], Value.bool false])) w3)
    (Calls P F.ref09_Pixel #[Value.agg #[Value.int IntKind.i64 x1, Value.int IntKind.i64 x2, Value.slice sa1 sl1 sc1], Value.int IntKind.i64 x3, Value.int IntKind.i64 x4] w2 fun e2 w4 =>
    ∃ n1 : Int,
    ∃ n2 : Int,
    ∃ n3 : Int,
    ∃ n4 : Int,
    (e2 = Ending.returned (Value.agg #[Value.int IntKind.u16 n1, Value.int IntKind.u16 n2, Value.int IntKind.u16 n3, Value.int IntKind.u16 n4])) ∧
    (Keep ([k2, k1]) w2 w4) ∧
    ∀ w5 : World,
    (Locl ([k2, k1]) w4 w5) →
    R (Ending.returned (Value.tuple #[Value.agg #[Value.int IntKind.u16 n1, Value.int IntKind.u16 n2, Value.int IntKind.u16 n3, Value.int IntKind.u16 n4], Value.bool true])) w5)
theorem calls_ref09_At (x1 : Int) (x2 : Int) (sa1 : Option Addr) (sl1 sc1 : Nat) (x3 : Int) (x4 : Int) (w : World) (R : Ending → World → Prop) (h : vc_ref09_At x1 x2 sa1 sl1 sc1 x3 x4 w R) : Calls P F.ref09_At #[.agg #[.int .i64 x1, .int .i64 x2, .slice sa1 sl1 sc1], .int .i64 x3, .int .i64 x4] w R :=
  calls_of_vc (fn := Try.f70) (ac := ac_ref09_At) (args := [.agg #[.int .i64 x1, .int .i64 x2, .slice sa1 sl1 sc1], .int .i64 x3, .int .i64 x4]) mixed Try.func70 (by kernel_rfl) (cast (by unfold vc_ref09_At FnVc; kernel_rfl) h)
/-- darkroom/darkroomref23.laid -/
def vc_ref23_laid (x1 : Int) (x2 : Int) (x3 : Int) (x4 : Int) (x5 : Int) (x6 : Int) (x7 : Int) (x8 : Int) (w : World) (R : Ending → World → Prop) : Prop :=
  ∀ k1 : Nat,
  (w.heap.size ≤ k1) →
  ∀ k2 : Nat,
  (w.heap.size ≤ k2) →
  ∀ k3 : Nat,
  (w.heap.size ≤ k3) →
  ∀ w1 : World,
  (Locl ([k3, k2, k1]) w w1) →
  Calls P F.ref23_func3 #[Value.int IntKind.i64 (IntKind.i64.wrap x1), Value.int IntKind.i64 (IntKind.i64.wrap x5), Value.int IntKind.i64 (IntKind.i64.wrap x8)] w1 fun e1 w2 =>
  ∃ n1 : Int,
  (e1 = Ending.returned (Value.int IntKind.u16 n1)) ∧
  (Keep ([k3, k2, k1]) w1 w2) ∧
  Calls P F.ref23_func3 #[Value.int IntKind.i64 (IntKind.i64.wrap x2), Value.int IntKind.i64 (IntKind.i64.wrap x6), Value.int IntKind.i64 (IntKind.i64.wrap x8)] (w2.drew) fun e2 w3 =>
  ∃ n2 : Int,
  (e2 = Ending.returned (Value.int IntKind.u16 n2)) ∧
  (Keep ([k3, k2, k1]) (w2.drew) w3) ∧
  (Keeps (w2.drew) w3) ∧
  Calls P F.ref23_func3 #[Value.int IntKind.i64 (IntKind.i64.wrap x3), Value.int IntKind.i64 (IntKind.i64.wrap x7), Value.int IntKind.i64 (IntKind.i64.wrap x8)] w3 fun e3 w4 =>
  ∃ n3 : Int,
  (e3 = Ending.returned (Value.int IntKind.u16 n3)) ∧
  (Keep ([k3, k2, k1]) w3 w4) ∧
  (Keeps w3 w4) ∧
  Calls P F.ref08_Clamp #[Value.int IntKind.i64 (IntKind.i64.wrap (IntKind.i64.wrap x8 + divZ BinOp.quo IntKind.i64 (IntKind.i64.wrap (IntKind.i64.wrap (IntKind.i64.wrap x4 * IntKind.i64.wrap (65535 - IntKind.i64.wrap x8)) + 32767)) 65535)), Value.int IntKind.i64 65535] w4 fun e4 w5 =>
  ∃ n4 : Int,
  (e4 = Ending.returned (Value.int IntKind.i64 n4)) ∧
  (Keep ([k3, k2, k1]) w4 w5) ∧
  ∀ w6 : World,
  (Locl ([k3, k2, k1]) w5 w6) →
  R (Ending.returned (Value.agg #[Value.int IntKind.u16 n1, Value.int IntKind.u16 n2, Value.int IntKind.u16 n3, Value.int IntKind.u16 (IntKind.u16.wrap n4)])) w6
theorem calls_ref23_laid (x1 : Int) (x2 : Int) (x3 : Int) (x4 : Int) (x5 : Int) (x6 : Int) (x7 : Int) (x8 : Int) (w : World) (R : Ending → World → Prop) (h : vc_ref23_laid x1 x2 x3 x4 x5 x6 x7 x8 w R) : Calls P F.ref23_laid #[.agg #[.int .u16 x1, .int .u16 x2, .int .u16 x3, .int .u16 x4], .agg #[.int .u16 x5, .int .u16 x6, .int .u16 x7, .int .u16 x8]] w R :=
  calls_of_vc (fn := Try.f71) (ac := ac_ref23_laid) (args := [.agg #[.int .u16 x1, .int .u16 x2, .int .u16 x3, .int .u16 x4], .agg #[.int .u16 x5, .int .u16 x6, .int .u16 x7, .int .u16 x8]]) mixed Try.func71 (by kernel_rfl) (cast (by unfold vc_ref23_laid FnVc; kernel_rfl) h)
/-- darkroom/darkroomref23.sample -/
def vc_ref23_sample (st1 : ByteArray) (sa1 : Option Addr) (sl1 sc1 : Nat) (x1 : Int) (x2 : Int) (w : World) (R : Ending → World → Prop) : Prop :=
  ∃ I1 : List Value → World → Prop,
  (brB (decide (st1 = { data := #[112, 108, 117, 115] }))
      (Calls P F.ref08_Clamp #[Value.int IntKind.i64 (IntKind.i64.wrap (x1 + x2)), Value.int IntKind.i64 65535] w fun e1 w1 =>
      ∃ n1 : Int,
      (e1 = Ending.returned (Value.int IntKind.i64 n1)) ∧
      R (Ending.returned (Value.int IntKind.i64 n1)) w1)
      (brB (decide (st1 = { data := #[109, 105, 110, 117, 115] }))
        (Calls P F.ref08_Clamp #[Value.int IntKind.i64 (IntKind.i64.wrap (x1 - x2)), Value.int IntKind.i64 65535] w fun e2 w2 =>
        ∃ n2 : Int,
        (e2 = Ending.returned (Value.int IntKind.i64 n2)) ∧
        R (Ending.returned (Value.int IntKind.i64 n2)) w2)
        (brB (decide (st1 = { data := #[116, 105, 109, 101, 115] }))
          (R (Ending.returned (Value.int IntKind.i64 (divZ BinOp.quo IntKind.i64 (IntKind.i64.wrap (IntKind.i64.wrap (x1 * x2) + 32767)) 65535))) w)
          (brB (decide (st1 = { data := #[115, 99, 114, 101, 101, 110] }))
            (R (Ending.returned (Value.int IntKind.i64 (IntKind.i64.wrap (65535 - divZ BinOp.quo IntKind.i64 (IntKind.i64.wrap (IntKind.i64.wrap (IntKind.i64.wrap (65535 - x1) * IntKind.i64.wrap (65535 - x2)) + 32767)) 65535)))) w)
            (brB (decide (st1 = { data := #[100, 105, 102, 102, 101, 114] }))
              (brB (decide (x1 < x2))
                (R (Ending.returned (Value.int IntKind.i64 (IntKind.i64.wrap (x2 - x1)))) w)
                (R (Ending.returned (Value.int IntKind.i64 (IntKind.i64.wrap (x1 - x2)))) w))
              (brB (decide (st1 = { data := #[108, 105, 103, 104, 116, 101, 114] }))
                (brB (decide (x2 > x1))
                  (R (Ending.returned (Value.int IntKind.i64 x2)) w)
                  (I1 [] w))
                (brB (decide (st1 = { data := #[100, 97, 114, 107, 101, 114] }))
                  (brB (decide (x2 < x1))
                    (R (Ending.returned (Value.int IntKind.i64 x2)) w)
                    (I1 [] w))
                  (brB (decide (st1 = { data := #[109, 105, 120] }))
                    (idx (sa1) (sl1) (0) (1) fun a1 =>
                    ∃ n3 : Int,
                    (w.cell? a1 = some (Value.int IntKind.i64 n3)) ∧
                    Calls P F.ref08_Over #[Value.int IntKind.i64 (IntKind.i64.wrap (IntKind.i64.wrap (x2 - x1) * n3)), Value.int IntKind.i64 256] w fun e3 w3 =>
                    ∃ n4 : Int,
                    (e3 = Ending.returned (Value.int IntKind.i64 n4)) ∧
                    R (Ending.returned (Value.int IntKind.i64 (IntKind.i64.wrap (x1 + n4)))) w3)
                    (I1 [] w))))))))) ∧
  ∀ w4 : World,
  (I1 [] w4) →
  R (Ending.returned (Value.int IntKind.i64 x1)) w4
theorem calls_ref23_sample (st1 : ByteArray) (sa1 : Option Addr) (sl1 sc1 : Nat) (x1 : Int) (x2 : Int) (w : World) (R : Ending → World → Prop) (h : vc_ref23_sample st1 sa1 sl1 sc1 x1 x2 w R) : Calls P F.ref23_sample #[.string st1, .slice sa1 sl1 sc1, .int .i64 x1, .int .i64 x2] w R :=
  calls_of_vc (fn := Try.f72) (ac := ac_ref23_sample) (args := [.string st1, .slice sa1 sl1 sc1, .int .i64 x1, .int .i64 x2]) mixed Try.func72 (by kernel_rfl) (cast (by unfold vc_ref23_sample FnVc; kernel_rfl) h)
/-- darkroom/darkroomref08.Luma -/
def vc_ref08_Luma (x1 : Int) (x2 : Int) (x3 : Int) (x4 : Int) (w : World) (R : Ending → World → Prop) : Prop :=
  ∀ k1 : Nat,
  (w.heap.size ≤ k1) →
  ∀ w1 : World,
  (Locl ([k1]) w w1) →
  R (Ending.returned (Value.int IntKind.u16 (IntKind.u16.wrap (divZ BinOp.quo IntKind.i64 (IntKind.i64.wrap (IntKind.i64.wrap (IntKind.i64.wrap (IntKind.i64.wrap (19595 * IntKind.i64.wrap x1) + IntKind.i64.wrap (38470 * IntKind.i64.wrap x2)) + IntKind.i64.wrap (7471 * IntKind.i64.wrap x3)) + 32768)) 65536)))) w1
theorem calls_ref08_Luma (x1 : Int) (x2 : Int) (x3 : Int) (x4 : Int) (w : World) (R : Ending → World → Prop) (h : vc_ref08_Luma x1 x2 x3 x4 w R) : Calls P F.ref08_Luma #[.agg #[.int .u16 x1, .int .u16 x2, .int .u16 x3, .int .u16 x4]] w R :=
  calls_of_vc (fn := Try.f73) (ac := ac_ref08_Luma) (args := [.agg #[.int .u16 x1, .int .u16 x2, .int .u16 x3, .int .u16 x4]]) mixed Try.func73 (by kernel_rfl) (cast (by unfold vc_ref08_Luma FnVc; kernel_rfl) h)
/-- darkroom/grid.fits -/
def vc_grid_fits (x1 : Int) (x2 : Int) (w : World) (R : Ending → World → Prop) : Prop :=
  R (Ending.returned (Value.bool (decide (min x1 x2 ≥ 1) && decide (max x1 x2 ≤ 4096) && decide (IntKind.i64.wrap (x1 * x2) ≤ 65536)))) w
theorem calls_grid_fits (x1 : Int) (x2 : Int) (w : World) (R : Ending → World → Prop) (h : vc_grid_fits x1 x2 w R) : Calls P F.grid_fits #[.int .i64 x1, .int .i64 x2] w R :=
  calls_of_vc (fn := Try.f74) (ac := ac_grid_fits) (args := [.int .i64 x1, .int .i64 x2]) mixed Try.func74 (by kernel_rfl) (cast (by unfold vc_grid_fits FnVc; kernel_rfl) h)
/-- slices.Chunk[[]uint16,uint16]$1 -/
def vc_slices_Chunk_uint16_fn1 (yl1 : Nat) (fr1 : Addr) (fr2 : Addr) (w : World) (R : Ending → World → Prop) : Prop :=
  ∃ I1 : List Value → World → Prop,
  ∃ m1 : List Value → World → Nat,
  (I1 [Value.int IntKind.i64 0] w) ∧
  ∀ n1 : Int,
  ∀ w1 : World,
  (I1 [Value.int IntKind.i64 n1] w1) →
  ∃ p1 : Option Addr,
  ∃ k1 : Nat,
  ∃ k2 : Nat,
  (w1.cell? fr1 = some (Value.slice p1 k1 k2)) ∧
  brB (decide (n1 < (↑k1 : Int)))
    (∃ n2 : Int,
    (w1.drew.cell? fr2 = some (Value.int IntKind.i64 n2)) ∧
    ∃ p2 : Option Addr,
    ∃ k3 : Nat,
    ∃ k4 : Nat,
    (w1.drew.cell? fr1 = some (Value.slice p2 k3 k4)) ∧
    slcc (p2) (k4) (n1) ((↑k3 : Int)) (1) fun p3 k5 k6 =>
    ∃ p4 : Option Addr,
    ∃ k7 : Nat,
    ∃ k8 : Nat,
    (w1.drew.cell? fr1 = some (Value.slice p4 k7 k8)) ∧
    (0 ≤ IntKind.i64.wrap (n1 + min n2 (↑k5 : Int))) ∧
    (IntKind.i64.wrap (n1 + min n2 (↑k5 : Int)) ≤ (↑k8 : Int)) ∧
    slcc (p4) ((IntKind.i64.wrap (n1 + min n2 (↑k5 : Int))).toNat) (n1) (IntKind.i64.wrap (n1 + min n2 (↑k5 : Int))) (1) fun p5 k9 k10 =>
    YieldAt Fence.wide 0 P (yl1) #[Value.slice p5 k9 k10] (w1.drew) fun e1 w2 =>
    ∃ c1 : Bool,
    (e1 = Ending.returned (Value.bool c1)) ∧
    brB (!c1)
      (R (Ending.returned (Value.tuple #[])) w2)
      (∃ n3 : Int,
      (w2.cell? fr2 = some (Value.int IntKind.i64 n3)) ∧
      (I1 [Value.int IntKind.i64 (IntKind.i64.wrap (n1 + n3))] w2) ∧
      m1 [Value.int IntKind.i64 (IntKind.i64.wrap (n1 + n3))] w2 < m1 [Value.int IntKind.i64 n1] w1))
    (R (Ending.returned (Value.tuple #[])) w1)
theorem calls_slices_Chunk_uint16_fn1 (yl1 : Nat) (fr1 : Addr) (fr2 : Addr) (w : World) (R : Ending → World → Prop) (h : vc_slices_Chunk_uint16_fn1 yl1 fr1 fr2 w R) : Calls P F.slices_Chunk_uint16_fn1 #[.func (.yield yl1) #[] #[], .pointer (some fr1), .pointer (some fr2)] w R :=
  calls_of_vc (fn := Try.f75) (ac := ac_slices_Chunk_uint16_fn1) (args := [.func (.yield yl1) #[] #[], .pointer (some fr1), .pointer (some fr2)]) mixed Try.func75 (by kernel_rfl) (cast (by unfold vc_slices_Chunk_uint16_fn1 FnVc; kernel_rfl) h)
/-- slices.Clone[[]darkroom/api.Color,darkroom/api.Color] -/
def vc_slices_Clone_api_Color (sa1 : Option Addr) (sl1 sc1 : Nat) (w : World) (R : Ending → World → Prop) : Prop :=
  brB (sa1.isNone)
    (R (Ending.returned (Value.slice none 0 0)) w)
    (∀ k1 : Nat,
    ∀ w1 : World,
    (New w (Obj.cells #[] 63) k1 w1) →
    ∃ l1 : List Value,
    (l1.length = sl1 * 4) ∧
    (oneAll l1 = true) ∧
    (CellsAre w1 sa1 l1) ∧
    appVC (w1) ([]) (some { block := k1, off := 0 }) (0) (0) (sl1) (4) (8) (63) ([Value.int IntKind.u16 0, Value.int IntKind.u16 0, Value.int IntKind.u16 0, Value.int IntKind.u16 0]) (l1) fun p1 k2 k3 w2 =>
    R (Ending.returned (Value.slice p1 k2 k3)) w2)
theorem calls_slices_Clone_api_Color (sa1 : Option Addr) (sl1 sc1 : Nat) (w : World) (R : Ending → World → Prop) (h : vc_slices_Clone_api_Color sa1 sl1 sc1 w R) : Calls P F.slices_Clone_api_Color #[.slice sa1 sl1 sc1] w R :=
  calls_of_vc (fn := Try.f76) (ac := ac_slices_Clone_api_Color) (args := [.slice sa1 sl1 sc1]) mixed Try.func76 (by kernel_rfl) (cast (by unfold vc_slices_Clone_api_Color FnVc; kernel_rfl) h)
/-- darkroom/darkroomref23.func3 -/
def vc_ref23_func3 (x1 : Int) (x2 : Int) (x3 : Int) (w : World) (R : Ending → World → Prop) : Prop :=
  R (Ending.returned (Value.int IntKind.u16 (IntKind.u16.wrap (divZ BinOp.quo IntKind.i64 (IntKind.i64.wrap (IntKind.i64.wrap (IntKind.i64.wrap (x2 * x3) + IntKind.i64.wrap (x1 * IntKind.i64.wrap (65535 - x3))) + 32767)) 65535)))) w
theorem calls_ref23_func3 (x1 : Int) (x2 : Int) (x3 : Int) (w : World) (R : Ending → World → Prop) (h : vc_ref23_func3 x1 x2 x3 w R) : Calls P F.ref23_func3 #[.int .i64 x1, .int .i64 x2, .int .i64 x3] w R :=
  calls_of_vc (fn := Try.f77) (ac := ac_ref23_func3) (args := [.int .i64 x1, .int .i64 x2, .int .i64 x3]) mixed Try.func77 (by kernel_rfl) (cast (by unfold vc_ref23_func3 FnVc; kernel_rfl) h)
/-- darkroom/darkroomref08.Clamp -/
def vc_ref08_Clamp (x1 : Int) (x2 : Int) (w : World) (R : Ending → World → Prop) : Prop :=
  brB (decide (x1 < 0))
    (R (Ending.returned (Value.int IntKind.i64 0)) w)
    (brB (decide (x1 > x2))
      (R (Ending.returned (Value.int IntKind.i64 x2)) w)
      (R (Ending.returned (Value.int IntKind.i64 x1)) w))
theorem calls_ref08_Clamp (x1 : Int) (x2 : Int) (w : World) (R : Ending → World → Prop) (h : vc_ref08_Clamp x1 x2 w R) : Calls P F.ref08_Clamp #[.int .i64 x1, .int .i64 x2] w R :=
  calls_of_vc (fn := Try.f78) (ac := ac_ref08_Clamp) (args := [.int .i64 x1, .int .i64 x2]) mixed Try.func78 (by kernel_rfl) (cast (by unfold vc_ref08_Clamp FnVc; kernel_rfl) h)
/-- darkroom/darkroomref08.Over -/
def vc_ref08_Over (x1 : Int) (x2 : Int) (w : World) (R : Ending → World → Prop) : Prop :=
  (x2 ≠ 0) ∧
  (x2 ≠ 0) ∧
  brB (decide (divZ BinOp.rem IntKind.i64 x1 x2 < 0))
    (R (Ending.returned (Value.int IntKind.i64 (IntKind.i64.wrap (divZ BinOp.quo IntKind.i64 x1 x2 - 1)))) w)
    (R (Ending.returned (Value.int IntKind.i64 (divZ BinOp.quo IntKind.i64 x1 x2))) w)
theorem calls_ref08_Over (x1 : Int) (x2 : Int) (w : World) (R : Ending → World → Prop) (h : vc_ref08_Over x1 x2 w R) : Calls P F.ref08_Over #[.int .i64 x1, .int .i64 x2] w R :=
  calls_of_vc (fn := Try.f79) (ac := ac_ref08_Over) (args := [.int .i64 x1, .int .i64 x2]) mixed Try.func79 (by kernel_rfl) (cast (by unfold vc_ref08_Over FnVc; kernel_rfl) h)
end Go.Proofs.Ytombfebgojeliaa
