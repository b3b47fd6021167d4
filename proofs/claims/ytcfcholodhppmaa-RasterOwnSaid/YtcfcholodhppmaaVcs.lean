/- For each function the condition that its code asks, written out (by a program of ours), and the theorem that it suffices: the kernel holds both against the code. -/
import Derived.Test.YtcfcholodhppmaaFns
namespace Go.Proofs.Ytcfcholodhppmaa
open Go Go.Vc
set_option maxRecDepth 100000
set_option linter.unusedVariables false
/-- darkroom/darkroomlaw09.RasterFills -/
def vc_law09_RasterFills (x1 : Int) (x2 : Int) (x3 : Int) (x4 : Int) (x5 : Int) (x6 : Int) (w : World) (R : Ending → World → Prop) : Prop :=
  ∀ k1 : Nat,
  (w.heap.size ≤ k1) →
  ∀ w1 : World,
  (Locl ([k1]) w w1) →
  Calls P F.law09_wakes #[] w1 fun e1 w2 =>
  ∃ c1 : Bool,
  (e1 = Ending.returned (Value.bool c1)) ∧
  (Keep ([k1]) w1 w2) ∧
  brB (!c1)
    (R (Ending.returned (Value.bool false)) w2)
    (Calls P F.raster_Fill #[Value.int IntKind.i64 x1, Value.int IntKind.i64 x2, Value.agg #[Value.int IntKind.u16 x3, Value.int IntKind.u16 x4, Value.int IntKind.u16 x5, Value.int IntKind.u16 x6]] w2 fun e2 w3 =>
    ∃ n1 : Int,
    ∃ n2 : Int,
    ∃ p1 : Option Addr,
    ∃ k2 : Nat,
    ∃ k3 : Nat,
    ∃ n3 : Int,
    (e2 = Ending.returned (Value.tuple #[Value.agg #[Value.int IntKind.i64 n1, Value.int IntKind.i64 n2, Value.slice p1 k2 k3], Value.int IntKind.i64 n3])) ∧
    (Keep ([k1]) w2 w3) ∧
    ∀ k4 : Nat,
    (w3.heap.size ≤ k4) →
    ∀ w4 : World,
    (Locl ([k4, k1]) w3 w4) →
    Calls P F.ref09_Fill #[Value.int IntKind.i64 x1, Value.int IntKind.i64 x2, Value.agg #[Value.int IntKind.u16 x3, Value.int IntKind.u16 x4, Value.int IntKind.u16 x5, Value.int IntKind.u16 x6]] w4 fun e3 w5 =>
    ∃ n4 : Int,
    ∃ n5 : Int,
    ∃ p2 : Option Addr,
    ∃ k5 : Nat,
    ∃ k6 : Nat,
    ∃ n6 : Int,
    (e3 = Ending.returned (Value.tuple #[Value.agg #[Value.int IntKind.i64 n4, Value.int IntKind.i64 n5, Value.slice p2 k5 k6], Value.int IntKind.i64 n6])) ∧
    (Keep ([k4, k1]) w4 w5) ∧
    ∀ k7 : Nat,
    (w5.heap.size ≤ k7) →
    ∀ w6 : World,
    (Locl ([k7, k4, k1]) w5 w6) →
    Calls P F.ref09_Same #[Value.agg #[Value.int IntKind.i64 n1, Value.int IntKind.i64 n2, Value.slice p1 k2 k3], Value.agg #[Value.int IntKind.i64 n4, Value.int IntKind.i64 n5, Value.slice p2 k5 k6]] w6 fun e4 w7 =>
    ∃ c2 : Bool,
    (e4 = Ending.returned (Value.bool c2)) ∧
    (Keep ([k7, k4, k1]) w6 w7) ∧
    R (Ending.returned (Value.bool (c2 && n3 == n6))) w7)
theorem calls_law09_RasterFills (x1 : Int) (x2 : Int) (x3 : Int) (x4 : Int) (x5 : Int) (x6 : Int) (w : World) (R : Ending → World → Prop) (h : vc_law09_RasterFills x1 x2 x3 x4 x5 x6 w R) : Calls P F.law09_RasterFills #[.int .i64 x1, .int .i64 x2, .agg #[.int .u16 x3, .int .u16 x4, .int .u16 x5, .int .u16 x6]] w R :=
  calls_of_vc (fn := Try.f3) (ac := ac_law09_RasterFills) (args := [.int .i64 x1, .int .i64 x2, .agg #[.int .u16 x3, .int .u16 x4, .int .u16 x5, .int .u16 x6]]) mixed Try.func3 (by kernel_rfl) (cast (by unfold vc_law09_RasterFills FnVc; kernel_rfl) h)
/-- darkroom/darkroomlaw09.RasterDistinct -/
def vc_law09_RasterDistinct (x1 : Int) (x2 : Int) (sa1 : Option Addr) (sl1 sc1 : Nat) (w : World) (R : Ending → World → Prop) : Prop :=
  ∀ k1 : Nat,
  (w.heap.size ≤ k1) →
  ∀ w1 : World,
  (Locl ([k1]) w w1) →
  Calls P F.law09_wakes #[] w1 fun e1 w2 =>
  ∃ c1 : Bool,
  (e1 = Ending.returned (Value.bool c1)) ∧
  (Keep ([k1]) w1 w2) ∧
  brB (!c1)
    (R (Ending.returned (Value.bool false)) w2)
    (Calls P F.law09_own #[Value.agg #[Value.int IntKind.i64 x1, Value.int IntKind.i64 x2, Value.slice sa1 sl1 sc1]] (w2.drew) fun e2 w3 =>
    ∃ n1 : Int,
    ∃ n2 : Int,
    ∃ p1 : Option Addr,
    ∃ k2 : Nat,
    ∃ k3 : Nat,
    (e2 = Ending.returned (Value.agg #[Value.int IntKind.i64 n1, Value.int IntKind.i64 n2, Value.slice p1 k2 k3])) ∧
    (Keep ([k1]) (w2.drew) w3) ∧
    (Keeps (w2.drew) w3) ∧
    Calls P F.raster_Distinct #[Value.agg #[Value.int IntKind.i64 n1, Value.int IntKind.i64 n2, Value.slice p1 k2 k3]] w3 fun e3 w4 =>
    ∃ p2 : Option Addr,
    ∃ k4 : Nat,
    ∃ k5 : Nat,
    (e3 = Ending.returned (Value.slice p2 k4 k5)) ∧
    (Keep ([k1]) w3 w4) ∧
    (Keeps w3 w4) ∧
    Calls P F.ref09_Distinct #[Value.agg #[Value.int IntKind.i64 x1, Value.int IntKind.i64 x2, Value.slice sa1 sl1 sc1]] w4 fun e4 w5 =>
    ∃ p3 : Option Addr,
    ∃ k6 : Nat,
    ∃ k7 : Nat,
    (e4 = Ending.returned (Value.slice p3 k6 k7)) ∧
    (Keep ([k1]) w4 w5) ∧
    Calls P F.ref09_SameColors #[Value.slice p2 k4 k5, Value.slice p3 k6 k7] w5 fun e5 w6 =>
    ∃ c2 : Bool,
    (e5 = Ending.returned (Value.bool c2)) ∧
    (Keep ([k1]) w5 w6) ∧
    R (Ending.returned (Value.bool c2)) w6)
theorem calls_law09_RasterDistinct (x1 : Int) (x2 : Int) (sa1 : Option Addr) (sl1 sc1 : Nat) (w : World) (R : Ending → World → Prop) (h : vc_law09_RasterDistinct x1 x2 sa1 sl1 sc1 w R) : Calls P F.law09_RasterDistinct #[.agg #[.int .i64 x1, .int .i64 x2, .slice sa1 sl1 sc1]] w R :=
  calls_of_vc (fn := Try.f4) (ac := ac_law09_RasterDistinct) (args := [.agg #[.int .i64 x1, .int .i64 x2, .slice sa1 sl1 sc1]]) mixed Try.func4 (by kernel_rfl) (cast (by unfold vc_law09_RasterDistinct FnVc; kernel_rfl) h)
/-- darkroom/darkroomlaw09.RasterLooks -/
def vc_law09_RasterLooks (x1 : Int) (x2 : Int) (sa1 : Option Addr) (sl1 sc1 : Nat) (x3 : Int) (x4 : Int) (sa2 : Option Addr) (sl2 sc2 : Nat) (x5 : Int) (x6 : Int) (w : World) (R : Ending → World → Prop) : Prop :=
  ∀ k1 : Nat,
  (w.heap.size ≤ k1) →
  ∀ k2 : Nat,
  (w.heap.size ≤ k2) →
  ∀ k3 : Nat,
  (w.heap.size ≤ k3) →
  ∀ w1 : World,
  (Locl ([k3, k2, k1]) w w1) →
  Calls P F.law09_wakes #[] w1 fun e1 w2 =>
  ∃ c1 : Bool,
  (e1 = Ending.returned (Value.bool c1)) ∧
  (Keep ([k3, k2, k1]) w1 w2) ∧
  brB (!c1)
    (R (Ending.returned (Value.bool false)) w2)
    (∃ I1 : List Value → World → Prop,
    ((Calls P F.law09_own #[Value.agg #[Value.int IntKind.i64 x1, Value.int IntKind.i64 x2, Value.slice sa1 sl1 sc1]] (w2.drew) fun e2 w3 =>
        ∃ n1 : Int,
        ∃ n2 : Int,
        ∃ p1 : Option Addr,
        ∃ k4 : Nat,
        ∃ k5 : Nat,
        (e2 = Ending.returned (Value.agg #[Value.int IntKind.i64 n1, Value.int IntKind.i64 n2, Value.slice p1 k4 k5])) ∧
        (Keep ([k3, k2, k1]) (w2.drew) w3) ∧
        (Keeps (w2.drew) w3) ∧
        (Calls P F.raster_At #[Value.agg #[Value.int IntKind.i64 n1, Value.int IntKind.i64 n2, Value.slice p1 k4 k5], Value.int IntKind.i64 x5, Value.int IntKind.i64 x6] w3 fun e3 w4 =>
          ∃ n3 : Int,
          ∃ n4 : Int,
          ∃ n5 : Int,
          ∃ n6 : Int,
          ∃ c2 : Bool,
          (e3 = Ending.returned (Value.tuple #[Value.agg #[Value.int IntKind.u16 n3, Value.int IntKind.u16 n4, Value.int IntKind.u16 n5, Value.int IntKind.u16 n6], Value.bool c2])) ∧
          (Keep ([k3, k2, k1]) w3 w4) ∧
          ∀ k6 : Nat,
          (w4.heap.size ≤ k6) →
          ∀ w5 : World,
          (Locl ([k6, k3, k2, k1]) w4 w5) →
          I1 [Value.bool c2, Value.pointer (some { block := k6, off := 0 }), Value.int IntKind.u16 n3, Value.int IntKind.u16 n4, Value.int IntKind.u16 n5, Value.int IntKind.u16 n6] w5) ∧
        ∀ k7 : Nat,
        (w3.heap.size ≤ k7) →
        ∀ w6 : World,
        (Locl ([k7, k3, k2, k1]) w3 w6) →
        Calls P F.raster_At #[Value.agg #[Value.int IntKind.i64 n1, Value.int IntKind.i64 n2, Value.slice p1 k4 k5], Value.int IntKind.i64 x5, Value.int IntKind.i64 x6] w6 fun e4 w7 =>
        ∃ n7 : Int,
        ∃ n8 : Int,
        ∃ n9 : Int,
        ∃ n10 : Int,
        ∃ c3 : Bool,
        (e4 = Ending.returned (Value.tuple #[Value.agg #[Value.int IntKind.u16 n7, Value.int IntKind.u16 n8, Value.int IntKind.u16 n9, Value.int IntKind.u16 n10], Value.bool c3])) ∧
        (Keep ([k7, k3, k2, k1]) w6 w7) ∧
        ∀ w8 : World,
        (Locl ([k7, k3, k2, k1]) w7 w8) →
        I1 [Value.bool c3, Value.pointer (some { block := k7, off := 0 }), Value.int IntKind.u16 n7, Value.int IntKind.u16 n8, Value.int IntKind.u16 n9, Value.int IntKind.u16 n10] w8) ∧
      ∀ k8 : Nat,
      (w2.drew.heap.size ≤ k8) →
      ∀ w9 : World,
      (Locl ([k8, k3, k2, k1]) (w2.drew) w9) →
      Calls P F.law09_own #[Value.agg #[Value.int IntKind.i64 x1, Value.int IntKind.i64 x2, Value.slice sa1 sl1 sc1]] w9 fun e5 w10 =>
      ∃ n11 : Int,
      ∃ n12 : Int,
      ∃ p2 : Option Addr,
      ∃ k9 : Nat,
      ∃ k10 : Nat,
      (e5 = Ending.returned (Value.agg #[Value.int IntKind.i64 n11, Value.int IntKind.i64 n12, Value.slice p2 k9 k10])) ∧
      (Keep ([k8, k3, k2, k1]) w9 w10) ∧
      (Keeps w9 w10) ∧
      Calls P F.raster_At #[Value.agg #[Value.int IntKind.i64 n11, Value.int IntKind.i64 n12, Value.slice p2 k9 k10], Value.int IntKind.i64 x5, Value.int IntKind.i64 x6] w10 fun e6 w11 =>
      ∃ n13 : Int,
      ∃ n14 : Int,
      ∃ n15 : Int,
      ∃ n16 : Int,
      ∃ c4 : Bool,
      (e6 = Ending.returned (Value.tuple #[Value.agg #[Value.int IntKind.u16 n13, Value.int IntKind.u16 n14, Value.int IntKind.u16 n15, Value.int IntKind.u16 n16], Value.bool c4])) ∧
      (Keep ([k8, k3, k2, k1]) w10 w11) ∧
      ∀ w12 : World,
      (Locl ([k8, k3, k2, k1]) w11 w12) →
      I1 [Value.bool c4, Value.pointer (some { block := k8, off := 0 }), Value.int IntKind.u16 n13, Value.int IntKind.u16 n14, Value.int IntKind.u16 n15, Value.int IntKind.u16 n16] w12) ∧
    ∀ c5 : Bool,
    ∀ k11 : Nat,
    ∀ n17 : Int,
    ∀ n18 : Int,
    ∀ n19 : Int,
    ∀ n20 : Int,
    ∀ w13 : World,
    (I1 [Value.bool c5, Value.pointer (some { block := k11, off := 0 }), Value.int IntKind.u16 n17, Value.int IntKind.u16 n18, Value.int IntKind.u16 n19, Value.int IntKind.u16 n20] w13) →
    Calls P F.ref09_At #[Value.agg #[Value.int IntKind.i64 x1, Value.int IntKind.i64 x2, Value.slice sa1 sl1 sc1], Value.int IntKind.i64 x5, Value.int IntKind.i64 x6] w13 fun e7 w14 =>
    ∃ n21 : Int,
    ∃ n22 : Int,
    ∃ n23 : Int,
    ∃ n24 : Int,
    ∃ c6 : Bool,
    (e7 = Ending.returned (Value.tuple #[Value.agg #[Value.int IntKind.u16 n21, Value.int IntKind.u16 n22, Value.int IntKind.u16 n23, Value.int IntKind.u16 n24], Value.bool c6])) ∧
    (Keep ([k11, k3, k2, k1]) w13 w14) ∧
    ∀ k12 : Nat,
    (w14.heap.size ≤ k12) →
    ∀ w15 : World,
    (Locl ([k12, k11, k3, k2, k1]) w14 w15) →
    Calls P F.law09_own #[Value.agg #[Value.int IntKind.i64 x1, Value.int IntKind.i64 x2, Value.slice sa1 sl1 sc1]] w15 fun e8 w16 =>
    ∃ n25 : Int,
    ∃ n26 : Int,
    ∃ p3 : Option Addr,
    ∃ k13 : Nat,
    ∃ k14 : Nat,
    (e8 = Ending.returned (Value.agg #[Value.int IntKind.i64 n25, Value.int IntKind.i64 n26, Value.slice p3 k13 k14])) ∧
    (Keep ([k12, k11, k3, k2, k1]) w15 w16) ∧
    (Keeps w15 w16) ∧
    Calls P F.raster_Good #[Value.agg #[Value.int IntKind.i64 n25, Value.int IntKind.i64 n26, Value.slice p3 k13 k14]] w16 fun e9 w17 =>
    ∃ c7 : Bool,
    (e9 = Ending.returned (Value.bool c7)) ∧
    (Keep ([k12, k11, k3, k2, k1]) w16 w17) ∧
    (Keeps w16 w17) ∧
    Calls P F.ref09_Good #[Value.agg #[Value.int IntKind.i64 x1, Value.int IntKind.i64 x2, Value.slice sa1 sl1 sc1]] w17 fun e10 w18 =>
    ∃ c8 : Bool,
    (e10 = Ending.returned (Value.bool c8)) ∧
    (Keep ([k12, k11, k3, k2, k1]) w17 w18) ∧
    brB (c7 == c8)
      (Calls P F.law09_own #[Value.agg #[Value.int IntKind.i64 x1, Value.int IntKind.i64 x2, Value.slice sa1 sl1 sc1]] w18 fun e11 w19 =>
      ∃ n27 : Int,
      ∃ n28 : Int,
      ∃ p4 : Option Addr,
      ∃ k15 : Nat,
      ∃ k16 : Nat,
      (e11 = Ending.returned (Value.agg #[Value.int IntKind.i64 n27, Value.int IntKind.i64 n28, Value.slice p4 k15 k16])) ∧
      (Keep ([k12, k11, k3, k2, k1]) w18 w19) ∧
      (Keeps w18 w19) ∧
      Calls P F.law09_own #[Value.agg #[Value.int IntKind.i64 x3, Value.int IntKind.i64 x4, Value.slice sa2 sl2 sc2]] w19 fun e12 w20 =>
      ∃ n29 : Int,
      ∃ n30 : Int,
      ∃ p5 : Option Addr,
      ∃ k17 : Nat,
      ∃ k18 : Nat,
      (e12 = Ending.returned (Value.agg #[Value.int IntKind.i64 n29, Value.int IntKind.i64 n30, Value.slice p5 k17 k18])) ∧
      (Keep ([k12, k11, k3, k2, k1]) w19 w20) ∧
      (Keeps w19 w20) ∧
      Calls P F.raster_Same #[Value.agg #[Value.int IntKind.i64 n27, Value.int IntKind.i64 n28, Value.slice p4 k15 k16], Value.agg #[Value.int IntKind.i64 n29, Value.int IntKind.i64 n30, Value.slice p5 k17 k18]] w20 fun e13 w21 =>
      ∃ c9 : Bool,
      (e13 = Ending.returned (Value.bool c9)) ∧
      (Keep ([k12, k11, k3, k2, k1]) w20 w21) ∧
      (Keeps w20 w21) ∧
      Calls P F.ref09_Same #[Value.agg #[Value.int IntKind.i64 x1, Value.int IntKind.i64 x2, Value.slice sa1 sl1 sc1], Value.agg #[Value.int IntKind.i64 x3, Value.int IntKind.i64 x4, Value.slice sa2 sl2 sc2]] w21 fun e14 w22 =>
      ∃ c10 : Bool,
      (e14 = Ending.returned (Value.bool c10)) ∧
      (Keep ([k12, k11, k3, k2, k1]) w21 w22) ∧
      brB (c9 == c10)
        (Calls P F.law09_own #[Value.agg #[Value.int IntKind.i64 x1, Value.int IntKind.i64 x2, Value.slice sa1 sl1 sc1]] w22 fun e15 w23 =>
        ∃ n31 : Int,
        ∃ n32 : Int,
        ∃ p6 : Option Addr,
        ∃ k19 : Nat,
        ∃ k20 : Nat,
        (e15 = Ending.returned (Value.agg #[Value.int IntKind.i64 n31, Value.int IntKind.i64 n32, Value.slice p6 k19 k20])) ∧
        (Keep ([k12, k11, k3, k2, k1]) w22 w23) ∧
        (Keeps w22 w23) ∧
        Calls P F.law09_own #[Value.agg #[Value.int IntKind.i64 x1, Value.int IntKind.i64 x2, Value.slice sa1 sl1 sc1]] w23 fun e16 w24 =>
        ∃ n33 : Int,
        ∃ n34 : Int,
        ∃ p7 : Option Addr,
        ∃ k21 : Nat,
        ∃ k22 : Nat,
        (e16 = Ending.returned (Value.agg #[Value.int IntKind.i64 n33, Value.int IntKind.i64 n34, Value.slice p7 k21 k22])) ∧
        (Keep ([k12, k11, k3, k2, k1]) w23 w24) ∧
        Calls P F.raster_Same #[Value.agg #[Value.int IntKind.i64 n31, Value.int IntKind.i64 n32, Value.slice p6 k19 k20], Value.agg #[Value.int IntKind.i64 n33, Value.int IntKind.i64 n34, Value.slice p7 k21 k22]] w24 fun e17 w25 =>
        ∃ c11 : Bool,
        (e17 = Ending.returned (Value.bool c11)) ∧
        (Keep ([k12, k11, k3, k2, k1]) w24 w25) ∧
        brB (c11)
          (R (Ending.returned (Value.bool (decide (n17 = n21) && (decide (n18 = n22) && (decide (n19 = n23) && (decide (n20 = n24) && true))) && c5 == c6))) w25)
          (R (Ending.returned (Value.bool false)) w25))
        (R (Ending.returned (Value.bool false)) w22))
      (R (Ending.returned (Value.bool false)) w18))
theorem calls_law09_RasterLooks (x1 : Int) (x2 : Int) (sa1 : Option Addr) (sl1 sc1 : Nat) (x3 : Int) (x4 : Int) (sa2 : Option Addr) (sl2 sc2 : Nat) (x5 : Int) (x6 : Int) (w : World) (R : Ending → World → Prop) (h : vc_law09_RasterLooks x1 x2 sa1 sl1 sc1 x3 x4 sa2 sl2 sc2 x5 x6 w R) : Calls P F.law09_RasterLooks #[.agg #[.int .i64 x1, .int .i64 x2, .slice sa1 sl1 sc1], .agg #[.int .i64 x3, .int .i64 x4, .slice sa2 sl2 sc2], .agg #[.int .i64 x5, .int .i64 x6]] w R :=
  calls_of_vc (fn := Try.f5) (ac := ac_law09_RasterLooks) (args := [.agg #[.int .i64 x1, .int .i64 x2, .slice sa1 sl1 sc1], .agg #[.int .i64 x3, .int .i64 x4, .slice sa2 sl2 sc2], .agg #[.int .i64 x5, .int .i64 x6]]) mixed Try.func5 (by kernel_rfl) (cast (by unfold vc_law09_RasterLooks FnVc; kernel_rfl) h)
/-- darkroom/darkroomlaw09.RasterParts -/
def vc_law09_RasterParts (x1 : Int) (x2 : Int) (sa1 : Option Addr) (sl1 sc1 : Nat) (x3 : Int) (x4 : Int) (sa2 : Option Addr) (sl2 sc2 : Nat) (x5 : Int) (x6 : Int) (x7 : Int) (x8 : Int) (w : World) (R : Ending → World → Prop) : Prop :=
  ∀ k1 : Nat,
  (w.heap.size ≤ k1) →
  ∀ k2 : Nat,
  (w.heap.size ≤ k2) →
  ∀ k3 : Nat,
  (w.heap.size ≤ k3) →
  ∀ w1 : World,
  (Locl ([k3, k2, k1]) w w1) →
  Calls P F.law09_wakes #[] w1 fun e1 w2 =>
  ∃ c1 : Bool,
  (e1 = Ending.returned (Value.bool c1)) ∧
  (Keep ([k3, k2, k1]) w1 w2) ∧
  brB (!c1)
    (R (Ending.returned (Value.bool false)) w2)
    (∃ I1 : List Value → World → Prop,
    ((Calls P F.law09_own #[Value.agg #[Value.int IntKind.i64 x1, Value.int IntKind.i64 x2, Value.slice sa1 sl1 sc1]] (w2.drew) fun e2 w3 =>
        ∃ n1 : Int,
        ∃ n2 : Int,
        ∃ p1 : Option Addr,
        ∃ k4 : Nat,
        ∃ k5 : Nat,
        (e2 = Ending.returned (Value.agg #[Value.int IntKind.i64 n1, Value.int IntKind.i64 n2, Value.slice p1 k4 k5])) ∧
        (Keep ([k3, k2, k1]) (w2.drew) w3) ∧
        (Keeps (w2.drew) w3) ∧
        (Calls P F.raster_Crop #[Value.agg #[Value.int IntKind.i64 n1, Value.int IntKind.i64 n2, Value.slice p1 k4 k5], Value.agg #[Value.int IntKind.i64 x5, Value.int IntKind.i64 x6, Value.int IntKind.i64 x7, Value.int IntKind.i64 x8]] w3 fun e3 w4 =>
          ∃ n3 : Int,
          ∃ n4 : Int,
          ∃ p2 : Option Addr,
          ∃ k6 : Nat,
          ∃ k7 : Nat,
          ∃ n5 : Int,
          (e3 = Ending.returned (Value.tuple #[Value.agg #[Value.int IntKind.i64 n3, Value.int IntKind.i64 n4, Value.slice p2 k6 k7], Value.int IntKind.i64 n5])) ∧
          (Keep ([k3, k2, k1]) w3 w4) ∧
          ∀ k8 : Nat,
          (w4.heap.size ≤ k8) →
          ∀ w5 : World,
          (Locl ([k8, k3, k2, k1]) w4 w5) →
          I1 [Value.int IntKind.i64 n5, Value.pointer (some { block := k8, off := 0 }), Value.int IntKind.i64 n3, Value.int IntKind.i64 n4, Value.slice p2 k6 k7] w5) ∧
        ∀ k9 : Nat,
        (w3.heap.size ≤ k9) →
        ∀ w6 : World,
        (Locl ([k9, k3, k2, k1]) w3 w6) →
        Calls P F.raster_Crop #[Value.agg #[Value.int IntKind.i64 n1, Value.int IntKind.i64 n2, Value.slice p1 k4 k5], Value.agg #[Value.int IntKind.i64 x5, Value.int IntKind.i64 x6, Value.int IntKind.i64 x7, Value.int IntKind.i64 x8]] w6 fun e4 w7 =>
        ∃ n6 : Int,
        ∃ n7 : Int,
        ∃ p3 : Option Addr,
        ∃ k10 : Nat,
        ∃ k11 : Nat,
        ∃ n8 : Int,
        (e4 = Ending.returned (Value.tuple #[Value.agg #[Value.int IntKind.i64 n6, Value.int IntKind.i64 n7, Value.slice p3 k10 k11], Value.int IntKind.i64 n8])) ∧
        (Keep ([k9, k3, k2, k1]) w6 w7) ∧
        ∀ w8 : World,
        (Locl ([k9, k3, k2, k1]) w7 w8) →
        I1 [Value.int IntKind.i64 n8, Value.pointer (some { block := k9, off := 0 }), Value.int IntKind.i64 n6, Value.int IntKind.i64 n7, Value.slice p3 k10 k11] w8) ∧
      ∀ k12 : Nat,
      (w2.drew.heap.size ≤ k12) →
      ∀ w9 : World,
      (Locl ([k12, k3, k2, k1]) (w2.drew) w9) →
      Calls P F.law09_own #[Value.agg #[Value.int IntKind.i64 x1, Value.int IntKind.i64 x2, Value.slice sa1 sl1 sc1]] w9 fun e5 w10 =>
      ∃ n9 : Int,
      ∃ n10 : Int,
      ∃ p4 : Option Addr,
      ∃ k13 : Nat,
      ∃ k14 : Nat,
      (e5 = Ending.returned (Value.agg #[Value.int IntKind.i64 n9, Value.int IntKind.i64 n10, Value.slice p4 k13 k14])) ∧
      (Keep ([k12, k3, k2, k1]) w9 w10) ∧
      (Keeps w9 w10) ∧
      Calls P F.raster_Crop #[Value.agg #[Value.int IntKind.i64 n9, Value.int IntKind.i64 n10, Value.slice p4 k13 k14], Value.agg #[Value.int IntKind.i64 x5, Value.int IntKind.i64 x6, Value.int IntKind.i64 x7, Value.int IntKind.i64 x8]] w10 fun e6 w11 =>
      ∃ n11 : Int,
      ∃ n12 : Int,
      ∃ p5 : Option Addr,
      ∃ k15 : Nat,
      ∃ k16 : Nat,
      ∃ n13 : Int,
      (e6 = Ending.returned (Value.tuple #[Value.agg #[Value.int IntKind.i64 n11, Value.int IntKind.i64 n12, Value.slice p5 k15 k16], Value.int IntKind.i64 n13])) ∧
      (Keep ([k12, k3, k2, k1]) w10 w11) ∧
      ∀ w12 : World,
      (Locl ([k12, k3, k2, k1]) w11 w12) →
      I1 [Value.int IntKind.i64 n13, Value.pointer (some { block := k12, off := 0 }), Value.int IntKind.i64 n11, Value.int IntKind.i64 n12, Value.slice p5 k15 k16] w12) ∧
    ∀ n14 : Int,
    ∀ k17 : Nat,
    ∀ n15 : Int,
    ∀ n16 : Int,
    ∀ p6 : Option Addr,
    ∀ k18 : Nat,
    ∀ k19 : Nat,
    ∀ w13 : World,
    (I1 [Value.int IntKind.i64 n14, Value.pointer (some { block := k17, off := 0 }), Value.int IntKind.i64 n15, Value.int IntKind.i64 n16, Value.slice p6 k18 k19] w13) →
    Calls P F.ref09_Crop #[Value.agg #[Value.int IntKind.i64 x1, Value.int IntKind.i64 x2, Value.slice sa1 sl1 sc1], Value.agg #[Value.int IntKind.i64 x5, Value.int IntKind.i64 x6, Value.int IntKind.i64 x7, Value.int IntKind.i64 x8]] w13 fun e7 w14 =>
    ∃ n17 : Int,
    ∃ n18 : Int,
    ∃ p7 : Option Addr,
    ∃ k20 : Nat,
    ∃ k21 : Nat,
    ∃ n19 : Int,
    (e7 = Ending.returned (Value.tuple #[Value.agg #[Value.int IntKind.i64 n17, Value.int IntKind.i64 n18, Value.slice p7 k20 k21], Value.int IntKind.i64 n19])) ∧
    (Keep ([k17, k3, k2, k1]) w13 w14) ∧
    ∀ k22 : Nat,
    (w14.heap.size ≤ k22) →
    ∃ I2 : List Value → World → Prop,
    ((∀ w15 : World,
        (Locl ([k22, k17, k3, k2, k1]) w14 w15) →
        Calls P F.law09_own #[Value.agg #[Value.int IntKind.i64 x1, Value.int IntKind.i64 x2, Value.slice sa1 sl1 sc1]] w15 fun e8 w16 =>
        ∃ n20 : Int,
        ∃ n21 : Int,
        ∃ p8 : Option Addr,
        ∃ k23 : Nat,
        ∃ k24 : Nat,
        (e8 = Ending.returned (Value.agg #[Value.int IntKind.i64 n20, Value.int IntKind.i64 n21, Value.slice p8 k23 k24])) ∧
        (Keep ([k22, k17, k3, k2, k1]) w15 w16) ∧
        (Keeps w15 w16) ∧
        (Calls P F.law09_own #[Value.agg #[Value.int IntKind.i64 x3, Value.int IntKind.i64 x4, Value.slice sa2 sl2 sc2]] w16 fun e9 w17 =>
          ∃ n22 : Int,
          ∃ n23 : Int,
          ∃ p9 : Option Addr,
          ∃ k25 : Nat,
          ∃ k26 : Nat,
          (e9 = Ending.returned (Value.agg #[Value.int IntKind.i64 n22, Value.int IntKind.i64 n23, Value.slice p9 k25 k26])) ∧
          (Keep ([k22, k17, k3, k2, k1]) w16 w17) ∧
          (Keeps w16 w17) ∧
          (Calls P F.raster_Paste #[Value.agg #[Value.int IntKind.i64 n20, Value.int IntKind.i64 n21, Value.slice p8 k23 k24], Value.agg #[Value.int IntKind.i64 n22, Value.int IntKind.i64 n23, Value.slice p9 k25 k26], Value.int IntKind.i64 x5, Value.int IntKind.i64 x6] w17 fun e10 w18 =>
            ∃ n24 : Int,
            ∃ n25 : Int,
            ∃ p10 : Option Addr,
            ∃ k27 : Nat,
            ∃ k28 : Nat,
            ∃ n26 : Int,
            (e10 = Ending.returned (Value.tuple #[Value.agg #[Value.int IntKind.i64 n24, Value.int IntKind.i64 n25, Value.slice p10 k27 k28], Value.int IntKind.i64 n26])) ∧
            (Keep ([k22, k17, k3, k2, k1]) w17 w18) ∧
            ∀ k29 : Nat,
            (w18.heap.size ≤ k29) →
            ∀ w19 : World,
            (Locl ([k29, k22, k17, k3, k2, k1]) w18 w19) →
            I2 [Value.int IntKind.i64 n26, Value.pointer (some { block := k29, off := 0 }), Value.int IntKind.i64 n24, Value.int IntKind.i64 n25, Value.slice p10 k27 k28] w19) ∧
          ∀ k30 : Nat,
          (w17.heap.size ≤ k30) →
          ∀ w20 : World,
          (Locl ([k30, k22, k17, k3, k2, k1]) w17 w20) →
          Calls P F.raster_Paste #[Value.agg #[Value.int IntKind.i64 n20, Value.int IntKind.i64 n21, Value.slice p8 k23 k24], Value.agg #[Value.int IntKind.i64 n22, Value.int IntKind.i64 n23, Value.slice p9 k25 k26], Value.int IntKind.i64 x5, Value.int IntKind.i64 x6] w20 fun e11 w21 =>
          ∃ n27 : Int,
          ∃ n28 : Int,
          ∃ p11 : Option Addr,
          ∃ k31 : Nat,
          ∃ k32 : Nat,
          ∃ n29 : Int,
          (e11 = Ending.returned (Value.tuple #[Value.agg #[Value.int IntKind.i64 n27, Value.int IntKind.i64 n28, Value.slice p11 k31 k32], Value.int IntKind.i64 n29])) ∧
          (Keep ([k30, k22, k17, k3, k2, k1]) w20 w21) ∧
          ∀ w22 : World,
          (Locl ([k30, k22, k17, k3, k2, k1]) w21 w22) →
          I2 [Value.int IntKind.i64 n29, Value.pointer (some { block := k30, off := 0 }), Value.int IntKind.i64 n27, Value.int IntKind.i64 n28, Value.slice p11 k31 k32] w22) ∧
        ∀ k33 : Nat,
        (w16.heap.size ≤ k33) →
        ∀ w23 : World,
        (Locl ([k33, k22, k17, k3, k2, k1]) w16 w23) →
        Calls P F.law09_own #[Value.agg #[Value.int IntKind.i64 x3, Value.int IntKind.i64 x4, Value.slice sa2 sl2 sc2]] w23 fun e12 w24 =>
        ∃ n30 : Int,
        ∃ n31 : Int,
        ∃ p12 : Option Addr,
        ∃ k34 : Nat,
        ∃ k35 : Nat,
        (e12 = Ending.returned (Value.agg #[Value.int IntKind.i64 n30, Value.int IntKind.i64 n31, Value.slice p12 k34 k35])) ∧
        (Keep ([k33, k22, k17, k3, k2, k1]) w23 w24) ∧
        (Keeps w23 w24) ∧
        Calls P F.raster_Paste #[Value.agg #[Value.int IntKind.i64 n20, Value.int IntKind.i64 n21, Value.slice p8 k23 k24], Value.agg #[Value.int IntKind.i64 n30, Value.int IntKind.i64 n31, Value.slice p12 k34 k35], Value.int IntKind.i64 x5, Value.int IntKind.i64 x6] w24 fun e13 w25 =>
        ∃ n32 : Int,
        ∃ n33 : Int,
        ∃ p13 : Option Addr,
        ∃ k36 : Nat,
        ∃ k37 : Nat,
        ∃ n34 : Int,
        (e13 = Ending.returned (Value.tuple #[Value.agg #[Value.int IntKind.i64 n32, Value.int IntKind.i64 n33, Value.slice p13 k36 k37], Value.int IntKind.i64 n34])) ∧
        (Keep ([k33, k22, k17, k3, k2, k1]) w24 w25) ∧
        ∀ w26 : World,
        (Locl ([k33, k22, k17, k3, k2, k1]) w25 w26) →
        I2 [Value.int IntKind.i64 n34, Value.pointer (some { block := k33, off := 0 }), Value.int IntKind.i64 n32, Value.int IntKind.i64 n33, Value.slice p13 k36 k37] w26) ∧
      ∀ k38 : Nat,
      (w14.heap.size ≤ k38) →
      ∀ w27 : World,
      (Locl ([k38, k22, k17, k3, k2, k1]) w14 w27) →
      Calls P F.law09_own #[Value.agg #[Value.int IntKind.i64 x1, Value.int IntKind.i64 x2, Value.slice sa1 sl1 sc1]] w27 fun e14 w28 =>
      ∃ n35 : Int,
      ∃ n36 : Int,
      ∃ p14 : Option Addr,
      ∃ k39 : Nat,
      ∃ k40 : Nat,
      (e14 = Ending.returned (Value.agg #[Value.int IntKind.i64 n35, Value.int IntKind.i64 n36, Value.slice p14 k39 k40])) ∧
      (Keep ([k38, k22, k17, k3, k2, k1]) w27 w28) ∧
      (Keeps w27 w28) ∧
      Calls P F.law09_own #[Value.agg #[Value.int IntKind.i64 x3, Value.int IntKind.i64 x4, Value.slice sa2 sl2 sc2]] w28 fun e15 w29 =>
      ∃ n37 : Int,
      ∃ n38 : Int,
      ∃ p15 : Option Addr,
      ∃ k41 : Nat,
      ∃ k42 : Nat,
      (e15 = Ending.returned (Value.agg #[Value.int IntKind.i64 n37, Value.int IntKind.i64 n38, Value.slice p15 k41 k42])) ∧
      (Keep ([k38, k22, k17, k3, k2, k1]) w28 w29) ∧
      (Keeps w28 w29) ∧
      Calls P F.raster_Paste #[Value.agg #[Value.int IntKind.i64 n35, Value.int IntKind.i64 n36, Value.slice p14 k39 k40], Value.agg #[Value.int IntKind.i64 n37, Value.int IntKind.i64 n38, Value.slice p15 k41 k42], Value.int IntKind.i64 x5, Value.int IntKind.i64 x6] w29 fun e16 w30 =>
      ∃ n39 : Int,
      ∃ n40 : Int,
      ∃ p16 : Option Addr,
      ∃ k43 : Nat,
      ∃ k44 : Nat,
      ∃ n41 : Int,
      (e16 = Ending.returned (Value.tuple #[Value.agg #[Value.int IntKind.i64 n39, Value.int IntKind.i64 n40, Value.slice p16 k43 k44], Value.int IntKind.i64 n41])) ∧
      (Keep ([k38, k22, k17, k3, k2, k1]) w29 w30) ∧
      ∀ w31 : World,
      (Locl ([k38, k22, k17, k3, k2, k1]) w30 w31) →
      I2 [Value.int IntKind.i64 n41, Value.pointer (some { block := k38, off := 0 }), Value.int IntKind.i64 n39, Value.int IntKind.i64 n40, Value.slice p16 k43 k44] w31) ∧
    ∀ n42 : Int,
    ∀ k45 : Nat,
    ∀ n43 : Int,
    ∀ n44 : Int,
    ∀ p17 : Option Addr,
    ∀ k46 : Nat,
    ∀ k47 : Nat,
    ∀ w32 : World,
    (I2 [Value.int IntKind.i64 n42, Value.pointer (some { block := k45, off := 0 }), Value.int IntKind.i64 n43, Value.int IntKind.i64 n44, Value.slice p17 k46 k47] w32) →
    Calls P F.ref09_Paste #[Value.agg #[Value.int IntKind.i64 x1, Value.int IntKind.i64 x2, Value.slice sa1 sl1 sc1], Value.agg #[Value.int IntKind.i64 x3, Value.int IntKind.i64 x4, Value.slice sa2 sl2 sc2], Value.int IntKind.i64 x5, Value.int IntKind.i64 x6] w32 fun e17 w33 =>
    ∃ n45 : Int,
    ∃ n46 : Int,
    ∃ p18 : Option Addr,
    ∃ k48 : Nat,
    ∃ k49 : Nat,
    ∃ n47 : Int,
    (e17 = Ending.returned (Value.tuple #[Value.agg #[Value.int IntKind.i64 n45, Value.int IntKind.i64 n46, Value.slice p18 k48 k49], Value.int IntKind.i64 n47])) ∧
    (Keep ([k45, k22, k17, k3, k2, k1]) w32 w33) ∧
    ∀ k50 : Nat,
    (w33.heap.size ≤ k50) →
    ∀ w34 : World,
    (Locl ([k50, k45, k22, k17, k3, k2, k1]) w33 w34) →
    Calls P F.ref09_Same #[Value.agg #[Value.int IntKind.i64 n15, Value.int IntKind.i64 n16, Value.slice p6 k18 k19], Value.agg #[Value.int IntKind.i64 n17, Value.int IntKind.i64 n18, Value.slice p7 k20 k21]] w34 fun e18 w35 =>
    ∃ c2 : Bool,
    (e18 = Ending.returned (Value.bool c2)) ∧
    (Keep ([k50, k45, k22, k17, k3, k2, k1]) w34 w35) ∧
    brB (c2 && n14 == n19)
      (Calls P F.ref09_Same #[Value.agg #[Value.int IntKind.i64 n43, Value.int IntKind.i64 n44, Value.slice p17 k46 k47], Value.agg #[Value.int IntKind.i64 n45, Value.int IntKind.i64 n46, Value.slice p18 k48 k49]] w35 fun e19 w36 =>
      ∃ c3 : Bool,
      (e19 = Ending.returned (Value.bool c3)) ∧
      (Keep ([k50, k45, k22, k17, k3, k2, k1]) w35 w36) ∧
      R (Ending.returned (Value.bool (c3 && n42 == n47))) w36)
      (R (Ending.returned (Value.bool false)) w35))
theorem calls_law09_RasterParts (x1 : Int) (x2 : Int) (sa1 : Option Addr) (sl1 sc1 : Nat) (x3 : Int) (x4 : Int) (sa2 : Option Addr) (sl2 sc2 : Nat) (x5 : Int) (x6 : Int) (x7 : Int) (x8 : Int) (w : World) (R : Ending → World → Prop) (h : vc_law09_RasterParts x1 x2 sa1 sl1 sc1 x3 x4 sa2 sl2 sc2 x5 x6 x7 x8 w R) : Calls P F.law09_RasterParts #[.agg #[.int .i64 x1, .int .i64 x2, .slice sa1 sl1 sc1], .agg #[.int .i64 x3, .int .i64 x4, .slice sa2 sl2 sc2], .agg #[.int .i64 x5, .int .i64 x6, .int .i64 x7, .int .i64 x8]] w R :=
  calls_of_vc (fn := Try.f6) (ac := ac_law09_RasterParts) (args := [.agg #[.int .i64 x1, .int .i64 x2, .slice sa1 sl1 sc1], .agg #[.int .i64 x3, .int .i64 x4, .slice sa2 sl2 sc2], .agg #[.int .i64 x5, .int .i64 x6, .int .i64 x7, .int .i64 x8]]) mixed Try.func6 (by kernel_rfl) (cast (by unfold vc_law09_RasterParts FnVc; kernel_rfl) h)
/-- darkroom/darkroomlaw09.RasterBack -/
def vc_law09_RasterBack (x1 : Int) (x2 : Int) (sa1 : Option Addr) (sl1 sc1 : Nat) (x3 : Int) (x4 : Int) (x5 : Int) (x6 : Int) (w : World) (R : Ending → World → Prop) : Prop :=
  ∀ k1 : Nat,
  (w.heap.size ≤ k1) →
  ∀ k2 : Nat,
  (w.heap.size ≤ k2) →
  ∀ w1 : World,
  (Locl ([k2, k1]) w w1) →
  Calls P F.law09_wakes #[] w1 fun e1 w2 =>
  ∃ c1 : Bool,
  (e1 = Ending.returned (Value.bool c1)) ∧
  (Keep ([k2, k1]) w1 w2) ∧
  brB (!c1)
    (R (Ending.returned (Value.bool false)) w2)
    (∃ I1 : List Value → World → Prop,
    ((Calls P F.law09_own #[Value.agg #[Value.int IntKind.i64 x1, Value.int IntKind.i64 x2, Value.slice sa1 sl1 sc1]] (w2.drew) fun e2 w3 =>
        ∃ n1 : Int,
        ∃ n2 : Int,
        ∃ p1 : Option Addr,
        ∃ k3 : Nat,
        ∃ k4 : Nat,
        (e2 = Ending.returned (Value.agg #[Value.int IntKind.i64 n1, Value.int IntKind.i64 n2, Value.slice p1 k3 k4])) ∧
        (Keep ([k2, k1]) (w2.drew) w3) ∧
        (Keeps (w2.drew) w3) ∧
        (Calls P F.raster_Crop #[Value.agg #[Value.int IntKind.i64 n1, Value.int IntKind.i64 n2, Value.slice p1 k3 k4], Value.agg #[Value.int IntKind.i64 x3, Value.int IntKind.i64 x4, Value.int IntKind.i64 x5, Value.int IntKind.i64 x6]] w3 fun e3 w4 =>
          ∃ n3 : Int,
          ∃ n4 : Int,
          ∃ p2 : Option Addr,
          ∃ k5 : Nat,
          ∃ k6 : Nat,
          ∃ n5 : Int,
          (e3 = Ending.returned (Value.tuple #[Value.agg #[Value.int IntKind.i64 n3, Value.int IntKind.i64 n4, Value.slice p2 k5 k6], Value.int IntKind.i64 n5])) ∧
          (Keep ([k2, k1]) w3 w4) ∧
          ∀ k7 : Nat,
          (w4.heap.size ≤ k7) →
          ∀ w5 : World,
          (Locl ([k7, k2, k1]) w4 w5) →
          I1 [Value.int IntKind.i64 n5, Value.pointer (some { block := k7, off := 0 }), Value.int IntKind.i64 n3, Value.int IntKind.i64 n4, Value.slice p2 k5 k6] w5) ∧
        ∀ k8 : Nat,
        (w3.heap.size ≤ k8) →
        ∀ w6 : World,
        (Locl ([k8, k2, k1]) w3 w6) →
        Calls P F.raster_Crop #[Value.agg #[Value.int IntKind.i64 n1, Value.int IntKind.i64 n2, Value.slice p1 k3 k4], Value.agg #[Value.int IntKind.i64 x3, Value.int IntKind.i64 x4, Value.int IntKind.i64 x5, Value.int IntKind.i64 x6]] w6 fun e4 w7 =>
        ∃ n6 : Int,
        ∃ n7 : Int,
        ∃ p3 : Option Addr,
        ∃ k9 : Nat,
        ∃ k10 : Nat,
        ∃ n8 : Int,
        (e4 = Ending.returned (Value.tuple #[Value.agg #[Value.int IntKind.i64 n6, Value.int IntKind.i64 n7, Value.slice p3 k9 k10], Value.int IntKind.i64 n8])) ∧
        (Keep ([k8, k2, k1]) w6 w7) ∧
        ∀ w8 : World,
        (Locl ([k8, k2, k1]) w7 w8) →
        I1 [Value.int IntKind.i64 n8, Value.pointer (some { block := k8, off := 0 }), Value.int IntKind.i64 n6, Value.int IntKind.i64 n7, Value.slice p3 k9 k10] w8) ∧
      ∀ k11 : Nat,
      (w2.drew.heap.size ≤ k11) →
      ∀ w9 : World,
      (Locl ([k11, k2, k1]) (w2.drew) w9) →
      Calls P F.law09_own #[Value.agg #[Value.int IntKind.i64 x1, Value.int IntKind.i64 x2, Value.slice sa1 sl1 sc1]] w9 fun e5 w10 =>
      ∃ n9 : Int,
      ∃ n10 : Int,
      ∃ p4 : Option Addr,
      ∃ k12 : Nat,
      ∃ k13 : Nat,
      (e5 = Ending.returned (Value.agg #[Value.int IntKind.i64 n9, Value.int IntKind.i64 n10, Value.slice p4 k12 k13])) ∧
      (Keep ([k11, k2, k1]) w9 w10) ∧
      (Keeps w9 w10) ∧
      Calls P F.raster_Crop #[Value.agg #[Value.int IntKind.i64 n9, Value.int IntKind.i64 n10, Value.slice p4 k12 k13], Value.agg #[Value.int IntKind.i64 x3, Value.int IntKind.i64 x4, Value.int IntKind.i64 x5, Value.int IntKind.i64 x6]] w10 fun e6 w11 =>
      ∃ n11 : Int,
      ∃ n12 : Int,
      ∃ p5 : Option Addr,
      ∃ k14 : Nat,
      ∃ k15 : Nat,
      ∃ n13 : Int,
      (e6 = Ending.returned (Value.tuple #[Value.agg #[Value.int IntKind.i64 n11, Value.int IntKind.i64 n12, Value.slice p5 k14 k15], Value.int IntKind.i64 n13])) ∧
      (Keep ([k11, k2, k1]) w10 w11) ∧
      ∀ w12 : World,
      (Locl ([k11, k2, k1]) w11 w12) →
      I1 [Value.int IntKind.i64 n13, Value.pointer (some { block := k11, off := 0 }), Value.int IntKind.i64 n11, Value.int IntKind.i64 n12, Value.slice p5 k14 k15] w12) ∧
    ∀ n14 : Int,
    ∀ k16 : Nat,
    ∀ n15 : Int,
    ∀ n16 : Int,
    ∀ p6 : Option Addr,
    ∀ k17 : Nat,
    ∀ k18 : Nat,
    ∀ w13 : World,
    (I1 [Value.int IntKind.i64 n14, Value.pointer (some { block := k16, off := 0 }), Value.int IntKind.i64 n15, Value.int IntKind.i64 n16, Value.slice p6 k17 k18] w13) →
    brB (n14 != 0)
      (R (Ending.returned (Value.bool ((↑k17 : Int) == 0))) w13)
      (∃ I2 : List Value → World → Prop,
      ((Calls P F.law09_own #[Value.agg #[Value.int IntKind.i64 x1, Value.int IntKind.i64 x2, Value.slice sa1 sl1 sc1]] (w13.drew) fun e7 w14 =>
          ∃ n17 : Int,
          ∃ n18 : Int,
          ∃ p7 : Option Addr,
          ∃ k19 : Nat,
          ∃ k20 : Nat,
          (e7 = Ending.returned (Value.agg #[Value.int IntKind.i64 n17, Value.int IntKind.i64 n18, Value.slice p7 k19 k20])) ∧
          (Keep ([k16, k2, k1]) (w13.drew) w14) ∧
          (Keeps (w13.drew) w14) ∧
          (Calls P F.raster_Paste #[Value.agg #[Value.int IntKind.i64 n17, Value.int IntKind.i64 n18, Value.slice p7 k19 k20], Value.agg #[Value.int IntKind.i64 n15, Value.int IntKind.i64 n16, Value.slice p6 k17 k18], Value.int IntKind.i64 x3, Value.int IntKind.i64 x4] w14 fun e8 w15 =>
            ∃ n19 : Int,
            ∃ n20 : Int,
            ∃ p8 : Option Addr,
            ∃ k21 : Nat,
            ∃ k22 : Nat,
            ∃ n21 : Int,
            (e8 = Ending.returned (Value.tuple #[Value.agg #[Value.int IntKind.i64 n19, Value.int IntKind.i64 n20, Value.slice p8 k21 k22], Value.int IntKind.i64 n21])) ∧
            (Keep ([k16, k2, k1]) w14 w15) ∧
            ∀ k23 : Nat,
            (w15.heap.size ≤ k23) →
            ∀ w16 : World,
            (Locl ([k23, k16, k2, k1]) w15 w16) →
            I2 [Value.int IntKind.i64 n21, Value.pointer (some { block := k23, off := 0 }), Value.int IntKind.i64 n19, Value.int IntKind.i64 n20, Value.slice p8 k21 k22] w16) ∧
          ∀ k24 : Nat,
          (w14.heap.size ≤ k24) →
          ∀ w17 : World,
          (Locl ([k24, k16, k2, k1]) w14 w17) →
          Calls P F.raster_Paste #[Value.agg #[Value.int IntKind.i64 n17, Value.int IntKind.i64 n18, Value.slice p7 k19 k20], Value.agg #[Value.int IntKind.i64 n15, Value.int IntKind.i64 n16, Value.slice p6 k17 k18], Value.int IntKind.i64 x3, Value.int IntKind.i64 x4] w17 fun e9 w18 =>
          ∃ n22 : Int,
          ∃ n23 : Int,
          ∃ p9 : Option Addr,
          ∃ k25 : Nat,
          ∃ k26 : Nat,
          ∃ n24 : Int,
          (e9 = Ending.returned (Value.tuple #[Value.agg #[Value.int IntKind.i64 n22, Value.int IntKind.i64 n23, Value.slice p9 k25 k26], Value.int IntKind.i64 n24])) ∧
          (Keep ([k24, k16, k2, k1]) w17 w18) ∧
          ∀ w19 : World,
          (Locl ([k24, k16, k2, k1]) w18 w19) →
          I2 [Value.int IntKind.i64 n24, Value.pointer (some { block := k24, off := 0 }), Value.int IntKind.i64 n22, Value.int IntKind.i64 n23, Value.slice p9 k25 k26] w19) ∧
        ∀ k27 : Nat,
        (w13.drew.heap.size ≤ k27) →
        ∀ w20 : World,
        (Locl ([k27, k16, k2, k1]) (w13.drew) w20) →
        Calls P F.law09_own #[Value.agg #[Value.int IntKind.i64 x1, Value.int IntKind.i64 x2, Value.slice sa1 sl1 sc1]] w20 fun e10 w21 =>
        ∃ n25 : Int,
        ∃ n26 : Int,
        ∃ p10 : Option Addr,
        ∃ k28 : Nat,
        ∃ k29 : Nat,
        (e10 = Ending.returned (Value.agg #[Value.int IntKind.i64 n25, Value.int IntKind.i64 n26, Value.slice p10 k28 k29])) ∧
        (Keep ([k27, k16, k2, k1]) w20 w21) ∧
        (Keeps w20 w21) ∧
        Calls P F.raster_Paste #[Value.agg #[Value.int IntKind.i64 n25, Value.int IntKind.i64 n26, Value.slice p10 k28 k29], Value.agg #[Value.int IntKind.i64 n15, Value.int IntKind.i64 n16, Value.slice p6 k17 k18], Value.int IntKind.i64 x3, Value.int IntKind.i64 x4] w21 fun e11 w22 =>
        ∃ n27 : Int,
        ∃ n28 : Int,
        ∃ p11 : Option Addr,
        ∃ k30 : Nat,
        ∃ k31 : Nat,
        ∃ n29 : Int,
        (e11 = Ending.returned (Value.tuple #[Value.agg #[Value.int IntKind.i64 n27, Value.int IntKind.i64 n28, Value.slice p11 k30 k31], Value.int IntKind.i64 n29])) ∧
        (Keep ([k27, k16, k2, k1]) w21 w22) ∧
        ∀ w23 : World,
        (Locl ([k27, k16, k2, k1]) w22 w23) →
        I2 [Value.int IntKind.i64 n29, Value.pointer (some { block := k27, off := 0 }), Value.int IntKind.i64 n27, Value.int IntKind.i64 n28, Value.slice p11 k30 k31] w23) ∧
      ∀ n30 : Int,
      ∀ k32 : Nat,
      ∀ n31 : Int,
      ∀ n32 : Int,
      ∀ p12 : Option Addr,
      ∀ k33 : Nat,
      ∀ k34 : Nat,
      ∀ w24 : World,
      (I2 [Value.int IntKind.i64 n30, Value.pointer (some { block := k32, off := 0 }), Value.int IntKind.i64 n31, Value.int IntKind.i64 n32, Value.slice p12 k33 k34] w24) →
      Calls P F.raster_Crop #[Value.agg #[Value.int IntKind.i64 n31, Value.int IntKind.i64 n32, Value.slice p12 k33 k34], Value.agg #[Value.int IntKind.i64 x3, Value.int IntKind.i64 x4, Value.int IntKind.i64 x5, Value.int IntKind.i64 x6]] w24 fun e12 w25 =>
      ∃ n33 : Int,
      ∃ n34 : Int,
      ∃ p13 : Option Addr,
      ∃ k35 : Nat,
      ∃ k36 : Nat,
      ∃ n35 : Int,
      (e12 = Ending.returned (Value.tuple #[Value.agg #[Value.int IntKind.i64 n33, Value.int IntKind.i64 n34, Value.slice p13 k35 k36], Value.int IntKind.i64 n35])) ∧
      (Keep ([k32, k16, k2, k1]) w24 w25) ∧
      ∀ k37 : Nat,
      (w25.heap.size ≤ k37) →
      brB (n30 == 0 && n35 == 0)
        (∀ w26 : World,
        (Locl ([k37, k32, k16, k2, k1]) w25 w26) →
        Calls P F.ref09_Same #[Value.agg #[Value.int IntKind.i64 n31, Value.int IntKind.i64 n32, Value.slice p12 k33 k34], Value.agg #[Value.int IntKind.i64 x1, Value.int IntKind.i64 x2, Value.slice sa1 sl1 sc1]] w26 fun e13 w27 =>
        ∃ c2 : Bool,
        (e13 = Ending.returned (Value.bool c2)) ∧
        (Keep ([k37, k32, k16, k2, k1]) w26 w27) ∧
        brB (c2)
          (Calls P F.ref09_Same #[Value.agg #[Value.int IntKind.i64 n33, Value.int IntKind.i64 n34, Value.slice p13 k35 k36], Value.agg #[Value.int IntKind.i64 n15, Value.int IntKind.i64 n16, Value.slice p6 k17 k18]] w27 fun e14 w28 =>
          ∃ c3 : Bool,
          (e14 = Ending.returned (Value.bool c3)) ∧
          (Keep ([k37, k32, k16, k2, k1]) w27 w28) ∧
          R (Ending.returned (Value.bool c3)) w28)
          (R (Ending.returned (Value.bool false)) w27))
        (∀ w29 : World,
        (Locl ([k37, k32, k16, k2, k1]) w25 w29) →
        R (Ending.returned (Value.bool false)) w29)))
theorem calls_law09_RasterBack (x1 : Int) (x2 : Int) (sa1 : Option Addr) (sl1 sc1 : Nat) (x3 : Int) (x4 : Int) (x5 : Int) (x6 : Int) (w : World) (R : Ending → World → Prop) (h : vc_law09_RasterBack x1 x2 sa1 sl1 sc1 x3 x4 x5 x6 w R) : Calls P F.law09_RasterBack #[.agg #[.int .i64 x1, .int .i64 x2, .slice sa1 sl1 sc1], .agg #[.int .i64 x3, .int .i64 x4, .int .i64 x5, .int .i64 x6]] w R :=
  calls_of_vc (fn := Try.f7) (ac := ac_law09_RasterBack) (args := [.agg #[.int .i64 x1, .int .i64 x2, .slice sa1 sl1 sc1], .agg #[.int .i64 x3, .int .i64 x4, .int .i64 x5, .int .i64 x6]]) mixed Try.func7 (by kernel_rfl) (cast (by unfold vc_law09_RasterBack FnVc; kernel_rfl) h)
/-- darkroom/darkroomlaw09.RasterGrids -/
def vc_law09_RasterGrids (x1 : Int) (x2 : Int) (sa1 : Option Addr) (sl1 sc1 : Nat) (w : World) (R : Ending → World → Prop) : Prop :=
  ∀ k1 : Nat,
  (w.heap.size ≤ k1) →
  ∀ w1 : World,
  (Locl ([k1]) w w1) →
  Calls P F.law09_wakes #[] w1 fun e1 w2 =>
  ∃ c1 : Bool,
  (e1 = Ending.returned (Value.bool c1)) ∧
  (Keep ([k1]) w1 w2) ∧
  brB (!c1)
    (R (Ending.returned (Value.bool false)) w2)
    (Calls P F.law09_own #[Value.agg #[Value.int IntKind.i64 x1, Value.int IntKind.i64 x2, Value.slice sa1 sl1 sc1]] w2 fun e2 w3 =>
    ∃ n1 : Int,
    ∃ n2 : Int,
    ∃ p1 : Option Addr,
    ∃ k2 : Nat,
    ∃ k3 : Nat,
    (e2 = Ending.returned (Value.agg #[Value.int IntKind.i64 n1, Value.int IntKind.i64 n2, Value.slice p1 k2 k3])) ∧
    (Keep ([k1]) w2 w3) ∧
    Calls P F.raster_Grid #[Value.agg #[Value.int IntKind.i64 n1, Value.int IntKind.i64 n2, Value.slice p1 k2 k3]] w3 fun e3 w4 =>
    ∃ p2 : Option Addr,
    ∃ n3 : Int,
    (e3 = Ending.returned (Value.tuple #[Value.pointer p2, Value.int IntKind.i64 n3])) ∧
    (Keep ([k1]) w3 w4) ∧
    Calls P F.ref09_Good #[Value.agg #[Value.int IntKind.i64 x1, Value.int IntKind.i64 x2, Value.slice sa1 sl1 sc1]] w4 fun e4 w5 =>
    ∃ c2 : Bool,
    (e4 = Ending.returned (Value.bool c2)) ∧
    (Keep ([k1]) w4 w5) ∧
    brB (!c2)
      (R (Ending.returned (Value.bool (p2.isNone && n3 == 6))) w5)
      (brB (n3 != 0 || p2.isNone)
        (R (Ending.returned (Value.bool false)) w5.drew)
        (Calls P F.grid_Grid_api_Color_W #[Value.pointer p2] (w5.drew) fun e5 w6 =>
        ∃ n4 : Int,
        (e5 = Ending.returned (Value.int IntKind.i64 n4)) ∧
        (Keep ([k1]) (w5.drew) w6) ∧
        (Keeps (w5.drew) w6) ∧
        brB (n4 != x1)
          (R (Ending.returned (Value.bool false)) w6)
          (Calls P F.grid_Grid_api_Color_H #[Value.pointer p2] w6 fun e6 w7 =>
          ∃ n5 : Int,
          (e6 = Ending.returned (Value.int IntKind.i64 n5)) ∧
          (Keep ([k1]) w6 w7) ∧
          (Keeps w6 w7) ∧
          brB (n5 != x2)
            (R (Ending.returned (Value.bool false)) w7)
            (Calls P F.grid_Grid_api_Color_Cells #[Value.pointer p2] w7 fun e7 w8 =>
            ∃ p3 : Option Addr,
            ∃ k4 : Nat,
            ∃ k5 : Nat,
            (e7 = Ending.returned (Value.slice p3 k4 k5)) ∧
            (Keep ([k1]) w7 w8) ∧
            brB ((↑k4 : Int) != IntKind.i64.wrap (x1 * x2))
              (R (Ending.returned (Value.bool false)) w8)
              (∃ I1 : List Value → World → Prop,
              ∃ m1 : List Value → World → Nat,
              (I1 [Value.int IntKind.i64 0] w8) ∧
              ∀ n6 : Int,
              ∀ w9 : World,
              (I1 [Value.int IntKind.i64 n6] w9) →
              brB (decide (n6 < (↑k4 : Int)))
                (idx (p3) (k4) (n6) (4) fun a1 =>
                ∃ n7 : Int,
                ∃ n8 : Int,
                ∃ n9 : Int,
                ∃ n10 : Int,
                (w9.drew.cell? a1 = some (Value.int IntKind.u16 n7)) ∧
                (w9.drew.cell? (a1.add 1) = some (Value.int IntKind.u16 n8)) ∧
                (w9.drew.cell? (a1.add 2) = some (Value.int IntKind.u16 n9)) ∧
                (w9.drew.cell? (a1.add 3) = some (Value.int IntKind.u16 n10)) ∧
                (x1 ≠ 0) ∧
                (x1 ≠ 0) ∧
                Calls P F.ref09_Pixel #[Value.agg #[Value.int IntKind.i64 x1, Value.int IntKind.i64 x2, Value.slice sa1 sl1 sc1], Value.int IntKind.i64 (divZ BinOp.rem IntKind.i64 n6 x1), Value.int IntKind.i64 (divZ BinOp.quo IntKind.i64 n6 x1)] (w9.drew) fun e8 w10 =>
                ∃ n11 : Int,
                ∃ n12 : Int,
                ∃ n13 : Int,
                ∃ n14 : Int,
                (e8 = Ending.returned (Value.agg #[Value.int IntKind.u16 n11, Value.int IntKind.u16 n12, Value.int IntKind.u16 n13, Value.int IntKind.u16 n14])) ∧
                (Keep ([k1]) (w9.drew) w10) ∧
                (Keeps (w9.drew) w10) ∧
                brB (!(decide (n7 = n11) && (decide (n8 = n12) && (decide (n9 = n13) && (decide (n10 = n14) && true)))))
                  (R (Ending.returned (Value.bool false)) w10)
                  ((I1 [Value.int IntKind.i64 (IntKind.i64.wrap (n6 + 1))] w10) ∧
                  m1 [Value.int IntKind.i64 (IntKind.i64.wrap (n6 + 1))] w10 < m1 [Value.int IntKind.i64 n6] w9))
                (Calls P F.raster_Of #[Value.pointer p2] w9 fun e9 w11 =>
                ∃ n15 : Int,
                ∃ n16 : Int,
                ∃ p4 : Option Addr,
                ∃ k6 : Nat,
                ∃ k7 : Nat,
                ∃ n17 : Int,
                (e9 = Ending.returned (Value.tuple #[Value.agg #[Value.int IntKind.i64 n15, Value.int IntKind.i64 n16, Value.slice p4 k6 k7], Value.int IntKind.i64 n17])) ∧
                (Keep ([k1]) w9 w11) ∧
                ∀ k8 : Nat,
                (w11.heap.size ≤ k8) →
                ∀ w12 : World,
                (Locl ([k8, k1]) w11 w12) →
                Calls P F.raster_Of #[Value.pointer none] w12 fun e10 w13 =>
                ∃ n18 : Int,
                ∃ n19 : Int,
                ∃ p5 : Option Addr,
                ∃ k9 : Nat,
                ∃ k10 : Nat,
                ∃ n20 : Int,
                (e10 = Ending.returned (Value.tuple #[Value.agg #[Value.int IntKind.i64 n18, Value.int IntKind.i64 n19, Value.slice p5 k9 k10], Value.int IntKind.i64 n20])) ∧
                (Keep ([k8, k1]) w12 w13) ∧
                ∀ k11 : Nat,
                (w13.heap.size ≤ k11) →
                brB (n17 == 0)
                  (∀ w14 : World,
                  (Locl ([k11, k8, k1]) w13 w14) →
                  Calls P F.ref09_Same #[Value.agg #[Value.int IntKind.i64 n15, Value.int IntKind.i64 n16, Value.slice p4 k6 k7], Value.agg #[Value.int IntKind.i64 x1, Value.int IntKind.i64 x2, Value.slice sa1 sl1 sc1]] w14 fun e11 w15 =>
                  ∃ c3 : Bool,
                  (e11 = Ending.returned (Value.bool c3)) ∧
                  (Keep ([k11, k8, k1]) w14 w15) ∧
                  R (Ending.returned (Value.bool (c3 && n20 == 1 && (↑k9 : Int) == 0))) w15)
                  (∀ w16 : World,
                  (Locl ([k11, k8, k1]) w13 w16) →
                  R (Ending.returned (Value.bool false)) w16))))))))
theorem calls_law09_RasterGrids (x1 : Int) (x2 : Int) (sa1 : Option Addr) (sl1 sc1 : Nat) (w : World) (R : Ending → World → Prop) (h : vc_law09_RasterGrids x1 x2 sa1 sl1 sc1 w R) : Calls P F.law09_RasterGrids #[.agg #[.int .i64 x1, .int .i64 x2, .slice sa1 sl1 sc1]] w R :=
  calls_of_vc (fn := Try.f8) (ac := ac_law09_RasterGrids) (args := [.agg #[.int .i64 x1, .int .i64 x2, .slice sa1 sl1 sc1]]) mixed Try.func8 (by kernel_rfl) (cast (by unfold vc_law09_RasterGrids FnVc; kernel_rfl) h)
/-- darkroom/darkroomlaw09.RasterOwn -/
def vc_law09_RasterOwn (x1 : Int) (x2 : Int) (sa1 : Option Addr) (sl1 sc1 : Nat) (x3 : Int) (x4 : Int) (sa2 : Option Addr) (sl2 sc2 : Nat) (x5 : Int) (x6 : Int) (x7 : Int) (x8 : Int) (w : World) (R : Ending → World → Prop) : Prop :=
  ∀ k1 : Nat,
  (w.heap.size ≤ k1) →
  ∀ k2 : Nat,
  (w.heap.size ≤ k2) →
  ∀ k3 : Nat,
  (w.heap.size ≤ k3) →
  ∀ w1 : World,
  (Locl ([k3, k2, k1]) w w1) →
  Calls P F.law09_wakes #[] w1 fun e1 w2 =>
  ∃ c1 : Bool,
  (e1 = Ending.returned (Value.bool c1)) ∧
  (Keep ([k3, k2, k1]) w1 w2) ∧
  brB (!c1)
    (R (Ending.returned (Value.bool false)) w2)
    (∃ I1 : List Value → World → Prop,
    ((Calls P F.law09_own #[Value.agg #[Value.int IntKind.i64 x1, Value.int IntKind.i64 x2, Value.slice sa1 sl1 sc1]] (w2.drew) fun e2 w3 =>
        ∃ n1 : Int,
        ∃ n2 : Int,
        ∃ p1 : Option Addr,
        ∃ k4 : Nat,
        ∃ k5 : Nat,
        (e2 = Ending.returned (Value.agg #[Value.int IntKind.i64 n1, Value.int IntKind.i64 n2, Value.slice p1 k4 k5])) ∧
        (Keep ([k3, k2, k1]) (w2.drew) w3) ∧
        (Keeps (w2.drew) w3) ∧
        (Calls P F.law09_own #[Value.agg #[Value.int IntKind.i64 x3, Value.int IntKind.i64 x4, Value.slice sa2 sl2 sc2]] w3 fun e3 w4 =>
          ∃ n3 : Int,
          ∃ n4 : Int,
          ∃ p2 : Option Addr,
          ∃ k6 : Nat,
          ∃ k7 : Nat,
          (e3 = Ending.returned (Value.agg #[Value.int IntKind.i64 n3, Value.int IntKind.i64 n4, Value.slice p2 k6 k7])) ∧
          (Keep ([k3, k2, k1]) w3 w4) ∧
          (∀ k8 : Nat,
            (w4.heap.size ≤ k8) →
            ∀ k9 : Nat,
            (w4.heap.size ≤ k9) →
            ∀ w5 : World,
            (Locl ([k9, k8, k3, k2, k1]) w4 w5) →
            I1 [Value.pointer (some { block := k8, off := 0 }), Value.int IntKind.i64 n1, Value.int IntKind.i64 n2, Value.slice p1 k4 k5, Value.pointer (some { block := k9, off := 0 }), Value.int IntKind.i64 n3, Value.int IntKind.i64 n4, Value.slice p2 k6 k7] w5) ∧
          ∀ k10 : Nat,
          (w4.heap.size ≤ k10) →
          ∀ k11 : Nat,
          (w4.heap.size ≤ k11) →
          ∀ w6 : World,
          (Locl ([k11, k10, k3, k2, k1]) w4 w6) →
          I1 [Value.pointer (some { block := k11, off := 0 }), Value.int IntKind.i64 n1, Value.int IntKind.i64 n2, Value.slice p1 k4 k5, Value.pointer (some { block := k10, off := 0 }), Value.int IntKind.i64 n3, Value.int IntKind.i64 n4, Value.slice p2 k6 k7] w6) ∧
        (∀ k12 : Nat,
          (w3.heap.size ≤ k12) →
          (∀ w7 : World,
            (Locl ([k12, k3, k2, k1]) w3 w7) →
            Calls P F.law09_own #[Value.agg #[Value.int IntKind.i64 x3, Value.int IntKind.i64 x4, Value.slice sa2 sl2 sc2]] w7 fun e4 w8 =>
            ∃ n5 : Int,
            ∃ n6 : Int,
            ∃ p3 : Option Addr,
            ∃ k13 : Nat,
            ∃ k14 : Nat,
            (e4 = Ending.returned (Value.agg #[Value.int IntKind.i64 n5, Value.int IntKind.i64 n6, Value.slice p3 k13 k14])) ∧
            (Keep ([k12, k3, k2, k1]) w7 w8) ∧
            ∀ k15 : Nat,
            (w8.heap.size ≤ k15) →
            ∀ w9 : World,
            (Locl ([k15, k12, k3, k2, k1]) w8 w9) →
            I1 [Value.pointer (some { block := k12, off := 0 }), Value.int IntKind.i64 n1, Value.int IntKind.i64 n2, Value.slice p1 k4 k5, Value.pointer (some { block := k15, off := 0 }), Value.int IntKind.i64 n5, Value.int IntKind.i64 n6, Value.slice p3 k13 k14] w9) ∧
          ∀ k16 : Nat,
          (w3.heap.size ≤ k16) →
          ∀ w10 : World,
          (Locl ([k16, k12, k3, k2, k1]) w3 w10) →
          Calls P F.law09_own #[Value.agg #[Value.int IntKind.i64 x3, Value.int IntKind.i64 x4, Value.slice sa2 sl2 sc2]] w10 fun e5 w11 =>
          ∃ n7 : Int,
          ∃ n8 : Int,
          ∃ p4 : Option Addr,
          ∃ k17 : Nat,
          ∃ k18 : Nat,
          (e5 = Ending.returned (Value.agg #[Value.int IntKind.i64 n7, Value.int IntKind.i64 n8, Value.slice p4 k17 k18])) ∧
          (Keep ([k16, k12, k3, k2, k1]) w10 w11) ∧
          ∀ w12 : World,
          (Locl ([k16, k12, k3, k2, k1]) w11 w12) →
          I1 [Value.pointer (some { block := k12, off := 0 }), Value.int IntKind.i64 n1, Value.int IntKind.i64 n2, Value.slice p1 k4 k5, Value.pointer (some { block := k16, off := 0 }), Value.int IntKind.i64 n7, Value.int IntKind.i64 n8, Value.slice p4 k17 k18] w12) ∧
        ∀ k19 : Nat,
        (w3.heap.size ≤ k19) →
        (∀ w13 : World,
          (Locl ([k19, k3, k2, k1]) w3 w13) →
          Calls P F.law09_own #[Value.agg #[Value.int IntKind.i64 x3, Value.int IntKind.i64 x4, Value.slice sa2 sl2 sc2]] w13 fun e6 w14 =>
          ∃ n9 : Int,
          ∃ n10 : Int,
          ∃ p5 : Option Addr,
          ∃ k20 : Nat,
          ∃ k21 : Nat,
          (e6 = Ending.returned (Value.agg #[Value.int IntKind.i64 n9, Value.int IntKind.i64 n10, Value.slice p5 k20 k21])) ∧
          (Keep ([k19, k3, k2, k1]) w13 w14) ∧
          ∀ k22 : Nat,
          (w14.heap.size ≤ k22) →
          ∀ w15 : World,
          (Locl ([k22, k19, k3, k2, k1]) w14 w15) →
          I1 [Value.pointer (some { block := k22, off := 0 }), Value.int IntKind.i64 n1, Value.int IntKind.i64 n2, Value.slice p1 k4 k5, Value.pointer (some { block := k19, off := 0 }), Value.int IntKind.i64 n9, Value.int IntKind.i64 n10, Value.slice p5 k20 k21] w15) ∧
        ∀ k23 : Nat,
        (w3.heap.size ≤ k23) →
        ∀ w16 : World,
        (Locl ([k23, k19, k3, k2, k1]) w3 w16) →
        Calls P F.law09_own #[Value.agg #[Value.int IntKind.i64 x3, Value.int IntKind.i64 x4, Value.slice sa2 sl2 sc2]] w16 fun e7 w17 =>
        ∃ n11 : Int,
        ∃ n12 : Int,
        ∃ p6 : Option Addr,
        ∃ k24 : Nat,
        ∃ k25 : Nat,
        (e7 = Ending.returned (Value.agg #[Value.int IntKind.i64 n11, Value.int IntKind.i64 n12, Value.slice p6 k24 k25])) ∧
        (Keep ([k23, k19, k3, k2, k1]) w16 w17) ∧
        ∀ w18 : World,
        (Locl ([k23, k19, k3, k2, k1]) w17 w18) →
        I1 [Value.pointer (some { block := k23, off := 0 }), Value.int IntKind.i64 n1, Value.int IntKind.i64 n2, Value.slice p1 k4 k5, Value.pointer (some { block := k19, off := 0 }), Value.int IntKind.i64 n11, Value.int IntKind.i64 n12, Value.slice p6 k24 k25] w18) ∧
      (∀ k26 : Nat,
        (w2.drew.heap.size ≤ k26) →
        (∀ w19 : World,
          (Locl ([k26, k3, k2, k1]) (w2.drew) w19) →
          Calls P F.law09_own #[Value.agg #[Value.int IntKind.i64 x1, Value.int IntKind.i64 x2, Value.slice sa1 sl1 sc1]] w19 fun e8 w20 =>
          ∃ n13 : Int,
          ∃ n14 : Int,
          ∃ p7 : Option Addr,
          ∃ k27 : Nat,
          ∃ k28 : Nat,
          (e8 = Ending.returned (Value.agg #[Value.int IntKind.i64 n13, Value.int IntKind.i64 n14, Value.slice p7 k27 k28])) ∧
          (Keep ([k26, k3, k2, k1]) w19 w20) ∧
          (Keeps w19 w20) ∧
          (Calls P F.law09_own #[Value.agg #[Value.int IntKind.i64 x3, Value.int IntKind.i64 x4, Value.slice sa2 sl2 sc2]] w20 fun e9 w21 =>
            ∃ n15 : Int,
            ∃ n16 : Int,
            ∃ p8 : Option Addr,
            ∃ k29 : Nat,
            ∃ k30 : Nat,
            (e9 = Ending.returned (Value.agg #[Value.int IntKind.i64 n15, Value.int IntKind.i64 n16, Value.slice p8 k29 k30])) ∧
            (Keep ([k26, k3, k2, k1]) w20 w21) ∧
            ∀ k31 : Nat,
            (w21.heap.size ≤ k31) →
            ∀ w22 : World,
            (Locl ([k31, k26, k3, k2, k1]) w21 w22) →
            I1 [Value.pointer (some { block := k26, off := 0 }), Value.int IntKind.i64 n13, Value.int IntKind.i64 n14, Value.slice p7 k27 k28, Value.pointer (some { block := k31, off := 0 }), Value.int IntKind.i64 n15, Value.int IntKind.i64 n16, Value.slice p8 k29 k30] w22) ∧
          ∀ k32 : Nat,
          (w20.heap.size ≤ k32) →
          ∀ w23 : World,
          (Locl ([k32, k26, k3, k2, k1]) w20 w23) →
          Calls P F.law09_own #[Value.agg #[Value.int IntKind.i64 x3, Value.int IntKind.i64 x4, Value.slice sa2 sl2 sc2]] w23 fun e10 w24 =>
          ∃ n17 : Int,
          ∃ n18 : Int,
          ∃ p9 : Option Addr,
          ∃ k33 : Nat,
          ∃ k34 : Nat,
          (e10 = Ending.returned (Value.agg #[Value.int IntKind.i64 n17, Value.int IntKind.i64 n18, Value.slice p9 k33 k34])) ∧
          (Keep ([k32, k26, k3, k2, k1]) w23 w24) ∧
          ∀ w25 : World,
          (Locl ([k32, k26, k3, k2, k1]) w24 w25) →
          I1 [Value.pointer (some { block := k26, off := 0 }), Value.int IntKind.i64 n13, Value.int IntKind.i64 n14, Value.slice p7 k27 k28, Value.pointer (some { block := k32, off := 0 }), Value.int IntKind.i64 n17, Value.int IntKind.i64 n18, Value.slice p9 k33 k34] w25) ∧
        ∀ k35 : Nat,
        (w2.drew.heap.size ≤ k35) →
        ∀ w26 : World,
        (Locl ([k35, k26, k3, k2, k1]) (w2.drew) w26) →
        Calls P F.law09_own #[Value.agg #[Value.int IntKind.i64 x1, Value.int IntKind.i64 x2, Value.slice sa1 sl1 sc1]] w26 fun e11 w27 =>
        ∃ n19 : Int,
        ∃ n20 : Int,
        ∃ p10 : Option Addr,
        ∃ k36 : Nat,
        ∃ k37 : Nat,
        (e11 = Ending.returned (Value.agg #[Value.int IntKind.i64 n19, Value.int IntKind.i64 n20, Value.slice p10 k36 k37])) ∧
        (Keep ([k35, k26, k3, k2, k1]) w26 w27) ∧
        (Keeps w26 w27) ∧
        Calls P F.law09_own #[Value.agg #[Value.int IntKind.i64 x3, Value.int IntKind.i64 x4, Value.slice sa2 sl2 sc2]] w27 fun e12 w28 =>
        ∃ n21 : Int,
        ∃ n22 : Int,
        ∃ p11 : Option Addr,
        ∃ k38 : Nat,
        ∃ k39 : Nat,
        (e12 = Ending.returned (Value.agg #[Value.int IntKind.i64 n21, Value.int IntKind.i64 n22, Value.slice p11 k38 k39])) ∧
        (Keep ([k35, k26, k3, k2, k1]) w27 w28) ∧
        ∀ w29 : World,
        (Locl ([k35, k26, k3, k2, k1]) w28 w29) →
        I1 [Value.pointer (some { block := k26, off := 0 }), Value.int IntKind.i64 n19, Value.int IntKind.i64 n20, Value.slice p10 k36 k37, Value.pointer (some { block := k35, off := 0 }), Value.int IntKind.i64 n21, Value.int IntKind.i64 n22, Value.slice p11 k38 k39] w29) ∧
      ∀ k40 : Nat,
      (w2.drew.heap.size ≤ k40) →
      (∀ w30 : World,
        (Locl ([k40, k3, k2, k1]) (w2.drew) w30) →
        Calls P F.law09_own #[Value.agg #[Value.int IntKind.i64 x1, Value.int IntKind.i64 x2, Value.slice sa1 sl1 sc1]] w30 fun e13 w31 =>
        ∃ n23 : Int,
        ∃ n24 : Int,
        ∃ p12 : Option Addr,
        ∃ k41 : Nat,
        ∃ k42 : Nat,
        (e13 = Ending.returned (Value.agg #[Value.int IntKind.i64 n23, Value.int IntKind.i64 n24, Value.slice p12 k41 k42])) ∧
        (Keep ([k40, k3, k2, k1]) w30 w31) ∧
        (Keeps w30 w31) ∧
        (Calls P F.law09_own #[Value.agg #[Value.int IntKind.i64 x3, Value.int IntKind.i64 x4, Value.slice sa2 sl2 sc2]] w31 fun e14 w32 =>
          ∃ n25 : Int,
          ∃ n26 : Int,
          ∃ p13 : Option Addr,
          ∃ k43 : Nat,
          ∃ k44 : Nat,
          (e14 = Ending.returned (Value.agg #[Value.int IntKind.i64 n25, Value.int IntKind.i64 n26, Value.slice p13 k43 k44])) ∧
          (Keep ([k40, k3, k2, k1]) w31 w32) ∧
          ∀ k45 : Nat,
          (w32.heap.size ≤ k45) →
          ∀ w33 : World,
          (Locl ([k45, k40, k3, k2, k1]) w32 w33) →
          I1 [Value.pointer (some { block := k45, off := 0 }), Value.int IntKind.i64 n23, Value.int IntKind.i64 n24, Value.slice p12 k41 k42, Value.pointer (some { block := k40, off := 0 }), Value.int IntKind.i64 n25, Value.int IntKind.i64 n26, Value.slice p13 k43 k44] w33) ∧
        ∀ k46 : Nat,
        (w31.heap.size ≤ k46) →
        ∀ w34 : World,
        (Locl ([k46, k40, k3, k2, k1]) w31 w34) →
        Calls P F.law09_own #[Value.agg #[Value.int IntKind.i64 x3, Value.int IntKind.i64 x4, Value.slice sa2 sl2 sc2]] w34 fun e15 w35 =>
        ∃ n27 : Int,
        ∃ n28 : Int,
        ∃ p14 : Option Addr,
        ∃ k47 : Nat,
        ∃ k48 : Nat,
        (e15 = Ending.returned (Value.agg #[Value.int IntKind.i64 n27, Value.int IntKind.i64 n28, Value.slice p14 k47 k48])) ∧
        (Keep ([k46, k40, k3, k2, k1]) w34 w35) ∧
        ∀ w36 : World,
        (Locl ([k46, k40, k3, k2, k1]) w35 w36) →
        I1 [Value.pointer (some { block := k46, off := 0 }), Value.int IntKind.i64 n23, Value.int IntKind.i64 n24, Value.slice p12 k41 k42, Value.pointer (some { block := k40, off := 0 }), Value.int IntKind.i64 n27, Value.int IntKind.i64 n28, Value.slice p14 k47 k48] w36) ∧
      ∀ k49 : Nat,
      (w2.drew.heap.size ≤ k49) →
      ∀ w37 : World,
      (Locl ([k49, k40, k3, k2, k1]) (w2.drew) w37) →
      Calls P F.law09_own #[Value.agg #[Value.int IntKind.i64 x1, Value.int IntKind.i64 x2, Value.slice sa1 sl1 sc1]] w37 fun e16 w38 =>
      ∃ n29 : Int,
      ∃ n30 : Int,
      ∃ p15 : Option Addr,
      ∃ k50 : Nat,
      ∃ k51 : Nat,
      (e16 = Ending.returned (Value.agg #[Value.int IntKind.i64 n29, Value.int IntKind.i64 n30, Value.slice p15 k50 k51])) ∧
      (Keep ([k49, k40, k3, k2, k1]) w37 w38) ∧
      (Keeps w37 w38) ∧
      Calls P F.law09_own #[Value.agg #[Value.int IntKind.i64 x3, Value.int IntKind.i64 x4, Value.slice sa2 sl2 sc2]] w38 fun e17 w39 =>
      ∃ n31 : Int,
      ∃ n32 : Int,
      ∃ p16 : Option Addr,
      ∃ k52 : Nat,
      ∃ k53 : Nat,
      (e17 = Ending.returned (Value.agg #[Value.int IntKind.i64 n31, Value.int IntKind.i64 n32, Value.slice p16 k52 k53])) ∧
      (Keep ([k49, k40, k3, k2, k1]) w38 w39) ∧
      ∀ w40 : World,
      (Locl ([k49, k40, k3, k2, k1]) w39 w40) →
      I1 [Value.pointer (some { block := k49, off := 0 }), Value.int IntKind.i64 n29, Value.int IntKind.i64 n30, Value.slice p15 k50 k51, Value.pointer (some { block := k40, off := 0 }), Value.int IntKind.i64 n31, Value.int IntKind.i64 n32, Value.slice p16 k52 k53] w40) ∧
    ∀ k54 : Nat,
    ∀ n33 : Int,
    ∀ n34 : Int,
    ∀ p17 : Option Addr,
    ∀ k55 : Nat,
    ∀ k56 : Nat,
    ∀ k57 : Nat,
    ∀ n35 : Int,
    ∀ n36 : Int,
    ∀ p18 : Option Addr,
    ∀ k58 : Nat,
    ∀ k59 : Nat,
    ∀ w41 : World,
    (I1 [Value.pointer (some { block := k54, off := 0 }), Value.int IntKind.i64 n33, Value.int IntKind.i64 n34, Value.slice p17 k55 k56, Value.pointer (some { block := k57, off := 0 }), Value.int IntKind.i64 n35, Value.int IntKind.i64 n36, Value.slice p18 k58 k59] w41) →
    ∀ k60 : Nat,
    (w41.heap.size ≤ k60) →
    ∀ w42 : World,
    (Locl ([k60, k57, k54, k3, k2, k1]) w41 w42) →
    appVC (w42) ([(29, k60, [Value.int IntKind.u16 77]), (8, k57, [Value.int IntKind.i64 n35, Value.int IntKind.i64 n36, Value.slice p18 k58 k59]), (7, k54, [Value.int IntKind.i64 n33, Value.int IntKind.i64 n34, Value.slice p17 k55 k56]), (5, k3, [Value.int IntKind.i64 x5, Value.int IntKind.i64 x6, Value.int IntKind.i64 x7, Value.int IntKind.i64 x8]), (4, k2, [Value.int IntKind.i64 x3, Value.int IntKind.i64 x4, Value.slice sa2 sl2 sc2]), (3, k1, [Value.int IntKind.i64 x1, Value.int IntKind.i64 x2, Value.slice sa1 sl1 sc1])]) (p17) (k55) (k56) (1) (1) (2) (22) ([Value.int IntKind.u16 0]) ([Value.int IntKind.u16 77]) fun p19 k61 k62 w43 =>
    slcc (p19) (k62) (0) ((↑sl1 : Int)) (1) fun p20 k63 k64 =>
    ∀ w44 : World,
    (Locl ([k60, k57, k54, k3, k2, k1]) w43 w44) →
    Calls P F.raster_Crop #[Value.agg #[Value.int IntKind.i64 n33, Value.int IntKind.i64 n34, Value.slice p20 k63 k64], Value.agg #[Value.int IntKind.i64 x5, Value.int IntKind.i64 x6, Value.int IntKind.i64 x7, Value.int IntKind.i64 x8]] w44 fun e18 w45 =>
    ∃ n37 : Int,
    ∃ n38 : Int,
    ∃ p21 : Option Addr,
    ∃ k65 : Nat,
    ∃ k66 : Nat,
    ∃ n39 : Int,
    (e18 = Ending.returned (Value.tuple #[Value.agg #[Value.int IntKind.i64 n37, Value.int IntKind.i64 n38, Value.slice p21 k65 k66], Value.int IntKind.i64 n39])) ∧
    (Keep ([k60, k57, k54, k3, k2, k1]) w44 w45) ∧
    ∀ k67 : Nat,
    (w45.heap.size ≤ k67) →
    ∀ w46 : World,
    (Locl ([k67, k60, k57, k54, k3, k2, k1]) w45 w46) →
    Calls P F.raster_Paste #[Value.agg #[Value.int IntKind.i64 n33, Value.int IntKind.i64 n34, Value.slice p20 k63 k64], Value.agg #[Value.int IntKind.i64 n35, Value.int IntKind.i64 n36, Value.slice p18 k58 k59], Value.int IntKind.i64 x5, Value.int IntKind.i64 x6] w46 fun e19 w47 =>
    ∃ n40 : Int,
    ∃ n41 : Int,
    ∃ p22 : Option Addr,
    ∃ k68 : Nat,
    ∃ k69 : Nat,
    ∃ n42 : Int,
    (e19 = Ending.returned (Value.tuple #[Value.agg #[Value.int IntKind.i64 n40, Value.int IntKind.i64 n41, Value.slice p22 k68 k69], Value.int IntKind.i64 n42])) ∧
    (Keep ([k67, k60, k57, k54, k3, k2, k1]) w46 w47) ∧
    ∀ k70 : Nat,
    (w47.heap.size ≤ k70) →
    ∀ w48 : World,
    (Locl ([k70, k67, k60, k57, k54, k3, k2, k1]) w47 w48) →
    Calls P F.raster_Paste #[Value.agg #[Value.int IntKind.i64 n33, Value.int IntKind.i64 n34, Value.slice p20 k63 k64], Value.agg #[Value.int IntKind.i64 n35, Value.int IntKind.i64 n36, Value.slice p18 k58 k59], Value.int IntKind.i64 x5, Value.int IntKind.i64 x6] w48 fun e20 w49 =>
    ∃ n43 : Int,
    ∃ n44 : Int,
    ∃ p23 : Option Addr,
    ∃ k71 : Nat,
    ∃ k72 : Nat,
    ∃ n45 : Int,
    (e20 = Ending.returned (Value.tuple #[Value.agg #[Value.int IntKind.i64 n43, Value.int IntKind.i64 n44, Value.slice p23 k71 k72], Value.int IntKind.i64 n45])) ∧
    (Keep ([k70, k67, k60, k57, k54, k3, k2, k1]) w48 w49) ∧
    ∀ k73 : Nat,
    (w49.heap.size ≤ k73) →
    ∀ w50 : World,
    (Locl ([k73, k70, k67, k60, k57, k54, k3, k2, k1]) w49 w50) →
    Calls P F.raster_Grid #[Value.agg #[Value.int IntKind.i64 n33, Value.int IntKind.i64 n34, Value.slice p20 k63 k64]] w50 fun e21 w51 =>
    ∃ p24 : Option Addr,
    ∃ n46 : Int,
    (e21 = Ending.returned (Value.tuple #[Value.pointer p24, Value.int IntKind.i64 n46])) ∧
    (Keep ([k73, k70, k67, k60, k57, k54, k3, k2, k1]) w50 w51) ∧
    Calls P F.raster_Distinct #[Value.agg #[Value.int IntKind.i64 n33, Value.int IntKind.i64 n34, Value.slice p20 k63 k64]] w51 fun e22 w52 =>
    ∃ p25 : Option Addr,
    ∃ k74 : Nat,
    ∃ k75 : Nat,
    (e22 = Ending.returned (Value.slice p25 k74 k75)) ∧
    (Keep ([k73, k70, k67, k60, k57, k54, k3, k2, k1]) w51 w52) ∧
    Calls P F.law09_spoil #[Value.agg #[Value.int IntKind.i64 n37, Value.int IntKind.i64 n38, Value.slice p21 k65 k66]] w52 fun e23 w53 =>
    (e23 = Ending.returned (Value.tuple #[])) ∧
    (Keep ([k73, k70, k67, k60, k57, k54, k3, k2, k1]) w52 w53) ∧
    Calls P F.law09_spoil #[Value.agg #[Value.int IntKind.i64 n40, Value.int IntKind.i64 n41, Value.slice p22 k68 k69]] w53 fun e24 w54 =>
    (e24 = Ending.returned (Value.tuple #[])) ∧
    (Keep ([k73, k70, k67, k60, k57, k54, k3, k2, k1]) w53 w54) ∧
    ∃ I2 : List Value → World → Prop,
    ∃ m1 : List Value → World → Nat,
    (I2 [Value.int IntKind.i64 0] w54) ∧
    ∀ n47 : Int,
    ∀ w55 : World,
    (I2 [Value.int IntKind.i64 n47] w55) →
    brB (decide (n47 < (↑k74 : Int)))
      (idx (p25) (k74) (n47) (4) fun a1 =>
      (∃ v1 : Value,
        w55.cell? a1 = some v1) ∧
      (w55.frozen? a1 = false) ∧
      (∃ v2 : Value,
        w55.cell? (a1.add 1) = some v2) ∧
      (w55.frozen? (a1.add 1) = false) ∧
      (∃ v3 : Value,
        w55.cell? (a1.add 2) = some v3) ∧
      (w55.frozen? (a1.add 2) = false) ∧
      (∃ v4 : Value,
        w55.cell? (a1.add 3) = some v4) ∧
      (w55.frozen? (a1.add 3) = false) ∧
      (¬a1.block ∈ [k73, k70, k67, k60, k57, k54, k3, k2, k1]) ∧
      (I2 [Value.int IntKind.i64 (IntKind.i64.wrap (n47 + 1))] (setCells w55 a1 [Value.int IntKind.u16 0, Value.int IntKind.u16 0, Value.int IntKind.u16 0, Value.int IntKind.u16 0] 0)) ∧
      m1 [Value.int IntKind.i64 (IntKind.i64.wrap (n47 + 1))] (setCells w55 a1 [Value.int IntKind.u16 0, Value.int IntKind.u16 0, Value.int IntKind.u16 0, Value.int IntKind.u16 0] 0) < m1 [Value.int IntKind.i64 n47] w55)
      (Calls P F.grid_Grid_api_Color_Set #[Value.pointer p24, Value.int IntKind.i64 0, Value.int IntKind.i64 0, Value.agg #[Value.int IntKind.u16 5, Value.int IntKind.u16 0, Value.int IntKind.u16 0, Value.int IntKind.u16 0]] w55 fun e25 w56 =>
      ∃ c2 : Bool,
      (e25 = Ending.returned (Value.bool c2)) ∧
      (Keep ([k73, k70, k67, k60, k57, k54, k3, k2, k1]) w55 w56) ∧
      Calls P F.ref09_Paste #[Value.agg #[Value.int IntKind.i64 x1, Value.int IntKind.i64 x2, Value.slice sa1 sl1 sc1], Value.agg #[Value.int IntKind.i64 x3, Value.int IntKind.i64 x4, Value.slice sa2 sl2 sc2], Value.int IntKind.i64 x5, Value.int IntKind.i64 x6] w56 fun e26 w57 =>
      ∃ n48 : Int,
      ∃ n49 : Int,
      ∃ p26 : Option Addr,
      ∃ k76 : Nat,
      ∃ k77 : Nat,
      ∃ n50 : Int,
      (e26 = Ending.returned (Value.tuple #[Value.agg #[Value.int IntKind.i64 n48, Value.int IntKind.i64 n49, Value.slice p26 k76 k77], Value.int IntKind.i64 n50])) ∧
      (Keep ([k73, k70, k67, k60, k57, k54, k3, k2, k1]) w56 w57) ∧
      ∀ k78 : Nat,
      (w57.heap.size ≤ k78) →
      ∀ w58 : World,
      (Locl ([k78, k73, k70, k67, k60, k57, k54, k3, k2, k1]) w57 w58) →
      Calls P F.ref09_Same #[Value.agg #[Value.int IntKind.i64 n33, Value.int IntKind.i64 n34, Value.slice p20 k63 k64], Value.agg #[Value.int IntKind.i64 x1, Value.int IntKind.i64 x2, Value.slice sa1 sl1 sc1]] w58 fun e27 w59 =>
      ∃ c3 : Bool,
      (e27 = Ending.returned (Value.bool c3)) ∧
      (Keep ([k78, k73, k70, k67, k60, k57, k54, k3, k2, k1]) w58 w59) ∧
      brB (c3)
        (slcc (p20) (k64) (0) (IntKind.i64.wrap ((↑sl1 : Int) + 1)) (1) fun p27 k79 k80 =>
        idx (p27) (k79) ((↑sl1 : Int)) (1) fun a2 =>
        ∃ n51 : Int,
        (w59.cell? a2 = some (Value.int IntKind.u16 n51)) ∧
        brB (n51 == 77)
          (Calls P F.ref09_Same #[Value.agg #[Value.int IntKind.i64 n35, Value.int IntKind.i64 n36, Value.slice p18 k58 k59], Value.agg #[Value.int IntKind.i64 x3, Value.int IntKind.i64 x4, Value.slice sa2 sl2 sc2]] w59 fun e28 w60 =>
          ∃ c4 : Bool,
          (e28 = Ending.returned (Value.bool c4)) ∧
          (Keep ([k78, k73, k70, k67, k60, k57, k54, k3, k2, k1]) w59 w60) ∧
          brB (c4)
            (Calls P F.ref09_Same #[Value.agg #[Value.int IntKind.i64 n43, Value.int IntKind.i64 n44, Value.slice p23 k71 k72], Value.agg #[Value.int IntKind.i64 n48, Value.int IntKind.i64 n49, Value.slice p26 k76 k77]] w60 fun e29 w61 =>
            ∃ c5 : Bool,
            (e29 = Ending.returned (Value.bool c5)) ∧
            (Keep ([k78, k73, k70, k67, k60, k57, k54, k3, k2, k1]) w60 w61) ∧
            R (Ending.returned (Value.bool c5)) w61)
            (R (Ending.returned (Value.bool false)) w60))
          (R (Ending.returned (Value.bool false)) w59))
        (R (Ending.returned (Value.bool false)) w59)))
theorem calls_law09_RasterOwn (x1 : Int) (x2 : Int) (sa1 : Option Addr) (sl1 sc1 : Nat) (x3 : Int) (x4 : Int) (sa2 : Option Addr) (sl2 sc2 : Nat) (x5 : Int) (x6 : Int) (x7 : Int) (x8 : Int) (w : World) (R : Ending → World → Prop) (h : vc_law09_RasterOwn x1 x2 sa1 sl1 sc1 x3 x4 sa2 sl2 sc2 x5 x6 x7 x8 w R) : Calls P F.law09_RasterOwn #[.agg #[.int .i64 x1, .int .i64 x2, .slice sa1 sl1 sc1], .agg #[.int .i64 x3, .int .i64 x4, .slice sa2 sl2 sc2], .agg #[.int .i64 x5, .int .i64 x6, .int .i64 x7, .int .i64 x8]] w R :=
  calls_of_vc (fn := Try.f9) (ac := ac_law09_RasterOwn) (args := [.agg #[.int .i64 x1, .int .i64 x2, .slice sa1 sl1 sc1], .agg #[.int .i64 x3, .int .i64 x4, .slice sa2 sl2 sc2], .agg #[.int .i64 x5, .int .i64 x6, .int .i64 x7, .int .i64 x8]]) mixed Try.func9 (by kernel_rfl) (cast (by unfold vc_law09_RasterOwn FnVc; kernel_rfl) h)
/-- darkroom/darkroomlaw09.wakes -/
def vc_law09_wakes  (w : World) (R : Ending → World → Prop) : Prop :=
  Calls P F.raster_Fill #[Value.int IntKind.i64 2, Value.int IntKind.i64 1, Value.agg #[Value.int IntKind.u16 1, Value.int IntKind.u16 2, Value.int IntKind.u16 3, Value.int IntKind.u16 4]] w fun e1 w1 =>
  ∃ n1 : Int,
  ∃ n2 : Int,
  ∃ p1 : Option Addr,
  ∃ k1 : Nat,
  ∃ k2 : Nat,
  ∃ n3 : Int,
  (e1 = Ending.returned (Value.tuple #[Value.agg #[Value.int IntKind.i64 n1, Value.int IntKind.i64 n2, Value.slice p1 k1 k2], Value.int IntKind.i64 n3])) ∧
  ∀ k3 : Nat,
  (w1.heap.size ≤ k3) →
  brB (n3 != 0)
    (∀ w2 : World,
    (Locl ([k3]) w1 w2) →
    R (Ending.returned (Value.bool false)) w2)
    (∀ w3 : World,
    (Locl ([k3]) w1 w3) →
    Calls P F.law09_own #[Value.agg #[Value.int IntKind.i64 n1, Value.int IntKind.i64 n2, Value.slice p1 k1 k2]] w3 fun e2 w4 =>
    ∃ n4 : Int,
    ∃ n5 : Int,
    ∃ p2 : Option Addr,
    ∃ k4 : Nat,
    ∃ k5 : Nat,
    (e2 = Ending.returned (Value.agg #[Value.int IntKind.i64 n4, Value.int IntKind.i64 n5, Value.slice p2 k4 k5])) ∧
    (Keep ([k3]) w3 w4) ∧
    Calls P F.raster_Good #[Value.agg #[Value.int IntKind.i64 n4, Value.int IntKind.i64 n5, Value.slice p2 k4 k5]] w4 fun e3 w5 =>
    ∃ c1 : Bool,
    (e3 = Ending.returned (Value.bool c1)) ∧
    (Keep ([k3]) w4 w5) ∧
    brB (!c1 || (↑k1 : Int) != 8)
      (R (Ending.returned (Value.bool false)) w5)
      (idx (p1) (k1) (6) (1) fun a1 =>
      ∃ n6 : Int,
      (w5.cell? a1 = some (Value.int IntKind.u16 n6)) ∧
      brB (n6 != 3)
        (R (Ending.returned (Value.bool false)) w5)
        (Calls P F.raster_Good #[Value.agg #[Value.int IntKind.i64 0, Value.int IntKind.i64 0, Value.slice none 0 0]] w5 fun e4 w6 =>
        ∃ c2 : Bool,
        (e4 = Ending.returned (Value.bool c2)) ∧
        (Keep ([k3]) w5 w6) ∧
        brB (c2)
          (R (Ending.returned (Value.bool false)) w6)
          (Calls P F.law09_own #[Value.agg #[Value.int IntKind.i64 n1, Value.int IntKind.i64 n2, Value.slice p1 k1 k2]] w6 fun e5 w7 =>
          ∃ n7 : Int,
          ∃ n8 : Int,
          ∃ p3 : Option Addr,
          ∃ k6 : Nat,
          ∃ k7 : Nat,
          (e5 = Ending.returned (Value.agg #[Value.int IntKind.i64 n7, Value.int IntKind.i64 n8, Value.slice p3 k6 k7])) ∧
          (Keep ([k3]) w6 w7) ∧
          Calls P F.raster_At #[Value.agg #[Value.int IntKind.i64 n7, Value.int IntKind.i64 n8, Value.slice p3 k6 k7], Value.int IntKind.i64 1, Value.int IntKind.i64 0] w7 fun e6 w8 =>
          ∃ n9 : Int,
          ∃ n10 : Int,
          ∃ n11 : Int,
          ∃ n12 : Int,
          ∃ c3 : Bool,
          (e6 = Ending.returned (Value.tuple #[Value.agg #[Value.int IntKind.u16 n9, Value.int IntKind.u16 n10, Value.int IntKind.u16 n11, Value.int IntKind.u16 n12], Value.bool c3])) ∧
          (Keep ([k3]) w7 w8) ∧
          ∀ k8 : Nat,
          (w8.heap.size ≤ k8) →
          ∀ w9 : World,
          (Locl ([k8, k3]) w8 w9) →
          Calls P F.law09_own #[Value.agg #[Value.int IntKind.i64 n1, Value.int IntKind.i64 n2, Value.slice p1 k1 k2]] w9 fun e7 w10 =>
          ∃ n13 : Int,
          ∃ n14 : Int,
          ∃ p4 : Option Addr,
          ∃ k9 : Nat,
          ∃ k10 : Nat,
          (e7 = Ending.returned (Value.agg #[Value.int IntKind.i64 n13, Value.int IntKind.i64 n14, Value.slice p4 k9 k10])) ∧
          (Keep ([k8, k3]) w9 w10) ∧
          Calls P F.raster_Crop #[Value.agg #[Value.int IntKind.i64 n13, Value.int IntKind.i64 n14, Value.slice p4 k9 k10], Value.agg #[Value.int IntKind.i64 1, Value.int IntKind.i64 0, Value.int IntKind.i64 1, Value.int IntKind.i64 1]] w10 fun e8 w11 =>
          ∃ n15 : Int,
          ∃ n16 : Int,
          ∃ p5 : Option Addr,
          ∃ k11 : Nat,
          ∃ k12 : Nat,
          ∃ n17 : Int,
          (e8 = Ending.returned (Value.tuple #[Value.agg #[Value.int IntKind.i64 n15, Value.int IntKind.i64 n16, Value.slice p5 k11 k12], Value.int IntKind.i64 n17])) ∧
          (Keep ([k8, k3]) w10 w11) ∧
          ∀ k13 : Nat,
          (w11.heap.size ≤ k13) →
          brB (c3 && n12 == 4 && n17 == 0 && n15 == 1)
            (∀ w12 : World,
            (Locl ([k13, k8, k3]) w11 w12) →
            Calls P F.law09_own #[Value.agg #[Value.int IntKind.i64 n1, Value.int IntKind.i64 n2, Value.slice p1 k1 k2]] w12 fun e9 w13 =>
            ∃ n18 : Int,
            ∃ n19 : Int,
            ∃ p6 : Option Addr,
            ∃ k14 : Nat,
            ∃ k15 : Nat,
            (e9 = Ending.returned (Value.agg #[Value.int IntKind.i64 n18, Value.int IntKind.i64 n19, Value.slice p6 k14 k15])) ∧
            (Keep ([k13, k8, k3]) w12 w13) ∧
            Calls P F.raster_Distinct #[Value.agg #[Value.int IntKind.i64 n18, Value.int IntKind.i64 n19, Value.slice p6 k14 k15]] w13 fun e10 w14 =>
            ∃ p7 : Option Addr,
            ∃ k16 : Nat,
            ∃ k17 : Nat,
            (e10 = Ending.returned (Value.slice p7 k16 k17)) ∧
            (Keep ([k13, k8, k3]) w13 w14) ∧
            R (Ending.returned (Value.bool ((↑k16 : Int) == 1))) w14)
            (∀ w15 : World,
            (Locl ([k13, k8, k3]) w11 w15) →
            R (Ending.returned (Value.bool false)) w15)))))
theorem calls_law09_wakes  (w : World) (R : Ending → World → Prop) (h : vc_law09_wakes  w R) : Calls P F.law09_wakes #[] w R :=
  calls_of_vc (fn := Try.f10) (ac := ac_law09_wakes) (args := []) mixed Try.func10 (by kernel_rfl) (cast (by unfold vc_law09_wakes FnVc; kernel_rfl) h)
/-- darkroom/raster.Fill -/
def vc_raster_Fill (x1 : Int) (x2 : Int) (x3 : Int) (x4 : Int) (x5 : Int) (x6 : Int) (w : World) (R : Ending → World → Prop) : Prop :=
  ∀ k1 : Nat,
  ∀ w1 : World,
  (New w (Obj.cells #[Value.int IntKind.u16 x3, Value.int IntKind.u16 x4, Value.int IntKind.u16 x5, Value.int IntKind.u16 x6] 24) k1 w1) →
  ∀ k2 : Nat,
  (w1.heap.size ≤ k2) →
  ∀ w2 : World,
  (Locl ([k2]) w1 w2) →
  Calls P F.grid_New_api_Color #[Value.int IntKind.i64 x1, Value.int IntKind.i64 x2] w2 fun e1 w3 =>
  ∃ p1 : Option Addr,
  ∃ n1 : Int,
  (e1 = Ending.returned (Value.tuple #[Value.pointer p1, Value.int IntKind.i64 n1])) ∧
  (Keep ([k2]) w2 w3) ∧
  brB (n1 != 0)
    (∀ w4 : World,
    (Locl ([k2]) w3 w4) →
    R (Ending.returned (Value.tuple #[Value.agg #[Value.int IntKind.i64 0, Value.int IntKind.i64 0, Value.slice none 0 0], Value.int IntKind.i64 n1])) w4)
    (Calls P F.grid_Map_api_Color_api_Color #[Value.pointer p1, Value.func (Fn.func 37) #[] #[Value.pointer (some { block := k1, off := 0 })]] w3 fun e2 w5 =>
    ∃ p2 : Option Addr,
    (e2 = Ending.returned (Value.pointer p2)) ∧
    (Keep ([k2]) w3 w5) ∧
    Calls P F.raster_Of #[Value.pointer p2] w5 fun e3 w6 =>
    ∃ n2 : Int,
    ∃ n3 : Int,
    ∃ p3 : Option Addr,
    ∃ k3 : Nat,
    ∃ k4 : Nat,
    ∃ n4 : Int,
    (e3 = Ending.returned (Value.tuple #[Value.agg #[Value.int IntKind.i64 n2, Value.int IntKind.i64 n3, Value.slice p3 k3 k4], Value.int IntKind.i64 n4])) ∧
    (Keep ([k2]) w5 w6) ∧
    ∀ w7 : World,
    (Locl ([k2]) w6 w7) →
    R (Ending.returned (Value.tuple #[Value.agg #[Value.int IntKind.i64 n2, Value.int IntKind.i64 n3, Value.slice p3 k3 k4], Value.int IntKind.i64 n4])) w7)
theorem calls_raster_Fill (x1 : Int) (x2 : Int) (x3 : Int) (x4 : Int) (x5 : Int) (x6 : Int) (w : World) (R : Ending → World → Prop) (h : vc_raster_Fill x1 x2 x3 x4 x5 x6 w R) : Calls P F.raster_Fill #[.int .i64 x1, .int .i64 x2, .agg #[.int .u16 x3, .int .u16 x4, .int .u16 x5, .int .u16 x6]] w R :=
  calls_of_vc (fn := Try.f11) (ac := ac_raster_Fill) (args := [.int .i64 x1, .int .i64 x2, .agg #[.int .u16 x3, .int .u16 x4, .int .u16 x5, .int .u16 x6]]) mixed Try.func11 (by kernel_rfl) (cast (by unfold vc_raster_Fill FnVc; kernel_rfl) h)
/-- darkroom/darkroomref09.Fill -/
def vc_ref09_Fill (x1 : Int) (x2 : Int) (x3 : Int) (x4 : Int) (x5 : Int) (x6 : Int) (w : World) (R : Ending → World → Prop) : Prop :=
  ∀ k1 : Nat,
  (w.heap.size ≤ k1) →
  ∀ k2 : Nat,
  (w.heap.size ≤ k2) →
  ∀ w1 : World,
  (Locl ([k2, k1]) w w1) →
  Calls P F.ref07_Fits #[Value.int IntKind.i64 x1, Value.int IntKind.i64 x2] w1 fun e1 w2 =>
  ∃ c1 : Bool,
  (e1 = Ending.returned (Value.bool c1)) ∧
  (Keep ([k2, k1]) w1 w2) ∧
  brB (!c1)
    (∀ w3 : World,
    (Locl ([k2, k1]) w2 w3) →
    R (Ending.returned (Value.tuple #[Value.agg #[Value.int IntKind.i64 0, Value.int IntKind.i64 0, Value.slice none 0 0], Value.int IntKind.i64 4])) w3)
    (∀ k3 : Nat,
    (w2.heap.size ≤ k3) →
    ∃ I1 : List Value → World → Prop,
    ∃ m1 : List Value → World → Nat,
    (∀ w4 : World,
      (Locl ([k3, k2, k1]) w2 w4) →
      I1 [Value.int IntKind.i64 0, Value.int IntKind.i64 x1, Value.int IntKind.i64 x2, Value.slice none 0 0] w4) ∧
    ∀ n1 : Int,
    ∀ n2 : Int,
    ∀ n3 : Int,
    ∀ p1 : Option Addr,
    ∀ k4 : Nat,
    ∀ k5 : Nat,
    ∀ w5 : World,
    (I1 [Value.int IntKind.i64 n1, Value.int IntKind.i64 n2, Value.int IntKind.i64 n3, Value.slice p1 k4 k5] w5) →
    brB (decide (n1 < IntKind.i64.wrap (x1 * x2)))
      (Calls P F.ref09_Add #[Value.agg #[Value.int IntKind.i64 n2, Value.int IntKind.i64 n3, Value.slice p1 k4 k5], Value.agg #[Value.int IntKind.u16 x3, Value.int IntKind.u16 x4, Value.int IntKind.u16 x5, Value.int IntKind.u16 x6]] w5 fun e2 w6 =>
      ∃ n4 : Int,
      ∃ n5 : Int,
      ∃ p2 : Option Addr,
      ∃ k6 : Nat,
      ∃ k7 : Nat,
      (e2 = Ending.returned (Value.agg #[Value.int IntKind.i64 n4, Value.int IntKind.i64 n5, Value.slice p2 k6 k7])) ∧
      (Keep ([k3, k2, k1]) w5 w6) ∧
      ∀ w7 : World,
      (Locl ([k3, k2, k1]) w6 w7) →
      (I1 [Value.int IntKind.i64 (IntKind.i64.wrap (n1 + 1)), Value.int IntKind.i64 n4, Value.int IntKind.i64 n5, Value.slice p2 k6 k7] w7) ∧
      m1 [Value.int IntKind.i64 (IntKind.i64.wrap (n1 + 1)), Value.int IntKind.i64 n4, Value.int IntKind.i64 n5, Value.slice p2 k6 k7] w7 < m1 [Value.int IntKind.i64 n1, Value.int IntKind.i64 n2, Value.int IntKind.i64 n3, Value.slice p1 k4 k5] w5)
      (∀ w8 : World,
      (Locl ([k3, k2, k1]) w5 w8) →
      R (Ending.returned (Value.tuple #[Value.agg #[Value.int IntKind.i64 n2, Value.int IntKind.i64 n3, Value.slice p1 k4 k5], Value.int IntKind.i64 0])) w8))
theorem calls_ref09_Fill (x1 : Int) (x2 : Int) (x3 : Int) (x4 : Int) (x5 : Int) (x6 : Int) (w : World) (R : Ending → World → Prop) (h : vc_ref09_Fill x1 x2 x3 x4 x5 x6 w R) : Calls P F.ref09_Fill #[.int .i64 x1, .int .i64 x2, .agg #[.int .u16 x3, .int .u16 x4, .int .u16 x5, .int .u16 x6]] w R :=
  calls_of_vc (fn := Try.f12) (ac := ac_ref09_Fill) (args := [.int .i64 x1, .int .i64 x2, .agg #[.int .u16 x3, .int .u16 x4, .int .u16 x5, .int .u16 x6]]) mixed Try.func12 (by kernel_rfl) (cast (by unfold vc_ref09_Fill FnVc; kernel_rfl) h)
/-- darkroom/darkroomref09.Same -/
def vc_ref09_Same (x1 : Int) (x2 : Int) (sa1 : Option Addr) (sl1 sc1 : Nat) (x3 : Int) (x4 : Int) (sa2 : Option Addr) (sl2 sc2 : Nat) (w : World) (R : Ending → World → Prop) : Prop :=
  ∀ k1 : Nat,
  (w.heap.size ≤ k1) →
  ∀ k2 : Nat,
  (w.heap.size ≤ k2) →
  brB (x1 != x3 || x2 != x4 || (↑sl1 : Int) != (↑sl2 : Int))
    (∀ w1 : World,
    (Locl ([k2, k1]) w w1) →
    R (Ending.returned (Value.bool false)) w1)
    (∃ I1 : List Value → World → Prop,
    ∃ m1 : List Value → World → Nat,
    (∀ w2 : World,
      (Locl ([k2, k1]) w w2) →
      I1 [Value.int IntKind.i64 0] w2) ∧
    ∀ n1 : Int,
    ∀ w3 : World,
    (I1 [Value.int IntKind.i64 n1] w3) →
    brB (decide (n1 < (↑sl1 : Int)))
      (idx (sa1) (sl1) (n1) (1) fun a1 =>
      ∃ n2 : Int,
      (w3.drew.cell? a1 = some (Value.int IntKind.u16 n2)) ∧
      idx (sa2) (sl2) (n1) (1) fun a2 =>
      ∃ n3 : Int,
      (w3.drew.cell? a2 = some (Value.int IntKind.u16 n3)) ∧
      brB (n2 != n3)
        (R (Ending.returned (Value.bool false)) w3.drew)
        ((I1 [Value.int IntKind.i64 (IntKind.i64.wrap (n1 + 1))] w3.drew) ∧
        m1 [Value.int IntKind.i64 (IntKind.i64.wrap (n1 + 1))] w3.drew < m1 [Value.int IntKind.i64 n1] w3))
      (R (Ending.returned (Value.bool true)) w3))
theorem calls_ref09_Same (x1 : Int) (x2 : Int) (sa1 : Option Addr) (sl1 sc1 : Nat) (x3 : Int) (x4 : Int) (sa2 : Option Addr) (sl2 sc2 : Nat) (w : World) (R : Ending → World → Prop) (h : vc_ref09_Same x1 x2 sa1 sl1 sc1 x3 x4 sa2 sl2 sc2 w R) : Calls P F.ref09_Same #[.agg #[.int .i64 x1, .int .i64 x2, .slice sa1 sl1 sc1], .agg #[.int .i64 x3, .int .i64 x4, .slice sa2 sl2 sc2]] w R :=
  calls_of_vc (fn := Try.f13) (ac := ac_ref09_Same) (args := [.agg #[.int .i64 x1, .int .i64 x2, .slice sa1 sl1 sc1], .agg #[.int .i64 x3, .int .i64 x4, .slice sa2 sl2 sc2]]) mixed Try.func13 (by kernel_rfl) (cast (by unfold vc_ref09_Same FnVc; kernel_rfl) h)
/-- darkroom/darkroomref09.SameColors -/
def vc_ref09_SameColors (sa1 : Option Addr) (sl1 sc1 : Nat) (sa2 : Option Addr) (sl2 sc2 : Nat) (w : World) (R : Ending → World → Prop) : Prop :=
  brB ((↑sl1 : Int) != (↑sl2 : Int))
    (R (Ending.returned (Value.bool false)) w)
    (∃ I1 : List Value → World → Prop,
    ∃ m1 : List Value → World → Nat,
    (I1 [Value.int IntKind.i64 0] w) ∧
    ∀ n1 : Int,
    ∀ w1 : World,
    (I1 [Value.int IntKind.i64 n1] w1) →
    brB (decide (n1 < (↑sl1 : Int)))
      (idx (sa1) (sl1) (n1) (4) fun a1 =>
      ∃ n2 : Int,
      ∃ n3 : Int,
      ∃ n4 : Int,
      ∃ n5 : Int,
      (w1.drew.cell? a1 = some (Value.int IntKind.u16 n2)) ∧
      (w1.drew.cell? (a1.add 1) = some (Value.int IntKind.u16 n3)) ∧
      (w1.drew.cell? (a1.add 2) = some (Value.int IntKind.u16 n4)) ∧
      (w1.drew.cell? (a1.add 3) = some (Value.int IntKind.u16 n5)) ∧
      idx (sa2) (sl2) (n1) (4) fun a2 =>
      ∃ n6 : Int,
      ∃ n7 : Int,
      ∃ n8 : Int,
      ∃ n9 : Int,
      (w1.drew.cell? a2 = some (Value.int IntKind.u16 n6)) ∧
      (w1.drew.cell? (a2.add 1) = some (Value.int IntKind.u16 n7)) ∧
      (w1.drew.cell? (a2.add 2) = some (Value.int IntKind.u16 n8)) ∧
      (w1.drew.cell? (a2.add 3) = some (Value.int IntKind.u16 n9)) ∧
      brB (!(decide (n2 = n6) && (decide (n3 = n7) && (decide (n4 = n8) && (decide (n5 = n9) && true)))))
        (R (Ending.returned (Value.bool false)) w1.drew)
        ((I1 [Value.int IntKind.i64 (IntKind.i64.wrap (n1 + 1))] w1.drew) ∧
        m1 [Value.int IntKind.i64 (IntKind.i64.wrap (n1 + 1))] w1.drew < m1 [Value.int IntKind.i64 n1] w1))
      (R (Ending.returned (Value.bool true)) w1))
theorem calls_ref09_SameColors (sa1 : Option Addr) (sl1 sc1 : Nat) (sa2 : Option Addr) (sl2 sc2 : Nat) (w : World) (R : Ending → World → Prop) (h : vc_ref09_SameColors sa1 sl1 sc1 sa2 sl2 sc2 w R) : Calls P F.ref09_SameColors #[.slice sa1 sl1 sc1, .slice sa2 sl2 sc2] w R :=
  calls_of_vc (fn := Try.f14) (ac := ac_ref09_SameColors) (args := [.slice sa1 sl1 sc1, .slice sa2 sl2 sc2]) mixed Try.func14 (by kernel_rfl) (cast (by unfold vc_ref09_SameColors FnVc; kernel_rfl) h)
/-- darkroom/raster.Distinct -/
def vc_raster_Distinct (x1 : Int) (x2 : Int) (sa1 : Option Addr) (sl1 sc1 : Nat) (w : World) (R : Ending → World → Prop) : Prop :=
  ∀ k1 : Nat,
  (w.heap.size ≤ k1) →
  ∀ w1 : World,
  (Locl ([k1]) w w1) →
  Calls P F.raster_Good #[Value.agg #[Value.int IntKind.i64 x1, Value.int IntKind.i64 x2, Value.slice sa1 sl1 sc1]] w1 fun e1 w2 =>
  ∃ c1 : Bool,
  (e1 = Ending.returned (Value.bool c1)) ∧
  (Keep ([k1]) w1 w2) ∧
  brB (!c1)
    (R (Ending.returned (Value.slice none 0 0)) w2)
    (∀ k2 : Nat,
    ∀ w3 : World,
    (New w2 (Obj.map #[] 0) k2 w3) →
    ∀ k3 : Nat,
    (w3.heap.size ≤ k3) →
    ∃ I1 : List Value → World → Prop,
    ∃ m1 : List Value → World → Nat,
    (∀ w4 : World,
      (Locl ([k3, k1]) w3 w4) →
      I1 [Value.slice none 0 0, Value.int IntKind.i64 0, Value.int IntKind.u16 0, Value.int IntKind.u16 0, Value.int IntKind.u16 0, Value.int IntKind.u16 0] w4) ∧
    ∀ p1 : Option Addr,
    ∀ k4 : Nat,
    ∀ k5 : Nat,
    ∀ n1 : Int,
    ∀ n2 : Int,
    ∀ n3 : Int,
    ∀ n4 : Int,
    ∀ n5 : Int,
    ∀ w5 : World,
    (I1 [Value.slice p1 k4 k5, Value.int IntKind.i64 n1, Value.int IntKind.u16 n2, Value.int IntKind.u16 n3, Value.int IntKind.u16 n4, Value.int IntKind.u16 n5] w5) →
    brB (decide (n1 < IntKind.i64.wrap (x1 * x2)))
      (∃ I2 : List Value → World → Prop,
      (slcc (sa1) (sc1) (IntKind.i64.wrap (4 * n1)) ((↑sl1 : Int)) (1) fun p2 k6 k7 =>
        Calls P F.raster_colour #[Value.slice p2 k6 k7] w5 fun e2 w6 =>
        ∃ n6 : Int,
        ∃ n7 : Int,
        ∃ n8 : Int,
        ∃ n9 : Int,
        (e2 = Ending.returned (Value.agg #[Value.int IntKind.u16 n6, Value.int IntKind.u16 n7, Value.int IntKind.u16 n8, Value.int IntKind.u16 n9])) ∧
        (Keep ([k3, k1]) w5 w6) ∧
        ∀ k8 : Nat,
        (w6.heap.size ≤ k8) →
        ∃ I3 : List Value → World → Prop,
        (brB (decide (n1 > 0))
            (brB (decide (n6 = n2) && (decide (n7 = n3) && (decide (n8 = n4) && (decide (n9 = n5) && true))))
              (∀ w7 : World,
              (Locl ([k8, k3, k1]) w6 w7) →
              I2 [Value.slice p1 k4 k5, Value.int IntKind.u16 n2, Value.int IntKind.u16 n3, Value.int IntKind.u16 n4, Value.int IntKind.u16 n5] w7)
              (∀ w8 : World,
              (Locl ([k8, k3, k1]) w6 w8) →
              I3 [] w8))
            (∀ w9 : World,
            (Locl ([k8, k3, k1]) w6 w9) →
            I3 [] w9)) ∧
        ∀ w10 : World,
        (I3 [] w10) →
        ∀ w11 : World,
        (Locl ([k8, k3, k1]) w10 w11) →
        mapIn (Kd.agg [IntKind.u16, IntKind.u16, IntKind.u16, IntKind.u16]) (w11) (Value.map (some k2)) fun l1 =>
        ∃ c2 : Bool,
        (mgot l1 (Value.agg #[Value.int IntKind.u16 n6, Value.int IntKind.u16 n7, Value.int IntKind.u16 n8, Value.int IntKind.u16 n9]) (Value.agg #[]) = (Value.agg #[], c2)) ∧
        ∀ k9 : Nat,
        (w11.heap.size ≤ k9) →
        brB (!c2)
          (∀ w12 : World,
          (Locl ([k9, k8, k3, k1]) w11 w12) →
          mapTo (Kd.agg [IntKind.u16, IntKind.u16, IntKind.u16, IntKind.u16]) (w12) (Value.map (some k2)) fun b1 l2 =>
          ∀ w13 : World,
          (Put b1 w12 w13) →
          (Mp (Kd.agg [IntKind.u16, IntKind.u16, IntKind.u16, IntKind.u16]) w13 b1 (mput (Value.agg #[Value.int IntKind.u16 n6, Value.int IntKind.u16 n7, Value.int IntKind.u16 n8, Value.int IntKind.u16 n9]) (Value.agg #[]) l2)) →
          ∀ k10 : Nat,
          (w13.heap.size ≤ k10) →
          ∀ w14 : World,
          (Locl ([k10, k9, k8, k3, k1]) w13 w14) →
          appVC (w14) ([(50, k10, [Value.int IntKind.u16 n6, Value.int IntKind.u16 n7, Value.int IntKind.u16 n8, Value.int IntKind.u16 n9]), (8, k9, []), (7, k8, [Value.int IntKind.u16 n6, Value.int IntKind.u16 n7, Value.int IntKind.u16 n8, Value.int IntKind.u16 n9]), (5, k3, [Value.int IntKind.u16 n6, Value.int IntKind.u16 n7, Value.int IntKind.u16 n8, Value.int IntKind.u16 n9]), (1, k1, [Value.int IntKind.i64 x1, Value.int IntKind.i64 x2, Value.slice sa1 sl1 sc1])]) (p1) (k4) (k5) (1) (4) (8) (24) ([Value.int IntKind.u16 0, Value.int IntKind.u16 0, Value.int IntKind.u16 0, Value.int IntKind.u16 0]) ([Value.int IntKind.u16 n6, Value.int IntKind.u16 n7, Value.int IntKind.u16 n8, Value.int IntKind.u16 n9]) fun p3 k11 k12 w15 =>
          I2 [Value.slice p3 k11 k12, Value.int IntKind.u16 n6, Value.int IntKind.u16 n7, Value.int IntKind.u16 n8, Value.int IntKind.u16 n9] w15)
          (∀ w16 : World,
          (Locl ([k9, k8, k3, k1]) w11 w16) →
          I2 [Value.slice p1 k4 k5, Value.int IntKind.u16 n6, Value.int IntKind.u16 n7, Value.int IntKind.u16 n8, Value.int IntKind.u16 n9] w16)) ∧
      ∀ p4 : Option Addr,
      ∀ k13 : Nat,
      ∀ k14 : Nat,
      ∀ n10 : Int,
      ∀ n11 : Int,
      ∀ n12 : Int,
      ∀ n13 : Int,
      ∀ w17 : World,
      (I2 [Value.slice p4 k13 k14, Value.int IntKind.u16 n10, Value.int IntKind.u16 n11, Value.int IntKind.u16 n12, Value.int IntKind.u16 n13] w17) →
      (I1 [Value.slice p4 k13 k14, Value.int IntKind.i64 (IntKind.i64.wrap (n1 + 1)), Value.int IntKind.u16 n10, Value.int IntKind.u16 n11, Value.int IntKind.u16 n12, Value.int IntKind.u16 n13] w17) ∧
      m1 [Value.slice p4 k13 k14, Value.int IntKind.i64 (IntKind.i64.wrap (n1 + 1)), Value.int IntKind.u16 n10, Value.int IntKind.u16 n11, Value.int IntKind.u16 n12, Value.int IntKind.u16 n13] w17 < m1 [Value.slice p1 k4 k5, Value.int IntKind.i64 n1, Value.int IntKind.u16 n2, Value.int IntKind.u16 n3, Value.int IntKind.u16 n4, Value.int IntKind.u16 n5] w5)
      (R (Ending.returned (Value.slice p1 k4 k5)) w5))
theorem calls_raster_Distinct (x1 : Int) (x2 : Int) (sa1 : Option Addr) (sl1 sc1 : Nat) (w : World) (R : Ending → World → Prop) (h : vc_raster_Distinct x1 x2 sa1 sl1 sc1 w R) : Calls P F.raster_Distinct #[.agg #[.int .i64 x1, .int .i64 x2, .slice sa1 sl1 sc1]] w R :=
  calls_of_vc (fn := Try.f15) (ac := ac_raster_Distinct) (args := [.agg #[.int .i64 x1, .int .i64 x2, .slice sa1 sl1 sc1]]) mixed Try.func15 (by kernel_rfl) (cast (by unfold vc_raster_Distinct FnVc; kernel_rfl) h)
/-- darkroom/darkroomlaw09.own -/
def vc_law09_own (x1 : Int) (x2 : Int) (sa1 : Option Addr) (sl1 sc1 : Nat) (w : World) (R : Ending → World → Prop) : Prop :=
  ∀ k1 : Nat,
  (w.heap.size ≤ k1) →
  ∀ k2 : Nat,
  (w.heap.size ≤ k2) →
  ∀ w1 : World,
  (Locl ([k2, k1]) w w1) →
  Calls P F.ref09_Copy #[Value.agg #[Value.int IntKind.i64 x1, Value.int IntKind.i64 x2, Value.slice sa1 sl1 sc1]] w1 fun e1 w2 =>
  ∃ n1 : Int,
  ∃ n2 : Int,
  ∃ p1 : Option Addr,
  ∃ k3 : Nat,
  ∃ k4 : Nat,
  (e1 = Ending.returned (Value.agg #[Value.int IntKind.i64 n1, Value.int IntKind.i64 n2, Value.slice p1 k3 k4])) ∧
  (Keep ([k2, k1]) w1 w2) ∧
  ∀ w3 : World,
  (Locl ([k2, k1]) w2 w3) →
  R (Ending.returned (Value.agg #[Value.int IntKind.i64 n1, Value.int IntKind.i64 n2, Value.slice p1 k3 k4])) w3
theorem calls_law09_own (x1 : Int) (x2 : Int) (sa1 : Option Addr) (sl1 sc1 : Nat) (w : World) (R : Ending → World → Prop) (h : vc_law09_own x1 x2 sa1 sl1 sc1 w R) : Calls P F.law09_own #[.agg #[.int .i64 x1, .int .i64 x2, .slice sa1 sl1 sc1]] w R :=
  calls_of_vc (fn := Try.f16) (ac := ac_law09_own) (args := [.agg #[.int .i64 x1, .int .i64 x2, .slice sa1 sl1 sc1]]) mixed Try.func16 (by kernel_rfl) (cast (by unfold vc_law09_own FnVc; kernel_rfl) h)
/-- darkroom/darkroomref09.Distinct -/
def vc_ref09_Distinct (x1 : Int) (x2 : Int) (sa1 : Option Addr) (sl1 sc1 : Nat) (w : World) (R : Ending → World → Prop) : Prop :=
  ∀ k1 : Nat,
  (w.heap.size ≤ k1) →
  ∀ w1 : World,
  (Locl ([k1]) w w1) →
  Calls P F.ref09_Good #[Value.agg #[Value.int IntKind.i64 x1, Value.int IntKind.i64 x2, Value.slice sa1 sl1 sc1]] w1 fun e1 w2 =>
  ∃ c1 : Bool,
  (e1 = Ending.returned (Value.bool c1)) ∧
  (Keep ([k1]) w1 w2) ∧
  brB (!c1)
    (R (Ending.returned (Value.slice none 0 0)) w2)
    (∃ I1 : List Value → World → Prop,
    ∃ m1 : List Value → World → Nat,
    (I1 [Value.slice none 0 0, Value.int IntKind.i64 0] w2) ∧
    ∀ p1 : Option Addr,
    ∀ k2 : Nat,
    ∀ k3 : Nat,
    ∀ n1 : Int,
    ∀ w3 : World,
    (I1 [Value.slice p1 k2 k3, Value.int IntKind.i64 n1] w3) →
    brB (decide (n1 < x2))
      (∃ I2 : List Value → World → Prop,
      ∃ m2 : List Value → World → Nat,
      (I2 [Value.slice p1 k2 k3, Value.int IntKind.i64 0] w3) ∧
      ∀ p2 : Option Addr,
      ∀ k4 : Nat,
      ∀ k5 : Nat,
      ∀ n2 : Int,
      ∀ w4 : World,
      (I2 [Value.slice p2 k4 k5, Value.int IntKind.i64 n2] w4) →
      brB (decide (n2 < x1))
        (∃ I3 : List Value → World → Prop,
        (Calls P F.ref09_Pixel #[Value.agg #[Value.int IntKind.i64 x1, Value.int IntKind.i64 x2, Value.slice sa1 sl1 sc1], Value.int IntKind.i64 n2, Value.int IntKind.i64 n1] w4 fun e2 w5 =>
          ∃ n3 : Int,
          ∃ n4 : Int,
          ∃ n5 : Int,
          ∃ n6 : Int,
          (e2 = Ending.returned (Value.agg #[Value.int IntKind.u16 n3, Value.int IntKind.u16 n4, Value.int IntKind.u16 n5, Value.int IntKind.u16 n6])) ∧
          (Keep ([k1]) w4 w5) ∧
          ∀ k6 : Nat,
          (w5.heap.size ≤ k6) →
          ∀ w6 : World,
          (Locl ([k6, k1]) w5 w6) →
          Calls P F.ref09_Place #[Value.slice p2 k4 k5, Value.agg #[Value.int IntKind.u16 n3, Value.int IntKind.u16 n4, Value.int IntKind.u16 n5, Value.int IntKind.u16 n6]] w6 fun e3 w7 =>
          ∃ n7 : Int,
          (e3 = Ending.returned (Value.int IntKind.i64 n7)) ∧
          (Keep ([k6, k1]) w6 w7) ∧
          brB (decide (n7 < 0))
            (∀ k7 : Nat,
            (w7.heap.size ≤ k7) →
            ∀ w8 : World,
            (Locl ([k7, k6, k1]) w7 w8) →
            appVC (w8) ([(32, k7, [Value.int IntKind.u16 n3, Value.int IntKind.u16 n4, Value.int IntKind.u16 n5, Value.int IntKind.u16 n6]), (6, k6, [Value.int IntKind.u16 n3, Value.int IntKind.u16 n4, Value.int IntKind.u16 n5, Value.int IntKind.u16 n6]), (1, k1, [Value.int IntKind.i64 x1, Value.int IntKind.i64 x2, Value.slice sa1 sl1 sc1])]) (p2) (k4) (k5) (1) (4) (8) (24) ([Value.int IntKind.u16 0, Value.int IntKind.u16 0, Value.int IntKind.u16 0, Value.int IntKind.u16 0]) ([Value.int IntKind.u16 n3, Value.int IntKind.u16 n4, Value.int IntKind.u16 n5, Value.int IntKind.u16 n6]) fun p3 k8 k9 w9 =>
            I3 [Value.slice p3 k8 k9] w9)
            (I3 [Value.slice p2 k4 k5] w7)) ∧
        ∀ p4 : Option Addr,
        ∀ k10 : Nat,
        ∀ k11 : Nat,
        ∀ w10 : World,
        (I3 [Value.slice p4 k10 k11] w10) →
        (I2 [Value.slice p4 k10 k11, Value.int IntKind.i64 (IntKind.i64.wrap (n2 + 1))] w10) ∧
        m2 [Value.slice p4 k10 k11, Value.int IntKind.i64 (IntKind.i64.wrap (n2 + 1))] w10 < m2 [Value.slice p2 k4 k5, Value.int IntKind.i64 n2] w4)
        ((I1 [Value.slice p2 k4 k5, Value.int IntKind.i64 (IntKind.i64.wrap (n1 + 1))] w4) ∧
        m1 [Value.slice p2 k4 k5, Value.int IntKind.i64 (IntKind.i64.wrap (n1 + 1))] w4 < m1 [Value.slice p1 k2 k3, Value.int IntKind.i64 n1] w3))
      (R (Ending.returned (Value.slice p1 k2 k3)) w3))
theorem calls_ref09_Distinct (x1 : Int) (x2 : Int) (sa1 : Option Addr) (sl1 sc1 : Nat) (w : World) (R : Ending → World → Prop) (h : vc_ref09_Distinct x1 x2 sa1 sl1 sc1 w R) : Calls P F.ref09_Distinct #[.agg #[.int .i64 x1, .int .i64 x2, .slice sa1 sl1 sc1]] w R :=
  calls_of_vc (fn := Try.f17) (ac := ac_ref09_Distinct) (args := [.agg #[.int .i64 x1, .int .i64 x2, .slice sa1 sl1 sc1]]) mixed Try.func17 (by kernel_rfl) (cast (by unfold vc_ref09_Distinct FnVc; kernel_rfl) h)
/-- darkroom/raster.At -/
def vc_raster_At (x1 : Int) (x2 : Int) (sa1 : Option Addr) (sl1 sc1 : Nat) (x3 : Int) (x4 : Int) (w : World) (R : Ending → World → Prop) : Prop :=
  ∀ k1 : Nat,
  (w.heap.size ≤ k1) →
  ∀ k2 : Nat,
  (w.heap.size ≤ k2) →
  ∀ w1 : World,
  (Locl ([k2, k1]) w w1) →
  Calls P F.raster_Good #[Value.agg #[Value.int IntKind.i64 x1, Value.int IntKind.i64 x2, Value.slice sa1 sl1 sc1]] w1 fun e1 w2 =>
  ∃ c1 : Bool,
  (e1 = Ending.returned (Value.bool c1)) ∧
  (Keep ([k2, k1]) w1 w2) ∧
  brB (!c1 || decide (x3 < 0) || decide (x4 < 0) || decide (x3 ≥ x1) || decide (x4 ≥ x2))
    (∀ w3 : World,
    (Locl ([k2, k1]) w2 w3) →
    R (Ending.returned (Value.tuple #[Value.agg #[Value.int IntKind.u16 0, Value.int IntKind.u16 0, Value.int IntKind.u16 0, Value.int IntKind.u16 0], Value.bool false])) w3)
    (Calls P F.raster_pixel #[Value.agg #[Value.int IntKind.i64 x1, Value.int IntKind.i64 x2, Value.slice sa1 sl1 sc1], Value.int IntKind.i64 x3, Value.int IntKind.i64 x4] w2 fun e2 w4 =>
    ∃ n1 : Int,
    ∃ n2 : Int,
    ∃ n3 : Int,
    ∃ n4 : Int,
    (e2 = Ending.returned (Value.agg #[Value.int IntKind.u16 n1, Value.int IntKind.u16 n2, Value.int IntKind.u16 n3, Value.int IntKind.u16 n4])) ∧
    (Keep ([k2, k1]) w2 w4) ∧
    ∀ w5 : World,
    (Locl ([k2, k1]) w4 w5) →
    R (Ending.returned (Value.tuple #[Value.agg #[Value.int IntKind.u16 n1, Value.int IntKind.u16 n2, Value.int IntKind.u16 n3, Value.int IntKind.u16 n4], Value.bool true])) w5)
theorem calls_raster_At (x1 : Int) (x2 : Int) (sa1 : Option Addr) (sl1 sc1 : Nat) (x3 : Int) (x4 : Int) (w : World) (R : Ending → World → Prop) (h : vc_raster_At x1 x2 sa1 sl1 sc1 x3 x4 w R) : Calls P F.raster_At #[.agg #[.int .i64 x1, .int .i64 x2, .slice sa1 sl1 sc1], .int .i64 x3, .int .i64 x4] w R :=
  calls_of_vc (fn := Try.f18) (ac := ac_raster_At) (args := [.agg #[.int .i64 x1, .int .i64 x2, .slice sa1 sl1 sc1], .int .i64 x3, .int .i64 x4]) mixed Try.func18 (by kernel_rfl) (cast (by unfold vc_raster_At FnVc; kernel_rfl) h)
/-- darkroom/darkroomref09.At -/
def vc_ref09_At (x1 : Int) (x2 : Int) (sa1 : Option Addr) (sl1 sc1 : Nat) (x3 : Int) (x4 : Int) (w : World) (R : Ending → World → Prop) : Prop :=
  ∀ k1 : Nat,
  (w.heap.size ≤ k1) →
  ∀ k2 : Nat,
  (w.heap.size ≤ k2) →
  ∀ w1 : World,
  (Locl ([k2, k1]) w w1) →
  Calls P F.ref09_Good #[Value.agg #[Value.int IntKind.i64 x1, Value.int IntKind.i64 x2, Value.slice sa1 sl1 sc1]] w1 fun e1 w2 =>
  ∃ c1 : Bool,
  (e1 = Ending.returned (Value.bool c1)) ∧
  (Keep ([k2, k1]) w1 w2) ∧
  brB (!c1 || decide (x3 < 0) || decide (x4 < 0) || decide (x3 ≥ x1) || decide (x4 ≥ x2))
    (∀ w3 : World,
    (Locl ([k2, k1]) w2 w3) →
    R (Ending.returned (Value.tuple #[Value.agg #[Value.int IntKind.u16 0, Value.int IntKind.u16 0, Value.int IntKind.u16 0, Value.int IntKind.u16 0], Value.bool false])) w3)
    (Calls P F.ref09_Pixel #[Value.agg #[Value.int IntKind.i64 x1, Value.int IntKind.i64 x2, Value.slice sa1 sl1 sc1], Value.int IntKind.i64 x3, Value.int IntKind.i64 x4] w2 fun e2 w4 =>
    ∃ n1 : Int,
    ∃ n2 : Int,
    ∃ n3 : Int,
    ∃ n4 : Int,
    (e2 = Ending.returned (Value.agg #[Value.int IntKind.u16 n1, Value.int IntKind.u16 n2, Value.int IntKind.u16 n3, Value.int IntKind.u16 n4])) ∧
    (Keep ([k2, k1]) w2 w4) ∧
    ∀ w5 : World,
    (Locl ([k2, k1]) w4 w5) →
    R (Ending.returned (Value.tuple #[Value.agg #[Value.int IntKind.u16 n1, Value.int IntKind.u16 n2, Value.int IntKind.u16 n3, Value.int IntKind.u16 n4], Value.bool true])) w5)
theorem calls_ref09_At (x1 : Int) (x2 : Int) (sa1 : Option Addr) (sl1 sc1 : Nat) (x3 : Int) (x4 : Int) (w : World) (R : Ending → World → Prop) (h : vc_ref09_At x1 x2 sa1 sl1 sc1 x3 x4 w R) : Calls P F.ref09_At #[.agg #[.int .i64 x1, .int .i64 x2, .slice sa1 sl1 sc1], .int .i64 x3, .int .i64 x4] w R :=
  calls_of_vc (fn := Try.f19) (ac := ac_ref09_At) (args := [.agg #[.int .i64 x1, .int .i64 x2, .slice sa1 sl1 sc1], .int .i64 x3, .int .i64 x4]) mixed Try.func19 (by kernel_rfl) (cast (by unfold vc_ref09_At FnVc; kernel_rfl) h)
/-- darkroom/raster.Good -/
def vc_raster_Good (x1 : Int) (x2 : Int) (sa1 : Option Addr) (sl1 sc1 : Nat) (w : World) (R : Ending → World → Prop) : Prop :=
  ∀ k1 : Nat,
  (w.heap.size ≤ k1) →
  ∀ w1 : World,
  (Locl ([k1]) w w1) →
  R (Ending.returned (Value.bool (decide (min x1 x2 ≥ 1) && decide (max x1 x2 ≤ 4096) && decide (IntKind.i64.wrap (x1 * x2) ≤ 65536) && (↑sl1 : Int) == IntKind.i64.wrap (IntKind.i64.wrap (4 * x1) * x2)))) w1
theorem calls_raster_Good (x1 : Int) (x2 : Int) (sa1 : Option Addr) (sl1 sc1 : Nat) (w : World) (R : Ending → World → Prop) (h : vc_raster_Good x1 x2 sa1 sl1 sc1 w R) : Calls P F.raster_Good #[.agg #[.int .i64 x1, .int .i64 x2, .slice sa1 sl1 sc1]] w R :=
  calls_of_vc (fn := Try.f20) (ac := ac_raster_Good) (args := [.agg #[.int .i64 x1, .int .i64 x2, .slice sa1 sl1 sc1]]) mixed Try.func20 (by kernel_rfl) (cast (by unfold vc_raster_Good FnVc; kernel_rfl) h)
/-- darkroom/darkroomref09.Good -/
def vc_ref09_Good (x1 : Int) (x2 : Int) (sa1 : Option Addr) (sl1 sc1 : Nat) (w : World) (R : Ending → World → Prop) : Prop :=
  ∀ k1 : Nat,
  (w.heap.size ≤ k1) →
  ∀ w1 : World,
  (Locl ([k1]) w w1) →
  Calls P F.ref07_Fits #[Value.int IntKind.i64 x1, Value.int IntKind.i64 x2] w1 fun e1 w2 =>
  ∃ c1 : Bool,
  (e1 = Ending.returned (Value.bool c1)) ∧
  (Keep ([k1]) w1 w2) ∧
  R (Ending.returned (Value.bool (c1 && (↑sl1 : Int) == IntKind.i64.wrap (IntKind.i64.wrap (4 * x1) * x2)))) w2
theorem calls_ref09_Good (x1 : Int) (x2 : Int) (sa1 : Option Addr) (sl1 sc1 : Nat) (w : World) (R : Ending → World → Prop) (h : vc_ref09_Good x1 x2 sa1 sl1 sc1 w R) : Calls P F.ref09_Good #[.agg #[.int .i64 x1, .int .i64 x2, .slice sa1 sl1 sc1]] w R :=
  calls_of_vc (fn := Try.f21) (ac := ac_ref09_Good) (args := [.agg #[.int .i64 x1, .int .i64 x2, .slice sa1 sl1 sc1]]) mixed Try.func21 (by kernel_rfl) (cast (by unfold vc_ref09_Good FnVc; kernel_rfl) h)
/-- darkroom/raster.Same -/
def vc_raster_Same (x1 : Int) (x2 : Int) (sa1 : Option Addr) (sl1 sc1 : Nat) (x3 : Int) (x4 : Int) (sa2 : Option Addr) (sl2 sc2 : Nat) (w : World) (R : Ending → World → Prop) : Prop :=
  ∀ k1 : Nat,
  (w.heap.size ≤ k1) →
  ∀ k2 : Nat,
  (w.heap.size ≤ k2) →
  brB (x1 == x3 && x2 == x4)
    (∀ w1 : World,
    (Locl ([k2, k1]) w w1) →
    Calls P F.slices_Equal_uint16 #[Value.slice sa1 sl1 sc1, Value.slice sa2 sl2 sc2] w1 fun e1 w2 =>
    ∃ c1 : Bool,
    (e1 = Ending.returned (Value.bool c1)) ∧
    (Keep ([k2, k1]) w1 w2) ∧
    R (Ending.returned (Value.bool c1)) w2)
    (∀ w3 : World,
    (Locl ([k2, k1]) w w3) →
    R (Ending.returned (Value.bool false)) w3)
theorem calls_raster_Same (x1 : Int) (x2 : Int) (sa1 : Option Addr) (sl1 sc1 : Nat) (x3 : Int) (x4 : Int) (sa2 : Option Addr) (sl2 sc2 : Nat) (w : World) (R : Ending → World → Prop) (h : vc_raster_Same x1 x2 sa1 sl1 sc1 x3 x4 sa2 sl2 sc2 w R) : Calls P F.raster_Same #[.agg #[.int .i64 x1, .int .i64 x2, .slice sa1 sl1 sc1], .agg #[.int .i64 x3, .int .i64 x4, .slice sa2 sl2 sc2]] w R :=
  calls_of_vc (fn := Try.f22) (ac := ac_raster_Same) (args := [.agg #[.int .i64 x1, .int .i64 x2, .slice sa1 sl1 sc1], .agg #[.int .i64 x3, .int .i64 x4, .slice sa2 sl2 sc2]]) mixed Try.func22 (by kernel_rfl) (cast (by unfold vc_raster_Same FnVc; kernel_rfl) h)
/-- darkroom/raster.Crop -/
def vc_raster_Crop (x1 : Int) (x2 : Int) (sa1 : Option Addr) (sl1 sc1 : Nat) (x3 : Int) (x4 : Int) (x5 : Int) (x6 : Int) (w : World) (R : Ending → World → Prop) : Prop :=
  ∀ k1 : Nat,
  (w.heap.size ≤ k1) →
  ∀ k2 : Nat,
  (w.heap.size ≤ k2) →
  ∀ k3 : Nat,
  (w.heap.size ≤ k3) →
  ∀ w1 : World,
  (Locl ([k3, k2, k1]) w w1) →
  Calls P F.raster_Good #[Value.agg #[Value.int IntKind.i64 x1, Value.int IntKind.i64 x2, Value.slice sa1 sl1 sc1]] w1 fun e1 w2 =>
  ∃ c1 : Bool,
  (e1 = Ending.returned (Value.bool c1)) ∧
  (Keep ([k3, k2, k1]) w1 w2) ∧
  brB (!c1)
    (∀ w3 : World,
    (Locl ([k3, k2, k1]) w2 w3) →
    R (Ending.returned (Value.tuple #[Value.agg #[Value.int IntKind.i64 0, Value.int IntKind.i64 0, Value.slice none 0 0], Value.int IntKind.i64 6])) w3)
    (brB (decide (x5 < 1) || decide (x6 < 1) || decide (x5 > x1) || decide (x6 > x2) || decide (x3 < 0) || decide (x4 < 0) || decide (x3 > IntKind.i64.wrap (x1 - x5)) || decide (x4 > IntKind.i64.wrap (x2 - x6)))
      (∀ w4 : World,
      (Locl ([k3, k2, k1]) w2 w4) →
      R (Ending.returned (Value.tuple #[Value.agg #[Value.int IntKind.i64 0, Value.int IntKind.i64 0, Value.slice none 0 0], Value.int IntKind.i64 2])) w4)
      (∀ k4 : Nat,
      (w2.heap.size ≤ k4) →
      ∃ I1 : List Value → World → Prop,
      ∃ m1 : List Value → World → Nat,
      (∀ w5 : World,
        (Locl ([k4, k3, k2, k1]) w2 w5) →
        I1 [Value.int IntKind.i64 0, Value.int IntKind.i64 x5, Value.int IntKind.i64 x6, Value.slice none 0 0] w5) ∧
      ∀ n1 : Int,
      ∀ n2 : Int,
      ∀ n3 : Int,
      ∀ p1 : Option Addr,
      ∀ k5 : Nat,
      ∀ k6 : Nat,
      ∀ w6 : World,
      (I1 [Value.int IntKind.i64 n1, Value.int IntKind.i64 n2, Value.int IntKind.i64 n3, Value.slice p1 k5 k6] w6) →
      brB (decide (n1 < x6))
        (slcc (sa1) (sc1) (IntKind.i64.wrap (4 * IntKind.i64.wrap (IntKind.i64.wrap (IntKind.i64.wrap (x4 + n1) * x1) + x3))) (IntKind.i64.wrap (IntKind.i64.wrap (4 * IntKind.i64.wrap (IntKind.i64.wrap (IntKind.i64.wrap (x4 + n1) * x1) + x3)) + IntKind.i64.wrap (4 * x5))) (1) fun p2 k7 k8 =>
        ∃ l1 : List Value,
        (l1.length = k7 * 1) ∧
        (oneAll l1 = true) ∧
        (CellsAre (w6.drew) p2 l1) ∧
        appVC (w6.drew) ([(6, k4, [Value.int IntKind.i64 n2, Value.int IntKind.i64 n3, Value.slice p1 k5 k6]), (4, k3, [Value.int IntKind.i64 0, Value.int IntKind.i64 0, Value.slice none 0 0]), (3, k2, [Value.int IntKind.i64 x3, Value.int IntKind.i64 x4, Value.int IntKind.i64 x5, Value.int IntKind.i64 x6]), (2, k1, [Value.int IntKind.i64 x1, Value.int IntKind.i64 x2, Value.slice sa1 sl1 sc1])]) (p1) (k5) (k6) (k7) (1) (2) (22) ([Value.int IntKind.u16 0]) (l1) fun p3 k9 k10 w7 =>
        ∀ w8 : World,
        (Locl ([k4, k3, k2, k1]) w7 w8) →
        (I1 [Value.int IntKind.i64 (IntKind.i64.wrap (n1 + 1)), Value.int IntKind.i64 n2, Value.int IntKind.i64 n3, Value.slice p3 k9 k10] w8) ∧
        m1 [Value.int IntKind.i64 (IntKind.i64.wrap (n1 + 1)), Value.int IntKind.i64 n2, Value.int IntKind.i64 n3, Value.slice p3 k9 k10] w8 < m1 [Value.int IntKind.i64 n1, Value.int IntKind.i64 n2, Value.int IntKind.i64 n3, Value.slice p1 k5 k6] w6)
        (∀ w9 : World,
        (Locl ([k4, k3, k2, k1]) w6 w9) →
        R (Ending.returned (Value.tuple #[Value.agg #[Value.int IntKind.i64 n2, Value.int IntKind.i64 n3, Value.slice p1 k5 k6], Value.int IntKind.i64 0])) w9)))
theorem calls_raster_Crop (x1 : Int) (x2 : Int) (sa1 : Option Addr) (sl1 sc1 : Nat) (x3 : Int) (x4 : Int) (x5 : Int) (x6 : Int) (w : World) (R : Ending → World → Prop) (h : vc_raster_Crop x1 x2 sa1 sl1 sc1 x3 x4 x5 x6 w R) : Calls P F.raster_Crop #[.agg #[.int .i64 x1, .int .i64 x2, .slice sa1 sl1 sc1], .agg #[.int .i64 x3, .int .i64 x4, .int .i64 x5, .int .i64 x6]] w R :=
  calls_of_vc (fn := Try.f23) (ac := ac_raster_Crop) (args := [.agg #[.int .i64 x1, .int .i64 x2, .slice sa1 sl1 sc1], .agg #[.int .i64 x3, .int .i64 x4, .int .i64 x5, .int .i64 x6]]) mixed Try.func23 (by kernel_rfl) (cast (by unfold vc_raster_Crop FnVc; kernel_rfl) h)
/-- darkroom/darkroomref09.Crop -/
def vc_ref09_Crop (x1 : Int) (x2 : Int) (sa1 : Option Addr) (sl1 sc1 : Nat) (x3 : Int) (x4 : Int) (x5 : Int) (x6 : Int) (w : World) (R : Ending → World → Prop) : Prop :=
  ∀ k1 : Nat,
  (w.heap.size ≤ k1) →
  ∀ k2 : Nat,
  (w.heap.size ≤ k2) →
  ∀ k3 : Nat,
  (w.heap.size ≤ k3) →
  ∀ w1 : World,
  (Locl ([k3, k2, k1]) w w1) →
  Calls P F.ref09_Good #[Value.agg #[Value.int IntKind.i64 x1, Value.int IntKind.i64 x2, Value.slice sa1 sl1 sc1]] w1 fun e1 w2 =>
  ∃ c1 : Bool,
  (e1 = Ending.returned (Value.bool c1)) ∧
  (Keep ([k3, k2, k1]) w1 w2) ∧
  brB (!c1)
    (∀ w3 : World,
    (Locl ([k3, k2, k1]) w2 w3) →
    R (Ending.returned (Value.tuple #[Value.agg #[Value.int IntKind.i64 0, Value.int IntKind.i64 0, Value.slice none 0 0], Value.int IntKind.i64 6])) w3)
    (Calls P F.ref07_Within #[Value.int IntKind.i64 x3, Value.int IntKind.i64 x4, Value.int IntKind.i64 x5, Value.int IntKind.i64 x6, Value.int IntKind.i64 x1, Value.int IntKind.i64 x2] w2 fun e2 w4 =>
    ∃ c2 : Bool,
    (e2 = Ending.returned (Value.bool c2)) ∧
    (Keep ([k3, k2, k1]) w2 w4) ∧
    brB (!c2)
      (∀ w5 : World,
      (Locl ([k3, k2, k1]) w4 w5) →
      R (Ending.returned (Value.tuple #[Value.agg #[Value.int IntKind.i64 0, Value.int IntKind.i64 0, Value.slice none 0 0], Value.int IntKind.i64 2])) w5)
      (∀ k4 : Nat,
      (w4.heap.size ≤ k4) →
      ∃ I1 : List Value → World → Prop,
      ∃ m1 : List Value → World → Nat,
      (∀ w6 : World,
        (Locl ([k4, k3, k2, k1]) w4 w6) →
        I1 [Value.int IntKind.i64 0, Value.int IntKind.i64 x5, Value.int IntKind.i64 x6, Value.slice none 0 0] w6) ∧
      ∀ n1 : Int,
      ∀ n2 : Int,
      ∀ n3 : Int,
      ∀ p1 : Option Addr,
      ∀ k5 : Nat,
      ∀ k6 : Nat,
      ∀ w7 : World,
      (I1 [Value.int IntKind.i64 n1, Value.int IntKind.i64 n2, Value.int IntKind.i64 n3, Value.slice p1 k5 k6] w7) →
      brB (decide (n1 < x6))
        (∃ I2 : List Value → World → Prop,
        ∃ m2 : List Value → World → Nat,
        (I2 [Value.int IntKind.i64 0, Value.int IntKind.i64 n2, Value.int IntKind.i64 n3, Value.slice p1 k5 k6] w7) ∧
        ∀ n4 : Int,
        ∀ n5 : Int,
        ∀ n6 : Int,
        ∀ p2 : Option Addr,
        ∀ k7 : Nat,
        ∀ k8 : Nat,
        ∀ w8 : World,
        (I2 [Value.int IntKind.i64 n4, Value.int IntKind.i64 n5, Value.int IntKind.i64 n6, Value.slice p2 k7 k8] w8) →
        brB (decide (n4 < x5))
          (Calls P F.ref09_Pixel #[Value.agg #[Value.int IntKind.i64 x1, Value.int IntKind.i64 x2, Value.slice sa1 sl1 sc1], Value.int IntKind.i64 (IntKind.i64.wrap (x3 + n4)), Value.int IntKind.i64 (IntKind.i64.wrap (x4 + n1))] (w8.drew) fun e3 w9 =>
          ∃ n7 : Int,
          ∃ n8 : Int,
          ∃ n9 : Int,
          ∃ n10 : Int,
          (e3 = Ending.returned (Value.agg #[Value.int IntKind.u16 n7, Value.int IntKind.u16 n8, Value.int IntKind.u16 n9, Value.int IntKind.u16 n10])) ∧
          (Keep ([k4, k3, k2, k1]) (w8.drew) w9) ∧
          (Keeps (w8.drew) w9) ∧
          Calls P F.ref09_Add #[Value.agg #[Value.int IntKind.i64 n5, Value.int IntKind.i64 n6, Value.slice p2 k7 k8], Value.agg #[Value.int IntKind.u16 n7, Value.int IntKind.u16 n8, Value.int IntKind.u16 n9, Value.int IntKind.u16 n10]] w9 fun e4 w10 =>
          ∃ n11 : Int,
          ∃ n12 : Int,
          ∃ p3 : Option Addr,
          ∃ k9 : Nat,
          ∃ k10 : Nat,
          (e4 = Ending.returned (Value.agg #[Value.int IntKind.i64 n11, Value.int IntKind.i64 n12, Value.slice p3 k9 k10])) ∧
          (Keep ([k4, k3, k2, k1]) w9 w10) ∧
          ∀ w11 : World,
          (Locl ([k4, k3, k2, k1]) w10 w11) →
          (I2 [Value.int IntKind.i64 (IntKind.i64.wrap (n4 + 1)), Value.int IntKind.i64 n11, Value.int IntKind.i64 n12, Value.slice p3 k9 k10] w11) ∧
          m2 [Value.int IntKind.i64 (IntKind.i64.wrap (n4 + 1)), Value.int IntKind.i64 n11, Value.int IntKind.i64 n12, Value.slice p3 k9 k10] w11 < m2 [Value.int IntKind.i64 n4, Value.int IntKind.i64 n5, Value.int IntKind.i64 n6, Value.slice p2 k7 k8] w8)
          ((I1 [Value.int IntKind.i64 (IntKind.i64.wrap (n1 + 1)), Value.int IntKind.i64 n5, Value.int IntKind.i64 n6, Value.slice p2 k7 k8] w8) ∧
          m1 [Value.int IntKind.i64 (IntKind.i64.wrap (n1 + 1)), Value.int IntKind.i64 n5, Value.int IntKind.i64 n6, Value.slice p2 k7 k8] w8 < m1 [Value.int IntKind.i64 n1, Value.int IntKind.i64 n2, Value.int IntKind.i64 n3, Value.slice p1 k5 k6] w7))
        (∀ w12 : World,
        (Locl ([k4, k3, k2, k1]) w7 w12) →
        R (Ending.returned (Value.tuple #[Value.agg #[Value.int IntKind.i64 n2, Value.int IntKind.i64 n3, Value.slice p1 k5 k6], Value.int IntKind.i64 0])) w12)))
theorem calls_ref09_Crop (x1 : Int) (x2 : Int) (sa1 : Option Addr) (sl1 sc1 : Nat) (x3 : Int) (x4 : Int) (x5 : Int) (x6 : Int) (w : World) (R : Ending → World → Prop) (h : vc_ref09_Crop x1 x2 sa1 sl1 sc1 x3 x4 x5 x6 w R) : Calls P F.ref09_Crop #[.agg #[.int .i64 x1, .int .i64 x2, .slice sa1 sl1 sc1], .agg #[.int .i64 x3, .int .i64 x4, .int .i64 x5, .int .i64 x6]] w R :=
  calls_of_vc (fn := Try.f24) (ac := ac_ref09_Crop) (args := [.agg #[.int .i64 x1, .int .i64 x2, .slice sa1 sl1 sc1], .agg #[.int .i64 x3, .int .i64 x4, .int .i64 x5, .int .i64 x6]]) mixed Try.func24 (by kernel_rfl) (cast (by unfold vc_ref09_Crop FnVc; kernel_rfl) h)
/-- darkroom/raster.Paste -/
def vc_raster_Paste (x1 : Int) (x2 : Int) (sa1 : Option Addr) (sl1 sc1 : Nat) (x3 : Int) (x4 : Int) (sa2 : Option Addr) (sl2 sc2 : Nat) (x5 : Int) (x6 : Int) (w : World) (R : Ending → World → Prop) : Prop :=
  ∀ k1 : Nat,
  (w.heap.size ≤ k1) →
  ∀ k2 : Nat,
  (w.heap.size ≤ k2) →
  ∀ k3 : Nat,
  (w.heap.size ≤ k3) →
  ∀ w1 : World,
  (Locl ([k3, k2, k1]) w w1) →
  Calls P F.raster_Good #[Value.agg #[Value.int IntKind.i64 x1, Value.int IntKind.i64 x2, Value.slice sa1 sl1 sc1]] w1 fun e1 w2 =>
  ∃ c1 : Bool,
  (e1 = Ending.returned (Value.bool c1)) ∧
  (Keep ([k3, k2, k1]) w1 w2) ∧
  brB (!c1)
    (∀ w3 : World,
    (Locl ([k3, k2, k1]) w2 w3) →
    R (Ending.returned (Value.tuple #[Value.agg #[Value.int IntKind.i64 0, Value.int IntKind.i64 0, Value.slice none 0 0], Value.int IntKind.i64 6])) w3)
    (Calls P F.raster_Good #[Value.agg #[Value.int IntKind.i64 x3, Value.int IntKind.i64 x4, Value.slice sa2 sl2 sc2]] w2 fun e2 w4 =>
    ∃ c2 : Bool,
    (e2 = Ending.returned (Value.bool c2)) ∧
    (Keep ([k3, k2, k1]) w2 w4) ∧
    brB (!c2)
      (∀ w5 : World,
      (Locl ([k3, k2, k1]) w4 w5) →
      R (Ending.returned (Value.tuple #[Value.agg #[Value.int IntKind.i64 0, Value.int IntKind.i64 0, Value.slice none 0 0], Value.int IntKind.i64 6])) w5)
      (∃ I1 : List Value → World → Prop,
      ((Calls P F.slices_Clone_uint16 #[Value.slice sa1 sl1 sc1] (w4.drew) fun e3 w6 =>
          ∃ p1 : Option Addr,
          ∃ k4 : Nat,
          ∃ k5 : Nat,
          (e3 = Ending.returned (Value.slice p1 k4 k5)) ∧
          (Keep ([k3, k2, k1]) (w4.drew) w6) ∧
          (Keeps (w4.drew) w6) ∧
          ∀ k6 : Nat,
          (w6.heap.size ≤ k6) →
          ∀ w7 : World,
          (Locl ([k6, k3, k2, k1]) w6 w7) →
          I1 [Value.pointer (some { block := k6, off := 0 }), Value.int IntKind.i64 x1, Value.int IntKind.i64 x2, Value.slice p1 k4 k5] w7) ∧
        ∀ k7 : Nat,
        (w4.drew.heap.size ≤ k7) →
        ∀ w8 : World,
        (Locl ([k7, k3, k2, k1]) (w4.drew) w8) →
        Calls P F.slices_Clone_uint16 #[Value.slice sa1 sl1 sc1] w8 fun e4 w9 =>
        ∃ p2 : Option Addr,
        ∃ k8 : Nat,
        ∃ k9 : Nat,
        (e4 = Ending.returned (Value.slice p2 k8 k9)) ∧
        (Keep ([k7, k3, k2, k1]) w8 w9) ∧
        (Keeps w8 w9) ∧
        ∀ w10 : World,
        (Locl ([k7, k3, k2, k1]) w9 w10) →
        I1 [Value.pointer (some { block := k7, off := 0 }), Value.int IntKind.i64 x1, Value.int IntKind.i64 x2, Value.slice p2 k8 k9] w10) ∧
      ∀ k10 : Nat,
      ∀ n1 : Int,
      ∀ n2 : Int,
      ∀ p3 : Option Addr,
      ∀ k11 : Nat,
      ∀ k12 : Nat,
      ∀ w11 : World,
      (I1 [Value.pointer (some { block := k10, off := 0 }), Value.int IntKind.i64 n1, Value.int IntKind.i64 n2, Value.slice p3 k11 k12] w11) →
      brB (decide (x5 ≤ IntKind.i64.wrap (0 - x3)) || decide (x6 ≤ IntKind.i64.wrap (0 - x4)) || decide (x5 ≥ x1) || decide (x6 ≥ x2))
        (∀ w12 : World,
        (Locl ([k10, k3, k2, k1]) w11 w12) →
        R (Ending.returned (Value.tuple #[Value.agg #[Value.int IntKind.i64 n1, Value.int IntKind.i64 n2, Value.slice p3 k11 k12], Value.int IntKind.i64 0])) w12)
        (∃ I2 : List Value → World → Prop,
        ∃ m1 : List Value → World → Nat,
        (I2 [Value.int IntKind.i64 (max 0 (IntKind.i64.wrap (0 - x6)))] w11) ∧
        ∀ n3 : Int,
        ∀ w13 : World,
        (I2 [Value.int IntKind.i64 n3] w13) →
        brB (decide (n3 < x4) && decide (IntKind.i64.wrap (x6 + n3) < x2))
          (∃ I3 : List Value → World → Prop,
          ∃ m2 : List Value → World → Nat,
          (I3 [Value.int IntKind.i64 (max 0 (IntKind.i64.wrap (0 - x5)))] w13) ∧
          ∀ n4 : Int,
          ∀ w14 : World,
          (I3 [Value.int IntKind.i64 n4] w14) →
          brB (decide (n4 < x3) && decide (IntKind.i64.wrap (x5 + n4) < x1))
            (slcc (p3) (k12) (IntKind.i64.wrap (4 * IntKind.i64.wrap (IntKind.i64.wrap (IntKind.i64.wrap (IntKind.i64.wrap (x6 + n3) * x1) + x5) + n4))) ((↑k11 : Int)) (1) fun p4 k13 k14 =>
            slcc (sa2) (sc2) (IntKind.i64.wrap (4 * IntKind.i64.wrap (IntKind.i64.wrap (n3 * x3) + n4))) (IntKind.i64.wrap (IntKind.i64.wrap (4 * IntKind.i64.wrap (IntKind.i64.wrap (n3 * x3) + n4)) + 4)) (1) fun p5 k15 k16 =>
            ∃ l1 : List Value,
            (l1.length = min k15 k13 * 1) ∧
            (oneAll l1 = true) ∧
            (CellsAre (w14.drew) p5 l1) ∧
            (((l1 = []) ∧
              (I3 [Value.int IntKind.i64 (IntKind.i64.wrap (n4 + 1))] w14.drew) ∧
              m2 [Value.int IntKind.i64 (IntKind.i64.wrap (n4 + 1))] w14.drew < m2 [Value.int IntKind.i64 n4] w14) ∨
            (∃ a1 : Addr,
              (p4 = some a1) ∧
              (CanSet (w14.drew) a1 (l1.length)) ∧
              (¬a1.block ∈ [k10, k3, k2, k1]) ∧
              (I3 [Value.int IntKind.i64 (IntKind.i64.wrap (n4 + 1))] (setCells w14.drew a1 l1 0)) ∧
              m2 [Value.int IntKind.i64 (IntKind.i64.wrap (n4 + 1))] (setCells w14.drew a1 l1 0) < m2 [Value.int IntKind.i64 n4] w14)))
            ((I2 [Value.int IntKind.i64 (IntKind.i64.wrap (n3 + 1))] w14) ∧
            m1 [Value.int IntKind.i64 (IntKind.i64.wrap (n3 + 1))] w14 < m1 [Value.int IntKind.i64 n3] w13))
          (∀ w15 : World,
          (Locl ([k10, k3, k2, k1]) w13 w15) →
          R (Ending.returned (Value.tuple #[Value.agg #[Value.int IntKind.i64 n1, Value.int IntKind.i64 n2, Value.slice p3 k11 k12], Value.int IntKind.i64 0])) w15))))
theorem calls_raster_Paste (x1 : Int) (x2 : Int) (sa1 : Option Addr) (sl1 sc1 : Nat) (x3 : Int) (x4 : Int) (sa2 : Option Addr) (sl2 sc2 : Nat) (x5 : Int) (x6 : Int) (w : World) (R : Ending → World → Prop) (h : vc_raster_Paste x1 x2 sa1 sl1 sc1 x3 x4 sa2 sl2 sc2 x5 x6 w R) : Calls P F.raster_Paste #[.agg #[.int .i64 x1, .int .i64 x2, .slice sa1 sl1 sc1], .agg #[.int .i64 x3, .int .i64 x4, .slice sa2 sl2 sc2], .int .i64 x5, .int .i64 x6] w R :=
  calls_of_vc (fn := Try.f25) (ac := ac_raster_Paste) (args := [.agg #[.int .i64 x1, .int .i64 x2, .slice sa1 sl1 sc1], .agg #[.int .i64 x3, .int .i64 x4, .slice sa2 sl2 sc2], .int .i64 x5, .int .i64 x6]) mixed Try.func25 (by kernel_rfl) (cast (by unfold vc_raster_Paste FnVc; kernel_rfl) h)
/-- darkroom/darkroomref09.Paste -/
def vc_ref09_Paste (x1 : Int) (x2 : Int) (sa1 : Option Addr) (sl1 sc1 : Nat) (x3 : Int) (x4 : Int) (sa2 : Option Addr) (sl2 sc2 : Nat) (x5 : Int) (x6 : Int) (w : World) (R : Ending → World → Prop) : Prop :=
  ∀ k1 : Nat,
  (w.heap.size ≤ k1) →
  ∀ k2 : Nat,
  (w.heap.size ≤ k2) →
  ∀ k3 : Nat,
  (w.heap.size ≤ k3) →
  ∀ w1 : World,
  (Locl ([k3, k2, k1]) w w1) →
  Calls P F.ref09_Good #[Value.agg #[Value.int IntKind.i64 x1, Value.int IntKind.i64 x2, Value.slice sa1 sl1 sc1]] w1 fun e1 w2 =>
  ∃ c1 : Bool,
  (e1 = Ending.returned (Value.bool c1)) ∧
  (Keep ([k3, k2, k1]) w1 w2) ∧
  brB (!c1)
    (∀ w3 : World,
    (Locl ([k3, k2, k1]) w2 w3) →
    R (Ending.returned (Value.tuple #[Value.agg #[Value.int IntKind.i64 0, Value.int IntKind.i64 0, Value.slice none 0 0], Value.int IntKind.i64 6])) w3)
    (Calls P F.ref09_Good #[Value.agg #[Value.int IntKind.i64 x3, Value.int IntKind.i64 x4, Value.slice sa2 sl2 sc2]] w2 fun e2 w4 =>
    ∃ c2 : Bool,
    (e2 = Ending.returned (Value.bool c2)) ∧
    (Keep ([k3, k2, k1]) w2 w4) ∧
    brB (!c2)
      (∀ w5 : World,
      (Locl ([k3, k2, k1]) w4 w5) →
      R (Ending.returned (Value.tuple #[Value.agg #[Value.int IntKind.i64 0, Value.int IntKind.i64 0, Value.slice none 0 0], Value.int IntKind.i64 6])) w5)
      (Calls P F.ref09_Copy #[Value.agg #[Value.int IntKind.i64 x1, Value.int IntKind.i64 x2, Value.slice sa1 sl1 sc1]] w4 fun e3 w6 =>
      ∃ n1 : Int,
      ∃ n2 : Int,
      ∃ p1 : Option Addr,
      ∃ k4 : Nat,
      ∃ k5 : Nat,
      (e3 = Ending.returned (Value.agg #[Value.int IntKind.i64 n1, Value.int IntKind.i64 n2, Value.slice p1 k4 k5])) ∧
      (Keep ([k3, k2, k1]) w4 w6) ∧
      ∀ k6 : Nat,
      (w6.heap.size ≤ k6) →
      ∃ I1 : List Value → World → Prop,
      ∃ m1 : List Value → World → Nat,
      (∀ w7 : World,
        (Locl ([k6, k3, k2, k1]) w6 w7) →
        I1 [Value.int IntKind.i64 0] w7) ∧
      ∀ n3 : Int,
      ∀ w8 : World,
      (I1 [Value.int IntKind.i64 n3] w8) →
      brB (decide (n3 < x2))
        (∃ I2 : List Value → World → Prop,
        ∃ m2 : List Value → World → Nat,
        (I2 [Value.int IntKind.i64 0] w8) ∧
        ∀ n4 : Int,
        ∀ w9 : World,
        (I2 [Value.int IntKind.i64 n4] w9) →
        brB (decide (n4 < x1))
          (∃ I3 : List Value → World → Prop,
          (brB (decide (x6 ≤ n3) && decide (x5 ≤ n4) && decide (x6 > IntKind.i64.wrap (n3 - x4)) && decide (x5 > IntKind.i64.wrap (n4 - x3)))
              (Calls P F.ref09_Pixel #[Value.agg #[Value.int IntKind.i64 x3, Value.int IntKind.i64 x4, Value.slice sa2 sl2 sc2], Value.int IntKind.i64 (IntKind.i64.wrap (n4 - x5)), Value.int IntKind.i64 (IntKind.i64.wrap (n3 - x6))] (w9.drew) fun e4 w10 =>
              ∃ n5 : Int,
              ∃ n6 : Int,
              ∃ n7 : Int,
              ∃ n8 : Int,
              (e4 = Ending.returned (Value.agg #[Value.int IntKind.u16 n5, Value.int IntKind.u16 n6, Value.int IntKind.u16 n7, Value.int IntKind.u16 n8])) ∧
              (Keep ([k6, k3, k2, k1]) (w9.drew) w10) ∧
              (Keeps (w9.drew) w10) ∧
              Calls P F.ref09_Put #[Value.agg #[Value.int IntKind.i64 n1, Value.int IntKind.i64 n2, Value.slice p1 k4 k5], Value.int IntKind.i64 n4, Value.int IntKind.i64 n3, Value.agg #[Value.int IntKind.u16 n5, Value.int IntKind.u16 n6, Value.int IntKind.u16 n7, Value.int IntKind.u16 n8]] w10 fun e5 w11 =>
              (e5 = Ending.returned (Value.tuple #[])) ∧
              (Keep ([k6, k3, k2, k1]) w10 w11) ∧
              I3 [] w11)
              (I3 [] w9)) ∧
          ∀ w12 : World,
          (I3 [] w12) →
          (I2 [Value.int IntKind.i64 (IntKind.i64.wrap (n4 + 1))] w12) ∧
          m2 [Value.int IntKind.i64 (IntKind.i64.wrap (n4 + 1))] w12 < m2 [Value.int IntKind.i64 n4] w9)
          ((I1 [Value.int IntKind.i64 (IntKind.i64.wrap (n3 + 1))] w9) ∧
          m1 [Value.int IntKind.i64 (IntKind.i64.wrap (n3 + 1))] w9 < m1 [Value.int IntKind.i64 n3] w8))
        (∀ w13 : World,
        (Locl ([k6, k3, k2, k1]) w8 w13) →
        R (Ending.returned (Value.tuple #[Value.agg #[Value.int IntKind.i64 n1, Value.int IntKind.i64 n2, Value.slice p1 k4 k5], Value.int IntKind.i64 0])) w13)))
theorem calls_ref09_Paste (x1 : Int) (x2 : Int) (sa1 : Option Addr) (sl1 sc1 : Nat) (x3 : Int) (x4 : Int) (sa2 : Option Addr) (sl2 sc2 : Nat) (x5 : Int) (x6 : Int) (w : World) (R : Ending → World → Prop) (h : vc_ref09_Paste x1 x2 sa1 sl1 sc1 x3 x4 sa2 sl2 sc2 x5 x6 w R) : Calls P F.ref09_Paste #[.agg #[.int .i64 x1, .int .i64 x2, .slice sa1 sl1 sc1], .agg #[.int .i64 x3, .int .i64 x4, .slice sa2 sl2 sc2], .int .i64 x5, .int .i64 x6] w R :=
  calls_of_vc (fn := Try.f26) (ac := ac_ref09_Paste) (args := [.agg #[.int .i64 x1, .int .i64 x2, .slice sa1 sl1 sc1], .agg #[.int .i64 x3, .int .i64 x4, .slice sa2 sl2 sc2], .int .i64 x5, .int .i64 x6]) mixed Try.func26 (by kernel_rfl) (cast (by unfold vc_ref09_Paste FnVc; kernel_rfl) h)
/-- darkroom/raster.Grid -/
def vc_raster_Grid (x1 : Int) (x2 : Int) (sa1 : Option Addr) (sl1 sc1 : Nat) (w : World) (R : Ending → World → Prop) : Prop :=
  ∀ k1 : Nat,
  (w.heap.size ≤ k1) →
  ∀ w1 : World,
  (Locl ([k1]) w w1) →
  Calls P F.raster_Good #[Value.agg #[Value.int IntKind.i64 x1, Value.int IntKind.i64 x2, Value.slice sa1 sl1 sc1]] w1 fun e1 w2 =>
  ∃ c1 : Bool,
  (e1 = Ending.returned (Value.bool c1)) ∧
  (Keep ([k1]) w1 w2) ∧
  brB (!c1)
    (R (Ending.returned (Value.tuple #[Value.pointer none, Value.int IntKind.i64 6])) w2)
    (((0 : Int) ≤ 0) ∧
    (0 ≤ IntKind.i64.wrap (x1 * x2)) ∧
    (IntKind.i64.wrap (x1 * x2) * 8 ≤ 281474976710656) ∧
    (IntKind.i64.wrap (x1 * x2) < 4611686018427387904) ∧
    ∀ k2 : Nat,
    ∀ w3 : World,
    (New w2 (Obj.cells (mkCells [Value.int IntKind.u16 0, Value.int IntKind.u16 0, Value.int IntKind.u16 0, Value.int IntKind.u16 0] (IntKind.i64.wrap (x1 * x2)).toNat) 24) k2 w3) →
    ∀ k3 : Nat,
    (w3.heap.size ≤ k3) →
    ∀ w4 : World,
    (Locl ([k3, k1]) w3 w4) →
    Calls P F.slices_Chunk_uint16 #[Value.slice sa1 sl1 sc1, Value.int IntKind.i64 4] w4 fun e2 w5 =>
    ∃ y1 : FuncId,
    ∃ y2 : Array Value,
    ∃ y3 : Array Value,
    (e2 = Ending.returned (Value.func (Fn.func y1) y2 y3)) ∧
    (Keep ([k3, k1]) w4 w5) ∧
    ∀ k4 : Nat,
    ∀ w6 : World,
    (Rf w5 w6 k4) →
    ∀ I1 : List Value → World → Prop,
    ∀ Z1 : Exit → List Value → World → Prop,
    (∀ l1 : List Value,
    ∀ w7 : World,
    ∀ w8 : World,
    (I1 l1 w7) →
    (Keep ([k4, w5.heap.size, k3, k1]) w7 w8) →
    I1 l1 w8) →
    (∀ y4 : Exit,
    ∀ l2 : List Value,
    ∀ w9 : World,
    ∀ w10 : World,
    (Z1 y4 l2 w9) →
    (Keep ([k4, w5.heap.size, k3, k1]) w9 w10) →
    Z1 y4 l2 w10) →
    (I1 [Value.slice (some { block := k2, off := 0 }) 0 (IntKind.i64.wrap (x1 * x2)).toNat] w6) →
    (∀ p1 : Option Addr,
    ∀ k5 : Nat,
    ∀ k6 : Nat,
    ∀ p2 : Option Addr,
    ∀ k7 : Nat,
    ∀ k8 : Nat,
    ∀ w11 : World,
    ∀ I2 : Ending → World → Prop,
    (I1 [Value.slice p1 k5 k6] w11) →
    (∀ y5 : Obj,
    ∀ y6 : Obj,
    ∀ w12 : World,
    (Put k4 w11 w12) →
    Calls P F.raster_colour #[Value.slice p2 k7 k8] (w12.drew) fun e3 w13 =>
    ∃ n1 : Int,
    ∃ n2 : Int,
    ∃ n3 : Int,
    ∃ n4 : Int,
    (e3 = Ending.returned (Value.agg #[Value.int IntKind.u16 n1, Value.int IntKind.u16 n2, Value.int IntKind.u16 n3, Value.int IntKind.u16 n4])) ∧
    (Keep ([k4, w5.heap.size, k3, k1]) (w12.drew) w13) ∧
    (Keeps (w12.drew) w13) ∧
    ∀ k9 : Nat,
    (w13.heap.size ≤ k9) →
    ∀ w14 : World,
    (Locl ([k9, k3, k1]) w13 w14) →
    appVC (w14) ([(22, k9, [Value.int IntKind.u16 n1, Value.int IntKind.u16 n2, Value.int IntKind.u16 n3, Value.int IntKind.u16 n4]), (4, k3, [Value.slice p1 k5 k6]), (1, k1, [Value.int IntKind.i64 x1, Value.int IntKind.i64 x2, Value.slice sa1 sl1 sc1])]) (p1) (k5) (k6) (1) (4) (8) (24) ([Value.int IntKind.u16 0, Value.int IntKind.u16 0, Value.int IntKind.u16 0, Value.int IntKind.u16 0]) ([Value.int IntKind.u16 n1, Value.int IntKind.u16 n2, Value.int IntKind.u16 n3, Value.int IntKind.u16 n4]) fun p3 k10 k11 w15 =>
    ∀ w16 : World,
    (Locl ([k9, k3, k1]) w15 w16) →
    ∀ w17 : World,
    (Put k4 w16 w17) →
    (I1 [Value.slice p3 k10 k11] w17) →
    I2 (Ending.returned (Value.bool true)) w17) →
    YieldAt Fence.wide 0 P (k4) #[Value.slice p2 k7 k8] (w11) I2) →
    callF P (Value.func (Fn.func y1) y2 y3) [Value.func (Fn.yield k4) #[] #[]] w6 fun e4 w18 =>
    ∃ v1 : Value,
    (e4 = Ending.returned v1) ∧
    ((∃ p4 : Option Addr,
      ∃ k12 : Nat,
      ∃ k13 : Nat,
      (I1 [Value.slice p4 k12 k13] w18) ∧
      ∀ w19 : World,
      (Put k4 w18 w19) →
      Calls P F.grid_Of_api_Color #[Value.int IntKind.i64 x1, Value.int IntKind.i64 x2, Value.slice p4 k12 k13] w19 fun e5 w20 =>
      ∃ p5 : Option Addr,
      ∃ n5 : Int,
      (e5 = Ending.returned (Value.tuple #[Value.pointer p5, Value.int IntKind.i64 n5])) ∧
      (Keep ([w5.heap.size, k3, k1]) w19 w20) ∧
      ∀ w21 : World,
      (Put (w5.heap.size) w20 w21) →
      R (Ending.returned (Value.tuple #[Value.pointer p5, Value.int IntKind.i64 n5])) w21) ∨
    (False)))
theorem calls_raster_Grid (x1 : Int) (x2 : Int) (sa1 : Option Addr) (sl1 sc1 : Nat) (w : World) (R : Ending → World → Prop) (h : vc_raster_Grid x1 x2 sa1 sl1 sc1 w R) : Calls P F.raster_Grid #[.agg #[.int .i64 x1, .int .i64 x2, .slice sa1 sl1 sc1]] w R :=
  calls_of_vc (fn := Try.f27) (ac := ac_raster_Grid) (args := [.agg #[.int .i64 x1, .int .i64 x2, .slice sa1 sl1 sc1]]) mixed Try.func27 (by kernel_rfl) (cast (by unfold vc_raster_Grid FnVc; kernel_rfl) h)
/-- (*darkroom/grid.Grid[darkroom/api.Color]).W -/
def vc_grid_Grid_api_Color_W (q1 : Option Addr) (w : World) (R : Ending → World → Prop) : Prop :=
  brB (q1.isNone)
    (R (Ending.returned (Value.int IntKind.i64 0)) w)
    (nn (q1) fun a1 =>
    ∃ n1 : Int,
    (w.cell? a1 = some (Value.int IntKind.i64 n1)) ∧
    R (Ending.returned (Value.int IntKind.i64 n1)) w)
theorem calls_grid_Grid_api_Color_W (q1 : Option Addr) (w : World) (R : Ending → World → Prop) (h : vc_grid_Grid_api_Color_W q1 w R) : Calls P F.grid_Grid_api_Color_W #[.pointer q1] w R :=
  calls_of_vc (fn := Try.f28) (ac := ac_grid_Grid_api_Color_W) (args := [.pointer q1]) mixed Try.func28 (by kernel_rfl) (cast (by unfold vc_grid_Grid_api_Color_W FnVc; kernel_rfl) h)
/-- (*darkroom/grid.Grid[darkroom/api.Color]).H -/
def vc_grid_Grid_api_Color_H (q1 : Option Addr) (w : World) (R : Ending → World → Prop) : Prop :=
  brB (q1.isNone)
    (R (Ending.returned (Value.int IntKind.i64 0)) w)
    (nn (q1) fun a1 =>
    ∃ n1 : Int,
    (w.cell? (a1.add 1) = some (Value.int IntKind.i64 n1)) ∧
    R (Ending.returned (Value.int IntKind.i64 n1)) w)
theorem calls_grid_Grid_api_Color_H (q1 : Option Addr) (w : World) (R : Ending → World → Prop) (h : vc_grid_Grid_api_Color_H q1 w R) : Calls P F.grid_Grid_api_Color_H #[.pointer q1] w R :=
  calls_of_vc (fn := Try.f29) (ac := ac_grid_Grid_api_Color_H) (args := [.pointer q1]) mixed Try.func29 (by kernel_rfl) (cast (by unfold vc_grid_Grid_api_Color_H FnVc; kernel_rfl) h)
/-- (*darkroom/grid.Grid[darkroom/api.Color]).Cells -/
def vc_grid_Grid_api_Color_Cells (q1 : Option Addr) (w : World) (R : Ending → World → Prop) : Prop :=
  brB (q1.isNone)
    (R (Ending.returned (Value.slice none 0 0)) w)
    (nn (q1) fun a1 =>
    ∃ p1 : Option Addr,
    ∃ k1 : Nat,
    ∃ k2 : Nat,
    (w.cell? (a1.add 2) = some (Value.slice p1 k1 k2)) ∧
    Calls P F.slices_Clone_api_Color #[Value.slice p1 k1 k2] w fun e1 w1 =>
    ∃ p2 : Option Addr,
    ∃ k3 : Nat,
    ∃ k4 : Nat,
    (e1 = Ending.returned (Value.slice p2 k3 k4)) ∧
    R (Ending.returned (Value.slice p2 k3 k4)) w1)
theorem calls_grid_Grid_api_Color_Cells (q1 : Option Addr) (w : World) (R : Ending → World → Prop) (h : vc_grid_Grid_api_Color_Cells q1 w R) : Calls P F.grid_Grid_api_Color_Cells #[.pointer q1] w R :=
  calls_of_vc (fn := Try.f30) (ac := ac_grid_Grid_api_Color_Cells) (args := [.pointer q1]) mixed Try.func30 (by kernel_rfl) (cast (by unfold vc_grid_Grid_api_Color_Cells FnVc; kernel_rfl) h)
/-- darkroom/darkroomref09.Pixel -/
def vc_ref09_Pixel (x1 : Int) (x2 : Int) (sa1 : Option Addr) (sl1 sc1 : Nat) (x3 : Int) (x4 : Int) (w : World) (R : Ending → World → Prop) : Prop :=
  ∀ k1 : Nat,
  (w.heap.size ≤ k1) →
  ∀ k2 : Nat,
  (w.heap.size ≤ k2) →
  idx (sa1) (sl1) (IntKind.i64.wrap (4 * IntKind.i64.wrap (IntKind.i64.wrap (x4 * x1) + x3))) (1) fun a1 =>
  ∀ w1 : World,
  (Locl ([k2, k1]) w w1) →
  ∃ n1 : Int,
  (w1.cell? a1 = some (Value.int IntKind.u16 n1)) ∧
  idx (sa1) (sl1) (IntKind.i64.wrap (IntKind.i64.wrap (4 * IntKind.i64.wrap (IntKind.i64.wrap (x4 * x1) + x3)) + 1)) (1) fun a2 =>
  ∃ n2 : Int,
  (w1.cell? a2 = some (Value.int IntKind.u16 n2)) ∧
  idx (sa1) (sl1) (IntKind.i64.wrap (IntKind.i64.wrap (4 * IntKind.i64.wrap (IntKind.i64.wrap (x4 * x1) + x3)) + 2)) (1) fun a3 =>
  ∃ n3 : Int,
  (w1.cell? a3 = some (Value.int IntKind.u16 n3)) ∧
  idx (sa1) (sl1) (IntKind.i64.wrap (IntKind.i64.wrap (4 * IntKind.i64.wrap (IntKind.i64.wrap (x4 * x1) + x3)) + 3)) (1) fun a4 =>
  ∃ n4 : Int,
  (w1.cell? a4 = some (Value.int IntKind.u16 n4)) ∧
  ∀ w2 : World,
  (Locl ([k2, k1]) w1 w2) →
  R (Ending.returned (Value.agg #[Value.int IntKind.u16 n1, Value.int IntKind.u16 n2, Value.int IntKind.u16 n3, Value.int IntKind.u16 n4])) w2
theorem calls_ref09_Pixel (x1 : Int) (x2 : Int) (sa1 : Option Addr) (sl1 sc1 : Nat) (x3 : Int) (x4 : Int) (w : World) (R : Ending → World → Prop) (h : vc_ref09_Pixel x1 x2 sa1 sl1 sc1 x3 x4 w R) : Calls P F.ref09_Pixel #[.agg #[.int .i64 x1, .int .i64 x2, .slice sa1 sl1 sc1], .int .i64 x3, .int .i64 x4] w R :=
  calls_of_vc (fn := Try.f31) (ac := ac_ref09_Pixel) (args := [.agg #[.int .i64 x1, .int .i64 x2, .slice sa1 sl1 sc1], .int .i64 x3, .int .i64 x4]) mixed Try.func31 (by kernel_rfl) (cast (by unfold vc_ref09_Pixel FnVc; kernel_rfl) h)
/-- darkroom/raster.Of -/
def vc_raster_Of (q1 : Option Addr) (w : World) (R : Ending → World → Prop) : Prop :=
  ∀ k1 : Nat,
  (w.heap.size ≤ k1) →
  brB (q1.isNone)
    (∀ w1 : World,
    (Locl ([k1]) w w1) →
    R (Ending.returned (Value.tuple #[Value.agg #[Value.int IntKind.i64 0, Value.int IntKind.i64 0, Value.slice none 0 0], Value.int IntKind.i64 1])) w1)
    (∀ w2 : World,
    (Locl ([k1]) w w2) →
    Calls P F.grid_Grid_api_Color_W #[Value.pointer q1] w2 fun e1 w3 =>
    ∃ n1 : Int,
    (e1 = Ending.returned (Value.int IntKind.i64 n1)) ∧
    (Keep ([k1]) w2 w3) ∧
    Calls P F.grid_Grid_api_Color_H #[Value.pointer q1] w3 fun e2 w4 =>
    ∃ n2 : Int,
    (e2 = Ending.returned (Value.int IntKind.i64 n2)) ∧
    (Keep ([k1]) w3 w4) ∧
    ∀ k2 : Nat,
    (w4.heap.size ≤ k2) →
    ∀ w5 : World,
    (Locl ([k2, k1]) w4 w5) →
    Calls P F.grid_Grid_api_Color_All #[Value.pointer q1] w5 fun e3 w6 =>
    ∃ y1 : FuncId,
    ∃ y2 : Array Value,
    ∃ y3 : Array Value,
    (e3 = Ending.returned (Value.func (Fn.func y1) y2 y3)) ∧
    (Keep ([k2, k1]) w5 w6) ∧
    ∀ k3 : Nat,
    ∀ w7 : World,
    (Rf w6 w7 k3) →
    ∀ I1 : List Value → World → Prop,
    ∀ Z1 : Exit → List Value → World → Prop,
    (∀ l1 : List Value,
    ∀ w8 : World,
    ∀ w9 : World,
    (I1 l1 w8) →
    (Keep ([k3, w6.heap.size, k2, k1]) w8 w9) →
    I1 l1 w9) →
    (∀ y4 : Exit,
    ∀ l2 : List Value,
    ∀ w10 : World,
    ∀ w11 : World,
    (Z1 y4 l2 w10) →
    (Keep ([k3, w6.heap.size, k2, k1]) w10 w11) →
    Z1 y4 l2 w11) →
    (I1 [Value.int IntKind.i64 n1, Value.int IntKind.i64 n2, Value.slice none 0 0] w7) →
    (∀ n3 : Int,
    ∀ n4 : Int,
    ∀ p1 : Option Addr,
    ∀ k4 : Nat,
    ∀ k5 : Nat,
    ∀ n5 : Int,
    ∀ n6 : Int,
    ∀ n7 : Int,
    ∀ n8 : Int,
    ∀ n9 : Int,
    ∀ n10 : Int,
    ∀ w12 : World,
    ∀ I2 : Ending → World → Prop,
    (I1 [Value.int IntKind.i64 n3, Value.int IntKind.i64 n4, Value.slice p1 k4 k5] w12) →
    (∀ y5 : Obj,
    ∀ y6 : Obj,
    ∀ k6 : Nat,
    (w12.heap.size ≤ k6) →
    ∀ w13 : World,
    (Locl ([k6, k2, k1]) w12 w13) →
    ∀ w14 : World,
    (Put k3 w13 w14) →
    ∀ k7 : Nat,
    (w14.heap.size ≤ k7) →
    ∀ w15 : World,
    (Locl ([k7, k6, k2, k1]) w14 w15) →
    appVC (w15) ([(29, k7, [Value.int IntKind.u16 n7, Value.int IntKind.u16 n8, Value.int IntKind.u16 n9, Value.int IntKind.u16 n10]), (6, k6, [Value.int IntKind.u16 n7, Value.int IntKind.u16 n8, Value.int IntKind.u16 n9, Value.int IntKind.u16 n10]), (4, k2, [Value.int IntKind.i64 n3, Value.int IntKind.i64 n4, Value.slice p1 k4 k5]), (2, k1, [Value.int IntKind.i64 0, Value.int IntKind.i64 0, Value.slice none 0 0])]) (p1) (k4) (k5) (4) (1) (2) (22) ([Value.int IntKind.u16 0]) ([Value.int IntKind.u16 n7, Value.int IntKind.u16 n8, Value.int IntKind.u16 n9, Value.int IntKind.u16 n10]) fun p2 k8 k9 w16 =>
    ∀ w17 : World,
    (Locl ([k7, k6, k2, k1]) w16 w17) →
    ∀ w18 : World,
    (Put k3 w17 w18) →
    (I1 [Value.int IntKind.i64 n3, Value.int IntKind.i64 n4, Value.slice p2 k8 k9] w18) →
    I2 (Ending.returned (Value.bool true)) w18) →
    YieldAt Fence.wide 0 P (k3) #[Value.agg #[Value.int IntKind.i64 n5, Value.int IntKind.i64 n6], Value.agg #[Value.int IntKind.u16 n7, Value.int IntKind.u16 n8, Value.int IntKind.u16 n9, Value.int IntKind.u16 n10]] (w12) I2) →
    callF P (Value.func (Fn.func y1) y2 y3) [Value.func (Fn.yield k3) #[] #[]] w7 fun e4 w19 =>
    ∃ v1 : Value,
    (e4 = Ending.returned v1) ∧
    ((∃ n11 : Int,
      ∃ n12 : Int,
      ∃ p3 : Option Addr,
      ∃ k10 : Nat,
      ∃ k11 : Nat,
      (I1 [Value.int IntKind.i64 n11, Value.int IntKind.i64 n12, Value.slice p3 k10 k11] w19) ∧
      ∀ w20 : World,
      (Put k3 w19 w20) →
      ∀ w21 : World,
      (Locl ([k2, k1]) w20 w21) →
      ∀ w22 : World,
      (Put (w6.heap.size) w21 w22) →
      R (Ending.returned (Value.tuple #[Value.agg #[Value.int IntKind.i64 n11, Value.int IntKind.i64 n12, Value.slice p3 k10 k11], Value.int IntKind.i64 0])) w22) ∨
    (False)))
theorem calls_raster_Of (q1 : Option Addr) (w : World) (R : Ending → World → Prop) (h : vc_raster_Of q1 w R) : Calls P F.raster_Of #[.pointer q1] w R :=
  calls_of_vc (fn := Try.f32) (ac := ac_raster_Of) (args := [.pointer q1]) mixed Try.func32 (by kernel_rfl) (cast (by unfold vc_raster_Of FnVc; kernel_rfl) h)
/-- darkroom/darkroomlaw09.spoil -/
def vc_law09_spoil (x1 : Int) (x2 : Int) (sa1 : Option Addr) (sl1 sc1 : Nat) (w : World) (R : Ending → World → Prop) : Prop :=
  ∀ k1 : Nat,
  (w.heap.size ≤ k1) →
  ∃ I1 : List Value → World → Prop,
  ∃ m1 : List Value → World → Nat,
  (∀ w1 : World,
    (Locl ([k1]) w w1) →
    I1 [Value.int IntKind.i64 0] w1) ∧
  ∀ n1 : Int,
  ∀ w2 : World,
  (I1 [Value.int IntKind.i64 n1] w2) →
  brB (decide (n1 < (↑sl1 : Int)))
    (idx (sa1) (sl1) (n1) (1) fun a1 =>
    ∃ n2 : Int,
    (w2.drew.cell? a1 = some (Value.int IntKind.u16 n2)) ∧
    idx (sa1) (sl1) (n1) (1) fun a2 =>
    (∃ v1 : Value,
      w2.drew.cell? a2 = some v1) ∧
    (w2.drew.frozen? a2 = false) ∧
    (¬a2.block ∈ [k1]) ∧
    (I1 [Value.int IntKind.i64 (IntKind.i64.wrap (n1 + 1))] (setCells w2.drew a2 [Value.int IntKind.u16 (IntKind.u16.wrap (n2 + 1))] 0)) ∧
    m1 [Value.int IntKind.i64 (IntKind.i64.wrap (n1 + 1))] (setCells w2.drew a2 [Value.int IntKind.u16 (IntKind.u16.wrap (n2 + 1))] 0) < m1 [Value.int IntKind.i64 n1] w2)
    (∃ I2 : List Value → World → Prop,
    ∃ m2 : List Value → World → Nat,
    (I2 [Value.int IntKind.i64 0, Value.int IntKind.i64 x1, Value.int IntKind.i64 x2, Value.slice sa1 sl1 sc1] w2) ∧
    ∀ n3 : Int,
    ∀ n4 : Int,
    ∀ n5 : Int,
    ∀ p1 : Option Addr,
    ∀ k2 : Nat,
    ∀ k3 : Nat,
    ∀ w3 : World,
    (I2 [Value.int IntKind.i64 n3, Value.int IntKind.i64 n4, Value.int IntKind.i64 n5, Value.slice p1 k2 k3] w3) →
    brB (decide (n3 < 20))
      (∀ k4 : Nat,
      (w3.heap.size ≤ k4) →
      ∀ w4 : World,
      (Locl ([k4, k1]) w3 w4) →
      appVC (w4) ([(27, k4, [Value.int IntKind.u16 5]), (1, k1, [Value.int IntKind.i64 n4, Value.int IntKind.i64 n5, Value.slice p1 k2 k3])]) (p1) (k2) (k3) (1) (1) (2) (22) ([Value.int IntKind.u16 0]) ([Value.int IntKind.u16 5]) fun p2 k5 k6 w5 =>
      ∀ w6 : World,
      (Locl ([k4, k1]) w5 w6) →
      (I2 [Value.int IntKind.i64 (IntKind.i64.wrap (n3 + 1)), Value.int IntKind.i64 n4, Value.int IntKind.i64 n5, Value.slice p2 k5 k6] w6) ∧
      m2 [Value.int IntKind.i64 (IntKind.i64.wrap (n3 + 1)), Value.int IntKind.i64 n4, Value.int IntKind.i64 n5, Value.slice p2 k5 k6] w6 < m2 [Value.int IntKind.i64 n3, Value.int IntKind.i64 n4, Value.int IntKind.i64 n5, Value.slice p1 k2 k3] w3)
      (R (Ending.returned (Value.tuple #[])) w3))
theorem calls_law09_spoil (x1 : Int) (x2 : Int) (sa1 : Option Addr) (sl1 sc1 : Nat) (w : World) (R : Ending → World → Prop) (h : vc_law09_spoil x1 x2 sa1 sl1 sc1 w R) : Calls P F.law09_spoil #[.agg #[.int .i64 x1, .int .i64 x2, .slice sa1 sl1 sc1]] w R :=
  calls_of_vc (fn := Try.f33) (ac := ac_law09_spoil) (args := [.agg #[.int .i64 x1, .int .i64 x2, .slice sa1 sl1 sc1]]) mixed Try.func33 (by kernel_rfl) (cast (by unfold vc_law09_spoil FnVc; kernel_rfl) h)
/-- (*darkroom/grid.Grid[darkroom/api.Color]).Set -/
def vc_grid_Grid_api_Color_Set (q1 : Option Addr) (x1 : Int) (x2 : Int) (x3 : Int) (x4 : Int) (x5 : Int) (x6 : Int) (w : World) (R : Ending → World → Prop) : Prop :=
  ∀ k1 : Nat,
  (w.heap.size ≤ k1) →
  ∀ w1 : World,
  (Locl ([k1]) w w1) →
  Calls P F.grid_Grid_api_Color_has #[Value.pointer q1, Value.int IntKind.i64 x1, Value.int IntKind.i64 x2] w1 fun e1 w2 =>
  ∃ c1 : Bool,
  (e1 = Ending.returned (Value.bool c1)) ∧
  (Keep ([k1]) w1 w2) ∧
  brB (!c1)
    (R (Ending.returned (Value.bool false)) w2)
    (nn (q1) fun a1 =>
    ∃ p1 : Option Addr,
    ∃ k2 : Nat,
    ∃ k3 : Nat,
    (w2.drew.cell? (a1.add 2) = some (Value.slice p1 k2 k3)) ∧
    nn (q1) fun a2 =>
    ∃ n1 : Int,
    (w2.drew.cell? a2 = some (Value.int IntKind.i64 n1)) ∧
    idx (p1) (k2) (IntKind.i64.wrap (IntKind.i64.wrap (x2 * n1) + x1)) (4) fun a3 =>
    (∃ v1 : Value,
      w2.drew.cell? a3 = some v1) ∧
    (w2.drew.frozen? a3 = false) ∧
    (∃ v2 : Value,
      w2.drew.cell? (a3.add 1) = some v2) ∧
    (w2.drew.frozen? (a3.add 1) = false) ∧
    (∃ v3 : Value,
      w2.drew.cell? (a3.add 2) = some v3) ∧
    (w2.drew.frozen? (a3.add 2) = false) ∧
    (∃ v4 : Value,
      w2.drew.cell? (a3.add 3) = some v4) ∧
    (w2.drew.frozen? (a3.add 3) = false) ∧
    (¬a3.block ∈ [k1]) ∧
    R (Ending.returned (Value.bool true)) (setCells w2.drew a3 [Value.int IntKind.u16 x3, Value.int IntKind.u16 x4, Value.int IntKind.u16 x5, Value.int IntKind.u16 x6] 0))
theorem calls_grid_Grid_api_Color_Set (q1 : Option Addr) (x1 : Int) (x2 : Int) (x3 : Int) (x4 : Int) (x5 : Int) (x6 : Int) (w : World) (R : Ending → World → Prop) (h : vc_grid_Grid_api_Color_Set q1 x1 x2 x3 x4 x5 x6 w R) : Calls P F.grid_Grid_api_Color_Set #[.pointer q1, .int .i64 x1, .int .i64 x2, .agg #[.int .u16 x3, .int .u16 x4, .int .u16 x5, .int .u16 x6]] w R :=
  calls_of_vc (fn := Try.f34) (ac := ac_grid_Grid_api_Color_Set) (args := [.pointer q1, .int .i64 x1, .int .i64 x2, .agg #[.int .u16 x3, .int .u16 x4, .int .u16 x5, .int .u16 x6]]) mixed Try.func34 (by kernel_rfl) (cast (by unfold vc_grid_Grid_api_Color_Set FnVc; kernel_rfl) h)
/-- darkroom/grid.New[darkroom/api.Color] -/
def vc_grid_New_api_Color (x1 : Int) (x2 : Int) (w : World) (R : Ending → World → Prop) : Prop :=
  Calls P F.grid_fits #[Value.int IntKind.i64 x1, Value.int IntKind.i64 x2] w fun e1 w1 =>
  ∃ c1 : Bool,
  (e1 = Ending.returned (Value.bool c1)) ∧
  brB (!c1)
    (R (Ending.returned (Value.tuple #[Value.pointer none, Value.int IntKind.i64 4])) w1)
    ((0 ≤ IntKind.i64.wrap (x1 * x2)) ∧
    (IntKind.i64.wrap (x1 * x2) ≤ IntKind.i64.wrap (x1 * x2)) ∧
    (IntKind.i64.wrap (x1 * x2) * 8 ≤ 281474976710656) ∧
    (IntKind.i64.wrap (x1 * x2) < 4611686018427387904) ∧
    ∀ k1 : Nat,
    ∀ w2 : World,
    (New w1 (Obj.cells (mkCells [Value.int IntKind.u16 0, Value.int IntKind.u16 0, Value.int IntKind.u16 0, Value.int IntKind.u16 0] (IntKind.i64.wrap (x1 * x2)).toNat) 24) k1 w2) →
    ∀ k2 : Nat,
    ∀ w3 : World,
    (New w2 (Obj.cells #[Value.int IntKind.i64 x1, Value.int IntKind.i64 x2, Value.slice (some { block := k1, off := 0 }) (IntKind.i64.wrap (x1 * x2)).toNat (IntKind.i64.wrap (x1 * x2)).toNat] 81) k2 w3) →
    R (Ending.returned (Value.tuple #[Value.pointer (some { block := k2, off := 0 }), Value.int IntKind.i64 0])) w3)
theorem calls_grid_New_api_Color (x1 : Int) (x2 : Int) (w : World) (R : Ending → World → Prop) (h : vc_grid_New_api_Color x1 x2 w R) : Calls P F.grid_New_api_Color #[.int .i64 x1, .int .i64 x2] w R :=
  calls_of_vc (fn := Try.f35) (ac := ac_grid_New_api_Color) (args := [.int .i64 x1, .int .i64 x2]) mixed Try.func35 (by kernel_rfl) (cast (by unfold vc_grid_New_api_Color FnVc; kernel_rfl) h)
/-- darkroom/grid.Map[darkroom/api.Color,darkroom/api.Color] -/
def vc_grid_Map_api_Color_api_Color (q1 : Option Addr) (va1 : Value) (w : World) (R : Ending → World → Prop) : Prop :=
  brB (q1.isNone)
    (R (Ending.returned (Value.pointer none)) w)
    (nn (q1) fun a1 =>
    ∃ n1 : Int,
    (w.drew.cell? a1 = some (Value.int IntKind.i64 n1)) ∧
    nn (q1) fun a2 =>
    ∃ n2 : Int,
    (w.drew.cell? (a2.add 1) = some (Value.int IntKind.i64 n2)) ∧
    nn (q1) fun a3 =>
    ∃ p1 : Option Addr,
    ∃ k1 : Nat,
    ∃ k2 : Nat,
    (w.drew.cell? (a3.add 2) = some (Value.slice p1 k1 k2)) ∧
    ((0 : Int) ≤ 0) ∧
    (0 ≤ (↑k1 : Int)) ∧
    ((↑k1 : Int) * 8 ≤ 281474976710656) ∧
    ((↑k1 : Int) < 4611686018427387904) ∧
    ∀ k3 : Nat,
    ∀ w1 : World,
    (New (w.drew) (Obj.cells (mkCells [Value.int IntKind.u16 0, Value.int IntKind.u16 0, Value.int IntKind.u16 0, Value.int IntKind.u16 0] k1) 24) k3 w1) →
    ∀ k4 : Nat,
    ∀ w2 : World,
    (New w1 (Obj.cells #[Value.int IntKind.i64 n1, Value.int IntKind.i64 n2, Value.slice (some { block := k3, off := 0 }) 0 k1] 81) k4 w2) →
    nn (q1) fun a4 =>
    ∃ p2 : Option Addr,
    ∃ k5 : Nat,
    ∃ k6 : Nat,
    (w2.cell? (a4.add 2) = some (Value.slice p2 k5 k6)) ∧
    ∃ I1 : List Value → World → Prop,
    ∃ m1 : List Value → World → Nat,
    (I1 [Value.int IntKind.i64 0] w2) ∧
    ∀ n3 : Int,
    ∀ w3 : World,
    (I1 [Value.int IntKind.i64 n3] w3) →
    brB (decide (n3 < (↑k5 : Int)))
      (idx (p2) (k5) (n3) (4) fun a5 =>
      ∃ n4 : Int,
      ∃ n5 : Int,
      ∃ n6 : Int,
      ∃ n7 : Int,
      (w3.cell? a5 = some (Value.int IntKind.u16 n4)) ∧
      (w3.cell? (a5.add 1) = some (Value.int IntKind.u16 n5)) ∧
      (w3.cell? (a5.add 2) = some (Value.int IntKind.u16 n6)) ∧
      (w3.cell? (a5.add 3) = some (Value.int IntKind.u16 n7)) ∧
      ∀ k7 : Nat,
      (w3.heap.size ≤ k7) →
      ∀ w4 : World,
      (Locl ([k7]) w3 w4) →
      ∃ p3 : Option Addr,
      ∃ k8 : Nat,
      ∃ k9 : Nat,
      (w4.cell? { block := k4, off := 2 } = some (Value.slice p3 k8 k9)) ∧
      callV P (va1) [Value.agg #[Value.int IntKind.u16 n4, Value.int IntKind.u16 n5, Value.int IntKind.u16 n6, Value.int IntKind.u16 n7]] w4 fun e1 w5 =>
      ∃ n8 : Int,
      ∃ n9 : Int,
      ∃ n10 : Int,
      ∃ n11 : Int,
      (e1 = Ending.returned (Value.agg #[Value.int IntKind.u16 n8, Value.int IntKind.u16 n9, Value.int IntKind.u16 n10, Value.int IntKind.u16 n11])) ∧
      (Keep ([k7]) w4 w5) ∧
      (Keeps w4 w5) ∧
      ∀ k10 : Nat,
      (w5.heap.size ≤ k10) →
      ∀ w6 : World,
      (Locl ([k10, k7]) w5 w6) →
      appVC (w6) ([(43, k10, [Value.int IntKind.u16 n8, Value.int IntKind.u16 n9, Value.int IntKind.u16 n10, Value.int IntKind.u16 n11]), (7, k7, [Value.int IntKind.u16 n4, Value.int IntKind.u16 n5, Value.int IntKind.u16 n6, Value.int IntKind.u16 n7])]) (p3) (k8) (k9) (1) (4) (8) (24) ([Value.int IntKind.u16 0, Value.int IntKind.u16 0, Value.int IntKind.u16 0, Value.int IntKind.u16 0]) ([Value.int IntKind.u16 n8, Value.int IntKind.u16 n9, Value.int IntKind.u16 n10, Value.int IntKind.u16 n11]) fun p4 k11 k12 w7 =>
      (∃ v1 : Value,
        w7.cell? { block := k4, off := 2 } = some v1) ∧
      (w7.frozen? { block := k4, off := 2 } = false) ∧
      (¬k4 ∈ [k10, k7]) ∧
      (I1 [Value.int IntKind.i64 (IntKind.i64.wrap (n3 + 1))] (setCells w7 { block := k4, off := 2 } [Value.slice p4 k11 k12] 0)) ∧
      m1 [Value.int IntKind.i64 (IntKind.i64.wrap (n3 + 1))] (setCells w7 { block := k4, off := 2 } [Value.slice p4 k11 k12] 0) < m1 [Value.int IntKind.i64 n3] w3)
      (R (Ending.returned (Value.pointer (some { block := k4, off := 0 }))) w3))
theorem calls_grid_Map_api_Color_api_Color (q1 : Option Addr) (va1 : Value) (w : World) (R : Ending → World → Prop) (h : vc_grid_Map_api_Color_api_Color q1 va1 w R) : Calls P F.grid_Map_api_Color_api_Color #[.pointer q1, va1] w R :=
  calls_of_vc (fn := Try.f36) (ac := ac_grid_Map_api_Color_api_Color) (args := [.pointer q1, va1]) mixed Try.func36 (by kernel_rfl) (cast (by unfold vc_grid_Map_api_Color_api_Color FnVc; kernel_rfl) h)
/-- darkroom/raster.Fill$1 -/
def vc_raster_Fill_fn1 (x1 : Int) (x2 : Int) (x3 : Int) (x4 : Int) (fr1 : Addr) (w : World) (R : Ending → World → Prop) : Prop :=
  ∀ k1 : Nat,
  (w.heap.size ≤ k1) →
  ∀ k2 : Nat,
  (w.heap.size ≤ k2) →
  ∀ w1 : World,
  (Locl ([k2, k1]) w w1) →
  ∃ n1 : Int,
  ∃ n2 : Int,
  ∃ n3 : Int,
  ∃ n4 : Int,
  (w1.cell? fr1 = some (Value.int IntKind.u16 n1)) ∧
  (w1.cell? (fr1.add 1) = some (Value.int IntKind.u16 n2)) ∧
  (w1.cell? (fr1.add 2) = some (Value.int IntKind.u16 n3)) ∧
  (w1.cell? (fr1.add 3) = some (Value.int IntKind.u16 n4)) ∧
  ∀ w2 : World,
  (Locl ([k2, k1]) w1 w2) →
  R (Ending.returned (Value.agg #[Value.int IntKind.u16 n1, Value.int IntKind.u16 n2, Value.int IntKind.u16 n3, Value.int IntKind.u16 n4])) w2
theorem calls_raster_Fill_fn1 (x1 : Int) (x2 : Int) (x3 : Int) (x4 : Int) (fr1 : Addr) (w : World) (R : Ending → World → Prop) (h : vc_raster_Fill_fn1 x1 x2 x3 x4 fr1 w R) : Calls P F.raster_Fill_fn1 #[.agg #[.int .u16 x1, .int .u16 x2, .int .u16 x3, .int .u16 x4], .pointer (some fr1)] w R :=
  calls_of_vc (fn := Try.f37) (ac := ac_raster_Fill_fn1) (args := [.agg #[.int .u16 x1, .int .u16 x2, .int .u16 x3, .int .u16 x4], .pointer (some fr1)]) mixed Try.func37 (by kernel_rfl) (cast (by unfold vc_raster_Fill_fn1 FnVc; kernel_rfl) h)
/-- darkroom/darkroomref07.Fits -/
def vc_ref07_Fits (x1 : Int) (x2 : Int) (w : World) (R : Ending → World → Prop) : Prop :=
  R (Ending.returned (Value.bool (decide (x1 ≥ 1) && decide (x2 ≥ 1) && decide (x1 ≤ 4096) && decide (x2 ≤ 4096) && decide (IntKind.i64.wrap (x1 * x2) ≤ 65536)))) w
theorem calls_ref07_Fits (x1 : Int) (x2 : Int) (w : World) (R : Ending → World → Prop) (h : vc_ref07_Fits x1 x2 w R) : Calls P F.ref07_Fits #[.int .i64 x1, .int .i64 x2] w R :=
  calls_of_vc (fn := Try.f38) (ac := ac_ref07_Fits) (args := [.int .i64 x1, .int .i64 x2]) mixed Try.func38 (by kernel_rfl) (cast (by unfold vc_ref07_Fits FnVc; kernel_rfl) h)
/-- darkroom/darkroomref09.Add -/
def vc_ref09_Add (x1 : Int) (x2 : Int) (sa1 : Option Addr) (sl1 sc1 : Nat) (x3 : Int) (x4 : Int) (x5 : Int) (x6 : Int) (w : World) (R : Ending → World → Prop) : Prop :=
  ∀ k1 : Nat,
  (w.heap.size ≤ k1) →
  ∀ k2 : Nat,
  (w.heap.size ≤ k2) →
  ∀ k3 : Nat,
  (w.heap.size ≤ k3) →
  ∀ k4 : Nat,
  (w.heap.size ≤ k4) →
  ∀ w1 : World,
  (Locl ([k4, k3, k2, k1]) w w1) →
  appVC (w1) ([(15, k4, [Value.int IntKind.u16 x3, Value.int IntKind.u16 x4, Value.int IntKind.u16 x5, Value.int IntKind.u16 x6]), (4, k3, [Value.int IntKind.i64 0, Value.int IntKind.i64 0, Value.slice none 0 0]), (3, k2, [Value.int IntKind.u16 x3, Value.int IntKind.u16 x4, Value.int IntKind.u16 x5, Value.int IntKind.u16 x6]), (2, k1, [Value.int IntKind.i64 x1, Value.int IntKind.i64 x2, Value.slice sa1 sl1 sc1])]) (sa1) (sl1) (sc1) (4) (1) (2) (22) ([Value.int IntKind.u16 0]) ([Value.int IntKind.u16 x3, Value.int IntKind.u16 x4, Value.int IntKind.u16 x5, Value.int IntKind.u16 x6]) fun p1 k5 k6 w2 =>
  ∀ w3 : World,
  (Locl ([k4, k3, k2, k1]) w2 w3) →
  R (Ending.returned (Value.agg #[Value.int IntKind.i64 x1, Value.int IntKind.i64 x2, Value.slice p1 k5 k6])) w3
theorem calls_ref09_Add (x1 : Int) (x2 : Int) (sa1 : Option Addr) (sl1 sc1 : Nat) (x3 : Int) (x4 : Int) (x5 : Int) (x6 : Int) (w : World) (R : Ending → World → Prop) (h : vc_ref09_Add x1 x2 sa1 sl1 sc1 x3 x4 x5 x6 w R) : Calls P F.ref09_Add #[.agg #[.int .i64 x1, .int .i64 x2, .slice sa1 sl1 sc1], .agg #[.int .u16 x3, .int .u16 x4, .int .u16 x5, .int .u16 x6]] w R :=
  calls_of_vc (fn := Try.f39) (ac := ac_ref09_Add) (args := [.agg #[.int .i64 x1, .int .i64 x2, .slice sa1 sl1 sc1], .agg #[.int .u16 x3, .int .u16 x4, .int .u16 x5, .int .u16 x6]]) mixed Try.func39 (by kernel_rfl) (cast (by unfold vc_ref09_Add FnVc; kernel_rfl) h)
/-- darkroom/raster.colour -/
def vc_raster_colour (sa1 : Option Addr) (sl1 sc1 : Nat) (w : World) (R : Ending → World → Prop) : Prop :=
  ∀ k1 : Nat,
  (w.heap.size ≤ k1) →
  idx (sa1) (sl1) (0) (1) fun a1 =>
  ∀ w1 : World,
  (Locl ([k1]) w w1) →
  ∃ n1 : Int,
  (w1.cell? a1 = some (Value.int IntKind.u16 n1)) ∧
  idx (sa1) (sl1) (1) (1) fun a2 =>
  ∃ n2 : Int,
  (w1.cell? a2 = some (Value.int IntKind.u16 n2)) ∧
  idx (sa1) (sl1) (2) (1) fun a3 =>
  ∃ n3 : Int,
  (w1.cell? a3 = some (Value.int IntKind.u16 n3)) ∧
  idx (sa1) (sl1) (3) (1) fun a4 =>
  ∃ n4 : Int,
  (w1.cell? a4 = some (Value.int IntKind.u16 n4)) ∧
  ∀ w2 : World,
  (Locl ([k1]) w1 w2) →
  R (Ending.returned (Value.agg #[Value.int IntKind.u16 n1, Value.int IntKind.u16 n2, Value.int IntKind.u16 n3, Value.int IntKind.u16 n4])) w2
theorem calls_raster_colour (sa1 : Option Addr) (sl1 sc1 : Nat) (w : World) (R : Ending → World → Prop) (h : vc_raster_colour sa1 sl1 sc1 w R) : Calls P F.raster_colour #[.slice sa1 sl1 sc1] w R :=
  calls_of_vc (fn := Try.f40) (ac := ac_raster_colour) (args := [.slice sa1 sl1 sc1]) mixed Try.func40 (by kernel_rfl) (cast (by unfold vc_raster_colour FnVc; kernel_rfl) h)
/-- darkroom/darkroomref09.Copy -/
def vc_ref09_Copy (x1 : Int) (x2 : Int) (sa1 : Option Addr) (sl1 sc1 : Nat) (w : World) (R : Ending → World → Prop) : Prop :=
  ∀ k1 : Nat,
  (w.heap.size ≤ k1) →
  ∀ k2 : Nat,
  (w.heap.size ≤ k2) →
  ∀ w1 : World,
  (Locl ([k2, k1]) w w1) →
  ∀ k3 : Nat,
  ∀ w2 : World,
  (New w1 (Obj.cells #[] 22) k3 w2) →
  ∃ l1 : List Value,
  (l1.length = sl1 * 1) ∧
  (oneAll l1 = true) ∧
  (CellsAre w2 sa1 l1) ∧
  appVC (w2) ([(2, k2, [Value.int IntKind.i64 0, Value.int IntKind.i64 0, Value.slice none 0 0]), (1, k1, [Value.int IntKind.i64 x1, Value.int IntKind.i64 x2, Value.slice sa1 sl1 sc1])]) (some { block := k3, off := 0 }) (0) (0) (sl1) (1) (2) (22) ([Value.int IntKind.u16 0]) (l1) fun p1 k4 k5 w3 =>
  ∀ w4 : World,
  (Locl ([k2, k1]) w3 w4) →
  R (Ending.returned (Value.agg #[Value.int IntKind.i64 x1, Value.int IntKind.i64 x2, Value.slice p1 k4 k5])) w4
theorem calls_ref09_Copy (x1 : Int) (x2 : Int) (sa1 : Option Addr) (sl1 sc1 : Nat) (w : World) (R : Ending → World → Prop) (h : vc_ref09_Copy x1 x2 sa1 sl1 sc1 w R) : Calls P F.ref09_Copy #[.agg #[.int .i64 x1, .int .i64 x2, .slice sa1 sl1 sc1]] w R :=
  calls_of_vc (fn := Try.f41) (ac := ac_ref09_Copy) (args := [.agg #[.int .i64 x1, .int .i64 x2, .slice sa1 sl1 sc1]]) mixed Try.func41 (by kernel_rfl) (cast (by unfold vc_ref09_Copy FnVc; kernel_rfl) h)
/-- darkroom/darkroomref09.Place -/
def vc_ref09_Place (sa1 : Option Addr) (sl1 sc1 : Nat) (x1 : Int) (x2 : Int) (x3 : Int) (x4 : Int) (w : World) (R : Ending → World → Prop) : Prop :=
  ∀ k1 : Nat,
  (w.heap.size ≤ k1) →
  ∃ I1 : List Value → World → Prop,
  ∃ m1 : List Value → World → Nat,
  (∀ w1 : World,
    (Locl ([k1]) w w1) →
    I1 [Value.int IntKind.i64 0] w1) ∧
  ∀ n1 : Int,
  ∀ w2 : World,
  (I1 [Value.int IntKind.i64 n1] w2) →
  brB (decide (n1 < (↑sl1 : Int)))
    (idx (sa1) (sl1) (n1) (4) fun a1 =>
    ∃ n2 : Int,
    ∃ n3 : Int,
    ∃ n4 : Int,
    ∃ n5 : Int,
    (w2.drew.cell? a1 = some (Value.int IntKind.u16 n2)) ∧
    (w2.drew.cell? (a1.add 1) = some (Value.int IntKind.u16 n3)) ∧
    (w2.drew.cell? (a1.add 2) = some (Value.int IntKind.u16 n4)) ∧
    (w2.drew.cell? (a1.add 3) = some (Value.int IntKind.u16 n5)) ∧
    brB (decide (n2 = x1) && (decide (n3 = x2) && (decide (n4 = x3) && (decide (n5 = x4) && true))))
      (R (Ending.returned (Value.int IntKind.i64 n1)) w2.drew)
      ((I1 [Value.int IntKind.i64 (IntKind.i64.wrap (n1 + 1))] w2.drew) ∧
      m1 [Value.int IntKind.i64 (IntKind.i64.wrap (n1 + 1))] w2.drew < m1 [Value.int IntKind.i64 n1] w2))
    (R (Ending.returned (Value.int IntKind.i64 (-1))) w2)
theorem calls_ref09_Place (sa1 : Option Addr) (sl1 sc1 : Nat) (x1 : Int) (x2 : Int) (x3 : Int) (x4 : Int) (w : World) (R : Ending → World → Prop) (h : vc_ref09_Place sa1 sl1 sc1 x1 x2 x3 x4 w R) : Calls P F.ref09_Place #[.slice sa1 sl1 sc1, .agg #[.int .u16 x1, .int .u16 x2, .int .u16 x3, .int .u16 x4]] w R :=
  calls_of_vc (fn := Try.f42) (ac := ac_ref09_Place) (args := [.slice sa1 sl1 sc1, .agg #[.int .u16 x1, .int .u16 x2, .int .u16 x3, .int .u16 x4]]) mixed Try.func42 (by kernel_rfl) (cast (by unfold vc_ref09_Place FnVc; kernel_rfl) h)
/-- darkroom/raster.pixel -/
def vc_raster_pixel (x1 : Int) (x2 : Int) (sa1 : Option Addr) (sl1 sc1 : Nat) (x3 : Int) (x4 : Int) (w : World) (R : Ending → World → Prop) : Prop :=
  ∀ k1 : Nat,
  (w.heap.size ≤ k1) →
  ∀ k2 : Nat,
  (w.heap.size ≤ k2) →
  slcc (sa1) (sc1) (IntKind.i64.wrap (4 * IntKind.i64.wrap (IntKind.i64.wrap (x4 * x1) + x3))) ((↑sl1 : Int)) (1) fun p1 k3 k4 =>
  ∀ w1 : World,
  (Locl ([k2, k1]) w w1) →
  Calls P F.raster_colour #[Value.slice p1 k3 k4] w1 fun e1 w2 =>
  ∃ n1 : Int,
  ∃ n2 : Int,
  ∃ n3 : Int,
  ∃ n4 : Int,
  (e1 = Ending.returned (Value.agg #[Value.int IntKind.u16 n1, Value.int IntKind.u16 n2, Value.int IntKind.u16 n3, Value.int IntKind.u16 n4])) ∧
  (Keep ([k2, k1]) w1 w2) ∧
  ∀ w3 : World,
  (Locl ([k2, k1]) w2 w3) →
  R (Ending.returned (Value.agg #[Value.int IntKind.u16 n1, Value.int IntKind.u16 n2, Value.int IntKind.u16 n3, Value.int IntKind.u16 n4])) w3
theorem calls_raster_pixel (x1 : Int) (x2 : Int) (sa1 : Option Addr) (sl1 sc1 : Nat) (x3 : Int) (x4 : Int) (w : World) (R : Ending → World → Prop) (h : vc_raster_pixel x1 x2 sa1 sl1 sc1 x3 x4 w R) : Calls P F.raster_pixel #[.agg #[.int .i64 x1, .int .i64 x2, .slice sa1 sl1 sc1], .int .i64 x3, .int .i64 x4] w R :=
  calls_of_vc (fn := Try.f43) (ac := ac_raster_pixel) (args := [.agg #[.int .i64 x1, .int .i64 x2, .slice sa1 sl1 sc1], .int .i64 x3, .int .i64 x4]) mixed Try.func43 (by kernel_rfl) (cast (by unfold vc_raster_pixel FnVc; kernel_rfl) h)
/-- slices.Equal[[]uint16,uint16] -/
def vc_slices_Equal_uint16 (sa1 : Option Addr) (sl1 sc1 : Nat) (sa2 : Option Addr) (sl2 sc2 : Nat) (w : World) (R : Ending → World → Prop) : Prop :=
  brB ((↑sl1 : Int) != (↑sl2 : Int))
    (R (Ending.returned (Value.bool false)) w)
    (∃ I1 : List Value → World → Prop,
    ∃ m1 : List Value → World → Nat,
    (I1 [Value.int IntKind.i64 0] w) ∧
    ∀ n1 : Int,
    ∀ w1 : World,
    (I1 [Value.int IntKind.i64 n1] w1) →
    brB (decide (n1 < (↑sl1 : Int)))
      (idx (sa1) (sl1) (n1) (1) fun a1 =>
      ∃ n2 : Int,
      (w1.drew.cell? a1 = some (Value.int IntKind.u16 n2)) ∧
      idx (sa2) (sl2) (n1) (1) fun a2 =>
      ∃ n3 : Int,
      (w1.drew.cell? a2 = some (Value.int IntKind.u16 n3)) ∧
      brB (n2 != n3)
        (R (Ending.returned (Value.bool false)) w1.drew)
        ((I1 [Value.int IntKind.i64 (IntKind.i64.wrap (n1 + 1))] w1.drew) ∧
        m1 [Value.int IntKind.i64 (IntKind.i64.wrap (n1 + 1))] w1.drew < m1 [Value.int IntKind.i64 n1] w1))
      (R (Ending.returned (Value.bool true)) w1))
theorem calls_slices_Equal_uint16 (sa1 : Option Addr) (sl1 sc1 : Nat) (sa2 : Option Addr) (sl2 sc2 : Nat) (w : World) (R : Ending → World → Prop) (h : vc_slices_Equal_uint16 sa1 sl1 sc1 sa2 sl2 sc2 w R) : Calls P F.slices_Equal_uint16 #[.slice sa1 sl1 sc1, .slice sa2 sl2 sc2] w R :=
  calls_of_vc (fn := Try.f44) (ac := ac_slices_Equal_uint16) (args := [.slice sa1 sl1 sc1, .slice sa2 sl2 sc2]) mixed Try.func44 (by kernel_rfl) (cast (by unfold vc_slices_Equal_uint16 FnVc; kernel_rfl) h)
/-- darkroom/darkroomref07.Within -/
def vc_ref07_Within (x1 : Int) (x2 : Int) (x3 : Int) (x4 : Int) (x5 : Int) (x6 : Int) (w : World) (R : Ending → World → Prop) : Prop :=
  R (Ending.returned (Value.bool (decide (x3 ≥ 1) && decide (x4 ≥ 1) && decide (x1 ≥ 0) && decide (x2 ≥ 0) && decide (x3 ≤ x5) && decide (x4 ≤ x6) && decide (x1 ≤ IntKind.i64.wrap (x5 - x3)) && decide (x2 ≤ IntKind.i64.wrap (x6 - x4))))) w
theorem calls_ref07_Within (x1 : Int) (x2 : Int) (x3 : Int) (x4 : Int) (x5 : Int) (x6 : Int) (w : World) (R : Ending → World → Prop) (h : vc_ref07_Within x1 x2 x3 x4 x5 x6 w R) : Calls P F.ref07_Within #[.int .i64 x1, .int .i64 x2, .int .i64 x3, .int .i64 x4, .int .i64 x5, .int .i64 x6] w R :=
  calls_of_vc (fn := Try.f45) (ac := ac_ref07_Within) (args := [.int .i64 x1, .int .i64 x2, .int .i64 x3, .int .i64 x4, .int .i64 x5, .int .i64 x6]) mixed Try.func45 (by kernel_rfl) (cast (by unfold vc_ref07_Within FnVc; kernel_rfl) h)
/-- slices.Clone[[]uint16,uint16] -/
def vc_slices_Clone_uint16 (sa1 : Option Addr) (sl1 sc1 : Nat) (w : World) (R : Ending → World → Prop) : Prop :=
  brB (sa1.isNone)
    (R (Ending.returned (Value.slice none 0 0)) w)
    (∀ k1 : Nat,
    ∀ w1 : World,
    (New w (Obj.cells #[] 22) k1 w1) →
    ∃ l1 : List Value,
    (l1.length = sl1 * 1) ∧
    (oneAll l1 = true) ∧
    (CellsAre w1 sa1 l1) ∧
    appVC (w1) ([]) (some { block := k1, off := 0 }) (0) (0) (sl1) (1) (2) (22) ([Value.int IntKind.u16 0]) (l1) fun p1 k2 k3 w2 =>
    R (Ending.returned (Value.slice p1 k2 k3)) w2)
theorem calls_slices_Clone_uint16 (sa1 : Option Addr) (sl1 sc1 : Nat) (w : World) (R : Ending → World → Prop) (h : vc_slices_Clone_uint16 sa1 sl1 sc1 w R) : Calls P F.slices_Clone_uint16 #[.slice sa1 sl1 sc1] w R :=
  calls_of_vc (fn := Try.f46) (ac := ac_slices_Clone_uint16) (args := [.slice sa1 sl1 sc1]) mixed Try.func46 (by kernel_rfl) (cast (by unfold vc_slices_Clone_uint16 FnVc; kernel_rfl) h)
/-- darkroom/darkroomref09.Put -/
def vc_ref09_Put (x1 : Int) (x2 : Int) (sa1 : Option Addr) (sl1 sc1 : Nat) (x3 : Int) (x4 : Int) (x5 : Int) (x6 : Int) (x7 : Int) (x8 : Int) (w : World) (R : Ending → World → Prop) : Prop :=
  ∀ k1 : Nat,
  (w.heap.size ≤ k1) →
  ∀ k2 : Nat,
  (w.heap.size ≤ k2) →
  idx (sa1) (sl1) (IntKind.i64.wrap (4 * IntKind.i64.wrap (IntKind.i64.wrap (x4 * x1) + x3))) (1) fun a1 =>
  ∀ w1 : World,
  (Locl ([k2, k1]) w w1) →
  (∃ v1 : Value,
    w1.cell? a1 = some v1) ∧
  (w1.frozen? a1 = false) ∧
  (¬a1.block ∈ [k2, k1]) ∧
  idx (sa1) (sl1) (IntKind.i64.wrap (IntKind.i64.wrap (4 * IntKind.i64.wrap (IntKind.i64.wrap (x4 * x1) + x3)) + 1)) (1) fun a2 =>
  (∃ v2 : Value,
    (setCells w1 a1 [Value.int IntKind.u16 x5] 0).cell? a2 = some v2) ∧
  ((setCells w1 a1 [Value.int IntKind.u16 x5] 0).frozen? a2 = false) ∧
  (¬a2.block ∈ [k2, k1]) ∧
  idx (sa1) (sl1) (IntKind.i64.wrap (IntKind.i64.wrap (4 * IntKind.i64.wrap (IntKind.i64.wrap (x4 * x1) + x3)) + 2)) (1) fun a3 =>
  (∃ v3 : Value,
    (setCells (setCells w1 a1 [Value.int IntKind.u16 x5] 0) a2 [Value.int IntKind.u16 x6] 0).cell? a3 = some v3) ∧
  ((setCells (setCells w1 a1 [Value.int IntKind.u16 x5] 0) a2 [Value.int IntKind.u16 x6] 0).frozen? a3 = false) ∧
  (¬a3.block ∈ [k2, k1]) ∧
  idx (sa1) (sl1) (IntKind.i64.wrap (IntKind.i64.wrap (4 * IntKind.i64.wrap (IntKind.i64.wrap (x4 * x1) + x3)) + 3)) (1) fun a4 =>
  (∃ v4 : Value,
    (setCells (setCells (setCells w1 a1 [Value.int IntKind.u16 x5] 0) a2 [Value.int IntKind.u16 x6] 0) a3 [Value.int IntKind.u16 x7] 0).cell? a4 = some v4) ∧
  ((setCells (setCells (setCells w1 a1 [Value.int IntKind.u16 x5] 0) a2 [Value.int IntKind.u16 x6] 0) a3 [Value.int IntKind.u16 x7] 0).frozen? a4 = false) ∧
  (¬a4.block ∈ [k2, k1]) ∧
  R (Ending.returned (Value.tuple #[])) (setCells (setCells (setCells (setCells w1 a1 [Value.int IntKind.u16 x5] 0) a2 [Value.int IntKind.u16 x6] 0) a3 [Value.int IntKind.u16 x7] 0) a4 [Value.int IntKind.u16 x8] 0)
theorem calls_ref09_Put (x1 : Int) (x2 : Int) (sa1 : Option Addr) (sl1 sc1 : Nat) (x3 : Int) (x4 : Int) (x5 : Int) (x6 : Int) (x7 : Int) (x8 : Int) (w : World) (R : Ending → World → Prop) (h : vc_ref09_Put x1 x2 sa1 sl1 sc1 x3 x4 x5 x6 x7 x8 w R) : Calls P F.ref09_Put #[.agg #[.int .i64 x1, .int .i64 x2, .slice sa1 sl1 sc1], .int .i64 x3, .int .i64 x4, .agg #[.int .u16 x5, .int .u16 x6, .int .u16 x7, .int .u16 x8]] w R :=
  calls_of_vc (fn := Try.f47) (ac := ac_ref09_Put) (args := [.agg #[.int .i64 x1, .int .i64 x2, .slice sa1 sl1 sc1], .int .i64 x3, .int .i64 x4, .agg #[.int .u16 x5, .int .u16 x6, .int .u16 x7, .int .u16 x8]]) mixed Try.func47 (by kernel_rfl) (cast (by unfold vc_ref09_Put FnVc; kernel_rfl) h)
/-- slices.Chunk[[]uint16,uint16] -/
def vc_slices_Chunk_uint16 (sa1 : Option Addr) (sl1 sc1 : Nat) (x1 : Int) (w : World) (R : Ending → World → Prop) : Prop :=
  ∀ k1 : Nat,
  ∀ w1 : World,
  (New w (Obj.cells #[Value.slice sa1 sl1 sc1] 26) k1 w1) →
  ∀ k2 : Nat,
  ∀ w2 : World,
  (New w1 (Obj.cells #[Value.int IntKind.i64 x1] 3) k2 w2) →
  ∃ n1 : Int,
  (w2.cell? { block := k2, off := 0 } = some (Value.int IntKind.i64 n1)) ∧
  brB (decide (n1 < 1))
    (False)
    (R (Ending.returned (Value.func (Fn.func 54) #[] #[Value.pointer (some { block := k1, off := 0 }), Value.pointer (some { block := k2, off := 0 })])) w2)
theorem calls_slices_Chunk_uint16 (sa1 : Option Addr) (sl1 sc1 : Nat) (x1 : Int) (w : World) (R : Ending → World → Prop) (h : vc_slices_Chunk_uint16 sa1 sl1 sc1 x1 w R) : Calls P F.slices_Chunk_uint16 #[.slice sa1 sl1 sc1, .int .i64 x1] w R :=
  calls_of_vc (fn := Try.f48) (ac := ac_slices_Chunk_uint16) (args := [.slice sa1 sl1 sc1, .int .i64 x1]) mixed Try.func48 (by kernel_rfl) (cast (by unfold vc_slices_Chunk_uint16 FnVc; kernel_rfl) h)
/-- darkroom/grid.Of[darkroom/api.Color] -/
def vc_grid_Of_api_Color (x1 : Int) (x2 : Int) (sa1 : Option Addr) (sl1 sc1 : Nat) (w : World) (R : Ending → World → Prop) : Prop :=
  Calls P F.grid_fits #[Value.int IntKind.i64 x1, Value.int IntKind.i64 x2] w fun e1 w1 =>
  ∃ c1 : Bool,
  (e1 = Ending.returned (Value.bool c1)) ∧
  brB (!c1)
    (R (Ending.returned (Value.tuple #[Value.pointer none, Value.int IntKind.i64 4])) w1)
    (brB ((↑sl1 : Int) != IntKind.i64.wrap (x1 * x2))
      (R (Ending.returned (Value.tuple #[Value.pointer none, Value.int IntKind.i64 3])) w1)
      (Calls P F.slices_Clone_api_Color #[Value.slice sa1 sl1 sc1] w1 fun e2 w2 =>
      ∃ p1 : Option Addr,
      ∃ k1 : Nat,
      ∃ k2 : Nat,
      (e2 = Ending.returned (Value.slice p1 k1 k2)) ∧
      ∀ k3 : Nat,
      ∀ w3 : World,
      (New w2 (Obj.cells #[Value.int IntKind.i64 x1, Value.int IntKind.i64 x2, Value.slice p1 k1 k2] 81) k3 w3) →
      R (Ending.returned (Value.tuple #[Value.pointer (some { block := k3, off := 0 }), Value.int IntKind.i64 0])) w3))
theorem calls_grid_Of_api_Color (x1 : Int) (x2 : Int) (sa1 : Option Addr) (sl1 sc1 : Nat) (w : World) (R : Ending → World → Prop) (h : vc_grid_Of_api_Color x1 x2 sa1 sl1 sc1 w R) : Calls P F.grid_Of_api_Color #[.int .i64 x1, .int .i64 x2, .slice sa1 sl1 sc1] w R :=
  calls_of_vc (fn := Try.f49) (ac := ac_grid_Of_api_Color) (args := [.int .i64 x1, .int .i64 x2, .slice sa1 sl1 sc1]) mixed Try.func49 (by kernel_rfl) (cast (by unfold vc_grid_Of_api_Color FnVc; kernel_rfl) h)
/-- slices.Clone[[]darkroom/api.Color,darkroom/api.Color] -/
def vc_slices_Clone_api_Color (sa1 : Option Addr) (sl1 sc1 : Nat) (w : World) (R : Ending → World → Prop) : Prop :=
  brB (sa1.isNone)
    (R (Ending.returned (Value.slice none 0 0)) w)
    (∀ k1 : Nat,
    ∀ w1 : World,
    (New w (Obj.cells #[] 24) k1 w1) →
    ∃ l1 : List Value,
    (l1.length = sl1 * 4) ∧
    (oneAll l1 = true) ∧
    (CellsAre w1 sa1 l1) ∧
    appVC (w1) ([]) (some { block := k1, off := 0 }) (0) (0) (sl1) (4) (8) (24) ([Value.int IntKind.u16 0, Value.int IntKind.u16 0, Value.int IntKind.u16 0, Value.int IntKind.u16 0]) (l1) fun p1 k2 k3 w2 =>
    R (Ending.returned (Value.slice p1 k2 k3)) w2)
theorem calls_slices_Clone_api_Color (sa1 : Option Addr) (sl1 sc1 : Nat) (w : World) (R : Ending → World → Prop) (h : vc_slices_Clone_api_Color sa1 sl1 sc1 w R) : Calls P F.slices_Clone_api_Color #[.slice sa1 sl1 sc1] w R :=
  calls_of_vc (fn := Try.f50) (ac := ac_slices_Clone_api_Color) (args := [.slice sa1 sl1 sc1]) mixed Try.func50 (by kernel_rfl) (cast (by unfold vc_slices_Clone_api_Color FnVc; kernel_rfl) h)
/-- (*darkroom/grid.Grid[darkroom/api.Color]).All -/
def vc_grid_Grid_api_Color_All (q1 : Option Addr) (w : World) (R : Ending → World → Prop) : Prop :=
  ∀ k1 : Nat,
  ∀ w1 : World,
  (New w (Obj.cells #[Value.pointer q1] 54) k1 w1) →
  R (Ending.returned (Value.func (Fn.func 55) #[] #[Value.pointer (some { block := k1, off := 0 })])) w1
theorem calls_grid_Grid_api_Color_All (q1 : Option Addr) (w : World) (R : Ending → World → Prop) (h : vc_grid_Grid_api_Color_All q1 w R) : Calls P F.grid_Grid_api_Color_All #[.pointer q1] w R :=
  calls_of_vc (fn := Try.f51) (ac := ac_grid_Grid_api_Color_All) (args := [.pointer q1]) mixed Try.func51 (by kernel_rfl) (cast (by unfold vc_grid_Grid_api_Color_All FnVc; kernel_rfl) h)
/-- (*darkroom/grid.Grid[darkroom/api.Color]).has -/
def vc_grid_Grid_api_Color_has (q1 : Option Addr) (x1 : Int) (x2 : Int) (w : World) (R : Ending → World → Prop) : Prop :=
  brB (!q1.isNone && decide (x1 ≥ 0) && decide (x2 ≥ 0))
    (nn (q1) fun a1 =>
    ∃ n1 : Int,
    (w.cell? a1 = some (Value.int IntKind.i64 n1)) ∧
    brB (decide (x1 < n1))
      (nn (q1) fun a2 =>
      ∃ n2 : Int,
      (w.cell? (a2.add 1) = some (Value.int IntKind.i64 n2)) ∧
      R (Ending.returned (Value.bool (decide (x2 < n2)))) w)
      (R (Ending.returned (Value.bool false)) w))
    (R (Ending.returned (Value.bool false)) w)
theorem calls_grid_Grid_api_Color_has (q1 : Option Addr) (x1 : Int) (x2 : Int) (w : World) (R : Ending → World → Prop) (h : vc_grid_Grid_api_Color_has q1 x1 x2 w R) : Calls P F.grid_Grid_api_Color_has #[.pointer q1, .int .i64 x1, .int .i64 x2] w R :=
  calls_of_vc (fn := Try.f52) (ac := ac_grid_Grid_api_Color_has) (args := [.pointer q1, .int .i64 x1, .int .i64 x2]) mixed Try.func52 (by kernel_rfl) (cast (by unfold vc_grid_Grid_api_Color_has FnVc; kernel_rfl) h)
/-- darkroom/grid.fits -/
def vc_grid_fits (x1 : Int) (x2 : Int) (w : World) (R : Ending → World → Prop) : Prop :=
  R (Ending.returned (Value.bool (decide (min x1 x2 ≥ 1) && decide (max x1 x2 ≤ 4096) && decide (IntKind.i64.wrap (x1 * x2) ≤ 65536)))) w
theorem calls_grid_fits (x1 : Int) (x2 : Int) (w : World) (R : Ending → World → Prop) (h : vc_grid_fits x1 x2 w R) : Calls P F.grid_fits #[.int .i64 x1, .int .i64 x2] w R :=
  calls_of_vc (fn := Try.f53) (ac := ac_grid_fits) (args := [.int .i64 x1, .int .i64 x2]) mixed Try.func53 (by kernel_rfl) (cast (by unfold vc_grid_fits FnVc; kernel_rfl) h)
/-- slices.Chunk[[]uint16,uint16]$1 -/
def vc_slices_Chunk_uint16_fn1 (yl1 : Nat) (fr1 : Addr) (fr2 : Addr) (w : World) (R : Ending → World → Prop) : Prop :=
  ∃ I1 : List Value → World → Prop,
  ∃ m1 : List Value → World → Nat,
  (I1 [Value.int IntKind.i64 0] w) ∧
  ∀ n1 : Int,
  ∀ w1 : World,
  (I1 [Value.int IntKind.i64 n1] w1) →
  ∃ p1 : Option Addr,
  ∃ k1 : Nat,
  ∃ k2 : Nat,
  (w1.cell? fr1 = some (Value.slice p1 k1 k2)) ∧
  brB (decide (n1 < (↑k1 : Int)))
    (∃ n2 : Int,
    (w1.drew.cell? fr2 = some (Value.int IntKind.i64 n2)) ∧
    ∃ p2 : Option Addr,
    ∃ k3 : Nat,
    ∃ k4 : Nat,
    (w1.drew.cell? fr1 = some (Value.slice p2 k3 k4)) ∧
    slcc (p2) (k4) (n1) ((↑k3 : Int)) (1) fun p3 k5 k6 =>
    ∃ p4 : Option Addr,
    ∃ k7 : Nat,
    ∃ k8 : Nat,
    (w1.drew.cell? fr1 = some (Value.slice p4 k7 k8)) ∧
    (0 ≤ IntKind.i64.wrap (n1 + min n2 (↑k5 : Int))) ∧
    (IntKind.i64.wrap (n1 + min n2 (↑k5 : Int)) ≤ (↑k8 : Int)) ∧
    slcc (p4) ((IntKind.i64.wrap (n1 + min n2 (↑k5 : Int))).toNat) (n1) (IntKind.i64.wrap (n1 + min n2 (↑k5 : Int))) (1) fun p5 k9 k10 =>
    YieldAt Fence.wide 0 P (yl1) #[Value.slice p5 k9 k10] (w1.drew) fun e1 w2 =>
    ∃ c1 : Bool,
    (e1 = Ending.returned (Value.bool c1)) ∧
    brB (!c1)
      (R (Ending.returned (Value.tuple #[])) w2)
      (∃ n3 : Int,
      (w2.cell? fr2 = some (Value.int IntKind.i64 n3)) ∧
      (I1 [Value.int IntKind.i64 (IntKind.i64.wrap (n1 + n3))] w2) ∧
      m1 [Value.int IntKind.i64 (IntKind.i64.wrap (n1 + n3))] w2 < m1 [Value.int IntKind.i64 n1] w1))
    (R (Ending.returned (Value.tuple #[])) w1)
theorem calls_slices_Chunk_uint16_fn1 (yl1 : Nat) (fr1 : Addr) (fr2 : Addr) (w : World) (R : Ending → World → Prop) (h : vc_slices_Chunk_uint16_fn1 yl1 fr1 fr2 w R) : Calls P F.slices_Chunk_uint16_fn1 #[.func (.yield yl1) #[] #[], .pointer (some fr1), .pointer (some fr2)] w R :=
  calls_of_vc (fn := Try.f54) (ac := ac_slices_Chunk_uint16_fn1) (args := [.func (.yield yl1) #[] #[], .pointer (some fr1), .pointer (some fr2)]) mixed Try.func54 (by kernel_rfl) (cast (by unfold vc_slices_Chunk_uint16_fn1 FnVc; kernel_rfl) h)
/-- (*darkroom/grid.Grid[darkroom/api.Color]).All$1 -/
def vc_grid_Grid_api_Color_All_fn1 (yl1 : Nat) (fr1 : Addr) (w : World) (R : Ending → World → Prop) : Prop :=
  ∃ p1 : Option Addr,
  (w.drew.cell? fr1 = some (Value.pointer p1)) ∧
  ∃ p2 : Option Addr,
  (w.drew.cell? fr1 = some (Value.pointer p2)) ∧
  Calls P F.grid_Grid_api_Color_W #[Value.pointer p1] (w.drew) fun e1 w1 =>
  ∃ n1 : Int,
  (e1 = Ending.returned (Value.int IntKind.i64 n1)) ∧
  (Keeps (w.drew) w1) ∧
  Calls P F.grid_Grid_api_Color_H #[Value.pointer p2] w1 fun e2 w2 =>
  ∃ n2 : Int,
  (e2 = Ending.returned (Value.int IntKind.i64 n2)) ∧
  ∃ I1 : List Value → World → Prop,
  ∃ m1 : List Value → World → Nat,
  (I1 [Value.int IntKind.i64 0] w2) ∧
  ∀ n3 : Int,
  ∀ w3 : World,
  (I1 [Value.int IntKind.i64 n3] w3) →
  brB (decide (n3 < IntKind.i64.wrap (n1 * n2)))
    (∃ p3 : Option Addr,
    (w3.drew.cell? fr1 = some (Value.pointer p3)) ∧
    nn (p3) fun a1 =>
    ∃ n4 : Int,
    (w3.drew.cell? a1 = some (Value.int IntKind.i64 n4)) ∧
    (n4 ≠ 0) ∧
    ∃ p4 : Option Addr,
    (w3.drew.cell? fr1 = some (Value.pointer p4)) ∧
    nn (p4) fun a2 =>
    ∃ n5 : Int,
    (w3.drew.cell? a2 = some (Value.int IntKind.i64 n5)) ∧
    (n5 ≠ 0) ∧
    ∃ p5 : Option Addr,
    (w3.drew.cell? fr1 = some (Value.pointer p5)) ∧
    nn (p5) fun a3 =>
    ∃ p6 : Option Addr,
    ∃ k1 : Nat,
    ∃ k2 : Nat,
    (w3.drew.cell? (a3.add 2) = some (Value.slice p6 k1 k2)) ∧
    idx (p6) (k1) (n3) (4) fun a4 =>
    ∃ n6 : Int,
    ∃ n7 : Int,
    ∃ n8 : Int,
    ∃ n9 : Int,
    (w3.drew.cell? a4 = some (Value.int IntKind.u16 n6)) ∧
    (w3.drew.cell? (a4.add 1) = some (Value.int IntKind.u16 n7)) ∧
    (w3.drew.cell? (a4.add 2) = some (Value.int IntKind.u16 n8)) ∧
    (w3.drew.cell? (a4.add 3) = some (Value.int IntKind.u16 n9)) ∧
    YieldAt Fence.wide 0 P (yl1) #[Value.agg #[Value.int IntKind.i64 (divZ BinOp.rem IntKind.i64 n3 n4), Value.int IntKind.i64 (divZ BinOp.quo IntKind.i64 n3 n5)], Value.agg #[Value.int IntKind.u16 n6, Value.int IntKind.u16 n7, Value.int IntKind.u16 n8, Value.int IntKind.u16 n9]] (w3.drew) fun e3 w4 =>
    ∃ c1 : Bool,
    (e3 = Ending.returned (Value.bool c1)) ∧
    brB (!c1)
      (R (Ending.returned (Value.tuple #[])) w4)
      ((I1 [Value.int IntKind.i64 (IntKind.i64.wrap (n3 + 1))] w4) ∧
      m1 [Value.int IntKind.i64 (IntKind.i64.wrap (n3 + 1))] w4 < m1 [Value.int IntKind.i64 n3] w3))
    (R (Ending.returned (Value.tuple #[])) w3)
theorem calls_grid_Grid_api_Color_All_fn1 (yl1 : Nat) (fr1 : Addr) (w : World) (R : Ending → World → Prop) (h : vc_grid_Grid_api_Color_All_fn1 yl1 fr1 w R) : Calls P F.grid_Grid_api_Color_All_fn1 #[.func (.yield yl1) #[] #[], .pointer (some fr1)] w R :=
  calls_of_vc (fn := Try.f55) (ac := ac_grid_Grid_api_Color_All_fn1) (args := [.func (.yield yl1) #[] #[], .pointer (some fr1)]) mixed Try.func55 (by kernel_rfl) (cast (by unfold vc_grid_Grid_api_Color_All_fn1 FnVc; kernel_rfl) h)
end Go.Proofs.Ytcfcholodhppmaa
