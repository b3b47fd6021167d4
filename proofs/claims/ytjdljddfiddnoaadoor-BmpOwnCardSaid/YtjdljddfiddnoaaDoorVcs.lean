/- For each function the condition that its code asks, written out (by a program of ours), and the theorem that it suffices: the kernel holds both against the code. -/
import Derived.Test.YtjdljddfiddnoaaDoorFns
namespace Go.Proofs.YtjdljddfiddnoaaDoor
open Go Go.Vc
set_option maxRecDepth 100000
set_option linter.unusedVariables false
/-- darkroom/darkroomlaw11.BmpReads -/
def vc_law11_BmpReads (sa1 : Option Addr) (sl1 sc1 : Nat) (x1 : Int) (w : World) (R : Ending → World → Prop) : Prop :=
  Calls P F.law11_wakes #[] w fun e1 w1 =>
  ∃ c1 : Bool,
  (e1 = Ending.returned (Value.bool c1)) ∧
  brB (!c1)
    (R (Ending.returned (Value.bool false)) w1)
    (Calls P F.law11_own #[Value.slice sa1 sl1 sc1] w1 fun e2 w2 =>
    ∃ p1 : Option Addr,
    ∃ k1 : Nat,
    ∃ k2 : Nat,
    (e2 = Ending.returned (Value.slice p1 k1 k2)) ∧
    Calls P F.bmp_Decode #[Value.slice p1 k1 k2, Value.int IntKind.i64 x1] w2 fun e3 w3 =>
    ∃ n1 : Int,
    ∃ n2 : Int,
    ∃ p2 : Option Addr,
    ∃ k3 : Nat,
    ∃ k4 : Nat,
    ∃ n3 : Int,
    (e3 = Ending.returned (Value.tuple #[Value.agg #[Value.int IntKind.i64 n1, Value.int IntKind.i64 n2, Value.slice p2 k3 k4], Value.int IntKind.i64 n3])) ∧
    ∀ k5 : Nat,
    (w3.heap.size ≤ k5) →
    ∀ w4 : World,
    (Locl ([k5]) w3 w4) →
    Calls P F.ref11_Decode #[Value.slice sa1 sl1 sc1, Value.int IntKind.i64 x1] w4 fun e4 w5 =>
    ∃ n4 : Int,
    ∃ n5 : Int,
    ∃ p3 : Option Addr,
    ∃ k6 : Nat,
    ∃ k7 : Nat,
    ∃ n6 : Int,
    (e4 = Ending.returned (Value.tuple #[Value.agg #[Value.int IntKind.i64 n4, Value.int IntKind.i64 n5, Value.slice p3 k6 k7], Value.int IntKind.i64 n6])) ∧
    (Keep ([k5]) w4 w5) ∧
    ∀ k8 : Nat,
    (w5.heap.size ≤ k8) →
    ∀ w6 : World,
    (Locl ([k8, k5]) w5 w6) →
    Calls P F.ref09_Same #[Value.agg #[Value.int IntKind.i64 n1, Value.int IntKind.i64 n2, Value.slice p2 k3 k4], Value.agg #[Value.int IntKind.i64 n4, Value.int IntKind.i64 n5, Value.slice p3 k6 k7]] w6 fun e5 w7 =>
    ∃ c2 : Bool,
    (e5 = Ending.returned (Value.bool c2)) ∧
    (Keep ([k8, k5]) w6 w7) ∧
    R (Ending.returned (Value.bool (c2 && n3 == n6))) w7)
theorem calls_law11_BmpReads (sa1 : Option Addr) (sl1 sc1 : Nat) (x1 : Int) (w : World) (R : Ending → World → Prop) (h : vc_law11_BmpReads sa1 sl1 sc1 x1 w R) : Calls P F.law11_BmpReads #[.slice sa1 sl1 sc1, .int .i64 x1] w R :=
  calls_of_vc (fn := Tryd.f3) (ac := ac_law11_BmpReads) (args := [.slice sa1 sl1 sc1, .int .i64 x1]) mixed Tryd.func3 (by kernel_rfl) (cast (by unfold vc_law11_BmpReads FnVc; kernel_rfl) h)
/-- darkroom/darkroomlaw11.BmpWrites -/
def vc_law11_BmpWrites (x1 : Int) (x2 : Int) (sa1 : Option Addr) (sl1 sc1 : Nat) (b1 : Bool) (w : World) (R : Ending → World → Prop) : Prop :=
  ∀ k1 : Nat,
  (w.heap.size ≤ k1) →
  ∀ w1 : World,
  (Locl ([k1]) w w1) →
  Calls P F.law11_wakes #[] w1 fun e1 w2 =>
  ∃ c1 : Bool,
  (e1 = Ending.returned (Value.bool c1)) ∧
  (Keep ([k1]) w1 w2) ∧
  brB (!c1)
    (R (Ending.returned (Value.bool false)) w2)
    (Calls P F.ref09_Copy #[Value.agg #[Value.int IntKind.i64 x1, Value.int IntKind.i64 x2, Value.slice sa1 sl1 sc1]] w2 fun e2 w3 =>
    ∃ n1 : Int,
    ∃ n2 : Int,
    ∃ p1 : Option Addr,
    ∃ k2 : Nat,
    ∃ k3 : Nat,
    (e2 = Ending.returned (Value.agg #[Value.int IntKind.i64 n1, Value.int IntKind.i64 n2, Value.slice p1 k2 k3])) ∧
    (Keep ([k1]) w2 w3) ∧
    Calls P F.bmp_Encode #[Value.agg #[Value.int IntKind.i64 n1, Value.int IntKind.i64 n2, Value.slice p1 k2 k3], Value.bool b1] w3 fun e3 w4 =>
    ∃ p2 : Option Addr,
    ∃ k4 : Nat,
    ∃ k5 : Nat,
    ∃ n3 : Int,
    (e3 = Ending.returned (Value.tuple #[Value.slice p2 k4 k5, Value.int IntKind.i64 n3])) ∧
    (Keep ([k1]) w3 w4) ∧
    Calls P F.ref11_Encode #[Value.agg #[Value.int IntKind.i64 x1, Value.int IntKind.i64 x2, Value.slice sa1 sl1 sc1], Value.bool b1] w4 fun e4 w5 =>
    ∃ p3 : Option Addr,
    ∃ k6 : Nat,
    ∃ k7 : Nat,
    ∃ n4 : Int,
    (e4 = Ending.returned (Value.tuple #[Value.slice p3 k6 k7, Value.int IntKind.i64 n4])) ∧
    (Keep ([k1]) w4 w5) ∧
    Calls P F.ref01_Same #[Value.slice p2 k4 k5, Value.slice p3 k6 k7] w5 fun e5 w6 =>
    ∃ c2 : Bool,
    (e5 = Ending.returned (Value.bool c2)) ∧
    (Keep ([k1]) w5 w6) ∧
    R (Ending.returned (Value.bool (c2 && n3 == n4))) w6)
theorem calls_law11_BmpWrites (x1 : Int) (x2 : Int) (sa1 : Option Addr) (sl1 sc1 : Nat) (b1 : Bool) (w : World) (R : Ending → World → Prop) (h : vc_law11_BmpWrites x1 x2 sa1 sl1 sc1 b1 w R) : Calls P F.law11_BmpWrites #[.agg #[.int .i64 x1, .int .i64 x2, .slice sa1 sl1 sc1], .bool b1] w R :=
  calls_of_vc (fn := Tryd.f4) (ac := ac_law11_BmpWrites) (args := [.agg #[.int .i64 x1, .int .i64 x2, .slice sa1 sl1 sc1], .bool b1]) mixed Tryd.func4 (by kernel_rfl) (cast (by unfold vc_law11_BmpWrites FnVc; kernel_rfl) h)
/-- darkroom/darkroomlaw11.BmpBack -/
def vc_law11_BmpBack (x1 : Int) (x2 : Int) (sa1 : Option Addr) (sl1 sc1 : Nat) (b1 : Bool) (w : World) (R : Ending → World → Prop) : Prop :=
  ∀ k1 : Nat,
  (w.heap.size ≤ k1) →
  ∀ w1 : World,
  (Locl ([k1]) w w1) →
  Calls P F.law11_wakes #[] w1 fun e1 w2 =>
  ∃ c1 : Bool,
  (e1 = Ending.returned (Value.bool c1)) ∧
  (Keep ([k1]) w1 w2) ∧
  brB (!c1)
    (R (Ending.returned (Value.bool false)) w2)
    (Calls P F.ref09_Copy #[Value.agg #[Value.int IntKind.i64 x1, Value.int IntKind.i64 x2, Value.slice sa1 sl1 sc1]] w2 fun e2 w3 =>
    ∃ n1 : Int,
    ∃ n2 : Int,
    ∃ p1 : Option Addr,
    ∃ k2 : Nat,
    ∃ k3 : Nat,
    (e2 = Ending.returned (Value.agg #[Value.int IntKind.i64 n1, Value.int IntKind.i64 n2, Value.slice p1 k2 k3])) ∧
    (Keep ([k1]) w2 w3) ∧
    Calls P F.bmp_Encode #[Value.agg #[Value.int IntKind.i64 n1, Value.int IntKind.i64 n2, Value.slice p1 k2 k3], Value.bool b1] w3 fun e3 w4 =>
    ∃ p2 : Option Addr,
    ∃ k4 : Nat,
    ∃ k5 : Nat,
    ∃ n3 : Int,
    (e3 = Ending.returned (Value.tuple #[Value.slice p2 k4 k5, Value.int IntKind.i64 n3])) ∧
    (Keep ([k1]) w3 w4) ∧
    brB (n3 != 0)
      (R (Ending.returned (Value.bool (n3 == 6 && (↑k4 : Int) == 0))) w4)
      (Calls P F.bmp_Decode #[Value.slice p2 k4 k5, Value.int IntKind.i64 (IntKind.i64.wrap (x1 * x2))] w4 fun e4 w5 =>
      ∃ n4 : Int,
      ∃ n5 : Int,
      ∃ p3 : Option Addr,
      ∃ k6 : Nat,
      ∃ k7 : Nat,
      ∃ n6 : Int,
      (e4 = Ending.returned (Value.tuple #[Value.agg #[Value.int IntKind.i64 n4, Value.int IntKind.i64 n5, Value.slice p3 k6 k7], Value.int IntKind.i64 n6])) ∧
      (Keep ([k1]) w4 w5) ∧
      ∀ k8 : Nat,
      (w5.heap.size ≤ k8) →
      brB (n6 != 0 || (↑k6 : Int) != (↑sl1 : Int) || n4 != x1 || n5 != x2)
        (∀ w6 : World,
        (Locl ([k8, k1]) w5 w6) →
        R (Ending.returned (Value.bool false)) w6)
        (∃ I1 : List Value → World → Prop,
        ∃ m1 : List Value → World → Nat,
        (∀ w7 : World,
          (Locl ([k8, k1]) w5 w7) →
          I1 [Value.int IntKind.i64 0] w7) ∧
        ∀ n7 : Int,
        ∀ w8 : World,
        (I1 [Value.int IntKind.i64 n7] w8) →
        brB (decide (n7 < (↑sl1 : Int)))
          (∃ I2 : List Value → World → Prop,
          (idx (sa1) (sl1) (n7) (1) fun a1 =>
            ∃ n8 : Int,
            (w8.cell? a1 = some (Value.int IntKind.u16 n8)) ∧
            Calls P F.ref08_Round #[Value.int IntKind.u16 n8, Value.int IntKind.i64 255] w8 fun e5 w9 =>
            ∃ n9 : Int,
            (e5 = Ending.returned (Value.int IntKind.u16 n9)) ∧
            (Keep ([k8, k1]) w8 w9) ∧
            brB (divZ BinOp.rem IntKind.i64 n7 4 == 3 && !b1)
              (idx (p3) (k6) (n7) (1) fun a2 =>
              ∃ n10 : Int,
              (w9.cell? a2 = some (Value.int IntKind.u16 n10)) ∧
              brB (n10 != 65535)
                (R (Ending.returned (Value.bool false)) w9)
                (I2 [] w9))
              (idx (p3) (k6) (n7) (1) fun a3 =>
              ∃ n11 : Int,
              (w9.cell? a3 = some (Value.int IntKind.u16 n11)) ∧
              brB (n11 != n9)
                (R (Ending.returned (Value.bool false)) w9)
                (I2 [] w9))) ∧
          ∀ w10 : World,
          (I2 [] w10) →
          (I1 [Value.int IntKind.i64 (IntKind.i64.wrap (n7 + 1))] w10) ∧
          m1 [Value.int IntKind.i64 (IntKind.i64.wrap (n7 + 1))] w10 < m1 [Value.int IntKind.i64 n7] w8)
          (R (Ending.returned (Value.bool true)) w8))))
theorem calls_law11_BmpBack (x1 : Int) (x2 : Int) (sa1 : Option Addr) (sl1 sc1 : Nat) (b1 : Bool) (w : World) (R : Ending → World → Prop) (h : vc_law11_BmpBack x1 x2 sa1 sl1 sc1 b1 w R) : Calls P F.law11_BmpBack #[.agg #[.int .i64 x1, .int .i64 x2, .slice sa1 sl1 sc1], .bool b1] w R :=
  calls_of_vc (fn := Tryd.f5) (ac := ac_law11_BmpBack) (args := [.agg #[.int .i64 x1, .int .i64 x2, .slice sa1 sl1 sc1], .bool b1]) mixed Tryd.func5 (by kernel_rfl) (cast (by unfold vc_law11_BmpBack FnVc; kernel_rfl) h)
/-- darkroom/darkroomlaw11.BmpTurns -/
def vc_law11_BmpTurns (x1 : Int) (x2 : Int) (sa1 : Option Addr) (sl1 sc1 : Nat) (b1 : Bool) (w : World) (R : Ending → World → Prop) : Prop :=
  ∀ k1 : Nat,
  (w.heap.size ≤ k1) →
  ∀ w1 : World,
  (Locl ([k1]) w w1) →
  Calls P F.law11_wakes #[] w1 fun e1 w2 =>
  ∃ c1 : Bool,
  (e1 = Ending.returned (Value.bool c1)) ∧
  (Keep ([k1]) w1 w2) ∧
  brB (!c1)
    (R (Ending.returned (Value.bool false)) w2)
    (Calls P F.ref09_Copy #[Value.agg #[Value.int IntKind.i64 x1, Value.int IntKind.i64 x2, Value.slice sa1 sl1 sc1]] w2 fun e2 w3 =>
    ∃ n1 : Int,
    ∃ n2 : Int,
    ∃ p1 : Option Addr,
    ∃ k2 : Nat,
    ∃ k3 : Nat,
    (e2 = Ending.returned (Value.agg #[Value.int IntKind.i64 n1, Value.int IntKind.i64 n2, Value.slice p1 k2 k3])) ∧
    (Keep ([k1]) w2 w3) ∧
    Calls P F.bmp_Encode #[Value.agg #[Value.int IntKind.i64 n1, Value.int IntKind.i64 n2, Value.slice p1 k2 k3], Value.bool b1] w3 fun e3 w4 =>
    ∃ p2 : Option Addr,
    ∃ k4 : Nat,
    ∃ k5 : Nat,
    ∃ n3 : Int,
    (e3 = Ending.returned (Value.tuple #[Value.slice p2 k4 k5, Value.int IntKind.i64 n3])) ∧
    (Keep ([k1]) w3 w4) ∧
    brB (n3 != 0)
      (R (Ending.returned (Value.bool ((↑k4 : Int) == 0))) w4)
      (∃ I1 : List Value → World → Prop,
      ((Calls P F.law11_own #[Value.slice p2 k4 k5] (w4.drew) fun e4 w5 =>
          ∃ p3 : Option Addr,
          ∃ k6 : Nat,
          ∃ k7 : Nat,
          (e4 = Ending.returned (Value.slice p3 k6 k7)) ∧
          (Keep ([k1]) (w4.drew) w5) ∧
          (Keeps (w4.drew) w5) ∧
          (Calls P F.bmp_Decode #[Value.slice p3 k6 k7, Value.int IntKind.i64 (IntKind.i64.wrap (x1 * x2))] w5 fun e5 w6 =>
            ∃ n4 : Int,
            ∃ n5 : Int,
            ∃ p4 : Option Addr,
            ∃ k8 : Nat,
            ∃ k9 : Nat,
            ∃ n6 : Int,
            (e5 = Ending.returned (Value.tuple #[Value.agg #[Value.int IntKind.i64 n4, Value.int IntKind.i64 n5, Value.slice p4 k8 k9], Value.int IntKind.i64 n6])) ∧
            (Keep ([k1]) w5 w6) ∧
            ∀ k10 : Nat,
            (w6.heap.size ≤ k10) →
            ∀ w7 : World,
            (Locl ([k10, k1]) w6 w7) →
            I1 [Value.int IntKind.i64 n6, Value.pointer (some { block := k10, off := 0 }), Value.int IntKind.i64 n4, Value.int IntKind.i64 n5, Value.slice p4 k8 k9] w7) ∧
          ∀ k11 : Nat,
          (w5.heap.size ≤ k11) →
          ∀ w8 : World,
          (Locl ([k11, k1]) w5 w8) →
          Calls P F.bmp_Decode #[Value.slice p3 k6 k7, Value.int IntKind.i64 (IntKind.i64.wrap (x1 * x2))] w8 fun e6 w9 =>
          ∃ n7 : Int,
          ∃ n8 : Int,
          ∃ p5 : Option Addr,
          ∃ k12 : Nat,
          ∃ k13 : Nat,
          ∃ n9 : Int,
          (e6 = Ending.returned (Value.tuple #[Value.agg #[Value.int IntKind.i64 n7, Value.int IntKind.i64 n8, Value.slice p5 k12 k13], Value.int IntKind.i64 n9])) ∧
          (Keep ([k11, k1]) w8 w9) ∧
          ∀ w10 : World,
          (Locl ([k11, k1]) w9 w10) →
          I1 [Value.int IntKind.i64 n9, Value.pointer (some { block := k11, off := 0 }), Value.int IntKind.i64 n7, Value.int IntKind.i64 n8, Value.slice p5 k12 k13] w10) ∧
        ∀ k14 : Nat,
        (w4.drew.heap.size ≤ k14) →
        ∀ w11 : World,
        (Locl ([k14, k1]) (w4.drew) w11) →
        Calls P F.law11_own #[Value.slice p2 k4 k5] w11 fun e7 w12 =>
        ∃ p6 : Option Addr,
        ∃ k15 : Nat,
        ∃ k16 : Nat,
        (e7 = Ending.returned (Value.slice p6 k15 k16)) ∧
        (Keep ([k14, k1]) w11 w12) ∧
        (Keeps w11 w12) ∧
        Calls P F.bmp_Decode #[Value.slice p6 k15 k16, Value.int IntKind.i64 (IntKind.i64.wrap (x1 * x2))] w12 fun e8 w13 =>
        ∃ n10 : Int,
        ∃ n11 : Int,
        ∃ p7 : Option Addr,
        ∃ k17 : Nat,
        ∃ k18 : Nat,
        ∃ n12 : Int,
        (e8 = Ending.returned (Value.tuple #[Value.agg #[Value.int IntKind.i64 n10, Value.int IntKind.i64 n11, Value.slice p7 k17 k18], Value.int IntKind.i64 n12])) ∧
        (Keep ([k14, k1]) w12 w13) ∧
        ∀ w14 : World,
        (Locl ([k14, k1]) w13 w14) →
        I1 [Value.int IntKind.i64 n12, Value.pointer (some { block := k14, off := 0 }), Value.int IntKind.i64 n10, Value.int IntKind.i64 n11, Value.slice p7 k17 k18] w14) ∧
      ∀ n13 : Int,
      ∀ k19 : Nat,
      ∀ n14 : Int,
      ∀ n15 : Int,
      ∀ p8 : Option Addr,
      ∀ k20 : Nat,
      ∀ k21 : Nat,
      ∀ w15 : World,
      (I1 [Value.int IntKind.i64 n13, Value.pointer (some { block := k19, off := 0 }), Value.int IntKind.i64 n14, Value.int IntKind.i64 n15, Value.slice p8 k20 k21] w15) →
      Calls P F.ref01_Set #[Value.slice p2 k4 k5, Value.int IntKind.i64 22, Value.int IntKind.i64 4, Value.bool false, Value.int IntKind.u32 (IntKind.u32.wrap (IntKind.i64.wrap (0 - x2)))] w15 fun e9 w16 =>
      ∃ p9 : Option Addr,
      ∃ k22 : Nat,
      ∃ k23 : Nat,
      ∃ n16 : Int,
      (e9 = Ending.returned (Value.tuple #[Value.slice p9 k22 k23, Value.int IntKind.i64 n16])) ∧
      (Keep ([k19, k1]) w15 w16) ∧
      Calls P F.bmp_Decode #[Value.slice p9 k22 k23, Value.int IntKind.i64 (IntKind.i64.wrap (x1 * x2))] w16 fun e10 w17 =>
      ∃ n17 : Int,
      ∃ n18 : Int,
      ∃ p10 : Option Addr,
      ∃ k24 : Nat,
      ∃ k25 : Nat,
      ∃ n19 : Int,
      (e10 = Ending.returned (Value.tuple #[Value.agg #[Value.int IntKind.i64 n17, Value.int IntKind.i64 n18, Value.slice p10 k24 k25], Value.int IntKind.i64 n19])) ∧
      (Keep ([k19, k1]) w16 w17) ∧
      ∀ k26 : Nat,
      (w17.heap.size ≤ k26) →
      brB (n13 != 0 || n19 != 0 || n14 != n17 || n15 != n18 || (↑k20 : Int) != IntKind.i64.wrap (IntKind.i64.wrap (4 * x1) * x2) || (↑k24 : Int) != (↑k20 : Int))
        (∀ w18 : World,
        (Locl ([k26, k19, k1]) w17 w18) →
        R (Ending.returned (Value.bool false)) w18)
        (∃ I2 : List Value → World → Prop,
        ∃ m1 : List Value → World → Nat,
        (∀ w19 : World,
          (Locl ([k26, k19, k1]) w17 w19) →
          I2 [Value.int IntKind.i64 0] w19) ∧
        ∀ n20 : Int,
        ∀ w20 : World,
        (I2 [Value.int IntKind.i64 n20] w20) →
        brB (decide (n20 < (↑k20 : Int)))
          ((IntKind.i64.wrap (4 * x1) ≠ 0) ∧
          (IntKind.i64.wrap (4 * x1) ≠ 0) ∧
          idx (p10) (k24) (IntKind.i64.wrap (IntKind.i64.wrap (IntKind.i64.wrap (IntKind.i64.wrap (x2 - 1) - divZ BinOp.quo IntKind.i64 n20 (IntKind.i64.wrap (4 * x1))) * IntKind.i64.wrap (4 * x1)) + divZ BinOp.rem IntKind.i64 n20 (IntKind.i64.wrap (4 * x1)))) (1) fun a1 =>
          ∃ n21 : Int,
          (w20.drew.cell? a1 = some (Value.int IntKind.u16 n21)) ∧
          idx (p8) (k20) (n20) (1) fun a2 =>
          ∃ n22 : Int,
          (w20.drew.cell? a2 = some (Value.int IntKind.u16 n22)) ∧
          brB (n21 != n22)
            (R (Ending.returned (Value.bool false)) w20.drew)
            ((I2 [Value.int IntKind.i64 (IntKind.i64.wrap (n20 + 1))] w20.drew) ∧
            m1 [Value.int IntKind.i64 (IntKind.i64.wrap (n20 + 1))] w20.drew < m1 [Value.int IntKind.i64 n20] w20))
          (R (Ending.returned (Value.bool true)) w20))))
theorem calls_law11_BmpTurns (x1 : Int) (x2 : Int) (sa1 : Option Addr) (sl1 sc1 : Nat) (b1 : Bool) (w : World) (R : Ending → World → Prop) (h : vc_law11_BmpTurns x1 x2 sa1 sl1 sc1 b1 w R) : Calls P F.law11_BmpTurns #[.agg #[.int .i64 x1, .int .i64 x2, .slice sa1 sl1 sc1], .bool b1] w R :=
  calls_of_vc (fn := Tryd.f6) (ac := ac_law11_BmpTurns) (args := [.agg #[.int .i64 x1, .int .i64 x2, .slice sa1 sl1 sc1], .bool b1]) mixed Tryd.func6 (by kernel_rfl) (cast (by unfold vc_law11_BmpTurns FnVc; kernel_rfl) h)
/-- darkroom/darkroomlaw11.BmpOwn -/
def vc_law11_BmpOwn (sa1 : Option Addr) (sl1 sc1 : Nat) (x1 : Int) (x2 : Int) (sa2 : Option Addr) (sl2 sc2 : Nat) (b1 : Bool) (w : World) (R : Ending → World → Prop) : Prop :=
  ∀ k1 : Nat,
  (w.heap.size ≤ k1) →
  ∀ w1 : World,
  (Locl ([k1]) w w1) →
  Calls P F.law11_wakes #[] w1 fun e1 w2 =>
  ∃ c1 : Bool,
  (e1 = Ending.returned (Value.bool c1)) ∧
  (Keep ([k1]) w1 w2) ∧
  brB (!c1)
    (R (Ending.returned (Value.bool false)) w2)
    (∃ I1 : List Value → World → Prop,
    ((Calls P F.law11_own #[Value.slice sa1 sl1 sc1] (w2.drew) fun e2 w3 =>
        ∃ p1 : Option Addr,
        ∃ k2 : Nat,
        ∃ k3 : Nat,
        (e2 = Ending.returned (Value.slice p1 k2 k3)) ∧
        (Keep ([k1]) (w2.drew) w3) ∧
        (∀ k4 : Nat,
          (w3.heap.size ≤ k4) →
          (∀ w4 : World,
            (Locl ([k4, k1]) w3 w4) →
            appVC (w4) ([(23, k4, [Value.int IntKind.u8 77]), (4, k1, [Value.int IntKind.i64 x1, Value.int IntKind.i64 x2, Value.slice sa2 sl2 sc2])]) (p1) (k2) (k3) (1) (1) (1) (5) ([Value.int IntKind.u8 0]) ([Value.int IntKind.u8 77]) fun p2 k5 k6 w5 =>
            (Calls P F.ref09_Copy #[Value.agg #[Value.int IntKind.i64 x1, Value.int IntKind.i64 x2, Value.slice sa2 sl2 sc2]] w5 fun e3 w6 =>
              ∃ n1 : Int,
              ∃ n2 : Int,
              ∃ p3 : Option Addr,
              ∃ k7 : Nat,
              ∃ k8 : Nat,
              (e3 = Ending.returned (Value.agg #[Value.int IntKind.i64 n1, Value.int IntKind.i64 n2, Value.slice p3 k7 k8])) ∧
              (Keep ([k4, k1]) w5 w6) ∧
              ∀ k9 : Nat,
              (w6.heap.size ≤ k9) →
              ∀ w7 : World,
              (Locl ([k9, k4, k1]) w6 w7) →
              I1 [Value.slice p2 k5 k6, Value.pointer (some { block := k9, off := 0 }), Value.int IntKind.i64 n1, Value.int IntKind.i64 n2, Value.slice p3 k7 k8] w7) ∧
            ∀ k10 : Nat,
            (w5.heap.size ≤ k10) →
            ∀ w8 : World,
            (Locl ([k10, k4, k1]) w5 w8) →
            Calls P F.ref09_Copy #[Value.agg #[Value.int IntKind.i64 x1, Value.int IntKind.i64 x2, Value.slice sa2 sl2 sc2]] w8 fun e4 w9 =>
            ∃ n3 : Int,
            ∃ n4 : Int,
            ∃ p4 : Option Addr,
            ∃ k11 : Nat,
            ∃ k12 : Nat,
            (e4 = Ending.returned (Value.agg #[Value.int IntKind.i64 n3, Value.int IntKind.i64 n4, Value.slice p4 k11 k12])) ∧
            (Keep ([k10, k4, k1]) w8 w9) ∧
            ∀ w10 : World,
            (Locl ([k10, k4, k1]) w9 w10) →
            I1 [Value.slice p2 k5 k6, Value.pointer (some { block := k10, off := 0 }), Value.int IntKind.i64 n3, Value.int IntKind.i64 n4, Value.slice p4 k11 k12] w10) ∧
          ∀ k13 : Nat,
          (w3.heap.size ≤ k13) →
          ∀ w11 : World,
          (Locl ([k13, k4, k1]) w3 w11) →
          appVC (w11) ([(8, k13, [Value.int IntKind.i64 0, Value.int IntKind.i64 0, Value.slice none 0 0]), (23, k4, [Value.int IntKind.u8 77]), (4, k1, [Value.int IntKind.i64 x1, Value.int IntKind.i64 x2, Value.slice sa2 sl2 sc2])]) (p1) (k2) (k3) (1) (1) (1) (5) ([Value.int IntKind.u8 0]) ([Value.int IntKind.u8 77]) fun p5 k14 k15 w12 =>
          Calls P F.ref09_Copy #[Value.agg #[Value.int IntKind.i64 x1, Value.int IntKind.i64 x2, Value.slice sa2 sl2 sc2]] w12 fun e5 w13 =>
          ∃ n5 : Int,
          ∃ n6 : Int,
          ∃ p6 : Option Addr,
          ∃ k16 : Nat,
          ∃ k17 : Nat,
          (e5 = Ending.returned (Value.agg #[Value.int IntKind.i64 n5, Value.int IntKind.i64 n6, Value.slice p6 k16 k17])) ∧
          (Keep ([k13, k4, k1]) w12 w13) ∧
          ∀ w14 : World,
          (Locl ([k13, k4, k1]) w13 w14) →
          I1 [Value.slice p5 k14 k15, Value.pointer (some { block := k13, off := 0 }), Value.int IntKind.i64 n5, Value.int IntKind.i64 n6, Value.slice p6 k16 k17] w14) ∧
        ∀ k18 : Nat,
        (w3.heap.size ≤ k18) →
        ∀ k19 : Nat,
        (w3.heap.size ≤ k19) →
        ∀ w15 : World,
        (Locl ([k19, k18, k1]) w3 w15) →
        appVC (w15) ([(23, k19, [Value.int IntKind.u8 77]), (8, k18, [Value.int IntKind.i64 0, Value.int IntKind.i64 0, Value.slice none 0 0]), (4, k1, [Value.int IntKind.i64 x1, Value.int IntKind.i64 x2, Value.slice sa2 sl2 sc2])]) (p1) (k2) (k3) (1) (1) (1) (5) ([Value.int IntKind.u8 0]) ([Value.int IntKind.u8 77]) fun p7 k20 k21 w16 =>
        Calls P F.ref09_Copy #[Value.agg #[Value.int IntKind.i64 x1, Value.int IntKind.i64 x2, Value.slice sa2 sl2 sc2]] w16 fun e6 w17 =>
        ∃ n7 : Int,
        ∃ n8 : Int,
        ∃ p8 : Option Addr,
        ∃ k22 : Nat,
        ∃ k23 : Nat,
        (e6 = Ending.returned (Value.agg #[Value.int IntKind.i64 n7, Value.int IntKind.i64 n8, Value.slice p8 k22 k23])) ∧
        (Keep ([k19, k18, k1]) w16 w17) ∧
        ∀ w18 : World,
        (Locl ([k19, k18, k1]) w17 w18) →
        I1 [Value.slice p7 k20 k21, Value.pointer (some { block := k18, off := 0 }), Value.int IntKind.i64 n7, Value.int IntKind.i64 n8, Value.slice p8 k22 k23] w18) ∧
      (∀ k24 : Nat,
        (w2.drew.heap.size ≤ k24) →
        (∀ w19 : World,
          (Locl ([k24, k1]) (w2.drew) w19) →
          Calls P F.law11_own #[Value.slice sa1 sl1 sc1] w19 fun e7 w20 =>
          ∃ p9 : Option Addr,
          ∃ k25 : Nat,
          ∃ k26 : Nat,
          (e7 = Ending.returned (Value.slice p9 k25 k26)) ∧
          (Keep ([k24, k1]) w19 w20) ∧
          (appVC (w20) ([(23, k24, [Value.int IntKind.u8 77]), (4, k1, [Value.int IntKind.i64 x1, Value.int IntKind.i64 x2, Value.slice sa2 sl2 sc2])]) (p9) (k25) (k26) (1) (1) (1) (5) ([Value.int IntKind.u8 0]) ([Value.int IntKind.u8 77]) fun p10 k27 k28 w21 =>
            (Calls P F.ref09_Copy #[Value.agg #[Value.int IntKind.i64 x1, Value.int IntKind.i64 x2, Value.slice sa2 sl2 sc2]] w21 fun e8 w22 =>
              ∃ n9 : Int,
              ∃ n10 : Int,
              ∃ p11 : Option Addr,
              ∃ k29 : Nat,
              ∃ k30 : Nat,
              (e8 = Ending.returned (Value.agg #[Value.int IntKind.i64 n9, Value.int IntKind.i64 n10, Value.slice p11 k29 k30])) ∧
              (Keep ([k24, k1]) w21 w22) ∧
              ∀ k31 : Nat,
              (w22.heap.size ≤ k31) →
              ∀ w23 : World,
              (Locl ([k31, k24, k1]) w22 w23) →
              I1 [Value.slice p10 k27 k28, Value.pointer (some { block := k31, off := 0 }), Value.int IntKind.i64 n9, Value.int IntKind.i64 n10, Value.slice p11 k29 k30] w23) ∧
            ∀ k32 : Nat,
            (w21.heap.size ≤ k32) →
            ∀ w24 : World,
            (Locl ([k32, k24, k1]) w21 w24) →
            Calls P F.ref09_Copy #[Value.agg #[Value.int IntKind.i64 x1, Value.int IntKind.i64 x2, Value.slice sa2 sl2 sc2]] w24 fun e9 w25 =>
            ∃ n11 : Int,
            ∃ n12 : Int,
            ∃ p12 : Option Addr,
            ∃ k33 : Nat,
            ∃ k34 : Nat,
            (e9 = Ending.returned (Value.agg #[Value.int IntKind.i64 n11, Value.int IntKind.i64 n12, Value.slice p12 k33 k34])) ∧
            (Keep ([k32, k24, k1]) w24 w25) ∧
            ∀ w26 : World,
            (Locl ([k32, k24, k1]) w25 w26) →
            I1 [Value.slice p10 k27 k28, Value.pointer (some { block := k32, off := 0 }), Value.int IntKind.i64 n11, Value.int IntKind.i64 n12, Value.slice p12 k33 k34] w26) ∧
          ∀ k35 : Nat,
          (w20.heap.size ≤ k35) →
          ∀ w27 : World,
          (Locl ([k35, k24, k1]) w20 w27) →
          appVC (w27) ([(8, k35, [Value.int IntKind.i64 0, Value.int IntKind.i64 0, Value.slice none 0 0]), (23, k24, [Value.int IntKind.u8 77]), (4, k1, [Value.int IntKind.i64 x1, Value.int IntKind.i64 x2, Value.slice sa2 sl2 sc2])]) (p9) (k25) (k26) (1) (1) (1) (5) ([Value.int IntKind.u8 0]) ([Value.int IntKind.u8 77]) fun p13 k36 k37 w28 =>
          Calls P F.ref09_Copy #[Value.agg #[Value.int IntKind.i64 x1, Value.int IntKind.i64 x2, Value.slice sa2 sl2 sc2]] w28 fun e10 w29 =>
          ∃ n13 : Int,
          ∃ n14 : Int,
          ∃ p14 : Option Addr,
          ∃ k38 : Nat,
          ∃ k39 : Nat,
          (e10 = Ending.returned (Value.agg #[Value.int IntKind.i64 n13, Value.int IntKind.i64 n14, Value.slice p14 k38 k39])) ∧
          (Keep ([k35, k24, k1]) w28 w29) ∧
          ∀ w30 : World,
          (Locl ([k35, k24, k1]) w29 w30) →
          I1 [Value.slice p13 k36 k37, Value.pointer (some { block := k35, off := 0 }), Value.int IntKind.i64 n13, Value.int IntKind.i64 n14, Value.slice p14 k38 k39] w30) ∧
        ∀ k40 : Nat,
        (w2.drew.heap.size ≤ k40) →
        ∀ w31 : World,
        (Locl ([k40, k24, k1]) (w2.drew) w31) →
        Calls P F.law11_own #[Value.slice sa1 sl1 sc1] w31 fun e11 w32 =>
        ∃ p15 : Option Addr,
        ∃ k41 : Nat,
        ∃ k42 : Nat,
        (e11 = Ending.returned (Value.slice p15 k41 k42)) ∧
        (Keep ([k40, k24, k1]) w31 w32) ∧
        appVC (w32) ([(8, k40, [Value.int IntKind.i64 0, Value.int IntKind.i64 0, Value.slice none 0 0]), (23, k24, [Value.int IntKind.u8 77]), (4, k1, [Value.int IntKind.i64 x1, Value.int IntKind.i64 x2, Value.slice sa2 sl2 sc2])]) (p15) (k41) (k42) (1) (1) (1) (5) ([Value.int IntKind.u8 0]) ([Value.int IntKind.u8 77]) fun p16 k43 k44 w33 =>
        Calls P F.ref09_Copy #[Value.agg #[Value.int IntKind.i64 x1, Value.int IntKind.i64 x2, Value.slice sa2 sl2 sc2]] w33 fun e12 w34 =>
        ∃ n15 : Int,
        ∃ n16 : Int,
        ∃ p17 : Option Addr,
        ∃ k45 : Nat,
        ∃ k46 : Nat,
        (e12 = Ending.returned (Value.agg #[Value.int IntKind.i64 n15, Value.int IntKind.i64 n16, Value.slice p17 k45 k46])) ∧
        (Keep ([k40, k24, k1]) w33 w34) ∧
        ∀ w35 : World,
        (Locl ([k40, k24, k1]) w34 w35) →
        I1 [Value.slice p16 k43 k44, Value.pointer (some { block := k40, off := 0 }), Value.int IntKind.i64 n15, Value.int IntKind.i64 n16, Value.slice p17 k45 k46] w35) ∧
      ∀ k47 : Nat,
      (w2.drew.heap.size ≤ k47) →
      (∀ w36 : World,
        (Locl ([k47, k1]) (w2.drew) w36) →
        Calls P F.law11_own #[Value.slice sa1 sl1 sc1] w36 fun e13 w37 =>
        ∃ p18 : Option Addr,
        ∃ k48 : Nat,
        ∃ k49 : Nat,
        (e13 = Ending.returned (Value.slice p18 k48 k49)) ∧
        (Keep ([k47, k1]) w36 w37) ∧
        ∀ k50 : Nat,
        (w37.heap.size ≤ k50) →
        ∀ w38 : World,
        (Locl ([k50, k47, k1]) w37 w38) →
        appVC (w38) ([(23, k50, [Value.int IntKind.u8 77]), (8, k47, [Value.int IntKind.i64 0, Value.int IntKind.i64 0, Value.slice none 0 0]), (4, k1, [Value.int IntKind.i64 x1, Value.int IntKind.i64 x2, Value.slice sa2 sl2 sc2])]) (p18) (k48) (k49) (1) (1) (1) (5) ([Value.int IntKind.u8 0]) ([Value.int IntKind.u8 77]) fun p19 k51 k52 w39 =>
        Calls P F.ref09_Copy #[Value.agg #[Value.int IntKind.i64 x1, Value.int IntKind.i64 x2, Value.slice sa2 sl2 sc2]] w39 fun e14 w40 =>
        ∃ n17 : Int,
        ∃ n18 : Int,
        ∃ p20 : Option Addr,
        ∃ k53 : Nat,
        ∃ k54 : Nat,
        (e14 = Ending.returned (Value.agg #[Value.int IntKind.i64 n17, Value.int IntKind.i64 n18, Value.slice p20 k53 k54])) ∧
        (Keep ([k50, k47, k1]) w39 w40) ∧
        ∀ w41 : World,
        (Locl ([k50, k47, k1]) w40 w41) →
        I1 [Value.slice p19 k51 k52, Value.pointer (some { block := k47, off := 0 }), Value.int IntKind.i64 n17, Value.int IntKind.i64 n18, Value.slice p20 k53 k54] w41) ∧
      ∀ k55 : Nat,
      (w2.drew.heap.size ≤ k55) →
      ∀ w42 : World,
      (Locl ([k55, k47, k1]) (w2.drew) w42) →
      Calls P F.law11_own #[Value.slice sa1 sl1 sc1] w42 fun e15 w43 =>
      ∃ p21 : Option Addr,
      ∃ k56 : Nat,
      ∃ k57 : Nat,
      (e15 = Ending.returned (Value.slice p21 k56 k57)) ∧
      (Keep ([k55, k47, k1]) w42 w43) ∧
      appVC (w43) ([(23, k55, [Value.int IntKind.u8 77]), (8, k47, [Value.int IntKind.i64 0, Value.int IntKind.i64 0, Value.slice none 0 0]), (4, k1, [Value.int IntKind.i64 x1, Value.int IntKind.i64 x2, Value.slice sa2 sl2 sc2])]) (p21) (k56) (k57) (1) (1) (1) (5) ([Value.int IntKind.u8 0]) ([Value.int IntKind.u8 77]) fun p22 k58 k59 w44 =>
      Calls P F.ref09_Copy #[Value.agg #[Value.int IntKind.i64 x1, Value.int IntKind.i64 x2, Value.slice sa2 sl2 sc2]] w44 fun e16 w45 =>
      ∃ n19 : Int,
      ∃ n20 : Int,
      ∃ p23 : Option Addr,
      ∃ k60 : Nat,
      ∃ k61 : Nat,
      (e16 = Ending.returned (Value.agg #[Value.int IntKind.i64 n19, Value.int IntKind.i64 n20, Value.slice p23 k60 k61])) ∧
      (Keep ([k55, k47, k1]) w44 w45) ∧
      ∀ w46 : World,
      (Locl ([k55, k47, k1]) w45 w46) →
      I1 [Value.slice p22 k58 k59, Value.pointer (some { block := k47, off := 0 }), Value.int IntKind.i64 n19, Value.int IntKind.i64 n20, Value.slice p23 k60 k61] w46) ∧
    ∀ p24 : Option Addr,
    ∀ k62 : Nat,
    ∀ k63 : Nat,
    ∀ k64 : Nat,
    ∀ n21 : Int,
    ∀ n22 : Int,
    ∀ p25 : Option Addr,
    ∀ k65 : Nat,
    ∀ k66 : Nat,
    ∀ w47 : World,
    (I1 [Value.slice p24 k62 k63, Value.pointer (some { block := k64, off := 0 }), Value.int IntKind.i64 n21, Value.int IntKind.i64 n22, Value.slice p25 k65 k66] w47) →
    slcc (p24) (k63) (0) ((↑sl1 : Int)) (1) fun p26 k67 k68 =>
    Calls P F.bmp_Decode #[Value.slice p26 k67 k68, Value.int IntKind.i64 9999] w47 fun e17 w48 =>
    ∃ n23 : Int,
    ∃ n24 : Int,
    ∃ p27 : Option Addr,
    ∃ k69 : Nat,
    ∃ k70 : Nat,
    ∃ n25 : Int,
    (e17 = Ending.returned (Value.tuple #[Value.agg #[Value.int IntKind.i64 n23, Value.int IntKind.i64 n24, Value.slice p27 k69 k70], Value.int IntKind.i64 n25])) ∧
    (Keep ([k64, k1]) w47 w48) ∧
    ∀ k71 : Nat,
    (w48.heap.size ≤ k71) →
    slcc (p24) (k63) (0) ((↑sl1 : Int)) (1) fun p28 k72 k73 =>
    ∀ w49 : World,
    (Locl ([k71, k64, k1]) w48 w49) →
    Calls P F.bmp_Decode #[Value.slice p28 k72 k73, Value.int IntKind.i64 9999] w49 fun e18 w50 =>
    ∃ n26 : Int,
    ∃ n27 : Int,
    ∃ p29 : Option Addr,
    ∃ k74 : Nat,
    ∃ k75 : Nat,
    ∃ n28 : Int,
    (e18 = Ending.returned (Value.tuple #[Value.agg #[Value.int IntKind.i64 n26, Value.int IntKind.i64 n27, Value.slice p29 k74 k75], Value.int IntKind.i64 n28])) ∧
    (Keep ([k71, k64, k1]) w49 w50) ∧
    ∀ k76 : Nat,
    (w50.heap.size ≤ k76) →
    ∀ w51 : World,
    (Locl ([k76, k71, k64, k1]) w50 w51) →
    Calls P F.bmp_Encode #[Value.agg #[Value.int IntKind.i64 n21, Value.int IntKind.i64 n22, Value.slice p25 k65 k66], Value.bool b1] w51 fun e19 w52 =>
    ∃ p30 : Option Addr,
    ∃ k77 : Nat,
    ∃ k78 : Nat,
    ∃ n29 : Int,
    (e19 = Ending.returned (Value.tuple #[Value.slice p30 k77 k78, Value.int IntKind.i64 n29])) ∧
    (Keep ([k76, k71, k64, k1]) w51 w52) ∧
    ∃ I2 : List Value → World → Prop,
    ∃ m1 : List Value → World → Nat,
    (I2 [Value.int IntKind.i64 0] w52) ∧
    ∀ n30 : Int,
    ∀ w53 : World,
    (I2 [Value.int IntKind.i64 n30] w53) →
    brB (decide (n30 < (↑k69 : Int)))
      (idx (p27) (k69) (n30) (1) fun a1 =>
      ∃ n31 : Int,
      (w53.drew.cell? a1 = some (Value.int IntKind.u16 n31)) ∧
      idx (p27) (k69) (n30) (1) fun a2 =>
      (∃ v1 : Value,
        w53.drew.cell? a2 = some v1) ∧
      (w53.drew.frozen? a2 = false) ∧
      (¬a2.block ∈ [k76, k71, k64, k1]) ∧
      (I2 [Value.int IntKind.i64 (IntKind.i64.wrap (n30 + 1))] (setCells w53.drew a2 [Value.int IntKind.u16 (IntKind.u16.wrap (n31 + 1))] 0)) ∧
      m1 [Value.int IntKind.i64 (IntKind.i64.wrap (n30 + 1))] (setCells w53.drew a2 [Value.int IntKind.u16 (IntKind.u16.wrap (n31 + 1))] 0) < m1 [Value.int IntKind.i64 n30] w53)
      (∃ I3 : List Value → World → Prop,
      ∃ m2 : List Value → World → Nat,
      (I3 [Value.int IntKind.i64 0] w53) ∧
      ∀ n32 : Int,
      ∀ w54 : World,
      (I3 [Value.int IntKind.i64 n32] w54) →
      brB (decide (n32 < (↑k77 : Int)))
        (idx (p30) (k77) (n32) (1) fun a3 =>
        (∃ v2 : Value,
          w54.cell? a3 = some v2) ∧
        (w54.frozen? a3 = false) ∧
        (¬a3.block ∈ [k76, k71, k64, k1]) ∧
        (I3 [Value.int IntKind.i64 (IntKind.i64.wrap (n32 + 1))] (setCells w54 a3 [Value.int IntKind.u8 0] 0)) ∧
        m2 [Value.int IntKind.i64 (IntKind.i64.wrap (n32 + 1))] (setCells w54 a3 [Value.int IntKind.u8 0] 0) < m2 [Value.int IntKind.i64 n32] w54)
        (Calls P F.ref11_Decode #[Value.slice sa1 sl1 sc1, Value.int IntKind.i64 9999] w54 fun e20 w55 =>
        ∃ n33 : Int,
        ∃ n34 : Int,
        ∃ p31 : Option Addr,
        ∃ k79 : Nat,
        ∃ k80 : Nat,
        ∃ n35 : Int,
        (e20 = Ending.returned (Value.tuple #[Value.agg #[Value.int IntKind.i64 n33, Value.int IntKind.i64 n34, Value.slice p31 k79 k80], Value.int IntKind.i64 n35])) ∧
        (Keep ([k76, k71, k64, k1]) w54 w55) ∧
        ∀ k81 : Nat,
        (w55.heap.size ≤ k81) →
        idx (p24) (k62) ((↑sl1 : Int)) (1) fun a4 =>
        ∀ w56 : World,
        (Locl ([k81, k76, k71, k64, k1]) w55 w56) →
        ∃ n36 : Int,
        (w56.cell? a4 = some (Value.int IntKind.u8 n36)) ∧
        brB (n36 == 77)
          (slcc (p24) (k63) (0) ((↑sl1 : Int)) (1) fun p32 k82 k83 =>
          Calls P F.ref01_Same #[Value.slice p32 k82 k83, Value.slice sa1 sl1 sc1] w56 fun e21 w57 =>
          ∃ c2 : Bool,
          (e21 = Ending.returned (Value.bool c2)) ∧
          (Keep ([k81, k76, k71, k64, k1]) w56 w57) ∧
          brB (c2)
            (Calls P F.ref09_Same #[Value.agg #[Value.int IntKind.i64 n21, Value.int IntKind.i64 n22, Value.slice p25 k65 k66], Value.agg #[Value.int IntKind.i64 x1, Value.int IntKind.i64 x2, Value.slice sa2 sl2 sc2]] w57 fun e22 w58 =>
            ∃ c3 : Bool,
            (e22 = Ending.returned (Value.bool c3)) ∧
            (Keep ([k81, k76, k71, k64, k1]) w57 w58) ∧
            brB (c3)
              (Calls P F.ref09_Same #[Value.agg #[Value.int IntKind.i64 n26, Value.int IntKind.i64 n27, Value.slice p29 k74 k75], Value.agg #[Value.int IntKind.i64 n33, Value.int IntKind.i64 n34, Value.slice p31 k79 k80]] w58 fun e23 w59 =>
              ∃ c4 : Bool,
              (e23 = Ending.returned (Value.bool c4)) ∧
              (Keep ([k81, k76, k71, k64, k1]) w58 w59) ∧
              R (Ending.returned (Value.bool c4)) w59)
              (R (Ending.returned (Value.bool false)) w58))
            (R (Ending.returned (Value.bool false)) w57))
          (R (Ending.returned (Value.bool false)) w56))))
theorem calls_law11_BmpOwn (sa1 : Option Addr) (sl1 sc1 : Nat) (x1 : Int) (x2 : Int) (sa2 : Option Addr) (sl2 sc2 : Nat) (b1 : Bool) (w : World) (R : Ending → World → Prop) (h : vc_law11_BmpOwn sa1 sl1 sc1 x1 x2 sa2 sl2 sc2 b1 w R) : Calls P F.law11_BmpOwn #[.slice sa1 sl1 sc1, .agg #[.int .i64 x1, .int .i64 x2, .slice sa2 sl2 sc2], .bool b1] w R :=
  calls_of_vc (fn := Tryd.f7) (ac := ac_law11_BmpOwn) (args := [.slice sa1 sl1 sc1, .agg #[.int .i64 x1, .int .i64 x2, .slice sa2 sl2 sc2], .bool b1]) mixed Tryd.func7 (by kernel_rfl) (cast (by unfold vc_law11_BmpOwn FnVc; kernel_rfl) h)
/-- darkroom/darkroomlaw11.wakes -/
def vc_law11_wakes  (w : World) (R : Ending → World → Prop) : Prop :=
  Calls P F.ref09_Fill #[Value.int IntKind.i64 1, Value.int IntKind.i64 1, Value.agg #[Value.int IntKind.u16 771, Value.int IntKind.u16 514, Value.int IntKind.u16 257, Value.int IntKind.u16 65535]] w fun e1 w1 =>
  ∃ n1 : Int,
  ∃ n2 : Int,
  ∃ p1 : Option Addr,
  ∃ k1 : Nat,
  ∃ k2 : Nat,
  ∃ n3 : Int,
  (e1 = Ending.returned (Value.tuple #[Value.agg #[Value.int IntKind.i64 n1, Value.int IntKind.i64 n2, Value.slice p1 k1 k2], Value.int IntKind.i64 n3])) ∧
  ∀ k3 : Nat,
  (w1.heap.size ≤ k3) →
  ∀ w2 : World,
  (Locl ([k3]) w1 w2) →
  Calls P F.ref09_Copy #[Value.agg #[Value.int IntKind.i64 n1, Value.int IntKind.i64 n2, Value.slice p1 k1 k2]] w2 fun e2 w3 =>
  ∃ n4 : Int,
  ∃ n5 : Int,
  ∃ p2 : Option Addr,
  ∃ k4 : Nat,
  ∃ k5 : Nat,
  (e2 = Ending.returned (Value.agg #[Value.int IntKind.i64 n4, Value.int IntKind.i64 n5, Value.slice p2 k4 k5])) ∧
  (Keep ([k3]) w2 w3) ∧
  Calls P F.bmp_Encode #[Value.agg #[Value.int IntKind.i64 n4, Value.int IntKind.i64 n5, Value.slice p2 k4 k5], Value.bool false] w3 fun e3 w4 =>
  ∃ p3 : Option Addr,
  ∃ k6 : Nat,
  ∃ k7 : Nat,
  ∃ n6 : Int,
  (e3 = Ending.returned (Value.tuple #[Value.slice p3 k6 k7, Value.int IntKind.i64 n6])) ∧
  (Keep ([k3]) w3 w4) ∧
  Calls P F.law11_own #[Value.slice p3 k6 k7] w4 fun e4 w5 =>
  ∃ p4 : Option Addr,
  ∃ k8 : Nat,
  ∃ k9 : Nat,
  (e4 = Ending.returned (Value.slice p4 k8 k9)) ∧
  (Keep ([k3]) w4 w5) ∧
  Calls P F.bmp_Decode #[Value.slice p4 k8 k9, Value.int IntKind.i64 1] w5 fun e5 w6 =>
  ∃ n7 : Int,
  ∃ n8 : Int,
  ∃ p5 : Option Addr,
  ∃ k10 : Nat,
  ∃ k11 : Nat,
  ∃ n9 : Int,
  (e5 = Ending.returned (Value.tuple #[Value.agg #[Value.int IntKind.i64 n7, Value.int IntKind.i64 n8, Value.slice p5 k10 k11], Value.int IntKind.i64 n9])) ∧
  (Keep ([k3]) w5 w6) ∧
  ∀ k12 : Nat,
  (w6.heap.size ≤ k12) →
  ∀ w7 : World,
  (Locl ([k12, k3]) w6 w7) →
  ∀ k13 : Nat,
  ∀ w8 : World,
  (New w7 (Obj.cells #[Value.int IntKind.u8 66, Value.int IntKind.u8 77, Value.int IntKind.u8 80] 5) k13 w8) →
  ∃ y1 : Array Value,
  ∃ y2 : TypeId,
  (w8.heap[k13]? = some (Obj.cells y1 y2)) ∧
  (¬k13 ∈ [k12, k3]) ∧
  ∀ w9 : World,
  (Mk k13 w8 w9) →
  Calls P F.bmp_Decode #[Value.slice (some { block := k13, off := 0 }) 3 3, Value.int IntKind.i64 1] w9 fun e6 w10 =>
  ∃ n10 : Int,
  ∃ n11 : Int,
  ∃ p6 : Option Addr,
  ∃ k14 : Nat,
  ∃ k15 : Nat,
  ∃ n12 : Int,
  (e6 = Ending.returned (Value.tuple #[Value.agg #[Value.int IntKind.i64 n10, Value.int IntKind.i64 n11, Value.slice p6 k14 k15], Value.int IntKind.i64 n12])) ∧
  (Keep ([k12, k3]) w9 w10) ∧
  ∀ k16 : Nat,
  (w10.heap.size ≤ k16) →
  brB (n6 == 0 && n9 == 0 && n12 == 9 && (↑k6 : Int) == 58)
    (idx (p3) (k6) (54) (1) fun a1 =>
    ∀ w11 : World,
    (Locl ([k16, k12, k3]) w10 w11) →
    ∃ n13 : Int,
    (w11.cell? a1 = some (Value.int IntKind.u8 n13)) ∧
    brB (n13 == 1)
      (idx (p3) (k6) (56) (1) fun a2 =>
      ∃ n14 : Int,
      (w11.cell? a2 = some (Value.int IntKind.u8 n14)) ∧
      brB (n14 == 3)
        (Calls P F.ref09_Same #[Value.agg #[Value.int IntKind.i64 n7, Value.int IntKind.i64 n8, Value.slice p5 k10 k11], Value.agg #[Value.int IntKind.i64 n1, Value.int IntKind.i64 n2, Value.slice p1 k1 k2]] w11 fun e7 w12 =>
        ∃ c1 : Bool,
        (e7 = Ending.returned (Value.bool c1)) ∧
        (Keep ([k16, k12, k3]) w11 w12) ∧
        R (Ending.returned (Value.bool c1)) w12)
        (R (Ending.returned (Value.bool false)) w11))
      (R (Ending.returned (Value.bool false)) w11))
    (∀ w13 : World,
    (Locl ([k16, k12, k3]) w10 w13) →
    R (Ending.returned (Value.bool false)) w13)
theorem calls_law11_wakes  (w : World) (R : Ending → World → Prop) (h : vc_law11_wakes  w R) : Calls P F.law11_wakes #[] w R :=
  calls_of_vc (fn := Tryd.f8) (ac := ac_law11_wakes) (args := []) mixed Tryd.func8 (by kernel_rfl) (cast (by unfold vc_law11_wakes FnVc; kernel_rfl) h)
/-- darkroom/bmp.Decode -/
def vc_bmp_Decode (sa1 : Option Addr) (sl1 sc1 : Nat) (x1 : Int) (w : World) (R : Ending → World → Prop) : Prop :=
  ∀ k1 : Nat,
  (w.heap.size ≤ k1) →
  brB (decide ((↑sl1 : Int) > 4194304))
    (∀ w1 : World,
    (Locl ([k1]) w w1) →
    R (Ending.returned (Value.tuple #[Value.agg #[Value.int IntKind.i64 0, Value.int IntKind.i64 0, Value.slice none 0 0], Value.int IntKind.i64 11])) w1)
    (∀ w2 : World,
    (Locl ([k1]) w w2) →
    Calls P F.bmp_open #[Value.slice sa1 sl1 sc1] w2 fun e1 w3 =>
    ∃ p1 : Option Addr,
    ∃ n1 : Int,
    (e1 = Ending.returned (Value.tuple #[Value.pointer p1, Value.int IntKind.i64 n1])) ∧
    (Keep ([k1]) w2 w3) ∧
    brB (n1 != 0)
      (∀ w4 : World,
      (Locl ([k1]) w3 w4) →
      R (Ending.returned (Value.tuple #[Value.agg #[Value.int IntKind.i64 0, Value.int IntKind.i64 0, Value.slice none 0 0], Value.int IntKind.i64 n1])) w4)
      (nn (p1) fun a1 =>
      ∃ n2 : Int,
      (w3.drew.cell? (a1.add 1) = some (Value.int IntKind.i64 n2)) ∧
      nn (p1) fun a2 =>
      ∃ n3 : Int,
      (w3.drew.cell? (a2.add 2) = some (Value.int IntKind.i64 n3)) ∧
      brB (decide (max n2 n3 > 4096))
        (∀ w5 : World,
        (Locl ([k1]) (w3.drew) w5) →
        R (Ending.returned (Value.tuple #[Value.agg #[Value.int IntKind.i64 0, Value.int IntKind.i64 0, Value.slice none 0 0], Value.int IntKind.i64 11])) w5)
        (nn (p1) fun a3 =>
        ∃ n4 : Int,
        (w3.drew.cell? (a3.add 1) = some (Value.int IntKind.i64 n4)) ∧
        nn (p1) fun a4 =>
        ∃ n5 : Int,
        (w3.drew.cell? (a4.add 2) = some (Value.int IntKind.i64 n5)) ∧
        brB (decide (IntKind.i64.wrap (n4 * n5) > min x1 65536))
          (∀ w6 : World,
          (Locl ([k1]) (w3.drew) w6) →
          R (Ending.returned (Value.tuple #[Value.agg #[Value.int IntKind.i64 0, Value.int IntKind.i64 0, Value.slice none 0 0], Value.int IntKind.i64 11])) w6)
          (nn (p1) fun a5 =>
          ∃ n6 : Int,
          (w3.drew.cell? (a5.add 6) = some (Value.int IntKind.i64 n6)) ∧
          brB (decide (n6 > (↑sl1 : Int)))
            (∀ w7 : World,
            (Locl ([k1]) (w3.drew) w7) →
            R (Ending.returned (Value.tuple #[Value.agg #[Value.int IntKind.i64 0, Value.int IntKind.i64 0, Value.slice none 0 0], Value.int IntKind.i64 9])) w7)
            (∀ k2 : Nat,
            (w3.drew.heap.size ≤ k2) →
            ∃ I1 : List Value → World → Prop,
            (nn (p1) fun a6 =>
              ∀ w8 : World,
              (Locl ([k2, k1]) (w3.drew) w8) →
              ∃ n7 : Int,
              (w8.cell? (a6.add 5) = some (Value.int IntKind.i64 n7)) ∧
              brB (n7 == 1)
                (Calls P F.bmp_file_runs #[Value.pointer p1] w8 fun e2 w9 =>
                ∃ n8 : Int,
                ∃ n9 : Int,
                ∃ p2 : Option Addr,
                ∃ k3 : Nat,
                ∃ k4 : Nat,
                ∃ c1 : Bool,
                (e2 = Ending.returned (Value.tuple #[Value.agg #[Value.int IntKind.i64 n8, Value.int IntKind.i64 n9, Value.slice p2 k3 k4], Value.bool c1])) ∧
                (Keep ([k2, k1]) w8 w9) ∧
                ∀ w10 : World,
                (Locl ([k2, k1]) w9 w10) →
                I1 [Value.bool c1, Value.int IntKind.i64 n8, Value.int IntKind.i64 n9, Value.slice p2 k3 k4] w10)
                (nn (p1) fun a7 =>
                ∃ n10 : Int,
                (w8.cell? (a7.add 5) = some (Value.int IntKind.i64 n10)) ∧
                brB (n10 == 2)
                  (Calls P F.bmp_file_runs #[Value.pointer p1] w8 fun e3 w11 =>
                  ∃ n11 : Int,
                  ∃ n12 : Int,
                  ∃ p3 : Option Addr,
                  ∃ k5 : Nat,
                  ∃ k6 : Nat,
                  ∃ c2 : Bool,
                  (e3 = Ending.returned (Value.tuple #[Value.agg #[Value.int IntKind.i64 n11, Value.int IntKind.i64 n12, Value.slice p3 k5 k6], Value.bool c2])) ∧
                  (Keep ([k2, k1]) w8 w11) ∧
                  ∀ w12 : World,
                  (Locl ([k2, k1]) w11 w12) →
                  I1 [Value.bool c2, Value.int IntKind.i64 n11, Value.int IntKind.i64 n12, Value.slice p3 k5 k6] w12)
                  (Calls P F.bmp_file_plain #[Value.pointer p1] w8 fun e4 w13 =>
                  ∃ n13 : Int,
                  ∃ n14 : Int,
                  ∃ p4 : Option Addr,
                  ∃ k7 : Nat,
                  ∃ k8 : Nat,
                  ∃ c3 : Bool,
                  (e4 = Ending.returned (Value.tuple #[Value.agg #[Value.int IntKind.i64 n13, Value.int IntKind.i64 n14, Value.slice p4 k7 k8], Value.bool c3])) ∧
                  (Keep ([k2, k1]) w8 w13) ∧
                  ∀ w14 : World,
                  (Locl ([k2, k1]) w13 w14) →
                  I1 [Value.bool c3, Value.int IntKind.i64 n13, Value.int IntKind.i64 n14, Value.slice p4 k7 k8] w14))) ∧
            ∀ c4 : Bool,
            ∀ n15 : Int,
            ∀ n16 : Int,
            ∀ p5 : Option Addr,
            ∀ k9 : Nat,
            ∀ k10 : Nat,
            ∀ w15 : World,
            (I1 [Value.bool c4, Value.int IntKind.i64 n15, Value.int IntKind.i64 n16, Value.slice p5 k9 k10] w15) →
            brB (!c4)
              (∀ w16 : World,
              (Locl ([k2, k1]) w15 w16) →
              R (Ending.returned (Value.tuple #[Value.agg #[Value.int IntKind.i64 0, Value.int IntKind.i64 0, Value.slice none 0 0], Value.int IntKind.i64 9])) w16)
              (∀ w17 : World,
              (Locl ([k2, k1]) w15 w17) →
              R (Ending.returned (Value.tuple #[Value.agg #[Value.int IntKind.i64 n15, Value.int IntKind.i64 n16, Value.slice p5 k9 k10], Value.int IntKind.i64 0])) w17))))))
theorem calls_bmp_Decode (sa1 : Option Addr) (sl1 sc1 : Nat) (x1 : Int) (w : World) (R : Ending → World → Prop) (h : vc_bmp_Decode sa1 sl1 sc1 x1 w R) : Calls P F.bmp_Decode #[.slice sa1 sl1 sc1, .int .i64 x1] w R :=
  calls_of_vc (fn := Tryd.f9) (ac := ac_bmp_Decode) (args := [.slice sa1 sl1 sc1, .int .i64 x1]) mixed Tryd.func9 (by kernel_rfl) (cast (by unfold vc_bmp_Decode FnVc; kernel_rfl) h)
/-- darkroom/darkroomlaw11.own -/
def vc_law11_own (sa1 : Option Addr) (sl1 sc1 : Nat) (w : World) (R : Ending → World → Prop) : Prop :=
  ∀ k1 : Nat,
  ∀ w1 : World,
  (New w (Obj.cells #[] 5) k1 w1) →
  ∃ l1 : List Value,
  (l1.length = sl1 * 1) ∧
  (oneAll l1 = true) ∧
  (CellsAre w1 sa1 l1) ∧
  appVC (w1) ([]) (some { block := k1, off := 0 }) (0) (0) (sl1) (1) (1) (5) ([Value.int IntKind.u8 0]) (l1) fun p1 k2 k3 w2 =>
  R (Ending.returned (Value.slice p1 k2 k3)) w2
theorem calls_law11_own (sa1 : Option Addr) (sl1 sc1 : Nat) (w : World) (R : Ending → World → Prop) (h : vc_law11_own sa1 sl1 sc1 w R) : Calls P F.law11_own #[.slice sa1 sl1 sc1] w R :=
  calls_of_vc (fn := Tryd.f10) (ac := ac_law11_own) (args := [.slice sa1 sl1 sc1]) mixed Tryd.func10 (by kernel_rfl) (cast (by unfold vc_law11_own FnVc; kernel_rfl) h)
/-- darkroom/darkroomref11.Decode -/
def vc_ref11_Decode (sa1 : Option Addr) (sl1 sc1 : Nat) (x1 : Int) (w : World) (R : Ending → World → Prop) : Prop :=
  ∀ k1 : Nat,
  (w.heap.size ≤ k1) →
  brB (decide ((↑sl1 : Int) > 4194304))
    (∀ w1 : World,
    (Locl ([k1]) w w1) →
    R (Ending.returned (Value.tuple #[Value.agg #[Value.int IntKind.i64 0, Value.int IntKind.i64 0, Value.slice none 0 0], Value.int IntKind.i64 11])) w1)
    (∀ w2 : World,
    (Locl ([k1]) w w2) →
    Calls P F.ref11_fields #[Value.slice sa1 sl1 sc1] w2 fun e1 w3 =>
    ∃ n1 : Int,
    ∃ n2 : Int,
    ∃ c1 : Bool,
    ∃ n3 : Int,
    ∃ n4 : Int,
    ∃ n5 : Int,
    ∃ n6 : Int,
    ∃ n7 : Int,
    ∃ n8 : Int,
    ∃ n9 : Int,
    ∃ p1 : Option Addr,
    ∃ k2 : Nat,
    ∃ k3 : Nat,
    ∃ n10 : Int,
    ∃ n11 : Int,
    (e1 = Ending.returned (Value.tuple #[Value.agg #[Value.int IntKind.i64 n1, Value.int IntKind.i64 n2, Value.bool c1, Value.int IntKind.i64 n3, Value.int IntKind.i64 n4, Value.int IntKind.i64 n5, Value.int IntKind.u32 n6, Value.int IntKind.u32 n7, Value.int IntKind.u32 n8, Value.int IntKind.u32 n9, Value.slice p1 k2 k3], Value.int IntKind.i64 n10, Value.int IntKind.i64 n11])) ∧
    (Keep ([k1]) w2 w3) ∧
    ∀ k4 : Nat,
    (w3.heap.size ≤ k4) →
    brB (n11 != 0)
      (∀ w4 : World,
      (Locl ([k4, k1]) w3 w4) →
      R (Ending.returned (Value.tuple #[Value.agg #[Value.int IntKind.i64 0, Value.int IntKind.i64 0, Value.slice none 0 0], Value.int IntKind.i64 n11])) w4)
      (∀ w5 : World,
      (Locl ([k4, k1]) w3 w5) →
      Calls P F.ref11_masks #[Value.slice sa1 sl1 sc1, Value.agg #[Value.int IntKind.i64 n1, Value.int IntKind.i64 n2, Value.bool c1, Value.int IntKind.i64 n3, Value.int IntKind.i64 n4, Value.int IntKind.i64 n5, Value.int IntKind.u32 n6, Value.int IntKind.u32 n7, Value.int IntKind.u32 n8, Value.int IntKind.u32 n9, Value.slice p1 k2 k3], Value.int IntKind.i64 n10] w5 fun e2 w6 =>
      ∃ n12 : Int,
      ∃ n13 : Int,
      ∃ c2 : Bool,
      ∃ n14 : Int,
      ∃ n15 : Int,
      ∃ n16 : Int,
      ∃ n17 : Int,
      ∃ n18 : Int,
      ∃ n19 : Int,
      ∃ n20 : Int,
      ∃ p2 : Option Addr,
      ∃ k5 : Nat,
      ∃ k6 : Nat,
      ∃ c3 : Bool,
      (e2 = Ending.returned (Value.tuple #[Value.agg #[Value.int IntKind.i64 n12, Value.int IntKind.i64 n13, Value.bool c2, Value.int IntKind.i64 n14, Value.int IntKind.i64 n15, Value.int IntKind.i64 n16, Value.int IntKind.u32 n17, Value.int IntKind.u32 n18, Value.int IntKind.u32 n19, Value.int IntKind.u32 n20, Value.slice p2 k5 k6], Value.bool c3])) ∧
      (Keep ([k4, k1]) w5 w6) ∧
      ∃ I1 : List Value → World → Prop,
      (brB (c3 && decide (n14 ≤ 8))
          (∀ w7 : World,
          (Locl ([k4, k1]) w6 w7) →
          Calls P F.ref11_palette #[Value.slice sa1 sl1 sc1, Value.agg #[Value.int IntKind.i64 n12, Value.int IntKind.i64 n13, Value.bool c2, Value.int IntKind.i64 n14, Value.int IntKind.i64 n15, Value.int IntKind.i64 n16, Value.int IntKind.u32 n17, Value.int IntKind.u32 n18, Value.int IntKind.u32 n19, Value.int IntKind.u32 n20, Value.slice p2 k5 k6], Value.int IntKind.i64 n10] w7 fun e3 w8 =>
          ∃ n21 : Int,
          ∃ n22 : Int,
          ∃ c4 : Bool,
          ∃ n23 : Int,
          ∃ n24 : Int,
          ∃ n25 : Int,
          ∃ n26 : Int,
          ∃ n27 : Int,
          ∃ n28 : Int,
          ∃ n29 : Int,
          ∃ p3 : Option Addr,
          ∃ k7 : Nat,
          ∃ k8 : Nat,
          ∃ c5 : Bool,
          (e3 = Ending.returned (Value.tuple #[Value.agg #[Value.int IntKind.i64 n21, Value.int IntKind.i64 n22, Value.bool c4, Value.int IntKind.i64 n23, Value.int IntKind.i64 n24, Value.int IntKind.i64 n25, Value.int IntKind.u32 n26, Value.int IntKind.u32 n27, Value.int IntKind.u32 n28, Value.int IntKind.u32 n29, Value.slice p3 k7 k8], Value.bool c5])) ∧
          (Keep ([k4, k1]) w7 w8) ∧
          ∀ w9 : World,
          (Locl ([k4, k1]) w8 w9) →
          I1 [Value.bool c5, Value.int IntKind.i64 n21, Value.int IntKind.i64 n22, Value.bool c4, Value.int IntKind.i64 n23, Value.int IntKind.i64 n24, Value.int IntKind.i64 n25, Value.int IntKind.u32 n26, Value.int IntKind.u32 n27, Value.int IntKind.u32 n28, Value.int IntKind.u32 n29, Value.slice p3 k7 k8] w9)
          (∀ w10 : World,
          (Locl ([k4, k1]) w6 w10) →
          I1 [Value.bool c3, Value.int IntKind.i64 n12, Value.int IntKind.i64 n13, Value.bool c2, Value.int IntKind.i64 n14, Value.int IntKind.i64 n15, Value.int IntKind.i64 n16, Value.int IntKind.u32 n17, Value.int IntKind.u32 n18, Value.int IntKind.u32 n19, Value.int IntKind.u32 n20, Value.slice p2 k5 k6] w10)) ∧
      ∀ c6 : Bool,
      ∀ n30 : Int,
      ∀ n31 : Int,
      ∀ c7 : Bool,
      ∀ n32 : Int,
      ∀ n33 : Int,
      ∀ n34 : Int,
      ∀ n35 : Int,
      ∀ n36 : Int,
      ∀ n37 : Int,
      ∀ n38 : Int,
      ∀ p4 : Option Addr,
      ∀ k9 : Nat,
      ∀ k10 : Nat,
      ∀ w11 : World,
      (I1 [Value.bool c6, Value.int IntKind.i64 n30, Value.int IntKind.i64 n31, Value.bool c7, Value.int IntKind.i64 n32, Value.int IntKind.i64 n33, Value.int IntKind.i64 n34, Value.int IntKind.u32 n35, Value.int IntKind.u32 n36, Value.int IntKind.u32 n37, Value.int IntKind.u32 n38, Value.slice p4 k9 k10] w11) →
      brB (!c6)
        (∀ w12 : World,
        (Locl ([k4, k1]) w11 w12) →
        R (Ending.returned (Value.tuple #[Value.agg #[Value.int IntKind.i64 0, Value.int IntKind.i64 0, Value.slice none 0 0], Value.int IntKind.i64 9])) w12)
        (Calls P F.ref10_Great #[Value.int IntKind.i64 n30, Value.int IntKind.i64 n31, Value.int IntKind.i64 x1] w11 fun e4 w13 =>
        ∃ c8 : Bool,
        (e4 = Ending.returned (Value.bool c8)) ∧
        (Keep ([k4, k1]) w11 w13) ∧
        brB (c8)
          (∀ w14 : World,
          (Locl ([k4, k1]) w13 w14) →
          R (Ending.returned (Value.tuple #[Value.agg #[Value.int IntKind.i64 0, Value.int IntKind.i64 0, Value.slice none 0 0], Value.int IntKind.i64 11])) w14)
          (brB (decide (n34 > (↑sl1 : Int)))
            (∀ w15 : World,
            (Locl ([k4, k1]) w13 w15) →
            R (Ending.returned (Value.tuple #[Value.agg #[Value.int IntKind.i64 0, Value.int IntKind.i64 0, Value.slice none 0 0], Value.int IntKind.i64 9])) w15)
            (∀ k11 : Nat,
            (w13.heap.size ≤ k11) →
            ∃ I2 : List Value → World → Prop,
            (brB (decide (n32 ≤ 8))
                (slcc (sa1) (sc1) (n34) ((↑sl1 : Int)) (1) fun p5 k12 k13 =>
                ∀ w16 : World,
                (Locl ([k11, k4, k1]) w13 w16) →
                Calls P F.ref11_byIndex #[Value.slice p5 k12 k13, Value.agg #[Value.int IntKind.i64 n30, Value.int IntKind.i64 n31, Value.bool c7, Value.int IntKind.i64 n32, Value.int IntKind.i64 n33, Value.int IntKind.i64 n34, Value.int IntKind.u32 n35, Value.int IntKind.u32 n36, Value.int IntKind.u32 n37, Value.int IntKind.u32 n38, Value.slice p4 k9 k10]] w16 fun e5 w17 =>
                ∃ n39 : Int,
                ∃ n40 : Int,
                ∃ p6 : Option Addr,
                ∃ k14 : Nat,
                ∃ k15 : Nat,
                ∃ c9 : Bool,
                (e5 = Ending.returned (Value.tuple #[Value.agg #[Value.int IntKind.i64 n39, Value.int IntKind.i64 n40, Value.slice p6 k14 k15], Value.bool c9])) ∧
                (Keep ([k11, k4, k1]) w16 w17) ∧
                ∀ w18 : World,
                (Locl ([k11, k4, k1]) w17 w18) →
                I2 [Value.bool c9, Value.int IntKind.i64 n39, Value.int IntKind.i64 n40, Value.slice p6 k14 k15] w18)
                (slcc (sa1) (sc1) (n34) ((↑sl1 : Int)) (1) fun p7 k16 k17 =>
                ∀ w19 : World,
                (Locl ([k11, k4, k1]) w13 w19) →
                Calls P F.ref11_byMask #[Value.slice p7 k16 k17, Value.agg #[Value.int IntKind.i64 n30, Value.int IntKind.i64 n31, Value.bool c7, Value.int IntKind.i64 n32, Value.int IntKind.i64 n33, Value.int IntKind.i64 n34, Value.int IntKind.u32 n35, Value.int IntKind.u32 n36, Value.int IntKind.u32 n37, Value.int IntKind.u32 n38, Value.slice p4 k9 k10]] w19 fun e6 w20 =>
                ∃ n41 : Int,
                ∃ n42 : Int,
                ∃ p8 : Option Addr,
                ∃ k18 : Nat,
                ∃ k19 : Nat,
                ∃ c10 : Bool,
                (e6 = Ending.returned (Value.tuple #[Value.agg #[Value.int IntKind.i64 n41, Value.int IntKind.i64 n42, Value.slice p8 k18 k19], Value.bool c10])) ∧
                (Keep ([k11, k4, k1]) w19 w20) ∧
                ∀ w21 : World,
                (Locl ([k11, k4, k1]) w20 w21) →
                I2 [Value.bool c10, Value.int IntKind.i64 n41, Value.int IntKind.i64 n42, Value.slice p8 k18 k19] w21)) ∧
            ∀ c11 : Bool,
            ∀ n43 : Int,
            ∀ n44 : Int,
            ∀ p9 : Option Addr,
            ∀ k20 : Nat,
            ∀ k21 : Nat,
            ∀ w22 : World,
            (I2 [Value.bool c11, Value.int IntKind.i64 n43, Value.int IntKind.i64 n44, Value.slice p9 k20 k21] w22) →
            brB (!c11)
              (∀ w23 : World,
              (Locl ([k11, k4, k1]) w22 w23) →
              R (Ending.returned (Value.tuple #[Value.agg #[Value.int IntKind.i64 0, Value.int IntKind.i64 0, Value.slice none 0 0], Value.int IntKind.i64 9])) w23)
              (∀ w24 : World,
              (Locl ([k11, k4, k1]) w22 w24) →
              R (Ending.returned (Value.tuple #[Value.agg #[Value.int IntKind.i64 n43, Value.int IntKind.i64 n44, Value.slice p9 k20 k21], Value.int IntKind.i64 0])) w24))))))
theorem calls_ref11_Decode (sa1 : Option Addr) (sl1 sc1 : Nat) (x1 : Int) (w : World) (R : Ending → World → Prop) (h : vc_ref11_Decode sa1 sl1 sc1 x1 w R) : Calls P F.ref11_Decode #[.slice sa1 sl1 sc1, .int .i64 x1] w R :=
  calls_of_vc (fn := Tryd.f11) (ac := ac_ref11_Decode) (args := [.slice sa1 sl1 sc1, .int .i64 x1]) mixed Tryd.func11 (by kernel_rfl) (cast (by unfold vc_ref11_Decode FnVc; kernel_rfl) h)
/-- darkroom/darkroomref09.Same -/
def vc_ref09_Same (x1 : Int) (x2 : Int) (sa1 : Option Addr) (sl1 sc1 : Nat) (x3 : Int) (x4 : Int) (sa2 : Option Addr) (sl2 sc2 : Nat) (w : World) (R : Ending → World → Prop) : Prop :=
  ∀ k1 : Nat,
  (w.heap.size ≤ k1) →
  ∀ k2 : Nat,
  (w.heap.size ≤ k2) →
  brB (x1 != x3 || x2 != x4 || (↑sl1 : Int) != (↑sl2 : Int))
    (∀ w1 : World,
    (Locl ([k2, k1]) w w1) →
    R (Ending.returned (Value.bool false)) w1)
    (∃ I1 : List Value → World → Prop,
    ∃ m1 : List Value → World → Nat,
    (∀ w2 : World,
      (Locl ([k2, k1]) w w2) →
      I1 [Value.int IntKind.i64 0] w2) ∧
    ∀ n1 : Int,
    ∀ w3 : World,
    (I1 [Value.int IntKind.i64 n1] w3) →
    brB (decide (n1 < (↑sl1 : Int)))
      (idx (sa1) (sl1) (n1) (1) fun a1 =>
      ∃ n2 : Int,
      (w3.drew.cell? a1 = some (Value.int IntKind.u16 n2)) ∧
      idx (sa2) (sl2) (n1) (1) fun a2 =>
      ∃ n3 : Int,
      (w3.drew.cell? a2 = some (Value.int IntKind.u16 n3)) ∧
      brB (n2 != n3)
        (R (Ending.returned (Value.bool false)) w3.drew)
        ((I1 [Value.int IntKind.i64 (IntKind.i64.wrap (n1 + 1))] w3.drew) ∧
        m1 [Value.int IntKind.i64 (IntKind.i64.wrap (n1 + 1))] w3.drew < m1 [Value.int IntKind.i64 n1] w3))
      (R (Ending.returned (Value.bool true)) w3))
theorem calls_ref09_Same (x1 : Int) (x2 : Int) (sa1 : Option Addr) (sl1 sc1 : Nat) (x3 : Int) (x4 : Int) (sa2 : Option Addr) (sl2 sc2 : Nat) (w : World) (R : Ending → World → Prop) (h : vc_ref09_Same x1 x2 sa1 sl1 sc1 x3 x4 sa2 sl2 sc2 w R) : Calls P F.ref09_Same #[.agg #[.int .i64 x1, .int .i64 x2, .slice sa1 sl1 sc1], .agg #[.int .i64 x3, .int .i64 x4, .slice sa2 sl2 sc2]] w R :=
  calls_of_vc (fn := Tryd.f12) (ac := ac_ref09_Same) (args := [.agg #[.int .i64 x1, .int .i64 x2, .slice sa1 sl1 sc1], .agg #[.int .i64 x3, .int .i64 x4, .slice sa2 sl2 sc2]]) mixed Tryd.func12 (by kernel_rfl) (cast (by unfold vc_ref09_Same FnVc; kernel_rfl) h)
/-- darkroom/bmp.Encode -/
def vc_bmp_Encode (x1 : Int) (x2 : Int) (sa1 : Option Addr) (sl1 sc1 : Nat) (b1 : Bool) (w : World) (R : Ending → World → Prop) : Prop :=
  ∀ k1 : Nat,
  (w.heap.size ≤ k1) →
  ∀ w1 : World,
  (Locl ([k1]) w w1) →
  Calls P F.raster_Grid #[Value.agg #[Value.int IntKind.i64 x1, Value.int IntKind.i64 x2, Value.slice sa1 sl1 sc1]] w1 fun e1 w2 =>
  ∃ p1 : Option Addr,
  ∃ n1 : Int,
  (e1 = Ending.returned (Value.tuple #[Value.pointer p1, Value.int IntKind.i64 n1])) ∧
  (Keep ([k1]) w1 w2) ∧
  brB (n1 != 0)
    (R (Ending.returned (Value.tuple #[Value.slice none 0 0, Value.int IntKind.i64 n1])) w2)
    (∃ I1 : List Value → World → Prop,
    (brB (b1)
        (I1 [Value.int IntKind.i64 108, Value.int IntKind.i64 4] w2)
        (I1 [Value.int IntKind.i64 40, Value.int IntKind.i64 3] w2)) ∧
    ∀ n2 : Int,
    ∀ n3 : Int,
    ∀ w3 : World,
    (I1 [Value.int IntKind.i64 n2, Value.int IntKind.i64 n3] w3) →
    (0 ≤ IntKind.i64.wrap (14 + n2)) ∧
    (IntKind.i64.wrap (14 + n2) ≤ IntKind.i64.wrap (IntKind.i64.wrap (14 + n2) + IntKind.i64.wrap (IntKind.i64.wrap (divZ BinOp.quo IntKind.i64 (IntKind.i64.wrap (IntKind.i64.wrap (x1 * n3) + 3)) 4 * 4) * x2))) ∧
    (IntKind.i64.wrap (IntKind.i64.wrap (14 + n2) + IntKind.i64.wrap (IntKind.i64.wrap (divZ BinOp.quo IntKind.i64 (IntKind.i64.wrap (IntKind.i64.wrap (x1 * n3) + 3)) 4 * 4) * x2)) * 1 ≤ 281474976710656) ∧
    (IntKind.i64.wrap (IntKind.i64.wrap (14 + n2) + IntKind.i64.wrap (IntKind.i64.wrap (divZ BinOp.quo IntKind.i64 (IntKind.i64.wrap (IntKind.i64.wrap (x1 * n3) + 3)) 4 * 4) * x2)) < 4611686018427387904) ∧
    ∀ k2 : Nat,
    ∀ w4 : World,
    (New w3 (Obj.cells (mkCells [Value.int IntKind.u8 0] (IntKind.i64.wrap (IntKind.i64.wrap (14 + n2) + IntKind.i64.wrap (IntKind.i64.wrap (divZ BinOp.quo IntKind.i64 (IntKind.i64.wrap (IntKind.i64.wrap (x1 * n3) + 3)) 4 * 4) * x2))).toNat) 5) k2 w4) →
    ∀ k3 : Nat,
    ∀ w5 : World,
    (New w4 (Obj.cells #[Value.slice none 0 0] 22) k3 w5) →
    (∃ v1 : Value,
      w5.cell? { block := k3, off := 0 } = some v1) ∧
    (w5.frozen? { block := k3, off := 0 } = false) ∧
    (¬k3 ∈ [k1]) ∧
    Calls P F.bmp_Encode_fn1 #[Value.int IntKind.i64 0, Value.int IntKind.i64 2, Value.int IntKind.u32 19778, Value.pointer (some { block := k3, off := 0 })] (setCells w5 { block := k3, off := 0 } [Value.slice (some { block := k2, off := 0 }) (IntKind.i64.wrap (14 + n2)).toNat (IntKind.i64.wrap (IntKind.i64.wrap (14 + n2) + IntKind.i64.wrap (IntKind.i64.wrap (divZ BinOp.quo IntKind.i64 (IntKind.i64.wrap (IntKind.i64.wrap (x1 * n3) + 3)) 4 * 4) * x2))).toNat] 0) fun e2 w6 =>
    (e2 = Ending.returned (Value.tuple #[])) ∧
    (Keep ([k1]) (setCells w5 { block := k3, off := 0 } [Value.slice (some { block := k2, off := 0 }) (IntKind.i64.wrap (14 + n2)).toNat (IntKind.i64.wrap (IntKind.i64.wrap (14 + n2) + IntKind.i64.wrap (IntKind.i64.wrap (divZ BinOp.quo IntKind.i64 (IntKind.i64.wrap (IntKind.i64.wrap (x1 * n3) + 3)) 4 * 4) * x2))).toNat] 0) w6) ∧
    Calls P F.bmp_Encode_fn1 #[Value.int IntKind.i64 2, Value.int IntKind.i64 4, Value.int IntKind.u32 (IntKind.u32.wrap (IntKind.i64.wrap (IntKind.i64.wrap (14 + n2) + IntKind.i64.wrap (IntKind.i64.wrap (divZ BinOp.quo IntKind.i64 (IntKind.i64.wrap (IntKind.i64.wrap (x1 * n3) + 3)) 4 * 4) * x2)))), Value.pointer (some { block := k3, off := 0 })] w6 fun e3 w7 =>
    (e3 = Ending.returned (Value.tuple #[])) ∧
    (Keep ([k1]) w6 w7) ∧
    Calls P F.bmp_Encode_fn1 #[Value.int IntKind.i64 10, Value.int IntKind.i64 4, Value.int IntKind.u32 (IntKind.u32.wrap (IntKind.i64.wrap (14 + n2))), Value.pointer (some { block := k3, off := 0 })] w7 fun e4 w8 =>
    (e4 = Ending.returned (Value.tuple #[])) ∧
    (Keep ([k1]) w7 w8) ∧
    Calls P F.bmp_Encode_fn1 #[Value.int IntKind.i64 14, Value.int IntKind.i64 4, Value.int IntKind.u32 (IntKind.u32.wrap n2), Value.pointer (some { block := k3, off := 0 })] w8 fun e5 w9 =>
    (e5 = Ending.returned (Value.tuple #[])) ∧
    (Keep ([k1]) w8 w9) ∧
    Calls P F.bmp_Encode_fn1 #[Value.int IntKind.i64 18, Value.int IntKind.i64 4, Value.int IntKind.u32 (IntKind.u32.wrap x1), Value.pointer (some { block := k3, off := 0 })] w9 fun e6 w10 =>
    (e6 = Ending.returned (Value.tuple #[])) ∧
    (Keep ([k1]) w9 w10) ∧
    Calls P F.bmp_Encode_fn1 #[Value.int IntKind.i64 22, Value.int IntKind.i64 4, Value.int IntKind.u32 (IntKind.u32.wrap x2), Value.pointer (some { block := k3, off := 0 })] w10 fun e7 w11 =>
    (e7 = Ending.returned (Value.tuple #[])) ∧
    (Keep ([k1]) w10 w11) ∧
    Calls P F.bmp_Encode_fn1 #[Value.int IntKind.i64 26, Value.int IntKind.i64 2, Value.int IntKind.u32 1, Value.pointer (some { block := k3, off := 0 })] w11 fun e8 w12 =>
    (e8 = Ending.returned (Value.tuple #[])) ∧
    (Keep ([k1]) w11 w12) ∧
    Calls P F.bmp_Encode_fn1 #[Value.int IntKind.i64 28, Value.int IntKind.i64 2, Value.int IntKind.u32 (IntKind.u32.wrap (IntKind.i64.wrap (8 * n3))), Value.pointer (some { block := k3, off := 0 })] w12 fun e9 w13 =>
    (e9 = Ending.returned (Value.tuple #[])) ∧
    (Keep ([k1]) w12 w13) ∧
    Calls P F.bmp_Encode_fn1 #[Value.int IntKind.i64 34, Value.int IntKind.i64 4, Value.int IntKind.u32 (IntKind.u32.wrap (IntKind.i64.wrap (IntKind.i64.wrap (divZ BinOp.quo IntKind.i64 (IntKind.i64.wrap (IntKind.i64.wrap (x1 * n3) + 3)) 4 * 4) * x2))), Value.pointer (some { block := k3, off := 0 })] w13 fun e10 w14 =>
    (e10 = Ending.returned (Value.tuple #[])) ∧
    (Keep ([k1]) w13 w14) ∧
    ∃ I2 : List Value → World → Prop,
    (brB (b1)
        (Calls P F.bmp_Encode_fn1 #[Value.int IntKind.i64 30, Value.int IntKind.i64 4, Value.int IntKind.u32 3, Value.pointer (some { block := k3, off := 0 })] w14 fun e11 w15 =>
        (e11 = Ending.returned (Value.tuple #[])) ∧
        (Keep ([k1]) w14 w15) ∧
        ∃ I3 : List Value → World → Prop,
        ∃ m1 : List Value → World → Nat,
        (I3 [Value.int IntKind.i64 0] w15) ∧
        ∀ n4 : Int,
        ∀ w16 : World,
        (I3 [Value.int IntKind.i64 n4] w16) →
        brB (decide (n4 < 4))
          ((0 ≤ n4) ∧
          (n4 < 4) ∧
          ∃ n5 : Int,
          ([Value.int IntKind.u32 16711680, Value.int IntKind.u32 65280, Value.int IntKind.u32 255, Value.int IntKind.u32 4278190080][n4.toNat]? = some (Value.int IntKind.u32 n5)) ∧
          Calls P F.bmp_Encode_fn1 #[Value.int IntKind.i64 (IntKind.i64.wrap (54 + IntKind.i64.wrap (4 * n4))), Value.int IntKind.i64 4, Value.int IntKind.u32 n5, Value.pointer (some { block := k3, off := 0 })] w16 fun e12 w17 =>
          (e12 = Ending.returned (Value.tuple #[])) ∧
          (Keep ([k1]) w16 w17) ∧
          (I3 [Value.int IntKind.i64 (IntKind.i64.wrap (n4 + 1))] w17) ∧
          m1 [Value.int IntKind.i64 (IntKind.i64.wrap (n4 + 1))] w17 < m1 [Value.int IntKind.i64 n4] w16)
          (I2 [] w16))
        (I2 [] w14)) ∧
    ∀ w18 : World,
    (I2 [] w18) →
    ∃ I4 : List Value → World → Prop,
    ∃ m2 : List Value → World → Nat,
    (I4 [Value.int IntKind.i64 (IntKind.i64.wrap (x2 - 1))] w18) ∧
    ∀ n6 : Int,
    ∀ w19 : World,
    (I4 [Value.int IntKind.i64 n6] w19) →
    brB (decide (n6 ≥ 0))
      (∃ I5 : List Value → World → Prop,
      ∃ m3 : List Value → World → Nat,
      (I5 [Value.int IntKind.i64 0] w19) ∧
      ∀ n7 : Int,
      ∀ w20 : World,
      (I5 [Value.int IntKind.i64 n7] w20) →
      brB (decide (n7 < x1))
        (∃ I6 : List Value → World → Prop,
        (Calls P F.grid_Grid_api_Color_At #[Value.pointer p1, Value.int IntKind.i64 n7, Value.int IntKind.i64 n6] w20 fun e13 w21 =>
          ∃ n8 : Int,
          ∃ n9 : Int,
          ∃ n10 : Int,
          ∃ n11 : Int,
          ∃ c1 : Bool,
          (e13 = Ending.returned (Value.tuple #[Value.agg #[Value.int IntKind.u16 n8, Value.int IntKind.u16 n9, Value.int IntKind.u16 n10, Value.int IntKind.u16 n11], Value.bool c1])) ∧
          (Keep ([k1]) w20 w21) ∧
          ∀ k4 : Nat,
          (w21.heap.size ≤ k4) →
          ∀ w22 : World,
          (Locl ([k4, k1]) w21 w22) →
          ∃ p2 : Option Addr,
          ∃ k5 : Nat,
          ∃ k6 : Nat,
          (w22.cell? { block := k3, off := 0 } = some (Value.slice p2 k5 k6)) ∧
          Calls P F.bmp_Encode_fn2 #[Value.int IntKind.u16 n10] w22 fun e14 w23 =>
          ∃ n12 : Int,
          (e14 = Ending.returned (Value.int IntKind.u8 n12)) ∧
          (Keep ([k4, k1]) w22 w23) ∧
          (Keeps w22 w23) ∧
          Calls P F.bmp_Encode_fn2 #[Value.int IntKind.u16 n9] w23 fun e15 w24 =>
          ∃ n13 : Int,
          (e15 = Ending.returned (Value.int IntKind.u8 n13)) ∧
          (Keep ([k4, k1]) w23 w24) ∧
          (Keeps w23 w24) ∧
          Calls P F.bmp_Encode_fn2 #[Value.int IntKind.u16 n8] w24 fun e16 w25 =>
          ∃ n14 : Int,
          (e16 = Ending.returned (Value.int IntKind.u8 n14)) ∧
          (Keep ([k4, k1]) w24 w25) ∧
          (Keeps w24 w25) ∧
          ∀ k7 : Nat,
          (w25.heap.size ≤ k7) →
          ∀ w26 : World,
          (Locl ([k7, k4, k1]) w25 w26) →
          appVC (w26) ([(139, k7, [Value.int IntKind.u8 n12, Value.int IntKind.u8 n13, Value.int IntKind.u8 n14]), (18, k4, [Value.int IntKind.u16 n8, Value.int IntKind.u16 n9, Value.int IntKind.u16 n10, Value.int IntKind.u16 n11]), (2, k1, [Value.int IntKind.i64 x1, Value.int IntKind.i64 x2, Value.slice sa1 sl1 sc1])]) (p2) (k5) (k6) (3) (1) (1) (5) ([Value.int IntKind.u8 0]) ([Value.int IntKind.u8 n12, Value.int IntKind.u8 n13, Value.int IntKind.u8 n14]) fun p3 k8 k9 w27 =>
          (∃ v2 : Value,
            w27.cell? { block := k3, off := 0 } = some v2) ∧
          (w27.frozen? { block := k3, off := 0 } = false) ∧
          (¬k3 ∈ [k7, k4, k1]) ∧
          brB (b1)
            (∃ p4 : Option Addr,
            ∃ k10 : Nat,
            ∃ k11 : Nat,
            ((setCells w27 { block := k3, off := 0 } [Value.slice p3 k8 k9] 0).drew.cell? { block := k3, off := 0 } = some (Value.slice p4 k10 k11)) ∧
            Calls P F.bmp_Encode_fn2 #[Value.int IntKind.u16 n11] ((setCells w27 { block := k3, off := 0 } [Value.slice p3 k8 k9] 0).drew) fun e17 w28 =>
            ∃ n15 : Int,
            (e17 = Ending.returned (Value.int IntKind.u8 n15)) ∧
            (Keep ([k7, k4, k1]) ((setCells w27 { block := k3, off := 0 } [Value.slice p3 k8 k9] 0).drew) w28) ∧
            (Keeps ((setCells w27 { block := k3, off := 0 } [Value.slice p3 k8 k9] 0).drew) w28) ∧
            ∀ k12 : Nat,
            (w28.heap.size ≤ k12) →
            ∀ w29 : World,
            (Locl ([k12, k7, k4, k1]) w28 w29) →
            appVC (w29) ([(147, k12, [Value.int IntKind.u8 n15]), (139, k7, [Value.int IntKind.u8 n12, Value.int IntKind.u8 n13, Value.int IntKind.u8 n14]), (18, k4, [Value.int IntKind.u16 n8, Value.int IntKind.u16 n9, Value.int IntKind.u16 n10, Value.int IntKind.u16 n11]), (2, k1, [Value.int IntKind.i64 x1, Value.int IntKind.i64 x2, Value.slice sa1 sl1 sc1])]) (p4) (k10) (k11) (1) (1) (1) (5) ([Value.int IntKind.u8 0]) ([Value.int IntKind.u8 n15]) fun p5 k13 k14 w30 =>
            (∃ v3 : Value,
              w30.cell? { block := k3, off := 0 } = some v3) ∧
            (w30.frozen? { block := k3, off := 0 } = false) ∧
            (¬k3 ∈ [k12, k7, k4, k1]) ∧
            I6 [] (setCells w30 { block := k3, off := 0 } [Value.slice p5 k13 k14] 0))
            (I6 [] (setCells w27 { block := k3, off := 0 } [Value.slice p3 k8 k9] 0))) ∧
        ∀ w31 : World,
        (I6 [] w31) →
        (I5 [Value.int IntKind.i64 (IntKind.i64.wrap (n7 + 1))] w31) ∧
        m3 [Value.int IntKind.i64 (IntKind.i64.wrap (n7 + 1))] w31 < m3 [Value.int IntKind.i64 n7] w20)
        (∃ p6 : Option Addr,
        ∃ k15 : Nat,
        ∃ k16 : Nat,
        (w20.cell? { block := k3, off := 0 } = some (Value.slice p6 k15 k16)) ∧
        (0 ≤ IntKind.i64.wrap (IntKind.i64.wrap (divZ BinOp.quo IntKind.i64 (IntKind.i64.wrap (IntKind.i64.wrap (x1 * n3) + 3)) 4 * 4) - IntKind.i64.wrap (x1 * n3))) ∧
        (IntKind.i64.wrap (IntKind.i64.wrap (divZ BinOp.quo IntKind.i64 (IntKind.i64.wrap (IntKind.i64.wrap (x1 * n3) + 3)) 4 * 4) - IntKind.i64.wrap (x1 * n3)) * 1 ≤ 281474976710656) ∧
        (IntKind.i64.wrap (IntKind.i64.wrap (divZ BinOp.quo IntKind.i64 (IntKind.i64.wrap (IntKind.i64.wrap (x1 * n3) + 3)) 4 * 4) - IntKind.i64.wrap (x1 * n3)) < 4611686018427387904) ∧
        appVC (w20) ([(2, k1, [Value.int IntKind.i64 x1, Value.int IntKind.i64 x2, Value.slice sa1 sl1 sc1])]) (p6) (k15) (k16) ((IntKind.i64.wrap (IntKind.i64.wrap (divZ BinOp.quo IntKind.i64 (IntKind.i64.wrap (IntKind.i64.wrap (x1 * n3) + 3)) 4 * 4) - IntKind.i64.wrap (x1 * n3))).toNat) (1) (1) (5) ([Value.int IntKind.u8 0]) (rep (IntKind.i64.wrap (arithZ BinOp.sub (IntKind.i64.wrap (arithZ BinOp.mul (divZ BinOp.quo IntKind.i64 (IntKind.i64.wrap (arithZ BinOp.add (IntKind.i64.wrap (arithZ BinOp.mul x1 n3)) 3)) 4) 4)) (IntKind.i64.wrap (arithZ BinOp.mul x1 n3)))).toNat ((fun x => x.cells.toList) (Value.int IntKind.u8 0))) fun p7 k17 k18 w32 =>
        (∃ v4 : Value,
          w32.cell? { block := k3, off := 0 } = some v4) ∧
        (w32.frozen? { block := k3, off := 0 } = false) ∧
        (¬k3 ∈ [k1]) ∧
        (I4 [Value.int IntKind.i64 (IntKind.i64.wrap (n6 - 1))] (setCells w32 { block := k3, off := 0 } [Value.slice p7 k17 k18] 0)) ∧
        m2 [Value.int IntKind.i64 (IntKind.i64.wrap (n6 - 1))] (setCells w32 { block := k3, off := 0 } [Value.slice p7 k17 k18] 0) < m2 [Value.int IntKind.i64 n6] w19))
      (∃ p8 : Option Addr,
      ∃ k19 : Nat,
      ∃ k20 : Nat,
      (w19.cell? { block := k3, off := 0 } = some (Value.slice p8 k19 k20)) ∧
      R (Ending.returned (Value.tuple #[Value.slice p8 k19 k20, Value.int IntKind.i64 0])) w19))
theorem calls_bmp_Encode (x1 : Int) (x2 : Int) (sa1 : Option Addr) (sl1 sc1 : Nat) (b1 : Bool) (w : World) (R : Ending → World → Prop) (h : vc_bmp_Encode x1 x2 sa1 sl1 sc1 b1 w R) : Calls P F.bmp_Encode #[.agg #[.int .i64 x1, .int .i64 x2, .slice sa1 sl1 sc1], .bool b1] w R :=
  calls_of_vc (fn := Tryd.f13) (ac := ac_bmp_Encode) (args := [.agg #[.int .i64 x1, .int .i64 x2, .slice sa1 sl1 sc1], .bool b1]) mixed Tryd.func13 (by kernel_rfl) (cast (by unfold vc_bmp_Encode FnVc; kernel_rfl) h)
/-- darkroom/darkroomref09.Copy -/
def vc_ref09_Copy (x1 : Int) (x2 : Int) (sa1 : Option Addr) (sl1 sc1 : Nat) (w : World) (R : Ending → World → Prop) : Prop :=
  ∀ k1 : Nat,
  (w.heap.size ≤ k1) →
  ∀ k2 : Nat,
  (w.heap.size ≤ k2) →
  ∀ w1 : World,
  (Locl ([k2, k1]) w w1) →
  ∀ k3 : Nat,
  ∀ w2 : World,
  (New w1 (Obj.cells #[] 42) k3 w2) →
  ∃ l1 : List Value,
  (l1.length = sl1 * 1) ∧
  (oneAll l1 = true) ∧
  (CellsAre w2 sa1 l1) ∧
  appVC (w2) ([(2, k2, [Value.int IntKind.i64 0, Value.int IntKind.i64 0, Value.slice none 0 0]), (1, k1, [Value.int IntKind.i64 x1, Value.int IntKind.i64 x2, Value.slice sa1 sl1 sc1])]) (some { block := k3, off := 0 }) (0) (0) (sl1) (1) (2) (42) ([Value.int IntKind.u16 0]) (l1) fun p1 k4 k5 w3 =>
  ∀ w4 : World,
  (Locl ([k2, k1]) w3 w4) →
  R (Ending.returned (Value.agg #[Value.int IntKind.i64 x1, Value.int IntKind.i64 x2, Value.slice p1 k4 k5])) w4
theorem calls_ref09_Copy (x1 : Int) (x2 : Int) (sa1 : Option Addr) (sl1 sc1 : Nat) (w : World) (R : Ending → World → Prop) (h : vc_ref09_Copy x1 x2 sa1 sl1 sc1 w R) : Calls P F.ref09_Copy #[.agg #[.int .i64 x1, .int .i64 x2, .slice sa1 sl1 sc1]] w R :=
  calls_of_vc (fn := Tryd.f14) (ac := ac_ref09_Copy) (args := [.agg #[.int .i64 x1, .int .i64 x2, .slice sa1 sl1 sc1]]) mixed Tryd.func14 (by kernel_rfl) (cast (by unfold vc_ref09_Copy FnVc; kernel_rfl) h)
/-- darkroom/darkroomref11.Encode -/
def vc_ref11_Encode (x1 : Int) (x2 : Int) (sa1 : Option Addr) (sl1 sc1 : Nat) (b1 : Bool) (w : World) (R : Ending → World → Prop) : Prop :=
  ∀ k1 : Nat,
  (w.heap.size ≤ k1) →
  ∀ w1 : World,
  (Locl ([k1]) w w1) →
  Calls P F.ref09_Good #[Value.agg #[Value.int IntKind.i64 x1, Value.int IntKind.i64 x2, Value.slice sa1 sl1 sc1]] w1 fun e1 w2 =>
  ∃ c1 : Bool,
  (e1 = Ending.returned (Value.bool c1)) ∧
  (Keep ([k1]) w1 w2) ∧
  brB (!c1)
    (R (Ending.returned (Value.tuple #[Value.slice none 0 0, Value.int IntKind.i64 6])) w2)
    (∃ I1 : List Value → World → Prop,
    (brB (b1)
        (I1 [Value.int IntKind.i64 108, Value.int IntKind.i64 32] w2)
        (I1 [Value.int IntKind.i64 40, Value.int IntKind.i64 24] w2)) ∧
    ∀ n1 : Int,
    ∀ n2 : Int,
    ∀ w3 : World,
    (I1 [Value.int IntKind.i64 n1, Value.int IntKind.i64 n2] w3) →
    (0 ≤ IntKind.i64.wrap (14 + n1)) ∧
    (IntKind.i64.wrap (14 + n1) ≤ IntKind.i64.wrap (14 + n1)) ∧
    (IntKind.i64.wrap (14 + n1) * 1 ≤ 281474976710656) ∧
    (IntKind.i64.wrap (14 + n1) < 4611686018427387904) ∧
    ∀ k2 : Nat,
    ∀ w4 : World,
    (New w3 (Obj.cells (mkCells [Value.int IntKind.u8 0] (IntKind.i64.wrap (14 + n1)).toNat) 5) k2 w4) →
    idx (some { block := k2, off := 0 }) ((IntKind.i64.wrap (14 + n1)).toNat) (0) (1) fun a1 =>
    (∃ v1 : Value,
      w4.cell? a1 = some v1) ∧
    (w4.frozen? a1 = false) ∧
    (¬a1.block ∈ [k1]) ∧
    idx (some { block := k2, off := 0 }) ((IntKind.i64.wrap (14 + n1)).toNat) (1) (1) fun a2 =>
    (∃ v2 : Value,
      (setCells w4 a1 [Value.int IntKind.u8 66] 0).cell? a2 = some v2) ∧
    ((setCells w4 a1 [Value.int IntKind.u8 66] 0).frozen? a2 = false) ∧
    (¬a2.block ∈ [k1]) ∧
    Calls P F.ref11_set #[Value.slice (some { block := k2, off := 0 }) (IntKind.i64.wrap (14 + n1)).toNat (IntKind.i64.wrap (14 + n1)).toNat, Value.int IntKind.i64 2, Value.int IntKind.i64 4, Value.int IntKind.i64 (IntKind.i64.wrap (IntKind.i64.wrap (14 + n1) + IntKind.i64.wrap (IntKind.i64.wrap (divZ BinOp.quo IntKind.i64 (IntKind.i64.wrap (IntKind.i64.wrap (x1 * n2) + 31)) 32 * 4) * x2)))] (setCells (setCells w4 a1 [Value.int IntKind.u8 66] 0) a2 [Value.int IntKind.u8 77] 0) fun e2 w5 =>
    ∃ p1 : Option Addr,
    ∃ k3 : Nat,
    ∃ k4 : Nat,
    (e2 = Ending.returned (Value.slice p1 k3 k4)) ∧
    (Keep ([k1]) (setCells (setCells w4 a1 [Value.int IntKind.u8 66] 0) a2 [Value.int IntKind.u8 77] 0) w5) ∧
    Calls P F.ref11_set #[Value.slice p1 k3 k4, Value.int IntKind.i64 10, Value.int IntKind.i64 4, Value.int IntKind.i64 (IntKind.i64.wrap (14 + n1))] w5 fun e3 w6 =>
    ∃ p2 : Option Addr,
    ∃ k5 : Nat,
    ∃ k6 : Nat,
    (e3 = Ending.returned (Value.slice p2 k5 k6)) ∧
    (Keep ([k1]) w5 w6) ∧
    Calls P F.ref11_set #[Value.slice p2 k5 k6, Value.int IntKind.i64 14, Value.int IntKind.i64 4, Value.int IntKind.i64 n1] w6 fun e4 w7 =>
    ∃ p3 : Option Addr,
    ∃ k7 : Nat,
    ∃ k8 : Nat,
    (e4 = Ending.returned (Value.slice p3 k7 k8)) ∧
    (Keep ([k1]) w6 w7) ∧
    Calls P F.ref11_set #[Value.slice p3 k7 k8, Value.int IntKind.i64 18, Value.int IntKind.i64 4, Value.int IntKind.i64 x1] w7 fun e5 w8 =>
    ∃ p4 : Option Addr,
    ∃ k9 : Nat,
    ∃ k10 : Nat,
    (e5 = Ending.returned (Value.slice p4 k9 k10)) ∧
    (Keep ([k1]) w7 w8) ∧
    Calls P F.ref11_set #[Value.slice p4 k9 k10, Value.int IntKind.i64 22, Value.int IntKind.i64 4, Value.int IntKind.i64 x2] w8 fun e6 w9 =>
    ∃ p5 : Option Addr,
    ∃ k11 : Nat,
    ∃ k12 : Nat,
    (e6 = Ending.returned (Value.slice p5 k11 k12)) ∧
    (Keep ([k1]) w8 w9) ∧
    Calls P F.ref11_set #[Value.slice p5 k11 k12, Value.int IntKind.i64 26, Value.int IntKind.i64 2, Value.int IntKind.i64 1] w9 fun e7 w10 =>
    ∃ p6 : Option Addr,
    ∃ k13 : Nat,
    ∃ k14 : Nat,
    (e7 = Ending.returned (Value.slice p6 k13 k14)) ∧
    (Keep ([k1]) w9 w10) ∧
    Calls P F.ref11_set #[Value.slice p6 k13 k14, Value.int IntKind.i64 28, Value.int IntKind.i64 2, Value.int IntKind.i64 n2] w10 fun e8 w11 =>
    ∃ p7 : Option Addr,
    ∃ k15 : Nat,
    ∃ k16 : Nat,
    (e8 = Ending.returned (Value.slice p7 k15 k16)) ∧
    (Keep ([k1]) w10 w11) ∧
    Calls P F.ref11_set #[Value.slice p7 k15 k16, Value.int IntKind.i64 34, Value.int IntKind.i64 4, Value.int IntKind.i64 (IntKind.i64.wrap (IntKind.i64.wrap (divZ BinOp.quo IntKind.i64 (IntKind.i64.wrap (IntKind.i64.wrap (x1 * n2) + 31)) 32 * 4) * x2))] w11 fun e9 w12 =>
    ∃ p8 : Option Addr,
    ∃ k17 : Nat,
    ∃ k18 : Nat,
    (e9 = Ending.returned (Value.slice p8 k17 k18)) ∧
    (Keep ([k1]) w11 w12) ∧
    ∃ I2 : List Value → World → Prop,
    (brB (b1)
        (Calls P F.ref11_set #[Value.slice p8 k17 k18, Value.int IntKind.i64 30, Value.int IntKind.i64 4, Value.int IntKind.i64 3] w12 fun e10 w13 =>
        ∃ p9 : Option Addr,
        ∃ k19 : Nat,
        ∃ k20 : Nat,
        (e10 = Ending.returned (Value.slice p9 k19 k20)) ∧
        (Keep ([k1]) w12 w13) ∧
        Calls P F.ref11_set #[Value.slice p9 k19 k20, Value.int IntKind.i64 54, Value.int IntKind.i64 4, Value.int IntKind.i64 16711680] w13 fun e11 w14 =>
        ∃ p10 : Option Addr,
        ∃ k21 : Nat,
        ∃ k22 : Nat,
        (e11 = Ending.returned (Value.slice p10 k21 k22)) ∧
        (Keep ([k1]) w13 w14) ∧
        Calls P F.ref11_set #[Value.slice p10 k21 k22, Value.int IntKind.i64 58, Value.int IntKind.i64 4, Value.int IntKind.i64 65280] w14 fun e12 w15 =>
        ∃ p11 : Option Addr,
        ∃ k23 : Nat,
        ∃ k24 : Nat,
        (e12 = Ending.returned (Value.slice p11 k23 k24)) ∧
        (Keep ([k1]) w14 w15) ∧
        Calls P F.ref11_set #[Value.slice p11 k23 k24, Value.int IntKind.i64 62, Value.int IntKind.i64 4, Value.int IntKind.i64 255] w15 fun e13 w16 =>
        ∃ p12 : Option Addr,
        ∃ k25 : Nat,
        ∃ k26 : Nat,
        (e13 = Ending.returned (Value.slice p12 k25 k26)) ∧
        (Keep ([k1]) w15 w16) ∧
        Calls P F.ref11_set #[Value.slice p12 k25 k26, Value.int IntKind.i64 66, Value.int IntKind.i64 4, Value.int IntKind.i64 4278190080] w16 fun e14 w17 =>
        ∃ p13 : Option Addr,
        ∃ k27 : Nat,
        ∃ k28 : Nat,
        (e14 = Ending.returned (Value.slice p13 k27 k28)) ∧
        (Keep ([k1]) w16 w17) ∧
        I2 [Value.slice p13 k27 k28] w17)
        (I2 [Value.slice p8 k17 k18] w12)) ∧
    ∀ p14 : Option Addr,
    ∀ k29 : Nat,
    ∀ k30 : Nat,
    ∀ w18 : World,
    (I2 [Value.slice p14 k29 k30] w18) →
    ∃ I3 : List Value → World → Prop,
    ∃ m1 : List Value → World → Nat,
    (I3 [Value.slice p14 k29 k30, Value.int IntKind.i64 (IntKind.i64.wrap (x2 - 1))] w18) ∧
    ∀ p15 : Option Addr,
    ∀ k31 : Nat,
    ∀ k32 : Nat,
    ∀ n3 : Int,
    ∀ w19 : World,
    (I3 [Value.slice p15 k31 k32, Value.int IntKind.i64 n3] w19) →
    brB (decide (n3 ≥ 0))
      (∃ I4 : List Value → World → Prop,
      ∃ m2 : List Value → World → Nat,
      (I4 [Value.slice none 0 0, Value.int IntKind.i64 0] w19) ∧
      ∀ p16 : Option Addr,
      ∀ k33 : Nat,
      ∀ k34 : Nat,
      ∀ n4 : Int,
      ∀ w20 : World,
      (I4 [Value.slice p16 k33 k34, Value.int IntKind.i64 n4] w20) →
      brB (decide (n4 < x1))
        (∃ I5 : List Value → World → Prop,
        (Calls P F.ref09_Pixel #[Value.agg #[Value.int IntKind.i64 x1, Value.int IntKind.i64 x2, Value.slice sa1 sl1 sc1], Value.int IntKind.i64 n4, Value.int IntKind.i64 n3] w20 fun e15 w21 =>
          ∃ n5 : Int,
          ∃ n6 : Int,
          ∃ n7 : Int,
          ∃ n8 : Int,
          (e15 = Ending.returned (Value.agg #[Value.int IntKind.u16 n5, Value.int IntKind.u16 n6, Value.int IntKind.u16 n7, Value.int IntKind.u16 n8])) ∧
          (Keep ([k1]) w20 w21) ∧
          ∀ k35 : Nat,
          (w21.heap.size ≤ k35) →
          ∀ w22 : World,
          (Locl ([k35, k1]) w21 w22) →
          Calls P F.ref11_down #[Value.int IntKind.u16 n7] w22 fun e16 w23 =>
          ∃ n9 : Int,
          (e16 = Ending.returned (Value.int IntKind.u8 n9)) ∧
          (Keep ([k35, k1]) w22 w23) ∧
          (Keeps w22 w23) ∧
          Calls P F.ref11_down #[Value.int IntKind.u16 n6] w23 fun e17 w24 =>
          ∃ n10 : Int,
          (e17 = Ending.returned (Value.int IntKind.u8 n10)) ∧
          (Keep ([k35, k1]) w23 w24) ∧
          (Keeps w23 w24) ∧
          Calls P F.ref11_down #[Value.int IntKind.u16 n5] w24 fun e18 w25 =>
          ∃ n11 : Int,
          (e18 = Ending.returned (Value.int IntKind.u8 n11)) ∧
          (Keep ([k35, k1]) w24 w25) ∧
          ∀ k36 : Nat,
          (w25.heap.size ≤ k36) →
          ∀ w26 : World,
          (Locl ([k36, k35, k1]) w25 w26) →
          appVC (w26) ([(105, k36, [Value.int IntKind.u8 n9, Value.int IntKind.u8 n10, Value.int IntKind.u8 n11]), (13, k35, [Value.int IntKind.u16 n5, Value.int IntKind.u16 n6, Value.int IntKind.u16 n7, Value.int IntKind.u16 n8]), (2, k1, [Value.int IntKind.i64 x1, Value.int IntKind.i64 x2, Value.slice sa1 sl1 sc1])]) (p16) (k33) (k34) (3) (1) (1) (5) ([Value.int IntKind.u8 0]) ([Value.int IntKind.u8 n9, Value.int IntKind.u8 n10, Value.int IntKind.u8 n11]) fun p17 k37 k38 w27 =>
          brB (b1)
            (Calls P F.ref11_down #[Value.int IntKind.u16 n8] w27 fun e19 w28 =>
            ∃ n12 : Int,
            (e19 = Ending.returned (Value.int IntKind.u8 n12)) ∧
            (Keep ([k36, k35, k1]) w27 w28) ∧
            ∀ k39 : Nat,
            (w28.heap.size ≤ k39) →
            ∀ w29 : World,
            (Locl ([k39, k36, k35, k1]) w28 w29) →
            appVC (w29) ([(112, k39, [Value.int IntKind.u8 n12]), (105, k36, [Value.int IntKind.u8 n9, Value.int IntKind.u8 n10, Value.int IntKind.u8 n11]), (13, k35, [Value.int IntKind.u16 n5, Value.int IntKind.u16 n6, Value.int IntKind.u16 n7, Value.int IntKind.u16 n8]), (2, k1, [Value.int IntKind.i64 x1, Value.int IntKind.i64 x2, Value.slice sa1 sl1 sc1])]) (p17) (k37) (k38) (1) (1) (1) (5) ([Value.int IntKind.u8 0]) ([Value.int IntKind.u8 n12]) fun p18 k40 k41 w30 =>
            I5 [Value.slice p18 k40 k41] w30)
            (I5 [Value.slice p17 k37 k38] w27)) ∧
        ∀ p19 : Option Addr,
        ∀ k42 : Nat,
        ∀ k43 : Nat,
        ∀ w31 : World,
        (I5 [Value.slice p19 k42 k43] w31) →
        (I4 [Value.slice p19 k42 k43, Value.int IntKind.i64 (IntKind.i64.wrap (n4 + 1))] w31) ∧
        m2 [Value.slice p19 k42 k43, Value.int IntKind.i64 (IntKind.i64.wrap (n4 + 1))] w31 < m2 [Value.slice p16 k33 k34, Value.int IntKind.i64 n4] w20)
        (∃ I6 : List Value → World → Prop,
        ∃ m3 : List Value → World → Nat,
        (I6 [Value.slice p16 k33 k34] w20) ∧
        ∀ p20 : Option Addr,
        ∀ k44 : Nat,
        ∀ k45 : Nat,
        ∀ w32 : World,
        (I6 [Value.slice p20 k44 k45] w32) →
        brB (decide ((↑k44 : Int) < IntKind.i64.wrap (divZ BinOp.quo IntKind.i64 (IntKind.i64.wrap (IntKind.i64.wrap (x1 * n2) + 31)) 32 * 4)))
          (∀ k46 : Nat,
          (w32.heap.size ≤ k46) →
          ∀ w33 : World,
          (Locl ([k46, k1]) w32 w33) →
          appVC (w33) ([(119, k46, [Value.int IntKind.u8 0]), (2, k1, [Value.int IntKind.i64 x1, Value.int IntKind.i64 x2, Value.slice sa1 sl1 sc1])]) (p20) (k44) (k45) (1) (1) (1) (5) ([Value.int IntKind.u8 0]) ([Value.int IntKind.u8 0]) fun p21 k47 k48 w34 =>
          (I6 [Value.slice p21 k47 k48] w34) ∧
          m3 [Value.slice p21 k47 k48] w34 < m3 [Value.slice p20 k44 k45] w32)
          (∃ l1 : List Value,
          (l1.length = k44 * 1) ∧
          (oneAll l1 = true) ∧
          (CellsAre w32 p20 l1) ∧
          appVC (w32) ([(2, k1, [Value.int IntKind.i64 x1, Value.int IntKind.i64 x2, Value.slice sa1 sl1 sc1])]) (p15) (k31) (k32) (k44) (1) (1) (5) ([Value.int IntKind.u8 0]) (l1) fun p22 k49 k50 w35 =>
          (I3 [Value.slice p22 k49 k50, Value.int IntKind.i64 (IntKind.i64.wrap (n3 - 1))] w35) ∧
          m1 [Value.slice p22 k49 k50, Value.int IntKind.i64 (IntKind.i64.wrap (n3 - 1))] w35 < m1 [Value.slice p15 k31 k32, Value.int IntKind.i64 n3] w19)))
      (R (Ending.returned (Value.tuple #[Value.slice p15 k31 k32, Value.int IntKind.i64 0])) w19))
theorem calls_ref11_Encode (x1 : Int) (x2 : Int) (sa1 : Option Addr) (sl1 sc1 : Nat) (b1 : Bool) (w : World) (R : Ending → World → Prop) (h : vc_ref11_Encode x1 x2 sa1 sl1 sc1 b1 w R) : Calls P F.ref11_Encode #[.agg #[.int .i64 x1, .int .i64 x2, .slice sa1 sl1 sc1], .bool b1] w R :=
  calls_of_vc (fn := Tryd.f15) (ac := ac_ref11_Encode) (args := [.agg #[.int .i64 x1, .int .i64 x2, .slice sa1 sl1 sc1], .bool b1]) mixed Tryd.func15 (by kernel_rfl) (cast (by unfold vc_ref11_Encode FnVc; kernel_rfl) h)
/-- darkroom/darkroomref01.Same -/
def vc_ref01_Same (sa1 : Option Addr) (sl1 sc1 : Nat) (sa2 : Option Addr) (sl2 sc2 : Nat) (w : World) (R : Ending → World → Prop) : Prop :=
  brB ((↑sl1 : Int) != (↑sl2 : Int))
    (R (Ending.returned (Value.bool false)) w)
    (∃ I1 : List Value → World → Prop,
    ∃ m1 : List Value → World → Nat,
    (I1 [Value.int IntKind.i64 0] w) ∧
    ∀ n1 : Int,
    ∀ w1 : World,
    (I1 [Value.int IntKind.i64 n1] w1) →
    brB (decide (n1 < (↑sl1 : Int)))
      (idx (sa1) (sl1) (n1) (1) fun a1 =>
      ∃ n2 : Int,
      (w1.drew.cell? a1 = some (Value.int IntKind.u8 n2)) ∧
      idx (sa2) (sl2) (n1) (1) fun a2 =>
      ∃ n3 : Int,
      (w1.drew.cell? a2 = some (Value.int IntKind.u8 n3)) ∧
      brB (n2 != n3)
        (R (Ending.returned (Value.bool false)) w1.drew)
        ((I1 [Value.int IntKind.i64 (IntKind.i64.wrap (n1 + 1))] w1.drew) ∧
        m1 [Value.int IntKind.i64 (IntKind.i64.wrap (n1 + 1))] w1.drew < m1 [Value.int IntKind.i64 n1] w1))
      (R (Ending.returned (Value.bool true)) w1))
theorem calls_ref01_Same (sa1 : Option Addr) (sl1 sc1 : Nat) (sa2 : Option Addr) (sl2 sc2 : Nat) (w : World) (R : Ending → World → Prop) (h : vc_ref01_Same sa1 sl1 sc1 sa2 sl2 sc2 w R) : Calls P F.ref01_Same #[.slice sa1 sl1 sc1, .slice sa2 sl2 sc2] w R :=
  calls_of_vc (fn := Tryd.f16) (ac := ac_ref01_Same) (args := [.slice sa1 sl1 sc1, .slice sa2 sl2 sc2]) mixed Tryd.func16 (by kernel_rfl) (cast (by unfold vc_ref01_Same FnVc; kernel_rfl) h)
/-- darkroom/darkroomref08.Round -/
def vc_ref08_Round (x1 : Int) (x2 : Int) (w : World) (R : Ending → World → Prop) : Prop :=
  Calls P F.ref08_Down #[Value.int IntKind.u16 x1, Value.int IntKind.i64 x2] w fun e1 w1 =>
  ∃ n1 : Int,
  ∃ n2 : Int,
  (e1 = Ending.returned (Value.tuple #[Value.int IntKind.i64 n1, Value.int IntKind.i64 n2])) ∧
  Calls P F.ref08_Up #[Value.int IntKind.i64 n1, Value.int IntKind.i64 x2] w1 fun e2 w2 =>
  ∃ n3 : Int,
  ∃ n4 : Int,
  (e2 = Ending.returned (Value.tuple #[Value.int IntKind.u16 n3, Value.int IntKind.i64 n4])) ∧
  R (Ending.returned (Value.int IntKind.u16 n3)) w2
theorem calls_ref08_Round (x1 : Int) (x2 : Int) (w : World) (R : Ending → World → Prop) (h : vc_ref08_Round x1 x2 w R) : Calls P F.ref08_Round #[.int .u16 x1, .int .i64 x2] w R :=
  calls_of_vc (fn := Tryd.f17) (ac := ac_ref08_Round) (args := [.int .u16 x1, .int .i64 x2]) mixed Tryd.func17 (by kernel_rfl) (cast (by unfold vc_ref08_Round FnVc; kernel_rfl) h)
/-- darkroom/darkroomref01.Set -/
def vc_ref01_Set (sa1 : Option Addr) (sl1 sc1 : Nat) (x1 : Int) (x2 : Int) (b1 : Bool) (x3 : Int) (w : World) (R : Ending → World → Prop) : Prop :=
  Calls P F.ref01_Get #[Value.slice sa1 sl1 sc1, Value.int IntKind.i64 x1, Value.int IntKind.i64 x2, Value.bool b1] w fun e1 w1 =>
  ∃ n1 : Int,
  ∃ n2 : Int,
  (e1 = Ending.returned (Value.tuple #[Value.int IntKind.u32 n1, Value.int IntKind.i64 n2])) ∧
  brB (n2 != 0)
    (R (Ending.returned (Value.tuple #[Value.slice none 0 0, Value.int IntKind.i64 n2])) w1)
    (∀ k1 : Nat,
    ∀ w2 : World,
    (New w1 (Obj.cells #[] 5) k1 w2) →
    ∃ l1 : List Value,
    (l1.length = sl1 * 1) ∧
    (oneAll l1 = true) ∧
    (CellsAre w2 sa1 l1) ∧
    appVC (w2) ([]) (some { block := k1, off := 0 }) (0) (0) (sl1) (1) (1) (5) ([Value.int IntKind.u8 0]) (l1) fun p1 k2 k3 w3 =>
    ∃ I1 : List Value → World → Prop,
    ∃ m1 : List Value → World → Nat,
    (I1 [Value.int IntKind.i64 0] w3) ∧
    ∀ n3 : Int,
    ∀ w4 : World,
    (I1 [Value.int IntKind.i64 n3] w4) →
    brB (decide (n3 < x2))
      (∃ I2 : List Value → World → Prop,
      (brB (b1)
          (I2 [Value.int IntKind.i64 (IntKind.i64.wrap (IntKind.i64.wrap (x2 - 1) - n3))] w4)
          (I2 [Value.int IntKind.i64 n3] w4)) ∧
      ∀ n4 : Int,
      ∀ w5 : World,
      (I2 [Value.int IntKind.i64 n4] w5) →
      (0 ≤ IntKind.u64.wrap (IntKind.i64.wrap (8 * n4))) ∧
      idx (p1) (k2) (IntKind.i64.wrap (x1 + n3)) (1) fun a1 =>
      (∃ v1 : Value,
        w5.cell? a1 = some v1) ∧
      (w5.frozen? a1 = false) ∧
      (I1 [Value.int IntKind.i64 (IntKind.i64.wrap (n3 + 1))] (setCells w5 a1 [Value.int IntKind.u8 (IntKind.u8.wrap (shiftZ BinOp.shr IntKind.u32 x3 (IntKind.u64.wrap (IntKind.i64.wrap (8 * n4)))))] 0)) ∧
      m1 [Value.int IntKind.i64 (IntKind.i64.wrap (n3 + 1))] (setCells w5 a1 [Value.int IntKind.u8 (IntKind.u8.wrap (shiftZ BinOp.shr IntKind.u32 x3 (IntKind.u64.wrap (IntKind.i64.wrap (8 * n4)))))] 0) < m1 [Value.int IntKind.i64 n3] w4)
      (R (Ending.returned (Value.tuple #[Value.slice p1 k2 k3, Value.int IntKind.i64 0])) w4))
theorem calls_ref01_Set (sa1 : Option Addr) (sl1 sc1 : Nat) (x1 : Int) (x2 : Int) (b1 : Bool) (x3 : Int) (w : World) (R : Ending → World → Prop) (h : vc_ref01_Set sa1 sl1 sc1 x1 x2 b1 x3 w R) : Calls P F.ref01_Set #[.slice sa1 sl1 sc1, .int .i64 x1, .int .i64 x2, .bool b1, .int .u32 x3] w R :=
  calls_of_vc (fn := Tryd.f18) (ac := ac_ref01_Set) (args := [.slice sa1 sl1 sc1, .int .i64 x1, .int .i64 x2, .bool b1, .int .u32 x3]) mixed Tryd.func18 (by kernel_rfl) (cast (by unfold vc_ref01_Set FnVc; kernel_rfl) h)
/-- darkroom/darkroomref09.Fill -/
def vc_ref09_Fill (x1 : Int) (x2 : Int) (x3 : Int) (x4 : Int) (x5 : Int) (x6 : Int) (w : World) (R : Ending → World → Prop) : Prop :=
  ∀ k1 : Nat,
  (w.heap.size ≤ k1) →
  ∀ k2 : Nat,
  (w.heap.size ≤ k2) →
  ∀ w1 : World,
  (Locl ([k2, k1]) w w1) →
  Calls P F.ref07_Fits #[Value.int IntKind.i64 x1, Value.int IntKind.i64 x2] w1 fun e1 w2 =>
  ∃ c1 : Bool,
  (e1 = Ending.returned (Value.bool c1)) ∧
  (Keep ([k2, k1]) w1 w2) ∧
  brB (!c1)
    (∀ w3 : World,
    (Locl ([k2, k1]) w2 w3) →
    R (Ending.returned (Value.tuple #[Value.agg #[Value.int IntKind.i64 0, Value.int IntKind.i64 0, Value.slice none 0 0], Value.int IntKind.i64 4])) w3)
    (∀ k3 : Nat,
    (w2.heap.size ≤ k3) →
    ∃ I1 : List Value → World → Prop,
    ∃ m1 : List Value → World → Nat,
    (∀ w4 : World,
      (Locl ([k3, k2, k1]) w2 w4) →
      I1 [Value.int IntKind.i64 0, Value.int IntKind.i64 x1, Value.int IntKind.i64 x2, Value.slice none 0 0] w4) ∧
    ∀ n1 : Int,
    ∀ n2 : Int,
    ∀ n3 : Int,
    ∀ p1 : Option Addr,
    ∀ k4 : Nat,
    ∀ k5 : Nat,
    ∀ w5 : World,
    (I1 [Value.int IntKind.i64 n1, Value.int IntKind.i64 n2, Value.int IntKind.i64 n3, Value.slice p1 k4 k5] w5) →
    brB (decide (n1 < IntKind.i64.wrap (x1 * x2)))
      (Calls P F.ref09_Add #[Value.agg #[Value.int IntKind.i64 n2, Value.int IntKind.i64 n3, Value.slice p1 k4 k5], Value.agg #[Value.int IntKind.u16 x3, Value.int IntKind.u16 x4, Value.int IntKind.u16 x5, Value.int IntKind.u16 x6]] w5 fun e2 w6 =>
      ∃ n4 : Int,
      ∃ n5 : Int,
      ∃ p2 : Option Addr,
      ∃ k6 : Nat,
      ∃ k7 : Nat,
      (e2 = Ending.returned (Value.agg #[Value.int IntKind.i64 n4, Value.int IntKind.i64 n5, Value.slice p2 k6 k7])) ∧
      (Keep ([k3, k2, k1]) w5 w6) ∧
      ∀ w7 : World,
      (Locl ([k3, k2, k1]) w6 w7) →
      (I1 [Value.int IntKind.i64 (IntKind.i64.wrap (n1 + 1)), Value.int IntKind.i64 n4, Value.int IntKind.i64 n5, Value.slice p2 k6 k7] w7) ∧
      m1 [Value.int IntKind.i64 (IntKind.i64.wrap (n1 + 1)), Value.int IntKind.i64 n4, Value.int IntKind.i64 n5, Value.slice p2 k6 k7] w7 < m1 [Value.int IntKind.i64 n1, Value.int IntKind.i64 n2, Value.int IntKind.i64 n3, Value.slice p1 k4 k5] w5)
      (∀ w8 : World,
      (Locl ([k3, k2, k1]) w5 w8) →
      R (Ending.returned (Value.tuple #[Value.agg #[Value.int IntKind.i64 n2, Value.int IntKind.i64 n3, Value.slice p1 k4 k5], Value.int IntKind.i64 0])) w8))
theorem calls_ref09_Fill (x1 : Int) (x2 : Int) (x3 : Int) (x4 : Int) (x5 : Int) (x6 : Int) (w : World) (R : Ending → World → Prop) (h : vc_ref09_Fill x1 x2 x3 x4 x5 x6 w R) : Calls P F.ref09_Fill #[.int .i64 x1, .int .i64 x2, .agg #[.int .u16 x3, .int .u16 x4, .int .u16 x5, .int .u16 x6]] w R :=
  calls_of_vc (fn := Tryd.f19) (ac := ac_ref09_Fill) (args := [.int .i64 x1, .int .i64 x2, .agg #[.int .u16 x3, .int .u16 x4, .int .u16 x5, .int .u16 x6]]) mixed Tryd.func19 (by kernel_rfl) (cast (by unfold vc_ref09_Fill FnVc; kernel_rfl) h)
/-- (*darkroom/bmp.file).runs -/
def vc_bmp_file_runs (q1 : Option Addr) (w : World) (R : Ending → World → Prop) : Prop :=
  ∀ k1 : Nat,
  (w.heap.size ≤ k1) →
  nn (q1) fun a1 =>
  ∀ w1 : World,
  (Locl ([k1]) w w1) →
  ∃ n1 : Int,
  (w1.cell? (a1.add 1) = some (Value.int IntKind.i64 n1)) ∧
  nn (q1) fun a2 =>
  ∃ n2 : Int,
  (w1.cell? (a2.add 2) = some (Value.int IntKind.i64 n2)) ∧
  ∀ k2 : Nat,
  ∀ w2 : World,
  (New w1 (Obj.cells #[Value.int IntKind.i64 0, Value.int IntKind.i64 0, Value.slice none 0 0] 26) k2 w2) →
  (∃ v1 : Value,
    w2.cell? { block := k2, off := 0 } = some v1) ∧
  (w2.frozen? { block := k2, off := 0 } = false) ∧
  (∃ v2 : Value,
    w2.cell? { block := k2, off := 1 } = some v2) ∧
  (w2.frozen? { block := k2, off := 1 } = false) ∧
  (∃ v3 : Value,
    w2.cell? { block := k2, off := 2 } = some v3) ∧
  (w2.frozen? { block := k2, off := 2 } = false) ∧
  (¬k2 ∈ [k1]) ∧
  nn (q1) fun a3 =>
  ∃ n3 : Int,
  ((setCells w2 { block := k2, off := 0 } [Value.int IntKind.i64 n1, Value.int IntKind.i64 n2, Value.slice none 0 0] 0).drew.cell? (a3.add 1) = some (Value.int IntKind.i64 n3)) ∧
  nn (q1) fun a4 =>
  ∃ n4 : Int,
  ((setCells w2 { block := k2, off := 0 } [Value.int IntKind.i64 n1, Value.int IntKind.i64 n2, Value.slice none 0 0] 0).drew.cell? (a4.add 2) = some (Value.int IntKind.i64 n4)) ∧
  (0 ≤ IntKind.i64.wrap (n3 * n4)) ∧
  (IntKind.i64.wrap (n3 * n4) ≤ IntKind.i64.wrap (n3 * n4)) ∧
  (IntKind.i64.wrap (n3 * n4) * 8 ≤ 281474976710656) ∧
  (IntKind.i64.wrap (n3 * n4) < 4611686018427387904) ∧
  ∀ k3 : Nat,
  ∀ w3 : World,
  (New ((setCells w2 { block := k2, off := 0 } [Value.int IntKind.i64 n1, Value.int IntKind.i64 n2, Value.slice none 0 0] 0).drew) (Obj.cells (mkCells [Value.int IntKind.i64 0] (IntKind.i64.wrap (n3 * n4)).toNat) 3) k3 w3) →
  ∀ k4 : Nat,
  ∀ w4 : World,
  (New w3 (Obj.cells #[Value.pointer q1, Value.int IntKind.i64 0, Value.int IntKind.i64 0, Value.slice (some { block := k3, off := 0 }) (IntKind.i64.wrap (n3 * n4)).toNat (IntKind.i64.wrap (n3 * n4)).toNat] 95) k4 w4) →
  nn (q1) fun a5 =>
  ∃ p1 : Option Addr,
  ∃ k5 : Nat,
  ∃ k6 : Nat,
  (w4.drew.cell? a5 = some (Value.slice p1 k5 k6)) ∧
  nn (q1) fun a6 =>
  ∃ n5 : Int,
  (w4.drew.cell? (a6.add 6) = some (Value.int IntKind.i64 n5)) ∧
  slcc (p1) (k6) (n5) ((↑k5 : Int)) (1) fun p2 k7 k8 =>
  ∃ I1 : List Value → World → Prop,
  ∃ m1 : List Value → World → Nat,
  (I1 [Value.slice p2 k7 k8, Value.int IntKind.i64 0, Value.int IntKind.i64 0, Value.slice none 0 0] w4.drew) ∧
  ∀ p3 : Option Addr,
  ∀ k9 : Nat,
  ∀ k10 : Nat,
  ∀ n6 : Int,
  ∀ n7 : Int,
  ∀ p4 : Option Addr,
  ∀ k11 : Nat,
  ∀ k12 : Nat,
  ∀ w5 : World,
  (I1 [Value.slice p3 k9 k10, Value.int IntKind.i64 n6, Value.int IntKind.i64 n7, Value.slice p4 k11 k12] w5) →
  brB (decide ((↑k9 : Int) < 2))
    (∃ n8 : Int,
    ∃ n9 : Int,
    ∃ p5 : Option Addr,
    ∃ k13 : Nat,
    ∃ k14 : Nat,
    (w5.cell? { block := k2, off := 0 } = some (Value.int IntKind.i64 n8)) ∧
    (w5.cell? { block := k2, off := 1 } = some (Value.int IntKind.i64 n9)) ∧
    (w5.cell? { block := k2, off := 2 } = some (Value.slice p5 k13 k14)) ∧
    ∀ w6 : World,
    (Locl ([k1]) w5 w6) →
    R (Ending.returned (Value.tuple #[Value.agg #[Value.int IntKind.i64 n8, Value.int IntKind.i64 n9, Value.slice p5 k13 k14], Value.bool false])) w6)
    (idx (p3) (k9) (0) (1) fun a7 =>
    ∃ n10 : Int,
    (w5.drew.cell? a7 = some (Value.int IntKind.u8 n10)) ∧
    idx (p3) (k9) (1) (1) fun a8 =>
    ∃ n11 : Int,
    (w5.drew.cell? a8 = some (Value.int IntKind.u8 n11)) ∧
    slcc (p3) (k10) (2) ((↑k9 : Int)) (1) fun p6 k15 k16 =>
    ∃ I2 : List Value → World → Prop,
    (brB (decide (IntKind.i64.wrap n10 > 0))
        (∃ I3 : List Value → World → Prop,
        ∃ m2 : List Value → World → Nat,
        (I3 [Value.int IntKind.i64 0, Value.int IntKind.i64 n6, Value.int IntKind.i64 n7, Value.slice p4 k11 k12] w5.drew) ∧
        ∀ n12 : Int,
        ∀ n13 : Int,
        ∀ n14 : Int,
        ∀ p7 : Option Addr,
        ∀ k17 : Nat,
        ∀ k18 : Nat,
        ∀ w7 : World,
        (I3 [Value.int IntKind.i64 n12, Value.int IntKind.i64 n13, Value.int IntKind.i64 n14, Value.slice p7 k17 k18] w7) →
        brB (decide (n12 < IntKind.i64.wrap n10))
          (Calls P F.bmp_canvas_put #[Value.pointer (some { block := k4, off := 0 }), Value.int IntKind.i64 (IntKind.i64.wrap n11), Value.int IntKind.i64 n12] w7 fun e1 w8 =>
          ∃ c1 : Bool,
          (e1 = Ending.returned (Value.bool c1)) ∧
          (Keep ([k1]) w7 w8) ∧
          brB (!c1)
            (∃ n15 : Int,
            ∃ n16 : Int,
            ∃ p8 : Option Addr,
            ∃ k19 : Nat,
            ∃ k20 : Nat,
            (w8.cell? { block := k2, off := 0 } = some (Value.int IntKind.i64 n15)) ∧
            (w8.cell? { block := k2, off := 1 } = some (Value.int IntKind.i64 n16)) ∧
            (w8.cell? { block := k2, off := 2 } = some (Value.slice p8 k19 k20)) ∧
            ∀ w9 : World,
            (Locl ([k1]) w8 w9) →
            R (Ending.returned (Value.tuple #[Value.agg #[Value.int IntKind.i64 n15, Value.int IntKind.i64 n16, Value.slice p8 k19 k20], Value.bool false])) w9)
            ((I3 [Value.int IntKind.i64 (IntKind.i64.wrap (n12 + 1)), Value.int IntKind.i64 n13, Value.int IntKind.i64 n14, Value.slice p7 k17 k18] w8) ∧
            m2 [Value.int IntKind.i64 (IntKind.i64.wrap (n12 + 1)), Value.int IntKind.i64 n13, Value.int IntKind.i64 n14, Value.slice p7 k17 k18] w8 < m2 [Value.int IntKind.i64 n12, Value.int IntKind.i64 n13, Value.int IntKind.i64 n14, Value.slice p7 k17 k18] w7))
          (I2 [Value.slice p6 k15 k16, Value.int IntKind.i64 n13, Value.int IntKind.i64 n14, Value.slice p7 k17 k18] w7))
        (brB (IntKind.i64.wrap n11 == 0)
          (∃ n17 : Int,
          (w5.drew.cell? { block := k4, off := 2 } = some (Value.int IntKind.i64 n17)) ∧
          (∃ v4 : Value,
            w5.drew.cell? { block := k4, off := 1 } = some v4) ∧
          (w5.drew.frozen? { block := k4, off := 1 } = false) ∧
          (¬k4 ∈ [k1]) ∧
          (∃ v5 : Value,
            (setCells w5.drew { block := k4, off := 1 } [Value.int IntKind.i64 0] 0).cell? { block := k4, off := 2 } = some v5) ∧
          ((setCells w5.drew { block := k4, off := 1 } [Value.int IntKind.i64 0] 0).frozen? { block := k4, off := 2 } = false) ∧
          (¬k4 ∈ [k1]) ∧
          I2 [Value.slice p6 k15 k16, Value.int IntKind.i64 n6, Value.int IntKind.i64 n7, Value.slice p4 k11 k12] (setCells (setCells w5.drew { block := k4, off := 1 } [Value.int IntKind.i64 0] 0) { block := k4, off := 2 } [Value.int IntKind.i64 (IntKind.i64.wrap (n17 + 1))] 0))
          (brB (IntKind.i64.wrap n11 == 1)
            (∃ p9 : Option Addr,
            ∃ k21 : Nat,
            ∃ k22 : Nat,
            (w5.drew.cell? { block := k4, off := 3 } = some (Value.slice p9 k21 k22)) ∧
            ∃ I4 : List Value → World → Prop,
            ∃ m3 : List Value → World → Nat,
            (I4 [Value.int IntKind.i64 0, Value.int IntKind.i64 n6, Value.int IntKind.i64 n7, Value.slice p4 k11 k12] w5.drew) ∧
            ∀ n18 : Int,
            ∀ n19 : Int,
            ∀ n20 : Int,
            ∀ p10 : Option Addr,
            ∀ k23 : Nat,
            ∀ k24 : Nat,
            ∀ w10 : World,
            (I4 [Value.int IntKind.i64 n18, Value.int IntKind.i64 n19, Value.int IntKind.i64 n20, Value.slice p10 k23 k24] w10) →
            brB (decide (n18 < (↑k21 : Int)))
              (idx (p9) (k21) (n18) (1) fun a9 =>
              ∃ n21 : Int,
              (w10.cell? a9 = some (Value.int IntKind.i64 n21)) ∧
              Calls P F.bmp_file_index #[Value.pointer q1, Value.pointer (some { block := k2, off := 0 }), Value.int IntKind.i64 n21] w10 fun e2 w11 =>
              ∃ c2 : Bool,
              (e2 = Ending.returned (Value.bool c2)) ∧
              (Keep ([k1]) w10 w11) ∧
              brB (!c2)
                (∃ n22 : Int,
                ∃ n23 : Int,
                ∃ p11 : Option Addr,
                ∃ k25 : Nat,
                ∃ k26 : Nat,
                (w11.cell? { block := k2, off := 0 } = some (Value.int IntKind.i64 n22)) ∧
                (w11.cell? { block := k2, off := 1 } = some (Value.int IntKind.i64 n23)) ∧
                (w11.cell? { block := k2, off := 2 } = some (Value.slice p11 k25 k26)) ∧
                ∀ w12 : World,
                (Locl ([k1]) w11 w12) →
                R (Ending.returned (Value.tuple #[Value.agg #[Value.int IntKind.i64 n22, Value.int IntKind.i64 n23, Value.slice p11 k25 k26], Value.bool false])) w12)
                ((I4 [Value.int IntKind.i64 (IntKind.i64.wrap (n18 + 1)), Value.int IntKind.i64 n19, Value.int IntKind.i64 n20, Value.slice p10 k23 k24] w11) ∧
                m3 [Value.int IntKind.i64 (IntKind.i64.wrap (n18 + 1)), Value.int IntKind.i64 n19, Value.int IntKind.i64 n20, Value.slice p10 k23 k24] w11 < m3 [Value.int IntKind.i64 n18, Value.int IntKind.i64 n19, Value.int IntKind.i64 n20, Value.slice p10 k23 k24] w10))
              (∃ n24 : Int,
              ∃ n25 : Int,
              ∃ p12 : Option Addr,
              ∃ k27 : Nat,
              ∃ k28 : Nat,
              (w10.cell? { block := k2, off := 0 } = some (Value.int IntKind.i64 n24)) ∧
              (w10.cell? { block := k2, off := 1 } = some (Value.int IntKind.i64 n25)) ∧
              (w10.cell? { block := k2, off := 2 } = some (Value.slice p12 k27 k28)) ∧
              ∀ w13 : World,
              (Locl ([k1]) w10 w13) →
              R (Ending.returned (Value.tuple #[Value.agg #[Value.int IntKind.i64 n24, Value.int IntKind.i64 n25, Value.slice p12 k27 k28], Value.bool true])) w13))
            (brB (IntKind.i64.wrap n11 == 2)
              (brB (decide ((↑k15 : Int) < 2))
                (∃ n26 : Int,
                ∃ n27 : Int,
                ∃ p13 : Option Addr,
                ∃ k29 : Nat,
                ∃ k30 : Nat,
                (w5.drew.cell? { block := k2, off := 0 } = some (Value.int IntKind.i64 n26)) ∧
                (w5.drew.cell? { block := k2, off := 1 } = some (Value.int IntKind.i64 n27)) ∧
                (w5.drew.cell? { block := k2, off := 2 } = some (Value.slice p13 k29 k30)) ∧
                ∀ w14 : World,
                (Locl ([k1]) (w5.drew) w14) →
                R (Ending.returned (Value.tuple #[Value.agg #[Value.int IntKind.i64 n26, Value.int IntKind.i64 n27, Value.slice p13 k29 k30], Value.bool false])) w14)
                (∃ n28 : Int,
                (w5.drew.drew.cell? { block := k4, off := 1 } = some (Value.int IntKind.i64 n28)) ∧
                idx (p6) (k15) (0) (1) fun a10 =>
                ∃ n29 : Int,
                (w5.drew.drew.cell? a10 = some (Value.int IntKind.u8 n29)) ∧
                ∃ n30 : Int,
                (w5.drew.drew.cell? { block := k4, off := 2 } = some (Value.int IntKind.i64 n30)) ∧
                idx (p6) (k15) (1) (1) fun a11 =>
                ∃ n31 : Int,
                (w5.drew.drew.cell? a11 = some (Value.int IntKind.u8 n31)) ∧
                (∃ v6 : Value,
                  w5.drew.drew.cell? { block := k4, off := 1 } = some v6) ∧
                (w5.drew.drew.frozen? { block := k4, off := 1 } = false) ∧
                (¬k4 ∈ [k1]) ∧
                (∃ v7 : Value,
                  (setCells w5.drew.drew { block := k4, off := 1 } [Value.int IntKind.i64 (IntKind.i64.wrap (n28 + IntKind.i64.wrap n29))] 0).cell? { block := k4, off := 2 } = some v7) ∧
                ((setCells w5.drew.drew { block := k4, off := 1 } [Value.int IntKind.i64 (IntKind.i64.wrap (n28 + IntKind.i64.wrap n29))] 0).frozen? { block := k4, off := 2 } = false) ∧
                (¬k4 ∈ [k1]) ∧
                slcc (p6) (k16) (2) ((↑k15 : Int)) (1) fun p14 k31 k32 =>
                I2 [Value.slice p14 k31 k32, Value.int IntKind.i64 n6, Value.int IntKind.i64 n7, Value.slice p4 k11 k12] (setCells (setCells w5.drew.drew { block := k4, off := 1 } [Value.int IntKind.i64 (IntKind.i64.wrap (n28 + IntKind.i64.wrap n29))] 0) { block := k4, off := 2 } [Value.int IntKind.i64 (IntKind.i64.wrap (n30 + IntKind.i64.wrap n31))] 0)))
              (nn (q1) fun a12 =>
              ∃ n32 : Int,
              (w5.drew.cell? (a12.add 4) = some (Value.int IntKind.i64 n32)) ∧
              (n32 ≠ 0) ∧
              (divZ BinOp.quo IntKind.i64 8 n32 ≠ 0) ∧
              brB (decide ((↑k15 : Int) < IntKind.i64.wrap (divZ BinOp.quo IntKind.i64 (IntKind.i64.wrap (IntKind.i64.wrap (IntKind.i64.wrap n11 + divZ BinOp.quo IntKind.i64 8 n32) - 1)) (divZ BinOp.quo IntKind.i64 8 n32) + divZ BinOp.rem IntKind.i64 (divZ BinOp.quo IntKind.i64 (IntKind.i64.wrap (IntKind.i64.wrap (IntKind.i64.wrap n11 + divZ BinOp.quo IntKind.i64 8 n32) - 1)) (divZ BinOp.quo IntKind.i64 8 n32)) 2)))
                (∃ n33 : Int,
                ∃ n34 : Int,
                ∃ p15 : Option Addr,
                ∃ k33 : Nat,
                ∃ k34 : Nat,
                (w5.drew.cell? { block := k2, off := 0 } = some (Value.int IntKind.i64 n33)) ∧
                (w5.drew.cell? { block := k2, off := 1 } = some (Value.int IntKind.i64 n34)) ∧
                (w5.drew.cell? { block := k2, off := 2 } = some (Value.slice p15 k33 k34)) ∧
                ∀ w15 : World,
                (Locl ([k1]) (w5.drew) w15) →
                R (Ending.returned (Value.tuple #[Value.agg #[Value.int IntKind.i64 n33, Value.int IntKind.i64 n34, Value.slice p15 k33 k34], Value.bool false])) w15)
                (∃ I5 : List Value → World → Prop,
                ∃ m4 : List Value → World → Nat,
                (I5 [Value.int IntKind.i64 0, Value.int IntKind.i64 n6, Value.int IntKind.i64 n7, Value.slice p4 k11 k12] w5.drew) ∧
                ∀ n35 : Int,
                ∀ n36 : Int,
                ∀ n37 : Int,
                ∀ p16 : Option Addr,
                ∀ k35 : Nat,
                ∀ k36 : Nat,
                ∀ w16 : World,
                (I5 [Value.int IntKind.i64 n35, Value.int IntKind.i64 n36, Value.int IntKind.i64 n37, Value.slice p16 k35 k36] w16) →
                brB (decide (n35 < IntKind.i64.wrap n11))
                  ((divZ BinOp.quo IntKind.i64 8 n32 ≠ 0) ∧
                  idx (p6) (k15) (divZ BinOp.quo IntKind.i64 n35 (divZ BinOp.quo IntKind.i64 8 n32)) (1) fun a13 =>
                  ∃ n38 : Int,
                  (w16.cell? a13 = some (Value.int IntKind.u8 n38)) ∧
                  Calls P F.bmp_canvas_put #[Value.pointer (some { block := k4, off := 0 }), Value.int IntKind.i64 (IntKind.i64.wrap n38), Value.int IntKind.i64 n35] w16 fun e3 w17 =>
                  ∃ c3 : Bool,
                  (e3 = Ending.returned (Value.bool c3)) ∧
                  (Keep ([k1]) w16 w17) ∧
                  brB (!c3)
                    (∃ n39 : Int,
                    ∃ n40 : Int,
                    ∃ p17 : Option Addr,
                    ∃ k37 : Nat,
                    ∃ k38 : Nat,
                    (w17.cell? { block := k2, off := 0 } = some (Value.int IntKind.i64 n39)) ∧
                    (w17.cell? { block := k2, off := 1 } = some (Value.int IntKind.i64 n40)) ∧
                    (w17.cell? { block := k2, off := 2 } = some (Value.slice p17 k37 k38)) ∧
                    ∀ w18 : World,
                    (Locl ([k1]) w17 w18) →
                    R (Ending.returned (Value.tuple #[Value.agg #[Value.int IntKind.i64 n39, Value.int IntKind.i64 n40, Value.slice p17 k37 k38], Value.bool false])) w18)
                    ((I5 [Value.int IntKind.i64 (IntKind.i64.wrap (n35 + 1)), Value.int IntKind.i64 n36, Value.int IntKind.i64 n37, Value.slice p16 k35 k36] w17) ∧
                    m4 [Value.int IntKind.i64 (IntKind.i64.wrap (n35 + 1)), Value.int IntKind.i64 n36, Value.int IntKind.i64 n37, Value.slice p16 k35 k36] w17 < m4 [Value.int IntKind.i64 n35, Value.int IntKind.i64 n36, Value.int IntKind.i64 n37, Value.slice p16 k35 k36] w16))
                  (slcc (p6) (k16) (IntKind.i64.wrap (divZ BinOp.quo IntKind.i64 (IntKind.i64.wrap (IntKind.i64.wrap (IntKind.i64.wrap n11 + divZ BinOp.quo IntKind.i64 8 n32) - 1)) (divZ BinOp.quo IntKind.i64 8 n32) + divZ BinOp.rem IntKind.i64 (divZ BinOp.quo IntKind.i64 (IntKind.i64.wrap (IntKind.i64.wrap (IntKind.i64.wrap n11 + divZ BinOp.quo IntKind.i64 8 n32) - 1)) (divZ BinOp.quo IntKind.i64 8 n32)) 2)) ((↑k15 : Int)) (1) fun p18 k39 k40 =>
                  I2 [Value.slice p18 k39 k40, Value.int IntKind.i64 n36, Value.int IntKind.i64 n37, Value.slice p16 k35 k36] w16))))))) ∧
    ∀ p19 : Option Addr,
    ∀ k41 : Nat,
    ∀ k42 : Nat,
    ∀ n41 : Int,
    ∀ n42 : Int,
    ∀ p20 : Option Addr,
    ∀ k43 : Nat,
    ∀ k44 : Nat,
    ∀ w19 : World,
    (I2 [Value.slice p19 k41 k42, Value.int IntKind.i64 n41, Value.int IntKind.i64 n42, Value.slice p20 k43 k44] w19) →
    ∃ n43 : Int,
    (w19.drew.cell? { block := k4, off := 1 } = some (Value.int IntKind.i64 n43)) ∧
    nn (q1) fun a14 =>
    ∃ n44 : Int,
    (w19.drew.cell? (a14.add 1) = some (Value.int IntKind.i64 n44)) ∧
    brB (decide (n43 > n44))
      (∃ n45 : Int,
      ∃ n46 : Int,
      ∃ p21 : Option Addr,
      ∃ k45 : Nat,
      ∃ k46 : Nat,
      (w19.drew.cell? { block := k2, off := 0 } = some (Value.int IntKind.i64 n45)) ∧
      (w19.drew.cell? { block := k2, off := 1 } = some (Value.int IntKind.i64 n46)) ∧
      (w19.drew.cell? { block := k2, off := 2 } = some (Value.slice p21 k45 k46)) ∧
      ∀ w20 : World,
      (Locl ([k1]) (w19.drew) w20) →
      R (Ending.returned (Value.tuple #[Value.agg #[Value.int IntKind.i64 n45, Value.int IntKind.i64 n46, Value.slice p21 k45 k46], Value.bool false])) w20)
      (∃ n47 : Int,
      (w19.drew.cell? { block := k4, off := 2 } = some (Value.int IntKind.i64 n47)) ∧
      nn (q1) fun a15 =>
      ∃ n48 : Int,
      (w19.drew.cell? (a15.add 2) = some (Value.int IntKind.i64 n48)) ∧
      brB (decide (n47 > n48))
        (∃ n49 : Int,
        ∃ n50 : Int,
        ∃ p22 : Option Addr,
        ∃ k47 : Nat,
        ∃ k48 : Nat,
        (w19.drew.cell? { block := k2, off := 0 } = some (Value.int IntKind.i64 n49)) ∧
        (w19.drew.cell? { block := k2, off := 1 } = some (Value.int IntKind.i64 n50)) ∧
        (w19.drew.cell? { block := k2, off := 2 } = some (Value.slice p22 k47 k48)) ∧
        ∀ w21 : World,
        (Locl ([k1]) (w19.drew) w21) →
        R (Ending.returned (Value.tuple #[Value.agg #[Value.int IntKind.i64 n49, Value.int IntKind.i64 n50, Value.slice p22 k47 k48], Value.bool false])) w21)
        ((I1 [Value.slice p19 k41 k42, Value.int IntKind.i64 n41, Value.int IntKind.i64 n42, Value.slice p20 k43 k44] w19.drew) ∧
        m1 [Value.slice p19 k41 k42, Value.int IntKind.i64 n41, Value.int IntKind.i64 n42, Value.slice p20 k43 k44] w19.drew < m1 [Value.slice p3 k9 k10, Value.int IntKind.i64 n6, Value.int IntKind.i64 n7, Value.slice p4 k11 k12] w5)))
theorem calls_bmp_file_runs (q1 : Option Addr) (w : World) (R : Ending → World → Prop) (h : vc_bmp_file_runs q1 w R) : Calls P F.bmp_file_runs #[.pointer q1] w R :=
  calls_of_vc (fn := Tryd.f21) (ac := ac_bmp_file_runs) (args := [.pointer q1]) mixed Tryd.func21 (by kernel_rfl) (cast (by unfold vc_bmp_file_runs FnVc; kernel_rfl) h)
/-- (*darkroom/bmp.file).plain -/
def vc_bmp_file_plain (q1 : Option Addr) (w : World) (R : Ending → World → Prop) : Prop :=
  ∀ k1 : Nat,
  (w.heap.size ≤ k1) →
  nn (q1) fun a1 =>
  ∀ w1 : World,
  (Locl ([k1]) w w1) →
  ∃ n1 : Int,
  (w1.cell? (a1.add 1) = some (Value.int IntKind.i64 n1)) ∧
  nn (q1) fun a2 =>
  ∃ n2 : Int,
  (w1.cell? (a2.add 2) = some (Value.int IntKind.i64 n2)) ∧
  ∀ k2 : Nat,
  ∀ w2 : World,
  (New w1 (Obj.cells #[Value.int IntKind.i64 0, Value.int IntKind.i64 0, Value.slice none 0 0] 26) k2 w2) →
  (∃ v1 : Value,
    w2.cell? { block := k2, off := 0 } = some v1) ∧
  (w2.frozen? { block := k2, off := 0 } = false) ∧
  (∃ v2 : Value,
    w2.cell? { block := k2, off := 1 } = some v2) ∧
  (w2.frozen? { block := k2, off := 1 } = false) ∧
  (∃ v3 : Value,
    w2.cell? { block := k2, off := 2 } = some v3) ∧
  (w2.frozen? { block := k2, off := 2 } = false) ∧
  (¬k2 ∈ [k1]) ∧
  Calls P F.bmp_file_row #[Value.pointer q1, Value.int IntKind.i64 0] (setCells w2 { block := k2, off := 0 } [Value.int IntKind.i64 n1, Value.int IntKind.i64 n2, Value.slice none 0 0] 0) fun e1 w3 =>
  ∃ n3 : Int,
  ∃ n4 : Int,
  (e1 = Ending.returned (Value.tuple #[Value.int IntKind.i64 n3, Value.int IntKind.i64 n4])) ∧
  (Keep ([k1]) (setCells w2 { block := k2, off := 0 } [Value.int IntKind.i64 n1, Value.int IntKind.i64 n2, Value.slice none 0 0] 0) w3) ∧
  nn (q1) fun a3 =>
  ∃ p1 : Option Addr,
  ∃ k3 : Nat,
  ∃ k4 : Nat,
  (w3.drew.cell? a3 = some (Value.slice p1 k3 k4)) ∧
  nn (q1) fun a4 =>
  ∃ n5 : Int,
  (w3.drew.cell? (a4.add 6) = some (Value.int IntKind.i64 n5)) ∧
  nn (q1) fun a5 =>
  ∃ n6 : Int,
  (w3.drew.cell? (a5.add 2) = some (Value.int IntKind.i64 n6)) ∧
  brB (decide (IntKind.i64.wrap ((↑k3 : Int) - n5) < IntKind.i64.wrap (n4 * n6)))
    (∃ n7 : Int,
    ∃ n8 : Int,
    ∃ p2 : Option Addr,
    ∃ k5 : Nat,
    ∃ k6 : Nat,
    (w3.drew.cell? { block := k2, off := 0 } = some (Value.int IntKind.i64 n7)) ∧
    (w3.drew.cell? { block := k2, off := 1 } = some (Value.int IntKind.i64 n8)) ∧
    (w3.drew.cell? { block := k2, off := 2 } = some (Value.slice p2 k5 k6)) ∧
    ∀ w4 : World,
    (Locl ([k1]) (w3.drew) w4) →
    R (Ending.returned (Value.tuple #[Value.agg #[Value.int IntKind.i64 n7, Value.int IntKind.i64 n8, Value.slice p2 k5 k6], Value.bool false])) w4)
    (nn (q1) fun a6 =>
    ∃ n9 : Int,
    (w3.drew.cell? (a6.add 2) = some (Value.int IntKind.i64 n9)) ∧
    ∃ I1 : List Value → World → Prop,
    ∃ m1 : List Value → World → Nat,
    (I1 [Value.int IntKind.i64 0, Value.int IntKind.i64 0, Value.int IntKind.i64 0, Value.slice none 0 0] w3.drew) ∧
    ∀ n10 : Int,
    ∀ n11 : Int,
    ∀ n12 : Int,
    ∀ p3 : Option Addr,
    ∀ k7 : Nat,
    ∀ k8 : Nat,
    ∀ w5 : World,
    (I1 [Value.int IntKind.i64 n10, Value.int IntKind.i64 n11, Value.int IntKind.i64 n12, Value.slice p3 k7 k8] w5) →
    brB (decide (n10 < n9))
      (Calls P F.bmp_file_row #[Value.pointer q1, Value.int IntKind.i64 n10] w5 fun e2 w6 =>
      ∃ n13 : Int,
      ∃ n14 : Int,
      (e2 = Ending.returned (Value.tuple #[Value.int IntKind.i64 n13, Value.int IntKind.i64 n14])) ∧
      (Keep ([k1]) w5 w6) ∧
      nn (q1) fun a7 =>
      ∃ n15 : Int,
      (w6.cell? (a7.add 1) = some (Value.int IntKind.i64 n15)) ∧
      ∃ I2 : List Value → World → Prop,
      ∃ m2 : List Value → World → Nat,
      (I2 [Value.int IntKind.i64 0, Value.int IntKind.i64 n11, Value.int IntKind.i64 n12, Value.slice p3 k7 k8] w6) ∧
      ∀ n16 : Int,
      ∀ n17 : Int,
      ∀ n18 : Int,
      ∀ p4 : Option Addr,
      ∀ k9 : Nat,
      ∀ k10 : Nat,
      ∀ w7 : World,
      (I2 [Value.int IntKind.i64 n16, Value.int IntKind.i64 n17, Value.int IntKind.i64 n18, Value.slice p4 k9 k10] w7) →
      brB (decide (n16 < n15))
        (∃ I3 : List Value → World → Prop,
        (nn (q1) fun a8 =>
          ∃ n19 : Int,
          (w7.cell? (a8.add 4) = some (Value.int IntKind.i64 n19)) ∧
          brB (decide (n19 ≤ 8))
            (nn (q1) fun a9 =>
            ∃ n20 : Int,
            (w7.cell? (a9.add 4) = some (Value.int IntKind.i64 n20)) ∧
            nn (q1) fun a10 =>
            ∃ p5 : Option Addr,
            ∃ k11 : Nat,
            ∃ k12 : Nat,
            (w7.drew.cell? a10 = some (Value.slice p5 k11 k12)) ∧
            idx (p5) (k11) (IntKind.i64.wrap (n13 + divZ BinOp.quo IntKind.i64 (IntKind.i64.wrap (n16 * n20)) 8)) (1) fun a11 =>
            ∃ n21 : Int,
            (w7.drew.cell? a11 = some (Value.int IntKind.u8 n21)) ∧
            nn (q1) fun a12 =>
            ∃ n22 : Int,
            (w7.drew.cell? (a12.add 4) = some (Value.int IntKind.i64 n22)) ∧
            (0 ≤ IntKind.i64.wrap (IntKind.i64.wrap (8 - n22) - divZ BinOp.rem IntKind.i64 (IntKind.i64.wrap (n16 * n20)) 8)) ∧
            nn (q1) fun a13 =>
            ∃ n23 : Int,
            (w7.drew.cell? (a13.add 4) = some (Value.int IntKind.i64 n23)) ∧
            (0 ≤ n23) ∧
            Calls P F.bmp_file_index #[Value.pointer q1, Value.pointer (some { block := k2, off := 0 }), Value.int IntKind.i64 (IntKind.i64.wrap (bitsZ BinOp.and IntKind.i64 (shiftZ BinOp.shr IntKind.i64 (IntKind.i64.wrap n21) (IntKind.i64.wrap (IntKind.i64.wrap (8 - n22) - divZ BinOp.rem IntKind.i64 (IntKind.i64.wrap (n16 * n20)) 8))) (IntKind.i64.wrap (shiftZ BinOp.shl IntKind.i64 1 n23 - 1))))] (w7.drew) fun e3 w8 =>
            ∃ c1 : Bool,
            (e3 = Ending.returned (Value.bool c1)) ∧
            (Keep ([k1]) (w7.drew) w8) ∧
            brB (!c1)
              (∃ n24 : Int,
              ∃ n25 : Int,
              ∃ p6 : Option Addr,
              ∃ k13 : Nat,
              ∃ k14 : Nat,
              (w8.cell? { block := k2, off := 0 } = some (Value.int IntKind.i64 n24)) ∧
              (w8.cell? { block := k2, off := 1 } = some (Value.int IntKind.i64 n25)) ∧
              (w8.cell? { block := k2, off := 2 } = some (Value.slice p6 k13 k14)) ∧
              ∀ w9 : World,
              (Locl ([k1]) w8 w9) →
              R (Ending.returned (Value.tuple #[Value.agg #[Value.int IntKind.i64 n24, Value.int IntKind.i64 n25, Value.slice p6 k13 k14], Value.bool false])) w9)
              (I3 [Value.int IntKind.i64 n17, Value.int IntKind.i64 n18, Value.slice p4 k9 k10] w8))
            (nn (q1) fun a14 =>
            ∃ p7 : Option Addr,
            ∃ k15 : Nat,
            ∃ k16 : Nat,
            (w7.drew.cell? a14 = some (Value.slice p7 k15 k16)) ∧
            nn (q1) fun a15 =>
            ∃ n26 : Int,
            (w7.drew.cell? (a15.add 4) = some (Value.int IntKind.i64 n26)) ∧
            nn (q1) fun a16 =>
            ∃ n27 : Int,
            (w7.drew.cell? (a16.add 4) = some (Value.int IntKind.i64 n27)) ∧
            Calls P F.bits_Get #[Value.slice p7 k15 k16, Value.int IntKind.i64 (IntKind.i64.wrap (n13 + divZ BinOp.quo IntKind.i64 (IntKind.i64.wrap (n16 * n26)) 8)), Value.int IntKind.i64 (divZ BinOp.quo IntKind.i64 n27 8), Value.bool false] (w7.drew) fun e4 w10 =>
            ∃ n28 : Int,
            ∃ n29 : Int,
            (e4 = Ending.returned (Value.tuple #[Value.int IntKind.u32 n28, Value.int IntKind.i64 n29])) ∧
            (Keep ([k1]) (w7.drew) w10) ∧
            ∃ p8 : Option Addr,
            ∃ k17 : Nat,
            ∃ k18 : Nat,
            (w10.drew.cell? { block := k2, off := 2 } = some (Value.slice p8 k17 k18)) ∧
            Calls P F.bmp_file_sample #[Value.pointer q1, Value.int IntKind.u32 n28, Value.int IntKind.i64 0] (w10.drew) fun e5 w11 =>
            ∃ n30 : Int,
            (e5 = Ending.returned (Value.int IntKind.u16 n30)) ∧
            (Keep ([k1]) (w10.drew) w11) ∧
            (Keeps (w10.drew) w11) ∧
            Calls P F.bmp_file_sample #[Value.pointer q1, Value.int IntKind.u32 n28, Value.int IntKind.i64 1] w11 fun e6 w12 =>
            ∃ n31 : Int,
            (e6 = Ending.returned (Value.int IntKind.u16 n31)) ∧
            (Keep ([k1]) w11 w12) ∧
            (Keeps w11 w12) ∧
            Calls P F.bmp_file_sample #[Value.pointer q1, Value.int IntKind.u32 n28, Value.int IntKind.i64 2] w12 fun e7 w13 =>
            ∃ n32 : Int,
            (e7 = Ending.returned (Value.int IntKind.u16 n32)) ∧
            (Keep ([k1]) w12 w13) ∧
            (Keeps w12 w13) ∧
            Calls P F.bmp_file_sample #[Value.pointer q1, Value.int IntKind.u32 n28, Value.int IntKind.i64 3] w13 fun e8 w14 =>
            ∃ n33 : Int,
            (e8 = Ending.returned (Value.int IntKind.u16 n33)) ∧
            (Keep ([k1]) w13 w14) ∧
            (Keeps w13 w14) ∧
            ∀ k19 : Nat,
            (w14.heap.size ≤ k19) →
            ∀ w15 : World,
            (Locl ([k19, k1]) w14 w15) →
            appVC (w15) ([(144, k19, [Value.int IntKind.u16 n30, Value.int IntKind.u16 n31, Value.int IntKind.u16 n32, Value.int IntKind.u16 n33]), (2, k1, [Value.int IntKind.i64 n17, Value.int IntKind.i64 n18, Value.slice p4 k9 k10])]) (p8) (k17) (k18) (4) (1) (2) (42) ([Value.int IntKind.u16 0]) ([Value.int IntKind.u16 n30, Value.int IntKind.u16 n31, Value.int IntKind.u16 n32, Value.int IntKind.u16 n33]) fun p9 k20 k21 w16 =>
            (∃ v4 : Value,
              w16.cell? { block := k2, off := 2 } = some v4) ∧
            (w16.frozen? { block := k2, off := 2 } = false) ∧
            (¬k2 ∈ [k19, k1]) ∧
            I3 [Value.int IntKind.i64 n17, Value.int IntKind.i64 n18, Value.slice p4 k9 k10] (setCells w16 { block := k2, off := 2 } [Value.slice p9 k20 k21] 0))) ∧
        ∀ n34 : Int,
        ∀ n35 : Int,
        ∀ p10 : Option Addr,
        ∀ k22 : Nat,
        ∀ k23 : Nat,
        ∀ w17 : World,
        (I3 [Value.int IntKind.i64 n34, Value.int IntKind.i64 n35, Value.slice p10 k22 k23] w17) →
        (I2 [Value.int IntKind.i64 (IntKind.i64.wrap (n16 + 1)), Value.int IntKind.i64 n34, Value.int IntKind.i64 n35, Value.slice p10 k22 k23] w17) ∧
        m2 [Value.int IntKind.i64 (IntKind.i64.wrap (n16 + 1)), Value.int IntKind.i64 n34, Value.int IntKind.i64 n35, Value.slice p10 k22 k23] w17 < m2 [Value.int IntKind.i64 n16, Value.int IntKind.i64 n17, Value.int IntKind.i64 n18, Value.slice p4 k9 k10] w7)
        ((I1 [Value.int IntKind.i64 (IntKind.i64.wrap (n10 + 1)), Value.int IntKind.i64 n17, Value.int IntKind.i64 n18, Value.slice p4 k9 k10] w7) ∧
        m1 [Value.int IntKind.i64 (IntKind.i64.wrap (n10 + 1)), Value.int IntKind.i64 n17, Value.int IntKind.i64 n18, Value.slice p4 k9 k10] w7 < m1 [Value.int IntKind.i64 n10, Value.int IntKind.i64 n11, Value.int IntKind.i64 n12, Value.slice p3 k7 k8] w5))
      (∃ n36 : Int,
      ∃ n37 : Int,
      ∃ p11 : Option Addr,
      ∃ k24 : Nat,
      ∃ k25 : Nat,
      (w5.cell? { block := k2, off := 0 } = some (Value.int IntKind.i64 n36)) ∧
      (w5.cell? { block := k2, off := 1 } = some (Value.int IntKind.i64 n37)) ∧
      (w5.cell? { block := k2, off := 2 } = some (Value.slice p11 k24 k25)) ∧
      ∀ w18 : World,
      (Locl ([k1]) w5 w18) →
      R (Ending.returned (Value.tuple #[Value.agg #[Value.int IntKind.i64 n36, Value.int IntKind.i64 n37, Value.slice p11 k24 k25], Value.bool true])) w18))
theorem calls_bmp_file_plain (q1 : Option Addr) (w : World) (R : Ending → World → Prop) (h : vc_bmp_file_plain q1 w R) : Calls P F.bmp_file_plain #[.pointer q1] w R :=
  calls_of_vc (fn := Tryd.f22) (ac := ac_bmp_file_plain) (args := [.pointer q1]) mixed Tryd.func22 (by kernel_rfl) (cast (by unfold vc_bmp_file_plain FnVc; kernel_rfl) h)
/-- darkroom/darkroomref11.fields -/
def vc_ref11_fields (sa1 : Option Addr) (sl1 sc1 : Nat) (w : World) (R : Ending → World → Prop) : Prop :=
  ∀ k1 : Nat,
  (w.heap.size ≤ k1) →
  ∀ k2 : Nat,
  (w.heap.size ≤ k2) →
  brB (decide ((↑sl1 : Int) < 18))
    (∀ w1 : World,
    (Locl ([k2, k1]) w w1) →
    R (Ending.returned (Value.tuple #[Value.agg #[Value.int IntKind.i64 0, Value.int IntKind.i64 0, Value.bool false, Value.int IntKind.i64 0, Value.int IntKind.i64 0, Value.int IntKind.i64 0, Value.int IntKind.u32 0, Value.int IntKind.u32 0, Value.int IntKind.u32 0, Value.int IntKind.u32 0, Value.slice none 0 0], Value.int IntKind.i64 0, Value.int IntKind.i64 9])) w1)
    (idx (sa1) (sl1) (0) (1) fun a1 =>
    ∀ w2 : World,
    (Locl ([k2, k1]) w w2) →
    ∃ n1 : Int,
    (w2.cell? a1 = some (Value.int IntKind.u8 n1)) ∧
    brB (n1 != 66)
      (∀ w3 : World,
      (Locl ([k2, k1]) w2 w3) →
      R (Ending.returned (Value.tuple #[Value.agg #[Value.int IntKind.i64 0, Value.int IntKind.i64 0, Value.bool false, Value.int IntKind.i64 0, Value.int IntKind.i64 0, Value.int IntKind.i64 0, Value.int IntKind.u32 0, Value.int IntKind.u32 0, Value.int IntKind.u32 0, Value.int IntKind.u32 0, Value.slice none 0 0], Value.int IntKind.i64 0, Value.int IntKind.i64 9])) w3)
      (idx (sa1) (sl1) (1) (1) fun a2 =>
      ∃ n2 : Int,
      (w2.cell? a2 = some (Value.int IntKind.u8 n2)) ∧
      brB (n2 != 77)
        (∀ w4 : World,
        (Locl ([k2, k1]) w2 w4) →
        R (Ending.returned (Value.tuple #[Value.agg #[Value.int IntKind.i64 0, Value.int IntKind.i64 0, Value.bool false, Value.int IntKind.i64 0, Value.int IntKind.i64 0, Value.int IntKind.i64 0, Value.int IntKind.u32 0, Value.int IntKind.u32 0, Value.int IntKind.u32 0, Value.int IntKind.u32 0, Value.slice none 0 0], Value.int IntKind.i64 0, Value.int IntKind.i64 9])) w4)
        (Calls P F.ref11_num #[Value.slice sa1 sl1 sc1, Value.int IntKind.i64 10, Value.int IntKind.i64 4] w2 fun e1 w5 =>
        ∃ n3 : Int,
        (e1 = Ending.returned (Value.int IntKind.i64 n3)) ∧
        (Keep ([k2, k1]) w2 w5) ∧
        ∀ w6 : World,
        (Locl ([k2, k1]) w5 w6) →
        Calls P F.ref11_num #[Value.slice sa1 sl1 sc1, Value.int IntKind.i64 14, Value.int IntKind.i64 4] w6 fun e2 w7 =>
        ∃ n4 : Int,
        (e2 = Ending.returned (Value.int IntKind.i64 n4)) ∧
        (Keep ([k2, k1]) w6 w7) ∧
        brB (n4 == 12 || n4 == 16 || n4 == 64)
          (∀ w8 : World,
          (Locl ([k2, k1]) w7 w8) →
          R (Ending.returned (Value.tuple #[Value.agg #[Value.int IntKind.i64 0, Value.int IntKind.i64 0, Value.bool false, Value.int IntKind.i64 0, Value.int IntKind.i64 0, Value.int IntKind.i64 n3, Value.int IntKind.u32 0, Value.int IntKind.u32 0, Value.int IntKind.u32 0, Value.int IntKind.u32 0, Value.slice none 0 0], Value.int IntKind.i64 0, Value.int IntKind.i64 10])) w8)
          (brB (n4 != 40 && n4 != 52 && n4 != 56 && n4 != 108 && n4 != 124 || decide ((↑sl1 : Int) < IntKind.i64.wrap (14 + n4)))
            (∀ w9 : World,
            (Locl ([k2, k1]) w7 w9) →
            R (Ending.returned (Value.tuple #[Value.agg #[Value.int IntKind.i64 0, Value.int IntKind.i64 0, Value.bool false, Value.int IntKind.i64 0, Value.int IntKind.i64 0, Value.int IntKind.i64 n3, Value.int IntKind.u32 0, Value.int IntKind.u32 0, Value.int IntKind.u32 0, Value.int IntKind.u32 0, Value.slice none 0 0], Value.int IntKind.i64 0, Value.int IntKind.i64 9])) w9)
            (Calls P F.ref11_signed #[Value.slice sa1 sl1 sc1, Value.int IntKind.i64 18] w7 fun e3 w10 =>
            ∃ n5 : Int,
            (e3 = Ending.returned (Value.int IntKind.i64 n5)) ∧
            (Keep ([k2, k1]) w7 w10) ∧
            Calls P F.ref11_signed #[Value.slice sa1 sl1 sc1, Value.int IntKind.i64 22] w10 fun e4 w11 =>
            ∃ n6 : Int,
            (e4 = Ending.returned (Value.int IntKind.i64 n6)) ∧
            (Keep ([k2, k1]) w10 w11) ∧
            Calls P F.ref11_num #[Value.slice sa1 sl1 sc1, Value.int IntKind.i64 28, Value.int IntKind.i64 2] w11 fun e5 w12 =>
            ∃ n7 : Int,
            (e5 = Ending.returned (Value.int IntKind.i64 n7)) ∧
            (Keep ([k2, k1]) w11 w12) ∧
            Calls P F.ref11_num #[Value.slice sa1 sl1 sc1, Value.int IntKind.i64 30, Value.int IntKind.i64 4] w12 fun e6 w13 =>
            ∃ n8 : Int,
            (e6 = Ending.returned (Value.int IntKind.i64 n8)) ∧
            (Keep ([k2, k1]) w12 w13) ∧
            brB (decide (n5 < 1) || n6 == 0)
              (∀ w14 : World,
              (Locl ([k2, k1]) w13 w14) →
              R (Ending.returned (Value.tuple #[Value.agg #[Value.int IntKind.i64 n5, Value.int IntKind.i64 n6, Value.bool false, Value.int IntKind.i64 n7, Value.int IntKind.i64 n8, Value.int IntKind.i64 n3, Value.int IntKind.u32 0, Value.int IntKind.u32 0, Value.int IntKind.u32 0, Value.int IntKind.u32 0, Value.slice none 0 0], Value.int IntKind.i64 0, Value.int IntKind.i64 9])) w14)
              (∀ w15 : World,
              (Locl ([k2, k1]) w13 w15) →
              Calls P F.ref11_num #[Value.slice sa1 sl1 sc1, Value.int IntKind.i64 26, Value.int IntKind.i64 2] w15 fun e7 w16 =>
              ∃ n9 : Int,
              (e7 = Ending.returned (Value.int IntKind.i64 n9)) ∧
              (Keep ([k2, k1]) w15 w16) ∧
              brB (n9 != 1)
                (∀ w17 : World,
                (Locl ([k2, k1]) w16 w17) →
                R (Ending.returned (Value.tuple #[Value.agg #[Value.int IntKind.i64 n5, Value.int IntKind.i64 n6, Value.bool false, Value.int IntKind.i64 n7, Value.int IntKind.i64 n8, Value.int IntKind.i64 n3, Value.int IntKind.u32 0, Value.int IntKind.u32 0, Value.int IntKind.u32 0, Value.int IntKind.u32 0, Value.slice none 0 0], Value.int IntKind.i64 0, Value.int IntKind.i64 9])) w17)
                (∃ I1 : List Value → World → Prop,
                (brB (decide (n6 < 0))
                    (∀ w18 : World,
                    (Locl ([k2, k1]) w16 w18) →
                    I1 [Value.int IntKind.i64 n5, Value.int IntKind.i64 (IntKind.i64.wrap (0 - n6)), Value.bool true, Value.int IntKind.i64 n7, Value.int IntKind.i64 n8, Value.int IntKind.i64 n3, Value.int IntKind.u32 0, Value.int IntKind.u32 0, Value.int IntKind.u32 0, Value.int IntKind.u32 0, Value.slice none 0 0] w18)
                    (I1 [Value.int IntKind.i64 n5, Value.int IntKind.i64 n6, Value.bool false, Value.int IntKind.i64 n7, Value.int IntKind.i64 n8, Value.int IntKind.i64 n3, Value.int IntKind.u32 0, Value.int IntKind.u32 0, Value.int IntKind.u32 0, Value.int IntKind.u32 0, Value.slice none 0 0] w16)) ∧
                ∀ n10 : Int,
                ∀ n11 : Int,
                ∀ c1 : Bool,
                ∀ n12 : Int,
                ∀ n13 : Int,
                ∀ n14 : Int,
                ∀ n15 : Int,
                ∀ n16 : Int,
                ∀ n17 : Int,
                ∀ n18 : Int,
                ∀ p1 : Option Addr,
                ∀ k3 : Nat,
                ∀ k4 : Nat,
                ∀ w19 : World,
                (I1 [Value.int IntKind.i64 n10, Value.int IntKind.i64 n11, Value.bool c1, Value.int IntKind.i64 n12, Value.int IntKind.i64 n13, Value.int IntKind.i64 n14, Value.int IntKind.u32 n15, Value.int IntKind.u32 n16, Value.int IntKind.u32 n17, Value.int IntKind.u32 n18, Value.slice p1 k3 k4] w19) →
                brB (n12 != 1 && n12 != 4 && n12 != 8 && n12 != 16 && n12 != 24 && n12 != 32)
                  (∀ w20 : World,
                  (Locl ([k2, k1]) w19 w20) →
                  R (Ending.returned (Value.tuple #[Value.agg #[Value.int IntKind.i64 n10, Value.int IntKind.i64 n11, Value.bool c1, Value.int IntKind.i64 n12, Value.int IntKind.i64 n13, Value.int IntKind.i64 n14, Value.int IntKind.u32 n15, Value.int IntKind.u32 n16, Value.int IntKind.u32 n17, Value.int IntKind.u32 n18, Value.slice p1 k3 k4], Value.int IntKind.i64 0, Value.int IntKind.i64 9])) w20)
                  (brB (n13 == 4 || n13 == 5)
                    (∀ w21 : World,
                    (Locl ([k2, k1]) w19 w21) →
                    R (Ending.returned (Value.tuple #[Value.agg #[Value.int IntKind.i64 n10, Value.int IntKind.i64 n11, Value.bool c1, Value.int IntKind.i64 n12, Value.int IntKind.i64 n13, Value.int IntKind.i64 n14, Value.int IntKind.u32 n15, Value.int IntKind.u32 n16, Value.int IntKind.u32 n17, Value.int IntKind.u32 n18, Value.slice p1 k3 k4], Value.int IntKind.i64 0, Value.int IntKind.i64 10])) w21)
                    (∃ I2 : List Value → World → Prop,
                    (brB (n13 == 1 && n12 == 8)
                        (I2 [Value.bool true] w19)
                        (brB (n13 == 2)
                          (I2 [Value.bool (n12 == 4)] w19)
                          (I2 [Value.bool false] w19))) ∧
                    ∀ c2 : Bool,
                    ∀ w22 : World,
                    (I2 [Value.bool c2] w22) →
                    ∃ I3 : List Value → World → Prop,
                    (brB (n13 == 3 || n13 == 6)
                        (brB (n12 == 16)
                          (I3 [Value.bool true] w22)
                          (I3 [Value.bool (n12 == 32)] w22))
                        (I3 [Value.bool false] w22)) ∧
                    ∀ c3 : Bool,
                    ∀ w23 : World,
                    (I3 [Value.bool c3] w23) →
                    brB (n13 != 0 && !c2 && !c3)
                      (∀ w24 : World,
                      (Locl ([k2, k1]) w23 w24) →
                      R (Ending.returned (Value.tuple #[Value.agg #[Value.int IntKind.i64 n10, Value.int IntKind.i64 n11, Value.bool c1, Value.int IntKind.i64 n12, Value.int IntKind.i64 n13, Value.int IntKind.i64 n14, Value.int IntKind.u32 n15, Value.int IntKind.u32 n16, Value.int IntKind.u32 n17, Value.int IntKind.u32 n18, Value.slice p1 k3 k4], Value.int IntKind.i64 0, Value.int IntKind.i64 9])) w24)
                      (brB (c2)
                        (brB (c1)
                          (∀ w25 : World,
                          (Locl ([k2, k1]) w23 w25) →
                          R (Ending.returned (Value.tuple #[Value.agg #[Value.int IntKind.i64 n10, Value.int IntKind.i64 n11, Value.bool c1, Value.int IntKind.i64 n12, Value.int IntKind.i64 n13, Value.int IntKind.i64 n14, Value.int IntKind.u32 n15, Value.int IntKind.u32 n16, Value.int IntKind.u32 n17, Value.int IntKind.u32 n18, Value.slice p1 k3 k4], Value.int IntKind.i64 0, Value.int IntKind.i64 9])) w25)
                          (brB (decide (n12 ≤ 8))
                            (Calls P F.ref11_num #[Value.slice sa1 sl1 sc1, Value.int IntKind.i64 46, Value.int IntKind.i64 4] w23 fun e8 w26 =>
                            ∃ n19 : Int,
                            (e8 = Ending.returned (Value.int IntKind.i64 n19)) ∧
                            (Keep ([k2, k1]) w23 w26) ∧
                            (0 ≤ IntKind.u64.wrap n12) ∧
                            brB (decide (n19 > shiftZ BinOp.shl IntKind.i64 1 (IntKind.u64.wrap n12)))
                              (∀ w27 : World,
                              (Locl ([k2, k1]) w26 w27) →
                              R (Ending.returned (Value.tuple #[Value.agg #[Value.int IntKind.i64 n10, Value.int IntKind.i64 n11, Value.bool c1, Value.int IntKind.i64 n12, Value.int IntKind.i64 n13, Value.int IntKind.i64 n14, Value.int IntKind.u32 n15, Value.int IntKind.u32 n16, Value.int IntKind.u32 n17, Value.int IntKind.u32 n18, Value.slice p1 k3 k4], Value.int IntKind.i64 0, Value.int IntKind.i64 9])) w27)
                              (∀ w28 : World,
                              (Locl ([k2, k1]) w26 w28) →
                              R (Ending.returned (Value.tuple #[Value.agg #[Value.int IntKind.i64 n10, Value.int IntKind.i64 n11, Value.bool c1, Value.int IntKind.i64 n12, Value.int IntKind.i64 n13, Value.int IntKind.i64 n14, Value.int IntKind.u32 n15, Value.int IntKind.u32 n16, Value.int IntKind.u32 n17, Value.int IntKind.u32 n18, Value.slice p1 k3 k4], Value.int IntKind.i64 n4, Value.int IntKind.i64 0])) w28))
                            (∀ w29 : World,
                            (Locl ([k2, k1]) w23 w29) →
                            R (Ending.returned (Value.tuple #[Value.agg #[Value.int IntKind.i64 n10, Value.int IntKind.i64 n11, Value.bool c1, Value.int IntKind.i64 n12, Value.int IntKind.i64 n13, Value.int IntKind.i64 n14, Value.int IntKind.u32 n15, Value.int IntKind.u32 n16, Value.int IntKind.u32 n17, Value.int IntKind.u32 n18, Value.slice p1 k3 k4], Value.int IntKind.i64 n4, Value.int IntKind.i64 0])) w29)))
                        (brB (decide (n12 ≤ 8))
                          (Calls P F.ref11_num #[Value.slice sa1 sl1 sc1, Value.int IntKind.i64 46, Value.int IntKind.i64 4] w23 fun e9 w30 =>
                          ∃ n20 : Int,
                          (e9 = Ending.returned (Value.int IntKind.i64 n20)) ∧
                          (Keep ([k2, k1]) w23 w30) ∧
                          (0 ≤ IntKind.u64.wrap n12) ∧
                          brB (decide (n20 > shiftZ BinOp.shl IntKind.i64 1 (IntKind.u64.wrap n12)))
                            (∀ w31 : World,
                            (Locl ([k2, k1]) w30 w31) →
                            R (Ending.returned (Value.tuple #[Value.agg #[Value.int IntKind.i64 n10, Value.int IntKind.i64 n11, Value.bool c1, Value.int IntKind.i64 n12, Value.int IntKind.i64 n13, Value.int IntKind.i64 n14, Value.int IntKind.u32 n15, Value.int IntKind.u32 n16, Value.int IntKind.u32 n17, Value.int IntKind.u32 n18, Value.slice p1 k3 k4], Value.int IntKind.i64 0, Value.int IntKind.i64 9])) w31)
                            (∀ w32 : World,
                            (Locl ([k2, k1]) w30 w32) →
                            R (Ending.returned (Value.tuple #[Value.agg #[Value.int IntKind.i64 n10, Value.int IntKind.i64 n11, Value.bool c1, Value.int IntKind.i64 n12, Value.int IntKind.i64 n13, Value.int IntKind.i64 n14, Value.int IntKind.u32 n15, Value.int IntKind.u32 n16, Value.int IntKind.u32 n17, Value.int IntKind.u32 n18, Value.slice p1 k3 k4], Value.int IntKind.i64 n4, Value.int IntKind.i64 0])) w32))
                          (∀ w33 : World,
                          (Locl ([k2, k1]) w23 w33) →
                          R (Ending.returned (Value.tuple #[Value.agg #[Value.int IntKind.i64 n10, Value.int IntKind.i64 n11, Value.bool c1, Value.int IntKind.i64 n12, Value.int IntKind.i64 n13, Value.int IntKind.i64 n14, Value.int IntKind.u32 n15, Value.int IntKind.u32 n16, Value.int IntKind.u32 n17, Value.int IntKind.u32 n18, Value.slice p1 k3 k4], Value.int IntKind.i64 n4, Value.int IntKind.i64 0])) w33))))))))))))
theorem calls_ref11_fields (sa1 : Option Addr) (sl1 sc1 : Nat) (w : World) (R : Ending → World → Prop) (h : vc_ref11_fields sa1 sl1 sc1 w R) : Calls P F.ref11_fields #[.slice sa1 sl1 sc1] w R :=
  calls_of_vc (fn := Tryd.f23) (ac := ac_ref11_fields) (args := [.slice sa1 sl1 sc1]) mixed Tryd.func23 (by kernel_rfl) (cast (by unfold vc_ref11_fields FnVc; kernel_rfl) h)
/-- darkroom/darkroomref11.palette -/
def vc_ref11_palette (sa1 : Option Addr) (sl1 sc1 : Nat) (x1 : Int) (x2 : Int) (b1 : Bool) (x3 : Int) (x4 : Int) (x5 : Int) (x6 : Int) (x7 : Int) (x8 : Int) (x9 : Int) (sa2 : Option Addr) (sl2 sc2 : Nat) (x10 : Int) (w : World) (R : Ending → World → Prop) : Prop :=
  ∀ k1 : Nat,
  (w.heap.size ≤ k1) →
  ∀ k2 : Nat,
  (w.heap.size ≤ k2) →
  ∀ w1 : World,
  (Locl ([k2, k1]) w w1) →
  Calls P F.ref11_num #[Value.slice sa1 sl1 sc1, Value.int IntKind.i64 46, Value.int IntKind.i64 4] w1 fun e1 w2 =>
  ∃ n1 : Int,
  (e1 = Ending.returned (Value.int IntKind.i64 n1)) ∧
  (Keep ([k2, k1]) w1 w2) ∧
  ∃ I1 : List Value → World → Prop,
  (brB (n1 == 0)
      ((0 ≤ IntKind.u64.wrap x3) ∧
      I1 [Value.int IntKind.i64 (shiftZ BinOp.shl IntKind.i64 1 (IntKind.u64.wrap x3))] w2)
      (I1 [Value.int IntKind.i64 n1] w2)) ∧
  ∀ n2 : Int,
  ∀ w3 : World,
  (I1 [Value.int IntKind.i64 n2] w3) →
  brB (decide (IntKind.i64.wrap (4 * n2) > IntKind.i64.wrap (IntKind.i64.wrap ((↑sl1 : Int) - 14) - x10)))
    (∀ w4 : World,
    (Locl ([k2, k1]) w3 w4) →
    R (Ending.returned (Value.tuple #[Value.agg #[Value.int IntKind.i64 x1, Value.int IntKind.i64 x2, Value.bool b1, Value.int IntKind.i64 x3, Value.int IntKind.i64 x4, Value.int IntKind.i64 x5, Value.int IntKind.u32 x6, Value.int IntKind.u32 x7, Value.int IntKind.u32 x8, Value.int IntKind.u32 x9, Value.slice sa2 sl2 sc2], Value.bool false])) w4)
    (∃ I2 : List Value → World → Prop,
    ∃ m1 : List Value → World → Nat,
    (I2 [Value.int IntKind.i64 0, Value.int IntKind.i64 x1, Value.int IntKind.i64 x2, Value.bool b1, Value.int IntKind.i64 x3, Value.int IntKind.i64 x4, Value.int IntKind.i64 x5, Value.int IntKind.u32 x6, Value.int IntKind.u32 x7, Value.int IntKind.u32 x8, Value.int IntKind.u32 x9, Value.slice sa2 sl2 sc2] w3) ∧
    ∀ n3 : Int,
    ∀ n4 : Int,
    ∀ n5 : Int,
    ∀ c1 : Bool,
    ∀ n6 : Int,
    ∀ n7 : Int,
    ∀ n8 : Int,
    ∀ n9 : Int,
    ∀ n10 : Int,
    ∀ n11 : Int,
    ∀ n12 : Int,
    ∀ p1 : Option Addr,
    ∀ k3 : Nat,
    ∀ k4 : Nat,
    ∀ w5 : World,
    (I2 [Value.int IntKind.i64 n3, Value.int IntKind.i64 n4, Value.int IntKind.i64 n5, Value.bool c1, Value.int IntKind.i64 n6, Value.int IntKind.i64 n7, Value.int IntKind.i64 n8, Value.int IntKind.u32 n9, Value.int IntKind.u32 n10, Value.int IntKind.u32 n11, Value.int IntKind.u32 n12, Value.slice p1 k3 k4] w5) →
    brB (decide (n3 < n2))
      (idx (sa1) (sl1) (IntKind.i64.wrap (IntKind.i64.wrap (IntKind.i64.wrap (14 + x10) + IntKind.i64.wrap (4 * n3)) + 2)) (1) fun a1 =>
      ∃ n13 : Int,
      (w5.drew.cell? a1 = some (Value.int IntKind.u8 n13)) ∧
      idx (sa1) (sl1) (IntKind.i64.wrap (IntKind.i64.wrap (IntKind.i64.wrap (14 + x10) + IntKind.i64.wrap (4 * n3)) + 1)) (1) fun a2 =>
      ∃ n14 : Int,
      (w5.drew.cell? a2 = some (Value.int IntKind.u8 n14)) ∧
      idx (sa1) (sl1) (IntKind.i64.wrap (IntKind.i64.wrap (14 + x10) + IntKind.i64.wrap (4 * n3))) (1) fun a3 =>
      ∃ n15 : Int,
      (w5.drew.cell? a3 = some (Value.int IntKind.u8 n15)) ∧
      ∀ k5 : Nat,
      (w5.drew.heap.size ≤ k5) →
      ∀ w6 : World,
      (Locl ([k5, k2, k1]) (w5.drew) w6) →
      appVC (w6) ([(61, k5, [Value.int IntKind.u16 (IntKind.u16.wrap (257 * IntKind.u16.wrap n13)), Value.int IntKind.u16 (IntKind.u16.wrap (257 * IntKind.u16.wrap n14)), Value.int IntKind.u16 (IntKind.u16.wrap (257 * IntKind.u16.wrap n15)), Value.int IntKind.u16 65535]), (6, k2, [Value.int IntKind.i64 0, Value.int IntKind.i64 0, Value.bool false, Value.int IntKind.i64 0, Value.int IntKind.i64 0, Value.int IntKind.i64 0, Value.int IntKind.u32 0, Value.int IntKind.u32 0, Value.int IntKind.u32 0, Value.int IntKind.u32 0, Value.slice none 0 0]), (4, k1, [Value.int IntKind.i64 n4, Value.int IntKind.i64 n5, Value.bool c1, Value.int IntKind.i64 n6, Value.int IntKind.i64 n7, Value.int IntKind.i64 n8, Value.int IntKind.u32 n9, Value.int IntKind.u32 n10, Value.int IntKind.u32 n11, Value.int IntKind.u32 n12, Value.slice p1 k3 k4])]) (p1) (k3) (k4) (1) (4) (8) (49) ([Value.int IntKind.u16 0, Value.int IntKind.u16 0, Value.int IntKind.u16 0, Value.int IntKind.u16 0]) ([Value.int IntKind.u16 (IntKind.u16.wrap (257 * IntKind.u16.wrap n13)), Value.int IntKind.u16 (IntKind.u16.wrap (257 * IntKind.u16.wrap n14)), Value.int IntKind.u16 (IntKind.u16.wrap (257 * IntKind.u16.wrap n15)), Value.int IntKind.u16 65535]) fun p2 k6 k7 w7 =>
      ∀ w8 : World,
      (Locl ([k5, k2, k1]) w7 w8) →
      (I2 [Value.int IntKind.i64 (IntKind.i64.wrap (n3 + 1)), Value.int IntKind.i64 n4, Value.int IntKind.i64 n5, Value.bool c1, Value.int IntKind.i64 n6, Value.int IntKind.i64 n7, Value.int IntKind.i64 n8, Value.int IntKind.u32 n9, Value.int IntKind.u32 n10, Value.int IntKind.u32 n11, Value.int IntKind.u32 n12, Value.slice p2 k6 k7] w8) ∧
      m1 [Value.int IntKind.i64 (IntKind.i64.wrap (n3 + 1)), Value.int IntKind.i64 n4, Value.int IntKind.i64 n5, Value.bool c1, Value.int IntKind.i64 n6, Value.int IntKind.i64 n7, Value.int IntKind.i64 n8, Value.int IntKind.u32 n9, Value.int IntKind.u32 n10, Value.int IntKind.u32 n11, Value.int IntKind.u32 n12, Value.slice p2 k6 k7] w8 < m1 [Value.int IntKind.i64 n3, Value.int IntKind.i64 n4, Value.int IntKind.i64 n5, Value.bool c1, Value.int IntKind.i64 n6, Value.int IntKind.i64 n7, Value.int IntKind.i64 n8, Value.int IntKind.u32 n9, Value.int IntKind.u32 n10, Value.int IntKind.u32 n11, Value.int IntKind.u32 n12, Value.slice p1 k3 k4] w5)
      (∀ w9 : World,
      (Locl ([k2, k1]) w5 w9) →
      R (Ending.returned (Value.tuple #[Value.agg #[Value.int IntKind.i64 n4, Value.int IntKind.i64 n5, Value.bool c1, Value.int IntKind.i64 n6, Value.int IntKind.i64 n7, Value.int IntKind.i64 n8, Value.int IntKind.u32 n9, Value.int IntKind.u32 n10, Value.int IntKind.u32 n11, Value.int IntKind.u32 n12, Value.slice p1 k3 k4], Value.bool true])) w9))
theorem calls_ref11_palette (sa1 : Option Addr) (sl1 sc1 : Nat) (x1 : Int) (x2 : Int) (b1 : Bool) (x3 : Int) (x4 : Int) (x5 : Int) (x6 : Int) (x7 : Int) (x8 : Int) (x9 : Int) (sa2 : Option Addr) (sl2 sc2 : Nat) (x10 : Int) (w : World) (R : Ending → World → Prop) (h : vc_ref11_palette sa1 sl1 sc1 x1 x2 b1 x3 x4 x5 x6 x7 x8 x9 sa2 sl2 sc2 x10 w R) : Calls P F.ref11_palette #[.slice sa1 sl1 sc1, .agg #[.int .i64 x1, .int .i64 x2, .bool b1, .int .i64 x3, .int .i64 x4, .int .i64 x5, .int .u32 x6, .int .u32 x7, .int .u32 x8, .int .u32 x9, .slice sa2 sl2 sc2], .int .i64 x10] w R :=
  calls_of_vc (fn := Tryd.f25) (ac := ac_ref11_palette) (args := [.slice sa1 sl1 sc1, .agg #[.int .i64 x1, .int .i64 x2, .bool b1, .int .i64 x3, .int .i64 x4, .int .i64 x5, .int .u32 x6, .int .u32 x7, .int .u32 x8, .int .u32 x9, .slice sa2 sl2 sc2], .int .i64 x10]) mixed Tryd.func25 (by kernel_rfl) (cast (by unfold vc_ref11_palette FnVc; kernel_rfl) h)
/-- darkroom/darkroomref10.Great -/
def vc_ref10_Great (x1 : Int) (x2 : Int) (x3 : Int) (w : World) (R : Ending → World → Prop) : Prop :=
  R (Ending.returned (Value.bool (decide (x1 > 4096) || decide (x2 > 4096) || decide (IntKind.i64.wrap (x1 * x2) > x3) || decide (IntKind.i64.wrap (x1 * x2) > 65536)))) w
theorem calls_ref10_Great (x1 : Int) (x2 : Int) (x3 : Int) (w : World) (R : Ending → World → Prop) (h : vc_ref10_Great x1 x2 x3 w R) : Calls P F.ref10_Great #[.int .i64 x1, .int .i64 x2, .int .i64 x3] w R :=
  calls_of_vc (fn := Tryd.f26) (ac := ac_ref10_Great) (args := [.int .i64 x1, .int .i64 x2, .int .i64 x3]) mixed Tryd.func26 (by kernel_rfl) (cast (by unfold vc_ref10_Great FnVc; kernel_rfl) h)
/-- darkroom/darkroomref11.byIndex -/
def vc_ref11_byIndex (sa1 : Option Addr) (sl1 sc1 : Nat) (x1 : Int) (x2 : Int) (b1 : Bool) (x3 : Int) (x4 : Int) (x5 : Int) (x6 : Int) (x7 : Int) (x8 : Int) (x9 : Int) (sa2 : Option Addr) (sl2 sc2 : Nat) (w : World) (R : Ending → World → Prop) : Prop :=
  ∀ k1 : Nat,
  (w.heap.size ≤ k1) →
  ∀ k2 : Nat,
  (w.heap.size ≤ k2) →
  ∀ w1 : World,
  (Locl ([k2, k1]) w w1) →
  Calls P F.ref11_indices #[Value.slice sa1 sl1 sc1, Value.agg #[Value.int IntKind.i64 x1, Value.int IntKind.i64 x2, Value.bool b1, Value.int IntKind.i64 x3, Value.int IntKind.i64 x4, Value.int IntKind.i64 x5, Value.int IntKind.u32 x6, Value.int IntKind.u32 x7, Value.int IntKind.u32 x8, Value.int IntKind.u32 x9, Value.slice sa2 sl2 sc2]] w1 fun e1 w2 =>
  ∃ p1 : Option Addr,
  ∃ k3 : Nat,
  ∃ k4 : Nat,
  ∃ c1 : Bool,
  (e1 = Ending.returned (Value.tuple #[Value.slice p1 k3 k4, Value.bool c1])) ∧
  (Keep ([k2, k1]) w1 w2) ∧
  ∃ I1 : List Value → World → Prop,
  (brB (x4 != 0)
      (Calls P F.ref11_unrun #[Value.slice sa1 sl1 sc1, Value.agg #[Value.int IntKind.i64 x1, Value.int IntKind.i64 x2, Value.bool b1, Value.int IntKind.i64 x3, Value.int IntKind.i64 x4, Value.int IntKind.i64 x5, Value.int IntKind.u32 x6, Value.int IntKind.u32 x7, Value.int IntKind.u32 x8, Value.int IntKind.u32 x9, Value.slice sa2 sl2 sc2]] w2 fun e2 w3 =>
      ∃ p2 : Option Addr,
      ∃ k5 : Nat,
      ∃ k6 : Nat,
      ∃ c2 : Bool,
      (e2 = Ending.returned (Value.tuple #[Value.slice p2 k5 k6, Value.bool c2])) ∧
      (Keep ([k2, k1]) w2 w3) ∧
      I1 [Value.slice p2 k5 k6, Value.bool c2] w3)
      (I1 [Value.slice p1 k3 k4, Value.bool c1] w2)) ∧
  ∀ p3 : Option Addr,
  ∀ k7 : Nat,
  ∀ k8 : Nat,
  ∀ c3 : Bool,
  ∀ w4 : World,
  (I1 [Value.slice p3 k7 k8, Value.bool c3] w4) →
  ∀ k9 : Nat,
  (w4.heap.size ≤ k9) →
  ∃ I2 : List Value → World → Prop,
  ∃ m1 : List Value → World → Nat,
  (∀ w5 : World,
    (Locl ([k9, k2, k1]) w4 w5) →
    I2 [Value.int IntKind.i64 0, Value.int IntKind.i64 0, Value.int IntKind.i64 0, Value.slice none 0 0, Value.int IntKind.i64 x1, Value.int IntKind.i64 x2, Value.slice none 0 0] w5) ∧
  ∀ n1 : Int,
  ∀ n2 : Int,
  ∀ n3 : Int,
  ∀ p4 : Option Addr,
  ∀ k10 : Nat,
  ∀ k11 : Nat,
  ∀ n4 : Int,
  ∀ n5 : Int,
  ∀ p5 : Option Addr,
  ∀ k12 : Nat,
  ∀ k13 : Nat,
  ∀ w6 : World,
  (I2 [Value.int IntKind.i64 n1, Value.int IntKind.i64 n2, Value.int IntKind.i64 n3, Value.slice p4 k10 k11, Value.int IntKind.i64 n4, Value.int IntKind.i64 n5, Value.slice p5 k12 k13] w6) →
  brB (decide (n1 < (↑k7 : Int)) && c3)
    (idx (p3) (k7) (n1) (1) fun a1 =>
    ∃ n6 : Int,
    (w6.drew.cell? a1 = some (Value.int IntKind.i64 n6)) ∧
    brB (decide (n6 ≥ (↑sl2 : Int)))
      (∀ w7 : World,
      (Locl ([k9, k2, k1]) (w6.drew) w7) →
      R (Ending.returned (Value.tuple #[Value.agg #[Value.int IntKind.i64 n4, Value.int IntKind.i64 n5, Value.slice p5 k12 k13], Value.bool false])) w7)
      (idx (p3) (k7) (n1) (1) fun a2 =>
      ∃ n7 : Int,
      (w6.drew.drew.cell? a2 = some (Value.int IntKind.i64 n7)) ∧
      idx (sa2) (sl2) (n7) (4) fun a3 =>
      ∃ n8 : Int,
      ∃ n9 : Int,
      ∃ n10 : Int,
      ∃ n11 : Int,
      (w6.drew.drew.cell? a3 = some (Value.int IntKind.u16 n8)) ∧
      (w6.drew.drew.cell? (a3.add 1) = some (Value.int IntKind.u16 n9)) ∧
      (w6.drew.drew.cell? (a3.add 2) = some (Value.int IntKind.u16 n10)) ∧
      (w6.drew.drew.cell? (a3.add 3) = some (Value.int IntKind.u16 n11)) ∧
      Calls P F.ref09_Add #[Value.agg #[Value.int IntKind.i64 n4, Value.int IntKind.i64 n5, Value.slice p5 k12 k13], Value.agg #[Value.int IntKind.u16 n8, Value.int IntKind.u16 n9, Value.int IntKind.u16 n10, Value.int IntKind.u16 n11]] (w6.drew.drew) fun e3 w8 =>
      ∃ n12 : Int,
      ∃ n13 : Int,
      ∃ p6 : Option Addr,
      ∃ k14 : Nat,
      ∃ k15 : Nat,
      (e3 = Ending.returned (Value.agg #[Value.int IntKind.i64 n12, Value.int IntKind.i64 n13, Value.slice p6 k14 k15])) ∧
      (Keep ([k9, k2, k1]) (w6.drew.drew) w8) ∧
      ∀ w9 : World,
      (Locl ([k9, k2, k1]) w8 w9) →
      (I2 [Value.int IntKind.i64 (IntKind.i64.wrap (n1 + 1)), Value.int IntKind.i64 n2, Value.int IntKind.i64 n3, Value.slice p4 k10 k11, Value.int IntKind.i64 n12, Value.int IntKind.i64 n13, Value.slice p6 k14 k15] w9) ∧
      m1 [Value.int IntKind.i64 (IntKind.i64.wrap (n1 + 1)), Value.int IntKind.i64 n2, Value.int IntKind.i64 n3, Value.slice p4 k10 k11, Value.int IntKind.i64 n12, Value.int IntKind.i64 n13, Value.slice p6 k14 k15] w9 < m1 [Value.int IntKind.i64 n1, Value.int IntKind.i64 n2, Value.int IntKind.i64 n3, Value.slice p4 k10 k11, Value.int IntKind.i64 n4, Value.int IntKind.i64 n5, Value.slice p5 k12 k13] w6))
    (∀ w10 : World,
    (Locl ([k9, k2, k1]) w6 w10) →
    R (Ending.returned (Value.tuple #[Value.agg #[Value.int IntKind.i64 n4, Value.int IntKind.i64 n5, Value.slice p5 k12 k13], Value.bool c3])) w10)
theorem calls_ref11_byIndex (sa1 : Option Addr) (sl1 sc1 : Nat) (x1 : Int) (x2 : Int) (b1 : Bool) (x3 : Int) (x4 : Int) (x5 : Int) (x6 : Int) (x7 : Int) (x8 : Int) (x9 : Int) (sa2 : Option Addr) (sl2 sc2 : Nat) (w : World) (R : Ending → World → Prop) (h : vc_ref11_byIndex sa1 sl1 sc1 x1 x2 b1 x3 x4 x5 x6 x7 x8 x9 sa2 sl2 sc2 w R) : Calls P F.ref11_byIndex #[.slice sa1 sl1 sc1, .agg #[.int .i64 x1, .int .i64 x2, .bool b1, .int .i64 x3, .int .i64 x4, .int .i64 x5, .int .u32 x6, .int .u32 x7, .int .u32 x8, .int .u32 x9, .slice sa2 sl2 sc2]] w R :=
  calls_of_vc (fn := Tryd.f27) (ac := ac_ref11_byIndex) (args := [.slice sa1 sl1 sc1, .agg #[.int .i64 x1, .int .i64 x2, .bool b1, .int .i64 x3, .int .i64 x4, .int .i64 x5, .int .u32 x6, .int .u32 x7, .int .u32 x8, .int .u32 x9, .slice sa2 sl2 sc2]]) mixed Tryd.func27 (by kernel_rfl) (cast (by unfold vc_ref11_byIndex FnVc; kernel_rfl) h)
/-- darkroom/darkroomref11.byMask -/
def vc_ref11_byMask (sa1 : Option Addr) (sl1 sc1 : Nat) (x1 : Int) (x2 : Int) (b1 : Bool) (x3 : Int) (x4 : Int) (x5 : Int) (x6 : Int) (x7 : Int) (x8 : Int) (x9 : Int) (sa2 : Option Addr) (sl2 sc2 : Nat) (w : World) (R : Ending → World → Prop) : Prop :=
  ∀ k1 : Nat,
  ∀ w1 : World,
  (New w (Obj.cells #[Value.int IntKind.i64 x1, Value.int IntKind.i64 x2, Value.bool b1, Value.int IntKind.i64 x3, Value.int IntKind.i64 x4, Value.int IntKind.i64 x5, Value.int IntKind.u32 x6, Value.int IntKind.u32 x7, Value.int IntKind.u32 x8, Value.int IntKind.u32 x9, Value.slice sa2 sl2 sc2] 60) k1 w1) →
  ∀ k2 : Nat,
  (w1.heap.size ≤ k2) →
  ∀ w2 : World,
  (Locl ([k2]) w1 w2) →
  ∃ n1 : Int,
  (w2.cell? { block := k1, off := 0 } = some (Value.int IntKind.i64 n1)) ∧
  ∃ n2 : Int,
  (w2.cell? { block := k1, off := 3 } = some (Value.int IntKind.i64 n2)) ∧
  ∃ n3 : Int,
  (w2.cell? { block := k1, off := 3 } = some (Value.int IntKind.i64 n3)) ∧
  ∃ n4 : Int,
  (w2.cell? { block := k1, off := 0 } = some (Value.int IntKind.i64 n4)) ∧
  ∃ n5 : Int,
  (w2.cell? { block := k1, off := 1 } = some (Value.int IntKind.i64 n5)) ∧
  ∀ k3 : Nat,
  (w2.heap.size ≤ k3) →
  ∀ w3 : World,
  (Locl ([k3, k2]) w2 w3) →
  ∃ n6 : Int,
  (w3.cell? { block := k1, off := 1 } = some (Value.int IntKind.i64 n6)) ∧
  brB (decide (IntKind.i64.wrap (IntKind.i64.wrap (divZ BinOp.quo IntKind.i64 (IntKind.i64.wrap (IntKind.i64.wrap (n1 * n2) + 31)) 32 * 4) * n6) > (↑sl1 : Int)))
    (∀ w4 : World,
    (Locl ([k3, k2]) w3 w4) →
    R (Ending.returned (Value.tuple #[Value.agg #[Value.int IntKind.i64 n4, Value.int IntKind.i64 n5, Value.slice none 0 0], Value.bool false])) w4)
    (∃ I1 : List Value → World → Prop,
    ∃ m1 : List Value → World → Nat,
    (I1 [Value.int IntKind.i64 0, Value.int IntKind.i64 n4, Value.int IntKind.i64 n5, Value.slice none 0 0] w3) ∧
    ∀ n7 : Int,
    ∀ n8 : Int,
    ∀ n9 : Int,
    ∀ p1 : Option Addr,
    ∀ k4 : Nat,
    ∀ k5 : Nat,
    ∀ w5 : World,
    (I1 [Value.int IntKind.i64 n7, Value.int IntKind.i64 n8, Value.int IntKind.i64 n9, Value.slice p1 k4 k5] w5) →
    ∃ n10 : Int,
    (w5.cell? { block := k1, off := 1 } = some (Value.int IntKind.i64 n10)) ∧
    brB (decide (n7 < n10))
      (∃ I2 : List Value → World → Prop,
      (∃ c1 : Bool,
        (w5.cell? { block := k1, off := 2 } = some (Value.bool c1)) ∧
        brB (!c1)
          (∃ n11 : Int,
          (w5.cell? { block := k1, off := 1 } = some (Value.int IntKind.i64 n11)) ∧
          I2 [Value.int IntKind.i64 (IntKind.i64.wrap (IntKind.i64.wrap (n11 - 1) - n7))] w5)
          (I2 [Value.int IntKind.i64 n7] w5)) ∧
      ∀ n12 : Int,
      ∀ w6 : World,
      (I2 [Value.int IntKind.i64 n12] w6) →
      ∃ I3 : List Value → World → Prop,
      ∃ m2 : List Value → World → Nat,
      (I3 [Value.int IntKind.i64 0, Value.int IntKind.i64 n8, Value.int IntKind.i64 n9, Value.slice p1 k4 k5] w6) ∧
      ∀ n13 : Int,
      ∀ n14 : Int,
      ∀ n15 : Int,
      ∀ p2 : Option Addr,
      ∀ k6 : Nat,
      ∀ k7 : Nat,
      ∀ w7 : World,
      (I3 [Value.int IntKind.i64 n13, Value.int IntKind.i64 n14, Value.int IntKind.i64 n15, Value.slice p2 k6 k7] w7) →
      ∃ n16 : Int,
      (w7.cell? { block := k1, off := 0 } = some (Value.int IntKind.i64 n16)) ∧
      brB (decide (n13 < n16))
        (Calls P F.ref01_Get #[Value.slice sa1 sl1 sc1, Value.int IntKind.i64 (IntKind.i64.wrap (IntKind.i64.wrap (n12 * IntKind.i64.wrap (divZ BinOp.quo IntKind.i64 (IntKind.i64.wrap (IntKind.i64.wrap (n1 * n2) + 31)) 32 * 4)) + IntKind.i64.wrap (n13 * divZ BinOp.quo IntKind.i64 n3 8))), Value.int IntKind.i64 (divZ BinOp.quo IntKind.i64 n3 8), Value.bool false] w7 fun e1 w8 =>
        ∃ n17 : Int,
        ∃ n18 : Int,
        (e1 = Ending.returned (Value.tuple #[Value.int IntKind.u32 n17, Value.int IntKind.i64 n18])) ∧
        (Keep ([k3, k2]) w7 w8) ∧
        ((0 : Int) ≤ 0) ∧
        ((0 : Int) < 4) ∧
        ∃ n19 : Int,
        (w8.drew.cell? { block := k1, off := 6 } = some (Value.int IntKind.u32 n19)) ∧
        ((0 : Int) ≤ 1) ∧
        ((1 : Int) < 4) ∧
        ∃ n20 : Int,
        (w8.drew.cell? { block := k1, off := 7 } = some (Value.int IntKind.u32 n20)) ∧
        ((0 : Int) ≤ 2) ∧
        ((2 : Int) < 4) ∧
        ∃ n21 : Int,
        (w8.drew.cell? { block := k1, off := 8 } = some (Value.int IntKind.u32 n21)) ∧
        ((0 : Int) ≤ 3) ∧
        ((3 : Int) < 4) ∧
        ∃ n22 : Int,
        (w8.drew.cell? { block := k1, off := 9 } = some (Value.int IntKind.u32 n22)) ∧
        Calls P F.ref11_sample #[Value.int IntKind.u32 n17, Value.int IntKind.u32 n19] (w8.drew) fun e2 w9 =>
        ∃ n23 : Int,
        (e2 = Ending.returned (Value.int IntKind.u16 n23)) ∧
        (Keep ([k3, k2]) (w8.drew) w9) ∧
        (Keeps (w8.drew) w9) ∧
        Calls P F.ref11_sample #[Value.int IntKind.u32 n17, Value.int IntKind.u32 n20] w9 fun e3 w10 =>
        ∃ n24 : Int,
        (e3 = Ending.returned (Value.int IntKind.u16 n24)) ∧
        (Keep ([k3, k2]) w9 w10) ∧
        (Keeps w9 w10) ∧
        Calls P F.ref11_sample #[Value.int IntKind.u32 n17, Value.int IntKind.u32 n21] w10 fun e4 w11 =>
        ∃ n25 : Int,
        (e4 = Ending.returned (Value.int IntKind.u16 n25)) ∧
        (Keep ([k3, k2]) w10 w11) ∧
        (Keeps w10 w11) ∧
        Calls P F.ref11_sample #[Value.int IntKind.u32 n17, Value.int IntKind.u32 n22] w11 fun e5 w12 =>
        ∃ n26 : Int,
        (e5 = Ending.returned (Value.int IntKind.u16 n26)) ∧
        (Keep ([k3, k2]) w11 w12) ∧
        (Keeps w11 w12) ∧
        Calls P F.ref09_Add #[Value.agg #[Value.int IntKind.i64 n14, Value.int IntKind.i64 n15, Value.slice p2 k6 k7], Value.agg #[Value.int IntKind.u16 n23, Value.int IntKind.u16 n24, Value.int IntKind.u16 n25, Value.int IntKind.u16 n26]] w12 fun e6 w13 =>
        ∃ n27 : Int,
        ∃ n28 : Int,
        ∃ p3 : Option Addr,
        ∃ k8 : Nat,
        ∃ k9 : Nat,
        (e6 = Ending.returned (Value.agg #[Value.int IntKind.i64 n27, Value.int IntKind.i64 n28, Value.slice p3 k8 k9])) ∧
        (Keep ([k3, k2]) w12 w13) ∧
        ∀ w14 : World,
        (Locl ([k3, k2]) w13 w14) →
        (I3 [Value.int IntKind.i64 (IntKind.i64.wrap (n13 + 1)), Value.int IntKind.i64 n27, Value.int IntKind.i64 n28, Value.slice p3 k8 k9] w14) ∧
        m2 [Value.int IntKind.i64 (IntKind.i64.wrap (n13 + 1)), Value.int IntKind.i64 n27, Value.int IntKind.i64 n28, Value.slice p3 k8 k9] w14 < m2 [Value.int IntKind.i64 n13, Value.int IntKind.i64 n14, Value.int IntKind.i64 n15, Value.slice p2 k6 k7] w7)
        ((I1 [Value.int IntKind.i64 (IntKind.i64.wrap (n7 + 1)), Value.int IntKind.i64 n14, Value.int IntKind.i64 n15, Value.slice p2 k6 k7] w7) ∧
        m1 [Value.int IntKind.i64 (IntKind.i64.wrap (n7 + 1)), Value.int IntKind.i64 n14, Value.int IntKind.i64 n15, Value.slice p2 k6 k7] w7 < m1 [Value.int IntKind.i64 n7, Value.int IntKind.i64 n8, Value.int IntKind.i64 n9, Value.slice p1 k4 k5] w5))
      (∀ w15 : World,
      (Locl ([k3, k2]) w5 w15) →
      R (Ending.returned (Value.tuple #[Value.agg #[Value.int IntKind.i64 n8, Value.int IntKind.i64 n9, Value.slice p1 k4 k5], Value.bool true])) w15))
theorem calls_ref11_byMask (sa1 : Option Addr) (sl1 sc1 : Nat) (x1 : Int) (x2 : Int) (b1 : Bool) (x3 : Int) (x4 : Int) (x5 : Int) (x6 : Int) (x7 : Int) (x8 : Int) (x9 : Int) (sa2 : Option Addr) (sl2 sc2 : Nat) (w : World) (R : Ending → World → Prop) (h : vc_ref11_byMask sa1 sl1 sc1 x1 x2 b1 x3 x4 x5 x6 x7 x8 x9 sa2 sl2 sc2 w R) : Calls P F.ref11_byMask #[.slice sa1 sl1 sc1, .agg #[.int .i64 x1, .int .i64 x2, .bool b1, .int .i64 x3, .int .i64 x4, .int .i64 x5, .int .u32 x6, .int .u32 x7, .int .u32 x8, .int .u32 x9, .slice sa2 sl2 sc2]] w R :=
  calls_of_vc (fn := Tryd.f28) (ac := ac_ref11_byMask) (args := [.slice sa1 sl1 sc1, .agg #[.int .i64 x1, .int .i64 x2, .bool b1, .int .i64 x3, .int .i64 x4, .int .i64 x5, .int .u32 x6, .int .u32 x7, .int .u32 x8, .int .u32 x9, .slice sa2 sl2 sc2]]) mixed Tryd.func28 (by kernel_rfl) (cast (by unfold vc_ref11_byMask FnVc; kernel_rfl) h)
/-- darkroom/raster.Grid -/
def vc_raster_Grid (x1 : Int) (x2 : Int) (sa1 : Option Addr) (sl1 sc1 : Nat) (w : World) (R : Ending → World → Prop) : Prop :=
  ∀ k1 : Nat,
  (w.heap.size ≤ k1) →
  ∀ w1 : World,
  (Locl ([k1]) w w1) →
  Calls P F.raster_Good #[Value.agg #[Value.int IntKind.i64 x1, Value.int IntKind.i64 x2, Value.slice sa1 sl1 sc1]] w1 fun e1 w2 =>
  ∃ c1 : Bool,
  (e1 = Ending.returned (Value.bool c1)) ∧
  (Keep ([k1]) w1 w2) ∧
  brB (!c1)
    (R (Ending.returned (Value.tuple #[Value.pointer none, Value.int IntKind.i64 6])) w2)
    (((0 : Int) ≤ 0) ∧
    (0 ≤ IntKind.i64.wrap (x1 * x2)) ∧
    (IntKind.i64.wrap (x1 * x2) * 8 ≤ 281474976710656) ∧
    (IntKind.i64.wrap (x1 * x2) < 4611686018427387904) ∧
    ∀ k2 : Nat,
    ∀ w3 : World,
    (New w2 (Obj.cells (mkCells [Value.int IntKind.u16 0, Value.int IntKind.u16 0, Value.int IntKind.u16 0, Value.int IntKind.u16 0] (IntKind.i64.wrap (x1 * x2)).toNat) 49) k2 w3) →
    ∀ k3 : Nat,
    (w3.heap.size ≤ k3) →
    ∀ w4 : World,
    (Locl ([k3, k1]) w3 w4) →
    Calls P F.slices_Chunk_uint16 #[Value.slice sa1 sl1 sc1, Value.int IntKind.i64 4] w4 fun e2 w5 =>
    ∃ y1 : FuncId,
    ∃ y2 : Array Value,
    ∃ y3 : Array Value,
    (e2 = Ending.returned (Value.func (Fn.func y1) y2 y3)) ∧
    (Keep ([k3, k1]) w4 w5) ∧
    ∀ k4 : Nat,
    ∀ w6 : World,
    (Rf w5 w6 k4) →
    ∀ I1 : List Value → World → Prop,
    ∀ Z1 : Exit → List Value → World → Prop,
    (∀ l1 : List Value,
    ∀ w7 : World,
    ∀ w8 : World,
    (I1 l1 w7) →
    (Keep ([k4, w5.heap.size, k3, k1]) w7 w8) →
    I1 l1 w8) →
    (∀ y4 : Exit,
    ∀ l2 : List Value,
    ∀ w9 : World,
    ∀ w10 : World,
    (Z1 y4 l2 w9) →
    (Keep ([k4, w5.heap.size, k3, k1]) w9 w10) →
    Z1 y4 l2 w10) →
    (I1 [Value.slice (some { block := k2, off := 0 }) 0 (IntKind.i64.wrap (x1 * x2)).toNat] w6) →
    (∀ p1 : Option Addr,
    ∀ k5 : Nat,
    ∀ k6 : Nat,
    ∀ p2 : Option Addr,
    ∀ k7 : Nat,
    ∀ k8 : Nat,
    ∀ w11 : World,
    ∀ I2 : Ending → World → Prop,
    (I1 [Value.slice p1 k5 k6] w11) →
    (∀ y5 : Obj,
    ∀ y6 : Obj,
    ∀ w12 : World,
    (Put k4 w11 w12) →
    Calls P F.raster_colour #[Value.slice p2 k7 k8] (w12.drew) fun e3 w13 =>
    ∃ n1 : Int,
    ∃ n2 : Int,
    ∃ n3 : Int,
    ∃ n4 : Int,
    (e3 = Ending.returned (Value.agg #[Value.int IntKind.u16 n1, Value.int IntKind.u16 n2, Value.int IntKind.u16 n3, Value.int IntKind.u16 n4])) ∧
    (Keep ([k4, w5.heap.size, k3, k1]) (w12.drew) w13) ∧
    (Keeps (w12.drew) w13) ∧
    ∀ k9 : Nat,
    (w13.heap.size ≤ k9) →
    ∀ w14 : World,
    (Locl ([k9, k3, k1]) w13 w14) →
    appVC (w14) ([(22, k9, [Value.int IntKind.u16 n1, Value.int IntKind.u16 n2, Value.int IntKind.u16 n3, Value.int IntKind.u16 n4]), (4, k3, [Value.slice p1 k5 k6]), (1, k1, [Value.int IntKind.i64 x1, Value.int IntKind.i64 x2, Value.slice sa1 sl1 sc1])]) (p1) (k5) (k6) (1) (4) (8) (49) ([Value.int IntKind.u16 0, Value.int IntKind.u16 0, Value.int IntKind.u16 0, Value.int IntKind.u16 0]) ([Value.int IntKind.u16 n1, Value.int IntKind.u16 n2, Value.int IntKind.u16 n3, Value.int IntKind.u16 n4]) fun p3 k10 k11 w15 =>
    ∀ w16 : World,
    (Locl ([k9, k3, k1]) w15 w16) →
    ∀ w17 : World,
    (Put k4 w16 w17) →
    (I1 [Value.slice p3 k10 k11] w17) →
    I2 (Ending.returned (Value.bool true)) w17) →
    YieldAt Fence.wide 0 P (k4) #[Value.slice p2 k7 k8] (w11) I2) →
    callF P (Value.func (Fn.func y1) y2 y3) [Value.func (Fn.yield k4) #[] #[]] w6 fun e4 w18 =>
    ∃ v1 : Value,
    (e4 = Ending.returned v1) ∧
    ((∃ p4 : Option Addr,
      ∃ k12 : Nat,
      ∃ k13 : Nat,
      (I1 [Value.slice p4 k12 k13] w18) ∧
      ∀ w19 : World,
      (Put k4 w18 w19) →
      Calls P F.grid_Of_api_Color #[Value.int IntKind.i64 x1, Value.int IntKind.i64 x2, Value.slice p4 k12 k13] w19 fun e5 w20 =>
      ∃ p5 : Option Addr,
      ∃ n5 : Int,
      (e5 = Ending.returned (Value.tuple #[Value.pointer p5, Value.int IntKind.i64 n5])) ∧
      (Keep ([w5.heap.size, k3, k1]) w19 w20) ∧
      ∀ w21 : World,
      (Put (w5.heap.size) w20 w21) →
      R (Ending.returned (Value.tuple #[Value.pointer p5, Value.int IntKind.i64 n5])) w21) ∨
    (False)))
theorem calls_raster_Grid (x1 : Int) (x2 : Int) (sa1 : Option Addr) (sl1 sc1 : Nat) (w : World) (R : Ending → World → Prop) (h : vc_raster_Grid x1 x2 sa1 sl1 sc1 w R) : Calls P F.raster_Grid #[.agg #[.int .i64 x1, .int .i64 x2, .slice sa1 sl1 sc1]] w R :=
  calls_of_vc (fn := Tryd.f29) (ac := ac_raster_Grid) (args := [.agg #[.int .i64 x1, .int .i64 x2, .slice sa1 sl1 sc1]]) mixed Tryd.func29 (by kernel_rfl) (cast (by unfold vc_raster_Grid FnVc; kernel_rfl) h)
/-- darkroom/bmp.Encode$1 -/
def vc_bmp_Encode_fn1 (x1 : Int) (x2 : Int) (x3 : Int) (fr1 : Addr) (w : World) (R : Ending → World → Prop) : Prop :=
  ∃ I1 : List Value → World → Prop,
  ∃ m1 : List Value → World → Nat,
  (I1 [Value.int IntKind.i64 0] w) ∧
  ∀ n1 : Int,
  ∀ w1 : World,
  (I1 [Value.int IntKind.i64 n1] w1) →
  brB (decide (n1 < x2))
    (∃ p1 : Option Addr,
    ∃ k1 : Nat,
    ∃ k2 : Nat,
    (w1.drew.cell? fr1 = some (Value.slice p1 k1 k2)) ∧
    (0 ≤ IntKind.i64.wrap (8 * n1)) ∧
    idx (p1) (k1) (IntKind.i64.wrap (x1 + n1)) (1) fun a1 =>
    (∃ v1 : Value,
      w1.drew.cell? a1 = some v1) ∧
    (w1.drew.frozen? a1 = false) ∧
    (I1 [Value.int IntKind.i64 (IntKind.i64.wrap (n1 + 1))] (setCells w1.drew a1 [Value.int IntKind.u8 (IntKind.u8.wrap (shiftZ BinOp.shr IntKind.u32 x3 (IntKind.i64.wrap (8 * n1))))] 0)) ∧
    m1 [Value.int IntKind.i64 (IntKind.i64.wrap (n1 + 1))] (setCells w1.drew a1 [Value.int IntKind.u8 (IntKind.u8.wrap (shiftZ BinOp.shr IntKind.u32 x3 (IntKind.i64.wrap (8 * n1))))] 0) < m1 [Value.int IntKind.i64 n1] w1)
    (R (Ending.returned (Value.tuple #[])) w1)
theorem calls_bmp_Encode_fn1 (x1 : Int) (x2 : Int) (x3 : Int) (fr1 : Addr) (w : World) (R : Ending → World → Prop) (h : vc_bmp_Encode_fn1 x1 x2 x3 fr1 w R) : Calls P F.bmp_Encode_fn1 #[.int .i64 x1, .int .i64 x2, .int .u32 x3, .pointer (some fr1)] w R :=
  calls_of_vc (fn := Tryd.f30) (ac := ac_bmp_Encode_fn1) (args := [.int .i64 x1, .int .i64 x2, .int .u32 x3, .pointer (some fr1)]) mixed Tryd.func30 (by kernel_rfl) (cast (by unfold vc_bmp_Encode_fn1 FnVc; kernel_rfl) h)
/-- darkroom/bmp.Encode$2 -/
def vc_bmp_Encode_fn2 (x1 : Int) (w : World) (R : Ending → World → Prop) : Prop :=
  Calls P F.tones_Down #[Value.int IntKind.u16 x1, Value.int IntKind.i64 255] w fun e1 w1 =>
  ∃ n1 : Int,
  ∃ n2 : Int,
  (e1 = Ending.returned (Value.tuple #[Value.int IntKind.i64 n1, Value.int IntKind.i64 n2])) ∧
  R (Ending.returned (Value.int IntKind.u8 (IntKind.u8.wrap n1))) w1
theorem calls_bmp_Encode_fn2 (x1 : Int) (w : World) (R : Ending → World → Prop) (h : vc_bmp_Encode_fn2 x1 w R) : Calls P F.bmp_Encode_fn2 #[.int .u16 x1] w R :=
  calls_of_vc (fn := Tryd.f31) (ac := ac_bmp_Encode_fn2) (args := [.int .u16 x1]) mixed Tryd.func31 (by kernel_rfl) (cast (by unfold vc_bmp_Encode_fn2 FnVc; kernel_rfl) h)
/-- darkroom/tones.Down -/
def vc_tones_Down (x1 : Int) (x2 : Int) (w : World) (R : Ending → World → Prop) : Prop :=
  brB (decide (x2 < 1) || decide (x2 > 65535))
    (R (Ending.returned (Value.tuple #[Value.int IntKind.i64 0, Value.int IntKind.i64 2])) w)
    (R (Ending.returned (Value.tuple #[Value.int IntKind.i64 (divZ BinOp.quo IntKind.i64 (IntKind.i64.wrap (IntKind.i64.wrap (IntKind.i64.wrap x1 * x2) + 32767)) 65535), Value.int IntKind.i64 0])) w)
theorem calls_tones_Down (x1 : Int) (x2 : Int) (w : World) (R : Ending → World → Prop) (h : vc_tones_Down x1 x2 w R) : Calls P F.tones_Down #[.int .u16 x1, .int .i64 x2] w R :=
  calls_of_vc (fn := Tryd.f32) (ac := ac_tones_Down) (args := [.int .u16 x1, .int .i64 x2]) mixed Tryd.func32 (by kernel_rfl) (cast (by unfold vc_tones_Down FnVc; kernel_rfl) h)
/-- (*darkroom/grid.Grid[darkroom/api.Color]).At -/
def vc_grid_Grid_api_Color_At (q1 : Option Addr) (x1 : Int) (x2 : Int) (w : World) (R : Ending → World → Prop) : Prop :=
  ∀ k1 : Nat,
  (w.heap.size ≤ k1) →
  ∀ w1 : World,
  (Locl ([k1]) w w1) →
  Calls P F.grid_Grid_api_Color_has #[Value.pointer q1, Value.int IntKind.i64 x1, Value.int IntKind.i64 x2] w1 fun e1 w2 =>
  ∃ c1 : Bool,
  (e1 = Ending.returned (Value.bool c1)) ∧
  (Keep ([k1]) w1 w2) ∧
  brB (!c1)
    (∀ w3 : World,
    (Locl ([k1]) w2 w3) →
    R (Ending.returned (Value.tuple #[Value.agg #[Value.int IntKind.u16 0, Value.int IntKind.u16 0, Value.int IntKind.u16 0, Value.int IntKind.u16 0], Value.bool false])) w3)
    (nn (q1) fun a1 =>
    ∃ p1 : Option Addr,
    ∃ k2 : Nat,
    ∃ k3 : Nat,
    (w2.drew.cell? (a1.add 2) = some (Value.slice p1 k2 k3)) ∧
    nn (q1) fun a2 =>
    ∃ n1 : Int,
    (w2.drew.cell? a2 = some (Value.int IntKind.i64 n1)) ∧
    idx (p1) (k2) (IntKind.i64.wrap (IntKind.i64.wrap (x2 * n1) + x1)) (4) fun a3 =>
    ∃ n2 : Int,
    ∃ n3 : Int,
    ∃ n4 : Int,
    ∃ n5 : Int,
    (w2.drew.cell? a3 = some (Value.int IntKind.u16 n2)) ∧
    (w2.drew.cell? (a3.add 1) = some (Value.int IntKind.u16 n3)) ∧
    (w2.drew.cell? (a3.add 2) = some (Value.int IntKind.u16 n4)) ∧
    (w2.drew.cell? (a3.add 3) = some (Value.int IntKind.u16 n5)) ∧
    ∀ w4 : World,
    (Locl ([k1]) (w2.drew) w4) →
    R (Ending.returned (Value.tuple #[Value.agg #[Value.int IntKind.u16 n2, Value.int IntKind.u16 n3, Value.int IntKind.u16 n4, Value.int IntKind.u16 n5], Value.bool true])) w4)
theorem calls_grid_Grid_api_Color_At (q1 : Option Addr) (x1 : Int) (x2 : Int) (w : World) (R : Ending → World → Prop) (h : vc_grid_Grid_api_Color_At q1 x1 x2 w R) : Calls P F.grid_Grid_api_Color_At #[.pointer q1, .int .i64 x1, .int .i64 x2] w R :=
  calls_of_vc (fn := Tryd.f33) (ac := ac_grid_Grid_api_Color_At) (args := [.pointer q1, .int .i64 x1, .int .i64 x2]) mixed Tryd.func33 (by kernel_rfl) (cast (by unfold vc_grid_Grid_api_Color_At FnVc; kernel_rfl) h)
/-- darkroom/darkroomref09.Good -/
def vc_ref09_Good (x1 : Int) (x2 : Int) (sa1 : Option Addr) (sl1 sc1 : Nat) (w : World) (R : Ending → World → Prop) : Prop :=
  ∀ k1 : Nat,
  (w.heap.size ≤ k1) →
  ∀ w1 : World,
  (Locl ([k1]) w w1) →
  Calls P F.ref07_Fits #[Value.int IntKind.i64 x1, Value.int IntKind.i64 x2] w1 fun e1 w2 =>
  ∃ c1 : Bool,
  (e1 = Ending.returned (Value.bool c1)) ∧
  (Keep ([k1]) w1 w2) ∧
  R (Ending.returned (Value.bool (c1 && (↑sl1 : Int) == IntKind.i64.wrap (IntKind.i64.wrap (4 * x1) * x2)))) w2
theorem calls_ref09_Good (x1 : Int) (x2 : Int) (sa1 : Option Addr) (sl1 sc1 : Nat) (w : World) (R : Ending → World → Prop) (h : vc_ref09_Good x1 x2 sa1 sl1 sc1 w R) : Calls P F.ref09_Good #[.agg #[.int .i64 x1, .int .i64 x2, .slice sa1 sl1 sc1]] w R :=
  calls_of_vc (fn := Tryd.f34) (ac := ac_ref09_Good) (args := [.agg #[.int .i64 x1, .int .i64 x2, .slice sa1 sl1 sc1]]) mixed Tryd.func34 (by kernel_rfl) (cast (by unfold vc_ref09_Good FnVc; kernel_rfl) h)
/-- darkroom/darkroomref11.set -/
def vc_ref11_set (sa1 : Option Addr) (sl1 sc1 : Nat) (x1 : Int) (x2 : Int) (x3 : Int) (w : World) (R : Ending → World → Prop) : Prop :=
  Calls P F.ref01_Set #[Value.slice sa1 sl1 sc1, Value.int IntKind.i64 x1, Value.int IntKind.i64 x2, Value.bool false, Value.int IntKind.u32 (IntKind.u32.wrap x3)] w fun e1 w1 =>
  ∃ p1 : Option Addr,
  ∃ k1 : Nat,
  ∃ k2 : Nat,
  ∃ n1 : Int,
  (e1 = Ending.returned (Value.tuple #[Value.slice p1 k1 k2, Value.int IntKind.i64 n1])) ∧
  R (Ending.returned (Value.slice p1 k1 k2)) w1
theorem calls_ref11_set (sa1 : Option Addr) (sl1 sc1 : Nat) (x1 : Int) (x2 : Int) (x3 : Int) (w : World) (R : Ending → World → Prop) (h : vc_ref11_set sa1 sl1 sc1 x1 x2 x3 w R) : Calls P F.ref11_set #[.slice sa1 sl1 sc1, .int .i64 x1, .int .i64 x2, .int .i64 x3] w R :=
  calls_of_vc (fn := Tryd.f35) (ac := ac_ref11_set) (args := [.slice sa1 sl1 sc1, .int .i64 x1, .int .i64 x2, .int .i64 x3]) mixed Tryd.func35 (by kernel_rfl) (cast (by unfold vc_ref11_set FnVc; kernel_rfl) h)
/-- darkroom/darkroomref09.Pixel -/
def vc_ref09_Pixel (x1 : Int) (x2 : Int) (sa1 : Option Addr) (sl1 sc1 : Nat) (x3 : Int) (x4 : Int) (w : World) (R : Ending → World → Prop) : Prop :=
  ∀ k1 : Nat,
  (w.heap.size ≤ k1) →
  ∀ k2 : Nat,
  (w.heap.size ≤ k2) →
  idx (sa1) (sl1) (IntKind.i64.wrap (4 * IntKind.i64.wrap (IntKind.i64.wrap (x4 * x1) + x3))) (1) fun a1 =>
  ∀ w1 : World,
  (Locl ([k2, k1]) w w1) →
  ∃ n1 : Int,
  (w1.cell? a1 = some (Value.int IntKind.u16 n1)) ∧
  idx (sa1) (sl1) (IntKind.i64.wrap (IntKind.i64.wrap (4 * IntKind.i64.wrap (IntKind.i64.wrap (x4 * x1) + x3)) + 1)) (1) fun a2 =>
  ∃ n2 : Int,
  (w1.cell? a2 = some (Value.int IntKind.u16 n2)) ∧
  idx (sa1) (sl1) (IntKind.i64.wrap (IntKind.i64.wrap (4 * IntKind.i64.wrap (IntKind.i64.wrap (x4 * x1) + x3)) + 2)) (1) fun a3 =>
  ∃ n3 : Int,
  (w1.cell? a3 = some (Value.int IntKind.u16 n3)) ∧
  idx (sa1) (sl1) (IntKind.i64.wrap (IntKind.i64.wrap (4 * IntKind.i64.wrap (IntKind.i64.wrap (x4 * x1) + x3)) + 3)) (1) fun a4 =>
  ∃ n4 : Int,
  (w1.cell? a4 = some (Value.int IntKind.u16 n4)) ∧
  ∀ w2 : World,
  (Locl ([k2, k1]) w1 w2) →
  R (Ending.returned (Value.agg #[Value.int IntKind.u16 n1, Value.int IntKind.u16 n2, Value.int IntKind.u16 n3, Value.int IntKind.u16 n4])) w2
theorem calls_ref09_Pixel (x1 : Int) (x2 : Int) (sa1 : Option Addr) (sl1 sc1 : Nat) (x3 : Int) (x4 : Int) (w : World) (R : Ending → World → Prop) (h : vc_ref09_Pixel x1 x2 sa1 sl1 sc1 x3 x4 w R) : Calls P F.ref09_Pixel #[.agg #[.int .i64 x1, .int .i64 x2, .slice sa1 sl1 sc1], .int .i64 x3, .int .i64 x4] w R :=
  calls_of_vc (fn := Tryd.f36) (ac := ac_ref09_Pixel) (args := [.agg #[.int .i64 x1, .int .i64 x2, .slice sa1 sl1 sc1], .int .i64 x3, .int .i64 x4]) mixed Tryd.func36 (by kernel_rfl) (cast (by unfold vc_ref09_Pixel FnVc; kernel_rfl) h)
/-- darkroom/darkroomref11.down -/
def vc_ref11_down (x1 : Int) (w : World) (R : Ending → World → Prop) : Prop :=
  Calls P F.ref08_Down #[Value.int IntKind.u16 x1, Value.int IntKind.i64 255] w fun e1 w1 =>
  ∃ n1 : Int,
  ∃ n2 : Int,
  (e1 = Ending.returned (Value.tuple #[Value.int IntKind.i64 n1, Value.int IntKind.i64 n2])) ∧
  R (Ending.returned (Value.int IntKind.u8 (IntKind.u8.wrap n1))) w1
theorem calls_ref11_down (x1 : Int) (w : World) (R : Ending → World → Prop) (h : vc_ref11_down x1 w R) : Calls P F.ref11_down #[.int .u16 x1] w R :=
  calls_of_vc (fn := Tryd.f37) (ac := ac_ref11_down) (args := [.int .u16 x1]) mixed Tryd.func37 (by kernel_rfl) (cast (by unfold vc_ref11_down FnVc; kernel_rfl) h)
/-- darkroom/darkroomref08.Down -/
def vc_ref08_Down (x1 : Int) (x2 : Int) (w : World) (R : Ending → World → Prop) : Prop :=
  brB (decide (x2 < 1) || decide (x2 > 65535))
    (R (Ending.returned (Value.tuple #[Value.int IntKind.i64 0, Value.int IntKind.i64 2])) w)
    (R (Ending.returned (Value.tuple #[Value.int IntKind.i64 (divZ BinOp.quo IntKind.i64 (IntKind.i64.wrap (IntKind.i64.wrap (IntKind.i64.wrap x1 * x2) + 32767)) 65535), Value.int IntKind.i64 0])) w)
theorem calls_ref08_Down (x1 : Int) (x2 : Int) (w : World) (R : Ending → World → Prop) (h : vc_ref08_Down x1 x2 w R) : Calls P F.ref08_Down #[.int .u16 x1, .int .i64 x2] w R :=
  calls_of_vc (fn := Tryd.f38) (ac := ac_ref08_Down) (args := [.int .u16 x1, .int .i64 x2]) mixed Tryd.func38 (by kernel_rfl) (cast (by unfold vc_ref08_Down FnVc; kernel_rfl) h)
/-- darkroom/darkroomref08.Up -/
def vc_ref08_Up (x1 : Int) (x2 : Int) (w : World) (R : Ending → World → Prop) : Prop :=
  brB (decide (x2 < 1) || decide (x2 > 65535) || decide (x1 < 0) || decide (x1 > x2))
    (R (Ending.returned (Value.tuple #[Value.int IntKind.u16 0, Value.int IntKind.i64 2])) w)
    ((x2 ≠ 0) ∧
    R (Ending.returned (Value.tuple #[Value.int IntKind.u16 (IntKind.u16.wrap (divZ BinOp.quo IntKind.i64 (IntKind.i64.wrap (IntKind.i64.wrap (65535 * x1) + divZ BinOp.quo IntKind.i64 x2 2)) x2)), Value.int IntKind.i64 0])) w)
theorem calls_ref08_Up (x1 : Int) (x2 : Int) (w : World) (R : Ending → World → Prop) (h : vc_ref08_Up x1 x2 w R) : Calls P F.ref08_Up #[.int .i64 x1, .int .i64 x2] w R :=
  calls_of_vc (fn := Tryd.f39) (ac := ac_ref08_Up) (args := [.int .i64 x1, .int .i64 x2]) mixed Tryd.func39 (by kernel_rfl) (cast (by unfold vc_ref08_Up FnVc; kernel_rfl) h)
/-- darkroom/darkroomref01.Get -/
def vc_ref01_Get (sa1 : Option Addr) (sl1 sc1 : Nat) (x1 : Int) (x2 : Int) (b1 : Bool) (w : World) (R : Ending → World → Prop) : Prop :=
  brB (decide (x2 < 1) || decide (x2 > 4))
    (R (Ending.returned (Value.tuple #[Value.int IntKind.u32 0, Value.int IntKind.i64 2])) w)
    (brB (decide (x1 < 0) || decide (x1 > (↑sl1 : Int)) || decide (x2 > IntKind.i64.wrap ((↑sl1 : Int) - x1)))
      (R (Ending.returned (Value.tuple #[Value.int IntKind.u32 0, Value.int IntKind.i64 5])) w)
      (∃ I1 : List Value → World → Prop,
      ∃ m1 : List Value → World → Nat,
      (I1 [Value.int IntKind.u32 0, Value.int IntKind.i64 0] w) ∧
      ∀ n1 : Int,
      ∀ n2 : Int,
      ∀ w1 : World,
      (I1 [Value.int IntKind.u32 n1, Value.int IntKind.i64 n2] w1) →
      brB (decide (n2 < x2))
        (∃ I2 : List Value → World → Prop,
        (brB (b1)
            (idx (sa1) (sl1) (IntKind.i64.wrap (x1 + n2)) (1) fun a1 =>
            ∃ n3 : Int,
            (w1.cell? a1 = some (Value.int IntKind.u8 n3)) ∧
            I2 [Value.int IntKind.u32 (IntKind.u32.wrap (IntKind.u32.wrap (256 * n1) + IntKind.u32.wrap n3))] w1)
            (idx (sa1) (sl1) (IntKind.i64.wrap (x1 + n2)) (1) fun a2 =>
            ∃ n4 : Int,
            (w1.cell? a2 = some (Value.int IntKind.u8 n4)) ∧
            (0 ≤ IntKind.u64.wrap (IntKind.i64.wrap (8 * n2))) ∧
            I2 [Value.int IntKind.u32 (IntKind.u32.wrap (n1 + shiftZ BinOp.shl IntKind.u32 (IntKind.u32.wrap n4) (IntKind.u64.wrap (IntKind.i64.wrap (8 * n2)))))] w1)) ∧
        ∀ n5 : Int,
        ∀ w2 : World,
        (I2 [Value.int IntKind.u32 n5] w2) →
        (I1 [Value.int IntKind.u32 n5, Value.int IntKind.i64 (IntKind.i64.wrap (n2 + 1))] w2) ∧
        m1 [Value.int IntKind.u32 n5, Value.int IntKind.i64 (IntKind.i64.wrap (n2 + 1))] w2 < m1 [Value.int IntKind.u32 n1, Value.int IntKind.i64 n2] w1)
        (R (Ending.returned (Value.tuple #[Value.int IntKind.u32 n1, Value.int IntKind.i64 0])) w1)))
theorem calls_ref01_Get (sa1 : Option Addr) (sl1 sc1 : Nat) (x1 : Int) (x2 : Int) (b1 : Bool) (w : World) (R : Ending → World → Prop) (h : vc_ref01_Get sa1 sl1 sc1 x1 x2 b1 w R) : Calls P F.ref01_Get #[.slice sa1 sl1 sc1, .int .i64 x1, .int .i64 x2, .bool b1] w R :=
  calls_of_vc (fn := Tryd.f40) (ac := ac_ref01_Get) (args := [.slice sa1 sl1 sc1, .int .i64 x1, .int .i64 x2, .bool b1]) mixed Tryd.func40 (by kernel_rfl) (cast (by unfold vc_ref01_Get FnVc; kernel_rfl) h)
/-- darkroom/darkroomref07.Fits -/
def vc_ref07_Fits (x1 : Int) (x2 : Int) (w : World) (R : Ending → World → Prop) : Prop :=
  R (Ending.returned (Value.bool (decide (x1 ≥ 1) && decide (x2 ≥ 1) && decide (x1 ≤ 4096) && decide (x2 ≤ 4096) && decide (IntKind.i64.wrap (x1 * x2) ≤ 65536)))) w
theorem calls_ref07_Fits (x1 : Int) (x2 : Int) (w : World) (R : Ending → World → Prop) (h : vc_ref07_Fits x1 x2 w R) : Calls P F.ref07_Fits #[.int .i64 x1, .int .i64 x2] w R :=
  calls_of_vc (fn := Tryd.f41) (ac := ac_ref07_Fits) (args := [.int .i64 x1, .int .i64 x2]) mixed Tryd.func41 (by kernel_rfl) (cast (by unfold vc_ref07_Fits FnVc; kernel_rfl) h)
/-- darkroom/darkroomref09.Add -/
def vc_ref09_Add (x1 : Int) (x2 : Int) (sa1 : Option Addr) (sl1 sc1 : Nat) (x3 : Int) (x4 : Int) (x5 : Int) (x6 : Int) (w : World) (R : Ending → World → Prop) : Prop :=
  ∀ k1 : Nat,
  (w.heap.size ≤ k1) →
  ∀ k2 : Nat,
  (w.heap.size ≤ k2) →
  ∀ k3 : Nat,
  (w.heap.size ≤ k3) →
  ∀ k4 : Nat,
  (w.heap.size ≤ k4) →
  ∀ w1 : World,
  (Locl ([k4, k3, k2, k1]) w w1) →
  appVC (w1) ([(15, k4, [Value.int IntKind.u16 x3, Value.int IntKind.u16 x4, Value.int IntKind.u16 x5, Value.int IntKind.u16 x6]), (4, k3, [Value.int IntKind.i64 0, Value.int IntKind.i64 0, Value.slice none 0 0]), (3, k2, [Value.int IntKind.u16 x3, Value.int IntKind.u16 x4, Value.int IntKind.u16 x5, Value.int IntKind.u16 x6]), (2, k1, [Value.int IntKind.i64 x1, Value.int IntKind.i64 x2, Value.slice sa1 sl1 sc1])]) (sa1) (sl1) (sc1) (4) (1) (2) (42) ([Value.int IntKind.u16 0]) ([Value.int IntKind.u16 x3, Value.int IntKind.u16 x4, Value.int IntKind.u16 x5, Value.int IntKind.u16 x6]) fun p1 k5 k6 w2 =>
  ∀ w3 : World,
  (Locl ([k4, k3, k2, k1]) w2 w3) →
  R (Ending.returned (Value.agg #[Value.int IntKind.i64 x1, Value.int IntKind.i64 x2, Value.slice p1 k5 k6])) w3
theorem calls_ref09_Add (x1 : Int) (x2 : Int) (sa1 : Option Addr) (sl1 sc1 : Nat) (x3 : Int) (x4 : Int) (x5 : Int) (x6 : Int) (w : World) (R : Ending → World → Prop) (h : vc_ref09_Add x1 x2 sa1 sl1 sc1 x3 x4 x5 x6 w R) : Calls P F.ref09_Add #[.agg #[.int .i64 x1, .int .i64 x2, .slice sa1 sl1 sc1], .agg #[.int .u16 x3, .int .u16 x4, .int .u16 x5, .int .u16 x6]] w R :=
  calls_of_vc (fn := Tryd.f42) (ac := ac_ref09_Add) (args := [.agg #[.int .i64 x1, .int .i64 x2, .slice sa1 sl1 sc1], .agg #[.int .u16 x3, .int .u16 x4, .int .u16 x5, .int .u16 x6]]) mixed Tryd.func42 (by kernel_rfl) (cast (by unfold vc_ref09_Add FnVc; kernel_rfl) h)
/-- darkroom/bmp.open$1 -/
def vc_bmp_open_fn1 (x1 : Int) (x2 : Int) (fr1 : Addr) (fr2 : Addr) (w : World) (R : Ending → World → Prop) : Prop :=
  ∃ p1 : Option Addr,
  ∃ k1 : Nat,
  ∃ k2 : Nat,
  (w.cell? fr1 = some (Value.slice p1 k1 k2)) ∧
  Calls P F.bits_Get #[Value.slice p1 k1 k2, Value.int IntKind.i64 x1, Value.int IntKind.i64 x2, Value.bool false] w fun e1 w1 =>
  ∃ n1 : Int,
  ∃ n2 : Int,
  (e1 = Ending.returned (Value.tuple #[Value.int IntKind.u32 n1, Value.int IntKind.i64 n2])) ∧
  ∃ c1 : Bool,
  (w1.cell? fr2 = some (Value.bool c1)) ∧
  (∃ v1 : Value,
    w1.cell? fr2 = some v1) ∧
  (w1.frozen? fr2 = false) ∧
  R (Ending.returned (Value.int IntKind.i64 (IntKind.i64.wrap n1))) (setCells w1 fr2 [Value.bool (c1 || n2 != 0)] 0)
theorem calls_bmp_open_fn1 (x1 : Int) (x2 : Int) (fr1 : Addr) (fr2 : Addr) (w : World) (R : Ending → World → Prop) (h : vc_bmp_open_fn1 x1 x2 fr1 fr2 w R) : Calls P F.bmp_open_fn1 #[.int .i64 x1, .int .i64 x2, .pointer (some fr1), .pointer (some fr2)] w R :=
  calls_of_vc (fn := Tryd.f43) (ac := ac_bmp_open_fn1) (args := [.int .i64 x1, .int .i64 x2, .pointer (some fr1), .pointer (some fr2)]) mixed Tryd.func43 (by kernel_rfl) (cast (by unfold vc_bmp_open_fn1 FnVc; kernel_rfl) h)
/-- darkroom/bits.Get -/
def vc_bits_Get (sa1 : Option Addr) (sl1 sc1 : Nat) (x1 : Int) (x2 : Int) (b1 : Bool) (w : World) (R : Ending → World → Prop) : Prop :=
  Calls P F.bits_there #[Value.slice sa1 sl1 sc1, Value.int IntKind.i64 x1, Value.int IntKind.i64 x2] w fun e1 w1 =>
  ∃ n1 : Int,
  (e1 = Ending.returned (Value.int IntKind.i64 n1)) ∧
  brB (n1 != 0)
    (R (Ending.returned (Value.tuple #[Value.int IntKind.u32 0, Value.int IntKind.i64 n1])) w1)
    (∃ I1 : List Value → World → Prop,
    ∃ m1 : List Value → World → Nat,
    (I1 [Value.int IntKind.u32 0, Value.int IntKind.i64 0] w1) ∧
    ∀ n2 : Int,
    ∀ n3 : Int,
    ∀ w2 : World,
    (I1 [Value.int IntKind.u32 n2, Value.int IntKind.i64 n3] w2) →
    brB (decide (n3 < x2))
      (∃ I2 : List Value → World → Prop,
      (brB (b1)
          (idx (sa1) (sl1) (IntKind.i64.wrap (x1 + n3)) (1) fun a1 =>
          ∃ n4 : Int,
          (w2.cell? a1 = some (Value.int IntKind.u8 n4)) ∧
          I2 [Value.int IntKind.u32 (IntKind.u32.wrap (bitsZ BinOp.or IntKind.u32 (shiftZ BinOp.shl IntKind.u32 n2 8) (IntKind.u32.wrap n4)))] w2)
          (idx (sa1) (sl1) (IntKind.i64.wrap (IntKind.i64.wrap (IntKind.i64.wrap (x1 + x2) - 1) - n3)) (1) fun a2 =>
          ∃ n5 : Int,
          (w2.cell? a2 = some (Value.int IntKind.u8 n5)) ∧
          I2 [Value.int IntKind.u32 (IntKind.u32.wrap (bitsZ BinOp.or IntKind.u32 (shiftZ BinOp.shl IntKind.u32 n2 8) (IntKind.u32.wrap n5)))] w2)) ∧
      ∀ n6 : Int,
      ∀ w3 : World,
      (I2 [Value.int IntKind.u32 n6] w3) →
      (I1 [Value.int IntKind.u32 n6, Value.int IntKind.i64 (IntKind.i64.wrap (n3 + 1))] w3) ∧
      m1 [Value.int IntKind.u32 n6, Value.int IntKind.i64 (IntKind.i64.wrap (n3 + 1))] w3 < m1 [Value.int IntKind.u32 n2, Value.int IntKind.i64 n3] w2)
      (R (Ending.returned (Value.tuple #[Value.int IntKind.u32 n2, Value.int IntKind.i64 0])) w2))
theorem calls_bits_Get (sa1 : Option Addr) (sl1 sc1 : Nat) (x1 : Int) (x2 : Int) (b1 : Bool) (w : World) (R : Ending → World → Prop) (h : vc_bits_Get sa1 sl1 sc1 x1 x2 b1 w R) : Calls P F.bits_Get #[.slice sa1 sl1 sc1, .int .i64 x1, .int .i64 x2, .bool b1] w R :=
  calls_of_vc (fn := Tryd.f44) (ac := ac_bits_Get) (args := [.slice sa1 sl1 sc1, .int .i64 x1, .int .i64 x2, .bool b1]) mixed Tryd.func44 (by kernel_rfl) (cast (by unfold vc_bits_Get FnVc; kernel_rfl) h)
/-- (*darkroom/bmp.file).packing -/
def vc_bmp_file_packing (q1 : Option Addr) (w : World) (R : Ending → World → Prop) : Prop :=
  nn (q1) fun a1 =>
  ∃ n1 : Int,
  (w.cell? (a1.add 4) = some (Value.int IntKind.i64 n1)) ∧
  ∃ I1 : List Value → World → Prop,
  (brB (n1 == 1)
      (brB (n1 == 1)
        (I1 [] w)
        (R (Ending.returned (Value.int IntKind.i64 9)) w))
      (brB (n1 == 4)
        (brB (n1 == 4)
          (I1 [] w)
          (R (Ending.returned (Value.int IntKind.i64 9)) w))
        (brB (n1 == 8)
          (brB (n1 == 8)
            (I1 [] w)
            (R (Ending.returned (Value.int IntKind.i64 9)) w))
          (brB (n1 == 16)
            (brB (n1 == 16)
              (I1 [] w)
              (R (Ending.returned (Value.int IntKind.i64 9)) w))
            (brB (n1 == 24)
              (brB (n1 == 24)
                (I1 [] w)
                (R (Ending.returned (Value.int IntKind.i64 9)) w))
              (brB (n1 == 32)
                (I1 [] w)
                (R (Ending.returned (Value.int IntKind.i64 9)) w))))))) ∧
  ∀ w1 : World,
  (I1 [] w1) →
  nn (q1) fun a2 =>
  ∃ n2 : Int,
  (w1.cell? (a2.add 5) = some (Value.int IntKind.i64 n2)) ∧
  ∃ I2 : List Value → World → Prop,
  (∃ I3 : List Value → World → Prop,
    (brB (n2 == 4)
        (I3 [Value.bool (n2 == 4)] w1)
        (I3 [Value.bool (n2 == 5)] w1)) ∧
    ∀ c1 : Bool,
    ∀ w2 : World,
    (I3 [Value.bool c1] w2) →
    brB (c1)
      (R (Ending.returned (Value.int IntKind.i64 10)) w2)
      (brB (n2 == 0)
        (I2 [Value.bool true] w2)
        (brB (n2 == 1)
          (nn (q1) fun a3 =>
          ∃ n3 : Int,
          (w2.cell? (a3.add 4) = some (Value.int IntKind.i64 n3)) ∧
          brB (n3 == 8)
            (nn (q1) fun a4 =>
            ∃ c2 : Bool,
            (w2.cell? (a4.add 3) = some (Value.bool c2)) ∧
            I2 [Value.bool !c2] w2)
            (I2 [Value.bool false] w2))
          (brB (n2 == 2)
            (nn (q1) fun a5 =>
            ∃ n4 : Int,
            (w2.cell? (a5.add 4) = some (Value.int IntKind.i64 n4)) ∧
            brB (n4 == 4)
              (nn (q1) fun a6 =>
              ∃ c3 : Bool,
              (w2.cell? (a6.add 3) = some (Value.bool c3)) ∧
              I2 [Value.bool !c3] w2)
              (I2 [Value.bool false] w2))
            (brB (n2 == 3)
              (brB (n2 == 3)
                (nn (q1) fun a7 =>
                ∃ n5 : Int,
                (w2.cell? (a7.add 4) = some (Value.int IntKind.i64 n5)) ∧
                brB (n5 == 16)
                  (I2 [Value.bool true] w2)
                  (nn (q1) fun a8 =>
                  ∃ n6 : Int,
                  (w2.cell? (a8.add 4) = some (Value.int IntKind.i64 n6)) ∧
                  I2 [Value.bool (n6 == 32)] w2))
                (I2 [Value.bool false] w2))
              (brB (n2 == 6)
                (nn (q1) fun a9 =>
                ∃ n7 : Int,
                (w2.cell? (a9.add 4) = some (Value.int IntKind.i64 n7)) ∧
                brB (n7 == 16)
                  (I2 [Value.bool true] w2)
                  (nn (q1) fun a10 =>
                  ∃ n8 : Int,
                  (w2.cell? (a10.add 4) = some (Value.int IntKind.i64 n8)) ∧
                  I2 [Value.bool (n8 == 32)] w2))
                (I2 [Value.bool false] w2))))))) ∧
  ∀ c4 : Bool,
  ∀ w3 : World,
  (I2 [Value.bool c4] w3) →
  brB (!c4)
    (R (Ending.returned (Value.int IntKind.i64 9)) w3)
    (R (Ending.returned (Value.int IntKind.i64 0)) w3)
theorem calls_bmp_file_packing (q1 : Option Addr) (w : World) (R : Ending → World → Prop) (h : vc_bmp_file_packing q1 w R) : Calls P F.bmp_file_packing #[.pointer q1] w R :=
  calls_of_vc (fn := Tryd.f45) (ac := ac_bmp_file_packing) (args := [.pointer q1]) mixed Tryd.func45 (by kernel_rfl) (cast (by unfold vc_bmp_file_packing FnVc; kernel_rfl) h)
/-- (*darkroom/bmp.file).colours -/
def vc_bmp_file_colours (q1 : Option Addr) (x1 : Int) (x2 : Int) (w : World) (R : Ending → World → Prop) : Prop :=
  ∃ I1 : List Value → World → Prop,
  (brB (x2 == 0)
      (nn (q1) fun a1 =>
      ∃ n1 : Int,
      (w.cell? (a1.add 4) = some (Value.int IntKind.i64 n1)) ∧
      (0 ≤ n1) ∧
      I1 [Value.int IntKind.i64 (shiftZ BinOp.shl IntKind.i64 1 n1)] w)
      (I1 [Value.int IntKind.i64 x2] w)) ∧
  ∀ n2 : Int,
  ∀ w1 : World,
  (I1 [Value.int IntKind.i64 n2] w1) →
  nn (q1) fun a2 =>
  ∃ p1 : Option Addr,
  ∃ k1 : Nat,
  ∃ k2 : Nat,
  (w1.cell? a2 = some (Value.slice p1 k1 k2)) ∧
  brB (decide (IntKind.i64.wrap ((↑k1 : Int) - x1) < IntKind.i64.wrap (4 * n2)))
    (R (Ending.returned (Value.bool false)) w1)
    (∃ I2 : List Value → World → Prop,
    ∃ m1 : List Value → World → Nat,
    (I2 [Value.int IntKind.i64 0] w1) ∧
    ∀ n3 : Int,
    ∀ w2 : World,
    (I2 [Value.int IntKind.i64 n3] w2) →
    brB (decide (n3 < n2))
      (nn (q1) fun a3 =>
      ∃ p2 : Option Addr,
      ∃ k3 : Nat,
      ∃ k4 : Nat,
      (w2.cell? a3 = some (Value.slice p2 k3 k4)) ∧
      slcc (p2) (k4) (IntKind.i64.wrap (x1 + IntKind.i64.wrap (4 * n3))) ((↑k3 : Int)) (1) fun p3 k5 k6 =>
      nn (q1) fun a4 =>
      ∃ p4 : Option Addr,
      ∃ k7 : Nat,
      ∃ k8 : Nat,
      (w2.drew.cell? (a4.add 11) = some (Value.slice p4 k7 k8)) ∧
      idx (p3) (k5) (2) (1) fun a5 =>
      ∃ n4 : Int,
      (w2.drew.cell? a5 = some (Value.int IntKind.u8 n4)) ∧
      idx (p3) (k5) (1) (1) fun a6 =>
      ∃ n5 : Int,
      (w2.drew.cell? a6 = some (Value.int IntKind.u8 n5)) ∧
      idx (p3) (k5) (0) (1) fun a7 =>
      ∃ n6 : Int,
      (w2.drew.cell? a7 = some (Value.int IntKind.u8 n6)) ∧
      ∀ k9 : Nat,
      (w2.drew.heap.size ≤ k9) →
      ∀ w3 : World,
      (Locl ([k9]) (w2.drew) w3) →
      appVC (w3) ([(60, k9, [Value.int IntKind.u16 (IntKind.u16.wrap (257 * IntKind.u16.wrap n4)), Value.int IntKind.u16 (IntKind.u16.wrap (257 * IntKind.u16.wrap n5)), Value.int IntKind.u16 (IntKind.u16.wrap (257 * IntKind.u16.wrap n6)), Value.int IntKind.u16 65535])]) (p4) (k7) (k8) (1) (4) (8) (49) ([Value.int IntKind.u16 0, Value.int IntKind.u16 0, Value.int IntKind.u16 0, Value.int IntKind.u16 0]) ([Value.int IntKind.u16 (IntKind.u16.wrap (257 * IntKind.u16.wrap n4)), Value.int IntKind.u16 (IntKind.u16.wrap (257 * IntKind.u16.wrap n5)), Value.int IntKind.u16 (IntKind.u16.wrap (257 * IntKind.u16.wrap n6)), Value.int IntKind.u16 65535]) fun p5 k10 k11 w4 =>
      nn (q1) fun a8 =>
      (∃ v1 : Value,
        w4.cell? (a8.add 11) = some v1) ∧
      (w4.frozen? (a8.add 11) = false) ∧
      (¬(a8.add 11).block ∈ [k9]) ∧
      (I2 [Value.int IntKind.i64 (IntKind.i64.wrap (n3 + 1))] (setCells w4 (a8.add 11) [Value.slice p5 k10 k11] 0)) ∧
      m1 [Value.int IntKind.i64 (IntKind.i64.wrap (n3 + 1))] (setCells w4 (a8.add 11) [Value.slice p5 k10 k11] 0) < m1 [Value.int IntKind.i64 n3] w2)
      (R (Ending.returned (Value.bool true)) w2))
theorem calls_bmp_file_colours (q1 : Option Addr) (x1 : Int) (x2 : Int) (w : World) (R : Ending → World → Prop) (h : vc_bmp_file_colours q1 x1 x2 w R) : Calls P F.bmp_file_colours #[.pointer q1, .int .i64 x1, .int .i64 x2] w R :=
  calls_of_vc (fn := Tryd.f46) (ac := ac_bmp_file_colours) (args := [.pointer q1, .int .i64 x1, .int .i64 x2]) mixed Tryd.func46 (by kernel_rfl) (cast (by unfold vc_bmp_file_colours FnVc; kernel_rfl) h)
/-- (*darkroom/bmp.file).masked -/
def vc_bmp_file_masked (q1 : Option Addr) (w : World) (R : Ending → World → Prop) : Prop :=
  nn (q1) fun a1 =>
  ∃ n1 : Int,
  ∃ n2 : Int,
  ∃ n3 : Int,
  ∃ n4 : Int,
  (w.cell? (a1.add 7) = some (Value.int IntKind.u32 n1)) ∧
  (w.cell? ((a1.add 7).add 1) = some (Value.int IntKind.u32 n2)) ∧
  (w.cell? ((a1.add 7).add 2) = some (Value.int IntKind.u32 n3)) ∧
  (w.cell? ((a1.add 7).add 3) = some (Value.int IntKind.u32 n4)) ∧
  ∃ I1 : List Value → World → Prop,
  ∃ m1 : List Value → World → Nat,
  (I1 [Value.int IntKind.u32 0, Value.int IntKind.i64 0] w) ∧
  ∀ n5 : Int,
  ∀ n6 : Int,
  ∀ w1 : World,
  (I1 [Value.int IntKind.u32 n5, Value.int IntKind.i64 n6] w1) →
  brB (decide (n6 < 4))
    (∃ I2 : List Value → World → Prop,
    ((0 ≤ n6) ∧
      (n6 < 4) ∧
      ∃ n7 : Int,
      ([Value.int IntKind.u32 n1, Value.int IntKind.u32 n2, Value.int IntKind.u32 n3, Value.int IntKind.u32 n4][n6.toNat]? = some (Value.int IntKind.u32 n7)) ∧
      Calls P F.math_bits_OnesCount32 #[Value.int IntKind.u32 n7] w1 fun e1 w2 =>
      ∃ n8 : Int,
      (e1 = Ending.returned (Value.int IntKind.i64 n8)) ∧
      (0 ≤ n8) ∧
      Calls P F.math_bits_TrailingZeros32 #[Value.int IntKind.u32 n7] (w2.drew) fun e2 w3 =>
      ∃ n9 : Int,
      (e2 = Ending.returned (Value.int IntKind.i64 n9)) ∧
      (0 ≤ n9) ∧
      ∃ I3 : List Value → World → Prop,
      (brB (n7 == 0)
          (I3 [Value.bool (n6 == 3)] w3)
          (I3 [Value.bool (shiftZ BinOp.shr IntKind.u32 n7 n9 == IntKind.u32.wrap (shiftZ BinOp.shl IntKind.u32 1 n8 - 1))] w3)) ∧
      ∀ c1 : Bool,
      ∀ w4 : World,
      (I3 [Value.bool c1] w4) →
      brB (!c1 || decide (n8 > 16) || IntKind.u32.wrap (bitsZ BinOp.and IntKind.u32 n5 n7) != 0)
        (R (Ending.returned (Value.bool false)) w4)
        (nn (q1) fun a2 =>
        ∃ n10 : Int,
        (w4.cell? (a2.add 4) = some (Value.int IntKind.i64 n10)) ∧
        brB (n10 == 16)
          (brB (shiftZ BinOp.shr IntKind.u32 n7 16 != 0)
            (R (Ending.returned (Value.bool false)) w4)
            (I2 [Value.int IntKind.u32 (IntKind.u32.wrap (bitsZ BinOp.or IntKind.u32 n5 n7))] w4))
          (I2 [Value.int IntKind.u32 (IntKind.u32.wrap (bitsZ BinOp.or IntKind.u32 n5 n7))] w4))) ∧
    ∀ n11 : Int,
    ∀ w5 : World,
    (I2 [Value.int IntKind.u32 n11] w5) →
    (I1 [Value.int IntKind.u32 n11, Value.int IntKind.i64 (IntKind.i64.wrap (n6 + 1))] w5) ∧
    m1 [Value.int IntKind.u32 n11, Value.int IntKind.i64 (IntKind.i64.wrap (n6 + 1))] w5 < m1 [Value.int IntKind.u32 n5, Value.int IntKind.i64 n6] w1)
    (R (Ending.returned (Value.bool true)) w1)
theorem calls_bmp_file_masked (q1 : Option Addr) (w : World) (R : Ending → World → Prop) (h : vc_bmp_file_masked q1 w R) : Calls P F.bmp_file_masked #[.pointer q1] w R :=
  calls_of_vc (fn := Tryd.f47) (ac := ac_bmp_file_masked) (args := [.pointer q1]) mixed Tryd.func47 (by kernel_rfl) (cast (by unfold vc_bmp_file_masked FnVc; kernel_rfl) h)
/-- (*darkroom/bmp.canvas).put -/
def vc_bmp_canvas_put (q1 : Option Addr) (x1 : Int) (x2 : Int) (w : World) (R : Ending → World → Prop) : Prop :=
  nn (q1) fun a1 =>
  ∃ n1 : Int,
  (w.drew.cell? (a1.add 1) = some (Value.int IntKind.i64 n1)) ∧
  nn (q1) fun a2 =>
  ∃ p1 : Option Addr,
  (w.drew.cell? a2 = some (Value.pointer p1)) ∧
  nn (p1) fun a3 =>
  ∃ n2 : Int,
  (w.drew.cell? (a3.add 1) = some (Value.int IntKind.i64 n2)) ∧
  brB (decide (n1 ≥ n2))
    (R (Ending.returned (Value.bool false)) w.drew)
    (nn (q1) fun a4 =>
    ∃ n3 : Int,
    (w.drew.cell? (a4.add 2) = some (Value.int IntKind.i64 n3)) ∧
    nn (q1) fun a5 =>
    ∃ p2 : Option Addr,
    (w.drew.cell? a5 = some (Value.pointer p2)) ∧
    nn (p2) fun a6 =>
    ∃ n4 : Int,
    (w.drew.cell? (a6.add 2) = some (Value.int IntKind.i64 n4)) ∧
    brB (decide (n3 ≥ n4))
      (R (Ending.returned (Value.bool false)) w.drew)
      (∃ I1 : List Value → World → Prop,
      (nn (q1) fun a7 =>
        ∃ p3 : Option Addr,
        (w.drew.cell? a7 = some (Value.pointer p3)) ∧
        nn (p3) fun a8 =>
        ∃ n5 : Int,
        (w.drew.cell? (a8.add 4) = some (Value.int IntKind.i64 n5)) ∧
        brB (n5 == 4)
          ((0 ≤ IntKind.i64.wrap (4 * IntKind.i64.wrap (1 - divZ BinOp.rem IntKind.i64 x2 2))) ∧
          I1 [Value.int IntKind.i64 (IntKind.i64.wrap (bitsZ BinOp.and IntKind.i64 (shiftZ BinOp.shr IntKind.i64 x1 (IntKind.i64.wrap (4 * IntKind.i64.wrap (1 - divZ BinOp.rem IntKind.i64 x2 2)))) 15))] w.drew)
          (I1 [Value.int IntKind.i64 x1] w.drew)) ∧
      ∀ n6 : Int,
      ∀ w1 : World,
      (I1 [Value.int IntKind.i64 n6] w1) →
      nn (q1) fun a9 =>
      ∃ p4 : Option Addr,
      ∃ k1 : Nat,
      ∃ k2 : Nat,
      (w1.drew.cell? (a9.add 3) = some (Value.slice p4 k1 k2)) ∧
      nn (q1) fun a10 =>
      ∃ p5 : Option Addr,
      (w1.drew.cell? a10 = some (Value.pointer p5)) ∧
      nn (p5) fun a11 =>
      ∃ n7 : Int,
      (w1.drew.cell? (a11.add 2) = some (Value.int IntKind.i64 n7)) ∧
      nn (q1) fun a12 =>
      ∃ n8 : Int,
      (w1.drew.cell? (a12.add 2) = some (Value.int IntKind.i64 n8)) ∧
      nn (q1) fun a13 =>
      ∃ p6 : Option Addr,
      (w1.drew.cell? a13 = some (Value.pointer p6)) ∧
      nn (p6) fun a14 =>
      ∃ n9 : Int,
      (w1.drew.cell? (a14.add 1) = some (Value.int IntKind.i64 n9)) ∧
      nn (q1) fun a15 =>
      ∃ n10 : Int,
      (w1.drew.cell? (a15.add 1) = some (Value.int IntKind.i64 n10)) ∧
      idx (p4) (k1) (IntKind.i64.wrap (IntKind.i64.wrap (IntKind.i64.wrap (IntKind.i64.wrap (n7 - 1) - n8) * n9) + n10)) (1) fun a16 =>
      (∃ v1 : Value,
        w1.drew.cell? a16 = some v1) ∧
      (w1.drew.frozen? a16 = false) ∧
      nn (q1) fun a17 =>
      ∃ n11 : Int,
      ((setCells w1.drew a16 [Value.int IntKind.i64 n6] 0).cell? (a17.add 1) = some (Value.int IntKind.i64 n11)) ∧
      nn (q1) fun a18 =>
      (∃ v2 : Value,
        (setCells w1.drew a16 [Value.int IntKind.i64 n6] 0).cell? (a18.add 1) = some v2) ∧
      ((setCells w1.drew a16 [Value.int IntKind.i64 n6] 0).frozen? (a18.add 1) = false) ∧
      R (Ending.returned (Value.bool true)) (setCells (setCells w1.drew a16 [Value.int IntKind.i64 n6] 0) (a18.add 1) [Value.int IntKind.i64 (IntKind.i64.wrap (n11 + 1))] 0)))
theorem calls_bmp_canvas_put (q1 : Option Addr) (x1 : Int) (x2 : Int) (w : World) (R : Ending → World → Prop) (h : vc_bmp_canvas_put q1 x1 x2 w R) : Calls P F.bmp_canvas_put #[.pointer q1, .int .i64 x1, .int .i64 x2] w R :=
  calls_of_vc (fn := Tryd.f48) (ac := ac_bmp_canvas_put) (args := [.pointer q1, .int .i64 x1, .int .i64 x2]) mixed Tryd.func48 (by kernel_rfl) (cast (by unfold vc_bmp_canvas_put FnVc; kernel_rfl) h)
/-- (*darkroom/bmp.file).index -/
def vc_bmp_file_index (q1 : Option Addr) (q2 : Option Addr) (x1 : Int) (w : World) (R : Ending → World → Prop) : Prop :=
  nn (q1) fun a1 =>
  ∃ p1 : Option Addr,
  ∃ k1 : Nat,
  ∃ k2 : Nat,
  (w.cell? (a1.add 11) = some (Value.slice p1 k1 k2)) ∧
  brB (decide (x1 ≥ (↑k1 : Int)))
    (R (Ending.returned (Value.bool false)) w)
    (nn (q1) fun a2 =>
    ∃ p2 : Option Addr,
    ∃ k3 : Nat,
    ∃ k4 : Nat,
    (w.cell? (a2.add 11) = some (Value.slice p2 k3 k4)) ∧
    idx (p2) (k3) (x1) (4) fun a3 =>
    ∃ n1 : Int,
    ∃ n2 : Int,
    ∃ n3 : Int,
    ∃ n4 : Int,
    (w.cell? a3 = some (Value.int IntKind.u16 n1)) ∧
    (w.cell? (a3.add 1) = some (Value.int IntKind.u16 n2)) ∧
    (w.cell? (a3.add 2) = some (Value.int IntKind.u16 n3)) ∧
    (w.cell? (a3.add 3) = some (Value.int IntKind.u16 n4)) ∧
    ∀ k5 : Nat,
    (w.heap.size ≤ k5) →
    nn (q2) fun a4 =>
    ∀ w1 : World,
    (Locl ([k5]) w w1) →
    ∃ p3 : Option Addr,
    ∃ k6 : Nat,
    ∃ k7 : Nat,
    (w1.cell? (a4.add 2) = some (Value.slice p3 k6 k7)) ∧
    ∀ k8 : Nat,
    (w1.heap.size ≤ k8) →
    ∀ w2 : World,
    (Locl ([k8, k5]) w1 w2) →
    appVC (w2) ([(35, k8, [Value.int IntKind.u16 n1, Value.int IntKind.u16 n2, Value.int IntKind.u16 n3, Value.int IntKind.u16 n4]), (7, k5, [Value.int IntKind.u16 n1, Value.int IntKind.u16 n2, Value.int IntKind.u16 n3, Value.int IntKind.u16 n4])]) (p3) (k6) (k7) (4) (1) (2) (42) ([Value.int IntKind.u16 0]) ([Value.int IntKind.u16 n1, Value.int IntKind.u16 n2, Value.int IntKind.u16 n3, Value.int IntKind.u16 n4]) fun p4 k9 k10 w3 =>
    nn (q2) fun a5 =>
    (∃ v1 : Value,
      w3.cell? (a5.add 2) = some v1) ∧
    (w3.frozen? (a5.add 2) = false) ∧
    (¬(a5.add 2).block ∈ [k8, k5]) ∧
    R (Ending.returned (Value.bool true)) (setCells w3 (a5.add 2) [Value.slice p4 k9 k10] 0))
theorem calls_bmp_file_index (q1 : Option Addr) (q2 : Option Addr) (x1 : Int) (w : World) (R : Ending → World → Prop) (h : vc_bmp_file_index q1 q2 x1 w R) : Calls P F.bmp_file_index #[.pointer q1, .pointer q2, .int .i64 x1] w R :=
  calls_of_vc (fn := Tryd.f49) (ac := ac_bmp_file_index) (args := [.pointer q1, .pointer q2, .int .i64 x1]) mixed Tryd.func49 (by kernel_rfl) (cast (by unfold vc_bmp_file_index FnVc; kernel_rfl) h)
/-- (*darkroom/bmp.file).row -/
def vc_bmp_file_row (q1 : Option Addr) (x1 : Int) (w : World) (R : Ending → World → Prop) : Prop :=
  nn (q1) fun a1 =>
  ∃ n1 : Int,
  (w.drew.cell? (a1.add 1) = some (Value.int IntKind.i64 n1)) ∧
  nn (q1) fun a2 =>
  ∃ n2 : Int,
  (w.drew.cell? (a2.add 4) = some (Value.int IntKind.i64 n2)) ∧
  nn (q1) fun a3 =>
  ∃ c1 : Bool,
  (w.drew.cell? (a3.add 3) = some (Value.bool c1)) ∧
  brB (!c1)
    (nn (q1) fun a4 =>
    ∃ n3 : Int,
    (w.drew.cell? (a4.add 2) = some (Value.int IntKind.i64 n3)) ∧
    nn (q1) fun a5 =>
    ∃ n4 : Int,
    (w.drew.cell? (a5.add 6) = some (Value.int IntKind.i64 n4)) ∧
    R (Ending.returned (Value.tuple #[Value.int IntKind.i64 (IntKind.i64.wrap (n4 + IntKind.i64.wrap (IntKind.i64.wrap (IntKind.i64.wrap (n3 - 1) - x1) * IntKind.i64.wrap (divZ BinOp.quo IntKind.i64 (IntKind.i64.wrap (IntKind.i64.wrap (n1 * n2) + 31)) 32 * 4)))), Value.int IntKind.i64 (IntKind.i64.wrap (divZ BinOp.quo IntKind.i64 (IntKind.i64.wrap (IntKind.i64.wrap (n1 * n2) + 31)) 32 * 4))])) w.drew)
    (nn (q1) fun a6 =>
    ∃ n5 : Int,
    (w.drew.cell? (a6.add 6) = some (Value.int IntKind.i64 n5)) ∧
    R (Ending.returned (Value.tuple #[Value.int IntKind.i64 (IntKind.i64.wrap (n5 + IntKind.i64.wrap (x1 * IntKind.i64.wrap (divZ BinOp.quo IntKind.i64 (IntKind.i64.wrap (IntKind.i64.wrap (n1 * n2) + 31)) 32 * 4)))), Value.int IntKind.i64 (IntKind.i64.wrap (divZ BinOp.quo IntKind.i64 (IntKind.i64.wrap (IntKind.i64.wrap (n1 * n2) + 31)) 32 * 4))])) w.drew)
theorem calls_bmp_file_row (q1 : Option Addr) (x1 : Int) (w : World) (R : Ending → World → Prop) (h : vc_bmp_file_row q1 x1 w R) : Calls P F.bmp_file_row #[.pointer q1, .int .i64 x1] w R :=
  calls_of_vc (fn := Tryd.f50) (ac := ac_bmp_file_row) (args := [.pointer q1, .int .i64 x1]) mixed Tryd.func50 (by kernel_rfl) (cast (by unfold vc_bmp_file_row FnVc; kernel_rfl) h)
/-- (*darkroom/bmp.file).sample -/
def vc_bmp_file_sample (q1 : Option Addr) (x1 : Int) (x2 : Int) (w : World) (R : Ending → World → Prop) : Prop :=
  nn (q1) fun a1 =>
  (0 ≤ x2) ∧
  (x2 < 4) ∧
  ∃ n1 : Int,
  (w.cell? ((a1.add 7).add (x2.toNat * 1)) = some (Value.int IntKind.u32 n1)) ∧
  brB (n1 == 0)
    (R (Ending.returned (Value.int IntKind.u16 65535)) w)
    (Calls P F.math_bits_TrailingZeros32 #[Value.int IntKind.u32 n1] (w.drew) fun e1 w1 =>
    ∃ n2 : Int,
    (e1 = Ending.returned (Value.int IntKind.i64 n2)) ∧
    (0 ≤ n2) ∧
    Calls P F.math_bits_OnesCount32 #[Value.int IntKind.u32 n1] w1 fun e2 w2 =>
    ∃ n3 : Int,
    (e2 = Ending.returned (Value.int IntKind.i64 n3)) ∧
    (0 ≤ n3) ∧
    Calls P F.tones_Up #[Value.int IntKind.i64 (IntKind.i64.wrap (shiftZ BinOp.shr IntKind.u32 (IntKind.u32.wrap (bitsZ BinOp.and IntKind.u32 x1 n1)) n2)), Value.int IntKind.i64 (IntKind.i64.wrap (shiftZ BinOp.shl IntKind.i64 1 n3 - 1))] w2 fun e3 w3 =>
    ∃ n4 : Int,
    ∃ n5 : Int,
    (e3 = Ending.returned (Value.tuple #[Value.int IntKind.u16 n4, Value.int IntKind.i64 n5])) ∧
    R (Ending.returned (Value.int IntKind.u16 n4)) w3)
theorem calls_bmp_file_sample (q1 : Option Addr) (x1 : Int) (x2 : Int) (w : World) (R : Ending → World → Prop) (h : vc_bmp_file_sample q1 x1 x2 w R) : Calls P F.bmp_file_sample #[.pointer q1, .int .u32 x1, .int .i64 x2] w R :=
  calls_of_vc (fn := Tryd.f51) (ac := ac_bmp_file_sample) (args := [.pointer q1, .int .u32 x1, .int .i64 x2]) mixed Tryd.func51 (by kernel_rfl) (cast (by unfold vc_bmp_file_sample FnVc; kernel_rfl) h)
/-- darkroom/darkroomref11.num -/
def vc_ref11_num (sa1 : Option Addr) (sl1 sc1 : Nat) (x1 : Int) (x2 : Int) (w : World) (R : Ending → World → Prop) : Prop :=
  Calls P F.ref01_Get #[Value.slice sa1 sl1 sc1, Value.int IntKind.i64 x1, Value.int IntKind.i64 x2, Value.bool false] w fun e1 w1 =>
  ∃ n1 : Int,
  ∃ n2 : Int,
  (e1 = Ending.returned (Value.tuple #[Value.int IntKind.u32 n1, Value.int IntKind.i64 n2])) ∧
  R (Ending.returned (Value.int IntKind.i64 (IntKind.i64.wrap n1))) w1
theorem calls_ref11_num (sa1 : Option Addr) (sl1 sc1 : Nat) (x1 : Int) (x2 : Int) (w : World) (R : Ending → World → Prop) (h : vc_ref11_num sa1 sl1 sc1 x1 x2 w R) : Calls P F.ref11_num #[.slice sa1 sl1 sc1, .int .i64 x1, .int .i64 x2] w R :=
  calls_of_vc (fn := Tryd.f52) (ac := ac_ref11_num) (args := [.slice sa1 sl1 sc1, .int .i64 x1, .int .i64 x2]) mixed Tryd.func52 (by kernel_rfl) (cast (by unfold vc_ref11_num FnVc; kernel_rfl) h)
/-- darkroom/darkroomref11.signed -/
def vc_ref11_signed (sa1 : Option Addr) (sl1 sc1 : Nat) (x1 : Int) (w : World) (R : Ending → World → Prop) : Prop :=
  Calls P F.ref11_num #[Value.slice sa1 sl1 sc1, Value.int IntKind.i64 x1, Value.int IntKind.i64 4] w fun e1 w1 =>
  ∃ n1 : Int,
  (e1 = Ending.returned (Value.int IntKind.i64 n1)) ∧
  brB (decide (n1 ≥ 2147483648))
    (R (Ending.returned (Value.int IntKind.i64 (IntKind.i64.wrap (n1 - 4294967296)))) w1)
    (R (Ending.returned (Value.int IntKind.i64 n1)) w1)
theorem calls_ref11_signed (sa1 : Option Addr) (sl1 sc1 : Nat) (x1 : Int) (w : World) (R : Ending → World → Prop) (h : vc_ref11_signed sa1 sl1 sc1 x1 w R) : Calls P F.ref11_signed #[.slice sa1 sl1 sc1, .int .i64 x1] w R :=
  calls_of_vc (fn := Tryd.f53) (ac := ac_ref11_signed) (args := [.slice sa1 sl1 sc1, .int .i64 x1]) mixed Tryd.func53 (by kernel_rfl) (cast (by unfold vc_ref11_signed FnVc; kernel_rfl) h)
/-- darkroom/darkroomref11.Span -/
def vc_ref11_Span (x1 : Int) (w : World) (R : Ending → World → Prop) : Prop :=
  brB (x1 == 0)
    (R (Ending.returned (Value.tuple #[Value.int IntKind.i64 0, Value.int IntKind.i64 0, Value.bool true])) w)
    (∃ I1 : List Value → World → Prop,
    ∃ m1 : List Value → World → Nat,
    (I1 [Value.int IntKind.i64 0] w) ∧
    ∀ n1 : Int,
    ∀ w1 : World,
    (I1 [Value.int IntKind.i64 n1] w1) →
    (0 ≤ IntKind.u64.wrap n1) ∧
    brB (divZ BinOp.rem IntKind.u32 (shiftZ BinOp.shr IntKind.u32 x1 (IntKind.u64.wrap n1)) 2 == 0)
      ((I1 [Value.int IntKind.i64 (IntKind.i64.wrap (n1 + 1))] w1) ∧
      m1 [Value.int IntKind.i64 (IntKind.i64.wrap (n1 + 1))] w1 < m1 [Value.int IntKind.i64 n1] w1)
      (∃ I2 : List Value → World → Prop,
      (∃ I3 : List Value → World → Prop,
        ∃ m2 : List Value → World → Nat,
        (I3 [Value.int IntKind.i64 0] w1) ∧
        ∀ n2 : Int,
        ∀ w2 : World,
        (I3 [Value.int IntKind.i64 n2] w2) →
        brB (decide (IntKind.i64.wrap (n1 + n2) < 32))
          ((0 ≤ IntKind.u64.wrap (IntKind.i64.wrap (n1 + n2))) ∧
          brB (divZ BinOp.rem IntKind.u32 (shiftZ BinOp.shr IntKind.u32 x1 (IntKind.u64.wrap (IntKind.i64.wrap (n1 + n2)))) 2 == 1)
            ((I3 [Value.int IntKind.i64 (IntKind.i64.wrap (n2 + 1))] w2) ∧
            m2 [Value.int IntKind.i64 (IntKind.i64.wrap (n2 + 1))] w2 < m2 [Value.int IntKind.i64 n2] w2)
            (I2 [Value.int IntKind.i64 n2] w2))
          (I2 [Value.int IntKind.i64 n2] w2)) ∧
      ∀ n3 : Int,
      ∀ w3 : World,
      (I2 [Value.int IntKind.i64 n3] w3) →
      brB (IntKind.i64.wrap (n1 + n3) == 32)
        (R (Ending.returned (Value.tuple #[Value.int IntKind.i64 n1, Value.int IntKind.i64 n3, Value.bool true])) w3)
        ((0 ≤ IntKind.u64.wrap (IntKind.i64.wrap (n1 + n3))) ∧
        R (Ending.returned (Value.tuple #[Value.int IntKind.i64 n1, Value.int IntKind.i64 n3, Value.bool (shiftZ BinOp.shr IntKind.u32 x1 (IntKind.u64.wrap (IntKind.i64.wrap (n1 + n3))) == 0)])) w3)))
theorem calls_ref11_Span (x1 : Int) (w : World) (R : Ending → World → Prop) (h : vc_ref11_Span x1 w R) : Calls P F.ref11_Span #[.int .u32 x1] w R :=
  calls_of_vc (fn := Tryd.f54) (ac := ac_ref11_Span) (args := [.int .u32 x1]) mixed Tryd.func54 (by kernel_rfl) (cast (by unfold vc_ref11_Span FnVc; kernel_rfl) h)
/-- darkroom/darkroomref11.indices -/
def vc_ref11_indices (sa1 : Option Addr) (sl1 sc1 : Nat) (x1 : Int) (x2 : Int) (b1 : Bool) (x3 : Int) (x4 : Int) (x5 : Int) (x6 : Int) (x7 : Int) (x8 : Int) (x9 : Int) (sa2 : Option Addr) (sl2 sc2 : Nat) (w : World) (R : Ending → World → Prop) : Prop :=
  ∀ k1 : Nat,
  (w.heap.size ≤ k1) →
  brB (decide (IntKind.i64.wrap (IntKind.i64.wrap (divZ BinOp.quo IntKind.i64 (IntKind.i64.wrap (IntKind.i64.wrap (x1 * x3) + 31)) 32 * 4) * x2) > (↑sl1 : Int)))
    (∀ w1 : World,
    (Locl ([k1]) w w1) →
    R (Ending.returned (Value.tuple #[Value.slice none 0 0, Value.bool false])) w1)
    (∃ I1 : List Value → World → Prop,
    ∃ m1 : List Value → World → Nat,
    (∀ w2 : World,
      (Locl ([k1]) w w2) →
      I1 [Value.slice none 0 0, Value.int IntKind.i64 0] w2) ∧
    ∀ p1 : Option Addr,
    ∀ k2 : Nat,
    ∀ k3 : Nat,
    ∀ n1 : Int,
    ∀ w3 : World,
    (I1 [Value.slice p1 k2 k3, Value.int IntKind.i64 n1] w3) →
    brB (decide (n1 < x2))
      (∃ I2 : List Value → World → Prop,
      (brB (!b1)
          (I2 [Value.int IntKind.i64 (IntKind.i64.wrap (IntKind.i64.wrap (x2 - 1) - n1))] w3)
          (I2 [Value.int IntKind.i64 n1] w3)) ∧
      ∀ n2 : Int,
      ∀ w4 : World,
      (I2 [Value.int IntKind.i64 n2] w4) →
      ∃ I3 : List Value → World → Prop,
      ∃ m2 : List Value → World → Nat,
      (I3 [Value.slice p1 k2 k3, Value.int IntKind.i64 0] w4) ∧
      ∀ p2 : Option Addr,
      ∀ k4 : Nat,
      ∀ k5 : Nat,
      ∀ n3 : Int,
      ∀ w5 : World,
      (I3 [Value.slice p2 k4 k5, Value.int IntKind.i64 n3] w5) →
      brB (decide (n3 < x1))
        (idx (sa1) (sl1) (IntKind.i64.wrap (IntKind.i64.wrap (n2 * IntKind.i64.wrap (divZ BinOp.quo IntKind.i64 (IntKind.i64.wrap (IntKind.i64.wrap (x1 * x3) + 31)) 32 * 4)) + divZ BinOp.quo IntKind.i64 (IntKind.i64.wrap (n3 * x3)) 8)) (1) fun a1 =>
        ∃ n4 : Int,
        (w5.drew.cell? a1 = some (Value.int IntKind.u8 n4)) ∧
        (0 ≤ IntKind.u64.wrap (IntKind.i64.wrap (IntKind.i64.wrap (8 - x3) - divZ BinOp.rem IntKind.i64 (IntKind.i64.wrap (n3 * x3)) 8))) ∧
        (0 ≤ IntKind.u64.wrap x3) ∧
        (shiftZ BinOp.shl IntKind.i64 1 (IntKind.u64.wrap x3) ≠ 0) ∧
        ∀ k6 : Nat,
        (w5.drew.heap.size ≤ k6) →
        ∀ w6 : World,
        (Locl ([k6, k1]) (w5.drew) w6) →
        appVC (w6) ([(76, k6, [Value.int IntKind.i64 (divZ BinOp.rem IntKind.i64 (shiftZ BinOp.shr IntKind.i64 (IntKind.i64.wrap n4) (IntKind.u64.wrap (IntKind.i64.wrap (IntKind.i64.wrap (8 - x3) - divZ BinOp.rem IntKind.i64 (IntKind.i64.wrap (n3 * x3)) 8)))) (shiftZ BinOp.shl IntKind.i64 1 (IntKind.u64.wrap x3)))]), (3, k1, [Value.int IntKind.i64 x1, Value.int IntKind.i64 x2, Value.bool b1, Value.int IntKind.i64 x3, Value.int IntKind.i64 x4, Value.int IntKind.i64 x5, Value.int IntKind.u32 x6, Value.int IntKind.u32 x7, Value.int IntKind.u32 x8, Value.int IntKind.u32 x9, Value.slice sa2 sl2 sc2])]) (p2) (k4) (k5) (1) (1) (8) (3) ([Value.int IntKind.i64 0]) ([Value.int IntKind.i64 (divZ BinOp.rem IntKind.i64 (shiftZ BinOp.shr IntKind.i64 (IntKind.i64.wrap n4) (IntKind.u64.wrap (IntKind.i64.wrap (IntKind.i64.wrap (8 - x3) - divZ BinOp.rem IntKind.i64 (IntKind.i64.wrap (n3 * x3)) 8)))) (shiftZ BinOp.shl IntKind.i64 1 (IntKind.u64.wrap x3)))]) fun p3 k7 k8 w7 =>
        (I3 [Value.slice p3 k7 k8, Value.int IntKind.i64 (IntKind.i64.wrap (n3 + 1))] w7) ∧
        m2 [Value.slice p3 k7 k8, Value.int IntKind.i64 (IntKind.i64.wrap (n3 + 1))] w7 < m2 [Value.slice p2 k4 k5, Value.int IntKind.i64 n3] w5)
        ((I1 [Value.slice p2 k4 k5, Value.int IntKind.i64 (IntKind.i64.wrap (n1 + 1))] w5) ∧
        m1 [Value.slice p2 k4 k5, Value.int IntKind.i64 (IntKind.i64.wrap (n1 + 1))] w5 < m1 [Value.slice p1 k2 k3, Value.int IntKind.i64 n1] w3))
      (R (Ending.returned (Value.tuple #[Value.slice p1 k2 k3, Value.bool true])) w3))
theorem calls_ref11_indices (sa1 : Option Addr) (sl1 sc1 : Nat) (x1 : Int) (x2 : Int) (b1 : Bool) (x3 : Int) (x4 : Int) (x5 : Int) (x6 : Int) (x7 : Int) (x8 : Int) (x9 : Int) (sa2 : Option Addr) (sl2 sc2 : Nat) (w : World) (R : Ending → World → Prop) (h : vc_ref11_indices sa1 sl1 sc1 x1 x2 b1 x3 x4 x5 x6 x7 x8 x9 sa2 sl2 sc2 w R) : Calls P F.ref11_indices #[.slice sa1 sl1 sc1, .agg #[.int .i64 x1, .int .i64 x2, .bool b1, .int .i64 x3, .int .i64 x4, .int .i64 x5, .int .u32 x6, .int .u32 x7, .int .u32 x8, .int .u32 x9, .slice sa2 sl2 sc2]] w R :=
  calls_of_vc (fn := Tryd.f55) (ac := ac_ref11_indices) (args := [.slice sa1 sl1 sc1, .agg #[.int .i64 x1, .int .i64 x2, .bool b1, .int .i64 x3, .int .i64 x4, .int .i64 x5, .int .u32 x6, .int .u32 x7, .int .u32 x8, .int .u32 x9, .slice sa2 sl2 sc2]]) mixed Tryd.func55 (by kernel_rfl) (cast (by unfold vc_ref11_indices FnVc; kernel_rfl) h)
/-- darkroom/darkroomref11.unrun -/
def vc_ref11_unrun (sa1 : Option Addr) (sl1 sc1 : Nat) (x1 : Int) (x2 : Int) (b1 : Bool) (x3 : Int) (x4 : Int) (x5 : Int) (x6 : Int) (x7 : Int) (x8 : Int) (x9 : Int) (sa2 : Option Addr) (sl2 sc2 : Nat) (w : World) (R : Ending → World → Prop) : Prop :=
  ∀ k1 : Nat,
  (w.heap.size ≤ k1) →
  ∀ w1 : World,
  (Locl ([k1]) w w1) →
  (0 ≤ IntKind.i64.wrap (x1 * x2)) ∧
  (IntKind.i64.wrap (x1 * x2) ≤ IntKind.i64.wrap (x1 * x2)) ∧
  (IntKind.i64.wrap (x1 * x2) * 8 ≤ 281474976710656) ∧
  (IntKind.i64.wrap (x1 * x2) < 4611686018427387904) ∧
  ∀ k2 : Nat,
  ∀ w2 : World,
  (New w1 (Obj.cells (mkCells [Value.int IntKind.i64 0] (IntKind.i64.wrap (x1 * x2)).toNat) 3) k2 w2) →
  ∀ k3 : Nat,
  (w2.heap.size ≤ k3) →
  ∃ I1 : List Value → World → Prop,
  ∃ m1 : List Value → World → Nat,
  (∀ w3 : World,
    (Locl ([k3, k1]) w2 w3) →
    I1 [Value.bool true, Value.int IntKind.i64 0, Value.int IntKind.i64 0, Value.int IntKind.i64 0, Value.slice (some { block := k2, off := 0 }) (IntKind.i64.wrap (x1 * x2)).toNat (IntKind.i64.wrap (x1 * x2)).toNat] w3) ∧
  ∀ c1 : Bool,
  ∀ n1 : Int,
  ∀ n2 : Int,
  ∀ n3 : Int,
  ∀ p1 : Option Addr,
  ∀ k4 : Nat,
  ∀ k5 : Nat,
  ∀ w4 : World,
  (I1 [Value.bool c1, Value.int IntKind.i64 n1, Value.int IntKind.i64 n2, Value.int IntKind.i64 n3, Value.slice p1 k4 k5] w4) →
  brB (decide (IntKind.i64.wrap ((↑sl1 : Int) - n1) < 2))
    (R (Ending.returned (Value.tuple #[Value.slice none 0 0, Value.bool false])) w4)
    (idx (sa1) (sl1) (n1) (1) fun a1 =>
    ∃ n4 : Int,
    (w4.drew.cell? a1 = some (Value.int IntKind.u8 n4)) ∧
    idx (sa1) (sl1) (IntKind.i64.wrap (n1 + 1)) (1) fun a2 =>
    ∃ n5 : Int,
    (w4.drew.cell? a2 = some (Value.int IntKind.u8 n5)) ∧
    ∃ I2 : List Value → World → Prop,
    (brB (decide (IntKind.i64.wrap n4 > 0))
        (∃ I3 : List Value → World → Prop,
        ∃ m2 : List Value → World → Nat,
        (I3 [Value.bool c1, Value.int IntKind.i64 0, Value.int IntKind.i64 n2, Value.int IntKind.i64 n3, Value.slice p1 k4 k5] w4.drew) ∧
        ∀ c2 : Bool,
        ∀ n6 : Int,
        ∀ n7 : Int,
        ∀ n8 : Int,
        ∀ p2 : Option Addr,
        ∀ k6 : Nat,
        ∀ k7 : Nat,
        ∀ w5 : World,
        (I3 [Value.bool c2, Value.int IntKind.i64 n6, Value.int IntKind.i64 n7, Value.int IntKind.i64 n8, Value.slice p2 k6 k7] w5) →
        brB (decide (n6 < IntKind.i64.wrap n4) && c2)
          (Calls P F.ref11_nibble #[Value.agg #[Value.int IntKind.i64 x1, Value.int IntKind.i64 x2, Value.bool b1, Value.int IntKind.i64 x3, Value.int IntKind.i64 x4, Value.int IntKind.i64 x5, Value.int IntKind.u32 x6, Value.int IntKind.u32 x7, Value.int IntKind.u32 x8, Value.int IntKind.u32 x9, Value.slice sa2 sl2 sc2], Value.int IntKind.i64 (IntKind.i64.wrap n5), Value.int IntKind.i64 n6] (w5.drew) fun e1 w6 =>
          ∃ n9 : Int,
          (e1 = Ending.returned (Value.int IntKind.i64 n9)) ∧
          (Keep ([k3, k1]) (w5.drew) w6) ∧
          (Keeps (w5.drew) w6) ∧
          Calls P F.ref11_put #[Value.agg #[Value.int IntKind.i64 n7, Value.int IntKind.i64 n8, Value.slice p2 k6 k7], Value.agg #[Value.int IntKind.i64 x1, Value.int IntKind.i64 x2, Value.bool b1, Value.int IntKind.i64 x3, Value.int IntKind.i64 x4, Value.int IntKind.i64 x5, Value.int IntKind.u32 x6, Value.int IntKind.u32 x7, Value.int IntKind.u32 x8, Value.int IntKind.u32 x9, Value.slice sa2 sl2 sc2], Value.int IntKind.i64 n9] w6 fun e2 w7 =>
          ∃ n10 : Int,
          ∃ n11 : Int,
          ∃ p3 : Option Addr,
          ∃ k8 : Nat,
          ∃ k9 : Nat,
          ∃ c3 : Bool,
          (e2 = Ending.returned (Value.tuple #[Value.agg #[Value.int IntKind.i64 n10, Value.int IntKind.i64 n11, Value.slice p3 k8 k9], Value.bool c3])) ∧
          (Keep ([k3, k1]) w6 w7) ∧
          ∀ w8 : World,
          (Locl ([k3, k1]) w7 w8) →
          (I3 [Value.bool c3, Value.int IntKind.i64 (IntKind.i64.wrap (n6 + 1)), Value.int IntKind.i64 n10, Value.int IntKind.i64 n11, Value.slice p3 k8 k9] w8) ∧
          m2 [Value.bool c3, Value.int IntKind.i64 (IntKind.i64.wrap (n6 + 1)), Value.int IntKind.i64 n10, Value.int IntKind.i64 n11, Value.slice p3 k8 k9] w8 < m2 [Value.bool c2, Value.int IntKind.i64 n6, Value.int IntKind.i64 n7, Value.int IntKind.i64 n8, Value.slice p2 k6 k7] w5)
          (I2 [Value.bool c2, Value.int IntKind.i64 (IntKind.i64.wrap (n1 + 2)), Value.int IntKind.i64 n7, Value.int IntKind.i64 n8, Value.slice p2 k6 k7] w5))
        (brB (IntKind.i64.wrap n5 == 0)
          (∀ w9 : World,
          (Locl ([k3, k1]) (w4.drew) w9) →
          I2 [Value.bool (decide (IntKind.i64.wrap (n3 + 1) ≤ x2)), Value.int IntKind.i64 (IntKind.i64.wrap (n1 + 2)), Value.int IntKind.i64 0, Value.int IntKind.i64 (IntKind.i64.wrap (n3 + 1)), Value.slice p1 k4 k5] w9)
          (brB (IntKind.i64.wrap n5 == 1)
            (R (Ending.returned (Value.tuple #[Value.slice p1 k4 k5, Value.bool true])) w4.drew)
            (brB (IntKind.i64.wrap n5 == 2)
              (brB (decide (IntKind.i64.wrap ((↑sl1 : Int) - IntKind.i64.wrap (n1 + 2)) < 2))
                (R (Ending.returned (Value.tuple #[Value.slice none 0 0, Value.bool false])) w4.drew)
                (idx (sa1) (sl1) (IntKind.i64.wrap (n1 + 2)) (1) fun a3 =>
                ∃ n12 : Int,
                (w4.drew.drew.cell? a3 = some (Value.int IntKind.u8 n12)) ∧
                idx (sa1) (sl1) (IntKind.i64.wrap (IntKind.i64.wrap (n1 + 2) + 1)) (1) fun a4 =>
                ∀ w10 : World,
                (Locl ([k3, k1]) (w4.drew.drew) w10) →
                ∃ n13 : Int,
                (w10.cell? a4 = some (Value.int IntKind.u8 n13)) ∧
                ∀ w11 : World,
                (Locl ([k3, k1]) w10 w11) →
                I2 [Value.bool (decide (IntKind.i64.wrap (n2 + IntKind.i64.wrap n12) ≤ x1) && decide (IntKind.i64.wrap (n3 + IntKind.i64.wrap n13) ≤ x2)), Value.int IntKind.i64 (IntKind.i64.wrap (IntKind.i64.wrap (n1 + 2) + 2)), Value.int IntKind.i64 (IntKind.i64.wrap (n2 + IntKind.i64.wrap n12)), Value.int IntKind.i64 (IntKind.i64.wrap (n3 + IntKind.i64.wrap n13)), Value.slice p1 k4 k5] w11))
              (∃ I4 : List Value → World → Prop,
              (brB (x3 == 4)
                  (I4 [Value.int IntKind.i64 (divZ BinOp.quo IntKind.i64 (IntKind.i64.wrap (IntKind.i64.wrap n5 + 1)) 2)] w4.drew)
                  (I4 [Value.int IntKind.i64 (IntKind.i64.wrap n5)] w4.drew)) ∧
              ∀ n14 : Int,
              ∀ w12 : World,
              (I4 [Value.int IntKind.i64 n14] w12) →
              brB (decide (IntKind.i64.wrap ((↑sl1 : Int) - IntKind.i64.wrap (n1 + 2)) < IntKind.i64.wrap (divZ BinOp.quo IntKind.i64 (IntKind.i64.wrap (n14 + 1)) 2 * 2)))
                (R (Ending.returned (Value.tuple #[Value.slice none 0 0, Value.bool false])) w12)
                (∃ I5 : List Value → World → Prop,
                ∃ m3 : List Value → World → Nat,
                (I5 [Value.bool c1, Value.int IntKind.i64 0, Value.int IntKind.i64 n2, Value.int IntKind.i64 n3, Value.slice p1 k4 k5] w12) ∧
                ∀ c4 : Bool,
                ∀ n15 : Int,
                ∀ n16 : Int,
                ∀ n17 : Int,
                ∀ p4 : Option Addr,
                ∀ k10 : Nat,
                ∀ k11 : Nat,
                ∀ w13 : World,
                (I5 [Value.bool c4, Value.int IntKind.i64 n15, Value.int IntKind.i64 n16, Value.int IntKind.i64 n17, Value.slice p4 k10 k11] w13) →
                brB (decide (n15 < IntKind.i64.wrap n5) && c4)
                  (∃ I6 : List Value → World → Prop,
                  (brB (x3 == 8)
                      (idx (sa1) (sl1) (IntKind.i64.wrap (IntKind.i64.wrap (n1 + 2) + n15)) (1) fun a5 =>
                      ∃ n18 : Int,
                      (w13.drew.cell? a5 = some (Value.int IntKind.u8 n18)) ∧
                      Calls P F.ref11_put #[Value.agg #[Value.int IntKind.i64 n16, Value.int IntKind.i64 n17, Value.slice p4 k10 k11], Value.agg #[Value.int IntKind.i64 x1, Value.int IntKind.i64 x2, Value.bool b1, Value.int IntKind.i64 x3, Value.int IntKind.i64 x4, Value.int IntKind.i64 x5, Value.int IntKind.u32 x6, Value.int IntKind.u32 x7, Value.int IntKind.u32 x8, Value.int IntKind.u32 x9, Value.slice sa2 sl2 sc2], Value.int IntKind.i64 (IntKind.i64.wrap n18)] (w13.drew) fun e3 w14 =>
                      ∃ n19 : Int,
                      ∃ n20 : Int,
                      ∃ p5 : Option Addr,
                      ∃ k12 : Nat,
                      ∃ k13 : Nat,
                      ∃ c5 : Bool,
                      (e3 = Ending.returned (Value.tuple #[Value.agg #[Value.int IntKind.i64 n19, Value.int IntKind.i64 n20, Value.slice p5 k12 k13], Value.bool c5])) ∧
                      (Keep ([k3, k1]) (w13.drew) w14) ∧
                      ∀ w15 : World,
                      (Locl ([k3, k1]) w14 w15) →
                      I6 [Value.bool c5, Value.int IntKind.i64 n19, Value.int IntKind.i64 n20, Value.slice p5 k12 k13] w15)
                      (idx (sa1) (sl1) (IntKind.i64.wrap (IntKind.i64.wrap (n1 + 2) + divZ BinOp.quo IntKind.i64 n15 2)) (1) fun a6 =>
                      ∃ n21 : Int,
                      (w13.drew.cell? a6 = some (Value.int IntKind.u8 n21)) ∧
                      Calls P F.ref11_nibble #[Value.agg #[Value.int IntKind.i64 x1, Value.int IntKind.i64 x2, Value.bool b1, Value.int IntKind.i64 x3, Value.int IntKind.i64 x4, Value.int IntKind.i64 x5, Value.int IntKind.u32 x6, Value.int IntKind.u32 x7, Value.int IntKind.u32 x8, Value.int IntKind.u32 x9, Value.slice sa2 sl2 sc2], Value.int IntKind.i64 (IntKind.i64.wrap n21), Value.int IntKind.i64 n15] (w13.drew) fun e4 w16 =>
                      ∃ n22 : Int,
                      (e4 = Ending.returned (Value.int IntKind.i64 n22)) ∧
                      (Keep ([k3, k1]) (w13.drew) w16) ∧
                      (Keeps (w13.drew) w16) ∧
                      Calls P F.ref11_put #[Value.agg #[Value.int IntKind.i64 n16, Value.int IntKind.i64 n17, Value.slice p4 k10 k11], Value.agg #[Value.int IntKind.i64 x1, Value.int IntKind.i64 x2, Value.bool b1, Value.int IntKind.i64 x3, Value.int IntKind.i64 x4, Value.int IntKind.i64 x5, Value.int IntKind.u32 x6, Value.int IntKind.u32 x7, Value.int IntKind.u32 x8, Value.int IntKind.u32 x9, Value.slice sa2 sl2 sc2], Value.int IntKind.i64 n22] w16 fun e5 w17 =>
                      ∃ n23 : Int,
                      ∃ n24 : Int,
                      ∃ p6 : Option Addr,
                      ∃ k14 : Nat,
                      ∃ k15 : Nat,
                      ∃ c6 : Bool,
                      (e5 = Ending.returned (Value.tuple #[Value.agg #[Value.int IntKind.i64 n23, Value.int IntKind.i64 n24, Value.slice p6 k14 k15], Value.bool c6])) ∧
                      (Keep ([k3, k1]) w16 w17) ∧
                      ∀ w18 : World,
                      (Locl ([k3, k1]) w17 w18) →
                      I6 [Value.bool c6, Value.int IntKind.i64 n23, Value.int IntKind.i64 n24, Value.slice p6 k14 k15] w18)) ∧
                  ∀ c7 : Bool,
                  ∀ n25 : Int,
                  ∀ n26 : Int,
                  ∀ p7 : Option Addr,
                  ∀ k16 : Nat,
                  ∀ k17 : Nat,
                  ∀ w19 : World,
                  (I6 [Value.bool c7, Value.int IntKind.i64 n25, Value.int IntKind.i64 n26, Value.slice p7 k16 k17] w19) →
                  (I5 [Value.bool c7, Value.int IntKind.i64 (IntKind.i64.wrap (n15 + 1)), Value.int IntKind.i64 n25, Value.int IntKind.i64 n26, Value.slice p7 k16 k17] w19) ∧
                  m3 [Value.bool c7, Value.int IntKind.i64 (IntKind.i64.wrap (n15 + 1)), Value.int IntKind.i64 n25, Value.int IntKind.i64 n26, Value.slice p7 k16 k17] w19 < m3 [Value.bool c4, Value.int IntKind.i64 n15, Value.int IntKind.i64 n16, Value.int IntKind.i64 n17, Value.slice p4 k10 k11] w13)
                  (I2 [Value.bool c4, Value.int IntKind.i64 (IntKind.i64.wrap (IntKind.i64.wrap (n1 + 2) + IntKind.i64.wrap (divZ BinOp.quo IntKind.i64 (IntKind.i64.wrap (n14 + 1)) 2 * 2))), Value.int IntKind.i64 n16, Value.int IntKind.i64 n17, Value.slice p4 k10 k11] w13))))))) ∧
    ∀ c8 : Bool,
    ∀ n27 : Int,
    ∀ n28 : Int,
    ∀ n29 : Int,
    ∀ p8 : Option Addr,
    ∀ k18 : Nat,
    ∀ k19 : Nat,
    ∀ w20 : World,
    (I2 [Value.bool c8, Value.int IntKind.i64 n27, Value.int IntKind.i64 n28, Value.int IntKind.i64 n29, Value.slice p8 k18 k19] w20) →
    brB (!c8)
      (R (Ending.returned (Value.tuple #[Value.slice none 0 0, Value.bool false])) w20)
      ((I1 [Value.bool c8, Value.int IntKind.i64 n27, Value.int IntKind.i64 n28, Value.int IntKind.i64 n29, Value.slice p8 k18 k19] w20) ∧
      m1 [Value.bool c8, Value.int IntKind.i64 n27, Value.int IntKind.i64 n28, Value.int IntKind.i64 n29, Value.slice p8 k18 k19] w20 < m1 [Value.bool c1, Value.int IntKind.i64 n1, Value.int IntKind.i64 n2, Value.int IntKind.i64 n3, Value.slice p1 k4 k5] w4))
theorem calls_ref11_unrun (sa1 : Option Addr) (sl1 sc1 : Nat) (x1 : Int) (x2 : Int) (b1 : Bool) (x3 : Int) (x4 : Int) (x5 : Int) (x6 : Int) (x7 : Int) (x8 : Int) (x9 : Int) (sa2 : Option Addr) (sl2 sc2 : Nat) (w : World) (R : Ending → World → Prop) (h : vc_ref11_unrun sa1 sl1 sc1 x1 x2 b1 x3 x4 x5 x6 x7 x8 x9 sa2 sl2 sc2 w R) : Calls P F.ref11_unrun #[.slice sa1 sl1 sc1, .agg #[.int .i64 x1, .int .i64 x2, .bool b1, .int .i64 x3, .int .i64 x4, .int .i64 x5, .int .u32 x6, .int .u32 x7, .int .u32 x8, .int .u32 x9, .slice sa2 sl2 sc2]] w R :=
  calls_of_vc (fn := Tryd.f56) (ac := ac_ref11_unrun) (args := [.slice sa1 sl1 sc1, .agg #[.int .i64 x1, .int .i64 x2, .bool b1, .int .i64 x3, .int .i64 x4, .int .i64 x5, .int .u32 x6, .int .u32 x7, .int .u32 x8, .int .u32 x9, .slice sa2 sl2 sc2]]) mixed Tryd.func56 (by kernel_rfl) (cast (by unfold vc_ref11_unrun FnVc; kernel_rfl) h)
/-- darkroom/darkroomref11.sample -/
def vc_ref11_sample (x1 : Int) (x2 : Int) (w : World) (R : Ending → World → Prop) : Prop :=
  Calls P F.ref11_Span #[Value.int IntKind.u32 x2] w fun e1 w1 =>
  ∃ n1 : Int,
  ∃ n2 : Int,
  ∃ c1 : Bool,
  (e1 = Ending.returned (Value.tuple #[Value.int IntKind.i64 n1, Value.int IntKind.i64 n2, Value.bool c1])) ∧
  brB (n2 == 0)
    (R (Ending.returned (Value.int IntKind.u16 65535)) w1)
    ((0 ≤ IntKind.u64.wrap n1) ∧
    (0 ≤ IntKind.u64.wrap n2) ∧
    Calls P F.ref08_Up #[Value.int IntKind.i64 (IntKind.i64.wrap (shiftZ BinOp.shr IntKind.u32 (IntKind.u32.wrap (bitsZ BinOp.and IntKind.u32 x1 x2)) (IntKind.u64.wrap n1))), Value.int IntKind.i64 (IntKind.i64.wrap (shiftZ BinOp.shl IntKind.i64 1 (IntKind.u64.wrap n2) - 1))] w1 fun e2 w2 =>
    ∃ n3 : Int,
    ∃ n4 : Int,
    (e2 = Ending.returned (Value.tuple #[Value.int IntKind.u16 n3, Value.int IntKind.i64 n4])) ∧
    R (Ending.returned (Value.int IntKind.u16 n3)) w2)
theorem calls_ref11_sample (x1 : Int) (x2 : Int) (w : World) (R : Ending → World → Prop) (h : vc_ref11_sample x1 x2 w R) : Calls P F.ref11_sample #[.int .u32 x1, .int .u32 x2] w R :=
  calls_of_vc (fn := Tryd.f57) (ac := ac_ref11_sample) (args := [.int .u32 x1, .int .u32 x2]) mixed Tryd.func57 (by kernel_rfl) (cast (by unfold vc_ref11_sample FnVc; kernel_rfl) h)
/-- darkroom/raster.Good -/
def vc_raster_Good (x1 : Int) (x2 : Int) (sa1 : Option Addr) (sl1 sc1 : Nat) (w : World) (R : Ending → World → Prop) : Prop :=
  ∀ k1 : Nat,
  (w.heap.size ≤ k1) →
  ∀ w1 : World,
  (Locl ([k1]) w w1) →
  R (Ending.returned (Value.bool (decide (min x1 x2 ≥ 1) && decide (max x1 x2 ≤ 4096) && decide (IntKind.i64.wrap (x1 * x2) ≤ 65536) && (↑sl1 : Int) == IntKind.i64.wrap (IntKind.i64.wrap (4 * x1) * x2)))) w1
theorem calls_raster_Good (x1 : Int) (x2 : Int) (sa1 : Option Addr) (sl1 sc1 : Nat) (w : World) (R : Ending → World → Prop) (h : vc_raster_Good x1 x2 sa1 sl1 sc1 w R) : Calls P F.raster_Good #[.agg #[.int .i64 x1, .int .i64 x2, .slice sa1 sl1 sc1]] w R :=
  calls_of_vc (fn := Tryd.f58) (ac := ac_raster_Good) (args := [.agg #[.int .i64 x1, .int .i64 x2, .slice sa1 sl1 sc1]]) mixed Tryd.func58 (by kernel_rfl) (cast (by unfold vc_raster_Good FnVc; kernel_rfl) h)
/-- slices.Chunk[[]uint16,uint16] -/
def vc_slices_Chunk_uint16 (sa1 : Option Addr) (sl1 sc1 : Nat) (x1 : Int) (w : World) (R : Ending → World → Prop) : Prop :=
  ∀ k1 : Nat,
  ∀ w1 : World,
  (New w (Obj.cells #[Value.slice sa1 sl1 sc1] 24) k1 w1) →
  ∀ k2 : Nat,
  ∀ w2 : World,
  (New w1 (Obj.cells #[Value.int IntKind.i64 x1] 3) k2 w2) →
  ∃ n1 : Int,
  (w2.cell? { block := k2, off := 0 } = some (Value.int IntKind.i64 n1)) ∧
  brB (decide (n1 < 1))
    (False)
    (R (Ending.returned (Value.func (Fn.func 69) #[] #[Value.pointer (some { block := k1, off := 0 }), Value.pointer (some { block := k2, off := 0 })])) w2)
theorem calls_slices_Chunk_uint16 (sa1 : Option Addr) (sl1 sc1 : Nat) (x1 : Int) (w : World) (R : Ending → World → Prop) (h : vc_slices_Chunk_uint16 sa1 sl1 sc1 x1 w R) : Calls P F.slices_Chunk_uint16 #[.slice sa1 sl1 sc1, .int .i64 x1] w R :=
  calls_of_vc (fn := Tryd.f59) (ac := ac_slices_Chunk_uint16) (args := [.slice sa1 sl1 sc1, .int .i64 x1]) mixed Tryd.func59 (by kernel_rfl) (cast (by unfold vc_slices_Chunk_uint16 FnVc; kernel_rfl) h)
/-- darkroom/raster.colour -/
def vc_raster_colour (sa1 : Option Addr) (sl1 sc1 : Nat) (w : World) (R : Ending → World → Prop) : Prop :=
  ∀ k1 : Nat,
  (w.heap.size ≤ k1) →
  idx (sa1) (sl1) (0) (1) fun a1 =>
  ∀ w1 : World,
  (Locl ([k1]) w w1) →
  ∃ n1 : Int,
  (w1.cell? a1 = some (Value.int IntKind.u16 n1)) ∧
  idx (sa1) (sl1) (1) (1) fun a2 =>
  ∃ n2 : Int,
  (w1.cell? a2 = some (Value.int IntKind.u16 n2)) ∧
  idx (sa1) (sl1) (2) (1) fun a3 =>
  ∃ n3 : Int,
  (w1.cell? a3 = some (Value.int IntKind.u16 n3)) ∧
  idx (sa1) (sl1) (3) (1) fun a4 =>
  ∃ n4 : Int,
  (w1.cell? a4 = some (Value.int IntKind.u16 n4)) ∧
  ∀ w2 : World,
  (Locl ([k1]) w1 w2) →
  R (Ending.returned (Value.agg #[Value.int IntKind.u16 n1, Value.int IntKind.u16 n2, Value.int IntKind.u16 n3, Value.int IntKind.u16 n4])) w2
theorem calls_raster_colour (sa1 : Option Addr) (sl1 sc1 : Nat) (w : World) (R : Ending → World → Prop) (h : vc_raster_colour sa1 sl1 sc1 w R) : Calls P F.raster_colour #[.slice sa1 sl1 sc1] w R :=
  calls_of_vc (fn := Tryd.f60) (ac := ac_raster_colour) (args := [.slice sa1 sl1 sc1]) mixed Tryd.func60 (by kernel_rfl) (cast (by unfold vc_raster_colour FnVc; kernel_rfl) h)
/-- darkroom/grid.Of[darkroom/api.Color] -/
def vc_grid_Of_api_Color (x1 : Int) (x2 : Int) (sa1 : Option Addr) (sl1 sc1 : Nat) (w : World) (R : Ending → World → Prop) : Prop :=
  Calls P F.grid_fits #[Value.int IntKind.i64 x1, Value.int IntKind.i64 x2] w fun e1 w1 =>
  ∃ c1 : Bool,
  (e1 = Ending.returned (Value.bool c1)) ∧
  brB (!c1)
    (R (Ending.returned (Value.tuple #[Value.pointer none, Value.int IntKind.i64 4])) w1)
    (brB ((↑sl1 : Int) != IntKind.i64.wrap (x1 * x2))
      (R (Ending.returned (Value.tuple #[Value.pointer none, Value.int IntKind.i64 3])) w1)
      (Calls P F.slices_Clone_api_Color #[Value.slice sa1 sl1 sc1] w1 fun e2 w2 =>
      ∃ p1 : Option Addr,
      ∃ k1 : Nat,
      ∃ k2 : Nat,
      (e2 = Ending.returned (Value.slice p1 k1 k2)) ∧
      ∀ k3 : Nat,
      ∀ w3 : World,
      (New w2 (Obj.cells #[Value.int IntKind.i64 x1, Value.int IntKind.i64 x2, Value.slice p1 k1 k2] 113) k3 w3) →
      R (Ending.returned (Value.tuple #[Value.pointer (some { block := k3, off := 0 }), Value.int IntKind.i64 0])) w3))
theorem calls_grid_Of_api_Color (x1 : Int) (x2 : Int) (sa1 : Option Addr) (sl1 sc1 : Nat) (w : World) (R : Ending → World → Prop) (h : vc_grid_Of_api_Color x1 x2 sa1 sl1 sc1 w R) : Calls P F.grid_Of_api_Color #[.int .i64 x1, .int .i64 x2, .slice sa1 sl1 sc1] w R :=
  calls_of_vc (fn := Tryd.f61) (ac := ac_grid_Of_api_Color) (args := [.int .i64 x1, .int .i64 x2, .slice sa1 sl1 sc1]) mixed Tryd.func61 (by kernel_rfl) (cast (by unfold vc_grid_Of_api_Color FnVc; kernel_rfl) h)
/-- (*darkroom/grid.Grid[darkroom/api.Color]).has -/
def vc_grid_Grid_api_Color_has (q1 : Option Addr) (x1 : Int) (x2 : Int) (w : World) (R : Ending → World → Prop) : Prop :=
  brB (!q1.isNone && decide (x1 ≥ 0) && decide (x2 ≥ 0))
    (nn (q1) fun a1 =>
    ∃ n1 : Int,
    (w.cell? a1 = some (Value.int IntKind.i64 n1)) ∧
    brB (decide (x1 < n1))
      (nn (q1) fun a2 =>
      ∃ n2 : Int,
      (w.cell? (a2.add 1) = some (Value.int IntKind.i64 n2)) ∧
      R (Ending.returned (Value.bool (decide (x2 < n2)))) w)
      (R (Ending.returned (Value.bool false)) w))
    (R (Ending.returned (Value.bool false)) w)
theorem calls_grid_Grid_api_Color_has (q1 : Option Addr) (x1 : Int) (x2 : Int) (w : World) (R : Ending → World → Prop) (h : vc_grid_Grid_api_Color_has q1 x1 x2 w R) : Calls P F.grid_Grid_api_Color_has #[.pointer q1, .int .i64 x1, .int .i64 x2] w R :=
  calls_of_vc (fn := Tryd.f62) (ac := ac_grid_Grid_api_Color_has) (args := [.pointer q1, .int .i64 x1, .int .i64 x2]) mixed Tryd.func62 (by kernel_rfl) (cast (by unfold vc_grid_Grid_api_Color_has FnVc; kernel_rfl) h)
/-- darkroom/bits.there -/
def vc_bits_there (sa1 : Option Addr) (sl1 sc1 : Nat) (x1 : Int) (x2 : Int) (w : World) (R : Ending → World → Prop) : Prop :=
  brB (decide (x2 < 1) || decide (x2 > 4))
    (R (Ending.returned (Value.int IntKind.i64 2)) w)
    (brB (decide (x1 < 0) || decide (x1 > IntKind.i64.wrap ((↑sl1 : Int) - x2)))
      (R (Ending.returned (Value.int IntKind.i64 5)) w)
      (R (Ending.returned (Value.int IntKind.i64 0)) w))
theorem calls_bits_there (sa1 : Option Addr) (sl1 sc1 : Nat) (x1 : Int) (x2 : Int) (w : World) (R : Ending → World → Prop) (h : vc_bits_there sa1 sl1 sc1 x1 x2 w R) : Calls P F.bits_there #[.slice sa1 sl1 sc1, .int .i64 x1, .int .i64 x2] w R :=
  calls_of_vc (fn := Tryd.f63) (ac := ac_bits_there) (args := [.slice sa1 sl1 sc1, .int .i64 x1, .int .i64 x2]) mixed Tryd.func63 (by kernel_rfl) (cast (by unfold vc_bits_there FnVc; kernel_rfl) h)
/-- math/bits.OnesCount32 -/
def vc_math_bits_OnesCount32 (x1 : Int) (w : World) (R : Ending → World → Prop) : Prop :=
  (0 ≤ shiftZ BinOp.shr IntKind.u32 x1 24) ∧
  (shiftZ BinOp.shr IntKind.u32 x1 24 < 256) ∧
  (0 ≤ IntKind.u32.wrap (bitsZ BinOp.and IntKind.u32 (shiftZ BinOp.shr IntKind.u32 x1 16) 255)) ∧
  (IntKind.u32.wrap (bitsZ BinOp.and IntKind.u32 (shiftZ BinOp.shr IntKind.u32 x1 16) 255) < 256) ∧
  (0 ≤ IntKind.u32.wrap (bitsZ BinOp.and IntKind.u32 (shiftZ BinOp.shr IntKind.u32 x1 8) 255)) ∧
  (IntKind.u32.wrap (bitsZ BinOp.and IntKind.u32 (shiftZ BinOp.shr IntKind.u32 x1 8) 255) < 256) ∧
  (0 ≤ IntKind.u32.wrap (bitsZ BinOp.and IntKind.u32 x1 255)) ∧
  (IntKind.u32.wrap (bitsZ BinOp.and IntKind.u32 x1 255) < 256) ∧
  R (Ending.returned (Value.int IntKind.i64 (IntKind.i64.wrap (IntKind.u8.wrap (IntKind.u8.wrap (IntKind.u8.wrap (sixAt { data := #[0, 1, 1, 2, 1, 2, 2, 3, 1, 2, 2, 3, 2, 3, 3, 4, 1, 2, 2, 3, 2, 3, 3, 4, 2, 3, 3, 4, 3, 4, 4, 5, 1, 2, 2, 3, 2, 3, 3, 4, 2, 3, 3, 4, 3, 4, 4, 5, 2, 3, 3, 4, 3, 4, 4, 5, 3, 4, 4, 5, 4, 5, 5, 6, 1, 2, 2, 3, 2, 3, 3, 4, 2, 3, 3, 4, 3, 4, 4, 5, 2, 3, 3, 4, 3, 4, 4, 5, 3, 4, 4, 5, 4, 5, 5, 6, 2, 3, 3, 4, 3, 4, 4, 5, 3, 4, 4, 5, 4, 5, 5, 6, 3, 4, 4, 5, 4, 5, 5, 6, 4, 5, 5, 6, 5, 6, 6, 7, 1, 2, 2, 3, 2, 3, 3, 4, 2, 3, 3, 4, 3, 4, 4, 5, 2, 3, 3, 4, 3, 4, 4, 5, 3, 4, 4, 5, 4, 5, 5, 6, 2, 3, 3, 4, 3, 4, 4, 5, 3, 4, 4, 5, 4, 5, 5, 6, 3, 4, 4, 5, 4, 5, 5, 6, 4, 5, 5, 6, 5, 6, 6, 7, 2, 3, 3, 4, 3, 4, 4, 5, 3, 4, 4, 5, 4, 5, 5, 6, 3, 4, 4, 5, 4, 5, 5, 6, 4, 5, 5, 6, 5, 6, 6, 7, 3, 4, 4, 5, 4, 5, 5, 6, 4, 5, 5, 6, 5, 6, 6, 7, 4, 5, 5, 6, 5, 6, 6, 7, 5, 6, 6, 7, 6, 7, 7, 8] } (shiftZ BinOp.shr IntKind.u32 x1 24).toNat + sixAt { data := #[0, 1, 1, 2, 1, 2, 2, 3, 1, 2, 2, 3, 2, 3, 3, 4, 1, 2, 2, 3, 2, 3, 3, 4, 2, 3, 3, 4, 3, 4, 4, 5, 1, 2, 2, 3, 2, 3, 3, 4, 2, 3, 3, 4, 3, 4, 4, 5, 2, 3, 3, 4, 3, 4, 4, 5, 3, 4, 4, 5, 4, 5, 5, 6, 1, 2, 2, 3, 2, 3, 3, 4, 2, 3, 3, 4, 3, 4, 4, 5, 2, 3, 3, 4, 3, 4, 4, 5, 3, 4, 4, 5, 4, 5, 5, 6, 2, 3, 3, 4, 3, 4, 4, 5, 3, 4, 4, 5, 4, 5, 5, 6, 3, 4, 4, 5, 4, 5, 5, 6, 4, 5, 5, 6, 5, 6, 6, 7, 1, 2, 2, 3, 2, 3, 3, 4, 2, 3, 3, 4, 3, 4, 4, 5, 2, 3, 3, 4, 3, 4, 4, 5, 3, 4, 4, 5, 4, 5, 5, 6, 2, 3, 3, 4, 3, 4, 4, 5, 3, 4, 4, 5, 4, 5, 5, 6, 3, 4, 4, 5, 4, 5, 5, 6, 4, 5, 5, 6, 5, 6, 6, 7, 2, 3, 3, 4, 3, 4, 4, 5, 3, 4, 4, 5, 4, 5, 5, 6, 3, 4, 4, 5, 4, 5, 5, 6, 4, 5, 5, 6, 5, 6, 6, 7, 3, 4, 4, 5, 4, 5, 5, 6, 4, 5, 5, 6, 5, 6, 6, 7, 4, 5, 5, 6, 5, 6, 6, 7, 5, 6, 6, 7, 6, 7, 7, 8] } (IntKind.u32.wrap (bitsZ BinOp.and IntKind.u32 (shiftZ BinOp.shr IntKind.u32 x1 16) 255)).toNat) + sixAt { data := #[0, 1, 1, 2, 1, 2, 2, 3, 1, 2, 2, 3, 2, 3, 3, 4, 1, 2, 2, 3, 2, 3, 3, 4, 2, 3, 3, 4, 3, 4, 4, 5, 1, 2, 2, 3, 2, 3, 3, 4, 2, 3, 3, 4, 3, 4, 4, 5, 2, 3, 3, 4, 3, 4, 4, 5, 3, 4, 4, 5, 4, 5, 5, 6, 1, 2, 2, 3, 2, 3, 3, 4, 2, 3, 3, 4, 3, 4, 4, 5, 2, 3, 3, 4, 3, 4, 4, 5, 3, 4, 4, 5, 4, 5, 5, 6, 2, 3, 3, 4, 3, 4, 4, 5, 3, 4, 4, 5, 4, 5, 5, 6, 3, 4, 4, 5, 4, 5, 5, 6, 4, 5, 5, 6, 5, 6, 6, 7, 1, 2, 2, 3, 2, 3, 3, 4, 2, 3, 3, 4, 3, 4, 4, 5, 2, 3, 3, 4, 3, 4, 4, 5, 3, 4, 4, 5, 4, 5, 5, 6, 2, 3, 3, 4, 3, 4, 4, 5, 3, 4, 4, 5, 4, 5, 5, 6, 3, 4, 4, 5, 4, 5, 5, 6, 4, 5, 5, 6, 5, 6, 6, 7, 2, 3, 3, 4, 3, 4, 4, 5, 3, 4, 4, 5, 4, 5, 5, 6, 3, 4, 4, 5, 4, 5, 5, 6, 4, 5, 5, 6, 5, 6, 6, 7, 3, 4, 4, 5, 4, 5, 5, 6, 4, 5, 5, 6, 5, 6, 6, 7, 4, 5, 5, 6, 5, 6, 6, 7, 5, 6, 6, 7, 6, 7, 7, 8] } (IntKind.u32.wrap (bitsZ BinOp.and IntKind.u32 (shiftZ BinOp.shr IntKind.u32 x1 8) 255)).toNat) + sixAt { data := #[0, 1, 1, 2, 1, 2, 2, 3, 1, 2, 2, 3, 2, 3, 3, 4, 1, 2, 2, 3, 2, 3, 3, 4, 2, 3, 3, 4, 3, 4, 4, 5, 1, 2, 2, 3, 2, 3, 3, 4, 2, 3, 3, 4, 3, 4, 4, 5, 2, 3, 3, 4, 3, 4, 4, 5, 3, 4, 4, 5, 4, 5, 5, 6, 1, 2, 2, 3, 2, 3, 3, 4, 2, 3, 3, 4, 3, 4, 4, 5, 2, 3, 3, 4, 3, 4, 4, 5, 3, 4, 4, 5, 4, 5, 5, 6, 2, 3, 3, 4, 3, 4, 4, 5, 3, 4, 4, 5, 4, 5, 5, 6, 3, 4, 4, 5, 4, 5, 5, 6, 4, 5, 5, 6, 5, 6, 6, 7, 1, 2, 2, 3, 2, 3, 3, 4, 2, 3, 3, 4, 3, 4, 4, 5, 2, 3, 3, 4, 3, 4, 4, 5, 3, 4, 4, 5, 4, 5, 5, 6, 2, 3, 3, 4, 3, 4, 4, 5, 3, 4, 4, 5, 4, 5, 5, 6, 3, 4, 4, 5, 4, 5, 5, 6, 4, 5, 5, 6, 5, 6, 6, 7, 2, 3, 3, 4, 3, 4, 4, 5, 3, 4, 4, 5, 4, 5, 5, 6, 3, 4, 4, 5, 4, 5, 5, 6, 4, 5, 5, 6, 5, 6, 6, 7, 3, 4, 4, 5, 4, 5, 5, 6, 4, 5, 5, 6, 5, 6, 6, 7, 4, 5, 5, 6, 5, 6, 6, 7, 5, 6, 6, 7, 6, 7, 7, 8] } (IntKind.u32.wrap (bitsZ BinOp.and IntKind.u32 x1 255)).toNat))))) w.drew
theorem calls_math_bits_OnesCount32 (x1 : Int) (w : World) (R : Ending → World → Prop) (h : vc_math_bits_OnesCount32 x1 w R) : Calls P F.math_bits_OnesCount32 #[.int .u32 x1] w R :=
  calls_of_vc (fn := Tryd.f64) (ac := ac_math_bits_OnesCount32) (args := [.int .u32 x1]) mixed Tryd.func64 (by kernel_rfl) (cast (by unfold vc_math_bits_OnesCount32 FnVc; kernel_rfl) h)
/-- math/bits.TrailingZeros32 -/
def vc_math_bits_TrailingZeros32 (x1 : Int) (w : World) (R : Ending → World → Prop) : Prop :=
  brB (x1 == 0)
    (R (Ending.returned (Value.int IntKind.i64 32)) w)
    ((0 ≤ shiftZ BinOp.shr IntKind.u32 (IntKind.u32.wrap (IntKind.u32.wrap (bitsZ BinOp.and IntKind.u32 x1 (IntKind.u32.wrap (0 - x1))) * 125613361)) 27) ∧
    (shiftZ BinOp.shr IntKind.u32 (IntKind.u32.wrap (IntKind.u32.wrap (bitsZ BinOp.and IntKind.u32 x1 (IntKind.u32.wrap (0 - x1))) * 125613361)) 27 < 32) ∧
    ∃ n1 : Int,
    (w.cell? ({ block := 0, off := 0 : Addr }.add ((shiftZ BinOp.shr IntKind.u32 (IntKind.u32.wrap (IntKind.u32.wrap (bitsZ BinOp.and IntKind.u32 x1 (IntKind.u32.wrap (0 - x1))) * 125613361)) 27).toNat * 1)) = some (Value.int IntKind.u8 n1)) ∧
    R (Ending.returned (Value.int IntKind.i64 (IntKind.i64.wrap n1))) w)
theorem calls_math_bits_TrailingZeros32 (x1 : Int) (w : World) (R : Ending → World → Prop) (h : vc_math_bits_TrailingZeros32 x1 w R) : Calls P F.math_bits_TrailingZeros32 #[.int .u32 x1] w R :=
  calls_of_vc (fn := Tryd.f65) (ac := ac_math_bits_TrailingZeros32) (args := [.int .u32 x1]) mixed Tryd.func65 (by kernel_rfl) (cast (by unfold vc_math_bits_TrailingZeros32 FnVc; kernel_rfl) h)
/-- darkroom/tones.Up -/
def vc_tones_Up (x1 : Int) (x2 : Int) (w : World) (R : Ending → World → Prop) : Prop :=
  brB (decide (x2 < 1) || decide (x2 > 65535) || decide (x1 < 0) || decide (x1 > x2))
    (R (Ending.returned (Value.tuple #[Value.int IntKind.u16 0, Value.int IntKind.i64 2])) w)
    ((x2 ≠ 0) ∧
    R (Ending.returned (Value.tuple #[Value.int IntKind.u16 (IntKind.u16.wrap (divZ BinOp.quo IntKind.i64 (IntKind.i64.wrap (IntKind.i64.wrap (65535 * x1) + divZ BinOp.quo IntKind.i64 x2 2)) x2)), Value.int IntKind.i64 0])) w)
theorem calls_tones_Up (x1 : Int) (x2 : Int) (w : World) (R : Ending → World → Prop) (h : vc_tones_Up x1 x2 w R) : Calls P F.tones_Up #[.int .i64 x1, .int .i64 x2] w R :=
  calls_of_vc (fn := Tryd.f66) (ac := ac_tones_Up) (args := [.int .i64 x1, .int .i64 x2]) mixed Tryd.func66 (by kernel_rfl) (cast (by unfold vc_tones_Up FnVc; kernel_rfl) h)
/-- darkroom/darkroomref11.put -/
def vc_ref11_put (x1 : Int) (x2 : Int) (sa1 : Option Addr) (sl1 sc1 : Nat) (x3 : Int) (x4 : Int) (b1 : Bool) (x5 : Int) (x6 : Int) (x7 : Int) (x8 : Int) (x9 : Int) (x10 : Int) (x11 : Int) (sa2 : Option Addr) (sl2 sc2 : Nat) (x12 : Int) (w : World) (R : Ending → World → Prop) : Prop :=
  ∀ k1 : Nat,
  (w.heap.size ≤ k1) →
  ∀ k2 : Nat,
  (w.heap.size ≤ k2) →
  ∀ k3 : Nat,
  (w.heap.size ≤ k3) →
  brB (decide (x1 ≥ x3) || decide (x2 ≥ x4))
    (∀ w1 : World,
    (Locl ([k3, k2, k1]) w w1) →
    R (Ending.returned (Value.tuple #[Value.agg #[Value.int IntKind.i64 x1, Value.int IntKind.i64 x2, Value.slice sa1 sl1 sc1], Value.bool false])) w1)
    (idx (sa1) (sl1) (IntKind.i64.wrap (IntKind.i64.wrap (IntKind.i64.wrap (IntKind.i64.wrap (x4 - 1) - x2) * x3) + x1)) (1) fun a1 =>
    ∀ w2 : World,
    (Locl ([k3, k2, k1]) w w2) →
    (∃ v1 : Value,
      w2.cell? a1 = some v1) ∧
    (w2.frozen? a1 = false) ∧
    (¬a1.block ∈ [k3, k2, k1]) ∧
    ∀ w3 : World,
    (Locl ([k3, k2, k1]) (setCells w2 a1 [Value.int IntKind.i64 x12] 0) w3) →
    R (Ending.returned (Value.tuple #[Value.agg #[Value.int IntKind.i64 (IntKind.i64.wrap (x1 + 1)), Value.int IntKind.i64 x2, Value.slice sa1 sl1 sc1], Value.bool true])) w3)
theorem calls_ref11_put (x1 : Int) (x2 : Int) (sa1 : Option Addr) (sl1 sc1 : Nat) (x3 : Int) (x4 : Int) (b1 : Bool) (x5 : Int) (x6 : Int) (x7 : Int) (x8 : Int) (x9 : Int) (x10 : Int) (x11 : Int) (sa2 : Option Addr) (sl2 sc2 : Nat) (x12 : Int) (w : World) (R : Ending → World → Prop) (h : vc_ref11_put x1 x2 sa1 sl1 sc1 x3 x4 b1 x5 x6 x7 x8 x9 x10 x11 sa2 sl2 sc2 x12 w R) : Calls P F.ref11_put #[.agg #[.int .i64 x1, .int .i64 x2, .slice sa1 sl1 sc1], .agg #[.int .i64 x3, .int .i64 x4, .bool b1, .int .i64 x5, .int .i64 x6, .int .i64 x7, .int .u32 x8, .int .u32 x9, .int .u32 x10, .int .u32 x11, .slice sa2 sl2 sc2], .int .i64 x12] w R :=
  calls_of_vc (fn := Tryd.f67) (ac := ac_ref11_put) (args := [.agg #[.int .i64 x1, .int .i64 x2, .slice sa1 sl1 sc1], .agg #[.int .i64 x3, .int .i64 x4, .bool b1, .int .i64 x5, .int .i64 x6, .int .i64 x7, .int .u32 x8, .int .u32 x9, .int .u32 x10, .int .u32 x11, .slice sa2 sl2 sc2], .int .i64 x12]) mixed Tryd.func67 (by kernel_rfl) (cast (by unfold vc_ref11_put FnVc; kernel_rfl) h)
/-- darkroom/darkroomref11.nibble -/
def vc_ref11_nibble (x1 : Int) (x2 : Int) (b1 : Bool) (x3 : Int) (x4 : Int) (x5 : Int) (x6 : Int) (x7 : Int) (x8 : Int) (x9 : Int) (sa1 : Option Addr) (sl1 sc1 : Nat) (x10 : Int) (x11 : Int) (w : World) (R : Ending → World → Prop) : Prop :=
  ∀ k1 : Nat,
  (w.heap.size ≤ k1) →
  brB (x3 == 8)
    (∀ w1 : World,
    (Locl ([k1]) w w1) →
    R (Ending.returned (Value.int IntKind.i64 x10)) w1)
    (brB (divZ BinOp.rem IntKind.i64 x11 2 == 0)
      (∀ w2 : World,
      (Locl ([k1]) w w2) →
      R (Ending.returned (Value.int IntKind.i64 (divZ BinOp.quo IntKind.i64 x10 16))) w2)
      (∀ w3 : World,
      (Locl ([k1]) w w3) →
      R (Ending.returned (Value.int IntKind.i64 (divZ BinOp.rem IntKind.i64 x10 16))) w3))
theorem calls_ref11_nibble (x1 : Int) (x2 : Int) (b1 : Bool) (x3 : Int) (x4 : Int) (x5 : Int) (x6 : Int) (x7 : Int) (x8 : Int) (x9 : Int) (sa1 : Option Addr) (sl1 sc1 : Nat) (x10 : Int) (x11 : Int) (w : World) (R : Ending → World → Prop) (h : vc_ref11_nibble x1 x2 b1 x3 x4 x5 x6 x7 x8 x9 sa1 sl1 sc1 x10 x11 w R) : Calls P F.ref11_nibble #[.agg #[.int .i64 x1, .int .i64 x2, .bool b1, .int .i64 x3, .int .i64 x4, .int .i64 x5, .int .u32 x6, .int .u32 x7, .int .u32 x8, .int .u32 x9, .slice sa1 sl1 sc1], .int .i64 x10, .int .i64 x11] w R :=
  calls_of_vc (fn := Tryd.f68) (ac := ac_ref11_nibble) (args := [.agg #[.int .i64 x1, .int .i64 x2, .bool b1, .int .i64 x3, .int .i64 x4, .int .i64 x5, .int .u32 x6, .int .u32 x7, .int .u32 x8, .int .u32 x9, .slice sa1 sl1 sc1], .int .i64 x10, .int .i64 x11]) mixed Tryd.func68 (by kernel_rfl) (cast (by unfold vc_ref11_nibble FnVc; kernel_rfl) h)
/-- slices.Chunk[[]uint16,uint16]$1 -/
def vc_slices_Chunk_uint16_fn1 (yl1 : Nat) (fr1 : Addr) (fr2 : Addr) (w : World) (R : Ending → World → Prop) : Prop :=
  ∃ I1 : List Value → World → Prop,
  ∃ m1 : List Value → World → Nat,
  (I1 [Value.int IntKind.i64 0] w) ∧
  ∀ n1 : Int,
  ∀ w1 : World,
  (I1 [Value.int IntKind.i64 n1] w1) →
  ∃ p1 : Option Addr,
  ∃ k1 : Nat,
  ∃ k2 : Nat,
  (w1.cell? fr1 = some (Value.slice p1 k1 k2)) ∧
  brB (decide (n1 < (↑k1 : Int)))
    (∃ n2 : Int,
    (w1.drew.cell? fr2 = some (Value.int IntKind.i64 n2)) ∧
    ∃ p2 : Option Addr,
    ∃ k3 : Nat,
    ∃ k4 : Nat,
    (w1.drew.cell? fr1 = some (Value.slice p2 k3 k4)) ∧
    slcc (p2) (k4) (n1) ((↑k3 : Int)) (1) fun p3 k5 k6 =>
    ∃ p4 : Option Addr,
    ∃ k7 : Nat,
    ∃ k8 : Nat,
    (w1.drew.cell? fr1 = some (Value.slice p4 k7 k8)) ∧
    (0 ≤ IntKind.i64.wrap (n1 + min n2 (↑k5 : Int))) ∧
    (IntKind.i64.wrap (n1 + min n2 (↑k5 : Int)) ≤ (↑k8 : Int)) ∧
    slcc (p4) ((IntKind.i64.wrap (n1 + min n2 (↑k5 : Int))).toNat) (n1) (IntKind.i64.wrap (n1 + min n2 (↑k5 : Int))) (1) fun p5 k9 k10 =>
    YieldAt Fence.wide 0 P (yl1) #[Value.slice p5 k9 k10] (w1.drew) fun e1 w2 =>
    ∃ c1 : Bool,
    (e1 = Ending.returned (Value.bool c1)) ∧
    brB (!c1)
      (R (Ending.returned (Value.tuple #[])) w2)
      (∃ n3 : Int,
      (w2.cell? fr2 = some (Value.int IntKind.i64 n3)) ∧
      (I1 [Value.int IntKind.i64 (IntKind.i64.wrap (n1 + n3))] w2) ∧
      m1 [Value.int IntKind.i64 (IntKind.i64.wrap (n1 + n3))] w2 < m1 [Value.int IntKind.i64 n1] w1))
    (R (Ending.returned (Value.tuple #[])) w1)
theorem calls_slices_Chunk_uint16_fn1 (yl1 : Nat) (fr1 : Addr) (fr2 : Addr) (w : World) (R : Ending → World → Prop) (h : vc_slices_Chunk_uint16_fn1 yl1 fr1 fr2 w R) : Calls P F.slices_Chunk_uint16_fn1 #[.func (.yield yl1) #[] #[], .pointer (some fr1), .pointer (some fr2)] w R :=
  calls_of_vc (fn := Tryd.f69) (ac := ac_slices_Chunk_uint16_fn1) (args := [.func (.yield yl1) #[] #[], .pointer (some fr1), .pointer (some fr2)]) mixed Tryd.func69 (by kernel_rfl) (cast (by unfold vc_slices_Chunk_uint16_fn1 FnVc; kernel_rfl) h)
/-- darkroom/grid.fits -/
def vc_grid_fits (x1 : Int) (x2 : Int) (w : World) (R : Ending → World → Prop) : Prop :=
  R (Ending.returned (Value.bool (decide (min x1 x2 ≥ 1) && decide (max x1 x2 ≤ 4096) && decide (IntKind.i64.wrap (x1 * x2) ≤ 65536)))) w
theorem calls_grid_fits (x1 : Int) (x2 : Int) (w : World) (R : Ending → World → Prop) (h : vc_grid_fits x1 x2 w R) : Calls P F.grid_fits #[.int .i64 x1, .int .i64 x2] w R :=
  calls_of_vc (fn := Tryd.f70) (ac := ac_grid_fits) (args := [.int .i64 x1, .int .i64 x2]) mixed Tryd.func70 (by kernel_rfl) (cast (by unfold vc_grid_fits FnVc; kernel_rfl) h)
/-- slices.Clone[[]darkroom/api.Color,darkroom/api.Color] -/
def vc_slices_Clone_api_Color (sa1 : Option Addr) (sl1 sc1 : Nat) (w : World) (R : Ending → World → Prop) : Prop :=
  brB (sa1.isNone)
    (R (Ending.returned (Value.slice none 0 0)) w)
    (∀ k1 : Nat,
    ∀ w1 : World,
    (New w (Obj.cells #[] 49) k1 w1) →
    ∃ l1 : List Value,
    (l1.length = sl1 * 4) ∧
    (oneAll l1 = true) ∧
    (CellsAre w1 sa1 l1) ∧
    appVC (w1) ([]) (some { block := k1, off := 0 }) (0) (0) (sl1) (4) (8) (49) ([Value.int IntKind.u16 0, Value.int IntKind.u16 0, Value.int IntKind.u16 0, Value.int IntKind.u16 0]) (l1) fun p1 k2 k3 w2 =>
    R (Ending.returned (Value.slice p1 k2 k3)) w2)
theorem calls_slices_Clone_api_Color (sa1 : Option Addr) (sl1 sc1 : Nat) (w : World) (R : Ending → World → Prop) (h : vc_slices_Clone_api_Color sa1 sl1 sc1 w R) : Calls P F.slices_Clone_api_Color #[.slice sa1 sl1 sc1] w R :=
  calls_of_vc (fn := Tryd.f71) (ac := ac_slices_Clone_api_Color) (args := [.slice sa1 sl1 sc1]) mixed Tryd.func71 (by kernel_rfl) (cast (by unfold vc_slices_Clone_api_Color FnVc; kernel_rfl) h)
end Go.Proofs.YtjdljddfiddnoaaDoor
