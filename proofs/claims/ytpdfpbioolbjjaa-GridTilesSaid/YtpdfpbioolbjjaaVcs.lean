/- For each function the condition that its code asks, written out (by a program of ours), and the theorem that it suffices: the kernel holds both against the code. -/
import Derived.Test.YtpdfpbioolbjjaaFns
namespace Go.Proofs.Ytpdfpbioolbjjaa
open Go Go.Vc
set_option maxRecDepth 100000
set_option linter.unusedVariables false
/-- darkroom/darkroomlaw07.GridHolds -/
def vc_law07_GridHolds (x1 : Int) (x2 : Int) (sa1 : Option Addr) (sl1 sc1 : Nat) (x3 : Int) (x4 : Int) (w : World) (R : Ending → World → Prop) : Prop :=
  ∀ k1 : Nat,
  (w.heap.size ≤ k1) →
  ∀ w1 : World,
  (Locl ([k1]) w w1) →
  Calls P F.law07_wakes #[] w1 fun e1 w2 =>
  ∃ c1 : Bool,
  (e1 = Ending.returned (Value.bool c1)) ∧
  (Keep ([k1]) w1 w2) ∧
  brB (!c1)
    (R (Ending.returned (Value.bool false)) w2)
    (Calls P F.law07_both #[Value.agg #[Value.int IntKind.i64 x1, Value.int IntKind.i64 x2, Value.slice sa1 sl1 sc1]] w2 fun e2 w3 =>
    ∃ p1 : Option Addr,
    ∃ n1 : Int,
    ∃ n2 : Int,
    ∃ p2 : Option Addr,
    ∃ k2 : Nat,
    ∃ k3 : Nat,
    ∃ c2 : Bool,
    ∃ c3 : Bool,
    (e2 = Ending.returned (Value.tuple #[Value.pointer p1, Value.agg #[Value.int IntKind.i64 n1, Value.int IntKind.i64 n2, Value.slice p2 k2 k3], Value.bool c2, Value.bool c3])) ∧
    (Keep ([k1]) w2 w3) ∧
    ∀ k4 : Nat,
    (w3.heap.size ≤ k4) →
    brB (!c2)
      (∀ w4 : World,
      (Locl ([k4, k1]) w3 w4) →
      R (Ending.returned (Value.bool c3)) w4)
      (∀ w5 : World,
      (Locl ([k4, k1]) w3 w5) →
      Calls P F.grid_Grid_int_At #[Value.pointer p1, Value.int IntKind.i64 x3, Value.int IntKind.i64 x4] w5 fun e3 w6 =>
      ∃ n3 : Int,
      ∃ c4 : Bool,
      (e3 = Ending.returned (Value.tuple #[Value.int IntKind.i64 n3, Value.bool c4])) ∧
      (Keep ([k4, k1]) w5 w6) ∧
      ∃ I1 : List Value → World → Prop,
      (Calls P F.law07_same #[Value.pointer p1, Value.agg #[Value.int IntKind.i64 n1, Value.int IntKind.i64 n2, Value.slice p2 k2 k3]] w6 fun e4 w7 =>
        ∃ c5 : Bool,
        (e4 = Ending.returned (Value.bool c5)) ∧
        (Keep ([k4, k1]) w6 w7) ∧
        brB (!c5 || !c4 == (decide (x3 ≥ 0) && decide (x4 ≥ 0) && decide (x3 < x1) && decide (x4 < x2)))
          (R (Ending.returned (Value.bool false)) w7)
          (brB (!(decide (x3 ≥ 0) && decide (x4 ≥ 0) && decide (x3 < x1) && decide (x4 < x2)))
            (brB (n3 != 0)
              (R (Ending.returned (Value.bool false)) w7)
              (brB (decide (x3 ≥ 0) && decide (x4 ≥ 0) && decide (x3 < x1) && decide (x4 < x2))
                (idx (sa1) (sl1) (IntKind.i64.wrap (IntKind.i64.wrap (x4 * x1) + x3)) (1) fun a1 =>
                ∃ n4 : Int,
                (w7.cell? a1 = some (Value.int IntKind.i64 n4)) ∧
                brB (n3 != n4)
                  (R (Ending.returned (Value.bool false)) w7)
                  (I1 [] w7))
                (I1 [] w7)))
            (brB (decide (x3 ≥ 0) && decide (x4 ≥ 0) && decide (x3 < x1) && decide (x4 < x2))
              (idx (sa1) (sl1) (IntKind.i64.wrap (IntKind.i64.wrap (x4 * x1) + x3)) (1) fun a2 =>
              ∃ n5 : Int,
              (w7.cell? a2 = some (Value.int IntKind.i64 n5)) ∧
              brB (n3 != n5)
                (R (Ending.returned (Value.bool false)) w7)
                (I1 [] w7))
              (I1 [] w7)))) ∧
      ∀ w8 : World,
      (I1 [] w8) →
      Calls P F.grid_Grid_int_Set #[Value.pointer p1, Value.int IntKind.i64 x3, Value.int IntKind.i64 x4, Value.int IntKind.i64 123456] w8 fun e5 w9 =>
      ∃ c6 : Bool,
      (e5 = Ending.returned (Value.bool c6)) ∧
      (Keep ([k4, k1]) w8 w9) ∧
      brB (!c6 == (decide (x3 ≥ 0) && decide (x4 ≥ 0) && decide (x3 < x1) && decide (x4 < x2)))
        (R (Ending.returned (Value.bool false)) w9)
        (brB (decide (x3 ≥ 0) && decide (x4 ≥ 0) && decide (x3 < x1) && decide (x4 < x2))
          (Calls P F.law07_own #[Value.slice p2 k2 k3] w9 fun e6 w10 =>
          ∃ p3 : Option Addr,
          ∃ k5 : Nat,
          ∃ k6 : Nat,
          (e6 = Ending.returned (Value.slice p3 k5 k6)) ∧
          (Keep ([k4, k1]) w9 w10) ∧
          idx (p3) (k5) (IntKind.i64.wrap (IntKind.i64.wrap (x4 * x1) + x3)) (1) fun a3 =>
          ∀ w11 : World,
          (Locl ([k4, k1]) w10 w11) →
          (∃ v1 : Value,
            w11.cell? a3 = some v1) ∧
          (w11.frozen? a3 = false) ∧
          (¬a3.block ∈ [k4, k1]) ∧
          Calls P F.law07_same #[Value.pointer p1, Value.agg #[Value.int IntKind.i64 n1, Value.int IntKind.i64 n2, Value.slice p3 k5 k6]] (setCells w11 a3 [Value.int IntKind.i64 123456] 0) fun e7 w12 =>
          ∃ c7 : Bool,
          (e7 = Ending.returned (Value.bool c7)) ∧
          (Keep ([k4, k1]) (setCells w11 a3 [Value.int IntKind.i64 123456] 0) w12) ∧
          R (Ending.returned (Value.bool c7)) w12)
          (Calls P F.law07_same #[Value.pointer p1, Value.agg #[Value.int IntKind.i64 n1, Value.int IntKind.i64 n2, Value.slice p2 k2 k3]] w9 fun e8 w13 =>
          ∃ c8 : Bool,
          (e8 = Ending.returned (Value.bool c8)) ∧
          (Keep ([k4, k1]) w9 w13) ∧
          R (Ending.returned (Value.bool c8)) w13))))
theorem calls_law07_GridHolds (x1 : Int) (x2 : Int) (sa1 : Option Addr) (sl1 sc1 : Nat) (x3 : Int) (x4 : Int) (w : World) (R : Ending → World → Prop) (h : vc_law07_GridHolds x1 x2 sa1 sl1 sc1 x3 x4 w R) : Calls P F.law07_GridHolds #[.agg #[.int .i64 x1, .int .i64 x2, .slice sa1 sl1 sc1], .int .i64 x3, .int .i64 x4] w R :=
  calls_of_vc (fn := Try.f3) (ac := ac_law07_GridHolds) (args := [.agg #[.int .i64 x1, .int .i64 x2, .slice sa1 sl1 sc1], .int .i64 x3, .int .i64 x4]) mixed Try.func3 (by kernel_rfl) (cast (by unfold vc_law07_GridHolds FnVc; kernel_rfl) h)
/-- darkroom/darkroomlaw07.GridOwn -/
def vc_law07_GridOwn (x1 : Int) (x2 : Int) (sa1 : Option Addr) (sl1 sc1 : Nat) (w : World) (R : Ending → World → Prop) : Prop :=
  ∀ k1 : Nat,
  (w.heap.size ≤ k1) →
  ∀ w1 : World,
  (Locl ([k1]) w w1) →
  Calls P F.law07_wakes #[] w1 fun e1 w2 =>
  ∃ c1 : Bool,
  (e1 = Ending.returned (Value.bool c1)) ∧
  (Keep ([k1]) w1 w2) ∧
  brB (!c1)
    (R (Ending.returned (Value.bool false)) w2)
    (Calls P F.law07_own #[Value.slice sa1 sl1 sc1] w2 fun e2 w3 =>
    ∃ p1 : Option Addr,
    ∃ k2 : Nat,
    ∃ k3 : Nat,
    (e2 = Ending.returned (Value.slice p1 k2 k3)) ∧
    (Keep ([k1]) w2 w3) ∧
    Calls P F.grid_Of_int #[Value.int IntKind.i64 x1, Value.int IntKind.i64 x2, Value.slice p1 k2 k3] w3 fun e3 w4 =>
    ∃ p2 : Option Addr,
    ∃ n1 : Int,
    (e3 = Ending.returned (Value.tuple #[Value.pointer p2, Value.int IntKind.i64 n1])) ∧
    (Keep ([k1]) w3 w4) ∧
    ∃ I1 : List Value → World → Prop,
    ∃ m1 : List Value → World → Nat,
    (I1 [Value.int IntKind.i64 0] w4) ∧
    ∀ n2 : Int,
    ∀ w5 : World,
    (I1 [Value.int IntKind.i64 n2] w5) →
    brB (decide (n2 < (↑k2 : Int)))
      (idx (p1) (k2) (n2) (1) fun a1 =>
      (∃ v1 : Value,
        w5.cell? a1 = some v1) ∧
      (w5.frozen? a1 = false) ∧
      (¬a1.block ∈ [k1]) ∧
      (I1 [Value.int IntKind.i64 (IntKind.i64.wrap (n2 + 1))] (setCells w5 a1 [Value.int IntKind.i64 (-7)] 0)) ∧
      m1 [Value.int IntKind.i64 (IntKind.i64.wrap (n2 + 1))] (setCells w5 a1 [Value.int IntKind.i64 (-7)] 0) < m1 [Value.int IntKind.i64 n2] w5)
      (brB (n1 != 0)
        (R (Ending.returned (Value.bool p2.isNone)) w5)
        (∀ k4 : Nat,
        (w5.heap.size ≤ k4) →
        ∀ w6 : World,
        (Locl ([k4, k1]) w5 w6) →
        Calls P F.grid_Grid_int_Cells #[Value.pointer p2] w6 fun e4 w7 =>
        ∃ p3 : Option Addr,
        ∃ k5 : Nat,
        ∃ k6 : Nat,
        (e4 = Ending.returned (Value.slice p3 k5 k6)) ∧
        (Keep ([k4, k1]) w6 w7) ∧
        ∃ I2 : List Value → World → Prop,
        ∃ m2 : List Value → World → Nat,
        (I2 [Value.int IntKind.i64 0] w7) ∧
        ∀ n3 : Int,
        ∀ w8 : World,
        (I2 [Value.int IntKind.i64 n3] w8) →
        brB (decide (n3 < (↑k5 : Int)))
          (idx (p3) (k5) (n3) (1) fun a2 =>
          (∃ v2 : Value,
            w8.cell? a2 = some v2) ∧
          (w8.frozen? a2 = false) ∧
          (¬a2.block ∈ [k4, k1]) ∧
          (I2 [Value.int IntKind.i64 (IntKind.i64.wrap (n3 + 1))] (setCells w8 a2 [Value.int IntKind.i64 (-8)] 0)) ∧
          m2 [Value.int IntKind.i64 (IntKind.i64.wrap (n3 + 1))] (setCells w8 a2 [Value.int IntKind.i64 (-8)] 0) < m2 [Value.int IntKind.i64 n3] w8)
          (∃ I3 : List Value → World → Prop,
          ∃ m3 : List Value → World → Nat,
          (I3 [Value.slice p3 k5 k6, Value.int IntKind.i64 0] w8) ∧
          ∀ p4 : Option Addr,
          ∀ k7 : Nat,
          ∀ k8 : Nat,
          ∀ n4 : Int,
          ∀ w9 : World,
          (I3 [Value.slice p4 k7 k8, Value.int IntKind.i64 n4] w9) →
          brB (decide (n4 < 20))
            (∀ k9 : Nat,
            (w9.heap.size ≤ k9) →
            ∀ w10 : World,
            (Locl ([k9, k4, k1]) w9 w10) →
            appVC (w10) ([(63, k9, [Value.int IntKind.i64 (-9)]), (7, k4, [Value.int IntKind.i64 x1, Value.int IntKind.i64 x2, Value.slice sa1 sl1 sc1]), (1, k1, [Value.int IntKind.i64 x1, Value.int IntKind.i64 x2, Value.slice sa1 sl1 sc1])]) (p4) (k7) (k8) (1) (1) (8) (3) ([Value.int IntKind.i64 0]) ([Value.int IntKind.i64 (-9)]) fun p5 k10 k11 w11 =>
            (I3 [Value.slice p5 k10 k11, Value.int IntKind.i64 (IntKind.i64.wrap (n4 + 1))] w11) ∧
            m3 [Value.slice p5 k10 k11, Value.int IntKind.i64 (IntKind.i64.wrap (n4 + 1))] w11 < m3 [Value.slice p4 k7 k8, Value.int IntKind.i64 n4] w9)
            (Calls P F.grid_Grid_int_Crop #[Value.pointer p2, Value.int IntKind.i64 0, Value.int IntKind.i64 0, Value.int IntKind.i64 x1, Value.int IntKind.i64 x2] w9 fun e5 w12 =>
            ∃ p6 : Option Addr,
            ∃ n5 : Int,
            (e5 = Ending.returned (Value.tuple #[Value.pointer p6, Value.int IntKind.i64 n5])) ∧
            (Keep ([k4, k1]) w9 w12) ∧
            brB (n5 != 0)
              (R (Ending.returned (Value.bool false)) w12)
              (Calls P F.law07_same #[Value.pointer p2, Value.agg #[Value.int IntKind.i64 x1, Value.int IntKind.i64 x2, Value.slice sa1 sl1 sc1]] w12 fun e6 w13 =>
              ∃ c2 : Bool,
              (e6 = Ending.returned (Value.bool c2)) ∧
              (Keep ([k4, k1]) w12 w13) ∧
              brB (!c2)
                (R (Ending.returned (Value.bool false)) w13)
                (Calls P F.grid_Grid_int_Set #[Value.pointer p6, Value.int IntKind.i64 0, Value.int IntKind.i64 0, Value.int IntKind.i64 5] w13 fun e7 w14 =>
                ∃ c3 : Bool,
                (e7 = Ending.returned (Value.bool c3)) ∧
                (Keep ([k4, k1]) w13 w14) ∧
                Calls P F.law07_same #[Value.pointer p2, Value.agg #[Value.int IntKind.i64 x1, Value.int IntKind.i64 x2, Value.slice sa1 sl1 sc1]] (w14.drew) fun e8 w15 =>
                ∃ c4 : Bool,
                (e8 = Ending.returned (Value.bool c4)) ∧
                (Keep ([k4, k1]) (w14.drew) w15) ∧
                brB (c4)
                  (Calls P F.grid_Grid_int_Cells #[Value.pointer p6] w15 fun e9 w16 =>
                  ∃ p7 : Option Addr,
                  ∃ k12 : Nat,
                  ∃ k13 : Nat,
                  (e9 = Ending.returned (Value.slice p7 k12 k13)) ∧
                  (Keep ([k4, k1]) w15 w16) ∧
                  (Keeps w15 w16) ∧
                  R (Ending.returned (Value.bool ((↑k12 : Int) == (↑sl1 : Int)))) w16)
                  (R (Ending.returned (Value.bool false)) w15))))))))
theorem calls_law07_GridOwn (x1 : Int) (x2 : Int) (sa1 : Option Addr) (sl1 sc1 : Nat) (w : World) (R : Ending → World → Prop) (h : vc_law07_GridOwn x1 x2 sa1 sl1 sc1 w R) : Calls P F.law07_GridOwn #[.agg #[.int .i64 x1, .int .i64 x2, .slice sa1 sl1 sc1]] w R :=
  calls_of_vc (fn := Try.f4) (ac := ac_law07_GridOwn) (args := [.agg #[.int .i64 x1, .int .i64 x2, .slice sa1 sl1 sc1]]) mixed Try.func4 (by kernel_rfl) (cast (by unfold vc_law07_GridOwn FnVc; kernel_rfl) h)
/-- darkroom/darkroomlaw07.GridRows -/
def vc_law07_GridRows (x1 : Int) (x2 : Int) (sa1 : Option Addr) (sl1 sc1 : Nat) (x3 : Int) (w : World) (R : Ending → World → Prop) : Prop :=
  ∀ k1 : Nat,
  (w.heap.size ≤ k1) →
  ∀ k2 : Nat,
  (w.heap.size ≤ k2) →
  ∀ k3 : Nat,
  (w.heap.size ≤ k3) →
  ∀ w1 : World,
  (Locl ([k3, k2, k1]) w w1) →
  Calls P F.law07_wakes #[] w1 fun e1 w2 =>
  ∃ c1 : Bool,
  (e1 = Ending.returned (Value.bool c1)) ∧
  (Keep ([k3, k2, k1]) w1 w2) ∧
  brB (!c1)
    (∀ w3 : World,
    (Locl ([k3, k2, k1]) w2 w3) →
    R (Ending.returned (Value.bool false)) w3)
    (Calls P F.law07_both #[Value.agg #[Value.int IntKind.i64 x1, Value.int IntKind.i64 x2, Value.slice sa1 sl1 sc1]] w2 fun e2 w4 =>
    ∃ p1 : Option Addr,
    ∃ n1 : Int,
    ∃ n2 : Int,
    ∃ p2 : Option Addr,
    ∃ k4 : Nat,
    ∃ k5 : Nat,
    ∃ c2 : Bool,
    ∃ c3 : Bool,
    (e2 = Ending.returned (Value.tuple #[Value.pointer p1, Value.agg #[Value.int IntKind.i64 n1, Value.int IntKind.i64 n2, Value.slice p2 k4 k5], Value.bool c2, Value.bool c3])) ∧
    (Keep ([k3, k2, k1]) w2 w4) ∧
    ∀ k6 : Nat,
    (w4.heap.size ≤ k6) →
    brB (!c2)
      (∀ w5 : World,
      (Locl ([k6, k3, k2, k1]) w4 w5) →
      R (Ending.returned (Value.bool c3)) w5)
      (∀ k7 : Nat,
      (w4.heap.size ≤ k7) →
      ∀ w6 : World,
      (Locl ([k7, k6, k3, k2, k1]) w4 w6) →
      Calls P F.grid_Grid_int_Rows #[Value.pointer p1] w6 fun e3 w7 =>
      ∃ y1 : FuncId,
      ∃ y2 : Array Value,
      ∃ y3 : Array Value,
      (e3 = Ending.returned (Value.func (Fn.func y1) y2 y3)) ∧
      (Keep ([k7, k6, k3, k2, k1]) w6 w7) ∧
      ∀ k8 : Nat,
      ∀ w8 : World,
      (Rf w7 w8 k8) →
      ∀ I1 : List Value → World → Prop,
      ∀ Z1 : Exit → List Value → World → Prop,
      (∀ l1 : List Value,
      ∀ w9 : World,
      ∀ w10 : World,
      (I1 l1 w9) →
      (Keep ([k8, w7.heap.size, k7, k6, k3, k2, k1]) w9 w10) →
      I1 l1 w10) →
      (∀ y4 : Exit,
      ∀ l2 : List Value,
      ∀ w11 : World,
      ∀ w12 : World,
      (Z1 y4 l2 w11) →
      (Keep ([k8, w7.heap.size, k7, k6, k3, k2, k1]) w11 w12) →
      Z1 y4 l2 w12) →
      (I1 [Value.bool false, Value.int IntKind.i64 0] w8) →
      (∀ c4 : Bool,
      ∀ n3 : Int,
      ∀ n4 : Int,
      ∀ p3 : Option Addr,
      ∀ k9 : Nat,
      ∀ k10 : Nat,
      ∀ w13 : World,
      ∀ I2 : Ending → World → Prop,
      (I1 [Value.bool c4, Value.int IntKind.i64 n3] w13) →
      (∀ y5 : Obj,
      ∀ y6 : Obj,
      ∀ w14 : World,
      (Put k8 w13 w14) →
      brB (n4 != n3 || decide (n4 ≥ x2))
        (∀ w15 : World,
        (Locl ([k7, k6, k3, k2, k1]) w14 w15) →
        ∀ w16 : World,
        (Put k8 w15 w16) →
        (Z1 Exit.ret [Value.bool false, Value.int IntKind.i64 n3] w16) →
        I2 (Ending.returned (Value.bool false)) w16)
        (slcc (p2) (k5) (IntKind.i64.wrap (n4 * x1)) (IntKind.i64.wrap (IntKind.i64.wrap (n4 + 1) * x1)) (1) fun p4 k11 k12 =>
        Calls P F.ref01_SameInts #[Value.slice p3 k9 k10, Value.slice p4 k11 k12] w14 fun e4 w17 =>
        ∃ c5 : Bool,
        (e4 = Ending.returned (Value.bool c5)) ∧
        (Keep ([k8, w7.heap.size, k7, k6, k3, k2, k1]) w14 w17) ∧
        brB (!c5)
          (∀ w18 : World,
          (Locl ([k7, k6, k3, k2, k1]) w17 w18) →
          ∀ w19 : World,
          (Put k8 w18 w19) →
          (Z1 Exit.ret [Value.bool false, Value.int IntKind.i64 n3] w19) →
          I2 (Ending.returned (Value.bool false)) w19)
          (∃ I3 : List Value → World → Prop,
          ∃ m1 : List Value → World → Nat,
          (I3 [Value.int IntKind.i64 0] w17) ∧
          ∀ n5 : Int,
          ∀ w20 : World,
          (I3 [Value.int IntKind.i64 n5] w20) →
          brB (decide (n5 < (↑k9 : Int)))
            (idx (p3) (k9) (n5) (1) fun a1 =>
            ∃ n6 : Int,
            (w20.cell? a1 = some (Value.int IntKind.i64 n6)) ∧
            idx (p3) (k9) (n5) (1) fun a2 =>
            (∃ v1 : Value,
              w20.cell? a2 = some v1) ∧
            (w20.frozen? a2 = false) ∧
            (¬a2.block ∈ [k7, k6, k3, k2, k1]) ∧
            (I3 [Value.int IntKind.i64 (IntKind.i64.wrap (n5 + 1))] (setCells w20 a2 [Value.int IntKind.i64 (IntKind.i64.wrap (n6 + 1))] 0)) ∧
            m1 [Value.int IntKind.i64 (IntKind.i64.wrap (n5 + 1))] (setCells w20 a2 [Value.int IntKind.i64 (IntKind.i64.wrap (n6 + 1))] 0) < m1 [Value.int IntKind.i64 n5] w20)
            (brB (IntKind.i64.wrap (n3 + 1) == x3)
              (∀ w21 : World,
              (Locl ([k7, k6, k3, k2, k1]) w20 w21) →
              ∀ w22 : World,
              (Put k8 w21 w22) →
              (Z1 (Exit.exit 0) [Value.bool c4, Value.int IntKind.i64 (IntKind.i64.wrap (n3 + 1))] w22) →
              I2 (Ending.returned (Value.bool false)) w22)
              (∀ w23 : World,
              (Locl ([k7, k6, k3, k2, k1]) w20 w23) →
              ∀ w24 : World,
              (Put k8 w23 w24) →
              (I1 [Value.bool c4, Value.int IntKind.i64 (IntKind.i64.wrap (n3 + 1))] w24) →
              I2 (Ending.returned (Value.bool true)) w24))))) →
      YieldAt Fence.wide 0 P (k8) #[Value.int IntKind.i64 n4, Value.slice p3 k9 k10] (w13) I2) →
      callF P (Value.func (Fn.func y1) y2 y3) [Value.func (Fn.yield k8) #[] #[]] w8 fun e5 w25 =>
      ∃ v2 : Value,
      (e5 = Ending.returned v2) ∧
      ((∃ c6 : Bool,
        ∃ n7 : Int,
        (I1 [Value.bool c6, Value.int IntKind.i64 n7] w25) ∧
        ∀ w26 : World,
        (Put k8 w25 w26) →
        Calls P F.law07_same #[Value.pointer p1, Value.agg #[Value.int IntKind.i64 n1, Value.int IntKind.i64 n2, Value.slice p2 k4 k5]] w26 fun e6 w27 =>
        ∃ c7 : Bool,
        (e6 = Ending.returned (Value.bool c7)) ∧
        (Keep ([w7.heap.size, k7, k6, k3, k2, k1]) w26 w27) ∧
        brB (c7)
          (brB (n7 == x3)
            (∀ w28 : World,
            (Locl ([k7, k6, k3, k2, k1]) w27 w28) →
            ∀ w29 : World,
            (Put (w7.heap.size) w28 w29) →
            R (Ending.returned (Value.bool true)) w29)
            (∀ w30 : World,
            (Locl ([k7, k6, k3, k2, k1]) w27 w30) →
            ∀ w31 : World,
            (Put (w7.heap.size) w30 w31) →
            R (Ending.returned (Value.bool (n7 == x2))) w31))
          (∀ w32 : World,
          (Locl ([k7, k6, k3, k2, k1]) w27 w32) →
          ∀ w33 : World,
          (Put (w7.heap.size) w32 w33) →
          R (Ending.returned (Value.bool false)) w33)) ∨
      (((∃ c8 : Bool,
          ∃ n8 : Int,
          (Z1 Exit.ret [Value.bool c8, Value.int IntKind.i64 n8] w25) ∧
          ∀ w34 : World,
          (Put k8 w25 w34) →
          ∀ w35 : World,
          (Put (w7.heap.size) w34 w35) →
          R (Ending.returned (Value.bool c8)) w35) ∨
        (∃ c9 : Bool,
          ∃ n9 : Int,
          (Z1 (Exit.exit 0) [Value.bool c9, Value.int IntKind.i64 n9] w25) ∧
          ∀ w36 : World,
          (Put k8 w25 w36) →
          Calls P F.law07_same #[Value.pointer p1, Value.agg #[Value.int IntKind.i64 n1, Value.int IntKind.i64 n2, Value.slice p2 k4 k5]] w36 fun e7 w37 =>
          ∃ c10 : Bool,
          (e7 = Ending.returned (Value.bool c10)) ∧
          (Keep ([w7.heap.size, k7, k6, k3, k2, k1]) w36 w37) ∧
          brB (c10)
            (brB (n9 == x3)
              (∀ w38 : World,
              (Locl ([k7, k6, k3, k2, k1]) w37 w38) →
              ∀ w39 : World,
              (Put (w7.heap.size) w38 w39) →
              R (Ending.returned (Value.bool true)) w39)
              (∀ w40 : World,
              (Locl ([k7, k6, k3, k2, k1]) w37 w40) →
              ∀ w41 : World,
              (Put (w7.heap.size) w40 w41) →
              R (Ending.returned (Value.bool (n9 == x2))) w41))
            (∀ w42 : World,
            (Locl ([k7, k6, k3, k2, k1]) w37 w42) →
            ∀ w43 : World,
            (Put (w7.heap.size) w42 w43) →
            R (Ending.returned (Value.bool false)) w43)))))))
theorem calls_law07_GridRows (x1 : Int) (x2 : Int) (sa1 : Option Addr) (sl1 sc1 : Nat) (x3 : Int) (w : World) (R : Ending → World → Prop) (h : vc_law07_GridRows x1 x2 sa1 sl1 sc1 x3 w R) : Calls P F.law07_GridRows #[.agg #[.int .i64 x1, .int .i64 x2, .slice sa1 sl1 sc1], .int .i64 x3] w R :=
  calls_of_vc (fn := Try.f5) (ac := ac_law07_GridRows) (args := [.agg #[.int .i64 x1, .int .i64 x2, .slice sa1 sl1 sc1], .int .i64 x3]) mixed Try.func5 (by kernel_rfl) (cast (by unfold vc_law07_GridRows FnVc; kernel_rfl) h)
/-- darkroom/darkroomlaw07.GridTiles -/
def vc_law07_GridTiles (x1 : Int) (x2 : Int) (x3 : Int) (x4 : Int) (w : World) (R : Ending → World → Prop) : Prop :=
  ∀ k1 : Nat,
  ∀ w1 : World,
  (New w (Obj.cells #[Value.int IntKind.i64 x3, Value.int IntKind.i64 x4] 47) k1 w1) →
  Calls P F.law07_wakes #[] w1 fun e1 w2 =>
  ∃ c1 : Bool,
  (e1 = Ending.returned (Value.bool c1)) ∧
  brB (!c1)
    (R (Ending.returned (Value.bool false)) w2)
    (∀ k2 : Nat,
    (w2.heap.size ≤ k2) →
    ((0 : Int) ≤ 0) ∧
    ((0 : Int) < 2) ∧
    ∀ w3 : World,
    (Locl ([k2]) w2 w3) →
    ∃ n1 : Int,
    (w3.cell? { block := k1, off := 0 } = some (Value.int IntKind.i64 n1)) ∧
    ((0 : Int) ≤ 1) ∧
    ((1 : Int) < 2) ∧
    ∃ n2 : Int,
    (w3.cell? { block := k1, off := 1 } = some (Value.int IntKind.i64 n2)) ∧
    Calls P F.grid_Tiles #[Value.int IntKind.i64 x1, Value.int IntKind.i64 x2, Value.int IntKind.i64 n1, Value.int IntKind.i64 n2] w3 fun e2 w4 =>
    ∃ y1 : FuncId,
    ∃ y2 : Array Value,
    ∃ y3 : Array Value,
    (e2 = Ending.returned (Value.func (Fn.func y1) y2 y3)) ∧
    (Keep ([k2]) w3 w4) ∧
    ∀ k3 : Nat,
    ∀ w5 : World,
    (Rf w4 w5 k3) →
    ∀ I1 : List Value → World → Prop,
    ∀ Z1 : Exit → List Value → World → Prop,
    (∀ l1 : List Value,
    ∀ w6 : World,
    ∀ w7 : World,
    (I1 l1 w6) →
    (Keep ([k3, w4.heap.size, k2]) w6 w7) →
    I1 l1 w7) →
    (∀ y4 : Exit,
    ∀ l2 : List Value,
    ∀ w8 : World,
    ∀ w9 : World,
    (Z1 y4 l2 w8) →
    (Keep ([k3, w4.heap.size, k2]) w8 w9) →
    Z1 y4 l2 w9) →
    (I1 [Value.slice none 0 0] w5) →
    (∀ p1 : Option Addr,
    ∀ k4 : Nat,
    ∀ k5 : Nat,
    ∀ n3 : Int,
    ∀ n4 : Int,
    ∀ n5 : Int,
    ∀ n6 : Int,
    ∀ w10 : World,
    ∀ I2 : Ending → World → Prop,
    (I1 [Value.slice p1 k4 k5] w10) →
    (∀ y5 : Obj,
    ∀ y6 : Obj,
    ∀ k6 : Nat,
    (w10.heap.size ≤ k6) →
    ∀ w11 : World,
    (Locl ([k6, k2]) w10 w11) →
    ∀ w12 : World,
    (Put k3 w11 w12) →
    ∀ k7 : Nat,
    (w12.heap.size ≤ k7) →
    ∀ w13 : World,
    (Locl ([k7, k6, k2]) w12 w13) →
    appVC (w13) ([(23, k7, [Value.int IntKind.i64 n3, Value.int IntKind.i64 n4, Value.int IntKind.i64 n5, Value.int IntKind.i64 n6]), (8, k6, [Value.int IntKind.i64 n3, Value.int IntKind.i64 n4, Value.int IntKind.i64 n5, Value.int IntKind.i64 n6]), (7, k2, [Value.slice p1 k4 k5])]) (p1) (k4) (k5) (1) (4) (32) (53) ([Value.int IntKind.i64 0, Value.int IntKind.i64 0, Value.int IntKind.i64 0, Value.int IntKind.i64 0]) ([Value.int IntKind.i64 n3, Value.int IntKind.i64 n4, Value.int IntKind.i64 n5, Value.int IntKind.i64 n6]) fun p2 k8 k9 w14 =>
    ∀ w15 : World,
    (Locl ([k7, k6, k2]) w14 w15) →
    ∀ w16 : World,
    (Put k3 w15 w16) →
    (I1 [Value.slice p2 k8 k9] w16) →
    I2 (Ending.returned (Value.bool true)) w16) →
    YieldAt Fence.wide 0 P (k3) #[Value.agg #[Value.int IntKind.i64 n3, Value.int IntKind.i64 n4, Value.int IntKind.i64 n5, Value.int IntKind.i64 n6]] (w10) I2) →
    callF P (Value.func (Fn.func y1) y2 y3) [Value.func (Fn.yield k3) #[] #[]] w5 fun e3 w17 =>
    ∃ v1 : Value,
    (e3 = Ending.returned v1) ∧
    ((∃ p3 : Option Addr,
      ∃ k10 : Nat,
      ∃ k11 : Nat,
      (I1 [Value.slice p3 k10 k11] w17) ∧
      ∀ w18 : World,
      (Put k3 w17 w18) →
      ((0 : Int) ≤ 0) ∧
      ((0 : Int) < 2) ∧
      ∃ n7 : Int,
      (w18.drew.cell? { block := k1, off := 0 } = some (Value.int IntKind.i64 n7)) ∧
      ((0 : Int) ≤ 1) ∧
      ((1 : Int) < 2) ∧
      ∃ n8 : Int,
      (w18.drew.cell? { block := k1, off := 1 } = some (Value.int IntKind.i64 n8)) ∧
      Calls P F.ref07_Tiles #[Value.int IntKind.i64 x1, Value.int IntKind.i64 x2, Value.int IntKind.i64 n7, Value.int IntKind.i64 n8] (w18.drew) fun e4 w19 =>
      ∃ p4 : Option Addr,
      ∃ k12 : Nat,
      ∃ k13 : Nat,
      (e4 = Ending.returned (Value.slice p4 k12 k13)) ∧
      (Keep ([w4.heap.size, k2]) (w18.drew) w19) ∧
      (Keeps (w18.drew) w19) ∧
      Calls P F.ref07_SameRects #[Value.slice p3 k10 k11, Value.slice p4 k12 k13] w19 fun e5 w20 =>
      ∃ c2 : Bool,
      (e5 = Ending.returned (Value.bool c2)) ∧
      (Keep ([w4.heap.size, k2]) w19 w20) ∧
      brB (!c2)
        (∀ w21 : World,
        (Put (w4.heap.size) w20 w21) →
        R (Ending.returned (Value.bool false)) w21)
        (∃ I3 : List Value → World → Prop,
        ∃ m1 : List Value → World → Nat,
        (I3 [Value.int IntKind.i64 0, Value.int IntKind.i64 0] w20) ∧
        ∀ n9 : Int,
        ∀ n10 : Int,
        ∀ w22 : World,
        (I3 [Value.int IntKind.i64 n9, Value.int IntKind.i64 n10] w22) →
        brB (decide (n10 < (↑k10 : Int)))
          (idx (p3) (k10) (n10) (4) fun a1 =>
          ∃ n11 : Int,
          (w22.drew.cell? (a1.add 2) = some (Value.int IntKind.i64 n11)) ∧
          idx (p3) (k10) (n10) (4) fun a2 =>
          ∃ n12 : Int,
          (w22.drew.cell? (a2.add 3) = some (Value.int IntKind.i64 n12)) ∧
          (I3 [Value.int IntKind.i64 (IntKind.i64.wrap (n9 + IntKind.i64.wrap (n11 * n12))), Value.int IntKind.i64 (IntKind.i64.wrap (n10 + 1))] w22.drew) ∧
          m1 [Value.int IntKind.i64 (IntKind.i64.wrap (n9 + IntKind.i64.wrap (n11 * n12))), Value.int IntKind.i64 (IntKind.i64.wrap (n10 + 1))] w22.drew < m1 [Value.int IntKind.i64 n9, Value.int IntKind.i64 n10] w22)
          (∀ w23 : World,
          (Put (w4.heap.size) w22 w23) →
          R (Ending.returned (Value.bool ((↑k10 : Int) == 0 || n9 == IntKind.i64.wrap (x1 * x2)))) w23))) ∨
    (False)))
theorem calls_law07_GridTiles (x1 : Int) (x2 : Int) (x3 : Int) (x4 : Int) (w : World) (R : Ending → World → Prop) (h : vc_law07_GridTiles x1 x2 x3 x4 w R) : Calls P F.law07_GridTiles #[.int .i64 x1, .int .i64 x2, .agg #[.int .i64 x3, .int .i64 x4]] w R :=
  calls_of_vc (fn := Try.f6) (ac := ac_law07_GridTiles) (args := [.int .i64 x1, .int .i64 x2, .agg #[.int .i64 x3, .int .i64 x4]]) mixed Try.func6 (by kernel_rfl) (cast (by unfold vc_law07_GridTiles FnVc; kernel_rfl) h)
/-- darkroom/darkroomlaw07.GridMaps -/
def vc_law07_GridMaps (x1 : Int) (x2 : Int) (sa1 : Option Addr) (sl1 sc1 : Nat) (w : World) (R : Ending → World → Prop) : Prop :=
  ∀ k1 : Nat,
  (w.heap.size ≤ k1) →
  ∀ w1 : World,
  (Locl ([k1]) w w1) →
  Calls P F.law07_wakes #[] w1 fun e1 w2 =>
  ∃ c1 : Bool,
  (e1 = Ending.returned (Value.bool c1)) ∧
  (Keep ([k1]) w1 w2) ∧
  brB (!c1)
    (R (Ending.returned (Value.bool false)) w2)
    (Calls P F.law07_both #[Value.agg #[Value.int IntKind.i64 x1, Value.int IntKind.i64 x2, Value.slice sa1 sl1 sc1]] w2 fun e2 w3 =>
    ∃ p1 : Option Addr,
    ∃ n1 : Int,
    ∃ n2 : Int,
    ∃ p2 : Option Addr,
    ∃ k2 : Nat,
    ∃ k3 : Nat,
    ∃ c2 : Bool,
    ∃ c3 : Bool,
    (e2 = Ending.returned (Value.tuple #[Value.pointer p1, Value.agg #[Value.int IntKind.i64 n1, Value.int IntKind.i64 n2, Value.slice p2 k2 k3], Value.bool c2, Value.bool c3])) ∧
    (Keep ([k1]) w2 w3) ∧
    ∀ k4 : Nat,
    (w3.heap.size ≤ k4) →
    brB (!c2)
      (∀ w4 : World,
      (Locl ([k4, k1]) w3 w4) →
      R (Ending.returned (Value.bool c3)) w4)
      (∀ w5 : World,
      (Locl ([k4, k1]) w3 w5) →
      Calls P F.grid_Map_int_string #[Value.pointer p1, Value.func (Fn.func 26) #[] #[]] w5 fun e3 w6 =>
      ∃ p3 : Option Addr,
      (e3 = Ending.returned (Value.pointer p3)) ∧
      (Keep ([k4, k1]) w5 w6) ∧
      brB (p3.isNone)
        (R (Ending.returned (Value.bool false)) w6.drew)
        (Calls P F.grid_Grid_string_W #[Value.pointer p3] (w6.drew) fun e4 w7 =>
        ∃ n3 : Int,
        (e4 = Ending.returned (Value.int IntKind.i64 n3)) ∧
        (Keep ([k4, k1]) (w6.drew) w7) ∧
        (Keeps (w6.drew) w7) ∧
        brB (n3 != x1)
          (R (Ending.returned (Value.bool false)) w7)
          (Calls P F.grid_Grid_string_H #[Value.pointer p3] w7 fun e5 w8 =>
          ∃ n4 : Int,
          (e5 = Ending.returned (Value.int IntKind.i64 n4)) ∧
          (Keep ([k4, k1]) w7 w8) ∧
          (Keeps w7 w8) ∧
          brB (n4 != x2)
            (R (Ending.returned (Value.bool false)) w8)
            (Calls P F.grid_Grid_string_Cells #[Value.pointer p3] w8 fun e6 w9 =>
            ∃ p4 : Option Addr,
            ∃ k5 : Nat,
            ∃ k6 : Nat,
            (e6 = Ending.returned (Value.slice p4 k5 k6)) ∧
            (Keep ([k4, k1]) w8 w9) ∧
            brB ((↑k5 : Int) != (↑k2 : Int))
              (R (Ending.returned (Value.bool false)) w9)
              (∃ I1 : List Value → World → Prop,
              ∃ m1 : List Value → World → Nat,
              (I1 [Value.int IntKind.i64 0] w9) ∧
              ∀ n5 : Int,
              ∀ w10 : World,
              (I1 [Value.int IntKind.i64 n5] w10) →
              brB (decide (n5 < (↑k5 : Int)))
                (idx (p4) (k5) (n5) (1) fun a1 =>
                ∃ s1 : ByteArray,
                (w10.drew.cell? a1 = some (Value.string s1)) ∧
                idx (p2) (k2) (n5) (1) fun a2 =>
                ∃ n6 : Int,
                (w10.drew.cell? a2 = some (Value.int IntKind.i64 n6)) ∧
                Calls P F.law07_twice #[Value.int IntKind.i64 n6] (w10.drew) fun e7 w11 =>
                ∃ s2 : ByteArray,
                (e7 = Ending.returned (Value.string s2)) ∧
                (Keep ([k4, k1]) (w10.drew) w11) ∧
                (Keeps (w10.drew) w11) ∧
                brB (!decide (s1 = s2))
                  (R (Ending.returned (Value.bool false)) w11)
                  ((I1 [Value.int IntKind.i64 (IntKind.i64.wrap (n5 + 1))] w11) ∧
                  m1 [Value.int IntKind.i64 (IntKind.i64.wrap (n5 + 1))] w11 < m1 [Value.int IntKind.i64 n5] w10))
                (Calls P F.law07_same #[Value.pointer p1, Value.agg #[Value.int IntKind.i64 n1, Value.int IntKind.i64 n2, Value.slice p2 k2 k3]] w10 fun e8 w12 =>
                ∃ c4 : Bool,
                (e8 = Ending.returned (Value.bool c4)) ∧
                (Keep ([k4, k1]) w10 w12) ∧
                R (Ending.returned (Value.bool c4)) w12)))))))
theorem calls_law07_GridMaps (x1 : Int) (x2 : Int) (sa1 : Option Addr) (sl1 sc1 : Nat) (w : World) (R : Ending → World → Prop) (h : vc_law07_GridMaps x1 x2 sa1 sl1 sc1 w R) : Calls P F.law07_GridMaps #[.agg #[.int .i64 x1, .int .i64 x2, .slice sa1 sl1 sc1]] w R :=
  calls_of_vc (fn := Try.f7) (ac := ac_law07_GridMaps) (args := [.agg #[.int .i64 x1, .int .i64 x2, .slice sa1 sl1 sc1]]) mixed Try.func7 (by kernel_rfl) (cast (by unfold vc_law07_GridMaps FnVc; kernel_rfl) h)
/-- darkroom/darkroomlaw07.GridParts -/
def vc_law07_GridParts (x1 : Int) (x2 : Int) (sa1 : Option Addr) (sl1 sc1 : Nat) (x3 : Int) (x4 : Int) (sa2 : Option Addr) (sl2 sc2 : Nat) (x5 : Int) (x6 : Int) (x7 : Int) (x8 : Int) (w : World) (R : Ending → World → Prop) : Prop :=
  ∀ k1 : Nat,
  (w.heap.size ≤ k1) →
  ∀ k2 : Nat,
  (w.heap.size ≤ k2) →
  ∀ k3 : Nat,
  (w.heap.size ≤ k3) →
  ∀ w1 : World,
  (Locl ([k3, k2, k1]) w w1) →
  Calls P F.law07_wakes #[] w1 fun e1 w2 =>
  ∃ c1 : Bool,
  (e1 = Ending.returned (Value.bool c1)) ∧
  (Keep ([k3, k2, k1]) w1 w2) ∧
  brB (!c1)
    (R (Ending.returned (Value.bool false)) w2)
    (Calls P F.law07_both #[Value.agg #[Value.int IntKind.i64 x1, Value.int IntKind.i64 x2, Value.slice sa1 sl1 sc1]] w2 fun e2 w3 =>
    ∃ p1 : Option Addr,
    ∃ n1 : Int,
    ∃ n2 : Int,
    ∃ p2 : Option Addr,
    ∃ k4 : Nat,
    ∃ k5 : Nat,
    ∃ c2 : Bool,
    ∃ c3 : Bool,
    (e2 = Ending.returned (Value.tuple #[Value.pointer p1, Value.agg #[Value.int IntKind.i64 n1, Value.int IntKind.i64 n2, Value.slice p2 k4 k5], Value.bool c2, Value.bool c3])) ∧
    (Keep ([k3, k2, k1]) w2 w3) ∧
    ∀ k6 : Nat,
    (w3.heap.size ≤ k6) →
    brB (!c2)
      (∀ w4 : World,
      (Locl ([k6, k3, k2, k1]) w3 w4) →
      R (Ending.returned (Value.bool c3)) w4)
      (∀ w5 : World,
      (Locl ([k6, k3, k2, k1]) w3 w5) →
      Calls P F.grid_Grid_int_Crop #[Value.pointer p1, Value.int IntKind.i64 x5, Value.int IntKind.i64 x6, Value.int IntKind.i64 x7, Value.int IntKind.i64 x8] w5 fun e3 w6 =>
      ∃ p3 : Option Addr,
      ∃ n3 : Int,
      (e3 = Ending.returned (Value.tuple #[Value.pointer p3, Value.int IntKind.i64 n3])) ∧
      (Keep ([k6, k3, k2, k1]) w5 w6) ∧
      Calls P F.ref07_Crop #[Value.agg #[Value.int IntKind.i64 n1, Value.int IntKind.i64 n2, Value.slice p2 k4 k5], Value.int IntKind.i64 x5, Value.int IntKind.i64 x6, Value.int IntKind.i64 x7, Value.int IntKind.i64 x8] w6 fun e4 w7 =>
      ∃ n4 : Int,
      ∃ n5 : Int,
      ∃ p4 : Option Addr,
      ∃ k7 : Nat,
      ∃ k8 : Nat,
      ∃ n6 : Int,
      (e4 = Ending.returned (Value.tuple #[Value.agg #[Value.int IntKind.i64 n4, Value.int IntKind.i64 n5, Value.slice p4 k7 k8], Value.int IntKind.i64 n6])) ∧
      (Keep ([k6, k3, k2, k1]) w6 w7) ∧
      ∀ k9 : Nat,
      (w7.heap.size ≤ k9) →
      ∃ I1 : List Value → World → Prop,
      (brB (n3 != n6 || !p3.isNone == (n6 != 0))
          (∀ w8 : World,
          (Locl ([k9, k6, k3, k2, k1]) w7 w8) →
          R (Ending.returned (Value.bool false)) w8)
          (brB (!p3.isNone)
            (∀ w9 : World,
            (Locl ([k9, k6, k3, k2, k1]) w7 w9) →
            Calls P F.law07_same #[Value.pointer p3, Value.agg #[Value.int IntKind.i64 n4, Value.int IntKind.i64 n5, Value.slice p4 k7 k8]] w9 fun e5 w10 =>
            ∃ c4 : Bool,
            (e5 = Ending.returned (Value.bool c4)) ∧
            (Keep ([k9, k6, k3, k2, k1]) w9 w10) ∧
            brB (!c4)
              (R (Ending.returned (Value.bool false)) w10)
              (I1 [] w10))
            (∀ w11 : World,
            (Locl ([k9, k6, k3, k2, k1]) w7 w11) →
            I1 [] w11))) ∧
      ∀ w12 : World,
      (I1 [] w12) →
      Calls P F.law07_both #[Value.agg #[Value.int IntKind.i64 x3, Value.int IntKind.i64 x4, Value.slice sa2 sl2 sc2]] w12 fun e6 w13 =>
      ∃ p5 : Option Addr,
      ∃ n7 : Int,
      ∃ n8 : Int,
      ∃ p6 : Option Addr,
      ∃ k10 : Nat,
      ∃ k11 : Nat,
      ∃ c5 : Bool,
      ∃ c6 : Bool,
      (e6 = Ending.returned (Value.tuple #[Value.pointer p5, Value.agg #[Value.int IntKind.i64 n7, Value.int IntKind.i64 n8, Value.slice p6 k10 k11], Value.bool c5, Value.bool c6])) ∧
      (Keep ([k9, k6, k3, k2, k1]) w12 w13) ∧
      ∀ k12 : Nat,
      (w13.heap.size ≤ k12) →
      brB (!c5)
        (brB (c6)
          (∀ w14 : World,
          (Locl ([k12, k9, k6, k3, k2, k1]) w13 w14) →
          Calls P F.grid_Grid_int_Paste #[Value.pointer p1, Value.int IntKind.i64 0, Value.int IntKind.i64 0, Value.pointer none] w14 fun e7 w15 =>
          ∃ n9 : Int,
          (e7 = Ending.returned (Value.int IntKind.i64 n9)) ∧
          (Keep ([k12, k9, k6, k3, k2, k1]) w14 w15) ∧
          R (Ending.returned (Value.bool (n9 == 1))) w15)
          (∀ w16 : World,
          (Locl ([k12, k9, k6, k3, k2, k1]) w13 w16) →
          R (Ending.returned (Value.bool false)) w16))
        (∀ w17 : World,
        (Locl ([k12, k9, k6, k3, k2, k1]) w13 w17) →
        Calls P F.grid_Grid_int_Paste #[Value.pointer p1, Value.int IntKind.i64 x5, Value.int IntKind.i64 x6, Value.pointer p5] w17 fun e8 w18 =>
        ∃ n10 : Int,
        (e8 = Ending.returned (Value.int IntKind.i64 n10)) ∧
        (Keep ([k12, k9, k6, k3, k2, k1]) w17 w18) ∧
        Calls P F.ref07_Paste #[Value.agg #[Value.int IntKind.i64 n1, Value.int IntKind.i64 n2, Value.slice p2 k4 k5], Value.int IntKind.i64 x5, Value.int IntKind.i64 x6, Value.agg #[Value.int IntKind.i64 n7, Value.int IntKind.i64 n8, Value.slice p6 k10 k11]] w18 fun e9 w19 =>
        ∃ n11 : Int,
        ∃ n12 : Int,
        ∃ p7 : Option Addr,
        ∃ k13 : Nat,
        ∃ k14 : Nat,
        ∃ n13 : Int,
        (e9 = Ending.returned (Value.tuple #[Value.agg #[Value.int IntKind.i64 n11, Value.int IntKind.i64 n12, Value.slice p7 k13 k14], Value.int IntKind.i64 n13])) ∧
        (Keep ([k12, k9, k6, k3, k2, k1]) w18 w19) ∧
        brB (n10 != n13)
          (∀ w20 : World,
          (Locl ([k12, k9, k6, k3, k2, k1]) w19 w20) →
          R (Ending.returned (Value.bool false)) w20)
          (∀ w21 : World,
          (Locl ([k12, k9, k6, k3, k2, k1]) w19 w21) →
          Calls P F.law07_same #[Value.pointer p1, Value.agg #[Value.int IntKind.i64 n11, Value.int IntKind.i64 n12, Value.slice p7 k13 k14]] w21 fun e10 w22 =>
          ∃ c7 : Bool,
          (e10 = Ending.returned (Value.bool c7)) ∧
          (Keep ([k12, k9, k6, k3, k2, k1]) w21 w22) ∧
          brB (!c7)
            (R (Ending.returned (Value.bool false)) w22)
            (Calls P F.law07_same #[Value.pointer p5, Value.agg #[Value.int IntKind.i64 n7, Value.int IntKind.i64 n8, Value.slice p6 k10 k11]] w22 fun e11 w23 =>
            ∃ c8 : Bool,
            (e11 = Ending.returned (Value.bool c8)) ∧
            (Keep ([k12, k9, k6, k3, k2, k1]) w22 w23) ∧
            brB (!c8)
              (R (Ending.returned (Value.bool false)) w23)
              (Calls P F.grid_Grid_int_Paste #[Value.pointer p1, Value.int IntKind.i64 0, Value.int IntKind.i64 0, Value.pointer p1] w23 fun e12 w24 =>
              ∃ n14 : Int,
              (e12 = Ending.returned (Value.int IntKind.i64 n14)) ∧
              (Keep ([k12, k9, k6, k3, k2, k1]) w23 w24) ∧
              brB (n14 == 0)
                (Calls P F.law07_same #[Value.pointer p1, Value.agg #[Value.int IntKind.i64 n11, Value.int IntKind.i64 n12, Value.slice p7 k13 k14]] w24 fun e13 w25 =>
                ∃ c9 : Bool,
                (e13 = Ending.returned (Value.bool c9)) ∧
                (Keep ([k12, k9, k6, k3, k2, k1]) w24 w25) ∧
                R (Ending.returned (Value.bool c9)) w25)
                (R (Ending.returned (Value.bool false)) w24)))))))
theorem calls_law07_GridParts (x1 : Int) (x2 : Int) (sa1 : Option Addr) (sl1 sc1 : Nat) (x3 : Int) (x4 : Int) (sa2 : Option Addr) (sl2 sc2 : Nat) (x5 : Int) (x6 : Int) (x7 : Int) (x8 : Int) (w : World) (R : Ending → World → Prop) (h : vc_law07_GridParts x1 x2 sa1 sl1 sc1 x3 x4 sa2 sl2 sc2 x5 x6 x7 x8 w R) : Calls P F.law07_GridParts #[.agg #[.int .i64 x1, .int .i64 x2, .slice sa1 sl1 sc1], .agg #[.int .i64 x3, .int .i64 x4, .slice sa2 sl2 sc2], .agg #[.int .i64 x5, .int .i64 x6, .int .i64 x7, .int .i64 x8]] w R :=
  calls_of_vc (fn := Try.f8) (ac := ac_law07_GridParts) (args := [.agg #[.int .i64 x1, .int .i64 x2, .slice sa1 sl1 sc1], .agg #[.int .i64 x3, .int .i64 x4, .slice sa2 sl2 sc2], .agg #[.int .i64 x5, .int .i64 x6, .int .i64 x7, .int .i64 x8]]) mixed Try.func8 (by kernel_rfl) (cast (by unfold vc_law07_GridParts FnVc; kernel_rfl) h)
/-- darkroom/darkroomlaw07.GridAll -/
def vc_law07_GridAll (x1 : Int) (x2 : Int) (sa1 : Option Addr) (sl1 sc1 : Nat) (x3 : Int) (w : World) (R : Ending → World → Prop) : Prop :=
  ∀ k1 : Nat,
  (w.heap.size ≤ k1) →
  ∀ k2 : Nat,
  (w.heap.size ≤ k2) →
  ∀ k3 : Nat,
  (w.heap.size ≤ k3) →
  ∀ w1 : World,
  (Locl ([k3, k2, k1]) w w1) →
  Calls P F.law07_wakes #[] w1 fun e1 w2 =>
  ∃ c1 : Bool,
  (e1 = Ending.returned (Value.bool c1)) ∧
  (Keep ([k3, k2, k1]) w1 w2) ∧
  brB (!c1)
    (∀ w3 : World,
    (Locl ([k3, k2, k1]) w2 w3) →
    R (Ending.returned (Value.bool false)) w3)
    (Calls P F.law07_both #[Value.agg #[Value.int IntKind.i64 x1, Value.int IntKind.i64 x2, Value.slice sa1 sl1 sc1]] w2 fun e2 w4 =>
    ∃ p1 : Option Addr,
    ∃ n1 : Int,
    ∃ n2 : Int,
    ∃ p2 : Option Addr,
    ∃ k4 : Nat,
    ∃ k5 : Nat,
    ∃ c2 : Bool,
    ∃ c3 : Bool,
    (e2 = Ending.returned (Value.tuple #[Value.pointer p1, Value.agg #[Value.int IntKind.i64 n1, Value.int IntKind.i64 n2, Value.slice p2 k4 k5], Value.bool c2, Value.bool c3])) ∧
    (Keep ([k3, k2, k1]) w2 w4) ∧
    ∀ k6 : Nat,
    (w4.heap.size ≤ k6) →
    ∀ k7 : Nat,
    (w4.heap.size ≤ k7) →
    brB (!c2)
      (∀ w5 : World,
      (Locl ([k7, k6, k3, k2, k1]) w4 w5) →
      R (Ending.returned (Value.bool c3)) w5)
      (∀ k8 : Nat,
      (w4.heap.size ≤ k8) →
      ∀ w6 : World,
      (Locl ([k8, k7, k6, k3, k2, k1]) w4 w6) →
      Calls P F.grid_Grid_int_All #[Value.pointer p1] w6 fun e3 w7 =>
      ∃ y1 : FuncId,
      ∃ y2 : Array Value,
      ∃ y3 : Array Value,
      (e3 = Ending.returned (Value.func (Fn.func y1) y2 y3)) ∧
      (Keep ([k8, k7, k6, k3, k2, k1]) w6 w7) ∧
      ∀ k9 : Nat,
      ∀ w8 : World,
      (Rf w7 w8 k9) →
      ∀ I1 : List Value → World → Prop,
      ∀ Z1 : Exit → List Value → World → Prop,
      (∀ l1 : List Value,
      ∀ w9 : World,
      ∀ w10 : World,
      (I1 l1 w9) →
      (Keep ([k9, w7.heap.size, k8, k7, k6, k3, k2, k1]) w9 w10) →
      I1 l1 w10) →
      (∀ y4 : Exit,
      ∀ l2 : List Value,
      ∀ w11 : World,
      ∀ w12 : World,
      (Z1 y4 l2 w11) →
      (Keep ([k9, w7.heap.size, k8, k7, k6, k3, k2, k1]) w11 w12) →
      Z1 y4 l2 w12) →
      (I1 [Value.bool false, Value.int IntKind.i64 0] w8) →
      (∀ c4 : Bool,
      ∀ n3 : Int,
      ∀ n4 : Int,
      ∀ n5 : Int,
      ∀ n6 : Int,
      ∀ w13 : World,
      ∀ I2 : Ending → World → Prop,
      (I1 [Value.bool c4, Value.int IntKind.i64 n3] w13) →
      (∀ y5 : Obj,
      ∀ y6 : Obj,
      ∀ k10 : Nat,
      (w13.heap.size ≤ k10) →
      ∀ w14 : World,
      (Locl ([k10, k8, k7, k6, k3, k2, k1]) w13 w14) →
      ∀ w15 : World,
      (Put k9 w14 w15) →
      brB (decide (n3 ≥ (↑k4 : Int)))
        (∀ w16 : World,
        (Locl ([k10, k8, k7, k6, k3, k2, k1]) (w15.drew) w16) →
        ∀ w17 : World,
        (Put k9 w16 w17) →
        (Z1 Exit.ret [Value.bool false, Value.int IntKind.i64 n3] w17) →
        I2 (Ending.returned (Value.bool false)) w17)
        ((x1 ≠ 0) ∧
        brB (n4 != divZ BinOp.rem IntKind.i64 n3 x1)
          (∀ w18 : World,
          (Locl ([k10, k8, k7, k6, k3, k2, k1]) (w15.drew) w18) →
          ∀ w19 : World,
          (Put k9 w18 w19) →
          (Z1 Exit.ret [Value.bool false, Value.int IntKind.i64 n3] w19) →
          I2 (Ending.returned (Value.bool false)) w19)
          ((x1 ≠ 0) ∧
          brB (n5 != divZ BinOp.quo IntKind.i64 n3 x1)
            (∀ w20 : World,
            (Locl ([k10, k8, k7, k6, k3, k2, k1]) (w15.drew) w20) →
            ∀ w21 : World,
            (Put k9 w20 w21) →
            (Z1 Exit.ret [Value.bool false, Value.int IntKind.i64 n3] w21) →
            I2 (Ending.returned (Value.bool false)) w21)
            (idx (p2) (k4) (n3) (1) fun a1 =>
            ∃ n7 : Int,
            (w15.drew.cell? a1 = some (Value.int IntKind.i64 n7)) ∧
            brB (n6 != n7)
              (∀ w22 : World,
              (Locl ([k10, k8, k7, k6, k3, k2, k1]) (w15.drew) w22) →
              ∀ w23 : World,
              (Put k9 w22 w23) →
              (Z1 Exit.ret [Value.bool false, Value.int IntKind.i64 n3] w23) →
              I2 (Ending.returned (Value.bool false)) w23)
              (Calls P F.grid_Grid_int_Set #[Value.pointer p1, Value.int IntKind.i64 n4, Value.int IntKind.i64 n5, Value.int IntKind.i64 (IntKind.i64.wrap (0 - n6))] (w15.drew) fun e4 w24 =>
              ∃ c5 : Bool,
              (e4 = Ending.returned (Value.bool c5)) ∧
              (Keep ([k9, w7.heap.size, k10, k8, k7, k6, k3, k2, k1]) (w15.drew) w24) ∧
              brB (IntKind.i64.wrap (n3 + 1) == x3)
                (∀ w25 : World,
                (Locl ([k10, k8, k7, k6, k3, k2, k1]) w24 w25) →
                ∀ w26 : World,
                (Put k9 w25 w26) →
                (Z1 (Exit.exit 0) [Value.bool c4, Value.int IntKind.i64 (IntKind.i64.wrap (n3 + 1))] w26) →
                I2 (Ending.returned (Value.bool false)) w26)
                (∀ w27 : World,
                (Locl ([k10, k8, k7, k6, k3, k2, k1]) w24 w27) →
                ∀ w28 : World,
                (Put k9 w27 w28) →
                (I1 [Value.bool c4, Value.int IntKind.i64 (IntKind.i64.wrap (n3 + 1))] w28) →
                I2 (Ending.returned (Value.bool true)) w28)))))) →
      YieldAt Fence.wide 0 P (k9) #[Value.agg #[Value.int IntKind.i64 n4, Value.int IntKind.i64 n5], Value.int IntKind.i64 n6] (w13) I2) →
      callF P (Value.func (Fn.func y1) y2 y3) [Value.func (Fn.yield k9) #[] #[]] w8 fun e5 w29 =>
      ∃ v1 : Value,
      (e5 = Ending.returned v1) ∧
      ((∃ c6 : Bool,
        ∃ n8 : Int,
        (I1 [Value.bool c6, Value.int IntKind.i64 n8] w29) ∧
        ∀ w30 : World,
        (Put k9 w29 w30) →
        Calls P F.law07_own #[Value.slice p2 k4 k5] w30 fun e6 w31 =>
        ∃ p3 : Option Addr,
        ∃ k11 : Nat,
        ∃ k12 : Nat,
        (e6 = Ending.returned (Value.slice p3 k11 k12)) ∧
        (Keep ([w7.heap.size, k8, k7, k6, k3, k2, k1]) w30 w31) ∧
        ∃ I3 : List Value → World → Prop,
        ∃ m1 : List Value → World → Nat,
        (∀ w32 : World,
          (Locl ([k8, k7, k6, k3, k2, k1]) w31 w32) →
          I3 [Value.int IntKind.i64 0] w32) ∧
        ∀ n9 : Int,
        ∀ w33 : World,
        (I3 [Value.int IntKind.i64 n9] w33) →
        brB (decide (n9 < n8))
          (idx (p3) (k11) (n9) (1) fun a2 =>
          ∃ n10 : Int,
          (w33.drew.cell? a2 = some (Value.int IntKind.i64 n10)) ∧
          idx (p3) (k11) (n9) (1) fun a3 =>
          (∃ v2 : Value,
            w33.drew.cell? a3 = some v2) ∧
          (w33.drew.frozen? a3 = false) ∧
          (¬a3.block ∈ [k8, k7, k6, k3, k2, k1]) ∧
          (I3 [Value.int IntKind.i64 (IntKind.i64.wrap (n9 + 1))] (setCells w33.drew a3 [Value.int IntKind.i64 (IntKind.i64.wrap (0 - n10))] 0)) ∧
          m1 [Value.int IntKind.i64 (IntKind.i64.wrap (n9 + 1))] (setCells w33.drew a3 [Value.int IntKind.i64 (IntKind.i64.wrap (0 - n10))] 0) < m1 [Value.int IntKind.i64 n9] w33)
          (Calls P F.law07_same #[Value.pointer p1, Value.agg #[Value.int IntKind.i64 n1, Value.int IntKind.i64 n2, Value.slice p3 k11 k12]] w33 fun e7 w34 =>
          ∃ c7 : Bool,
          (e7 = Ending.returned (Value.bool c7)) ∧
          (Keep ([w7.heap.size, k8, k7, k6, k3, k2, k1]) w33 w34) ∧
          brB (c7)
            (brB (n8 == x3)
              (∀ w35 : World,
              (Locl ([k8, k7, k6, k3, k2, k1]) w34 w35) →
              ∀ w36 : World,
              (Put (w7.heap.size) w35 w36) →
              R (Ending.returned (Value.bool true)) w36)
              (∀ w37 : World,
              (Locl ([k8, k7, k6, k3, k2, k1]) w34 w37) →
              ∀ w38 : World,
              (Put (w7.heap.size) w37 w38) →
              R (Ending.returned (Value.bool (n8 == IntKind.i64.wrap (x1 * x2)))) w38))
            (∀ w39 : World,
            (Locl ([k8, k7, k6, k3, k2, k1]) w34 w39) →
            ∀ w40 : World,
            (Put (w7.heap.size) w39 w40) →
            R (Ending.returned (Value.bool false)) w40))) ∨
      (((∃ c8 : Bool,
          ∃ n11 : Int,
          (Z1 Exit.ret [Value.bool c8, Value.int IntKind.i64 n11] w29) ∧
          ∀ w41 : World,
          (Put k9 w29 w41) →
          ∀ w42 : World,
          (Put (w7.heap.size) w41 w42) →
          R (Ending.returned (Value.bool c8)) w42) ∨
        (∃ c9 : Bool,
          ∃ n12 : Int,
          (Z1 (Exit.exit 0) [Value.bool c9, Value.int IntKind.i64 n12] w29) ∧
          ∀ w43 : World,
          (Put k9 w29 w43) →
          Calls P F.law07_own #[Value.slice p2 k4 k5] w43 fun e8 w44 =>
          ∃ p4 : Option Addr,
          ∃ k13 : Nat,
          ∃ k14 : Nat,
          (e8 = Ending.returned (Value.slice p4 k13 k14)) ∧
          (Keep ([w7.heap.size, k8, k7, k6, k3, k2, k1]) w43 w44) ∧
          ∃ I4 : List Value → World → Prop,
          ∃ m2 : List Value → World → Nat,
          (∀ w45 : World,
            (Locl ([k8, k7, k6, k3, k2, k1]) w44 w45) →
            I4 [Value.int IntKind.i64 0] w45) ∧
          ∀ n13 : Int,
          ∀ w46 : World,
          (I4 [Value.int IntKind.i64 n13] w46) →
          brB (decide (n13 < n12))
            (idx (p4) (k13) (n13) (1) fun a4 =>
            ∃ n14 : Int,
            (w46.drew.cell? a4 = some (Value.int IntKind.i64 n14)) ∧
            idx (p4) (k13) (n13) (1) fun a5 =>
            (∃ v3 : Value,
              w46.drew.cell? a5 = some v3) ∧
            (w46.drew.frozen? a5 = false) ∧
            (¬a5.block ∈ [k8, k7, k6, k3, k2, k1]) ∧
            (I4 [Value.int IntKind.i64 (IntKind.i64.wrap (n13 + 1))] (setCells w46.drew a5 [Value.int IntKind.i64 (IntKind.i64.wrap (0 - n14))] 0)) ∧
            m2 [Value.int IntKind.i64 (IntKind.i64.wrap (n13 + 1))] (setCells w46.drew a5 [Value.int IntKind.i64 (IntKind.i64.wrap (0 - n14))] 0) < m2 [Value.int IntKind.i64 n13] w46)
            (Calls P F.law07_same #[Value.pointer p1, Value.agg #[Value.int IntKind.i64 n1, Value.int IntKind.i64 n2, Value.slice p4 k13 k14]] w46 fun e9 w47 =>
            ∃ c10 : Bool,
            (e9 = Ending.returned (Value.bool c10)) ∧
            (Keep ([w7.heap.size, k8, k7, k6, k3, k2, k1]) w46 w47) ∧
            brB (c10)
              (brB (n12 == x3)
                (∀ w48 : World,
                (Locl ([k8, k7, k6, k3, k2, k1]) w47 w48) →
                ∀ w49 : World,
                (Put (w7.heap.size) w48 w49) →
                R (Ending.returned (Value.bool true)) w49)
                (∀ w50 : World,
                (Locl ([k8, k7, k6, k3, k2, k1]) w47 w50) →
                ∀ w51 : World,
                (Put (w7.heap.size) w50 w51) →
                R (Ending.returned (Value.bool (n12 == IntKind.i64.wrap (x1 * x2)))) w51))
              (∀ w52 : World,
              (Locl ([k8, k7, k6, k3, k2, k1]) w47 w52) →
              ∀ w53 : World,
              (Put (w7.heap.size) w52 w53) →
              R (Ending.returned (Value.bool false)) w53))))))))
theorem calls_law07_GridAll (x1 : Int) (x2 : Int) (sa1 : Option Addr) (sl1 sc1 : Nat) (x3 : Int) (w : World) (R : Ending → World → Prop) (h : vc_law07_GridAll x1 x2 sa1 sl1 sc1 x3 w R) : Calls P F.law07_GridAll #[.agg #[.int .i64 x1, .int .i64 x2, .slice sa1 sl1 sc1], .int .i64 x3] w R :=
  calls_of_vc (fn := Try.f9) (ac := ac_law07_GridAll) (args := [.agg #[.int .i64 x1, .int .i64 x2, .slice sa1 sl1 sc1], .int .i64 x3]) mixed Try.func9 (by kernel_rfl) (cast (by unfold vc_law07_GridAll FnVc; kernel_rfl) h)
/-- darkroom/darkroomlaw07.GridNil -/
def vc_law07_GridNil (x1 : Int) (x2 : Int) (w : World) (R : Ending → World → Prop) : Prop :=
  Calls P F.law07_wakes #[] w fun e1 w1 =>
  ∃ c1 : Bool,
  (e1 = Ending.returned (Value.bool c1)) ∧
  brB (!c1)
    (R (Ending.returned (Value.bool false)) w1)
    (Calls P F.grid_Grid_string_At #[Value.pointer none, Value.int IntKind.i64 x1, Value.int IntKind.i64 x2] w1 fun e2 w2 =>
    ∃ s1 : ByteArray,
    ∃ c2 : Bool,
    (e2 = Ending.returned (Value.tuple #[Value.string s1, Value.bool c2])) ∧
    Calls P F.grid_Grid_string_Crop #[Value.pointer none, Value.int IntKind.i64 0, Value.int IntKind.i64 0, Value.int IntKind.i64 1, Value.int IntKind.i64 1] w2 fun e3 w3 =>
    ∃ p1 : Option Addr,
    ∃ n1 : Int,
    (e3 = Ending.returned (Value.tuple #[Value.pointer p1, Value.int IntKind.i64 n1])) ∧
    ∀ k1 : Nat,
    (w3.heap.size ≤ k1) →
    ∀ w4 : World,
    (Locl ([k1]) w3 w4) →
    Calls P F.grid_Grid_string_Rows #[Value.pointer none] w4 fun e4 w5 =>
    ∃ y1 : FuncId,
    ∃ y2 : Array Value,
    ∃ y3 : Array Value,
    (e4 = Ending.returned (Value.func (Fn.func y1) y2 y3)) ∧
    (Keep ([k1]) w4 w5) ∧
    ∀ k2 : Nat,
    ∀ w6 : World,
    (Rf w5 w6 k2) →
    ∀ I1 : List Value → World → Prop,
    ∀ Z1 : Exit → List Value → World → Prop,
    (∀ l1 : List Value,
    ∀ w7 : World,
    ∀ w8 : World,
    (I1 l1 w7) →
    (Keep ([k2, w5.heap.size, k1]) w7 w8) →
    I1 l1 w8) →
    (∀ y4 : Exit,
    ∀ l2 : List Value,
    ∀ w9 : World,
    ∀ w10 : World,
    (Z1 y4 l2 w9) →
    (Keep ([k2, w5.heap.size, k1]) w9 w10) →
    Z1 y4 l2 w10) →
    (I1 [Value.int IntKind.i64 0] w6) →
    (∀ n2 : Int,
    ∀ n3 : Int,
    ∀ p2 : Option Addr,
    ∀ k3 : Nat,
    ∀ k4 : Nat,
    ∀ w11 : World,
    ∀ I2 : Ending → World → Prop,
    (I1 [Value.int IntKind.i64 n2] w11) →
    (∀ y5 : Obj,
    ∀ y6 : Obj,
    ∀ w12 : World,
    (Put k2 w11 w12) →
    ∀ w13 : World,
    (Locl ([k1]) w12 w13) →
    ∀ w14 : World,
    (Put k2 w13 w14) →
    (I1 [Value.int IntKind.i64 (IntKind.i64.wrap (n2 + 1))] w14) →
    I2 (Ending.returned (Value.bool true)) w14) →
    YieldAt Fence.wide 0 P (k2) #[Value.int IntKind.i64 n3, Value.slice p2 k3 k4] (w11) I2) →
    callF P (Value.func (Fn.func y1) y2 y3) [Value.func (Fn.yield k2) #[] #[]] w6 fun e5 w15 =>
    ∃ v1 : Value,
    (e5 = Ending.returned v1) ∧
    ((∃ n4 : Int,
      (I1 [Value.int IntKind.i64 n4] w15) ∧
      ∀ w16 : World,
      (Put k2 w15 w16) →
      brB (decide (s1 = { data := #[] }) && !c2)
        (Calls P F.grid_Grid_string_Set #[Value.pointer none, Value.int IntKind.i64 x1, Value.int IntKind.i64 x2, Value.string { data := #[97] }] (w16.drew) fun e6 w17 =>
        ∃ c3 : Bool,
        (e6 = Ending.returned (Value.bool c3)) ∧
        (Keep ([w5.heap.size, k1]) (w16.drew) w17) ∧
        brB (!c3 && p1.isNone && n1 == 1)
          (Calls P F.grid_Grid_string_Paste #[Value.pointer none, Value.int IntKind.i64 0, Value.int IntKind.i64 0, Value.pointer none] w17 fun e7 w18 =>
          ∃ n5 : Int,
          (e7 = Ending.returned (Value.int IntKind.i64 n5)) ∧
          (Keep ([w5.heap.size, k1]) w17 w18) ∧
          brB (n5 == 1)
            (Calls P F.grid_Grid_string_W #[Value.pointer none] w18 fun e8 w19 =>
            ∃ n6 : Int,
            (e8 = Ending.returned (Value.int IntKind.i64 n6)) ∧
            (Keep ([w5.heap.size, k1]) w18 w19) ∧
            (Keeps w18 w19) ∧
            Calls P F.grid_Grid_string_H #[Value.pointer none] w19 fun e9 w20 =>
            ∃ n7 : Int,
            (e9 = Ending.returned (Value.int IntKind.i64 n7)) ∧
            (Keep ([w5.heap.size, k1]) w19 w20) ∧
            (Keeps w19 w20) ∧
            Calls P F.grid_Grid_string_Cells #[Value.pointer none] w20 fun e10 w21 =>
            ∃ p3 : Option Addr,
            ∃ k5 : Nat,
            ∃ k6 : Nat,
            (e10 = Ending.returned (Value.slice p3 k5 k6)) ∧
            (Keep ([w5.heap.size, k1]) w20 w21) ∧
            (Keeps w20 w21) ∧
            ∀ w22 : World,
            (Put (w5.heap.size) w21 w22) →
            R (Ending.returned (Value.bool (IntKind.i64.wrap (IntKind.i64.wrap (IntKind.i64.wrap (n6 + n7) + (↑k5 : Int)) + n4) == 0))) w22)
            (∀ w23 : World,
            (Put (w5.heap.size) w18 w23) →
            R (Ending.returned (Value.bool false)) w23))
          (∀ w24 : World,
          (Put (w5.heap.size) w17 w24) →
          R (Ending.returned (Value.bool false)) w24))
        (∀ w25 : World,
        (Put (w5.heap.size) (w16.drew) w25) →
        R (Ending.returned (Value.bool false)) w25)) ∨
    (False)))
theorem calls_law07_GridNil (x1 : Int) (x2 : Int) (w : World) (R : Ending → World → Prop) (h : vc_law07_GridNil x1 x2 w R) : Calls P F.law07_GridNil #[.int .i64 x1, .int .i64 x2] w R :=
  calls_of_vc (fn := Try.f10) (ac := ac_law07_GridNil) (args := [.int .i64 x1, .int .i64 x2]) mixed Try.func10 (by kernel_rfl) (cast (by unfold vc_law07_GridNil FnVc; kernel_rfl) h)
/-- darkroom/darkroomlaw07.wakes -/
def vc_law07_wakes  (w : World) (R : Ending → World → Prop) : Prop :=
  ∀ k1 : Nat,
  ∀ w1 : World,
  (New w (Obj.cells #[Value.int IntKind.i64 1, Value.int IntKind.i64 2, Value.int IntKind.i64 3, Value.int IntKind.i64 4] 3) k1 w1) →
  Calls P F.grid_Of_int #[Value.int IntKind.i64 2, Value.int IntKind.i64 2, Value.slice (some { block := k1, off := 0 }) 4 4] w1 fun e1 w2 =>
  ∃ p1 : Option Addr,
  ∃ n1 : Int,
  (e1 = Ending.returned (Value.tuple #[Value.pointer p1, Value.int IntKind.i64 n1])) ∧
  brB (n1 != 0 || p1.isNone)
    (R (Ending.returned (Value.bool false)) w2)
    (Calls P F.grid_Grid_int_At #[Value.pointer p1, Value.int IntKind.i64 1, Value.int IntKind.i64 0] w2 fun e2 w3 =>
    ∃ n2 : Int,
    ∃ c1 : Bool,
    (e2 = Ending.returned (Value.tuple #[Value.int IntKind.i64 n2, Value.bool c1])) ∧
    Calls P F.grid_Grid_int_Crop #[Value.pointer p1, Value.int IntKind.i64 1, Value.int IntKind.i64 0, Value.int IntKind.i64 1, Value.int IntKind.i64 2] w3 fun e3 w4 =>
    ∃ p2 : Option Addr,
    ∃ n3 : Int,
    (e3 = Ending.returned (Value.tuple #[Value.pointer p2, Value.int IntKind.i64 n3])) ∧
    Calls P F.grid_New_string #[Value.int IntKind.i64 3, Value.int IntKind.i64 1] w4 fun e4 w5 =>
    ∃ p3 : Option Addr,
    ∃ n4 : Int,
    (e4 = Ending.returned (Value.tuple #[Value.pointer p3, Value.int IntKind.i64 n4])) ∧
    brB (c1 && n2 == 2 && n3 == 0)
      (Calls P F.grid_Grid_int_Cells #[Value.pointer p2] w5 fun e5 w6 =>
      ∃ p4 : Option Addr,
      ∃ k2 : Nat,
      ∃ k3 : Nat,
      (e5 = Ending.returned (Value.slice p4 k2 k3)) ∧
      ∀ k4 : Nat,
      ∀ w7 : World,
      (New w6 (Obj.cells #[Value.int IntKind.i64 2, Value.int IntKind.i64 4] 3) k4 w7) →
      Calls P F.ref01_SameInts #[Value.slice p4 k2 k3, Value.slice (some { block := k4, off := 0 }) 2 2] w7 fun e6 w8 =>
      ∃ c2 : Bool,
      (e6 = Ending.returned (Value.bool c2)) ∧
      brB (c2 && n4 == 0)
        (Calls P F.grid_Grid_string_W #[Value.pointer p3] w8 fun e7 w9 =>
        ∃ n5 : Int,
        (e7 = Ending.returned (Value.int IntKind.i64 n5)) ∧
        brB (n5 == 3)
          (Calls P F.grid_Grid_string_Cells #[Value.pointer p3] w9 fun e8 w10 =>
          ∃ p5 : Option Addr,
          ∃ k5 : Nat,
          ∃ k6 : Nat,
          (e8 = Ending.returned (Value.slice p5 k5 k6)) ∧
          R (Ending.returned (Value.bool ((↑k5 : Int) == 3))) w10)
          (R (Ending.returned (Value.bool false)) w9))
        (R (Ending.returned (Value.bool false)) w8))
      (R (Ending.returned (Value.bool false)) w5))
theorem calls_law07_wakes  (w : World) (R : Ending → World → Prop) (h : vc_law07_wakes  w R) : Calls P F.law07_wakes #[] w R :=
  calls_of_vc (fn := Try.f11) (ac := ac_law07_wakes) (args := []) mixed Try.func11 (by kernel_rfl) (cast (by unfold vc_law07_wakes FnVc; kernel_rfl) h)
/-- darkroom/darkroomlaw07.both -/
def vc_law07_both (x1 : Int) (x2 : Int) (sa1 : Option Addr) (sl1 sc1 : Nat) (w : World) (R : Ending → World → Prop) : Prop :=
  ∀ k1 : Nat,
  (w.heap.size ≤ k1) →
  ∀ k2 : Nat,
  (w.heap.size ≤ k2) →
  ∀ w1 : World,
  (Locl ([k2, k1]) w w1) →
  Calls P F.law07_own #[Value.slice sa1 sl1 sc1] w1 fun e1 w2 =>
  ∃ p1 : Option Addr,
  ∃ k3 : Nat,
  ∃ k4 : Nat,
  (e1 = Ending.returned (Value.slice p1 k3 k4)) ∧
  (Keep ([k2, k1]) w1 w2) ∧
  (Keeps w1 w2) ∧
  Calls P F.grid_Of_int #[Value.int IntKind.i64 x1, Value.int IntKind.i64 x2, Value.slice p1 k3 k4] w2 fun e2 w3 =>
  ∃ p2 : Option Addr,
  ∃ n1 : Int,
  (e2 = Ending.returned (Value.tuple #[Value.pointer p2, Value.int IntKind.i64 n1])) ∧
  (Keep ([k2, k1]) w2 w3) ∧
  ∀ k5 : Nat,
  (w3.heap.size ≤ k5) →
  ∃ I1 : List Value → World → Prop,
  (brB ((↑sl1 : Int) != IntKind.i64.wrap (x1 * x2))
      (∀ w4 : World,
      (Locl ([k5, k2, k1]) w3 w4) →
      I1 [Value.int IntKind.i64 3] w4)
      (∀ w5 : World,
      (Locl ([k5, k2, k1]) w3 w5) →
      I1 [Value.int IntKind.i64 0] w5)) ∧
  ∀ n2 : Int,
  ∀ w6 : World,
  (I1 [Value.int IntKind.i64 n2] w6) →
  ∃ I2 : List Value → World → Prop,
  (Calls P F.ref07_Fits #[Value.int IntKind.i64 x1, Value.int IntKind.i64 x2] w6 fun e3 w7 =>
    ∃ c1 : Bool,
    (e3 = Ending.returned (Value.bool c1)) ∧
    (Keep ([k5, k2, k1]) w6 w7) ∧
    brB (!c1)
      (I2 [Value.int IntKind.i64 4] w7)
      (I2 [Value.int IntKind.i64 n2] w7)) ∧
  ∀ n3 : Int,
  ∀ w8 : World,
  (I2 [Value.int IntKind.i64 n3] w8) →
  ∀ w9 : World,
  (Locl ([k5, k2, k1]) (w8.drew) w9) →
  R (Ending.returned (Value.tuple #[Value.pointer p2, Value.agg #[Value.int IntKind.i64 x1, Value.int IntKind.i64 x2, Value.slice sa1 sl1 sc1], Value.bool !p2.isNone, Value.bool (n1 == n3 && p2.isNone == (n3 != 0))])) w9
theorem calls_law07_both (x1 : Int) (x2 : Int) (sa1 : Option Addr) (sl1 sc1 : Nat) (w : World) (R : Ending → World → Prop) (h : vc_law07_both x1 x2 sa1 sl1 sc1 w R) : Calls P F.law07_both #[.agg #[.int .i64 x1, .int .i64 x2, .slice sa1 sl1 sc1]] w R :=
  calls_of_vc (fn := Try.f12) (ac := ac_law07_both) (args := [.agg #[.int .i64 x1, .int .i64 x2, .slice sa1 sl1 sc1]]) mixed Try.func12 (by kernel_rfl) (cast (by unfold vc_law07_both FnVc; kernel_rfl) h)
/-- (*darkroom/grid.Grid[int]).At -/
def vc_grid_Grid_int_At (q1 : Option Addr) (x1 : Int) (x2 : Int) (w : World) (R : Ending → World → Prop) : Prop :=
  Calls P F.grid_Grid_int_has #[Value.pointer q1, Value.int IntKind.i64 x1, Value.int IntKind.i64 x2] w fun e1 w1 =>
  ∃ c1 : Bool,
  (e1 = Ending.returned (Value.bool c1)) ∧
  brB (!c1)
    (R (Ending.returned (Value.tuple #[Value.int IntKind.i64 0, Value.bool false])) w1)
    (nn (q1) fun a1 =>
    ∃ p1 : Option Addr,
    ∃ k1 : Nat,
    ∃ k2 : Nat,
    (w1.drew.cell? (a1.add 2) = some (Value.slice p1 k1 k2)) ∧
    nn (q1) fun a2 =>
    ∃ n1 : Int,
    (w1.drew.cell? a2 = some (Value.int IntKind.i64 n1)) ∧
    idx (p1) (k1) (IntKind.i64.wrap (IntKind.i64.wrap (x2 * n1) + x1)) (1) fun a3 =>
    ∃ n2 : Int,
    (w1.drew.cell? a3 = some (Value.int IntKind.i64 n2)) ∧
    R (Ending.returned (Value.tuple #[Value.int IntKind.i64 n2, Value.bool true])) w1.drew)
theorem calls_grid_Grid_int_At (q1 : Option Addr) (x1 : Int) (x2 : Int) (w : World) (R : Ending → World → Prop) (h : vc_grid_Grid_int_At q1 x1 x2 w R) : Calls P F.grid_Grid_int_At #[.pointer q1, .int .i64 x1, .int .i64 x2] w R :=
  calls_of_vc (fn := Try.f13) (ac := ac_grid_Grid_int_At) (args := [.pointer q1, .int .i64 x1, .int .i64 x2]) mixed Try.func13 (by kernel_rfl) (cast (by unfold vc_grid_Grid_int_At FnVc; kernel_rfl) h)
/-- darkroom/darkroomlaw07.same -/
def vc_law07_same (q1 : Option Addr) (x1 : Int) (x2 : Int) (sa1 : Option Addr) (sl1 sc1 : Nat) (w : World) (R : Ending → World → Prop) : Prop :=
  ∀ k1 : Nat,
  (w.heap.size ≤ k1) →
  ∀ w1 : World,
  (Locl ([k1]) w w1) →
  Calls P F.grid_Grid_int_W #[Value.pointer q1] w1 fun e1 w2 =>
  ∃ n1 : Int,
  (e1 = Ending.returned (Value.int IntKind.i64 n1)) ∧
  (Keep ([k1]) w1 w2) ∧
  (Keeps w1 w2) ∧
  brB (n1 == x1)
    (Calls P F.grid_Grid_int_H #[Value.pointer q1] w2 fun e2 w3 =>
    ∃ n2 : Int,
    (e2 = Ending.returned (Value.int IntKind.i64 n2)) ∧
    (Keep ([k1]) w2 w3) ∧
    (Keeps w2 w3) ∧
    brB (n2 == x2)
      (Calls P F.grid_Grid_int_Cells #[Value.pointer q1] w3 fun e3 w4 =>
      ∃ p1 : Option Addr,
      ∃ k2 : Nat,
      ∃ k3 : Nat,
      (e3 = Ending.returned (Value.slice p1 k2 k3)) ∧
      (Keep ([k1]) w3 w4) ∧
      (Keeps w3 w4) ∧
      Calls P F.ref01_SameInts #[Value.slice p1 k2 k3, Value.slice sa1 sl1 sc1] w4 fun e4 w5 =>
      ∃ c1 : Bool,
      (e4 = Ending.returned (Value.bool c1)) ∧
      (Keep ([k1]) w4 w5) ∧
      R (Ending.returned (Value.bool c1)) w5)
      (R (Ending.returned (Value.bool false)) w3))
    (R (Ending.returned (Value.bool false)) w2)
theorem calls_law07_same (q1 : Option Addr) (x1 : Int) (x2 : Int) (sa1 : Option Addr) (sl1 sc1 : Nat) (w : World) (R : Ending → World → Prop) (h : vc_law07_same q1 x1 x2 sa1 sl1 sc1 w R) : Calls P F.law07_same #[.pointer q1, .agg #[.int .i64 x1, .int .i64 x2, .slice sa1 sl1 sc1]] w R :=
  calls_of_vc (fn := Try.f14) (ac := ac_law07_same) (args := [.pointer q1, .agg #[.int .i64 x1, .int .i64 x2, .slice sa1 sl1 sc1]]) mixed Try.func14 (by kernel_rfl) (cast (by unfold vc_law07_same FnVc; kernel_rfl) h)
/-- (*darkroom/grid.Grid[int]).Set -/
def vc_grid_Grid_int_Set (q1 : Option Addr) (x1 : Int) (x2 : Int) (x3 : Int) (w : World) (R : Ending → World → Prop) : Prop :=
  Calls P F.grid_Grid_int_has #[Value.pointer q1, Value.int IntKind.i64 x1, Value.int IntKind.i64 x2] w fun e1 w1 =>
  ∃ c1 : Bool,
  (e1 = Ending.returned (Value.bool c1)) ∧
  brB (!c1)
    (R (Ending.returned (Value.bool false)) w1)
    (nn (q1) fun a1 =>
    ∃ p1 : Option Addr,
    ∃ k1 : Nat,
    ∃ k2 : Nat,
    (w1.drew.cell? (a1.add 2) = some (Value.slice p1 k1 k2)) ∧
    nn (q1) fun a2 =>
    ∃ n1 : Int,
    (w1.drew.cell? a2 = some (Value.int IntKind.i64 n1)) ∧
    idx (p1) (k1) (IntKind.i64.wrap (IntKind.i64.wrap (x2 * n1) + x1)) (1) fun a3 =>
    (∃ v1 : Value,
      w1.drew.cell? a3 = some v1) ∧
    (w1.drew.frozen? a3 = false) ∧
    R (Ending.returned (Value.bool true)) (setCells w1.drew a3 [Value.int IntKind.i64 x3] 0))
theorem calls_grid_Grid_int_Set (q1 : Option Addr) (x1 : Int) (x2 : Int) (x3 : Int) (w : World) (R : Ending → World → Prop) (h : vc_grid_Grid_int_Set q1 x1 x2 x3 w R) : Calls P F.grid_Grid_int_Set #[.pointer q1, .int .i64 x1, .int .i64 x2, .int .i64 x3] w R :=
  calls_of_vc (fn := Try.f15) (ac := ac_grid_Grid_int_Set) (args := [.pointer q1, .int .i64 x1, .int .i64 x2, .int .i64 x3]) mixed Try.func15 (by kernel_rfl) (cast (by unfold vc_grid_Grid_int_Set FnVc; kernel_rfl) h)
/-- darkroom/darkroomlaw07.own -/
def vc_law07_own (sa1 : Option Addr) (sl1 sc1 : Nat) (w : World) (R : Ending → World → Prop) : Prop :=
  ∀ k1 : Nat,
  ∀ w1 : World,
  (New w (Obj.cells #[] 3) k1 w1) →
  ∃ l1 : List Value,
  (l1.length = sl1 * 1) ∧
  (oneAll l1 = true) ∧
  (CellsAre w1 sa1 l1) ∧
  appVC (w1) ([]) (some { block := k1, off := 0 }) (0) (0) (sl1) (1) (8) (3) ([Value.int IntKind.i64 0]) (l1) fun p1 k2 k3 w2 =>
  R (Ending.returned (Value.slice p1 k2 k3)) w2
theorem calls_law07_own (sa1 : Option Addr) (sl1 sc1 : Nat) (w : World) (R : Ending → World → Prop) (h : vc_law07_own sa1 sl1 sc1 w R) : Calls P F.law07_own #[.slice sa1 sl1 sc1] w R :=
  calls_of_vc (fn := Try.f16) (ac := ac_law07_own) (args := [.slice sa1 sl1 sc1]) mixed Try.func16 (by kernel_rfl) (cast (by unfold vc_law07_own FnVc; kernel_rfl) h)
/-- darkroom/grid.Of[int] -/
def vc_grid_Of_int (x1 : Int) (x2 : Int) (sa1 : Option Addr) (sl1 sc1 : Nat) (w : World) (R : Ending → World → Prop) : Prop :=
  Calls P F.grid_fits #[Value.int IntKind.i64 x1, Value.int IntKind.i64 x2] w fun e1 w1 =>
  ∃ c1 : Bool,
  (e1 = Ending.returned (Value.bool c1)) ∧
  brB (!c1)
    (R (Ending.returned (Value.tuple #[Value.pointer none, Value.int IntKind.i64 4])) w1)
    (brB ((↑sl1 : Int) != IntKind.i64.wrap (x1 * x2))
      (R (Ending.returned (Value.tuple #[Value.pointer none, Value.int IntKind.i64 3])) w1)
      (Calls P F.slices_Clone_int #[Value.slice sa1 sl1 sc1] w1 fun e2 w2 =>
      ∃ p1 : Option Addr,
      ∃ k1 : Nat,
      ∃ k2 : Nat,
      (e2 = Ending.returned (Value.slice p1 k1 k2)) ∧
      ∀ k3 : Nat,
      ∀ w3 : World,
      (New w2 (Obj.cells #[Value.int IntKind.i64 x1, Value.int IntKind.i64 x2, Value.slice p1 k1 k2] 85) k3 w3) →
      R (Ending.returned (Value.tuple #[Value.pointer (some { block := k3, off := 0 }), Value.int IntKind.i64 0])) w3))
theorem calls_grid_Of_int (x1 : Int) (x2 : Int) (sa1 : Option Addr) (sl1 sc1 : Nat) (w : World) (R : Ending → World → Prop) (h : vc_grid_Of_int x1 x2 sa1 sl1 sc1 w R) : Calls P F.grid_Of_int #[.int .i64 x1, .int .i64 x2, .slice sa1 sl1 sc1] w R :=
  calls_of_vc (fn := Try.f17) (ac := ac_grid_Of_int) (args := [.int .i64 x1, .int .i64 x2, .slice sa1 sl1 sc1]) mixed Try.func17 (by kernel_rfl) (cast (by unfold vc_grid_Of_int FnVc; kernel_rfl) h)
/-- (*darkroom/grid.Grid[int]).Cells -/
def vc_grid_Grid_int_Cells (q1 : Option Addr) (w : World) (R : Ending → World → Prop) : Prop :=
  brB (q1.isNone)
    (R (Ending.returned (Value.slice none 0 0)) w)
    (nn (q1) fun a1 =>
    ∃ p1 : Option Addr,
    ∃ k1 : Nat,
    ∃ k2 : Nat,
    (w.cell? (a1.add 2) = some (Value.slice p1 k1 k2)) ∧
    Calls P F.slices_Clone_int #[Value.slice p1 k1 k2] w fun e1 w1 =>
    ∃ p2 : Option Addr,
    ∃ k3 : Nat,
    ∃ k4 : Nat,
    (e1 = Ending.returned (Value.slice p2 k3 k4)) ∧
    R (Ending.returned (Value.slice p2 k3 k4)) w1)
theorem calls_grid_Grid_int_Cells (q1 : Option Addr) (w : World) (R : Ending → World → Prop) (h : vc_grid_Grid_int_Cells q1 w R) : Calls P F.grid_Grid_int_Cells #[.pointer q1] w R :=
  calls_of_vc (fn := Try.f18) (ac := ac_grid_Grid_int_Cells) (args := [.pointer q1]) mixed Try.func18 (by kernel_rfl) (cast (by unfold vc_grid_Grid_int_Cells FnVc; kernel_rfl) h)
/-- (*darkroom/grid.Grid[int]).Crop -/
def vc_grid_Grid_int_Crop (q1 : Option Addr) (x1 : Int) (x2 : Int) (x3 : Int) (x4 : Int) (w : World) (R : Ending → World → Prop) : Prop :=
  brB (q1.isNone)
    (R (Ending.returned (Value.tuple #[Value.pointer none, Value.int IntKind.i64 1])) w)
    (nn (q1) fun a1 =>
    ∃ n1 : Int,
    (w.drew.cell? a1 = some (Value.int IntKind.i64 n1)) ∧
    brB (decide (x3 > n1))
      (R (Ending.returned (Value.tuple #[Value.pointer none, Value.int IntKind.i64 2])) w.drew)
      (nn (q1) fun a2 =>
      ∃ n2 : Int,
      (w.drew.cell? (a2.add 1) = some (Value.int IntKind.i64 n2)) ∧
      brB (decide (x4 > n2))
        (R (Ending.returned (Value.tuple #[Value.pointer none, Value.int IntKind.i64 2])) w.drew)
        (nn (q1) fun a3 =>
        ∃ n3 : Int,
        (w.drew.cell? a3 = some (Value.int IntKind.i64 n3)) ∧
        nn (q1) fun a4 =>
        ∃ n4 : Int,
        (w.drew.cell? (a4.add 1) = some (Value.int IntKind.i64 n4)) ∧
        Calls P F.grid_within #[Value.int IntKind.i64 x1, Value.int IntKind.i64 x2, Value.int IntKind.i64 x3, Value.int IntKind.i64 x4, Value.int IntKind.i64 n3, Value.int IntKind.i64 n4] (w.drew) fun e1 w1 =>
        ∃ c1 : Bool,
        (e1 = Ending.returned (Value.bool c1)) ∧
        brB (!c1)
          (R (Ending.returned (Value.tuple #[Value.pointer none, Value.int IntKind.i64 2])) w1)
          (∀ k1 : Nat,
          ∀ w2 : World,
          (New w1 (Obj.cells #[Value.int IntKind.i64 x3, Value.int IntKind.i64 x4, Value.slice none 0 0] 85) k1 w2) →
          ∃ I1 : List Value → World → Prop,
          ∃ m1 : List Value → World → Nat,
          (I1 [Value.int IntKind.i64 0] w2) ∧
          ∀ n5 : Int,
          ∀ w3 : World,
          (I1 [Value.int IntKind.i64 n5] w3) →
          brB (decide (n5 < x4))
            (nn (q1) fun a5 =>
            ∃ n6 : Int,
            (w3.cell? a5 = some (Value.int IntKind.i64 n6)) ∧
            ∃ p1 : Option Addr,
            ∃ k2 : Nat,
            ∃ k3 : Nat,
            (w3.drew.cell? { block := k1, off := 2 } = some (Value.slice p1 k2 k3)) ∧
            nn (q1) fun a6 =>
            ∃ p2 : Option Addr,
            ∃ k4 : Nat,
            ∃ k5 : Nat,
            (w3.drew.cell? (a6.add 2) = some (Value.slice p2 k4 k5)) ∧
            slcc (p2) (k5) (IntKind.i64.wrap (IntKind.i64.wrap (IntKind.i64.wrap (x2 + n5) * n6) + x1)) (IntKind.i64.wrap (IntKind.i64.wrap (IntKind.i64.wrap (IntKind.i64.wrap (x2 + n5) * n6) + x1) + x3)) (1) fun p3 k6 k7 =>
            ∃ l1 : List Value,
            (l1.length = k6 * 1) ∧
            (oneAll l1 = true) ∧
            (CellsAre (w3.drew) p3 l1) ∧
            appVC (w3.drew) ([]) (p1) (k2) (k3) (k6) (1) (8) (3) ([Value.int IntKind.i64 0]) (l1) fun p4 k8 k9 w4 =>
            (∃ v1 : Value,
              w4.cell? { block := k1, off := 2 } = some v1) ∧
            (w4.frozen? { block := k1, off := 2 } = false) ∧
            (I1 [Value.int IntKind.i64 (IntKind.i64.wrap (n5 + 1))] (setCells w4 { block := k1, off := 2 } [Value.slice p4 k8 k9] 0)) ∧
            m1 [Value.int IntKind.i64 (IntKind.i64.wrap (n5 + 1))] (setCells w4 { block := k1, off := 2 } [Value.slice p4 k8 k9] 0) < m1 [Value.int IntKind.i64 n5] w3)
            (R (Ending.returned (Value.tuple #[Value.pointer (some { block := k1, off := 0 }), Value.int IntKind.i64 0])) w3)))))
theorem calls_grid_Grid_int_Crop (q1 : Option Addr) (x1 : Int) (x2 : Int) (x3 : Int) (x4 : Int) (w : World) (R : Ending → World → Prop) (h : vc_grid_Grid_int_Crop q1 x1 x2 x3 x4 w R) : Calls P F.grid_Grid_int_Crop #[.pointer q1, .int .i64 x1, .int .i64 x2, .int .i64 x3, .int .i64 x4] w R :=
  calls_of_vc (fn := Try.f19) (ac := ac_grid_Grid_int_Crop) (args := [.pointer q1, .int .i64 x1, .int .i64 x2, .int .i64 x3, .int .i64 x4]) mixed Try.func19 (by kernel_rfl) (cast (by unfold vc_grid_Grid_int_Crop FnVc; kernel_rfl) h)
/-- (*darkroom/grid.Grid[int]).Rows -/
def vc_grid_Grid_int_Rows (q1 : Option Addr) (w : World) (R : Ending → World → Prop) : Prop :=
  ∀ k1 : Nat,
  ∀ w1 : World,
  (New w (Obj.cells #[Value.pointer q1] 26) k1 w1) →
  R (Ending.returned (Value.func (Fn.func 47) #[] #[Value.pointer (some { block := k1, off := 0 })])) w1
theorem calls_grid_Grid_int_Rows (q1 : Option Addr) (w : World) (R : Ending → World → Prop) (h : vc_grid_Grid_int_Rows q1 w R) : Calls P F.grid_Grid_int_Rows #[.pointer q1] w R :=
  calls_of_vc (fn := Try.f20) (ac := ac_grid_Grid_int_Rows) (args := [.pointer q1]) mixed Try.func20 (by kernel_rfl) (cast (by unfold vc_grid_Grid_int_Rows FnVc; kernel_rfl) h)
/-- darkroom/darkroomref01.SameInts -/
def vc_ref01_SameInts (sa1 : Option Addr) (sl1 sc1 : Nat) (sa2 : Option Addr) (sl2 sc2 : Nat) (w : World) (R : Ending → World → Prop) : Prop :=
  brB ((↑sl1 : Int) != (↑sl2 : Int))
    (R (Ending.returned (Value.bool false)) w)
    (∃ I1 : List Value → World → Prop,
    ∃ m1 : List Value → World → Nat,
    (I1 [Value.int IntKind.i64 0] w) ∧
    ∀ n1 : Int,
    ∀ w1 : World,
    (I1 [Value.int IntKind.i64 n1] w1) →
    brB (decide (n1 < (↑sl1 : Int)))
      (idx (sa1) (sl1) (n1) (1) fun a1 =>
      ∃ n2 : Int,
      (w1.drew.cell? a1 = some (Value.int IntKind.i64 n2)) ∧
      idx (sa2) (sl2) (n1) (1) fun a2 =>
      ∃ n3 : Int,
      (w1.drew.cell? a2 = some (Value.int IntKind.i64 n3)) ∧
      brB (n2 != n3)
        (R (Ending.returned (Value.bool false)) w1.drew)
        ((I1 [Value.int IntKind.i64 (IntKind.i64.wrap (n1 + 1))] w1.drew) ∧
        m1 [Value.int IntKind.i64 (IntKind.i64.wrap (n1 + 1))] w1.drew < m1 [Value.int IntKind.i64 n1] w1))
      (R (Ending.returned (Value.bool true)) w1))
theorem calls_ref01_SameInts (sa1 : Option Addr) (sl1 sc1 : Nat) (sa2 : Option Addr) (sl2 sc2 : Nat) (w : World) (R : Ending → World → Prop) (h : vc_ref01_SameInts sa1 sl1 sc1 sa2 sl2 sc2 w R) : Calls P F.ref01_SameInts #[.slice sa1 sl1 sc1, .slice sa2 sl2 sc2] w R :=
  calls_of_vc (fn := Try.f21) (ac := ac_ref01_SameInts) (args := [.slice sa1 sl1 sc1, .slice sa2 sl2 sc2]) mixed Try.func21 (by kernel_rfl) (cast (by unfold vc_ref01_SameInts FnVc; kernel_rfl) h)
/-- darkroom/grid.Tiles -/
def vc_grid_Tiles (x1 : Int) (x2 : Int) (x3 : Int) (x4 : Int) (w : World) (R : Ending → World → Prop) : Prop :=
  ∀ k1 : Nat,
  ∀ w1 : World,
  (New w (Obj.cells #[Value.int IntKind.i64 x1] 3) k1 w1) →
  ∀ k2 : Nat,
  ∀ w2 : World,
  (New w1 (Obj.cells #[Value.int IntKind.i64 x2] 3) k2 w2) →
  ∀ k3 : Nat,
  ∀ w3 : World,
  (New w2 (Obj.cells #[Value.int IntKind.i64 x3] 3) k3 w3) →
  ∀ k4 : Nat,
  ∀ w4 : World,
  (New w3 (Obj.cells #[Value.int IntKind.i64 x4] 3) k4 w4) →
  R (Ending.returned (Value.func (Fn.func 48) #[] #[Value.pointer (some { block := k1, off := 0 }), Value.pointer (some { block := k2, off := 0 }), Value.pointer (some { block := k3, off := 0 }), Value.pointer (some { block := k4, off := 0 })])) w4
theorem calls_grid_Tiles (x1 : Int) (x2 : Int) (x3 : Int) (x4 : Int) (w : World) (R : Ending → World → Prop) (h : vc_grid_Tiles x1 x2 x3 x4 w R) : Calls P F.grid_Tiles #[.int .i64 x1, .int .i64 x2, .int .i64 x3, .int .i64 x4] w R :=
  calls_of_vc (fn := Try.f22) (ac := ac_grid_Tiles) (args := [.int .i64 x1, .int .i64 x2, .int .i64 x3, .int .i64 x4]) mixed Try.func22 (by kernel_rfl) (cast (by unfold vc_grid_Tiles FnVc; kernel_rfl) h)
/-- darkroom/darkroomref07.SameRects -/
def vc_ref07_SameRects (sa1 : Option Addr) (sl1 sc1 : Nat) (sa2 : Option Addr) (sl2 sc2 : Nat) (w : World) (R : Ending → World → Prop) : Prop :=
  brB ((↑sl1 : Int) != (↑sl2 : Int))
    (R (Ending.returned (Value.bool false)) w)
    (∃ I1 : List Value → World → Prop,
    ∃ m1 : List Value → World → Nat,
    (I1 [Value.int IntKind.i64 0] w) ∧
    ∀ n1 : Int,
    ∀ w1 : World,
    (I1 [Value.int IntKind.i64 n1] w1) →
    brB (decide (n1 < (↑sl1 : Int)))
      (idx (sa1) (sl1) (n1) (4) fun a1 =>
      ∃ n2 : Int,
      ∃ n3 : Int,
      ∃ n4 : Int,
      ∃ n5 : Int,
      (w1.drew.cell? a1 = some (Value.int IntKind.i64 n2)) ∧
      (w1.drew.cell? (a1.add 1) = some (Value.int IntKind.i64 n3)) ∧
      (w1.drew.cell? (a1.add 2) = some (Value.int IntKind.i64 n4)) ∧
      (w1.drew.cell? (a1.add 3) = some (Value.int IntKind.i64 n5)) ∧
      idx (sa2) (sl2) (n1) (4) fun a2 =>
      ∃ n6 : Int,
      ∃ n7 : Int,
      ∃ n8 : Int,
      ∃ n9 : Int,
      (w1.drew.cell? a2 = some (Value.int IntKind.i64 n6)) ∧
      (w1.drew.cell? (a2.add 1) = some (Value.int IntKind.i64 n7)) ∧
      (w1.drew.cell? (a2.add 2) = some (Value.int IntKind.i64 n8)) ∧
      (w1.drew.cell? (a2.add 3) = some (Value.int IntKind.i64 n9)) ∧
      brB (!(decide (n2 = n6) && (decide (n3 = n7) && (decide (n4 = n8) && (decide (n5 = n9) && true)))))
        (R (Ending.returned (Value.bool false)) w1.drew)
        ((I1 [Value.int IntKind.i64 (IntKind.i64.wrap (n1 + 1))] w1.drew) ∧
        m1 [Value.int IntKind.i64 (IntKind.i64.wrap (n1 + 1))] w1.drew < m1 [Value.int IntKind.i64 n1] w1))
      (R (Ending.returned (Value.bool true)) w1))
theorem calls_ref07_SameRects (sa1 : Option Addr) (sl1 sc1 : Nat) (sa2 : Option Addr) (sl2 sc2 : Nat) (w : World) (R : Ending → World → Prop) (h : vc_ref07_SameRects sa1 sl1 sc1 sa2 sl2 sc2 w R) : Calls P F.ref07_SameRects #[.slice sa1 sl1 sc1, .slice sa2 sl2 sc2] w R :=
  calls_of_vc (fn := Try.f23) (ac := ac_ref07_SameRects) (args := [.slice sa1 sl1 sc1, .slice sa2 sl2 sc2]) mixed Try.func23 (by kernel_rfl) (cast (by unfold vc_ref07_SameRects FnVc; kernel_rfl) h)
/-- darkroom/darkroomref07.Tiles -/
def vc_ref07_Tiles (x1 : Int) (x2 : Int) (x3 : Int) (x4 : Int) (w : World) (R : Ending → World → Prop) : Prop :=
  Calls P F.ref07_Fits #[Value.int IntKind.i64 x1, Value.int IntKind.i64 x2] w fun e1 w1 =>
  ∃ c1 : Bool,
  (e1 = Ending.returned (Value.bool c1)) ∧
  brB (!c1 || decide (x3 < 1) || decide (x4 < 1))
    (R (Ending.returned (Value.slice none 0 0)) w1)
    (∃ I1 : List Value → World → Prop,
    (brB (decide (x3 > x1))
        (I1 [Value.int IntKind.i64 x1] w1)
        (I1 [Value.int IntKind.i64 x3] w1)) ∧
    ∀ n1 : Int,
    ∀ w2 : World,
    (I1 [Value.int IntKind.i64 n1] w2) →
    ∃ I2 : List Value → World → Prop,
    (brB (decide (x4 > x2))
        (I2 [Value.int IntKind.i64 x2] w2)
        (I2 [Value.int IntKind.i64 x4] w2)) ∧
    ∀ n2 : Int,
    ∀ w3 : World,
    (I2 [Value.int IntKind.i64 n2] w3) →
    ∃ I3 : List Value → World → Prop,
    ∃ m1 : List Value → World → Nat,
    (I3 [Value.slice none 0 0, Value.int IntKind.i64 0] w3) ∧
    ∀ p1 : Option Addr,
    ∀ k1 : Nat,
    ∀ k2 : Nat,
    ∀ n3 : Int,
    ∀ w4 : World,
    (I3 [Value.slice p1 k1 k2, Value.int IntKind.i64 n3] w4) →
    brB (decide (n3 < x2))
      (∃ I4 : List Value → World → Prop,
      ∃ m2 : List Value → World → Nat,
      (I4 [Value.slice p1 k1 k2, Value.int IntKind.i64 0] w4) ∧
      ∀ p2 : Option Addr,
      ∀ k3 : Nat,
      ∀ k4 : Nat,
      ∀ n4 : Int,
      ∀ w5 : World,
      (I4 [Value.slice p2 k3 k4, Value.int IntKind.i64 n4] w5) →
      brB (decide (n4 < x1))
        (∃ I5 : List Value → World → Prop,
        (∀ k5 : Nat,
          (w5.heap.size ≤ k5) →
          ∃ I6 : List Value → World → Prop,
          (brB (decide (n1 > IntKind.i64.wrap (x1 - n4)))
              (∀ w6 : World,
              (Locl ([k5]) w5 w6) →
              I6 [Value.int IntKind.i64 n4, Value.int IntKind.i64 n3, Value.int IntKind.i64 (IntKind.i64.wrap (x1 - n4)), Value.int IntKind.i64 n2] w6)
              (∀ w7 : World,
              (Locl ([k5]) w5 w7) →
              I6 [Value.int IntKind.i64 n4, Value.int IntKind.i64 n3, Value.int IntKind.i64 n1, Value.int IntKind.i64 n2] w7)) ∧
          ∀ n5 : Int,
          ∀ n6 : Int,
          ∀ n7 : Int,
          ∀ n8 : Int,
          ∀ w8 : World,
          (I6 [Value.int IntKind.i64 n5, Value.int IntKind.i64 n6, Value.int IntKind.i64 n7, Value.int IntKind.i64 n8] w8) →
          brB (decide (n8 > IntKind.i64.wrap (x2 - n3)))
            (∀ k6 : Nat,
            (w8.heap.size ≤ k6) →
            ∀ w9 : World,
            (Locl ([k6, k5]) w8 w9) →
            appVC (w9) ([(72, k6, [Value.int IntKind.i64 n5, Value.int IntKind.i64 n6, Value.int IntKind.i64 n7, Value.int IntKind.i64 (IntKind.i64.wrap (x2 - n3))]), (12, k5, [Value.int IntKind.i64 n5, Value.int IntKind.i64 n6, Value.int IntKind.i64 n7, Value.int IntKind.i64 (IntKind.i64.wrap (x2 - n3))])]) (p2) (k3) (k4) (1) (4) (32) (53) ([Value.int IntKind.i64 0, Value.int IntKind.i64 0, Value.int IntKind.i64 0, Value.int IntKind.i64 0]) ([Value.int IntKind.i64 n5, Value.int IntKind.i64 n6, Value.int IntKind.i64 n7, Value.int IntKind.i64 (IntKind.i64.wrap (x2 - n3))]) fun p3 k7 k8 w10 =>
            I5 [Value.slice p3 k7 k8] w10)
            (∀ k9 : Nat,
            (w8.heap.size ≤ k9) →
            ∀ w11 : World,
            (Locl ([k9, k5]) w8 w11) →
            appVC (w11) ([(72, k9, [Value.int IntKind.i64 n5, Value.int IntKind.i64 n6, Value.int IntKind.i64 n7, Value.int IntKind.i64 n8]), (12, k5, [Value.int IntKind.i64 n5, Value.int IntKind.i64 n6, Value.int IntKind.i64 n7, Value.int IntKind.i64 n8])]) (p2) (k3) (k4) (1) (4) (32) (53) ([Value.int IntKind.i64 0, Value.int IntKind.i64 0, Value.int IntKind.i64 0, Value.int IntKind.i64 0]) ([Value.int IntKind.i64 n5, Value.int IntKind.i64 n6, Value.int IntKind.i64 n7, Value.int IntKind.i64 n8]) fun p4 k10 k11 w12 =>
            I5 [Value.slice p4 k10 k11] w12)) ∧
        ∀ p5 : Option Addr,
        ∀ k12 : Nat,
        ∀ k13 : Nat,
        ∀ w13 : World,
        (I5 [Value.slice p5 k12 k13] w13) →
        (I4 [Value.slice p5 k12 k13, Value.int IntKind.i64 (IntKind.i64.wrap (n4 + n1))] w13) ∧
        m2 [Value.slice p5 k12 k13, Value.int IntKind.i64 (IntKind.i64.wrap (n4 + n1))] w13 < m2 [Value.slice p2 k3 k4, Value.int IntKind.i64 n4] w5)
        ((I3 [Value.slice p2 k3 k4, Value.int IntKind.i64 (IntKind.i64.wrap (n3 + n2))] w5) ∧
        m1 [Value.slice p2 k3 k4, Value.int IntKind.i64 (IntKind.i64.wrap (n3 + n2))] w5 < m1 [Value.slice p1 k1 k2, Value.int IntKind.i64 n3] w4))
      (R (Ending.returned (Value.slice p1 k1 k2)) w4))
theorem calls_ref07_Tiles (x1 : Int) (x2 : Int) (x3 : Int) (x4 : Int) (w : World) (R : Ending → World → Prop) (h : vc_ref07_Tiles x1 x2 x3 x4 w R) : Calls P F.ref07_Tiles #[.int .i64 x1, .int .i64 x2, .int .i64 x3, .int .i64 x4] w R :=
  calls_of_vc (fn := Try.f24) (ac := ac_ref07_Tiles) (args := [.int .i64 x1, .int .i64 x2, .int .i64 x3, .int .i64 x4]) mixed Try.func24 (by kernel_rfl) (cast (by unfold vc_ref07_Tiles FnVc; kernel_rfl) h)
/-- darkroom/grid.Map[int,string] -/
def vc_grid_Map_int_string (q1 : Option Addr) (va1 : Value) (w : World) (R : Ending → World → Prop) : Prop :=
  brB (q1.isNone)
    (R (Ending.returned (Value.pointer none)) w)
    (nn (q1) fun a1 =>
    ∃ n1 : Int,
    (w.drew.cell? a1 = some (Value.int IntKind.i64 n1)) ∧
    nn (q1) fun a2 =>
    ∃ n2 : Int,
    (w.drew.cell? (a2.add 1) = some (Value.int IntKind.i64 n2)) ∧
    nn (q1) fun a3 =>
    ∃ p1 : Option Addr,
    ∃ k1 : Nat,
    ∃ k2 : Nat,
    (w.drew.cell? (a3.add 2) = some (Value.slice p1 k1 k2)) ∧
    ((0 : Int) ≤ 0) ∧
    (0 ≤ (↑k1 : Int)) ∧
    ((↑k1 : Int) * 16 ≤ 281474976710656) ∧
    ((↑k1 : Int) < 4611686018427387904) ∧
    ∀ k3 : Nat,
    ∀ w1 : World,
    (New (w.drew) (Obj.cells (mkCells [Value.string { data := #[] }] k1) 9) k3 w1) →
    ∀ k4 : Nat,
    ∀ w2 : World,
    (New w1 (Obj.cells #[Value.int IntKind.i64 n1, Value.int IntKind.i64 n2, Value.slice (some { block := k3, off := 0 }) 0 k1] 90) k4 w2) →
    nn (q1) fun a4 =>
    ∃ p2 : Option Addr,
    ∃ k5 : Nat,
    ∃ k6 : Nat,
    (w2.cell? (a4.add 2) = some (Value.slice p2 k5 k6)) ∧
    ∃ I1 : List Value → World → Prop,
    ∃ m1 : List Value → World → Nat,
    (I1 [Value.int IntKind.i64 0] w2) ∧
    ∀ n3 : Int,
    ∀ w3 : World,
    (I1 [Value.int IntKind.i64 n3] w3) →
    brB (decide (n3 < (↑k5 : Int)))
      (idx (p2) (k5) (n3) (1) fun a5 =>
      ∃ n4 : Int,
      (w3.cell? a5 = some (Value.int IntKind.i64 n4)) ∧
      ∃ p3 : Option Addr,
      ∃ k7 : Nat,
      ∃ k8 : Nat,
      (w3.drew.cell? { block := k4, off := 2 } = some (Value.slice p3 k7 k8)) ∧
      callV P (va1) [Value.int IntKind.i64 n4] (w3.drew) fun e1 w4 =>
      ∃ s1 : ByteArray,
      (e1 = Ending.returned (Value.string s1)) ∧
      (Keeps (w3.drew) w4) ∧
      ∀ k9 : Nat,
      (w4.heap.size ≤ k9) →
      ∀ w5 : World,
      (Locl ([k9]) w4 w5) →
      appVC (w5) ([(43, k9, [Value.string s1])]) (p3) (k7) (k8) (1) (1) (16) (9) ([Value.string { data := #[] }]) ([Value.string s1]) fun p4 k10 k11 w6 =>
      (∃ v1 : Value,
        w6.cell? { block := k4, off := 2 } = some v1) ∧
      (w6.frozen? { block := k4, off := 2 } = false) ∧
      (¬k4 ∈ [k9]) ∧
      (I1 [Value.int IntKind.i64 (IntKind.i64.wrap (n3 + 1))] (setCells w6 { block := k4, off := 2 } [Value.slice p4 k10 k11] 0)) ∧
      m1 [Value.int IntKind.i64 (IntKind.i64.wrap (n3 + 1))] (setCells w6 { block := k4, off := 2 } [Value.slice p4 k10 k11] 0) < m1 [Value.int IntKind.i64 n3] w3)
      (R (Ending.returned (Value.pointer (some { block := k4, off := 0 }))) w3))
theorem calls_grid_Map_int_string (q1 : Option Addr) (va1 : Value) (w : World) (R : Ending → World → Prop) (h : vc_grid_Map_int_string q1 va1 w R) : Calls P F.grid_Map_int_string #[.pointer q1, va1] w R :=
  calls_of_vc (fn := Try.f25) (ac := ac_grid_Map_int_string) (args := [.pointer q1, va1]) mixed Try.func25 (by kernel_rfl) (cast (by unfold vc_grid_Map_int_string FnVc; kernel_rfl) h)
/-- darkroom/darkroomlaw07.twice -/
def vc_law07_twice (x1 : Int) (w : World) (R : Ending → World → Prop) : Prop :=
  brB (divZ BinOp.rem IntKind.i64 x1 2 == 0)
    (R (Ending.returned (Value.string { data := #[101, 118, 101, 110] })) w)
    (R (Ending.returned (Value.string { data := #[111, 100, 100] })) w)
theorem calls_law07_twice (x1 : Int) (w : World) (R : Ending → World → Prop) (h : vc_law07_twice x1 w R) : Calls P F.law07_twice #[.int .i64 x1] w R :=
  calls_of_vc (fn := Try.f26) (ac := ac_law07_twice) (args := [.int .i64 x1]) mixed Try.func26 (by kernel_rfl) (cast (by unfold vc_law07_twice FnVc; kernel_rfl) h)
/-- (*darkroom/grid.Grid[string]).W -/
def vc_grid_Grid_string_W (q1 : Option Addr) (w : World) (R : Ending → World → Prop) : Prop :=
  brB (q1.isNone)
    (R (Ending.returned (Value.int IntKind.i64 0)) w)
    (nn (q1) fun a1 =>
    ∃ n1 : Int,
    (w.cell? a1 = some (Value.int IntKind.i64 n1)) ∧
    R (Ending.returned (Value.int IntKind.i64 n1)) w)
theorem calls_grid_Grid_string_W (q1 : Option Addr) (w : World) (R : Ending → World → Prop) (h : vc_grid_Grid_string_W q1 w R) : Calls P F.grid_Grid_string_W #[.pointer q1] w R :=
  calls_of_vc (fn := Try.f27) (ac := ac_grid_Grid_string_W) (args := [.pointer q1]) mixed Try.func27 (by kernel_rfl) (cast (by unfold vc_grid_Grid_string_W FnVc; kernel_rfl) h)
/-- (*darkroom/grid.Grid[string]).H -/
def vc_grid_Grid_string_H (q1 : Option Addr) (w : World) (R : Ending → World → Prop) : Prop :=
  brB (q1.isNone)
    (R (Ending.returned (Value.int IntKind.i64 0)) w)
    (nn (q1) fun a1 =>
    ∃ n1 : Int,
    (w.cell? (a1.add 1) = some (Value.int IntKind.i64 n1)) ∧
    R (Ending.returned (Value.int IntKind.i64 n1)) w)
theorem calls_grid_Grid_string_H (q1 : Option Addr) (w : World) (R : Ending → World → Prop) (h : vc_grid_Grid_string_H q1 w R) : Calls P F.grid_Grid_string_H #[.pointer q1] w R :=
  calls_of_vc (fn := Try.f28) (ac := ac_grid_Grid_string_H) (args := [.pointer q1]) mixed Try.func28 (by kernel_rfl) (cast (by unfold vc_grid_Grid_string_H FnVc; kernel_rfl) h)
/-- (*darkroom/grid.Grid[string]).Cells -/
def vc_grid_Grid_string_Cells (q1 : Option Addr) (w : World) (R : Ending → World → Prop) : Prop :=
  brB (q1.isNone)
    (R (Ending.returned (Value.slice none 0 0)) w)
    (nn (q1) fun a1 =>
    ∃ p1 : Option Addr,
    ∃ k1 : Nat,
    ∃ k2 : Nat,
    (w.cell? (a1.add 2) = some (Value.slice p1 k1 k2)) ∧
    Calls P F.slices_Clone_string #[Value.slice p1 k1 k2] w fun e1 w1 =>
    ∃ p2 : Option Addr,
    ∃ k3 : Nat,
    ∃ k4 : Nat,
    (e1 = Ending.returned (Value.slice p2 k3 k4)) ∧
    R (Ending.returned (Value.slice p2 k3 k4)) w1)
theorem calls_grid_Grid_string_Cells (q1 : Option Addr) (w : World) (R : Ending → World → Prop) (h : vc_grid_Grid_string_Cells q1 w R) : Calls P F.grid_Grid_string_Cells #[.pointer q1] w R :=
  calls_of_vc (fn := Try.f29) (ac := ac_grid_Grid_string_Cells) (args := [.pointer q1]) mixed Try.func29 (by kernel_rfl) (cast (by unfold vc_grid_Grid_string_Cells FnVc; kernel_rfl) h)
/-- darkroom/darkroomref07.Crop -/
def vc_ref07_Crop (x1 : Int) (x2 : Int) (sa1 : Option Addr) (sl1 sc1 : Nat) (x3 : Int) (x4 : Int) (x5 : Int) (x6 : Int) (w : World) (R : Ending → World → Prop) : Prop :=
  ∀ k1 : Nat,
  (w.heap.size ≤ k1) →
  ∀ k2 : Nat,
  (w.heap.size ≤ k2) →
  ∀ w1 : World,
  (Locl ([k2, k1]) w w1) →
  Calls P F.ref07_Within #[Value.int IntKind.i64 x3, Value.int IntKind.i64 x4, Value.int IntKind.i64 x5, Value.int IntKind.i64 x6, Value.int IntKind.i64 x1, Value.int IntKind.i64 x2] w1 fun e1 w2 =>
  ∃ c1 : Bool,
  (e1 = Ending.returned (Value.bool c1)) ∧
  (Keep ([k2, k1]) w1 w2) ∧
  brB (!c1)
    (∀ w3 : World,
    (Locl ([k2, k1]) w2 w3) →
    R (Ending.returned (Value.tuple #[Value.agg #[Value.int IntKind.i64 0, Value.int IntKind.i64 0, Value.slice none 0 0], Value.int IntKind.i64 2])) w3)
    (∀ k3 : Nat,
    (w2.heap.size ≤ k3) →
    ∃ I1 : List Value → World → Prop,
    ∃ m1 : List Value → World → Nat,
    (∀ w4 : World,
      (Locl ([k3, k2, k1]) w2 w4) →
      I1 [Value.int IntKind.i64 0, Value.int IntKind.i64 x5, Value.int IntKind.i64 x6, Value.slice none 0 0] w4) ∧
    ∀ n1 : Int,
    ∀ n2 : Int,
    ∀ n3 : Int,
    ∀ p1 : Option Addr,
    ∀ k4 : Nat,
    ∀ k5 : Nat,
    ∀ w5 : World,
    (I1 [Value.int IntKind.i64 n1, Value.int IntKind.i64 n2, Value.int IntKind.i64 n3, Value.slice p1 k4 k5] w5) →
    brB (decide (n1 < x6))
      (∃ I2 : List Value → World → Prop,
      ∃ m2 : List Value → World → Nat,
      (I2 [Value.int IntKind.i64 0, Value.int IntKind.i64 n2, Value.int IntKind.i64 n3, Value.slice p1 k4 k5] w5) ∧
      ∀ n4 : Int,
      ∀ n5 : Int,
      ∀ n6 : Int,
      ∀ p2 : Option Addr,
      ∀ k6 : Nat,
      ∀ k7 : Nat,
      ∀ w6 : World,
      (I2 [Value.int IntKind.i64 n4, Value.int IntKind.i64 n5, Value.int IntKind.i64 n6, Value.slice p2 k6 k7] w6) →
      brB (decide (n4 < x5))
        (idx (sa1) (sl1) (IntKind.i64.wrap (IntKind.i64.wrap (IntKind.i64.wrap (IntKind.i64.wrap (x4 + n1) * x1) + x3) + n4)) (1) fun a1 =>
        ∃ n7 : Int,
        (w6.drew.cell? a1 = some (Value.int IntKind.i64 n7)) ∧
        ∀ k8 : Nat,
        (w6.drew.heap.size ≤ k8) →
        ∀ w7 : World,
        (Locl ([k8, k3, k2, k1]) (w6.drew) w7) →
        appVC (w7) ([(55, k8, [Value.int IntKind.i64 n7]), (12, k3, [Value.int IntKind.i64 n5, Value.int IntKind.i64 n6, Value.slice p2 k6 k7]), (10, k2, [Value.int IntKind.i64 0, Value.int IntKind.i64 0, Value.slice none 0 0]), (5, k1, [Value.int IntKind.i64 x1, Value.int IntKind.i64 x2, Value.slice sa1 sl1 sc1])]) (p2) (k6) (k7) (1) (1) (8) (3) ([Value.int IntKind.i64 0]) ([Value.int IntKind.i64 n7]) fun p3 k9 k10 w8 =>
        ∀ w9 : World,
        (Locl ([k8, k3, k2, k1]) w8 w9) →
        (I2 [Value.int IntKind.i64 (IntKind.i64.wrap (n4 + 1)), Value.int IntKind.i64 n5, Value.int IntKind.i64 n6, Value.slice p3 k9 k10] w9) ∧
        m2 [Value.int IntKind.i64 (IntKind.i64.wrap (n4 + 1)), Value.int IntKind.i64 n5, Value.int IntKind.i64 n6, Value.slice p3 k9 k10] w9 < m2 [Value.int IntKind.i64 n4, Value.int IntKind.i64 n5, Value.int IntKind.i64 n6, Value.slice p2 k6 k7] w6)
        ((I1 [Value.int IntKind.i64 (IntKind.i64.wrap (n1 + 1)), Value.int IntKind.i64 n5, Value.int IntKind.i64 n6, Value.slice p2 k6 k7] w6) ∧
        m1 [Value.int IntKind.i64 (IntKind.i64.wrap (n1 + 1)), Value.int IntKind.i64 n5, Value.int IntKind.i64 n6, Value.slice p2 k6 k7] w6 < m1 [Value.int IntKind.i64 n1, Value.int IntKind.i64 n2, Value.int IntKind.i64 n3, Value.slice p1 k4 k5] w5))
      (∀ w10 : World,
      (Locl ([k3, k2, k1]) w5 w10) →
      R (Ending.returned (Value.tuple #[Value.agg #[Value.int IntKind.i64 n2, Value.int IntKind.i64 n3, Value.slice p1 k4 k5], Value.int IntKind.i64 0])) w10))
theorem calls_ref07_Crop (x1 : Int) (x2 : Int) (sa1 : Option Addr) (sl1 sc1 : Nat) (x3 : Int) (x4 : Int) (x5 : Int) (x6 : Int) (w : World) (R : Ending → World → Prop) (h : vc_ref07_Crop x1 x2 sa1 sl1 sc1 x3 x4 x5 x6 w R) : Calls P F.ref07_Crop #[.agg #[.int .i64 x1, .int .i64 x2, .slice sa1 sl1 sc1], .int .i64 x3, .int .i64 x4, .int .i64 x5, .int .i64 x6] w R :=
  calls_of_vc (fn := Try.f30) (ac := ac_ref07_Crop) (args := [.agg #[.int .i64 x1, .int .i64 x2, .slice sa1 sl1 sc1], .int .i64 x3, .int .i64 x4, .int .i64 x5, .int .i64 x6]) mixed Try.func30 (by kernel_rfl) (cast (by unfold vc_ref07_Crop FnVc; kernel_rfl) h)
/-- (*darkroom/grid.Grid[int]).Paste -/
def vc_grid_Grid_int_Paste (q1 : Option Addr) (x1 : Int) (x2 : Int) (q2 : Option Addr) (w : World) (R : Ending → World → Prop) : Prop :=
  brB (q1.isNone || q2.isNone)
    (R (Ending.returned (Value.int IntKind.i64 1)) w)
    (nn (q2) fun a1 =>
    ∃ n1 : Int,
    (w.drew.cell? a1 = some (Value.int IntKind.i64 n1)) ∧
    nn (q2) fun a2 =>
    ∃ n2 : Int,
    (w.drew.cell? (a2.add 1) = some (Value.int IntKind.i64 n2)) ∧
    nn (q1) fun a3 =>
    ∃ n3 : Int,
    (w.drew.cell? a3 = some (Value.int IntKind.i64 n3)) ∧
    nn (q1) fun a4 =>
    ∃ n4 : Int,
    (w.drew.cell? (a4.add 1) = some (Value.int IntKind.i64 n4)) ∧
    Calls P F.grid_within #[Value.int IntKind.i64 x1, Value.int IntKind.i64 x2, Value.int IntKind.i64 n1, Value.int IntKind.i64 n2, Value.int IntKind.i64 n3, Value.int IntKind.i64 n4] (w.drew) fun e1 w1 =>
    ∃ c1 : Bool,
    (e1 = Ending.returned (Value.bool c1)) ∧
    brB (!c1)
      (R (Ending.returned (Value.int IntKind.i64 2)) w1)
      (nn (q2) fun a5 =>
      ∃ n5 : Int,
      (w1.cell? (a5.add 1) = some (Value.int IntKind.i64 n5)) ∧
      ∃ I1 : List Value → World → Prop,
      ∃ m1 : List Value → World → Nat,
      (I1 [Value.int IntKind.i64 0] w1) ∧
      ∀ n6 : Int,
      ∀ w2 : World,
      (I1 [Value.int IntKind.i64 n6] w2) →
      brB (decide (n6 < n5))
        (nn (q1) fun a6 =>
        ∃ p1 : Option Addr,
        ∃ k1 : Nat,
        ∃ k2 : Nat,
        (w2.drew.cell? (a6.add 2) = some (Value.slice p1 k1 k2)) ∧
        nn (q1) fun a7 =>
        ∃ n7 : Int,
        (w2.drew.cell? a7 = some (Value.int IntKind.i64 n7)) ∧
        slcc (p1) (k2) (IntKind.i64.wrap (IntKind.i64.wrap (IntKind.i64.wrap (x2 + n6) * n7) + x1)) ((↑k1 : Int)) (1) fun p2 k3 k4 =>
        nn (q2) fun a8 =>
        ∃ p3 : Option Addr,
        ∃ k5 : Nat,
        ∃ k6 : Nat,
        (w2.drew.cell? (a8.add 2) = some (Value.slice p3 k5 k6)) ∧
        nn (q2) fun a9 =>
        ∃ n8 : Int,
        (w2.drew.cell? a9 = some (Value.int IntKind.i64 n8)) ∧
        nn (q2) fun a10 =>
        ∃ n9 : Int,
        (w2.drew.cell? a10 = some (Value.int IntKind.i64 n9)) ∧
        slcc (p3) (k6) (IntKind.i64.wrap (n6 * n8)) (IntKind.i64.wrap (IntKind.i64.wrap (n6 + 1) * n9)) (1) fun p4 k7 k8 =>
        ∃ l1 : List Value,
        (l1.length = min k7 k3 * 1) ∧
        (oneAll l1 = true) ∧
        (CellsAre (w2.drew) p4 l1) ∧
        (((l1 = []) ∧
          (I1 [Value.int IntKind.i64 (IntKind.i64.wrap (n6 + 1))] w2.drew) ∧
          m1 [Value.int IntKind.i64 (IntKind.i64.wrap (n6 + 1))] w2.drew < m1 [Value.int IntKind.i64 n6] w2) ∨
        (∃ a11 : Addr,
          (p2 = some a11) ∧
          (CanSet (w2.drew) a11 (l1.length)) ∧
          (I1 [Value.int IntKind.i64 (IntKind.i64.wrap (n6 + 1))] (setCells w2.drew a11 l1 0)) ∧
          m1 [Value.int IntKind.i64 (IntKind.i64.wrap (n6 + 1))] (setCells w2.drew a11 l1 0) < m1 [Value.int IntKind.i64 n6] w2)))
        (R (Ending.returned (Value.int IntKind.i64 0)) w2)))
theorem calls_grid_Grid_int_Paste (q1 : Option Addr) (x1 : Int) (x2 : Int) (q2 : Option Addr) (w : World) (R : Ending → World → Prop) (h : vc_grid_Grid_int_Paste q1 x1 x2 q2 w R) : Calls P F.grid_Grid_int_Paste #[.pointer q1, .int .i64 x1, .int .i64 x2, .pointer q2] w R :=
  calls_of_vc (fn := Try.f31) (ac := ac_grid_Grid_int_Paste) (args := [.pointer q1, .int .i64 x1, .int .i64 x2, .pointer q2]) mixed Try.func31 (by kernel_rfl) (cast (by unfold vc_grid_Grid_int_Paste FnVc; kernel_rfl) h)
/-- darkroom/darkroomref07.Paste -/
def vc_ref07_Paste (x1 : Int) (x2 : Int) (sa1 : Option Addr) (sl1 sc1 : Nat) (x3 : Int) (x4 : Int) (x5 : Int) (x6 : Int) (sa2 : Option Addr) (sl2 sc2 : Nat) (w : World) (R : Ending → World → Prop) : Prop :=
  ∀ k1 : Nat,
  (w.heap.size ≤ k1) →
  ∀ k2 : Nat,
  (w.heap.size ≤ k2) →
  ∀ k3 : Nat,
  (w.heap.size ≤ k3) →
  ∀ w1 : World,
  (Locl ([k3, k2, k1]) w w1) →
  Calls P F.ref07_Within #[Value.int IntKind.i64 x3, Value.int IntKind.i64 x4, Value.int IntKind.i64 x5, Value.int IntKind.i64 x6, Value.int IntKind.i64 x1, Value.int IntKind.i64 x2] w1 fun e1 w2 =>
  ∃ c1 : Bool,
  (e1 = Ending.returned (Value.bool c1)) ∧
  (Keep ([k3, k2, k1]) w1 w2) ∧
  brB (!c1)
    (∀ w3 : World,
    (Locl ([k3, k2, k1]) w2 w3) →
    R (Ending.returned (Value.tuple #[Value.agg #[Value.int IntKind.i64 x1, Value.int IntKind.i64 x2, Value.slice sa1 sl1 sc1], Value.int IntKind.i64 2])) w3)
    (∃ I1 : List Value → World → Prop,
    ((∀ k4 : Nat,
        ∀ w4 : World,
        (New (w2.drew) (Obj.cells #[] 3) k4 w4) →
        (∃ l1 : List Value,
          (l1.length = sl1 * 1) ∧
          (oneAll l1 = true) ∧
          (CellsAre w4 sa1 l1) ∧
          appVC (w4) ([(8, k3, [Value.int IntKind.i64 0, Value.int IntKind.i64 0, Value.slice none 0 0]), (7, k2, [Value.int IntKind.i64 x5, Value.int IntKind.i64 x6, Value.slice sa2 sl2 sc2]), (4, k1, [Value.int IntKind.i64 x1, Value.int IntKind.i64 x2, Value.slice sa1 sl1 sc1])]) (some { block := k4, off := 0 }) (0) (0) (sl1) (1) (8) (3) ([Value.int IntKind.i64 0]) (l1) fun p1 k5 k6 w5 =>
          (Keeps w4 w5) ∧
          ∀ k7 : Nat,
          (w5.heap.size ≤ k7) →
          ∀ w6 : World,
          (Locl ([k7, k3, k2, k1]) w5 w6) →
          I1 [Value.pointer (some { block := k7, off := 0 }), Value.int IntKind.i64 x1, Value.int IntKind.i64 x2, Value.slice p1 k5 k6] w6) ∧
        ∀ k8 : Nat,
        (w4.heap.size ≤ k8) →
        ∀ w7 : World,
        (Locl ([k8, k3, k2, k1]) w4 w7) →
        ∃ l2 : List Value,
        (l2.length = sl1 * 1) ∧
        (oneAll l2 = true) ∧
        (CellsAre w7 sa1 l2) ∧
        appVC (w7) ([(10, k8, [Value.int IntKind.i64 0, Value.int IntKind.i64 0, Value.slice none 0 0]), (8, k3, [Value.int IntKind.i64 0, Value.int IntKind.i64 0, Value.slice none 0 0]), (7, k2, [Value.int IntKind.i64 x5, Value.int IntKind.i64 x6, Value.slice sa2 sl2 sc2]), (4, k1, [Value.int IntKind.i64 x1, Value.int IntKind.i64 x2, Value.slice sa1 sl1 sc1])]) (some { block := k4, off := 0 }) (0) (0) (sl1) (1) (8) (3) ([Value.int IntKind.i64 0]) (l2) fun p2 k9 k10 w8 =>
        (Keeps w7 w8) ∧
        ∀ w9 : World,
        (Locl ([k8, k3, k2, k1]) w8 w9) →
        I1 [Value.pointer (some { block := k8, off := 0 }), Value.int IntKind.i64 x1, Value.int IntKind.i64 x2, Value.slice p2 k9 k10] w9) ∧
      ∀ k11 : Nat,
      (w2.drew.heap.size ≤ k11) →
      ∀ w10 : World,
      (Locl ([k11, k3, k2, k1]) (w2.drew) w10) →
      ∀ k12 : Nat,
      ∀ w11 : World,
      (New w10 (Obj.cells #[] 3) k12 w11) →
      ∃ l3 : List Value,
      (l3.length = sl1 * 1) ∧
      (oneAll l3 = true) ∧
      (CellsAre w11 sa1 l3) ∧
      appVC (w11) ([(10, k11, [Value.int IntKind.i64 0, Value.int IntKind.i64 0, Value.slice none 0 0]), (8, k3, [Value.int IntKind.i64 0, Value.int IntKind.i64 0, Value.slice none 0 0]), (7, k2, [Value.int IntKind.i64 x5, Value.int IntKind.i64 x6, Value.slice sa2 sl2 sc2]), (4, k1, [Value.int IntKind.i64 x1, Value.int IntKind.i64 x2, Value.slice sa1 sl1 sc1])]) (some { block := k12, off := 0 }) (0) (0) (sl1) (1) (8) (3) ([Value.int IntKind.i64 0]) (l3) fun p3 k13 k14 w12 =>
      (Keeps w11 w12) ∧
      ∀ w13 : World,
      (Locl ([k11, k3, k2, k1]) w12 w13) →
      I1 [Value.pointer (some { block := k11, off := 0 }), Value.int IntKind.i64 x1, Value.int IntKind.i64 x2, Value.slice p3 k13 k14] w13) ∧
    ∀ k15 : Nat,
    ∀ n1 : Int,
    ∀ n2 : Int,
    ∀ p4 : Option Addr,
    ∀ k16 : Nat,
    ∀ k17 : Nat,
    ∀ w14 : World,
    (I1 [Value.pointer (some { block := k15, off := 0 }), Value.int IntKind.i64 n1, Value.int IntKind.i64 n2, Value.slice p4 k16 k17] w14) →
    ∃ I2 : List Value → World → Prop,
    ∃ m1 : List Value → World → Nat,
    (I2 [Value.int IntKind.i64 0] w14) ∧
    ∀ n3 : Int,
    ∀ w15 : World,
    (I2 [Value.int IntKind.i64 n3] w15) →
    brB (decide (n3 < x6))
      (∃ I3 : List Value → World → Prop,
      ∃ m2 : List Value → World → Nat,
      (I3 [Value.int IntKind.i64 0] w15) ∧
      ∀ n4 : Int,
      ∀ w16 : World,
      (I3 [Value.int IntKind.i64 n4] w16) →
      brB (decide (n4 < x5))
        (idx (sa2) (sl2) (IntKind.i64.wrap (IntKind.i64.wrap (n3 * x5) + n4)) (1) fun a1 =>
        ∃ n5 : Int,
        (w16.drew.cell? a1 = some (Value.int IntKind.i64 n5)) ∧
        idx (p4) (k16) (IntKind.i64.wrap (IntKind.i64.wrap (IntKind.i64.wrap (IntKind.i64.wrap (x4 + n3) * x1) + x3) + n4)) (1) fun a2 =>
        (∃ v1 : Value,
          w16.drew.cell? a2 = some v1) ∧
        (w16.drew.frozen? a2 = false) ∧
        (¬a2.block ∈ [k15, k3, k2, k1]) ∧
        (I3 [Value.int IntKind.i64 (IntKind.i64.wrap (n4 + 1))] (setCells w16.drew a2 [Value.int IntKind.i64 n5] 0)) ∧
        m2 [Value.int IntKind.i64 (IntKind.i64.wrap (n4 + 1))] (setCells w16.drew a2 [Value.int IntKind.i64 n5] 0) < m2 [Value.int IntKind.i64 n4] w16)
        ((I2 [Value.int IntKind.i64 (IntKind.i64.wrap (n3 + 1))] w16) ∧
        m1 [Value.int IntKind.i64 (IntKind.i64.wrap (n3 + 1))] w16 < m1 [Value.int IntKind.i64 n3] w15))
      (∀ w17 : World,
      (Locl ([k15, k3, k2, k1]) w15 w17) →
      R (Ending.returned (Value.tuple #[Value.agg #[Value.int IntKind.i64 n1, Value.int IntKind.i64 n2, Value.slice p4 k16 k17], Value.int IntKind.i64 0])) w17))
theorem calls_ref07_Paste (x1 : Int) (x2 : Int) (sa1 : Option Addr) (sl1 sc1 : Nat) (x3 : Int) (x4 : Int) (x5 : Int) (x6 : Int) (sa2 : Option Addr) (sl2 sc2 : Nat) (w : World) (R : Ending → World → Prop) (h : vc_ref07_Paste x1 x2 sa1 sl1 sc1 x3 x4 x5 x6 sa2 sl2 sc2 w R) : Calls P F.ref07_Paste #[.agg #[.int .i64 x1, .int .i64 x2, .slice sa1 sl1 sc1], .int .i64 x3, .int .i64 x4, .agg #[.int .i64 x5, .int .i64 x6, .slice sa2 sl2 sc2]] w R :=
  calls_of_vc (fn := Try.f32) (ac := ac_ref07_Paste) (args := [.agg #[.int .i64 x1, .int .i64 x2, .slice sa1 sl1 sc1], .int .i64 x3, .int .i64 x4, .agg #[.int .i64 x5, .int .i64 x6, .slice sa2 sl2 sc2]]) mixed Try.func32 (by kernel_rfl) (cast (by unfold vc_ref07_Paste FnVc; kernel_rfl) h)
/-- (*darkroom/grid.Grid[int]).All -/
def vc_grid_Grid_int_All (q1 : Option Addr) (w : World) (R : Ending → World → Prop) : Prop :=
  ∀ k1 : Nat,
  ∀ w1 : World,
  (New w (Obj.cells #[Value.pointer q1] 26) k1 w1) →
  R (Ending.returned (Value.func (Fn.func 51) #[] #[Value.pointer (some { block := k1, off := 0 })])) w1
theorem calls_grid_Grid_int_All (q1 : Option Addr) (w : World) (R : Ending → World → Prop) (h : vc_grid_Grid_int_All q1 w R) : Calls P F.grid_Grid_int_All #[.pointer q1] w R :=
  calls_of_vc (fn := Try.f33) (ac := ac_grid_Grid_int_All) (args := [.pointer q1]) mixed Try.func33 (by kernel_rfl) (cast (by unfold vc_grid_Grid_int_All FnVc; kernel_rfl) h)
/-- (*darkroom/grid.Grid[string]).At -/
def vc_grid_Grid_string_At (q1 : Option Addr) (x1 : Int) (x2 : Int) (w : World) (R : Ending → World → Prop) : Prop :=
  Calls P F.grid_Grid_string_has #[Value.pointer q1, Value.int IntKind.i64 x1, Value.int IntKind.i64 x2] w fun e1 w1 =>
  ∃ c1 : Bool,
  (e1 = Ending.returned (Value.bool c1)) ∧
  brB (!c1)
    (R (Ending.returned (Value.tuple #[Value.string { data := #[] }, Value.bool false])) w1)
    (nn (q1) fun a1 =>
    ∃ p1 : Option Addr,
    ∃ k1 : Nat,
    ∃ k2 : Nat,
    (w1.drew.cell? (a1.add 2) = some (Value.slice p1 k1 k2)) ∧
    nn (q1) fun a2 =>
    ∃ n1 : Int,
    (w1.drew.cell? a2 = some (Value.int IntKind.i64 n1)) ∧
    idx (p1) (k1) (IntKind.i64.wrap (IntKind.i64.wrap (x2 * n1) + x1)) (1) fun a3 =>
    ∃ s1 : ByteArray,
    (w1.drew.cell? a3 = some (Value.string s1)) ∧
    R (Ending.returned (Value.tuple #[Value.string s1, Value.bool true])) w1.drew)
theorem calls_grid_Grid_string_At (q1 : Option Addr) (x1 : Int) (x2 : Int) (w : World) (R : Ending → World → Prop) (h : vc_grid_Grid_string_At q1 x1 x2 w R) : Calls P F.grid_Grid_string_At #[.pointer q1, .int .i64 x1, .int .i64 x2] w R :=
  calls_of_vc (fn := Try.f34) (ac := ac_grid_Grid_string_At) (args := [.pointer q1, .int .i64 x1, .int .i64 x2]) mixed Try.func34 (by kernel_rfl) (cast (by unfold vc_grid_Grid_string_At FnVc; kernel_rfl) h)
/-- (*darkroom/grid.Grid[string]).Crop -/
def vc_grid_Grid_string_Crop (q1 : Option Addr) (x1 : Int) (x2 : Int) (x3 : Int) (x4 : Int) (w : World) (R : Ending → World → Prop) : Prop :=
  brB (q1.isNone)
    (R (Ending.returned (Value.tuple #[Value.pointer none, Value.int IntKind.i64 1])) w)
    (nn (q1) fun a1 =>
    ∃ n1 : Int,
    (w.drew.cell? a1 = some (Value.int IntKind.i64 n1)) ∧
    brB (decide (x3 > n1))
      (R (Ending.returned (Value.tuple #[Value.pointer none, Value.int IntKind.i64 2])) w.drew)
      (nn (q1) fun a2 =>
      ∃ n2 : Int,
      (w.drew.cell? (a2.add 1) = some (Value.int IntKind.i64 n2)) ∧
      brB (decide (x4 > n2))
        (R (Ending.returned (Value.tuple #[Value.pointer none, Value.int IntKind.i64 2])) w.drew)
        (nn (q1) fun a3 =>
        ∃ n3 : Int,
        (w.drew.cell? a3 = some (Value.int IntKind.i64 n3)) ∧
        nn (q1) fun a4 =>
        ∃ n4 : Int,
        (w.drew.cell? (a4.add 1) = some (Value.int IntKind.i64 n4)) ∧
        Calls P F.grid_within #[Value.int IntKind.i64 x1, Value.int IntKind.i64 x2, Value.int IntKind.i64 x3, Value.int IntKind.i64 x4, Value.int IntKind.i64 n3, Value.int IntKind.i64 n4] (w.drew) fun e1 w1 =>
        ∃ c1 : Bool,
        (e1 = Ending.returned (Value.bool c1)) ∧
        brB (!c1)
          (R (Ending.returned (Value.tuple #[Value.pointer none, Value.int IntKind.i64 2])) w1)
          (∀ k1 : Nat,
          ∀ w2 : World,
          (New w1 (Obj.cells #[Value.int IntKind.i64 x3, Value.int IntKind.i64 x4, Value.slice none 0 0] 90) k1 w2) →
          ∃ I1 : List Value → World → Prop,
          ∃ m1 : List Value → World → Nat,
          (I1 [Value.int IntKind.i64 0] w2) ∧
          ∀ n5 : Int,
          ∀ w3 : World,
          (I1 [Value.int IntKind.i64 n5] w3) →
          brB (decide (n5 < x4))
            (nn (q1) fun a5 =>
            ∃ n6 : Int,
            (w3.cell? a5 = some (Value.int IntKind.i64 n6)) ∧
            ∃ p1 : Option Addr,
            ∃ k2 : Nat,
            ∃ k3 : Nat,
            (w3.drew.cell? { block := k1, off := 2 } = some (Value.slice p1 k2 k3)) ∧
            nn (q1) fun a6 =>
            ∃ p2 : Option Addr,
            ∃ k4 : Nat,
            ∃ k5 : Nat,
            (w3.drew.cell? (a6.add 2) = some (Value.slice p2 k4 k5)) ∧
            slcc (p2) (k5) (IntKind.i64.wrap (IntKind.i64.wrap (IntKind.i64.wrap (x2 + n5) * n6) + x1)) (IntKind.i64.wrap (IntKind.i64.wrap (IntKind.i64.wrap (IntKind.i64.wrap (x2 + n5) * n6) + x1) + x3)) (1) fun p3 k6 k7 =>
            ∃ l1 : List Value,
            (l1.length = k6 * 1) ∧
            (oneAll l1 = true) ∧
            (CellsAre (w3.drew) p3 l1) ∧
            appVC (w3.drew) ([]) (p1) (k2) (k3) (k6) (1) (16) (9) ([Value.string { data := #[] }]) (l1) fun p4 k8 k9 w4 =>
            (∃ v1 : Value,
              w4.cell? { block := k1, off := 2 } = some v1) ∧
            (w4.frozen? { block := k1, off := 2 } = false) ∧
            (I1 [Value.int IntKind.i64 (IntKind.i64.wrap (n5 + 1))] (setCells w4 { block := k1, off := 2 } [Value.slice p4 k8 k9] 0)) ∧
            m1 [Value.int IntKind.i64 (IntKind.i64.wrap (n5 + 1))] (setCells w4 { block := k1, off := 2 } [Value.slice p4 k8 k9] 0) < m1 [Value.int IntKind.i64 n5] w3)
            (R (Ending.returned (Value.tuple #[Value.pointer (some { block := k1, off := 0 }), Value.int IntKind.i64 0])) w3)))))
theorem calls_grid_Grid_string_Crop (q1 : Option Addr) (x1 : Int) (x2 : Int) (x3 : Int) (x4 : Int) (w : World) (R : Ending → World → Prop) (h : vc_grid_Grid_string_Crop q1 x1 x2 x3 x4 w R) : Calls P F.grid_Grid_string_Crop #[.pointer q1, .int .i64 x1, .int .i64 x2, .int .i64 x3, .int .i64 x4] w R :=
  calls_of_vc (fn := Try.f35) (ac := ac_grid_Grid_string_Crop) (args := [.pointer q1, .int .i64 x1, .int .i64 x2, .int .i64 x3, .int .i64 x4]) mixed Try.func35 (by kernel_rfl) (cast (by unfold vc_grid_Grid_string_Crop FnVc; kernel_rfl) h)
/-- (*darkroom/grid.Grid[string]).Rows -/
def vc_grid_Grid_string_Rows (q1 : Option Addr) (w : World) (R : Ending → World → Prop) : Prop :=
  ∀ k1 : Nat,
  ∀ w1 : World,
  (New w (Obj.cells #[Value.pointer q1] 57) k1 w1) →
  R (Ending.returned (Value.func (Fn.func 53) #[] #[Value.pointer (some { block := k1, off := 0 })])) w1
theorem calls_grid_Grid_string_Rows (q1 : Option Addr) (w : World) (R : Ending → World → Prop) (h : vc_grid_Grid_string_Rows q1 w R) : Calls P F.grid_Grid_string_Rows #[.pointer q1] w R :=
  calls_of_vc (fn := Try.f36) (ac := ac_grid_Grid_string_Rows) (args := [.pointer q1]) mixed Try.func36 (by kernel_rfl) (cast (by unfold vc_grid_Grid_string_Rows FnVc; kernel_rfl) h)
/-- (*darkroom/grid.Grid[string]).Set -/
def vc_grid_Grid_string_Set (q1 : Option Addr) (x1 : Int) (x2 : Int) (st1 : ByteArray) (w : World) (R : Ending → World → Prop) : Prop :=
  Calls P F.grid_Grid_string_has #[Value.pointer q1, Value.int IntKind.i64 x1, Value.int IntKind.i64 x2] w fun e1 w1 =>
  ∃ c1 : Bool,
  (e1 = Ending.returned (Value.bool c1)) ∧
  brB (!c1)
    (R (Ending.returned (Value.bool false)) w1)
    (nn (q1) fun a1 =>
    ∃ p1 : Option Addr,
    ∃ k1 : Nat,
    ∃ k2 : Nat,
    (w1.drew.cell? (a1.add 2) = some (Value.slice p1 k1 k2)) ∧
    nn (q1) fun a2 =>
    ∃ n1 : Int,
    (w1.drew.cell? a2 = some (Value.int IntKind.i64 n1)) ∧
    idx (p1) (k1) (IntKind.i64.wrap (IntKind.i64.wrap (x2 * n1) + x1)) (1) fun a3 =>
    (∃ v1 : Value,
      w1.drew.cell? a3 = some v1) ∧
    (w1.drew.frozen? a3 = false) ∧
    R (Ending.returned (Value.bool true)) (setCells w1.drew a3 [Value.string st1] 0))
theorem calls_grid_Grid_string_Set (q1 : Option Addr) (x1 : Int) (x2 : Int) (st1 : ByteArray) (w : World) (R : Ending → World → Prop) (h : vc_grid_Grid_string_Set q1 x1 x2 st1 w R) : Calls P F.grid_Grid_string_Set #[.pointer q1, .int .i64 x1, .int .i64 x2, .string st1] w R :=
  calls_of_vc (fn := Try.f37) (ac := ac_grid_Grid_string_Set) (args := [.pointer q1, .int .i64 x1, .int .i64 x2, .string st1]) mixed Try.func37 (by kernel_rfl) (cast (by unfold vc_grid_Grid_string_Set FnVc; kernel_rfl) h)
/-- (*darkroom/grid.Grid[string]).Paste -/
def vc_grid_Grid_string_Paste (q1 : Option Addr) (x1 : Int) (x2 : Int) (q2 : Option Addr) (w : World) (R : Ending → World → Prop) : Prop :=
  brB (q1.isNone || q2.isNone)
    (R (Ending.returned (Value.int IntKind.i64 1)) w)
    (nn (q2) fun a1 =>
    ∃ n1 : Int,
    (w.drew.cell? a1 = some (Value.int IntKind.i64 n1)) ∧
    nn (q2) fun a2 =>
    ∃ n2 : Int,
    (w.drew.cell? (a2.add 1) = some (Value.int IntKind.i64 n2)) ∧
    nn (q1) fun a3 =>
    ∃ n3 : Int,
    (w.drew.cell? a3 = some (Value.int IntKind.i64 n3)) ∧
    nn (q1) fun a4 =>
    ∃ n4 : Int,
    (w.drew.cell? (a4.add 1) = some (Value.int IntKind.i64 n4)) ∧
    Calls P F.grid_within #[Value.int IntKind.i64 x1, Value.int IntKind.i64 x2, Value.int IntKind.i64 n1, Value.int IntKind.i64 n2, Value.int IntKind.i64 n3, Value.int IntKind.i64 n4] (w.drew) fun e1 w1 =>
    ∃ c1 : Bool,
    (e1 = Ending.returned (Value.bool c1)) ∧
    brB (!c1)
      (R (Ending.returned (Value.int IntKind.i64 2)) w1)
      (nn (q2) fun a5 =>
      ∃ n5 : Int,
      (w1.cell? (a5.add 1) = some (Value.int IntKind.i64 n5)) ∧
      ∃ I1 : List Value → World → Prop,
      ∃ m1 : List Value → World → Nat,
      (I1 [Value.int IntKind.i64 0] w1) ∧
      ∀ n6 : Int,
      ∀ w2 : World,
      (I1 [Value.int IntKind.i64 n6] w2) →
      brB (decide (n6 < n5))
        (nn (q1) fun a6 =>
        ∃ p1 : Option Addr,
        ∃ k1 : Nat,
        ∃ k2 : Nat,
        (w2.drew.cell? (a6.add 2) = some (Value.slice p1 k1 k2)) ∧
        nn (q1) fun a7 =>
        ∃ n7 : Int,
        (w2.drew.cell? a7 = some (Value.int IntKind.i64 n7)) ∧
        slcc (p1) (k2) (IntKind.i64.wrap (IntKind.i64.wrap (IntKind.i64.wrap (x2 + n6) * n7) + x1)) ((↑k1 : Int)) (1) fun p2 k3 k4 =>
        nn (q2) fun a8 =>
        ∃ p3 : Option Addr,
        ∃ k5 : Nat,
        ∃ k6 : Nat,
        (w2.drew.cell? (a8.add 2) = some (Value.slice p3 k5 k6)) ∧
        nn (q2) fun a9 =>
        ∃ n8 : Int,
        (w2.drew.cell? a9 = some (Value.int IntKind.i64 n8)) ∧
        nn (q2) fun a10 =>
        ∃ n9 : Int,
        (w2.drew.cell? a10 = some (Value.int IntKind.i64 n9)) ∧
        slcc (p3) (k6) (IntKind.i64.wrap (n6 * n8)) (IntKind.i64.wrap (IntKind.i64.wrap (n6 + 1) * n9)) (1) fun p4 k7 k8 =>
        ∃ l1 : List Value,
        (l1.length = min k7 k3 * 1) ∧
        (oneAll l1 = true) ∧
        (CellsAre (w2.drew) p4 l1) ∧
        (((l1 = []) ∧
          (I1 [Value.int IntKind.i64 (IntKind.i64.wrap (n6 + 1))] w2.drew) ∧
          m1 [Value.int IntKind.i64 (IntKind.i64.wrap (n6 + 1))] w2.drew < m1 [Value.int IntKind.i64 n6] w2) ∨
        (∃ a11 : Addr,
          (p2 = some a11) ∧
          (CanSet (w2.drew) a11 (l1.length)) ∧
          (I1 [Value.int IntKind.i64 (IntKind.i64.wrap (n6 + 1))] (setCells w2.drew a11 l1 0)) ∧
          m1 [Value.int IntKind.i64 (IntKind.i64.wrap (n6 + 1))] (setCells w2.drew a11 l1 0) < m1 [Value.int IntKind.i64 n6] w2)))
        (R (Ending.returned (Value.int IntKind.i64 0)) w2)))
theorem calls_grid_Grid_string_Paste (q1 : Option Addr) (x1 : Int) (x2 : Int) (q2 : Option Addr) (w : World) (R : Ending → World → Prop) (h : vc_grid_Grid_string_Paste q1 x1 x2 q2 w R) : Calls P F.grid_Grid_string_Paste #[.pointer q1, .int .i64 x1, .int .i64 x2, .pointer q2] w R :=
  calls_of_vc (fn := Try.f38) (ac := ac_grid_Grid_string_Paste) (args := [.pointer q1, .int .i64 x1, .int .i64 x2, .pointer q2]) mixed Try.func38 (by kernel_rfl) (cast (by unfold vc_grid_Grid_string_Paste FnVc; kernel_rfl) h)
/-- darkroom/grid.New[string] -/
def vc_grid_New_string (x1 : Int) (x2 : Int) (w : World) (R : Ending → World → Prop) : Prop :=
  Calls P F.grid_fits #[Value.int IntKind.i64 x1, Value.int IntKind.i64 x2] w fun e1 w1 =>
  ∃ c1 : Bool,
  (e1 = Ending.returned (Value.bool c1)) ∧
  brB (!c1)
    (R (Ending.returned (Value.tuple #[Value.pointer none, Value.int IntKind.i64 4])) w1)
    ((0 ≤ IntKind.i64.wrap (x1 * x2)) ∧
    (IntKind.i64.wrap (x1 * x2) ≤ IntKind.i64.wrap (x1 * x2)) ∧
    (IntKind.i64.wrap (x1 * x2) * 16 ≤ 281474976710656) ∧
    (IntKind.i64.wrap (x1 * x2) < 4611686018427387904) ∧
    ∀ k1 : Nat,
    ∀ w2 : World,
    (New w1 (Obj.cells (mkCells [Value.string { data := #[] }] (IntKind.i64.wrap (x1 * x2)).toNat) 9) k1 w2) →
    ∀ k2 : Nat,
    ∀ w3 : World,
    (New w2 (Obj.cells #[Value.int IntKind.i64 x1, Value.int IntKind.i64 x2, Value.slice (some { block := k1, off := 0 }) (IntKind.i64.wrap (x1 * x2)).toNat (IntKind.i64.wrap (x1 * x2)).toNat] 90) k2 w3) →
    R (Ending.returned (Value.tuple #[Value.pointer (some { block := k2, off := 0 }), Value.int IntKind.i64 0])) w3)
theorem calls_grid_New_string (x1 : Int) (x2 : Int) (w : World) (R : Ending → World → Prop) (h : vc_grid_New_string x1 x2 w R) : Calls P F.grid_New_string #[.int .i64 x1, .int .i64 x2] w R :=
  calls_of_vc (fn := Try.f39) (ac := ac_grid_New_string) (args := [.int .i64 x1, .int .i64 x2]) mixed Try.func39 (by kernel_rfl) (cast (by unfold vc_grid_New_string FnVc; kernel_rfl) h)
/-- darkroom/darkroomref07.Fits -/
def vc_ref07_Fits (x1 : Int) (x2 : Int) (w : World) (R : Ending → World → Prop) : Prop :=
  R (Ending.returned (Value.bool (decide (x1 ≥ 1) && decide (x2 ≥ 1) && decide (x1 ≤ 4096) && decide (x2 ≤ 4096) && decide (IntKind.i64.wrap (x1 * x2) ≤ 65536)))) w
theorem calls_ref07_Fits (x1 : Int) (x2 : Int) (w : World) (R : Ending → World → Prop) (h : vc_ref07_Fits x1 x2 w R) : Calls P F.ref07_Fits #[.int .i64 x1, .int .i64 x2] w R :=
  calls_of_vc (fn := Try.f40) (ac := ac_ref07_Fits) (args := [.int .i64 x1, .int .i64 x2]) mixed Try.func40 (by kernel_rfl) (cast (by unfold vc_ref07_Fits FnVc; kernel_rfl) h)
/-- (*darkroom/grid.Grid[int]).has -/
def vc_grid_Grid_int_has (q1 : Option Addr) (x1 : Int) (x2 : Int) (w : World) (R : Ending → World → Prop) : Prop :=
  brB (!q1.isNone && decide (x1 ≥ 0) && decide (x2 ≥ 0))
    (nn (q1) fun a1 =>
    ∃ n1 : Int,
    (w.cell? a1 = some (Value.int IntKind.i64 n1)) ∧
    brB (decide (x1 < n1))
      (nn (q1) fun a2 =>
      ∃ n2 : Int,
      (w.cell? (a2.add 1) = some (Value.int IntKind.i64 n2)) ∧
      R (Ending.returned (Value.bool (decide (x2 < n2)))) w)
      (R (Ending.returned (Value.bool false)) w))
    (R (Ending.returned (Value.bool false)) w)
theorem calls_grid_Grid_int_has (q1 : Option Addr) (x1 : Int) (x2 : Int) (w : World) (R : Ending → World → Prop) (h : vc_grid_Grid_int_has q1 x1 x2 w R) : Calls P F.grid_Grid_int_has #[.pointer q1, .int .i64 x1, .int .i64 x2] w R :=
  calls_of_vc (fn := Try.f41) (ac := ac_grid_Grid_int_has) (args := [.pointer q1, .int .i64 x1, .int .i64 x2]) mixed Try.func41 (by kernel_rfl) (cast (by unfold vc_grid_Grid_int_has FnVc; kernel_rfl) h)
/-- (*darkroom/grid.Grid[int]).W -/
def vc_grid_Grid_int_W (q1 : Option Addr) (w : World) (R : Ending → World → Prop) : Prop :=
  brB (q1.isNone)
    (R (Ending.returned (Value.int IntKind.i64 0)) w)
    (nn (q1) fun a1 =>
    ∃ n1 : Int,
    (w.cell? a1 = some (Value.int IntKind.i64 n1)) ∧
    R (Ending.returned (Value.int IntKind.i64 n1)) w)
theorem calls_grid_Grid_int_W (q1 : Option Addr) (w : World) (R : Ending → World → Prop) (h : vc_grid_Grid_int_W q1 w R) : Calls P F.grid_Grid_int_W #[.pointer q1] w R :=
  calls_of_vc (fn := Try.f42) (ac := ac_grid_Grid_int_W) (args := [.pointer q1]) mixed Try.func42 (by kernel_rfl) (cast (by unfold vc_grid_Grid_int_W FnVc; kernel_rfl) h)
/-- (*darkroom/grid.Grid[int]).H -/
def vc_grid_Grid_int_H (q1 : Option Addr) (w : World) (R : Ending → World → Prop) : Prop :=
  brB (q1.isNone)
    (R (Ending.returned (Value.int IntKind.i64 0)) w)
    (nn (q1) fun a1 =>
    ∃ n1 : Int,
    (w.cell? (a1.add 1) = some (Value.int IntKind.i64 n1)) ∧
    R (Ending.returned (Value.int IntKind.i64 n1)) w)
theorem calls_grid_Grid_int_H (q1 : Option Addr) (w : World) (R : Ending → World → Prop) (h : vc_grid_Grid_int_H q1 w R) : Calls P F.grid_Grid_int_H #[.pointer q1] w R :=
  calls_of_vc (fn := Try.f43) (ac := ac_grid_Grid_int_H) (args := [.pointer q1]) mixed Try.func43 (by kernel_rfl) (cast (by unfold vc_grid_Grid_int_H FnVc; kernel_rfl) h)
/-- darkroom/grid.fits -/
def vc_grid_fits (x1 : Int) (x2 : Int) (w : World) (R : Ending → World → Prop) : Prop :=
  R (Ending.returned (Value.bool (decide (min x1 x2 ≥ 1) && decide (max x1 x2 ≤ 4096) && decide (IntKind.i64.wrap (x1 * x2) ≤ 65536)))) w
theorem calls_grid_fits (x1 : Int) (x2 : Int) (w : World) (R : Ending → World → Prop) (h : vc_grid_fits x1 x2 w R) : Calls P F.grid_fits #[.int .i64 x1, .int .i64 x2] w R :=
  calls_of_vc (fn := Try.f44) (ac := ac_grid_fits) (args := [.int .i64 x1, .int .i64 x2]) mixed Try.func44 (by kernel_rfl) (cast (by unfold vc_grid_fits FnVc; kernel_rfl) h)
/-- slices.Clone[[]int,int] -/
def vc_slices_Clone_int (sa1 : Option Addr) (sl1 sc1 : Nat) (w : World) (R : Ending → World → Prop) : Prop :=
  brB (sa1.isNone)
    (R (Ending.returned (Value.slice none 0 0)) w)
    (∀ k1 : Nat,
    ∀ w1 : World,
    (New w (Obj.cells #[] 3) k1 w1) →
    ∃ l1 : List Value,
    (l1.length = sl1 * 1) ∧
    (oneAll l1 = true) ∧
    (CellsAre w1 sa1 l1) ∧
    appVC (w1) ([]) (some { block := k1, off := 0 }) (0) (0) (sl1) (1) (8) (3) ([Value.int IntKind.i64 0]) (l1) fun p1 k2 k3 w2 =>
    R (Ending.returned (Value.slice p1 k2 k3)) w2)
theorem calls_slices_Clone_int (sa1 : Option Addr) (sl1 sc1 : Nat) (w : World) (R : Ending → World → Prop) (h : vc_slices_Clone_int sa1 sl1 sc1 w R) : Calls P F.slices_Clone_int #[.slice sa1 sl1 sc1] w R :=
  calls_of_vc (fn := Try.f45) (ac := ac_slices_Clone_int) (args := [.slice sa1 sl1 sc1]) mixed Try.func45 (by kernel_rfl) (cast (by unfold vc_slices_Clone_int FnVc; kernel_rfl) h)
/-- darkroom/grid.within -/
def vc_grid_within (x1 : Int) (x2 : Int) (x3 : Int) (x4 : Int) (x5 : Int) (x6 : Int) (w : World) (R : Ending → World → Prop) : Prop :=
  R (Ending.returned (Value.bool (decide (x3 ≥ 1) && decide (x4 ≥ 1) && decide (x1 ≥ 0) && decide (x2 ≥ 0) && decide (x1 ≤ IntKind.i64.wrap (x5 - x3)) && decide (x2 ≤ IntKind.i64.wrap (x6 - x4))))) w
theorem calls_grid_within (x1 : Int) (x2 : Int) (x3 : Int) (x4 : Int) (x5 : Int) (x6 : Int) (w : World) (R : Ending → World → Prop) (h : vc_grid_within x1 x2 x3 x4 x5 x6 w R) : Calls P F.grid_within #[.int .i64 x1, .int .i64 x2, .int .i64 x3, .int .i64 x4, .int .i64 x5, .int .i64 x6] w R :=
  calls_of_vc (fn := Try.f46) (ac := ac_grid_within) (args := [.int .i64 x1, .int .i64 x2, .int .i64 x3, .int .i64 x4, .int .i64 x5, .int .i64 x6]) mixed Try.func46 (by kernel_rfl) (cast (by unfold vc_grid_within FnVc; kernel_rfl) h)
/-- (*darkroom/grid.Grid[int]).Rows$1 -/
def vc_grid_Grid_int_Rows_fn1 (yl1 : Nat) (fr1 : Addr) (w : World) (R : Ending → World → Prop) : Prop :=
  ∃ p1 : Option Addr,
  (w.cell? fr1 = some (Value.pointer p1)) ∧
  Calls P F.grid_Grid_int_H #[Value.pointer p1] w fun e1 w1 =>
  ∃ n1 : Int,
  (e1 = Ending.returned (Value.int IntKind.i64 n1)) ∧
  ∃ I1 : List Value → World → Prop,
  ∃ m1 : List Value → World → Nat,
  (I1 [Value.int IntKind.i64 0] w1) ∧
  ∀ n2 : Int,
  ∀ w2 : World,
  (I1 [Value.int IntKind.i64 n2] w2) →
  brB (decide (n2 < n1))
    (∃ p2 : Option Addr,
    (w2.drew.cell? fr1 = some (Value.pointer p2)) ∧
    nn (p2) fun a1 =>
    ∃ p3 : Option Addr,
    ∃ k1 : Nat,
    ∃ k2 : Nat,
    (w2.drew.cell? (a1.add 2) = some (Value.slice p3 k1 k2)) ∧
    ∃ p4 : Option Addr,
    (w2.drew.cell? fr1 = some (Value.pointer p4)) ∧
    nn (p4) fun a2 =>
    ∃ n3 : Int,
    (w2.drew.cell? a2 = some (Value.int IntKind.i64 n3)) ∧
    ∃ p5 : Option Addr,
    (w2.drew.cell? fr1 = some (Value.pointer p5)) ∧
    nn (p5) fun a3 =>
    ∃ n4 : Int,
    (w2.drew.cell? a3 = some (Value.int IntKind.i64 n4)) ∧
    slcc (p3) (k2) (IntKind.i64.wrap (n2 * n3)) (IntKind.i64.wrap (IntKind.i64.wrap (n2 + 1) * n4)) (1) fun p6 k3 k4 =>
    Calls P F.slices_Clone_int #[Value.slice p6 k3 k4] (w2.drew) fun e2 w3 =>
    ∃ p7 : Option Addr,
    ∃ k5 : Nat,
    ∃ k6 : Nat,
    (e2 = Ending.returned (Value.slice p7 k5 k6)) ∧
    YieldAt Fence.wide 0 P (yl1) #[Value.int IntKind.i64 n2, Value.slice p7 k5 k6] w3 fun e3 w4 =>
    ∃ c1 : Bool,
    (e3 = Ending.returned (Value.bool c1)) ∧
    brB (!c1)
      (R (Ending.returned (Value.tuple #[])) w4)
      ((I1 [Value.int IntKind.i64 (IntKind.i64.wrap (n2 + 1))] w4) ∧
      m1 [Value.int IntKind.i64 (IntKind.i64.wrap (n2 + 1))] w4 < m1 [Value.int IntKind.i64 n2] w2))
    (R (Ending.returned (Value.tuple #[])) w2)
theorem calls_grid_Grid_int_Rows_fn1 (yl1 : Nat) (fr1 : Addr) (w : World) (R : Ending → World → Prop) (h : vc_grid_Grid_int_Rows_fn1 yl1 fr1 w R) : Calls P F.grid_Grid_int_Rows_fn1 #[.func (.yield yl1) #[] #[], .pointer (some fr1)] w R :=
  calls_of_vc (fn := Try.f47) (ac := ac_grid_Grid_int_Rows_fn1) (args := [.func (.yield yl1) #[] #[], .pointer (some fr1)]) mixed Try.func47 (by kernel_rfl) (cast (by unfold vc_grid_Grid_int_Rows_fn1 FnVc; kernel_rfl) h)
/-- darkroom/grid.Tiles$1 -/
def vc_grid_Tiles_fn1 (yl1 : Nat) (fr1 : Addr) (fr2 : Addr) (fr3 : Addr) (fr4 : Addr) (w : World) (R : Ending → World → Prop) : Prop :=
  ∃ n1 : Int,
  (w.cell? fr1 = some (Value.int IntKind.i64 n1)) ∧
  ∃ n2 : Int,
  (w.cell? fr2 = some (Value.int IntKind.i64 n2)) ∧
  Calls P F.grid_fits #[Value.int IntKind.i64 n1, Value.int IntKind.i64 n2] w fun e1 w1 =>
  ∃ c1 : Bool,
  (e1 = Ending.returned (Value.bool c1)) ∧
  brB (!c1)
    (R (Ending.returned (Value.tuple #[])) w1)
    (∃ n3 : Int,
    (w1.cell? fr3 = some (Value.int IntKind.i64 n3)) ∧
    brB (decide (n3 < 1))
      (R (Ending.returned (Value.tuple #[])) w1)
      (∃ n4 : Int,
      (w1.cell? fr4 = some (Value.int IntKind.i64 n4)) ∧
      brB (decide (n4 < 1))
        (R (Ending.returned (Value.tuple #[])) w1)
        (∃ n5 : Int,
        (w1.drew.cell? fr3 = some (Value.int IntKind.i64 n5)) ∧
        ∃ n6 : Int,
        (w1.drew.cell? fr1 = some (Value.int IntKind.i64 n6)) ∧
        ∃ n7 : Int,
        (w1.drew.cell? fr4 = some (Value.int IntKind.i64 n7)) ∧
        ∃ n8 : Int,
        (w1.drew.cell? fr2 = some (Value.int IntKind.i64 n8)) ∧
        ∃ I1 : List Value → World → Prop,
        ∃ m1 : List Value → World → Nat,
        (I1 [Value.int IntKind.i64 0] w1.drew) ∧
        ∀ n9 : Int,
        ∀ w2 : World,
        (I1 [Value.int IntKind.i64 n9] w2) →
        ∃ n10 : Int,
        (w2.cell? fr2 = some (Value.int IntKind.i64 n10)) ∧
        brB (decide (n9 < n10))
          (∃ I2 : List Value → World → Prop,
          ∃ m2 : List Value → World → Nat,
          (I2 [Value.int IntKind.i64 0] w2) ∧
          ∀ n11 : Int,
          ∀ w3 : World,
          (I2 [Value.int IntKind.i64 n11] w3) →
          ∃ n12 : Int,
          (w3.cell? fr1 = some (Value.int IntKind.i64 n12)) ∧
          brB (decide (n11 < n12))
            (∃ n13 : Int,
            (w3.cell? fr1 = some (Value.int IntKind.i64 n13)) ∧
            ∃ n14 : Int,
            (w3.cell? fr2 = some (Value.int IntKind.i64 n14)) ∧
            YieldAt Fence.wide 0 P (yl1) #[Value.agg #[Value.int IntKind.i64 n11, Value.int IntKind.i64 n9, Value.int IntKind.i64 (min (min n5 n6) (IntKind.i64.wrap (n13 - n11))), Value.int IntKind.i64 (min (min n7 n8) (IntKind.i64.wrap (n14 - n9)))]] w3 fun e2 w4 =>
            ∃ c2 : Bool,
            (e2 = Ending.returned (Value.bool c2)) ∧
            brB (!c2)
              (R (Ending.returned (Value.tuple #[])) w4)
              ((I2 [Value.int IntKind.i64 (IntKind.i64.wrap (n11 + min n5 n6))] w4) ∧
              m2 [Value.int IntKind.i64 (IntKind.i64.wrap (n11 + min n5 n6))] w4 < m2 [Value.int IntKind.i64 n11] w3))
            ((I1 [Value.int IntKind.i64 (IntKind.i64.wrap (n9 + min n7 n8))] w3) ∧
            m1 [Value.int IntKind.i64 (IntKind.i64.wrap (n9 + min n7 n8))] w3 < m1 [Value.int IntKind.i64 n9] w2))
          (R (Ending.returned (Value.tuple #[])) w2))))
theorem calls_grid_Tiles_fn1 (yl1 : Nat) (fr1 : Addr) (fr2 : Addr) (fr3 : Addr) (fr4 : Addr) (w : World) (R : Ending → World → Prop) (h : vc_grid_Tiles_fn1 yl1 fr1 fr2 fr3 fr4 w R) : Calls P F.grid_Tiles_fn1 #[.func (.yield yl1) #[] #[], .pointer (some fr1), .pointer (some fr2), .pointer (some fr3), .pointer (some fr4)] w R :=
  calls_of_vc (fn := Try.f48) (ac := ac_grid_Tiles_fn1) (args := [.func (.yield yl1) #[] #[], .pointer (some fr1), .pointer (some fr2), .pointer (some fr3), .pointer (some fr4)]) mixed Try.func48 (by kernel_rfl) (cast (by unfold vc_grid_Tiles_fn1 FnVc; kernel_rfl) h)
/-- slices.Clone[[]string,string] -/
def vc_slices_Clone_string (sa1 : Option Addr) (sl1 sc1 : Nat) (w : World) (R : Ending → World → Prop) : Prop :=
  brB (sa1.isNone)
    (R (Ending.returned (Value.slice none 0 0)) w)
    (∀ k1 : Nat,
    ∀ w1 : World,
    (New w (Obj.cells #[] 9) k1 w1) →
    ∃ l1 : List Value,
    (l1.length = sl1 * 1) ∧
    (oneAll l1 = true) ∧
    (CellsAre w1 sa1 l1) ∧
    appVC (w1) ([]) (some { block := k1, off := 0 }) (0) (0) (sl1) (1) (16) (9) ([Value.string { data := #[] }]) (l1) fun p1 k2 k3 w2 =>
    R (Ending.returned (Value.slice p1 k2 k3)) w2)
theorem calls_slices_Clone_string (sa1 : Option Addr) (sl1 sc1 : Nat) (w : World) (R : Ending → World → Prop) (h : vc_slices_Clone_string sa1 sl1 sc1 w R) : Calls P F.slices_Clone_string #[.slice sa1 sl1 sc1] w R :=
  calls_of_vc (fn := Try.f49) (ac := ac_slices_Clone_string) (args := [.slice sa1 sl1 sc1]) mixed Try.func49 (by kernel_rfl) (cast (by unfold vc_slices_Clone_string FnVc; kernel_rfl) h)
/-- darkroom/darkroomref07.Within -/
def vc_ref07_Within (x1 : Int) (x2 : Int) (x3 : Int) (x4 : Int) (x5 : Int) (x6 : Int) (w : World) (R : Ending → World → Prop) : Prop :=
  R (Ending.returned (Value.bool (decide (x3 ≥ 1) && decide (x4 ≥ 1) && decide (x1 ≥ 0) && decide (x2 ≥ 0) && decide (x3 ≤ x5) && decide (x4 ≤ x6) && decide (x1 ≤ IntKind.i64.wrap (x5 - x3)) && decide (x2 ≤ IntKind.i64.wrap (x6 - x4))))) w
theorem calls_ref07_Within (x1 : Int) (x2 : Int) (x3 : Int) (x4 : Int) (x5 : Int) (x6 : Int) (w : World) (R : Ending → World → Prop) (h : vc_ref07_Within x1 x2 x3 x4 x5 x6 w R) : Calls P F.ref07_Within #[.int .i64 x1, .int .i64 x2, .int .i64 x3, .int .i64 x4, .int .i64 x5, .int .i64 x6] w R :=
  calls_of_vc (fn := Try.f50) (ac := ac_ref07_Within) (args := [.int .i64 x1, .int .i64 x2, .int .i64 x3, .int .i64 x4, .int .i64 x5, .int .i64 x6]) mixed Try.func50 (by kernel_rfl) (cast (by unfold vc_ref07_Within FnVc; kernel_rfl) h)
/-- (*darkroom/grid.Grid[int]).All$1 -/
def vc_grid_Grid_int_All_fn1 (yl1 : Nat) (fr1 : Addr) (w : World) (R : Ending → World → Prop) : Prop :=
  ∃ p1 : Option Addr,
  (w.drew.cell? fr1 = some (Value.pointer p1)) ∧
  ∃ p2 : Option Addr,
  (w.drew.cell? fr1 = some (Value.pointer p2)) ∧
  Calls P F.grid_Grid_int_W #[Value.pointer p1] (w.drew) fun e1 w1 =>
  ∃ n1 : Int,
  (e1 = Ending.returned (Value.int IntKind.i64 n1)) ∧
  (Keeps (w.drew) w1) ∧
  Calls P F.grid_Grid_int_H #[Value.pointer p2] w1 fun e2 w2 =>
  ∃ n2 : Int,
  (e2 = Ending.returned (Value.int IntKind.i64 n2)) ∧
  ∃ I1 : List Value → World → Prop,
  ∃ m1 : List Value → World → Nat,
  (I1 [Value.int IntKind.i64 0] w2) ∧
  ∀ n3 : Int,
  ∀ w3 : World,
  (I1 [Value.int IntKind.i64 n3] w3) →
  brB (decide (n3 < IntKind.i64.wrap (n1 * n2)))
    (∃ p3 : Option Addr,
    (w3.drew.cell? fr1 = some (Value.pointer p3)) ∧
    nn (p3) fun a1 =>
    ∃ n4 : Int,
    (w3.drew.cell? a1 = some (Value.int IntKind.i64 n4)) ∧
    (n4 ≠ 0) ∧
    ∃ p4 : Option Addr,
    (w3.drew.cell? fr1 = some (Value.pointer p4)) ∧
    nn (p4) fun a2 =>
    ∃ n5 : Int,
    (w3.drew.cell? a2 = some (Value.int IntKind.i64 n5)) ∧
    (n5 ≠ 0) ∧
    ∃ p5 : Option Addr,
    (w3.drew.cell? fr1 = some (Value.pointer p5)) ∧
    nn (p5) fun a3 =>
    ∃ p6 : Option Addr,
    ∃ k1 : Nat,
    ∃ k2 : Nat,
    (w3.drew.cell? (a3.add 2) = some (Value.slice p6 k1 k2)) ∧
    idx (p6) (k1) (n3) (1) fun a4 =>
    ∃ n6 : Int,
    (w3.drew.cell? a4 = some (Value.int IntKind.i64 n6)) ∧
    YieldAt Fence.wide 0 P (yl1) #[Value.agg #[Value.int IntKind.i64 (divZ BinOp.rem IntKind.i64 n3 n4), Value.int IntKind.i64 (divZ BinOp.quo IntKind.i64 n3 n5)], Value.int IntKind.i64 n6] (w3.drew) fun e3 w4 =>
    ∃ c1 : Bool,
    (e3 = Ending.returned (Value.bool c1)) ∧
    brB (!c1)
      (R (Ending.returned (Value.tuple #[])) w4)
      ((I1 [Value.int IntKind.i64 (IntKind.i64.wrap (n3 + 1))] w4) ∧
      m1 [Value.int IntKind.i64 (IntKind.i64.wrap (n3 + 1))] w4 < m1 [Value.int IntKind.i64 n3] w3))
    (R (Ending.returned (Value.tuple #[])) w3)
theorem calls_grid_Grid_int_All_fn1 (yl1 : Nat) (fr1 : Addr) (w : World) (R : Ending → World → Prop) (h : vc_grid_Grid_int_All_fn1 yl1 fr1 w R) : Calls P F.grid_Grid_int_All_fn1 #[.func (.yield yl1) #[] #[], .pointer (some fr1)] w R :=
  calls_of_vc (fn := Try.f51) (ac := ac_grid_Grid_int_All_fn1) (args := [.func (.yield yl1) #[] #[], .pointer (some fr1)]) mixed Try.func51 (by kernel_rfl) (cast (by unfold vc_grid_Grid_int_All_fn1 FnVc; kernel_rfl) h)
/-- (*darkroom/grid.Grid[string]).has -/
def vc_grid_Grid_string_has (q1 : Option Addr) (x1 : Int) (x2 : Int) (w : World) (R : Ending → World → Prop) : Prop :=
  brB (!q1.isNone && decide (x1 ≥ 0) && decide (x2 ≥ 0))
    (nn (q1) fun a1 =>
    ∃ n1 : Int,
    (w.cell? a1 = some (Value.int IntKind.i64 n1)) ∧
    brB (decide (x1 < n1))
      (nn (q1) fun a2 =>
      ∃ n2 : Int,
      (w.cell? (a2.add 1) = some (Value.int IntKind.i64 n2)) ∧
      R (Ending.returned (Value.bool (decide (x2 < n2)))) w)
      (R (Ending.returned (Value.bool false)) w))
    (R (Ending.returned (Value.bool false)) w)
theorem calls_grid_Grid_string_has (q1 : Option Addr) (x1 : Int) (x2 : Int) (w : World) (R : Ending → World → Prop) (h : vc_grid_Grid_string_has q1 x1 x2 w R) : Calls P F.grid_Grid_string_has #[.pointer q1, .int .i64 x1, .int .i64 x2] w R :=
  calls_of_vc (fn := Try.f52) (ac := ac_grid_Grid_string_has) (args := [.pointer q1, .int .i64 x1, .int .i64 x2]) mixed Try.func52 (by kernel_rfl) (cast (by unfold vc_grid_Grid_string_has FnVc; kernel_rfl) h)
/-- (*darkroom/grid.Grid[string]).Rows$1 -/
def vc_grid_Grid_string_Rows_fn1 (yl1 : Nat) (fr1 : Addr) (w : World) (R : Ending → World → Prop) : Prop :=
  ∃ p1 : Option Addr,
  (w.cell? fr1 = some (Value.pointer p1)) ∧
  Calls P F.grid_Grid_string_H #[Value.pointer p1] w fun e1 w1 =>
  ∃ n1 : Int,
  (e1 = Ending.returned (Value.int IntKind.i64 n1)) ∧
  ∃ I1 : List Value → World → Prop,
  ∃ m1 : List Value → World → Nat,
  (I1 [Value.int IntKind.i64 0] w1) ∧
  ∀ n2 : Int,
  ∀ w2 : World,
  (I1 [Value.int IntKind.i64 n2] w2) →
  brB (decide (n2 < n1))
    (∃ p2 : Option Addr,
    (w2.drew.cell? fr1 = some (Value.pointer p2)) ∧
    nn (p2) fun a1 =>
    ∃ p3 : Option Addr,
    ∃ k1 : Nat,
    ∃ k2 : Nat,
    (w2.drew.cell? (a1.add 2) = some (Value.slice p3 k1 k2)) ∧
    ∃ p4 : Option Addr,
    (w2.drew.cell? fr1 = some (Value.pointer p4)) ∧
    nn (p4) fun a2 =>
    ∃ n3 : Int,
    (w2.drew.cell? a2 = some (Value.int IntKind.i64 n3)) ∧
    ∃ p5 : Option Addr,
    (w2.drew.cell? fr1 = some (Value.pointer p5)) ∧
    nn (p5) fun a3 =>
    ∃ n4 : Int,
    (w2.drew.cell? a3 = some (Value.int IntKind.i64 n4)) ∧
    slcc (p3) (k2) (IntKind.i64.wrap (n2 * n3)) (IntKind.i64.wrap (IntKind.i64.wrap (n2 + 1) * n4)) (1) fun p6 k3 k4 =>
    Calls P F.slices_Clone_string #[Value.slice p6 k3 k4] (w2.drew) fun e2 w3 =>
    ∃ p7 : Option Addr,
    ∃ k5 : Nat,
    ∃ k6 : Nat,
    (e2 = Ending.returned (Value.slice p7 k5 k6)) ∧
    YieldAt Fence.wide 0 P (yl1) #[Value.int IntKind.i64 n2, Value.slice p7 k5 k6] w3 fun e3 w4 =>
    ∃ c1 : Bool,
    (e3 = Ending.returned (Value.bool c1)) ∧
    brB (!c1)
      (R (Ending.returned (Value.tuple #[])) w4)
      ((I1 [Value.int IntKind.i64 (IntKind.i64.wrap (n2 + 1))] w4) ∧
      m1 [Value.int IntKind.i64 (IntKind.i64.wrap (n2 + 1))] w4 < m1 [Value.int IntKind.i64 n2] w2))
    (R (Ending.returned (Value.tuple #[])) w2)
theorem calls_grid_Grid_string_Rows_fn1 (yl1 : Nat) (fr1 : Addr) (w : World) (R : Ending → World → Prop) (h : vc_grid_Grid_string_Rows_fn1 yl1 fr1 w R) : Calls P F.grid_Grid_string_Rows_fn1 #[.func (.yield yl1) #[] #[], .pointer (some fr1)] w R :=
  calls_of_vc (fn := Try.f53) (ac := ac_grid_Grid_string_Rows_fn1) (args := [.func (.yield yl1) #[] #[], .pointer (some fr1)]) mixed Try.func53 (by kernel_rfl) (cast (by unfold vc_grid_Grid_string_Rows_fn1 FnVc; kernel_rfl) h)
end Go.Proofs.Ytpdfpbioolbjjaa
