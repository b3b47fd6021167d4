/- For each function the condition that its code asks, written out (by a program of ours), and the theorem that it suffices: the kernel holds both against the code. -/
import Derived.Test.YtlmnooodinfifaaFns
namespace Go.Proofs.Ytlmnooodinfifaa
open Go Go.Vc
set_option maxRecDepth 100000
set_option linter.unusedVariables false
/-- darkroom/darkroomlaw01.BitsWrites -/
def vc_law01_BitsWrites (b1 : Bool) (sa1 : Option Addr) (sl1 sc1 : Nat) (w : World) (R : Ending → World → Prop) : Prop :=
  Calls P F.law01_wakes #[] w fun e1 w1 =>
  ∃ c1 : Bool,
  (e1 = Ending.returned (Value.bool c1)) ∧
  brB (!c1)
    (R (Ending.returned (Value.bool false)) w1)
    (Calls P F.bits_NewWriter #[Value.bool b1] w1 fun e2 w2 =>
    ∃ p1 : Option Addr,
    (e2 = Ending.returned (Value.pointer p1)) ∧
    ∀ k1 : Nat,
    (w2.heap.size ≤ k1) →
    brB (p1.isNone)
      (∀ w3 : World,
      (Locl ([k1]) w2 w3) →
      R (Ending.returned (Value.bool false)) w3)
      (∃ I1 : List Value → World → Prop,
      ∃ m1 : List Value → World → Nat,
      (∀ w4 : World,
        (Locl ([k1]) w2 w4) →
        I1 [Value.int IntKind.i64 0, Value.bool b1, Value.slice none 0 0, Value.int IntKind.i64 0] w4) ∧
      ∀ n1 : Int,
      ∀ c2 : Bool,
      ∀ p2 : Option Addr,
      ∀ k2 : Nat,
      ∀ k3 : Nat,
      ∀ n2 : Int,
      ∀ w5 : World,
      (I1 [Value.int IntKind.i64 n1, Value.bool c2, Value.slice p2 k2 k3, Value.int IntKind.i64 n2] w5) →
      brB (decide (n1 < (↑sl1 : Int)))
        (∃ I2 : List Value → World → Prop,
        (idx (sa1) (sl1) (n1) (3) fun a1 =>
          ∃ n3 : Int,
          (w5.cell? a1 = some (Value.int IntKind.i64 n3)) ∧
          brB (n3 == 1)
            (Calls P F.bits_Writer_Align #[Value.pointer p1] w5 fun e3 w6 =>
            (e3 = Ending.returned (Value.tuple #[])) ∧
            (Keep ([k1]) w5 w6) ∧
            Calls P F.ref01_AlignW #[Value.agg #[Value.bool c2, Value.slice p2 k2 k3, Value.int IntKind.i64 n2]] w6 fun e4 w7 =>
            ∃ c3 : Bool,
            ∃ p3 : Option Addr,
            ∃ k4 : Nat,
            ∃ k5 : Nat,
            ∃ n4 : Int,
            (e4 = Ending.returned (Value.agg #[Value.bool c3, Value.slice p3 k4 k5, Value.int IntKind.i64 n4])) ∧
            (Keep ([k1]) w6 w7) ∧
            ∀ w8 : World,
            (Locl ([k1]) w7 w8) →
            I2 [Value.bool c3, Value.slice p3 k4 k5, Value.int IntKind.i64 n4] w8)
            (idx (sa1) (sl1) (n1) (3) fun a2 =>
            ∃ n5 : Int,
            (w5.drew.cell? (a2.add 2) = some (Value.int IntKind.u32 n5)) ∧
            idx (sa1) (sl1) (n1) (3) fun a3 =>
            ∃ n6 : Int,
            (w5.drew.cell? (a3.add 1) = some (Value.int IntKind.i64 n6)) ∧
            Calls P F.bits_Writer_Put #[Value.pointer p1, Value.int IntKind.u32 n5, Value.int IntKind.i64 n6] (w5.drew) fun e5 w9 =>
            ∃ n7 : Int,
            (e5 = Ending.returned (Value.int IntKind.i64 n7)) ∧
            (Keep ([k1]) (w5.drew) w9) ∧
            idx (sa1) (sl1) (n1) (3) fun a4 =>
            ∃ n8 : Int,
            (w9.drew.cell? (a4.add 2) = some (Value.int IntKind.u32 n8)) ∧
            idx (sa1) (sl1) (n1) (3) fun a5 =>
            ∃ n9 : Int,
            (w9.drew.cell? (a5.add 1) = some (Value.int IntKind.i64 n9)) ∧
            (Calls P F.ref01_Put #[Value.agg #[Value.bool c2, Value.slice p2 k2 k3, Value.int IntKind.i64 n2], Value.int IntKind.u32 n8, Value.int IntKind.i64 n9] (w9.drew) fun e6 w10 =>
              ∃ c4 : Bool,
              ∃ p4 : Option Addr,
              ∃ k6 : Nat,
              ∃ k7 : Nat,
              ∃ n10 : Int,
              ∃ n11 : Int,
              (e6 = Ending.returned (Value.tuple #[Value.agg #[Value.bool c4, Value.slice p4 k6 k7, Value.int IntKind.i64 n10], Value.int IntKind.i64 n11])) ∧
              (Keep ([k1]) (w9.drew) w10) ∧
              ∀ k8 : Nat,
              (w10.heap.size ≤ k8) →
              brB (n7 != n11)
                (∀ w11 : World,
                (Locl ([k8, k1]) w10 w11) →
                R (Ending.returned (Value.bool false)) w11)
                (∀ w12 : World,
                (Locl ([k8, k1]) w10 w12) →
                I2 [Value.bool c4, Value.slice p4 k6 k7, Value.int IntKind.i64 n10] w12)) ∧
            ∀ k9 : Nat,
            (w9.drew.heap.size ≤ k9) →
            ∀ w13 : World,
            (Locl ([k9, k1]) (w9.drew) w13) →
            Calls P F.ref01_Put #[Value.agg #[Value.bool c2, Value.slice p2 k2 k3, Value.int IntKind.i64 n2], Value.int IntKind.u32 n8, Value.int IntKind.i64 n9] w13 fun e7 w14 =>
            ∃ c5 : Bool,
            ∃ p5 : Option Addr,
            ∃ k10 : Nat,
            ∃ k11 : Nat,
            ∃ n12 : Int,
            ∃ n13 : Int,
            (e7 = Ending.returned (Value.tuple #[Value.agg #[Value.bool c5, Value.slice p5 k10 k11, Value.int IntKind.i64 n12], Value.int IntKind.i64 n13])) ∧
            (Keep ([k9, k1]) w13 w14) ∧
            brB (n7 != n13)
              (∀ w15 : World,
              (Locl ([k9, k1]) w14 w15) →
              R (Ending.returned (Value.bool false)) w15)
              (∀ w16 : World,
              (Locl ([k9, k1]) w14 w16) →
              I2 [Value.bool c5, Value.slice p5 k10 k11, Value.int IntKind.i64 n12] w16))) ∧
        ∀ c6 : Bool,
        ∀ p6 : Option Addr,
        ∀ k12 : Nat,
        ∀ k13 : Nat,
        ∀ n14 : Int,
        ∀ w17 : World,
        (I2 [Value.bool c6, Value.slice p6 k12 k13, Value.int IntKind.i64 n14] w17) →
        Calls P F.bits_Writer_Len #[Value.pointer p1] (w17.drew) fun e8 w18 =>
        ∃ n15 : Int,
        (e8 = Ending.returned (Value.int IntKind.i64 n15)) ∧
        (Keep ([k1]) (w17.drew) w18) ∧
        (Keeps (w17.drew) w18) ∧
        brB (n15 != n14)
          (R (Ending.returned (Value.bool false)) w18)
          (Calls P F.bits_Writer_Bytes #[Value.pointer p1] w18 fun e9 w19 =>
          ∃ p7 : Option Addr,
          ∃ k14 : Nat,
          ∃ k15 : Nat,
          (e9 = Ending.returned (Value.slice p7 k14 k15)) ∧
          (Keep ([k1]) w18 w19) ∧
          (Keeps w18 w19) ∧
          Calls P F.ref01_Same #[Value.slice p7 k14 k15, Value.slice p6 k12 k13] w19 fun e10 w20 =>
          ∃ c7 : Bool,
          (e10 = Ending.returned (Value.bool c7)) ∧
          (Keep ([k1]) w19 w20) ∧
          brB (!c7)
            (R (Ending.returned (Value.bool false)) w20)
            ((I1 [Value.int IntKind.i64 (IntKind.i64.wrap (n1 + 1)), Value.bool c6, Value.slice p6 k12 k13, Value.int IntKind.i64 n14] w20) ∧
            m1 [Value.int IntKind.i64 (IntKind.i64.wrap (n1 + 1)), Value.bool c6, Value.slice p6 k12 k13, Value.int IntKind.i64 n14] w20 < m1 [Value.int IntKind.i64 n1, Value.bool c2, Value.slice p2 k2 k3, Value.int IntKind.i64 n2] w5)))
        (R (Ending.returned (Value.bool true)) w5)))
theorem calls_law01_BitsWrites (b1 : Bool) (sa1 : Option Addr) (sl1 sc1 : Nat) (w : World) (R : Ending → World → Prop) (h : vc_law01_BitsWrites b1 sa1 sl1 sc1 w R) : Calls P F.law01_BitsWrites #[.bool b1, .slice sa1 sl1 sc1] w R :=
  calls_of_vc (fn := Try.f3) (ac := ac_law01_BitsWrites) (args := [.bool b1, .slice sa1 sl1 sc1]) mixed Try.func3 (by kernel_rfl) (cast (by kernel_rfl) h)
/-- darkroom/darkroomlaw01.BitsBack -/
def vc_law01_BitsBack (b1 : Bool) (sa1 : Option Addr) (sl1 sc1 : Nat) (w : World) (R : Ending → World → Prop) : Prop :=
  Calls P F.law01_wakes #[] w fun e1 w1 =>
  ∃ c1 : Bool,
  (e1 = Ending.returned (Value.bool c1)) ∧
  brB (!c1)
    (R (Ending.returned (Value.bool false)) w1)
    (Calls P F.bits_NewWriter #[Value.bool b1] w1 fun e2 w2 =>
    ∃ p1 : Option Addr,
    (e2 = Ending.returned (Value.pointer p1)) ∧
    brB (p1.isNone)
      (R (Ending.returned (Value.bool false)) w2)
      (∃ I1 : List Value → World → Prop,
      ∃ m1 : List Value → World → Nat,
      (I1 [Value.int IntKind.i64 0] w2) ∧
      ∀ n1 : Int,
      ∀ w3 : World,
      (I1 [Value.int IntKind.i64 n1] w3) →
      brB (decide (n1 < (↑sl1 : Int)))
        (idx (sa1) (sl1) (n1) (3) fun a1 =>
        ∃ n2 : Int,
        (w3.drew.cell? (a1.add 2) = some (Value.int IntKind.u32 n2)) ∧
        idx (sa1) (sl1) (n1) (3) fun a2 =>
        ∃ n3 : Int,
        (w3.drew.cell? (a2.add 1) = some (Value.int IntKind.i64 n3)) ∧
        Calls P F.bits_Writer_Put #[Value.pointer p1, Value.int IntKind.u32 n2, Value.int IntKind.i64 n3] (w3.drew) fun e3 w4 =>
        ∃ n4 : Int,
        (e3 = Ending.returned (Value.int IntKind.i64 n4)) ∧
        (I1 [Value.int IntKind.i64 (IntKind.i64.wrap (n1 + 1))] w4) ∧
        m1 [Value.int IntKind.i64 (IntKind.i64.wrap (n1 + 1))] w4 < m1 [Value.int IntKind.i64 n1] w3)
        (Calls P F.bits_Writer_Bytes #[Value.pointer p1] w3 fun e4 w5 =>
        ∃ p2 : Option Addr,
        ∃ k1 : Nat,
        ∃ k2 : Nat,
        (e4 = Ending.returned (Value.slice p2 k1 k2)) ∧
        Calls P F.bits_NewReader #[Value.slice p2 k1 k2, Value.bool b1] w5 fun e5 w6 =>
        ∃ p3 : Option Addr,
        (e5 = Ending.returned (Value.pointer p3)) ∧
        ∃ I2 : List Value → World → Prop,
        ∃ m2 : List Value → World → Nat,
        (I2 [Value.int IntKind.i64 0] w6) ∧
        ∀ n5 : Int,
        ∀ w7 : World,
        (I2 [Value.int IntKind.i64 n5] w7) →
        brB (decide (n5 < (↑sl1 : Int)))
          (∃ I3 : List Value → World → Prop,
          (idx (sa1) (sl1) (n5) (3) fun a3 =>
            ∃ n6 : Int,
            (w7.cell? (a3.add 1) = some (Value.int IntKind.i64 n6)) ∧
            brB (decide (n6 < 0) || decide (n6 > 32))
              (I3 [] w7)
              (Calls P F.bits_Reader_Take #[Value.pointer p3, Value.int IntKind.i64 n6] w7 fun e6 w8 =>
              ∃ n7 : Int,
              ∃ n8 : Int,
              (e6 = Ending.returned (Value.tuple #[Value.int IntKind.u32 n7, Value.int IntKind.i64 n8])) ∧
              brB (n8 != 0)
                (R (Ending.returned (Value.bool false)) w8)
                (idx (sa1) (sl1) (n5) (3) fun a4 =>
                ∃ n9 : Int,
                (w8.cell? (a4.add 2) = some (Value.int IntKind.u32 n9)) ∧
                (0 ≤ IntKind.u64.wrap n6) ∧
                (shiftZ BinOp.shl IntKind.u64 1 (IntKind.u64.wrap n6) ≠ 0) ∧
                brB (IntKind.u64.wrap n7 != divZ BinOp.rem IntKind.u64 (IntKind.u64.wrap n9) (shiftZ BinOp.shl IntKind.u64 1 (IntKind.u64.wrap n6)))
                  (R (Ending.returned (Value.bool false)) w8)
                  (I3 [] w8)))) ∧
          ∀ w9 : World,
          (I3 [] w9) →
          (I2 [Value.int IntKind.i64 (IntKind.i64.wrap (n5 + 1))] w9) ∧
          m2 [Value.int IntKind.i64 (IntKind.i64.wrap (n5 + 1))] w9 < m2 [Value.int IntKind.i64 n5] w7)
          (Calls P F.bits_Reader_Left #[Value.pointer p3] w7 fun e7 w10 =>
          ∃ n10 : Int,
          (e7 = Ending.returned (Value.int IntKind.i64 n10)) ∧
          brB (decide (n10 < 8))
            (Calls P F.bits_Reader_Place #[Value.pointer p3] w10 fun e8 w11 =>
            ∃ n11 : Int,
            (e8 = Ending.returned (Value.int IntKind.i64 n11)) ∧
            Calls P F.bits_Writer_Len #[Value.pointer p1] w11 fun e9 w12 =>
            ∃ n12 : Int,
            (e9 = Ending.returned (Value.int IntKind.i64 n12)) ∧
            R (Ending.returned (Value.bool (n11 == n12))) w12)
            (R (Ending.returned (Value.bool false)) w10)))))
theorem calls_law01_BitsBack (b1 : Bool) (sa1 : Option Addr) (sl1 sc1 : Nat) (w : World) (R : Ending → World → Prop) (h : vc_law01_BitsBack b1 sa1 sl1 sc1 w R) : Calls P F.law01_BitsBack #[.bool b1, .slice sa1 sl1 sc1] w R :=
  calls_of_vc (fn := Try.f4) (ac := ac_law01_BitsBack) (args := [.bool b1, .slice sa1 sl1 sc1]) mixed Try.func4 (by kernel_rfl) (cast (by kernel_rfl) h)
/-- darkroom/darkroomlaw01.BitsNumbers -/
def vc_law01_BitsNumbers (sa1 : Option Addr) (sl1 sc1 : Nat) (x1 : Int) (x2 : Int) (x3 : Int) (b1 : Bool) (w : World) (R : Ending → World → Prop) : Prop :=
  ∀ k1 : Nat,
  ∀ w1 : World,
  (New w (Obj.cells #[Value.int IntKind.i64 x1, Value.int IntKind.i64 x2, Value.int IntKind.i64 x3] 47) k1 w1) →
  Calls P F.law01_wakes #[] w1 fun e1 w2 =>
  ∃ c1 : Bool,
  (e1 = Ending.returned (Value.bool c1)) ∧
  brB (!c1)
    (R (Ending.returned (Value.bool false)) w2)
    (((0 : Int) ≤ 0) ∧
    ((0 : Int) < 3) ∧
    ∃ n1 : Int,
    (w2.drew.cell? { block := k1, off := 0 } = some (Value.int IntKind.i64 n1)) ∧
    ((0 : Int) ≤ 1) ∧
    ((1 : Int) < 3) ∧
    ∃ n2 : Int,
    (w2.drew.cell? { block := k1, off := 1 } = some (Value.int IntKind.i64 n2)) ∧
    ((0 : Int) ≤ 2) ∧
    ((2 : Int) < 3) ∧
    ∃ n3 : Int,
    (w2.drew.cell? { block := k1, off := 2 } = some (Value.int IntKind.i64 n3)) ∧
    Calls P F.law01_own #[Value.slice sa1 sl1 sc1] (w2.drew) fun e2 w3 =>
    ∃ p1 : Option Addr,
    ∃ k2 : Nat,
    ∃ k3 : Nat,
    (e2 = Ending.returned (Value.slice p1 k2 k3)) ∧
    Calls P F.bits_Get #[Value.slice p1 k2 k3, Value.int IntKind.i64 n1, Value.int IntKind.i64 n2, Value.bool b1] w3 fun e3 w4 =>
    ∃ n4 : Int,
    ∃ n5 : Int,
    (e3 = Ending.returned (Value.tuple #[Value.int IntKind.u32 n4, Value.int IntKind.i64 n5])) ∧
    Calls P F.ref01_Get #[Value.slice sa1 sl1 sc1, Value.int IntKind.i64 n1, Value.int IntKind.i64 n2, Value.bool b1] w4 fun e4 w5 =>
    ∃ n6 : Int,
    ∃ n7 : Int,
    (e4 = Ending.returned (Value.tuple #[Value.int IntKind.u32 n6, Value.int IntKind.i64 n7])) ∧
    Calls P F.law01_own #[Value.slice sa1 sl1 sc1] w5 fun e5 w6 =>
    ∃ p2 : Option Addr,
    ∃ k4 : Nat,
    ∃ k5 : Nat,
    (e5 = Ending.returned (Value.slice p2 k4 k5)) ∧
    Calls P F.bits_Set #[Value.slice p2 k4 k5, Value.int IntKind.i64 n1, Value.int IntKind.i64 n2, Value.bool b1, Value.int IntKind.u32 (IntKind.u32.wrap n3)] w6 fun e6 w7 =>
    ∃ p3 : Option Addr,
    ∃ k6 : Nat,
    ∃ k7 : Nat,
    ∃ n8 : Int,
    (e6 = Ending.returned (Value.tuple #[Value.slice p3 k6 k7, Value.int IntKind.i64 n8])) ∧
    Calls P F.ref01_Set #[Value.slice sa1 sl1 sc1, Value.int IntKind.i64 n1, Value.int IntKind.i64 n2, Value.bool b1, Value.int IntKind.u32 (IntKind.u32.wrap n3)] w7 fun e7 w8 =>
    ∃ p4 : Option Addr,
    ∃ k8 : Nat,
    ∃ k9 : Nat,
    ∃ n9 : Int,
    (e7 = Ending.returned (Value.tuple #[Value.slice p4 k8 k9, Value.int IntKind.i64 n9])) ∧
    brB (n4 != n6 || n5 != n7)
      (R (Ending.returned (Value.bool false)) w8)
      (Calls P F.ref01_Same #[Value.slice p3 k6 k7, Value.slice p4 k8 k9] w8 fun e8 w9 =>
      ∃ c2 : Bool,
      (e8 = Ending.returned (Value.bool c2)) ∧
      brB (!c2 || n8 != n9)
        (R (Ending.returned (Value.bool false)) w9)
        (brB (n8 != 0)
          (R (Ending.returned (Value.bool true)) w9)
          (Calls P F.bits_Get #[Value.slice p3 k6 k7, Value.int IntKind.i64 n1, Value.int IntKind.i64 n2, Value.bool b1] w9 fun e9 w10 =>
          ∃ n10 : Int,
          ∃ n11 : Int,
          (e9 = Ending.returned (Value.tuple #[Value.int IntKind.u32 n10, Value.int IntKind.i64 n11])) ∧
          brB (n11 == 0)
            ((0 ≤ IntKind.u64.wrap (IntKind.i64.wrap (8 * n2))) ∧
            (shiftZ BinOp.shl IntKind.u64 1 (IntKind.u64.wrap (IntKind.i64.wrap (8 * n2))) ≠ 0) ∧
            R (Ending.returned (Value.bool (IntKind.u64.wrap n10 == divZ BinOp.rem IntKind.u64 (IntKind.u64.wrap (IntKind.u32.wrap n3)) (shiftZ BinOp.shl IntKind.u64 1 (IntKind.u64.wrap (IntKind.i64.wrap (8 * n2))))))) w10)
            (R (Ending.returned (Value.bool false)) w10)))))
theorem calls_law01_BitsNumbers (sa1 : Option Addr) (sl1 sc1 : Nat) (x1 : Int) (x2 : Int) (x3 : Int) (b1 : Bool) (w : World) (R : Ending → World → Prop) (h : vc_law01_BitsNumbers sa1 sl1 sc1 x1 x2 x3 b1 w R) : Calls P F.law01_BitsNumbers #[.slice sa1 sl1 sc1, .agg #[.int .i64 x1, .int .i64 x2, .int .i64 x3], .bool b1] w R :=
  calls_of_vc (fn := Try.f5) (ac := ac_law01_BitsNumbers) (args := [.slice sa1 sl1 sc1, .agg #[.int .i64 x1, .int .i64 x2, .int .i64 x3], .bool b1]) mixed Try.func5 (by kernel_rfl) (cast (by kernel_rfl) h)
/-- darkroom/darkroomlaw01.BitsReads -/
def vc_law01_BitsReads (sa1 : Option Addr) (sl1 sc1 : Nat) (b1 : Bool) (sa2 : Option Addr) (sl2 sc2 : Nat) (w : World) (R : Ending → World → Prop) : Prop :=
  Calls P F.law01_wakes #[] w fun e1 w1 =>
  ∃ c1 : Bool,
  (e1 = Ending.returned (Value.bool c1)) ∧
  brB (!c1)
    (R (Ending.returned (Value.bool false)) w1)
    (Calls P F.law01_own #[Value.slice sa1 sl1 sc1] w1 fun e2 w2 =>
    ∃ p1 : Option Addr,
    ∃ k1 : Nat,
    ∃ k2 : Nat,
    (e2 = Ending.returned (Value.slice p1 k1 k2)) ∧
    Calls P F.bits_NewReader #[Value.slice p1 k1 k2, Value.bool b1] w2 fun e3 w3 =>
    ∃ p2 : Option Addr,
    (e3 = Ending.returned (Value.pointer p2)) ∧
    ∀ k3 : Nat,
    (w3.heap.size ≤ k3) →
    brB (p2.isNone)
      (∀ w4 : World,
      (Locl ([k3]) w3 w4) →
      R (Ending.returned (Value.bool false)) w4)
      (∃ I1 : List Value → World → Prop,
      ∃ m1 : List Value → World → Nat,
      (∀ w5 : World,
        (Locl ([k3]) w3 w5) →
        I1 [Value.int IntKind.i64 0, Value.slice sa1 sl1 sc1, Value.bool b1, Value.int IntKind.i64 0] w5) ∧
      ∀ n1 : Int,
      ∀ p3 : Option Addr,
      ∀ k4 : Nat,
      ∀ k5 : Nat,
      ∀ c2 : Bool,
      ∀ n2 : Int,
      ∀ w6 : World,
      (I1 [Value.int IntKind.i64 n1, Value.slice p3 k4 k5, Value.bool c2, Value.int IntKind.i64 n2] w6) →
      brB (decide (n1 < (↑sl2 : Int)))
        (idx (sa2) (sl2) (n1) (3) fun a1 =>
        ∃ n3 : Int,
        (w6.cell? a1 = some (Value.int IntKind.i64 n3)) ∧
        ∃ I2 : List Value → World → Prop,
        (brB (n3 == 0)
            (idx (sa2) (sl2) (n1) (3) fun a2 =>
            ∃ n4 : Int,
            (w6.cell? (a2.add 1) = some (Value.int IntKind.i64 n4)) ∧
            Calls P F.bits_Reader_Take #[Value.pointer p2, Value.int IntKind.i64 n4] w6 fun e4 w7 =>
            ∃ n5 : Int,
            ∃ n6 : Int,
            (e4 = Ending.returned (Value.tuple #[Value.int IntKind.u32 n5, Value.int IntKind.i64 n6])) ∧
            (Keep ([k3]) w6 w7) ∧
            ∃ I3 : List Value → World → Prop,
            (idx (sa2) (sl2) (n1) (3) fun a3 =>
              ∃ n7 : Int,
              (w7.drew.cell? (a3.add 1) = some (Value.int IntKind.i64 n7)) ∧
              (Calls P F.ref01_Take #[Value.agg #[Value.slice p3 k4 k5, Value.bool c2, Value.int IntKind.i64 n2], Value.int IntKind.i64 n7] (w7.drew) fun e5 w8 =>
                ∃ p4 : Option Addr,
                ∃ k6 : Nat,
                ∃ k7 : Nat,
                ∃ c3 : Bool,
                ∃ n8 : Int,
                ∃ n9 : Int,
                ∃ n10 : Int,
                (e5 = Ending.returned (Value.tuple #[Value.agg #[Value.slice p4 k6 k7, Value.bool c3, Value.int IntKind.i64 n8], Value.int IntKind.u32 n9, Value.int IntKind.i64 n10])) ∧
                (Keep ([k3]) (w7.drew) w8) ∧
                ∀ k8 : Nat,
                (w8.heap.size ≤ k8) →
                ∀ w9 : World,
                (Locl ([k8, k3]) w8 w9) →
                I3 [Value.int IntKind.u32 n9, Value.int IntKind.i64 n10, Value.pointer (some { block := k8, off := 0 }), Value.slice p4 k6 k7, Value.bool c3, Value.int IntKind.i64 n8] w9) ∧
              ∀ k9 : Nat,
              (w7.drew.heap.size ≤ k9) →
              ∀ w10 : World,
              (Locl ([k9, k3]) (w7.drew) w10) →
              Calls P F.ref01_Take #[Value.agg #[Value.slice p3 k4 k5, Value.bool c2, Value.int IntKind.i64 n2], Value.int IntKind.i64 n7] w10 fun e6 w11 =>
              ∃ p5 : Option Addr,
              ∃ k10 : Nat,
              ∃ k11 : Nat,
              ∃ c4 : Bool,
              ∃ n11 : Int,
              ∃ n12 : Int,
              ∃ n13 : Int,
              (e6 = Ending.returned (Value.tuple #[Value.agg #[Value.slice p5 k10 k11, Value.bool c4, Value.int IntKind.i64 n11], Value.int IntKind.u32 n12, Value.int IntKind.i64 n13])) ∧
              (Keep ([k9, k3]) w10 w11) ∧
              ∀ w12 : World,
              (Locl ([k9, k3]) w11 w12) →
              I3 [Value.int IntKind.u32 n12, Value.int IntKind.i64 n13, Value.pointer (some { block := k9, off := 0 }), Value.slice p5 k10 k11, Value.bool c4, Value.int IntKind.i64 n11] w12) ∧
            ∀ n14 : Int,
            ∀ n15 : Int,
            ∀ k12 : Nat,
            ∀ p6 : Option Addr,
            ∀ k13 : Nat,
            ∀ k14 : Nat,
            ∀ c5 : Bool,
            ∀ n16 : Int,
            ∀ w13 : World,
            (I3 [Value.int IntKind.u32 n14, Value.int IntKind.i64 n15, Value.pointer (some { block := k12, off := 0 }), Value.slice p6 k13 k14, Value.bool c5, Value.int IntKind.i64 n16] w13) →
            brB (n5 != n14 || n6 != n15)
              (∀ w14 : World,
              (Locl ([k12, k3]) w13 w14) →
              R (Ending.returned (Value.bool false)) w14)
              (∀ w15 : World,
              (Locl ([k12, k3]) w13 w15) →
              I2 [Value.slice p6 k13 k14, Value.bool c5, Value.int IntKind.i64 n16] w15))
            (brB (n3 == 1)
              (Calls P F.bits_Reader_Align #[Value.pointer p2] w6 fun e7 w16 =>
              (e7 = Ending.returned (Value.tuple #[])) ∧
              (Keep ([k3]) w6 w16) ∧
              Calls P F.ref01_Align #[Value.agg #[Value.slice p3 k4 k5, Value.bool c2, Value.int IntKind.i64 n2]] w16 fun e8 w17 =>
              ∃ p7 : Option Addr,
              ∃ k15 : Nat,
              ∃ k16 : Nat,
              ∃ c6 : Bool,
              ∃ n17 : Int,
              (e8 = Ending.returned (Value.agg #[Value.slice p7 k15 k16, Value.bool c6, Value.int IntKind.i64 n17])) ∧
              (Keep ([k3]) w16 w17) ∧
              ∀ w18 : World,
              (Locl ([k3]) w17 w18) →
              I2 [Value.slice p7 k15 k16, Value.bool c6, Value.int IntKind.i64 n17] w18)
              (brB (n3 == 2)
                (idx (sa2) (sl2) (n1) (3) fun a4 =>
                ∃ n18 : Int,
                (w6.cell? (a4.add 1) = some (Value.int IntKind.i64 n18)) ∧
                Calls P F.bits_Reader_Bytes #[Value.pointer p2, Value.int IntKind.i64 n18] w6 fun e9 w19 =>
                ∃ p8 : Option Addr,
                ∃ k17 : Nat,
                ∃ k18 : Nat,
                ∃ n19 : Int,
                (e9 = Ending.returned (Value.tuple #[Value.slice p8 k17 k18, Value.int IntKind.i64 n19])) ∧
                (Keep ([k3]) w6 w19) ∧
                ∃ I4 : List Value → World → Prop,
                (idx (sa2) (sl2) (n1) (3) fun a5 =>
                  ∃ n20 : Int,
                  (w19.drew.cell? (a5.add 1) = some (Value.int IntKind.i64 n20)) ∧
                  (Calls P F.ref01_Bytes #[Value.agg #[Value.slice p3 k4 k5, Value.bool c2, Value.int IntKind.i64 n2], Value.int IntKind.i64 n20] (w19.drew) fun e10 w20 =>
                    ∃ p9 : Option Addr,
                    ∃ k19 : Nat,
                    ∃ k20 : Nat,
                    ∃ c7 : Bool,
                    ∃ n21 : Int,
                    ∃ p10 : Option Addr,
                    ∃ k21 : Nat,
                    ∃ k22 : Nat,
                    ∃ n22 : Int,
                    (e10 = Ending.returned (Value.tuple #[Value.agg #[Value.slice p9 k19 k20, Value.bool c7, Value.int IntKind.i64 n21], Value.slice p10 k21 k22, Value.int IntKind.i64 n22])) ∧
                    (Keep ([k3]) (w19.drew) w20) ∧
                    ∀ k23 : Nat,
                    (w20.heap.size ≤ k23) →
                    ∀ w21 : World,
                    (Locl ([k23, k3]) w20 w21) →
                    I4 [Value.slice p10 k21 k22, Value.int IntKind.i64 n22, Value.pointer (some { block := k23, off := 0 }), Value.slice p9 k19 k20, Value.bool c7, Value.int IntKind.i64 n21] w21) ∧
                  ∀ k24 : Nat,
                  (w19.drew.heap.size ≤ k24) →
                  ∀ w22 : World,
                  (Locl ([k24, k3]) (w19.drew) w22) →
                  Calls P F.ref01_Bytes #[Value.agg #[Value.slice p3 k4 k5, Value.bool c2, Value.int IntKind.i64 n2], Value.int IntKind.i64 n20] w22 fun e11 w23 =>
                  ∃ p11 : Option Addr,
                  ∃ k25 : Nat,
                  ∃ k26 : Nat,
                  ∃ c8 : Bool,
                  ∃ n23 : Int,
                  ∃ p12 : Option Addr,
                  ∃ k27 : Nat,
                  ∃ k28 : Nat,
                  ∃ n24 : Int,
                  (e11 = Ending.returned (Value.tuple #[Value.agg #[Value.slice p11 k25 k26, Value.bool c8, Value.int IntKind.i64 n23], Value.slice p12 k27 k28, Value.int IntKind.i64 n24])) ∧
                  (Keep ([k24, k3]) w22 w23) ∧
                  ∀ w24 : World,
                  (Locl ([k24, k3]) w23 w24) →
                  I4 [Value.slice p12 k27 k28, Value.int IntKind.i64 n24, Value.pointer (some { block := k24, off := 0 }), Value.slice p11 k25 k26, Value.bool c8, Value.int IntKind.i64 n23] w24) ∧
                ∀ p13 : Option Addr,
                ∀ k29 : Nat,
                ∀ k30 : Nat,
                ∀ n25 : Int,
                ∀ k31 : Nat,
                ∀ p14 : Option Addr,
                ∀ k32 : Nat,
                ∀ k33 : Nat,
                ∀ c9 : Bool,
                ∀ n26 : Int,
                ∀ w25 : World,
                (I4 [Value.slice p13 k29 k30, Value.int IntKind.i64 n25, Value.pointer (some { block := k31, off := 0 }), Value.slice p14 k32 k33, Value.bool c9, Value.int IntKind.i64 n26] w25) →
                ∀ w26 : World,
                (Locl ([k31, k3]) w25 w26) →
                Calls P F.ref01_Same #[Value.slice p8 k17 k18, Value.slice p13 k29 k30] w26 fun e12 w27 =>
                ∃ c10 : Bool,
                (e12 = Ending.returned (Value.bool c10)) ∧
                (Keep ([k31, k3]) w26 w27) ∧
                brB (!c10 || n19 != n25)
                  (R (Ending.returned (Value.bool false)) w27)
                  (I2 [Value.slice p14 k32 k33, Value.bool c9, Value.int IntKind.i64 n26] w27))
                (I2 [Value.slice p3 k4 k5, Value.bool c2, Value.int IntKind.i64 n2] w6)))) ∧
        ∀ p15 : Option Addr,
        ∀ k34 : Nat,
        ∀ k35 : Nat,
        ∀ c11 : Bool,
        ∀ n27 : Int,
        ∀ w28 : World,
        (I2 [Value.slice p15 k34 k35, Value.bool c11, Value.int IntKind.i64 n27] w28) →
        Calls P F.bits_Reader_Left #[Value.pointer p2] (w28.drew) fun e13 w29 =>
        ∃ n28 : Int,
        (e13 = Ending.returned (Value.int IntKind.i64 n28)) ∧
        (Keep ([k3]) (w28.drew) w29) ∧
        (Keeps (w28.drew) w29) ∧
        Calls P F.ref01_Left #[Value.agg #[Value.slice p15 k34 k35, Value.bool c11, Value.int IntKind.i64 n27]] w29 fun e14 w30 =>
        ∃ n29 : Int,
        (e14 = Ending.returned (Value.int IntKind.i64 n29)) ∧
        (Keep ([k3]) w29 w30) ∧
        brB (n28 != n29)
          (R (Ending.returned (Value.bool false)) w30)
          (Calls P F.bits_Reader_Place #[Value.pointer p2] w30 fun e15 w31 =>
          ∃ n30 : Int,
          (e15 = Ending.returned (Value.int IntKind.i64 n30)) ∧
          (Keep ([k3]) w30 w31) ∧
          (Keeps w30 w31) ∧
          brB (n30 != n27)
            (R (Ending.returned (Value.bool false)) w31)
            ((I1 [Value.int IntKind.i64 (IntKind.i64.wrap (n1 + 1)), Value.slice p15 k34 k35, Value.bool c11, Value.int IntKind.i64 n27] w31) ∧
            m1 [Value.int IntKind.i64 (IntKind.i64.wrap (n1 + 1)), Value.slice p15 k34 k35, Value.bool c11, Value.int IntKind.i64 n27] w31 < m1 [Value.int IntKind.i64 n1, Value.slice p3 k4 k5, Value.bool c2, Value.int IntKind.i64 n2] w6)))
        (R (Ending.returned (Value.bool true)) w6)))
theorem calls_law01_BitsReads (sa1 : Option Addr) (sl1 sc1 : Nat) (b1 : Bool) (sa2 : Option Addr) (sl2 sc2 : Nat) (w : World) (R : Ending → World → Prop) (h : vc_law01_BitsReads sa1 sl1 sc1 b1 sa2 sl2 sc2 w R) : Calls P F.law01_BitsReads #[.slice sa1 sl1 sc1, .bool b1, .slice sa2 sl2 sc2] w R :=
  calls_of_vc (fn := Try.f6) (ac := ac_law01_BitsReads) (args := [.slice sa1 sl1 sc1, .bool b1, .slice sa2 sl2 sc2]) mixed Try.func6 (by kernel_rfl) (cast (by kernel_rfl) h)
/-- darkroom/darkroomlaw01.BitsStuffs -/
def vc_law01_BitsStuffs (sa1 : Option Addr) (sl1 sc1 : Nat) (w : World) (R : Ending → World → Prop) : Prop :=
  Calls P F.law01_wakes #[] w fun e1 w1 =>
  ∃ c1 : Bool,
  (e1 = Ending.returned (Value.bool c1)) ∧
  brB (!c1)
    (R (Ending.returned (Value.bool false)) w1)
    (Calls P F.law01_own #[Value.slice sa1 sl1 sc1] w1 fun e2 w2 =>
    ∃ p1 : Option Addr,
    ∃ k1 : Nat,
    ∃ k2 : Nat,
    (e2 = Ending.returned (Value.slice p1 k1 k2)) ∧
    Calls P F.bits_Stuff #[Value.slice p1 k1 k2] w2 fun e3 w3 =>
    ∃ p2 : Option Addr,
    ∃ k3 : Nat,
    ∃ k4 : Nat,
    (e3 = Ending.returned (Value.slice p2 k3 k4)) ∧
    Calls P F.law01_own #[Value.slice sa1 sl1 sc1] w3 fun e4 w4 =>
    ∃ p3 : Option Addr,
    ∃ k5 : Nat,
    ∃ k6 : Nat,
    (e4 = Ending.returned (Value.slice p3 k5 k6)) ∧
    Calls P F.bits_Unstuff #[Value.slice p3 k5 k6] w4 fun e5 w5 =>
    ∃ p4 : Option Addr,
    ∃ k7 : Nat,
    ∃ k8 : Nat,
    ∃ n1 : Int,
    (e5 = Ending.returned (Value.tuple #[Value.slice p4 k7 k8, Value.int IntKind.i64 n1])) ∧
    Calls P F.ref01_Unstuff #[Value.slice sa1 sl1 sc1] w5 fun e6 w6 =>
    ∃ p5 : Option Addr,
    ∃ k9 : Nat,
    ∃ k10 : Nat,
    ∃ n2 : Int,
    (e6 = Ending.returned (Value.tuple #[Value.slice p5 k9 k10, Value.int IntKind.i64 n2])) ∧
    Calls P F.law01_own #[Value.slice p2 k3 k4] w6 fun e7 w7 =>
    ∃ p6 : Option Addr,
    ∃ k11 : Nat,
    ∃ k12 : Nat,
    (e7 = Ending.returned (Value.slice p6 k11 k12)) ∧
    Calls P F.bits_Unstuff #[Value.slice p6 k11 k12] w7 fun e8 w8 =>
    ∃ p7 : Option Addr,
    ∃ k13 : Nat,
    ∃ k14 : Nat,
    ∃ n3 : Int,
    (e8 = Ending.returned (Value.tuple #[Value.slice p7 k13 k14, Value.int IntKind.i64 n3])) ∧
    Calls P F.ref01_Stuff #[Value.slice sa1 sl1 sc1] w8 fun e9 w9 =>
    ∃ p8 : Option Addr,
    ∃ k15 : Nat,
    ∃ k16 : Nat,
    (e9 = Ending.returned (Value.slice p8 k15 k16)) ∧
    Calls P F.ref01_Same #[Value.slice p2 k3 k4, Value.slice p8 k15 k16] w9 fun e10 w10 =>
    ∃ c2 : Bool,
    (e10 = Ending.returned (Value.bool c2)) ∧
    brB (c2)
      (Calls P F.ref01_Same #[Value.slice p4 k7 k8, Value.slice p5 k9 k10] w10 fun e11 w11 =>
      ∃ c3 : Bool,
      (e11 = Ending.returned (Value.bool c3)) ∧
      brB (c3 && n1 == n2)
        (Calls P F.ref01_Same #[Value.slice p7 k13 k14, Value.slice sa1 sl1 sc1] w11 fun e12 w12 =>
        ∃ c4 : Bool,
        (e12 = Ending.returned (Value.bool c4)) ∧
        R (Ending.returned (Value.bool (c4 && n3 == (↑k3 : Int)))) w12)
        (R (Ending.returned (Value.bool false)) w11))
      (R (Ending.returned (Value.bool false)) w10))
theorem calls_law01_BitsStuffs (sa1 : Option Addr) (sl1 sc1 : Nat) (w : World) (R : Ending → World → Prop) (h : vc_law01_BitsStuffs sa1 sl1 sc1 w R) : Calls P F.law01_BitsStuffs #[.slice sa1 sl1 sc1] w R :=
  calls_of_vc (fn := Try.f7) (ac := ac_law01_BitsStuffs) (args := [.slice sa1 sl1 sc1]) mixed Try.func7 (by kernel_rfl) (cast (by kernel_rfl) h)
/-- darkroom/darkroomlaw01.BitsNil -/
def vc_law01_BitsNil (x1 : Int) (x2 : Int) (w : World) (R : Ending → World → Prop) : Prop :=
  Calls P F.law01_wakes #[] w fun e1 w1 =>
  ∃ c1 : Bool,
  (e1 = Ending.returned (Value.bool c1)) ∧
  brB (!c1)
    (R (Ending.returned (Value.bool false)) w1)
    (Calls P F.bits_Reader_Take #[Value.pointer none, Value.int IntKind.i64 x1] w1 fun e2 w2 =>
    ∃ n1 : Int,
    ∃ n2 : Int,
    (e2 = Ending.returned (Value.tuple #[Value.int IntKind.u32 n1, Value.int IntKind.i64 n2])) ∧
    Calls P F.bits_Reader_Bytes #[Value.pointer none, Value.int IntKind.i64 x1] w2 fun e3 w3 =>
    ∃ p1 : Option Addr,
    ∃ k1 : Nat,
    ∃ k2 : Nat,
    ∃ n3 : Int,
    (e3 = Ending.returned (Value.tuple #[Value.slice p1 k1 k2, Value.int IntKind.i64 n3])) ∧
    Calls P F.bits_Reader_Align #[Value.pointer none] w3 fun e4 w4 =>
    (e4 = Ending.returned (Value.tuple #[])) ∧
    Calls P F.bits_Writer_Align #[Value.pointer none] w4 fun e5 w5 =>
    (e5 = Ending.returned (Value.tuple #[])) ∧
    brB (n2 == 1 && n3 == 1)
      (Calls P F.bits_Writer_Put #[Value.pointer none, Value.int IntKind.u32 x2, Value.int IntKind.i64 x1] w5 fun e6 w6 =>
      ∃ n4 : Int,
      (e6 = Ending.returned (Value.int IntKind.i64 n4)) ∧
      brB (n4 == 1)
        (Calls P F.bits_Reader_Left #[Value.pointer none] w6 fun e7 w7 =>
        ∃ n5 : Int,
        (e7 = Ending.returned (Value.int IntKind.i64 n5)) ∧
        Calls P F.bits_Reader_Place #[Value.pointer none] w7 fun e8 w8 =>
        ∃ n6 : Int,
        (e8 = Ending.returned (Value.int IntKind.i64 n6)) ∧
        Calls P F.bits_Writer_Len #[Value.pointer none] w8 fun e9 w9 =>
        ∃ n7 : Int,
        (e9 = Ending.returned (Value.int IntKind.i64 n7)) ∧
        Calls P F.bits_Writer_Bytes #[Value.pointer none] w9 fun e10 w10 =>
        ∃ p2 : Option Addr,
        ∃ k3 : Nat,
        ∃ k4 : Nat,
        (e10 = Ending.returned (Value.slice p2 k3 k4)) ∧
        R (Ending.returned (Value.bool (IntKind.i64.wrap (IntKind.i64.wrap (IntKind.i64.wrap (n5 + n6) + n7) + (↑k3 : Int)) == 0))) w10)
        (R (Ending.returned (Value.bool false)) w6))
      (R (Ending.returned (Value.bool false)) w5))
theorem calls_law01_BitsNil (x1 : Int) (x2 : Int) (w : World) (R : Ending → World → Prop) (h : vc_law01_BitsNil x1 x2 w R) : Calls P F.law01_BitsNil #[.int .i64 x1, .int .u32 x2] w R :=
  calls_of_vc (fn := Try.f8) (ac := ac_law01_BitsNil) (args := [.int .i64 x1, .int .u32 x2]) mixed Try.func8 (by kernel_rfl) (cast (by kernel_rfl) h)
/-- darkroom/darkroomlaw01.BitsOwn -/
def vc_law01_BitsOwn (sa1 : Option Addr) (sl1 sc1 : Nat) (b1 : Bool) (sa2 : Option Addr) (sl2 sc2 : Nat) (w : World) (R : Ending → World → Prop) : Prop :=
  Calls P F.law01_wakes #[] w fun e1 w1 =>
  ∃ c1 : Bool,
  (e1 = Ending.returned (Value.bool c1)) ∧
  brB (!c1)
    (R (Ending.returned (Value.bool false)) w1)
    (Calls P F.law01_own #[Value.slice sa1 sl1 sc1] w1 fun e2 w2 =>
    ∃ p1 : Option Addr,
    ∃ k1 : Nat,
    ∃ k2 : Nat,
    (e2 = Ending.returned (Value.slice p1 k1 k2)) ∧
    ∀ k3 : Nat,
    (w2.heap.size ≤ k3) →
    ∀ w3 : World,
    (Locl ([k3]) w2 w3) →
    appVC (w3) ([(24, k3, [Value.int IntKind.u8 77])]) (p1) (k1) (k2) (1) (1) (1) (5) ([Value.int IntKind.u8 0]) ([Value.int IntKind.u8 77]) fun p2 k4 k5 w4 =>
    slcc (p2) (k5) (0) ((↑sl1 : Int)) (1) fun p3 k6 k7 =>
    Calls P F.bits_NewReader #[Value.slice p3 k6 k7, Value.bool b1] w4 fun e3 w5 =>
    ∃ p4 : Option Addr,
    (e3 = Ending.returned (Value.pointer p4)) ∧
    (Keep ([k3]) w4 w5) ∧
    slcc (p2) (k5) (0) ((↑sl1 : Int)) (1) fun p5 k8 k9 =>
    Calls P F.bits_Set #[Value.slice p5 k8 k9, Value.int IntKind.i64 0, Value.int IntKind.i64 1, Value.bool false, Value.int IntKind.u32 9] w5 fun e4 w6 =>
    ∃ p6 : Option Addr,
    ∃ k10 : Nat,
    ∃ k11 : Nat,
    ∃ n1 : Int,
    (e4 = Ending.returned (Value.tuple #[Value.slice p6 k10 k11, Value.int IntKind.i64 n1])) ∧
    (Keep ([k3]) w5 w6) ∧
    slcc (p2) (k5) (0) ((↑sl1 : Int)) (1) fun p7 k12 k13 =>
    Calls P F.bits_Unstuff #[Value.slice p7 k12 k13] w6 fun e5 w7 =>
    ∃ p8 : Option Addr,
    ∃ k14 : Nat,
    ∃ k15 : Nat,
    ∃ n2 : Int,
    (e5 = Ending.returned (Value.tuple #[Value.slice p8 k14 k15, Value.int IntKind.i64 n2])) ∧
    (Keep ([k3]) w6 w7) ∧
    slcc (p2) (k5) (0) ((↑sl1 : Int)) (1) fun p9 k16 k17 =>
    Calls P F.bits_Stuff #[Value.slice p9 k16 k17] w7 fun e6 w8 =>
    ∃ p10 : Option Addr,
    ∃ k18 : Nat,
    ∃ k19 : Nat,
    (e6 = Ending.returned (Value.slice p10 k18 k19)) ∧
    (Keep ([k3]) w7 w8) ∧
    brB (p4.isNone)
      (R (Ending.returned (Value.bool false)) w8)
      (idx (p2) (k4) ((↑sl1 : Int)) (1) fun a1 =>
      ∃ n3 : Int,
      (w8.cell? a1 = some (Value.int IntKind.u8 n3)) ∧
      brB (n3 != 77)
        (R (Ending.returned (Value.bool false)) w8)
        (slcc (p2) (k5) (0) ((↑sl1 : Int)) (1) fun p11 k20 k21 =>
        Calls P F.ref01_Same #[Value.slice p11 k20 k21, Value.slice sa1 sl1 sc1] w8 fun e7 w9 =>
        ∃ c2 : Bool,
        (e7 = Ending.returned (Value.bool c2)) ∧
        (Keep ([k3]) w8 w9) ∧
        brB (!c2)
          (R (Ending.returned (Value.bool false)) w9)
          (Calls P F.law01_spoil #[Value.slice p6 k10 k11] w9 fun e8 w10 =>
          (e8 = Ending.returned (Value.tuple #[])) ∧
          (Keep ([k3]) w9 w10) ∧
          Calls P F.law01_spoil #[Value.slice p8 k14 k15] w10 fun e9 w11 =>
          (e9 = Ending.returned (Value.tuple #[])) ∧
          (Keep ([k3]) w10 w11) ∧
          Calls P F.law01_spoil #[Value.slice p10 k18 k19] w11 fun e10 w12 =>
          (e10 = Ending.returned (Value.tuple #[])) ∧
          (Keep ([k3]) w11 w12) ∧
          slcc (p2) (k5) (0) ((↑sl1 : Int)) (1) fun p12 k22 k23 =>
          Calls P F.ref01_Same #[Value.slice p12 k22 k23, Value.slice sa1 sl1 sc1] w12 fun e11 w13 =>
          ∃ c3 : Bool,
          (e11 = Ending.returned (Value.bool c3)) ∧
          (Keep ([k3]) w12 w13) ∧
          brB (!c3)
            (R (Ending.returned (Value.bool false)) w13)
            (idx (p2) (k4) ((↑sl1 : Int)) (1) fun a2 =>
            ∃ n4 : Int,
            (w13.cell? a2 = some (Value.int IntKind.u8 n4)) ∧
            brB (n4 != 77)
              (R (Ending.returned (Value.bool false)) w13)
              (∃ I1 : List Value → World → Prop,
              ∃ m1 : List Value → World → Nat,
              (I1 [Value.int IntKind.i64 0] w13) ∧
              ∀ n5 : Int,
              ∀ w14 : World,
              (I1 [Value.int IntKind.i64 n5] w14) →
              brB (decide (n5 < (↑k4 : Int)))
                (idx (p2) (k4) (n5) (1) fun a3 =>
                (∃ v1 : Value,
                  w14.cell? a3 = some v1) ∧
                (w14.frozen? a3 = false) ∧
                (¬a3.block ∈ [k3]) ∧
                (I1 [Value.int IntKind.i64 (IntKind.i64.wrap (n5 + 1))] (setCells w14 a3 [Value.int IntKind.u8 3] 0)) ∧
                m1 [Value.int IntKind.i64 (IntKind.i64.wrap (n5 + 1))] (setCells w14 a3 [Value.int IntKind.u8 3] 0) < m1 [Value.int IntKind.i64 n5] w14)
                (Calls P F.bits_Reader_Bytes #[Value.pointer p4, Value.int IntKind.i64 (↑sl1 : Int)] w14 fun e12 w15 =>
                ∃ p13 : Option Addr,
                ∃ k24 : Nat,
                ∃ k25 : Nat,
                ∃ n6 : Int,
                (e12 = Ending.returned (Value.tuple #[Value.slice p13 k24 k25, Value.int IntKind.i64 n6])) ∧
                (Keep ([k3]) w14 w15) ∧
                brB (n6 != 0)
                  (R (Ending.returned (Value.bool false)) w15)
                  (Calls P F.ref01_Same #[Value.slice p13 k24 k25, Value.slice sa1 sl1 sc1] w15 fun e13 w16 =>
                  ∃ c4 : Bool,
                  (e13 = Ending.returned (Value.bool c4)) ∧
                  (Keep ([k3]) w15 w16) ∧
                  brB (!c4)
                    (R (Ending.returned (Value.bool false)) w16)
                    (Calls P F.bits_NewWriter #[Value.bool b1] w16 fun e14 w17 =>
                    ∃ p14 : Option Addr,
                    (e14 = Ending.returned (Value.pointer p14)) ∧
                    (Keep ([k3]) w16 w17) ∧
                    ∀ k26 : Nat,
                    (w17.heap.size ≤ k26) →
                    ∃ I2 : List Value → World → Prop,
                    ∃ m2 : List Value → World → Nat,
                    (∀ w18 : World,
                      (Locl ([k26, k3]) w17 w18) →
                      I2 [Value.int IntKind.i64 0, Value.bool b1, Value.slice none 0 0, Value.int IntKind.i64 0] w18) ∧
                    ∀ n7 : Int,
                    ∀ c5 : Bool,
                    ∀ p15 : Option Addr,
                    ∀ k27 : Nat,
                    ∀ k28 : Nat,
                    ∀ n8 : Int,
                    ∀ w19 : World,
                    (I2 [Value.int IntKind.i64 n7, Value.bool c5, Value.slice p15 k27 k28, Value.int IntKind.i64 n8] w19) →
                    brB (decide (n7 < (↑sl2 : Int)))
                      (idx (sa2) (sl2) (n7) (3) fun a4 =>
                      ∃ n9 : Int,
                      (w19.drew.cell? (a4.add 2) = some (Value.int IntKind.u32 n9)) ∧
                      idx (sa2) (sl2) (n7) (3) fun a5 =>
                      ∃ n10 : Int,
                      (w19.drew.cell? (a5.add 1) = some (Value.int IntKind.i64 n10)) ∧
                      Calls P F.bits_Writer_Put #[Value.pointer p14, Value.int IntKind.u32 n9, Value.int IntKind.i64 n10] (w19.drew) fun e15 w20 =>
                      ∃ n11 : Int,
                      (e15 = Ending.returned (Value.int IntKind.i64 n11)) ∧
                      (Keep ([k26, k3]) (w19.drew) w20) ∧
                      idx (sa2) (sl2) (n7) (3) fun a6 =>
                      ∃ n12 : Int,
                      (w20.drew.cell? (a6.add 2) = some (Value.int IntKind.u32 n12)) ∧
                      idx (sa2) (sl2) (n7) (3) fun a7 =>
                      ∃ n13 : Int,
                      (w20.drew.cell? (a7.add 1) = some (Value.int IntKind.i64 n13)) ∧
                      Calls P F.ref01_Put #[Value.agg #[Value.bool c5, Value.slice p15 k27 k28, Value.int IntKind.i64 n8], Value.int IntKind.u32 n12, Value.int IntKind.i64 n13] (w20.drew) fun e16 w21 =>
                      ∃ c6 : Bool,
                      ∃ p16 : Option Addr,
                      ∃ k29 : Nat,
                      ∃ k30 : Nat,
                      ∃ n14 : Int,
                      ∃ n15 : Int,
                      (e16 = Ending.returned (Value.tuple #[Value.agg #[Value.bool c6, Value.slice p16 k29 k30, Value.int IntKind.i64 n14], Value.int IntKind.i64 n15])) ∧
                      (Keep ([k26, k3]) (w20.drew) w21) ∧
                      ∀ w22 : World,
                      (Locl ([k26, k3]) w21 w22) →
                      Calls P F.bits_Writer_Bytes #[Value.pointer p14] w22 fun e17 w23 =>
                      ∃ p17 : Option Addr,
                      ∃ k31 : Nat,
                      ∃ k32 : Nat,
                      (e17 = Ending.returned (Value.slice p17 k31 k32)) ∧
                      (Keep ([k26, k3]) w22 w23) ∧
                      Calls P F.law01_spoil #[Value.slice p17 k31 k32] w23 fun e18 w24 =>
                      (e18 = Ending.returned (Value.tuple #[])) ∧
                      (Keep ([k26, k3]) w23 w24) ∧
                      (I2 [Value.int IntKind.i64 (IntKind.i64.wrap (n7 + 1)), Value.bool c6, Value.slice p16 k29 k30, Value.int IntKind.i64 n14] w24) ∧
                      m2 [Value.int IntKind.i64 (IntKind.i64.wrap (n7 + 1)), Value.bool c6, Value.slice p16 k29 k30, Value.int IntKind.i64 n14] w24 < m2 [Value.int IntKind.i64 n7, Value.bool c5, Value.slice p15 k27 k28, Value.int IntKind.i64 n8] w19)
                      (Calls P F.bits_Writer_Bytes #[Value.pointer p14] (w19.drew) fun e19 w25 =>
                      ∃ p18 : Option Addr,
                      ∃ k33 : Nat,
                      ∃ k34 : Nat,
                      (e19 = Ending.returned (Value.slice p18 k33 k34)) ∧
                      (Keep ([k26, k3]) (w19.drew) w25) ∧
                      (Keeps (w19.drew) w25) ∧
                      Calls P F.ref01_Same #[Value.slice p18 k33 k34, Value.slice p15 k27 k28] w25 fun e20 w26 =>
                      ∃ c7 : Bool,
                      (e20 = Ending.returned (Value.bool c7)) ∧
                      (Keep ([k26, k3]) w25 w26) ∧
                      R (Ending.returned (Value.bool c7)) w26))))))))))
theorem calls_law01_BitsOwn (sa1 : Option Addr) (sl1 sc1 : Nat) (b1 : Bool) (sa2 : Option Addr) (sl2 sc2 : Nat) (w : World) (R : Ending → World → Prop) (h : vc_law01_BitsOwn sa1 sl1 sc1 b1 sa2 sl2 sc2 w R) : Calls P F.law01_BitsOwn #[.slice sa1 sl1 sc1, .bool b1, .slice sa2 sl2 sc2] w R :=
  calls_of_vc (fn := Try.f9) (ac := ac_law01_BitsOwn) (args := [.slice sa1 sl1 sc1, .bool b1, .slice sa2 sl2 sc2]) mixed Try.func9 (by kernel_rfl) (cast (by kernel_rfl) h)
/-- darkroom/darkroomlaw01.wakes -/
def vc_law01_wakes  (w : World) (R : Ending → World → Prop) : Prop :=
  ∀ k1 : Nat,
  ∀ w1 : World,
  (New w (Obj.cells #[Value.int IntKind.u8 165, Value.int IntKind.u8 195] 5) k1 w1) →
  Calls P F.bits_NewReader #[Value.slice (some { block := k1, off := 0 }) 2 2, Value.bool true] w1 fun e1 w2 =>
  ∃ p1 : Option Addr,
  (e1 = Ending.returned (Value.pointer p1)) ∧
  Calls P F.bits_NewWriter #[Value.bool true] w2 fun e2 w3 =>
  ∃ p2 : Option Addr,
  (e2 = Ending.returned (Value.pointer p2)) ∧
  brB (p1.isNone || p2.isNone)
    (R (Ending.returned (Value.bool false)) w3)
    (Calls P F.bits_Reader_Take #[Value.pointer p1, Value.int IntKind.i64 3] w3 fun e3 w4 =>
    ∃ n1 : Int,
    ∃ n2 : Int,
    (e3 = Ending.returned (Value.tuple #[Value.int IntKind.u32 n1, Value.int IntKind.i64 n2])) ∧
    Calls P F.bits_Reader_Take #[Value.pointer p1, Value.int IntKind.i64 6] w4 fun e4 w5 =>
    ∃ n3 : Int,
    ∃ n4 : Int,
    (e4 = Ending.returned (Value.tuple #[Value.int IntKind.u32 n3, Value.int IntKind.i64 n4])) ∧
    Calls P F.bits_Writer_Put #[Value.pointer p2, Value.int IntKind.u32 5, Value.int IntKind.i64 3] w5 fun e5 w6 =>
    ∃ n5 : Int,
    (e5 = Ending.returned (Value.int IntKind.i64 n5)) ∧
    Calls P F.bits_Writer_Put #[Value.pointer p2, Value.int IntKind.u32 1, Value.int IntKind.i64 2] w6 fun e6 w7 =>
    ∃ n6 : Int,
    (e6 = Ending.returned (Value.int IntKind.i64 n6)) ∧
    ∀ k2 : Nat,
    ∀ w8 : World,
    (New w7 (Obj.cells #[Value.int IntKind.u8 1, Value.int IntKind.u8 2, Value.int IntKind.u8 3] 5) k2 w8) →
    Calls P F.bits_Get #[Value.slice (some { block := k2, off := 0 }) 3 3, Value.int IntKind.i64 0, Value.int IntKind.i64 2, Value.bool true] w8 fun e7 w9 =>
    ∃ n7 : Int,
    ∃ n8 : Int,
    (e7 = Ending.returned (Value.tuple #[Value.int IntKind.u32 n7, Value.int IntKind.i64 n8])) ∧
    brB (n1 == 5 && n3 == 11)
      (Calls P F.bits_Reader_Left #[Value.pointer p1] w9 fun e8 w10 =>
      ∃ n9 : Int,
      (e8 = Ending.returned (Value.int IntKind.i64 n9)) ∧
      brB (n9 == 7 && n2 == 0 && n4 == 0 && n5 == 0 && n6 == 0 && n8 == 0 && n7 == 258)
        (Calls P F.bits_Writer_Bytes #[Value.pointer p2] w10 fun e9 w11 =>
        ∃ p3 : Option Addr,
        ∃ k3 : Nat,
        ∃ k4 : Nat,
        (e9 = Ending.returned (Value.slice p3 k3 k4)) ∧
        ∀ k5 : Nat,
        ∀ w12 : World,
        (New w11 (Obj.cells #[Value.int IntKind.u8 168] 5) k5 w12) →
        Calls P F.ref01_Same #[Value.slice p3 k3 k4, Value.slice (some { block := k5, off := 0 }) 1 1] w12 fun e10 w13 =>
        ∃ c1 : Bool,
        (e10 = Ending.returned (Value.bool c1)) ∧
        R (Ending.returned (Value.bool c1)) w13)
        (R (Ending.returned (Value.bool false)) w10))
      (R (Ending.returned (Value.bool false)) w9))
theorem calls_law01_wakes  (w : World) (R : Ending → World → Prop) (h : vc_law01_wakes  w R) : Calls P F.law01_wakes #[] w R :=
  calls_of_vc (fn := Try.f10) (ac := ac_law01_wakes) (args := []) mixed Try.func10 (by kernel_rfl) (cast (by kernel_rfl) h)
/-- darkroom/bits.NewWriter -/
def vc_bits_NewWriter (b1 : Bool) (w : World) (R : Ending → World → Prop) : Prop :=
  Calls P F.bits_order #[Value.bool b1] w fun e1 w1 =>
  ∃ y1 : FuncId,
  ∃ y2 : Array Value,
  ∃ y3 : Array Value,
  (e1 = Ending.returned (Value.func (Fn.func y1) y2 y3)) ∧
  ∀ k1 : Nat,
  ∀ w2 : World,
  (New w1 (Obj.cells #[Value.slice none 0 0, Value.int IntKind.i64 0, Value.bool b1, Value.func (Fn.func y1) y2 y3] 74) k1 w2) →
  R (Ending.returned (Value.pointer (some { block := k1, off := 0 }))) w2
theorem calls_bits_NewWriter (b1 : Bool) (w : World) (R : Ending → World → Prop) (h : vc_bits_NewWriter b1 w R) : Calls P F.bits_NewWriter #[.bool b1] w R :=
  calls_of_vc (fn := Try.f11) (ac := ac_bits_NewWriter) (args := [.bool b1]) mixed Try.func11 (by kernel_rfl) (cast (by kernel_rfl) h)
/-- (*darkroom/bits.Writer).Align -/
def vc_bits_Writer_Align (q1 : Option Addr) (w : World) (R : Ending → World → Prop) : Prop :=
  brB (!q1.isNone)
    (nn (q1) fun a1 =>
    ∃ p1 : Option Addr,
    ∃ k1 : Nat,
    ∃ k2 : Nat,
    (w.cell? a1 = some (Value.slice p1 k1 k2)) ∧
    nn (q1) fun a2 =>
    (∃ v1 : Value,
      w.cell? (a2.add 1) = some v1) ∧
    (w.frozen? (a2.add 1) = false) ∧
    R (Ending.returned (Value.tuple #[])) (setCells w (a2.add 1) [Value.int IntKind.i64 (IntKind.i64.wrap (8 * (↑k1 : Int)))] 0))
    (R (Ending.returned (Value.tuple #[])) w)
theorem calls_bits_Writer_Align (q1 : Option Addr) (w : World) (R : Ending → World → Prop) (h : vc_bits_Writer_Align q1 w R) : Calls P F.bits_Writer_Align #[.pointer q1] w R :=
  calls_of_vc (fn := Try.f12) (ac := ac_bits_Writer_Align) (args := [.pointer q1]) mixed Try.func12 (by kernel_rfl) (cast (by kernel_rfl) h)
/-- darkroom/darkroomref01.AlignW -/
def vc_ref01_AlignW (b1 : Bool) (sa1 : Option Addr) (sl1 sc1 : Nat) (x1 : Int) (w : World) (R : Ending → World → Prop) : Prop :=
  ∀ k1 : Nat,
  (w.heap.size ≤ k1) →
  ∀ k2 : Nat,
  (w.heap.size ≤ k2) →
  ∃ I1 : List Value → World → Prop,
  ∃ m1 : List Value → World → Nat,
  (∀ w1 : World,
    (Locl ([k2, k1]) w w1) →
    I1 [Value.bool b1, Value.slice sa1 sl1 sc1, Value.int IntKind.i64 x1] w1) ∧
  ∀ c1 : Bool,
  ∀ p1 : Option Addr,
  ∀ k3 : Nat,
  ∀ k4 : Nat,
  ∀ n1 : Int,
  ∀ w2 : World,
  (I1 [Value.bool c1, Value.slice p1 k3 k4, Value.int IntKind.i64 n1] w2) →
  brB (divZ BinOp.rem IntKind.i64 n1 8 != 0)
    (Calls P F.ref01_put1 #[Value.agg #[Value.bool c1, Value.slice p1 k3 k4, Value.int IntKind.i64 n1], Value.int IntKind.u32 0] w2 fun e1 w3 =>
    ∃ c2 : Bool,
    ∃ p2 : Option Addr,
    ∃ k5 : Nat,
    ∃ k6 : Nat,
    ∃ n2 : Int,
    (e1 = Ending.returned (Value.agg #[Value.bool c2, Value.slice p2 k5 k6, Value.int IntKind.i64 n2])) ∧
    (Keep ([k2, k1]) w2 w3) ∧
    ∀ w4 : World,
    (Locl ([k2, k1]) w3 w4) →
    (I1 [Value.bool c2, Value.slice p2 k5 k6, Value.int IntKind.i64 n2] w4) ∧
    m1 [Value.bool c2, Value.slice p2 k5 k6, Value.int IntKind.i64 n2] w4 < m1 [Value.bool c1, Value.slice p1 k3 k4, Value.int IntKind.i64 n1] w2)
    (∀ w5 : World,
    (Locl ([k2, k1]) w2 w5) →
    R (Ending.returned (Value.agg #[Value.bool c1, Value.slice p1 k3 k4, Value.int IntKind.i64 n1])) w5)
theorem calls_ref01_AlignW (b1 : Bool) (sa1 : Option Addr) (sl1 sc1 : Nat) (x1 : Int) (w : World) (R : Ending → World → Prop) (h : vc_ref01_AlignW b1 sa1 sl1 sc1 x1 w R) : Calls P F.ref01_AlignW #[.agg #[.bool b1, .slice sa1 sl1 sc1, .int .i64 x1]] w R :=
  calls_of_vc (fn := Try.f13) (ac := ac_ref01_AlignW) (args := [.agg #[.bool b1, .slice sa1 sl1 sc1, .int .i64 x1]]) mixed Try.func13 (by kernel_rfl) (cast (by kernel_rfl) h)
/-- (*darkroom/bits.Writer).Put -/
def vc_bits_Writer_Put (q1 : Option Addr) (x1 : Int) (x2 : Int) (w : World) (R : Ending → World → Prop) : Prop :=
  brB (q1.isNone)
    (R (Ending.returned (Value.int IntKind.i64 1)) w)
    (brB (decide (x2 < 0) || decide (x2 > 32))
      (R (Ending.returned (Value.int IntKind.i64 2)) w)
      (∃ I1 : List Value → World → Prop,
      ∃ m1 : List Value → World → Nat,
      (I1 [Value.int IntKind.i64 0] w) ∧
      ∀ n1 : Int,
      ∀ w1 : World,
      (I1 [Value.int IntKind.i64 n1] w1) →
      brB (decide (n1 < x2))
        (∃ I2 : List Value → World → Prop,
        (nn (q1) fun a1 =>
          ∃ c1 : Bool,
          (w1.cell? (a1.add 2) = some (Value.bool c1)) ∧
          brB (c1)
            ((0 ≤ IntKind.i64.wrap (IntKind.i64.wrap (x2 - 1) - n1)) ∧
            Calls P F.bits_Writer_one #[Value.pointer q1, Value.int IntKind.u8 (IntKind.u8.wrap (IntKind.u32.wrap (bitsZ BinOp.and IntKind.u32 (shiftZ BinOp.shr IntKind.u32 x1 (IntKind.i64.wrap (IntKind.i64.wrap (x2 - 1) - n1))) 1)))] w1 fun e1 w2 =>
            (e1 = Ending.returned (Value.tuple #[])) ∧
            I2 [] w2)
            ((0 ≤ n1) ∧
            Calls P F.bits_Writer_one #[Value.pointer q1, Value.int IntKind.u8 (IntKind.u8.wrap (IntKind.u32.wrap (bitsZ BinOp.and IntKind.u32 (shiftZ BinOp.shr IntKind.u32 x1 n1) 1)))] w1 fun e2 w3 =>
            (e2 = Ending.returned (Value.tuple #[])) ∧
            I2 [] w3)) ∧
        ∀ w4 : World,
        (I2 [] w4) →
        (I1 [Value.int IntKind.i64 (IntKind.i64.wrap (n1 + 1))] w4) ∧
        m1 [Value.int IntKind.i64 (IntKind.i64.wrap (n1 + 1))] w4 < m1 [Value.int IntKind.i64 n1] w1)
        (R (Ending.returned (Value.int IntKind.i64 0)) w1)))
theorem calls_bits_Writer_Put (q1 : Option Addr) (x1 : Int) (x2 : Int) (w : World) (R : Ending → World → Prop) (h : vc_bits_Writer_Put q1 x1 x2 w R) : Calls P F.bits_Writer_Put #[.pointer q1, .int .u32 x1, .int .i64 x2] w R :=
  calls_of_vc (fn := Try.f14) (ac := ac_bits_Writer_Put) (args := [.pointer q1, .int .u32 x1, .int .i64 x2]) mixed Try.func14 (by kernel_rfl) (cast (by kernel_rfl) h)
/-- darkroom/darkroomref01.Put -/
def vc_ref01_Put (b1 : Bool) (sa1 : Option Addr) (sl1 sc1 : Nat) (x1 : Int) (x2 : Int) (x3 : Int) (w : World) (R : Ending → World → Prop) : Prop :=
  ∀ k1 : Nat,
  (w.heap.size ≤ k1) →
  ∀ k2 : Nat,
  (w.heap.size ≤ k2) →
  brB (decide (x3 < 0) || decide (x3 > 32))
    (∀ w1 : World,
    (Locl ([k2, k1]) w w1) →
    R (Ending.returned (Value.tuple #[Value.agg #[Value.bool b1, Value.slice sa1 sl1 sc1, Value.int IntKind.i64 x1], Value.int IntKind.i64 2])) w1)
    (∃ I1 : List Value → World → Prop,
    ∃ m1 : List Value → World → Nat,
    (∀ w2 : World,
      (Locl ([k2, k1]) w w2) →
      I1 [Value.int IntKind.i64 0, Value.bool b1, Value.slice sa1 sl1 sc1, Value.int IntKind.i64 x1] w2) ∧
    ∀ n1 : Int,
    ∀ c1 : Bool,
    ∀ p1 : Option Addr,
    ∀ k3 : Nat,
    ∀ k4 : Nat,
    ∀ n2 : Int,
    ∀ w3 : World,
    (I1 [Value.int IntKind.i64 n1, Value.bool c1, Value.slice p1 k3 k4, Value.int IntKind.i64 n2] w3) →
    brB (decide (n1 < x3))
      (∃ I2 : List Value → World → Prop,
      (brB (c1)
          (I2 [Value.int IntKind.i64 (IntKind.i64.wrap (IntKind.i64.wrap (x3 - 1) - n1))] w3)
          (I2 [Value.int IntKind.i64 n1] w3)) ∧
      ∀ n3 : Int,
      ∀ w4 : World,
      (I2 [Value.int IntKind.i64 n3] w4) →
      (0 ≤ IntKind.u64.wrap n3) ∧
      Calls P F.ref01_put1 #[Value.agg #[Value.bool c1, Value.slice p1 k3 k4, Value.int IntKind.i64 n2], Value.int IntKind.u32 (divZ BinOp.rem IntKind.u32 (shiftZ BinOp.shr IntKind.u32 x2 (IntKind.u64.wrap n3)) 2)] w4 fun e1 w5 =>
      ∃ c2 : Bool,
      ∃ p2 : Option Addr,
      ∃ k5 : Nat,
      ∃ k6 : Nat,
      ∃ n4 : Int,
      (e1 = Ending.returned (Value.agg #[Value.bool c2, Value.slice p2 k5 k6, Value.int IntKind.i64 n4])) ∧
      (Keep ([k2, k1]) w4 w5) ∧
      ∀ w6 : World,
      (Locl ([k2, k1]) w5 w6) →
      (I1 [Value.int IntKind.i64 (IntKind.i64.wrap (n1 + 1)), Value.bool c2, Value.slice p2 k5 k6, Value.int IntKind.i64 n4] w6) ∧
      m1 [Value.int IntKind.i64 (IntKind.i64.wrap (n1 + 1)), Value.bool c2, Value.slice p2 k5 k6, Value.int IntKind.i64 n4] w6 < m1 [Value.int IntKind.i64 n1, Value.bool c1, Value.slice p1 k3 k4, Value.int IntKind.i64 n2] w3)
      (∀ w7 : World,
      (Locl ([k2, k1]) w3 w7) →
      R (Ending.returned (Value.tuple #[Value.agg #[Value.bool c1, Value.slice p1 k3 k4, Value.int IntKind.i64 n2], Value.int IntKind.i64 0])) w7))
theorem calls_ref01_Put (b1 : Bool) (sa1 : Option Addr) (sl1 sc1 : Nat) (x1 : Int) (x2 : Int) (x3 : Int) (w : World) (R : Ending → World → Prop) (h : vc_ref01_Put b1 sa1 sl1 sc1 x1 x2 x3 w R) : Calls P F.ref01_Put #[.agg #[.bool b1, .slice sa1 sl1 sc1, .int .i64 x1], .int .u32 x2, .int .i64 x3] w R :=
  calls_of_vc (fn := Try.f15) (ac := ac_ref01_Put) (args := [.agg #[.bool b1, .slice sa1 sl1 sc1, .int .i64 x1], .int .u32 x2, .int .i64 x3]) mixed Try.func15 (by kernel_rfl) (cast (by kernel_rfl) h)
/-- (*darkroom/bits.Writer).Len -/
def vc_bits_Writer_Len (q1 : Option Addr) (w : World) (R : Ending → World → Prop) : Prop :=
  brB (q1.isNone)
    (R (Ending.returned (Value.int IntKind.i64 0)) w)
    (nn (q1) fun a1 =>
    ∃ n1 : Int,
    (w.cell? (a1.add 1) = some (Value.int IntKind.i64 n1)) ∧
    R (Ending.returned (Value.int IntKind.i64 n1)) w)
theorem calls_bits_Writer_Len (q1 : Option Addr) (w : World) (R : Ending → World → Prop) (h : vc_bits_Writer_Len q1 w R) : Calls P F.bits_Writer_Len #[.pointer q1] w R :=
  calls_of_vc (fn := Try.f16) (ac := ac_bits_Writer_Len) (args := [.pointer q1]) mixed Try.func16 (by kernel_rfl) (cast (by kernel_rfl) h)
/-- darkroom/darkroomref01.Same -/
def vc_ref01_Same (sa1 : Option Addr) (sl1 sc1 : Nat) (sa2 : Option Addr) (sl2 sc2 : Nat) (w : World) (R : Ending → World → Prop) : Prop :=
  brB ((↑sl1 : Int) != (↑sl2 : Int))
    (R (Ending.returned (Value.bool false)) w)
    (∃ I1 : List Value → World → Prop,
    ∃ m1 : List Value → World → Nat,
    (I1 [Value.int IntKind.i64 0] w) ∧
    ∀ n1 : Int,
    ∀ w1 : World,
    (I1 [Value.int IntKind.i64 n1] w1) →
    brB (decide (n1 < (↑sl1 : Int)))
      (idx (sa1) (sl1) (n1) (1) fun a1 =>
      ∃ n2 : Int,
      (w1.drew.cell? a1 = some (Value.int IntKind.u8 n2)) ∧
      idx (sa2) (sl2) (n1) (1) fun a2 =>
      ∃ n3 : Int,
      (w1.drew.cell? a2 = some (Value.int IntKind.u8 n3)) ∧
      brB (n2 != n3)
        (R (Ending.returned (Value.bool false)) w1.drew)
        ((I1 [Value.int IntKind.i64 (IntKind.i64.wrap (n1 + 1))] w1.drew) ∧
        m1 [Value.int IntKind.i64 (IntKind.i64.wrap (n1 + 1))] w1.drew < m1 [Value.int IntKind.i64 n1] w1))
      (R (Ending.returned (Value.bool true)) w1))
theorem calls_ref01_Same (sa1 : Option Addr) (sl1 sc1 : Nat) (sa2 : Option Addr) (sl2 sc2 : Nat) (w : World) (R : Ending → World → Prop) (h : vc_ref01_Same sa1 sl1 sc1 sa2 sl2 sc2 w R) : Calls P F.ref01_Same #[.slice sa1 sl1 sc1, .slice sa2 sl2 sc2] w R :=
  calls_of_vc (fn := Try.f17) (ac := ac_ref01_Same) (args := [.slice sa1 sl1 sc1, .slice sa2 sl2 sc2]) mixed Try.func17 (by kernel_rfl) (cast (by kernel_rfl) h)
/-- (*darkroom/bits.Writer).Bytes -/
def vc_bits_Writer_Bytes (q1 : Option Addr) (w : World) (R : Ending → World → Prop) : Prop :=
  brB (q1.isNone)
    (R (Ending.returned (Value.slice none 0 0)) w)
    (nn (q1) fun a1 =>
    ∃ p1 : Option Addr,
    ∃ k1 : Nat,
    ∃ k2 : Nat,
    (w.cell? a1 = some (Value.slice p1 k1 k2)) ∧
    Calls P F.slices_Clone_byte #[Value.slice p1 k1 k2] w fun e1 w1 =>
    ∃ p2 : Option Addr,
    ∃ k3 : Nat,
    ∃ k4 : Nat,
    (e1 = Ending.returned (Value.slice p2 k3 k4)) ∧
    R (Ending.returned (Value.slice p2 k3 k4)) w1)
theorem calls_bits_Writer_Bytes (q1 : Option Addr) (w : World) (R : Ending → World → Prop) (h : vc_bits_Writer_Bytes q1 w R) : Calls P F.bits_Writer_Bytes #[.pointer q1] w R :=
  calls_of_vc (fn := Try.f18) (ac := ac_bits_Writer_Bytes) (args := [.pointer q1]) mixed Try.func18 (by kernel_rfl) (cast (by kernel_rfl) h)
/-- darkroom/bits.NewReader -/
def vc_bits_NewReader (sa1 : Option Addr) (sl1 sc1 : Nat) (b1 : Bool) (w : World) (R : Ending → World → Prop) : Prop :=
  Calls P F.slices_Clone_byte #[Value.slice sa1 sl1 sc1] w fun e1 w1 =>
  ∃ p1 : Option Addr,
  ∃ k1 : Nat,
  ∃ k2 : Nat,
  (e1 = Ending.returned (Value.slice p1 k1 k2)) ∧
  Calls P F.bits_order #[Value.bool b1] w1 fun e2 w2 =>
  ∃ y1 : FuncId,
  ∃ y2 : Array Value,
  ∃ y3 : Array Value,
  (e2 = Ending.returned (Value.func (Fn.func y1) y2 y3)) ∧
  ∀ k3 : Nat,
  ∀ w3 : World,
  (New w2 (Obj.cells #[Value.slice p1 k1 k2, Value.int IntKind.i64 0, Value.bool b1, Value.func (Fn.func y1) y2 y3] 78) k3 w3) →
  R (Ending.returned (Value.pointer (some { block := k3, off := 0 }))) w3
theorem calls_bits_NewReader (sa1 : Option Addr) (sl1 sc1 : Nat) (b1 : Bool) (w : World) (R : Ending → World → Prop) (h : vc_bits_NewReader sa1 sl1 sc1 b1 w R) : Calls P F.bits_NewReader #[.slice sa1 sl1 sc1, .bool b1] w R :=
  calls_of_vc (fn := Try.f19) (ac := ac_bits_NewReader) (args := [.slice sa1 sl1 sc1, .bool b1]) mixed Try.func19 (by kernel_rfl) (cast (by kernel_rfl) h)
/-- (*darkroom/bits.Reader).Take -/
def vc_bits_Reader_Take (q1 : Option Addr) (x1 : Int) (w : World) (R : Ending → World → Prop) : Prop :=
  brB (q1.isNone)
    (R (Ending.returned (Value.tuple #[Value.int IntKind.u32 0, Value.int IntKind.i64 1])) w)
    (brB (decide (x1 < 0) || decide (x1 > 32))
      (R (Ending.returned (Value.tuple #[Value.int IntKind.u32 0, Value.int IntKind.i64 2])) w)
      (Calls P F.bits_Reader_Left #[Value.pointer q1] w fun e1 w1 =>
      ∃ n1 : Int,
      (e1 = Ending.returned (Value.int IntKind.i64 n1)) ∧
      brB (decide (x1 > n1))
        (R (Ending.returned (Value.tuple #[Value.int IntKind.u32 0, Value.int IntKind.i64 5])) w1)
        (∃ I1 : List Value → World → Prop,
        ∃ m1 : List Value → World → Nat,
        (I1 [Value.int IntKind.u32 0, Value.int IntKind.i64 0] w1) ∧
        ∀ n2 : Int,
        ∀ n3 : Int,
        ∀ w2 : World,
        (I1 [Value.int IntKind.u32 n2, Value.int IntKind.i64 n3] w2) →
        brB (decide (n3 < x1))
          (∃ I2 : List Value → World → Prop,
          (nn (q1) fun a1 =>
            ∃ p1 : Option Addr,
            ∃ k1 : Nat,
            ∃ k2 : Nat,
            (w2.drew.cell? a1 = some (Value.slice p1 k1 k2)) ∧
            nn (q1) fun a2 =>
            ∃ n4 : Int,
            (w2.drew.cell? (a2.add 1) = some (Value.int IntKind.i64 n4)) ∧
            idx (p1) (k1) (divZ BinOp.quo IntKind.i64 n4 8) (1) fun a3 =>
            ∃ n5 : Int,
            (w2.drew.cell? a3 = some (Value.int IntKind.u8 n5)) ∧
            nn (q1) fun a4 =>
            ∃ y1 : FuncId,
            ∃ y2 : Array Value,
            ∃ y3 : Array Value,
            (w2.drew.cell? (a4.add 3) = some (Value.func (Fn.func y1) y2 y3)) ∧
            nn (q1) fun a5 =>
            ∃ n6 : Int,
            (w2.drew.cell? (a5.add 1) = some (Value.int IntKind.i64 n6)) ∧
            callV P (Value.func (Fn.func y1) y2 y3) [Value.int IntKind.i64 n6] (w2.drew) fun e2 w3 =>
            ∃ n7 : Int,
            (e2 = Ending.returned (Value.int IntKind.u64 n7)) ∧
            (Keeps (w2.drew) w3) ∧
            (0 ≤ n7) ∧
            nn (q1) fun a6 =>
            ∃ n8 : Int,
            (w3.cell? (a6.add 1) = some (Value.int IntKind.i64 n8)) ∧
            nn (q1) fun a7 =>
            (∃ v1 : Value,
              w3.cell? (a7.add 1) = some v1) ∧
            (w3.frozen? (a7.add 1) = false) ∧
            nn (q1) fun a8 =>
            ∃ c1 : Bool,
            ((setCells w3 (a7.add 1) [Value.int IntKind.i64 (IntKind.i64.wrap (n8 + 1))] 0).cell? (a8.add 2) = some (Value.bool c1)) ∧
            brB (c1)
              (I2 [Value.int IntKind.u32 (IntKind.u32.wrap (bitsZ BinOp.or IntKind.u32 (shiftZ BinOp.shl IntKind.u32 n2 1) (IntKind.u32.wrap (bitsZ BinOp.and IntKind.u32 (IntKind.u32.wrap (shiftZ BinOp.shr IntKind.u8 n5 n7)) 1))))] (setCells w3 (a7.add 1) [Value.int IntKind.i64 (IntKind.i64.wrap (n8 + 1))] 0))
              ((0 ≤ n3) ∧
              I2 [Value.int IntKind.u32 (IntKind.u32.wrap (bitsZ BinOp.or IntKind.u32 n2 (shiftZ BinOp.shl IntKind.u32 (IntKind.u32.wrap (bitsZ BinOp.and IntKind.u32 (IntKind.u32.wrap (shiftZ BinOp.shr IntKind.u8 n5 n7)) 1)) n3)))] (setCells w3 (a7.add 1) [Value.int IntKind.i64 (IntKind.i64.wrap (n8 + 1))] 0))) ∧
          ∀ n9 : Int,
          ∀ w4 : World,
          (I2 [Value.int IntKind.u32 n9] w4) →
          (I1 [Value.int IntKind.u32 n9, Value.int IntKind.i64 (IntKind.i64.wrap (n3 + 1))] w4) ∧
          m1 [Value.int IntKind.u32 n9, Value.int IntKind.i64 (IntKind.i64.wrap (n3 + 1))] w4 < m1 [Value.int IntKind.u32 n2, Value.int IntKind.i64 n3] w2)
          (R (Ending.returned (Value.tuple #[Value.int IntKind.u32 n2, Value.int IntKind.i64 0])) w2))))
theorem calls_bits_Reader_Take (q1 : Option Addr) (x1 : Int) (w : World) (R : Ending → World → Prop) (h : vc_bits_Reader_Take q1 x1 w R) : Calls P F.bits_Reader_Take #[.pointer q1, .int .i64 x1] w R :=
  calls_of_vc (fn := Try.f20) (ac := ac_bits_Reader_Take) (args := [.pointer q1, .int .i64 x1]) mixed Try.func20 (by kernel_rfl) (cast (by kernel_rfl) h)
/-- (*darkroom/bits.Reader).Left -/
def vc_bits_Reader_Left (q1 : Option Addr) (w : World) (R : Ending → World → Prop) : Prop :=
  brB (q1.isNone)
    (R (Ending.returned (Value.int IntKind.i64 0)) w)
    (nn (q1) fun a1 =>
    ∃ p1 : Option Addr,
    ∃ k1 : Nat,
    ∃ k2 : Nat,
    (w.drew.cell? a1 = some (Value.slice p1 k1 k2)) ∧
    nn (q1) fun a2 =>
    ∃ n1 : Int,
    (w.drew.cell? (a2.add 1) = some (Value.int IntKind.i64 n1)) ∧
    R (Ending.returned (Value.int IntKind.i64 (IntKind.i64.wrap (IntKind.i64.wrap (8 * (↑k1 : Int)) - n1)))) w.drew)
theorem calls_bits_Reader_Left (q1 : Option Addr) (w : World) (R : Ending → World → Prop) (h : vc_bits_Reader_Left q1 w R) : Calls P F.bits_Reader_Left #[.pointer q1] w R :=
  calls_of_vc (fn := Try.f21) (ac := ac_bits_Reader_Left) (args := [.pointer q1]) mixed Try.func21 (by kernel_rfl) (cast (by kernel_rfl) h)
/-- (*darkroom/bits.Reader).Place -/
def vc_bits_Reader_Place (q1 : Option Addr) (w : World) (R : Ending → World → Prop) : Prop :=
  brB (q1.isNone)
    (R (Ending.returned (Value.int IntKind.i64 0)) w)
    (nn (q1) fun a1 =>
    ∃ n1 : Int,
    (w.cell? (a1.add 1) = some (Value.int IntKind.i64 n1)) ∧
    R (Ending.returned (Value.int IntKind.i64 n1)) w)
theorem calls_bits_Reader_Place (q1 : Option Addr) (w : World) (R : Ending → World → Prop) (h : vc_bits_Reader_Place q1 w R) : Calls P F.bits_Reader_Place #[.pointer q1] w R :=
  calls_of_vc (fn := Try.f22) (ac := ac_bits_Reader_Place) (args := [.pointer q1]) mixed Try.func22 (by kernel_rfl) (cast (by kernel_rfl) h)
/-- darkroom/bits.Get -/
def vc_bits_Get (sa1 : Option Addr) (sl1 sc1 : Nat) (x1 : Int) (x2 : Int) (b1 : Bool) (w : World) (R : Ending → World → Prop) : Prop :=
  Calls P F.bits_there #[Value.slice sa1 sl1 sc1, Value.int IntKind.i64 x1, Value.int IntKind.i64 x2] w fun e1 w1 =>
  ∃ n1 : Int,
  (e1 = Ending.returned (Value.int IntKind.i64 n1)) ∧
  brB (n1 != 0)
    (R (Ending.returned (Value.tuple #[Value.int IntKind.u32 0, Value.int IntKind.i64 n1])) w1)
    (∃ I1 : List Value → World → Prop,
    ∃ m1 : List Value → World → Nat,
    (I1 [Value.int IntKind.u32 0, Value.int IntKind.i64 0] w1) ∧
    ∀ n2 : Int,
    ∀ n3 : Int,
    ∀ w2 : World,
    (I1 [Value.int IntKind.u32 n2, Value.int IntKind.i64 n3] w2) →
    brB (decide (n3 < x2))
      (∃ I2 : List Value → World → Prop,
      (brB (b1)
          (idx (sa1) (sl1) (IntKind.i64.wrap (x1 + n3)) (1) fun a1 =>
          ∃ n4 : Int,
          (w2.cell? a1 = some (Value.int IntKind.u8 n4)) ∧
          I2 [Value.int IntKind.u32 (IntKind.u32.wrap (bitsZ BinOp.or IntKind.u32 (shiftZ BinOp.shl IntKind.u32 n2 8) (IntKind.u32.wrap n4)))] w2)
          (idx (sa1) (sl1) (IntKind.i64.wrap (IntKind.i64.wrap (IntKind.i64.wrap (x1 + x2) - 1) - n3)) (1) fun a2 =>
          ∃ n5 : Int,
          (w2.cell? a2 = some (Value.int IntKind.u8 n5)) ∧
          I2 [Value.int IntKind.u32 (IntKind.u32.wrap (bitsZ BinOp.or IntKind.u32 (shiftZ BinOp.shl IntKind.u32 n2 8) (IntKind.u32.wrap n5)))] w2)) ∧
      ∀ n6 : Int,
      ∀ w3 : World,
      (I2 [Value.int IntKind.u32 n6] w3) →
      (I1 [Value.int IntKind.u32 n6, Value.int IntKind.i64 (IntKind.i64.wrap (n3 + 1))] w3) ∧
      m1 [Value.int IntKind.u32 n6, Value.int IntKind.i64 (IntKind.i64.wrap (n3 + 1))] w3 < m1 [Value.int IntKind.u32 n2, Value.int IntKind.i64 n3] w2)
      (R (Ending.returned (Value.tuple #[Value.int IntKind.u32 n2, Value.int IntKind.i64 0])) w2))
theorem calls_bits_Get (sa1 : Option Addr) (sl1 sc1 : Nat) (x1 : Int) (x2 : Int) (b1 : Bool) (w : World) (R : Ending → World → Prop) (h : vc_bits_Get sa1 sl1 sc1 x1 x2 b1 w R) : Calls P F.bits_Get #[.slice sa1 sl1 sc1, .int .i64 x1, .int .i64 x2, .bool b1] w R :=
  calls_of_vc (fn := Try.f23) (ac := ac_bits_Get) (args := [.slice sa1 sl1 sc1, .int .i64 x1, .int .i64 x2, .bool b1]) mixed Try.func23 (by kernel_rfl) (cast (by kernel_rfl) h)
/-- darkroom/darkroomlaw01.own -/
def vc_law01_own (sa1 : Option Addr) (sl1 sc1 : Nat) (w : World) (R : Ending → World → Prop) : Prop :=
  ∀ k1 : Nat,
  ∀ w1 : World,
  (New w (Obj.cells #[] 5) k1 w1) →
  ∃ l1 : List Value,
  (l1.length = sl1 * 1) ∧
  (oneAll l1 = true) ∧
  (CellsAre w1 sa1 l1) ∧
  appVC (w1) ([]) (some { block := k1, off := 0 }) (0) (0) (sl1) (1) (1) (5) ([Value.int IntKind.u8 0]) (l1) fun p1 k2 k3 w2 =>
  R (Ending.returned (Value.slice p1 k2 k3)) w2
theorem calls_law01_own (sa1 : Option Addr) (sl1 sc1 : Nat) (w : World) (R : Ending → World → Prop) (h : vc_law01_own sa1 sl1 sc1 w R) : Calls P F.law01_own #[.slice sa1 sl1 sc1] w R :=
  calls_of_vc (fn := Try.f24) (ac := ac_law01_own) (args := [.slice sa1 sl1 sc1]) mixed Try.func24 (by kernel_rfl) (cast (by kernel_rfl) h)
/-- darkroom/darkroomref01.Get -/
def vc_ref01_Get (sa1 : Option Addr) (sl1 sc1 : Nat) (x1 : Int) (x2 : Int) (b1 : Bool) (w : World) (R : Ending → World → Prop) : Prop :=
  brB (decide (x2 < 1) || decide (x2 > 4))
    (R (Ending.returned (Value.tuple #[Value.int IntKind.u32 0, Value.int IntKind.i64 2])) w)
    (brB (decide (x1 < 0) || decide (x1 > (↑sl1 : Int)) || decide (x2 > IntKind.i64.wrap ((↑sl1 : Int) - x1)))
      (R (Ending.returned (Value.tuple #[Value.int IntKind.u32 0, Value.int IntKind.i64 5])) w)
      (∃ I1 : List Value → World → Prop,
      ∃ m1 : List Value → World → Nat,
      (I1 [Value.int IntKind.u32 0, Value.int IntKind.i64 0] w) ∧
      ∀ n1 : Int,
      ∀ n2 : Int,
      ∀ w1 : World,
      (I1 [Value.int IntKind.u32 n1, Value.int IntKind.i64 n2] w1) →
      brB (decide (n2 < x2))
        (∃ I2 : List Value → World → Prop,
        (brB (b1)
            (idx (sa1) (sl1) (IntKind.i64.wrap (x1 + n2)) (1) fun a1 =>
            ∃ n3 : Int,
            (w1.cell? a1 = some (Value.int IntKind.u8 n3)) ∧
            I2 [Value.int IntKind.u32 (IntKind.u32.wrap (IntKind.u32.wrap (256 * n1) + IntKind.u32.wrap n3))] w1)
            (idx (sa1) (sl1) (IntKind.i64.wrap (x1 + n2)) (1) fun a2 =>
            ∃ n4 : Int,
            (w1.cell? a2 = some (Value.int IntKind.u8 n4)) ∧
            (0 ≤ IntKind.u64.wrap (IntKind.i64.wrap (8 * n2))) ∧
            I2 [Value.int IntKind.u32 (IntKind.u32.wrap (n1 + shiftZ BinOp.shl IntKind.u32 (IntKind.u32.wrap n4) (IntKind.u64.wrap (IntKind.i64.wrap (8 * n2)))))] w1)) ∧
        ∀ n5 : Int,
        ∀ w2 : World,
        (I2 [Value.int IntKind.u32 n5] w2) →
        (I1 [Value.int IntKind.u32 n5, Value.int IntKind.i64 (IntKind.i64.wrap (n2 + 1))] w2) ∧
        m1 [Value.int IntKind.u32 n5, Value.int IntKind.i64 (IntKind.i64.wrap (n2 + 1))] w2 < m1 [Value.int IntKind.u32 n1, Value.int IntKind.i64 n2] w1)
        (R (Ending.returned (Value.tuple #[Value.int IntKind.u32 n1, Value.int IntKind.i64 0])) w1)))
theorem calls_ref01_Get (sa1 : Option Addr) (sl1 sc1 : Nat) (x1 : Int) (x2 : Int) (b1 : Bool) (w : World) (R : Ending → World → Prop) (h : vc_ref01_Get sa1 sl1 sc1 x1 x2 b1 w R) : Calls P F.ref01_Get #[.slice sa1 sl1 sc1, .int .i64 x1, .int .i64 x2, .bool b1] w R :=
  calls_of_vc (fn := Try.f25) (ac := ac_ref01_Get) (args := [.slice sa1 sl1 sc1, .int .i64 x1, .int .i64 x2, .bool b1]) mixed Try.func25 (by kernel_rfl) (cast (by kernel_rfl) h)
/-- darkroom/bits.Set -/
def vc_bits_Set (sa1 : Option Addr) (sl1 sc1 : Nat) (x1 : Int) (x2 : Int) (b1 : Bool) (x3 : Int) (w : World) (R : Ending → World → Prop) : Prop :=
  Calls P F.bits_there #[Value.slice sa1 sl1 sc1, Value.int IntKind.i64 x1, Value.int IntKind.i64 x2] w fun e1 w1 =>
  ∃ n1 : Int,
  (e1 = Ending.returned (Value.int IntKind.i64 n1)) ∧
  brB (n1 != 0)
    (R (Ending.returned (Value.tuple #[Value.slice none 0 0, Value.int IntKind.i64 n1])) w1)
    (Calls P F.slices_Clone_byte #[Value.slice sa1 sl1 sc1] w1 fun e2 w2 =>
    ∃ p1 : Option Addr,
    ∃ k1 : Nat,
    ∃ k2 : Nat,
    (e2 = Ending.returned (Value.slice p1 k1 k2)) ∧
    ∃ I1 : List Value → World → Prop,
    ∃ m1 : List Value → World → Nat,
    (I1 [Value.int IntKind.u32 x3, Value.int IntKind.i64 0] w2) ∧
    ∀ n2 : Int,
    ∀ n3 : Int,
    ∀ w3 : World,
    (I1 [Value.int IntKind.u32 n2, Value.int IntKind.i64 n3] w3) →
    brB (decide (n3 < x2))
      (∃ I2 : List Value → World → Prop,
      (brB (b1)
          (idx (p1) (k1) (IntKind.i64.wrap (IntKind.i64.wrap (IntKind.i64.wrap (x1 + x2) - 1) - n3)) (1) fun a1 =>
          (∃ v1 : Value,
            w3.cell? a1 = some v1) ∧
          (w3.frozen? a1 = false) ∧
          I2 [Value.int IntKind.u32 (shiftZ BinOp.shr IntKind.u32 n2 8)] (setCells w3 a1 [Value.int IntKind.u8 (IntKind.u8.wrap n2)] 0))
          (idx (p1) (k1) (IntKind.i64.wrap (x1 + n3)) (1) fun a2 =>
          (∃ v2 : Value,
            w3.cell? a2 = some v2) ∧
          (w3.frozen? a2 = false) ∧
          I2 [Value.int IntKind.u32 (shiftZ BinOp.shr IntKind.u32 n2 8)] (setCells w3 a2 [Value.int IntKind.u8 (IntKind.u8.wrap n2)] 0))) ∧
      ∀ n4 : Int,
      ∀ w4 : World,
      (I2 [Value.int IntKind.u32 n4] w4) →
      (I1 [Value.int IntKind.u32 n4, Value.int IntKind.i64 (IntKind.i64.wrap (n3 + 1))] w4) ∧
      m1 [Value.int IntKind.u32 n4, Value.int IntKind.i64 (IntKind.i64.wrap (n3 + 1))] w4 < m1 [Value.int IntKind.u32 n2, Value.int IntKind.i64 n3] w3)
      (R (Ending.returned (Value.tuple #[Value.slice p1 k1 k2, Value.int IntKind.i64 0])) w3))
theorem calls_bits_Set (sa1 : Option Addr) (sl1 sc1 : Nat) (x1 : Int) (x2 : Int) (b1 : Bool) (x3 : Int) (w : World) (R : Ending → World → Prop) (h : vc_bits_Set sa1 sl1 sc1 x1 x2 b1 x3 w R) : Calls P F.bits_Set #[.slice sa1 sl1 sc1, .int .i64 x1, .int .i64 x2, .bool b1, .int .u32 x3] w R :=
  calls_of_vc (fn := Try.f26) (ac := ac_bits_Set) (args := [.slice sa1 sl1 sc1, .int .i64 x1, .int .i64 x2, .bool b1, .int .u32 x3]) mixed Try.func26 (by kernel_rfl) (cast (by kernel_rfl) h)
/-- darkroom/darkroomref01.Set -/
def vc_ref01_Set (sa1 : Option Addr) (sl1 sc1 : Nat) (x1 : Int) (x2 : Int) (b1 : Bool) (x3 : Int) (w : World) (R : Ending → World → Prop) : Prop :=
  Calls P F.ref01_Get #[Value.slice sa1 sl1 sc1, Value.int IntKind.i64 x1, Value.int IntKind.i64 x2, Value.bool b1] w fun e1 w1 =>
  ∃ n1 : Int,
  ∃ n2 : Int,
  (e1 = Ending.returned (Value.tuple #[Value.int IntKind.u32 n1, Value.int IntKind.i64 n2])) ∧
  brB (n2 != 0)
    (R (Ending.returned (Value.tuple #[Value.slice none 0 0, Value.int IntKind.i64 n2])) w1)
    (∀ k1 : Nat,
    ∀ w2 : World,
    (New w1 (Obj.cells #[] 5) k1 w2) →
    ∃ l1 : List Value,
    (l1.length = sl1 * 1) ∧
    (oneAll l1 = true) ∧
    (CellsAre w2 sa1 l1) ∧
    appVC (w2) ([]) (some { block := k1, off := 0 }) (0) (0) (sl1) (1) (1) (5) ([Value.int IntKind.u8 0]) (l1) fun p1 k2 k3 w3 =>
    ∃ I1 : List Value → World → Prop,
    ∃ m1 : List Value → World → Nat,
    (I1 [Value.int IntKind.i64 0] w3) ∧
    ∀ n3 : Int,
    ∀ w4 : World,
    (I1 [Value.int IntKind.i64 n3] w4) →
    brB (decide (n3 < x2))
      (∃ I2 : List Value → World → Prop,
      (brB (b1)
          (I2 [Value.int IntKind.i64 (IntKind.i64.wrap (IntKind.i64.wrap (x2 - 1) - n3))] w4)
          (I2 [Value.int IntKind.i64 n3] w4)) ∧
      ∀ n4 : Int,
      ∀ w5 : World,
      (I2 [Value.int IntKind.i64 n4] w5) →
      (0 ≤ IntKind.u64.wrap (IntKind.i64.wrap (8 * n4))) ∧
      idx (p1) (k2) (IntKind.i64.wrap (x1 + n3)) (1) fun a1 =>
      (∃ v1 : Value,
        w5.cell? a1 = some v1) ∧
      (w5.frozen? a1 = false) ∧
      (I1 [Value.int IntKind.i64 (IntKind.i64.wrap (n3 + 1))] (setCells w5 a1 [Value.int IntKind.u8 (IntKind.u8.wrap (shiftZ BinOp.shr IntKind.u32 x3 (IntKind.u64.wrap (IntKind.i64.wrap (8 * n4)))))] 0)) ∧
      m1 [Value.int IntKind.i64 (IntKind.i64.wrap (n3 + 1))] (setCells w5 a1 [Value.int IntKind.u8 (IntKind.u8.wrap (shiftZ BinOp.shr IntKind.u32 x3 (IntKind.u64.wrap (IntKind.i64.wrap (8 * n4)))))] 0) < m1 [Value.int IntKind.i64 n3] w4)
      (R (Ending.returned (Value.tuple #[Value.slice p1 k2 k3, Value.int IntKind.i64 0])) w4))
theorem calls_ref01_Set (sa1 : Option Addr) (sl1 sc1 : Nat) (x1 : Int) (x2 : Int) (b1 : Bool) (x3 : Int) (w : World) (R : Ending → World → Prop) (h : vc_ref01_Set sa1 sl1 sc1 x1 x2 b1 x3 w R) : Calls P F.ref01_Set #[.slice sa1 sl1 sc1, .int .i64 x1, .int .i64 x2, .bool b1, .int .u32 x3] w R :=
  calls_of_vc (fn := Try.f27) (ac := ac_ref01_Set) (args := [.slice sa1 sl1 sc1, .int .i64 x1, .int .i64 x2, .bool b1, .int .u32 x3]) mixed Try.func27 (by kernel_rfl) (cast (by kernel_rfl) h)
/-- darkroom/darkroomref01.Take -/
def vc_ref01_Take (sa1 : Option Addr) (sl1 sc1 : Nat) (b1 : Bool) (x1 : Int) (x2 : Int) (w : World) (R : Ending → World → Prop) : Prop :=
  ∀ k1 : Nat,
  (w.heap.size ≤ k1) →
  ∀ k2 : Nat,
  (w.heap.size ≤ k2) →
  brB (decide (x2 < 0) || decide (x2 > 32))
    (∀ w1 : World,
    (Locl ([k2, k1]) w w1) →
    R (Ending.returned (Value.tuple #[Value.agg #[Value.slice sa1 sl1 sc1, Value.bool b1, Value.int IntKind.i64 x1], Value.int IntKind.u32 0, Value.int IntKind.i64 2])) w1)
    (∀ w2 : World,
    (Locl ([k2, k1]) w w2) →
    Calls P F.ref01_Left #[Value.agg #[Value.slice sa1 sl1 sc1, Value.bool b1, Value.int IntKind.i64 x1]] w2 fun e1 w3 =>
    ∃ n1 : Int,
    (e1 = Ending.returned (Value.int IntKind.i64 n1)) ∧
    (Keep ([k2, k1]) w2 w3) ∧
    brB (decide (x2 > n1))
      (∀ w4 : World,
      (Locl ([k2, k1]) w3 w4) →
      R (Ending.returned (Value.tuple #[Value.agg #[Value.slice sa1 sl1 sc1, Value.bool b1, Value.int IntKind.i64 x1], Value.int IntKind.u32 0, Value.int IntKind.i64 5])) w4)
      (∃ I1 : List Value → World → Prop,
      ∃ m1 : List Value → World → Nat,
      (I1 [Value.int IntKind.u32 0, Value.int IntKind.i64 0] w3) ∧
      ∀ n2 : Int,
      ∀ n3 : Int,
      ∀ w5 : World,
      (I1 [Value.int IntKind.u32 n2, Value.int IntKind.i64 n3] w5) →
      brB (decide (n3 < x2))
        (∃ I2 : List Value → World → Prop,
        (Calls P F.ref01_bit #[Value.slice sa1 sl1 sc1, Value.bool b1, Value.int IntKind.i64 (IntKind.i64.wrap (x1 + n3))] w5 fun e2 w6 =>
          ∃ n4 : Int,
          (e2 = Ending.returned (Value.int IntKind.u32 n4)) ∧
          (Keep ([k2, k1]) w5 w6) ∧
          brB (b1)
            (I2 [Value.int IntKind.u32 (IntKind.u32.wrap (IntKind.u32.wrap (2 * n2) + n4))] w6)
            ((0 ≤ IntKind.u64.wrap n3) ∧
            I2 [Value.int IntKind.u32 (IntKind.u32.wrap (n2 + shiftZ BinOp.shl IntKind.u32 n4 (IntKind.u64.wrap n3)))] w6)) ∧
        ∀ n5 : Int,
        ∀ w7 : World,
        (I2 [Value.int IntKind.u32 n5] w7) →
        (I1 [Value.int IntKind.u32 n5, Value.int IntKind.i64 (IntKind.i64.wrap (n3 + 1))] w7) ∧
        m1 [Value.int IntKind.u32 n5, Value.int IntKind.i64 (IntKind.i64.wrap (n3 + 1))] w7 < m1 [Value.int IntKind.u32 n2, Value.int IntKind.i64 n3] w5)
        (∀ w8 : World,
        (Locl ([k2, k1]) w5 w8) →
        R (Ending.returned (Value.tuple #[Value.agg #[Value.slice sa1 sl1 sc1, Value.bool b1, Value.int IntKind.i64 (IntKind.i64.wrap (x1 + x2))], Value.int IntKind.u32 n2, Value.int IntKind.i64 0])) w8)))
theorem calls_ref01_Take (sa1 : Option Addr) (sl1 sc1 : Nat) (b1 : Bool) (x1 : Int) (x2 : Int) (w : World) (R : Ending → World → Prop) (h : vc_ref01_Take sa1 sl1 sc1 b1 x1 x2 w R) : Calls P F.ref01_Take #[.agg #[.slice sa1 sl1 sc1, .bool b1, .int .i64 x1], .int .i64 x2] w R :=
  calls_of_vc (fn := Try.f28) (ac := ac_ref01_Take) (args := [.agg #[.slice sa1 sl1 sc1, .bool b1, .int .i64 x1], .int .i64 x2]) mixed Try.func28 (by kernel_rfl) (cast (by kernel_rfl) h)
/-- (*darkroom/bits.Reader).Align -/
def vc_bits_Reader_Align (q1 : Option Addr) (w : World) (R : Ending → World → Prop) : Prop :=
  brB (!q1.isNone)
    (Calls P F.bits_Reader_border #[Value.pointer q1] w fun e1 w1 =>
    ∃ n1 : Int,
    (e1 = Ending.returned (Value.int IntKind.i64 n1)) ∧
    nn (q1) fun a1 =>
    (∃ v1 : Value,
      w1.cell? (a1.add 1) = some v1) ∧
    (w1.frozen? (a1.add 1) = false) ∧
    R (Ending.returned (Value.tuple #[])) (setCells w1 (a1.add 1) [Value.int IntKind.i64 (IntKind.i64.wrap (8 * n1))] 0))
    (R (Ending.returned (Value.tuple #[])) w)
theorem calls_bits_Reader_Align (q1 : Option Addr) (w : World) (R : Ending → World → Prop) (h : vc_bits_Reader_Align q1 w R) : Calls P F.bits_Reader_Align #[.pointer q1] w R :=
  calls_of_vc (fn := Try.f29) (ac := ac_bits_Reader_Align) (args := [.pointer q1]) mixed Try.func29 (by kernel_rfl) (cast (by kernel_rfl) h)
/-- darkroom/darkroomref01.Align -/
def vc_ref01_Align (sa1 : Option Addr) (sl1 sc1 : Nat) (b1 : Bool) (x1 : Int) (w : World) (R : Ending → World → Prop) : Prop :=
  ∀ k1 : Nat,
  (w.heap.size ≤ k1) →
  ∀ k2 : Nat,
  (w.heap.size ≤ k2) →
  ∀ w1 : World,
  (Locl ([k2, k1]) w w1) →
  R (Ending.returned (Value.agg #[Value.slice sa1 sl1 sc1, Value.bool b1, Value.int IntKind.i64 (IntKind.i64.wrap (divZ BinOp.quo IntKind.i64 (IntKind.i64.wrap (x1 + 7)) 8 * 8))])) w1
theorem calls_ref01_Align (sa1 : Option Addr) (sl1 sc1 : Nat) (b1 : Bool) (x1 : Int) (w : World) (R : Ending → World → Prop) (h : vc_ref01_Align sa1 sl1 sc1 b1 x1 w R) : Calls P F.ref01_Align #[.agg #[.slice sa1 sl1 sc1, .bool b1, .int .i64 x1]] w R :=
  calls_of_vc (fn := Try.f30) (ac := ac_ref01_Align) (args := [.agg #[.slice sa1 sl1 sc1, .bool b1, .int .i64 x1]]) mixed Try.func30 (by kernel_rfl) (cast (by kernel_rfl) h)
/-- (*darkroom/bits.Reader).Bytes -/
def vc_bits_Reader_Bytes (q1 : Option Addr) (x1 : Int) (w : World) (R : Ending → World → Prop) : Prop :=
  brB (q1.isNone)
    (R (Ending.returned (Value.tuple #[Value.slice none 0 0, Value.int IntKind.i64 1])) w)
    (brB (decide (x1 < 0))
      (R (Ending.returned (Value.tuple #[Value.slice none 0 0, Value.int IntKind.i64 2])) w)
      (nn (q1) fun a1 =>
      ∃ p1 : Option Addr,
      ∃ k1 : Nat,
      ∃ k2 : Nat,
      (w.drew.cell? a1 = some (Value.slice p1 k1 k2)) ∧
      Calls P F.bits_Reader_border #[Value.pointer q1] (w.drew) fun e1 w1 =>
      ∃ n1 : Int,
      (e1 = Ending.returned (Value.int IntKind.i64 n1)) ∧
      (Keeps (w.drew) w1) ∧
      brB (decide (x1 > IntKind.i64.wrap ((↑k1 : Int) - n1)))
        (R (Ending.returned (Value.tuple #[Value.slice none 0 0, Value.int IntKind.i64 5])) w1)
        (Calls P F.bits_Reader_border #[Value.pointer q1] w1 fun e2 w2 =>
        ∃ n2 : Int,
        (e2 = Ending.returned (Value.int IntKind.i64 n2)) ∧
        nn (q1) fun a2 =>
        (∃ v1 : Value,
          w2.cell? (a2.add 1) = some v1) ∧
        (w2.frozen? (a2.add 1) = false) ∧
        nn (q1) fun a3 =>
        ∃ p2 : Option Addr,
        ∃ k3 : Nat,
        ∃ k4 : Nat,
        ((setCells w2 (a2.add 1) [Value.int IntKind.i64 (IntKind.i64.wrap (8 * IntKind.i64.wrap (n2 + x1)))] 0).cell? a3 = some (Value.slice p2 k3 k4)) ∧
        slcc (p2) (k4) (n2) (IntKind.i64.wrap (n2 + x1)) (1) fun p3 k5 k6 =>
        Calls P F.slices_Clone_byte #[Value.slice p3 k5 k6] (setCells w2 (a2.add 1) [Value.int IntKind.i64 (IntKind.i64.wrap (8 * IntKind.i64.wrap (n2 + x1)))] 0) fun e3 w3 =>
        ∃ p4 : Option Addr,
        ∃ k7 : Nat,
        ∃ k8 : Nat,
        (e3 = Ending.returned (Value.slice p4 k7 k8)) ∧
        R (Ending.returned (Value.tuple #[Value.slice p4 k7 k8, Value.int IntKind.i64 0])) w3)))
theorem calls_bits_Reader_Bytes (q1 : Option Addr) (x1 : Int) (w : World) (R : Ending → World → Prop) (h : vc_bits_Reader_Bytes q1 x1 w R) : Calls P F.bits_Reader_Bytes #[.pointer q1, .int .i64 x1] w R :=
  calls_of_vc (fn := Try.f31) (ac := ac_bits_Reader_Bytes) (args := [.pointer q1, .int .i64 x1]) mixed Try.func31 (by kernel_rfl) (cast (by kernel_rfl) h)
/-- darkroom/darkroomref01.Bytes -/
def vc_ref01_Bytes (sa1 : Option Addr) (sl1 sc1 : Nat) (b1 : Bool) (x1 : Int) (x2 : Int) (w : World) (R : Ending → World → Prop) : Prop :=
  ∀ k1 : Nat,
  (w.heap.size ≤ k1) →
  ∀ k2 : Nat,
  (w.heap.size ≤ k2) →
  brB (decide (x2 < 0))
    (∀ w1 : World,
    (Locl ([k2, k1]) w w1) →
    R (Ending.returned (Value.tuple #[Value.agg #[Value.slice sa1 sl1 sc1, Value.bool b1, Value.int IntKind.i64 x1], Value.slice none 0 0, Value.int IntKind.i64 2])) w1)
    (brB (decide (x2 > IntKind.i64.wrap ((↑sl1 : Int) - divZ BinOp.quo IntKind.i64 (IntKind.i64.wrap (x1 + 7)) 8)))
      (∀ w2 : World,
      (Locl ([k2, k1]) w w2) →
      R (Ending.returned (Value.tuple #[Value.agg #[Value.slice sa1 sl1 sc1, Value.bool b1, Value.int IntKind.i64 x1], Value.slice none 0 0, Value.int IntKind.i64 5])) w2)
      (slcc (sa1) (sc1) (divZ BinOp.quo IntKind.i64 (IntKind.i64.wrap (x1 + 7)) 8) (IntKind.i64.wrap (divZ BinOp.quo IntKind.i64 (IntKind.i64.wrap (x1 + 7)) 8 + x2)) (1) fun p1 k3 k4 =>
      ∀ w3 : World,
      (Locl ([k2, k1]) w w3) →
      ∀ k5 : Nat,
      ∀ w4 : World,
      (New w3 (Obj.cells #[] 5) k5 w4) →
      ∃ l1 : List Value,
      (l1.length = k3 * 1) ∧
      (oneAll l1 = true) ∧
      (CellsAre w4 p1 l1) ∧
      appVC (w4) ([(4, k2, [Value.slice none 0 0, Value.bool false, Value.int IntKind.i64 0]), (2, k1, [Value.slice sa1 sl1 sc1, Value.bool b1, Value.int IntKind.i64 (IntKind.i64.wrap (8 * IntKind.i64.wrap (divZ BinOp.quo IntKind.i64 (IntKind.i64.wrap (x1 + 7)) 8 + x2)))])]) (some { block := k5, off := 0 }) (0) (0) (k3) (1) (1) (5) ([Value.int IntKind.u8 0]) (l1) fun p2 k6 k7 w5 =>
      (Keeps w4 w5) ∧
      ∀ w6 : World,
      (Locl ([k2, k1]) w5 w6) →
      R (Ending.returned (Value.tuple #[Value.agg #[Value.slice sa1 sl1 sc1, Value.bool b1, Value.int IntKind.i64 (IntKind.i64.wrap (8 * IntKind.i64.wrap (divZ BinOp.quo IntKind.i64 (IntKind.i64.wrap (x1 + 7)) 8 + x2)))], Value.slice p2 k6 k7, Value.int IntKind.i64 0])) w6))
theorem calls_ref01_Bytes (sa1 : Option Addr) (sl1 sc1 : Nat) (b1 : Bool) (x1 : Int) (x2 : Int) (w : World) (R : Ending → World → Prop) (h : vc_ref01_Bytes sa1 sl1 sc1 b1 x1 x2 w R) : Calls P F.ref01_Bytes #[.agg #[.slice sa1 sl1 sc1, .bool b1, .int .i64 x1], .int .i64 x2] w R :=
  calls_of_vc (fn := Try.f32) (ac := ac_ref01_Bytes) (args := [.agg #[.slice sa1 sl1 sc1, .bool b1, .int .i64 x1], .int .i64 x2]) mixed Try.func32 (by kernel_rfl) (cast (by kernel_rfl) h)
/-- darkroom/darkroomref01.Left -/
def vc_ref01_Left (sa1 : Option Addr) (sl1 sc1 : Nat) (b1 : Bool) (x1 : Int) (w : World) (R : Ending → World → Prop) : Prop :=
  ∀ k1 : Nat,
  (w.heap.size ≤ k1) →
  ∀ w1 : World,
  (Locl ([k1]) w w1) →
  R (Ending.returned (Value.int IntKind.i64 (IntKind.i64.wrap (IntKind.i64.wrap (8 * (↑sl1 : Int)) - x1)))) w1
theorem calls_ref01_Left (sa1 : Option Addr) (sl1 sc1 : Nat) (b1 : Bool) (x1 : Int) (w : World) (R : Ending → World → Prop) (h : vc_ref01_Left sa1 sl1 sc1 b1 x1 w R) : Calls P F.ref01_Left #[.agg #[.slice sa1 sl1 sc1, .bool b1, .int .i64 x1]] w R :=
  calls_of_vc (fn := Try.f33) (ac := ac_ref01_Left) (args := [.agg #[.slice sa1 sl1 sc1, .bool b1, .int .i64 x1]]) mixed Try.func33 (by kernel_rfl) (cast (by kernel_rfl) h)
/-- darkroom/bits.Stuff -/
def vc_bits_Stuff (sa1 : Option Addr) (sl1 sc1 : Nat) (w : World) (R : Ending → World → Prop) : Prop :=
  ((0 : Int) ≤ 0) ∧
  (0 ≤ (↑sl1 : Int)) ∧
  ((↑sl1 : Int) * 1 ≤ 281474976710656) ∧
  ((↑sl1 : Int) < 4611686018427387904) ∧
  ∀ k1 : Nat,
  ∀ w1 : World,
  (New w (Obj.cells (mkCells [Value.int IntKind.u8 0] sl1) 5) k1 w1) →
  ∃ I1 : List Value → World → Prop,
  ∃ m1 : List Value → World → Nat,
  (I1 [Value.slice (some { block := k1, off := 0 }) 0 sl1, Value.int IntKind.i64 0] w1) ∧
  ∀ p1 : Option Addr,
  ∀ k2 : Nat,
  ∀ k3 : Nat,
  ∀ n1 : Int,
  ∀ w2 : World,
  (I1 [Value.slice p1 k2 k3, Value.int IntKind.i64 n1] w2) →
  brB (decide (n1 < (↑sl1 : Int)))
    (∃ I2 : List Value → World → Prop,
    (idx (sa1) (sl1) (n1) (1) fun a1 =>
      ∃ n2 : Int,
      (w2.cell? a1 = some (Value.int IntKind.u8 n2)) ∧
      ∀ k4 : Nat,
      (w2.heap.size ≤ k4) →
      ∀ w3 : World,
      (Locl ([k4]) w2 w3) →
      appVC (w3) ([(17, k4, [Value.int IntKind.u8 n2])]) (p1) (k2) (k3) (1) (1) (1) (5) ([Value.int IntKind.u8 0]) ([Value.int IntKind.u8 n2]) fun p2 k5 k6 w4 =>
      brB (n2 == 255)
        (∀ k7 : Nat,
        (w4.heap.size ≤ k7) →
        ∀ w5 : World,
        (Locl ([k7, k4]) w4 w5) →
        appVC (w5) ([(22, k7, [Value.int IntKind.u8 0]), (17, k4, [Value.int IntKind.u8 n2])]) (p2) (k5) (k6) (1) (1) (1) (5) ([Value.int IntKind.u8 0]) ([Value.int IntKind.u8 0]) fun p3 k8 k9 w6 =>
        I2 [Value.slice p3 k8 k9] w6)
        (I2 [Value.slice p2 k5 k6] w4)) ∧
    ∀ p4 : Option Addr,
    ∀ k10 : Nat,
    ∀ k11 : Nat,
    ∀ w7 : World,
    (I2 [Value.slice p4 k10 k11] w7) →
    (I1 [Value.slice p4 k10 k11, Value.int IntKind.i64 (IntKind.i64.wrap (n1 + 1))] w7) ∧
    m1 [Value.slice p4 k10 k11, Value.int IntKind.i64 (IntKind.i64.wrap (n1 + 1))] w7 < m1 [Value.slice p1 k2 k3, Value.int IntKind.i64 n1] w2)
    (R (Ending.returned (Value.slice p1 k2 k3)) w2)
theorem calls_bits_Stuff (sa1 : Option Addr) (sl1 sc1 : Nat) (w : World) (R : Ending → World → Prop) (h : vc_bits_Stuff sa1 sl1 sc1 w R) : Calls P F.bits_Stuff #[.slice sa1 sl1 sc1] w R :=
  calls_of_vc (fn := Try.f34) (ac := ac_bits_Stuff) (args := [.slice sa1 sl1 sc1]) mixed Try.func34 (by kernel_rfl) (cast (by kernel_rfl) h)
/-- darkroom/bits.Unstuff -/
def vc_bits_Unstuff (sa1 : Option Addr) (sl1 sc1 : Nat) (w : World) (R : Ending → World → Prop) : Prop :=
  ((0 : Int) ≤ 0) ∧
  (0 ≤ (↑sl1 : Int)) ∧
  ((↑sl1 : Int) * 1 ≤ 281474976710656) ∧
  ((↑sl1 : Int) < 4611686018427387904) ∧
  ∀ k1 : Nat,
  ∀ w1 : World,
  (New w (Obj.cells (mkCells [Value.int IntKind.u8 0] sl1) 5) k1 w1) →
  ∃ I1 : List Value → World → Prop,
  (∃ I2 : List Value → World → Prop,
    ∃ m1 : List Value → World → Nat,
    (I2 [Value.slice (some { block := k1, off := 0 }) 0 sl1, Value.int IntKind.i64 0] w1) ∧
    ∀ p1 : Option Addr,
    ∀ k2 : Nat,
    ∀ k3 : Nat,
    ∀ n1 : Int,
    ∀ w2 : World,
    (I2 [Value.slice p1 k2 k3, Value.int IntKind.i64 n1] w2) →
    brB (decide (n1 < (↑sl1 : Int)))
      (∃ I3 : List Value → World → Prop,
      (idx (sa1) (sl1) (n1) (1) fun a1 =>
        ∃ n2 : Int,
        (w2.cell? a1 = some (Value.int IntKind.u8 n2)) ∧
        brB (n2 == 255)
          (brB (IntKind.i64.wrap (n1 + 1) == (↑sl1 : Int))
            (I1 [Value.slice p1 k2 k3, Value.int IntKind.i64 n1] w2)
            (idx (sa1) (sl1) (IntKind.i64.wrap (n1 + 1)) (1) fun a2 =>
            ∃ n3 : Int,
            (w2.cell? a2 = some (Value.int IntKind.u8 n3)) ∧
            brB (n3 != 0)
              (I1 [Value.slice p1 k2 k3, Value.int IntKind.i64 n1] w2)
              (∀ k4 : Nat,
              (w2.heap.size ≤ k4) →
              ∀ w3 : World,
              (Locl ([k4]) w2 w3) →
              appVC (w3) ([(34, k4, [Value.int IntKind.u8 255])]) (p1) (k2) (k3) (1) (1) (1) (5) ([Value.int IntKind.u8 0]) ([Value.int IntKind.u8 255]) fun p2 k5 k6 w4 =>
              I3 [Value.slice p2 k5 k6, Value.int IntKind.i64 (IntKind.i64.wrap (n1 + 1))] w4)))
          (idx (sa1) (sl1) (n1) (1) fun a3 =>
          ∃ n4 : Int,
          (w2.cell? a3 = some (Value.int IntKind.u8 n4)) ∧
          ∀ k7 : Nat,
          (w2.heap.size ≤ k7) →
          ∀ w5 : World,
          (Locl ([k7]) w2 w5) →
          appVC (w5) ([(43, k7, [Value.int IntKind.u8 n4])]) (p1) (k2) (k3) (1) (1) (1) (5) ([Value.int IntKind.u8 0]) ([Value.int IntKind.u8 n4]) fun p3 k8 k9 w6 =>
          I3 [Value.slice p3 k8 k9, Value.int IntKind.i64 n1] w6)) ∧
      ∀ p4 : Option Addr,
      ∀ k10 : Nat,
      ∀ k11 : Nat,
      ∀ n5 : Int,
      ∀ w7 : World,
      (I3 [Value.slice p4 k10 k11, Value.int IntKind.i64 n5] w7) →
      (I2 [Value.slice p4 k10 k11, Value.int IntKind.i64 (IntKind.i64.wrap (n5 + 1))] w7) ∧
      m1 [Value.slice p4 k10 k11, Value.int IntKind.i64 (IntKind.i64.wrap (n5 + 1))] w7 < m1 [Value.slice p1 k2 k3, Value.int IntKind.i64 n1] w2)
      (I1 [Value.slice p1 k2 k3, Value.int IntKind.i64 n1] w2)) ∧
  ∀ p5 : Option Addr,
  ∀ k12 : Nat,
  ∀ k13 : Nat,
  ∀ n6 : Int,
  ∀ w8 : World,
  (I1 [Value.slice p5 k12 k13, Value.int IntKind.i64 n6] w8) →
  R (Ending.returned (Value.tuple #[Value.slice p5 k12 k13, Value.int IntKind.i64 n6])) w8
theorem calls_bits_Unstuff (sa1 : Option Addr) (sl1 sc1 : Nat) (w : World) (R : Ending → World → Prop) (h : vc_bits_Unstuff sa1 sl1 sc1 w R) : Calls P F.bits_Unstuff #[.slice sa1 sl1 sc1] w R :=
  calls_of_vc (fn := Try.f35) (ac := ac_bits_Unstuff) (args := [.slice sa1 sl1 sc1]) mixed Try.func35 (by kernel_rfl) (cast (by kernel_rfl) h)
/-- darkroom/darkroomref01.Unstuff -/
def vc_ref01_Unstuff (sa1 : Option Addr) (sl1 sc1 : Nat) (w : World) (R : Ending → World → Prop) : Prop :=
  ∃ I1 : List Value → World → Prop,
  ∃ m1 : List Value → World → Nat,
  (I1 [Value.slice none 0 0, Value.int IntKind.i64 0] w) ∧
  ∀ p1 : Option Addr,
  ∀ k1 : Nat,
  ∀ k2 : Nat,
  ∀ n1 : Int,
  ∀ w1 : World,
  (I1 [Value.slice p1 k1 k2, Value.int IntKind.i64 n1] w1) →
  brB (decide (n1 < (↑sl1 : Int)))
    (∃ I2 : List Value → World → Prop,
    (idx (sa1) (sl1) (n1) (1) fun a1 =>
      ∃ n2 : Int,
      (w1.cell? a1 = some (Value.int IntKind.u8 n2)) ∧
      brB (n2 == 255)
        (brB (decide (IntKind.i64.wrap (n1 + 1) ≥ (↑sl1 : Int)))
          (R (Ending.returned (Value.tuple #[Value.slice p1 k1 k2, Value.int IntKind.i64 n1])) w1)
          (idx (sa1) (sl1) (IntKind.i64.wrap (n1 + 1)) (1) fun a2 =>
          ∃ n3 : Int,
          (w1.cell? a2 = some (Value.int IntKind.u8 n3)) ∧
          brB (n3 != 0)
            (R (Ending.returned (Value.tuple #[Value.slice p1 k1 k2, Value.int IntKind.i64 n1])) w1)
            (∀ k3 : Nat,
            (w1.heap.size ≤ k3) →
            ∀ w2 : World,
            (Locl ([k3]) w1 w2) →
            appVC (w2) ([(33, k3, [Value.int IntKind.u8 255])]) (p1) (k1) (k2) (1) (1) (1) (5) ([Value.int IntKind.u8 0]) ([Value.int IntKind.u8 255]) fun p2 k4 k5 w3 =>
            I2 [Value.slice p2 k4 k5, Value.int IntKind.i64 (IntKind.i64.wrap (n1 + 1))] w3)))
        (idx (sa1) (sl1) (n1) (1) fun a3 =>
        ∃ n4 : Int,
        (w1.cell? a3 = some (Value.int IntKind.u8 n4)) ∧
        ∀ k6 : Nat,
        (w1.heap.size ≤ k6) →
        ∀ w4 : World,
        (Locl ([k6]) w1 w4) →
        appVC (w4) ([(42, k6, [Value.int IntKind.u8 n4])]) (p1) (k1) (k2) (1) (1) (1) (5) ([Value.int IntKind.u8 0]) ([Value.int IntKind.u8 n4]) fun p3 k7 k8 w5 =>
        I2 [Value.slice p3 k7 k8, Value.int IntKind.i64 n1] w5)) ∧
    ∀ p4 : Option Addr,
    ∀ k9 : Nat,
    ∀ k10 : Nat,
    ∀ n5 : Int,
    ∀ w6 : World,
    (I2 [Value.slice p4 k9 k10, Value.int IntKind.i64 n5] w6) →
    (I1 [Value.slice p4 k9 k10, Value.int IntKind.i64 (IntKind.i64.wrap (n5 + 1))] w6) ∧
    m1 [Value.slice p4 k9 k10, Value.int IntKind.i64 (IntKind.i64.wrap (n5 + 1))] w6 < m1 [Value.slice p1 k1 k2, Value.int IntKind.i64 n1] w1)
    (R (Ending.returned (Value.tuple #[Value.slice p1 k1 k2, Value.int IntKind.i64 (↑sl1 : Int)])) w1)
theorem calls_ref01_Unstuff (sa1 : Option Addr) (sl1 sc1 : Nat) (w : World) (R : Ending → World → Prop) (h : vc_ref01_Unstuff sa1 sl1 sc1 w R) : Calls P F.ref01_Unstuff #[.slice sa1 sl1 sc1] w R :=
  calls_of_vc (fn := Try.f36) (ac := ac_ref01_Unstuff) (args := [.slice sa1 sl1 sc1]) mixed Try.func36 (by kernel_rfl) (cast (by kernel_rfl) h)
/-- darkroom/darkroomref01.Stuff -/
def vc_ref01_Stuff (sa1 : Option Addr) (sl1 sc1 : Nat) (w : World) (R : Ending → World → Prop) : Prop :=
  ∃ I1 : List Value → World → Prop,
  ∃ m1 : List Value → World → Nat,
  (I1 [Value.slice none 0 0, Value.int IntKind.i64 0] w) ∧
  ∀ p1 : Option Addr,
  ∀ k1 : Nat,
  ∀ k2 : Nat,
  ∀ n1 : Int,
  ∀ w1 : World,
  (I1 [Value.slice p1 k1 k2, Value.int IntKind.i64 n1] w1) →
  brB (decide (n1 < (↑sl1 : Int)))
    (∃ I2 : List Value → World → Prop,
    (idx (sa1) (sl1) (n1) (1) fun a1 =>
      ∃ n2 : Int,
      (w1.cell? a1 = some (Value.int IntKind.u8 n2)) ∧
      ∀ k3 : Nat,
      (w1.heap.size ≤ k3) →
      ∀ w2 : World,
      (Locl ([k3]) w1 w2) →
      appVC (w2) ([(16, k3, [Value.int IntKind.u8 n2])]) (p1) (k1) (k2) (1) (1) (1) (5) ([Value.int IntKind.u8 0]) ([Value.int IntKind.u8 n2]) fun p2 k4 k5 w3 =>
      idx (sa1) (sl1) (n1) (1) fun a2 =>
      ∃ n3 : Int,
      (w3.cell? a2 = some (Value.int IntKind.u8 n3)) ∧
      brB (n3 == 255)
        (∀ k6 : Nat,
        (w3.heap.size ≤ k6) →
        ∀ w4 : World,
        (Locl ([k6, k3]) w3 w4) →
        appVC (w4) ([(24, k6, [Value.int IntKind.u8 0]), (16, k3, [Value.int IntKind.u8 n2])]) (p2) (k4) (k5) (1) (1) (1) (5) ([Value.int IntKind.u8 0]) ([Value.int IntKind.u8 0]) fun p3 k7 k8 w5 =>
        I2 [Value.slice p3 k7 k8] w5)
        (I2 [Value.slice p2 k4 k5] w3)) ∧
    ∀ p4 : Option Addr,
    ∀ k9 : Nat,
    ∀ k10 : Nat,
    ∀ w6 : World,
    (I2 [Value.slice p4 k9 k10] w6) →
    (I1 [Value.slice p4 k9 k10, Value.int IntKind.i64 (IntKind.i64.wrap (n1 + 1))] w6) ∧
    m1 [Value.slice p4 k9 k10, Value.int IntKind.i64 (IntKind.i64.wrap (n1 + 1))] w6 < m1 [Value.slice p1 k1 k2, Value.int IntKind.i64 n1] w1)
    (R (Ending.returned (Value.slice p1 k1 k2)) w1)
theorem calls_ref01_Stuff (sa1 : Option Addr) (sl1 sc1 : Nat) (w : World) (R : Ending → World → Prop) (h : vc_ref01_Stuff sa1 sl1 sc1 w R) : Calls P F.ref01_Stuff #[.slice sa1 sl1 sc1] w R :=
  calls_of_vc (fn := Try.f37) (ac := ac_ref01_Stuff) (args := [.slice sa1 sl1 sc1]) mixed Try.func37 (by kernel_rfl) (cast (by kernel_rfl) h)
/-- darkroom/darkroomlaw01.spoil -/
def vc_law01_spoil (sa1 : Option Addr) (sl1 sc1 : Nat) (w : World) (R : Ending → World → Prop) : Prop :=
  ∃ I1 : List Value → World → Prop,
  ∃ m1 : List Value → World → Nat,
  (I1 [Value.int IntKind.i64 0] w) ∧
  ∀ n1 : Int,
  ∀ w1 : World,
  (I1 [Value.int IntKind.i64 n1] w1) →
  brB (decide (n1 < (↑sl1 : Int)))
    (idx (sa1) (sl1) (n1) (1) fun a1 =>
    ∃ n2 : Int,
    (w1.cell? a1 = some (Value.int IntKind.u8 n2)) ∧
    idx (sa1) (sl1) (n1) (1) fun a2 =>
    (∃ v1 : Value,
      w1.cell? a2 = some v1) ∧
    (w1.frozen? a2 = false) ∧
    (I1 [Value.int IntKind.i64 (IntKind.i64.wrap (n1 + 1))] (setCells w1 a2 [Value.int IntKind.u8 (IntKind.u8.wrap (n2 + 1))] 0)) ∧
    m1 [Value.int IntKind.i64 (IntKind.i64.wrap (n1 + 1))] (setCells w1 a2 [Value.int IntKind.u8 (IntKind.u8.wrap (n2 + 1))] 0) < m1 [Value.int IntKind.i64 n1] w1)
    (∃ I2 : List Value → World → Prop,
    ∃ m2 : List Value → World → Nat,
    (I2 [Value.slice sa1 sl1 sc1, Value.int IntKind.i64 0] w1) ∧
    ∀ p1 : Option Addr,
    ∀ k1 : Nat,
    ∀ k2 : Nat,
    ∀ n3 : Int,
    ∀ w2 : World,
    (I2 [Value.slice p1 k1 k2, Value.int IntKind.i64 n3] w2) →
    brB (decide (n3 < 20))
      (∀ k3 : Nat,
      (w2.heap.size ≤ k3) →
      ∀ w3 : World,
      (Locl ([k3]) w2 w3) →
      appVC (w3) ([(23, k3, [Value.int IntKind.u8 5])]) (p1) (k1) (k2) (1) (1) (1) (5) ([Value.int IntKind.u8 0]) ([Value.int IntKind.u8 5]) fun p2 k4 k5 w4 =>
      (I2 [Value.slice p2 k4 k5, Value.int IntKind.i64 (IntKind.i64.wrap (n3 + 1))] w4) ∧
      m2 [Value.slice p2 k4 k5, Value.int IntKind.i64 (IntKind.i64.wrap (n3 + 1))] w4 < m2 [Value.slice p1 k1 k2, Value.int IntKind.i64 n3] w2)
      (R (Ending.returned (Value.tuple #[])) w2))
theorem calls_law01_spoil (sa1 : Option Addr) (sl1 sc1 : Nat) (w : World) (R : Ending → World → Prop) (h : vc_law01_spoil sa1 sl1 sc1 w R) : Calls P F.law01_spoil #[.slice sa1 sl1 sc1] w R :=
  calls_of_vc (fn := Try.f38) (ac := ac_law01_spoil) (args := [.slice sa1 sl1 sc1]) mixed Try.func38 (by kernel_rfl) (cast (by kernel_rfl) h)
/-- darkroom/bits.order -/
def vc_bits_order (b1 : Bool) (w : World) (R : Ending → World → Prop) : Prop :=
  brB (b1)
    (R (Ending.returned (Value.func (Fn.func 46) #[] #[])) w)
    (R (Ending.returned (Value.func (Fn.func 47) #[] #[])) w)
theorem calls_bits_order (b1 : Bool) (w : World) (R : Ending → World → Prop) (h : vc_bits_order b1 w R) : Calls P F.bits_order #[.bool b1] w R :=
  calls_of_vc (fn := Try.f39) (ac := ac_bits_order) (args := [.bool b1]) mixed Try.func39 (by kernel_rfl) (cast (by kernel_rfl) h)
/-- darkroom/darkroomref01.put1 -/
def vc_ref01_put1 (b1 : Bool) (sa1 : Option Addr) (sl1 sc1 : Nat) (x1 : Int) (x2 : Int) (w : World) (R : Ending → World → Prop) : Prop :=
  ∀ k1 : Nat,
  (w.heap.size ≤ k1) →
  ∀ k2 : Nat,
  (w.heap.size ≤ k2) →
  ∃ I1 : List Value → World → Prop,
  (brB (divZ BinOp.rem IntKind.i64 x1 8 == 0)
      (∀ k3 : Nat,
      (w.heap.size ≤ k3) →
      ∀ w1 : World,
      (Locl ([k3, k2, k1]) w w1) →
      appVC (w1) ([(12, k3, [Value.int IntKind.u8 0]), (4, k2, [Value.bool false, Value.slice none 0 0, Value.int IntKind.i64 0]), (2, k1, [Value.bool b1, Value.slice sa1 sl1 sc1, Value.int IntKind.i64 x1])]) (sa1) (sl1) (sc1) (1) (1) (1) (5) ([Value.int IntKind.u8 0]) ([Value.int IntKind.u8 0]) fun p1 k4 k5 w2 =>
      ∀ w3 : World,
      (Locl ([k3, k2, k1]) w2 w3) →
      I1 [Value.bool b1, Value.slice p1 k4 k5, Value.int IntKind.i64 x1] w3)
      (∀ w4 : World,
      (Locl ([k2, k1]) w w4) →
      I1 [Value.bool b1, Value.slice sa1 sl1 sc1, Value.int IntKind.i64 x1] w4)) ∧
  ∀ c1 : Bool,
  ∀ p2 : Option Addr,
  ∀ k6 : Nat,
  ∀ k7 : Nat,
  ∀ n1 : Int,
  ∀ w5 : World,
  (I1 [Value.bool c1, Value.slice p2 k6 k7, Value.int IntKind.i64 n1] w5) →
  ∃ I2 : List Value → World → Prop,
  (brB (c1)
      (I2 [Value.int IntKind.u64 (IntKind.u64.wrap (7 - IntKind.u64.wrap (divZ BinOp.rem IntKind.i64 n1 8)))] w5)
      (I2 [Value.int IntKind.u64 (IntKind.u64.wrap (divZ BinOp.rem IntKind.i64 n1 8))] w5)) ∧
  ∀ n2 : Int,
  ∀ w6 : World,
  (I2 [Value.int IntKind.u64 n2] w6) →
  idx (p2) (k6) (divZ BinOp.quo IntKind.i64 n1 8) (1) fun a1 =>
  ∃ n3 : Int,
  (w6.cell? a1 = some (Value.int IntKind.u8 n3)) ∧
  (0 ≤ n2) ∧
  idx (p2) (k6) (divZ BinOp.quo IntKind.i64 n1 8) (1) fun a2 =>
  (∃ v1 : Value,
    w6.cell? a2 = some v1) ∧
  (w6.frozen? a2 = false) ∧
  (¬a2.block ∈ [k2, k1]) ∧
  ∀ w7 : World,
  (Locl ([k2, k1]) (setCells w6 a2 [Value.int IntKind.u8 (IntKind.u8.wrap (n3 + IntKind.u8.wrap (shiftZ BinOp.shl IntKind.u32 x2 n2)))] 0) w7) →
  R (Ending.returned (Value.agg #[Value.bool c1, Value.slice p2 k6 k7, Value.int IntKind.i64 (IntKind.i64.wrap (n1 + 1))])) w7
theorem calls_ref01_put1 (b1 : Bool) (sa1 : Option Addr) (sl1 sc1 : Nat) (x1 : Int) (x2 : Int) (w : World) (R : Ending → World → Prop) (h : vc_ref01_put1 b1 sa1 sl1 sc1 x1 x2 w R) : Calls P F.ref01_put1 #[.agg #[.bool b1, .slice sa1 sl1 sc1, .int .i64 x1], .int .u32 x2] w R :=
  calls_of_vc (fn := Try.f40) (ac := ac_ref01_put1) (args := [.agg #[.bool b1, .slice sa1 sl1 sc1, .int .i64 x1], .int .u32 x2]) mixed Try.func40 (by kernel_rfl) (cast (by kernel_rfl) h)
/-- (*darkroom/bits.Writer).one -/
def vc_bits_Writer_one (q1 : Option Addr) (x1 : Int) (w : World) (R : Ending → World → Prop) : Prop :=
  ∃ I1 : List Value → World → Prop,
  (nn (q1) fun a1 =>
    ∃ n1 : Int,
    (w.cell? (a1.add 1) = some (Value.int IntKind.i64 n1)) ∧
    brB (divZ BinOp.rem IntKind.i64 n1 8 == 0)
      (nn (q1) fun a2 =>
      ∃ p1 : Option Addr,
      ∃ k1 : Nat,
      ∃ k2 : Nat,
      (w.cell? a2 = some (Value.slice p1 k1 k2)) ∧
      ∀ k3 : Nat,
      (w.heap.size ≤ k3) →
      ∀ w1 : World,
      (Locl ([k3]) w w1) →
      appVC (w1) ([(15, k3, [Value.int IntKind.u8 0])]) (p1) (k1) (k2) (1) (1) (1) (5) ([Value.int IntKind.u8 0]) ([Value.int IntKind.u8 0]) fun p2 k4 k5 w2 =>
      nn (q1) fun a3 =>
      (∃ v1 : Value,
        w2.cell? a3 = some v1) ∧
      (w2.frozen? a3 = false) ∧
      (¬a3.block ∈ [k3]) ∧
      I1 [] (setCells w2 a3 [Value.slice p2 k4 k5] 0))
      (I1 [] w)) ∧
  ∀ w3 : World,
  (I1 [] w3) →
  nn (q1) fun a4 =>
  ∃ p3 : Option Addr,
  ∃ k6 : Nat,
  ∃ k7 : Nat,
  (w3.drew.cell? a4 = some (Value.slice p3 k6 k7)) ∧
  nn (q1) fun a5 =>
  ∃ n2 : Int,
  (w3.drew.cell? (a5.add 1) = some (Value.int IntKind.i64 n2)) ∧
  idx (p3) (k6) (divZ BinOp.quo IntKind.i64 n2 8) (1) fun a6 =>
  ∃ n3 : Int,
  (w3.drew.cell? a6 = some (Value.int IntKind.u8 n3)) ∧
  nn (q1) fun a7 =>
  ∃ y1 : FuncId,
  ∃ y2 : Array Value,
  ∃ y3 : Array Value,
  (w3.drew.cell? (a7.add 3) = some (Value.func (Fn.func y1) y2 y3)) ∧
  nn (q1) fun a8 =>
  ∃ n4 : Int,
  (w3.drew.cell? (a8.add 1) = some (Value.int IntKind.i64 n4)) ∧
  callV P (Value.func (Fn.func y1) y2 y3) [Value.int IntKind.i64 n4] (w3.drew) fun e1 w4 =>
  ∃ n5 : Int,
  (e1 = Ending.returned (Value.int IntKind.u64 n5)) ∧
  (Keeps (w3.drew) w4) ∧
  (0 ≤ n5) ∧
  idx (p3) (k6) (divZ BinOp.quo IntKind.i64 n2 8) (1) fun a9 =>
  (∃ v2 : Value,
    w4.cell? a9 = some v2) ∧
  (w4.frozen? a9 = false) ∧
  nn (q1) fun a10 =>
  ∃ n6 : Int,
  ((setCells w4 a9 [Value.int IntKind.u8 (IntKind.u8.wrap (bitsZ BinOp.or IntKind.u8 n3 (shiftZ BinOp.shl IntKind.u8 x1 n5)))] 0).cell? (a10.add 1) = some (Value.int IntKind.i64 n6)) ∧
  nn (q1) fun a11 =>
  (∃ v3 : Value,
    (setCells w4 a9 [Value.int IntKind.u8 (IntKind.u8.wrap (bitsZ BinOp.or IntKind.u8 n3 (shiftZ BinOp.shl IntKind.u8 x1 n5)))] 0).cell? (a11.add 1) = some v3) ∧
  ((setCells w4 a9 [Value.int IntKind.u8 (IntKind.u8.wrap (bitsZ BinOp.or IntKind.u8 n3 (shiftZ BinOp.shl IntKind.u8 x1 n5)))] 0).frozen? (a11.add 1) = false) ∧
  R (Ending.returned (Value.tuple #[])) (setCells (setCells w4 a9 [Value.int IntKind.u8 (IntKind.u8.wrap (bitsZ BinOp.or IntKind.u8 n3 (shiftZ BinOp.shl IntKind.u8 x1 n5)))] 0) (a11.add 1) [Value.int IntKind.i64 (IntKind.i64.wrap (n6 + 1))] 0)
theorem calls_bits_Writer_one (q1 : Option Addr) (x1 : Int) (w : World) (R : Ending → World → Prop) (h : vc_bits_Writer_one q1 x1 w R) : Calls P F.bits_Writer_one #[.pointer q1, .int .u8 x1] w R :=
  calls_of_vc (fn := Try.f41) (ac := ac_bits_Writer_one) (args := [.pointer q1, .int .u8 x1]) mixed Try.func41 (by kernel_rfl) (cast (by kernel_rfl) h)
/-- slices.Clone[[]byte,byte] -/
def vc_slices_Clone_byte (sa1 : Option Addr) (sl1 sc1 : Nat) (w : World) (R : Ending → World → Prop) : Prop :=
  brB (sa1.isNone)
    (R (Ending.returned (Value.slice none 0 0)) w)
    (∀ k1 : Nat,
    ∀ w1 : World,
    (New w (Obj.cells #[] 5) k1 w1) →
    ∃ l1 : List Value,
    (l1.length = sl1 * 1) ∧
    (oneAll l1 = true) ∧
    (CellsAre w1 sa1 l1) ∧
    appVC (w1) ([]) (some { block := k1, off := 0 }) (0) (0) (sl1) (1) (1) (5) ([Value.int IntKind.u8 0]) (l1) fun p1 k2 k3 w2 =>
    R (Ending.returned (Value.slice p1 k2 k3)) w2)
theorem calls_slices_Clone_byte (sa1 : Option Addr) (sl1 sc1 : Nat) (w : World) (R : Ending → World → Prop) (h : vc_slices_Clone_byte sa1 sl1 sc1 w R) : Calls P F.slices_Clone_byte #[.slice sa1 sl1 sc1] w R :=
  calls_of_vc (fn := Try.f42) (ac := ac_slices_Clone_byte) (args := [.slice sa1 sl1 sc1]) mixed Try.func42 (by kernel_rfl) (cast (by kernel_rfl) h)
/-- darkroom/bits.there -/
def vc_bits_there (sa1 : Option Addr) (sl1 sc1 : Nat) (x1 : Int) (x2 : Int) (w : World) (R : Ending → World → Prop) : Prop :=
  brB (decide (x2 < 1) || decide (x2 > 4))
    (R (Ending.returned (Value.int IntKind.i64 2)) w)
    (brB (decide (x1 < 0) || decide (x1 > IntKind.i64.wrap ((↑sl1 : Int) - x2)))
      (R (Ending.returned (Value.int IntKind.i64 5)) w)
      (R (Ending.returned (Value.int IntKind.i64 0)) w))
theorem calls_bits_there (sa1 : Option Addr) (sl1 sc1 : Nat) (x1 : Int) (x2 : Int) (w : World) (R : Ending → World → Prop) (h : vc_bits_there sa1 sl1 sc1 x1 x2 w R) : Calls P F.bits_there #[.slice sa1 sl1 sc1, .int .i64 x1, .int .i64 x2] w R :=
  calls_of_vc (fn := Try.f43) (ac := ac_bits_there) (args := [.slice sa1 sl1 sc1, .int .i64 x1, .int .i64 x2]) mixed Try.func43 (by kernel_rfl) (cast (by kernel_rfl) h)
/-- darkroom/darkroomref01.bit -/
def vc_ref01_bit (sa1 : Option Addr) (sl1 sc1 : Nat) (b1 : Bool) (x1 : Int) (w : World) (R : Ending → World → Prop) : Prop :=
  brB (b1)
    (idx (sa1) (sl1) (divZ BinOp.quo IntKind.i64 x1 8) (1) fun a1 =>
    ∃ n1 : Int,
    (w.cell? a1 = some (Value.int IntKind.u8 n1)) ∧
    (0 ≤ IntKind.u64.wrap (IntKind.i64.wrap (7 - divZ BinOp.rem IntKind.i64 x1 8))) ∧
    R (Ending.returned (Value.int IntKind.u32 (divZ BinOp.rem IntKind.u32 (shiftZ BinOp.shr IntKind.u32 (IntKind.u32.wrap n1) (IntKind.u64.wrap (IntKind.i64.wrap (7 - divZ BinOp.rem IntKind.i64 x1 8)))) 2))) w)
    (idx (sa1) (sl1) (divZ BinOp.quo IntKind.i64 x1 8) (1) fun a2 =>
    ∃ n2 : Int,
    (w.cell? a2 = some (Value.int IntKind.u8 n2)) ∧
    (0 ≤ IntKind.u64.wrap (divZ BinOp.rem IntKind.i64 x1 8)) ∧
    R (Ending.returned (Value.int IntKind.u32 (divZ BinOp.rem IntKind.u32 (shiftZ BinOp.shr IntKind.u32 (IntKind.u32.wrap n2) (IntKind.u64.wrap (divZ BinOp.rem IntKind.i64 x1 8))) 2))) w)
theorem calls_ref01_bit (sa1 : Option Addr) (sl1 sc1 : Nat) (b1 : Bool) (x1 : Int) (w : World) (R : Ending → World → Prop) (h : vc_ref01_bit sa1 sl1 sc1 b1 x1 w R) : Calls P F.ref01_bit #[.slice sa1 sl1 sc1, .bool b1, .int .i64 x1] w R :=
  calls_of_vc (fn := Try.f44) (ac := ac_ref01_bit) (args := [.slice sa1 sl1 sc1, .bool b1, .int .i64 x1]) mixed Try.func44 (by kernel_rfl) (cast (by kernel_rfl) h)
/-- (*darkroom/bits.Reader).border -/
def vc_bits_Reader_border (q1 : Option Addr) (w : World) (R : Ending → World → Prop) : Prop :=
  nn (q1) fun a1 =>
  ∃ n1 : Int,
  (w.cell? (a1.add 1) = some (Value.int IntKind.i64 n1)) ∧
  R (Ending.returned (Value.int IntKind.i64 (divZ BinOp.quo IntKind.i64 (IntKind.i64.wrap (n1 + 7)) 8))) w
theorem calls_bits_Reader_border (q1 : Option Addr) (w : World) (R : Ending → World → Prop) (h : vc_bits_Reader_border q1 w R) : Calls P F.bits_Reader_border #[.pointer q1] w R :=
  calls_of_vc (fn := Try.f45) (ac := ac_bits_Reader_border) (args := [.pointer q1]) mixed Try.func45 (by kernel_rfl) (cast (by kernel_rfl) h)
/-- darkroom/bits.high -/
def vc_bits_high (x1 : Int) (w : World) (R : Ending → World → Prop) : Prop :=
  R (Ending.returned (Value.int IntKind.u64 (IntKind.u64.wrap (7 - divZ BinOp.rem IntKind.u64 (IntKind.u64.wrap x1) 8)))) w
theorem calls_bits_high (x1 : Int) (w : World) (R : Ending → World → Prop) (h : vc_bits_high x1 w R) : Calls P F.bits_high #[.int .i64 x1] w R :=
  calls_of_vc (fn := Try.f46) (ac := ac_bits_high) (args := [.int .i64 x1]) mixed Try.func46 (by kernel_rfl) (cast (by kernel_rfl) h)
/-- darkroom/bits.low -/
def vc_bits_low (x1 : Int) (w : World) (R : Ending → World → Prop) : Prop :=
  R (Ending.returned (Value.int IntKind.u64 (divZ BinOp.rem IntKind.u64 (IntKind.u64.wrap x1) 8))) w
theorem calls_bits_low (x1 : Int) (w : World) (R : Ending → World → Prop) (h : vc_bits_low x1 w R) : Calls P F.bits_low #[.int .i64 x1] w R :=
  calls_of_vc (fn := Try.f47) (ac := ac_bits_low) (args := [.int .i64 x1]) mixed Try.func47 (by kernel_rfl) (cast (by kernel_rfl) h)
end Go.Proofs.Ytlmnooodinfifaa
