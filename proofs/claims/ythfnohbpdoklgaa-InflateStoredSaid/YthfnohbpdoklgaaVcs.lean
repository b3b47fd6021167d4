/- For each function the condition that its code asks, written out (by a program of ours), and the theorem that it suffices: the kernel holds both against the code. -/
import Derived.Test.YthfnohbpdoklgaaFns
namespace Go.Proofs.Ythfnohbpdoklgaa
open Go Go.Vc
set_option maxRecDepth 100000
set_option linter.unusedVariables false
/-- darkroom/darkroomlaw04.InflateReads -/
def vc_law04_InflateReads (sa1 : Option Addr) (sl1 sc1 : Nat) (x1 : Int) (w : World) (R : Ending → World → Prop) : Prop :=
  Calls P F.law04_wakes #[] w fun e1 w1 =>
  ∃ c1 : Bool,
  (e1 = Ending.returned (Value.bool c1)) ∧
  brB (!c1)
    (R (Ending.returned (Value.bool false)) w1)
    (Calls P F.law04_own #[Value.slice sa1 sl1 sc1] w1 fun e2 w2 =>
    ∃ p1 : Option Addr,
    ∃ k1 : Nat,
    ∃ k2 : Nat,
    (e2 = Ending.returned (Value.slice p1 k1 k2)) ∧
    Calls P F.inflate_Raw #[Value.slice p1 k1 k2, Value.int IntKind.i64 x1] w2 fun e3 w3 =>
    ∃ p2 : Option Addr,
    ∃ k3 : Nat,
    ∃ k4 : Nat,
    ∃ n1 : Int,
    ∃ n2 : Int,
    (e3 = Ending.returned (Value.tuple #[Value.slice p2 k3 k4, Value.int IntKind.i64 n1, Value.int IntKind.i64 n2])) ∧
    Calls P F.ref04_Raw #[Value.slice sa1 sl1 sc1, Value.int IntKind.i64 x1] w3 fun e4 w4 =>
    ∃ p3 : Option Addr,
    ∃ k5 : Nat,
    ∃ k6 : Nat,
    ∃ n3 : Int,
    ∃ n4 : Int,
    (e4 = Ending.returned (Value.tuple #[Value.slice p3 k5 k6, Value.int IntKind.i64 n3, Value.int IntKind.i64 n4])) ∧
    Calls P F.ref01_Same #[Value.slice p2 k3 k4, Value.slice p3 k5 k6] w4 fun e5 w5 =>
    ∃ c2 : Bool,
    (e5 = Ending.returned (Value.bool c2)) ∧
    R (Ending.returned (Value.bool (c2 && n1 == n3 && n2 == n4))) w5)
theorem calls_law04_InflateReads (sa1 : Option Addr) (sl1 sc1 : Nat) (x1 : Int) (w : World) (R : Ending → World → Prop) (h : vc_law04_InflateReads sa1 sl1 sc1 x1 w R) : Calls P F.law04_InflateReads #[.slice sa1 sl1 sc1, .int .i64 x1] w R :=
  calls_of_vc (fn := Try.f3) (ac := ac_law04_InflateReads) (args := [.slice sa1 sl1 sc1, .int .i64 x1]) mixed Try.func3 (by kernel_rfl) (cast (by unfold vc_law04_InflateReads FnVc; kernel_rfl) h)
/-- darkroom/darkroomlaw04.InflateZlib -/
def vc_law04_InflateZlib (sa1 : Option Addr) (sl1 sc1 : Nat) (x1 : Int) (w : World) (R : Ending → World → Prop) : Prop :=
  Calls P F.law04_wakes #[] w fun e1 w1 =>
  ∃ c1 : Bool,
  (e1 = Ending.returned (Value.bool c1)) ∧
  brB (!c1)
    (R (Ending.returned (Value.bool false)) w1)
    (Calls P F.law04_own #[Value.slice sa1 sl1 sc1] w1 fun e2 w2 =>
    ∃ p1 : Option Addr,
    ∃ k1 : Nat,
    ∃ k2 : Nat,
    (e2 = Ending.returned (Value.slice p1 k1 k2)) ∧
    Calls P F.inflate_Zlib #[Value.slice p1 k1 k2, Value.int IntKind.i64 x1] w2 fun e3 w3 =>
    ∃ p2 : Option Addr,
    ∃ k3 : Nat,
    ∃ k4 : Nat,
    ∃ n1 : Int,
    (e3 = Ending.returned (Value.tuple #[Value.slice p2 k3 k4, Value.int IntKind.i64 n1])) ∧
    Calls P F.ref04_Zlib #[Value.slice sa1 sl1 sc1, Value.int IntKind.i64 x1] w3 fun e4 w4 =>
    ∃ p3 : Option Addr,
    ∃ k5 : Nat,
    ∃ k6 : Nat,
    ∃ n2 : Int,
    (e4 = Ending.returned (Value.tuple #[Value.slice p3 k5 k6, Value.int IntKind.i64 n2])) ∧
    Calls P F.ref01_Same #[Value.slice p2 k3 k4, Value.slice p3 k5 k6] w4 fun e5 w5 =>
    ∃ c2 : Bool,
    (e5 = Ending.returned (Value.bool c2)) ∧
    R (Ending.returned (Value.bool (c2 && n1 == n2))) w5)
theorem calls_law04_InflateZlib (sa1 : Option Addr) (sl1 sc1 : Nat) (x1 : Int) (w : World) (R : Ending → World → Prop) (h : vc_law04_InflateZlib sa1 sl1 sc1 x1 w R) : Calls P F.law04_InflateZlib #[.slice sa1 sl1 sc1, .int .i64 x1] w R :=
  calls_of_vc (fn := Try.f4) (ac := ac_law04_InflateZlib) (args := [.slice sa1 sl1 sc1, .int .i64 x1]) mixed Try.func4 (by kernel_rfl) (cast (by unfold vc_law04_InflateZlib FnVc; kernel_rfl) h)
/-- darkroom/darkroomlaw04.InflateStored -/
def vc_law04_InflateStored (sa1 : Option Addr) (sl1 sc1 : Nat) (sa2 : Option Addr) (sl2 sc2 : Nat) (w : World) (R : Ending → World → Prop) : Prop :=
  Calls P F.law04_wakes #[] w fun e1 w1 =>
  ∃ c1 : Bool,
  (e1 = Ending.returned (Value.bool c1)) ∧
  brB (!c1)
    (R (Ending.returned (Value.bool false)) w1)
    (brB (decide ((↑sl1 : Int) > 60000) || decide ((↑sl2 : Int) > 200))
      (R (Ending.returned (Value.bool true)) w1)
      (∃ I1 : List Value → World → Prop,
      ∃ m1 : List Value → World → Nat,
      (I1 [Value.slice none 0 0, Value.int IntKind.i64 0, Value.int IntKind.i64 0] w1) ∧
      ∀ p1 : Option Addr,
      ∀ k1 : Nat,
      ∀ k2 : Nat,
      ∀ n1 : Int,
      ∀ n2 : Int,
      ∀ w2 : World,
      (I1 [Value.slice p1 k1 k2, Value.int IntKind.i64 n1, Value.int IntKind.i64 n2] w2) →
      brB (decide (n2 ≤ (↑sl2 : Int)))
        (∃ I2 : List Value → World → Prop,
        (brB (decide (n2 < (↑sl2 : Int)))
            (idx (sa2) (sl2) (n2) (1) fun a1 =>
            ∃ n3 : Int,
            (w2.cell? a1 = some (Value.int IntKind.i64 n3)) ∧
            I2 [Value.int IntKind.i64 (min (max n3 0) (IntKind.i64.wrap ((↑sl1 : Int) - n1))), Value.int IntKind.u8 0] w2)
            (I2 [Value.int IntKind.i64 (IntKind.i64.wrap ((↑sl1 : Int) - n1)), Value.int IntKind.u8 1] w2)) ∧
        ∀ n4 : Int,
        ∀ n5 : Int,
        ∀ w3 : World,
        (I2 [Value.int IntKind.i64 n4, Value.int IntKind.u8 n5] w3) →
        ∀ k3 : Nat,
        (w3.heap.size ≤ k3) →
        ∀ w4 : World,
        (Locl ([k3]) w3 w4) →
        appVC (w4) ([(62, k3, [Value.int IntKind.u8 n5, Value.int IntKind.u8 (IntKind.u8.wrap n4), Value.int IntKind.u8 (IntKind.u8.wrap (divZ BinOp.quo IntKind.i64 n4 256)), Value.int IntKind.u8 (IntKind.u8.wrap (IntKind.i64.wrap (255 - divZ BinOp.rem IntKind.i64 n4 256))), Value.int IntKind.u8 (IntKind.u8.wrap (IntKind.i64.wrap (255 - divZ BinOp.quo IntKind.i64 n4 256)))])]) (p1) (k1) (k2) (5) (1) (1) (5) ([Value.int IntKind.u8 0]) ([Value.int IntKind.u8 n5, Value.int IntKind.u8 (IntKind.u8.wrap n4), Value.int IntKind.u8 (IntKind.u8.wrap (divZ BinOp.quo IntKind.i64 n4 256)), Value.int IntKind.u8 (IntKind.u8.wrap (IntKind.i64.wrap (255 - divZ BinOp.rem IntKind.i64 n4 256))), Value.int IntKind.u8 (IntKind.u8.wrap (IntKind.i64.wrap (255 - divZ BinOp.quo IntKind.i64 n4 256)))]) fun p2 k4 k5 w5 =>
        slcc (sa1) (sc1) (n1) (IntKind.i64.wrap (n1 + n4)) (1) fun p3 k6 k7 =>
        ∃ l1 : List Value,
        (l1.length = k6 * 1) ∧
        (oneAll l1 = true) ∧
        (CellsAre w5 p3 l1) ∧
        appVC (w5) ([(62, k3, [Value.int IntKind.u8 n5, Value.int IntKind.u8 (IntKind.u8.wrap n4), Value.int IntKind.u8 (IntKind.u8.wrap (divZ BinOp.quo IntKind.i64 n4 256)), Value.int IntKind.u8 (IntKind.u8.wrap (IntKind.i64.wrap (255 - divZ BinOp.rem IntKind.i64 n4 256))), Value.int IntKind.u8 (IntKind.u8.wrap (IntKind.i64.wrap (255 - divZ BinOp.quo IntKind.i64 n4 256)))])]) (p2) (k4) (k5) (k6) (1) (1) (5) ([Value.int IntKind.u8 0]) (l1) fun p4 k8 k9 w6 =>
        (I1 [Value.slice p4 k8 k9, Value.int IntKind.i64 (IntKind.i64.wrap (n1 + n4)), Value.int IntKind.i64 (IntKind.i64.wrap (n2 + 1))] w6) ∧
        m1 [Value.slice p4 k8 k9, Value.int IntKind.i64 (IntKind.i64.wrap (n1 + n4)), Value.int IntKind.i64 (IntKind.i64.wrap (n2 + 1))] w6 < m1 [Value.slice p1 k1 k2, Value.int IntKind.i64 n1, Value.int IntKind.i64 n2] w2)
        (Calls P F.law04_own #[Value.slice p1 k1 k2] w2 fun e2 w7 =>
        ∃ p5 : Option Addr,
        ∃ k10 : Nat,
        ∃ k11 : Nat,
        (e2 = Ending.returned (Value.slice p5 k10 k11)) ∧
        Calls P F.inflate_Raw #[Value.slice p5 k10 k11, Value.int IntKind.i64 (↑sl1 : Int)] w7 fun e3 w8 =>
        ∃ p6 : Option Addr,
        ∃ k12 : Nat,
        ∃ k13 : Nat,
        ∃ n6 : Int,
        ∃ n7 : Int,
        (e3 = Ending.returned (Value.tuple #[Value.slice p6 k12 k13, Value.int IntKind.i64 n6, Value.int IntKind.i64 n7])) ∧
        Calls P F.law04_own #[Value.slice p1 k1 k2] w8 fun e4 w9 =>
        ∃ p7 : Option Addr,
        ∃ k14 : Nat,
        ∃ k15 : Nat,
        (e4 = Ending.returned (Value.slice p7 k14 k15)) ∧
        Calls P F.inflate_Raw #[Value.slice p7 k14 k15, Value.int IntKind.i64 (IntKind.i64.wrap ((↑sl1 : Int) - 1))] w9 fun e5 w10 =>
        ∃ p8 : Option Addr,
        ∃ k16 : Nat,
        ∃ k17 : Nat,
        ∃ n8 : Int,
        ∃ n9 : Int,
        (e5 = Ending.returned (Value.tuple #[Value.slice p8 k16 k17, Value.int IntKind.i64 n8, Value.int IntKind.i64 n9])) ∧
        brB (n7 == 0 && n6 == (↑k1 : Int))
          (Calls P F.ref01_Same #[Value.slice p6 k12 k13, Value.slice sa1 sl1 sc1] w10 fun e6 w11 =>
          ∃ c2 : Bool,
          (e6 = Ending.returned (Value.bool c2)) ∧
          brB (c2)
            (brB (n9 == 3)
              (R (Ending.returned (Value.bool true)) w11)
              (R (Ending.returned (Value.bool ((↑sl1 : Int) == 0))) w11))
            (R (Ending.returned (Value.bool false)) w11))
          (R (Ending.returned (Value.bool false)) w10))))
theorem calls_law04_InflateStored (sa1 : Option Addr) (sl1 sc1 : Nat) (sa2 : Option Addr) (sl2 sc2 : Nat) (w : World) (R : Ending → World → Prop) (h : vc_law04_InflateStored sa1 sl1 sc1 sa2 sl2 sc2 w R) : Calls P F.law04_InflateStored #[.slice sa1 sl1 sc1, .slice sa2 sl2 sc2] w R :=
  calls_of_vc (fn := Try.f5) (ac := ac_law04_InflateStored) (args := [.slice sa1 sl1 sc1, .slice sa2 sl2 sc2]) mixed Try.func5 (by kernel_rfl) (cast (by unfold vc_law04_InflateStored FnVc; kernel_rfl) h)
/-- darkroom/darkroomlaw04.InflateCut -/
def vc_law04_InflateCut (sa1 : Option Addr) (sl1 sc1 : Nat) (x1 : Int) (sa2 : Option Addr) (sl2 sc2 : Nat) (w : World) (R : Ending → World → Prop) : Prop :=
  Calls P F.law04_wakes #[] w fun e1 w1 =>
  ∃ c1 : Bool,
  (e1 = Ending.returned (Value.bool c1)) ∧
  brB (!c1)
    (R (Ending.returned (Value.bool false)) w1)
    (Calls P F.law04_own #[Value.slice sa1 sl1 sc1] w1 fun e2 w2 =>
    ∃ p1 : Option Addr,
    ∃ k1 : Nat,
    ∃ k2 : Nat,
    (e2 = Ending.returned (Value.slice p1 k1 k2)) ∧
    Calls P F.inflate_Raw #[Value.slice p1 k1 k2, Value.int IntKind.i64 100000] w2 fun e3 w3 =>
    ∃ p2 : Option Addr,
    ∃ k3 : Nat,
    ∃ k4 : Nat,
    ∃ n1 : Int,
    ∃ n2 : Int,
    (e3 = Ending.returned (Value.tuple #[Value.slice p2 k3 k4, Value.int IntKind.i64 n1, Value.int IntKind.i64 n2])) ∧
    brB (n2 != 0)
      (R (Ending.returned (Value.bool ((↑k3 : Int) == 0 && n1 == 0))) w3)
      (brB (decide (n1 < 1) || decide (n1 > (↑sl1 : Int)))
        (R (Ending.returned (Value.bool false)) w3)
        ((IntKind.u64.wrap n1 ≠ 0) ∧
        slcc (sa1) (sc1) (0) (IntKind.i64.wrap (divZ BinOp.rem IntKind.u64 (IntKind.u64.wrap x1) (IntKind.u64.wrap n1))) (1) fun p3 k5 k6 =>
        Calls P F.law04_own #[Value.slice p3 k5 k6] w3 fun e4 w4 =>
        ∃ p4 : Option Addr,
        ∃ k7 : Nat,
        ∃ k8 : Nat,
        (e4 = Ending.returned (Value.slice p4 k7 k8)) ∧
        Calls P F.inflate_Raw #[Value.slice p4 k7 k8, Value.int IntKind.i64 100000] w4 fun e5 w5 =>
        ∃ p5 : Option Addr,
        ∃ k9 : Nat,
        ∃ k10 : Nat,
        ∃ n3 : Int,
        ∃ n4 : Int,
        (e5 = Ending.returned (Value.tuple #[Value.slice p5 k9 k10, Value.int IntKind.i64 n3, Value.int IntKind.i64 n4])) ∧
        slcc (sa1) (sc1) (0) (n1) (1) fun p6 k11 k12 =>
        Calls P F.law04_own #[Value.slice p6 k11 k12] w5 fun e6 w6 =>
        ∃ p7 : Option Addr,
        ∃ k13 : Nat,
        ∃ k14 : Nat,
        (e6 = Ending.returned (Value.slice p7 k13 k14)) ∧
        ∃ l1 : List Value,
        (l1.length = sl2 * 1) ∧
        (oneAll l1 = true) ∧
        (CellsAre w6 sa2 l1) ∧
        appVC (w6) ([]) (p7) (k13) (k14) (sl2) (1) (1) (5) ([Value.int IntKind.u8 0]) (l1) fun p8 k15 k16 w7 =>
        Calls P F.inflate_Raw #[Value.slice p8 k15 k16, Value.int IntKind.i64 100000] w7 fun e7 w8 =>
        ∃ p9 : Option Addr,
        ∃ k17 : Nat,
        ∃ k18 : Nat,
        ∃ n5 : Int,
        ∃ n6 : Int,
        (e7 = Ending.returned (Value.tuple #[Value.slice p9 k17 k18, Value.int IntKind.i64 n5, Value.int IntKind.i64 n6])) ∧
        brB (n4 == 5 && n6 == 0 && n5 == n1)
          (Calls P F.ref01_Same #[Value.slice p2 k3 k4, Value.slice p9 k17 k18] w8 fun e8 w9 =>
          ∃ c2 : Bool,
          (e8 = Ending.returned (Value.bool c2)) ∧
          R (Ending.returned (Value.bool c2)) w9)
          (R (Ending.returned (Value.bool false)) w8))))
theorem calls_law04_InflateCut (sa1 : Option Addr) (sl1 sc1 : Nat) (x1 : Int) (sa2 : Option Addr) (sl2 sc2 : Nat) (w : World) (R : Ending → World → Prop) (h : vc_law04_InflateCut sa1 sl1 sc1 x1 sa2 sl2 sc2 w R) : Calls P F.law04_InflateCut #[.slice sa1 sl1 sc1, .int .i64 x1, .slice sa2 sl2 sc2] w R :=
  calls_of_vc (fn := Try.f6) (ac := ac_law04_InflateCut) (args := [.slice sa1 sl1 sc1, .int .i64 x1, .slice sa2 sl2 sc2]) mixed Try.func6 (by kernel_rfl) (cast (by unfold vc_law04_InflateCut FnVc; kernel_rfl) h)
/-- darkroom/darkroomlaw04.InflateWraps -/
def vc_law04_InflateWraps (sa1 : Option Addr) (sl1 sc1 : Nat) (x1 : Int) (w : World) (R : Ending → World → Prop) : Prop :=
  Calls P F.law04_wakes #[] w fun e1 w1 =>
  ∃ c1 : Bool,
  (e1 = Ending.returned (Value.bool c1)) ∧
  brB (!c1)
    (R (Ending.returned (Value.bool false)) w1)
    (Calls P F.law04_own #[Value.slice sa1 sl1 sc1] w1 fun e2 w2 =>
    ∃ p1 : Option Addr,
    ∃ k1 : Nat,
    ∃ k2 : Nat,
    (e2 = Ending.returned (Value.slice p1 k1 k2)) ∧
    Calls P F.inflate_Raw #[Value.slice p1 k1 k2, Value.int IntKind.i64 100000] w2 fun e3 w3 =>
    ∃ p2 : Option Addr,
    ∃ k3 : Nat,
    ∃ k4 : Nat,
    ∃ n1 : Int,
    ∃ n2 : Int,
    (e3 = Ending.returned (Value.tuple #[Value.slice p2 k3 k4, Value.int IntKind.i64 n1, Value.int IntKind.i64 n2])) ∧
    brB (n2 != 0)
      (R (Ending.returned (Value.bool ((↑k3 : Int) == 0))) w3)
      (brB (decide (n1 < 1) || decide (n1 > (↑sl1 : Int)))
        (R (Ending.returned (Value.bool false)) w3)
        (Calls P F.ref02_Adler #[Value.slice p2 k3 k4] w3 fun e4 w4 =>
        ∃ n3 : Int,
        (e4 = Ending.returned (Value.int IntKind.u32 n3)) ∧
        ∀ k5 : Nat,
        ∀ w5 : World,
        (New w4 (Obj.cells #[Value.int IntKind.u8 120, Value.int IntKind.u8 1] 5) k5 w5) →
        slcc (sa1) (sc1) (0) (n1) (1) fun p3 k6 k7 =>
        ∃ l1 : List Value,
        (l1.length = k6 * 1) ∧
        (oneAll l1 = true) ∧
        (CellsAre w5 p3 l1) ∧
        appVC (w5) ([]) (some { block := k5, off := 0 }) (2) (2) (k6) (1) (1) (5) ([Value.int IntKind.u8 0]) (l1) fun p4 k8 k9 w6 =>
        ∀ k10 : Nat,
        (w6.heap.size ≤ k10) →
        ∀ w7 : World,
        (Locl ([k10]) w6 w7) →
        appVC (w7) ([(55, k10, [Value.int IntKind.u8 (IntKind.u8.wrap (shiftZ BinOp.shr IntKind.u32 (IntKind.u32.wrap (bitsZ BinOp.xor IntKind.u32 n3 x1)) 24)), Value.int IntKind.u8 (IntKind.u8.wrap (shiftZ BinOp.shr IntKind.u32 (IntKind.u32.wrap (bitsZ BinOp.xor IntKind.u32 n3 x1)) 16)), Value.int IntKind.u8 (IntKind.u8.wrap (shiftZ BinOp.shr IntKind.u32 (IntKind.u32.wrap (bitsZ BinOp.xor IntKind.u32 n3 x1)) 8)), Value.int IntKind.u8 (IntKind.u8.wrap (IntKind.u32.wrap (bitsZ BinOp.xor IntKind.u32 n3 x1))), Value.int IntKind.u8 9])]) (p4) (k8) (k9) (5) (1) (1) (5) ([Value.int IntKind.u8 0]) ([Value.int IntKind.u8 (IntKind.u8.wrap (shiftZ BinOp.shr IntKind.u32 (IntKind.u32.wrap (bitsZ BinOp.xor IntKind.u32 n3 x1)) 24)), Value.int IntKind.u8 (IntKind.u8.wrap (shiftZ BinOp.shr IntKind.u32 (IntKind.u32.wrap (bitsZ BinOp.xor IntKind.u32 n3 x1)) 16)), Value.int IntKind.u8 (IntKind.u8.wrap (shiftZ BinOp.shr IntKind.u32 (IntKind.u32.wrap (bitsZ BinOp.xor IntKind.u32 n3 x1)) 8)), Value.int IntKind.u8 (IntKind.u8.wrap (IntKind.u32.wrap (bitsZ BinOp.xor IntKind.u32 n3 x1))), Value.int IntKind.u8 9]) fun p5 k11 k12 w8 =>
        Calls P F.inflate_Zlib #[Value.slice p5 k11 k12, Value.int IntKind.i64 (↑k3 : Int)] w8 fun e5 w9 =>
        ∃ p6 : Option Addr,
        ∃ k13 : Nat,
        ∃ k14 : Nat,
        ∃ n4 : Int,
        (e5 = Ending.returned (Value.tuple #[Value.slice p6 k13 k14, Value.int IntKind.i64 n4])) ∧
        (Keep ([k10]) w8 w9) ∧
        brB (x1 == 0)
          (brB (n4 == 0)
            (Calls P F.ref01_Same #[Value.slice p2 k3 k4, Value.slice p6 k13 k14] w9 fun e6 w10 =>
            ∃ c2 : Bool,
            (e6 = Ending.returned (Value.bool c2)) ∧
            (Keep ([k10]) w9 w10) ∧
            R (Ending.returned (Value.bool c2)) w10)
            (R (Ending.returned (Value.bool false)) w9))
          (R (Ending.returned (Value.bool (n4 == 44 && (↑k13 : Int) == 0))) w9))))
theorem calls_law04_InflateWraps (sa1 : Option Addr) (sl1 sc1 : Nat) (x1 : Int) (w : World) (R : Ending → World → Prop) (h : vc_law04_InflateWraps sa1 sl1 sc1 x1 w R) : Calls P F.law04_InflateWraps #[.slice sa1 sl1 sc1, .int .u32 x1] w R :=
  calls_of_vc (fn := Try.f7) (ac := ac_law04_InflateWraps) (args := [.slice sa1 sl1 sc1, .int .u32 x1]) mixed Try.func7 (by kernel_rfl) (cast (by unfold vc_law04_InflateWraps FnVc; kernel_rfl) h)
/-- darkroom/darkroomlaw04.InflateOwn -/
def vc_law04_InflateOwn (sa1 : Option Addr) (sl1 sc1 : Nat) (x1 : Int) (w : World) (R : Ending → World → Prop) : Prop :=
  Calls P F.law04_wakes #[] w fun e1 w1 =>
  ∃ c1 : Bool,
  (e1 = Ending.returned (Value.bool c1)) ∧
  brB (!c1)
    (R (Ending.returned (Value.bool false)) w1)
    (Calls P F.law04_own #[Value.slice sa1 sl1 sc1] w1 fun e2 w2 =>
    ∃ p1 : Option Addr,
    ∃ k1 : Nat,
    ∃ k2 : Nat,
    (e2 = Ending.returned (Value.slice p1 k1 k2)) ∧
    ∀ k3 : Nat,
    (w2.heap.size ≤ k3) →
    ∀ w3 : World,
    (Locl ([k3]) w2 w3) →
    appVC (w3) ([(21, k3, [Value.int IntKind.u8 77])]) (p1) (k1) (k2) (1) (1) (1) (5) ([Value.int IntKind.u8 0]) ([Value.int IntKind.u8 77]) fun p2 k4 k5 w4 =>
    slcc (p2) (k5) (0) ((↑sl1 : Int)) (1) fun p3 k6 k7 =>
    Calls P F.inflate_Raw #[Value.slice p3 k6 k7, Value.int IntKind.i64 x1] w4 fun e3 w5 =>
    ∃ p4 : Option Addr,
    ∃ k8 : Nat,
    ∃ k9 : Nat,
    ∃ n1 : Int,
    ∃ n2 : Int,
    (e3 = Ending.returned (Value.tuple #[Value.slice p4 k8 k9, Value.int IntKind.i64 n1, Value.int IntKind.i64 n2])) ∧
    (Keep ([k3]) w4 w5) ∧
    slcc (p2) (k5) (0) ((↑sl1 : Int)) (1) fun p5 k10 k11 =>
    Calls P F.inflate_Raw #[Value.slice p5 k10 k11, Value.int IntKind.i64 x1] w5 fun e4 w6 =>
    ∃ p6 : Option Addr,
    ∃ k12 : Nat,
    ∃ k13 : Nat,
    ∃ n3 : Int,
    ∃ n4 : Int,
    (e4 = Ending.returned (Value.tuple #[Value.slice p6 k12 k13, Value.int IntKind.i64 n3, Value.int IntKind.i64 n4])) ∧
    (Keep ([k3]) w5 w6) ∧
    slcc (p2) (k5) (0) ((↑sl1 : Int)) (1) fun p7 k14 k15 =>
    Calls P F.inflate_Zlib #[Value.slice p7 k14 k15, Value.int IntKind.i64 x1] w6 fun e5 w7 =>
    ∃ p8 : Option Addr,
    ∃ k16 : Nat,
    ∃ k17 : Nat,
    ∃ n5 : Int,
    (e5 = Ending.returned (Value.tuple #[Value.slice p8 k16 k17, Value.int IntKind.i64 n5])) ∧
    (Keep ([k3]) w6 w7) ∧
    ∃ I1 : List Value → World → Prop,
    ∃ m1 : List Value → World → Nat,
    (I1 [Value.int IntKind.i64 0] w7) ∧
    ∀ n6 : Int,
    ∀ w8 : World,
    (I1 [Value.int IntKind.i64 n6] w8) →
    brB (decide (n6 < (↑k8 : Int)))
      (idx (p4) (k8) (n6) (1) fun a1 =>
      ∃ n7 : Int,
      (w8.cell? a1 = some (Value.int IntKind.u8 n7)) ∧
      idx (p4) (k8) (n6) (1) fun a2 =>
      (∃ v1 : Value,
        w8.cell? a2 = some v1) ∧
      (w8.frozen? a2 = false) ∧
      (¬a2.block ∈ [k3]) ∧
      (I1 [Value.int IntKind.i64 (IntKind.i64.wrap (n6 + 1))] (setCells w8 a2 [Value.int IntKind.u8 (IntKind.u8.wrap (n7 + 1))] 0)) ∧
      m1 [Value.int IntKind.i64 (IntKind.i64.wrap (n6 + 1))] (setCells w8 a2 [Value.int IntKind.u8 (IntKind.u8.wrap (n7 + 1))] 0) < m1 [Value.int IntKind.i64 n6] w8)
      (∃ I2 : List Value → World → Prop,
      ∃ m2 : List Value → World → Nat,
      (I2 [Value.slice p4 k8 k9, Value.int IntKind.i64 0] w8) ∧
      ∀ p9 : Option Addr,
      ∀ k18 : Nat,
      ∀ k19 : Nat,
      ∀ n8 : Int,
      ∀ w9 : World,
      (I2 [Value.slice p9 k18 k19, Value.int IntKind.i64 n8] w9) →
      brB (decide (n8 < 20))
        (∀ k20 : Nat,
        (w9.heap.size ≤ k20) →
        ∀ w10 : World,
        (Locl ([k20, k3]) w9 w10) →
        appVC (w10) ([(68, k20, [Value.int IntKind.u8 5]), (21, k3, [Value.int IntKind.u8 77])]) (p9) (k18) (k19) (1) (1) (1) (5) ([Value.int IntKind.u8 0]) ([Value.int IntKind.u8 5]) fun p10 k21 k22 w11 =>
        (I2 [Value.slice p10 k21 k22, Value.int IntKind.i64 (IntKind.i64.wrap (n8 + 1))] w11) ∧
        m2 [Value.slice p10 k21 k22, Value.int IntKind.i64 (IntKind.i64.wrap (n8 + 1))] w11 < m2 [Value.slice p9 k18 k19, Value.int IntKind.i64 n8] w9)
        (Calls P F.ref04_Raw #[Value.slice sa1 sl1 sc1, Value.int IntKind.i64 x1] w9 fun e6 w12 =>
        ∃ p11 : Option Addr,
        ∃ k23 : Nat,
        ∃ k24 : Nat,
        ∃ n9 : Int,
        ∃ n10 : Int,
        (e6 = Ending.returned (Value.tuple #[Value.slice p11 k23 k24, Value.int IntKind.i64 n9, Value.int IntKind.i64 n10])) ∧
        (Keep ([k3]) w9 w12) ∧
        idx (p2) (k4) ((↑sl1 : Int)) (1) fun a3 =>
        ∃ n11 : Int,
        (w12.cell? a3 = some (Value.int IntKind.u8 n11)) ∧
        brB (n11 == 77)
          (slcc (p2) (k5) (0) ((↑sl1 : Int)) (1) fun p12 k25 k26 =>
          Calls P F.ref01_Same #[Value.slice p12 k25 k26, Value.slice sa1 sl1 sc1] w12 fun e7 w13 =>
          ∃ c2 : Bool,
          (e7 = Ending.returned (Value.bool c2)) ∧
          (Keep ([k3]) w12 w13) ∧
          brB (c2)
            (Calls P F.ref01_Same #[Value.slice p6 k12 k13, Value.slice p11 k23 k24] w13 fun e8 w14 =>
            ∃ c3 : Bool,
            (e8 = Ending.returned (Value.bool c3)) ∧
            (Keep ([k3]) w13 w14) ∧
            R (Ending.returned (Value.bool c3)) w14)
            (R (Ending.returned (Value.bool false)) w13))
          (R (Ending.returned (Value.bool false)) w12))))
theorem calls_law04_InflateOwn (sa1 : Option Addr) (sl1 sc1 : Nat) (x1 : Int) (w : World) (R : Ending → World → Prop) (h : vc_law04_InflateOwn sa1 sl1 sc1 x1 w R) : Calls P F.law04_InflateOwn #[.slice sa1 sl1 sc1, .int .i64 x1] w R :=
  calls_of_vc (fn := Try.f8) (ac := ac_law04_InflateOwn) (args := [.slice sa1 sl1 sc1, .int .i64 x1]) mixed Try.func8 (by kernel_rfl) (cast (by unfold vc_law04_InflateOwn FnVc; kernel_rfl) h)
/-- darkroom/darkroomlaw04.wakes -/
def vc_law04_wakes  (w : World) (R : Ending → World → Prop) : Prop :=
  ∀ k1 : Nat,
  ∀ w1 : World,
  (New w (Obj.cells #[Value.int IntKind.u8 75, Value.int IntKind.u8 4, Value.int IntKind.u8 0] 5) k1 w1) →
  Calls P F.inflate_Raw #[Value.slice (some { block := k1, off := 0 }) 3 3, Value.int IntKind.i64 9] w1 fun e1 w2 =>
  ∃ p1 : Option Addr,
  ∃ k2 : Nat,
  ∃ k3 : Nat,
  ∃ n1 : Int,
  ∃ n2 : Int,
  (e1 = Ending.returned (Value.tuple #[Value.slice p1 k2 k3, Value.int IntKind.i64 n1, Value.int IntKind.i64 n2])) ∧
  ∀ k4 : Nat,
  ∀ w3 : World,
  (New w2 (Obj.cells #[Value.int IntKind.u8 7] 5) k4 w3) →
  Calls P F.inflate_Raw #[Value.slice (some { block := k4, off := 0 }) 1 1, Value.int IntKind.i64 9] w3 fun e2 w4 =>
  ∃ p2 : Option Addr,
  ∃ k5 : Nat,
  ∃ k6 : Nat,
  ∃ n3 : Int,
  ∃ n4 : Int,
  (e2 = Ending.returned (Value.tuple #[Value.slice p2 k5 k6, Value.int IntKind.i64 n3, Value.int IntKind.i64 n4])) ∧
  ∀ k7 : Nat,
  ∀ w5 : World,
  (New w4 (Obj.cells #[Value.int IntKind.u8 120, Value.int IntKind.u8 156, Value.int IntKind.u8 75, Value.int IntKind.u8 4, Value.int IntKind.u8 0, Value.int IntKind.u8 0, Value.int IntKind.u8 98, Value.int IntKind.u8 0, Value.int IntKind.u8 98] 5) k7 w5) →
  Calls P F.inflate_Zlib #[Value.slice (some { block := k7, off := 0 }) 9 9, Value.int IntKind.i64 1] w5 fun e3 w6 =>
  ∃ p3 : Option Addr,
  ∃ k8 : Nat,
  ∃ k9 : Nat,
  ∃ n5 : Int,
  (e3 = Ending.returned (Value.tuple #[Value.slice p3 k8 k9, Value.int IntKind.i64 n5])) ∧
  brB (n2 == 0 && n1 == 3)
    (∃ l1 : List Int,
    (l1.length = k2) ∧
    (CellsAre w6 p1 (List.map (Value.int IntKind.u8) l1)) ∧
    brB (decide (bstrOf l1 = { data := #[97] }) && n4 == 40 && n5 == 0)
      (∃ l2 : List Int,
      (l2.length = k8) ∧
      (CellsAre w6 p3 (List.map (Value.int IntKind.u8) l2)) ∧
      R (Ending.returned (Value.bool (decide (bstrOf l2 = { data := #[97] })))) w6)
      (R (Ending.returned (Value.bool false)) w6))
    (R (Ending.returned (Value.bool false)) w6)
theorem calls_law04_wakes  (w : World) (R : Ending → World → Prop) (h : vc_law04_wakes  w R) : Calls P F.law04_wakes #[] w R :=
  calls_of_vc (fn := Try.f9) (ac := ac_law04_wakes) (args := []) mixed Try.func9 (by kernel_rfl) (cast (by unfold vc_law04_wakes FnVc; kernel_rfl) h)
/-- darkroom/inflate.Raw -/
def vc_inflate_Raw (sa1 : Option Addr) (sl1 sc1 : Nat) (x1 : Int) (w : World) (R : Ending → World → Prop) : Prop :=
  ∀ k1 : Nat,
  ∀ w1 : World,
  (New w (Obj.cells #[Value.slice none 0 0] 22) k1 w1) →
  ∀ k2 : Nat,
  ∀ w2 : World,
  (New w1 (Obj.cells #[Value.int IntKind.i64 0] 3) k2 w2) →
  ∀ k3 : Nat,
  ∀ w3 : World,
  (New w2 (Obj.cells #[Value.int IntKind.i64 0] 24) k3 w3) →
  Calls P F.bits_NewReader #[Value.slice sa1 sl1 sc1, Value.bool false] w3 fun e1 w4 =>
  ∃ p1 : Option Addr,
  (e1 = Ending.returned (Value.pointer p1)) ∧
  ∀ k4 : Nat,
  ∀ w5 : World,
  (New w4 (Obj.cells #[Value.pointer p1, Value.slice none 0 0, Value.int IntKind.i64 (max x1 0)] 47) k4 w5) →
  ∃ I1 : List Value → World → Prop,
  ∃ m1 : List Value → World → Nat,
  (I1 [Value.bool false] w5) ∧
  ∀ c1 : Bool,
  ∀ w6 : World,
  (I1 [Value.bool c1] w6) →
  brB (!c1)
    (Calls P F.inflate_reader_take #[Value.pointer (some { block := k4, off := 0 }), Value.int IntKind.i64 1] w6 fun e2 w7 =>
    ((∃ n1 : Int,
      (e2 = Ending.returned (Value.int IntKind.i64 n1)) ∧
      Calls P F.inflate_reader_take #[Value.pointer (some { block := k4, off := 0 }), Value.int IntKind.i64 2] w7 fun e3 w8 =>
      ((∃ n2 : Int,
        (e3 = Ending.returned (Value.int IntKind.i64 n2)) ∧
        ∃ I2 : List Value → World → Prop,
        (brB (n2 == 0)
            (Calls P F.inflate_reader_stored #[Value.pointer (some { block := k4, off := 0 })] w8 fun e4 w9 =>
            (((e4 = Ending.returned (Value.tuple #[])) ∧
              I2 [] w9) ∨
            (∃ l1 : List PanicEntry,
              (e4 = Ending.panicked l1) ∧
              ∃ v1 : Value,
              (l1 = [{ v := v1, recovered := false }]) ∧
              CallsOff P F.inflate_Raw_fn1 [Value.pointer (some { block := k1, off := 0 }), Value.pointer (some { block := k2, off := 0 }), Value.pointer (some { block := k3, off := 0 })] (v1) (w9) fun e5 w10 =>
              (∃ v2 : Value,
                e5 = Ending.returned v2) ∧
              ∃ p2 : Option Addr,
              ∃ k5 : Nat,
              ∃ k6 : Nat,
              (w10.cell? { block := k1, off := 0 } = some (Value.slice p2 k5 k6)) ∧
              ∃ n3 : Int,
              (w10.cell? { block := k2, off := 0 } = some (Value.int IntKind.i64 n3)) ∧
              ∃ n4 : Int,
              (w10.cell? { block := k3, off := 0 } = some (Value.int IntKind.i64 n4)) ∧
              R (Ending.returned (Value.tuple #[Value.slice p2 k5 k6, Value.int IntKind.i64 n3, Value.int IntKind.i64 n4])) w10)))
            (brB (n2 == 1)
              (Calls P F.inflate_fixed #[] w8 fun e6 w11 =>
              ∃ p3 : Option Addr,
              ∃ p4 : Option Addr,
              (e6 = Ending.returned (Value.tuple #[Value.pointer p3, Value.pointer p4])) ∧
              Calls P F.inflate_reader_symbols #[Value.pointer (some { block := k4, off := 0 }), Value.pointer p3, Value.pointer p4] w11 fun e7 w12 =>
              (((e7 = Ending.returned (Value.tuple #[])) ∧
                I2 [] w12) ∨
              (∃ l2 : List PanicEntry,
                (e7 = Ending.panicked l2) ∧
                ∃ v3 : Value,
                (l2 = [{ v := v3, recovered := false }]) ∧
                CallsOff P F.inflate_Raw_fn1 [Value.pointer (some { block := k1, off := 0 }), Value.pointer (some { block := k2, off := 0 }), Value.pointer (some { block := k3, off := 0 })] (v3) (w12) fun e8 w13 =>
                (∃ v4 : Value,
                  e8 = Ending.returned v4) ∧
                ∃ p5 : Option Addr,
                ∃ k7 : Nat,
                ∃ k8 : Nat,
                (w13.cell? { block := k1, off := 0 } = some (Value.slice p5 k7 k8)) ∧
                ∃ n5 : Int,
                (w13.cell? { block := k2, off := 0 } = some (Value.int IntKind.i64 n5)) ∧
                ∃ n6 : Int,
                (w13.cell? { block := k3, off := 0 } = some (Value.int IntKind.i64 n6)) ∧
                R (Ending.returned (Value.tuple #[Value.slice p5 k7 k8, Value.int IntKind.i64 n5, Value.int IntKind.i64 n6])) w13)))
              (brB (n2 == 2)
                (Calls P F.inflate_reader_dynamic #[Value.pointer (some { block := k4, off := 0 })] w8 fun e9 w14 =>
                ((∃ p6 : Option Addr,
                  ∃ p7 : Option Addr,
                  (e9 = Ending.returned (Value.tuple #[Value.pointer p6, Value.pointer p7])) ∧
                  Calls P F.inflate_reader_symbols #[Value.pointer (some { block := k4, off := 0 }), Value.pointer p6, Value.pointer p7] w14 fun e10 w15 =>
                  (((e10 = Ending.returned (Value.tuple #[])) ∧
                    I2 [] w15) ∨
                  (∃ l3 : List PanicEntry,
                    (e10 = Ending.panicked l3) ∧
                    ∃ v5 : Value,
                    (l3 = [{ v := v5, recovered := false }]) ∧
                    CallsOff P F.inflate_Raw_fn1 [Value.pointer (some { block := k1, off := 0 }), Value.pointer (some { block := k2, off := 0 }), Value.pointer (some { block := k3, off := 0 })] (v5) (w15) fun e11 w16 =>
                    (∃ v6 : Value,
                      e11 = Ending.returned v6) ∧
                    ∃ p8 : Option Addr,
                    ∃ k9 : Nat,
                    ∃ k10 : Nat,
                    (w16.cell? { block := k1, off := 0 } = some (Value.slice p8 k9 k10)) ∧
                    ∃ n7 : Int,
                    (w16.cell? { block := k2, off := 0 } = some (Value.int IntKind.i64 n7)) ∧
                    ∃ n8 : Int,
                    (w16.cell? { block := k3, off := 0 } = some (Value.int IntKind.i64 n8)) ∧
                    R (Ending.returned (Value.tuple #[Value.slice p8 k9 k10, Value.int IntKind.i64 n7, Value.int IntKind.i64 n8])) w16))) ∨
                (∃ l4 : List PanicEntry,
                  (e9 = Ending.panicked l4) ∧
                  ∃ v7 : Value,
                  (l4 = [{ v := v7, recovered := false }]) ∧
                  CallsOff P F.inflate_Raw_fn1 [Value.pointer (some { block := k1, off := 0 }), Value.pointer (some { block := k2, off := 0 }), Value.pointer (some { block := k3, off := 0 })] (v7) (w14) fun e12 w17 =>
                  (∃ v8 : Value,
                    e12 = Ending.returned v8) ∧
                  ∃ p9 : Option Addr,
                  ∃ k11 : Nat,
                  ∃ k12 : Nat,
                  (w17.cell? { block := k1, off := 0 } = some (Value.slice p9 k11 k12)) ∧
                  ∃ n9 : Int,
                  (w17.cell? { block := k2, off := 0 } = some (Value.int IntKind.i64 n9)) ∧
                  ∃ n10 : Int,
                  (w17.cell? { block := k3, off := 0 } = some (Value.int IntKind.i64 n10)) ∧
                  R (Ending.returned (Value.tuple #[Value.slice p9 k11 k12, Value.int IntKind.i64 n9, Value.int IntKind.i64 n10])) w17)))
                ((∃ y1 : TypeId,
                  ∃ v9 : Value,
                  Value.iface 49 (Value.agg #[Value.int IntKind.i64 40]) = Value.iface y1 v9) ∧
                ∃ v10 : Value,
                (([{ v := Value.iface 49 (Value.agg #[Value.int IntKind.i64 40]), recovered := false }] : List PanicEntry) = [{ v := v10, recovered := false }]) ∧
                CallsOff P F.inflate_Raw_fn1 [Value.pointer (some { block := k1, off := 0 }), Value.pointer (some { block := k2, off := 0 }), Value.pointer (some { block := k3, off := 0 })] (v10) (w8) fun e13 w18 =>
                (∃ v11 : Value,
                  e13 = Ending.returned v11) ∧
                ∃ p10 : Option Addr,
                ∃ k13 : Nat,
                ∃ k14 : Nat,
                (w18.cell? { block := k1, off := 0 } = some (Value.slice p10 k13 k14)) ∧
                ∃ n11 : Int,
                (w18.cell? { block := k2, off := 0 } = some (Value.int IntKind.i64 n11)) ∧
                ∃ n12 : Int,
                (w18.cell? { block := k3, off := 0 } = some (Value.int IntKind.i64 n12)) ∧
                R (Ending.returned (Value.tuple #[Value.slice p10 k13 k14, Value.int IntKind.i64 n11, Value.int IntKind.i64 n12])) w18)))) ∧
        ∀ w19 : World,
        (I2 [] w19) →
        (I1 [Value.bool (n1 == 1)] w19) ∧
        m1 [Value.bool (n1 == 1)] w19 < m1 [Value.bool c1] w6) ∨
      (∃ l5 : List PanicEntry,
        (e3 = Ending.panicked l5) ∧
        ∃ v12 : Value,
        (l5 = [{ v := v12, recovered := false }]) ∧
        CallsOff P F.inflate_Raw_fn1 [Value.pointer (some { block := k1, off := 0 }), Value.pointer (some { block := k2, off := 0 }), Value.pointer (some { block := k3, off := 0 })] (v12) (w8) fun e14 w20 =>
        (∃ v13 : Value,
          e14 = Ending.returned v13) ∧
        ∃ p11 : Option Addr,
        ∃ k15 : Nat,
        ∃ k16 : Nat,
        (w20.cell? { block := k1, off := 0 } = some (Value.slice p11 k15 k16)) ∧
        ∃ n13 : Int,
        (w20.cell? { block := k2, off := 0 } = some (Value.int IntKind.i64 n13)) ∧
        ∃ n14 : Int,
        (w20.cell? { block := k3, off := 0 } = some (Value.int IntKind.i64 n14)) ∧
        R (Ending.returned (Value.tuple #[Value.slice p11 k15 k16, Value.int IntKind.i64 n13, Value.int IntKind.i64 n14])) w20))) ∨
    (∃ l6 : List PanicEntry,
      (e2 = Ending.panicked l6) ∧
      ∃ v14 : Value,
      (l6 = [{ v := v14, recovered := false }]) ∧
      CallsOff P F.inflate_Raw_fn1 [Value.pointer (some { block := k1, off := 0 }), Value.pointer (some { block := k2, off := 0 }), Value.pointer (some { block := k3, off := 0 })] (v14) (w7) fun e15 w21 =>
      (∃ v15 : Value,
        e15 = Ending.returned v15) ∧
      ∃ p12 : Option Addr,
      ∃ k17 : Nat,
      ∃ k18 : Nat,
      (w21.cell? { block := k1, off := 0 } = some (Value.slice p12 k17 k18)) ∧
      ∃ n15 : Int,
      (w21.cell? { block := k2, off := 0 } = some (Value.int IntKind.i64 n15)) ∧
      ∃ n16 : Int,
      (w21.cell? { block := k3, off := 0 } = some (Value.int IntKind.i64 n16)) ∧
      R (Ending.returned (Value.tuple #[Value.slice p12 k17 k18, Value.int IntKind.i64 n15, Value.int IntKind.i64 n16])) w21)))
    (∃ p13 : Option Addr,
    ∃ k19 : Nat,
    ∃ k20 : Nat,
    (w6.drew.cell? { block := k4, off := 1 } = some (Value.slice p13 k19 k20)) ∧
    ∃ p14 : Option Addr,
    (w6.drew.cell? { block := k4, off := 0 } = some (Value.pointer p14)) ∧
    Calls P F.bits_Reader_Place #[Value.pointer p14] (w6.drew) fun e16 w22 =>
    ∃ n17 : Int,
    (e16 = Ending.returned (Value.int IntKind.i64 n17)) ∧
    (Keeps (w6.drew) w22) ∧
    (∃ v16 : Value,
      w22.cell? { block := k1, off := 0 } = some v16) ∧
    (w22.frozen? { block := k1, off := 0 } = false) ∧
    (∃ v17 : Value,
      (setCells w22 { block := k1, off := 0 } [Value.slice p13 k19 k20] 0).cell? { block := k2, off := 0 } = some v17) ∧
    ((setCells w22 { block := k1, off := 0 } [Value.slice p13 k19 k20] 0).frozen? { block := k2, off := 0 } = false) ∧
    (∃ v18 : Value,
      (setCells (setCells w22 { block := k1, off := 0 } [Value.slice p13 k19 k20] 0) { block := k2, off := 0 } [Value.int IntKind.i64 (divZ BinOp.quo IntKind.i64 (IntKind.i64.wrap (n17 + 7)) 8)] 0).cell? { block := k3, off := 0 } = some v18) ∧
    ((setCells (setCells w22 { block := k1, off := 0 } [Value.slice p13 k19 k20] 0) { block := k2, off := 0 } [Value.int IntKind.i64 (divZ BinOp.quo IntKind.i64 (IntKind.i64.wrap (n17 + 7)) 8)] 0).frozen? { block := k3, off := 0 } = false) ∧
    CallsOff P F.inflate_Raw_fn1 [Value.pointer (some { block := k1, off := 0 }), Value.pointer (some { block := k2, off := 0 }), Value.pointer (some { block := k3, off := 0 })] (Value.nilIface) (setCells (setCells (setCells w22 { block := k1, off := 0 } [Value.slice p13 k19 k20] 0) { block := k2, off := 0 } [Value.int IntKind.i64 (divZ BinOp.quo IntKind.i64 (IntKind.i64.wrap (n17 + 7)) 8)] 0) { block := k3, off := 0 } [Value.int IntKind.i64 0] 0) fun e17 w23 =>
    (∃ v19 : Value,
      e17 = Ending.returned v19) ∧
    ∃ p15 : Option Addr,
    ∃ k21 : Nat,
    ∃ k22 : Nat,
    (w23.cell? { block := k1, off := 0 } = some (Value.slice p15 k21 k22)) ∧
    ∃ n18 : Int,
    (w23.cell? { block := k2, off := 0 } = some (Value.int IntKind.i64 n18)) ∧
    ∃ n19 : Int,
    (w23.cell? { block := k3, off := 0 } = some (Value.int IntKind.i64 n19)) ∧
    R (Ending.returned (Value.tuple #[Value.slice p15 k21 k22, Value.int IntKind.i64 n18, Value.int IntKind.i64 n19])) w23)
theorem calls_inflate_Raw (sa1 : Option Addr) (sl1 sc1 : Nat) (x1 : Int) (w : World) (R : Ending → World → Prop) (h : vc_inflate_Raw sa1 sl1 sc1 x1 w R) : Calls P F.inflate_Raw #[.slice sa1 sl1 sc1, .int .i64 x1] w R :=
  calls_of_vcD (fn := Try.f10) (ac := ac_inflate_Raw) (args := [.slice sa1 sl1 sc1, .int .i64 x1]) mixed Try.func10 (by kernel_rfl) (cast (by unfold vc_inflate_Raw FnVcD; kernel_rfl) h)
/-- darkroom/darkroomlaw04.own -/
def vc_law04_own (sa1 : Option Addr) (sl1 sc1 : Nat) (w : World) (R : Ending → World → Prop) : Prop :=
  ∀ k1 : Nat,
  ∀ w1 : World,
  (New w (Obj.cells #[] 5) k1 w1) →
  ∃ l1 : List Value,
  (l1.length = sl1 * 1) ∧
  (oneAll l1 = true) ∧
  (CellsAre w1 sa1 l1) ∧
  appVC (w1) ([]) (some { block := k1, off := 0 }) (0) (0) (sl1) (1) (1) (5) ([Value.int IntKind.u8 0]) (l1) fun p1 k2 k3 w2 =>
  R (Ending.returned (Value.slice p1 k2 k3)) w2
theorem calls_law04_own (sa1 : Option Addr) (sl1 sc1 : Nat) (w : World) (R : Ending → World → Prop) (h : vc_law04_own sa1 sl1 sc1 w R) : Calls P F.law04_own #[.slice sa1 sl1 sc1] w R :=
  calls_of_vc (fn := Try.f11) (ac := ac_law04_own) (args := [.slice sa1 sl1 sc1]) mixed Try.func11 (by kernel_rfl) (cast (by unfold vc_law04_own FnVc; kernel_rfl) h)
/-- darkroom/darkroomref04.Raw -/
def vc_ref04_Raw (sa1 : Option Addr) (sl1 sc1 : Nat) (x1 : Int) (w : World) (R : Ending → World → Prop) : Prop :=
  ∃ I1 : List Value → World → Prop,
  (brB (decide (x1 < 0))
      (I1 [Value.int IntKind.i64 0] w)
      (I1 [Value.int IntKind.i64 x1] w)) ∧
  ∀ n1 : Int,
  ∀ w1 : World,
  (I1 [Value.int IntKind.i64 n1] w1) →
  ∀ k1 : Nat,
  (w1.heap.size ≤ k1) →
  ∃ I2 : List Value → World → Prop,
  (∃ I3 : List Value → World → Prop,
    ∃ m1 : List Value → World → Nat,
    (∀ w2 : World,
      (Locl ([k1]) w1 w2) →
      I3 [Value.int IntKind.i64 0, Value.slice sa1 sl1 sc1, Value.bool false, Value.int IntKind.i64 0, Value.slice none 0 0, Value.int IntKind.i64 n1, Value.int IntKind.i64 0] w2) ∧
    ∀ n2 : Int,
    ∀ p1 : Option Addr,
    ∀ k2 : Nat,
    ∀ k3 : Nat,
    ∀ c1 : Bool,
    ∀ n3 : Int,
    ∀ p2 : Option Addr,
    ∀ k4 : Nat,
    ∀ k5 : Nat,
    ∀ n4 : Int,
    ∀ n5 : Int,
    ∀ w3 : World,
    (I3 [Value.int IntKind.i64 n2, Value.slice p1 k2 k3, Value.bool c1, Value.int IntKind.i64 n3, Value.slice p2 k4 k5, Value.int IntKind.i64 n4, Value.int IntKind.i64 n5] w3) →
    brB (n2 == 0 && n5 == 0)
      (Calls P F.ref04_take #[Value.agg #[Value.slice p1 k2 k3, Value.bool c1, Value.int IntKind.i64 n3, Value.slice p2 k4 k5, Value.int IntKind.i64 n4, Value.int IntKind.i64 n5], Value.int IntKind.i64 1] w3 fun e1 w4 =>
      ∃ p3 : Option Addr,
      ∃ k6 : Nat,
      ∃ k7 : Nat,
      ∃ c2 : Bool,
      ∃ n6 : Int,
      ∃ p4 : Option Addr,
      ∃ k8 : Nat,
      ∃ k9 : Nat,
      ∃ n7 : Int,
      ∃ n8 : Int,
      ∃ n9 : Int,
      (e1 = Ending.returned (Value.tuple #[Value.agg #[Value.slice p3 k6 k7, Value.bool c2, Value.int IntKind.i64 n6, Value.slice p4 k8 k9, Value.int IntKind.i64 n7, Value.int IntKind.i64 n8], Value.int IntKind.i64 n9])) ∧
      (Keep ([k1]) w3 w4) ∧
      ∃ I4 : List Value → World → Prop,
      (brB (n8 == 0)
          (∀ w5 : World,
          (Locl ([k1]) w4 w5) →
          Calls P F.ref04_take #[Value.agg #[Value.slice p3 k6 k7, Value.bool c2, Value.int IntKind.i64 n6, Value.slice p4 k8 k9, Value.int IntKind.i64 n7, Value.int IntKind.i64 n8], Value.int IntKind.i64 2] w5 fun e2 w6 =>
          ∃ p5 : Option Addr,
          ∃ k10 : Nat,
          ∃ k11 : Nat,
          ∃ c3 : Bool,
          ∃ n10 : Int,
          ∃ p6 : Option Addr,
          ∃ k12 : Nat,
          ∃ k13 : Nat,
          ∃ n11 : Int,
          ∃ n12 : Int,
          ∃ n13 : Int,
          (e2 = Ending.returned (Value.tuple #[Value.agg #[Value.slice p5 k10 k11, Value.bool c3, Value.int IntKind.i64 n10, Value.slice p6 k12 k13, Value.int IntKind.i64 n11, Value.int IntKind.i64 n12], Value.int IntKind.i64 n13])) ∧
          (Keep ([k1]) w5 w6) ∧
          ∀ w7 : World,
          (Locl ([k1]) w6 w7) →
          I4 [Value.int IntKind.i64 n13, Value.slice p5 k10 k11, Value.bool c3, Value.int IntKind.i64 n10, Value.slice p6 k12 k13, Value.int IntKind.i64 n11, Value.int IntKind.i64 n12] w7)
          (∀ w8 : World,
          (Locl ([k1]) w4 w8) →
          I4 [Value.int IntKind.i64 0, Value.slice p3 k6 k7, Value.bool c2, Value.int IntKind.i64 n6, Value.slice p4 k8 k9, Value.int IntKind.i64 n7, Value.int IntKind.i64 n8] w8)) ∧
      ∀ n14 : Int,
      ∀ p7 : Option Addr,
      ∀ k14 : Nat,
      ∀ k15 : Nat,
      ∀ c4 : Bool,
      ∀ n15 : Int,
      ∀ p8 : Option Addr,
      ∀ k16 : Nat,
      ∀ k17 : Nat,
      ∀ n16 : Int,
      ∀ n17 : Int,
      ∀ w9 : World,
      (I4 [Value.int IntKind.i64 n14, Value.slice p7 k14 k15, Value.bool c4, Value.int IntKind.i64 n15, Value.slice p8 k16 k17, Value.int IntKind.i64 n16, Value.int IntKind.i64 n17] w9) →
      brB (n17 != 0)
        (I2 [Value.slice p7 k14 k15, Value.bool c4, Value.int IntKind.i64 n15, Value.slice p8 k16 k17, Value.int IntKind.i64 n16, Value.int IntKind.i64 n17] w9)
        (∃ I5 : List Value → World → Prop,
        (brB (n14 == 0)
            (Calls P F.ref04_stored #[Value.agg #[Value.slice p7 k14 k15, Value.bool c4, Value.int IntKind.i64 n15, Value.slice p8 k16 k17, Value.int IntKind.i64 n16, Value.int IntKind.i64 n17]] w9 fun e3 w10 =>
            ∃ p9 : Option Addr,
            ∃ k18 : Nat,
            ∃ k19 : Nat,
            ∃ c5 : Bool,
            ∃ n18 : Int,
            ∃ p10 : Option Addr,
            ∃ k20 : Nat,
            ∃ k21 : Nat,
            ∃ n19 : Int,
            ∃ n20 : Int,
            (e3 = Ending.returned (Value.agg #[Value.slice p9 k18 k19, Value.bool c5, Value.int IntKind.i64 n18, Value.slice p10 k20 k21, Value.int IntKind.i64 n19, Value.int IntKind.i64 n20])) ∧
            (Keep ([k1]) w9 w10) ∧
            ∀ w11 : World,
            (Locl ([k1]) w10 w11) →
            I5 [Value.slice p9 k18 k19, Value.bool c5, Value.int IntKind.i64 n18, Value.slice p10 k20 k21, Value.int IntKind.i64 n19, Value.int IntKind.i64 n20] w11)
            (brB (n14 == 1)
              (Calls P F.ref04_Fixed #[] w9 fun e4 w12 =>
              ∃ p11 : Option Addr,
              ∃ k22 : Nat,
              ∃ k23 : Nat,
              ∃ p12 : Option Addr,
              ∃ k24 : Nat,
              ∃ k25 : Nat,
              (e4 = Ending.returned (Value.tuple #[Value.slice p11 k22 k23, Value.slice p12 k24 k25])) ∧
              (Keep ([k1]) w9 w12) ∧
              Calls P F.ref03_Tabled #[Value.slice p11 k22 k23] (w12.drew) fun e5 w13 =>
              ∃ l1 : List Value,
              (l1.length = 37) ∧
              (e5 = Ending.returned (Value.agg l1.toArray)) ∧
              (Keep ([k1]) (w12.drew) w13) ∧
              (Keeps (w12.drew) w13) ∧
              Calls P F.ref03_Tabled #[Value.slice p12 k24 k25] w13 fun e6 w14 =>
              ∃ l2 : List Value,
              (l2.length = 37) ∧
              (e6 = Ending.returned (Value.agg l2.toArray)) ∧
              (Keep ([k1]) w13 w14) ∧
              (Keeps w13 w14) ∧
              Calls P F.ref04_symbols #[Value.agg #[Value.slice p7 k14 k15, Value.bool c4, Value.int IntKind.i64 n15, Value.slice p8 k16 k17, Value.int IntKind.i64 n16, Value.int IntKind.i64 n17], Value.agg l1.toArray, Value.agg l2.toArray] w14 fun e7 w15 =>
              ∃ p13 : Option Addr,
              ∃ k26 : Nat,
              ∃ k27 : Nat,
              ∃ c6 : Bool,
              ∃ n21 : Int,
              ∃ p14 : Option Addr,
              ∃ k28 : Nat,
              ∃ k29 : Nat,
              ∃ n22 : Int,
              ∃ n23 : Int,
              (e7 = Ending.returned (Value.agg #[Value.slice p13 k26 k27, Value.bool c6, Value.int IntKind.i64 n21, Value.slice p14 k28 k29, Value.int IntKind.i64 n22, Value.int IntKind.i64 n23])) ∧
              (Keep ([k1]) w14 w15) ∧
              ∀ w16 : World,
              (Locl ([k1]) w15 w16) →
              I5 [Value.slice p13 k26 k27, Value.bool c6, Value.int IntKind.i64 n21, Value.slice p14 k28 k29, Value.int IntKind.i64 n22, Value.int IntKind.i64 n23] w16)
              (brB (n14 == 2)
                (Calls P F.ref04_tables #[Value.agg #[Value.slice p7 k14 k15, Value.bool c4, Value.int IntKind.i64 n15, Value.slice p8 k16 k17, Value.int IntKind.i64 n16, Value.int IntKind.i64 n17]] w9 fun e8 w17 =>
                ∃ p15 : Option Addr,
                ∃ k30 : Nat,
                ∃ k31 : Nat,
                ∃ c7 : Bool,
                ∃ n24 : Int,
                ∃ p16 : Option Addr,
                ∃ k32 : Nat,
                ∃ k33 : Nat,
                ∃ n25 : Int,
                ∃ n26 : Int,
                ∃ p17 : Option Addr,
                ∃ k34 : Nat,
                ∃ k35 : Nat,
                ∃ p18 : Option Addr,
                ∃ k36 : Nat,
                ∃ k37 : Nat,
                (e8 = Ending.returned (Value.tuple #[Value.agg #[Value.slice p15 k30 k31, Value.bool c7, Value.int IntKind.i64 n24, Value.slice p16 k32 k33, Value.int IntKind.i64 n25, Value.int IntKind.i64 n26], Value.slice p17 k34 k35, Value.slice p18 k36 k37])) ∧
                (Keep ([k1]) w9 w17) ∧
                brB (n26 == 0)
                  (∀ w18 : World,
                  (Locl ([k1]) w17 w18) →
                  Calls P F.ref03_Tabled #[Value.slice p17 k34 k35] w18 fun e9 w19 =>
                  ∃ l3 : List Value,
                  (l3.length = 37) ∧
                  (e9 = Ending.returned (Value.agg l3.toArray)) ∧
                  (Keep ([k1]) w18 w19) ∧
                  (Keeps w18 w19) ∧
                  Calls P F.ref03_Tabled #[Value.slice p18 k36 k37] w19 fun e10 w20 =>
                  ∃ l4 : List Value,
                  (l4.length = 37) ∧
                  (e10 = Ending.returned (Value.agg l4.toArray)) ∧
                  (Keep ([k1]) w19 w20) ∧
                  (Keeps w19 w20) ∧
                  Calls P F.ref04_symbols #[Value.agg #[Value.slice p15 k30 k31, Value.bool c7, Value.int IntKind.i64 n24, Value.slice p16 k32 k33, Value.int IntKind.i64 n25, Value.int IntKind.i64 n26], Value.agg l3.toArray, Value.agg l4.toArray] w20 fun e11 w21 =>
                  ∃ p19 : Option Addr,
                  ∃ k38 : Nat,
                  ∃ k39 : Nat,
                  ∃ c8 : Bool,
                  ∃ n27 : Int,
                  ∃ p20 : Option Addr,
                  ∃ k40 : Nat,
                  ∃ k41 : Nat,
                  ∃ n28 : Int,
                  ∃ n29 : Int,
                  (e11 = Ending.returned (Value.agg #[Value.slice p19 k38 k39, Value.bool c8, Value.int IntKind.i64 n27, Value.slice p20 k40 k41, Value.int IntKind.i64 n28, Value.int IntKind.i64 n29])) ∧
                  (Keep ([k1]) w20 w21) ∧
                  ∀ w22 : World,
                  (Locl ([k1]) w21 w22) →
                  I5 [Value.slice p19 k38 k39, Value.bool c8, Value.int IntKind.i64 n27, Value.slice p20 k40 k41, Value.int IntKind.i64 n28, Value.int IntKind.i64 n29] w22)
                  (∀ w23 : World,
                  (Locl ([k1]) w17 w23) →
                  I5 [Value.slice p15 k30 k31, Value.bool c7, Value.int IntKind.i64 n24, Value.slice p16 k32 k33, Value.int IntKind.i64 n25, Value.int IntKind.i64 n26] w23))
                (∀ w24 : World,
                (Locl ([k1]) w9 w24) →
                I5 [Value.slice p7 k14 k15, Value.bool c4, Value.int IntKind.i64 n15, Value.slice p8 k16 k17, Value.int IntKind.i64 n16, Value.int IntKind.i64 40] w24)))) ∧
        ∀ p21 : Option Addr,
        ∀ k42 : Nat,
        ∀ k43 : Nat,
        ∀ c9 : Bool,
        ∀ n30 : Int,
        ∀ p22 : Option Addr,
        ∀ k44 : Nat,
        ∀ k45 : Nat,
        ∀ n31 : Int,
        ∀ n32 : Int,
        ∀ w25 : World,
        (I5 [Value.slice p21 k42 k43, Value.bool c9, Value.int IntKind.i64 n30, Value.slice p22 k44 k45, Value.int IntKind.i64 n31, Value.int IntKind.i64 n32] w25) →
        (I3 [Value.int IntKind.i64 n9, Value.slice p21 k42 k43, Value.bool c9, Value.int IntKind.i64 n30, Value.slice p22 k44 k45, Value.int IntKind.i64 n31, Value.int IntKind.i64 n32] w25) ∧
        m1 [Value.int IntKind.i64 n9, Value.slice p21 k42 k43, Value.bool c9, Value.int IntKind.i64 n30, Value.slice p22 k44 k45, Value.int IntKind.i64 n31, Value.int IntKind.i64 n32] w25 < m1 [Value.int IntKind.i64 n2, Value.slice p1 k2 k3, Value.bool c1, Value.int IntKind.i64 n3, Value.slice p2 k4 k5, Value.int IntKind.i64 n4, Value.int IntKind.i64 n5] w3))
      (I2 [Value.slice p1 k2 k3, Value.bool c1, Value.int IntKind.i64 n3, Value.slice p2 k4 k5, Value.int IntKind.i64 n4, Value.int IntKind.i64 n5] w3)) ∧
  ∀ p23 : Option Addr,
  ∀ k46 : Nat,
  ∀ k47 : Nat,
  ∀ c10 : Bool,
  ∀ n33 : Int,
  ∀ p24 : Option Addr,
  ∀ k48 : Nat,
  ∀ k49 : Nat,
  ∀ n34 : Int,
  ∀ n35 : Int,
  ∀ w26 : World,
  (I2 [Value.slice p23 k46 k47, Value.bool c10, Value.int IntKind.i64 n33, Value.slice p24 k48 k49, Value.int IntKind.i64 n34, Value.int IntKind.i64 n35] w26) →
  brB (n35 != 0)
    (R (Ending.returned (Value.tuple #[Value.slice none 0 0, Value.int IntKind.i64 0, Value.int IntKind.i64 n35])) w26.drew)
    (R (Ending.returned (Value.tuple #[Value.slice p24 k48 k49, Value.int IntKind.i64 (divZ BinOp.quo IntKind.i64 (IntKind.i64.wrap (n33 + 7)) 8), Value.int IntKind.i64 0])) w26.drew)
theorem calls_ref04_Raw (sa1 : Option Addr) (sl1 sc1 : Nat) (x1 : Int) (w : World) (R : Ending → World → Prop) (h : vc_ref04_Raw sa1 sl1 sc1 x1 w R) : Calls P F.ref04_Raw #[.slice sa1 sl1 sc1, .int .i64 x1] w R :=
  calls_of_vc (fn := Try.f12) (ac := ac_ref04_Raw) (args := [.slice sa1 sl1 sc1, .int .i64 x1]) mixed Try.func12 (by kernel_rfl) (cast (by unfold vc_ref04_Raw FnVc; kernel_rfl) h)
/-- darkroom/darkroomref01.Same -/
def vc_ref01_Same (sa1 : Option Addr) (sl1 sc1 : Nat) (sa2 : Option Addr) (sl2 sc2 : Nat) (w : World) (R : Ending → World → Prop) : Prop :=
  brB ((↑sl1 : Int) != (↑sl2 : Int))
    (R (Ending.returned (Value.bool false)) w)
    (∃ I1 : List Value → World → Prop,
    ∃ m1 : List Value → World → Nat,
    (I1 [Value.int IntKind.i64 0] w) ∧
    ∀ n1 : Int,
    ∀ w1 : World,
    (I1 [Value.int IntKind.i64 n1] w1) →
    brB (decide (n1 < (↑sl1 : Int)))
      (idx (sa1) (sl1) (n1) (1) fun a1 =>
      ∃ n2 : Int,
      (w1.drew.cell? a1 = some (Value.int IntKind.u8 n2)) ∧
      idx (sa2) (sl2) (n1) (1) fun a2 =>
      ∃ n3 : Int,
      (w1.drew.cell? a2 = some (Value.int IntKind.u8 n3)) ∧
      brB (n2 != n3)
        (R (Ending.returned (Value.bool false)) w1.drew)
        ((I1 [Value.int IntKind.i64 (IntKind.i64.wrap (n1 + 1))] w1.drew) ∧
        m1 [Value.int IntKind.i64 (IntKind.i64.wrap (n1 + 1))] w1.drew < m1 [Value.int IntKind.i64 n1] w1))
      (R (Ending.returned (Value.bool true)) w1))
theorem calls_ref01_Same (sa1 : Option Addr) (sl1 sc1 : Nat) (sa2 : Option Addr) (sl2 sc2 : Nat) (w : World) (R : Ending → World → Prop) (h : vc_ref01_Same sa1 sl1 sc1 sa2 sl2 sc2 w R) : Calls P F.ref01_Same #[.slice sa1 sl1 sc1, .slice sa2 sl2 sc2] w R :=
  calls_of_vc (fn := Try.f13) (ac := ac_ref01_Same) (args := [.slice sa1 sl1 sc1, .slice sa2 sl2 sc2]) mixed Try.func13 (by kernel_rfl) (cast (by unfold vc_ref01_Same FnVc; kernel_rfl) h)
/-- darkroom/inflate.Zlib -/
def vc_inflate_Zlib (sa1 : Option Addr) (sl1 sc1 : Nat) (x1 : Int) (w : World) (R : Ending → World → Prop) : Prop :=
  brB (decide ((↑sl1 : Int) < 2))
    (R (Ending.returned (Value.tuple #[Value.slice none 0 0, Value.int IntKind.i64 5])) w)
    (idx (sa1) (sl1) (0) (1) fun a1 =>
    ∃ n1 : Int,
    (w.drew.cell? a1 = some (Value.int IntKind.u8 n1)) ∧
    brB (IntKind.u8.wrap (bitsZ BinOp.and IntKind.u8 n1 15) != 8)
      (R (Ending.returned (Value.tuple #[Value.slice none 0 0, Value.int IntKind.i64 43])) w.drew)
      (idx (sa1) (sl1) (0) (1) fun a2 =>
      ∃ n2 : Int,
      (w.drew.cell? a2 = some (Value.int IntKind.u8 n2)) ∧
      brB (decide (shiftZ BinOp.shr IntKind.u8 n2 4 > 7))
        (R (Ending.returned (Value.tuple #[Value.slice none 0 0, Value.int IntKind.i64 43])) w.drew)
        (idx (sa1) (sl1) (0) (1) fun a3 =>
        ∃ n3 : Int,
        (w.drew.cell? a3 = some (Value.int IntKind.u8 n3)) ∧
        idx (sa1) (sl1) (1) (1) fun a4 =>
        ∃ n4 : Int,
        (w.drew.cell? a4 = some (Value.int IntKind.u8 n4)) ∧
        brB (divZ BinOp.rem IntKind.i64 (IntKind.i64.wrap (bitsZ BinOp.or IntKind.i64 (shiftZ BinOp.shl IntKind.i64 (IntKind.i64.wrap n3) 8) (IntKind.i64.wrap n4))) 31 != 0)
          (R (Ending.returned (Value.tuple #[Value.slice none 0 0, Value.int IntKind.i64 43])) w.drew)
          (idx (sa1) (sl1) (1) (1) fun a5 =>
          ∃ n5 : Int,
          (w.drew.cell? a5 = some (Value.int IntKind.u8 n5)) ∧
          brB (IntKind.u8.wrap (bitsZ BinOp.and IntKind.u8 n5 32) != 0)
            (R (Ending.returned (Value.tuple #[Value.slice none 0 0, Value.int IntKind.i64 43])) w.drew)
            (slcc (sa1) (sc1) (2) ((↑sl1 : Int)) (1) fun p1 k1 k2 =>
            Calls P F.inflate_Raw #[Value.slice p1 k1 k2, Value.int IntKind.i64 x1] (w.drew) fun e1 w1 =>
            ∃ p2 : Option Addr,
            ∃ k3 : Nat,
            ∃ k4 : Nat,
            ∃ n6 : Int,
            ∃ n7 : Int,
            (e1 = Ending.returned (Value.tuple #[Value.slice p2 k3 k4, Value.int IntKind.i64 n6, Value.int IntKind.i64 n7])) ∧
            brB (n7 != 0)
              (R (Ending.returned (Value.tuple #[Value.slice none 0 0, Value.int IntKind.i64 n7])) w1)
              (Calls P F.bits_Get #[Value.slice sa1 sl1 sc1, Value.int IntKind.i64 (IntKind.i64.wrap (2 + n6)), Value.int IntKind.i64 4, Value.bool true] w1 fun e2 w2 =>
              ∃ n8 : Int,
              ∃ n9 : Int,
              (e2 = Ending.returned (Value.tuple #[Value.int IntKind.u32 n8, Value.int IntKind.i64 n9])) ∧
              brB (n9 != 0)
                (R (Ending.returned (Value.tuple #[Value.slice none 0 0, Value.int IntKind.i64 5])) w2)
                (Calls P F.sums_Adler #[Value.slice p2 k3 k4] w2 fun e3 w3 =>
                ∃ n10 : Int,
                (e3 = Ending.returned (Value.int IntKind.u32 n10)) ∧
                brB (n8 != n10)
                  (R (Ending.returned (Value.tuple #[Value.slice none 0 0, Value.int IntKind.i64 44])) w3)
                  (R (Ending.returned (Value.tuple #[Value.slice p2 k3 k4, Value.int IntKind.i64 0])) w3))))))))
theorem calls_inflate_Zlib (sa1 : Option Addr) (sl1 sc1 : Nat) (x1 : Int) (w : World) (R : Ending → World → Prop) (h : vc_inflate_Zlib sa1 sl1 sc1 x1 w R) : Calls P F.inflate_Zlib #[.slice sa1 sl1 sc1, .int .i64 x1] w R :=
  calls_of_vc (fn := Try.f14) (ac := ac_inflate_Zlib) (args := [.slice sa1 sl1 sc1, .int .i64 x1]) mixed Try.func14 (by kernel_rfl) (cast (by unfold vc_inflate_Zlib FnVc; kernel_rfl) h)
/-- darkroom/darkroomref04.Zlib -/
def vc_ref04_Zlib (sa1 : Option Addr) (sl1 sc1 : Nat) (x1 : Int) (w : World) (R : Ending → World → Prop) : Prop :=
  brB (decide ((↑sl1 : Int) < 2))
    (R (Ending.returned (Value.tuple #[Value.slice none 0 0, Value.int IntKind.i64 5])) w)
    (idx (sa1) (sl1) (0) (1) fun a1 =>
    ∃ n1 : Int,
    (w.drew.cell? a1 = some (Value.int IntKind.u8 n1)) ∧
    brB (divZ BinOp.rem IntKind.u8 n1 16 != 8)
      (R (Ending.returned (Value.tuple #[Value.slice none 0 0, Value.int IntKind.i64 43])) w.drew)
      (idx (sa1) (sl1) (0) (1) fun a2 =>
      ∃ n2 : Int,
      (w.drew.cell? a2 = some (Value.int IntKind.u8 n2)) ∧
      brB (decide (divZ BinOp.quo IntKind.u8 n2 16 > 7))
        (R (Ending.returned (Value.tuple #[Value.slice none 0 0, Value.int IntKind.i64 43])) w.drew)
        (idx (sa1) (sl1) (0) (1) fun a3 =>
        ∃ n3 : Int,
        (w.drew.cell? a3 = some (Value.int IntKind.u8 n3)) ∧
        idx (sa1) (sl1) (1) (1) fun a4 =>
        ∃ n4 : Int,
        (w.drew.cell? a4 = some (Value.int IntKind.u8 n4)) ∧
        brB (divZ BinOp.rem IntKind.i64 (IntKind.i64.wrap (IntKind.i64.wrap (256 * IntKind.i64.wrap n3) + IntKind.i64.wrap n4)) 31 != 0)
          (R (Ending.returned (Value.tuple #[Value.slice none 0 0, Value.int IntKind.i64 43])) w.drew)
          (idx (sa1) (sl1) (1) (1) fun a5 =>
          ∃ n5 : Int,
          (w.drew.cell? a5 = some (Value.int IntKind.u8 n5)) ∧
          brB (divZ BinOp.rem IntKind.u8 (divZ BinOp.quo IntKind.u8 n5 32) 2 == 1)
            (R (Ending.returned (Value.tuple #[Value.slice none 0 0, Value.int IntKind.i64 43])) w.drew)
            (slcc (sa1) (sc1) (2) ((↑sl1 : Int)) (1) fun p1 k1 k2 =>
            Calls P F.ref04_Raw #[Value.slice p1 k1 k2, Value.int IntKind.i64 x1] (w.drew) fun e1 w1 =>
            ∃ p2 : Option Addr,
            ∃ k3 : Nat,
            ∃ k4 : Nat,
            ∃ n6 : Int,
            ∃ n7 : Int,
            (e1 = Ending.returned (Value.tuple #[Value.slice p2 k3 k4, Value.int IntKind.i64 n6, Value.int IntKind.i64 n7])) ∧
            brB (n7 != 0)
              (R (Ending.returned (Value.tuple #[Value.slice none 0 0, Value.int IntKind.i64 n7])) w1)
              (Calls P F.ref01_Get #[Value.slice sa1 sl1 sc1, Value.int IntKind.i64 (IntKind.i64.wrap (2 + n6)), Value.int IntKind.i64 4, Value.bool true] w1 fun e2 w2 =>
              ∃ n8 : Int,
              ∃ n9 : Int,
              (e2 = Ending.returned (Value.tuple #[Value.int IntKind.u32 n8, Value.int IntKind.i64 n9])) ∧
              brB (n9 != 0)
                (R (Ending.returned (Value.tuple #[Value.slice none 0 0, Value.int IntKind.i64 5])) w2)
                (Calls P F.ref02_Adler #[Value.slice p2 k3 k4] w2 fun e3 w3 =>
                ∃ n10 : Int,
                (e3 = Ending.returned (Value.int IntKind.u32 n10)) ∧
                brB (n8 != n10)
                  (R (Ending.returned (Value.tuple #[Value.slice none 0 0, Value.int IntKind.i64 44])) w3)
                  (R (Ending.returned (Value.tuple #[Value.slice p2 k3 k4, Value.int IntKind.i64 0])) w3))))))))
theorem calls_ref04_Zlib (sa1 : Option Addr) (sl1 sc1 : Nat) (x1 : Int) (w : World) (R : Ending → World → Prop) (h : vc_ref04_Zlib sa1 sl1 sc1 x1 w R) : Calls P F.ref04_Zlib #[.slice sa1 sl1 sc1, .int .i64 x1] w R :=
  calls_of_vc (fn := Try.f15) (ac := ac_ref04_Zlib) (args := [.slice sa1 sl1 sc1, .int .i64 x1]) mixed Try.func15 (by kernel_rfl) (cast (by unfold vc_ref04_Zlib FnVc; kernel_rfl) h)
/-- darkroom/darkroomref02.Adler -/
def vc_ref02_Adler (sa1 : Option Addr) (sl1 sc1 : Nat) (w : World) (R : Ending → World → Prop) : Prop :=
  Calls P F.ref02_AdlerOn #[Value.int IntKind.u32 1, Value.slice sa1 sl1 sc1] w fun e1 w1 =>
  ∃ n1 : Int,
  (e1 = Ending.returned (Value.int IntKind.u32 n1)) ∧
  R (Ending.returned (Value.int IntKind.u32 n1)) w1
theorem calls_ref02_Adler (sa1 : Option Addr) (sl1 sc1 : Nat) (w : World) (R : Ending → World → Prop) (h : vc_ref02_Adler sa1 sl1 sc1 w R) : Calls P F.ref02_Adler #[.slice sa1 sl1 sc1] w R :=
  calls_of_vc (fn := Try.f16) (ac := ac_ref02_Adler) (args := [.slice sa1 sl1 sc1]) mixed Try.func16 (by kernel_rfl) (cast (by unfold vc_ref02_Adler FnVc; kernel_rfl) h)
/-- darkroom/bits.NewReader -/
def vc_bits_NewReader (sa1 : Option Addr) (sl1 sc1 : Nat) (b1 : Bool) (w : World) (R : Ending → World → Prop) : Prop :=
  Calls P F.slices_Clone_byte #[Value.slice sa1 sl1 sc1] w fun e1 w1 =>
  ∃ p1 : Option Addr,
  ∃ k1 : Nat,
  ∃ k2 : Nat,
  (e1 = Ending.returned (Value.slice p1 k1 k2)) ∧
  Calls P F.bits_order #[Value.bool b1] w1 fun e2 w2 =>
  ∃ y1 : FuncId,
  ∃ y2 : Array Value,
  ∃ y3 : Array Value,
  (e2 = Ending.returned (Value.func (Fn.func y1) y2 y3)) ∧
  ∀ k3 : Nat,
  ∀ w3 : World,
  (New w2 (Obj.cells #[Value.slice p1 k1 k2, Value.int IntKind.i64 0, Value.bool b1, Value.func (Fn.func y1) y2 y3] 82) k3 w3) →
  R (Ending.returned (Value.pointer (some { block := k3, off := 0 }))) w3
theorem calls_bits_NewReader (sa1 : Option Addr) (sl1 sc1 : Nat) (b1 : Bool) (w : World) (R : Ending → World → Prop) (h : vc_bits_NewReader sa1 sl1 sc1 b1 w R) : Calls P F.bits_NewReader #[.slice sa1 sl1 sc1, .bool b1] w R :=
  calls_of_vc (fn := Try.f17) (ac := ac_bits_NewReader) (args := [.slice sa1 sl1 sc1, .bool b1]) mixed Try.func17 (by kernel_rfl) (cast (by unfold vc_bits_NewReader FnVc; kernel_rfl) h)
/-- darkroom/inflate.Raw$1 -/
def vc_inflate_Raw_fn1 (fr1 : Addr) (fr2 : Addr) (fr3 : Addr) (rv : Value) (w : World) (R : Ending → World → Prop) : Prop :=
  (isIfV rv = true) ∧
  brB (!isNilI rv)
    (((∃ n1 : Int,
      (rv = Value.iface 49 (Value.agg #[Value.int IntKind.i64 n1])) ∧
      ∀ k1 : Nat,
      (w.heap.size ≤ k1) →
      ∀ w1 : World,
      (Locl ([k1]) w w1) →
      (∃ v1 : Value,
        w1.cell? fr1 = some v1) ∧
      (w1.frozen? fr1 = false) ∧
      (¬fr1.block ∈ [k1]) ∧
      (∃ v2 : Value,
        (setCells w1 fr1 [Value.slice none 0 0] 0).cell? fr2 = some v2) ∧
      ((setCells w1 fr1 [Value.slice none 0 0] 0).frozen? fr2 = false) ∧
      (¬fr2.block ∈ [k1]) ∧
      (∃ v3 : Value,
        (setCells (setCells w1 fr1 [Value.slice none 0 0] 0) fr2 [Value.int IntKind.i64 0] 0).cell? fr3 = some v3) ∧
      ((setCells (setCells w1 fr1 [Value.slice none 0 0] 0) fr2 [Value.int IntKind.i64 0] 0).frozen? fr3 = false) ∧
      (¬fr3.block ∈ [k1]) ∧
      R (Ending.returned (Value.tuple #[])) (setCells (setCells (setCells w1 fr1 [Value.slice none 0 0] 0) fr2 [Value.int IntKind.i64 0] 0) fr3 [Value.int IntKind.i64 n1] 0)) ∨
    ((isIfV rv = true) ∧
      (∀ v4 : Value,
        rv ≠ Value.iface 49 v4) ∧
      ∀ k2 : Nat,
      (w.heap.size ≤ k2) →
      (∃ y1 : TypeId,
        ∃ v5 : Value,
        rv = Value.iface y1 v5) ∧
      ∀ w2 : World,
      (Locl ([k2]) w w2) →
      R (Ending.panicked [{ v := rv, recovered := false }]) w2)))
    (R (Ending.returned (Value.tuple #[])) w)
theorem off_inflate_Raw_fn1 (fr1 : Addr) (fr2 : Addr) (fr3 : Addr) (rv : Value) (w : World) (R : Ending → World → Prop) (h : vc_inflate_Raw_fn1 fr1 fr2 fr3 rv w R) : CallsOff P F.inflate_Raw_fn1 [.pointer (some fr1), .pointer (some fr2), .pointer (some fr3)] rv w R := fun u hu => by
  subst hu
  exact calls_of_vcR (fn := Try.f18) (ac := ac_inflate_Raw_fn1) (args := [.pointer (some fr1), .pointer (some fr2), .pointer (some fr3)]) mixed Try.func18 (by kernel_rfl) (cast (by unfold vc_inflate_Raw_fn1 FnVcR; kernel_rfl) h)
/-- (*darkroom/inflate.reader).take -/
def vc_inflate_reader_take (q1 : Option Addr) (x1 : Int) (w : World) (R : Ending → World → Prop) : Prop :=
  nn (q1) fun a1 =>
  ∃ p1 : Option Addr,
  (w.cell? a1 = some (Value.pointer p1)) ∧
  Calls P F.bits_Reader_Take #[Value.pointer p1, Value.int IntKind.i64 x1] w fun e1 w1 =>
  ∃ n1 : Int,
  ∃ n2 : Int,
  (e1 = Ending.returned (Value.tuple #[Value.int IntKind.u32 n1, Value.int IntKind.i64 n2])) ∧
  Calls P F.inflate_must #[Value.int IntKind.i64 n2] w1 fun e2 w2 =>
  (((e2 = Ending.returned (Value.tuple #[])) ∧
    R (Ending.returned (Value.int IntKind.i64 (IntKind.i64.wrap n1))) w2) ∨
  (∃ l1 : List PanicEntry,
    (e2 = Ending.panicked l1) ∧
    R (Ending.panicked l1) w2))
theorem calls_inflate_reader_take (q1 : Option Addr) (x1 : Int) (w : World) (R : Ending → World → Prop) (h : vc_inflate_reader_take q1 x1 w R) : Calls P F.inflate_reader_take #[.pointer q1, .int .i64 x1] w R :=
  calls_of_vc (fn := Try.f19) (ac := ac_inflate_reader_take) (args := [.pointer q1, .int .i64 x1]) mixed Try.func19 (by kernel_rfl) (cast (by unfold vc_inflate_reader_take FnVc; kernel_rfl) h)
/-- (*darkroom/inflate.reader).stored -/
def vc_inflate_reader_stored (q1 : Option Addr) (w : World) (R : Ending → World → Prop) : Prop :=
  nn (q1) fun a1 =>
  ∃ p1 : Option Addr,
  (w.cell? a1 = some (Value.pointer p1)) ∧
  Calls P F.bits_Reader_Align #[Value.pointer p1] w fun e1 w1 =>
  (e1 = Ending.returned (Value.tuple #[])) ∧
  Calls P F.inflate_reader_take #[Value.pointer q1, Value.int IntKind.i64 16] w1 fun e2 w2 =>
  ((∃ n1 : Int,
    (e2 = Ending.returned (Value.int IntKind.i64 n1)) ∧
    Calls P F.inflate_reader_take #[Value.pointer q1, Value.int IntKind.i64 16] w2 fun e3 w3 =>
    ((∃ n2 : Int,
      (e3 = Ending.returned (Value.int IntKind.i64 n2)) ∧
      brB (n2 != IntKind.i64.wrap (bitsZ BinOp.xor IntKind.i64 n1 65535))
        ((∃ y1 : TypeId,
          ∃ v1 : Value,
          Value.iface 49 (Value.agg #[Value.int IntKind.i64 40]) = Value.iface y1 v1) ∧
        R (Ending.panicked [{ v := Value.iface 49 (Value.agg #[Value.int IntKind.i64 40]), recovered := false }]) w3)
        (Calls P F.inflate_reader_room #[Value.pointer q1, Value.int IntKind.i64 n1] w3 fun e4 w4 =>
        (((e4 = Ending.returned (Value.tuple #[])) ∧
          nn (q1) fun a2 =>
          ∃ p2 : Option Addr,
          (w4.cell? a2 = some (Value.pointer p2)) ∧
          Calls P F.bits_Reader_Bytes #[Value.pointer p2, Value.int IntKind.i64 n1] w4 fun e5 w5 =>
          ∃ p3 : Option Addr,
          ∃ k1 : Nat,
          ∃ k2 : Nat,
          ∃ n3 : Int,
          (e5 = Ending.returned (Value.tuple #[Value.slice p3 k1 k2, Value.int IntKind.i64 n3])) ∧
          Calls P F.inflate_must #[Value.int IntKind.i64 n3] w5 fun e6 w6 =>
          (((e6 = Ending.returned (Value.tuple #[])) ∧
            nn (q1) fun a3 =>
            ∃ p4 : Option Addr,
            ∃ k3 : Nat,
            ∃ k4 : Nat,
            (w6.cell? (a3.add 1) = some (Value.slice p4 k3 k4)) ∧
            ∃ l1 : List Value,
            (l1.length = k1 * 1) ∧
            (oneAll l1 = true) ∧
            (CellsAre w6 p3 l1) ∧
            appVC (w6) ([]) (p4) (k3) (k4) (k1) (1) (1) (5) ([Value.int IntKind.u8 0]) (l1) fun p5 k5 k6 w7 =>
            nn (q1) fun a4 =>
            (∃ v2 : Value,
              w7.cell? (a4.add 1) = some v2) ∧
            (w7.frozen? (a4.add 1) = false) ∧
            R (Ending.returned (Value.tuple #[])) (setCells w7 (a4.add 1) [Value.slice p5 k5 k6] 0)) ∨
          (∃ l2 : List PanicEntry,
            (e6 = Ending.panicked l2) ∧
            R (Ending.panicked l2) w6))) ∨
        (∃ l3 : List PanicEntry,
          (e4 = Ending.panicked l3) ∧
          R (Ending.panicked l3) w4)))) ∨
    (∃ l4 : List PanicEntry,
      (e3 = Ending.panicked l4) ∧
      R (Ending.panicked l4) w3))) ∨
  (∃ l5 : List PanicEntry,
    (e2 = Ending.panicked l5) ∧
    R (Ending.panicked l5) w2))
theorem calls_inflate_reader_stored (q1 : Option Addr) (w : World) (R : Ending → World → Prop) (h : vc_inflate_reader_stored q1 w R) : Calls P F.inflate_reader_stored #[.pointer q1] w R :=
  calls_of_vc (fn := Try.f20) (ac := ac_inflate_reader_stored) (args := [.pointer q1]) mixed Try.func20 (by kernel_rfl) (cast (by unfold vc_inflate_reader_stored FnVc; kernel_rfl) h)
/-- (*darkroom/inflate.reader).symbols -/
def vc_inflate_reader_symbols (q1 : Option Addr) (q2 : Option Addr) (q3 : Option Addr) (w : World) (R : Ending → World → Prop) : Prop :=
  ∃ I1 : List Value → World → Prop,
  ∃ m1 : List Value → World → Nat,
  (I1 [] w) ∧
  ∀ w1 : World,
  (I1 [] w1) →
  ∃ I2 : List Value → World → Prop,
  (Calls P F.inflate_reader_next #[Value.pointer q1, Value.pointer q2] w1 fun e1 w2 =>
    ((∃ n1 : Int,
      (e1 = Ending.returned (Value.int IntKind.i64 n1)) ∧
      brB (n1 == 256)
        (R (Ending.returned (Value.tuple #[])) w2)
        (brB (decide (n1 < 256))
          (Calls P F.inflate_reader_room #[Value.pointer q1, Value.int IntKind.i64 1] w2 fun e2 w3 =>
          (((e2 = Ending.returned (Value.tuple #[])) ∧
            nn (q1) fun a1 =>
            ∃ p1 : Option Addr,
            ∃ k1 : Nat,
            ∃ k2 : Nat,
            (w3.cell? (a1.add 1) = some (Value.slice p1 k1 k2)) ∧
            ∀ k3 : Nat,
            (w3.heap.size ≤ k3) →
            ∀ w4 : World,
            (Locl ([k3]) w3 w4) →
            appVC (w4) ([(29, k3, [Value.int IntKind.u8 (IntKind.u8.wrap n1)])]) (p1) (k1) (k2) (1) (1) (1) (5) ([Value.int IntKind.u8 0]) ([Value.int IntKind.u8 (IntKind.u8.wrap n1)]) fun p2 k4 k5 w5 =>
            nn (q1) fun a2 =>
            (∃ v1 : Value,
              w5.cell? (a2.add 1) = some v1) ∧
            (w5.frozen? (a2.add 1) = false) ∧
            (¬(a2.add 1).block ∈ [k3]) ∧
            I2 [] (setCells w5 (a2.add 1) [Value.slice p2 k4 k5] 0)) ∨
          (∃ l1 : List PanicEntry,
            (e2 = Ending.panicked l1) ∧
            R (Ending.panicked l1) w3)))
          (brB (decide (n1 > 285))
            ((∃ y1 : TypeId,
              ∃ v2 : Value,
              Value.iface 49 (Value.agg #[Value.int IntKind.i64 32]) = Value.iface y1 v2) ∧
            R (Ending.panicked [{ v := Value.iface 49 (Value.agg #[Value.int IntKind.i64 32]), recovered := false }]) w2)
            (Calls P F.inflate_groups #[Value.int IntKind.i64 (IntKind.i64.wrap (n1 - 257)), Value.int IntKind.i64 4, Value.int IntKind.i64 3] w2 fun e3 w6 =>
            ∃ n2 : Int,
            ∃ n3 : Int,
            (e3 = Ending.returned (Value.tuple #[Value.int IntKind.i64 n2, Value.int IntKind.i64 n3])) ∧
            ∃ I3 : List Value → World → Prop,
            (brB (n1 == 285)
                (I3 [Value.int IntKind.i64 258, Value.int IntKind.i64 0] w6)
                (I3 [Value.int IntKind.i64 n2, Value.int IntKind.i64 n3] w6)) ∧
            ∀ n4 : Int,
            ∀ n5 : Int,
            ∀ w7 : World,
            (I3 [Value.int IntKind.i64 n4, Value.int IntKind.i64 n5] w7) →
            Calls P F.inflate_reader_take #[Value.pointer q1, Value.int IntKind.i64 n5] w7 fun e4 w8 =>
            ((∃ n6 : Int,
              (e4 = Ending.returned (Value.int IntKind.i64 n6)) ∧
              Calls P F.inflate_reader_next #[Value.pointer q1, Value.pointer q3] w8 fun e5 w9 =>
              ((∃ n7 : Int,
                (e5 = Ending.returned (Value.int IntKind.i64 n7)) ∧
                brB (decide (n7 > 29))
                  ((∃ y2 : TypeId,
                    ∃ v3 : Value,
                    Value.iface 49 (Value.agg #[Value.int IntKind.i64 32]) = Value.iface y2 v3) ∧
                  R (Ending.panicked [{ v := Value.iface 49 (Value.agg #[Value.int IntKind.i64 32]), recovered := false }]) w9)
                  (Calls P F.inflate_groups #[Value.int IntKind.i64 n7, Value.int IntKind.i64 2, Value.int IntKind.i64 1] w9 fun e6 w10 =>
                  ∃ n8 : Int,
                  ∃ n9 : Int,
                  (e6 = Ending.returned (Value.tuple #[Value.int IntKind.i64 n8, Value.int IntKind.i64 n9])) ∧
                  Calls P F.inflate_reader_take #[Value.pointer q1, Value.int IntKind.i64 n9] w10 fun e7 w11 =>
                  ((∃ n10 : Int,
                    (e7 = Ending.returned (Value.int IntKind.i64 n10)) ∧
                    nn (q1) fun a3 =>
                    ∃ p3 : Option Addr,
                    ∃ k6 : Nat,
                    ∃ k7 : Nat,
                    (w11.cell? (a3.add 1) = some (Value.slice p3 k6 k7)) ∧
                    brB (decide (IntKind.i64.wrap (n8 + n10) > (↑k6 : Int)))
                      ((∃ y3 : TypeId,
                        ∃ v4 : Value,
                        Value.iface 49 (Value.agg #[Value.int IntKind.i64 42]) = Value.iface y3 v4) ∧
                      R (Ending.panicked [{ v := Value.iface 49 (Value.agg #[Value.int IntKind.i64 42]), recovered := false }]) w11)
                      (Calls P F.inflate_reader_room #[Value.pointer q1, Value.int IntKind.i64 (IntKind.i64.wrap (n4 + n6))] w11 fun e8 w12 =>
                      (((e8 = Ending.returned (Value.tuple #[])) ∧
                        ∃ I4 : List Value → World → Prop,
                        ∃ m2 : List Value → World → Nat,
                        (I4 [Value.int IntKind.i64 0] w12) ∧
                        ∀ n11 : Int,
                        ∀ w13 : World,
                        (I4 [Value.int IntKind.i64 n11] w13) →
                        brB (decide (n11 < IntKind.i64.wrap (n4 + n6)))
                          (nn (q1) fun a4 =>
                          ∃ p4 : Option Addr,
                          ∃ k8 : Nat,
                          ∃ k9 : Nat,
                          (w13.drew.cell? (a4.add 1) = some (Value.slice p4 k8 k9)) ∧
                          nn (q1) fun a5 =>
                          ∃ p5 : Option Addr,
                          ∃ k10 : Nat,
                          ∃ k11 : Nat,
                          (w13.drew.cell? (a5.add 1) = some (Value.slice p5 k10 k11)) ∧
                          nn (q1) fun a6 =>
                          ∃ p6 : Option Addr,
                          ∃ k12 : Nat,
                          ∃ k13 : Nat,
                          (w13.drew.cell? (a6.add 1) = some (Value.slice p6 k12 k13)) ∧
                          idx (p5) (k10) (IntKind.i64.wrap ((↑k12 : Int) - IntKind.i64.wrap (n8 + n10))) (1) fun a7 =>
                          ∃ n12 : Int,
                          (w13.drew.cell? a7 = some (Value.int IntKind.u8 n12)) ∧
                          ∀ k14 : Nat,
                          (w13.drew.heap.size ≤ k14) →
                          ∀ w14 : World,
                          (Locl ([k14]) (w13.drew) w14) →
                          appVC (w14) ([(101, k14, [Value.int IntKind.u8 n12])]) (p4) (k8) (k9) (1) (1) (1) (5) ([Value.int IntKind.u8 0]) ([Value.int IntKind.u8 n12]) fun p7 k15 k16 w15 =>
                          nn (q1) fun a8 =>
                          (∃ v5 : Value,
                            w15.cell? (a8.add 1) = some v5) ∧
                          (w15.frozen? (a8.add 1) = false) ∧
                          (¬(a8.add 1).block ∈ [k14]) ∧
                          (I4 [Value.int IntKind.i64 (IntKind.i64.wrap (n11 + 1))] (setCells w15 (a8.add 1) [Value.slice p7 k15 k16] 0)) ∧
                          m2 [Value.int IntKind.i64 (IntKind.i64.wrap (n11 + 1))] (setCells w15 (a8.add 1) [Value.slice p7 k15 k16] 0) < m2 [Value.int IntKind.i64 n11] w13)
                          (I2 [] w13)) ∨
                      (∃ l2 : List PanicEntry,
                        (e8 = Ending.panicked l2) ∧
                        R (Ending.panicked l2) w12)))) ∨
                  (∃ l3 : List PanicEntry,
                    (e7 = Ending.panicked l3) ∧
                    R (Ending.panicked l3) w11)))) ∨
              (∃ l4 : List PanicEntry,
                (e5 = Ending.panicked l4) ∧
                R (Ending.panicked l4) w9))) ∨
            (∃ l5 : List PanicEntry,
              (e4 = Ending.panicked l5) ∧
              R (Ending.panicked l5) w8)))))) ∨
    (∃ l6 : List PanicEntry,
      (e1 = Ending.panicked l6) ∧
      R (Ending.panicked l6) w2))) ∧
  ∀ w16 : World,
  (I2 [] w16) →
  (I1 [] w16) ∧
  m1 [] w16 < m1 [] w1
theorem calls_inflate_reader_symbols (q1 : Option Addr) (q2 : Option Addr) (q3 : Option Addr) (w : World) (R : Ending → World → Prop) (h : vc_inflate_reader_symbols q1 q2 q3 w R) : Calls P F.inflate_reader_symbols #[.pointer q1, .pointer q2, .pointer q3] w R :=
  calls_of_vc (fn := Try.f21) (ac := ac_inflate_reader_symbols) (args := [.pointer q1, .pointer q2, .pointer q3]) mixed Try.func21 (by kernel_rfl) (cast (by unfold vc_inflate_reader_symbols FnVc; kernel_rfl) h)
/-- darkroom/inflate.fixed -/
def vc_inflate_fixed  (w : World) (R : Ending → World → Prop) : Prop :=
  ∃ I1 : List Value → World → Prop,
  ((((0 : Int) ≤ 288) ∧
      ((288 : Int) ≤ 288) ∧
      ((2304 : Int) ≤ 281474976710656) ∧
      ((288 : Int) < 4611686018427387904) ∧
      ∀ k1 : Nat,
      ∀ w1 : World,
      (New (w.drew) (Obj.cells (mkCells [Value.int IntKind.i64 0] 288) 3) k1 w1) →
      ((0 : Int) ≤ 30) ∧
      ((30 : Int) ≤ 30) ∧
      ((240 : Int) ≤ 281474976710656) ∧
      ((30 : Int) < 4611686018427387904) ∧
      ∀ k2 : Nat,
      ∀ w2 : World,
      (New w1 (Obj.cells (mkCells [Value.int IntKind.i64 0] 30) 3) k2 w2) →
      I1 [Value.slice (some { block := k1, off := 0 }) 288 288, Value.slice (some { block := k2, off := 0 }) 30 30] w2) ∧
    ((0 : Int) ≤ 30) ∧
    ((30 : Int) ≤ 30) ∧
    ((240 : Int) ≤ 281474976710656) ∧
    ((30 : Int) < 4611686018427387904) ∧
    ∀ k3 : Nat,
    ∀ w3 : World,
    (New (w.drew) (Obj.cells (mkCells [Value.int IntKind.i64 0] 30) 3) k3 w3) →
    ((0 : Int) ≤ 288) ∧
    ((288 : Int) ≤ 288) ∧
    ((2304 : Int) ≤ 281474976710656) ∧
    ((288 : Int) < 4611686018427387904) ∧
    ∀ k4 : Nat,
    ∀ w4 : World,
    (New w3 (Obj.cells (mkCells [Value.int IntKind.i64 0] 288) 3) k4 w4) →
    I1 [Value.slice (some { block := k4, off := 0 }) 288 288, Value.slice (some { block := k3, off := 0 }) 30 30] w4) ∧
  ∀ p1 : Option Addr,
  ∀ k5 : Nat,
  ∀ k6 : Nat,
  ∀ p2 : Option Addr,
  ∀ k7 : Nat,
  ∀ k8 : Nat,
  ∀ w5 : World,
  (I1 [Value.slice p1 k5 k6, Value.slice p2 k7 k8] w5) →
  ∃ I2 : List Value → World → Prop,
  ∃ m1 : List Value → World → Nat,
  (I2 [Value.int IntKind.i64 0] w5) ∧
  ∀ n1 : Int,
  ∀ w6 : World,
  (I2 [Value.int IntKind.i64 n1] w6) →
  brB (decide (n1 < (↑k5 : Int)))
    (∃ I3 : List Value → World → Prop,
    (brB (decide (n1 < 144) || decide (n1 > 279))
        (idx (p1) (k5) (n1) (1) fun a1 =>
        (∃ v1 : Value,
          w6.cell? a1 = some v1) ∧
        (w6.frozen? a1 = false) ∧
        I3 [] (setCells w6 a1 [Value.int IntKind.i64 8] 0))
        (brB (decide (n1 < 256))
          (idx (p1) (k5) (n1) (1) fun a2 =>
          (∃ v2 : Value,
            w6.cell? a2 = some v2) ∧
          (w6.frozen? a2 = false) ∧
          I3 [] (setCells w6 a2 [Value.int IntKind.i64 9] 0))
          (idx (p1) (k5) (n1) (1) fun a3 =>
          (∃ v3 : Value,
            w6.cell? a3 = some v3) ∧
          (w6.frozen? a3 = false) ∧
          I3 [] (setCells w6 a3 [Value.int IntKind.i64 7] 0)))) ∧
    ∀ w7 : World,
    (I3 [] w7) →
    (I2 [Value.int IntKind.i64 (IntKind.i64.wrap (n1 + 1))] w7) ∧
    m1 [Value.int IntKind.i64 (IntKind.i64.wrap (n1 + 1))] w7 < m1 [Value.int IntKind.i64 n1] w6)
    (∃ I4 : List Value → World → Prop,
    ∃ m2 : List Value → World → Nat,
    (I4 [Value.int IntKind.i64 0] w6) ∧
    ∀ n2 : Int,
    ∀ w8 : World,
    (I4 [Value.int IntKind.i64 n2] w8) →
    brB (decide (n2 < (↑k7 : Int)))
      (idx (p2) (k7) (n2) (1) fun a4 =>
      (∃ v4 : Value,
        w8.cell? a4 = some v4) ∧
      (w8.frozen? a4 = false) ∧
      (I4 [Value.int IntKind.i64 (IntKind.i64.wrap (n2 + 1))] (setCells w8 a4 [Value.int IntKind.i64 5] 0)) ∧
      m2 [Value.int IntKind.i64 (IntKind.i64.wrap (n2 + 1))] (setCells w8 a4 [Value.int IntKind.i64 5] 0) < m2 [Value.int IntKind.i64 n2] w8)
      (Calls P F.prefix_New #[Value.slice p1 k5 k6] w8 fun e1 w9 =>
      ∃ p3 : Option Addr,
      ∃ n3 : Int,
      (e1 = Ending.returned (Value.tuple #[Value.pointer p3, Value.int IntKind.i64 n3])) ∧
      Calls P F.prefix_New #[Value.slice p2 k7 k8] w9 fun e2 w10 =>
      ∃ p4 : Option Addr,
      ∃ n4 : Int,
      (e2 = Ending.returned (Value.tuple #[Value.pointer p4, Value.int IntKind.i64 n4])) ∧
      R (Ending.returned (Value.tuple #[Value.pointer p3, Value.pointer p4])) w10))
theorem calls_inflate_fixed  (w : World) (R : Ending → World → Prop) (h : vc_inflate_fixed  w R) : Calls P F.inflate_fixed #[] w R :=
  calls_of_vc (fn := Try.f22) (ac := ac_inflate_fixed) (args := []) mixed Try.func22 (by kernel_rfl) (cast (by unfold vc_inflate_fixed FnVc; kernel_rfl) h)
/-- (*darkroom/inflate.reader).dynamic -/
def vc_inflate_reader_dynamic (q1 : Option Addr) (w : World) (R : Ending → World → Prop) : Prop :=
  Calls P F.inflate_reader_take #[Value.pointer q1, Value.int IntKind.i64 5] w fun e1 w1 =>
  ((∃ n1 : Int,
    (e1 = Ending.returned (Value.int IntKind.i64 n1)) ∧
    Calls P F.inflate_reader_take #[Value.pointer q1, Value.int IntKind.i64 5] w1 fun e2 w2 =>
    ((∃ n2 : Int,
      (e2 = Ending.returned (Value.int IntKind.i64 n2)) ∧
      Calls P F.inflate_reader_take #[Value.pointer q1, Value.int IntKind.i64 4] w2 fun e3 w3 =>
      ((∃ n3 : Int,
        (e3 = Ending.returned (Value.int IntKind.i64 n3)) ∧
        brB (decide (n1 > 29) || decide (n2 > 29))
          ((∃ y1 : TypeId,
            ∃ v1 : Value,
            Value.iface 49 (Value.agg #[Value.int IntKind.i64 41]) = Value.iface y1 v1) ∧
          R (Ending.panicked [{ v := Value.iface 49 (Value.agg #[Value.int IntKind.i64 41]), recovered := false }]) w3)
          (∀ k1 : Nat,
          ∀ w4 : World,
          (New w3 (Obj.cells #[Value.int IntKind.i64 0, Value.int IntKind.i64 0, Value.int IntKind.i64 0, Value.int IntKind.i64 0, Value.int IntKind.i64 0, Value.int IntKind.i64 0, Value.int IntKind.i64 0, Value.int IntKind.i64 0, Value.int IntKind.i64 0, Value.int IntKind.i64 0, Value.int IntKind.i64 0, Value.int IntKind.i64 0, Value.int IntKind.i64 0, Value.int IntKind.i64 0, Value.int IntKind.i64 0, Value.int IntKind.i64 0, Value.int IntKind.i64 0, Value.int IntKind.i64 0, Value.int IntKind.i64 0] 92) k1 w4) →
          (∃ v2 : Value,
            w4.cell? { block := k1, off := 0 } = some v2) ∧
          (w4.frozen? { block := k1, off := 0 } = false) ∧
          (∃ v3 : Value,
            w4.cell? { block := k1, off := 1 } = some v3) ∧
          (w4.frozen? { block := k1, off := 1 } = false) ∧
          (∃ v4 : Value,
            w4.cell? { block := k1, off := 2 } = some v4) ∧
          (w4.frozen? { block := k1, off := 2 } = false) ∧
          (∃ v5 : Value,
            w4.cell? { block := k1, off := 3 } = some v5) ∧
          (w4.frozen? { block := k1, off := 3 } = false) ∧
          (∃ v6 : Value,
            w4.cell? { block := k1, off := 4 } = some v6) ∧
          (w4.frozen? { block := k1, off := 4 } = false) ∧
          (∃ v7 : Value,
            w4.cell? { block := k1, off := 5 } = some v7) ∧
          (w4.frozen? { block := k1, off := 5 } = false) ∧
          (∃ v8 : Value,
            w4.cell? { block := k1, off := 6 } = some v8) ∧
          (w4.frozen? { block := k1, off := 6 } = false) ∧
          (∃ v9 : Value,
            w4.cell? { block := k1, off := 7 } = some v9) ∧
          (w4.frozen? { block := k1, off := 7 } = false) ∧
          (∃ v10 : Value,
            w4.cell? { block := k1, off := 8 } = some v10) ∧
          (w4.frozen? { block := k1, off := 8 } = false) ∧
          (∃ v11 : Value,
            w4.cell? { block := k1, off := 9 } = some v11) ∧
          (w4.frozen? { block := k1, off := 9 } = false) ∧
          (∃ v12 : Value,
            w4.cell? { block := k1, off := 10 } = some v12) ∧
          (w4.frozen? { block := k1, off := 10 } = false) ∧
          (∃ v13 : Value,
            w4.cell? { block := k1, off := 11 } = some v13) ∧
          (w4.frozen? { block := k1, off := 11 } = false) ∧
          (∃ v14 : Value,
            w4.cell? { block := k1, off := 12 } = some v14) ∧
          (w4.frozen? { block := k1, off := 12 } = false) ∧
          (∃ v15 : Value,
            w4.cell? { block := k1, off := 13 } = some v15) ∧
          (w4.frozen? { block := k1, off := 13 } = false) ∧
          (∃ v16 : Value,
            w4.cell? { block := k1, off := 14 } = some v16) ∧
          (w4.frozen? { block := k1, off := 14 } = false) ∧
          (∃ v17 : Value,
            w4.cell? { block := k1, off := 15 } = some v17) ∧
          (w4.frozen? { block := k1, off := 15 } = false) ∧
          (∃ v18 : Value,
            w4.cell? { block := k1, off := 16 } = some v18) ∧
          (w4.frozen? { block := k1, off := 16 } = false) ∧
          (∃ v19 : Value,
            w4.cell? { block := k1, off := 17 } = some v19) ∧
          (w4.frozen? { block := k1, off := 17 } = false) ∧
          (∃ v20 : Value,
            w4.cell? { block := k1, off := 18 } = some v20) ∧
          (w4.frozen? { block := k1, off := 18 } = false) ∧
          ((0 : Int) ≤ 19) ∧
          ((19 : Int) ≤ 19) ∧
          ((152 : Int) ≤ 281474976710656) ∧
          ((19 : Int) < 4611686018427387904) ∧
          ∀ k2 : Nat,
          ∀ w5 : World,
          (New (setCells w4 { block := k1, off := 0 } [Value.int IntKind.i64 16, Value.int IntKind.i64 17, Value.int IntKind.i64 18, Value.int IntKind.i64 0, Value.int IntKind.i64 8, Value.int IntKind.i64 7, Value.int IntKind.i64 9, Value.int IntKind.i64 6, Value.int IntKind.i64 10, Value.int IntKind.i64 5, Value.int IntKind.i64 11, Value.int IntKind.i64 4, Value.int IntKind.i64 12, Value.int IntKind.i64 3, Value.int IntKind.i64 13, Value.int IntKind.i64 2, Value.int IntKind.i64 14, Value.int IntKind.i64 1, Value.int IntKind.i64 15] 0) (Obj.cells (mkCells [Value.int IntKind.i64 0] 19) 3) k2 w5) →
          slcc (some { block := k1, off := 0 }) (19) (0) (IntKind.i64.wrap (n3 + 4)) (1) fun p1 k3 k4 =>
          ∃ I1 : List Value → World → Prop,
          ∃ m1 : List Value → World → Nat,
          (I1 [Value.int IntKind.i64 0] w5) ∧
          ∀ n4 : Int,
          ∀ w6 : World,
          (I1 [Value.int IntKind.i64 n4] w6) →
          brB (decide (n4 < (↑k3 : Int)))
            (idx (p1) (k3) (n4) (1) fun a1 =>
            ∃ n5 : Int,
            (w6.cell? a1 = some (Value.int IntKind.i64 n5)) ∧
            Calls P F.inflate_reader_take #[Value.pointer q1, Value.int IntKind.i64 3] w6 fun e4 w7 =>
            ((∃ n6 : Int,
              (e4 = Ending.returned (Value.int IntKind.i64 n6)) ∧
              idx (some { block := k2, off := 0 }) (19) (n5) (1) fun a2 =>
              (∃ v21 : Value,
                w7.cell? a2 = some v21) ∧
              (w7.frozen? a2 = false) ∧
              (I1 [Value.int IntKind.i64 (IntKind.i64.wrap (n4 + 1))] (setCells w7 a2 [Value.int IntKind.i64 n6] 0)) ∧
              m1 [Value.int IntKind.i64 (IntKind.i64.wrap (n4 + 1))] (setCells w7 a2 [Value.int IntKind.i64 n6] 0) < m1 [Value.int IntKind.i64 n4] w6) ∨
            (∃ l1 : List PanicEntry,
              (e4 = Ending.panicked l1) ∧
              R (Ending.panicked l1) w7)))
            (Calls P F.inflate_code #[Value.slice (some { block := k2, off := 0 }) 19 19, Value.bool false] w6 fun e5 w8 =>
            ((∃ p2 : Option Addr,
              (e5 = Ending.returned (Value.pointer p2)) ∧
              ∃ I2 : List Value → World → Prop,
              ∃ m2 : List Value → World → Nat,
              (I2 [Value.slice none 0 0] w8) ∧
              ∀ p3 : Option Addr,
              ∀ k5 : Nat,
              ∀ k6 : Nat,
              ∀ w9 : World,
              (I2 [Value.slice p3 k5 k6] w9) →
              brB (decide ((↑k5 : Int) < IntKind.i64.wrap (IntKind.i64.wrap (IntKind.i64.wrap (n1 + 257) + n2) + 1)))
                (Calls P F.inflate_reader_next #[Value.pointer q1, Value.pointer p2] w9 fun e6 w10 =>
                ((∃ n7 : Int,
                  (e6 = Ending.returned (Value.int IntKind.i64 n7)) ∧
                  ∃ I3 : List Value → World → Prop,
                  (brB (n7 == 16)
                      (brB ((↑k5 : Int) == 0)
                        ((∃ y2 : TypeId,
                          ∃ v22 : Value,
                          Value.iface 49 (Value.agg #[Value.int IntKind.i64 41]) = Value.iface y2 v22) ∧
                        R (Ending.panicked [{ v := Value.iface 49 (Value.agg #[Value.int IntKind.i64 41]), recovered := false }]) w10)
                        (idx (p3) (k5) (IntKind.i64.wrap ((↑k5 : Int) - 1)) (1) fun a3 =>
                        (∃ n8 : Int,
                          (w10.drew.cell? a3 = some (Value.int IntKind.i64 n8)) ∧
                          Calls P F.inflate_reader_take #[Value.pointer q1, Value.int IntKind.i64 2] (w10.drew) fun e7 w11 =>
                          ((∃ n9 : Int,
                            (e7 = Ending.returned (Value.int IntKind.i64 n9)) ∧
                            I3 [Value.int IntKind.i64 n8, Value.int IntKind.i64 (IntKind.i64.wrap (3 + n9))] w11) ∨
                          (∃ l2 : List PanicEntry,
                            (e7 = Ending.panicked l2) ∧
                            R (Ending.panicked l2) w11))) ∧
                        Calls P F.inflate_reader_take #[Value.pointer q1, Value.int IntKind.i64 2] (w10.drew) fun e8 w12 =>
                        ((∃ n10 : Int,
                          (e8 = Ending.returned (Value.int IntKind.i64 n10)) ∧
                          ∃ n11 : Int,
                          (w12.cell? a3 = some (Value.int IntKind.i64 n11)) ∧
                          I3 [Value.int IntKind.i64 n11, Value.int IntKind.i64 (IntKind.i64.wrap (3 + n10))] w12) ∨
                        (∃ l3 : List PanicEntry,
                          (e8 = Ending.panicked l3) ∧
                          R (Ending.panicked l3) w12))))
                      (brB (n7 == 17)
                        (Calls P F.inflate_reader_take #[Value.pointer q1, Value.int IntKind.i64 3] w10 fun e9 w13 =>
                        ((∃ n12 : Int,
                          (e9 = Ending.returned (Value.int IntKind.i64 n12)) ∧
                          I3 [Value.int IntKind.i64 0, Value.int IntKind.i64 (IntKind.i64.wrap (3 + n12))] w13) ∨
                        (∃ l4 : List PanicEntry,
                          (e9 = Ending.panicked l4) ∧
                          R (Ending.panicked l4) w13)))
                        (brB (n7 == 18)
                          (Calls P F.inflate_reader_take #[Value.pointer q1, Value.int IntKind.i64 7] w10 fun e10 w14 =>
                          ((∃ n13 : Int,
                            (e10 = Ending.returned (Value.int IntKind.i64 n13)) ∧
                            I3 [Value.int IntKind.i64 0, Value.int IntKind.i64 (IntKind.i64.wrap (11 + n13))] w14) ∨
                          (∃ l5 : List PanicEntry,
                            (e10 = Ending.panicked l5) ∧
                            R (Ending.panicked l5) w14)))
                          (I3 [Value.int IntKind.i64 n7, Value.int IntKind.i64 1] w10)))) ∧
                  ∀ n14 : Int,
                  ∀ n15 : Int,
                  ∀ w15 : World,
                  (I3 [Value.int IntKind.i64 n14, Value.int IntKind.i64 n15] w15) →
                  brB (decide (n15 > IntKind.i64.wrap (IntKind.i64.wrap (IntKind.i64.wrap (IntKind.i64.wrap (n1 + 257) + n2) + 1) - (↑k5 : Int))))
                    ((∃ y3 : TypeId,
                      ∃ v23 : Value,
                      Value.iface 49 (Value.agg #[Value.int IntKind.i64 41]) = Value.iface y3 v23) ∧
                    R (Ending.panicked [{ v := Value.iface 49 (Value.agg #[Value.int IntKind.i64 41]), recovered := false }]) w15)
                    (∃ I4 : List Value → World → Prop,
                    ∃ m3 : List Value → World → Nat,
                    (I4 [Value.slice p3 k5 k6, Value.int IntKind.i64 0] w15) ∧
                    ∀ p4 : Option Addr,
                    ∀ k7 : Nat,
                    ∀ k8 : Nat,
                    ∀ n16 : Int,
                    ∀ w16 : World,
                    (I4 [Value.slice p4 k7 k8, Value.int IntKind.i64 n16] w16) →
                    brB (decide (n16 < n15))
                      (∀ k9 : Nat,
                      (w16.heap.size ≤ k9) →
                      ∀ w17 : World,
                      (Locl ([k9]) w16 w17) →
                      appVC (w17) ([(100, k9, [Value.int IntKind.i64 n14])]) (p4) (k7) (k8) (1) (1) (8) (3) ([Value.int IntKind.i64 0]) ([Value.int IntKind.i64 n14]) fun p5 k10 k11 w18 =>
                      (I4 [Value.slice p5 k10 k11, Value.int IntKind.i64 (IntKind.i64.wrap (n16 + 1))] w18) ∧
                      m3 [Value.slice p5 k10 k11, Value.int IntKind.i64 (IntKind.i64.wrap (n16 + 1))] w18 < m3 [Value.slice p4 k7 k8, Value.int IntKind.i64 n16] w16)
                      ((I2 [Value.slice p4 k7 k8] w16) ∧
                      m2 [Value.slice p4 k7 k8] w16 < m2 [Value.slice p3 k5 k6] w9))) ∨
                (∃ l6 : List PanicEntry,
                  (e6 = Ending.panicked l6) ∧
                  R (Ending.panicked l6) w10)))
                (idx (p3) (k5) (256) (1) fun a4 =>
                ∃ n17 : Int,
                (w9.cell? a4 = some (Value.int IntKind.i64 n17)) ∧
                brB (n17 == 0)
                  ((∃ y4 : TypeId,
                    ∃ v24 : Value,
                    Value.iface 49 (Value.agg #[Value.int IntKind.i64 41]) = Value.iface y4 v24) ∧
                  R (Ending.panicked [{ v := Value.iface 49 (Value.agg #[Value.int IntKind.i64 41]), recovered := false }]) w9)
                  (slcc (p3) (k6) (0) (IntKind.i64.wrap (n1 + 257)) (1) fun p6 k12 k13 =>
                  slcc (p3) (k6) (IntKind.i64.wrap (n1 + 257)) ((↑k5 : Int)) (1) fun p7 k14 k15 =>
                  Calls P F.inflate_code #[Value.slice p6 k12 k13, Value.bool false] (w9.drew) fun e11 w19 =>
                  ((∃ p8 : Option Addr,
                    (e11 = Ending.returned (Value.pointer p8)) ∧
                    Calls P F.inflate_code #[Value.slice p7 k14 k15, Value.bool true] w19 fun e12 w20 =>
                    ((∃ p9 : Option Addr,
                      (e12 = Ending.returned (Value.pointer p9)) ∧
                      R (Ending.returned (Value.tuple #[Value.pointer p8, Value.pointer p9])) w20) ∨
                    (∃ l7 : List PanicEntry,
                      (e12 = Ending.panicked l7) ∧
                      R (Ending.panicked l7) w20))) ∨
                  (∃ l8 : List PanicEntry,
                    (e11 = Ending.panicked l8) ∧
                    R (Ending.panicked l8) w19))))) ∨
            (∃ l9 : List PanicEntry,
              (e5 = Ending.panicked l9) ∧
              R (Ending.panicked l9) w8))))) ∨
      (∃ l10 : List PanicEntry,
        (e3 = Ending.panicked l10) ∧
        R (Ending.panicked l10) w3))) ∨
    (∃ l11 : List PanicEntry,
      (e2 = Ending.panicked l11) ∧
      R (Ending.panicked l11) w2))) ∨
  (∃ l12 : List PanicEntry,
    (e1 = Ending.panicked l12) ∧
    R (Ending.panicked l12) w1))
theorem calls_inflate_reader_dynamic (q1 : Option Addr) (w : World) (R : Ending → World → Prop) (h : vc_inflate_reader_dynamic q1 w R) : Calls P F.inflate_reader_dynamic #[.pointer q1] w R :=
  calls_of_vc (fn := Try.f23) (ac := ac_inflate_reader_dynamic) (args := [.pointer q1]) mixed Try.func23 (by kernel_rfl) (cast (by unfold vc_inflate_reader_dynamic FnVc; kernel_rfl) h)
/-- (*darkroom/bits.Reader).Place -/
def vc_bits_Reader_Place (q1 : Option Addr) (w : World) (R : Ending → World → Prop) : Prop :=
  brB (q1.isNone)
    (R (Ending.returned (Value.int IntKind.i64 0)) w)
    (nn (q1) fun a1 =>
    ∃ n1 : Int,
    (w.cell? (a1.add 1) = some (Value.int IntKind.i64 n1)) ∧
    R (Ending.returned (Value.int IntKind.i64 n1)) w)
theorem calls_bits_Reader_Place (q1 : Option Addr) (w : World) (R : Ending → World → Prop) (h : vc_bits_Reader_Place q1 w R) : Calls P F.bits_Reader_Place #[.pointer q1] w R :=
  calls_of_vc (fn := Try.f24) (ac := ac_bits_Reader_Place) (args := [.pointer q1]) mixed Try.func24 (by kernel_rfl) (cast (by unfold vc_bits_Reader_Place FnVc; kernel_rfl) h)
/-- darkroom/darkroomref04.take -/
def vc_ref04_take (sa1 : Option Addr) (sl1 sc1 : Nat) (b1 : Bool) (x1 : Int) (sa2 : Option Addr) (sl2 sc2 : Nat) (x2 : Int) (x3 : Int) (x4 : Int) (w : World) (R : Ending → World → Prop) : Prop :=
  ∀ k1 : Nat,
  (w.heap.size ≤ k1) →
  ∀ k2 : Nat,
  (w.heap.size ≤ k2) →
  ∀ w1 : World,
  (Locl ([k2, k1]) w w1) →
  Calls P F.ref01_Take #[Value.agg #[Value.slice sa1 sl1 sc1, Value.bool b1, Value.int IntKind.i64 x1], Value.int IntKind.i64 x4] w1 fun e1 w2 =>
  ∃ p1 : Option Addr,
  ∃ k3 : Nat,
  ∃ k4 : Nat,
  ∃ c1 : Bool,
  ∃ n1 : Int,
  ∃ n2 : Int,
  ∃ n3 : Int,
  (e1 = Ending.returned (Value.tuple #[Value.agg #[Value.slice p1 k3 k4, Value.bool c1, Value.int IntKind.i64 n1], Value.int IntKind.u32 n2, Value.int IntKind.i64 n3])) ∧
  (Keep ([k2, k1]) w1 w2) ∧
  ∀ k5 : Nat,
  (w2.heap.size ≤ k5) →
  brB (n3 != 0)
    (∀ w3 : World,
    (Locl ([k5, k2, k1]) w2 w3) →
    R (Ending.returned (Value.tuple #[Value.agg #[Value.slice sa1 sl1 sc1, Value.bool b1, Value.int IntKind.i64 x1, Value.slice sa2 sl2 sc2, Value.int IntKind.i64 x2, Value.int IntKind.i64 5], Value.int IntKind.i64 0])) w3)
    (∀ w4 : World,
    (Locl ([k5, k2, k1]) w2 w4) →
    R (Ending.returned (Value.tuple #[Value.agg #[Value.slice p1 k3 k4, Value.bool c1, Value.int IntKind.i64 n1, Value.slice sa2 sl2 sc2, Value.int IntKind.i64 x2, Value.int IntKind.i64 x3], Value.int IntKind.i64 (IntKind.i64.wrap n2)])) w4)
theorem calls_ref04_take (sa1 : Option Addr) (sl1 sc1 : Nat) (b1 : Bool) (x1 : Int) (sa2 : Option Addr) (sl2 sc2 : Nat) (x2 : Int) (x3 : Int) (x4 : Int) (w : World) (R : Ending → World → Prop) (h : vc_ref04_take sa1 sl1 sc1 b1 x1 sa2 sl2 sc2 x2 x3 x4 w R) : Calls P F.ref04_take #[.agg #[.slice sa1 sl1 sc1, .bool b1, .int .i64 x1, .slice sa2 sl2 sc2, .int .i64 x2, .int .i64 x3], .int .i64 x4] w R :=
  calls_of_vc (fn := Try.f25) (ac := ac_ref04_take) (args := [.agg #[.slice sa1 sl1 sc1, .bool b1, .int .i64 x1, .slice sa2 sl2 sc2, .int .i64 x2, .int .i64 x3], .int .i64 x4]) mixed Try.func25 (by kernel_rfl) (cast (by unfold vc_ref04_take FnVc; kernel_rfl) h)
/-- darkroom/darkroomref04.stored -/
def vc_ref04_stored (sa1 : Option Addr) (sl1 sc1 : Nat) (b1 : Bool) (x1 : Int) (sa2 : Option Addr) (sl2 sc2 : Nat) (x2 : Int) (x3 : Int) (w : World) (R : Ending → World → Prop) : Prop :=
  ∀ k1 : Nat,
  (w.heap.size ≤ k1) →
  ∀ k2 : Nat,
  (w.heap.size ≤ k2) →
  ∀ w1 : World,
  (Locl ([k2, k1]) w w1) →
  Calls P F.ref01_Align #[Value.agg #[Value.slice sa1 sl1 sc1, Value.bool b1, Value.int IntKind.i64 x1]] w1 fun e1 w2 =>
  ∃ p1 : Option Addr,
  ∃ k3 : Nat,
  ∃ k4 : Nat,
  ∃ c1 : Bool,
  ∃ n1 : Int,
  (e1 = Ending.returned (Value.agg #[Value.slice p1 k3 k4, Value.bool c1, Value.int IntKind.i64 n1])) ∧
  (Keep ([k2, k1]) w1 w2) ∧
  ∀ w3 : World,
  (Locl ([k2, k1]) w2 w3) →
  Calls P F.ref04_take #[Value.agg #[Value.slice p1 k3 k4, Value.bool c1, Value.int IntKind.i64 n1, Value.slice sa2 sl2 sc2, Value.int IntKind.i64 x2, Value.int IntKind.i64 x3], Value.int IntKind.i64 16] w3 fun e2 w4 =>
  ∃ p2 : Option Addr,
  ∃ k5 : Nat,
  ∃ k6 : Nat,
  ∃ c2 : Bool,
  ∃ n2 : Int,
  ∃ p3 : Option Addr,
  ∃ k7 : Nat,
  ∃ k8 : Nat,
  ∃ n3 : Int,
  ∃ n4 : Int,
  ∃ n5 : Int,
  (e2 = Ending.returned (Value.tuple #[Value.agg #[Value.slice p2 k5 k6, Value.bool c2, Value.int IntKind.i64 n2, Value.slice p3 k7 k8, Value.int IntKind.i64 n3, Value.int IntKind.i64 n4], Value.int IntKind.i64 n5])) ∧
  (Keep ([k2, k1]) w3 w4) ∧
  brB (n4 != 0)
    (∀ w5 : World,
    (Locl ([k2, k1]) w4 w5) →
    R (Ending.returned (Value.agg #[Value.slice p2 k5 k6, Value.bool c2, Value.int IntKind.i64 n2, Value.slice p3 k7 k8, Value.int IntKind.i64 n3, Value.int IntKind.i64 n4])) w5)
    (∀ w6 : World,
    (Locl ([k2, k1]) w4 w6) →
    Calls P F.ref04_take #[Value.agg #[Value.slice p2 k5 k6, Value.bool c2, Value.int IntKind.i64 n2, Value.slice p3 k7 k8, Value.int IntKind.i64 n3, Value.int IntKind.i64 n4], Value.int IntKind.i64 16] w6 fun e3 w7 =>
    ∃ p4 : Option Addr,
    ∃ k9 : Nat,
    ∃ k10 : Nat,
    ∃ c3 : Bool,
    ∃ n6 : Int,
    ∃ p5 : Option Addr,
    ∃ k11 : Nat,
    ∃ k12 : Nat,
    ∃ n7 : Int,
    ∃ n8 : Int,
    ∃ n9 : Int,
    (e3 = Ending.returned (Value.tuple #[Value.agg #[Value.slice p4 k9 k10, Value.bool c3, Value.int IntKind.i64 n6, Value.slice p5 k11 k12, Value.int IntKind.i64 n7, Value.int IntKind.i64 n8], Value.int IntKind.i64 n9])) ∧
    (Keep ([k2, k1]) w6 w7) ∧
    brB (n8 != 0)
      (∀ w8 : World,
      (Locl ([k2, k1]) w7 w8) →
      R (Ending.returned (Value.agg #[Value.slice p4 k9 k10, Value.bool c3, Value.int IntKind.i64 n6, Value.slice p5 k11 k12, Value.int IntKind.i64 n7, Value.int IntKind.i64 n8])) w8)
      (brB (n9 != IntKind.i64.wrap (65535 - n5))
        (∀ w9 : World,
        (Locl ([k2, k1]) w7 w9) →
        R (Ending.returned (Value.agg #[Value.slice p4 k9 k10, Value.bool c3, Value.int IntKind.i64 n6, Value.slice p5 k11 k12, Value.int IntKind.i64 n7, Value.int IntKind.i64 40])) w9)
        (brB (decide (n5 > IntKind.i64.wrap (n7 - (↑k11 : Int))))
          (∀ w10 : World,
          (Locl ([k2, k1]) w7 w10) →
          R (Ending.returned (Value.agg #[Value.slice p4 k9 k10, Value.bool c3, Value.int IntKind.i64 n6, Value.slice p5 k11 k12, Value.int IntKind.i64 n7, Value.int IntKind.i64 3])) w10)
          (∀ w11 : World,
          (Locl ([k2, k1]) w7 w11) →
          Calls P F.ref01_Bytes #[Value.agg #[Value.slice p4 k9 k10, Value.bool c3, Value.int IntKind.i64 n6], Value.int IntKind.i64 n5] w11 fun e4 w12 =>
          ∃ p6 : Option Addr,
          ∃ k13 : Nat,
          ∃ k14 : Nat,
          ∃ c4 : Bool,
          ∃ n10 : Int,
          ∃ p7 : Option Addr,
          ∃ k15 : Nat,
          ∃ k16 : Nat,
          ∃ n11 : Int,
          (e4 = Ending.returned (Value.tuple #[Value.agg #[Value.slice p6 k13 k14, Value.bool c4, Value.int IntKind.i64 n10], Value.slice p7 k15 k16, Value.int IntKind.i64 n11])) ∧
          (Keep ([k2, k1]) w11 w12) ∧
          ∀ k17 : Nat,
          (w12.heap.size ≤ k17) →
          brB (n11 != 0)
            (∀ w13 : World,
            (Locl ([k17, k2, k1]) w12 w13) →
            R (Ending.returned (Value.agg #[Value.slice p4 k9 k10, Value.bool c3, Value.int IntKind.i64 n6, Value.slice p5 k11 k12, Value.int IntKind.i64 n7, Value.int IntKind.i64 5])) w13)
            (∀ w14 : World,
            (Locl ([k17, k2, k1]) w12 w14) →
            ∃ l1 : List Value,
            (l1.length = k15 * 1) ∧
            (oneAll l1 = true) ∧
            (CellsAre w14 p7 l1) ∧
            appVC (w14) ([(5, k17, [Value.slice p6 k13 k14, Value.bool c4, Value.int IntKind.i64 n10]), (2, k2, [Value.slice none 0 0, Value.bool false, Value.int IntKind.i64 0, Value.slice none 0 0, Value.int IntKind.i64 0, Value.int IntKind.i64 0]), (1, k1, [Value.slice p6 k13 k14, Value.bool c4, Value.int IntKind.i64 n10, Value.slice p5 k11 k12, Value.int IntKind.i64 n7, Value.int IntKind.i64 n8])]) (p5) (k11) (k12) (k15) (1) (1) (5) ([Value.int IntKind.u8 0]) (l1) fun p8 k18 k19 w15 =>
            ∀ w16 : World,
            (Locl ([k17, k2, k1]) w15 w16) →
            R (Ending.returned (Value.agg #[Value.slice p6 k13 k14, Value.bool c4, Value.int IntKind.i64 n10, Value.slice p8 k18 k19, Value.int IntKind.i64 n7, Value.int IntKind.i64 n8])) w16)))))
theorem calls_ref04_stored (sa1 : Option Addr) (sl1 sc1 : Nat) (b1 : Bool) (x1 : Int) (sa2 : Option Addr) (sl2 sc2 : Nat) (x2 : Int) (x3 : Int) (w : World) (R : Ending → World → Prop) (h : vc_ref04_stored sa1 sl1 sc1 b1 x1 sa2 sl2 sc2 x2 x3 w R) : Calls P F.ref04_stored #[.agg #[.slice sa1 sl1 sc1, .bool b1, .int .i64 x1, .slice sa2 sl2 sc2, .int .i64 x2, .int .i64 x3]] w R :=
  calls_of_vc (fn := Try.f26) (ac := ac_ref04_stored) (args := [.agg #[.slice sa1 sl1 sc1, .bool b1, .int .i64 x1, .slice sa2 sl2 sc2, .int .i64 x2, .int .i64 x3]]) mixed Try.func26 (by kernel_rfl) (cast (by unfold vc_ref04_stored FnVc; kernel_rfl) h)
/-- darkroom/darkroomref04.Fixed -/
def vc_ref04_Fixed  (w : World) (R : Ending → World → Prop) : Prop :=
  ∃ I1 : List Value → World → Prop,
  ∃ m1 : List Value → World → Nat,
  (I1 [Value.slice none 0 0, Value.int IntKind.i64 0] w) ∧
  ∀ p1 : Option Addr,
  ∀ k1 : Nat,
  ∀ k2 : Nat,
  ∀ n1 : Int,
  ∀ w1 : World,
  (I1 [Value.slice p1 k1 k2, Value.int IntKind.i64 n1] w1) →
  brB (decide (n1 < 288))
    (∃ I2 : List Value → World → Prop,
    (∃ I3 : List Value → World → Prop,
      (brB (decide (n1 ≥ 144) && decide (n1 < 256))
          (I3 [Value.int IntKind.i64 9] w1)
          (I3 [Value.int IntKind.i64 8] w1)) ∧
      ∀ n2 : Int,
      ∀ w2 : World,
      (I3 [Value.int IntKind.i64 n2] w2) →
      brB (decide (n1 ≥ 256) && decide (n1 < 280))
        (∀ k3 : Nat,
        (w2.heap.size ≤ k3) →
        ∀ w3 : World,
        (Locl ([k3]) w2 w3) →
        appVC (w3) ([(25, k3, [Value.int IntKind.i64 7])]) (p1) (k1) (k2) (1) (1) (8) (3) ([Value.int IntKind.i64 0]) ([Value.int IntKind.i64 7]) fun p2 k4 k5 w4 =>
        I2 [Value.slice p2 k4 k5] w4)
        (∀ k6 : Nat,
        (w2.heap.size ≤ k6) →
        ∀ w5 : World,
        (Locl ([k6]) w2 w5) →
        appVC (w5) ([(25, k6, [Value.int IntKind.i64 n2])]) (p1) (k1) (k2) (1) (1) (8) (3) ([Value.int IntKind.i64 0]) ([Value.int IntKind.i64 n2]) fun p3 k7 k8 w6 =>
        I2 [Value.slice p3 k7 k8] w6)) ∧
    ∀ p4 : Option Addr,
    ∀ k9 : Nat,
    ∀ k10 : Nat,
    ∀ w7 : World,
    (I2 [Value.slice p4 k9 k10] w7) →
    (I1 [Value.slice p4 k9 k10, Value.int IntKind.i64 (IntKind.i64.wrap (n1 + 1))] w7) ∧
    m1 [Value.slice p4 k9 k10, Value.int IntKind.i64 (IntKind.i64.wrap (n1 + 1))] w7 < m1 [Value.slice p1 k1 k2, Value.int IntKind.i64 n1] w1)
    (∃ I4 : List Value → World → Prop,
    ∃ m2 : List Value → World → Nat,
    (I4 [Value.slice none 0 0, Value.int IntKind.i64 0] w1) ∧
    ∀ p5 : Option Addr,
    ∀ k11 : Nat,
    ∀ k12 : Nat,
    ∀ n3 : Int,
    ∀ w8 : World,
    (I4 [Value.slice p5 k11 k12, Value.int IntKind.i64 n3] w8) →
    brB (decide (n3 < 30))
      (∀ k13 : Nat,
      (w8.heap.size ≤ k13) →
      ∀ w9 : World,
      (Locl ([k13]) w8 w9) →
      appVC (w9) ([(32, k13, [Value.int IntKind.i64 5])]) (p5) (k11) (k12) (1) (1) (8) (3) ([Value.int IntKind.i64 0]) ([Value.int IntKind.i64 5]) fun p6 k14 k15 w10 =>
      (I4 [Value.slice p6 k14 k15, Value.int IntKind.i64 (IntKind.i64.wrap (n3 + 1))] w10) ∧
      m2 [Value.slice p6 k14 k15, Value.int IntKind.i64 (IntKind.i64.wrap (n3 + 1))] w10 < m2 [Value.slice p5 k11 k12, Value.int IntKind.i64 n3] w8)
      (R (Ending.returned (Value.tuple #[Value.slice p1 k1 k2, Value.slice p5 k11 k12])) w8))
theorem calls_ref04_Fixed  (w : World) (R : Ending → World → Prop) (h : vc_ref04_Fixed  w R) : Calls P F.ref04_Fixed #[] w R :=
  calls_of_vc (fn := Try.f27) (ac := ac_ref04_Fixed) (args := []) mixed Try.func27 (by kernel_rfl) (cast (by unfold vc_ref04_Fixed FnVc; kernel_rfl) h)
/-- darkroom/darkroomref04.symbols -/
def vc_ref04_symbols (sa1 : Option Addr) (sl1 sc1 : Nat) (b1 : Bool) (x1 : Int) (sa2 : Option Addr) (sl2 sc2 : Nat) (x2 : Int) (x3 : Int) (vs1 : List Value) (vs2 : List Value) (w : World) (R : Ending → World → Prop) : Prop :=
  ∀ k1 : Nat,
  (w.heap.size ≤ k1) →
  ∀ w1 : World,
  (Locl ([k1]) w w1) →
  ∀ k2 : Nat,
  ∀ w2 : World,
  (New w1 (Obj.cells vs1.toArray 70) k2 w2) →
  ∀ k3 : Nat,
  ∀ w3 : World,
  (New w2 (Obj.cells vs2.toArray 70) k3 w3) →
  ∀ k4 : Nat,
  (w3.heap.size ≤ k4) →
  ∃ I1 : List Value → World → Prop,
  ∃ m1 : List Value → World → Nat,
  (∀ w4 : World,
    (Locl ([k4, k1]) w3 w4) →
    I1 [Value.slice sa1 sl1 sc1, Value.bool b1, Value.int IntKind.i64 x1, Value.slice sa2 sl2 sc2, Value.int IntKind.i64 x2, Value.int IntKind.i64 x3, Value.slice none 0 0, Value.bool false, Value.int IntKind.i64 0, Value.slice none 0 0, Value.int IntKind.i64 0, Value.int IntKind.i64 0] w4) ∧
  ∀ p1 : Option Addr,
  ∀ k5 : Nat,
  ∀ k6 : Nat,
  ∀ c1 : Bool,
  ∀ n1 : Int,
  ∀ p2 : Option Addr,
  ∀ k7 : Nat,
  ∀ k8 : Nat,
  ∀ n2 : Int,
  ∀ n3 : Int,
  ∀ p3 : Option Addr,
  ∀ k9 : Nat,
  ∀ k10 : Nat,
  ∀ c2 : Bool,
  ∀ n4 : Int,
  ∀ p4 : Option Addr,
  ∀ k11 : Nat,
  ∀ k12 : Nat,
  ∀ n5 : Int,
  ∀ n6 : Int,
  ∀ w5 : World,
  (I1 [Value.slice p1 k5 k6, Value.bool c1, Value.int IntKind.i64 n1, Value.slice p2 k7 k8, Value.int IntKind.i64 n2, Value.int IntKind.i64 n3, Value.slice p3 k9 k10, Value.bool c2, Value.int IntKind.i64 n4, Value.slice p4 k11 k12, Value.int IntKind.i64 n5, Value.int IntKind.i64 n6] w5) →
  brB (n3 == 0)
    (∃ I2 : List Value → World → Prop,
    (∃ l1 : List Value,
      (l1.length = 37) ∧
      (CellsAt w5 ({ block := k2, off := 0 }) l1) ∧
      Calls P F.ref04_next #[Value.agg #[Value.slice p1 k5 k6, Value.bool c1, Value.int IntKind.i64 n1, Value.slice p2 k7 k8, Value.int IntKind.i64 n2, Value.int IntKind.i64 n3], Value.agg l1.toArray] w5 fun e1 w6 =>
      ∃ p5 : Option Addr,
      ∃ k13 : Nat,
      ∃ k14 : Nat,
      ∃ c3 : Bool,
      ∃ n7 : Int,
      ∃ p6 : Option Addr,
      ∃ k15 : Nat,
      ∃ k16 : Nat,
      ∃ n8 : Int,
      ∃ n9 : Int,
      ∃ n10 : Int,
      (e1 = Ending.returned (Value.tuple #[Value.agg #[Value.slice p5 k13 k14, Value.bool c3, Value.int IntKind.i64 n7, Value.slice p6 k15 k16, Value.int IntKind.i64 n8, Value.int IntKind.i64 n9], Value.int IntKind.i64 n10])) ∧
      (Keep ([k4, k1]) w5 w6) ∧
      brB (n9 != 0 || n10 == 256)
        (∀ w7 : World,
        (Locl ([k4, k1]) w6 w7) →
        R (Ending.returned (Value.agg #[Value.slice p5 k13 k14, Value.bool c3, Value.int IntKind.i64 n7, Value.slice p6 k15 k16, Value.int IntKind.i64 n8, Value.int IntKind.i64 n9])) w7)
        (brB (decide (n10 < 256))
          (brB (decide ((↑k15 : Int) ≥ n8))
            (∀ w8 : World,
            (Locl ([k4, k1]) w6 w8) →
            R (Ending.returned (Value.agg #[Value.slice p5 k13 k14, Value.bool c3, Value.int IntKind.i64 n7, Value.slice p6 k15 k16, Value.int IntKind.i64 n8, Value.int IntKind.i64 3])) w8)
            (∀ k17 : Nat,
            (w6.heap.size ≤ k17) →
            ∀ w9 : World,
            (Locl ([k17, k4, k1]) w6 w9) →
            appVC (w9) ([(39, k17, [Value.int IntKind.u8 (IntKind.u8.wrap n10)]), (6, k4, [Value.slice p3 k9 k10, Value.bool c2, Value.int IntKind.i64 n4, Value.slice p4 k11 k12, Value.int IntKind.i64 n5, Value.int IntKind.i64 n6]), (3, k1, [Value.slice p5 k13 k14, Value.bool c3, Value.int IntKind.i64 n7, Value.slice p6 k15 k16, Value.int IntKind.i64 n8, Value.int IntKind.i64 n9])]) (p6) (k15) (k16) (1) (1) (1) (5) ([Value.int IntKind.u8 0]) ([Value.int IntKind.u8 (IntKind.u8.wrap n10)]) fun p7 k18 k19 w10 =>
            ∀ w11 : World,
            (Locl ([k17, k4, k1]) w10 w11) →
            I2 [Value.slice p5 k13 k14, Value.bool c3, Value.int IntKind.i64 n7, Value.slice p7 k18 k19, Value.int IntKind.i64 n8, Value.int IntKind.i64 n9, Value.slice p3 k9 k10, Value.bool c2, Value.int IntKind.i64 n4, Value.slice p4 k11 k12, Value.int IntKind.i64 n5, Value.int IntKind.i64 n6] w11))
          (∀ w12 : World,
          (Locl ([k4, k1]) w6 w12) →
          ∃ l2 : List Value,
          (l2.length = 37) ∧
          (CellsAt w12 ({ block := k3, off := 0 }) l2) ∧
          Calls P F.ref04_match #[Value.agg #[Value.slice p5 k13 k14, Value.bool c3, Value.int IntKind.i64 n7, Value.slice p6 k15 k16, Value.int IntKind.i64 n8, Value.int IntKind.i64 n9], Value.int IntKind.i64 n10, Value.agg l2.toArray] w12 fun e2 w13 =>
          ∃ p8 : Option Addr,
          ∃ k20 : Nat,
          ∃ k21 : Nat,
          ∃ c4 : Bool,
          ∃ n11 : Int,
          ∃ p9 : Option Addr,
          ∃ k22 : Nat,
          ∃ k23 : Nat,
          ∃ n12 : Int,
          ∃ n13 : Int,
          (e2 = Ending.returned (Value.agg #[Value.slice p8 k20 k21, Value.bool c4, Value.int IntKind.i64 n11, Value.slice p9 k22 k23, Value.int IntKind.i64 n12, Value.int IntKind.i64 n13])) ∧
          (Keep ([k4, k1]) w12 w13) ∧
          ∀ w14 : World,
          (Locl ([k4, k1]) w13 w14) →
          I2 [Value.slice p8 k20 k21, Value.bool c4, Value.int IntKind.i64 n11, Value.slice p9 k22 k23, Value.int IntKind.i64 n12, Value.int IntKind.i64 n13, Value.slice p3 k9 k10, Value.bool c2, Value.int IntKind.i64 n4, Value.slice p4 k11 k12, Value.int IntKind.i64 n5, Value.int IntKind.i64 n6] w14))) ∧
    ∀ p10 : Option Addr,
    ∀ k24 : Nat,
    ∀ k25 : Nat,
    ∀ c5 : Bool,
    ∀ n14 : Int,
    ∀ p11 : Option Addr,
    ∀ k26 : Nat,
    ∀ k27 : Nat,
    ∀ n15 : Int,
    ∀ n16 : Int,
    ∀ p12 : Option Addr,
    ∀ k28 : Nat,
    ∀ k29 : Nat,
    ∀ c6 : Bool,
    ∀ n17 : Int,
    ∀ p13 : Option Addr,
    ∀ k30 : Nat,
    ∀ k31 : Nat,
    ∀ n18 : Int,
    ∀ n19 : Int,
    ∀ w15 : World,
    (I2 [Value.slice p10 k24 k25, Value.bool c5, Value.int IntKind.i64 n14, Value.slice p11 k26 k27, Value.int IntKind.i64 n15, Value.int IntKind.i64 n16, Value.slice p12 k28 k29, Value.bool c6, Value.int IntKind.i64 n17, Value.slice p13 k30 k31, Value.int IntKind.i64 n18, Value.int IntKind.i64 n19] w15) →
    (I1 [Value.slice p10 k24 k25, Value.bool c5, Value.int IntKind.i64 n14, Value.slice p11 k26 k27, Value.int IntKind.i64 n15, Value.int IntKind.i64 n16, Value.slice p12 k28 k29, Value.bool c6, Value.int IntKind.i64 n17, Value.slice p13 k30 k31, Value.int IntKind.i64 n18, Value.int IntKind.i64 n19] w15) ∧
    m1 [Value.slice p10 k24 k25, Value.bool c5, Value.int IntKind.i64 n14, Value.slice p11 k26 k27, Value.int IntKind.i64 n15, Value.int IntKind.i64 n16, Value.slice p12 k28 k29, Value.bool c6, Value.int IntKind.i64 n17, Value.slice p13 k30 k31, Value.int IntKind.i64 n18, Value.int IntKind.i64 n19] w15 < m1 [Value.slice p1 k5 k6, Value.bool c1, Value.int IntKind.i64 n1, Value.slice p2 k7 k8, Value.int IntKind.i64 n2, Value.int IntKind.i64 n3, Value.slice p3 k9 k10, Value.bool c2, Value.int IntKind.i64 n4, Value.slice p4 k11 k12, Value.int IntKind.i64 n5, Value.int IntKind.i64 n6] w5)
    (∀ w16 : World,
    (Locl ([k4, k1]) w5 w16) →
    R (Ending.returned (Value.agg #[Value.slice p1 k5 k6, Value.bool c1, Value.int IntKind.i64 n1, Value.slice p2 k7 k8, Value.int IntKind.i64 n2, Value.int IntKind.i64 n3])) w16)
theorem calls_ref04_symbols (sa1 : Option Addr) (sl1 sc1 : Nat) (b1 : Bool) (x1 : Int) (sa2 : Option Addr) (sl2 sc2 : Nat) (x2 : Int) (x3 : Int) (vs1 : List Value) (vs2 : List Value) (w : World) (R : Ending → World → Prop) (h : vc_ref04_symbols sa1 sl1 sc1 b1 x1 sa2 sl2 sc2 x2 x3 vs1 vs2 w R) : Calls P F.ref04_symbols #[.agg #[.slice sa1 sl1 sc1, .bool b1, .int .i64 x1, .slice sa2 sl2 sc2, .int .i64 x2, .int .i64 x3], .agg vs1.toArray, .agg vs2.toArray] w R :=
  calls_of_vc (fn := Try.f28) (ac := ac_ref04_symbols) (args := [.agg #[.slice sa1 sl1 sc1, .bool b1, .int .i64 x1, .slice sa2 sl2 sc2, .int .i64 x2, .int .i64 x3], .agg vs1.toArray, .agg vs2.toArray]) mixed Try.func28 (by kernel_rfl) (cast (by unfold vc_ref04_symbols FnVc; kernel_rfl) h)
/-- darkroom/darkroomref03.Tabled -/
def vc_ref03_Tabled (sa1 : Option Addr) (sl1 sc1 : Nat) (w : World) (R : Ending → World → Prop) : Prop :=
  ∀ k1 : Nat,
  ∀ w1 : World,
  (New w (Obj.cells #[Value.int IntKind.i64 0, Value.int IntKind.i64 0, Value.int IntKind.i64 0, Value.int IntKind.i64 0, Value.int IntKind.i64 0, Value.int IntKind.i64 0, Value.int IntKind.i64 0, Value.int IntKind.i64 0, Value.int IntKind.i64 0, Value.int IntKind.i64 0, Value.int IntKind.i64 0, Value.int IntKind.i64 0, Value.int IntKind.i64 0, Value.int IntKind.i64 0, Value.int IntKind.i64 0, Value.int IntKind.i64 0, Value.int IntKind.i64 0, Value.int IntKind.i64 0, Value.slice none 0 0, Value.slice none 0 0, Value.slice none 0 0, Value.slice none 0 0, Value.slice none 0 0, Value.slice none 0 0, Value.slice none 0 0, Value.slice none 0 0, Value.slice none 0 0, Value.slice none 0 0, Value.slice none 0 0, Value.slice none 0 0, Value.slice none 0 0, Value.slice none 0 0, Value.slice none 0 0, Value.slice none 0 0, Value.slice none 0 0, Value.slice none 0 0, Value.bool false] 70) k1 w1) →
  ∀ k2 : Nat,
  ∀ w2 : World,
  (New w1 (Obj.cells #[Value.int IntKind.i64 0, Value.int IntKind.i64 0, Value.int IntKind.i64 0, Value.int IntKind.i64 0, Value.int IntKind.i64 0, Value.int IntKind.i64 0, Value.int IntKind.i64 0, Value.int IntKind.i64 0, Value.int IntKind.i64 0, Value.int IntKind.i64 0, Value.int IntKind.i64 0, Value.int IntKind.i64 0, Value.int IntKind.i64 0, Value.int IntKind.i64 0, Value.int IntKind.i64 0, Value.int IntKind.i64 0, Value.int IntKind.i64 0, Value.int IntKind.i64 0, Value.slice none 0 0, Value.slice none 0 0, Value.slice none 0 0, Value.slice none 0 0, Value.slice none 0 0, Value.slice none 0 0, Value.slice none 0 0, Value.slice none 0 0, Value.slice none 0 0, Value.slice none 0 0, Value.slice none 0 0, Value.slice none 0 0, Value.slice none 0 0, Value.slice none 0 0, Value.slice none 0 0, Value.slice none 0 0, Value.slice none 0 0, Value.slice none 0 0, Value.bool false] 70) k2 w2) →
  ∃ I1 : List Value → World → Prop,
  ∃ m1 : List Value → World → Nat,
  (I1 [Value.int IntKind.i64 0, Value.int IntKind.i64 1] w2) ∧
  ∀ n1 : Int,
  ∀ n2 : Int,
  ∀ w3 : World,
  (I1 [Value.int IntKind.i64 n1, Value.int IntKind.i64 n2] w3) →
  brB (decide (n2 ≤ 16))
    ((0 ≤ n2) ∧
    (n2 < 18) ∧
    (∃ v1 : Value,
      w3.cell? ({ block := k2, off := 0 : Addr }.add (n2.toNat * 1)) = some v1) ∧
    (w3.frozen? ({ block := k2, off := 0 : Addr }.add (n2.toNat * 1)) = false) ∧
    ∃ I2 : List Value → World → Prop,
    ∃ m2 : List Value → World → Nat,
    (I2 [Value.int IntKind.i64 0] (setCells w3 ({ block := k2, off := 0 : Addr }.add (n2.toNat * 1)) [Value.int IntKind.i64 (IntKind.i64.wrap (2 * n1))] 0)) ∧
    ∀ n3 : Int,
    ∀ w4 : World,
    (I2 [Value.int IntKind.i64 n3] w4) →
    brB (decide (n3 < (↑sl1 : Int)))
      (∃ I3 : List Value → World → Prop,
      (idx (sa1) (sl1) (n3) (1) fun a1 =>
        ∃ n4 : Int,
        (w4.cell? a1 = some (Value.int IntKind.i64 n4)) ∧
        brB (n4 == n2)
          ((0 ≤ n2) ∧
          (n2 < 18) ∧
          ∃ p1 : Option Addr,
          ∃ k3 : Nat,
          ∃ k4 : Nat,
          (w4.cell? ({ block := k2, off := 18 : Addr }.add (n2.toNat * 1)) = some (Value.slice p1 k3 k4)) ∧
          ∀ k5 : Nat,
          (w4.heap.size ≤ k5) →
          ∀ w5 : World,
          (Locl ([k5]) w4 w5) →
          appVC (w5) ([(35, k5, [Value.int IntKind.i64 n3])]) (p1) (k3) (k4) (1) (1) (8) (3) ([Value.int IntKind.i64 0]) ([Value.int IntKind.i64 n3]) fun p2 k6 k7 w6 =>
          (0 ≤ n2) ∧
          (n2 < 18) ∧
          (∃ v2 : Value,
            w6.cell? ({ block := k2, off := 18 : Addr }.add (n2.toNat * 1)) = some v2) ∧
          (w6.frozen? ({ block := k2, off := 18 : Addr }.add (n2.toNat * 1)) = false) ∧
          (¬({ block := k2, off := 18 : Addr }.add (n2.toNat * 1)).block ∈ [k5]) ∧
          (∃ v3 : Value,
            (setCells w6 ({ block := k2, off := 18 : Addr }.add (n2.toNat * 1)) [Value.slice p2 k6 k7] 0).cell? { block := k2, off := 36 } = some v3) ∧
          ((setCells w6 ({ block := k2, off := 18 : Addr }.add (n2.toNat * 1)) [Value.slice p2 k6 k7] 0).frozen? { block := k2, off := 36 } = false) ∧
          (¬k2 ∈ [k5]) ∧
          I3 [] (setCells (setCells w6 ({ block := k2, off := 18 : Addr }.add (n2.toNat * 1)) [Value.slice p2 k6 k7] 0) { block := k2, off := 36 } [Value.bool true] 0))
          (I3 [] w4)) ∧
      ∀ w7 : World,
      (I3 [] w7) →
      (I2 [Value.int IntKind.i64 (IntKind.i64.wrap (n3 + 1))] w7) ∧
      m2 [Value.int IntKind.i64 (IntKind.i64.wrap (n3 + 1))] w7 < m2 [Value.int IntKind.i64 n3] w4)
      ((0 ≤ n2) ∧
      (n2 < 18) ∧
      ∃ p3 : Option Addr,
      ∃ k8 : Nat,
      ∃ k9 : Nat,
      (w4.cell? ({ block := k2, off := 18 : Addr }.add (n2.toNat * 1)) = some (Value.slice p3 k8 k9)) ∧
      (I1 [Value.int IntKind.i64 (IntKind.i64.wrap (IntKind.i64.wrap (2 * n1) + (↑k8 : Int))), Value.int IntKind.i64 (IntKind.i64.wrap (n2 + 1))] w4) ∧
      m1 [Value.int IntKind.i64 (IntKind.i64.wrap (IntKind.i64.wrap (2 * n1) + (↑k8 : Int))), Value.int IntKind.i64 (IntKind.i64.wrap (n2 + 1))] w4 < m1 [Value.int IntKind.i64 n1, Value.int IntKind.i64 n2] w3))
    (∃ l1 : List Value,
    (l1.length = 37) ∧
    (CellsAt w3 ({ block := k2, off := 0 }) l1) ∧
    brB (oneAll l1 && l1.length.beq 37)
      ((CanSet w3 ({ block := k1, off := 0 }) (37)) ∧
      ∃ l2 : List Value,
      (l2.length = 37) ∧
      (CellsAt (setCells w3 { block := k1, off := 0 } l1 0) ({ block := k1, off := 0 }) l2) ∧
      R (Ending.returned (Value.agg l2.toArray)) (setCells w3 { block := k1, off := 0 } l1 0))
      (False))
theorem calls_ref03_Tabled (sa1 : Option Addr) (sl1 sc1 : Nat) (w : World) (R : Ending → World → Prop) (h : vc_ref03_Tabled sa1 sl1 sc1 w R) : Calls P F.ref03_Tabled #[.slice sa1 sl1 sc1] w R :=
  calls_of_vc (fn := Try.f29) (ac := ac_ref03_Tabled) (args := [.slice sa1 sl1 sc1]) mixed Try.func29 (by kernel_rfl) (cast (by unfold vc_ref03_Tabled FnVc; kernel_rfl) h)
/-- darkroom/darkroomref04.tables -/
def vc_ref04_tables (sa1 : Option Addr) (sl1 sc1 : Nat) (b1 : Bool) (x1 : Int) (sa2 : Option Addr) (sl2 sc2 : Nat) (x2 : Int) (x3 : Int) (w : World) (R : Ending → World → Prop) : Prop :=
  ∀ k1 : Nat,
  (w.heap.size ≤ k1) →
  ∀ k2 : Nat,
  (w.heap.size ≤ k2) →
  ∀ w1 : World,
  (Locl ([k2, k1]) w w1) →
  Calls P F.ref04_take #[Value.agg #[Value.slice sa1 sl1 sc1, Value.bool b1, Value.int IntKind.i64 x1, Value.slice sa2 sl2 sc2, Value.int IntKind.i64 x2, Value.int IntKind.i64 x3], Value.int IntKind.i64 5] w1 fun e1 w2 =>
  ∃ p1 : Option Addr,
  ∃ k3 : Nat,
  ∃ k4 : Nat,
  ∃ c1 : Bool,
  ∃ n1 : Int,
  ∃ p2 : Option Addr,
  ∃ k5 : Nat,
  ∃ k6 : Nat,
  ∃ n2 : Int,
  ∃ n3 : Int,
  ∃ n4 : Int,
  (e1 = Ending.returned (Value.tuple #[Value.agg #[Value.slice p1 k3 k4, Value.bool c1, Value.int IntKind.i64 n1, Value.slice p2 k5 k6, Value.int IntKind.i64 n2, Value.int IntKind.i64 n3], Value.int IntKind.i64 n4])) ∧
  (Keep ([k2, k1]) w1 w2) ∧
  ∃ I1 : List Value → World → Prop,
  (brB (n3 == 0)
      (∀ w3 : World,
      (Locl ([k2, k1]) w2 w3) →
      Calls P F.ref04_take #[Value.agg #[Value.slice p1 k3 k4, Value.bool c1, Value.int IntKind.i64 n1, Value.slice p2 k5 k6, Value.int IntKind.i64 n2, Value.int IntKind.i64 n3], Value.int IntKind.i64 5] w3 fun e2 w4 =>
      ∃ p3 : Option Addr,
      ∃ k7 : Nat,
      ∃ k8 : Nat,
      ∃ c2 : Bool,
      ∃ n5 : Int,
      ∃ p4 : Option Addr,
      ∃ k9 : Nat,
      ∃ k10 : Nat,
      ∃ n6 : Int,
      ∃ n7 : Int,
      ∃ n8 : Int,
      (e2 = Ending.returned (Value.tuple #[Value.agg #[Value.slice p3 k7 k8, Value.bool c2, Value.int IntKind.i64 n5, Value.slice p4 k9 k10, Value.int IntKind.i64 n6, Value.int IntKind.i64 n7], Value.int IntKind.i64 n8])) ∧
      (Keep ([k2, k1]) w3 w4) ∧
      ∀ w5 : World,
      (Locl ([k2, k1]) w4 w5) →
      I1 [Value.int IntKind.i64 n8, Value.slice p3 k7 k8, Value.bool c2, Value.int IntKind.i64 n5, Value.slice p4 k9 k10, Value.int IntKind.i64 n6, Value.int IntKind.i64 n7] w5)
      (∀ w6 : World,
      (Locl ([k2, k1]) w2 w6) →
      I1 [Value.int IntKind.i64 0, Value.slice p1 k3 k4, Value.bool c1, Value.int IntKind.i64 n1, Value.slice p2 k5 k6, Value.int IntKind.i64 n2, Value.int IntKind.i64 n3] w6)) ∧
  ∀ n9 : Int,
  ∀ p5 : Option Addr,
  ∀ k11 : Nat,
  ∀ k12 : Nat,
  ∀ c3 : Bool,
  ∀ n10 : Int,
  ∀ p6 : Option Addr,
  ∀ k13 : Nat,
  ∀ k14 : Nat,
  ∀ n11 : Int,
  ∀ n12 : Int,
  ∀ w7 : World,
  (I1 [Value.int IntKind.i64 n9, Value.slice p5 k11 k12, Value.bool c3, Value.int IntKind.i64 n10, Value.slice p6 k13 k14, Value.int IntKind.i64 n11, Value.int IntKind.i64 n12] w7) →
  ∃ I2 : List Value → World → Prop,
  (brB (n12 == 0)
      (Calls P F.ref04_take #[Value.agg #[Value.slice p5 k11 k12, Value.bool c3, Value.int IntKind.i64 n10, Value.slice p6 k13 k14, Value.int IntKind.i64 n11, Value.int IntKind.i64 n12], Value.int IntKind.i64 4] w7 fun e3 w8 =>
      ∃ p7 : Option Addr,
      ∃ k15 : Nat,
      ∃ k16 : Nat,
      ∃ c4 : Bool,
      ∃ n13 : Int,
      ∃ p8 : Option Addr,
      ∃ k17 : Nat,
      ∃ k18 : Nat,
      ∃ n14 : Int,
      ∃ n15 : Int,
      ∃ n16 : Int,
      (e3 = Ending.returned (Value.tuple #[Value.agg #[Value.slice p7 k15 k16, Value.bool c4, Value.int IntKind.i64 n13, Value.slice p8 k17 k18, Value.int IntKind.i64 n14, Value.int IntKind.i64 n15], Value.int IntKind.i64 n16])) ∧
      (Keep ([k2, k1]) w7 w8) ∧
      ∀ w9 : World,
      (Locl ([k2, k1]) w8 w9) →
      I2 [Value.int IntKind.i64 n16, Value.slice p7 k15 k16, Value.bool c4, Value.int IntKind.i64 n13, Value.slice p8 k17 k18, Value.int IntKind.i64 n14, Value.int IntKind.i64 n15] w9)
      (I2 [Value.int IntKind.i64 0, Value.slice p5 k11 k12, Value.bool c3, Value.int IntKind.i64 n10, Value.slice p6 k13 k14, Value.int IntKind.i64 n11, Value.int IntKind.i64 n12] w7)) ∧
  ∀ n17 : Int,
  ∀ p9 : Option Addr,
  ∀ k19 : Nat,
  ∀ k20 : Nat,
  ∀ c5 : Bool,
  ∀ n18 : Int,
  ∀ p10 : Option Addr,
  ∀ k21 : Nat,
  ∀ k22 : Nat,
  ∀ n19 : Int,
  ∀ n20 : Int,
  ∀ w10 : World,
  (I2 [Value.int IntKind.i64 n17, Value.slice p9 k19 k20, Value.bool c5, Value.int IntKind.i64 n18, Value.slice p10 k21 k22, Value.int IntKind.i64 n19, Value.int IntKind.i64 n20] w10) →
  brB (n20 != 0)
    (∀ w11 : World,
    (Locl ([k2, k1]) w10 w11) →
    R (Ending.returned (Value.tuple #[Value.agg #[Value.slice p9 k19 k20, Value.bool c5, Value.int IntKind.i64 n18, Value.slice p10 k21 k22, Value.int IntKind.i64 n19, Value.int IntKind.i64 n20], Value.slice none 0 0, Value.slice none 0 0])) w11)
    (brB (decide (n4 > 29) || decide (n9 > 29))
      (∀ w12 : World,
      (Locl ([k2, k1]) w10 w12) →
      R (Ending.returned (Value.tuple #[Value.agg #[Value.slice p9 k19 k20, Value.bool c5, Value.int IntKind.i64 n18, Value.slice p10 k21 k22, Value.int IntKind.i64 n19, Value.int IntKind.i64 41], Value.slice none 0 0, Value.slice none 0 0])) w12)
      (∀ k23 : Nat,
      ∀ w13 : World,
      (New w10 (Obj.cells #[Value.int IntKind.i64 16, Value.int IntKind.i64 17, Value.int IntKind.i64 18, Value.int IntKind.i64 0, Value.int IntKind.i64 8, Value.int IntKind.i64 7, Value.int IntKind.i64 9, Value.int IntKind.i64 6, Value.int IntKind.i64 10, Value.int IntKind.i64 5, Value.int IntKind.i64 11, Value.int IntKind.i64 4, Value.int IntKind.i64 12, Value.int IntKind.i64 3, Value.int IntKind.i64 13, Value.int IntKind.i64 2, Value.int IntKind.i64 14, Value.int IntKind.i64 1, Value.int IntKind.i64 15] 3) k23 w13) →
      ((0 : Int) ≤ 19) ∧
      ((19 : Int) ≤ 19) ∧
      ((152 : Int) ≤ 281474976710656) ∧
      ((19 : Int) < 4611686018427387904) ∧
      ∀ k24 : Nat,
      ∀ w14 : World,
      (New w13 (Obj.cells (mkCells [Value.int IntKind.i64 0] 19) 3) k24 w14) →
      ∃ I3 : List Value → World → Prop,
      ∃ m1 : List Value → World → Nat,
      (I3 [Value.int IntKind.i64 0, Value.slice p9 k19 k20, Value.bool c5, Value.int IntKind.i64 n18, Value.slice p10 k21 k22, Value.int IntKind.i64 n19, Value.int IntKind.i64 n20, Value.slice none 0 0, Value.bool false, Value.int IntKind.i64 0, Value.slice none 0 0, Value.int IntKind.i64 0, Value.int IntKind.i64 0] w14) ∧
      ∀ n21 : Int,
      ∀ p11 : Option Addr,
      ∀ k25 : Nat,
      ∀ k26 : Nat,
      ∀ c6 : Bool,
      ∀ n22 : Int,
      ∀ p12 : Option Addr,
      ∀ k27 : Nat,
      ∀ k28 : Nat,
      ∀ n23 : Int,
      ∀ n24 : Int,
      ∀ p13 : Option Addr,
      ∀ k29 : Nat,
      ∀ k30 : Nat,
      ∀ c7 : Bool,
      ∀ n25 : Int,
      ∀ p14 : Option Addr,
      ∀ k31 : Nat,
      ∀ k32 : Nat,
      ∀ n26 : Int,
      ∀ n27 : Int,
      ∀ w15 : World,
      (I3 [Value.int IntKind.i64 n21, Value.slice p11 k25 k26, Value.bool c6, Value.int IntKind.i64 n22, Value.slice p12 k27 k28, Value.int IntKind.i64 n23, Value.int IntKind.i64 n24, Value.slice p13 k29 k30, Value.bool c7, Value.int IntKind.i64 n25, Value.slice p14 k31 k32, Value.int IntKind.i64 n26, Value.int IntKind.i64 n27] w15) →
      brB (decide (n21 < IntKind.i64.wrap (n17 + 4)))
        (Calls P F.ref04_take #[Value.agg #[Value.slice p11 k25 k26, Value.bool c6, Value.int IntKind.i64 n22, Value.slice p12 k27 k28, Value.int IntKind.i64 n23, Value.int IntKind.i64 n24], Value.int IntKind.i64 3] w15 fun e4 w16 =>
        ∃ p15 : Option Addr,
        ∃ k33 : Nat,
        ∃ k34 : Nat,
        ∃ c8 : Bool,
        ∃ n28 : Int,
        ∃ p16 : Option Addr,
        ∃ k35 : Nat,
        ∃ k36 : Nat,
        ∃ n29 : Int,
        ∃ n30 : Int,
        ∃ n31 : Int,
        (e4 = Ending.returned (Value.tuple #[Value.agg #[Value.slice p15 k33 k34, Value.bool c8, Value.int IntKind.i64 n28, Value.slice p16 k35 k36, Value.int IntKind.i64 n29, Value.int IntKind.i64 n30], Value.int IntKind.i64 n31])) ∧
        (Keep ([k2, k1]) w15 w16) ∧
        brB (n30 != 0)
          (∀ w17 : World,
          (Locl ([k2, k1]) w16 w17) →
          R (Ending.returned (Value.tuple #[Value.agg #[Value.slice p15 k33 k34, Value.bool c8, Value.int IntKind.i64 n28, Value.slice p16 k35 k36, Value.int IntKind.i64 n29, Value.int IntKind.i64 n30], Value.slice none 0 0, Value.slice none 0 0])) w17)
          (idx (some { block := k23, off := 0 }) (19) (n21) (1) fun a1 =>
          ∀ w18 : World,
          (Locl ([k2, k1]) w16 w18) →
          ∃ n32 : Int,
          (w18.cell? a1 = some (Value.int IntKind.i64 n32)) ∧
          idx (some { block := k24, off := 0 }) (19) (n32) (1) fun a2 =>
          (∃ v1 : Value,
            w18.cell? a2 = some v1) ∧
          (w18.frozen? a2 = false) ∧
          (¬a2.block ∈ [k2, k1]) ∧
          (I3 [Value.int IntKind.i64 (IntKind.i64.wrap (n21 + 1)), Value.slice p15 k33 k34, Value.bool c8, Value.int IntKind.i64 n28, Value.slice p16 k35 k36, Value.int IntKind.i64 n29, Value.int IntKind.i64 n30, Value.slice p13 k29 k30, Value.bool c7, Value.int IntKind.i64 n25, Value.slice p14 k31 k32, Value.int IntKind.i64 n26, Value.int IntKind.i64 n27] (setCells w18 a2 [Value.int IntKind.i64 n31] 0)) ∧
          m1 [Value.int IntKind.i64 (IntKind.i64.wrap (n21 + 1)), Value.slice p15 k33 k34, Value.bool c8, Value.int IntKind.i64 n28, Value.slice p16 k35 k36, Value.int IntKind.i64 n29, Value.int IntKind.i64 n30, Value.slice p13 k29 k30, Value.bool c7, Value.int IntKind.i64 n25, Value.slice p14 k31 k32, Value.int IntKind.i64 n26, Value.int IntKind.i64 n27] (setCells w18 a2 [Value.int IntKind.i64 n31] 0) < m1 [Value.int IntKind.i64 n21, Value.slice p11 k25 k26, Value.bool c6, Value.int IntKind.i64 n22, Value.slice p12 k27 k28, Value.int IntKind.i64 n23, Value.int IntKind.i64 n24, Value.slice p13 k29 k30, Value.bool c7, Value.int IntKind.i64 n25, Value.slice p14 k31 k32, Value.int IntKind.i64 n26, Value.int IntKind.i64 n27] w15))
        (Calls P F.ref04_may #[Value.slice (some { block := k24, off := 0 }) 19 19, Value.bool false] w15 fun e5 w19 =>
        ∃ c9 : Bool,
        (e5 = Ending.returned (Value.bool c9)) ∧
        (Keep ([k2, k1]) w15 w19) ∧
        brB (!c9)
          (∀ w20 : World,
          (Locl ([k2, k1]) w19 w20) →
          R (Ending.returned (Value.tuple #[Value.agg #[Value.slice p11 k25 k26, Value.bool c6, Value.int IntKind.i64 n22, Value.slice p12 k27 k28, Value.int IntKind.i64 n23, Value.int IntKind.i64 41], Value.slice none 0 0, Value.slice none 0 0])) w20)
          (Calls P F.ref03_Tabled #[Value.slice (some { block := k24, off := 0 }) 19 19] (w19.drew) fun e6 w21 =>
          ∃ l1 : List Value,
          (l1.length = 37) ∧
          (e6 = Ending.returned (Value.agg l1.toArray)) ∧
          (Keep ([k2, k1]) (w19.drew) w21) ∧
          (Keeps (w19.drew) w21) ∧
          Calls P F.ref04_row #[Value.agg #[Value.slice p11 k25 k26, Value.bool c6, Value.int IntKind.i64 n22, Value.slice p12 k27 k28, Value.int IntKind.i64 n23, Value.int IntKind.i64 n24], Value.agg l1.toArray, Value.int IntKind.i64 (IntKind.i64.wrap (IntKind.i64.wrap (IntKind.i64.wrap (n4 + 257) + n9) + 1))] w21 fun e7 w22 =>
          ∃ p17 : Option Addr,
          ∃ k37 : Nat,
          ∃ k38 : Nat,
          ∃ c10 : Bool,
          ∃ n33 : Int,
          ∃ p18 : Option Addr,
          ∃ k39 : Nat,
          ∃ k40 : Nat,
          ∃ n34 : Int,
          ∃ n35 : Int,
          ∃ p19 : Option Addr,
          ∃ k41 : Nat,
          ∃ k42 : Nat,
          (e7 = Ending.returned (Value.tuple #[Value.agg #[Value.slice p17 k37 k38, Value.bool c10, Value.int IntKind.i64 n33, Value.slice p18 k39 k40, Value.int IntKind.i64 n34, Value.int IntKind.i64 n35], Value.slice p19 k41 k42])) ∧
          (Keep ([k2, k1]) w21 w22) ∧
          brB (n35 != 0)
            (∀ w23 : World,
            (Locl ([k2, k1]) w22 w23) →
            R (Ending.returned (Value.tuple #[Value.agg #[Value.slice p17 k37 k38, Value.bool c10, Value.int IntKind.i64 n33, Value.slice p18 k39 k40, Value.int IntKind.i64 n34, Value.int IntKind.i64 n35], Value.slice none 0 0, Value.slice none 0 0])) w23)
            (slcc (p19) (k42) (0) (IntKind.i64.wrap (n4 + 257)) (1) fun p20 k43 k44 =>
            slcc (p19) (k42) (IntKind.i64.wrap (n4 + 257)) ((↑k41 : Int)) (1) fun p21 k45 k46 =>
            idx (p20) (k43) (256) (1) fun a3 =>
            ∀ w24 : World,
            (Locl ([k2, k1]) w22 w24) →
            ∃ n36 : Int,
            (w24.cell? a3 = some (Value.int IntKind.i64 n36)) ∧
            brB (n36 == 0)
              (∀ w25 : World,
              (Locl ([k2, k1]) w24 w25) →
              R (Ending.returned (Value.tuple #[Value.agg #[Value.slice p17 k37 k38, Value.bool c10, Value.int IntKind.i64 n33, Value.slice p18 k39 k40, Value.int IntKind.i64 n34, Value.int IntKind.i64 41], Value.slice p20 k43 k44, Value.slice p21 k45 k46])) w25)
              (Calls P F.ref04_may #[Value.slice p20 k43 k44, Value.bool false] w24 fun e8 w26 =>
              ∃ c11 : Bool,
              (e8 = Ending.returned (Value.bool c11)) ∧
              (Keep ([k2, k1]) w24 w26) ∧
              brB (!c11)
                (∀ w27 : World,
                (Locl ([k2, k1]) w26 w27) →
                R (Ending.returned (Value.tuple #[Value.agg #[Value.slice p17 k37 k38, Value.bool c10, Value.int IntKind.i64 n33, Value.slice p18 k39 k40, Value.int IntKind.i64 n34, Value.int IntKind.i64 41], Value.slice p20 k43 k44, Value.slice p21 k45 k46])) w27)
                (Calls P F.ref04_may #[Value.slice p21 k45 k46, Value.bool true] w26 fun e9 w28 =>
                ∃ c12 : Bool,
                (e9 = Ending.returned (Value.bool c12)) ∧
                (Keep ([k2, k1]) w26 w28) ∧
                brB (!c12)
                  (∀ w29 : World,
                  (Locl ([k2, k1]) w28 w29) →
                  R (Ending.returned (Value.tuple #[Value.agg #[Value.slice p17 k37 k38, Value.bool c10, Value.int IntKind.i64 n33, Value.slice p18 k39 k40, Value.int IntKind.i64 n34, Value.int IntKind.i64 41], Value.slice p20 k43 k44, Value.slice p21 k45 k46])) w29)
                  (∀ w30 : World,
                  (Locl ([k2, k1]) w28 w30) →
                  R (Ending.returned (Value.tuple #[Value.agg #[Value.slice p17 k37 k38, Value.bool c10, Value.int IntKind.i64 n33, Value.slice p18 k39 k40, Value.int IntKind.i64 n34, Value.int IntKind.i64 n35], Value.slice p20 k43 k44, Value.slice p21 k45 k46])) w30))))))))
theorem calls_ref04_tables (sa1 : Option Addr) (sl1 sc1 : Nat) (b1 : Bool) (x1 : Int) (sa2 : Option Addr) (sl2 sc2 : Nat) (x2 : Int) (x3 : Int) (w : World) (R : Ending → World → Prop) (h : vc_ref04_tables sa1 sl1 sc1 b1 x1 sa2 sl2 sc2 x2 x3 w R) : Calls P F.ref04_tables #[.agg #[.slice sa1 sl1 sc1, .bool b1, .int .i64 x1, .slice sa2 sl2 sc2, .int .i64 x2, .int .i64 x3]] w R :=
  calls_of_vc (fn := Try.f30) (ac := ac_ref04_tables) (args := [.agg #[.slice sa1 sl1 sc1, .bool b1, .int .i64 x1, .slice sa2 sl2 sc2, .int .i64 x2, .int .i64 x3]]) mixed Try.func30 (by kernel_rfl) (cast (by unfold vc_ref04_tables FnVc; kernel_rfl) h)
/-- darkroom/bits.Get -/
def vc_bits_Get (sa1 : Option Addr) (sl1 sc1 : Nat) (x1 : Int) (x2 : Int) (b1 : Bool) (w : World) (R : Ending → World → Prop) : Prop :=
  Calls P F.bits_there #[Value.slice sa1 sl1 sc1, Value.int IntKind.i64 x1, Value.int IntKind.i64 x2] w fun e1 w1 =>
  ∃ n1 : Int,
  (e1 = Ending.returned (Value.int IntKind.i64 n1)) ∧
  brB (n1 != 0)
    (R (Ending.returned (Value.tuple #[Value.int IntKind.u32 0, Value.int IntKind.i64 n1])) w1)
    (∃ I1 : List Value → World → Prop,
    ∃ m1 : List Value → World → Nat,
    (I1 [Value.int IntKind.u32 0, Value.int IntKind.i64 0] w1) ∧
    ∀ n2 : Int,
    ∀ n3 : Int,
    ∀ w2 : World,
    (I1 [Value.int IntKind.u32 n2, Value.int IntKind.i64 n3] w2) →
    brB (decide (n3 < x2))
      (∃ I2 : List Value → World → Prop,
      (brB (b1)
          (idx (sa1) (sl1) (IntKind.i64.wrap (x1 + n3)) (1) fun a1 =>
          ∃ n4 : Int,
          (w2.cell? a1 = some (Value.int IntKind.u8 n4)) ∧
          I2 [Value.int IntKind.u32 (IntKind.u32.wrap (bitsZ BinOp.or IntKind.u32 (shiftZ BinOp.shl IntKind.u32 n2 8) (IntKind.u32.wrap n4)))] w2)
          (idx (sa1) (sl1) (IntKind.i64.wrap (IntKind.i64.wrap (IntKind.i64.wrap (x1 + x2) - 1) - n3)) (1) fun a2 =>
          ∃ n5 : Int,
          (w2.cell? a2 = some (Value.int IntKind.u8 n5)) ∧
          I2 [Value.int IntKind.u32 (IntKind.u32.wrap (bitsZ BinOp.or IntKind.u32 (shiftZ BinOp.shl IntKind.u32 n2 8) (IntKind.u32.wrap n5)))] w2)) ∧
      ∀ n6 : Int,
      ∀ w3 : World,
      (I2 [Value.int IntKind.u32 n6] w3) →
      (I1 [Value.int IntKind.u32 n6, Value.int IntKind.i64 (IntKind.i64.wrap (n3 + 1))] w3) ∧
      m1 [Value.int IntKind.u32 n6, Value.int IntKind.i64 (IntKind.i64.wrap (n3 + 1))] w3 < m1 [Value.int IntKind.u32 n2, Value.int IntKind.i64 n3] w2)
      (R (Ending.returned (Value.tuple #[Value.int IntKind.u32 n2, Value.int IntKind.i64 0])) w2))
theorem calls_bits_Get (sa1 : Option Addr) (sl1 sc1 : Nat) (x1 : Int) (x2 : Int) (b1 : Bool) (w : World) (R : Ending → World → Prop) (h : vc_bits_Get sa1 sl1 sc1 x1 x2 b1 w R) : Calls P F.bits_Get #[.slice sa1 sl1 sc1, .int .i64 x1, .int .i64 x2, .bool b1] w R :=
  calls_of_vc (fn := Try.f31) (ac := ac_bits_Get) (args := [.slice sa1 sl1 sc1, .int .i64 x1, .int .i64 x2, .bool b1]) mixed Try.func31 (by kernel_rfl) (cast (by unfold vc_bits_Get FnVc; kernel_rfl) h)
/-- darkroom/sums.Adler -/
def vc_sums_Adler (sa1 : Option Addr) (sl1 sc1 : Nat) (w : World) (R : Ending → World → Prop) : Prop :=
  Calls P F.sums_AdlerOn #[Value.int IntKind.u32 1, Value.slice sa1 sl1 sc1] w fun e1 w1 =>
  ∃ n1 : Int,
  (e1 = Ending.returned (Value.int IntKind.u32 n1)) ∧
  R (Ending.returned (Value.int IntKind.u32 n1)) w1
theorem calls_sums_Adler (sa1 : Option Addr) (sl1 sc1 : Nat) (w : World) (R : Ending → World → Prop) (h : vc_sums_Adler sa1 sl1 sc1 w R) : Calls P F.sums_Adler #[.slice sa1 sl1 sc1] w R :=
  calls_of_vc (fn := Try.f32) (ac := ac_sums_Adler) (args := [.slice sa1 sl1 sc1]) mixed Try.func32 (by kernel_rfl) (cast (by unfold vc_sums_Adler FnVc; kernel_rfl) h)
/-- darkroom/darkroomref01.Get -/
def vc_ref01_Get (sa1 : Option Addr) (sl1 sc1 : Nat) (x1 : Int) (x2 : Int) (b1 : Bool) (w : World) (R : Ending → World → Prop) : Prop :=
  brB (decide (x2 < 1) || decide (x2 > 4))
    (R (Ending.returned (Value.tuple #[Value.int IntKind.u32 0, Value.int IntKind.i64 2])) w)
    (brB (decide (x1 < 0) || decide (x1 > (↑sl1 : Int)) || decide (x2 > IntKind.i64.wrap ((↑sl1 : Int) - x1)))
      (R (Ending.returned (Value.tuple #[Value.int IntKind.u32 0, Value.int IntKind.i64 5])) w)
      (∃ I1 : List Value → World → Prop,
      ∃ m1 : List Value → World → Nat,
      (I1 [Value.int IntKind.u32 0, Value.int IntKind.i64 0] w) ∧
      ∀ n1 : Int,
      ∀ n2 : Int,
      ∀ w1 : World,
      (I1 [Value.int IntKind.u32 n1, Value.int IntKind.i64 n2] w1) →
      brB (decide (n2 < x2))
        (∃ I2 : List Value → World → Prop,
        (brB (b1)
            (idx (sa1) (sl1) (IntKind.i64.wrap (x1 + n2)) (1) fun a1 =>
            ∃ n3 : Int,
            (w1.cell? a1 = some (Value.int IntKind.u8 n3)) ∧
            I2 [Value.int IntKind.u32 (IntKind.u32.wrap (IntKind.u32.wrap (256 * n1) + IntKind.u32.wrap n3))] w1)
            (idx (sa1) (sl1) (IntKind.i64.wrap (x1 + n2)) (1) fun a2 =>
            ∃ n4 : Int,
            (w1.cell? a2 = some (Value.int IntKind.u8 n4)) ∧
            (0 ≤ IntKind.u64.wrap (IntKind.i64.wrap (8 * n2))) ∧
            I2 [Value.int IntKind.u32 (IntKind.u32.wrap (n1 + shiftZ BinOp.shl IntKind.u32 (IntKind.u32.wrap n4) (IntKind.u64.wrap (IntKind.i64.wrap (8 * n2)))))] w1)) ∧
        ∀ n5 : Int,
        ∀ w2 : World,
        (I2 [Value.int IntKind.u32 n5] w2) →
        (I1 [Value.int IntKind.u32 n5, Value.int IntKind.i64 (IntKind.i64.wrap (n2 + 1))] w2) ∧
        m1 [Value.int IntKind.u32 n5, Value.int IntKind.i64 (IntKind.i64.wrap (n2 + 1))] w2 < m1 [Value.int IntKind.u32 n1, Value.int IntKind.i64 n2] w1)
        (R (Ending.returned (Value.tuple #[Value.int IntKind.u32 n1, Value.int IntKind.i64 0])) w1)))
theorem calls_ref01_Get (sa1 : Option Addr) (sl1 sc1 : Nat) (x1 : Int) (x2 : Int) (b1 : Bool) (w : World) (R : Ending → World → Prop) (h : vc_ref01_Get sa1 sl1 sc1 x1 x2 b1 w R) : Calls P F.ref01_Get #[.slice sa1 sl1 sc1, .int .i64 x1, .int .i64 x2, .bool b1] w R :=
  calls_of_vc (fn := Try.f33) (ac := ac_ref01_Get) (args := [.slice sa1 sl1 sc1, .int .i64 x1, .int .i64 x2, .bool b1]) mixed Try.func33 (by kernel_rfl) (cast (by unfold vc_ref01_Get FnVc; kernel_rfl) h)
/-- darkroom/darkroomref02.AdlerOn -/
def vc_ref02_AdlerOn (x1 : Int) (sa1 : Option Addr) (sl1 sc1 : Nat) (w : World) (R : Ending → World → Prop) : Prop :=
  ∃ I1 : List Value → World → Prop,
  ∃ m1 : List Value → World → Nat,
  (I1 [Value.int IntKind.u32 (divZ BinOp.rem IntKind.u32 (divZ BinOp.rem IntKind.u32 x1 65536) 65521), Value.int IntKind.u32 (divZ BinOp.rem IntKind.u32 (divZ BinOp.quo IntKind.u32 x1 65536) 65521), Value.int IntKind.i64 0] w) ∧
  ∀ n1 : Int,
  ∀ n2 : Int,
  ∀ n3 : Int,
  ∀ w1 : World,
  (I1 [Value.int IntKind.u32 n1, Value.int IntKind.u32 n2, Value.int IntKind.i64 n3] w1) →
  brB (decide (n3 < (↑sl1 : Int)))
    (idx (sa1) (sl1) (n3) (1) fun a1 =>
    ∃ n4 : Int,
    (w1.cell? a1 = some (Value.int IntKind.u8 n4)) ∧
    (I1 [Value.int IntKind.u32 (divZ BinOp.rem IntKind.u32 (IntKind.u32.wrap (n1 + IntKind.u32.wrap n4)) 65521), Value.int IntKind.u32 (divZ BinOp.rem IntKind.u32 (IntKind.u32.wrap (n2 + divZ BinOp.rem IntKind.u32 (IntKind.u32.wrap (n1 + IntKind.u32.wrap n4)) 65521)) 65521), Value.int IntKind.i64 (IntKind.i64.wrap (n3 + 1))] w1) ∧
    m1 [Value.int IntKind.u32 (divZ BinOp.rem IntKind.u32 (IntKind.u32.wrap (n1 + IntKind.u32.wrap n4)) 65521), Value.int IntKind.u32 (divZ BinOp.rem IntKind.u32 (IntKind.u32.wrap (n2 + divZ BinOp.rem IntKind.u32 (IntKind.u32.wrap (n1 + IntKind.u32.wrap n4)) 65521)) 65521), Value.int IntKind.i64 (IntKind.i64.wrap (n3 + 1))] w1 < m1 [Value.int IntKind.u32 n1, Value.int IntKind.u32 n2, Value.int IntKind.i64 n3] w1)
    (R (Ending.returned (Value.int IntKind.u32 (IntKind.u32.wrap (IntKind.u32.wrap (65536 * n2) + n1)))) w1)
theorem calls_ref02_AdlerOn (x1 : Int) (sa1 : Option Addr) (sl1 sc1 : Nat) (w : World) (R : Ending → World → Prop) (h : vc_ref02_AdlerOn x1 sa1 sl1 sc1 w R) : Calls P F.ref02_AdlerOn #[.int .u32 x1, .slice sa1 sl1 sc1] w R :=
  calls_of_vc (fn := Try.f34) (ac := ac_ref02_AdlerOn) (args := [.int .u32 x1, .slice sa1 sl1 sc1]) mixed Try.func34 (by kernel_rfl) (cast (by unfold vc_ref02_AdlerOn FnVc; kernel_rfl) h)
/-- slices.Clone[[]byte,byte] -/
def vc_slices_Clone_byte (sa1 : Option Addr) (sl1 sc1 : Nat) (w : World) (R : Ending → World → Prop) : Prop :=
  brB (sa1.isNone)
    (R (Ending.returned (Value.slice none 0 0)) w)
    (∀ k1 : Nat,
    ∀ w1 : World,
    (New w (Obj.cells #[] 5) k1 w1) →
    ∃ l1 : List Value,
    (l1.length = sl1 * 1) ∧
    (oneAll l1 = true) ∧
    (CellsAre w1 sa1 l1) ∧
    appVC (w1) ([]) (some { block := k1, off := 0 }) (0) (0) (sl1) (1) (1) (5) ([Value.int IntKind.u8 0]) (l1) fun p1 k2 k3 w2 =>
    R (Ending.returned (Value.slice p1 k2 k3)) w2)
theorem calls_slices_Clone_byte (sa1 : Option Addr) (sl1 sc1 : Nat) (w : World) (R : Ending → World → Prop) (h : vc_slices_Clone_byte sa1 sl1 sc1 w R) : Calls P F.slices_Clone_byte #[.slice sa1 sl1 sc1] w R :=
  calls_of_vc (fn := Try.f35) (ac := ac_slices_Clone_byte) (args := [.slice sa1 sl1 sc1]) mixed Try.func35 (by kernel_rfl) (cast (by unfold vc_slices_Clone_byte FnVc; kernel_rfl) h)
/-- darkroom/bits.order -/
def vc_bits_order (b1 : Bool) (w : World) (R : Ending → World → Prop) : Prop :=
  brB (b1)
    (R (Ending.returned (Value.func (Fn.func 55) #[] #[])) w)
    (R (Ending.returned (Value.func (Fn.func 56) #[] #[])) w)
theorem calls_bits_order (b1 : Bool) (w : World) (R : Ending → World → Prop) (h : vc_bits_order b1 w R) : Calls P F.bits_order #[.bool b1] w R :=
  calls_of_vc (fn := Try.f36) (ac := ac_bits_order) (args := [.bool b1]) mixed Try.func36 (by kernel_rfl) (cast (by unfold vc_bits_order FnVc; kernel_rfl) h)
/-- (*darkroom/bits.Reader).Take -/
def vc_bits_Reader_Take (q1 : Option Addr) (x1 : Int) (w : World) (R : Ending → World → Prop) : Prop :=
  brB (q1.isNone)
    (R (Ending.returned (Value.tuple #[Value.int IntKind.u32 0, Value.int IntKind.i64 1])) w)
    (brB (decide (x1 < 0) || decide (x1 > 32))
      (R (Ending.returned (Value.tuple #[Value.int IntKind.u32 0, Value.int IntKind.i64 2])) w)
      (Calls P F.bits_Reader_Left #[Value.pointer q1] w fun e1 w1 =>
      ∃ n1 : Int,
      (e1 = Ending.returned (Value.int IntKind.i64 n1)) ∧
      brB (decide (x1 > n1))
        (R (Ending.returned (Value.tuple #[Value.int IntKind.u32 0, Value.int IntKind.i64 5])) w1)
        (∃ I1 : List Value → World → Prop,
        ∃ m1 : List Value → World → Nat,
        (I1 [Value.int IntKind.u32 0, Value.int IntKind.i64 0] w1) ∧
        ∀ n2 : Int,
        ∀ n3 : Int,
        ∀ w2 : World,
        (I1 [Value.int IntKind.u32 n2, Value.int IntKind.i64 n3] w2) →
        brB (decide (n3 < x1))
          (∃ I2 : List Value → World → Prop,
          (nn (q1) fun a1 =>
            ∃ p1 : Option Addr,
            ∃ k1 : Nat,
            ∃ k2 : Nat,
            (w2.drew.cell? a1 = some (Value.slice p1 k1 k2)) ∧
            nn (q1) fun a2 =>
            ∃ n4 : Int,
            (w2.drew.cell? (a2.add 1) = some (Value.int IntKind.i64 n4)) ∧
            idx (p1) (k1) (divZ BinOp.quo IntKind.i64 n4 8) (1) fun a3 =>
            ∃ n5 : Int,
            (w2.drew.cell? a3 = some (Value.int IntKind.u8 n5)) ∧
            nn (q1) fun a4 =>
            ∃ y1 : FuncId,
            ∃ y2 : Array Value,
            ∃ y3 : Array Value,
            (w2.drew.cell? (a4.add 3) = some (Value.func (Fn.func y1) y2 y3)) ∧
            nn (q1) fun a5 =>
            ∃ n6 : Int,
            (w2.drew.cell? (a5.add 1) = some (Value.int IntKind.i64 n6)) ∧
            callV P (Value.func (Fn.func y1) y2 y3) [Value.int IntKind.i64 n6] (w2.drew) fun e2 w3 =>
            ∃ n7 : Int,
            (e2 = Ending.returned (Value.int IntKind.u64 n7)) ∧
            (Keeps (w2.drew) w3) ∧
            (0 ≤ n7) ∧
            nn (q1) fun a6 =>
            ∃ n8 : Int,
            (w3.cell? (a6.add 1) = some (Value.int IntKind.i64 n8)) ∧
            nn (q1) fun a7 =>
            (∃ v1 : Value,
              w3.cell? (a7.add 1) = some v1) ∧
            (w3.frozen? (a7.add 1) = false) ∧
            nn (q1) fun a8 =>
            ∃ c1 : Bool,
            ((setCells w3 (a7.add 1) [Value.int IntKind.i64 (IntKind.i64.wrap (n8 + 1))] 0).cell? (a8.add 2) = some (Value.bool c1)) ∧
            brB (c1)
              (I2 [Value.int IntKind.u32 (IntKind.u32.wrap (bitsZ BinOp.or IntKind.u32 (shiftZ BinOp.shl IntKind.u32 n2 1) (IntKind.u32.wrap (bitsZ BinOp.and IntKind.u32 (IntKind.u32.wrap (shiftZ BinOp.shr IntKind.u8 n5 n7)) 1))))] (setCells w3 (a7.add 1) [Value.int IntKind.i64 (IntKind.i64.wrap (n8 + 1))] 0))
              ((0 ≤ n3) ∧
              I2 [Value.int IntKind.u32 (IntKind.u32.wrap (bitsZ BinOp.or IntKind.u32 n2 (shiftZ BinOp.shl IntKind.u32 (IntKind.u32.wrap (bitsZ BinOp.and IntKind.u32 (IntKind.u32.wrap (shiftZ BinOp.shr IntKind.u8 n5 n7)) 1)) n3)))] (setCells w3 (a7.add 1) [Value.int IntKind.i64 (IntKind.i64.wrap (n8 + 1))] 0))) ∧
          ∀ n9 : Int,
          ∀ w4 : World,
          (I2 [Value.int IntKind.u32 n9] w4) →
          (I1 [Value.int IntKind.u32 n9, Value.int IntKind.i64 (IntKind.i64.wrap (n3 + 1))] w4) ∧
          m1 [Value.int IntKind.u32 n9, Value.int IntKind.i64 (IntKind.i64.wrap (n3 + 1))] w4 < m1 [Value.int IntKind.u32 n2, Value.int IntKind.i64 n3] w2)
          (R (Ending.returned (Value.tuple #[Value.int IntKind.u32 n2, Value.int IntKind.i64 0])) w2))))
theorem calls_bits_Reader_Take (q1 : Option Addr) (x1 : Int) (w : World) (R : Ending → World → Prop) (h : vc_bits_Reader_Take q1 x1 w R) : Calls P F.bits_Reader_Take #[.pointer q1, .int .i64 x1] w R :=
  calls_of_vc (fn := Try.f37) (ac := ac_bits_Reader_Take) (args := [.pointer q1, .int .i64 x1]) mixed Try.func37 (by kernel_rfl) (cast (by unfold vc_bits_Reader_Take FnVc; kernel_rfl) h)
/-- darkroom/inflate.must -/
def vc_inflate_must (x1 : Int) (w : World) (R : Ending → World → Prop) : Prop :=
  brB (x1 != 0)
    ((∃ y1 : TypeId,
      ∃ v1 : Value,
      Value.iface 49 (Value.agg #[Value.int IntKind.i64 x1]) = Value.iface y1 v1) ∧
    R (Ending.panicked [{ v := Value.iface 49 (Value.agg #[Value.int IntKind.i64 x1]), recovered := false }]) w)
    (R (Ending.returned (Value.tuple #[])) w)
theorem calls_inflate_must (x1 : Int) (w : World) (R : Ending → World → Prop) (h : vc_inflate_must x1 w R) : Calls P F.inflate_must #[.int .i64 x1] w R :=
  calls_of_vc (fn := Try.f38) (ac := ac_inflate_must) (args := [.int .i64 x1]) mixed Try.func38 (by kernel_rfl) (cast (by unfold vc_inflate_must FnVc; kernel_rfl) h)
/-- (*darkroom/bits.Reader).Align -/
def vc_bits_Reader_Align (q1 : Option Addr) (w : World) (R : Ending → World → Prop) : Prop :=
  brB (!q1.isNone)
    (Calls P F.bits_Reader_border #[Value.pointer q1] w fun e1 w1 =>
    ∃ n1 : Int,
    (e1 = Ending.returned (Value.int IntKind.i64 n1)) ∧
    nn (q1) fun a1 =>
    (∃ v1 : Value,
      w1.cell? (a1.add 1) = some v1) ∧
    (w1.frozen? (a1.add 1) = false) ∧
    R (Ending.returned (Value.tuple #[])) (setCells w1 (a1.add 1) [Value.int IntKind.i64 (IntKind.i64.wrap (8 * n1))] 0))
    (R (Ending.returned (Value.tuple #[])) w)
theorem calls_bits_Reader_Align (q1 : Option Addr) (w : World) (R : Ending → World → Prop) (h : vc_bits_Reader_Align q1 w R) : Calls P F.bits_Reader_Align #[.pointer q1] w R :=
  calls_of_vc (fn := Try.f39) (ac := ac_bits_Reader_Align) (args := [.pointer q1]) mixed Try.func39 (by kernel_rfl) (cast (by unfold vc_bits_Reader_Align FnVc; kernel_rfl) h)
/-- (*darkroom/inflate.reader).room -/
def vc_inflate_reader_room (q1 : Option Addr) (x1 : Int) (w : World) (R : Ending → World → Prop) : Prop :=
  nn (q1) fun a1 =>
  ∃ n1 : Int,
  (w.drew.cell? (a1.add 2) = some (Value.int IntKind.i64 n1)) ∧
  nn (q1) fun a2 =>
  ∃ p1 : Option Addr,
  ∃ k1 : Nat,
  ∃ k2 : Nat,
  (w.drew.cell? (a2.add 1) = some (Value.slice p1 k1 k2)) ∧
  brB (decide (x1 > IntKind.i64.wrap (n1 - (↑k1 : Int))))
    ((∃ y1 : TypeId,
      ∃ v1 : Value,
      Value.iface 49 (Value.agg #[Value.int IntKind.i64 3]) = Value.iface y1 v1) ∧
    R (Ending.panicked [{ v := Value.iface 49 (Value.agg #[Value.int IntKind.i64 3]), recovered := false }]) w.drew)
    (R (Ending.returned (Value.tuple #[])) w.drew)
theorem calls_inflate_reader_room (q1 : Option Addr) (x1 : Int) (w : World) (R : Ending → World → Prop) (h : vc_inflate_reader_room q1 x1 w R) : Calls P F.inflate_reader_room #[.pointer q1, .int .i64 x1] w R :=
  calls_of_vc (fn := Try.f40) (ac := ac_inflate_reader_room) (args := [.pointer q1, .int .i64 x1]) mixed Try.func40 (by kernel_rfl) (cast (by unfold vc_inflate_reader_room FnVc; kernel_rfl) h)
/-- (*darkroom/bits.Reader).Bytes -/
def vc_bits_Reader_Bytes (q1 : Option Addr) (x1 : Int) (w : World) (R : Ending → World → Prop) : Prop :=
  brB (q1.isNone)
    (R (Ending.returned (Value.tuple #[Value.slice none 0 0, Value.int IntKind.i64 1])) w)
    (brB (decide (x1 < 0))
      (R (Ending.returned (Value.tuple #[Value.slice none 0 0, Value.int IntKind.i64 2])) w)
      (nn (q1) fun a1 =>
      ∃ p1 : Option Addr,
      ∃ k1 : Nat,
      ∃ k2 : Nat,
      (w.drew.cell? a1 = some (Value.slice p1 k1 k2)) ∧
      Calls P F.bits_Reader_border #[Value.pointer q1] (w.drew) fun e1 w1 =>
      ∃ n1 : Int,
      (e1 = Ending.returned (Value.int IntKind.i64 n1)) ∧
      (Keeps (w.drew) w1) ∧
      brB (decide (x1 > IntKind.i64.wrap ((↑k1 : Int) - n1)))
        (R (Ending.returned (Value.tuple #[Value.slice none 0 0, Value.int IntKind.i64 5])) w1)
        (Calls P F.bits_Reader_border #[Value.pointer q1] w1 fun e2 w2 =>
        ∃ n2 : Int,
        (e2 = Ending.returned (Value.int IntKind.i64 n2)) ∧
        nn (q1) fun a2 =>
        (∃ v1 : Value,
          w2.cell? (a2.add 1) = some v1) ∧
        (w2.frozen? (a2.add 1) = false) ∧
        nn (q1) fun a3 =>
        ∃ p2 : Option Addr,
        ∃ k3 : Nat,
        ∃ k4 : Nat,
        ((setCells w2 (a2.add 1) [Value.int IntKind.i64 (IntKind.i64.wrap (8 * IntKind.i64.wrap (n2 + x1)))] 0).cell? a3 = some (Value.slice p2 k3 k4)) ∧
        slcc (p2) (k4) (n2) (IntKind.i64.wrap (n2 + x1)) (1) fun p3 k5 k6 =>
        Calls P F.slices_Clone_byte #[Value.slice p3 k5 k6] (setCells w2 (a2.add 1) [Value.int IntKind.i64 (IntKind.i64.wrap (8 * IntKind.i64.wrap (n2 + x1)))] 0) fun e3 w3 =>
        ∃ p4 : Option Addr,
        ∃ k7 : Nat,
        ∃ k8 : Nat,
        (e3 = Ending.returned (Value.slice p4 k7 k8)) ∧
        R (Ending.returned (Value.tuple #[Value.slice p4 k7 k8, Value.int IntKind.i64 0])) w3)))
theorem calls_bits_Reader_Bytes (q1 : Option Addr) (x1 : Int) (w : World) (R : Ending → World → Prop) (h : vc_bits_Reader_Bytes q1 x1 w R) : Calls P F.bits_Reader_Bytes #[.pointer q1, .int .i64 x1] w R :=
  calls_of_vc (fn := Try.f41) (ac := ac_bits_Reader_Bytes) (args := [.pointer q1, .int .i64 x1]) mixed Try.func41 (by kernel_rfl) (cast (by unfold vc_bits_Reader_Bytes FnVc; kernel_rfl) h)
/-- (*darkroom/inflate.reader).next -/
def vc_inflate_reader_next (q1 : Option Addr) (q2 : Option Addr) (w : World) (R : Ending → World → Prop) : Prop :=
  nn (q1) fun a1 =>
  ∃ p1 : Option Addr,
  (w.cell? a1 = some (Value.pointer p1)) ∧
  Calls P F.prefix_Decoder_Next #[Value.pointer q2, Value.pointer p1] w fun e1 w1 =>
  ∃ n1 : Int,
  ∃ n2 : Int,
  (e1 = Ending.returned (Value.tuple #[Value.int IntKind.i64 n1, Value.int IntKind.i64 n2])) ∧
  Calls P F.inflate_must #[Value.int IntKind.i64 n2] w1 fun e2 w2 =>
  (((e2 = Ending.returned (Value.tuple #[])) ∧
    R (Ending.returned (Value.int IntKind.i64 n1)) w2) ∨
  (∃ l1 : List PanicEntry,
    (e2 = Ending.panicked l1) ∧
    R (Ending.panicked l1) w2))
theorem calls_inflate_reader_next (q1 : Option Addr) (q2 : Option Addr) (w : World) (R : Ending → World → Prop) (h : vc_inflate_reader_next q1 q2 w R) : Calls P F.inflate_reader_next #[.pointer q1, .pointer q2] w R :=
  calls_of_vc (fn := Try.f42) (ac := ac_inflate_reader_next) (args := [.pointer q1, .pointer q2]) mixed Try.func42 (by kernel_rfl) (cast (by unfold vc_inflate_reader_next FnVc; kernel_rfl) h)
/-- darkroom/inflate.groups -/
def vc_inflate_groups (x1 : Int) (x2 : Int) (x3 : Int) (w : World) (R : Ending → World → Prop) : Prop :=
  brB (decide (x1 < IntKind.i64.wrap (2 * x2)))
    (R (Ending.returned (Value.tuple #[Value.int IntKind.i64 (IntKind.i64.wrap (x3 + x1)), Value.int IntKind.i64 0])) w)
    ((x2 ≠ 0) ∧
    (x2 ≠ 0) ∧
    (0 ≤ IntKind.i64.wrap (divZ BinOp.quo IntKind.i64 x1 x2 - 1)) ∧
    R (Ending.returned (Value.tuple #[Value.int IntKind.i64 (IntKind.i64.wrap (x3 + shiftZ BinOp.shl IntKind.i64 (IntKind.i64.wrap (x2 + divZ BinOp.rem IntKind.i64 x1 x2)) (IntKind.i64.wrap (divZ BinOp.quo IntKind.i64 x1 x2 - 1)))), Value.int IntKind.i64 (IntKind.i64.wrap (divZ BinOp.quo IntKind.i64 x1 x2 - 1))])) w)
theorem calls_inflate_groups (x1 : Int) (x2 : Int) (x3 : Int) (w : World) (R : Ending → World → Prop) (h : vc_inflate_groups x1 x2 x3 w R) : Calls P F.inflate_groups #[.int .i64 x1, .int .i64 x2, .int .i64 x3] w R :=
  calls_of_vc (fn := Try.f43) (ac := ac_inflate_groups) (args := [.int .i64 x1, .int .i64 x2, .int .i64 x3]) mixed Try.func43 (by kernel_rfl) (cast (by unfold vc_inflate_groups FnVc; kernel_rfl) h)
/-- darkroom/prefix.New -/
def vc_prefix_New (sa1 : Option Addr) (sl1 sc1 : Nat) (w : World) (R : Ending → World → Prop) : Prop :=
  Calls P F.prefix_checked #[Value.slice sa1 sl1 sc1] w fun e1 w1 =>
  ∃ n1 : Int,
  (e1 = Ending.returned (Value.int IntKind.i64 n1)) ∧
  brB (n1 != 0)
    (R (Ending.returned (Value.tuple #[Value.pointer none, Value.int IntKind.i64 n1])) w1)
    (∀ k1 : Nat,
    ∀ w2 : World,
    (New w1 (Obj.cells #[Value.int IntKind.i64 0, Value.int IntKind.i64 0, Value.int IntKind.i64 0, Value.int IntKind.i64 0, Value.int IntKind.i64 0, Value.int IntKind.i64 0, Value.int IntKind.i64 0, Value.int IntKind.i64 0, Value.int IntKind.i64 0, Value.int IntKind.i64 0, Value.int IntKind.i64 0, Value.int IntKind.i64 0, Value.int IntKind.i64 0, Value.int IntKind.i64 0, Value.int IntKind.i64 0, Value.int IntKind.i64 0, Value.int IntKind.i64 0, Value.int IntKind.i64 0, Value.int IntKind.i64 0, Value.int IntKind.i64 0, Value.int IntKind.i64 0, Value.int IntKind.i64 0, Value.int IntKind.i64 0, Value.int IntKind.i64 0, Value.int IntKind.i64 0, Value.int IntKind.i64 0, Value.int IntKind.i64 0, Value.int IntKind.i64 0, Value.int IntKind.i64 0, Value.int IntKind.i64 0, Value.int IntKind.i64 0, Value.int IntKind.i64 0, Value.int IntKind.i64 0, Value.int IntKind.i64 0, Value.int IntKind.i64 0, Value.int IntKind.i64 0, Value.int IntKind.i64 0, Value.int IntKind.i64 0, Value.int IntKind.i64 0, Value.int IntKind.i64 0, Value.int IntKind.i64 0, Value.int IntKind.i64 0, Value.int IntKind.i64 0, Value.int IntKind.i64 0, Value.int IntKind.i64 0, Value.int IntKind.i64 0, Value.int IntKind.i64 0, Value.int IntKind.i64 0, Value.int IntKind.i64 0, Value.int IntKind.i64 0, Value.int IntKind.i64 0, Value.slice none 0 0, Value.int IntKind.i64 0] 110) k1 w2) →
    ∃ I1 : List Value → World → Prop,
    ∃ m1 : List Value → World → Nat,
    (I1 [Value.int IntKind.i64 0, Value.int IntKind.i64 1] w2) ∧
    ∀ n2 : Int,
    ∀ n3 : Int,
    ∀ w3 : World,
    (I1 [Value.int IntKind.i64 n2, Value.int IntKind.i64 n3] w3) →
    brB (decide (n3 ≤ 16))
      (∃ p1 : Option Addr,
      ∃ k2 : Nat,
      ∃ k3 : Nat,
      (w3.drew.cell? { block := k1, off := 51 } = some (Value.slice p1 k2 k3)) ∧
      (0 ≤ n3) ∧
      (n3 < 17) ∧
      (∃ v1 : Value,
        w3.drew.cell? ({ block := k1, off := 0 : Addr }.add (n3.toNat * 1)) = some v1) ∧
      (w3.drew.frozen? ({ block := k1, off := 0 : Addr }.add (n3.toNat * 1)) = false) ∧
      (0 ≤ n3) ∧
      (n3 < 17) ∧
      (∃ v2 : Value,
        (setCells w3.drew ({ block := k1, off := 0 : Addr }.add (n3.toNat * 1)) [Value.int IntKind.i64 (shiftZ BinOp.shl IntKind.i64 n2 1)] 0).cell? ({ block := k1, off := 17 : Addr }.add (n3.toNat * 1)) = some v2) ∧
      ((setCells w3.drew ({ block := k1, off := 0 : Addr }.add (n3.toNat * 1)) [Value.int IntKind.i64 (shiftZ BinOp.shl IntKind.i64 n2 1)] 0).frozen? ({ block := k1, off := 17 : Addr }.add (n3.toNat * 1)) = false) ∧
      ∃ I2 : List Value → World → Prop,
      ∃ m2 : List Value → World → Nat,
      (I2 [Value.int IntKind.i64 0] (setCells (setCells w3.drew ({ block := k1, off := 0 : Addr }.add (n3.toNat * 1)) [Value.int IntKind.i64 (shiftZ BinOp.shl IntKind.i64 n2 1)] 0) ({ block := k1, off := 17 : Addr }.add (n3.toNat * 1)) [Value.int IntKind.i64 (↑k2 : Int)] 0)) ∧
      ∀ n4 : Int,
      ∀ w4 : World,
      (I2 [Value.int IntKind.i64 n4] w4) →
      brB (decide (n4 < (↑sl1 : Int)))
        (∃ I3 : List Value → World → Prop,
        (idx (sa1) (sl1) (n4) (1) fun a1 =>
          ∃ n5 : Int,
          (w4.cell? a1 = some (Value.int IntKind.i64 n5)) ∧
          brB (n5 == n3)
            (∃ p2 : Option Addr,
            ∃ k4 : Nat,
            ∃ k5 : Nat,
            (w4.cell? { block := k1, off := 51 } = some (Value.slice p2 k4 k5)) ∧
            ∀ k6 : Nat,
            (w4.heap.size ≤ k6) →
            ∀ w5 : World,
            (Locl ([k6]) w4 w5) →
            appVC (w5) ([(55, k6, [Value.int IntKind.i64 n4])]) (p2) (k4) (k5) (1) (1) (8) (3) ([Value.int IntKind.i64 0]) ([Value.int IntKind.i64 n4]) fun p3 k7 k8 w6 =>
            (∃ v3 : Value,
              w6.cell? { block := k1, off := 51 } = some v3) ∧
            (w6.frozen? { block := k1, off := 51 } = false) ∧
            (¬k1 ∈ [k6]) ∧
            (0 ≤ n3) ∧
            (n3 < 17) ∧
            ∃ n6 : Int,
            ((setCells w6 { block := k1, off := 51 } [Value.slice p3 k7 k8] 0).drew.cell? ({ block := k1, off := 34 : Addr }.add (n3.toNat * 1)) = some (Value.int IntKind.i64 n6)) ∧
            (0 ≤ n3) ∧
            (n3 < 17) ∧
            (∃ v4 : Value,
              (setCells w6 { block := k1, off := 51 } [Value.slice p3 k7 k8] 0).drew.cell? ({ block := k1, off := 34 : Addr }.add (n3.toNat * 1)) = some v4) ∧
            ((setCells w6 { block := k1, off := 51 } [Value.slice p3 k7 k8] 0).drew.frozen? ({ block := k1, off := 34 : Addr }.add (n3.toNat * 1)) = false) ∧
            (¬({ block := k1, off := 34 : Addr }.add (n3.toNat * 1)).block ∈ [k6]) ∧
            (∃ v5 : Value,
              (setCells (setCells w6 { block := k1, off := 51 } [Value.slice p3 k7 k8] 0).drew ({ block := k1, off := 34 : Addr }.add (n3.toNat * 1)) [Value.int IntKind.i64 (IntKind.i64.wrap (n6 + 1))] 0).cell? { block := k1, off := 52 } = some v5) ∧
            ((setCells (setCells w6 { block := k1, off := 51 } [Value.slice p3 k7 k8] 0).drew ({ block := k1, off := 34 : Addr }.add (n3.toNat * 1)) [Value.int IntKind.i64 (IntKind.i64.wrap (n6 + 1))] 0).frozen? { block := k1, off := 52 } = false) ∧
            (¬k1 ∈ [k6]) ∧
            I3 [] (setCells (setCells (setCells w6 { block := k1, off := 51 } [Value.slice p3 k7 k8] 0).drew ({ block := k1, off := 34 : Addr }.add (n3.toNat * 1)) [Value.int IntKind.i64 (IntKind.i64.wrap (n6 + 1))] 0) { block := k1, off := 52 } [Value.int IntKind.i64 n3] 0))
            (I3 [] w4)) ∧
        ∀ w7 : World,
        (I3 [] w7) →
        (I2 [Value.int IntKind.i64 (IntKind.i64.wrap (n4 + 1))] w7) ∧
        m2 [Value.int IntKind.i64 (IntKind.i64.wrap (n4 + 1))] w7 < m2 [Value.int IntKind.i64 n4] w4)
        ((0 ≤ n3) ∧
        (n3 < 17) ∧
        ∃ n7 : Int,
        (w4.cell? ({ block := k1, off := 34 : Addr }.add (n3.toNat * 1)) = some (Value.int IntKind.i64 n7)) ∧
        (I1 [Value.int IntKind.i64 (IntKind.i64.wrap (shiftZ BinOp.shl IntKind.i64 n2 1 + n7)), Value.int IntKind.i64 (IntKind.i64.wrap (n3 + 1))] w4) ∧
        m1 [Value.int IntKind.i64 (IntKind.i64.wrap (shiftZ BinOp.shl IntKind.i64 n2 1 + n7)), Value.int IntKind.i64 (IntKind.i64.wrap (n3 + 1))] w4 < m1 [Value.int IntKind.i64 n2, Value.int IntKind.i64 n3] w3))
      (R (Ending.returned (Value.tuple #[Value.pointer (some { block := k1, off := 0 }), Value.int IntKind.i64 0])) w3))
theorem calls_prefix_New (sa1 : Option Addr) (sl1 sc1 : Nat) (w : World) (R : Ending → World → Prop) (h : vc_prefix_New sa1 sl1 sc1 w R) : Calls P F.prefix_New #[.slice sa1 sl1 sc1] w R :=
  calls_of_vc (fn := Try.f44) (ac := ac_prefix_New) (args := [.slice sa1 sl1 sc1]) mixed Try.func44 (by kernel_rfl) (cast (by unfold vc_prefix_New FnVc; kernel_rfl) h)
/-- darkroom/inflate.code -/
def vc_inflate_code (sa1 : Option Addr) (sl1 sc1 : Nat) (b1 : Bool) (w : World) (R : Ending → World → Prop) : Prop :=
  Calls P F.prefix_Room #[Value.slice sa1 sl1 sc1] w fun e1 w1 =>
  ∃ n1 : Int,
  ∃ n2 : Int,
  (e1 = Ending.returned (Value.tuple #[Value.int IntKind.i64 n1, Value.int IntKind.i64 n2])) ∧
  ∃ I1 : List Value → World → Prop,
  ∃ m1 : List Value → World → Nat,
  (I1 [Value.int IntKind.i64 0, Value.bool false, Value.int IntKind.i64 0] w1) ∧
  ∀ n3 : Int,
  ∀ c1 : Bool,
  ∀ n4 : Int,
  ∀ w2 : World,
  (I1 [Value.int IntKind.i64 n3, Value.bool c1, Value.int IntKind.i64 n4] w2) →
  brB (decide (n4 < (↑sl1 : Int)))
    (∃ I2 : List Value → World → Prop,
    (idx (sa1) (sl1) (n4) (1) fun a1 =>
      ∃ n5 : Int,
      (w2.cell? a1 = some (Value.int IntKind.i64 n5)) ∧
      brB (decide (n5 > 0))
        (I2 [Value.int IntKind.i64 (IntKind.i64.wrap (n3 + 1)), Value.bool (n5 == 1)] w2)
        (I2 [Value.int IntKind.i64 n3, Value.bool c1] w2)) ∧
    ∀ n6 : Int,
    ∀ c2 : Bool,
    ∀ w3 : World,
    (I2 [Value.int IntKind.i64 n6, Value.bool c2] w3) →
    (I1 [Value.int IntKind.i64 n6, Value.bool c2, Value.int IntKind.i64 (IntKind.i64.wrap (n4 + 1))] w3) ∧
    m1 [Value.int IntKind.i64 n6, Value.bool c2, Value.int IntKind.i64 (IntKind.i64.wrap (n4 + 1))] w3 < m1 [Value.int IntKind.i64 n3, Value.bool c1, Value.int IntKind.i64 n4] w2)
    (brB (n1 != 0)
      (brB (n3 == 1)
        (brB (!c1)
          (brB (b1)
            (brB (!n3 == 0)
              ((∃ y1 : TypeId,
                ∃ v1 : Value,
                Value.iface 49 (Value.agg #[Value.int IntKind.i64 41]) = Value.iface y1 v1) ∧
              R (Ending.panicked [{ v := Value.iface 49 (Value.agg #[Value.int IntKind.i64 41]), recovered := false }]) w2)
              (Calls P F.prefix_New #[Value.slice sa1 sl1 sc1] w2 fun e2 w4 =>
              ∃ p1 : Option Addr,
              ∃ n7 : Int,
              (e2 = Ending.returned (Value.tuple #[Value.pointer p1, Value.int IntKind.i64 n7])) ∧
              R (Ending.returned (Value.pointer p1)) w4))
            ((∃ y2 : TypeId,
              ∃ v2 : Value,
              Value.iface 49 (Value.agg #[Value.int IntKind.i64 41]) = Value.iface y2 v2) ∧
            R (Ending.panicked [{ v := Value.iface 49 (Value.agg #[Value.int IntKind.i64 41]), recovered := false }]) w2))
          (Calls P F.prefix_New #[Value.slice sa1 sl1 sc1] w2 fun e3 w5 =>
          ∃ p2 : Option Addr,
          ∃ n8 : Int,
          (e3 = Ending.returned (Value.tuple #[Value.pointer p2, Value.int IntKind.i64 n8])) ∧
          R (Ending.returned (Value.pointer p2)) w5))
        (brB (b1)
          (brB (!n3 == 0)
            ((∃ y3 : TypeId,
              ∃ v3 : Value,
              Value.iface 49 (Value.agg #[Value.int IntKind.i64 41]) = Value.iface y3 v3) ∧
            R (Ending.panicked [{ v := Value.iface 49 (Value.agg #[Value.int IntKind.i64 41]), recovered := false }]) w2)
            (Calls P F.prefix_New #[Value.slice sa1 sl1 sc1] w2 fun e4 w6 =>
            ∃ p3 : Option Addr,
            ∃ n9 : Int,
            (e4 = Ending.returned (Value.tuple #[Value.pointer p3, Value.int IntKind.i64 n9])) ∧
            R (Ending.returned (Value.pointer p3)) w6))
          ((∃ y4 : TypeId,
            ∃ v4 : Value,
            Value.iface 49 (Value.agg #[Value.int IntKind.i64 41]) = Value.iface y4 v4) ∧
          R (Ending.panicked [{ v := Value.iface 49 (Value.agg #[Value.int IntKind.i64 41]), recovered := false }]) w2)))
      (Calls P F.prefix_New #[Value.slice sa1 sl1 sc1] w2 fun e5 w7 =>
      ∃ p4 : Option Addr,
      ∃ n10 : Int,
      (e5 = Ending.returned (Value.tuple #[Value.pointer p4, Value.int IntKind.i64 n10])) ∧
      R (Ending.returned (Value.pointer p4)) w7))
theorem calls_inflate_code (sa1 : Option Addr) (sl1 sc1 : Nat) (b1 : Bool) (w : World) (R : Ending → World → Prop) (h : vc_inflate_code sa1 sl1 sc1 b1 w R) : Calls P F.inflate_code #[.slice sa1 sl1 sc1, .bool b1] w R :=
  calls_of_vc (fn := Try.f45) (ac := ac_inflate_code) (args := [.slice sa1 sl1 sc1, .bool b1]) mixed Try.func45 (by kernel_rfl) (cast (by unfold vc_inflate_code FnVc; kernel_rfl) h)
/-- darkroom/darkroomref01.Take -/
def vc_ref01_Take (sa1 : Option Addr) (sl1 sc1 : Nat) (b1 : Bool) (x1 : Int) (x2 : Int) (w : World) (R : Ending → World → Prop) : Prop :=
  ∀ k1 : Nat,
  (w.heap.size ≤ k1) →
  ∀ k2 : Nat,
  (w.heap.size ≤ k2) →
  brB (decide (x2 < 0) || decide (x2 > 32))
    (∀ w1 : World,
    (Locl ([k2, k1]) w w1) →
    R (Ending.returned (Value.tuple #[Value.agg #[Value.slice sa1 sl1 sc1, Value.bool b1, Value.int IntKind.i64 x1], Value.int IntKind.u32 0, Value.int IntKind.i64 2])) w1)
    (∀ w2 : World,
    (Locl ([k2, k1]) w w2) →
    Calls P F.ref01_Left #[Value.agg #[Value.slice sa1 sl1 sc1, Value.bool b1, Value.int IntKind.i64 x1]] w2 fun e1 w3 =>
    ∃ n1 : Int,
    (e1 = Ending.returned (Value.int IntKind.i64 n1)) ∧
    (Keep ([k2, k1]) w2 w3) ∧
    brB (decide (x2 > n1))
      (∀ w4 : World,
      (Locl ([k2, k1]) w3 w4) →
      R (Ending.returned (Value.tuple #[Value.agg #[Value.slice sa1 sl1 sc1, Value.bool b1, Value.int IntKind.i64 x1], Value.int IntKind.u32 0, Value.int IntKind.i64 5])) w4)
      (∃ I1 : List Value → World → Prop,
      ∃ m1 : List Value → World → Nat,
      (I1 [Value.int IntKind.u32 0, Value.int IntKind.i64 0] w3) ∧
      ∀ n2 : Int,
      ∀ n3 : Int,
      ∀ w5 : World,
      (I1 [Value.int IntKind.u32 n2, Value.int IntKind.i64 n3] w5) →
      brB (decide (n3 < x2))
        (∃ I2 : List Value → World → Prop,
        (Calls P F.ref01_bit #[Value.slice sa1 sl1 sc1, Value.bool b1, Value.int IntKind.i64 (IntKind.i64.wrap (x1 + n3))] w5 fun e2 w6 =>
          ∃ n4 : Int,
          (e2 = Ending.returned (Value.int IntKind.u32 n4)) ∧
          (Keep ([k2, k1]) w5 w6) ∧
          brB (b1)
            (I2 [Value.int IntKind.u32 (IntKind.u32.wrap (IntKind.u32.wrap (2 * n2) + n4))] w6)
            ((0 ≤ IntKind.u64.wrap n3) ∧
            I2 [Value.int IntKind.u32 (IntKind.u32.wrap (n2 + shiftZ BinOp.shl IntKind.u32 n4 (IntKind.u64.wrap n3)))] w6)) ∧
        ∀ n5 : Int,
        ∀ w7 : World,
        (I2 [Value.int IntKind.u32 n5] w7) →
        (I1 [Value.int IntKind.u32 n5, Value.int IntKind.i64 (IntKind.i64.wrap (n3 + 1))] w7) ∧
        m1 [Value.int IntKind.u32 n5, Value.int IntKind.i64 (IntKind.i64.wrap (n3 + 1))] w7 < m1 [Value.int IntKind.u32 n2, Value.int IntKind.i64 n3] w5)
        (∀ w8 : World,
        (Locl ([k2, k1]) w5 w8) →
        R (Ending.returned (Value.tuple #[Value.agg #[Value.slice sa1 sl1 sc1, Value.bool b1, Value.int IntKind.i64 (IntKind.i64.wrap (x1 + x2))], Value.int IntKind.u32 n2, Value.int IntKind.i64 0])) w8)))
theorem calls_ref01_Take (sa1 : Option Addr) (sl1 sc1 : Nat) (b1 : Bool) (x1 : Int) (x2 : Int) (w : World) (R : Ending → World → Prop) (h : vc_ref01_Take sa1 sl1 sc1 b1 x1 x2 w R) : Calls P F.ref01_Take #[.agg #[.slice sa1 sl1 sc1, .bool b1, .int .i64 x1], .int .i64 x2] w R :=
  calls_of_vc (fn := Try.f46) (ac := ac_ref01_Take) (args := [.agg #[.slice sa1 sl1 sc1, .bool b1, .int .i64 x1], .int .i64 x2]) mixed Try.func46 (by kernel_rfl) (cast (by unfold vc_ref01_Take FnVc; kernel_rfl) h)
/-- darkroom/darkroomref01.Align -/
def vc_ref01_Align (sa1 : Option Addr) (sl1 sc1 : Nat) (b1 : Bool) (x1 : Int) (w : World) (R : Ending → World → Prop) : Prop :=
  ∀ k1 : Nat,
  (w.heap.size ≤ k1) →
  ∀ k2 : Nat,
  (w.heap.size ≤ k2) →
  ∀ w1 : World,
  (Locl ([k2, k1]) w w1) →
  R (Ending.returned (Value.agg #[Value.slice sa1 sl1 sc1, Value.bool b1, Value.int IntKind.i64 (IntKind.i64.wrap (divZ BinOp.quo IntKind.i64 (IntKind.i64.wrap (x1 + 7)) 8 * 8))])) w1
theorem calls_ref01_Align (sa1 : Option Addr) (sl1 sc1 : Nat) (b1 : Bool) (x1 : Int) (w : World) (R : Ending → World → Prop) (h : vc_ref01_Align sa1 sl1 sc1 b1 x1 w R) : Calls P F.ref01_Align #[.agg #[.slice sa1 sl1 sc1, .bool b1, .int .i64 x1]] w R :=
  calls_of_vc (fn := Try.f47) (ac := ac_ref01_Align) (args := [.agg #[.slice sa1 sl1 sc1, .bool b1, .int .i64 x1]]) mixed Try.func47 (by kernel_rfl) (cast (by unfold vc_ref01_Align FnVc; kernel_rfl) h)
/-- darkroom/darkroomref01.Bytes -/
def vc_ref01_Bytes (sa1 : Option Addr) (sl1 sc1 : Nat) (b1 : Bool) (x1 : Int) (x2 : Int) (w : World) (R : Ending → World → Prop) : Prop :=
  ∀ k1 : Nat,
  (w.heap.size ≤ k1) →
  ∀ k2 : Nat,
  (w.heap.size ≤ k2) →
  brB (decide (x2 < 0))
    (∀ w1 : World,
    (Locl ([k2, k1]) w w1) →
    R (Ending.returned (Value.tuple #[Value.agg #[Value.slice sa1 sl1 sc1, Value.bool b1, Value.int IntKind.i64 x1], Value.slice none 0 0, Value.int IntKind.i64 2])) w1)
    (brB (decide (x2 > IntKind.i64.wrap ((↑sl1 : Int) - divZ BinOp.quo IntKind.i64 (IntKind.i64.wrap (x1 + 7)) 8)))
      (∀ w2 : World,
      (Locl ([k2, k1]) w w2) →
      R (Ending.returned (Value.tuple #[Value.agg #[Value.slice sa1 sl1 sc1, Value.bool b1, Value.int IntKind.i64 x1], Value.slice none 0 0, Value.int IntKind.i64 5])) w2)
      (slcc (sa1) (sc1) (divZ BinOp.quo IntKind.i64 (IntKind.i64.wrap (x1 + 7)) 8) (IntKind.i64.wrap (divZ BinOp.quo IntKind.i64 (IntKind.i64.wrap (x1 + 7)) 8 + x2)) (1) fun p1 k3 k4 =>
      ∀ w3 : World,
      (Locl ([k2, k1]) w w3) →
      ∀ k5 : Nat,
      ∀ w4 : World,
      (New w3 (Obj.cells #[] 5) k5 w4) →
      ∃ l1 : List Value,
      (l1.length = k3 * 1) ∧
      (oneAll l1 = true) ∧
      (CellsAre w4 p1 l1) ∧
      appVC (w4) ([(4, k2, [Value.slice none 0 0, Value.bool false, Value.int IntKind.i64 0]), (2, k1, [Value.slice sa1 sl1 sc1, Value.bool b1, Value.int IntKind.i64 (IntKind.i64.wrap (8 * IntKind.i64.wrap (divZ BinOp.quo IntKind.i64 (IntKind.i64.wrap (x1 + 7)) 8 + x2)))])]) (some { block := k5, off := 0 }) (0) (0) (k3) (1) (1) (5) ([Value.int IntKind.u8 0]) (l1) fun p2 k6 k7 w5 =>
      ∀ w6 : World,
      (Locl ([k2, k1]) w5 w6) →
      R (Ending.returned (Value.tuple #[Value.agg #[Value.slice sa1 sl1 sc1, Value.bool b1, Value.int IntKind.i64 (IntKind.i64.wrap (8 * IntKind.i64.wrap (divZ BinOp.quo IntKind.i64 (IntKind.i64.wrap (x1 + 7)) 8 + x2)))], Value.slice p2 k6 k7, Value.int IntKind.i64 0])) w6))
theorem calls_ref01_Bytes (sa1 : Option Addr) (sl1 sc1 : Nat) (b1 : Bool) (x1 : Int) (x2 : Int) (w : World) (R : Ending → World → Prop) (h : vc_ref01_Bytes sa1 sl1 sc1 b1 x1 x2 w R) : Calls P F.ref01_Bytes #[.agg #[.slice sa1 sl1 sc1, .bool b1, .int .i64 x1], .int .i64 x2] w R :=
  calls_of_vc (fn := Try.f48) (ac := ac_ref01_Bytes) (args := [.agg #[.slice sa1 sl1 sc1, .bool b1, .int .i64 x1], .int .i64 x2]) mixed Try.func48 (by kernel_rfl) (cast (by unfold vc_ref01_Bytes FnVc; kernel_rfl) h)
/-- darkroom/darkroomref04.next -/
def vc_ref04_next (sa1 : Option Addr) (sl1 sc1 : Nat) (b1 : Bool) (x1 : Int) (sa2 : Option Addr) (sl2 sc2 : Nat) (x2 : Int) (x3 : Int) (vs1 : List Value) (w : World) (R : Ending → World → Prop) : Prop :=
  ∀ k1 : Nat,
  (w.heap.size ≤ k1) →
  ∀ w1 : World,
  (Locl ([k1]) w w1) →
  ∀ k2 : Nat,
  ∀ w2 : World,
  (New w1 (Obj.cells vs1.toArray 70) k2 w2) →
  ∀ k3 : Nat,
  (w2.heap.size ≤ k3) →
  ∀ w3 : World,
  (Locl ([k3, k1]) w2 w3) →
  ∃ l1 : List Value,
  (l1.length = 37) ∧
  (CellsAt w3 ({ block := k2, off := 0 }) l1) ∧
  Calls P F.ref03_Next #[Value.agg l1.toArray, Value.agg #[Value.slice sa1 sl1 sc1, Value.bool b1, Value.int IntKind.i64 x1]] w3 fun e1 w4 =>
  ∃ p1 : Option Addr,
  ∃ k4 : Nat,
  ∃ k5 : Nat,
  ∃ c1 : Bool,
  ∃ n1 : Int,
  ∃ n2 : Int,
  ∃ n3 : Int,
  (e1 = Ending.returned (Value.tuple #[Value.agg #[Value.slice p1 k4 k5, Value.bool c1, Value.int IntKind.i64 n1], Value.int IntKind.i64 n2, Value.int IntKind.i64 n3])) ∧
  (Keep ([k3, k1]) w3 w4) ∧
  ∀ k6 : Nat,
  (w4.heap.size ≤ k6) →
  brB (n3 != 0)
    (∀ w5 : World,
    (Locl ([k6, k3, k1]) w4 w5) →
    R (Ending.returned (Value.tuple #[Value.agg #[Value.slice p1 k4 k5, Value.bool c1, Value.int IntKind.i64 n1, Value.slice sa2 sl2 sc2, Value.int IntKind.i64 x2, Value.int IntKind.i64 n3], Value.int IntKind.i64 0])) w5)
    (∀ w6 : World,
    (Locl ([k6, k3, k1]) w4 w6) →
    R (Ending.returned (Value.tuple #[Value.agg #[Value.slice p1 k4 k5, Value.bool c1, Value.int IntKind.i64 n1, Value.slice sa2 sl2 sc2, Value.int IntKind.i64 x2, Value.int IntKind.i64 x3], Value.int IntKind.i64 n2])) w6)
theorem calls_ref04_next (sa1 : Option Addr) (sl1 sc1 : Nat) (b1 : Bool) (x1 : Int) (sa2 : Option Addr) (sl2 sc2 : Nat) (x2 : Int) (x3 : Int) (vs1 : List Value) (w : World) (R : Ending → World → Prop) (h : vc_ref04_next sa1 sl1 sc1 b1 x1 sa2 sl2 sc2 x2 x3 vs1 w R) : Calls P F.ref04_next #[.agg #[.slice sa1 sl1 sc1, .bool b1, .int .i64 x1, .slice sa2 sl2 sc2, .int .i64 x2, .int .i64 x3], .agg vs1.toArray] w R :=
  calls_of_vc (fn := Try.f49) (ac := ac_ref04_next) (args := [.agg #[.slice sa1 sl1 sc1, .bool b1, .int .i64 x1, .slice sa2 sl2 sc2, .int .i64 x2, .int .i64 x3], .agg vs1.toArray]) mixed Try.func49 (by kernel_rfl) (cast (by unfold vc_ref04_next FnVc; kernel_rfl) h)
/-- darkroom/darkroomref04.match -/
def vc_ref04_match (sa1 : Option Addr) (sl1 sc1 : Nat) (b1 : Bool) (x1 : Int) (sa2 : Option Addr) (sl2 sc2 : Nat) (x2 : Int) (x3 : Int) (x4 : Int) (vs1 : List Value) (w : World) (R : Ending → World → Prop) : Prop :=
  ∀ k1 : Nat,
  (w.heap.size ≤ k1) →
  ∀ w1 : World,
  (Locl ([k1]) w w1) →
  ∀ k2 : Nat,
  ∀ w2 : World,
  (New w1 (Obj.cells vs1.toArray 70) k2 w2) →
  ∀ k3 : Nat,
  (w2.heap.size ≤ k3) →
  brB (decide (x4 > 285))
    (∀ w3 : World,
    (Locl ([k3, k1]) w2 w3) →
    R (Ending.returned (Value.agg #[Value.slice sa1 sl1 sc1, Value.bool b1, Value.int IntKind.i64 x1, Value.slice sa2 sl2 sc2, Value.int IntKind.i64 x2, Value.int IntKind.i64 32])) w3)
    (∀ w4 : World,
    (Locl ([k3, k1]) w2 w4) →
    Calls P F.ref04_base #[Value.int IntKind.i64 (IntKind.i64.wrap (x4 - 257)), Value.int IntKind.i64 4, Value.int IntKind.i64 3] w4 fun e1 w5 =>
    ∃ n1 : Int,
    ∃ n2 : Int,
    (e1 = Ending.returned (Value.tuple #[Value.int IntKind.i64 n1, Value.int IntKind.i64 n2])) ∧
    (Keep ([k3, k1]) w4 w5) ∧
    ∃ I1 : List Value → World → Prop,
    (brB (x4 == 285)
        (I1 [Value.int IntKind.i64 258, Value.int IntKind.i64 0] w5)
        (I1 [Value.int IntKind.i64 n1, Value.int IntKind.i64 n2] w5)) ∧
    ∀ n3 : Int,
    ∀ n4 : Int,
    ∀ w6 : World,
    (I1 [Value.int IntKind.i64 n3, Value.int IntKind.i64 n4] w6) →
    Calls P F.ref04_take #[Value.agg #[Value.slice sa1 sl1 sc1, Value.bool b1, Value.int IntKind.i64 x1, Value.slice sa2 sl2 sc2, Value.int IntKind.i64 x2, Value.int IntKind.i64 x3], Value.int IntKind.i64 n4] w6 fun e2 w7 =>
    ∃ p1 : Option Addr,
    ∃ k4 : Nat,
    ∃ k5 : Nat,
    ∃ c1 : Bool,
    ∃ n5 : Int,
    ∃ p2 : Option Addr,
    ∃ k6 : Nat,
    ∃ k7 : Nat,
    ∃ n6 : Int,
    ∃ n7 : Int,
    ∃ n8 : Int,
    (e2 = Ending.returned (Value.tuple #[Value.agg #[Value.slice p1 k4 k5, Value.bool c1, Value.int IntKind.i64 n5, Value.slice p2 k6 k7, Value.int IntKind.i64 n6, Value.int IntKind.i64 n7], Value.int IntKind.i64 n8])) ∧
    (Keep ([k3, k1]) w6 w7) ∧
    brB (n7 != 0)
      (∀ w8 : World,
      (Locl ([k3, k1]) w7 w8) →
      R (Ending.returned (Value.agg #[Value.slice p1 k4 k5, Value.bool c1, Value.int IntKind.i64 n5, Value.slice p2 k6 k7, Value.int IntKind.i64 n6, Value.int IntKind.i64 n7])) w8)
      (∀ w9 : World,
      (Locl ([k3, k1]) w7 w9) →
      ∃ l1 : List Value,
      (l1.length = 37) ∧
      (CellsAt w9 ({ block := k2, off := 0 }) l1) ∧
      Calls P F.ref04_next #[Value.agg #[Value.slice p1 k4 k5, Value.bool c1, Value.int IntKind.i64 n5, Value.slice p2 k6 k7, Value.int IntKind.i64 n6, Value.int IntKind.i64 n7], Value.agg l1.toArray] w9 fun e3 w10 =>
      ∃ p3 : Option Addr,
      ∃ k8 : Nat,
      ∃ k9 : Nat,
      ∃ c2 : Bool,
      ∃ n9 : Int,
      ∃ p4 : Option Addr,
      ∃ k10 : Nat,
      ∃ k11 : Nat,
      ∃ n10 : Int,
      ∃ n11 : Int,
      ∃ n12 : Int,
      (e3 = Ending.returned (Value.tuple #[Value.agg #[Value.slice p3 k8 k9, Value.bool c2, Value.int IntKind.i64 n9, Value.slice p4 k10 k11, Value.int IntKind.i64 n10, Value.int IntKind.i64 n11], Value.int IntKind.i64 n12])) ∧
      (Keep ([k3, k1]) w9 w10) ∧
      brB (n11 != 0)
        (∀ w11 : World,
        (Locl ([k3, k1]) w10 w11) →
        R (Ending.returned (Value.agg #[Value.slice p3 k8 k9, Value.bool c2, Value.int IntKind.i64 n9, Value.slice p4 k10 k11, Value.int IntKind.i64 n10, Value.int IntKind.i64 n11])) w11)
        (brB (decide (n12 > 29))
          (∀ w12 : World,
          (Locl ([k3, k1]) w10 w12) →
          R (Ending.returned (Value.agg #[Value.slice p3 k8 k9, Value.bool c2, Value.int IntKind.i64 n9, Value.slice p4 k10 k11, Value.int IntKind.i64 n10, Value.int IntKind.i64 32])) w12)
          (∀ w13 : World,
          (Locl ([k3, k1]) w10 w13) →
          Calls P F.ref04_base #[Value.int IntKind.i64 n12, Value.int IntKind.i64 2, Value.int IntKind.i64 1] w13 fun e4 w14 =>
          ∃ n13 : Int,
          ∃ n14 : Int,
          (e4 = Ending.returned (Value.tuple #[Value.int IntKind.i64 n13, Value.int IntKind.i64 n14])) ∧
          (Keep ([k3, k1]) w13 w14) ∧
          Calls P F.ref04_take #[Value.agg #[Value.slice p3 k8 k9, Value.bool c2, Value.int IntKind.i64 n9, Value.slice p4 k10 k11, Value.int IntKind.i64 n10, Value.int IntKind.i64 n11], Value.int IntKind.i64 n14] w14 fun e5 w15 =>
          ∃ p5 : Option Addr,
          ∃ k12 : Nat,
          ∃ k13 : Nat,
          ∃ c3 : Bool,
          ∃ n15 : Int,
          ∃ p6 : Option Addr,
          ∃ k14 : Nat,
          ∃ k15 : Nat,
          ∃ n16 : Int,
          ∃ n17 : Int,
          ∃ n18 : Int,
          (e5 = Ending.returned (Value.tuple #[Value.agg #[Value.slice p5 k12 k13, Value.bool c3, Value.int IntKind.i64 n15, Value.slice p6 k14 k15, Value.int IntKind.i64 n16, Value.int IntKind.i64 n17], Value.int IntKind.i64 n18])) ∧
          (Keep ([k3, k1]) w14 w15) ∧
          brB (n17 != 0)
            (∀ w16 : World,
            (Locl ([k3, k1]) w15 w16) →
            R (Ending.returned (Value.agg #[Value.slice p5 k12 k13, Value.bool c3, Value.int IntKind.i64 n15, Value.slice p6 k14 k15, Value.int IntKind.i64 n16, Value.int IntKind.i64 n17])) w16)
            (brB (decide (IntKind.i64.wrap (n13 + n18) > (↑k14 : Int)))
              (∀ w17 : World,
              (Locl ([k3, k1]) w15 w17) →
              R (Ending.returned (Value.agg #[Value.slice p5 k12 k13, Value.bool c3, Value.int IntKind.i64 n15, Value.slice p6 k14 k15, Value.int IntKind.i64 n16, Value.int IntKind.i64 42])) w17)
              (brB (decide (IntKind.i64.wrap (n3 + n8) > IntKind.i64.wrap (n16 - (↑k14 : Int))))
                (∀ w18 : World,
                (Locl ([k3, k1]) w15 w18) →
                R (Ending.returned (Value.agg #[Value.slice p5 k12 k13, Value.bool c3, Value.int IntKind.i64 n15, Value.slice p6 k14 k15, Value.int IntKind.i64 n16, Value.int IntKind.i64 3])) w18)
                (∃ I2 : List Value → World → Prop,
                ∃ m1 : List Value → World → Nat,
                (∀ w19 : World,
                  (Locl ([k3, k1]) w15 w19) →
                  I2 [Value.int IntKind.i64 0, Value.slice p5 k12 k13, Value.bool c3, Value.int IntKind.i64 n15, Value.slice p6 k14 k15, Value.int IntKind.i64 n16, Value.int IntKind.i64 n17] w19) ∧
                ∀ n19 : Int,
                ∀ p7 : Option Addr,
                ∀ k16 : Nat,
                ∀ k17 : Nat,
                ∀ c4 : Bool,
                ∀ n20 : Int,
                ∀ p8 : Option Addr,
                ∀ k18 : Nat,
                ∀ k19 : Nat,
                ∀ n21 : Int,
                ∀ n22 : Int,
                ∀ w20 : World,
                (I2 [Value.int IntKind.i64 n19, Value.slice p7 k16 k17, Value.bool c4, Value.int IntKind.i64 n20, Value.slice p8 k18 k19, Value.int IntKind.i64 n21, Value.int IntKind.i64 n22] w20) →
                brB (decide (n19 < IntKind.i64.wrap (n3 + n8)))
                  (idx (p8) (k18) (IntKind.i64.wrap ((↑k18 : Int) - IntKind.i64.wrap (n13 + n18))) (1) fun a1 =>
                  ∃ n23 : Int,
                  (w20.drew.cell? a1 = some (Value.int IntKind.u8 n23)) ∧
                  ∀ k20 : Nat,
                  (w20.drew.heap.size ≤ k20) →
                  ∀ w21 : World,
                  (Locl ([k20, k3, k1]) (w20.drew) w21) →
                  appVC (w21) ([(104, k20, [Value.int IntKind.u8 n23]), (6, k3, [Value.slice none 0 0, Value.bool false, Value.int IntKind.i64 0, Value.slice none 0 0, Value.int IntKind.i64 0, Value.int IntKind.i64 0]), (3, k1, [Value.slice p7 k16 k17, Value.bool c4, Value.int IntKind.i64 n20, Value.slice p8 k18 k19, Value.int IntKind.i64 n21, Value.int IntKind.i64 n22])]) (p8) (k18) (k19) (1) (1) (1) (5) ([Value.int IntKind.u8 0]) ([Value.int IntKind.u8 n23]) fun p9 k21 k22 w22 =>
                  ∀ w23 : World,
                  (Locl ([k20, k3, k1]) w22 w23) →
                  (I2 [Value.int IntKind.i64 (IntKind.i64.wrap (n19 + 1)), Value.slice p7 k16 k17, Value.bool c4, Value.int IntKind.i64 n20, Value.slice p9 k21 k22, Value.int IntKind.i64 n21, Value.int IntKind.i64 n22] w23) ∧
                  m1 [Value.int IntKind.i64 (IntKind.i64.wrap (n19 + 1)), Value.slice p7 k16 k17, Value.bool c4, Value.int IntKind.i64 n20, Value.slice p9 k21 k22, Value.int IntKind.i64 n21, Value.int IntKind.i64 n22] w23 < m1 [Value.int IntKind.i64 n19, Value.slice p7 k16 k17, Value.bool c4, Value.int IntKind.i64 n20, Value.slice p8 k18 k19, Value.int IntKind.i64 n21, Value.int IntKind.i64 n22] w20)
                  (∀ w24 : World,
                  (Locl ([k3, k1]) w20 w24) →
                  R (Ending.returned (Value.agg #[Value.slice p7 k16 k17, Value.bool c4, Value.int IntKind.i64 n20, Value.slice p8 k18 k19, Value.int IntKind.i64 n21, Value.int IntKind.i64 n22])) w24))))))))
theorem calls_ref04_match (sa1 : Option Addr) (sl1 sc1 : Nat) (b1 : Bool) (x1 : Int) (sa2 : Option Addr) (sl2 sc2 : Nat) (x2 : Int) (x3 : Int) (x4 : Int) (vs1 : List Value) (w : World) (R : Ending → World → Prop) (h : vc_ref04_match sa1 sl1 sc1 b1 x1 sa2 sl2 sc2 x2 x3 x4 vs1 w R) : Calls P F.ref04_match #[.agg #[.slice sa1 sl1 sc1, .bool b1, .int .i64 x1, .slice sa2 sl2 sc2, .int .i64 x2, .int .i64 x3], .int .i64 x4, .agg vs1.toArray] w R :=
  calls_of_vc (fn := Try.f50) (ac := ac_ref04_match) (args := [.agg #[.slice sa1 sl1 sc1, .bool b1, .int .i64 x1, .slice sa2 sl2 sc2, .int .i64 x2, .int .i64 x3], .int .i64 x4, .agg vs1.toArray]) mixed Try.func50 (by kernel_rfl) (cast (by unfold vc_ref04_match FnVc; kernel_rfl) h)
/-- darkroom/darkroomref04.may -/
def vc_ref04_may (sa1 : Option Addr) (sl1 sc1 : Nat) (b1 : Bool) (w : World) (R : Ending → World → Prop) : Prop :=
  ∃ I1 : List Value → World → Prop,
  ∃ m1 : List Value → World → Nat,
  (I1 [Value.int IntKind.i64 0, Value.int IntKind.i64 0, Value.int IntKind.i64 0] w) ∧
  ∀ n1 : Int,
  ∀ n2 : Int,
  ∀ n3 : Int,
  ∀ w1 : World,
  (I1 [Value.int IntKind.i64 n1, Value.int IntKind.i64 n2, Value.int IntKind.i64 n3] w1) →
  brB (decide (n3 < (↑sl1 : Int)))
    (∃ I2 : List Value → World → Prop,
    (idx (sa1) (sl1) (n3) (1) fun a1 =>
      ∃ n4 : Int,
      (w1.cell? a1 = some (Value.int IntKind.i64 n4)) ∧
      brB (decide (n4 > 0))
        (idx (sa1) (sl1) (n3) (1) fun a2 =>
        ∃ n5 : Int,
        (w1.cell? a2 = some (Value.int IntKind.i64 n5)) ∧
        brB (n5 == 1)
          (I2 [Value.int IntKind.i64 (IntKind.i64.wrap (n1 + 1)), Value.int IntKind.i64 (IntKind.i64.wrap (n2 + 1))] w1)
          (I2 [Value.int IntKind.i64 (IntKind.i64.wrap (n1 + 1)), Value.int IntKind.i64 n2] w1))
        (idx (sa1) (sl1) (n3) (1) fun a3 =>
        ∃ n6 : Int,
        (w1.cell? a3 = some (Value.int IntKind.i64 n6)) ∧
        brB (n6 == 1)
          (I2 [Value.int IntKind.i64 n1, Value.int IntKind.i64 (IntKind.i64.wrap (n2 + 1))] w1)
          (I2 [Value.int IntKind.i64 n1, Value.int IntKind.i64 n2] w1))) ∧
    ∀ n7 : Int,
    ∀ n8 : Int,
    ∀ w2 : World,
    (I2 [Value.int IntKind.i64 n7, Value.int IntKind.i64 n8] w2) →
    (I1 [Value.int IntKind.i64 n7, Value.int IntKind.i64 n8, Value.int IntKind.i64 (IntKind.i64.wrap (n3 + 1))] w2) ∧
    m1 [Value.int IntKind.i64 n7, Value.int IntKind.i64 n8, Value.int IntKind.i64 (IntKind.i64.wrap (n3 + 1))] w2 < m1 [Value.int IntKind.i64 n1, Value.int IntKind.i64 n2, Value.int IntKind.i64 n3] w1)
    (Calls P F.ref03_Room #[Value.slice sa1 sl1 sc1] w1 fun e1 w3 =>
    ∃ n9 : Int,
    ∃ n10 : Int,
    (e1 = Ending.returned (Value.tuple #[Value.int IntKind.i64 n9, Value.int IntKind.i64 n10])) ∧
    brB (n9 == 0)
      (R (Ending.returned (Value.bool true)) w3)
      (brB (n1 == 1)
        (brB (n2 == 1)
          (R (Ending.returned (Value.bool true)) w3)
          (brB (b1)
            (R (Ending.returned (Value.bool (n1 == 0))) w3)
            (R (Ending.returned (Value.bool false)) w3)))
        (brB (b1)
          (R (Ending.returned (Value.bool (n1 == 0))) w3)
          (R (Ending.returned (Value.bool false)) w3))))
theorem calls_ref04_may (sa1 : Option Addr) (sl1 sc1 : Nat) (b1 : Bool) (w : World) (R : Ending → World → Prop) (h : vc_ref04_may sa1 sl1 sc1 b1 w R) : Calls P F.ref04_may #[.slice sa1 sl1 sc1, .bool b1] w R :=
  calls_of_vc (fn := Try.f51) (ac := ac_ref04_may) (args := [.slice sa1 sl1 sc1, .bool b1]) mixed Try.func51 (by kernel_rfl) (cast (by unfold vc_ref04_may FnVc; kernel_rfl) h)
/-- darkroom/darkroomref04.row -/
def vc_ref04_row (sa1 : Option Addr) (sl1 sc1 : Nat) (b1 : Bool) (x1 : Int) (sa2 : Option Addr) (sl2 sc2 : Nat) (x2 : Int) (x3 : Int) (vs1 : List Value) (x4 : Int) (w : World) (R : Ending → World → Prop) : Prop :=
  ∀ k1 : Nat,
  (w.heap.size ≤ k1) →
  ∀ w1 : World,
  (Locl ([k1]) w w1) →
  ∀ k2 : Nat,
  ∀ w2 : World,
  (New w1 (Obj.cells vs1.toArray 70) k2 w2) →
  ∀ k3 : Nat,
  (w2.heap.size ≤ k3) →
  ∃ I1 : List Value → World → Prop,
  ∃ m1 : List Value → World → Nat,
  (∀ w3 : World,
    (Locl ([k3, k1]) w2 w3) →
    I1 [Value.slice none 0 0, Value.slice sa1 sl1 sc1, Value.bool b1, Value.int IntKind.i64 x1, Value.slice sa2 sl2 sc2, Value.int IntKind.i64 x2, Value.int IntKind.i64 x3, Value.slice none 0 0, Value.bool false, Value.int IntKind.i64 0, Value.slice none 0 0, Value.int IntKind.i64 0, Value.int IntKind.i64 0] w3) ∧
  ∀ p1 : Option Addr,
  ∀ k4 : Nat,
  ∀ k5 : Nat,
  ∀ p2 : Option Addr,
  ∀ k6 : Nat,
  ∀ k7 : Nat,
  ∀ c1 : Bool,
  ∀ n1 : Int,
  ∀ p3 : Option Addr,
  ∀ k8 : Nat,
  ∀ k9 : Nat,
  ∀ n2 : Int,
  ∀ n3 : Int,
  ∀ p4 : Option Addr,
  ∀ k10 : Nat,
  ∀ k11 : Nat,
  ∀ c2 : Bool,
  ∀ n4 : Int,
  ∀ p5 : Option Addr,
  ∀ k12 : Nat,
  ∀ k13 : Nat,
  ∀ n5 : Int,
  ∀ n6 : Int,
  ∀ w4 : World,
  (I1 [Value.slice p1 k4 k5, Value.slice p2 k6 k7, Value.bool c1, Value.int IntKind.i64 n1, Value.slice p3 k8 k9, Value.int IntKind.i64 n2, Value.int IntKind.i64 n3, Value.slice p4 k10 k11, Value.bool c2, Value.int IntKind.i64 n4, Value.slice p5 k12 k13, Value.int IntKind.i64 n5, Value.int IntKind.i64 n6] w4) →
  brB (decide ((↑k4 : Int) < x4))
    (∃ l1 : List Value,
    (l1.length = 37) ∧
    (CellsAt w4 ({ block := k2, off := 0 }) l1) ∧
    Calls P F.ref04_next #[Value.agg #[Value.slice p2 k6 k7, Value.bool c1, Value.int IntKind.i64 n1, Value.slice p3 k8 k9, Value.int IntKind.i64 n2, Value.int IntKind.i64 n3], Value.agg l1.toArray] w4 fun e1 w5 =>
    ∃ p6 : Option Addr,
    ∃ k14 : Nat,
    ∃ k15 : Nat,
    ∃ c3 : Bool,
    ∃ n7 : Int,
    ∃ p7 : Option Addr,
    ∃ k16 : Nat,
    ∃ k17 : Nat,
    ∃ n8 : Int,
    ∃ n9 : Int,
    ∃ n10 : Int,
    (e1 = Ending.returned (Value.tuple #[Value.agg #[Value.slice p6 k14 k15, Value.bool c3, Value.int IntKind.i64 n7, Value.slice p7 k16 k17, Value.int IntKind.i64 n8, Value.int IntKind.i64 n9], Value.int IntKind.i64 n10])) ∧
    (Keep ([k3, k1]) w4 w5) ∧
    brB (n9 != 0)
      (∀ w6 : World,
      (Locl ([k3, k1]) w5 w6) →
      R (Ending.returned (Value.tuple #[Value.agg #[Value.slice p6 k14 k15, Value.bool c3, Value.int IntKind.i64 n7, Value.slice p7 k16 k17, Value.int IntKind.i64 n8, Value.int IntKind.i64 n9], Value.slice none 0 0])) w6)
      (∃ I2 : List Value → World → Prop,
      (brB (decide (n10 ≥ 16))
          (∃ I3 : List Value → World → Prop,
          (brB (n10 == 17)
              (∀ w7 : World,
              (Locl ([k3, k1]) w5 w7) →
              I3 [Value.int IntKind.i64 3] w7)
              (∀ w8 : World,
              (Locl ([k3, k1]) w5 w8) →
              I3 [Value.int IntKind.i64 2] w8)) ∧
          ∀ n11 : Int,
          ∀ w9 : World,
          (I3 [Value.int IntKind.i64 n11] w9) →
          ∃ I4 : List Value → World → Prop,
          (brB (n10 == 18)
              (I4 [Value.int IntKind.i64 7] w9)
              (I4 [Value.int IntKind.i64 n11] w9)) ∧
          ∀ n12 : Int,
          ∀ w10 : World,
          (I4 [Value.int IntKind.i64 n12] w10) →
          brB (n10 == 16 && (↑k4 : Int) == 0)
            (∀ w11 : World,
            (Locl ([k3, k1]) w10 w11) →
            R (Ending.returned (Value.tuple #[Value.agg #[Value.slice p6 k14 k15, Value.bool c3, Value.int IntKind.i64 n7, Value.slice p7 k16 k17, Value.int IntKind.i64 n8, Value.int IntKind.i64 41], Value.slice none 0 0])) w11)
            (Calls P F.ref04_take #[Value.agg #[Value.slice p6 k14 k15, Value.bool c3, Value.int IntKind.i64 n7, Value.slice p7 k16 k17, Value.int IntKind.i64 n8, Value.int IntKind.i64 n9], Value.int IntKind.i64 n12] w10 fun e2 w12 =>
            ∃ p8 : Option Addr,
            ∃ k18 : Nat,
            ∃ k19 : Nat,
            ∃ c4 : Bool,
            ∃ n13 : Int,
            ∃ p9 : Option Addr,
            ∃ k20 : Nat,
            ∃ k21 : Nat,
            ∃ n14 : Int,
            ∃ n15 : Int,
            ∃ n16 : Int,
            (e2 = Ending.returned (Value.tuple #[Value.agg #[Value.slice p8 k18 k19, Value.bool c4, Value.int IntKind.i64 n13, Value.slice p9 k20 k21, Value.int IntKind.i64 n14, Value.int IntKind.i64 n15], Value.int IntKind.i64 n16])) ∧
            (Keep ([k3, k1]) w10 w12) ∧
            brB (n15 != 0)
              (∀ w13 : World,
              (Locl ([k3, k1]) w12 w13) →
              R (Ending.returned (Value.tuple #[Value.agg #[Value.slice p8 k18 k19, Value.bool c4, Value.int IntKind.i64 n13, Value.slice p9 k20 k21, Value.int IntKind.i64 n14, Value.int IntKind.i64 n15], Value.slice none 0 0])) w13)
              (brB (n10 == 16)
                (idx (p1) (k4) (IntKind.i64.wrap ((↑k4 : Int) - 1)) (1) fun a1 =>
                ∀ w14 : World,
                (Locl ([k3, k1]) w12 w14) →
                ∃ n17 : Int,
                (w14.cell? a1 = some (Value.int IntKind.i64 n17)) ∧
                brB (n10 == 18)
                  (I2 [Value.int IntKind.i64 n17, Value.int IntKind.i64 (IntKind.i64.wrap (11 + n16)), Value.slice p8 k18 k19, Value.bool c4, Value.int IntKind.i64 n13, Value.slice p9 k20 k21, Value.int IntKind.i64 n14, Value.int IntKind.i64 n15, Value.slice p4 k10 k11, Value.bool c2, Value.int IntKind.i64 n4, Value.slice p5 k12 k13, Value.int IntKind.i64 n5, Value.int IntKind.i64 n6] w14)
                  (I2 [Value.int IntKind.i64 n17, Value.int IntKind.i64 (IntKind.i64.wrap (3 + n16)), Value.slice p8 k18 k19, Value.bool c4, Value.int IntKind.i64 n13, Value.slice p9 k20 k21, Value.int IntKind.i64 n14, Value.int IntKind.i64 n15, Value.slice p4 k10 k11, Value.bool c2, Value.int IntKind.i64 n4, Value.slice p5 k12 k13, Value.int IntKind.i64 n5, Value.int IntKind.i64 n6] w14))
                (brB (n10 == 18)
                  (∀ w15 : World,
                  (Locl ([k3, k1]) w12 w15) →
                  I2 [Value.int IntKind.i64 0, Value.int IntKind.i64 (IntKind.i64.wrap (11 + n16)), Value.slice p8 k18 k19, Value.bool c4, Value.int IntKind.i64 n13, Value.slice p9 k20 k21, Value.int IntKind.i64 n14, Value.int IntKind.i64 n15, Value.slice p4 k10 k11, Value.bool c2, Value.int IntKind.i64 n4, Value.slice p5 k12 k13, Value.int IntKind.i64 n5, Value.int IntKind.i64 n6] w15)
                  (∀ w16 : World,
                  (Locl ([k3, k1]) w12 w16) →
                  I2 [Value.int IntKind.i64 0, Value.int IntKind.i64 (IntKind.i64.wrap (3 + n16)), Value.slice p8 k18 k19, Value.bool c4, Value.int IntKind.i64 n13, Value.slice p9 k20 k21, Value.int IntKind.i64 n14, Value.int IntKind.i64 n15, Value.slice p4 k10 k11, Value.bool c2, Value.int IntKind.i64 n4, Value.slice p5 k12 k13, Value.int IntKind.i64 n5, Value.int IntKind.i64 n6] w16)))))
          (∀ w17 : World,
          (Locl ([k3, k1]) w5 w17) →
          I2 [Value.int IntKind.i64 n10, Value.int IntKind.i64 1, Value.slice p6 k14 k15, Value.bool c3, Value.int IntKind.i64 n7, Value.slice p7 k16 k17, Value.int IntKind.i64 n8, Value.int IntKind.i64 n9, Value.slice p4 k10 k11, Value.bool c2, Value.int IntKind.i64 n4, Value.slice p5 k12 k13, Value.int IntKind.i64 n5, Value.int IntKind.i64 n6] w17)) ∧
      ∀ n18 : Int,
      ∀ n19 : Int,
      ∀ p10 : Option Addr,
      ∀ k22 : Nat,
      ∀ k23 : Nat,
      ∀ c5 : Bool,
      ∀ n20 : Int,
      ∀ p11 : Option Addr,
      ∀ k24 : Nat,
      ∀ k25 : Nat,
      ∀ n21 : Int,
      ∀ n22 : Int,
      ∀ p12 : Option Addr,
      ∀ k26 : Nat,
      ∀ k27 : Nat,
      ∀ c6 : Bool,
      ∀ n23 : Int,
      ∀ p13 : Option Addr,
      ∀ k28 : Nat,
      ∀ k29 : Nat,
      ∀ n24 : Int,
      ∀ n25 : Int,
      ∀ w18 : World,
      (I2 [Value.int IntKind.i64 n18, Value.int IntKind.i64 n19, Value.slice p10 k22 k23, Value.bool c5, Value.int IntKind.i64 n20, Value.slice p11 k24 k25, Value.int IntKind.i64 n21, Value.int IntKind.i64 n22, Value.slice p12 k26 k27, Value.bool c6, Value.int IntKind.i64 n23, Value.slice p13 k28 k29, Value.int IntKind.i64 n24, Value.int IntKind.i64 n25] w18) →
      brB (decide (n19 > IntKind.i64.wrap (x4 - (↑k4 : Int))))
        (∀ w19 : World,
        (Locl ([k3, k1]) w18 w19) →
        R (Ending.returned (Value.tuple #[Value.agg #[Value.slice p10 k22 k23, Value.bool c5, Value.int IntKind.i64 n20, Value.slice p11 k24 k25, Value.int IntKind.i64 n21, Value.int IntKind.i64 41], Value.slice none 0 0])) w19)
        (∃ I5 : List Value → World → Prop,
        ∃ m2 : List Value → World → Nat,
        (I5 [Value.slice p1 k4 k5, Value.int IntKind.i64 0] w18) ∧
        ∀ p14 : Option Addr,
        ∀ k30 : Nat,
        ∀ k31 : Nat,
        ∀ n26 : Int,
        ∀ w20 : World,
        (I5 [Value.slice p14 k30 k31, Value.int IntKind.i64 n26] w20) →
        brB (decide (n26 < n19))
          (∀ k32 : Nat,
          (w20.heap.size ≤ k32) →
          ∀ w21 : World,
          (Locl ([k32, k3, k1]) w20 w21) →
          appVC (w21) ([(84, k32, [Value.int IntKind.i64 n18]), (6, k3, [Value.slice p12 k26 k27, Value.bool c6, Value.int IntKind.i64 n23, Value.slice p13 k28 k29, Value.int IntKind.i64 n24, Value.int IntKind.i64 n25]), (3, k1, [Value.slice p10 k22 k23, Value.bool c5, Value.int IntKind.i64 n20, Value.slice p11 k24 k25, Value.int IntKind.i64 n21, Value.int IntKind.i64 n22])]) (p14) (k30) (k31) (1) (1) (8) (3) ([Value.int IntKind.i64 0]) ([Value.int IntKind.i64 n18]) fun p15 k33 k34 w22 =>
          (I5 [Value.slice p15 k33 k34, Value.int IntKind.i64 (IntKind.i64.wrap (n26 + 1))] w22) ∧
          m2 [Value.slice p15 k33 k34, Value.int IntKind.i64 (IntKind.i64.wrap (n26 + 1))] w22 < m2 [Value.slice p14 k30 k31, Value.int IntKind.i64 n26] w20)
          ((I1 [Value.slice p14 k30 k31, Value.slice p10 k22 k23, Value.bool c5, Value.int IntKind.i64 n20, Value.slice p11 k24 k25, Value.int IntKind.i64 n21, Value.int IntKind.i64 n22, Value.slice p12 k26 k27, Value.bool c6, Value.int IntKind.i64 n23, Value.slice p13 k28 k29, Value.int IntKind.i64 n24, Value.int IntKind.i64 n25] w20) ∧
          m1 [Value.slice p14 k30 k31, Value.slice p10 k22 k23, Value.bool c5, Value.int IntKind.i64 n20, Value.slice p11 k24 k25, Value.int IntKind.i64 n21, Value.int IntKind.i64 n22, Value.slice p12 k26 k27, Value.bool c6, Value.int IntKind.i64 n23, Value.slice p13 k28 k29, Value.int IntKind.i64 n24, Value.int IntKind.i64 n25] w20 < m1 [Value.slice p1 k4 k5, Value.slice p2 k6 k7, Value.bool c1, Value.int IntKind.i64 n1, Value.slice p3 k8 k9, Value.int IntKind.i64 n2, Value.int IntKind.i64 n3, Value.slice p4 k10 k11, Value.bool c2, Value.int IntKind.i64 n4, Value.slice p5 k12 k13, Value.int IntKind.i64 n5, Value.int IntKind.i64 n6] w4))))
    (∀ w23 : World,
    (Locl ([k3, k1]) w4 w23) →
    R (Ending.returned (Value.tuple #[Value.agg #[Value.slice p2 k6 k7, Value.bool c1, Value.int IntKind.i64 n1, Value.slice p3 k8 k9, Value.int IntKind.i64 n2, Value.int IntKind.i64 n3], Value.slice p1 k4 k5])) w23)
theorem calls_ref04_row (sa1 : Option Addr) (sl1 sc1 : Nat) (b1 : Bool) (x1 : Int) (sa2 : Option Addr) (sl2 sc2 : Nat) (x2 : Int) (x3 : Int) (vs1 : List Value) (x4 : Int) (w : World) (R : Ending → World → Prop) (h : vc_ref04_row sa1 sl1 sc1 b1 x1 sa2 sl2 sc2 x2 x3 vs1 x4 w R) : Calls P F.ref04_row #[.agg #[.slice sa1 sl1 sc1, .bool b1, .int .i64 x1, .slice sa2 sl2 sc2, .int .i64 x2, .int .i64 x3], .agg vs1.toArray, .int .i64 x4] w R :=
  calls_of_vc (fn := Try.f52) (ac := ac_ref04_row) (args := [.agg #[.slice sa1 sl1 sc1, .bool b1, .int .i64 x1, .slice sa2 sl2 sc2, .int .i64 x2, .int .i64 x3], .agg vs1.toArray, .int .i64 x4]) mixed Try.func52 (by kernel_rfl) (cast (by unfold vc_ref04_row FnVc; kernel_rfl) h)
/-- darkroom/bits.there -/
def vc_bits_there (sa1 : Option Addr) (sl1 sc1 : Nat) (x1 : Int) (x2 : Int) (w : World) (R : Ending → World → Prop) : Prop :=
  brB (decide (x2 < 1) || decide (x2 > 4))
    (R (Ending.returned (Value.int IntKind.i64 2)) w)
    (brB (decide (x1 < 0) || decide (x1 > IntKind.i64.wrap ((↑sl1 : Int) - x2)))
      (R (Ending.returned (Value.int IntKind.i64 5)) w)
      (R (Ending.returned (Value.int IntKind.i64 0)) w))
theorem calls_bits_there (sa1 : Option Addr) (sl1 sc1 : Nat) (x1 : Int) (x2 : Int) (w : World) (R : Ending → World → Prop) (h : vc_bits_there sa1 sl1 sc1 x1 x2 w R) : Calls P F.bits_there #[.slice sa1 sl1 sc1, .int .i64 x1, .int .i64 x2] w R :=
  calls_of_vc (fn := Try.f53) (ac := ac_bits_there) (args := [.slice sa1 sl1 sc1, .int .i64 x1, .int .i64 x2]) mixed Try.func53 (by kernel_rfl) (cast (by unfold vc_bits_there FnVc; kernel_rfl) h)
/-- darkroom/sums.AdlerOn -/
def vc_sums_AdlerOn (x1 : Int) (sa1 : Option Addr) (sl1 sc1 : Nat) (w : World) (R : Ending → World → Prop) : Prop :=
  ∃ I1 : List Value → World → Prop,
  ∃ m1 : List Value → World → Nat,
  (I1 [Value.slice sa1 sl1 sc1, Value.int IntKind.u32 (divZ BinOp.rem IntKind.u32 (IntKind.u32.wrap (bitsZ BinOp.and IntKind.u32 x1 65535)) 65521), Value.int IntKind.u32 (divZ BinOp.rem IntKind.u32 (shiftZ BinOp.shr IntKind.u32 x1 16) 65521)] w) ∧
  ∀ p1 : Option Addr,
  ∀ k1 : Nat,
  ∀ k2 : Nat,
  ∀ n1 : Int,
  ∀ n2 : Int,
  ∀ w1 : World,
  (I1 [Value.slice p1 k1 k2, Value.int IntKind.u32 n1, Value.int IntKind.u32 n2] w1) →
  brB (decide ((↑k1 : Int) > 0))
    (slcc (p1) (k2) (0) (min (↑k1 : Int) 3000) (1) fun p2 k3 k4 =>
    ∃ I2 : List Value → World → Prop,
    ∃ m2 : List Value → World → Nat,
    (I2 [Value.int IntKind.u32 n1, Value.int IntKind.u32 n2, Value.int IntKind.i64 0] w1) ∧
    ∀ n3 : Int,
    ∀ n4 : Int,
    ∀ n5 : Int,
    ∀ w2 : World,
    (I2 [Value.int IntKind.u32 n3, Value.int IntKind.u32 n4, Value.int IntKind.i64 n5] w2) →
    brB (decide (n5 < (↑k3 : Int)))
      (idx (p2) (k3) (n5) (1) fun a1 =>
      ∃ n6 : Int,
      (w2.cell? a1 = some (Value.int IntKind.u8 n6)) ∧
      (I2 [Value.int IntKind.u32 (IntKind.u32.wrap (n3 + IntKind.u32.wrap n6)), Value.int IntKind.u32 (IntKind.u32.wrap (n4 + IntKind.u32.wrap (n3 + IntKind.u32.wrap n6))), Value.int IntKind.i64 (IntKind.i64.wrap (n5 + 1))] w2) ∧
      m2 [Value.int IntKind.u32 (IntKind.u32.wrap (n3 + IntKind.u32.wrap n6)), Value.int IntKind.u32 (IntKind.u32.wrap (n4 + IntKind.u32.wrap (n3 + IntKind.u32.wrap n6))), Value.int IntKind.i64 (IntKind.i64.wrap (n5 + 1))] w2 < m2 [Value.int IntKind.u32 n3, Value.int IntKind.u32 n4, Value.int IntKind.i64 n5] w2)
      (slcc (p1) (k2) (min (↑k1 : Int) 3000) ((↑k1 : Int)) (1) fun p3 k5 k6 =>
      (I1 [Value.slice p3 k5 k6, Value.int IntKind.u32 (divZ BinOp.rem IntKind.u32 n3 65521), Value.int IntKind.u32 (divZ BinOp.rem IntKind.u32 n4 65521)] w2) ∧
      m1 [Value.slice p3 k5 k6, Value.int IntKind.u32 (divZ BinOp.rem IntKind.u32 n3 65521), Value.int IntKind.u32 (divZ BinOp.rem IntKind.u32 n4 65521)] w2 < m1 [Value.slice p1 k1 k2, Value.int IntKind.u32 n1, Value.int IntKind.u32 n2] w1))
    (R (Ending.returned (Value.int IntKind.u32 (IntKind.u32.wrap (bitsZ BinOp.or IntKind.u32 (shiftZ BinOp.shl IntKind.u32 n2 16) n1)))) w1)
theorem calls_sums_AdlerOn (x1 : Int) (sa1 : Option Addr) (sl1 sc1 : Nat) (w : World) (R : Ending → World → Prop) (h : vc_sums_AdlerOn x1 sa1 sl1 sc1 w R) : Calls P F.sums_AdlerOn #[.int .u32 x1, .slice sa1 sl1 sc1] w R :=
  calls_of_vc (fn := Try.f54) (ac := ac_sums_AdlerOn) (args := [.int .u32 x1, .slice sa1 sl1 sc1]) mixed Try.func54 (by kernel_rfl) (cast (by unfold vc_sums_AdlerOn FnVc; kernel_rfl) h)
/-- darkroom/bits.high -/
def vc_bits_high (x1 : Int) (w : World) (R : Ending → World → Prop) : Prop :=
  R (Ending.returned (Value.int IntKind.u64 (IntKind.u64.wrap (7 - divZ BinOp.rem IntKind.u64 (IntKind.u64.wrap x1) 8)))) w
theorem calls_bits_high (x1 : Int) (w : World) (R : Ending → World → Prop) (h : vc_bits_high x1 w R) : Calls P F.bits_high #[.int .i64 x1] w R :=
  calls_of_vc (fn := Try.f55) (ac := ac_bits_high) (args := [.int .i64 x1]) mixed Try.func55 (by kernel_rfl) (cast (by unfold vc_bits_high FnVc; kernel_rfl) h)
/-- darkroom/bits.low -/
def vc_bits_low (x1 : Int) (w : World) (R : Ending → World → Prop) : Prop :=
  R (Ending.returned (Value.int IntKind.u64 (divZ BinOp.rem IntKind.u64 (IntKind.u64.wrap x1) 8))) w
theorem calls_bits_low (x1 : Int) (w : World) (R : Ending → World → Prop) (h : vc_bits_low x1 w R) : Calls P F.bits_low #[.int .i64 x1] w R :=
  calls_of_vc (fn := Try.f56) (ac := ac_bits_low) (args := [.int .i64 x1]) mixed Try.func56 (by kernel_rfl) (cast (by unfold vc_bits_low FnVc; kernel_rfl) h)
/-- (*darkroom/bits.Reader).Left -/
def vc_bits_Reader_Left (q1 : Option Addr) (w : World) (R : Ending → World → Prop) : Prop :=
  brB (q1.isNone)
    (R (Ending.returned (Value.int IntKind.i64 0)) w)
    (nn (q1) fun a1 =>
    ∃ p1 : Option Addr,
    ∃ k1 : Nat,
    ∃ k2 : Nat,
    (w.drew.cell? a1 = some (Value.slice p1 k1 k2)) ∧
    nn (q1) fun a2 =>
    ∃ n1 : Int,
    (w.drew.cell? (a2.add 1) = some (Value.int IntKind.i64 n1)) ∧
    R (Ending.returned (Value.int IntKind.i64 (IntKind.i64.wrap (IntKind.i64.wrap (8 * (↑k1 : Int)) - n1)))) w.drew)
theorem calls_bits_Reader_Left (q1 : Option Addr) (w : World) (R : Ending → World → Prop) (h : vc_bits_Reader_Left q1 w R) : Calls P F.bits_Reader_Left #[.pointer q1] w R :=
  calls_of_vc (fn := Try.f57) (ac := ac_bits_Reader_Left) (args := [.pointer q1]) mixed Try.func57 (by kernel_rfl) (cast (by unfold vc_bits_Reader_Left FnVc; kernel_rfl) h)
/-- (*darkroom/bits.Reader).border -/
def vc_bits_Reader_border (q1 : Option Addr) (w : World) (R : Ending → World → Prop) : Prop :=
  nn (q1) fun a1 =>
  ∃ n1 : Int,
  (w.cell? (a1.add 1) = some (Value.int IntKind.i64 n1)) ∧
  R (Ending.returned (Value.int IntKind.i64 (divZ BinOp.quo IntKind.i64 (IntKind.i64.wrap (n1 + 7)) 8))) w
theorem calls_bits_Reader_border (q1 : Option Addr) (w : World) (R : Ending → World → Prop) (h : vc_bits_Reader_border q1 w R) : Calls P F.bits_Reader_border #[.pointer q1] w R :=
  calls_of_vc (fn := Try.f58) (ac := ac_bits_Reader_border) (args := [.pointer q1]) mixed Try.func58 (by kernel_rfl) (cast (by unfold vc_bits_Reader_border FnVc; kernel_rfl) h)
/-- (*darkroom/prefix.Decoder).Next -/
def vc_prefix_Decoder_Next (q1 : Option Addr) (q2 : Option Addr) (w : World) (R : Ending → World → Prop) : Prop :=
  brB (q1.isNone || q2.isNone)
    (R (Ending.returned (Value.tuple #[Value.int IntKind.i64 0, Value.int IntKind.i64 1])) w)
    (∃ I1 : List Value → World → Prop,
    (∃ I2 : List Value → World → Prop,
      ∃ m1 : List Value → World → Nat,
      (I2 [Value.int IntKind.i64 0, Value.int IntKind.i64 1] w) ∧
      ∀ n1 : Int,
      ∀ n2 : Int,
      ∀ w1 : World,
      (I2 [Value.int IntKind.i64 n1, Value.int IntKind.i64 n2] w1) →
      nn (q1) fun a1 =>
      ∃ n3 : Int,
      (w1.cell? (a1.add 52) = some (Value.int IntKind.i64 n3)) ∧
      brB (decide (n2 ≤ n3))
        (Calls P F.bits_Reader_Take #[Value.pointer q2, Value.int IntKind.i64 1] w1 fun e1 w2 =>
        ∃ n4 : Int,
        ∃ n5 : Int,
        (e1 = Ending.returned (Value.tuple #[Value.int IntKind.u32 n4, Value.int IntKind.i64 n5])) ∧
        brB (n5 != 0)
          (R (Ending.returned (Value.tuple #[Value.int IntKind.i64 0, Value.int IntKind.i64 5])) w2)
          (nn (q1) fun a2 =>
          (0 ≤ n2) ∧
          (n2 < 17) ∧
          ∃ n6 : Int,
          (w2.cell? (a2.add (n2.toNat * 1)) = some (Value.int IntKind.i64 n6)) ∧
          nn (q1) fun a3 =>
          (0 ≤ n2) ∧
          (n2 < 17) ∧
          ∃ n7 : Int,
          (w2.cell? ((a3.add 34).add (n2.toNat * 1)) = some (Value.int IntKind.i64 n7)) ∧
          brB (decide (IntKind.i64.wrap (IntKind.i64.wrap (bitsZ BinOp.or IntKind.i64 (shiftZ BinOp.shl IntKind.i64 n1 1) (IntKind.i64.wrap n4)) - n6) < n7) && decide (IntKind.i64.wrap (IntKind.i64.wrap (bitsZ BinOp.or IntKind.i64 (shiftZ BinOp.shl IntKind.i64 n1 1) (IntKind.i64.wrap n4)) - n6) ≥ 0))
            (nn (q1) fun a4 =>
            ∃ p1 : Option Addr,
            ∃ k1 : Nat,
            ∃ k2 : Nat,
            (w2.drew.cell? (a4.add 51) = some (Value.slice p1 k1 k2)) ∧
            nn (q1) fun a5 =>
            (0 ≤ n2) ∧
            (n2 < 17) ∧
            ∃ n8 : Int,
            (w2.drew.cell? ((a5.add 17).add (n2.toNat * 1)) = some (Value.int IntKind.i64 n8)) ∧
            idx (p1) (k1) (IntKind.i64.wrap (n8 + IntKind.i64.wrap (IntKind.i64.wrap (bitsZ BinOp.or IntKind.i64 (shiftZ BinOp.shl IntKind.i64 n1 1) (IntKind.i64.wrap n4)) - n6))) (1) fun a6 =>
            ∃ n9 : Int,
            (w2.drew.cell? a6 = some (Value.int IntKind.i64 n9)) ∧
            R (Ending.returned (Value.tuple #[Value.int IntKind.i64 n9, Value.int IntKind.i64 0])) w2.drew)
            (Calls P F.prefix_Decoder_above #[Value.pointer q1, Value.int IntKind.i64 n2] w2 fun e2 w3 =>
            ∃ n10 : Int,
            (e2 = Ending.returned (Value.int IntKind.i64 n10)) ∧
            brB (decide (IntKind.i64.wrap (bitsZ BinOp.or IntKind.i64 (shiftZ BinOp.shl IntKind.i64 n1 1) (IntKind.i64.wrap n4)) ≥ n10))
              (I1 [] w3)
              ((I2 [Value.int IntKind.i64 (IntKind.i64.wrap (bitsZ BinOp.or IntKind.i64 (shiftZ BinOp.shl IntKind.i64 n1 1) (IntKind.i64.wrap n4))), Value.int IntKind.i64 (IntKind.i64.wrap (n2 + 1))] w3) ∧
              m1 [Value.int IntKind.i64 (IntKind.i64.wrap (bitsZ BinOp.or IntKind.i64 (shiftZ BinOp.shl IntKind.i64 n1 1) (IntKind.i64.wrap n4))), Value.int IntKind.i64 (IntKind.i64.wrap (n2 + 1))] w3 < m1 [Value.int IntKind.i64 n1, Value.int IntKind.i64 n2] w1))))
        (I1 [] w1)) ∧
    ∀ w4 : World,
    (I1 [] w4) →
    R (Ending.returned (Value.tuple #[Value.int IntKind.i64 0, Value.int IntKind.i64 32])) w4)
theorem calls_prefix_Decoder_Next (q1 : Option Addr) (q2 : Option Addr) (w : World) (R : Ending → World → Prop) (h : vc_prefix_Decoder_Next q1 q2 w R) : Calls P F.prefix_Decoder_Next #[.pointer q1, .pointer q2] w R :=
  calls_of_vc (fn := Try.f59) (ac := ac_prefix_Decoder_Next) (args := [.pointer q1, .pointer q2]) mixed Try.func59 (by kernel_rfl) (cast (by unfold vc_prefix_Decoder_Next FnVc; kernel_rfl) h)
/-- darkroom/prefix.checked -/
def vc_prefix_checked (sa1 : Option Addr) (sl1 sc1 : Nat) (w : World) (R : Ending → World → Prop) : Prop :=
  Calls P F.prefix_Room #[Value.slice sa1 sl1 sc1] w fun e1 w1 =>
  ∃ n1 : Int,
  ∃ n2 : Int,
  (e1 = Ending.returned (Value.tuple #[Value.int IntKind.i64 n1, Value.int IntKind.i64 n2])) ∧
  brB (n2 == 0 && decide (n1 < 0))
    (R (Ending.returned (Value.int IntKind.i64 30)) w1)
    (R (Ending.returned (Value.int IntKind.i64 n2)) w1)
theorem calls_prefix_checked (sa1 : Option Addr) (sl1 sc1 : Nat) (w : World) (R : Ending → World → Prop) (h : vc_prefix_checked sa1 sl1 sc1 w R) : Calls P F.prefix_checked #[.slice sa1 sl1 sc1] w R :=
  calls_of_vc (fn := Try.f60) (ac := ac_prefix_checked) (args := [.slice sa1 sl1 sc1]) mixed Try.func60 (by kernel_rfl) (cast (by unfold vc_prefix_checked FnVc; kernel_rfl) h)
/-- darkroom/prefix.Room -/
def vc_prefix_Room (sa1 : Option Addr) (sl1 sc1 : Nat) (w : World) (R : Ending → World → Prop) : Prop :=
  brB (decide ((↑sl1 : Int) > 4096))
    (R (Ending.returned (Value.tuple #[Value.int IntKind.i64 0, Value.int IntKind.i64 3])) w)
    (∃ I1 : List Value → World → Prop,
    ∃ m1 : List Value → World → Nat,
    (I1 [Value.int IntKind.i64 65536, Value.int IntKind.i64 0] w) ∧
    ∀ n1 : Int,
    ∀ n2 : Int,
    ∀ w1 : World,
    (I1 [Value.int IntKind.i64 n1, Value.int IntKind.i64 n2] w1) →
    brB (decide (n2 < (↑sl1 : Int)))
      (∃ I2 : List Value → World → Prop,
      (idx (sa1) (sl1) (n2) (1) fun a1 =>
        ∃ n3 : Int,
        (w1.cell? a1 = some (Value.int IntKind.i64 n3)) ∧
        brB (decide (n3 < 0) || decide (n3 > 16))
          (R (Ending.returned (Value.tuple #[Value.int IntKind.i64 0, Value.int IntKind.i64 2])) w1)
          (brB (decide (n3 > 0))
            ((0 ≤ IntKind.i64.wrap (16 - n3)) ∧
            I2 [Value.int IntKind.i64 (IntKind.i64.wrap (n1 - shiftZ BinOp.shl IntKind.i64 1 (IntKind.i64.wrap (16 - n3))))] w1)
            (I2 [Value.int IntKind.i64 n1] w1))) ∧
      ∀ n4 : Int,
      ∀ w2 : World,
      (I2 [Value.int IntKind.i64 n4] w2) →
      (I1 [Value.int IntKind.i64 n4, Value.int IntKind.i64 (IntKind.i64.wrap (n2 + 1))] w2) ∧
      m1 [Value.int IntKind.i64 n4, Value.int IntKind.i64 (IntKind.i64.wrap (n2 + 1))] w2 < m1 [Value.int IntKind.i64 n1, Value.int IntKind.i64 n2] w1)
      (R (Ending.returned (Value.tuple #[Value.int IntKind.i64 n1, Value.int IntKind.i64 0])) w1))
theorem calls_prefix_Room (sa1 : Option Addr) (sl1 sc1 : Nat) (w : World) (R : Ending → World → Prop) (h : vc_prefix_Room sa1 sl1 sc1 w R) : Calls P F.prefix_Room #[.slice sa1 sl1 sc1] w R :=
  calls_of_vc (fn := Try.f61) (ac := ac_prefix_Room) (args := [.slice sa1 sl1 sc1]) mixed Try.func61 (by kernel_rfl) (cast (by unfold vc_prefix_Room FnVc; kernel_rfl) h)
/-- darkroom/darkroomref01.Left -/
def vc_ref01_Left (sa1 : Option Addr) (sl1 sc1 : Nat) (b1 : Bool) (x1 : Int) (w : World) (R : Ending → World → Prop) : Prop :=
  ∀ k1 : Nat,
  (w.heap.size ≤ k1) →
  ∀ w1 : World,
  (Locl ([k1]) w w1) →
  R (Ending.returned (Value.int IntKind.i64 (IntKind.i64.wrap (IntKind.i64.wrap (8 * (↑sl1 : Int)) - x1)))) w1
theorem calls_ref01_Left (sa1 : Option Addr) (sl1 sc1 : Nat) (b1 : Bool) (x1 : Int) (w : World) (R : Ending → World → Prop) (h : vc_ref01_Left sa1 sl1 sc1 b1 x1 w R) : Calls P F.ref01_Left #[.agg #[.slice sa1 sl1 sc1, .bool b1, .int .i64 x1]] w R :=
  calls_of_vc (fn := Try.f62) (ac := ac_ref01_Left) (args := [.agg #[.slice sa1 sl1 sc1, .bool b1, .int .i64 x1]]) mixed Try.func62 (by kernel_rfl) (cast (by unfold vc_ref01_Left FnVc; kernel_rfl) h)
/-- darkroom/darkroomref01.bit -/
def vc_ref01_bit (sa1 : Option Addr) (sl1 sc1 : Nat) (b1 : Bool) (x1 : Int) (w : World) (R : Ending → World → Prop) : Prop :=
  brB (b1)
    (idx (sa1) (sl1) (divZ BinOp.quo IntKind.i64 x1 8) (1) fun a1 =>
    ∃ n1 : Int,
    (w.cell? a1 = some (Value.int IntKind.u8 n1)) ∧
    (0 ≤ IntKind.u64.wrap (IntKind.i64.wrap (7 - divZ BinOp.rem IntKind.i64 x1 8))) ∧
    R (Ending.returned (Value.int IntKind.u32 (divZ BinOp.rem IntKind.u32 (shiftZ BinOp.shr IntKind.u32 (IntKind.u32.wrap n1) (IntKind.u64.wrap (IntKind.i64.wrap (7 - divZ BinOp.rem IntKind.i64 x1 8)))) 2))) w)
    (idx (sa1) (sl1) (divZ BinOp.quo IntKind.i64 x1 8) (1) fun a2 =>
    ∃ n2 : Int,
    (w.cell? a2 = some (Value.int IntKind.u8 n2)) ∧
    (0 ≤ IntKind.u64.wrap (divZ BinOp.rem IntKind.i64 x1 8)) ∧
    R (Ending.returned (Value.int IntKind.u32 (divZ BinOp.rem IntKind.u32 (shiftZ BinOp.shr IntKind.u32 (IntKind.u32.wrap n2) (IntKind.u64.wrap (divZ BinOp.rem IntKind.i64 x1 8))) 2))) w)
theorem calls_ref01_bit (sa1 : Option Addr) (sl1 sc1 : Nat) (b1 : Bool) (x1 : Int) (w : World) (R : Ending → World → Prop) (h : vc_ref01_bit sa1 sl1 sc1 b1 x1 w R) : Calls P F.ref01_bit #[.slice sa1 sl1 sc1, .bool b1, .int .i64 x1] w R :=
  calls_of_vc (fn := Try.f63) (ac := ac_ref01_bit) (args := [.slice sa1 sl1 sc1, .bool b1, .int .i64 x1]) mixed Try.func63 (by kernel_rfl) (cast (by unfold vc_ref01_bit FnVc; kernel_rfl) h)
/-- darkroom/darkroomref03.Next -/
def vc_ref03_Next (vs1 : List Value) (sa1 : Option Addr) (sl1 sc1 : Nat) (b1 : Bool) (x1 : Int) (w : World) (R : Ending → World → Prop) : Prop :=
  ∀ k1 : Nat,
  ∀ w1 : World,
  (New w (Obj.cells vs1.toArray 70) k1 w1) →
  ∀ k2 : Nat,
  (w1.heap.size ≤ k2) →
  ∀ k3 : Nat,
  (w1.heap.size ≤ k3) →
  ∀ w2 : World,
  (Locl ([k3, k2]) w1 w2) →
  ∃ c1 : Bool,
  (w2.cell? { block := k1, off := 36 } = some (Value.bool c1)) ∧
  brB (!c1)
    (∀ w3 : World,
    (Locl ([k3, k2]) w2 w3) →
    R (Ending.returned (Value.tuple #[Value.agg #[Value.slice sa1 sl1 sc1, Value.bool b1, Value.int IntKind.i64 x1], Value.int IntKind.i64 0, Value.int IntKind.i64 32])) w3)
    (∃ I1 : List Value → World → Prop,
    ∃ m1 : List Value → World → Nat,
    (I1 [Value.int IntKind.i64 0, Value.int IntKind.i64 1, Value.slice sa1 sl1 sc1, Value.bool b1, Value.int IntKind.i64 x1, Value.slice none 0 0, Value.bool false, Value.int IntKind.i64 0] w2) ∧
    ∀ n1 : Int,
    ∀ n2 : Int,
    ∀ p1 : Option Addr,
    ∀ k4 : Nat,
    ∀ k5 : Nat,
    ∀ c2 : Bool,
    ∀ n3 : Int,
    ∀ p2 : Option Addr,
    ∀ k6 : Nat,
    ∀ k7 : Nat,
    ∀ c3 : Bool,
    ∀ n4 : Int,
    ∀ w4 : World,
    (I1 [Value.int IntKind.i64 n1, Value.int IntKind.i64 n2, Value.slice p1 k4 k5, Value.bool c2, Value.int IntKind.i64 n3, Value.slice p2 k6 k7, Value.bool c3, Value.int IntKind.i64 n4] w4) →
    brB (decide (n2 ≤ 16))
      (Calls P F.ref01_Take #[Value.agg #[Value.slice p1 k4 k5, Value.bool c2, Value.int IntKind.i64 n3], Value.int IntKind.i64 1] w4 fun e1 w5 =>
      ∃ p3 : Option Addr,
      ∃ k8 : Nat,
      ∃ k9 : Nat,
      ∃ c4 : Bool,
      ∃ n5 : Int,
      ∃ n6 : Int,
      ∃ n7 : Int,
      (e1 = Ending.returned (Value.tuple #[Value.agg #[Value.slice p3 k8 k9, Value.bool c4, Value.int IntKind.i64 n5], Value.int IntKind.u32 n6, Value.int IntKind.i64 n7])) ∧
      (Keep ([k3, k2]) w4 w5) ∧
      ∀ k10 : Nat,
      (w5.heap.size ≤ k10) →
      brB (n7 != 0)
        (∀ w6 : World,
        (Locl ([k10, k3, k2]) w5 w6) →
        R (Ending.returned (Value.tuple #[Value.agg #[Value.slice p3 k8 k9, Value.bool c4, Value.int IntKind.i64 n5], Value.int IntKind.i64 0, Value.int IntKind.i64 5])) w6)
        (∃ I2 : List Value → World → Prop,
        ((0 ≤ n2) ∧
          (n2 < 18) ∧
          ∀ w7 : World,
          (Locl ([k10, k3, k2]) w5 w7) →
          ∃ n8 : Int,
          (w7.cell? ({ block := k1, off := 0 : Addr }.add (n2.toNat * 1)) = some (Value.int IntKind.i64 n8)) ∧
          brB (decide (IntKind.i64.wrap (IntKind.i64.wrap (2 * n1) + IntKind.i64.wrap n6) ≥ n8))
            ((0 ≤ n2) ∧
            (n2 < 18) ∧
            ∃ n9 : Int,
            (w7.cell? ({ block := k1, off := 0 : Addr }.add (n2.toNat * 1)) = some (Value.int IntKind.i64 n9)) ∧
            (0 ≤ n2) ∧
            (n2 < 18) ∧
            ∃ p4 : Option Addr,
            ∃ k11 : Nat,
            ∃ k12 : Nat,
            (w7.cell? ({ block := k1, off := 18 : Addr }.add (n2.toNat * 1)) = some (Value.slice p4 k11 k12)) ∧
            brB (decide (IntKind.i64.wrap (IntKind.i64.wrap (2 * n1) + IntKind.i64.wrap n6) < IntKind.i64.wrap (n9 + (↑k11 : Int))))
              ((0 ≤ n2) ∧
              (n2 < 18) ∧
              (0 ≤ n2) ∧
              (n2 < 18) ∧
              (∃ p5 : Option Addr,
                ∃ k13 : Nat,
                ∃ k14 : Nat,
                (w7.drew.cell? ({ block := k1, off := 18 : Addr }.add (n2.toNat * 1)) = some (Value.slice p5 k13 k14)) ∧
                (∃ n10 : Int,
                  (w7.drew.cell? ({ block := k1, off := 0 : Addr }.add (n2.toNat * 1)) = some (Value.int IntKind.i64 n10)) ∧
                  idx (p5) (k13) (IntKind.i64.wrap (IntKind.i64.wrap (IntKind.i64.wrap (2 * n1) + IntKind.i64.wrap n6) - n10)) (1) fun a1 =>
                  (∃ n11 : Int,
                    (w7.drew.cell? a1 = some (Value.int IntKind.i64 n11)) ∧
                    ∀ w8 : World,
                    (Locl ([k10, k3, k2]) (w7.drew) w8) →
                    R (Ending.returned (Value.tuple #[Value.agg #[Value.slice p3 k8 k9, Value.bool c4, Value.int IntKind.i64 n5], Value.int IntKind.i64 n11, Value.int IntKind.i64 0])) w8) ∧
                  ∀ w9 : World,
                  (Locl ([k10, k3, k2]) (w7.drew) w9) →
                  ∃ n12 : Int,
                  (w9.cell? a1 = some (Value.int IntKind.i64 n12)) ∧
                  R (Ending.returned (Value.tuple #[Value.agg #[Value.slice p3 k8 k9, Value.bool c4, Value.int IntKind.i64 n5], Value.int IntKind.i64 n12, Value.int IntKind.i64 0])) w9) ∧
                ∀ w10 : World,
                (Locl ([k10, k3, k2]) (w7.drew) w10) →
                ∃ n13 : Int,
                (w10.cell? ({ block := k1, off := 0 : Addr }.add (n2.toNat * 1)) = some (Value.int IntKind.i64 n13)) ∧
                idx (p5) (k13) (IntKind.i64.wrap (IntKind.i64.wrap (IntKind.i64.wrap (2 * n1) + IntKind.i64.wrap n6) - n13)) (1) fun a2 =>
                ∃ n14 : Int,
                (w10.cell? a2 = some (Value.int IntKind.i64 n14)) ∧
                R (Ending.returned (Value.tuple #[Value.agg #[Value.slice p3 k8 k9, Value.bool c4, Value.int IntKind.i64 n5], Value.int IntKind.i64 n14, Value.int IntKind.i64 0])) w10) ∧
              (∃ n15 : Int,
                (w7.drew.cell? ({ block := k1, off := 0 : Addr }.add (n2.toNat * 1)) = some (Value.int IntKind.i64 n15)) ∧
                (∃ p6 : Option Addr,
                  ∃ k15 : Nat,
                  ∃ k16 : Nat,
                  (w7.drew.cell? ({ block := k1, off := 18 : Addr }.add (n2.toNat * 1)) = some (Value.slice p6 k15 k16)) ∧
                  idx (p6) (k15) (IntKind.i64.wrap (IntKind.i64.wrap (IntKind.i64.wrap (2 * n1) + IntKind.i64.wrap n6) - n15)) (1) fun a3 =>
                  (∃ n16 : Int,
                    (w7.drew.cell? a3 = some (Value.int IntKind.i64 n16)) ∧
                    ∀ w11 : World,
                    (Locl ([k10, k3, k2]) (w7.drew) w11) →
                    R (Ending.returned (Value.tuple #[Value.agg #[Value.slice p3 k8 k9, Value.bool c4, Value.int IntKind.i64 n5], Value.int IntKind.i64 n16, Value.int IntKind.i64 0])) w11) ∧
                  ∀ w12 : World,
                  (Locl ([k10, k3, k2]) (w7.drew) w12) →
                  ∃ n17 : Int,
                  (w12.cell? a3 = some (Value.int IntKind.i64 n17)) ∧
                  R (Ending.returned (Value.tuple #[Value.agg #[Value.slice p3 k8 k9, Value.bool c4, Value.int IntKind.i64 n5], Value.int IntKind.i64 n17, Value.int IntKind.i64 0])) w12) ∧
                ∀ w13 : World,
                (Locl ([k10, k3, k2]) (w7.drew) w13) →
                ∃ p7 : Option Addr,
                ∃ k17 : Nat,
                ∃ k18 : Nat,
                (w13.cell? ({ block := k1, off := 18 : Addr }.add (n2.toNat * 1)) = some (Value.slice p7 k17 k18)) ∧
                idx (p7) (k17) (IntKind.i64.wrap (IntKind.i64.wrap (IntKind.i64.wrap (2 * n1) + IntKind.i64.wrap n6) - n15)) (1) fun a4 =>
                ∃ n18 : Int,
                (w13.cell? a4 = some (Value.int IntKind.i64 n18)) ∧
                R (Ending.returned (Value.tuple #[Value.agg #[Value.slice p3 k8 k9, Value.bool c4, Value.int IntKind.i64 n5], Value.int IntKind.i64 n18, Value.int IntKind.i64 0])) w13) ∧
              ∀ w14 : World,
              (Locl ([k10, k3, k2]) (w7.drew) w14) →
              ∃ p8 : Option Addr,
              ∃ k19 : Nat,
              ∃ k20 : Nat,
              (w14.cell? ({ block := k1, off := 18 : Addr }.add (n2.toNat * 1)) = some (Value.slice p8 k19 k20)) ∧
              ∃ n19 : Int,
              (w14.cell? ({ block := k1, off := 0 : Addr }.add (n2.toNat * 1)) = some (Value.int IntKind.i64 n19)) ∧
              idx (p8) (k19) (IntKind.i64.wrap (IntKind.i64.wrap (IntKind.i64.wrap (2 * n1) + IntKind.i64.wrap n6) - n19)) (1) fun a5 =>
              ∃ n20 : Int,
              (w14.cell? a5 = some (Value.int IntKind.i64 n20)) ∧
              R (Ending.returned (Value.tuple #[Value.agg #[Value.slice p3 k8 k9, Value.bool c4, Value.int IntKind.i64 n5], Value.int IntKind.i64 n20, Value.int IntKind.i64 0])) w14)
              (I2 [Value.slice p2 k6 k7, Value.bool c3, Value.int IntKind.i64 n4] w7))
            (I2 [Value.slice p2 k6 k7, Value.bool c3, Value.int IntKind.i64 n4] w7)) ∧
        ∀ p9 : Option Addr,
        ∀ k21 : Nat,
        ∀ k22 : Nat,
        ∀ c5 : Bool,
        ∀ n21 : Int,
        ∀ w15 : World,
        (I2 [Value.slice p9 k21 k22, Value.bool c5, Value.int IntKind.i64 n21] w15) →
        ∃ l1 : List Value,
        (l1.length = 37) ∧
        (CellsAt w15 ({ block := k1, off := 0 }) l1) ∧
        Calls P F.ref03_more #[Value.agg l1.toArray, Value.int IntKind.i64 (IntKind.i64.wrap (IntKind.i64.wrap (2 * n1) + IntKind.i64.wrap n6)), Value.int IntKind.i64 n2] w15 fun e2 w16 =>
        ∃ c6 : Bool,
        (e2 = Ending.returned (Value.bool c6)) ∧
        (Keep ([k10, k3, k2]) w15 w16) ∧
        brB (!c6)
          (∀ w17 : World,
          (Locl ([k10, k3, k2]) w16 w17) →
          R (Ending.returned (Value.tuple #[Value.agg #[Value.slice p3 k8 k9, Value.bool c4, Value.int IntKind.i64 n5], Value.int IntKind.i64 0, Value.int IntKind.i64 32])) w17)
          ((I1 [Value.int IntKind.i64 (IntKind.i64.wrap (IntKind.i64.wrap (2 * n1) + IntKind.i64.wrap n6)), Value.int IntKind.i64 (IntKind.i64.wrap (n2 + 1)), Value.slice p3 k8 k9, Value.bool c4, Value.int IntKind.i64 n5, Value.slice p9 k21 k22, Value.bool c5, Value.int IntKind.i64 n21] w16) ∧
          m1 [Value.int IntKind.i64 (IntKind.i64.wrap (IntKind.i64.wrap (2 * n1) + IntKind.i64.wrap n6)), Value.int IntKind.i64 (IntKind.i64.wrap (n2 + 1)), Value.slice p3 k8 k9, Value.bool c4, Value.int IntKind.i64 n5, Value.slice p9 k21 k22, Value.bool c5, Value.int IntKind.i64 n21] w16 < m1 [Value.int IntKind.i64 n1, Value.int IntKind.i64 n2, Value.slice p1 k4 k5, Value.bool c2, Value.int IntKind.i64 n3, Value.slice p2 k6 k7, Value.bool c3, Value.int IntKind.i64 n4] w4)))
      (∀ w18 : World,
      (Locl ([k3, k2]) w4 w18) →
      R (Ending.returned (Value.tuple #[Value.agg #[Value.slice p1 k4 k5, Value.bool c2, Value.int IntKind.i64 n3], Value.int IntKind.i64 0, Value.int IntKind.i64 32])) w18))
theorem calls_ref03_Next (vs1 : List Value) (sa1 : Option Addr) (sl1 sc1 : Nat) (b1 : Bool) (x1 : Int) (w : World) (R : Ending → World → Prop) (h : vc_ref03_Next vs1 sa1 sl1 sc1 b1 x1 w R) : Calls P F.ref03_Next #[.agg vs1.toArray, .agg #[.slice sa1 sl1 sc1, .bool b1, .int .i64 x1]] w R :=
  calls_of_vc (fn := Try.f64) (ac := ac_ref03_Next) (args := [.agg vs1.toArray, .agg #[.slice sa1 sl1 sc1, .bool b1, .int .i64 x1]]) mixed Try.func64 (by kernel_rfl) (cast (by unfold vc_ref03_Next FnVc; kernel_rfl) h)
/-- darkroom/darkroomref04.base -/
def vc_ref04_base (x1 : Int) (x2 : Int) (x3 : Int) (w : World) (R : Ending → World → Prop) : Prop :=
  brB (decide (x1 < IntKind.i64.wrap (2 * x2)))
    (R (Ending.returned (Value.tuple #[Value.int IntKind.i64 (IntKind.i64.wrap (x3 + x1)), Value.int IntKind.i64 0])) w)
    ((x2 ≠ 0) ∧
    ∃ I1 : List Value → World → Prop,
    ∃ m1 : List Value → World → Nat,
    (I1 [Value.int IntKind.i64 x3, Value.int IntKind.i64 0] w) ∧
    ∀ n1 : Int,
    ∀ n2 : Int,
    ∀ w1 : World,
    (I1 [Value.int IntKind.i64 n1, Value.int IntKind.i64 n2] w1) →
    brB (decide (n2 < x1))
      (∃ I2 : List Value → World → Prop,
      (brB (decide (n2 ≥ IntKind.i64.wrap (2 * x2)))
          ((x2 ≠ 0) ∧
          (0 ≤ IntKind.u64.wrap (IntKind.i64.wrap (divZ BinOp.quo IntKind.i64 n2 x2 - 1))) ∧
          I2 [Value.int IntKind.i64 (IntKind.i64.wrap (n1 + shiftZ BinOp.shl IntKind.i64 1 (IntKind.u64.wrap (IntKind.i64.wrap (divZ BinOp.quo IntKind.i64 n2 x2 - 1)))))] w1)
          (((0 : Int) ≤ 0) ∧
          I2 [Value.int IntKind.i64 (IntKind.i64.wrap (n1 + 1))] w1)) ∧
      ∀ n3 : Int,
      ∀ w2 : World,
      (I2 [Value.int IntKind.i64 n3] w2) →
      (I1 [Value.int IntKind.i64 n3, Value.int IntKind.i64 (IntKind.i64.wrap (n2 + 1))] w2) ∧
      m1 [Value.int IntKind.i64 n3, Value.int IntKind.i64 (IntKind.i64.wrap (n2 + 1))] w2 < m1 [Value.int IntKind.i64 n1, Value.int IntKind.i64 n2] w1)
      (R (Ending.returned (Value.tuple #[Value.int IntKind.i64 n1, Value.int IntKind.i64 (IntKind.i64.wrap (divZ BinOp.quo IntKind.i64 x1 x2 - 1))])) w1))
theorem calls_ref04_base (x1 : Int) (x2 : Int) (x3 : Int) (w : World) (R : Ending → World → Prop) (h : vc_ref04_base x1 x2 x3 w R) : Calls P F.ref04_base #[.int .i64 x1, .int .i64 x2, .int .i64 x3] w R :=
  calls_of_vc (fn := Try.f65) (ac := ac_ref04_base) (args := [.int .i64 x1, .int .i64 x2, .int .i64 x3]) mixed Try.func65 (by kernel_rfl) (cast (by unfold vc_ref04_base FnVc; kernel_rfl) h)
/-- darkroom/darkroomref03.Room -/
def vc_ref03_Room (sa1 : Option Addr) (sl1 sc1 : Nat) (w : World) (R : Ending → World → Prop) : Prop :=
  brB (decide ((↑sl1 : Int) > 4096))
    (R (Ending.returned (Value.tuple #[Value.int IntKind.i64 0, Value.int IntKind.i64 3])) w)
    (∃ I1 : List Value → World → Prop,
    ∃ m1 : List Value → World → Nat,
    (I1 [Value.int IntKind.i64 65536, Value.int IntKind.i64 0] w) ∧
    ∀ n1 : Int,
    ∀ n2 : Int,
    ∀ w1 : World,
    (I1 [Value.int IntKind.i64 n1, Value.int IntKind.i64 n2] w1) →
    brB (decide (n2 < (↑sl1 : Int)))
      (∃ I2 : List Value → World → Prop,
      (idx (sa1) (sl1) (n2) (1) fun a1 =>
        ∃ n3 : Int,
        (w1.cell? a1 = some (Value.int IntKind.i64 n3)) ∧
        brB (decide (n3 < 0))
          (R (Ending.returned (Value.tuple #[Value.int IntKind.i64 0, Value.int IntKind.i64 2])) w1)
          (idx (sa1) (sl1) (n2) (1) fun a2 =>
          ∃ n4 : Int,
          (w1.cell? a2 = some (Value.int IntKind.i64 n4)) ∧
          brB (decide (n4 > 16))
            (R (Ending.returned (Value.tuple #[Value.int IntKind.i64 0, Value.int IntKind.i64 2])) w1)
            (idx (sa1) (sl1) (n2) (1) fun a3 =>
            ∃ n5 : Int,
            (w1.cell? a3 = some (Value.int IntKind.i64 n5)) ∧
            brB (decide (n5 > 0))
              (idx (sa1) (sl1) (n2) (1) fun a4 =>
              ∃ n6 : Int,
              (w1.cell? a4 = some (Value.int IntKind.i64 n6)) ∧
              (0 ≤ IntKind.u64.wrap (IntKind.i64.wrap (16 - n6))) ∧
              I2 [Value.int IntKind.i64 (IntKind.i64.wrap (n1 - shiftZ BinOp.shl IntKind.i64 1 (IntKind.u64.wrap (IntKind.i64.wrap (16 - n6)))))] w1)
              (I2 [Value.int IntKind.i64 n1] w1)))) ∧
      ∀ n7 : Int,
      ∀ w2 : World,
      (I2 [Value.int IntKind.i64 n7] w2) →
      (I1 [Value.int IntKind.i64 n7, Value.int IntKind.i64 (IntKind.i64.wrap (n2 + 1))] w2) ∧
      m1 [Value.int IntKind.i64 n7, Value.int IntKind.i64 (IntKind.i64.wrap (n2 + 1))] w2 < m1 [Value.int IntKind.i64 n1, Value.int IntKind.i64 n2] w1)
      (R (Ending.returned (Value.tuple #[Value.int IntKind.i64 n1, Value.int IntKind.i64 0])) w1))
theorem calls_ref03_Room (sa1 : Option Addr) (sl1 sc1 : Nat) (w : World) (R : Ending → World → Prop) (h : vc_ref03_Room sa1 sl1 sc1 w R) : Calls P F.ref03_Room #[.slice sa1 sl1 sc1] w R :=
  calls_of_vc (fn := Try.f66) (ac := ac_ref03_Room) (args := [.slice sa1 sl1 sc1]) mixed Try.func66 (by kernel_rfl) (cast (by unfold vc_ref03_Room FnVc; kernel_rfl) h)
/-- (*darkroom/prefix.Decoder).above -/
def vc_prefix_Decoder_above (q1 : Option Addr) (x1 : Int) (w : World) (R : Ending → World → Prop) : Prop :=
  nn (q1) fun a1 =>
  ∃ n1 : Int,
  (w.drew.cell? (a1.add 52) = some (Value.int IntKind.i64 n1)) ∧
  nn (q1) fun a2 =>
  (0 ≤ n1) ∧
  (n1 < 17) ∧
  ∃ n2 : Int,
  (w.drew.cell? (a2.add (n1.toNat * 1)) = some (Value.int IntKind.i64 n2)) ∧
  nn (q1) fun a3 =>
  ∃ n3 : Int,
  (w.drew.cell? (a3.add 52) = some (Value.int IntKind.i64 n3)) ∧
  nn (q1) fun a4 =>
  (0 ≤ n3) ∧
  (n3 < 17) ∧
  ∃ n4 : Int,
  (w.drew.cell? ((a4.add 34).add (n3.toNat * 1)) = some (Value.int IntKind.i64 n4)) ∧
  nn (q1) fun a5 =>
  ∃ n5 : Int,
  (w.drew.cell? (a5.add 52) = some (Value.int IntKind.i64 n5)) ∧
  brB (decide (x1 ≥ n5))
    (R (Ending.returned (Value.int IntKind.i64 0)) w.drew)
    (nn (q1) fun a6 =>
    ∃ n6 : Int,
    (w.drew.cell? (a6.add 52) = some (Value.int IntKind.i64 n6)) ∧
    (0 ≤ IntKind.i64.wrap (n6 - x1)) ∧
    R (Ending.returned (Value.int IntKind.i64 (IntKind.i64.wrap (shiftZ BinOp.shr IntKind.i64 (IntKind.i64.wrap (IntKind.i64.wrap (n2 + n4) - 1)) (IntKind.i64.wrap (n6 - x1)) + 1)))) w.drew)
theorem calls_prefix_Decoder_above (q1 : Option Addr) (x1 : Int) (w : World) (R : Ending → World → Prop) (h : vc_prefix_Decoder_above q1 x1 w R) : Calls P F.prefix_Decoder_above #[.pointer q1, .int .i64 x1] w R :=
  calls_of_vc (fn := Try.f67) (ac := ac_prefix_Decoder_above) (args := [.pointer q1, .int .i64 x1]) mixed Try.func67 (by kernel_rfl) (cast (by unfold vc_prefix_Decoder_above FnVc; kernel_rfl) h)
/-- darkroom/darkroomref03.more -/
def vc_ref03_more (vs1 : List Value) (x1 : Int) (x2 : Int) (w : World) (R : Ending → World → Prop) : Prop :=
  ∀ k1 : Nat,
  ∀ w1 : World,
  (New w (Obj.cells vs1.toArray 70) k1 w1) →
  ∃ I1 : List Value → World → Prop,
  ∃ m1 : List Value → World → Nat,
  (I1 [Value.int IntKind.i64 (IntKind.i64.wrap (x2 + 1))] w1) ∧
  ∀ n1 : Int,
  ∀ w2 : World,
  (I1 [Value.int IntKind.i64 n1] w2) →
  brB (decide (n1 ≤ 16))
    (∃ I2 : List Value → World → Prop,
    ((0 ≤ IntKind.u64.wrap (IntKind.i64.wrap (n1 - x2))) ∧
      (0 ≤ IntKind.u64.wrap (IntKind.i64.wrap (n1 - x2))) ∧
      (0 ≤ n1) ∧
      (n1 < 18) ∧
      ∃ p1 : Option Addr,
      ∃ k2 : Nat,
      ∃ k3 : Nat,
      (w2.drew.cell? ({ block := k1, off := 18 : Addr }.add (n1.toNat * 1)) = some (Value.slice p1 k2 k3)) ∧
      brB (decide ((↑k2 : Int) > 0))
        ((0 ≤ n1) ∧
        (n1 < 18) ∧
        ∃ n2 : Int,
        (w2.drew.cell? ({ block := k1, off := 0 : Addr }.add (n1.toNat * 1)) = some (Value.int IntKind.i64 n2)) ∧
        (0 ≤ n1) ∧
        (n1 < 18) ∧
        ∃ p2 : Option Addr,
        ∃ k4 : Nat,
        ∃ k5 : Nat,
        (w2.drew.cell? ({ block := k1, off := 18 : Addr }.add (n1.toNat * 1)) = some (Value.slice p2 k4 k5)) ∧
        brB (decide (shiftZ BinOp.shl IntKind.i64 x1 (IntKind.u64.wrap (IntKind.i64.wrap (n1 - x2))) ≤ IntKind.i64.wrap (IntKind.i64.wrap (n2 + (↑k4 : Int)) - 1)))
          ((0 ≤ n1) ∧
          (n1 < 18) ∧
          ∃ n3 : Int,
          (w2.drew.cell? ({ block := k1, off := 0 : Addr }.add (n1.toNat * 1)) = some (Value.int IntKind.i64 n3)) ∧
          brB (decide (IntKind.i64.wrap (IntKind.i64.wrap (shiftZ BinOp.shl IntKind.i64 x1 (IntKind.u64.wrap (IntKind.i64.wrap (n1 - x2))) + shiftZ BinOp.shl IntKind.i64 1 (IntKind.u64.wrap (IntKind.i64.wrap (n1 - x2)))) - 1) ≥ n3))
            (R (Ending.returned (Value.bool true)) w2.drew)
            (I2 [] w2.drew))
          (I2 [] w2.drew))
        (I2 [] w2.drew)) ∧
    ∀ w3 : World,
    (I2 [] w3) →
    (I1 [Value.int IntKind.i64 (IntKind.i64.wrap (n1 + 1))] w3) ∧
    m1 [Value.int IntKind.i64 (IntKind.i64.wrap (n1 + 1))] w3 < m1 [Value.int IntKind.i64 n1] w2)
    (R (Ending.returned (Value.bool false)) w2)
theorem calls_ref03_more (vs1 : List Value) (x1 : Int) (x2 : Int) (w : World) (R : Ending → World → Prop) (h : vc_ref03_more vs1 x1 x2 w R) : Calls P F.ref03_more #[.agg vs1.toArray, .int .i64 x1, .int .i64 x2] w R :=
  calls_of_vc (fn := Try.f68) (ac := ac_ref03_more) (args := [.agg vs1.toArray, .int .i64 x1, .int .i64 x2]) mixed Try.func68 (by kernel_rfl) (cast (by unfold vc_ref03_more FnVc; kernel_rfl) h)
end Go.Proofs.Ythfnohbpdoklgaa
