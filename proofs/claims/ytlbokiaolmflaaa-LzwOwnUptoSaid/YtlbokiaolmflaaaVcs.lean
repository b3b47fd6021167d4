/- For each function the condition that its code asks, written out (by a program of ours), and the theorem that it suffices: the kernel holds both against the code. -/
import Derived.Test.YtlbokiaolmflaaaFns
namespace Go.Proofs.Ytlbokiaolmflaaa
open Go Go.Vc
set_option maxRecDepth 100000
set_option linter.unusedVariables false
/-- darkroom/darkroomlaw06.LzwGif -/
def vc_law06_LzwGif (sa1 : Option Addr) (sl1 sc1 : Nat) (x1 : Int) (x2 : Int) (w : World) (R : Ending → World → Prop) : Prop :=
  Calls P F.law06_wakes #[] w fun e1 w1 =>
  ∃ c1 : Bool,
  (e1 = Ending.returned (Value.bool c1)) ∧
  brB (!c1)
    (R (Ending.returned (Value.bool false)) w1)
    (Calls P F.law06_own #[Value.slice sa1 sl1 sc1] w1 fun e2 w2 =>
    ∃ p1 : Option Addr,
    ∃ k1 : Nat,
    ∃ k2 : Nat,
    (e2 = Ending.returned (Value.slice p1 k1 k2)) ∧
    Calls P F.lzw_GifUnpack #[Value.slice p1 k1 k2, Value.int IntKind.i64 x1, Value.int IntKind.i64 x2] w2 fun e3 w3 =>
    ∃ p2 : Option Addr,
    ∃ k3 : Nat,
    ∃ k4 : Nat,
    ∃ n1 : Int,
    (e3 = Ending.returned (Value.tuple #[Value.slice p2 k3 k4, Value.int IntKind.i64 n1])) ∧
    Calls P F.ref06_GifUnpack #[Value.slice sa1 sl1 sc1, Value.int IntKind.i64 x1, Value.int IntKind.i64 x2] w3 fun e4 w4 =>
    ∃ p3 : Option Addr,
    ∃ k5 : Nat,
    ∃ k6 : Nat,
    ∃ n2 : Int,
    (e4 = Ending.returned (Value.tuple #[Value.slice p3 k5 k6, Value.int IntKind.i64 n2])) ∧
    Calls P F.ref01_Same #[Value.slice p2 k3 k4, Value.slice p3 k5 k6] w4 fun e5 w5 =>
    ∃ c2 : Bool,
    (e5 = Ending.returned (Value.bool c2)) ∧
    R (Ending.returned (Value.bool (c2 && n1 == n2))) w5)
theorem calls_law06_LzwGif (sa1 : Option Addr) (sl1 sc1 : Nat) (x1 : Int) (x2 : Int) (w : World) (R : Ending → World → Prop) (h : vc_law06_LzwGif sa1 sl1 sc1 x1 x2 w R) : Calls P F.law06_LzwGif #[.slice sa1 sl1 sc1, .int .i64 x1, .int .i64 x2] w R :=
  calls_of_vc (fn := Try.f3) (ac := ac_law06_LzwGif) (args := [.slice sa1 sl1 sc1, .int .i64 x1, .int .i64 x2]) mixed Try.func3 (by kernel_rfl) (cast (by unfold vc_law06_LzwGif FnVc; kernel_rfl) h)
/-- darkroom/darkroomlaw06.LzwRuns -/
def vc_law06_LzwRuns (sa1 : Option Addr) (sl1 sc1 : Nat) (x1 : Int) (w : World) (R : Ending → World → Prop) : Prop :=
  Calls P F.law06_wakes #[] w fun e1 w1 =>
  ∃ c1 : Bool,
  (e1 = Ending.returned (Value.bool c1)) ∧
  brB (!c1)
    (R (Ending.returned (Value.bool false)) w1)
    (Calls P F.law06_own #[Value.slice sa1 sl1 sc1] w1 fun e2 w2 =>
    ∃ p1 : Option Addr,
    ∃ k1 : Nat,
    ∃ k2 : Nat,
    (e2 = Ending.returned (Value.slice p1 k1 k2)) ∧
    Calls P F.lzw_Unpack #[Value.slice p1 k1 k2, Value.int IntKind.i64 x1] w2 fun e3 w3 =>
    ∃ p2 : Option Addr,
    ∃ k3 : Nat,
    ∃ k4 : Nat,
    ∃ n1 : Int,
    (e3 = Ending.returned (Value.tuple #[Value.slice p2 k3 k4, Value.int IntKind.i64 n1])) ∧
    Calls P F.ref06_Unpack #[Value.slice sa1 sl1 sc1, Value.int IntKind.i64 x1] w3 fun e4 w4 =>
    ∃ p3 : Option Addr,
    ∃ k5 : Nat,
    ∃ k6 : Nat,
    ∃ n2 : Int,
    (e4 = Ending.returned (Value.tuple #[Value.slice p3 k5 k6, Value.int IntKind.i64 n2])) ∧
    Calls P F.ref01_Same #[Value.slice p2 k3 k4, Value.slice p3 k5 k6] w4 fun e5 w5 =>
    ∃ c2 : Bool,
    (e5 = Ending.returned (Value.bool c2)) ∧
    R (Ending.returned (Value.bool (c2 && n1 == n2))) w5)
theorem calls_law06_LzwRuns (sa1 : Option Addr) (sl1 sc1 : Nat) (x1 : Int) (w : World) (R : Ending → World → Prop) (h : vc_law06_LzwRuns sa1 sl1 sc1 x1 w R) : Calls P F.law06_LzwRuns #[.slice sa1 sl1 sc1, .int .i64 x1] w R :=
  calls_of_vc (fn := Try.f4) (ac := ac_law06_LzwRuns) (args := [.slice sa1 sl1 sc1, .int .i64 x1]) mixed Try.func4 (by kernel_rfl) (cast (by unfold vc_law06_LzwRuns FnVc; kernel_rfl) h)
/-- darkroom/darkroomlaw06.LzwTiff -/
def vc_law06_LzwTiff (sa1 : Option Addr) (sl1 sc1 : Nat) (x1 : Int) (w : World) (R : Ending → World → Prop) : Prop :=
  Calls P F.law06_wakes #[] w fun e1 w1 =>
  ∃ c1 : Bool,
  (e1 = Ending.returned (Value.bool c1)) ∧
  brB (!c1)
    (R (Ending.returned (Value.bool false)) w1)
    (Calls P F.law06_own #[Value.slice sa1 sl1 sc1] w1 fun e2 w2 =>
    ∃ p1 : Option Addr,
    ∃ k1 : Nat,
    ∃ k2 : Nat,
    (e2 = Ending.returned (Value.slice p1 k1 k2)) ∧
    Calls P F.lzw_TiffUnpack #[Value.slice p1 k1 k2, Value.int IntKind.i64 x1] w2 fun e3 w3 =>
    ∃ p2 : Option Addr,
    ∃ k3 : Nat,
    ∃ k4 : Nat,
    ∃ n1 : Int,
    (e3 = Ending.returned (Value.tuple #[Value.slice p2 k3 k4, Value.int IntKind.i64 n1])) ∧
    Calls P F.ref06_TiffUnpack #[Value.slice sa1 sl1 sc1, Value.int IntKind.i64 x1] w3 fun e4 w4 =>
    ∃ p3 : Option Addr,
    ∃ k5 : Nat,
    ∃ k6 : Nat,
    ∃ n2 : Int,
    (e4 = Ending.returned (Value.tuple #[Value.slice p3 k5 k6, Value.int IntKind.i64 n2])) ∧
    Calls P F.ref01_Same #[Value.slice p2 k3 k4, Value.slice p3 k5 k6] w4 fun e5 w5 =>
    ∃ c2 : Bool,
    (e5 = Ending.returned (Value.bool c2)) ∧
    R (Ending.returned (Value.bool (c2 && n1 == n2))) w5)
theorem calls_law06_LzwTiff (sa1 : Option Addr) (sl1 sc1 : Nat) (x1 : Int) (w : World) (R : Ending → World → Prop) (h : vc_law06_LzwTiff sa1 sl1 sc1 x1 w R) : Calls P F.law06_LzwTiff #[.slice sa1 sl1 sc1, .int .i64 x1] w R :=
  calls_of_vc (fn := Try.f5) (ac := ac_law06_LzwTiff) (args := [.slice sa1 sl1 sc1, .int .i64 x1]) mixed Try.func5 (by kernel_rfl) (cast (by unfold vc_law06_LzwTiff FnVc; kernel_rfl) h)
/-- darkroom/darkroomlaw06.LzwLong -/
def vc_law06_LzwLong (x1 : Int) (x2 : Int) (w : World) (R : Ending → World → Prop) : Prop :=
  Calls P F.law06_wakes #[] w fun e1 w1 =>
  ∃ c1 : Bool,
  (e1 = Ending.returned (Value.bool c1)) ∧
  brB (!c1)
    (R (Ending.returned (Value.bool false)) w1)
    (brB (decide (x2 < 0) || decide (x2 > 12000))
      (R (Ending.returned (Value.bool true)) w1)
      (∃ I1 : List Value → World → Prop,
      ∃ m1 : List Value → World → Nat,
      (I1 [Value.int IntKind.u32 x1, Value.slice none 0 0, Value.int IntKind.i64 0] w1) ∧
      ∀ n1 : Int,
      ∀ p1 : Option Addr,
      ∀ k1 : Nat,
      ∀ k2 : Nat,
      ∀ n2 : Int,
      ∀ w2 : World,
      (I1 [Value.int IntKind.u32 n1, Value.slice p1 k1 k2, Value.int IntKind.i64 n2] w2) →
      brB (decide (n2 < x2))
        (∀ k3 : Nat,
        (w2.heap.size ≤ k3) →
        ∀ w3 : World,
        (Locl ([k3]) w2 w3) →
        appVC (w3) ([(34, k3, [Value.int IntKind.u8 (divZ BinOp.rem IntKind.u8 (IntKind.u8.wrap (shiftZ BinOp.shr IntKind.u32 (IntKind.u32.wrap (IntKind.u32.wrap (n1 * 1664525) + 1013904223)) 24)) 16)])]) (p1) (k1) (k2) (1) (1) (1) (5) ([Value.int IntKind.u8 0]) ([Value.int IntKind.u8 (divZ BinOp.rem IntKind.u8 (IntKind.u8.wrap (shiftZ BinOp.shr IntKind.u32 (IntKind.u32.wrap (IntKind.u32.wrap (n1 * 1664525) + 1013904223)) 24)) 16)]) fun p2 k4 k5 w4 =>
        (I1 [Value.int IntKind.u32 (IntKind.u32.wrap (IntKind.u32.wrap (n1 * 1664525) + 1013904223)), Value.slice p2 k4 k5, Value.int IntKind.i64 (IntKind.i64.wrap (n2 + 1))] w4) ∧
        m1 [Value.int IntKind.u32 (IntKind.u32.wrap (IntKind.u32.wrap (n1 * 1664525) + 1013904223)), Value.slice p2 k4 k5, Value.int IntKind.i64 (IntKind.i64.wrap (n2 + 1))] w4 < m1 [Value.int IntKind.u32 n1, Value.slice p1 k1 k2, Value.int IntKind.i64 n2] w2)
        (Calls P F.law06_own #[Value.slice p1 k1 k2] w2 fun e2 w5 =>
        ∃ p3 : Option Addr,
        ∃ k6 : Nat,
        ∃ k7 : Nat,
        (e2 = Ending.returned (Value.slice p3 k6 k7)) ∧
        Calls P F.lzw_TiffPack #[Value.slice p3 k6 k7] w5 fun e3 w6 =>
        ∃ p4 : Option Addr,
        ∃ k8 : Nat,
        ∃ k9 : Nat,
        (e3 = Ending.returned (Value.slice p4 k8 k9)) ∧
        Calls P F.ref06_TiffUnpack #[Value.slice p4 k8 k9, Value.int IntKind.i64 x2] w6 fun e4 w7 =>
        ∃ p5 : Option Addr,
        ∃ k10 : Nat,
        ∃ k11 : Nat,
        ∃ n3 : Int,
        (e4 = Ending.returned (Value.tuple #[Value.slice p5 k10 k11, Value.int IntKind.i64 n3])) ∧
        Calls P F.law06_own #[Value.slice p1 k1 k2] w7 fun e5 w8 =>
        ∃ p6 : Option Addr,
        ∃ k12 : Nat,
        ∃ k13 : Nat,
        (e5 = Ending.returned (Value.slice p6 k12 k13)) ∧
        Calls P F.lzw_GifPack #[Value.slice p6 k12 k13, Value.int IntKind.i64 4] w8 fun e6 w9 =>
        ∃ p7 : Option Addr,
        ∃ k14 : Nat,
        ∃ k15 : Nat,
        ∃ n4 : Int,
        (e6 = Ending.returned (Value.tuple #[Value.slice p7 k14 k15, Value.int IntKind.i64 n4])) ∧
        Calls P F.ref06_GifUnpack #[Value.slice p7 k14 k15, Value.int IntKind.i64 4, Value.int IntKind.i64 x2] w9 fun e7 w10 =>
        ∃ p8 : Option Addr,
        ∃ k16 : Nat,
        ∃ k17 : Nat,
        ∃ n5 : Int,
        (e7 = Ending.returned (Value.tuple #[Value.slice p8 k16 k17, Value.int IntKind.i64 n5])) ∧
        brB (n3 == 0 && n4 == 0 && n5 == 0)
          (Calls P F.ref01_Same #[Value.slice p5 k10 k11, Value.slice p1 k1 k2] w10 fun e8 w11 =>
          ∃ c2 : Bool,
          (e8 = Ending.returned (Value.bool c2)) ∧
          brB (c2)
            (Calls P F.ref01_Same #[Value.slice p8 k16 k17, Value.slice p1 k1 k2] w11 fun e9 w12 =>
            ∃ c3 : Bool,
            (e9 = Ending.returned (Value.bool c3)) ∧
            R (Ending.returned (Value.bool c3)) w12)
            (R (Ending.returned (Value.bool false)) w11))
          (R (Ending.returned (Value.bool false)) w10))))
theorem calls_law06_LzwLong (x1 : Int) (x2 : Int) (w : World) (R : Ending → World → Prop) (h : vc_law06_LzwLong x1 x2 w R) : Calls P F.law06_LzwLong #[.int .u32 x1, .int .i64 x2] w R :=
  calls_of_vc (fn := Try.f6) (ac := ac_law06_LzwLong) (args := [.int .u32 x1, .int .i64 x2]) mixed Try.func6 (by kernel_rfl) (cast (by unfold vc_law06_LzwLong FnVc; kernel_rfl) h)
/-- darkroom/darkroomlaw06.LzwBack -/
def vc_law06_LzwBack (sa1 : Option Addr) (sl1 sc1 : Nat) (x1 : Int) (w : World) (R : Ending → World → Prop) : Prop :=
  Calls P F.law06_wakes #[] w fun e1 w1 =>
  ∃ c1 : Bool,
  (e1 = Ending.returned (Value.bool c1)) ∧
  brB (!c1)
    (R (Ending.returned (Value.bool false)) w1)
    (Calls P F.law06_own #[Value.slice sa1 sl1 sc1] w1 fun e2 w2 =>
    ∃ p1 : Option Addr,
    ∃ k1 : Nat,
    ∃ k2 : Nat,
    (e2 = Ending.returned (Value.slice p1 k1 k2)) ∧
    Calls P F.lzw_TiffPack #[Value.slice p1 k1 k2] w2 fun e3 w3 =>
    ∃ p2 : Option Addr,
    ∃ k3 : Nat,
    ∃ k4 : Nat,
    (e3 = Ending.returned (Value.slice p2 k3 k4)) ∧
    Calls P F.ref06_TiffUnpack #[Value.slice p2 k3 k4, Value.int IntKind.i64 (↑sl1 : Int)] w3 fun e4 w4 =>
    ∃ p3 : Option Addr,
    ∃ k5 : Nat,
    ∃ k6 : Nat,
    ∃ n1 : Int,
    (e4 = Ending.returned (Value.tuple #[Value.slice p3 k5 k6, Value.int IntKind.i64 n1])) ∧
    Calls P F.law06_own #[Value.slice p2 k3 k4] w4 fun e5 w5 =>
    ∃ p4 : Option Addr,
    ∃ k7 : Nat,
    ∃ k8 : Nat,
    (e5 = Ending.returned (Value.slice p4 k7 k8)) ∧
    Calls P F.lzw_TiffUnpack #[Value.slice p4 k7 k8, Value.int IntKind.i64 (↑sl1 : Int)] w5 fun e6 w6 =>
    ∃ p5 : Option Addr,
    ∃ k9 : Nat,
    ∃ k10 : Nat,
    ∃ n2 : Int,
    (e6 = Ending.returned (Value.tuple #[Value.slice p5 k9 k10, Value.int IntKind.i64 n2])) ∧
    Calls P F.law06_own #[Value.slice p2 k3 k4] w6 fun e7 w7 =>
    ∃ p6 : Option Addr,
    ∃ k11 : Nat,
    ∃ k12 : Nat,
    (e7 = Ending.returned (Value.slice p6 k11 k12)) ∧
    Calls P F.lzw_TiffUnpack #[Value.slice p6 k11 k12, Value.int IntKind.i64 (IntKind.i64.wrap ((↑sl1 : Int) - 1))] w7 fun e8 w8 =>
    ∃ p7 : Option Addr,
    ∃ k13 : Nat,
    ∃ k14 : Nat,
    ∃ n3 : Int,
    (e8 = Ending.returned (Value.tuple #[Value.slice p7 k13 k14, Value.int IntKind.i64 n3])) ∧
    ∃ I1 : List Value → World → Prop,
    (brB (n1 != 0 || n2 != 0)
        (R (Ending.returned (Value.bool false)) w8)
        (Calls P F.ref01_Same #[Value.slice p3 k5 k6, Value.slice sa1 sl1 sc1] w8 fun e9 w9 =>
        ∃ c2 : Bool,
        (e9 = Ending.returned (Value.bool c2)) ∧
        brB (!c2)
          (R (Ending.returned (Value.bool false)) w9)
          (Calls P F.ref01_Same #[Value.slice p5 k9 k10, Value.slice sa1 sl1 sc1] w9 fun e10 w10 =>
          ∃ c3 : Bool,
          (e10 = Ending.returned (Value.bool c3)) ∧
          brB (!c3)
            (R (Ending.returned (Value.bool false)) w10)
            (brB (n3 != 3)
              (brB (decide ((↑sl1 : Int) > 0))
                (R (Ending.returned (Value.bool false)) w10)
                (I1 [] w10))
              (I1 [] w10))))) ∧
    ∀ w11 : World,
    (I1 [] w11) →
    Calls P F.law06_own #[Value.slice sa1 sl1 sc1] w11 fun e11 w12 =>
    ∃ p8 : Option Addr,
    ∃ k15 : Nat,
    ∃ k16 : Nat,
    (e11 = Ending.returned (Value.slice p8 k15 k16)) ∧
    Calls P F.lzw_GifPack #[Value.slice p8 k15 k16, Value.int IntKind.i64 x1] w12 fun e12 w13 =>
    ∃ p9 : Option Addr,
    ∃ k17 : Nat,
    ∃ k18 : Nat,
    ∃ n4 : Int,
    (e12 = Ending.returned (Value.tuple #[Value.slice p9 k17 k18, Value.int IntKind.i64 n4])) ∧
    ∃ I2 : List Value → World → Prop,
    ∃ m1 : List Value → World → Nat,
    (I2 [Value.bool (decide (x1 ≥ 2) && decide (x1 ≤ 8)), Value.int IntKind.i64 0] w13) ∧
    ∀ c4 : Bool,
    ∀ n5 : Int,
    ∀ w14 : World,
    (I2 [Value.bool c4, Value.int IntKind.i64 n5] w14) →
    brB (decide (n5 < (↑sl1 : Int)))
      (∃ I3 : List Value → World → Prop,
      (brB (c4)
          (idx (sa1) (sl1) (n5) (1) fun a1 =>
          ∃ n6 : Int,
          (w14.cell? a1 = some (Value.int IntKind.u8 n6)) ∧
          (0 ≤ IntKind.u64.wrap x1) ∧
          I3 [Value.bool (decide (IntKind.i64.wrap n6 < shiftZ BinOp.shl IntKind.i64 1 (IntKind.u64.wrap x1)))] w14)
          (I3 [Value.bool false] w14)) ∧
      ∀ c5 : Bool,
      ∀ w15 : World,
      (I3 [Value.bool c5] w15) →
      (I2 [Value.bool c5, Value.int IntKind.i64 (IntKind.i64.wrap (n5 + 1))] w15) ∧
      m1 [Value.bool c5, Value.int IntKind.i64 (IntKind.i64.wrap (n5 + 1))] w15 < m1 [Value.bool c4, Value.int IntKind.i64 n5] w14)
      (brB (!c4)
        (R (Ending.returned (Value.bool (n4 == 2 && (↑k17 : Int) == 0))) w14)
        (Calls P F.ref06_GifUnpack #[Value.slice p9 k17 k18, Value.int IntKind.i64 x1, Value.int IntKind.i64 (↑sl1 : Int)] w14 fun e13 w16 =>
        ∃ p10 : Option Addr,
        ∃ k19 : Nat,
        ∃ k20 : Nat,
        ∃ n7 : Int,
        (e13 = Ending.returned (Value.tuple #[Value.slice p10 k19 k20, Value.int IntKind.i64 n7])) ∧
        Calls P F.law06_own #[Value.slice p9 k17 k18] w16 fun e14 w17 =>
        ∃ p11 : Option Addr,
        ∃ k21 : Nat,
        ∃ k22 : Nat,
        (e14 = Ending.returned (Value.slice p11 k21 k22)) ∧
        Calls P F.lzw_GifUnpack #[Value.slice p11 k21 k22, Value.int IntKind.i64 x1, Value.int IntKind.i64 (↑sl1 : Int)] w17 fun e15 w18 =>
        ∃ p12 : Option Addr,
        ∃ k23 : Nat,
        ∃ k24 : Nat,
        ∃ n8 : Int,
        (e15 = Ending.returned (Value.tuple #[Value.slice p12 k23 k24, Value.int IntKind.i64 n8])) ∧
        brB (n4 == 0 && n7 == 0 && n8 == 0)
          (Calls P F.ref01_Same #[Value.slice p10 k19 k20, Value.slice sa1 sl1 sc1] w18 fun e16 w19 =>
          ∃ c6 : Bool,
          (e16 = Ending.returned (Value.bool c6)) ∧
          brB (c6)
            (Calls P F.ref01_Same #[Value.slice p12 k23 k24, Value.slice sa1 sl1 sc1] w19 fun e17 w20 =>
            ∃ c7 : Bool,
            (e17 = Ending.returned (Value.bool c7)) ∧
            R (Ending.returned (Value.bool c7)) w20)
            (R (Ending.returned (Value.bool false)) w19))
          (R (Ending.returned (Value.bool false)) w18))))
theorem calls_law06_LzwBack (sa1 : Option Addr) (sl1 sc1 : Nat) (x1 : Int) (w : World) (R : Ending → World → Prop) (h : vc_law06_LzwBack sa1 sl1 sc1 x1 w R) : Calls P F.law06_LzwBack #[.slice sa1 sl1 sc1, .int .i64 x1] w R :=
  calls_of_vc (fn := Try.f7) (ac := ac_law06_LzwBack) (args := [.slice sa1 sl1 sc1, .int .i64 x1]) mixed Try.func7 (by kernel_rfl) (cast (by unfold vc_law06_LzwBack FnVc; kernel_rfl) h)
/-- darkroom/darkroomlaw06.LzwFew -/
def vc_law06_LzwFew (sa1 : Option Addr) (sl1 sc1 : Nat) (x1 : Int) (x2 : Int) (w : World) (R : Ending → World → Prop) : Prop :=
  Calls P F.law06_wakes #[] w fun e1 w1 =>
  ∃ c1 : Bool,
  (e1 = Ending.returned (Value.bool c1)) ∧
  brB (!c1)
    (R (Ending.returned (Value.bool false)) w1)
    (Calls P F.law06_own #[Value.slice sa1 sl1 sc1] w1 fun e2 w2 =>
    ∃ p1 : Option Addr,
    ∃ k1 : Nat,
    ∃ k2 : Nat,
    (e2 = Ending.returned (Value.slice p1 k1 k2)) ∧
    Calls P F.lzw_Pack #[Value.slice p1 k1 k2] w2 fun e3 w3 =>
    ∃ p2 : Option Addr,
    ∃ k3 : Nat,
    ∃ k4 : Nat,
    (e3 = Ending.returned (Value.slice p2 k3 k4)) ∧
    Calls P F.ref06_Unpack #[Value.slice p2 k3 k4, Value.int IntKind.i64 (↑sl1 : Int)] w3 fun e4 w4 =>
    ∃ p3 : Option Addr,
    ∃ k5 : Nat,
    ∃ k6 : Nat,
    ∃ n1 : Int,
    (e4 = Ending.returned (Value.tuple #[Value.slice p3 k5 k6, Value.int IntKind.i64 n1])) ∧
    brB (n1 != 0)
      (R (Ending.returned (Value.bool false)) w4)
      (Calls P F.ref01_Same #[Value.slice p3 k5 k6, Value.slice sa1 sl1 sc1] w4 fun e5 w5 =>
      ∃ c2 : Bool,
      (e5 = Ending.returned (Value.bool c2)) ∧
      brB (!c2 || decide ((↑k3 : Int) > IntKind.i64.wrap ((↑sl1 : Int) + divZ BinOp.quo IntKind.i64 (IntKind.i64.wrap ((↑sl1 : Int) + 127)) 128)))
        (R (Ending.returned (Value.bool false)) w5)
        (brB (decide (x2 < 0) || decide (x2 > 3000))
          (R (Ending.returned (Value.bool true)) w5)
          (∃ I1 : List Value → World → Prop,
          ∃ m1 : List Value → World → Nat,
          (I1 [Value.slice none 0 0, Value.int IntKind.i64 0] w5) ∧
          ∀ p4 : Option Addr,
          ∀ k7 : Nat,
          ∀ k8 : Nat,
          ∀ n2 : Int,
          ∀ w6 : World,
          (I1 [Value.slice p4 k7 k8, Value.int IntKind.i64 n2] w6) →
          brB (decide (n2 < x2))
            (∀ k9 : Nat,
            (w6.heap.size ≤ k9) →
            ∀ w7 : World,
            (Locl ([k9]) w6 w7) →
            appVC (w7) ([(60, k9, [Value.int IntKind.u8 x1])]) (p4) (k7) (k8) (1) (1) (1) (5) ([Value.int IntKind.u8 0]) ([Value.int IntKind.u8 x1]) fun p5 k10 k11 w8 =>
            (I1 [Value.slice p5 k10 k11, Value.int IntKind.i64 (IntKind.i64.wrap (n2 + 1))] w8) ∧
            m1 [Value.slice p5 k10 k11, Value.int IntKind.i64 (IntKind.i64.wrap (n2 + 1))] w8 < m1 [Value.slice p4 k7 k8, Value.int IntKind.i64 n2] w6)
            (Calls P F.law06_own #[Value.slice p4 k7 k8] w6 fun e6 w9 =>
            ∃ p6 : Option Addr,
            ∃ k12 : Nat,
            ∃ k13 : Nat,
            (e6 = Ending.returned (Value.slice p6 k12 k13)) ∧
            Calls P F.lzw_Pack #[Value.slice p6 k12 k13] w9 fun e7 w10 =>
            ∃ p7 : Option Addr,
            ∃ k14 : Nat,
            ∃ k15 : Nat,
            (e7 = Ending.returned (Value.slice p7 k14 k15)) ∧
            Calls P F.law06_own #[Value.slice p7 k14 k15] w10 fun e8 w11 =>
            ∃ p8 : Option Addr,
            ∃ k16 : Nat,
            ∃ k17 : Nat,
            (e8 = Ending.returned (Value.slice p8 k16 k17)) ∧
            Calls P F.lzw_Unpack #[Value.slice p8 k16 k17, Value.int IntKind.i64 x2] w11 fun e9 w12 =>
            ∃ p9 : Option Addr,
            ∃ k18 : Nat,
            ∃ k19 : Nat,
            ∃ n3 : Int,
            (e9 = Ending.returned (Value.tuple #[Value.slice p9 k18 k19, Value.int IntKind.i64 n3])) ∧
            brB (n3 == 0)
              (Calls P F.ref01_Same #[Value.slice p9 k18 k19, Value.slice p4 k7 k8] w12 fun e10 w13 =>
              ∃ c3 : Bool,
              (e10 = Ending.returned (Value.bool c3)) ∧
              R (Ending.returned (Value.bool (c3 && decide ((↑k14 : Int) ≤ IntKind.i64.wrap (2 * divZ BinOp.quo IntKind.i64 (IntKind.i64.wrap (x2 + 127)) 128))))) w13)
              (R (Ending.returned (Value.bool false)) w12))))))
theorem calls_law06_LzwFew (sa1 : Option Addr) (sl1 sc1 : Nat) (x1 : Int) (x2 : Int) (w : World) (R : Ending → World → Prop) (h : vc_law06_LzwFew sa1 sl1 sc1 x1 x2 w R) : Calls P F.law06_LzwFew #[.slice sa1 sl1 sc1, .int .u8 x1, .int .i64 x2] w R :=
  calls_of_vc (fn := Try.f8) (ac := ac_law06_LzwFew) (args := [.slice sa1 sl1 sc1, .int .u8 x1, .int .i64 x2]) mixed Try.func8 (by kernel_rfl) (cast (by unfold vc_law06_LzwFew FnVc; kernel_rfl) h)
/-- darkroom/darkroomlaw06.LzwOwn -/
def vc_law06_LzwOwn (sa1 : Option Addr) (sl1 sc1 : Nat) (x1 : Int) (w : World) (R : Ending → World → Prop) : Prop :=
  Calls P F.law06_wakes #[] w fun e1 w1 =>
  ∃ c1 : Bool,
  (e1 = Ending.returned (Value.bool c1)) ∧
  brB (!c1)
    (R (Ending.returned (Value.bool false)) w1)
    (Calls P F.law06_own #[Value.slice sa1 sl1 sc1] w1 fun e2 w2 =>
    ∃ p1 : Option Addr,
    ∃ k1 : Nat,
    ∃ k2 : Nat,
    (e2 = Ending.returned (Value.slice p1 k1 k2)) ∧
    ∀ k3 : Nat,
    (w2.heap.size ≤ k3) →
    ∀ w3 : World,
    (Locl ([k3]) w2 w3) →
    appVC (w3) ([(20, k3, [Value.int IntKind.u8 77])]) (p1) (k1) (k2) (1) (1) (1) (5) ([Value.int IntKind.u8 0]) ([Value.int IntKind.u8 77]) fun p2 k4 k5 w4 =>
    slcc (p2) (k5) (0) ((↑sl1 : Int)) (1) fun p3 k6 k7 =>
    Calls P F.lzw_Unpack #[Value.slice p3 k6 k7, Value.int IntKind.i64 x1] w4 fun e3 w5 =>
    ∃ p4 : Option Addr,
    ∃ k8 : Nat,
    ∃ k9 : Nat,
    ∃ n1 : Int,
    (e3 = Ending.returned (Value.tuple #[Value.slice p4 k8 k9, Value.int IntKind.i64 n1])) ∧
    (Keep ([k3]) w4 w5) ∧
    slcc (p2) (k5) (0) ((↑sl1 : Int)) (1) fun p5 k10 k11 =>
    Calls P F.lzw_Unpack #[Value.slice p5 k10 k11, Value.int IntKind.i64 x1] w5 fun e4 w6 =>
    ∃ p6 : Option Addr,
    ∃ k12 : Nat,
    ∃ k13 : Nat,
    ∃ n2 : Int,
    (e4 = Ending.returned (Value.tuple #[Value.slice p6 k12 k13, Value.int IntKind.i64 n2])) ∧
    (Keep ([k3]) w5 w6) ∧
    slcc (p2) (k5) (0) ((↑sl1 : Int)) (1) fun p7 k14 k15 =>
    Calls P F.lzw_Pack #[Value.slice p7 k14 k15] w6 fun e5 w7 =>
    ∃ p8 : Option Addr,
    ∃ k16 : Nat,
    ∃ k17 : Nat,
    (e5 = Ending.returned (Value.slice p8 k16 k17)) ∧
    (Keep ([k3]) w6 w7) ∧
    slcc (p2) (k5) (0) ((↑sl1 : Int)) (1) fun p9 k18 k19 =>
    Calls P F.lzw_TiffPack #[Value.slice p9 k18 k19] w7 fun e6 w8 =>
    ∃ p10 : Option Addr,
    ∃ k20 : Nat,
    ∃ k21 : Nat,
    (e6 = Ending.returned (Value.slice p10 k20 k21)) ∧
    (Keep ([k3]) w7 w8) ∧
    slcc (p2) (k5) (0) ((↑sl1 : Int)) (1) fun p11 k22 k23 =>
    Calls P F.lzw_GifPack #[Value.slice p11 k22 k23, Value.int IntKind.i64 8] w8 fun e7 w9 =>
    ∃ p12 : Option Addr,
    ∃ k24 : Nat,
    ∃ k25 : Nat,
    ∃ n3 : Int,
    (e7 = Ending.returned (Value.tuple #[Value.slice p12 k24 k25, Value.int IntKind.i64 n3])) ∧
    (Keep ([k3]) w8 w9) ∧
    Calls P F.law06_spoil #[Value.slice p4 k8 k9] w9 fun e8 w10 =>
    (e8 = Ending.returned (Value.tuple #[])) ∧
    (Keep ([k3]) w9 w10) ∧
    Calls P F.law06_spoil #[Value.slice p8 k16 k17] w10 fun e9 w11 =>
    (e9 = Ending.returned (Value.tuple #[])) ∧
    (Keep ([k3]) w10 w11) ∧
    Calls P F.law06_spoil #[Value.slice p10 k20 k21] w11 fun e10 w12 =>
    (e10 = Ending.returned (Value.tuple #[])) ∧
    (Keep ([k3]) w11 w12) ∧
    Calls P F.law06_spoil #[Value.slice p12 k24 k25] w12 fun e11 w13 =>
    (e11 = Ending.returned (Value.tuple #[])) ∧
    (Keep ([k3]) w12 w13) ∧
    Calls P F.ref06_Unpack #[Value.slice sa1 sl1 sc1, Value.int IntKind.i64 x1] w13 fun e12 w14 =>
    ∃ p13 : Option Addr,
    ∃ k26 : Nat,
    ∃ k27 : Nat,
    ∃ n4 : Int,
    (e12 = Ending.returned (Value.tuple #[Value.slice p13 k26 k27, Value.int IntKind.i64 n4])) ∧
    (Keep ([k3]) w13 w14) ∧
    idx (p2) (k4) ((↑sl1 : Int)) (1) fun a1 =>
    ∃ n5 : Int,
    (w14.cell? a1 = some (Value.int IntKind.u8 n5)) ∧
    brB (n5 == 77)
      (slcc (p2) (k5) (0) ((↑sl1 : Int)) (1) fun p14 k28 k29 =>
      Calls P F.ref01_Same #[Value.slice p14 k28 k29, Value.slice sa1 sl1 sc1] w14 fun e13 w15 =>
      ∃ c2 : Bool,
      (e13 = Ending.returned (Value.bool c2)) ∧
      (Keep ([k3]) w14 w15) ∧
      brB (c2)
        (Calls P F.ref01_Same #[Value.slice p6 k12 k13, Value.slice p13 k26 k27] w15 fun e14 w16 =>
        ∃ c3 : Bool,
        (e14 = Ending.returned (Value.bool c3)) ∧
        (Keep ([k3]) w15 w16) ∧
        R (Ending.returned (Value.bool c3)) w16)
        (R (Ending.returned (Value.bool false)) w15))
      (R (Ending.returned (Value.bool false)) w14))
theorem calls_law06_LzwOwn (sa1 : Option Addr) (sl1 sc1 : Nat) (x1 : Int) (w : World) (R : Ending → World → Prop) (h : vc_law06_LzwOwn sa1 sl1 sc1 x1 w R) : Calls P F.law06_LzwOwn #[.slice sa1 sl1 sc1, .int .i64 x1] w R :=
  calls_of_vc (fn := Try.f9) (ac := ac_law06_LzwOwn) (args := [.slice sa1 sl1 sc1, .int .i64 x1]) mixed Try.func9 (by kernel_rfl) (cast (by unfold vc_law06_LzwOwn FnVc; kernel_rfl) h)
/-- darkroom/darkroomlaw06.wakes -/
def vc_law06_wakes  (w : World) (R : Ending → World → Prop) : Prop :=
  ∀ k1 : Nat,
  ∀ w1 : World,
  (New w (Obj.cells #[Value.int IntKind.u8 68, Value.int IntKind.u8 1] 5) k1 w1) →
  Calls P F.lzw_GifUnpack #[Value.slice (some { block := k1, off := 0 }) 2 2, Value.int IntKind.i64 2, Value.int IntKind.i64 9] w1 fun e1 w2 =>
  ∃ p1 : Option Addr,
  ∃ k2 : Nat,
  ∃ k3 : Nat,
  ∃ n1 : Int,
  (e1 = Ending.returned (Value.tuple #[Value.slice p1 k2 k3, Value.int IntKind.i64 n1])) ∧
  ∀ k4 : Nat,
  ∀ w3 : World,
  (New w2 (Obj.cells #[Value.int IntKind.u8 2, Value.int IntKind.u8 97, Value.int IntKind.u8 98, Value.int IntKind.u8 99, Value.int IntKind.u8 254, Value.int IntKind.u8 100] 5) k4 w3) →
  Calls P F.lzw_Unpack #[Value.slice (some { block := k4, off := 0 }) 6 6, Value.int IntKind.i64 9] w3 fun e2 w4 =>
  ∃ p2 : Option Addr,
  ∃ k5 : Nat,
  ∃ k6 : Nat,
  ∃ n2 : Int,
  (e2 = Ending.returned (Value.tuple #[Value.slice p2 k5 k6, Value.int IntKind.i64 n2])) ∧
  ∀ k7 : Nat,
  ∀ w5 : World,
  (New w4 (Obj.cells #[Value.int IntKind.u8 97, Value.int IntKind.u8 98, Value.int IntKind.u8 97, Value.int IntKind.u8 98] 5) k7 w5) →
  ∃ y1 : Array Value,
  ∃ y2 : TypeId,
  (w5.heap[k7]? = some (Obj.cells y1 y2)) ∧
  ∀ w6 : World,
  (Mk k7 w5 w6) →
  Calls P F.lzw_TiffPack #[Value.slice (some { block := k7, off := 0 }) 4 4] w6 fun e3 w7 =>
  ∃ p3 : Option Addr,
  ∃ k8 : Nat,
  ∃ k9 : Nat,
  (e3 = Ending.returned (Value.slice p3 k8 k9)) ∧
  Calls P F.ref06_TiffUnpack #[Value.slice p3 k8 k9, Value.int IntKind.i64 4] w7 fun e4 w8 =>
  ∃ p4 : Option Addr,
  ∃ k10 : Nat,
  ∃ k11 : Nat,
  ∃ n3 : Int,
  (e4 = Ending.returned (Value.tuple #[Value.slice p4 k10 k11, Value.int IntKind.i64 n3])) ∧
  brB (n1 == 0 && (↑k2 : Int) == 1)
    (idx (p1) (k2) (0) (1) fun a1 =>
    ∃ n4 : Int,
    (w8.cell? a1 = some (Value.int IntKind.u8 n4)) ∧
    brB (n4 == 0 && n2 == 0)
      (∃ l1 : List Int,
      (l1.length = k5) ∧
      (CellsAre w8 p2 (List.map (Value.int IntKind.u8) l1)) ∧
      brB (decide (bstrOf l1 = { data := #[97, 98, 99, 100, 100, 100] }) && n3 == 0)
        (∃ l2 : List Int,
        (l2.length = k10) ∧
        (CellsAre w8 p4 (List.map (Value.int IntKind.u8) l2)) ∧
        R (Ending.returned (Value.bool (decide (bstrOf l2 = { data := #[97, 98, 97, 98] })))) w8)
        (R (Ending.returned (Value.bool false)) w8))
      (R (Ending.returned (Value.bool false)) w8))
    (R (Ending.returned (Value.bool false)) w8)
theorem calls_law06_wakes  (w : World) (R : Ending → World → Prop) (h : vc_law06_wakes  w R) : Calls P F.law06_wakes #[] w R :=
  calls_of_vc (fn := Try.f10) (ac := ac_law06_wakes) (args := []) mixed Try.func10 (by kernel_rfl) (cast (by unfold vc_law06_wakes FnVc; kernel_rfl) h)
/-- darkroom/lzw.GifUnpack -/
def vc_lzw_GifUnpack (sa1 : Option Addr) (sl1 sc1 : Nat) (x1 : Int) (x2 : Int) (w : World) (R : Ending → World → Prop) : Prop :=
  brB (decide (x1 < 2) || decide (x1 > 8))
    (R (Ending.returned (Value.tuple #[Value.slice none 0 0, Value.int IntKind.i64 2])) w)
    (Calls P F.lzw_gif #[Value.int IntKind.i64 x1] w fun e1 w1 =>
    ∃ n1 : Int,
    ∃ n2 : Int,
    ∃ c1 : Bool,
    ∃ n3 : Int,
    (e1 = Ending.returned (Value.agg #[Value.int IntKind.i64 n1, Value.int IntKind.i64 n2, Value.bool c1, Value.int IntKind.i64 n3])) ∧
    Calls P F.lzw_kind_unpack #[Value.agg #[Value.int IntKind.i64 n1, Value.int IntKind.i64 n2, Value.bool c1, Value.int IntKind.i64 n3], Value.slice sa1 sl1 sc1, Value.int IntKind.i64 (max x2 0)] w1 fun e2 w2 =>
    ∃ p1 : Option Addr,
    ∃ k1 : Nat,
    ∃ k2 : Nat,
    ∃ n4 : Int,
    (e2 = Ending.returned (Value.tuple #[Value.slice p1 k1 k2, Value.int IntKind.i64 n4])) ∧
    R (Ending.returned (Value.tuple #[Value.slice p1 k1 k2, Value.int IntKind.i64 n4])) w2)
theorem calls_lzw_GifUnpack (sa1 : Option Addr) (sl1 sc1 : Nat) (x1 : Int) (x2 : Int) (w : World) (R : Ending → World → Prop) (h : vc_lzw_GifUnpack sa1 sl1 sc1 x1 x2 w R) : Calls P F.lzw_GifUnpack #[.slice sa1 sl1 sc1, .int .i64 x1, .int .i64 x2] w R :=
  calls_of_vc (fn := Try.f11) (ac := ac_lzw_GifUnpack) (args := [.slice sa1 sl1 sc1, .int .i64 x1, .int .i64 x2]) mixed Try.func11 (by kernel_rfl) (cast (by unfold vc_lzw_GifUnpack FnVc; kernel_rfl) h)
/-- darkroom/darkroomlaw06.own -/
def vc_law06_own (sa1 : Option Addr) (sl1 sc1 : Nat) (w : World) (R : Ending → World → Prop) : Prop :=
  ∀ k1 : Nat,
  ∀ w1 : World,
  (New w (Obj.cells #[] 5) k1 w1) →
  ∃ l1 : List Value,
  (l1.length = sl1 * 1) ∧
  (oneAll l1 = true) ∧
  (CellsAre w1 sa1 l1) ∧
  appVC (w1) ([]) (some { block := k1, off := 0 }) (0) (0) (sl1) (1) (1) (5) ([Value.int IntKind.u8 0]) (l1) fun p1 k2 k3 w2 =>
  R (Ending.returned (Value.slice p1 k2 k3)) w2
theorem calls_law06_own (sa1 : Option Addr) (sl1 sc1 : Nat) (w : World) (R : Ending → World → Prop) (h : vc_law06_own sa1 sl1 sc1 w R) : Calls P F.law06_own #[.slice sa1 sl1 sc1] w R :=
  calls_of_vc (fn := Try.f12) (ac := ac_law06_own) (args := [.slice sa1 sl1 sc1]) mixed Try.func12 (by kernel_rfl) (cast (by unfold vc_law06_own FnVc; kernel_rfl) h)
/-- darkroom/darkroomref06.GifUnpack -/
def vc_ref06_GifUnpack (sa1 : Option Addr) (sl1 sc1 : Nat) (x1 : Int) (x2 : Int) (w : World) (R : Ending → World → Prop) : Prop :=
  brB (decide (x1 < 2) || decide (x1 > 8))
    (R (Ending.returned (Value.tuple #[Value.slice none 0 0, Value.int IntKind.i64 2])) w)
    ((0 ≤ IntKind.u64.wrap x1) ∧
    Calls P F.ref06_unpack #[Value.slice sa1 sl1 sc1, Value.int IntKind.i64 (shiftZ BinOp.shl IntKind.i64 1 (IntKind.u64.wrap x1)), Value.int IntKind.i64 (IntKind.i64.wrap (x1 + 1)), Value.bool false, Value.int IntKind.i64 0, Value.int IntKind.i64 x2] w fun e1 w1 =>
    ∃ p1 : Option Addr,
    ∃ k1 : Nat,
    ∃ k2 : Nat,
    ∃ n1 : Int,
    (e1 = Ending.returned (Value.tuple #[Value.slice p1 k1 k2, Value.int IntKind.i64 n1])) ∧
    R (Ending.returned (Value.tuple #[Value.slice p1 k1 k2, Value.int IntKind.i64 n1])) w1)
theorem calls_ref06_GifUnpack (sa1 : Option Addr) (sl1 sc1 : Nat) (x1 : Int) (x2 : Int) (w : World) (R : Ending → World → Prop) (h : vc_ref06_GifUnpack sa1 sl1 sc1 x1 x2 w R) : Calls P F.ref06_GifUnpack #[.slice sa1 sl1 sc1, .int .i64 x1, .int .i64 x2] w R :=
  calls_of_vc (fn := Try.f13) (ac := ac_ref06_GifUnpack) (args := [.slice sa1 sl1 sc1, .int .i64 x1, .int .i64 x2]) mixed Try.func13 (by kernel_rfl) (cast (by unfold vc_ref06_GifUnpack FnVc; kernel_rfl) h)
/-- darkroom/darkroomref01.Same -/
def vc_ref01_Same (sa1 : Option Addr) (sl1 sc1 : Nat) (sa2 : Option Addr) (sl2 sc2 : Nat) (w : World) (R : Ending → World → Prop) : Prop :=
  brB ((↑sl1 : Int) != (↑sl2 : Int))
    (R (Ending.returned (Value.bool false)) w)
    (∃ I1 : List Value → World → Prop,
    ∃ m1 : List Value → World → Nat,
    (I1 [Value.int IntKind.i64 0] w) ∧
    ∀ n1 : Int,
    ∀ w1 : World,
    (I1 [Value.int IntKind.i64 n1] w1) →
    brB (decide (n1 < (↑sl1 : Int)))
      (idx (sa1) (sl1) (n1) (1) fun a1 =>
      ∃ n2 : Int,
      (w1.drew.cell? a1 = some (Value.int IntKind.u8 n2)) ∧
      idx (sa2) (sl2) (n1) (1) fun a2 =>
      ∃ n3 : Int,
      (w1.drew.cell? a2 = some (Value.int IntKind.u8 n3)) ∧
      brB (n2 != n3)
        (R (Ending.returned (Value.bool false)) w1.drew)
        ((I1 [Value.int IntKind.i64 (IntKind.i64.wrap (n1 + 1))] w1.drew) ∧
        m1 [Value.int IntKind.i64 (IntKind.i64.wrap (n1 + 1))] w1.drew < m1 [Value.int IntKind.i64 n1] w1))
      (R (Ending.returned (Value.bool true)) w1))
theorem calls_ref01_Same (sa1 : Option Addr) (sl1 sc1 : Nat) (sa2 : Option Addr) (sl2 sc2 : Nat) (w : World) (R : Ending → World → Prop) (h : vc_ref01_Same sa1 sl1 sc1 sa2 sl2 sc2 w R) : Calls P F.ref01_Same #[.slice sa1 sl1 sc1, .slice sa2 sl2 sc2] w R :=
  calls_of_vc (fn := Try.f14) (ac := ac_ref01_Same) (args := [.slice sa1 sl1 sc1, .slice sa2 sl2 sc2]) mixed Try.func14 (by kernel_rfl) (cast (by unfold vc_ref01_Same FnVc; kernel_rfl) h)
/-- darkroom/lzw.Unpack -/
def vc_lzw_Unpack (sa1 : Option Addr) (sl1 sc1 : Nat) (x1 : Int) (w : World) (R : Ending → World → Prop) : Prop :=
  ∃ I1 : List Value → World → Prop,
  ∃ m1 : List Value → World → Nat,
  (I1 [Value.slice sa1 sl1 sc1, Value.slice none 0 0] w) ∧
  ∀ p1 : Option Addr,
  ∀ k1 : Nat,
  ∀ k2 : Nat,
  ∀ p2 : Option Addr,
  ∀ k3 : Nat,
  ∀ k4 : Nat,
  ∀ w1 : World,
  (I1 [Value.slice p1 k1 k2, Value.slice p2 k3 k4] w1) →
  brB (decide ((↑k1 : Int) > 0))
    (idx (p1) (k1) (0) (1) fun a1 =>
    ∃ n1 : Int,
    (w1.cell? a1 = some (Value.int IntKind.u8 n1)) ∧
    slcc (p1) (k2) (1) ((↑k1 : Int)) (1) fun p3 k5 k6 =>
    ∃ I2 : List Value → World → Prop,
    (brB (decide (IntKind.i64.wrap n1 < 128))
        (brB (decide (IntKind.i64.wrap (IntKind.i64.wrap n1 + 1) > (↑k5 : Int)))
          (R (Ending.returned (Value.tuple #[Value.slice none 0 0, Value.int IntKind.i64 5])) w1)
          (brB (decide (IntKind.i64.wrap (IntKind.i64.wrap n1 + 1) > IntKind.i64.wrap (max x1 0 - (↑k3 : Int))))
            (R (Ending.returned (Value.tuple #[Value.slice none 0 0, Value.int IntKind.i64 3])) w1)
            (slcc (p3) (k6) (0) (IntKind.i64.wrap (IntKind.i64.wrap n1 + 1)) (1) fun p4 k7 k8 =>
            ∃ l1 : List Value,
            (l1.length = k7 * 1) ∧
            (oneAll l1 = true) ∧
            (CellsAre w1 p4 l1) ∧
            appVC (w1) ([]) (p2) (k3) (k4) (k7) (1) (1) (5) ([Value.int IntKind.u8 0]) (l1) fun p5 k9 k10 w2 =>
            slcc (p3) (k6) (IntKind.i64.wrap (IntKind.i64.wrap n1 + 1)) ((↑k5 : Int)) (1) fun p6 k11 k12 =>
            I2 [Value.slice p6 k11 k12, Value.slice p5 k9 k10] w2)))
        (brB (decide (IntKind.i64.wrap n1 > 128))
          (brB ((↑k5 : Int) == 0)
            (R (Ending.returned (Value.tuple #[Value.slice none 0 0, Value.int IntKind.i64 5])) w1)
            (brB (decide (IntKind.i64.wrap (257 - IntKind.i64.wrap n1) > IntKind.i64.wrap (max x1 0 - (↑k3 : Int))))
              (R (Ending.returned (Value.tuple #[Value.slice none 0 0, Value.int IntKind.i64 3])) w1)
              (∃ I3 : List Value → World → Prop,
              ∃ m2 : List Value → World → Nat,
              (I3 [Value.slice p2 k3 k4, Value.int IntKind.i64 0] w1) ∧
              ∀ p7 : Option Addr,
              ∀ k13 : Nat,
              ∀ k14 : Nat,
              ∀ n2 : Int,
              ∀ w3 : World,
              (I3 [Value.slice p7 k13 k14, Value.int IntKind.i64 n2] w3) →
              brB (decide (n2 < IntKind.i64.wrap (257 - IntKind.i64.wrap n1)))
                (idx (p3) (k5) (0) (1) fun a2 =>
                ∃ n3 : Int,
                (w3.cell? a2 = some (Value.int IntKind.u8 n3)) ∧
                ∀ k15 : Nat,
                (w3.heap.size ≤ k15) →
                ∀ w4 : World,
                (Locl ([k15]) w3 w4) →
                appVC (w4) ([(63, k15, [Value.int IntKind.u8 n3])]) (p7) (k13) (k14) (1) (1) (1) (5) ([Value.int IntKind.u8 0]) ([Value.int IntKind.u8 n3]) fun p8 k16 k17 w5 =>
                (I3 [Value.slice p8 k16 k17, Value.int IntKind.i64 (IntKind.i64.wrap (n2 + 1))] w5) ∧
                m2 [Value.slice p8 k16 k17, Value.int IntKind.i64 (IntKind.i64.wrap (n2 + 1))] w5 < m2 [Value.slice p7 k13 k14, Value.int IntKind.i64 n2] w3)
                (slcc (p3) (k6) (1) ((↑k5 : Int)) (1) fun p9 k18 k19 =>
                I2 [Value.slice p9 k18 k19, Value.slice p7 k13 k14] w3))))
          (I2 [Value.slice p3 k5 k6, Value.slice p2 k3 k4] w1))) ∧
    ∀ p10 : Option Addr,
    ∀ k20 : Nat,
    ∀ k21 : Nat,
    ∀ p11 : Option Addr,
    ∀ k22 : Nat,
    ∀ k23 : Nat,
    ∀ w6 : World,
    (I2 [Value.slice p10 k20 k21, Value.slice p11 k22 k23] w6) →
    (I1 [Value.slice p10 k20 k21, Value.slice p11 k22 k23] w6) ∧
    m1 [Value.slice p10 k20 k21, Value.slice p11 k22 k23] w6 < m1 [Value.slice p1 k1 k2, Value.slice p2 k3 k4] w1)
    (R (Ending.returned (Value.tuple #[Value.slice p2 k3 k4, Value.int IntKind.i64 0])) w1)
theorem calls_lzw_Unpack (sa1 : Option Addr) (sl1 sc1 : Nat) (x1 : Int) (w : World) (R : Ending → World → Prop) (h : vc_lzw_Unpack sa1 sl1 sc1 x1 w R) : Calls P F.lzw_Unpack #[.slice sa1 sl1 sc1, .int .i64 x1] w R :=
  calls_of_vc (fn := Try.f15) (ac := ac_lzw_Unpack) (args := [.slice sa1 sl1 sc1, .int .i64 x1]) mixed Try.func15 (by kernel_rfl) (cast (by unfold vc_lzw_Unpack FnVc; kernel_rfl) h)
/-- darkroom/darkroomref06.Unpack -/
def vc_ref06_Unpack (sa1 : Option Addr) (sl1 sc1 : Nat) (x1 : Int) (w : World) (R : Ending → World → Prop) : Prop :=
  ∃ I1 : List Value → World → Prop,
  (brB (decide (x1 < 0))
      (I1 [Value.int IntKind.i64 0] w)
      (I1 [Value.int IntKind.i64 x1] w)) ∧
  ∀ n1 : Int,
  ∀ w1 : World,
  (I1 [Value.int IntKind.i64 n1] w1) →
  ∃ I2 : List Value → World → Prop,
  ∃ m1 : List Value → World → Nat,
  (I2 [Value.slice none 0 0, Value.int IntKind.i64 0] w1) ∧
  ∀ p1 : Option Addr,
  ∀ k1 : Nat,
  ∀ k2 : Nat,
  ∀ n2 : Int,
  ∀ w2 : World,
  (I2 [Value.slice p1 k1 k2, Value.int IntKind.i64 n2] w2) →
  brB (decide (n2 < (↑sl1 : Int)))
    (∃ I3 : List Value → World → Prop,
    (idx (sa1) (sl1) (n2) (1) fun a1 =>
      ∃ n3 : Int,
      (w2.cell? a1 = some (Value.int IntKind.u8 n3)) ∧
      brB (IntKind.i64.wrap n3 == 128)
        (I3 [Value.slice p1 k1 k2, Value.int IntKind.i64 (IntKind.i64.wrap (n2 + 1))] w2)
        (∃ I4 : List Value → World → Prop,
        (brB (decide (IntKind.i64.wrap n3 > 128))
            (I4 [Value.int IntKind.i64 (IntKind.i64.wrap (257 - IntKind.i64.wrap n3)), Value.int IntKind.i64 1] w2)
            (I4 [Value.int IntKind.i64 (IntKind.i64.wrap (IntKind.i64.wrap n3 + 1)), Value.int IntKind.i64 (IntKind.i64.wrap (IntKind.i64.wrap n3 + 1))] w2)) ∧
        ∀ n4 : Int,
        ∀ n5 : Int,
        ∀ w3 : World,
        (I4 [Value.int IntKind.i64 n4, Value.int IntKind.i64 n5] w3) →
        brB (decide (n5 > IntKind.i64.wrap ((↑sl1 : Int) - IntKind.i64.wrap (n2 + 1))))
          (R (Ending.returned (Value.tuple #[Value.slice none 0 0, Value.int IntKind.i64 5])) w3)
          (brB (decide (n4 > IntKind.i64.wrap (n1 - (↑k1 : Int))))
            (R (Ending.returned (Value.tuple #[Value.slice none 0 0, Value.int IntKind.i64 3])) w3)
            (∃ I5 : List Value → World → Prop,
            ∃ m2 : List Value → World → Nat,
            (I5 [Value.slice p1 k1 k2, Value.int IntKind.i64 0] w3) ∧
            ∀ p2 : Option Addr,
            ∀ k3 : Nat,
            ∀ k4 : Nat,
            ∀ n6 : Int,
            ∀ w4 : World,
            (I5 [Value.slice p2 k3 k4, Value.int IntKind.i64 n6] w4) →
            brB (decide (n6 < n4))
              (∃ I6 : List Value → World → Prop,
              (brB (decide (IntKind.i64.wrap n3 > 128))
                  (idx (sa1) (sl1) (IntKind.i64.wrap (n2 + 1)) (1) fun a2 =>
                  ∃ n7 : Int,
                  (w4.cell? a2 = some (Value.int IntKind.u8 n7)) ∧
                  ∀ k5 : Nat,
                  (w4.heap.size ≤ k5) →
                  ∀ w5 : World,
                  (Locl ([k5]) w4 w5) →
                  appVC (w5) ([(59, k5, [Value.int IntKind.u8 n7])]) (p2) (k3) (k4) (1) (1) (1) (5) ([Value.int IntKind.u8 0]) ([Value.int IntKind.u8 n7]) fun p3 k6 k7 w6 =>
                  I6 [Value.slice p3 k6 k7] w6)
                  (idx (sa1) (sl1) (IntKind.i64.wrap (IntKind.i64.wrap (n2 + 1) + n6)) (1) fun a3 =>
                  ∃ n8 : Int,
                  (w4.cell? a3 = some (Value.int IntKind.u8 n8)) ∧
                  ∀ k8 : Nat,
                  (w4.heap.size ≤ k8) →
                  ∀ w7 : World,
                  (Locl ([k8]) w4 w7) →
                  appVC (w7) ([(68, k8, [Value.int IntKind.u8 n8])]) (p2) (k3) (k4) (1) (1) (1) (5) ([Value.int IntKind.u8 0]) ([Value.int IntKind.u8 n8]) fun p4 k9 k10 w8 =>
                  I6 [Value.slice p4 k9 k10] w8)) ∧
              ∀ p5 : Option Addr,
              ∀ k11 : Nat,
              ∀ k12 : Nat,
              ∀ w9 : World,
              (I6 [Value.slice p5 k11 k12] w9) →
              (I5 [Value.slice p5 k11 k12, Value.int IntKind.i64 (IntKind.i64.wrap (n6 + 1))] w9) ∧
              m2 [Value.slice p5 k11 k12, Value.int IntKind.i64 (IntKind.i64.wrap (n6 + 1))] w9 < m2 [Value.slice p2 k3 k4, Value.int IntKind.i64 n6] w4)
              (I3 [Value.slice p2 k3 k4, Value.int IntKind.i64 (IntKind.i64.wrap (IntKind.i64.wrap (n2 + 1) + n5))] w4))))) ∧
    ∀ p6 : Option Addr,
    ∀ k13 : Nat,
    ∀ k14 : Nat,
    ∀ n9 : Int,
    ∀ w10 : World,
    (I3 [Value.slice p6 k13 k14, Value.int IntKind.i64 n9] w10) →
    (I2 [Value.slice p6 k13 k14, Value.int IntKind.i64 n9] w10) ∧
    m1 [Value.slice p6 k13 k14, Value.int IntKind.i64 n9] w10 < m1 [Value.slice p1 k1 k2, Value.int IntKind.i64 n2] w2)
    (R (Ending.returned (Value.tuple #[Value.slice p1 k1 k2, Value.int IntKind.i64 0])) w2)
theorem calls_ref06_Unpack (sa1 : Option Addr) (sl1 sc1 : Nat) (x1 : Int) (w : World) (R : Ending → World → Prop) (h : vc_ref06_Unpack sa1 sl1 sc1 x1 w R) : Calls P F.ref06_Unpack #[.slice sa1 sl1 sc1, .int .i64 x1] w R :=
  calls_of_vc (fn := Try.f16) (ac := ac_ref06_Unpack) (args := [.slice sa1 sl1 sc1, .int .i64 x1]) mixed Try.func16 (by kernel_rfl) (cast (by unfold vc_ref06_Unpack FnVc; kernel_rfl) h)
/-- darkroom/lzw.TiffUnpack -/
def vc_lzw_TiffUnpack (sa1 : Option Addr) (sl1 sc1 : Nat) (x1 : Int) (w : World) (R : Ending → World → Prop) : Prop :=
  Calls P F.lzw_tiff #[] w fun e1 w1 =>
  ∃ n1 : Int,
  ∃ n2 : Int,
  ∃ c1 : Bool,
  ∃ n3 : Int,
  (e1 = Ending.returned (Value.agg #[Value.int IntKind.i64 n1, Value.int IntKind.i64 n2, Value.bool c1, Value.int IntKind.i64 n3])) ∧
  Calls P F.lzw_kind_unpack #[Value.agg #[Value.int IntKind.i64 n1, Value.int IntKind.i64 n2, Value.bool c1, Value.int IntKind.i64 n3], Value.slice sa1 sl1 sc1, Value.int IntKind.i64 (max x1 0)] w1 fun e2 w2 =>
  ∃ p1 : Option Addr,
  ∃ k1 : Nat,
  ∃ k2 : Nat,
  ∃ n4 : Int,
  (e2 = Ending.returned (Value.tuple #[Value.slice p1 k1 k2, Value.int IntKind.i64 n4])) ∧
  R (Ending.returned (Value.tuple #[Value.slice p1 k1 k2, Value.int IntKind.i64 n4])) w2
theorem calls_lzw_TiffUnpack (sa1 : Option Addr) (sl1 sc1 : Nat) (x1 : Int) (w : World) (R : Ending → World → Prop) (h : vc_lzw_TiffUnpack sa1 sl1 sc1 x1 w R) : Calls P F.lzw_TiffUnpack #[.slice sa1 sl1 sc1, .int .i64 x1] w R :=
  calls_of_vc (fn := Try.f17) (ac := ac_lzw_TiffUnpack) (args := [.slice sa1 sl1 sc1, .int .i64 x1]) mixed Try.func17 (by kernel_rfl) (cast (by unfold vc_lzw_TiffUnpack FnVc; kernel_rfl) h)
/-- darkroom/darkroomref06.TiffUnpack -/
def vc_ref06_TiffUnpack (sa1 : Option Addr) (sl1 sc1 : Nat) (x1 : Int) (w : World) (R : Ending → World → Prop) : Prop :=
  Calls P F.ref06_unpack #[Value.slice sa1 sl1 sc1, Value.int IntKind.i64 256, Value.int IntKind.i64 9, Value.bool true, Value.int IntKind.i64 1, Value.int IntKind.i64 x1] w fun e1 w1 =>
  ∃ p1 : Option Addr,
  ∃ k1 : Nat,
  ∃ k2 : Nat,
  ∃ n1 : Int,
  (e1 = Ending.returned (Value.tuple #[Value.slice p1 k1 k2, Value.int IntKind.i64 n1])) ∧
  R (Ending.returned (Value.tuple #[Value.slice p1 k1 k2, Value.int IntKind.i64 n1])) w1
theorem calls_ref06_TiffUnpack (sa1 : Option Addr) (sl1 sc1 : Nat) (x1 : Int) (w : World) (R : Ending → World → Prop) (h : vc_ref06_TiffUnpack sa1 sl1 sc1 x1 w R) : Calls P F.ref06_TiffUnpack #[.slice sa1 sl1 sc1, .int .i64 x1] w R :=
  calls_of_vc (fn := Try.f18) (ac := ac_ref06_TiffUnpack) (args := [.slice sa1 sl1 sc1, .int .i64 x1]) mixed Try.func18 (by kernel_rfl) (cast (by unfold vc_ref06_TiffUnpack FnVc; kernel_rfl) h)
/-- darkroom/lzw.TiffPack -/
def vc_lzw_TiffPack (sa1 : Option Addr) (sl1 sc1 : Nat) (w : World) (R : Ending → World → Prop) : Prop :=
  Calls P F.lzw_tiff #[] w fun e1 w1 =>
  ∃ n1 : Int,
  ∃ n2 : Int,
  ∃ c1 : Bool,
  ∃ n3 : Int,
  (e1 = Ending.returned (Value.agg #[Value.int IntKind.i64 n1, Value.int IntKind.i64 n2, Value.bool c1, Value.int IntKind.i64 n3])) ∧
  Calls P F.lzw_kind_pack #[Value.agg #[Value.int IntKind.i64 n1, Value.int IntKind.i64 n2, Value.bool c1, Value.int IntKind.i64 n3], Value.slice sa1 sl1 sc1] w1 fun e2 w2 =>
  ∃ p1 : Option Addr,
  ∃ k1 : Nat,
  ∃ k2 : Nat,
  (e2 = Ending.returned (Value.slice p1 k1 k2)) ∧
  R (Ending.returned (Value.slice p1 k1 k2)) w2
theorem calls_lzw_TiffPack (sa1 : Option Addr) (sl1 sc1 : Nat) (w : World) (R : Ending → World → Prop) (h : vc_lzw_TiffPack sa1 sl1 sc1 w R) : Calls P F.lzw_TiffPack #[.slice sa1 sl1 sc1] w R :=
  calls_of_vc (fn := Try.f19) (ac := ac_lzw_TiffPack) (args := [.slice sa1 sl1 sc1]) mixed Try.func19 (by kernel_rfl) (cast (by unfold vc_lzw_TiffPack FnVc; kernel_rfl) h)
/-- darkroom/lzw.GifPack -/
def vc_lzw_GifPack (sa1 : Option Addr) (sl1 sc1 : Nat) (x1 : Int) (w : World) (R : Ending → World → Prop) : Prop :=
  brB (decide (x1 < 2) || decide (x1 > 8))
    (R (Ending.returned (Value.tuple #[Value.slice none 0 0, Value.int IntKind.i64 2])) w)
    (∃ I1 : List Value → World → Prop,
    ∃ m1 : List Value → World → Nat,
    (I1 [Value.int IntKind.i64 0] w) ∧
    ∀ n1 : Int,
    ∀ w1 : World,
    (I1 [Value.int IntKind.i64 n1] w1) →
    brB (decide (n1 < (↑sl1 : Int)))
      (idx (sa1) (sl1) (n1) (1) fun a1 =>
      ∃ n2 : Int,
      (w1.cell? a1 = some (Value.int IntKind.u8 n2)) ∧
      (0 ≤ x1) ∧
      brB (decide (IntKind.i64.wrap n2 ≥ shiftZ BinOp.shl IntKind.i64 1 x1))
        (R (Ending.returned (Value.tuple #[Value.slice none 0 0, Value.int IntKind.i64 2])) w1)
        ((I1 [Value.int IntKind.i64 (IntKind.i64.wrap (n1 + 1))] w1) ∧
        m1 [Value.int IntKind.i64 (IntKind.i64.wrap (n1 + 1))] w1 < m1 [Value.int IntKind.i64 n1] w1))
      (Calls P F.lzw_gif #[Value.int IntKind.i64 x1] w1 fun e1 w2 =>
      ∃ n3 : Int,
      ∃ n4 : Int,
      ∃ c1 : Bool,
      ∃ n5 : Int,
      (e1 = Ending.returned (Value.agg #[Value.int IntKind.i64 n3, Value.int IntKind.i64 n4, Value.bool c1, Value.int IntKind.i64 n5])) ∧
      Calls P F.lzw_kind_pack #[Value.agg #[Value.int IntKind.i64 n3, Value.int IntKind.i64 n4, Value.bool c1, Value.int IntKind.i64 n5], Value.slice sa1 sl1 sc1] w2 fun e2 w3 =>
      ∃ p1 : Option Addr,
      ∃ k1 : Nat,
      ∃ k2 : Nat,
      (e2 = Ending.returned (Value.slice p1 k1 k2)) ∧
      R (Ending.returned (Value.tuple #[Value.slice p1 k1 k2, Value.int IntKind.i64 0])) w3))
theorem calls_lzw_GifPack (sa1 : Option Addr) (sl1 sc1 : Nat) (x1 : Int) (w : World) (R : Ending → World → Prop) (h : vc_lzw_GifPack sa1 sl1 sc1 x1 w R) : Calls P F.lzw_GifPack #[.slice sa1 sl1 sc1, .int .i64 x1] w R :=
  calls_of_vc (fn := Try.f20) (ac := ac_lzw_GifPack) (args := [.slice sa1 sl1 sc1, .int .i64 x1]) mixed Try.func20 (by kernel_rfl) (cast (by unfold vc_lzw_GifPack FnVc; kernel_rfl) h)
/-- darkroom/lzw.Pack -/
def vc_lzw_Pack (sa1 : Option Addr) (sl1 sc1 : Nat) (w : World) (R : Ending → World → Prop) : Prop :=
  ∀ k1 : Nat,
  ∀ w1 : World,
  (New w (Obj.cells #[Value.slice none 0 0] 22) k1 w1) →
  ∀ k2 : Nat,
  ∀ w2 : World,
  (New w1 (Obj.cells #[Value.slice none 0 0] 22) k2 w2) →
  ∀ k3 : Nat,
  (w2.heap.size ≤ k3) →
  ∀ w3 : World,
  (Locl ([k3]) w2 w3) →
  Calls P F.lzw_runs_byte #[Value.slice sa1 sl1 sc1] w3 fun e1 w4 =>
  ∃ y1 : FuncId,
  ∃ y2 : Array Value,
  ∃ y3 : Array Value,
  (e1 = Ending.returned (Value.func (Fn.func y1) y2 y3)) ∧
  (Keep ([k3]) w3 w4) ∧
  ∀ k4 : Nat,
  ∀ w5 : World,
  (Rf w4 w5 k4) →
  ∀ I1 : List Value → World → Prop,
  ∀ Z1 : Exit → List Value → World → Prop,
  (∀ l1 : List Value,
  ∀ w6 : World,
  ∀ w7 : World,
  (I1 l1 w6) →
  (Keep ([k4, w4.heap.size, k3]) w6 w7) →
  I1 l1 w7) →
  (∀ y4 : Exit,
  ∀ l2 : List Value,
  ∀ w8 : World,
  ∀ w9 : World,
  (Z1 y4 l2 w8) →
  (Keep ([k4, w4.heap.size, k3]) w8 w9) →
  Z1 y4 l2 w9) →
  (I1 [] w5) →
  (∀ n1 : Int,
  ∀ n2 : Int,
  ∀ w10 : World,
  ∀ I2 : Ending → World → Prop,
  (I1 [] w10) →
  (∀ y5 : Obj,
  ∀ y6 : Obj,
  ∀ w11 : World,
  (Put k4 w10 w11) →
  ∃ I3 : List Value → World → Prop,
  (∃ I4 : List Value → World → Prop,
    (brB (decide (n2 < 3))
        (brB (n2 == 2)
          (∃ p1 : Option Addr,
          ∃ k5 : Nat,
          ∃ k6 : Nat,
          (w11.cell? { block := k2, off := 0 } = some (Value.slice p1 k5 k6)) ∧
          brB (!(↑k5 : Int) == 0)
            (∃ I5 : List Value → World → Prop,
            ∃ m1 : List Value → World → Nat,
            (I5 [Value.int IntKind.i64 0] w11) ∧
            ∀ n3 : Int,
            ∀ w12 : World,
            (I5 [Value.int IntKind.i64 n3] w12) →
            brB (decide (n3 < n2))
              (∃ p2 : Option Addr,
              ∃ k7 : Nat,
              ∃ k8 : Nat,
              (w12.cell? { block := k2, off := 0 } = some (Value.slice p2 k7 k8)) ∧
              ∀ k9 : Nat,
              (w12.heap.size ≤ k9) →
              ∀ w13 : World,
              (Locl ([k9, k3]) w12 w13) →
              appVC (w13) ([(30, k9, [Value.int IntKind.u8 n1]), (5, k3, [Value.func (Fn.func 28) #[] #[Value.pointer (some { block := k2, off := 0 }), Value.pointer (some { block := k1, off := 0 })]])]) (p2) (k7) (k8) (1) (1) (1) (5) ([Value.int IntKind.u8 0]) ([Value.int IntKind.u8 n1]) fun p3 k10 k11 w14 =>
              (∃ v1 : Value,
                w14.cell? { block := k2, off := 0 } = some v1) ∧
              (w14.frozen? { block := k2, off := 0 } = false) ∧
              (¬k2 ∈ [k9, k3]) ∧
              (I5 [Value.int IntKind.i64 (IntKind.i64.wrap (n3 + 1))] (setCells w14 { block := k2, off := 0 } [Value.slice p3 k10 k11] 0)) ∧
              m1 [Value.int IntKind.i64 (IntKind.i64.wrap (n3 + 1))] (setCells w14 { block := k2, off := 0 } [Value.slice p3 k10 k11] 0) < m1 [Value.int IntKind.i64 n3] w12)
              (I3 [] w12))
            (I4 [] w11))
          (∃ I6 : List Value → World → Prop,
          ∃ m2 : List Value → World → Nat,
          (I6 [Value.int IntKind.i64 0] w11) ∧
          ∀ n4 : Int,
          ∀ w15 : World,
          (I6 [Value.int IntKind.i64 n4] w15) →
          brB (decide (n4 < n2))
            (∃ p4 : Option Addr,
            ∃ k12 : Nat,
            ∃ k13 : Nat,
            (w15.cell? { block := k2, off := 0 } = some (Value.slice p4 k12 k13)) ∧
            ∀ k14 : Nat,
            (w15.heap.size ≤ k14) →
            ∀ w16 : World,
            (Locl ([k14, k3]) w15 w16) →
            appVC (w16) ([(30, k14, [Value.int IntKind.u8 n1]), (5, k3, [Value.func (Fn.func 28) #[] #[Value.pointer (some { block := k2, off := 0 }), Value.pointer (some { block := k1, off := 0 })]])]) (p4) (k12) (k13) (1) (1) (1) (5) ([Value.int IntKind.u8 0]) ([Value.int IntKind.u8 n1]) fun p5 k15 k16 w17 =>
            (∃ v2 : Value,
              w17.cell? { block := k2, off := 0 } = some v2) ∧
            (w17.frozen? { block := k2, off := 0 } = false) ∧
            (¬k2 ∈ [k14, k3]) ∧
            (I6 [Value.int IntKind.i64 (IntKind.i64.wrap (n4 + 1))] (setCells w17 { block := k2, off := 0 } [Value.slice p5 k15 k16] 0)) ∧
            m2 [Value.int IntKind.i64 (IntKind.i64.wrap (n4 + 1))] (setCells w17 { block := k2, off := 0 } [Value.slice p5 k15 k16] 0) < m2 [Value.int IntKind.i64 n4] w15)
            (I3 [] w15)))
        (I4 [] w11)) ∧
    ∀ w18 : World,
    (I4 [] w18) →
    Calls P F.lzw_Pack_fn1 #[Value.pointer (some { block := k2, off := 0 }), Value.pointer (some { block := k1, off := 0 })] w18 fun e2 w19 =>
    (e2 = Ending.returned (Value.tuple #[])) ∧
    (Keep ([k4, w4.heap.size, k3]) w18 w19) ∧
    ∃ p6 : Option Addr,
    ∃ k17 : Nat,
    ∃ k18 : Nat,
    (w19.cell? { block := k1, off := 0 } = some (Value.slice p6 k17 k18)) ∧
    ∀ k19 : Nat,
    (w19.heap.size ≤ k19) →
    ∀ w20 : World,
    (Locl ([k19, k3]) w19 w20) →
    appVC (w20) ([(40, k19, [Value.int IntKind.u8 (IntKind.u8.wrap (IntKind.i64.wrap (257 - n2))), Value.int IntKind.u8 n1]), (5, k3, [Value.func (Fn.func 28) #[] #[Value.pointer (some { block := k2, off := 0 }), Value.pointer (some { block := k1, off := 0 })]])]) (p6) (k17) (k18) (2) (1) (1) (5) ([Value.int IntKind.u8 0]) ([Value.int IntKind.u8 (IntKind.u8.wrap (IntKind.i64.wrap (257 - n2))), Value.int IntKind.u8 n1]) fun p7 k20 k21 w21 =>
    (∃ v3 : Value,
      w21.cell? { block := k1, off := 0 } = some v3) ∧
    (w21.frozen? { block := k1, off := 0 } = false) ∧
    (¬k1 ∈ [k19, k3]) ∧
    I3 [] (setCells w21 { block := k1, off := 0 } [Value.slice p7 k20 k21] 0)) ∧
  ∀ w22 : World,
  (I3 [] w22) →
  ∀ w23 : World,
  (Put k4 w22 w23) →
  (I1 [] w23) →
  I2 (Ending.returned (Value.bool true)) w23) →
  YieldAt Fence.wide 0 P (k4) #[Value.int IntKind.u8 n1, Value.int IntKind.i64 n2] (w10) I2) →
  callF P (Value.func (Fn.func y1) y2 y3) [Value.func (Fn.yield k4) #[] #[]] w5 fun e3 w24 =>
  ∃ v4 : Value,
  (e3 = Ending.returned v4) ∧
  (((I1 [] w24) ∧
    ∀ w25 : World,
    (Put k4 w24 w25) →
    Calls P F.lzw_Pack_fn1 #[Value.pointer (some { block := k2, off := 0 }), Value.pointer (some { block := k1, off := 0 })] w25 fun e4 w26 =>
    (e4 = Ending.returned (Value.tuple #[])) ∧
    (Keep ([w4.heap.size, k3]) w25 w26) ∧
    ∃ p8 : Option Addr,
    ∃ k22 : Nat,
    ∃ k23 : Nat,
    (w26.cell? { block := k1, off := 0 } = some (Value.slice p8 k22 k23)) ∧
    ∀ w27 : World,
    (Put (w4.heap.size) w26 w27) →
    R (Ending.returned (Value.slice p8 k22 k23)) w27) ∨
  (False))
theorem calls_lzw_Pack (sa1 : Option Addr) (sl1 sc1 : Nat) (w : World) (R : Ending → World → Prop) (h : vc_lzw_Pack sa1 sl1 sc1 w R) : Calls P F.lzw_Pack #[.slice sa1 sl1 sc1] w R :=
  calls_of_vc (fn := Try.f21) (ac := ac_lzw_Pack) (args := [.slice sa1 sl1 sc1]) mixed Try.func21 (by kernel_rfl) (cast (by unfold vc_lzw_Pack FnVc; kernel_rfl) h)
/-- darkroom/darkroomlaw06.spoil -/
def vc_law06_spoil (sa1 : Option Addr) (sl1 sc1 : Nat) (w : World) (R : Ending → World → Prop) : Prop :=
  ∃ I1 : List Value → World → Prop,
  ∃ m1 : List Value → World → Nat,
  (I1 [Value.int IntKind.i64 0] w) ∧
  ∀ n1 : Int,
  ∀ w1 : World,
  (I1 [Value.int IntKind.i64 n1] w1) →
  brB (decide (n1 < (↑sl1 : Int)))
    (idx (sa1) (sl1) (n1) (1) fun a1 =>
    ∃ n2 : Int,
    (w1.cell? a1 = some (Value.int IntKind.u8 n2)) ∧
    idx (sa1) (sl1) (n1) (1) fun a2 =>
    (∃ v1 : Value,
      w1.cell? a2 = some v1) ∧
    (w1.frozen? a2 = false) ∧
    (I1 [Value.int IntKind.i64 (IntKind.i64.wrap (n1 + 1))] (setCells w1 a2 [Value.int IntKind.u8 (IntKind.u8.wrap (n2 + 1))] 0)) ∧
    m1 [Value.int IntKind.i64 (IntKind.i64.wrap (n1 + 1))] (setCells w1 a2 [Value.int IntKind.u8 (IntKind.u8.wrap (n2 + 1))] 0) < m1 [Value.int IntKind.i64 n1] w1)
    (∃ I2 : List Value → World → Prop,
    ∃ m2 : List Value → World → Nat,
    (I2 [Value.slice sa1 sl1 sc1, Value.int IntKind.i64 0] w1) ∧
    ∀ p1 : Option Addr,
    ∀ k1 : Nat,
    ∀ k2 : Nat,
    ∀ n3 : Int,
    ∀ w2 : World,
    (I2 [Value.slice p1 k1 k2, Value.int IntKind.i64 n3] w2) →
    brB (decide (n3 < 20))
      (∀ k3 : Nat,
      (w2.heap.size ≤ k3) →
      ∀ w3 : World,
      (Locl ([k3]) w2 w3) →
      appVC (w3) ([(23, k3, [Value.int IntKind.u8 5])]) (p1) (k1) (k2) (1) (1) (1) (5) ([Value.int IntKind.u8 0]) ([Value.int IntKind.u8 5]) fun p2 k4 k5 w4 =>
      (I2 [Value.slice p2 k4 k5, Value.int IntKind.i64 (IntKind.i64.wrap (n3 + 1))] w4) ∧
      m2 [Value.slice p2 k4 k5, Value.int IntKind.i64 (IntKind.i64.wrap (n3 + 1))] w4 < m2 [Value.slice p1 k1 k2, Value.int IntKind.i64 n3] w2)
      (R (Ending.returned (Value.tuple #[])) w2))
theorem calls_law06_spoil (sa1 : Option Addr) (sl1 sc1 : Nat) (w : World) (R : Ending → World → Prop) (h : vc_law06_spoil sa1 sl1 sc1 w R) : Calls P F.law06_spoil #[.slice sa1 sl1 sc1] w R :=
  calls_of_vc (fn := Try.f22) (ac := ac_law06_spoil) (args := [.slice sa1 sl1 sc1]) mixed Try.func22 (by kernel_rfl) (cast (by unfold vc_law06_spoil FnVc; kernel_rfl) h)
/-- darkroom/lzw.gif -/
def vc_lzw_gif (x1 : Int) (w : World) (R : Ending → World → Prop) : Prop :=
  ∀ k1 : Nat,
  (w.heap.size ≤ k1) →
  (0 ≤ x1) ∧
  ∀ w1 : World,
  (Locl ([k1]) w w1) →
  R (Ending.returned (Value.agg #[Value.int IntKind.i64 (shiftZ BinOp.shl IntKind.i64 1 x1), Value.int IntKind.i64 (IntKind.i64.wrap (x1 + 1)), Value.bool false, Value.int IntKind.i64 0])) w1
theorem calls_lzw_gif (x1 : Int) (w : World) (R : Ending → World → Prop) (h : vc_lzw_gif x1 w R) : Calls P F.lzw_gif #[.int .i64 x1] w R :=
  calls_of_vc (fn := Try.f23) (ac := ac_lzw_gif) (args := [.int .i64 x1]) mixed Try.func23 (by kernel_rfl) (cast (by unfold vc_lzw_gif FnVc; kernel_rfl) h)
/-- (darkroom/lzw.kind).unpack -/
def vc_lzw_kind_unpack (x1 : Int) (x2 : Int) (b1 : Bool) (x3 : Int) (sa1 : Option Addr) (sl1 sc1 : Nat) (x4 : Int) (w : World) (R : Ending → World → Prop) : Prop :=
  ∀ k1 : Nat,
  (w.heap.size ≤ k1) →
  ∀ w1 : World,
  (Locl ([k1]) w w1) →
  Calls P F.bits_NewReader #[Value.slice sa1 sl1 sc1, Value.bool b1] w1 fun e1 w2 =>
  ∃ p1 : Option Addr,
  (e1 = Ending.returned (Value.pointer p1)) ∧
  (Keep ([k1]) w1 w2) ∧
  Calls P F.lzw_kind_entries #[Value.agg #[Value.int IntKind.i64 x1, Value.int IntKind.i64 x2, Value.bool b1, Value.int IntKind.i64 x3]] (w2.drew) fun e2 w3 =>
  ∃ p2 : Option Addr,
  ∃ k2 : Nat,
  ∃ k3 : Nat,
  (e2 = Ending.returned (Value.slice p2 k2 k3)) ∧
  (Keep ([k1]) (w2.drew) w3) ∧
  (Keeps (w2.drew) w3) ∧
  ∃ I1 : List Value → World → Prop,
  ∃ m1 : List Value → World → Nat,
  (I1 [Value.slice p2 k2 k3, Value.int IntKind.i64 x2, Value.int IntKind.i64 (-1), Value.slice none 0 0] w3) ∧
  ∀ p3 : Option Addr,
  ∀ k4 : Nat,
  ∀ k5 : Nat,
  ∀ n1 : Int,
  ∀ n2 : Int,
  ∀ p4 : Option Addr,
  ∀ k6 : Nat,
  ∀ k7 : Nat,
  ∀ w4 : World,
  (I1 [Value.slice p3 k4 k5, Value.int IntKind.i64 n1, Value.int IntKind.i64 n2, Value.slice p4 k6 k7] w4) →
  ∃ I2 : List Value → World → Prop,
  (Calls P F.bits_Reader_Take #[Value.pointer p1, Value.int IntKind.i64 n1] w4 fun e3 w5 =>
    ∃ n3 : Int,
    ∃ n4 : Int,
    (e3 = Ending.returned (Value.tuple #[Value.int IntKind.u32 n3, Value.int IntKind.i64 n4])) ∧
    (Keep ([k1]) w4 w5) ∧
    brB (n4 != 0)
      (R (Ending.returned (Value.tuple #[Value.slice none 0 0, Value.int IntKind.i64 5])) w5)
      (∃ I3 : List Value → World → Prop,
      (brB (IntKind.i64.wrap n3 == x1)
          (slcc (p3) (k5) (0) (IntKind.i64.wrap (x1 + 2)) (4) fun p5 k8 k9 =>
          I2 [Value.slice p5 k8 k9, Value.int IntKind.i64 x2, Value.int IntKind.i64 (-1), Value.slice p4 k6 k7] w5.drew)
          (brB (IntKind.i64.wrap n3 == IntKind.i64.wrap (x1 + 1))
            (R (Ending.returned (Value.tuple #[Value.slice p4 k6 k7, Value.int IntKind.i64 0])) w5)
            (brB (decide (n2 < 0) && decide (IntKind.i64.wrap n3 > x1))
              (brB (decide (n2 < 0) && decide (IntKind.i64.wrap n3 > x1))
                (R (Ending.returned (Value.tuple #[Value.slice none 0 0, Value.int IntKind.i64 32])) w5)
                (I3 [Value.slice p3 k4 k5, Value.int IntKind.i64 n1, Value.int IntKind.i64 n2] w5))
              (brB (decide (IntKind.i64.wrap n3 > (↑k4 : Int)))
                (brB (decide (IntKind.i64.wrap n3 > (↑k4 : Int)))
                  (R (Ending.returned (Value.tuple #[Value.slice none 0 0, Value.int IntKind.i64 32])) w5)
                  (I3 [Value.slice p3 k4 k5, Value.int IntKind.i64 n1, Value.int IntKind.i64 n2] w5))
                (brB (IntKind.i64.wrap n3 == (↑k4 : Int) && (↑k4 : Int) == 4096)
                  (R (Ending.returned (Value.tuple #[Value.slice none 0 0, Value.int IntKind.i64 32])) w5)
                  (I3 [Value.slice p3 k4 k5, Value.int IntKind.i64 n1, Value.int IntKind.i64 n2] w5)))))) ∧
      ∀ p6 : Option Addr,
      ∀ k10 : Nat,
      ∀ k11 : Nat,
      ∀ n5 : Int,
      ∀ n6 : Int,
      ∀ w6 : World,
      (I3 [Value.slice p6 k10 k11, Value.int IntKind.i64 n5, Value.int IntKind.i64 n6] w6) →
      ∃ I4 : List Value → World → Prop,
      (brB (decide (n6 ≥ 0) && decide ((↑k10 : Int) < 4096))
          (idx (p6) (k10) (n6) (4) fun a1 =>
          ∃ n7 : Int,
          (w6.cell? (a1.add 2) = some (Value.int IntKind.u8 n7)) ∧
          ∃ I5 : List Value → World → Prop,
          (brB (decide (IntKind.i64.wrap n3 < (↑k10 : Int)))
              (idx (p6) (k10) (IntKind.i64.wrap n3) (4) fun a2 =>
              ∃ n8 : Int,
              (w6.cell? (a2.add 2) = some (Value.int IntKind.u8 n8)) ∧
              I5 [Value.int IntKind.u8 n8] w6)
              (I5 [Value.int IntKind.u8 n7] w6)) ∧
          ∀ n9 : Int,
          ∀ w7 : World,
          (I5 [Value.int IntKind.u8 n9] w7) →
          idx (p6) (k10) (n6) (4) fun a3 =>
          ∃ n10 : Int,
          (w7.drew.cell? (a3.add 2) = some (Value.int IntKind.u8 n10)) ∧
          idx (p6) (k10) (n6) (4) fun a4 =>
          ∃ n11 : Int,
          (w7.drew.cell? (a4.add 3) = some (Value.int IntKind.i64 n11)) ∧
          ∀ k12 : Nat,
          (w7.drew.heap.size ≤ k12) →
          ∀ w8 : World,
          (Locl ([k12, k1]) (w7.drew) w8) →
          appVC (w8) ([(114, k12, [Value.int IntKind.i64 n6, Value.int IntKind.u8 n9, Value.int IntKind.u8 n10, Value.int IntKind.i64 (IntKind.i64.wrap (n11 + 1))]), (3, k1, [Value.int IntKind.i64 x1, Value.int IntKind.i64 x2, Value.bool b1, Value.int IntKind.i64 x3])]) (p6) (k10) (k11) (1) (4) (24) (55) ([Value.int IntKind.i64 0, Value.int IntKind.u8 0, Value.int IntKind.u8 0, Value.int IntKind.i64 0]) ([Value.int IntKind.i64 n6, Value.int IntKind.u8 n9, Value.int IntKind.u8 n10, Value.int IntKind.i64 (IntKind.i64.wrap (n11 + 1))]) fun p7 k13 k14 w9 =>
          (0 ≤ n5) ∧
          brB ((↑k13 : Int) == IntKind.i64.wrap (shiftZ BinOp.shl IntKind.i64 1 n5 - x3) && decide (n5 < 12))
            (I4 [Value.slice p7 k13 k14, Value.int IntKind.i64 (IntKind.i64.wrap (n5 + 1))] w9.drew)
            (I4 [Value.slice p7 k13 k14, Value.int IntKind.i64 n5] w9.drew))
          (I4 [Value.slice p6 k10 k11, Value.int IntKind.i64 n5] w6)) ∧
      ∀ p8 : Option Addr,
      ∀ k15 : Nat,
      ∀ k16 : Nat,
      ∀ n12 : Int,
      ∀ w10 : World,
      (I4 [Value.slice p8 k15 k16, Value.int IntKind.i64 n12] w10) →
      idx (p8) (k15) (IntKind.i64.wrap n3) (4) fun a5 =>
      ∃ n13 : Int,
      (w10.cell? (a5.add 3) = some (Value.int IntKind.i64 n13)) ∧
      brB (decide (n13 > IntKind.i64.wrap (x4 - (↑k6 : Int))))
        (R (Ending.returned (Value.tuple #[Value.slice none 0 0, Value.int IntKind.i64 3])) w10)
        (idx (p8) (k15) (IntKind.i64.wrap n3) (4) fun a6 =>
        ∃ n14 : Int,
        (w10.cell? (a6.add 3) = some (Value.int IntKind.i64 n14)) ∧
        (0 ≤ n14) ∧
        (n14 * 1 ≤ 281474976710656) ∧
        (n14 < 4611686018427387904) ∧
        appVC (w10) ([(3, k1, [Value.int IntKind.i64 x1, Value.int IntKind.i64 x2, Value.bool b1, Value.int IntKind.i64 x3])]) (p4) (k6) (k7) (n14.toNat) (1) (1) (5) ([Value.int IntKind.u8 0]) (rep n14.toNat ((fun x => x.cells.toList) (Value.int IntKind.u8 0))) fun p9 k17 k18 w11 =>
        ∃ I6 : List Value → World → Prop,
        ∃ m2 : List Value → World → Nat,
        (I6 [Value.int IntKind.i64 (IntKind.i64.wrap ((↑k17 : Int) - 1)), Value.int IntKind.i64 (IntKind.i64.wrap n3)] w11) ∧
        ∀ n15 : Int,
        ∀ n16 : Int,
        ∀ w12 : World,
        (I6 [Value.int IntKind.i64 n15, Value.int IntKind.i64 n16] w12) →
        brB (decide (n16 ≥ 0))
          (idx (p8) (k15) (n16) (4) fun a7 =>
          ∃ n17 : Int,
          (w12.cell? (a7.add 1) = some (Value.int IntKind.u8 n17)) ∧
          idx (p9) (k17) (n15) (1) fun a8 =>
          (∃ v1 : Value,
            w12.cell? a8 = some v1) ∧
          (w12.frozen? a8 = false) ∧
          (¬a8.block ∈ [k1]) ∧
          idx (p8) (k15) (n16) (4) fun a9 =>
          ∃ n18 : Int,
          ((setCells w12 a8 [Value.int IntKind.u8 n17] 0).drew.cell? a9 = some (Value.int IntKind.i64 n18)) ∧
          (I6 [Value.int IntKind.i64 (IntKind.i64.wrap (n15 - 1)), Value.int IntKind.i64 n18] (setCells w12 a8 [Value.int IntKind.u8 n17] 0).drew) ∧
          m2 [Value.int IntKind.i64 (IntKind.i64.wrap (n15 - 1)), Value.int IntKind.i64 n18] (setCells w12 a8 [Value.int IntKind.u8 n17] 0).drew < m2 [Value.int IntKind.i64 n15, Value.int IntKind.i64 n16] w12)
          (I2 [Value.slice p8 k15 k16, Value.int IntKind.i64 n12, Value.int IntKind.i64 (IntKind.i64.wrap n3), Value.slice p9 k17 k18] w12)))) ∧
  ∀ p10 : Option Addr,
  ∀ k19 : Nat,
  ∀ k20 : Nat,
  ∀ n19 : Int,
  ∀ n20 : Int,
  ∀ p11 : Option Addr,
  ∀ k21 : Nat,
  ∀ k22 : Nat,
  ∀ w13 : World,
  (I2 [Value.slice p10 k19 k20, Value.int IntKind.i64 n19, Value.int IntKind.i64 n20, Value.slice p11 k21 k22] w13) →
  (I1 [Value.slice p10 k19 k20, Value.int IntKind.i64 n19, Value.int IntKind.i64 n20, Value.slice p11 k21 k22] w13) ∧
  m1 [Value.slice p10 k19 k20, Value.int IntKind.i64 n19, Value.int IntKind.i64 n20, Value.slice p11 k21 k22] w13 < m1 [Value.slice p3 k4 k5, Value.int IntKind.i64 n1, Value.int IntKind.i64 n2, Value.slice p4 k6 k7] w4
theorem calls_lzw_kind_unpack (x1 : Int) (x2 : Int) (b1 : Bool) (x3 : Int) (sa1 : Option Addr) (sl1 sc1 : Nat) (x4 : Int) (w : World) (R : Ending → World → Prop) (h : vc_lzw_kind_unpack x1 x2 b1 x3 sa1 sl1 sc1 x4 w R) : Calls P F.lzw_kind_unpack #[.agg #[.int .i64 x1, .int .i64 x2, .bool b1, .int .i64 x3], .slice sa1 sl1 sc1, .int .i64 x4] w R :=
  calls_of_vc (fn := Try.f24) (ac := ac_lzw_kind_unpack) (args := [.agg #[.int .i64 x1, .int .i64 x2, .bool b1, .int .i64 x3], .slice sa1 sl1 sc1, .int .i64 x4]) mixed Try.func24 (by kernel_rfl) (cast (by unfold vc_lzw_kind_unpack FnVc; kernel_rfl) h)
/-- darkroom/darkroomref06.unpack -/
def vc_ref06_unpack (sa1 : Option Addr) (sl1 sc1 : Nat) (x1 : Int) (x2 : Int) (b1 : Bool) (x3 : Int) (x4 : Int) (w : World) (R : Ending → World → Prop) : Prop :=
  ∃ I1 : List Value → World → Prop,
  (brB (decide (x4 < 0))
      (I1 [Value.int IntKind.i64 0] w)
      (I1 [Value.int IntKind.i64 x4] w)) ∧
  ∀ n1 : Int,
  ∀ w1 : World,
  (I1 [Value.int IntKind.i64 n1] w1) →
  ∀ k1 : Nat,
  (w1.heap.size ≤ k1) →
  ∀ k2 : Nat,
  (w1.heap.size ≤ k2) →
  ∃ I2 : List Value → World → Prop,
  ∃ m1 : List Value → World → Nat,
  (∀ w2 : World,
    (Locl ([k2, k1]) w1 w2) →
    I2 [Value.int IntKind.i64 x2, Value.slice none 0 0, Value.int IntKind.i64 (-1), Value.slice sa1 sl1 sc1, Value.bool b1, Value.int IntKind.i64 0, Value.int IntKind.i64 x1, Value.slice none 0 0, Value.slice none 0 0, Value.slice none 0 0] w2) ∧
  ∀ n2 : Int,
  ∀ p1 : Option Addr,
  ∀ k3 : Nat,
  ∀ k4 : Nat,
  ∀ n3 : Int,
  ∀ p2 : Option Addr,
  ∀ k5 : Nat,
  ∀ k6 : Nat,
  ∀ c1 : Bool,
  ∀ n4 : Int,
  ∀ n5 : Int,
  ∀ p3 : Option Addr,
  ∀ k7 : Nat,
  ∀ k8 : Nat,
  ∀ p4 : Option Addr,
  ∀ k9 : Nat,
  ∀ k10 : Nat,
  ∀ p5 : Option Addr,
  ∀ k11 : Nat,
  ∀ k12 : Nat,
  ∀ w3 : World,
  (I2 [Value.int IntKind.i64 n2, Value.slice p1 k3 k4, Value.int IntKind.i64 n3, Value.slice p2 k5 k6, Value.bool c1, Value.int IntKind.i64 n4, Value.int IntKind.i64 n5, Value.slice p3 k7 k8, Value.slice p4 k9 k10, Value.slice p5 k11 k12] w3) →
  ∃ I3 : List Value → World → Prop,
  (Calls P F.ref01_Take #[Value.agg #[Value.slice p2 k5 k6, Value.bool c1, Value.int IntKind.i64 n4], Value.int IntKind.i64 n2] w3 fun e1 w4 =>
    ∃ p6 : Option Addr,
    ∃ k13 : Nat,
    ∃ k14 : Nat,
    ∃ c2 : Bool,
    ∃ n6 : Int,
    ∃ n7 : Int,
    ∃ n8 : Int,
    (e1 = Ending.returned (Value.tuple #[Value.agg #[Value.slice p6 k13 k14, Value.bool c2, Value.int IntKind.i64 n6], Value.int IntKind.u32 n7, Value.int IntKind.i64 n8])) ∧
    (Keep ([k2, k1]) w3 w4) ∧
    ∀ k15 : Nat,
    (w4.heap.size ≤ k15) →
    brB (n8 != 0)
      (∀ w5 : World,
      (Locl ([k15, k2, k1]) w4 w5) →
      R (Ending.returned (Value.tuple #[Value.slice none 0 0, Value.int IntKind.i64 5])) w5)
      (brB (IntKind.i64.wrap n7 == x1)
        (∀ w6 : World,
        (Locl ([k15, k2, k1]) w4 w6) →
        I3 [Value.int IntKind.i64 x2, Value.slice p1 k3 k4, Value.int IntKind.i64 (-1), Value.slice p6 k13 k14, Value.bool c2, Value.int IntKind.i64 n6, Value.int IntKind.i64 x1, Value.slice none 0 0, Value.slice none 0 0, Value.slice none 0 0] w6)
        (brB (IntKind.i64.wrap n7 == IntKind.i64.wrap (x1 + 1))
          (∀ w7 : World,
          (Locl ([k15, k2, k1]) w4 w7) →
          R (Ending.returned (Value.tuple #[Value.slice p1 k3 k4, Value.int IntKind.i64 0])) w7)
          (∃ I4 : List Value → World → Prop,
          (brB (decide (n3 < 0) && decide (IntKind.i64.wrap n7 > x1))
              (∀ w8 : World,
              (Locl ([k15, k2, k1]) w4 w8) →
              R (Ending.returned (Value.tuple #[Value.slice none 0 0, Value.int IntKind.i64 32])) w8)
              (brB (decide (n3 ≥ 0))
                (brB (decide (IntKind.i64.wrap n7 > IntKind.i64.wrap (IntKind.i64.wrap (x1 + 2) + (↑k7 : Int))))
                  (∀ w9 : World,
                  (Locl ([k15, k2, k1]) w4 w9) →
                  R (Ending.returned (Value.tuple #[Value.slice none 0 0, Value.int IntKind.i64 32])) w9)
                  (brB (IntKind.i64.wrap n7 == IntKind.i64.wrap (IntKind.i64.wrap (x1 + 2) + (↑k7 : Int)))
                    (brB (decide (IntKind.i64.wrap (IntKind.i64.wrap (x1 + 2) + (↑k7 : Int)) ≥ 4096))
                      (∀ w10 : World,
                      (Locl ([k15, k2, k1]) w4 w10) →
                      R (Ending.returned (Value.tuple #[Value.slice none 0 0, Value.int IntKind.i64 32])) w10)
                      (∀ w11 : World,
                      (Locl ([k15, k2, k1]) w4 w11) →
                      I4 [] w11))
                    (∀ w12 : World,
                    (Locl ([k15, k2, k1]) w4 w12) →
                    I4 [] w12)))
                (∀ w13 : World,
                (Locl ([k15, k2, k1]) w4 w13) →
                I4 [] w13))) ∧
          ∀ w14 : World,
          (I4 [] w14) →
          ∃ I5 : List Value → World → Prop,
          (brB (decide (n3 ≥ 0) && IntKind.i64.wrap n7 == IntKind.i64.wrap (IntKind.i64.wrap (x1 + 2) + (↑k7 : Int)))
              (I5 [Value.int IntKind.i64 n3] w14)
              (I5 [Value.int IntKind.i64 (IntKind.i64.wrap n7)] w14)) ∧
          ∀ n9 : Int,
          ∀ w15 : World,
          (I5 [Value.int IntKind.i64 n9] w15) →
          Calls P F.ref06_size #[Value.agg #[Value.int IntKind.i64 n5, Value.slice p3 k7 k8, Value.slice p4 k9 k10, Value.slice p5 k11 k12], Value.int IntKind.i64 n9] w15 fun e2 w16 =>
          ∃ n10 : Int,
          (e2 = Ending.returned (Value.int IntKind.i64 n10)) ∧
          (Keep ([k15, k2, k1]) w15 w16) ∧
          ∃ I6 : List Value → World → Prop,
          (brB (decide (n3 ≥ 0) && IntKind.i64.wrap n7 == IntKind.i64.wrap (IntKind.i64.wrap (x1 + 2) + (↑k7 : Int)))
              (I6 [Value.int IntKind.i64 (IntKind.i64.wrap (n10 + 1))] w16)
              (I6 [Value.int IntKind.i64 n10] w16)) ∧
          ∀ n11 : Int,
          ∀ w17 : World,
          (I6 [Value.int IntKind.i64 n11] w17) →
          brB (decide (n11 > IntKind.i64.wrap (n1 - (↑k3 : Int))))
            (R (Ending.returned (Value.tuple #[Value.slice none 0 0, Value.int IntKind.i64 3])) w17)
            (Calls P F.ref06_text #[Value.agg #[Value.int IntKind.i64 n5, Value.slice p3 k7 k8, Value.slice p4 k9 k10, Value.slice p5 k11 k12], Value.int IntKind.i64 n9] w17 fun e3 w18 =>
            ∃ p7 : Option Addr,
            ∃ k16 : Nat,
            ∃ k17 : Nat,
            (e3 = Ending.returned (Value.slice p7 k16 k17)) ∧
            (Keep ([k15, k2, k1]) w17 w18) ∧
            ∃ l1 : List Value,
            (l1.length = k16 * 1) ∧
            (oneAll l1 = true) ∧
            (CellsAre w18 p7 l1) ∧
            appVC (w18) ([(19, k15, [Value.slice p6 k13 k14, Value.bool c2, Value.int IntKind.i64 n6]), (15, k2, [Value.int IntKind.i64 n5, Value.slice p3 k7 k8, Value.slice p4 k9 k10, Value.slice p5 k11 k12]), (14, k1, [Value.slice p6 k13 k14, Value.bool c2, Value.int IntKind.i64 n6])]) (p1) (k3) (k4) (k16) (1) (1) (5) ([Value.int IntKind.u8 0]) (l1) fun p8 k18 k19 w19 =>
            ∃ I7 : List Value → World → Prop,
            (brB (decide (n3 ≥ 0) && IntKind.i64.wrap n7 == IntKind.i64.wrap (IntKind.i64.wrap (x1 + 2) + (↑k7 : Int)))
                (idx (p7) (k16) (0) (1) fun a1 =>
                ∃ n12 : Int,
                (w19.cell? a1 = some (Value.int IntKind.u8 n12)) ∧
                ∀ k20 : Nat,
                (w19.heap.size ≤ k20) →
                ∀ w20 : World,
                (Locl ([k20, k15, k2, k1]) w19 w20) →
                appVC (w20) ([(133, k20, [Value.int IntKind.u8 n12]), (19, k15, [Value.slice p6 k13 k14, Value.bool c2, Value.int IntKind.i64 n6]), (15, k2, [Value.int IntKind.i64 n5, Value.slice p3 k7 k8, Value.slice p4 k9 k10, Value.slice p5 k11 k12]), (14, k1, [Value.slice p6 k13 k14, Value.bool c2, Value.int IntKind.i64 n6])]) (p8) (k18) (k19) (1) (1) (1) (5) ([Value.int IntKind.u8 0]) ([Value.int IntKind.u8 n12]) fun p9 k21 k22 w21 =>
                I7 [Value.slice p9 k21 k22] w21)
                (I7 [Value.slice p8 k18 k19] w19)) ∧
            ∀ p10 : Option Addr,
            ∀ k23 : Nat,
            ∀ k24 : Nat,
            ∀ w22 : World,
            (I7 [Value.slice p10 k23 k24] w22) →
            brB (decide (n3 ≥ 0) && decide (IntKind.i64.wrap (IntKind.i64.wrap (x1 + 2) + (↑k7 : Int)) < 4096))
              (∀ k25 : Nat,
              (w22.heap.size ≤ k25) →
              ∀ w23 : World,
              (Locl ([k25, k15, k2, k1]) w22 w23) →
              appVC (w23) ([(144, k25, [Value.int IntKind.i64 n3]), (19, k15, [Value.slice p6 k13 k14, Value.bool c2, Value.int IntKind.i64 n6]), (15, k2, [Value.int IntKind.i64 n5, Value.slice p3 k7 k8, Value.slice p4 k9 k10, Value.slice p5 k11 k12]), (14, k1, [Value.slice p6 k13 k14, Value.bool c2, Value.int IntKind.i64 n6])]) (p3) (k7) (k8) (1) (1) (8) (3) ([Value.int IntKind.i64 0]) ([Value.int IntKind.i64 n3]) fun p11 k26 k27 w24 =>
              idx (p7) (k16) (0) (1) fun a2 =>
              ∀ w25 : World,
              (Locl ([k25, k15, k2, k1]) w24 w25) →
              ∃ n13 : Int,
              (w25.cell? a2 = some (Value.int IntKind.u8 n13)) ∧
              ∀ k28 : Nat,
              (w25.heap.size ≤ k28) →
              ∀ w26 : World,
              (Locl ([k28, k25, k15, k2, k1]) w25 w26) →
              appVC (w26) ([(152, k28, [Value.int IntKind.u8 n13]), (144, k25, [Value.int IntKind.i64 n3]), (19, k15, [Value.slice p6 k13 k14, Value.bool c2, Value.int IntKind.i64 n6]), (15, k2, [Value.int IntKind.i64 n5, Value.slice p11 k26 k27, Value.slice p4 k9 k10, Value.slice p5 k11 k12]), (14, k1, [Value.slice p6 k13 k14, Value.bool c2, Value.int IntKind.i64 n6])]) (p4) (k9) (k10) (1) (1) (1) (5) ([Value.int IntKind.u8 0]) ([Value.int IntKind.u8 n13]) fun p12 k29 k30 w27 =>
              ∀ w28 : World,
              (Locl ([k28, k25, k15, k2, k1]) w27 w28) →
              Calls P F.ref06_size #[Value.agg #[Value.int IntKind.i64 n5, Value.slice p11 k26 k27, Value.slice p12 k29 k30, Value.slice p5 k11 k12], Value.int IntKind.i64 n3] w28 fun e4 w29 =>
              ∃ n14 : Int,
              (e4 = Ending.returned (Value.int IntKind.i64 n14)) ∧
              (Keep ([k28, k25, k15, k2, k1]) w28 w29) ∧
              (Keeps w28 w29) ∧
              ∀ k31 : Nat,
              (w29.heap.size ≤ k31) →
              ∀ w30 : World,
              (Locl ([k31, k28, k25, k15, k2, k1]) w29 w30) →
              appVC (w30) ([(161, k31, [Value.int IntKind.i64 (IntKind.i64.wrap (n14 + 1))]), (152, k28, [Value.int IntKind.u8 n13]), (144, k25, [Value.int IntKind.i64 n3]), (19, k15, [Value.slice p6 k13 k14, Value.bool c2, Value.int IntKind.i64 n6]), (15, k2, [Value.int IntKind.i64 n5, Value.slice p11 k26 k27, Value.slice p12 k29 k30, Value.slice p5 k11 k12]), (14, k1, [Value.slice p6 k13 k14, Value.bool c2, Value.int IntKind.i64 n6])]) (p5) (k11) (k12) (1) (1) (8) (3) ([Value.int IntKind.i64 0]) ([Value.int IntKind.i64 (IntKind.i64.wrap (n14 + 1))]) fun p13 k32 k33 w31 =>
              (0 ≤ IntKind.u64.wrap n2) ∧
              brB (IntKind.i64.wrap (IntKind.i64.wrap (IntKind.i64.wrap (x1 + 2) + (↑k7 : Int)) + 1) == IntKind.i64.wrap (shiftZ BinOp.shl IntKind.i64 1 (IntKind.u64.wrap n2) - x3) && decide (n2 < 12))
                (∀ w32 : World,
                (Locl ([k31, k28, k25, k15, k2, k1]) w31 w32) →
                I3 [Value.int IntKind.i64 (IntKind.i64.wrap (n2 + 1)), Value.slice p10 k23 k24, Value.int IntKind.i64 (IntKind.i64.wrap n7), Value.slice p6 k13 k14, Value.bool c2, Value.int IntKind.i64 n6, Value.int IntKind.i64 n5, Value.slice p11 k26 k27, Value.slice p12 k29 k30, Value.slice p13 k32 k33] w32)
                (∀ w33 : World,
                (Locl ([k31, k28, k25, k15, k2, k1]) w31 w33) →
                I3 [Value.int IntKind.i64 n2, Value.slice p10 k23 k24, Value.int IntKind.i64 (IntKind.i64.wrap n7), Value.slice p6 k13 k14, Value.bool c2, Value.int IntKind.i64 n6, Value.int IntKind.i64 n5, Value.slice p11 k26 k27, Value.slice p12 k29 k30, Value.slice p13 k32 k33] w33))
              (I3 [Value.int IntKind.i64 n2, Value.slice p10 k23 k24, Value.int IntKind.i64 (IntKind.i64.wrap n7), Value.slice p6 k13 k14, Value.bool c2, Value.int IntKind.i64 n6, Value.int IntKind.i64 n5, Value.slice p3 k7 k8, Value.slice p4 k9 k10, Value.slice p5 k11 k12] w22)))))) ∧
  ∀ n15 : Int,
  ∀ p14 : Option Addr,
  ∀ k34 : Nat,
  ∀ k35 : Nat,
  ∀ n16 : Int,
  ∀ p15 : Option Addr,
  ∀ k36 : Nat,
  ∀ k37 : Nat,
  ∀ c3 : Bool,
  ∀ n17 : Int,
  ∀ n18 : Int,
  ∀ p16 : Option Addr,
  ∀ k38 : Nat,
  ∀ k39 : Nat,
  ∀ p17 : Option Addr,
  ∀ k40 : Nat,
  ∀ k41 : Nat,
  ∀ p18 : Option Addr,
  ∀ k42 : Nat,
  ∀ k43 : Nat,
  ∀ w34 : World,
  (I3 [Value.int IntKind.i64 n15, Value.slice p14 k34 k35, Value.int IntKind.i64 n16, Value.slice p15 k36 k37, Value.bool c3, Value.int IntKind.i64 n17, Value.int IntKind.i64 n18, Value.slice p16 k38 k39, Value.slice p17 k40 k41, Value.slice p18 k42 k43] w34) →
  (I2 [Value.int IntKind.i64 n15, Value.slice p14 k34 k35, Value.int IntKind.i64 n16, Value.slice p15 k36 k37, Value.bool c3, Value.int IntKind.i64 n17, Value.int IntKind.i64 n18, Value.slice p16 k38 k39, Value.slice p17 k40 k41, Value.slice p18 k42 k43] w34) ∧
  m1 [Value.int IntKind.i64 n15, Value.slice p14 k34 k35, Value.int IntKind.i64 n16, Value.slice p15 k36 k37, Value.bool c3, Value.int IntKind.i64 n17, Value.int IntKind.i64 n18, Value.slice p16 k38 k39, Value.slice p17 k40 k41, Value.slice p18 k42 k43] w34 < m1 [Value.int IntKind.i64 n2, Value.slice p1 k3 k4, Value.int IntKind.i64 n3, Value.slice p2 k5 k6, Value.bool c1, Value.int IntKind.i64 n4, Value.int IntKind.i64 n5, Value.slice p3 k7 k8, Value.slice p4 k9 k10, Value.slice p5 k11 k12] w3
theorem calls_ref06_unpack (sa1 : Option Addr) (sl1 sc1 : Nat) (x1 : Int) (x2 : Int) (b1 : Bool) (x3 : Int) (x4 : Int) (w : World) (R : Ending → World → Prop) (h : vc_ref06_unpack sa1 sl1 sc1 x1 x2 b1 x3 x4 w R) : Calls P F.ref06_unpack #[.slice sa1 sl1 sc1, .int .i64 x1, .int .i64 x2, .bool b1, .int .i64 x3, .int .i64 x4] w R :=
  calls_of_vc (fn := Try.f25) (ac := ac_ref06_unpack) (args := [.slice sa1 sl1 sc1, .int .i64 x1, .int .i64 x2, .bool b1, .int .i64 x3, .int .i64 x4]) mixed Try.func25 (by kernel_rfl) (cast (by unfold vc_ref06_unpack FnVc; kernel_rfl) h)
/-- darkroom/lzw.tiff -/
def vc_lzw_tiff  (w : World) (R : Ending → World → Prop) : Prop :=
  ∀ k1 : Nat,
  (w.heap.size ≤ k1) →
  ∀ w1 : World,
  (Locl ([k1]) w w1) →
  R (Ending.returned (Value.agg #[Value.int IntKind.i64 256, Value.int IntKind.i64 9, Value.bool true, Value.int IntKind.i64 1])) w1
theorem calls_lzw_tiff  (w : World) (R : Ending → World → Prop) (h : vc_lzw_tiff  w R) : Calls P F.lzw_tiff #[] w R :=
  calls_of_vc (fn := Try.f26) (ac := ac_lzw_tiff) (args := []) mixed Try.func26 (by kernel_rfl) (cast (by unfold vc_lzw_tiff FnVc; kernel_rfl) h)
/-- (darkroom/lzw.kind).pack -/
def vc_lzw_kind_pack (x1 : Int) (x2 : Int) (b1 : Bool) (x3 : Int) (sa1 : Option Addr) (sl1 sc1 : Nat) (w : World) (R : Ending → World → Prop) : Prop :=
  ∀ k1 : Nat,
  ∀ w1 : World,
  (New w (Obj.cells #[Value.int IntKind.i64 x1, Value.int IntKind.i64 x2, Value.bool b1, Value.int IntKind.i64 x3] 41) k1 w1) →
  ∃ c1 : Bool,
  (w1.cell? { block := k1, off := 2 } = some (Value.bool c1)) ∧
  Calls P F.bits_NewWriter #[Value.bool c1] w1 fun e1 w2 =>
  ∃ p1 : Option Addr,
  (e1 = Ending.returned (Value.pointer p1)) ∧
  ∀ k2 : Nat,
  ∀ w3 : World,
  (New w2 (Obj.cells #[Value.pointer none] 65) k2 w3) →
  (∃ v1 : Value,
    w3.cell? { block := k2, off := 0 } = some v1) ∧
  (w3.frozen? { block := k2, off := 0 } = false) ∧
  ∃ I1 : List Value → World → Prop,
  (∃ n1 : Int,
    ((setCells w3 { block := k2, off := 0 } [Value.pointer p1] 0).drew.cell? { block := k1, off := 1 } = some (Value.int IntKind.i64 n1)) ∧
    (∀ k3 : Nat,
      ∀ w4 : World,
      (New ((setCells w3 { block := k2, off := 0 } [Value.pointer p1] 0).drew) (Obj.map #[] 0) k3 w4) →
      (∃ n2 : Int,
        (w4.cell? { block := k1, off := 0 } = some (Value.int IntKind.i64 n2)) ∧
        (∀ k4 : Nat,
          ∀ w5 : World,
          (New w4 (Obj.cells #[Value.int IntKind.i64 0] 3) k4 w5) →
          ∀ k5 : Nat,
          ∀ w6 : World,
          (New w5 (Obj.cells #[Value.int IntKind.i64 0] 3) k5 w6) →
          (∃ v2 : Value,
            w6.cell? { block := k4, off := 0 } = some v2) ∧
          (w6.frozen? { block := k4, off := 0 } = false) ∧
          (∃ v3 : Value,
            (setCells w6 { block := k4, off := 0 } [Value.int IntKind.i64 n1] 0).cell? { block := k5, off := 0 } = some v3) ∧
          ((setCells w6 { block := k4, off := 0 } [Value.int IntKind.i64 n1] 0).frozen? { block := k5, off := 0 } = false) ∧
          I1 [Value.map (some k3), Value.pointer (some { block := k4, off := 0 }), Value.pointer (some { block := k5, off := 0 })] (setCells (setCells w6 { block := k4, off := 0 } [Value.int IntKind.i64 n1] 0) { block := k5, off := 0 } [Value.int IntKind.i64 (IntKind.i64.wrap (n2 + 2))] 0)) ∧
        ∀ k6 : Nat,
        ∀ w7 : World,
        (New w4 (Obj.cells #[Value.int IntKind.i64 0] 3) k6 w7) →
        ∀ k7 : Nat,
        ∀ w8 : World,
        (New w7 (Obj.cells #[Value.int IntKind.i64 0] 3) k7 w8) →
        (∃ v4 : Value,
          w8.cell? { block := k7, off := 0 } = some v4) ∧
        (w8.frozen? { block := k7, off := 0 } = false) ∧
        (∃ v5 : Value,
          (setCells w8 { block := k7, off := 0 } [Value.int IntKind.i64 n1] 0).cell? { block := k6, off := 0 } = some v5) ∧
        ((setCells w8 { block := k7, off := 0 } [Value.int IntKind.i64 n1] 0).frozen? { block := k6, off := 0 } = false) ∧
        I1 [Value.map (some k3), Value.pointer (some { block := k7, off := 0 }), Value.pointer (some { block := k6, off := 0 })] (setCells (setCells w8 { block := k7, off := 0 } [Value.int IntKind.i64 n1] 0) { block := k6, off := 0 } [Value.int IntKind.i64 (IntKind.i64.wrap (n2 + 2))] 0)) ∧
      (∀ k8 : Nat,
        ∀ w9 : World,
        (New w4 (Obj.cells #[Value.int IntKind.i64 0] 3) k8 w9) →
        (∃ n3 : Int,
          (w9.cell? { block := k1, off := 0 } = some (Value.int IntKind.i64 n3)) ∧
          ∀ k9 : Nat,
          ∀ w10 : World,
          (New w9 (Obj.cells #[Value.int IntKind.i64 0] 3) k9 w10) →
          (∃ v6 : Value,
            w10.cell? { block := k8, off := 0 } = some v6) ∧
          (w10.frozen? { block := k8, off := 0 } = false) ∧
          (∃ v7 : Value,
            (setCells w10 { block := k8, off := 0 } [Value.int IntKind.i64 n1] 0).cell? { block := k9, off := 0 } = some v7) ∧
          ((setCells w10 { block := k8, off := 0 } [Value.int IntKind.i64 n1] 0).frozen? { block := k9, off := 0 } = false) ∧
          I1 [Value.map (some k3), Value.pointer (some { block := k8, off := 0 }), Value.pointer (some { block := k9, off := 0 })] (setCells (setCells w10 { block := k8, off := 0 } [Value.int IntKind.i64 n1] 0) { block := k9, off := 0 } [Value.int IntKind.i64 (IntKind.i64.wrap (n3 + 2))] 0)) ∧
        ∀ k10 : Nat,
        ∀ w11 : World,
        (New w9 (Obj.cells #[Value.int IntKind.i64 0] 3) k10 w11) →
        (∃ n4 : Int,
          (w11.cell? { block := k1, off := 0 } = some (Value.int IntKind.i64 n4)) ∧
          (∃ v8 : Value,
            w11.cell? { block := k8, off := 0 } = some v8) ∧
          (w11.frozen? { block := k8, off := 0 } = false) ∧
          (∃ v9 : Value,
            (setCells w11 { block := k8, off := 0 } [Value.int IntKind.i64 n1] 0).cell? { block := k10, off := 0 } = some v9) ∧
          ((setCells w11 { block := k8, off := 0 } [Value.int IntKind.i64 n1] 0).frozen? { block := k10, off := 0 } = false) ∧
          I1 [Value.map (some k3), Value.pointer (some { block := k8, off := 0 }), Value.pointer (some { block := k10, off := 0 })] (setCells (setCells w11 { block := k8, off := 0 } [Value.int IntKind.i64 n1] 0) { block := k10, off := 0 } [Value.int IntKind.i64 (IntKind.i64.wrap (n4 + 2))] 0)) ∧
        (∃ v10 : Value,
          w11.cell? { block := k8, off := 0 } = some v10) ∧
        (w11.frozen? { block := k8, off := 0 } = false) ∧
        ∃ n5 : Int,
        ((setCells w11 { block := k8, off := 0 } [Value.int IntKind.i64 n1] 0).cell? { block := k1, off := 0 } = some (Value.int IntKind.i64 n5)) ∧
        (∃ v11 : Value,
          (setCells w11 { block := k8, off := 0 } [Value.int IntKind.i64 n1] 0).cell? { block := k10, off := 0 } = some v11) ∧
        ((setCells w11 { block := k8, off := 0 } [Value.int IntKind.i64 n1] 0).frozen? { block := k10, off := 0 } = false) ∧
        I1 [Value.map (some k3), Value.pointer (some { block := k8, off := 0 }), Value.pointer (some { block := k10, off := 0 })] (setCells (setCells w11 { block := k8, off := 0 } [Value.int IntKind.i64 n1] 0) { block := k10, off := 0 } [Value.int IntKind.i64 (IntKind.i64.wrap (n5 + 2))] 0)) ∧
      ∀ k11 : Nat,
      ∀ w12 : World,
      (New w4 (Obj.cells #[Value.int IntKind.i64 0] 3) k11 w12) →
      (∃ n6 : Int,
        (w12.cell? { block := k1, off := 0 } = some (Value.int IntKind.i64 n6)) ∧
        ∀ k12 : Nat,
        ∀ w13 : World,
        (New w12 (Obj.cells #[Value.int IntKind.i64 0] 3) k12 w13) →
        (∃ v12 : Value,
          w13.cell? { block := k12, off := 0 } = some v12) ∧
        (w13.frozen? { block := k12, off := 0 } = false) ∧
        (∃ v13 : Value,
          (setCells w13 { block := k12, off := 0 } [Value.int IntKind.i64 n1] 0).cell? { block := k11, off := 0 } = some v13) ∧
        ((setCells w13 { block := k12, off := 0 } [Value.int IntKind.i64 n1] 0).frozen? { block := k11, off := 0 } = false) ∧
        I1 [Value.map (some k3), Value.pointer (some { block := k12, off := 0 }), Value.pointer (some { block := k11, off := 0 })] (setCells (setCells w13 { block := k12, off := 0 } [Value.int IntKind.i64 n1] 0) { block := k11, off := 0 } [Value.int IntKind.i64 (IntKind.i64.wrap (n6 + 2))] 0)) ∧
      ∀ k13 : Nat,
      ∀ w14 : World,
      (New w12 (Obj.cells #[Value.int IntKind.i64 0] 3) k13 w14) →
      (∃ n7 : Int,
        (w14.cell? { block := k1, off := 0 } = some (Value.int IntKind.i64 n7)) ∧
        (∃ v14 : Value,
          w14.cell? { block := k13, off := 0 } = some v14) ∧
        (w14.frozen? { block := k13, off := 0 } = false) ∧
        (∃ v15 : Value,
          (setCells w14 { block := k13, off := 0 } [Value.int IntKind.i64 n1] 0).cell? { block := k11, off := 0 } = some v15) ∧
        ((setCells w14 { block := k13, off := 0 } [Value.int IntKind.i64 n1] 0).frozen? { block := k11, off := 0 } = false) ∧
        I1 [Value.map (some k3), Value.pointer (some { block := k13, off := 0 }), Value.pointer (some { block := k11, off := 0 })] (setCells (setCells w14 { block := k13, off := 0 } [Value.int IntKind.i64 n1] 0) { block := k11, off := 0 } [Value.int IntKind.i64 (IntKind.i64.wrap (n7 + 2))] 0)) ∧
      (∃ v16 : Value,
        w14.cell? { block := k13, off := 0 } = some v16) ∧
      (w14.frozen? { block := k13, off := 0 } = false) ∧
      ∃ n8 : Int,
      ((setCells w14 { block := k13, off := 0 } [Value.int IntKind.i64 n1] 0).cell? { block := k1, off := 0 } = some (Value.int IntKind.i64 n8)) ∧
      (∃ v17 : Value,
        (setCells w14 { block := k13, off := 0 } [Value.int IntKind.i64 n1] 0).cell? { block := k11, off := 0 } = some v17) ∧
      ((setCells w14 { block := k13, off := 0 } [Value.int IntKind.i64 n1] 0).frozen? { block := k11, off := 0 } = false) ∧
      I1 [Value.map (some k3), Value.pointer (some { block := k13, off := 0 }), Value.pointer (some { block := k11, off := 0 })] (setCells (setCells w14 { block := k13, off := 0 } [Value.int IntKind.i64 n1] 0) { block := k11, off := 0 } [Value.int IntKind.i64 (IntKind.i64.wrap (n8 + 2))] 0)) ∧
    (∃ n9 : Int,
      ((setCells w3 { block := k2, off := 0 } [Value.pointer p1] 0).drew.cell? { block := k1, off := 0 } = some (Value.int IntKind.i64 n9)) ∧
      (∀ k14 : Nat,
        ∀ w15 : World,
        (New ((setCells w3 { block := k2, off := 0 } [Value.pointer p1] 0).drew) (Obj.map #[] 0) k14 w15) →
        (∀ k15 : Nat,
          ∀ w16 : World,
          (New w15 (Obj.cells #[Value.int IntKind.i64 0] 3) k15 w16) →
          ∀ k16 : Nat,
          ∀ w17 : World,
          (New w16 (Obj.cells #[Value.int IntKind.i64 0] 3) k16 w17) →
          (∃ v18 : Value,
            w17.cell? { block := k15, off := 0 } = some v18) ∧
          (w17.frozen? { block := k15, off := 0 } = false) ∧
          (∃ v19 : Value,
            (setCells w17 { block := k15, off := 0 } [Value.int IntKind.i64 n1] 0).cell? { block := k16, off := 0 } = some v19) ∧
          ((setCells w17 { block := k15, off := 0 } [Value.int IntKind.i64 n1] 0).frozen? { block := k16, off := 0 } = false) ∧
          I1 [Value.map (some k14), Value.pointer (some { block := k15, off := 0 }), Value.pointer (some { block := k16, off := 0 })] (setCells (setCells w17 { block := k15, off := 0 } [Value.int IntKind.i64 n1] 0) { block := k16, off := 0 } [Value.int IntKind.i64 (IntKind.i64.wrap (n9 + 2))] 0)) ∧
        ∀ k17 : Nat,
        ∀ w18 : World,
        (New w15 (Obj.cells #[Value.int IntKind.i64 0] 3) k17 w18) →
        ∀ k18 : Nat,
        ∀ w19 : World,
        (New w18 (Obj.cells #[Value.int IntKind.i64 0] 3) k18 w19) →
        (∃ v20 : Value,
          w19.cell? { block := k18, off := 0 } = some v20) ∧
        (w19.frozen? { block := k18, off := 0 } = false) ∧
        (∃ v21 : Value,
          (setCells w19 { block := k18, off := 0 } [Value.int IntKind.i64 n1] 0).cell? { block := k17, off := 0 } = some v21) ∧
        ((setCells w19 { block := k18, off := 0 } [Value.int IntKind.i64 n1] 0).frozen? { block := k17, off := 0 } = false) ∧
        I1 [Value.map (some k14), Value.pointer (some { block := k18, off := 0 }), Value.pointer (some { block := k17, off := 0 })] (setCells (setCells w19 { block := k18, off := 0 } [Value.int IntKind.i64 n1] 0) { block := k17, off := 0 } [Value.int IntKind.i64 (IntKind.i64.wrap (n9 + 2))] 0)) ∧
      (∀ k19 : Nat,
        ∀ w20 : World,
        (New ((setCells w3 { block := k2, off := 0 } [Value.pointer p1] 0).drew) (Obj.cells #[Value.int IntKind.i64 0] 3) k19 w20) →
        (∀ k20 : Nat,
          ∀ w21 : World,
          (New w20 (Obj.map #[] 0) k20 w21) →
          ∀ k21 : Nat,
          ∀ w22 : World,
          (New w21 (Obj.cells #[Value.int IntKind.i64 0] 3) k21 w22) →
          (∃ v22 : Value,
            w22.cell? { block := k19, off := 0 } = some v22) ∧
          (w22.frozen? { block := k19, off := 0 } = false) ∧
          (∃ v23 : Value,
            (setCells w22 { block := k19, off := 0 } [Value.int IntKind.i64 n1] 0).cell? { block := k21, off := 0 } = some v23) ∧
          ((setCells w22 { block := k19, off := 0 } [Value.int IntKind.i64 n1] 0).frozen? { block := k21, off := 0 } = false) ∧
          I1 [Value.map (some k20), Value.pointer (some { block := k19, off := 0 }), Value.pointer (some { block := k21, off := 0 })] (setCells (setCells w22 { block := k19, off := 0 } [Value.int IntKind.i64 n1] 0) { block := k21, off := 0 } [Value.int IntKind.i64 (IntKind.i64.wrap (n9 + 2))] 0)) ∧
        ∀ k22 : Nat,
        ∀ w23 : World,
        (New w20 (Obj.cells #[Value.int IntKind.i64 0] 3) k22 w23) →
        ∀ k23 : Nat,
        ∀ w24 : World,
        (New w23 (Obj.map #[] 0) k23 w24) →
        (∃ v24 : Value,
          w24.cell? { block := k19, off := 0 } = some v24) ∧
        (w24.frozen? { block := k19, off := 0 } = false) ∧
        (∃ v25 : Value,
          (setCells w24 { block := k19, off := 0 } [Value.int IntKind.i64 n1] 0).cell? { block := k22, off := 0 } = some v25) ∧
        ((setCells w24 { block := k19, off := 0 } [Value.int IntKind.i64 n1] 0).frozen? { block := k22, off := 0 } = false) ∧
        I1 [Value.map (some k23), Value.pointer (some { block := k19, off := 0 }), Value.pointer (some { block := k22, off := 0 })] (setCells (setCells w24 { block := k19, off := 0 } [Value.int IntKind.i64 n1] 0) { block := k22, off := 0 } [Value.int IntKind.i64 (IntKind.i64.wrap (n9 + 2))] 0)) ∧
      ∀ k24 : Nat,
      ∀ w25 : World,
      (New ((setCells w3 { block := k2, off := 0 } [Value.pointer p1] 0).drew) (Obj.cells #[Value.int IntKind.i64 0] 3) k24 w25) →
      (∀ k25 : Nat,
        ∀ w26 : World,
        (New w25 (Obj.map #[] 0) k25 w26) →
        ∀ k26 : Nat,
        ∀ w27 : World,
        (New w26 (Obj.cells #[Value.int IntKind.i64 0] 3) k26 w27) →
        (∃ v26 : Value,
          w27.cell? { block := k26, off := 0 } = some v26) ∧
        (w27.frozen? { block := k26, off := 0 } = false) ∧
        (∃ v27 : Value,
          (setCells w27 { block := k26, off := 0 } [Value.int IntKind.i64 n1] 0).cell? { block := k24, off := 0 } = some v27) ∧
        ((setCells w27 { block := k26, off := 0 } [Value.int IntKind.i64 n1] 0).frozen? { block := k24, off := 0 } = false) ∧
        I1 [Value.map (some k25), Value.pointer (some { block := k26, off := 0 }), Value.pointer (some { block := k24, off := 0 })] (setCells (setCells w27 { block := k26, off := 0 } [Value.int IntKind.i64 n1] 0) { block := k24, off := 0 } [Value.int IntKind.i64 (IntKind.i64.wrap (n9 + 2))] 0)) ∧
      ∀ k27 : Nat,
      ∀ w28 : World,
      (New w25 (Obj.cells #[Value.int IntKind.i64 0] 3) k27 w28) →
      ∀ k28 : Nat,
      ∀ w29 : World,
      (New w28 (Obj.map #[] 0) k28 w29) →
      (∃ v28 : Value,
        w29.cell? { block := k27, off := 0 } = some v28) ∧
      (w29.frozen? { block := k27, off := 0 } = false) ∧
      (∃ v29 : Value,
        (setCells w29 { block := k27, off := 0 } [Value.int IntKind.i64 n1] 0).cell? { block := k24, off := 0 } = some v29) ∧
      ((setCells w29 { block := k27, off := 0 } [Value.int IntKind.i64 n1] 0).frozen? { block := k24, off := 0 } = false) ∧
      I1 [Value.map (some k28), Value.pointer (some { block := k27, off := 0 }), Value.pointer (some { block := k24, off := 0 })] (setCells (setCells w29 { block := k27, off := 0 } [Value.int IntKind.i64 n1] 0) { block := k24, off := 0 } [Value.int IntKind.i64 (IntKind.i64.wrap (n9 + 2))] 0)) ∧
    (∀ k29 : Nat,
      ∀ w30 : World,
      (New ((setCells w3 { block := k2, off := 0 } [Value.pointer p1] 0).drew) (Obj.cells #[Value.int IntKind.i64 0] 3) k29 w30) →
      (∀ k30 : Nat,
        ∀ w31 : World,
        (New w30 (Obj.map #[] 0) k30 w31) →
        (∃ n10 : Int,
          (w31.cell? { block := k1, off := 0 } = some (Value.int IntKind.i64 n10)) ∧
          ∀ k31 : Nat,
          ∀ w32 : World,
          (New w31 (Obj.cells #[Value.int IntKind.i64 0] 3) k31 w32) →
          (∃ v30 : Value,
            w32.cell? { block := k29, off := 0 } = some v30) ∧
          (w32.frozen? { block := k29, off := 0 } = false) ∧
          (∃ v31 : Value,
            (setCells w32 { block := k29, off := 0 } [Value.int IntKind.i64 n1] 0).cell? { block := k31, off := 0 } = some v31) ∧
          ((setCells w32 { block := k29, off := 0 } [Value.int IntKind.i64 n1] 0).frozen? { block := k31, off := 0 } = false) ∧
          I1 [Value.map (some k30), Value.pointer (some { block := k29, off := 0 }), Value.pointer (some { block := k31, off := 0 })] (setCells (setCells w32 { block := k29, off := 0 } [Value.int IntKind.i64 n1] 0) { block := k31, off := 0 } [Value.int IntKind.i64 (IntKind.i64.wrap (n10 + 2))] 0)) ∧
        ∀ k32 : Nat,
        ∀ w33 : World,
        (New w31 (Obj.cells #[Value.int IntKind.i64 0] 3) k32 w33) →
        (∃ n11 : Int,
          (w33.cell? { block := k1, off := 0 } = some (Value.int IntKind.i64 n11)) ∧
          (∃ v32 : Value,
            w33.cell? { block := k29, off := 0 } = some v32) ∧
          (w33.frozen? { block := k29, off := 0 } = false) ∧
          (∃ v33 : Value,
            (setCells w33 { block := k29, off := 0 } [Value.int IntKind.i64 n1] 0).cell? { block := k32, off := 0 } = some v33) ∧
          ((setCells w33 { block := k29, off := 0 } [Value.int IntKind.i64 n1] 0).frozen? { block := k32, off := 0 } = false) ∧
          I1 [Value.map (some k30), Value.pointer (some { block := k29, off := 0 }), Value.pointer (some { block := k32, off := 0 })] (setCells (setCells w33 { block := k29, off := 0 } [Value.int IntKind.i64 n1] 0) { block := k32, off := 0 } [Value.int IntKind.i64 (IntKind.i64.wrap (n11 + 2))] 0)) ∧
        (∃ v34 : Value,
          w33.cell? { block := k29, off := 0 } = some v34) ∧
        (w33.frozen? { block := k29, off := 0 } = false) ∧
        ∃ n12 : Int,
        ((setCells w33 { block := k29, off := 0 } [Value.int IntKind.i64 n1] 0).cell? { block := k1, off := 0 } = some (Value.int IntKind.i64 n12)) ∧
        (∃ v35 : Value,
          (setCells w33 { block := k29, off := 0 } [Value.int IntKind.i64 n1] 0).cell? { block := k32, off := 0 } = some v35) ∧
        ((setCells w33 { block := k29, off := 0 } [Value.int IntKind.i64 n1] 0).frozen? { block := k32, off := 0 } = false) ∧
        I1 [Value.map (some k30), Value.pointer (some { block := k29, off := 0 }), Value.pointer (some { block := k32, off := 0 })] (setCells (setCells w33 { block := k29, off := 0 } [Value.int IntKind.i64 n1] 0) { block := k32, off := 0 } [Value.int IntKind.i64 (IntKind.i64.wrap (n12 + 2))] 0)) ∧
      (∃ n13 : Int,
        (w30.cell? { block := k1, off := 0 } = some (Value.int IntKind.i64 n13)) ∧
        (∀ k33 : Nat,
          ∀ w34 : World,
          (New w30 (Obj.map #[] 0) k33 w34) →
          ∀ k34 : Nat,
          ∀ w35 : World,
          (New w34 (Obj.cells #[Value.int IntKind.i64 0] 3) k34 w35) →
          (∃ v36 : Value,
            w35.cell? { block := k29, off := 0 } = some v36) ∧
          (w35.frozen? { block := k29, off := 0 } = false) ∧
          (∃ v37 : Value,
            (setCells w35 { block := k29, off := 0 } [Value.int IntKind.i64 n1] 0).cell? { block := k34, off := 0 } = some v37) ∧
          ((setCells w35 { block := k29, off := 0 } [Value.int IntKind.i64 n1] 0).frozen? { block := k34, off := 0 } = false) ∧
          I1 [Value.map (some k33), Value.pointer (some { block := k29, off := 0 }), Value.pointer (some { block := k34, off := 0 })] (setCells (setCells w35 { block := k29, off := 0 } [Value.int IntKind.i64 n1] 0) { block := k34, off := 0 } [Value.int IntKind.i64 (IntKind.i64.wrap (n13 + 2))] 0)) ∧
        ∀ k35 : Nat,
        ∀ w36 : World,
        (New w30 (Obj.cells #[Value.int IntKind.i64 0] 3) k35 w36) →
        ∀ k36 : Nat,
        ∀ w37 : World,
        (New w36 (Obj.map #[] 0) k36 w37) →
        (∃ v38 : Value,
          w37.cell? { block := k29, off := 0 } = some v38) ∧
        (w37.frozen? { block := k29, off := 0 } = false) ∧
        (∃ v39 : Value,
          (setCells w37 { block := k29, off := 0 } [Value.int IntKind.i64 n1] 0).cell? { block := k35, off := 0 } = some v39) ∧
        ((setCells w37 { block := k29, off := 0 } [Value.int IntKind.i64 n1] 0).frozen? { block := k35, off := 0 } = false) ∧
        I1 [Value.map (some k36), Value.pointer (some { block := k29, off := 0 }), Value.pointer (some { block := k35, off := 0 })] (setCells (setCells w37 { block := k29, off := 0 } [Value.int IntKind.i64 n1] 0) { block := k35, off := 0 } [Value.int IntKind.i64 (IntKind.i64.wrap (n13 + 2))] 0)) ∧
      ∀ k37 : Nat,
      ∀ w38 : World,
      (New w30 (Obj.cells #[Value.int IntKind.i64 0] 3) k37 w38) →
      (∀ k38 : Nat,
        ∀ w39 : World,
        (New w38 (Obj.map #[] 0) k38 w39) →
        (∃ n14 : Int,
          (w39.cell? { block := k1, off := 0 } = some (Value.int IntKind.i64 n14)) ∧
          (∃ v40 : Value,
            w39.cell? { block := k29, off := 0 } = some v40) ∧
          (w39.frozen? { block := k29, off := 0 } = false) ∧
          (∃ v41 : Value,
            (setCells w39 { block := k29, off := 0 } [Value.int IntKind.i64 n1] 0).cell? { block := k37, off := 0 } = some v41) ∧
          ((setCells w39 { block := k29, off := 0 } [Value.int IntKind.i64 n1] 0).frozen? { block := k37, off := 0 } = false) ∧
          I1 [Value.map (some k38), Value.pointer (some { block := k29, off := 0 }), Value.pointer (some { block := k37, off := 0 })] (setCells (setCells w39 { block := k29, off := 0 } [Value.int IntKind.i64 n1] 0) { block := k37, off := 0 } [Value.int IntKind.i64 (IntKind.i64.wrap (n14 + 2))] 0)) ∧
        (∃ v42 : Value,
          w39.cell? { block := k29, off := 0 } = some v42) ∧
        (w39.frozen? { block := k29, off := 0 } = false) ∧
        ∃ n15 : Int,
        ((setCells w39 { block := k29, off := 0 } [Value.int IntKind.i64 n1] 0).cell? { block := k1, off := 0 } = some (Value.int IntKind.i64 n15)) ∧
        (∃ v43 : Value,
          (setCells w39 { block := k29, off := 0 } [Value.int IntKind.i64 n1] 0).cell? { block := k37, off := 0 } = some v43) ∧
        ((setCells w39 { block := k29, off := 0 } [Value.int IntKind.i64 n1] 0).frozen? { block := k37, off := 0 } = false) ∧
        I1 [Value.map (some k38), Value.pointer (some { block := k29, off := 0 }), Value.pointer (some { block := k37, off := 0 })] (setCells (setCells w39 { block := k29, off := 0 } [Value.int IntKind.i64 n1] 0) { block := k37, off := 0 } [Value.int IntKind.i64 (IntKind.i64.wrap (n15 + 2))] 0)) ∧
      ∃ n16 : Int,
      (w38.cell? { block := k1, off := 0 } = some (Value.int IntKind.i64 n16)) ∧
      ∀ k39 : Nat,
      ∀ w40 : World,
      (New w38 (Obj.map #[] 0) k39 w40) →
      (∃ v44 : Value,
        w40.cell? { block := k29, off := 0 } = some v44) ∧
      (w40.frozen? { block := k29, off := 0 } = false) ∧
      (∃ v45 : Value,
        (setCells w40 { block := k29, off := 0 } [Value.int IntKind.i64 n1] 0).cell? { block := k37, off := 0 } = some v45) ∧
      ((setCells w40 { block := k29, off := 0 } [Value.int IntKind.i64 n1] 0).frozen? { block := k37, off := 0 } = false) ∧
      I1 [Value.map (some k39), Value.pointer (some { block := k29, off := 0 }), Value.pointer (some { block := k37, off := 0 })] (setCells (setCells w40 { block := k29, off := 0 } [Value.int IntKind.i64 n1] 0) { block := k37, off := 0 } [Value.int IntKind.i64 (IntKind.i64.wrap (n16 + 2))] 0)) ∧
    ∀ k40 : Nat,
    ∀ w41 : World,
    (New ((setCells w3 { block := k2, off := 0 } [Value.pointer p1] 0).drew) (Obj.cells #[Value.int IntKind.i64 0] 3) k40 w41) →
    (∀ k41 : Nat,
      ∀ w42 : World,
      (New w41 (Obj.map #[] 0) k41 w42) →
      (∃ n17 : Int,
        (w42.cell? { block := k1, off := 0 } = some (Value.int IntKind.i64 n17)) ∧
        ∀ k42 : Nat,
        ∀ w43 : World,
        (New w42 (Obj.cells #[Value.int IntKind.i64 0] 3) k42 w43) →
        (∃ v46 : Value,
          w43.cell? { block := k42, off := 0 } = some v46) ∧
        (w43.frozen? { block := k42, off := 0 } = false) ∧
        (∃ v47 : Value,
          (setCells w43 { block := k42, off := 0 } [Value.int IntKind.i64 n1] 0).cell? { block := k40, off := 0 } = some v47) ∧
        ((setCells w43 { block := k42, off := 0 } [Value.int IntKind.i64 n1] 0).frozen? { block := k40, off := 0 } = false) ∧
        I1 [Value.map (some k41), Value.pointer (some { block := k42, off := 0 }), Value.pointer (some { block := k40, off := 0 })] (setCells (setCells w43 { block := k42, off := 0 } [Value.int IntKind.i64 n1] 0) { block := k40, off := 0 } [Value.int IntKind.i64 (IntKind.i64.wrap (n17 + 2))] 0)) ∧
      ∀ k43 : Nat,
      ∀ w44 : World,
      (New w42 (Obj.cells #[Value.int IntKind.i64 0] 3) k43 w44) →
      (∃ n18 : Int,
        (w44.cell? { block := k1, off := 0 } = some (Value.int IntKind.i64 n18)) ∧
        (∃ v48 : Value,
          w44.cell? { block := k43, off := 0 } = some v48) ∧
        (w44.frozen? { block := k43, off := 0 } = false) ∧
        (∃ v49 : Value,
          (setCells w44 { block := k43, off := 0 } [Value.int IntKind.i64 n1] 0).cell? { block := k40, off := 0 } = some v49) ∧
        ((setCells w44 { block := k43, off := 0 } [Value.int IntKind.i64 n1] 0).frozen? { block := k40, off := 0 } = false) ∧
        I1 [Value.map (some k41), Value.pointer (some { block := k43, off := 0 }), Value.pointer (some { block := k40, off := 0 })] (setCells (setCells w44 { block := k43, off := 0 } [Value.int IntKind.i64 n1] 0) { block := k40, off := 0 } [Value.int IntKind.i64 (IntKind.i64.wrap (n18 + 2))] 0)) ∧
      (∃ v50 : Value,
        w44.cell? { block := k43, off := 0 } = some v50) ∧
      (w44.frozen? { block := k43, off := 0 } = false) ∧
      ∃ n19 : Int,
      ((setCells w44 { block := k43, off := 0 } [Value.int IntKind.i64 n1] 0).cell? { block := k1, off := 0 } = some (Value.int IntKind.i64 n19)) ∧
      (∃ v51 : Value,
        (setCells w44 { block := k43, off := 0 } [Value.int IntKind.i64 n1] 0).cell? { block := k40, off := 0 } = some v51) ∧
      ((setCells w44 { block := k43, off := 0 } [Value.int IntKind.i64 n1] 0).frozen? { block := k40, off := 0 } = false) ∧
      I1 [Value.map (some k41), Value.pointer (some { block := k43, off := 0 }), Value.pointer (some { block := k40, off := 0 })] (setCells (setCells w44 { block := k43, off := 0 } [Value.int IntKind.i64 n1] 0) { block := k40, off := 0 } [Value.int IntKind.i64 (IntKind.i64.wrap (n19 + 2))] 0)) ∧
    (∃ n20 : Int,
      (w41.cell? { block := k1, off := 0 } = some (Value.int IntKind.i64 n20)) ∧
      (∀ k44 : Nat,
        ∀ w45 : World,
        (New w41 (Obj.map #[] 0) k44 w45) →
        ∀ k45 : Nat,
        ∀ w46 : World,
        (New w45 (Obj.cells #[Value.int IntKind.i64 0] 3) k45 w46) →
        (∃ v52 : Value,
          w46.cell? { block := k45, off := 0 } = some v52) ∧
        (w46.frozen? { block := k45, off := 0 } = false) ∧
        (∃ v53 : Value,
          (setCells w46 { block := k45, off := 0 } [Value.int IntKind.i64 n1] 0).cell? { block := k40, off := 0 } = some v53) ∧
        ((setCells w46 { block := k45, off := 0 } [Value.int IntKind.i64 n1] 0).frozen? { block := k40, off := 0 } = false) ∧
        I1 [Value.map (some k44), Value.pointer (some { block := k45, off := 0 }), Value.pointer (some { block := k40, off := 0 })] (setCells (setCells w46 { block := k45, off := 0 } [Value.int IntKind.i64 n1] 0) { block := k40, off := 0 } [Value.int IntKind.i64 (IntKind.i64.wrap (n20 + 2))] 0)) ∧
      ∀ k46 : Nat,
      ∀ w47 : World,
      (New w41 (Obj.cells #[Value.int IntKind.i64 0] 3) k46 w47) →
      ∀ k47 : Nat,
      ∀ w48 : World,
      (New w47 (Obj.map #[] 0) k47 w48) →
      (∃ v54 : Value,
        w48.cell? { block := k46, off := 0 } = some v54) ∧
      (w48.frozen? { block := k46, off := 0 } = false) ∧
      (∃ v55 : Value,
        (setCells w48 { block := k46, off := 0 } [Value.int IntKind.i64 n1] 0).cell? { block := k40, off := 0 } = some v55) ∧
      ((setCells w48 { block := k46, off := 0 } [Value.int IntKind.i64 n1] 0).frozen? { block := k40, off := 0 } = false) ∧
      I1 [Value.map (some k47), Value.pointer (some { block := k46, off := 0 }), Value.pointer (some { block := k40, off := 0 })] (setCells (setCells w48 { block := k46, off := 0 } [Value.int IntKind.i64 n1] 0) { block := k40, off := 0 } [Value.int IntKind.i64 (IntKind.i64.wrap (n20 + 2))] 0)) ∧
    ∀ k48 : Nat,
    ∀ w49 : World,
    (New w41 (Obj.cells #[Value.int IntKind.i64 0] 3) k48 w49) →
    (∀ k49 : Nat,
      ∀ w50 : World,
      (New w49 (Obj.map #[] 0) k49 w50) →
      (∃ n21 : Int,
        (w50.cell? { block := k1, off := 0 } = some (Value.int IntKind.i64 n21)) ∧
        (∃ v56 : Value,
          w50.cell? { block := k48, off := 0 } = some v56) ∧
        (w50.frozen? { block := k48, off := 0 } = false) ∧
        (∃ v57 : Value,
          (setCells w50 { block := k48, off := 0 } [Value.int IntKind.i64 n1] 0).cell? { block := k40, off := 0 } = some v57) ∧
        ((setCells w50 { block := k48, off := 0 } [Value.int IntKind.i64 n1] 0).frozen? { block := k40, off := 0 } = false) ∧
        I1 [Value.map (some k49), Value.pointer (some { block := k48, off := 0 }), Value.pointer (some { block := k40, off := 0 })] (setCells (setCells w50 { block := k48, off := 0 } [Value.int IntKind.i64 n1] 0) { block := k40, off := 0 } [Value.int IntKind.i64 (IntKind.i64.wrap (n21 + 2))] 0)) ∧
      (∃ v58 : Value,
        w50.cell? { block := k48, off := 0 } = some v58) ∧
      (w50.frozen? { block := k48, off := 0 } = false) ∧
      ∃ n22 : Int,
      ((setCells w50 { block := k48, off := 0 } [Value.int IntKind.i64 n1] 0).cell? { block := k1, off := 0 } = some (Value.int IntKind.i64 n22)) ∧
      (∃ v59 : Value,
        (setCells w50 { block := k48, off := 0 } [Value.int IntKind.i64 n1] 0).cell? { block := k40, off := 0 } = some v59) ∧
      ((setCells w50 { block := k48, off := 0 } [Value.int IntKind.i64 n1] 0).frozen? { block := k40, off := 0 } = false) ∧
      I1 [Value.map (some k49), Value.pointer (some { block := k48, off := 0 }), Value.pointer (some { block := k40, off := 0 })] (setCells (setCells w50 { block := k48, off := 0 } [Value.int IntKind.i64 n1] 0) { block := k40, off := 0 } [Value.int IntKind.i64 (IntKind.i64.wrap (n22 + 2))] 0)) ∧
    ∃ n23 : Int,
    (w49.cell? { block := k1, off := 0 } = some (Value.int IntKind.i64 n23)) ∧
    ∀ k50 : Nat,
    ∀ w51 : World,
    (New w49 (Obj.map #[] 0) k50 w51) →
    (∃ v60 : Value,
      w51.cell? { block := k48, off := 0 } = some v60) ∧
    (w51.frozen? { block := k48, off := 0 } = false) ∧
    (∃ v61 : Value,
      (setCells w51 { block := k48, off := 0 } [Value.int IntKind.i64 n1] 0).cell? { block := k40, off := 0 } = some v61) ∧
    ((setCells w51 { block := k48, off := 0 } [Value.int IntKind.i64 n1] 0).frozen? { block := k40, off := 0 } = false) ∧
    I1 [Value.map (some k50), Value.pointer (some { block := k48, off := 0 }), Value.pointer (some { block := k40, off := 0 })] (setCells (setCells w51 { block := k48, off := 0 } [Value.int IntKind.i64 n1] 0) { block := k40, off := 0 } [Value.int IntKind.i64 (IntKind.i64.wrap (n23 + 2))] 0)) ∧
  ∀ p2 : Option Nat,
  ∀ p3 : Option Addr,
  ∀ p4 : Option Addr,
  ∀ w52 : World,
  (I1 [Value.map p2, Value.pointer p3, Value.pointer p4] w52) →
  ∃ p5 : Option Addr,
  (w52.cell? { block := k2, off := 0 } = some (Value.pointer p5)) ∧
  ∃ n24 : Int,
  (w52.cell? { block := k1, off := 0 } = some (Value.int IntKind.i64 n24)) ∧
  nn (p3) fun a1 =>
  ∃ n25 : Int,
  (w52.cell? a1 = some (Value.int IntKind.i64 n25)) ∧
  Calls P F.bits_Writer_Put #[Value.pointer p5, Value.int IntKind.u32 (IntKind.u32.wrap n24), Value.int IntKind.i64 n25] w52 fun e2 w53 =>
  ∃ n26 : Int,
  (e2 = Ending.returned (Value.int IntKind.i64 n26)) ∧
  ∃ I2 : List Value → World → Prop,
  ∃ m1 : List Value → World → Nat,
  (I2 [Value.map p2, Value.int IntKind.i64 (-1), Value.bool false, Value.int IntKind.i64 0] w53) ∧
  ∀ p6 : Option Nat,
  ∀ n27 : Int,
  ∀ c2 : Bool,
  ∀ n28 : Int,
  ∀ w54 : World,
  (I2 [Value.map p6, Value.int IntKind.i64 n27, Value.bool c2, Value.int IntKind.i64 n28] w54) →
  brB (decide (n28 < (↑sl1 : Int)))
    (∃ I3 : List Value → World → Prop,
    (idx (sa1) (sl1) (n28) (1) fun a2 =>
      ∃ n29 : Int,
      (w54.cell? a2 = some (Value.int IntKind.u8 n29)) ∧
      brB (decide (n27 < 0))
        (I3 [Value.map p6, Value.int IntKind.i64 (IntKind.i64.wrap n29), Value.bool c2] w54)
        (mapIn (Kd.agg [IntKind.i64, IntKind.u8]) (w54) (Value.map p6) fun l1 =>
        ∃ n30 : Int,
        ∃ c3 : Bool,
        (mgot l1 (Value.agg #[Value.int IntKind.i64 n27, Value.int IntKind.u8 n29]) (Value.int IntKind.i64 0) = (Value.int IntKind.i64 n30, c3)) ∧
        brB (c3)
          (I3 [Value.map p6, Value.int IntKind.i64 n30, Value.bool c2] w54)
          (Calls P F.lzw_kind_pack_fn1 #[Value.int IntKind.i64 n27, Value.bool c2, Value.pointer (some { block := k2, off := 0 }), Value.pointer p3, Value.pointer p4, Value.pointer (some { block := k1, off := 0 })] w54 fun e3 w55 =>
          (e3 = Ending.returned (Value.tuple #[])) ∧
          nn (p4) fun a3 =>
          ∃ n31 : Int,
          (w55.cell? a3 = some (Value.int IntKind.i64 n31)) ∧
          mapTo (Kd.agg [IntKind.i64, IntKind.u8]) (w55) (Value.map p6) fun b1 l2 =>
          ∀ w56 : World,
          (Put b1 w55 w56) →
          (Mp (Kd.agg [IntKind.i64, IntKind.u8]) w56 b1 (mput (Value.agg #[Value.int IntKind.i64 n27, Value.int IntKind.u8 n29]) (Value.int IntKind.i64 n31) l2)) →
          nn (p4) fun a4 =>
          ∃ n32 : Int,
          (w56.cell? a4 = some (Value.int IntKind.i64 n32)) ∧
          brB (decide (n32 ≥ 4090))
            (∃ p7 : Option Addr,
            (w56.cell? { block := k2, off := 0 } = some (Value.pointer p7)) ∧
            ∃ n33 : Int,
            (w56.cell? { block := k1, off := 0 } = some (Value.int IntKind.i64 n33)) ∧
            nn (p3) fun a5 =>
            ∃ n34 : Int,
            (w56.cell? a5 = some (Value.int IntKind.i64 n34)) ∧
            Calls P F.bits_Writer_Put #[Value.pointer p7, Value.int IntKind.u32 (IntKind.u32.wrap n33), Value.int IntKind.i64 n34] w56 fun e4 w57 =>
            ∃ n35 : Int,
            (e4 = Ending.returned (Value.int IntKind.i64 n35)) ∧
            ∃ n36 : Int,
            (w57.drew.cell? { block := k1, off := 1 } = some (Value.int IntKind.i64 n36)) ∧
            (∀ k51 : Nat,
              ∀ w58 : World,
              (New (w57.drew) (Obj.map #[] 0) k51 w58) →
              (∃ n37 : Int,
                (w58.cell? { block := k1, off := 0 } = some (Value.int IntKind.i64 n37)) ∧
                nn (p3) fun a6 =>
                (∃ v62 : Value,
                  w58.cell? a6 = some v62) ∧
                (w58.frozen? a6 = false) ∧
                nn (p4) fun a7 =>
                (∃ v63 : Value,
                  (setCells w58 a6 [Value.int IntKind.i64 n36] 0).cell? a7 = some v63) ∧
                ((setCells w58 a6 [Value.int IntKind.i64 n36] 0).frozen? a7 = false) ∧
                I3 [Value.map (some k51), Value.int IntKind.i64 (IntKind.i64.wrap n29), Value.bool false] (setCells (setCells w58 a6 [Value.int IntKind.i64 n36] 0) a7 [Value.int IntKind.i64 (IntKind.i64.wrap (n37 + 2))] 0)) ∧
              nn (p3) fun a8 =>
              (∃ v64 : Value,
                w58.cell? a8 = some v64) ∧
              (w58.frozen? a8 = false) ∧
              ∃ n38 : Int,
              ((setCells w58 a8 [Value.int IntKind.i64 n36] 0).cell? { block := k1, off := 0 } = some (Value.int IntKind.i64 n38)) ∧
              nn (p4) fun a9 =>
              (∃ v65 : Value,
                (setCells w58 a8 [Value.int IntKind.i64 n36] 0).cell? a9 = some v65) ∧
              ((setCells w58 a8 [Value.int IntKind.i64 n36] 0).frozen? a9 = false) ∧
              I3 [Value.map (some k51), Value.int IntKind.i64 (IntKind.i64.wrap n29), Value.bool false] (setCells (setCells w58 a8 [Value.int IntKind.i64 n36] 0) a9 [Value.int IntKind.i64 (IntKind.i64.wrap (n38 + 2))] 0)) ∧
            ∃ n39 : Int,
            (w57.drew.cell? { block := k1, off := 0 } = some (Value.int IntKind.i64 n39)) ∧
            ∀ k52 : Nat,
            ∀ w59 : World,
            (New (w57.drew) (Obj.map #[] 0) k52 w59) →
            nn (p3) fun a10 =>
            (∃ v66 : Value,
              w59.cell? a10 = some v66) ∧
            (w59.frozen? a10 = false) ∧
            nn (p4) fun a11 =>
            (∃ v67 : Value,
              (setCells w59 a10 [Value.int IntKind.i64 n36] 0).cell? a11 = some v67) ∧
            ((setCells w59 a10 [Value.int IntKind.i64 n36] 0).frozen? a11 = false) ∧
            I3 [Value.map (some k52), Value.int IntKind.i64 (IntKind.i64.wrap n29), Value.bool false] (setCells (setCells w59 a10 [Value.int IntKind.i64 n36] 0) a11 [Value.int IntKind.i64 (IntKind.i64.wrap (n39 + 2))] 0))
            (I3 [Value.map p6, Value.int IntKind.i64 (IntKind.i64.wrap n29), Value.bool true] w56)))) ∧
    ∀ p8 : Option Nat,
    ∀ n40 : Int,
    ∀ c4 : Bool,
    ∀ w60 : World,
    (I3 [Value.map p8, Value.int IntKind.i64 n40, Value.bool c4] w60) →
    (I2 [Value.map p8, Value.int IntKind.i64 n40, Value.bool c4, Value.int IntKind.i64 (IntKind.i64.wrap (n28 + 1))] w60) ∧
    m1 [Value.map p8, Value.int IntKind.i64 n40, Value.bool c4, Value.int IntKind.i64 (IntKind.i64.wrap (n28 + 1))] w60 < m1 [Value.map p6, Value.int IntKind.i64 n27, Value.bool c2, Value.int IntKind.i64 n28] w54)
    (∃ I4 : List Value → World → Prop,
    (brB (decide (n27 ≥ 0))
        (Calls P F.lzw_kind_pack_fn1 #[Value.int IntKind.i64 n27, Value.bool c2, Value.pointer (some { block := k2, off := 0 }), Value.pointer p3, Value.pointer p4, Value.pointer (some { block := k1, off := 0 })] w54 fun e5 w61 =>
        (e5 = Ending.returned (Value.tuple #[])) ∧
        I4 [] w61)
        (I4 [] w54)) ∧
    ∀ w62 : World,
    (I4 [] w62) →
    ∃ p9 : Option Addr,
    (w62.cell? { block := k2, off := 0 } = some (Value.pointer p9)) ∧
    ∃ n41 : Int,
    (w62.cell? { block := k1, off := 0 } = some (Value.int IntKind.i64 n41)) ∧
    nn (p3) fun a12 =>
    ∃ n42 : Int,
    (w62.cell? a12 = some (Value.int IntKind.i64 n42)) ∧
    Calls P F.bits_Writer_Put #[Value.pointer p9, Value.int IntKind.u32 (IntKind.u32.wrap (IntKind.i64.wrap (n41 + 1))), Value.int IntKind.i64 n42] w62 fun e6 w63 =>
    ∃ n43 : Int,
    (e6 = Ending.returned (Value.int IntKind.i64 n43)) ∧
    ∃ p10 : Option Addr,
    (w63.cell? { block := k2, off := 0 } = some (Value.pointer p10)) ∧
    Calls P F.bits_Writer_Bytes #[Value.pointer p10] w63 fun e7 w64 =>
    ∃ p11 : Option Addr,
    ∃ k53 : Nat,
    ∃ k54 : Nat,
    (e7 = Ending.returned (Value.slice p11 k53 k54)) ∧
    R (Ending.returned (Value.slice p11 k53 k54)) w64)
theorem calls_lzw_kind_pack (x1 : Int) (x2 : Int) (b1 : Bool) (x3 : Int) (sa1 : Option Addr) (sl1 sc1 : Nat) (w : World) (R : Ending → World → Prop) (h : vc_lzw_kind_pack x1 x2 b1 x3 sa1 sl1 sc1 w R) : Calls P F.lzw_kind_pack #[.agg #[.int .i64 x1, .int .i64 x2, .bool b1, .int .i64 x3], .slice sa1 sl1 sc1] w R :=
  calls_of_vc (fn := Try.f27) (ac := ac_lzw_kind_pack) (args := [.agg #[.int .i64 x1, .int .i64 x2, .bool b1, .int .i64 x3], .slice sa1 sl1 sc1]) mixed Try.func27 (by kernel_rfl) (cast (by unfold vc_lzw_kind_pack FnVc; kernel_rfl) h)
/-- darkroom/lzw.Pack$1 -/
def vc_lzw_Pack_fn1 (fr1 : Addr) (fr2 : Addr) (w : World) (R : Ending → World → Prop) : Prop :=
  ∃ I1 : List Value → World → Prop,
  ∃ m1 : List Value → World → Nat,
  (I1 [] w) ∧
  ∀ w1 : World,
  (I1 [] w1) →
  ∃ p1 : Option Addr,
  ∃ k1 : Nat,
  ∃ k2 : Nat,
  (w1.cell? fr1 = some (Value.slice p1 k1 k2)) ∧
  brB (decide ((↑k1 : Int) > 0))
    (∃ I2 : List Value → World → Prop,
    (∃ p2 : Option Addr,
      ∃ k3 : Nat,
      ∃ k4 : Nat,
      (w1.cell? fr1 = some (Value.slice p2 k3 k4)) ∧
      ∃ p3 : Option Addr,
      ∃ k5 : Nat,
      ∃ k6 : Nat,
      (w1.drew.cell? fr2 = some (Value.slice p3 k5 k6)) ∧
      (∀ k7 : Nat,
        (w1.drew.heap.size ≤ k7) →
        (∀ w2 : World,
          (Locl ([k7]) (w1.drew) w2) →
          appVC (w2) ([(13, k7, [Value.int IntKind.u8 (IntKind.u8.wrap (IntKind.i64.wrap (min (↑k3 : Int) 128 - 1)))])]) (p3) (k5) (k6) (1) (1) (1) (5) ([Value.int IntKind.u8 0]) ([Value.int IntKind.u8 (IntKind.u8.wrap (IntKind.i64.wrap (min (↑k3 : Int) 128 - 1)))]) fun p4 k8 k9 w3 =>
          ∃ p5 : Option Addr,
          ∃ k10 : Nat,
          ∃ k11 : Nat,
          (w3.cell? fr1 = some (Value.slice p5 k10 k11)) ∧
          slcc (p5) (k11) (0) (min (↑k3 : Int) 128) (1) fun p6 k12 k13 =>
          ∃ l1 : List Value,
          (l1.length = k12 * 1) ∧
          (oneAll l1 = true) ∧
          (CellsAre w3 p6 l1) ∧
          appVC (w3) ([(13, k7, [Value.int IntKind.u8 (IntKind.u8.wrap (IntKind.i64.wrap (min (↑k3 : Int) 128 - 1)))])]) (p4) (k8) (k9) (k12) (1) (1) (5) ([Value.int IntKind.u8 0]) (l1) fun p7 k14 k15 w4 =>
          (∃ v1 : Value,
            w4.cell? fr2 = some v1) ∧
          (w4.frozen? fr2 = false) ∧
          (¬fr2.block ∈ [k7]) ∧
          ∃ p8 : Option Addr,
          ∃ k16 : Nat,
          ∃ k17 : Nat,
          ((setCells w4 fr2 [Value.slice p7 k14 k15] 0).cell? fr1 = some (Value.slice p8 k16 k17)) ∧
          slcc (p8) (k17) (min (↑k3 : Int) 128) ((↑k16 : Int)) (1) fun p9 k18 k19 =>
          (∃ v2 : Value,
            (setCells w4 fr2 [Value.slice p7 k14 k15] 0).cell? fr1 = some v2) ∧
          ((setCells w4 fr2 [Value.slice p7 k14 k15] 0).frozen? fr1 = false) ∧
          (¬fr1.block ∈ [k7]) ∧
          I2 [] (setCells (setCells w4 fr2 [Value.slice p7 k14 k15] 0) fr1 [Value.slice p9 k18 k19] 0)) ∧
        ∀ w5 : World,
        (Locl ([k7]) (w1.drew) w5) →
        ∃ p10 : Option Addr,
        ∃ k20 : Nat,
        ∃ k21 : Nat,
        (w5.cell? fr1 = some (Value.slice p10 k20 k21)) ∧
        slcc (p10) (k21) (0) (min (↑k3 : Int) 128) (1) fun p11 k22 k23 =>
        appVC (w5) ([(13, k7, [Value.int IntKind.u8 (IntKind.u8.wrap (IntKind.i64.wrap (min (↑k3 : Int) 128 - 1)))])]) (p3) (k5) (k6) (1) (1) (1) (5) ([Value.int IntKind.u8 0]) ([Value.int IntKind.u8 (IntKind.u8.wrap (IntKind.i64.wrap (min (↑k3 : Int) 128 - 1)))]) fun p12 k24 k25 w6 =>
        ∃ l2 : List Value,
        (l2.length = k22 * 1) ∧
        (oneAll l2 = true) ∧
        (CellsAre w6 p11 l2) ∧
        appVC (w6) ([(13, k7, [Value.int IntKind.u8 (IntKind.u8.wrap (IntKind.i64.wrap (min (↑k3 : Int) 128 - 1)))])]) (p12) (k24) (k25) (k22) (1) (1) (5) ([Value.int IntKind.u8 0]) (l2) fun p13 k26 k27 w7 =>
        (∃ v3 : Value,
          w7.cell? fr2 = some v3) ∧
        (w7.frozen? fr2 = false) ∧
        (¬fr2.block ∈ [k7]) ∧
        ∃ p14 : Option Addr,
        ∃ k28 : Nat,
        ∃ k29 : Nat,
        ((setCells w7 fr2 [Value.slice p13 k26 k27] 0).cell? fr1 = some (Value.slice p14 k28 k29)) ∧
        slcc (p14) (k29) (min (↑k3 : Int) 128) ((↑k28 : Int)) (1) fun p15 k30 k31 =>
        (∃ v4 : Value,
          (setCells w7 fr2 [Value.slice p13 k26 k27] 0).cell? fr1 = some v4) ∧
        ((setCells w7 fr2 [Value.slice p13 k26 k27] 0).frozen? fr1 = false) ∧
        (¬fr1.block ∈ [k7]) ∧
        I2 [] (setCells (setCells w7 fr2 [Value.slice p13 k26 k27] 0) fr1 [Value.slice p15 k30 k31] 0)) ∧
      ∃ p16 : Option Addr,
      ∃ k32 : Nat,
      ∃ k33 : Nat,
      (w1.drew.cell? fr1 = some (Value.slice p16 k32 k33)) ∧
      slcc (p16) (k33) (0) (min (↑k3 : Int) 128) (1) fun p17 k34 k35 =>
      ∀ k36 : Nat,
      (w1.drew.heap.size ≤ k36) →
      ∀ w8 : World,
      (Locl ([k36]) (w1.drew) w8) →
      appVC (w8) ([(13, k36, [Value.int IntKind.u8 (IntKind.u8.wrap (IntKind.i64.wrap (min (↑k3 : Int) 128 - 1)))])]) (p3) (k5) (k6) (1) (1) (1) (5) ([Value.int IntKind.u8 0]) ([Value.int IntKind.u8 (IntKind.u8.wrap (IntKind.i64.wrap (min (↑k3 : Int) 128 - 1)))]) fun p18 k37 k38 w9 =>
      ∃ l3 : List Value,
      (l3.length = k34 * 1) ∧
      (oneAll l3 = true) ∧
      (CellsAre w9 p17 l3) ∧
      appVC (w9) ([(13, k36, [Value.int IntKind.u8 (IntKind.u8.wrap (IntKind.i64.wrap (min (↑k3 : Int) 128 - 1)))])]) (p18) (k37) (k38) (k34) (1) (1) (5) ([Value.int IntKind.u8 0]) (l3) fun p19 k39 k40 w10 =>
      (∃ v5 : Value,
        w10.cell? fr2 = some v5) ∧
      (w10.frozen? fr2 = false) ∧
      (¬fr2.block ∈ [k36]) ∧
      ∃ p20 : Option Addr,
      ∃ k41 : Nat,
      ∃ k42 : Nat,
      ((setCells w10 fr2 [Value.slice p19 k39 k40] 0).cell? fr1 = some (Value.slice p20 k41 k42)) ∧
      slcc (p20) (k42) (min (↑k3 : Int) 128) ((↑k41 : Int)) (1) fun p21 k43 k44 =>
      (∃ v6 : Value,
        (setCells w10 fr2 [Value.slice p19 k39 k40] 0).cell? fr1 = some v6) ∧
      ((setCells w10 fr2 [Value.slice p19 k39 k40] 0).frozen? fr1 = false) ∧
      (¬fr1.block ∈ [k36]) ∧
      I2 [] (setCells (setCells w10 fr2 [Value.slice p19 k39 k40] 0) fr1 [Value.slice p21 k43 k44] 0)) ∧
    ∀ w11 : World,
    (I2 [] w11) →
    (I1 [] w11) ∧
    m1 [] w11 < m1 [] w1)
    (R (Ending.returned (Value.tuple #[])) w1)
theorem calls_lzw_Pack_fn1 (fr1 : Addr) (fr2 : Addr) (w : World) (R : Ending → World → Prop) (h : vc_lzw_Pack_fn1 fr1 fr2 w R) : Calls P F.lzw_Pack_fn1 #[.pointer (some fr1), .pointer (some fr2)] w R :=
  calls_of_vc (fn := Try.f28) (ac := ac_lzw_Pack_fn1) (args := [.pointer (some fr1), .pointer (some fr2)]) mixed Try.func28 (by kernel_rfl) (cast (by unfold vc_lzw_Pack_fn1 FnVc; kernel_rfl) h)
/-- darkroom/lzw.runs[byte] -/
def vc_lzw_runs_byte (sa1 : Option Addr) (sl1 sc1 : Nat) (w : World) (R : Ending → World → Prop) : Prop :=
  ∀ k1 : Nat,
  ∀ w1 : World,
  (New w (Obj.cells #[Value.slice sa1 sl1 sc1] 22) k1 w1) →
  R (Ending.returned (Value.func (Fn.func 40) #[] #[Value.pointer (some { block := k1, off := 0 })])) w1
theorem calls_lzw_runs_byte (sa1 : Option Addr) (sl1 sc1 : Nat) (w : World) (R : Ending → World → Prop) (h : vc_lzw_runs_byte sa1 sl1 sc1 w R) : Calls P F.lzw_runs_byte #[.slice sa1 sl1 sc1] w R :=
  calls_of_vc (fn := Try.f29) (ac := ac_lzw_runs_byte) (args := [.slice sa1 sl1 sc1]) mixed Try.func29 (by kernel_rfl) (cast (by unfold vc_lzw_runs_byte FnVc; kernel_rfl) h)
/-- darkroom/bits.NewReader -/
def vc_bits_NewReader (sa1 : Option Addr) (sl1 sc1 : Nat) (b1 : Bool) (w : World) (R : Ending → World → Prop) : Prop :=
  Calls P F.slices_Clone_byte #[Value.slice sa1 sl1 sc1] w fun e1 w1 =>
  ∃ p1 : Option Addr,
  ∃ k1 : Nat,
  ∃ k2 : Nat,
  (e1 = Ending.returned (Value.slice p1 k1 k2)) ∧
  Calls P F.bits_order #[Value.bool b1] w1 fun e2 w2 =>
  ∃ y1 : FuncId,
  ∃ y2 : Array Value,
  ∃ y3 : Array Value,
  (e2 = Ending.returned (Value.func (Fn.func y1) y2 y3)) ∧
  ∀ k3 : Nat,
  ∀ w3 : World,
  (New w2 (Obj.cells #[Value.slice p1 k1 k2, Value.int IntKind.i64 0, Value.bool b1, Value.func (Fn.func y1) y2 y3] 78) k3 w3) →
  R (Ending.returned (Value.pointer (some { block := k3, off := 0 }))) w3
theorem calls_bits_NewReader (sa1 : Option Addr) (sl1 sc1 : Nat) (b1 : Bool) (w : World) (R : Ending → World → Prop) (h : vc_bits_NewReader sa1 sl1 sc1 b1 w R) : Calls P F.bits_NewReader #[.slice sa1 sl1 sc1, .bool b1] w R :=
  calls_of_vc (fn := Try.f30) (ac := ac_bits_NewReader) (args := [.slice sa1 sl1 sc1, .bool b1]) mixed Try.func30 (by kernel_rfl) (cast (by unfold vc_bits_NewReader FnVc; kernel_rfl) h)
/-- (darkroom/lzw.kind).entries -/
def vc_lzw_kind_entries (x1 : Int) (x2 : Int) (b1 : Bool) (x3 : Int) (w : World) (R : Ending → World → Prop) : Prop :=
  ∀ k1 : Nat,
  (w.heap.size ≤ k1) →
  ∀ w1 : World,
  (Locl ([k1]) w w1) →
  (0 ≤ IntKind.i64.wrap (x1 + 2)) ∧
  (IntKind.i64.wrap (x1 + 2) ≤ 4096) ∧
  ((98304 : Int) ≤ 281474976710656) ∧
  ((4096 : Int) < 4611686018427387904) ∧
  ∀ k2 : Nat,
  ∀ w2 : World,
  (New w1 (Obj.cells (mkCells [Value.int IntKind.i64 0, Value.int IntKind.u8 0, Value.int IntKind.u8 0, Value.int IntKind.i64 0] 4096) 55) k2 w2) →
  ∃ I1 : List Value → World → Prop,
  ∃ m1 : List Value → World → Nat,
  (I1 [Value.int IntKind.i64 0] w2) ∧
  ∀ n1 : Int,
  ∀ w3 : World,
  (I1 [Value.int IntKind.i64 n1] w3) →
  brB (decide (n1 < x1))
    (idx (some { block := k2, off := 0 }) ((IntKind.i64.wrap (x1 + 2)).toNat) (n1) (4) fun a1 =>
    (∃ v1 : Value,
      w3.cell? a1 = some v1) ∧
    (w3.frozen? a1 = false) ∧
    (∃ v2 : Value,
      w3.cell? (a1.add 1) = some v2) ∧
    (w3.frozen? (a1.add 1) = false) ∧
    (∃ v3 : Value,
      w3.cell? (a1.add 2) = some v3) ∧
    (w3.frozen? (a1.add 2) = false) ∧
    (∃ v4 : Value,
      w3.cell? (a1.add 3) = some v4) ∧
    (w3.frozen? (a1.add 3) = false) ∧
    (¬a1.block ∈ [k1]) ∧
    (I1 [Value.int IntKind.i64 (IntKind.i64.wrap (n1 + 1))] (setCells w3 a1 [Value.int IntKind.i64 (-1), Value.int IntKind.u8 (IntKind.u8.wrap n1), Value.int IntKind.u8 (IntKind.u8.wrap n1), Value.int IntKind.i64 1] 0)) ∧
    m1 [Value.int IntKind.i64 (IntKind.i64.wrap (n1 + 1))] (setCells w3 a1 [Value.int IntKind.i64 (-1), Value.int IntKind.u8 (IntKind.u8.wrap n1), Value.int IntKind.u8 (IntKind.u8.wrap n1), Value.int IntKind.i64 1] 0) < m1 [Value.int IntKind.i64 n1] w3)
    (R (Ending.returned (Value.slice (some { block := k2, off := 0 }) (IntKind.i64.wrap (x1 + 2)).toNat 4096)) w3)
theorem calls_lzw_kind_entries (x1 : Int) (x2 : Int) (b1 : Bool) (x3 : Int) (w : World) (R : Ending → World → Prop) (h : vc_lzw_kind_entries x1 x2 b1 x3 w R) : Calls P F.lzw_kind_entries #[.agg #[.int .i64 x1, .int .i64 x2, .bool b1, .int .i64 x3]] w R :=
  calls_of_vc (fn := Try.f31) (ac := ac_lzw_kind_entries) (args := [.agg #[.int .i64 x1, .int .i64 x2, .bool b1, .int .i64 x3]]) mixed Try.func31 (by kernel_rfl) (cast (by unfold vc_lzw_kind_entries FnVc; kernel_rfl) h)
/-- (*darkroom/bits.Reader).Take -/
def vc_bits_Reader_Take (q1 : Option Addr) (x1 : Int) (w : World) (R : Ending → World → Prop) : Prop :=
  brB (q1.isNone)
    (R (Ending.returned (Value.tuple #[Value.int IntKind.u32 0, Value.int IntKind.i64 1])) w)
    (brB (decide (x1 < 0) || decide (x1 > 32))
      (R (Ending.returned (Value.tuple #[Value.int IntKind.u32 0, Value.int IntKind.i64 2])) w)
      (Calls P F.bits_Reader_Left #[Value.pointer q1] w fun e1 w1 =>
      ∃ n1 : Int,
      (e1 = Ending.returned (Value.int IntKind.i64 n1)) ∧
      brB (decide (x1 > n1))
        (R (Ending.returned (Value.tuple #[Value.int IntKind.u32 0, Value.int IntKind.i64 5])) w1)
        (∃ I1 : List Value → World → Prop,
        ∃ m1 : List Value → World → Nat,
        (I1 [Value.int IntKind.u32 0, Value.int IntKind.i64 0] w1) ∧
        ∀ n2 : Int,
        ∀ n3 : Int,
        ∀ w2 : World,
        (I1 [Value.int IntKind.u32 n2, Value.int IntKind.i64 n3] w2) →
        brB (decide (n3 < x1))
          (∃ I2 : List Value → World → Prop,
          (nn (q1) fun a1 =>
            ∃ p1 : Option Addr,
            ∃ k1 : Nat,
            ∃ k2 : Nat,
            (w2.drew.cell? a1 = some (Value.slice p1 k1 k2)) ∧
            nn (q1) fun a2 =>
            ∃ n4 : Int,
            (w2.drew.cell? (a2.add 1) = some (Value.int IntKind.i64 n4)) ∧
            idx (p1) (k1) (divZ BinOp.quo IntKind.i64 n4 8) (1) fun a3 =>
            ∃ n5 : Int,
            (w2.drew.cell? a3 = some (Value.int IntKind.u8 n5)) ∧
            nn (q1) fun a4 =>
            ∃ y1 : FuncId,
            ∃ y2 : Array Value,
            ∃ y3 : Array Value,
            (w2.drew.cell? (a4.add 3) = some (Value.func (Fn.func y1) y2 y3)) ∧
            nn (q1) fun a5 =>
            ∃ n6 : Int,
            (w2.drew.cell? (a5.add 1) = some (Value.int IntKind.i64 n6)) ∧
            callV P (Value.func (Fn.func y1) y2 y3) [Value.int IntKind.i64 n6] (w2.drew) fun e2 w3 =>
            ∃ n7 : Int,
            (e2 = Ending.returned (Value.int IntKind.u64 n7)) ∧
            (Keeps (w2.drew) w3) ∧
            (0 ≤ n7) ∧
            nn (q1) fun a6 =>
            ∃ n8 : Int,
            (w3.cell? (a6.add 1) = some (Value.int IntKind.i64 n8)) ∧
            nn (q1) fun a7 =>
            (∃ v1 : Value,
              w3.cell? (a7.add 1) = some v1) ∧
            (w3.frozen? (a7.add 1) = false) ∧
            nn (q1) fun a8 =>
            ∃ c1 : Bool,
            ((setCells w3 (a7.add 1) [Value.int IntKind.i64 (IntKind.i64.wrap (n8 + 1))] 0).cell? (a8.add 2) = some (Value.bool c1)) ∧
            brB (c1)
              (I2 [Value.int IntKind.u32 (IntKind.u32.wrap (bitsZ BinOp.or IntKind.u32 (shiftZ BinOp.shl IntKind.u32 n2 1) (IntKind.u32.wrap (bitsZ BinOp.and IntKind.u32 (IntKind.u32.wrap (shiftZ BinOp.shr IntKind.u8 n5 n7)) 1))))] (setCells w3 (a7.add 1) [Value.int IntKind.i64 (IntKind.i64.wrap (n8 + 1))] 0))
              ((0 ≤ n3) ∧
              I2 [Value.int IntKind.u32 (IntKind.u32.wrap (bitsZ BinOp.or IntKind.u32 n2 (shiftZ BinOp.shl IntKind.u32 (IntKind.u32.wrap (bitsZ BinOp.and IntKind.u32 (IntKind.u32.wrap (shiftZ BinOp.shr IntKind.u8 n5 n7)) 1)) n3)))] (setCells w3 (a7.add 1) [Value.int IntKind.i64 (IntKind.i64.wrap (n8 + 1))] 0))) ∧
          ∀ n9 : Int,
          ∀ w4 : World,
          (I2 [Value.int IntKind.u32 n9] w4) →
          (I1 [Value.int IntKind.u32 n9, Value.int IntKind.i64 (IntKind.i64.wrap (n3 + 1))] w4) ∧
          m1 [Value.int IntKind.u32 n9, Value.int IntKind.i64 (IntKind.i64.wrap (n3 + 1))] w4 < m1 [Value.int IntKind.u32 n2, Value.int IntKind.i64 n3] w2)
          (R (Ending.returned (Value.tuple #[Value.int IntKind.u32 n2, Value.int IntKind.i64 0])) w2))))
theorem calls_bits_Reader_Take (q1 : Option Addr) (x1 : Int) (w : World) (R : Ending → World → Prop) (h : vc_bits_Reader_Take q1 x1 w R) : Calls P F.bits_Reader_Take #[.pointer q1, .int .i64 x1] w R :=
  calls_of_vc (fn := Try.f32) (ac := ac_bits_Reader_Take) (args := [.pointer q1, .int .i64 x1]) mixed Try.func32 (by kernel_rfl) (cast (by unfold vc_bits_Reader_Take FnVc; kernel_rfl) h)
/-- darkroom/darkroomref01.Take -/
def vc_ref01_Take (sa1 : Option Addr) (sl1 sc1 : Nat) (b1 : Bool) (x1 : Int) (x2 : Int) (w : World) (R : Ending → World → Prop) : Prop :=
  ∀ k1 : Nat,
  (w.heap.size ≤ k1) →
  ∀ k2 : Nat,
  (w.heap.size ≤ k2) →
  brB (decide (x2 < 0) || decide (x2 > 32))
    (∀ w1 : World,
    (Locl ([k2, k1]) w w1) →
    R (Ending.returned (Value.tuple #[Value.agg #[Value.slice sa1 sl1 sc1, Value.bool b1, Value.int IntKind.i64 x1], Value.int IntKind.u32 0, Value.int IntKind.i64 2])) w1)
    (∀ w2 : World,
    (Locl ([k2, k1]) w w2) →
    Calls P F.ref01_Left #[Value.agg #[Value.slice sa1 sl1 sc1, Value.bool b1, Value.int IntKind.i64 x1]] w2 fun e1 w3 =>
    ∃ n1 : Int,
    (e1 = Ending.returned (Value.int IntKind.i64 n1)) ∧
    (Keep ([k2, k1]) w2 w3) ∧
    brB (decide (x2 > n1))
      (∀ w4 : World,
      (Locl ([k2, k1]) w3 w4) →
      R (Ending.returned (Value.tuple #[Value.agg #[Value.slice sa1 sl1 sc1, Value.bool b1, Value.int IntKind.i64 x1], Value.int IntKind.u32 0, Value.int IntKind.i64 5])) w4)
      (∃ I1 : List Value → World → Prop,
      ∃ m1 : List Value → World → Nat,
      (I1 [Value.int IntKind.u32 0, Value.int IntKind.i64 0] w3) ∧
      ∀ n2 : Int,
      ∀ n3 : Int,
      ∀ w5 : World,
      (I1 [Value.int IntKind.u32 n2, Value.int IntKind.i64 n3] w5) →
      brB (decide (n3 < x2))
        (∃ I2 : List Value → World → Prop,
        (Calls P F.ref01_bit #[Value.slice sa1 sl1 sc1, Value.bool b1, Value.int IntKind.i64 (IntKind.i64.wrap (x1 + n3))] w5 fun e2 w6 =>
          ∃ n4 : Int,
          (e2 = Ending.returned (Value.int IntKind.u32 n4)) ∧
          (Keep ([k2, k1]) w5 w6) ∧
          brB (b1)
            (I2 [Value.int IntKind.u32 (IntKind.u32.wrap (IntKind.u32.wrap (2 * n2) + n4))] w6)
            ((0 ≤ IntKind.u64.wrap n3) ∧
            I2 [Value.int IntKind.u32 (IntKind.u32.wrap (n2 + shiftZ BinOp.shl IntKind.u32 n4 (IntKind.u64.wrap n3)))] w6)) ∧
        ∀ n5 : Int,
        ∀ w7 : World,
        (I2 [Value.int IntKind.u32 n5] w7) →
        (I1 [Value.int IntKind.u32 n5, Value.int IntKind.i64 (IntKind.i64.wrap (n3 + 1))] w7) ∧
        m1 [Value.int IntKind.u32 n5, Value.int IntKind.i64 (IntKind.i64.wrap (n3 + 1))] w7 < m1 [Value.int IntKind.u32 n2, Value.int IntKind.i64 n3] w5)
        (∀ w8 : World,
        (Locl ([k2, k1]) w5 w8) →
        R (Ending.returned (Value.tuple #[Value.agg #[Value.slice sa1 sl1 sc1, Value.bool b1, Value.int IntKind.i64 (IntKind.i64.wrap (x1 + x2))], Value.int IntKind.u32 n2, Value.int IntKind.i64 0])) w8)))
theorem calls_ref01_Take (sa1 : Option Addr) (sl1 sc1 : Nat) (b1 : Bool) (x1 : Int) (x2 : Int) (w : World) (R : Ending → World → Prop) (h : vc_ref01_Take sa1 sl1 sc1 b1 x1 x2 w R) : Calls P F.ref01_Take #[.agg #[.slice sa1 sl1 sc1, .bool b1, .int .i64 x1], .int .i64 x2] w R :=
  calls_of_vc (fn := Try.f33) (ac := ac_ref01_Take) (args := [.agg #[.slice sa1 sl1 sc1, .bool b1, .int .i64 x1], .int .i64 x2]) mixed Try.func33 (by kernel_rfl) (cast (by unfold vc_ref01_Take FnVc; kernel_rfl) h)
/-- darkroom/darkroomref06.size -/
def vc_ref06_size (x1 : Int) (sa1 : Option Addr) (sl1 sc1 : Nat) (sa2 : Option Addr) (sl2 sc2 : Nat) (sa3 : Option Addr) (sl3 sc3 : Nat) (x2 : Int) (w : World) (R : Ending → World → Prop) : Prop :=
  ∀ k1 : Nat,
  (w.heap.size ≤ k1) →
  brB (decide (x2 < x1))
    (∀ w1 : World,
    (Locl ([k1]) w w1) →
    R (Ending.returned (Value.int IntKind.i64 1)) w1)
    (idx (sa3) (sl3) (IntKind.i64.wrap (IntKind.i64.wrap (x2 - x1) - 2)) (1) fun a1 =>
    ∀ w2 : World,
    (Locl ([k1]) w w2) →
    ∃ n1 : Int,
    (w2.cell? a1 = some (Value.int IntKind.i64 n1)) ∧
    R (Ending.returned (Value.int IntKind.i64 n1)) w2)
theorem calls_ref06_size (x1 : Int) (sa1 : Option Addr) (sl1 sc1 : Nat) (sa2 : Option Addr) (sl2 sc2 : Nat) (sa3 : Option Addr) (sl3 sc3 : Nat) (x2 : Int) (w : World) (R : Ending → World → Prop) (h : vc_ref06_size x1 sa1 sl1 sc1 sa2 sl2 sc2 sa3 sl3 sc3 x2 w R) : Calls P F.ref06_size #[.agg #[.int .i64 x1, .slice sa1 sl1 sc1, .slice sa2 sl2 sc2, .slice sa3 sl3 sc3], .int .i64 x2] w R :=
  calls_of_vc (fn := Try.f34) (ac := ac_ref06_size) (args := [.agg #[.int .i64 x1, .slice sa1 sl1 sc1, .slice sa2 sl2 sc2, .slice sa3 sl3 sc3], .int .i64 x2]) mixed Try.func34 (by kernel_rfl) (cast (by unfold vc_ref06_size FnVc; kernel_rfl) h)
/-- darkroom/darkroomref06.text -/
def vc_ref06_text (x1 : Int) (sa1 : Option Addr) (sl1 sc1 : Nat) (sa2 : Option Addr) (sl2 sc2 : Nat) (sa3 : Option Addr) (sl3 sc3 : Nat) (x2 : Int) (w : World) (R : Ending → World → Prop) : Prop :=
  ∀ k1 : Nat,
  (w.heap.size ≤ k1) →
  ∀ w1 : World,
  (Locl ([k1]) w w1) →
  Calls P F.ref06_size #[Value.agg #[Value.int IntKind.i64 x1, Value.slice sa1 sl1 sc1, Value.slice sa2 sl2 sc2, Value.slice sa3 sl3 sc3], Value.int IntKind.i64 x2] w1 fun e1 w2 =>
  ∃ n1 : Int,
  (e1 = Ending.returned (Value.int IntKind.i64 n1)) ∧
  (Keep ([k1]) w1 w2) ∧
  (0 ≤ n1) ∧
  (n1 ≤ n1) ∧
  (n1 * 1 ≤ 281474976710656) ∧
  (n1 < 4611686018427387904) ∧
  ∀ k2 : Nat,
  ∀ w3 : World,
  (New w2 (Obj.cells (mkCells [Value.int IntKind.u8 0] n1.toNat) 5) k2 w3) →
  ∃ I1 : List Value → World → Prop,
  ∃ m1 : List Value → World → Nat,
  (I1 [Value.int IntKind.i64 x2, Value.int IntKind.i64 (IntKind.i64.wrap ((↑n1.toNat : Int) - 1))] w3) ∧
  ∀ n2 : Int,
  ∀ n3 : Int,
  ∀ w4 : World,
  (I1 [Value.int IntKind.i64 n2, Value.int IntKind.i64 n3] w4) →
  brB (decide (n3 ≥ 0))
    (∃ I2 : List Value → World → Prop,
    (brB (decide (n2 < x1))
        (idx (some { block := k2, off := 0 }) (n1.toNat) (n3) (1) fun a1 =>
        (∃ v1 : Value,
          w4.cell? a1 = some v1) ∧
        (w4.frozen? a1 = false) ∧
        (¬a1.block ∈ [k1]) ∧
        I2 [Value.int IntKind.i64 n2] (setCells w4 a1 [Value.int IntKind.u8 (IntKind.u8.wrap n2)] 0))
        (idx (sa2) (sl2) (IntKind.i64.wrap (IntKind.i64.wrap (n2 - x1) - 2)) (1) fun a2 =>
        ∃ n4 : Int,
        (w4.cell? a2 = some (Value.int IntKind.u8 n4)) ∧
        idx (some { block := k2, off := 0 }) (n1.toNat) (n3) (1) fun a3 =>
        (∃ v2 : Value,
          w4.cell? a3 = some v2) ∧
        (w4.frozen? a3 = false) ∧
        (¬a3.block ∈ [k1]) ∧
        idx (sa1) (sl1) (IntKind.i64.wrap (IntKind.i64.wrap (n2 - x1) - 2)) (1) fun a4 =>
        ∃ n5 : Int,
        ((setCells w4 a3 [Value.int IntKind.u8 n4] 0).cell? a4 = some (Value.int IntKind.i64 n5)) ∧
        I2 [Value.int IntKind.i64 n5] (setCells w4 a3 [Value.int IntKind.u8 n4] 0))) ∧
    ∀ n6 : Int,
    ∀ w5 : World,
    (I2 [Value.int IntKind.i64 n6] w5) →
    (I1 [Value.int IntKind.i64 n6, Value.int IntKind.i64 (IntKind.i64.wrap (n3 - 1))] w5) ∧
    m1 [Value.int IntKind.i64 n6, Value.int IntKind.i64 (IntKind.i64.wrap (n3 - 1))] w5 < m1 [Value.int IntKind.i64 n2, Value.int IntKind.i64 n3] w4)
    (R (Ending.returned (Value.slice (some { block := k2, off := 0 }) n1.toNat n1.toNat)) w4)
theorem calls_ref06_text (x1 : Int) (sa1 : Option Addr) (sl1 sc1 : Nat) (sa2 : Option Addr) (sl2 sc2 : Nat) (sa3 : Option Addr) (sl3 sc3 : Nat) (x2 : Int) (w : World) (R : Ending → World → Prop) (h : vc_ref06_text x1 sa1 sl1 sc1 sa2 sl2 sc2 sa3 sl3 sc3 x2 w R) : Calls P F.ref06_text #[.agg #[.int .i64 x1, .slice sa1 sl1 sc1, .slice sa2 sl2 sc2, .slice sa3 sl3 sc3], .int .i64 x2] w R :=
  calls_of_vc (fn := Try.f35) (ac := ac_ref06_text) (args := [.agg #[.int .i64 x1, .slice sa1 sl1 sc1, .slice sa2 sl2 sc2, .slice sa3 sl3 sc3], .int .i64 x2]) mixed Try.func35 (by kernel_rfl) (cast (by unfold vc_ref06_text FnVc; kernel_rfl) h)
/-- darkroom/bits.NewWriter -/
def vc_bits_NewWriter (b1 : Bool) (w : World) (R : Ending → World → Prop) : Prop :=
  Calls P F.bits_order #[Value.bool b1] w fun e1 w1 =>
  ∃ y1 : FuncId,
  ∃ y2 : Array Value,
  ∃ y3 : Array Value,
  (e1 = Ending.returned (Value.func (Fn.func y1) y2 y3)) ∧
  ∀ k1 : Nat,
  ∀ w2 : World,
  (New w1 (Obj.cells #[Value.slice none 0 0, Value.int IntKind.i64 0, Value.bool b1, Value.func (Fn.func y1) y2 y3] 83) k1 w2) →
  R (Ending.returned (Value.pointer (some { block := k1, off := 0 }))) w2
theorem calls_bits_NewWriter (b1 : Bool) (w : World) (R : Ending → World → Prop) (h : vc_bits_NewWriter b1 w R) : Calls P F.bits_NewWriter #[.bool b1] w R :=
  calls_of_vc (fn := Try.f36) (ac := ac_bits_NewWriter) (args := [.bool b1]) mixed Try.func36 (by kernel_rfl) (cast (by unfold vc_bits_NewWriter FnVc; kernel_rfl) h)
/-- (*darkroom/bits.Writer).Put -/
def vc_bits_Writer_Put (q1 : Option Addr) (x1 : Int) (x2 : Int) (w : World) (R : Ending → World → Prop) : Prop :=
  brB (q1.isNone)
    (R (Ending.returned (Value.int IntKind.i64 1)) w)
    (brB (decide (x2 < 0) || decide (x2 > 32))
      (R (Ending.returned (Value.int IntKind.i64 2)) w)
      (∃ I1 : List Value → World → Prop,
      ∃ m1 : List Value → World → Nat,
      (I1 [Value.int IntKind.i64 0] w) ∧
      ∀ n1 : Int,
      ∀ w1 : World,
      (I1 [Value.int IntKind.i64 n1] w1) →
      brB (decide (n1 < x2))
        (∃ I2 : List Value → World → Prop,
        (nn (q1) fun a1 =>
          ∃ c1 : Bool,
          (w1.cell? (a1.add 2) = some (Value.bool c1)) ∧
          brB (c1)
            ((0 ≤ IntKind.i64.wrap (IntKind.i64.wrap (x2 - 1) - n1)) ∧
            Calls P F.bits_Writer_one #[Value.pointer q1, Value.int IntKind.u8 (IntKind.u8.wrap (IntKind.u32.wrap (bitsZ BinOp.and IntKind.u32 (shiftZ BinOp.shr IntKind.u32 x1 (IntKind.i64.wrap (IntKind.i64.wrap (x2 - 1) - n1))) 1)))] w1 fun e1 w2 =>
            (e1 = Ending.returned (Value.tuple #[])) ∧
            I2 [] w2)
            ((0 ≤ n1) ∧
            Calls P F.bits_Writer_one #[Value.pointer q1, Value.int IntKind.u8 (IntKind.u8.wrap (IntKind.u32.wrap (bitsZ BinOp.and IntKind.u32 (shiftZ BinOp.shr IntKind.u32 x1 n1) 1)))] w1 fun e2 w3 =>
            (e2 = Ending.returned (Value.tuple #[])) ∧
            I2 [] w3)) ∧
        ∀ w4 : World,
        (I2 [] w4) →
        (I1 [Value.int IntKind.i64 (IntKind.i64.wrap (n1 + 1))] w4) ∧
        m1 [Value.int IntKind.i64 (IntKind.i64.wrap (n1 + 1))] w4 < m1 [Value.int IntKind.i64 n1] w1)
        (R (Ending.returned (Value.int IntKind.i64 0)) w1)))
theorem calls_bits_Writer_Put (q1 : Option Addr) (x1 : Int) (x2 : Int) (w : World) (R : Ending → World → Prop) (h : vc_bits_Writer_Put q1 x1 x2 w R) : Calls P F.bits_Writer_Put #[.pointer q1, .int .u32 x1, .int .i64 x2] w R :=
  calls_of_vc (fn := Try.f37) (ac := ac_bits_Writer_Put) (args := [.pointer q1, .int .u32 x1, .int .i64 x2]) mixed Try.func37 (by kernel_rfl) (cast (by unfold vc_bits_Writer_Put FnVc; kernel_rfl) h)
/-- (darkroom/lzw.kind).pack$1 -/
def vc_lzw_kind_pack_fn1 (x1 : Int) (b1 : Bool) (fr1 : Addr) (fr2 : Addr) (fr3 : Addr) (fr4 : Addr) (w : World) (R : Ending → World → Prop) : Prop :=
  ∃ p1 : Option Addr,
  (w.cell? fr1 = some (Value.pointer p1)) ∧
  ∃ n1 : Int,
  (w.cell? fr2 = some (Value.int IntKind.i64 n1)) ∧
  Calls P F.bits_Writer_Put #[Value.pointer p1, Value.int IntKind.u32 (IntKind.u32.wrap x1), Value.int IntKind.i64 n1] w fun e1 w1 =>
  ∃ n2 : Int,
  (e1 = Ending.returned (Value.int IntKind.i64 n2)) ∧
  brB (b1)
    (∃ n3 : Int,
    (w1.cell? fr3 = some (Value.int IntKind.i64 n3)) ∧
    (∃ v1 : Value,
      w1.cell? fr3 = some v1) ∧
    (w1.frozen? fr3 = false) ∧
    ∃ n4 : Int,
    ((setCells w1 fr3 [Value.int IntKind.i64 (IntKind.i64.wrap (n3 + 1))] 0).drew.cell? fr3 = some (Value.int IntKind.i64 n4)) ∧
    ∃ n5 : Int,
    ((setCells w1 fr3 [Value.int IntKind.i64 (IntKind.i64.wrap (n3 + 1))] 0).drew.cell? fr2 = some (Value.int IntKind.i64 n5)) ∧
    (0 ≤ n5) ∧
    ∃ n6 : Int,
    ((setCells w1 fr3 [Value.int IntKind.i64 (IntKind.i64.wrap (n3 + 1))] 0).drew.cell? (fr4.add 3) = some (Value.int IntKind.i64 n6)) ∧
    brB (n4 == IntKind.i64.wrap (shiftZ BinOp.shl IntKind.i64 1 n5 - n6))
      (∃ n7 : Int,
      ((setCells w1 fr3 [Value.int IntKind.i64 (IntKind.i64.wrap (n3 + 1))] 0).drew.cell? fr2 = some (Value.int IntKind.i64 n7)) ∧
      brB (decide (n7 < 12))
        (∃ n8 : Int,
        ((setCells w1 fr3 [Value.int IntKind.i64 (IntKind.i64.wrap (n3 + 1))] 0).drew.cell? fr2 = some (Value.int IntKind.i64 n8)) ∧
        (∃ v2 : Value,
          (setCells w1 fr3 [Value.int IntKind.i64 (IntKind.i64.wrap (n3 + 1))] 0).drew.cell? fr2 = some v2) ∧
        ((setCells w1 fr3 [Value.int IntKind.i64 (IntKind.i64.wrap (n3 + 1))] 0).drew.frozen? fr2 = false) ∧
        R (Ending.returned (Value.tuple #[])) (setCells (setCells w1 fr3 [Value.int IntKind.i64 (IntKind.i64.wrap (n3 + 1))] 0).drew fr2 [Value.int IntKind.i64 (IntKind.i64.wrap (n8 + 1))] 0))
        (R (Ending.returned (Value.tuple #[])) (setCells w1 fr3 [Value.int IntKind.i64 (IntKind.i64.wrap (n3 + 1))] 0).drew))
      (R (Ending.returned (Value.tuple #[])) (setCells w1 fr3 [Value.int IntKind.i64 (IntKind.i64.wrap (n3 + 1))] 0).drew))
    (R (Ending.returned (Value.tuple #[])) w1)
theorem calls_lzw_kind_pack_fn1 (x1 : Int) (b1 : Bool) (fr1 : Addr) (fr2 : Addr) (fr3 : Addr) (fr4 : Addr) (w : World) (R : Ending → World → Prop) (h : vc_lzw_kind_pack_fn1 x1 b1 fr1 fr2 fr3 fr4 w R) : Calls P F.lzw_kind_pack_fn1 #[.int .i64 x1, .bool b1, .pointer (some fr1), .pointer (some fr2), .pointer (some fr3), .pointer (some fr4)] w R :=
  calls_of_vc (fn := Try.f38) (ac := ac_lzw_kind_pack_fn1) (args := [.int .i64 x1, .bool b1, .pointer (some fr1), .pointer (some fr2), .pointer (some fr3), .pointer (some fr4)]) mixed Try.func38 (by kernel_rfl) (cast (by unfold vc_lzw_kind_pack_fn1 FnVc; kernel_rfl) h)
/-- (*darkroom/bits.Writer).Bytes -/
def vc_bits_Writer_Bytes (q1 : Option Addr) (w : World) (R : Ending → World → Prop) : Prop :=
  brB (q1.isNone)
    (R (Ending.returned (Value.slice none 0 0)) w)
    (nn (q1) fun a1 =>
    ∃ p1 : Option Addr,
    ∃ k1 : Nat,
    ∃ k2 : Nat,
    (w.cell? a1 = some (Value.slice p1 k1 k2)) ∧
    Calls P F.slices_Clone_byte #[Value.slice p1 k1 k2] w fun e1 w1 =>
    ∃ p2 : Option Addr,
    ∃ k3 : Nat,
    ∃ k4 : Nat,
    (e1 = Ending.returned (Value.slice p2 k3 k4)) ∧
    R (Ending.returned (Value.slice p2 k3 k4)) w1)
theorem calls_bits_Writer_Bytes (q1 : Option Addr) (w : World) (R : Ending → World → Prop) (h : vc_bits_Writer_Bytes q1 w R) : Calls P F.bits_Writer_Bytes #[.pointer q1] w R :=
  calls_of_vc (fn := Try.f39) (ac := ac_bits_Writer_Bytes) (args := [.pointer q1]) mixed Try.func39 (by kernel_rfl) (cast (by unfold vc_bits_Writer_Bytes FnVc; kernel_rfl) h)
/-- darkroom/lzw.runs[byte]$1 -/
def vc_lzw_runs_byte_fn1 (yl1 : Nat) (fr1 : Addr) (w : World) (R : Ending → World → Prop) : Prop :=
  ∃ I1 : List Value → World → Prop,
  ∃ m1 : List Value → World → Nat,
  (I1 [Value.int IntKind.i64 0] w) ∧
  ∀ n1 : Int,
  ∀ w1 : World,
  (I1 [Value.int IntKind.i64 n1] w1) →
  ∃ p1 : Option Addr,
  ∃ k1 : Nat,
  ∃ k2 : Nat,
  (w1.cell? fr1 = some (Value.slice p1 k1 k2)) ∧
  brB (decide (n1 < (↑k1 : Int)))
    (∃ I2 : List Value → World → Prop,
    (∃ I3 : List Value → World → Prop,
      ∃ m2 : List Value → World → Nat,
      (I3 [Value.int IntKind.i64 1] w1) ∧
      ∀ n2 : Int,
      ∀ w2 : World,
      (I3 [Value.int IntKind.i64 n2] w2) →
      ∃ p2 : Option Addr,
      ∃ k3 : Nat,
      ∃ k4 : Nat,
      (w2.drew.cell? fr1 = some (Value.slice p2 k3 k4)) ∧
      brB (decide (IntKind.i64.wrap (n1 + n2) < (↑k3 : Int)))
        (∃ p3 : Option Addr,
        ∃ k5 : Nat,
        ∃ k6 : Nat,
        (w2.drew.cell? fr1 = some (Value.slice p3 k5 k6)) ∧
        idx (p3) (k5) (IntKind.i64.wrap (n1 + n2)) (1) fun a1 =>
        ∃ n3 : Int,
        (w2.drew.cell? a1 = some (Value.int IntKind.u8 n3)) ∧
        ∃ p4 : Option Addr,
        ∃ k7 : Nat,
        ∃ k8 : Nat,
        (w2.drew.cell? fr1 = some (Value.slice p4 k7 k8)) ∧
        idx (p4) (k7) (n1) (1) fun a2 =>
        ∃ n4 : Int,
        (w2.drew.cell? a2 = some (Value.int IntKind.u8 n4)) ∧
        brB (n3 == n4 && decide (n2 < 128))
          ((I3 [Value.int IntKind.i64 (IntKind.i64.wrap (n2 + 1))] w2.drew) ∧
          m2 [Value.int IntKind.i64 (IntKind.i64.wrap (n2 + 1))] w2.drew < m2 [Value.int IntKind.i64 n2] w2)
          (I2 [Value.int IntKind.i64 n2] w2.drew))
        (I2 [Value.int IntKind.i64 n2] w2.drew)) ∧
    ∀ n5 : Int,
    ∀ w3 : World,
    (I2 [Value.int IntKind.i64 n5] w3) →
    ∃ p5 : Option Addr,
    ∃ k9 : Nat,
    ∃ k10 : Nat,
    (w3.cell? fr1 = some (Value.slice p5 k9 k10)) ∧
    idx (p5) (k9) (n1) (1) fun a3 =>
    ∃ n6 : Int,
    (w3.cell? a3 = some (Value.int IntKind.u8 n6)) ∧
    YieldAt Fence.wide 0 P (yl1) #[Value.int IntKind.u8 n6, Value.int IntKind.i64 n5] w3 fun e1 w4 =>
    ∃ c1 : Bool,
    (e1 = Ending.returned (Value.bool c1)) ∧
    brB (!c1)
      (R (Ending.returned (Value.tuple #[])) w4)
      ((I1 [Value.int IntKind.i64 (IntKind.i64.wrap (n1 + n5))] w4) ∧
      m1 [Value.int IntKind.i64 (IntKind.i64.wrap (n1 + n5))] w4 < m1 [Value.int IntKind.i64 n1] w1))
    (R (Ending.returned (Value.tuple #[])) w1)
theorem calls_lzw_runs_byte_fn1 (yl1 : Nat) (fr1 : Addr) (w : World) (R : Ending → World → Prop) (h : vc_lzw_runs_byte_fn1 yl1 fr1 w R) : Calls P F.lzw_runs_byte_fn1 #[.func (.yield yl1) #[] #[], .pointer (some fr1)] w R :=
  calls_of_vc (fn := Try.f40) (ac := ac_lzw_runs_byte_fn1) (args := [.func (.yield yl1) #[] #[], .pointer (some fr1)]) mixed Try.func40 (by kernel_rfl) (cast (by unfold vc_lzw_runs_byte_fn1 FnVc; kernel_rfl) h)
/-- slices.Clone[[]byte,byte] -/
def vc_slices_Clone_byte (sa1 : Option Addr) (sl1 sc1 : Nat) (w : World) (R : Ending → World → Prop) : Prop :=
  brB (sa1.isNone)
    (R (Ending.returned (Value.slice none 0 0)) w)
    (∀ k1 : Nat,
    ∀ w1 : World,
    (New w (Obj.cells #[] 5) k1 w1) →
    ∃ l1 : List Value,
    (l1.length = sl1 * 1) ∧
    (oneAll l1 = true) ∧
    (CellsAre w1 sa1 l1) ∧
    appVC (w1) ([]) (some { block := k1, off := 0 }) (0) (0) (sl1) (1) (1) (5) ([Value.int IntKind.u8 0]) (l1) fun p1 k2 k3 w2 =>
    R (Ending.returned (Value.slice p1 k2 k3)) w2)
theorem calls_slices_Clone_byte (sa1 : Option Addr) (sl1 sc1 : Nat) (w : World) (R : Ending → World → Prop) (h : vc_slices_Clone_byte sa1 sl1 sc1 w R) : Calls P F.slices_Clone_byte #[.slice sa1 sl1 sc1] w R :=
  calls_of_vc (fn := Try.f41) (ac := ac_slices_Clone_byte) (args := [.slice sa1 sl1 sc1]) mixed Try.func41 (by kernel_rfl) (cast (by unfold vc_slices_Clone_byte FnVc; kernel_rfl) h)
/-- darkroom/bits.order -/
def vc_bits_order (b1 : Bool) (w : World) (R : Ending → World → Prop) : Prop :=
  brB (b1)
    (R (Ending.returned (Value.func (Fn.func 47) #[] #[])) w)
    (R (Ending.returned (Value.func (Fn.func 48) #[] #[])) w)
theorem calls_bits_order (b1 : Bool) (w : World) (R : Ending → World → Prop) (h : vc_bits_order b1 w R) : Calls P F.bits_order #[.bool b1] w R :=
  calls_of_vc (fn := Try.f42) (ac := ac_bits_order) (args := [.bool b1]) mixed Try.func42 (by kernel_rfl) (cast (by unfold vc_bits_order FnVc; kernel_rfl) h)
/-- (*darkroom/bits.Reader).Left -/
def vc_bits_Reader_Left (q1 : Option Addr) (w : World) (R : Ending → World → Prop) : Prop :=
  brB (q1.isNone)
    (R (Ending.returned (Value.int IntKind.i64 0)) w)
    (nn (q1) fun a1 =>
    ∃ p1 : Option Addr,
    ∃ k1 : Nat,
    ∃ k2 : Nat,
    (w.drew.cell? a1 = some (Value.slice p1 k1 k2)) ∧
    nn (q1) fun a2 =>
    ∃ n1 : Int,
    (w.drew.cell? (a2.add 1) = some (Value.int IntKind.i64 n1)) ∧
    R (Ending.returned (Value.int IntKind.i64 (IntKind.i64.wrap (IntKind.i64.wrap (8 * (↑k1 : Int)) - n1)))) w.drew)
theorem calls_bits_Reader_Left (q1 : Option Addr) (w : World) (R : Ending → World → Prop) (h : vc_bits_Reader_Left q1 w R) : Calls P F.bits_Reader_Left #[.pointer q1] w R :=
  calls_of_vc (fn := Try.f43) (ac := ac_bits_Reader_Left) (args := [.pointer q1]) mixed Try.func43 (by kernel_rfl) (cast (by unfold vc_bits_Reader_Left FnVc; kernel_rfl) h)
/-- darkroom/darkroomref01.Left -/
def vc_ref01_Left (sa1 : Option Addr) (sl1 sc1 : Nat) (b1 : Bool) (x1 : Int) (w : World) (R : Ending → World → Prop) : Prop :=
  ∀ k1 : Nat,
  (w.heap.size ≤ k1) →
  ∀ w1 : World,
  (Locl ([k1]) w w1) →
  R (Ending.returned (Value.int IntKind.i64 (IntKind.i64.wrap (IntKind.i64.wrap (8 * (↑sl1 : Int)) - x1)))) w1
theorem calls_ref01_Left (sa1 : Option Addr) (sl1 sc1 : Nat) (b1 : Bool) (x1 : Int) (w : World) (R : Ending → World → Prop) (h : vc_ref01_Left sa1 sl1 sc1 b1 x1 w R) : Calls P F.ref01_Left #[.agg #[.slice sa1 sl1 sc1, .bool b1, .int .i64 x1]] w R :=
  calls_of_vc (fn := Try.f44) (ac := ac_ref01_Left) (args := [.agg #[.slice sa1 sl1 sc1, .bool b1, .int .i64 x1]]) mixed Try.func44 (by kernel_rfl) (cast (by unfold vc_ref01_Left FnVc; kernel_rfl) h)
/-- darkroom/darkroomref01.bit -/
def vc_ref01_bit (sa1 : Option Addr) (sl1 sc1 : Nat) (b1 : Bool) (x1 : Int) (w : World) (R : Ending → World → Prop) : Prop :=
  brB (b1)
    (idx (sa1) (sl1) (divZ BinOp.quo IntKind.i64 x1 8) (1) fun a1 =>
    ∃ n1 : Int,
    (w.cell? a1 = some (Value.int IntKind.u8 n1)) ∧
    (0 ≤ IntKind.u64.wrap (IntKind.i64.wrap (7 - divZ BinOp.rem IntKind.i64 x1 8))) ∧
    R (Ending.returned (Value.int IntKind.u32 (divZ BinOp.rem IntKind.u32 (shiftZ BinOp.shr IntKind.u32 (IntKind.u32.wrap n1) (IntKind.u64.wrap (IntKind.i64.wrap (7 - divZ BinOp.rem IntKind.i64 x1 8)))) 2))) w)
    (idx (sa1) (sl1) (divZ BinOp.quo IntKind.i64 x1 8) (1) fun a2 =>
    ∃ n2 : Int,
    (w.cell? a2 = some (Value.int IntKind.u8 n2)) ∧
    (0 ≤ IntKind.u64.wrap (divZ BinOp.rem IntKind.i64 x1 8)) ∧
    R (Ending.returned (Value.int IntKind.u32 (divZ BinOp.rem IntKind.u32 (shiftZ BinOp.shr IntKind.u32 (IntKind.u32.wrap n2) (IntKind.u64.wrap (divZ BinOp.rem IntKind.i64 x1 8))) 2))) w)
theorem calls_ref01_bit (sa1 : Option Addr) (sl1 sc1 : Nat) (b1 : Bool) (x1 : Int) (w : World) (R : Ending → World → Prop) (h : vc_ref01_bit sa1 sl1 sc1 b1 x1 w R) : Calls P F.ref01_bit #[.slice sa1 sl1 sc1, .bool b1, .int .i64 x1] w R :=
  calls_of_vc (fn := Try.f45) (ac := ac_ref01_bit) (args := [.slice sa1 sl1 sc1, .bool b1, .int .i64 x1]) mixed Try.func45 (by kernel_rfl) (cast (by unfold vc_ref01_bit FnVc; kernel_rfl) h)
/-- (*darkroom/bits.Writer).one -/
def vc_bits_Writer_one (q1 : Option Addr) (x1 : Int) (w : World) (R : Ending → World → Prop) : Prop :=
  ∃ I1 : List Value → World → Prop,
  (nn (q1) fun a1 =>
    ∃ n1 : Int,
    (w.cell? (a1.add 1) = some (Value.int IntKind.i64 n1)) ∧
    brB (divZ BinOp.rem IntKind.i64 n1 8 == 0)
      (nn (q1) fun a2 =>
      ∃ p1 : Option Addr,
      ∃ k1 : Nat,
      ∃ k2 : Nat,
      (w.cell? a2 = some (Value.slice p1 k1 k2)) ∧
      ∀ k3 : Nat,
      (w.heap.size ≤ k3) →
      ∀ w1 : World,
      (Locl ([k3]) w w1) →
      appVC (w1) ([(15, k3, [Value.int IntKind.u8 0])]) (p1) (k1) (k2) (1) (1) (1) (5) ([Value.int IntKind.u8 0]) ([Value.int IntKind.u8 0]) fun p2 k4 k5 w2 =>
      nn (q1) fun a3 =>
      (∃ v1 : Value,
        w2.cell? a3 = some v1) ∧
      (w2.frozen? a3 = false) ∧
      (¬a3.block ∈ [k3]) ∧
      I1 [] (setCells w2 a3 [Value.slice p2 k4 k5] 0))
      (I1 [] w)) ∧
  ∀ w3 : World,
  (I1 [] w3) →
  nn (q1) fun a4 =>
  ∃ p3 : Option Addr,
  ∃ k6 : Nat,
  ∃ k7 : Nat,
  (w3.drew.cell? a4 = some (Value.slice p3 k6 k7)) ∧
  nn (q1) fun a5 =>
  ∃ n2 : Int,
  (w3.drew.cell? (a5.add 1) = some (Value.int IntKind.i64 n2)) ∧
  idx (p3) (k6) (divZ BinOp.quo IntKind.i64 n2 8) (1) fun a6 =>
  ∃ n3 : Int,
  (w3.drew.cell? a6 = some (Value.int IntKind.u8 n3)) ∧
  nn (q1) fun a7 =>
  ∃ y1 : FuncId,
  ∃ y2 : Array Value,
  ∃ y3 : Array Value,
  (w3.drew.cell? (a7.add 3) = some (Value.func (Fn.func y1) y2 y3)) ∧
  nn (q1) fun a8 =>
  ∃ n4 : Int,
  (w3.drew.cell? (a8.add 1) = some (Value.int IntKind.i64 n4)) ∧
  callV P (Value.func (Fn.func y1) y2 y3) [Value.int IntKind.i64 n4] (w3.drew) fun e1 w4 =>
  ∃ n5 : Int,
  (e1 = Ending.returned (Value.int IntKind.u64 n5)) ∧
  (Keeps (w3.drew) w4) ∧
  (0 ≤ n5) ∧
  idx (p3) (k6) (divZ BinOp.quo IntKind.i64 n2 8) (1) fun a9 =>
  (∃ v2 : Value,
    w4.cell? a9 = some v2) ∧
  (w4.frozen? a9 = false) ∧
  nn (q1) fun a10 =>
  ∃ n6 : Int,
  ((setCells w4 a9 [Value.int IntKind.u8 (IntKind.u8.wrap (bitsZ BinOp.or IntKind.u8 n3 (shiftZ BinOp.shl IntKind.u8 x1 n5)))] 0).cell? (a10.add 1) = some (Value.int IntKind.i64 n6)) ∧
  nn (q1) fun a11 =>
  (∃ v3 : Value,
    (setCells w4 a9 [Value.int IntKind.u8 (IntKind.u8.wrap (bitsZ BinOp.or IntKind.u8 n3 (shiftZ BinOp.shl IntKind.u8 x1 n5)))] 0).cell? (a11.add 1) = some v3) ∧
  ((setCells w4 a9 [Value.int IntKind.u8 (IntKind.u8.wrap (bitsZ BinOp.or IntKind.u8 n3 (shiftZ BinOp.shl IntKind.u8 x1 n5)))] 0).frozen? (a11.add 1) = false) ∧
  R (Ending.returned (Value.tuple #[])) (setCells (setCells w4 a9 [Value.int IntKind.u8 (IntKind.u8.wrap (bitsZ BinOp.or IntKind.u8 n3 (shiftZ BinOp.shl IntKind.u8 x1 n5)))] 0) (a11.add 1) [Value.int IntKind.i64 (IntKind.i64.wrap (n6 + 1))] 0)
theorem calls_bits_Writer_one (q1 : Option Addr) (x1 : Int) (w : World) (R : Ending → World → Prop) (h : vc_bits_Writer_one q1 x1 w R) : Calls P F.bits_Writer_one #[.pointer q1, .int .u8 x1] w R :=
  calls_of_vc (fn := Try.f46) (ac := ac_bits_Writer_one) (args := [.pointer q1, .int .u8 x1]) mixed Try.func46 (by kernel_rfl) (cast (by unfold vc_bits_Writer_one FnVc; kernel_rfl) h)
/-- darkroom/bits.high -/
def vc_bits_high (x1 : Int) (w : World) (R : Ending → World → Prop) : Prop :=
  R (Ending.returned (Value.int IntKind.u64 (IntKind.u64.wrap (7 - divZ BinOp.rem IntKind.u64 (IntKind.u64.wrap x1) 8)))) w
theorem calls_bits_high (x1 : Int) (w : World) (R : Ending → World → Prop) (h : vc_bits_high x1 w R) : Calls P F.bits_high #[.int .i64 x1] w R :=
  calls_of_vc (fn := Try.f47) (ac := ac_bits_high) (args := [.int .i64 x1]) mixed Try.func47 (by kernel_rfl) (cast (by unfold vc_bits_high FnVc; kernel_rfl) h)
/-- darkroom/bits.low -/
def vc_bits_low (x1 : Int) (w : World) (R : Ending → World → Prop) : Prop :=
  R (Ending.returned (Value.int IntKind.u64 (divZ BinOp.rem IntKind.u64 (IntKind.u64.wrap x1) 8))) w
theorem calls_bits_low (x1 : Int) (w : World) (R : Ending → World → Prop) (h : vc_bits_low x1 w R) : Calls P F.bits_low #[.int .i64 x1] w R :=
  calls_of_vc (fn := Try.f48) (ac := ac_bits_low) (args := [.int .i64 x1]) mixed Try.func48 (by kernel_rfl) (cast (by unfold vc_bits_low FnVc; kernel_rfl) h)
end Go.Proofs.Ytlbokiaolmflaaa
