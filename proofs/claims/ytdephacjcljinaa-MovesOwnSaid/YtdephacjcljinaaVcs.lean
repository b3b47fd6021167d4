/- For each function the condition that its code asks, written out (by a program of ours), and the theorem that it suffices: the kernel holds both against the code. -/
import Derived.Test.YtdephacjcljinaaFns
namespace Go.Proofs.Ytdephacjcljinaa
open Go Go.Vc
set_option maxRecDepth 100000
set_option linter.unusedVariables false
/-- darkroom/darkroomlaw21.MovesChecks -/
def vc_law21_MovesChecks (st1 : ByteArray) (sa1 : Option Addr) (sl1 sc1 : Nat) (x1 : Int) (x2 : Int) (w : World) (R : Ending → World → Prop) : Prop :=
  ∀ k1 : Nat,
  ∀ w1 : World,
  (New w (Obj.cells #[Value.int IntKind.i64 x1, Value.int IntKind.i64 x2] 23) k1 w1) →
  Calls P F.law21_wakes #[] w1 fun e1 w2 =>
  ∃ c1 : Bool,
  (e1 = Ending.returned (Value.bool c1)) ∧
  brB (!c1)
    (R (Ending.returned (Value.bool false)) w2)
    (Calls P F.moves_Names #[] w2 fun e2 w3 =>
    ∃ p1 : Option Addr,
    ∃ k2 : Nat,
    ∃ k3 : Nat,
    (e2 = Ending.returned (Value.slice p1 k2 k3)) ∧
    Calls P F.ref21_Names #[] w3 fun e3 w4 =>
    ∃ p2 : Option Addr,
    ∃ k4 : Nat,
    ∃ k5 : Nat,
    (e3 = Ending.returned (Value.slice p2 k4 k5)) ∧
    ∃ I1 : List Value → World → Prop,
    ∃ m1 : List Value → World → Nat,
    (I1 [Value.int IntKind.i64 0] w4) ∧
    ∀ n1 : Int,
    ∀ w5 : World,
    (I1 [Value.int IntKind.i64 n1] w5) →
    brB (decide (n1 < (↑k4 : Int)))
      (brB (decide (n1 ≥ (↑k2 : Int)))
        (R (Ending.returned (Value.bool false)) w5.drew)
        (idx (p1) (k2) (n1) (1) fun a1 =>
        ∃ s1 : ByteArray,
        (w5.drew.cell? a1 = some (Value.string s1)) ∧
        idx (p2) (k4) (n1) (1) fun a2 =>
        ∃ s2 : ByteArray,
        (w5.drew.cell? a2 = some (Value.string s2)) ∧
        brB (!decide (s1 = s2))
          (R (Ending.returned (Value.bool false)) w5.drew)
          ((I1 [Value.int IntKind.i64 (IntKind.i64.wrap (n1 + 1))] w5.drew) ∧
          m1 [Value.int IntKind.i64 (IntKind.i64.wrap (n1 + 1))] w5.drew < m1 [Value.int IntKind.i64 n1] w5)))
      (((0 : Int) ≤ 0) ∧
      ((0 : Int) < 2) ∧
      ∃ n2 : Int,
      (w5.drew.cell? { block := k1, off := 0 } = some (Value.int IntKind.i64 n2)) ∧
      ((0 : Int) ≤ 1) ∧
      ((1 : Int) < 2) ∧
      ∃ n3 : Int,
      (w5.drew.cell? { block := k1, off := 1 } = some (Value.int IntKind.i64 n3)) ∧
      Calls P F.law21_ints #[Value.slice sa1 sl1 sc1] (w5.drew) fun e4 w6 =>
      ∃ p3 : Option Addr,
      ∃ k6 : Nat,
      ∃ k7 : Nat,
      (e4 = Ending.returned (Value.slice p3 k6 k7)) ∧
      (Keeps (w5.drew) w6) ∧
      Calls P F.moves_Size #[Value.string st1, Value.slice p3 k6 k7, Value.int IntKind.i64 n2, Value.int IntKind.i64 n3] w6 fun e5 w7 =>
      ∃ n4 : Int,
      ∃ n5 : Int,
      ∃ n6 : Int,
      (e5 = Ending.returned (Value.tuple #[Value.int IntKind.i64 n4, Value.int IntKind.i64 n5, Value.int IntKind.i64 n6])) ∧
      ((0 : Int) ≤ 0) ∧
      ((0 : Int) < 2) ∧
      ∃ n7 : Int,
      (w7.cell? { block := k1, off := 0 } = some (Value.int IntKind.i64 n7)) ∧
      ((0 : Int) ≤ 1) ∧
      ((1 : Int) < 2) ∧
      ∃ n8 : Int,
      (w7.cell? { block := k1, off := 1 } = some (Value.int IntKind.i64 n8)) ∧
      Calls P F.ref21_Size #[Value.string st1, Value.slice sa1 sl1 sc1, Value.int IntKind.i64 n7, Value.int IntKind.i64 n8] w7 fun e6 w8 =>
      ∃ n9 : Int,
      ∃ n10 : Int,
      ∃ n11 : Int,
      (e6 = Ending.returned (Value.tuple #[Value.int IntKind.i64 n9, Value.int IntKind.i64 n10, Value.int IntKind.i64 n11])) ∧
      brB ((↑k2 : Int) == (↑k4 : Int))
        (Calls P F.law21_ints #[Value.slice sa1 sl1 sc1] w8 fun e7 w9 =>
        ∃ p4 : Option Addr,
        ∃ k8 : Nat,
        ∃ k9 : Nat,
        (e7 = Ending.returned (Value.slice p4 k8 k9)) ∧
        Calls P F.moves_Check #[Value.string st1, Value.slice p4 k8 k9] w9 fun e8 w10 =>
        ∃ n12 : Int,
        (e8 = Ending.returned (Value.int IntKind.i64 n12)) ∧
        Calls P F.ref21_Check #[Value.string st1, Value.slice sa1 sl1 sc1] w10 fun e9 w11 =>
        ∃ n13 : Int,
        (e9 = Ending.returned (Value.int IntKind.i64 n13)) ∧
        R (Ending.returned (Value.bool (n12 == n13 && n4 == n9 && n5 == n10 && n6 == n11))) w11)
        (R (Ending.returned (Value.bool false)) w8)))
theorem calls_law21_MovesChecks (st1 : ByteArray) (sa1 : Option Addr) (sl1 sc1 : Nat) (x1 : Int) (x2 : Int) (w : World) (R : Ending → World → Prop) (h : vc_law21_MovesChecks st1 sa1 sl1 sc1 x1 x2 w R) : Calls P F.law21_MovesChecks #[.string st1, .slice sa1 sl1 sc1, .agg #[.int .i64 x1, .int .i64 x2]] w R :=
  calls_of_vc (fn := Try.f3) (ac := ac_law21_MovesChecks) (args := [.string st1, .slice sa1 sl1 sc1, .agg #[.int .i64 x1, .int .i64 x2]]) mixed Try.func3 (by kernel_rfl) (cast (by unfold vc_law21_MovesChecks FnVc; kernel_rfl) h)
/-- darkroom/darkroomlaw21.MovesApplies -/
def vc_law21_MovesApplies (st1 : ByteArray) (sa1 : Option Addr) (sl1 sc1 : Nat) (x1 : Int) (x2 : Int) (sa2 : Option Addr) (sl2 sc2 : Nat) (w : World) (R : Ending → World → Prop) : Prop :=
  ∀ k1 : Nat,
  (w.heap.size ≤ k1) →
  ∀ w1 : World,
  (Locl ([k1]) w w1) →
  Calls P F.law21_wakes #[] w1 fun e1 w2 =>
  ∃ c1 : Bool,
  (e1 = Ending.returned (Value.bool c1)) ∧
  (Keep ([k1]) w1 w2) ∧
  brB (!c1)
    (R (Ending.returned (Value.bool false)) w2)
    (∃ I1 : List Value → World → Prop,
    ((Calls P F.law21_ints #[Value.slice sa1 sl1 sc1] (w2.drew) fun e2 w3 =>
        ∃ p1 : Option Addr,
        ∃ k2 : Nat,
        ∃ k3 : Nat,
        (e2 = Ending.returned (Value.slice p1 k2 k3)) ∧
        (Keep ([k1]) (w2.drew) w3) ∧
        (Keeps (w2.drew) w3) ∧
        (Calls P F.law21_own #[Value.agg #[Value.int IntKind.i64 x1, Value.int IntKind.i64 x2, Value.slice sa2 sl2 sc2]] w3 fun e3 w4 =>
          ∃ n1 : Int,
          ∃ n2 : Int,
          ∃ p2 : Option Addr,
          ∃ k4 : Nat,
          ∃ k5 : Nat,
          (e3 = Ending.returned (Value.agg #[Value.int IntKind.i64 n1, Value.int IntKind.i64 n2, Value.slice p2 k4 k5])) ∧
          (Keep ([k1]) w3 w4) ∧
          (Calls P F.moves_Apply #[Value.string st1, Value.slice p1 k2 k3, Value.agg #[Value.int IntKind.i64 n1, Value.int IntKind.i64 n2, Value.slice p2 k4 k5]] w4 fun e4 w5 =>
            ∃ n3 : Int,
            ∃ n4 : Int,
            ∃ p3 : Option Addr,
            ∃ k6 : Nat,
            ∃ k7 : Nat,
            ∃ n5 : Int,
            (e4 = Ending.returned (Value.tuple #[Value.agg #[Value.int IntKind.i64 n3, Value.int IntKind.i64 n4, Value.slice p3 k6 k7], Value.int IntKind.i64 n5])) ∧
            (Keep ([k1]) w4 w5) ∧
            ∀ k8 : Nat,
            (w5.heap.size ≤ k8) →
            ∀ w6 : World,
            (Locl ([k8, k1]) w5 w6) →
            I1 [Value.int IntKind.i64 n5, Value.pointer (some { block := k8, off := 0 }), Value.int IntKind.i64 n3, Value.int IntKind.i64 n4, Value.slice p3 k6 k7] w6) ∧
          ∀ k9 : Nat,
          (w4.heap.size ≤ k9) →
          ∀ w7 : World,
          (Locl ([k9, k1]) w4 w7) →
          Calls P F.moves_Apply #[Value.string st1, Value.slice p1 k2 k3, Value.agg #[Value.int IntKind.i64 n1, Value.int IntKind.i64 n2, Value.slice p2 k4 k5]] w7 fun e5 w8 =>
          ∃ n6 : Int,
          ∃ n7 : Int,
          ∃ p4 : Option Addr,
          ∃ k10 : Nat,
          ∃ k11 : Nat,
          ∃ n8 : Int,
          (e5 = Ending.returned (Value.tuple #[Value.agg #[Value.int IntKind.i64 n6, Value.int IntKind.i64 n7, Value.slice p4 k10 k11], Value.int IntKind.i64 n8])) ∧
          (Keep ([k9, k1]) w7 w8) ∧
          ∀ w9 : World,
          (Locl ([k9, k1]) w8 w9) →
          I1 [Value.int IntKind.i64 n8, Value.pointer (some { block := k9, off := 0 }), Value.int IntKind.i64 n6, Value.int IntKind.i64 n7, Value.slice p4 k10 k11] w9) ∧
        ∀ k12 : Nat,
        (w3.heap.size ≤ k12) →
        ∀ w10 : World,
        (Locl ([k12, k1]) w3 w10) →
        Calls P F.law21_own #[Value.agg #[Value.int IntKind.i64 x1, Value.int IntKind.i64 x2, Value.slice sa2 sl2 sc2]] w10 fun e6 w11 =>
        ∃ n9 : Int,
        ∃ n10 : Int,
        ∃ p5 : Option Addr,
        ∃ k13 : Nat,
        ∃ k14 : Nat,
        (e6 = Ending.returned (Value.agg #[Value.int IntKind.i64 n9, Value.int IntKind.i64 n10, Value.slice p5 k13 k14])) ∧
        (Keep ([k12, k1]) w10 w11) ∧
        Calls P F.moves_Apply #[Value.string st1, Value.slice p1 k2 k3, Value.agg #[Value.int IntKind.i64 n9, Value.int IntKind.i64 n10, Value.slice p5 k13 k14]] w11 fun e7 w12 =>
        ∃ n11 : Int,
        ∃ n12 : Int,
        ∃ p6 : Option Addr,
        ∃ k15 : Nat,
        ∃ k16 : Nat,
        ∃ n13 : Int,
        (e7 = Ending.returned (Value.tuple #[Value.agg #[Value.int IntKind.i64 n11, Value.int IntKind.i64 n12, Value.slice p6 k15 k16], Value.int IntKind.i64 n13])) ∧
        (Keep ([k12, k1]) w11 w12) ∧
        ∀ w13 : World,
        (Locl ([k12, k1]) w12 w13) →
        I1 [Value.int IntKind.i64 n13, Value.pointer (some { block := k12, off := 0 }), Value.int IntKind.i64 n11, Value.int IntKind.i64 n12, Value.slice p6 k15 k16] w13) ∧
      ∀ k17 : Nat,
      (w2.drew.heap.size ≤ k17) →
      ∀ w14 : World,
      (Locl ([k17, k1]) (w2.drew) w14) →
      Calls P F.law21_ints #[Value.slice sa1 sl1 sc1] w14 fun e8 w15 =>
      ∃ p7 : Option Addr,
      ∃ k18 : Nat,
      ∃ k19 : Nat,
      (e8 = Ending.returned (Value.slice p7 k18 k19)) ∧
      (Keep ([k17, k1]) w14 w15) ∧
      (Keeps w14 w15) ∧
      Calls P F.law21_own #[Value.agg #[Value.int IntKind.i64 x1, Value.int IntKind.i64 x2, Value.slice sa2 sl2 sc2]] w15 fun e9 w16 =>
      ∃ n14 : Int,
      ∃ n15 : Int,
      ∃ p8 : Option Addr,
      ∃ k20 : Nat,
      ∃ k21 : Nat,
      (e9 = Ending.returned (Value.agg #[Value.int IntKind.i64 n14, Value.int IntKind.i64 n15, Value.slice p8 k20 k21])) ∧
      (Keep ([k17, k1]) w15 w16) ∧
      Calls P F.moves_Apply #[Value.string st1, Value.slice p7 k18 k19, Value.agg #[Value.int IntKind.i64 n14, Value.int IntKind.i64 n15, Value.slice p8 k20 k21]] w16 fun e10 w17 =>
      ∃ n16 : Int,
      ∃ n17 : Int,
      ∃ p9 : Option Addr,
      ∃ k22 : Nat,
      ∃ k23 : Nat,
      ∃ n18 : Int,
      (e10 = Ending.returned (Value.tuple #[Value.agg #[Value.int IntKind.i64 n16, Value.int IntKind.i64 n17, Value.slice p9 k22 k23], Value.int IntKind.i64 n18])) ∧
      (Keep ([k17, k1]) w16 w17) ∧
      ∀ w18 : World,
      (Locl ([k17, k1]) w17 w18) →
      I1 [Value.int IntKind.i64 n18, Value.pointer (some { block := k17, off := 0 }), Value.int IntKind.i64 n16, Value.int IntKind.i64 n17, Value.slice p9 k22 k23] w18) ∧
    ∀ n19 : Int,
    ∀ k24 : Nat,
    ∀ n20 : Int,
    ∀ n21 : Int,
    ∀ p10 : Option Addr,
    ∀ k25 : Nat,
    ∀ k26 : Nat,
    ∀ w19 : World,
    (I1 [Value.int IntKind.i64 n19, Value.pointer (some { block := k24, off := 0 }), Value.int IntKind.i64 n20, Value.int IntKind.i64 n21, Value.slice p10 k25 k26] w19) →
    Calls P F.ref21_Apply #[Value.string st1, Value.slice sa1 sl1 sc1, Value.agg #[Value.int IntKind.i64 x1, Value.int IntKind.i64 x2, Value.slice sa2 sl2 sc2]] w19 fun e11 w20 =>
    ∃ n22 : Int,
    ∃ n23 : Int,
    ∃ p11 : Option Addr,
    ∃ k27 : Nat,
    ∃ k28 : Nat,
    ∃ n24 : Int,
    (e11 = Ending.returned (Value.tuple #[Value.agg #[Value.int IntKind.i64 n22, Value.int IntKind.i64 n23, Value.slice p11 k27 k28], Value.int IntKind.i64 n24])) ∧
    (Keep ([k24, k1]) w19 w20) ∧
    ∀ k29 : Nat,
    (w20.heap.size ≤ k29) →
    ∀ w21 : World,
    (Locl ([k29, k24, k1]) w20 w21) →
    Calls P F.ref09_Same #[Value.agg #[Value.int IntKind.i64 n20, Value.int IntKind.i64 n21, Value.slice p10 k25 k26], Value.agg #[Value.int IntKind.i64 n22, Value.int IntKind.i64 n23, Value.slice p11 k27 k28]] w21 fun e12 w22 =>
    ∃ c2 : Bool,
    (e12 = Ending.returned (Value.bool c2)) ∧
    (Keep ([k29, k24, k1]) w21 w22) ∧
    R (Ending.returned (Value.bool (c2 && n19 == n24))) w22)
theorem calls_law21_MovesApplies (st1 : ByteArray) (sa1 : Option Addr) (sl1 sc1 : Nat) (x1 : Int) (x2 : Int) (sa2 : Option Addr) (sl2 sc2 : Nat) (w : World) (R : Ending → World → Prop) (h : vc_law21_MovesApplies st1 sa1 sl1 sc1 x1 x2 sa2 sl2 sc2 w R) : Calls P F.law21_MovesApplies #[.string st1, .slice sa1 sl1 sc1, .agg #[.int .i64 x1, .int .i64 x2, .slice sa2 sl2 sc2]] w R :=
  calls_of_vc (fn := Try.f4) (ac := ac_law21_MovesApplies) (args := [.string st1, .slice sa1 sl1 sc1, .agg #[.int .i64 x1, .int .i64 x2, .slice sa2 sl2 sc2]]) mixed Try.func4 (by kernel_rfl) (cast (by unfold vc_law21_MovesApplies FnVc; kernel_rfl) h)
/-- darkroom/darkroomlaw21.MovesTurns -/
def vc_law21_MovesTurns (x1 : Int) (x2 : Int) (sa1 : Option Addr) (sl1 sc1 : Nat) (x3 : Int) (x4 : Int) (w : World) (R : Ending → World → Prop) : Prop :=
  ∀ k1 : Nat,
  (w.heap.size ≤ k1) →
  ∀ w1 : World,
  (Locl ([k1]) w w1) →
  ∀ k2 : Nat,
  ∀ w2 : World,
  (New w1 (Obj.cells #[Value.int IntKind.i64 x3, Value.int IntKind.i64 x4] 23) k2 w2) →
  Calls P F.law21_wakes #[] w2 fun e1 w3 =>
  ∃ c1 : Bool,
  (e1 = Ending.returned (Value.bool c1)) ∧
  (Keep ([k1]) w2 w3) ∧
  brB (!c1)
    (R (Ending.returned (Value.bool false)) w3)
    (Calls P F.ref09_Good #[Value.agg #[Value.int IntKind.i64 x1, Value.int IntKind.i64 x2, Value.slice sa1 sl1 sc1]] w3 fun e2 w4 =>
    ∃ c2 : Bool,
    (e2 = Ending.returned (Value.bool c2)) ∧
    (Keep ([k1]) w3 w4) ∧
    brB (!c2)
      (∀ k3 : Nat,
      ∀ w5 : World,
      (New w4 (Obj.cells #[Value.string { data := #[102, 108, 105, 112] }] 9) k3 w5) →
      ∀ k4 : Nat,
      ∀ w6 : World,
      (New w5 (Obj.cells #[Value.slice none 0 0] 22) k4 w6) →
      Calls P F.law21_in #[Value.agg #[Value.int IntKind.i64 x1, Value.int IntKind.i64 x2, Value.slice sa1 sl1 sc1], Value.slice (some { block := k3, off := 0 }) 1 1, Value.slice (some { block := k4, off := 0 }) 1 1] w6 fun e3 w7 =>
      ∃ n1 : Int,
      ∃ n2 : Int,
      ∃ p1 : Option Addr,
      ∃ k5 : Nat,
      ∃ k6 : Nat,
      ∃ c3 : Bool,
      (e3 = Ending.returned (Value.tuple #[Value.agg #[Value.int IntKind.i64 n1, Value.int IntKind.i64 n2, Value.slice p1 k5 k6], Value.bool c3])) ∧
      (Keep ([k1]) w6 w7) ∧
      ∀ k7 : Nat,
      (w7.heap.size ≤ k7) →
      ∀ w8 : World,
      (Locl ([k7, k1]) w7 w8) →
      R (Ending.returned (Value.bool !c3)) w8)
      (((0 : Int) ≤ 0) ∧
      ((0 : Int) < 2) ∧
      ∃ n3 : Int,
      (w4.drew.cell? { block := k2, off := 0 } = some (Value.int IntKind.i64 n3)) ∧
      ((0 : Int) ≤ 1) ∧
      ((1 : Int) < 2) ∧
      ∃ n4 : Int,
      (w4.drew.cell? { block := k2, off := 1 } = some (Value.int IntKind.i64 n4)) ∧
      ∀ k8 : Nat,
      ∀ w9 : World,
      (New (w4.drew) (Obj.cells #[Value.string { data := #[102, 108, 105, 112] }, Value.string { data := #[102, 108, 105, 112] }] 9) k8 w9) →
      ∀ k9 : Nat,
      ∀ w10 : World,
      (New w9 (Obj.cells #[Value.string { data := #[102, 108, 111, 112] }, Value.string { data := #[102, 108, 111, 112] }] 9) k9 w10) →
      ∀ k10 : Nat,
      ∀ w11 : World,
      (New w10 (Obj.cells #[Value.string { data := #[116, 114, 97, 110, 115, 112, 111, 115, 101] }, Value.string { data := #[116, 114, 97, 110, 115, 112, 111, 115, 101] }] 9) k10 w11) →
      ∀ k11 : Nat,
      ∀ w12 : World,
      (New w11 (Obj.cells #[Value.string { data := #[116, 114, 97, 110, 115, 118, 101, 114, 115, 101] }, Value.string { data := #[116, 114, 97, 110, 115, 118, 101, 114, 115, 101] }] 9) k11 w12) →
      ∀ k12 : Nat,
      ∀ w13 : World,
      (New w12 (Obj.cells #[Value.slice (some { block := k8, off := 0 }) 2 2, Value.slice (some { block := k9, off := 0 }) 2 2, Value.slice (some { block := k10, off := 0 }) 2 2, Value.slice (some { block := k11, off := 0 }) 2 2] 25) k12 w13) →
      ∃ I1 : List Value → World → Prop,
      ∃ m1 : List Value → World → Nat,
      (I1 [Value.int IntKind.i64 0] w13) ∧
      ∀ n5 : Int,
      ∀ w14 : World,
      (I1 [Value.int IntKind.i64 n5] w14) →
      brB (decide (n5 < 4))
        (∃ I2 : List Value → World → Prop,
        (idx (some { block := k12, off := 0 }) (4) (n5) (1) fun a1 =>
          ∃ p2 : Option Addr,
          ∃ k13 : Nat,
          ∃ k14 : Nat,
          (w14.drew.cell? a1 = some (Value.slice p2 k13 k14)) ∧
          (∀ k15 : Nat,
            ∀ w15 : World,
            (New (w14.drew) (Obj.cells #[Value.slice none 0 0, Value.slice none 0 0] 22) k15 w15) →
            (Calls P F.law21_in #[Value.agg #[Value.int IntKind.i64 x1, Value.int IntKind.i64 x2, Value.slice sa1 sl1 sc1], Value.slice p2 k13 k14, Value.slice (some { block := k15, off := 0 }) 2 2] w15 fun e4 w16 =>
              ∃ n6 : Int,
              ∃ n7 : Int,
              ∃ p3 : Option Addr,
              ∃ k16 : Nat,
              ∃ k17 : Nat,
              ∃ c4 : Bool,
              (e4 = Ending.returned (Value.tuple #[Value.agg #[Value.int IntKind.i64 n6, Value.int IntKind.i64 n7, Value.slice p3 k16 k17], Value.bool c4])) ∧
              (Keep ([k1]) w15 w16) ∧
              ∀ k18 : Nat,
              (w16.heap.size ≤ k18) →
              brB (!c4)
                (∀ w17 : World,
                (Locl ([k18, k1]) w16 w17) →
                R (Ending.returned (Value.bool false)) w17)
                (∀ w18 : World,
                (Locl ([k18, k1]) w16 w18) →
                Calls P F.ref09_Same #[Value.agg #[Value.int IntKind.i64 n6, Value.int IntKind.i64 n7, Value.slice p3 k16 k17], Value.agg #[Value.int IntKind.i64 x1, Value.int IntKind.i64 x2, Value.slice sa1 sl1 sc1]] w18 fun e5 w19 =>
                ∃ c5 : Bool,
                (e5 = Ending.returned (Value.bool c5)) ∧
                (Keep ([k18, k1]) w18 w19) ∧
                brB (!c5)
                  (R (Ending.returned (Value.bool false)) w19)
                  (I2 [] w19))) ∧
            ∀ k19 : Nat,
            (w15.heap.size ≤ k19) →
            ∀ w20 : World,
            (Locl ([k19, k1]) w15 w20) →
            Calls P F.law21_in #[Value.agg #[Value.int IntKind.i64 x1, Value.int IntKind.i64 x2, Value.slice sa1 sl1 sc1], Value.slice p2 k13 k14, Value.slice (some { block := k15, off := 0 }) 2 2] w20 fun e6 w21 =>
            ∃ n8 : Int,
            ∃ n9 : Int,
            ∃ p4 : Option Addr,
            ∃ k20 : Nat,
            ∃ k21 : Nat,
            ∃ c6 : Bool,
            (e6 = Ending.returned (Value.tuple #[Value.agg #[Value.int IntKind.i64 n8, Value.int IntKind.i64 n9, Value.slice p4 k20 k21], Value.bool c6])) ∧
            (Keep ([k19, k1]) w20 w21) ∧
            brB (!c6)
              (∀ w22 : World,
              (Locl ([k19, k1]) w21 w22) →
              R (Ending.returned (Value.bool false)) w22)
              (∀ w23 : World,
              (Locl ([k19, k1]) w21 w23) →
              Calls P F.ref09_Same #[Value.agg #[Value.int IntKind.i64 n8, Value.int IntKind.i64 n9, Value.slice p4 k20 k21], Value.agg #[Value.int IntKind.i64 x1, Value.int IntKind.i64 x2, Value.slice sa1 sl1 sc1]] w23 fun e7 w24 =>
              ∃ c7 : Bool,
              (e7 = Ending.returned (Value.bool c7)) ∧
              (Keep ([k19, k1]) w23 w24) ∧
              brB (!c7)
                (R (Ending.returned (Value.bool false)) w24)
                (I2 [] w24))) ∧
          ∀ k22 : Nat,
          (w14.drew.heap.size ≤ k22) →
          ∀ w25 : World,
          (Locl ([k22, k1]) (w14.drew) w25) →
          ∀ k23 : Nat,
          ∀ w26 : World,
          (New w25 (Obj.cells #[Value.slice none 0 0, Value.slice none 0 0] 22) k23 w26) →
          Calls P F.law21_in #[Value.agg #[Value.int IntKind.i64 x1, Value.int IntKind.i64 x2, Value.slice sa1 sl1 sc1], Value.slice p2 k13 k14, Value.slice (some { block := k23, off := 0 }) 2 2] w26 fun e8 w27 =>
          ∃ n10 : Int,
          ∃ n11 : Int,
          ∃ p5 : Option Addr,
          ∃ k24 : Nat,
          ∃ k25 : Nat,
          ∃ c8 : Bool,
          (e8 = Ending.returned (Value.tuple #[Value.agg #[Value.int IntKind.i64 n10, Value.int IntKind.i64 n11, Value.slice p5 k24 k25], Value.bool c8])) ∧
          (Keep ([k22, k1]) w26 w27) ∧
          brB (!c8)
            (∀ w28 : World,
            (Locl ([k22, k1]) w27 w28) →
            R (Ending.returned (Value.bool false)) w28)
            (∀ w29 : World,
            (Locl ([k22, k1]) w27 w29) →
            Calls P F.ref09_Same #[Value.agg #[Value.int IntKind.i64 n10, Value.int IntKind.i64 n11, Value.slice p5 k24 k25], Value.agg #[Value.int IntKind.i64 x1, Value.int IntKind.i64 x2, Value.slice sa1 sl1 sc1]] w29 fun e9 w30 =>
            ∃ c9 : Bool,
            (e9 = Ending.returned (Value.bool c9)) ∧
            (Keep ([k22, k1]) w29 w30) ∧
            brB (!c9)
              (R (Ending.returned (Value.bool false)) w30)
              (I2 [] w30))) ∧
        ∀ w31 : World,
        (I2 [] w31) →
        (I1 [Value.int IntKind.i64 (IntKind.i64.wrap (n5 + 1))] w31) ∧
        m1 [Value.int IntKind.i64 (IntKind.i64.wrap (n5 + 1))] w31 < m1 [Value.int IntKind.i64 n5] w14)
        (∀ k26 : Nat,
        ∀ w32 : World,
        (New w14 (Obj.cells #[Value.string { data := #[114, 111, 116, 97, 116, 101] }, Value.string { data := #[114, 111, 116, 97, 116, 101] }, Value.string { data := #[114, 111, 116, 97, 116, 101] }, Value.string { data := #[114, 111, 116, 97, 116, 101] }] 9) k26 w32) →
        ∀ k27 : Nat,
        ∀ w33 : World,
        (New w32 (Obj.cells #[Value.int IntKind.i64 1] 3) k27 w33) →
        ∀ k28 : Nat,
        ∀ w34 : World,
        (New w33 (Obj.cells #[Value.int IntKind.i64 1] 3) k28 w34) →
        ∀ k29 : Nat,
        ∀ w35 : World,
        (New w34 (Obj.cells #[Value.int IntKind.i64 1] 3) k29 w35) →
        ∀ k30 : Nat,
        ∀ w36 : World,
        (New w35 (Obj.cells #[Value.int IntKind.i64 1] 3) k30 w36) →
        ∀ k31 : Nat,
        ∀ w37 : World,
        (New w36 (Obj.cells #[Value.slice (some { block := k27, off := 0 }) 1 1, Value.slice (some { block := k28, off := 0 }) 1 1, Value.slice (some { block := k29, off := 0 }) 1 1, Value.slice (some { block := k30, off := 0 }) 1 1] 22) k31 w37) →
        Calls P F.law21_in #[Value.agg #[Value.int IntKind.i64 x1, Value.int IntKind.i64 x2, Value.slice sa1 sl1 sc1], Value.slice (some { block := k26, off := 0 }) 4 4, Value.slice (some { block := k31, off := 0 }) 4 4] w37 fun e10 w38 =>
        ∃ n12 : Int,
        ∃ n13 : Int,
        ∃ p6 : Option Addr,
        ∃ k32 : Nat,
        ∃ k33 : Nat,
        ∃ c10 : Bool,
        (e10 = Ending.returned (Value.tuple #[Value.agg #[Value.int IntKind.i64 n12, Value.int IntKind.i64 n13, Value.slice p6 k32 k33], Value.bool c10])) ∧
        (Keep ([k1]) w37 w38) ∧
        ∀ k34 : Nat,
        (w38.heap.size ≤ k34) →
        ∀ w39 : World,
        (Locl ([k34, k1]) w38 w39) →
        ∀ k35 : Nat,
        ∀ w40 : World,
        (New w39 (Obj.cells #[Value.string { data := #[114, 111, 116, 97, 116, 101] }, Value.string { data := #[114, 111, 116, 97, 116, 101] }] 9) k35 w40) →
        ∀ k36 : Nat,
        ∀ w41 : World,
        (New w40 (Obj.cells #[Value.int IntKind.i64 1] 3) k36 w41) →
        ∀ k37 : Nat,
        ∀ w42 : World,
        (New w41 (Obj.cells #[Value.int IntKind.i64 3] 3) k37 w42) →
        ∀ k38 : Nat,
        ∀ w43 : World,
        (New w42 (Obj.cells #[Value.slice (some { block := k36, off := 0 }) 1 1, Value.slice (some { block := k37, off := 0 }) 1 1] 22) k38 w43) →
        Calls P F.law21_in #[Value.agg #[Value.int IntKind.i64 x1, Value.int IntKind.i64 x2, Value.slice sa1 sl1 sc1], Value.slice (some { block := k35, off := 0 }) 2 2, Value.slice (some { block := k38, off := 0 }) 2 2] w43 fun e11 w44 =>
        ∃ n14 : Int,
        ∃ n15 : Int,
        ∃ p7 : Option Addr,
        ∃ k39 : Nat,
        ∃ k40 : Nat,
        ∃ c11 : Bool,
        (e11 = Ending.returned (Value.tuple #[Value.agg #[Value.int IntKind.i64 n14, Value.int IntKind.i64 n15, Value.slice p7 k39 k40], Value.bool c11])) ∧
        (Keep ([k34, k1]) w43 w44) ∧
        ∀ k41 : Nat,
        (w44.heap.size ≤ k41) →
        ∀ w45 : World,
        (Locl ([k41, k34, k1]) w44 w45) →
        ∀ k42 : Nat,
        ∀ w46 : World,
        (New w45 (Obj.cells #[Value.string { data := #[114, 111, 108, 108] }, Value.string { data := #[114, 111, 108, 108] }] 9) k42 w46) →
        ∀ k43 : Nat,
        ∀ w47 : World,
        (New w46 (Obj.cells #[Value.int IntKind.i64 (divZ BinOp.rem IntKind.i64 n3 4097), Value.int IntKind.i64 (divZ BinOp.rem IntKind.i64 n4 4097)] 3) k43 w47) →
        ∀ k44 : Nat,
        ∀ w48 : World,
        (New w47 (Obj.cells #[Value.int IntKind.i64 (IntKind.i64.wrap (0 - divZ BinOp.rem IntKind.i64 n3 4097)), Value.int IntKind.i64 (IntKind.i64.wrap (0 - divZ BinOp.rem IntKind.i64 n4 4097))] 3) k44 w48) →
        ∀ k45 : Nat,
        ∀ w49 : World,
        (New w48 (Obj.cells #[Value.slice (some { block := k43, off := 0 }) 2 2, Value.slice (some { block := k44, off := 0 }) 2 2] 22) k45 w49) →
        Calls P F.law21_in #[Value.agg #[Value.int IntKind.i64 x1, Value.int IntKind.i64 x2, Value.slice sa1 sl1 sc1], Value.slice (some { block := k42, off := 0 }) 2 2, Value.slice (some { block := k45, off := 0 }) 2 2] w49 fun e12 w50 =>
        ∃ n16 : Int,
        ∃ n17 : Int,
        ∃ p8 : Option Addr,
        ∃ k46 : Nat,
        ∃ k47 : Nat,
        ∃ c12 : Bool,
        (e12 = Ending.returned (Value.tuple #[Value.agg #[Value.int IntKind.i64 n16, Value.int IntKind.i64 n17, Value.slice p8 k46 k47], Value.bool c12])) ∧
        (Keep ([k41, k34, k1]) w49 w50) ∧
        ∀ k48 : Nat,
        (w50.heap.size ≤ k48) →
        ∀ w51 : World,
        (Locl ([k48, k41, k34, k1]) w50 w51) →
        ∀ k49 : Nat,
        ∀ w52 : World,
        (New w51 (Obj.cells #[Value.string { data := #[102, 108, 105, 112] }, Value.string { data := #[102, 108, 111, 112] }] 9) k49 w52) →
        ∀ k50 : Nat,
        ∀ w53 : World,
        (New w52 (Obj.cells #[Value.slice none 0 0, Value.slice none 0 0] 22) k50 w53) →
        Calls P F.law21_in #[Value.agg #[Value.int IntKind.i64 x1, Value.int IntKind.i64 x2, Value.slice sa1 sl1 sc1], Value.slice (some { block := k49, off := 0 }) 2 2, Value.slice (some { block := k50, off := 0 }) 2 2] w53 fun e13 w54 =>
        ∃ n18 : Int,
        ∃ n19 : Int,
        ∃ p9 : Option Addr,
        ∃ k51 : Nat,
        ∃ k52 : Nat,
        ∃ c13 : Bool,
        (e13 = Ending.returned (Value.tuple #[Value.agg #[Value.int IntKind.i64 n18, Value.int IntKind.i64 n19, Value.slice p9 k51 k52], Value.bool c13])) ∧
        (Keep ([k48, k41, k34, k1]) w53 w54) ∧
        ∀ k53 : Nat,
        (w54.heap.size ≤ k53) →
        ∀ w55 : World,
        (Locl ([k53, k48, k41, k34, k1]) w54 w55) →
        ∀ k54 : Nat,
        ∀ w56 : World,
        (New w55 (Obj.cells #[Value.string { data := #[114, 111, 116, 97, 116, 101] }] 9) k54 w56) →
        ∀ k55 : Nat,
        ∀ w57 : World,
        (New w56 (Obj.cells #[Value.int IntKind.i64 2] 3) k55 w57) →
        ∀ k56 : Nat,
        ∀ w58 : World,
        (New w57 (Obj.cells #[Value.slice (some { block := k55, off := 0 }) 1 1] 22) k56 w58) →
        Calls P F.law21_in #[Value.agg #[Value.int IntKind.i64 x1, Value.int IntKind.i64 x2, Value.slice sa1 sl1 sc1], Value.slice (some { block := k54, off := 0 }) 1 1, Value.slice (some { block := k56, off := 0 }) 1 1] w58 fun e14 w59 =>
        ∃ n20 : Int,
        ∃ n21 : Int,
        ∃ p10 : Option Addr,
        ∃ k57 : Nat,
        ∃ k58 : Nat,
        ∃ c14 : Bool,
        (e14 = Ending.returned (Value.tuple #[Value.agg #[Value.int IntKind.i64 n20, Value.int IntKind.i64 n21, Value.slice p10 k57 k58], Value.bool c14])) ∧
        (Keep ([k53, k48, k41, k34, k1]) w58 w59) ∧
        ∀ k59 : Nat,
        (w59.heap.size ≤ k59) →
        brB (c10 && c11 && c12 && c13 && c14)
          (∀ w60 : World,
          (Locl ([k59, k53, k48, k41, k34, k1]) w59 w60) →
          Calls P F.ref09_Same #[Value.agg #[Value.int IntKind.i64 n12, Value.int IntKind.i64 n13, Value.slice p6 k32 k33], Value.agg #[Value.int IntKind.i64 x1, Value.int IntKind.i64 x2, Value.slice sa1 sl1 sc1]] w60 fun e15 w61 =>
          ∃ c15 : Bool,
          (e15 = Ending.returned (Value.bool c15)) ∧
          (Keep ([k59, k53, k48, k41, k34, k1]) w60 w61) ∧
          brB (c15)
            (Calls P F.ref09_Same #[Value.agg #[Value.int IntKind.i64 n14, Value.int IntKind.i64 n15, Value.slice p7 k39 k40], Value.agg #[Value.int IntKind.i64 x1, Value.int IntKind.i64 x2, Value.slice sa1 sl1 sc1]] w61 fun e16 w62 =>
            ∃ c16 : Bool,
            (e16 = Ending.returned (Value.bool c16)) ∧
            (Keep ([k59, k53, k48, k41, k34, k1]) w61 w62) ∧
            brB (c16)
              (Calls P F.ref09_Same #[Value.agg #[Value.int IntKind.i64 n16, Value.int IntKind.i64 n17, Value.slice p8 k46 k47], Value.agg #[Value.int IntKind.i64 x1, Value.int IntKind.i64 x2, Value.slice sa1 sl1 sc1]] w62 fun e17 w63 =>
              ∃ c17 : Bool,
              (e17 = Ending.returned (Value.bool c17)) ∧
              (Keep ([k59, k53, k48, k41, k34, k1]) w62 w63) ∧
              brB (c17)
                (Calls P F.ref09_Same #[Value.agg #[Value.int IntKind.i64 n18, Value.int IntKind.i64 n19, Value.slice p9 k51 k52], Value.agg #[Value.int IntKind.i64 n20, Value.int IntKind.i64 n21, Value.slice p10 k57 k58]] w63 fun e18 w64 =>
                ∃ c18 : Bool,
                (e18 = Ending.returned (Value.bool c18)) ∧
                (Keep ([k59, k53, k48, k41, k34, k1]) w63 w64) ∧
                R (Ending.returned (Value.bool c18)) w64)
                (R (Ending.returned (Value.bool false)) w63))
              (R (Ending.returned (Value.bool false)) w62))
            (R (Ending.returned (Value.bool false)) w61))
          (∀ w65 : World,
          (Locl ([k59, k53, k48, k41, k34, k1]) w59 w65) →
          R (Ending.returned (Value.bool false)) w65))))
theorem calls_law21_MovesTurns (x1 : Int) (x2 : Int) (sa1 : Option Addr) (sl1 sc1 : Nat) (x3 : Int) (x4 : Int) (w : World) (R : Ending → World → Prop) (h : vc_law21_MovesTurns x1 x2 sa1 sl1 sc1 x3 x4 w R) : Calls P F.law21_MovesTurns #[.agg #[.int .i64 x1, .int .i64 x2, .slice sa1 sl1 sc1], .agg #[.int .i64 x3, .int .i64 x4]] w R :=
  calls_of_vc (fn := Try.f5) (ac := ac_law21_MovesTurns) (args := [.agg #[.int .i64 x1, .int .i64 x2, .slice sa1 sl1 sc1], .agg #[.int .i64 x3, .int .i64 x4]]) mixed Try.func5 (by kernel_rfl) (cast (by unfold vc_law21_MovesTurns FnVc; kernel_rfl) h)
/-- darkroom/darkroomlaw21.MovesBack -/
def vc_law21_MovesBack (x1 : Int) (x2 : Int) (sa1 : Option Addr) (sl1 sc1 : Nat) (x3 : Int) (w : World) (R : Ending → World → Prop) : Prop :=
  ∀ k1 : Nat,
  (w.heap.size ≤ k1) →
  ∀ w1 : World,
  (Locl ([k1]) w w1) →
  Calls P F.law21_wakes #[] w1 fun e1 w2 =>
  ∃ c1 : Bool,
  (e1 = Ending.returned (Value.bool c1)) ∧
  (Keep ([k1]) w1 w2) ∧
  brB (!c1)
    (R (Ending.returned (Value.bool false)) w2)
    (Calls P F.ref09_Good #[Value.agg #[Value.int IntKind.i64 x1, Value.int IntKind.i64 x2, Value.slice sa1 sl1 sc1]] w2 fun e2 w3 =>
    ∃ c2 : Bool,
    (e2 = Ending.returned (Value.bool c2)) ∧
    (Keep ([k1]) w2 w3) ∧
    brB (!c2 || decide (x1 > 60) || decide (x2 > 60))
      (R (Ending.returned (Value.bool true)) w3)
      (∀ k2 : Nat,
      ∀ w4 : World,
      (New w3 (Obj.cells #[Value.string { data := #[102, 114, 97, 109, 101] }, Value.string { data := #[99, 114, 111, 112] }] 9) k2 w4) →
      ∀ k3 : Nat,
      ∀ w5 : World,
      (New w4 (Obj.cells #[Value.int IntKind.i64 (IntKind.i64.wrap (1 + IntKind.i64.wrap (divZ BinOp.rem IntKind.u64 (IntKind.u64.wrap x3) 5))), Value.int IntKind.i64 1, Value.int IntKind.i64 2, Value.int IntKind.i64 3, Value.int IntKind.i64 4] 3) k3 w5) →
      ∀ k4 : Nat,
      ∀ w6 : World,
      (New w5 (Obj.cells #[Value.int IntKind.i64 (IntKind.i64.wrap (1 + IntKind.i64.wrap (divZ BinOp.rem IntKind.u64 (IntKind.u64.wrap x3) 5))), Value.int IntKind.i64 (IntKind.i64.wrap (1 + IntKind.i64.wrap (divZ BinOp.rem IntKind.u64 (IntKind.u64.wrap x3) 5))), Value.int IntKind.i64 x1, Value.int IntKind.i64 x2] 3) k4 w6) →
      ∀ k5 : Nat,
      ∀ w7 : World,
      (New w6 (Obj.cells #[Value.slice (some { block := k3, off := 0 }) 5 5, Value.slice (some { block := k4, off := 0 }) 4 4] 22) k5 w7) →
      Calls P F.law21_in #[Value.agg #[Value.int IntKind.i64 x1, Value.int IntKind.i64 x2, Value.slice sa1 sl1 sc1], Value.slice (some { block := k2, off := 0 }) 2 2, Value.slice (some { block := k5, off := 0 }) 2 2] w7 fun e3 w8 =>
      ∃ n1 : Int,
      ∃ n2 : Int,
      ∃ p1 : Option Addr,
      ∃ k6 : Nat,
      ∃ k7 : Nat,
      ∃ c3 : Bool,
      (e3 = Ending.returned (Value.tuple #[Value.agg #[Value.int IntKind.i64 n1, Value.int IntKind.i64 n2, Value.slice p1 k6 k7], Value.bool c3])) ∧
      (Keep ([k1]) w7 w8) ∧
      ∀ k8 : Nat,
      (w8.heap.size ≤ k8) →
      ∀ w9 : World,
      (Locl ([k8, k1]) w8 w9) →
      ∀ k9 : Nat,
      ∀ w10 : World,
      (New w9 (Obj.cells #[Value.string { data := #[101, 120, 116, 101, 110, 100] }, Value.string { data := #[99, 114, 111, 112] }] 9) k9 w10) →
      ∀ k10 : Nat,
      ∀ w11 : World,
      (New w10 (Obj.cells #[Value.int IntKind.i64 (IntKind.i64.wrap (1 + IntKind.i64.wrap (divZ BinOp.rem IntKind.u64 (IntKind.u64.wrap x3) 5))), Value.int IntKind.i64 (IntKind.i64.wrap (2 * IntKind.i64.wrap (1 + IntKind.i64.wrap (divZ BinOp.rem IntKind.u64 (IntKind.u64.wrap x3) 5)))), Value.int IntKind.i64 3, Value.int IntKind.i64 0] 3) k10 w11) →
      ∀ k11 : Nat,
      ∀ w12 : World,
      (New w11 (Obj.cells #[Value.int IntKind.i64 (IntKind.i64.wrap (1 + IntKind.i64.wrap (divZ BinOp.rem IntKind.u64 (IntKind.u64.wrap x3) 5))), Value.int IntKind.i64 (IntKind.i64.wrap (2 * IntKind.i64.wrap (1 + IntKind.i64.wrap (divZ BinOp.rem IntKind.u64 (IntKind.u64.wrap x3) 5)))), Value.int IntKind.i64 x1, Value.int IntKind.i64 x2] 3) k11 w12) →
      ∀ k12 : Nat,
      ∀ w13 : World,
      (New w12 (Obj.cells #[Value.slice (some { block := k10, off := 0 }) 4 4, Value.slice (some { block := k11, off := 0 }) 4 4] 22) k12 w13) →
      Calls P F.law21_in #[Value.agg #[Value.int IntKind.i64 x1, Value.int IntKind.i64 x2, Value.slice sa1 sl1 sc1], Value.slice (some { block := k9, off := 0 }) 2 2, Value.slice (some { block := k12, off := 0 }) 2 2] w13 fun e4 w14 =>
      ∃ n3 : Int,
      ∃ n4 : Int,
      ∃ p2 : Option Addr,
      ∃ k13 : Nat,
      ∃ k14 : Nat,
      ∃ c4 : Bool,
      (e4 = Ending.returned (Value.tuple #[Value.agg #[Value.int IntKind.i64 n3, Value.int IntKind.i64 n4, Value.slice p2 k13 k14], Value.bool c4])) ∧
      (Keep ([k8, k1]) w13 w14) ∧
      ∀ k15 : Nat,
      (w14.heap.size ≤ k15) →
      brB (decide (IntKind.i64.wrap (IntKind.i64.wrap (IntKind.i64.wrap (x1 * x2) * IntKind.i64.wrap (1 + IntKind.i64.wrap (divZ BinOp.rem IntKind.u64 (IntKind.u64.wrap x3) 5))) * IntKind.i64.wrap (1 + IntKind.i64.wrap (divZ BinOp.rem IntKind.u64 (IntKind.u64.wrap x3) 5))) > 65536))
        (brB (c3 && c4)
          (∀ w15 : World,
          (Locl ([k15, k8, k1]) w14 w15) →
          Calls P F.ref09_Same #[Value.agg #[Value.int IntKind.i64 n1, Value.int IntKind.i64 n2, Value.slice p1 k6 k7], Value.agg #[Value.int IntKind.i64 x1, Value.int IntKind.i64 x2, Value.slice sa1 sl1 sc1]] w15 fun e5 w16 =>
          ∃ c5 : Bool,
          (e5 = Ending.returned (Value.bool c5)) ∧
          (Keep ([k15, k8, k1]) w15 w16) ∧
          brB (c5)
            (Calls P F.ref09_Same #[Value.agg #[Value.int IntKind.i64 n3, Value.int IntKind.i64 n4, Value.slice p2 k13 k14], Value.agg #[Value.int IntKind.i64 x1, Value.int IntKind.i64 x2, Value.slice sa1 sl1 sc1]] w16 fun e6 w17 =>
            ∃ c6 : Bool,
            (e6 = Ending.returned (Value.bool c6)) ∧
            (Keep ([k15, k8, k1]) w16 w17) ∧
            R (Ending.returned (Value.bool c6)) w17)
            (R (Ending.returned (Value.bool false)) w16))
          (∀ w18 : World,
          (Locl ([k15, k8, k1]) w14 w18) →
          R (Ending.returned (Value.bool false)) w18))
        (∀ w19 : World,
        (Locl ([k15, k8, k1]) w14 w19) →
        ∀ k16 : Nat,
        ∀ w20 : World,
        (New w19 (Obj.cells #[Value.string { data := #[122, 111, 111, 109] }, Value.string { data := #[115, 104, 114, 105, 110, 107] }] 9) k16 w20) →
        ∀ k17 : Nat,
        ∀ w21 : World,
        (New w20 (Obj.cells #[Value.int IntKind.i64 (IntKind.i64.wrap (1 + IntKind.i64.wrap (divZ BinOp.rem IntKind.u64 (IntKind.u64.wrap x3) 5)))] 3) k17 w21) →
        ∀ k18 : Nat,
        ∀ w22 : World,
        (New w21 (Obj.cells #[Value.int IntKind.i64 (IntKind.i64.wrap (1 + IntKind.i64.wrap (divZ BinOp.rem IntKind.u64 (IntKind.u64.wrap x3) 5)))] 3) k18 w22) →
        ∀ k19 : Nat,
        ∀ w23 : World,
        (New w22 (Obj.cells #[Value.slice (some { block := k17, off := 0 }) 1 1, Value.slice (some { block := k18, off := 0 }) 1 1] 22) k19 w23) →
        Calls P F.law21_in #[Value.agg #[Value.int IntKind.i64 x1, Value.int IntKind.i64 x2, Value.slice sa1 sl1 sc1], Value.slice (some { block := k16, off := 0 }) 2 2, Value.slice (some { block := k19, off := 0 }) 2 2] w23 fun e7 w24 =>
        ∃ n5 : Int,
        ∃ n6 : Int,
        ∃ p3 : Option Addr,
        ∃ k20 : Nat,
        ∃ k21 : Nat,
        ∃ c7 : Bool,
        (e7 = Ending.returned (Value.tuple #[Value.agg #[Value.int IntKind.i64 n5, Value.int IntKind.i64 n6, Value.slice p3 k20 k21], Value.bool c7])) ∧
        (Keep ([k15, k8, k1]) w23 w24) ∧
        ∀ k22 : Nat,
        (w24.heap.size ≤ k22) →
        ∀ w25 : World,
        (Locl ([k22, k15, k8, k1]) w24 w25) →
        ∀ k23 : Nat,
        ∀ w26 : World,
        (New w25 (Obj.cells #[Value.string { data := #[116, 105, 108, 101] }, Value.string { data := #[99, 114, 111, 112] }] 9) k23 w26) →
        ∀ k24 : Nat,
        ∀ w27 : World,
        (New w26 (Obj.cells #[Value.int IntKind.i64 (IntKind.i64.wrap (1 + IntKind.i64.wrap (divZ BinOp.rem IntKind.u64 (IntKind.u64.wrap x3) 5))), Value.int IntKind.i64 1] 3) k24 w27) →
        ∀ k25 : Nat,
        ∀ w28 : World,
        (New w27 (Obj.cells #[Value.int IntKind.i64 (IntKind.i64.wrap (x1 * IntKind.i64.wrap (IntKind.i64.wrap (1 + IntKind.i64.wrap (divZ BinOp.rem IntKind.u64 (IntKind.u64.wrap x3) 5)) - 1))), Value.int IntKind.i64 0, Value.int IntKind.i64 x1, Value.int IntKind.i64 x2] 3) k25 w28) →
        ∀ k26 : Nat,
        ∀ w29 : World,
        (New w28 (Obj.cells #[Value.slice (some { block := k24, off := 0 }) 2 2, Value.slice (some { block := k25, off := 0 }) 4 4] 22) k26 w29) →
        Calls P F.law21_in #[Value.agg #[Value.int IntKind.i64 x1, Value.int IntKind.i64 x2, Value.slice sa1 sl1 sc1], Value.slice (some { block := k23, off := 0 }) 2 2, Value.slice (some { block := k26, off := 0 }) 2 2] w29 fun e8 w30 =>
        ∃ n7 : Int,
        ∃ n8 : Int,
        ∃ p4 : Option Addr,
        ∃ k27 : Nat,
        ∃ k28 : Nat,
        ∃ c8 : Bool,
        (e8 = Ending.returned (Value.tuple #[Value.agg #[Value.int IntKind.i64 n7, Value.int IntKind.i64 n8, Value.slice p4 k27 k28], Value.bool c8])) ∧
        (Keep ([k22, k15, k8, k1]) w29 w30) ∧
        ∀ k29 : Nat,
        (w30.heap.size ≤ k29) →
        brB (c3 && c4 && c7 && c8)
          (∀ w31 : World,
          (Locl ([k29, k22, k15, k8, k1]) w30 w31) →
          Calls P F.ref09_Same #[Value.agg #[Value.int IntKind.i64 n1, Value.int IntKind.i64 n2, Value.slice p1 k6 k7], Value.agg #[Value.int IntKind.i64 x1, Value.int IntKind.i64 x2, Value.slice sa1 sl1 sc1]] w31 fun e9 w32 =>
          ∃ c9 : Bool,
          (e9 = Ending.returned (Value.bool c9)) ∧
          (Keep ([k29, k22, k15, k8, k1]) w31 w32) ∧
          brB (c9)
            (Calls P F.ref09_Same #[Value.agg #[Value.int IntKind.i64 n3, Value.int IntKind.i64 n4, Value.slice p2 k13 k14], Value.agg #[Value.int IntKind.i64 x1, Value.int IntKind.i64 x2, Value.slice sa1 sl1 sc1]] w32 fun e10 w33 =>
            ∃ c10 : Bool,
            (e10 = Ending.returned (Value.bool c10)) ∧
            (Keep ([k29, k22, k15, k8, k1]) w32 w33) ∧
            brB (c10)
              (Calls P F.ref09_Same #[Value.agg #[Value.int IntKind.i64 n5, Value.int IntKind.i64 n6, Value.slice p3 k20 k21], Value.agg #[Value.int IntKind.i64 x1, Value.int IntKind.i64 x2, Value.slice sa1 sl1 sc1]] w33 fun e11 w34 =>
              ∃ c11 : Bool,
              (e11 = Ending.returned (Value.bool c11)) ∧
              (Keep ([k29, k22, k15, k8, k1]) w33 w34) ∧
              brB (c11)
                (Calls P F.ref09_Same #[Value.agg #[Value.int IntKind.i64 n7, Value.int IntKind.i64 n8, Value.slice p4 k27 k28], Value.agg #[Value.int IntKind.i64 x1, Value.int IntKind.i64 x2, Value.slice sa1 sl1 sc1]] w34 fun e12 w35 =>
                ∃ c12 : Bool,
                (e12 = Ending.returned (Value.bool c12)) ∧
                (Keep ([k29, k22, k15, k8, k1]) w34 w35) ∧
                R (Ending.returned (Value.bool c12)) w35)
                (R (Ending.returned (Value.bool false)) w34))
              (R (Ending.returned (Value.bool false)) w33))
            (R (Ending.returned (Value.bool false)) w32))
          (∀ w36 : World,
          (Locl ([k29, k22, k15, k8, k1]) w30 w36) →
          R (Ending.returned (Value.bool false)) w36))))
theorem calls_law21_MovesBack (x1 : Int) (x2 : Int) (sa1 : Option Addr) (sl1 sc1 : Nat) (x3 : Int) (w : World) (R : Ending → World → Prop) (h : vc_law21_MovesBack x1 x2 sa1 sl1 sc1 x3 w R) : Calls P F.law21_MovesBack #[.agg #[.int .i64 x1, .int .i64 x2, .slice sa1 sl1 sc1], .int .i64 x3] w R :=
  calls_of_vc (fn := Try.f6) (ac := ac_law21_MovesBack) (args := [.agg #[.int .i64 x1, .int .i64 x2, .slice sa1 sl1 sc1], .int .i64 x3]) mixed Try.func6 (by kernel_rfl) (cast (by unfold vc_law21_MovesBack FnVc; kernel_rfl) h)
/-- darkroom/darkroomlaw21.MovesTrims -/
def vc_law21_MovesTrims (x1 : Int) (x2 : Int) (sa1 : Option Addr) (sl1 sc1 : Nat) (w : World) (R : Ending → World → Prop) : Prop :=
  ∀ k1 : Nat,
  (w.heap.size ≤ k1) →
  ∀ w1 : World,
  (Locl ([k1]) w w1) →
  Calls P F.law21_wakes #[] w1 fun e1 w2 =>
  ∃ c1 : Bool,
  (e1 = Ending.returned (Value.bool c1)) ∧
  (Keep ([k1]) w1 w2) ∧
  brB (!c1)
    (R (Ending.returned (Value.bool false)) w2)
    (Calls P F.law21_own #[Value.agg #[Value.int IntKind.i64 x1, Value.int IntKind.i64 x2, Value.slice sa1 sl1 sc1]] w2 fun e2 w3 =>
    ∃ n1 : Int,
    ∃ n2 : Int,
    ∃ p1 : Option Addr,
    ∃ k2 : Nat,
    ∃ k3 : Nat,
    (e2 = Ending.returned (Value.agg #[Value.int IntKind.i64 n1, Value.int IntKind.i64 n2, Value.slice p1 k2 k3])) ∧
    (Keep ([k1]) w2 w3) ∧
    Calls P F.moves_Apply #[Value.string { data := #[116, 114, 105, 109] }, Value.slice none 0 0, Value.agg #[Value.int IntKind.i64 n1, Value.int IntKind.i64 n2, Value.slice p1 k2 k3]] w3 fun e3 w4 =>
    ∃ n3 : Int,
    ∃ n4 : Int,
    ∃ p2 : Option Addr,
    ∃ k4 : Nat,
    ∃ k5 : Nat,
    ∃ n5 : Int,
    (e3 = Ending.returned (Value.tuple #[Value.agg #[Value.int IntKind.i64 n3, Value.int IntKind.i64 n4, Value.slice p2 k4 k5], Value.int IntKind.i64 n5])) ∧
    (Keep ([k1]) w3 w4) ∧
    ∀ k6 : Nat,
    (w4.heap.size ≤ k6) →
    ∀ w5 : World,
    (Locl ([k6, k1]) w4 w5) →
    Calls P F.ref09_Good #[Value.agg #[Value.int IntKind.i64 x1, Value.int IntKind.i64 x2, Value.slice sa1 sl1 sc1]] w5 fun e4 w6 =>
    ∃ c2 : Bool,
    (e4 = Ending.returned (Value.bool c2)) ∧
    (Keep ([k6, k1]) w5 w6) ∧
    brB (!c2)
      (R (Ending.returned (Value.bool (n5 == 6))) w6)
      (∃ I1 : List Value → World → Prop,
      (idx (sa1) (sl1) (0) (1) fun a1 =>
        ∃ n6 : Int,
        (w6.drew.cell? a1 = some (Value.int IntKind.u16 n6)) ∧
        idx (sa1) (sl1) (1) (1) fun a2 =>
        ∃ n7 : Int,
        (w6.drew.cell? a2 = some (Value.int IntKind.u16 n7)) ∧
        idx (sa1) (sl1) (2) (1) fun a3 =>
        ∃ n8 : Int,
        (w6.drew.cell? a3 = some (Value.int IntKind.u16 n8)) ∧
        idx (sa1) (sl1) (3) (1) fun a4 =>
        ∃ n9 : Int,
        (w6.drew.cell? a4 = some (Value.int IntKind.u16 n9)) ∧
        (∀ k7 : Nat,
          ∀ w7 : World,
          (New (w6.drew) (Obj.cells #[Value.int IntKind.i64 3, Value.int IntKind.i64 (IntKind.i64.wrap n6), Value.int IntKind.i64 (IntKind.i64.wrap n7), Value.int IntKind.i64 (IntKind.i64.wrap n8), Value.int IntKind.i64 (IntKind.i64.wrap n9)] 3) k7 w7) →
          (Calls P F.law21_own #[Value.agg #[Value.int IntKind.i64 x1, Value.int IntKind.i64 x2, Value.slice sa1 sl1 sc1]] w7 fun e5 w8 =>
            ∃ n10 : Int,
            ∃ n11 : Int,
            ∃ p3 : Option Addr,
            ∃ k8 : Nat,
            ∃ k9 : Nat,
            (e5 = Ending.returned (Value.agg #[Value.int IntKind.i64 n10, Value.int IntKind.i64 n11, Value.slice p3 k8 k9])) ∧
            (Keep ([k6, k1]) w7 w8) ∧
            (Keeps w7 w8) ∧
            (Calls P F.moves_Apply #[Value.string { data := #[102, 114, 97, 109, 101] }, Value.slice (some { block := k7, off := 0 }) 5 5, Value.agg #[Value.int IntKind.i64 n10, Value.int IntKind.i64 n11, Value.slice p3 k8 k9]] w8 fun e6 w9 =>
              ∃ n12 : Int,
              ∃ n13 : Int,
              ∃ p4 : Option Addr,
              ∃ k10 : Nat,
              ∃ k11 : Nat,
              ∃ n14 : Int,
              (e6 = Ending.returned (Value.tuple #[Value.agg #[Value.int IntKind.i64 n12, Value.int IntKind.i64 n13, Value.slice p4 k10 k11], Value.int IntKind.i64 n14])) ∧
              (Keep ([k6, k1]) w8 w9) ∧
              ∀ k12 : Nat,
              (w9.heap.size ≤ k12) →
              ∀ w10 : World,
              (Locl ([k12, k6, k1]) w9 w10) →
              I1 [Value.pointer (some { block := k12, off := 0 }), Value.int IntKind.i64 n12, Value.int IntKind.i64 n13, Value.slice p4 k10 k11] w10) ∧
            ∀ k13 : Nat,
            (w8.heap.size ≤ k13) →
            ∀ w11 : World,
            (Locl ([k13, k6, k1]) w8 w11) →
            Calls P F.moves_Apply #[Value.string { data := #[102, 114, 97, 109, 101] }, Value.slice (some { block := k7, off := 0 }) 5 5, Value.agg #[Value.int IntKind.i64 n10, Value.int IntKind.i64 n11, Value.slice p3 k8 k9]] w11 fun e7 w12 =>
            ∃ n15 : Int,
            ∃ n16 : Int,
            ∃ p5 : Option Addr,
            ∃ k14 : Nat,
            ∃ k15 : Nat,
            ∃ n17 : Int,
            (e7 = Ending.returned (Value.tuple #[Value.agg #[Value.int IntKind.i64 n15, Value.int IntKind.i64 n16, Value.slice p5 k14 k15], Value.int IntKind.i64 n17])) ∧
            (Keep ([k13, k6, k1]) w11 w12) ∧
            ∀ w13 : World,
            (Locl ([k13, k6, k1]) w12 w13) →
            I1 [Value.pointer (some { block := k13, off := 0 }), Value.int IntKind.i64 n15, Value.int IntKind.i64 n16, Value.slice p5 k14 k15] w13) ∧
          ∀ k16 : Nat,
          (w7.heap.size ≤ k16) →
          ∀ w14 : World,
          (Locl ([k16, k6, k1]) w7 w14) →
          Calls P F.law21_own #[Value.agg #[Value.int IntKind.i64 x1, Value.int IntKind.i64 x2, Value.slice sa1 sl1 sc1]] w14 fun e8 w15 =>
          ∃ n18 : Int,
          ∃ n19 : Int,
          ∃ p6 : Option Addr,
          ∃ k17 : Nat,
          ∃ k18 : Nat,
          (e8 = Ending.returned (Value.agg #[Value.int IntKind.i64 n18, Value.int IntKind.i64 n19, Value.slice p6 k17 k18])) ∧
          (Keep ([k16, k6, k1]) w14 w15) ∧
          (Keeps w14 w15) ∧
          Calls P F.moves_Apply #[Value.string { data := #[102, 114, 97, 109, 101] }, Value.slice (some { block := k7, off := 0 }) 5 5, Value.agg #[Value.int IntKind.i64 n18, Value.int IntKind.i64 n19, Value.slice p6 k17 k18]] w15 fun e9 w16 =>
          ∃ n20 : Int,
          ∃ n21 : Int,
          ∃ p7 : Option Addr,
          ∃ k19 : Nat,
          ∃ k20 : Nat,
          ∃ n22 : Int,
          (e9 = Ending.returned (Value.tuple #[Value.agg #[Value.int IntKind.i64 n20, Value.int IntKind.i64 n21, Value.slice p7 k19 k20], Value.int IntKind.i64 n22])) ∧
          (Keep ([k16, k6, k1]) w15 w16) ∧
          ∀ w17 : World,
          (Locl ([k16, k6, k1]) w16 w17) →
          I1 [Value.pointer (some { block := k16, off := 0 }), Value.int IntKind.i64 n20, Value.int IntKind.i64 n21, Value.slice p7 k19 k20] w17) ∧
        (Calls P F.law21_own #[Value.agg #[Value.int IntKind.i64 x1, Value.int IntKind.i64 x2, Value.slice sa1 sl1 sc1]] (w6.drew) fun e10 w18 =>
          ∃ n23 : Int,
          ∃ n24 : Int,
          ∃ p8 : Option Addr,
          ∃ k21 : Nat,
          ∃ k22 : Nat,
          (e10 = Ending.returned (Value.agg #[Value.int IntKind.i64 n23, Value.int IntKind.i64 n24, Value.slice p8 k21 k22])) ∧
          (Keep ([k6, k1]) (w6.drew) w18) ∧
          (Keeps (w6.drew) w18) ∧
          (∀ k23 : Nat,
            ∀ w19 : World,
            (New w18 (Obj.cells #[Value.int IntKind.i64 3, Value.int IntKind.i64 (IntKind.i64.wrap n6), Value.int IntKind.i64 (IntKind.i64.wrap n7), Value.int IntKind.i64 (IntKind.i64.wrap n8), Value.int IntKind.i64 (IntKind.i64.wrap n9)] 3) k23 w19) →
            (Calls P F.moves_Apply #[Value.string { data := #[102, 114, 97, 109, 101] }, Value.slice (some { block := k23, off := 0 }) 5 5, Value.agg #[Value.int IntKind.i64 n23, Value.int IntKind.i64 n24, Value.slice p8 k21 k22]] w19 fun e11 w20 =>
              ∃ n25 : Int,
              ∃ n26 : Int,
              ∃ p9 : Option Addr,
              ∃ k24 : Nat,
              ∃ k25 : Nat,
              ∃ n27 : Int,
              (e11 = Ending.returned (Value.tuple #[Value.agg #[Value.int IntKind.i64 n25, Value.int IntKind.i64 n26, Value.slice p9 k24 k25], Value.int IntKind.i64 n27])) ∧
              (Keep ([k6, k1]) w19 w20) ∧
              ∀ k26 : Nat,
              (w20.heap.size ≤ k26) →
              ∀ w21 : World,
              (Locl ([k26, k6, k1]) w20 w21) →
              I1 [Value.pointer (some { block := k26, off := 0 }), Value.int IntKind.i64 n25, Value.int IntKind.i64 n26, Value.slice p9 k24 k25] w21) ∧
            ∀ k27 : Nat,
            (w19.heap.size ≤ k27) →
            ∀ w22 : World,
            (Locl ([k27, k6, k1]) w19 w22) →
            Calls P F.moves_Apply #[Value.string { data := #[102, 114, 97, 109, 101] }, Value.slice (some { block := k23, off := 0 }) 5 5, Value.agg #[Value.int IntKind.i64 n23, Value.int IntKind.i64 n24, Value.slice p8 k21 k22]] w22 fun e12 w23 =>
            ∃ n28 : Int,
            ∃ n29 : Int,
            ∃ p10 : Option Addr,
            ∃ k28 : Nat,
            ∃ k29 : Nat,
            ∃ n30 : Int,
            (e12 = Ending.returned (Value.tuple #[Value.agg #[Value.int IntKind.i64 n28, Value.int IntKind.i64 n29, Value.slice p10 k28 k29], Value.int IntKind.i64 n30])) ∧
            (Keep ([k27, k6, k1]) w22 w23) ∧
            ∀ w24 : World,
            (Locl ([k27, k6, k1]) w23 w24) →
            I1 [Value.pointer (some { block := k27, off := 0 }), Value.int IntKind.i64 n28, Value.int IntKind.i64 n29, Value.slice p10 k28 k29] w24) ∧
          ∀ k30 : Nat,
          (w18.heap.size ≤ k30) →
          ∀ w25 : World,
          (Locl ([k30, k6, k1]) w18 w25) →
          ∀ k31 : Nat,
          ∀ w26 : World,
          (New w25 (Obj.cells #[Value.int IntKind.i64 3, Value.int IntKind.i64 (IntKind.i64.wrap n6), Value.int IntKind.i64 (IntKind.i64.wrap n7), Value.int IntKind.i64 (IntKind.i64.wrap n8), Value.int IntKind.i64 (IntKind.i64.wrap n9)] 3) k31 w26) →
          Calls P F.moves_Apply #[Value.string { data := #[102, 114, 97, 109, 101] }, Value.slice (some { block := k31, off := 0 }) 5 5, Value.agg #[Value.int IntKind.i64 n23, Value.int IntKind.i64 n24, Value.slice p8 k21 k22]] w26 fun e13 w27 =>
          ∃ n31 : Int,
          ∃ n32 : Int,
          ∃ p11 : Option Addr,
          ∃ k32 : Nat,
          ∃ k33 : Nat,
          ∃ n33 : Int,
          (e13 = Ending.returned (Value.tuple #[Value.agg #[Value.int IntKind.i64 n31, Value.int IntKind.i64 n32, Value.slice p11 k32 k33], Value.int IntKind.i64 n33])) ∧
          (Keep ([k30, k6, k1]) w26 w27) ∧
          ∀ w28 : World,
          (Locl ([k30, k6, k1]) w27 w28) →
          I1 [Value.pointer (some { block := k30, off := 0 }), Value.int IntKind.i64 n31, Value.int IntKind.i64 n32, Value.slice p11 k32 k33] w28) ∧
        ∀ k34 : Nat,
        (w6.drew.heap.size ≤ k34) →
        (∀ w29 : World,
          (Locl ([k34, k6, k1]) (w6.drew) w29) →
          ∀ k35 : Nat,
          ∀ w30 : World,
          (New w29 (Obj.cells #[Value.int IntKind.i64 3, Value.int IntKind.i64 (IntKind.i64.wrap n6), Value.int IntKind.i64 (IntKind.i64.wrap n7), Value.int IntKind.i64 (IntKind.i64.wrap n8), Value.int IntKind.i64 (IntKind.i64.wrap n9)] 3) k35 w30) →
          Calls P F.law21_own #[Value.agg #[Value.int IntKind.i64 x1, Value.int IntKind.i64 x2, Value.slice sa1 sl1 sc1]] w30 fun e14 w31 =>
          ∃ n34 : Int,
          ∃ n35 : Int,
          ∃ p12 : Option Addr,
          ∃ k36 : Nat,
          ∃ k37 : Nat,
          (e14 = Ending.returned (Value.agg #[Value.int IntKind.i64 n34, Value.int IntKind.i64 n35, Value.slice p12 k36 k37])) ∧
          (Keep ([k34, k6, k1]) w30 w31) ∧
          (Keeps w30 w31) ∧
          Calls P F.moves_Apply #[Value.string { data := #[102, 114, 97, 109, 101] }, Value.slice (some { block := k35, off := 0 }) 5 5, Value.agg #[Value.int IntKind.i64 n34, Value.int IntKind.i64 n35, Value.slice p12 k36 k37]] w31 fun e15 w32 =>
          ∃ n36 : Int,
          ∃ n37 : Int,
          ∃ p13 : Option Addr,
          ∃ k38 : Nat,
          ∃ k39 : Nat,
          ∃ n38 : Int,
          (e15 = Ending.returned (Value.tuple #[Value.agg #[Value.int IntKind.i64 n36, Value.int IntKind.i64 n37, Value.slice p13 k38 k39], Value.int IntKind.i64 n38])) ∧
          (Keep ([k34, k6, k1]) w31 w32) ∧
          ∀ w33 : World,
          (Locl ([k34, k6, k1]) w32 w33) →
          I1 [Value.pointer (some { block := k34, off := 0 }), Value.int IntKind.i64 n36, Value.int IntKind.i64 n37, Value.slice p13 k38 k39] w33) ∧
        ∀ w34 : World,
        (Locl ([k34, k6, k1]) (w6.drew) w34) →
        Calls P F.law21_own #[Value.agg #[Value.int IntKind.i64 x1, Value.int IntKind.i64 x2, Value.slice sa1 sl1 sc1]] w34 fun e16 w35 =>
        ∃ n39 : Int,
        ∃ n40 : Int,
        ∃ p14 : Option Addr,
        ∃ k40 : Nat,
        ∃ k41 : Nat,
        (e16 = Ending.returned (Value.agg #[Value.int IntKind.i64 n39, Value.int IntKind.i64 n40, Value.slice p14 k40 k41])) ∧
        (Keep ([k34, k6, k1]) w34 w35) ∧
        (Keeps w34 w35) ∧
        ∀ k42 : Nat,
        ∀ w36 : World,
        (New w35 (Obj.cells #[Value.int IntKind.i64 3, Value.int IntKind.i64 (IntKind.i64.wrap n6), Value.int IntKind.i64 (IntKind.i64.wrap n7), Value.int IntKind.i64 (IntKind.i64.wrap n8), Value.int IntKind.i64 (IntKind.i64.wrap n9)] 3) k42 w36) →
        Calls P F.moves_Apply #[Value.string { data := #[102, 114, 97, 109, 101] }, Value.slice (some { block := k42, off := 0 }) 5 5, Value.agg #[Value.int IntKind.i64 n39, Value.int IntKind.i64 n40, Value.slice p14 k40 k41]] w36 fun e17 w37 =>
        ∃ n41 : Int,
        ∃ n42 : Int,
        ∃ p15 : Option Addr,
        ∃ k43 : Nat,
        ∃ k44 : Nat,
        ∃ n43 : Int,
        (e17 = Ending.returned (Value.tuple #[Value.agg #[Value.int IntKind.i64 n41, Value.int IntKind.i64 n42, Value.slice p15 k43 k44], Value.int IntKind.i64 n43])) ∧
        (Keep ([k34, k6, k1]) w36 w37) ∧
        ∀ w38 : World,
        (Locl ([k34, k6, k1]) w37 w38) →
        I1 [Value.pointer (some { block := k34, off := 0 }), Value.int IntKind.i64 n41, Value.int IntKind.i64 n42, Value.slice p15 k43 k44] w38) ∧
      ∀ k45 : Nat,
      ∀ n44 : Int,
      ∀ n45 : Int,
      ∀ p16 : Option Addr,
      ∀ k46 : Nat,
      ∀ k47 : Nat,
      ∀ w39 : World,
      (I1 [Value.pointer (some { block := k45, off := 0 }), Value.int IntKind.i64 n44, Value.int IntKind.i64 n45, Value.slice p16 k46 k47] w39) →
      Calls P F.moves_Apply #[Value.string { data := #[116, 114, 105, 109] }, Value.slice none 0 0, Value.agg #[Value.int IntKind.i64 n44, Value.int IntKind.i64 n45, Value.slice p16 k46 k47]] w39 fun e18 w40 =>
      ∃ n46 : Int,
      ∃ n47 : Int,
      ∃ p17 : Option Addr,
      ∃ k48 : Nat,
      ∃ k49 : Nat,
      ∃ n48 : Int,
      (e18 = Ending.returned (Value.tuple #[Value.agg #[Value.int IntKind.i64 n46, Value.int IntKind.i64 n47, Value.slice p17 k48 k49], Value.int IntKind.i64 n48])) ∧
      (Keep ([k45, k6, k1]) w39 w40) ∧
      ∀ k50 : Nat,
      (w40.heap.size ≤ k50) →
      brB ((↑k46 : Int) == 0)
        (∀ w41 : World,
        (Locl ([k50, k45, k6, k1]) w40 w41) →
        R (Ending.returned (Value.bool (n5 == 0))) w41)
        (brB (n5 == 0 && n48 == 0)
          (∀ w42 : World,
          (Locl ([k50, k45, k6, k1]) w40 w42) →
          Calls P F.ref09_Same #[Value.agg #[Value.int IntKind.i64 n3, Value.int IntKind.i64 n4, Value.slice p2 k4 k5], Value.agg #[Value.int IntKind.i64 n46, Value.int IntKind.i64 n47, Value.slice p17 k48 k49]] w42 fun e19 w43 =>
          ∃ c3 : Bool,
          (e19 = Ending.returned (Value.bool c3)) ∧
          (Keep ([k50, k45, k6, k1]) w42 w43) ∧
          R (Ending.returned (Value.bool (c3 && decide (n3 ≤ x1) && decide (n4 ≤ x2)))) w43)
          (∀ w44 : World,
          (Locl ([k50, k45, k6, k1]) w40 w44) →
          R (Ending.returned (Value.bool false)) w44))))
theorem calls_law21_MovesTrims (x1 : Int) (x2 : Int) (sa1 : Option Addr) (sl1 sc1 : Nat) (w : World) (R : Ending → World → Prop) (h : vc_law21_MovesTrims x1 x2 sa1 sl1 sc1 w R) : Calls P F.law21_MovesTrims #[.agg #[.int .i64 x1, .int .i64 x2, .slice sa1 sl1 sc1]] w R :=
  calls_of_vc (fn := Try.f7) (ac := ac_law21_MovesTrims) (args := [.agg #[.int .i64 x1, .int .i64 x2, .slice sa1 sl1 sc1]]) mixed Try.func7 (by kernel_rfl) (cast (by unfold vc_law21_MovesTrims FnVc; kernel_rfl) h)
/-- darkroom/darkroomlaw21.MovesOwn -/
def vc_law21_MovesOwn (st1 : ByteArray) (sa1 : Option Addr) (sl1 sc1 : Nat) (x1 : Int) (x2 : Int) (sa2 : Option Addr) (sl2 sc2 : Nat) (w : World) (R : Ending → World → Prop) : Prop :=
  ∀ k1 : Nat,
  (w.heap.size ≤ k1) →
  ∀ w1 : World,
  (Locl ([k1]) w w1) →
  Calls P F.law21_wakes #[] w1 fun e1 w2 =>
  ∃ c1 : Bool,
  (e1 = Ending.returned (Value.bool c1)) ∧
  (Keep ([k1]) w1 w2) ∧
  brB (!c1)
    (R (Ending.returned (Value.bool false)) w2)
    (Calls P F.law21_own #[Value.agg #[Value.int IntKind.i64 x1, Value.int IntKind.i64 x2, Value.slice sa2 sl2 sc2]] w2 fun e2 w3 =>
    ∃ n1 : Int,
    ∃ n2 : Int,
    ∃ p1 : Option Addr,
    ∃ k2 : Nat,
    ∃ k3 : Nat,
    (e2 = Ending.returned (Value.agg #[Value.int IntKind.i64 n1, Value.int IntKind.i64 n2, Value.slice p1 k2 k3])) ∧
    (Keep ([k1]) w2 w3) ∧
    Calls P F.law21_ints #[Value.slice sa1 sl1 sc1] w3 fun e3 w4 =>
    ∃ p2 : Option Addr,
    ∃ k4 : Nat,
    ∃ k5 : Nat,
    (e3 = Ending.returned (Value.slice p2 k4 k5)) ∧
    (Keep ([k1]) w3 w4) ∧
    ∀ k6 : Nat,
    (w4.heap.size ≤ k6) →
    ∀ w5 : World,
    (Locl ([k6, k1]) w4 w5) →
    appVC (w5) ([(23, k6, [Value.int IntKind.i64 77]), (5, k1, [Value.int IntKind.i64 x1, Value.int IntKind.i64 x2, Value.slice sa2 sl2 sc2])]) (p2) (k4) (k5) (1) (1) (8) (3) ([Value.int IntKind.i64 0]) ([Value.int IntKind.i64 77]) fun p3 k7 k8 w6 =>
    ∀ k9 : Nat,
    (w6.heap.size ≤ k9) →
    ∃ I1 : List Value → World → Prop,
    (slcc (p3) (k8) (0) ((↑sl1 : Int)) (1) fun p4 k10 k11 =>
      (∀ w7 : World,
        (Locl ([k9, k6, k1]) w6 w7) →
        Calls P F.moves_Apply #[Value.string st1, Value.slice p4 k10 k11, Value.agg #[Value.int IntKind.i64 n1, Value.int IntKind.i64 n2, Value.slice p1 k2 k3]] w7 fun e4 w8 =>
        ∃ n3 : Int,
        ∃ n4 : Int,
        ∃ p5 : Option Addr,
        ∃ k12 : Nat,
        ∃ k13 : Nat,
        ∃ n5 : Int,
        (e4 = Ending.returned (Value.tuple #[Value.agg #[Value.int IntKind.i64 n3, Value.int IntKind.i64 n4, Value.slice p5 k12 k13], Value.int IntKind.i64 n5])) ∧
        (Keep ([k9, k6, k1]) w7 w8) ∧
        ∀ k14 : Nat,
        (w8.heap.size ≤ k14) →
        ∀ w9 : World,
        (Locl ([k14, k9, k6, k1]) w8 w9) →
        I1 [Value.pointer (some { block := k14, off := 0 }), Value.int IntKind.i64 n3, Value.int IntKind.i64 n4, Value.slice p5 k12 k13] w9) ∧
      ∀ k15 : Nat,
      (w6.heap.size ≤ k15) →
      ∀ w10 : World,
      (Locl ([k15, k9, k6, k1]) w6 w10) →
      Calls P F.moves_Apply #[Value.string st1, Value.slice p4 k10 k11, Value.agg #[Value.int IntKind.i64 n1, Value.int IntKind.i64 n2, Value.slice p1 k2 k3]] w10 fun e5 w11 =>
      ∃ n6 : Int,
      ∃ n7 : Int,
      ∃ p6 : Option Addr,
      ∃ k16 : Nat,
      ∃ k17 : Nat,
      ∃ n8 : Int,
      (e5 = Ending.returned (Value.tuple #[Value.agg #[Value.int IntKind.i64 n6, Value.int IntKind.i64 n7, Value.slice p6 k16 k17], Value.int IntKind.i64 n8])) ∧
      (Keep ([k15, k9, k6, k1]) w10 w11) ∧
      ∀ w12 : World,
      (Locl ([k15, k9, k6, k1]) w11 w12) →
      I1 [Value.pointer (some { block := k15, off := 0 }), Value.int IntKind.i64 n6, Value.int IntKind.i64 n7, Value.slice p6 k16 k17] w12) ∧
    ∀ k18 : Nat,
    ∀ n9 : Int,
    ∀ n10 : Int,
    ∀ p7 : Option Addr,
    ∀ k19 : Nat,
    ∀ k20 : Nat,
    ∀ w13 : World,
    (I1 [Value.pointer (some { block := k18, off := 0 }), Value.int IntKind.i64 n9, Value.int IntKind.i64 n10, Value.slice p7 k19 k20] w13) →
    ∃ I2 : List Value → World → Prop,
    (slcc (p3) (k8) (0) ((↑sl1 : Int)) (1) fun p8 k21 k22 =>
      (Calls P F.moves_Apply #[Value.string st1, Value.slice p8 k21 k22, Value.agg #[Value.int IntKind.i64 n1, Value.int IntKind.i64 n2, Value.slice p1 k2 k3]] (w13.drew) fun e6 w14 =>
        ∃ n11 : Int,
        ∃ n12 : Int,
        ∃ p9 : Option Addr,
        ∃ k23 : Nat,
        ∃ k24 : Nat,
        ∃ n13 : Int,
        (e6 = Ending.returned (Value.tuple #[Value.agg #[Value.int IntKind.i64 n11, Value.int IntKind.i64 n12, Value.slice p9 k23 k24], Value.int IntKind.i64 n13])) ∧
        (Keep ([k18, k9, k6, k1]) (w13.drew) w14) ∧
        ∀ k25 : Nat,
        (w14.heap.size ≤ k25) →
        ∀ w15 : World,
        (Locl ([k25, k18, k9, k6, k1]) w14 w15) →
        I2 [Value.pointer (some { block := k25, off := 0 }), Value.int IntKind.i64 n11, Value.int IntKind.i64 n12, Value.slice p9 k23 k24] w15) ∧
      ∀ k26 : Nat,
      (w13.drew.heap.size ≤ k26) →
      ∀ w16 : World,
      (Locl ([k26, k18, k9, k6, k1]) (w13.drew) w16) →
      Calls P F.moves_Apply #[Value.string st1, Value.slice p8 k21 k22, Value.agg #[Value.int IntKind.i64 n1, Value.int IntKind.i64 n2, Value.slice p1 k2 k3]] w16 fun e7 w17 =>
      ∃ n14 : Int,
      ∃ n15 : Int,
      ∃ p10 : Option Addr,
      ∃ k27 : Nat,
      ∃ k28 : Nat,
      ∃ n16 : Int,
      (e7 = Ending.returned (Value.tuple #[Value.agg #[Value.int IntKind.i64 n14, Value.int IntKind.i64 n15, Value.slice p10 k27 k28], Value.int IntKind.i64 n16])) ∧
      (Keep ([k26, k18, k9, k6, k1]) w16 w17) ∧
      ∀ w18 : World,
      (Locl ([k26, k18, k9, k6, k1]) w17 w18) →
      I2 [Value.pointer (some { block := k26, off := 0 }), Value.int IntKind.i64 n14, Value.int IntKind.i64 n15, Value.slice p10 k27 k28] w18) ∧
    ∀ k29 : Nat,
    ∀ n17 : Int,
    ∀ n18 : Int,
    ∀ p11 : Option Addr,
    ∀ k30 : Nat,
    ∀ k31 : Nat,
    ∀ w19 : World,
    (I2 [Value.pointer (some { block := k29, off := 0 }), Value.int IntKind.i64 n17, Value.int IntKind.i64 n18, Value.slice p11 k30 k31] w19) →
    ∃ I3 : List Value → World → Prop,
    ∃ m1 : List Value → World → Nat,
    (I3 [Value.int IntKind.i64 0] w19) ∧
    ∀ n19 : Int,
    ∀ w20 : World,
    (I3 [Value.int IntKind.i64 n19] w20) →
    brB (decide (n19 < (↑k19 : Int)))
      (idx (p7) (k19) (n19) (1) fun a1 =>
      ∃ n20 : Int,
      (w20.drew.cell? a1 = some (Value.int IntKind.u16 n20)) ∧
      idx (p7) (k19) (n19) (1) fun a2 =>
      (∃ v1 : Value,
        w20.drew.cell? a2 = some v1) ∧
      (w20.drew.frozen? a2 = false) ∧
      (¬a2.block ∈ [k29, k18, k9, k6, k1]) ∧
      (I3 [Value.int IntKind.i64 (IntKind.i64.wrap (n19 + 1))] (setCells w20.drew a2 [Value.int IntKind.u16 (IntKind.u16.wrap (n20 + 1))] 0)) ∧
      m1 [Value.int IntKind.i64 (IntKind.i64.wrap (n19 + 1))] (setCells w20.drew a2 [Value.int IntKind.u16 (IntKind.u16.wrap (n20 + 1))] 0) < m1 [Value.int IntKind.i64 n19] w20)
      (Calls P F.ref21_Apply #[Value.string st1, Value.slice sa1 sl1 sc1, Value.agg #[Value.int IntKind.i64 x1, Value.int IntKind.i64 x2, Value.slice sa2 sl2 sc2]] w20 fun e8 w21 =>
      ∃ n21 : Int,
      ∃ n22 : Int,
      ∃ p12 : Option Addr,
      ∃ k32 : Nat,
      ∃ k33 : Nat,
      ∃ n23 : Int,
      (e8 = Ending.returned (Value.tuple #[Value.agg #[Value.int IntKind.i64 n21, Value.int IntKind.i64 n22, Value.slice p12 k32 k33], Value.int IntKind.i64 n23])) ∧
      (Keep ([k29, k18, k9, k6, k1]) w20 w21) ∧
      ∀ k34 : Nat,
      (w21.heap.size ≤ k34) →
      idx (p3) (k7) ((↑sl1 : Int)) (1) fun a3 =>
      ∀ w22 : World,
      (Locl ([k34, k29, k18, k9, k6, k1]) w21 w22) →
      ∃ n24 : Int,
      (w22.cell? a3 = some (Value.int IntKind.i64 n24)) ∧
      brB (n24 != 77)
        (R (Ending.returned (Value.bool false)) w22)
        (Calls P F.ref09_Same #[Value.agg #[Value.int IntKind.i64 n1, Value.int IntKind.i64 n2, Value.slice p1 k2 k3], Value.agg #[Value.int IntKind.i64 x1, Value.int IntKind.i64 x2, Value.slice sa2 sl2 sc2]] w22 fun e9 w23 =>
        ∃ c2 : Bool,
        (e9 = Ending.returned (Value.bool c2)) ∧
        (Keep ([k34, k29, k18, k9, k6, k1]) w22 w23) ∧
        brB (!c2)
          (R (Ending.returned (Value.bool false)) w23)
          (Calls P F.ref09_Same #[Value.agg #[Value.int IntKind.i64 n17, Value.int IntKind.i64 n18, Value.slice p11 k30 k31], Value.agg #[Value.int IntKind.i64 n21, Value.int IntKind.i64 n22, Value.slice p12 k32 k33]] w23 fun e10 w24 =>
          ∃ c3 : Bool,
          (e10 = Ending.returned (Value.bool c3)) ∧
          (Keep ([k34, k29, k18, k9, k6, k1]) w23 w24) ∧
          brB (!c3)
            (R (Ending.returned (Value.bool false)) w24)
            (∃ I4 : List Value → World → Prop,
            ∃ m2 : List Value → World → Nat,
            (I4 [Value.int IntKind.i64 0] w24) ∧
            ∀ n25 : Int,
            ∀ w25 : World,
            (I4 [Value.int IntKind.i64 n25] w25) →
            brB (decide (n25 < (↑sl1 : Int)))
              (idx (p3) (k7) (n25) (1) fun a4 =>
              ∃ n26 : Int,
              (w25.drew.cell? a4 = some (Value.int IntKind.i64 n26)) ∧
              idx (sa1) (sl1) (n25) (1) fun a5 =>
              ∃ n27 : Int,
              (w25.drew.cell? a5 = some (Value.int IntKind.i64 n27)) ∧
              brB (n26 != n27)
                (R (Ending.returned (Value.bool false)) w25.drew)
                ((I4 [Value.int IntKind.i64 (IntKind.i64.wrap (n25 + 1))] w25.drew) ∧
                m2 [Value.int IntKind.i64 (IntKind.i64.wrap (n25 + 1))] w25.drew < m2 [Value.int IntKind.i64 n25] w25))
              (R (Ending.returned (Value.bool true)) w25))))))
theorem calls_law21_MovesOwn (st1 : ByteArray) (sa1 : Option Addr) (sl1 sc1 : Nat) (x1 : Int) (x2 : Int) (sa2 : Option Addr) (sl2 sc2 : Nat) (w : World) (R : Ending → World → Prop) (h : vc_law21_MovesOwn st1 sa1 sl1 sc1 x1 x2 sa2 sl2 sc2 w R) : Calls P F.law21_MovesOwn #[.string st1, .slice sa1 sl1 sc1, .agg #[.int .i64 x1, .int .i64 x2, .slice sa2 sl2 sc2]] w R :=
  calls_of_vc (fn := Try.f8) (ac := ac_law21_MovesOwn) (args := [.string st1, .slice sa1 sl1 sc1, .agg #[.int .i64 x1, .int .i64 x2, .slice sa2 sl2 sc2]]) mixed Try.func8 (by kernel_rfl) (cast (by unfold vc_law21_MovesOwn FnVc; kernel_rfl) h)
/-- darkroom/darkroomlaw21.MovesKeeps -/
def vc_law21_MovesKeeps (st1 : ByteArray) (sa1 : Option Addr) (sl1 sc1 : Nat) (x1 : Int) (x2 : Int) (sa2 : Option Addr) (sl2 sc2 : Nat) (w : World) (R : Ending → World → Prop) : Prop :=
  ∀ k1 : Nat,
  (w.heap.size ≤ k1) →
  ∀ w1 : World,
  (Locl ([k1]) w w1) →
  Calls P F.law21_wakes #[] w1 fun e1 w2 =>
  ∃ c1 : Bool,
  (e1 = Ending.returned (Value.bool c1)) ∧
  (Keep ([k1]) w1 w2) ∧
  brB (!c1)
    (R (Ending.returned (Value.bool false)) w2)
    (∃ I1 : List Value → World → Prop,
    ((Calls P F.law21_ints #[Value.slice sa1 sl1 sc1] (w2.drew) fun e2 w3 =>
        ∃ p1 : Option Addr,
        ∃ k2 : Nat,
        ∃ k3 : Nat,
        (e2 = Ending.returned (Value.slice p1 k2 k3)) ∧
        (Keep ([k1]) (w2.drew) w3) ∧
        (Keeps (w2.drew) w3) ∧
        (Calls P F.law21_own #[Value.agg #[Value.int IntKind.i64 x1, Value.int IntKind.i64 x2, Value.slice sa2 sl2 sc2]] w3 fun e3 w4 =>
          ∃ n1 : Int,
          ∃ n2 : Int,
          ∃ p2 : Option Addr,
          ∃ k4 : Nat,
          ∃ k5 : Nat,
          (e3 = Ending.returned (Value.agg #[Value.int IntKind.i64 n1, Value.int IntKind.i64 n2, Value.slice p2 k4 k5])) ∧
          (Keep ([k1]) w3 w4) ∧
          (Calls P F.moves_Apply #[Value.string st1, Value.slice p1 k2 k3, Value.agg #[Value.int IntKind.i64 n1, Value.int IntKind.i64 n2, Value.slice p2 k4 k5]] w4 fun e4 w5 =>
            ∃ n3 : Int,
            ∃ n4 : Int,
            ∃ p3 : Option Addr,
            ∃ k6 : Nat,
            ∃ k7 : Nat,
            ∃ n5 : Int,
            (e4 = Ending.returned (Value.tuple #[Value.agg #[Value.int IntKind.i64 n3, Value.int IntKind.i64 n4, Value.slice p3 k6 k7], Value.int IntKind.i64 n5])) ∧
            (Keep ([k1]) w4 w5) ∧
            ∀ k8 : Nat,
            (w5.heap.size ≤ k8) →
            ∀ w6 : World,
            (Locl ([k8, k1]) w5 w6) →
            I1 [Value.int IntKind.i64 n5, Value.pointer (some { block := k8, off := 0 }), Value.int IntKind.i64 n3, Value.int IntKind.i64 n4, Value.slice p3 k6 k7] w6) ∧
          ∀ k9 : Nat,
          (w4.heap.size ≤ k9) →
          ∀ w7 : World,
          (Locl ([k9, k1]) w4 w7) →
          Calls P F.moves_Apply #[Value.string st1, Value.slice p1 k2 k3, Value.agg #[Value.int IntKind.i64 n1, Value.int IntKind.i64 n2, Value.slice p2 k4 k5]] w7 fun e5 w8 =>
          ∃ n6 : Int,
          ∃ n7 : Int,
          ∃ p4 : Option Addr,
          ∃ k10 : Nat,
          ∃ k11 : Nat,
          ∃ n8 : Int,
          (e5 = Ending.returned (Value.tuple #[Value.agg #[Value.int IntKind.i64 n6, Value.int IntKind.i64 n7, Value.slice p4 k10 k11], Value.int IntKind.i64 n8])) ∧
          (Keep ([k9, k1]) w7 w8) ∧
          ∀ w9 : World,
          (Locl ([k9, k1]) w8 w9) →
          I1 [Value.int IntKind.i64 n8, Value.pointer (some { block := k9, off := 0 }), Value.int IntKind.i64 n6, Value.int IntKind.i64 n7, Value.slice p4 k10 k11] w9) ∧
        ∀ k12 : Nat,
        (w3.heap.size ≤ k12) →
        ∀ w10 : World,
        (Locl ([k12, k1]) w3 w10) →
        Calls P F.law21_own #[Value.agg #[Value.int IntKind.i64 x1, Value.int IntKind.i64 x2, Value.slice sa2 sl2 sc2]] w10 fun e6 w11 =>
        ∃ n9 : Int,
        ∃ n10 : Int,
        ∃ p5 : Option Addr,
        ∃ k13 : Nat,
        ∃ k14 : Nat,
        (e6 = Ending.returned (Value.agg #[Value.int IntKind.i64 n9, Value.int IntKind.i64 n10, Value.slice p5 k13 k14])) ∧
        (Keep ([k12, k1]) w10 w11) ∧
        Calls P F.moves_Apply #[Value.string st1, Value.slice p1 k2 k3, Value.agg #[Value.int IntKind.i64 n9, Value.int IntKind.i64 n10, Value.slice p5 k13 k14]] w11 fun e7 w12 =>
        ∃ n11 : Int,
        ∃ n12 : Int,
        ∃ p6 : Option Addr,
        ∃ k15 : Nat,
        ∃ k16 : Nat,
        ∃ n13 : Int,
        (e7 = Ending.returned (Value.tuple #[Value.agg #[Value.int IntKind.i64 n11, Value.int IntKind.i64 n12, Value.slice p6 k15 k16], Value.int IntKind.i64 n13])) ∧
        (Keep ([k12, k1]) w11 w12) ∧
        ∀ w13 : World,
        (Locl ([k12, k1]) w12 w13) →
        I1 [Value.int IntKind.i64 n13, Value.pointer (some { block := k12, off := 0 }), Value.int IntKind.i64 n11, Value.int IntKind.i64 n12, Value.slice p6 k15 k16] w13) ∧
      ∀ k17 : Nat,
      (w2.drew.heap.size ≤ k17) →
      ∀ w14 : World,
      (Locl ([k17, k1]) (w2.drew) w14) →
      Calls P F.law21_ints #[Value.slice sa1 sl1 sc1] w14 fun e8 w15 =>
      ∃ p7 : Option Addr,
      ∃ k18 : Nat,
      ∃ k19 : Nat,
      (e8 = Ending.returned (Value.slice p7 k18 k19)) ∧
      (Keep ([k17, k1]) w14 w15) ∧
      (Keeps w14 w15) ∧
      Calls P F.law21_own #[Value.agg #[Value.int IntKind.i64 x1, Value.int IntKind.i64 x2, Value.slice sa2 sl2 sc2]] w15 fun e9 w16 =>
      ∃ n14 : Int,
      ∃ n15 : Int,
      ∃ p8 : Option Addr,
      ∃ k20 : Nat,
      ∃ k21 : Nat,
      (e9 = Ending.returned (Value.agg #[Value.int IntKind.i64 n14, Value.int IntKind.i64 n15, Value.slice p8 k20 k21])) ∧
      (Keep ([k17, k1]) w15 w16) ∧
      Calls P F.moves_Apply #[Value.string st1, Value.slice p7 k18 k19, Value.agg #[Value.int IntKind.i64 n14, Value.int IntKind.i64 n15, Value.slice p8 k20 k21]] w16 fun e10 w17 =>
      ∃ n16 : Int,
      ∃ n17 : Int,
      ∃ p9 : Option Addr,
      ∃ k22 : Nat,
      ∃ k23 : Nat,
      ∃ n18 : Int,
      (e10 = Ending.returned (Value.tuple #[Value.agg #[Value.int IntKind.i64 n16, Value.int IntKind.i64 n17, Value.slice p9 k22 k23], Value.int IntKind.i64 n18])) ∧
      (Keep ([k17, k1]) w16 w17) ∧
      ∀ w18 : World,
      (Locl ([k17, k1]) w17 w18) →
      I1 [Value.int IntKind.i64 n18, Value.pointer (some { block := k17, off := 0 }), Value.int IntKind.i64 n16, Value.int IntKind.i64 n17, Value.slice p9 k22 k23] w18) ∧
    ∀ n19 : Int,
    ∀ k24 : Nat,
    ∀ n20 : Int,
    ∀ n21 : Int,
    ∀ p10 : Option Addr,
    ∀ k25 : Nat,
    ∀ k26 : Nat,
    ∀ w19 : World,
    (I1 [Value.int IntKind.i64 n19, Value.pointer (some { block := k24, off := 0 }), Value.int IntKind.i64 n20, Value.int IntKind.i64 n21, Value.slice p10 k25 k26] w19) →
    brB (n19 != 0)
      (R (Ending.returned (Value.bool (n19 == 0 || (↑k25 : Int) == 0))) w19)
      (brB (decide (st1 = { data := #[102, 114, 97, 109, 101] }))
        (R (Ending.returned (Value.bool (n19 == 0 || (↑k25 : Int) == 0))) w19)
        (brB (decide (st1 = { data := #[115, 104, 114, 105, 110, 107] }))
          (R (Ending.returned (Value.bool (n19 == 0 || (↑k25 : Int) == 0))) w19)
          (Calls P F.law21_own #[Value.agg #[Value.int IntKind.i64 x1, Value.int IntKind.i64 x2, Value.slice sa2 sl2 sc2]] (w19.drew) fun e11 w20 =>
          ∃ n22 : Int,
          ∃ n23 : Int,
          ∃ p11 : Option Addr,
          ∃ k27 : Nat,
          ∃ k28 : Nat,
          (e11 = Ending.returned (Value.agg #[Value.int IntKind.i64 n22, Value.int IntKind.i64 n23, Value.slice p11 k27 k28])) ∧
          (Keep ([k24, k1]) (w19.drew) w20) ∧
          (Keeps (w19.drew) w20) ∧
          Calls P F.raster_Distinct #[Value.agg #[Value.int IntKind.i64 n22, Value.int IntKind.i64 n23, Value.slice p11 k27 k28]] w20 fun e12 w21 =>
          ∃ p12 : Option Addr,
          ∃ k29 : Nat,
          ∃ k30 : Nat,
          (e12 = Ending.returned (Value.slice p12 k29 k30)) ∧
          (Keep ([k24, k1]) w20 w21) ∧
          (Keeps w20 w21) ∧
          Calls P F.law21_own #[Value.agg #[Value.int IntKind.i64 n20, Value.int IntKind.i64 n21, Value.slice p10 k25 k26]] w21 fun e13 w22 =>
          ∃ n24 : Int,
          ∃ n25 : Int,
          ∃ p13 : Option Addr,
          ∃ k31 : Nat,
          ∃ k32 : Nat,
          (e13 = Ending.returned (Value.agg #[Value.int IntKind.i64 n24, Value.int IntKind.i64 n25, Value.slice p13 k31 k32])) ∧
          (Keep ([k24, k1]) w21 w22) ∧
          Calls P F.raster_Distinct #[Value.agg #[Value.int IntKind.i64 n24, Value.int IntKind.i64 n25, Value.slice p13 k31 k32]] w22 fun e14 w23 =>
          ∃ p14 : Option Addr,
          ∃ k33 : Nat,
          ∃ k34 : Nat,
          (e14 = Ending.returned (Value.slice p14 k33 k34)) ∧
          (Keep ([k24, k1]) w22 w23) ∧
          ∃ I2 : List Value → World → Prop,
          ∃ m1 : List Value → World → Nat,
          (I2 [Value.int IntKind.i64 0] w23) ∧
          ∀ n26 : Int,
          ∀ w24 : World,
          (I2 [Value.int IntKind.i64 n26] w24) →
          brB (decide (n26 < (↑k33 : Int)))
            (idx (p14) (k33) (n26) (4) fun a1 =>
            ∃ n27 : Int,
            ∃ n28 : Int,
            ∃ n29 : Int,
            ∃ n30 : Int,
            (w24.cell? a1 = some (Value.int IntKind.u16 n27)) ∧
            (w24.cell? (a1.add 1) = some (Value.int IntKind.u16 n28)) ∧
            (w24.cell? (a1.add 2) = some (Value.int IntKind.u16 n29)) ∧
            (w24.cell? (a1.add 3) = some (Value.int IntKind.u16 n30)) ∧
            Calls P F.ref09_Place #[Value.slice p12 k29 k30, Value.agg #[Value.int IntKind.u16 n27, Value.int IntKind.u16 n28, Value.int IntKind.u16 n29, Value.int IntKind.u16 n30]] w24 fun e15 w25 =>
            ∃ n31 : Int,
            (e15 = Ending.returned (Value.int IntKind.i64 n31)) ∧
            (Keep ([k24, k1]) w24 w25) ∧
            brB (decide (n31 < 0))
              (R (Ending.returned (Value.bool false)) w25)
              ((I2 [Value.int IntKind.i64 (IntKind.i64.wrap (n26 + 1))] w25) ∧
              m1 [Value.int IntKind.i64 (IntKind.i64.wrap (n26 + 1))] w25 < m1 [Value.int IntKind.i64 n26] w24))
            (R (Ending.returned (Value.bool (decide ((↑k33 : Int) > 0)))) w24)))))
theorem calls_law21_MovesKeeps (st1 : ByteArray) (sa1 : Option Addr) (sl1 sc1 : Nat) (x1 : Int) (x2 : Int) (sa2 : Option Addr) (sl2 sc2 : Nat) (w : World) (R : Ending → World → Prop) (h : vc_law21_MovesKeeps st1 sa1 sl1 sc1 x1 x2 sa2 sl2 sc2 w R) : Calls P F.law21_MovesKeeps #[.string st1, .slice sa1 sl1 sc1, .agg #[.int .i64 x1, .int .i64 x2, .slice sa2 sl2 sc2]] w R :=
  calls_of_vc (fn := Try.f9) (ac := ac_law21_MovesKeeps) (args := [.string st1, .slice sa1 sl1 sc1, .agg #[.int .i64 x1, .int .i64 x2, .slice sa2 sl2 sc2]]) mixed Try.func9 (by kernel_rfl) (cast (by unfold vc_law21_MovesKeeps FnVc; kernel_rfl) h)
/-- darkroom/darkroomlaw21.wakes -/
def vc_law21_wakes  (w : World) (R : Ending → World → Prop) : Prop :=
  ∀ k1 : Nat,
  ∀ w1 : World,
  (New w (Obj.cells #[Value.int IntKind.u16 1, Value.int IntKind.u16 1, Value.int IntKind.u16 1, Value.int IntKind.u16 1, Value.int IntKind.u16 2, Value.int IntKind.u16 2, Value.int IntKind.u16 2, Value.int IntKind.u16 2, Value.int IntKind.u16 3, Value.int IntKind.u16 3, Value.int IntKind.u16 3, Value.int IntKind.u16 3] 54) k1 w1) →
  ∀ k2 : Nat,
  (w1.heap.size ≤ k2) →
  ∀ w2 : World,
  (Locl ([k2]) w1 w2) →
  ∀ k3 : Nat,
  ∀ w3 : World,
  (New w2 (Obj.cells #[Value.int IntKind.i64 1] 3) k3 w3) →
  Calls P F.law21_own #[Value.agg #[Value.int IntKind.i64 3, Value.int IntKind.i64 1, Value.slice (some { block := k1, off := 0 }) 12 12]] w3 fun e1 w4 =>
  ∃ n1 : Int,
  ∃ n2 : Int,
  ∃ p1 : Option Addr,
  ∃ k4 : Nat,
  ∃ k5 : Nat,
  (e1 = Ending.returned (Value.agg #[Value.int IntKind.i64 n1, Value.int IntKind.i64 n2, Value.slice p1 k4 k5])) ∧
  (Keep ([k2]) w3 w4) ∧
  Calls P F.moves_Apply #[Value.string { data := #[114, 111, 116, 97, 116, 101] }, Value.slice (some { block := k3, off := 0 }) 1 1, Value.agg #[Value.int IntKind.i64 n1, Value.int IntKind.i64 n2, Value.slice p1 k4 k5]] w4 fun e2 w5 =>
  ∃ n3 : Int,
  ∃ n4 : Int,
  ∃ p2 : Option Addr,
  ∃ k6 : Nat,
  ∃ k7 : Nat,
  ∃ n5 : Int,
  (e2 = Ending.returned (Value.tuple #[Value.agg #[Value.int IntKind.i64 n3, Value.int IntKind.i64 n4, Value.slice p2 k6 k7], Value.int IntKind.i64 n5])) ∧
  (Keep ([k2]) w4 w5) ∧
  ∀ k8 : Nat,
  (w5.heap.size ≤ k8) →
  ∀ w6 : World,
  (Locl ([k8, k2]) w5 w6) →
  ∀ k9 : Nat,
  ∀ w7 : World,
  (New w6 (Obj.cells #[Value.int IntKind.i64 2, Value.int IntKind.i64 0, Value.int IntKind.i64 0, Value.int IntKind.i64 0, Value.int IntKind.i64 0] 3) k9 w7) →
  Calls P F.moves_Size #[Value.string { data := #[102, 114, 97, 109, 101] }, Value.slice (some { block := k9, off := 0 }) 5 5, Value.int IntKind.i64 3, Value.int IntKind.i64 1] w7 fun e3 w8 =>
  ∃ n6 : Int,
  ∃ n7 : Int,
  ∃ n8 : Int,
  (e3 = Ending.returned (Value.tuple #[Value.int IntKind.i64 n6, Value.int IntKind.i64 n7, Value.int IntKind.i64 n8])) ∧
  (Keep ([k8, k2]) w7 w8) ∧
  brB (n5 == 0 && n8 == 0 && n3 == 1 && n4 == 3 && (↑k6 : Int) == 12)
    (idx (p2) (k6) (0) (1) fun a1 =>
    ∃ n9 : Int,
    (w8.cell? a1 = some (Value.int IntKind.u16 n9)) ∧
    brB (n9 == 1)
      (idx (p2) (k6) (8) (1) fun a2 =>
      ∃ n10 : Int,
      (w8.cell? a2 = some (Value.int IntKind.u16 n10)) ∧
      brB (n10 == 3 && n6 == 7 && n7 == 5)
        (Calls P F.moves_Names #[] w8 fun e4 w9 =>
        ∃ p3 : Option Addr,
        ∃ k10 : Nat,
        ∃ k11 : Nat,
        (e4 = Ending.returned (Value.slice p3 k10 k11)) ∧
        (Keep ([k8, k2]) w8 w9) ∧
        brB ((↑k10 : Int) == 14)
          (∀ k12 : Nat,
          ∀ w10 : World,
          (New w9 (Obj.cells #[Value.int IntKind.i64 1] 3) k12 w10) →
          Calls P F.moves_Check #[Value.string { data := #[102, 108, 105, 112] }, Value.slice (some { block := k12, off := 0 }) 1 1] w10 fun e5 w11 =>
          ∃ n11 : Int,
          (e5 = Ending.returned (Value.int IntKind.i64 n11)) ∧
          (Keep ([k8, k2]) w10 w11) ∧
          R (Ending.returned (Value.bool (n11 == 190))) w11)
          (R (Ending.returned (Value.bool false)) w9))
        (R (Ending.returned (Value.bool false)) w8))
      (R (Ending.returned (Value.bool false)) w8))
    (R (Ending.returned (Value.bool false)) w8)
theorem calls_law21_wakes  (w : World) (R : Ending → World → Prop) (h : vc_law21_wakes  w R) : Calls P F.law21_wakes #[] w R :=
  calls_of_vc (fn := Try.f10) (ac := ac_law21_wakes) (args := []) mixed Try.func10 (by kernel_rfl) (cast (by unfold vc_law21_wakes FnVc; kernel_rfl) h)
/-- darkroom/moves.Names -/
def vc_moves_Names  (w : World) (R : Ending → World → Prop) : Prop :=
  Calls P F.moves_operators #[] w fun e1 w1 =>
  ∃ p1 : Option Addr,
  ∃ k1 : Nat,
  ∃ k2 : Nat,
  (e1 = Ending.returned (Value.slice p1 k1 k2)) ∧
  ∃ I1 : List Value → World → Prop,
  ∃ m1 : List Value → World → Nat,
  (I1 [Value.slice none 0 0, Value.int IntKind.i64 0] w1) ∧
  ∀ p2 : Option Addr,
  ∀ k3 : Nat,
  ∀ k4 : Nat,
  ∀ n1 : Int,
  ∀ w2 : World,
  (I1 [Value.slice p2 k3 k4, Value.int IntKind.i64 n1] w2) →
  brB (decide (n1 < (↑k1 : Int)))
    (idx (p1) (k1) (n1) (4) fun a1 =>
    ∃ s1 : ByteArray,
    ∃ p3 : Option Addr,
    ∃ k5 : Nat,
    ∃ k6 : Nat,
    ∃ v1 : Value,
    ∃ v2 : Value,
    (w2.cell? a1 = some (Value.string s1)) ∧
    (w2.cell? (a1.add 1) = some (Value.slice p3 k5 k6)) ∧
    (w2.cell? (a1.add 2) = some v1) ∧
    (w2.cell? (a1.add 3) = some v2) ∧
    ∀ k7 : Nat,
    (w2.heap.size ≤ k7) →
    brB (oneAll [Value.string s1, Value.slice p3 k5 k6, v1, v2] && true)
      (∀ k8 : Nat,
      (w2.heap.size ≤ k8) →
      ∀ w3 : World,
      (Locl ([k8, k7]) w2 w3) →
      appVC (w3) ([(13, k8, [Value.string s1]), (3, k7, [Value.string s1, Value.slice p3 k5 k6, v1, v2])]) (p2) (k3) (k4) (1) (1) (16) (9) ([Value.string { data := #[] }]) ([Value.string s1]) fun p4 k9 k10 w4 =>
      (I1 [Value.slice p4 k9 k10, Value.int IntKind.i64 (IntKind.i64.wrap (n1 + 1))] w4) ∧
      m1 [Value.slice p4 k9 k10, Value.int IntKind.i64 (IntKind.i64.wrap (n1 + 1))] w4 < m1 [Value.slice p2 k3 k4, Value.int IntKind.i64 n1] w2)
      (False))
    (R (Ending.returned (Value.slice p2 k3 k4)) w2)
theorem calls_moves_Names  (w : World) (R : Ending → World → Prop) (h : vc_moves_Names  w R) : Calls P F.moves_Names #[] w R :=
  calls_of_vc (fn := Try.f11) (ac := ac_moves_Names) (args := []) mixed Try.func11 (by kernel_rfl) (cast (by unfold vc_moves_Names FnVc; kernel_rfl) h)
/-- darkroom/darkroomref21.Names -/
def vc_ref21_Names  (w : World) (R : Ending → World → Prop) : Prop :=
  ∀ k1 : Nat,
  ∀ w1 : World,
  (New w (Obj.cells #[Value.string { data := #[99, 114, 111, 112] }, Value.string { data := #[102, 108, 105, 112] }, Value.string { data := #[102, 108, 111, 112] }, Value.string { data := #[114, 111, 116, 97, 116, 101] }, Value.string { data := #[116, 114, 97, 110, 115, 112, 111, 115, 101] }, Value.string { data := #[116, 114, 97, 110, 115, 118, 101, 114, 115, 101] }, Value.string { data := #[114, 111, 108, 108] }, Value.string { data := #[114, 101, 115, 105, 122, 101] }, Value.string { data := #[122, 111, 111, 109] }, Value.string { data := #[116, 105, 108, 101] }, Value.string { data := #[101, 120, 116, 101, 110, 100] }, Value.string { data := #[102, 114, 97, 109, 101] }, Value.string { data := #[115, 104, 114, 105, 110, 107] }, Value.string { data := #[116, 114, 105, 109] }] 9) k1 w1) →
  R (Ending.returned (Value.slice (some { block := k1, off := 0 }) 14 14)) w1
theorem calls_ref21_Names  (w : World) (R : Ending → World → Prop) (h : vc_ref21_Names  w R) : Calls P F.ref21_Names #[] w R :=
  calls_of_vc (fn := Try.f12) (ac := ac_ref21_Names) (args := []) mixed Try.func12 (by kernel_rfl) (cast (by unfold vc_ref21_Names FnVc; kernel_rfl) h)
/-- darkroom/moves.Size -/
def vc_moves_Size (st1 : ByteArray) (sa1 : Option Addr) (sl1 sc1 : Nat) (x1 : Int) (x2 : Int) (w : World) (R : Ending → World → Prop) : Prop :=
  Calls P F.moves_find #[Value.string st1, Value.slice sa1 sl1 sc1] w fun e1 w1 =>
  ∃ s1 : ByteArray,
  ∃ p1 : Option Addr,
  ∃ k1 : Nat,
  ∃ k2 : Nat,
  ∃ v1 : Value,
  ∃ v2 : Value,
  ∃ n1 : Int,
  (e1 = Ending.returned (Value.tuple #[Value.agg #[Value.string s1, Value.slice p1 k1 k2, v1, v2], Value.int IntKind.i64 n1])) ∧
  ∀ k3 : Nat,
  (w1.heap.size ≤ k3) →
  brB (oneAll [Value.string s1, Value.slice p1 k1 k2, v1, v2] && true)
    (brB (n1 != 0)
      (∀ w2 : World,
      (Locl ([k3]) w1 w2) →
      R (Ending.returned (Value.tuple #[Value.int IntKind.i64 0, Value.int IntKind.i64 0, Value.int IntKind.i64 n1])) w2)
      (∀ w3 : World,
      (Locl ([k3]) w1 w3) →
      Calls P F.moves_fits #[Value.int IntKind.i64 x1, Value.int IntKind.i64 x2] w3 fun e2 w4 =>
      ∃ c1 : Bool,
      (e2 = Ending.returned (Value.bool c1)) ∧
      (Keep ([k3]) w3 w4) ∧
      brB (!c1)
        (R (Ending.returned (Value.tuple #[Value.int IntKind.i64 0, Value.int IntKind.i64 0, Value.int IntKind.i64 4])) w4)
        (∃ I1 : List Value → World → Prop,
        (brB (decide (st1 = { data := #[99, 114, 111, 112] }))
            (idx (sa1) (sl1) (0) (1) fun a1 =>
            ∃ n2 : Int,
            (w4.drew.cell? a1 = some (Value.int IntKind.i64 n2)) ∧
            idx (sa1) (sl1) (2) (1) fun a2 =>
            ∃ n3 : Int,
            (w4.drew.cell? a2 = some (Value.int IntKind.i64 n3)) ∧
            brB (decide (IntKind.i64.wrap (n2 + n3) > x1))
              (R (Ending.returned (Value.tuple #[Value.int IntKind.i64 0, Value.int IntKind.i64 0, Value.int IntKind.i64 190])) w4.drew)
              (idx (sa1) (sl1) (1) (1) fun a3 =>
              ∃ n4 : Int,
              (w4.drew.cell? a3 = some (Value.int IntKind.i64 n4)) ∧
              idx (sa1) (sl1) (3) (1) fun a4 =>
              ∃ n5 : Int,
              (w4.drew.cell? a4 = some (Value.int IntKind.i64 n5)) ∧
              brB (decide (IntKind.i64.wrap (n4 + n5) > x2))
                (R (Ending.returned (Value.tuple #[Value.int IntKind.i64 0, Value.int IntKind.i64 0, Value.int IntKind.i64 190])) w4.drew)
                (I1 [] w4.drew)))
            (I1 [] w4.drew)) ∧
        ∀ w5 : World,
        (I1 [] w5) →
        callV P (v1) [Value.slice sa1 sl1 sc1, Value.int IntKind.i64 x1, Value.int IntKind.i64 x2] w5 fun e3 w6 =>
        ∃ n6 : Int,
        ∃ n7 : Int,
        (e3 = Ending.returned (Value.tuple #[Value.int IntKind.i64 n6, Value.int IntKind.i64 n7])) ∧
        (Keep ([k3]) w5 w6) ∧
        Calls P F.moves_fits #[Value.int IntKind.i64 n6, Value.int IntKind.i64 n7] w6 fun e4 w7 =>
        ∃ c2 : Bool,
        (e4 = Ending.returned (Value.bool c2)) ∧
        (Keep ([k3]) w6 w7) ∧
        brB (!c2)
          (R (Ending.returned (Value.tuple #[Value.int IntKind.i64 0, Value.int IntKind.i64 0, Value.int IntKind.i64 11])) w7)
          (R (Ending.returned (Value.tuple #[Value.int IntKind.i64 n6, Value.int IntKind.i64 n7, Value.int IntKind.i64 0])) w7))))
    (False)
theorem calls_moves_Size (st1 : ByteArray) (sa1 : Option Addr) (sl1 sc1 : Nat) (x1 : Int) (x2 : Int) (w : World) (R : Ending → World → Prop) (h : vc_moves_Size st1 sa1 sl1 sc1 x1 x2 w R) : Calls P F.moves_Size #[.string st1, .slice sa1 sl1 sc1, .int .i64 x1, .int .i64 x2] w R :=
  calls_of_vc (fn := Try.f13) (ac := ac_moves_Size) (args := [.string st1, .slice sa1 sl1 sc1, .int .i64 x1, .int .i64 x2]) mixed Try.func13 (by kernel_rfl) (cast (by unfold vc_moves_Size FnVc; kernel_rfl) h)
/-- darkroom/darkroomlaw21.ints -/
def vc_law21_ints (sa1 : Option Addr) (sl1 sc1 : Nat) (w : World) (R : Ending → World → Prop) : Prop :=
  ∀ k1 : Nat,
  ∀ w1 : World,
  (New w (Obj.cells #[] 3) k1 w1) →
  ∃ l1 : List Value,
  (l1.length = sl1 * 1) ∧
  (oneAll l1 = true) ∧
  (CellsAre w1 sa1 l1) ∧
  appVC (w1) ([]) (some { block := k1, off := 0 }) (0) (0) (sl1) (1) (8) (3) ([Value.int IntKind.i64 0]) (l1) fun p1 k2 k3 w2 =>
  R (Ending.returned (Value.slice p1 k2 k3)) w2
theorem calls_law21_ints (sa1 : Option Addr) (sl1 sc1 : Nat) (w : World) (R : Ending → World → Prop) (h : vc_law21_ints sa1 sl1 sc1 w R) : Calls P F.law21_ints #[.slice sa1 sl1 sc1] w R :=
  calls_of_vc (fn := Try.f14) (ac := ac_law21_ints) (args := [.slice sa1 sl1 sc1]) mixed Try.func14 (by kernel_rfl) (cast (by unfold vc_law21_ints FnVc; kernel_rfl) h)
/-- darkroom/darkroomref21.Size -/
def vc_ref21_Size (st1 : ByteArray) (sa1 : Option Addr) (sl1 sc1 : Nat) (x1 : Int) (x2 : Int) (w : World) (R : Ending → World → Prop) : Prop :=
  Calls P F.ref21_Check #[Value.string st1, Value.slice sa1 sl1 sc1] w fun e1 w1 =>
  ∃ n1 : Int,
  (e1 = Ending.returned (Value.int IntKind.i64 n1)) ∧
  brB (n1 != 0)
    (R (Ending.returned (Value.tuple #[Value.int IntKind.i64 0, Value.int IntKind.i64 0, Value.int IntKind.i64 n1])) w1)
    (Calls P F.ref07_Fits #[Value.int IntKind.i64 x1, Value.int IntKind.i64 x2] w1 fun e2 w2 =>
    ∃ c1 : Bool,
    (e2 = Ending.returned (Value.bool c1)) ∧
    brB (!c1)
      (R (Ending.returned (Value.tuple #[Value.int IntKind.i64 0, Value.int IntKind.i64 0, Value.int IntKind.i64 4])) w2)
      (∃ I1 : List Value → World → Prop,
      (brB (decide (st1 = { data := #[99, 114, 111, 112] }))
          (idx (sa1) (sl1) (0) (1) fun a1 =>
          ∃ n2 : Int,
          (w2.drew.cell? a1 = some (Value.int IntKind.i64 n2)) ∧
          idx (sa1) (sl1) (1) (1) fun a2 =>
          ∃ n3 : Int,
          (w2.drew.cell? a2 = some (Value.int IntKind.i64 n3)) ∧
          idx (sa1) (sl1) (2) (1) fun a3 =>
          ∃ n4 : Int,
          (w2.drew.cell? a3 = some (Value.int IntKind.i64 n4)) ∧
          idx (sa1) (sl1) (3) (1) fun a4 =>
          ∃ n5 : Int,
          (w2.drew.cell? a4 = some (Value.int IntKind.i64 n5)) ∧
          Calls P F.ref07_Within #[Value.int IntKind.i64 n2, Value.int IntKind.i64 n3, Value.int IntKind.i64 n4, Value.int IntKind.i64 n5, Value.int IntKind.i64 x1, Value.int IntKind.i64 x2] (w2.drew) fun e3 w3 =>
          ∃ c2 : Bool,
          (e3 = Ending.returned (Value.bool c2)) ∧
          brB (!c2)
            (R (Ending.returned (Value.tuple #[Value.int IntKind.i64 0, Value.int IntKind.i64 0, Value.int IntKind.i64 190])) w3)
            (I1 [] w3))
          (I1 [] w2.drew)) ∧
      ∀ w4 : World,
      (I1 [] w4) →
      Calls P F.ref21_size #[Value.string st1, Value.slice sa1 sl1 sc1, Value.int IntKind.i64 x1, Value.int IntKind.i64 x2] w4 fun e4 w5 =>
      ∃ n6 : Int,
      ∃ n7 : Int,
      (e4 = Ending.returned (Value.tuple #[Value.int IntKind.i64 n6, Value.int IntKind.i64 n7])) ∧
      Calls P F.ref07_Fits #[Value.int IntKind.i64 n6, Value.int IntKind.i64 n7] w5 fun e5 w6 =>
      ∃ c3 : Bool,
      (e5 = Ending.returned (Value.bool c3)) ∧
      brB (!c3)
        (R (Ending.returned (Value.tuple #[Value.int IntKind.i64 0, Value.int IntKind.i64 0, Value.int IntKind.i64 11])) w6)
        (R (Ending.returned (Value.tuple #[Value.int IntKind.i64 n6, Value.int IntKind.i64 n7, Value.int IntKind.i64 0])) w6)))
theorem calls_ref21_Size (st1 : ByteArray) (sa1 : Option Addr) (sl1 sc1 : Nat) (x1 : Int) (x2 : Int) (w : World) (R : Ending → World → Prop) (h : vc_ref21_Size st1 sa1 sl1 sc1 x1 x2 w R) : Calls P F.ref21_Size #[.string st1, .slice sa1 sl1 sc1, .int .i64 x1, .int .i64 x2] w R :=
  calls_of_vc (fn := Try.f15) (ac := ac_ref21_Size) (args := [.string st1, .slice sa1 sl1 sc1, .int .i64 x1, .int .i64 x2]) mixed Try.func15 (by kernel_rfl) (cast (by unfold vc_ref21_Size FnVc; kernel_rfl) h)
/-- darkroom/moves.Check -/
def vc_moves_Check (st1 : ByteArray) (sa1 : Option Addr) (sl1 sc1 : Nat) (w : World) (R : Ending → World → Prop) : Prop :=
  Calls P F.moves_find #[Value.string st1, Value.slice sa1 sl1 sc1] w fun e1 w1 =>
  ∃ s1 : ByteArray,
  ∃ p1 : Option Addr,
  ∃ k1 : Nat,
  ∃ k2 : Nat,
  ∃ v1 : Value,
  ∃ v2 : Value,
  ∃ n1 : Int,
  (e1 = Ending.returned (Value.tuple #[Value.agg #[Value.string s1, Value.slice p1 k1 k2, v1, v2], Value.int IntKind.i64 n1])) ∧
  ∀ k3 : Nat,
  (w1.heap.size ≤ k3) →
  brB (oneAll [Value.string s1, Value.slice p1 k1 k2, v1, v2] && true)
    (∀ w2 : World,
    (Locl ([k3]) w1 w2) →
    R (Ending.returned (Value.int IntKind.i64 n1)) w2)
    (False)
theorem calls_moves_Check (st1 : ByteArray) (sa1 : Option Addr) (sl1 sc1 : Nat) (w : World) (R : Ending → World → Prop) (h : vc_moves_Check st1 sa1 sl1 sc1 w R) : Calls P F.moves_Check #[.string st1, .slice sa1 sl1 sc1] w R :=
  calls_of_vc (fn := Try.f16) (ac := ac_moves_Check) (args := [.string st1, .slice sa1 sl1 sc1]) mixed Try.func16 (by kernel_rfl) (cast (by unfold vc_moves_Check FnVc; kernel_rfl) h)
/-- darkroom/darkroomref21.Check -/
def vc_ref21_Check (st1 : ByteArray) (sa1 : Option Addr) (sl1 sc1 : Nat) (w : World) (R : Ending → World → Prop) : Prop :=
  Calls P F.ref21_Names #[] w fun e1 w1 =>
  ∃ p1 : Option Addr,
  ∃ k1 : Nat,
  ∃ k2 : Nat,
  (e1 = Ending.returned (Value.slice p1 k1 k2)) ∧
  Calls P F.ref20_In #[Value.string st1, Value.slice p1 k1 k2] w1 fun e2 w2 =>
  ∃ c1 : Bool,
  (e2 = Ending.returned (Value.bool c1)) ∧
  brB (!c1)
    (R (Ending.returned (Value.int IntKind.i64 8)) w2)
    (Calls P F.ref21_bounds #[Value.string st1] w2 fun e3 w3 =>
    ∃ p2 : Option Addr,
    ∃ k3 : Nat,
    ∃ k4 : Nat,
    (e3 = Ending.returned (Value.slice p2 k3 k4)) ∧
    Calls P F.ref20_Fit #[Value.slice sa1 sl1 sc1, Value.slice p2 k3 k4] w3 fun e4 w4 =>
    ∃ c2 : Bool,
    (e4 = Ending.returned (Value.bool c2)) ∧
    brB (!c2)
      (R (Ending.returned (Value.int IntKind.i64 190)) w4)
      (R (Ending.returned (Value.int IntKind.i64 0)) w4))
theorem calls_ref21_Check (st1 : ByteArray) (sa1 : Option Addr) (sl1 sc1 : Nat) (w : World) (R : Ending → World → Prop) (h : vc_ref21_Check st1 sa1 sl1 sc1 w R) : Calls P F.ref21_Check #[.string st1, .slice sa1 sl1 sc1] w R :=
  calls_of_vc (fn := Try.f17) (ac := ac_ref21_Check) (args := [.string st1, .slice sa1 sl1 sc1]) mixed Try.func17 (by kernel_rfl) (cast (by unfold vc_ref21_Check FnVc; kernel_rfl) h)
/-- darkroom/moves.Apply -/
def vc_moves_Apply (st1 : ByteArray) (sa1 : Option Addr) (sl1 sc1 : Nat) (x1 : Int) (x2 : Int) (sa2 : Option Addr) (sl2 sc2 : Nat) (w : World) (R : Ending → World → Prop) : Prop :=
  ∀ k1 : Nat,
  (w.heap.size ≤ k1) →
  ∀ k2 : Nat,
  (w.heap.size ≤ k2) →
  ∀ k3 : Nat,
  (w.heap.size ≤ k3) →
  ∀ w1 : World,
  (Locl ([k3, k2, k1]) w w1) →
  Calls P F.moves_find #[Value.string st1, Value.slice sa1 sl1 sc1] w1 fun e1 w2 =>
  ∃ s1 : ByteArray,
  ∃ p1 : Option Addr,
  ∃ k4 : Nat,
  ∃ k5 : Nat,
  ∃ v1 : Value,
  ∃ v2 : Value,
  ∃ n1 : Int,
  (e1 = Ending.returned (Value.tuple #[Value.agg #[Value.string s1, Value.slice p1 k4 k5, v1, v2], Value.int IntKind.i64 n1])) ∧
  (Keep ([k3, k2, k1]) w1 w2) ∧
  ∀ k6 : Nat,
  (w2.heap.size ≤ k6) →
  brB (oneAll [Value.string s1, Value.slice p1 k4 k5, v1, v2] && true)
    (brB (n1 != 0)
      (∀ w3 : World,
      (Locl ([k6, k3, k2, k1]) w2 w3) →
      R (Ending.returned (Value.tuple #[Value.agg #[Value.int IntKind.i64 0, Value.int IntKind.i64 0, Value.slice none 0 0], Value.int IntKind.i64 n1])) w3)
      (∀ w4 : World,
      (Locl ([k6, k3, k2, k1]) w2 w4) →
      Calls P F.raster_Good #[Value.agg #[Value.int IntKind.i64 x1, Value.int IntKind.i64 x2, Value.slice sa2 sl2 sc2]] w4 fun e2 w5 =>
      ∃ c1 : Bool,
      (e2 = Ending.returned (Value.bool c1)) ∧
      (Keep ([k6, k3, k2, k1]) w4 w5) ∧
      brB (!c1)
        (∀ w6 : World,
        (Locl ([k6, k3, k2, k1]) w5 w6) →
        R (Ending.returned (Value.tuple #[Value.agg #[Value.int IntKind.i64 0, Value.int IntKind.i64 0, Value.slice none 0 0], Value.int IntKind.i64 6])) w6)
        (Calls P F.moves_Size #[Value.string st1, Value.slice sa1 sl1 sc1, Value.int IntKind.i64 x1, Value.int IntKind.i64 x2] w5 fun e3 w7 =>
        ∃ n2 : Int,
        ∃ n3 : Int,
        ∃ n4 : Int,
        (e3 = Ending.returned (Value.tuple #[Value.int IntKind.i64 n2, Value.int IntKind.i64 n3, Value.int IntKind.i64 n4])) ∧
        (Keep ([k6, k3, k2, k1]) w5 w7) ∧
        brB (n4 != 0)
          (∀ w8 : World,
          (Locl ([k6, k3, k2, k1]) w7 w8) →
          R (Ending.returned (Value.tuple #[Value.agg #[Value.int IntKind.i64 0, Value.int IntKind.i64 0, Value.slice none 0 0], Value.int IntKind.i64 n4])) w8)
          (brB (decide (st1 = { data := #[116, 114, 105, 109] }))
            (Calls P F.moves_trim #[Value.agg #[Value.int IntKind.i64 x1, Value.int IntKind.i64 x2, Value.slice sa2 sl2 sc2]] w7 fun e4 w9 =>
            ∃ n5 : Int,
            ∃ n6 : Int,
            ∃ p2 : Option Addr,
            ∃ k7 : Nat,
            ∃ k8 : Nat,
            (e4 = Ending.returned (Value.agg #[Value.int IntKind.i64 n5, Value.int IntKind.i64 n6, Value.slice p2 k7 k8])) ∧
            (Keep ([k6, k3, k2, k1]) w7 w9) ∧
            ∀ w10 : World,
            (Locl ([k6, k3, k2, k1]) w9 w10) →
            R (Ending.returned (Value.tuple #[Value.agg #[Value.int IntKind.i64 n5, Value.int IntKind.i64 n6, Value.slice p2 k7 k8], Value.int IntKind.i64 0])) w10)
            (((0 : Int) ≤ 0) ∧
            (0 ≤ IntKind.i64.wrap (IntKind.i64.wrap (4 * n2) * n3)) ∧
            (IntKind.i64.wrap (IntKind.i64.wrap (4 * n2) * n3) * 2 ≤ 281474976710656) ∧
            (IntKind.i64.wrap (IntKind.i64.wrap (4 * n2) * n3) < 4611686018427387904) ∧
            ∀ k9 : Nat,
            ∀ w11 : World,
            (New w7 (Obj.cells (mkCells [Value.int IntKind.u16 0] (IntKind.i64.wrap (IntKind.i64.wrap (4 * n2) * n3)).toNat) 54) k9 w11) →
            ∀ k10 : Nat,
            (w11.heap.size ≤ k10) →
            ∀ w12 : World,
            (Locl ([k10, k6, k3, k2, k1]) w11 w12) →
            Calls P F.moves_places #[Value.int IntKind.i64 n2, Value.int IntKind.i64 n3] w12 fun e5 w13 =>
            ∃ y1 : FuncId,
            ∃ y2 : Array Value,
            ∃ y3 : Array Value,
            (e5 = Ending.returned (Value.func (Fn.func y1) y2 y3)) ∧
            (Keep ([k10, k6, k3, k2, k1]) w12 w13) ∧
            ∀ k11 : Nat,
            ∀ w14 : World,
            (Rf w13 w14 k11) →
            ∀ I1 : List Value → World → Prop,
            ∀ Z1 : Exit → List Value → World → Prop,
            (∀ l1 : List Value,
            ∀ w15 : World,
            ∀ w16 : World,
            (I1 l1 w15) →
            (Keep ([k11, w13.heap.size, k10, k6, k3, k2, k1]) w15 w16) →
            I1 l1 w16) →
            (∀ y4 : Exit,
            ∀ l2 : List Value,
            ∀ w17 : World,
            ∀ w18 : World,
            (Z1 y4 l2 w17) →
            (Keep ([k11, w13.heap.size, k10, k6, k3, k2, k1]) w17 w18) →
            Z1 y4 l2 w18) →
            (I1 [Value.int IntKind.i64 n2, Value.int IntKind.i64 n3, Value.slice (some { block := k9, off := 0 }) 0 (IntKind.i64.wrap (IntKind.i64.wrap (4 * n2) * n3)).toNat] w14) →
            (∀ n7 : Int,
            ∀ n8 : Int,
            ∀ p3 : Option Addr,
            ∀ k12 : Nat,
            ∀ k13 : Nat,
            ∀ n9 : Int,
            ∀ n10 : Int,
            ∀ w19 : World,
            ∀ I2 : Ending → World → Prop,
            (I1 [Value.int IntKind.i64 n7, Value.int IntKind.i64 n8, Value.slice p3 k12 k13] w19) →
            (∀ y5 : Obj,
            ∀ y6 : Obj,
            ∀ w20 : World,
            (Put k11 w19 w20) →
            ∃ I3 : List Value → World → Prop,
            ((isFnV v2 = true) ∧
              brB (isNilF v2)
                (∃ I4 : List Value → World → Prop,
                (idx (sa1) (sl1) (0) (1) fun a1 =>
                  ∃ n11 : Int,
                  (w20.drew.cell? a1 = some (Value.int IntKind.i64 n11)) ∧
                  (Calls P F.moves_mean #[Value.agg #[Value.int IntKind.i64 x1, Value.int IntKind.i64 x2, Value.slice sa2 sl2 sc2], Value.int IntKind.i64 n11, Value.int IntKind.i64 n9, Value.int IntKind.i64 n10] (w20.drew) fun e6 w21 =>
                    ∃ n12 : Int,
                    ∃ n13 : Int,
                    ∃ n14 : Int,
                    ∃ n15 : Int,
                    (e6 = Ending.returned (Value.agg #[Value.int IntKind.u16 n12, Value.int IntKind.u16 n13, Value.int IntKind.u16 n14, Value.int IntKind.u16 n15])) ∧
                    (Keep ([k11, w13.heap.size, k10, k6, k3, k2, k1]) (w20.drew) w21) ∧
                    ∀ k14 : Nat,
                    ∀ w22 : World,
                    (New w21 (Obj.cells #[Value.int IntKind.u16 0, Value.int IntKind.u16 0, Value.int IntKind.u16 0, Value.int IntKind.u16 0] 80) k14 w22) →
                    (∃ v3 : Value,
                      w22.cell? { block := k14, off := 0 } = some v3) ∧
                    (w22.frozen? { block := k14, off := 0 } = false) ∧
                    (∃ v4 : Value,
                      w22.cell? { block := k14, off := 1 } = some v4) ∧
                    (w22.frozen? { block := k14, off := 1 } = false) ∧
                    (∃ v5 : Value,
                      w22.cell? { block := k14, off := 2 } = some v5) ∧
                    (w22.frozen? { block := k14, off := 2 } = false) ∧
                    (∃ v6 : Value,
                      w22.cell? { block := k14, off := 3 } = some v6) ∧
                    (w22.frozen? { block := k14, off := 3 } = false) ∧
                    (¬k14 ∈ [k10, k6, k3, k2, k1]) ∧
                    I4 [Value.pointer (some { block := k14, off := 0 })] (setCells w22 { block := k14, off := 0 } [Value.int IntKind.u16 n12, Value.int IntKind.u16 n13, Value.int IntKind.u16 n14, Value.int IntKind.u16 n15] 0)) ∧
                  ∀ k15 : Nat,
                  ∀ w23 : World,
                  (New (w20.drew) (Obj.cells #[Value.int IntKind.u16 0, Value.int IntKind.u16 0, Value.int IntKind.u16 0, Value.int IntKind.u16 0] 80) k15 w23) →
                  Calls P F.moves_mean #[Value.agg #[Value.int IntKind.i64 x1, Value.int IntKind.i64 x2, Value.slice sa2 sl2 sc2], Value.int IntKind.i64 n11, Value.int IntKind.i64 n9, Value.int IntKind.i64 n10] w23 fun e7 w24 =>
                  ∃ n16 : Int,
                  ∃ n17 : Int,
                  ∃ n18 : Int,
                  ∃ n19 : Int,
                  (e7 = Ending.returned (Value.agg #[Value.int IntKind.u16 n16, Value.int IntKind.u16 n17, Value.int IntKind.u16 n18, Value.int IntKind.u16 n19])) ∧
                  (Keep ([k11, w13.heap.size, k10, k6, k3, k2, k1]) w23 w24) ∧
                  (∃ v7 : Value,
                    w24.cell? { block := k15, off := 0 } = some v7) ∧
                  (w24.frozen? { block := k15, off := 0 } = false) ∧
                  (∃ v8 : Value,
                    w24.cell? { block := k15, off := 1 } = some v8) ∧
                  (w24.frozen? { block := k15, off := 1 } = false) ∧
                  (∃ v9 : Value,
                    w24.cell? { block := k15, off := 2 } = some v9) ∧
                  (w24.frozen? { block := k15, off := 2 } = false) ∧
                  (∃ v10 : Value,
                    w24.cell? { block := k15, off := 3 } = some v10) ∧
                  (w24.frozen? { block := k15, off := 3 } = false) ∧
                  (¬k15 ∈ [k10, k6, k3, k2, k1]) ∧
                  I4 [Value.pointer (some { block := k15, off := 0 })] (setCells w24 { block := k15, off := 0 } [Value.int IntKind.u16 n16, Value.int IntKind.u16 n17, Value.int IntKind.u16 n18, Value.int IntKind.u16 n19] 0)) ∧
                ∀ p4 : Option Addr,
                ∀ w25 : World,
                (I4 [Value.pointer p4] w25) →
                nn (p4) fun a2 =>
                slcc (some a2) (4) (0) (4) (1) fun p5 k16 k17 =>
                ∃ l3 : List Value,
                (l3.length = k16 * 1) ∧
                (oneAll l3 = true) ∧
                (CellsAre (w25.drew) p5 l3) ∧
                appVC (w25.drew) ([(12, k10, [Value.int IntKind.i64 n7, Value.int IntKind.i64 n8, Value.slice p3 k12 k13]), (8, k6, [Value.string s1, Value.slice p1 k4 k5, v1, v2]), (6, k3, [Value.int IntKind.i64 0, Value.int IntKind.i64 0, Value.slice none 0 0]), (5, k2, [Value.int IntKind.i64 x1, Value.int IntKind.i64 x2, Value.slice sa2 sl2 sc2]), (4, k1, [Value.slice sa1 sl1 sc1])]) (p3) (k12) (k13) (k16) (1) (2) (54) ([Value.int IntKind.u16 0]) (l3) fun p6 k18 k19 w26 =>
                ∀ w27 : World,
                (Locl ([k10, k6, k3, k2, k1]) w26 w27) →
                I3 [Value.int IntKind.i64 n7, Value.int IntKind.i64 n8, Value.slice p6 k18 k19] w27)
                (callV P (v2) [Value.slice sa1 sl1 sc1, Value.int IntKind.i64 x1, Value.int IntKind.i64 x2, Value.int IntKind.i64 n9, Value.int IntKind.i64 n10] w20 fun e8 w28 =>
                ∃ n20 : Int,
                ∃ n21 : Int,
                (e8 = Ending.returned (Value.tuple #[Value.int IntKind.i64 n20, Value.int IntKind.i64 n21])) ∧
                (Keep ([k11, w13.heap.size, k10, k6, k3, k2, k1]) w20 w28) ∧
                brB (decide (n20 < 0) || decide (n21 < 0) || decide (n20 ≥ x1) || decide (n21 ≥ x2))
                  (slcc (sa1) (sc1) (1) ((↑sl1 : Int)) (1) fun p7 k20 k21 =>
                  ∃ I5 : List Value → World → Prop,
                  ∃ m1 : List Value → World → Nat,
                  (I5 [Value.int IntKind.i64 0, Value.int IntKind.i64 n7, Value.int IntKind.i64 n8, Value.slice p3 k12 k13] w28) ∧
                  ∀ n22 : Int,
                  ∀ n23 : Int,
                  ∀ n24 : Int,
                  ∀ p8 : Option Addr,
                  ∀ k22 : Nat,
                  ∀ k23 : Nat,
                  ∀ w29 : World,
                  (I5 [Value.int IntKind.i64 n22, Value.int IntKind.i64 n23, Value.int IntKind.i64 n24, Value.slice p8 k22 k23] w29) →
                  brB (decide (n22 < (↑k20 : Int)))
                    (idx (p7) (k20) (n22) (1) fun a3 =>
                    ∃ n25 : Int,
                    (w29.cell? a3 = some (Value.int IntKind.i64 n25)) ∧
                    ∀ k24 : Nat,
                    (w29.heap.size ≤ k24) →
                    ∀ w30 : World,
                    (Locl ([k24, k10, k6, k3, k2, k1]) w29 w30) →
                    appVC (w30) ([(124, k24, [Value.int IntKind.u16 (IntKind.u16.wrap n25)]), (12, k10, [Value.int IntKind.i64 n23, Value.int IntKind.i64 n24, Value.slice p8 k22 k23]), (8, k6, [Value.string s1, Value.slice p1 k4 k5, v1, v2]), (6, k3, [Value.int IntKind.i64 0, Value.int IntKind.i64 0, Value.slice none 0 0]), (5, k2, [Value.int IntKind.i64 x1, Value.int IntKind.i64 x2, Value.slice sa2 sl2 sc2]), (4, k1, [Value.slice sa1 sl1 sc1])]) (p8) (k22) (k23) (1) (1) (2) (54) ([Value.int IntKind.u16 0]) ([Value.int IntKind.u16 (IntKind.u16.wrap n25)]) fun p9 k25 k26 w31 =>
                    ∀ w32 : World,
                    (Locl ([k24, k10, k6, k3, k2, k1]) w31 w32) →
                    (I5 [Value.int IntKind.i64 (IntKind.i64.wrap (n22 + 1)), Value.int IntKind.i64 n23, Value.int IntKind.i64 n24, Value.slice p9 k25 k26] w32) ∧
                    m1 [Value.int IntKind.i64 (IntKind.i64.wrap (n22 + 1)), Value.int IntKind.i64 n23, Value.int IntKind.i64 n24, Value.slice p9 k25 k26] w32 < m1 [Value.int IntKind.i64 n22, Value.int IntKind.i64 n23, Value.int IntKind.i64 n24, Value.slice p8 k22 k23] w29)
                    (I3 [Value.int IntKind.i64 n23, Value.int IntKind.i64 n24, Value.slice p8 k22 k23] w29))
                  (slcc (sa2) (sc2) (IntKind.i64.wrap (4 * IntKind.i64.wrap (IntKind.i64.wrap (n21 * x1) + n20))) (IntKind.i64.wrap (IntKind.i64.wrap (4 * IntKind.i64.wrap (IntKind.i64.wrap (n21 * x1) + n20)) + 4)) (1) fun p10 k27 k28 =>
                  ∃ l4 : List Value,
                  (l4.length = k27 * 1) ∧
                  (oneAll l4 = true) ∧
                  (CellsAre (w28.drew) p10 l4) ∧
                  appVC (w28.drew) ([(12, k10, [Value.int IntKind.i64 n7, Value.int IntKind.i64 n8, Value.slice p3 k12 k13]), (8, k6, [Value.string s1, Value.slice p1 k4 k5, v1, v2]), (6, k3, [Value.int IntKind.i64 0, Value.int IntKind.i64 0, Value.slice none 0 0]), (5, k2, [Value.int IntKind.i64 x1, Value.int IntKind.i64 x2, Value.slice sa2 sl2 sc2]), (4, k1, [Value.slice sa1 sl1 sc1])]) (p3) (k12) (k13) (k27) (1) (2) (54) ([Value.int IntKind.u16 0]) (l4) fun p11 k29 k30 w33 =>
                  ∀ w34 : World,
                  (Locl ([k10, k6, k3, k2, k1]) w33 w34) →
                  I3 [Value.int IntKind.i64 n7, Value.int IntKind.i64 n8, Value.slice p11 k29 k30] w34))) ∧
            ∀ n26 : Int,
            ∀ n27 : Int,
            ∀ p12 : Option Addr,
            ∀ k31 : Nat,
            ∀ k32 : Nat,
            ∀ w35 : World,
            (I3 [Value.int IntKind.i64 n26, Value.int IntKind.i64 n27, Value.slice p12 k31 k32] w35) →
            ∀ w36 : World,
            (Put k11 w35 w36) →
            (I1 [Value.int IntKind.i64 n26, Value.int IntKind.i64 n27, Value.slice p12 k31 k32] w36) →
            I2 (Ending.returned (Value.bool true)) w36) →
            YieldAt Fence.wide 0 P (k11) #[Value.int IntKind.i64 n9, Value.int IntKind.i64 n10] (w19) I2) →
            callF P (Value.func (Fn.func y1) y2 y3) [Value.func (Fn.yield k11) #[] #[]] w14 fun e9 w37 =>
            ∃ v11 : Value,
            (e9 = Ending.returned v11) ∧
            ((∃ n28 : Int,
              ∃ n29 : Int,
              ∃ p13 : Option Addr,
              ∃ k33 : Nat,
              ∃ k34 : Nat,
              (I1 [Value.int IntKind.i64 n28, Value.int IntKind.i64 n29, Value.slice p13 k33 k34] w37) ∧
              ∀ w38 : World,
              (Put k11 w37 w38) →
              ∀ w39 : World,
              (Locl ([k10, k6, k3, k2, k1]) w38 w39) →
              ∀ w40 : World,
              (Put (w13.heap.size) w39 w40) →
              R (Ending.returned (Value.tuple #[Value.agg #[Value.int IntKind.i64 n28, Value.int IntKind.i64 n29, Value.slice p13 k33 k34], Value.int IntKind.i64 0])) w40) ∨
            (False)))))))
    (False)
theorem calls_moves_Apply (st1 : ByteArray) (sa1 : Option Addr) (sl1 sc1 : Nat) (x1 : Int) (x2 : Int) (sa2 : Option Addr) (sl2 sc2 : Nat) (w : World) (R : Ending → World → Prop) (h : vc_moves_Apply st1 sa1 sl1 sc1 x1 x2 sa2 sl2 sc2 w R) : Calls P F.moves_Apply #[.string st1, .slice sa1 sl1 sc1, .agg #[.int .i64 x1, .int .i64 x2, .slice sa2 sl2 sc2]] w R :=
  calls_of_vc (fn := Try.f18) (ac := ac_moves_Apply) (args := [.string st1, .slice sa1 sl1 sc1, .agg #[.int .i64 x1, .int .i64 x2, .slice sa2 sl2 sc2]]) mixed Try.func18 (by kernel_rfl) (cast (by unfold vc_moves_Apply FnVc; kernel_rfl) h)
/-- darkroom/darkroomlaw21.own -/
def vc_law21_own (x1 : Int) (x2 : Int) (sa1 : Option Addr) (sl1 sc1 : Nat) (w : World) (R : Ending → World → Prop) : Prop :=
  ∀ k1 : Nat,
  (w.heap.size ≤ k1) →
  ∀ k2 : Nat,
  (w.heap.size ≤ k2) →
  ∀ w1 : World,
  (Locl ([k2, k1]) w w1) →
  Calls P F.ref09_Copy #[Value.agg #[Value.int IntKind.i64 x1, Value.int IntKind.i64 x2, Value.slice sa1 sl1 sc1]] w1 fun e1 w2 =>
  ∃ n1 : Int,
  ∃ n2 : Int,
  ∃ p1 : Option Addr,
  ∃ k3 : Nat,
  ∃ k4 : Nat,
  (e1 = Ending.returned (Value.agg #[Value.int IntKind.i64 n1, Value.int IntKind.i64 n2, Value.slice p1 k3 k4])) ∧
  (Keep ([k2, k1]) w1 w2) ∧
  ∀ w3 : World,
  (Locl ([k2, k1]) w2 w3) →
  R (Ending.returned (Value.agg #[Value.int IntKind.i64 n1, Value.int IntKind.i64 n2, Value.slice p1 k3 k4])) w3
theorem calls_law21_own (x1 : Int) (x2 : Int) (sa1 : Option Addr) (sl1 sc1 : Nat) (w : World) (R : Ending → World → Prop) (h : vc_law21_own x1 x2 sa1 sl1 sc1 w R) : Calls P F.law21_own #[.agg #[.int .i64 x1, .int .i64 x2, .slice sa1 sl1 sc1]] w R :=
  calls_of_vc (fn := Try.f19) (ac := ac_law21_own) (args := [.agg #[.int .i64 x1, .int .i64 x2, .slice sa1 sl1 sc1]]) mixed Try.func19 (by kernel_rfl) (cast (by unfold vc_law21_own FnVc; kernel_rfl) h)
/-- darkroom/darkroomref21.Apply -/
def vc_ref21_Apply (st1 : ByteArray) (sa1 : Option Addr) (sl1 sc1 : Nat) (x1 : Int) (x2 : Int) (sa2 : Option Addr) (sl2 sc2 : Nat) (w : World) (R : Ending → World → Prop) : Prop :=
  ∀ k1 : Nat,
  (w.heap.size ≤ k1) →
  ∀ k2 : Nat,
  (w.heap.size ≤ k2) →
  ∀ w1 : World,
  (Locl ([k2, k1]) w w1) →
  Calls P F.ref21_Check #[Value.string st1, Value.slice sa1 sl1 sc1] w1 fun e1 w2 =>
  ∃ n1 : Int,
  (e1 = Ending.returned (Value.int IntKind.i64 n1)) ∧
  (Keep ([k2, k1]) w1 w2) ∧
  brB (n1 != 0)
    (∀ w3 : World,
    (Locl ([k2, k1]) w2 w3) →
    R (Ending.returned (Value.tuple #[Value.agg #[Value.int IntKind.i64 0, Value.int IntKind.i64 0, Value.slice none 0 0], Value.int IntKind.i64 n1])) w3)
    (Calls P F.ref09_Good #[Value.agg #[Value.int IntKind.i64 x1, Value.int IntKind.i64 x2, Value.slice sa2 sl2 sc2]] w2 fun e2 w4 =>
    ∃ c1 : Bool,
    (e2 = Ending.returned (Value.bool c1)) ∧
    (Keep ([k2, k1]) w2 w4) ∧
    brB (!c1)
      (∀ w5 : World,
      (Locl ([k2, k1]) w4 w5) →
      R (Ending.returned (Value.tuple #[Value.agg #[Value.int IntKind.i64 0, Value.int IntKind.i64 0, Value.slice none 0 0], Value.int IntKind.i64 6])) w5)
      (Calls P F.ref21_Size #[Value.string st1, Value.slice sa1 sl1 sc1, Value.int IntKind.i64 x1, Value.int IntKind.i64 x2] w4 fun e3 w6 =>
      ∃ n2 : Int,
      ∃ n3 : Int,
      ∃ n4 : Int,
      (e3 = Ending.returned (Value.tuple #[Value.int IntKind.i64 n2, Value.int IntKind.i64 n3, Value.int IntKind.i64 n4])) ∧
      (Keep ([k2, k1]) w4 w6) ∧
      brB (n4 != 0)
        (∀ w7 : World,
        (Locl ([k2, k1]) w6 w7) →
        R (Ending.returned (Value.tuple #[Value.agg #[Value.int IntKind.i64 0, Value.int IntKind.i64 0, Value.slice none 0 0], Value.int IntKind.i64 n4])) w7)
        (brB (decide (st1 = { data := #[116, 114, 105, 109] }))
          (Calls P F.ref21_trim #[Value.agg #[Value.int IntKind.i64 x1, Value.int IntKind.i64 x2, Value.slice sa2 sl2 sc2]] w6 fun e4 w8 =>
          ∃ n5 : Int,
          ∃ n6 : Int,
          ∃ p1 : Option Addr,
          ∃ k3 : Nat,
          ∃ k4 : Nat,
          (e4 = Ending.returned (Value.agg #[Value.int IntKind.i64 n5, Value.int IntKind.i64 n6, Value.slice p1 k3 k4])) ∧
          (Keep ([k2, k1]) w6 w8) ∧
          ∀ w9 : World,
          (Locl ([k2, k1]) w8 w9) →
          R (Ending.returned (Value.tuple #[Value.agg #[Value.int IntKind.i64 n5, Value.int IntKind.i64 n6, Value.slice p1 k3 k4], Value.int IntKind.i64 0])) w9)
          (∀ k5 : Nat,
          (w6.heap.size ≤ k5) →
          ∃ I1 : List Value → World → Prop,
          ∃ m1 : List Value → World → Nat,
          (∀ w10 : World,
            (Locl ([k5, k2, k1]) w6 w10) →
            I1 [Value.int IntKind.i64 0, Value.int IntKind.i64 n2, Value.int IntKind.i64 n3, Value.slice none 0 0] w10) ∧
          ∀ n7 : Int,
          ∀ n8 : Int,
          ∀ n9 : Int,
          ∀ p2 : Option Addr,
          ∀ k6 : Nat,
          ∀ k7 : Nat,
          ∀ w11 : World,
          (I1 [Value.int IntKind.i64 n7, Value.int IntKind.i64 n8, Value.int IntKind.i64 n9, Value.slice p2 k6 k7] w11) →
          brB (decide (n7 < n3))
            (∃ I2 : List Value → World → Prop,
            ∃ m2 : List Value → World → Nat,
            (I2 [Value.int IntKind.i64 0, Value.int IntKind.i64 n8, Value.int IntKind.i64 n9, Value.slice p2 k6 k7] w11) ∧
            ∀ n10 : Int,
            ∀ n11 : Int,
            ∀ n12 : Int,
            ∀ p3 : Option Addr,
            ∀ k8 : Nat,
            ∀ k9 : Nat,
            ∀ w12 : World,
            (I2 [Value.int IntKind.i64 n10, Value.int IntKind.i64 n11, Value.int IntKind.i64 n12, Value.slice p3 k8 k9] w12) →
            brB (decide (n10 < n2))
              (∀ k10 : Nat,
              (w12.heap.size ≤ k10) →
              ∃ I3 : List Value → World → Prop,
              (brB (decide (st1 = { data := #[115, 104, 114, 105, 110, 107] }))
                  (idx (sa1) (sl1) (0) (1) fun a1 =>
                  ∀ w13 : World,
                  (Locl ([k10, k5, k2, k1]) w12 w13) →
                  ∃ n13 : Int,
                  (w13.cell? a1 = some (Value.int IntKind.i64 n13)) ∧
                  Calls P F.ref21_mean #[Value.agg #[Value.int IntKind.i64 x1, Value.int IntKind.i64 x2, Value.slice sa2 sl2 sc2], Value.int IntKind.i64 n13, Value.int IntKind.i64 n10, Value.int IntKind.i64 n7] w13 fun e5 w14 =>
                  ∃ n14 : Int,
                  ∃ n15 : Int,
                  ∃ n16 : Int,
                  ∃ n17 : Int,
                  (e5 = Ending.returned (Value.agg #[Value.int IntKind.u16 n14, Value.int IntKind.u16 n15, Value.int IntKind.u16 n16, Value.int IntKind.u16 n17])) ∧
                  (Keep ([k10, k5, k2, k1]) w13 w14) ∧
                  ∀ w15 : World,
                  (Locl ([k10, k5, k2, k1]) w14 w15) →
                  I3 [Value.int IntKind.u16 n14, Value.int IntKind.u16 n15, Value.int IntKind.u16 n16, Value.int IntKind.u16 n17] w15)
                  (brB (decide (st1 = { data := #[102, 114, 97, 109, 101] }))
                    (idx (sa1) (sl1) (1) (1) fun a2 =>
                    ∀ w16 : World,
                    (Locl ([k10, k5, k2, k1]) w12 w16) →
                    ∃ n18 : Int,
                    (w16.cell? a2 = some (Value.int IntKind.i64 n18)) ∧
                    idx (sa1) (sl1) (2) (1) fun a3 =>
                    ∃ n19 : Int,
                    (w16.cell? a3 = some (Value.int IntKind.i64 n19)) ∧
                    idx (sa1) (sl1) (3) (1) fun a4 =>
                    ∃ n20 : Int,
                    (w16.cell? a4 = some (Value.int IntKind.i64 n20)) ∧
                    idx (sa1) (sl1) (4) (1) fun a5 =>
                    ∃ n21 : Int,
                    (w16.cell? a5 = some (Value.int IntKind.i64 n21)) ∧
                    idx (sa1) (sl1) (0) (1) fun a6 =>
                    ∀ w17 : World,
                    (Locl ([k10, k5, k2, k1]) w16 w17) →
                    ∃ n22 : Int,
                    (w17.cell? a6 = some (Value.int IntKind.i64 n22)) ∧
                    idx (sa1) (sl1) (0) (1) fun a7 =>
                    ∃ n23 : Int,
                    (w17.cell? a7 = some (Value.int IntKind.i64 n23)) ∧
                    brB (decide (IntKind.i64.wrap (n10 - n22) ≥ 0) && decide (IntKind.i64.wrap (n7 - n23) ≥ 0) && decide (IntKind.i64.wrap (n10 - n22) < x1) && decide (IntKind.i64.wrap (n7 - n23) < x2))
                      (Calls P F.ref09_Pixel #[Value.agg #[Value.int IntKind.i64 x1, Value.int IntKind.i64 x2, Value.slice sa2 sl2 sc2], Value.int IntKind.i64 (IntKind.i64.wrap (n10 - n22)), Value.int IntKind.i64 (IntKind.i64.wrap (n7 - n23))] w17 fun e6 w18 =>
                      ∃ n24 : Int,
                      ∃ n25 : Int,
                      ∃ n26 : Int,
                      ∃ n27 : Int,
                      (e6 = Ending.returned (Value.agg #[Value.int IntKind.u16 n24, Value.int IntKind.u16 n25, Value.int IntKind.u16 n26, Value.int IntKind.u16 n27])) ∧
                      (Keep ([k10, k5, k2, k1]) w17 w18) ∧
                      ∀ w19 : World,
                      (Locl ([k10, k5, k2, k1]) w18 w19) →
                      I3 [Value.int IntKind.u16 n24, Value.int IntKind.u16 n25, Value.int IntKind.u16 n26, Value.int IntKind.u16 n27] w19)
                      (I3 [Value.int IntKind.u16 (IntKind.u16.wrap n18), Value.int IntKind.u16 (IntKind.u16.wrap n19), Value.int IntKind.u16 (IntKind.u16.wrap n20), Value.int IntKind.u16 (IntKind.u16.wrap n21)] w17))
                    (∀ w20 : World,
                    (Locl ([k10, k5, k2, k1]) w12 w20) →
                    Calls P F.ref21_from #[Value.string st1, Value.slice sa1 sl1 sc1, Value.int IntKind.i64 x1, Value.int IntKind.i64 x2, Value.int IntKind.i64 n10, Value.int IntKind.i64 n7] w20 fun e7 w21 =>
                    ∃ n28 : Int,
                    ∃ n29 : Int,
                    (e7 = Ending.returned (Value.tuple #[Value.int IntKind.i64 n28, Value.int IntKind.i64 n29])) ∧
                    (Keep ([k10, k5, k2, k1]) w20 w21) ∧
                    Calls P F.ref09_Pixel #[Value.agg #[Value.int IntKind.i64 x1, Value.int IntKind.i64 x2, Value.slice sa2 sl2 sc2], Value.int IntKind.i64 n28, Value.int IntKind.i64 n29] w21 fun e8 w22 =>
                    ∃ n30 : Int,
                    ∃ n31 : Int,
                    ∃ n32 : Int,
                    ∃ n33 : Int,
                    (e8 = Ending.returned (Value.agg #[Value.int IntKind.u16 n30, Value.int IntKind.u16 n31, Value.int IntKind.u16 n32, Value.int IntKind.u16 n33])) ∧
                    (Keep ([k10, k5, k2, k1]) w21 w22) ∧
                    ∀ w23 : World,
                    (Locl ([k10, k5, k2, k1]) w22 w23) →
                    I3 [Value.int IntKind.u16 n30, Value.int IntKind.u16 n31, Value.int IntKind.u16 n32, Value.int IntKind.u16 n33] w23))) ∧
              ∀ n34 : Int,
              ∀ n35 : Int,
              ∀ n36 : Int,
              ∀ n37 : Int,
              ∀ w24 : World,
              (I3 [Value.int IntKind.u16 n34, Value.int IntKind.u16 n35, Value.int IntKind.u16 n36, Value.int IntKind.u16 n37] w24) →
              Calls P F.ref09_Add #[Value.agg #[Value.int IntKind.i64 n11, Value.int IntKind.i64 n12, Value.slice p3 k8 k9], Value.agg #[Value.int IntKind.u16 n34, Value.int IntKind.u16 n35, Value.int IntKind.u16 n36, Value.int IntKind.u16 n37]] w24 fun e9 w25 =>
              ∃ n38 : Int,
              ∃ n39 : Int,
              ∃ p4 : Option Addr,
              ∃ k11 : Nat,
              ∃ k12 : Nat,
              (e9 = Ending.returned (Value.agg #[Value.int IntKind.i64 n38, Value.int IntKind.i64 n39, Value.slice p4 k11 k12])) ∧
              (Keep ([k10, k5, k2, k1]) w24 w25) ∧
              ∀ w26 : World,
              (Locl ([k10, k5, k2, k1]) w25 w26) →
              (I2 [Value.int IntKind.i64 (IntKind.i64.wrap (n10 + 1)), Value.int IntKind.i64 n38, Value.int IntKind.i64 n39, Value.slice p4 k11 k12] w26) ∧
              m2 [Value.int IntKind.i64 (IntKind.i64.wrap (n10 + 1)), Value.int IntKind.i64 n38, Value.int IntKind.i64 n39, Value.slice p4 k11 k12] w26 < m2 [Value.int IntKind.i64 n10, Value.int IntKind.i64 n11, Value.int IntKind.i64 n12, Value.slice p3 k8 k9] w12)
              ((I1 [Value.int IntKind.i64 (IntKind.i64.wrap (n7 + 1)), Value.int IntKind.i64 n11, Value.int IntKind.i64 n12, Value.slice p3 k8 k9] w12) ∧
              m1 [Value.int IntKind.i64 (IntKind.i64.wrap (n7 + 1)), Value.int IntKind.i64 n11, Value.int IntKind.i64 n12, Value.slice p3 k8 k9] w12 < m1 [Value.int IntKind.i64 n7, Value.int IntKind.i64 n8, Value.int IntKind.i64 n9, Value.slice p2 k6 k7] w11))
            (∀ w27 : World,
            (Locl ([k5, k2, k1]) w11 w27) →
            R (Ending.returned (Value.tuple #[Value.agg #[Value.int IntKind.i64 n8, Value.int IntKind.i64 n9, Value.slice p2 k6 k7], Value.int IntKind.i64 0])) w27)))))
theorem calls_ref21_Apply (st1 : ByteArray) (sa1 : Option Addr) (sl1 sc1 : Nat) (x1 : Int) (x2 : Int) (sa2 : Option Addr) (sl2 sc2 : Nat) (w : World) (R : Ending → World → Prop) (h : vc_ref21_Apply st1 sa1 sl1 sc1 x1 x2 sa2 sl2 sc2 w R) : Calls P F.ref21_Apply #[.string st1, .slice sa1 sl1 sc1, .agg #[.int .i64 x1, .int .i64 x2, .slice sa2 sl2 sc2]] w R :=
  calls_of_vc (fn := Try.f20) (ac := ac_ref21_Apply) (args := [.string st1, .slice sa1 sl1 sc1, .agg #[.int .i64 x1, .int .i64 x2, .slice sa2 sl2 sc2]]) mixed Try.func20 (by kernel_rfl) (cast (by unfold vc_ref21_Apply FnVc; kernel_rfl) h)
/-- darkroom/darkroomref09.Same -/
def vc_ref09_Same (x1 : Int) (x2 : Int) (sa1 : Option Addr) (sl1 sc1 : Nat) (x3 : Int) (x4 : Int) (sa2 : Option Addr) (sl2 sc2 : Nat) (w : World) (R : Ending → World → Prop) : Prop :=
  ∀ k1 : Nat,
  (w.heap.size ≤ k1) →
  ∀ k2 : Nat,
  (w.heap.size ≤ k2) →
  brB (x1 != x3 || x2 != x4 || (↑sl1 : Int) != (↑sl2 : Int))
    (∀ w1 : World,
    (Locl ([k2, k1]) w w1) →
    R (Ending.returned (Value.bool false)) w1)
    (∃ I1 : List Value → World → Prop,
    ∃ m1 : List Value → World → Nat,
    (∀ w2 : World,
      (Locl ([k2, k1]) w w2) →
      I1 [Value.int IntKind.i64 0] w2) ∧
    ∀ n1 : Int,
    ∀ w3 : World,
    (I1 [Value.int IntKind.i64 n1] w3) →
    brB (decide (n1 < (↑sl1 : Int)))
      (idx (sa1) (sl1) (n1) (1) fun a1 =>
      ∃ n2 : Int,
      (w3.drew.cell? a1 = some (Value.int IntKind.u16 n2)) ∧
      idx (sa2) (sl2) (n1) (1) fun a2 =>
      ∃ n3 : Int,
      (w3.drew.cell? a2 = some (Value.int IntKind.u16 n3)) ∧
      brB (n2 != n3)
        (R (Ending.returned (Value.bool false)) w3.drew)
        ((I1 [Value.int IntKind.i64 (IntKind.i64.wrap (n1 + 1))] w3.drew) ∧
        m1 [Value.int IntKind.i64 (IntKind.i64.wrap (n1 + 1))] w3.drew < m1 [Value.int IntKind.i64 n1] w3))
      (R (Ending.returned (Value.bool true)) w3))
theorem calls_ref09_Same (x1 : Int) (x2 : Int) (sa1 : Option Addr) (sl1 sc1 : Nat) (x3 : Int) (x4 : Int) (sa2 : Option Addr) (sl2 sc2 : Nat) (w : World) (R : Ending → World → Prop) (h : vc_ref09_Same x1 x2 sa1 sl1 sc1 x3 x4 sa2 sl2 sc2 w R) : Calls P F.ref09_Same #[.agg #[.int .i64 x1, .int .i64 x2, .slice sa1 sl1 sc1], .agg #[.int .i64 x3, .int .i64 x4, .slice sa2 sl2 sc2]] w R :=
  calls_of_vc (fn := Try.f21) (ac := ac_ref09_Same) (args := [.agg #[.int .i64 x1, .int .i64 x2, .slice sa1 sl1 sc1], .agg #[.int .i64 x3, .int .i64 x4, .slice sa2 sl2 sc2]]) mixed Try.func21 (by kernel_rfl) (cast (by unfold vc_ref09_Same FnVc; kernel_rfl) h)
/-- darkroom/darkroomref09.Good -/
def vc_ref09_Good (x1 : Int) (x2 : Int) (sa1 : Option Addr) (sl1 sc1 : Nat) (w : World) (R : Ending → World → Prop) : Prop :=
  ∀ k1 : Nat,
  (w.heap.size ≤ k1) →
  ∀ w1 : World,
  (Locl ([k1]) w w1) →
  Calls P F.ref07_Fits #[Value.int IntKind.i64 x1, Value.int IntKind.i64 x2] w1 fun e1 w2 =>
  ∃ c1 : Bool,
  (e1 = Ending.returned (Value.bool c1)) ∧
  (Keep ([k1]) w1 w2) ∧
  R (Ending.returned (Value.bool (c1 && (↑sl1 : Int) == IntKind.i64.wrap (IntKind.i64.wrap (4 * x1) * x2)))) w2
theorem calls_ref09_Good (x1 : Int) (x2 : Int) (sa1 : Option Addr) (sl1 sc1 : Nat) (w : World) (R : Ending → World → Prop) (h : vc_ref09_Good x1 x2 sa1 sl1 sc1 w R) : Calls P F.ref09_Good #[.agg #[.int .i64 x1, .int .i64 x2, .slice sa1 sl1 sc1]] w R :=
  calls_of_vc (fn := Try.f22) (ac := ac_ref09_Good) (args := [.agg #[.int .i64 x1, .int .i64 x2, .slice sa1 sl1 sc1]]) mixed Try.func22 (by kernel_rfl) (cast (by unfold vc_ref09_Good FnVc; kernel_rfl) h)
/-- darkroom/darkroomlaw21.in -/
def vc_law21_in (x1 : Int) (x2 : Int) (sa1 : Option Addr) (sl1 sc1 : Nat) (sa2 : Option Addr) (sl2 sc2 : Nat) (sa3 : Option Addr) (sl3 sc3 : Nat) (w : World) (R : Ending → World → Prop) : Prop :=
  ∀ k1 : Nat,
  (w.heap.size ≤ k1) →
  ∀ k2 : Nat,
  (w.heap.size ≤ k2) →
  ∀ w1 : World,
  (Locl ([k2, k1]) w w1) →
  Calls P F.law21_own #[Value.agg #[Value.int IntKind.i64 x1, Value.int IntKind.i64 x2, Value.slice sa1 sl1 sc1]] w1 fun e1 w2 =>
  ∃ n1 : Int,
  ∃ n2 : Int,
  ∃ p1 : Option Addr,
  ∃ k3 : Nat,
  ∃ k4 : Nat,
  (e1 = Ending.returned (Value.agg #[Value.int IntKind.i64 n1, Value.int IntKind.i64 n2, Value.slice p1 k3 k4])) ∧
  (Keep ([k2, k1]) w1 w2) ∧
  ∀ k5 : Nat,
  (w2.heap.size ≤ k5) →
  ∃ I1 : List Value → World → Prop,
  ∃ m1 : List Value → World → Nat,
  (∀ w3 : World,
    (Locl ([k5, k2, k1]) w2 w3) →
    I1 [Value.int IntKind.i64 0, Value.int IntKind.i64 0, Value.int IntKind.i64 0, Value.slice none 0 0, Value.int IntKind.i64 n1, Value.int IntKind.i64 n2, Value.slice p1 k3 k4] w3) ∧
  ∀ n3 : Int,
  ∀ n4 : Int,
  ∀ n5 : Int,
  ∀ p2 : Option Addr,
  ∀ k6 : Nat,
  ∀ k7 : Nat,
  ∀ n6 : Int,
  ∀ n7 : Int,
  ∀ p3 : Option Addr,
  ∀ k8 : Nat,
  ∀ k9 : Nat,
  ∀ w4 : World,
  (I1 [Value.int IntKind.i64 n3, Value.int IntKind.i64 n4, Value.int IntKind.i64 n5, Value.slice p2 k6 k7, Value.int IntKind.i64 n6, Value.int IntKind.i64 n7, Value.slice p3 k8 k9] w4) →
  brB (decide (n3 < (↑sl2 : Int)))
    (∃ I2 : List Value → World → Prop,
    (idx (sa2) (sl2) (n3) (1) fun a1 =>
      ∃ s1 : ByteArray,
      (w4.drew.cell? a1 = some (Value.string s1)) ∧
      idx (sa3) (sl3) (n3) (1) fun a2 =>
      ∃ p4 : Option Addr,
      ∃ k10 : Nat,
      ∃ k11 : Nat,
      (w4.drew.cell? a2 = some (Value.slice p4 k10 k11)) ∧
      (Calls P F.law21_ints #[Value.slice p4 k10 k11] (w4.drew) fun e2 w5 =>
        ∃ p5 : Option Addr,
        ∃ k12 : Nat,
        ∃ k13 : Nat,
        (e2 = Ending.returned (Value.slice p5 k12 k13)) ∧
        (Keep ([k5, k2, k1]) (w4.drew) w5) ∧
        (Keeps (w4.drew) w5) ∧
        (Calls P F.moves_Apply #[Value.string s1, Value.slice p5 k12 k13, Value.agg #[Value.int IntKind.i64 n6, Value.int IntKind.i64 n7, Value.slice p3 k8 k9]] w5 fun e3 w6 =>
          ∃ n8 : Int,
          ∃ n9 : Int,
          ∃ p6 : Option Addr,
          ∃ k14 : Nat,
          ∃ k15 : Nat,
          ∃ n10 : Int,
          (e3 = Ending.returned (Value.tuple #[Value.agg #[Value.int IntKind.i64 n8, Value.int IntKind.i64 n9, Value.slice p6 k14 k15], Value.int IntKind.i64 n10])) ∧
          (Keep ([k5, k2, k1]) w5 w6) ∧
          ∀ k16 : Nat,
          (w6.heap.size ≤ k16) →
          ∀ w7 : World,
          (Locl ([k16, k5, k2, k1]) w6 w7) →
          I2 [Value.int IntKind.i64 n10, Value.pointer (some { block := k16, off := 0 }), Value.int IntKind.i64 n8, Value.int IntKind.i64 n9, Value.slice p6 k14 k15] w7) ∧
        ∀ k17 : Nat,
        (w5.heap.size ≤ k17) →
        ∀ w8 : World,
        (Locl ([k17, k5, k2, k1]) w5 w8) →
        Calls P F.moves_Apply #[Value.string s1, Value.slice p5 k12 k13, Value.agg #[Value.int IntKind.i64 n6, Value.int IntKind.i64 n7, Value.slice p3 k8 k9]] w8 fun e4 w9 =>
        ∃ n11 : Int,
        ∃ n12 : Int,
        ∃ p7 : Option Addr,
        ∃ k18 : Nat,
        ∃ k19 : Nat,
        ∃ n13 : Int,
        (e4 = Ending.returned (Value.tuple #[Value.agg #[Value.int IntKind.i64 n11, Value.int IntKind.i64 n12, Value.slice p7 k18 k19], Value.int IntKind.i64 n13])) ∧
        (Keep ([k17, k5, k2, k1]) w8 w9) ∧
        ∀ w10 : World,
        (Locl ([k17, k5, k2, k1]) w9 w10) →
        I2 [Value.int IntKind.i64 n13, Value.pointer (some { block := k17, off := 0 }), Value.int IntKind.i64 n11, Value.int IntKind.i64 n12, Value.slice p7 k18 k19] w10) ∧
      ∀ k20 : Nat,
      (w4.drew.heap.size ≤ k20) →
      ∀ w11 : World,
      (Locl ([k20, k5, k2, k1]) (w4.drew) w11) →
      Calls P F.law21_ints #[Value.slice p4 k10 k11] w11 fun e5 w12 =>
      ∃ p8 : Option Addr,
      ∃ k21 : Nat,
      ∃ k22 : Nat,
      (e5 = Ending.returned (Value.slice p8 k21 k22)) ∧
      (Keep ([k20, k5, k2, k1]) w11 w12) ∧
      (Keeps w11 w12) ∧
      Calls P F.moves_Apply #[Value.string s1, Value.slice p8 k21 k22, Value.agg #[Value.int IntKind.i64 n6, Value.int IntKind.i64 n7, Value.slice p3 k8 k9]] w12 fun e6 w13 =>
      ∃ n14 : Int,
      ∃ n15 : Int,
      ∃ p9 : Option Addr,
      ∃ k23 : Nat,
      ∃ k24 : Nat,
      ∃ n16 : Int,
      (e6 = Ending.returned (Value.tuple #[Value.agg #[Value.int IntKind.i64 n14, Value.int IntKind.i64 n15, Value.slice p9 k23 k24], Value.int IntKind.i64 n16])) ∧
      (Keep ([k20, k5, k2, k1]) w12 w13) ∧
      ∀ w14 : World,
      (Locl ([k20, k5, k2, k1]) w13 w14) →
      I2 [Value.int IntKind.i64 n16, Value.pointer (some { block := k20, off := 0 }), Value.int IntKind.i64 n14, Value.int IntKind.i64 n15, Value.slice p9 k23 k24] w14) ∧
    ∀ n17 : Int,
    ∀ k25 : Nat,
    ∀ n18 : Int,
    ∀ n19 : Int,
    ∀ p10 : Option Addr,
    ∀ k26 : Nat,
    ∀ k27 : Nat,
    ∀ w15 : World,
    (I2 [Value.int IntKind.i64 n17, Value.pointer (some { block := k25, off := 0 }), Value.int IntKind.i64 n18, Value.int IntKind.i64 n19, Value.slice p10 k26 k27] w15) →
    brB (n17 != 0)
      (∀ w16 : World,
      (Locl ([k25, k5, k2, k1]) w15 w16) →
      R (Ending.returned (Value.tuple #[Value.agg #[Value.int IntKind.i64 n18, Value.int IntKind.i64 n19, Value.slice p10 k26 k27], Value.bool false])) w16)
      (∀ w17 : World,
      (Locl ([k25, k5, k2, k1]) w15 w17) →
      (I1 [Value.int IntKind.i64 (IntKind.i64.wrap (n3 + 1)), Value.int IntKind.i64 n4, Value.int IntKind.i64 n5, Value.slice p2 k6 k7, Value.int IntKind.i64 n18, Value.int IntKind.i64 n19, Value.slice p10 k26 k27] w17) ∧
      m1 [Value.int IntKind.i64 (IntKind.i64.wrap (n3 + 1)), Value.int IntKind.i64 n4, Value.int IntKind.i64 n5, Value.slice p2 k6 k7, Value.int IntKind.i64 n18, Value.int IntKind.i64 n19, Value.slice p10 k26 k27] w17 < m1 [Value.int IntKind.i64 n3, Value.int IntKind.i64 n4, Value.int IntKind.i64 n5, Value.slice p2 k6 k7, Value.int IntKind.i64 n6, Value.int IntKind.i64 n7, Value.slice p3 k8 k9] w4))
    (∀ w18 : World,
    (Locl ([k5, k2, k1]) w4 w18) →
    R (Ending.returned (Value.tuple #[Value.agg #[Value.int IntKind.i64 n6, Value.int IntKind.i64 n7, Value.slice p3 k8 k9], Value.bool true])) w18)
theorem calls_law21_in (x1 : Int) (x2 : Int) (sa1 : Option Addr) (sl1 sc1 : Nat) (sa2 : Option Addr) (sl2 sc2 : Nat) (sa3 : Option Addr) (sl3 sc3 : Nat) (w : World) (R : Ending → World → Prop) (h : vc_law21_in x1 x2 sa1 sl1 sc1 sa2 sl2 sc2 sa3 sl3 sc3 w R) : Calls P F.law21_in #[.agg #[.int .i64 x1, .int .i64 x2, .slice sa1 sl1 sc1], .slice sa2 sl2 sc2, .slice sa3 sl3 sc3] w R :=
  calls_of_vc (fn := Try.f23) (ac := ac_law21_in) (args := [.agg #[.int .i64 x1, .int .i64 x2, .slice sa1 sl1 sc1], .slice sa2 sl2 sc2, .slice sa3 sl3 sc3]) mixed Try.func23 (by kernel_rfl) (cast (by unfold vc_law21_in FnVc; kernel_rfl) h)
/-- darkroom/raster.Distinct -/
def vc_raster_Distinct (x1 : Int) (x2 : Int) (sa1 : Option Addr) (sl1 sc1 : Nat) (w : World) (R : Ending → World → Prop) : Prop :=
  ∀ k1 : Nat,
  (w.heap.size ≤ k1) →
  ∀ w1 : World,
  (Locl ([k1]) w w1) →
  Calls P F.raster_Good #[Value.agg #[Value.int IntKind.i64 x1, Value.int IntKind.i64 x2, Value.slice sa1 sl1 sc1]] w1 fun e1 w2 =>
  ∃ c1 : Bool,
  (e1 = Ending.returned (Value.bool c1)) ∧
  (Keep ([k1]) w1 w2) ∧
  brB (!c1)
    (R (Ending.returned (Value.slice none 0 0)) w2)
    (∀ k2 : Nat,
    ∀ w3 : World,
    (New w2 (Obj.map #[] 0) k2 w3) →
    ∀ k3 : Nat,
    (w3.heap.size ≤ k3) →
    ∃ I1 : List Value → World → Prop,
    ∃ m1 : List Value → World → Nat,
    (∀ w4 : World,
      (Locl ([k3, k1]) w3 w4) →
      I1 [Value.slice none 0 0, Value.int IntKind.i64 0, Value.int IntKind.u16 0, Value.int IntKind.u16 0, Value.int IntKind.u16 0, Value.int IntKind.u16 0] w4) ∧
    ∀ p1 : Option Addr,
    ∀ k4 : Nat,
    ∀ k5 : Nat,
    ∀ n1 : Int,
    ∀ n2 : Int,
    ∀ n3 : Int,
    ∀ n4 : Int,
    ∀ n5 : Int,
    ∀ w5 : World,
    (I1 [Value.slice p1 k4 k5, Value.int IntKind.i64 n1, Value.int IntKind.u16 n2, Value.int IntKind.u16 n3, Value.int IntKind.u16 n4, Value.int IntKind.u16 n5] w5) →
    brB (decide (n1 < IntKind.i64.wrap (x1 * x2)))
      (∃ I2 : List Value → World → Prop,
      (slcc (sa1) (sc1) (IntKind.i64.wrap (4 * n1)) ((↑sl1 : Int)) (1) fun p2 k6 k7 =>
        Calls P F.raster_colour #[Value.slice p2 k6 k7] w5 fun e2 w6 =>
        ∃ n6 : Int,
        ∃ n7 : Int,
        ∃ n8 : Int,
        ∃ n9 : Int,
        (e2 = Ending.returned (Value.agg #[Value.int IntKind.u16 n6, Value.int IntKind.u16 n7, Value.int IntKind.u16 n8, Value.int IntKind.u16 n9])) ∧
        (Keep ([k3, k1]) w5 w6) ∧
        ∀ k8 : Nat,
        (w6.heap.size ≤ k8) →
        ∃ I3 : List Value → World → Prop,
        (brB (decide (n1 > 0))
            (brB (decide (n6 = n2) && (decide (n7 = n3) && (decide (n8 = n4) && (decide (n9 = n5) && true))))
              (∀ w7 : World,
              (Locl ([k8, k3, k1]) w6 w7) →
              I2 [Value.slice p1 k4 k5, Value.int IntKind.u16 n2, Value.int IntKind.u16 n3, Value.int IntKind.u16 n4, Value.int IntKind.u16 n5] w7)
              (∀ w8 : World,
              (Locl ([k8, k3, k1]) w6 w8) →
              I3 [] w8))
            (∀ w9 : World,
            (Locl ([k8, k3, k1]) w6 w9) →
            I3 [] w9)) ∧
        ∀ w10 : World,
        (I3 [] w10) →
        ∀ w11 : World,
        (Locl ([k8, k3, k1]) w10 w11) →
        mapIn (Kd.agg [IntKind.u16, IntKind.u16, IntKind.u16, IntKind.u16]) (w11) (Value.map (some k2)) fun l1 =>
        ∃ c2 : Bool,
        (mgot l1 (Value.agg #[Value.int IntKind.u16 n6, Value.int IntKind.u16 n7, Value.int IntKind.u16 n8, Value.int IntKind.u16 n9]) (Value.agg #[]) = (Value.agg #[], c2)) ∧
        ∀ k9 : Nat,
        (w11.heap.size ≤ k9) →
        brB (!c2)
          (∀ w12 : World,
          (Locl ([k9, k8, k3, k1]) w11 w12) →
          mapTo (Kd.agg [IntKind.u16, IntKind.u16, IntKind.u16, IntKind.u16]) (w12) (Value.map (some k2)) fun b1 l2 =>
          ∀ w13 : World,
          (Put b1 w12 w13) →
          (Mp (Kd.agg [IntKind.u16, IntKind.u16, IntKind.u16, IntKind.u16]) w13 b1 (mput (Value.agg #[Value.int IntKind.u16 n6, Value.int IntKind.u16 n7, Value.int IntKind.u16 n8, Value.int IntKind.u16 n9]) (Value.agg #[]) l2)) →
          ∀ k10 : Nat,
          (w13.heap.size ≤ k10) →
          ∀ w14 : World,
          (Locl ([k10, k9, k8, k3, k1]) w13 w14) →
          appVC (w14) ([(50, k10, [Value.int IntKind.u16 n6, Value.int IntKind.u16 n7, Value.int IntKind.u16 n8, Value.int IntKind.u16 n9]), (8, k9, []), (7, k8, [Value.int IntKind.u16 n6, Value.int IntKind.u16 n7, Value.int IntKind.u16 n8, Value.int IntKind.u16 n9]), (5, k3, [Value.int IntKind.u16 n6, Value.int IntKind.u16 n7, Value.int IntKind.u16 n8, Value.int IntKind.u16 n9]), (1, k1, [Value.int IntKind.i64 x1, Value.int IntKind.i64 x2, Value.slice sa1 sl1 sc1])]) (p1) (k4) (k5) (1) (4) (8) (59) ([Value.int IntKind.u16 0, Value.int IntKind.u16 0, Value.int IntKind.u16 0, Value.int IntKind.u16 0]) ([Value.int IntKind.u16 n6, Value.int IntKind.u16 n7, Value.int IntKind.u16 n8, Value.int IntKind.u16 n9]) fun p3 k11 k12 w15 =>
          I2 [Value.slice p3 k11 k12, Value.int IntKind.u16 n6, Value.int IntKind.u16 n7, Value.int IntKind.u16 n8, Value.int IntKind.u16 n9] w15)
          (∀ w16 : World,
          (Locl ([k9, k8, k3, k1]) w11 w16) →
          I2 [Value.slice p1 k4 k5, Value.int IntKind.u16 n6, Value.int IntKind.u16 n7, Value.int IntKind.u16 n8, Value.int IntKind.u16 n9] w16)) ∧
      ∀ p4 : Option Addr,
      ∀ k13 : Nat,
      ∀ k14 : Nat,
      ∀ n10 : Int,
      ∀ n11 : Int,
      ∀ n12 : Int,
      ∀ n13 : Int,
      ∀ w17 : World,
      (I2 [Value.slice p4 k13 k14, Value.int IntKind.u16 n10, Value.int IntKind.u16 n11, Value.int IntKind.u16 n12, Value.int IntKind.u16 n13] w17) →
      (I1 [Value.slice p4 k13 k14, Value.int IntKind.i64 (IntKind.i64.wrap (n1 + 1)), Value.int IntKind.u16 n10, Value.int IntKind.u16 n11, Value.int IntKind.u16 n12, Value.int IntKind.u16 n13] w17) ∧
      m1 [Value.slice p4 k13 k14, Value.int IntKind.i64 (IntKind.i64.wrap (n1 + 1)), Value.int IntKind.u16 n10, Value.int IntKind.u16 n11, Value.int IntKind.u16 n12, Value.int IntKind.u16 n13] w17 < m1 [Value.slice p1 k4 k5, Value.int IntKind.i64 n1, Value.int IntKind.u16 n2, Value.int IntKind.u16 n3, Value.int IntKind.u16 n4, Value.int IntKind.u16 n5] w5)
      (R (Ending.returned (Value.slice p1 k4 k5)) w5))
theorem calls_raster_Distinct (x1 : Int) (x2 : Int) (sa1 : Option Addr) (sl1 sc1 : Nat) (w : World) (R : Ending → World → Prop) (h : vc_raster_Distinct x1 x2 sa1 sl1 sc1 w R) : Calls P F.raster_Distinct #[.agg #[.int .i64 x1, .int .i64 x2, .slice sa1 sl1 sc1]] w R :=
  calls_of_vc (fn := Try.f24) (ac := ac_raster_Distinct) (args := [.agg #[.int .i64 x1, .int .i64 x2, .slice sa1 sl1 sc1]]) mixed Try.func24 (by kernel_rfl) (cast (by unfold vc_raster_Distinct FnVc; kernel_rfl) h)
/-- darkroom/darkroomref09.Place -/
def vc_ref09_Place (sa1 : Option Addr) (sl1 sc1 : Nat) (x1 : Int) (x2 : Int) (x3 : Int) (x4 : Int) (w : World) (R : Ending → World → Prop) : Prop :=
  ∀ k1 : Nat,
  (w.heap.size ≤ k1) →
  ∃ I1 : List Value → World → Prop,
  ∃ m1 : List Value → World → Nat,
  (∀ w1 : World,
    (Locl ([k1]) w w1) →
    I1 [Value.int IntKind.i64 0] w1) ∧
  ∀ n1 : Int,
  ∀ w2 : World,
  (I1 [Value.int IntKind.i64 n1] w2) →
  brB (decide (n1 < (↑sl1 : Int)))
    (idx (sa1) (sl1) (n1) (4) fun a1 =>
    ∃ n2 : Int,
    ∃ n3 : Int,
    ∃ n4 : Int,
    ∃ n5 : Int,
    (w2.drew.cell? a1 = some (Value.int IntKind.u16 n2)) ∧
    (w2.drew.cell? (a1.add 1) = some (Value.int IntKind.u16 n3)) ∧
    (w2.drew.cell? (a1.add 2) = some (Value.int IntKind.u16 n4)) ∧
    (w2.drew.cell? (a1.add 3) = some (Value.int IntKind.u16 n5)) ∧
    brB (decide (n2 = x1) && (decide (n3 = x2) && (decide (n4 = x3) && (decide (n5 = x4) && true))))
      (R (Ending.returned (Value.int IntKind.i64 n1)) w2.drew)
      ((I1 [Value.int IntKind.i64 (IntKind.i64.wrap (n1 + 1))] w2.drew) ∧
      m1 [Value.int IntKind.i64 (IntKind.i64.wrap (n1 + 1))] w2.drew < m1 [Value.int IntKind.i64 n1] w2))
    (R (Ending.returned (Value.int IntKind.i64 (-1))) w2)
theorem calls_ref09_Place (sa1 : Option Addr) (sl1 sc1 : Nat) (x1 : Int) (x2 : Int) (x3 : Int) (x4 : Int) (w : World) (R : Ending → World → Prop) (h : vc_ref09_Place sa1 sl1 sc1 x1 x2 x3 x4 w R) : Calls P F.ref09_Place #[.slice sa1 sl1 sc1, .agg #[.int .u16 x1, .int .u16 x2, .int .u16 x3, .int .u16 x4]] w R :=
  calls_of_vc (fn := Try.f25) (ac := ac_ref09_Place) (args := [.slice sa1 sl1 sc1, .agg #[.int .u16 x1, .int .u16 x2, .int .u16 x3, .int .u16 x4]]) mixed Try.func25 (by kernel_rfl) (cast (by unfold vc_ref09_Place FnVc; kernel_rfl) h)
/-- darkroom/moves.operators -/
def vc_moves_operators  (w : World) (R : Ending → World → Prop) : Prop :=
  ∀ k1 : Nat,
  (w.heap.size ≤ k1) →
  ∀ k2 : Nat,
  (w.heap.size ≤ k2) →
  ∀ k3 : Nat,
  (w.heap.size ≤ k3) →
  ∀ k4 : Nat,
  (w.heap.size ≤ k4) →
  ∀ k5 : Nat,
  (w.heap.size ≤ k5) →
  ∀ w1 : World,
  (Locl ([k5, k4, k3, k2, k1]) w w1) →
  ∀ k6 : Nat,
  ∀ w2 : World,
  (New w1 (Obj.cells #[Value.int IntKind.i64 0, Value.int IntKind.i64 4095, Value.int IntKind.i64 0, Value.int IntKind.i64 4095, Value.int IntKind.i64 1, Value.int IntKind.i64 4096, Value.int IntKind.i64 1, Value.int IntKind.i64 4096] 23) k6 w2) →
  ∀ k7 : Nat,
  ∀ w3 : World,
  (New w2 (Obj.cells #[Value.int IntKind.i64 1, Value.int IntKind.i64 3] 23) k7 w3) →
  ∀ k8 : Nat,
  ∀ w4 : World,
  (New w3 (Obj.cells #[Value.int IntKind.i64 (-4096), Value.int IntKind.i64 4096, Value.int IntKind.i64 (-4096), Value.int IntKind.i64 4096] 23) k8 w4) →
  ∀ k9 : Nat,
  ∀ w5 : World,
  (New w4 (Obj.cells #[Value.int IntKind.i64 1, Value.int IntKind.i64 4096, Value.int IntKind.i64 1, Value.int IntKind.i64 4096] 23) k9 w5) →
  ∀ k10 : Nat,
  ∀ w6 : World,
  (New w5 (Obj.cells #[Value.int IntKind.i64 1, Value.int IntKind.i64 64] 23) k10 w6) →
  ∀ k11 : Nat,
  ∀ w7 : World,
  (New w6 (Obj.cells #[Value.int IntKind.i64 1, Value.int IntKind.i64 64, Value.int IntKind.i64 1, Value.int IntKind.i64 64] 23) k11 w7) →
  ∀ k12 : Nat,
  ∀ w8 : World,
  (New w7 (Obj.cells #[Value.int IntKind.i64 0, Value.int IntKind.i64 4096, Value.int IntKind.i64 0, Value.int IntKind.i64 4096, Value.int IntKind.i64 0, Value.int IntKind.i64 4096, Value.int IntKind.i64 0, Value.int IntKind.i64 4096] 23) k12 w8) →
  ∀ k13 : Nat,
  ∀ w9 : World,
  (New w8 (Obj.cells #[Value.int IntKind.i64 1, Value.int IntKind.i64 1024, Value.int IntKind.i64 0, Value.int IntKind.i64 65535, Value.int IntKind.i64 0, Value.int IntKind.i64 65535, Value.int IntKind.i64 0, Value.int IntKind.i64 65535, Value.int IntKind.i64 0, Value.int IntKind.i64 65535] 23) k13 w9) →
  ∀ k14 : Nat,
  ∀ w10 : World,
  (New w9 (Obj.cells #[Value.int IntKind.i64 1, Value.int IntKind.i64 64] 23) k14 w10) →
  ∀ k15 : Nat,
  ∀ w11 : World,
  (New w10 (Obj.cells #[Value.string { data := #[99, 114, 111, 112] }, Value.slice (some { block := k6, off := 0 }) 4 4, Value.func (Fn.func 46) #[] #[], Value.func (Fn.func 47) #[] #[], Value.string { data := #[102, 108, 105, 112] }, Value.slice none 0 0, Value.func (Fn.func 48) #[] #[], Value.func (Fn.func 49) #[] #[], Value.string { data := #[102, 108, 111, 112] }, Value.slice none 0 0, Value.func (Fn.func 48) #[] #[], Value.func (Fn.func 50) #[] #[], Value.string { data := #[114, 111, 116, 97, 116, 101] }, Value.slice (some { block := k7, off := 0 }) 1 1, Value.func (Fn.func 51) #[] #[], Value.func (Fn.func 52) #[] #[], Value.string { data := #[116, 114, 97, 110, 115, 112, 111, 115, 101] }, Value.slice none 0 0, Value.func (Fn.func 53) #[] #[], Value.func (Fn.func 54) #[] #[], Value.string { data := #[116, 114, 97, 110, 115, 118, 101, 114, 115, 101] }, Value.slice none 0 0, Value.func (Fn.func 53) #[] #[], Value.func (Fn.func 55) #[] #[], Value.string { data := #[114, 111, 108, 108] }, Value.slice (some { block := k8, off := 0 }) 2 2, Value.func (Fn.func 48) #[] #[], Value.func (Fn.func 56) #[] #[], Value.string { data := #[114, 101, 115, 105, 122, 101] }, Value.slice (some { block := k9, off := 0 }) 2 2, Value.func (Fn.func 58) #[] #[], Value.func (Fn.func 59) #[] #[], Value.string { data := #[122, 111, 111, 109] }, Value.slice (some { block := k10, off := 0 }) 1 1, Value.func (Fn.func 60) #[] #[], Value.func (Fn.func 61) #[] #[], Value.string { data := #[116, 105, 108, 101] }, Value.slice (some { block := k11, off := 0 }) 2 2, Value.func (Fn.func 62) #[] #[], Value.func (Fn.func 63) #[] #[], Value.string { data := #[101, 120, 116, 101, 110, 100] }, Value.slice (some { block := k12, off := 0 }) 4 4, Value.func (Fn.func 64) #[] #[], Value.func (Fn.func 65) #[] #[], Value.string { data := #[102, 114, 97, 109, 101] }, Value.slice (some { block := k13, off := 0 }) 5 5, Value.func (Fn.func 67) #[] #[], Value.func (Fn.func 68) #[] #[], Value.string { data := #[115, 104, 114, 105, 110, 107] }, Value.slice (some { block := k14, off := 0 }) 1 1, Value.func (Fn.func 69) #[] #[], Value.nilFunc, Value.string { data := #[116, 114, 105, 109] }, Value.slice none 0 0, Value.func (Fn.func 48) #[] #[], Value.nilFunc] 67) k15 w11) →
  R (Ending.returned (Value.slice (some { block := k15, off := 0 }) 14 14)) w11
theorem calls_moves_operators  (w : World) (R : Ending → World → Prop) (h : vc_moves_operators  w R) : Calls P F.moves_operators #[] w R :=
  calls_of_vc (fn := Try.f26) (ac := ac_moves_operators) (args := []) mixed Try.func26 (by kernel_rfl) (cast (by unfold vc_moves_operators FnVc; kernel_rfl) h)
/-- darkroom/moves.find -/
def vc_moves_find (st1 : ByteArray) (sa1 : Option Addr) (sl1 sc1 : Nat) (w : World) (R : Ending → World → Prop) : Prop :=
  ∀ k1 : Nat,
  (w.heap.size ≤ k1) →
  ∀ w1 : World,
  (Locl ([k1]) w w1) →
  Calls P F.moves_operators #[] w1 fun e1 w2 =>
  ∃ p1 : Option Addr,
  ∃ k2 : Nat,
  ∃ k3 : Nat,
  (e1 = Ending.returned (Value.slice p1 k2 k3)) ∧
  (Keep ([k1]) w1 w2) ∧
  ∃ I1 : List Value → World → Prop,
  ∃ m1 : List Value → World → Nat,
  (I1 [Value.int IntKind.i64 0, Value.string { data := #[] }, Value.slice none 0 0, Value.nilFunc, Value.nilFunc] w2) ∧
  ∀ n1 : Int,
  ∀ s1 : ByteArray,
  ∀ p2 : Option Addr,
  ∀ k4 : Nat,
  ∀ k5 : Nat,
  ∀ v1 : Value,
  ∀ v2 : Value,
  ∀ w3 : World,
  (I1 [Value.int IntKind.i64 n1, Value.string s1, Value.slice p2 k4 k5, v1, v2] w3) →
  brB (decide (n1 < (↑k2 : Int)))
    (idx (p1) (k2) (n1) (4) fun a1 =>
    ∃ s2 : ByteArray,
    ∃ p3 : Option Addr,
    ∃ k6 : Nat,
    ∃ k7 : Nat,
    ∃ v3 : Value,
    ∃ v4 : Value,
    (w3.cell? a1 = some (Value.string s2)) ∧
    (w3.cell? (a1.add 1) = some (Value.slice p3 k6 k7)) ∧
    (w3.cell? (a1.add 2) = some v3) ∧
    (w3.cell? (a1.add 3) = some v4) ∧
    ∀ k8 : Nat,
    (w3.heap.size ≤ k8) →
    brB (oneAll [Value.string s2, Value.slice p3 k6 k7, v3, v4] && true)
      (brB (decide (s2 = st1))
        (brB ((↑sl1 : Int) != (↑k6 : Int))
          (brB (oneAll [Value.string s2, Value.slice p3 k6 k7, v3, v4] && true)
            (∀ w4 : World,
            (Locl ([k8, k1]) w3 w4) →
            R (Ending.returned (Value.tuple #[Value.agg #[Value.string s2, Value.slice p3 k6 k7, v3, v4], Value.int IntKind.i64 190])) w4)
            (False))
          (∃ I2 : List Value → World → Prop,
          ∃ m2 : List Value → World → Nat,
          (∀ w5 : World,
            (Locl ([k8, k1]) w3 w5) →
            I2 [Value.int IntKind.i64 0, Value.string s1, Value.slice p2 k4 k5, v1, v2] w5) ∧
          ∀ n2 : Int,
          ∀ s3 : ByteArray,
          ∀ p4 : Option Addr,
          ∀ k9 : Nat,
          ∀ k10 : Nat,
          ∀ v5 : Value,
          ∀ v6 : Value,
          ∀ w6 : World,
          (I2 [Value.int IntKind.i64 n2, Value.string s3, Value.slice p4 k9 k10, v5, v6] w6) →
          brB (decide (n2 < (↑k6 : Int)))
            (idx (p3) (k6) (n2) (2) fun a2 =>
            ∃ n3 : Int,
            ∃ n4 : Int,
            (w6.cell? a2 = some (Value.int IntKind.i64 n3)) ∧
            (w6.cell? (a2.add 1) = some (Value.int IntKind.i64 n4)) ∧
            ∀ k11 : Nat,
            ∀ w7 : World,
            (New w6 (Obj.cells #[Value.int IntKind.i64 0, Value.int IntKind.i64 0] 23) k11 w7) →
            (∃ v7 : Value,
              w7.cell? { block := k11, off := 0 } = some v7) ∧
            (w7.frozen? { block := k11, off := 0 } = false) ∧
            (∃ v8 : Value,
              w7.cell? { block := k11, off := 1 } = some v8) ∧
            (w7.frozen? { block := k11, off := 1 } = false) ∧
            (¬k11 ∈ [k8, k1]) ∧
            idx (sa1) (sl1) (n2) (1) fun a3 =>
            ∃ n5 : Int,
            ((setCells w7 { block := k11, off := 0 } [Value.int IntKind.i64 n3, Value.int IntKind.i64 n4] 0).drew.cell? a3 = some (Value.int IntKind.i64 n5)) ∧
            ((0 : Int) ≤ 0) ∧
            ((0 : Int) < 2) ∧
            ∃ n6 : Int,
            ((setCells w7 { block := k11, off := 0 } [Value.int IntKind.i64 n3, Value.int IntKind.i64 n4] 0).drew.cell? { block := k11, off := 0 } = some (Value.int IntKind.i64 n6)) ∧
            brB (decide (n5 < n6))
              (brB (oneAll [Value.string s2, Value.slice p3 k6 k7, v3, v4] && true)
                (∀ w8 : World,
                (Locl ([k8, k1]) ((setCells w7 { block := k11, off := 0 } [Value.int IntKind.i64 n3, Value.int IntKind.i64 n4] 0).drew) w8) →
                R (Ending.returned (Value.tuple #[Value.agg #[Value.string s2, Value.slice p3 k6 k7, v3, v4], Value.int IntKind.i64 190])) w8)
                (False))
              (idx (sa1) (sl1) (n2) (1) fun a4 =>
              ∃ n7 : Int,
              ((setCells w7 { block := k11, off := 0 } [Value.int IntKind.i64 n3, Value.int IntKind.i64 n4] 0).drew.cell? a4 = some (Value.int IntKind.i64 n7)) ∧
              ((0 : Int) ≤ 1) ∧
              ((1 : Int) < 2) ∧
              ∃ n8 : Int,
              ((setCells w7 { block := k11, off := 0 } [Value.int IntKind.i64 n3, Value.int IntKind.i64 n4] 0).drew.cell? { block := k11, off := 1 } = some (Value.int IntKind.i64 n8)) ∧
              brB (decide (n7 > n8))
                (brB (oneAll [Value.string s2, Value.slice p3 k6 k7, v3, v4] && true)
                  (∀ w9 : World,
                  (Locl ([k8, k1]) ((setCells w7 { block := k11, off := 0 } [Value.int IntKind.i64 n3, Value.int IntKind.i64 n4] 0).drew) w9) →
                  R (Ending.returned (Value.tuple #[Value.agg #[Value.string s2, Value.slice p3 k6 k7, v3, v4], Value.int IntKind.i64 190])) w9)
                  (False))
                ((I2 [Value.int IntKind.i64 (IntKind.i64.wrap (n2 + 1)), Value.string s3, Value.slice p4 k9 k10, v5, v6] (setCells w7 { block := k11, off := 0 } [Value.int IntKind.i64 n3, Value.int IntKind.i64 n4] 0).drew) ∧
                m2 [Value.int IntKind.i64 (IntKind.i64.wrap (n2 + 1)), Value.string s3, Value.slice p4 k9 k10, v5, v6] (setCells w7 { block := k11, off := 0 } [Value.int IntKind.i64 n3, Value.int IntKind.i64 n4] 0).drew < m2 [Value.int IntKind.i64 n2, Value.string s3, Value.slice p4 k9 k10, v5, v6] w6)))
            (brB (oneAll [Value.string s2, Value.slice p3 k6 k7, v3, v4] && true)
              (∀ w10 : World,
              (Locl ([k8, k1]) w6 w10) →
              R (Ending.returned (Value.tuple #[Value.agg #[Value.string s2, Value.slice p3 k6 k7, v3, v4], Value.int IntKind.i64 0])) w10)
              (False))))
        (∀ w11 : World,
        (Locl ([k8, k1]) w3 w11) →
        (I1 [Value.int IntKind.i64 (IntKind.i64.wrap (n1 + 1)), Value.string s1, Value.slice p2 k4 k5, v1, v2] w11) ∧
        m1 [Value.int IntKind.i64 (IntKind.i64.wrap (n1 + 1)), Value.string s1, Value.slice p2 k4 k5, v1, v2] w11 < m1 [Value.int IntKind.i64 n1, Value.string s1, Value.slice p2 k4 k5, v1, v2] w3))
      (False))
    (∀ w12 : World,
    (Locl ([k1]) w3 w12) →
    R (Ending.returned (Value.tuple #[Value.agg #[Value.string { data := #[] }, Value.slice none 0 0, Value.nilFunc, Value.nilFunc], Value.int IntKind.i64 8])) w12)
theorem calls_moves_find (st1 : ByteArray) (sa1 : Option Addr) (sl1 sc1 : Nat) (w : World) (R : Ending → World → Prop) (h : vc_moves_find st1 sa1 sl1 sc1 w R) : Calls P F.moves_find #[.string st1, .slice sa1 sl1 sc1] w R :=
  calls_of_vc (fn := Try.f27) (ac := ac_moves_find) (args := [.string st1, .slice sa1 sl1 sc1]) mixed Try.func27 (by kernel_rfl) (cast (by unfold vc_moves_find FnVc; kernel_rfl) h)
/-- darkroom/moves.fits -/
def vc_moves_fits (x1 : Int) (x2 : Int) (w : World) (R : Ending → World → Prop) : Prop :=
  R (Ending.returned (Value.bool (decide (min x1 x2 ≥ 1) && decide (max x1 x2 ≤ 4096) && decide (IntKind.i64.wrap (x1 * x2) ≤ 65536)))) w
theorem calls_moves_fits (x1 : Int) (x2 : Int) (w : World) (R : Ending → World → Prop) (h : vc_moves_fits x1 x2 w R) : Calls P F.moves_fits #[.int .i64 x1, .int .i64 x2] w R :=
  calls_of_vc (fn := Try.f28) (ac := ac_moves_fits) (args := [.int .i64 x1, .int .i64 x2]) mixed Try.func28 (by kernel_rfl) (cast (by unfold vc_moves_fits FnVc; kernel_rfl) h)
/-- darkroom/darkroomref07.Fits -/
def vc_ref07_Fits (x1 : Int) (x2 : Int) (w : World) (R : Ending → World → Prop) : Prop :=
  R (Ending.returned (Value.bool (decide (x1 ≥ 1) && decide (x2 ≥ 1) && decide (x1 ≤ 4096) && decide (x2 ≤ 4096) && decide (IntKind.i64.wrap (x1 * x2) ≤ 65536)))) w
theorem calls_ref07_Fits (x1 : Int) (x2 : Int) (w : World) (R : Ending → World → Prop) (h : vc_ref07_Fits x1 x2 w R) : Calls P F.ref07_Fits #[.int .i64 x1, .int .i64 x2] w R :=
  calls_of_vc (fn := Try.f29) (ac := ac_ref07_Fits) (args := [.int .i64 x1, .int .i64 x2]) mixed Try.func29 (by kernel_rfl) (cast (by unfold vc_ref07_Fits FnVc; kernel_rfl) h)
/-- darkroom/darkroomref07.Within -/
def vc_ref07_Within (x1 : Int) (x2 : Int) (x3 : Int) (x4 : Int) (x5 : Int) (x6 : Int) (w : World) (R : Ending → World → Prop) : Prop :=
  R (Ending.returned (Value.bool (decide (x3 ≥ 1) && decide (x4 ≥ 1) && decide (x1 ≥ 0) && decide (x2 ≥ 0) && decide (x3 ≤ x5) && decide (x4 ≤ x6) && decide (x1 ≤ IntKind.i64.wrap (x5 - x3)) && decide (x2 ≤ IntKind.i64.wrap (x6 - x4))))) w
theorem calls_ref07_Within (x1 : Int) (x2 : Int) (x3 : Int) (x4 : Int) (x5 : Int) (x6 : Int) (w : World) (R : Ending → World → Prop) (h : vc_ref07_Within x1 x2 x3 x4 x5 x6 w R) : Calls P F.ref07_Within #[.int .i64 x1, .int .i64 x2, .int .i64 x3, .int .i64 x4, .int .i64 x5, .int .i64 x6] w R :=
  calls_of_vc (fn := Try.f30) (ac := ac_ref07_Within) (args := [.int .i64 x1, .int .i64 x2, .int .i64 x3, .int .i64 x4, .int .i64 x5, .int .i64 x6]) mixed Try.func30 (by kernel_rfl) (cast (by unfold vc_ref07_Within FnVc; kernel_rfl) h)
/-- darkroom/darkroomref21.size -/
def vc_ref21_size (st1 : ByteArray) (sa1 : Option Addr) (sl1 sc1 : Nat) (x1 : Int) (x2 : Int) (w : World) (R : Ending → World → Prop) : Prop :=
  brB (decide (st1 = { data := #[99, 114, 111, 112] }))
    (idx (sa1) (sl1) (2) (1) fun a1 =>
    ∃ n1 : Int,
    (w.drew.cell? a1 = some (Value.int IntKind.i64 n1)) ∧
    idx (sa1) (sl1) (3) (1) fun a2 =>
    ∃ n2 : Int,
    (w.drew.cell? a2 = some (Value.int IntKind.i64 n2)) ∧
    R (Ending.returned (Value.tuple #[Value.int IntKind.i64 n1, Value.int IntKind.i64 n2])) w.drew)
    (brB (decide (st1 = { data := #[114, 111, 116, 97, 116, 101] }))
      (idx (sa1) (sl1) (0) (1) fun a3 =>
      ∃ n3 : Int,
      (w.cell? a3 = some (Value.int IntKind.i64 n3)) ∧
      brB (n3 == 2)
        (R (Ending.returned (Value.tuple #[Value.int IntKind.i64 x1, Value.int IntKind.i64 x2])) w)
        (R (Ending.returned (Value.tuple #[Value.int IntKind.i64 x2, Value.int IntKind.i64 x1])) w))
      (∃ I1 : List Value → World → Prop,
      (brB (decide (st1 = { data := #[116, 114, 97, 110, 115, 112, 111, 115, 101] }))
          (I1 [Value.bool (decide (st1 = { data := #[116, 114, 97, 110, 115, 112, 111, 115, 101] }))] w)
          (I1 [Value.bool (decide (st1 = { data := #[116, 114, 97, 110, 115, 118, 101, 114, 115, 101] }))] w)) ∧
      ∀ c1 : Bool,
      ∀ w1 : World,
      (I1 [Value.bool c1] w1) →
      brB (c1)
        (R (Ending.returned (Value.tuple #[Value.int IntKind.i64 x2, Value.int IntKind.i64 x1])) w1)
        (brB (decide (st1 = { data := #[114, 101, 115, 105, 122, 101] }))
          (idx (sa1) (sl1) (0) (1) fun a4 =>
          ∃ n4 : Int,
          (w1.drew.cell? a4 = some (Value.int IntKind.i64 n4)) ∧
          idx (sa1) (sl1) (1) (1) fun a5 =>
          ∃ n5 : Int,
          (w1.drew.cell? a5 = some (Value.int IntKind.i64 n5)) ∧
          R (Ending.returned (Value.tuple #[Value.int IntKind.i64 n4, Value.int IntKind.i64 n5])) w1.drew)
          (brB (decide (st1 = { data := #[122, 111, 111, 109] }))
            (idx (sa1) (sl1) (0) (1) fun a6 =>
            ∃ n6 : Int,
            (w1.drew.cell? a6 = some (Value.int IntKind.i64 n6)) ∧
            idx (sa1) (sl1) (0) (1) fun a7 =>
            ∃ n7 : Int,
            (w1.drew.cell? a7 = some (Value.int IntKind.i64 n7)) ∧
            R (Ending.returned (Value.tuple #[Value.int IntKind.i64 (IntKind.i64.wrap (n6 * x1)), Value.int IntKind.i64 (IntKind.i64.wrap (n7 * x2))])) w1.drew)
            (brB (decide (st1 = { data := #[116, 105, 108, 101] }))
              (idx (sa1) (sl1) (0) (1) fun a8 =>
              ∃ n8 : Int,
              (w1.drew.cell? a8 = some (Value.int IntKind.i64 n8)) ∧
              idx (sa1) (sl1) (1) (1) fun a9 =>
              ∃ n9 : Int,
              (w1.drew.cell? a9 = some (Value.int IntKind.i64 n9)) ∧
              R (Ending.returned (Value.tuple #[Value.int IntKind.i64 (IntKind.i64.wrap (n8 * x1)), Value.int IntKind.i64 (IntKind.i64.wrap (n9 * x2))])) w1.drew)
              (brB (decide (st1 = { data := #[101, 120, 116, 101, 110, 100] }))
                (idx (sa1) (sl1) (0) (1) fun a10 =>
                ∃ n10 : Int,
                (w1.drew.cell? a10 = some (Value.int IntKind.i64 n10)) ∧
                idx (sa1) (sl1) (2) (1) fun a11 =>
                ∃ n11 : Int,
                (w1.drew.cell? a11 = some (Value.int IntKind.i64 n11)) ∧
                idx (sa1) (sl1) (1) (1) fun a12 =>
                ∃ n12 : Int,
                (w1.drew.cell? a12 = some (Value.int IntKind.i64 n12)) ∧
                idx (sa1) (sl1) (3) (1) fun a13 =>
                ∃ n13 : Int,
                (w1.drew.cell? a13 = some (Value.int IntKind.i64 n13)) ∧
                R (Ending.returned (Value.tuple #[Value.int IntKind.i64 (IntKind.i64.wrap (IntKind.i64.wrap (n10 + x1) + n11)), Value.int IntKind.i64 (IntKind.i64.wrap (IntKind.i64.wrap (n12 + x2) + n13))])) w1.drew)
                (brB (decide (st1 = { data := #[102, 114, 97, 109, 101] }))
                  (idx (sa1) (sl1) (0) (1) fun a14 =>
                  ∃ n14 : Int,
                  (w1.drew.cell? a14 = some (Value.int IntKind.i64 n14)) ∧
                  idx (sa1) (sl1) (0) (1) fun a15 =>
                  ∃ n15 : Int,
                  (w1.drew.cell? a15 = some (Value.int IntKind.i64 n15)) ∧
                  R (Ending.returned (Value.tuple #[Value.int IntKind.i64 (IntKind.i64.wrap (x1 + IntKind.i64.wrap (2 * n14))), Value.int IntKind.i64 (IntKind.i64.wrap (x2 + IntKind.i64.wrap (2 * n15)))])) w1.drew)
                  (brB (decide (st1 = { data := #[115, 104, 114, 105, 110, 107] }))
                    (idx (sa1) (sl1) (0) (1) fun a16 =>
                    ∃ n16 : Int,
                    (w1.drew.cell? a16 = some (Value.int IntKind.i64 n16)) ∧
                    idx (sa1) (sl1) (0) (1) fun a17 =>
                    ∃ n17 : Int,
                    (w1.drew.cell? a17 = some (Value.int IntKind.i64 n17)) ∧
                    (n17 ≠ 0) ∧
                    idx (sa1) (sl1) (0) (1) fun a18 =>
                    ∃ n18 : Int,
                    (w1.drew.cell? a18 = some (Value.int IntKind.i64 n18)) ∧
                    idx (sa1) (sl1) (0) (1) fun a19 =>
                    ∃ n19 : Int,
                    (w1.drew.cell? a19 = some (Value.int IntKind.i64 n19)) ∧
                    (n19 ≠ 0) ∧
                    R (Ending.returned (Value.tuple #[Value.int IntKind.i64 (divZ BinOp.quo IntKind.i64 (IntKind.i64.wrap (IntKind.i64.wrap (x1 + n16) - 1)) n17), Value.int IntKind.i64 (divZ BinOp.quo IntKind.i64 (IntKind.i64.wrap (IntKind.i64.wrap (x2 + n18) - 1)) n19)])) w1.drew)
                    (R (Ending.returned (Value.tuple #[Value.int IntKind.i64 x1, Value.int IntKind.i64 x2])) w1)))))))))
theorem calls_ref21_size (st1 : ByteArray) (sa1 : Option Addr) (sl1 sc1 : Nat) (x1 : Int) (x2 : Int) (w : World) (R : Ending → World → Prop) (h : vc_ref21_size st1 sa1 sl1 sc1 x1 x2 w R) : Calls P F.ref21_size #[.string st1, .slice sa1 sl1 sc1, .int .i64 x1, .int .i64 x2] w R :=
  calls_of_vc (fn := Try.f31) (ac := ac_ref21_size) (args := [.string st1, .slice sa1 sl1 sc1, .int .i64 x1, .int .i64 x2]) mixed Try.func31 (by kernel_rfl) (cast (by unfold vc_ref21_size FnVc; kernel_rfl) h)
/-- darkroom/darkroomref20.In -/
def vc_ref20_In (st1 : ByteArray) (sa1 : Option Addr) (sl1 sc1 : Nat) (w : World) (R : Ending → World → Prop) : Prop :=
  ∃ I1 : List Value → World → Prop,
  ∃ m1 : List Value → World → Nat,
  (I1 [Value.int IntKind.i64 0] w) ∧
  ∀ n1 : Int,
  ∀ w1 : World,
  (I1 [Value.int IntKind.i64 n1] w1) →
  brB (decide (n1 < (↑sl1 : Int)))
    (idx (sa1) (sl1) (n1) (1) fun a1 =>
    ∃ s1 : ByteArray,
    (w1.cell? a1 = some (Value.string s1)) ∧
    brB (decide (s1 = st1))
      (R (Ending.returned (Value.bool true)) w1)
      ((I1 [Value.int IntKind.i64 (IntKind.i64.wrap (n1 + 1))] w1) ∧
      m1 [Value.int IntKind.i64 (IntKind.i64.wrap (n1 + 1))] w1 < m1 [Value.int IntKind.i64 n1] w1))
    (R (Ending.returned (Value.bool false)) w1)
theorem calls_ref20_In (st1 : ByteArray) (sa1 : Option Addr) (sl1 sc1 : Nat) (w : World) (R : Ending → World → Prop) (h : vc_ref20_In st1 sa1 sl1 sc1 w R) : Calls P F.ref20_In #[.string st1, .slice sa1 sl1 sc1] w R :=
  calls_of_vc (fn := Try.f32) (ac := ac_ref20_In) (args := [.string st1, .slice sa1 sl1 sc1]) mixed Try.func32 (by kernel_rfl) (cast (by unfold vc_ref20_In FnVc; kernel_rfl) h)
/-- darkroom/darkroomref20.Fit -/
def vc_ref20_Fit (sa1 : Option Addr) (sl1 sc1 : Nat) (sa2 : Option Addr) (sl2 sc2 : Nat) (w : World) (R : Ending → World → Prop) : Prop :=
  brB (IntKind.i64.wrap (2 * (↑sl1 : Int)) != (↑sl2 : Int))
    (R (Ending.returned (Value.bool false)) w)
    (∃ I1 : List Value → World → Prop,
    ∃ m1 : List Value → World → Nat,
    (I1 [Value.int IntKind.i64 0] w) ∧
    ∀ n1 : Int,
    ∀ w1 : World,
    (I1 [Value.int IntKind.i64 n1] w1) →
    brB (decide (n1 < (↑sl1 : Int)))
      (idx (sa1) (sl1) (n1) (1) fun a1 =>
      ∃ n2 : Int,
      (w1.drew.cell? a1 = some (Value.int IntKind.i64 n2)) ∧
      idx (sa2) (sl2) (IntKind.i64.wrap (2 * n1)) (1) fun a2 =>
      ∃ n3 : Int,
      (w1.drew.cell? a2 = some (Value.int IntKind.i64 n3)) ∧
      brB (decide (n2 < n3))
        (R (Ending.returned (Value.bool false)) w1.drew)
        (idx (sa1) (sl1) (n1) (1) fun a3 =>
        ∃ n4 : Int,
        (w1.drew.cell? a3 = some (Value.int IntKind.i64 n4)) ∧
        idx (sa2) (sl2) (IntKind.i64.wrap (IntKind.i64.wrap (2 * n1) + 1)) (1) fun a4 =>
        ∃ n5 : Int,
        (w1.drew.cell? a4 = some (Value.int IntKind.i64 n5)) ∧
        brB (decide (n4 > n5))
          (R (Ending.returned (Value.bool false)) w1.drew)
          ((I1 [Value.int IntKind.i64 (IntKind.i64.wrap (n1 + 1))] w1.drew) ∧
          m1 [Value.int IntKind.i64 (IntKind.i64.wrap (n1 + 1))] w1.drew < m1 [Value.int IntKind.i64 n1] w1)))
      (R (Ending.returned (Value.bool true)) w1))
theorem calls_ref20_Fit (sa1 : Option Addr) (sl1 sc1 : Nat) (sa2 : Option Addr) (sl2 sc2 : Nat) (w : World) (R : Ending → World → Prop) (h : vc_ref20_Fit sa1 sl1 sc1 sa2 sl2 sc2 w R) : Calls P F.ref20_Fit #[.slice sa1 sl1 sc1, .slice sa2 sl2 sc2] w R :=
  calls_of_vc (fn := Try.f33) (ac := ac_ref20_Fit) (args := [.slice sa1 sl1 sc1, .slice sa2 sl2 sc2]) mixed Try.func33 (by kernel_rfl) (cast (by unfold vc_ref20_Fit FnVc; kernel_rfl) h)
/-- darkroom/darkroomref21.bounds -/
def vc_ref21_bounds (st1 : ByteArray) (w : World) (R : Ending → World → Prop) : Prop :=
  ∃ I1 : List Value → World → Prop,
  (brB (decide (st1 = { data := #[99, 114, 111, 112] }))
      (∀ k1 : Nat,
      ∀ w1 : World,
      (New w (Obj.cells #[Value.int IntKind.i64 0, Value.int IntKind.i64 4095, Value.int IntKind.i64 0, Value.int IntKind.i64 4095, Value.int IntKind.i64 1, Value.int IntKind.i64 4096, Value.int IntKind.i64 1, Value.int IntKind.i64 4096] 3) k1 w1) →
      R (Ending.returned (Value.slice (some { block := k1, off := 0 }) 8 8)) w1)
      (brB (decide (st1 = { data := #[114, 111, 116, 97, 116, 101] }))
        (∀ k2 : Nat,
        ∀ w2 : World,
        (New w (Obj.cells #[Value.int IntKind.i64 1, Value.int IntKind.i64 3] 3) k2 w2) →
        R (Ending.returned (Value.slice (some { block := k2, off := 0 }) 2 2)) w2)
        (brB (decide (st1 = { data := #[114, 111, 108, 108] }))
          (∀ k3 : Nat,
          ∀ w3 : World,
          (New w (Obj.cells #[Value.int IntKind.i64 (-4096), Value.int IntKind.i64 4096, Value.int IntKind.i64 (-4096), Value.int IntKind.i64 4096] 3) k3 w3) →
          R (Ending.returned (Value.slice (some { block := k3, off := 0 }) 4 4)) w3)
          (brB (decide (st1 = { data := #[114, 101, 115, 105, 122, 101] }))
            (∀ k4 : Nat,
            ∀ w4 : World,
            (New w (Obj.cells #[Value.int IntKind.i64 1, Value.int IntKind.i64 4096, Value.int IntKind.i64 1, Value.int IntKind.i64 4096] 3) k4 w4) →
            R (Ending.returned (Value.slice (some { block := k4, off := 0 }) 4 4)) w4)
            (brB (decide (st1 = { data := #[122, 111, 111, 109] }))
              (brB (decide (st1 = { data := #[122, 111, 111, 109] }))
                (∀ k5 : Nat,
                ∀ w5 : World,
                (New w (Obj.cells #[Value.int IntKind.i64 1, Value.int IntKind.i64 64] 3) k5 w5) →
                R (Ending.returned (Value.slice (some { block := k5, off := 0 }) 2 2)) w5)
                (brB (decide (st1 = { data := #[116, 105, 108, 101] }))
                  (∀ k6 : Nat,
                  ∀ w6 : World,
                  (New w (Obj.cells #[Value.int IntKind.i64 1, Value.int IntKind.i64 64, Value.int IntKind.i64 1, Value.int IntKind.i64 64] 3) k6 w6) →
                  R (Ending.returned (Value.slice (some { block := k6, off := 0 }) 4 4)) w6)
                  (brB (decide (st1 = { data := #[101, 120, 116, 101, 110, 100] }))
                    (∀ k7 : Nat,
                    ∀ w7 : World,
                    (New w (Obj.cells #[Value.int IntKind.i64 0, Value.int IntKind.i64 4096, Value.int IntKind.i64 0, Value.int IntKind.i64 4096, Value.int IntKind.i64 0, Value.int IntKind.i64 4096, Value.int IntKind.i64 0, Value.int IntKind.i64 4096] 3) k7 w7) →
                    R (Ending.returned (Value.slice (some { block := k7, off := 0 }) 8 8)) w7)
                    (brB (decide (st1 = { data := #[102, 114, 97, 109, 101] }))
                      (∀ k8 : Nat,
                      ∀ w8 : World,
                      (New w (Obj.cells #[Value.int IntKind.i64 1, Value.int IntKind.i64 1024, Value.int IntKind.i64 0, Value.int IntKind.i64 65535, Value.int IntKind.i64 0, Value.int IntKind.i64 65535, Value.int IntKind.i64 0, Value.int IntKind.i64 65535, Value.int IntKind.i64 0, Value.int IntKind.i64 65535] 3) k8 w8) →
                      R (Ending.returned (Value.slice (some { block := k8, off := 0 }) 10 10)) w8)
                      (I1 [] w)))))
              (brB (decide (st1 = { data := #[115, 104, 114, 105, 110, 107] }))
                (∀ k9 : Nat,
                ∀ w9 : World,
                (New w (Obj.cells #[Value.int IntKind.i64 1, Value.int IntKind.i64 64] 3) k9 w9) →
                R (Ending.returned (Value.slice (some { block := k9, off := 0 }) 2 2)) w9)
                (brB (decide (st1 = { data := #[116, 105, 108, 101] }))
                  (∀ k10 : Nat,
                  ∀ w10 : World,
                  (New w (Obj.cells #[Value.int IntKind.i64 1, Value.int IntKind.i64 64, Value.int IntKind.i64 1, Value.int IntKind.i64 64] 3) k10 w10) →
                  R (Ending.returned (Value.slice (some { block := k10, off := 0 }) 4 4)) w10)
                  (brB (decide (st1 = { data := #[101, 120, 116, 101, 110, 100] }))
                    (∀ k11 : Nat,
                    ∀ w11 : World,
                    (New w (Obj.cells #[Value.int IntKind.i64 0, Value.int IntKind.i64 4096, Value.int IntKind.i64 0, Value.int IntKind.i64 4096, Value.int IntKind.i64 0, Value.int IntKind.i64 4096, Value.int IntKind.i64 0, Value.int IntKind.i64 4096] 3) k11 w11) →
                    R (Ending.returned (Value.slice (some { block := k11, off := 0 }) 8 8)) w11)
                    (brB (decide (st1 = { data := #[102, 114, 97, 109, 101] }))
                      (∀ k12 : Nat,
                      ∀ w12 : World,
                      (New w (Obj.cells #[Value.int IntKind.i64 1, Value.int IntKind.i64 1024, Value.int IntKind.i64 0, Value.int IntKind.i64 65535, Value.int IntKind.i64 0, Value.int IntKind.i64 65535, Value.int IntKind.i64 0, Value.int IntKind.i64 65535, Value.int IntKind.i64 0, Value.int IntKind.i64 65535] 3) k12 w12) →
                      R (Ending.returned (Value.slice (some { block := k12, off := 0 }) 10 10)) w12)
                      (I1 [] w)))))))))) ∧
  ∀ w13 : World,
  (I1 [] w13) →
  R (Ending.returned (Value.slice none 0 0)) w13
theorem calls_ref21_bounds (st1 : ByteArray) (w : World) (R : Ending → World → Prop) (h : vc_ref21_bounds st1 w R) : Calls P F.ref21_bounds #[.string st1] w R :=
  calls_of_vc (fn := Try.f34) (ac := ac_ref21_bounds) (args := [.string st1]) mixed Try.func34 (by kernel_rfl) (cast (by unfold vc_ref21_bounds FnVc; kernel_rfl) h)
/-- darkroom/raster.Good -/
def vc_raster_Good (x1 : Int) (x2 : Int) (sa1 : Option Addr) (sl1 sc1 : Nat) (w : World) (R : Ending → World → Prop) : Prop :=
  ∀ k1 : Nat,
  (w.heap.size ≤ k1) →
  ∀ w1 : World,
  (Locl ([k1]) w w1) →
  R (Ending.returned (Value.bool (decide (min x1 x2 ≥ 1) && decide (max x1 x2 ≤ 4096) && decide (IntKind.i64.wrap (x1 * x2) ≤ 65536) && (↑sl1 : Int) == IntKind.i64.wrap (IntKind.i64.wrap (4 * x1) * x2)))) w1
theorem calls_raster_Good (x1 : Int) (x2 : Int) (sa1 : Option Addr) (sl1 sc1 : Nat) (w : World) (R : Ending → World → Prop) (h : vc_raster_Good x1 x2 sa1 sl1 sc1 w R) : Calls P F.raster_Good #[.agg #[.int .i64 x1, .int .i64 x2, .slice sa1 sl1 sc1]] w R :=
  calls_of_vc (fn := Try.f35) (ac := ac_raster_Good) (args := [.agg #[.int .i64 x1, .int .i64 x2, .slice sa1 sl1 sc1]]) mixed Try.func35 (by kernel_rfl) (cast (by unfold vc_raster_Good FnVc; kernel_rfl) h)
/-- darkroom/moves.trim -/
def vc_moves_trim (x1 : Int) (x2 : Int) (sa1 : Option Addr) (sl1 sc1 : Nat) (w : World) (R : Ending → World → Prop) : Prop :=
  ∀ k1 : Nat,
  (w.heap.size ≤ k1) →
  ∀ k2 : Nat,
  (w.heap.size ≤ k2) →
  ∀ w1 : World,
  (Locl ([k2, k1]) w w1) →
  Calls P F.raster_Grid #[Value.agg #[Value.int IntKind.i64 x1, Value.int IntKind.i64 x2, Value.slice sa1 sl1 sc1]] w1 fun e1 w2 =>
  ∃ p1 : Option Addr,
  ∃ n1 : Int,
  (e1 = Ending.returned (Value.tuple #[Value.pointer p1, Value.int IntKind.i64 n1])) ∧
  (Keep ([k2, k1]) w1 w2) ∧
  Calls P F.grid_Grid_api_Color_At #[Value.pointer p1, Value.int IntKind.i64 0, Value.int IntKind.i64 0] w2 fun e2 w3 =>
  ∃ n2 : Int,
  ∃ n3 : Int,
  ∃ n4 : Int,
  ∃ n5 : Int,
  ∃ c1 : Bool,
  (e2 = Ending.returned (Value.tuple #[Value.agg #[Value.int IntKind.u16 n2, Value.int IntKind.u16 n3, Value.int IntKind.u16 n4, Value.int IntKind.u16 n5], Value.bool c1])) ∧
  (Keep ([k2, k1]) w2 w3) ∧
  ∀ k3 : Nat,
  (w3.heap.size ≤ k3) →
  ∀ k4 : Nat,
  (w3.heap.size ≤ k4) →
  ∀ w4 : World,
  (Locl ([k4, k3, k2, k1]) w3 w4) →
  Calls P F.grid_Grid_api_Color_All #[Value.pointer p1] w4 fun e3 w5 =>
  ∃ y1 : FuncId,
  ∃ y2 : Array Value,
  ∃ y3 : Array Value,
  (e3 = Ending.returned (Value.func (Fn.func y1) y2 y3)) ∧
  (Keep ([k4, k3, k2, k1]) w4 w5) ∧
  ∀ k5 : Nat,
  ∀ w6 : World,
  (Rf w5 w6 k5) →
  ∀ I1 : List Value → World → Prop,
  ∀ Z1 : Exit → List Value → World → Prop,
  (∀ l1 : List Value,
  ∀ w7 : World,
  ∀ w8 : World,
  (I1 l1 w7) →
  (Keep ([k5, w5.heap.size, k4, k3, k2, k1]) w7 w8) →
  I1 l1 w8) →
  (∀ y4 : Exit,
  ∀ l2 : List Value,
  ∀ w9 : World,
  ∀ w10 : World,
  (Z1 y4 l2 w9) →
  (Keep ([k5, w5.heap.size, k4, k3, k2, k1]) w9 w10) →
  Z1 y4 l2 w10) →
  (I1 [Value.int IntKind.i64 x1, Value.int IntKind.i64 x2, Value.int IntKind.i64 0, Value.int IntKind.i64 0] w6) →
  (∀ n6 : Int,
  ∀ n7 : Int,
  ∀ n8 : Int,
  ∀ n9 : Int,
  ∀ n10 : Int,
  ∀ n11 : Int,
  ∀ n12 : Int,
  ∀ n13 : Int,
  ∀ n14 : Int,
  ∀ n15 : Int,
  ∀ w11 : World,
  ∀ I2 : Ending → World → Prop,
  (I1 [Value.int IntKind.i64 n6, Value.int IntKind.i64 n7, Value.int IntKind.i64 n8, Value.int IntKind.i64 n9] w11) →
  (∀ y5 : Obj,
  ∀ y6 : Obj,
  ∀ k6 : Nat,
  (w11.heap.size ≤ k6) →
  ∀ k7 : Nat,
  (w11.heap.size ≤ k7) →
  ∀ w12 : World,
  (Locl ([k7, k6, k4, k3, k2, k1]) w11 w12) →
  ∀ w13 : World,
  (Put k5 w12 w13) →
  ∃ I3 : List Value → World → Prop,
  (brB (!(decide (n12 = n2) && (decide (n13 = n3) && (decide (n14 = n4) && (decide (n15 = n5) && true)))))
      (∀ w14 : World,
      (Locl ([k7, k6, k4, k3, k2, k1]) (w13.drew) w14) →
      I3 [Value.int IntKind.i64 (min n6 n10), Value.int IntKind.i64 (min n7 n11), Value.int IntKind.i64 (max n8 (IntKind.i64.wrap (n10 + 1))), Value.int IntKind.i64 (max n9 (IntKind.i64.wrap (n11 + 1)))] w14)
      (I3 [Value.int IntKind.i64 n6, Value.int IntKind.i64 n7, Value.int IntKind.i64 n8, Value.int IntKind.i64 n9] w13)) ∧
  ∀ n16 : Int,
  ∀ n17 : Int,
  ∀ n18 : Int,
  ∀ n19 : Int,
  ∀ w15 : World,
  (I3 [Value.int IntKind.i64 n16, Value.int IntKind.i64 n17, Value.int IntKind.i64 n18, Value.int IntKind.i64 n19] w15) →
  ∀ w16 : World,
  (Put k5 w15 w16) →
  (I1 [Value.int IntKind.i64 n16, Value.int IntKind.i64 n17, Value.int IntKind.i64 n18, Value.int IntKind.i64 n19] w16) →
  I2 (Ending.returned (Value.bool true)) w16) →
  YieldAt Fence.wide 0 P (k5) #[Value.agg #[Value.int IntKind.i64 n10, Value.int IntKind.i64 n11], Value.agg #[Value.int IntKind.u16 n12, Value.int IntKind.u16 n13, Value.int IntKind.u16 n14, Value.int IntKind.u16 n15]] (w11) I2) →
  callF P (Value.func (Fn.func y1) y2 y3) [Value.func (Fn.yield k5) #[] #[]] w6 fun e4 w17 =>
  ∃ v1 : Value,
  (e4 = Ending.returned v1) ∧
  ((∃ n20 : Int,
    ∃ n21 : Int,
    ∃ n22 : Int,
    ∃ n23 : Int,
    (I1 [Value.int IntKind.i64 n20, Value.int IntKind.i64 n21, Value.int IntKind.i64 n22, Value.int IntKind.i64 n23] w17) ∧
    ∀ w18 : World,
    (Put k5 w17 w18) →
    ∃ I4 : List Value → World → Prop,
    (brB (n22 == 0)
        (∀ w19 : World,
        (Locl ([k4, k3, k2, k1]) w18 w19) →
        I4 [Value.int IntKind.i64 0, Value.int IntKind.i64 0, Value.int IntKind.i64 1, Value.int IntKind.i64 1] w19)
        (I4 [Value.int IntKind.i64 n20, Value.int IntKind.i64 n21, Value.int IntKind.i64 n22, Value.int IntKind.i64 n23] w18)) ∧
    ∀ n24 : Int,
    ∀ n25 : Int,
    ∀ n26 : Int,
    ∀ n27 : Int,
    ∀ w20 : World,
    (I4 [Value.int IntKind.i64 n24, Value.int IntKind.i64 n25, Value.int IntKind.i64 n26, Value.int IntKind.i64 n27] w20) →
    Calls P F.grid_Grid_api_Color_Crop #[Value.pointer p1, Value.int IntKind.i64 n24, Value.int IntKind.i64 n25, Value.int IntKind.i64 (IntKind.i64.wrap (n26 - n24)), Value.int IntKind.i64 (IntKind.i64.wrap (n27 - n25))] w20 fun e5 w21 =>
    ∃ p2 : Option Addr,
    ∃ n28 : Int,
    (e5 = Ending.returned (Value.tuple #[Value.pointer p2, Value.int IntKind.i64 n28])) ∧
    (Keep ([w5.heap.size, k4, k3, k2, k1]) w20 w21) ∧
    Calls P F.raster_Of #[Value.pointer p2] w21 fun e6 w22 =>
    ∃ n29 : Int,
    ∃ n30 : Int,
    ∃ p3 : Option Addr,
    ∃ k8 : Nat,
    ∃ k9 : Nat,
    ∃ n31 : Int,
    (e6 = Ending.returned (Value.tuple #[Value.agg #[Value.int IntKind.i64 n29, Value.int IntKind.i64 n30, Value.slice p3 k8 k9], Value.int IntKind.i64 n31])) ∧
    (Keep ([w5.heap.size, k4, k3, k2, k1]) w21 w22) ∧
    ∀ k10 : Nat,
    (w22.heap.size ≤ k10) →
    ∀ w23 : World,
    (Locl ([k10, k4, k3, k2, k1]) w22 w23) →
    ∀ w24 : World,
    (Put (w5.heap.size) w23 w24) →
    R (Ending.returned (Value.agg #[Value.int IntKind.i64 n29, Value.int IntKind.i64 n30, Value.slice p3 k8 k9])) w24) ∨
  (False))
theorem calls_moves_trim (x1 : Int) (x2 : Int) (sa1 : Option Addr) (sl1 sc1 : Nat) (w : World) (R : Ending → World → Prop) (h : vc_moves_trim x1 x2 sa1 sl1 sc1 w R) : Calls P F.moves_trim #[.agg #[.int .i64 x1, .int .i64 x2, .slice sa1 sl1 sc1]] w R :=
  calls_of_vc (fn := Try.f36) (ac := ac_moves_trim) (args := [.agg #[.int .i64 x1, .int .i64 x2, .slice sa1 sl1 sc1]]) mixed Try.func36 (by kernel_rfl) (cast (by unfold vc_moves_trim FnVc; kernel_rfl) h)
/-- darkroom/moves.places -/
def vc_moves_places (x1 : Int) (x2 : Int) (w : World) (R : Ending → World → Prop) : Prop :=
  ∀ k1 : Nat,
  ∀ w1 : World,
  (New w (Obj.cells #[Value.int IntKind.i64 x1] 3) k1 w1) →
  ∀ k2 : Nat,
  ∀ w2 : World,
  (New w1 (Obj.cells #[Value.int IntKind.i64 x2] 3) k2 w2) →
  R (Ending.returned (Value.func (Fn.func 75) #[] #[Value.pointer (some { block := k2, off := 0 }), Value.pointer (some { block := k1, off := 0 })])) w2
theorem calls_moves_places (x1 : Int) (x2 : Int) (w : World) (R : Ending → World → Prop) (h : vc_moves_places x1 x2 w R) : Calls P F.moves_places #[.int .i64 x1, .int .i64 x2] w R :=
  calls_of_vc (fn := Try.f37) (ac := ac_moves_places) (args := [.int .i64 x1, .int .i64 x2]) mixed Try.func37 (by kernel_rfl) (cast (by unfold vc_moves_places FnVc; kernel_rfl) h)
/-- darkroom/moves.mean -/
def vc_moves_mean (x1 : Int) (x2 : Int) (sa1 : Option Addr) (sl1 sc1 : Nat) (x3 : Int) (x4 : Int) (x5 : Int) (w : World) (R : Ending → World → Prop) : Prop :=
  ∀ k1 : Nat,
  (w.heap.size ≤ k1) →
  ∀ k2 : Nat,
  (w.heap.size ≤ k2) →
  ∀ k3 : Nat,
  (w.heap.size ≤ k3) →
  ∀ k4 : Nat,
  (w.heap.size ≤ k4) →
  ∀ k5 : Nat,
  (w.heap.size ≤ k5) →
  ∀ w1 : World,
  (Locl ([k5, k4, k3, k2, k1]) w w1) →
  ∀ k6 : Nat,
  ∀ w2 : World,
  (New w1 (Obj.cells #[Value.int IntKind.i64 0, Value.int IntKind.i64 0, Value.int IntKind.i64 0, Value.int IntKind.i64 0] 105) k6 w2) →
  ∀ k7 : Nat,
  (w2.heap.size ≤ k7) →
  ∀ w3 : World,
  (Locl ([k7, k5, k4, k3, k2, k1]) w2 w3) →
  Calls P F.moves_places #[Value.int IntKind.i64 (min x3 (IntKind.i64.wrap (x1 - IntKind.i64.wrap (x3 * x4)))), Value.int IntKind.i64 (min x3 (IntKind.i64.wrap (x2 - IntKind.i64.wrap (x3 * x5))))] w3 fun e1 w4 =>
  ∃ y1 : FuncId,
  ∃ y2 : Array Value,
  ∃ y3 : Array Value,
  (e1 = Ending.returned (Value.func (Fn.func y1) y2 y3)) ∧
  (Keep ([k7, k5, k4, k3, k2, k1]) w3 w4) ∧
  ∀ k8 : Nat,
  ∀ w5 : World,
  (Rf w4 w5 k8) →
  ∀ I1 : List Value → World → Prop,
  ∀ Z1 : Exit → List Value → World → Prop,
  (∀ l1 : List Value,
  ∀ w6 : World,
  ∀ w7 : World,
  (I1 l1 w6) →
  (Keep ([k8, w4.heap.size, k7, k5, k4, k3, k2, k1]) w6 w7) →
  I1 l1 w7) →
  (∀ y4 : Exit,
  ∀ l2 : List Value,
  ∀ w8 : World,
  ∀ w9 : World,
  (Z1 y4 l2 w8) →
  (Keep ([k8, w4.heap.size, k7, k5, k4, k3, k2, k1]) w8 w9) →
  Z1 y4 l2 w9) →
  (I1 [Value.int IntKind.i64 0] w5) →
  (∀ n1 : Int,
  ∀ n2 : Int,
  ∀ n3 : Int,
  ∀ w10 : World,
  ∀ I2 : Ending → World → Prop,
  (I1 [Value.int IntKind.i64 n1] w10) →
  (∀ y5 : Obj,
  ∀ y6 : Obj,
  ∀ w11 : World,
  (Put k8 w10 w11) →
  slcc (sa1) (sc1) (IntKind.i64.wrap (4 * IntKind.i64.wrap (IntKind.i64.wrap (IntKind.i64.wrap (IntKind.i64.wrap (IntKind.i64.wrap (x3 * x5) + n3) * x1) + IntKind.i64.wrap (x3 * x4)) + n2))) (IntKind.i64.wrap (IntKind.i64.wrap (4 * IntKind.i64.wrap (IntKind.i64.wrap (IntKind.i64.wrap (IntKind.i64.wrap (IntKind.i64.wrap (x3 * x5) + n3) * x1) + IntKind.i64.wrap (x3 * x4)) + n2)) + 4)) (1) fun p1 k9 k10 =>
  ∃ I3 : List Value → World → Prop,
  ∃ m1 : List Value → World → Nat,
  (I3 [Value.int IntKind.i64 0] w11) ∧
  ∀ n4 : Int,
  ∀ w12 : World,
  (I3 [Value.int IntKind.i64 n4] w12) →
  brB (decide (n4 < (↑k9 : Int)))
    (idx (p1) (k9) (n4) (1) fun a1 =>
    ∃ n5 : Int,
    (w12.cell? a1 = some (Value.int IntKind.u16 n5)) ∧
    (0 ≤ n4) ∧
    (n4 < 4) ∧
    ∃ n6 : Int,
    (w12.cell? ({ block := k6, off := 0 : Addr }.add (n4.toNat * 1)) = some (Value.int IntKind.i64 n6)) ∧
    (0 ≤ n4) ∧
    (n4 < 4) ∧
    (∃ v1 : Value,
      w12.cell? ({ block := k6, off := 0 : Addr }.add (n4.toNat * 1)) = some v1) ∧
    (w12.frozen? ({ block := k6, off := 0 : Addr }.add (n4.toNat * 1)) = false) ∧
    (¬({ block := k6, off := 0 : Addr }.add (n4.toNat * 1)).block ∈ [k7, k5, k4, k3, k2, k1]) ∧
    (I3 [Value.int IntKind.i64 (IntKind.i64.wrap (n4 + 1))] (setCells w12 ({ block := k6, off := 0 : Addr }.add (n4.toNat * 1)) [Value.int IntKind.i64 (IntKind.i64.wrap (n6 + IntKind.i64.wrap n5))] 0)) ∧
    m1 [Value.int IntKind.i64 (IntKind.i64.wrap (n4 + 1))] (setCells w12 ({ block := k6, off := 0 : Addr }.add (n4.toNat * 1)) [Value.int IntKind.i64 (IntKind.i64.wrap (n6 + IntKind.i64.wrap n5))] 0) < m1 [Value.int IntKind.i64 n4] w12)
    (∀ w13 : World,
    (Locl ([k7, k5, k4, k3, k2, k1]) w12 w13) →
    ∀ w14 : World,
    (Put k8 w13 w14) →
    (I1 [Value.int IntKind.i64 (IntKind.i64.wrap (n1 + 1))] w14) →
    I2 (Ending.returned (Value.bool true)) w14)) →
  YieldAt Fence.wide 0 P (k8) #[Value.int IntKind.i64 n2, Value.int IntKind.i64 n3] (w10) I2) →
  callF P (Value.func (Fn.func y1) y2 y3) [Value.func (Fn.yield k8) #[] #[]] w5 fun e2 w15 =>
  ∃ v2 : Value,
  (e2 = Ending.returned v2) ∧
  ((∃ n7 : Int,
    (I1 [Value.int IntKind.i64 n7] w15) ∧
    ∀ w16 : World,
    (Put k8 w15 w16) →
    ∀ k11 : Nat,
    ∀ w17 : World,
    (New w16 (Obj.cells #[Value.int IntKind.u16 0, Value.int IntKind.u16 0, Value.int IntKind.u16 0, Value.int IntKind.u16 0] 80) k11 w17) →
    ∃ n8 : Int,
    ∃ n9 : Int,
    ∃ n10 : Int,
    ∃ n11 : Int,
    (w17.cell? { block := k6, off := 0 } = some (Value.int IntKind.i64 n8)) ∧
    (w17.cell? { block := k6, off := 1 } = some (Value.int IntKind.i64 n9)) ∧
    (w17.cell? { block := k6, off := 2 } = some (Value.int IntKind.i64 n10)) ∧
    (w17.cell? { block := k6, off := 3 } = some (Value.int IntKind.i64 n11)) ∧
    ∃ I4 : List Value → World → Prop,
    ∃ m2 : List Value → World → Nat,
    (I4 [Value.int IntKind.i64 0] w17) ∧
    ∀ n12 : Int,
    ∀ w18 : World,
    (I4 [Value.int IntKind.i64 n12] w18) →
    brB (decide (n12 < 4))
      ((0 ≤ n12) ∧
      (n12 < 4) ∧
      ∃ n13 : Int,
      ([Value.int IntKind.i64 n8, Value.int IntKind.i64 n9, Value.int IntKind.i64 n10, Value.int IntKind.i64 n11][n12.toNat]? = some (Value.int IntKind.i64 n13)) ∧
      (n7 ≠ 0) ∧
      (0 ≤ n12) ∧
      (n12 < 4) ∧
      (∃ v3 : Value,
        w18.cell? ({ block := k11, off := 0 : Addr }.add (n12.toNat * 1)) = some v3) ∧
      (w18.frozen? ({ block := k11, off := 0 : Addr }.add (n12.toNat * 1)) = false) ∧
      (¬({ block := k11, off := 0 : Addr }.add (n12.toNat * 1)).block ∈ [k7, k5, k4, k3, k2, k1]) ∧
      (I4 [Value.int IntKind.i64 (IntKind.i64.wrap (n12 + 1))] (setCells w18 ({ block := k11, off := 0 : Addr }.add (n12.toNat * 1)) [Value.int IntKind.u16 (IntKind.u16.wrap (divZ BinOp.quo IntKind.i64 (IntKind.i64.wrap (n13 + divZ BinOp.quo IntKind.i64 n7 2)) n7))] 0)) ∧
      m2 [Value.int IntKind.i64 (IntKind.i64.wrap (n12 + 1))] (setCells w18 ({ block := k11, off := 0 : Addr }.add (n12.toNat * 1)) [Value.int IntKind.u16 (IntKind.u16.wrap (divZ BinOp.quo IntKind.i64 (IntKind.i64.wrap (n13 + divZ BinOp.quo IntKind.i64 n7 2)) n7))] 0) < m2 [Value.int IntKind.i64 n12] w18)
      (∃ n14 : Int,
      ∃ n15 : Int,
      ∃ n16 : Int,
      ∃ n17 : Int,
      (w18.cell? { block := k11, off := 0 } = some (Value.int IntKind.u16 n14)) ∧
      (w18.cell? { block := k11, off := 1 } = some (Value.int IntKind.u16 n15)) ∧
      (w18.cell? { block := k11, off := 2 } = some (Value.int IntKind.u16 n16)) ∧
      (w18.cell? { block := k11, off := 3 } = some (Value.int IntKind.u16 n17)) ∧
      ∀ w19 : World,
      (Locl ([k7, k5, k4, k3, k2, k1]) w18 w19) →
      ∀ w20 : World,
      (Put (w4.heap.size) w19 w20) →
      R (Ending.returned (Value.agg #[Value.int IntKind.u16 n14, Value.int IntKind.u16 n15, Value.int IntKind.u16 n16, Value.int IntKind.u16 n17])) w20)) ∨
  (False))
theorem calls_moves_mean (x1 : Int) (x2 : Int) (sa1 : Option Addr) (sl1 sc1 : Nat) (x3 : Int) (x4 : Int) (x5 : Int) (w : World) (R : Ending → World → Prop) (h : vc_moves_mean x1 x2 sa1 sl1 sc1 x3 x4 x5 w R) : Calls P F.moves_mean #[.agg #[.int .i64 x1, .int .i64 x2, .slice sa1 sl1 sc1], .int .i64 x3, .int .i64 x4, .int .i64 x5] w R :=
  calls_of_vc (fn := Try.f38) (ac := ac_moves_mean) (args := [.agg #[.int .i64 x1, .int .i64 x2, .slice sa1 sl1 sc1], .int .i64 x3, .int .i64 x4, .int .i64 x5]) mixed Try.func38 (by kernel_rfl) (cast (by unfold vc_moves_mean FnVc; kernel_rfl) h)
/-- darkroom/darkroomref09.Copy -/
def vc_ref09_Copy (x1 : Int) (x2 : Int) (sa1 : Option Addr) (sl1 sc1 : Nat) (w : World) (R : Ending → World → Prop) : Prop :=
  ∀ k1 : Nat,
  (w.heap.size ≤ k1) →
  ∀ k2 : Nat,
  (w.heap.size ≤ k2) →
  ∀ w1 : World,
  (Locl ([k2, k1]) w w1) →
  ∀ k3 : Nat,
  ∀ w2 : World,
  (New w1 (Obj.cells #[] 54) k3 w2) →
  ∃ l1 : List Value,
  (l1.length = sl1 * 1) ∧
  (oneAll l1 = true) ∧
  (CellsAre w2 sa1 l1) ∧
  appVC (w2) ([(2, k2, [Value.int IntKind.i64 0, Value.int IntKind.i64 0, Value.slice none 0 0]), (1, k1, [Value.int IntKind.i64 x1, Value.int IntKind.i64 x2, Value.slice sa1 sl1 sc1])]) (some { block := k3, off := 0 }) (0) (0) (sl1) (1) (2) (54) ([Value.int IntKind.u16 0]) (l1) fun p1 k4 k5 w3 =>
  ∀ w4 : World,
  (Locl ([k2, k1]) w3 w4) →
  R (Ending.returned (Value.agg #[Value.int IntKind.i64 x1, Value.int IntKind.i64 x2, Value.slice p1 k4 k5])) w4
theorem calls_ref09_Copy (x1 : Int) (x2 : Int) (sa1 : Option Addr) (sl1 sc1 : Nat) (w : World) (R : Ending → World → Prop) (h : vc_ref09_Copy x1 x2 sa1 sl1 sc1 w R) : Calls P F.ref09_Copy #[.agg #[.int .i64 x1, .int .i64 x2, .slice sa1 sl1 sc1]] w R :=
  calls_of_vc (fn := Try.f39) (ac := ac_ref09_Copy) (args := [.agg #[.int .i64 x1, .int .i64 x2, .slice sa1 sl1 sc1]]) mixed Try.func39 (by kernel_rfl) (cast (by unfold vc_ref09_Copy FnVc; kernel_rfl) h)
/-- darkroom/darkroomref21.trim -/
def vc_ref21_trim (x1 : Int) (x2 : Int) (sa1 : Option Addr) (sl1 sc1 : Nat) (w : World) (R : Ending → World → Prop) : Prop :=
  ∀ k1 : Nat,
  (w.heap.size ≤ k1) →
  ∀ k2 : Nat,
  (w.heap.size ≤ k2) →
  ∀ w1 : World,
  (Locl ([k2, k1]) w w1) →
  Calls P F.ref09_Pixel #[Value.agg #[Value.int IntKind.i64 x1, Value.int IntKind.i64 x2, Value.slice sa1 sl1 sc1], Value.int IntKind.i64 0, Value.int IntKind.i64 0] w1 fun e1 w2 =>
  ∃ n1 : Int,
  ∃ n2 : Int,
  ∃ n3 : Int,
  ∃ n4 : Int,
  (e1 = Ending.returned (Value.agg #[Value.int IntKind.u16 n1, Value.int IntKind.u16 n2, Value.int IntKind.u16 n3, Value.int IntKind.u16 n4])) ∧
  (Keep ([k2, k1]) w1 w2) ∧
  ∀ k3 : Nat,
  (w2.heap.size ≤ k3) →
  ∃ I1 : List Value → World → Prop,
  ∃ m1 : List Value → World → Nat,
  (∀ w3 : World,
    (Locl ([k3, k2, k1]) w2 w3) →
    I1 [Value.int IntKind.i64 x1, Value.int IntKind.i64 x2, Value.int IntKind.i64 (-1), Value.int IntKind.i64 (-1), Value.int IntKind.i64 0] w3) ∧
  ∀ n5 : Int,
  ∀ n6 : Int,
  ∀ n7 : Int,
  ∀ n8 : Int,
  ∀ n9 : Int,
  ∀ w4 : World,
  (I1 [Value.int IntKind.i64 n5, Value.int IntKind.i64 n6, Value.int IntKind.i64 n7, Value.int IntKind.i64 n8, Value.int IntKind.i64 n9] w4) →
  brB (decide (n9 < x2))
    (∃ I2 : List Value → World → Prop,
    ∃ m2 : List Value → World → Nat,
    (I2 [Value.int IntKind.i64 n5, Value.int IntKind.i64 n6, Value.int IntKind.i64 n7, Value.int IntKind.i64 n8, Value.int IntKind.i64 0] w4) ∧
    ∀ n10 : Int,
    ∀ n11 : Int,
    ∀ n12 : Int,
    ∀ n13 : Int,
    ∀ n14 : Int,
    ∀ w5 : World,
    (I2 [Value.int IntKind.i64 n10, Value.int IntKind.i64 n11, Value.int IntKind.i64 n12, Value.int IntKind.i64 n13, Value.int IntKind.i64 n14] w5) →
    brB (decide (n14 < x1))
      (∃ I3 : List Value → World → Prop,
      (Calls P F.ref09_Pixel #[Value.agg #[Value.int IntKind.i64 x1, Value.int IntKind.i64 x2, Value.slice sa1 sl1 sc1], Value.int IntKind.i64 n14, Value.int IntKind.i64 n9] (w5.drew) fun e2 w6 =>
        ∃ n15 : Int,
        ∃ n16 : Int,
        ∃ n17 : Int,
        ∃ n18 : Int,
        (e2 = Ending.returned (Value.agg #[Value.int IntKind.u16 n15, Value.int IntKind.u16 n16, Value.int IntKind.u16 n17, Value.int IntKind.u16 n18])) ∧
        (Keep ([k3, k2, k1]) (w5.drew) w6) ∧
        (Keeps (w5.drew) w6) ∧
        brB (decide (n15 = n1) && (decide (n16 = n2) && (decide (n17 = n3) && (decide (n18 = n4) && true))))
          (I3 [Value.int IntKind.i64 n10, Value.int IntKind.i64 n11, Value.int IntKind.i64 n12, Value.int IntKind.i64 n13] w6)
          (∃ I4 : List Value → World → Prop,
          (brB (decide (n14 < n10))
              (I4 [Value.int IntKind.i64 n14] w6)
              (I4 [Value.int IntKind.i64 n10] w6)) ∧
          ∀ n19 : Int,
          ∀ w7 : World,
          (I4 [Value.int IntKind.i64 n19] w7) →
          brB (decide (n9 < n11))
            (brB (decide (n14 > n12))
              (brB (decide (n9 > n13))
                (I3 [Value.int IntKind.i64 n19, Value.int IntKind.i64 n9, Value.int IntKind.i64 n14, Value.int IntKind.i64 n9] w7)
                (I3 [Value.int IntKind.i64 n19, Value.int IntKind.i64 n9, Value.int IntKind.i64 n14, Value.int IntKind.i64 n13] w7))
              (brB (decide (n9 > n13))
                (I3 [Value.int IntKind.i64 n19, Value.int IntKind.i64 n9, Value.int IntKind.i64 n12, Value.int IntKind.i64 n9] w7)
                (I3 [Value.int IntKind.i64 n19, Value.int IntKind.i64 n9, Value.int IntKind.i64 n12, Value.int IntKind.i64 n13] w7)))
            (brB (decide (n14 > n12))
              (brB (decide (n9 > n13))
                (I3 [Value.int IntKind.i64 n19, Value.int IntKind.i64 n11, Value.int IntKind.i64 n14, Value.int IntKind.i64 n9] w7)
                (I3 [Value.int IntKind.i64 n19, Value.int IntKind.i64 n11, Value.int IntKind.i64 n14, Value.int IntKind.i64 n13] w7))
              (brB (decide (n9 > n13))
                (I3 [Value.int IntKind.i64 n19, Value.int IntKind.i64 n11, Value.int IntKind.i64 n12, Value.int IntKind.i64 n9] w7)
                (I3 [Value.int IntKind.i64 n19, Value.int IntKind.i64 n11, Value.int IntKind.i64 n12, Value.int IntKind.i64 n13] w7))))) ∧
      ∀ n20 : Int,
      ∀ n21 : Int,
      ∀ n22 : Int,
      ∀ n23 : Int,
      ∀ w8 : World,
      (I3 [Value.int IntKind.i64 n20, Value.int IntKind.i64 n21, Value.int IntKind.i64 n22, Value.int IntKind.i64 n23] w8) →
      (I2 [Value.int IntKind.i64 n20, Value.int IntKind.i64 n21, Value.int IntKind.i64 n22, Value.int IntKind.i64 n23, Value.int IntKind.i64 (IntKind.i64.wrap (n14 + 1))] w8) ∧
      m2 [Value.int IntKind.i64 n20, Value.int IntKind.i64 n21, Value.int IntKind.i64 n22, Value.int IntKind.i64 n23, Value.int IntKind.i64 (IntKind.i64.wrap (n14 + 1))] w8 < m2 [Value.int IntKind.i64 n10, Value.int IntKind.i64 n11, Value.int IntKind.i64 n12, Value.int IntKind.i64 n13, Value.int IntKind.i64 n14] w5)
      ((I1 [Value.int IntKind.i64 n10, Value.int IntKind.i64 n11, Value.int IntKind.i64 n12, Value.int IntKind.i64 n13, Value.int IntKind.i64 (IntKind.i64.wrap (n9 + 1))] w5) ∧
      m1 [Value.int IntKind.i64 n10, Value.int IntKind.i64 n11, Value.int IntKind.i64 n12, Value.int IntKind.i64 n13, Value.int IntKind.i64 (IntKind.i64.wrap (n9 + 1))] w5 < m1 [Value.int IntKind.i64 n5, Value.int IntKind.i64 n6, Value.int IntKind.i64 n7, Value.int IntKind.i64 n8, Value.int IntKind.i64 n9] w4))
    (∃ I5 : List Value → World → Prop,
    (brB (decide (n7 < 0))
        (I5 [Value.int IntKind.i64 0, Value.int IntKind.i64 0, Value.int IntKind.i64 0, Value.int IntKind.i64 0] w4)
        (I5 [Value.int IntKind.i64 n5, Value.int IntKind.i64 n6, Value.int IntKind.i64 n7, Value.int IntKind.i64 n8] w4)) ∧
    ∀ n24 : Int,
    ∀ n25 : Int,
    ∀ n26 : Int,
    ∀ n27 : Int,
    ∀ w9 : World,
    (I5 [Value.int IntKind.i64 n24, Value.int IntKind.i64 n25, Value.int IntKind.i64 n26, Value.int IntKind.i64 n27] w9) →
    Calls P F.ref09_Crop #[Value.agg #[Value.int IntKind.i64 x1, Value.int IntKind.i64 x2, Value.slice sa1 sl1 sc1], Value.agg #[Value.int IntKind.i64 n24, Value.int IntKind.i64 n25, Value.int IntKind.i64 (IntKind.i64.wrap (IntKind.i64.wrap (n26 - n24) + 1)), Value.int IntKind.i64 (IntKind.i64.wrap (IntKind.i64.wrap (n27 - n25) + 1))]] w9 fun e3 w10 =>
    ∃ n28 : Int,
    ∃ n29 : Int,
    ∃ p1 : Option Addr,
    ∃ k4 : Nat,
    ∃ k5 : Nat,
    ∃ n30 : Int,
    (e3 = Ending.returned (Value.tuple #[Value.agg #[Value.int IntKind.i64 n28, Value.int IntKind.i64 n29, Value.slice p1 k4 k5], Value.int IntKind.i64 n30])) ∧
    (Keep ([k3, k2, k1]) w9 w10) ∧
    ∀ k6 : Nat,
    (w10.heap.size ≤ k6) →
    ∀ w11 : World,
    (Locl ([k6, k3, k2, k1]) w10 w11) →
    R (Ending.returned (Value.agg #[Value.int IntKind.i64 n28, Value.int IntKind.i64 n29, Value.slice p1 k4 k5])) w11)
theorem calls_ref21_trim (x1 : Int) (x2 : Int) (sa1 : Option Addr) (sl1 sc1 : Nat) (w : World) (R : Ending → World → Prop) (h : vc_ref21_trim x1 x2 sa1 sl1 sc1 w R) : Calls P F.ref21_trim #[.agg #[.int .i64 x1, .int .i64 x2, .slice sa1 sl1 sc1]] w R :=
  calls_of_vc (fn := Try.f40) (ac := ac_ref21_trim) (args := [.agg #[.int .i64 x1, .int .i64 x2, .slice sa1 sl1 sc1]]) mixed Try.func40 (by kernel_rfl) (cast (by unfold vc_ref21_trim FnVc; kernel_rfl) h)
/-- darkroom/darkroomref21.mean -/
def vc_ref21_mean (x1 : Int) (x2 : Int) (sa1 : Option Addr) (sl1 sc1 : Nat) (x3 : Int) (x4 : Int) (x5 : Int) (w : World) (R : Ending → World → Prop) : Prop :=
  ∀ k1 : Nat,
  (w.heap.size ≤ k1) →
  ∀ k2 : Nat,
  (w.heap.size ≤ k2) →
  ∀ w1 : World,
  (Locl ([k2, k1]) w w1) →
  ∀ k3 : Nat,
  ∀ w2 : World,
  (New w1 (Obj.cells #[Value.int IntKind.i64 0, Value.int IntKind.i64 0, Value.int IntKind.i64 0, Value.int IntKind.i64 0] 105) k3 w2) →
  ∃ I1 : List Value → World → Prop,
  ∃ m1 : List Value → World → Nat,
  (I1 [Value.int IntKind.i64 0, Value.int IntKind.i64 (IntKind.i64.wrap (x3 * x5))] w2) ∧
  ∀ n1 : Int,
  ∀ n2 : Int,
  ∀ w3 : World,
  (I1 [Value.int IntKind.i64 n1, Value.int IntKind.i64 n2] w3) →
  brB (decide (n2 < IntKind.i64.wrap (IntKind.i64.wrap (x3 * x5) + x3)) && decide (n2 < x2))
    (∃ I2 : List Value → World → Prop,
    ∃ m2 : List Value → World → Nat,
    (I2 [Value.int IntKind.i64 n1, Value.int IntKind.i64 (IntKind.i64.wrap (x3 * x4))] w3) ∧
    ∀ n3 : Int,
    ∀ n4 : Int,
    ∀ w4 : World,
    (I2 [Value.int IntKind.i64 n3, Value.int IntKind.i64 n4] w4) →
    brB (decide (n4 < IntKind.i64.wrap (IntKind.i64.wrap (x3 * x4) + x3)) && decide (n4 < x1))
      (Calls P F.ref09_Pixel #[Value.agg #[Value.int IntKind.i64 x1, Value.int IntKind.i64 x2, Value.slice sa1 sl1 sc1], Value.int IntKind.i64 n4, Value.int IntKind.i64 n2] w4 fun e1 w5 =>
      ∃ n5 : Int,
      ∃ n6 : Int,
      ∃ n7 : Int,
      ∃ n8 : Int,
      (e1 = Ending.returned (Value.agg #[Value.int IntKind.u16 n5, Value.int IntKind.u16 n6, Value.int IntKind.u16 n7, Value.int IntKind.u16 n8])) ∧
      (Keep ([k2, k1]) w4 w5) ∧
      ∀ k4 : Nat,
      (w5.heap.size ≤ k4) →
      ((0 : Int) ≤ 0) ∧
      ((0 : Int) < 4) ∧
      ∀ w6 : World,
      (Locl ([k4, k2, k1]) w5 w6) →
      ∃ n9 : Int,
      (w6.cell? { block := k3, off := 0 } = some (Value.int IntKind.i64 n9)) ∧
      ((0 : Int) ≤ 0) ∧
      ((0 : Int) < 4) ∧
      (∃ v1 : Value,
        w6.cell? { block := k3, off := 0 } = some v1) ∧
      (w6.frozen? { block := k3, off := 0 } = false) ∧
      (¬k3 ∈ [k4, k2, k1]) ∧
      ((0 : Int) ≤ 1) ∧
      ((1 : Int) < 4) ∧
      ∃ n10 : Int,
      ((setCells w6 { block := k3, off := 0 } [Value.int IntKind.i64 (IntKind.i64.wrap (n9 + IntKind.i64.wrap n5))] 0).cell? { block := k3, off := 1 } = some (Value.int IntKind.i64 n10)) ∧
      ((0 : Int) ≤ 1) ∧
      ((1 : Int) < 4) ∧
      (∃ v2 : Value,
        (setCells w6 { block := k3, off := 0 } [Value.int IntKind.i64 (IntKind.i64.wrap (n9 + IntKind.i64.wrap n5))] 0).cell? { block := k3, off := 1 } = some v2) ∧
      ((setCells w6 { block := k3, off := 0 } [Value.int IntKind.i64 (IntKind.i64.wrap (n9 + IntKind.i64.wrap n5))] 0).frozen? { block := k3, off := 1 } = false) ∧
      (¬k3 ∈ [k4, k2, k1]) ∧
      ((0 : Int) ≤ 2) ∧
      ((2 : Int) < 4) ∧
      ∃ n11 : Int,
      ((setCells (setCells w6 { block := k3, off := 0 } [Value.int IntKind.i64 (IntKind.i64.wrap (n9 + IntKind.i64.wrap n5))] 0) { block := k3, off := 1 } [Value.int IntKind.i64 (IntKind.i64.wrap (n10 + IntKind.i64.wrap n6))] 0).cell? { block := k3, off := 2 } = some (Value.int IntKind.i64 n11)) ∧
      ((0 : Int) ≤ 2) ∧
      ((2 : Int) < 4) ∧
      (∃ v3 : Value,
        (setCells (setCells w6 { block := k3, off := 0 } [Value.int IntKind.i64 (IntKind.i64.wrap (n9 + IntKind.i64.wrap n5))] 0) { block := k3, off := 1 } [Value.int IntKind.i64 (IntKind.i64.wrap (n10 + IntKind.i64.wrap n6))] 0).cell? { block := k3, off := 2 } = some v3) ∧
      ((setCells (setCells w6 { block := k3, off := 0 } [Value.int IntKind.i64 (IntKind.i64.wrap (n9 + IntKind.i64.wrap n5))] 0) { block := k3, off := 1 } [Value.int IntKind.i64 (IntKind.i64.wrap (n10 + IntKind.i64.wrap n6))] 0).frozen? { block := k3, off := 2 } = false) ∧
      (¬k3 ∈ [k4, k2, k1]) ∧
      ((0 : Int) ≤ 3) ∧
      ((3 : Int) < 4) ∧
      ∃ n12 : Int,
      ((setCells (setCells (setCells w6 { block := k3, off := 0 } [Value.int IntKind.i64 (IntKind.i64.wrap (n9 + IntKind.i64.wrap n5))] 0) { block := k3, off := 1 } [Value.int IntKind.i64 (IntKind.i64.wrap (n10 + IntKind.i64.wrap n6))] 0) { block := k3, off := 2 } [Value.int IntKind.i64 (IntKind.i64.wrap (n11 + IntKind.i64.wrap n7))] 0).cell? { block := k3, off := 3 } = some (Value.int IntKind.i64 n12)) ∧
      ((0 : Int) ≤ 3) ∧
      ((3 : Int) < 4) ∧
      (∃ v4 : Value,
        (setCells (setCells (setCells w6 { block := k3, off := 0 } [Value.int IntKind.i64 (IntKind.i64.wrap (n9 + IntKind.i64.wrap n5))] 0) { block := k3, off := 1 } [Value.int IntKind.i64 (IntKind.i64.wrap (n10 + IntKind.i64.wrap n6))] 0) { block := k3, off := 2 } [Value.int IntKind.i64 (IntKind.i64.wrap (n11 + IntKind.i64.wrap n7))] 0).cell? { block := k3, off := 3 } = some v4) ∧
      ((setCells (setCells (setCells w6 { block := k3, off := 0 } [Value.int IntKind.i64 (IntKind.i64.wrap (n9 + IntKind.i64.wrap n5))] 0) { block := k3, off := 1 } [Value.int IntKind.i64 (IntKind.i64.wrap (n10 + IntKind.i64.wrap n6))] 0) { block := k3, off := 2 } [Value.int IntKind.i64 (IntKind.i64.wrap (n11 + IntKind.i64.wrap n7))] 0).frozen? { block := k3, off := 3 } = false) ∧
      (¬k3 ∈ [k4, k2, k1]) ∧
      (I2 [Value.int IntKind.i64 (IntKind.i64.wrap (n3 + 1)), Value.int IntKind.i64 (IntKind.i64.wrap (n4 + 1))] (setCells (setCells (setCells (setCells w6 { block := k3, off := 0 } [Value.int IntKind.i64 (IntKind.i64.wrap (n9 + IntKind.i64.wrap n5))] 0) { block := k3, off := 1 } [Value.int IntKind.i64 (IntKind.i64.wrap (n10 + IntKind.i64.wrap n6))] 0) { block := k3, off := 2 } [Value.int IntKind.i64 (IntKind.i64.wrap (n11 + IntKind.i64.wrap n7))] 0) { block := k3, off := 3 } [Value.int IntKind.i64 (IntKind.i64.wrap (n12 + IntKind.i64.wrap n8))] 0)) ∧
      m2 [Value.int IntKind.i64 (IntKind.i64.wrap (n3 + 1)), Value.int IntKind.i64 (IntKind.i64.wrap (n4 + 1))] (setCells (setCells (setCells (setCells w6 { block := k3, off := 0 } [Value.int IntKind.i64 (IntKind.i64.wrap (n9 + IntKind.i64.wrap n5))] 0) { block := k3, off := 1 } [Value.int IntKind.i64 (IntKind.i64.wrap (n10 + IntKind.i64.wrap n6))] 0) { block := k3, off := 2 } [Value.int IntKind.i64 (IntKind.i64.wrap (n11 + IntKind.i64.wrap n7))] 0) { block := k3, off := 3 } [Value.int IntKind.i64 (IntKind.i64.wrap (n12 + IntKind.i64.wrap n8))] 0) < m2 [Value.int IntKind.i64 n3, Value.int IntKind.i64 n4] w4)
      ((I1 [Value.int IntKind.i64 n3, Value.int IntKind.i64 (IntKind.i64.wrap (n2 + 1))] w4) ∧
      m1 [Value.int IntKind.i64 n3, Value.int IntKind.i64 (IntKind.i64.wrap (n2 + 1))] w4 < m1 [Value.int IntKind.i64 n1, Value.int IntKind.i64 n2] w3))
    (∃ I3 : List Value → World → Prop,
    ∃ m3 : List Value → World → Nat,
    (I3 [Value.int IntKind.i64 0] w3) ∧
    ∀ n13 : Int,
    ∀ w7 : World,
    (I3 [Value.int IntKind.i64 n13] w7) →
    brB (decide (n13 < 4))
      ((0 ≤ n13) ∧
      (n13 < 4) ∧
      ∃ n14 : Int,
      (w7.cell? ({ block := k3, off := 0 : Addr }.add (n13.toNat * 1)) = some (Value.int IntKind.i64 n14)) ∧
      (n1 ≠ 0) ∧
      (0 ≤ n13) ∧
      (n13 < 4) ∧
      (∃ v5 : Value,
        w7.cell? ({ block := k3, off := 0 : Addr }.add (n13.toNat * 1)) = some v5) ∧
      (w7.frozen? ({ block := k3, off := 0 : Addr }.add (n13.toNat * 1)) = false) ∧
      (¬({ block := k3, off := 0 : Addr }.add (n13.toNat * 1)).block ∈ [k2, k1]) ∧
      (I3 [Value.int IntKind.i64 (IntKind.i64.wrap (n13 + 1))] (setCells w7 ({ block := k3, off := 0 : Addr }.add (n13.toNat * 1)) [Value.int IntKind.i64 (divZ BinOp.quo IntKind.i64 (IntKind.i64.wrap (n14 + divZ BinOp.quo IntKind.i64 n1 2)) n1)] 0)) ∧
      m3 [Value.int IntKind.i64 (IntKind.i64.wrap (n13 + 1))] (setCells w7 ({ block := k3, off := 0 : Addr }.add (n13.toNat * 1)) [Value.int IntKind.i64 (divZ BinOp.quo IntKind.i64 (IntKind.i64.wrap (n14 + divZ BinOp.quo IntKind.i64 n1 2)) n1)] 0) < m3 [Value.int IntKind.i64 n13] w7)
      (((0 : Int) ≤ 0) ∧
      ((0 : Int) < 4) ∧
      ∃ n15 : Int,
      (w7.cell? { block := k3, off := 0 } = some (Value.int IntKind.i64 n15)) ∧
      ((0 : Int) ≤ 1) ∧
      ((1 : Int) < 4) ∧
      ∃ n16 : Int,
      (w7.cell? { block := k3, off := 1 } = some (Value.int IntKind.i64 n16)) ∧
      ((0 : Int) ≤ 2) ∧
      ((2 : Int) < 4) ∧
      ∃ n17 : Int,
      (w7.cell? { block := k3, off := 2 } = some (Value.int IntKind.i64 n17)) ∧
      ((0 : Int) ≤ 3) ∧
      ((3 : Int) < 4) ∧
      ∃ n18 : Int,
      (w7.cell? { block := k3, off := 3 } = some (Value.int IntKind.i64 n18)) ∧
      ∀ w8 : World,
      (Locl ([k2, k1]) w7 w8) →
      R (Ending.returned (Value.agg #[Value.int IntKind.u16 (IntKind.u16.wrap n15), Value.int IntKind.u16 (IntKind.u16.wrap n16), Value.int IntKind.u16 (IntKind.u16.wrap n17), Value.int IntKind.u16 (IntKind.u16.wrap n18)])) w8))
theorem calls_ref21_mean (x1 : Int) (x2 : Int) (sa1 : Option Addr) (sl1 sc1 : Nat) (x3 : Int) (x4 : Int) (x5 : Int) (w : World) (R : Ending → World → Prop) (h : vc_ref21_mean x1 x2 sa1 sl1 sc1 x3 x4 x5 w R) : Calls P F.ref21_mean #[.agg #[.int .i64 x1, .int .i64 x2, .slice sa1 sl1 sc1], .int .i64 x3, .int .i64 x4, .int .i64 x5] w R :=
  calls_of_vc (fn := Try.f41) (ac := ac_ref21_mean) (args := [.agg #[.int .i64 x1, .int .i64 x2, .slice sa1 sl1 sc1], .int .i64 x3, .int .i64 x4, .int .i64 x5]) mixed Try.func41 (by kernel_rfl) (cast (by unfold vc_ref21_mean FnVc; kernel_rfl) h)
/-- darkroom/darkroomref09.Pixel -/
def vc_ref09_Pixel (x1 : Int) (x2 : Int) (sa1 : Option Addr) (sl1 sc1 : Nat) (x3 : Int) (x4 : Int) (w : World) (R : Ending → World → Prop) : Prop :=
  ∀ k1 : Nat,
  (w.heap.size ≤ k1) →
  ∀ k2 : Nat,
  (w.heap.size ≤ k2) →
  idx (sa1) (sl1) (IntKind.i64.wrap (4 * IntKind.i64.wrap (IntKind.i64.wrap (x4 * x1) + x3))) (1) fun a1 =>
  ∀ w1 : World,
  (Locl ([k2, k1]) w w1) →
  ∃ n1 : Int,
  (w1.cell? a1 = some (Value.int IntKind.u16 n1)) ∧
  idx (sa1) (sl1) (IntKind.i64.wrap (IntKind.i64.wrap (4 * IntKind.i64.wrap (IntKind.i64.wrap (x4 * x1) + x3)) + 1)) (1) fun a2 =>
  ∃ n2 : Int,
  (w1.cell? a2 = some (Value.int IntKind.u16 n2)) ∧
  idx (sa1) (sl1) (IntKind.i64.wrap (IntKind.i64.wrap (4 * IntKind.i64.wrap (IntKind.i64.wrap (x4 * x1) + x3)) + 2)) (1) fun a3 =>
  ∃ n3 : Int,
  (w1.cell? a3 = some (Value.int IntKind.u16 n3)) ∧
  idx (sa1) (sl1) (IntKind.i64.wrap (IntKind.i64.wrap (4 * IntKind.i64.wrap (IntKind.i64.wrap (x4 * x1) + x3)) + 3)) (1) fun a4 =>
  ∃ n4 : Int,
  (w1.cell? a4 = some (Value.int IntKind.u16 n4)) ∧
  ∀ w2 : World,
  (Locl ([k2, k1]) w1 w2) →
  R (Ending.returned (Value.agg #[Value.int IntKind.u16 n1, Value.int IntKind.u16 n2, Value.int IntKind.u16 n3, Value.int IntKind.u16 n4])) w2
theorem calls_ref09_Pixel (x1 : Int) (x2 : Int) (sa1 : Option Addr) (sl1 sc1 : Nat) (x3 : Int) (x4 : Int) (w : World) (R : Ending → World → Prop) (h : vc_ref09_Pixel x1 x2 sa1 sl1 sc1 x3 x4 w R) : Calls P F.ref09_Pixel #[.agg #[.int .i64 x1, .int .i64 x2, .slice sa1 sl1 sc1], .int .i64 x3, .int .i64 x4] w R :=
  calls_of_vc (fn := Try.f42) (ac := ac_ref09_Pixel) (args := [.agg #[.int .i64 x1, .int .i64 x2, .slice sa1 sl1 sc1], .int .i64 x3, .int .i64 x4]) mixed Try.func42 (by kernel_rfl) (cast (by unfold vc_ref09_Pixel FnVc; kernel_rfl) h)
/-- darkroom/darkroomref21.from -/
def vc_ref21_from (st1 : ByteArray) (sa1 : Option Addr) (sl1 sc1 : Nat) (x1 : Int) (x2 : Int) (x3 : Int) (x4 : Int) (w : World) (R : Ending → World → Prop) : Prop :=
  brB (decide (st1 = { data := #[99, 114, 111, 112] }))
    (idx (sa1) (sl1) (0) (1) fun a1 =>
    ∃ n1 : Int,
    (w.drew.cell? a1 = some (Value.int IntKind.i64 n1)) ∧
    idx (sa1) (sl1) (1) (1) fun a2 =>
    ∃ n2 : Int,
    (w.drew.cell? a2 = some (Value.int IntKind.i64 n2)) ∧
    R (Ending.returned (Value.tuple #[Value.int IntKind.i64 (IntKind.i64.wrap (n1 + x3)), Value.int IntKind.i64 (IntKind.i64.wrap (n2 + x4))])) w.drew)
    (brB (decide (st1 = { data := #[102, 108, 105, 112] }))
      (R (Ending.returned (Value.tuple #[Value.int IntKind.i64 x3, Value.int IntKind.i64 (IntKind.i64.wrap (IntKind.i64.wrap (x2 - 1) - x4))])) w)
      (brB (decide (st1 = { data := #[102, 108, 111, 112] }))
        (R (Ending.returned (Value.tuple #[Value.int IntKind.i64 (IntKind.i64.wrap (IntKind.i64.wrap (x1 - 1) - x3)), Value.int IntKind.i64 x4])) w)
        (brB (decide (st1 = { data := #[114, 111, 116, 97, 116, 101] }))
          (idx (sa1) (sl1) (0) (1) fun a3 =>
          ∃ n3 : Int,
          (w.cell? a3 = some (Value.int IntKind.i64 n3)) ∧
          brB (n3 == 1)
            (R (Ending.returned (Value.tuple #[Value.int IntKind.i64 x4, Value.int IntKind.i64 (IntKind.i64.wrap (IntKind.i64.wrap (x2 - 1) - x3))])) w)
            (idx (sa1) (sl1) (0) (1) fun a4 =>
            ∃ n4 : Int,
            (w.cell? a4 = some (Value.int IntKind.i64 n4)) ∧
            brB (n4 == 2)
              (R (Ending.returned (Value.tuple #[Value.int IntKind.i64 (IntKind.i64.wrap (IntKind.i64.wrap (x1 - 1) - x3)), Value.int IntKind.i64 (IntKind.i64.wrap (IntKind.i64.wrap (x2 - 1) - x4))])) w)
              (R (Ending.returned (Value.tuple #[Value.int IntKind.i64 (IntKind.i64.wrap (IntKind.i64.wrap (x1 - 1) - x4)), Value.int IntKind.i64 x3])) w)))
          (brB (decide (st1 = { data := #[116, 114, 97, 110, 115, 112, 111, 115, 101] }))
            (R (Ending.returned (Value.tuple #[Value.int IntKind.i64 x4, Value.int IntKind.i64 x3])) w)
            (brB (decide (st1 = { data := #[116, 114, 97, 110, 115, 118, 101, 114, 115, 101] }))
              (R (Ending.returned (Value.tuple #[Value.int IntKind.i64 (IntKind.i64.wrap (IntKind.i64.wrap (x1 - 1) - x4)), Value.int IntKind.i64 (IntKind.i64.wrap (IntKind.i64.wrap (x2 - 1) - x3))])) w)
              (brB (decide (st1 = { data := #[114, 111, 108, 108] }))
                (idx (sa1) (sl1) (0) (1) fun a5 =>
                ∃ n5 : Int,
                (w.drew.cell? a5 = some (Value.int IntKind.i64 n5)) ∧
                (x1 ≠ 0) ∧
                (x1 ≠ 0) ∧
                idx (sa1) (sl1) (1) (1) fun a6 =>
                ∃ n6 : Int,
                (w.drew.cell? a6 = some (Value.int IntKind.i64 n6)) ∧
                (x2 ≠ 0) ∧
                (x2 ≠ 0) ∧
                R (Ending.returned (Value.tuple #[Value.int IntKind.i64 (divZ BinOp.rem IntKind.i64 (IntKind.i64.wrap (divZ BinOp.rem IntKind.i64 (IntKind.i64.wrap (x3 - n5)) x1 + x1)) x1), Value.int IntKind.i64 (divZ BinOp.rem IntKind.i64 (IntKind.i64.wrap (divZ BinOp.rem IntKind.i64 (IntKind.i64.wrap (x4 - n6)) x2 + x2)) x2)])) w.drew)
                (brB (decide (st1 = { data := #[114, 101, 115, 105, 122, 101] }))
                  (idx (sa1) (sl1) (0) (1) fun a7 =>
                  ∃ n7 : Int,
                  (w.drew.cell? a7 = some (Value.int IntKind.i64 n7)) ∧
                  (n7 ≠ 0) ∧
                  idx (sa1) (sl1) (1) (1) fun a8 =>
                  ∃ n8 : Int,
                  (w.drew.cell? a8 = some (Value.int IntKind.i64 n8)) ∧
                  (n8 ≠ 0) ∧
                  R (Ending.returned (Value.tuple #[Value.int IntKind.i64 (divZ BinOp.quo IntKind.i64 (IntKind.i64.wrap (x3 * x1)) n7), Value.int IntKind.i64 (divZ BinOp.quo IntKind.i64 (IntKind.i64.wrap (x4 * x2)) n8)])) w.drew)
                  (brB (decide (st1 = { data := #[122, 111, 111, 109] }))
                    (idx (sa1) (sl1) (0) (1) fun a9 =>
                    ∃ n9 : Int,
                    (w.drew.cell? a9 = some (Value.int IntKind.i64 n9)) ∧
                    (n9 ≠ 0) ∧
                    idx (sa1) (sl1) (0) (1) fun a10 =>
                    ∃ n10 : Int,
                    (w.drew.cell? a10 = some (Value.int IntKind.i64 n10)) ∧
                    (n10 ≠ 0) ∧
                    R (Ending.returned (Value.tuple #[Value.int IntKind.i64 (divZ BinOp.quo IntKind.i64 x3 n9), Value.int IntKind.i64 (divZ BinOp.quo IntKind.i64 x4 n10)])) w.drew)
                    (brB (decide (st1 = { data := #[116, 105, 108, 101] }))
                      ((x1 ≠ 0) ∧
                      (x2 ≠ 0) ∧
                      R (Ending.returned (Value.tuple #[Value.int IntKind.i64 (divZ BinOp.rem IntKind.i64 x3 x1), Value.int IntKind.i64 (divZ BinOp.rem IntKind.i64 x4 x2)])) w.drew)
                      (brB (decide (st1 = { data := #[101, 120, 116, 101, 110, 100] }))
                        (idx (sa1) (sl1) (0) (1) fun a11 =>
                        ∃ n11 : Int,
                        (w.drew.cell? a11 = some (Value.int IntKind.i64 n11)) ∧
                        idx (sa1) (sl1) (1) (1) fun a12 =>
                        ∃ n12 : Int,
                        (w.drew.cell? a12 = some (Value.int IntKind.i64 n12)) ∧
                        Calls P F.ref21_near #[Value.int IntKind.i64 (IntKind.i64.wrap (x3 - n11)), Value.int IntKind.i64 x1] (w.drew) fun e1 w1 =>
                        ∃ n13 : Int,
                        (e1 = Ending.returned (Value.int IntKind.i64 n13)) ∧
                        (Keeps (w.drew) w1) ∧
                        Calls P F.ref21_near #[Value.int IntKind.i64 (IntKind.i64.wrap (x4 - n12)), Value.int IntKind.i64 x2] w1 fun e2 w2 =>
                        ∃ n14 : Int,
                        (e2 = Ending.returned (Value.int IntKind.i64 n14)) ∧
                        R (Ending.returned (Value.tuple #[Value.int IntKind.i64 n13, Value.int IntKind.i64 n14])) w2)
                        (R (Ending.returned (Value.tuple #[Value.int IntKind.i64 x3, Value.int IntKind.i64 x4])) w)))))))))))
theorem calls_ref21_from (st1 : ByteArray) (sa1 : Option Addr) (sl1 sc1 : Nat) (x1 : Int) (x2 : Int) (x3 : Int) (x4 : Int) (w : World) (R : Ending → World → Prop) (h : vc_ref21_from st1 sa1 sl1 sc1 x1 x2 x3 x4 w R) : Calls P F.ref21_from #[.string st1, .slice sa1 sl1 sc1, .int .i64 x1, .int .i64 x2, .int .i64 x3, .int .i64 x4] w R :=
  calls_of_vc (fn := Try.f43) (ac := ac_ref21_from) (args := [.string st1, .slice sa1 sl1 sc1, .int .i64 x1, .int .i64 x2, .int .i64 x3, .int .i64 x4]) mixed Try.func43 (by kernel_rfl) (cast (by unfold vc_ref21_from FnVc; kernel_rfl) h)
/-- darkroom/darkroomref09.Add -/
def vc_ref09_Add (x1 : Int) (x2 : Int) (sa1 : Option Addr) (sl1 sc1 : Nat) (x3 : Int) (x4 : Int) (x5 : Int) (x6 : Int) (w : World) (R : Ending → World → Prop) : Prop :=
  ∀ k1 : Nat,
  (w.heap.size ≤ k1) →
  ∀ k2 : Nat,
  (w.heap.size ≤ k2) →
  ∀ k3 : Nat,
  (w.heap.size ≤ k3) →
  ∀ k4 : Nat,
  (w.heap.size ≤ k4) →
  ∀ w1 : World,
  (Locl ([k4, k3, k2, k1]) w w1) →
  appVC (w1) ([(15, k4, [Value.int IntKind.u16 x3, Value.int IntKind.u16 x4, Value.int IntKind.u16 x5, Value.int IntKind.u16 x6]), (4, k3, [Value.int IntKind.i64 0, Value.int IntKind.i64 0, Value.slice none 0 0]), (3, k2, [Value.int IntKind.u16 x3, Value.int IntKind.u16 x4, Value.int IntKind.u16 x5, Value.int IntKind.u16 x6]), (2, k1, [Value.int IntKind.i64 x1, Value.int IntKind.i64 x2, Value.slice sa1 sl1 sc1])]) (sa1) (sl1) (sc1) (4) (1) (2) (54) ([Value.int IntKind.u16 0]) ([Value.int IntKind.u16 x3, Value.int IntKind.u16 x4, Value.int IntKind.u16 x5, Value.int IntKind.u16 x6]) fun p1 k5 k6 w2 =>
  ∀ w3 : World,
  (Locl ([k4, k3, k2, k1]) w2 w3) →
  R (Ending.returned (Value.agg #[Value.int IntKind.i64 x1, Value.int IntKind.i64 x2, Value.slice p1 k5 k6])) w3
theorem calls_ref09_Add (x1 : Int) (x2 : Int) (sa1 : Option Addr) (sl1 sc1 : Nat) (x3 : Int) (x4 : Int) (x5 : Int) (x6 : Int) (w : World) (R : Ending → World → Prop) (h : vc_ref09_Add x1 x2 sa1 sl1 sc1 x3 x4 x5 x6 w R) : Calls P F.ref09_Add #[.agg #[.int .i64 x1, .int .i64 x2, .slice sa1 sl1 sc1], .agg #[.int .u16 x3, .int .u16 x4, .int .u16 x5, .int .u16 x6]] w R :=
  calls_of_vc (fn := Try.f44) (ac := ac_ref09_Add) (args := [.agg #[.int .i64 x1, .int .i64 x2, .slice sa1 sl1 sc1], .agg #[.int .u16 x3, .int .u16 x4, .int .u16 x5, .int .u16 x6]]) mixed Try.func44 (by kernel_rfl) (cast (by unfold vc_ref09_Add FnVc; kernel_rfl) h)
/-- darkroom/raster.colour -/
def vc_raster_colour (sa1 : Option Addr) (sl1 sc1 : Nat) (w : World) (R : Ending → World → Prop) : Prop :=
  ∀ k1 : Nat,
  (w.heap.size ≤ k1) →
  idx (sa1) (sl1) (0) (1) fun a1 =>
  ∀ w1 : World,
  (Locl ([k1]) w w1) →
  ∃ n1 : Int,
  (w1.cell? a1 = some (Value.int IntKind.u16 n1)) ∧
  idx (sa1) (sl1) (1) (1) fun a2 =>
  ∃ n2 : Int,
  (w1.cell? a2 = some (Value.int IntKind.u16 n2)) ∧
  idx (sa1) (sl1) (2) (1) fun a3 =>
  ∃ n3 : Int,
  (w1.cell? a3 = some (Value.int IntKind.u16 n3)) ∧
  idx (sa1) (sl1) (3) (1) fun a4 =>
  ∃ n4 : Int,
  (w1.cell? a4 = some (Value.int IntKind.u16 n4)) ∧
  ∀ w2 : World,
  (Locl ([k1]) w1 w2) →
  R (Ending.returned (Value.agg #[Value.int IntKind.u16 n1, Value.int IntKind.u16 n2, Value.int IntKind.u16 n3, Value.int IntKind.u16 n4])) w2
theorem calls_raster_colour (sa1 : Option Addr) (sl1 sc1 : Nat) (w : World) (R : Ending → World → Prop) (h : vc_raster_colour sa1 sl1 sc1 w R) : Calls P F.raster_colour #[.slice sa1 sl1 sc1] w R :=
  calls_of_vc (fn := Try.f45) (ac := ac_raster_colour) (args := [.slice sa1 sl1 sc1]) mixed Try.func45 (by kernel_rfl) (cast (by unfold vc_raster_colour FnVc; kernel_rfl) h)
/-- darkroom/moves.operators$1 -/
def vc_moves_operators_fn1 (sa1 : Option Addr) (sl1 sc1 : Nat) (x1 : Int) (x2 : Int) (w : World) (R : Ending → World → Prop) : Prop :=
  idx (sa1) (sl1) (2) (1) fun a1 =>
  ∃ n1 : Int,
  (w.drew.cell? a1 = some (Value.int IntKind.i64 n1)) ∧
  idx (sa1) (sl1) (3) (1) fun a2 =>
  ∃ n2 : Int,
  (w.drew.cell? a2 = some (Value.int IntKind.i64 n2)) ∧
  R (Ending.returned (Value.tuple #[Value.int IntKind.i64 n1, Value.int IntKind.i64 n2])) w.drew
theorem calls_moves_operators_fn1 (sa1 : Option Addr) (sl1 sc1 : Nat) (x1 : Int) (x2 : Int) (w : World) (R : Ending → World → Prop) (h : vc_moves_operators_fn1 sa1 sl1 sc1 x1 x2 w R) : Calls P F.moves_operators_fn1 #[.slice sa1 sl1 sc1, .int .i64 x1, .int .i64 x2] w R :=
  calls_of_vc (fn := Try.f46) (ac := ac_moves_operators_fn1) (args := [.slice sa1 sl1 sc1, .int .i64 x1, .int .i64 x2]) mixed Try.func46 (by kernel_rfl) (cast (by unfold vc_moves_operators_fn1 FnVc; kernel_rfl) h)
/-- darkroom/moves.operators$2 -/
def vc_moves_operators_fn2 (sa1 : Option Addr) (sl1 sc1 : Nat) (x1 : Int) (x2 : Int) (x3 : Int) (x4 : Int) (w : World) (R : Ending → World → Prop) : Prop :=
  idx (sa1) (sl1) (0) (1) fun a1 =>
  ∃ n1 : Int,
  (w.drew.cell? a1 = some (Value.int IntKind.i64 n1)) ∧
  idx (sa1) (sl1) (1) (1) fun a2 =>
  ∃ n2 : Int,
  (w.drew.cell? a2 = some (Value.int IntKind.i64 n2)) ∧
  R (Ending.returned (Value.tuple #[Value.int IntKind.i64 (IntKind.i64.wrap (n1 + x3)), Value.int IntKind.i64 (IntKind.i64.wrap (n2 + x4))])) w.drew
theorem calls_moves_operators_fn2 (sa1 : Option Addr) (sl1 sc1 : Nat) (x1 : Int) (x2 : Int) (x3 : Int) (x4 : Int) (w : World) (R : Ending → World → Prop) (h : vc_moves_operators_fn2 sa1 sl1 sc1 x1 x2 x3 x4 w R) : Calls P F.moves_operators_fn2 #[.slice sa1 sl1 sc1, .int .i64 x1, .int .i64 x2, .int .i64 x3, .int .i64 x4] w R :=
  calls_of_vc (fn := Try.f47) (ac := ac_moves_operators_fn2) (args := [.slice sa1 sl1 sc1, .int .i64 x1, .int .i64 x2, .int .i64 x3, .int .i64 x4]) mixed Try.func47 (by kernel_rfl) (cast (by unfold vc_moves_operators_fn2 FnVc; kernel_rfl) h)
/-- darkroom/moves.same -/
def vc_moves_same (sa1 : Option Addr) (sl1 sc1 : Nat) (x1 : Int) (x2 : Int) (w : World) (R : Ending → World → Prop) : Prop :=
  R (Ending.returned (Value.tuple #[Value.int IntKind.i64 x1, Value.int IntKind.i64 x2])) w
theorem calls_moves_same (sa1 : Option Addr) (sl1 sc1 : Nat) (x1 : Int) (x2 : Int) (w : World) (R : Ending → World → Prop) (h : vc_moves_same sa1 sl1 sc1 x1 x2 w R) : Calls P F.moves_same #[.slice sa1 sl1 sc1, .int .i64 x1, .int .i64 x2] w R :=
  calls_of_vc (fn := Try.f48) (ac := ac_moves_same) (args := [.slice sa1 sl1 sc1, .int .i64 x1, .int .i64 x2]) mixed Try.func48 (by kernel_rfl) (cast (by unfold vc_moves_same FnVc; kernel_rfl) h)
/-- darkroom/moves.operators$3 -/
def vc_moves_operators_fn3 (sa1 : Option Addr) (sl1 sc1 : Nat) (x1 : Int) (x2 : Int) (x3 : Int) (x4 : Int) (w : World) (R : Ending → World → Prop) : Prop :=
  R (Ending.returned (Value.tuple #[Value.int IntKind.i64 x3, Value.int IntKind.i64 (IntKind.i64.wrap (IntKind.i64.wrap (x2 - 1) - x4))])) w
theorem calls_moves_operators_fn3 (sa1 : Option Addr) (sl1 sc1 : Nat) (x1 : Int) (x2 : Int) (x3 : Int) (x4 : Int) (w : World) (R : Ending → World → Prop) (h : vc_moves_operators_fn3 sa1 sl1 sc1 x1 x2 x3 x4 w R) : Calls P F.moves_operators_fn3 #[.slice sa1 sl1 sc1, .int .i64 x1, .int .i64 x2, .int .i64 x3, .int .i64 x4] w R :=
  calls_of_vc (fn := Try.f49) (ac := ac_moves_operators_fn3) (args := [.slice sa1 sl1 sc1, .int .i64 x1, .int .i64 x2, .int .i64 x3, .int .i64 x4]) mixed Try.func49 (by kernel_rfl) (cast (by unfold vc_moves_operators_fn3 FnVc; kernel_rfl) h)
/-- darkroom/moves.operators$4 -/
def vc_moves_operators_fn4 (sa1 : Option Addr) (sl1 sc1 : Nat) (x1 : Int) (x2 : Int) (x3 : Int) (x4 : Int) (w : World) (R : Ending → World → Prop) : Prop :=
  R (Ending.returned (Value.tuple #[Value.int IntKind.i64 (IntKind.i64.wrap (IntKind.i64.wrap (x1 - 1) - x3)), Value.int IntKind.i64 x4])) w
theorem calls_moves_operators_fn4 (sa1 : Option Addr) (sl1 sc1 : Nat) (x1 : Int) (x2 : Int) (x3 : Int) (x4 : Int) (w : World) (R : Ending → World → Prop) (h : vc_moves_operators_fn4 sa1 sl1 sc1 x1 x2 x3 x4 w R) : Calls P F.moves_operators_fn4 #[.slice sa1 sl1 sc1, .int .i64 x1, .int .i64 x2, .int .i64 x3, .int .i64 x4] w R :=
  calls_of_vc (fn := Try.f50) (ac := ac_moves_operators_fn4) (args := [.slice sa1 sl1 sc1, .int .i64 x1, .int .i64 x2, .int .i64 x3, .int .i64 x4]) mixed Try.func50 (by kernel_rfl) (cast (by unfold vc_moves_operators_fn4 FnVc; kernel_rfl) h)
/-- darkroom/moves.operators$5 -/
def vc_moves_operators_fn5 (sa1 : Option Addr) (sl1 sc1 : Nat) (x1 : Int) (x2 : Int) (w : World) (R : Ending → World → Prop) : Prop :=
  idx (sa1) (sl1) (0) (1) fun a1 =>
  ∃ n1 : Int,
  (w.cell? a1 = some (Value.int IntKind.i64 n1)) ∧
  brB (n1 == 2)
    (R (Ending.returned (Value.tuple #[Value.int IntKind.i64 x1, Value.int IntKind.i64 x2])) w)
    (R (Ending.returned (Value.tuple #[Value.int IntKind.i64 x2, Value.int IntKind.i64 x1])) w)
theorem calls_moves_operators_fn5 (sa1 : Option Addr) (sl1 sc1 : Nat) (x1 : Int) (x2 : Int) (w : World) (R : Ending → World → Prop) (h : vc_moves_operators_fn5 sa1 sl1 sc1 x1 x2 w R) : Calls P F.moves_operators_fn5 #[.slice sa1 sl1 sc1, .int .i64 x1, .int .i64 x2] w R :=
  calls_of_vc (fn := Try.f51) (ac := ac_moves_operators_fn5) (args := [.slice sa1 sl1 sc1, .int .i64 x1, .int .i64 x2]) mixed Try.func51 (by kernel_rfl) (cast (by unfold vc_moves_operators_fn5 FnVc; kernel_rfl) h)
/-- darkroom/moves.operators$6 -/
def vc_moves_operators_fn6 (sa1 : Option Addr) (sl1 sc1 : Nat) (x1 : Int) (x2 : Int) (x3 : Int) (x4 : Int) (w : World) (R : Ending → World → Prop) : Prop :=
  idx (sa1) (sl1) (0) (1) fun a1 =>
  ∃ n1 : Int,
  (w.cell? a1 = some (Value.int IntKind.i64 n1)) ∧
  brB (n1 == 1)
    (R (Ending.returned (Value.tuple #[Value.int IntKind.i64 x4, Value.int IntKind.i64 (IntKind.i64.wrap (IntKind.i64.wrap (x2 - 1) - x3))])) w)
    (brB (n1 == 2)
      (R (Ending.returned (Value.tuple #[Value.int IntKind.i64 (IntKind.i64.wrap (IntKind.i64.wrap (x1 - 1) - x3)), Value.int IntKind.i64 (IntKind.i64.wrap (IntKind.i64.wrap (x2 - 1) - x4))])) w)
      (R (Ending.returned (Value.tuple #[Value.int IntKind.i64 (IntKind.i64.wrap (IntKind.i64.wrap (x1 - 1) - x4)), Value.int IntKind.i64 x3])) w))
theorem calls_moves_operators_fn6 (sa1 : Option Addr) (sl1 sc1 : Nat) (x1 : Int) (x2 : Int) (x3 : Int) (x4 : Int) (w : World) (R : Ending → World → Prop) (h : vc_moves_operators_fn6 sa1 sl1 sc1 x1 x2 x3 x4 w R) : Calls P F.moves_operators_fn6 #[.slice sa1 sl1 sc1, .int .i64 x1, .int .i64 x2, .int .i64 x3, .int .i64 x4] w R :=
  calls_of_vc (fn := Try.f52) (ac := ac_moves_operators_fn6) (args := [.slice sa1 sl1 sc1, .int .i64 x1, .int .i64 x2, .int .i64 x3, .int .i64 x4]) mixed Try.func52 (by kernel_rfl) (cast (by unfold vc_moves_operators_fn6 FnVc; kernel_rfl) h)
/-- darkroom/moves.aside -/
def vc_moves_aside (sa1 : Option Addr) (sl1 sc1 : Nat) (x1 : Int) (x2 : Int) (w : World) (R : Ending → World → Prop) : Prop :=
  R (Ending.returned (Value.tuple #[Value.int IntKind.i64 x2, Value.int IntKind.i64 x1])) w
theorem calls_moves_aside (sa1 : Option Addr) (sl1 sc1 : Nat) (x1 : Int) (x2 : Int) (w : World) (R : Ending → World → Prop) (h : vc_moves_aside sa1 sl1 sc1 x1 x2 w R) : Calls P F.moves_aside #[.slice sa1 sl1 sc1, .int .i64 x1, .int .i64 x2] w R :=
  calls_of_vc (fn := Try.f53) (ac := ac_moves_aside) (args := [.slice sa1 sl1 sc1, .int .i64 x1, .int .i64 x2]) mixed Try.func53 (by kernel_rfl) (cast (by unfold vc_moves_aside FnVc; kernel_rfl) h)
/-- darkroom/moves.operators$7 -/
def vc_moves_operators_fn7 (sa1 : Option Addr) (sl1 sc1 : Nat) (x1 : Int) (x2 : Int) (x3 : Int) (x4 : Int) (w : World) (R : Ending → World → Prop) : Prop :=
  R (Ending.returned (Value.tuple #[Value.int IntKind.i64 x4, Value.int IntKind.i64 x3])) w
theorem calls_moves_operators_fn7 (sa1 : Option Addr) (sl1 sc1 : Nat) (x1 : Int) (x2 : Int) (x3 : Int) (x4 : Int) (w : World) (R : Ending → World → Prop) (h : vc_moves_operators_fn7 sa1 sl1 sc1 x1 x2 x3 x4 w R) : Calls P F.moves_operators_fn7 #[.slice sa1 sl1 sc1, .int .i64 x1, .int .i64 x2, .int .i64 x3, .int .i64 x4] w R :=
  calls_of_vc (fn := Try.f54) (ac := ac_moves_operators_fn7) (args := [.slice sa1 sl1 sc1, .int .i64 x1, .int .i64 x2, .int .i64 x3, .int .i64 x4]) mixed Try.func54 (by kernel_rfl) (cast (by unfold vc_moves_operators_fn7 FnVc; kernel_rfl) h)
/-- darkroom/moves.operators$8 -/
def vc_moves_operators_fn8 (sa1 : Option Addr) (sl1 sc1 : Nat) (x1 : Int) (x2 : Int) (x3 : Int) (x4 : Int) (w : World) (R : Ending → World → Prop) : Prop :=
  R (Ending.returned (Value.tuple #[Value.int IntKind.i64 (IntKind.i64.wrap (IntKind.i64.wrap (x1 - 1) - x4)), Value.int IntKind.i64 (IntKind.i64.wrap (IntKind.i64.wrap (x2 - 1) - x3))])) w
theorem calls_moves_operators_fn8 (sa1 : Option Addr) (sl1 sc1 : Nat) (x1 : Int) (x2 : Int) (x3 : Int) (x4 : Int) (w : World) (R : Ending → World → Prop) (h : vc_moves_operators_fn8 sa1 sl1 sc1 x1 x2 x3 x4 w R) : Calls P F.moves_operators_fn8 #[.slice sa1 sl1 sc1, .int .i64 x1, .int .i64 x2, .int .i64 x3, .int .i64 x4] w R :=
  calls_of_vc (fn := Try.f55) (ac := ac_moves_operators_fn8) (args := [.slice sa1 sl1 sc1, .int .i64 x1, .int .i64 x2, .int .i64 x3, .int .i64 x4]) mixed Try.func55 (by kernel_rfl) (cast (by unfold vc_moves_operators_fn8 FnVc; kernel_rfl) h)
/-- darkroom/moves.operators$9 -/
def vc_moves_operators_fn9 (sa1 : Option Addr) (sl1 sc1 : Nat) (x1 : Int) (x2 : Int) (x3 : Int) (x4 : Int) (w : World) (R : Ending → World → Prop) : Prop :=
  idx (sa1) (sl1) (0) (1) fun a1 =>
  ∃ n1 : Int,
  (w.drew.cell? a1 = some (Value.int IntKind.i64 n1)) ∧
  idx (sa1) (sl1) (1) (1) fun a2 =>
  ∃ n2 : Int,
  (w.drew.cell? a2 = some (Value.int IntKind.i64 n2)) ∧
  Calls P F.moves_round #[Value.int IntKind.i64 (IntKind.i64.wrap (x3 - n1)), Value.int IntKind.i64 x1] (w.drew) fun e1 w1 =>
  ∃ n3 : Int,
  (e1 = Ending.returned (Value.int IntKind.i64 n3)) ∧
  (Keeps (w.drew) w1) ∧
  Calls P F.moves_round #[Value.int IntKind.i64 (IntKind.i64.wrap (x4 - n2)), Value.int IntKind.i64 x2] w1 fun e2 w2 =>
  ∃ n4 : Int,
  (e2 = Ending.returned (Value.int IntKind.i64 n4)) ∧
  R (Ending.returned (Value.tuple #[Value.int IntKind.i64 n3, Value.int IntKind.i64 n4])) w2
theorem calls_moves_operators_fn9 (sa1 : Option Addr) (sl1 sc1 : Nat) (x1 : Int) (x2 : Int) (x3 : Int) (x4 : Int) (w : World) (R : Ending → World → Prop) (h : vc_moves_operators_fn9 sa1 sl1 sc1 x1 x2 x3 x4 w R) : Calls P F.moves_operators_fn9 #[.slice sa1 sl1 sc1, .int .i64 x1, .int .i64 x2, .int .i64 x3, .int .i64 x4] w R :=
  calls_of_vc (fn := Try.f56) (ac := ac_moves_operators_fn9) (args := [.slice sa1 sl1 sc1, .int .i64 x1, .int .i64 x2, .int .i64 x3, .int .i64 x4]) mixed Try.func56 (by kernel_rfl) (cast (by unfold vc_moves_operators_fn9 FnVc; kernel_rfl) h)
/-- darkroom/moves.round -/
def vc_moves_round (x1 : Int) (x2 : Int) (w : World) (R : Ending → World → Prop) : Prop :=
  (x2 ≠ 0) ∧
  brB (decide (divZ BinOp.rem IntKind.i64 x1 x2 < 0))
    (R (Ending.returned (Value.int IntKind.i64 (IntKind.i64.wrap (divZ BinOp.rem IntKind.i64 x1 x2 + x2)))) w)
    (R (Ending.returned (Value.int IntKind.i64 (divZ BinOp.rem IntKind.i64 x1 x2))) w)
theorem calls_moves_round (x1 : Int) (x2 : Int) (w : World) (R : Ending → World → Prop) (h : vc_moves_round x1 x2 w R) : Calls P F.moves_round #[.int .i64 x1, .int .i64 x2] w R :=
  calls_of_vc (fn := Try.f57) (ac := ac_moves_round) (args := [.int .i64 x1, .int .i64 x2]) mixed Try.func57 (by kernel_rfl) (cast (by unfold vc_moves_round FnVc; kernel_rfl) h)
/-- darkroom/moves.operators$10 -/
def vc_moves_operators_fn10 (sa1 : Option Addr) (sl1 sc1 : Nat) (x1 : Int) (x2 : Int) (w : World) (R : Ending → World → Prop) : Prop :=
  idx (sa1) (sl1) (0) (1) fun a1 =>
  ∃ n1 : Int,
  (w.drew.cell? a1 = some (Value.int IntKind.i64 n1)) ∧
  idx (sa1) (sl1) (1) (1) fun a2 =>
  ∃ n2 : Int,
  (w.drew.cell? a2 = some (Value.int IntKind.i64 n2)) ∧
  R (Ending.returned (Value.tuple #[Value.int IntKind.i64 n1, Value.int IntKind.i64 n2])) w.drew
theorem calls_moves_operators_fn10 (sa1 : Option Addr) (sl1 sc1 : Nat) (x1 : Int) (x2 : Int) (w : World) (R : Ending → World → Prop) (h : vc_moves_operators_fn10 sa1 sl1 sc1 x1 x2 w R) : Calls P F.moves_operators_fn10 #[.slice sa1 sl1 sc1, .int .i64 x1, .int .i64 x2] w R :=
  calls_of_vc (fn := Try.f58) (ac := ac_moves_operators_fn10) (args := [.slice sa1 sl1 sc1, .int .i64 x1, .int .i64 x2]) mixed Try.func58 (by kernel_rfl) (cast (by unfold vc_moves_operators_fn10 FnVc; kernel_rfl) h)
/-- darkroom/moves.operators$11 -/
def vc_moves_operators_fn11 (sa1 : Option Addr) (sl1 sc1 : Nat) (x1 : Int) (x2 : Int) (x3 : Int) (x4 : Int) (w : World) (R : Ending → World → Prop) : Prop :=
  idx (sa1) (sl1) (0) (1) fun a1 =>
  ∃ n1 : Int,
  (w.drew.cell? a1 = some (Value.int IntKind.i64 n1)) ∧
  (n1 ≠ 0) ∧
  idx (sa1) (sl1) (1) (1) fun a2 =>
  ∃ n2 : Int,
  (w.drew.cell? a2 = some (Value.int IntKind.i64 n2)) ∧
  (n2 ≠ 0) ∧
  R (Ending.returned (Value.tuple #[Value.int IntKind.i64 (divZ BinOp.quo IntKind.i64 (IntKind.i64.wrap (x3 * x1)) n1), Value.int IntKind.i64 (divZ BinOp.quo IntKind.i64 (IntKind.i64.wrap (x4 * x2)) n2)])) w.drew
theorem calls_moves_operators_fn11 (sa1 : Option Addr) (sl1 sc1 : Nat) (x1 : Int) (x2 : Int) (x3 : Int) (x4 : Int) (w : World) (R : Ending → World → Prop) (h : vc_moves_operators_fn11 sa1 sl1 sc1 x1 x2 x3 x4 w R) : Calls P F.moves_operators_fn11 #[.slice sa1 sl1 sc1, .int .i64 x1, .int .i64 x2, .int .i64 x3, .int .i64 x4] w R :=
  calls_of_vc (fn := Try.f59) (ac := ac_moves_operators_fn11) (args := [.slice sa1 sl1 sc1, .int .i64 x1, .int .i64 x2, .int .i64 x3, .int .i64 x4]) mixed Try.func59 (by kernel_rfl) (cast (by unfold vc_moves_operators_fn11 FnVc; kernel_rfl) h)
/-- darkroom/moves.operators$12 -/
def vc_moves_operators_fn12 (sa1 : Option Addr) (sl1 sc1 : Nat) (x1 : Int) (x2 : Int) (w : World) (R : Ending → World → Prop) : Prop :=
  idx (sa1) (sl1) (0) (1) fun a1 =>
  ∃ n1 : Int,
  (w.drew.cell? a1 = some (Value.int IntKind.i64 n1)) ∧
  idx (sa1) (sl1) (0) (1) fun a2 =>
  ∃ n2 : Int,
  (w.drew.cell? a2 = some (Value.int IntKind.i64 n2)) ∧
  R (Ending.returned (Value.tuple #[Value.int IntKind.i64 (IntKind.i64.wrap (n1 * x1)), Value.int IntKind.i64 (IntKind.i64.wrap (n2 * x2))])) w.drew
theorem calls_moves_operators_fn12 (sa1 : Option Addr) (sl1 sc1 : Nat) (x1 : Int) (x2 : Int) (w : World) (R : Ending → World → Prop) (h : vc_moves_operators_fn12 sa1 sl1 sc1 x1 x2 w R) : Calls P F.moves_operators_fn12 #[.slice sa1 sl1 sc1, .int .i64 x1, .int .i64 x2] w R :=
  calls_of_vc (fn := Try.f60) (ac := ac_moves_operators_fn12) (args := [.slice sa1 sl1 sc1, .int .i64 x1, .int .i64 x2]) mixed Try.func60 (by kernel_rfl) (cast (by unfold vc_moves_operators_fn12 FnVc; kernel_rfl) h)
/-- darkroom/moves.operators$13 -/
def vc_moves_operators_fn13 (sa1 : Option Addr) (sl1 sc1 : Nat) (x1 : Int) (x2 : Int) (x3 : Int) (x4 : Int) (w : World) (R : Ending → World → Prop) : Prop :=
  idx (sa1) (sl1) (0) (1) fun a1 =>
  ∃ n1 : Int,
  (w.drew.cell? a1 = some (Value.int IntKind.i64 n1)) ∧
  (n1 ≠ 0) ∧
  idx (sa1) (sl1) (0) (1) fun a2 =>
  ∃ n2 : Int,
  (w.drew.cell? a2 = some (Value.int IntKind.i64 n2)) ∧
  (n2 ≠ 0) ∧
  R (Ending.returned (Value.tuple #[Value.int IntKind.i64 (divZ BinOp.quo IntKind.i64 x3 n1), Value.int IntKind.i64 (divZ BinOp.quo IntKind.i64 x4 n2)])) w.drew
theorem calls_moves_operators_fn13 (sa1 : Option Addr) (sl1 sc1 : Nat) (x1 : Int) (x2 : Int) (x3 : Int) (x4 : Int) (w : World) (R : Ending → World → Prop) (h : vc_moves_operators_fn13 sa1 sl1 sc1 x1 x2 x3 x4 w R) : Calls P F.moves_operators_fn13 #[.slice sa1 sl1 sc1, .int .i64 x1, .int .i64 x2, .int .i64 x3, .int .i64 x4] w R :=
  calls_of_vc (fn := Try.f61) (ac := ac_moves_operators_fn13) (args := [.slice sa1 sl1 sc1, .int .i64 x1, .int .i64 x2, .int .i64 x3, .int .i64 x4]) mixed Try.func61 (by kernel_rfl) (cast (by unfold vc_moves_operators_fn13 FnVc; kernel_rfl) h)
/-- darkroom/moves.operators$14 -/
def vc_moves_operators_fn14 (sa1 : Option Addr) (sl1 sc1 : Nat) (x1 : Int) (x2 : Int) (w : World) (R : Ending → World → Prop) : Prop :=
  idx (sa1) (sl1) (0) (1) fun a1 =>
  ∃ n1 : Int,
  (w.drew.cell? a1 = some (Value.int IntKind.i64 n1)) ∧
  idx (sa1) (sl1) (1) (1) fun a2 =>
  ∃ n2 : Int,
  (w.drew.cell? a2 = some (Value.int IntKind.i64 n2)) ∧
  R (Ending.returned (Value.tuple #[Value.int IntKind.i64 (IntKind.i64.wrap (n1 * x1)), Value.int IntKind.i64 (IntKind.i64.wrap (n2 * x2))])) w.drew
theorem calls_moves_operators_fn14 (sa1 : Option Addr) (sl1 sc1 : Nat) (x1 : Int) (x2 : Int) (w : World) (R : Ending → World → Prop) (h : vc_moves_operators_fn14 sa1 sl1 sc1 x1 x2 w R) : Calls P F.moves_operators_fn14 #[.slice sa1 sl1 sc1, .int .i64 x1, .int .i64 x2] w R :=
  calls_of_vc (fn := Try.f62) (ac := ac_moves_operators_fn14) (args := [.slice sa1 sl1 sc1, .int .i64 x1, .int .i64 x2]) mixed Try.func62 (by kernel_rfl) (cast (by unfold vc_moves_operators_fn14 FnVc; kernel_rfl) h)
/-- darkroom/moves.operators$15 -/
def vc_moves_operators_fn15 (sa1 : Option Addr) (sl1 sc1 : Nat) (x1 : Int) (x2 : Int) (x3 : Int) (x4 : Int) (w : World) (R : Ending → World → Prop) : Prop :=
  (x1 ≠ 0) ∧
  (x2 ≠ 0) ∧
  R (Ending.returned (Value.tuple #[Value.int IntKind.i64 (divZ BinOp.rem IntKind.i64 x3 x1), Value.int IntKind.i64 (divZ BinOp.rem IntKind.i64 x4 x2)])) w.drew
theorem calls_moves_operators_fn15 (sa1 : Option Addr) (sl1 sc1 : Nat) (x1 : Int) (x2 : Int) (x3 : Int) (x4 : Int) (w : World) (R : Ending → World → Prop) (h : vc_moves_operators_fn15 sa1 sl1 sc1 x1 x2 x3 x4 w R) : Calls P F.moves_operators_fn15 #[.slice sa1 sl1 sc1, .int .i64 x1, .int .i64 x2, .int .i64 x3, .int .i64 x4] w R :=
  calls_of_vc (fn := Try.f63) (ac := ac_moves_operators_fn15) (args := [.slice sa1 sl1 sc1, .int .i64 x1, .int .i64 x2, .int .i64 x3, .int .i64 x4]) mixed Try.func63 (by kernel_rfl) (cast (by unfold vc_moves_operators_fn15 FnVc; kernel_rfl) h)
/-- darkroom/moves.operators$16 -/
def vc_moves_operators_fn16 (sa1 : Option Addr) (sl1 sc1 : Nat) (x1 : Int) (x2 : Int) (w : World) (R : Ending → World → Prop) : Prop :=
  idx (sa1) (sl1) (0) (1) fun a1 =>
  ∃ n1 : Int,
  (w.drew.cell? a1 = some (Value.int IntKind.i64 n1)) ∧
  idx (sa1) (sl1) (2) (1) fun a2 =>
  ∃ n2 : Int,
  (w.drew.cell? a2 = some (Value.int IntKind.i64 n2)) ∧
  idx (sa1) (sl1) (1) (1) fun a3 =>
  ∃ n3 : Int,
  (w.drew.cell? a3 = some (Value.int IntKind.i64 n3)) ∧
  idx (sa1) (sl1) (3) (1) fun a4 =>
  ∃ n4 : Int,
  (w.drew.cell? a4 = some (Value.int IntKind.i64 n4)) ∧
  R (Ending.returned (Value.tuple #[Value.int IntKind.i64 (IntKind.i64.wrap (IntKind.i64.wrap (n1 + x1) + n2)), Value.int IntKind.i64 (IntKind.i64.wrap (IntKind.i64.wrap (n3 + x2) + n4))])) w.drew
theorem calls_moves_operators_fn16 (sa1 : Option Addr) (sl1 sc1 : Nat) (x1 : Int) (x2 : Int) (w : World) (R : Ending → World → Prop) (h : vc_moves_operators_fn16 sa1 sl1 sc1 x1 x2 w R) : Calls P F.moves_operators_fn16 #[.slice sa1 sl1 sc1, .int .i64 x1, .int .i64 x2] w R :=
  calls_of_vc (fn := Try.f64) (ac := ac_moves_operators_fn16) (args := [.slice sa1 sl1 sc1, .int .i64 x1, .int .i64 x2]) mixed Try.func64 (by kernel_rfl) (cast (by unfold vc_moves_operators_fn16 FnVc; kernel_rfl) h)
/-- darkroom/moves.operators$17 -/
def vc_moves_operators_fn17 (sa1 : Option Addr) (sl1 sc1 : Nat) (x1 : Int) (x2 : Int) (x3 : Int) (x4 : Int) (w : World) (R : Ending → World → Prop) : Prop :=
  idx (sa1) (sl1) (0) (1) fun a1 =>
  ∃ n1 : Int,
  (w.drew.cell? a1 = some (Value.int IntKind.i64 n1)) ∧
  idx (sa1) (sl1) (1) (1) fun a2 =>
  ∃ n2 : Int,
  (w.drew.cell? a2 = some (Value.int IntKind.i64 n2)) ∧
  Calls P F.moves_near #[Value.int IntKind.i64 (IntKind.i64.wrap (x3 - n1)), Value.int IntKind.i64 x1] (w.drew) fun e1 w1 =>
  ∃ n3 : Int,
  (e1 = Ending.returned (Value.int IntKind.i64 n3)) ∧
  (Keeps (w.drew) w1) ∧
  Calls P F.moves_near #[Value.int IntKind.i64 (IntKind.i64.wrap (x4 - n2)), Value.int IntKind.i64 x2] w1 fun e2 w2 =>
  ∃ n4 : Int,
  (e2 = Ending.returned (Value.int IntKind.i64 n4)) ∧
  R (Ending.returned (Value.tuple #[Value.int IntKind.i64 n3, Value.int IntKind.i64 n4])) w2
theorem calls_moves_operators_fn17 (sa1 : Option Addr) (sl1 sc1 : Nat) (x1 : Int) (x2 : Int) (x3 : Int) (x4 : Int) (w : World) (R : Ending → World → Prop) (h : vc_moves_operators_fn17 sa1 sl1 sc1 x1 x2 x3 x4 w R) : Calls P F.moves_operators_fn17 #[.slice sa1 sl1 sc1, .int .i64 x1, .int .i64 x2, .int .i64 x3, .int .i64 x4] w R :=
  calls_of_vc (fn := Try.f65) (ac := ac_moves_operators_fn17) (args := [.slice sa1 sl1 sc1, .int .i64 x1, .int .i64 x2, .int .i64 x3, .int .i64 x4]) mixed Try.func65 (by kernel_rfl) (cast (by unfold vc_moves_operators_fn17 FnVc; kernel_rfl) h)
/-- darkroom/moves.near -/
def vc_moves_near (x1 : Int) (x2 : Int) (w : World) (R : Ending → World → Prop) : Prop :=
  R (Ending.returned (Value.int IntKind.i64 (min (max x1 0) (IntKind.i64.wrap (x2 - 1))))) w
theorem calls_moves_near (x1 : Int) (x2 : Int) (w : World) (R : Ending → World → Prop) (h : vc_moves_near x1 x2 w R) : Calls P F.moves_near #[.int .i64 x1, .int .i64 x2] w R :=
  calls_of_vc (fn := Try.f66) (ac := ac_moves_near) (args := [.int .i64 x1, .int .i64 x2]) mixed Try.func66 (by kernel_rfl) (cast (by unfold vc_moves_near FnVc; kernel_rfl) h)
/-- darkroom/moves.operators$18 -/
def vc_moves_operators_fn18 (sa1 : Option Addr) (sl1 sc1 : Nat) (x1 : Int) (x2 : Int) (w : World) (R : Ending → World → Prop) : Prop :=
  idx (sa1) (sl1) (0) (1) fun a1 =>
  ∃ n1 : Int,
  (w.drew.cell? a1 = some (Value.int IntKind.i64 n1)) ∧
  idx (sa1) (sl1) (0) (1) fun a2 =>
  ∃ n2 : Int,
  (w.drew.cell? a2 = some (Value.int IntKind.i64 n2)) ∧
  R (Ending.returned (Value.tuple #[Value.int IntKind.i64 (IntKind.i64.wrap (x1 + IntKind.i64.wrap (2 * n1))), Value.int IntKind.i64 (IntKind.i64.wrap (x2 + IntKind.i64.wrap (2 * n2)))])) w.drew
theorem calls_moves_operators_fn18 (sa1 : Option Addr) (sl1 sc1 : Nat) (x1 : Int) (x2 : Int) (w : World) (R : Ending → World → Prop) (h : vc_moves_operators_fn18 sa1 sl1 sc1 x1 x2 w R) : Calls P F.moves_operators_fn18 #[.slice sa1 sl1 sc1, .int .i64 x1, .int .i64 x2] w R :=
  calls_of_vc (fn := Try.f67) (ac := ac_moves_operators_fn18) (args := [.slice sa1 sl1 sc1, .int .i64 x1, .int .i64 x2]) mixed Try.func67 (by kernel_rfl) (cast (by unfold vc_moves_operators_fn18 FnVc; kernel_rfl) h)
/-- darkroom/moves.operators$19 -/
def vc_moves_operators_fn19 (sa1 : Option Addr) (sl1 sc1 : Nat) (x1 : Int) (x2 : Int) (x3 : Int) (x4 : Int) (w : World) (R : Ending → World → Prop) : Prop :=
  idx (sa1) (sl1) (0) (1) fun a1 =>
  ∃ n1 : Int,
  (w.drew.cell? a1 = some (Value.int IntKind.i64 n1)) ∧
  idx (sa1) (sl1) (0) (1) fun a2 =>
  ∃ n2 : Int,
  (w.drew.cell? a2 = some (Value.int IntKind.i64 n2)) ∧
  R (Ending.returned (Value.tuple #[Value.int IntKind.i64 (IntKind.i64.wrap (x3 - n1)), Value.int IntKind.i64 (IntKind.i64.wrap (x4 - n2))])) w.drew
theorem calls_moves_operators_fn19 (sa1 : Option Addr) (sl1 sc1 : Nat) (x1 : Int) (x2 : Int) (x3 : Int) (x4 : Int) (w : World) (R : Ending → World → Prop) (h : vc_moves_operators_fn19 sa1 sl1 sc1 x1 x2 x3 x4 w R) : Calls P F.moves_operators_fn19 #[.slice sa1 sl1 sc1, .int .i64 x1, .int .i64 x2, .int .i64 x3, .int .i64 x4] w R :=
  calls_of_vc (fn := Try.f68) (ac := ac_moves_operators_fn19) (args := [.slice sa1 sl1 sc1, .int .i64 x1, .int .i64 x2, .int .i64 x3, .int .i64 x4]) mixed Try.func68 (by kernel_rfl) (cast (by unfold vc_moves_operators_fn19 FnVc; kernel_rfl) h)
/-- darkroom/moves.operators$20 -/
def vc_moves_operators_fn20 (sa1 : Option Addr) (sl1 sc1 : Nat) (x1 : Int) (x2 : Int) (w : World) (R : Ending → World → Prop) : Prop :=
  idx (sa1) (sl1) (0) (1) fun a1 =>
  ∃ n1 : Int,
  (w.drew.cell? a1 = some (Value.int IntKind.i64 n1)) ∧
  idx (sa1) (sl1) (0) (1) fun a2 =>
  ∃ n2 : Int,
  (w.drew.cell? a2 = some (Value.int IntKind.i64 n2)) ∧
  (n2 ≠ 0) ∧
  idx (sa1) (sl1) (0) (1) fun a3 =>
  ∃ n3 : Int,
  (w.drew.cell? a3 = some (Value.int IntKind.i64 n3)) ∧
  idx (sa1) (sl1) (0) (1) fun a4 =>
  ∃ n4 : Int,
  (w.drew.cell? a4 = some (Value.int IntKind.i64 n4)) ∧
  (n4 ≠ 0) ∧
  R (Ending.returned (Value.tuple #[Value.int IntKind.i64 (divZ BinOp.quo IntKind.i64 (IntKind.i64.wrap (IntKind.i64.wrap (x1 + n1) - 1)) n2), Value.int IntKind.i64 (divZ BinOp.quo IntKind.i64 (IntKind.i64.wrap (IntKind.i64.wrap (x2 + n3) - 1)) n4)])) w.drew
theorem calls_moves_operators_fn20 (sa1 : Option Addr) (sl1 sc1 : Nat) (x1 : Int) (x2 : Int) (w : World) (R : Ending → World → Prop) (h : vc_moves_operators_fn20 sa1 sl1 sc1 x1 x2 w R) : Calls P F.moves_operators_fn20 #[.slice sa1 sl1 sc1, .int .i64 x1, .int .i64 x2] w R :=
  calls_of_vc (fn := Try.f69) (ac := ac_moves_operators_fn20) (args := [.slice sa1 sl1 sc1, .int .i64 x1, .int .i64 x2]) mixed Try.func69 (by kernel_rfl) (cast (by unfold vc_moves_operators_fn20 FnVc; kernel_rfl) h)
/-- darkroom/raster.Grid -/
def vc_raster_Grid (x1 : Int) (x2 : Int) (sa1 : Option Addr) (sl1 sc1 : Nat) (w : World) (R : Ending → World → Prop) : Prop :=
  ∀ k1 : Nat,
  (w.heap.size ≤ k1) →
  ∀ w1 : World,
  (Locl ([k1]) w w1) →
  Calls P F.raster_Good #[Value.agg #[Value.int IntKind.i64 x1, Value.int IntKind.i64 x2, Value.slice sa1 sl1 sc1]] w1 fun e1 w2 =>
  ∃ c1 : Bool,
  (e1 = Ending.returned (Value.bool c1)) ∧
  (Keep ([k1]) w1 w2) ∧
  brB (!c1)
    (R (Ending.returned (Value.tuple #[Value.pointer none, Value.int IntKind.i64 6])) w2)
    (((0 : Int) ≤ 0) ∧
    (0 ≤ IntKind.i64.wrap (x1 * x2)) ∧
    (IntKind.i64.wrap (x1 * x2) * 8 ≤ 281474976710656) ∧
    (IntKind.i64.wrap (x1 * x2) < 4611686018427387904) ∧
    ∀ k2 : Nat,
    ∀ w3 : World,
    (New w2 (Obj.cells (mkCells [Value.int IntKind.u16 0, Value.int IntKind.u16 0, Value.int IntKind.u16 0, Value.int IntKind.u16 0] (IntKind.i64.wrap (x1 * x2)).toNat) 59) k2 w3) →
    ∀ k3 : Nat,
    (w3.heap.size ≤ k3) →
    ∀ w4 : World,
    (Locl ([k3, k1]) w3 w4) →
    Calls P F.slices_Chunk_uint16 #[Value.slice sa1 sl1 sc1, Value.int IntKind.i64 4] w4 fun e2 w5 =>
    ∃ y1 : FuncId,
    ∃ y2 : Array Value,
    ∃ y3 : Array Value,
    (e2 = Ending.returned (Value.func (Fn.func y1) y2 y3)) ∧
    (Keep ([k3, k1]) w4 w5) ∧
    ∀ k4 : Nat,
    ∀ w6 : World,
    (Rf w5 w6 k4) →
    ∀ I1 : List Value → World → Prop,
    ∀ Z1 : Exit → List Value → World → Prop,
    (∀ l1 : List Value,
    ∀ w7 : World,
    ∀ w8 : World,
    (I1 l1 w7) →
    (Keep ([k4, w5.heap.size, k3, k1]) w7 w8) →
    I1 l1 w8) →
    (∀ y4 : Exit,
    ∀ l2 : List Value,
    ∀ w9 : World,
    ∀ w10 : World,
    (Z1 y4 l2 w9) →
    (Keep ([k4, w5.heap.size, k3, k1]) w9 w10) →
    Z1 y4 l2 w10) →
    (I1 [Value.slice (some { block := k2, off := 0 }) 0 (IntKind.i64.wrap (x1 * x2)).toNat] w6) →
    (∀ p1 : Option Addr,
    ∀ k5 : Nat,
    ∀ k6 : Nat,
    ∀ p2 : Option Addr,
    ∀ k7 : Nat,
    ∀ k8 : Nat,
    ∀ w11 : World,
    ∀ I2 : Ending → World → Prop,
    (I1 [Value.slice p1 k5 k6] w11) →
    (∀ y5 : Obj,
    ∀ y6 : Obj,
    ∀ w12 : World,
    (Put k4 w11 w12) →
    Calls P F.raster_colour #[Value.slice p2 k7 k8] (w12.drew) fun e3 w13 =>
    ∃ n1 : Int,
    ∃ n2 : Int,
    ∃ n3 : Int,
    ∃ n4 : Int,
    (e3 = Ending.returned (Value.agg #[Value.int IntKind.u16 n1, Value.int IntKind.u16 n2, Value.int IntKind.u16 n3, Value.int IntKind.u16 n4])) ∧
    (Keep ([k4, w5.heap.size, k3, k1]) (w12.drew) w13) ∧
    (Keeps (w12.drew) w13) ∧
    ∀ k9 : Nat,
    (w13.heap.size ≤ k9) →
    ∀ w14 : World,
    (Locl ([k9, k3, k1]) w13 w14) →
    appVC (w14) ([(22, k9, [Value.int IntKind.u16 n1, Value.int IntKind.u16 n2, Value.int IntKind.u16 n3, Value.int IntKind.u16 n4]), (4, k3, [Value.slice p1 k5 k6]), (1, k1, [Value.int IntKind.i64 x1, Value.int IntKind.i64 x2, Value.slice sa1 sl1 sc1])]) (p1) (k5) (k6) (1) (4) (8) (59) ([Value.int IntKind.u16 0, Value.int IntKind.u16 0, Value.int IntKind.u16 0, Value.int IntKind.u16 0]) ([Value.int IntKind.u16 n1, Value.int IntKind.u16 n2, Value.int IntKind.u16 n3, Value.int IntKind.u16 n4]) fun p3 k10 k11 w15 =>
    ∀ w16 : World,
    (Locl ([k9, k3, k1]) w15 w16) →
    ∀ w17 : World,
    (Put k4 w16 w17) →
    (I1 [Value.slice p3 k10 k11] w17) →
    I2 (Ending.returned (Value.bool true)) w17) →
    YieldAt Fence.wide 0 P (k4) #[Value.slice p2 k7 k8] (w11) I2) →
    callF P (Value.func (Fn.func y1) y2 y3) [Value.func (Fn.yield k4) #[] #[]] w6 fun e4 w18 =>
    ∃ v1 : Value,
    (e4 = Ending.returned v1) ∧
    ((∃ p4 : Option Addr,
      ∃ k12 : Nat,
      ∃ k13 : Nat,
      (I1 [Value.slice p4 k12 k13] w18) ∧
      ∀ w19 : World,
      (Put k4 w18 w19) →
      Calls P F.grid_Of_api_Color #[Value.int IntKind.i64 x1, Value.int IntKind.i64 x2, Value.slice p4 k12 k13] w19 fun e5 w20 =>
      ∃ p5 : Option Addr,
      ∃ n5 : Int,
      (e5 = Ending.returned (Value.tuple #[Value.pointer p5, Value.int IntKind.i64 n5])) ∧
      (Keep ([w5.heap.size, k3, k1]) w19 w20) ∧
      ∀ w21 : World,
      (Put (w5.heap.size) w20 w21) →
      R (Ending.returned (Value.tuple #[Value.pointer p5, Value.int IntKind.i64 n5])) w21) ∨
    (False)))
theorem calls_raster_Grid (x1 : Int) (x2 : Int) (sa1 : Option Addr) (sl1 sc1 : Nat) (w : World) (R : Ending → World → Prop) (h : vc_raster_Grid x1 x2 sa1 sl1 sc1 w R) : Calls P F.raster_Grid #[.agg #[.int .i64 x1, .int .i64 x2, .slice sa1 sl1 sc1]] w R :=
  calls_of_vc (fn := Try.f70) (ac := ac_raster_Grid) (args := [.agg #[.int .i64 x1, .int .i64 x2, .slice sa1 sl1 sc1]]) mixed Try.func70 (by kernel_rfl) (cast (by unfold vc_raster_Grid FnVc; kernel_rfl) h)
/-- (*darkroom/grid.Grid[darkroom/api.Color]).At -/
def vc_grid_Grid_api_Color_At (q1 : Option Addr) (x1 : Int) (x2 : Int) (w : World) (R : Ending → World → Prop) : Prop :=
  ∀ k1 : Nat,
  (w.heap.size ≤ k1) →
  ∀ w1 : World,
  (Locl ([k1]) w w1) →
  Calls P F.grid_Grid_api_Color_has #[Value.pointer q1, Value.int IntKind.i64 x1, Value.int IntKind.i64 x2] w1 fun e1 w2 =>
  ∃ c1 : Bool,
  (e1 = Ending.returned (Value.bool c1)) ∧
  (Keep ([k1]) w1 w2) ∧
  brB (!c1)
    (∀ w3 : World,
    (Locl ([k1]) w2 w3) →
    R (Ending.returned (Value.tuple #[Value.agg #[Value.int IntKind.u16 0, Value.int IntKind.u16 0, Value.int IntKind.u16 0, Value.int IntKind.u16 0], Value.bool false])) w3)
    (nn (q1) fun a1 =>
    ∃ p1 : Option Addr,
    ∃ k2 : Nat,
    ∃ k3 : Nat,
    (w2.drew.cell? (a1.add 2) = some (Value.slice p1 k2 k3)) ∧
    nn (q1) fun a2 =>
    ∃ n1 : Int,
    (w2.drew.cell? a2 = some (Value.int IntKind.i64 n1)) ∧
    idx (p1) (k2) (IntKind.i64.wrap (IntKind.i64.wrap (x2 * n1) + x1)) (4) fun a3 =>
    ∃ n2 : Int,
    ∃ n3 : Int,
    ∃ n4 : Int,
    ∃ n5 : Int,
    (w2.drew.cell? a3 = some (Value.int IntKind.u16 n2)) ∧
    (w2.drew.cell? (a3.add 1) = some (Value.int IntKind.u16 n3)) ∧
    (w2.drew.cell? (a3.add 2) = some (Value.int IntKind.u16 n4)) ∧
    (w2.drew.cell? (a3.add 3) = some (Value.int IntKind.u16 n5)) ∧
    ∀ w4 : World,
    (Locl ([k1]) (w2.drew) w4) →
    R (Ending.returned (Value.tuple #[Value.agg #[Value.int IntKind.u16 n2, Value.int IntKind.u16 n3, Value.int IntKind.u16 n4, Value.int IntKind.u16 n5], Value.bool true])) w4)
theorem calls_grid_Grid_api_Color_At (q1 : Option Addr) (x1 : Int) (x2 : Int) (w : World) (R : Ending → World → Prop) (h : vc_grid_Grid_api_Color_At q1 x1 x2 w R) : Calls P F.grid_Grid_api_Color_At #[.pointer q1, .int .i64 x1, .int .i64 x2] w R :=
  calls_of_vc (fn := Try.f71) (ac := ac_grid_Grid_api_Color_At) (args := [.pointer q1, .int .i64 x1, .int .i64 x2]) mixed Try.func71 (by kernel_rfl) (cast (by unfold vc_grid_Grid_api_Color_At FnVc; kernel_rfl) h)
/-- (*darkroom/grid.Grid[darkroom/api.Color]).All -/
def vc_grid_Grid_api_Color_All (q1 : Option Addr) (w : World) (R : Ending → World → Prop) : Prop :=
  ∀ k1 : Nat,
  ∀ w1 : World,
  (New w (Obj.cells #[Value.pointer q1] 91) k1 w1) →
  R (Ending.returned (Value.func (Fn.func 81) #[] #[Value.pointer (some { block := k1, off := 0 })])) w1
theorem calls_grid_Grid_api_Color_All (q1 : Option Addr) (w : World) (R : Ending → World → Prop) (h : vc_grid_Grid_api_Color_All q1 w R) : Calls P F.grid_Grid_api_Color_All #[.pointer q1] w R :=
  calls_of_vc (fn := Try.f72) (ac := ac_grid_Grid_api_Color_All) (args := [.pointer q1]) mixed Try.func72 (by kernel_rfl) (cast (by unfold vc_grid_Grid_api_Color_All FnVc; kernel_rfl) h)
/-- (*darkroom/grid.Grid[darkroom/api.Color]).Crop -/
def vc_grid_Grid_api_Color_Crop (q1 : Option Addr) (x1 : Int) (x2 : Int) (x3 : Int) (x4 : Int) (w : World) (R : Ending → World → Prop) : Prop :=
  brB (q1.isNone)
    (R (Ending.returned (Value.tuple #[Value.pointer none, Value.int IntKind.i64 1])) w)
    (nn (q1) fun a1 =>
    ∃ n1 : Int,
    (w.drew.cell? a1 = some (Value.int IntKind.i64 n1)) ∧
    brB (decide (x3 > n1))
      (R (Ending.returned (Value.tuple #[Value.pointer none, Value.int IntKind.i64 2])) w.drew)
      (nn (q1) fun a2 =>
      ∃ n2 : Int,
      (w.drew.cell? (a2.add 1) = some (Value.int IntKind.i64 n2)) ∧
      brB (decide (x4 > n2))
        (R (Ending.returned (Value.tuple #[Value.pointer none, Value.int IntKind.i64 2])) w.drew)
        (nn (q1) fun a3 =>
        ∃ n3 : Int,
        (w.drew.cell? a3 = some (Value.int IntKind.i64 n3)) ∧
        nn (q1) fun a4 =>
        ∃ n4 : Int,
        (w.drew.cell? (a4.add 1) = some (Value.int IntKind.i64 n4)) ∧
        Calls P F.grid_within #[Value.int IntKind.i64 x1, Value.int IntKind.i64 x2, Value.int IntKind.i64 x3, Value.int IntKind.i64 x4, Value.int IntKind.i64 n3, Value.int IntKind.i64 n4] (w.drew) fun e1 w1 =>
        ∃ c1 : Bool,
        (e1 = Ending.returned (Value.bool c1)) ∧
        brB (!c1)
          (R (Ending.returned (Value.tuple #[Value.pointer none, Value.int IntKind.i64 2])) w1)
          (∀ k1 : Nat,
          ∀ w2 : World,
          (New w1 (Obj.cells #[Value.int IntKind.i64 x3, Value.int IntKind.i64 x4, Value.slice none 0 0] 112) k1 w2) →
          ∃ I1 : List Value → World → Prop,
          ∃ m1 : List Value → World → Nat,
          (I1 [Value.int IntKind.i64 0] w2) ∧
          ∀ n5 : Int,
          ∀ w3 : World,
          (I1 [Value.int IntKind.i64 n5] w3) →
          brB (decide (n5 < x4))
            (nn (q1) fun a5 =>
            ∃ n6 : Int,
            (w3.cell? a5 = some (Value.int IntKind.i64 n6)) ∧
            ∃ p1 : Option Addr,
            ∃ k2 : Nat,
            ∃ k3 : Nat,
            (w3.drew.cell? { block := k1, off := 2 } = some (Value.slice p1 k2 k3)) ∧
            nn (q1) fun a6 =>
            ∃ p2 : Option Addr,
            ∃ k4 : Nat,
            ∃ k5 : Nat,
            (w3.drew.cell? (a6.add 2) = some (Value.slice p2 k4 k5)) ∧
            slcc (p2) (k5) (IntKind.i64.wrap (IntKind.i64.wrap (IntKind.i64.wrap (x2 + n5) * n6) + x1)) (IntKind.i64.wrap (IntKind.i64.wrap (IntKind.i64.wrap (IntKind.i64.wrap (x2 + n5) * n6) + x1) + x3)) (4) fun p3 k6 k7 =>
            ∃ l1 : List Value,
            (l1.length = k6 * 4) ∧
            (oneAll l1 = true) ∧
            (CellsAre (w3.drew) p3 l1) ∧
            appVC (w3.drew) ([]) (p1) (k2) (k3) (k6) (4) (8) (59) ([Value.int IntKind.u16 0, Value.int IntKind.u16 0, Value.int IntKind.u16 0, Value.int IntKind.u16 0]) (l1) fun p4 k8 k9 w4 =>
            (∃ v1 : Value,
              w4.cell? { block := k1, off := 2 } = some v1) ∧
            (w4.frozen? { block := k1, off := 2 } = false) ∧
            (I1 [Value.int IntKind.i64 (IntKind.i64.wrap (n5 + 1))] (setCells w4 { block := k1, off := 2 } [Value.slice p4 k8 k9] 0)) ∧
            m1 [Value.int IntKind.i64 (IntKind.i64.wrap (n5 + 1))] (setCells w4 { block := k1, off := 2 } [Value.slice p4 k8 k9] 0) < m1 [Value.int IntKind.i64 n5] w3)
            (R (Ending.returned (Value.tuple #[Value.pointer (some { block := k1, off := 0 }), Value.int IntKind.i64 0])) w3)))))
theorem calls_grid_Grid_api_Color_Crop (q1 : Option Addr) (x1 : Int) (x2 : Int) (x3 : Int) (x4 : Int) (w : World) (R : Ending → World → Prop) (h : vc_grid_Grid_api_Color_Crop q1 x1 x2 x3 x4 w R) : Calls P F.grid_Grid_api_Color_Crop #[.pointer q1, .int .i64 x1, .int .i64 x2, .int .i64 x3, .int .i64 x4] w R :=
  calls_of_vc (fn := Try.f73) (ac := ac_grid_Grid_api_Color_Crop) (args := [.pointer q1, .int .i64 x1, .int .i64 x2, .int .i64 x3, .int .i64 x4]) mixed Try.func73 (by kernel_rfl) (cast (by unfold vc_grid_Grid_api_Color_Crop FnVc; kernel_rfl) h)
/-- darkroom/raster.Of -/
def vc_raster_Of (q1 : Option Addr) (w : World) (R : Ending → World → Prop) : Prop :=
  ∀ k1 : Nat,
  (w.heap.size ≤ k1) →
  brB (q1.isNone)
    (∀ w1 : World,
    (Locl ([k1]) w w1) →
    R (Ending.returned (Value.tuple #[Value.agg #[Value.int IntKind.i64 0, Value.int IntKind.i64 0, Value.slice none 0 0], Value.int IntKind.i64 1])) w1)
    (∀ w2 : World,
    (Locl ([k1]) w w2) →
    Calls P F.grid_Grid_api_Color_W #[Value.pointer q1] w2 fun e1 w3 =>
    ∃ n1 : Int,
    (e1 = Ending.returned (Value.int IntKind.i64 n1)) ∧
    (Keep ([k1]) w2 w3) ∧
    Calls P F.grid_Grid_api_Color_H #[Value.pointer q1] w3 fun e2 w4 =>
    ∃ n2 : Int,
    (e2 = Ending.returned (Value.int IntKind.i64 n2)) ∧
    (Keep ([k1]) w3 w4) ∧
    ∀ k2 : Nat,
    (w4.heap.size ≤ k2) →
    ∀ w5 : World,
    (Locl ([k2, k1]) w4 w5) →
    Calls P F.grid_Grid_api_Color_All #[Value.pointer q1] w5 fun e3 w6 =>
    ∃ y1 : FuncId,
    ∃ y2 : Array Value,
    ∃ y3 : Array Value,
    (e3 = Ending.returned (Value.func (Fn.func y1) y2 y3)) ∧
    (Keep ([k2, k1]) w5 w6) ∧
    ∀ k3 : Nat,
    ∀ w7 : World,
    (Rf w6 w7 k3) →
    ∀ I1 : List Value → World → Prop,
    ∀ Z1 : Exit → List Value → World → Prop,
    (∀ l1 : List Value,
    ∀ w8 : World,
    ∀ w9 : World,
    (I1 l1 w8) →
    (Keep ([k3, w6.heap.size, k2, k1]) w8 w9) →
    I1 l1 w9) →
    (∀ y4 : Exit,
    ∀ l2 : List Value,
    ∀ w10 : World,
    ∀ w11 : World,
    (Z1 y4 l2 w10) →
    (Keep ([k3, w6.heap.size, k2, k1]) w10 w11) →
    Z1 y4 l2 w11) →
    (I1 [Value.int IntKind.i64 n1, Value.int IntKind.i64 n2, Value.slice none 0 0] w7) →
    (∀ n3 : Int,
    ∀ n4 : Int,
    ∀ p1 : Option Addr,
    ∀ k4 : Nat,
    ∀ k5 : Nat,
    ∀ n5 : Int,
    ∀ n6 : Int,
    ∀ n7 : Int,
    ∀ n8 : Int,
    ∀ n9 : Int,
    ∀ n10 : Int,
    ∀ w12 : World,
    ∀ I2 : Ending → World → Prop,
    (I1 [Value.int IntKind.i64 n3, Value.int IntKind.i64 n4, Value.slice p1 k4 k5] w12) →
    (∀ y5 : Obj,
    ∀ y6 : Obj,
    ∀ k6 : Nat,
    (w12.heap.size ≤ k6) →
    ∀ w13 : World,
    (Locl ([k6, k2, k1]) w12 w13) →
    ∀ w14 : World,
    (Put k3 w13 w14) →
    ∀ k7 : Nat,
    (w14.heap.size ≤ k7) →
    ∀ w15 : World,
    (Locl ([k7, k6, k2, k1]) w14 w15) →
    appVC (w15) ([(29, k7, [Value.int IntKind.u16 n7, Value.int IntKind.u16 n8, Value.int IntKind.u16 n9, Value.int IntKind.u16 n10]), (6, k6, [Value.int IntKind.u16 n7, Value.int IntKind.u16 n8, Value.int IntKind.u16 n9, Value.int IntKind.u16 n10]), (4, k2, [Value.int IntKind.i64 n3, Value.int IntKind.i64 n4, Value.slice p1 k4 k5]), (2, k1, [Value.int IntKind.i64 0, Value.int IntKind.i64 0, Value.slice none 0 0])]) (p1) (k4) (k5) (4) (1) (2) (54) ([Value.int IntKind.u16 0]) ([Value.int IntKind.u16 n7, Value.int IntKind.u16 n8, Value.int IntKind.u16 n9, Value.int IntKind.u16 n10]) fun p2 k8 k9 w16 =>
    ∀ w17 : World,
    (Locl ([k7, k6, k2, k1]) w16 w17) →
    ∀ w18 : World,
    (Put k3 w17 w18) →
    (I1 [Value.int IntKind.i64 n3, Value.int IntKind.i64 n4, Value.slice p2 k8 k9] w18) →
    I2 (Ending.returned (Value.bool true)) w18) →
    YieldAt Fence.wide 0 P (k3) #[Value.agg #[Value.int IntKind.i64 n5, Value.int IntKind.i64 n6], Value.agg #[Value.int IntKind.u16 n7, Value.int IntKind.u16 n8, Value.int IntKind.u16 n9, Value.int IntKind.u16 n10]] (w12) I2) →
    callF P (Value.func (Fn.func y1) y2 y3) [Value.func (Fn.yield k3) #[] #[]] w7 fun e4 w19 =>
    ∃ v1 : Value,
    (e4 = Ending.returned v1) ∧
    ((∃ n11 : Int,
      ∃ n12 : Int,
      ∃ p3 : Option Addr,
      ∃ k10 : Nat,
      ∃ k11 : Nat,
      (I1 [Value.int IntKind.i64 n11, Value.int IntKind.i64 n12, Value.slice p3 k10 k11] w19) ∧
      ∀ w20 : World,
      (Put k3 w19 w20) →
      ∀ w21 : World,
      (Locl ([k2, k1]) w20 w21) →
      ∀ w22 : World,
      (Put (w6.heap.size) w21 w22) →
      R (Ending.returned (Value.tuple #[Value.agg #[Value.int IntKind.i64 n11, Value.int IntKind.i64 n12, Value.slice p3 k10 k11], Value.int IntKind.i64 0])) w22) ∨
    (False)))
theorem calls_raster_Of (q1 : Option Addr) (w : World) (R : Ending → World → Prop) (h : vc_raster_Of q1 w R) : Calls P F.raster_Of #[.pointer q1] w R :=
  calls_of_vc (fn := Try.f74) (ac := ac_raster_Of) (args := [.pointer q1]) mixed Try.func74 (by kernel_rfl) (cast (by unfold vc_raster_Of FnVc; kernel_rfl) h)
/-- darkroom/moves.places$1 -/
def vc_moves_places_fn1 (yl1 : Nat) (fr1 : Addr) (fr2 : Addr) (w : World) (R : Ending → World → Prop) : Prop :=
  ∃ n1 : Int,
  (w.cell? fr1 = some (Value.int IntKind.i64 n1)) ∧
  ∃ I1 : List Value → World → Prop,
  ∃ m1 : List Value → World → Nat,
  (I1 [Value.int IntKind.i64 0] w) ∧
  ∀ n2 : Int,
  ∀ w1 : World,
  (I1 [Value.int IntKind.i64 n2] w1) →
  brB (decide (n2 < n1))
    (∃ n3 : Int,
    (w1.cell? fr2 = some (Value.int IntKind.i64 n3)) ∧
    ∃ I2 : List Value → World → Prop,
    ∃ m2 : List Value → World → Nat,
    (I2 [Value.int IntKind.i64 0] w1) ∧
    ∀ n4 : Int,
    ∀ w2 : World,
    (I2 [Value.int IntKind.i64 n4] w2) →
    brB (decide (n4 < n3))
      (YieldAt Fence.wide 0 P (yl1) #[Value.int IntKind.i64 n4, Value.int IntKind.i64 n2] w2 fun e1 w3 =>
      ∃ c1 : Bool,
      (e1 = Ending.returned (Value.bool c1)) ∧
      brB (!c1)
        (R (Ending.returned (Value.tuple #[])) w3)
        ((I2 [Value.int IntKind.i64 (IntKind.i64.wrap (n4 + 1))] w3) ∧
        m2 [Value.int IntKind.i64 (IntKind.i64.wrap (n4 + 1))] w3 < m2 [Value.int IntKind.i64 n4] w2))
      ((I1 [Value.int IntKind.i64 (IntKind.i64.wrap (n2 + 1))] w2) ∧
      m1 [Value.int IntKind.i64 (IntKind.i64.wrap (n2 + 1))] w2 < m1 [Value.int IntKind.i64 n2] w1))
    (R (Ending.returned (Value.tuple #[])) w1)
theorem calls_moves_places_fn1 (yl1 : Nat) (fr1 : Addr) (fr2 : Addr) (w : World) (R : Ending → World → Prop) (h : vc_moves_places_fn1 yl1 fr1 fr2 w R) : Calls P F.moves_places_fn1 #[.func (.yield yl1) #[] #[], .pointer (some fr1), .pointer (some fr2)] w R :=
  calls_of_vc (fn := Try.f75) (ac := ac_moves_places_fn1) (args := [.func (.yield yl1) #[] #[], .pointer (some fr1), .pointer (some fr2)]) mixed Try.func75 (by kernel_rfl) (cast (by unfold vc_moves_places_fn1 FnVc; kernel_rfl) h)
/-- darkroom/darkroomref09.Crop -/
def vc_ref09_Crop (x1 : Int) (x2 : Int) (sa1 : Option Addr) (sl1 sc1 : Nat) (x3 : Int) (x4 : Int) (x5 : Int) (x6 : Int) (w : World) (R : Ending → World → Prop) : Prop :=
  ∀ k1 : Nat,
  (w.heap.size ≤ k1) →
  ∀ k2 : Nat,
  (w.heap.size ≤ k2) →
  ∀ k3 : Nat,
  (w.heap.size ≤ k3) →
  ∀ w1 : World,
  (Locl ([k3, k2, k1]) w w1) →
  Calls P F.ref09_Good #[Value.agg #[Value.int IntKind.i64 x1, Value.int IntKind.i64 x2, Value.slice sa1 sl1 sc1]] w1 fun e1 w2 =>
  ∃ c1 : Bool,
  (e1 = Ending.returned (Value.bool c1)) ∧
  (Keep ([k3, k2, k1]) w1 w2) ∧
  brB (!c1)
    (∀ w3 : World,
    (Locl ([k3, k2, k1]) w2 w3) →
    R (Ending.returned (Value.tuple #[Value.agg #[Value.int IntKind.i64 0, Value.int IntKind.i64 0, Value.slice none 0 0], Value.int IntKind.i64 6])) w3)
    (Calls P F.ref07_Within #[Value.int IntKind.i64 x3, Value.int IntKind.i64 x4, Value.int IntKind.i64 x5, Value.int IntKind.i64 x6, Value.int IntKind.i64 x1, Value.int IntKind.i64 x2] w2 fun e2 w4 =>
    ∃ c2 : Bool,
    (e2 = Ending.returned (Value.bool c2)) ∧
    (Keep ([k3, k2, k1]) w2 w4) ∧
    brB (!c2)
      (∀ w5 : World,
      (Locl ([k3, k2, k1]) w4 w5) →
      R (Ending.returned (Value.tuple #[Value.agg #[Value.int IntKind.i64 0, Value.int IntKind.i64 0, Value.slice none 0 0], Value.int IntKind.i64 2])) w5)
      (∀ k4 : Nat,
      (w4.heap.size ≤ k4) →
      ∃ I1 : List Value → World → Prop,
      ∃ m1 : List Value → World → Nat,
      (∀ w6 : World,
        (Locl ([k4, k3, k2, k1]) w4 w6) →
        I1 [Value.int IntKind.i64 0, Value.int IntKind.i64 x5, Value.int IntKind.i64 x6, Value.slice none 0 0] w6) ∧
      ∀ n1 : Int,
      ∀ n2 : Int,
      ∀ n3 : Int,
      ∀ p1 : Option Addr,
      ∀ k5 : Nat,
      ∀ k6 : Nat,
      ∀ w7 : World,
      (I1 [Value.int IntKind.i64 n1, Value.int IntKind.i64 n2, Value.int IntKind.i64 n3, Value.slice p1 k5 k6] w7) →
      brB (decide (n1 < x6))
        (∃ I2 : List Value → World → Prop,
        ∃ m2 : List Value → World → Nat,
        (I2 [Value.int IntKind.i64 0, Value.int IntKind.i64 n2, Value.int IntKind.i64 n3, Value.slice p1 k5 k6] w7) ∧
        ∀ n4 : Int,
        ∀ n5 : Int,
        ∀ n6 : Int,
        ∀ p2 : Option Addr,
        ∀ k7 : Nat,
        ∀ k8 : Nat,
        ∀ w8 : World,
        (I2 [Value.int IntKind.i64 n4, Value.int IntKind.i64 n5, Value.int IntKind.i64 n6, Value.slice p2 k7 k8] w8) →
        brB (decide (n4 < x5))
          (Calls P F.ref09_Pixel #[Value.agg #[Value.int IntKind.i64 x1, Value.int IntKind.i64 x2, Value.slice sa1 sl1 sc1], Value.int IntKind.i64 (IntKind.i64.wrap (x3 + n4)), Value.int IntKind.i64 (IntKind.i64.wrap (x4 + n1))] (w8.drew) fun e3 w9 =>
          ∃ n7 : Int,
          ∃ n8 : Int,
          ∃ n9 : Int,
          ∃ n10 : Int,
          (e3 = Ending.returned (Value.agg #[Value.int IntKind.u16 n7, Value.int IntKind.u16 n8, Value.int IntKind.u16 n9, Value.int IntKind.u16 n10])) ∧
          (Keep ([k4, k3, k2, k1]) (w8.drew) w9) ∧
          (Keeps (w8.drew) w9) ∧
          Calls P F.ref09_Add #[Value.agg #[Value.int IntKind.i64 n5, Value.int IntKind.i64 n6, Value.slice p2 k7 k8], Value.agg #[Value.int IntKind.u16 n7, Value.int IntKind.u16 n8, Value.int IntKind.u16 n9, Value.int IntKind.u16 n10]] w9 fun e4 w10 =>
          ∃ n11 : Int,
          ∃ n12 : Int,
          ∃ p3 : Option Addr,
          ∃ k9 : Nat,
          ∃ k10 : Nat,
          (e4 = Ending.returned (Value.agg #[Value.int IntKind.i64 n11, Value.int IntKind.i64 n12, Value.slice p3 k9 k10])) ∧
          (Keep ([k4, k3, k2, k1]) w9 w10) ∧
          ∀ w11 : World,
          (Locl ([k4, k3, k2, k1]) w10 w11) →
          (I2 [Value.int IntKind.i64 (IntKind.i64.wrap (n4 + 1)), Value.int IntKind.i64 n11, Value.int IntKind.i64 n12, Value.slice p3 k9 k10] w11) ∧
          m2 [Value.int IntKind.i64 (IntKind.i64.wrap (n4 + 1)), Value.int IntKind.i64 n11, Value.int IntKind.i64 n12, Value.slice p3 k9 k10] w11 < m2 [Value.int IntKind.i64 n4, Value.int IntKind.i64 n5, Value.int IntKind.i64 n6, Value.slice p2 k7 k8] w8)
          ((I1 [Value.int IntKind.i64 (IntKind.i64.wrap (n1 + 1)), Value.int IntKind.i64 n5, Value.int IntKind.i64 n6, Value.slice p2 k7 k8] w8) ∧
          m1 [Value.int IntKind.i64 (IntKind.i64.wrap (n1 + 1)), Value.int IntKind.i64 n5, Value.int IntKind.i64 n6, Value.slice p2 k7 k8] w8 < m1 [Value.int IntKind.i64 n1, Value.int IntKind.i64 n2, Value.int IntKind.i64 n3, Value.slice p1 k5 k6] w7))
        (∀ w12 : World,
        (Locl ([k4, k3, k2, k1]) w7 w12) →
        R (Ending.returned (Value.tuple #[Value.agg #[Value.int IntKind.i64 n2, Value.int IntKind.i64 n3, Value.slice p1 k5 k6], Value.int IntKind.i64 0])) w12)))
theorem calls_ref09_Crop (x1 : Int) (x2 : Int) (sa1 : Option Addr) (sl1 sc1 : Nat) (x3 : Int) (x4 : Int) (x5 : Int) (x6 : Int) (w : World) (R : Ending → World → Prop) (h : vc_ref09_Crop x1 x2 sa1 sl1 sc1 x3 x4 x5 x6 w R) : Calls P F.ref09_Crop #[.agg #[.int .i64 x1, .int .i64 x2, .slice sa1 sl1 sc1], .agg #[.int .i64 x3, .int .i64 x4, .int .i64 x5, .int .i64 x6]] w R :=
  calls_of_vc (fn := Try.f76) (ac := ac_ref09_Crop) (args := [.agg #[.int .i64 x1, .int .i64 x2, .slice sa1 sl1 sc1], .agg #[.int .i64 x3, .int .i64 x4, .int .i64 x5, .int .i64 x6]]) mixed Try.func76 (by kernel_rfl) (cast (by unfold vc_ref09_Crop FnVc; kernel_rfl) h)
/-- darkroom/darkroomref21.near -/
def vc_ref21_near (x1 : Int) (x2 : Int) (w : World) (R : Ending → World → Prop) : Prop :=
  brB (decide (x1 < 0))
    (R (Ending.returned (Value.int IntKind.i64 0)) w)
    (brB (decide (x1 ≥ x2))
      (R (Ending.returned (Value.int IntKind.i64 (IntKind.i64.wrap (x2 - 1)))) w)
      (R (Ending.returned (Value.int IntKind.i64 x1)) w))
theorem calls_ref21_near (x1 : Int) (x2 : Int) (w : World) (R : Ending → World → Prop) (h : vc_ref21_near x1 x2 w R) : Calls P F.ref21_near #[.int .i64 x1, .int .i64 x2] w R :=
  calls_of_vc (fn := Try.f77) (ac := ac_ref21_near) (args := [.int .i64 x1, .int .i64 x2]) mixed Try.func77 (by kernel_rfl) (cast (by unfold vc_ref21_near FnVc; kernel_rfl) h)
/-- slices.Chunk[[]uint16,uint16] -/
def vc_slices_Chunk_uint16 (sa1 : Option Addr) (sl1 sc1 : Nat) (x1 : Int) (w : World) (R : Ending → World → Prop) : Prop :=
  ∀ k1 : Nat,
  ∀ w1 : World,
  (New w (Obj.cells #[Value.slice sa1 sl1 sc1] 36) k1 w1) →
  ∀ k2 : Nat,
  ∀ w2 : World,
  (New w1 (Obj.cells #[Value.int IntKind.i64 x1] 3) k2 w2) →
  ∃ n1 : Int,
  (w2.cell? { block := k2, off := 0 } = some (Value.int IntKind.i64 n1)) ∧
  brB (decide (n1 < 1))
    (False)
    (R (Ending.returned (Value.func (Fn.func 85) #[] #[Value.pointer (some { block := k1, off := 0 }), Value.pointer (some { block := k2, off := 0 })])) w2)
theorem calls_slices_Chunk_uint16 (sa1 : Option Addr) (sl1 sc1 : Nat) (x1 : Int) (w : World) (R : Ending → World → Prop) (h : vc_slices_Chunk_uint16 sa1 sl1 sc1 x1 w R) : Calls P F.slices_Chunk_uint16 #[.slice sa1 sl1 sc1, .int .i64 x1] w R :=
  calls_of_vc (fn := Try.f78) (ac := ac_slices_Chunk_uint16) (args := [.slice sa1 sl1 sc1, .int .i64 x1]) mixed Try.func78 (by kernel_rfl) (cast (by unfold vc_slices_Chunk_uint16 FnVc; kernel_rfl) h)
/-- darkroom/grid.Of[darkroom/api.Color] -/
def vc_grid_Of_api_Color (x1 : Int) (x2 : Int) (sa1 : Option Addr) (sl1 sc1 : Nat) (w : World) (R : Ending → World → Prop) : Prop :=
  Calls P F.grid_fits #[Value.int IntKind.i64 x1, Value.int IntKind.i64 x2] w fun e1 w1 =>
  ∃ c1 : Bool,
  (e1 = Ending.returned (Value.bool c1)) ∧
  brB (!c1)
    (R (Ending.returned (Value.tuple #[Value.pointer none, Value.int IntKind.i64 4])) w1)
    (brB ((↑sl1 : Int) != IntKind.i64.wrap (x1 * x2))
      (R (Ending.returned (Value.tuple #[Value.pointer none, Value.int IntKind.i64 3])) w1)
      (Calls P F.slices_Clone_api_Color #[Value.slice sa1 sl1 sc1] w1 fun e2 w2 =>
      ∃ p1 : Option Addr,
      ∃ k1 : Nat,
      ∃ k2 : Nat,
      (e2 = Ending.returned (Value.slice p1 k1 k2)) ∧
      ∀ k3 : Nat,
      ∀ w3 : World,
      (New w2 (Obj.cells #[Value.int IntKind.i64 x1, Value.int IntKind.i64 x2, Value.slice p1 k1 k2] 112) k3 w3) →
      R (Ending.returned (Value.tuple #[Value.pointer (some { block := k3, off := 0 }), Value.int IntKind.i64 0])) w3))
theorem calls_grid_Of_api_Color (x1 : Int) (x2 : Int) (sa1 : Option Addr) (sl1 sc1 : Nat) (w : World) (R : Ending → World → Prop) (h : vc_grid_Of_api_Color x1 x2 sa1 sl1 sc1 w R) : Calls P F.grid_Of_api_Color #[.int .i64 x1, .int .i64 x2, .slice sa1 sl1 sc1] w R :=
  calls_of_vc (fn := Try.f79) (ac := ac_grid_Of_api_Color) (args := [.int .i64 x1, .int .i64 x2, .slice sa1 sl1 sc1]) mixed Try.func79 (by kernel_rfl) (cast (by unfold vc_grid_Of_api_Color FnVc; kernel_rfl) h)
/-- (*darkroom/grid.Grid[darkroom/api.Color]).has -/
def vc_grid_Grid_api_Color_has (q1 : Option Addr) (x1 : Int) (x2 : Int) (w : World) (R : Ending → World → Prop) : Prop :=
  brB (!q1.isNone && decide (x1 ≥ 0) && decide (x2 ≥ 0))
    (nn (q1) fun a1 =>
    ∃ n1 : Int,
    (w.cell? a1 = some (Value.int IntKind.i64 n1)) ∧
    brB (decide (x1 < n1))
      (nn (q1) fun a2 =>
      ∃ n2 : Int,
      (w.cell? (a2.add 1) = some (Value.int IntKind.i64 n2)) ∧
      R (Ending.returned (Value.bool (decide (x2 < n2)))) w)
      (R (Ending.returned (Value.bool false)) w))
    (R (Ending.returned (Value.bool false)) w)
theorem calls_grid_Grid_api_Color_has (q1 : Option Addr) (x1 : Int) (x2 : Int) (w : World) (R : Ending → World → Prop) (h : vc_grid_Grid_api_Color_has q1 x1 x2 w R) : Calls P F.grid_Grid_api_Color_has #[.pointer q1, .int .i64 x1, .int .i64 x2] w R :=
  calls_of_vc (fn := Try.f80) (ac := ac_grid_Grid_api_Color_has) (args := [.pointer q1, .int .i64 x1, .int .i64 x2]) mixed Try.func80 (by kernel_rfl) (cast (by unfold vc_grid_Grid_api_Color_has FnVc; kernel_rfl) h)
/-- (*darkroom/grid.Grid[darkroom/api.Color]).All$1 -/
def vc_grid_Grid_api_Color_All_fn1 (yl1 : Nat) (fr1 : Addr) (w : World) (R : Ending → World → Prop) : Prop :=
  ∃ p1 : Option Addr,
  (w.drew.cell? fr1 = some (Value.pointer p1)) ∧
  ∃ p2 : Option Addr,
  (w.drew.cell? fr1 = some (Value.pointer p2)) ∧
  Calls P F.grid_Grid_api_Color_W #[Value.pointer p1] (w.drew) fun e1 w1 =>
  ∃ n1 : Int,
  (e1 = Ending.returned (Value.int IntKind.i64 n1)) ∧
  (Keeps (w.drew) w1) ∧
  Calls P F.grid_Grid_api_Color_H #[Value.pointer p2] w1 fun e2 w2 =>
  ∃ n2 : Int,
  (e2 = Ending.returned (Value.int IntKind.i64 n2)) ∧
  ∃ I1 : List Value → World → Prop,
  ∃ m1 : List Value → World → Nat,
  (I1 [Value.int IntKind.i64 0] w2) ∧
  ∀ n3 : Int,
  ∀ w3 : World,
  (I1 [Value.int IntKind.i64 n3] w3) →
  brB (decide (n3 < IntKind.i64.wrap (n1 * n2)))
    (∃ p3 : Option Addr,
    (w3.drew.cell? fr1 = some (Value.pointer p3)) ∧
    nn (p3) fun a1 =>
    ∃ n4 : Int,
    (w3.drew.cell? a1 = some (Value.int IntKind.i64 n4)) ∧
    (n4 ≠ 0) ∧
    ∃ p4 : Option Addr,
    (w3.drew.cell? fr1 = some (Value.pointer p4)) ∧
    nn (p4) fun a2 =>
    ∃ n5 : Int,
    (w3.drew.cell? a2 = some (Value.int IntKind.i64 n5)) ∧
    (n5 ≠ 0) ∧
    ∃ p5 : Option Addr,
    (w3.drew.cell? fr1 = some (Value.pointer p5)) ∧
    nn (p5) fun a3 =>
    ∃ p6 : Option Addr,
    ∃ k1 : Nat,
    ∃ k2 : Nat,
    (w3.drew.cell? (a3.add 2) = some (Value.slice p6 k1 k2)) ∧
    idx (p6) (k1) (n3) (4) fun a4 =>
    ∃ n6 : Int,
    ∃ n7 : Int,
    ∃ n8 : Int,
    ∃ n9 : Int,
    (w3.drew.cell? a4 = some (Value.int IntKind.u16 n6)) ∧
    (w3.drew.cell? (a4.add 1) = some (Value.int IntKind.u16 n7)) ∧
    (w3.drew.cell? (a4.add 2) = some (Value.int IntKind.u16 n8)) ∧
    (w3.drew.cell? (a4.add 3) = some (Value.int IntKind.u16 n9)) ∧
    YieldAt Fence.wide 0 P (yl1) #[Value.agg #[Value.int IntKind.i64 (divZ BinOp.rem IntKind.i64 n3 n4), Value.int IntKind.i64 (divZ BinOp.quo IntKind.i64 n3 n5)], Value.agg #[Value.int IntKind.u16 n6, Value.int IntKind.u16 n7, Value.int IntKind.u16 n8, Value.int IntKind.u16 n9]] (w3.drew) fun e3 w4 =>
    ∃ c1 : Bool,
    (e3 = Ending.returned (Value.bool c1)) ∧
    brB (!c1)
      (R (Ending.returned (Value.tuple #[])) w4)
      ((I1 [Value.int IntKind.i64 (IntKind.i64.wrap (n3 + 1))] w4) ∧
      m1 [Value.int IntKind.i64 (IntKind.i64.wrap (n3 + 1))] w4 < m1 [Value.int IntKind.i64 n3] w3))
    (R (Ending.returned (Value.tuple #[])) w3)
theorem calls_grid_Grid_api_Color_All_fn1 (yl1 : Nat) (fr1 : Addr) (w : World) (R : Ending → World → Prop) (h : vc_grid_Grid_api_Color_All_fn1 yl1 fr1 w R) : Calls P F.grid_Grid_api_Color_All_fn1 #[.func (.yield yl1) #[] #[], .pointer (some fr1)] w R :=
  calls_of_vc (fn := Try.f81) (ac := ac_grid_Grid_api_Color_All_fn1) (args := [.func (.yield yl1) #[] #[], .pointer (some fr1)]) mixed Try.func81 (by kernel_rfl) (cast (by unfold vc_grid_Grid_api_Color_All_fn1 FnVc; kernel_rfl) h)
/-- (*darkroom/grid.Grid[darkroom/api.Color]).W -/
def vc_grid_Grid_api_Color_W (q1 : Option Addr) (w : World) (R : Ending → World → Prop) : Prop :=
  brB (q1.isNone)
    (R (Ending.returned (Value.int IntKind.i64 0)) w)
    (nn (q1) fun a1 =>
    ∃ n1 : Int,
    (w.cell? a1 = some (Value.int IntKind.i64 n1)) ∧
    R (Ending.returned (Value.int IntKind.i64 n1)) w)
theorem calls_grid_Grid_api_Color_W (q1 : Option Addr) (w : World) (R : Ending → World → Prop) (h : vc_grid_Grid_api_Color_W q1 w R) : Calls P F.grid_Grid_api_Color_W #[.pointer q1] w R :=
  calls_of_vc (fn := Try.f82) (ac := ac_grid_Grid_api_Color_W) (args := [.pointer q1]) mixed Try.func82 (by kernel_rfl) (cast (by unfold vc_grid_Grid_api_Color_W FnVc; kernel_rfl) h)
/-- (*darkroom/grid.Grid[darkroom/api.Color]).H -/
def vc_grid_Grid_api_Color_H (q1 : Option Addr) (w : World) (R : Ending → World → Prop) : Prop :=
  brB (q1.isNone)
    (R (Ending.returned (Value.int IntKind.i64 0)) w)
    (nn (q1) fun a1 =>
    ∃ n1 : Int,
    (w.cell? (a1.add 1) = some (Value.int IntKind.i64 n1)) ∧
    R (Ending.returned (Value.int IntKind.i64 n1)) w)
theorem calls_grid_Grid_api_Color_H (q1 : Option Addr) (w : World) (R : Ending → World → Prop) (h : vc_grid_Grid_api_Color_H q1 w R) : Calls P F.grid_Grid_api_Color_H #[.pointer q1] w R :=
  calls_of_vc (fn := Try.f83) (ac := ac_grid_Grid_api_Color_H) (args := [.pointer q1]) mixed Try.func83 (by kernel_rfl) (cast (by unfold vc_grid_Grid_api_Color_H FnVc; kernel_rfl) h)
/-- darkroom/grid.within -/
def vc_grid_within (x1 : Int) (x2 : Int) (x3 : Int) (x4 : Int) (x5 : Int) (x6 : Int) (w : World) (R : Ending → World → Prop) : Prop :=
  R (Ending.returned (Value.bool (decide (x3 ≥ 1) && decide (x4 ≥ 1) && decide (x1 ≥ 0) && decide (x2 ≥ 0) && decide (x1 ≤ IntKind.i64.wrap (x5 - x3)) && decide (x2 ≤ IntKind.i64.wrap (x6 - x4))))) w
theorem calls_grid_within (x1 : Int) (x2 : Int) (x3 : Int) (x4 : Int) (x5 : Int) (x6 : Int) (w : World) (R : Ending → World → Prop) (h : vc_grid_within x1 x2 x3 x4 x5 x6 w R) : Calls P F.grid_within #[.int .i64 x1, .int .i64 x2, .int .i64 x3, .int .i64 x4, .int .i64 x5, .int .i64 x6] w R :=
  calls_of_vc (fn := Try.f84) (ac := ac_grid_within) (args := [.int .i64 x1, .int .i64 x2, .int .i64 x3, .int .i64 x4, .int .i64 x5, .int .i64 x6]) mixed Try.func84 (by kernel_rfl) (cast (by unfold vc_grid_within FnVc; kernel_rfl) h)
/-- slices.Chunk[[]uint16,uint16]$1 -/
def vc_slices_Chunk_uint16_fn1 (yl1 : Nat) (fr1 : Addr) (fr2 : Addr) (w : World) (R : Ending → World → Prop) : Prop :=
  ∃ I1 : List Value → World → Prop,
  ∃ m1 : List Value → World → Nat,
  (I1 [Value.int IntKind.i64 0] w) ∧
  ∀ n1 : Int,
  ∀ w1 : World,
  (I1 [Value.int IntKind.i64 n1] w1) →
  ∃ p1 : Option Addr,
  ∃ k1 : Nat,
  ∃ k2 : Nat,
  (w1.cell? fr1 = some (Value.slice p1 k1 k2)) ∧
  brB (decide (n1 < (↑k1 : Int)))
    (∃ n2 : Int,
    (w1.drew.cell? fr2 = some (Value.int IntKind.i64 n2)) ∧
    ∃ p2 : Option Addr,
    ∃ k3 : Nat,
    ∃ k4 : Nat,
    (w1.drew.cell? fr1 = some (Value.slice p2 k3 k4)) ∧
    slcc (p2) (k4) (n1) ((↑k3 : Int)) (1) fun p3 k5 k6 =>
    ∃ p4 : Option Addr,
    ∃ k7 : Nat,
    ∃ k8 : Nat,
    (w1.drew.cell? fr1 = some (Value.slice p4 k7 k8)) ∧
    (0 ≤ IntKind.i64.wrap (n1 + min n2 (↑k5 : Int))) ∧
    (IntKind.i64.wrap (n1 + min n2 (↑k5 : Int)) ≤ (↑k8 : Int)) ∧
    slcc (p4) ((IntKind.i64.wrap (n1 + min n2 (↑k5 : Int))).toNat) (n1) (IntKind.i64.wrap (n1 + min n2 (↑k5 : Int))) (1) fun p5 k9 k10 =>
    YieldAt Fence.wide 0 P (yl1) #[Value.slice p5 k9 k10] (w1.drew) fun e1 w2 =>
    ∃ c1 : Bool,
    (e1 = Ending.returned (Value.bool c1)) ∧
    brB (!c1)
      (R (Ending.returned (Value.tuple #[])) w2)
      (∃ n3 : Int,
      (w2.cell? fr2 = some (Value.int IntKind.i64 n3)) ∧
      (I1 [Value.int IntKind.i64 (IntKind.i64.wrap (n1 + n3))] w2) ∧
      m1 [Value.int IntKind.i64 (IntKind.i64.wrap (n1 + n3))] w2 < m1 [Value.int IntKind.i64 n1] w1))
    (R (Ending.returned (Value.tuple #[])) w1)
theorem calls_slices_Chunk_uint16_fn1 (yl1 : Nat) (fr1 : Addr) (fr2 : Addr) (w : World) (R : Ending → World → Prop) (h : vc_slices_Chunk_uint16_fn1 yl1 fr1 fr2 w R) : Calls P F.slices_Chunk_uint16_fn1 #[.func (.yield yl1) #[] #[], .pointer (some fr1), .pointer (some fr2)] w R :=
  calls_of_vc (fn := Try.f85) (ac := ac_slices_Chunk_uint16_fn1) (args := [.func (.yield yl1) #[] #[], .pointer (some fr1), .pointer (some fr2)]) mixed Try.func85 (by kernel_rfl) (cast (by unfold vc_slices_Chunk_uint16_fn1 FnVc; kernel_rfl) h)
/-- darkroom/grid.fits -/
def vc_grid_fits (x1 : Int) (x2 : Int) (w : World) (R : Ending → World → Prop) : Prop :=
  R (Ending.returned (Value.bool (decide (min x1 x2 ≥ 1) && decide (max x1 x2 ≤ 4096) && decide (IntKind.i64.wrap (x1 * x2) ≤ 65536)))) w
theorem calls_grid_fits (x1 : Int) (x2 : Int) (w : World) (R : Ending → World → Prop) (h : vc_grid_fits x1 x2 w R) : Calls P F.grid_fits #[.int .i64 x1, .int .i64 x2] w R :=
  calls_of_vc (fn := Try.f86) (ac := ac_grid_fits) (args := [.int .i64 x1, .int .i64 x2]) mixed Try.func86 (by kernel_rfl) (cast (by unfold vc_grid_fits FnVc; kernel_rfl) h)
/-- slices.Clone[[]darkroom/api.Color,darkroom/api.Color] -/
def vc_slices_Clone_api_Color (sa1 : Option Addr) (sl1 sc1 : Nat) (w : World) (R : Ending → World → Prop) : Prop :=
  brB (sa1.isNone)
    (R (Ending.returned (Value.slice none 0 0)) w)
    (∀ k1 : Nat,
    ∀ w1 : World,
    (New w (Obj.cells #[] 59) k1 w1) →
    ∃ l1 : List Value,
    (l1.length = sl1 * 4) ∧
    (oneAll l1 = true) ∧
    (CellsAre w1 sa1 l1) ∧
    appVC (w1) ([]) (some { block := k1, off := 0 }) (0) (0) (sl1) (4) (8) (59) ([Value.int IntKind.u16 0, Value.int IntKind.u16 0, Value.int IntKind.u16 0, Value.int IntKind.u16 0]) (l1) fun p1 k2 k3 w2 =>
    R (Ending.returned (Value.slice p1 k2 k3)) w2)
theorem calls_slices_Clone_api_Color (sa1 : Option Addr) (sl1 sc1 : Nat) (w : World) (R : Ending → World → Prop) (h : vc_slices_Clone_api_Color sa1 sl1 sc1 w R) : Calls P F.slices_Clone_api_Color #[.slice sa1 sl1 sc1] w R :=
  calls_of_vc (fn := Try.f87) (ac := ac_slices_Clone_api_Color) (args := [.slice sa1 sl1 sc1]) mixed Try.func87 (by kernel_rfl) (cast (by unfold vc_slices_Clone_api_Color FnVc; kernel_rfl) h)
end Go.Proofs.Ytdephacjcljinaa
