/- The condition of a great law, written out (by a program of ours), and the theorem that it suffices. -/
import Derived.Test.YtombfebgojeliaaVcs
namespace Go.Proofs.Ytombfebgojeliaa
open Go Go.Vc
set_option maxRecDepth 100000
set_option linter.unusedVariables false
/-- darkroom/darkroomlaw23.BlendOwn -/
def vc_law23_BlendOwn (st1 : ByteArray) (sa1 : Option Addr) (sl1 sc1 : Nat) (x1 : Int) (x2 : Int) (sa2 : Option Addr) (sl2 sc2 : Nat) (x3 : Int) (x4 : Int) (sa3 : Option Addr) (sl3 sc3 : Nat) (w : World) (R : Ending → World → Prop) : Prop :=
  ∀ k1 : Nat,
  (w.heap.size ≤ k1) →
  ∀ k2 : Nat,
  (w.heap.size ≤ k2) →
  ∀ k3 : Nat,
  (w.heap.size ≤ k3) →
  ∀ w1 : World,
  (Locl ([k3, k2, k1]) w w1) →
  Calls P F.law23_wakes #[] w1 fun e1 w2 =>
  ∃ c1 : Bool,
  (e1 = Ending.returned (Value.bool c1)) ∧
  (Keep ([k3, k2, k1]) w1 w2) ∧
  brB (!c1)
    (R (Ending.returned (Value.bool false)) w2)
    (∃ I1 : List Value → World → Prop,
    ((Calls P F.law23_own #[Value.agg #[Value.int IntKind.i64 x1, Value.int IntKind.i64 x2, Value.slice sa2 sl2 sc2]] (w2.drew) fun e2 w3 =>
        ∃ n1 : Int,
        ∃ n2 : Int,
        ∃ p1 : Option Addr,
        ∃ k4 : Nat,
        ∃ k5 : Nat,
        (e2 = Ending.returned (Value.agg #[Value.int IntKind.i64 n1, Value.int IntKind.i64 n2, Value.slice p1 k4 k5])) ∧
        (Keep ([k3, k2, k1]) (w2.drew) w3) ∧
        (Keeps (w2.drew) w3) ∧
        (Calls P F.law23_own #[Value.agg #[Value.int IntKind.i64 x3, Value.int IntKind.i64 x4, Value.slice sa3 sl3 sc3]] w3 fun e3 w4 =>
          ∃ n3 : Int,
          ∃ n4 : Int,
          ∃ p2 : Option Addr,
          ∃ k6 : Nat,
          ∃ k7 : Nat,
          (e3 = Ending.returned (Value.agg #[Value.int IntKind.i64 n3, Value.int IntKind.i64 n4, Value.slice p2 k6 k7])) ∧
          (Keep ([k3, k2, k1]) w3 w4) ∧
          (Keeps w3 w4) ∧
          (Calls P F.law23_ints #[Value.slice sa1 sl1 sc1] w4 fun e4 w5 =>
            ∃ p3 : Option Addr,
            ∃ k8 : Nat,
            ∃ k9 : Nat,
            (e4 = Ending.returned (Value.slice p3 k8 k9)) ∧
            (Keep ([k3, k2, k1]) w4 w5) ∧
            (∀ k10 : Nat,
              (w5.heap.size ≤ k10) →
              (∀ w6 : World,
                (Locl ([k10, k3, k2, k1]) w5 w6) →
                appVC (w6) ([(27, k10, [Value.int IntKind.i64 77]), (5, k3, [Value.int IntKind.i64 x3, Value.int IntKind.i64 x4, Value.slice sa3 sl3 sc3]), (4, k2, [Value.int IntKind.i64 x1, Value.int IntKind.i64 x2, Value.slice sa2 sl2 sc2]), (3, k1, [Value.string st1, Value.slice sa1 sl1 sc1])]) (p3) (k8) (k9) (1) (1) (8) (3) ([Value.int IntKind.i64 0]) ([Value.int IntKind.i64 77]) fun p4 k11 k12 w7 =>
                (∀ k13 : Nat,
                  (w7.heap.size ≤ k13) →
                  ∀ k14 : Nat,
                  (w7.heap.size ≤ k14) →
                  ∀ w8 : World,
                  (Locl ([k14, k13, k10, k3, k2, k1]) w7 w8) →
                  I1 [Value.slice p4 k11 k12, Value.pointer (some { block := k13, off := 0 }), Value.int IntKind.i64 n1, Value.int IntKind.i64 n2, Value.slice p1 k4 k5, Value.pointer (some { block := k14, off := 0 }), Value.int IntKind.i64 n3, Value.int IntKind.i64 n4, Value.slice p2 k6 k7] w8) ∧
                ∀ k15 : Nat,
                (w7.heap.size ≤ k15) →
                ∀ k16 : Nat,
                (w7.heap.size ≤ k16) →
                ∀ w9 : World,
                (Locl ([k16, k15, k10, k3, k2, k1]) w7 w9) →
                I1 [Value.slice p4 k11 k12, Value.pointer (some { block := k16, off := 0 }), Value.int IntKind.i64 n1, Value.int IntKind.i64 n2, Value.slice p1 k4 k5, Value.pointer (some { block := k15, off := 0 }), Value.int IntKind.i64 n3, Value.int IntKind.i64 n4, Value.slice p2 k6 k7] w9) ∧
              (∀ k17 : Nat,
                (w5.heap.size ≤ k17) →
                (∀ w10 : World,
                  (Locl ([k17, k10, k3, k2, k1]) w5 w10) →
                  appVC (w10) ([(7, k17, [Value.int IntKind.i64 0, Value.int IntKind.i64 0, Value.slice none 0 0]), (27, k10, [Value.int IntKind.i64 77]), (5, k3, [Value.int IntKind.i64 x3, Value.int IntKind.i64 x4, Value.slice sa3 sl3 sc3]), (4, k2, [Value.int IntKind.i64 x1, Value.int IntKind.i64 x2, Value.slice sa2 sl2 sc2]), (3, k1, [Value.string st1, Value.slice sa1 sl1 sc1])]) (p3) (k8) (k9) (1) (1) (8) (3) ([Value.int IntKind.i64 0]) ([Value.int IntKind.i64 77]) fun p5 k18 k19 w11 =>
                  ∀ k20 : Nat,
                  (w11.heap.size ≤ k20) →
                  ∀ w12 : World,
                  (Locl ([k20, k17, k10, k3, k2, k1]) w11 w12) →
                  I1 [Value.slice p5 k18 k19, Value.pointer (some { block := k17, off := 0 }), Value.int IntKind.i64 n1, Value.int IntKind.i64 n2, Value.slice p1 k4 k5, Value.pointer (some { block := k20, off := 0 }), Value.int IntKind.i64 n3, Value.int IntKind.i64 n4, Value.slice p2 k6 k7] w12) ∧
                ∀ k21 : Nat,
                (w5.heap.size ≤ k21) →
                ∀ w13 : World,
                (Locl ([k21, k17, k10, k3, k2, k1]) w5 w13) →
                appVC (w13) ([(8, k21, [Value.int IntKind.i64 0, Value.int IntKind.i64 0, Value.slice none 0 0]), (7, k17, [Value.int IntKind.i64 0, Value.int IntKind.i64 0, Value.slice none 0 0]), (27, k10, [Value.int IntKind.i64 77]), (5, k3, [Value.int IntKind.i64 x3, Value.int IntKind.i64 x4, Value.slice sa3 sl3 sc3]), (4, k2, [Value.int IntKind.i64 x1, Value.int IntKind.i64 x2, Value.slice sa2 sl2 sc2]), (3, k1, [Value.string st1, Value.slice sa1 sl1 sc1])]) (p3) (k8) (k9) (1) (1) (8) (3) ([Value.int IntKind.i64 0]) ([Value.int IntKind.i64 77]) fun p6 k22 k23 w14 =>
                ∀ w15 : World,
                (Locl ([k21, k17, k10, k3, k2, k1]) w14 w15) →
                I1 [Value.slice p6 k22 k23, Value.pointer (some { block := k17, off := 0 }), Value.int IntKind.i64 n1, Value.int IntKind.i64 n2, Value.slice p1 k4 k5, Value.pointer (some { block := k21, off := 0 }), Value.int IntKind.i64 n3, Value.int IntKind.i64 n4, Value.slice p2 k6 k7] w15) ∧
              ∀ k24 : Nat,
              (w5.heap.size ≤ k24) →
              (∀ w16 : World,
                (Locl ([k24, k10, k3, k2, k1]) w5 w16) →
                appVC (w16) ([(8, k24, [Value.int IntKind.i64 0, Value.int IntKind.i64 0, Value.slice none 0 0]), (27, k10, [Value.int IntKind.i64 77]), (5, k3, [Value.int IntKind.i64 x3, Value.int IntKind.i64 x4, Value.slice sa3 sl3 sc3]), (4, k2, [Value.int IntKind.i64 x1, Value.int IntKind.i64 x2, Value.slice sa2 sl2 sc2]), (3, k1, [Value.string st1, Value.slice sa1 sl1 sc1])]) (p3) (k8) (k9) (1) (1) (8) (3) ([Value.int IntKind.i64 0]) ([Value.int IntKind.i64 77]) fun p7 k25 k26 w17 =>
                ∀ k27 : Nat,
                (w17.heap.size ≤ k27) →
                ∀ w18 : World,
                (Locl ([k27, k24, k10, k3, k2, k1]) w17 w18) →
                I1 [Value.slice p7 k25 k26, Value.pointer (some { block := k27, off := 0 }), Value.int IntKind.i64 n1, Value.int IntKind.i64 n2, Value.slice p1 k4 k5, Value.pointer (some { block := k24, off := 0 }), Value.int IntKind.i64 n3, Value.int IntKind.i64 n4, Value.slice p2 k6 k7] w18) ∧
              ∀ k28 : Nat,
              (w5.heap.size ≤ k28) →
              ∀ w19 : World,
              (Locl ([k28, k24, k10, k3, k2, k1]) w5 w19) →
              appVC (w19) ([(7, k28, [Value.int IntKind.i64 0, Value.int IntKind.i64 0, Value.slice none 0 0]), (8, k24, [Value.int IntKind.i64 0, Value.int IntKind.i64 0, Value.slice none 0 0]), (27, k10, [Value.int IntKind.i64 77]), (5, k3, [Value.int IntKind.i64 x3, Value.int IntKind.i64 x4, Value.slice sa3 sl3 sc3]), (4, k2, [Value.int IntKind.i64 x1, Value.int IntKind.i64 x2, Value.slice sa2 sl2 sc2]), (3, k1, [Value.string st1, Value.slice sa1 sl1 sc1])]) (p3) (k8) (k9) (1) (1) (8) (3) ([Value.int IntKind.i64 0]) ([Value.int IntKind.i64 77]) fun p8 k29 k30 w20 =>
              ∀ w21 : World,
              (Locl ([k28, k24, k10, k3, k2, k1]) w20 w21) →
              I1 [Value.slice p8 k29 k30, Value.pointer (some { block := k28, off := 0 }), Value.int IntKind.i64 n1, Value.int IntKind.i64 n2, Value.slice p1 k4 k5, Value.pointer (some { block := k24, off := 0 }), Value.int IntKind.i64 n3, Value.int IntKind.i64 n4, Value.slice p2 k6 k7] w21) ∧
            (∀ k31 : Nat,
              (w5.heap.size ≤ k31) →
              (∀ k32 : Nat,
                (w5.heap.size ≤ k32) →
                (∀ w22 : World,
                  (Locl ([k32, k31, k3, k2, k1]) w5 w22) →
                  appVC (w22) ([(27, k32, [Value.int IntKind.i64 77]), (7, k31, [Value.int IntKind.i64 0, Value.int IntKind.i64 0, Value.slice none 0 0]), (5, k3, [Value.int IntKind.i64 x3, Value.int IntKind.i64 x4, Value.slice sa3 sl3 sc3]), (4, k2, [Value.int IntKind.i64 x1, Value.int IntKind.i64 x2, Value.slice sa2 sl2 sc2]), (3, k1, [Value.string st1, Value.slice sa1 sl1 sc1])]) (p3) (k8) (k9) (1) (1) (8) (3) ([Value.int IntKind.i64 0]) ([Value.int IntKind.i64 77]) fun p9 k33 k34 w23 =>
                  ∀ k35 : Nat,
                  (w23.heap.size ≤ k35) →
                  ∀ w24 : World,
                  (Locl ([k35, k32, k31, k3, k2, k1]) w23 w24) →
                  I1 [Value.slice p9 k33 k34, Value.pointer (some { block := k31, off := 0 }), Value.int IntKind.i64 n1, Value.int IntKind.i64 n2, Value.slice p1 k4 k5, Value.pointer (some { block := k35, off := 0 }), Value.int IntKind.i64 n3, Value.int IntKind.i64 n4, Value.slice p2 k6 k7] w24) ∧
                ∀ k36 : Nat,
                (w5.heap.size ≤ k36) →
                ∀ w25 : World,
                (Locl ([k36, k32, k31, k3, k2, k1]) w5 w25) →
                appVC (w25) ([(8, k36, [Value.int IntKind.i64 0, Value.int IntKind.i64 0, Value.slice none 0 0]), (27, k32, [Value.int IntKind.i64 77]), (7, k31, [Value.int IntKind.i64 0, Value.int IntKind.i64 0, Value.slice none 0 0]), (5, k3, [Value.int IntKind.i64 x3, Value.int IntKind.i64 x4, Value.slice sa3 sl3 sc3]), (4, k2, [Value.int IntKind.i64 x1, Value.int IntKind.i64 x2, Value.slice sa2 sl2 sc2]), (3, k1, [Value.string st1, Value.slice sa1 sl1 sc1])]) (p3) (k8) (k9) (1) (1) (8) (3) ([Value.int IntKind.i64 0]) ([Value.int IntKind.i64 77]) fun p10 k37 k38 w26 =>
                ∀ w27 : World,
                (Locl ([k36, k32, k31, k3, k2, k1]) w26 w27) →
                I1 [Value.slice p10 k37 k38, Value.pointer (some { block := k31, off := 0 }), Value.int IntKind.i64 n1, Value.int IntKind.i64 n2, Value.slice p1 k4 k5, Value.pointer (some { block := k36, off := 0 }), Value.int IntKind.i64 n3, Value.int IntKind.i64 n4, Value.slice p2 k6 k7] w27) ∧
              ∀ k39 : Nat,
              (w5.heap.size ≤ k39) →
              ∀ k40 : Nat,
              (w5.heap.size ≤ k40) →
              ∀ w28 : World,
              (Locl ([k40, k39, k31, k3, k2, k1]) w5 w28) →
              appVC (w28) ([(27, k40, [Value.int IntKind.i64 77]), (8, k39, [Value.int IntKind.i64 0, Value.int IntKind.i64 0, Value.slice none 0 0]), (7, k31, [Value.int IntKind.i64 0, Value.int IntKind.i64 0, Value.slice none 0 0]), (5, k3, [Value.int IntKind.i64 x3, Value.int IntKind.i64 x4, Value.slice sa3 sl3 sc3]), (4, k2, [Value.int IntKind.i64 x1, Value.int IntKind.i64 x2, Value.slice sa2 sl2 sc2]), (3, k1, [Value.string st1, Value.slice sa1 sl1 sc1])]) (p3) (k8) (k9) (1) (1) (8) (3) ([Value.int IntKind.i64 0]) ([Value.int IntKind.i64 77]) fun p11 k41 k42 w29 =>
              ∀ w30 : World,
              (Locl ([k40, k39, k31, k3, k2, k1]) w29 w30) →
              I1 [Value.slice p11 k41 k42, Value.pointer (some { block := k31, off := 0 }), Value.int IntKind.i64 n1, Value.int IntKind.i64 n2, Value.slice p1 k4 k5, Value.pointer (some { block := k39, off := 0 }), Value.int IntKind.i64 n3, Value.int IntKind.i64 n4, Value.slice p2 k6 k7] w30) ∧
            ∀ k43 : Nat,
            (w5.heap.size ≤ k43) →
            (∀ k44 : Nat,
              (w5.heap.size ≤ k44) →
              (∀ w31 : World,
                (Locl ([k44, k43, k3, k2, k1]) w5 w31) →
                appVC (w31) ([(27, k44, [Value.int IntKind.i64 77]), (8, k43, [Value.int IntKind.i64 0, Value.int IntKind.i64 0, Value.slice none 0 0]), (5, k3, [Value.int IntKind.i64 x3, Value.int IntKind.i64 x4, Value.slice sa3 sl3 sc3]), (4, k2, [Value.int IntKind.i64 x1, Value.int IntKind.i64 x2, Value.slice sa2 sl2 sc2]), (3, k1, [Value.string st1, Value.slice sa1 sl1 sc1])]) (p3) (k8) (k9) (1) (1) (8) (3) ([Value.int IntKind.i64 0]) ([Value.int IntKind.i64 77]) fun p12 k45 k46 w32 =>
                ∀ k47 : Nat,
                (w32.heap.size ≤ k47) →
                ∀ w33 : World,
                (Locl ([k47, k44, k43, k3, k2, k1]) w32 w33) →
                I1 [Value.slice p12 k45 k46, Value.pointer (some { block := k47, off := 0 }), Value.int IntKind.i64 n1, Value.int IntKind.i64 n2, Value.slice p1 k4 k5, Value.pointer (some { block := k43, off := 0 }), Value.int IntKind.i64 n3, Value.int IntKind.i64 n4, Value.slice p2 k6 k7] w33) ∧
              ∀ k48 : Nat,
              (w5.heap.size ≤ k48) →
              ∀ w34 : World,
              (Locl ([k48, k44, k43, k3, k2, k1]) w5 w34) →
              appVC (w34) ([(7, k48, [Value.int IntKind.i64 0, Value.int IntKind.i64 0, Value.slice none 0 0]), (27, k44, [Value.int IntKind.i64 77]), (8, k43, [Value.int IntKind.i64 0, Value.int IntKind.i64 0, Value.slice none 0 0]), (5, k3, [Value.int IntKind.i64 x3, Value.int IntKind.i64 x4, Value.slice sa3 sl3 sc3]), (4, k2, [Value.int IntKind.i64 x1, Value.int IntKind.i64 x2, Value.slice sa2 sl2 sc2]), (3, k1, [Value.string st1, Value.slice sa1 sl1 sc1])]) (p3) (k8) (k9) (1) (1) (8) (3) ([Value.int IntKind.i64 0]) ([Value.int IntKind.i64 77]) fun p13 k49 k50 w35 =>
              ∀ w36 : World,
              (Locl ([k48, k44, k43, k3, k2, k1]) w35 w36) →
              I1 [Value.slice p13 k49 k50, Value.pointer (some { block := k48, off := 0 }), Value.int IntKind.i64 n1, Value.int IntKind.i64 n2, Value.slice p1 k4 k5, Value.pointer (some { block := k43, off := 0 }), Value.int IntKind.i64 n3, Value.int IntKind.i64 n4, Value.slice p2 k6 k7] w36) ∧
            ∀ k51 : Nat,
            (w5.heap.size ≤ k51) →
            ∀ k52 : Nat,
            (w5.heap.size ≤ k52) →
            ∀ w37 : World,
            (Locl ([k52, k51, k43, k3, k2, k1]) w5 w37) →
            appVC (w37) ([(27, k52, [Value.int IntKind.i64 77]), (7, k51, [Value.int IntKind.i64 0, Value.int IntKind.i64 0, Value.slice none 0 0]), (8, k43, [Value.int IntKind.i64 0, Value.int IntKind.i64 0, Value.slice none 0 0]), (5, k3, [Value.int IntKind.i64 x3, Value.int IntKind.i64 x4, Value.slice sa3 sl3 sc3]), (4, k2, [Value.int IntKind.i64 x1, Value.int IntKind.i64 x2, Value.slice sa2 sl2 sc2]), (3, k1, [Value.string st1, Value.slice sa1 sl1 sc1])]) (p3) (k8) (k9) (1) (1) (8) (3) ([Value.int IntKind.i64 0]) ([Value.int IntKind.i64 77]) fun p14 k53 k54 w38 =>
            ∀ w39 : World,
            (Locl ([k52, k51, k43, k3, k2, k1]) w38 w39) →
            I1 [Value.slice p14 k53 k54, Value.pointer (some { block := k51, off := 0 }), Value.int IntKind.i64 n1, Value.int IntKind.i64 n2, Value.slice p1 k4 k5, Value.pointer (some { block := k43, off := 0 }), Value.int IntKind.i64 n3, Value.int IntKind.i64 n4, Value.slice p2 k6 k7] w39) ∧
          (∀ k55 : Nat,
            (w4.heap.size ≤ k55) →
            (∀ w40 : World,
              (Locl ([k55, k3, k2, k1]) w4 w40) →
              Calls P F.law23_ints #[Value.slice sa1 sl1 sc1] w40 fun e5 w41 =>
              ∃ p15 : Option Addr,
              ∃ k56 : Nat,
              ∃ k57 : Nat,
              (e5 = Ending.returned (Value.slice p15 k56 k57)) ∧
              (Keep ([k55, k3, k2, k1]) w40 w41) ∧
              (appVC (w41) ([(27, k55, [Value.int IntKind.i64 77]), (5, k3, [Value.int IntKind.i64 x3, Value.int IntKind.i64 x4, Value.slice sa3 sl3 sc3]), (4, k2, [Value.int IntKind.i64 x1, Value.int IntKind.i64 x2, Value.slice sa2 sl2 sc2]), (3, k1, [Value.string st1, Value.slice sa1 sl1 sc1])]) (p15) (k56) (k57) (1) (1) (8) (3) ([Value.int IntKind.i64 0]) ([Value.int IntKind.i64 77]) fun p16 k58 k59 w42 =>
                (∀ k60 : Nat,
                  (w42.heap.size ≤ k60) →
                  ∀ k61 : Nat,
                  (w42.heap.size ≤ k61) →
                  ∀ w43 : World,
                  (Locl ([k61, k60, k55, k3, k2, k1]) w42 w43) →
                  I1 [Value.slice p16 k58 k59, Value.pointer (some { block := k60, off := 0 }), Value.int IntKind.i64 n1, Value.int IntKind.i64 n2, Value.slice p1 k4 k5, Value.pointer (some { block := k61, off := 0 }), Value.int IntKind.i64 n3, Value.int IntKind.i64 n4, Value.slice p2 k6 k7] w43) ∧
                ∀ k62 : Nat,
                (w42.heap.size ≤ k62) →
                ∀ k63 : Nat,
                (w42.heap.size ≤ k63) →
                ∀ w44 : World,
                (Locl ([k63, k62, k55, k3, k2, k1]) w42 w44) →
                I1 [Value.slice p16 k58 k59, Value.pointer (some { block := k63, off := 0 }), Value.int IntKind.i64 n1, Value.int IntKind.i64 n2, Value.slice p1 k4 k5, Value.pointer (some { block := k62, off := 0 }), Value.int IntKind.i64 n3, Value.int IntKind.i64 n4, Value.slice p2 k6 k7] w44) ∧
              (∀ k64 : Nat,
                (w41.heap.size ≤ k64) →
                (∀ w45 : World,
                  (Locl ([k64, k55, k3, k2, k1]) w41 w45) →
                  appVC (w45) ([(7, k64, [Value.int IntKind.i64 0, Value.int IntKind.i64 0, Value.slice none 0 0]), (27, k55, [Value.int IntKind.i64 77]), (5, k3, [Value.int IntKind.i64 x3, Value.int IntKind.i64 x4, Value.slice sa3 sl3 sc3]), (4, k2, [Value.int IntKind.i64 x1, Value.int IntKind.i64 x2, Value.slice sa2 sl2 sc2]), (3, k1, [Value.string st1, Value.slice sa1 sl1 sc1])]) (p15) (k56) (k57) (1) (1) (8) (3) ([Value.int IntKind.i64 0]) ([Value.int IntKind.i64 77]) fun p17 k65 k66 w46 =>
                  ∀ k67 : Nat,
                  (w46.heap.size ≤ k67) →
                  ∀ w47 : World,
                  (Locl ([k67, k64, k55, k3, k2, k1]) w46 w47) →
                  I1 [Value.slice p17 k65 k66, Value.pointer (some { block := k64, off := 0 }), Value.int IntKind.i64 n1, Value.int IntKind.i64 n2, Value.slice p1 k4 k5, Value.pointer (some { block := k67, off := 0 }), Value.int IntKind.i64 n3, Value.int IntKind.i64 n4, Value.slice p2 k6 k7] w47) ∧
                ∀ k68 : Nat,
                (w41.heap.size ≤ k68) →
                ∀ w48 : World,
                (Locl ([k68, k64, k55, k3, k2, k1]) w41 w48) →
                appVC (w48) ([(8, k68, [Value.int IntKind.i64 0, Value.int IntKind.i64 0, Value.slice none 0 0]), (7, k64, [Value.int IntKind.i64 0, Value.int IntKind.i64 0, Value.slice none 0 0]), (27, k55, [Value.int IntKind.i64 77]), (5, k3, [Value.int IntKind.i64 x3, Value.int IntKind.i64 x4, Value.slice sa3 sl3 sc3]), (4, k2, [Value.int IntKind.i64 x1, Value.int IntKind.i64 x2, Value.slice sa2 sl2 sc2]), (3, k1, [Value.string st1, Value.slice sa1 sl1 sc1])]) (p15) (k56) (k57) (1) (1) (8) (3) ([Value.int IntKind.i64 0]) ([Value.int IntKind.i64 77]) fun p18 k69 k70 w49 =>
                ∀ w50 : World,
                (Locl ([k68, k64, k55, k3, k2, k1]) w49 w50) →
                I1 [Value.slice p18 k69 k70, Value.pointer (some { block := k64, off := 0 }), Value.int IntKind.i64 n1, Value.int IntKind.i64 n2, Value.slice p1 k4 k5, Value.pointer (some { block := k68, off := 0 }), Value.int IntKind.i64 n3, Value.int IntKind.i64 n4, Value.slice p2 k6 k7] w50) ∧
              ∀ k71 : Nat,
              (w41.heap.size ≤ k71) →
              (∀ w51 : World,
                (Locl ([k71, k55, k3, k2, k1]) w41 w51) →
                appVC (w51) ([(8, k71, [Value.int IntKind.i64 0, Value.int IntKind.i64 0, Value.slice none 0 0]), (27, k55, [Value.int IntKind.i64 77]), (5, k3, [Value.int IntKind.i64 x3, Value.int IntKind.i64 x4, Value.slice sa3 sl3 sc3]), (4, k2, [Value.int IntKind.i64 x1, Value.int IntKind.i64 x2, Value.slice sa2 sl2 sc2]), (3, k1, [Value.string st1, Value.slice sa1 sl1 sc1])]) (p15) (k56) (k57) (1) (1) (8) (3) ([Value.int IntKind.i64 0]) ([Value.int IntKind.i64 77]) fun p19 k72 k73 w52 =>
                ∀ k74 : Nat,
                (w52.heap.size ≤ k74) →
                ∀ w53 : World,
                (Locl ([k74, k71, k55, k3, k2, k1]) w52 w53) →
                I1 [Value.slice p19 k72 k73, Value.pointer (some { block := k74, off := 0 }), Value.int IntKind.i64 n1, Value.int IntKind.i64 n2, Value.slice p1 k4 k5, Value.pointer (some { block := k71, off := 0 }), Value.int IntKind.i64 n3, Value.int IntKind.i64 n4, Value.slice p2 k6 k7] w53) ∧
              ∀ k75 : Nat,
              (w41.heap.size ≤ k75) →
              ∀ w54 : World,
              (Locl ([k75, k71, k55, k3, k2, k1]) w41 w54) →
              appVC (w54) ([(7, k75, [Value.int IntKind.i64 0, Value.int IntKind.i64 0, Value.slice none 0 0]), (8, k71, [Value.int IntKind.i64 0, Value.int IntKind.i64 0, Value.slice none 0 0]), (27, k55, [Value.int IntKind.i64 77]), (5, k3, [Value.int IntKind.i64 x3, Value.int IntKind.i64 x4, Value.slice sa3 sl3 sc3]), (4, k2, [Value.int IntKind.i64 x1, Value.int IntKind.i64 x2, Value.slice sa2 sl2 sc2]), (3, k1, [Value.string st1, Value.slice sa1 sl1 sc1])]) (p15) (k56) (k57) (1) (1) (8) (3) ([Value.int IntKind.i64 0]) ([Value.int IntKind.i64 77]) fun p20 k76 k77 w55 =>
              ∀ w56 : World,
              (Locl ([k75, k71, k55, k3, k2, k1]) w55 w56) →
              I1 [Value.slice p20 k76 k77, Value.pointer (some { block := k75, off := 0 }), Value.int IntKind.i64 n1, Value.int IntKind.i64 n2, Value.slice p1 k4 k5, Value.pointer (some { block := k71, off := 0 }), Value.int IntKind.i64 n3, Value.int IntKind.i64 n4, Value.slice p2 k6 k7] w56) ∧
            (∀ k78 : Nat,
              (w4.heap.size ≤ k78) →
              (∀ w57 : World,
                (Locl ([k78, k55, k3, k2, k1]) w4 w57) →
                Calls P F.law23_ints #[Value.slice sa1 sl1 sc1] w57 fun e6 w58 =>
                ∃ p21 : Option Addr,
                ∃ k79 : Nat,
                ∃ k80 : Nat,
                (e6 = Ending.returned (Value.slice p21 k79 k80)) ∧
                (Keep ([k78, k55, k3, k2, k1]) w57 w58) ∧
                (appVC (w58) ([(7, k78, [Value.int IntKind.i64 0, Value.int IntKind.i64 0, Value.slice none 0 0]), (27, k55, [Value.int IntKind.i64 77]), (5, k3, [Value.int IntKind.i64 x3, Value.int IntKind.i64 x4, Value.slice sa3 sl3 sc3]), (4, k2, [Value.int IntKind.i64 x1, Value.int IntKind.i64 x2, Value.slice sa2 sl2 sc2]), (3, k1, [Value.string st1, Value.slice sa1 sl1 sc1])]) (p21) (k79) (k80) (1) (1) (8) (3) ([Value.int IntKind.i64 0]) ([Value.int IntKind.i64 77]) fun p22 k81 k82 w59 =>
                  ∀ k83 : Nat,
                  (w59.heap.size ≤ k83) →
                  ∀ w60 : World,
                  (Locl ([k83, k78, k55, k3, k2, k1]) w59 w60) →
                  I1 [Value.slice p22 k81 k82, Value.pointer (some { block := k78, off := 0 }), Value.int IntKind.i64 n1, Value.int IntKind.i64 n2, Value.slice p1 k4 k5, Value.pointer (some { block := k83, off := 0 }), Value.int IntKind.i64 n3, Value.int IntKind.i64 n4, Value.slice p2 k6 k7] w60) ∧
                ∀ k84 : Nat,
                (w58.heap.size ≤ k84) →
                ∀ w61 : World,
                (Locl ([k84, k78, k55, k3, k2, k1]) w58 w61) →
                appVC (w61) ([(8, k84, [Value.int IntKind.i64 0, Value.int IntKind.i64 0, Value.slice none 0 0]), (7, k78, [Value.int IntKind.i64 0, Value.int IntKind.i64 0, Value.slice none 0 0]), (27, k55, [Value.int IntKind.i64 77]), (5, k3, [Value.int IntKind.i64 x3, Value.int IntKind.i64 x4, Value.slice sa3 sl3 sc3]), (4, k2, [Value.int IntKind.i64 x1, Value.int IntKind.i64 x2, Value.slice sa2 sl2 sc2]), (3, k1, [Value.string st1, Value.slice sa1 sl1 sc1])]) (p21) (k79) (k80) (1) (1) (8) (3) ([Value.int IntKind.i64 0]) ([Value.int IntKind.i64 77]) fun p23 k85 k86 w62 =>
                ∀ w63 : World,
                (Locl ([k84, k78, k55, k3, k2, k1]) w62 w63) →
                I1 [Value.slice p23 k85 k86, Value.pointer (some { block := k78, off := 0 }), Value.int IntKind.i64 n1, Value.int IntKind.i64 n2, Value.slice p1 k4 k5, Value.pointer (some { block := k84, off := 0 }), Value.int IntKind.i64 n3, Value.int IntKind.i64 n4, Value.slice p2 k6 k7] w63) ∧
              ∀ k87 : Nat,
              (w4.heap.size ≤ k87) →
              ∀ w64 : World,
              (Locl ([k87, k78, k55, k3, k2, k1]) w4 w64) →
              Calls P F.law23_ints #[Value.slice sa1 sl1 sc1] w64 fun e7 w65 =>
              ∃ p24 : Option Addr,
              ∃ k88 : Nat,
              ∃ k89 : Nat,
              (e7 = Ending.returned (Value.slice p24 k88 k89)) ∧
              (Keep ([k87, k78, k55, k3, k2, k1]) w64 w65) ∧
              appVC (w65) ([(8, k87, [Value.int IntKind.i64 0, Value.int IntKind.i64 0, Value.slice none 0 0]), (7, k78, [Value.int IntKind.i64 0, Value.int IntKind.i64 0, Value.slice none 0 0]), (27, k55, [Value.int IntKind.i64 77]), (5, k3, [Value.int IntKind.i64 x3, Value.int IntKind.i64 x4, Value.slice sa3 sl3 sc3]), (4, k2, [Value.int IntKind.i64 x1, Value.int IntKind.i64 x2, Value.slice sa2 sl2 sc2]), (3, k1, [Value.string st1, Value.slice sa1 sl1 sc1])]) (p24) (k88) (k89) (1) (1) (8) (3) ([Value.int IntKind.i64 0]) ([Value.int IntKind.i64 77]) fun p25 k90 k91 w66 =>
              ∀ w67 : World,
              (Locl ([k87, k78, k55, k3, k2, k1]) w66 w67) →
              I1 [Value.slice p25 k90 k91, Value.pointer (some { block := k78, off := 0 }), Value.int IntKind.i64 n1, Value.int IntKind.i64 n2, Value.slice p1 k4 k5, Value.pointer (some { block := k87, off := 0 }), Value.int IntKind.i64 n3, Value.int IntKind.i64 n4, Value.slice p2 k6 k7] w67) ∧
            ∀ k92 : Nat,
            (w4.heap.size ≤ k92) →
            (∀ w68 : World,
              (Locl ([k92, k55, k3, k2, k1]) w4 w68) →
              Calls P F.law23_ints #[Value.slice sa1 sl1 sc1] w68 fun e8 w69 =>
              ∃ p26 : Option Addr,
              ∃ k93 : Nat,
              ∃ k94 : Nat,
              (e8 = Ending.returned (Value.slice p26 k93 k94)) ∧
              (Keep ([k92, k55, k3, k2, k1]) w68 w69) ∧
              (appVC (w69) ([(8, k92, [Value.int IntKind.i64 0, Value.int IntKind.i64 0, Value.slice none 0 0]), (27, k55, [Value.int IntKind.i64 77]), (5, k3, [Value.int IntKind.i64 x3, Value.int IntKind.i64 x4, Value.slice sa3 sl3 sc3]), (4, k2, [Value.int IntKind.i64 x1, Value.int IntKind.i64 x2, Value.slice sa2 sl2 sc2]), (3, k1, [Value.string st1, Value.slice sa1 sl1 sc1])]) (p26) (k93) (k94) (1) (1) (8) (3) ([Value.int IntKind.i64 0]) ([Value.int IntKind.i64 77]) fun p27 k95 k96 w70 =>
                ∀ k97 : Nat,
                (w70.heap.size ≤ k97) →
                ∀ w71 : World,
                (Locl ([k97, k92, k55, k3, k2, k1]) w70 w71) →
                I1 [Value.slice p27 k95 k96, Value.pointer (some { block := k97, off := 0 }), Value.int IntKind.i64 n1, Value.int IntKind.i64 n2, Value.slice p1 k4 k5, Value.pointer (some { block := k92, off := 0 }), Value.int IntKind.i64 n3, Value.int IntKind.i64 n4, Value.slice p2 k6 k7] w71) ∧
              ∀ k98 : Nat,
              (w69.heap.size ≤ k98) →
              ∀ w72 : World,
              (Locl ([k98, k92, k55, k3, k2, k1]) w69 w72) →
              appVC (w72) ([(7, k98, [Value.int IntKind.i64 0, Value.int IntKind.i64 0, Value.slice none 0 0]), (8, k92, [Value.int IntKind.i64 0, Value.int IntKind.i64 0, Value.slice none 0 0]), (27, k55, [Value.int IntKind.i64 77]), (5, k3, [Value.int IntKind.i64 x3, Value.int IntKind.i64 x4, Value.slice sa3 sl3 sc3]), (4, k2, [Value.int IntKind.i64 x1, Value.int IntKind.i64 x2, Value.slice sa2 sl2 sc2]), (3, k1, [Value.string st1, Value.slice sa1 sl1 sc1])]) (p26) (k93) (k94) (1) (1) (8) (3) ([Value.int IntKind.i64 0]) ([Value.int IntKind.i64 77]) fun p28 k99 k100 w73 =>
              ∀ w74 : World,
              (Locl ([k98, k92, k55, k3, k2, k1]) w73 w74) →
              I1 [Value.slice p28 k99 k100, Value.pointer (some { block := k98, off := 0 }), Value.int IntKind.i64 n1, Value.int IntKind.i64 n2, Value.slice p1 k4 k5, Value.pointer (some { block := k92, off := 0 }), Value.int IntKind.i64 n3, Value.int IntKind.i64 n4, Value.slice p2 k6 k7] w74) ∧
            ∀ k101 : Nat,
            (w4.heap.size ≤ k101) →
            ∀ w75 : World,
            (Locl ([k101, k92, k55, k3, k2, k1]) w4 w75) →
            Calls P F.law23_ints #[Value.slice sa1 sl1 sc1] w75 fun e9 w76 =>
            ∃ p29 : Option Addr,
            ∃ k102 : Nat,
            ∃ k103 : Nat,
            (e9 = Ending.returned (Value.slice p29 k102 k103)) ∧
            (Keep ([k101, k92, k55, k3, k2, k1]) w75 w76) ∧
            appVC (w76) ([(7, k101, [Value.int IntKind.i64 0, Value.int IntKind.i64 0, Value.slice none 0 0]), (8, k92, [Value.int IntKind.i64 0, Value.int IntKind.i64 0, Value.slice none 0 0]), (27, k55, [Value.int IntKind.i64 77]), (5, k3, [Value.int IntKind.i64 x3, Value.int IntKind.i64 x4, Value.slice sa3 sl3 sc3]), (4, k2, [Value.int IntKind.i64 x1, Value.int IntKind.i64 x2, Value.slice sa2 sl2 sc2]), (3, k1, [Value.string st1, Value.slice sa1 sl1 sc1])]) (p29) (k102) (k103) (1) (1) (8) (3) ([Value.int IntKind.i64 0]) ([Value.int IntKind.i64 77]) fun p30 k104 k105 w77 =>
            ∀ w78 : World,
            (Locl ([k101, k92, k55, k3, k2, k1]) w77 w78) →
            I1 [Value.slice p30 k104 k105, Value.pointer (some { block := k101, off := 0 }), Value.int IntKind.i64 n1, Value.int IntKind.i64 n2, Value.slice p1 k4 k5, Value.pointer (some { block := k92, off := 0 }), Value.int IntKind.i64 n3, Value.int IntKind.i64 n4, Value.slice p2 k6 k7] w78) ∧
          (∀ k106 : Nat,
            (w4.heap.size ≤ k106) →
            (∀ w79 : World,
              (Locl ([k106, k3, k2, k1]) w4 w79) →
              Calls P F.law23_ints #[Value.slice sa1 sl1 sc1] w79 fun e10 w80 =>
              ∃ p31 : Option Addr,
              ∃ k107 : Nat,
              ∃ k108 : Nat,
              (e10 = Ending.returned (Value.slice p31 k107 k108)) ∧
              (Keep ([k106, k3, k2, k1]) w79 w80) ∧
              (∀ k109 : Nat,
                (w80.heap.size ≤ k109) →
                (∀ w81 : World,
                  (Locl ([k109, k106, k3, k2, k1]) w80 w81) →
                  appVC (w81) ([(27, k109, [Value.int IntKind.i64 77]), (7, k106, [Value.int IntKind.i64 0, Value.int IntKind.i64 0, Value.slice none 0 0]), (5, k3, [Value.int IntKind.i64 x3, Value.int IntKind.i64 x4, Value.slice sa3 sl3 sc3]), (4, k2, [Value.int IntKind.i64 x1, Value.int IntKind.i64 x2, Value.slice sa2 sl2 sc2]), (3, k1, [Value.string st1, Value.slice sa1 sl1 sc1])]) (p31) (k107) (k108) (1) (1) (8) (3) ([Value.int IntKind.i64 0]) ([Value.int IntKind.i64 77]) fun p32 k110 k111 w82 =>
                  ∀ k112 : Nat,
                  (w82.heap.size ≤ k112) →
                  ∀ w83 : World,
                  (Locl ([k112, k109, k106, k3, k2, k1]) w82 w83) →
                  I1 [Value.slice p32 k110 k111, Value.pointer (some { block := k106, off := 0 }), Value.int IntKind.i64 n1, Value.int IntKind.i64 n2, Value.slice p1 k4 k5, Value.pointer (some { block := k112, off := 0 }), Value.int IntKind.i64 n3, Value.int IntKind.i64 n4, Value.slice p2 k6 k7] w83) ∧
                ∀ k113 : Nat,
                (w80.heap.size ≤ k113) →
                ∀ w84 : World,
                (Locl ([k113, k109, k106, k3, k2, k1]) w80 w84) →
                appVC (w84) ([(8, k113, [Value.int IntKind.i64 0, Value.int IntKind.i64 0, Value.slice none 0 0]), (27, k109, [Value.int IntKind.i64 77]), (7, k106, [Value.int IntKind.i64 0, Value.int IntKind.i64 0, Value.slice none 0 0]), (5, k3, [Value.int IntKind.i64 x3, Value.int IntKind.i64 x4, Value.slice sa3 sl3 sc3]), (4, k2, [Value.int IntKind.i64 x1, Value.int IntKind.i64 x2, Value.slice sa2 sl2 sc2]), (3, k1, [Value.string st1, Value.slice sa1 sl1 sc1])]) (p31) (k107) (k108) (1) (1) (8) (3) ([Value.int IntKind.i64 0]) ([Value.int IntKind.i64 77]) fun p33 k114 k115 w85 =>
                ∀ w86 : World,
                (Locl ([k113, k109, k106, k3, k2, k1]) w85 w86) →
                I1 [Value.slice p33 k114 k115, Value.pointer (some { block := k106, off := 0 }), Value.int IntKind.i64 n1, Value.int IntKind.i64 n2, Value.slice p1 k4 k5, Value.pointer (some { block := k113, off := 0 }), Value.int IntKind.i64 n3, Value.int IntKind.i64 n4, Value.slice p2 k6 k7] w86) ∧
              ∀ k116 : Nat,
              (w80.heap.size ≤ k116) →
              ∀ k117 : Nat,
              (w80.heap.size ≤ k117) →
              ∀ w87 : World,
              (Locl ([k117, k116, k106, k3, k2, k1]) w80 w87) →
              appVC (w87) ([(27, k117, [Value.int IntKind.i64 77]), (8, k116, [Value.int IntKind.i64 0, Value.int IntKind.i64 0, Value.slice none 0 0]), (7, k106, [Value.int IntKind.i64 0, Value.int IntKind.i64 0, Value.slice none 0 0]), (5, k3, [Value.int IntKind.i64 x3, Value.int IntKind.i64 x4, Value.slice sa3 sl3 sc3]), (4, k2, [Value.int IntKind.i64 x1, Value.int IntKind.i64 x2, Value.slice sa2 sl2 sc2]), (3, k1, [Value.string st1, Value.slice sa1 sl1 sc1])]) (p31) (k107) (k108) (1) (1) (8) (3) ([Value.int IntKind.i64 0]) ([Value.int IntKind.i64 77]) fun p34 k118 k119 w88 =>
              ∀ w89 : World,
              (Locl ([k117, k116, k106, k3, k2, k1]) w88 w89) →
              I1 [Value.slice p34 k118 k119, Value.pointer (some { block := k106, off := 0 }), Value.int IntKind.i64 n1, Value.int IntKind.i64 n2, Value.slice p1 k4 k5, Value.pointer (some { block := k116, off := 0 }), Value.int IntKind.i64 n3, Value.int IntKind.i64 n4, Value.slice p2 k6 k7] w89) ∧
            (∀ k120 : Nat,
              (w4.heap.size ≤ k120) →
              (∀ w90 : World,
                (Locl ([k120, k106, k3, k2, k1]) w4 w90) →
                Calls P F.law23_ints #[Value.slice sa1 sl1 sc1] w90 fun e11 w91 =>
                ∃ p35 : Option Addr,
                ∃ k121 : Nat,
                ∃ k122 : Nat,
                (e11 = Ending.returned (Value.slice p35 k121 k122)) ∧
                (Keep ([k120, k106, k3, k2, k1]) w90 w91) ∧
                (appVC (w91) ([(27, k120, [Value.int IntKind.i64 77]), (7, k106, [Value.int IntKind.i64 0, Value.int IntKind.i64 0, Value.slice none 0 0]), (5, k3, [Value.int IntKind.i64 x3, Value.int IntKind.i64 x4, Value.slice sa3 sl3 sc3]), (4, k2, [Value.int IntKind.i64 x1, Value.int IntKind.i64 x2, Value.slice sa2 sl2 sc2]), (3, k1, [Value.string st1, Value.slice sa1 sl1 sc1])]) (p35) (k121) (k122) (1) (1) (8) (3) ([Value.int IntKind.i64 0]) ([Value.int IntKind.i64 77]) fun p36 k123 k124 w92 =>
                  ∀ k125 : Nat,
                  (w92.heap.size ≤ k125) →
                  ∀ w93 : World,
                  (Locl ([k125, k120, k106, k3, k2, k1]) w92 w93) →
                  I1 [Value.slice p36 k123 k124, Value.pointer (some { block := k106, off := 0 }), Value.int IntKind.i64 n1, Value.int IntKind.i64 n2, Value.slice p1 k4 k5, Value.pointer (some { block := k125, off := 0 }), Value.int IntKind.i64 n3, Value.int IntKind.i64 n4, Value.slice p2 k6 k7] w93) ∧
                ∀ k126 : Nat,
                (w91.heap.size ≤ k126) →
                ∀ w94 : World,
                (Locl ([k126, k120, k106, k3, k2, k1]) w91 w94) →
                appVC (w94) ([(8, k126, [Value.int IntKind.i64 0, Value.int IntKind.i64 0, Value.slice none 0 0]), (27, k120, [Value.int IntKind.i64 77]), (7, k106, [Value.int IntKind.i64 0, Value.int IntKind.i64 0, Value.slice none 0 0]), (5, k3, [Value.int IntKind.i64 x3, Value.int IntKind.i64 x4, Value.slice sa3 sl3 sc3]), (4, k2, [Value.int IntKind.i64 x1, Value.int IntKind.i64 x2, Value.slice sa2 sl2 sc2]), (3, k1, [Value.string st1, Value.slice sa1 sl1 sc1])]) (p35) (k121) (k122) (1) (1) (8) (3) ([Value.int IntKind.i64 0]) ([Value.int IntKind.i64 77]) fun p37 k127 k128 w95 =>
                ∀ w96 : World,
                (Locl ([k126, k120, k106, k3, k2, k1]) w95 w96) →
                I1 [Value.slice p37 k127 k128, Value.pointer (some { block := k106, off := 0 }), Value.int IntKind.i64 n1, Value.int IntKind.i64 n2, Value.slice p1 k4 k5, Value.pointer (some { block := k126, off := 0 }), Value.int IntKind.i64 n3, Value.int IntKind.i64 n4, Value.slice p2 k6 k7] w96) ∧
              ∀ k129 : Nat,
              (w4.heap.size ≤ k129) →
              ∀ w97 : World,
              (Locl ([k129, k120, k106, k3, k2, k1]) w4 w97) →
              Calls P F.law23_ints #[Value.slice sa1 sl1 sc1] w97 fun e12 w98 =>
              ∃ p38 : Option Addr,
              ∃ k130 : Nat,
              ∃ k131 : Nat,
              (e12 = Ending.returned (Value.slice p38 k130 k131)) ∧
              (Keep ([k129, k120, k106, k3, k2, k1]) w97 w98) ∧
              appVC (w98) ([(8, k129, [Value.int IntKind.i64 0, Value.int IntKind.i64 0, Value.slice none 0 0]), (27, k120, [Value.int IntKind.i64 77]), (7, k106, [Value.int IntKind.i64 0, Value.int IntKind.i64 0, Value.slice none 0 0]), (5, k3, [Value.int IntKind.i64 x3, Value.int IntKind.i64 x4, Value.slice sa3 sl3 sc3]), (4, k2, [Value.int IntKind.i64 x1, Value.int IntKind.i64 x2, Value.slice sa2 sl2 sc2]), (3, k1, [Value.string st1, Value.slice sa1 sl1 sc1])]) (p38) (k130) (k131) (1) (1) (8) (3) ([Value.int IntKind.i64 0]) ([Value.int IntKind.i64 77]) fun p39 k132 k133 w99 =>
              ∀ w100 : World,
              (Locl ([k129, k120, k106, k3, k2, k1]) w99 w100) →
              I1 [Value.slice p39 k132 k133, Value.pointer (some { block := k106, off := 0 }), Value.int IntKind.i64 n1, Value.int IntKind.i64 n2, Value.slice p1 k4 k5, Value.pointer (some { block := k129, off := 0 }), Value.int IntKind.i64 n3, Value.int IntKind.i64 n4, Value.slice p2 k6 k7] w100) ∧
            ∀ k134 : Nat,
            (w4.heap.size ≤ k134) →
            (∀ w101 : World,
              (Locl ([k134, k106, k3, k2, k1]) w4 w101) →
              Calls P F.law23_ints #[Value.slice sa1 sl1 sc1] w101 fun e13 w102 =>
              ∃ p40 : Option Addr,
              ∃ k135 : Nat,
              ∃ k136 : Nat,
              (e13 = Ending.returned (Value.slice p40 k135 k136)) ∧
              (Keep ([k134, k106, k3, k2, k1]) w101 w102) ∧
              ∀ k137 : Nat,
              (w102.heap.size ≤ k137) →
              ∀ w103 : World,
              (Locl ([k137, k134, k106, k3, k2, k1]) w102 w103) →
              appVC (w103) ([(27, k137, [Value.int IntKind.i64 77]), (8, k134, [Value.int IntKind.i64 0, Value.int IntKind.i64 0, Value.slice none 0 0]), (7, k106, [Value.int IntKind.i64 0, Value.int IntKind.i64 0, Value.slice none 0 0]), (5, k3, [Value.int IntKind.i64 x3, Value.int IntKind.i64 x4, Value.slice sa3 sl3 sc3]), (4, k2, [Value.int IntKind.i64 x1, Value.int IntKind.i64 x2, Value.slice sa2 sl2 sc2]), (3, k1, [Value.string st1, Value.slice sa1 sl1 sc1])]) (p40) (k135) (k136) (1) (1) (8) (3) ([Value.int IntKind.i64 0]) ([Value.int IntKind.i64 77]) fun p41 k138 k139 w104 =>
              ∀ w105 : World,
              (Locl ([k137, k134, k106, k3, k2, k1]) w104 w105) →
              I1 [Value.slice p41 k138 k139, Value.pointer (some { block := k106, off := 0 }), Value.int IntKind.i64 n1, Value.int IntKind.i64 n2, Value.slice p1 k4 k5, Value.pointer (some { block := k134, off := 0 }), Value.int IntKind.i64 n3, Value.int IntKind.i64 n4, Value.slice p2 k6 k7] w105) ∧
            ∀ k140 : Nat,
            (w4.heap.size ≤ k140) →
            ∀ w106 : World,
            (Locl ([k140, k134, k106, k3, k2, k1]) w4 w106) →
            Calls P F.law23_ints #[Value.slice sa1 sl1 sc1] w106 fun e14 w107 =>
            ∃ p42 : Option Addr,
            ∃ k141 : Nat,
            ∃ k142 : Nat,
            (e14 = Ending.returned (Value.slice p42 k141 k142)) ∧
            (Keep ([k140, k134, k106, k3, k2, k1]) w106 w107) ∧
            appVC (w107) ([(27, k140, [Value.int IntKind.i64 77]), (8, k134, [Value.int IntKind.i64 0, Value.int IntKind.i64 0, Value.slice none 0 0]), (7, k106, [Value.int IntKind.i64 0, Value.int IntKind.i64 0, Value.slice none 0 0]), (5, k3, [Value.int IntKind.i64 x3, Value.int IntKind.i64 x4, Value.slice sa3 sl3 sc3]), (4, k2, [Value.int IntKind.i64 x1, Value.int IntKind.i64 x2, Value.slice sa2 sl2 sc2]), (3, k1, [Value.string st1, Value.slice sa1 sl1 sc1])]) (p42) (k141) (k142) (1) (1) (8) (3) ([Value.int IntKind.i64 0]) ([Value.int IntKind.i64 77]) fun p43 k143 k144 w108 =>
            ∀ w109 : World,
            (Locl ([k140, k134, k106, k3, k2, k1]) w108 w109) →
            I1 [Value.slice p43 k143 k144, Value.pointer (some { block := k106, off := 0 }), Value.int IntKind.i64 n1, Value.int IntKind.i64 n2, Value.slice p1 k4 k5, Value.pointer (some { block := k134, off := 0 }), Value.int IntKind.i64 n3, Value.int IntKind.i64 n4, Value.slice p2 k6 k7] w109) ∧
          ∀ k145 : Nat,
          (w4.heap.size ≤ k145) →
          (∀ w110 : World,
            (Locl ([k145, k3, k2, k1]) w4 w110) →
            Calls P F.law23_ints #[Value.slice sa1 sl1 sc1] w110 fun e15 w111 =>
            ∃ p44 : Option Addr,
            ∃ k146 : Nat,
            ∃ k147 : Nat,
            (e15 = Ending.returned (Value.slice p44 k146 k147)) ∧
            (Keep ([k145, k3, k2, k1]) w110 w111) ∧
            (∀ k148 : Nat,
              (w111.heap.size ≤ k148) →
              (∀ w112 : World,
                (Locl ([k148, k145, k3, k2, k1]) w111 w112) →
                appVC (w112) ([(27, k148, [Value.int IntKind.i64 77]), (8, k145, [Value.int IntKind.i64 0, Value.int IntKind.i64 0, Value.slice none 0 0]), (5, k3, [Value.int IntKind.i64 x3, Value.int IntKind.i64 x4, Value.slice sa3 sl3 sc3]), (4, k2, [Value.int IntKind.i64 x1, Value.int IntKind.i64 x2, Value.slice sa2 sl2 sc2]), (3, k1, [Value.string st1, Value.slice sa1 sl1 sc1])]) (p44) (k146) (k147) (1) (1) (8) (3) ([Value.int IntKind.i64 0]) ([Value.int IntKind.i64 77]) fun p45 k149 k150 w113 =>
                ∀ k151 : Nat,
                (w113.heap.size ≤ k151) →
                ∀ w114 : World,
                (Locl ([k151, k148, k145, k3, k2, k1]) w113 w114) →
                I1 [Value.slice p45 k149 k150, Value.pointer (some { block := k151, off := 0 }), Value.int IntKind.i64 n1, Value.int IntKind.i64 n2, Value.slice p1 k4 k5, Value.pointer (some { block := k145, off := 0 }), Value.int IntKind.i64 n3, Value.int IntKind.i64 n4, Value.slice p2 k6 k7] w114) ∧
              ∀ k152 : Nat,
              (w111.heap.size ≤ k152) →
              ∀ w115 : World,
              (Locl ([k152, k148, k145, k3, k2, k1]) w111 w115) →
              appVC (w115) ([(7, k152, [Value.int IntKind.i64 0, Value.int IntKind.i64 0, Value.slice none 0 0]), (27, k148, [Value.int IntKind.i64 77]), (8, k145, [Value.int IntKind.i64 0, Value.int IntKind.i64 0, Value.slice none 0 0]), (5, k3, [Value.int IntKind.i64 x3, Value.int IntKind.i64 x4, Value.slice sa3 sl3 sc3]), (4, k2, [Value.int IntKind.i64 x1, Value.int IntKind.i64 x2, Value.slice sa2 sl2 sc2]), (3, k1, [Value.string st1, Value.slice sa1 sl1 sc1])]) (p44) (k146) (k147) (1) (1) (8) (3) ([Value.int IntKind.i64 0]) ([Value.int IntKind.i64 77]) fun p46 k153 k154 w116 =>
              ∀ w117 : World,
              (Locl ([k152, k148, k145, k3, k2, k1]) w116 w117) →
              I1 [Value.slice p46 k153 k154, Value.pointer (some { block := k152, off := 0 }), Value.int IntKind.i64 n1, Value.int IntKind.i64 n2, Value.slice p1 k4 k5, Value.pointer (some { block := k145, off := 0 }), Value.int IntKind.i64 n3, Value.int IntKind.i64 n4, Value.slice p2 k6 k7] w117) ∧
            ∀ k155 : Nat,
            (w111.heap.size ≤ k155) →
            ∀ k156 : Nat,
            (w111.heap.size ≤ k156) →
            ∀ w118 : World,
            (Locl ([k156, k155, k145, k3, k2, k1]) w111 w118) →
            appVC (w118) ([(27, k156, [Value.int IntKind.i64 77]), (7, k155, [Value.int IntKind.i64 0, Value.int IntKind.i64 0, Value.slice none 0 0]), (8, k145, [Value.int IntKind.i64 0, Value.int IntKind.i64 0, Value.slice none 0 0]), (5, k3, [Value.int IntKind.i64 x3, Value.int IntKind.i64 x4, Value.slice sa3 sl3 sc3]), (4, k2, [Value.int IntKind.i64 x1, Value.int IntKind.i64 x2, Value.slice sa2 sl2 sc2]), (3, k1, [Value.string st1, Value.slice sa1 sl1 sc1])]) (p44) (k146) (k147) (1) (1) (8) (3) ([Value.int IntKind.i64 0]) ([Value.int IntKind.i64 77]) fun p47 k157 k158 w119 =>
            ∀ w120 : World,
            (Locl ([k156, k155, k145, k3, k2, k1]) w119 w120) →
            I1 [Value.slice p47 k157 k158, Value.pointer (some { block := k155, off := 0 }), Value.int IntKind.i64 n1, Value.int IntKind.i64 n2, Value.slice p1 k4 k5, Value.pointer (some { block := k145, off := 0 }), Value.int IntKind.i64 n3, Value.int IntKind.i64 n4, Value.slice p2 k6 k7] w120) ∧
          (∀ k159 : Nat,
            (w4.heap.size ≤ k159) →
            (∀ w121 : World,
              (Locl ([k159, k145, k3, k2, k1]) w4 w121) →
              Calls P F.law23_ints #[Value.slice sa1 sl1 sc1] w121 fun e16 w122 =>
              ∃ p48 : Option Addr,
              ∃ k160 : Nat,
              ∃ k161 : Nat,
              (e16 = Ending.returned (Value.slice p48 k160 k161)) ∧
              (Keep ([k159, k145, k3, k2, k1]) w121 w122) ∧
              (appVC (w122) ([(27, k159, [Value.int IntKind.i64 77]), (8, k145, [Value.int IntKind.i64 0, Value.int IntKind.i64 0, Value.slice none 0 0]), (5, k3, [Value.int IntKind.i64 x3, Value.int IntKind.i64 x4, Value.slice sa3 sl3 sc3]), (4, k2, [Value.int IntKind.i64 x1, Value.int IntKind.i64 x2, Value.slice sa2 sl2 sc2]), (3, k1, [Value.string st1, Value.slice sa1 sl1 sc1])]) (p48) (k160) (k161) (1) (1) (8) (3) ([Value.int IntKind.i64 0]) ([Value.int IntKind.i64 77]) fun p49 k162 k163 w123 =>
                ∀ k164 : Nat,
                (w123.heap.size ≤ k164) →
                ∀ w124 : World,
                (Locl ([k164, k159, k145, k3, k2, k1]) w123 w124) →
                I1 [Value.slice p49 k162 k163, Value.pointer (some { block := k164, off := 0 }), Value.int IntKind.i64 n1, Value.int IntKind.i64 n2, Value.slice p1 k4 k5, Value.pointer (some { block := k145, off := 0 }), Value.int IntKind.i64 n3, Value.int IntKind.i64 n4, Value.slice p2 k6 k7] w124) ∧
              ∀ k165 : Nat,
              (w122.heap.size ≤ k165) →
              ∀ w125 : World,
              (Locl ([k165, k159, k145, k3, k2, k1]) w122 w125) →
              appVC (w125) ([(7, k165, [Value.int IntKind.i64 0, Value.int IntKind.i64 0, Value.slice none 0 0]), (27, k159, [Value.int IntKind.i64 77]), (8, k145, [Value.int IntKind.i64 0, Value.int IntKind.i64 0, Value.slice none 0 0]), (5, k3, [Value.int IntKind.i64 x3, Value.int IntKind.i64 x4, Value.slice sa3 sl3 sc3]), (4, k2, [Value.int IntKind.i64 x1, Value.int IntKind.i64 x2, Value.slice sa2 sl2 sc2]), (3, k1, [Value.string st1, Value.slice sa1 sl1 sc1])]) (p48) (k160) (k161) (1) (1) (8) (3) ([Value.int IntKind.i64 0]) ([Value.int IntKind.i64 77]) fun p50 k166 k167 w126 =>
              ∀ w127 : World,
              (Locl ([k165, k159, k145, k3, k2, k1]) w126 w127) →
              I1 [Value.slice p50 k166 k167, Value.pointer (some { block := k165, off := 0 }), Value.int IntKind.i64 n1, Value.int IntKind.i64 n2, Value.slice p1 k4 k5, Value.pointer (some { block := k145, off := 0 }), Value.int IntKind.i64 n3, Value.int IntKind.i64 n4, Value.slice p2 k6 k7] w127) ∧
            ∀ k168 : Nat,
            (w4.heap.size ≤ k168) →
            ∀ w128 : World,
            (Locl ([k168, k159, k145, k3, k2, k1]) w4 w128) →
            Calls P F.law23_ints #[Value.slice sa1 sl1 sc1] w128 fun e17 w129 =>
            ∃ p51 : Option Addr,
            ∃ k169 : Nat,
            ∃ k170 : Nat,
            (e17 = Ending.returned (Value.slice p51 k169 k170)) ∧
            (Keep ([k168, k159, k145, k3, k2, k1]) w128 w129) ∧
            appVC (w129) ([(7, k168, [Value.int IntKind.i64 0, Value.int IntKind.i64 0, Value.slice none 0 0]), (27, k159, [Value.int IntKind.i64 77]), (8, k145, [Value.int IntKind.i64 0, Value.int IntKind.i64 0, Value.slice none 0 0]), (5, k3, [Value.int IntKind.i64 x3, Value.int IntKind.i64 x4, Value.slice sa3 sl3 sc3]), (4, k2, [Value.int IntKind.i64 x1, Value.int IntKind.i64 x2, Value.slice sa2 sl2 sc2]), (3, k1, [Value.string st1, Value.slice sa1 sl1 sc1])]) (p51) (k169) (k170) (1) (1) (8) (3) ([Value.int IntKind.i64 0]) ([Value.int IntKind.i64 77]) fun p52 k171 k172 w130 =>
            ∀ w131 : World,
            (Locl ([k168, k159, k145, k3, k2, k1]) w130 w131) →
            I1 [Value.slice p52 k171 k172, Value.pointer (some { block := k168, off := 0 }), Value.int IntKind.i64 n1, Value.int IntKind.i64 n2, Value.slice p1 k4 k5, Value.pointer (some { block := k145, off := 0 }), Value.int IntKind.i64 n3, Value.int IntKind.i64 n4, Value.slice p2 k6 k7] w131) ∧
          ∀ k173 : Nat,
          (w4.heap.size ≤ k173) →
          (∀ w132 : World,
            (Locl ([k173, k145, k3, k2, k1]) w4 w132) →
            Calls P F.law23_ints #[Value.slice sa1 sl1 sc1] w132 fun e18 w133 =>
            ∃ p53 : Option Addr,
            ∃ k174 : Nat,
            ∃ k175 : Nat,
            (e18 = Ending.returned (Value.slice p53 k174 k175)) ∧
            (Keep ([k173, k145, k3, k2, k1]) w132 w133) ∧
            ∀ k176 : Nat,
            (w133.heap.size ≤ k176) →
            ∀ w134 : World,
            (Locl ([k176, k173, k145, k3, k2, k1]) w133 w134) →
            appVC (w134) ([(27, k176, [Value.int IntKind.i64 77]), (7, k173, [Value.int IntKind.i64 0, Value.int IntKind.i64 0, Value.slice none 0 0]), (8, k145, [Value.int IntKind.i64 0, Value.int IntKind.i64 0, Value.slice none 0 0]), (5, k3, [Value.int IntKind.i64 x3, Value.int IntKind.i64 x4, Value.slice sa3 sl3 sc3]), (4, k2, [Value.int IntKind.i64 x1, Value.int IntKind.i64 x2, Value.slice sa2 sl2 sc2]), (3, k1, [Value.string st1, Value.slice sa1 sl1 sc1])]) (p53) (k174) (k175) (1) (1) (8) (3) ([Value.int IntKind.i64 0]) ([Value.int IntKind.i64 77]) fun p54 k177 k178 w135 =>
            ∀ w136 : World,
            (Locl ([k176, k173, k145, k3, k2, k1]) w135 w136) →
            I1 [Value.slice p54 k177 k178, Value.pointer (some { block := k173, off := 0 }), Value.int IntKind.i64 n1, Value.int IntKind.i64 n2, Value.slice p1 k4 k5, Value.pointer (some { block := k145, off := 0 }), Value.int IntKind.i64 n3, Value.int IntKind.i64 n4, Value.slice p2 k6 k7] w136) ∧
          ∀ k179 : Nat,
          (w4.heap.size ≤ k179) →
          ∀ w137 : World,
          (Locl ([k179, k173, k145, k3, k2, k1]) w4 w137) →
          Calls P F.law23_ints #[Value.slice sa1 sl1 sc1] w137 fun e19 w138 =>
          ∃ p55 : Option Addr,
          ∃ k180 : Nat,
          ∃ k181 : Nat,
          (e19 = Ending.returned (Value.slice p55 k180 k181)) ∧
          (Keep ([k179, k173, k145, k3, k2, k1]) w137 w138) ∧
          appVC (w138) ([(27, k179, [Value.int IntKind.i64 77]), (7, k173, [Value.int IntKind.i64 0, Value.int IntKind.i64 0, Value.slice none 0 0]), (8, k145, [Value.int IntKind.i64 0, Value.int IntKind.i64 0, Value.slice none 0 0]), (5, k3, [Value.int IntKind.i64 x3, Value.int IntKind.i64 x4, Value.slice sa3 sl3 sc3]), (4, k2, [Value.int IntKind.i64 x1, Value.int IntKind.i64 x2, Value.slice sa2 sl2 sc2]), (3, k1, [Value.string st1, Value.slice sa1 sl1 sc1])]) (p55) (k180) (k181) (1) (1) (8) (3) ([Value.int IntKind.i64 0]) ([Value.int IntKind.i64 77]) fun p56 k182 k183 w139 =>
          ∀ w140 : World,
          (Locl ([k179, k173, k145, k3, k2, k1]) w139 w140) →
          I1 [Value.slice p56 k182 k183, Value.pointer (some { block := k173, off := 0 }), Value.int IntKind.i64 n1, Value.int IntKind.i64 n2, Value.slice p1 k4 k5, Value.pointer (some { block := k145, off := 0 }), Value.int IntKind.i64 n3, Value.int IntKind.i64 n4, Value.slice p2 k6 k7] w140) ∧
        (∀ k184 : Nat,
          (w3.heap.size ≤ k184) →
          (∀ w141 : World,
            (Locl ([k184, k3, k2, k1]) w3 w141) →
            Calls P F.law23_own #[Value.agg #[Value.int IntKind.i64 x3, Value.int IntKind.i64 x4, Value.slice sa3 sl3 sc3]] w141 fun e20 w142 =>
            ∃ n5 : Int,
            ∃ n6 : Int,
            ∃ p57 : Option Addr,
            ∃ k185 : Nat,
            ∃ k186 : Nat,
            (e20 = Ending.returned (Value.agg #[Value.int IntKind.i64 n5, Value.int IntKind.i64 n6, Value.slice p57 k185 k186])) ∧
            (Keep ([k184, k3, k2, k1]) w141 w142) ∧
            (Keeps w141 w142) ∧
            (Calls P F.law23_ints #[Value.slice sa1 sl1 sc1] w142 fun e21 w143 =>
              ∃ p58 : Option Addr,
              ∃ k187 : Nat,
              ∃ k188 : Nat,
              (e21 = Ending.returned (Value.slice p58 k187 k188)) ∧
              (Keep ([k184, k3, k2, k1]) w142 w143) ∧
              (appVC (w143) ([(27, k184, [Value.int IntKind.i64 77]), (5, k3, [Value.int IntKind.i64 x3, Value.int IntKind.i64 x4, Value.slice sa3 sl3 sc3]), (4, k2, [Value.int IntKind.i64 x1, Value.int IntKind.i64 x2, Value.slice sa2 sl2 sc2]), (3, k1, [Value.string st1, Value.slice sa1 sl1 sc1])]) (p58) (k187) (k188) (1) (1) (8) (3) ([Value.int IntKind.i64 0]) ([Value.int IntKind.i64 77]) fun p59 k189 k190 w144 =>
                (∀ k191 : Nat,
                  (w144.heap.size ≤ k191) →
                  ∀ k192 : Nat,
                  (w144.heap.size ≤ k192) →
                  ∀ w145 : World,
                  (Locl ([k192, k191, k184, k3, k2, k1]) w144 w145) →
                  I1 [Value.slice p59 k189 k190, Value.pointer (some { block := k191, off := 0 }), Value.int IntKind.i64 n1, Value.int IntKind.i64 n2, Value.slice p1 k4 k5, Value.pointer (some { block := k192, off := 0 }), Value.int IntKind.i64 n5, Value.int IntKind.i64 n6, Value.slice p57 k185 k186] w145) ∧
                ∀ k193 : Nat,
                (w144.heap.size ≤ k193) →
                ∀ k194 : Nat,
                (w144.heap.size ≤ k194) →
                ∀ w146 : World,
                (Locl ([k194, k193, k184, k3, k2, k1]) w144 w146) →
                I1 [Value.slice p59 k189 k190, Value.pointer (some { block := k194, off := 0 }), Value.int IntKind.i64 n1, Value.int IntKind.i64 n2, Value.slice p1 k4 k5, Value.pointer (some { block := k193, off := 0 }), Value.int IntKind.i64 n5, Value.int IntKind.i64 n6, Value.slice p57 k185 k186] w146) ∧
              (∀ k195 : Nat,
                (w143.heap.size ≤ k195) →
                (∀ w147 : World,
                  (Locl ([k195, k184, k3, k2, k1]) w143 w147) →
                  appVC (w147) ([(7, k195, [Value.int IntKind.i64 0, Value.int IntKind.i64 0, Value.slice none 0 0]), (27, k184, [Value.int IntKind.i64 77]), (5, k3, [Value.int IntKind.i64 x3, Value.int IntKind.i64 x4, Value.slice sa3 sl3 sc3]), (4, k2, [Value.int IntKind.i64 x1, Value.int IntKind.i64 x2, Value.slice sa2 sl2 sc2]), (3, k1, [Value.string st1, Value.slice sa1 sl1 sc1])]) (p58) (k187) (k188) (1) (1) (8) (3) ([Value.int IntKind.i64 0]) ([Value.int IntKind.i64 77]) fun p60 k196 k197 w148 =>
                  ∀ k198 : Nat,
                  (w148.heap.size ≤ k198) →
                  ∀ w149 : World,
                  (Locl ([k198, k195, k184, k3, k2, k1]) w148 w149) →
                  I1 [Value.slice p60 k196 k197, Value.pointer (some { block := k195, off := 0 }), Value.int IntKind.i64 n1, Value.int IntKind.i64 n2, Value.slice p1 k4 k5, Value.pointer (some { block := k198, off := 0 }), Value.int IntKind.i64 n5, Value.int IntKind.i64 n6, Value.slice p57 k185 k186] w149) ∧
                ∀ k199 : Nat,
                (w143.heap.size ≤ k199) →
                ∀ w150 : World,
                (Locl ([k199, k195, k184, k3, k2, k1]) w143 w150) →
                appVC (w150) ([(8, k199, [Value.int IntKind.i64 0, Value.int IntKind.i64 0, Value.slice none 0 0]), (7, k195, [Value.int IntKind.i64 0, Value.int IntKind.i64 0, Value.slice none 0 0]), (27, k184, [Value.int IntKind.i64 77]), (5, k3, [Value.int IntKind.i64 x3, Value.int IntKind.i64 x4, Value.slice sa3 sl3 sc3]), (4, k2, [Value.int IntKind.i64 x1, Value.int IntKind.i64 x2, Value.slice sa2 sl2 sc2]), (3, k1, [Value.string st1, Value.slice sa1 sl1 sc1])]) (p58) (k187) (k188) (1) (1) (8) (3) ([Value.int IntKind.i64 0]) ([Value.int IntKind.i64 77]) fun p61 k200 k201 w151 =>
                ∀ w152 : World,
                (Locl ([k199, k195, k184, k3, k2, k1]) w151 w152) →
                I1 [Value.slice p61 k200 k201, Value.pointer (some { block := k195, off := 0 }), Value.int IntKind.i64 n1, Value.int IntKind.i64 n2, Value.slice p1 k4 k5, Value.pointer (some { block := k199, off := 0 }), Value.int IntKind.i64 n5, Value.int IntKind.i64 n6, Value.slice p57 k185 k186] w152) ∧
              ∀ k202 : Nat,
              (w143.heap.size ≤ k202) →
              (∀ w153 : World,
                (Locl ([k202, k184, k3, k2, k1]) w143 w153) →
                appVC (w153) ([(8, k202, [Value.int IntKind.i64 0, Value.int IntKind.i64 0, Value.slice none 0 0]), (27, k184, [Value.int IntKind.i64 77]), (5, k3, [Value.int IntKind.i64 x3, Value.int IntKind.i64 x4, Value.slice sa3 sl3 sc3]), (4, k2, [Value.int IntKind.i64 x1, Value.int IntKind.i64 x2, Value.slice sa2 sl2 sc2]), (3, k1, [Value.string st1, Value.slice sa1 sl1 sc1])]) (p58) (k187) (k188) (1) (1) (8) (3) ([Value.int IntKind.i64 0]) ([Value.int IntKind.i64 77]) fun p62 k203 k204 w154 =>
                ∀ k205 : Nat,
                (w154.heap.size ≤ k205) →
                ∀ w155 : World,
                (Locl ([k205, k202, k184, k3, k2, k1]) w154 w155) →
                I1 [Value.slice p62 k203 k204, Value.pointer (some { block := k205, off := 0 }), Value.int IntKind.i64 n1, Value.int IntKind.i64 n2, Value.slice p1 k4 k5, Value.pointer (some { block := k202, off := 0 }), Value.int IntKind.i64 n5, Value.int IntKind.i64 n6, Value.slice p57 k185 k186] w155) ∧
              ∀ k206 : Nat,
              (w143.heap.size ≤ k206) →
              ∀ w156 : World,
              (Locl ([k206, k202, k184, k3, k2, k1]) w143 w156) →
              appVC (w156) ([(7, k206, [Value.int IntKind.i64 0, Value.int IntKind.i64 0, Value.slice none 0 0]), (8, k202, [Value.int IntKind.i64 0, Value.int IntKind.i64 0, Value.slice none 0 0]), (27, k184, [Value.int IntKind.i64 77]), (5, k3, [Value.int IntKind.i64 x3, Value.int IntKind.i64 x4, Value.slice sa3 sl3 sc3]), (4, k2, [Value.int IntKind.i64 x1, Value.int IntKind.i64 x2, Value.slice sa2 sl2 sc2]), (3, k1, [Value.string st1, Value.slice sa1 sl1 sc1])]) (p58) (k187) (k188) (1) (1) (8) (3) ([Value.int IntKind.i64 0]) ([Value.int IntKind.i64 77]) fun p63 k207 k208 w157 =>
              ∀ w158 : World,
              (Locl ([k206, k202, k184, k3, k2, k1]) w157 w158) →
              I1 [Value.slice p63 k207 k208, Value.pointer (some { block := k206, off := 0 }), Value.int IntKind.i64 n1, Value.int IntKind.i64 n2, Value.slice p1 k4 k5, Value.pointer (some { block := k202, off := 0 }), Value.int IntKind.i64 n5, Value.int IntKind.i64 n6, Value.slice p57 k185 k186] w158) ∧
            (∀ k209 : Nat,
              (w142.heap.size ≤ k209) →
              (∀ w159 : World,
                (Locl ([k209, k184, k3, k2, k1]) w142 w159) →
                Calls P F.law23_ints #[Value.slice sa1 sl1 sc1] w159 fun e22 w160 =>
                ∃ p64 : Option Addr,
                ∃ k210 : Nat,
                ∃ k211 : Nat,
                (e22 = Ending.returned (Value.slice p64 k210 k211)) ∧
                (Keep ([k209, k184, k3, k2, k1]) w159 w160) ∧
                (appVC (w160) ([(7, k209, [Value.int IntKind.i64 0, Value.int IntKind.i64 0, Value.slice none 0 0]), (27, k184, [Value.int IntKind.i64 77]), (5, k3, [Value.int IntKind.i64 x3, Value.int IntKind.i64 x4, Value.slice sa3 sl3 sc3]), (4, k2, [Value.int IntKind.i64 x1, Value.int IntKind.i64 x2, Value.slice sa2 sl2 sc2]), (3, k1, [Value.string st1, Value.slice sa1 sl1 sc1])]) (p64) (k210) (k211) (1) (1) (8) (3) ([Value.int IntKind.i64 0]) ([Value.int IntKind.i64 77]) fun p65 k212 k213 w161 =>
                  ∀ k214 : Nat,
                  (w161.heap.size ≤ k214) →
                  ∀ w162 : World,
                  (Locl ([k214, k209, k184, k3, k2, k1]) w161 w162) →
                  I1 [Value.slice p65 k212 k213, Value.pointer (some { block := k209, off := 0 }), Value.int IntKind.i64 n1, Value.int IntKind.i64 n2, Value.slice p1 k4 k5, Value.pointer (some { block := k214, off := 0 }), Value.int IntKind.i64 n5, Value.int IntKind.i64 n6, Value.slice p57 k185 k186] w162) ∧
                ∀ k215 : Nat,
                (w160.heap.size ≤ k215) →
                ∀ w163 : World,
                (Locl ([k215, k209, k184, k3, k2, k1]) w160 w163) →
                appVC (w163) ([(8, k215, [Value.int IntKind.i64 0, Value.int IntKind.i64 0, Value.slice none 0 0]), (7, k209, [Value.int IntKind.i64 0, Value.int IntKind.i64 0, Value.slice none 0 0]), (27, k184, [Value.int IntKind.i64 77]), (5, k3, [Value.int IntKind.i64 x3, Value.int IntKind.i64 x4, Value.slice sa3 sl3 sc3]), (4, k2, [Value.int IntKind.i64 x1, Value.int IntKind.i64 x2, Value.slice sa2 sl2 sc2]), (3, k1, [Value.string st1, Value.slice sa1 sl1 sc1])]) (p64) (k210) (k211) (1) (1) (8) (3) ([Value.int IntKind.i64 0]) ([Value.int IntKind.i64 77]) fun p66 k216 k217 w164 =>
                ∀ w165 : World,
                (Locl ([k215, k209, k184, k3, k2, k1]) w164 w165) →
                I1 [Value.slice p66 k216 k217, Value.pointer (some { block := k209, off := 0 }), Value.int IntKind.i64 n1, Value.int IntKind.i64 n2, Value.slice p1 k4 k5, Value.pointer (some { block := k215, off := 0 }), Value.int IntKind.i64 n5, Value.int IntKind.i64 n6, Value.slice p57 k185 k186] w165) ∧
              ∀ k218 : Nat,
              (w142.heap.size ≤ k218) →
              ∀ w166 : World,
              (Locl ([k218, k209, k184, k3, k2, k1]) w142 w166) →
              Calls P F.law23_ints #[Value.slice sa1 sl1 sc1] w166 fun e23 w167 =>
              ∃ p67 : Option Addr,
              ∃ k219 : Nat,
              ∃ k220 : Nat,
              (e23 = Ending.returned (Value.slice p67 k219 k220)) ∧
              (Keep ([k218, k209, k184, k3, k2, k1]) w166 w167) ∧
              appVC (w167) ([(8, k218, [Value.int IntKind.i64 0, Value.int IntKind.i64 0, Value.slice none 0 0]), (7, k209, [Value.int IntKind.i64 0, Value.int IntKind.i64 0, Value.slice none 0 0]), (27, k184, [Value.int IntKind.i64 77]), (5, k3, [Value.int IntKind.i64 x3, Value.int IntKind.i64 x4, Value.slice sa3 sl3 sc3]), (4, k2, [Value.int IntKind.i64 x1, Value.int IntKind.i64 x2, Value.slice sa2 sl2 sc2]), (3, k1, [Value.string st1, Value.slice sa1 sl1 sc1])]) (p67) (k219) (k220) (1) (1) (8) (3) ([Value.int IntKind.i64 0]) ([Value.int IntKind.i64 77]) fun p68 k221 k222 w168 =>
              ∀ w169 : World,
              (Locl ([k218, k209, k184, k3, k2, k1]) w168 w169) →
              I1 [Value.slice p68 k221 k222, Value.pointer (some { block := k209, off := 0 }), Value.int IntKind.i64 n1, Value.int IntKind.i64 n2, Value.slice p1 k4 k5, Value.pointer (some { block := k218, off := 0 }), Value.int IntKind.i64 n5, Value.int IntKind.i64 n6, Value.slice p57 k185 k186] w169) ∧
            ∀ k223 : Nat,
            (w142.heap.size ≤ k223) →
            (∀ w170 : World,
              (Locl ([k223, k184, k3, k2, k1]) w142 w170) →
              Calls P F.law23_ints #[Value.slice sa1 sl1 sc1] w170 fun e24 w171 =>
              ∃ p69 : Option Addr,
              ∃ k224 : Nat,
              ∃ k225 : Nat,
              (e24 = Ending.returned (Value.slice p69 k224 k225)) ∧
              (Keep ([k223, k184, k3, k2, k1]) w170 w171) ∧
              (appVC (w171) ([(8, k223, [Value.int IntKind.i64 0, Value.int IntKind.i64 0, Value.slice none 0 0]), (27, k184, [Value.int IntKind.i64 77]), (5, k3, [Value.int IntKind.i64 x3, Value.int IntKind.i64 x4, Value.slice sa3 sl3 sc3]), (4, k2, [Value.int IntKind.i64 x1, Value.int IntKind.i64 x2, Value.slice sa2 sl2 sc2]), (3, k1, [Value.string st1, Value.slice sa1 sl1 sc1])]) (p69) (k224) (k225) (1) (1) (8) (3) ([Value.int IntKind.i64 0]) ([Value.int IntKind.i64 77]) fun p70 k226 k227 w172 =>
                ∀ k228 : Nat,
                (w172.heap.size ≤ k228) →
                ∀ w173 : World,
                (Locl ([k228, k223, k184, k3, k2, k1]) w172 w173) →
                I1 [Value.slice p70 k226 k227, Value.pointer (some { block := k228, off := 0 }), Value.int IntKind.i64 n1, Value.int IntKind.i64 n2, Value.slice p1 k4 k5, Value.pointer (some { block := k223, off := 0 }), Value.int IntKind.i64 n5, Value.int IntKind.i64 n6, Value.slice p57 k185 k186] w173) ∧
              ∀ k229 : Nat,
              (w171.heap.size ≤ k229) →
              ∀ w174 : World,
              (Locl ([k229, k223, k184, k3, k2, k1]) w171 w174) →
              appVC (w174) ([(7, k229, [Value.int IntKind.i64 0, Value.int IntKind.i64 0, Value.slice none 0 0]), (8, k223, [Value.int IntKind.i64 0, Value.int IntKind.i64 0, Value.slice none 0 0]), (27, k184, [Value.int IntKind.i64 77]), (5, k3, [Value.int IntKind.i64 x3, Value.int IntKind.i64 x4, Value.slice sa3 sl3 sc3]), (4, k2, [Value.int IntKind.i64 x1, Value.int IntKind.i64 x2, Value.slice sa2 sl2 sc2]), (3, k1, [Value.string st1, Value.slice sa1 sl1 sc1])]) (p69) (k224) (k225) (1) (1) (8) (3) ([Value.int IntKind.i64 0]) ([Value.int IntKind.i64 77]) fun p71 k230 k231 w175 =>
              ∀ w176 : World,
              (Locl ([k229, k223, k184, k3, k2, k1]) w175 w176) →
              I1 [Value.slice p71 k230 k231, Value.pointer (some { block := k229, off := 0 }), Value.int IntKind.i64 n1, Value.int IntKind.i64 n2, Value.slice p1 k4 k5, Value.pointer (some { block := k223, off := 0 }), Value.int IntKind.i64 n5, Value.int IntKind.i64 n6, Value.slice p57 k185 k186] w176) ∧
            ∀ k232 : Nat,
            (w142.heap.size ≤ k232) →
            ∀ w177 : World,
            (Locl ([k232, k223, k184, k3, k2, k1]) w142 w177) →
            Calls P F.law23_ints #[Value.slice sa1 sl1 sc1] w177 fun e25 w178 =>
            ∃ p72 : Option Addr,
            ∃ k233 : Nat,
            ∃ k234 : Nat,
            (e25 = Ending.returned (Value.slice p72 k233 k234)) ∧
            (Keep ([k232, k223, k184, k3, k2, k1]) w177 w178) ∧
            appVC (w178) ([(7, k232, [Value.int IntKind.i64 0, Value.int IntKind.i64 0, Value.slice none 0 0]), (8, k223, [Value.int IntKind.i64 0, Value.int IntKind.i64 0, Value.slice none 0 0]), (27, k184, [Value.int IntKind.i64 77]), (5, k3, [Value.int IntKind.i64 x3, Value.int IntKind.i64 x4, Value.slice sa3 sl3 sc3]), (4, k2, [Value.int IntKind.i64 x1, Value.int IntKind.i64 x2, Value.slice sa2 sl2 sc2]), (3, k1, [Value.string st1, Value.slice sa1 sl1 sc1])]) (p72) (k233) (k234) (1) (1) (8) (3) ([Value.int IntKind.i64 0]) ([Value.int IntKind.i64 77]) fun p73 k235 k236 w179 =>
            ∀ w180 : World,
            (Locl ([k232, k223, k184, k3, k2, k1]) w179 w180) →
            I1 [Value.slice p73 k235 k236, Value.pointer (some { block := k232, off := 0 }), Value.int IntKind.i64 n1, Value.int IntKind.i64 n2, Value.slice p1 k4 k5, Value.pointer (some { block := k223, off := 0 }), Value.int IntKind.i64 n5, Value.int IntKind.i64 n6, Value.slice p57 k185 k186] w180) ∧
          (∀ k237 : Nat,
            (w3.heap.size ≤ k237) →
            (∀ w181 : World,
              (Locl ([k237, k184, k3, k2, k1]) w3 w181) →
              Calls P F.law23_own #[Value.agg #[Value.int IntKind.i64 x3, Value.int IntKind.i64 x4, Value.slice sa3 sl3 sc3]] w181 fun e26 w182 =>
              ∃ n7 : Int,
              ∃ n8 : Int,
              ∃ p74 : Option Addr,
              ∃ k238 : Nat,
              ∃ k239 : Nat,
              (e26 = Ending.returned (Value.agg #[Value.int IntKind.i64 n7, Value.int IntKind.i64 n8, Value.slice p74 k238 k239])) ∧
              (Keep ([k237, k184, k3, k2, k1]) w181 w182) ∧
              (Keeps w181 w182) ∧
              (Calls P F.law23_ints #[Value.slice sa1 sl1 sc1] w182 fun e27 w183 =>
                ∃ p75 : Option Addr,
                ∃ k240 : Nat,
                ∃ k241 : Nat,
                (e27 = Ending.returned (Value.slice p75 k240 k241)) ∧
                (Keep ([k237, k184, k3, k2, k1]) w182 w183) ∧
                (appVC (w183) ([(7, k237, [Value.int IntKind.i64 0, Value.int IntKind.i64 0, Value.slice none 0 0]), (27, k184, [Value.int IntKind.i64 77]), (5, k3, [Value.int IntKind.i64 x3, Value.int IntKind.i64 x4, Value.slice sa3 sl3 sc3]), (4, k2, [Value.int IntKind.i64 x1, Value.int IntKind.i64 x2, Value.slice sa2 sl2 sc2]), (3, k1, [Value.string st1, Value.slice sa1 sl1 sc1])]) (p75) (k240) (k241) (1) (1) (8) (3) ([Value.int IntKind.i64 0]) ([Value.int IntKind.i64 77]) fun p76 k242 k243 w184 =>
                  ∀ k244 : Nat,
                  (w184.heap.size ≤ k244) →
                  ∀ w185 : World,
                  (Locl ([k244, k237, k184, k3, k2, k1]) w184 w185) →
                  I1 [Value.slice p76 k242 k243, Value.pointer (some { block := k237, off := 0 }), Value.int IntKind.i64 n1, Value.int IntKind.i64 n2, Value.slice p1 k4 k5, Value.pointer (some { block := k244, off := 0 }), Value.int IntKind.i64 n7, Value.int IntKind.i64 n8, Value.slice p74 k238 k239] w185) ∧
                ∀ k245 : Nat,
                (w183.heap.size ≤ k245) →
                ∀ w186 : World,
                (Locl ([k245, k237, k184, k3, k2, k1]) w183 w186) →
                appVC (w186) ([(8, k245, [Value.int IntKind.i64 0, Value.int IntKind.i64 0, Value.slice none 0 0]), (7, k237, [Value.int IntKind.i64 0, Value.int IntKind.i64 0, Value.slice none 0 0]), (27, k184, [Value.int IntKind.i64 77]), (5, k3, [Value.int IntKind.i64 x3, Value.int IntKind.i64 x4, Value.slice sa3 sl3 sc3]), (4, k2, [Value.int IntKind.i64 x1, Value.int IntKind.i64 x2, Value.slice sa2 sl2 sc2]), (3, k1, [Value.string st1, Value.slice sa1 sl1 sc1])]) (p75) (k240) (k241) (1) (1) (8) (3) ([Value.int IntKind.i64 0]) ([Value.int IntKind.i64 77]) fun p77 k246 k247 w187 =>
                ∀ w188 : World,
                (Locl ([k245, k237, k184, k3, k2, k1]) w187 w188) →
                I1 [Value.slice p77 k246 k247, Value.pointer (some { block := k237, off := 0 }), Value.int IntKind.i64 n1, Value.int IntKind.i64 n2, Value.slice p1 k4 k5, Value.pointer (some { block := k245, off := 0 }), Value.int IntKind.i64 n7, Value.int IntKind.i64 n8, Value.slice p74 k238 k239] w188) ∧
              ∀ k248 : Nat,
              (w182.heap.size ≤ k248) →
              ∀ w189 : World,
              (Locl ([k248, k237, k184, k3, k2, k1]) w182 w189) →
              Calls P F.law23_ints #[Value.slice sa1 sl1 sc1] w189 fun e28 w190 =>
              ∃ p78 : Option Addr,
              ∃ k249 : Nat,
              ∃ k250 : Nat,
              (e28 = Ending.returned (Value.slice p78 k249 k250)) ∧
              (Keep ([k248, k237, k184, k3, k2, k1]) w189 w190) ∧
              appVC (w190) ([(8, k248, [Value.int IntKind.i64 0, Value.int IntKind.i64 0, Value.slice none 0 0]), (7, k237, [Value.int IntKind.i64 0, Value.int IntKind.i64 0, Value.slice none 0 0]), (27, k184, [Value.int IntKind.i64 77]), (5, k3, [Value.int IntKind.i64 x3, Value.int IntKind.i64 x4, Value.slice sa3 sl3 sc3]), (4, k2, [Value.int IntKind.i64 x1, Value.int IntKind.i64 x2, Value.slice sa2 sl2 sc2]), (3, k1, [Value.string st1, Value.slice sa1 sl1 sc1])]) (p78) (k249) (k250) (1) (1) (8) (3) ([Value.int IntKind.i64 0]) ([Value.int IntKind.i64 77]) fun p79 k251 k252 w191 =>
              ∀ w192 : World,
              (Locl ([k248, k237, k184, k3, k2, k1]) w191 w192) →
              I1 [Value.slice p79 k251 k252, Value.pointer (some { block := k237, off := 0 }), Value.int IntKind.i64 n1, Value.int IntKind.i64 n2, Value.slice p1 k4 k5, Value.pointer (some { block := k248, off := 0 }), Value.int IntKind.i64 n7, Value.int IntKind.i64 n8, Value.slice p74 k238 k239] w192) ∧
            ∀ k253 : Nat,
            (w3.heap.size ≤ k253) →
            ∀ w193 : World,
            (Locl ([k253, k237, k184, k3, k2, k1]) w3 w193) →
            Calls P F.law23_own #[Value.agg #[Value.int IntKind.i64 x3, Value.int IntKind.i64 x4, Value.slice sa3 sl3 sc3]] w193 fun e29 w194 =>
            ∃ n9 : Int,
            ∃ n10 : Int,
            ∃ p80 : Option Addr,
            ∃ k254 : Nat,
            ∃ k255 : Nat,
            (e29 = Ending.returned (Value.agg #[Value.int IntKind.i64 n9, Value.int IntKind.i64 n10, Value.slice p80 k254 k255])) ∧
            (Keep ([k253, k237, k184, k3, k2, k1]) w193 w194) ∧
            (Keeps w193 w194) ∧
            Calls P F.law23_ints #[Value.slice sa1 sl1 sc1] w194 fun e30 w195 =>
            ∃ p81 : Option Addr,
            ∃ k256 : Nat,
            ∃ k257 : Nat,
            (e30 = Ending.returned (Value.slice p81 k256 k257)) ∧
            (Keep ([k253, k237, k184, k3, k2, k1]) w194 w195) ∧
            appVC (w195) ([(8, k253, [Value.int IntKind.i64 0, Value.int IntKind.i64 0, Value.slice none 0 0]), (7, k237, [Value.int IntKind.i64 0, Value.int IntKind.i64 0, Value.slice none 0 0]), (27, k184, [Value.int IntKind.i64 77]), (5, k3, [Value.int IntKind.i64 x3, Value.int IntKind.i64 x4, Value.slice sa3 sl3 sc3]), (4, k2, [Value.int IntKind.i64 x1, Value.int IntKind.i64 x2, Value.slice sa2 sl2 sc2]), (3, k1, [Value.string st1, Value.slice sa1 sl1 sc1])]) (p81) (k256) (k257) (1) (1) (8) (3) ([Value.int IntKind.i64 0]) ([Value.int IntKind.i64 77]) fun p82 k258 k259 w196 =>
            ∀ w197 : World,
            (Locl ([k253, k237, k184, k3, k2, k1]) w196 w197) →
            I1 [Value.slice p82 k258 k259, Value.pointer (some { block := k237, off := 0 }), Value.int IntKind.i64 n1, Value.int IntKind.i64 n2, Value.slice p1 k4 k5, Value.pointer (some { block := k253, off := 0 }), Value.int IntKind.i64 n9, Value.int IntKind.i64 n10, Value.slice p80 k254 k255] w197) ∧
          ∀ k260 : Nat,
          (w3.heap.size ≤ k260) →
          (∀ w198 : World,
            (Locl ([k260, k184, k3, k2, k1]) w3 w198) →
            Calls P F.law23_own #[Value.agg #[Value.int IntKind.i64 x3, Value.int IntKind.i64 x4, Value.slice sa3 sl3 sc3]] w198 fun e31 w199 =>
            ∃ n11 : Int,
            ∃ n12 : Int,
            ∃ p83 : Option Addr,
            ∃ k261 : Nat,
            ∃ k262 : Nat,
            (e31 = Ending.returned (Value.agg #[Value.int IntKind.i64 n11, Value.int IntKind.i64 n12, Value.slice p83 k261 k262])) ∧
            (Keep ([k260, k184, k3, k2, k1]) w198 w199) ∧
            (Keeps w198 w199) ∧
            (Calls P F.law23_ints #[Value.slice sa1 sl1 sc1] w199 fun e32 w200 =>
              ∃ p84 : Option Addr,
              ∃ k263 : Nat,
              ∃ k264 : Nat,
              (e32 = Ending.returned (Value.slice p84 k263 k264)) ∧
              (Keep ([k260, k184, k3, k2, k1]) w199 w200) ∧
              (appVC (w200) ([(8, k260, [Value.int IntKind.i64 0, Value.int IntKind.i64 0, Value.slice none 0 0]), (27, k184, [Value.int IntKind.i64 77]), (5, k3, [Value.int IntKind.i64 x3, Value.int IntKind.i64 x4, Value.slice sa3 sl3 sc3]), (4, k2, [Value.int IntKind.i64 x1, Value.int IntKind.i64 x2, Value.slice sa2 sl2 sc2]), (3, k1, [Value.string st1, Value.slice sa1 sl1 sc1])]) (p84) (k263) (k264) (1) (1) (8) (3) ([Value.int IntKind.i64 0]) ([Value.int IntKind.i64 77]) fun p85 k265 k266 w201 =>
                ∀ k267 : Nat,
                (w201.heap.size ≤ k267) →
                ∀ w202 : World,
                (Locl ([k267, k260, k184, k3, k2, k1]) w201 w202) →
                I1 [Value.slice p85 k265 k266, Value.pointer (some { block := k267, off := 0 }), Value.int IntKind.i64 n1, Value.int IntKind.i64 n2, Value.slice p1 k4 k5, Value.pointer (some { block := k260, off := 0 }), Value.int IntKind.i64 n11, Value.int IntKind.i64 n12, Value.slice p83 k261 k262] w202) ∧
              ∀ k268 : Nat,
              (w200.heap.size ≤ k268) →
              ∀ w203 : World,
              (Locl ([k268, k260, k184, k3, k2, k1]) w200 w203) →
              appVC (w203) ([(7, k268, [Value.int IntKind.i64 0, Value.int IntKind.i64 0, Value.slice none 0 0]), (8, k260, [Value.int IntKind.i64 0, Value.int IntKind.i64 0, Value.slice none 0 0]), (27, k184, [Value.int IntKind.i64 77]), (5, k3, [Value.int IntKind.i64 x3, Value.int IntKind.i64 x4, Value.slice sa3 sl3 sc3]), (4, k2, [Value.int IntKind.i64 x1, Value.int IntKind.i64 x2, Value.slice sa2 sl2 sc2]), (3, k1, [Value.string st1, Value.slice sa1 sl1 sc1])]) (p84) (k263) (k264) (1) (1) (8) (3) ([Value.int IntKind.i64 0]) ([Value.int IntKind.i64 77]) fun p86 k269 k270 w204 =>
              ∀ w205 : World,
              (Locl ([k268, k260, k184, k3, k2, k1]) w204 w205) →
              I1 [Value.slice p86 k269 k270, Value.pointer (some { block := k268, off := 0 }), Value.int IntKind.i64 n1, Value.int IntKind.i64 n2, Value.slice p1 k4 k5, Value.pointer (some { block := k260, off := 0 }), Value.int IntKind.i64 n11, Value.int IntKind.i64 n12, Value.slice p83 k261 k262] w205) ∧
            ∀ k271 : Nat,
            (w199.heap.size ≤ k271) →
            ∀ w206 : World,
            (Locl ([k271, k260, k184, k3, k2, k1]) w199 w206) →
            Calls P F.law23_ints #[Value.slice sa1 sl1 sc1] w206 fun e33 w207 =>
            ∃ p87 : Option Addr,
            ∃ k272 : Nat,
            ∃ k273 : Nat,
            (e33 = Ending.returned (Value.slice p87 k272 k273)) ∧
            (Keep ([k271, k260, k184, k3, k2, k1]) w206 w207) ∧
            appVC (w207) ([(7, k271, [Value.int IntKind.i64 0, Value.int IntKind.i64 0, Value.slice none 0 0]), (8, k260, [Value.int IntKind.i64 0, Value.int IntKind.i64 0, Value.slice none 0 0]), (27, k184, [Value.int IntKind.i64 77]), (5, k3, [Value.int IntKind.i64 x3, Value.int IntKind.i64 x4, Value.slice sa3 sl3 sc3]), (4, k2, [Value.int IntKind.i64 x1, Value.int IntKind.i64 x2, Value.slice sa2 sl2 sc2]), (3, k1, [Value.string st1, Value.slice sa1 sl1 sc1])]) (p87) (k272) (k273) (1) (1) (8) (3) ([Value.int IntKind.i64 0]) ([Value.int IntKind.i64 77]) fun p88 k274 k275 w208 =>
            ∀ w209 : World,
            (Locl ([k271, k260, k184, k3, k2, k1]) w208 w209) →
            I1 [Value.slice p88 k274 k275, Value.pointer (some { block := k271, off := 0 }), Value.int IntKind.i64 n1, Value.int IntKind.i64 n2, Value.slice p1 k4 k5, Value.pointer (some { block := k260, off := 0 }), Value.int IntKind.i64 n11, Value.int IntKind.i64 n12, Value.slice p83 k261 k262] w209) ∧
          ∀ k276 : Nat,
          (w3.heap.size ≤ k276) →
          ∀ w210 : World,
          (Locl ([k276, k260, k184, k3, k2, k1]) w3 w210) →
          Calls P F.law23_own #[Value.agg #[Value.int IntKind.i64 x3, Value.int IntKind.i64 x4, Value.slice sa3 sl3 sc3]] w210 fun e34 w211 =>
          ∃ n13 : Int,
          ∃ n14 : Int,
          ∃ p89 : Option Addr,
          ∃ k277 : Nat,
          ∃ k278 : Nat,
          (e34 = Ending.returned (Value.agg #[Value.int IntKind.i64 n13, Value.int IntKind.i64 n14, Value.slice p89 k277 k278])) ∧
          (Keep ([k276, k260, k184, k3, k2, k1]) w210 w211) ∧
          (Keeps w210 w211) ∧
          Calls P F.law23_ints #[Value.slice sa1 sl1 sc1] w211 fun e35 w212 =>
          ∃ p90 : Option Addr,
          ∃ k279 : Nat,
          ∃ k280 : Nat,
          (e35 = Ending.returned (Value.slice p90 k279 k280)) ∧
          (Keep ([k276, k260, k184, k3, k2, k1]) w211 w212) ∧
          appVC (w212) ([(7, k276, [Value.int IntKind.i64 0, Value.int IntKind.i64 0, Value.slice none 0 0]), (8, k260, [Value.int IntKind.i64 0, Value.int IntKind.i64 0, Value.slice none 0 0]), (27, k184, [Value.int IntKind.i64 77]), (5, k3, [Value.int IntKind.i64 x3, Value.int IntKind.i64 x4, Value.slice sa3 sl3 sc3]), (4, k2, [Value.int IntKind.i64 x1, Value.int IntKind.i64 x2, Value.slice sa2 sl2 sc2]), (3, k1, [Value.string st1, Value.slice sa1 sl1 sc1])]) (p90) (k279) (k280) (1) (1) (8) (3) ([Value.int IntKind.i64 0]) ([Value.int IntKind.i64 77]) fun p91 k281 k282 w213 =>
          ∀ w214 : World,
          (Locl ([k276, k260, k184, k3, k2, k1]) w213 w214) →
          I1 [Value.slice p91 k281 k282, Value.pointer (some { block := k276, off := 0 }), Value.int IntKind.i64 n1, Value.int IntKind.i64 n2, Value.slice p1 k4 k5, Value.pointer (some { block := k260, off := 0 }), Value.int IntKind.i64 n13, Value.int IntKind.i64 n14, Value.slice p89 k277 k278] w214) ∧
        (∀ k283 : Nat,
          (w3.heap.size ≤ k283) →
          (∀ w215 : World,
            (Locl ([k283, k3, k2, k1]) w3 w215) →
            Calls P F.law23_own #[Value.agg #[Value.int IntKind.i64 x3, Value.int IntKind.i64 x4, Value.slice sa3 sl3 sc3]] w215 fun e36 w216 =>
            ∃ n15 : Int,
            ∃ n16 : Int,
            ∃ p92 : Option Addr,
            ∃ k284 : Nat,
            ∃ k285 : Nat,
            (e36 = Ending.returned (Value.agg #[Value.int IntKind.i64 n15, Value.int IntKind.i64 n16, Value.slice p92 k284 k285])) ∧
            (Keep ([k283, k3, k2, k1]) w215 w216) ∧
            (Keeps w215 w216) ∧
            (Calls P F.law23_ints #[Value.slice sa1 sl1 sc1] w216 fun e37 w217 =>
              ∃ p93 : Option Addr,
              ∃ k286 : Nat,
              ∃ k287 : Nat,
              (e37 = Ending.returned (Value.slice p93 k286 k287)) ∧
              (Keep ([k283, k3, k2, k1]) w216 w217) ∧
              (∀ k288 : Nat,
                (w217.heap.size ≤ k288) →
                (∀ w218 : World,
                  (Locl ([k288, k283, k3, k2, k1]) w217 w218) →
                  appVC (w218) ([(27, k288, [Value.int IntKind.i64 77]), (7, k283, [Value.int IntKind.i64 0, Value.int IntKind.i64 0, Value.slice none 0 0]), (5, k3, [Value.int IntKind.i64 x3, Value.int IntKind.i64 x4, Value.slice sa3 sl3 sc3]), (4, k2, [Value.int IntKind.i64 x1, Value.int IntKind.i64 x2, Value.slice sa2 sl2 sc2]), (3, k1, [Value.string st1, Value.slice sa1 sl1 sc1])]) (p93) (k286) (k287) (1) (1) (8) (3) ([Value.int IntKind.i64 0]) ([Value.int IntKind.i64 77]) fun p94 k289 k290 w219 =>
                  ∀ k291 : Nat,
                  (w219.heap.size ≤ k291) →
                  ∀ w220 : World,
                  (Locl ([k291, k288, k283, k3, k2, k1]) w219 w220) →
                  I1 [Value.slice p94 k289 k290, Value.pointer (some { block := k283, off := 0 }), Value.int IntKind.i64 n1, Value.int IntKind.i64 n2, Value.slice p1 k4 k5, Value.pointer (some { block := k291, off := 0 }), Value.int IntKind.i64 n15, Value.int IntKind.i64 n16, Value.slice p92 k284 k285] w220) ∧
                ∀ k292 : Nat,
                (w217.heap.size ≤ k292) →
                ∀ w221 : World,
                (Locl ([k292, k288, k283, k3, k2, k1]) w217 w221) →
                appVC (w221) ([(8, k292, [Value.int IntKind.i64 0, Value.int IntKind.i64 0, Value.slice none 0 0]), (27, k288, [Value.int IntKind.i64 77]), (7, k283, [Value.int IntKind.i64 0, Value.int IntKind.i64 0, Value.slice none 0 0]), (5, k3, [Value.int IntKind.i64 x3, Value.int IntKind.i64 x4, Value.slice sa3 sl3 sc3]), (4, k2, [Value.int IntKind.i64 x1, Value.int IntKind.i64 x2, Value.slice sa2 sl2 sc2]), (3, k1, [Value.string st1, Value.slice sa1 sl1 sc1])]) (p93) (k286) (k287) (1) (1) (8) (3) ([Value.int IntKind.i64 0]) ([Value.int IntKind.i64 77]) fun p95 k293 k294 w222 =>
                ∀ w223 : World,
                (Locl ([k292, k288, k283, k3, k2, k1]) w222 w223) →
                I1 [Value.slice p95 k293 k294, Value.pointer (some { block := k283, off := 0 }), Value.int IntKind.i64 n1, Value.int IntKind.i64 n2, Value.slice p1 k4 k5, Value.pointer (some { block := k292, off := 0 }), Value.int IntKind.i64 n15, Value.int IntKind.i64 n16, Value.slice p92 k284 k285] w223) ∧
              ∀ k295 : Nat,
              (w217.heap.size ≤ k295) →
              ∀ k296 : Nat,
              (w217.heap.size ≤ k296) →
              ∀ w224 : World,
              (Locl ([k296, k295, k283, k3, k2, k1]) w217 w224) →
              appVC (w224) ([(27, k296, [Value.int IntKind.i64 77]), (8, k295, [Value.int IntKind.i64 0, Value.int IntKind.i64 0, Value.slice none 0 0]), (7, k283, [Value.int IntKind.i64 0, Value.int IntKind.i64 0, Value.slice none 0 0]), (5, k3, [Value.int IntKind.i64 x3, Value.int IntKind.i64 x4, Value.slice sa3 sl3 sc3]), (4, k2, [Value.int IntKind.i64 x1, Value.int IntKind.i64 x2, Value.slice sa2 sl2 sc2]), (3, k1, [Value.string st1, Value.slice sa1 sl1 sc1])]) (p93) (k286) (k287) (1) (1) (8) (3) ([Value.int IntKind.i64 0]) ([Value.int IntKind.i64 77]) fun p96 k297 k298 w225 =>
              ∀ w226 : World,
              (Locl ([k296, k295, k283, k3, k2, k1]) w225 w226) →
              I1 [Value.slice p96 k297 k298, Value.pointer (some { block := k283, off := 0 }), Value.int IntKind.i64 n1, Value.int IntKind.i64 n2, Value.slice p1 k4 k5, Value.pointer (some { block := k295, off := 0 }), Value.int IntKind.i64 n15, Value.int IntKind.i64 n16, Value.slice p92 k284 k285] w226) ∧
            (∀ k299 : Nat,
              (w216.heap.size ≤ k299) →
              (∀ w227 : World,
                (Locl ([k299, k283, k3, k2, k1]) w216 w227) →
                Calls P F.law23_ints #[Value.slice sa1 sl1 sc1] w227 fun e38 w228 =>
                ∃ p97 : Option Addr,
                ∃ k300 : Nat,
                ∃ k301 : Nat,
                (e38 = Ending.returned (Value.slice p97 k300 k301)) ∧
                (Keep ([k299, k283, k3, k2, k1]) w227 w228) ∧
                (appVC (w228) ([(27, k299, [Value.int IntKind.i64 77]), (7, k283, [Value.int IntKind.i64 0, Value.int IntKind.i64 0, Value.slice none 0 0]), (5, k3, [Value.int IntKind.i64 x3, Value.int IntKind.i64 x4, Value.slice sa3 sl3 sc3]), (4, k2, [Value.int IntKind.i64 x1, Value.int IntKind.i64 x2, Value.slice sa2 sl2 sc2]), (3, k1, [Value.string st1, Value.slice sa1 sl1 sc1])]) (p97) (k300) (k301) (1) (1) (8) (3) ([Value.int IntKind.i64 0]) ([Value.int IntKind.i64 77]) fun p98 k302 k303 w229 =>
                  ∀ k304 : Nat,
                  (w229.heap.size ≤ k304) →
                  ∀ w230 : World,
                  (Locl ([k304, k299, k283, k3, k2, k1]) w229 w230) →
                  I1 [Value.slice p98 k302 k303, Value.pointer (some { block := k283, off := 0 }), Value.int IntKind.i64 n1, Value.int IntKind.i64 n2, Value.slice p1 k4 k5, Value.pointer (some { block := k304, off := 0 }), Value.int IntKind.i64 n15, Value.int IntKind.i64 n16, Value.slice p92 k284 k285] w230) ∧
                ∀ k305 : Nat,
                (w228.heap.size ≤ k305) →
                ∀ w231 : World,
                (Locl ([k305, k299, k283, k3, k2, k1]) w228 w231) →
                appVC (w231) ([(8, k305, [Value.int IntKind.i64 0, Value.int IntKind.i64 0, Value.slice none 0 0]), (27, k299, [Value.int IntKind.i64 77]), (7, k283, [Value.int IntKind.i64 0, Value.int IntKind.i64 0, Value.slice none 0 0]), (5, k3, [Value.int IntKind.i64 x3, Value.int IntKind.i64 x4, Value.slice sa3 sl3 sc3]), (4, k2, [Value.int IntKind.i64 x1, Value.int IntKind.i64 x2, Value.slice sa2 sl2 sc2]), (3, k1, [Value.string st1, Value.slice sa1 sl1 sc1])]) (p97) (k300) (k301) (1) (1) (8) (3) ([Value.int IntKind.i64 0]) ([Value.int IntKind.i64 77]) fun p99 k306 k307 w232 =>
                ∀ w233 : World,
                (Locl ([k305, k299, k283, k3, k2, k1]) w232 w233) →
                I1 [Value.slice p99 k306 k307, Value.pointer (some { block := k283, off := 0 }), Value.int IntKind.i64 n1, Value.int IntKind.i64 n2, Value.slice p1 k4 k5, Value.pointer (some { block := k305, off := 0 }), Value.int IntKind.i64 n15, Value.int IntKind.i64 n16, Value.slice p92 k284 k285] w233) ∧
              ∀ k308 : Nat,
              (w216.heap.size ≤ k308) →
              ∀ w234 : World,
              (Locl ([k308, k299, k283, k3, k2, k1]) w216 w234) →
              Calls P F.law23_ints #[Value.slice sa1 sl1 sc1] w234 fun e39 w235 =>
              ∃ p100 : Option Addr,
              ∃ k309 : Nat,
              ∃ k310 : Nat,
              (e39 = Ending.returned (Value.slice p100 k309 k310)) ∧
              (Keep ([k308, k299, k283, k3, k2, k1]) w234 w235) ∧
              appVC (w235) ([(8, k308, [Value.int IntKind.i64 0, Value.int IntKind.i64 0, Value.slice none 0 0]), (27, k299, [Value.int IntKind.i64 77]), (7, k283, [Value.int IntKind.i64 0, Value.int IntKind.i64 0, Value.slice none 0 0]), (5, k3, [Value.int IntKind.i64 x3, Value.int IntKind.i64 x4, Value.slice sa3 sl3 sc3]), (4, k2, [Value.int IntKind.i64 x1, Value.int IntKind.i64 x2, Value.slice sa2 sl2 sc2]), (3, k1, [Value.string st1, Value.slice sa1 sl1 sc1])]) (p100) (k309) (k310) (1) (1) (8) (3) ([Value.int IntKind.i64 0]) ([Value.int IntKind.i64 77]) fun p101 k311 k312 w236 =>
              ∀ w237 : World,
              (Locl ([k308, k299, k283, k3, k2, k1]) w236 w237) →
              I1 [Value.slice p101 k311 k312, Value.pointer (some { block := k283, off := 0 }), Value.int IntKind.i64 n1, Value.int IntKind.i64 n2, Value.slice p1 k4 k5, Value.pointer (some { block := k308, off := 0 }), Value.int IntKind.i64 n15, Value.int IntKind.i64 n16, Value.slice p92 k284 k285] w237) ∧
            ∀ k313 : Nat,
            (w216.heap.size ≤ k313) →
            (∀ w238 : World,
              (Locl ([k313, k283, k3, k2, k1]) w216 w238) →
              Calls P F.law23_ints #[Value.slice sa1 sl1 sc1] w238 fun e40 w239 =>
              ∃ p102 : Option Addr,
              ∃ k314 : Nat,
              ∃ k315 : Nat,
              (e40 = Ending.returned (Value.slice p102 k314 k315)) ∧
              (Keep ([k313, k283, k3, k2, k1]) w238 w239) ∧
              ∀ k316 : Nat,
              (w239.heap.size ≤ k316) →
              ∀ w240 : World,
              (Locl ([k316, k313, k283, k3, k2, k1]) w239 w240) →
              appVC (w240) ([(27, k316, [Value.int IntKind.i64 77]), (8, k313, [Value.int IntKind.i64 0, Value.int IntKind.i64 0, Value.slice none 0 0]), (7, k283, [Value.int IntKind.i64 0, Value.int IntKind.i64 0, Value.slice none 0 0]), (5, k3, [Value.int IntKind.i64 x3, Value.int IntKind.i64 x4, Value.slice sa3 sl3 sc3]), (4, k2, [Value.int IntKind.i64 x1, Value.int IntKind.i64 x2, Value.slice sa2 sl2 sc2]), (3, k1, [Value.string st1, Value.slice sa1 sl1 sc1])]) (p102) (k314) (k315) (1) (1) (8) (3) ([Value.int IntKind.i64 0]) ([Value.int IntKind.i64 77]) fun p103 k317 k318 w241 =>
              ∀ w242 : World,
              (Locl ([k316, k313, k283, k3, k2, k1]) w241 w242) →
              I1 [Value.slice p103 k317 k318, Value.pointer (some { block := k283, off := 0 }), Value.int IntKind.i64 n1, Value.int IntKind.i64 n2, Value.slice p1 k4 k5, Value.pointer (some { block := k313, off := 0 }), Value.int IntKind.i64 n15, Value.int IntKind.i64 n16, Value.slice p92 k284 k285] w242) ∧
            ∀ k319 : Nat,
            (w216.heap.size ≤ k319) →
            ∀ w243 : World,
            (Locl ([k319, k313, k283, k3, k2, k1]) w216 w243) →
            Calls P F.law23_ints #[Value.slice sa1 sl1 sc1] w243 fun e41 w244 =>
            ∃ p104 : Option Addr,
            ∃ k320 : Nat,
            ∃ k321 : Nat,
            (e41 = Ending.returned (Value.slice p104 k320 k321)) ∧
            (Keep ([k319, k313, k283, k3, k2, k1]) w243 w244) ∧
            appVC (w244) ([(27, k319, [Value.int IntKind.i64 77]), (8, k313, [Value.int IntKind.i64 0, Value.int IntKind.i64 0, Value.slice none 0 0]), (7, k283, [Value.int IntKind.i64 0, Value.int IntKind.i64 0, Value.slice none 0 0]), (5, k3, [Value.int IntKind.i64 x3, Value.int IntKind.i64 x4, Value.slice sa3 sl3 sc3]), (4, k2, [Value.int IntKind.i64 x1, Value.int IntKind.i64 x2, Value.slice sa2 sl2 sc2]), (3, k1, [Value.string st1, Value.slice sa1 sl1 sc1])]) (p104) (k320) (k321) (1) (1) (8) (3) ([Value.int IntKind.i64 0]) ([Value.int IntKind.i64 77]) fun p105 k322 k323 w245 =>
            ∀ w246 : World,
            (Locl ([k319, k313, k283, k3, k2, k1]) w245 w246) →
            I1 [Value.slice p105 k322 k323, Value.pointer (some { block := k283, off := 0 }), Value.int IntKind.i64 n1, Value.int IntKind.i64 n2, Value.slice p1 k4 k5, Value.pointer (some { block := k313, off := 0 }), Value.int IntKind.i64 n15, Value.int IntKind.i64 n16, Value.slice p92 k284 k285] w246) ∧
          (∀ k324 : Nat,
            (w3.heap.size ≤ k324) →
            (∀ w247 : World,
              (Locl ([k324, k283, k3, k2, k1]) w3 w247) →
              Calls P F.law23_own #[Value.agg #[Value.int IntKind.i64 x3, Value.int IntKind.i64 x4, Value.slice sa3 sl3 sc3]] w247 fun e42 w248 =>
              ∃ n17 : Int,
              ∃ n18 : Int,
              ∃ p106 : Option Addr,
              ∃ k325 : Nat,
              ∃ k326 : Nat,
              (e42 = Ending.returned (Value.agg #[Value.int IntKind.i64 n17, Value.int IntKind.i64 n18, Value.slice p106 k325 k326])) ∧
              (Keep ([k324, k283, k3, k2, k1]) w247 w248) ∧
              (Keeps w247 w248) ∧
              (Calls P F.law23_ints #[Value.slice sa1 sl1 sc1] w248 fun e43 w249 =>
                ∃ p107 : Option Addr,
                ∃ k327 : Nat,
                ∃ k328 : Nat,
                (e43 = Ending.returned (Value.slice p107 k327 k328)) ∧
                (Keep ([k324, k283, k3, k2, k1]) w248 w249) ∧
                (appVC (w249) ([(27, k324, [Value.int IntKind.i64 77]), (7, k283, [Value.int IntKind.i64 0, Value.int IntKind.i64 0, Value.slice none 0 0]), (5, k3, [Value.int IntKind.i64 x3, Value.int IntKind.i64 x4, Value.slice sa3 sl3 sc3]), (4, k2, [Value.int IntKind.i64 x1, Value.int IntKind.i64 x2, Value.slice sa2 sl2 sc2]), (3, k1, [Value.string st1, Value.slice sa1 sl1 sc1])]) (p107) (k327) (k328) (1) (1) (8) (3) ([Value.int IntKind.i64 0]) ([Value.int IntKind.i64 77]) fun p108 k329 k330 w250 =>
                  ∀ k331 : Nat,
                  (w250.heap.size ≤ k331) →
                  ∀ w251 : World,
                  (Locl ([k331, k324, k283, k3, k2, k1]) w250 w251) →
                  I1 [Value.slice p108 k329 k330, Value.pointer (some { block := k283, off := 0 }), Value.int IntKind.i64 n1, Value.int IntKind.i64 n2, Value.slice p1 k4 k5, Value.pointer (some { block := k331, off := 0 }), Value.int IntKind.i64 n17, Value.int IntKind.i64 n18, Value.slice p106 k325 k326] w251) ∧
                ∀ k332 : Nat,
                (w249.heap.size ≤ k332) →
                ∀ w252 : World,
                (Locl ([k332, k324, k283, k3, k2, k1]) w249 w252) →
                appVC (w252) ([(8, k332, [Value.int IntKind.i64 0, Value.int IntKind.i64 0, Value.slice none 0 0]), (27, k324, [Value.int IntKind.i64 77]), (7, k283, [Value.int IntKind.i64 0, Value.int IntKind.i64 0, Value.slice none 0 0]), (5, k3, [Value.int IntKind.i64 x3, Value.int IntKind.i64 x4, Value.slice sa3 sl3 sc3]), (4, k2, [Value.int IntKind.i64 x1, Value.int IntKind.i64 x2, Value.slice sa2 sl2 sc2]), (3, k1, [Value.string st1, Value.slice sa1 sl1 sc1])]) (p107) (k327) (k328) (1) (1) (8) (3) ([Value.int IntKind.i64 0]) ([Value.int IntKind.i64 77]) fun p109 k333 k334 w253 =>
                ∀ w254 : World,
                (Locl ([k332, k324, k283, k3, k2, k1]) w253 w254) →
                I1 [Value.slice p109 k333 k334, Value.pointer (some { block := k283, off := 0 }), Value.int IntKind.i64 n1, Value.int IntKind.i64 n2, Value.slice p1 k4 k5, Value.pointer (some { block := k332, off := 0 }), Value.int IntKind.i64 n17, Value.int IntKind.i64 n18, Value.slice p106 k325 k326] w254) ∧
              ∀ k335 : Nat,
              (w248.heap.size ≤ k335) →
              ∀ w255 : World,
              (Locl ([k335, k324, k283, k3, k2, k1]) w248 w255) →
              Calls P F.law23_ints #[Value.slice sa1 sl1 sc1] w255 fun e44 w256 =>
              ∃ p110 : Option Addr,
              ∃ k336 : Nat,
              ∃ k337 : Nat,
              (e44 = Ending.returned (Value.slice p110 k336 k337)) ∧
              (Keep ([k335, k324, k283, k3, k2, k1]) w255 w256) ∧
              appVC (w256) ([(8, k335, [Value.int IntKind.i64 0, Value.int IntKind.i64 0, Value.slice none 0 0]), (27, k324, [Value.int IntKind.i64 77]), (7, k283, [Value.int IntKind.i64 0, Value.int IntKind.i64 0, Value.slice none 0 0]), (5, k3, [Value.int IntKind.i64 x3, Value.int IntKind.i64 x4, Value.slice sa3 sl3 sc3]), (4, k2, [Value.int IntKind.i64 x1, Value.int IntKind.i64 x2, Value.slice sa2 sl2 sc2]), (3, k1, [Value.string st1, Value.slice sa1 sl1 sc1])]) (p110) (k336) (k337) (1) (1) (8) (3) ([Value.int IntKind.i64 0]) ([Value.int IntKind.i64 77]) fun p111 k338 k339 w257 =>
              ∀ w258 : World,
              (Locl ([k335, k324, k283, k3, k2, k1]) w257 w258) →
              I1 [Value.slice p111 k338 k339, Value.pointer (some { block := k283, off := 0 }), Value.int IntKind.i64 n1, Value.int IntKind.i64 n2, Value.slice p1 k4 k5, Value.pointer (some { block := k335, off := 0 }), Value.int IntKind.i64 n17, Value.int IntKind.i64 n18, Value.slice p106 k325 k326] w258) ∧
            ∀ k340 : Nat,
            (w3.heap.size ≤ k340) →
            ∀ w259 : World,
            (Locl ([k340, k324, k283, k3, k2, k1]) w3 w259) →
            Calls P F.law23_own #[Value.agg #[Value.int IntKind.i64 x3, Value.int IntKind.i64 x4, Value.slice sa3 sl3 sc3]] w259 fun e45 w260 =>
            ∃ n19 : Int,
            ∃ n20 : Int,
            ∃ p112 : Option Addr,
            ∃ k341 : Nat,
            ∃ k342 : Nat,
            (e45 = Ending.returned (Value.agg #[Value.int IntKind.i64 n19, Value.int IntKind.i64 n20, Value.slice p112 k341 k342])) ∧
            (Keep ([k340, k324, k283, k3, k2, k1]) w259 w260) ∧
            (Keeps w259 w260) ∧
            Calls P F.law23_ints #[Value.slice sa1 sl1 sc1] w260 fun e46 w261 =>
            ∃ p113 : Option Addr,
            ∃ k343 : Nat,
            ∃ k344 : Nat,
            (e46 = Ending.returned (Value.slice p113 k343 k344)) ∧
            (Keep ([k340, k324, k283, k3, k2, k1]) w260 w261) ∧
            appVC (w261) ([(8, k340, [Value.int IntKind.i64 0, Value.int IntKind.i64 0, Value.slice none 0 0]), (27, k324, [Value.int IntKind.i64 77]), (7, k283, [Value.int IntKind.i64 0, Value.int IntKind.i64 0, Value.slice none 0 0]), (5, k3, [Value.int IntKind.i64 x3, Value.int IntKind.i64 x4, Value.slice sa3 sl3 sc3]), (4, k2, [Value.int IntKind.i64 x1, Value.int IntKind.i64 x2, Value.slice sa2 sl2 sc2]), (3, k1, [Value.string st1, Value.slice sa1 sl1 sc1])]) (p113) (k343) (k344) (1) (1) (8) (3) ([Value.int IntKind.i64 0]) ([Value.int IntKind.i64 77]) fun p114 k345 k346 w262 =>
            ∀ w263 : World,
            (Locl ([k340, k324, k283, k3, k2, k1]) w262 w263) →
            I1 [Value.slice p114 k345 k346, Value.pointer (some { block := k283, off := 0 }), Value.int IntKind.i64 n1, Value.int IntKind.i64 n2, Value.slice p1 k4 k5, Value.pointer (some { block := k340, off := 0 }), Value.int IntKind.i64 n19, Value.int IntKind.i64 n20, Value.slice p112 k341 k342] w263) ∧
          ∀ k347 : Nat,
          (w3.heap.size ≤ k347) →
          (∀ w264 : World,
            (Locl ([k347, k283, k3, k2, k1]) w3 w264) →
            Calls P F.law23_own #[Value.agg #[Value.int IntKind.i64 x3, Value.int IntKind.i64 x4, Value.slice sa3 sl3 sc3]] w264 fun e47 w265 =>
            ∃ n21 : Int,
            ∃ n22 : Int,
            ∃ p115 : Option Addr,
            ∃ k348 : Nat,
            ∃ k349 : Nat,
            (e47 = Ending.returned (Value.agg #[Value.int IntKind.i64 n21, Value.int IntKind.i64 n22, Value.slice p115 k348 k349])) ∧
            (Keep ([k347, k283, k3, k2, k1]) w264 w265) ∧
            (Keeps w264 w265) ∧
            (Calls P F.law23_ints #[Value.slice sa1 sl1 sc1] w265 fun e48 w266 =>
              ∃ p116 : Option Addr,
              ∃ k350 : Nat,
              ∃ k351 : Nat,
              (e48 = Ending.returned (Value.slice p116 k350 k351)) ∧
              (Keep ([k347, k283, k3, k2, k1]) w265 w266) ∧
              ∀ k352 : Nat,
              (w266.heap.size ≤ k352) →
              ∀ w267 : World,
              (Locl ([k352, k347, k283, k3, k2, k1]) w266 w267) →
              appVC (w267) ([(27, k352, [Value.int IntKind.i64 77]), (8, k347, [Value.int IntKind.i64 0, Value.int IntKind.i64 0, Value.slice none 0 0]), (7, k283, [Value.int IntKind.i64 0, Value.int IntKind.i64 0, Value.slice none 0 0]), (5, k3, [Value.int IntKind.i64 x3, Value.int IntKind.i64 x4, Value.slice sa3 sl3 sc3]), (4, k2, [Value.int IntKind.i64 x1, Value.int IntKind.i64 x2, Value.slice sa2 sl2 sc2]), (3, k1, [Value.string st1, Value.slice sa1 sl1 sc1])]) (p116) (k350) (k351) (1) (1) (8) (3) ([Value.int IntKind.i64 0]) ([Value.int IntKind.i64 77]) fun p117 k353 k354 w268 =>
              ∀ w269 : World,
              (Locl ([k352, k347, k283, k3, k2, k1]) w268 w269) →
              I1 [Value.slice p117 k353 k354, Value.pointer (some { block := k283, off := 0 }), Value.int IntKind.i64 n1, Value.int IntKind.i64 n2, Value.slice p1 k4 k5, Value.pointer (some { block := k347, off := 0 }), Value.int IntKind.i64 n21, Value.int IntKind.i64 n22, Value.slice p115 k348 k349] w269) ∧
            ∀ k355 : Nat,
            (w265.heap.size ≤ k355) →
            ∀ w270 : World,
            (Locl ([k355, k347, k283, k3, k2, k1]) w265 w270) →
            Calls P F.law23_ints #[Value.slice sa1 sl1 sc1] w270 fun e49 w271 =>
            ∃ p118 : Option Addr,
            ∃ k356 : Nat,
            ∃ k357 : Nat,
            (e49 = Ending.returned (Value.slice p118 k356 k357)) ∧
            (Keep ([k355, k347, k283, k3, k2, k1]) w270 w271) ∧
            appVC (w271) ([(27, k355, [Value.int IntKind.i64 77]), (8, k347, [Value.int IntKind.i64 0, Value.int IntKind.i64 0, Value.slice none 0 0]), (7, k283, [Value.int IntKind.i64 0, Value.int IntKind.i64 0, Value.slice none 0 0]), (5, k3, [Value.int IntKind.i64 x3, Value.int IntKind.i64 x4, Value.slice sa3 sl3 sc3]), (4, k2, [Value.int IntKind.i64 x1, Value.int IntKind.i64 x2, Value.slice sa2 sl2 sc2]), (3, k1, [Value.string st1, Value.slice sa1 sl1 sc1])]) (p118) (k356) (k357) (1) (1) (8) (3) ([Value.int IntKind.i64 0]) ([Value.int IntKind.i64 77]) fun p119 k358 k359 w272 =>
            ∀ w273 : World,
            (Locl ([k355, k347, k283, k3, k2, k1]) w272 w273) →
            I1 [Value.slice p119 k358 k359, Value.pointer (some { block := k283, off := 0 }), Value.int IntKind.i64 n1, Value.int IntKind.i64 n2, Value.slice p1 k4 k5, Value.pointer (some { block := k347, off := 0 }), Value.int IntKind.i64 n21, Value.int IntKind.i64 n22, Value.slice p115 k348 k349] w273) ∧
          ∀ k360 : Nat,
          (w3.heap.size ≤ k360) →
          ∀ w274 : World,
          (Locl ([k360, k347, k283, k3, k2, k1]) w3 w274) →
          Calls P F.law23_own #[Value.agg #[Value.int IntKind.i64 x3, Value.int IntKind.i64 x4, Value.slice sa3 sl3 sc3]] w274 fun e50 w275 =>
          ∃ n23 : Int,
          ∃ n24 : Int,
          ∃ p120 : Option Addr,
          ∃ k361 : Nat,
          ∃ k362 : Nat,
          (e50 = Ending.returned (Value.agg #[Value.int IntKind.i64 n23, Value.int IntKind.i64 n24, Value.slice p120 k361 k362])) ∧
          (Keep ([k360, k347, k283, k3, k2, k1]) w274 w275) ∧
          (Keeps w274 w275) ∧
          Calls P F.law23_ints #[Value.slice sa1 sl1 sc1] w275 fun e51 w276 =>
          ∃ p121 : Option Addr,
          ∃ k363 : Nat,
          ∃ k364 : Nat,
          (e51 = Ending.returned (Value.slice p121 k363 k364)) ∧
          (Keep ([k360, k347, k283, k3, k2, k1]) w275 w276) ∧
          appVC (w276) ([(27, k360, [Value.int IntKind.i64 77]), (8, k347, [Value.int IntKind.i64 0, Value.int IntKind.i64 0, Value.slice none 0 0]), (7, k283, [Value.int IntKind.i64 0, Value.int IntKind.i64 0, Value.slice none 0 0]), (5, k3, [Value.int IntKind.i64 x3, Value.int IntKind.i64 x4, Value.slice sa3 sl3 sc3]), (4, k2, [Value.int IntKind.i64 x1, Value.int IntKind.i64 x2, Value.slice sa2 sl2 sc2]), (3, k1, [Value.string st1, Value.slice sa1 sl1 sc1])]) (p121) (k363) (k364) (1) (1) (8) (3) ([Value.int IntKind.i64 0]) ([Value.int IntKind.i64 77]) fun p122 k365 k366 w277 =>
          ∀ w278 : World,
          (Locl ([k360, k347, k283, k3, k2, k1]) w277 w278) →
          I1 [Value.slice p122 k365 k366, Value.pointer (some { block := k283, off := 0 }), Value.int IntKind.i64 n1, Value.int IntKind.i64 n2, Value.slice p1 k4 k5, Value.pointer (some { block := k347, off := 0 }), Value.int IntKind.i64 n23, Value.int IntKind.i64 n24, Value.slice p120 k361 k362] w278) ∧
        ∀ k367 : Nat,
        (w3.heap.size ≤ k367) →
        (∀ w279 : World,
          (Locl ([k367, k3, k2, k1]) w3 w279) →
          Calls P F.law23_own #[Value.agg #[Value.int IntKind.i64 x3, Value.int IntKind.i64 x4, Value.slice sa3 sl3 sc3]] w279 fun e52 w280 =>
          ∃ n25 : Int,
          ∃ n26 : Int,
          ∃ p123 : Option Addr,
          ∃ k368 : Nat,
          ∃ k369 : Nat,
          (e52 = Ending.returned (Value.agg #[Value.int IntKind.i64 n25, Value.int IntKind.i64 n26, Value.slice p123 k368 k369])) ∧
          (Keep ([k367, k3, k2, k1]) w279 w280) ∧
          (Keeps w279 w280) ∧
          (Calls P F.law23_ints #[Value.slice sa1 sl1 sc1] w280 fun e53 w281 =>
            ∃ p124 : Option Addr,
            ∃ k370 : Nat,
            ∃ k371 : Nat,
            (e53 = Ending.returned (Value.slice p124 k370 k371)) ∧
            (Keep ([k367, k3, k2, k1]) w280 w281) ∧
            (∀ k372 : Nat,
              (w281.heap.size ≤ k372) →
              (∀ w282 : World,
                (Locl ([k372, k367, k3, k2, k1]) w281 w282) →
                appVC (w282) ([(27, k372, [Value.int IntKind.i64 77]), (8, k367, [Value.int IntKind.i64 0, Value.int IntKind.i64 0, Value.slice none 0 0]), (5, k3, [Value.int IntKind.i64 x3, Value.int IntKind.i64 x4, Value.slice sa3 sl3 sc3]), (4, k2, [Value.int IntKind.i64 x1, Value.int IntKind.i64 x2, Value.slice sa2 sl2 sc2]), (3, k1, [Value.string st1, Value.slice sa1 sl1 sc1])]) (p124) (k370) (k371) (1) (1) (8) (3) ([Value.int IntKind.i64 0]) ([Value.int IntKind.i64 77]) fun p125 k373 k374 w283 =>
                ∀ k375 : Nat,
                (w283.heap.size ≤ k375) →
                ∀ w284 : World,
                (Locl ([k375, k372, k367, k3, k2, k1]) w283 w284) →
                I1 [Value.slice p125 k373 k374, Value.pointer (some { block := k375, off := 0 }), Value.int IntKind.i64 n1, Value.int IntKind.i64 n2, Value.slice p1 k4 k5, Value.pointer (some { block := k367, off := 0 }), Value.int IntKind.i64 n25, Value.int IntKind.i64 n26, Value.slice p123 k368 k369] w284) ∧
              ∀ k376 : Nat,
              (w281.heap.size ≤ k376) →
              ∀ w285 : World,
              (Locl ([k376, k372, k367, k3, k2, k1]) w281 w285) →
              appVC (w285) ([(7, k376, [Value.int IntKind.i64 0, Value.int IntKind.i64 0, Value.slice none 0 0]), (27, k372, [Value.int IntKind.i64 77]), (8, k367, [Value.int IntKind.i64 0, Value.int IntKind.i64 0, Value.slice none 0 0]), (5, k3, [Value.int IntKind.i64 x3, Value.int IntKind.i64 x4, Value.slice sa3 sl3 sc3]), (4, k2, [Value.int IntKind.i64 x1, Value.int IntKind.i64 x2, Value.slice sa2 sl2 sc2]), (3, k1, [Value.string st1, Value.slice sa1 sl1 sc1])]) (p124) (k370) (k371) (1) (1) (8) (3) ([Value.int IntKind.i64 0]) ([Value.int IntKind.i64 77]) fun p126 k377 k378 w286 =>
              ∀ w287 : World,
              (Locl ([k376, k372, k367, k3, k2, k1]) w286 w287) →
              I1 [Value.slice p126 k377 k378, Value.pointer (some { block := k376, off := 0 }), Value.int IntKind.i64 n1, Value.int IntKind.i64 n2, Value.slice p1 k4 k5, Value.pointer (some { block := k367, off := 0 }), Value.int IntKind.i64 n25, Value.int IntKind.i64 n26, Value.slice p123 k368 k369] w287) ∧
            ∀ k379 : Nat,
            (w281.heap.size ≤ k379) →
            ∀ k380 : Nat,
            (w281.heap.size ≤ k380) →
            ∀ w288 : World,
            (Locl ([k380, k379, k367, k3, k2, k1]) w281 w288) →
            appVC (w288) ([(27, k380, [Value.int IntKind.i64 77]), (7, k379, [Value.int IntKind.i64 0, Value.int IntKind.i64 0, Value.slice none 0 0]), (8, k367, [Value.int IntKind.i64 0, Value.int IntKind.i64 0, Value.slice none 0 0]), (5, k3, [Value.int IntKind.i64 x3, Value.int IntKind.i64 x4, Value.slice sa3 sl3 sc3]), (4, k2, [Value.int IntKind.i64 x1, Value.int IntKind.i64 x2, Value.slice sa2 sl2 sc2]), (3, k1, [Value.string st1, Value.slice sa1 sl1 sc1])]) (p124) (k370) (k371) (1) (1) (8) (3) ([Value.int IntKind.i64 0]) ([Value.int IntKind.i64 77]) fun p127 k381 k382 w289 =>
            ∀ w290 : World,
            (Locl ([k380, k379, k367, k3, k2, k1]) w289 w290) →
            I1 [Value.slice p127 k381 k382, Value.pointer (some { block := k379, off := 0 }), Value.int IntKind.i64 n1, Value.int IntKind.i64 n2, Value.slice p1 k4 k5, Value.pointer (some { block := k367, off := 0 }), Value.int IntKind.i64 n25, Value.int IntKind.i64 n26, Value.slice p123 k368 k369] w290) ∧
          (∀ k383 : Nat,
            (w280.heap.size ≤ k383) →
            (∀ w291 : World,
              (Locl ([k383, k367, k3, k2, k1]) w280 w291) →
              Calls P F.law23_ints #[Value.slice sa1 sl1 sc1] w291 fun e54 w292 =>
              ∃ p128 : Option Addr,
              ∃ k384 : Nat,
              ∃ k385 : Nat,
              (e54 = Ending.returned (Value.slice p128 k384 k385)) ∧
              (Keep ([k383, k367, k3, k2, k1]) w291 w292) ∧
              (appVC (w292) ([(27, k383, [Value.int IntKind.i64 77]), (8, k367, [Value.int IntKind.i64 0, Value.int IntKind.i64 0, Value.slice none 0 0]), (5, k3, [Value.int IntKind.i64 x3, Value.int IntKind.i64 x4, Value.slice sa3 sl3 sc3]), (4, k2, [Value.int IntKind.i64 x1, Value.int IntKind.i64 x2, Value.slice sa2 sl2 sc2]), (3, k1, [Value.string st1, Value.slice sa1 sl1 sc1])]) (p128) (k384) (k385) (1) (1) (8) (3) ([Value.int IntKind.i64 0]) ([Value.int IntKind.i64 77]) fun p129 k386 k387 w293 =>
                ∀ k388 : Nat,
                (w293.heap.size ≤ k388) →
                ∀ w294 : World,
                (Locl ([k388, k383, k367, k3, k2, k1]) w293 w294) →
                I1 [Value.slice p129 k386 k387, Value.pointer (some { block := k388, off := 0 }), Value.int IntKind.i64 n1, Value.int IntKind.i64 n2, Value.slice p1 k4 k5, Value.pointer (some { block := k367, off := 0 }), Value.int IntKind.i64 n25, Value.int IntKind.i64 n26, Value.slice p123 k368 k369] w294) ∧
              ∀ k389 : Nat,
              (w292.heap.size ≤ k389) →
              ∀ w295 : World,
              (Locl ([k389, k383, k367, k3, k2, k1]) w292 w295) →
              appVC (w295) ([(7, k389, [Value.int IntKind.i64 0, Value.int IntKind.i64 0, Value.slice none 0 0]), (27, k383, [Value.int IntKind.i64 77]), (8, k367, [Value.int IntKind.i64 0, Value.int IntKind.i64 0, Value.slice none 0 0]), (5, k3, [Value.int IntKind.i64 x3, Value.int IntKind.i64 x4, Value.slice sa3 sl3 sc3]), (4, k2, [Value.int IntKind.i64 x1, Value.int IntKind.i64 x2, Value.slice sa2 sl2 sc2]), (3, k1, [Value.string st1, Value.slice sa1 sl1 sc1])]) (p128) (k384) (k385) (1) (1) (8) (3) ([Value.int IntKind.i64 0]) ([Value.int IntKind.i64 77]) fun p130 k390 k391 w296 =>
              ∀ w297 : World,
              (Locl ([k389, k383, k367, k3, k2, k1]) w296 w297) →
              I1 [Value.slice p130 k390 k391, Value.pointer (some { block := k389, off := 0 }), Value.int IntKind.i64 n1, Value.int IntKind.i64 n2, Value.slice p1 k4 k5, Value.pointer (some { block := k367, off := 0 }), Value.int IntKind.i64 n25, Value.int IntKind.i64 n26, Value.slice p123 k368 k369] w297) ∧
            ∀ k392 : Nat,
            (w280.heap.size ≤ k392) →
            ∀ w298 : World,
            (Locl ([k392, k383, k367, k3, k2, k1]) w280 w298) →
            Calls P F.law23_ints #[Value.slice sa1 sl1 sc1] w298 fun e55 w299 =>
            ∃ p131 : Option Addr,
            ∃ k393 : Nat,
            ∃ k394 : Nat,
            (e55 = Ending.returned (Value.slice p131 k393 k394)) ∧
            (Keep ([k392, k383, k367, k3, k2, k1]) w298 w299) ∧
            appVC (w299) ([(7, k392, [Value.int IntKind.i64 0, Value.int IntKind.i64 0, Value.slice none 0 0]), (27, k383, [Value.int IntKind.i64 77]), (8, k367, [Value.int IntKind.i64 0, Value.int IntKind.i64 0, Value.slice none 0 0]), (5, k3, [Value.int IntKind.i64 x3, Value.int IntKind.i64 x4, Value.slice sa3 sl3 sc3]), (4, k2, [Value.int IntKind.i64 x1, Value.int IntKind.i64 x2, Value.slice sa2 sl2 sc2]), (3, k1, [Value.string st1, Value.slice sa1 sl1 sc1])]) (p131) (k393) (k394) (1) (1) (8) (3) ([Value.int IntKind.i64 0]) ([Value.int IntKind.i64 77]) fun p132 k395 k396 w300 =>
            ∀ w301 : World,
            (Locl ([k392, k383, k367, k3, k2, k1]) w300 w301) →
            I1 [Value.slice p132 k395 k396, Value.pointer (some { block := k392, off := 0 }), Value.int IntKind.i64 n1, Value.int IntKind.i64 n2, Value.slice p1 k4 k5, Value.pointer (some { block := k367, off := 0 }), Value.int IntKind.i64 n25, Value.int IntKind.i64 n26, Value.slice p123 k368 k369] w301) ∧
          ∀ k397 : Nat,
          (w280.heap.size ≤ k397) →
          (∀ w302 : World,
            (Locl ([k397, k367, k3, k2, k1]) w280 w302) →
            Calls P F.law23_ints #[Value.slice sa1 sl1 sc1] w302 fun e56 w303 =>
            ∃ p133 : Option Addr,
            ∃ k398 : Nat,
            ∃ k399 : Nat,
            (e56 = Ending.returned (Value.slice p133 k398 k399)) ∧
            (Keep ([k397, k367, k3, k2, k1]) w302 w303) ∧
            ∀ k400 : Nat,
            (w303.heap.size ≤ k400) →
            ∀ w304 : World,
            (Locl ([k400, k397, k367, k3, k2, k1]) w303 w304) →
            appVC (w304) ([(27, k400, [Value.int IntKind.i64 77]), (7, k397, [Value.int IntKind.i64 0, Value.int IntKind.i64 0, Value.slice none 0 0]), (8, k367, [Value.int IntKind.i64 0, Value.int IntKind.i64 0, Value.slice none 0 0]), (5, k3, [Value.int IntKind.i64 x3, Value.int IntKind.i64 x4, Value.slice sa3 sl3 sc3]), (4, k2, [Value.int IntKind.i64 x1, Value.int IntKind.i64 x2, Value.slice sa2 sl2 sc2]), (3, k1, [Value.string st1, Value.slice sa1 sl1 sc1])]) (p133) (k398) (k399) (1) (1) (8) (3) ([Value.int IntKind.i64 0]) ([Value.int IntKind.i64 77]) fun p134 k401 k402 w305 =>
            ∀ w306 : World,
            (Locl ([k400, k397, k367, k3, k2, k1]) w305 w306) →
            I1 [Value.slice p134 k401 k402, Value.pointer (some { block := k397, off := 0 }), Value.int IntKind.i64 n1, Value.int IntKind.i64 n2, Value.slice p1 k4 k5, Value.pointer (some { block := k367, off := 0 }), Value.int IntKind.i64 n25, Value.int IntKind.i64 n26, Value.slice p123 k368 k369] w306) ∧
          ∀ k403 : Nat,
          (w280.heap.size ≤ k403) →
          ∀ w307 : World,
          (Locl ([k403, k397, k367, k3, k2, k1]) w280 w307) →
          Calls P F.law23_ints #[Value.slice sa1 sl1 sc1] w307 fun e57 w308 =>
          ∃ p135 : Option Addr,
          ∃ k404 : Nat,
          ∃ k405 : Nat,
          (e57 = Ending.returned (Value.slice p135 k404 k405)) ∧
          (Keep ([k403, k397, k367, k3, k2, k1]) w307 w308) ∧
          appVC (w308) ([(27, k403, [Value.int IntKind.i64 77]), (7, k397, [Value.int IntKind.i64 0, Value.int IntKind.i64 0, Value.slice none 0 0]), (8, k367, [Value.int IntKind.i64 0, Value.int IntKind.i64 0, Value.slice none 0 0]), (5, k3, [Value.int IntKind.i64 x3, Value.int IntKind.i64 x4, Value.slice sa3 sl3 sc3]), (4, k2, [Value.int IntKind.i64 x1, Value.int IntKind.i64 x2, Value.slice sa2 sl2 sc2]), (3, k1, [Value.string st1, Value.slice sa1 sl1 sc1])]) (p135) (k404) (k405) (1) (1) (8) (3) ([Value.int IntKind.i64 0]) ([Value.int IntKind.i64 77]) fun p136 k406 k407 w309 =>
          ∀ w310 : World,
          (Locl ([k403, k397, k367, k3, k2, k1]) w309 w310) →
          I1 [Value.slice p136 k406 k407, Value.pointer (some { block := k397, off := 0 }), Value.int IntKind.i64 n1, Value.int IntKind.i64 n2, Value.slice p1 k4 k5, Value.pointer (some { block := k367, off := 0 }), Value.int IntKind.i64 n25, Value.int IntKind.i64 n26, Value.slice p123 k368 k369] w310) ∧
        (∀ k408 : Nat,
          (w3.heap.size ≤ k408) →
          (∀ w311 : World,
            (Locl ([k408, k367, k3, k2, k1]) w3 w311) →
            Calls P F.law23_own #[Value.agg #[Value.int IntKind.i64 x3, Value.int IntKind.i64 x4, Value.slice sa3 sl3 sc3]] w311 fun e58 w312 =>
            ∃ n27 : Int,
            ∃ n28 : Int,
            ∃ p137 : Option Addr,
            ∃ k409 : Nat,
            ∃ k410 : Nat,
            (e58 = Ending.returned (Value.agg #[Value.int IntKind.i64 n27, Value.int IntKind.i64 n28, Value.slice p137 k409 k410])) ∧
            (Keep ([k408, k367, k3, k2, k1]) w311 w312) ∧
            (Keeps w311 w312) ∧
            (Calls P F.law23_ints #[Value.slice sa1 sl1 sc1] w312 fun e59 w313 =>
              ∃ p138 : Option Addr,
              ∃ k411 : Nat,
              ∃ k412 : Nat,
              (e59 = Ending.returned (Value.slice p138 k411 k412)) ∧
              (Keep ([k408, k367, k3, k2, k1]) w312 w313) ∧
              (appVC (w313) ([(27, k408, [Value.int IntKind.i64 77]), (8, k367, [Value.int IntKind.i64 0, Value.int IntKind.i64 0, Value.slice none 0 0]), (5, k3, [Value.int IntKind.i64 x3, Value.int IntKind.i64 x4, Value.slice sa3 sl3 sc3]), (4, k2, [Value.int IntKind.i64 x1, Value.int IntKind.i64 x2, Value.slice sa2 sl2 sc2]), (3, k1, [Value.string st1, Value.slice sa1 sl1 sc1])]) (p138) (k411) (k412) (1) (1) (8) (3) ([Value.int IntKind.i64 0]) ([Value.int IntKind.i64 77]) fun p139 k413 k414 w314 =>
                ∀ k415 : Nat,
                (w314.heap.size ≤ k415) →
                ∀ w315 : World,
                (Locl ([k415, k408, k367, k3, k2, k1]) w314 w315) →
                I1 [Value.slice p139 k413 k414, Value.pointer (some { block := k415, off := 0 }), Value.int IntKind.i64 n1, Value.int IntKind.i64 n2, Value.slice p1 k4 k5, Value.pointer (some { block := k367, off := 0 }), Value.int IntKind.i64 n27, Value.int IntKind.i64 n28, Value.slice p137 k409 k410] w315) ∧
              ∀ k416 : Nat,
              (w313.heap.size ≤ k416) →
              ∀ w316 : World,
              (Locl ([k416, k408, k367, k3, k2, k1]) w313 w316) →
              appVC (w316) ([(7, k416, [Value.int IntKind.i64 0, Value.int IntKind.i64 0, Value.slice none 0 0]), (27, k408, [Value.int IntKind.i64 77]), (8, k367, [Value.int IntKind.i64 0, Value.int IntKind.i64 0, Value.slice none 0 0]), (5, k3, [Value.int IntKind.i64 x3, Value.int IntKind.i64 x4, Value.slice sa3 sl3 sc3]), (4, k2, [Value.int IntKind.i64 x1, Value.int IntKind.i64 x2, Value.slice sa2 sl2 sc2]), (3, k1, [Value.string st1, Value.slice sa1 sl1 sc1])]) (p138) (k411) (k412) (1) (1) (8) (3) ([Value.int IntKind.i64 0]) ([Value.int IntKind.i64 77]) fun p140 k417 k418 w317 =>
              ∀ w318 : World,
              (Locl ([k416, k408, k367, k3, k2, k1]) w317 w318) →
              I1 [Value.slice p140 k417 k418, Value.pointer (some { block := k416, off := 0 }), Value.int IntKind.i64 n1, Value.int IntKind.i64 n2, Value.slice p1 k4 k5, Value.pointer (some { block := k367, off := 0 }), Value.int IntKind.i64 n27, Value.int IntKind.i64 n28, Value.slice p137 k409 k410] w318) ∧
            ∀ k419 : Nat,
            (w312.heap.size ≤ k419) →
            ∀ w319 : World,
            (Locl ([k419, k408, k367, k3, k2, k1]) w312 w319) →
            Calls P F.law23_ints #[Value.slice sa1 sl1 sc1] w319 fun e60 w320 =>
            ∃ p141 : Option Addr,
            ∃ k420 : Nat,
            ∃ k421 : Nat,
            (e60 = Ending.returned (Value.slice p141 k420 k421)) ∧
            (Keep ([k419, k408, k367, k3, k2, k1]) w319 w320) ∧
            appVC (w320) ([(7, k419, [Value.int IntKind.i64 0, Value.int IntKind.i64 0, Value.slice none 0 0]), (27, k408, [Value.int IntKind.i64 77]), (8, k367, [Value.int IntKind.i64 0, Value.int IntKind.i64 0, Value.slice none 0 0]), (5, k3, [Value.int IntKind.i64 x3, Value.int IntKind.i64 x4, Value.slice sa3 sl3 sc3]), (4, k2, [Value.int IntKind.i64 x1, Value.int IntKind.i64 x2, Value.slice sa2 sl2 sc2]), (3, k1, [Value.string st1, Value.slice sa1 sl1 sc1])]) (p141) (k420) (k421) (1) (1) (8) (3) ([Value.int IntKind.i64 0]) ([Value.int IntKind.i64 77]) fun p142 k422 k423 w321 =>
            ∀ w322 : World,
            (Locl ([k419, k408, k367, k3, k2, k1]) w321 w322) →
            I1 [Value.slice p142 k422 k423, Value.pointer (some { block := k419, off := 0 }), Value.int IntKind.i64 n1, Value.int IntKind.i64 n2, Value.slice p1 k4 k5, Value.pointer (some { block := k367, off := 0 }), Value.int IntKind.i64 n27, Value.int IntKind.i64 n28, Value.slice p137 k409 k410] w322) ∧
          ∀ k424 : Nat,
          (w3.heap.size ≤ k424) →
          ∀ w323 : World,
          (Locl ([k424, k408, k367, k3, k2, k1]) w3 w323) →
          Calls P F.law23_own #[Value.agg #[Value.int IntKind.i64 x3, Value.int IntKind.i64 x4, Value.slice sa3 sl3 sc3]] w323 fun e61 w324 =>
          ∃ n29 : Int,
          ∃ n30 : Int,
          ∃ p143 : Option Addr,
          ∃ k425 : Nat,
          ∃ k426 : Nat,
          (e61 = Ending.returned (Value.agg #[Value.int IntKind.i64 n29, Value.int IntKind.i64 n30, Value.slice p143 k425 k426])) ∧
          (Keep ([k424, k408, k367, k3, k2, k1]) w323 w324) ∧
          (Keeps w323 w324) ∧
          Calls P F.law23_ints #[Value.slice sa1 sl1 sc1] w324 fun e62 w325 =>
          ∃ p144 : Option Addr,
          ∃ k427 : Nat,
          ∃ k428 : Nat,
          (e62 = Ending.returned (Value.slice p144 k427 k428)) ∧
          (Keep ([k424, k408, k367, k3, k2, k1]) w324 w325) ∧
          appVC (w325) ([(7, k424, [Value.int IntKind.i64 0, Value.int IntKind.i64 0, Value.slice none 0 0]), (27, k408, [Value.int IntKind.i64 77]), (8, k367, [Value.int IntKind.i64 0, Value.int IntKind.i64 0, Value.slice none 0 0]), (5, k3, [Value.int IntKind.i64 x3, Value.int IntKind.i64 x4, Value.slice sa3 sl3 sc3]), (4, k2, [Value.int IntKind.i64 x1, Value.int IntKind.i64 x2, Value.slice sa2 sl2 sc2]), (3, k1, [Value.string st1, Value.slice sa1 sl1 sc1])]) (p144) (k427) (k428) (1) (1) (8) (3) ([Value.int IntKind.i64 0]) ([Value.int IntKind.i64 77]) fun p145 k429 k430 w326 =>
          ∀ w327 : World,
          (Locl ([k424, k408, k367, k3, k2, k1]) w326 w327) →
          I1 [Value.slice p145 k429 k430, Value.pointer (some { block := k424, off := 0 }), Value.int IntKind.i64 n1, Value.int IntKind.i64 n2, Value.slice p1 k4 k5, Value.pointer (some { block := k367, off := 0 }), Value.int IntKind.i64 n29, Value.int IntKind.i64 n30, Value.slice p143 k425 k426] w327) ∧
        ∀ k431 : Nat,
        (w3.heap.size ≤ k431) →
        (∀ w328 : World,
          (Locl ([k431, k367, k3, k2, k1]) w3 w328) →
          Calls P F.law23_own #[Value.agg #[Value.int IntKind.i64 x3, Value.int IntKind.i64 x4, Value.slice sa3 sl3 sc3]] w328 fun e63 w329 =>
          ∃ n31 : Int,
          ∃ n32 : Int,
          ∃ p146 : Option Addr,
          ∃ k432 : Nat,
          ∃ k433 : Nat,
          (e63 = Ending.returned (Value.agg #[Value.int IntKind.i64 n31, Value.int IntKind.i64 n32, Value.slice p146 k432 k433])) ∧
          (Keep ([k431, k367, k3, k2, k1]) w328 w329) ∧
          (Keeps w328 w329) ∧
          (Calls P F.law23_ints #[Value.slice sa1 sl1 sc1] w329 fun e64 w330 =>
            ∃ p147 : Option Addr,
            ∃ k434 : Nat,
            ∃ k435 : Nat,
            (e64 = Ending.returned (Value.slice p147 k434 k435)) ∧
            (Keep ([k431, k367, k3, k2, k1]) w329 w330) ∧
            ∀ k436 : Nat,
            (w330.heap.size ≤ k436) →
            ∀ w331 : World,
            (Locl ([k436, k431, k367, k3, k2, k1]) w330 w331) →
            appVC (w331) ([(27, k436, [Value.int IntKind.i64 77]), (7, k431, [Value.int IntKind.i64 0, Value.int IntKind.i64 0, Value.slice none 0 0]), (8, k367, [Value.int IntKind.i64 0, Value.int IntKind.i64 0, Value.slice none 0 0]), (5, k3, [Value.int IntKind.i64 x3, Value.int IntKind.i64 x4, Value.slice sa3 sl3 sc3]), (4, k2, [Value.int IntKind.i64 x1, Value.int IntKind.i64 x2, Value.slice sa2 sl2 sc2]), (3, k1, [Value.string st1, Value.slice sa1 sl1 sc1])]) (p147) (k434) (k435) (1) (1) (8) (3) ([Value.int IntKind.i64 0]) ([Value.int IntKind.i64 77]) fun p148 k437 k438 w332 =>
            ∀ w333 : World,
            (Locl ([k436, k431, k367, k3, k2, k1]) w332 w333) →
            I1 [Value.slice p148 k437 k438, Value.pointer (some { block := k431, off := 0 }), Value.int IntKind.i64 n1, Value.int IntKind.i64 n2, Value.slice p1 k4 k5, Value.pointer (some { block := k367, off := 0 }), Value.int IntKind.i64 n31, Value.int IntKind.i64 n32, Value.slice p146 k432 k433] w333) ∧
          ∀ k439 : Nat,
          (w329.heap.size ≤ k439) →
          ∀ w334 : World,
          (Locl ([k439, k431, k367, k3, k2, k1]) w329 w334) →
          Calls P F.law23_ints #[Value.slice sa1 sl1 sc1] w334 fun e65 w335 =>
          ∃ p149 : Option Addr,
          ∃ k440 : Nat,
          ∃ k441 : Nat,
          (e65 = Ending.returned (Value.slice p149 k440 k441)) ∧
          (Keep ([k439, k431, k367, k3, k2, k1]) w334 w335) ∧
          appVC (w335) ([(27, k439, [Value.int IntKind.i64 77]), (7, k431, [Value.int IntKind.i64 0, Value.int IntKind.i64 0, Value.slice none 0 0]), (8, k367, [Value.int IntKind.i64 0, Value.int IntKind.i64 0, Value.slice none 0 0]), (5, k3, [Value.int IntKind.i64 x3, Value.int IntKind.i64 x4, Value.slice sa3 sl3 sc3]), (4, k2, [Value.int IntKind.i64 x1, Value.int IntKind.i64 x2, Value.slice sa2 sl2 sc2]), (3, k1, [Value.string st1, Value.slice sa1 sl1 sc1])]) (p149) (k440) (k441) (1) (1) (8) (3) ([Value.int IntKind.i64 0]) ([Value.int IntKind.i64 77]) fun p150 k442 k443 w336 =>
          ∀ w337 : World,
          (Locl ([k439, k431, k367, k3, k2, k1]) w336 w337) →
          I1 [Value.slice p150 k442 k443, Value.pointer (some { block := k431, off := 0 }), Value.int IntKind.i64 n1, Value.int IntKind.i64 n2, Value.slice p1 k4 k5, Value.pointer (some { block := k367, off := 0 }), Value.int IntKind.i64 n31, Value.int IntKind.i64 n32, Value.slice p146 k432 k433] w337) ∧
        ∀ k444 : Nat,
        (w3.heap.size ≤ k444) →
        ∀ w338 : World,
        (Locl ([k444, k431, k367, k3, k2, k1]) w3 w338) →
        Calls P F.law23_own #[Value.agg #[Value.int IntKind.i64 x3, Value.int IntKind.i64 x4, Value.slice sa3 sl3 sc3]] w338 fun e66 w339 =>
        ∃ n33 : Int,
        ∃ n34 : Int,
        ∃ p151 : Option Addr,
        ∃ k445 : Nat,
        ∃ k446 : Nat,
        (e66 = Ending.returned (Value.agg #[Value.int IntKind.i64 n33, Value.int IntKind.i64 n34, Value.slice p151 k445 k446])) ∧
        (Keep ([k444, k431, k367, k3, k2, k1]) w338 w339) ∧
        (Keeps w338 w339) ∧
        Calls P F.law23_ints #[Value.slice sa1 sl1 sc1] w339 fun e67 w340 =>
        ∃ p152 : Option Addr,
        ∃ k447 : Nat,
        ∃ k448 : Nat,
        (e67 = Ending.returned (Value.slice p152 k447 k448)) ∧
        (Keep ([k444, k431, k367, k3, k2, k1]) w339 w340) ∧
        appVC (w340) ([(27, k444, [Value.int IntKind.i64 77]), (7, k431, [Value.int IntKind.i64 0, Value.int IntKind.i64 0, Value.slice none 0 0]), (8, k367, [Value.int IntKind.i64 0, Value.int IntKind.i64 0, Value.slice none 0 0]), (5, k3, [Value.int IntKind.i64 x3, Value.int IntKind.i64 x4, Value.slice sa3 sl3 sc3]), (4, k2, [Value.int IntKind.i64 x1, Value.int IntKind.i64 x2, Value.slice sa2 sl2 sc2]), (3, k1, [Value.string st1, Value.slice sa1 sl1 sc1])]) (p152) (k447) (k448) (1) (1) (8) (3) ([Value.int IntKind.i64 0]) ([Value.int IntKind.i64 77]) fun p153 k449 k450 w341 =>
        ∀ w342 : World,
        (Locl ([k444, k431, k367, k3, k2, k1]) w341 w342) →
        I1 [Value.slice p153 k449 k450, Value.pointer (some { block := k431, off := 0 }), Value.int IntKind.i64 n1, Value.int IntKind.i64 n2, Value.slice p1 k4 k5, Value.pointer (some { block := k367, off := 0 }), Value.int IntKind.i64 n33, Value.int IntKind.i64 n34, Value.slice p151 k445 k446] w342) ∧
      (∀ k451 : Nat,
        (w2.drew.heap.size ≤ k451) →
        (∀ w343 : World,
          (Locl ([k451, k3, k2, k1]) (w2.drew) w343) →
          Calls P F.law23_own #[Value.agg #[Value.int IntKind.i64 x1, Value.int IntKind.i64 x2, Value.slice sa2 sl2 sc2]] w343 fun e68 w344 =>
          ∃ n35 : Int,
          ∃ n36 : Int,
          ∃ p154 : Option Addr,
          ∃ k452 : Nat,
          ∃ k453 : Nat,
          (e68 = Ending.returned (Value.agg #[Value.int IntKind.i64 n35, Value.int IntKind.i64 n36, Value.slice p154 k452 k453])) ∧
          (Keep ([k451, k3, k2, k1]) w343 w344) ∧
          (Keeps w343 w344) ∧
          (Calls P F.law23_own #[Value.agg #[Value.int IntKind.i64 x3, Value.int IntKind.i64 x4, Value.slice sa3 sl3 sc3]] w344 fun e69 w345 =>
            ∃ n37 : Int,
            ∃ n38 : Int,
            ∃ p155 : Option Addr,
            ∃ k454 : Nat,
            ∃ k455 : Nat,
            (e69 = Ending.returned (Value.agg #[Value.int IntKind.i64 n37, Value.int IntKind.i64 n38, Value.slice p155 k454 k455])) ∧
            (Keep ([k451, k3, k2, k1]) w344 w345) ∧
            (Keeps w344 w345) ∧
            (Calls P F.law23_ints #[Value.slice sa1 sl1 sc1] w345 fun e70 w346 =>
              ∃ p156 : Option Addr,
              ∃ k456 : Nat,
              ∃ k457 : Nat,
              (e70 = Ending.returned (Value.slice p156 k456 k457)) ∧
              (Keep ([k451, k3, k2, k1]) w345 w346) ∧
              (appVC (w346) ([(27, k451, [Value.int IntKind.i64 77]), (5, k3, [Value.int IntKind.i64 x3, Value.int IntKind.i64 x4, Value.slice sa3 sl3 sc3]), (4, k2, [Value.int IntKind.i64 x1, Value.int IntKind.i64 x2, Value.slice sa2 sl2 sc2]), (3, k1, [Value.string st1, Value.slice sa1 sl1 sc1])]) (p156) (k456) (k457) (1) (1) (8) (3) ([Value.int IntKind.i64 0]) ([Value.int IntKind.i64 77]) fun p157 k458 k459 w347 =>
                (∀ k460 : Nat,
                  (w347.heap.size ≤ k460) →
                  ∀ k461 : Nat,
                  (w347.heap.size ≤ k461) →
                  ∀ w348 : World,
                  (Locl ([k461, k460, k451, k3, k2, k1]) w347 w348) →
                  I1 [Value.slice p157 k458 k459, Value.pointer (some { block := k460, off := 0 }), Value.int IntKind.i64 n35, Value.int IntKind.i64 n36, Value.slice p154 k452 k453, Value.pointer (some { block := k461, off := 0 }), Value.int IntKind.i64 n37, Value.int IntKind.i64 n38, Value.slice p155 k454 k455] w348) ∧
                ∀ k462 : Nat,
                (w347.heap.size ≤ k462) →
                ∀ k463 : Nat,
                (w347.heap.size ≤ k463) →
                ∀ w349 : World,
                (Locl ([k463, k462, k451, k3, k2, k1]) w347 w349) →
                I1 [Value.slice p157 k458 k459, Value.pointer (some { block := k463, off := 0 }), Value.int IntKind.i64 n35, Value.int IntKind.i64 n36, Value.slice p154 k452 k453, Value.pointer (some { block := k462, off := 0 }), Value.int IntKind.i64 n37, Value.int IntKind.i64 n38, Value.slice p155 k454 k455] w349) ∧
              (∀ k464 : Nat,
                (w346.heap.size ≤ k464) →
                (∀ w350 : World,
                  (Locl ([k464, k451, k3, k2, k1]) w346 w350) →
                  appVC (w350) ([(7, k464, [Value.int IntKind.i64 0, Value.int IntKind.i64 0, Value.slice none 0 0]), (27, k451, [Value.int IntKind.i64 77]), (5, k3, [Value.int IntKind.i64 x3, Value.int IntKind.i64 x4, Value.slice sa3 sl3 sc3]), (4, k2, [Value.int IntKind.i64 x1, Value.int IntKind.i64 x2, Value.slice sa2 sl2 sc2]), (3, k1, [Value.string st1, Value.slice sa1 sl1 sc1])]) (p156) (k456) (k457) (1) (1) (8) (3) ([Value.int IntKind.i64 0]) ([Value.int IntKind.i64 77]) fun p158 k465 k466 w351 =>
                  ∀ k467 : Nat,
                  (w351.heap.size ≤ k467) →
                  ∀ w352 : World,
                  (Locl ([k467, k464, k451, k3, k2, k1]) w351 w352) →
                  I1 [Value.slice p158 k465 k466, Value.pointer (some { block := k464, off := 0 }), Value.int IntKind.i64 n35, Value.int IntKind.i64 n36, Value.slice p154 k452 k453, Value.pointer (some { block := k467, off := 0 }), Value.int IntKind.i64 n37, Value.int IntKind.i64 n38, Value.slice p155 k454 k455] w352) ∧
                ∀ k468 : Nat,
                (w346.heap.size ≤ k468) →
                ∀ w353 : World,
                (Locl ([k468, k464, k451, k3, k2, k1]) w346 w353) →
                appVC (w353) ([(8, k468, [Value.int IntKind.i64 0, Value.int IntKind.i64 0, Value.slice none 0 0]), (7, k464, [Value.int IntKind.i64 0, Value.int IntKind.i64 0, Value.slice none 0 0]), (27, k451, [Value.int IntKind.i64 77]), (5, k3, [Value.int IntKind.i64 x3, Value.int IntKind.i64 x4, Value.slice sa3 sl3 sc3]), (4, k2, [Value.int IntKind.i64 x1, Value.int IntKind.i64 x2, Value.slice sa2 sl2 sc2]), (3, k1, [Value.string st1, Value.slice sa1 sl1 sc1])]) (p156) (k456) (k457) (1) (1) (8) (3) ([Value.int IntKind.i64 0]) ([Value.int IntKind.i64 77]) fun p159 k469 k470 w354 =>
                ∀ w355 : World,
                (Locl ([k468, k464, k451, k3, k2, k1]) w354 w355) →
                I1 [Value.slice p159 k469 k470, Value.pointer (some { block := k464, off := 0 }), Value.int IntKind.i64 n35, Value.int IntKind.i64 n36, Value.slice p154 k452 k453, Value.pointer (some { block := k468, off := 0 }), Value.int IntKind.i64 n37, Value.int IntKind.i64 n38, Value.slice p155 k454 k455] w355) ∧
              ∀ k471 : Nat,
              (w346.heap.size ≤ k471) →
              (∀ w356 : World,
                (Locl ([k471, k451, k3, k2, k1]) w346 w356) →
                appVC (w356) ([(8, k471, [Value.int IntKind.i64 0, Value.int IntKind.i64 0, Value.slice none 0 0]), (27, k451, [Value.int IntKind.i64 77]), (5, k3, [Value.int IntKind.i64 x3, Value.int IntKind.i64 x4, Value.slice sa3 sl3 sc3]), (4, k2, [Value.int IntKind.i64 x1, Value.int IntKind.i64 x2, Value.slice sa2 sl2 sc2]), (3, k1, [Value.string st1, Value.slice sa1 sl1 sc1])]) (p156) (k456) (k457) (1) (1) (8) (3) ([Value.int IntKind.i64 0]) ([Value.int IntKind.i64 77]) fun p160 k472 k473 w357 =>
                ∀ k474 : Nat,
                (w357.heap.size ≤ k474) →
                ∀ w358 : World,
                (Locl ([k474, k471, k451, k3, k2, k1]) w357 w358) →
                I1 [Value.slice p160 k472 k473, Value.pointer (some { block := k474, off := 0 }), Value.int IntKind.i64 n35, Value.int IntKind.i64 n36, Value.slice p154 k452 k453, Value.pointer (some { block := k471, off := 0 }), Value.int IntKind.i64 n37, Value.int IntKind.i64 n38, Value.slice p155 k454 k455] w358) ∧
              ∀ k475 : Nat,
              (w346.heap.size ≤ k475) →
              ∀ w359 : World,
              (Locl ([k475, k471, k451, k3, k2, k1]) w346 w359) →
              appVC (w359) ([(7, k475, [Value.int IntKind.i64 0, Value.int IntKind.i64 0, Value.slice none 0 0]), (8, k471, [Value.int IntKind.i64 0, Value.int IntKind.i64 0, Value.slice none 0 0]), (27, k451, [Value.int IntKind.i64 77]), (5, k3, [Value.int IntKind.i64 x3, Value.int IntKind.i64 x4, Value.slice sa3 sl3 sc3]), (4, k2, [Value.int IntKind.i64 x1, Value.int IntKind.i64 x2, Value.slice sa2 sl2 sc2]), (3, k1, [Value.string st1, Value.slice sa1 sl1 sc1])]) (p156) (k456) (k457) (1) (1) (8) (3) ([Value.int IntKind.i64 0]) ([Value.int IntKind.i64 77]) fun p161 k476 k477 w360 =>
              ∀ w361 : World,
              (Locl ([k475, k471, k451, k3, k2, k1]) w360 w361) →
              I1 [Value.slice p161 k476 k477, Value.pointer (some { block := k475, off := 0 }), Value.int IntKind.i64 n35, Value.int IntKind.i64 n36, Value.slice p154 k452 k453, Value.pointer (some { block := k471, off := 0 }), Value.int IntKind.i64 n37, Value.int IntKind.i64 n38, Value.slice p155 k454 k455] w361) ∧
            (∀ k478 : Nat,
              (w345.heap.size ≤ k478) →
              (∀ w362 : World,
                (Locl ([k478, k451, k3, k2, k1]) w345 w362) →
                Calls P F.law23_ints #[Value.slice sa1 sl1 sc1] w362 fun e71 w363 =>
                ∃ p162 : Option Addr,
                ∃ k479 : Nat,
                ∃ k480 : Nat,
                (e71 = Ending.returned (Value.slice p162 k479 k480)) ∧
                (Keep ([k478, k451, k3, k2, k1]) w362 w363) ∧
                (appVC (w363) ([(7, k478, [Value.int IntKind.i64 0, Value.int IntKind.i64 0, Value.slice none 0 0]), (27, k451, [Value.int IntKind.i64 77]), (5, k3, [Value.int IntKind.i64 x3, Value.int IntKind.i64 x4, Value.slice sa3 sl3 sc3]), (4, k2, [Value.int IntKind.i64 x1, Value.int IntKind.i64 x2, Value.slice sa2 sl2 sc2]), (3, k1, [Value.string st1, Value.slice sa1 sl1 sc1])]) (p162) (k479) (k480) (1) (1) (8) (3) ([Value.int IntKind.i64 0]) ([Value.int IntKind.i64 77]) fun p163 k481 k482 w364 =>
                  ∀ k483 : Nat,
                  (w364.heap.size ≤ k483) →
                  ∀ w365 : World,
                  (Locl ([k483, k478, k451, k3, k2, k1]) w364 w365) →
                  I1 [Value.slice p163 k481 k482, Value.pointer (some { block := k478, off := 0 }), Value.int IntKind.i64 n35, Value.int IntKind.i64 n36, Value.slice p154 k452 k453, Value.pointer (some { block := k483, off := 0 }), Value.int IntKind.i64 n37, Value.int IntKind.i64 n38, Value.slice p155 k454 k455] w365) ∧
                ∀ k484 : Nat,
                (w363.heap.size ≤ k484) →
                ∀ w366 : World,
                (Locl ([k484, k478, k451, k3, k2, k1]) w363 w366) →
                appVC (w366) ([(8, k484, [Value.int IntKind.i64 0, Value.int IntKind.i64 0, Value.slice none 0 0]), (7, k478, [Value.int IntKind.i64 0, Value.int IntKind.i64 0, Value.slice none 0 0]), (27, k451, [Value.int IntKind.i64 77]), (5, k3, [Value.int IntKind.i64 x3, Value.int IntKind.i64 x4, Value.slice sa3 sl3 sc3]), (4, k2, [Value.int IntKind.i64 x1, Value.int IntKind.i64 x2, Value.slice sa2 sl2 sc2]), (3, k1, [Value.string st1, Value.slice sa1 sl1 sc1])]) (p162) (k479) (k480) (1) (1) (8) (3) ([Value.int IntKind.i64 0]) ([Value.int IntKind.i64 77]) fun p164 k485 k486 w367 =>
                ∀ w368 : World,
                (Locl ([k484, k478, k451, k3, k2, k1]) w367 w368) →
                I1 [Value.slice p164 k485 k486, Value.pointer (some { block := k478, off := 0 }), Value.int IntKind.i64 n35, Value.int IntKind.i64 n36, Value.slice p154 k452 k453, Value.pointer (some { block := k484, off := 0 }), Value.int IntKind.i64 n37, Value.int IntKind.i64 n38, Value.slice p155 k454 k455] w368) ∧
              ∀ k487 : Nat,
              (w345.heap.size ≤ k487) →
              ∀ w369 : World,
              (Locl ([k487, k478, k451, k3, k2, k1]) w345 w369) →
              Calls P F.law23_ints #[Value.slice sa1 sl1 sc1] w369 fun e72 w370 =>
              ∃ p165 : Option Addr,
              ∃ k488 : Nat,
              ∃ k489 : Nat,
              (e72 = Ending.returned (Value.slice p165 k488 k489)) ∧
              (Keep ([k487, k478, k451, k3, k2, k1]) w369 w370) ∧
              appVC (w370) ([(8, k487, [Value.int IntKind.i64 0, Value.int IntKind.i64 0, Value.slice none 0 0]), (7, k478, [Value.int IntKind.i64 0, Value.int IntKind.i64 0, Value.slice none 0 0]), (27, k451, [Value.int IntKind.i64 77]), (5, k3, [Value.int IntKind.i64 x3, Value.int IntKind.i64 x4, Value.slice sa3 sl3 sc3]), (4, k2, [Value.int IntKind.i64 x1, Value.int IntKind.i64 x2, Value.slice sa2 sl2 sc2]), (3, k1, [Value.string st1, Value.slice sa1 sl1 sc1])]) (p165) (k488) (k489) (1) (1) (8) (3) ([Value.int IntKind.i64 0]) ([Value.int IntKind.i64 77]) fun p166 k490 k491 w371 =>
              ∀ w372 : World,
              (Locl ([k487, k478, k451, k3, k2, k1]) w371 w372) →
              I1 [Value.slice p166 k490 k491, Value.pointer (some { block := k478, off := 0 }), Value.int IntKind.i64 n35, Value.int IntKind.i64 n36, Value.slice p154 k452 k453, Value.pointer (some { block := k487, off := 0 }), Value.int IntKind.i64 n37, Value.int IntKind.i64 n38, Value.slice p155 k454 k455] w372) ∧
            ∀ k492 : Nat,
            (w345.heap.size ≤ k492) →
            (∀ w373 : World,
              (Locl ([k492, k451, k3, k2, k1]) w345 w373) →
              Calls P F.law23_ints #[Value.slice sa1 sl1 sc1] w373 fun e73 w374 =>
              ∃ p167 : Option Addr,
              ∃ k493 : Nat,
              ∃ k494 : Nat,
              (e73 = Ending.returned (Value.slice p167 k493 k494)) ∧
              (Keep ([k492, k451, k3, k2, k1]) w373 w374) ∧
              (appVC (w374) ([(8, k492, [Value.int IntKind.i64 0, Value.int IntKind.i64 0, Value.slice none 0 0]), (27, k451, [Value.int IntKind.i64 77]), (5, k3, [Value.int IntKind.i64 x3, Value.int IntKind.i64 x4, Value.slice sa3 sl3 sc3]), (4, k2, [Value.int IntKind.i64 x1, Value.int IntKind.i64 x2, Value.slice sa2 sl2 sc2]), (3, k1, [Value.string st1, Value.slice sa1 sl1 sc1])]) (p167) (k493) (k494) (1) (1) (8) (3) ([Value.int IntKind.i64 0]) ([Value.int IntKind.i64 77]) fun p168 k495 k496 w375 =>
                ∀ k497 : Nat,
                (w375.heap.size ≤ k497) →
                ∀ w376 : World,
                (Locl ([k497, k492, k451, k3, k2, k1]) w375 w376) →
                I1 [Value.slice p168 k495 k496, Value.pointer (some { block := k497, off := 0 }), Value.int IntKind.i64 n35, Value.int IntKind.i64 n36, Value.slice p154 k452 k453, Value.pointer (some { block := k492, off := 0 }), Value.int IntKind.i64 n37, Value.int IntKind.i64 n38, Value.slice p155 k454 k455] w376) ∧
              ∀ k498 : Nat,
              (w374.heap.size ≤ k498) →
              ∀ w377 : World,
              (Locl ([k498, k492, k451, k3, k2, k1]) w374 w377) →
              appVC (w377) ([(7, k498, [Value.int IntKind.i64 0, Value.int IntKind.i64 0, Value.slice none 0 0]), (8, k492, [Value.int IntKind.i64 0, Value.int IntKind.i64 0, Value.slice none 0 0]), (27, k451, [Value.int IntKind.i64 77]), (5, k3, [Value.int IntKind.i64 x3, Value.int IntKind.i64 x4, Value.slice sa3 sl3 sc3]), (4, k2, [Value.int IntKind.i64 x1, Value.int IntKind.i64 x2, Value.slice sa2 sl2 sc2]), (3, k1, [Value.string st1, Value.slice sa1 sl1 sc1])]) (p167) (k493) (k494) (1) (1) (8) (3) ([Value.int IntKind.i64 0]) ([Value.int IntKind.i64 77]) fun p169 k499 k500 w378 =>
              ∀ w379 : World,
              (Locl ([k498, k492, k451, k3, k2, k1]) w378 w379) →
              I1 [Value.slice p169 k499 k500, Value.pointer (some { block := k498, off := 0 }), Value.int IntKind.i64 n35, Value.int IntKind.i64 n36, Value.slice p154 k452 k453, Value.pointer (some { block := k492, off := 0 }), Value.int IntKind.i64 n37, Value.int IntKind.i64 n38, Value.slice p155 k454 k455] w379) ∧
            ∀ k501 : Nat,
            (w345.heap.size ≤ k501) →
            ∀ w380 : World,
            (Locl ([k501, k492, k451, k3, k2, k1]) w345 w380) →
            Calls P F.law23_ints #[Value.slice sa1 sl1 sc1] w380 fun e74 w381 =>
            ∃ p170 : Option Addr,
            ∃ k502 : Nat,
            ∃ k503 : Nat,
            (e74 = Ending.returned (Value.slice p170 k502 k503)) ∧
            (Keep ([k501, k492, k451, k3, k2, k1]) w380 w381) ∧
            appVC (w381) ([(7, k501, [Value.int IntKind.i64 0, Value.int IntKind.i64 0, Value.slice none 0 0]), (8, k492, [Value.int IntKind.i64 0, Value.int IntKind.i64 0, Value.slice none 0 0]), (27, k451, [Value.int IntKind.i64 77]), (5, k3, [Value.int IntKind.i64 x3, Value.int IntKind.i64 x4, Value.slice sa3 sl3 sc3]), (4, k2, [Value.int IntKind.i64 x1, Value.int IntKind.i64 x2, Value.slice sa2 sl2 sc2]), (3, k1, [Value.string st1, Value.slice sa1 sl1 sc1])]) (p170) (k502) (k503) (1) (1) (8) (3) ([Value.int IntKind.i64 0]) ([Value.int IntKind.i64 77]) fun p171 k504 k505 w382 =>
            ∀ w383 : World,
            (Locl ([k501, k492, k451, k3, k2, k1]) w382 w383) →
            I1 [Value.slice p171 k504 k505, Value.pointer (some { block := k501, off := 0 }), Value.int IntKind.i64 n35, Value.int IntKind.i64 n36, Value.slice p154 k452 k453, Value.pointer (some { block := k492, off := 0 }), Value.int IntKind.i64 n37, Value.int IntKind.i64 n38, Value.slice p155 k454 k455] w383) ∧
          (∀ k506 : Nat,
            (w344.heap.size ≤ k506) →
            (∀ w384 : World,
              (Locl ([k506, k451, k3, k2, k1]) w344 w384) →
              Calls P F.law23_own #[Value.agg #[Value.int IntKind.i64 x3, Value.int IntKind.i64 x4, Value.slice sa3 sl3 sc3]] w384 fun e75 w385 =>
              ∃ n39 : Int,
              ∃ n40 : Int,
              ∃ p172 : Option Addr,
              ∃ k507 : Nat,
              ∃ k508 : Nat,
              (e75 = Ending.returned (Value.agg #[Value.int IntKind.i64 n39, Value.int IntKind.i64 n40, Value.slice p172 k507 k508])) ∧
              (Keep ([k506, k451, k3, k2, k1]) w384 w385) ∧
              (Keeps w384 w385) ∧
              (Calls P F.law23_ints #[Value.slice sa1 sl1 sc1] w385 fun e76 w386 =>
                ∃ p173 : Option Addr,
                ∃ k509 : Nat,
                ∃ k510 : Nat,
                (e76 = Ending.returned (Value.slice p173 k509 k510)) ∧
                (Keep ([k506, k451, k3, k2, k1]) w385 w386) ∧
                (appVC (w386) ([(7, k506, [Value.int IntKind.i64 0, Value.int IntKind.i64 0, Value.slice none 0 0]), (27, k451, [Value.int IntKind.i64 77]), (5, k3, [Value.int IntKind.i64 x3, Value.int IntKind.i64 x4, Value.slice sa3 sl3 sc3]), (4, k2, [Value.int IntKind.i64 x1, Value.int IntKind.i64 x2, Value.slice sa2 sl2 sc2]), (3, k1, [Value.string st1, Value.slice sa1 sl1 sc1])]) (p173) (k509) (k510) (1) (1) (8) (3) ([Value.int IntKind.i64 0]) ([Value.int IntKind.i64 77]) fun p174 k511 k512 w387 =>
                  ∀ k513 : Nat,
                  (w387.heap.size ≤ k513) →
                  ∀ w388 : World,
                  (Locl ([k513, k506, k451, k3, k2, k1]) w387 w388) →
                  I1 [Value.slice p174 k511 k512, Value.pointer (some { block := k506, off := 0 }), Value.int IntKind.i64 n35, Value.int IntKind.i64 n36, Value.slice p154 k452 k453, Value.pointer (some { block := k513, off := 0 }), Value.int IntKind.i64 n39, Value.int IntKind.i64 n40, Value.slice p172 k507 k508] w388) ∧
                ∀ k514 : Nat,
                (w386.heap.size ≤ k514) →
                ∀ w389 : World,
                (Locl ([k514, k506, k451, k3, k2, k1]) w386 w389) →
                appVC (w389) ([(8, k514, [Value.int IntKind.i64 0, Value.int IntKind.i64 0, Value.slice none 0 0]), (7, k506, [Value.int IntKind.i64 0, Value.int IntKind.i64 0, Value.slice none 0 0]), (27, k451, [Value.int IntKind.i64 77]), (5, k3, [Value.int IntKind.i64 x3, Value.int IntKind.i64 x4, Value.slice sa3 sl3 sc3]), (4, k2, [Value.int IntKind.i64 x1, Value.int IntKind.i64 x2, Value.slice sa2 sl2 sc2]), (3, k1, [Value.string st1, Value.slice sa1 sl1 sc1])]) (p173) (k509) (k510) (1) (1) (8) (3) ([Value.int IntKind.i64 0]) ([Value.int IntKind.i64 77]) fun p175 k515 k516 w390 =>
                ∀ w391 : World,
                (Locl ([k514, k506, k451, k3, k2, k1]) w390 w391) →
                I1 [Value.slice p175 k515 k516, Value.pointer (some { block := k506, off := 0 }), Value.int IntKind.i64 n35, Value.int IntKind.i64 n36, Value.slice p154 k452 k453, Value.pointer (some { block := k514, off := 0 }), Value.int IntKind.i64 n39, Value.int IntKind.i64 n40, Value.slice p172 k507 k508] w391) ∧
              ∀ k517 : Nat,
              (w385.heap.size ≤ k517) →
              ∀ w392 : World,
              (Locl ([k517, k506, k451, k3, k2, k1]) w385 w392) →
              Calls P F.law23_ints #[Value.slice sa1 sl1 sc1] w392 fun e77 w393 =>
              ∃ p176 : Option Addr,
              ∃ k518 : Nat,
              ∃ k519 : Nat,
              (e77 = Ending.returned (Value.slice p176 k518 k519)) ∧
              (Keep ([k517, k506, k451, k3, k2, k1]) w392 w393) ∧
              appVC (w393) ([(8, k517, [Value.int IntKind.i64 0, Value.int IntKind.i64 0, Value.slice none 0 0]), (7, k506, [Value.int IntKind.i64 0, Value.int IntKind.i64 0, Value.slice none 0 0]), (27, k451, [Value.int IntKind.i64 77]), (5, k3, [Value.int IntKind.i64 x3, Value.int IntKind.i64 x4, Value.slice sa3 sl3 sc3]), (4, k2, [Value.int IntKind.i64 x1, Value.int IntKind.i64 x2, Value.slice sa2 sl2 sc2]), (3, k1, [Value.string st1, Value.slice sa1 sl1 sc1])]) (p176) (k518) (k519) (1) (1) (8) (3) ([Value.int IntKind.i64 0]) ([Value.int IntKind.i64 77]) fun p177 k520 k521 w394 =>
              ∀ w395 : World,
              (Locl ([k517, k506, k451, k3, k2, k1]) w394 w395) →
              I1 [Value.slice p177 k520 k521, Value.pointer (some { block := k506, off := 0 }), Value.int IntKind.i64 n35, Value.int IntKind.i64 n36, Value.slice p154 k452 k453, Value.pointer (some { block := k517, off := 0 }), Value.int IntKind.i64 n39, Value.int IntKind.i64 n40, Value.slice p172 k507 k508] w395) ∧
            ∀ k522 : Nat,
            (w344.heap.size ≤ k522) →
            ∀ w396 : World,
            (Locl ([k522, k506, k451, k3, k2, k1]) w344 w396) →
            Calls P F.law23_own #[Value.agg #[Value.int IntKind.i64 x3, Value.int IntKind.i64 x4, Value.slice sa3 sl3 sc3]] w396 fun e78 w397 =>
            ∃ n41 : Int,
            ∃ n42 : Int,
            ∃ p178 : Option Addr,
            ∃ k523 : Nat,
            ∃ k524 : Nat,
            (e78 = Ending.returned (Value.agg #[Value.int IntKind.i64 n41, Value.int IntKind.i64 n42, Value.slice p178 k523 k524])) ∧
            (Keep ([k522, k506, k451, k3, k2, k1]) w396 w397) ∧
            (Keeps w396 w397) ∧
            Calls P F.law23_ints #[Value.slice sa1 sl1 sc1] w397 fun e79 w398 =>
            ∃ p179 : Option Addr,
            ∃ k525 : Nat,
            ∃ k526 : Nat,
            (e79 = Ending.returned (Value.slice p179 k525 k526)) ∧
            (Keep ([k522, k506, k451, k3, k2, k1]) w397 w398) ∧
            appVC (w398) ([(8, k522, [Value.int IntKind.i64 0, Value.int IntKind.i64 0, Value.slice none 0 0]), (7, k506, [Value.int IntKind.i64 0, Value.int IntKind.i64 0, Value.slice none 0 0]), (27, k451, [Value.int IntKind.i64 77]), (5, k3, [Value.int IntKind.i64 x3, Value.int IntKind.i64 x4, Value.slice sa3 sl3 sc3]), (4, k2, [Value.int IntKind.i64 x1, Value.int IntKind.i64 x2, Value.slice sa2 sl2 sc2]), (3, k1, [Value.string st1, Value.slice sa1 sl1 sc1])]) (p179) (k525) (k526) (1) (1) (8) (3) ([Value.int IntKind.i64 0]) ([Value.int IntKind.i64 77]) fun p180 k527 k528 w399 =>
            ∀ w400 : World,
            (Locl ([k522, k506, k451, k3, k2, k1]) w399 w400) →
            I1 [Value.slice p180 k527 k528, Value.pointer (some { block := k506, off := 0 }), Value.int IntKind.i64 n35, Value.int IntKind.i64 n36, Value.slice p154 k452 k453, Value.pointer (some { block := k522, off := 0 }), Value.int IntKind.i64 n41, Value.int IntKind.i64 n42, Value.slice p178 k523 k524] w400) ∧
          ∀ k529 : Nat,
          (w344.heap.size ≤ k529) →
          (∀ w401 : World,
            (Locl ([k529, k451, k3, k2, k1]) w344 w401) →
            Calls P F.law23_own #[Value.agg #[Value.int IntKind.i64 x3, Value.int IntKind.i64 x4, Value.slice sa3 sl3 sc3]] w401 fun e80 w402 =>
            ∃ n43 : Int,
            ∃ n44 : Int,
            ∃ p181 : Option Addr,
            ∃ k530 : Nat,
            ∃ k531 : Nat,
            (e80 = Ending.returned (Value.agg #[Value.int IntKind.i64 n43, Value.int IntKind.i64 n44, Value.slice p181 k530 k531])) ∧
            (Keep ([k529, k451, k3, k2, k1]) w401 w402) ∧
            (Keeps w401 w402) ∧
            (Calls P F.law23_ints #[Value.slice sa1 sl1 sc1] w402 fun e81 w403 =>
              ∃ p182 : Option Addr,
              ∃ k532 : Nat,
              ∃ k533 : Nat,
              (e81 = Ending.returned (Value.slice p182 k532 k533)) ∧
              (Keep ([k529, k451, k3, k2, k1]) w402 w403) ∧
              (appVC (w403) ([(8, k529, [Value.int IntKind.i64 0, Value.int IntKind.i64 0, Value.slice none 0 0]), (27, k451, [Value.int IntKind.i64 77]), (5, k3, [Value.int IntKind.i64 x3, Value.int IntKind.i64 x4, Value.slice sa3 sl3 sc3]), (4, k2, [Value.int IntKind.i64 x1, Value.int IntKind.i64 x2, Value.slice sa2 sl2 sc2]), (3, k1, [Value.string st1, Value.slice sa1 sl1 sc1])]) (p182) (k532) (k533) (1) (1) (8) (3) ([Value.int IntKind.i64 0]) ([Value.int IntKind.i64 77]) fun p183 k534 k535 w404 =>
                ∀ k536 : Nat,
                (w404.heap.size ≤ k536) →
                ∀ w405 : World,
                (Locl ([k536, k529, k451, k3, k2, k1]) w404 w405) →
                I1 [Value.slice p183 k534 k535, Value.pointer (some { block := k536, off := 0 }), Value.int IntKind.i64 n35, Value.int IntKind.i64 n36, Value.slice p154 k452 k453, Value.pointer (some { block := k529, off := 0 }), Value.int IntKind.i64 n43, Value.int IntKind.i64 n44, Value.slice p181 k530 k531] w405) ∧
              ∀ k537 : Nat,
              (w403.heap.size ≤ k537) →
              ∀ w406 : World,
              (Locl ([k537, k529, k451, k3, k2, k1]) w403 w406) →
              appVC (w406) ([(7, k537, [Value.int IntKind.i64 0, Value.int IntKind.i64 0, Value.slice none 0 0]), (8, k529, [Value.int IntKind.i64 0, Value.int IntKind.i64 0, Value.slice none 0 0]), (27, k451, [Value.int IntKind.i64 77]), (5, k3, [Value.int IntKind.i64 x3, Value.int IntKind.i64 x4, Value.slice sa3 sl3 sc3]), (4, k2, [Value.int IntKind.i64 x1, Value.int IntKind.i64 x2, Value.slice sa2 sl2 sc2]), (3, k1, [Value.string st1, Value.slice sa1 sl1 sc1])]) (p182) (k532) (k533) (1) (1) (8) (3) ([Value.int IntKind.i64 0]) ([Value.int IntKind.i64 77]) fun p184 k538 k539 w407 =>
              ∀ w408 : World,
              (Locl ([k537, k529, k451, k3, k2, k1]) w407 w408) →
              I1 [Value.slice p184 k538 k539, Value.pointer (some { block := k537, off := 0 }), Value.int IntKind.i64 n35, Value.int IntKind.i64 n36, Value.slice p154 k452 k453, Value.pointer (some { block := k529, off := 0 }), Value.int IntKind.i64 n43, Value.int IntKind.i64 n44, Value.slice p181 k530 k531] w408) ∧
            ∀ k540 : Nat,
            (w402.heap.size ≤ k540) →
            ∀ w409 : World,
            (Locl ([k540, k529, k451, k3, k2, k1]) w402 w409) →
            Calls P F.law23_ints #[Value.slice sa1 sl1 sc1] w409 fun e82 w410 =>
            ∃ p185 : Option Addr,
            ∃ k541 : Nat,
            ∃ k542 : Nat,
            (e82 = Ending.returned (Value.slice p185 k541 k542)) ∧
            (Keep ([k540, k529, k451, k3, k2, k1]) w409 w410) ∧
            appVC (w410) ([(7, k540, [Value.int IntKind.i64 0, Value.int IntKind.i64 0, Value.slice none 0 0]), (8, k529, [Value.int IntKind.i64 0, Value.int IntKind.i64 0, Value.slice none 0 0]), (27, k451, [Value.int IntKind.i64 77]), (5, k3, [Value.int IntKind.i64 x3, Value.int IntKind.i64 x4, Value.slice sa3 sl3 sc3]), (4, k2, [Value.int IntKind.i64 x1, Value.int IntKind.i64 x2, Value.slice sa2 sl2 sc2]), (3, k1, [Value.string st1, Value.slice sa1 sl1 sc1])]) (p185) (k541) (k542) (1) (1) (8) (3) ([Value.int IntKind.i64 0]) ([Value.int IntKind.i64 77]) fun p186 k543 k544 w411 =>
            ∀ w412 : World,
            (Locl ([k540, k529, k451, k3, k2, k1]) w411 w412) →
            I1 [Value.slice p186 k543 k544, Value.pointer (some { block := k540, off := 0 }), Value.int IntKind.i64 n35, Value.int IntKind.i64 n36, Value.slice p154 k452 k453, Value.pointer (some { block := k529, off := 0 }), Value.int IntKind.i64 n43, Value.int IntKind.i64 n44, Value.slice p181 k530 k531] w412) ∧
          ∀ k545 : Nat,
          (w344.heap.size ≤ k545) →
          ∀ w413 : World,
          (Locl ([k545, k529, k451, k3, k2, k1]) w344 w413) →
          Calls P F.law23_own #[Value.agg #[Value.int IntKind.i64 x3, Value.int IntKind.i64 x4, Value.slice sa3 sl3 sc3]] w413 fun e83 w414 =>
          ∃ n45 : Int,
          ∃ n46 : Int,
          ∃ p187 : Option Addr,
          ∃ k546 : Nat,
          ∃ k547 : Nat,
          (e83 = Ending.returned (Value.agg #[Value.int IntKind.i64 n45, Value.int IntKind.i64 n46, Value.slice p187 k546 k547])) ∧
          (Keep ([k545, k529, k451, k3, k2, k1]) w413 w414) ∧
          (Keeps w413 w414) ∧
          Calls P F.law23_ints #[Value.slice sa1 sl1 sc1] w414 fun e84 w415 =>
          ∃ p188 : Option Addr,
          ∃ k548 : Nat,
          ∃ k549 : Nat,
          (e84 = Ending.returned (Value.slice p188 k548 k549)) ∧
          (Keep ([k545, k529, k451, k3, k2, k1]) w414 w415) ∧
          appVC (w415) ([(7, k545, [Value.int IntKind.i64 0, Value.int IntKind.i64 0, Value.slice none 0 0]), (8, k529, [Value.int IntKind.i64 0, Value.int IntKind.i64 0, Value.slice none 0 0]), (27, k451, [Value.int IntKind.i64 77]), (5, k3, [Value.int IntKind.i64 x3, Value.int IntKind.i64 x4, Value.slice sa3 sl3 sc3]), (4, k2, [Value.int IntKind.i64 x1, Value.int IntKind.i64 x2, Value.slice sa2 sl2 sc2]), (3, k1, [Value.string st1, Value.slice sa1 sl1 sc1])]) (p188) (k548) (k549) (1) (1) (8) (3) ([Value.int IntKind.i64 0]) ([Value.int IntKind.i64 77]) fun p189 k550 k551 w416 =>
          ∀ w417 : World,
          (Locl ([k545, k529, k451, k3, k2, k1]) w416 w417) →
          I1 [Value.slice p189 k550 k551, Value.pointer (some { block := k545, off := 0 }), Value.int IntKind.i64 n35, Value.int IntKind.i64 n36, Value.slice p154 k452 k453, Value.pointer (some { block := k529, off := 0 }), Value.int IntKind.i64 n45, Value.int IntKind.i64 n46, Value.slice p187 k546 k547] w417) ∧
        (∀ k552 : Nat,
          (w2.drew.heap.size ≤ k552) →
          (∀ w418 : World,
            (Locl ([k552, k451, k3, k2, k1]) (w2.drew) w418) →
            Calls P F.law23_own #[Value.agg #[Value.int IntKind.i64 x1, Value.int IntKind.i64 x2, Value.slice sa2 sl2 sc2]] w418 fun e85 w419 =>
            ∃ n47 : Int,
            ∃ n48 : Int,
            ∃ p190 : Option Addr,
            ∃ k553 : Nat,
            ∃ k554 : Nat,
            (e85 = Ending.returned (Value.agg #[Value.int IntKind.i64 n47, Value.int IntKind.i64 n48, Value.slice p190 k553 k554])) ∧
            (Keep ([k552, k451, k3, k2, k1]) w418 w419) ∧
            (Keeps w418 w419) ∧
            (Calls P F.law23_own #[Value.agg #[Value.int IntKind.i64 x3, Value.int IntKind.i64 x4, Value.slice sa3 sl3 sc3]] w419 fun e86 w420 =>
              ∃ n49 : Int,
              ∃ n50 : Int,
              ∃ p191 : Option Addr,
              ∃ k555 : Nat,
              ∃ k556 : Nat,
              (e86 = Ending.returned (Value.agg #[Value.int IntKind.i64 n49, Value.int IntKind.i64 n50, Value.slice p191 k555 k556])) ∧
              (Keep ([k552, k451, k3, k2, k1]) w419 w420) ∧
              (Keeps w419 w420) ∧
              (Calls P F.law23_ints #[Value.slice sa1 sl1 sc1] w420 fun e87 w421 =>
                ∃ p192 : Option Addr,
                ∃ k557 : Nat,
                ∃ k558 : Nat,
                (e87 = Ending.returned (Value.slice p192 k557 k558)) ∧
                (Keep ([k552, k451, k3, k2, k1]) w420 w421) ∧
                (appVC (w421) ([(7, k552, [Value.int IntKind.i64 0, Value.int IntKind.i64 0, Value.slice none 0 0]), (27, k451, [Value.int IntKind.i64 77]), (5, k3, [Value.int IntKind.i64 x3, Value.int IntKind.i64 x4, Value.slice sa3 sl3 sc3]), (4, k2, [Value.int IntKind.i64 x1, Value.int IntKind.i64 x2, Value.slice sa2 sl2 sc2]), (3, k1, [Value.string st1, Value.slice sa1 sl1 sc1])]) (p192) (k557) (k558) (1) (1) (8) (3) ([Value.int IntKind.i64 0]) ([Value.int IntKind.i64 77]) fun p193 k559 k560 w422 =>
                  ∀ k561 : Nat,
                  (w422.heap.size ≤ k561) →
                  ∀ w423 : World,
                  (Locl ([k561, k552, k451, k3, k2, k1]) w422 w423) →
                  I1 [Value.slice p193 k559 k560, Value.pointer (some { block := k552, off := 0 }), Value.int IntKind.i64 n47, Value.int IntKind.i64 n48, Value.slice p190 k553 k554, Value.pointer (some { block := k561, off := 0 }), Value.int IntKind.i64 n49, Value.int IntKind.i64 n50, Value.slice p191 k555 k556] w423) ∧
                ∀ k562 : Nat,
                (w421.heap.size ≤ k562) →
                ∀ w424 : World,
                (Locl ([k562, k552, k451, k3, k2, k1]) w421 w424) →
                appVC (w424) ([(8, k562, [Value.int IntKind.i64 0, Value.int IntKind.i64 0, Value.slice none 0 0]), (7, k552, [Value.int IntKind.i64 0, Value.int IntKind.i64 0, Value.slice none 0 0]), (27, k451, [Value.int IntKind.i64 77]), (5, k3, [Value.int IntKind.i64 x3, Value.int IntKind.i64 x4, Value.slice sa3 sl3 sc3]), (4, k2, [Value.int IntKind.i64 x1, Value.int IntKind.i64 x2, Value.slice sa2 sl2 sc2]), (3, k1, [Value.string st1, Value.slice sa1 sl1 sc1])]) (p192) (k557) (k558) (1) (1) (8) (3) ([Value.int IntKind.i64 0]) ([Value.int IntKind.i64 77]) fun p194 k563 k564 w425 =>
                ∀ w426 : World,
                (Locl ([k562, k552, k451, k3, k2, k1]) w425 w426) →
                I1 [Value.slice p194 k563 k564, Value.pointer (some { block := k552, off := 0 }), Value.int IntKind.i64 n47, Value.int IntKind.i64 n48, Value.slice p190 k553 k554, Value.pointer (some { block := k562, off := 0 }), Value.int IntKind.i64 n49, Value.int IntKind.i64 n50, Value.slice p191 k555 k556] w426) ∧
              ∀ k565 : Nat,
              (w420.heap.size ≤ k565) →
              ∀ w427 : World,
              (Locl ([k565, k552, k451, k3, k2, k1]) w420 w427) →
              Calls P F.law23_ints #[Value.slice sa1 sl1 sc1] w427 fun e88 w428 =>
              ∃ p195 : Option Addr,
              ∃ k566 : Nat,
              ∃ k567 : Nat,
              (e88 = Ending.returned (Value.slice p195 k566 k567)) ∧
              (Keep ([k565, k552, k451, k3, k2, k1]) w427 w428) ∧
              appVC (w428) ([(8, k565, [Value.int IntKind.i64 0, Value.int IntKind.i64 0, Value.slice none 0 0]), (7, k552, [Value.int IntKind.i64 0, Value.int IntKind.i64 0, Value.slice none 0 0]), (27, k451, [Value.int IntKind.i64 77]), (5, k3, [Value.int IntKind.i64 x3, Value.int IntKind.i64 x4, Value.slice sa3 sl3 sc3]), (4, k2, [Value.int IntKind.i64 x1, Value.int IntKind.i64 x2, Value.slice sa2 sl2 sc2]), (3, k1, [Value.string st1, Value.slice sa1 sl1 sc1])]) (p195) (k566) (k567) (1) (1) (8) (3) ([Value.int IntKind.i64 0]) ([Value.int IntKind.i64 77]) fun p196 k568 k569 w429 =>
              ∀ w430 : World,
              (Locl ([k565, k552, k451, k3, k2, k1]) w429 w430) →
              I1 [Value.slice p196 k568 k569, Value.pointer (some { block := k552, off := 0 }), Value.int IntKind.i64 n47, Value.int IntKind.i64 n48, Value.slice p190 k553 k554, Value.pointer (some { block := k565, off := 0 }), Value.int IntKind.i64 n49, Value.int IntKind.i64 n50, Value.slice p191 k555 k556] w430) ∧
            ∀ k570 : Nat,
            (w419.heap.size ≤ k570) →
            ∀ w431 : World,
            (Locl ([k570, k552, k451, k3, k2, k1]) w419 w431) →
            Calls P F.law23_own #[Value.agg #[Value.int IntKind.i64 x3, Value.int IntKind.i64 x4, Value.slice sa3 sl3 sc3]] w431 fun e89 w432 =>
            ∃ n51 : Int,
            ∃ n52 : Int,
            ∃ p197 : Option Addr,
            ∃ k571 : Nat,
            ∃ k572 : Nat,
            (e89 = Ending.returned (Value.agg #[Value.int IntKind.i64 n51, Value.int IntKind.i64 n52, Value.slice p197 k571 k572])) ∧
            (Keep ([k570, k552, k451, k3, k2, k1]) w431 w432) ∧
            (Keeps w431 w432) ∧
            Calls P F.law23_ints #[Value.slice sa1 sl1 sc1] w432 fun e90 w433 =>
            ∃ p198 : Option Addr,
            ∃ k573 : Nat,
            ∃ k574 : Nat,
            (e90 = Ending.returned (Value.slice p198 k573 k574)) ∧
            (Keep ([k570, k552, k451, k3, k2, k1]) w432 w433) ∧
            appVC (w433) ([(8, k570, [Value.int IntKind.i64 0, Value.int IntKind.i64 0, Value.slice none 0 0]), (7, k552, [Value.int IntKind.i64 0, Value.int IntKind.i64 0, Value.slice none 0 0]), (27, k451, [Value.int IntKind.i64 77]), (5, k3, [Value.int IntKind.i64 x3, Value.int IntKind.i64 x4, Value.slice sa3 sl3 sc3]), (4, k2, [Value.int IntKind.i64 x1, Value.int IntKind.i64 x2, Value.slice sa2 sl2 sc2]), (3, k1, [Value.string st1, Value.slice sa1 sl1 sc1])]) (p198) (k573) (k574) (1) (1) (8) (3) ([Value.int IntKind.i64 0]) ([Value.int IntKind.i64 77]) fun p199 k575 k576 w434 =>
            ∀ w435 : World,
            (Locl ([k570, k552, k451, k3, k2, k1]) w434 w435) →
            I1 [Value.slice p199 k575 k576, Value.pointer (some { block := k552, off := 0 }), Value.int IntKind.i64 n47, Value.int IntKind.i64 n48, Value.slice p190 k553 k554, Value.pointer (some { block := k570, off := 0 }), Value.int IntKind.i64 n51, Value.int IntKind.i64 n52, Value.slice p197 k571 k572] w435) ∧
          ∀ k577 : Nat,
          (w2.drew.heap.size ≤ k577) →
          ∀ w436 : World,
          (Locl ([k577, k552, k451, k3, k2, k1]) (w2.drew) w436) →
          Calls P F.law23_own #[Value.agg #[Value.int IntKind.i64 x1, Value.int IntKind.i64 x2, Value.slice sa2 sl2 sc2]] w436 fun e91 w437 =>
          ∃ n53 : Int,
          ∃ n54 : Int,
          ∃ p200 : Option Addr,
          ∃ k578 : Nat,
          ∃ k579 : Nat,
          (e91 = Ending.returned (Value.agg #[Value.int IntKind.i64 n53, Value.int IntKind.i64 n54, Value.slice p200 k578 k579])) ∧
          (Keep ([k577, k552, k451, k3, k2, k1]) w436 w437) ∧
          (Keeps w436 w437) ∧
          Calls P F.law23_own #[Value.agg #[Value.int IntKind.i64 x3, Value.int IntKind.i64 x4, Value.slice sa3 sl3 sc3]] w437 fun e92 w438 =>
          ∃ n55 : Int,
          ∃ n56 : Int,
          ∃ p201 : Option Addr,
          ∃ k580 : Nat,
          ∃ k581 : Nat,
          (e92 = Ending.returned (Value.agg #[Value.int IntKind.i64 n55, Value.int IntKind.i64 n56, Value.slice p201 k580 k581])) ∧
          (Keep ([k577, k552, k451, k3, k2, k1]) w437 w438) ∧
          (Keeps w437 w438) ∧
          Calls P F.law23_ints #[Value.slice sa1 sl1 sc1] w438 fun e93 w439 =>
          ∃ p202 : Option Addr,
          ∃ k582 : Nat,
          ∃ k583 : Nat,
          (e93 = Ending.returned (Value.slice p202 k582 k583)) ∧
          (Keep ([k577, k552, k451, k3, k2, k1]) w438 w439) ∧
          appVC (w439) ([(8, k577, [Value.int IntKind.i64 0, Value.int IntKind.i64 0, Value.slice none 0 0]), (7, k552, [Value.int IntKind.i64 0, Value.int IntKind.i64 0, Value.slice none 0 0]), (27, k451, [Value.int IntKind.i64 77]), (5, k3, [Value.int IntKind.i64 x3, Value.int IntKind.i64 x4, Value.slice sa3 sl3 sc3]), (4, k2, [Value.int IntKind.i64 x1, Value.int IntKind.i64 x2, Value.slice sa2 sl2 sc2]), (3, k1, [Value.string st1, Value.slice sa1 sl1 sc1])]) (p202) (k582) (k583) (1) (1) (8) (3) ([Value.int IntKind.i64 0]) ([Value.int IntKind.i64 77]) fun p203 k584 k585 w440 =>
          ∀ w441 : World,
          (Locl ([k577, k552, k451, k3, k2, k1]) w440 w441) →
          I1 [Value.slice p203 k584 k585, Value.pointer (some { block := k552, off := 0 }), Value.int IntKind.i64 n53, Value.int IntKind.i64 n54, Value.slice p200 k578 k579, Value.pointer (some { block := k577, off := 0 }), Value.int IntKind.i64 n55, Value.int IntKind.i64 n56, Value.slice p201 k580 k581] w441) ∧
        ∀ k586 : Nat,
        (w2.drew.heap.size ≤ k586) →
        (∀ w442 : World,
          (Locl ([k586, k451, k3, k2, k1]) (w2.drew) w442) →
          Calls P F.law23_own #[Value.agg #[Value.int IntKind.i64 x1, Value.int IntKind.i64 x2, Value.slice sa2 sl2 sc2]] w442 fun e94 w443 =>
          ∃ n57 : Int,
          ∃ n58 : Int,
          ∃ p204 : Option Addr,
          ∃ k587 : Nat,
          ∃ k588 : Nat,
          (e94 = Ending.returned (Value.agg #[Value.int IntKind.i64 n57, Value.int IntKind.i64 n58, Value.slice p204 k587 k588])) ∧
          (Keep ([k586, k451, k3, k2, k1]) w442 w443) ∧
          (Keeps w442 w443) ∧
          (Calls P F.law23_own #[Value.agg #[Value.int IntKind.i64 x3, Value.int IntKind.i64 x4, Value.slice sa3 sl3 sc3]] w443 fun e95 w444 =>
            ∃ n59 : Int,
            ∃ n60 : Int,
            ∃ p205 : Option Addr,
            ∃ k589 : Nat,
            ∃ k590 : Nat,
            (e95 = Ending.returned (Value.agg #[Value.int IntKind.i64 n59, Value.int IntKind.i64 n60, Value.slice p205 k589 k590])) ∧
            (Keep ([k586, k451, k3, k2, k1]) w443 w444) ∧
            (Keeps w443 w444) ∧
            (Calls P F.law23_ints #[Value.slice sa1 sl1 sc1] w444 fun e96 w445 =>
              ∃ p206 : Option Addr,
              ∃ k591 : Nat,
              ∃ k592 : Nat,
              (e96 = Ending.returned (Value.slice p206 k591 k592)) ∧
              (Keep ([k586, k451, k3, k2, k1]) w444 w445) ∧
              (appVC (w445) ([(8, k586, [Value.int IntKind.i64 0, Value.int IntKind.i64 0, Value.slice none 0 0]), (27, k451, [Value.int IntKind.i64 77]), (5, k3, [Value.int IntKind.i64 x3, Value.int IntKind.i64 x4, Value.slice sa3 sl3 sc3]), (4, k2, [Value.int IntKind.i64 x1, Value.int IntKind.i64 x2, Value.slice sa2 sl2 sc2]), (3, k1, [Value.string st1, Value.slice sa1 sl1 sc1])]) (p206) (k591) (k592) (1) (1) (8) (3) ([Value.int IntKind.i64 0]) ([Value.int IntKind.i64 77]) fun p207 k593 k594 w446 =>
                ∀ k595 : Nat,
                (w446.heap.size ≤ k595) →
                ∀ w447 : World,
                (Locl ([k595, k586, k451, k3, k2, k1]) w446 w447) →
                I1 [Value.slice p207 k593 k594, Value.pointer (some { block := k595, off := 0 }), Value.int IntKind.i64 n57, Value.int IntKind.i64 n58, Value.slice p204 k587 k588, Value.pointer (some { block := k586, off := 0 }), Value.int IntKind.i64 n59, Value.int IntKind.i64 n60, Value.slice p205 k589 k590] w447) ∧
              ∀ k596 : Nat,
              (w445.heap.size ≤ k596) →
              ∀ w448 : World,
              (Locl ([k596, k586, k451, k3, k2, k1]) w445 w448) →
              appVC (w448) ([(7, k596, [Value.int IntKind.i64 0, Value.int IntKind.i64 0, Value.slice none 0 0]), (8, k586, [Value.int IntKind.i64 0, Value.int IntKind.i64 0, Value.slice none 0 0]), (27, k451, [Value.int IntKind.i64 77]), (5, k3, [Value.int IntKind.i64 x3, Value.int IntKind.i64 x4, Value.slice sa3 sl3 sc3]), (4, k2, [Value.int IntKind.i64 x1, Value.int IntKind.i64 x2, Value.slice sa2 sl2 sc2]), (3, k1, [Value.string st1, Value.slice sa1 sl1 sc1])]) (p206) (k591) (k592) (1) (1) (8) (3) ([Value.int IntKind.i64 0]) ([Value.int IntKind.i64 77]) fun p208 k597 k598 w449 =>
              ∀ w450 : World,
              (Locl ([k596, k586, k451, k3, k2, k1]) w449 w450) →
              I1 [Value.slice p208 k597 k598, Value.pointer (some { block := k596, off := 0 }), Value.int IntKind.i64 n57, Value.int IntKind.i64 n58, Value.slice p204 k587 k588, Value.pointer (some { block := k586, off := 0 }), Value.int IntKind.i64 n59, Value.int IntKind.i64 n60, Value.slice p205 k589 k590] w450) ∧
            ∀ k599 : Nat,
            (w444.heap.size ≤ k599) →
            ∀ w451 : World,
            (Locl ([k599, k586, k451, k3, k2, k1]) w444 w451) →
            Calls P F.law23_ints #[Value.slice sa1 sl1 sc1] w451 fun e97 w452 =>
            ∃ p209 : Option Addr,
            ∃ k600 : Nat,
            ∃ k601 : Nat,
            (e97 = Ending.returned (Value.slice p209 k600 k601)) ∧
            (Keep ([k599, k586, k451, k3, k2, k1]) w451 w452) ∧
            appVC (w452) ([(7, k599, [Value.int IntKind.i64 0, Value.int IntKind.i64 0, Value.slice none 0 0]), (8, k586, [Value.int IntKind.i64 0, Value.int IntKind.i64 0, Value.slice none 0 0]), (27, k451, [Value.int IntKind.i64 77]), (5, k3, [Value.int IntKind.i64 x3, Value.int IntKind.i64 x4, Value.slice sa3 sl3 sc3]), (4, k2, [Value.int IntKind.i64 x1, Value.int IntKind.i64 x2, Value.slice sa2 sl2 sc2]), (3, k1, [Value.string st1, Value.slice sa1 sl1 sc1])]) (p209) (k600) (k601) (1) (1) (8) (3) ([Value.int IntKind.i64 0]) ([Value.int IntKind.i64 77]) fun p210 k602 k603 w453 =>
            ∀ w454 : World,
            (Locl ([k599, k586, k451, k3, k2, k1]) w453 w454) →
            I1 [Value.slice p210 k602 k603, Value.pointer (some { block := k599, off := 0 }), Value.int IntKind.i64 n57, Value.int IntKind.i64 n58, Value.slice p204 k587 k588, Value.pointer (some { block := k586, off := 0 }), Value.int IntKind.i64 n59, Value.int IntKind.i64 n60, Value.slice p205 k589 k590] w454) ∧
          ∀ k604 : Nat,
          (w443.heap.size ≤ k604) →
          ∀ w455 : World,
          (Locl ([k604, k586, k451, k3, k2, k1]) w443 w455) →
          Calls P F.law23_own #[Value.agg #[Value.int IntKind.i64 x3, Value.int IntKind.i64 x4, Value.slice sa3 sl3 sc3]] w455 fun e98 w456 =>
          ∃ n61 : Int,
          ∃ n62 : Int,
          ∃ p211 : Option Addr,
          ∃ k605 : Nat,
          ∃ k606 : Nat,
          (e98 = Ending.returned (Value.agg #[Value.int IntKind.i64 n61, Value.int IntKind.i64 n62, Value.slice p211 k605 k606])) ∧
          (Keep ([k604, k586, k451, k3, k2, k1]) w455 w456) ∧
          (Keeps w455 w456) ∧
          Calls P F.law23_ints #[Value.slice sa1 sl1 sc1] w456 fun e99 w457 =>
          ∃ p212 : Option Addr,
          ∃ k607 : Nat,
          ∃ k608 : Nat,
          (e99 = Ending.returned (Value.slice p212 k607 k608)) ∧
          (Keep ([k604, k586, k451, k3, k2, k1]) w456 w457) ∧
          appVC (w457) ([(7, k604, [Value.int IntKind.i64 0, Value.int IntKind.i64 0, Value.slice none 0 0]), (8, k586, [Value.int IntKind.i64 0, Value.int IntKind.i64 0, Value.slice none 0 0]), (27, k451, [Value.int IntKind.i64 77]), (5, k3, [Value.int IntKind.i64 x3, Value.int IntKind.i64 x4, Value.slice sa3 sl3 sc3]), (4, k2, [Value.int IntKind.i64 x1, Value.int IntKind.i64 x2, Value.slice sa2 sl2 sc2]), (3, k1, [Value.string st1, Value.slice sa1 sl1 sc1])]) (p212) (k607) (k608) (1) (1) (8) (3) ([Value.int IntKind.i64 0]) ([Value.int IntKind.i64 77]) fun p213 k609 k610 w458 =>
          ∀ w459 : World,
          (Locl ([k604, k586, k451, k3, k2, k1]) w458 w459) →
          I1 [Value.slice p213 k609 k610, Value.pointer (some { block := k604, off := 0 }), Value.int IntKind.i64 n57, Value.int IntKind.i64 n58, Value.slice p204 k587 k588, Value.pointer (some { block := k586, off := 0 }), Value.int IntKind.i64 n61, Value.int IntKind.i64 n62, Value.slice p211 k605 k606] w459) ∧
        ∀ k611 : Nat,
        (w2.drew.heap.size ≤ k611) →
        ∀ w460 : World,
        (Locl ([k611, k586, k451, k3, k2, k1]) (w2.drew) w460) →
        Calls P F.law23_own #[Value.agg #[Value.int IntKind.i64 x1, Value.int IntKind.i64 x2, Value.slice sa2 sl2 sc2]] w460 fun e100 w461 =>
        ∃ n63 : Int,
        ∃ n64 : Int,
        ∃ p214 : Option Addr,
        ∃ k612 : Nat,
        ∃ k613 : Nat,
        (e100 = Ending.returned (Value.agg #[Value.int IntKind.i64 n63, Value.int IntKind.i64 n64, Value.slice p214 k612 k613])) ∧
        (Keep ([k611, k586, k451, k3, k2, k1]) w460 w461) ∧
        (Keeps w460 w461) ∧
        Calls P F.law23_own #[Value.agg #[Value.int IntKind.i64 x3, Value.int IntKind.i64 x4, Value.slice sa3 sl3 sc3]] w461 fun e101 w462 =>
        ∃ n65 : Int,
        ∃ n66 : Int,
        ∃ p215 : Option Addr,
        ∃ k614 : Nat,
        ∃ k615 : Nat,
        (e101 = Ending.returned (Value.agg #[Value.int IntKind.i64 n65, Value.int IntKind.i64 n66, Value.slice p215 k614 k615])) ∧
        (Keep ([k611, k586, k451, k3, k2, k1]) w461 w462) ∧
        (Keeps w461 w462) ∧
        Calls P F.law23_ints #[Value.slice sa1 sl1 sc1] w462 fun e102 w463 =>
        ∃ p216 : Option Addr,
        ∃ k616 : Nat,
        ∃ k617 : Nat,
        (e102 = Ending.returned (Value.slice p216 k616 k617)) ∧
        (Keep ([k611, k586, k451, k3, k2, k1]) w462 w463) ∧
        appVC (w463) ([(7, k611, [Value.int IntKind.i64 0, Value.int IntKind.i64 0, Value.slice none 0 0]), (8, k586, [Value.int IntKind.i64 0, Value.int IntKind.i64 0, Value.slice none 0 0]), (27, k451, [Value.int IntKind.i64 77]), (5, k3, [Value.int IntKind.i64 x3, Value.int IntKind.i64 x4, Value.slice sa3 sl3 sc3]), (4, k2, [Value.int IntKind.i64 x1, Value.int IntKind.i64 x2, Value.slice sa2 sl2 sc2]), (3, k1, [Value.string st1, Value.slice sa1 sl1 sc1])]) (p216) (k616) (k617) (1) (1) (8) (3) ([Value.int IntKind.i64 0]) ([Value.int IntKind.i64 77]) fun p217 k618 k619 w464 =>
        ∀ w465 : World,
        (Locl ([k611, k586, k451, k3, k2, k1]) w464 w465) →
        I1 [Value.slice p217 k618 k619, Value.pointer (some { block := k611, off := 0 }), Value.int IntKind.i64 n63, Value.int IntKind.i64 n64, Value.slice p214 k612 k613, Value.pointer (some { block := k586, off := 0 }), Value.int IntKind.i64 n65, Value.int IntKind.i64 n66, Value.slice p215 k614 k615] w465) ∧
      (∀ k620 : Nat,
        (w2.drew.heap.size ≤ k620) →
        (∀ w466 : World,
          (Locl ([k620, k3, k2, k1]) (w2.drew) w466) →
          Calls P F.law23_own #[Value.agg #[Value.int IntKind.i64 x1, Value.int IntKind.i64 x2, Value.slice sa2 sl2 sc2]] w466 fun e103 w467 =>
          ∃ n67 : Int,
          ∃ n68 : Int,
          ∃ p218 : Option Addr,
          ∃ k621 : Nat,
          ∃ k622 : Nat,
          (e103 = Ending.returned (Value.agg #[Value.int IntKind.i64 n67, Value.int IntKind.i64 n68, Value.slice p218 k621 k622])) ∧
          (Keep ([k620, k3, k2, k1]) w466 w467) ∧
          (Keeps w466 w467) ∧
          (Calls P F.law23_own #[Value.agg #[Value.int IntKind.i64 x3, Value.int IntKind.i64 x4, Value.slice sa3 sl3 sc3]] w467 fun e104 w468 =>
            ∃ n69 : Int,
            ∃ n70 : Int,
            ∃ p219 : Option Addr,
            ∃ k623 : Nat,
            ∃ k624 : Nat,
            (e104 = Ending.returned (Value.agg #[Value.int IntKind.i64 n69, Value.int IntKind.i64 n70, Value.slice p219 k623 k624])) ∧
            (Keep ([k620, k3, k2, k1]) w467 w468) ∧
            (Keeps w467 w468) ∧
            (Calls P F.law23_ints #[Value.slice sa1 sl1 sc1] w468 fun e105 w469 =>
              ∃ p220 : Option Addr,
              ∃ k625 : Nat,
              ∃ k626 : Nat,
              (e105 = Ending.returned (Value.slice p220 k625 k626)) ∧
              (Keep ([k620, k3, k2, k1]) w468 w469) ∧
              (∀ k627 : Nat,
                (w469.heap.size ≤ k627) →
                (∀ w470 : World,
                  (Locl ([k627, k620, k3, k2, k1]) w469 w470) →
                  appVC (w470) ([(27, k627, [Value.int IntKind.i64 77]), (7, k620, [Value.int IntKind.i64 0, Value.int IntKind.i64 0, Value.slice none 0 0]), (5, k3, [Value.int IntKind.i64 x3, Value.int IntKind.i64 x4, Value.slice sa3 sl3 sc3]), (4, k2, [Value.int IntKind.i64 x1, Value.int IntKind.i64 x2, Value.slice sa2 sl2 sc2]), (3, k1, [Value.string st1, Value.slice sa1 sl1 sc1])]) (p220) (k625) (k626) (1) (1) (8) (3) ([Value.int IntKind.i64 0]) ([Value.int IntKind.i64 77]) fun p221 k628 k629 w471 =>
                  ∀ k630 : Nat,
                  (w471.heap.size ≤ k630) →
                  ∀ w472 : World,
                  (Locl ([k630, k627, k620, k3, k2, k1]) w471 w472) →
                  I1 [Value.slice p221 k628 k629, Value.pointer (some { block := k620, off := 0 }), Value.int IntKind.i64 n67, Value.int IntKind.i64 n68, Value.slice p218 k621 k622, Value.pointer (some { block := k630, off := 0 }), Value.int IntKind.i64 n69, Value.int IntKind.i64 n70, Value.slice p219 k623 k624] w472) ∧
                ∀ k631 : Nat,
                (w469.heap.size ≤ k631) →
                ∀ w473 : World,
                (Locl ([k631, k627, k620, k3, k2, k1]) w469 w473) →
                appVC (w473) ([(8, k631, [Value.int IntKind.i64 0, Value.int IntKind.i64 0, Value.slice none 0 0]), (27, k627, [Value.int IntKind.i64 77]), (7, k620, [Value.int IntKind.i64 0, Value.int IntKind.i64 0, Value.slice none 0 0]), (5, k3, [Value.int IntKind.i64 x3, Value.int IntKind.i64 x4, Value.slice sa3 sl3 sc3]), (4, k2, [Value.int IntKind.i64 x1, Value.int IntKind.i64 x2, Value.slice sa2 sl2 sc2]), (3, k1, [Value.string st1, Value.slice sa1 sl1 sc1])]) (p220) (k625) (k626) (1) (1) (8) (3) ([Value.int IntKind.i64 0]) ([Value.int IntKind.i64 77]) fun p222 k632 k633 w474 =>
                ∀ w475 : World,
                (Locl ([k631, k627, k620, k3, k2, k1]) w474 w475) →
                I1 [Value.slice p222 k632 k633, Value.pointer (some { block := k620, off := 0 }), Value.int IntKind.i64 n67, Value.int IntKind.i64 n68, Value.slice p218 k621 k622, Value.pointer (some { block := k631, off := 0 }), Value.int IntKind.i64 n69, Value.int IntKind.i64 n70, Value.slice p219 k623 k624] w475) ∧
              ∀ k634 : Nat,
              (w469.heap.size ≤ k634) →
              ∀ k635 : Nat,
              (w469.heap.size ≤ k635) →
              ∀ w476 : World,
              (Locl ([k635, k634, k620, k3, k2, k1]) w469 w476) →
              appVC (w476) ([(27, k635, [Value.int IntKind.i64 77]), (8, k634, [Value.int IntKind.i64 0, Value.int IntKind.i64 0, Value.slice none 0 0]), (7, k620, [Value.int IntKind.i64 0, Value.int IntKind.i64 0, Value.slice none 0 0]), (5, k3, [Value.int IntKind.i64 x3, Value.int IntKind.i64 x4, Value.slice sa3 sl3 sc3]), (4, k2, [Value.int IntKind.i64 x1, Value.int IntKind.i64 x2, Value.slice sa2 sl2 sc2]), (3, k1, [Value.string st1, Value.slice sa1 sl1 sc1])]) (p220) (k625) (k626) (1) (1) (8) (3) ([Value.int IntKind.i64 0]) ([Value.int IntKind.i64 77]) fun p223 k636 k637 w477 =>
              ∀ w478 : World,
              (Locl ([k635, k634, k620, k3, k2, k1]) w477 w478) →
              I1 [Value.slice p223 k636 k637, Value.pointer (some { block := k620, off := 0 }), Value.int IntKind.i64 n67, Value.int IntKind.i64 n68, Value.slice p218 k621 k622, Value.pointer (some { block := k634, off := 0 }), Value.int IntKind.i64 n69, Value.int IntKind.i64 n70, Value.slice p219 k623 k624] w478) ∧
            (∀ k638 : Nat,
              (w468.heap.size ≤ k638) →
              (∀ w479 : World,
                (Locl ([k638, k620, k3, k2, k1]) w468 w479) →
                Calls P F.law23_ints #[Value.slice sa1 sl1 sc1] w479 fun e106 w480 =>
                ∃ p224 : Option Addr,
                ∃ k639 : Nat,
                ∃ k640 : Nat,
                (e106 = Ending.returned (Value.slice p224 k639 k640)) ∧
                (Keep ([k638, k620, k3, k2, k1]) w479 w480) ∧
                (appVC (w480) ([(27, k638, [Value.int IntKind.i64 77]), (7, k620, [Value.int IntKind.i64 0, Value.int IntKind.i64 0, Value.slice none 0 0]), (5, k3, [Value.int IntKind.i64 x3, Value.int IntKind.i64 x4, Value.slice sa3 sl3 sc3]), (4, k2, [Value.int IntKind.i64 x1, Value.int IntKind.i64 x2, Value.slice sa2 sl2 sc2]), (3, k1, [Value.string st1, Value.slice sa1 sl1 sc1])]) (p224) (k639) (k640) (1) (1) (8) (3) ([Value.int IntKind.i64 0]) ([Value.int IntKind.i64 77]) fun p225 k641 k642 w481 =>
                  ∀ k643 : Nat,
                  (w481.heap.size ≤ k643) →
                  ∀ w482 : World,
                  (Locl ([k643, k638, k620, k3, k2, k1]) w481 w482) →
                  I1 [Value.slice p225 k641 k642, Value.pointer (some { block := k620, off := 0 }), Value.int IntKind.i64 n67, Value.int IntKind.i64 n68, Value.slice p218 k621 k622, Value.pointer (some { block := k643, off := 0 }), Value.int IntKind.i64 n69, Value.int IntKind.i64 n70, Value.slice p219 k623 k624] w482) ∧
                ∀ k644 : Nat,
                (w480.heap.size ≤ k644) →
                ∀ w483 : World,
                (Locl ([k644, k638, k620, k3, k2, k1]) w480 w483) →
                appVC (w483) ([(8, k644, [Value.int IntKind.i64 0, Value.int IntKind.i64 0, Value.slice none 0 0]), (27, k638, [Value.int IntKind.i64 77]), (7, k620, [Value.int IntKind.i64 0, Value.int IntKind.i64 0, Value.slice none 0 0]), (5, k3, [Value.int IntKind.i64 x3, Value.int IntKind.i64 x4, Value.slice sa3 sl3 sc3]), (4, k2, [Value.int IntKind.i64 x1, Value.int IntKind.i64 x2, Value.slice sa2 sl2 sc2]), (3, k1, [Value.string st1, Value.slice sa1 sl1 sc1])]) (p224) (k639) (k640) (1) (1) (8) (3) ([Value.int IntKind.i64 0]) ([Value.int IntKind.i64 77]) fun p226 k645 k646 w484 =>
                ∀ w485 : World,
                (Locl ([k644, k638, k620, k3, k2, k1]) w484 w485) →
                I1 [Value.slice p226 k645 k646, Value.pointer (some { block := k620, off := 0 }), Value.int IntKind.i64 n67, Value.int IntKind.i64 n68, Value.slice p218 k621 k622, Value.pointer (some { block := k644, off := 0 }), Value.int IntKind.i64 n69, Value.int IntKind.i64 n70, Value.slice p219 k623 k624] w485) ∧
              ∀ k647 : Nat,
              (w468.heap.size ≤ k647) →
              ∀ w486 : World,
              (Locl ([k647, k638, k620, k3, k2, k1]) w468 w486) →
              Calls P F.law23_ints #[Value.slice sa1 sl1 sc1] w486 fun e107 w487 =>
              ∃ p227 : Option Addr,
              ∃ k648 : Nat,
              ∃ k649 : Nat,
              (e107 = Ending.returned (Value.slice p227 k648 k649)) ∧
              (Keep ([k647, k638, k620, k3, k2, k1]) w486 w487) ∧
              appVC (w487) ([(8, k647, [Value.int IntKind.i64 0, Value.int IntKind.i64 0, Value.slice none 0 0]), (27, k638, [Value.int IntKind.i64 77]), (7, k620, [Value.int IntKind.i64 0, Value.int IntKind.i64 0, Value.slice none 0 0]), (5, k3, [Value.int IntKind.i64 x3, Value.int IntKind.i64 x4, Value.slice sa3 sl3 sc3]), (4, k2, [Value.int IntKind.i64 x1, Value.int IntKind.i64 x2, Value.slice sa2 sl2 sc2]), (3, k1, [Value.string st1, Value.slice sa1 sl1 sc1])]) (p227) (k648) (k649) (1) (1) (8) (3) ([Value.int IntKind.i64 0]) ([Value.int IntKind.i64 77]) fun p228 k650 k651 w488 =>
              ∀ w489 : World,
              (Locl ([k647, k638, k620, k3, k2, k1]) w488 w489) →
              I1 [Value.slice p228 k650 k651, Value.pointer (some { block := k620, off := 0 }), Value.int IntKind.i64 n67, Value.int IntKind.i64 n68, Value.slice p218 k621 k622, Value.pointer (some { block := k647, off := 0 }), Value.int IntKind.i64 n69, Value.int IntKind.i64 n70, Value.slice p219 k623 k624] w489) ∧
            ∀ k652 : Nat,
            (w468.heap.size ≤ k652) →
            (∀ w490 : World,
              (Locl ([k652, k620, k3, k2, k1]) w468 w490) →
              Calls P F.law23_ints #[Value.slice sa1 sl1 sc1] w490 fun e108 w491 =>
              ∃ p229 : Option Addr,
              ∃ k653 : Nat,
              ∃ k654 : Nat,
              (e108 = Ending.returned (Value.slice p229 k653 k654)) ∧
              (Keep ([k652, k620, k3, k2, k1]) w490 w491) ∧
              ∀ k655 : Nat,
              (w491.heap.size ≤ k655) →
              ∀ w492 : World,
              (Locl ([k655, k652, k620, k3, k2, k1]) w491 w492) →
              appVC (w492) ([(27, k655, [Value.int IntKind.i64 77]), (8, k652, [Value.int IntKind.i64 0, Value.int IntKind.i64 0, Value.slice none 0 0]), (7, k620, [Value.int IntKind.i64 0, Value.int IntKind.i64 0, Value.slice none 0 0]), (5, k3, [Value.int IntKind.i64 x3, Value.int IntKind.i64 x4, Value.slice sa3 sl3 sc3]), (4, k2, [Value.int IntKind.i64 x1, Value.int IntKind.i64 x2, Value.slice sa2 sl2 sc2]), (3, k1, [Value.string st1, Value.slice sa1 sl1 sc1])]) (p229) (k653) (k654) (1) (1) (8) (3) ([Value.int IntKind.i64 0]) ([Value.int IntKind.i64 77]) fun p230 k656 k657 w493 =>
              ∀ w494 : World,
              (Locl ([k655, k652, k620, k3, k2, k1]) w493 w494) →
              I1 [Value.slice p230 k656 k657, Value.pointer (some { block := k620, off := 0 }), Value.int IntKind.i64 n67, Value.int IntKind.i64 n68, Value.slice p218 k621 k622, Value.pointer (some { block := k652, off := 0 }), Value.int IntKind.i64 n69, Value.int IntKind.i64 n70, Value.slice p219 k623 k624] w494) ∧
            ∀ k658 : Nat,
            (w468.heap.size ≤ k658) →
            ∀ w495 : World,
            (Locl ([k658, k652, k620, k3, k2, k1]) w468 w495) →
            Calls P F.law23_ints #[Value.slice sa1 sl1 sc1] w495 fun e109 w496 =>
            ∃ p231 : Option Addr,
            ∃ k659 : Nat,
            ∃ k660 : Nat,
            (e109 = Ending.returned (Value.slice p231 k659 k660)) ∧
            (Keep ([k658, k652, k620, k3, k2, k1]) w495 w496) ∧
            appVC (w496) ([(27, k658, [Value.int IntKind.i64 77]), (8, k652, [Value.int IntKind.i64 0, Value.int IntKind.i64 0, Value.slice none 0 0]), (7, k620, [Value.int IntKind.i64 0, Value.int IntKind.i64 0, Value.slice none 0 0]), (5, k3, [Value.int IntKind.i64 x3, Value.int IntKind.i64 x4, Value.slice sa3 sl3 sc3]), (4, k2, [Value.int IntKind.i64 x1, Value.int IntKind.i64 x2, Value.slice sa2 sl2 sc2]), (3, k1, [Value.string st1, Value.slice sa1 sl1 sc1])]) (p231) (k659) (k660) (1) (1) (8) (3) ([Value.int IntKind.i64 0]) ([Value.int IntKind.i64 77]) fun p232 k661 k662 w497 =>
            ∀ w498 : World,
            (Locl ([k658, k652, k620, k3, k2, k1]) w497 w498) →
            I1 [Value.slice p232 k661 k662, Value.pointer (some { block := k620, off := 0 }), Value.int IntKind.i64 n67, Value.int IntKind.i64 n68, Value.slice p218 k621 k622, Value.pointer (some { block := k652, off := 0 }), Value.int IntKind.i64 n69, Value.int IntKind.i64 n70, Value.slice p219 k623 k624] w498) ∧
          (∀ k663 : Nat,
            (w467.heap.size ≤ k663) →
            (∀ w499 : World,
              (Locl ([k663, k620, k3, k2, k1]) w467 w499) →
              Calls P F.law23_own #[Value.agg #[Value.int IntKind.i64 x3, Value.int IntKind.i64 x4, Value.slice sa3 sl3 sc3]] w499 fun e110 w500 =>
              ∃ n71 : Int,
              ∃ n72 : Int,
              ∃ p233 : Option Addr,
              ∃ k664 : Nat,
              ∃ k665 : Nat,
              (e110 = Ending.returned (Value.agg #[Value.int IntKind.i64 n71, Value.int IntKind.i64 n72, Value.slice p233 k664 k665])) ∧
              (Keep ([k663, k620, k3, k2, k1]) w499 w500) ∧
              (Keeps w499 w500) ∧
              (Calls P F.law23_ints #[Value.slice sa1 sl1 sc1] w500 fun e111 w501 =>
                ∃ p234 : Option Addr,
                ∃ k666 : Nat,
                ∃ k667 : Nat,
                (e111 = Ending.returned (Value.slice p234 k666 k667)) ∧
                (Keep ([k663, k620, k3, k2, k1]) w500 w501) ∧
                (appVC (w501) ([(27, k663, [Value.int IntKind.i64 77]), (7, k620, [Value.int IntKind.i64 0, Value.int IntKind.i64 0, Value.slice none 0 0]), (5, k3, [Value.int IntKind.i64 x3, Value.int IntKind.i64 x4, Value.slice sa3 sl3 sc3]), (4, k2, [Value.int IntKind.i64 x1, Value.int IntKind.i64 x2, Value.slice sa2 sl2 sc2]), (3, k1, [Value.string st1, Value.slice sa1 sl1 sc1])]) (p234) (k666) (k667) (1) (1) (8) (3) ([Value.int IntKind.i64 0]) ([Value.int IntKind.i64 77]) fun p235 k668 k669 w502 =>
                  ∀ k670 : Nat,
                  (w502.heap.size ≤ k670) →
                  ∀ w503 : World,
                  (Locl ([k670, k663, k620, k3, k2, k1]) w502 w503) →
                  I1 [Value.slice p235 k668 k669, Value.pointer (some { block := k620, off := 0 }), Value.int IntKind.i64 n67, Value.int IntKind.i64 n68, Value.slice p218 k621 k622, Value.pointer (some { block := k670, off := 0 }), Value.int IntKind.i64 n71, Value.int IntKind.i64 n72, Value.slice p233 k664 k665] w503) ∧
                ∀ k671 : Nat,
                (w501.heap.size ≤ k671) →
                ∀ w504 : World,
                (Locl ([k671, k663, k620, k3, k2, k1]) w501 w504) →
                appVC (w504) ([(8, k671, [Value.int IntKind.i64 0, Value.int IntKind.i64 0, Value.slice none 0 0]), (27, k663, [Value.int IntKind.i64 77]), (7, k620, [Value.int IntKind.i64 0, Value.int IntKind.i64 0, Value.slice none 0 0]), (5, k3, [Value.int IntKind.i64 x3, Value.int IntKind.i64 x4, Value.slice sa3 sl3 sc3]), (4, k2, [Value.int IntKind.i64 x1, Value.int IntKind.i64 x2, Value.slice sa2 sl2 sc2]), (3, k1, [Value.string st1, Value.slice sa1 sl1 sc1])]) (p234) (k666) (k667) (1) (1) (8) (3) ([Value.int IntKind.i64 0]) ([Value.int IntKind.i64 77]) fun p236 k672 k673 w505 =>
                ∀ w506 : World,
                (Locl ([k671, k663, k620, k3, k2, k1]) w505 w506) →
                I1 [Value.slice p236 k672 k673, Value.pointer (some { block := k620, off := 0 }), Value.int IntKind.i64 n67, Value.int IntKind.i64 n68, Value.slice p218 k621 k622, Value.pointer (some { block := k671, off := 0 }), Value.int IntKind.i64 n71, Value.int IntKind.i64 n72, Value.slice p233 k664 k665] w506) ∧
              ∀ k674 : Nat,
              (w500.heap.size ≤ k674) →
              ∀ w507 : World,
              (Locl ([k674, k663, k620, k3, k2, k1]) w500 w507) →
              Calls P F.law23_ints #[Value.slice sa1 sl1 sc1] w507 fun e112 w508 =>
              ∃ p237 : Option Addr,
              ∃ k675 : Nat,
              ∃ k676 : Nat,
              (e112 = Ending.returned (Value.slice p237 k675 k676)) ∧
              (Keep ([k674, k663, k620, k3, k2, k1]) w507 w508) ∧
              appVC (w508) ([(8, k674, [Value.int IntKind.i64 0, Value.int IntKind.i64 0, Value.slice none 0 0]), (27, k663, [Value.int IntKind.i64 77]), (7, k620, [Value.int IntKind.i64 0, Value.int IntKind.i64 0, Value.slice none 0 0]), (5, k3, [Value.int IntKind.i64 x3, Value.int IntKind.i64 x4, Value.slice sa3 sl3 sc3]), (4, k2, [Value.int IntKind.i64 x1, Value.int IntKind.i64 x2, Value.slice sa2 sl2 sc2]), (3, k1, [Value.string st1, Value.slice sa1 sl1 sc1])]) (p237) (k675) (k676) (1) (1) (8) (3) ([Value.int IntKind.i64 0]) ([Value.int IntKind.i64 77]) fun p238 k677 k678 w509 =>
              ∀ w510 : World,
              (Locl ([k674, k663, k620, k3, k2, k1]) w509 w510) →
              I1 [Value.slice p238 k677 k678, Value.pointer (some { block := k620, off := 0 }), Value.int IntKind.i64 n67, Value.int IntKind.i64 n68, Value.slice p218 k621 k622, Value.pointer (some { block := k674, off := 0 }), Value.int IntKind.i64 n71, Value.int IntKind.i64 n72, Value.slice p233 k664 k665] w510) ∧
            ∀ k679 : Nat,
            (w467.heap.size ≤ k679) →
            ∀ w511 : World,
            (Locl ([k679, k663, k620, k3, k2, k1]) w467 w511) →
            Calls P F.law23_own #[Value.agg #[Value.int IntKind.i64 x3, Value.int IntKind.i64 x4, Value.slice sa3 sl3 sc3]] w511 fun e113 w512 =>
            ∃ n73 : Int,
            ∃ n74 : Int,
            ∃ p239 : Option Addr,
            ∃ k680 : Nat,
            ∃ k681 : Nat,
            (e113 = Ending.returned (Value.agg #[Value.int IntKind.i64 n73, Value.int IntKind.i64 n74, Value.slice p239 k680 k681])) ∧
            (Keep ([k679, k663, k620, k3, k2, k1]) w511 w512) ∧
            (Keeps w511 w512) ∧
            Calls P F.law23_ints #[Value.slice sa1 sl1 sc1] w512 fun e114 w513 =>
            ∃ p240 : Option Addr,
            ∃ k682 : Nat,
            ∃ k683 : Nat,
            (e114 = Ending.returned (Value.slice p240 k682 k683)) ∧
            (Keep ([k679, k663, k620, k3, k2, k1]) w512 w513) ∧
            appVC (w513) ([(8, k679, [Value.int IntKind.i64 0, Value.int IntKind.i64 0, Value.slice none 0 0]), (27, k663, [Value.int IntKind.i64 77]), (7, k620, [Value.int IntKind.i64 0, Value.int IntKind.i64 0, Value.slice none 0 0]), (5, k3, [Value.int IntKind.i64 x3, Value.int IntKind.i64 x4, Value.slice sa3 sl3 sc3]), (4, k2, [Value.int IntKind.i64 x1, Value.int IntKind.i64 x2, Value.slice sa2 sl2 sc2]), (3, k1, [Value.string st1, Value.slice sa1 sl1 sc1])]) (p240) (k682) (k683) (1) (1) (8) (3) ([Value.int IntKind.i64 0]) ([Value.int IntKind.i64 77]) fun p241 k684 k685 w514 =>
            ∀ w515 : World,
            (Locl ([k679, k663, k620, k3, k2, k1]) w514 w515) →
            I1 [Value.slice p241 k684 k685, Value.pointer (some { block := k620, off := 0 }), Value.int IntKind.i64 n67, Value.int IntKind.i64 n68, Value.slice p218 k621 k622, Value.pointer (some { block := k679, off := 0 }), Value.int IntKind.i64 n73, Value.int IntKind.i64 n74, Value.slice p239 k680 k681] w515) ∧
          ∀ k686 : Nat,
          (w467.heap.size ≤ k686) →
          (∀ w516 : World,
            (Locl ([k686, k620, k3, k2, k1]) w467 w516) →
            Calls P F.law23_own #[Value.agg #[Value.int IntKind.i64 x3, Value.int IntKind.i64 x4, Value.slice sa3 sl3 sc3]] w516 fun e115 w517 =>
            ∃ n75 : Int,
            ∃ n76 : Int,
            ∃ p242 : Option Addr,
            ∃ k687 : Nat,
            ∃ k688 : Nat,
            (e115 = Ending.returned (Value.agg #[Value.int IntKind.i64 n75, Value.int IntKind.i64 n76, Value.slice p242 k687 k688])) ∧
            (Keep ([k686, k620, k3, k2, k1]) w516 w517) ∧
            (Keeps w516 w517) ∧
            (Calls P F.law23_ints #[Value.slice sa1 sl1 sc1] w517 fun e116 w518 =>
              ∃ p243 : Option Addr,
              ∃ k689 : Nat,
              ∃ k690 : Nat,
              (e116 = Ending.returned (Value.slice p243 k689 k690)) ∧
              (Keep ([k686, k620, k3, k2, k1]) w517 w518) ∧
              ∀ k691 : Nat,
              (w518.heap.size ≤ k691) →
              ∀ w519 : World,
              (Locl ([k691, k686, k620, k3, k2, k1]) w518 w519) →
              appVC (w519) ([(27, k691, [Value.int IntKind.i64 77]), (8, k686, [Value.int IntKind.i64 0, Value.int IntKind.i64 0, Value.slice none 0 0]), (7, k620, [Value.int IntKind.i64 0, Value.int IntKind.i64 0, Value.slice none 0 0]), (5, k3, [Value.int IntKind.i64 x3, Value.int IntKind.i64 x4, Value.slice sa3 sl3 sc3]), (4, k2, [Value.int IntKind.i64 x1, Value.int IntKind.i64 x2, Value.slice sa2 sl2 sc2]), (3, k1, [Value.string st1, Value.slice sa1 sl1 sc1])]) (p243) (k689) (k690) (1) (1) (8) (3) ([Value.int IntKind.i64 0]) ([Value.int IntKind.i64 77]) fun p244 k692 k693 w520 =>
              ∀ w521 : World,
              (Locl ([k691, k686, k620, k3, k2, k1]) w520 w521) →
              I1 [Value.slice p244 k692 k693, Value.pointer (some { block := k620, off := 0 }), Value.int IntKind.i64 n67, Value.int IntKind.i64 n68, Value.slice p218 k621 k622, Value.pointer (some { block := k686, off := 0 }), Value.int IntKind.i64 n75, Value.int IntKind.i64 n76, Value.slice p242 k687 k688] w521) ∧
            ∀ k694 : Nat,
            (w517.heap.size ≤ k694) →
            ∀ w522 : World,
            (Locl ([k694, k686, k620, k3, k2, k1]) w517 w522) →
            Calls P F.law23_ints #[Value.slice sa1 sl1 sc1] w522 fun e117 w523 =>
            ∃ p245 : Option Addr,
            ∃ k695 : Nat,
            ∃ k696 : Nat,
            (e117 = Ending.returned (Value.slice p245 k695 k696)) ∧
            (Keep ([k694, k686, k620, k3, k2, k1]) w522 w523) ∧
            appVC (w523) ([(27, k694, [Value.int IntKind.i64 77]), (8, k686, [Value.int IntKind.i64 0, Value.int IntKind.i64 0, Value.slice none 0 0]), (7, k620, [Value.int IntKind.i64 0, Value.int IntKind.i64 0, Value.slice none 0 0]), (5, k3, [Value.int IntKind.i64 x3, Value.int IntKind.i64 x4, Value.slice sa3 sl3 sc3]), (4, k2, [Value.int IntKind.i64 x1, Value.int IntKind.i64 x2, Value.slice sa2 sl2 sc2]), (3, k1, [Value.string st1, Value.slice sa1 sl1 sc1])]) (p245) (k695) (k696) (1) (1) (8) (3) ([Value.int IntKind.i64 0]) ([Value.int IntKind.i64 77]) fun p246 k697 k698 w524 =>
            ∀ w525 : World,
            (Locl ([k694, k686, k620, k3, k2, k1]) w524 w525) →
            I1 [Value.slice p246 k697 k698, Value.pointer (some { block := k620, off := 0 }), Value.int IntKind.i64 n67, Value.int IntKind.i64 n68, Value.slice p218 k621 k622, Value.pointer (some { block := k686, off := 0 }), Value.int IntKind.i64 n75, Value.int IntKind.i64 n76, Value.slice p242 k687 k688] w525) ∧
          ∀ k699 : Nat,
          (w467.heap.size ≤ k699) →
          ∀ w526 : World,
          (Locl ([k699, k686, k620, k3, k2, k1]) w467 w526) →
          Calls P F.law23_own #[Value.agg #[Value.int IntKind.i64 x3, Value.int IntKind.i64 x4, Value.slice sa3 sl3 sc3]] w526 fun e118 w527 =>
          ∃ n77 : Int,
          ∃ n78 : Int,
          ∃ p247 : Option Addr,
          ∃ k700 : Nat,
          ∃ k701 : Nat,
          (e118 = Ending.returned (Value.agg #[Value.int IntKind.i64 n77, Value.int IntKind.i64 n78, Value.slice p247 k700 k701])) ∧
          (Keep ([k699, k686, k620, k3, k2, k1]) w526 w527) ∧
          (Keeps w526 w527) ∧
          Calls P F.law23_ints #[Value.slice sa1 sl1 sc1] w527 fun e119 w528 =>
          ∃ p248 : Option Addr,
          ∃ k702 : Nat,
          ∃ k703 : Nat,
          (e119 = Ending.returned (Value.slice p248 k702 k703)) ∧
          (Keep ([k699, k686, k620, k3, k2, k1]) w527 w528) ∧
          appVC (w528) ([(27, k699, [Value.int IntKind.i64 77]), (8, k686, [Value.int IntKind.i64 0, Value.int IntKind.i64 0, Value.slice none 0 0]), (7, k620, [Value.int IntKind.i64 0, Value.int IntKind.i64 0, Value.slice none 0 0]), (5, k3, [Value.int IntKind.i64 x3, Value.int IntKind.i64 x4, Value.slice sa3 sl3 sc3]), (4, k2, [Value.int IntKind.i64 x1, Value.int IntKind.i64 x2, Value.slice sa2 sl2 sc2]), (3, k1, [Value.string st1, Value.slice sa1 sl1 sc1])]) (p248) (k702) (k703) (1) (1) (8) (3) ([Value.int IntKind.i64 0]) ([Value.int IntKind.i64 77]) fun p249 k704 k705 w529 =>
          ∀ w530 : World,
          (Locl ([k699, k686, k620, k3, k2, k1]) w529 w530) →
          I1 [Value.slice p249 k704 k705, Value.pointer (some { block := k620, off := 0 }), Value.int IntKind.i64 n67, Value.int IntKind.i64 n68, Value.slice p218 k621 k622, Value.pointer (some { block := k686, off := 0 }), Value.int IntKind.i64 n77, Value.int IntKind.i64 n78, Value.slice p247 k700 k701] w530) ∧
        (∀ k706 : Nat,
          (w2.drew.heap.size ≤ k706) →
          (∀ w531 : World,
            (Locl ([k706, k620, k3, k2, k1]) (w2.drew) w531) →
            Calls P F.law23_own #[Value.agg #[Value.int IntKind.i64 x1, Value.int IntKind.i64 x2, Value.slice sa2 sl2 sc2]] w531 fun e120 w532 =>
            ∃ n79 : Int,
            ∃ n80 : Int,
            ∃ p250 : Option Addr,
            ∃ k707 : Nat,
            ∃ k708 : Nat,
            (e120 = Ending.returned (Value.agg #[Value.int IntKind.i64 n79, Value.int IntKind.i64 n80, Value.slice p250 k707 k708])) ∧
            (Keep ([k706, k620, k3, k2, k1]) w531 w532) ∧
            (Keeps w531 w532) ∧
            (Calls P F.law23_own #[Value.agg #[Value.int IntKind.i64 x3, Value.int IntKind.i64 x4, Value.slice sa3 sl3 sc3]] w532 fun e121 w533 =>
              ∃ n81 : Int,
              ∃ n82 : Int,
              ∃ p251 : Option Addr,
              ∃ k709 : Nat,
              ∃ k710 : Nat,
              (e121 = Ending.returned (Value.agg #[Value.int IntKind.i64 n81, Value.int IntKind.i64 n82, Value.slice p251 k709 k710])) ∧
              (Keep ([k706, k620, k3, k2, k1]) w532 w533) ∧
              (Keeps w532 w533) ∧
              (Calls P F.law23_ints #[Value.slice sa1 sl1 sc1] w533 fun e122 w534 =>
                ∃ p252 : Option Addr,
                ∃ k711 : Nat,
                ∃ k712 : Nat,
                (e122 = Ending.returned (Value.slice p252 k711 k712)) ∧
                (Keep ([k706, k620, k3, k2, k1]) w533 w534) ∧
                (appVC (w534) ([(27, k706, [Value.int IntKind.i64 77]), (7, k620, [Value.int IntKind.i64 0, Value.int IntKind.i64 0, Value.slice none 0 0]), (5, k3, [Value.int IntKind.i64 x3, Value.int IntKind.i64 x4, Value.slice sa3 sl3 sc3]), (4, k2, [Value.int IntKind.i64 x1, Value.int IntKind.i64 x2, Value.slice sa2 sl2 sc2]), (3, k1, [Value.string st1, Value.slice sa1 sl1 sc1])]) (p252) (k711) (k712) (1) (1) (8) (3) ([Value.int IntKind.i64 0]) ([Value.int IntKind.i64 77]) fun p253 k713 k714 w535 =>
                  ∀ k715 : Nat,
                  (w535.heap.size ≤ k715) →
                  ∀ w536 : World,
                  (Locl ([k715, k706, k620, k3, k2, k1]) w535 w536) →
                  I1 [Value.slice p253 k713 k714, Value.pointer (some { block := k620, off := 0 }), Value.int IntKind.i64 n79, Value.int IntKind.i64 n80, Value.slice p250 k707 k708, Value.pointer (some { block := k715, off := 0 }), Value.int IntKind.i64 n81, Value.int IntKind.i64 n82, Value.slice p251 k709 k710] w536) ∧
                ∀ k716 : Nat,
                (w534.heap.size ≤ k716) →
                ∀ w537 : World,
                (Locl ([k716, k706, k620, k3, k2, k1]) w534 w537) →
                appVC (w537) ([(8, k716, [Value.int IntKind.i64 0, Value.int IntKind.i64 0, Value.slice none 0 0]), (27, k706, [Value.int IntKind.i64 77]), (7, k620, [Value.int IntKind.i64 0, Value.int IntKind.i64 0, Value.slice none 0 0]), (5, k3, [Value.int IntKind.i64 x3, Value.int IntKind.i64 x4, Value.slice sa3 sl3 sc3]), (4, k2, [Value.int IntKind.i64 x1, Value.int IntKind.i64 x2, Value.slice sa2 sl2 sc2]), (3, k1, [Value.string st1, Value.slice sa1 sl1 sc1])]) (p252) (k711) (k712) (1) (1) (8) (3) ([Value.int IntKind.i64 0]) ([Value.int IntKind.i64 77]) fun p254 k717 k718 w538 =>
                ∀ w539 : World,
                (Locl ([k716, k706, k620, k3, k2, k1]) w538 w539) →
                I1 [Value.slice p254 k717 k718, Value.pointer (some { block := k620, off := 0 }), Value.int IntKind.i64 n79, Value.int IntKind.i64 n80, Value.slice p250 k707 k708, Value.pointer (some { block := k716, off := 0 }), Value.int IntKind.i64 n81, Value.int IntKind.i64 n82, Value.slice p251 k709 k710] w539) ∧
              ∀ k719 : Nat,
              (w533.heap.size ≤ k719) →
              ∀ w540 : World,
              (Locl ([k719, k706, k620, k3, k2, k1]) w533 w540) →
              Calls P F.law23_ints #[Value.slice sa1 sl1 sc1] w540 fun e123 w541 =>
              ∃ p255 : Option Addr,
              ∃ k720 : Nat,
              ∃ k721 : Nat,
              (e123 = Ending.returned (Value.slice p255 k720 k721)) ∧
              (Keep ([k719, k706, k620, k3, k2, k1]) w540 w541) ∧
              appVC (w541) ([(8, k719, [Value.int IntKind.i64 0, Value.int IntKind.i64 0, Value.slice none 0 0]), (27, k706, [Value.int IntKind.i64 77]), (7, k620, [Value.int IntKind.i64 0, Value.int IntKind.i64 0, Value.slice none 0 0]), (5, k3, [Value.int IntKind.i64 x3, Value.int IntKind.i64 x4, Value.slice sa3 sl3 sc3]), (4, k2, [Value.int IntKind.i64 x1, Value.int IntKind.i64 x2, Value.slice sa2 sl2 sc2]), (3, k1, [Value.string st1, Value.slice sa1 sl1 sc1])]) (p255) (k720) (k721) (1) (1) (8) (3) ([Value.int IntKind.i64 0]) ([Value.int IntKind.i64 77]) fun p256 k722 k723 w542 =>
              ∀ w543 : World,
              (Locl ([k719, k706, k620, k3, k2, k1]) w542 w543) →
              I1 [Value.slice p256 k722 k723, Value.pointer (some { block := k620, off := 0 }), Value.int IntKind.i64 n79, Value.int IntKind.i64 n80, Value.slice p250 k707 k708, Value.pointer (some { block := k719, off := 0 }), Value.int IntKind.i64 n81, Value.int IntKind.i64 n82, Value.slice p251 k709 k710] w543) ∧
            ∀ k724 : Nat,
            (w532.heap.size ≤ k724) →
            ∀ w544 : World,
            (Locl ([k724, k706, k620, k3, k2, k1]) w532 w544) →
            Calls P F.law23_own #[Value.agg #[Value.int IntKind.i64 x3, Value.int IntKind.i64 x4, Value.slice sa3 sl3 sc3]] w544 fun e124 w545 =>
            ∃ n83 : Int,
            ∃ n84 : Int,
            ∃ p257 : Option Addr,
            ∃ k725 : Nat,
            ∃ k726 : Nat,
            (e124 = Ending.returned (Value.agg #[Value.int IntKind.i64 n83, Value.int IntKind.i64 n84, Value.slice p257 k725 k726])) ∧
            (Keep ([k724, k706, k620, k3, k2, k1]) w544 w545) ∧
            (Keeps w544 w545) ∧
            Calls P F.law23_ints #[Value.slice sa1 sl1 sc1] w545 fun e125 w546 =>
            ∃ p258 : Option Addr,
            ∃ k727 : Nat,
            ∃ k728 : Nat,
            (e125 = Ending.returned (Value.slice p258 k727 k728)) ∧
            (Keep ([k724, k706, k620, k3, k2, k1]) w545 w546) ∧
            appVC (w546) ([(8, k724, [Value.int IntKind.i64 0, Value.int IntKind.i64 0, Value.slice none 0 0]), (27, k706, [Value.int IntKind.i64 77]), (7, k620, [Value.int IntKind.i64 0, Value.int IntKind.i64 0, Value.slice none 0 0]), (5, k3, [Value.int IntKind.i64 x3, Value.int IntKind.i64 x4, Value.slice sa3 sl3 sc3]), (4, k2, [Value.int IntKind.i64 x1, Value.int IntKind.i64 x2, Value.slice sa2 sl2 sc2]), (3, k1, [Value.string st1, Value.slice sa1 sl1 sc1])]) (p258) (k727) (k728) (1) (1) (8) (3) ([Value.int IntKind.i64 0]) ([Value.int IntKind.i64 77]) fun p259 k729 k730 w547 =>
            ∀ w548 : World,
            (Locl ([k724, k706, k620, k3, k2, k1]) w547 w548) →
            I1 [Value.slice p259 k729 k730, Value.pointer (some { block := k620, off := 0 }), Value.int IntKind.i64 n79, Value.int IntKind.i64 n80, Value.slice p250 k707 k708, Value.pointer (some { block := k724, off := 0 }), Value.int IntKind.i64 n83, Value.int IntKind.i64 n84, Value.slice p257 k725 k726] w548) ∧
          ∀ k731 : Nat,
          (w2.drew.heap.size ≤ k731) →
          ∀ w549 : World,
          (Locl ([k731, k706, k620, k3, k2, k1]) (w2.drew) w549) →
          Calls P F.law23_own #[Value.agg #[Value.int IntKind.i64 x1, Value.int IntKind.i64 x2, Value.slice sa2 sl2 sc2]] w549 fun e126 w550 =>
          ∃ n85 : Int,
          ∃ n86 : Int,
          ∃ p260 : Option Addr,
          ∃ k732 : Nat,
          ∃ k733 : Nat,
          (e126 = Ending.returned (Value.agg #[Value.int IntKind.i64 n85, Value.int IntKind.i64 n86, Value.slice p260 k732 k733])) ∧
          (Keep ([k731, k706, k620, k3, k2, k1]) w549 w550) ∧
          (Keeps w549 w550) ∧
          Calls P F.law23_own #[Value.agg #[Value.int IntKind.i64 x3, Value.int IntKind.i64 x4, Value.slice sa3 sl3 sc3]] w550 fun e127 w551 =>
          ∃ n87 : Int,
          ∃ n88 : Int,
          ∃ p261 : Option Addr,
          ∃ k734 : Nat,
          ∃ k735 : Nat,
          (e127 = Ending.returned (Value.agg #[Value.int IntKind.i64 n87, Value.int IntKind.i64 n88, Value.slice p261 k734 k735])) ∧
          (Keep ([k731, k706, k620, k3, k2, k1]) w550 w551) ∧
          (Keeps w550 w551) ∧
          Calls P F.law23_ints #[Value.slice sa1 sl1 sc1] w551 fun e128 w552 =>
          ∃ p262 : Option Addr,
          ∃ k736 : Nat,
          ∃ k737 : Nat,
          (e128 = Ending.returned (Value.slice p262 k736 k737)) ∧
          (Keep ([k731, k706, k620, k3, k2, k1]) w551 w552) ∧
          appVC (w552) ([(8, k731, [Value.int IntKind.i64 0, Value.int IntKind.i64 0, Value.slice none 0 0]), (27, k706, [Value.int IntKind.i64 77]), (7, k620, [Value.int IntKind.i64 0, Value.int IntKind.i64 0, Value.slice none 0 0]), (5, k3, [Value.int IntKind.i64 x3, Value.int IntKind.i64 x4, Value.slice sa3 sl3 sc3]), (4, k2, [Value.int IntKind.i64 x1, Value.int IntKind.i64 x2, Value.slice sa2 sl2 sc2]), (3, k1, [Value.string st1, Value.slice sa1 sl1 sc1])]) (p262) (k736) (k737) (1) (1) (8) (3) ([Value.int IntKind.i64 0]) ([Value.int IntKind.i64 77]) fun p263 k738 k739 w553 =>
          ∀ w554 : World,
          (Locl ([k731, k706, k620, k3, k2, k1]) w553 w554) →
          I1 [Value.slice p263 k738 k739, Value.pointer (some { block := k620, off := 0 }), Value.int IntKind.i64 n85, Value.int IntKind.i64 n86, Value.slice p260 k732 k733, Value.pointer (some { block := k731, off := 0 }), Value.int IntKind.i64 n87, Value.int IntKind.i64 n88, Value.slice p261 k734 k735] w554) ∧
        ∀ k740 : Nat,
        (w2.drew.heap.size ≤ k740) →
        (∀ w555 : World,
          (Locl ([k740, k620, k3, k2, k1]) (w2.drew) w555) →
          Calls P F.law23_own #[Value.agg #[Value.int IntKind.i64 x1, Value.int IntKind.i64 x2, Value.slice sa2 sl2 sc2]] w555 fun e129 w556 =>
          ∃ n89 : Int,
          ∃ n90 : Int,
          ∃ p264 : Option Addr,
          ∃ k741 : Nat,
          ∃ k742 : Nat,
          (e129 = Ending.returned (Value.agg #[Value.int IntKind.i64 n89, Value.int IntKind.i64 n90, Value.slice p264 k741 k742])) ∧
          (Keep ([k740, k620, k3, k2, k1]) w555 w556) ∧
          (Keeps w555 w556) ∧
          (Calls P F.law23_own #[Value.agg #[Value.int IntKind.i64 x3, Value.int IntKind.i64 x4, Value.slice sa3 sl3 sc3]] w556 fun e130 w557 =>
            ∃ n91 : Int,
            ∃ n92 : Int,
            ∃ p265 : Option Addr,
            ∃ k743 : Nat,
            ∃ k744 : Nat,
            (e130 = Ending.returned (Value.agg #[Value.int IntKind.i64 n91, Value.int IntKind.i64 n92, Value.slice p265 k743 k744])) ∧
            (Keep ([k740, k620, k3, k2, k1]) w556 w557) ∧
            (Keeps w556 w557) ∧
            (Calls P F.law23_ints #[Value.slice sa1 sl1 sc1] w557 fun e131 w558 =>
              ∃ p266 : Option Addr,
              ∃ k745 : Nat,
              ∃ k746 : Nat,
              (e131 = Ending.returned (Value.slice p266 k745 k746)) ∧
              (Keep ([k740, k620, k3, k2, k1]) w557 w558) ∧
              ∀ k747 : Nat,
              (w558.heap.size ≤ k747) →
              ∀ w559 : World,
              (Locl ([k747, k740, k620, k3, k2, k1]) w558 w559) →
              appVC (w559) ([(27, k747, [Value.int IntKind.i64 77]), (8, k740, [Value.int IntKind.i64 0, Value.int IntKind.i64 0, Value.slice none 0 0]), (7, k620, [Value.int IntKind.i64 0, Value.int IntKind.i64 0, Value.slice none 0 0]), (5, k3, [Value.int IntKind.i64 x3, Value.int IntKind.i64 x4, Value.slice sa3 sl3 sc3]), (4, k2, [Value.int IntKind.i64 x1, Value.int IntKind.i64 x2, Value.slice sa2 sl2 sc2]), (3, k1, [Value.string st1, Value.slice sa1 sl1 sc1])]) (p266) (k745) (k746) (1) (1) (8) (3) ([Value.int IntKind.i64 0]) ([Value.int IntKind.i64 77]) fun p267 k748 k749 w560 =>
              ∀ w561 : World,
              (Locl ([k747, k740, k620, k3, k2, k1]) w560 w561) →
              I1 [Value.slice p267 k748 k749, Value.pointer (some { block := k620, off := 0 }), Value.int IntKind.i64 n89, Value.int IntKind.i64 n90, Value.slice p264 k741 k742, Value.pointer (some { block := k740, off := 0 }), Value.int IntKind.i64 n91, Value.int IntKind.i64 n92, Value.slice p265 k743 k744] w561) ∧
            ∀ k750 : Nat,
            (w557.heap.size ≤ k750) →
            ∀ w562 : World,
            (Locl ([k750, k740, k620, k3, k2, k1]) w557 w562) →
            Calls P F.law23_ints #[Value.slice sa1 sl1 sc1] w562 fun e132 w563 =>
            ∃ p268 : Option Addr,
            ∃ k751 : Nat,
            ∃ k752 : Nat,
            (e132 = Ending.returned (Value.slice p268 k751 k752)) ∧
            (Keep ([k750, k740, k620, k3, k2, k1]) w562 w563) ∧
            appVC (w563) ([(27, k750, [Value.int IntKind.i64 77]), (8, k740, [Value.int IntKind.i64 0, Value.int IntKind.i64 0, Value.slice none 0 0]), (7, k620, [Value.int IntKind.i64 0, Value.int IntKind.i64 0, Value.slice none 0 0]), (5, k3, [Value.int IntKind.i64 x3, Value.int IntKind.i64 x4, Value.slice sa3 sl3 sc3]), (4, k2, [Value.int IntKind.i64 x1, Value.int IntKind.i64 x2, Value.slice sa2 sl2 sc2]), (3, k1, [Value.string st1, Value.slice sa1 sl1 sc1])]) (p268) (k751) (k752) (1) (1) (8) (3) ([Value.int IntKind.i64 0]) ([Value.int IntKind.i64 77]) fun p269 k753 k754 w564 =>
            ∀ w565 : World,
            (Locl ([k750, k740, k620, k3, k2, k1]) w564 w565) →
            I1 [Value.slice p269 k753 k754, Value.pointer (some { block := k620, off := 0 }), Value.int IntKind.i64 n89, Value.int IntKind.i64 n90, Value.slice p264 k741 k742, Value.pointer (some { block := k740, off := 0 }), Value.int IntKind.i64 n91, Value.int IntKind.i64 n92, Value.slice p265 k743 k744] w565) ∧
          ∀ k755 : Nat,
          (w556.heap.size ≤ k755) →
          ∀ w566 : World,
          (Locl ([k755, k740, k620, k3, k2, k1]) w556 w566) →
          Calls P F.law23_own #[Value.agg #[Value.int IntKind.i64 x3, Value.int IntKind.i64 x4, Value.slice sa3 sl3 sc3]] w566 fun e133 w567 =>
          ∃ n93 : Int,
          ∃ n94 : Int,
          ∃ p270 : Option Addr,
          ∃ k756 : Nat,
          ∃ k757 : Nat,
          (e133 = Ending.returned (Value.agg #[Value.int IntKind.i64 n93, Value.int IntKind.i64 n94, Value.slice p270 k756 k757])) ∧
          (Keep ([k755, k740, k620, k3, k2, k1]) w566 w567) ∧
          (Keeps w566 w567) ∧
          Calls P F.law23_ints #[Value.slice sa1 sl1 sc1] w567 fun e134 w568 =>
          ∃ p271 : Option Addr,
          ∃ k758 : Nat,
          ∃ k759 : Nat,
          (e134 = Ending.returned (Value.slice p271 k758 k759)) ∧
          (Keep ([k755, k740, k620, k3, k2, k1]) w567 w568) ∧
          appVC (w568) ([(27, k755, [Value.int IntKind.i64 77]), (8, k740, [Value.int IntKind.i64 0, Value.int IntKind.i64 0, Value.slice none 0 0]), (7, k620, [Value.int IntKind.i64 0, Value.int IntKind.i64 0, Value.slice none 0 0]), (5, k3, [Value.int IntKind.i64 x3, Value.int IntKind.i64 x4, Value.slice sa3 sl3 sc3]), (4, k2, [Value.int IntKind.i64 x1, Value.int IntKind.i64 x2, Value.slice sa2 sl2 sc2]), (3, k1, [Value.string st1, Value.slice sa1 sl1 sc1])]) (p271) (k758) (k759) (1) (1) (8) (3) ([Value.int IntKind.i64 0]) ([Value.int IntKind.i64 77]) fun p272 k760 k761 w569 =>
          ∀ w570 : World,
          (Locl ([k755, k740, k620, k3, k2, k1]) w569 w570) →
          I1 [Value.slice p272 k760 k761, Value.pointer (some { block := k620, off := 0 }), Value.int IntKind.i64 n89, Value.int IntKind.i64 n90, Value.slice p264 k741 k742, Value.pointer (some { block := k740, off := 0 }), Value.int IntKind.i64 n93, Value.int IntKind.i64 n94, Value.slice p270 k756 k757] w570) ∧
        ∀ k762 : Nat,
        (w2.drew.heap.size ≤ k762) →
        ∀ w571 : World,
        (Locl ([k762, k740, k620, k3, k2, k1]) (w2.drew) w571) →
        Calls P F.law23_own #[Value.agg #[Value.int IntKind.i64 x1, Value.int IntKind.i64 x2, Value.slice sa2 sl2 sc2]] w571 fun e135 w572 =>
        ∃ n95 : Int,
        ∃ n96 : Int,
        ∃ p273 : Option Addr,
        ∃ k763 : Nat,
        ∃ k764 : Nat,
        (e135 = Ending.returned (Value.agg #[Value.int IntKind.i64 n95, Value.int IntKind.i64 n96, Value.slice p273 k763 k764])) ∧
        (Keep ([k762, k740, k620, k3, k2, k1]) w571 w572) ∧
        (Keeps w571 w572) ∧
        Calls P F.law23_own #[Value.agg #[Value.int IntKind.i64 x3, Value.int IntKind.i64 x4, Value.slice sa3 sl3 sc3]] w572 fun e136 w573 =>
        ∃ n97 : Int,
        ∃ n98 : Int,
        ∃ p274 : Option Addr,
        ∃ k765 : Nat,
        ∃ k766 : Nat,
        (e136 = Ending.returned (Value.agg #[Value.int IntKind.i64 n97, Value.int IntKind.i64 n98, Value.slice p274 k765 k766])) ∧
        (Keep ([k762, k740, k620, k3, k2, k1]) w572 w573) ∧
        (Keeps w572 w573) ∧
        Calls P F.law23_ints #[Value.slice sa1 sl1 sc1] w573 fun e137 w574 =>
        ∃ p275 : Option Addr,
        ∃ k767 : Nat,
        ∃ k768 : Nat,
        (e137 = Ending.returned (Value.slice p275 k767 k768)) ∧
        (Keep ([k762, k740, k620, k3, k2, k1]) w573 w574) ∧
        appVC (w574) ([(27, k762, [Value.int IntKind.i64 77]), (8, k740, [Value.int IntKind.i64 0, Value.int IntKind.i64 0, Value.slice none 0 0]), (7, k620, [Value.int IntKind.i64 0, Value.int IntKind.i64 0, Value.slice none 0 0]), (5, k3, [Value.int IntKind.i64 x3, Value.int IntKind.i64 x4, Value.slice sa3 sl3 sc3]), (4, k2, [Value.int IntKind.i64 x1, Value.int IntKind.i64 x2, Value.slice sa2 sl2 sc2]), (3, k1, [Value.string st1, Value.slice sa1 sl1 sc1])]) (p275) (k767) (k768) (1) (1) (8) (3) ([Value.int IntKind.i64 0]) ([Value.int IntKind.i64 77]) fun p276 k769 k770 w575 =>
        ∀ w576 : World,
        (Locl ([k762, k740, k620, k3, k2, k1]) w575 w576) →
        I1 [Value.slice p276 k769 k770, Value.pointer (some { block := k620, off := 0 }), Value.int IntKind.i64 n95, Value.int IntKind.i64 n96, Value.slice p273 k763 k764, Value.pointer (some { block := k740, off := 0 }), Value.int IntKind.i64 n97, Value.int IntKind.i64 n98, Value.slice p274 k765 k766] w576) ∧
      ∀ k771 : Nat,
      (w2.drew.heap.size ≤ k771) →
      (∀ w577 : World,
        (Locl ([k771, k3, k2, k1]) (w2.drew) w577) →
        Calls P F.law23_own #[Value.agg #[Value.int IntKind.i64 x1, Value.int IntKind.i64 x2, Value.slice sa2 sl2 sc2]] w577 fun e138 w578 =>
        ∃ n99 : Int,
        ∃ n100 : Int,
        ∃ p277 : Option Addr,
        ∃ k772 : Nat,
        ∃ k773 : Nat,
        (e138 = Ending.returned (Value.agg #[Value.int IntKind.i64 n99, Value.int IntKind.i64 n100, Value.slice p277 k772 k773])) ∧
        (Keep ([k771, k3, k2, k1]) w577 w578) ∧
        (Keeps w577 w578) ∧
        (Calls P F.law23_own #[Value.agg #[Value.int IntKind.i64 x3, Value.int IntKind.i64 x4, Value.slice sa3 sl3 sc3]] w578 fun e139 w579 =>
          ∃ n101 : Int,
          ∃ n102 : Int,
          ∃ p278 : Option Addr,
          ∃ k774 : Nat,
          ∃ k775 : Nat,
          (e139 = Ending.returned (Value.agg #[Value.int IntKind.i64 n101, Value.int IntKind.i64 n102, Value.slice p278 k774 k775])) ∧
          (Keep ([k771, k3, k2, k1]) w578 w579) ∧
          (Keeps w578 w579) ∧
          (Calls P F.law23_ints #[Value.slice sa1 sl1 sc1] w579 fun e140 w580 =>
            ∃ p279 : Option Addr,
            ∃ k776 : Nat,
            ∃ k777 : Nat,
            (e140 = Ending.returned (Value.slice p279 k776 k777)) ∧
            (Keep ([k771, k3, k2, k1]) w579 w580) ∧
            (∀ k778 : Nat,
              (w580.heap.size ≤ k778) →
              (∀ w581 : World,
                (Locl ([k778, k771, k3, k2, k1]) w580 w581) →
                appVC (w581) ([(27, k778, [Value.int IntKind.i64 77]), (8, k771, [Value.int IntKind.i64 0, Value.int IntKind.i64 0, Value.slice none 0 0]), (5, k3, [Value.int IntKind.i64 x3, Value.int IntKind.i64 x4, Value.slice sa3 sl3 sc3]), (4, k2, [Value.int IntKind.i64 x1, Value.int IntKind.i64 x2, Value.slice sa2 sl2 sc2]), (3, k1, [Value.string st1, Value.slice sa1 sl1 sc1])]) (p279) (k776) (k777) (1) (1) (8) (3) ([Value.int IntKind.i64 0]) ([Value.int IntKind.i64 77]) fun p280 k779 k780 w582 =>
                ∀ k781 : Nat,
                (w582.heap.size ≤ k781) →
                ∀ w583 : World,
                (Locl ([k781, k778, k771, k3, k2, k1]) w582 w583) →
                I1 [Value.slice p280 k779 k780, Value.pointer (some { block := k781, off := 0 }), Value.int IntKind.i64 n99, Value.int IntKind.i64 n100, Value.slice p277 k772 k773, Value.pointer (some { block := k771, off := 0 }), Value.int IntKind.i64 n101, Value.int IntKind.i64 n102, Value.slice p278 k774 k775] w583) ∧
              ∀ k782 : Nat,
              (w580.heap.size ≤ k782) →
              ∀ w584 : World,
              (Locl ([k782, k778, k771, k3, k2, k1]) w580 w584) →
              appVC (w584) ([(7, k782, [Value.int IntKind.i64 0, Value.int IntKind.i64 0, Value.slice none 0 0]), (27, k778, [Value.int IntKind.i64 77]), (8, k771, [Value.int IntKind.i64 0, Value.int IntKind.i64 0, Value.slice none 0 0]), (5, k3, [Value.int IntKind.i64 x3, Value.int IntKind.i64 x4, Value.slice sa3 sl3 sc3]), (4, k2, [Value.int IntKind.i64 x1, Value.int IntKind.i64 x2, Value.slice sa2 sl2 sc2]), (3, k1, [Value.string st1, Value.slice sa1 sl1 sc1])]) (p279) (k776) (k777) (1) (1) (8) (3) ([Value.int IntKind.i64 0]) ([Value.int IntKind.i64 77]) fun p281 k783 k784 w585 =>
              ∀ w586 : World,
              (Locl ([k782, k778, k771, k3, k2, k1]) w585 w586) →
              I1 [Value.slice p281 k783 k784, Value.pointer (some { block := k782, off := 0 }), Value.int IntKind.i64 n99, Value.int IntKind.i64 n100, Value.slice p277 k772 k773, Value.pointer (some { block := k771, off := 0 }), Value.int IntKind.i64 n101, Value.int IntKind.i64 n102, Value.slice p278 k774 k775] w586) ∧
            ∀ k785 : Nat,
            (w580.heap.size ≤ k785) →
            ∀ k786 : Nat,
            (w580.heap.size ≤ k786) →
            ∀ w587 : World,
            (Locl ([k786, k785, k771, k3, k2, k1]) w580 w587) →
            appVC (w587) ([(27, k786, [Value.int IntKind.i64 77]), (7, k785, [Value.int IntKind.i64 0, Value.int IntKind.i64 0, Value.slice none 0 0]), (8, k771, [Value.int IntKind.i64 0, Value.int IntKind.i64 0, Value.slice none 0 0]), (5, k3, [Value.int IntKind.i64 x3, Value.int IntKind.i64 x4, Value.slice sa3 sl3 sc3]), (4, k2, [Value.int IntKind.i64 x1, Value.int IntKind.i64 x2, Value.slice sa2 sl2 sc2]), (3, k1, [Value.string st1, Value.slice sa1 sl1 sc1])]) (p279) (k776) (k777) (1) (1) (8) (3) ([Value.int IntKind.i64 0]) ([Value.int IntKind.i64 77]) fun p282 k787 k788 w588 =>
            ∀ w589 : World,
            (Locl ([k786, k785, k771, k3, k2, k1]) w588 w589) →
            I1 [Value.slice p282 k787 k788, Value.pointer (some { block := k785, off := 0 }), Value.int IntKind.i64 n99, Value.int IntKind.i64 n100, Value.slice p277 k772 k773, Value.pointer (some { block := k771, off := 0 }), Value.int IntKind.i64 n101, Value.int IntKind.i64 n102, Value.slice p278 k774 k775] w589) ∧
          (∀ k789 : Nat,
            (w579.heap.size ≤ k789) →
            (∀ w590 : World,
              (Locl ([k789, k771, k3, k2, k1]) w579 w590) →
              Calls P F.law23_ints #[Value.slice sa1 sl1 sc1] w590 fun e141 w591 =>
              ∃ p283 : Option Addr,
              ∃ k790 : Nat,
              ∃ k791 : Nat,
              (e141 = Ending.returned (Value.slice p283 k790 k791)) ∧
              (Keep ([k789, k771, k3, k2, k1]) w590 w591) ∧
              (appVC (w591) ([(27, k789, [Value.int IntKind.i64 77]), (8, k771, [Value.int IntKind.i64 0, Value.int IntKind.i64 0, Value.slice none 0 0]), (5, k3, [Value.int IntKind.i64 x3, Value.int IntKind.i64 x4, Value.slice sa3 sl3 sc3]), (4, k2, [Value.int IntKind.i64 x1, Value.int IntKind.i64 x2, Value.slice sa2 sl2 sc2]), (3, k1, [Value.string st1, Value.slice sa1 sl1 sc1])]) (p283) (k790) (k791) (1) (1) (8) (3) ([Value.int IntKind.i64 0]) ([Value.int IntKind.i64 77]) fun p284 k792 k793 w592 =>
                ∀ k794 : Nat,
                (w592.heap.size ≤ k794) →
                ∀ w593 : World,
                (Locl ([k794, k789, k771, k3, k2, k1]) w592 w593) →
                I1 [Value.slice p284 k792 k793, Value.pointer (some { block := k794, off := 0 }), Value.int IntKind.i64 n99, Value.int IntKind.i64 n100, Value.slice p277 k772 k773, Value.pointer (some { block := k771, off := 0 }), Value.int IntKind.i64 n101, Value.int IntKind.i64 n102, Value.slice p278 k774 k775] w593) ∧
              ∀ k795 : Nat,
              (w591.heap.size ≤ k795) →
              ∀ w594 : World,
              (Locl ([k795, k789, k771, k3, k2, k1]) w591 w594) →
              appVC (w594) ([(7, k795, [Value.int IntKind.i64 0, Value.int IntKind.i64 0, Value.slice none 0 0]), (27, k789, [Value.int IntKind.i64 77]), (8, k771, [Value.int IntKind.i64 0, Value.int IntKind.i64 0, Value.slice none 0 0]), (5, k3, [Value.int IntKind.i64 x3, Value.int IntKind.i64 x4, Value.slice sa3 sl3 sc3]), (4, k2, [Value.int IntKind.i64 x1, Value.int IntKind.i64 x2, Value.slice sa2 sl2 sc2]), (3, k1, [Value.string st1, Value.slice sa1 sl1 sc1])]) (p283) (k790) (k791) (1) (1) (8) (3) ([Value.int IntKind.i64 0]) ([Value.int IntKind.i64 77]) fun p285 k796 k797 w595 =>
              ∀ w596 : World,
              (Locl ([k795, k789, k771, k3, k2, k1]) w595 w596) →
              I1 [Value.slice p285 k796 k797, Value.pointer (some { block := k795, off := 0 }), Value.int IntKind.i64 n99, Value.int IntKind.i64 n100, Value.slice p277 k772 k773, Value.pointer (some { block := k771, off := 0 }), Value.int IntKind.i64 n101, Value.int IntKind.i64 n102, Value.slice p278 k774 k775] w596) ∧
            ∀ k798 : Nat,
            (w579.heap.size ≤ k798) →
            ∀ w597 : World,
            (Locl ([k798, k789, k771, k3, k2, k1]) w579 w597) →
            Calls P F.law23_ints #[Value.slice sa1 sl1 sc1] w597 fun e142 w598 =>
            ∃ p286 : Option Addr,
            ∃ k799 : Nat,
            ∃ k800 : Nat,
            (e142 = Ending.returned (Value.slice p286 k799 k800)) ∧
            (Keep ([k798, k789, k771, k3, k2, k1]) w597 w598) ∧
            appVC (w598) ([(7, k798, [Value.int IntKind.i64 0, Value.int IntKind.i64 0, Value.slice none 0 0]), (27, k789, [Value.int IntKind.i64 77]), (8, k771, [Value.int IntKind.i64 0, Value.int IntKind.i64 0, Value.slice none 0 0]), (5, k3, [Value.int IntKind.i64 x3, Value.int IntKind.i64 x4, Value.slice sa3 sl3 sc3]), (4, k2, [Value.int IntKind.i64 x1, Value.int IntKind.i64 x2, Value.slice sa2 sl2 sc2]), (3, k1, [Value.string st1, Value.slice sa1 sl1 sc1])]) (p286) (k799) (k800) (1) (1) (8) (3) ([Value.int IntKind.i64 0]) ([Value.int IntKind.i64 77]) fun p287 k801 k802 w599 =>
            ∀ w600 : World,
            (Locl ([k798, k789, k771, k3, k2, k1]) w599 w600) →
            I1 [Value.slice p287 k801 k802, Value.pointer (some { block := k798, off := 0 }), Value.int IntKind.i64 n99, Value.int IntKind.i64 n100, Value.slice p277 k772 k773, Value.pointer (some { block := k771, off := 0 }), Value.int IntKind.i64 n101, Value.int IntKind.i64 n102, Value.slice p278 k774 k775] w600) ∧
          ∀ k803 : Nat,
          (w579.heap.size ≤ k803) →
          (∀ w601 : World,
            (Locl ([k803, k771, k3, k2, k1]) w579 w601) →
            Calls P F.law23_ints #[Value.slice sa1 sl1 sc1] w601 fun e143 w602 =>
            ∃ p288 : Option Addr,
            ∃ k804 : Nat,
            ∃ k805 : Nat,
            (e143 = Ending.returned (Value.slice p288 k804 k805)) ∧
            (Keep ([k803, k771, k3, k2, k1]) w601 w602) ∧
            ∀ k806 : Nat,
            (w602.heap.size ≤ k806) →
            ∀ w603 : World,
            (Locl ([k806, k803, k771, k3, k2, k1]) w602 w603) →
            appVC (w603) ([(27, k806, [Value.int IntKind.i64 77]), (7, k803, [Value.int IntKind.i64 0, Value.int IntKind.i64 0, Value.slice none 0 0]), (8, k771, [Value.int IntKind.i64 0, Value.int IntKind.i64 0, Value.slice none 0 0]), (5, k3, [Value.int IntKind.i64 x3, Value.int IntKind.i64 x4, Value.slice sa3 sl3 sc3]), (4, k2, [Value.int IntKind.i64 x1, Value.int IntKind.i64 x2, Value.slice sa2 sl2 sc2]), (3, k1, [Value.string st1, Value.slice sa1 sl1 sc1])]) (p288) (k804) (k805) (1) (1) (8) (3) ([Value.int IntKind.i64 0]) ([Value.int IntKind.i64 77]) fun p289 k807 k808 w604 =>
            ∀ w605 : World,
            (Locl ([k806, k803, k771, k3, k2, k1]) w604 w605) →
            I1 [Value.slice p289 k807 k808, Value.pointer (some { block := k803, off := 0 }), Value.int IntKind.i64 n99, Value.int IntKind.i64 n100, Value.slice p277 k772 k773, Value.pointer (some { block := k771, off := 0 }), Value.int IntKind.i64 n101, Value.int IntKind.i64 n102, Value.slice p278 k774 k775] w605) ∧
          ∀ k809 : Nat,
          (w579.heap.size ≤ k809) →
          ∀ w606 : World,
          (Locl ([k809, k803, k771, k3, k2, k1]) w579 w606) →
          Calls P F.law23_ints #[Value.slice sa1 sl1 sc1] w606 fun e144 w607 =>
          ∃ p290 : Option Addr,
          ∃ k810 : Nat,
          ∃ k811 : Nat,
          (e144 = Ending.returned (Value.slice p290 k810 k811)) ∧
          (Keep ([k809, k803, k771, k3, k2, k1]) w606 w607) ∧
          appVC (w607) ([(27, k809, [Value.int IntKind.i64 77]), (7, k803, [Value.int IntKind.i64 0, Value.int IntKind.i64 0, Value.slice none 0 0]), (8, k771, [Value.int IntKind.i64 0, Value.int IntKind.i64 0, Value.slice none 0 0]), (5, k3, [Value.int IntKind.i64 x3, Value.int IntKind.i64 x4, Value.slice sa3 sl3 sc3]), (4, k2, [Value.int IntKind.i64 x1, Value.int IntKind.i64 x2, Value.slice sa2 sl2 sc2]), (3, k1, [Value.string st1, Value.slice sa1 sl1 sc1])]) (p290) (k810) (k811) (1) (1) (8) (3) ([Value.int IntKind.i64 0]) ([Value.int IntKind.i64 77]) fun p291 k812 k813 w608 =>
          ∀ w609 : World,
          (Locl ([k809, k803, k771, k3, k2, k1]) w608 w609) →
          I1 [Value.slice p291 k812 k813, Value.pointer (some { block := k803, off := 0 }), Value.int IntKind.i64 n99, Value.int IntKind.i64 n100, Value.slice p277 k772 k773, Value.pointer (some { block := k771, off := 0 }), Value.int IntKind.i64 n101, Value.int IntKind.i64 n102, Value.slice p278 k774 k775] w609) ∧
        (∀ k814 : Nat,
          (w578.heap.size ≤ k814) →
          (∀ w610 : World,
            (Locl ([k814, k771, k3, k2, k1]) w578 w610) →
            Calls P F.law23_own #[Value.agg #[Value.int IntKind.i64 x3, Value.int IntKind.i64 x4, Value.slice sa3 sl3 sc3]] w610 fun e145 w611 =>
            ∃ n103 : Int,
            ∃ n104 : Int,
            ∃ p292 : Option Addr,
            ∃ k815 : Nat,
            ∃ k816 : Nat,
            (e145 = Ending.returned (Value.agg #[Value.int IntKind.i64 n103, Value.int IntKind.i64 n104, Value.slice p292 k815 k816])) ∧
            (Keep ([k814, k771, k3, k2, k1]) w610 w611) ∧
            (Keeps w610 w611) ∧
            (Calls P F.law23_ints #[Value.slice sa1 sl1 sc1] w611 fun e146 w612 =>
              ∃ p293 : Option Addr,
              ∃ k817 : Nat,
              ∃ k818 : Nat,
              (e146 = Ending.returned (Value.slice p293 k817 k818)) ∧
              (Keep ([k814, k771, k3, k2, k1]) w611 w612) ∧
              (appVC (w612) ([(27, k814, [Value.int IntKind.i64 77]), (8, k771, [Value.int IntKind.i64 0, Value.int IntKind.i64 0, Value.slice none 0 0]), (5, k3, [Value.int IntKind.i64 x3, Value.int IntKind.i64 x4, Value.slice sa3 sl3 sc3]), (4, k2, [Value.int IntKind.i64 x1, Value.int IntKind.i64 x2, Value.slice sa2 sl2 sc2]), (3, k1, [Value.string st1, Value.slice sa1 sl1 sc1])]) (p293) (k817) (k818) (1) (1) (8) (3) ([Value.int IntKind.i64 0]) ([Value.int IntKind.i64 77]) fun p294 k819 k820 w613 =>
                ∀ k821 : Nat,
                (w613.heap.size ≤ k821) →
                ∀ w614 : World,
                (Locl ([k821, k814, k771, k3, k2, k1]) w613 w614) →
                I1 [Value.slice p294 k819 k820, Value.pointer (some { block := k821, off := 0 }), Value.int IntKind.i64 n99, Value.int IntKind.i64 n100, Value.slice p277 k772 k773, Value.pointer (some { block := k771, off := 0 }), Value.int IntKind.i64 n103, Value.int IntKind.i64 n104, Value.slice p292 k815 k816] w614) ∧
              ∀ k822 : Nat,
              (w612.heap.size ≤ k822) →
              ∀ w615 : World,
              (Locl ([k822, k814, k771, k3, k2, k1]) w612 w615) →
              appVC (w615) ([(7, k822, [Value.int IntKind.i64 0, Value.int IntKind.i64 0, Value.slice none 0 0]), (27, k814, [Value.int IntKind.i64 77]), (8, k771, [Value.int IntKind.i64 0, Value.int IntKind.i64 0, Value.slice none 0 0]), (5, k3, [Value.int IntKind.i64 x3, Value.int IntKind.i64 x4, Value.slice sa3 sl3 sc3]), (4, k2, [Value.int IntKind.i64 x1, Value.int IntKind.i64 x2, Value.slice sa2 sl2 sc2]), (3, k1, [Value.string st1, Value.slice sa1 sl1 sc1])]) (p293) (k817) (k818) (1) (1) (8) (3) ([Value.int IntKind.i64 0]) ([Value.int IntKind.i64 77]) fun p295 k823 k824 w616 =>
              ∀ w617 : World,
              (Locl ([k822, k814, k771, k3, k2, k1]) w616 w617) →
              I1 [Value.slice p295 k823 k824, Value.pointer (some { block := k822, off := 0 }), Value.int IntKind.i64 n99, Value.int IntKind.i64 n100, Value.slice p277 k772 k773, Value.pointer (some { block := k771, off := 0 }), Value.int IntKind.i64 n103, Value.int IntKind.i64 n104, Value.slice p292 k815 k816] w617) ∧
            ∀ k825 : Nat,
            (w611.heap.size ≤ k825) →
            ∀ w618 : World,
            (Locl ([k825, k814, k771, k3, k2, k1]) w611 w618) →
            Calls P F.law23_ints #[Value.slice sa1 sl1 sc1] w618 fun e147 w619 =>
            ∃ p296 : Option Addr,
            ∃ k826 : Nat,
            ∃ k827 : Nat,
            (e147 = Ending.returned (Value.slice p296 k826 k827)) ∧
            (Keep ([k825, k814, k771, k3, k2, k1]) w618 w619) ∧
            appVC (w619) ([(7, k825, [Value.int IntKind.i64 0, Value.int IntKind.i64 0, Value.slice none 0 0]), (27, k814, [Value.int IntKind.i64 77]), (8, k771, [Value.int IntKind.i64 0, Value.int IntKind.i64 0, Value.slice none 0 0]), (5, k3, [Value.int IntKind.i64 x3, Value.int IntKind.i64 x4, Value.slice sa3 sl3 sc3]), (4, k2, [Value.int IntKind.i64 x1, Value.int IntKind.i64 x2, Value.slice sa2 sl2 sc2]), (3, k1, [Value.string st1, Value.slice sa1 sl1 sc1])]) (p296) (k826) (k827) (1) (1) (8) (3) ([Value.int IntKind.i64 0]) ([Value.int IntKind.i64 77]) fun p297 k828 k829 w620 =>
            ∀ w621 : World,
            (Locl ([k825, k814, k771, k3, k2, k1]) w620 w621) →
            I1 [Value.slice p297 k828 k829, Value.pointer (some { block := k825, off := 0 }), Value.int IntKind.i64 n99, Value.int IntKind.i64 n100, Value.slice p277 k772 k773, Value.pointer (some { block := k771, off := 0 }), Value.int IntKind.i64 n103, Value.int IntKind.i64 n104, Value.slice p292 k815 k816] w621) ∧
          ∀ k830 : Nat,
          (w578.heap.size ≤ k830) →
          ∀ w622 : World,
          (Locl ([k830, k814, k771, k3, k2, k1]) w578 w622) →
          Calls P F.law23_own #[Value.agg #[Value.int IntKind.i64 x3, Value.int IntKind.i64 x4, Value.slice sa3 sl3 sc3]] w622 fun e148 w623 =>
          ∃ n105 : Int,
          ∃ n106 : Int,
          ∃ p298 : Option Addr,
          ∃ k831 : Nat,
          ∃ k832 : Nat,
          (e148 = Ending.returned (Value.agg #[Value.int IntKind.i64 n105, Value.int IntKind.i64 n106, Value.slice p298 k831 k832])) ∧
          (Keep ([k830, k814, k771, k3, k2, k1]) w622 w623) ∧
          (Keeps w622 w623) ∧
          Calls P F.law23_ints #[Value.slice sa1 sl1 sc1] w623 fun e149 w624 =>
          ∃ p299 : Option Addr,
          ∃ k833 : Nat,
          ∃ k834 : Nat,
          (e149 = Ending.returned (Value.slice p299 k833 k834)) ∧
          (Keep ([k830, k814, k771, k3, k2, k1]) w623 w624) ∧
          appVC (w624) ([(7, k830, [Value.int IntKind.i64 0, Value.int IntKind.i64 0, Value.slice none 0 0]), (27, k814, [Value.int IntKind.i64 77]), (8, k771, [Value.int IntKind.i64 0, Value.int IntKind.i64 0, Value.slice none 0 0]), (5, k3, [Value.int IntKind.i64 x3, Value.int IntKind.i64 x4, Value.slice sa3 sl3 sc3]), (4, k2, [Value.int IntKind.i64 x1, Value.int IntKind.i64 x2, Value.slice sa2 sl2 sc2]), (3, k1, [Value.string st1, Value.slice sa1 sl1 sc1])]) (p299) (k833) (k834) (1) (1) (8) (3) ([Value.int IntKind.i64 0]) ([Value.int IntKind.i64 77]) fun p300 k835 k836 w625 =>
          ∀ w626 : World,
          (Locl ([k830, k814, k771, k3, k2, k1]) w625 w626) →
          I1 [Value.slice p300 k835 k836, Value.pointer (some { block := k830, off := 0 }), Value.int IntKind.i64 n99, Value.int IntKind.i64 n100, Value.slice p277 k772 k773, Value.pointer (some { block := k771, off := 0 }), Value.int IntKind.i64 n105, Value.int IntKind.i64 n106, Value.slice p298 k831 k832] w626) ∧
        ∀ k837 : Nat,
        (w578.heap.size ≤ k837) →
        (∀ w627 : World,
          (Locl ([k837, k771, k3, k2, k1]) w578 w627) →
          Calls P F.law23_own #[Value.agg #[Value.int IntKind.i64 x3, Value.int IntKind.i64 x4, Value.slice sa3 sl3 sc3]] w627 fun e150 w628 =>
          ∃ n107 : Int,
          ∃ n108 : Int,
          ∃ p301 : Option Addr,
          ∃ k838 : Nat,
          ∃ k839 : Nat,
          (e150 = Ending.returned (Value.agg #[Value.int IntKind.i64 n107, Value.int IntKind.i64 n108, Value.slice p301 k838 k839])) ∧
          (Keep ([k837, k771, k3, k2, k1]) w627 w628) ∧
          (Keeps w627 w628) ∧
          (Calls P F.law23_ints #[Value.slice sa1 sl1 sc1] w628 fun e151 w629 =>
            ∃ p302 : Option Addr,
            ∃ k840 : Nat,
            ∃ k841 : Nat,
            (e151 = Ending.returned (Value.slice p302 k840 k841)) ∧
            (Keep ([k837, k771, k3, k2, k1]) w628 w629) ∧
            ∀ k842 : Nat,
            (w629.heap.size ≤ k842) →
            ∀ w630 : World,
            (Locl ([k842, k837, k771, k3, k2, k1]) w629 w630) →
            appVC (w630) ([(27, k842, [Value.int IntKind.i64 77]), (7, k837, [Value.int IntKind.i64 0, Value.int IntKind.i64 0, Value.slice none 0 0]), (8, k771, [Value.int IntKind.i64 0, Value.int IntKind.i64 0, Value.slice none 0 0]), (5, k3, [Value.int IntKind.i64 x3, Value.int IntKind.i64 x4, Value.slice sa3 sl3 sc3]), (4, k2, [Value.int IntKind.i64 x1, Value.int IntKind.i64 x2, Value.slice sa2 sl2 sc2]), (3, k1, [Value.string st1, Value.slice sa1 sl1 sc1])]) (p302) (k840) (k841) (1) (1) (8) (3) ([Value.int IntKind.i64 0]) ([Value.int IntKind.i64 77]) fun p303 k843 k844 w631 =>
            ∀ w632 : World,
            (Locl ([k842, k837, k771, k3, k2, k1]) w631 w632) →
            I1 [Value.slice p303 k843 k844, Value.pointer (some { block := k837, off := 0 }), Value.int IntKind.i64 n99, Value.int IntKind.i64 n100, Value.slice p277 k772 k773, Value.pointer (some { block := k771, off := 0 }), Value.int IntKind.i64 n107, Value.int IntKind.i64 n108, Value.slice p301 k838 k839] w632) ∧
          ∀ k845 : Nat,
          (w628.heap.size ≤ k845) →
          ∀ w633 : World,
          (Locl ([k845, k837, k771, k3, k2, k1]) w628 w633) →
          Calls P F.law23_ints #[Value.slice sa1 sl1 sc1] w633 fun e152 w634 =>
          ∃ p304 : Option Addr,
          ∃ k846 : Nat,
          ∃ k847 : Nat,
          (e152 = Ending.returned (Value.slice p304 k846 k847)) ∧
          (Keep ([k845, k837, k771, k3, k2, k1]) w633 w634) ∧
          appVC (w634) ([(27, k845, [Value.int IntKind.i64 77]), (7, k837, [Value.int IntKind.i64 0, Value.int IntKind.i64 0, Value.slice none 0 0]), (8, k771, [Value.int IntKind.i64 0, Value.int IntKind.i64 0, Value.slice none 0 0]), (5, k3, [Value.int IntKind.i64 x3, Value.int IntKind.i64 x4, Value.slice sa3 sl3 sc3]), (4, k2, [Value.int IntKind.i64 x1, Value.int IntKind.i64 x2, Value.slice sa2 sl2 sc2]), (3, k1, [Value.string st1, Value.slice sa1 sl1 sc1])]) (p304) (k846) (k847) (1) (1) (8) (3) ([Value.int IntKind.i64 0]) ([Value.int IntKind.i64 77]) fun p305 k848 k849 w635 =>
          ∀ w636 : World,
          (Locl ([k845, k837, k771, k3, k2, k1]) w635 w636) →
          I1 [Value.slice p305 k848 k849, Value.pointer (some { block := k837, off := 0 }), Value.int IntKind.i64 n99, Value.int IntKind.i64 n100, Value.slice p277 k772 k773, Value.pointer (some { block := k771, off := 0 }), Value.int IntKind.i64 n107, Value.int IntKind.i64 n108, Value.slice p301 k838 k839] w636) ∧
        ∀ k850 : Nat,
        (w578.heap.size ≤ k850) →
        ∀ w637 : World,
        (Locl ([k850, k837, k771, k3, k2, k1]) w578 w637) →
        Calls P F.law23_own #[Value.agg #[Value.int IntKind.i64 x3, Value.int IntKind.i64 x4, Value.slice sa3 sl3 sc3]] w637 fun e153 w638 =>
        ∃ n109 : Int,
        ∃ n110 : Int,
        ∃ p306 : Option Addr,
        ∃ k851 : Nat,
        ∃ k852 : Nat,
        (e153 = Ending.returned (Value.agg #[Value.int IntKind.i64 n109, Value.int IntKind.i64 n110, Value.slice p306 k851 k852])) ∧
        (Keep ([k850, k837, k771, k3, k2, k1]) w637 w638) ∧
        (Keeps w637 w638) ∧
        Calls P F.law23_ints #[Value.slice sa1 sl1 sc1] w638 fun e154 w639 =>
        ∃ p307 : Option Addr,
        ∃ k853 : Nat,
        ∃ k854 : Nat,
        (e154 = Ending.returned (Value.slice p307 k853 k854)) ∧
        (Keep ([k850, k837, k771, k3, k2, k1]) w638 w639) ∧
        appVC (w639) ([(27, k850, [Value.int IntKind.i64 77]), (7, k837, [Value.int IntKind.i64 0, Value.int IntKind.i64 0, Value.slice none 0 0]), (8, k771, [Value.int IntKind.i64 0, Value.int IntKind.i64 0, Value.slice none 0 0]), (5, k3, [Value.int IntKind.i64 x3, Value.int IntKind.i64 x4, Value.slice sa3 sl3 sc3]), (4, k2, [Value.int IntKind.i64 x1, Value.int IntKind.i64 x2, Value.slice sa2 sl2 sc2]), (3, k1, [Value.string st1, Value.slice sa1 sl1 sc1])]) (p307) (k853) (k854) (1) (1) (8) (3) ([Value.int IntKind.i64 0]) ([Value.int IntKind.i64 77]) fun p308 k855 k856 w640 =>
        ∀ w641 : World,
        (Locl ([k850, k837, k771, k3, k2, k1]) w640 w641) →
        I1 [Value.slice p308 k855 k856, Value.pointer (some { block := k837, off := 0 }), Value.int IntKind.i64 n99, Value.int IntKind.i64 n100, Value.slice p277 k772 k773, Value.pointer (some { block := k771, off := 0 }), Value.int IntKind.i64 n109, Value.int IntKind.i64 n110, Value.slice p306 k851 k852] w641) ∧
      (∀ k857 : Nat,
        (w2.drew.heap.size ≤ k857) →
        (∀ w642 : World,
          (Locl ([k857, k771, k3, k2, k1]) (w2.drew) w642) →
          Calls P F.law23_own #[Value.agg #[Value.int IntKind.i64 x1, Value.int IntKind.i64 x2, Value.slice sa2 sl2 sc2]] w642 fun e155 w643 =>
          ∃ n111 : Int,
          ∃ n112 : Int,
          ∃ p309 : Option Addr,
          ∃ k858 : Nat,
          ∃ k859 : Nat,
          (e155 = Ending.returned (Value.agg #[Value.int IntKind.i64 n111, Value.int IntKind.i64 n112, Value.slice p309 k858 k859])) ∧
          (Keep ([k857, k771, k3, k2, k1]) w642 w643) ∧
          (Keeps w642 w643) ∧
          (Calls P F.law23_own #[Value.agg #[Value.int IntKind.i64 x3, Value.int IntKind.i64 x4, Value.slice sa3 sl3 sc3]] w643 fun e156 w644 =>
            ∃ n113 : Int,
            ∃ n114 : Int,
            ∃ p310 : Option Addr,
            ∃ k860 : Nat,
            ∃ k861 : Nat,
            (e156 = Ending.returned (Value.agg #[Value.int IntKind.i64 n113, Value.int IntKind.i64 n114, Value.slice p310 k860 k861])) ∧
            (Keep ([k857, k771, k3, k2, k1]) w643 w644) ∧
            (Keeps w643 w644) ∧
            (Calls P F.law23_ints #[Value.slice sa1 sl1 sc1] w644 fun e157 w645 =>
              ∃ p311 : Option Addr,
              ∃ k862 : Nat,
              ∃ k863 : Nat,
              (e157 = Ending.returned (Value.slice p311 k862 k863)) ∧
              (Keep ([k857, k771, k3, k2, k1]) w644 w645) ∧
              (appVC (w645) ([(27, k857, [Value.int IntKind.i64 77]), (8, k771, [Value.int IntKind.i64 0, Value.int IntKind.i64 0, Value.slice none 0 0]), (5, k3, [Value.int IntKind.i64 x3, Value.int IntKind.i64 x4, Value.slice sa3 sl3 sc3]), (4, k2, [Value.int IntKind.i64 x1, Value.int IntKind.i64 x2, Value.slice sa2 sl2 sc2]), (3, k1, [Value.string st1, Value.slice sa1 sl1 sc1])]) (p311) (k862) (k863) (1) (1) (8) (3) ([Value.int IntKind.i64 0]) ([Value.int IntKind.i64 77]) fun p312 k864 k865 w646 =>
                ∀ k866 : Nat,
                (w646.heap.size ≤ k866) →
                ∀ w647 : World,
                (Locl ([k866, k857, k771, k3, k2, k1]) w646 w647) →
                I1 [Value.slice p312 k864 k865, Value.pointer (some { block := k866, off := 0 }), Value.int IntKind.i64 n111, Value.int IntKind.i64 n112, Value.slice p309 k858 k859, Value.pointer (some { block := k771, off := 0 }), Value.int IntKind.i64 n113, Value.int IntKind.i64 n114, Value.slice p310 k860 k861] w647) ∧
              ∀ k867 : Nat,
              (w645.heap.size ≤ k867) →
              ∀ w648 : World,
              (Locl ([k867, k857, k771, k3, k2, k1]) w645 w648) →
              appVC (w648) ([(7, k867, [Value.int IntKind.i64 0, Value.int IntKind.i64 0, Value.slice none 0 0]), (27, k857, [Value.int IntKind.i64 77]), (8, k771, [Value.int IntKind.i64 0, Value.int IntKind.i64 0, Value.slice none 0 0]), (5, k3, [Value.int IntKind.i64 x3, Value.int IntKind.i64 x4, Value.slice sa3 sl3 sc3]), (4, k2, [Value.int IntKind.i64 x1, Value.int IntKind.i64 x2, Value.slice sa2 sl2 sc2]), (3, k1, [Value.string st1, Value.slice sa1 sl1 sc1])]) (p311) (k862) (k863) (1) (1) (8) (3) ([Value.int IntKind.i64 0]) ([Value.int IntKind.i64 77]) fun p313 k868 k869 w649 =>
              ∀ w650 : World,
              (Locl ([k867, k857, k771, k3, k2, k1]) w649 w650) →
              I1 [Value.slice p313 k868 k869, Value.pointer (some { block := k867, off := 0 }), Value.int IntKind.i64 n111, Value.int IntKind.i64 n112, Value.slice p309 k858 k859, Value.pointer (some { block := k771, off := 0 }), Value.int IntKind.i64 n113, Value.int IntKind.i64 n114, Value.slice p310 k860 k861] w650) ∧
            ∀ k870 : Nat,
            (w644.heap.size ≤ k870) →
            ∀ w651 : World,
            (Locl ([k870, k857, k771, k3, k2, k1]) w644 w651) →
            Calls P F.law23_ints #[Value.slice sa1 sl1 sc1] w651 fun e158 w652 =>
            ∃ p314 : Option Addr,
            ∃ k871 : Nat,
            ∃ k872 : Nat,
            (e158 = Ending.returned (Value.slice p314 k871 k872)) ∧
            (Keep ([k870, k857, k771, k3, k2, k1]) w651 w652) ∧
            appVC (w652) ([(7, k870, [Value.int IntKind.i64 0, Value.int IntKind.i64 0, Value.slice none 0 0]), (27, k857, [Value.int IntKind.i64 77]), (8, k771, [Value.int IntKind.i64 0, Value.int IntKind.i64 0, Value.slice none 0 0]), (5, k3, [Value.int IntKind.i64 x3, Value.int IntKind.i64 x4, Value.slice sa3 sl3 sc3]), (4, k2, [Value.int IntKind.i64 x1, Value.int IntKind.i64 x2, Value.slice sa2 sl2 sc2]), (3, k1, [Value.string st1, Value.slice sa1 sl1 sc1])]) (p314) (k871) (k872) (1) (1) (8) (3) ([Value.int IntKind.i64 0]) ([Value.int IntKind.i64 77]) fun p315 k873 k874 w653 =>
            ∀ w654 : World,
            (Locl ([k870, k857, k771, k3, k2, k1]) w653 w654) →
            I1 [Value.slice p315 k873 k874, Value.pointer (some { block := k870, off := 0 }), Value.int IntKind.i64 n111, Value.int IntKind.i64 n112, Value.slice p309 k858 k859, Value.pointer (some { block := k771, off := 0 }), Value.int IntKind.i64 n113, Value.int IntKind.i64 n114, Value.slice p310 k860 k861] w654) ∧
          ∀ k875 : Nat,
          (w643.heap.size ≤ k875) →
          ∀ w655 : World,
          (Locl ([k875, k857, k771, k3, k2, k1]) w643 w655) →
          Calls P F.law23_own #[Value.agg #[Value.int IntKind.i64 x3, Value.int IntKind.i64 x4, Value.slice sa3 sl3 sc3]] w655 fun e159 w656 =>
          ∃ n115 : Int,
          ∃ n116 : Int,
          ∃ p316 : Option Addr,
          ∃ k876 : Nat,
          ∃ k877 : Nat,
          (e159 = Ending.returned (Value.agg #[Value.int IntKind.i64 n115, Value.int IntKind.i64 n116, Value.slice p316 k876 k877])) ∧
          (Keep ([k875, k857, k771, k3, k2, k1]) w655 w656) ∧
          (Keeps w655 w656) ∧
          Calls P F.law23_ints #[Value.slice sa1 sl1 sc1] w656 fun e160 w657 =>
          ∃ p317 : Option Addr,
          ∃ k878 : Nat,
          ∃ k879 : Nat,
          (e160 = Ending.returned (Value.slice p317 k878 k879)) ∧
          (Keep ([k875, k857, k771, k3, k2, k1]) w656 w657) ∧
          appVC (w657) ([(7, k875, [Value.int IntKind.i64 0, Value.int IntKind.i64 0, Value.slice none 0 0]), (27, k857, [Value.int IntKind.i64 77]), (8, k771, [Value.int IntKind.i64 0, Value.int IntKind.i64 0, Value.slice none 0 0]), (5, k3, [Value.int IntKind.i64 x3, Value.int IntKind.i64 x4, Value.slice sa3 sl3 sc3]), (4, k2, [Value.int IntKind.i64 x1, Value.int IntKind.i64 x2, Value.slice sa2 sl2 sc2]), (3, k1, [Value.string st1, Value.slice sa1 sl1 sc1])]) (p317) (k878) (k879) (1) (1) (8) (3) ([Value.int IntKind.i64 0]) ([Value.int IntKind.i64 77]) fun p318 k880 k881 w658 =>
          ∀ w659 : World,
          (Locl ([k875, k857, k771, k3, k2, k1]) w658 w659) →
          I1 [Value.slice p318 k880 k881, Value.pointer (some { block := k875, off := 0 }), Value.int IntKind.i64 n111, Value.int IntKind.i64 n112, Value.slice p309 k858 k859, Value.pointer (some { block := k771, off := 0 }), Value.int IntKind.i64 n115, Value.int IntKind.i64 n116, Value.slice p316 k876 k877] w659) ∧
        ∀ k882 : Nat,
        (w2.drew.heap.size ≤ k882) →
        ∀ w660 : World,
        (Locl ([k882, k857, k771, k3, k2, k1]) (w2.drew) w660) →
        Calls P F.law23_own #[Value.agg #[Value.int IntKind.i64 x1, Value.int IntKind.i64 x2, Value.slice sa2 sl2 sc2]] w660 fun e161 w661 =>
        ∃ n117 : Int,
        ∃ n118 : Int,
        ∃ p319 : Option Addr,
        ∃ k883 : Nat,
        ∃ k884 : Nat,
        (e161 = Ending.returned (Value.agg #[Value.int IntKind.i64 n117, Value.int IntKind.i64 n118, Value.slice p319 k883 k884])) ∧
        (Keep ([k882, k857, k771, k3, k2, k1]) w660 w661) ∧
        (Keeps w660 w661) ∧
        Calls P F.law23_own #[Value.agg #[Value.int IntKind.i64 x3, Value.int IntKind.i64 x4, Value.slice sa3 sl3 sc3]] w661 fun e162 w662 =>
        ∃ n119 : Int,
        ∃ n120 : Int,
        ∃ p320 : Option Addr,
        ∃ k885 : Nat,
        ∃ k886 : Nat,
        (e162 = Ending.returned (Value.agg #[Value.int IntKind.i64 n119, Value.int IntKind.i64 n120, Value.slice p320 k885 k886])) ∧
        (Keep ([k882, k857, k771, k3, k2, k1]) w661 w662) ∧
        (Keeps w661 w662) ∧
        Calls P F.law23_ints #[Value.slice sa1 sl1 sc1] w662 fun e163 w663 =>
        ∃ p321 : Option Addr,
        ∃ k887 : Nat,
        ∃ k888 : Nat,
        (e163 = Ending.returned (Value.slice p321 k887 k888)) ∧
        (Keep ([k882, k857, k771, k3, k2, k1]) w662 w663) ∧
        appVC (w663) ([(7, k882, [Value.int IntKind.i64 0, Value.int IntKind.i64 0, Value.slice none 0 0]), (27, k857, [Value.int IntKind.i64 77]), (8, k771, [Value.int IntKind.i64 0, Value.int IntKind.i64 0, Value.slice none 0 0]), (5, k3, [Value.int IntKind.i64 x3, Value.int IntKind.i64 x4, Value.slice sa3 sl3 sc3]), (4, k2, [Value.int IntKind.i64 x1, Value.int IntKind.i64 x2, Value.slice sa2 sl2 sc2]), (3, k1, [Value.string st1, Value.slice sa1 sl1 sc1])]) (p321) (k887) (k888) (1) (1) (8) (3) ([Value.int IntKind.i64 0]) ([Value.int IntKind.i64 77]) fun p322 k889 k890 w664 =>
        ∀ w665 : World,
        (Locl ([k882, k857, k771, k3, k2, k1]) w664 w665) →
        I1 [Value.slice p322 k889 k890, Value.pointer (some { block := k882, off := 0 }), Value.int IntKind.i64 n117, Value.int IntKind.i64 n118, Value.slice p319 k883 k884, Value.pointer (some { block := k771, off := 0 }), Value.int IntKind.i64 n119, Value.int IntKind.i64 n120, Value.slice p320 k885 k886] w665) ∧
      ∀ k891 : Nat,
      (w2.drew.heap.size ≤ k891) →
      (∀ w666 : World,
        (Locl ([k891, k771, k3, k2, k1]) (w2.drew) w666) →
        Calls P F.law23_own #[Value.agg #[Value.int IntKind.i64 x1, Value.int IntKind.i64 x2, Value.slice sa2 sl2 sc2]] w666 fun e164 w667 =>
        ∃ n121 : Int,
        ∃ n122 : Int,
        ∃ p323 : Option Addr,
        ∃ k892 : Nat,
        ∃ k893 : Nat,
        (e164 = Ending.returned (Value.agg #[Value.int IntKind.i64 n121, Value.int IntKind.i64 n122, Value.slice p323 k892 k893])) ∧
        (Keep ([k891, k771, k3, k2, k1]) w666 w667) ∧
        (Keeps w666 w667) ∧
        (Calls P F.law23_own #[Value.agg #[Value.int IntKind.i64 x3, Value.int IntKind.i64 x4, Value.slice sa3 sl3 sc3]] w667 fun e165 w668 =>
          ∃ n123 : Int,
          ∃ n124 : Int,
          ∃ p324 : Option Addr,
          ∃ k894 : Nat,
          ∃ k895 : Nat,
          (e165 = Ending.returned (Value.agg #[Value.int IntKind.i64 n123, Value.int IntKind.i64 n124, Value.slice p324 k894 k895])) ∧
          (Keep ([k891, k771, k3, k2, k1]) w667 w668) ∧
          (Keeps w667 w668) ∧
          (Calls P F.law23_ints #[Value.slice sa1 sl1 sc1] w668 fun e166 w669 =>
            ∃ p325 : Option Addr,
            ∃ k896 : Nat,
            ∃ k897 : Nat,
            (e166 = Ending.returned (Value.slice p325 k896 k897)) ∧
            (Keep ([k891, k771, k3, k2, k1]) w668 w669) ∧
            ∀ k898 : Nat,
            (w669.heap.size ≤ k898) →
            ∀ w670 : World,
            (Locl ([k898, k891, k771, k3, k2, k1]) w669 w670) →
            appVC (w670) ([(27, k898, [Value.int IntKind.i64 77]), (7, k891, [Value.int IntKind.i64 0, Value.int IntKind.i64 0, Value.slice none 0 0]), (8, k771, [Value.int IntKind.i64 0, Value.int IntKind.i64 0, Value.slice none 0 0]), (5, k3, [Value.int IntKind.i64 x3, Value.int IntKind.i64 x4, Value.slice sa3 sl3 sc3]), (4, k2, [Value.int IntKind.i64 x1, Value.int IntKind.i64 x2, Value.slice sa2 sl2 sc2]), (3, k1, [Value.string st1, Value.slice sa1 sl1 sc1])]) (p325) (k896) (k897) (1) (1) (8) (3) ([Value.int IntKind.i64 0]) ([Value.int IntKind.i64 77]) fun p326 k899 k900 w671 =>
            ∀ w672 : World,
            (Locl ([k898, k891, k771, k3, k2, k1]) w671 w672) →
            I1 [Value.slice p326 k899 k900, Value.pointer (some { block := k891, off := 0 }), Value.int IntKind.i64 n121, Value.int IntKind.i64 n122, Value.slice p323 k892 k893, Value.pointer (some { block := k771, off := 0 }), Value.int IntKind.i64 n123, Value.int IntKind.i64 n124, Value.slice p324 k894 k895] w672) ∧
          ∀ k901 : Nat,
          (w668.heap.size ≤ k901) →
          ∀ w673 : World,
          (Locl ([k901, k891, k771, k3, k2, k1]) w668 w673) →
          Calls P F.law23_ints #[Value.slice sa1 sl1 sc1] w673 fun e167 w674 =>
          ∃ p327 : Option Addr,
          ∃ k902 : Nat,
          ∃ k903 : Nat,
          (e167 = Ending.returned (Value.slice p327 k902 k903)) ∧
          (Keep ([k901, k891, k771, k3, k2, k1]) w673 w674) ∧
          appVC (w674) ([(27, k901, [Value.int IntKind.i64 77]), (7, k891, [Value.int IntKind.i64 0, Value.int IntKind.i64 0, Value.slice none 0 0]), (8, k771, [Value.int IntKind.i64 0, Value.int IntKind.i64 0, Value.slice none 0 0]), (5, k3, [Value.int IntKind.i64 x3, Value.int IntKind.i64 x4, Value.slice sa3 sl3 sc3]), (4, k2, [Value.int IntKind.i64 x1, Value.int IntKind.i64 x2, Value.slice sa2 sl2 sc2]), (3, k1, [Value.string st1, Value.slice sa1 sl1 sc1])]) (p327) (k902) (k903) (1) (1) (8) (3) ([Value.int IntKind.i64 0]) ([Value.int IntKind.i64 77]) fun p328 k904 k905 w675 =>
          ∀ w676 : World,
          (Locl ([k901, k891, k771, k3, k2, k1]) w675 w676) →
          I1 [Value.slice p328 k904 k905, Value.pointer (some { block := k891, off := 0 }), Value.int IntKind.i64 n121, Value.int IntKind.i64 n122, Value.slice p323 k892 k893, Value.pointer (some { block := k771, off := 0 }), Value.int IntKind.i64 n123, Value.int IntKind.i64 n124, Value.slice p324 k894 k895] w676) ∧
        ∀ k906 : Nat,
        (w667.heap.size ≤ k906) →
        ∀ w677 : World,
        (Locl ([k906, k891, k771, k3, k2, k1]) w667 w677) →
        Calls P F.law23_own #[Value.agg #[Value.int IntKind.i64 x3, Value.int IntKind.i64 x4, Value.slice sa3 sl3 sc3]] w677 fun e168 w678 =>
        ∃ n125 : Int,
        ∃ n126 : Int,
        ∃ p329 : Option Addr,
        ∃ k907 : Nat,
        ∃ k908 : Nat,
        (e168 = Ending.returned (Value.agg #[Value.int IntKind.i64 n125, Value.int IntKind.i64 n126, Value.slice p329 k907 k908])) ∧
        (Keep ([k906, k891, k771, k3, k2, k1]) w677 w678) ∧
        (Keeps w677 w678) ∧
        Calls P F.law23_ints #[Value.slice sa1 sl1 sc1] w678 fun e169 w679 =>
        ∃ p330 : Option Addr,
        ∃ k909 : Nat,
        ∃ k910 : Nat,
        (e169 = Ending.returned (Value.slice p330 k909 k910)) ∧
        (Keep ([k906, k891, k771, k3, k2, k1]) w678 w679) ∧
        appVC (w679) ([(27, k906, [Value.int IntKind.i64 77]), (7, k891, [Value.int IntKind.i64 0, Value.int IntKind.i64 0, Value.slice none 0 0]), (8, k771, [Value.int IntKind.i64 0, Value.int IntKind.i64 0, Value.slice none 0 0]), (5, k3, [Value.int IntKind.i64 x3, Value.int IntKind.i64 x4, Value.slice sa3 sl3 sc3]), (4, k2, [Value.int IntKind.i64 x1, Value.int IntKind.i64 x2, Value.slice sa2 sl2 sc2]), (3, k1, [Value.string st1, Value.slice sa1 sl1 sc1])]) (p330) (k909) (k910) (1) (1) (8) (3) ([Value.int IntKind.i64 0]) ([Value.int IntKind.i64 77]) fun p331 k911 k912 w680 =>
        ∀ w681 : World,
        (Locl ([k906, k891, k771, k3, k2, k1]) w680 w681) →
        I1 [Value.slice p331 k911 k912, Value.pointer (some { block := k891, off := 0 }), Value.int IntKind.i64 n121, Value.int IntKind.i64 n122, Value.slice p323 k892 k893, Value.pointer (some { block := k771, off := 0 }), Value.int IntKind.i64 n125, Value.int IntKind.i64 n126, Value.slice p329 k907 k908] w681) ∧
      ∀ k913 : Nat,
      (w2.drew.heap.size ≤ k913) →
      ∀ w682 : World,
      (Locl ([k913, k891, k771, k3, k2, k1]) (w2.drew) w682) →
      Calls P F.law23_own #[Value.agg #[Value.int IntKind.i64 x1, Value.int IntKind.i64 x2, Value.slice sa2 sl2 sc2]] w682 fun e170 w683 =>
      ∃ n127 : Int,
      ∃ n128 : Int,
      ∃ p332 : Option Addr,
      ∃ k914 : Nat,
      ∃ k915 : Nat,
      (e170 = Ending.returned (Value.agg #[Value.int IntKind.i64 n127, Value.int IntKind.i64 n128, Value.slice p332 k914 k915])) ∧
      (Keep ([k913, k891, k771, k3, k2, k1]) w682 w683) ∧
      (Keeps w682 w683) ∧
      Calls P F.law23_own #[Value.agg #[Value.int IntKind.i64 x3, Value.int IntKind.i64 x4, Value.slice sa3 sl3 sc3]] w683 fun e171 w684 =>
      ∃ n129 : Int,
      ∃ n130 : Int,
      ∃ p333 : Option Addr,
      ∃ k916 : Nat,
      ∃ k917 : Nat,
      (e171 = Ending.returned (Value.agg #[Value.int IntKind.i64 n129, Value.int IntKind.i64 n130, Value.slice p333 k916 k917])) ∧
      (Keep ([k913, k891, k771, k3, k2, k1]) w683 w684) ∧
      (Keeps w683 w684) ∧
      Calls P F.law23_ints #[Value.slice sa1 sl1 sc1] w684 fun e172 w685 =>
      ∃ p334 : Option Addr,
      ∃ k918 : Nat,
      ∃ k919 : Nat,
      (e172 = Ending.returned (Value.slice p334 k918 k919)) ∧
      (Keep ([k913, k891, k771, k3, k2, k1]) w684 w685) ∧
      appVC (w685) ([(27, k913, [Value.int IntKind.i64 77]), (7, k891, [Value.int IntKind.i64 0, Value.int IntKind.i64 0, Value.slice none 0 0]), (8, k771, [Value.int IntKind.i64 0, Value.int IntKind.i64 0, Value.slice none 0 0]), (5, k3, [Value.int IntKind.i64 x3, Value.int IntKind.i64 x4, Value.slice sa3 sl3 sc3]), (4, k2, [Value.int IntKind.i64 x1, Value.int IntKind.i64 x2, Value.slice sa2 sl2 sc2]), (3, k1, [Value.string st1, Value.slice sa1 sl1 sc1])]) (p334) (k918) (k919) (1) (1) (8) (3) ([Value.int IntKind.i64 0]) ([Value.int IntKind.i64 77]) fun p335 k920 k921 w686 =>
      ∀ w687 : World,
      (Locl ([k913, k891, k771, k3, k2, k1]) w686 w687) →
      I1 [Value.slice p335 k920 k921, Value.pointer (some { block := k891, off := 0 }), Value.int IntKind.i64 n127, Value.int IntKind.i64 n128, Value.slice p332 k914 k915, Value.pointer (some { block := k771, off := 0 }), Value.int IntKind.i64 n129, Value.int IntKind.i64 n130, Value.slice p333 k916 k917] w687) ∧
    ∀ p336 : Option Addr,
    ∀ k922 : Nat,
    ∀ k923 : Nat,
    ∀ k924 : Nat,
    ∀ n131 : Int,
    ∀ n132 : Int,
    ∀ p337 : Option Addr,
    ∀ k925 : Nat,
    ∀ k926 : Nat,
    ∀ k927 : Nat,
    ∀ n133 : Int,
    ∀ n134 : Int,
    ∀ p338 : Option Addr,
    ∀ k928 : Nat,
    ∀ k929 : Nat,
    ∀ w688 : World,
    (I1 [Value.slice p336 k922 k923, Value.pointer (some { block := k924, off := 0 }), Value.int IntKind.i64 n131, Value.int IntKind.i64 n132, Value.slice p337 k925 k926, Value.pointer (some { block := k927, off := 0 }), Value.int IntKind.i64 n133, Value.int IntKind.i64 n134, Value.slice p338 k928 k929] w688) →
    ∃ I2 : List Value → World → Prop,
    (slcc (p336) (k923) (0) ((↑sl1 : Int)) (1) fun p339 k930 k931 =>
      (Calls P F.blend_Apply #[Value.string st1, Value.slice p339 k930 k931, Value.agg #[Value.int IntKind.i64 n131, Value.int IntKind.i64 n132, Value.slice p337 k925 k926], Value.agg #[Value.int IntKind.i64 n133, Value.int IntKind.i64 n134, Value.slice p338 k928 k929]] (w688.drew) fun e173 w689 =>
        ∃ n135 : Int,
        ∃ n136 : Int,
        ∃ p340 : Option Addr,
        ∃ k932 : Nat,
        ∃ k933 : Nat,
        ∃ n137 : Int,
        (e173 = Ending.returned (Value.tuple #[Value.agg #[Value.int IntKind.i64 n135, Value.int IntKind.i64 n136, Value.slice p340 k932 k933], Value.int IntKind.i64 n137])) ∧
        (Keep ([k927, k924, k3, k2, k1]) (w688.drew) w689) ∧
        ∀ k934 : Nat,
        (w689.heap.size ≤ k934) →
        ∀ w690 : World,
        (Locl ([k934, k927, k924, k3, k2, k1]) w689 w690) →
        I2 [Value.pointer (some { block := k934, off := 0 }), Value.int IntKind.i64 n135, Value.int IntKind.i64 n136, Value.slice p340 k932 k933] w690) ∧
      ∀ k935 : Nat,
      (w688.drew.heap.size ≤ k935) →
      ∀ w691 : World,
      (Locl ([k935, k927, k924, k3, k2, k1]) (w688.drew) w691) →
      Calls P F.blend_Apply #[Value.string st1, Value.slice p339 k930 k931, Value.agg #[Value.int IntKind.i64 n131, Value.int IntKind.i64 n132, Value.slice p337 k925 k926], Value.agg #[Value.int IntKind.i64 n133, Value.int IntKind.i64 n134, Value.slice p338 k928 k929]] w691 fun e174 w692 =>
      ∃ n138 : Int,
      ∃ n139 : Int,
      ∃ p341 : Option Addr,
      ∃ k936 : Nat,
      ∃ k937 : Nat,
      ∃ n140 : Int,
      (e174 = Ending.returned (Value.tuple #[Value.agg #[Value.int IntKind.i64 n138, Value.int IntKind.i64 n139, Value.slice p341 k936 k937], Value.int IntKind.i64 n140])) ∧
      (Keep ([k935, k927, k924, k3, k2, k1]) w691 w692) ∧
      ∀ w693 : World,
      (Locl ([k935, k927, k924, k3, k2, k1]) w692 w693) →
      I2 [Value.pointer (some { block := k935, off := 0 }), Value.int IntKind.i64 n138, Value.int IntKind.i64 n139, Value.slice p341 k936 k937] w693) ∧
    ∀ k938 : Nat,
    ∀ n141 : Int,
    ∀ n142 : Int,
    ∀ p342 : Option Addr,
    ∀ k939 : Nat,
    ∀ k940 : Nat,
    ∀ w694 : World,
    (I2 [Value.pointer (some { block := k938, off := 0 }), Value.int IntKind.i64 n141, Value.int IntKind.i64 n142, Value.slice p342 k939 k940] w694) →
    ∃ I3 : List Value → World → Prop,
    (slcc (p336) (k923) (0) ((↑sl1 : Int)) (1) fun p343 k941 k942 =>
      (Calls P F.blend_Apply #[Value.string st1, Value.slice p343 k941 k942, Value.agg #[Value.int IntKind.i64 n131, Value.int IntKind.i64 n132, Value.slice p337 k925 k926], Value.agg #[Value.int IntKind.i64 n133, Value.int IntKind.i64 n134, Value.slice p338 k928 k929]] (w694.drew) fun e175 w695 =>
        ∃ n143 : Int,
        ∃ n144 : Int,
        ∃ p344 : Option Addr,
        ∃ k943 : Nat,
        ∃ k944 : Nat,
        ∃ n145 : Int,
        (e175 = Ending.returned (Value.tuple #[Value.agg #[Value.int IntKind.i64 n143, Value.int IntKind.i64 n144, Value.slice p344 k943 k944], Value.int IntKind.i64 n145])) ∧
        (Keep ([k938, k927, k924, k3, k2, k1]) (w694.drew) w695) ∧
        ∀ k945 : Nat,
        (w695.heap.size ≤ k945) →
        ∀ w696 : World,
        (Locl ([k945, k938, k927, k924, k3, k2, k1]) w695 w696) →
        I3 [Value.pointer (some { block := k945, off := 0 }), Value.int IntKind.i64 n143, Value.int IntKind.i64 n144, Value.slice p344 k943 k944] w696) ∧
      ∀ k946 : Nat,
      (w694.drew.heap.size ≤ k946) →
      ∀ w697 : World,
      (Locl ([k946, k938, k927, k924, k3, k2, k1]) (w694.drew) w697) →
      Calls P F.blend_Apply #[Value.string st1, Value.slice p343 k941 k942, Value.agg #[Value.int IntKind.i64 n131, Value.int IntKind.i64 n132, Value.slice p337 k925 k926], Value.agg #[Value.int IntKind.i64 n133, Value.int IntKind.i64 n134, Value.slice p338 k928 k929]] w697 fun e176 w698 =>
      ∃ n146 : Int,
      ∃ n147 : Int,
      ∃ p345 : Option Addr,
      ∃ k947 : Nat,
      ∃ k948 : Nat,
      ∃ n148 : Int,
      (e176 = Ending.returned (Value.tuple #[Value.agg #[Value.int IntKind.i64 n146, Value.int IntKind.i64 n147, Value.slice p345 k947 k948], Value.int IntKind.i64 n148])) ∧
      (Keep ([k946, k938, k927, k924, k3, k2, k1]) w697 w698) ∧
      ∀ w699 : World,
      (Locl ([k946, k938, k927, k924, k3, k2, k1]) w698 w699) →
      I3 [Value.pointer (some { block := k946, off := 0 }), Value.int IntKind.i64 n146, Value.int IntKind.i64 n147, Value.slice p345 k947 k948] w699) ∧
    ∀ k949 : Nat,
    ∀ n149 : Int,
    ∀ n150 : Int,
    ∀ p346 : Option Addr,
    ∀ k950 : Nat,
    ∀ k951 : Nat,
    ∀ w700 : World,
    (I3 [Value.pointer (some { block := k949, off := 0 }), Value.int IntKind.i64 n149, Value.int IntKind.i64 n150, Value.slice p346 k950 k951] w700) →
    ∃ I4 : List Value → World → Prop,
    ∃ m1 : List Value → World → Nat,
    (I4 [Value.int IntKind.i64 0] w700) ∧
    ∀ n151 : Int,
    ∀ w701 : World,
    (I4 [Value.int IntKind.i64 n151] w701) →
    brB (decide (n151 < (↑k939 : Int)))
      (idx (p342) (k939) (n151) (1) fun a1 =>
      ∃ n152 : Int,
      (w701.drew.cell? a1 = some (Value.int IntKind.u16 n152)) ∧
      idx (p342) (k939) (n151) (1) fun a2 =>
      (∃ v1 : Value,
        w701.drew.cell? a2 = some v1) ∧
      (w701.drew.frozen? a2 = false) ∧
      (¬a2.block ∈ [k949, k938, k927, k924, k3, k2, k1]) ∧
      (I4 [Value.int IntKind.i64 (IntKind.i64.wrap (n151 + 1))] (setCells w701.drew a2 [Value.int IntKind.u16 (IntKind.u16.wrap (n152 + 1))] 0)) ∧
      m1 [Value.int IntKind.i64 (IntKind.i64.wrap (n151 + 1))] (setCells w701.drew a2 [Value.int IntKind.u16 (IntKind.u16.wrap (n152 + 1))] 0) < m1 [Value.int IntKind.i64 n151] w701)
      (Calls P F.ref23_Apply #[Value.string st1, Value.slice sa1 sl1 sc1, Value.agg #[Value.int IntKind.i64 x1, Value.int IntKind.i64 x2, Value.slice sa2 sl2 sc2], Value.agg #[Value.int IntKind.i64 x3, Value.int IntKind.i64 x4, Value.slice sa3 sl3 sc3]] w701 fun e177 w702 =>
      ∃ n153 : Int,
      ∃ n154 : Int,
      ∃ p347 : Option Addr,
      ∃ k952 : Nat,
      ∃ k953 : Nat,
      ∃ n155 : Int,
      (e177 = Ending.returned (Value.tuple #[Value.agg #[Value.int IntKind.i64 n153, Value.int IntKind.i64 n154, Value.slice p347 k952 k953], Value.int IntKind.i64 n155])) ∧
      (Keep ([k949, k938, k927, k924, k3, k2, k1]) w701 w702) ∧
      ∀ k954 : Nat,
      (w702.heap.size ≤ k954) →
      idx (p336) (k922) ((↑sl1 : Int)) (1) fun a3 =>
      ∀ w703 : World,
      (Locl ([k954, k949, k938, k927, k924, k3, k2, k1]) w702 w703) →
      ∃ n156 : Int,
      (w703.cell? a3 = some (Value.int IntKind.i64 n156)) ∧
      brB (n156 != 77)
        (R (Ending.returned (Value.bool false)) w703)
        (Calls P F.ref09_Same #[Value.agg #[Value.int IntKind.i64 n131, Value.int IntKind.i64 n132, Value.slice p337 k925 k926], Value.agg #[Value.int IntKind.i64 x1, Value.int IntKind.i64 x2, Value.slice sa2 sl2 sc2]] w703 fun e178 w704 =>
        ∃ c2 : Bool,
        (e178 = Ending.returned (Value.bool c2)) ∧
        (Keep ([k954, k949, k938, k927, k924, k3, k2, k1]) w703 w704) ∧
        brB (!c2)
          (R (Ending.returned (Value.bool false)) w704)
          (Calls P F.ref09_Same #[Value.agg #[Value.int IntKind.i64 n133, Value.int IntKind.i64 n134, Value.slice p338 k928 k929], Value.agg #[Value.int IntKind.i64 x3, Value.int IntKind.i64 x4, Value.slice sa3 sl3 sc3]] w704 fun e179 w705 =>
          ∃ c3 : Bool,
          (e179 = Ending.returned (Value.bool c3)) ∧
          (Keep ([k954, k949, k938, k927, k924, k3, k2, k1]) w704 w705) ∧
          brB (!c3)
            (R (Ending.returned (Value.bool false)) w705)
            (Calls P F.ref09_Same #[Value.agg #[Value.int IntKind.i64 n149, Value.int IntKind.i64 n150, Value.slice p346 k950 k951], Value.agg #[Value.int IntKind.i64 n153, Value.int IntKind.i64 n154, Value.slice p347 k952 k953]] w705 fun e180 w706 =>
            ∃ c4 : Bool,
            (e180 = Ending.returned (Value.bool c4)) ∧
            (Keep ([k954, k949, k938, k927, k924, k3, k2, k1]) w705 w706) ∧
            brB (!c4)
              (R (Ending.returned (Value.bool false)) w706)
              (∃ I5 : List Value → World → Prop,
              ∃ m2 : List Value → World → Nat,
              (I5 [Value.int IntKind.i64 0] w706) ∧
              ∀ n157 : Int,
              ∀ w707 : World,
              (I5 [Value.int IntKind.i64 n157] w707) →
              brB (decide (n157 < (↑sl1 : Int)))
                (idx (p336) (k922) (n157) (1) fun a4 =>
                ∃ n158 : Int,
                (w707.drew.cell? a4 = some (Value.int IntKind.i64 n158)) ∧
                idx (sa1) (sl1) (n157) (1) fun a5 =>
                ∃ n159 : Int,
                (w707.drew.cell? a5 = some (Value.int IntKind.i64 n159)) ∧
                brB (n158 != n159)
                  (R (Ending.returned (Value.bool false)) w707.drew)
                  ((I5 [Value.int IntKind.i64 (IntKind.i64.wrap (n157 + 1))] w707.drew) ∧
                  m2 [Value.int IntKind.i64 (IntKind.i64.wrap (n157 + 1))] w707.drew < m2 [Value.int IntKind.i64 n157] w707))
                (R (Ending.returned (Value.bool true)) w707)))))))
theorem calls_law23_BlendOwn (st1 : ByteArray) (sa1 : Option Addr) (sl1 sc1 : Nat) (x1 : Int) (x2 : Int) (sa2 : Option Addr) (sl2 sc2 : Nat) (x3 : Int) (x4 : Int) (sa3 : Option Addr) (sl3 sc3 : Nat) (w : World) (R : Ending → World → Prop) (h : vc_law23_BlendOwn st1 sa1 sl1 sc1 x1 x2 sa2 sl2 sc2 x3 x4 sa3 sl3 sc3 w R) : Calls P F.law23_BlendOwn #[.agg #[.string st1, .slice sa1 sl1 sc1], .agg #[.int .i64 x1, .int .i64 x2, .slice sa2 sl2 sc2], .agg #[.int .i64 x3, .int .i64 x4, .slice sa3 sl3 sc3]] w R :=
  calls_of_vc (fn := Try.f8) (ac := ac_law23_BlendOwn) (args := [.agg #[.string st1, .slice sa1 sl1 sc1], .agg #[.int .i64 x1, .int .i64 x2, .slice sa2 sl2 sc2], .agg #[.int .i64 x3, .int .i64 x4, .slice sa3 sl3 sc3]]) mixed Try.func8 (by kernel_rfl) (cast (by unfold vc_law23_BlendOwn FnVc; kernel_rfl) h)
end Go.Proofs.Ytombfebgojeliaa
