/- The condition of a great law, written out (by a program of ours), and the theorem that it suffices. -/
import Derived.Test.YtombfebgojeliaaVcs
namespace Go.Proofs.Ytombfebgojeliaa
open Go Go.Vc
set_option maxRecDepth 100000
set_option linter.unusedVariables false
/-- darkroom/darkroomlaw23.BlendCovers -/
def vc_law23_BlendCovers (x1 : Int) (x2 : Int) (sa1 : Option Addr) (sl1 sc1 : Nat) (x3 : Int) (x4 : Int) (sa2 : Option Addr) (sl2 sc2 : Nat) (x5 : Int) (x6 : Int) (w : World) (R : Ending → World → Prop) : Prop :=
  ∀ k1 : Nat,
  (w.heap.size ≤ k1) →
  ∀ k2 : Nat,
  (w.heap.size ≤ k2) →
  ∀ w1 : World,
  (Locl ([k2, k1]) w w1) →
  ∀ k3 : Nat,
  ∀ w2 : World,
  (New w1 (Obj.cells #[Value.int IntKind.i64 x5, Value.int IntKind.i64 x6] 48) k3 w2) →
  Calls P F.law23_wakes #[] w2 fun e1 w3 =>
  ∃ c1 : Bool,
  (e1 = Ending.returned (Value.bool c1)) ∧
  (Keep ([k2, k1]) w2 w3) ∧
  brB (!c1)
    (R (Ending.returned (Value.bool false)) w3)
    (Calls P F.ref09_Good #[Value.agg #[Value.int IntKind.i64 x1, Value.int IntKind.i64 x2, Value.slice sa1 sl1 sc1]] w3 fun e2 w4 =>
    ∃ c2 : Bool,
    (e2 = Ending.returned (Value.bool c2)) ∧
    (Keep ([k2, k1]) w3 w4) ∧
    brB (!c2)
      ((∀ k4 : Nat,
        ∀ w5 : World,
        (New (w4.drew) (Obj.cells #[Value.int IntKind.i64 0, Value.int IntKind.i64 0] 3) k4 w5) →
        (Calls P F.law23_own #[Value.agg #[Value.int IntKind.i64 x1, Value.int IntKind.i64 x2, Value.slice sa1 sl1 sc1]] w5 fun e3 w6 =>
          ∃ n1 : Int,
          ∃ n2 : Int,
          ∃ p1 : Option Addr,
          ∃ k5 : Nat,
          ∃ k6 : Nat,
          (e3 = Ending.returned (Value.agg #[Value.int IntKind.i64 n1, Value.int IntKind.i64 n2, Value.slice p1 k5 k6])) ∧
          (Keep ([k2, k1]) w5 w6) ∧
          (Keeps w5 w6) ∧
          (Calls P F.law23_own #[Value.agg #[Value.int IntKind.i64 x3, Value.int IntKind.i64 x4, Value.slice sa2 sl2 sc2]] w6 fun e4 w7 =>
            ∃ n3 : Int,
            ∃ n4 : Int,
            ∃ p2 : Option Addr,
            ∃ k7 : Nat,
            ∃ k8 : Nat,
            (e4 = Ending.returned (Value.agg #[Value.int IntKind.i64 n3, Value.int IntKind.i64 n4, Value.slice p2 k7 k8])) ∧
            (Keep ([k2, k1]) w6 w7) ∧
            (Calls P F.blend_Apply #[Value.string { data := #[111, 118, 101, 114] }, Value.slice (some { block := k4, off := 0 }) 2 2, Value.agg #[Value.int IntKind.i64 n1, Value.int IntKind.i64 n2, Value.slice p1 k5 k6], Value.agg #[Value.int IntKind.i64 n3, Value.int IntKind.i64 n4, Value.slice p2 k7 k8]] w7 fun e5 w8 =>
              ∃ n5 : Int,
              ∃ n6 : Int,
              ∃ p3 : Option Addr,
              ∃ k9 : Nat,
              ∃ k10 : Nat,
              ∃ n7 : Int,
              (e5 = Ending.returned (Value.tuple #[Value.agg #[Value.int IntKind.i64 n5, Value.int IntKind.i64 n6, Value.slice p3 k9 k10], Value.int IntKind.i64 n7])) ∧
              (Keep ([k2, k1]) w7 w8) ∧
              ∀ k11 : Nat,
              (w8.heap.size ≤ k11) →
              ∀ w9 : World,
              (Locl ([k11, k2, k1]) w8 w9) →
              R (Ending.returned (Value.bool (n7 == 6))) w9) ∧
            ∀ k12 : Nat,
            (w7.heap.size ≤ k12) →
            ∀ w10 : World,
            (Locl ([k12, k2, k1]) w7 w10) →
            Calls P F.blend_Apply #[Value.string { data := #[111, 118, 101, 114] }, Value.slice (some { block := k4, off := 0 }) 2 2, Value.agg #[Value.int IntKind.i64 n1, Value.int IntKind.i64 n2, Value.slice p1 k5 k6], Value.agg #[Value.int IntKind.i64 n3, Value.int IntKind.i64 n4, Value.slice p2 k7 k8]] w10 fun e6 w11 =>
            ∃ n8 : Int,
            ∃ n9 : Int,
            ∃ p4 : Option Addr,
            ∃ k13 : Nat,
            ∃ k14 : Nat,
            ∃ n10 : Int,
            (e6 = Ending.returned (Value.tuple #[Value.agg #[Value.int IntKind.i64 n8, Value.int IntKind.i64 n9, Value.slice p4 k13 k14], Value.int IntKind.i64 n10])) ∧
            (Keep ([k12, k2, k1]) w10 w11) ∧
            ∀ w12 : World,
            (Locl ([k12, k2, k1]) w11 w12) →
            R (Ending.returned (Value.bool (n10 == 6))) w12) ∧
          ∀ k15 : Nat,
          (w6.heap.size ≤ k15) →
          ∀ w13 : World,
          (Locl ([k15, k2, k1]) w6 w13) →
          Calls P F.law23_own #[Value.agg #[Value.int IntKind.i64 x3, Value.int IntKind.i64 x4, Value.slice sa2 sl2 sc2]] w13 fun e7 w14 =>
          ∃ n11 : Int,
          ∃ n12 : Int,
          ∃ p5 : Option Addr,
          ∃ k16 : Nat,
          ∃ k17 : Nat,
          (e7 = Ending.returned (Value.agg #[Value.int IntKind.i64 n11, Value.int IntKind.i64 n12, Value.slice p5 k16 k17])) ∧
          (Keep ([k15, k2, k1]) w13 w14) ∧
          Calls P F.blend_Apply #[Value.string { data := #[111, 118, 101, 114] }, Value.slice (some { block := k4, off := 0 }) 2 2, Value.agg #[Value.int IntKind.i64 n1, Value.int IntKind.i64 n2, Value.slice p1 k5 k6], Value.agg #[Value.int IntKind.i64 n11, Value.int IntKind.i64 n12, Value.slice p5 k16 k17]] w14 fun e8 w15 =>
          ∃ n13 : Int,
          ∃ n14 : Int,
          ∃ p6 : Option Addr,
          ∃ k18 : Nat,
          ∃ k19 : Nat,
          ∃ n15 : Int,
          (e8 = Ending.returned (Value.tuple #[Value.agg #[Value.int IntKind.i64 n13, Value.int IntKind.i64 n14, Value.slice p6 k18 k19], Value.int IntKind.i64 n15])) ∧
          (Keep ([k15, k2, k1]) w14 w15) ∧
          ∀ w16 : World,
          (Locl ([k15, k2, k1]) w15 w16) →
          R (Ending.returned (Value.bool (n15 == 6))) w16) ∧
        ∀ k20 : Nat,
        (w5.heap.size ≤ k20) →
        ∀ w17 : World,
        (Locl ([k20, k2, k1]) w5 w17) →
        Calls P F.law23_own #[Value.agg #[Value.int IntKind.i64 x1, Value.int IntKind.i64 x2, Value.slice sa1 sl1 sc1]] w17 fun e9 w18 =>
        ∃ n16 : Int,
        ∃ n17 : Int,
        ∃ p7 : Option Addr,
        ∃ k21 : Nat,
        ∃ k22 : Nat,
        (e9 = Ending.returned (Value.agg #[Value.int IntKind.i64 n16, Value.int IntKind.i64 n17, Value.slice p7 k21 k22])) ∧
        (Keep ([k20, k2, k1]) w17 w18) ∧
        (Keeps w17 w18) ∧
        Calls P F.law23_own #[Value.agg #[Value.int IntKind.i64 x3, Value.int IntKind.i64 x4, Value.slice sa2 sl2 sc2]] w18 fun e10 w19 =>
        ∃ n18 : Int,
        ∃ n19 : Int,
        ∃ p8 : Option Addr,
        ∃ k23 : Nat,
        ∃ k24 : Nat,
        (e10 = Ending.returned (Value.agg #[Value.int IntKind.i64 n18, Value.int IntKind.i64 n19, Value.slice p8 k23 k24])) ∧
        (Keep ([k20, k2, k1]) w18 w19) ∧
        Calls P F.blend_Apply #[Value.string { data := #[111, 118, 101, 114] }, Value.slice (some { block := k4, off := 0 }) 2 2, Value.agg #[Value.int IntKind.i64 n16, Value.int IntKind.i64 n17, Value.slice p7 k21 k22], Value.agg #[Value.int IntKind.i64 n18, Value.int IntKind.i64 n19, Value.slice p8 k23 k24]] w19 fun e11 w20 =>
        ∃ n20 : Int,
        ∃ n21 : Int,
        ∃ p9 : Option Addr,
        ∃ k25 : Nat,
        ∃ k26 : Nat,
        ∃ n22 : Int,
        (e11 = Ending.returned (Value.tuple #[Value.agg #[Value.int IntKind.i64 n20, Value.int IntKind.i64 n21, Value.slice p9 k25 k26], Value.int IntKind.i64 n22])) ∧
        (Keep ([k20, k2, k1]) w19 w20) ∧
        ∀ w21 : World,
        (Locl ([k20, k2, k1]) w20 w21) →
        R (Ending.returned (Value.bool (n22 == 6))) w21) ∧
      (Calls P F.law23_own #[Value.agg #[Value.int IntKind.i64 x1, Value.int IntKind.i64 x2, Value.slice sa1 sl1 sc1]] (w4.drew) fun e12 w22 =>
        ∃ n23 : Int,
        ∃ n24 : Int,
        ∃ p10 : Option Addr,
        ∃ k27 : Nat,
        ∃ k28 : Nat,
        (e12 = Ending.returned (Value.agg #[Value.int IntKind.i64 n23, Value.int IntKind.i64 n24, Value.slice p10 k27 k28])) ∧
        (Keep ([k2, k1]) (w4.drew) w22) ∧
        (Keeps (w4.drew) w22) ∧
        (∀ k29 : Nat,
          ∀ w23 : World,
          (New w22 (Obj.cells #[Value.int IntKind.i64 0, Value.int IntKind.i64 0] 3) k29 w23) →
          (Calls P F.law23_own #[Value.agg #[Value.int IntKind.i64 x3, Value.int IntKind.i64 x4, Value.slice sa2 sl2 sc2]] w23 fun e13 w24 =>
            ∃ n25 : Int,
            ∃ n26 : Int,
            ∃ p11 : Option Addr,
            ∃ k30 : Nat,
            ∃ k31 : Nat,
            (e13 = Ending.returned (Value.agg #[Value.int IntKind.i64 n25, Value.int IntKind.i64 n26, Value.slice p11 k30 k31])) ∧
            (Keep ([k2, k1]) w23 w24) ∧
            (Calls P F.blend_Apply #[Value.string { data := #[111, 118, 101, 114] }, Value.slice (some { block := k29, off := 0 }) 2 2, Value.agg #[Value.int IntKind.i64 n23, Value.int IntKind.i64 n24, Value.slice p10 k27 k28], Value.agg #[Value.int IntKind.i64 n25, Value.int IntKind.i64 n26, Value.slice p11 k30 k31]] w24 fun e14 w25 =>
              ∃ n27 : Int,
              ∃ n28 : Int,
              ∃ p12 : Option Addr,
              ∃ k32 : Nat,
              ∃ k33 : Nat,
              ∃ n29 : Int,
              (e14 = Ending.returned (Value.tuple #[Value.agg #[Value.int IntKind.i64 n27, Value.int IntKind.i64 n28, Value.slice p12 k32 k33], Value.int IntKind.i64 n29])) ∧
              (Keep ([k2, k1]) w24 w25) ∧
              ∀ k34 : Nat,
              (w25.heap.size ≤ k34) →
              ∀ w26 : World,
              (Locl ([k34, k2, k1]) w25 w26) →
              R (Ending.returned (Value.bool (n29 == 6))) w26) ∧
            ∀ k35 : Nat,
            (w24.heap.size ≤ k35) →
            ∀ w27 : World,
            (Locl ([k35, k2, k1]) w24 w27) →
            Calls P F.blend_Apply #[Value.string { data := #[111, 118, 101, 114] }, Value.slice (some { block := k29, off := 0 }) 2 2, Value.agg #[Value.int IntKind.i64 n23, Value.int IntKind.i64 n24, Value.slice p10 k27 k28], Value.agg #[Value.int IntKind.i64 n25, Value.int IntKind.i64 n26, Value.slice p11 k30 k31]] w27 fun e15 w28 =>
            ∃ n30 : Int,
            ∃ n31 : Int,
            ∃ p13 : Option Addr,
            ∃ k36 : Nat,
            ∃ k37 : Nat,
            ∃ n32 : Int,
            (e15 = Ending.returned (Value.tuple #[Value.agg #[Value.int IntKind.i64 n30, Value.int IntKind.i64 n31, Value.slice p13 k36 k37], Value.int IntKind.i64 n32])) ∧
            (Keep ([k35, k2, k1]) w27 w28) ∧
            ∀ w29 : World,
            (Locl ([k35, k2, k1]) w28 w29) →
            R (Ending.returned (Value.bool (n32 == 6))) w29) ∧
          ∀ k38 : Nat,
          (w23.heap.size ≤ k38) →
          ∀ w30 : World,
          (Locl ([k38, k2, k1]) w23 w30) →
          Calls P F.law23_own #[Value.agg #[Value.int IntKind.i64 x3, Value.int IntKind.i64 x4, Value.slice sa2 sl2 sc2]] w30 fun e16 w31 =>
          ∃ n33 : Int,
          ∃ n34 : Int,
          ∃ p14 : Option Addr,
          ∃ k39 : Nat,
          ∃ k40 : Nat,
          (e16 = Ending.returned (Value.agg #[Value.int IntKind.i64 n33, Value.int IntKind.i64 n34, Value.slice p14 k39 k40])) ∧
          (Keep ([k38, k2, k1]) w30 w31) ∧
          Calls P F.blend_Apply #[Value.string { data := #[111, 118, 101, 114] }, Value.slice (some { block := k29, off := 0 }) 2 2, Value.agg #[Value.int IntKind.i64 n23, Value.int IntKind.i64 n24, Value.slice p10 k27 k28], Value.agg #[Value.int IntKind.i64 n33, Value.int IntKind.i64 n34, Value.slice p14 k39 k40]] w31 fun e17 w32 =>
          ∃ n35 : Int,
          ∃ n36 : Int,
          ∃ p15 : Option Addr,
          ∃ k41 : Nat,
          ∃ k42 : Nat,
          ∃ n37 : Int,
          (e17 = Ending.returned (Value.tuple #[Value.agg #[Value.int IntKind.i64 n35, Value.int IntKind.i64 n36, Value.slice p15 k41 k42], Value.int IntKind.i64 n37])) ∧
          (Keep ([k38, k2, k1]) w31 w32) ∧
          ∀ w33 : World,
          (Locl ([k38, k2, k1]) w32 w33) →
          R (Ending.returned (Value.bool (n37 == 6))) w33) ∧
        (Calls P F.law23_own #[Value.agg #[Value.int IntKind.i64 x3, Value.int IntKind.i64 x4, Value.slice sa2 sl2 sc2]] w22 fun e18 w34 =>
          ∃ n38 : Int,
          ∃ n39 : Int,
          ∃ p16 : Option Addr,
          ∃ k43 : Nat,
          ∃ k44 : Nat,
          (e18 = Ending.returned (Value.agg #[Value.int IntKind.i64 n38, Value.int IntKind.i64 n39, Value.slice p16 k43 k44])) ∧
          (Keep ([k2, k1]) w22 w34) ∧
          (∀ k45 : Nat,
            ∀ w35 : World,
            (New w34 (Obj.cells #[Value.int IntKind.i64 0, Value.int IntKind.i64 0] 3) k45 w35) →
            (Calls P F.blend_Apply #[Value.string { data := #[111, 118, 101, 114] }, Value.slice (some { block := k45, off := 0 }) 2 2, Value.agg #[Value.int IntKind.i64 n23, Value.int IntKind.i64 n24, Value.slice p10 k27 k28], Value.agg #[Value.int IntKind.i64 n38, Value.int IntKind.i64 n39, Value.slice p16 k43 k44]] w35 fun e19 w36 =>
              ∃ n40 : Int,
              ∃ n41 : Int,
              ∃ p17 : Option Addr,
              ∃ k46 : Nat,
              ∃ k47 : Nat,
              ∃ n42 : Int,
              (e19 = Ending.returned (Value.tuple #[Value.agg #[Value.int IntKind.i64 n40, Value.int IntKind.i64 n41, Value.slice p17 k46 k47], Value.int IntKind.i64 n42])) ∧
              (Keep ([k2, k1]) w35 w36) ∧
              ∀ k48 : Nat,
              (w36.heap.size ≤ k48) →
              ∀ w37 : World,
              (Locl ([k48, k2, k1]) w36 w37) →
              R (Ending.returned (Value.bool (n42 == 6))) w37) ∧
            ∀ k49 : Nat,
            (w35.heap.size ≤ k49) →
            ∀ w38 : World,
            (Locl ([k49, k2, k1]) w35 w38) →
            Calls P F.blend_Apply #[Value.string { data := #[111, 118, 101, 114] }, Value.slice (some { block := k45, off := 0 }) 2 2, Value.agg #[Value.int IntKind.i64 n23, Value.int IntKind.i64 n24, Value.slice p10 k27 k28], Value.agg #[Value.int IntKind.i64 n38, Value.int IntKind.i64 n39, Value.slice p16 k43 k44]] w38 fun e20 w39 =>
            ∃ n43 : Int,
            ∃ n44 : Int,
            ∃ p18 : Option Addr,
            ∃ k50 : Nat,
            ∃ k51 : Nat,
            ∃ n45 : Int,
            (e20 = Ending.returned (Value.tuple #[Value.agg #[Value.int IntKind.i64 n43, Value.int IntKind.i64 n44, Value.slice p18 k50 k51], Value.int IntKind.i64 n45])) ∧
            (Keep ([k49, k2, k1]) w38 w39) ∧
            ∀ w40 : World,
            (Locl ([k49, k2, k1]) w39 w40) →
            R (Ending.returned (Value.bool (n45 == 6))) w40) ∧
          ∀ k52 : Nat,
          (w34.heap.size ≤ k52) →
          ∀ w41 : World,
          (Locl ([k52, k2, k1]) w34 w41) →
          ∀ k53 : Nat,
          ∀ w42 : World,
          (New w41 (Obj.cells #[Value.int IntKind.i64 0, Value.int IntKind.i64 0] 3) k53 w42) →
          Calls P F.blend_Apply #[Value.string { data := #[111, 118, 101, 114] }, Value.slice (some { block := k53, off := 0 }) 2 2, Value.agg #[Value.int IntKind.i64 n23, Value.int IntKind.i64 n24, Value.slice p10 k27 k28], Value.agg #[Value.int IntKind.i64 n38, Value.int IntKind.i64 n39, Value.slice p16 k43 k44]] w42 fun e21 w43 =>
          ∃ n46 : Int,
          ∃ n47 : Int,
          ∃ p19 : Option Addr,
          ∃ k54 : Nat,
          ∃ k55 : Nat,
          ∃ n48 : Int,
          (e21 = Ending.returned (Value.tuple #[Value.agg #[Value.int IntKind.i64 n46, Value.int IntKind.i64 n47, Value.slice p19 k54 k55], Value.int IntKind.i64 n48])) ∧
          (Keep ([k52, k2, k1]) w42 w43) ∧
          ∀ w44 : World,
          (Locl ([k52, k2, k1]) w43 w44) →
          R (Ending.returned (Value.bool (n48 == 6))) w44) ∧
        ∀ k56 : Nat,
        (w22.heap.size ≤ k56) →
        (∀ w45 : World,
          (Locl ([k56, k2, k1]) w22 w45) →
          ∀ k57 : Nat,
          ∀ w46 : World,
          (New w45 (Obj.cells #[Value.int IntKind.i64 0, Value.int IntKind.i64 0] 3) k57 w46) →
          Calls P F.law23_own #[Value.agg #[Value.int IntKind.i64 x3, Value.int IntKind.i64 x4, Value.slice sa2 sl2 sc2]] w46 fun e22 w47 =>
          ∃ n49 : Int,
          ∃ n50 : Int,
          ∃ p20 : Option Addr,
          ∃ k58 : Nat,
          ∃ k59 : Nat,
          (e22 = Ending.returned (Value.agg #[Value.int IntKind.i64 n49, Value.int IntKind.i64 n50, Value.slice p20 k58 k59])) ∧
          (Keep ([k56, k2, k1]) w46 w47) ∧
          Calls P F.blend_Apply #[Value.string { data := #[111, 118, 101, 114] }, Value.slice (some { block := k57, off := 0 }) 2 2, Value.agg #[Value.int IntKind.i64 n23, Value.int IntKind.i64 n24, Value.slice p10 k27 k28], Value.agg #[Value.int IntKind.i64 n49, Value.int IntKind.i64 n50, Value.slice p20 k58 k59]] w47 fun e23 w48 =>
          ∃ n51 : Int,
          ∃ n52 : Int,
          ∃ p21 : Option Addr,
          ∃ k60 : Nat,
          ∃ k61 : Nat,
          ∃ n53 : Int,
          (e23 = Ending.returned (Value.tuple #[Value.agg #[Value.int IntKind.i64 n51, Value.int IntKind.i64 n52, Value.slice p21 k60 k61], Value.int IntKind.i64 n53])) ∧
          (Keep ([k56, k2, k1]) w47 w48) ∧
          ∀ w49 : World,
          (Locl ([k56, k2, k1]) w48 w49) →
          R (Ending.returned (Value.bool (n53 == 6))) w49) ∧
        ∀ w50 : World,
        (Locl ([k56, k2, k1]) w22 w50) →
        Calls P F.law23_own #[Value.agg #[Value.int IntKind.i64 x3, Value.int IntKind.i64 x4, Value.slice sa2 sl2 sc2]] w50 fun e24 w51 =>
        ∃ n54 : Int,
        ∃ n55 : Int,
        ∃ p22 : Option Addr,
        ∃ k62 : Nat,
        ∃ k63 : Nat,
        (e24 = Ending.returned (Value.agg #[Value.int IntKind.i64 n54, Value.int IntKind.i64 n55, Value.slice p22 k62 k63])) ∧
        (Keep ([k56, k2, k1]) w50 w51) ∧
        ∀ k64 : Nat,
        ∀ w52 : World,
        (New w51 (Obj.cells #[Value.int IntKind.i64 0, Value.int IntKind.i64 0] 3) k64 w52) →
        Calls P F.blend_Apply #[Value.string { data := #[111, 118, 101, 114] }, Value.slice (some { block := k64, off := 0 }) 2 2, Value.agg #[Value.int IntKind.i64 n23, Value.int IntKind.i64 n24, Value.slice p10 k27 k28], Value.agg #[Value.int IntKind.i64 n54, Value.int IntKind.i64 n55, Value.slice p22 k62 k63]] w52 fun e25 w53 =>
        ∃ n56 : Int,
        ∃ n57 : Int,
        ∃ p23 : Option Addr,
        ∃ k65 : Nat,
        ∃ k66 : Nat,
        ∃ n58 : Int,
        (e25 = Ending.returned (Value.tuple #[Value.agg #[Value.int IntKind.i64 n56, Value.int IntKind.i64 n57, Value.slice p23 k65 k66], Value.int IntKind.i64 n58])) ∧
        (Keep ([k56, k2, k1]) w52 w53) ∧
        ∀ w54 : World,
        (Locl ([k56, k2, k1]) w53 w54) →
        R (Ending.returned (Value.bool (n58 == 6))) w54) ∧
      ∀ k67 : Nat,
      (w4.drew.heap.size ≤ k67) →
      (∀ w55 : World,
        (Locl ([k67, k2, k1]) (w4.drew) w55) →
        ∀ k68 : Nat,
        ∀ w56 : World,
        (New w55 (Obj.cells #[Value.int IntKind.i64 0, Value.int IntKind.i64 0] 3) k68 w56) →
        Calls P F.law23_own #[Value.agg #[Value.int IntKind.i64 x1, Value.int IntKind.i64 x2, Value.slice sa1 sl1 sc1]] w56 fun e26 w57 =>
        ∃ n59 : Int,
        ∃ n60 : Int,
        ∃ p24 : Option Addr,
        ∃ k69 : Nat,
        ∃ k70 : Nat,
        (e26 = Ending.returned (Value.agg #[Value.int IntKind.i64 n59, Value.int IntKind.i64 n60, Value.slice p24 k69 k70])) ∧
        (Keep ([k67, k2, k1]) w56 w57) ∧
        (Keeps w56 w57) ∧
        Calls P F.law23_own #[Value.agg #[Value.int IntKind.i64 x3, Value.int IntKind.i64 x4, Value.slice sa2 sl2 sc2]] w57 fun e27 w58 =>
        ∃ n61 : Int,
        ∃ n62 : Int,
        ∃ p25 : Option Addr,
        ∃ k71 : Nat,
        ∃ k72 : Nat,
        (e27 = Ending.returned (Value.agg #[Value.int IntKind.i64 n61, Value.int IntKind.i64 n62, Value.slice p25 k71 k72])) ∧
        (Keep ([k67, k2, k1]) w57 w58) ∧
        Calls P F.blend_Apply #[Value.string { data := #[111, 118, 101, 114] }, Value.slice (some { block := k68, off := 0 }) 2 2, Value.agg #[Value.int IntKind.i64 n59, Value.int IntKind.i64 n60, Value.slice p24 k69 k70], Value.agg #[Value.int IntKind.i64 n61, Value.int IntKind.i64 n62, Value.slice p25 k71 k72]] w58 fun e28 w59 =>
        ∃ n63 : Int,
        ∃ n64 : Int,
        ∃ p26 : Option Addr,
        ∃ k73 : Nat,
        ∃ k74 : Nat,
        ∃ n65 : Int,
        (e28 = Ending.returned (Value.tuple #[Value.agg #[Value.int IntKind.i64 n63, Value.int IntKind.i64 n64, Value.slice p26 k73 k74], Value.int IntKind.i64 n65])) ∧
        (Keep ([k67, k2, k1]) w58 w59) ∧
        ∀ w60 : World,
        (Locl ([k67, k2, k1]) w59 w60) →
        R (Ending.returned (Value.bool (n65 == 6))) w60) ∧
      ∀ w61 : World,
      (Locl ([k67, k2, k1]) (w4.drew) w61) →
      Calls P F.law23_own #[Value.agg #[Value.int IntKind.i64 x1, Value.int IntKind.i64 x2, Value.slice sa1 sl1 sc1]] w61 fun e29 w62 =>
      ∃ n66 : Int,
      ∃ n67 : Int,
      ∃ p27 : Option Addr,
      ∃ k75 : Nat,
      ∃ k76 : Nat,
      (e29 = Ending.returned (Value.agg #[Value.int IntKind.i64 n66, Value.int IntKind.i64 n67, Value.slice p27 k75 k76])) ∧
      (Keep ([k67, k2, k1]) w61 w62) ∧
      (Keeps w61 w62) ∧
      (∀ k77 : Nat,
        ∀ w63 : World,
        (New w62 (Obj.cells #[Value.int IntKind.i64 0, Value.int IntKind.i64 0] 3) k77 w63) →
        Calls P F.law23_own #[Value.agg #[Value.int IntKind.i64 x3, Value.int IntKind.i64 x4, Value.slice sa2 sl2 sc2]] w63 fun e30 w64 =>
        ∃ n68 : Int,
        ∃ n69 : Int,
        ∃ p28 : Option Addr,
        ∃ k78 : Nat,
        ∃ k79 : Nat,
        (e30 = Ending.returned (Value.agg #[Value.int IntKind.i64 n68, Value.int IntKind.i64 n69, Value.slice p28 k78 k79])) ∧
        (Keep ([k67, k2, k1]) w63 w64) ∧
        Calls P F.blend_Apply #[Value.string { data := #[111, 118, 101, 114] }, Value.slice (some { block := k77, off := 0 }) 2 2, Value.agg #[Value.int IntKind.i64 n66, Value.int IntKind.i64 n67, Value.slice p27 k75 k76], Value.agg #[Value.int IntKind.i64 n68, Value.int IntKind.i64 n69, Value.slice p28 k78 k79]] w64 fun e31 w65 =>
        ∃ n70 : Int,
        ∃ n71 : Int,
        ∃ p29 : Option Addr,
        ∃ k80 : Nat,
        ∃ k81 : Nat,
        ∃ n72 : Int,
        (e31 = Ending.returned (Value.tuple #[Value.agg #[Value.int IntKind.i64 n70, Value.int IntKind.i64 n71, Value.slice p29 k80 k81], Value.int IntKind.i64 n72])) ∧
        (Keep ([k67, k2, k1]) w64 w65) ∧
        ∀ w66 : World,
        (Locl ([k67, k2, k1]) w65 w66) →
        R (Ending.returned (Value.bool (n72 == 6))) w66) ∧
      Calls P F.law23_own #[Value.agg #[Value.int IntKind.i64 x3, Value.int IntKind.i64 x4, Value.slice sa2 sl2 sc2]] w62 fun e32 w67 =>
      ∃ n73 : Int,
      ∃ n74 : Int,
      ∃ p30 : Option Addr,
      ∃ k82 : Nat,
      ∃ k83 : Nat,
      (e32 = Ending.returned (Value.agg #[Value.int IntKind.i64 n73, Value.int IntKind.i64 n74, Value.slice p30 k82 k83])) ∧
      (Keep ([k67, k2, k1]) w62 w67) ∧
      ∀ k84 : Nat,
      ∀ w68 : World,
      (New w67 (Obj.cells #[Value.int IntKind.i64 0, Value.int IntKind.i64 0] 3) k84 w68) →
      Calls P F.blend_Apply #[Value.string { data := #[111, 118, 101, 114] }, Value.slice (some { block := k84, off := 0 }) 2 2, Value.agg #[Value.int IntKind.i64 n66, Value.int IntKind.i64 n67, Value.slice p27 k75 k76], Value.agg #[Value.int IntKind.i64 n73, Value.int IntKind.i64 n74, Value.slice p30 k82 k83]] w68 fun e33 w69 =>
      ∃ n75 : Int,
      ∃ n76 : Int,
      ∃ p31 : Option Addr,
      ∃ k85 : Nat,
      ∃ k86 : Nat,
      ∃ n77 : Int,
      (e33 = Ending.returned (Value.tuple #[Value.agg #[Value.int IntKind.i64 n75, Value.int IntKind.i64 n76, Value.slice p31 k85 k86], Value.int IntKind.i64 n77])) ∧
      (Keep ([k67, k2, k1]) w68 w69) ∧
      ∀ w70 : World,
      (Locl ([k67, k2, k1]) w69 w70) →
      R (Ending.returned (Value.bool (n77 == 6))) w70)
      (Calls P F.ref09_Good #[Value.agg #[Value.int IntKind.i64 x3, Value.int IntKind.i64 x4, Value.slice sa2 sl2 sc2]] w4 fun e34 w71 =>
      ∃ c3 : Bool,
      (e34 = Ending.returned (Value.bool c3)) ∧
      (Keep ([k2, k1]) w4 w71) ∧
      brB (!c3)
        ((∀ k87 : Nat,
          ∀ w72 : World,
          (New (w71.drew) (Obj.cells #[Value.int IntKind.i64 0, Value.int IntKind.i64 0] 3) k87 w72) →
          (Calls P F.law23_own #[Value.agg #[Value.int IntKind.i64 x1, Value.int IntKind.i64 x2, Value.slice sa1 sl1 sc1]] w72 fun e35 w73 =>
            ∃ n78 : Int,
            ∃ n79 : Int,
            ∃ p32 : Option Addr,
            ∃ k88 : Nat,
            ∃ k89 : Nat,
            (e35 = Ending.returned (Value.agg #[Value.int IntKind.i64 n78, Value.int IntKind.i64 n79, Value.slice p32 k88 k89])) ∧
            (Keep ([k2, k1]) w72 w73) ∧
            (Keeps w72 w73) ∧
            (Calls P F.law23_own #[Value.agg #[Value.int IntKind.i64 x3, Value.int IntKind.i64 x4, Value.slice sa2 sl2 sc2]] w73 fun e36 w74 =>
              ∃ n80 : Int,
              ∃ n81 : Int,
              ∃ p33 : Option Addr,
              ∃ k90 : Nat,
              ∃ k91 : Nat,
              (e36 = Ending.returned (Value.agg #[Value.int IntKind.i64 n80, Value.int IntKind.i64 n81, Value.slice p33 k90 k91])) ∧
              (Keep ([k2, k1]) w73 w74) ∧
              (Calls P F.blend_Apply #[Value.string { data := #[111, 118, 101, 114] }, Value.slice (some { block := k87, off := 0 }) 2 2, Value.agg #[Value.int IntKind.i64 n78, Value.int IntKind.i64 n79, Value.slice p32 k88 k89], Value.agg #[Value.int IntKind.i64 n80, Value.int IntKind.i64 n81, Value.slice p33 k90 k91]] w74 fun e37 w75 =>
                ∃ n82 : Int,
                ∃ n83 : Int,
                ∃ p34 : Option Addr,
                ∃ k92 : Nat,
                ∃ k93 : Nat,
                ∃ n84 : Int,
                (e37 = Ending.returned (Value.tuple #[Value.agg #[Value.int IntKind.i64 n82, Value.int IntKind.i64 n83, Value.slice p34 k92 k93], Value.int IntKind.i64 n84])) ∧
                (Keep ([k2, k1]) w74 w75) ∧
                ∀ k94 : Nat,
                (w75.heap.size ≤ k94) →
                ∀ w76 : World,
                (Locl ([k94, k2, k1]) w75 w76) →
                R (Ending.returned (Value.bool (n84 == 6))) w76) ∧
              ∀ k95 : Nat,
              (w74.heap.size ≤ k95) →
              ∀ w77 : World,
              (Locl ([k95, k2, k1]) w74 w77) →
              Calls P F.blend_Apply #[Value.string { data := #[111, 118, 101, 114] }, Value.slice (some { block := k87, off := 0 }) 2 2, Value.agg #[Value.int IntKind.i64 n78, Value.int IntKind.i64 n79, Value.slice p32 k88 k89], Value.agg #[Value.int IntKind.i64 n80, Value.int IntKind.i64 n81, Value.slice p33 k90 k91]] w77 fun e38 w78 =>
              ∃ n85 : Int,
              ∃ n86 : Int,
              ∃ p35 : Option Addr,
              ∃ k96 : Nat,
              ∃ k97 : Nat,
              ∃ n87 : Int,
              (e38 = Ending.returned (Value.tuple #[Value.agg #[Value.int IntKind.i64 n85, Value.int IntKind.i64 n86, Value.slice p35 k96 k97], Value.int IntKind.i64 n87])) ∧
              (Keep ([k95, k2, k1]) w77 w78) ∧
              ∀ w79 : World,
              (Locl ([k95, k2, k1]) w78 w79) →
              R (Ending.returned (Value.bool (n87 == 6))) w79) ∧
            ∀ k98 : Nat,
            (w73.heap.size ≤ k98) →
            ∀ w80 : World,
            (Locl ([k98, k2, k1]) w73 w80) →
            Calls P F.law23_own #[Value.agg #[Value.int IntKind.i64 x3, Value.int IntKind.i64 x4, Value.slice sa2 sl2 sc2]] w80 fun e39 w81 =>
            ∃ n88 : Int,
            ∃ n89 : Int,
            ∃ p36 : Option Addr,
            ∃ k99 : Nat,
            ∃ k100 : Nat,
            (e39 = Ending.returned (Value.agg #[Value.int IntKind.i64 n88, Value.int IntKind.i64 n89, Value.slice p36 k99 k100])) ∧
            (Keep ([k98, k2, k1]) w80 w81) ∧
            Calls P F.blend_Apply #[Value.string { data := #[111, 118, 101, 114] }, Value.slice (some { block := k87, off := 0 }) 2 2, Value.agg #[Value.int IntKind.i64 n78, Value.int IntKind.i64 n79, Value.slice p32 k88 k89], Value.agg #[Value.int IntKind.i64 n88, Value.int IntKind.i64 n89, Value.slice p36 k99 k100]] w81 fun e40 w82 =>
            ∃ n90 : Int,
            ∃ n91 : Int,
            ∃ p37 : Option Addr,
            ∃ k101 : Nat,
            ∃ k102 : Nat,
            ∃ n92 : Int,
            (e40 = Ending.returned (Value.tuple #[Value.agg #[Value.int IntKind.i64 n90, Value.int IntKind.i64 n91, Value.slice p37 k101 k102], Value.int IntKind.i64 n92])) ∧
            (Keep ([k98, k2, k1]) w81 w82) ∧
            ∀ w83 : World,
            (Locl ([k98, k2, k1]) w82 w83) →
            R (Ending.returned (Value.bool (n92 == 6))) w83) ∧
          ∀ k103 : Nat,
          (w72.heap.size ≤ k103) →
          ∀ w84 : World,
          (Locl ([k103, k2, k1]) w72 w84) →
          Calls P F.law23_own #[Value.agg #[Value.int IntKind.i64 x1, Value.int IntKind.i64 x2, Value.slice sa1 sl1 sc1]] w84 fun e41 w85 =>
          ∃ n93 : Int,
          ∃ n94 : Int,
          ∃ p38 : Option Addr,
          ∃ k104 : Nat,
          ∃ k105 : Nat,
          (e41 = Ending.returned (Value.agg #[Value.int IntKind.i64 n93, Value.int IntKind.i64 n94, Value.slice p38 k104 k105])) ∧
          (Keep ([k103, k2, k1]) w84 w85) ∧
          (Keeps w84 w85) ∧
          Calls P F.law23_own #[Value.agg #[Value.int IntKind.i64 x3, Value.int IntKind.i64 x4, Value.slice sa2 sl2 sc2]] w85 fun e42 w86 =>
          ∃ n95 : Int,
          ∃ n96 : Int,
          ∃ p39 : Option Addr,
          ∃ k106 : Nat,
          ∃ k107 : Nat,
          (e42 = Ending.returned (Value.agg #[Value.int IntKind.i64 n95, Value.int IntKind.i64 n96, Value.slice p39 k106 k107])) ∧
          (Keep ([k103, k2, k1]) w85 w86) ∧
          Calls P F.blend_Apply #[Value.string { data := #[111, 118, 101, 114] }, Value.slice (some { block := k87, off := 0 }) 2 2, Value.agg #[Value.int IntKind.i64 n93, Value.int IntKind.i64 n94, Value.slice p38 k104 k105], Value.agg #[Value.int IntKind.i64 n95, Value.int IntKind.i64 n96, Value.slice p39 k106 k107]] w86 fun e43 w87 =>
          ∃ n97 : Int,
          ∃ n98 : Int,
          ∃ p40 : Option Addr,
          ∃ k108 : Nat,
          ∃ k109 : Nat,
          ∃ n99 : Int,
          (e43 = Ending.returned (Value.tuple #[Value.agg #[Value.int IntKind.i64 n97, Value.int IntKind.i64 n98, Value.slice p40 k108 k109], Value.int IntKind.i64 n99])) ∧
          (Keep ([k103, k2, k1]) w86 w87) ∧
          ∀ w88 : World,
          (Locl ([k103, k2, k1]) w87 w88) →
          R (Ending.returned (Value.bool (n99 == 6))) w88) ∧
        (Calls P F.law23_own #[Value.agg #[Value.int IntKind.i64 x1, Value.int IntKind.i64 x2, Value.slice sa1 sl1 sc1]] (w71.drew) fun e44 w89 =>
          ∃ n100 : Int,
          ∃ n101 : Int,
          ∃ p41 : Option Addr,
          ∃ k110 : Nat,
          ∃ k111 : Nat,
          (e44 = Ending.returned (Value.agg #[Value.int IntKind.i64 n100, Value.int IntKind.i64 n101, Value.slice p41 k110 k111])) ∧
          (Keep ([k2, k1]) (w71.drew) w89) ∧
          (Keeps (w71.drew) w89) ∧
          (∀ k112 : Nat,
            ∀ w90 : World,
            (New w89 (Obj.cells #[Value.int IntKind.i64 0, Value.int IntKind.i64 0] 3) k112 w90) →
            (Calls P F.law23_own #[Value.agg #[Value.int IntKind.i64 x3, Value.int IntKind.i64 x4, Value.slice sa2 sl2 sc2]] w90 fun e45 w91 =>
              ∃ n102 : Int,
              ∃ n103 : Int,
              ∃ p42 : Option Addr,
              ∃ k113 : Nat,
              ∃ k114 : Nat,
              (e45 = Ending.returned (Value.agg #[Value.int IntKind.i64 n102, Value.int IntKind.i64 n103, Value.slice p42 k113 k114])) ∧
              (Keep ([k2, k1]) w90 w91) ∧
              (Calls P F.blend_Apply #[Value.string { data := #[111, 118, 101, 114] }, Value.slice (some { block := k112, off := 0 }) 2 2, Value.agg #[Value.int IntKind.i64 n100, Value.int IntKind.i64 n101, Value.slice p41 k110 k111], Value.agg #[Value.int IntKind.i64 n102, Value.int IntKind.i64 n103, Value.slice p42 k113 k114]] w91 fun e46 w92 =>
                ∃ n104 : Int,
                ∃ n105 : Int,
                ∃ p43 : Option Addr,
                ∃ k115 : Nat,
                ∃ k116 : Nat,
                ∃ n106 : Int,
                (e46 = Ending.returned (Value.tuple #[Value.agg #[Value.int IntKind.i64 n104, Value.int IntKind.i64 n105, Value.slice p43 k115 k116], Value.int IntKind.i64 n106])) ∧
                (Keep ([k2, k1]) w91 w92) ∧
                ∀ k117 : Nat,
                (w92.heap.size ≤ k117) →
                ∀ w93 : World,
                (Locl ([k117, k2, k1]) w92 w93) →
                R (Ending.returned (Value.bool (n106 == 6))) w93) ∧
              ∀ k118 : Nat,
              (w91.heap.size ≤ k118) →
              ∀ w94 : World,
              (Locl ([k118, k2, k1]) w91 w94) →
              Calls P F.blend_Apply #[Value.string { data := #[111, 118, 101, 114] }, Value.slice (some { block := k112, off := 0 }) 2 2, Value.agg #[Value.int IntKind.i64 n100, Value.int IntKind.i64 n101, Value.slice p41 k110 k111], Value.agg #[Value.int IntKind.i64 n102, Value.int IntKind.i64 n103, Value.slice p42 k113 k114]] w94 fun e47 w95 =>
              ∃ n107 : Int,
              ∃ n108 : Int,
              ∃ p44 : Option Addr,
              ∃ k119 : Nat,
              ∃ k120 : Nat,
              ∃ n109 : Int,
              (e47 = Ending.returned (Value.tuple #[Value.agg #[Value.int IntKind.i64 n107, Value.int IntKind.i64 n108, Value.slice p44 k119 k120], Value.int IntKind.i64 n109])) ∧
              (Keep ([k118, k2, k1]) w94 w95) ∧
              ∀ w96 : World,
              (Locl ([k118, k2, k1]) w95 w96) →
              R (Ending.returned (Value.bool (n109 == 6))) w96) ∧
            ∀ k121 : Nat,
            (w90.heap.size ≤ k121) →
            ∀ w97 : World,
            (Locl ([k121, k2, k1]) w90 w97) →
            Calls P F.law23_own #[Value.agg #[Value.int IntKind.i64 x3, Value.int IntKind.i64 x4, Value.slice sa2 sl2 sc2]] w97 fun e48 w98 =>
            ∃ n110 : Int,
            ∃ n111 : Int,
            ∃ p45 : Option Addr,
            ∃ k122 : Nat,
            ∃ k123 : Nat,
            (e48 = Ending.returned (Value.agg #[Value.int IntKind.i64 n110, Value.int IntKind.i64 n111, Value.slice p45 k122 k123])) ∧
            (Keep ([k121, k2, k1]) w97 w98) ∧
            Calls P F.blend_Apply #[Value.string { data := #[111, 118, 101, 114] }, Value.slice (some { block := k112, off := 0 }) 2 2, Value.agg #[Value.int IntKind.i64 n100, Value.int IntKind.i64 n101, Value.slice p41 k110 k111], Value.agg #[Value.int IntKind.i64 n110, Value.int IntKind.i64 n111, Value.slice p45 k122 k123]] w98 fun e49 w99 =>
            ∃ n112 : Int,
            ∃ n113 : Int,
            ∃ p46 : Option Addr,
            ∃ k124 : Nat,
            ∃ k125 : Nat,
            ∃ n114 : Int,
            (e49 = Ending.returned (Value.tuple #[Value.agg #[Value.int IntKind.i64 n112, Value.int IntKind.i64 n113, Value.slice p46 k124 k125], Value.int IntKind.i64 n114])) ∧
            (Keep ([k121, k2, k1]) w98 w99) ∧
            ∀ w100 : World,
            (Locl ([k121, k2, k1]) w99 w100) →
            R (Ending.returned (Value.bool (n114 == 6))) w100) ∧
          (Calls P F.law23_own #[Value.agg #[Value.int IntKind.i64 x3, Value.int IntKind.i64 x4, Value.slice sa2 sl2 sc2]] w89 fun e50 w101 =>
            ∃ n115 : Int,
            ∃ n116 : Int,
            ∃ p47 : Option Addr,
            ∃ k126 : Nat,
            ∃ k127 : Nat,
            (e50 = Ending.returned (Value.agg #[Value.int IntKind.i64 n115, Value.int IntKind.i64 n116, Value.slice p47 k126 k127])) ∧
            (Keep ([k2, k1]) w89 w101) ∧
            (∀ k128 : Nat,
              ∀ w102 : World,
              (New w101 (Obj.cells #[Value.int IntKind.i64 0, Value.int IntKind.i64 0] 3) k128 w102) →
              (Calls P F.blend_Apply #[Value.string { data := #[111, 118, 101, 114] }, Value.slice (some { block := k128, off := 0 }) 2 2, Value.agg #[Value.int IntKind.i64 n100, Value.int IntKind.i64 n101, Value.slice p41 k110 k111], Value.agg #[Value.int IntKind.i64 n115, Value.int IntKind.i64 n116, Value.slice p47 k126 k127]] w102 fun e51 w103 =>
                ∃ n117 : Int,
                ∃ n118 : Int,
                ∃ p48 : Option Addr,
                ∃ k129 : Nat,
                ∃ k130 : Nat,
                ∃ n119 : Int,
                (e51 = Ending.returned (Value.tuple #[Value.agg #[Value.int IntKind.i64 n117, Value.int IntKind.i64 n118, Value.slice p48 k129 k130], Value.int IntKind.i64 n119])) ∧
                (Keep ([k2, k1]) w102 w103) ∧
                ∀ k131 : Nat,
                (w103.heap.size ≤ k131) →
                ∀ w104 : World,
                (Locl ([k131, k2, k1]) w103 w104) →
                R (Ending.returned (Value.bool (n119 == 6))) w104) ∧
              ∀ k132 : Nat,
              (w102.heap.size ≤ k132) →
              ∀ w105 : World,
              (Locl ([k132, k2, k1]) w102 w105) →
              Calls P F.blend_Apply #[Value.string { data := #[111, 118, 101, 114] }, Value.slice (some { block := k128, off := 0 }) 2 2, Value.agg #[Value.int IntKind.i64 n100, Value.int IntKind.i64 n101, Value.slice p41 k110 k111], Value.agg #[Value.int IntKind.i64 n115, Value.int IntKind.i64 n116, Value.slice p47 k126 k127]] w105 fun e52 w106 =>
              ∃ n120 : Int,
              ∃ n121 : Int,
              ∃ p49 : Option Addr,
              ∃ k133 : Nat,
              ∃ k134 : Nat,
              ∃ n122 : Int,
              (e52 = Ending.returned (Value.tuple #[Value.agg #[Value.int IntKind.i64 n120, Value.int IntKind.i64 n121, Value.slice p49 k133 k134], Value.int IntKind.i64 n122])) ∧
              (Keep ([k132, k2, k1]) w105 w106) ∧
              ∀ w107 : World,
              (Locl ([k132, k2, k1]) w106 w107) →
              R (Ending.returned (Value.bool (n122 == 6))) w107) ∧
            ∀ k135 : Nat,
            (w101.heap.size ≤ k135) →
            ∀ w108 : World,
            (Locl ([k135, k2, k1]) w101 w108) →
            ∀ k136 : Nat,
            ∀ w109 : World,
            (New w108 (Obj.cells #[Value.int IntKind.i64 0, Value.int IntKind.i64 0] 3) k136 w109) →
            Calls P F.blend_Apply #[Value.string { data := #[111, 118, 101, 114] }, Value.slice (some { block := k136, off := 0 }) 2 2, Value.agg #[Value.int IntKind.i64 n100, Value.int IntKind.i64 n101, Value.slice p41 k110 k111], Value.agg #[Value.int IntKind.i64 n115, Value.int IntKind.i64 n116, Value.slice p47 k126 k127]] w109 fun e53 w110 =>
            ∃ n123 : Int,
            ∃ n124 : Int,
            ∃ p50 : Option Addr,
            ∃ k137 : Nat,
            ∃ k138 : Nat,
            ∃ n125 : Int,
            (e53 = Ending.returned (Value.tuple #[Value.agg #[Value.int IntKind.i64 n123, Value.int IntKind.i64 n124, Value.slice p50 k137 k138], Value.int IntKind.i64 n125])) ∧
            (Keep ([k135, k2, k1]) w109 w110) ∧
            ∀ w111 : World,
            (Locl ([k135, k2, k1]) w110 w111) →
            R (Ending.returned (Value.bool (n125 == 6))) w111) ∧
          ∀ k139 : Nat,
          (w89.heap.size ≤ k139) →
          (∀ w112 : World,
            (Locl ([k139, k2, k1]) w89 w112) →
            ∀ k140 : Nat,
            ∀ w113 : World,
            (New w112 (Obj.cells #[Value.int IntKind.i64 0, Value.int IntKind.i64 0] 3) k140 w113) →
            Calls P F.law23_own #[Value.agg #[Value.int IntKind.i64 x3, Value.int IntKind.i64 x4, Value.slice sa2 sl2 sc2]] w113 fun e54 w114 =>
            ∃ n126 : Int,
            ∃ n127 : Int,
            ∃ p51 : Option Addr,
            ∃ k141 : Nat,
            ∃ k142 : Nat,
            (e54 = Ending.returned (Value.agg #[Value.int IntKind.i64 n126, Value.int IntKind.i64 n127, Value.slice p51 k141 k142])) ∧
            (Keep ([k139, k2, k1]) w113 w114) ∧
            Calls P F.blend_Apply #[Value.string { data := #[111, 118, 101, 114] }, Value.slice (some { block := k140, off := 0 }) 2 2, Value.agg #[Value.int IntKind.i64 n100, Value.int IntKind.i64 n101, Value.slice p41 k110 k111], Value.agg #[Value.int IntKind.i64 n126, Value.int IntKind.i64 n127, Value.slice p51 k141 k142]] w114 fun e55 w115 =>
            ∃ n128 : Int,
            ∃ n129 : Int,
            ∃ p52 : Option Addr,
            ∃ k143 : Nat,
            ∃ k144 : Nat,
            ∃ n130 : Int,
            (e55 = Ending.returned (Value.tuple #[Value.agg #[Value.int IntKind.i64 n128, Value.int IntKind.i64 n129, Value.slice p52 k143 k144], Value.int IntKind.i64 n130])) ∧
            (Keep ([k139, k2, k1]) w114 w115) ∧
            ∀ w116 : World,
            (Locl ([k139, k2, k1]) w115 w116) →
            R (Ending.returned (Value.bool (n130 == 6))) w116) ∧
          ∀ w117 : World,
          (Locl ([k139, k2, k1]) w89 w117) →
          Calls P F.law23_own #[Value.agg #[Value.int IntKind.i64 x3, Value.int IntKind.i64 x4, Value.slice sa2 sl2 sc2]] w117 fun e56 w118 =>
          ∃ n131 : Int,
          ∃ n132 : Int,
          ∃ p53 : Option Addr,
          ∃ k145 : Nat,
          ∃ k146 : Nat,
          (e56 = Ending.returned (Value.agg #[Value.int IntKind.i64 n131, Value.int IntKind.i64 n132, Value.slice p53 k145 k146])) ∧
          (Keep ([k139, k2, k1]) w117 w118) ∧
          ∀ k147 : Nat,
          ∀ w119 : World,
          (New w118 (Obj.cells #[Value.int IntKind.i64 0, Value.int IntKind.i64 0] 3) k147 w119) →
          Calls P F.blend_Apply #[Value.string { data := #[111, 118, 101, 114] }, Value.slice (some { block := k147, off := 0 }) 2 2, Value.agg #[Value.int IntKind.i64 n100, Value.int IntKind.i64 n101, Value.slice p41 k110 k111], Value.agg #[Value.int IntKind.i64 n131, Value.int IntKind.i64 n132, Value.slice p53 k145 k146]] w119 fun e57 w120 =>
          ∃ n133 : Int,
          ∃ n134 : Int,
          ∃ p54 : Option Addr,
          ∃ k148 : Nat,
          ∃ k149 : Nat,
          ∃ n135 : Int,
          (e57 = Ending.returned (Value.tuple #[Value.agg #[Value.int IntKind.i64 n133, Value.int IntKind.i64 n134, Value.slice p54 k148 k149], Value.int IntKind.i64 n135])) ∧
          (Keep ([k139, k2, k1]) w119 w120) ∧
          ∀ w121 : World,
          (Locl ([k139, k2, k1]) w120 w121) →
          R (Ending.returned (Value.bool (n135 == 6))) w121) ∧
        ∀ k150 : Nat,
        (w71.drew.heap.size ≤ k150) →
        (∀ w122 : World,
          (Locl ([k150, k2, k1]) (w71.drew) w122) →
          ∀ k151 : Nat,
          ∀ w123 : World,
          (New w122 (Obj.cells #[Value.int IntKind.i64 0, Value.int IntKind.i64 0] 3) k151 w123) →
          Calls P F.law23_own #[Value.agg #[Value.int IntKind.i64 x1, Value.int IntKind.i64 x2, Value.slice sa1 sl1 sc1]] w123 fun e58 w124 =>
          ∃ n136 : Int,
          ∃ n137 : Int,
          ∃ p55 : Option Addr,
          ∃ k152 : Nat,
          ∃ k153 : Nat,
          (e58 = Ending.returned (Value.agg #[Value.int IntKind.i64 n136, Value.int IntKind.i64 n137, Value.slice p55 k152 k153])) ∧
          (Keep ([k150, k2, k1]) w123 w124) ∧
          (Keeps w123 w124) ∧
          Calls P F.law23_own #[Value.agg #[Value.int IntKind.i64 x3, Value.int IntKind.i64 x4, Value.slice sa2 sl2 sc2]] w124 fun e59 w125 =>
          ∃ n138 : Int,
          ∃ n139 : Int,
          ∃ p56 : Option Addr,
          ∃ k154 : Nat,
          ∃ k155 : Nat,
          (e59 = Ending.returned (Value.agg #[Value.int IntKind.i64 n138, Value.int IntKind.i64 n139, Value.slice p56 k154 k155])) ∧
          (Keep ([k150, k2, k1]) w124 w125) ∧
          Calls P F.blend_Apply #[Value.string { data := #[111, 118, 101, 114] }, Value.slice (some { block := k151, off := 0 }) 2 2, Value.agg #[Value.int IntKind.i64 n136, Value.int IntKind.i64 n137, Value.slice p55 k152 k153], Value.agg #[Value.int IntKind.i64 n138, Value.int IntKind.i64 n139, Value.slice p56 k154 k155]] w125 fun e60 w126 =>
          ∃ n140 : Int,
          ∃ n141 : Int,
          ∃ p57 : Option Addr,
          ∃ k156 : Nat,
          ∃ k157 : Nat,
          ∃ n142 : Int,
          (e60 = Ending.returned (Value.tuple #[Value.agg #[Value.int IntKind.i64 n140, Value.int IntKind.i64 n141, Value.slice p57 k156 k157], Value.int IntKind.i64 n142])) ∧
          (Keep ([k150, k2, k1]) w125 w126) ∧
          ∀ w127 : World,
          (Locl ([k150, k2, k1]) w126 w127) →
          R (Ending.returned (Value.bool (n142 == 6))) w127) ∧
        ∀ w128 : World,
        (Locl ([k150, k2, k1]) (w71.drew) w128) →
        Calls P F.law23_own #[Value.agg #[Value.int IntKind.i64 x1, Value.int IntKind.i64 x2, Value.slice sa1 sl1 sc1]] w128 fun e61 w129 =>
        ∃ n143 : Int,
        ∃ n144 : Int,
        ∃ p58 : Option Addr,
        ∃ k158 : Nat,
        ∃ k159 : Nat,
        (e61 = Ending.returned (Value.agg #[Value.int IntKind.i64 n143, Value.int IntKind.i64 n144, Value.slice p58 k158 k159])) ∧
        (Keep ([k150, k2, k1]) w128 w129) ∧
        (Keeps w128 w129) ∧
        (∀ k160 : Nat,
          ∀ w130 : World,
          (New w129 (Obj.cells #[Value.int IntKind.i64 0, Value.int IntKind.i64 0] 3) k160 w130) →
          Calls P F.law23_own #[Value.agg #[Value.int IntKind.i64 x3, Value.int IntKind.i64 x4, Value.slice sa2 sl2 sc2]] w130 fun e62 w131 =>
          ∃ n145 : Int,
          ∃ n146 : Int,
          ∃ p59 : Option Addr,
          ∃ k161 : Nat,
          ∃ k162 : Nat,
          (e62 = Ending.returned (Value.agg #[Value.int IntKind.i64 n145, Value.int IntKind.i64 n146, Value.slice p59 k161 k162])) ∧
          (Keep ([k150, k2, k1]) w130 w131) ∧
          Calls P F.blend_Apply #[Value.string { data := #[111, 118, 101, 114] }, Value.slice (some { block := k160, off := 0 }) 2 2, Value.agg #[Value.int IntKind.i64 n143, Value.int IntKind.i64 n144, Value.slice p58 k158 k159], Value.agg #[Value.int IntKind.i64 n145, Value.int IntKind.i64 n146, Value.slice p59 k161 k162]] w131 fun e63 w132 =>
          ∃ n147 : Int,
          ∃ n148 : Int,
          ∃ p60 : Option Addr,
          ∃ k163 : Nat,
          ∃ k164 : Nat,
          ∃ n149 : Int,
          (e63 = Ending.returned (Value.tuple #[Value.agg #[Value.int IntKind.i64 n147, Value.int IntKind.i64 n148, Value.slice p60 k163 k164], Value.int IntKind.i64 n149])) ∧
          (Keep ([k150, k2, k1]) w131 w132) ∧
          ∀ w133 : World,
          (Locl ([k150, k2, k1]) w132 w133) →
          R (Ending.returned (Value.bool (n149 == 6))) w133) ∧
        Calls P F.law23_own #[Value.agg #[Value.int IntKind.i64 x3, Value.int IntKind.i64 x4, Value.slice sa2 sl2 sc2]] w129 fun e64 w134 =>
        ∃ n150 : Int,
        ∃ n151 : Int,
        ∃ p61 : Option Addr,
        ∃ k165 : Nat,
        ∃ k166 : Nat,
        (e64 = Ending.returned (Value.agg #[Value.int IntKind.i64 n150, Value.int IntKind.i64 n151, Value.slice p61 k165 k166])) ∧
        (Keep ([k150, k2, k1]) w129 w134) ∧
        ∀ k167 : Nat,
        ∀ w135 : World,
        (New w134 (Obj.cells #[Value.int IntKind.i64 0, Value.int IntKind.i64 0] 3) k167 w135) →
        Calls P F.blend_Apply #[Value.string { data := #[111, 118, 101, 114] }, Value.slice (some { block := k167, off := 0 }) 2 2, Value.agg #[Value.int IntKind.i64 n143, Value.int IntKind.i64 n144, Value.slice p58 k158 k159], Value.agg #[Value.int IntKind.i64 n150, Value.int IntKind.i64 n151, Value.slice p61 k165 k166]] w135 fun e65 w136 =>
        ∃ n152 : Int,
        ∃ n153 : Int,
        ∃ p62 : Option Addr,
        ∃ k168 : Nat,
        ∃ k169 : Nat,
        ∃ n154 : Int,
        (e65 = Ending.returned (Value.tuple #[Value.agg #[Value.int IntKind.i64 n152, Value.int IntKind.i64 n153, Value.slice p62 k168 k169], Value.int IntKind.i64 n154])) ∧
        (Keep ([k150, k2, k1]) w135 w136) ∧
        ∀ w137 : World,
        (Locl ([k150, k2, k1]) w136 w137) →
        R (Ending.returned (Value.bool (n154 == 6))) w137)
        (∃ I1 : List Value → World → Prop,
        ((Calls P F.law23_own #[Value.agg #[Value.int IntKind.i64 x3, Value.int IntKind.i64 x4, Value.slice sa2 sl2 sc2]] (w71.drew) fun e66 w138 =>
            ∃ n155 : Int,
            ∃ n156 : Int,
            ∃ p63 : Option Addr,
            ∃ k170 : Nat,
            ∃ k171 : Nat,
            (e66 = Ending.returned (Value.agg #[Value.int IntKind.i64 n155, Value.int IntKind.i64 n156, Value.slice p63 k170 k171])) ∧
            (Keep ([k2, k1]) (w71.drew) w138) ∧
            (Keeps (w71.drew) w138) ∧
            (Calls P F.law23_own #[Value.agg #[Value.int IntKind.i64 x1, Value.int IntKind.i64 x2, Value.slice sa1 sl1 sc1]] w138 fun e67 w139 =>
              ∃ n157 : Int,
              ∃ n158 : Int,
              ∃ p64 : Option Addr,
              ∃ k172 : Nat,
              ∃ k173 : Nat,
              (e67 = Ending.returned (Value.agg #[Value.int IntKind.i64 n157, Value.int IntKind.i64 n158, Value.slice p64 k172 k173])) ∧
              (Keep ([k2, k1]) w138 w139) ∧
              (∀ k174 : Nat,
                (w139.heap.size ≤ k174) →
                ∀ k175 : Nat,
                (w139.heap.size ≤ k175) →
                ∀ w140 : World,
                (Locl ([k175, k174, k2, k1]) w139 w140) →
                I1 [Value.pointer (some { block := k174, off := 0 }), Value.int IntKind.i64 n155, Value.int IntKind.i64 n156, Value.slice p63 k170 k171, Value.pointer (some { block := k175, off := 0 }), Value.int IntKind.i64 n157, Value.int IntKind.i64 n158, Value.slice p64 k172 k173] w140) ∧
              ∀ k176 : Nat,
              (w139.heap.size ≤ k176) →
              ∀ k177 : Nat,
              (w139.heap.size ≤ k177) →
              ∀ w141 : World,
              (Locl ([k177, k176, k2, k1]) w139 w141) →
              I1 [Value.pointer (some { block := k177, off := 0 }), Value.int IntKind.i64 n155, Value.int IntKind.i64 n156, Value.slice p63 k170 k171, Value.pointer (some { block := k176, off := 0 }), Value.int IntKind.i64 n157, Value.int IntKind.i64 n158, Value.slice p64 k172 k173] w141) ∧
            (∀ k178 : Nat,
              (w138.heap.size ≤ k178) →
              (∀ w142 : World,
                (Locl ([k178, k2, k1]) w138 w142) →
                Calls P F.law23_own #[Value.agg #[Value.int IntKind.i64 x1, Value.int IntKind.i64 x2, Value.slice sa1 sl1 sc1]] w142 fun e68 w143 =>
                ∃ n159 : Int,
                ∃ n160 : Int,
                ∃ p65 : Option Addr,
                ∃ k179 : Nat,
                ∃ k180 : Nat,
                (e68 = Ending.returned (Value.agg #[Value.int IntKind.i64 n159, Value.int IntKind.i64 n160, Value.slice p65 k179 k180])) ∧
                (Keep ([k178, k2, k1]) w142 w143) ∧
                ∀ k181 : Nat,
                (w143.heap.size ≤ k181) →
                ∀ w144 : World,
                (Locl ([k181, k178, k2, k1]) w143 w144) →
                I1 [Value.pointer (some { block := k178, off := 0 }), Value.int IntKind.i64 n155, Value.int IntKind.i64 n156, Value.slice p63 k170 k171, Value.pointer (some { block := k181, off := 0 }), Value.int IntKind.i64 n159, Value.int IntKind.i64 n160, Value.slice p65 k179 k180] w144) ∧
              ∀ k182 : Nat,
              (w138.heap.size ≤ k182) →
              ∀ w145 : World,
              (Locl ([k182, k178, k2, k1]) w138 w145) →
              Calls P F.law23_own #[Value.agg #[Value.int IntKind.i64 x1, Value.int IntKind.i64 x2, Value.slice sa1 sl1 sc1]] w145 fun e69 w146 =>
              ∃ n161 : Int,
              ∃ n162 : Int,
              ∃ p66 : Option Addr,
              ∃ k183 : Nat,
              ∃ k184 : Nat,
              (e69 = Ending.returned (Value.agg #[Value.int IntKind.i64 n161, Value.int IntKind.i64 n162, Value.slice p66 k183 k184])) ∧
              (Keep ([k182, k178, k2, k1]) w145 w146) ∧
              ∀ w147 : World,
              (Locl ([k182, k178, k2, k1]) w146 w147) →
              I1 [Value.pointer (some { block := k178, off := 0 }), Value.int IntKind.i64 n155, Value.int IntKind.i64 n156, Value.slice p63 k170 k171, Value.pointer (some { block := k182, off := 0 }), Value.int IntKind.i64 n161, Value.int IntKind.i64 n162, Value.slice p66 k183 k184] w147) ∧
            ∀ k185 : Nat,
            (w138.heap.size ≤ k185) →
            (∀ w148 : World,
              (Locl ([k185, k2, k1]) w138 w148) →
              Calls P F.law23_own #[Value.agg #[Value.int IntKind.i64 x1, Value.int IntKind.i64 x2, Value.slice sa1 sl1 sc1]] w148 fun e70 w149 =>
              ∃ n163 : Int,
              ∃ n164 : Int,
              ∃ p67 : Option Addr,
              ∃ k186 : Nat,
              ∃ k187 : Nat,
              (e70 = Ending.returned (Value.agg #[Value.int IntKind.i64 n163, Value.int IntKind.i64 n164, Value.slice p67 k186 k187])) ∧
              (Keep ([k185, k2, k1]) w148 w149) ∧
              ∀ k188 : Nat,
              (w149.heap.size ≤ k188) →
              ∀ w150 : World,
              (Locl ([k188, k185, k2, k1]) w149 w150) →
              I1 [Value.pointer (some { block := k188, off := 0 }), Value.int IntKind.i64 n155, Value.int IntKind.i64 n156, Value.slice p63 k170 k171, Value.pointer (some { block := k185, off := 0 }), Value.int IntKind.i64 n163, Value.int IntKind.i64 n164, Value.slice p67 k186 k187] w150) ∧
            ∀ k189 : Nat,
            (w138.heap.size ≤ k189) →
            ∀ w151 : World,
            (Locl ([k189, k185, k2, k1]) w138 w151) →
            Calls P F.law23_own #[Value.agg #[Value.int IntKind.i64 x1, Value.int IntKind.i64 x2, Value.slice sa1 sl1 sc1]] w151 fun e71 w152 =>
            ∃ n165 : Int,
            ∃ n166 : Int,
            ∃ p68 : Option Addr,
            ∃ k190 : Nat,
            ∃ k191 : Nat,
            (e71 = Ending.returned (Value.agg #[Value.int IntKind.i64 n165, Value.int IntKind.i64 n166, Value.slice p68 k190 k191])) ∧
            (Keep ([k189, k185, k2, k1]) w151 w152) ∧
            ∀ w153 : World,
            (Locl ([k189, k185, k2, k1]) w152 w153) →
            I1 [Value.pointer (some { block := k189, off := 0 }), Value.int IntKind.i64 n155, Value.int IntKind.i64 n156, Value.slice p63 k170 k171, Value.pointer (some { block := k185, off := 0 }), Value.int IntKind.i64 n165, Value.int IntKind.i64 n166, Value.slice p68 k190 k191] w153) ∧
          (∀ k192 : Nat,
            (w71.drew.heap.size ≤ k192) →
            (∀ w154 : World,
              (Locl ([k192, k2, k1]) (w71.drew) w154) →
              Calls P F.law23_own #[Value.agg #[Value.int IntKind.i64 x3, Value.int IntKind.i64 x4, Value.slice sa2 sl2 sc2]] w154 fun e72 w155 =>
              ∃ n167 : Int,
              ∃ n168 : Int,
              ∃ p69 : Option Addr,
              ∃ k193 : Nat,
              ∃ k194 : Nat,
              (e72 = Ending.returned (Value.agg #[Value.int IntKind.i64 n167, Value.int IntKind.i64 n168, Value.slice p69 k193 k194])) ∧
              (Keep ([k192, k2, k1]) w154 w155) ∧
              (Keeps w154 w155) ∧
              (Calls P F.law23_own #[Value.agg #[Value.int IntKind.i64 x1, Value.int IntKind.i64 x2, Value.slice sa1 sl1 sc1]] w155 fun e73 w156 =>
                ∃ n169 : Int,
                ∃ n170 : Int,
                ∃ p70 : Option Addr,
                ∃ k195 : Nat,
                ∃ k196 : Nat,
                (e73 = Ending.returned (Value.agg #[Value.int IntKind.i64 n169, Value.int IntKind.i64 n170, Value.slice p70 k195 k196])) ∧
                (Keep ([k192, k2, k1]) w155 w156) ∧
                ∀ k197 : Nat,
                (w156.heap.size ≤ k197) →
                ∀ w157 : World,
                (Locl ([k197, k192, k2, k1]) w156 w157) →
                I1 [Value.pointer (some { block := k192, off := 0 }), Value.int IntKind.i64 n167, Value.int IntKind.i64 n168, Value.slice p69 k193 k194, Value.pointer (some { block := k197, off := 0 }), Value.int IntKind.i64 n169, Value.int IntKind.i64 n170, Value.slice p70 k195 k196] w157) ∧
              ∀ k198 : Nat,
              (w155.heap.size ≤ k198) →
              ∀ w158 : World,
              (Locl ([k198, k192, k2, k1]) w155 w158) →
              Calls P F.law23_own #[Value.agg #[Value.int IntKind.i64 x1, Value.int IntKind.i64 x2, Value.slice sa1 sl1 sc1]] w158 fun e74 w159 =>
              ∃ n171 : Int,
              ∃ n172 : Int,
              ∃ p71 : Option Addr,
              ∃ k199 : Nat,
              ∃ k200 : Nat,
              (e74 = Ending.returned (Value.agg #[Value.int IntKind.i64 n171, Value.int IntKind.i64 n172, Value.slice p71 k199 k200])) ∧
              (Keep ([k198, k192, k2, k1]) w158 w159) ∧
              ∀ w160 : World,
              (Locl ([k198, k192, k2, k1]) w159 w160) →
              I1 [Value.pointer (some { block := k192, off := 0 }), Value.int IntKind.i64 n167, Value.int IntKind.i64 n168, Value.slice p69 k193 k194, Value.pointer (some { block := k198, off := 0 }), Value.int IntKind.i64 n171, Value.int IntKind.i64 n172, Value.slice p71 k199 k200] w160) ∧
            ∀ k201 : Nat,
            (w71.drew.heap.size ≤ k201) →
            ∀ w161 : World,
            (Locl ([k201, k192, k2, k1]) (w71.drew) w161) →
            Calls P F.law23_own #[Value.agg #[Value.int IntKind.i64 x3, Value.int IntKind.i64 x4, Value.slice sa2 sl2 sc2]] w161 fun e75 w162 =>
            ∃ n173 : Int,
            ∃ n174 : Int,
            ∃ p72 : Option Addr,
            ∃ k202 : Nat,
            ∃ k203 : Nat,
            (e75 = Ending.returned (Value.agg #[Value.int IntKind.i64 n173, Value.int IntKind.i64 n174, Value.slice p72 k202 k203])) ∧
            (Keep ([k201, k192, k2, k1]) w161 w162) ∧
            (Keeps w161 w162) ∧
            Calls P F.law23_own #[Value.agg #[Value.int IntKind.i64 x1, Value.int IntKind.i64 x2, Value.slice sa1 sl1 sc1]] w162 fun e76 w163 =>
            ∃ n175 : Int,
            ∃ n176 : Int,
            ∃ p73 : Option Addr,
            ∃ k204 : Nat,
            ∃ k205 : Nat,
            (e76 = Ending.returned (Value.agg #[Value.int IntKind.i64 n175, Value.int IntKind.i64 n176, Value.slice p73 k204 k205])) ∧
            (Keep ([k201, k192, k2, k1]) w162 w163) ∧
            ∀ w164 : World,
            (Locl ([k201, k192, k2, k1]) w163 w164) →
            I1 [Value.pointer (some { block := k192, off := 0 }), Value.int IntKind.i64 n173, Value.int IntKind.i64 n174, Value.slice p72 k202 k203, Value.pointer (some { block := k201, off := 0 }), Value.int IntKind.i64 n175, Value.int IntKind.i64 n176, Value.slice p73 k204 k205] w164) ∧
          ∀ k206 : Nat,
          (w71.drew.heap.size ≤ k206) →
          (∀ w165 : World,
            (Locl ([k206, k2, k1]) (w71.drew) w165) →
            Calls P F.law23_own #[Value.agg #[Value.int IntKind.i64 x3, Value.int IntKind.i64 x4, Value.slice sa2 sl2 sc2]] w165 fun e77 w166 =>
            ∃ n177 : Int,
            ∃ n178 : Int,
            ∃ p74 : Option Addr,
            ∃ k207 : Nat,
            ∃ k208 : Nat,
            (e77 = Ending.returned (Value.agg #[Value.int IntKind.i64 n177, Value.int IntKind.i64 n178, Value.slice p74 k207 k208])) ∧
            (Keep ([k206, k2, k1]) w165 w166) ∧
            (Keeps w165 w166) ∧
            (Calls P F.law23_own #[Value.agg #[Value.int IntKind.i64 x1, Value.int IntKind.i64 x2, Value.slice sa1 sl1 sc1]] w166 fun e78 w167 =>
              ∃ n179 : Int,
              ∃ n180 : Int,
              ∃ p75 : Option Addr,
              ∃ k209 : Nat,
              ∃ k210 : Nat,
              (e78 = Ending.returned (Value.agg #[Value.int IntKind.i64 n179, Value.int IntKind.i64 n180, Value.slice p75 k209 k210])) ∧
              (Keep ([k206, k2, k1]) w166 w167) ∧
              ∀ k211 : Nat,
              (w167.heap.size ≤ k211) →
              ∀ w168 : World,
              (Locl ([k211, k206, k2, k1]) w167 w168) →
              I1 [Value.pointer (some { block := k211, off := 0 }), Value.int IntKind.i64 n177, Value.int IntKind.i64 n178, Value.slice p74 k207 k208, Value.pointer (some { block := k206, off := 0 }), Value.int IntKind.i64 n179, Value.int IntKind.i64 n180, Value.slice p75 k209 k210] w168) ∧
            ∀ k212 : Nat,
            (w166.heap.size ≤ k212) →
            ∀ w169 : World,
            (Locl ([k212, k206, k2, k1]) w166 w169) →
            Calls P F.law23_own #[Value.agg #[Value.int IntKind.i64 x1, Value.int IntKind.i64 x2, Value.slice sa1 sl1 sc1]] w169 fun e79 w170 =>
            ∃ n181 : Int,
            ∃ n182 : Int,
            ∃ p76 : Option Addr,
            ∃ k213 : Nat,
            ∃ k214 : Nat,
            (e79 = Ending.returned (Value.agg #[Value.int IntKind.i64 n181, Value.int IntKind.i64 n182, Value.slice p76 k213 k214])) ∧
            (Keep ([k212, k206, k2, k1]) w169 w170) ∧
            ∀ w171 : World,
            (Locl ([k212, k206, k2, k1]) w170 w171) →
            I1 [Value.pointer (some { block := k212, off := 0 }), Value.int IntKind.i64 n177, Value.int IntKind.i64 n178, Value.slice p74 k207 k208, Value.pointer (some { block := k206, off := 0 }), Value.int IntKind.i64 n181, Value.int IntKind.i64 n182, Value.slice p76 k213 k214] w171) ∧
          ∀ k215 : Nat,
          (w71.drew.heap.size ≤ k215) →
          ∀ w172 : World,
          (Locl ([k215, k206, k2, k1]) (w71.drew) w172) →
          Calls P F.law23_own #[Value.agg #[Value.int IntKind.i64 x3, Value.int IntKind.i64 x4, Value.slice sa2 sl2 sc2]] w172 fun e80 w173 =>
          ∃ n183 : Int,
          ∃ n184 : Int,
          ∃ p77 : Option Addr,
          ∃ k216 : Nat,
          ∃ k217 : Nat,
          (e80 = Ending.returned (Value.agg #[Value.int IntKind.i64 n183, Value.int IntKind.i64 n184, Value.slice p77 k216 k217])) ∧
          (Keep ([k215, k206, k2, k1]) w172 w173) ∧
          (Keeps w172 w173) ∧
          Calls P F.law23_own #[Value.agg #[Value.int IntKind.i64 x1, Value.int IntKind.i64 x2, Value.slice sa1 sl1 sc1]] w173 fun e81 w174 =>
          ∃ n185 : Int,
          ∃ n186 : Int,
          ∃ p78 : Option Addr,
          ∃ k218 : Nat,
          ∃ k219 : Nat,
          (e81 = Ending.returned (Value.agg #[Value.int IntKind.i64 n185, Value.int IntKind.i64 n186, Value.slice p78 k218 k219])) ∧
          (Keep ([k215, k206, k2, k1]) w173 w174) ∧
          ∀ w175 : World,
          (Locl ([k215, k206, k2, k1]) w174 w175) →
          I1 [Value.pointer (some { block := k215, off := 0 }), Value.int IntKind.i64 n183, Value.int IntKind.i64 n184, Value.slice p77 k216 k217, Value.pointer (some { block := k206, off := 0 }), Value.int IntKind.i64 n185, Value.int IntKind.i64 n186, Value.slice p78 k218 k219] w175) ∧
        ∀ k220 : Nat,
        ∀ n187 : Int,
        ∀ n188 : Int,
        ∀ p79 : Option Addr,
        ∀ k221 : Nat,
        ∀ k222 : Nat,
        ∀ k223 : Nat,
        ∀ n189 : Int,
        ∀ n190 : Int,
        ∀ p80 : Option Addr,
        ∀ k224 : Nat,
        ∀ k225 : Nat,
        ∀ w176 : World,
        (I1 [Value.pointer (some { block := k220, off := 0 }), Value.int IntKind.i64 n187, Value.int IntKind.i64 n188, Value.slice p79 k221 k222, Value.pointer (some { block := k223, off := 0 }), Value.int IntKind.i64 n189, Value.int IntKind.i64 n190, Value.slice p80 k224 k225] w176) →
        ∃ I2 : List Value → World → Prop,
        ∃ m1 : List Value → World → Nat,
        (I2 [Value.int IntKind.i64 3] w176) ∧
        ∀ n191 : Int,
        ∀ w177 : World,
        (I2 [Value.int IntKind.i64 n191] w177) →
        brB (decide (n191 < (↑k221 : Int)))
          (idx (p79) (k221) (n191) (1) fun a1 =>
          (∃ v1 : Value,
            w177.cell? a1 = some v1) ∧
          (w177.frozen? a1 = false) ∧
          (¬a1.block ∈ [k223, k220, k2, k1]) ∧
          (I2 [Value.int IntKind.i64 (IntKind.i64.wrap (n191 + 4))] (setCells w177 a1 [Value.int IntKind.u16 0] 0)) ∧
          m1 [Value.int IntKind.i64 (IntKind.i64.wrap (n191 + 4))] (setCells w177 a1 [Value.int IntKind.u16 0] 0) < m1 [Value.int IntKind.i64 n191] w177)
          (∃ I3 : List Value → World → Prop,
          ∃ m2 : List Value → World → Nat,
          (I3 [Value.int IntKind.i64 0] w177) ∧
          ∀ n192 : Int,
          ∀ w178 : World,
          (I3 [Value.int IntKind.i64 n192] w178) →
          brB (decide (n192 < (↑k224 : Int)))
            (∃ I4 : List Value → World → Prop,
            (idx (p80) (k224) (n192) (1) fun a2 =>
              ∃ n193 : Int,
              (w178.drew.cell? a2 = some (Value.int IntKind.u16 n193)) ∧
              idx (p80) (k224) (n192) (1) fun a3 =>
              (∃ v2 : Value,
                w178.drew.cell? a3 = some v2) ∧
              (w178.drew.frozen? a3 = false) ∧
              (¬a3.block ∈ [k223, k220, k2, k1]) ∧
              brB (divZ BinOp.rem IntKind.i64 n192 4 == 3)
                (idx (p80) (k224) (n192) (1) fun a4 =>
                (∃ v3 : Value,
                  (setCells w178.drew a3 [Value.int IntKind.u16 (IntKind.u16.wrap (65535 - n193))] 0).cell? a4 = some v3) ∧
                ((setCells w178.drew a3 [Value.int IntKind.u16 (IntKind.u16.wrap (65535 - n193))] 0).frozen? a4 = false) ∧
                (¬a4.block ∈ [k223, k220, k2, k1]) ∧
                I4 [] (setCells (setCells w178.drew a3 [Value.int IntKind.u16 (IntKind.u16.wrap (65535 - n193))] 0) a4 [Value.int IntKind.u16 65535] 0))
                (I4 [] (setCells w178.drew a3 [Value.int IntKind.u16 (IntKind.u16.wrap (65535 - n193))] 0))) ∧
            ∀ w179 : World,
            (I4 [] w179) →
            (I3 [Value.int IntKind.i64 (IntKind.i64.wrap (n192 + 1))] w179) ∧
            m2 [Value.int IntKind.i64 (IntKind.i64.wrap (n192 + 1))] w179 < m2 [Value.int IntKind.i64 n192] w178)
            (∃ I5 : List Value → World → Prop,
            (((0 : Int) ≤ 0) ∧
              ((0 : Int) < 2) ∧
              ∃ n194 : Int,
              (w178.drew.cell? { block := k3, off := 0 } = some (Value.int IntKind.i64 n194)) ∧
              ((0 : Int) ≤ 1) ∧
              ((1 : Int) < 2) ∧
              ∃ n195 : Int,
              (w178.drew.cell? { block := k3, off := 1 } = some (Value.int IntKind.i64 n195)) ∧
              (∀ k226 : Nat,
                ∀ w180 : World,
                (New (w178.drew) (Obj.cells #[Value.int IntKind.i64 (divZ BinOp.rem IntKind.i64 n194 4097), Value.int IntKind.i64 (divZ BinOp.rem IntKind.i64 n195 4097)] 3) k226 w180) →
                (Calls P F.law23_own #[Value.agg #[Value.int IntKind.i64 x1, Value.int IntKind.i64 x2, Value.slice sa1 sl1 sc1]] w180 fun e82 w181 =>
                  ∃ n196 : Int,
                  ∃ n197 : Int,
                  ∃ p81 : Option Addr,
                  ∃ k227 : Nat,
                  ∃ k228 : Nat,
                  (e82 = Ending.returned (Value.agg #[Value.int IntKind.i64 n196, Value.int IntKind.i64 n197, Value.slice p81 k227 k228])) ∧
                  (Keep ([k223, k220, k2, k1]) w180 w181) ∧
                  (Keeps w180 w181) ∧
                  (Calls P F.blend_Apply #[Value.string { data := #[111, 118, 101, 114] }, Value.slice (some { block := k226, off := 0 }) 2 2, Value.agg #[Value.int IntKind.i64 n196, Value.int IntKind.i64 n197, Value.slice p81 k227 k228], Value.agg #[Value.int IntKind.i64 n187, Value.int IntKind.i64 n188, Value.slice p79 k221 k222]] w181 fun e83 w182 =>
                    ∃ n198 : Int,
                    ∃ n199 : Int,
                    ∃ p82 : Option Addr,
                    ∃ k229 : Nat,
                    ∃ k230 : Nat,
                    ∃ n200 : Int,
                    (e83 = Ending.returned (Value.tuple #[Value.agg #[Value.int IntKind.i64 n198, Value.int IntKind.i64 n199, Value.slice p82 k229 k230], Value.int IntKind.i64 n200])) ∧
                    (Keep ([k223, k220, k2, k1]) w181 w182) ∧
                    ∀ k231 : Nat,
                    (w182.heap.size ≤ k231) →
                    ∀ w183 : World,
                    (Locl ([k231, k223, k220, k2, k1]) w182 w183) →
                    I5 [Value.int IntKind.i64 n200, Value.pointer (some { block := k231, off := 0 }), Value.int IntKind.i64 n198, Value.int IntKind.i64 n199, Value.slice p82 k229 k230] w183) ∧
                  ∀ k232 : Nat,
                  (w181.heap.size ≤ k232) →
                  ∀ w184 : World,
                  (Locl ([k232, k223, k220, k2, k1]) w181 w184) →
                  Calls P F.blend_Apply #[Value.string { data := #[111, 118, 101, 114] }, Value.slice (some { block := k226, off := 0 }) 2 2, Value.agg #[Value.int IntKind.i64 n196, Value.int IntKind.i64 n197, Value.slice p81 k227 k228], Value.agg #[Value.int IntKind.i64 n187, Value.int IntKind.i64 n188, Value.slice p79 k221 k222]] w184 fun e84 w185 =>
                  ∃ n201 : Int,
                  ∃ n202 : Int,
                  ∃ p83 : Option Addr,
                  ∃ k233 : Nat,
                  ∃ k234 : Nat,
                  ∃ n203 : Int,
                  (e84 = Ending.returned (Value.tuple #[Value.agg #[Value.int IntKind.i64 n201, Value.int IntKind.i64 n202, Value.slice p83 k233 k234], Value.int IntKind.i64 n203])) ∧
                  (Keep ([k232, k223, k220, k2, k1]) w184 w185) ∧
                  ∀ w186 : World,
                  (Locl ([k232, k223, k220, k2, k1]) w185 w186) →
                  I5 [Value.int IntKind.i64 n203, Value.pointer (some { block := k232, off := 0 }), Value.int IntKind.i64 n201, Value.int IntKind.i64 n202, Value.slice p83 k233 k234] w186) ∧
                ∀ k235 : Nat,
                (w180.heap.size ≤ k235) →
                ∀ w187 : World,
                (Locl ([k235, k223, k220, k2, k1]) w180 w187) →
                Calls P F.law23_own #[Value.agg #[Value.int IntKind.i64 x1, Value.int IntKind.i64 x2, Value.slice sa1 sl1 sc1]] w187 fun e85 w188 =>
                ∃ n204 : Int,
                ∃ n205 : Int,
                ∃ p84 : Option Addr,
                ∃ k236 : Nat,
                ∃ k237 : Nat,
                (e85 = Ending.returned (Value.agg #[Value.int IntKind.i64 n204, Value.int IntKind.i64 n205, Value.slice p84 k236 k237])) ∧
                (Keep ([k235, k223, k220, k2, k1]) w187 w188) ∧
                (Keeps w187 w188) ∧
                Calls P F.blend_Apply #[Value.string { data := #[111, 118, 101, 114] }, Value.slice (some { block := k226, off := 0 }) 2 2, Value.agg #[Value.int IntKind.i64 n204, Value.int IntKind.i64 n205, Value.slice p84 k236 k237], Value.agg #[Value.int IntKind.i64 n187, Value.int IntKind.i64 n188, Value.slice p79 k221 k222]] w188 fun e86 w189 =>
                ∃ n206 : Int,
                ∃ n207 : Int,
                ∃ p85 : Option Addr,
                ∃ k238 : Nat,
                ∃ k239 : Nat,
                ∃ n208 : Int,
                (e86 = Ending.returned (Value.tuple #[Value.agg #[Value.int IntKind.i64 n206, Value.int IntKind.i64 n207, Value.slice p85 k238 k239], Value.int IntKind.i64 n208])) ∧
                (Keep ([k235, k223, k220, k2, k1]) w188 w189) ∧
                ∀ w190 : World,
                (Locl ([k235, k223, k220, k2, k1]) w189 w190) →
                I5 [Value.int IntKind.i64 n208, Value.pointer (some { block := k235, off := 0 }), Value.int IntKind.i64 n206, Value.int IntKind.i64 n207, Value.slice p85 k238 k239] w190) ∧
              (Calls P F.law23_own #[Value.agg #[Value.int IntKind.i64 x1, Value.int IntKind.i64 x2, Value.slice sa1 sl1 sc1]] (w178.drew) fun e87 w191 =>
                ∃ n209 : Int,
                ∃ n210 : Int,
                ∃ p86 : Option Addr,
                ∃ k240 : Nat,
                ∃ k241 : Nat,
                (e87 = Ending.returned (Value.agg #[Value.int IntKind.i64 n209, Value.int IntKind.i64 n210, Value.slice p86 k240 k241])) ∧
                (Keep ([k223, k220, k2, k1]) (w178.drew) w191) ∧
                (Keeps (w178.drew) w191) ∧
                (∀ k242 : Nat,
                  ∀ w192 : World,
                  (New w191 (Obj.cells #[Value.int IntKind.i64 (divZ BinOp.rem IntKind.i64 n194 4097), Value.int IntKind.i64 (divZ BinOp.rem IntKind.i64 n195 4097)] 3) k242 w192) →
                  (Calls P F.blend_Apply #[Value.string { data := #[111, 118, 101, 114] }, Value.slice (some { block := k242, off := 0 }) 2 2, Value.agg #[Value.int IntKind.i64 n209, Value.int IntKind.i64 n210, Value.slice p86 k240 k241], Value.agg #[Value.int IntKind.i64 n187, Value.int IntKind.i64 n188, Value.slice p79 k221 k222]] w192 fun e88 w193 =>
                    ∃ n211 : Int,
                    ∃ n212 : Int,
                    ∃ p87 : Option Addr,
                    ∃ k243 : Nat,
                    ∃ k244 : Nat,
                    ∃ n213 : Int,
                    (e88 = Ending.returned (Value.tuple #[Value.agg #[Value.int IntKind.i64 n211, Value.int IntKind.i64 n212, Value.slice p87 k243 k244], Value.int IntKind.i64 n213])) ∧
                    (Keep ([k223, k220, k2, k1]) w192 w193) ∧
                    ∀ k245 : Nat,
                    (w193.heap.size ≤ k245) →
                    ∀ w194 : World,
                    (Locl ([k245, k223, k220, k2, k1]) w193 w194) →
                    I5 [Value.int IntKind.i64 n213, Value.pointer (some { block := k245, off := 0 }), Value.int IntKind.i64 n211, Value.int IntKind.i64 n212, Value.slice p87 k243 k244] w194) ∧
                  ∀ k246 : Nat,
                  (w192.heap.size ≤ k246) →
                  ∀ w195 : World,
                  (Locl ([k246, k223, k220, k2, k1]) w192 w195) →
                  Calls P F.blend_Apply #[Value.string { data := #[111, 118, 101, 114] }, Value.slice (some { block := k242, off := 0 }) 2 2, Value.agg #[Value.int IntKind.i64 n209, Value.int IntKind.i64 n210, Value.slice p86 k240 k241], Value.agg #[Value.int IntKind.i64 n187, Value.int IntKind.i64 n188, Value.slice p79 k221 k222]] w195 fun e89 w196 =>
                  ∃ n214 : Int,
                  ∃ n215 : Int,
                  ∃ p88 : Option Addr,
                  ∃ k247 : Nat,
                  ∃ k248 : Nat,
                  ∃ n216 : Int,
                  (e89 = Ending.returned (Value.tuple #[Value.agg #[Value.int IntKind.i64 n214, Value.int IntKind.i64 n215, Value.slice p88 k247 k248], Value.int IntKind.i64 n216])) ∧
                  (Keep ([k246, k223, k220, k2, k1]) w195 w196) ∧
                  ∀ w197 : World,
                  (Locl ([k246, k223, k220, k2, k1]) w196 w197) →
                  I5 [Value.int IntKind.i64 n216, Value.pointer (some { block := k246, off := 0 }), Value.int IntKind.i64 n214, Value.int IntKind.i64 n215, Value.slice p88 k247 k248] w197) ∧
                ∀ k249 : Nat,
                (w191.heap.size ≤ k249) →
                ∀ w198 : World,
                (Locl ([k249, k223, k220, k2, k1]) w191 w198) →
                ∀ k250 : Nat,
                ∀ w199 : World,
                (New w198 (Obj.cells #[Value.int IntKind.i64 (divZ BinOp.rem IntKind.i64 n194 4097), Value.int IntKind.i64 (divZ BinOp.rem IntKind.i64 n195 4097)] 3) k250 w199) →
                Calls P F.blend_Apply #[Value.string { data := #[111, 118, 101, 114] }, Value.slice (some { block := k250, off := 0 }) 2 2, Value.agg #[Value.int IntKind.i64 n209, Value.int IntKind.i64 n210, Value.slice p86 k240 k241], Value.agg #[Value.int IntKind.i64 n187, Value.int IntKind.i64 n188, Value.slice p79 k221 k222]] w199 fun e90 w200 =>
                ∃ n217 : Int,
                ∃ n218 : Int,
                ∃ p89 : Option Addr,
                ∃ k251 : Nat,
                ∃ k252 : Nat,
                ∃ n219 : Int,
                (e90 = Ending.returned (Value.tuple #[Value.agg #[Value.int IntKind.i64 n217, Value.int IntKind.i64 n218, Value.slice p89 k251 k252], Value.int IntKind.i64 n219])) ∧
                (Keep ([k249, k223, k220, k2, k1]) w199 w200) ∧
                ∀ w201 : World,
                (Locl ([k249, k223, k220, k2, k1]) w200 w201) →
                I5 [Value.int IntKind.i64 n219, Value.pointer (some { block := k249, off := 0 }), Value.int IntKind.i64 n217, Value.int IntKind.i64 n218, Value.slice p89 k251 k252] w201) ∧
              ∀ k253 : Nat,
              (w178.drew.heap.size ≤ k253) →
              (∀ w202 : World,
                (Locl ([k253, k223, k220, k2, k1]) (w178.drew) w202) →
                ∀ k254 : Nat,
                ∀ w203 : World,
                (New w202 (Obj.cells #[Value.int IntKind.i64 (divZ BinOp.rem IntKind.i64 n194 4097), Value.int IntKind.i64 (divZ BinOp.rem IntKind.i64 n195 4097)] 3) k254 w203) →
                Calls P F.law23_own #[Value.agg #[Value.int IntKind.i64 x1, Value.int IntKind.i64 x2, Value.slice sa1 sl1 sc1]] w203 fun e91 w204 =>
                ∃ n220 : Int,
                ∃ n221 : Int,
                ∃ p90 : Option Addr,
                ∃ k255 : Nat,
                ∃ k256 : Nat,
                (e91 = Ending.returned (Value.agg #[Value.int IntKind.i64 n220, Value.int IntKind.i64 n221, Value.slice p90 k255 k256])) ∧
                (Keep ([k253, k223, k220, k2, k1]) w203 w204) ∧
                (Keeps w203 w204) ∧
                Calls P F.blend_Apply #[Value.string { data := #[111, 118, 101, 114] }, Value.slice (some { block := k254, off := 0 }) 2 2, Value.agg #[Value.int IntKind.i64 n220, Value.int IntKind.i64 n221, Value.slice p90 k255 k256], Value.agg #[Value.int IntKind.i64 n187, Value.int IntKind.i64 n188, Value.slice p79 k221 k222]] w204 fun e92 w205 =>
                ∃ n222 : Int,
                ∃ n223 : Int,
                ∃ p91 : Option Addr,
                ∃ k257 : Nat,
                ∃ k258 : Nat,
                ∃ n224 : Int,
                (e92 = Ending.returned (Value.tuple #[Value.agg #[Value.int IntKind.i64 n222, Value.int IntKind.i64 n223, Value.slice p91 k257 k258], Value.int IntKind.i64 n224])) ∧
                (Keep ([k253, k223, k220, k2, k1]) w204 w205) ∧
                ∀ w206 : World,
                (Locl ([k253, k223, k220, k2, k1]) w205 w206) →
                I5 [Value.int IntKind.i64 n224, Value.pointer (some { block := k253, off := 0 }), Value.int IntKind.i64 n222, Value.int IntKind.i64 n223, Value.slice p91 k257 k258] w206) ∧
              ∀ w207 : World,
              (Locl ([k253, k223, k220, k2, k1]) (w178.drew) w207) →
              Calls P F.law23_own #[Value.agg #[Value.int IntKind.i64 x1, Value.int IntKind.i64 x2, Value.slice sa1 sl1 sc1]] w207 fun e93 w208 =>
              ∃ n225 : Int,
              ∃ n226 : Int,
              ∃ p92 : Option Addr,
              ∃ k259 : Nat,
              ∃ k260 : Nat,
              (e93 = Ending.returned (Value.agg #[Value.int IntKind.i64 n225, Value.int IntKind.i64 n226, Value.slice p92 k259 k260])) ∧
              (Keep ([k253, k223, k220, k2, k1]) w207 w208) ∧
              (Keeps w207 w208) ∧
              ∀ k261 : Nat,
              ∀ w209 : World,
              (New w208 (Obj.cells #[Value.int IntKind.i64 (divZ BinOp.rem IntKind.i64 n194 4097), Value.int IntKind.i64 (divZ BinOp.rem IntKind.i64 n195 4097)] 3) k261 w209) →
              Calls P F.blend_Apply #[Value.string { data := #[111, 118, 101, 114] }, Value.slice (some { block := k261, off := 0 }) 2 2, Value.agg #[Value.int IntKind.i64 n225, Value.int IntKind.i64 n226, Value.slice p92 k259 k260], Value.agg #[Value.int IntKind.i64 n187, Value.int IntKind.i64 n188, Value.slice p79 k221 k222]] w209 fun e94 w210 =>
              ∃ n227 : Int,
              ∃ n228 : Int,
              ∃ p93 : Option Addr,
              ∃ k262 : Nat,
              ∃ k263 : Nat,
              ∃ n229 : Int,
              (e94 = Ending.returned (Value.tuple #[Value.agg #[Value.int IntKind.i64 n227, Value.int IntKind.i64 n228, Value.slice p93 k262 k263], Value.int IntKind.i64 n229])) ∧
              (Keep ([k253, k223, k220, k2, k1]) w209 w210) ∧
              ∀ w211 : World,
              (Locl ([k253, k223, k220, k2, k1]) w210 w211) →
              I5 [Value.int IntKind.i64 n229, Value.pointer (some { block := k253, off := 0 }), Value.int IntKind.i64 n227, Value.int IntKind.i64 n228, Value.slice p93 k262 k263] w211) ∧
            ∀ n230 : Int,
            ∀ k264 : Nat,
            ∀ n231 : Int,
            ∀ n232 : Int,
            ∀ p94 : Option Addr,
            ∀ k265 : Nat,
            ∀ k266 : Nat,
            ∀ w212 : World,
            (I5 [Value.int IntKind.i64 n230, Value.pointer (some { block := k264, off := 0 }), Value.int IntKind.i64 n231, Value.int IntKind.i64 n232, Value.slice p94 k265 k266] w212) →
            ∃ I6 : List Value → World → Prop,
            ((∀ k267 : Nat,
                ∀ w213 : World,
                (New (w212.drew) (Obj.cells #[Value.int IntKind.i64 0, Value.int IntKind.i64 0] 3) k267 w213) →
                (Calls P F.law23_own #[Value.agg #[Value.int IntKind.i64 x1, Value.int IntKind.i64 x2, Value.slice sa1 sl1 sc1]] w213 fun e95 w214 =>
                  ∃ n233 : Int,
                  ∃ n234 : Int,
                  ∃ p95 : Option Addr,
                  ∃ k268 : Nat,
                  ∃ k269 : Nat,
                  (e95 = Ending.returned (Value.agg #[Value.int IntKind.i64 n233, Value.int IntKind.i64 n234, Value.slice p95 k268 k269])) ∧
                  (Keep ([k264, k223, k220, k2, k1]) w213 w214) ∧
                  (Keeps w213 w214) ∧
                  (Calls P F.law23_own #[Value.agg #[Value.int IntKind.i64 n189, Value.int IntKind.i64 n190, Value.slice p80 k224 k225]] w214 fun e96 w215 =>
                    ∃ n235 : Int,
                    ∃ n236 : Int,
                    ∃ p96 : Option Addr,
                    ∃ k270 : Nat,
                    ∃ k271 : Nat,
                    (e96 = Ending.returned (Value.agg #[Value.int IntKind.i64 n235, Value.int IntKind.i64 n236, Value.slice p96 k270 k271])) ∧
                    (Keep ([k264, k223, k220, k2, k1]) w214 w215) ∧
                    (Calls P F.blend_Apply #[Value.string { data := #[111, 118, 101, 114] }, Value.slice (some { block := k267, off := 0 }) 2 2, Value.agg #[Value.int IntKind.i64 n233, Value.int IntKind.i64 n234, Value.slice p95 k268 k269], Value.agg #[Value.int IntKind.i64 n235, Value.int IntKind.i64 n236, Value.slice p96 k270 k271]] w215 fun e97 w216 =>
                      ∃ n237 : Int,
                      ∃ n238 : Int,
                      ∃ p97 : Option Addr,
                      ∃ k272 : Nat,
                      ∃ k273 : Nat,
                      ∃ n239 : Int,
                      (e97 = Ending.returned (Value.tuple #[Value.agg #[Value.int IntKind.i64 n237, Value.int IntKind.i64 n238, Value.slice p97 k272 k273], Value.int IntKind.i64 n239])) ∧
                      (Keep ([k264, k223, k220, k2, k1]) w215 w216) ∧
                      ∀ k274 : Nat,
                      (w216.heap.size ≤ k274) →
                      ∀ w217 : World,
                      (Locl ([k274, k264, k223, k220, k2, k1]) w216 w217) →
                      I6 [Value.int IntKind.i64 n239, Value.pointer (some { block := k274, off := 0 }), Value.int IntKind.i64 n237, Value.int IntKind.i64 n238, Value.slice p97 k272 k273] w217) ∧
                    ∀ k275 : Nat,
                    (w215.heap.size ≤ k275) →
                    ∀ w218 : World,
                    (Locl ([k275, k264, k223, k220, k2, k1]) w215 w218) →
                    Calls P F.blend_Apply #[Value.string { data := #[111, 118, 101, 114] }, Value.slice (some { block := k267, off := 0 }) 2 2, Value.agg #[Value.int IntKind.i64 n233, Value.int IntKind.i64 n234, Value.slice p95 k268 k269], Value.agg #[Value.int IntKind.i64 n235, Value.int IntKind.i64 n236, Value.slice p96 k270 k271]] w218 fun e98 w219 =>
                    ∃ n240 : Int,
                    ∃ n241 : Int,
                    ∃ p98 : Option Addr,
                    ∃ k276 : Nat,
                    ∃ k277 : Nat,
                    ∃ n242 : Int,
                    (e98 = Ending.returned (Value.tuple #[Value.agg #[Value.int IntKind.i64 n240, Value.int IntKind.i64 n241, Value.slice p98 k276 k277], Value.int IntKind.i64 n242])) ∧
                    (Keep ([k275, k264, k223, k220, k2, k1]) w218 w219) ∧
                    ∀ w220 : World,
                    (Locl ([k275, k264, k223, k220, k2, k1]) w219 w220) →
                    I6 [Value.int IntKind.i64 n242, Value.pointer (some { block := k275, off := 0 }), Value.int IntKind.i64 n240, Value.int IntKind.i64 n241, Value.slice p98 k276 k277] w220) ∧
                  ∀ k278 : Nat,
                  (w214.heap.size ≤ k278) →
                  ∀ w221 : World,
                  (Locl ([k278, k264, k223, k220, k2, k1]) w214 w221) →
                  Calls P F.law23_own #[Value.agg #[Value.int IntKind.i64 n189, Value.int IntKind.i64 n190, Value.slice p80 k224 k225]] w221 fun e99 w222 =>
                  ∃ n243 : Int,
                  ∃ n244 : Int,
                  ∃ p99 : Option Addr,
                  ∃ k279 : Nat,
                  ∃ k280 : Nat,
                  (e99 = Ending.returned (Value.agg #[Value.int IntKind.i64 n243, Value.int IntKind.i64 n244, Value.slice p99 k279 k280])) ∧
                  (Keep ([k278, k264, k223, k220, k2, k1]) w221 w222) ∧
                  Calls P F.blend_Apply #[Value.string { data := #[111, 118, 101, 114] }, Value.slice (some { block := k267, off := 0 }) 2 2, Value.agg #[Value.int IntKind.i64 n233, Value.int IntKind.i64 n234, Value.slice p95 k268 k269], Value.agg #[Value.int IntKind.i64 n243, Value.int IntKind.i64 n244, Value.slice p99 k279 k280]] w222 fun e100 w223 =>
                  ∃ n245 : Int,
                  ∃ n246 : Int,
                  ∃ p100 : Option Addr,
                  ∃ k281 : Nat,
                  ∃ k282 : Nat,
                  ∃ n247 : Int,
                  (e100 = Ending.returned (Value.tuple #[Value.agg #[Value.int IntKind.i64 n245, Value.int IntKind.i64 n246, Value.slice p100 k281 k282], Value.int IntKind.i64 n247])) ∧
                  (Keep ([k278, k264, k223, k220, k2, k1]) w222 w223) ∧
                  ∀ w224 : World,
                  (Locl ([k278, k264, k223, k220, k2, k1]) w223 w224) →
                  I6 [Value.int IntKind.i64 n247, Value.pointer (some { block := k278, off := 0 }), Value.int IntKind.i64 n245, Value.int IntKind.i64 n246, Value.slice p100 k281 k282] w224) ∧
                ∀ k283 : Nat,
                (w213.heap.size ≤ k283) →
                ∀ w225 : World,
                (Locl ([k283, k264, k223, k220, k2, k1]) w213 w225) →
                Calls P F.law23_own #[Value.agg #[Value.int IntKind.i64 x1, Value.int IntKind.i64 x2, Value.slice sa1 sl1 sc1]] w225 fun e101 w226 =>
                ∃ n248 : Int,
                ∃ n249 : Int,
                ∃ p101 : Option Addr,
                ∃ k284 : Nat,
                ∃ k285 : Nat,
                (e101 = Ending.returned (Value.agg #[Value.int IntKind.i64 n248, Value.int IntKind.i64 n249, Value.slice p101 k284 k285])) ∧
                (Keep ([k283, k264, k223, k220, k2, k1]) w225 w226) ∧
                (Keeps w225 w226) ∧
                Calls P F.law23_own #[Value.agg #[Value.int IntKind.i64 n189, Value.int IntKind.i64 n190, Value.slice p80 k224 k225]] w226 fun e102 w227 =>
                ∃ n250 : Int,
                ∃ n251 : Int,
                ∃ p102 : Option Addr,
                ∃ k286 : Nat,
                ∃ k287 : Nat,
                (e102 = Ending.returned (Value.agg #[Value.int IntKind.i64 n250, Value.int IntKind.i64 n251, Value.slice p102 k286 k287])) ∧
                (Keep ([k283, k264, k223, k220, k2, k1]) w226 w227) ∧
                Calls P F.blend_Apply #[Value.string { data := #[111, 118, 101, 114] }, Value.slice (some { block := k267, off := 0 }) 2 2, Value.agg #[Value.int IntKind.i64 n248, Value.int IntKind.i64 n249, Value.slice p101 k284 k285], Value.agg #[Value.int IntKind.i64 n250, Value.int IntKind.i64 n251, Value.slice p102 k286 k287]] w227 fun e103 w228 =>
                ∃ n252 : Int,
                ∃ n253 : Int,
                ∃ p103 : Option Addr,
                ∃ k288 : Nat,
                ∃ k289 : Nat,
                ∃ n254 : Int,
                (e103 = Ending.returned (Value.tuple #[Value.agg #[Value.int IntKind.i64 n252, Value.int IntKind.i64 n253, Value.slice p103 k288 k289], Value.int IntKind.i64 n254])) ∧
                (Keep ([k283, k264, k223, k220, k2, k1]) w227 w228) ∧
                ∀ w229 : World,
                (Locl ([k283, k264, k223, k220, k2, k1]) w228 w229) →
                I6 [Value.int IntKind.i64 n254, Value.pointer (some { block := k283, off := 0 }), Value.int IntKind.i64 n252, Value.int IntKind.i64 n253, Value.slice p103 k288 k289] w229) ∧
              (Calls P F.law23_own #[Value.agg #[Value.int IntKind.i64 x1, Value.int IntKind.i64 x2, Value.slice sa1 sl1 sc1]] (w212.drew) fun e104 w230 =>
                ∃ n255 : Int,
                ∃ n256 : Int,
                ∃ p104 : Option Addr,
                ∃ k290 : Nat,
                ∃ k291 : Nat,
                (e104 = Ending.returned (Value.agg #[Value.int IntKind.i64 n255, Value.int IntKind.i64 n256, Value.slice p104 k290 k291])) ∧
                (Keep ([k264, k223, k220, k2, k1]) (w212.drew) w230) ∧
                (Keeps (w212.drew) w230) ∧
                (∀ k292 : Nat,
                  ∀ w231 : World,
                  (New w230 (Obj.cells #[Value.int IntKind.i64 0, Value.int IntKind.i64 0] 3) k292 w231) →
                  (Calls P F.law23_own #[Value.agg #[Value.int IntKind.i64 n189, Value.int IntKind.i64 n190, Value.slice p80 k224 k225]] w231 fun e105 w232 =>
                    ∃ n257 : Int,
                    ∃ n258 : Int,
                    ∃ p105 : Option Addr,
                    ∃ k293 : Nat,
                    ∃ k294 : Nat,
                    (e105 = Ending.returned (Value.agg #[Value.int IntKind.i64 n257, Value.int IntKind.i64 n258, Value.slice p105 k293 k294])) ∧
                    (Keep ([k264, k223, k220, k2, k1]) w231 w232) ∧
                    (Calls P F.blend_Apply #[Value.string { data := #[111, 118, 101, 114] }, Value.slice (some { block := k292, off := 0 }) 2 2, Value.agg #[Value.int IntKind.i64 n255, Value.int IntKind.i64 n256, Value.slice p104 k290 k291], Value.agg #[Value.int IntKind.i64 n257, Value.int IntKind.i64 n258, Value.slice p105 k293 k294]] w232 fun e106 w233 =>
                      ∃ n259 : Int,
                      ∃ n260 : Int,
                      ∃ p106 : Option Addr,
                      ∃ k295 : Nat,
                      ∃ k296 : Nat,
                      ∃ n261 : Int,
                      (e106 = Ending.returned (Value.tuple #[Value.agg #[Value.int IntKind.i64 n259, Value.int IntKind.i64 n260, Value.slice p106 k295 k296], Value.int IntKind.i64 n261])) ∧
                      (Keep ([k264, k223, k220, k2, k1]) w232 w233) ∧
                      ∀ k297 : Nat,
                      (w233.heap.size ≤ k297) →
                      ∀ w234 : World,
                      (Locl ([k297, k264, k223, k220, k2, k1]) w233 w234) →
                      I6 [Value.int IntKind.i64 n261, Value.pointer (some { block := k297, off := 0 }), Value.int IntKind.i64 n259, Value.int IntKind.i64 n260, Value.slice p106 k295 k296] w234) ∧
                    ∀ k298 : Nat,
                    (w232.heap.size ≤ k298) →
                    ∀ w235 : World,
                    (Locl ([k298, k264, k223, k220, k2, k1]) w232 w235) →
                    Calls P F.blend_Apply #[Value.string { data := #[111, 118, 101, 114] }, Value.slice (some { block := k292, off := 0 }) 2 2, Value.agg #[Value.int IntKind.i64 n255, Value.int IntKind.i64 n256, Value.slice p104 k290 k291], Value.agg #[Value.int IntKind.i64 n257, Value.int IntKind.i64 n258, Value.slice p105 k293 k294]] w235 fun e107 w236 =>
                    ∃ n262 : Int,
                    ∃ n263 : Int,
                    ∃ p107 : Option Addr,
                    ∃ k299 : Nat,
                    ∃ k300 : Nat,
                    ∃ n264 : Int,
                    (e107 = Ending.returned (Value.tuple #[Value.agg #[Value.int IntKind.i64 n262, Value.int IntKind.i64 n263, Value.slice p107 k299 k300], Value.int IntKind.i64 n264])) ∧
                    (Keep ([k298, k264, k223, k220, k2, k1]) w235 w236) ∧
                    ∀ w237 : World,
                    (Locl ([k298, k264, k223, k220, k2, k1]) w236 w237) →
                    I6 [Value.int IntKind.i64 n264, Value.pointer (some { block := k298, off := 0 }), Value.int IntKind.i64 n262, Value.int IntKind.i64 n263, Value.slice p107 k299 k300] w237) ∧
                  ∀ k301 : Nat,
                  (w231.heap.size ≤ k301) →
                  ∀ w238 : World,
                  (Locl ([k301, k264, k223, k220, k2, k1]) w231 w238) →
                  Calls P F.law23_own #[Value.agg #[Value.int IntKind.i64 n189, Value.int IntKind.i64 n190, Value.slice p80 k224 k225]] w238 fun e108 w239 =>
                  ∃ n265 : Int,
                  ∃ n266 : Int,
                  ∃ p108 : Option Addr,
                  ∃ k302 : Nat,
                  ∃ k303 : Nat,
                  (e108 = Ending.returned (Value.agg #[Value.int IntKind.i64 n265, Value.int IntKind.i64 n266, Value.slice p108 k302 k303])) ∧
                  (Keep ([k301, k264, k223, k220, k2, k1]) w238 w239) ∧
                  Calls P F.blend_Apply #[Value.string { data := #[111, 118, 101, 114] }, Value.slice (some { block := k292, off := 0 }) 2 2, Value.agg #[Value.int IntKind.i64 n255, Value.int IntKind.i64 n256, Value.slice p104 k290 k291], Value.agg #[Value.int IntKind.i64 n265, Value.int IntKind.i64 n266, Value.slice p108 k302 k303]] w239 fun e109 w240 =>
                  ∃ n267 : Int,
                  ∃ n268 : Int,
                  ∃ p109 : Option Addr,
                  ∃ k304 : Nat,
                  ∃ k305 : Nat,
                  ∃ n269 : Int,
                  (e109 = Ending.returned (Value.tuple #[Value.agg #[Value.int IntKind.i64 n267, Value.int IntKind.i64 n268, Value.slice p109 k304 k305], Value.int IntKind.i64 n269])) ∧
                  (Keep ([k301, k264, k223, k220, k2, k1]) w239 w240) ∧
                  ∀ w241 : World,
                  (Locl ([k301, k264, k223, k220, k2, k1]) w240 w241) →
                  I6 [Value.int IntKind.i64 n269, Value.pointer (some { block := k301, off := 0 }), Value.int IntKind.i64 n267, Value.int IntKind.i64 n268, Value.slice p109 k304 k305] w241) ∧
                (Calls P F.law23_own #[Value.agg #[Value.int IntKind.i64 n189, Value.int IntKind.i64 n190, Value.slice p80 k224 k225]] w230 fun e110 w242 =>
                  ∃ n270 : Int,
                  ∃ n271 : Int,
                  ∃ p110 : Option Addr,
                  ∃ k306 : Nat,
                  ∃ k307 : Nat,
                  (e110 = Ending.returned (Value.agg #[Value.int IntKind.i64 n270, Value.int IntKind.i64 n271, Value.slice p110 k306 k307])) ∧
                  (Keep ([k264, k223, k220, k2, k1]) w230 w242) ∧
                  (∀ k308 : Nat,
                    ∀ w243 : World,
                    (New w242 (Obj.cells #[Value.int IntKind.i64 0, Value.int IntKind.i64 0] 3) k308 w243) →
                    (Calls P F.blend_Apply #[Value.string { data := #[111, 118, 101, 114] }, Value.slice (some { block := k308, off := 0 }) 2 2, Value.agg #[Value.int IntKind.i64 n255, Value.int IntKind.i64 n256, Value.slice p104 k290 k291], Value.agg #[Value.int IntKind.i64 n270, Value.int IntKind.i64 n271, Value.slice p110 k306 k307]] w243 fun e111 w244 =>
                      ∃ n272 : Int,
                      ∃ n273 : Int,
                      ∃ p111 : Option Addr,
                      ∃ k309 : Nat,
                      ∃ k310 : Nat,
                      ∃ n274 : Int,
                      (e111 = Ending.returned (Value.tuple #[Value.agg #[Value.int IntKind.i64 n272, Value.int IntKind.i64 n273, Value.slice p111 k309 k310], Value.int IntKind.i64 n274])) ∧
                      (Keep ([k264, k223, k220, k2, k1]) w243 w244) ∧
                      ∀ k311 : Nat,
                      (w244.heap.size ≤ k311) →
                      ∀ w245 : World,
                      (Locl ([k311, k264, k223, k220, k2, k1]) w244 w245) →
                      I6 [Value.int IntKind.i64 n274, Value.pointer (some { block := k311, off := 0 }), Value.int IntKind.i64 n272, Value.int IntKind.i64 n273, Value.slice p111 k309 k310] w245) ∧
                    ∀ k312 : Nat,
                    (w243.heap.size ≤ k312) →
                    ∀ w246 : World,
                    (Locl ([k312, k264, k223, k220, k2, k1]) w243 w246) →
                    Calls P F.blend_Apply #[Value.string { data := #[111, 118, 101, 114] }, Value.slice (some { block := k308, off := 0 }) 2 2, Value.agg #[Value.int IntKind.i64 n255, Value.int IntKind.i64 n256, Value.slice p104 k290 k291], Value.agg #[Value.int IntKind.i64 n270, Value.int IntKind.i64 n271, Value.slice p110 k306 k307]] w246 fun e112 w247 =>
                    ∃ n275 : Int,
                    ∃ n276 : Int,
                    ∃ p112 : Option Addr,
                    ∃ k313 : Nat,
                    ∃ k314 : Nat,
                    ∃ n277 : Int,
                    (e112 = Ending.returned (Value.tuple #[Value.agg #[Value.int IntKind.i64 n275, Value.int IntKind.i64 n276, Value.slice p112 k313 k314], Value.int IntKind.i64 n277])) ∧
                    (Keep ([k312, k264, k223, k220, k2, k1]) w246 w247) ∧
                    ∀ w248 : World,
                    (Locl ([k312, k264, k223, k220, k2, k1]) w247 w248) →
                    I6 [Value.int IntKind.i64 n277, Value.pointer (some { block := k312, off := 0 }), Value.int IntKind.i64 n275, Value.int IntKind.i64 n276, Value.slice p112 k313 k314] w248) ∧
                  ∀ k315 : Nat,
                  (w242.heap.size ≤ k315) →
                  ∀ w249 : World,
                  (Locl ([k315, k264, k223, k220, k2, k1]) w242 w249) →
                  ∀ k316 : Nat,
                  ∀ w250 : World,
                  (New w249 (Obj.cells #[Value.int IntKind.i64 0, Value.int IntKind.i64 0] 3) k316 w250) →
                  Calls P F.blend_Apply #[Value.string { data := #[111, 118, 101, 114] }, Value.slice (some { block := k316, off := 0 }) 2 2, Value.agg #[Value.int IntKind.i64 n255, Value.int IntKind.i64 n256, Value.slice p104 k290 k291], Value.agg #[Value.int IntKind.i64 n270, Value.int IntKind.i64 n271, Value.slice p110 k306 k307]] w250 fun e113 w251 =>
                  ∃ n278 : Int,
                  ∃ n279 : Int,
                  ∃ p113 : Option Addr,
                  ∃ k317 : Nat,
                  ∃ k318 : Nat,
                  ∃ n280 : Int,
                  (e113 = Ending.returned (Value.tuple #[Value.agg #[Value.int IntKind.i64 n278, Value.int IntKind.i64 n279, Value.slice p113 k317 k318], Value.int IntKind.i64 n280])) ∧
                  (Keep ([k315, k264, k223, k220, k2, k1]) w250 w251) ∧
                  ∀ w252 : World,
                  (Locl ([k315, k264, k223, k220, k2, k1]) w251 w252) →
                  I6 [Value.int IntKind.i64 n280, Value.pointer (some { block := k315, off := 0 }), Value.int IntKind.i64 n278, Value.int IntKind.i64 n279, Value.slice p113 k317 k318] w252) ∧
                ∀ k319 : Nat,
                (w230.heap.size ≤ k319) →
                (∀ w253 : World,
                  (Locl ([k319, k264, k223, k220, k2, k1]) w230 w253) →
                  ∀ k320 : Nat,
                  ∀ w254 : World,
                  (New w253 (Obj.cells #[Value.int IntKind.i64 0, Value.int IntKind.i64 0] 3) k320 w254) →
                  Calls P F.law23_own #[Value.agg #[Value.int IntKind.i64 n189, Value.int IntKind.i64 n190, Value.slice p80 k224 k225]] w254 fun e114 w255 =>
                  ∃ n281 : Int,
                  ∃ n282 : Int,
                  ∃ p114 : Option Addr,
                  ∃ k321 : Nat,
                  ∃ k322 : Nat,
                  (e114 = Ending.returned (Value.agg #[Value.int IntKind.i64 n281, Value.int IntKind.i64 n282, Value.slice p114 k321 k322])) ∧
                  (Keep ([k319, k264, k223, k220, k2, k1]) w254 w255) ∧
                  Calls P F.blend_Apply #[Value.string { data := #[111, 118, 101, 114] }, Value.slice (some { block := k320, off := 0 }) 2 2, Value.agg #[Value.int IntKind.i64 n255, Value.int IntKind.i64 n256, Value.slice p104 k290 k291], Value.agg #[Value.int IntKind.i64 n281, Value.int IntKind.i64 n282, Value.slice p114 k321 k322]] w255 fun e115 w256 =>
                  ∃ n283 : Int,
                  ∃ n284 : Int,
                  ∃ p115 : Option Addr,
                  ∃ k323 : Nat,
                  ∃ k324 : Nat,
                  ∃ n285 : Int,
                  (e115 = Ending.returned (Value.tuple #[Value.agg #[Value.int IntKind.i64 n283, Value.int IntKind.i64 n284, Value.slice p115 k323 k324], Value.int IntKind.i64 n285])) ∧
                  (Keep ([k319, k264, k223, k220, k2, k1]) w255 w256) ∧
                  ∀ w257 : World,
                  (Locl ([k319, k264, k223, k220, k2, k1]) w256 w257) →
                  I6 [Value.int IntKind.i64 n285, Value.pointer (some { block := k319, off := 0 }), Value.int IntKind.i64 n283, Value.int IntKind.i64 n284, Value.slice p115 k323 k324] w257) ∧
                ∀ w258 : World,
                (Locl ([k319, k264, k223, k220, k2, k1]) w230 w258) →
                Calls P F.law23_own #[Value.agg #[Value.int IntKind.i64 n189, Value.int IntKind.i64 n190, Value.slice p80 k224 k225]] w258 fun e116 w259 =>
                ∃ n286 : Int,
                ∃ n287 : Int,
                ∃ p116 : Option Addr,
                ∃ k325 : Nat,
                ∃ k326 : Nat,
                (e116 = Ending.returned (Value.agg #[Value.int IntKind.i64 n286, Value.int IntKind.i64 n287, Value.slice p116 k325 k326])) ∧
                (Keep ([k319, k264, k223, k220, k2, k1]) w258 w259) ∧
                ∀ k327 : Nat,
                ∀ w260 : World,
                (New w259 (Obj.cells #[Value.int IntKind.i64 0, Value.int IntKind.i64 0] 3) k327 w260) →
                Calls P F.blend_Apply #[Value.string { data := #[111, 118, 101, 114] }, Value.slice (some { block := k327, off := 0 }) 2 2, Value.agg #[Value.int IntKind.i64 n255, Value.int IntKind.i64 n256, Value.slice p104 k290 k291], Value.agg #[Value.int IntKind.i64 n286, Value.int IntKind.i64 n287, Value.slice p116 k325 k326]] w260 fun e117 w261 =>
                ∃ n288 : Int,
                ∃ n289 : Int,
                ∃ p117 : Option Addr,
                ∃ k328 : Nat,
                ∃ k329 : Nat,
                ∃ n290 : Int,
                (e117 = Ending.returned (Value.tuple #[Value.agg #[Value.int IntKind.i64 n288, Value.int IntKind.i64 n289, Value.slice p117 k328 k329], Value.int IntKind.i64 n290])) ∧
                (Keep ([k319, k264, k223, k220, k2, k1]) w260 w261) ∧
                ∀ w262 : World,
                (Locl ([k319, k264, k223, k220, k2, k1]) w261 w262) →
                I6 [Value.int IntKind.i64 n290, Value.pointer (some { block := k319, off := 0 }), Value.int IntKind.i64 n288, Value.int IntKind.i64 n289, Value.slice p117 k328 k329] w262) ∧
              ∀ k330 : Nat,
              (w212.drew.heap.size ≤ k330) →
              (∀ w263 : World,
                (Locl ([k330, k264, k223, k220, k2, k1]) (w212.drew) w263) →
                ∀ k331 : Nat,
                ∀ w264 : World,
                (New w263 (Obj.cells #[Value.int IntKind.i64 0, Value.int IntKind.i64 0] 3) k331 w264) →
                Calls P F.law23_own #[Value.agg #[Value.int IntKind.i64 x1, Value.int IntKind.i64 x2, Value.slice sa1 sl1 sc1]] w264 fun e118 w265 =>
                ∃ n291 : Int,
                ∃ n292 : Int,
                ∃ p118 : Option Addr,
                ∃ k332 : Nat,
                ∃ k333 : Nat,
                (e118 = Ending.returned (Value.agg #[Value.int IntKind.i64 n291, Value.int IntKind.i64 n292, Value.slice p118 k332 k333])) ∧
                (Keep ([k330, k264, k223, k220, k2, k1]) w264 w265) ∧
                (Keeps w264 w265) ∧
                Calls P F.law23_own #[Value.agg #[Value.int IntKind.i64 n189, Value.int IntKind.i64 n190, Value.slice p80 k224 k225]] w265 fun e119 w266 =>
                ∃ n293 : Int,
                ∃ n294 : Int,
                ∃ p119 : Option Addr,
                ∃ k334 : Nat,
                ∃ k335 : Nat,
                (e119 = Ending.returned (Value.agg #[Value.int IntKind.i64 n293, Value.int IntKind.i64 n294, Value.slice p119 k334 k335])) ∧
                (Keep ([k330, k264, k223, k220, k2, k1]) w265 w266) ∧
                Calls P F.blend_Apply #[Value.string { data := #[111, 118, 101, 114] }, Value.slice (some { block := k331, off := 0 }) 2 2, Value.agg #[Value.int IntKind.i64 n291, Value.int IntKind.i64 n292, Value.slice p118 k332 k333], Value.agg #[Value.int IntKind.i64 n293, Value.int IntKind.i64 n294, Value.slice p119 k334 k335]] w266 fun e120 w267 =>
                ∃ n295 : Int,
                ∃ n296 : Int,
                ∃ p120 : Option Addr,
                ∃ k336 : Nat,
                ∃ k337 : Nat,
                ∃ n297 : Int,
                (e120 = Ending.returned (Value.tuple #[Value.agg #[Value.int IntKind.i64 n295, Value.int IntKind.i64 n296, Value.slice p120 k336 k337], Value.int IntKind.i64 n297])) ∧
                (Keep ([k330, k264, k223, k220, k2, k1]) w266 w267) ∧
                ∀ w268 : World,
                (Locl ([k330, k264, k223, k220, k2, k1]) w267 w268) →
                I6 [Value.int IntKind.i64 n297, Value.pointer (some { block := k330, off := 0 }), Value.int IntKind.i64 n295, Value.int IntKind.i64 n296, Value.slice p120 k336 k337] w268) ∧
              ∀ w269 : World,
              (Locl ([k330, k264, k223, k220, k2, k1]) (w212.drew) w269) →
              Calls P F.law23_own #[Value.agg #[Value.int IntKind.i64 x1, Value.int IntKind.i64 x2, Value.slice sa1 sl1 sc1]] w269 fun e121 w270 =>
              ∃ n298 : Int,
              ∃ n299 : Int,
              ∃ p121 : Option Addr,
              ∃ k338 : Nat,
              ∃ k339 : Nat,
              (e121 = Ending.returned (Value.agg #[Value.int IntKind.i64 n298, Value.int IntKind.i64 n299, Value.slice p121 k338 k339])) ∧
              (Keep ([k330, k264, k223, k220, k2, k1]) w269 w270) ∧
              (Keeps w269 w270) ∧
              (∀ k340 : Nat,
                ∀ w271 : World,
                (New w270 (Obj.cells #[Value.int IntKind.i64 0, Value.int IntKind.i64 0] 3) k340 w271) →
                Calls P F.law23_own #[Value.agg #[Value.int IntKind.i64 n189, Value.int IntKind.i64 n190, Value.slice p80 k224 k225]] w271 fun e122 w272 =>
                ∃ n300 : Int,
                ∃ n301 : Int,
                ∃ p122 : Option Addr,
                ∃ k341 : Nat,
                ∃ k342 : Nat,
                (e122 = Ending.returned (Value.agg #[Value.int IntKind.i64 n300, Value.int IntKind.i64 n301, Value.slice p122 k341 k342])) ∧
                (Keep ([k330, k264, k223, k220, k2, k1]) w271 w272) ∧
                Calls P F.blend_Apply #[Value.string { data := #[111, 118, 101, 114] }, Value.slice (some { block := k340, off := 0 }) 2 2, Value.agg #[Value.int IntKind.i64 n298, Value.int IntKind.i64 n299, Value.slice p121 k338 k339], Value.agg #[Value.int IntKind.i64 n300, Value.int IntKind.i64 n301, Value.slice p122 k341 k342]] w272 fun e123 w273 =>
                ∃ n302 : Int,
                ∃ n303 : Int,
                ∃ p123 : Option Addr,
                ∃ k343 : Nat,
                ∃ k344 : Nat,
                ∃ n304 : Int,
                (e123 = Ending.returned (Value.tuple #[Value.agg #[Value.int IntKind.i64 n302, Value.int IntKind.i64 n303, Value.slice p123 k343 k344], Value.int IntKind.i64 n304])) ∧
                (Keep ([k330, k264, k223, k220, k2, k1]) w272 w273) ∧
                ∀ w274 : World,
                (Locl ([k330, k264, k223, k220, k2, k1]) w273 w274) →
                I6 [Value.int IntKind.i64 n304, Value.pointer (some { block := k330, off := 0 }), Value.int IntKind.i64 n302, Value.int IntKind.i64 n303, Value.slice p123 k343 k344] w274) ∧
              Calls P F.law23_own #[Value.agg #[Value.int IntKind.i64 n189, Value.int IntKind.i64 n190, Value.slice p80 k224 k225]] w270 fun e124 w275 =>
              ∃ n305 : Int,
              ∃ n306 : Int,
              ∃ p124 : Option Addr,
              ∃ k345 : Nat,
              ∃ k346 : Nat,
              (e124 = Ending.returned (Value.agg #[Value.int IntKind.i64 n305, Value.int IntKind.i64 n306, Value.slice p124 k345 k346])) ∧
              (Keep ([k330, k264, k223, k220, k2, k1]) w270 w275) ∧
              ∀ k347 : Nat,
              ∀ w276 : World,
              (New w275 (Obj.cells #[Value.int IntKind.i64 0, Value.int IntKind.i64 0] 3) k347 w276) →
              Calls P F.blend_Apply #[Value.string { data := #[111, 118, 101, 114] }, Value.slice (some { block := k347, off := 0 }) 2 2, Value.agg #[Value.int IntKind.i64 n298, Value.int IntKind.i64 n299, Value.slice p121 k338 k339], Value.agg #[Value.int IntKind.i64 n305, Value.int IntKind.i64 n306, Value.slice p124 k345 k346]] w276 fun e125 w277 =>
              ∃ n307 : Int,
              ∃ n308 : Int,
              ∃ p125 : Option Addr,
              ∃ k348 : Nat,
              ∃ k349 : Nat,
              ∃ n309 : Int,
              (e125 = Ending.returned (Value.tuple #[Value.agg #[Value.int IntKind.i64 n307, Value.int IntKind.i64 n308, Value.slice p125 k348 k349], Value.int IntKind.i64 n309])) ∧
              (Keep ([k330, k264, k223, k220, k2, k1]) w276 w277) ∧
              ∀ w278 : World,
              (Locl ([k330, k264, k223, k220, k2, k1]) w277 w278) →
              I6 [Value.int IntKind.i64 n309, Value.pointer (some { block := k330, off := 0 }), Value.int IntKind.i64 n307, Value.int IntKind.i64 n308, Value.slice p125 k348 k349] w278) ∧
            ∀ n310 : Int,
            ∀ k350 : Nat,
            ∀ n311 : Int,
            ∀ n312 : Int,
            ∀ p126 : Option Addr,
            ∀ k351 : Nat,
            ∀ k352 : Nat,
            ∀ w279 : World,
            (I6 [Value.int IntKind.i64 n310, Value.pointer (some { block := k350, off := 0 }), Value.int IntKind.i64 n311, Value.int IntKind.i64 n312, Value.slice p126 k351 k352] w279) →
            brB (n230 == 0 && n310 == 0)
              (Calls P F.ref09_Same #[Value.agg #[Value.int IntKind.i64 n231, Value.int IntKind.i64 n232, Value.slice p94 k265 k266], Value.agg #[Value.int IntKind.i64 x1, Value.int IntKind.i64 x2, Value.slice sa1 sl1 sc1]] w279 fun e126 w280 =>
              ∃ c4 : Bool,
              (e126 = Ending.returned (Value.bool c4)) ∧
              (Keep ([k350, k264, k223, k220, k2, k1]) w279 w280) ∧
              brB (c4)
                (Calls P F.ref09_Same #[Value.agg #[Value.int IntKind.i64 n311, Value.int IntKind.i64 n312, Value.slice p126 k351 k352], Value.agg #[Value.int IntKind.i64 n189, Value.int IntKind.i64 n190, Value.slice p80 k224 k225]] w280 fun e127 w281 =>
                ∃ c5 : Bool,
                (e127 = Ending.returned (Value.bool c5)) ∧
                (Keep ([k350, k264, k223, k220, k2, k1]) w280 w281) ∧
                R (Ending.returned (Value.bool c5)) w281)
                (R (Ending.returned (Value.bool false)) w280))
              (R (Ending.returned (Value.bool false)) w279))))))
theorem calls_law23_BlendCovers (x1 : Int) (x2 : Int) (sa1 : Option Addr) (sl1 sc1 : Nat) (x3 : Int) (x4 : Int) (sa2 : Option Addr) (sl2 sc2 : Nat) (x5 : Int) (x6 : Int) (w : World) (R : Ending → World → Prop) (h : vc_law23_BlendCovers x1 x2 sa1 sl1 sc1 x3 x4 sa2 sl2 sc2 x5 x6 w R) : Calls P F.law23_BlendCovers #[.agg #[.int .i64 x1, .int .i64 x2, .slice sa1 sl1 sc1], .agg #[.int .i64 x3, .int .i64 x4, .slice sa2 sl2 sc2], .agg #[.int .i64 x5, .int .i64 x6]] w R :=
  calls_of_vc (fn := Try.f6) (ac := ac_law23_BlendCovers) (args := [.agg #[.int .i64 x1, .int .i64 x2, .slice sa1 sl1 sc1], .agg #[.int .i64 x3, .int .i64 x4, .slice sa2 sl2 sc2], .agg #[.int .i64 x5, .int .i64 x6]]) mixed Try.func6 (by kernel_rfl) (cast (by unfold vc_law23_BlendCovers FnVc; kernel_rfl) h)
end Go.Proofs.Ytombfebgojeliaa
