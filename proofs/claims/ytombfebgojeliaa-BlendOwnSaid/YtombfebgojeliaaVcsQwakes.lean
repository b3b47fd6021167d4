/- The condition of a great law, written out (by a program of ours), and the theorem that it suffices. -/
import Derived.Test.YtombfebgojeliaaVcs
namespace Go.Proofs.Ytombfebgojeliaa
open Go Go.Vc
set_option maxRecDepth 100000
set_option linter.unusedVariables false
/-- darkroom/darkroomlaw23.wakes -/
def vc_law23_wakes  (w : World) (R : Ending → World → Prop) : Prop :=
  ∀ k1 : Nat,
  ∀ w1 : World,
  (New w (Obj.cells #[Value.int IntKind.u16 100, Value.int IntKind.u16 65535, Value.int IntKind.u16 0, Value.int IntKind.u16 9] 50) k1 w1) →
  ∀ k2 : Nat,
  (w1.heap.size ≤ k2) →
  ∀ w2 : World,
  (Locl ([k2]) w1 w2) →
  ∀ k3 : Nat,
  ∀ w3 : World,
  (New w2 (Obj.cells #[Value.int IntKind.u16 30, Value.int IntKind.u16 5, Value.int IntKind.u16 7, Value.int IntKind.u16 65535] 50) k3 w3) →
  ∀ k4 : Nat,
  (w3.heap.size ≤ k4) →
  ∃ I1 : List Value → World → Prop,
  ((∀ w4 : World,
      (Locl ([k4, k2]) w3 w4) →
      Calls P F.law23_own #[Value.agg #[Value.int IntKind.i64 1, Value.int IntKind.i64 1, Value.slice (some { block := k3, off := 0 }) 4 4]] w4 fun e1 w5 =>
      ∃ n1 : Int,
      ∃ n2 : Int,
      ∃ p1 : Option Addr,
      ∃ k5 : Nat,
      ∃ k6 : Nat,
      (e1 = Ending.returned (Value.agg #[Value.int IntKind.i64 n1, Value.int IntKind.i64 n2, Value.slice p1 k5 k6])) ∧
      (Keep ([k4, k2]) w4 w5) ∧
      (Keeps w4 w5) ∧
      (Calls P F.law23_own #[Value.agg #[Value.int IntKind.i64 1, Value.int IntKind.i64 1, Value.slice (some { block := k1, off := 0 }) 4 4]] w5 fun e2 w6 =>
        ∃ n3 : Int,
        ∃ n4 : Int,
        ∃ p2 : Option Addr,
        ∃ k7 : Nat,
        ∃ k8 : Nat,
        (e2 = Ending.returned (Value.agg #[Value.int IntKind.i64 n3, Value.int IntKind.i64 n4, Value.slice p2 k7 k8])) ∧
        (Keep ([k4, k2]) w5 w6) ∧
        (Calls P F.blend_Apply #[Value.string { data := #[109, 105, 110, 117, 115] }, Value.slice none 0 0, Value.agg #[Value.int IntKind.i64 n1, Value.int IntKind.i64 n2, Value.slice p1 k5 k6], Value.agg #[Value.int IntKind.i64 n3, Value.int IntKind.i64 n4, Value.slice p2 k7 k8]] w6 fun e3 w7 =>
          ∃ n5 : Int,
          ∃ n6 : Int,
          ∃ p3 : Option Addr,
          ∃ k9 : Nat,
          ∃ k10 : Nat,
          ∃ n7 : Int,
          (e3 = Ending.returned (Value.tuple #[Value.agg #[Value.int IntKind.i64 n5, Value.int IntKind.i64 n6, Value.slice p3 k9 k10], Value.int IntKind.i64 n7])) ∧
          (Keep ([k4, k2]) w6 w7) ∧
          ∀ k11 : Nat,
          (w7.heap.size ≤ k11) →
          ∀ w8 : World,
          (Locl ([k11, k4, k2]) w7 w8) →
          I1 [Value.int IntKind.i64 n7, Value.pointer (some { block := k11, off := 0 }), Value.int IntKind.i64 n5, Value.int IntKind.i64 n6, Value.slice p3 k9 k10] w8) ∧
        ∀ k12 : Nat,
        (w6.heap.size ≤ k12) →
        ∀ w9 : World,
        (Locl ([k12, k4, k2]) w6 w9) →
        Calls P F.blend_Apply #[Value.string { data := #[109, 105, 110, 117, 115] }, Value.slice none 0 0, Value.agg #[Value.int IntKind.i64 n1, Value.int IntKind.i64 n2, Value.slice p1 k5 k6], Value.agg #[Value.int IntKind.i64 n3, Value.int IntKind.i64 n4, Value.slice p2 k7 k8]] w9 fun e4 w10 =>
        ∃ n8 : Int,
        ∃ n9 : Int,
        ∃ p4 : Option Addr,
        ∃ k13 : Nat,
        ∃ k14 : Nat,
        ∃ n10 : Int,
        (e4 = Ending.returned (Value.tuple #[Value.agg #[Value.int IntKind.i64 n8, Value.int IntKind.i64 n9, Value.slice p4 k13 k14], Value.int IntKind.i64 n10])) ∧
        (Keep ([k12, k4, k2]) w9 w10) ∧
        ∀ w11 : World,
        (Locl ([k12, k4, k2]) w10 w11) →
        I1 [Value.int IntKind.i64 n10, Value.pointer (some { block := k12, off := 0 }), Value.int IntKind.i64 n8, Value.int IntKind.i64 n9, Value.slice p4 k13 k14] w11) ∧
      ∀ k15 : Nat,
      (w5.heap.size ≤ k15) →
      ∀ w12 : World,
      (Locl ([k15, k4, k2]) w5 w12) →
      Calls P F.law23_own #[Value.agg #[Value.int IntKind.i64 1, Value.int IntKind.i64 1, Value.slice (some { block := k1, off := 0 }) 4 4]] w12 fun e5 w13 =>
      ∃ n11 : Int,
      ∃ n12 : Int,
      ∃ p5 : Option Addr,
      ∃ k16 : Nat,
      ∃ k17 : Nat,
      (e5 = Ending.returned (Value.agg #[Value.int IntKind.i64 n11, Value.int IntKind.i64 n12, Value.slice p5 k16 k17])) ∧
      (Keep ([k15, k4, k2]) w12 w13) ∧
      Calls P F.blend_Apply #[Value.string { data := #[109, 105, 110, 117, 115] }, Value.slice none 0 0, Value.agg #[Value.int IntKind.i64 n1, Value.int IntKind.i64 n2, Value.slice p1 k5 k6], Value.agg #[Value.int IntKind.i64 n11, Value.int IntKind.i64 n12, Value.slice p5 k16 k17]] w13 fun e6 w14 =>
      ∃ n13 : Int,
      ∃ n14 : Int,
      ∃ p6 : Option Addr,
      ∃ k18 : Nat,
      ∃ k19 : Nat,
      ∃ n15 : Int,
      (e6 = Ending.returned (Value.tuple #[Value.agg #[Value.int IntKind.i64 n13, Value.int IntKind.i64 n14, Value.slice p6 k18 k19], Value.int IntKind.i64 n15])) ∧
      (Keep ([k15, k4, k2]) w13 w14) ∧
      ∀ w15 : World,
      (Locl ([k15, k4, k2]) w14 w15) →
      I1 [Value.int IntKind.i64 n15, Value.pointer (some { block := k15, off := 0 }), Value.int IntKind.i64 n13, Value.int IntKind.i64 n14, Value.slice p6 k18 k19] w15) ∧
    ∀ k20 : Nat,
    (w3.heap.size ≤ k20) →
    ∀ w16 : World,
    (Locl ([k20, k4, k2]) w3 w16) →
    Calls P F.law23_own #[Value.agg #[Value.int IntKind.i64 1, Value.int IntKind.i64 1, Value.slice (some { block := k3, off := 0 }) 4 4]] w16 fun e7 w17 =>
    ∃ n16 : Int,
    ∃ n17 : Int,
    ∃ p7 : Option Addr,
    ∃ k21 : Nat,
    ∃ k22 : Nat,
    (e7 = Ending.returned (Value.agg #[Value.int IntKind.i64 n16, Value.int IntKind.i64 n17, Value.slice p7 k21 k22])) ∧
    (Keep ([k20, k4, k2]) w16 w17) ∧
    (Keeps w16 w17) ∧
    Calls P F.law23_own #[Value.agg #[Value.int IntKind.i64 1, Value.int IntKind.i64 1, Value.slice (some { block := k1, off := 0 }) 4 4]] w17 fun e8 w18 =>
    ∃ n18 : Int,
    ∃ n19 : Int,
    ∃ p8 : Option Addr,
    ∃ k23 : Nat,
    ∃ k24 : Nat,
    (e8 = Ending.returned (Value.agg #[Value.int IntKind.i64 n18, Value.int IntKind.i64 n19, Value.slice p8 k23 k24])) ∧
    (Keep ([k20, k4, k2]) w17 w18) ∧
    Calls P F.blend_Apply #[Value.string { data := #[109, 105, 110, 117, 115] }, Value.slice none 0 0, Value.agg #[Value.int IntKind.i64 n16, Value.int IntKind.i64 n17, Value.slice p7 k21 k22], Value.agg #[Value.int IntKind.i64 n18, Value.int IntKind.i64 n19, Value.slice p8 k23 k24]] w18 fun e9 w19 =>
    ∃ n20 : Int,
    ∃ n21 : Int,
    ∃ p9 : Option Addr,
    ∃ k25 : Nat,
    ∃ k26 : Nat,
    ∃ n22 : Int,
    (e9 = Ending.returned (Value.tuple #[Value.agg #[Value.int IntKind.i64 n20, Value.int IntKind.i64 n21, Value.slice p9 k25 k26], Value.int IntKind.i64 n22])) ∧
    (Keep ([k20, k4, k2]) w18 w19) ∧
    ∀ w20 : World,
    (Locl ([k20, k4, k2]) w19 w20) →
    I1 [Value.int IntKind.i64 n22, Value.pointer (some { block := k20, off := 0 }), Value.int IntKind.i64 n20, Value.int IntKind.i64 n21, Value.slice p9 k25 k26] w20) ∧
  ∀ n23 : Int,
  ∀ k27 : Nat,
  ∀ n24 : Int,
  ∀ n25 : Int,
  ∀ p10 : Option Addr,
  ∀ k28 : Nat,
  ∀ k29 : Nat,
  ∀ w21 : World,
  (I1 [Value.int IntKind.i64 n23, Value.pointer (some { block := k27, off := 0 }), Value.int IntKind.i64 n24, Value.int IntKind.i64 n25, Value.slice p10 k28 k29] w21) →
  ∃ I2 : List Value → World → Prop,
  ((∀ k30 : Nat,
      ∀ w22 : World,
      (New (w21.drew) (Obj.cells #[Value.int IntKind.i64 0, Value.int IntKind.i64 0] 3) k30 w22) →
      (Calls P F.law23_own #[Value.agg #[Value.int IntKind.i64 1, Value.int IntKind.i64 1, Value.slice (some { block := k1, off := 0 }) 4 4]] w22 fun e10 w23 =>
        ∃ n26 : Int,
        ∃ n27 : Int,
        ∃ p11 : Option Addr,
        ∃ k31 : Nat,
        ∃ k32 : Nat,
        (e10 = Ending.returned (Value.agg #[Value.int IntKind.i64 n26, Value.int IntKind.i64 n27, Value.slice p11 k31 k32])) ∧
        (Keep ([k27, k4, k2]) w22 w23) ∧
        (Keeps w22 w23) ∧
        (Calls P F.law23_own #[Value.agg #[Value.int IntKind.i64 1, Value.int IntKind.i64 1, Value.slice (some { block := k3, off := 0 }) 4 4]] w23 fun e11 w24 =>
          ∃ n28 : Int,
          ∃ n29 : Int,
          ∃ p12 : Option Addr,
          ∃ k33 : Nat,
          ∃ k34 : Nat,
          (e11 = Ending.returned (Value.agg #[Value.int IntKind.i64 n28, Value.int IntKind.i64 n29, Value.slice p12 k33 k34])) ∧
          (Keep ([k27, k4, k2]) w23 w24) ∧
          (Calls P F.blend_Apply #[Value.string { data := #[111, 118, 101, 114] }, Value.slice (some { block := k30, off := 0 }) 2 2, Value.agg #[Value.int IntKind.i64 n26, Value.int IntKind.i64 n27, Value.slice p11 k31 k32], Value.agg #[Value.int IntKind.i64 n28, Value.int IntKind.i64 n29, Value.slice p12 k33 k34]] w24 fun e12 w25 =>
            ∃ n30 : Int,
            ∃ n31 : Int,
            ∃ p13 : Option Addr,
            ∃ k35 : Nat,
            ∃ k36 : Nat,
            ∃ n32 : Int,
            (e12 = Ending.returned (Value.tuple #[Value.agg #[Value.int IntKind.i64 n30, Value.int IntKind.i64 n31, Value.slice p13 k35 k36], Value.int IntKind.i64 n32])) ∧
            (Keep ([k27, k4, k2]) w24 w25) ∧
            ∀ k37 : Nat,
            (w25.heap.size ≤ k37) →
            ∀ w26 : World,
            (Locl ([k37, k27, k4, k2]) w25 w26) →
            I2 [Value.int IntKind.i64 n32, Value.pointer (some { block := k37, off := 0 }), Value.int IntKind.i64 n30, Value.int IntKind.i64 n31, Value.slice p13 k35 k36] w26) ∧
          ∀ k38 : Nat,
          (w24.heap.size ≤ k38) →
          ∀ w27 : World,
          (Locl ([k38, k27, k4, k2]) w24 w27) →
          Calls P F.blend_Apply #[Value.string { data := #[111, 118, 101, 114] }, Value.slice (some { block := k30, off := 0 }) 2 2, Value.agg #[Value.int IntKind.i64 n26, Value.int IntKind.i64 n27, Value.slice p11 k31 k32], Value.agg #[Value.int IntKind.i64 n28, Value.int IntKind.i64 n29, Value.slice p12 k33 k34]] w27 fun e13 w28 =>
          ∃ n33 : Int,
          ∃ n34 : Int,
          ∃ p14 : Option Addr,
          ∃ k39 : Nat,
          ∃ k40 : Nat,
          ∃ n35 : Int,
          (e13 = Ending.returned (Value.tuple #[Value.agg #[Value.int IntKind.i64 n33, Value.int IntKind.i64 n34, Value.slice p14 k39 k40], Value.int IntKind.i64 n35])) ∧
          (Keep ([k38, k27, k4, k2]) w27 w28) ∧
          ∀ w29 : World,
          (Locl ([k38, k27, k4, k2]) w28 w29) →
          I2 [Value.int IntKind.i64 n35, Value.pointer (some { block := k38, off := 0 }), Value.int IntKind.i64 n33, Value.int IntKind.i64 n34, Value.slice p14 k39 k40] w29) ∧
        ∀ k41 : Nat,
        (w23.heap.size ≤ k41) →
        ∀ w30 : World,
        (Locl ([k41, k27, k4, k2]) w23 w30) →
        Calls P F.law23_own #[Value.agg #[Value.int IntKind.i64 1, Value.int IntKind.i64 1, Value.slice (some { block := k3, off := 0 }) 4 4]] w30 fun e14 w31 =>
        ∃ n36 : Int,
        ∃ n37 : Int,
        ∃ p15 : Option Addr,
        ∃ k42 : Nat,
        ∃ k43 : Nat,
        (e14 = Ending.returned (Value.agg #[Value.int IntKind.i64 n36, Value.int IntKind.i64 n37, Value.slice p15 k42 k43])) ∧
        (Keep ([k41, k27, k4, k2]) w30 w31) ∧
        Calls P F.blend_Apply #[Value.string { data := #[111, 118, 101, 114] }, Value.slice (some { block := k30, off := 0 }) 2 2, Value.agg #[Value.int IntKind.i64 n26, Value.int IntKind.i64 n27, Value.slice p11 k31 k32], Value.agg #[Value.int IntKind.i64 n36, Value.int IntKind.i64 n37, Value.slice p15 k42 k43]] w31 fun e15 w32 =>
        ∃ n38 : Int,
        ∃ n39 : Int,
        ∃ p16 : Option Addr,
        ∃ k44 : Nat,
        ∃ k45 : Nat,
        ∃ n40 : Int,
        (e15 = Ending.returned (Value.tuple #[Value.agg #[Value.int IntKind.i64 n38, Value.int IntKind.i64 n39, Value.slice p16 k44 k45], Value.int IntKind.i64 n40])) ∧
        (Keep ([k41, k27, k4, k2]) w31 w32) ∧
        ∀ w33 : World,
        (Locl ([k41, k27, k4, k2]) w32 w33) →
        I2 [Value.int IntKind.i64 n40, Value.pointer (some { block := k41, off := 0 }), Value.int IntKind.i64 n38, Value.int IntKind.i64 n39, Value.slice p16 k44 k45] w33) ∧
      ∀ k46 : Nat,
      (w22.heap.size ≤ k46) →
      ∀ w34 : World,
      (Locl ([k46, k27, k4, k2]) w22 w34) →
      Calls P F.law23_own #[Value.agg #[Value.int IntKind.i64 1, Value.int IntKind.i64 1, Value.slice (some { block := k1, off := 0 }) 4 4]] w34 fun e16 w35 =>
      ∃ n41 : Int,
      ∃ n42 : Int,
      ∃ p17 : Option Addr,
      ∃ k47 : Nat,
      ∃ k48 : Nat,
      (e16 = Ending.returned (Value.agg #[Value.int IntKind.i64 n41, Value.int IntKind.i64 n42, Value.slice p17 k47 k48])) ∧
      (Keep ([k46, k27, k4, k2]) w34 w35) ∧
      (Keeps w34 w35) ∧
      Calls P F.law23_own #[Value.agg #[Value.int IntKind.i64 1, Value.int IntKind.i64 1, Value.slice (some { block := k3, off := 0 }) 4 4]] w35 fun e17 w36 =>
      ∃ n43 : Int,
      ∃ n44 : Int,
      ∃ p18 : Option Addr,
      ∃ k49 : Nat,
      ∃ k50 : Nat,
      (e17 = Ending.returned (Value.agg #[Value.int IntKind.i64 n43, Value.int IntKind.i64 n44, Value.slice p18 k49 k50])) ∧
      (Keep ([k46, k27, k4, k2]) w35 w36) ∧
      Calls P F.blend_Apply #[Value.string { data := #[111, 118, 101, 114] }, Value.slice (some { block := k30, off := 0 }) 2 2, Value.agg #[Value.int IntKind.i64 n41, Value.int IntKind.i64 n42, Value.slice p17 k47 k48], Value.agg #[Value.int IntKind.i64 n43, Value.int IntKind.i64 n44, Value.slice p18 k49 k50]] w36 fun e18 w37 =>
      ∃ n45 : Int,
      ∃ n46 : Int,
      ∃ p19 : Option Addr,
      ∃ k51 : Nat,
      ∃ k52 : Nat,
      ∃ n47 : Int,
      (e18 = Ending.returned (Value.tuple #[Value.agg #[Value.int IntKind.i64 n45, Value.int IntKind.i64 n46, Value.slice p19 k51 k52], Value.int IntKind.i64 n47])) ∧
      (Keep ([k46, k27, k4, k2]) w36 w37) ∧
      ∀ w38 : World,
      (Locl ([k46, k27, k4, k2]) w37 w38) →
      I2 [Value.int IntKind.i64 n47, Value.pointer (some { block := k46, off := 0 }), Value.int IntKind.i64 n45, Value.int IntKind.i64 n46, Value.slice p19 k51 k52] w38) ∧
    (Calls P F.law23_own #[Value.agg #[Value.int IntKind.i64 1, Value.int IntKind.i64 1, Value.slice (some { block := k1, off := 0 }) 4 4]] (w21.drew) fun e19 w39 =>
      ∃ n48 : Int,
      ∃ n49 : Int,
      ∃ p20 : Option Addr,
      ∃ k53 : Nat,
      ∃ k54 : Nat,
      (e19 = Ending.returned (Value.agg #[Value.int IntKind.i64 n48, Value.int IntKind.i64 n49, Value.slice p20 k53 k54])) ∧
      (Keep ([k27, k4, k2]) (w21.drew) w39) ∧
      (Keeps (w21.drew) w39) ∧
      (∀ k55 : Nat,
        ∀ w40 : World,
        (New w39 (Obj.cells #[Value.int IntKind.i64 0, Value.int IntKind.i64 0] 3) k55 w40) →
        (Calls P F.law23_own #[Value.agg #[Value.int IntKind.i64 1, Value.int IntKind.i64 1, Value.slice (some { block := k3, off := 0 }) 4 4]] w40 fun e20 w41 =>
          ∃ n50 : Int,
          ∃ n51 : Int,
          ∃ p21 : Option Addr,
          ∃ k56 : Nat,
          ∃ k57 : Nat,
          (e20 = Ending.returned (Value.agg #[Value.int IntKind.i64 n50, Value.int IntKind.i64 n51, Value.slice p21 k56 k57])) ∧
          (Keep ([k27, k4, k2]) w40 w41) ∧
          (Calls P F.blend_Apply #[Value.string { data := #[111, 118, 101, 114] }, Value.slice (some { block := k55, off := 0 }) 2 2, Value.agg #[Value.int IntKind.i64 n48, Value.int IntKind.i64 n49, Value.slice p20 k53 k54], Value.agg #[Value.int IntKind.i64 n50, Value.int IntKind.i64 n51, Value.slice p21 k56 k57]] w41 fun e21 w42 =>
            ∃ n52 : Int,
            ∃ n53 : Int,
            ∃ p22 : Option Addr,
            ∃ k58 : Nat,
            ∃ k59 : Nat,
            ∃ n54 : Int,
            (e21 = Ending.returned (Value.tuple #[Value.agg #[Value.int IntKind.i64 n52, Value.int IntKind.i64 n53, Value.slice p22 k58 k59], Value.int IntKind.i64 n54])) ∧
            (Keep ([k27, k4, k2]) w41 w42) ∧
            ∀ k60 : Nat,
            (w42.heap.size ≤ k60) →
            ∀ w43 : World,
            (Locl ([k60, k27, k4, k2]) w42 w43) →
            I2 [Value.int IntKind.i64 n54, Value.pointer (some { block := k60, off := 0 }), Value.int IntKind.i64 n52, Value.int IntKind.i64 n53, Value.slice p22 k58 k59] w43) ∧
          ∀ k61 : Nat,
          (w41.heap.size ≤ k61) →
          ∀ w44 : World,
          (Locl ([k61, k27, k4, k2]) w41 w44) →
          Calls P F.blend_Apply #[Value.string { data := #[111, 118, 101, 114] }, Value.slice (some { block := k55, off := 0 }) 2 2, Value.agg #[Value.int IntKind.i64 n48, Value.int IntKind.i64 n49, Value.slice p20 k53 k54], Value.agg #[Value.int IntKind.i64 n50, Value.int IntKind.i64 n51, Value.slice p21 k56 k57]] w44 fun e22 w45 =>
          ∃ n55 : Int,
          ∃ n56 : Int,
          ∃ p23 : Option Addr,
          ∃ k62 : Nat,
          ∃ k63 : Nat,
          ∃ n57 : Int,
          (e22 = Ending.returned (Value.tuple #[Value.agg #[Value.int IntKind.i64 n55, Value.int IntKind.i64 n56, Value.slice p23 k62 k63], Value.int IntKind.i64 n57])) ∧
          (Keep ([k61, k27, k4, k2]) w44 w45) ∧
          ∀ w46 : World,
          (Locl ([k61, k27, k4, k2]) w45 w46) →
          I2 [Value.int IntKind.i64 n57, Value.pointer (some { block := k61, off := 0 }), Value.int IntKind.i64 n55, Value.int IntKind.i64 n56, Value.slice p23 k62 k63] w46) ∧
        ∀ k64 : Nat,
        (w40.heap.size ≤ k64) →
        ∀ w47 : World,
        (Locl ([k64, k27, k4, k2]) w40 w47) →
        Calls P F.law23_own #[Value.agg #[Value.int IntKind.i64 1, Value.int IntKind.i64 1, Value.slice (some { block := k3, off := 0 }) 4 4]] w47 fun e23 w48 =>
        ∃ n58 : Int,
        ∃ n59 : Int,
        ∃ p24 : Option Addr,
        ∃ k65 : Nat,
        ∃ k66 : Nat,
        (e23 = Ending.returned (Value.agg #[Value.int IntKind.i64 n58, Value.int IntKind.i64 n59, Value.slice p24 k65 k66])) ∧
        (Keep ([k64, k27, k4, k2]) w47 w48) ∧
        Calls P F.blend_Apply #[Value.string { data := #[111, 118, 101, 114] }, Value.slice (some { block := k55, off := 0 }) 2 2, Value.agg #[Value.int IntKind.i64 n48, Value.int IntKind.i64 n49, Value.slice p20 k53 k54], Value.agg #[Value.int IntKind.i64 n58, Value.int IntKind.i64 n59, Value.slice p24 k65 k66]] w48 fun e24 w49 =>
        ∃ n60 : Int,
        ∃ n61 : Int,
        ∃ p25 : Option Addr,
        ∃ k67 : Nat,
        ∃ k68 : Nat,
        ∃ n62 : Int,
        (e24 = Ending.returned (Value.tuple #[Value.agg #[Value.int IntKind.i64 n60, Value.int IntKind.i64 n61, Value.slice p25 k67 k68], Value.int IntKind.i64 n62])) ∧
        (Keep ([k64, k27, k4, k2]) w48 w49) ∧
        ∀ w50 : World,
        (Locl ([k64, k27, k4, k2]) w49 w50) →
        I2 [Value.int IntKind.i64 n62, Value.pointer (some { block := k64, off := 0 }), Value.int IntKind.i64 n60, Value.int IntKind.i64 n61, Value.slice p25 k67 k68] w50) ∧
      (Calls P F.law23_own #[Value.agg #[Value.int IntKind.i64 1, Value.int IntKind.i64 1, Value.slice (some { block := k3, off := 0 }) 4 4]] w39 fun e25 w51 =>
        ∃ n63 : Int,
        ∃ n64 : Int,
        ∃ p26 : Option Addr,
        ∃ k69 : Nat,
        ∃ k70 : Nat,
        (e25 = Ending.returned (Value.agg #[Value.int IntKind.i64 n63, Value.int IntKind.i64 n64, Value.slice p26 k69 k70])) ∧
        (Keep ([k27, k4, k2]) w39 w51) ∧
        (∀ k71 : Nat,
          ∀ w52 : World,
          (New w51 (Obj.cells #[Value.int IntKind.i64 0, Value.int IntKind.i64 0] 3) k71 w52) →
          (Calls P F.blend_Apply #[Value.string { data := #[111, 118, 101, 114] }, Value.slice (some { block := k71, off := 0 }) 2 2, Value.agg #[Value.int IntKind.i64 n48, Value.int IntKind.i64 n49, Value.slice p20 k53 k54], Value.agg #[Value.int IntKind.i64 n63, Value.int IntKind.i64 n64, Value.slice p26 k69 k70]] w52 fun e26 w53 =>
            ∃ n65 : Int,
            ∃ n66 : Int,
            ∃ p27 : Option Addr,
            ∃ k72 : Nat,
            ∃ k73 : Nat,
            ∃ n67 : Int,
            (e26 = Ending.returned (Value.tuple #[Value.agg #[Value.int IntKind.i64 n65, Value.int IntKind.i64 n66, Value.slice p27 k72 k73], Value.int IntKind.i64 n67])) ∧
            (Keep ([k27, k4, k2]) w52 w53) ∧
            ∀ k74 : Nat,
            (w53.heap.size ≤ k74) →
            ∀ w54 : World,
            (Locl ([k74, k27, k4, k2]) w53 w54) →
            I2 [Value.int IntKind.i64 n67, Value.pointer (some { block := k74, off := 0 }), Value.int IntKind.i64 n65, Value.int IntKind.i64 n66, Value.slice p27 k72 k73] w54) ∧
          ∀ k75 : Nat,
          (w52.heap.size ≤ k75) →
          ∀ w55 : World,
          (Locl ([k75, k27, k4, k2]) w52 w55) →
          Calls P F.blend_Apply #[Value.string { data := #[111, 118, 101, 114] }, Value.slice (some { block := k71, off := 0 }) 2 2, Value.agg #[Value.int IntKind.i64 n48, Value.int IntKind.i64 n49, Value.slice p20 k53 k54], Value.agg #[Value.int IntKind.i64 n63, Value.int IntKind.i64 n64, Value.slice p26 k69 k70]] w55 fun e27 w56 =>
          ∃ n68 : Int,
          ∃ n69 : Int,
          ∃ p28 : Option Addr,
          ∃ k76 : Nat,
          ∃ k77 : Nat,
          ∃ n70 : Int,
          (e27 = Ending.returned (Value.tuple #[Value.agg #[Value.int IntKind.i64 n68, Value.int IntKind.i64 n69, Value.slice p28 k76 k77], Value.int IntKind.i64 n70])) ∧
          (Keep ([k75, k27, k4, k2]) w55 w56) ∧
          ∀ w57 : World,
          (Locl ([k75, k27, k4, k2]) w56 w57) →
          I2 [Value.int IntKind.i64 n70, Value.pointer (some { block := k75, off := 0 }), Value.int IntKind.i64 n68, Value.int IntKind.i64 n69, Value.slice p28 k76 k77] w57) ∧
        ∀ k78 : Nat,
        (w51.heap.size ≤ k78) →
        ∀ w58 : World,
        (Locl ([k78, k27, k4, k2]) w51 w58) →
        ∀ k79 : Nat,
        ∀ w59 : World,
        (New w58 (Obj.cells #[Value.int IntKind.i64 0, Value.int IntKind.i64 0] 3) k79 w59) →
        Calls P F.blend_Apply #[Value.string { data := #[111, 118, 101, 114] }, Value.slice (some { block := k79, off := 0 }) 2 2, Value.agg #[Value.int IntKind.i64 n48, Value.int IntKind.i64 n49, Value.slice p20 k53 k54], Value.agg #[Value.int IntKind.i64 n63, Value.int IntKind.i64 n64, Value.slice p26 k69 k70]] w59 fun e28 w60 =>
        ∃ n71 : Int,
        ∃ n72 : Int,
        ∃ p29 : Option Addr,
        ∃ k80 : Nat,
        ∃ k81 : Nat,
        ∃ n73 : Int,
        (e28 = Ending.returned (Value.tuple #[Value.agg #[Value.int IntKind.i64 n71, Value.int IntKind.i64 n72, Value.slice p29 k80 k81], Value.int IntKind.i64 n73])) ∧
        (Keep ([k78, k27, k4, k2]) w59 w60) ∧
        ∀ w61 : World,
        (Locl ([k78, k27, k4, k2]) w60 w61) →
        I2 [Value.int IntKind.i64 n73, Value.pointer (some { block := k78, off := 0 }), Value.int IntKind.i64 n71, Value.int IntKind.i64 n72, Value.slice p29 k80 k81] w61) ∧
      ∀ k82 : Nat,
      (w39.heap.size ≤ k82) →
      (∀ w62 : World,
        (Locl ([k82, k27, k4, k2]) w39 w62) →
        ∀ k83 : Nat,
        ∀ w63 : World,
        (New w62 (Obj.cells #[Value.int IntKind.i64 0, Value.int IntKind.i64 0] 3) k83 w63) →
        Calls P F.law23_own #[Value.agg #[Value.int IntKind.i64 1, Value.int IntKind.i64 1, Value.slice (some { block := k3, off := 0 }) 4 4]] w63 fun e29 w64 =>
        ∃ n74 : Int,
        ∃ n75 : Int,
        ∃ p30 : Option Addr,
        ∃ k84 : Nat,
        ∃ k85 : Nat,
        (e29 = Ending.returned (Value.agg #[Value.int IntKind.i64 n74, Value.int IntKind.i64 n75, Value.slice p30 k84 k85])) ∧
        (Keep ([k82, k27, k4, k2]) w63 w64) ∧
        Calls P F.blend_Apply #[Value.string { data := #[111, 118, 101, 114] }, Value.slice (some { block := k83, off := 0 }) 2 2, Value.agg #[Value.int IntKind.i64 n48, Value.int IntKind.i64 n49, Value.slice p20 k53 k54], Value.agg #[Value.int IntKind.i64 n74, Value.int IntKind.i64 n75, Value.slice p30 k84 k85]] w64 fun e30 w65 =>
        ∃ n76 : Int,
        ∃ n77 : Int,
        ∃ p31 : Option Addr,
        ∃ k86 : Nat,
        ∃ k87 : Nat,
        ∃ n78 : Int,
        (e30 = Ending.returned (Value.tuple #[Value.agg #[Value.int IntKind.i64 n76, Value.int IntKind.i64 n77, Value.slice p31 k86 k87], Value.int IntKind.i64 n78])) ∧
        (Keep ([k82, k27, k4, k2]) w64 w65) ∧
        ∀ w66 : World,
        (Locl ([k82, k27, k4, k2]) w65 w66) →
        I2 [Value.int IntKind.i64 n78, Value.pointer (some { block := k82, off := 0 }), Value.int IntKind.i64 n76, Value.int IntKind.i64 n77, Value.slice p31 k86 k87] w66) ∧
      ∀ w67 : World,
      (Locl ([k82, k27, k4, k2]) w39 w67) →
      Calls P F.law23_own #[Value.agg #[Value.int IntKind.i64 1, Value.int IntKind.i64 1, Value.slice (some { block := k3, off := 0 }) 4 4]] w67 fun e31 w68 =>
      ∃ n79 : Int,
      ∃ n80 : Int,
      ∃ p32 : Option Addr,
      ∃ k88 : Nat,
      ∃ k89 : Nat,
      (e31 = Ending.returned (Value.agg #[Value.int IntKind.i64 n79, Value.int IntKind.i64 n80, Value.slice p32 k88 k89])) ∧
      (Keep ([k82, k27, k4, k2]) w67 w68) ∧
      ∀ k90 : Nat,
      ∀ w69 : World,
      (New w68 (Obj.cells #[Value.int IntKind.i64 0, Value.int IntKind.i64 0] 3) k90 w69) →
      Calls P F.blend_Apply #[Value.string { data := #[111, 118, 101, 114] }, Value.slice (some { block := k90, off := 0 }) 2 2, Value.agg #[Value.int IntKind.i64 n48, Value.int IntKind.i64 n49, Value.slice p20 k53 k54], Value.agg #[Value.int IntKind.i64 n79, Value.int IntKind.i64 n80, Value.slice p32 k88 k89]] w69 fun e32 w70 =>
      ∃ n81 : Int,
      ∃ n82 : Int,
      ∃ p33 : Option Addr,
      ∃ k91 : Nat,
      ∃ k92 : Nat,
      ∃ n83 : Int,
      (e32 = Ending.returned (Value.tuple #[Value.agg #[Value.int IntKind.i64 n81, Value.int IntKind.i64 n82, Value.slice p33 k91 k92], Value.int IntKind.i64 n83])) ∧
      (Keep ([k82, k27, k4, k2]) w69 w70) ∧
      ∀ w71 : World,
      (Locl ([k82, k27, k4, k2]) w70 w71) →
      I2 [Value.int IntKind.i64 n83, Value.pointer (some { block := k82, off := 0 }), Value.int IntKind.i64 n81, Value.int IntKind.i64 n82, Value.slice p33 k91 k92] w71) ∧
    ∀ k93 : Nat,
    (w21.drew.heap.size ≤ k93) →
    (∀ w72 : World,
      (Locl ([k93, k27, k4, k2]) (w21.drew) w72) →
      ∀ k94 : Nat,
      ∀ w73 : World,
      (New w72 (Obj.cells #[Value.int IntKind.i64 0, Value.int IntKind.i64 0] 3) k94 w73) →
      Calls P F.law23_own #[Value.agg #[Value.int IntKind.i64 1, Value.int IntKind.i64 1, Value.slice (some { block := k1, off := 0 }) 4 4]] w73 fun e33 w74 =>
      ∃ n84 : Int,
      ∃ n85 : Int,
      ∃ p34 : Option Addr,
      ∃ k95 : Nat,
      ∃ k96 : Nat,
      (e33 = Ending.returned (Value.agg #[Value.int IntKind.i64 n84, Value.int IntKind.i64 n85, Value.slice p34 k95 k96])) ∧
      (Keep ([k93, k27, k4, k2]) w73 w74) ∧
      (Keeps w73 w74) ∧
      Calls P F.law23_own #[Value.agg #[Value.int IntKind.i64 1, Value.int IntKind.i64 1, Value.slice (some { block := k3, off := 0 }) 4 4]] w74 fun e34 w75 =>
      ∃ n86 : Int,
      ∃ n87 : Int,
      ∃ p35 : Option Addr,
      ∃ k97 : Nat,
      ∃ k98 : Nat,
      (e34 = Ending.returned (Value.agg #[Value.int IntKind.i64 n86, Value.int IntKind.i64 n87, Value.slice p35 k97 k98])) ∧
      (Keep ([k93, k27, k4, k2]) w74 w75) ∧
      Calls P F.blend_Apply #[Value.string { data := #[111, 118, 101, 114] }, Value.slice (some { block := k94, off := 0 }) 2 2, Value.agg #[Value.int IntKind.i64 n84, Value.int IntKind.i64 n85, Value.slice p34 k95 k96], Value.agg #[Value.int IntKind.i64 n86, Value.int IntKind.i64 n87, Value.slice p35 k97 k98]] w75 fun e35 w76 =>
      ∃ n88 : Int,
      ∃ n89 : Int,
      ∃ p36 : Option Addr,
      ∃ k99 : Nat,
      ∃ k100 : Nat,
      ∃ n90 : Int,
      (e35 = Ending.returned (Value.tuple #[Value.agg #[Value.int IntKind.i64 n88, Value.int IntKind.i64 n89, Value.slice p36 k99 k100], Value.int IntKind.i64 n90])) ∧
      (Keep ([k93, k27, k4, k2]) w75 w76) ∧
      ∀ w77 : World,
      (Locl ([k93, k27, k4, k2]) w76 w77) →
      I2 [Value.int IntKind.i64 n90, Value.pointer (some { block := k93, off := 0 }), Value.int IntKind.i64 n88, Value.int IntKind.i64 n89, Value.slice p36 k99 k100] w77) ∧
    ∀ w78 : World,
    (Locl ([k93, k27, k4, k2]) (w21.drew) w78) →
    Calls P F.law23_own #[Value.agg #[Value.int IntKind.i64 1, Value.int IntKind.i64 1, Value.slice (some { block := k1, off := 0 }) 4 4]] w78 fun e36 w79 =>
    ∃ n91 : Int,
    ∃ n92 : Int,
    ∃ p37 : Option Addr,
    ∃ k101 : Nat,
    ∃ k102 : Nat,
    (e36 = Ending.returned (Value.agg #[Value.int IntKind.i64 n91, Value.int IntKind.i64 n92, Value.slice p37 k101 k102])) ∧
    (Keep ([k93, k27, k4, k2]) w78 w79) ∧
    (Keeps w78 w79) ∧
    (∀ k103 : Nat,
      ∀ w80 : World,
      (New w79 (Obj.cells #[Value.int IntKind.i64 0, Value.int IntKind.i64 0] 3) k103 w80) →
      Calls P F.law23_own #[Value.agg #[Value.int IntKind.i64 1, Value.int IntKind.i64 1, Value.slice (some { block := k3, off := 0 }) 4 4]] w80 fun e37 w81 =>
      ∃ n93 : Int,
      ∃ n94 : Int,
      ∃ p38 : Option Addr,
      ∃ k104 : Nat,
      ∃ k105 : Nat,
      (e37 = Ending.returned (Value.agg #[Value.int IntKind.i64 n93, Value.int IntKind.i64 n94, Value.slice p38 k104 k105])) ∧
      (Keep ([k93, k27, k4, k2]) w80 w81) ∧
      Calls P F.blend_Apply #[Value.string { data := #[111, 118, 101, 114] }, Value.slice (some { block := k103, off := 0 }) 2 2, Value.agg #[Value.int IntKind.i64 n91, Value.int IntKind.i64 n92, Value.slice p37 k101 k102], Value.agg #[Value.int IntKind.i64 n93, Value.int IntKind.i64 n94, Value.slice p38 k104 k105]] w81 fun e38 w82 =>
      ∃ n95 : Int,
      ∃ n96 : Int,
      ∃ p39 : Option Addr,
      ∃ k106 : Nat,
      ∃ k107 : Nat,
      ∃ n97 : Int,
      (e38 = Ending.returned (Value.tuple #[Value.agg #[Value.int IntKind.i64 n95, Value.int IntKind.i64 n96, Value.slice p39 k106 k107], Value.int IntKind.i64 n97])) ∧
      (Keep ([k93, k27, k4, k2]) w81 w82) ∧
      ∀ w83 : World,
      (Locl ([k93, k27, k4, k2]) w82 w83) →
      I2 [Value.int IntKind.i64 n97, Value.pointer (some { block := k93, off := 0 }), Value.int IntKind.i64 n95, Value.int IntKind.i64 n96, Value.slice p39 k106 k107] w83) ∧
    Calls P F.law23_own #[Value.agg #[Value.int IntKind.i64 1, Value.int IntKind.i64 1, Value.slice (some { block := k3, off := 0 }) 4 4]] w79 fun e39 w84 =>
    ∃ n98 : Int,
    ∃ n99 : Int,
    ∃ p40 : Option Addr,
    ∃ k108 : Nat,
    ∃ k109 : Nat,
    (e39 = Ending.returned (Value.agg #[Value.int IntKind.i64 n98, Value.int IntKind.i64 n99, Value.slice p40 k108 k109])) ∧
    (Keep ([k93, k27, k4, k2]) w79 w84) ∧
    ∀ k110 : Nat,
    ∀ w85 : World,
    (New w84 (Obj.cells #[Value.int IntKind.i64 0, Value.int IntKind.i64 0] 3) k110 w85) →
    Calls P F.blend_Apply #[Value.string { data := #[111, 118, 101, 114] }, Value.slice (some { block := k110, off := 0 }) 2 2, Value.agg #[Value.int IntKind.i64 n91, Value.int IntKind.i64 n92, Value.slice p37 k101 k102], Value.agg #[Value.int IntKind.i64 n98, Value.int IntKind.i64 n99, Value.slice p40 k108 k109]] w85 fun e40 w86 =>
    ∃ n100 : Int,
    ∃ n101 : Int,
    ∃ p41 : Option Addr,
    ∃ k111 : Nat,
    ∃ k112 : Nat,
    ∃ n102 : Int,
    (e40 = Ending.returned (Value.tuple #[Value.agg #[Value.int IntKind.i64 n100, Value.int IntKind.i64 n101, Value.slice p41 k111 k112], Value.int IntKind.i64 n102])) ∧
    (Keep ([k93, k27, k4, k2]) w85 w86) ∧
    ∀ w87 : World,
    (Locl ([k93, k27, k4, k2]) w86 w87) →
    I2 [Value.int IntKind.i64 n102, Value.pointer (some { block := k93, off := 0 }), Value.int IntKind.i64 n100, Value.int IntKind.i64 n101, Value.slice p41 k111 k112] w87) ∧
  ∀ n103 : Int,
  ∀ k113 : Nat,
  ∀ n104 : Int,
  ∀ n105 : Int,
  ∀ p42 : Option Addr,
  ∀ k114 : Nat,
  ∀ k115 : Nat,
  ∀ w88 : World,
  (I2 [Value.int IntKind.i64 n103, Value.pointer (some { block := k113, off := 0 }), Value.int IntKind.i64 n104, Value.int IntKind.i64 n105, Value.slice p42 k114 k115] w88) →
  Calls P F.blend_Size #[Value.string { data := #[98, 101, 115, 105, 100, 101] }, Value.slice none 0 0, Value.int IntKind.i64 2, Value.int IntKind.i64 3, Value.int IntKind.i64 4, Value.int IntKind.i64 3] w88 fun e41 w89 =>
  ∃ n106 : Int,
  ∃ n107 : Int,
  ∃ n108 : Int,
  (e41 = Ending.returned (Value.tuple #[Value.int IntKind.i64 n106, Value.int IntKind.i64 n107, Value.int IntKind.i64 n108])) ∧
  (Keep ([k113, k27, k4, k2]) w88 w89) ∧
  brB (n23 == 0 && n103 == 0 && n108 == 0 && (↑k28 : Int) == 4)
    (idx (p10) (k28) (0) (1) fun a1 =>
    ∃ n109 : Int,
    (w89.cell? a1 = some (Value.int IntKind.u16 n109)) ∧
    brB (n109 == 0)
      (idx (p10) (k28) (2) (1) fun a2 =>
      ∃ n110 : Int,
      (w89.cell? a2 = some (Value.int IntKind.u16 n110)) ∧
      brB (n110 == 7)
        (Calls P F.ref09_Same #[Value.agg #[Value.int IntKind.i64 n104, Value.int IntKind.i64 n105, Value.slice p42 k114 k115], Value.agg #[Value.int IntKind.i64 1, Value.int IntKind.i64 1, Value.slice (some { block := k3, off := 0 }) 4 4]] w89 fun e42 w90 =>
        ∃ c1 : Bool,
        (e42 = Ending.returned (Value.bool c1)) ∧
        (Keep ([k113, k27, k4, k2]) w89 w90) ∧
        brB (c1 && n106 == 6 && n107 == 3)
          (Calls P F.blend_Names #[] w90 fun e43 w91 =>
          ∃ p43 : Option Addr,
          ∃ k116 : Nat,
          ∃ k117 : Nat,
          (e43 = Ending.returned (Value.slice p43 k116 k117)) ∧
          (Keep ([k113, k27, k4, k2]) w90 w91) ∧
          brB ((↑k116 : Int) == 12)
            (Calls P F.blend_Check #[Value.string { data := #[109, 105, 120] }, Value.slice none 0 0] w91 fun e44 w92 =>
            ∃ n111 : Int,
            (e44 = Ending.returned (Value.int IntKind.i64 n111)) ∧
            (Keep ([k113, k27, k4, k2]) w91 w92) ∧
            brB (n111 == 190)
              (Calls P F.blend_Check #[Value.string { data := #[102, 108, 121] }, Value.slice none 0 0] w92 fun e45 w93 =>
              ∃ n112 : Int,
              (e45 = Ending.returned (Value.int IntKind.i64 n112)) ∧
              (Keep ([k113, k27, k4, k2]) w92 w93) ∧
              R (Ending.returned (Value.bool (n112 == 8))) w93)
              (R (Ending.returned (Value.bool false)) w92))
            (R (Ending.returned (Value.bool false)) w91))
          (R (Ending.returned (Value.bool false)) w90))
        (R (Ending.returned (Value.bool false)) w89))
      (R (Ending.returned (Value.bool false)) w89))
    (R (Ending.returned (Value.bool false)) w89)
theorem calls_law23_wakes  (w : World) (R : Ending → World → Prop) (h : vc_law23_wakes  w R) : Calls P F.law23_wakes #[] w R :=
  calls_of_vc (fn := Try.f9) (ac := ac_law23_wakes) (args := []) mixed Try.func9 (by kernel_rfl) (cast (by unfold vc_law23_wakes FnVc; kernel_rfl) h)
end Go.Proofs.Ytombfebgojeliaa
