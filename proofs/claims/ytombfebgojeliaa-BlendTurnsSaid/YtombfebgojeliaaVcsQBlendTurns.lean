/- The condition of a great law, written out (by a program of ours), and the theorem that it suffices. -/
import Derived.Test.YtombfebgojeliaaVcs
namespace Go.Proofs.Ytombfebgojeliaa
open Go Go.Vc
set_option maxRecDepth 100000
set_option linter.unusedVariables false
/-- darkroom/darkroomlaw23.BlendTurns -/
def vc_law23_BlendTurns (x1 : Int) (x2 : Int) (sa1 : Option Addr) (sl1 sc1 : Nat) (x3 : Int) (x4 : Int) (sa2 : Option Addr) (sl2 sc2 : Nat) (w : World) (R : Ending → World → Prop) : Prop :=
  ∀ k1 : Nat,
  (w.heap.size ≤ k1) →
  ∀ k2 : Nat,
  (w.heap.size ≤ k2) →
  ∀ w1 : World,
  (Locl ([k2, k1]) w w1) →
  Calls P F.law23_wakes #[] w1 fun e1 w2 =>
  ∃ c1 : Bool,
  (e1 = Ending.returned (Value.bool c1)) ∧
  (Keep ([k2, k1]) w1 w2) ∧
  brB (!c1)
    (R (Ending.returned (Value.bool false)) w2)
    (∀ k3 : Nat,
    ∀ w3 : World,
    (New w2 (Obj.cells #[Value.string { data := #[112, 108, 117, 115] }, Value.string { data := #[116, 105, 109, 101, 115] }, Value.string { data := #[115, 99, 114, 101, 101, 110] }, Value.string { data := #[100, 105, 102, 102, 101, 114] }, Value.string { data := #[108, 105, 103, 104, 116, 101, 114] }, Value.string { data := #[100, 97, 114, 107, 101, 114] }] 9) k3 w3) →
    ∃ I1 : List Value → World → Prop,
    ∃ m1 : List Value → World → Nat,
    (I1 [Value.int IntKind.i64 0] w3) ∧
    ∀ n1 : Int,
    ∀ w4 : World,
    (I1 [Value.int IntKind.i64 n1] w4) →
    brB (decide (n1 < 6))
      (∃ I2 : List Value → World → Prop,
      (idx (some { block := k3, off := 0 }) (6) (n1) (1) fun a1 =>
        ∃ s1 : ByteArray,
        (w4.drew.cell? a1 = some (Value.string s1)) ∧
        (Calls P F.law23_own #[Value.agg #[Value.int IntKind.i64 x1, Value.int IntKind.i64 x2, Value.slice sa1 sl1 sc1]] (w4.drew) fun e2 w5 =>
          ∃ n2 : Int,
          ∃ n3 : Int,
          ∃ p1 : Option Addr,
          ∃ k4 : Nat,
          ∃ k5 : Nat,
          (e2 = Ending.returned (Value.agg #[Value.int IntKind.i64 n2, Value.int IntKind.i64 n3, Value.slice p1 k4 k5])) ∧
          (Keep ([k2, k1]) (w4.drew) w5) ∧
          (Keeps (w4.drew) w5) ∧
          (Calls P F.law23_own #[Value.agg #[Value.int IntKind.i64 x3, Value.int IntKind.i64 x4, Value.slice sa2 sl2 sc2]] w5 fun e3 w6 =>
            ∃ n4 : Int,
            ∃ n5 : Int,
            ∃ p2 : Option Addr,
            ∃ k6 : Nat,
            ∃ k7 : Nat,
            (e3 = Ending.returned (Value.agg #[Value.int IntKind.i64 n4, Value.int IntKind.i64 n5, Value.slice p2 k6 k7])) ∧
            (Keep ([k2, k1]) w5 w6) ∧
            (Keeps w5 w6) ∧
            (Calls P F.blend_Apply #[Value.string s1, Value.slice none 0 0, Value.agg #[Value.int IntKind.i64 n2, Value.int IntKind.i64 n3, Value.slice p1 k4 k5], Value.agg #[Value.int IntKind.i64 n4, Value.int IntKind.i64 n5, Value.slice p2 k6 k7]] w6 fun e4 w7 =>
              ∃ n6 : Int,
              ∃ n7 : Int,
              ∃ p3 : Option Addr,
              ∃ k8 : Nat,
              ∃ k9 : Nat,
              ∃ n8 : Int,
              (e4 = Ending.returned (Value.tuple #[Value.agg #[Value.int IntKind.i64 n6, Value.int IntKind.i64 n7, Value.slice p3 k8 k9], Value.int IntKind.i64 n8])) ∧
              (Keep ([k2, k1]) w6 w7) ∧
              ∀ k10 : Nat,
              (w7.heap.size ≤ k10) →
              ∀ w8 : World,
              (Locl ([k10, k2, k1]) w7 w8) →
              I2 [Value.int IntKind.i64 n8, Value.pointer (some { block := k10, off := 0 }), Value.int IntKind.i64 n6, Value.int IntKind.i64 n7, Value.slice p3 k8 k9] w8) ∧
            ∀ k11 : Nat,
            (w6.heap.size ≤ k11) →
            ∀ w9 : World,
            (Locl ([k11, k2, k1]) w6 w9) →
            Calls P F.blend_Apply #[Value.string s1, Value.slice none 0 0, Value.agg #[Value.int IntKind.i64 n2, Value.int IntKind.i64 n3, Value.slice p1 k4 k5], Value.agg #[Value.int IntKind.i64 n4, Value.int IntKind.i64 n5, Value.slice p2 k6 k7]] w9 fun e5 w10 =>
            ∃ n9 : Int,
            ∃ n10 : Int,
            ∃ p4 : Option Addr,
            ∃ k12 : Nat,
            ∃ k13 : Nat,
            ∃ n11 : Int,
            (e5 = Ending.returned (Value.tuple #[Value.agg #[Value.int IntKind.i64 n9, Value.int IntKind.i64 n10, Value.slice p4 k12 k13], Value.int IntKind.i64 n11])) ∧
            (Keep ([k11, k2, k1]) w9 w10) ∧
            ∀ w11 : World,
            (Locl ([k11, k2, k1]) w10 w11) →
            I2 [Value.int IntKind.i64 n11, Value.pointer (some { block := k11, off := 0 }), Value.int IntKind.i64 n9, Value.int IntKind.i64 n10, Value.slice p4 k12 k13] w11) ∧
          ∀ k14 : Nat,
          (w5.heap.size ≤ k14) →
          ∀ w12 : World,
          (Locl ([k14, k2, k1]) w5 w12) →
          Calls P F.law23_own #[Value.agg #[Value.int IntKind.i64 x3, Value.int IntKind.i64 x4, Value.slice sa2 sl2 sc2]] w12 fun e6 w13 =>
          ∃ n12 : Int,
          ∃ n13 : Int,
          ∃ p5 : Option Addr,
          ∃ k15 : Nat,
          ∃ k16 : Nat,
          (e6 = Ending.returned (Value.agg #[Value.int IntKind.i64 n12, Value.int IntKind.i64 n13, Value.slice p5 k15 k16])) ∧
          (Keep ([k14, k2, k1]) w12 w13) ∧
          (Keeps w12 w13) ∧
          Calls P F.blend_Apply #[Value.string s1, Value.slice none 0 0, Value.agg #[Value.int IntKind.i64 n2, Value.int IntKind.i64 n3, Value.slice p1 k4 k5], Value.agg #[Value.int IntKind.i64 n12, Value.int IntKind.i64 n13, Value.slice p5 k15 k16]] w13 fun e7 w14 =>
          ∃ n14 : Int,
          ∃ n15 : Int,
          ∃ p6 : Option Addr,
          ∃ k17 : Nat,
          ∃ k18 : Nat,
          ∃ n16 : Int,
          (e7 = Ending.returned (Value.tuple #[Value.agg #[Value.int IntKind.i64 n14, Value.int IntKind.i64 n15, Value.slice p6 k17 k18], Value.int IntKind.i64 n16])) ∧
          (Keep ([k14, k2, k1]) w13 w14) ∧
          ∀ w15 : World,
          (Locl ([k14, k2, k1]) w14 w15) →
          I2 [Value.int IntKind.i64 n16, Value.pointer (some { block := k14, off := 0 }), Value.int IntKind.i64 n14, Value.int IntKind.i64 n15, Value.slice p6 k17 k18] w15) ∧
        ∀ k19 : Nat,
        (w4.drew.heap.size ≤ k19) →
        ∀ w16 : World,
        (Locl ([k19, k2, k1]) (w4.drew) w16) →
        Calls P F.law23_own #[Value.agg #[Value.int IntKind.i64 x1, Value.int IntKind.i64 x2, Value.slice sa1 sl1 sc1]] w16 fun e8 w17 =>
        ∃ n17 : Int,
        ∃ n18 : Int,
        ∃ p7 : Option Addr,
        ∃ k20 : Nat,
        ∃ k21 : Nat,
        (e8 = Ending.returned (Value.agg #[Value.int IntKind.i64 n17, Value.int IntKind.i64 n18, Value.slice p7 k20 k21])) ∧
        (Keep ([k19, k2, k1]) w16 w17) ∧
        (Keeps w16 w17) ∧
        Calls P F.law23_own #[Value.agg #[Value.int IntKind.i64 x3, Value.int IntKind.i64 x4, Value.slice sa2 sl2 sc2]] w17 fun e9 w18 =>
        ∃ n19 : Int,
        ∃ n20 : Int,
        ∃ p8 : Option Addr,
        ∃ k22 : Nat,
        ∃ k23 : Nat,
        (e9 = Ending.returned (Value.agg #[Value.int IntKind.i64 n19, Value.int IntKind.i64 n20, Value.slice p8 k22 k23])) ∧
        (Keep ([k19, k2, k1]) w17 w18) ∧
        (Keeps w17 w18) ∧
        Calls P F.blend_Apply #[Value.string s1, Value.slice none 0 0, Value.agg #[Value.int IntKind.i64 n17, Value.int IntKind.i64 n18, Value.slice p7 k20 k21], Value.agg #[Value.int IntKind.i64 n19, Value.int IntKind.i64 n20, Value.slice p8 k22 k23]] w18 fun e10 w19 =>
        ∃ n21 : Int,
        ∃ n22 : Int,
        ∃ p9 : Option Addr,
        ∃ k24 : Nat,
        ∃ k25 : Nat,
        ∃ n23 : Int,
        (e10 = Ending.returned (Value.tuple #[Value.agg #[Value.int IntKind.i64 n21, Value.int IntKind.i64 n22, Value.slice p9 k24 k25], Value.int IntKind.i64 n23])) ∧
        (Keep ([k19, k2, k1]) w18 w19) ∧
        ∀ w20 : World,
        (Locl ([k19, k2, k1]) w19 w20) →
        I2 [Value.int IntKind.i64 n23, Value.pointer (some { block := k19, off := 0 }), Value.int IntKind.i64 n21, Value.int IntKind.i64 n22, Value.slice p9 k24 k25] w20) ∧
      ∀ n24 : Int,
      ∀ k26 : Nat,
      ∀ n25 : Int,
      ∀ n26 : Int,
      ∀ p10 : Option Addr,
      ∀ k27 : Nat,
      ∀ k28 : Nat,
      ∀ w21 : World,
      (I2 [Value.int IntKind.i64 n24, Value.pointer (some { block := k26, off := 0 }), Value.int IntKind.i64 n25, Value.int IntKind.i64 n26, Value.slice p10 k27 k28] w21) →
      ∃ I3 : List Value → World → Prop,
      (idx (some { block := k3, off := 0 }) (6) (n1) (1) fun a2 =>
        ∃ s2 : ByteArray,
        (w21.drew.cell? a2 = some (Value.string s2)) ∧
        (Calls P F.law23_own #[Value.agg #[Value.int IntKind.i64 x3, Value.int IntKind.i64 x4, Value.slice sa2 sl2 sc2]] (w21.drew) fun e11 w22 =>
          ∃ n27 : Int,
          ∃ n28 : Int,
          ∃ p11 : Option Addr,
          ∃ k29 : Nat,
          ∃ k30 : Nat,
          (e11 = Ending.returned (Value.agg #[Value.int IntKind.i64 n27, Value.int IntKind.i64 n28, Value.slice p11 k29 k30])) ∧
          (Keep ([k26, k2, k1]) (w21.drew) w22) ∧
          (Keeps (w21.drew) w22) ∧
          (Calls P F.law23_own #[Value.agg #[Value.int IntKind.i64 x1, Value.int IntKind.i64 x2, Value.slice sa1 sl1 sc1]] w22 fun e12 w23 =>
            ∃ n29 : Int,
            ∃ n30 : Int,
            ∃ p12 : Option Addr,
            ∃ k31 : Nat,
            ∃ k32 : Nat,
            (e12 = Ending.returned (Value.agg #[Value.int IntKind.i64 n29, Value.int IntKind.i64 n30, Value.slice p12 k31 k32])) ∧
            (Keep ([k26, k2, k1]) w22 w23) ∧
            (Keeps w22 w23) ∧
            (Calls P F.blend_Apply #[Value.string s2, Value.slice none 0 0, Value.agg #[Value.int IntKind.i64 n27, Value.int IntKind.i64 n28, Value.slice p11 k29 k30], Value.agg #[Value.int IntKind.i64 n29, Value.int IntKind.i64 n30, Value.slice p12 k31 k32]] w23 fun e13 w24 =>
              ∃ n31 : Int,
              ∃ n32 : Int,
              ∃ p13 : Option Addr,
              ∃ k33 : Nat,
              ∃ k34 : Nat,
              ∃ n33 : Int,
              (e13 = Ending.returned (Value.tuple #[Value.agg #[Value.int IntKind.i64 n31, Value.int IntKind.i64 n32, Value.slice p13 k33 k34], Value.int IntKind.i64 n33])) ∧
              (Keep ([k26, k2, k1]) w23 w24) ∧
              ∀ k35 : Nat,
              (w24.heap.size ≤ k35) →
              ∀ w25 : World,
              (Locl ([k35, k26, k2, k1]) w24 w25) →
              I3 [Value.int IntKind.i64 n33, Value.pointer (some { block := k35, off := 0 }), Value.int IntKind.i64 n31, Value.int IntKind.i64 n32, Value.slice p13 k33 k34] w25) ∧
            ∀ k36 : Nat,
            (w23.heap.size ≤ k36) →
            ∀ w26 : World,
            (Locl ([k36, k26, k2, k1]) w23 w26) →
            Calls P F.blend_Apply #[Value.string s2, Value.slice none 0 0, Value.agg #[Value.int IntKind.i64 n27, Value.int IntKind.i64 n28, Value.slice p11 k29 k30], Value.agg #[Value.int IntKind.i64 n29, Value.int IntKind.i64 n30, Value.slice p12 k31 k32]] w26 fun e14 w27 =>
            ∃ n34 : Int,
            ∃ n35 : Int,
            ∃ p14 : Option Addr,
            ∃ k37 : Nat,
            ∃ k38 : Nat,
            ∃ n36 : Int,
            (e14 = Ending.returned (Value.tuple #[Value.agg #[Value.int IntKind.i64 n34, Value.int IntKind.i64 n35, Value.slice p14 k37 k38], Value.int IntKind.i64 n36])) ∧
            (Keep ([k36, k26, k2, k1]) w26 w27) ∧
            ∀ w28 : World,
            (Locl ([k36, k26, k2, k1]) w27 w28) →
            I3 [Value.int IntKind.i64 n36, Value.pointer (some { block := k36, off := 0 }), Value.int IntKind.i64 n34, Value.int IntKind.i64 n35, Value.slice p14 k37 k38] w28) ∧
          ∀ k39 : Nat,
          (w22.heap.size ≤ k39) →
          ∀ w29 : World,
          (Locl ([k39, k26, k2, k1]) w22 w29) →
          Calls P F.law23_own #[Value.agg #[Value.int IntKind.i64 x1, Value.int IntKind.i64 x2, Value.slice sa1 sl1 sc1]] w29 fun e15 w30 =>
          ∃ n37 : Int,
          ∃ n38 : Int,
          ∃ p15 : Option Addr,
          ∃ k40 : Nat,
          ∃ k41 : Nat,
          (e15 = Ending.returned (Value.agg #[Value.int IntKind.i64 n37, Value.int IntKind.i64 n38, Value.slice p15 k40 k41])) ∧
          (Keep ([k39, k26, k2, k1]) w29 w30) ∧
          (Keeps w29 w30) ∧
          Calls P F.blend_Apply #[Value.string s2, Value.slice none 0 0, Value.agg #[Value.int IntKind.i64 n27, Value.int IntKind.i64 n28, Value.slice p11 k29 k30], Value.agg #[Value.int IntKind.i64 n37, Value.int IntKind.i64 n38, Value.slice p15 k40 k41]] w30 fun e16 w31 =>
          ∃ n39 : Int,
          ∃ n40 : Int,
          ∃ p16 : Option Addr,
          ∃ k42 : Nat,
          ∃ k43 : Nat,
          ∃ n41 : Int,
          (e16 = Ending.returned (Value.tuple #[Value.agg #[Value.int IntKind.i64 n39, Value.int IntKind.i64 n40, Value.slice p16 k42 k43], Value.int IntKind.i64 n41])) ∧
          (Keep ([k39, k26, k2, k1]) w30 w31) ∧
          ∀ w32 : World,
          (Locl ([k39, k26, k2, k1]) w31 w32) →
          I3 [Value.int IntKind.i64 n41, Value.pointer (some { block := k39, off := 0 }), Value.int IntKind.i64 n39, Value.int IntKind.i64 n40, Value.slice p16 k42 k43] w32) ∧
        ∀ k44 : Nat,
        (w21.drew.heap.size ≤ k44) →
        ∀ w33 : World,
        (Locl ([k44, k26, k2, k1]) (w21.drew) w33) →
        Calls P F.law23_own #[Value.agg #[Value.int IntKind.i64 x3, Value.int IntKind.i64 x4, Value.slice sa2 sl2 sc2]] w33 fun e17 w34 =>
        ∃ n42 : Int,
        ∃ n43 : Int,
        ∃ p17 : Option Addr,
        ∃ k45 : Nat,
        ∃ k46 : Nat,
        (e17 = Ending.returned (Value.agg #[Value.int IntKind.i64 n42, Value.int IntKind.i64 n43, Value.slice p17 k45 k46])) ∧
        (Keep ([k44, k26, k2, k1]) w33 w34) ∧
        (Keeps w33 w34) ∧
        Calls P F.law23_own #[Value.agg #[Value.int IntKind.i64 x1, Value.int IntKind.i64 x2, Value.slice sa1 sl1 sc1]] w34 fun e18 w35 =>
        ∃ n44 : Int,
        ∃ n45 : Int,
        ∃ p18 : Option Addr,
        ∃ k47 : Nat,
        ∃ k48 : Nat,
        (e18 = Ending.returned (Value.agg #[Value.int IntKind.i64 n44, Value.int IntKind.i64 n45, Value.slice p18 k47 k48])) ∧
        (Keep ([k44, k26, k2, k1]) w34 w35) ∧
        (Keeps w34 w35) ∧
        Calls P F.blend_Apply #[Value.string s2, Value.slice none 0 0, Value.agg #[Value.int IntKind.i64 n42, Value.int IntKind.i64 n43, Value.slice p17 k45 k46], Value.agg #[Value.int IntKind.i64 n44, Value.int IntKind.i64 n45, Value.slice p18 k47 k48]] w35 fun e19 w36 =>
        ∃ n46 : Int,
        ∃ n47 : Int,
        ∃ p19 : Option Addr,
        ∃ k49 : Nat,
        ∃ k50 : Nat,
        ∃ n48 : Int,
        (e19 = Ending.returned (Value.tuple #[Value.agg #[Value.int IntKind.i64 n46, Value.int IntKind.i64 n47, Value.slice p19 k49 k50], Value.int IntKind.i64 n48])) ∧
        (Keep ([k44, k26, k2, k1]) w35 w36) ∧
        ∀ w37 : World,
        (Locl ([k44, k26, k2, k1]) w36 w37) →
        I3 [Value.int IntKind.i64 n48, Value.pointer (some { block := k44, off := 0 }), Value.int IntKind.i64 n46, Value.int IntKind.i64 n47, Value.slice p19 k49 k50] w37) ∧
      ∀ n49 : Int,
      ∀ k51 : Nat,
      ∀ n50 : Int,
      ∀ n51 : Int,
      ∀ p20 : Option Addr,
      ∀ k52 : Nat,
      ∀ k53 : Nat,
      ∀ w38 : World,
      (I3 [Value.int IntKind.i64 n49, Value.pointer (some { block := k51, off := 0 }), Value.int IntKind.i64 n50, Value.int IntKind.i64 n51, Value.slice p20 k52 k53] w38) →
      brB (n24 != n49)
        (R (Ending.returned (Value.bool false)) w38)
        (Calls P F.law23_colours #[Value.agg #[Value.int IntKind.i64 n25, Value.int IntKind.i64 n26, Value.slice p10 k27 k28], Value.agg #[Value.int IntKind.i64 n50, Value.int IntKind.i64 n51, Value.slice p20 k52 k53]] w38 fun e20 w39 =>
        ∃ c2 : Bool,
        (e20 = Ending.returned (Value.bool c2)) ∧
        (Keep ([k51, k26, k2, k1]) w38 w39) ∧
        brB (!c2)
          (R (Ending.returned (Value.bool false)) w39)
          ((I1 [Value.int IntKind.i64 (IntKind.i64.wrap (n1 + 1))] w39) ∧
          m1 [Value.int IntKind.i64 (IntKind.i64.wrap (n1 + 1))] w39 < m1 [Value.int IntKind.i64 n1] w4)))
      (∃ I4 : List Value → World → Prop,
      ((∀ k54 : Nat,
          ∀ w40 : World,
          (New (w4.drew) (Obj.cells #[Value.int IntKind.i64 0] 3) k54 w40) →
          (Calls P F.law23_own #[Value.agg #[Value.int IntKind.i64 x1, Value.int IntKind.i64 x2, Value.slice sa1 sl1 sc1]] w40 fun e21 w41 =>
            ∃ n52 : Int,
            ∃ n53 : Int,
            ∃ p21 : Option Addr,
            ∃ k55 : Nat,
            ∃ k56 : Nat,
            (e21 = Ending.returned (Value.agg #[Value.int IntKind.i64 n52, Value.int IntKind.i64 n53, Value.slice p21 k55 k56])) ∧
            (Keep ([k2, k1]) w40 w41) ∧
            (Keeps w40 w41) ∧
            (Calls P F.law23_own #[Value.agg #[Value.int IntKind.i64 x3, Value.int IntKind.i64 x4, Value.slice sa2 sl2 sc2]] w41 fun e22 w42 =>
              ∃ n54 : Int,
              ∃ n55 : Int,
              ∃ p22 : Option Addr,
              ∃ k57 : Nat,
              ∃ k58 : Nat,
              (e22 = Ending.returned (Value.agg #[Value.int IntKind.i64 n54, Value.int IntKind.i64 n55, Value.slice p22 k57 k58])) ∧
              (Keep ([k2, k1]) w41 w42) ∧
              (Calls P F.blend_Apply #[Value.string { data := #[109, 105, 120] }, Value.slice (some { block := k54, off := 0 }) 1 1, Value.agg #[Value.int IntKind.i64 n52, Value.int IntKind.i64 n53, Value.slice p21 k55 k56], Value.agg #[Value.int IntKind.i64 n54, Value.int IntKind.i64 n55, Value.slice p22 k57 k58]] w42 fun e23 w43 =>
                ∃ n56 : Int,
                ∃ n57 : Int,
                ∃ p23 : Option Addr,
                ∃ k59 : Nat,
                ∃ k60 : Nat,
                ∃ n58 : Int,
                (e23 = Ending.returned (Value.tuple #[Value.agg #[Value.int IntKind.i64 n56, Value.int IntKind.i64 n57, Value.slice p23 k59 k60], Value.int IntKind.i64 n58])) ∧
                (Keep ([k2, k1]) w42 w43) ∧
                ∀ k61 : Nat,
                (w43.heap.size ≤ k61) →
                ∀ w44 : World,
                (Locl ([k61, k2, k1]) w43 w44) →
                I4 [Value.int IntKind.i64 n58, Value.pointer (some { block := k61, off := 0 }), Value.int IntKind.i64 n56, Value.int IntKind.i64 n57, Value.slice p23 k59 k60] w44) ∧
              ∀ k62 : Nat,
              (w42.heap.size ≤ k62) →
              ∀ w45 : World,
              (Locl ([k62, k2, k1]) w42 w45) →
              Calls P F.blend_Apply #[Value.string { data := #[109, 105, 120] }, Value.slice (some { block := k54, off := 0 }) 1 1, Value.agg #[Value.int IntKind.i64 n52, Value.int IntKind.i64 n53, Value.slice p21 k55 k56], Value.agg #[Value.int IntKind.i64 n54, Value.int IntKind.i64 n55, Value.slice p22 k57 k58]] w45 fun e24 w46 =>
              ∃ n59 : Int,
              ∃ n60 : Int,
              ∃ p24 : Option Addr,
              ∃ k63 : Nat,
              ∃ k64 : Nat,
              ∃ n61 : Int,
              (e24 = Ending.returned (Value.tuple #[Value.agg #[Value.int IntKind.i64 n59, Value.int IntKind.i64 n60, Value.slice p24 k63 k64], Value.int IntKind.i64 n61])) ∧
              (Keep ([k62, k2, k1]) w45 w46) ∧
              ∀ w47 : World,
              (Locl ([k62, k2, k1]) w46 w47) →
              I4 [Value.int IntKind.i64 n61, Value.pointer (some { block := k62, off := 0 }), Value.int IntKind.i64 n59, Value.int IntKind.i64 n60, Value.slice p24 k63 k64] w47) ∧
            ∀ k65 : Nat,
            (w41.heap.size ≤ k65) →
            ∀ w48 : World,
            (Locl ([k65, k2, k1]) w41 w48) →
            Calls P F.law23_own #[Value.agg #[Value.int IntKind.i64 x3, Value.int IntKind.i64 x4, Value.slice sa2 sl2 sc2]] w48 fun e25 w49 =>
            ∃ n62 : Int,
            ∃ n63 : Int,
            ∃ p25 : Option Addr,
            ∃ k66 : Nat,
            ∃ k67 : Nat,
            (e25 = Ending.returned (Value.agg #[Value.int IntKind.i64 n62, Value.int IntKind.i64 n63, Value.slice p25 k66 k67])) ∧
            (Keep ([k65, k2, k1]) w48 w49) ∧
            Calls P F.blend_Apply #[Value.string { data := #[109, 105, 120] }, Value.slice (some { block := k54, off := 0 }) 1 1, Value.agg #[Value.int IntKind.i64 n52, Value.int IntKind.i64 n53, Value.slice p21 k55 k56], Value.agg #[Value.int IntKind.i64 n62, Value.int IntKind.i64 n63, Value.slice p25 k66 k67]] w49 fun e26 w50 =>
            ∃ n64 : Int,
            ∃ n65 : Int,
            ∃ p26 : Option Addr,
            ∃ k68 : Nat,
            ∃ k69 : Nat,
            ∃ n66 : Int,
            (e26 = Ending.returned (Value.tuple #[Value.agg #[Value.int IntKind.i64 n64, Value.int IntKind.i64 n65, Value.slice p26 k68 k69], Value.int IntKind.i64 n66])) ∧
            (Keep ([k65, k2, k1]) w49 w50) ∧
            ∀ w51 : World,
            (Locl ([k65, k2, k1]) w50 w51) →
            I4 [Value.int IntKind.i64 n66, Value.pointer (some { block := k65, off := 0 }), Value.int IntKind.i64 n64, Value.int IntKind.i64 n65, Value.slice p26 k68 k69] w51) ∧
          ∀ k70 : Nat,
          (w40.heap.size ≤ k70) →
          ∀ w52 : World,
          (Locl ([k70, k2, k1]) w40 w52) →
          Calls P F.law23_own #[Value.agg #[Value.int IntKind.i64 x1, Value.int IntKind.i64 x2, Value.slice sa1 sl1 sc1]] w52 fun e27 w53 =>
          ∃ n67 : Int,
          ∃ n68 : Int,
          ∃ p27 : Option Addr,
          ∃ k71 : Nat,
          ∃ k72 : Nat,
          (e27 = Ending.returned (Value.agg #[Value.int IntKind.i64 n67, Value.int IntKind.i64 n68, Value.slice p27 k71 k72])) ∧
          (Keep ([k70, k2, k1]) w52 w53) ∧
          (Keeps w52 w53) ∧
          Calls P F.law23_own #[Value.agg #[Value.int IntKind.i64 x3, Value.int IntKind.i64 x4, Value.slice sa2 sl2 sc2]] w53 fun e28 w54 =>
          ∃ n69 : Int,
          ∃ n70 : Int,
          ∃ p28 : Option Addr,
          ∃ k73 : Nat,
          ∃ k74 : Nat,
          (e28 = Ending.returned (Value.agg #[Value.int IntKind.i64 n69, Value.int IntKind.i64 n70, Value.slice p28 k73 k74])) ∧
          (Keep ([k70, k2, k1]) w53 w54) ∧
          Calls P F.blend_Apply #[Value.string { data := #[109, 105, 120] }, Value.slice (some { block := k54, off := 0 }) 1 1, Value.agg #[Value.int IntKind.i64 n67, Value.int IntKind.i64 n68, Value.slice p27 k71 k72], Value.agg #[Value.int IntKind.i64 n69, Value.int IntKind.i64 n70, Value.slice p28 k73 k74]] w54 fun e29 w55 =>
          ∃ n71 : Int,
          ∃ n72 : Int,
          ∃ p29 : Option Addr,
          ∃ k75 : Nat,
          ∃ k76 : Nat,
          ∃ n73 : Int,
          (e29 = Ending.returned (Value.tuple #[Value.agg #[Value.int IntKind.i64 n71, Value.int IntKind.i64 n72, Value.slice p29 k75 k76], Value.int IntKind.i64 n73])) ∧
          (Keep ([k70, k2, k1]) w54 w55) ∧
          ∀ w56 : World,
          (Locl ([k70, k2, k1]) w55 w56) →
          I4 [Value.int IntKind.i64 n73, Value.pointer (some { block := k70, off := 0 }), Value.int IntKind.i64 n71, Value.int IntKind.i64 n72, Value.slice p29 k75 k76] w56) ∧
        (Calls P F.law23_own #[Value.agg #[Value.int IntKind.i64 x1, Value.int IntKind.i64 x2, Value.slice sa1 sl1 sc1]] (w4.drew) fun e30 w57 =>
          ∃ n74 : Int,
          ∃ n75 : Int,
          ∃ p30 : Option Addr,
          ∃ k77 : Nat,
          ∃ k78 : Nat,
          (e30 = Ending.returned (Value.agg #[Value.int IntKind.i64 n74, Value.int IntKind.i64 n75, Value.slice p30 k77 k78])) ∧
          (Keep ([k2, k1]) (w4.drew) w57) ∧
          (Keeps (w4.drew) w57) ∧
          (∀ k79 : Nat,
            ∀ w58 : World,
            (New w57 (Obj.cells #[Value.int IntKind.i64 0] 3) k79 w58) →
            (Calls P F.law23_own #[Value.agg #[Value.int IntKind.i64 x3, Value.int IntKind.i64 x4, Value.slice sa2 sl2 sc2]] w58 fun e31 w59 =>
              ∃ n76 : Int,
              ∃ n77 : Int,
              ∃ p31 : Option Addr,
              ∃ k80 : Nat,
              ∃ k81 : Nat,
              (e31 = Ending.returned (Value.agg #[Value.int IntKind.i64 n76, Value.int IntKind.i64 n77, Value.slice p31 k80 k81])) ∧
              (Keep ([k2, k1]) w58 w59) ∧
              (Calls P F.blend_Apply #[Value.string { data := #[109, 105, 120] }, Value.slice (some { block := k79, off := 0 }) 1 1, Value.agg #[Value.int IntKind.i64 n74, Value.int IntKind.i64 n75, Value.slice p30 k77 k78], Value.agg #[Value.int IntKind.i64 n76, Value.int IntKind.i64 n77, Value.slice p31 k80 k81]] w59 fun e32 w60 =>
                ∃ n78 : Int,
                ∃ n79 : Int,
                ∃ p32 : Option Addr,
                ∃ k82 : Nat,
                ∃ k83 : Nat,
                ∃ n80 : Int,
                (e32 = Ending.returned (Value.tuple #[Value.agg #[Value.int IntKind.i64 n78, Value.int IntKind.i64 n79, Value.slice p32 k82 k83], Value.int IntKind.i64 n80])) ∧
                (Keep ([k2, k1]) w59 w60) ∧
                ∀ k84 : Nat,
                (w60.heap.size ≤ k84) →
                ∀ w61 : World,
                (Locl ([k84, k2, k1]) w60 w61) →
                I4 [Value.int IntKind.i64 n80, Value.pointer (some { block := k84, off := 0 }), Value.int IntKind.i64 n78, Value.int IntKind.i64 n79, Value.slice p32 k82 k83] w61) ∧
              ∀ k85 : Nat,
              (w59.heap.size ≤ k85) →
              ∀ w62 : World,
              (Locl ([k85, k2, k1]) w59 w62) →
              Calls P F.blend_Apply #[Value.string { data := #[109, 105, 120] }, Value.slice (some { block := k79, off := 0 }) 1 1, Value.agg #[Value.int IntKind.i64 n74, Value.int IntKind.i64 n75, Value.slice p30 k77 k78], Value.agg #[Value.int IntKind.i64 n76, Value.int IntKind.i64 n77, Value.slice p31 k80 k81]] w62 fun e33 w63 =>
              ∃ n81 : Int,
              ∃ n82 : Int,
              ∃ p33 : Option Addr,
              ∃ k86 : Nat,
              ∃ k87 : Nat,
              ∃ n83 : Int,
              (e33 = Ending.returned (Value.tuple #[Value.agg #[Value.int IntKind.i64 n81, Value.int IntKind.i64 n82, Value.slice p33 k86 k87], Value.int IntKind.i64 n83])) ∧
              (Keep ([k85, k2, k1]) w62 w63) ∧
              ∀ w64 : World,
              (Locl ([k85, k2, k1]) w63 w64) →
              I4 [Value.int IntKind.i64 n83, Value.pointer (some { block := k85, off := 0 }), Value.int IntKind.i64 n81, Value.int IntKind.i64 n82, Value.slice p33 k86 k87] w64) ∧
            ∀ k88 : Nat,
            (w58.heap.size ≤ k88) →
            ∀ w65 : World,
            (Locl ([k88, k2, k1]) w58 w65) →
            Calls P F.law23_own #[Value.agg #[Value.int IntKind.i64 x3, Value.int IntKind.i64 x4, Value.slice sa2 sl2 sc2]] w65 fun e34 w66 =>
            ∃ n84 : Int,
            ∃ n85 : Int,
            ∃ p34 : Option Addr,
            ∃ k89 : Nat,
            ∃ k90 : Nat,
            (e34 = Ending.returned (Value.agg #[Value.int IntKind.i64 n84, Value.int IntKind.i64 n85, Value.slice p34 k89 k90])) ∧
            (Keep ([k88, k2, k1]) w65 w66) ∧
            Calls P F.blend_Apply #[Value.string { data := #[109, 105, 120] }, Value.slice (some { block := k79, off := 0 }) 1 1, Value.agg #[Value.int IntKind.i64 n74, Value.int IntKind.i64 n75, Value.slice p30 k77 k78], Value.agg #[Value.int IntKind.i64 n84, Value.int IntKind.i64 n85, Value.slice p34 k89 k90]] w66 fun e35 w67 =>
            ∃ n86 : Int,
            ∃ n87 : Int,
            ∃ p35 : Option Addr,
            ∃ k91 : Nat,
            ∃ k92 : Nat,
            ∃ n88 : Int,
            (e35 = Ending.returned (Value.tuple #[Value.agg #[Value.int IntKind.i64 n86, Value.int IntKind.i64 n87, Value.slice p35 k91 k92], Value.int IntKind.i64 n88])) ∧
            (Keep ([k88, k2, k1]) w66 w67) ∧
            ∀ w68 : World,
            (Locl ([k88, k2, k1]) w67 w68) →
            I4 [Value.int IntKind.i64 n88, Value.pointer (some { block := k88, off := 0 }), Value.int IntKind.i64 n86, Value.int IntKind.i64 n87, Value.slice p35 k91 k92] w68) ∧
          (Calls P F.law23_own #[Value.agg #[Value.int IntKind.i64 x3, Value.int IntKind.i64 x4, Value.slice sa2 sl2 sc2]] w57 fun e36 w69 =>
            ∃ n89 : Int,
            ∃ n90 : Int,
            ∃ p36 : Option Addr,
            ∃ k93 : Nat,
            ∃ k94 : Nat,
            (e36 = Ending.returned (Value.agg #[Value.int IntKind.i64 n89, Value.int IntKind.i64 n90, Value.slice p36 k93 k94])) ∧
            (Keep ([k2, k1]) w57 w69) ∧
            (∀ k95 : Nat,
              ∀ w70 : World,
              (New w69 (Obj.cells #[Value.int IntKind.i64 0] 3) k95 w70) →
              (Calls P F.blend_Apply #[Value.string { data := #[109, 105, 120] }, Value.slice (some { block := k95, off := 0 }) 1 1, Value.agg #[Value.int IntKind.i64 n74, Value.int IntKind.i64 n75, Value.slice p30 k77 k78], Value.agg #[Value.int IntKind.i64 n89, Value.int IntKind.i64 n90, Value.slice p36 k93 k94]] w70 fun e37 w71 =>
                ∃ n91 : Int,
                ∃ n92 : Int,
                ∃ p37 : Option Addr,
                ∃ k96 : Nat,
                ∃ k97 : Nat,
                ∃ n93 : Int,
                (e37 = Ending.returned (Value.tuple #[Value.agg #[Value.int IntKind.i64 n91, Value.int IntKind.i64 n92, Value.slice p37 k96 k97], Value.int IntKind.i64 n93])) ∧
                (Keep ([k2, k1]) w70 w71) ∧
                ∀ k98 : Nat,
                (w71.heap.size ≤ k98) →
                ∀ w72 : World,
                (Locl ([k98, k2, k1]) w71 w72) →
                I4 [Value.int IntKind.i64 n93, Value.pointer (some { block := k98, off := 0 }), Value.int IntKind.i64 n91, Value.int IntKind.i64 n92, Value.slice p37 k96 k97] w72) ∧
              ∀ k99 : Nat,
              (w70.heap.size ≤ k99) →
              ∀ w73 : World,
              (Locl ([k99, k2, k1]) w70 w73) →
              Calls P F.blend_Apply #[Value.string { data := #[109, 105, 120] }, Value.slice (some { block := k95, off := 0 }) 1 1, Value.agg #[Value.int IntKind.i64 n74, Value.int IntKind.i64 n75, Value.slice p30 k77 k78], Value.agg #[Value.int IntKind.i64 n89, Value.int IntKind.i64 n90, Value.slice p36 k93 k94]] w73 fun e38 w74 =>
              ∃ n94 : Int,
              ∃ n95 : Int,
              ∃ p38 : Option Addr,
              ∃ k100 : Nat,
              ∃ k101 : Nat,
              ∃ n96 : Int,
              (e38 = Ending.returned (Value.tuple #[Value.agg #[Value.int IntKind.i64 n94, Value.int IntKind.i64 n95, Value.slice p38 k100 k101], Value.int IntKind.i64 n96])) ∧
              (Keep ([k99, k2, k1]) w73 w74) ∧
              ∀ w75 : World,
              (Locl ([k99, k2, k1]) w74 w75) →
              I4 [Value.int IntKind.i64 n96, Value.pointer (some { block := k99, off := 0 }), Value.int IntKind.i64 n94, Value.int IntKind.i64 n95, Value.slice p38 k100 k101] w75) ∧
            ∀ k102 : Nat,
            (w69.heap.size ≤ k102) →
            ∀ w76 : World,
            (Locl ([k102, k2, k1]) w69 w76) →
            ∀ k103 : Nat,
            ∀ w77 : World,
            (New w76 (Obj.cells #[Value.int IntKind.i64 0] 3) k103 w77) →
            Calls P F.blend_Apply #[Value.string { data := #[109, 105, 120] }, Value.slice (some { block := k103, off := 0 }) 1 1, Value.agg #[Value.int IntKind.i64 n74, Value.int IntKind.i64 n75, Value.slice p30 k77 k78], Value.agg #[Value.int IntKind.i64 n89, Value.int IntKind.i64 n90, Value.slice p36 k93 k94]] w77 fun e39 w78 =>
            ∃ n97 : Int,
            ∃ n98 : Int,
            ∃ p39 : Option Addr,
            ∃ k104 : Nat,
            ∃ k105 : Nat,
            ∃ n99 : Int,
            (e39 = Ending.returned (Value.tuple #[Value.agg #[Value.int IntKind.i64 n97, Value.int IntKind.i64 n98, Value.slice p39 k104 k105], Value.int IntKind.i64 n99])) ∧
            (Keep ([k102, k2, k1]) w77 w78) ∧
            ∀ w79 : World,
            (Locl ([k102, k2, k1]) w78 w79) →
            I4 [Value.int IntKind.i64 n99, Value.pointer (some { block := k102, off := 0 }), Value.int IntKind.i64 n97, Value.int IntKind.i64 n98, Value.slice p39 k104 k105] w79) ∧
          ∀ k106 : Nat,
          (w57.heap.size ≤ k106) →
          (∀ w80 : World,
            (Locl ([k106, k2, k1]) w57 w80) →
            ∀ k107 : Nat,
            ∀ w81 : World,
            (New w80 (Obj.cells #[Value.int IntKind.i64 0] 3) k107 w81) →
            Calls P F.law23_own #[Value.agg #[Value.int IntKind.i64 x3, Value.int IntKind.i64 x4, Value.slice sa2 sl2 sc2]] w81 fun e40 w82 =>
            ∃ n100 : Int,
            ∃ n101 : Int,
            ∃ p40 : Option Addr,
            ∃ k108 : Nat,
            ∃ k109 : Nat,
            (e40 = Ending.returned (Value.agg #[Value.int IntKind.i64 n100, Value.int IntKind.i64 n101, Value.slice p40 k108 k109])) ∧
            (Keep ([k106, k2, k1]) w81 w82) ∧
            Calls P F.blend_Apply #[Value.string { data := #[109, 105, 120] }, Value.slice (some { block := k107, off := 0 }) 1 1, Value.agg #[Value.int IntKind.i64 n74, Value.int IntKind.i64 n75, Value.slice p30 k77 k78], Value.agg #[Value.int IntKind.i64 n100, Value.int IntKind.i64 n101, Value.slice p40 k108 k109]] w82 fun e41 w83 =>
            ∃ n102 : Int,
            ∃ n103 : Int,
            ∃ p41 : Option Addr,
            ∃ k110 : Nat,
            ∃ k111 : Nat,
            ∃ n104 : Int,
            (e41 = Ending.returned (Value.tuple #[Value.agg #[Value.int IntKind.i64 n102, Value.int IntKind.i64 n103, Value.slice p41 k110 k111], Value.int IntKind.i64 n104])) ∧
            (Keep ([k106, k2, k1]) w82 w83) ∧
            ∀ w84 : World,
            (Locl ([k106, k2, k1]) w83 w84) →
            I4 [Value.int IntKind.i64 n104, Value.pointer (some { block := k106, off := 0 }), Value.int IntKind.i64 n102, Value.int IntKind.i64 n103, Value.slice p41 k110 k111] w84) ∧
          ∀ w85 : World,
          (Locl ([k106, k2, k1]) w57 w85) →
          Calls P F.law23_own #[Value.agg #[Value.int IntKind.i64 x3, Value.int IntKind.i64 x4, Value.slice sa2 sl2 sc2]] w85 fun e42 w86 =>
          ∃ n105 : Int,
          ∃ n106 : Int,
          ∃ p42 : Option Addr,
          ∃ k112 : Nat,
          ∃ k113 : Nat,
          (e42 = Ending.returned (Value.agg #[Value.int IntKind.i64 n105, Value.int IntKind.i64 n106, Value.slice p42 k112 k113])) ∧
          (Keep ([k106, k2, k1]) w85 w86) ∧
          ∀ k114 : Nat,
          ∀ w87 : World,
          (New w86 (Obj.cells #[Value.int IntKind.i64 0] 3) k114 w87) →
          Calls P F.blend_Apply #[Value.string { data := #[109, 105, 120] }, Value.slice (some { block := k114, off := 0 }) 1 1, Value.agg #[Value.int IntKind.i64 n74, Value.int IntKind.i64 n75, Value.slice p30 k77 k78], Value.agg #[Value.int IntKind.i64 n105, Value.int IntKind.i64 n106, Value.slice p42 k112 k113]] w87 fun e43 w88 =>
          ∃ n107 : Int,
          ∃ n108 : Int,
          ∃ p43 : Option Addr,
          ∃ k115 : Nat,
          ∃ k116 : Nat,
          ∃ n109 : Int,
          (e43 = Ending.returned (Value.tuple #[Value.agg #[Value.int IntKind.i64 n107, Value.int IntKind.i64 n108, Value.slice p43 k115 k116], Value.int IntKind.i64 n109])) ∧
          (Keep ([k106, k2, k1]) w87 w88) ∧
          ∀ w89 : World,
          (Locl ([k106, k2, k1]) w88 w89) →
          I4 [Value.int IntKind.i64 n109, Value.pointer (some { block := k106, off := 0 }), Value.int IntKind.i64 n107, Value.int IntKind.i64 n108, Value.slice p43 k115 k116] w89) ∧
        ∀ k117 : Nat,
        (w4.drew.heap.size ≤ k117) →
        (∀ w90 : World,
          (Locl ([k117, k2, k1]) (w4.drew) w90) →
          ∀ k118 : Nat,
          ∀ w91 : World,
          (New w90 (Obj.cells #[Value.int IntKind.i64 0] 3) k118 w91) →
          Calls P F.law23_own #[Value.agg #[Value.int IntKind.i64 x1, Value.int IntKind.i64 x2, Value.slice sa1 sl1 sc1]] w91 fun e44 w92 =>
          ∃ n110 : Int,
          ∃ n111 : Int,
          ∃ p44 : Option Addr,
          ∃ k119 : Nat,
          ∃ k120 : Nat,
          (e44 = Ending.returned (Value.agg #[Value.int IntKind.i64 n110, Value.int IntKind.i64 n111, Value.slice p44 k119 k120])) ∧
          (Keep ([k117, k2, k1]) w91 w92) ∧
          (Keeps w91 w92) ∧
          Calls P F.law23_own #[Value.agg #[Value.int IntKind.i64 x3, Value.int IntKind.i64 x4, Value.slice sa2 sl2 sc2]] w92 fun e45 w93 =>
          ∃ n112 : Int,
          ∃ n113 : Int,
          ∃ p45 : Option Addr,
          ∃ k121 : Nat,
          ∃ k122 : Nat,
          (e45 = Ending.returned (Value.agg #[Value.int IntKind.i64 n112, Value.int IntKind.i64 n113, Value.slice p45 k121 k122])) ∧
          (Keep ([k117, k2, k1]) w92 w93) ∧
          Calls P F.blend_Apply #[Value.string { data := #[109, 105, 120] }, Value.slice (some { block := k118, off := 0 }) 1 1, Value.agg #[Value.int IntKind.i64 n110, Value.int IntKind.i64 n111, Value.slice p44 k119 k120], Value.agg #[Value.int IntKind.i64 n112, Value.int IntKind.i64 n113, Value.slice p45 k121 k122]] w93 fun e46 w94 =>
          ∃ n114 : Int,
          ∃ n115 : Int,
          ∃ p46 : Option Addr,
          ∃ k123 : Nat,
          ∃ k124 : Nat,
          ∃ n116 : Int,
          (e46 = Ending.returned (Value.tuple #[Value.agg #[Value.int IntKind.i64 n114, Value.int IntKind.i64 n115, Value.slice p46 k123 k124], Value.int IntKind.i64 n116])) ∧
          (Keep ([k117, k2, k1]) w93 w94) ∧
          ∀ w95 : World,
          (Locl ([k117, k2, k1]) w94 w95) →
          I4 [Value.int IntKind.i64 n116, Value.pointer (some { block := k117, off := 0 }), Value.int IntKind.i64 n114, Value.int IntKind.i64 n115, Value.slice p46 k123 k124] w95) ∧
        ∀ w96 : World,
        (Locl ([k117, k2, k1]) (w4.drew) w96) →
        Calls P F.law23_own #[Value.agg #[Value.int IntKind.i64 x1, Value.int IntKind.i64 x2, Value.slice sa1 sl1 sc1]] w96 fun e47 w97 =>
        ∃ n117 : Int,
        ∃ n118 : Int,
        ∃ p47 : Option Addr,
        ∃ k125 : Nat,
        ∃ k126 : Nat,
        (e47 = Ending.returned (Value.agg #[Value.int IntKind.i64 n117, Value.int IntKind.i64 n118, Value.slice p47 k125 k126])) ∧
        (Keep ([k117, k2, k1]) w96 w97) ∧
        (Keeps w96 w97) ∧
        (∀ k127 : Nat,
          ∀ w98 : World,
          (New w97 (Obj.cells #[Value.int IntKind.i64 0] 3) k127 w98) →
          Calls P F.law23_own #[Value.agg #[Value.int IntKind.i64 x3, Value.int IntKind.i64 x4, Value.slice sa2 sl2 sc2]] w98 fun e48 w99 =>
          ∃ n119 : Int,
          ∃ n120 : Int,
          ∃ p48 : Option Addr,
          ∃ k128 : Nat,
          ∃ k129 : Nat,
          (e48 = Ending.returned (Value.agg #[Value.int IntKind.i64 n119, Value.int IntKind.i64 n120, Value.slice p48 k128 k129])) ∧
          (Keep ([k117, k2, k1]) w98 w99) ∧
          Calls P F.blend_Apply #[Value.string { data := #[109, 105, 120] }, Value.slice (some { block := k127, off := 0 }) 1 1, Value.agg #[Value.int IntKind.i64 n117, Value.int IntKind.i64 n118, Value.slice p47 k125 k126], Value.agg #[Value.int IntKind.i64 n119, Value.int IntKind.i64 n120, Value.slice p48 k128 k129]] w99 fun e49 w100 =>
          ∃ n121 : Int,
          ∃ n122 : Int,
          ∃ p49 : Option Addr,
          ∃ k130 : Nat,
          ∃ k131 : Nat,
          ∃ n123 : Int,
          (e49 = Ending.returned (Value.tuple #[Value.agg #[Value.int IntKind.i64 n121, Value.int IntKind.i64 n122, Value.slice p49 k130 k131], Value.int IntKind.i64 n123])) ∧
          (Keep ([k117, k2, k1]) w99 w100) ∧
          ∀ w101 : World,
          (Locl ([k117, k2, k1]) w100 w101) →
          I4 [Value.int IntKind.i64 n123, Value.pointer (some { block := k117, off := 0 }), Value.int IntKind.i64 n121, Value.int IntKind.i64 n122, Value.slice p49 k130 k131] w101) ∧
        Calls P F.law23_own #[Value.agg #[Value.int IntKind.i64 x3, Value.int IntKind.i64 x4, Value.slice sa2 sl2 sc2]] w97 fun e50 w102 =>
        ∃ n124 : Int,
        ∃ n125 : Int,
        ∃ p50 : Option Addr,
        ∃ k132 : Nat,
        ∃ k133 : Nat,
        (e50 = Ending.returned (Value.agg #[Value.int IntKind.i64 n124, Value.int IntKind.i64 n125, Value.slice p50 k132 k133])) ∧
        (Keep ([k117, k2, k1]) w97 w102) ∧
        ∀ k134 : Nat,
        ∀ w103 : World,
        (New w102 (Obj.cells #[Value.int IntKind.i64 0] 3) k134 w103) →
        Calls P F.blend_Apply #[Value.string { data := #[109, 105, 120] }, Value.slice (some { block := k134, off := 0 }) 1 1, Value.agg #[Value.int IntKind.i64 n117, Value.int IntKind.i64 n118, Value.slice p47 k125 k126], Value.agg #[Value.int IntKind.i64 n124, Value.int IntKind.i64 n125, Value.slice p50 k132 k133]] w103 fun e51 w104 =>
        ∃ n126 : Int,
        ∃ n127 : Int,
        ∃ p51 : Option Addr,
        ∃ k135 : Nat,
        ∃ k136 : Nat,
        ∃ n128 : Int,
        (e51 = Ending.returned (Value.tuple #[Value.agg #[Value.int IntKind.i64 n126, Value.int IntKind.i64 n127, Value.slice p51 k135 k136], Value.int IntKind.i64 n128])) ∧
        (Keep ([k117, k2, k1]) w103 w104) ∧
        ∀ w105 : World,
        (Locl ([k117, k2, k1]) w104 w105) →
        I4 [Value.int IntKind.i64 n128, Value.pointer (some { block := k117, off := 0 }), Value.int IntKind.i64 n126, Value.int IntKind.i64 n127, Value.slice p51 k135 k136] w105) ∧
      ∀ n129 : Int,
      ∀ k137 : Nat,
      ∀ n130 : Int,
      ∀ n131 : Int,
      ∀ p52 : Option Addr,
      ∀ k138 : Nat,
      ∀ k139 : Nat,
      ∀ w106 : World,
      (I4 [Value.int IntKind.i64 n129, Value.pointer (some { block := k137, off := 0 }), Value.int IntKind.i64 n130, Value.int IntKind.i64 n131, Value.slice p52 k138 k139] w106) →
      ∃ I5 : List Value → World → Prop,
      ((∀ k140 : Nat,
          ∀ w107 : World,
          (New (w106.drew) (Obj.cells #[Value.int IntKind.i64 256] 3) k140 w107) →
          (Calls P F.law23_own #[Value.agg #[Value.int IntKind.i64 x1, Value.int IntKind.i64 x2, Value.slice sa1 sl1 sc1]] w107 fun e52 w108 =>
            ∃ n132 : Int,
            ∃ n133 : Int,
            ∃ p53 : Option Addr,
            ∃ k141 : Nat,
            ∃ k142 : Nat,
            (e52 = Ending.returned (Value.agg #[Value.int IntKind.i64 n132, Value.int IntKind.i64 n133, Value.slice p53 k141 k142])) ∧
            (Keep ([k137, k2, k1]) w107 w108) ∧
            (Keeps w107 w108) ∧
            (Calls P F.law23_own #[Value.agg #[Value.int IntKind.i64 x3, Value.int IntKind.i64 x4, Value.slice sa2 sl2 sc2]] w108 fun e53 w109 =>
              ∃ n134 : Int,
              ∃ n135 : Int,
              ∃ p54 : Option Addr,
              ∃ k143 : Nat,
              ∃ k144 : Nat,
              (e53 = Ending.returned (Value.agg #[Value.int IntKind.i64 n134, Value.int IntKind.i64 n135, Value.slice p54 k143 k144])) ∧
              (Keep ([k137, k2, k1]) w108 w109) ∧
              (Calls P F.blend_Apply #[Value.string { data := #[109, 105, 120] }, Value.slice (some { block := k140, off := 0 }) 1 1, Value.agg #[Value.int IntKind.i64 n132, Value.int IntKind.i64 n133, Value.slice p53 k141 k142], Value.agg #[Value.int IntKind.i64 n134, Value.int IntKind.i64 n135, Value.slice p54 k143 k144]] w109 fun e54 w110 =>
                ∃ n136 : Int,
                ∃ n137 : Int,
                ∃ p55 : Option Addr,
                ∃ k145 : Nat,
                ∃ k146 : Nat,
                ∃ n138 : Int,
                (e54 = Ending.returned (Value.tuple #[Value.agg #[Value.int IntKind.i64 n136, Value.int IntKind.i64 n137, Value.slice p55 k145 k146], Value.int IntKind.i64 n138])) ∧
                (Keep ([k137, k2, k1]) w109 w110) ∧
                ∀ k147 : Nat,
                (w110.heap.size ≤ k147) →
                ∀ w111 : World,
                (Locl ([k147, k137, k2, k1]) w110 w111) →
                I5 [Value.int IntKind.i64 n138, Value.pointer (some { block := k147, off := 0 }), Value.int IntKind.i64 n136, Value.int IntKind.i64 n137, Value.slice p55 k145 k146] w111) ∧
              ∀ k148 : Nat,
              (w109.heap.size ≤ k148) →
              ∀ w112 : World,
              (Locl ([k148, k137, k2, k1]) w109 w112) →
              Calls P F.blend_Apply #[Value.string { data := #[109, 105, 120] }, Value.slice (some { block := k140, off := 0 }) 1 1, Value.agg #[Value.int IntKind.i64 n132, Value.int IntKind.i64 n133, Value.slice p53 k141 k142], Value.agg #[Value.int IntKind.i64 n134, Value.int IntKind.i64 n135, Value.slice p54 k143 k144]] w112 fun e55 w113 =>
              ∃ n139 : Int,
              ∃ n140 : Int,
              ∃ p56 : Option Addr,
              ∃ k149 : Nat,
              ∃ k150 : Nat,
              ∃ n141 : Int,
              (e55 = Ending.returned (Value.tuple #[Value.agg #[Value.int IntKind.i64 n139, Value.int IntKind.i64 n140, Value.slice p56 k149 k150], Value.int IntKind.i64 n141])) ∧
              (Keep ([k148, k137, k2, k1]) w112 w113) ∧
              ∀ w114 : World,
              (Locl ([k148, k137, k2, k1]) w113 w114) →
              I5 [Value.int IntKind.i64 n141, Value.pointer (some { block := k148, off := 0 }), Value.int IntKind.i64 n139, Value.int IntKind.i64 n140, Value.slice p56 k149 k150] w114) ∧
            ∀ k151 : Nat,
            (w108.heap.size ≤ k151) →
            ∀ w115 : World,
            (Locl ([k151, k137, k2, k1]) w108 w115) →
            Calls P F.law23_own #[Value.agg #[Value.int IntKind.i64 x3, Value.int IntKind.i64 x4, Value.slice sa2 sl2 sc2]] w115 fun e56 w116 =>
            ∃ n142 : Int,
            ∃ n143 : Int,
            ∃ p57 : Option Addr,
            ∃ k152 : Nat,
            ∃ k153 : Nat,
            (e56 = Ending.returned (Value.agg #[Value.int IntKind.i64 n142, Value.int IntKind.i64 n143, Value.slice p57 k152 k153])) ∧
            (Keep ([k151, k137, k2, k1]) w115 w116) ∧
            Calls P F.blend_Apply #[Value.string { data := #[109, 105, 120] }, Value.slice (some { block := k140, off := 0 }) 1 1, Value.agg #[Value.int IntKind.i64 n132, Value.int IntKind.i64 n133, Value.slice p53 k141 k142], Value.agg #[Value.int IntKind.i64 n142, Value.int IntKind.i64 n143, Value.slice p57 k152 k153]] w116 fun e57 w117 =>
            ∃ n144 : Int,
            ∃ n145 : Int,
            ∃ p58 : Option Addr,
            ∃ k154 : Nat,
            ∃ k155 : Nat,
            ∃ n146 : Int,
            (e57 = Ending.returned (Value.tuple #[Value.agg #[Value.int IntKind.i64 n144, Value.int IntKind.i64 n145, Value.slice p58 k154 k155], Value.int IntKind.i64 n146])) ∧
            (Keep ([k151, k137, k2, k1]) w116 w117) ∧
            ∀ w118 : World,
            (Locl ([k151, k137, k2, k1]) w117 w118) →
            I5 [Value.int IntKind.i64 n146, Value.pointer (some { block := k151, off := 0 }), Value.int IntKind.i64 n144, Value.int IntKind.i64 n145, Value.slice p58 k154 k155] w118) ∧
          ∀ k156 : Nat,
          (w107.heap.size ≤ k156) →
          ∀ w119 : World,
          (Locl ([k156, k137, k2, k1]) w107 w119) →
          Calls P F.law23_own #[Value.agg #[Value.int IntKind.i64 x1, Value.int IntKind.i64 x2, Value.slice sa1 sl1 sc1]] w119 fun e58 w120 =>
          ∃ n147 : Int,
          ∃ n148 : Int,
          ∃ p59 : Option Addr,
          ∃ k157 : Nat,
          ∃ k158 : Nat,
          (e58 = Ending.returned (Value.agg #[Value.int IntKind.i64 n147, Value.int IntKind.i64 n148, Value.slice p59 k157 k158])) ∧
          (Keep ([k156, k137, k2, k1]) w119 w120) ∧
          (Keeps w119 w120) ∧
          Calls P F.law23_own #[Value.agg #[Value.int IntKind.i64 x3, Value.int IntKind.i64 x4, Value.slice sa2 sl2 sc2]] w120 fun e59 w121 =>
          ∃ n149 : Int,
          ∃ n150 : Int,
          ∃ p60 : Option Addr,
          ∃ k159 : Nat,
          ∃ k160 : Nat,
          (e59 = Ending.returned (Value.agg #[Value.int IntKind.i64 n149, Value.int IntKind.i64 n150, Value.slice p60 k159 k160])) ∧
          (Keep ([k156, k137, k2, k1]) w120 w121) ∧
          Calls P F.blend_Apply #[Value.string { data := #[109, 105, 120] }, Value.slice (some { block := k140, off := 0 }) 1 1, Value.agg #[Value.int IntKind.i64 n147, Value.int IntKind.i64 n148, Value.slice p59 k157 k158], Value.agg #[Value.int IntKind.i64 n149, Value.int IntKind.i64 n150, Value.slice p60 k159 k160]] w121 fun e60 w122 =>
          ∃ n151 : Int,
          ∃ n152 : Int,
          ∃ p61 : Option Addr,
          ∃ k161 : Nat,
          ∃ k162 : Nat,
          ∃ n153 : Int,
          (e60 = Ending.returned (Value.tuple #[Value.agg #[Value.int IntKind.i64 n151, Value.int IntKind.i64 n152, Value.slice p61 k161 k162], Value.int IntKind.i64 n153])) ∧
          (Keep ([k156, k137, k2, k1]) w121 w122) ∧
          ∀ w123 : World,
          (Locl ([k156, k137, k2, k1]) w122 w123) →
          I5 [Value.int IntKind.i64 n153, Value.pointer (some { block := k156, off := 0 }), Value.int IntKind.i64 n151, Value.int IntKind.i64 n152, Value.slice p61 k161 k162] w123) ∧
        (Calls P F.law23_own #[Value.agg #[Value.int IntKind.i64 x1, Value.int IntKind.i64 x2, Value.slice sa1 sl1 sc1]] (w106.drew) fun e61 w124 =>
          ∃ n154 : Int,
          ∃ n155 : Int,
          ∃ p62 : Option Addr,
          ∃ k163 : Nat,
          ∃ k164 : Nat,
          (e61 = Ending.returned (Value.agg #[Value.int IntKind.i64 n154, Value.int IntKind.i64 n155, Value.slice p62 k163 k164])) ∧
          (Keep ([k137, k2, k1]) (w106.drew) w124) ∧
          (Keeps (w106.drew) w124) ∧
          (∀ k165 : Nat,
            ∀ w125 : World,
            (New w124 (Obj.cells #[Value.int IntKind.i64 256] 3) k165 w125) →
            (Calls P F.law23_own #[Value.agg #[Value.int IntKind.i64 x3, Value.int IntKind.i64 x4, Value.slice sa2 sl2 sc2]] w125 fun e62 w126 =>
              ∃ n156 : Int,
              ∃ n157 : Int,
              ∃ p63 : Option Addr,
              ∃ k166 : Nat,
              ∃ k167 : Nat,
              (e62 = Ending.returned (Value.agg #[Value.int IntKind.i64 n156, Value.int IntKind.i64 n157, Value.slice p63 k166 k167])) ∧
              (Keep ([k137, k2, k1]) w125 w126) ∧
              (Calls P F.blend_Apply #[Value.string { data := #[109, 105, 120] }, Value.slice (some { block := k165, off := 0 }) 1 1, Value.agg #[Value.int IntKind.i64 n154, Value.int IntKind.i64 n155, Value.slice p62 k163 k164], Value.agg #[Value.int IntKind.i64 n156, Value.int IntKind.i64 n157, Value.slice p63 k166 k167]] w126 fun e63 w127 =>
                ∃ n158 : Int,
                ∃ n159 : Int,
                ∃ p64 : Option Addr,
                ∃ k168 : Nat,
                ∃ k169 : Nat,
                ∃ n160 : Int,
                (e63 = Ending.returned (Value.tuple #[Value.agg #[Value.int IntKind.i64 n158, Value.int IntKind.i64 n159, Value.slice p64 k168 k169], Value.int IntKind.i64 n160])) ∧
                (Keep ([k137, k2, k1]) w126 w127) ∧
                ∀ k170 : Nat,
                (w127.heap.size ≤ k170) →
                ∀ w128 : World,
                (Locl ([k170, k137, k2, k1]) w127 w128) →
                I5 [Value.int IntKind.i64 n160, Value.pointer (some { block := k170, off := 0 }), Value.int IntKind.i64 n158, Value.int IntKind.i64 n159, Value.slice p64 k168 k169] w128) ∧
              ∀ k171 : Nat,
              (w126.heap.size ≤ k171) →
              ∀ w129 : World,
              (Locl ([k171, k137, k2, k1]) w126 w129) →
              Calls P F.blend_Apply #[Value.string { data := #[109, 105, 120] }, Value.slice (some { block := k165, off := 0 }) 1 1, Value.agg #[Value.int IntKind.i64 n154, Value.int IntKind.i64 n155, Value.slice p62 k163 k164], Value.agg #[Value.int IntKind.i64 n156, Value.int IntKind.i64 n157, Value.slice p63 k166 k167]] w129 fun e64 w130 =>
              ∃ n161 : Int,
              ∃ n162 : Int,
              ∃ p65 : Option Addr,
              ∃ k172 : Nat,
              ∃ k173 : Nat,
              ∃ n163 : Int,
              (e64 = Ending.returned (Value.tuple #[Value.agg #[Value.int IntKind.i64 n161, Value.int IntKind.i64 n162, Value.slice p65 k172 k173], Value.int IntKind.i64 n163])) ∧
              (Keep ([k171, k137, k2, k1]) w129 w130) ∧
              ∀ w131 : World,
              (Locl ([k171, k137, k2, k1]) w130 w131) →
              I5 [Value.int IntKind.i64 n163, Value.pointer (some { block := k171, off := 0 }), Value.int IntKind.i64 n161, Value.int IntKind.i64 n162, Value.slice p65 k172 k173] w131) ∧
            ∀ k174 : Nat,
            (w125.heap.size ≤ k174) →
            ∀ w132 : World,
            (Locl ([k174, k137, k2, k1]) w125 w132) →
            Calls P F.law23_own #[Value.agg #[Value.int IntKind.i64 x3, Value.int IntKind.i64 x4, Value.slice sa2 sl2 sc2]] w132 fun e65 w133 =>
            ∃ n164 : Int,
            ∃ n165 : Int,
            ∃ p66 : Option Addr,
            ∃ k175 : Nat,
            ∃ k176 : Nat,
            (e65 = Ending.returned (Value.agg #[Value.int IntKind.i64 n164, Value.int IntKind.i64 n165, Value.slice p66 k175 k176])) ∧
            (Keep ([k174, k137, k2, k1]) w132 w133) ∧
            Calls P F.blend_Apply #[Value.string { data := #[109, 105, 120] }, Value.slice (some { block := k165, off := 0 }) 1 1, Value.agg #[Value.int IntKind.i64 n154, Value.int IntKind.i64 n155, Value.slice p62 k163 k164], Value.agg #[Value.int IntKind.i64 n164, Value.int IntKind.i64 n165, Value.slice p66 k175 k176]] w133 fun e66 w134 =>
            ∃ n166 : Int,
            ∃ n167 : Int,
            ∃ p67 : Option Addr,
            ∃ k177 : Nat,
            ∃ k178 : Nat,
            ∃ n168 : Int,
            (e66 = Ending.returned (Value.tuple #[Value.agg #[Value.int IntKind.i64 n166, Value.int IntKind.i64 n167, Value.slice p67 k177 k178], Value.int IntKind.i64 n168])) ∧
            (Keep ([k174, k137, k2, k1]) w133 w134) ∧
            ∀ w135 : World,
            (Locl ([k174, k137, k2, k1]) w134 w135) →
            I5 [Value.int IntKind.i64 n168, Value.pointer (some { block := k174, off := 0 }), Value.int IntKind.i64 n166, Value.int IntKind.i64 n167, Value.slice p67 k177 k178] w135) ∧
          (Calls P F.law23_own #[Value.agg #[Value.int IntKind.i64 x3, Value.int IntKind.i64 x4, Value.slice sa2 sl2 sc2]] w124 fun e67 w136 =>
            ∃ n169 : Int,
            ∃ n170 : Int,
            ∃ p68 : Option Addr,
            ∃ k179 : Nat,
            ∃ k180 : Nat,
            (e67 = Ending.returned (Value.agg #[Value.int IntKind.i64 n169, Value.int IntKind.i64 n170, Value.slice p68 k179 k180])) ∧
            (Keep ([k137, k2, k1]) w124 w136) ∧
            (∀ k181 : Nat,
              ∀ w137 : World,
              (New w136 (Obj.cells #[Value.int IntKind.i64 256] 3) k181 w137) →
              (Calls P F.blend_Apply #[Value.string { data := #[109, 105, 120] }, Value.slice (some { block := k181, off := 0 }) 1 1, Value.agg #[Value.int IntKind.i64 n154, Value.int IntKind.i64 n155, Value.slice p62 k163 k164], Value.agg #[Value.int IntKind.i64 n169, Value.int IntKind.i64 n170, Value.slice p68 k179 k180]] w137 fun e68 w138 =>
                ∃ n171 : Int,
                ∃ n172 : Int,
                ∃ p69 : Option Addr,
                ∃ k182 : Nat,
                ∃ k183 : Nat,
                ∃ n173 : Int,
                (e68 = Ending.returned (Value.tuple #[Value.agg #[Value.int IntKind.i64 n171, Value.int IntKind.i64 n172, Value.slice p69 k182 k183], Value.int IntKind.i64 n173])) ∧
                (Keep ([k137, k2, k1]) w137 w138) ∧
                ∀ k184 : Nat,
                (w138.heap.size ≤ k184) →
                ∀ w139 : World,
                (Locl ([k184, k137, k2, k1]) w138 w139) →
                I5 [Value.int IntKind.i64 n173, Value.pointer (some { block := k184, off := 0 }), Value.int IntKind.i64 n171, Value.int IntKind.i64 n172, Value.slice p69 k182 k183] w139) ∧
              ∀ k185 : Nat,
              (w137.heap.size ≤ k185) →
              ∀ w140 : World,
              (Locl ([k185, k137, k2, k1]) w137 w140) →
              Calls P F.blend_Apply #[Value.string { data := #[109, 105, 120] }, Value.slice (some { block := k181, off := 0 }) 1 1, Value.agg #[Value.int IntKind.i64 n154, Value.int IntKind.i64 n155, Value.slice p62 k163 k164], Value.agg #[Value.int IntKind.i64 n169, Value.int IntKind.i64 n170, Value.slice p68 k179 k180]] w140 fun e69 w141 =>
              ∃ n174 : Int,
              ∃ n175 : Int,
              ∃ p70 : Option Addr,
              ∃ k186 : Nat,
              ∃ k187 : Nat,
              ∃ n176 : Int,
              (e69 = Ending.returned (Value.tuple #[Value.agg #[Value.int IntKind.i64 n174, Value.int IntKind.i64 n175, Value.slice p70 k186 k187], Value.int IntKind.i64 n176])) ∧
              (Keep ([k185, k137, k2, k1]) w140 w141) ∧
              ∀ w142 : World,
              (Locl ([k185, k137, k2, k1]) w141 w142) →
              I5 [Value.int IntKind.i64 n176, Value.pointer (some { block := k185, off := 0 }), Value.int IntKind.i64 n174, Value.int IntKind.i64 n175, Value.slice p70 k186 k187] w142) ∧
            ∀ k188 : Nat,
            (w136.heap.size ≤ k188) →
            ∀ w143 : World,
            (Locl ([k188, k137, k2, k1]) w136 w143) →
            ∀ k189 : Nat,
            ∀ w144 : World,
            (New w143 (Obj.cells #[Value.int IntKind.i64 256] 3) k189 w144) →
            Calls P F.blend_Apply #[Value.string { data := #[109, 105, 120] }, Value.slice (some { block := k189, off := 0 }) 1 1, Value.agg #[Value.int IntKind.i64 n154, Value.int IntKind.i64 n155, Value.slice p62 k163 k164], Value.agg #[Value.int IntKind.i64 n169, Value.int IntKind.i64 n170, Value.slice p68 k179 k180]] w144 fun e70 w145 =>
            ∃ n177 : Int,
            ∃ n178 : Int,
            ∃ p71 : Option Addr,
            ∃ k190 : Nat,
            ∃ k191 : Nat,
            ∃ n179 : Int,
            (e70 = Ending.returned (Value.tuple #[Value.agg #[Value.int IntKind.i64 n177, Value.int IntKind.i64 n178, Value.slice p71 k190 k191], Value.int IntKind.i64 n179])) ∧
            (Keep ([k188, k137, k2, k1]) w144 w145) ∧
            ∀ w146 : World,
            (Locl ([k188, k137, k2, k1]) w145 w146) →
            I5 [Value.int IntKind.i64 n179, Value.pointer (some { block := k188, off := 0 }), Value.int IntKind.i64 n177, Value.int IntKind.i64 n178, Value.slice p71 k190 k191] w146) ∧
          ∀ k192 : Nat,
          (w124.heap.size ≤ k192) →
          (∀ w147 : World,
            (Locl ([k192, k137, k2, k1]) w124 w147) →
            ∀ k193 : Nat,
            ∀ w148 : World,
            (New w147 (Obj.cells #[Value.int IntKind.i64 256] 3) k193 w148) →
            Calls P F.law23_own #[Value.agg #[Value.int IntKind.i64 x3, Value.int IntKind.i64 x4, Value.slice sa2 sl2 sc2]] w148 fun e71 w149 =>
            ∃ n180 : Int,
            ∃ n181 : Int,
            ∃ p72 : Option Addr,
            ∃ k194 : Nat,
            ∃ k195 : Nat,
            (e71 = Ending.returned (Value.agg #[Value.int IntKind.i64 n180, Value.int IntKind.i64 n181, Value.slice p72 k194 k195])) ∧
            (Keep ([k192, k137, k2, k1]) w148 w149) ∧
            Calls P F.blend_Apply #[Value.string { data := #[109, 105, 120] }, Value.slice (some { block := k193, off := 0 }) 1 1, Value.agg #[Value.int IntKind.i64 n154, Value.int IntKind.i64 n155, Value.slice p62 k163 k164], Value.agg #[Value.int IntKind.i64 n180, Value.int IntKind.i64 n181, Value.slice p72 k194 k195]] w149 fun e72 w150 =>
            ∃ n182 : Int,
            ∃ n183 : Int,
            ∃ p73 : Option Addr,
            ∃ k196 : Nat,
            ∃ k197 : Nat,
            ∃ n184 : Int,
            (e72 = Ending.returned (Value.tuple #[Value.agg #[Value.int IntKind.i64 n182, Value.int IntKind.i64 n183, Value.slice p73 k196 k197], Value.int IntKind.i64 n184])) ∧
            (Keep ([k192, k137, k2, k1]) w149 w150) ∧
            ∀ w151 : World,
            (Locl ([k192, k137, k2, k1]) w150 w151) →
            I5 [Value.int IntKind.i64 n184, Value.pointer (some { block := k192, off := 0 }), Value.int IntKind.i64 n182, Value.int IntKind.i64 n183, Value.slice p73 k196 k197] w151) ∧
          ∀ w152 : World,
          (Locl ([k192, k137, k2, k1]) w124 w152) →
          Calls P F.law23_own #[Value.agg #[Value.int IntKind.i64 x3, Value.int IntKind.i64 x4, Value.slice sa2 sl2 sc2]] w152 fun e73 w153 =>
          ∃ n185 : Int,
          ∃ n186 : Int,
          ∃ p74 : Option Addr,
          ∃ k198 : Nat,
          ∃ k199 : Nat,
          (e73 = Ending.returned (Value.agg #[Value.int IntKind.i64 n185, Value.int IntKind.i64 n186, Value.slice p74 k198 k199])) ∧
          (Keep ([k192, k137, k2, k1]) w152 w153) ∧
          ∀ k200 : Nat,
          ∀ w154 : World,
          (New w153 (Obj.cells #[Value.int IntKind.i64 256] 3) k200 w154) →
          Calls P F.blend_Apply #[Value.string { data := #[109, 105, 120] }, Value.slice (some { block := k200, off := 0 }) 1 1, Value.agg #[Value.int IntKind.i64 n154, Value.int IntKind.i64 n155, Value.slice p62 k163 k164], Value.agg #[Value.int IntKind.i64 n185, Value.int IntKind.i64 n186, Value.slice p74 k198 k199]] w154 fun e74 w155 =>
          ∃ n187 : Int,
          ∃ n188 : Int,
          ∃ p75 : Option Addr,
          ∃ k201 : Nat,
          ∃ k202 : Nat,
          ∃ n189 : Int,
          (e74 = Ending.returned (Value.tuple #[Value.agg #[Value.int IntKind.i64 n187, Value.int IntKind.i64 n188, Value.slice p75 k201 k202], Value.int IntKind.i64 n189])) ∧
          (Keep ([k192, k137, k2, k1]) w154 w155) ∧
          ∀ w156 : World,
          (Locl ([k192, k137, k2, k1]) w155 w156) →
          I5 [Value.int IntKind.i64 n189, Value.pointer (some { block := k192, off := 0 }), Value.int IntKind.i64 n187, Value.int IntKind.i64 n188, Value.slice p75 k201 k202] w156) ∧
        ∀ k203 : Nat,
        (w106.drew.heap.size ≤ k203) →
        (∀ w157 : World,
          (Locl ([k203, k137, k2, k1]) (w106.drew) w157) →
          ∀ k204 : Nat,
          ∀ w158 : World,
          (New w157 (Obj.cells #[Value.int IntKind.i64 256] 3) k204 w158) →
          Calls P F.law23_own #[Value.agg #[Value.int IntKind.i64 x1, Value.int IntKind.i64 x2, Value.slice sa1 sl1 sc1]] w158 fun e75 w159 =>
          ∃ n190 : Int,
          ∃ n191 : Int,
          ∃ p76 : Option Addr,
          ∃ k205 : Nat,
          ∃ k206 : Nat,
          (e75 = Ending.returned (Value.agg #[Value.int IntKind.i64 n190, Value.int IntKind.i64 n191, Value.slice p76 k205 k206])) ∧
          (Keep ([k203, k137, k2, k1]) w158 w159) ∧
          (Keeps w158 w159) ∧
          Calls P F.law23_own #[Value.agg #[Value.int IntKind.i64 x3, Value.int IntKind.i64 x4, Value.slice sa2 sl2 sc2]] w159 fun e76 w160 =>
          ∃ n192 : Int,
          ∃ n193 : Int,
          ∃ p77 : Option Addr,
          ∃ k207 : Nat,
          ∃ k208 : Nat,
          (e76 = Ending.returned (Value.agg #[Value.int IntKind.i64 n192, Value.int IntKind.i64 n193, Value.slice p77 k207 k208])) ∧
          (Keep ([k203, k137, k2, k1]) w159 w160) ∧
          Calls P F.blend_Apply #[Value.string { data := #[109, 105, 120] }, Value.slice (some { block := k204, off := 0 }) 1 1, Value.agg #[Value.int IntKind.i64 n190, Value.int IntKind.i64 n191, Value.slice p76 k205 k206], Value.agg #[Value.int IntKind.i64 n192, Value.int IntKind.i64 n193, Value.slice p77 k207 k208]] w160 fun e77 w161 =>
          ∃ n194 : Int,
          ∃ n195 : Int,
          ∃ p78 : Option Addr,
          ∃ k209 : Nat,
          ∃ k210 : Nat,
          ∃ n196 : Int,
          (e77 = Ending.returned (Value.tuple #[Value.agg #[Value.int IntKind.i64 n194, Value.int IntKind.i64 n195, Value.slice p78 k209 k210], Value.int IntKind.i64 n196])) ∧
          (Keep ([k203, k137, k2, k1]) w160 w161) ∧
          ∀ w162 : World,
          (Locl ([k203, k137, k2, k1]) w161 w162) →
          I5 [Value.int IntKind.i64 n196, Value.pointer (some { block := k203, off := 0 }), Value.int IntKind.i64 n194, Value.int IntKind.i64 n195, Value.slice p78 k209 k210] w162) ∧
        ∀ w163 : World,
        (Locl ([k203, k137, k2, k1]) (w106.drew) w163) →
        Calls P F.law23_own #[Value.agg #[Value.int IntKind.i64 x1, Value.int IntKind.i64 x2, Value.slice sa1 sl1 sc1]] w163 fun e78 w164 =>
        ∃ n197 : Int,
        ∃ n198 : Int,
        ∃ p79 : Option Addr,
        ∃ k211 : Nat,
        ∃ k212 : Nat,
        (e78 = Ending.returned (Value.agg #[Value.int IntKind.i64 n197, Value.int IntKind.i64 n198, Value.slice p79 k211 k212])) ∧
        (Keep ([k203, k137, k2, k1]) w163 w164) ∧
        (Keeps w163 w164) ∧
        (∀ k213 : Nat,
          ∀ w165 : World,
          (New w164 (Obj.cells #[Value.int IntKind.i64 256] 3) k213 w165) →
          Calls P F.law23_own #[Value.agg #[Value.int IntKind.i64 x3, Value.int IntKind.i64 x4, Value.slice sa2 sl2 sc2]] w165 fun e79 w166 =>
          ∃ n199 : Int,
          ∃ n200 : Int,
          ∃ p80 : Option Addr,
          ∃ k214 : Nat,
          ∃ k215 : Nat,
          (e79 = Ending.returned (Value.agg #[Value.int IntKind.i64 n199, Value.int IntKind.i64 n200, Value.slice p80 k214 k215])) ∧
          (Keep ([k203, k137, k2, k1]) w165 w166) ∧
          Calls P F.blend_Apply #[Value.string { data := #[109, 105, 120] }, Value.slice (some { block := k213, off := 0 }) 1 1, Value.agg #[Value.int IntKind.i64 n197, Value.int IntKind.i64 n198, Value.slice p79 k211 k212], Value.agg #[Value.int IntKind.i64 n199, Value.int IntKind.i64 n200, Value.slice p80 k214 k215]] w166 fun e80 w167 =>
          ∃ n201 : Int,
          ∃ n202 : Int,
          ∃ p81 : Option Addr,
          ∃ k216 : Nat,
          ∃ k217 : Nat,
          ∃ n203 : Int,
          (e80 = Ending.returned (Value.tuple #[Value.agg #[Value.int IntKind.i64 n201, Value.int IntKind.i64 n202, Value.slice p81 k216 k217], Value.int IntKind.i64 n203])) ∧
          (Keep ([k203, k137, k2, k1]) w166 w167) ∧
          ∀ w168 : World,
          (Locl ([k203, k137, k2, k1]) w167 w168) →
          I5 [Value.int IntKind.i64 n203, Value.pointer (some { block := k203, off := 0 }), Value.int IntKind.i64 n201, Value.int IntKind.i64 n202, Value.slice p81 k216 k217] w168) ∧
        Calls P F.law23_own #[Value.agg #[Value.int IntKind.i64 x3, Value.int IntKind.i64 x4, Value.slice sa2 sl2 sc2]] w164 fun e81 w169 =>
        ∃ n204 : Int,
        ∃ n205 : Int,
        ∃ p82 : Option Addr,
        ∃ k218 : Nat,
        ∃ k219 : Nat,
        (e81 = Ending.returned (Value.agg #[Value.int IntKind.i64 n204, Value.int IntKind.i64 n205, Value.slice p82 k218 k219])) ∧
        (Keep ([k203, k137, k2, k1]) w164 w169) ∧
        ∀ k220 : Nat,
        ∀ w170 : World,
        (New w169 (Obj.cells #[Value.int IntKind.i64 256] 3) k220 w170) →
        Calls P F.blend_Apply #[Value.string { data := #[109, 105, 120] }, Value.slice (some { block := k220, off := 0 }) 1 1, Value.agg #[Value.int IntKind.i64 n197, Value.int IntKind.i64 n198, Value.slice p79 k211 k212], Value.agg #[Value.int IntKind.i64 n204, Value.int IntKind.i64 n205, Value.slice p82 k218 k219]] w170 fun e82 w171 =>
        ∃ n206 : Int,
        ∃ n207 : Int,
        ∃ p83 : Option Addr,
        ∃ k221 : Nat,
        ∃ k222 : Nat,
        ∃ n208 : Int,
        (e82 = Ending.returned (Value.tuple #[Value.agg #[Value.int IntKind.i64 n206, Value.int IntKind.i64 n207, Value.slice p83 k221 k222], Value.int IntKind.i64 n208])) ∧
        (Keep ([k203, k137, k2, k1]) w170 w171) ∧
        ∀ w172 : World,
        (Locl ([k203, k137, k2, k1]) w171 w172) →
        I5 [Value.int IntKind.i64 n208, Value.pointer (some { block := k203, off := 0 }), Value.int IntKind.i64 n206, Value.int IntKind.i64 n207, Value.slice p83 k221 k222] w172) ∧
      ∀ n209 : Int,
      ∀ k223 : Nat,
      ∀ n210 : Int,
      ∀ n211 : Int,
      ∀ p84 : Option Addr,
      ∀ k224 : Nat,
      ∀ k225 : Nat,
      ∀ w173 : World,
      (I5 [Value.int IntKind.i64 n209, Value.pointer (some { block := k223, off := 0 }), Value.int IntKind.i64 n210, Value.int IntKind.i64 n211, Value.slice p84 k224 k225] w173) →
      brB (n129 != 0)
        (R (Ending.returned (Value.bool (n209 == n129))) w173)
        (brB (n209 == 0)
          (Calls P F.ref09_Same #[Value.agg #[Value.int IntKind.i64 n130, Value.int IntKind.i64 n131, Value.slice p52 k138 k139], Value.agg #[Value.int IntKind.i64 x1, Value.int IntKind.i64 x2, Value.slice sa1 sl1 sc1]] w173 fun e83 w174 =>
          ∃ c3 : Bool,
          (e83 = Ending.returned (Value.bool c3)) ∧
          (Keep ([k223, k137, k2, k1]) w173 w174) ∧
          brB (c3)
            (Calls P F.ref09_Same #[Value.agg #[Value.int IntKind.i64 n210, Value.int IntKind.i64 n211, Value.slice p84 k224 k225], Value.agg #[Value.int IntKind.i64 x3, Value.int IntKind.i64 x4, Value.slice sa2 sl2 sc2]] w174 fun e84 w175 =>
            ∃ c4 : Bool,
            (e84 = Ending.returned (Value.bool c4)) ∧
            (Keep ([k223, k137, k2, k1]) w174 w175) ∧
            R (Ending.returned (Value.bool c4)) w175)
            (R (Ending.returned (Value.bool false)) w174))
          (R (Ending.returned (Value.bool false)) w173))))
theorem calls_law23_BlendTurns (x1 : Int) (x2 : Int) (sa1 : Option Addr) (sl1 sc1 : Nat) (x3 : Int) (x4 : Int) (sa2 : Option Addr) (sl2 sc2 : Nat) (w : World) (R : Ending → World → Prop) (h : vc_law23_BlendTurns x1 x2 sa1 sl1 sc1 x3 x4 sa2 sl2 sc2 w R) : Calls P F.law23_BlendTurns #[.agg #[.int .i64 x1, .int .i64 x2, .slice sa1 sl1 sc1], .agg #[.int .i64 x3, .int .i64 x4, .slice sa2 sl2 sc2]] w R :=
  calls_of_vc (fn := Try.f5) (ac := ac_law23_BlendTurns) (args := [.agg #[.int .i64 x1, .int .i64 x2, .slice sa1 sl1 sc1], .agg #[.int .i64 x3, .int .i64 x4, .slice sa2 sl2 sc2]]) mixed Try.func5 (by kernel_rfl) (cast (by unfold vc_law23_BlendTurns FnVc; kernel_rfl) h)
end Go.Proofs.Ytombfebgojeliaa
