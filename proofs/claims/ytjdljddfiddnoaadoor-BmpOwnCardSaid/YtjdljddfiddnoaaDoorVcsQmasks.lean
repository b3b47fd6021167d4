/- The condition of a great law, written out (by a program of ours), and the theorem that it suffices. -/
import Derived.Test.YtjdljddfiddnoaaDoorVcs
namespace Go.Proofs.YtjdljddfiddnoaaDoor
open Go Go.Vc
set_option maxRecDepth 100000
set_option linter.unusedVariables false
/-- darkroom/darkroomref11.masks -/
def vc_ref11_masks (sa1 : Option Addr) (sl1 sc1 : Nat) (x1 : Int) (x2 : Int) (b1 : Bool) (x3 : Int) (x4 : Int) (x5 : Int) (x6 : Int) (x7 : Int) (x8 : Int) (x9 : Int) (sa2 : Option Addr) (sl2 sc2 : Nat) (x10 : Int) (w : World) (R : Ending → World → Prop) : Prop :=
  ∀ k1 : Nat,
  ∀ w1 : World,
  (New w (Obj.cells #[Value.int IntKind.i64 x1, Value.int IntKind.i64 x2, Value.bool b1, Value.int IntKind.i64 x3, Value.int IntKind.i64 x4, Value.int IntKind.i64 x5, Value.int IntKind.u32 x6, Value.int IntKind.u32 x7, Value.int IntKind.u32 x8, Value.int IntKind.u32 x9, Value.slice sa2 sl2 sc2] 60) k1 w1) →
  ∀ k2 : Nat,
  (w1.heap.size ≤ k2) →
  ∀ w2 : World,
  (Locl ([k2]) w1 w2) →
  ∃ n1 : Int,
  (w2.cell? { block := k1, off := 4 } = some (Value.int IntKind.i64 n1)) ∧
  brB (decide (n1 < 3))
    (∃ n2 : Int,
    (w2.cell? { block := k1, off := 3 } = some (Value.int IntKind.i64 n2)) ∧
    ∃ I1 : List Value → World → Prop,
    (brB (n2 == 16)
        ((∃ v1 : Value,
          w2.cell? { block := k1, off := 6 } = some v1) ∧
        (w2.frozen? { block := k1, off := 6 } = false) ∧
        (∃ v2 : Value,
          w2.cell? { block := k1, off := 7 } = some v2) ∧
        (w2.frozen? { block := k1, off := 7 } = false) ∧
        (∃ v3 : Value,
          w2.cell? { block := k1, off := 8 } = some v3) ∧
        (w2.frozen? { block := k1, off := 8 } = false) ∧
        (∃ v4 : Value,
          w2.cell? { block := k1, off := 9 } = some v4) ∧
        (w2.frozen? { block := k1, off := 9 } = false) ∧
        (¬k1 ∈ [k2]) ∧
        I1 [] (setCells w2 { block := k1, off := 6 } [Value.int IntKind.u32 31744, Value.int IntKind.u32 992, Value.int IntKind.u32 31, Value.int IntKind.u32 0] 0))
        (brB (n2 == 24)
          (brB (n2 == 24)
            ((∃ v5 : Value,
              w2.cell? { block := k1, off := 6 } = some v5) ∧
            (w2.frozen? { block := k1, off := 6 } = false) ∧
            (∃ v6 : Value,
              w2.cell? { block := k1, off := 7 } = some v6) ∧
            (w2.frozen? { block := k1, off := 7 } = false) ∧
            (∃ v7 : Value,
              w2.cell? { block := k1, off := 8 } = some v7) ∧
            (w2.frozen? { block := k1, off := 8 } = false) ∧
            (∃ v8 : Value,
              w2.cell? { block := k1, off := 9 } = some v8) ∧
            (w2.frozen? { block := k1, off := 9 } = false) ∧
            (¬k1 ∈ [k2]) ∧
            I1 [] (setCells w2 { block := k1, off := 6 } [Value.int IntKind.u32 16711680, Value.int IntKind.u32 65280, Value.int IntKind.u32 255, Value.int IntKind.u32 0] 0))
            (I1 [] w2))
          (brB (n2 == 32)
            ((∃ v9 : Value,
              w2.cell? { block := k1, off := 6 } = some v9) ∧
            (w2.frozen? { block := k1, off := 6 } = false) ∧
            (∃ v10 : Value,
              w2.cell? { block := k1, off := 7 } = some v10) ∧
            (w2.frozen? { block := k1, off := 7 } = false) ∧
            (∃ v11 : Value,
              w2.cell? { block := k1, off := 8 } = some v11) ∧
            (w2.frozen? { block := k1, off := 8 } = false) ∧
            (∃ v12 : Value,
              w2.cell? { block := k1, off := 9 } = some v12) ∧
            (w2.frozen? { block := k1, off := 9 } = false) ∧
            (¬k1 ∈ [k2]) ∧
            I1 [] (setCells w2 { block := k1, off := 6 } [Value.int IntKind.u32 16711680, Value.int IntKind.u32 65280, Value.int IntKind.u32 255, Value.int IntKind.u32 0] 0))
            (I1 [] w2)))) ∧
    ∀ w3 : World,
    (I1 [] w3) →
    ∃ n3 : Int,
    ∃ n4 : Int,
    ∃ c1 : Bool,
    ∃ n5 : Int,
    ∃ n6 : Int,
    ∃ n7 : Int,
    ∃ n8 : Int,
    ∃ n9 : Int,
    ∃ n10 : Int,
    ∃ n11 : Int,
    ∃ p1 : Option Addr,
    ∃ k3 : Nat,
    ∃ k4 : Nat,
    (w3.cell? { block := k1, off := 0 } = some (Value.int IntKind.i64 n3)) ∧
    (w3.cell? { block := k1, off := 1 } = some (Value.int IntKind.i64 n4)) ∧
    (w3.cell? { block := k1, off := 2 } = some (Value.bool c1)) ∧
    (w3.cell? { block := k1, off := 3 } = some (Value.int IntKind.i64 n5)) ∧
    (w3.cell? { block := k1, off := 4 } = some (Value.int IntKind.i64 n6)) ∧
    (w3.cell? { block := k1, off := 5 } = some (Value.int IntKind.i64 n7)) ∧
    (w3.cell? { block := k1, off := 6 } = some (Value.int IntKind.u32 n8)) ∧
    (w3.cell? { block := k1, off := 7 } = some (Value.int IntKind.u32 n9)) ∧
    (w3.cell? { block := k1, off := 8 } = some (Value.int IntKind.u32 n10)) ∧
    (w3.cell? { block := k1, off := 9 } = some (Value.int IntKind.u32 n11)) ∧
    (w3.cell? { block := k1, off := 10 } = some (Value.slice p1 k3 k4)) ∧
    ∀ w4 : World,
    (Locl ([k2]) w3 w4) →
    R (Ending.returned (Value.tuple #[Value.agg #[Value.int IntKind.i64 n3, Value.int IntKind.i64 n4, Value.bool c1, Value.int IntKind.i64 n5, Value.int IntKind.i64 n6, Value.int IntKind.i64 n7, Value.int IntKind.u32 n8, Value.int IntKind.u32 n9, Value.int IntKind.u32 n10, Value.int IntKind.u32 n11, Value.slice p1 k3 k4], Value.bool true])) w4)
    (∃ I2 : List Value → World → Prop,
    (∃ n12 : Int,
      (w2.cell? { block := k1, off := 4 } = some (Value.int IntKind.i64 n12)) ∧
      brB (n12 == 6 || decide (x10 ≥ 56))
        (I2 [Value.int IntKind.i64 4] w2)
        (I2 [Value.int IntKind.i64 3] w2)) ∧
    ∀ n13 : Int,
    ∀ w5 : World,
    (I2 [Value.int IntKind.i64 n13] w5) →
    ∃ n14 : Int,
    (w5.cell? { block := k1, off := 4 } = some (Value.int IntKind.i64 n14)) ∧
    brB (n14 == 6 && x10 == 52)
      (∃ n15 : Int,
      ∃ n16 : Int,
      ∃ c2 : Bool,
      ∃ n17 : Int,
      ∃ n18 : Int,
      ∃ n19 : Int,
      ∃ n20 : Int,
      ∃ n21 : Int,
      ∃ n22 : Int,
      ∃ n23 : Int,
      ∃ p2 : Option Addr,
      ∃ k5 : Nat,
      ∃ k6 : Nat,
      (w5.cell? { block := k1, off := 0 } = some (Value.int IntKind.i64 n15)) ∧
      (w5.cell? { block := k1, off := 1 } = some (Value.int IntKind.i64 n16)) ∧
      (w5.cell? { block := k1, off := 2 } = some (Value.bool c2)) ∧
      (w5.cell? { block := k1, off := 3 } = some (Value.int IntKind.i64 n17)) ∧
      (w5.cell? { block := k1, off := 4 } = some (Value.int IntKind.i64 n18)) ∧
      (w5.cell? { block := k1, off := 5 } = some (Value.int IntKind.i64 n19)) ∧
      (w5.cell? { block := k1, off := 6 } = some (Value.int IntKind.u32 n20)) ∧
      (w5.cell? { block := k1, off := 7 } = some (Value.int IntKind.u32 n21)) ∧
      (w5.cell? { block := k1, off := 8 } = some (Value.int IntKind.u32 n22)) ∧
      (w5.cell? { block := k1, off := 9 } = some (Value.int IntKind.u32 n23)) ∧
      (w5.cell? { block := k1, off := 10 } = some (Value.slice p2 k5 k6)) ∧
      ∀ w6 : World,
      (Locl ([k2]) w5 w6) →
      R (Ending.returned (Value.tuple #[Value.agg #[Value.int IntKind.i64 n15, Value.int IntKind.i64 n16, Value.bool c2, Value.int IntKind.i64 n17, Value.int IntKind.i64 n18, Value.int IntKind.i64 n19, Value.int IntKind.u32 n20, Value.int IntKind.u32 n21, Value.int IntKind.u32 n22, Value.int IntKind.u32 n23, Value.slice p2 k5 k6], Value.bool false])) w6)
      (∃ I3 : List Value → World → Prop,
      ∃ m1 : List Value → World → Nat,
      (I3 [Value.int IntKind.i64 0, Value.int IntKind.i64 0, Value.int IntKind.i64 0, Value.bool false, Value.int IntKind.i64 0, Value.int IntKind.i64 0, Value.int IntKind.i64 0, Value.int IntKind.u32 0, Value.int IntKind.u32 0, Value.int IntKind.u32 0, Value.int IntKind.u32 0, Value.slice none 0 0] w5) ∧
      ∀ n24 : Int,
      ∀ n25 : Int,
      ∀ n26 : Int,
      ∀ c3 : Bool,
      ∀ n27 : Int,
      ∀ n28 : Int,
      ∀ n29 : Int,
      ∀ n30 : Int,
      ∀ n31 : Int,
      ∀ n32 : Int,
      ∀ n33 : Int,
      ∀ p3 : Option Addr,
      ∀ k7 : Nat,
      ∀ k8 : Nat,
      ∀ w7 : World,
      (I3 [Value.int IntKind.i64 n24, Value.int IntKind.i64 n25, Value.int IntKind.i64 n26, Value.bool c3, Value.int IntKind.i64 n27, Value.int IntKind.i64 n28, Value.int IntKind.i64 n29, Value.int IntKind.u32 n30, Value.int IntKind.u32 n31, Value.int IntKind.u32 n32, Value.int IntKind.u32 n33, Value.slice p3 k7 k8] w7) →
      brB (decide (n24 < n13))
        (Calls P F.ref01_Get #[Value.slice sa1 sl1 sc1, Value.int IntKind.i64 (IntKind.i64.wrap (54 + IntKind.i64.wrap (4 * n24))), Value.int IntKind.i64 4, Value.bool false] w7 fun e1 w8 =>
        ∃ n34 : Int,
        ∃ n35 : Int,
        (e1 = Ending.returned (Value.tuple #[Value.int IntKind.u32 n34, Value.int IntKind.i64 n35])) ∧
        (Keep ([k2]) w7 w8) ∧
        brB (n35 != 0)
          (∃ n36 : Int,
          ∃ n37 : Int,
          ∃ c4 : Bool,
          ∃ n38 : Int,
          ∃ n39 : Int,
          ∃ n40 : Int,
          ∃ n41 : Int,
          ∃ n42 : Int,
          ∃ n43 : Int,
          ∃ n44 : Int,
          ∃ p4 : Option Addr,
          ∃ k9 : Nat,
          ∃ k10 : Nat,
          (w8.cell? { block := k1, off := 0 } = some (Value.int IntKind.i64 n36)) ∧
          (w8.cell? { block := k1, off := 1 } = some (Value.int IntKind.i64 n37)) ∧
          (w8.cell? { block := k1, off := 2 } = some (Value.bool c4)) ∧
          (w8.cell? { block := k1, off := 3 } = some (Value.int IntKind.i64 n38)) ∧
          (w8.cell? { block := k1, off := 4 } = some (Value.int IntKind.i64 n39)) ∧
          (w8.cell? { block := k1, off := 5 } = some (Value.int IntKind.i64 n40)) ∧
          (w8.cell? { block := k1, off := 6 } = some (Value.int IntKind.u32 n41)) ∧
          (w8.cell? { block := k1, off := 7 } = some (Value.int IntKind.u32 n42)) ∧
          (w8.cell? { block := k1, off := 8 } = some (Value.int IntKind.u32 n43)) ∧
          (w8.cell? { block := k1, off := 9 } = some (Value.int IntKind.u32 n44)) ∧
          (w8.cell? { block := k1, off := 10 } = some (Value.slice p4 k9 k10)) ∧
          ∀ w9 : World,
          (Locl ([k2]) w8 w9) →
          R (Ending.returned (Value.tuple #[Value.agg #[Value.int IntKind.i64 n36, Value.int IntKind.i64 n37, Value.bool c4, Value.int IntKind.i64 n38, Value.int IntKind.i64 n39, Value.int IntKind.i64 n40, Value.int IntKind.u32 n41, Value.int IntKind.u32 n42, Value.int IntKind.u32 n43, Value.int IntKind.u32 n44, Value.slice p4 k9 k10], Value.bool false])) w9)
          ((0 ≤ n24) ∧
          (n24 < 4) ∧
          (∃ v13 : Value,
            w8.cell? ({ block := k1, off := 6 : Addr }.add (n24.toNat * 1)) = some v13) ∧
          (w8.frozen? ({ block := k1, off := 6 : Addr }.add (n24.toNat * 1)) = false) ∧
          (¬({ block := k1, off := 6 : Addr }.add (n24.toNat * 1)).block ∈ [k2]) ∧
          (I3 [Value.int IntKind.i64 (IntKind.i64.wrap (n24 + 1)), Value.int IntKind.i64 n25, Value.int IntKind.i64 n26, Value.bool c3, Value.int IntKind.i64 n27, Value.int IntKind.i64 n28, Value.int IntKind.i64 n29, Value.int IntKind.u32 n30, Value.int IntKind.u32 n31, Value.int IntKind.u32 n32, Value.int IntKind.u32 n33, Value.slice p3 k7 k8] (setCells w8 ({ block := k1, off := 6 : Addr }.add (n24.toNat * 1)) [Value.int IntKind.u32 n34] 0)) ∧
          m1 [Value.int IntKind.i64 (IntKind.i64.wrap (n24 + 1)), Value.int IntKind.i64 n25, Value.int IntKind.i64 n26, Value.bool c3, Value.int IntKind.i64 n27, Value.int IntKind.i64 n28, Value.int IntKind.i64 n29, Value.int IntKind.u32 n30, Value.int IntKind.u32 n31, Value.int IntKind.u32 n32, Value.int IntKind.u32 n33, Value.slice p3 k7 k8] (setCells w8 ({ block := k1, off := 6 : Addr }.add (n24.toNat * 1)) [Value.int IntKind.u32 n34] 0) < m1 [Value.int IntKind.i64 n24, Value.int IntKind.i64 n25, Value.int IntKind.i64 n26, Value.bool c3, Value.int IntKind.i64 n27, Value.int IntKind.i64 n28, Value.int IntKind.i64 n29, Value.int IntKind.u32 n30, Value.int IntKind.u32 n31, Value.int IntKind.u32 n32, Value.int IntKind.u32 n33, Value.slice p3 k7 k8] w7))
        (∃ I4 : List Value → World → Prop,
        ∃ m2 : List Value → World → Nat,
        (I4 [Value.int IntKind.u32 0, Value.int IntKind.i64 0, Value.int IntKind.i64 n25, Value.int IntKind.i64 n26, Value.bool c3, Value.int IntKind.i64 n27, Value.int IntKind.i64 n28, Value.int IntKind.i64 n29, Value.int IntKind.u32 n30, Value.int IntKind.u32 n31, Value.int IntKind.u32 n32, Value.int IntKind.u32 n33, Value.slice p3 k7 k8] w7) ∧
        ∀ n45 : Int,
        ∀ n46 : Int,
        ∀ n47 : Int,
        ∀ n48 : Int,
        ∀ c5 : Bool,
        ∀ n49 : Int,
        ∀ n50 : Int,
        ∀ n51 : Int,
        ∀ n52 : Int,
        ∀ n53 : Int,
        ∀ n54 : Int,
        ∀ n55 : Int,
        ∀ p5 : Option Addr,
        ∀ k11 : Nat,
        ∀ k12 : Nat,
        ∀ w10 : World,
        (I4 [Value.int IntKind.u32 n45, Value.int IntKind.i64 n46, Value.int IntKind.i64 n47, Value.int IntKind.i64 n48, Value.bool c5, Value.int IntKind.i64 n49, Value.int IntKind.i64 n50, Value.int IntKind.i64 n51, Value.int IntKind.u32 n52, Value.int IntKind.u32 n53, Value.int IntKind.u32 n54, Value.int IntKind.u32 n55, Value.slice p5 k11 k12] w10) →
        brB (decide (n46 < 4))
          (∃ I5 : List Value → World → Prop,
          ((0 ≤ n46) ∧
            (n46 < 4) ∧
            ∃ n56 : Int,
            (w10.cell? ({ block := k1, off := 6 : Addr }.add (n46.toNat * 1)) = some (Value.int IntKind.u32 n56)) ∧
            Calls P F.ref11_Span #[Value.int IntKind.u32 n56] w10 fun e2 w11 =>
            ∃ n57 : Int,
            ∃ n58 : Int,
            ∃ c6 : Bool,
            (e2 = Ending.returned (Value.tuple #[Value.int IntKind.i64 n57, Value.int IntKind.i64 n58, Value.bool c6])) ∧
            (Keep ([k2]) w10 w11) ∧
            brB (!c6 || decide (n58 > 16))
              (∃ n59 : Int,
              ∃ n60 : Int,
              ∃ c7 : Bool,
              ∃ n61 : Int,
              ∃ n62 : Int,
              ∃ n63 : Int,
              ∃ n64 : Int,
              ∃ n65 : Int,
              ∃ n66 : Int,
              ∃ n67 : Int,
              ∃ p6 : Option Addr,
              ∃ k13 : Nat,
              ∃ k14 : Nat,
              (w11.cell? { block := k1, off := 0 } = some (Value.int IntKind.i64 n59)) ∧
              (w11.cell? { block := k1, off := 1 } = some (Value.int IntKind.i64 n60)) ∧
              (w11.cell? { block := k1, off := 2 } = some (Value.bool c7)) ∧
              (w11.cell? { block := k1, off := 3 } = some (Value.int IntKind.i64 n61)) ∧
              (w11.cell? { block := k1, off := 4 } = some (Value.int IntKind.i64 n62)) ∧
              (w11.cell? { block := k1, off := 5 } = some (Value.int IntKind.i64 n63)) ∧
              (w11.cell? { block := k1, off := 6 } = some (Value.int IntKind.u32 n64)) ∧
              (w11.cell? { block := k1, off := 7 } = some (Value.int IntKind.u32 n65)) ∧
              (w11.cell? { block := k1, off := 8 } = some (Value.int IntKind.u32 n66)) ∧
              (w11.cell? { block := k1, off := 9 } = some (Value.int IntKind.u32 n67)) ∧
              (w11.cell? { block := k1, off := 10 } = some (Value.slice p6 k13 k14)) ∧
              ∀ w12 : World,
              (Locl ([k2]) w11 w12) →
              R (Ending.returned (Value.tuple #[Value.agg #[Value.int IntKind.i64 n59, Value.int IntKind.i64 n60, Value.bool c7, Value.int IntKind.i64 n61, Value.int IntKind.i64 n62, Value.int IntKind.i64 n63, Value.int IntKind.u32 n64, Value.int IntKind.u32 n65, Value.int IntKind.u32 n66, Value.int IntKind.u32 n67, Value.slice p6 k13 k14], Value.bool false])) w12)
              (brB (n58 == 0)
                (brB (decide (n46 < 3))
                  (∃ n68 : Int,
                  ∃ n69 : Int,
                  ∃ c8 : Bool,
                  ∃ n70 : Int,
                  ∃ n71 : Int,
                  ∃ n72 : Int,
                  ∃ n73 : Int,
                  ∃ n74 : Int,
                  ∃ n75 : Int,
                  ∃ n76 : Int,
                  ∃ p7 : Option Addr,
                  ∃ k15 : Nat,
                  ∃ k16 : Nat,
                  (w11.cell? { block := k1, off := 0 } = some (Value.int IntKind.i64 n68)) ∧
                  (w11.cell? { block := k1, off := 1 } = some (Value.int IntKind.i64 n69)) ∧
                  (w11.cell? { block := k1, off := 2 } = some (Value.bool c8)) ∧
                  (w11.cell? { block := k1, off := 3 } = some (Value.int IntKind.i64 n70)) ∧
                  (w11.cell? { block := k1, off := 4 } = some (Value.int IntKind.i64 n71)) ∧
                  (w11.cell? { block := k1, off := 5 } = some (Value.int IntKind.i64 n72)) ∧
                  (w11.cell? { block := k1, off := 6 } = some (Value.int IntKind.u32 n73)) ∧
                  (w11.cell? { block := k1, off := 7 } = some (Value.int IntKind.u32 n74)) ∧
                  (w11.cell? { block := k1, off := 8 } = some (Value.int IntKind.u32 n75)) ∧
                  (w11.cell? { block := k1, off := 9 } = some (Value.int IntKind.u32 n76)) ∧
                  (w11.cell? { block := k1, off := 10 } = some (Value.slice p7 k15 k16)) ∧
                  ∀ w13 : World,
                  (Locl ([k2]) w11 w13) →
                  R (Ending.returned (Value.tuple #[Value.agg #[Value.int IntKind.i64 n68, Value.int IntKind.i64 n69, Value.bool c8, Value.int IntKind.i64 n70, Value.int IntKind.i64 n71, Value.int IntKind.i64 n72, Value.int IntKind.u32 n73, Value.int IntKind.u32 n74, Value.int IntKind.u32 n75, Value.int IntKind.u32 n76, Value.slice p7 k15 k16], Value.bool false])) w13)
                  ((0 ≤ n46) ∧
                  (n46 < 4) ∧
                  ∃ n77 : Int,
                  (w11.cell? ({ block := k1, off := 6 : Addr }.add (n46.toNat * 1)) = some (Value.int IntKind.u32 n77)) ∧
                  brB (IntKind.u32.wrap (bitsZ BinOp.and IntKind.u32 n45 n77) != 0)
                    (∃ n78 : Int,
                    ∃ n79 : Int,
                    ∃ c9 : Bool,
                    ∃ n80 : Int,
                    ∃ n81 : Int,
                    ∃ n82 : Int,
                    ∃ n83 : Int,
                    ∃ n84 : Int,
                    ∃ n85 : Int,
                    ∃ n86 : Int,
                    ∃ p8 : Option Addr,
                    ∃ k17 : Nat,
                    ∃ k18 : Nat,
                    (w11.cell? { block := k1, off := 0 } = some (Value.int IntKind.i64 n78)) ∧
                    (w11.cell? { block := k1, off := 1 } = some (Value.int IntKind.i64 n79)) ∧
                    (w11.cell? { block := k1, off := 2 } = some (Value.bool c9)) ∧
                    (w11.cell? { block := k1, off := 3 } = some (Value.int IntKind.i64 n80)) ∧
                    (w11.cell? { block := k1, off := 4 } = some (Value.int IntKind.i64 n81)) ∧
                    (w11.cell? { block := k1, off := 5 } = some (Value.int IntKind.i64 n82)) ∧
                    (w11.cell? { block := k1, off := 6 } = some (Value.int IntKind.u32 n83)) ∧
                    (w11.cell? { block := k1, off := 7 } = some (Value.int IntKind.u32 n84)) ∧
                    (w11.cell? { block := k1, off := 8 } = some (Value.int IntKind.u32 n85)) ∧
                    (w11.cell? { block := k1, off := 9 } = some (Value.int IntKind.u32 n86)) ∧
                    (w11.cell? { block := k1, off := 10 } = some (Value.slice p8 k17 k18)) ∧
                    ∀ w14 : World,
                    (Locl ([k2]) w11 w14) →
                    R (Ending.returned (Value.tuple #[Value.agg #[Value.int IntKind.i64 n78, Value.int IntKind.i64 n79, Value.bool c9, Value.int IntKind.i64 n80, Value.int IntKind.i64 n81, Value.int IntKind.i64 n82, Value.int IntKind.u32 n83, Value.int IntKind.u32 n84, Value.int IntKind.u32 n85, Value.int IntKind.u32 n86, Value.slice p8 k17 k18], Value.bool false])) w14)
                    (∃ n87 : Int,
                    (w11.cell? { block := k1, off := 3 } = some (Value.int IntKind.i64 n87)) ∧
                    brB (n87 == 16)
                      ((0 ≤ n46) ∧
                      (n46 < 4) ∧
                      ∃ n88 : Int,
                      (w11.cell? ({ block := k1, off := 6 : Addr }.add (n46.toNat * 1)) = some (Value.int IntKind.u32 n88)) ∧
                      brB (decide (n88 > 65535))
                        (∃ n89 : Int,
                        ∃ n90 : Int,
                        ∃ c10 : Bool,
                        ∃ n91 : Int,
                        ∃ n92 : Int,
                        ∃ n93 : Int,
                        ∃ n94 : Int,
                        ∃ n95 : Int,
                        ∃ n96 : Int,
                        ∃ n97 : Int,
                        ∃ p9 : Option Addr,
                        ∃ k19 : Nat,
                        ∃ k20 : Nat,
                        (w11.cell? { block := k1, off := 0 } = some (Value.int IntKind.i64 n89)) ∧
                        (w11.cell? { block := k1, off := 1 } = some (Value.int IntKind.i64 n90)) ∧
                        (w11.cell? { block := k1, off := 2 } = some (Value.bool c10)) ∧
                        (w11.cell? { block := k1, off := 3 } = some (Value.int IntKind.i64 n91)) ∧
                        (w11.cell? { block := k1, off := 4 } = some (Value.int IntKind.i64 n92)) ∧
                        (w11.cell? { block := k1, off := 5 } = some (Value.int IntKind.i64 n93)) ∧
                        (w11.cell? { block := k1, off := 6 } = some (Value.int IntKind.u32 n94)) ∧
                        (w11.cell? { block := k1, off := 7 } = some (Value.int IntKind.u32 n95)) ∧
                        (w11.cell? { block := k1, off := 8 } = some (Value.int IntKind.u32 n96)) ∧
                        (w11.cell? { block := k1, off := 9 } = some (Value.int IntKind.u32 n97)) ∧
                        (w11.cell? { block := k1, off := 10 } = some (Value.slice p9 k19 k20)) ∧
                        ∀ w15 : World,
                        (Locl ([k2]) w11 w15) →
                        R (Ending.returned (Value.tuple #[Value.agg #[Value.int IntKind.i64 n89, Value.int IntKind.i64 n90, Value.bool c10, Value.int IntKind.i64 n91, Value.int IntKind.i64 n92, Value.int IntKind.i64 n93, Value.int IntKind.u32 n94, Value.int IntKind.u32 n95, Value.int IntKind.u32 n96, Value.int IntKind.u32 n97, Value.slice p9 k19 k20], Value.bool false])) w15)
                        ((0 ≤ n46) ∧
                        (n46 < 4) ∧
                        ∃ n98 : Int,
                        (w11.cell? ({ block := k1, off := 6 : Addr }.add (n46.toNat * 1)) = some (Value.int IntKind.u32 n98)) ∧
                        I5 [Value.int IntKind.u32 (IntKind.u32.wrap (bitsZ BinOp.or IntKind.u32 n45 n98)), Value.int IntKind.i64 n47, Value.int IntKind.i64 n48, Value.bool c5, Value.int IntKind.i64 n49, Value.int IntKind.i64 n50, Value.int IntKind.i64 n51, Value.int IntKind.u32 n52, Value.int IntKind.u32 n53, Value.int IntKind.u32 n54, Value.int IntKind.u32 n55, Value.slice p5 k11 k12] w11))
                      ((0 ≤ n46) ∧
                      (n46 < 4) ∧
                      ∃ n99 : Int,
                      (w11.cell? ({ block := k1, off := 6 : Addr }.add (n46.toNat * 1)) = some (Value.int IntKind.u32 n99)) ∧
                      I5 [Value.int IntKind.u32 (IntKind.u32.wrap (bitsZ BinOp.or IntKind.u32 n45 n99)), Value.int IntKind.i64 n47, Value.int IntKind.i64 n48, Value.bool c5, Value.int IntKind.i64 n49, Value.int IntKind.i64 n50, Value.int IntKind.i64 n51, Value.int IntKind.u32 n52, Value.int IntKind.u32 n53, Value.int IntKind.u32 n54, Value.int IntKind.u32 n55, Value.slice p5 k11 k12] w11))))
                ((0 ≤ n46) ∧
                (n46 < 4) ∧
                ∃ n100 : Int,
                (w11.cell? ({ block := k1, off := 6 : Addr }.add (n46.toNat * 1)) = some (Value.int IntKind.u32 n100)) ∧
                brB (IntKind.u32.wrap (bitsZ BinOp.and IntKind.u32 n45 n100) != 0)
                  (∃ n101 : Int,
                  ∃ n102 : Int,
                  ∃ c11 : Bool,
                  ∃ n103 : Int,
                  ∃ n104 : Int,
                  ∃ n105 : Int,
                  ∃ n106 : Int,
                  ∃ n107 : Int,
                  ∃ n108 : Int,
                  ∃ n109 : Int,
                  ∃ p10 : Option Addr,
                  ∃ k21 : Nat,
                  ∃ k22 : Nat,
                  (w11.cell? { block := k1, off := 0 } = some (Value.int IntKind.i64 n101)) ∧
                  (w11.cell? { block := k1, off := 1 } = some (Value.int IntKind.i64 n102)) ∧
                  (w11.cell? { block := k1, off := 2 } = some (Value.bool c11)) ∧
                  (w11.cell? { block := k1, off := 3 } = some (Value.int IntKind.i64 n103)) ∧
                  (w11.cell? { block := k1, off := 4 } = some (Value.int IntKind.i64 n104)) ∧
                  (w11.cell? { block := k1, off := 5 } = some (Value.int IntKind.i64 n105)) ∧
                  (w11.cell? { block := k1, off := 6 } = some (Value.int IntKind.u32 n106)) ∧
                  (w11.cell? { block := k1, off := 7 } = some (Value.int IntKind.u32 n107)) ∧
                  (w11.cell? { block := k1, off := 8 } = some (Value.int IntKind.u32 n108)) ∧
                  (w11.cell? { block := k1, off := 9 } = some (Value.int IntKind.u32 n109)) ∧
                  (w11.cell? { block := k1, off := 10 } = some (Value.slice p10 k21 k22)) ∧
                  ∀ w16 : World,
                  (Locl ([k2]) w11 w16) →
                  R (Ending.returned (Value.tuple #[Value.agg #[Value.int IntKind.i64 n101, Value.int IntKind.i64 n102, Value.bool c11, Value.int IntKind.i64 n103, Value.int IntKind.i64 n104, Value.int IntKind.i64 n105, Value.int IntKind.u32 n106, Value.int IntKind.u32 n107, Value.int IntKind.u32 n108, Value.int IntKind.u32 n109, Value.slice p10 k21 k22], Value.bool false])) w16)
                  (∃ n110 : Int,
                  (w11.cell? { block := k1, off := 3 } = some (Value.int IntKind.i64 n110)) ∧
                  brB (n110 == 16)
                    ((0 ≤ n46) ∧
                    (n46 < 4) ∧
                    ∃ n111 : Int,
                    (w11.cell? ({ block := k1, off := 6 : Addr }.add (n46.toNat * 1)) = some (Value.int IntKind.u32 n111)) ∧
                    brB (decide (n111 > 65535))
                      (∃ n112 : Int,
                      ∃ n113 : Int,
                      ∃ c12 : Bool,
                      ∃ n114 : Int,
                      ∃ n115 : Int,
                      ∃ n116 : Int,
                      ∃ n117 : Int,
                      ∃ n118 : Int,
                      ∃ n119 : Int,
                      ∃ n120 : Int,
                      ∃ p11 : Option Addr,
                      ∃ k23 : Nat,
                      ∃ k24 : Nat,
                      (w11.cell? { block := k1, off := 0 } = some (Value.int IntKind.i64 n112)) ∧
                      (w11.cell? { block := k1, off := 1 } = some (Value.int IntKind.i64 n113)) ∧
                      (w11.cell? { block := k1, off := 2 } = some (Value.bool c12)) ∧
                      (w11.cell? { block := k1, off := 3 } = some (Value.int IntKind.i64 n114)) ∧
                      (w11.cell? { block := k1, off := 4 } = some (Value.int IntKind.i64 n115)) ∧
                      (w11.cell? { block := k1, off := 5 } = some (Value.int IntKind.i64 n116)) ∧
                      (w11.cell? { block := k1, off := 6 } = some (Value.int IntKind.u32 n117)) ∧
                      (w11.cell? { block := k1, off := 7 } = some (Value.int IntKind.u32 n118)) ∧
                      (w11.cell? { block := k1, off := 8 } = some (Value.int IntKind.u32 n119)) ∧
                      (w11.cell? { block := k1, off := 9 } = some (Value.int IntKind.u32 n120)) ∧
                      (w11.cell? { block := k1, off := 10 } = some (Value.slice p11 k23 k24)) ∧
                      ∀ w17 : World,
                      (Locl ([k2]) w11 w17) →
                      R (Ending.returned (Value.tuple #[Value.agg #[Value.int IntKind.i64 n112, Value.int IntKind.i64 n113, Value.bool c12, Value.int IntKind.i64 n114, Value.int IntKind.i64 n115, Value.int IntKind.i64 n116, Value.int IntKind.u32 n117, Value.int IntKind.u32 n118, Value.int IntKind.u32 n119, Value.int IntKind.u32 n120, Value.slice p11 k23 k24], Value.bool false])) w17)
                      ((0 ≤ n46) ∧
                      (n46 < 4) ∧
                      ∃ n121 : Int,
                      (w11.cell? ({ block := k1, off := 6 : Addr }.add (n46.toNat * 1)) = some (Value.int IntKind.u32 n121)) ∧
                      I5 [Value.int IntKind.u32 (IntKind.u32.wrap (bitsZ BinOp.or IntKind.u32 n45 n121)), Value.int IntKind.i64 n47, Value.int IntKind.i64 n48, Value.bool c5, Value.int IntKind.i64 n49, Value.int IntKind.i64 n50, Value.int IntKind.i64 n51, Value.int IntKind.u32 n52, Value.int IntKind.u32 n53, Value.int IntKind.u32 n54, Value.int IntKind.u32 n55, Value.slice p5 k11 k12] w11))
                    ((0 ≤ n46) ∧
                    (n46 < 4) ∧
                    ∃ n122 : Int,
                    (w11.cell? ({ block := k1, off := 6 : Addr }.add (n46.toNat * 1)) = some (Value.int IntKind.u32 n122)) ∧
                    I5 [Value.int IntKind.u32 (IntKind.u32.wrap (bitsZ BinOp.or IntKind.u32 n45 n122)), Value.int IntKind.i64 n47, Value.int IntKind.i64 n48, Value.bool c5, Value.int IntKind.i64 n49, Value.int IntKind.i64 n50, Value.int IntKind.i64 n51, Value.int IntKind.u32 n52, Value.int IntKind.u32 n53, Value.int IntKind.u32 n54, Value.int IntKind.u32 n55, Value.slice p5 k11 k12] w11))))) ∧
          ∀ n123 : Int,
          ∀ n124 : Int,
          ∀ n125 : Int,
          ∀ c13 : Bool,
          ∀ n126 : Int,
          ∀ n127 : Int,
          ∀ n128 : Int,
          ∀ n129 : Int,
          ∀ n130 : Int,
          ∀ n131 : Int,
          ∀ n132 : Int,
          ∀ p12 : Option Addr,
          ∀ k25 : Nat,
          ∀ k26 : Nat,
          ∀ w18 : World,
          (I5 [Value.int IntKind.u32 n123, Value.int IntKind.i64 n124, Value.int IntKind.i64 n125, Value.bool c13, Value.int IntKind.i64 n126, Value.int IntKind.i64 n127, Value.int IntKind.i64 n128, Value.int IntKind.u32 n129, Value.int IntKind.u32 n130, Value.int IntKind.u32 n131, Value.int IntKind.u32 n132, Value.slice p12 k25 k26] w18) →
          (I4 [Value.int IntKind.u32 n123, Value.int IntKind.i64 (IntKind.i64.wrap (n46 + 1)), Value.int IntKind.i64 n124, Value.int IntKind.i64 n125, Value.bool c13, Value.int IntKind.i64 n126, Value.int IntKind.i64 n127, Value.int IntKind.i64 n128, Value.int IntKind.u32 n129, Value.int IntKind.u32 n130, Value.int IntKind.u32 n131, Value.int IntKind.u32 n132, Value.slice p12 k25 k26] w18) ∧
          m2 [Value.int IntKind.u32 n123, Value.int IntKind.i64 (IntKind.i64.wrap (n46 + 1)), Value.int IntKind.i64 n124, Value.int IntKind.i64 n125, Value.bool c13, Value.int IntKind.i64 n126, Value.int IntKind.i64 n127, Value.int IntKind.i64 n128, Value.int IntKind.u32 n129, Value.int IntKind.u32 n130, Value.int IntKind.u32 n131, Value.int IntKind.u32 n132, Value.slice p12 k25 k26] w18 < m2 [Value.int IntKind.u32 n45, Value.int IntKind.i64 n46, Value.int IntKind.i64 n47, Value.int IntKind.i64 n48, Value.bool c5, Value.int IntKind.i64 n49, Value.int IntKind.i64 n50, Value.int IntKind.i64 n51, Value.int IntKind.u32 n52, Value.int IntKind.u32 n53, Value.int IntKind.u32 n54, Value.int IntKind.u32 n55, Value.slice p5 k11 k12] w10)
          (∃ n133 : Int,
          ∃ n134 : Int,
          ∃ c14 : Bool,
          ∃ n135 : Int,
          ∃ n136 : Int,
          ∃ n137 : Int,
          ∃ n138 : Int,
          ∃ n139 : Int,
          ∃ n140 : Int,
          ∃ n141 : Int,
          ∃ p13 : Option Addr,
          ∃ k27 : Nat,
          ∃ k28 : Nat,
          (w10.cell? { block := k1, off := 0 } = some (Value.int IntKind.i64 n133)) ∧
          (w10.cell? { block := k1, off := 1 } = some (Value.int IntKind.i64 n134)) ∧
          (w10.cell? { block := k1, off := 2 } = some (Value.bool c14)) ∧
          (w10.cell? { block := k1, off := 3 } = some (Value.int IntKind.i64 n135)) ∧
          (w10.cell? { block := k1, off := 4 } = some (Value.int IntKind.i64 n136)) ∧
          (w10.cell? { block := k1, off := 5 } = some (Value.int IntKind.i64 n137)) ∧
          (w10.cell? { block := k1, off := 6 } = some (Value.int IntKind.u32 n138)) ∧
          (w10.cell? { block := k1, off := 7 } = some (Value.int IntKind.u32 n139)) ∧
          (w10.cell? { block := k1, off := 8 } = some (Value.int IntKind.u32 n140)) ∧
          (w10.cell? { block := k1, off := 9 } = some (Value.int IntKind.u32 n141)) ∧
          (w10.cell? { block := k1, off := 10 } = some (Value.slice p13 k27 k28)) ∧
          ∀ w19 : World,
          (Locl ([k2]) w10 w19) →
          R (Ending.returned (Value.tuple #[Value.agg #[Value.int IntKind.i64 n133, Value.int IntKind.i64 n134, Value.bool c14, Value.int IntKind.i64 n135, Value.int IntKind.i64 n136, Value.int IntKind.i64 n137, Value.int IntKind.u32 n138, Value.int IntKind.u32 n139, Value.int IntKind.u32 n140, Value.int IntKind.u32 n141, Value.slice p13 k27 k28], Value.bool true])) w19))))
theorem calls_ref11_masks (sa1 : Option Addr) (sl1 sc1 : Nat) (x1 : Int) (x2 : Int) (b1 : Bool) (x3 : Int) (x4 : Int) (x5 : Int) (x6 : Int) (x7 : Int) (x8 : Int) (x9 : Int) (sa2 : Option Addr) (sl2 sc2 : Nat) (x10 : Int) (w : World) (R : Ending → World → Prop) (h : vc_ref11_masks sa1 sl1 sc1 x1 x2 b1 x3 x4 x5 x6 x7 x8 x9 sa2 sl2 sc2 x10 w R) : Calls P F.ref11_masks #[.slice sa1 sl1 sc1, .agg #[.int .i64 x1, .int .i64 x2, .bool b1, .int .i64 x3, .int .i64 x4, .int .i64 x5, .int .u32 x6, .int .u32 x7, .int .u32 x8, .int .u32 x9, .slice sa2 sl2 sc2], .int .i64 x10] w R :=
  calls_of_vc (fn := Tryd.f24) (ac := ac_ref11_masks) (args := [.slice sa1 sl1 sc1, .agg #[.int .i64 x1, .int .i64 x2, .bool b1, .int .i64 x3, .int .i64 x4, .int .i64 x5, .int .u32 x6, .int .u32 x7, .int .u32 x8, .int .u32 x9, .slice sa2 sl2 sc2], .int .i64 x10]) mixed Tryd.func24 (by kernel_rfl) (cast (by unfold vc_ref11_masks FnVc; kernel_rfl) h)
end Go.Proofs.YtjdljddfiddnoaaDoor
