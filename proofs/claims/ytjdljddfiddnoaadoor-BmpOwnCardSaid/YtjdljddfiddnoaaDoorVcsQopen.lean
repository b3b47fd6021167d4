/- The condition of a great law, written out (by a program of ours), and the theorem that it suffices. -/
import Derived.Test.YtjdljddfiddnoaaDoorVcs
namespace Go.Proofs.YtjdljddfiddnoaaDoor
open Go Go.Vc
set_option maxRecDepth 100000
set_option linter.unusedVariables false
/-- darkroom/bmp.open -/
def vc_bmp_open (sa1 : Option Addr) (sl1 sc1 : Nat) (w : World) (R : Ending → World → Prop) : Prop :=
  ∀ k1 : Nat,
  ∀ w1 : World,
  (New w (Obj.cells #[Value.slice sa1 sl1 sc1] 22) k1 w1) →
  ∀ k2 : Nat,
  ∀ w2 : World,
  (New w1 (Obj.cells #[Value.bool false] 4) k2 w2) →
  (∃ v1 : Value,
    w2.cell? { block := k2, off := 0 } = some v1) ∧
  (w2.frozen? { block := k2, off := 0 } = false) ∧
  ∃ p1 : Option Addr,
  ∃ k3 : Nat,
  ∃ k4 : Nat,
  ((setCells w2 { block := k2, off := 0 } [Value.bool false] 0).cell? { block := k1, off := 0 } = some (Value.slice p1 k3 k4)) ∧
  brB (decide ((↑k3 : Int) < 18))
    (R (Ending.returned (Value.tuple #[Value.pointer none, Value.int IntKind.i64 9])) (setCells w2 { block := k2, off := 0 } [Value.bool false] 0))
    (∃ p2 : Option Addr,
    ∃ k5 : Nat,
    ∃ k6 : Nat,
    ((setCells w2 { block := k2, off := 0 } [Value.bool false] 0).cell? { block := k1, off := 0 } = some (Value.slice p2 k5 k6)) ∧
    idx (p2) (k5) (0) (1) fun a1 =>
    ∃ n1 : Int,
    ((setCells w2 { block := k2, off := 0 } [Value.bool false] 0).cell? a1 = some (Value.int IntKind.u8 n1)) ∧
    brB (n1 != 66)
      (R (Ending.returned (Value.tuple #[Value.pointer none, Value.int IntKind.i64 9])) (setCells w2 { block := k2, off := 0 } [Value.bool false] 0))
      (∃ p3 : Option Addr,
      ∃ k7 : Nat,
      ∃ k8 : Nat,
      ((setCells w2 { block := k2, off := 0 } [Value.bool false] 0).cell? { block := k1, off := 0 } = some (Value.slice p3 k7 k8)) ∧
      idx (p3) (k7) (1) (1) fun a2 =>
      ∃ n2 : Int,
      ((setCells w2 { block := k2, off := 0 } [Value.bool false] 0).cell? a2 = some (Value.int IntKind.u8 n2)) ∧
      brB (n2 != 77)
        (R (Ending.returned (Value.tuple #[Value.pointer none, Value.int IntKind.i64 9])) (setCells w2 { block := k2, off := 0 } [Value.bool false] 0))
        (∃ p4 : Option Addr,
        ∃ k9 : Nat,
        ∃ k10 : Nat,
        ((setCells w2 { block := k2, off := 0 } [Value.bool false] 0).drew.cell? { block := k1, off := 0 } = some (Value.slice p4 k9 k10)) ∧
        Calls P F.bmp_open_fn1 #[Value.int IntKind.i64 10, Value.int IntKind.i64 4, Value.pointer (some { block := k1, off := 0 }), Value.pointer (some { block := k2, off := 0 })] ((setCells w2 { block := k2, off := 0 } [Value.bool false] 0).drew) fun e1 w3 =>
        ∃ n3 : Int,
        (e1 = Ending.returned (Value.int IntKind.i64 n3)) ∧
        (Keeps ((setCells w2 { block := k2, off := 0 } [Value.bool false] 0).drew) w3) ∧
        ∀ k11 : Nat,
        ∀ w4 : World,
        (New w3 (Obj.cells #[Value.slice p4 k9 k10, Value.int IntKind.i64 0, Value.int IntKind.i64 0, Value.bool false, Value.int IntKind.i64 0, Value.int IntKind.i64 0, Value.int IntKind.i64 n3, Value.int IntKind.u32 0, Value.int IntKind.u32 0, Value.int IntKind.u32 0, Value.int IntKind.u32 0, Value.slice none 0 0] 56) k11 w4) →
        Calls P F.bmp_open_fn1 #[Value.int IntKind.i64 14, Value.int IntKind.i64 4, Value.pointer (some { block := k1, off := 0 }), Value.pointer (some { block := k2, off := 0 })] w4 fun e2 w5 =>
        ∃ n4 : Int,
        (e2 = Ending.returned (Value.int IntKind.i64 n4)) ∧
        ∃ I1 : List Value → World → Prop,
        (brB (n4 == 12)
            (brB (n4 == 12)
              (R (Ending.returned (Value.tuple #[Value.pointer none, Value.int IntKind.i64 10])) w5)
              (brB (n4 == 40)
                (brB (n4 == 40)
                  (I1 [] w5)
                  (R (Ending.returned (Value.tuple #[Value.pointer none, Value.int IntKind.i64 9])) w5))
                (brB (n4 == 52)
                  (brB (n4 == 52)
                    (I1 [] w5)
                    (R (Ending.returned (Value.tuple #[Value.pointer none, Value.int IntKind.i64 9])) w5))
                  (brB (n4 == 56)
                    (brB (n4 == 56)
                      (I1 [] w5)
                      (R (Ending.returned (Value.tuple #[Value.pointer none, Value.int IntKind.i64 9])) w5))
                    (brB (n4 == 108)
                      (brB (n4 == 108)
                        (I1 [] w5)
                        (R (Ending.returned (Value.tuple #[Value.pointer none, Value.int IntKind.i64 9])) w5))
                      (brB (n4 == 124)
                        (I1 [] w5)
                        (R (Ending.returned (Value.tuple #[Value.pointer none, Value.int IntKind.i64 9])) w5)))))))
            (brB (n4 == 16)
              (brB (n4 == 16)
                (R (Ending.returned (Value.tuple #[Value.pointer none, Value.int IntKind.i64 10])) w5)
                (brB (n4 == 40)
                  (brB (n4 == 40)
                    (I1 [] w5)
                    (R (Ending.returned (Value.tuple #[Value.pointer none, Value.int IntKind.i64 9])) w5))
                  (brB (n4 == 52)
                    (brB (n4 == 52)
                      (I1 [] w5)
                      (R (Ending.returned (Value.tuple #[Value.pointer none, Value.int IntKind.i64 9])) w5))
                    (brB (n4 == 56)
                      (brB (n4 == 56)
                        (I1 [] w5)
                        (R (Ending.returned (Value.tuple #[Value.pointer none, Value.int IntKind.i64 9])) w5))
                      (brB (n4 == 108)
                        (brB (n4 == 108)
                          (I1 [] w5)
                          (R (Ending.returned (Value.tuple #[Value.pointer none, Value.int IntKind.i64 9])) w5))
                        (brB (n4 == 124)
                          (I1 [] w5)
                          (R (Ending.returned (Value.tuple #[Value.pointer none, Value.int IntKind.i64 9])) w5)))))))
              (brB (n4 == 64)
                (R (Ending.returned (Value.tuple #[Value.pointer none, Value.int IntKind.i64 10])) w5)
                (brB (n4 == 40)
                  (brB (n4 == 40)
                    (I1 [] w5)
                    (R (Ending.returned (Value.tuple #[Value.pointer none, Value.int IntKind.i64 9])) w5))
                  (brB (n4 == 52)
                    (brB (n4 == 52)
                      (I1 [] w5)
                      (R (Ending.returned (Value.tuple #[Value.pointer none, Value.int IntKind.i64 9])) w5))
                    (brB (n4 == 56)
                      (brB (n4 == 56)
                        (I1 [] w5)
                        (R (Ending.returned (Value.tuple #[Value.pointer none, Value.int IntKind.i64 9])) w5))
                      (brB (n4 == 108)
                        (brB (n4 == 108)
                          (I1 [] w5)
                          (R (Ending.returned (Value.tuple #[Value.pointer none, Value.int IntKind.i64 9])) w5))
                        (brB (n4 == 124)
                          (I1 [] w5)
                          (R (Ending.returned (Value.tuple #[Value.pointer none, Value.int IntKind.i64 9])) w5))))))))) ∧
        ∀ w6 : World,
        (I1 [] w6) →
        ∃ p5 : Option Addr,
        ∃ k12 : Nat,
        ∃ k13 : Nat,
        (w6.cell? { block := k1, off := 0 } = some (Value.slice p5 k12 k13)) ∧
        brB (decide ((↑k12 : Int) < IntKind.i64.wrap (14 + n4)))
          (R (Ending.returned (Value.tuple #[Value.pointer none, Value.int IntKind.i64 9])) w6)
          (Calls P F.bmp_open_fn1 #[Value.int IntKind.i64 18, Value.int IntKind.i64 4, Value.pointer (some { block := k1, off := 0 }), Value.pointer (some { block := k2, off := 0 })] w6 fun e3 w7 =>
          ∃ n5 : Int,
          (e3 = Ending.returned (Value.int IntKind.i64 n5)) ∧
          Calls P F.bmp_open_fn1 #[Value.int IntKind.i64 22, Value.int IntKind.i64 4, Value.pointer (some { block := k1, off := 0 }), Value.pointer (some { block := k2, off := 0 })] w7 fun e4 w8 =>
          ∃ n6 : Int,
          (e4 = Ending.returned (Value.int IntKind.i64 n6)) ∧
          (∃ v2 : Value,
            w8.cell? { block := k11, off := 1 } = some v2) ∧
          (w8.frozen? { block := k11, off := 1 } = false) ∧
          (∃ v3 : Value,
            (setCells w8 { block := k11, off := 1 } [Value.int IntKind.i64 (IntKind.i64.wrap (IntKind.i32.wrap n5))] 0).cell? { block := k11, off := 2 } = some v3) ∧
          ((setCells w8 { block := k11, off := 1 } [Value.int IntKind.i64 (IntKind.i64.wrap (IntKind.i32.wrap n5))] 0).frozen? { block := k11, off := 2 } = false) ∧
          Calls P F.bmp_open_fn1 #[Value.int IntKind.i64 28, Value.int IntKind.i64 2, Value.pointer (some { block := k1, off := 0 }), Value.pointer (some { block := k2, off := 0 })] (setCells (setCells w8 { block := k11, off := 1 } [Value.int IntKind.i64 (IntKind.i64.wrap (IntKind.i32.wrap n5))] 0) { block := k11, off := 2 } [Value.int IntKind.i64 (IntKind.i64.wrap (IntKind.i32.wrap n6))] 0) fun e5 w9 =>
          ∃ n7 : Int,
          (e5 = Ending.returned (Value.int IntKind.i64 n7)) ∧
          Calls P F.bmp_open_fn1 #[Value.int IntKind.i64 30, Value.int IntKind.i64 4, Value.pointer (some { block := k1, off := 0 }), Value.pointer (some { block := k2, off := 0 })] w9 fun e6 w10 =>
          ∃ n8 : Int,
          (e6 = Ending.returned (Value.int IntKind.i64 n8)) ∧
          (∃ v4 : Value,
            w10.cell? { block := k11, off := 4 } = some v4) ∧
          (w10.frozen? { block := k11, off := 4 } = false) ∧
          (∃ v5 : Value,
            (setCells w10 { block := k11, off := 4 } [Value.int IntKind.i64 n7] 0).cell? { block := k11, off := 5 } = some v5) ∧
          ((setCells w10 { block := k11, off := 4 } [Value.int IntKind.i64 n7] 0).frozen? { block := k11, off := 5 } = false) ∧
          ∃ n9 : Int,
          ((setCells (setCells w10 { block := k11, off := 4 } [Value.int IntKind.i64 n7] 0) { block := k11, off := 5 } [Value.int IntKind.i64 n8] 0).cell? { block := k11, off := 1 } = some (Value.int IntKind.i64 n9)) ∧
          brB (decide (n9 < 1))
            (R (Ending.returned (Value.tuple #[Value.pointer none, Value.int IntKind.i64 9])) (setCells (setCells w10 { block := k11, off := 4 } [Value.int IntKind.i64 n7] 0) { block := k11, off := 5 } [Value.int IntKind.i64 n8] 0))
            (∃ n10 : Int,
            ((setCells (setCells w10 { block := k11, off := 4 } [Value.int IntKind.i64 n7] 0) { block := k11, off := 5 } [Value.int IntKind.i64 n8] 0).cell? { block := k11, off := 2 } = some (Value.int IntKind.i64 n10)) ∧
            brB (n10 == 0)
              (R (Ending.returned (Value.tuple #[Value.pointer none, Value.int IntKind.i64 9])) (setCells (setCells w10 { block := k11, off := 4 } [Value.int IntKind.i64 n7] 0) { block := k11, off := 5 } [Value.int IntKind.i64 n8] 0))
              (Calls P F.bmp_open_fn1 #[Value.int IntKind.i64 26, Value.int IntKind.i64 2, Value.pointer (some { block := k1, off := 0 }), Value.pointer (some { block := k2, off := 0 })] (setCells (setCells w10 { block := k11, off := 4 } [Value.int IntKind.i64 n7] 0) { block := k11, off := 5 } [Value.int IntKind.i64 n8] 0) fun e7 w11 =>
              ∃ n11 : Int,
              (e7 = Ending.returned (Value.int IntKind.i64 n11)) ∧
              brB (n11 != 1)
                (R (Ending.returned (Value.tuple #[Value.pointer none, Value.int IntKind.i64 9])) w11)
                (∃ I2 : List Value → World → Prop,
                (∃ n12 : Int,
                  (w11.cell? { block := k11, off := 2 } = some (Value.int IntKind.i64 n12)) ∧
                  brB (decide (n12 < 0))
                    (∃ n13 : Int,
                    (w11.cell? { block := k11, off := 2 } = some (Value.int IntKind.i64 n13)) ∧
                    (∃ v6 : Value,
                      w11.cell? { block := k11, off := 3 } = some v6) ∧
                    (w11.frozen? { block := k11, off := 3 } = false) ∧
                    (∃ v7 : Value,
                      (setCells w11 { block := k11, off := 3 } [Value.bool true] 0).cell? { block := k11, off := 2 } = some v7) ∧
                    ((setCells w11 { block := k11, off := 3 } [Value.bool true] 0).frozen? { block := k11, off := 2 } = false) ∧
                    I2 [] (setCells (setCells w11 { block := k11, off := 3 } [Value.bool true] 0) { block := k11, off := 2 } [Value.int IntKind.i64 (IntKind.i64.wrap (0 - n13))] 0))
                    (I2 [] w11)) ∧
                ∀ w12 : World,
                (I2 [] w12) →
                Calls P F.bmp_file_packing #[Value.pointer (some { block := k11, off := 0 })] w12 fun e8 w13 =>
                ∃ n14 : Int,
                (e8 = Ending.returned (Value.int IntKind.i64 n14)) ∧
                brB (n14 != 0)
                  (R (Ending.returned (Value.tuple #[Value.pointer none, Value.int IntKind.i64 n14])) w13)
                  (∃ n15 : Int,
                  (w13.cell? { block := k11, off := 4 } = some (Value.int IntKind.i64 n15)) ∧
                  brB (decide (n15 ≤ 8))
                    (Calls P F.bmp_open_fn1 #[Value.int IntKind.i64 46, Value.int IntKind.i64 4, Value.pointer (some { block := k1, off := 0 }), Value.pointer (some { block := k2, off := 0 })] w13 fun e9 w14 =>
                    ∃ n16 : Int,
                    (e9 = Ending.returned (Value.int IntKind.i64 n16)) ∧
                    ∃ n17 : Int,
                    (w14.cell? { block := k11, off := 4 } = some (Value.int IntKind.i64 n17)) ∧
                    (0 ≤ n17) ∧
                    brB (decide (n16 > shiftZ BinOp.shl IntKind.i64 1 n17))
                      (R (Ending.returned (Value.tuple #[Value.pointer none, Value.int IntKind.i64 9])) w14)
                      (Calls P F.bmp_file_colours #[Value.pointer (some { block := k11, off := 0 }), Value.int IntKind.i64 (IntKind.i64.wrap (14 + n4)), Value.int IntKind.i64 n16] w14 fun e10 w15 =>
                      ∃ c1 : Bool,
                      (e10 = Ending.returned (Value.bool c1)) ∧
                      brB (!c1)
                        (R (Ending.returned (Value.tuple #[Value.pointer none, Value.int IntKind.i64 9])) w15)
                        (R (Ending.returned (Value.tuple #[Value.pointer (some { block := k11, off := 0 }), Value.int IntKind.i64 0])) w15)))
                    (∃ I3 : List Value → World → Prop,
                    (∃ n18 : Int,
                      (w13.cell? { block := k11, off := 5 } = some (Value.int IntKind.i64 n18)) ∧
                      brB (n18 == 0)
                        (∃ n19 : Int,
                        (w13.cell? { block := k11, off := 4 } = some (Value.int IntKind.i64 n19)) ∧
                        brB (n19 == 16)
                          ((∃ v8 : Value,
                            w13.cell? { block := k11, off := 7 } = some v8) ∧
                          (w13.frozen? { block := k11, off := 7 } = false) ∧
                          (∃ v9 : Value,
                            w13.cell? { block := k11, off := 8 } = some v9) ∧
                          (w13.frozen? { block := k11, off := 8 } = false) ∧
                          (∃ v10 : Value,
                            w13.cell? { block := k11, off := 9 } = some v10) ∧
                          (w13.frozen? { block := k11, off := 9 } = false) ∧
                          (∃ v11 : Value,
                            w13.cell? { block := k11, off := 10 } = some v11) ∧
                          (w13.frozen? { block := k11, off := 10 } = false) ∧
                          I3 [] (setCells w13 { block := k11, off := 7 } [Value.int IntKind.u32 31744, Value.int IntKind.u32 992, Value.int IntKind.u32 31, Value.int IntKind.u32 0] 0))
                          (∃ n20 : Int,
                          (w13.cell? { block := k11, off := 5 } = some (Value.int IntKind.i64 n20)) ∧
                          brB (n20 == 0)
                            ((∃ v12 : Value,
                              w13.cell? { block := k11, off := 7 } = some v12) ∧
                            (w13.frozen? { block := k11, off := 7 } = false) ∧
                            (∃ v13 : Value,
                              w13.cell? { block := k11, off := 8 } = some v13) ∧
                            (w13.frozen? { block := k11, off := 8 } = false) ∧
                            (∃ v14 : Value,
                              w13.cell? { block := k11, off := 9 } = some v14) ∧
                            (w13.frozen? { block := k11, off := 9 } = false) ∧
                            (∃ v15 : Value,
                              w13.cell? { block := k11, off := 10 } = some v15) ∧
                            (w13.frozen? { block := k11, off := 10 } = false) ∧
                            I3 [] (setCells w13 { block := k11, off := 7 } [Value.int IntKind.u32 16711680, Value.int IntKind.u32 65280, Value.int IntKind.u32 255, Value.int IntKind.u32 0] 0))
                            (∃ n21 : Int,
                            (w13.cell? { block := k11, off := 5 } = some (Value.int IntKind.i64 n21)) ∧
                            brB (n21 == 6 || decide (n4 ≥ 56))
                              (∃ I4 : List Value → World → Prop,
                              ∃ m1 : List Value → World → Nat,
                              (I4 [Value.int IntKind.i64 0] w13) ∧
                              ∀ n22 : Int,
                              ∀ w16 : World,
                              (I4 [Value.int IntKind.i64 n22] w16) →
                              brB (decide (n22 < 4))
                                (Calls P F.bmp_open_fn1 #[Value.int IntKind.i64 (IntKind.i64.wrap (54 + IntKind.i64.wrap (4 * n22))), Value.int IntKind.i64 4, Value.pointer (some { block := k1, off := 0 }), Value.pointer (some { block := k2, off := 0 })] (w16.drew) fun e11 w17 =>
                                ∃ n23 : Int,
                                (e11 = Ending.returned (Value.int IntKind.i64 n23)) ∧
                                (0 ≤ n22) ∧
                                (n22 < 4) ∧
                                (∃ v16 : Value,
                                  w17.cell? ({ block := k11, off := 7 : Addr }.add (n22.toNat * 1)) = some v16) ∧
                                (w17.frozen? ({ block := k11, off := 7 : Addr }.add (n22.toNat * 1)) = false) ∧
                                (I4 [Value.int IntKind.i64 (IntKind.i64.wrap (n22 + 1))] (setCells w17 ({ block := k11, off := 7 : Addr }.add (n22.toNat * 1)) [Value.int IntKind.u32 (IntKind.u32.wrap n23)] 0)) ∧
                                m1 [Value.int IntKind.i64 (IntKind.i64.wrap (n22 + 1))] (setCells w17 ({ block := k11, off := 7 : Addr }.add (n22.toNat * 1)) [Value.int IntKind.u32 (IntKind.u32.wrap n23)] 0) < m1 [Value.int IntKind.i64 n22] w16)
                                (∃ c2 : Bool,
                                (w16.cell? { block := k2, off := 0 } = some (Value.bool c2)) ∧
                                brB (c2)
                                  (R (Ending.returned (Value.tuple #[Value.pointer none, Value.int IntKind.i64 9])) w16)
                                  (∃ n24 : Int,
                                  (w16.cell? { block := k11, off := 5 } = some (Value.int IntKind.i64 n24)) ∧
                                  brB (n24 == 6)
                                    (brB (n4 == 52)
                                      (R (Ending.returned (Value.tuple #[Value.pointer none, Value.int IntKind.i64 9])) w16)
                                      (Calls P F.bmp_file_masked #[Value.pointer (some { block := k11, off := 0 })] w16 fun e12 w18 =>
                                      ∃ c3 : Bool,
                                      (e12 = Ending.returned (Value.bool c3)) ∧
                                      brB (!c3)
                                        (R (Ending.returned (Value.tuple #[Value.pointer none, Value.int IntKind.i64 9])) w18)
                                        (I3 [] w18)))
                                    (Calls P F.bmp_file_masked #[Value.pointer (some { block := k11, off := 0 })] w16 fun e13 w19 =>
                                    ∃ c4 : Bool,
                                    (e13 = Ending.returned (Value.bool c4)) ∧
                                    brB (!c4)
                                      (R (Ending.returned (Value.tuple #[Value.pointer none, Value.int IntKind.i64 9])) w19)
                                      (I3 [] w19)))))
                              (∃ I5 : List Value → World → Prop,
                              ∃ m2 : List Value → World → Nat,
                              (I5 [Value.int IntKind.i64 0] w13) ∧
                              ∀ n25 : Int,
                              ∀ w20 : World,
                              (I5 [Value.int IntKind.i64 n25] w20) →
                              brB (decide (n25 < 3))
                                (Calls P F.bmp_open_fn1 #[Value.int IntKind.i64 (IntKind.i64.wrap (54 + IntKind.i64.wrap (4 * n25))), Value.int IntKind.i64 4, Value.pointer (some { block := k1, off := 0 }), Value.pointer (some { block := k2, off := 0 })] (w20.drew) fun e14 w21 =>
                                ∃ n26 : Int,
                                (e14 = Ending.returned (Value.int IntKind.i64 n26)) ∧
                                (0 ≤ n25) ∧
                                (n25 < 4) ∧
                                (∃ v17 : Value,
                                  w21.cell? ({ block := k11, off := 7 : Addr }.add (n25.toNat * 1)) = some v17) ∧
                                (w21.frozen? ({ block := k11, off := 7 : Addr }.add (n25.toNat * 1)) = false) ∧
                                (I5 [Value.int IntKind.i64 (IntKind.i64.wrap (n25 + 1))] (setCells w21 ({ block := k11, off := 7 : Addr }.add (n25.toNat * 1)) [Value.int IntKind.u32 (IntKind.u32.wrap n26)] 0)) ∧
                                m2 [Value.int IntKind.i64 (IntKind.i64.wrap (n25 + 1))] (setCells w21 ({ block := k11, off := 7 : Addr }.add (n25.toNat * 1)) [Value.int IntKind.u32 (IntKind.u32.wrap n26)] 0) < m2 [Value.int IntKind.i64 n25] w20)
                                (∃ c5 : Bool,
                                (w20.cell? { block := k2, off := 0 } = some (Value.bool c5)) ∧
                                brB (c5)
                                  (R (Ending.returned (Value.tuple #[Value.pointer none, Value.int IntKind.i64 9])) w20)
                                  (∃ n27 : Int,
                                  (w20.cell? { block := k11, off := 5 } = some (Value.int IntKind.i64 n27)) ∧
                                  brB (n27 == 6)
                                    (brB (n4 == 52)
                                      (R (Ending.returned (Value.tuple #[Value.pointer none, Value.int IntKind.i64 9])) w20)
                                      (Calls P F.bmp_file_masked #[Value.pointer (some { block := k11, off := 0 })] w20 fun e15 w22 =>
                                      ∃ c6 : Bool,
                                      (e15 = Ending.returned (Value.bool c6)) ∧
                                      brB (!c6)
                                        (R (Ending.returned (Value.tuple #[Value.pointer none, Value.int IntKind.i64 9])) w22)
                                        (I3 [] w22)))
                                    (Calls P F.bmp_file_masked #[Value.pointer (some { block := k11, off := 0 })] w20 fun e16 w23 =>
                                    ∃ c7 : Bool,
                                    (e16 = Ending.returned (Value.bool c7)) ∧
                                    brB (!c7)
                                      (R (Ending.returned (Value.tuple #[Value.pointer none, Value.int IntKind.i64 9])) w23)
                                      (I3 [] w23))))))))
                        (∃ n28 : Int,
                        (w13.cell? { block := k11, off := 5 } = some (Value.int IntKind.i64 n28)) ∧
                        brB (n28 == 0)
                          ((∃ v18 : Value,
                            w13.cell? { block := k11, off := 7 } = some v18) ∧
                          (w13.frozen? { block := k11, off := 7 } = false) ∧
                          (∃ v19 : Value,
                            w13.cell? { block := k11, off := 8 } = some v19) ∧
                          (w13.frozen? { block := k11, off := 8 } = false) ∧
                          (∃ v20 : Value,
                            w13.cell? { block := k11, off := 9 } = some v20) ∧
                          (w13.frozen? { block := k11, off := 9 } = false) ∧
                          (∃ v21 : Value,
                            w13.cell? { block := k11, off := 10 } = some v21) ∧
                          (w13.frozen? { block := k11, off := 10 } = false) ∧
                          I3 [] (setCells w13 { block := k11, off := 7 } [Value.int IntKind.u32 16711680, Value.int IntKind.u32 65280, Value.int IntKind.u32 255, Value.int IntKind.u32 0] 0))
                          (∃ n29 : Int,
                          (w13.cell? { block := k11, off := 5 } = some (Value.int IntKind.i64 n29)) ∧
                          brB (n29 == 6 || decide (n4 ≥ 56))
                            (∃ I6 : List Value → World → Prop,
                            ∃ m3 : List Value → World → Nat,
                            (I6 [Value.int IntKind.i64 0] w13) ∧
                            ∀ n30 : Int,
                            ∀ w24 : World,
                            (I6 [Value.int IntKind.i64 n30] w24) →
                            brB (decide (n30 < 4))
                              (Calls P F.bmp_open_fn1 #[Value.int IntKind.i64 (IntKind.i64.wrap (54 + IntKind.i64.wrap (4 * n30))), Value.int IntKind.i64 4, Value.pointer (some { block := k1, off := 0 }), Value.pointer (some { block := k2, off := 0 })] (w24.drew) fun e17 w25 =>
                              ∃ n31 : Int,
                              (e17 = Ending.returned (Value.int IntKind.i64 n31)) ∧
                              (0 ≤ n30) ∧
                              (n30 < 4) ∧
                              (∃ v22 : Value,
                                w25.cell? ({ block := k11, off := 7 : Addr }.add (n30.toNat * 1)) = some v22) ∧
                              (w25.frozen? ({ block := k11, off := 7 : Addr }.add (n30.toNat * 1)) = false) ∧
                              (I6 [Value.int IntKind.i64 (IntKind.i64.wrap (n30 + 1))] (setCells w25 ({ block := k11, off := 7 : Addr }.add (n30.toNat * 1)) [Value.int IntKind.u32 (IntKind.u32.wrap n31)] 0)) ∧
                              m3 [Value.int IntKind.i64 (IntKind.i64.wrap (n30 + 1))] (setCells w25 ({ block := k11, off := 7 : Addr }.add (n30.toNat * 1)) [Value.int IntKind.u32 (IntKind.u32.wrap n31)] 0) < m3 [Value.int IntKind.i64 n30] w24)
                              (∃ c8 : Bool,
                              (w24.cell? { block := k2, off := 0 } = some (Value.bool c8)) ∧
                              brB (c8)
                                (R (Ending.returned (Value.tuple #[Value.pointer none, Value.int IntKind.i64 9])) w24)
                                (∃ n32 : Int,
                                (w24.cell? { block := k11, off := 5 } = some (Value.int IntKind.i64 n32)) ∧
                                brB (n32 == 6)
                                  (brB (n4 == 52)
                                    (R (Ending.returned (Value.tuple #[Value.pointer none, Value.int IntKind.i64 9])) w24)
                                    (Calls P F.bmp_file_masked #[Value.pointer (some { block := k11, off := 0 })] w24 fun e18 w26 =>
                                    ∃ c9 : Bool,
                                    (e18 = Ending.returned (Value.bool c9)) ∧
                                    brB (!c9)
                                      (R (Ending.returned (Value.tuple #[Value.pointer none, Value.int IntKind.i64 9])) w26)
                                      (I3 [] w26)))
                                  (Calls P F.bmp_file_masked #[Value.pointer (some { block := k11, off := 0 })] w24 fun e19 w27 =>
                                  ∃ c10 : Bool,
                                  (e19 = Ending.returned (Value.bool c10)) ∧
                                  brB (!c10)
                                    (R (Ending.returned (Value.tuple #[Value.pointer none, Value.int IntKind.i64 9])) w27)
                                    (I3 [] w27)))))
                            (∃ I7 : List Value → World → Prop,
                            ∃ m4 : List Value → World → Nat,
                            (I7 [Value.int IntKind.i64 0] w13) ∧
                            ∀ n33 : Int,
                            ∀ w28 : World,
                            (I7 [Value.int IntKind.i64 n33] w28) →
                            brB (decide (n33 < 3))
                              (Calls P F.bmp_open_fn1 #[Value.int IntKind.i64 (IntKind.i64.wrap (54 + IntKind.i64.wrap (4 * n33))), Value.int IntKind.i64 4, Value.pointer (some { block := k1, off := 0 }), Value.pointer (some { block := k2, off := 0 })] (w28.drew) fun e20 w29 =>
                              ∃ n34 : Int,
                              (e20 = Ending.returned (Value.int IntKind.i64 n34)) ∧
                              (0 ≤ n33) ∧
                              (n33 < 4) ∧
                              (∃ v23 : Value,
                                w29.cell? ({ block := k11, off := 7 : Addr }.add (n33.toNat * 1)) = some v23) ∧
                              (w29.frozen? ({ block := k11, off := 7 : Addr }.add (n33.toNat * 1)) = false) ∧
                              (I7 [Value.int IntKind.i64 (IntKind.i64.wrap (n33 + 1))] (setCells w29 ({ block := k11, off := 7 : Addr }.add (n33.toNat * 1)) [Value.int IntKind.u32 (IntKind.u32.wrap n34)] 0)) ∧
                              m4 [Value.int IntKind.i64 (IntKind.i64.wrap (n33 + 1))] (setCells w29 ({ block := k11, off := 7 : Addr }.add (n33.toNat * 1)) [Value.int IntKind.u32 (IntKind.u32.wrap n34)] 0) < m4 [Value.int IntKind.i64 n33] w28)
                              (∃ c11 : Bool,
                              (w28.cell? { block := k2, off := 0 } = some (Value.bool c11)) ∧
                              brB (c11)
                                (R (Ending.returned (Value.tuple #[Value.pointer none, Value.int IntKind.i64 9])) w28)
                                (∃ n35 : Int,
                                (w28.cell? { block := k11, off := 5 } = some (Value.int IntKind.i64 n35)) ∧
                                brB (n35 == 6)
                                  (brB (n4 == 52)
                                    (R (Ending.returned (Value.tuple #[Value.pointer none, Value.int IntKind.i64 9])) w28)
                                    (Calls P F.bmp_file_masked #[Value.pointer (some { block := k11, off := 0 })] w28 fun e21 w30 =>
                                    ∃ c12 : Bool,
                                    (e21 = Ending.returned (Value.bool c12)) ∧
                                    brB (!c12)
                                      (R (Ending.returned (Value.tuple #[Value.pointer none, Value.int IntKind.i64 9])) w30)
                                      (I3 [] w30)))
                                  (Calls P F.bmp_file_masked #[Value.pointer (some { block := k11, off := 0 })] w28 fun e22 w31 =>
                                  ∃ c13 : Bool,
                                  (e22 = Ending.returned (Value.bool c13)) ∧
                                  brB (!c13)
                                    (R (Ending.returned (Value.tuple #[Value.pointer none, Value.int IntKind.i64 9])) w31)
                                    (I3 [] w31)))))))) ∧
                    ∀ w32 : World,
                    (I3 [] w32) →
                    R (Ending.returned (Value.tuple #[Value.pointer (some { block := k11, off := 0 }), Value.int IntKind.i64 0])) w32)))))))))
theorem calls_bmp_open (sa1 : Option Addr) (sl1 sc1 : Nat) (w : World) (R : Ending → World → Prop) (h : vc_bmp_open sa1 sl1 sc1 w R) : Calls P F.bmp_open #[.slice sa1 sl1 sc1] w R :=
  calls_of_vc (fn := Tryd.f20) (ac := ac_bmp_open) (args := [.slice sa1 sl1 sc1]) mixed Tryd.func20 (by kernel_rfl) (cast (by unfold vc_bmp_open FnVc; kernel_rfl) h)
end Go.Proofs.YtjdljddfiddnoaaDoor
