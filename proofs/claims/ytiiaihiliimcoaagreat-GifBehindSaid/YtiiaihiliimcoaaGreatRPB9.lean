/- The condition of a great law, written out (by a program of ours), and the theorem that it suffices. -/
import Derived.Test.YtiiaihiliimcoaaGreatRPB4
import Derived.Test.YtiiaihiliimcoaaGreatRPB8
set_option linter.unusedVariables false
set_option linter.unusedSimpArgs false
namespace Go.Proofs.YtiiaihiliimcoaaGreat
open Go Go.Vc
set_option maxRecDepth 100000
def vc_gif_Decode (sa1 : Option Addr) (sl1 sc1 : Nat) (x1 : Int) (w : World) (R : Ending → World → Prop) : Prop :=
 ∀ (k1 : Nat) (w1 : World),
 (New w (Obj.cells #[.int .i64 0, .int .i64 0, .slice none 0 0] 26) k1 w1) →
 ∀ (k2 : Nat) (w2 : World),
 (New w1 (Obj.cells #[.int .i64 0] 27) k2 w2) →
 brB (decide ((sl1 : Int) > 4194304))
 ((∃ v1 : Value,
 w2.cell? { block := k1, off := 0 } = some v1) ∧
 (w2.frozen? { block := k1, off := 0 } = false) ∧
 (∃ v2 : Value,
 w2.cell? { block := k1, off := 1 } = some v2) ∧
 (w2.frozen? { block := k1, off := 1 } = false) ∧
 (∃ v3 : Value,
 w2.cell? { block := k1, off := 2 } = some v3) ∧
 (w2.frozen? { block := k1, off := 2 } = false) ∧
 (∃ v4 : Value,
 (setCells w2 { block := k1, off := 0 } [.int .i64 0, .int .i64 0, .slice none 0 0] 0).cell? { block := k2, off := 0 } = some v4) ∧
 ((setCells w2 { block := k1, off := 0 } [.int .i64 0, .int .i64 0, .slice none 0 0] 0).frozen? { block := k2, off := 0 } = false) ∧
 ∃ (n1 n2 : Int) (p1 : Option Addr) (k3 k4 : Nat),
 ((setCells (setCells w2 { block := k1, off := 0 } [.int .i64 0, .int .i64 0, .slice none 0 0] 0) { block := k2, off := 0 } [.int .i64 11] 0).cell? { block := k1, off := 0 } = some (.int .i64 n1)) ∧
 ((setCells (setCells w2 { block := k1, off := 0 } [.int .i64 0, .int .i64 0, .slice none 0 0] 0) { block := k2, off := 0 } [.int .i64 11] 0).cell? { block := k1, off := 1 } = some (.int .i64 n2)) ∧
 ((setCells (setCells w2 { block := k1, off := 0 } [.int .i64 0, .int .i64 0, .slice none 0 0] 0) { block := k2, off := 0 } [.int .i64 11] 0).cell? { block := k1, off := 2 } = some (.slice p1 k3 k4)) ∧
 ∃ n3 : Int,
 ((setCells (setCells w2 { block := k1, off := 0 } [.int .i64 0, .int .i64 0, .slice none 0 0] 0) { block := k2, off := 0 } [.int .i64 11] 0).cell? { block := k2, off := 0 } = some (.int .i64 n3)) ∧
 R (.returned (.tuple #[.agg #[.int .i64 n1, .int .i64 n2, .slice p1 k3 k4], .int .i64 n3])) (setCells (setCells w2 { block := k1, off := 0 } [.int .i64 0, .int .i64 0, .slice none 0 0] 0) { block := k2, off := 0 } [.int .i64 11] 0))
 (∀ k5 : Nat,
 ∀ w3 : World,
 (New w2 (Obj.cells #[.slice sa1 sl1 sc1] 47) k5 w3) →
 ∃ I1 : List Value → World → Prop,
 (Calls P F.gif_reader_bytes #[.pointer (some { block := k5, off := 0 }), .int .i64 6] w3 fun e1 w4 =>
 ((∃ p2 : Option Addr,
 ∃ k6 k7 : Nat,
 (e1 = .returned (.slice p2 k6 k7)) ∧
 ∃ l1 : List Int,
 (l1.length = k6) ∧
 (CellsAre w4 p2 (List.map (.int .u8) l1)) ∧
 brB (!decide (bstrOf l1 = { data := #[71, 73, 70, 56, 55, 97] }))
 (brB (!decide (bstrOf l1 = { data := #[71, 73, 70, 56, 57, 97] }))
 ((∃ y1 : TypeId,
 ∃ v5 : Value,
 Value.iface 44 (Value.agg #[]) = Value.iface y1 v5) ∧
 ∃ v6 : Value,
 (([{ v := Value.iface 44 (Value.agg #[]), recovered := false }] : List PanicEntry) = [{ v := v6, recovered := false }]) ∧
 CallsOff P F.gif_Decode_fn1 [.pointer (some { block := k1, off := 0 }), .pointer (some { block := k2, off := 0 })] (v6) (w4) fun e2 w5 =>
 (∃ v7 : Value,
 e2 = .returned v7) ∧
 ∃ (n4 n5 : Int) (p3 : Option Addr) (k8 k9 : Nat),
 (w5.cell? { block := k1, off := 0 } = some (.int .i64 n4)) ∧
 (w5.cell? { block := k1, off := 1 } = some (.int .i64 n5)) ∧
 (w5.cell? { block := k1, off := 2 } = some (.slice p3 k8 k9)) ∧
 ∃ n6 : Int,
 (w5.cell? { block := k2, off := 0 } = some (.int .i64 n6)) ∧
 R (.returned (.tuple #[.agg #[.int .i64 n4, .int .i64 n5, .slice p3 k8 k9], .int .i64 n6])) w5)
 (I1 [] w4))
 (I1 [] w4)) ∨
 (∃ l2 : List PanicEntry,
 (e1 = .panicked l2) ∧
 ∃ v8 : Value,
 (l2 = [{ v := v8, recovered := false }]) ∧
 CallsOff P F.gif_Decode_fn1 [.pointer (some { block := k1, off := 0 }), .pointer (some { block := k2, off := 0 })] (v8) (w4) fun e3 w6 =>
 (∃ v9 : Value,
 e3 = .returned v9) ∧
 ∃ (n7 n8 : Int) (p4 : Option Addr) (k10 k11 : Nat),
 (w6.cell? { block := k1, off := 0 } = some (.int .i64 n7)) ∧
 (w6.cell? { block := k1, off := 1 } = some (.int .i64 n8)) ∧
 (w6.cell? { block := k1, off := 2 } = some (.slice p4 k10 k11)) ∧
 ∃ n9 : Int,
 (w6.cell? { block := k2, off := 0 } = some (.int .i64 n9)) ∧
 R (.returned (.tuple #[.agg #[.int .i64 n7, .int .i64 n8, .slice p4 k10 k11], .int .i64 n9])) w6))) ∧
 ∀ w7 : World,
 (I1 [] w7) →
 Calls P F.gif_reader_two #[.pointer (some { block := k5, off := 0 })] w7 fun e4 w8 =>
 ((∃ n10 : Int,
 (e4 = .returned (.int .i64 n10)) ∧
 Calls P F.gif_reader_two #[.pointer (some { block := k5, off := 0 })] w8 fun e5 w9 =>
 ((∃ n11 : Int,
 (e5 = .returned (.int .i64 n11)) ∧
 Calls P F.gif_reader_one #[.pointer (some { block := k5, off := 0 })] w9 fun e6 w10 =>
 ((∃ n12 : Int,
 (e6 = .returned (.int .i64 n12)) ∧
 Calls P F.gif_reader_bytes #[.pointer (some { block := k5, off := 0 }), .int .i64 2] w10 fun e7 w11 =>
 ((∃ p5 : Option Addr,
 ∃ k12 k13 : Nat,
 (e7 = .returned (.slice p5 k12 k13)) ∧
 brB (decide (n10 < 1) || decide (n11 < 1))
 ((∃ y2 : TypeId,
 ∃ v10 : Value,
 Value.iface 44 (Value.agg #[]) = Value.iface y2 v10) ∧
 ∃ v11 : Value,
 (([{ v := Value.iface 44 (Value.agg #[]), recovered := false }] : List PanicEntry) = [{ v := v11, recovered := false }]) ∧
 CallsOff P F.gif_Decode_fn1 [.pointer (some { block := k1, off := 0 }), .pointer (some { block := k2, off := 0 })] (v11) (w11) fun e8 w12 =>
 (∃ v12 : Value,
 e8 = .returned v12) ∧
 ∃ (n13 n14 : Int) (p6 : Option Addr) (k14 k15 : Nat),
 (w12.cell? { block := k1, off := 0 } = some (.int .i64 n13)) ∧
 (w12.cell? { block := k1, off := 1 } = some (.int .i64 n14)) ∧
 (w12.cell? { block := k1, off := 2 } = some (.slice p6 k14 k15)) ∧
 ∃ n15 : Int,
 (w12.cell? { block := k2, off := 0 } = some (.int .i64 n15)) ∧
 R (.returned (.tuple #[.agg #[.int .i64 n13, .int .i64 n14, .slice p6 k14 k15], .int .i64 n15])) w12)
 (∃ I2 : List Value → World → Prop,
 (brB (IntKind.i64.wrap (bitsZ .and .i64 n12 128) != 0)
 (Calls P F.gif_reader_palette #[.pointer (some { block := k5, off := 0 }), .int .i64 n12] w11 fun e9 w13 =>
 ((∃ p7 : Option Addr,
 ∃ k16 k17 : Nat,
 (e9 = .returned (.slice p7 k16 k17)) ∧
 I2 [.slice p7 k16 k17] w13) ∨
 (∃ l3 : List PanicEntry,
 (e9 = .panicked l3) ∧
 ∃ v13 : Value,
 (l3 = [{ v := v13, recovered := false }]) ∧
 CallsOff P F.gif_Decode_fn1 [.pointer (some { block := k1, off := 0 }), .pointer (some { block := k2, off := 0 })] (v13) (w13) fun e10 w14 =>
 (∃ v14 : Value,
 e10 = .returned v14) ∧
 ∃ (n16 n17 : Int) (p8 : Option Addr) (k18 k19 : Nat),
 (w14.cell? { block := k1, off := 0 } = some (.int .i64 n16)) ∧
 (w14.cell? { block := k1, off := 1 } = some (.int .i64 n17)) ∧
 (w14.cell? { block := k1, off := 2 } = some (.slice p8 k18 k19)) ∧
 ∃ n18 : Int,
 (w14.cell? { block := k2, off := 0 } = some (.int .i64 n18)) ∧
 R (.returned (.tuple #[.agg #[.int .i64 n16, .int .i64 n17, .slice p8 k18 k19], .int .i64 n18])) w14)))
 (I2 [.slice none 0 0] w11)) ∧
 ∀ (p9 : Option Addr) (k20 k21 : Nat) (w15 : World),
 (I2 [.slice p9 k20 k21] w15) →
 brB (decide (max n10 n11 > 4096) || decide (IntKind.i64.wrap (n10 * n11) > min x1 65536))
 ((∃ v15 : Value,
 w15.cell? { block := k1, off := 0 } = some v15) ∧
 (w15.frozen? { block := k1, off := 0 } = false) ∧
 (∃ v16 : Value,
 w15.cell? { block := k1, off := 1 } = some v16) ∧
 (w15.frozen? { block := k1, off := 1 } = false) ∧
 (∃ v17 : Value,
 w15.cell? { block := k1, off := 2 } = some v17) ∧
 (w15.frozen? { block := k1, off := 2 } = false) ∧
 (∃ v18 : Value,
 (setCells w15 { block := k1, off := 0 } [.int .i64 0, .int .i64 0, .slice none 0 0] 0).cell? { block := k2, off := 0 } = some v18) ∧
 ((setCells w15 { block := k1, off := 0 } [.int .i64 0, .int .i64 0, .slice none 0 0] 0).frozen? { block := k2, off := 0 } = false) ∧
 CallsOff P F.gif_Decode_fn1 [.pointer (some { block := k1, off := 0 }), .pointer (some { block := k2, off := 0 })] (Value.nilIface) (setCells (setCells w15 { block := k1, off := 0 } [.int .i64 0, .int .i64 0, .slice none 0 0] 0) { block := k2, off := 0 } [.int .i64 11] 0) fun e11 w16 =>
 (∃ v19 : Value,
 e11 = .returned v19) ∧
 ∃ (n19 n20 : Int) (p10 : Option Addr) (k22 k23 : Nat),
 (w16.cell? { block := k1, off := 0 } = some (.int .i64 n19)) ∧
 (w16.cell? { block := k1, off := 1 } = some (.int .i64 n20)) ∧
 (w16.cell? { block := k1, off := 2 } = some (.slice p10 k22 k23)) ∧
 ∃ n21 : Int,
 (w16.cell? { block := k2, off := 0 } = some (.int .i64 n21)) ∧
 R (.returned (.tuple #[.agg #[.int .i64 n19, .int .i64 n20, .slice p10 k22 k23], .int .i64 n21])) w16)
 ((0 ≤ IntKind.i64.wrap (IntKind.i64.wrap (4 * n10) * n11)) ∧
 (IntKind.i64.wrap (IntKind.i64.wrap (4 * n10) * n11) ≤ IntKind.i64.wrap (IntKind.i64.wrap (4 * n10) * n11)) ∧
 (IntKind.i64.wrap (IntKind.i64.wrap (4 * n10) * n11) * 2 ≤ 281474976710656) ∧
 (IntKind.i64.wrap (IntKind.i64.wrap (4 * n10) * n11) < 4611686018427387904) ∧
 ∀ (k24 : Nat) (w17 : World),
 (New w15 (Obj.cells (mkCells [.int .u16 0] (IntKind.i64.wrap (IntKind.i64.wrap (4 * n10) * n11)).toNat) 41) k24 w17) →
 (∃ v20 : Value,
 w17.cell? { block := k1, off := 0 } = some v20) ∧
 (w17.frozen? { block := k1, off := 0 } = false) ∧
 (∃ v21 : Value,
 w17.cell? { block := k1, off := 1 } = some v21) ∧
 (w17.frozen? { block := k1, off := 1 } = false) ∧
 (∃ v22 : Value,
 w17.cell? { block := k1, off := 2 } = some v22) ∧
 (w17.frozen? { block := k1, off := 2 } = false) ∧
 ∃ (I3 : List Value → World → Prop) (m1 : List Value → World → Nat),
 (I3 [.int .i64 (-1)] (setCells w17 { block := k1, off := 0 } [.int .i64 n10, .int .i64 n11, .slice (some { block := k24, off := 0 }) (IntKind.i64.wrap (IntKind.i64.wrap (4 * n10) * n11)).toNat (IntKind.i64.wrap (IntKind.i64.wrap (4 * n10) * n11)).toNat] 0)) ∧
 ∀ (n22 : Int) (w18 : World),
 (I3 [.int .i64 n22] w18) →
 Calls P F.gif_reader_one #[.pointer (some { block := k5, off := 0 })] w18 fun e12 w19 =>
 ((∃ n23 : Int,
 (e12 = .returned (.int .i64 n23)) ∧
 brB (n23 == 33)
 (Calls P F.gif_reader_extension #[.pointer (some { block := k5, off := 0 }), .int .i64 n22] w19 fun e13 w20 =>
 ((∃ n24 : Int,
 (e13 = .returned (.int .i64 n24)) ∧
 (I3 [.int .i64 n24] w20) ∧
 m1 [.int .i64 n24] w20 < m1 [.int .i64 n22] w18) ∨
 (∃ l4 : List PanicEntry,
 (e13 = .panicked l4) ∧
 ∃ v23 : Value,
 (l4 = [{ v := v23, recovered := false }]) ∧
 CallsOff P F.gif_Decode_fn1 [.pointer (some { block := k1, off := 0 }), .pointer (some { block := k2, off := 0 })] (v23) (w20) fun e14 w21 =>
 (∃ v24 : Value,
 e14 = .returned v24) ∧
 ∃ (n25 n26 : Int) (p11 : Option Addr) (k25 k26 : Nat),
 (w21.cell? { block := k1, off := 0 } = some (.int .i64 n25)) ∧
 (w21.cell? { block := k1, off := 1 } = some (.int .i64 n26)) ∧
 (w21.cell? { block := k1, off := 2 } = some (.slice p11 k25 k26)) ∧
 ∃ n27 : Int,
 (w21.cell? { block := k2, off := 0 } = some (.int .i64 n27)) ∧
 R (.returned (.tuple #[.agg #[.int .i64 n25, .int .i64 n26, .slice p11 k25 k26], .int .i64 n27])) w21)))
 (brB (n23 == 44)
 (∃ n28 : Int,
 ∃ (n29 : Int) (p12 : Option Addr) (k27 k28 : Nat),
 (w19.cell? { block := k1, off := 0 } = some (.int .i64 n28)) ∧
 (w19.cell? { block := k1, off := 1 } = some (.int .i64 n29)) ∧
 (w19.cell? { block := k1, off := 2 } = some (.slice p12 k27 k28)) ∧
 Calls P F.gif_reader_picture #[.pointer (some { block := k5, off := 0 }), .agg #[.int .i64 n28, .int .i64 n29, .slice p12 k27 k28], .slice p9 k20 k21, .int .i64 n22] w19 fun e15 w22 =>
 (((e15 = .returned (.tuple #[])) ∧
 ∃ (n30 n31 : Int) (p13 : Option Addr) (k29 k30 : Nat),
 (w22.cell? { block := k1, off := 0 } = some (.int .i64 n30)) ∧
 (w22.cell? { block := k1, off := 1 } = some (.int .i64 n31)) ∧
 (w22.cell? { block := k1, off := 2 } = some (.slice p13 k29 k30)) ∧
 (∃ v25 : Value,
 w22.cell? { block := k1, off := 0 } = some v25) ∧
 (w22.frozen? { block := k1, off := 0 } = false) ∧
 (∃ v26 : Value,
 w22.cell? { block := k1, off := 1 } = some v26) ∧
 (w22.frozen? { block := k1, off := 1 } = false) ∧
 (∃ v27 : Value,
 w22.cell? { block := k1, off := 2 } = some v27) ∧
 (w22.frozen? { block := k1, off := 2 } = false) ∧
 (∃ v28 : Value,
 (setCells w22 { block := k1, off := 0 } [.int .i64 n30, .int .i64 n31, .slice p13 k29 k30] 0).cell? { block := k2, off := 0 } = some v28) ∧
 ((setCells w22 { block := k1, off := 0 } [.int .i64 n30, .int .i64 n31, .slice p13 k29 k30] 0).frozen? { block := k2, off := 0 } = false) ∧
 CallsOff P F.gif_Decode_fn1 [.pointer (some { block := k1, off := 0 }), .pointer (some { block := k2, off := 0 })] (Value.nilIface) (setCells (setCells w22 { block := k1, off := 0 } [.int .i64 n30, .int .i64 n31, .slice p13 k29 k30] 0) { block := k2, off := 0 } [.int .i64 0] 0) fun e16 w23 =>
 (∃ v29 : Value,
 e16 = .returned v29) ∧
 ∃ (n32 n33 : Int) (p14 : Option Addr) (k31 k32 : Nat),
 (w23.cell? { block := k1, off := 0 } = some (.int .i64 n32)) ∧
 (w23.cell? { block := k1, off := 1 } = some (.int .i64 n33)) ∧
 (w23.cell? { block := k1, off := 2 } = some (.slice p14 k31 k32)) ∧
 ∃ n34 : Int,
 (w23.cell? { block := k2, off := 0 } = some (.int .i64 n34)) ∧
 R (.returned (.tuple #[.agg #[.int .i64 n32, .int .i64 n33, .slice p14 k31 k32], .int .i64 n34])) w23) ∨
 (∃ l5 : List PanicEntry,
 (e15 = .panicked l5) ∧
 ∃ v30 : Value,
 (l5 = [{ v := v30, recovered := false }]) ∧
 CallsOff P F.gif_Decode_fn1 [.pointer (some { block := k1, off := 0 }), .pointer (some { block := k2, off := 0 })] (v30) (w22) fun e17 w24 =>
 (∃ v31 : Value,
 e17 = .returned v31) ∧
 ∃ (n35 n36 : Int) (p15 : Option Addr) (k33 k34 : Nat),
 (w24.cell? { block := k1, off := 0 } = some (.int .i64 n35)) ∧
 (w24.cell? { block := k1, off := 1 } = some (.int .i64 n36)) ∧
 (w24.cell? { block := k1, off := 2 } = some (.slice p15 k33 k34)) ∧
 ∃ n37 : Int,
 (w24.cell? { block := k2, off := 0 } = some (.int .i64 n37)) ∧
 R (.returned (.tuple #[.agg #[.int .i64 n35, .int .i64 n36, .slice p15 k33 k34], .int .i64 n37])) w24)))
 ((∃ y3 : TypeId,
 ∃ v32 : Value,
 Value.iface 44 (Value.agg #[]) = Value.iface y3 v32) ∧
 ∃ v33 : Value,
 (([{ v := Value.iface 44 (Value.agg #[]), recovered := false }] : List PanicEntry) = [{ v := v33, recovered := false }]) ∧
 CallsOff P F.gif_Decode_fn1 [.pointer (some { block := k1, off := 0 }), .pointer (some { block := k2, off := 0 })] (v33) (w19) fun e18 w25 =>
 (∃ v34 : Value,
 e18 = .returned v34) ∧
 ∃ (n38 n39 : Int) (p16 : Option Addr) (k35 k36 : Nat),
 (w25.cell? { block := k1, off := 0 } = some (.int .i64 n38)) ∧
 (w25.cell? { block := k1, off := 1 } = some (.int .i64 n39)) ∧
 (w25.cell? { block := k1, off := 2 } = some (.slice p16 k35 k36)) ∧
 ∃ n40 : Int,
 (w25.cell? { block := k2, off := 0 } = some (.int .i64 n40)) ∧
 R (.returned (.tuple #[.agg #[.int .i64 n38, .int .i64 n39, .slice p16 k35 k36], .int .i64 n40])) w25))) ∨
 (∃ l6 : List PanicEntry,
 (e12 = .panicked l6) ∧
 ∃ v35 : Value,
 (l6 = [{ v := v35, recovered := false }]) ∧
 CallsOff P F.gif_Decode_fn1 [.pointer (some { block := k1, off := 0 }), .pointer (some { block := k2, off := 0 })] (v35) (w19) fun e19 w26 =>
 (∃ v36 : Value,
 e19 = .returned v36) ∧
 ∃ (n41 n42 : Int) (p17 : Option Addr) (k37 k38 : Nat),
 (w26.cell? { block := k1, off := 0 } = some (.int .i64 n41)) ∧
 (w26.cell? { block := k1, off := 1 } = some (.int .i64 n42)) ∧
 (w26.cell? { block := k1, off := 2 } = some (.slice p17 k37 k38)) ∧
 ∃ n43 : Int,
 (w26.cell? { block := k2, off := 0 } = some (.int .i64 n43)) ∧
 R (.returned (.tuple #[.agg #[.int .i64 n41, .int .i64 n42, .slice p17 k37 k38], .int .i64 n43])) w26))))) ∨
 (∃ l7 : List PanicEntry,
 (e7 = .panicked l7) ∧
 ∃ v37 : Value,
 (l7 = [{ v := v37, recovered := false }]) ∧
 CallsOff P F.gif_Decode_fn1 [.pointer (some { block := k1, off := 0 }), .pointer (some { block := k2, off := 0 })] (v37) (w11) fun e20 w27 =>
 (∃ v38 : Value,
 e20 = .returned v38) ∧
 ∃ (n44 n45 : Int) (p18 : Option Addr) (k39 k40 : Nat),
 (w27.cell? { block := k1, off := 0 } = some (.int .i64 n44)) ∧
 (w27.cell? { block := k1, off := 1 } = some (.int .i64 n45)) ∧
 (w27.cell? { block := k1, off := 2 } = some (.slice p18 k39 k40)) ∧
 ∃ n46 : Int,
 (w27.cell? { block := k2, off := 0 } = some (.int .i64 n46)) ∧
 R (.returned (.tuple #[.agg #[.int .i64 n44, .int .i64 n45, .slice p18 k39 k40], .int .i64 n46])) w27))) ∨
 (∃ l8 : List PanicEntry,
 (e6 = .panicked l8) ∧
 ∃ v39 : Value,
 (l8 = [{ v := v39, recovered := false }]) ∧
 CallsOff P F.gif_Decode_fn1 [.pointer (some { block := k1, off := 0 }), .pointer (some { block := k2, off := 0 })] (v39) (w10) fun e21 w28 =>
 (∃ v40 : Value,
 e21 = .returned v40) ∧
 ∃ (n47 n48 : Int) (p19 : Option Addr) (k41 k42 : Nat),
 (w28.cell? { block := k1, off := 0 } = some (.int .i64 n47)) ∧
 (w28.cell? { block := k1, off := 1 } = some (.int .i64 n48)) ∧
 (w28.cell? { block := k1, off := 2 } = some (.slice p19 k41 k42)) ∧
 ∃ n49 : Int,
 (w28.cell? { block := k2, off := 0 } = some (.int .i64 n49)) ∧
 R (.returned (.tuple #[.agg #[.int .i64 n47, .int .i64 n48, .slice p19 k41 k42], .int .i64 n49])) w28))) ∨
 (∃ l9 : List PanicEntry,
 (e5 = .panicked l9) ∧
 ∃ v41 : Value,
 (l9 = [{ v := v41, recovered := false }]) ∧
 CallsOff P F.gif_Decode_fn1 [.pointer (some { block := k1, off := 0 }), .pointer (some { block := k2, off := 0 })] (v41) (w9) fun e22 w29 =>
 (∃ v42 : Value,
 e22 = .returned v42) ∧
 ∃ (n50 n51 : Int) (p20 : Option Addr) (k43 k44 : Nat),
 (w29.cell? { block := k1, off := 0 } = some (.int .i64 n50)) ∧
 (w29.cell? { block := k1, off := 1 } = some (.int .i64 n51)) ∧
 (w29.cell? { block := k1, off := 2 } = some (.slice p20 k43 k44)) ∧
 ∃ n52 : Int,
 (w29.cell? { block := k2, off := 0 } = some (.int .i64 n52)) ∧
 R (.returned (.tuple #[.agg #[.int .i64 n50, .int .i64 n51, .slice p20 k43 k44], .int .i64 n52])) w29))) ∨
 (∃ l10 : List PanicEntry,
 (e4 = .panicked l10) ∧
 ∃ v43 : Value,
 (l10 = [{ v := v43, recovered := false }]) ∧
 CallsOff P F.gif_Decode_fn1 [.pointer (some { block := k1, off := 0 }), .pointer (some { block := k2, off := 0 })] (v43) (w8) fun e23 w30 =>
 (∃ v44 : Value,
 e23 = .returned v44) ∧
 ∃ (n53 n54 : Int) (p21 : Option Addr) (k45 k46 : Nat),
 (w30.cell? { block := k1, off := 0 } = some (.int .i64 n53)) ∧
 (w30.cell? { block := k1, off := 1 } = some (.int .i64 n54)) ∧
 (w30.cell? { block := k1, off := 2 } = some (.slice p21 k45 k46)) ∧
 ∃ n55 : Int,
 (w30.cell? { block := k2, off := 0 } = some (.int .i64 n55)) ∧
 R (.returned (.tuple #[.agg #[.int .i64 n53, .int .i64 n54, .slice p21 k45 k46], .int .i64 n55])) w30)))
theorem calls_gif_Decode (sa1 : Option Addr) (sl1 sc1 : Nat) (x1 : Int) (w : World) (R : Ending → World → Prop) (h : vc_gif_Decode sa1 sl1 sc1 x1 w R) : Calls P F.gif_Decode #[.slice sa1 sl1 sc1, .int .i64 x1] w R :=
 calls_of_vcD (fn := Tryz.f7) (ac := ac_gif_Decode) (args := [.slice sa1 sl1 sc1, .int .i64 x1]) mixed Tryz.func7 (by kernel_rfl) (cast (by unfold vc_gif_Decode FnVcD; kernel_rfl) h)
end Go.Proofs.YtiiaihiliimcoaaGreat
namespace Go.Proofs.YtiiaihiliimcoaaGreat
open Go Go.Vc Go.RowKit Go.Qn
set_option maxRecDepth 100000
set_option maxHeartbeats 4000000
theorem bstr_list (xs : List Int) : ∀ acc : ByteArray, (xs.foldl (fun r n => r.push (UInt8.ofNat n.toNat)) acc).data.toList = acc.data.toList ++ xs.map fun n => UInt8.ofNat n.toNat := by
 induction xs with
 | nil => intro acc; simp
 | cons x xs ih => intro acc; rw [List.foldl_cons, ih]; simp [ByteArray.push]
theorem bstr_inj {xs ys : List Int} (hx : Bs xs) (hy : Bs ys) (h : bstrOf xs = bstrOf ys) : xs = ys := by
 have h1 := congrArg (fun b : ByteArray => b.data.toList) h
 simp only [bstrOf, bstr_list] at h1
 have h2 := List.append_cancel_left h1
 clear h h1
 induction xs generalizing ys with
 | nil => cases ys with
  | nil => rfl
  | cons y ys => cases h2
 | cons x xs ih => cases ys with
  | nil => cases h2
  | cons y ys =>
   simp only [List.map_cons, List.cons.injEq] at h2
   have a := hx x (by simp)
   have b := hy y (by simp)
   have e := congrArg UInt8.toNat h2.1
   simp only [UInt8.toNat_ofNat'] at e
   have : x = y := by omega
   rw [this, ih (fun z hz => hx z (List.mem_cons_of_mem _ hz)) (fun z hz => hy z (List.mem_cons_of_mem _ hz)) h2.2]
theorem s87 : (⟨#[71, 73, 70, 56, 55, 97]⟩ : ByteArray) = bstrOf sig87 := by decide +kernel
theorem s89 : (⟨#[71, 73, 70, 56, 57, 97]⟩ : ByteArray) = bstrOf sig89 := by decide +kernel
theorem bs87 : Bs sig87 := by unfold Bs sig87; decide
theorem bs89 : Bs sig89 := by unfold Bs sig89; decide
theorem bstr87 {xs : List Int} (h : Bs xs) : decide (bstrOf xs = ⟨#[71, 73, 70, 56, 55, 97]⟩) = decide (xs = sig87) := by
 rw [Bool.eq_iff_iff]; simp only [decide_eq_true_eq]; rw [s87]
 exact ⟨fun e => bstr_inj h bs87 e, fun e => by rw [e]⟩
theorem bstr89 {xs : List Int} (h : Bs xs) : decide (bstrOf xs = ⟨#[71, 73, 70, 56, 57, 97]⟩) = decide (xs = sig89) := by
 rw [Bool.eq_iff_iff]; simp only [decide_eq_true_eq]; rw [s89]
 exact ⟨fun e => bstr_inj h bs89 e, fun e => by rw [e]⟩
theorem mk0 (n : Nat) : (mkCells [u16 0] n).toList = px (List.replicate n 0) := by
 simp [mkCells, px, Nat.mod_one, Array.toList_map, Array.toList_range]
 rw [List.map_const', List.length_range]
theorem off_brkG {k1 k2 : Nat} {x y z v : Value} {w : World} {R : Ending → World → Prop} (h12 : k1 ≠ k2) (h1 : Cs w k1 [x, y, z]) (h2 : Cs w k2 [v])
  (hR : ∀ w', Chg (fun i => i = k1 ∨ i = k2 ∨ w.heap.size ≤ i) w w' → Cs w' k1 [i64 0, i64 0, .slice none 0 0] → Cs w' k2 [i64 9] → R (.returned (.tuple #[])) w') :
  CallsOff P F.gif_Decode_fn1 [.pointer (some ⟨k1, 0, none⟩), .pointer (some ⟨k2, 0, none⟩)] (.iface 44 (.agg #[])) w R := by
 refine off_gif_Decode_fn1 _ _ _ _ _ ?_
 have l1 := h1.lt
 have l2 := h2.lt
 refine ⟨fun _ u => Chg (fun i => i = k1 ∨ i = k2 ∨ w.heap.size ≤ i) w u ∧ Cs u k1 [i64 0, i64 0, .slice none 0 0] ∧ Cs u k2 [i64 9], ⟨rfl, brB_f rfl (.inl ⟨rfl, fun k hk w1 hL1 => ?_⟩)⟩, fun w2 hI => hR w2 hI.1 hI.2.1 hI.2.2⟩
 have q1 := h1.locl hL1 (by simp; omega)
 have q2 := h2.locl hL1 (by simp; omega)
 have c1 := Chg.setCells w1 ⟨k1, 0, none⟩ [i64 0, i64 0, .slice none 0 0] 0
 have s1 : Cs _ k1 [i64 0, i64 0, .slice none 0 0] := q1.set (off := 0) (us := [i64 0, i64 0, .slice none 0 0]) (by simp)
 have s2 := q2.chg c1 (fun e => h12 (show k2 = k1 from e).symm)
 have c2 := Chg.setCells (setCells w1 ⟨k1, 0, none⟩ [i64 0, i64 0, .slice none 0 0] 0) ⟨k2, 0, none⟩ [i64 9] 0
 have t2 : Cs _ k2 [i64 9] := s2.set1 (off := 0) (v := i64 9) (by simp)
 have t1 := s1.chg c2 (fun e => h12 e)
 have z1 : Chg (fun i => i = k1 ∨ i = k2 ∨ w.heap.size ≤ i) w w1 := hL1.chg.mono fun i hi _ => by
  have : i = k := by simpa using hi
  omega
 exact ⟨⟨_, q1.cell (i := 0) rfl⟩, q1.frozen _, ⟨_, q1.cell (i := 1) rfl⟩, q1.frozen _, ⟨_, q1.cell (i := 2) rfl⟩, q1.frozen _, by simp; omega, ⟨_, s2.cell (i := 0) rfl⟩, s2.frozen _, by simp; omega, (z1.trans c1 fun i hi _ => .inl hi).trans c2 fun i hi _ => .inr (.inl hi), t1, t2⟩
theorem off_nilG {fr1 fr2 : Addr} {w : World} {R : Ending → World → Prop} (hR : R (.returned (.tuple #[])) w) : CallsOff P F.gif_Decode_fn1 [.pointer (some fr1), .pointer (some fr2)] .nilIface w R := by
 refine off_gif_Decode_fn1 _ _ _ _ _ ?_
 exact ⟨fun _ u => u = w, ⟨rfl, brB_t rfl rfl⟩, fun w2 hI => by subst hI; exact hR⟩
theorem gDecode_spec {N : Nat} {w : World} {base : Option Addr} {len cap : Nat} {b : List Int} {most : Int} {R : Ending → World → Prop} (h : Sl N w base (bytes b)) (hl : len = b.length) (hcp : len ≤ cap) (hf : Bs b)
  (hR : ∀ p c w', Ext w w' → OwnS (fun i => w.heap.size ≤ i) w' p (decR b most).2.2.1.length c 1 (px (decR b most).2.2.1) → R (.returned (.tuple #[.agg #[i64 (decR b most).1, i64 (decR b most).2.1, .slice p (decR b most).2.2.1.length c], i64 (decR b most).2.2.2])) w') :
  Calls P F.gif_Decode #[.slice base len cap, i64 most] w R := by
 refine calls_gif_Decode _ _ _ _ _ _ ?_
 intro k1 w1 hn1 k2 w2 hn2
 have e1 := hn1.1
 have e2 := hn2.1
 have s1 := hn1.size
 have s2 := hn2.size
 have s2' := hn2.ext.size
 have hE2 := hn1.ext.trans hn2.ext
 have C1 : Cs w2 k1 [i64 0, i64 0, .slice none 0 0] := (show Cs w1 k1 [i64 0, i64 0, .slice none 0 0] from hn1.cs).ext hn2.ext
 have C2 : Cs w2 k2 [i64 0] := hn2.cs
 have wr : ∀ {u : World} {x y z v : Value} (a c d e : Value), Cs u k1 [x, y, z] → Cs u k2 [v] → Cs (setCells (setCells u ⟨k1, 0, none⟩ [a, c, d] 0) ⟨k2, 0, none⟩ [e] 0) k1 [a, c, d] ∧ Cs (setCells (setCells u ⟨k1, 0, none⟩ [a, c, d] 0) ⟨k2, 0, none⟩ [e] 0) k2 [e] ∧
   Cs (setCells u ⟨k1, 0, none⟩ [a, c, d] 0) k2 [v] ∧ Chg (fun i => i = k1 ∨ i = k2) u (setCells (setCells u ⟨k1, 0, none⟩ [a, c, d] 0) ⟨k2, 0, none⟩ [e] 0) := fun {u x y z v} a c d e q1 q2 => by
  have c1 := Chg.setCells u ⟨k1, 0, none⟩ [a, c, d] 0
  have s1 : Cs _ k1 [a, c, d] := q1.set (off := 0) (us := [a, c, d]) (by simp)
  have s2 := q2.chg c1 (fun e => by have e : k2 = k1 := e; omega)
  have c2 := Chg.setCells (setCells u ⟨k1, 0, none⟩ [a, c, d] 0) ⟨k2, 0, none⟩ [e] 0
  have t2 : Cs _ k2 [e] := s2.set1 (off := 0) (v := e) (by simp)
  exact ⟨s1.chg c2 (fun e => by have e : k1 = k2 := e; omega), t2, s2, (c1.mono fun i hi _ => .inl hi).trans c2 fun i hi _ => .inr hi⟩
 refine brB_i (fun hbig => ?_) fun hbig k5 w3 hn3 => ?_
 ·have hbig : 4194304 < b.length := by have := of_decide_eq_true hbig; omega
  have hd : decR b most = (0, 0, [], 11) := by unfold decR; rw [if_pos hbig]
  rw [hd] at hR
  obtain ⟨t1, t2, t3, t4⟩ := wr (i64 0) (i64 0) (.slice none 0 0) (i64 11) C1 C2
  exact ⟨⟨_, C1.cell (i := 0) rfl⟩, C1.frozen _, ⟨_, C1.cell (i := 1) rfl⟩, C1.frozen _, ⟨_, C1.cell (i := 2) rfl⟩, C1.frozen _, ⟨_, t3.cell (i := 0) rfl⟩, t3.frozen _, _, _, _, _, _, t1.cell (i := 0) rfl, t1.cell (i := 1) rfl, t1.cell (i := 2) rfl, _, t2.cell (i := 0) rfl,
   hR none 0 _ (hE2.step t4 fun i hi => by omega) (OwnS.nil _ _ _ _)⟩
 have hbig : ¬ 4194304 < b.length := by have := of_decide_eq_false hbig; omega
 have e5 := hn3.1
 have s3 := hn3.size
 have s3' := hn3.ext.size
 have hE3 := hE2.trans hn3.ext
 have hE3s := hE3.size
 have hG3 : GAt w3 w.heap.size k5 b 0 := ⟨⟨base, cap, by rw [Nat.sub_zero, ← hl]; exact hn3.cs, by omega, by rw [List.drop_zero]; exact (Sl.up h).ext hE3⟩, by omega, by omega, hE3s, by omega, hf⟩
 let Q : World → Prop := fun u => Ext w u ∧ Cs u k1 [i64 0, i64 0, .slice none 0 0] ∧ Cs u k2 [i64 0] ∧ w3.heap.size ≤ u.heap.size
 have qs : ∀ {u u'}, Q u → Chg (· = k5) u u' → Q u' := fun hq hc => ⟨hq.1.step hc fun i hi => by have hi : i = k5 := hi; omega, hq.2.1.chg hc (by omega), hq.2.2.1.chg hc (by omega), Nat.le_trans hq.2.2.2 hc.size⟩
 have qe : ∀ {u u'}, Q u → Ext u u' → Q u' := fun hq hE => ⟨hq.1.trans hE, hq.2.1.ext hE, hq.2.2.1.ext hE, Nat.le_trans hq.2.2.2 hE.size⟩
 have hQ3 : Q w3 := ⟨hE3, C1.ext hn3.ext, C2.ext hn3.ext, Nat.le_refl _⟩
 have bad : ∀ {x y z v : Value} (u : World), decR b most = (0, 0, [], 9) → Ext w u → Cs u k1 [x, y, z] → Cs u k2 [v] →
   ∃ v8 : Value, brkG = [{ v := v8, recovered := false }] ∧ CallsOff P F.gif_Decode_fn1 [.pointer (some ⟨k1, 0, none⟩), .pointer (some ⟨k2, 0, none⟩)] v8 u fun e3 w6 => (∃ v9 : Value, e3 = .returned v9) ∧
    ∃ (n7 n8 : Int) (p4 : Option Addr) (k10 k11 : Nat), w6.cell? ⟨k1, 0, none⟩ = some (i64 n7) ∧ w6.cell? ⟨k1, 1, none⟩ = some (i64 n8) ∧ w6.cell? ⟨k1, 2, none⟩ = some (.slice p4 k10 k11) ∧ ∃ n9 : Int, w6.cell? ⟨k2, 0, none⟩ = some (i64 n9) ∧
     R (.returned (.tuple #[.agg #[i64 n7, i64 n8, .slice p4 k10 k11], i64 n9])) w6 := fun {x y z v} u hd hE q1 q2 => by
  refine ⟨_, rfl, off_brkG (by omega) q1 q2 fun w' hc g1 g2 => ⟨⟨_, rfl⟩, _, _, _, _, _, g1.cell (i := 0) rfl, g1.cell (i := 1) rfl, g1.cell (i := 2) rfl, _, g2.cell (i := 0) rfl, ?_⟩⟩
  rw [hd] at hR
  exact hR none 0 w' (hE.step hc fun i hi => by have := hE.size; omega) (OwnS.nil _ _ _ _)
 have badQ : ∀ (u : World), decR b most = (0, 0, [], 9) → Q u → _ := fun u hd hq => bad u hd hq.1 hq.2.1 hq.2.2.1
 have hdH : ¬ (headOk b = true) → decR b most = (0, 0, [], 9) := fun hh => by
  unfold decR
  rw [if_neg hbig, if_pos (by simpa using hh)]
 have hH : headOk b = true ↔ 13 ≤ b.length ∧ (b.take 6 = sig87 ∨ b.take 6 = sig89) ∧ 1 ≤ twoM b 6 ∧ 1 ≤ twoM b 8 ∧ (b.getD 10 0 < 128 ∨ 13 + 3 * palN (b.getD 10 0) ≤ b.length) := by
  unfold headOk
  simp only [Bool.and_eq_true, Bool.or_eq_true, decide_eq_true_eq]
  exact ⟨fun ⟨⟨⟨⟨a, b⟩, c⟩, d⟩, e⟩ => ⟨a, b, c, d, e⟩, fun ⟨a, b, c, d, e⟩ => ⟨⟨⟨⟨a, b⟩, c⟩, d⟩, e⟩⟩
 have short : b.length < 13 → decR b most = (0, 0, [], 9) := fun hs => hdH fun hh => by have := (hH.1 hh).1; omega
 refine ⟨fun _ u => Q u ∧ GAt u w.heap.size k5 b 6 ∧ (b.take 6 = sig87 ∨ b.take 6 = sig89), ?_, fun w7 hI => ?_⟩
 ·refine gbytes_spec (n := 6) hG3 (by omega) (fun hle p c w4 hc4 h4 hs4 _ => .inl ⟨_, _, _, rfl, part b 0 6, part_length hle, hs4.cells, ?_⟩) fun hlt => .inr ⟨_, rfl, badQ w3 (short (by omega)) hQ3⟩
  have ep : part b 0 6 = b.take 6 := by unfold part; rw [List.drop_zero]
  rw [bstr87 (part_bs hf _ _), bstr89 (part_bs hf _ _), ep]
  refine brB_i (fun h87 => ?_) fun h87 => ⟨qs hQ3 hc4, h4, .inl (by simpa using h87)⟩
  refine brB_i (fun h89 => ⟨⟨_, _, rfl⟩, badQ w4 (hdH fun hh => ?_) (qs hQ3 hc4)⟩) fun h89 => ⟨qs hQ3 hc4, h4, .inr (by simpa using h89)⟩
  have n87 : b.take 6 ≠ sig87 := by simpa using h87
  have n89 : b.take 6 ≠ sig89 := by simpa using h89
  rcases (hH.1 hh).2.1 with e | e
  ·exact n87 e
  ·exact n89 e
 obtain ⟨hQ7, h7, hsig⟩ := hI
 refine gtwo_spec h7 (fun hA w8 hc8 h8 => .inl ⟨_, rfl, ?_⟩) fun hA => .inr ⟨_, rfl, badQ w7 (short (by omega)) hQ7⟩
 have hQ8 := qs hQ7 hc8
 refine gtwo_spec h8 (fun hB w9 hc9 h9 => .inl ⟨_, rfl, ?_⟩) fun hA => .inr ⟨_, rfl, badQ w8 (short (by omega)) hQ8⟩
 have hQ9 := qs hQ8 hc9
 refine gone_spec h9 (fun hC w10 hc10 h10 => .inl ⟨_, rfl, ?_⟩) fun hA => .inr ⟨_, rfl, badQ w9 (short (by omega)) hQ9⟩
 have hQ10 := qs hQ9 hc10
 refine gbytes_spec (n := 2) h10 (by omega) (fun hle p c w11 hc11 h11 hs11 _ => .inl ⟨_, _, _, rfl, ?_⟩) fun hlt => .inr ⟨_, rfl, badQ w10 (short (by omega)) hQ10⟩
 have hQ11 := qs hQ10 hc11
 simp only [show (6 : Nat) + 2 = 8 from rfl, show (8 : Nat) + 2 = 10 from rfl, show (10 : Nat) + 1 = 11 from rfl, show (11 : Nat) + 2 = 13 from rfl] at h11 hle ⊢
 have rw_ := twoM_range hf 6
 have rh := twoM_range hf 8
 have rf := bget hf 10
 obtain ⟨W, eW⟩ : ∃ n : Nat, twoM b 6 = n := ⟨(twoM b 6).toNat, by omega⟩
 obtain ⟨H, eH⟩ : ∃ n : Nat, twoM b 8 = n := ⟨(twoM b 8).toNat, by omega⟩
 obtain ⟨f, ef⟩ : ∃ n : Nat, b.getD 10 0 = n := ⟨(b.getD 10 0).toNat, by omega⟩
 rw [eW, eH, ef] at hH
 rw [eW] at rw_
 rw [eH] at rh
 rw [ef] at rf
 rw [eW, eH, ef]
 refine brB_i (fun hz => ⟨⟨_, _, rfl⟩, badQ w11 (hdH fun hh => ?_) hQ11⟩) fun hz => ?_
 ·have h1 := (hH.1 hh).2.2.1
  have h2 := (hH.1 hh).2.2.2.1
  simp only [Bool.or_eq_true, decide_eq_true_eq] at hz
  omega
 have hz : 1 ≤ W ∧ 1 ≤ H := by simp only [Bool.or_eq_false_iff, decide_eq_false_iff_not] at hz; omega
 rw [and128 f (by omega)]
 refine ⟨fun vs u => ∃ (pq : Option Addr) (qc : Nat) (SQ : Nat → Prop), vs = [.slice pq (if (128 : Int) ≤ (f : Int) then palU b 13 (palN f) else []).length qc] ∧ headOk b = true ∧ Q u ∧ w3.heap.size ≤ u.heap.size ∧ GAt u w.heap.size k5 b (if (128 : Int) ≤ (f : Int) then 13 + 3 * palN f else 13) ∧
   OwnS SQ u pq (if (128 : Int) ≤ (f : Int) then palU b 13 (palN f) else []).length qc 4 (cos (if (128 : Int) ≤ (f : Int) then palU b 13 (palN f) else [])) ∧ (∀ i, SQ i → w3.heap.size ≤ i ∧ i < u.heap.size), ?_, fun p9 k20 k21 w15 hI => ?_⟩
 ·have hs11' : w3.heap.size ≤ w11.heap.size := hQ11.2.2.2
  refine brB_i (fun h128 => ?_) fun h128 => ?_
  ·have h128 := of_decide_eq_true h128
   rw [if_pos (show (128 : Int) ≤ (f : Int) by omega), if_pos (show (128 : Int) ≤ (f : Int) by omega)]
   refine gpal_spec h11 (by omega) (by omega) (fun hle2 p c w13 hc13 h13 ho13 => .inl ⟨_, _, _, rfl, p, c, fun i => w11.heap.size ≤ i ∧ i < w13.heap.size, by rw [palU_len], hH.2 ⟨hle, hsig, by omega, by omega, .inr hle2⟩, qs hQ11 hc13, by have := hc13.size; omega, h13, by rw [palU_len]; exact ho13.mono fun i hi hl => ⟨hi, hl⟩, fun i hi => ⟨by omega, hi.2⟩⟩) fun hlt w13 hE13 => .inr ⟨_, rfl, badQ w13 (hdH fun hh => ?_) (qe hQ11 hE13)⟩
   have := (hH.1 hh).2.2.2.2
   omega
  ·have h128 := of_decide_eq_false h128
   rw [if_neg (show ¬ (128 : Int) ≤ (f : Int) by omega), if_neg (show ¬ (128 : Int) ≤ (f : Int) by omega)]
   exact ⟨none, 0, fun _ => False, rfl, hH.2 ⟨hle, hsig, by omega, by omega, .inl (by omega)⟩, hQ11, hs11', h11, OwnS.nil _ _ _ _, fun i hi => hi.elim⟩
 obtain ⟨pq, qc, SQ, hv, hhead, hQ15, s15, h15, hq15, hSQ⟩ := hI
 have hpl : (if (128 : Int) ≤ (f : Int) then palU b 13 (palN f) else []).length ≤ 256 := by
  split
  ·rw [palU_len]; exact (palN_range _).2
  ·simp
 have hdM : decR b most = (if (W : Int) > 4096 ∨ (H : Int) > 4096 ∨ (W : Int) * H > most ∨ (W : Int) * H > 65536 then (0, 0, [], 11)
   else match stepsF b W H (if (128 : Int) ≤ (f : Int) then palU b 13 (palN f) else []) (b.length + 1) (if (128 : Int) ≤ (f : Int) then 13 + 3 * palN f else 13) (-1) with
    | none => (0, 0, [], 9)
    | some px => ((W : Int), (H : Int), px, 0) : Int × Int × List Int × Int) := by
  unfold decR
  rw [if_neg hbig, if_neg (by rw [hhead]; exact Bool.noConfusion), eW, eH, ef]
  rfl
 generalize (if (128 : Int) ≤ (f : Int) then palU b 13 (palN f) else []) = pal at *
 generalize (if (128 : Int) ≤ (f : Int) then 13 + 3 * palN f else 13) = k0 at *
 have hv := hv.symm
 simp only [List.cons.injEq, Value.slice.injEq, and_true] at hv
 obtain ⟨rfl, rfl, rfl⟩ := hv
 obtain ⟨hE15, D1, D2, _⟩ := id hQ15
 have hWH65 : W * H ≤ 65535 * 65535 := Nat.mul_le_mul (by omega) (by omega)
 have eWH : ((W : Nat) : Int) * (H : Nat) = ((W * H : Nat) : Int) := by rw [Int.natCast_mul]
 rw [eWH] at hdM ⊢
 rw [w64 (x := ((W * H : Nat) : Int)) (by omega) (by omega)]
 refine brB_i (fun hgr => ?_) fun hgr => ?_
 ·have hgr : (W : Int) > 4096 ∨ (H : Int) > 4096 ∨ ((W * H : Nat) : Int) > most ∨ ((W * H : Nat) : Int) > 65536 := by
   simp only [Bool.or_eq_true, decide_eq_true_eq] at hgr; omega
  rw [if_pos hgr] at hdM
  rw [hdM] at hR
  obtain ⟨t1, t2, t3, t4⟩ := wr (i64 0) (i64 0) (.slice none 0 0) (i64 11) D1 D2
  exact ⟨⟨_, D1.cell (i := 0) rfl⟩, D1.frozen _, ⟨_, D1.cell (i := 1) rfl⟩, D1.frozen _, ⟨_, D1.cell (i := 2) rfl⟩, D1.frozen _, ⟨_, t3.cell (i := 0) rfl⟩, t3.frozen _, off_nilG ⟨⟨_, rfl⟩, _, _, _, _, _, t1.cell (i := 0) rfl, t1.cell (i := 1) rfl, t1.cell (i := 2) rfl, _, t2.cell (i := 0) rfl,
   hR none 0 _ (hE15.step t4 fun i hi => by omega) (OwnS.nil _ _ _ _)⟩⟩
 have hgr : ¬ ((W : Int) > 4096 ∨ (H : Int) > 4096 ∨ ((W * H : Nat) : Int) > most ∨ ((W * H : Nat) : Int) > 65536) := fun hx => by
  have : (decide (max (W : Int) H > 4096) || decide (((W * H : Nat) : Int) > min most 65536)) = true := by
   simp only [Bool.or_eq_true, decide_eq_true_eq]; omega
  rw [this] at hgr; cases hgr
 rw [if_neg hgr] at hdM
 have hWH : W * H ≤ 65536 ∧ W ≤ 4096 ∧ H ≤ 4096 := by omega
 have e4 : IntKind.i64.wrap (IntKind.i64.wrap (4 * (W : Int)) * (H : Nat)) = ((4 * (W * H) : Nat) : Int) := by
  rw [w64 (x := 4 * (W : Int)) (by omega) (by omega)]
  have : 4 * (W : Int) * (H : Nat) = ((4 * (W * H) : Nat) : Int) := by push_cast; exact Int.mul_assoc ..
  rw [this]; exact w64 (by omega) (by omega)
 rw [e4]
 refine ⟨by omega, by omega, by omega, by omega, fun k24 w17 hn17 => ?_⟩
 rw [Int.toNat_natCast] at hn17 ⊢
 have e24 := hn17.1
 have s24 := hn17.size
 have s17 := hn17.ext.size
 have C24 : Cs w17 k24 (px (List.replicate (4 * (W * H)) 0)) := by have := hn17.cs; rwa [mk0] at this
 have F1 := D1.ext hn17.ext
 have F2 := D2.ext hn17.ext
 refine ⟨⟨_, F1.cell (i := 0) rfl⟩, F1.frozen _, ⟨_, F1.cell (i := 1) rfl⟩, F1.frozen _, ⟨_, F1.cell (i := 2) rfl⟩, F1.frozen _, ?_⟩
 have c18 := Chg.setCells w17 ⟨k1, 0, none⟩ [i64 (W : Nat), i64 (H : Nat), .slice (some ⟨k24, 0, none⟩) (4 * (W * H)) (4 * (W * H))] 0
 have G1 : Cs _ k1 [i64 (W : Nat), i64 (H : Nat), .slice (some ⟨k24, 0, none⟩) (4 * (W * H)) (4 * (W * H))] := F1.set (off := 0) (us := [i64 (W : Nat), i64 (H : Nat), .slice (some ⟨k24, 0, none⟩) (4 * (W * H)) (4 * (W * H))]) (by simp)
 have G2 := F2.chg c18 (fun e => by have e : k2 = k1 := e; omega)
 have G24 := C24.chg c18 (fun e => by have e : k24 = k1 := e; omega)
 have h18 := (h15.ext hn17.ext).chg c18 (fun e => by have e : k5 = k1 := e; omega) fun i hi _ => by have hi : i = k1 := hi; omega
 have hE17 := hE15.trans hn17.ext
 have hE18 := hE17.step c18 fun i hi => by have hi : i = k1 := hi; omega
 have q18 := OwnS.chg (OwnS.chg (T := fun _ => False) hq15 hn17.ext.chg fun _ _ _ h => h) c18 fun i hi _ e => by have e : i = k1 := e; have := hSQ i hi; omega
 generalize hu18 : setCells w17 ⟨k1, 0, none⟩ [i64 (W : Nat), i64 (H : Nat), .slice (some ⟨k24, 0, none⟩) (4 * (W * H)) (4 * (W * H))] 0 = w18 at *
 have s18 := c18.size
 generalize hSM : stepsF b W H pal (b.length + 1) k0 (-1) = SM at hdM
 let QQ : World → Prop := fun u => Ext w u ∧ w18.heap.size ≤ u.heap.size ∧ Cs u k1 [i64 (W : Nat), i64 (H : Nat), .slice (some ⟨k24, 0, none⟩) (4 * (W * H)) (4 * (W * H))] ∧ Cs u k2 [i64 0] ∧ Cs u k24 (px (List.replicate (4 * (W * H)) 0)) ∧ OwnS SQ u pq pal.length qc 4 (cos pal)
 have qqs : ∀ {u u'}, QQ u → Chg (· = k5) u u' → QQ u' := fun hq hc => ⟨hq.1.step hc fun i hi => by have hi : i = k5 := hi; omega, Nat.le_trans hq.2.1 hc.size, hq.2.2.1.chg hc (by omega), hq.2.2.2.1.chg hc (by omega), hq.2.2.2.2.1.chg hc (by omega), OwnS.chg hq.2.2.2.2.2 hc fun i hi _ e => by have e : i = k5 := e; have := hSQ i hi; omega⟩
 have badM : SM = none → ∀ u, QQ u → _ := fun hn u hq => bad u (by rw [hdM, hn]) hq.1 hq.2.2.1 hq.2.2.2.1
 refine ⟨fun vs u => ∃ (clear : Int) (k f : Nat), vs = [i64 clear] ∧ GAt u w.heap.size k5 b k ∧ QQ u ∧ SM = stepsF b W H pal f k clear ∧ b.length < k + f,
  fun vs u => match u.cell? ⟨k5, 0, none⟩ with | some (.slice _ n _) => n | _ => 0, ⟨-1, k0, b.length + 1, rfl, h18, ⟨hE18, Nat.le_refl _, G1, G2, G24, q18⟩, hSM.symm, by omega⟩, fun n22 w19' hI => ?_⟩
 obtain ⟨clear, k, f0, hv, hG, hQ, hS, hf0⟩ := hI
 obtain rfl : n22 = clear := by simpa using hv
 have hle := hG.le
 obtain ⟨f', rfl⟩ : ∃ f', f0 = f' + 1 := ⟨f0 - 1, by omega⟩
 rw [stepsF] at hS
 refine gone_spec hG (fun hlt w19 hc19 h19 => .inl ⟨_, rfl, ?_⟩) fun hge => .inr ⟨_, rfl, badM (by rw [hS, if_pos hge]) w19' hQ⟩
 rw [if_neg (by omega)] at hS
 have hQ19 := qqs hQ hc19
 refine brB_i (fun h33 => ?_) fun h33 => ?_
 ·have h33 : b.getD k 0 = 33 := eq_of_beq h33
  rw [if_pos h33] at hS
  refine gext_spec h19 (fun c e w20 hX hc20 h20 => .inl ⟨_, rfl, ⟨c, e, f', rfl, h20, qqs hQ19 hc20, ?_, ?_⟩, ?_⟩) fun w20 hX hc20 => .inr ⟨_, rfl, badM (by rw [hS, hX]) w20 (qqs hQ19 hc20)⟩
  ·rw [hS, hX]
  ·have : k + 1 < e := by
    unfold extM at hX
    split at hX
    ·cases hX
    split at hX
    ·cases hX
    rename_i l e' hB
    have := (blkF_ok hf (show blkF b (b.length + 1) (k + 1 + 1) = some (l, e') from hB)).1
    split at hX
    ·cases hX; omega
    split at hX
    ·cases hX
    ·cases hX; omega
   omega
  ·have hlt2 : k + 1 < e ∧ e ≤ b.length := by
    unfold extM at hX
    split at hX
    ·cases hX
    split at hX
    ·cases hX
    rename_i l e' hB
    have := blkF_ok hf (show blkF b (b.length + 1) (k + 1 + 1) = some (l, e') from hB)
    split at hX
    ·cases hX; omega
    split at hX
    ·cases hX
    ·cases hX; omega
   obtain ⟨p5, c5, g1, _, _⟩ := h20.obj
   obtain ⟨p2, c2, g2, _, _⟩ := hG.obj
   have x1 := g1.cell (i := 0) rfl
   have x2 := g2.cell (i := 0) rfl
   simp only [x1, x2]
   omega
 have h33 : ¬ b.getD k 0 = 33 := fun e => by rw [e] at h33; cases h33
 rw [if_neg h33] at hS
 refine brB_i (fun h44 => ?_) fun h44 => ?_
 rotate_left
 ·have h44 : ¬ b.getD k 0 = 44 := fun e => by rw [e] at h44; cases h44
  rw [if_neg h44] at hS
  exact ⟨⟨_, _, rfl⟩, badM hS w19 hQ19⟩
 have h44 : b.getD k 0 = 44 := eq_of_beq h44
 rw [if_pos h44] at hS
 obtain ⟨qE, qz, q1, q2, q24, qq⟩ := id hQ19
 refine ⟨_, _, _, _, _, q1.cell (i := 0) rfl, q1.cell (i := 1) rfl, q1.cell (i := 2) rfl, ?_⟩
 have chgR : ∀ {u : World}, Chg (fun i => i = k5 ∨ i = k24) w19 u → Ext w u ∧ Cs u k1 [i64 (W : Nat), i64 (H : Nat), .slice (some ⟨k24, 0, none⟩) (4 * (W * H)) (4 * (W * H))] ∧ Cs u k2 [i64 0] := fun hc =>
  ⟨qE.step hc fun i hi => by rcases hi with e | e <;> omega, q1.chg hc fun hx => by rcases hx with e | e <;> omega, q2.chg hc fun hx => by rcases hx with e | e <;> omega⟩
 refine gpic_spec (xs := List.replicate (4 * (W * H)) 0) h19 (by omega) q24 (by simp) (by omega) (by omega) (by omega) (by omega) (by omega) qq hpl (fun i hi => by have := hSQ i hi; exact ⟨by omega, by omega, by omega, by omega⟩) (fun xs' w22 hX hc22 h22 hxl => .inl ⟨rfl, ?_⟩) fun w22 hX hc22 => .inr ⟨_, rfl, ?_⟩
 ·obtain ⟨g0, g1, g2⟩ := chgR hc22
  have hdO : decR b most = ((W : Int), (H : Int), xs', 0) := by rw [hdM, hS, hX]
  obtain ⟨t1, t2, t3, t4⟩ := wr (i64 (W : Nat)) (i64 (H : Nat)) (.slice (some ⟨k24, 0, none⟩) (4 * (W * H)) (4 * (W * H))) (i64 0) g1 g2
  refine ⟨_, _, _, _, _, g1.cell (i := 0) rfl, g1.cell (i := 1) rfl, g1.cell (i := 2) rfl, ⟨_, g1.cell (i := 0) rfl⟩, g1.frozen _, ⟨_, g1.cell (i := 1) rfl⟩, g1.frozen _, ⟨_, g1.cell (i := 2) rfl⟩, g1.frozen _, ⟨_, t3.cell (i := 0) rfl⟩, t3.frozen _, off_nilG ⟨⟨_, rfl⟩, _, _, _, _, _, t1.cell (i := 0) rfl, t1.cell (i := 1) rfl, t1.cell (i := 2) rfl, _, t2.cell (i := 0) rfl, ?_⟩⟩
  rw [hdO] at hR
  rw [List.length_replicate] at hxl
  have hcs := h22.chg t4 fun hx => by rcases hx with e | e <;> omega
  have := hR (some ⟨k24, 0, none⟩) (4 * (W * H)) _ (g0.step t4 fun i hi => by rcases hi with e | e <;> omega) (by
   show OwnS _ _ _ xs'.length _ _ (px xs')
   rw [hxl]
   exact ⟨by rw [px_length, hxl, Nat.mul_one], Nat.le_refl _, .inr ⟨k24, [], by show w.heap.size ≤ k24; omega, rfl, by rw [px_length, hxl]; simp, by rw [List.append_nil]; exact hcs⟩⟩)
  simp only [hxl] at this
  exact this
 ·obtain ⟨g0, g1, g2⟩ := chgR hc22
  exact bad w22 (by rw [hdM, hS, hX]) g0 g1 g2
end Go.Proofs.YtiiaihiliimcoaaGreat
namespace Go.Proofs.YtiiaihiliimcoaaGreat
open Go Go.Vc Go.RowKit Go.Qn
set_option maxRecDepth 100000
set_option maxHeartbeats 4000000
section
variable {N : Nat} {w : World} {base : Option Addr} {len cap k : Nat} {b : List Int} {R : Ending → World → Prop}
theorem Sl.byte (h : Sl N w base (bytes b)) (hl : len = b.length) {i : Int} {j : Nat} (hi : i = j) (hj : j < b.length) {F : Addr → Prop} (hF : ∀ a, w.cell? a = some (u8 (b.getD j 0)) → F a) : idx base len i 1 F := by
 subst hi
 exact h.get (by omega) (by rw [bytes_length]; omega) (by rw [Int.toNat_natCast]; exact bytes_get hj) hF
theorem rtwo_spec (h : Sl N w base (bytes b)) (hl : len = b.length) (hf : Bs b) (hsz : len ≤ 2 ^ 40) (hk : k + 2 ≤ len) (hR : R (.returned (i64 (twoM b k))) w.drew) : Calls P F.ref15_two #[.slice base len cap, i64 (k : Nat)] w R := by
 refine calls_ref15_two _ _ _ _ _ _ ?_
 have hx := bget hf k
 have hy := bget hf (k + 1)
 unfold vc_ref15_two
 rw [w64 (x := (len : Int) - 2) (by omega) (by omega), wrap_succ (X := k) (by omega)]
 refine brB_f (decide_eq_false (by omega)) ?_
 refine Sl.byte h.drew hl rfl (by omega) fun a ha => ⟨_, ha, ?_⟩
 refine Sl.byte h.drew hl rfl (by omega) fun a ha => ⟨_, ha, ?_⟩
 rw [w64 (x := b.getD k 0) (by omega) (by omega), w64 (x := b.getD (k + 1) 0) (by omega) (by omega), w64 (x := 256 * b.getD (k + 1) 0) (by omega) (by omega), w64 (by omega) (by omega)]
 exact hR
theorem shl2 : ∀ n, n < 8 → shiftZ .shl .i64 2 ((n : Nat) : Int) = ((2 * 2 ^ n : Nat) : Int) := by decide +kernel
theorem rpal_spec {f : Nat} (h : Sl N w base (bytes b)) (hl : len = b.length) (hf : Bs b) (hsz : len ≤ 2 ^ 40) (hk : k ≤ 2 ^ 40) (hf2 : f < 256)
  (hok : k + 3 * palN f ≤ len → ∀ p c w', Ext w w' → OwnS (fun i => w.heap.size ≤ i) w' p (palN f) c 4 (cos (palU b k (palN f))) → R (.returned (.tuple #[.slice p (palN f) c, i64 ((k + 3 * palN f : Nat) : Int)])) w')
  (herr : len < k + 3 * palN f → R (.returned (.tuple #[.slice none 0 0, i64 (-1)])) w) : Calls P F.ref15_palette #[.slice base len cap, i64 (k : Nat), u8 (f : Nat)] w R := by
 refine calls_ref15_palette _ _ _ _ _ _ _ ?_
 have hn := palN_range (f : Nat)
 have e1 : IntKind.u64.wrap (divZ .rem .u8 ((f : Nat) : Int) 8) = ((f % 8 : Nat) : Int) := by
  simp only [divZ]
  rw [Int.tmod_eq_emod_of_nonneg (by omega), wu64 (by omega) (by omega)]; omega
 have e2 : shiftZ .shl .i64 2 ((f % 8 : Nat) : Int) = ((palN f : Nat) : Int) := by
  rw [shl2 _ (by omega)]
  unfold palN
  rw [show (((f : Nat) : Int) % 8).toNat = f % 8 by omega]
 unfold vc_ref15_palette
 rw [e1, e2]
 generalize palN f = n at *
 rw [w64 (x := 3 * ((n : Nat) : Int)) (by omega) (by omega), w64 (x := (len : Int) - 3 * (n : Nat)) (by omega) (by omega)]
 refine ⟨by omega, brB_i (fun hgt => herr (by have := of_decide_eq_true hgt; omega)) fun hle => ?_⟩
 have hle : k + 3 * n ≤ len := by have := of_decide_eq_false hle; omega
 refine ⟨fun vs u => ∃ (i : Nat) (p : Option Addr) (c : Nat), vs = [.slice p i c, i64 (i : Nat)] ∧ i ≤ n ∧ Ext w u ∧ OwnS (fun j => w.heap.size ≤ j) u p i c 4 (cos (palU b k i)), fun vs _ => match vs with | [_, .int _ i] => (n - i).toNat | _ => 0, ⟨0, none, 0, rfl, by omega, Ext.refl w, OwnS.nil _ _ _ _⟩, fun p1 k1 k2 n1 w1 hI => ?_⟩
 obtain ⟨i, p, c, hv, hi, hE1, hO1⟩ := hI
 simp only [List.cons.injEq, Value.slice.injEq, Value.int.injEq, true_and, and_true] at hv
 obtain ⟨⟨rfl, rfl, rfl⟩, rfl⟩ := hv
 have s1 := hE1.size
 refine brB_i (fun hlt => ?_) fun hge => ?_
 ·have hlt : k1 < n := by have := of_decide_eq_true hlt; omega
  have x0 := bget hf (k + 3 * k1)
  have x1 := bget hf (k + 3 * k1 + 1)
  have x2 := bget hf (k + 3 * k1 + 2)
  rw [w64 (x := 3 * ((k1 : Nat) : Int)) (by omega) (by omega), w64 (x := (k : Int) + 3 * (k1 : Nat)) (by omega) (by omega), w64 (x := (k : Int) + 3 * (k1 : Nat) + 1) (by omega) (by omega), w64 (x := (k : Int) + 3 * (k1 : Nat) + 2) (by omega) (by omega)]
  refine Sl.byte (h.ext hE1).drew hl (j := k + 3 * k1) (by omega) (by omega) fun a ha => ⟨_, ha, ?_⟩
  refine Sl.byte (h.ext hE1).drew hl (j := k + 3 * k1 + 1) (by omega) (by omega) fun a ha => ⟨_, ha, ?_⟩
  refine Sl.byte (h.ext hE1).drew hl (j := k + 3 * k1 + 2) (by omega) (by omega) fun a ha => ⟨_, ha, fun k3 hk3 w2 hL2 => ?_⟩
  rw [wid16 x0.1 x0.2, wid16 x1.1 x1.2, wid16 x2.1 x2.2]
  have hO1' : OwnS (fun j => w.heap.size ≤ j) w1.drew p1 k1 k2 4 (cos (palU b k k1)) := hO1
  have hk3' : w1.heap.size ≤ k3 := hk3
  refine OwnS.grow (fs := co (colB b k k1)) hO1' hL2 (fun j hj => .inl (by simp at hj; omega)) (fun j hj => by have hj : w1.heap.size ≤ j := hj; omega) (by simp [blocks]) rfl rfl (by omega) (by omega) fun p' c' w6 hO6 hc6 => ?_
  have hE6 : Ext w w6 := hE1.drew.step hc6 fun j hj => by simp at hj; omega
  refine ⟨⟨k1 + 1, p', c', by rw [wrap_succ (by omega)], hlt, hE6, ?_⟩, by rw [wrap_succ (by omega)]; show ((n : Int) - ((k1 + 1 : Nat) : Int)).toNat < ((n : Int) - (k1 : Nat)).toNat; omega⟩
  rw [palU_succ, cos_append, cos_one]
  exact OwnS.mono hO6 fun j hj _ => hj.1
 ·have : k1 = n := by have := of_decide_eq_false hge; omega
  subst this
  rw [w64 (x := (k : Int) + 3 * (k1 : Nat)) (by omega) (by omega), show (k : Int) + 3 * (k1 : Nat) = ((k + 3 * k1 : Nat) : Int) by omega]
  exact hok hle p1 k2 w1 hE1 hO1
theorem rblk_spec (h : Sl N w base (bytes b)) (hl : len = b.length) (hcp : len ≤ cap) (hf : Bs b) (hsz : len ≤ 2 ^ 40) (hk : k ≤ 2 ^ 40)
  (hok : ∀ l e p c w', blkM b k = some (l, e) → Ext w w' → OwnS (fun i => w.heap.size ≤ i) w' p l.flatten.length c 1 (bytes l.flatten) → R (.returned (.tuple #[.slice p l.flatten.length c, i64 (b.getD k 0), i64 (e : Nat)])) w')
  (herr : blkM b k = none → ∀ w', Ext w w' → R (.returned (.tuple #[.slice none 0 0, i64 0, i64 (-1)])) w') : Calls P F.ref15_blocks #[.slice base len cap, i64 (k : Nat)] w R := by
 refine calls_ref15_blocks _ _ _ _ _ _ ?_
 subst hl
 have hxk := bget hf k
 refine ⟨fun vs u => ∃ (j : Nat) (d : List (List Int)) (p : Option Addr) (c : Nat) (t : Int), vs = [i64 (j : Nat), .slice p d.flatten.length c, i64 t] ∧ (t < 0 ∧ j = k ∧ d = [] ∨ t = b.getD k 0) ∧ blkM b k = restM b j d ∧ d.flatten.length ≤ j ∧ (j ≤ b.length ∨ j = k) ∧ Ext w u ∧ OwnS (fun i => w.heap.size ≤ i) u p d.flatten.length c 1 (bytes d.flatten),
  fun vs _ => match vs with | [.int _ j, _, _] => (b.length - j).toNat | _ => 0, ⟨k, [], none, 0, -1, rfl, .inl ⟨by omega, rfl, rfl⟩, (restM_nil b k).symm, by simp, .inr rfl, Ext.refl w, OwnS.nil _ _ _ _⟩, fun n1 p1 k1 k2 n2 w1 hI => ?_⟩
 obtain ⟨j, d, p, c, t, hv, ht, hM, hd, hjb, hE1, hO1⟩ := hI
 have hv := hv.symm
 simp only [List.cons.injEq, Value.slice.injEq, Value.int.injEq, true_and, and_true] at hv
 obtain ⟨rfl, ⟨rfl, rfl, rfl⟩, rfl⟩ := hv
 have s1 := hE1.size
 have hstep := blkM_step b j
 refine brB_i (fun hlt => ?_) fun hge => ?_
 rotate_left
 ·have hge : b.length ≤ j := by have := of_decide_eq_false hge; omega
  rw [if_pos hge] at hstep
  exact herr (by rw [hM, restM, hstep]; rfl) w1 hE1
 have hlt : j < b.length := by have := of_decide_eq_true hlt; omega
 rw [if_neg (by omega)] at hstep
 have hx := bget hf j
 refine Sl.byte (h.ext hE1) rfl rfl hlt fun a ha => ⟨_, ha, ?_⟩
 rw [w64 (x := b.getD j 0) (by omega) (by omega)]
 refine ⟨fun vs u => vs = [i64 (b.getD k 0)] ∧ u = w1, ?_, fun n4 w2 hI => ?_⟩
 ·refine brB_i (fun hneg => ?_) fun hpos => ?_
  ·have hneg := of_decide_eq_true hneg
   rcases ht with ⟨_, e, _⟩ | e
   ·subst e; exact ⟨rfl, rfl⟩
   ·omega
  ·have hpos := of_decide_eq_false hpos
   rcases ht with ⟨e, _⟩ | e
   ·omega
   ·rw [e]; exact ⟨rfl, rfl⟩
 obtain ⟨hv, rfl⟩ := hI
 obtain rfl : n4 = b.getD k 0 := by simpa using hv
 refine brB_i (fun hz => ?_) fun hz => ?_
 ·have hz : b.getD j 0 = 0 := eq_of_beq hz
  rw [if_pos hz] at hstep
  rw [wrap_succ (by omega)]
  exact hok d (j + 1) p c w2 (by rw [hM, restM, hstep]; simp) hE1 hO1
 have hz : b.getD j 0 ≠ 0 := fun e => by rw [e] at hz; cases hz
 rw [if_neg hz] at hstep
 obtain ⟨n, en⟩ : ∃ n : Nat, b.getD j 0 = n := ⟨(b.getD j 0).toNat, by omega⟩
 rw [en] at hstep hx hz ⊢
 rw [Int.toNat_natCast] at hstep
 rw [wrap_succ (X := j) (by omega), w64 (x := (b.length : Int) - ((j + 1 : Nat) : Int)) (by omega) (by omega)]
 refine brB_i (fun hgt => ?_) fun hle => ?_
 ·have hgt : b.length < j + 1 + n := by have := of_decide_eq_true hgt; omega
  rw [if_pos hgt] at hstep
  exact herr (by rw [hM, restM, hstep]; rfl) w2 hE1
 have hle : j + 1 + n ≤ b.length := by have := of_decide_eq_false hle; omega
 rw [if_neg (by omega)] at hstep
 rw [w64 (x := ((j + 1 : Nat) : Int) + (n : Nat)) (by omega) (by omega)]
 refine ⟨by omega, by omega, by omega, ?_⟩
 rw [Int.toNat_natCast, show (((j + 1 : Nat) : Int) + (n : Nat)).toNat - (j + 1) = n by omega]
 have hpl : (part b (j + 1) n).length = n := part_length hle
 refine ⟨bytes (part b (j + 1) n), by rw [bytes_length, hpl, Nat.mul_one], bytes_oneAll _, ((h.ext hE1).part (by rw [bytes_length]; exact hcp) (part_prefix _ _ _)).cells, ?_⟩
 refine OwnS.app hO1 (by simp [blocks]) rfl (by rw [bytes_length, hpl, Nat.mul_one]) (by omega) (by omega) fun p3 c3 w3 hO3 hc3 => ?_
 refine ⟨⟨j + 1 + n, d ++ [part b (j + 1) n], p3, c3, b.getD k 0, by rw [flat_snoc, hpl, show ((j + 1 : Nat) : Int) + (n : Nat) = ((j + 1 + n : Nat) : Int) by omega], .inr rfl, ?_, by rw [flat_snoc, hpl]; omega, .inl hle, hE1.step hc3 fun i hi => hi, ?_⟩, ?_⟩
 ·rw [hM, restM, restM, hstep]
  cases blkM b (j + 1 + n) with
  | none => rfl
  | some r => simp
 ·rw [flat_snoc, hpl, List.flatten_append, show [part b (j + 1) n].flatten = part b (j + 1) n by simp, bytes_append]
  exact OwnS.mono hO3 fun i hi _ => hi.elim id fun e => by omega
 ·show ((b.length : Int) - (((j + 1 : Nat) : Int) + (n : Nat))).toNat < ((b.length : Int) - (j : Nat)).toNat
  omega
def scrP (b : List Int) : List Co := if (128 : Int) ≤ b.getD 10 0 then palU b 13 (palN (b.getD 10 0)) else []
def scrK (b : List Int) : Nat := if (128 : Int) ≤ b.getD 10 0 then 13 + 3 * palN (b.getD 10 0) else 13
theorem headOk_iff (b : List Int) : headOk b = true ↔ 13 ≤ b.length ∧ (b.take 6 = sig87 ∨ b.take 6 = sig89) ∧ 1 ≤ twoM b 6 ∧ 1 ≤ twoM b 8 ∧ (b.getD 10 0 < 128 ∨ 13 + 3 * palN (b.getD 10 0) ≤ b.length) := by
 unfold headOk
 simp only [Bool.and_eq_true, Bool.or_eq_true, decide_eq_true_eq]
 exact ⟨fun ⟨⟨⟨⟨a, b⟩, c⟩, d⟩, e⟩ => ⟨a, b, c, d, e⟩, fun ⟨a, b, c, d, e⟩ => ⟨⟨⟨⟨a, b⟩, c⟩, d⟩, e⟩⟩
theorem rhead_spec (h : Sl N w base (bytes b)) (hl : len = b.length) (hcp : len ≤ cap) (hf : Bs b) (hsz : len ≤ 2 ^ 40)
  (hok : headOk b = true → ∀ p c w', Ext w w' → OwnS (fun i => w.heap.size ≤ i) w' p (scrP b).length c 4 (cos (scrP b)) → R (.returned (.tuple #[.agg #[i64 (scrK b : Nat), i64 (twoM b 6), i64 (twoM b 8), .slice p (scrP b).length c, i64 (-1)], .bool true])) w')
  (herr : headOk b = false → ∀ n1 n2 n3 p k2 k3 n4 w', Ext w w' → R (.returned (.tuple #[.agg #[i64 n1, i64 n2, i64 n3, .slice p k2 k3, i64 n4], .bool false])) w') : Calls P F.ref15_head #[.slice base len cap] w R := by
 refine calls_ref15_head _ _ _ _ _ ?_
 intro k1 hk1 k2 hk2
 have hno : ¬ headOk b = true → headOk b = false := fun h => by simpa using h
 have r6 := twoM_range hf 6
 have r8 := twoM_range hf 8
 have r10 := bget hf 10
 have nl : ∀ {u u' : World}, Ext w u → Locl [k2, k1] u u' → Ext w u' := fun hE hL => hE.step hL.chg (by simp; omega)
 refine ⟨fun vs u => vs = [i64 0, i64 0, i64 0, .slice none 0 0, i64 0] ∧ Ext w u ∧ k1 < u.heap.size ∧ k2 < u.heap.size ∧ 13 ≤ len ∧ (b.take 6 = sig87 ∨ b.take 6 = sig89), ?_, fun n1 n2 n3 p3 k7 k8 n4 w4 hI => ?_⟩
 ·refine brB_i (fun hlt w1 hL1 => ?_) fun hge => ?_
  ·have hlt := of_decide_eq_true hlt
   exact herr (hno fun hh => by have := ((headOk_iff b).1 hh).1; omega) _ _ _ _ _ _ _ w1 (nl (Ext.refl w) hL1)
  have hge : 13 ≤ len := by have := of_decide_eq_false hge; omega
  refine ⟨by omega, by omega, by omega, fun w2 hL2 => ?_⟩
  rw [show (0 : Int).toNat = 0 from rfl, slcBase0, show (6 : Int).toNat = 6 from rfl, Nat.sub_zero]
  have hE2 := nl (Ext.refl w) hL2
  have t1 := hL2.there k1 (by simp)
  have t2 := hL2.there k2 (by simp)
  have hS6 : Sl N w2 base (bytes (b.take 6)) := (h.ext hE2).pre (by rw [bytes, bytes, List.map_take]; exact List.take_prefix _ _)
  have hb6 : Bs (b.take 6) := fun x hx => hf x (List.mem_of_mem_take hx)
  have hl6 : (b.take 6).length = 6 := by rw [List.length_take]; omega
  refine ⟨b.take 6, hl6, hS6.cells, ?_⟩
  rw [bstr87 hb6]
  refine brB_i (fun h87 => ?_) fun h87 => ⟨rfl, hE2, t1, t2, hge, .inl (by simpa using h87)⟩
  refine ⟨by omega, by omega, by omega, b.take 6, hl6, by rw [show (0 : Int).toNat = 0 from rfl, slcBase0]; exact hS6.cells, ?_⟩
  rw [bstr89 hb6]
  refine brB_i (fun h89 w3 hL3 => herr (hno fun hh => ?_) _ _ _ _ _ _ _ w3 (nl hE2 hL3)) fun h89 => ⟨rfl, hE2, t1, t2, hge, .inr (by simpa using h89)⟩
  rcases ((headOk_iff b).1 hh).2.1 with e | e
  ·rw [e] at h87; simp at h87
  ·rw [e] at h89; simp at h89
 obtain ⟨_, hE4, t1, t2, hge, hsig⟩ := hI
 refine rtwo_spec (k := 6) (h.ext hE4) hl hf hsz (by omega) ⟨_, rfl, (Ext.refl w4).drew.keep _, ?_⟩
 have hE4' := hE4.drew
 refine rtwo_spec (k := 8) (h.ext hE4') hl hf hsz (by omega) ⟨_, rfl, (Ext.refl _).drew.keep _, ?_⟩
 have hE5 := hE4'.drew
 refine brB_i (fun hz w7 hL7 => herr (hno fun hh => ?_) _ _ _ _ _ _ _ w7 (nl hE5 hL7)) fun hz => ?_
 ·have a := ((headOk_iff b).1 hh).2.2.1
  have c := ((headOk_iff b).1 hh).2.2.2.1
  simp only [Bool.or_eq_true, decide_eq_true_eq] at hz; omega
 have hz : 1 ≤ twoM b 6 ∧ 1 ≤ twoM b 8 := by simp only [Bool.or_eq_false_iff, decide_eq_false_iff_not] at hz; omega
 obtain ⟨f, ef⟩ : ∃ n : Nat, b.getD 10 0 = n := ⟨(b.getD 10 0).toNat, by omega⟩
 have hg10 : (bytes b)[10]? = some (u8 (b.getD 10 0)) := bytes_get (by omega)
 obtain ⟨a, ea, _, _⟩ := h 10 _ hg10
 have hc : ∀ {u}, Ext w u → u.cell? (a.add 10) = some (u8 (b.getD 10 0)) := fun hE => by
  obtain ⟨a', ea', _, hc'⟩ := (h.ext hE) 10 _ hg10
  rw [ea] at ea'
  cases ea'
  exact hc'
 refine idx_i (by omega) (by omega) ea fun w8 hL8 => ?_
 have hE8 := nl hE5 hL8
 refine ⟨_, hc hE8, ?_⟩
 have hgt := headOk_iff b
 have e1 : scrP b = if (128 : Int) ≤ (f : Int) then palU b 13 (palN f) else [] := by unfold scrP; rw [ef]
 have e2 : scrK b = if (128 : Int) ≤ (f : Int) then 13 + 3 * palN f else 13 := by unfold scrK; rw [ef]
 rw [ef] at hgt hc r10 ⊢
 refine brB_i (fun h128 => ?_) fun h128 w11 hL11 => ?_
 ·have h128 := of_decide_eq_true h128
  rw [if_pos (by omega)] at e1 e2
  refine idx_i (by omega) (by omega) ea ⟨_, hc hE8, ?_⟩
  refine rpal_spec (k := 13) (f := f) (h.ext hE8) hl hf hsz (by omega) (by omega) (fun hle p c w9 hE9 hO9 => ⟨_, _, _, _, rfl, hE9.keep _, fun w10 hL10 => ?_⟩) fun hlt => ⟨_, _, _, _, rfl, (Ext.refl w8).keep _, fun w10 hL10 => ?_⟩
  ·have := hok (hgt.2 ⟨by omega, hsig, hz.1, hz.2, .inr (by omega)⟩) p c w10 (nl (hE8.trans hE9) hL10) (by
    rw [e1, palU_len]
    have t1' := hL8.there k1 (by simp)
    have t2' := hL8.there k2 (by simp)
    exact OwnS.mono (OwnS.chg hO9 hL10.chg fun i hi _ hm => by simp at hm; omega) fun i hi _ => by have := hE8.size; omega)
   rw [e1, e2, palU_len] at this
   rw [decide_eq_true (by omega)]
   exact this
  ·rw [decide_eq_false (by omega)]
   exact herr (hno fun hh => by have := (hgt.1 hh).2.2.2.2; omega) _ _ _ _ _ _ _ w10 (nl hE8 hL10)
 ·have h128 := of_decide_eq_false h128
  rw [if_neg (by omega)] at e1 e2
  have := hok (hgt.2 ⟨by omega, hsig, hz.1, hz.2, .inl (by omega)⟩) none 0 w11 (nl hE8.drew hL11) (by rw [e1]; exact OwnS.nil _ _ _ _)
  rw [e1, e2] at this
  exact this
end
end Go.Proofs.YtiiaihiliimcoaaGreat
namespace Go.Proofs.YtiiaihiliimcoaaGreat
open Go Go.Vc Go.RowKit Go.Qn
set_option maxRecDepth 100000
set_option maxHeartbeats 4000000
section
variable {N : Nat} {w : World} {base : Option Addr} {len cap k : Nat} {b : List Int} {R : Ending → World → Prop}
theorem rput_spec {mb W x y n : Nat} {H : Int} {xs : List Int} {c : Co} (hm : Cs w mb (px xs)) (hn : n = xs.length) (h4 : 4 * (y * W + x) + 4 ≤ xs.length) (hsz : xs.length ≤ 2 ^ 30)
  (hR : ∀ w', Chg (fun i => i = mb ∨ w.heap.size ≤ i) w w' → Cs w' mb (px (setPx xs (y * W + x) c)) → R (.returned (.tuple #[])) w') :
  Calls P F.ref09_Put #[.agg #[i64 (W : Nat), i64 H, .slice (some ⟨mb, 0, none⟩) n n], i64 (x : Nat), i64 (y : Nat), .agg #[u16 c.1, u16 c.2.1, u16 c.2.2.1, u16 c.2.2.2]] w R := by
 refine calls_ref09_Put _ _ _ _ _ _ _ _ _ _ _ _ _ ?_
 have hmb := hm.lt
 intro k1 hk1 k2 hk2
 have e0 : ((y : Nat) : Int) * (W : Nat) = ((y * W : Nat) : Int) := by rw [Int.natCast_mul]
 rw [e0]
 have hyW : y * W ≤ 2 ^ 30 := by omega
 generalize hP : y * W = P0 at *
 rw [w64 (x := ((P0 : Nat) : Int)) (by omega) (by omega), w64 (x := ((P0 : Nat) : Int) + (x : Nat)) (by omega) (by omega), w64 (x := 4 * (((P0 : Nat) : Int) + (x : Nat))) (by omega) (by omega),
  w64 (x := 4 * (((P0 : Nat) : Int) + (x : Nat)) + 1) (by omega) (by omega), w64 (x := 4 * (((P0 : Nat) : Int) + (x : Nat)) + 2) (by omega) (by omega), w64 (x := 4 * (((P0 : Nat) : Int) + (x : Nat)) + 3) (by omega) (by omega)]
 generalize hq : P0 + x = q at *
 have eq4 : 4 * (((P0 : Nat) : Int) + (x : Nat)) = ((4 * q : Nat) : Int) := by omega
 rw [eq4]
 have ix : ∀ {j : Nat} {i : Int} {F : Addr → Prop}, i = ((4 * q + j : Nat) : Int) → j < 4 → F ⟨mb, 4 * q + j, none⟩ → idx (some ⟨mb, 0, none⟩) n i 1 F := fun {j i F} hi hj hF => by
  subst hi
  refine idx_i (by omega) (by omega) rfl ?_
  rw [loc_add, Nat.zero_add, Nat.mul_one, Int.toNat_natCast]; exact hF
 refine ix (j := 0) (by omega) (by omega) fun w1 hL1 => ?_
 have hnm : mb ∉ [k2, k1] := by simp; omega
 have hm1 := hm.locl hL1 hnm
 have st : ∀ {u : World} {vs : List Value} (j : Nat) (v : Value), Cs u mb vs → vs.length = xs.length → j < 4 → (∃ v1, u.cell? ⟨mb, 4 * q + j, none⟩ = some v1) ∧ u.frozen? ⟨mb, 4 * q + j, none⟩ = false ∧ Cs (setCells u ⟨mb, 4 * q + j, none⟩ [v] 0) mb (vs.set (4 * q + j) v) ∧ (vs.set (4 * q + j) v).length = xs.length ∧ Chg (· = mb) u (setCells u ⟨mb, 4 * q + j, none⟩ [v] 0) := fun {u vs} j v hc hl hj =>
  ⟨⟨_, hc.cell (List.getElem?_eq_getElem (by omega))⟩, hc.frozen _, hc.set1 (off := 4 * q + j) (v := v) (by omega), by rw [List.length_set, hl], (Chg.setCells u ⟨mb, 4 * q + j, none⟩ [v] 0 :)⟩
 obtain ⟨a1, a2, a3, a4, a5⟩ := st 0 (u16 c.1) hm1 (by rw [px_length]) (by omega)
 refine ⟨a1, a2, hnm, ix (j := 1) (by omega) (by omega) ?_⟩
 obtain ⟨b1, b2, b3, b4, b5⟩ := st 1 (u16 c.2.1) a3 a4 (by omega)
 refine ⟨b1, b2, hnm, ix (j := 2) (by omega) (by omega) ?_⟩
 obtain ⟨c1, c2, c3, c4, c5⟩ := st 2 (u16 c.2.2.1) b3 b4 (by omega)
 refine ⟨c1, c2, hnm, ix (j := 3) (by omega) (by omega) ?_⟩
 obtain ⟨d1, d2, d3, d4, d5⟩ := st 3 (u16 c.2.2.2) c3 c4 (by omega)
 refine ⟨d1, d2, hnm, hR _ ?_ ?_⟩
 ·have z1 : Chg (fun i => i = mb ∨ w.heap.size ≤ i) w w1 := hL1.chg.mono fun i hi _ => by simp at hi; omega
  exact (((z1.trans a5 fun i hi _ => .inl hi).trans b5 fun i hi _ => .inl hi).trans c5 fun i hi _ => .inl hi).trans d5 fun i hi _ => .inl hi
 ·have e : ((((px xs).set (4 * q + 0) (u16 c.1)).set (4 * q + 1) (u16 c.2.1)).set (4 * q + 2) (u16 c.2.2.1)).set (4 * q + 3) (u16 c.2.2.2) = px (setPx xs q c) := by
   refine List.ext_getElem? fun j => ?_
   have hl := setPx_len (c := c) h4
   rcases Nat.lt_or_ge j xs.length with hj | hj
   ·rw [px_get (by omega)]
    have hg : (setPx xs q c).getD j 0 = if j = 4 * q then c.1 else if j = 4 * q + 1 then c.2.1 else if j = 4 * q + 2 then c.2.2.1 else if j = 4 * q + 3 then c.2.2.2 else xs.getD j 0 := by
     unfold setPx
     rw [List.getD_eq_getElem?_getD]
     have htl : (xs.take (4 * q)).length = 4 * q := by rw [List.length_take]; omega
     rcases Nat.lt_or_ge j (4 * q) with h1 | h1
     ·rw [List.append_assoc, List.getElem?_append_left (by omega), List.getElem?_take_of_lt h1, if_neg (by omega), if_neg (by omega), if_neg (by omega), if_neg (by omega), List.getD_eq_getElem?_getD]
     rw [List.append_assoc, List.getElem?_append_right (by omega), htl]
     rcases Nat.lt_or_ge j (4 * q + 4) with h2 | h2
     ·obtain ⟨t, rfl⟩ : ∃ t, j = 4 * q + t := ⟨j - 4 * q, by omega⟩
      rw [Nat.add_sub_cancel_left]
      match t, h2 with
      | 0, _ => simp [coL]
      | 1, _ => simp [coL]
      | 2, _ => simp [coL]
      | 3, _ => simp [coL]
      | t + 4, h2 => omega
     ·rw [List.getElem?_append_right (by simp [coL]; omega), List.getElem?_drop, if_neg (by omega), if_neg (by omega), if_neg (by omega), if_neg (by omega), List.getD_eq_getElem?_getD]
      congr 2
      simp only [coL, List.length_cons, List.length_nil]; omega
    rw [hg]
    simp only [List.getElem?_set, List.length_set, px_length, Nat.add_zero]
    by_cases h3 : j = 4 * q + 3
    ·subst h3; simp; omega
    by_cases h2 : j = 4 * q + 2
    ·subst h2; simp; omega
    by_cases h1 : j = 4 * q + 1
    ·subst h1; simp; omega
    by_cases h0 : j = 4 * q
    ·subst h0; simp; omega
    rw [if_neg (by omega), if_neg (by omega), if_neg (by omega), if_neg (by omega), if_neg h0, if_neg h1, if_neg h2, if_neg h3, px_get hj]
   ·rw [List.getElem?_eq_none (by simp only [List.length_set, px_length]; omega), List.getElem?_eq_none (by rw [px_length]; omega)]
  rw [← e]
  exact d3
end
end Go.Proofs.YtiiaihiliimcoaaGreat
namespace Go.Proofs.YtiiaihiliimcoaaGreat
open Go Go.Vc Go.RowKit Go.Qn
set_option maxRecDepth 100000
set_option maxHeartbeats 4000000
section
variable {N : Nat} {w : World} {base : Option Addr} {len cap k : Nat} {b : List Int} {R : Ending → World → Prop}
theorem rpic_spec {W H : Nat} {pal : List Co} {clear : Int} {pp : Option Addr} {pc : Nat} {SP : Nat → Prop} (h : Sl N w base (bytes b)) (hl : len = b.length) (hcp : len ≤ cap) (hf : Bs b) (hsz : len ≤ 2 ^ 24) (hk : k ≤ len)
  (hW : W ≤ 4096) (hH : H ≤ 4096) (hWH : W * H ≤ 65536) (hp : OwnS SP w pp pal.length pc 4 (cos pal)) (hpl : pal.length ≤ 256)
  (hok : ∀ xs' p c w', picM b k W H pal clear (List.replicate (4 * (W * H)) 0) = some xs' → Ext w w' → OwnS (fun i => w.heap.size ≤ i) w' p xs'.length c 1 (px xs') → R (.returned (.tuple #[.agg #[i64 (W : Nat), i64 (H : Nat), .slice p xs'.length c], .bool true])) w')
  (herr : ∀ n1 n2 p k3 k4 w', picM b k W H pal clear (List.replicate (4 * (W * H)) 0) = none → Ext w w' → R (.returned (.tuple #[.agg #[i64 n1, i64 n2, .slice p k3 k4], .bool false])) w') :
  Calls P F.ref15_picture #[.slice base len cap, .agg #[i64 (k : Nat), i64 (W : Nat), i64 (H : Nat), .slice pp pal.length pc, i64 clear]] w R := by
 refine calls_ref15_picture _ _ _ _ _ _ _ _ _ _ _ _ ?_
 unfold picM at hok herr
 intro k1 hk1 k2 hk2 w1 hL1
 have hE1 : Ext w w1 := hL1.ext (by simp; omega)
 have t1 := hL1.there k1 (by simp)
 have t2 := hL1.there k2 (by simp)
 have s1 := hE1.size
 refine calls_ref09_Blank _ _ _ _ ?_
 intro kz hkz v1 hLz
 have e4 : IntKind.i64.wrap (IntKind.i64.wrap (4 * (W : Int)) * (H : Nat)) = ((4 * (W * H) : Nat) : Int) := by
  rw [w64 (x := 4 * (W : Int)) (by omega) (by omega)]
  have : 4 * (W : Int) * (H : Nat) = ((4 * (W * H) : Nat) : Int) := by push_cast; exact Int.mul_assoc ..
  rw [this]; exact w64 (by omega) (by omega)
 rw [e4]
 refine ⟨by omega, by omega, by omega, by omega, fun mb v2 hn2 v3 hLz3 => ?_⟩
 rw [Int.toNat_natCast] at hn2 ⊢
 have emb := hn2.1
 have smb := hn2.size
 have z1 := hLz.size
 have z3 := hLz3.size
 have hEz : Ext w1 v1 := hLz.ext (by simpa using hkz)
 have tz := hLz.there kz (by simp)
 have hE3z : Ext w1 v3 := (hEz.trans hn2.ext).step hLz3.chg (by simp; omega)
 have hM : Cs v3 mb (px (List.replicate (4 * (W * H)) 0)) := by
  have := hn2.cs
  rw [mk0] at this
  exact this.locl hLz3 (by simp; omega)
 refine ⟨_, _, _, _, _, rfl, hE3z.keep _, fun k5 hk5 => ?_⟩
 have hE2 := hE1.trans hE3z
 have s2 := hE3z.size
 have hmb2 := hM.lt
 have hkd : ∀ {i}, i ∈ [k5, k2, k1] → i = k5 ∨ i = k2 ∨ i = k1 := fun hi => by simpa using hi
 have kb : ∀ {i}, i ∈ [k5, k2, k1] → w.heap.size ≤ i ∧ i ≠ mb := fun hi => by
  have := hE2.size
  rcases hkd hi with rfl | rfl | rfl <;> omega
 let G : World → Prop := fun u => Chg (fun i => i ∈ [k5, k2, k1]) v3 u ∧ k5 < u.heap.size
 have gE : ∀ {u}, G u → Ext w u := fun hg => hE2.step hg.1 fun i hi => (kb hi).1
 have gl : ∀ {u u'}, G u → Locl [k5, k2, k1] u u' → G u' := fun hg hL => ⟨hg.1.trans hL.chg fun i hi _ => hi, hL.there k5 (by simp)⟩
 have ge : ∀ {u u'}, G u → Ext u u' → G u' := fun hg hE => ⟨hg.1.trans (hE.chg (S := fun _ => False)) fun i hi _ => hi.elim, by have := hE.size; have := hg.2; omega⟩
 have gf : ∀ {u'}, Locl [k5, k2, k1] v3 u' → G u' := fun hL => ⟨hL.chg, hL.there k5 (by simp)⟩
 rw [w64 (x := (len : Int) - (k : Nat)) (by omega) (by omega)]
 refine brB_i (fun h9 w3 hL3 => herr _ _ _ _ _ w3 (if_pos (by have := of_decide_eq_true h9; omega)) (gE (gf hL3))) fun h9 w4 hL4 => ?_
 have h9 : k + 9 ≤ len := by have := of_decide_eq_false h9; omega
 rw [if_neg (by omega)] at hok herr
 have g4 := gf hL4
 have ek2 : IntKind.i64.wrap (((k : Nat) : Int) + 2) = ((k + 2 : Nat) : Int) := by rw [w64 (by omega) (by omega)]; omega
 have ek4 : IntKind.i64.wrap (((k : Nat) : Int) + 4) = ((k + 4 : Nat) : Int) := by rw [w64 (by omega) (by omega)]; omega
 have ek6 : IntKind.i64.wrap (((k : Nat) : Int) + 6) = ((k + 6 : Nat) : Int) := by rw [w64 (by omega) (by omega)]; omega
 have ek8 : IntKind.i64.wrap (((k : Nat) : Int) + 8) = ((k + 8 : Nat) : Int) := by rw [w64 (by omega) (by omega)]; omega
 have ek9 : IntKind.i64.wrap (((k : Nat) : Int) + 9) = ((k + 9 : Nat) : Int) := by rw [w64 (by omega) (by omega)]; omega
 rw [ek2, ek4, ek6, ek8, ek9]
 refine rtwo_spec (k := k) (h.ext (gE g4)) hl hf (by omega) (by omega) ⟨_, rfl, (Ext.refl w4).drew.keep _, (Ext.refl w4).drew.keeps, ?_⟩
 have g5 := ge g4 (Ext.refl w4).drew
 refine rtwo_spec (k := k + 2) (h.ext (gE g5)) hl hf (by omega) (by omega) ⟨_, rfl, (Ext.refl _).drew.keep _, (Ext.refl _).drew.keeps, ?_⟩
 have g6 := ge g5 (Ext.refl _).drew
 refine rtwo_spec (k := k + 4) (h.ext (gE g6)) hl hf (by omega) (by omega) ⟨_, rfl, (Ext.refl _).drew.keep _, (Ext.refl _).drew.keeps, ?_⟩
 have g7 := ge g6 (Ext.refl _).drew
 refine rtwo_spec (k := k + 6) (h.ext (gE g7)) hl hf (by omega) (by omega) ⟨_, rfl, (Ext.refl _).drew.keep _, ?_⟩
 have g8 := ge g7 (Ext.refl _).drew
 generalize hw8 : w4.drew.drew.drew.drew = w8 at *
 refine Sl.byte (h.ext (gE g8)) hl rfl (j := k + 8) (by omega) fun a ha => ⟨_, ha, ?_⟩
 have rx := twoM_range hf k
 have ry := twoM_range hf (k + 2)
 have rw_ := twoM_range hf (k + 4)
 have rh := twoM_range hf (k + 6)
 obtain ⟨x, ex⟩ : ∃ n : Nat, twoM b k = n := ⟨(twoM b k).toNat, by omega⟩
 obtain ⟨y, ey⟩ : ∃ n : Nat, twoM b (k + 2) = n := ⟨(twoM b (k + 2)).toNat, by omega⟩
 obtain ⟨v, ev⟩ : ∃ n : Nat, twoM b (k + 4) = n := ⟨(twoM b (k + 4)).toNat, by omega⟩
 obtain ⟨g, eg⟩ : ∃ n : Nat, twoM b (k + 6) = n := ⟨(twoM b (k + 6)).toNat, by omega⟩
 have rf := bget hf (k + 8)
 obtain ⟨fl_, ef⟩ : ∃ n : Nat, b.getD (k + 8) 0 = n := ⟨(b.getD (k + 8) 0).toNat, by omega⟩
 rw [ex] at rx
 rw [ey] at ry
 rw [ev] at rw_
 rw [eg] at rh
 rw [ef] at rf
 simp only [ex, ey, ev, eg, ef, Int.toNat_natCast] at hok herr ⊢
 rw [w64 (x := (x : Int) + v) (by omega) (by omega), w64 (x := (y : Int) + g) (by omega) (by omega)]
 refine brB_i (fun hbad w9 hL9 => herr _ _ _ _ _ w9 (if_pos (by simp only [Bool.or_eq_true, decide_eq_true_eq] at hbad; omega)) (gE (gl g8 hL9))) fun hgood => ?_
 have hgood : 1 ≤ v ∧ 1 ≤ g ∧ x + v ≤ W ∧ y + g ≤ H := by
  simp only [Bool.or_eq_false_iff, decide_eq_false_iff_not] at hgood; omega
 rw [if_neg (by omega)] at hok herr
 generalize hpal' : (if (128 : Int) ≤ (fl_ : Int) then palU b (k + 9) (palN fl_) else pal) = pal' at hok herr
 generalize hk' : (if (128 : Int) ≤ (fl_ : Int) then k + 9 + 3 * palN fl_ else k + 9) = k' at hok herr
 have hpn := palN_range (fl_ : Nat)
 refine ⟨fun vs u => ∃ (pq : Option Addr) (qc : Nat) (SQ : Nat → Prop), vs = [i64 (k' : Nat), i64 (W : Nat), i64 (H : Nat), .slice pq pal'.length qc, i64 clear, i64 0, i64 0, .slice none 0 0] ∧ ¬ ((128 : Int) ≤ (fl_ : Int) ∧ b.length < k + 9 + 3 * palN fl_) ∧ G u ∧ OwnS SQ u pq pal'.length qc 4 (cos pal') ∧ pal'.length ≤ 256 ∧ (∀ i, SQ i → i ≠ mb ∧ i ∉ [k5, k2, k1] ∧ i < u.heap.size), ?_, fun n9 n10 n11 p3 k8 k9 n12 n13 n14 p4 k10 k11 w15 hI => ?_⟩
 ·refine brB_i (fun h128 w10 hL10 => ?_) fun h128 w14 hL14 => ?_
  ·have h128 := of_decide_eq_true h128
   rw [if_pos (by omega)] at hpal' hk'
   subst hpal' hk'
   have g10 := gl g8 hL10
   refine rpal_spec (k := k + 9) (f := fl_) (h.ext (gE g10)) hl hf (by omega) (by omega) (by omega) (fun hle p c w11 hE11 hO11 => ⟨_, _, _, _, rfl, hE11.keep _, brB_f (decide_eq_false (by omega)) fun w13 hL13 => ?_⟩) fun hlt => ⟨_, _, _, _, rfl, (Ext.refl w10).keep _, brB_t rfl fun w12 hL12 => herr _ _ _ _ _ w12 (if_pos ⟨by omega, by omega⟩) (gE (gl g10 hL12))⟩
   have g13 := gl (ge g10 hE11) hL13
   have hlen5 : ∀ i, i ∈ [k5, k2, k1] → i < w10.heap.size := fun i hi => hL10.there i hi
   refine ⟨p, c, fun i => w10.heap.size ≤ i ∧ i < w11.heap.size, by rw [palU_len], by omega, g13, ?_, by rw [palU_len]; omega, fun i hi => ⟨?_, fun hm => by have := hlen5 i hm; omega, by have := hL13.size; omega⟩⟩
   ·rw [palU_len]
    exact OwnS.chg (hO11.mono fun i hi hl => ⟨hi, hl⟩) hL13.chg fun i hi _ hm => by have := hlen5 i hm; omega
   ·have := g10.1.size
    omega
  ·have h128 := of_decide_eq_false h128
   rw [if_neg (by omega)] at hpal' hk'
   subst hpal' hk'
   have g14 := gl g8 hL14
   have hc14 : Chg (fun i => w.heap.size ≤ i) w w14 := (gE g14).chg
   refine ⟨pp, pc, fun i => SP i ∧ i < w.heap.size, rfl, by omega, g14, OwnS.chg (hp.mono fun i hi hl => ⟨hi, hl⟩) hc14 fun i hi _ hx => by omega, hpl, fun i hi => ⟨by omega, fun hm => by have := (kb hm).1; omega, by have := (gE g14).size; omega⟩⟩
 obtain ⟨pq, qc, SQ, hv, hnp, g15, hq15, hql, hSQ⟩ := hI
 have hv := hv.symm
 simp only [List.cons.injEq, Value.slice.injEq, Value.int.injEq, true_and, and_true] at hv
 obtain ⟨rfl, rfl, rfl, ⟨rfl, rfl, rfl⟩, rfl, rfl, rfl, rfl, rfl, rfl⟩ := hv
 rw [if_neg hnp] at hok herr
 refine brB_i (fun hend w16 hL16 => ?_) fun hend => ?_
 ·simp only [Bool.or_eq_true, decide_eq_true_eq, beq_iff_eq] at hend
  refine herr _ _ _ _ _ w16 ?_ (gE (gl g15 hL16))
  by_cases hge : b.length ≤ k'
  ·exact if_pos hge
  rw [if_neg hge]
  have hnil : pal' = [] := List.length_eq_zero_iff.1 (by omega)
  split
  ·rfl
  ·exact if_pos (.inr (.inr hnil))
 have hend : k' < len ∧ pal' ≠ [] := by
  simp only [Bool.or_eq_false_iff, decide_eq_false_iff_not] at hend
  exact ⟨by omega, fun e => by rw [e] at hend; exact absurd hend.2 (by simp)⟩
 rw [if_neg (by omega)] at hok herr
 have hsb := bget hf k'
 refine Sl.byte (h.ext (gE g15)) hl rfl (j := k') (by omega) fun a2 ha2 => ⟨_, ha2, ?_⟩
 rw [wrap_succ (X := k') (by omega), w64 (x := b.getD k' 0) (by omega) (by omega)]
 refine rblk_spec (k := k' + 1) (h.ext (gE g15)) hl hcp hf (by omega) (by omega) (fun l e p5 c5 w17 hB hE17 hO17 => ⟨_, _, _, _, _, rfl, hE17.keep _, brB_f (decide_eq_false (by omega)) ?_⟩) fun hB w17 hE17 => ⟨_, _, _, _, _, rfl, hE17.keep _, brB_t rfl fun w18 hL18 => herr _ _ _ _ _ w18 (by rw [hB]) (gE (gl (ge g15 hE17) hL18))⟩
 rw [hB] at hok herr
 simp only at hok herr
 have g17 := ge g15 hE17
 obtain ⟨b1, b2, b3, b4⟩ := blkF_ok hf (show blkF b (b.length + 1) (k' + 1) = some (l, e) from hB)
 have hbl : Bs l.flatten := fun z hz => by
  obtain ⟨m, hm1, hm2⟩ := List.mem_flatten.1 hz
  exact b3 m hm1 z hm2
 have hvg : v * g ≤ W * H := Nat.mul_le_mul (by omega) (by omega)
 have evg : IntKind.i64.wrap (((v : Nat) : Int) * (g : Nat)) = ((v * g : Nat) : Int) := by
  rw [← Int.natCast_mul]; exact w64 (by omega) (by omega)
 rw [evg]
 have evg' : ((v : Nat) : Int) * (g : Nat) = ((v * g : Nat) : Int) := by rw [Int.natCast_mul]
 rw [evg'] at hok herr
 refine refGifUnpack_spec hO17.sl rfl (by omega) hbl (by omega) (by omega) fun p6 k14 k15 w19 hg => ⟨_, _, _, _, rfl, hg.ext.keep _, ?_⟩
 have hk14 := hg.len
 rw [bytes_length] at hk14
 have hgb : Bs (gifR l.flatten (b.getD k' 0) ((v * g : Nat) : Int)).1 := gifR_bs hbl
 generalize gifR l.flatten (b.getD k' 0) ((v * g : Nat) : Int) = gr at *
 subst hk14
 have g19 := ge g17 hg.ext
 refine brB_i (fun hbad w20 hL20 => herr _ _ _ _ _ w20 (if_pos ?_) (gE (gl g19 hL20))) fun hgd => ?_
 ·simp only [Bool.or_eq_true, bne_iff_ne] at hbad
  rcases hbad with hbad | hbad
  ·exact .inl hbad
  ·exact .inr (.inl hbad)
 have hgd : gr.2 = 0 ∧ gr.1.length = v * g := by
  simp only [Bool.or_eq_false_iff, bne_eq_false_iff_eq] at hgd
  exact ⟨hgd.1, by omega⟩
 rw [if_neg (fun hx => by
  rcases hx with hx | hx | hx
  ·exact hx hgd.1
  ·rw [hgd.2] at hx; exact hx rfl
  ·exact hend.2 hx)] at hok herr
 have e64 : decide (divZ .rem .u8 ((fl_ : Nat) : Int) 128 ≥ 64) = decide ((64 : Int) ≤ (fl_ : Int) % 128) := by
  have e : divZ .rem .u8 ((fl_ : Nat) : Int) 128 = (fl_ : Int) % 128 := by simp only [divZ]; exact Int.tmod_eq_emod_of_nonneg (by omega)
  rw [Bool.eq_iff_iff, decide_eq_true_eq, decide_eq_true_eq, e]
 rw [e64]
 refine gorder_spec (by omega) fun p7 k17 w21 hE21 hrows => ⟨_, _, _, rfl, hE21.keep _, ?_⟩
 have hrl := rowsM_len g (decide ((64 : Int) ≤ (fl_ : Int) % 128))
 have hrm := fun y => @rowsM_mem g (decide ((64 : Int) ≤ (fl_ : Int) % 128)) y
 generalize rowsM g (decide ((64 : Int) ≤ (fl_ : Int) % 128)) = rows at *
 have g21 := ge g19 hE21
 have s21 := g21.1.size
 have s17 := hE17.size
 have s19 := hg.ext.size
 have s21' := hE21.size
 have s15 := g15.1.size
 have hM21 : Cs w21 mb (px (List.replicate (4 * (W * H)) 0)) := hM.chg g21.1 fun hx => (kb hx).2 rfl
 have hI21 : OwnS (fun i => w17.heap.size ≤ i ∧ i < w19.heap.size) w21 p6 gr.1.length k15 1 (bytes gr.1) := OwnS.chg (T := fun _ => False) hg.ow.ownS hE21.chg fun _ _ _ h => h
 have hQ21 : OwnS SQ w21 pq pal'.length qc 4 (cos pal') := OwnS.chg (T := fun _ => False) hq15 ((hE17.trans hg.ext).trans hE21).chg fun _ _ _ h => h
 have hR21 := OwnS.mono (T := fun i => w19.heap.size ≤ i ∧ i < w21.heap.size) hrows fun i hi hl => ⟨hi, hl⟩
 have tmp : ∀ {i}, i ∈ [k5, k2, k1] → i < w15.heap.size := fun {i} hi => by
  rcases hkd hi with rfl | rfl | rfl
  ·exact g15.2
  ·omega
  ·omega
 let T2 : Nat → Prop := fun i => i = mb ∨ i ∈ [k5, k2, k1] ∨ w21.heap.size ≤ i
 let Z : World → List Int → Prop := fun u xs' => xs'.length = 4 * (W * H) ∧ Cs u mb (px xs') ∧ Chg T2 w21 u
 have zR : ∀ u xs', Z u xs' → Sl u.heap.size u p7 (rows.map i64) := fun u xs' hz => (OwnS.chg hR21 hz.2.2 fun i hi _ hx => by
  rcases hx with e | e | e
  ·omega
  ·have := tmp e; omega
  ·omega).sl
 have zI : ∀ u xs', Z u xs' → Sl u.heap.size u p6 (bytes gr.1) := fun u xs' hz => (OwnS.chg hI21 hz.2.2 fun i hi _ hx => by
  rcases hx with e | e | e
  ·omega
  ·have := tmp e; omega
  ·omega).sl
 have zQ : ∀ u xs', Z u xs' → Sl u.heap.size u pq (cos pal') := fun u xs' hz => (OwnS.chg hQ21 hz.2.2 fun i hi _ hx => by
  have := hSQ i hi
  rcases hx with e | e | e
  ·exact this.1 e
  ·exact this.2.1 e
  ·omega).sl
 have zE : ∀ u xs', Z u xs' → Ext w u := fun u xs' hz => (gE g21).step hz.2.2 fun i hi => by
  have := (gE g21).size
  have := hE2.size
  rcases hi with e | e | e
  ·have := hE1.size; omega
  ·exact (kb e).1
  ·omega
 have zl : ∀ {u u' xs'}, Z u xs' → Locl [k5, k2, k1] u u' → Z u' xs' := fun hz hL => ⟨hz.1, hz.2.1.chg hL.chg fun hx => (kb hx).2 rfl, hz.2.2.trans hL.chg fun i hi _ => .inr (.inl hi)⟩
 refine ⟨fun vs u => ∃ (i : Nat) (xs' : List Int), vs = [i64 (i : Nat), i64 0, i64 0, .slice none 0 0] ∧ i ≤ gr.1.length ∧ Z u xs' ∧ paintF pal' clear W x y v rows gr.1 gr.1.length 0 (List.replicate (4 * (W * H)) 0) = paintF pal' clear W x y v rows gr.1 (gr.1.length - i) i xs',
  fun vs _ => match vs with | [.int _ i, _, _, _] => (gr.1.length - i : Int).toNat | _ => 0, ⟨0, _, rfl, by omega, ⟨by simp, hM21, Chg.refl _ _⟩, rfl⟩, fun n19 n20 n21 p8 k18 k19 w22 hI => ?_⟩
 obtain ⟨i, xs1, hv, hi, hz1, hP1⟩ := hI
 have hv := hv.symm
 simp only [List.cons.injEq, Value.slice.injEq, Value.int.injEq, true_and, and_true] at hv
 obtain ⟨rfl, rfl, rfl, rfl, rfl, rfl⟩ := hv
 refine brB_i (fun hlt => ?_) fun hge w26 hL26 => ?_
 rotate_left
 ·have hge : i = gr.1.length := by have := of_decide_eq_false hge; omega
  subst hge
  rw [Nat.sub_self, paintF] at hP1
  have hz := zl hz1 hL26
  have hx := hok xs1 (some ⟨mb, 0, none⟩) (4 * (W * H)) w26 hP1 (zE _ _ hz) ⟨by rw [px_length, Nat.mul_one], by rw [hz.1]; exact Nat.le_refl _, .inr ⟨mb, [], by show w.heap.size ≤ mb; have := hE1.size; omega, rfl, by rw [px_length, hz.1]; simp, by rw [List.append_nil]; exact hz.2.1⟩⟩
  rw [hz.1] at hx
  exact hx
 have hlt : i < gr.1.length := by have := of_decide_eq_true hlt; omega
 rw [show gr.1.length - i = (gr.1.length - (i + 1)) + 1 by omega, paintF] at hP1
 have hgj := bget hgb i
 obtain ⟨m, em⟩ : ∃ m : Nat, gr.1.getD i 0 = m := ⟨(gr.1.getD i 0).toNat, by omega⟩
 rw [em, Int.toNat_natCast] at hP1
 rw [em] at hgj
 refine ⟨fun vs u => ∃ xs', vs = [i64 0, i64 0, .slice none 0 0] ∧ Z u xs' ∧ paintF pal' clear W x y v rows gr.1 gr.1.length 0 (List.replicate (4 * (W * H)) 0) = paintF pal' clear W x y v rows gr.1 (gr.1.length - (i + 1)) (i + 1) xs', ?_, fun n28 n29 p9 k20 k21 w25 hI => ?_⟩
 rotate_left
 ·obtain ⟨xs', hv, hz, hP⟩ := hI
  have hv := hv.symm
  simp only [List.cons.injEq, Value.slice.injEq, Value.int.injEq, true_and, and_true] at hv
  obtain ⟨rfl, rfl, rfl, rfl, rfl⟩ := hv
  rw [wrap_succ (by omega)]
  exact ⟨⟨i + 1, xs', rfl, hlt, hz, hP⟩, by show ((gr.1.length : Int) - ((i + 1 : Nat) : Int)).toNat < ((gr.1.length : Int) - (i : Nat)).toNat; omega⟩
 refine Sl.byte (zI _ _ hz1) rfl rfl hlt fun a3 ha3 => ⟨_, ha3, ?_⟩
 rw [em, w64 (x := ((m : Nat) : Int)) (by omega) (by omega)]
 refine brB_i (fun hbig w23 hL23 => ?_) fun hsml => ?_
 ·have hbig := of_decide_eq_true hbig
  rw [if_pos (by omega)] at hP1
  exact herr _ _ _ _ _ w23 hP1 (zE _ _ (zl hz1 hL23))
 have hsml : m < pal'.length := by have := of_decide_eq_false hsml; omega
 rw [if_neg (by omega)] at hP1
 refine brB_i (fun hne => ?_) fun heq => ?_
 rotate_left
 ·have heq : (m : Int) = clear := by simpa using heq
  rw [if_pos heq] at hP1
  exact ⟨xs1, rfl, hz1, hP1⟩
 have hne : ¬ (m : Int) = clear := by simpa using hne
 rw [if_neg hne] at hP1
 refine ⟨by omega, by omega, ?_⟩
 have hdv : i / v < g := (Nat.div_lt_iff_lt_mul (by omega)).2 (by rw [hgd.2, Nat.mul_comm] at hlt; exact hlt)
 have hmv : i % v < v := Nat.mod_lt _ (by omega)
 have hiv : i / v ≤ i := Nat.div_le_self _ _
 have eq1 : divZ .quo .i64 ((i : Nat) : Int) ((v : Nat) : Int) = ((i / v : Nat) : Int) := by
  simp only [divZ]
  rw [Int.tdiv_eq_ediv_of_nonneg (by omega), ← Int.natCast_ediv]
  have hi' : i ≤ 2 ^ 20 := by omega
  clear hdv hmv hP1
  generalize i / v = dv at *
  exact w64 (by omega) (by omega)
 have eq2 : divZ .rem .i64 ((i : Nat) : Int) ((v : Nat) : Int) = ((i % v : Nat) : Int) := by
  simp only [divZ]
  rw [Int.tmod_eq_emod_of_nonneg (by omega), ← Int.natCast_emod]
 rw [eq1, eq2]
 generalize i / v = dv at *
 generalize i % v = mv at *
 have hrow := hrm (rows.getD dv 0) (by rw [List.getD_eq_getElem?_getD, List.getElem?_eq_getElem (by omega)]; exact List.getElem_mem _)
 obtain ⟨r, er⟩ : ∃ r : Nat, rows.getD dv 0 = r := ⟨(rows.getD dv 0).toNat, by omega⟩
 rw [er, Int.toNat_natCast] at hP1
 refine (zR _ _ hz1).drew.get (v := i64 (r : Nat)) (by omega) (by rw [List.length_map, hrl]) (by rw [Int.toNat_natCast, List.getElem?_map, List.getElem?_eq_getElem (by omega), ← er]; simp [List.getD, show dv < rows.length by omega]) fun a4 ha4 => ⟨_, ha4, ?_⟩
 refine cos_elem (zQ _ _ hz1).drew rfl (by omega) (by omega) fun a5 q1 q2 q3 q4 => ⟨_, _, _, _, q1, q2, q3, q4, ?_⟩
 rw [Int.toNat_natCast]
 generalize pal'.getD m zeroC = col at *
 have hPb : (y + r) * W + W ≤ W * H := by
  have := Nat.mul_le_mul_right W (show y + r + 1 ≤ H by omega)
  rw [Nat.succ_mul, Nat.mul_comm H W] at this
  exact this
 rw [w64 (x := ((x : Nat) : Int) + (mv : Nat)) (by omega) (by omega), w64 (x := ((y : Nat) : Int) + ((r : Nat) : Int)) (by omega) (by omega), show ((x : Nat) : Int) + (mv : Nat) = ((x + mv : Nat) : Int) by omega, show ((y : Nat) : Int) + ((r : Nat) : Int) = ((y + r : Nat) : Int) by omega]
 have hcd : Cs w22.drew mb (px xs1) := hz1.2.1
 have hz1l := hz1.1
 refine rput_spec hcd hz1l.symm (by omega) (by omega) fun w24 hc24 hC24 => ⟨rfl, hc24.keep fun i hi hx => ?_, setPx xs1 ((y + r) * W + (x + mv)) col, rfl, ⟨by rw [setPx_len (by omega), hz1l], hC24, hz1.2.2.drew.trans hc24 fun i hi _ => ?_⟩, by rw [← Nat.add_assoc]; exact hP1⟩
 ·have hs22 := hz1.2.2.size
  rcases hx with hx | hx
  ·exact (kb hi).2 hx
  ·have hx : w22.heap.size ≤ i := hx
   have := tmp hi; omega
 ·have hs22 := hz1.2.2.size
  rcases hi with hx | hx
  ·exact .inl hx
  ·have hx : w22.heap.size ≤ i := hx
   exact .inr (.inr (by omega))
end
end Go.Proofs.YtiiaihiliimcoaaGreat
namespace Go.Proofs.YtiiaihiliimcoaaGreat
open Go Go.Vc Go.RowKit Go.Qn
set_option maxRecDepth 100000
set_option maxHeartbeats 4000000
theorem Sl.spots {N : Nat} {w : World} {base : Option Addr} {b : List Int} (h : Sl N w base (bytes b)) {j : Nat} (hj : j < b.length) : ∃ a, base = some a ∧ ∀ u, Ext w u → u.cell? (a.add j) = some (u8 (b.getD j 0)) := by
 have hg : (bytes b)[j]? = some (u8 (b.getD j 0)) := bytes_get hj
 obtain ⟨a, ea, _, _⟩ := h j _ hg
 refine ⟨a, ea, fun u hE => ?_⟩
 obtain ⟨a', ea', _, hc'⟩ := (h.ext hE) j _ hg
 rw [ea] at ea'
 cases ea'
 exact hc'
theorem ext_first {b : List Int} {k : Nat} {l : List (List Int)} {e : Nat} (hf : Bs b) (h : blkM b k = some (l, e)) : ((l.getD 0 []).length : Int) = b.getD k 0 ∧ (l.getD 0 [] ++ (l.drop 1).flatten) = l.flatten := by
 have hs := blkM_step b k
 rw [h] at hs
 have hx := bget hf k
 split at hs
 ·cases hs
 split at hs
 ·rename_i h0
  cases hs
  rw [h0]; exact ⟨rfl, rfl⟩
 split at hs
 ·cases hs
 split at hs
 ·cases hs
 rename_i l' e' hl'
 cases hs
 refine ⟨?_, by simp⟩
 show (((part b (k + 1) (b.getD k 0).toNat)).length : Int) = _
 rw [part_length (by omega)]; omega
theorem decR_scr {b : List Int} {most : Int} (h1 : ¬ 4194304 < b.length) (h2 : headOk b = true) : decR b most = (if twoM b 6 > 4096 ∨ twoM b 8 > 4096 ∨ twoM b 6 * twoM b 8 > most ∨ twoM b 6 * twoM b 8 > 65536 then (0, 0, [], 11)
  else match stepsF b (twoM b 6).toNat (twoM b 8).toNat (scrP b) (b.length + 1) (scrK b) (-1) with
   | none => (0, 0, [], 9)
   | some px => (twoM b 6, twoM b 8, px, 0) : Int × Int × List Int × Int) := by
 unfold decR
 rw [if_neg h1, if_neg (by rw [h2]; exact Bool.noConfusion)]
 rfl
theorem rDecode_spec {N : Nat} {w : World} {base : Option Addr} {len cap : Nat} {b : List Int} {most : Int} {R : Ending → World → Prop} (h : Sl N w base (bytes b)) (hl : len = b.length) (hcp : len ≤ cap) (hf : Bs b)
  (hR : ∀ p c w', Ext w w' → OwnS (fun i => w.heap.size ≤ i) w' p (decR b most).2.2.1.length c 1 (px (decR b most).2.2.1) → R (.returned (.tuple #[.agg #[i64 (decR b most).1, i64 (decR b most).2.1, .slice p (decR b most).2.2.1.length c], i64 (decR b most).2.2.2])) w') :
  Calls P F.ref15_Decode #[.slice base len cap, i64 most] w R := by
 refine calls_ref15_Decode _ _ _ _ _ _ ?_
 intro k1 hk1
 refine brB_i (fun hbig w1 hL1 => ?_) fun hbig w2 hL2 => ?_
 ·have hbig : 4194304 < b.length := by have := of_decide_eq_true hbig; omega
  have hd : decR b most = (0, 0, [], 11) := by unfold decR; rw [if_pos hbig]
  rw [hd] at hR
  exact hR none 0 w1 (hL1.ext (by simpa using hk1)) (OwnS.nil _ _ _ _)
 have hbig : ¬ 4194304 < b.length := by have := of_decide_eq_false hbig; omega
 have hE2 : Ext w w2 := hL2.ext (by simpa using hk1)
 have t1 := hL2.there k1 (by simp)
 have s2 := hE2.size
 have nine : ∀ u, decR b most = (0, 0, [], 9) → Ext w u → R (.returned (.tuple #[.agg #[i64 0, i64 0, .slice none 0 0], i64 9])) u := fun u hd hE => by
  rw [hd] at hR
  exact hR none 0 u hE (OwnS.nil _ _ _ _)
 refine rhead_spec (h.ext hE2) hl hcp hf (by omega) (fun hh p c w3 hE3 hO3 => ⟨_, _, _, _, _, _, _, _, rfl, hE3.keep _, fun k4 hk4 => brB_f rfl fun w5 hL5 => ?_⟩) fun hh n1 n2 n3 p k2 k3 n4 w3 hE3 => ⟨_, _, _, _, _, _, _, _, rfl, hE3.keep _, fun k4 hk4 => brB_t rfl fun w4 hL4 => nine w4 (by unfold decR; rw [if_neg hbig, if_pos hh]) ((hE2.trans hE3).step hL4.chg (by have := hE3.size; simp; omega))⟩
 have s3 := hE3.size
 have hE23 := hE2.trans hE3
 have t4 := hL5.there k4 (by simp)
 have t1' := hL5.there k1 (by simp)
 have hE5 : Ext w w5 := hE23.step hL5.chg (by simp; omega)
 have hdS := decR_scr (most := most) hbig hh
 have hH := (headOk_iff b).1 hh
 have r6 := twoM_range hf 6
 have r8 := twoM_range hf 8
 have hpl : (scrP b).length ≤ 256 := by
  unfold scrP
  split
  ·rw [palU_len]; exact (palN_range _).2
  ·simp
 have hk0 : scrK b ≤ b.length := by
  unfold scrK
  have := hH.2.2.2.2
  split <;> omega
 generalize scrP b = pal at *
 generalize scrK b = k0 at *
 obtain ⟨W, eW⟩ : ∃ n : Nat, twoM b 6 = n := ⟨(twoM b 6).toNat, by omega⟩
 obtain ⟨H, eH⟩ : ∃ n : Nat, twoM b 8 = n := ⟨(twoM b 8).toNat, by omega⟩
 rw [eW] at r6
 rw [eH] at r8
 rw [eW, eH] at hdS ⊢
 rw [Int.toNat_natCast, Int.toNat_natCast] at hdS
 have hWH65 : W * H ≤ 65535 * 65535 := Nat.mul_le_mul (by omega) (by omega)
 have eWH : ((W : Nat) : Int) * (H : Nat) = ((W * H : Nat) : Int) := by rw [Int.natCast_mul]
 rw [eWH] at hdS
 refine calls_ref10_Great _ _ _ _ _ ?_
 show ∃ c2 : Bool, _
 rw [eWH, w64 (x := ((W * H : Nat) : Int)) (by omega) (by omega)]
 refine ⟨_, rfl, (Ext.refl w5).keep _, ?_⟩
 refine brB_i (fun hg w7 hL7 => ?_) fun hg => ?_
 ·have hg' : (W : Int) > 4096 ∨ (H : Int) > 4096 ∨ ((W * H : Nat) : Int) > most ∨ ((W * H : Nat) : Int) > 65536 := by
   simp only [Bool.or_eq_true, decide_eq_true_eq] at hg; omega
  rw [if_pos hg'] at hdS
  rw [hdS] at hR
  exact hR none 0 w7 (hE5.step hL7.chg (by simp; omega)) (OwnS.nil _ _ _ _)
 have hg' : ¬ ((W : Int) > 4096 ∨ (H : Int) > 4096 ∨ ((W * H : Nat) : Int) > most ∨ ((W * H : Nat) : Int) > 65536) := fun hx => by
  have : (decide ((W : Int) > 4096) || decide ((H : Int) > 4096) || decide (((W * H : Nat) : Int) > most) || decide (((W * H : Nat) : Int) > 65536)) = true := by
   simp only [Bool.or_eq_true, decide_eq_true_eq]; omega
  rw [this] at hg; cases hg
 rw [if_neg hg'] at hdS
 generalize hSM : stepsF b W H pal (b.length + 1) k0 (-1) = SM at hdS
 have hO5 := OwnS.chg (OwnS.mono (T := fun i => w2.heap.size ≤ i ∧ i < w3.heap.size) hO3 fun i hi hl => ⟨hi, hl⟩) hL5.chg fun i hi _ hm => by simp at hm; omega
 have hkd : ∀ {i}, i ∈ [k4, k1] → i = k4 ∨ i = k1 := fun hi => by simpa using hi
 let G : World → Prop := fun u => Ext w u ∧ w5.heap.size ≤ u.heap.size ∧ OwnS (fun i => w2.heap.size ≤ i ∧ i < w3.heap.size) u p pal.length c 4 (cos pal)
 have gl : ∀ {u u'}, G u → Locl [k4, k1] u u' → G u' := fun hg hL => ⟨hg.1.step hL.chg fun i hi => by rcases hkd hi with rfl | rfl <;> omega, Nat.le_trans hg.2.1 hL.size, OwnS.chg hg.2.2 hL.chg fun i hi _ hm => by rcases hkd hm with e | e <;> omega⟩
 have ge : ∀ {u u'}, G u → Ext u u' → G u' := fun hg hE => ⟨hg.1.trans hE, Nat.le_trans hg.2.1 hE.size, OwnS.chg (T := fun _ => False) hg.2.2 hE.chg fun _ _ _ h => h⟩
 refine ⟨fun vs u => ∃ (k f : Nat) (clear : Int), vs = [i64 0, i64 0, .slice none 0 0, i64 (k : Nat), i64 (W : Nat), i64 (H : Nat), .slice p pal.length c, i64 clear] ∧ k ≤ b.length ∧ G u ∧ SM = stepsF b W H pal f k clear ∧ b.length < k + f,
  fun vs _ => match vs with | [_, _, _, .int _ k, _, _, _, _] => (b.length - k : Int).toNat | _ => 0, ⟨k0, b.length + 1, -1, rfl, hk0, ⟨hE5, Nat.le_refl _, hO5⟩, hSM.symm, by omega⟩, fun n5 n6 p2 k5 k6 n7 n8 n9 p3 k7 k8 n10 w8 hI => ?_⟩
 obtain ⟨k, f0, clear, hv, hkb, hG, hS, hf0⟩ := hI
 have hv := hv.symm
 simp only [List.cons.injEq, Value.slice.injEq, Value.int.injEq, true_and, and_true] at hv
 obtain ⟨rfl, rfl, ⟨rfl, rfl, rfl⟩, rfl, rfl, rfl, ⟨rfl, rfl, rfl⟩, rfl⟩ := hv
 have nineS : SM = none → ∀ u, G u → R (.returned (.tuple #[.agg #[i64 0, i64 0, .slice none 0 0], i64 9])) u := fun hn u hg => nine u (by rw [hdS, hn]) hg.1
 obtain ⟨f, rfl⟩ : ∃ f, f0 = f + 1 := ⟨f0 - 1, by omega⟩
 rw [stepsF] at hS
 refine brB_i (fun hlt => ?_) fun hge w24 hL24 => nineS (by rw [hS, if_pos (by have := of_decide_eq_false hge; omega)]) w24 (gl hG hL24)
 have hlt : k < b.length := by have := of_decide_eq_true hlt; omega
 rw [if_neg (by omega)] at hS
 refine ⟨fun vs u => ∃ (k' : Nat) (clear' : Int), vs = [i64 0, i64 0, .slice none 0 0, i64 (k' : Nat), i64 (W : Nat), i64 (H : Nat), .slice p pal.length c, i64 clear'] ∧ k < k' ∧ k' ≤ b.length ∧ G u ∧ SM = stepsF b W H pal f k' clear', ?_, fun n21 n22 p7 k16 k17 n23 n24 n25 p8 k18 k19 n26 w23 hI => ?_⟩
 rotate_left
 ·obtain ⟨k', clear', hv, hlt', hkb', hG', hS'⟩ := hI
  have hv := hv.symm
  simp only [List.cons.injEq, Value.slice.injEq, Value.int.injEq, true_and, and_true] at hv
  obtain ⟨rfl, rfl, ⟨rfl, rfl, rfl⟩, rfl, rfl, rfl, ⟨rfl, rfl, rfl⟩, rfl⟩ := hv
  exact ⟨⟨k', f, clear', rfl, hkb', hG', hS', by omega⟩, by show ((b.length : Int) - (k' : Nat)).toNat < ((b.length : Int) - (k : Nat)).toNat; omega⟩
 have hx := bget hf k
 refine Sl.byte (h.ext hG.1) hl rfl hlt fun a ha => ⟨_, ha, ?_⟩
 rw [wrap_succ (X := k) (by omega)]
 refine brB_i (fun h44 w9 hL9 => ?_) fun h44 => ?_
 ·have h44 : b.getD k 0 = 44 := eq_of_beq h44
  rw [if_neg (by omega), if_pos h44] at hS
  have hG9 := gl hG hL9
  have hk4 := hL9.there k4 (by simp)
  have hk1' := hL9.there k1 (by simp)
  refine rpic_spec (k := k + 1) (h.ext hG9.1) hl hcp hf (by omega) (by omega) (by omega) (by omega) (by omega) hG9.2.2 hpl (fun xs' p' c' w10 hX hE10 hO10 => ⟨_, _, _, _, _, _, rfl, hE10.keep _, fun k11 hk11 => brB_f rfl fun w12 hL12 => ?_⟩) fun n1 n2 p' k3 k4' w10 hX hE10 => ⟨_, _, _, _, _, _, rfl, hE10.keep _, fun k11 hk11 => brB_t rfl fun w11 hL11 => nine w11 (by rw [hdS, hS, hX]) ((ge hG9 hE10).1.step hL11.chg (by have := (ge hG9 hE10).1.size; simp; omega))⟩
  have hG10 := ge hG9 hE10
  have hdO : decR b most = ((W : Int), (H : Int), xs', 0) := by rw [hdS, hS, hX]
  rw [hdO] at hR
  have hsw := hG10.1.size
  exact hR p' c' w12 (hG10.1.step hL12.chg (by simp; omega)) (OwnS.mono (OwnS.chg (OwnS.mono (T := fun i => w9.heap.size ≤ i ∧ i < w10.heap.size) hO10 fun i hi hl => ⟨hi, hl⟩) hL12.chg fun i hi _ hm => by simp at hm; omega) fun i hi _ => by have := hG9.1.size; omega)
 have h44 : ¬ b.getD k 0 = 44 := fun e => by rw [e] at h44; cases h44
 rw [if_neg h44] at hS
 refine brB_i (fun hbad w13 hL13 => nineS ?_ w13 (gl hG hL13)) fun hgd => ?_
 ·simp only [Bool.or_eq_true, bne_iff_ne, decide_eq_true_eq] at hbad
  rw [hS]
  rcases hbad with hbad | hbad
  ·rw [if_neg hbad]
  ·split
   ·unfold extM; rw [if_pos (by omega)]
   ·rfl
 have hgd : b.getD k 0 = 33 ∧ k + 1 < b.length := by
  simp only [Bool.or_eq_false_iff, bne_eq_false_iff_eq, decide_eq_false_iff_not] at hgd
  exact ⟨hgd.1, by omega⟩
 rw [if_pos hgd.1] at hS
 unfold extM at hS
 rw [if_neg (by omega)] at hS
 obtain ⟨a, ea, hca⟩ := Sl.spots h (j := k + 1) hgd.2
 refine idx_i (by omega) (by omega) ea ?_
 rw [Nat.mul_one, Int.toNat_natCast]
 intro w14 hL14
 have hG14 := gl hG hL14
 refine ⟨_, hca w14 hG14.1, ?_⟩
 rw [wrap_succ (X := k + 1) (by omega)]
 refine rblk_spec (k := k + 1 + 1) (h.ext hG14.1) hl hcp hf (by omega) (by omega) (fun l e p5 c5 w15 hB hE15 hO15 => ⟨_, _, _, _, _, rfl, hE15.keep _, ?_⟩) fun hB w15 hE15 => ⟨_, _, _, _, _, rfl, hE15.keep _, fun _ _ => False, brB_t rfl fun w16 hL16 => nineS (by rw [hS, hB]) w16 (gl (ge hG14 hE15) hL16), fun _ _ _ _ _ _ hx => hx.elim⟩
 rw [hB] at hS
 simp only at hS
 have hG15 := ge hG14 hE15
 obtain ⟨hfl, hfx⟩ := ext_first hf hB
 obtain ⟨b1, b2, b3, b4⟩ := blkF_ok hf (show blkF b (b.length + 1) (k + 1 + 1) = some (l, e) from hB)
 have hlab := bget hf (k + 1)
 refine ⟨fun vs u => vs = [i64 0, i64 0, .slice none 0 0] ∧ u = w15 ∧ (b.getD (k + 1) 0 = 249 → (l.getD 0 []).length = 4), brB_f (decide_eq_false (by omega)) ?_, fun n17 n18 p6 k14 k15 w18 hI => ?_⟩
 ·refine brB_i (fun h249 => ?_) fun h249 => ⟨rfl, rfl, fun e => by rw [e] at h249; cases h249⟩
  have h249 : b.getD (k + 1) 0 = 249 := eq_of_beq h249
  refine brB_i (fun hne w17 hL17 => nineS ?_ w17 (gl hG15 hL17)) fun heq => ⟨rfl, rfl, fun _ => ?_⟩
  ·have hne : b.getD (k + 1 + 1) 0 ≠ 4 := by simpa using hne
   rw [hS, if_neg (fun g => g h249), if_pos (by omega)]
  ·have heq : b.getD (k + 1 + 1) 0 = 4 := by simpa using heq
   omega
 obtain ⟨hv, rfl, h4⟩ := hI
 have hv := hv.symm
 simp only [List.cons.injEq, Value.slice.injEq, Value.int.injEq, true_and, and_true] at hv
 obtain ⟨rfl, rfl, rfl, rfl, rfl⟩ := hv
 have s14 := hE15.size
 have hk4w : k4 < w14.heap.size := hL14.there k4 (by simp)
 have hk1w : k1 < w14.heap.size := hL14.there k1 (by simp)
 refine brB_i (fun h249 => ?_) fun h249 w22 hL22 => ?_
 rotate_left
 ·have h249 : b.getD (k + 1) 0 ≠ 249 := fun e => by rw [e] at h249; cases h249
  rw [if_pos h249] at hS
  exact ⟨e, clear, rfl, by omega, b2, gl hG15 hL22, hS⟩
 have h249 : b.getD (k + 1) 0 = 249 := eq_of_beq h249
 have h4 := h4 h249
 rw [if_neg (fun g => g h249), if_neg (by omega)] at hS
 have hdl : 4 ≤ l.flatten.length := by rw [← hfx, List.length_append]; omega
 have hd : ∀ j, j < 4 → l.flatten.getD j 0 = (l.getD 0 []).getD j 0 := fun j hj => by
  rw [← hfx, List.getD_eq_getElem?_getD, List.getElem?_append_left (by omega), ← List.getD_eq_getElem?_getD]
 obtain ⟨bb, eb, hb1, hb2⟩ := OwnS.base hO15 (by omega)
 subst eb
 have hbx : Bs l.flatten := fun z hz => by
  obtain ⟨m, hm1, hm2⟩ := List.mem_flatten.1 hz
  exact b3 m hm1 z hm2
 refine idx_i (by omega) (by omega) rfl ?_
 rw [loc_add, Nat.zero_add, show (0 : Int).toNat * 1 = 0 from rfl]
 intro w19 hL19
 have hO19 := OwnS.chg hO15 hL19.chg fun i hi _ hm => by rcases hkd hm with e | e <;> omega
 have cell : ∀ j, j < 4 → w19.cell? ⟨bb, j, none⟩ = some (u8 ((l.getD 0 []).getD j 0)) := fun j hj => by
  obtain ⟨a', e1, _, e3⟩ := OwnS.sl hO19 j _ (bytes_get (by omega))
  cases e1
  rw [loc_add, Nat.zero_add, hd j hj] at e3
  exact e3
 have x0 := bget hbx 0
 have x3 := bget hbx 3
 rw [hd 0 (by omega)] at x0
 rw [hd 3 (by omega)] at x3
 refine ⟨_, cell 0 (by omega), ?_⟩
 have em : divZ .rem .u8 ((l.getD 0 []).getD 0 0) 2 = (l.getD 0 []).getD 0 0 % 2 := by simp only [divZ]; exact Int.tmod_eq_emod_of_nonneg (by omega)
 rw [em]
 have hG19 := gl hG15 hL19
 refine brB_i (fun hodd => ?_) fun hev w21 hL21 => ?_
 ·have hodd : (l.getD 0 []).getD 0 0 % 2 = 1 := eq_of_beq hodd
  rw [if_neg (by omega)] at hS
  refine idx_i (by omega) (by omega) rfl ?_
  rw [loc_add, Nat.zero_add, show (3 : Int).toNat * 1 = 3 from rfl]
  refine ⟨_, cell 3 (by omega), fun w20 hL20 => ?_⟩
  rw [w64 (by omega) (by omega)]
  exact ⟨e, _, rfl, by omega, b2, gl hG19 hL20, hS⟩
 ·have hev : (l.getD 0 []).getD 0 0 % 2 = 0 := by
   have : ¬ (l.getD 0 []).getD 0 0 % 2 = 1 := fun e => by rw [e] at hev; cases hev
   omega
  rw [if_pos hev] at hS
  exact ⟨e, _, rfl, by omega, b2, gl hG19 hL21, hS⟩
end Go.Proofs.YtiiaihiliimcoaaGreat
namespace Go.Proofs.YtiiaihiliimcoaaGreat
open Go Go.Vc Go.RowKit Go.Qn
set_option maxRecDepth 100000
def goneU (xs : List Int) (n : Nat) : Bool := (List.range n).any fun i => decide (xs.getD (4 * i + 3) 0 < 32768)
theorem goneU_succ (xs : List Int) (n : Nat) : goneU xs (n + 1) = (goneU xs n || decide (xs.getD (4 * n + 3) 0 < 32768)) := by simp [goneU, List.range_succ]
def goneM (xs : List Int) : Bool := goneU xs (xs.length / 4)
def pal0G (W H : Int) (xs : List Int) : List Co := (palR W H xs (if goneM xs then 255 else 256)).1
def palG (W H : Int) (xs : List Int) : List Co := if goneM xs then pal0G W H xs ++ [zeroC] else pal0G W H xs
def idxU (W H : Int) (xs : List Int) (n : Nat) : List Int :=
 (List.range (appR W H xs (palG W H xs)).2.2.2.1.length).map fun i => if i < n ∧ (appR W H xs (pal0G W H xs)).2.2.2.2 = 0 ∧ 32768 ≤ xs.getD (4 * i + 3) 0 then (appR W H xs (pal0G W H xs)).2.2.2.1.getD i 0 else (appR W H xs (palG W H xs)).2.2.2.1.getD i 0
def idxG (W H : Int) (xs : List Int) : List Int := if goneM xs then idxU W H xs (appR W H xs (palG W H xs)).2.2.2.1.length else (appR W H xs (palG W H xs)).2.2.2.1
def sizeG (n : Nat) : Nat := if n ≤ 2 then 1 else if n ≤ 4 then 2 else if n ≤ 8 then 3 else if n ≤ 16 then 4 else if n ≤ 32 then 5 else if n ≤ 64 then 6 else if n ≤ 128 then 7 else 8
def two2 (v : Int) : List Int := [v % 256, v / 256 % 256]
def entG (pal : List Co) (n : Nat) : List Int := ((List.range n).map fun i =>
 let c := if i < pal.length ∧ (pal.getD i zeroC).2.2.2 ≠ 0 then pal.getD i zeroC else pal.getD 0 zeroC
 [c.1 / 256 % 256, c.2.1 / 256 % 256, c.2.2.1 / 256 % 256]).flatten
def subU (bs : List Int) (n : Nat) : List Int := ((List.range n).map fun k => (((min 255 (bs.length - 255 * k) : Nat) : Int)) :: part bs (255 * k) (min 255 (bs.length - 255 * k))).flatten
def subG (bs : List Int) : List Int := subU bs ((bs.length + 254) / 255)
def headG (W H : Int) (xs : List Int) : List Int :=
 sig89 ++ two2 W ++ two2 H ++ [((127 + sizeG (palG W H xs).length : Nat) : Int), 0, 0] ++ entG (palG W H xs) (2 ^ sizeG (palG W H xs).length) ++ (if goneM xs then [33, 249, 4, 1, 0, 0, (((palG W H xs).length - 1 : Nat) : Int), 0] else []) ++ [44, 0, 0, 0, 0] ++ two2 W ++ two2 H
def encG (W H : Int) (xs : List Int) : List Int :=
 headG W H xs ++ [0, ((max (sizeG (palG W H xs).length) 2 : Nat) : Int)] ++ subG (gifPackR (idxG W H xs) ((max (sizeG (palG W H xs).length) 2 : Nat) : Int)).1 ++ [0, 59]
def encR (W H : Int) (xs : List Int) : List Int × Int := if good W H xs then (encG W H xs, 0) else ([], 6)
end Go.Proofs.YtiiaihiliimcoaaGreat
namespace Go.Proofs.YtiiaihiliimcoaaGreat
open Go Go.Vc Go.RowKit Go.Qn
set_option maxRecDepth 100000
set_option maxHeartbeats 2000000
theorem OwnS.grow' {S : Nat → Prop} {w w5 : World} {bs : List Nat} {l : List (Nat × Nat × List Value)} {base : Option Addr} {len cap n sz bytes : Nat} {elem : TypeId} {zero vs fs : List Value} {F : Option Addr → Nat → Nat → World → Prop}
  (h : OwnS S w base len cap sz vs) (hL : Locl bs w w5) (hb : ∀ b, b ∈ bs → w.heap.size ≤ b ∨ ¬ S b) (hS : ∀ i, w.heap.size ≤ i → S i) (hbl : ∀ b, b ∈ blocks l → b ∈ bs) (hz : zero.length = sz) (hn : fs.length = n * sz)
  (hby : (len + n) * bytes ≤ 2 ^ 47) (h62 : len + n < 2 ^ 62)
  (hF : ∀ base' cap' w6, OwnS (fun i => S i ∧ i ∉ bs) w6 base' (len + n) cap' sz (vs ++ fs) → Chg (fun i => S i ∨ i ∈ bs) w w6 → w5.heap.size ≤ w6.heap.size → F base' (len + n) cap' w6) :
  appVC w5 l base len cap n sz bytes elem zero fs F := by
 have h1 : OwnS (fun i => S i ∧ i ∉ bs) w base len cap sz vs := OwnS.mono h fun i hi hlt => ⟨hi, fun hm => (hb i hm).elim (fun g => by omega) fun g => g hi⟩
 have h2 := OwnS.chg h1 hL.chg fun b hb _ hm => hb.2 hm
 have hs := hL.size
 refine OwnS.app h2 (fun b hb hs => hs.2 (hbl b hb)) hz hn hby h62 fun base' cap' w6 ho hc => hF base' cap' w6 (ho.mono fun i hi hlt => ?_) ?_ hc.size
 ·rcases hi with hi | hi
  ·exact hi
  ·exact ⟨hS i (by omega), fun hm => by have := hL.there i hm; omega⟩
 ·exact (hL.chg.mono fun i hi _ => .inr hi).trans hc fun i hi _ => .inl hi.1
structure EAt (u : World) (T : Nat → Prop) (kb : Nat) (out : List Int) : Prop where
 obj : ∃ p c, Cs u kb [.slice p out.length c] ∧ OwnS T u p out.length c 1 (bytes out)
 ne : ¬ T kb
theorem EAt.chg {u u' : World} {T Z : Nat → Prop} {kb : Nat} {out : List Int} (h : EAt u T kb out) (hc : Chg Z u u') (h1 : ¬ Z kb) (h2 : ∀ b, T b → b < u.heap.size → ¬ Z b) : EAt u' T kb out := by
 obtain ⟨p, c, g1, g2⟩ := h.obj
 exact ⟨⟨p, c, g1.chg hc h1, g2.chg hc h2⟩, h.ne⟩
theorem EAt.ext {u u' : World} {T : Nat → Prop} {kb : Nat} {out : List Int} (h : EAt u T kb out) (hE : Ext u u') : EAt u' T kb out := h.chg (Z := fun _ => False) hE.chg id fun _ _ _ h => h
theorem EAt.lim {u : World} {T T' : Nat → Prop} {kb : Nat} {out : List Int} (h : EAt u T kb out) (h1 : ∀ b, T b → b < u.heap.size → T' b) (h2 : ¬ T' kb) : EAt u T' kb out := by
 obtain ⟨p, c, g1, g2⟩ := h.obj
 exact ⟨⟨p, c, g1, g2.mono h1⟩, h2⟩
theorem EAt.app {u u5 : World} {T : Nat → Prop} {kb : Nat} {out ys : List Int} {ls : List Nat} {l : List (Nat × Nat × List Value)} {n : Nat} {p : Option Addr} {c : Nat} {F : Option Addr → Nat → Nat → World → Prop}
  (hp : Cs u kb [.slice p out.length c]) (ho : OwnS T u p out.length c 1 (bytes out)) (hne : ¬ T kb) (hnew : ∀ b, u.heap.size ≤ b → T b) (hL : Locl ls u u5) (hb : ∀ b, b ∈ ls → u.heap.size ≤ b ∨ ¬ T b) (hkb : kb ∉ ls) (hbl : ∀ b, b ∈ blocks l → b ∈ ls) (hn : ys.length = n) (hsz : out.length + n ≤ 2 ^ 40)
  (hF : ∀ p' c' w6, (∃ v, w6.cell? ⟨kb, 0, none⟩ = some v) → w6.frozen? ⟨kb, 0, none⟩ = false → Chg (fun i => T i ∨ i ∈ ls) u w6 → w6.heap.size = (setCells w6 ⟨kb, 0, none⟩ [.slice p' (out ++ ys).length c'] 0).heap.size → EAt (setCells w6 ⟨kb, 0, none⟩ [.slice p' (out ++ ys).length c'] 0) (fun i => T i ∧ i ∉ ls) kb (out ++ ys) →
   Chg (fun i => i = kb ∨ T i ∨ i ∈ ls) u (setCells w6 ⟨kb, 0, none⟩ [.slice p' (out ++ ys).length c'] 0) → u5.heap.size ≤ w6.heap.size → F p' (out ++ ys).length c' w6) :
  appVC u5 l p out.length c n 1 1 5 [u8 0] (bytes ys) F := by
 subst hn
 refine OwnS.grow' ho hL hb hnew hbl rfl (by rw [bytes_length, Nat.mul_one]) (by omega) (by omega) fun p' c' w6 hO6 hc6 hs56 => ?_
 have hC6 := hp.chg hc6 fun hx => hx.elim hne hkb
 have hset := Chg.setCells w6 ⟨kb, 0, none⟩ [.slice p' (out ++ ys).length c'] 0
 have hC7 : Cs (setCells w6 ⟨kb, 0, none⟩ [.slice p' (out ++ ys).length c'] 0) kb [.slice p' (out ++ ys).length c'] := hC6.set1 (off := 0) (v := .slice p' (out ++ ys).length c') (by simp)
 have hO7 : OwnS (fun i => T i ∧ i ∉ ls) w6 p' (out ++ ys).length c' 1 (bytes (out ++ ys)) := by rw [List.length_append, bytes_append]; exact hO6
 have := hF p' c' w6 ⟨_, hC6.cell (i := 0) rfl⟩ (hC6.frozen _) hc6 (setCells_same _ _ _ _).size.symm ⟨⟨p', c', hC7, OwnS.chg hO7 hset fun i hi _ e => hne (by have e : i = kb := e; rw [← e]; exact hi.1)⟩, fun h => hne h.1⟩ ((hc6.mono fun i hi _ => .inr hi).trans hset fun i hi _ => .inl hi) hs56
 rwa [List.length_append] at this
theorem two_bytes {x : Int} (h0 : 0 ≤ x) (h1 : x ≤ 65535) : [u8 (IntKind.u8.wrap x), u8 (IntKind.u8.wrap (shiftZ .shr .i64 x 8))] = bytes (two2 x) := by
 have hm : ∀ y : Int, IntKind.u8.wrap y = y % 256 := fun y => by rw [IntKind.wrap]; simp [IntKind.signed, IntKind.bits]
 rw [shiftZ_shr h0 (by omega) (by simp [IntKind.bits]), hm, hm]
 rfl
theorem etwo_spec {u : World} {T : Nat → Prop} {kb : Nat} {out : List Int} {x : Int} {R : Ending → World → Prop} (h : EAt u T kb out) (hkb : kb < u.heap.size) (hnew : ∀ b, u.heap.size ≤ b → T b) (h0 : 0 ≤ x) (h1 : x ≤ 65535) (hsz : out.length + 2 ≤ 2 ^ 40)
  (hR : ∀ u', EAt u' T kb (out ++ two2 x) → Chg (fun i => i = kb ∨ T i) u u' → R (.returned (.tuple #[])) u') : Calls P F.gif_Encode_fn1 #[i64 x, .pointer (some ⟨kb, 0, none⟩)] u R := by
 refine calls_gif_Encode_fn1 _ _ _ _ ?_
 obtain ⟨p, c, g1, g2⟩ := h.obj
 refine ⟨_, _, _, g1.cell (i := 0) rfl, fun k3 hk3 w1 hL1 => ?_⟩
 rw [two_bytes h0 h1]
 refine EAt.app (ys := two2 x) g1 g2 h.ne hnew hL1 (fun b hb => .inl (by simp at hb; omega)) (by simp; omega) (by simp [blocks]) rfl hsz fun p' c' w6 hcell hfro hc6 hs6 hX hc _ => ⟨hcell, hfro, by simp; omega, hR _ (hX.lim (fun b hb _ => hb.1) h.ne) (hc.mono fun i hi _ => ?_)⟩
 rcases hi with hi | hi | hi
 ·exact .inl hi
 ·exact .inr hi
 ·have : i = k3 := by simpa using hi
  exact .inr (hnew i (by omega))
theorem app_full {N : Nat} {w : World} {l : List (Nat × Nat × List Value)} {base : Option Addr} {len n sz bytes : Nat} {elem : TypeId} {zero vs fs : List Value} {F : Option Addr → Nat → Nat → World → Prop}
  (h : Sl N w base vs) (h1 : len * sz = vs.length) (h0 : 0 < n) (hz : zero.length = sz) (hn : fs.length = n * sz) (hby : (len + n) * bytes ≤ 2 ^ 47) (h62 : len + n < 2 ^ 62)
  (hF : ∀ base' cap' w', OwnS (fun i => w.heap.size ≤ i) w' base' (len + n) cap' sz (vs ++ fs) → Ext w w' → F base' (len + n) cap' w') :
  appVC w l base len len n sz bytes elem zero fs F := by
 refine ⟨fun hle => by omega, fun hgt => ⟨hby, h62, vs, h1.symm, h.cells, fun cap' b w' hc' hnew => ?_⟩⟩
 have hex : Ext w w' := (Ext.refl w).drew.trans hnew.ext
 refine hF _ _ _ ?_ hex
 have := New.own (N := w.heap.size) (M := w'.heap.size) (vs := vs ++ fs) (len := len + n) (cap := cap') (sz := sz) hnew (by simp) (by rw [Nat.add_mul, List.length_append]; omega) ?_ hc' (by exact Nat.le_refl _) (Nat.le_refl _)
 ·exact this.ownS.mono fun i hi _ => hi.1
 ·simp only [List.size_toArray, List.length_append, Array.length_toList, mkCells_length, hz]
  rw [Nat.sub_mul, Nat.add_mul]
  have : (len + n) * sz ≤ cap' * sz := Nat.mul_le_mul_right _ hc'
  rw [Nat.add_mul] at this
  omega
theorem etwo_first {N : Nat} {u : World} {kb : Nat} {out : List Int} {p : Option Addr} {x : Int} {R : Ending → World → Prop} (g1 : Cs u kb [.slice p out.length out.length]) (hs : Sl N u p (bytes out)) (h0 : 0 ≤ x) (h1 : x ≤ 65535) (hsz : out.length + 2 ≤ 2 ^ 40)
  (hR : ∀ u', EAt u' (fun i => u.heap.size ≤ i) kb (out ++ two2 x) → Chg (fun i => i = kb ∨ u.heap.size ≤ i) u u' → R (.returned (.tuple #[])) u') : Calls P F.gif_Encode_fn1 #[i64 x, .pointer (some ⟨kb, 0, none⟩)] u R := by
 refine calls_gif_Encode_fn1 _ _ _ _ ?_
 have hkb := g1.lt
 refine ⟨_, _, _, g1.cell (i := 0) rfl, fun k3 hk3 w1 hL1 => ?_⟩
 rw [two_bytes h0 h1]
 have hE1 : Ext u w1 := hL1.ext (by simpa using hk3)
 have t3 := hL1.there k3 (by simp)
 have s1 := hE1.size
 refine app_full (hs.ext hE1) (by rw [bytes_length]; omega) (by omega) rfl (by rw [bytes_length]; rfl) (by omega) (by omega) fun p' c' w2 hO2 hE2 => ?_
 have hE12 := hE1.trans hE2
 have hC2 := g1.ext hE12
 have hset := Chg.setCells w2 ⟨kb, 0, none⟩ [.slice p' (out.length + 2) c'] 0
 refine ⟨⟨_, hC2.cell (i := 0) rfl⟩, hC2.frozen _, by simp; omega, hR _ ⟨⟨p', c', ?_, ?_⟩, by omega⟩ ((hE12.chg (S := fun i => i = kb ∨ u.heap.size ≤ i)).trans hset fun i hi _ => .inl hi)⟩
 ·have := hC2.set1 (off := 0) (v := .slice p' (out.length + 2) c') (by simp)
  rw [List.length_append]
  exact this
 ·rw [List.length_append, bytes_append]
  exact OwnS.mono (OwnS.chg hO2 hset fun i hi _ e => by have e : i = kb := e; omega) fun i hi _ => by omega
end Go.Proofs.YtiiaihiliimcoaaGreat
namespace Go.Proofs.YtiiaihiliimcoaaGreat
open Go Go.Vc Go.RowKit Go.Qn
set_option maxRecDepth 100000
set_option maxHeartbeats 2000000
theorem pal_so {S : Nat → Prop} {u : World} {pa : Option Addr} {ca : Nat} {pal : List Co} (h : OwnS S u pa pal.length ca 4 (cos pal)) (h0 : 0 < pal.length) : ∃ b, pa = some ⟨b, 0, none⟩ ∧ S b ∧ b < u.heap.size ∧ So u b pal.length (fun i => pal.getD i zeroC) := by
 obtain ⟨_, h2, h3⟩ := h
 rcases h3 with h3 | ⟨b, rest, h4, h6, _, h8⟩
 ·omega
 ·exact ⟨b, h6, h4, h8.lt, rest, by rw [seg_getD]; exact h8⟩
theorem shr8 {x : Int} (h : Byt x) : IntKind.u8.wrap (shiftZ .shr .u16 x 8) = x / 256 % 256 := by
 obtain ⟨h0, h1⟩ := h
 rw [shiftZ_shr h0 (by omega) (by simp [IntKind.bits])]
 have hm : ∀ y : Int, IntKind.u8.wrap y = y % 256 := fun y => by rw [IntKind.wrap]; simp [IntKind.signed, IntKind.bits]
 rw [hm]; rfl
theorem zero_ok : CoOk zeroC := ⟨⟨by decide, by decide⟩, ⟨by decide, by decide⟩, ⟨by decide, by decide⟩, ⟨by decide, by decide⟩⟩
theorem getD_ok' {l : List Co} (h : ∀ c, c ∈ l → CoOk c) (i : Nat) : CoOk (l.getD i zeroC) := by
 rcases Nat.lt_or_ge i l.length with g | g
 ·have e : l.getD i zeroC = l[i] := by simp [List.getD, g]
  rw [e]; exact h _ (List.getElem_mem g)
 ·have e : l.getD i zeroC = zeroC := by simp [List.getD, g]
  rw [e]; exact zero_ok
theorem allN_ok {l : List Co} (h : ∀ c, c ∈ l → CoOk c) : ∀ n c, c ∈ allN l n → CoOk c
 | 0, c, hc => by cases hc
 | n + 1, c, hc => by
  unfold allN at hc
  split at hc
  ·exact allN_ok h n c hc
  ·unfold addC at hc
   split at hc
   ·exact allN_ok h n c hc
   ·rcases List.mem_append.1 hc with hc | hc
    ·exact allN_ok h n c hc
    ·simp at hc; rw [hc]; exact eight_ok (getD_ok' h n)
theorem cutB_ok {B : List (List Co)} (h : ∀ l, l ∈ B → ∀ c, c ∈ l → CoOk c) : ∀ l, l ∈ cutB B → ∀ c, c ∈ l → CoOk c := by
 intro l hl c hc
 have hg : ∀ c, c ∈ B.getD (mxi (B.map List.length) B.length) [] → CoOk c := by
  intro c hc
  rcases Nat.lt_or_ge (mxi (B.map List.length) B.length) B.length with g | g
  ·have e : B.getD (mxi (B.map List.length) B.length) [] = B[mxi (B.map List.length) B.length] := by simp [List.getD, g]
   rw [e] at hc; exact h _ (List.getElem_mem g) c hc
  ·have e : B.getD (mxi (B.map List.length) B.length) [] = [] := by simp [List.getD, g]
   rw [e] at hc; cases hc
 unfold cutB at hl
 rcases List.mem_append.1 hl with hl | hl
 ·exact h l (List.mem_of_mem_eraseIdx hl) c hc
 ·simp only [List.mem_cons, List.not_mem_nil, or_false] at hl
  rcases hl with rfl | rfl
  ·exact hg c ((stab_perm _ _).mem_iff.1 (List.mem_of_mem_take hc))
  ·exact hg c ((stab_perm _ _).mem_iff.1 (List.mem_of_mem_drop hc))
theorem spN_mem {A : List Co} (h : ∀ c, c ∈ A → CoOk c) : ∀ i l, l ∈ spN A i → ∀ c, c ∈ l → CoOk c
 | 0, l, hl, c, hc => by simp [spN] at hl; rw [hl] at hc; exact h c hc
 | i + 1, l, hl, c, hc => cutB_ok (spN_mem h i) l hl c hc
theorem palR_ok {W H most : Int} {xs : List Int} (h : PxOk xs) : ∀ c, c ∈ (palR W H xs most).1 → CoOk c := by
 have hA := allN_ok (distX_ok h (W * H).toNat) (distX xs (W * H).toNat).length
 intro c hc
 unfold palR at hc
 split at hc
 ·split at hc
  ·cases hc
  ·change c ∈ palV _ most at hc
   unfold palV at hc
   split at hc
   ·exact hA c hc
   ·obtain ⟨l, hl, rfl⟩ := List.mem_map.1 hc
    exact getD_ok' (spN_mem hA _ l hl) _
 ·cases hc
theorem palG_ok {W H : Int} {xs : List Int} (h : PxOk xs) : ∀ c, c ∈ palG W H xs → CoOk c := by
 intro c hc
 unfold palG at hc
 split at hc
 ·rcases List.mem_append.1 hc with hc | hc
  ·exact palR_ok h c hc
  ·simp at hc; rw [hc]; exact zero_ok
 ·exact palR_ok h c hc
theorem addC_ne (l : List Co) (c : Co) : addC l c ≠ [] := by
 unfold addC
 split
 ·rename_i hc
  intro e; subst e; simp at hc
 ·simp
theorem allN_pos {l : List Co} (h : ∀ c, c ∈ l → clearC c = false) : ∀ n, 0 < n → n ≤ l.length → 0 < (allN l n).length
 | 0, h0, _ => by omega
 | n + 1, _, hn => by
  have hlt : n < l.length := by omega
  have e : l.getD n zeroC = l[n] := by simp [List.getD, hlt]
  unfold allN
  rw [e, h _ (List.getElem_mem hlt)]
  exact List.length_pos_iff.2 (addC_ne _ _)
theorem distX_clear {xs : List Int} : ∀ n, (∀ i, i < n → 32768 ≤ xs.getD (4 * i + 3) 0) → ∀ c, c ∈ distX xs n → clearC c = false
 | 0, _, c, hc => by cases hc
 | n + 1, h, c, hc => by
  rw [distX_succ] at hc
  unfold addC at hc
  have h1 := distX_clear n fun i hi => h i (by omega)
  split at hc
  ·exact h1 c hc
  ·rcases List.mem_append.1 hc with hc | hc
   ·exact h1 c hc
   ·simp at hc
    have := h n (by omega)
    rw [hc]
    exact decide_eq_false (by show ¬ xs.getD (4 * n + 3) 0 < 32768; omega)
theorem goneU_false {xs : List Int} : ∀ n, goneU xs n = false → ∀ i, i < n → 32768 ≤ xs.getD (4 * i + 3) 0 := by
 intro n h i hi
 unfold goneU at h
 have := (List.any_eq_false.1 h) i (List.mem_range.2 hi)
 simpa using this
theorem palG_pos {W H : Int} {xs : List Int} (hb : good W H xs = true) : 1 ≤ (palG W H xs).length := by
 obtain ⟨hg, hxl⟩ := good_iff.1 hb
 obtain ⟨g1, g2, g3, g4, g5⟩ := gfits_iff.1 hg
 have hpos : 0 < W * H := Int.mul_pos (by omega) (by omega)
 unfold palG
 split
 ·simp
 ·rename_i hg1
  have hg1 : goneM xs = false := by simpa using hg1
  have hcl := goneU_false _ hg1
  have hwh : (W * H).toNat = xs.length / 4 := by omega
  have hL1' : 0 < (distX xs (W * H).toNat).length := by
   obtain ⟨n, hn⟩ : ∃ n, (W * H).toNat = n + 1 := ⟨(W * H).toNat - 1, by omega⟩
   rw [hn]
   exact List.length_pos_of_mem (distX_mem xs n)
  have hc := distX_clear (xs := xs) (W * H).toNat (by rw [hwh]; exact hcl)
  have hp := allN_pos hc _ hL1' (Nat.le_refl _)
  have e : pal0G W H xs = palV (allN (distX xs (W * H).toNat) (distX xs (W * H).toNat).length) 256 := by
   unfold pal0G palR
   rw [hg1, if_pos hb, if_neg (by simp)]; rfl
  rw [e]
  unfold palV
  split
  ·exact hp
  ·rename_i hm
   rw [List.length_map, (spN_ok _ (by omega)).len]; omega
end Go.Proofs.YtiiaihiliimcoaaGreat
namespace Go.Proofs.YtiiaihiliimcoaaGreat
open Go Go.Vc
set_option maxRecDepth 100000
def vc_gif_Encode (x1 x2 : Int) (sa1 : Option Addr) (sl1 sc1 : Nat) (w : World) (R : Ending → World → Prop) : Prop :=
 ∀ k1 : Nat,
 w.heap.size ≤ k1 →
 ∀ w1 : World,
 Locl [k1] w w1 →
 Calls P F.raster_Good #[.agg #[.int .i64 x1, .int .i64 x2, .slice sa1 sl1 sc1]] w1 fun e1 w2 =>
 ∃ c1 : Bool,
 (e1 = .returned (.bool c1)) ∧
 Keep [k1] w1 w2 ∧
 brB (!c1)
 (R (.returned (.tuple #[.slice none 0 0, .int .i64 6])) w2)
 (∃ I1 : List Value → World → Prop,
 ∃ m1 : List Value → World → Nat,
 (I1 [.bool false, .int .i64 3] w2) ∧
 ∀ (c2 : Bool) (n1 : Int) (w3 : World),
 (I1 [.bool c2, .int .i64 n1] w3) →
 brB (decide (n1 < (sl1 : Int)))
 (∃ I2 : List Value → World → Prop,
 (brB (c2)
 (I2 [.bool true] w3)
 (idx (sa1) (sl1) (n1) (1) fun a1 =>
 ∃ n2 : Int,
 (w3.cell? a1 = some (.int .u16 n2)) ∧
 I2 [.bool (decide (n2 < 32768))] w3)) ∧
 ∀ (c3 : Bool) (w4 : World),
 (I2 [.bool c3] w4) →
 (I1 [.bool c3, .int .i64 (IntKind.i64.wrap (n1 + 4))] w4) ∧
 m1 [.bool c3, .int .i64 (IntKind.i64.wrap (n1 + 4))] w4 < m1 [.bool c2, .int .i64 n1] w3)
 (∃ I3 : List Value → World → Prop,
 (brB (c2)
 (I3 [.int .i64 255] w3)
 (I3 [.int .i64 256] w3)) ∧
 ∀ (n3 : Int) (w5 : World),
 (I3 [.int .i64 n3] w5) →
 Calls P F.quant_Palette #[.agg #[.int .i64 x1, .int .i64 x2, .slice sa1 sl1 sc1], .int .i64 n3] w5 fun e2 w6 =>
 ∃ (p1 : Option Addr) (k2 k3 : Nat) (n4 : Int),
 (e2 = .returned (.tuple #[.slice p1 k2 k3, .int .i64 n4])) ∧
 Keep [k1] w5 w6 ∧
 ∃ I4 : List Value → World → Prop,
 (brB (c2)
 (∀ k4 : Nat,
 w6.heap.size ≤ k4 →
 ∀ w7 : World,
 Locl [k4, k1] w6 w7 →
 appVC (w7) ([(51, k4, [.int .u16 0, .int .u16 0, .int .u16 0, .int .u16 0]), (1, k1, [.int .i64 x1, .int .i64 x2, .slice sa1 sl1 sc1])]) (p1) (k2) (k3) (1) (4) (8) (67) ([.int .u16 0, .int .u16 0, .int .u16 0, .int .u16 0]) ([.int .u16 0, .int .u16 0, .int .u16 0, .int .u16 0]) fun p2 k5 k6 w8 =>
 I4 [.slice p2 k5 k6] w8)
 (I4 [.slice p1 k2 k3] w6)) ∧
 ∀ (p3 : Option Addr) (k7 k8 : Nat) (w9 : World),
 (I4 [.slice p3 k7 k8] w9) →
 Calls P F.quant_Apply #[.agg #[.int .i64 x1, .int .i64 x2, .slice sa1 sl1 sc1], .slice p3 k7 k8] w9 fun e3 w10 =>
 ∃ (n5 n6 : Int) (p4 : Option Addr) (k9 k10 : Nat) (p5 : Option Addr) (k11 k12 : Nat) (n7 : Int),
 (e3 = .returned (.tuple #[.agg #[.int .i64 n5, .int .i64 n6, .slice p4 k9 k10, .slice p5 k11 k12], .int .i64 n7])) ∧
 Keep [k1] w9 w10 ∧
 ∀ k13 : Nat,
 w10.heap.size ≤ k13 →
 ∃ I5 : List Value → World → Prop,
 (brB (c2)
 (∃ I6 : List Value → World → Prop,
 (slcc (p3) (k8) (0) (IntKind.i64.wrap ((k7 : Int) - 1)) (4) fun p6 k14 k15 =>
 (∀ w11 : World,
 Locl [k13, k1] w10 w11 →
 Calls P F.quant_Apply #[.agg #[.int .i64 x1, .int .i64 x2, .slice sa1 sl1 sc1], .slice p6 k14 k15] w11 fun e4 w12 =>
 ∃ (n8 n9 : Int) (p7 : Option Addr) (k16 k17 : Nat) (p8 : Option Addr) (k18 k19 : Nat) (n10 : Int),
 (e4 = .returned (.tuple #[.agg #[.int .i64 n8, .int .i64 n9, .slice p7 k16 k17, .slice p8 k18 k19], .int .i64 n10])) ∧
 Keep [k13, k1] w11 w12 ∧
 ∀ k20 : Nat,
 w12.heap.size ≤ k20 →
 ∀ w13 : World,
 Locl [k20, k13, k1] w12 w13 →
 I6 [.int .i64 n10, .pointer (some { block := k20, off := 0 }), .int .i64 n8, .int .i64 n9, .slice p7 k16 k17, .slice p8 k18 k19] w13) ∧
 ∀ k21 : Nat,
 w10.heap.size ≤ k21 →
 ∀ w14 : World,
 Locl [k21, k13, k1] w10 w14 →
 Calls P F.quant_Apply #[.agg #[.int .i64 x1, .int .i64 x2, .slice sa1 sl1 sc1], .slice p6 k14 k15] w14 fun e5 w15 =>
 ∃ (n11 n12 : Int) (p9 : Option Addr) (k22 k23 : Nat) (p10 : Option Addr) (k24 k25 : Nat) (n13 : Int),
 (e5 = .returned (.tuple #[.agg #[.int .i64 n11, .int .i64 n12, .slice p9 k22 k23, .slice p10 k24 k25], .int .i64 n13])) ∧
 Keep [k21, k13, k1] w14 w15 ∧
 ∀ w16 : World,
 Locl [k21, k13, k1] w15 w16 →
 I6 [.int .i64 n13, .pointer (some { block := k21, off := 0 }), .int .i64 n11, .int .i64 n12, .slice p9 k22 k23, .slice p10 k24 k25] w16) ∧
 ∀ (n14 : Int) (k26 : Nat) (n15 n16 : Int) (p11 : Option Addr) (k27 k28 : Nat) (p12 : Option Addr) (k29 k30 : Nat) (w17 : World),
 (I6 [.int .i64 n14, .pointer (some { block := k26, off := 0 }), .int .i64 n15, .int .i64 n16, .slice p11 k27 k28, .slice p12 k29 k30] w17) →
 ∃ (I7 : List Value → World → Prop) (m2 : List Value → World → Nat),
 (I7 [.int .i64 0] w17) ∧
 ∀ (n17 : Int) (w18 : World),
 (I7 [.int .i64 n17] w18) →
 brB (decide (n17 < (k11 : Int)))
 (∃ I8 : List Value → World → Prop,
 (brB (n14 == 0)
 (idx (sa1) (sl1) (IntKind.i64.wrap (IntKind.i64.wrap (4 * n17) + 3)) (1) fun a2 =>
 ∃ n18 : Int,
 (w18.cell? a2 = some (.int .u16 n18)) ∧
 brB (decide (n18 ≥ 32768))
 (idx (p12) (k29) (n17) (1) fun a3 =>
 ∃ n19 : Int,
 (w18.drew.cell? a3 = some (.int .u8 n19)) ∧
 idx (p5) (k11) (n17) (1) fun a4 =>
 (∃ v1 : Value,
 w18.drew.cell? a4 = some v1) ∧
 (w18.drew.frozen? a4 = false) ∧
 (¬a4.block ∈ [k26, k13, k1]) ∧
 I8 [] (setCells w18.drew a4 [.int .u8 n19] 0))
 (I8 [] w18))
 (I8 [] w18)) ∧
 ∀ w19 : World,
 (I8 [] w19) →
 (I7 [.int .i64 (IntKind.i64.wrap (n17 + 1))] w19) ∧
 m2 [.int .i64 (IntKind.i64.wrap (n17 + 1))] w19 < m2 [.int .i64 n17] w18)
 (I5 [] w18))
 (∀ w20 : World,
 Locl [k13, k1] w10 w20 →
 I5 [] w20)) ∧
 ∀ w21 : World,
 (I5 [] w21) →
 ∃ (I9 : List Value → World → Prop) (m3 : List Value → World → Nat),
 (I9 [.int .i64 1] w21) ∧
 ∀ (n20 : Int) (w22 : World),
 (I9 [.int .i64 n20] w22) →
 (0 ≤ n20) ∧
 brB (decide (shiftZ .shl .i64 1 n20 < (k7 : Int)))
 ((I9 [.int .i64 (IntKind.i64.wrap (n20 + 1))] w22) ∧
 m3 [.int .i64 (IntKind.i64.wrap (n20 + 1))] w22 < m3 [.int .i64 n20] w22)
 (∀ k31 : Nat,
 ∀ w23 : World,
 (New w22 (Obj.cells #[.int .u8 71, .int .u8 73, .int .u8 70, .int .u8 56, .int .u8 57, .int .u8 97] 5) k31 w23) →
 ∃ (y1 : Array Value) (y2 : TypeId),
 (w23.heap[k31]? = some (Obj.cells y1 y2)) ∧
 (¬k31 ∈ [k13, k1]) ∧
 ∀ w24 : World,
 (Mk k31 w23 w24) →
 ∀ (k32 : Nat) (w25 : World),
 (New w24 (Obj.cells #[.slice none 0 0] 22) k32 w25) →
 (∃ v2 : Value,
 w25.cell? { block := k32, off := 0 } = some v2) ∧
 (w25.frozen? { block := k32, off := 0 } = false) ∧
 (¬k32 ∈ [k13, k1]) ∧
 Calls P F.gif_Encode_fn1 #[.int .i64 x1, .pointer (some { block := k32, off := 0 })] (setCells w25 { block := k32, off := 0 } [.slice (some { block := k31, off := 0 }) 6 6] 0) fun e6 w26 =>
 (e6 = .returned (.tuple #[])) ∧
 (Keep ([k13, k1]) (setCells w25 { block := k32, off := 0 } [.slice (some { block := k31, off := 0 }) 6 6] 0) w26) ∧
 Calls P F.gif_Encode_fn1 #[.int .i64 x2, .pointer (some { block := k32, off := 0 })] w26 fun e7 w27 =>
 (e7 = .returned (.tuple #[])) ∧
 Keep [k13, k1] w26 w27 ∧
 ∃ (p13 : Option Addr) (k33 k34 : Nat),
 (w27.cell? { block := k32, off := 0 } = some (.slice p13 k33 k34)) ∧
 ∀ k35 : Nat,
 w27.heap.size ≤ k35 →
 ∀ w28 : World,
 Locl [k35, k13, k1] w27 w28 →
 appVC (w28) ([(121, k35, [.int .u8 (IntKind.u8.wrap (IntKind.i64.wrap (IntKind.i64.wrap (bitsZ .or .i64 128 n20) - 1))), .int .u8 0, .int .u8 0]), (9, k13, [.int .i64 n5, .int .i64 n6, .slice p4 k9 k10, .slice p5 k11 k12]), (1, k1, [.int .i64 x1, .int .i64 x2, .slice sa1 sl1 sc1])]) (p13) (k33) (k34) (3) (1) (1) (5) ([.int .u8 0]) ([.int .u8 (IntKind.u8.wrap (IntKind.i64.wrap (IntKind.i64.wrap (bitsZ .or .i64 128 n20) - 1))), .int .u8 0, .int .u8 0]) fun p14 k36 k37 w29 =>
 (∃ v3 : Value,
 w29.cell? { block := k32, off := 0 } = some v3) ∧
 (w29.frozen? { block := k32, off := 0 } = false) ∧
 (¬k32 ∈ [k35, k13, k1]) ∧
 (0 ≤ n20) ∧
 ∃ (I10 : List Value → World → Prop) (m4 : List Value → World → Nat),
 (I10 [.int .i64 0] (setCells w29 { block := k32, off := 0 } [.slice p14 k36 k37] 0)) ∧
 ∀ (n21 : Int) (w30 : World),
 (I10 [.int .i64 n21] w30) →
 brB (decide (n21 < shiftZ .shl .i64 1 n20))
 (idx (p3) (k7) (0) (4) fun a5 =>
 ∃ n22 n23 n24 n25 : Int,
 (w30.cell? a5 = some (.int .u16 n22)) ∧
 (w30.cell? (a5.add 1) = some (.int .u16 n23)) ∧
 (w30.cell? (a5.add 2) = some (.int .u16 n24)) ∧
 (w30.cell? (a5.add 3) = some (.int .u16 n25)) ∧
 ∀ k38 : Nat,
 w30.heap.size ≤ k38 →
 ∃ I11 : List Value → World → Prop,
 (brB (decide (n21 < (k7 : Int)))
 (idx (p3) (k7) (n21) (4) fun a6 =>
 ∀ w31 : World,
 Locl [k38, k35, k13, k1] w30 w31 →
 ∃ n26 : Int,
 (w31.cell? (a6.add 3) = some (.int .u16 n26)) ∧
 brB (n26 != 0)
 (idx (p3) (k7) (n21) (4) fun a7 =>
 ∃ n27 n28 n29 n30 : Int,
 (w31.cell? a7 = some (.int .u16 n27)) ∧
 (w31.cell? (a7.add 1) = some (.int .u16 n28)) ∧
 (w31.cell? (a7.add 2) = some (.int .u16 n29)) ∧
 (w31.cell? (a7.add 3) = some (.int .u16 n30)) ∧
 ∀ w32 : World,
 Locl [k38, k35, k13, k1] w31 w32 →
 I11 [.int .u16 n27, .int .u16 n28, .int .u16 n29, .int .u16 n30] w32)
 (I11 [.int .u16 n22, .int .u16 n23, .int .u16 n24, .int .u16 n25] w31))
 (∀ w33 : World,
 Locl [k38, k35, k13, k1] w30 w33 →
 I11 [.int .u16 n22, .int .u16 n23, .int .u16 n24, .int .u16 n25] w33)) ∧
 ∀ (n31 n32 n33 n34 : Int) (w34 : World),
 (I11 [.int .u16 n31, .int .u16 n32, .int .u16 n33, .int .u16 n34] w34) →
 ∃ (p15 : Option Addr) (k39 k40 : Nat),
 (w34.cell? { block := k32, off := 0 } = some (.slice p15 k39 k40)) ∧
 ∀ k41 : Nat,
 w34.heap.size ≤ k41 →
 ∀ w35 : World,
 Locl [k41, k38, k35, k13, k1] w34 w35 →
 appVC (w35) ([(160, k41, [.int .u8 (IntKind.u8.wrap (shiftZ .shr .u16 n31 8)), .int .u8 (IntKind.u8.wrap (shiftZ .shr .u16 n32 8)), .int .u8 (IntKind.u8.wrap (shiftZ .shr .u16 n33 8))]), (18, k38, [.int .u16 n31, .int .u16 n32, .int .u16 n33, .int .u16 n34]), (121, k35, [.int .u8 (IntKind.u8.wrap (IntKind.i64.wrap (IntKind.i64.wrap (bitsZ .or .i64 128 n20) - 1))), .int .u8 0, .int .u8 0]), (9, k13, [.int .i64 n5, .int .i64 n6, .slice p4 k9 k10, .slice p5 k11 k12]), (1, k1, [.int .i64 x1, .int .i64 x2, .slice sa1 sl1 sc1])]) (p15) (k39) (k40) (3) (1) (1) (5) ([.int .u8 0]) ([.int .u8 (IntKind.u8.wrap (shiftZ .shr .u16 n31 8)), .int .u8 (IntKind.u8.wrap (shiftZ .shr .u16 n32 8)), .int .u8 (IntKind.u8.wrap (shiftZ .shr .u16 n33 8))]) fun p16 k42 k43 w36 =>
 (∃ v4 : Value,
 w36.cell? { block := k32, off := 0 } = some v4) ∧
 (w36.frozen? { block := k32, off := 0 } = false) ∧
 (¬k32 ∈ [k41, k38, k35, k13, k1]) ∧
 (I10 [.int .i64 (IntKind.i64.wrap (n21 + 1))] (setCells w36 { block := k32, off := 0 } [.slice p16 k42 k43] 0)) ∧
 m4 [.int .i64 (IntKind.i64.wrap (n21 + 1))] (setCells w36 { block := k32, off := 0 } [.slice p16 k42 k43] 0) < m4 [.int .i64 n21] w30)
 (∃ I12 : List Value → World → Prop,
 (brB (c2)
 (∃ p17 : Option Addr,
 ∃ k44 k45 : Nat,
 (w30.cell? { block := k32, off := 0 } = some (.slice p17 k44 k45)) ∧
 ∀ k46 : Nat,
 w30.heap.size ≤ k46 →
 ∀ w37 : World,
 Locl [k46, k35, k13, k1] w30 w37 →
 appVC (w37) ([(169, k46, [.int .u8 33, .int .u8 249, .int .u8 4, .int .u8 1, .int .u8 0, .int .u8 0, .int .u8 (IntKind.u8.wrap (IntKind.i64.wrap ((k7 : Int) - 1))), .int .u8 0]), (121, k35, [.int .u8 (IntKind.u8.wrap (IntKind.i64.wrap (IntKind.i64.wrap (bitsZ .or .i64 128 n20) - 1))), .int .u8 0, .int .u8 0]), (9, k13, [.int .i64 n5, .int .i64 n6, .slice p4 k9 k10, .slice p5 k11 k12]), (1, k1, [.int .i64 x1, .int .i64 x2, .slice sa1 sl1 sc1])]) (p17) (k44) (k45) (8) (1) (1) (5) ([.int .u8 0]) ([.int .u8 33, .int .u8 249, .int .u8 4, .int .u8 1, .int .u8 0, .int .u8 0, .int .u8 (IntKind.u8.wrap (IntKind.i64.wrap ((k7 : Int) - 1))), .int .u8 0]) fun p18 k47 k48 w38 =>
 (∃ v5 : Value,
 w38.cell? { block := k32, off := 0 } = some v5) ∧
 (w38.frozen? { block := k32, off := 0 } = false) ∧
 (¬k32 ∈ [k46, k35, k13, k1]) ∧
 I12 [] (setCells w38 { block := k32, off := 0 } [.slice p18 k47 k48] 0))
 (I12 [] w30)) ∧
 ∀ w39 : World,
 (I12 [] w39) →
 ∃ (p19 : Option Addr) (k49 k50 : Nat),
 (w39.cell? { block := k32, off := 0 } = some (.slice p19 k49 k50)) ∧
 ∀ k51 : Nat,
 w39.heap.size ≤ k51 →
 ∀ w40 : World,
 Locl [k51, k35, k13, k1] w39 w40 →
 appVC (w40) ([(172, k51, [.int .u8 44, .int .u8 0, .int .u8 0, .int .u8 0, .int .u8 0]), (121, k35, [.int .u8 (IntKind.u8.wrap (IntKind.i64.wrap (IntKind.i64.wrap (bitsZ .or .i64 128 n20) - 1))), .int .u8 0, .int .u8 0]), (9, k13, [.int .i64 n5, .int .i64 n6, .slice p4 k9 k10, .slice p5 k11 k12]), (1, k1, [.int .i64 x1, .int .i64 x2, .slice sa1 sl1 sc1])]) (p19) (k49) (k50) (5) (1) (1) (5) ([.int .u8 0]) ([.int .u8 44, .int .u8 0, .int .u8 0, .int .u8 0, .int .u8 0]) fun p20 k52 k53 w41 =>
 (∃ v6 : Value,
 w41.cell? { block := k32, off := 0 } = some v6) ∧
 (w41.frozen? { block := k32, off := 0 } = false) ∧
 (¬k32 ∈ [k51, k35, k13, k1]) ∧
 Calls P F.gif_Encode_fn1 #[.int .i64 x1, .pointer (some { block := k32, off := 0 })] (setCells w41 { block := k32, off := 0 } [.slice p20 k52 k53] 0) fun e8 w42 =>
 (e8 = .returned (.tuple #[])) ∧
 (Keep ([k51, k35, k13, k1]) (setCells w41 { block := k32, off := 0 } [.slice p20 k52 k53] 0) w42) ∧
 Calls P F.gif_Encode_fn1 #[.int .i64 x2, .pointer (some { block := k32, off := 0 })] w42 fun e9 w43 =>
 (e9 = .returned (.tuple #[])) ∧
 Keep [k51, k35, k13, k1] w42 w43 ∧
 Calls P F.lzw_GifPack #[.slice p5 k11 k12, .int .i64 (max n20 2)] w43 fun e10 w44 =>
 ∃ (p21 : Option Addr) (k54 k55 : Nat) (n35 : Int),
 (e10 = .returned (.tuple #[.slice p21 k54 k55, .int .i64 n35])) ∧
 Keep [k51, k35, k13, k1] w43 w44 ∧
 ∃ (p22 : Option Addr) (k56 k57 : Nat),
 (w44.cell? { block := k32, off := 0 } = some (.slice p22 k56 k57)) ∧
 ∀ k58 : Nat,
 w44.heap.size ≤ k58 →
 ∀ w45 : World,
 Locl [k58, k51, k35, k13, k1] w44 w45 →
 appVC (w45) ([(194, k58, [.int .u8 0, .int .u8 (IntKind.u8.wrap (max n20 2))]), (172, k51, [.int .u8 44, .int .u8 0, .int .u8 0, .int .u8 0, .int .u8 0]), (121, k35, [.int .u8 (IntKind.u8.wrap (IntKind.i64.wrap (IntKind.i64.wrap (bitsZ .or .i64 128 n20) - 1))), .int .u8 0, .int .u8 0]), (9, k13, [.int .i64 n5, .int .i64 n6, .slice p4 k9 k10, .slice p5 k11 k12]), (1, k1, [.int .i64 x1, .int .i64 x2, .slice sa1 sl1 sc1])]) (p22) (k56) (k57) (2) (1) (1) (5) ([.int .u8 0]) ([.int .u8 0, .int .u8 (IntKind.u8.wrap (max n20 2))]) fun p23 k59 k60 w46 =>
 (∃ v7 : Value,
 w46.cell? { block := k32, off := 0 } = some v7) ∧
 (w46.frozen? { block := k32, off := 0 } = false) ∧
 (¬k32 ∈ [k58, k51, k35, k13, k1]) ∧
 Calls P F.slices_Chunk_byte #[.slice p21 k54 k55, .int .i64 255] (setCells w46 { block := k32, off := 0 } [.slice p23 k59 k60] 0) fun e11 w47 =>
 ∃ (y3 : FuncId) (y4 y5 : Array Value),
 (e11 = .returned (.func (Fn.func y3) y4 y5)) ∧
 (Keep ([k58, k51, k35, k13, k1]) (setCells w46 { block := k32, off := 0 } [.slice p23 k59 k60] 0) w47) ∧
 ∀ (k61 : Nat) (w48 : World),
 (Rf w47 w48 k61) →
 ∀ (I13 : List Value → World → Prop) (Z1 : Exit → List Value → World → Prop),
 (∀ l1 : List Value,
 ∀ w49 w50 : World,
 (I13 l1 w49) →
 (Keep ([k61, w47.heap.size, k58, k51, k35, k13, k1]) w49 w50) →
 I13 l1 w50) →
 (∀ y6 : Exit,
 ∀ (l2 : List Value) (w51 w52 : World),
 (Z1 y6 l2 w51) →
 (Keep ([k61, w47.heap.size, k58, k51, k35, k13, k1]) w51 w52) →
 Z1 y6 l2 w52) →
 (I13 [] w48) →
 (∀ p24 : Option Addr,
 ∀ (k62 k63 : Nat) (w53 : World) (I14 : Ending → World → Prop),
 (I13 [] w53) →
 (∀ y7 : Obj,
 ∀ (y8 : Obj) (w54 : World),
 (Put k61 w53 w54) →
 ∃ (p25 : Option Addr) (k64 k65 : Nat),
 (w54.cell? { block := k32, off := 0 } = some (.slice p25 k64 k65)) ∧
 ∀ k66 : Nat,
 w54.heap.size ≤ k66 →
 ∀ w55 : World,
 Locl [k66, k58, k51, k35, k13, k1] w54 w55 →
 appVC (w55) ([(203, k66, [.int .u8 (IntKind.u8.wrap (k62 : Int))]), (194, k58, [.int .u8 0, .int .u8 (IntKind.u8.wrap (max n20 2))]), (172, k51, [.int .u8 44, .int .u8 0, .int .u8 0, .int .u8 0, .int .u8 0]), (121, k35, [.int .u8 (IntKind.u8.wrap (IntKind.i64.wrap (IntKind.i64.wrap (bitsZ .or .i64 128 n20) - 1))), .int .u8 0, .int .u8 0]), (9, k13, [.int .i64 n5, .int .i64 n6, .slice p4 k9 k10, .slice p5 k11 k12]), (1, k1, [.int .i64 x1, .int .i64 x2, .slice sa1 sl1 sc1])]) (p25) (k64) (k65) (1) (1) (1) (5) ([.int .u8 0]) ([.int .u8 (IntKind.u8.wrap (k62 : Int))]) fun p26 k67 k68 w56 =>
 ∃ l3 : List Value,
 (l3.length = k62 * 1) ∧
 (oneAll l3 = true) ∧
 (CellsAre w56 p24 l3) ∧
 appVC (w56) ([(203, k66, [.int .u8 (IntKind.u8.wrap (k62 : Int))]), (194, k58, [.int .u8 0, .int .u8 (IntKind.u8.wrap (max n20 2))]), (172, k51, [.int .u8 44, .int .u8 0, .int .u8 0, .int .u8 0, .int .u8 0]), (121, k35, [.int .u8 (IntKind.u8.wrap (IntKind.i64.wrap (IntKind.i64.wrap (bitsZ .or .i64 128 n20) - 1))), .int .u8 0, .int .u8 0]), (9, k13, [.int .i64 n5, .int .i64 n6, .slice p4 k9 k10, .slice p5 k11 k12]), (1, k1, [.int .i64 x1, .int .i64 x2, .slice sa1 sl1 sc1])]) (p26) (k67) (k68) (k62) (1) (1) (5) ([.int .u8 0]) (l3) fun p27 k69 k70 w57 =>
 (∃ v8 : Value,
 w57.cell? { block := k32, off := 0 } = some v8) ∧
 (w57.frozen? { block := k32, off := 0 } = false) ∧
 (¬k32 ∈ [k66, k58, k51, k35, k13, k1]) ∧
 ∀ w58 : World,
 (Put k61 (setCells w57 { block := k32, off := 0 } [.slice p27 k69 k70] 0) w58) →
 (I13 [] w58) →
 I14 (.returned (.bool true)) w58) →
 YieldAt Fence.wide 0 P (k61) #[.slice p24 k62 k63] (w53) I14) →
 callF P (.func (Fn.func y3) y4 y5) [.func (Fn.yield k61) #[] #[]] w48 fun e12 w59 =>
 ∃ v9 : Value,
 (e12 = .returned v9) ∧
 (((I13 [] w59) ∧
 ∀ w60 : World,
 (Put k61 w59 w60) →
 ∃ (p28 : Option Addr) (k71 k72 : Nat),
 (w60.cell? { block := k32, off := 0 } = some (.slice p28 k71 k72)) ∧
 ∀ k73 : Nat,
 w60.heap.size ≤ k73 →
 ∀ w61 : World,
 Locl [k73, k58, k51, k35, k13, k1] w60 w61 →
 appVC (w61) ([(208, k73, [.int .u8 0, .int .u8 59]), (194, k58, [.int .u8 0, .int .u8 (IntKind.u8.wrap (max n20 2))]), (172, k51, [.int .u8 44, .int .u8 0, .int .u8 0, .int .u8 0, .int .u8 0]), (121, k35, [.int .u8 (IntKind.u8.wrap (IntKind.i64.wrap (IntKind.i64.wrap (bitsZ .or .i64 128 n20) - 1))), .int .u8 0, .int .u8 0]), (9, k13, [.int .i64 n5, .int .i64 n6, .slice p4 k9 k10, .slice p5 k11 k12]), (1, k1, [.int .i64 x1, .int .i64 x2, .slice sa1 sl1 sc1])]) (p28) (k71) (k72) (2) (1) (1) (5) ([.int .u8 0]) ([.int .u8 0, .int .u8 59]) fun p29 k74 k75 w62 =>
 ∀ w63 : World,
 (Put (w47.heap.size) w62 w63) →
 R (.returned (.tuple #[.slice p29 k74 k75, .int .i64 0])) w63) ∨
 (False))))))
theorem calls_gif_Encode (x1 x2 : Int) (sa1 : Option Addr) (sl1 sc1 : Nat) (w : World) (R : Ending → World → Prop) (h : vc_gif_Encode x1 x2 sa1 sl1 sc1 w R) : Calls P F.gif_Encode #[.agg #[.int .i64 x1, .int .i64 x2, .slice sa1 sl1 sc1]] w R :=
  calls_of_vc (ac := ac_gif_Encode) mixed Tryz.func11 (by kernel_rfl) (cast (by unfold vc_gif_Encode FnVc; kernel_rfl) h)
end Go.Proofs.YtiiaihiliimcoaaGreat
