/- Moves: the table of operators; find; names. -/
import Derived.Test.YtdephacjcljinaaML0
namespace Go.Proofs.Ytdephacjcljinaa
open Go Go.Vc Go.RowKit
set_option maxRecDepth 100000
set_option linter.unusedVariables false
set_option linter.unusedSimpArgs false

abbrev sCrop : ByteArray := { data := #[99, 114, 111, 112] }
abbrev sFlip : ByteArray := { data := #[102, 108, 105, 112] }
abbrev sFlop : ByteArray := { data := #[102, 108, 111, 112] }
abbrev sRotate : ByteArray := { data := #[114, 111, 116, 97, 116, 101] }
abbrev sTranspose : ByteArray := { data := #[116, 114, 97, 110, 115, 112, 111, 115, 101] }
abbrev sTransverse : ByteArray := { data := #[116, 114, 97, 110, 115, 118, 101, 114, 115, 101] }
abbrev sRoll : ByteArray := { data := #[114, 111, 108, 108] }
abbrev sResize : ByteArray := { data := #[114, 101, 115, 105, 122, 101] }
abbrev sZoom : ByteArray := { data := #[122, 111, 111, 109] }
abbrev sTile : ByteArray := { data := #[116, 105, 108, 101] }
abbrev sExtend : ByteArray := { data := #[101, 120, 116, 101, 110, 100] }
abbrev sFrame : ByteArray := { data := #[102, 114, 97, 109, 101] }
abbrev sShrink : ByteArray := { data := #[115, 104, 114, 105, 110, 107] }
abbrev sTrim : ByteArray := { data := #[116, 114, 105, 109] }
def names14 : List ByteArray := [sCrop, sFlip, sFlop, sRotate, sTranspose, sTransverse, sRoll, sResize, sZoom, sTile, sExtend, sFrame, sShrink, sTrim]
def bndOf (op : ByteArray) : List Int :=
  if op = sCrop then [0, 4095, 0, 4095, 1, 4096, 1, 4096] else if op = sRotate then [1, 3] else if op = sRoll then [-4096, 4096, -4096, 4096] else if op = sResize then [1, 4096, 1, 4096] else if op = sZoom then [1, 64] else if op = sTile then [1, 64, 1, 64] else if op = sExtend then [0, 4096, 0, 4096, 0, 4096, 0, 4096] else if op = sFrame then [1, 1024, 0, 65535, 0, 65535, 0, 65535, 0, 65535] else if op = sShrink then [1, 64] else []
abbrev fnO (o : Option Nat) : Value := match o with | some n => fnV n | none => .nilFunc
def szF (op : ByteArray) : Nat :=
  if op = sCrop then F.moves_operators_fn1 else if op = sRotate then F.moves_operators_fn5 else if op = sTranspose then F.moves_aside else if op = sTransverse then F.moves_aside else if op = sResize then F.moves_operators_fn10 else if op = sZoom then F.moves_operators_fn12 else if op = sTile then F.moves_operators_fn14 else if op = sExtend then F.moves_operators_fn16 else if op = sFrame then F.moves_operators_fn18 else if op = sShrink then F.moves_operators_fn20 else F.moves_same
def frF (op : ByteArray) : Option Nat :=
  if op = sCrop then some F.moves_operators_fn2 else if op = sFlip then some F.moves_operators_fn3 else if op = sFlop then some F.moves_operators_fn4 else if op = sRotate then some F.moves_operators_fn6 else if op = sTranspose then some F.moves_operators_fn7 else if op = sTransverse then some F.moves_operators_fn8 else if op = sRoll then some F.moves_operators_fn9 else if op = sResize then some F.moves_operators_fn11 else if op = sZoom then some F.moves_operators_fn13 else if op = sTile then some F.moves_operators_fn15 else if op = sExtend then some F.moves_operators_fn17 else if op = sFrame then some F.moves_operators_fn19 else none
/-- a row of the table -/
structure Rw where
  nm : ByteArray
  p : Option Addr
  n : Nat
def rwC (r : Rw) : List Value := [.string r.nm, .slice r.p r.n r.n, fnV (szF r.nm), fnO (frF r.nm)]
/-- the table stands there, in blocks from N to M -/
structure Tab (N M : Nat) (w : World) (k : Nat) (rs : List Rw) : Prop where
  cs : Cs w k (cellsF rwC rs)
  k0 : N ≤ k ∧ k < M
  nm : rs.map (·.nm) = names14
  bd : ∀ r, r ∈ rs → 2 * r.n = (bndOf r.nm).length ∧ (r.n = 0 ∨ ∃ b, r.p = some ⟨b, 0, none⟩ ∧ N ≤ b ∧ b < M ∧ Cs w b (i64s (bndOf r.nm)))
theorem Tab.chg {S : Nat → Prop} {N M : Nat} {w w' : World} {k : Nat} {rs : List Rw} (h : Tab N M w k rs) (hc : Chg S w w') (hS : ∀ b, N ≤ b → b < M → ¬ S b) : Tab N M w' k rs :=
  ⟨h.cs.chg hc (hS k h.k0.1 h.k0.2), h.k0, h.nm, fun r hr => ⟨(h.bd r hr).1, (h.bd r hr).2.imp id fun ⟨b, e, h1, h2, h3⟩ => ⟨b, e, h1, h2, h3.chg hc (hS b h1 h2)⟩⟩⟩
theorem Tab.ext {N M : Nat} {w w' : World} {k : Nat} {rs : List Rw} (h : Tab N M w k rs) (hE : Ext w w') : Tab N M w' k rs := h.chg (S := fun _ => False) hE.chg fun _ _ _ h => h
theorem Tab.len {N M : Nat} {w : World} {k : Nat} {rs : List Rw} (h : Tab N M w k rs) : rs.length = 14 := by
  have := congrArg List.length h.nm
  rw [List.length_map] at this; exact this
theorem operators_spec {w : World} {R : Ending → World → Prop} (hR : ∀ k w' rs, Ext w w' → Tab w.heap.size w'.heap.size w' k rs → R (.returned (.slice (some ⟨k, 0, none⟩) 14 14)) w') : Calls P F.moves_operators #[] w R := by
  refine calls_moves_operators _ _ ?_
  intro k1 hk1 k2 hk2 k3 hk3 k4 hk4 k5 hk5 w1 hL1 k6 w2 n6 k7 w3 n7 k8 w4 n8 k9 w5 n9 k10 w6 n10 k11 w7 n11 k12 w8 n12 k13 w9 n13 k14 w10 n14 k15 w11 n15
  have hE1 : Ext w w1 := hL1.ext (by simp; omega)
  have hs := hE1.size
  have s6 := n6.ext.size
  have z6 := n6.size
  have e6 := n6.1
  have s7 := n7.ext.size
  have z7 := n7.size
  have e7 := n7.1
  have s8 := n8.ext.size
  have z8 := n8.size
  have e8 := n8.1
  have s9 := n9.ext.size
  have z9 := n9.size
  have e9 := n9.1
  have s10 := n10.ext.size
  have z10 := n10.size
  have e10 := n10.1
  have s11 := n11.ext.size
  have z11 := n11.size
  have e11 := n11.1
  have s12 := n12.ext.size
  have z12 := n12.size
  have e12 := n12.1
  have s13 := n13.ext.size
  have z13 := n13.size
  have e13 := n13.1
  have s14 := n14.ext.size
  have z14 := n14.size
  have e14 := n14.1
  have s15 := n15.ext.size
  have z15 := n15.size
  have e15 := n15.1
  have c6 := (((((((((n6.cs).ext n7.ext).ext n8.ext).ext n9.ext).ext n10.ext).ext n11.ext).ext n12.ext).ext n13.ext).ext n14.ext).ext n15.ext
  have c7 := ((((((((n7.cs).ext n8.ext).ext n9.ext).ext n10.ext).ext n11.ext).ext n12.ext).ext n13.ext).ext n14.ext).ext n15.ext
  have c8 := (((((((n8.cs).ext n9.ext).ext n10.ext).ext n11.ext).ext n12.ext).ext n13.ext).ext n14.ext).ext n15.ext
  have c9 := ((((((n9.cs).ext n10.ext).ext n11.ext).ext n12.ext).ext n13.ext).ext n14.ext).ext n15.ext
  have c10 := (((((n10.cs).ext n11.ext).ext n12.ext).ext n13.ext).ext n14.ext).ext n15.ext
  have c11 := ((((n11.cs).ext n12.ext).ext n13.ext).ext n14.ext).ext n15.ext
  have c12 := (((n12.cs).ext n13.ext).ext n14.ext).ext n15.ext
  have c13 := ((n13.cs).ext n14.ext).ext n15.ext
  have c14 := (n14.cs).ext n15.ext
  refine hR k15 w11 [⟨sCrop, some ⟨k6, 0, none⟩, 4⟩, ⟨sFlip, none, 0⟩, ⟨sFlop, none, 0⟩, ⟨sRotate, some ⟨k7, 0, none⟩, 1⟩, ⟨sTranspose, none, 0⟩, ⟨sTransverse, none, 0⟩, ⟨sRoll, some ⟨k8, 0, none⟩, 2⟩, ⟨sResize, some ⟨k9, 0, none⟩, 2⟩, ⟨sZoom, some ⟨k10, 0, none⟩, 1⟩, ⟨sTile, some ⟨k11, 0, none⟩, 2⟩, ⟨sExtend, some ⟨k12, 0, none⟩, 4⟩, ⟨sFrame, some ⟨k13, 0, none⟩, 5⟩, ⟨sShrink, some ⟨k14, 0, none⟩, 1⟩, ⟨sTrim, none, 0⟩] ?_ ⟨n15.cs, by omega, rfl, ?_⟩
  · exact ((((((((((hE1.trans n6.ext).trans n7.ext).trans n8.ext).trans n9.ext).trans n10.ext).trans n11.ext).trans n12.ext).trans n13.ext).trans n14.ext).trans n15.ext)
  · intro r hr
    simp only [List.mem_cons, List.not_mem_nil, or_false] at hr
    rcases hr with rfl | rfl | rfl | rfl | rfl | rfl | rfl | rfl | rfl | rfl | rfl | rfl | rfl | rfl
    · exact ⟨rfl, .inr ⟨k6, rfl, by omega, by omega, c6⟩⟩
    · exact ⟨rfl, .inl rfl⟩
    · exact ⟨rfl, .inl rfl⟩
    · exact ⟨rfl, .inr ⟨k7, rfl, by omega, by omega, c7⟩⟩
    · exact ⟨rfl, .inl rfl⟩
    · exact ⟨rfl, .inl rfl⟩
    · exact ⟨rfl, .inr ⟨k8, rfl, by omega, by omega, c8⟩⟩
    · exact ⟨rfl, .inr ⟨k9, rfl, by omega, by omega, c9⟩⟩
    · exact ⟨rfl, .inr ⟨k10, rfl, by omega, by omega, c10⟩⟩
    · exact ⟨rfl, .inr ⟨k11, rfl, by omega, by omega, c11⟩⟩
    · exact ⟨rfl, .inr ⟨k12, rfl, by omega, by omega, c12⟩⟩
    · exact ⟨rfl, .inr ⟨k13, rfl, by omega, by omega, c13⟩⟩
    · exact ⟨rfl, .inr ⟨k14, rfl, by omega, by omega, c14⟩⟩
    · exact ⟨rfl, .inl rfl⟩
end Go.Proofs.Ytdephacjcljinaa
