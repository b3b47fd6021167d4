/- GridParts: its function answers true, and nothing that was there turns. -/
import Derived.Test.YtpdfpbioolbjjaaGridParts2
namespace Go.Proofs.Ytpdfpbioolbjjaa
open Go Go.Vc Go.RowKit
set_option maxRecDepth 100000
set_option linter.unusedVariables false
set_option linter.unusedSimpArgs false

theorem parts_walk {w : World} {base base' : Option Addr} {len cap len' cap' : Nat} {W H W' H' x y a b : Int} {xs ys : List Int} {R : Ending → World → Prop}
    (hc1 : CellsOk w W H base len cap xs) (hc2 : CellsOk w W' H' base' len' cap' ys) (_ : RectOk x y a b) (hR : ∀ w', Ext w w' → R (.returned (.bool true)) w') :
    Calls P F.law07_GridParts #[.agg #[i64 W, i64 H, .slice base len cap], .agg #[i64 W', i64 H', .slice base' len' cap'], .agg #[i64 x, i64 y, i64 a, i64 b]] w R := by
  have h := hc1.sl
  have hl := hc1.long
  have h' := hc2.sl
  have hl' := hc2.long
  refine calls_law07_GridParts _ _ _ _ _ _ _ _ _ _ _ _ _ _ _ _ ?_
  unfold vc_law07_GridParts
  intro k1 hk1 k2 hk2 k3 hk3 w1 hL1
  have hE1 : Ext w w1 := hL1.ext (by simp; omega)
  have ht1 := hL1.there k1 (by simp)
  have ht2 := hL1.there k2 (by simp)
  have ht3 := hL1.there k3 (by simp)
  have hs1 := hE1.size
  refine wakes_spec fun w2 hE2 => ⟨_, rfl, hE2.keep _, brB_f rfl ?_⟩
  have hE12 := hE1.trans hE2
  have hs2 := hE2.size
  refine both_spec (h.ext hE12) hl hc1.bytes (fun w3 hE3 => ⟨_, _, _, _, _, _, _, _, rfl, hE3.keep _, fun k6 hk6 => brB_t rfl fun w4 hL4 => hR w4 ?_⟩)
    (fun gb cb w3 hE3 hb1 hb2 hg => ⟨_, _, _, _, _, _, _, _, rfl, hE3.keep _, fun k6 hk6 => brB_f rfl fun w5 hL5 => ?_⟩)
  · have hs3 := hE3.size
    exact (hE12.trans hE3).step hL4.chg (by simp; omega)
  have hs3 := hE3.size
  have hs5 := hL5.size
  have ht6 := hL5.there k6 (by simp)
  have hE5 : Ext w w5 := (hE12.trans hE3).step hL5.chg (by simp; omega)
  have hlt := hg.lt
  have hd := hg.dims
  have hok := hg.ok
  rw [ints_length] at hd
  have hlen := hg.len
  rw [ints_length] at hlen
  have hg5 := hg.chg hL5.chg (by simp; omega) (by simp; omega)
  -- behind the parts that are cut out
  have rest : ∀ w12, (Ext w w12 ∧ GridAt w12 (some ⟨gb, 0, none⟩) gb cb W H (ints xs) ∧ w5.heap.size ≤ w12.heap.size) → ∀ k9, w5.heap.size ≤ k9 → k9 < w12.heap.size → Calls P F.law07_both #[Value.agg #[Value.int IntKind.i64 W', Value.int IntKind.i64 H', Value.slice base' len' cap']] w12 fun e6 w13 =>
      ∃ p5 : Option Addr, ∃ n7 : Int, ∃ n8 : Int, ∃ p6 : Option Addr, ∃ k10 : Nat, ∃ k11 : Nat, ∃ c5 : Bool, ∃ c6 : Bool,
      (e6 = Ending.returned (Value.tuple #[Value.pointer p5, Value.agg #[Value.int IntKind.i64 n7, Value.int IntKind.i64 n8, Value.slice p6 k10 k11], Value.bool c5, Value.bool c6])) ∧
      (Keep ([k9, k6, k3, k2, k1]) w12 w13) ∧
      ∀ k12 : Nat,
      (w13.heap.size ≤ k12) →
      brB (!c5)
        (brB (c6)
          (∀ w14 : World,
          (Locl ([k12, k9, k6, k3, k2, k1]) w13 w14) →
          Calls P F.grid_Grid_int_Paste #[Value.pointer (some ⟨gb, 0, none⟩), Value.int IntKind.i64 0, Value.int IntKind.i64 0, Value.pointer none] w14 fun e7 w15 =>
          ∃ n9 : Int,
          (e7 = Ending.returned (Value.int IntKind.i64 n9)) ∧
          (Keep ([k12, k9, k6, k3, k2, k1]) w14 w15) ∧
          R (Ending.returned (Value.bool (n9 == 1))) w15)
          (∀ w16 : World,
          (Locl ([k12, k9, k6, k3, k2, k1]) w13 w16) →
          R (Ending.returned (Value.bool false)) w16))
        (∀ w17 : World,
        (Locl ([k12, k9, k6, k3, k2, k1]) w13 w17) →
        Calls P F.grid_Grid_int_Paste #[Value.pointer (some ⟨gb, 0, none⟩), Value.int IntKind.i64 x, Value.int IntKind.i64 y, Value.pointer p5] w17 fun e8 w18 =>
        ∃ n10 : Int,
        (e8 = Ending.returned (Value.int IntKind.i64 n10)) ∧
        (Keep ([k12, k9, k6, k3, k2, k1]) w17 w18) ∧
        Calls P F.ref07_Paste #[Value.agg #[Value.int IntKind.i64 W, Value.int IntKind.i64 H, Value.slice base len cap], Value.int IntKind.i64 x, Value.int IntKind.i64 y, Value.agg #[Value.int IntKind.i64 n7, Value.int IntKind.i64 n8, Value.slice p6 k10 k11]] w18 fun e9 w19 =>
        ∃ n11 : Int, ∃ n12 : Int, ∃ p7 : Option Addr, ∃ k13 : Nat, ∃ k14 : Nat, ∃ n13 : Int,
        (e9 = Ending.returned (Value.tuple #[Value.agg #[Value.int IntKind.i64 n11, Value.int IntKind.i64 n12, Value.slice p7 k13 k14], Value.int IntKind.i64 n13])) ∧
        (Keep ([k12, k9, k6, k3, k2, k1]) w18 w19) ∧
        brB (n10 != n13)
          (∀ w20 : World,
          (Locl ([k12, k9, k6, k3, k2, k1]) w19 w20) →
          R (Ending.returned (Value.bool false)) w20)
          (∀ w21 : World,
          (Locl ([k12, k9, k6, k3, k2, k1]) w19 w21) →
          Calls P F.law07_same #[Value.pointer (some ⟨gb, 0, none⟩), Value.agg #[Value.int IntKind.i64 n11, Value.int IntKind.i64 n12, Value.slice p7 k13 k14]] w21 fun e10 w22 =>
          ∃ c7 : Bool,
          (e10 = Ending.returned (Value.bool c7)) ∧
          (Keep ([k12, k9, k6, k3, k2, k1]) w21 w22) ∧
          brB (!c7)
            (R (Ending.returned (Value.bool false)) w22)
            (Calls P F.law07_same #[Value.pointer p5, Value.agg #[Value.int IntKind.i64 n7, Value.int IntKind.i64 n8, Value.slice p6 k10 k11]] w22 fun e11 w23 =>
            ∃ c8 : Bool,
            (e11 = Ending.returned (Value.bool c8)) ∧
            (Keep ([k12, k9, k6, k3, k2, k1]) w22 w23) ∧
            brB (!c8)
              (R (Ending.returned (Value.bool false)) w23)
              (Calls P F.grid_Grid_int_Paste #[Value.pointer (some ⟨gb, 0, none⟩), Value.int IntKind.i64 0, Value.int IntKind.i64 0, Value.pointer (some ⟨gb, 0, none⟩)] w23 fun e12 w24 =>
              ∃ n14 : Int,
              (e12 = Ending.returned (Value.int IntKind.i64 n14)) ∧
              (Keep ([k12, k9, k6, k3, k2, k1]) w23 w24) ∧
              brB (n14 == 0)
                (Calls P F.law07_same #[Value.pointer (some ⟨gb, 0, none⟩), Value.agg #[Value.int IntKind.i64 n11, Value.int IntKind.i64 n12, Value.slice p7 k13 k14]] w24 fun e13 w25 =>
                ∃ c9 : Bool,
                (e13 = Ending.returned (Value.bool c9)) ∧
                (Keep ([k12, k9, k6, k3, k2, k1]) w24 w25) ∧
                R (Ending.returned (Value.bool c9)) w25)
                (R (Ending.returned (Value.bool false)) w24))))) := by
    intro w12 hI k9 hk9 hk9'
    obtain ⟨hE, hg12, hs12⟩ := hI
    have hsE := hE.size
    refine both_spec (h'.ext hE) hl' hc2.bytes (fun w13 hE13 => ⟨_, _, _, _, _, _, _, _, rfl, hE13.keep _, fun k12 hk12 => brB_t rfl (brB_t rfl fun w14 hL14 => ?_)⟩)
      (fun gb' cb' w13 hE13 hb3 hb4 hh => ⟨_, _, _, _, _, _, _, _, rfl, hE13.keep _, fun k12 hk12 => brB_f rfl fun w17 hL17 => ?_⟩)
    · have hs13 := hE13.size
      refine calls_grid_Grid_int_Paste _ _ _ _ _ _ (brB_t rfl ⟨_, rfl, (Ext.refl _).keep _, to_bool (hR w14 ?_) rfl⟩)
      exact (hE.trans hE13).step hL14.chg (by simp; omega)
    have hs13 := hE13.size
    have hs17 := hL17.size
    have ht12 := hL17.there k12 (by simp)
    have hE17 : Ext w w17 := (hE.trans hE13).step hL17.chg (by simp; omega)
    have hlth := hh.lt
    have hg17 := (hg12.ext hE13).chg hL17.chg (by simp; omega) (by simp; omega)
    have hh17 := hh.chg hL17.chg (by simp; omega) (by simp; omega)
    have hdh := hh.dims
    have hokh := hh.ok
    rw [ints_length] at hdh
    have hlenh := hh.len
    rw [ints_length] at hlenh
    -- behind the document's part
    have tail : ∀ (zs : List Int) (p7 : Option Addr) (k14 : Nat) (w21 : World), zs.length = len → Ext w w21 → w17.heap.size ≤ w21.heap.size → GridAt w21 (some ⟨gb, 0, none⟩) gb cb W H (ints zs) → GridAt w21 (some ⟨gb', 0, none⟩) gb' cb' W' H' (ints ys) → (∀ w24, Ext w w24 → Chg (· = cb) w21 w24 → ∃ M, Sl M w24 p7 (ints zs)) →
        Calls P F.law07_same #[Value.pointer (some ⟨gb, 0, none⟩), Value.agg #[Value.int IntKind.i64 W, Value.int IntKind.i64 H, Value.slice p7 len k14]] w21 fun e10 w22 =>
          ∃ c7 : Bool,
          (e10 = Ending.returned (Value.bool c7)) ∧
          (Keep ([k12, k9, k6, k3, k2, k1]) w21 w22) ∧
          brB (!c7)
            (R (Ending.returned (Value.bool false)) w22)
            (Calls P F.law07_same #[Value.pointer (some ⟨gb', 0, none⟩), Value.agg #[Value.int IntKind.i64 W', Value.int IntKind.i64 H', Value.slice base' len' cap']] w22 fun e11 w23 =>
            ∃ c8 : Bool,
            (e11 = Ending.returned (Value.bool c8)) ∧
            (Keep ([k12, k9, k6, k3, k2, k1]) w22 w23) ∧
            brB (!c8)
              (R (Ending.returned (Value.bool false)) w23)
              (Calls P F.grid_Grid_int_Paste #[Value.pointer (some ⟨gb, 0, none⟩), Value.int IntKind.i64 0, Value.int IntKind.i64 0, Value.pointer (some ⟨gb, 0, none⟩)] w23 fun e12 w24 =>
              ∃ n14 : Int,
              (e12 = Ending.returned (Value.int IntKind.i64 n14)) ∧
              (Keep ([k12, k9, k6, k3, k2, k1]) w23 w24) ∧
              brB (n14 == 0)
                (Calls P F.law07_same #[Value.pointer (some ⟨gb, 0, none⟩), Value.agg #[Value.int IntKind.i64 W, Value.int IntKind.i64 H, Value.slice p7 len k14]] w24 fun e13 w25 =>
                ∃ c9 : Bool,
                (e13 = Ending.returned (Value.bool c9)) ∧
                (Keep ([k12, k9, k6, k3, k2, k1]) w24 w25) ∧
                R (Ending.returned (Value.bool c9)) w25)
                (R (Ending.returned (Value.bool false)) w24))) := by
      intro zs p7 k14 w21 hz hE21 hs21 hg21 hh21 hsl
      obtain ⟨M1, hsl1⟩ := hsl w21 hE21 (Chg.refl _ _)
      refine same07_spec hg21 hsl1 hz.symm fun w22 hE22 => ⟨_, rfl, hE22.keep _, brB_f (by simp) ?_⟩
      have hE22' := hE21.trans hE22
      refine same07_spec (hh21.ext hE22) (h'.ext hE22') hl' fun w23 hE23 => ⟨_, rfl, hE23.keep _, brB_f (by simp) ?_⟩
      have hE23' := hE22'.trans hE23
      have hg23 := (hg21.ext hE22).ext hE23
      have hzl : zs.length = W.toNat * H.toNat := by
        have : ((W.toNat * H.toNat : Nat) : Int) = W * H := by rw [Int.natCast_mul]; congr 1 <;> omega
        omega
      refine Paste_spec (cur := fun _ => zs) (src := fun _ => zs) (n := zs.length) (m := zs.length) hg23 hg23 (fun _ k _ => ⟨rfl, rfl⟩) (fun k w' w'' hk _ _ _ hg => ?_) (fun hw => ?_) (fun _ w24 hC24 hg24 _ => ⟨_, rfl, hC24.keep (by simp; omega), brB_t rfl ?_⟩)
      · have e0 : ((0 + (k : Int)) * W + 0).toNat = k * W.toNat := by
          have : ((k * W.toNat : Nat) : Int) = k * W := by rw [Int.natCast_mul]; congr 1; omega
          simp only [Int.zero_add, Int.add_zero]; omega
        have hle : k * W.toNat + W.toNat ≤ zs.length := by
          have : (k + 1) * W.toNat ≤ H.toNat * W.toNat := Nat.mul_le_mul_right _ (by omega)
          rw [hzl, Nat.mul_comm W.toNat]
          rw [Nat.add_mul, Nat.one_mul] at this; exact this
        rw [e0, splice_self hle] at hg
        exact ⟨hg, hg⟩
      · simp [within] at hw; omega
      · have hE24 : Ext w w24 := hE23'.step hC24 (fun i hi => by omega)
        obtain ⟨M2, hsl2⟩ := hsl w24 hE24 ((hE22.trans hE23).chg.trans hC24 fun i hi _ => hi)
        exact same07_spec hg24 hsl2 hz.symm fun w25 hE25 => ⟨_, rfl, hE25.keep _, to_bool (hR w25 (hE24.trans hE25)) (by simp)⟩
    refine Paste_spec (cur := pasteL xs W x y ys W') (src := fun _ => ys) (n := xs.length) (m := ys.length) hg17 hh17 (fun hw k hk => ⟨pasteL_length hw hd.2.2.1 hd.2.2.2.1 hlen hlenh k hk, rfl⟩) (fun k w' w'' hk hw hsrc hc hg => ⟨hg, hsrc.chg hc (by omega) (by omega)⟩) (fun hw w18 hE18 => ⟨_, rfl, hE18.keep _, ?_⟩) (fun hw w18 hC18 hg18 hh18 => ⟨_, rfl, hC18.keep (by simp; omega), ?_⟩)
    · have hE18' := hE17.trans hE18
      refine refPaste_spec (h.ext hE18') hl hok hlen (h'.ext hE18') hl' hokh hlenh (fun _ w19 hE19 => ⟨_, _, _, _, _, _, rfl, hE19.keep _, brB_f rfl fun w21 hL21 => ?_⟩) (fun hw' => by rw [hw] at hw'; cases hw')
      have hE19' := hE18'.trans hE19
      have hE21 : Ext w w21 := hE19'.step hL21.chg (by simp; omega)
      have hs18 := hE18.size
      have hs19 := hE19.size
      have hs21 := hL21.size
      exact tail xs base cap w21 hl.symm hE21 (by omega) (((hg17.ext hE18).ext hE19).chg hL21.chg (by simp; omega) (by simp; omega)) (((hh17.ext hE18).ext hE19).chg hL21.chg (by simp; omega) (by simp; omega)) (fun w24 hE24 _ => ⟨_, h.ext hE24⟩)
    · have hE18' : Ext w w18 := hE17.step hC18 (fun i hi => by omega)
      refine refPaste_spec (h.ext hE18') hl hok hlen (h'.ext hE18') hl' hokh hlenh (fun hw' => by rw [hw] at hw'; cases hw') (fun _ p cp w19 hE19 ho19 => ⟨_, _, _, _, _, _, rfl, hE19.keep _, brB_f rfl fun w21 hL21 => ?_⟩)
      have hE19' := hE18'.trans hE19
      have hE21 : Ext w w21 := hE19'.step hL21.chg (by simp; omega)
      have hs18 := hC18.size
      have hs19 := hE19.size
      have hs21 := hL21.size
      have ho21 := ho19.chg hL21.chg (by simp; omega)
      refine tail _ p cp w21 ?_ hE21 (by omega) ((hg18.ext hE19).chg hL21.chg (by simp; omega) (by simp; omega)) ((hh18.ext hE19).chg hL21.chg (by simp; omega) (by simp; omega)) (fun w24 hE24 hC24 => ⟨w24.heap.size, ?_⟩)
      · rw [pasteL_length hw hd.2.2.1 hd.2.2.2.1 hlen hlenh _ (by omega)]; exact hl.symm
      · exact ((ho21.chg hC24 (fun i hi _ => by omega)).own (N := 0) (M := w24.heap.size) fun i _ hi => ⟨by omega, hi⟩).sl
  refine Crop_spec hg5 (fun hw w6 hE6 => ⟨_, _, rfl, hE6.keep _, ?_⟩) (fun hw g c w6 hE6 hb3 hb4 hp => ⟨_, _, rfl, hE6.keep _, ?_⟩)
  · have hE6' := hE5.trans hE6
    refine refCrop_spec (h.ext hE6') hl hok hlen (fun _ w7 hE7 => ⟨_, _, _, _, _, _, rfl, hE7.keep _, fun k9 hk9 => ?_⟩) (fun hw' => by rw [hw] at hw'; cases hw')
    have hs6 := hE6.size
    have hs7 := hE7.size
    have hE7' := hE6'.trans hE7
    refine ⟨fun l w' => match l with | [] => (Ext w w' ∧ GridAt w' (some ⟨gb, 0, none⟩) gb cb W H (ints xs) ∧ w5.heap.size ≤ w'.heap.size) ∧ k9 < w'.heap.size | _ => False, brB_f rfl (brB_f rfl fun w11 hL11 => ?_), fun w12 hI => rest w12 hI.1 k9 (by omega) hI.2⟩
    have hs11 := hL11.size
    exact ⟨⟨hE7'.step hL11.chg (by simp; omega), ((hg5.ext hE6).ext hE7).chg hL11.chg (by simp; omega) (by simp; omega), by omega⟩, hL11.there k9 (by simp)⟩
  · have hE6' := hE5.trans hE6
    refine refCrop_spec (h.ext hE6') hl hok hlen (fun hw' => by rw [hw] at hw'; cases hw') (fun _ p ln cp w7 hE7 ho7 => ⟨_, _, _, _, _, _, rfl, hE7.keep _, fun k9 hk9 => ?_⟩)
    have hs6 := hE6.size
    have hs7 := hE7.size
    have hE7' := hE6'.trans hE7
    have hlp := hp.lt
    have hlo := ho7.len
    rw [ints_length] at hlo
    refine ⟨fun l w' => match l with | [] => (Ext w w' ∧ GridAt w' (some ⟨gb, 0, none⟩) gb cb W H (ints xs) ∧ w5.heap.size ≤ w'.heap.size) ∧ k9 < w'.heap.size | _ => False, brB_f rfl (brB_t rfl fun w9 hL9 => ?_), fun w12 hI => rest w12 hI.1 k9 (by omega) hI.2⟩
    have hs9 := hL9.size
    refine same07_spec ((hp.ext hE7).chg hL9.chg (by simp; omega) (by simp; omega)) (ho7.chg hL9.chg (by simp; omega)).sl hlo fun w10 hE10 => ⟨_, rfl, hE10.keep _, brB_f (by simp) ?_⟩
    have hs10 := hE10.size
    have ht9 := hL9.there k9 (by simp)
    exact ⟨⟨(hE7'.step hL9.chg (by simp; omega)).trans hE10, (((hg5.ext hE6).ext hE7).chg hL9.chg (by simp; omega) (by simp; omega)).ext hE10, by omega⟩, by omega⟩
end Go.Proofs.Ytpdfpbioolbjjaa
