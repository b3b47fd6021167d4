/- The walks of BitsNil, BitsStuffs and BitsNumbers. -/
import Derived.Test.YtlmnooodinfifaaBitsArgs
import Derived.Test.YtlmnooodinfifaaBits8
import Derived.Test.YtlmnooodinfifaaBits9
import Derived.Test.YtlmnooodinfifaaBits10
namespace Go.Proofs.Ytlmnooodinfifaa
open Go Go.Vc Go.RowKit
set_option maxRecDepth 100000
set_option linter.unusedVariables false
set_option linter.unusedSimpArgs false

theorem nil_walk {W : World} {x v : Int} {R : Ending → World → Prop} (hx : (Lit.int .i64 x).wf = true) (hv : (Lit.int .u32 v).wf = true) (hR : ∀ w', Ext W w' → R (.returned (.bool true)) w') :
    Calls P F.law01_BitsNil #[.int .i64 x, .int .u32 v] W R := by
  refine calls_law01_BitsNil _ _ _ _ ?_
  refine wakes_spec fun w1 hE1 => ⟨_, rfl, brB_f rfl ?_⟩
  refine calls_bits_Reader_Take _ _ _ _ (brB_t rfl ⟨_, _, rfl, ?_⟩)
  refine calls_bits_Reader_Bytes _ _ _ _ (brB_t rfl ⟨_, _, _, _, rfl, ?_⟩)
  refine calls_bits_Reader_Align _ _ _ (brB_f rfl ⟨rfl, ?_⟩)
  refine calls_bits_Writer_Align _ _ _ (brB_f rfl ⟨rfl, brB_t rfl ?_⟩)
  refine calls_bits_Writer_Put _ _ _ _ _ (brB_t rfl ⟨_, rfl, brB_t rfl ?_⟩)
  refine calls_bits_Reader_Left _ _ _ (brB_t rfl ⟨_, rfl, ?_⟩)
  refine calls_bits_Reader_Place _ _ _ (brB_t rfl ⟨_, rfl, ?_⟩)
  refine calls_bits_Writer_Len _ _ _ (brB_t rfl ⟨_, rfl, ?_⟩)
  refine calls_bits_Writer_Bytes _ _ _ (brB_t rfl ⟨_, _, _, rfl, ?_⟩)
  exact hR w1 hE1

theorem stuffs_walk {W : World} {b : Option Addr} {len cap : Nat} {xs : List Int} {R : Ending → World → Prop} (h : BytesOk W b len cap xs ∧ len ≤ 1048576) (hR : ∀ w', Ext W w' → R (.returned (.bool true)) w') :
    Calls P F.law01_BitsStuffs #[.slice b len cap] W R := by
  obtain ⟨h, hsz⟩ := h
  have hl := h.long
  refine calls_law01_BitsStuffs _ _ _ _ _ ?_
  refine wakes_spec fun w1 hE1 => ⟨_, rfl, brB_f rfl ?_⟩
  refine own_spec (h.sl.ext hE1) hl (by omega) fun p1 c1 w2 hE2 ho2 => ⟨_, _, _, rfl, ?_⟩
  have e2 := hE1.trans hE2
  have hst := stuffL_length xs
  refine Stuff_spec ho2.sl hl (by omega) fun p2 c2 w3 hf3 => ⟨_, _, _, rfl, ?_⟩
  have e3 := e2.trans hf3.ext
  refine own_spec (h.sl.ext e3) hl (by omega) fun p4 c4 w4 hE4 ho4 => ⟨_, _, _, rfl, ?_⟩
  have e4 := e3.trans hE4
  refine Unstuff_spec ho4.sl hl (by omega) fun p5 c5 w5 hf5 => ⟨_, _, _, _, rfl, ?_⟩
  have e5 := e4.trans hf5.ext
  refine refUnstuff_spec (h.sl.ext e5) hl (by omega) fun p6 c6 w6 hf6 => ⟨_, _, _, _, rfl, ?_⟩
  have e6 := e5.trans hf6.ext
  have s36 : Ext w3 w6 := (hE4.trans hf5.ext).trans hf6.ext
  refine own_spec (hf3.ow.sl.ext s36) rfl (by omega) fun p7 c7 w7 hE7 ho7 => ⟨_, _, _, rfl, ?_⟩
  have e7 := e6.trans hE7
  refine Unstuff_spec ho7.sl rfl (by omega) fun p8 c8 w8 hf8 => ⟨_, _, _, _, rfl, ?_⟩
  have e8 := e7.trans hf8.ext
  rw [unst_stuff] at hf8 ⊢
  refine refStuff_spec (h.sl.ext e8) hl (by omega) fun p9 c9 w9 hf9 => ⟨_, _, _, rfl, ?_⟩
  have e9 := e8.trans hf9.ext
  have s39 : Ext w3 w9 := ((s36.trans hE7).trans hf8.ext).trans hf9.ext
  refine same_spec (hf3.ow.sl.ext s39) hf9.ow.sl rfl rfl (by omega) fun w10 hE10 => ⟨_, rfl, brB_t (by simp) ?_⟩
  have e10 := e9.trans hE10
  have s6 : Ext w6 w10 := ((hE7.trans hf8.ext).trans hf9.ext).trans hE10
  have s8 : Ext w8 w10 := hf9.ext.trans hE10
  have hul : ∀ l : List Int, (unst l).1.length ≤ l.length := by
    intro l
    induction l using unst.induct <;> simp_all [unst] <;> first | omega | (split <;> simp <;> omega)
  refine same_spec (hf5.ow.sl.ext (hf6.ext.trans s6)) (hf6.ow.sl.ext s6) rfl rfl (by have := hul xs; omega) fun w11 hE11 => ⟨_, rfl, brB_t (by simp) ?_⟩
  have e11 := e10.trans hE11
  refine same_spec (hf8.ow.sl.ext (s8.trans hE11)) (h.sl.ext e11) rfl hl (by simp; omega) fun w12 hE12 => ⟨_, rfl, to_bool (hR w12 (e11.trans hE12)) (by simp)⟩

theorem numbers_walk {W : World} {b : Option Addr} {len cap : Nat} {xs : List Int} {x y z : Int} {big : Bool} {R : Ending → World → Prop} (h : BytesOk W b len cap xs ∧ len < 2 ^ 47)
    (ha : (Lit.int .i64 x).wf = true ∧ (Lit.int .i64 y).wf = true ∧ (Lit.int .i64 z).wf = true) (hR : ∀ w', Ext W w' → R (.returned (.bool true)) w') :
    Calls P F.law01_BitsNumbers #[.slice b len cap, .agg #[i64 x, i64 y, i64 z], .bool big] W R := by
  obtain ⟨h, hsz⟩ := h
  have hl := h.long
  refine calls_law01_BitsNumbers _ _ _ _ _ _ _ _ _ ?_
  intro k1 w1 hn1
  refine wakes_spec fun w2 hE2 => ⟨_, rfl, brB_f rfl ?_⟩
  have e2 : Ext W w2 := hn1.ext.trans hE2
  have hc := (hn1.cs.ext hE2).drew
  refine ⟨by omega, by omega, _, hc.cell (i := 0) rfl, by omega, by omega, _, hc.cell (i := 1) rfl, by omega, by omega, _, hc.cell (i := 2) rfl, ?_⟩
  have ev : IntKind.u32.wrap z = z % 4294967296 := wb32 z
  rw [ev]
  generalize hv : z % 4294967296 = v
  have v0 : 0 ≤ v := by omega
  have v1 : v < 4294967296 := by omega
  refine own_spec ((h.sl.ext e2).drew) hl (by omega) fun p3 c3 w3 hE3 ho3 => ⟨_, _, _, rfl, ?_⟩
  have e3 := e2.drew.trans hE3
  by_cases he : thereE len x y = 0
  · obtain ⟨n1, n4, a0, a1⟩ := thereE_0 he
    refine Get_spec ho3.sl hl (by omega) h.fit (fun hn => absurd he hn) fun _ => ⟨_, _, rfl, ?_⟩
    refine refGet_spec (h.sl.ext e3) hl (by omega) h.fit (fun hn => absurd he hn) fun _ => ⟨_, _, rfl, ?_⟩
    refine own_spec (h.sl.ext e3) hl (by omega) fun p6 c6 w6 hE6 ho6 => ⟨_, _, _, rfl, ?_⟩
    have e6 := e3.trans hE6
    refine Set_spec ho6.sl hl (by omega) v0 v1 (fun hn => absurd he hn) fun _ p7 c7 w7 hE7 ho7 => ⟨_, _, _, _, rfl, ?_⟩
    have e7 := e6.trans hE7
    refine refSet_spec (h.sl.ext e7) hl (by omega) h.fit v0 v1 (fun hn => absurd he hn) fun _ p8 c8 w8 hE8 ho8 => ⟨_, _, _, _, rfl, brB_f (by simp) ?_⟩
    have e8 := e7.trans hE8
    have hlen : len = (setV xs x.toNat y.toNat big v).length := by rw [setV, setP_length]; exact hl
    refine same_spec (ho7.sl.ext hE8) ho8.sl hlen hlen (by omega) fun w9 hE9 => ⟨_, rfl, brB_f (by simp) (brB_f rfl ?_)⟩
    have e9 := e8.trans hE9
    refine Get_spec (ho7.sl.ext (hE8.trans hE9)) hlen (by omega) (setP_fit h.fit) (fun hn => absurd he hn) fun _ => ⟨_, _, rfl, brB_t rfl ?_⟩
    rw [getV_setV (by omega) (by omega) (by omega)]
    have eb : IntKind.u64.wrap (IntKind.i64.wrap (8 * y)) = 8 * y := by rw [w64 (by omega) (by omega)]; exact wu64 (by omega) (by omega)
    have ep : shiftZ .shl .u64 1 (8 * y) = 256 ^ y.toNat := by
      rw [shiftZ_shl (by omega) (by simp [IntKind.bits]; omega), Int.one_mul, show (8 * y).toNat = 8 * y.toNat by omega, Int.pow_mul]
      have h2 : (256 : Int) ^ y.toNat ≤ 2 ^ 32 := pow32 (by omega)
      have h3 : (0 : Int) < 256 ^ y.toNat := Int.pow_pos (by omega)
      exact wu64 (by have : (2 : Int) ^ 8 = 256 := by rfl
                     rw [this]; omega) (by have : (2 : Int) ^ 8 = 256 := by rfl
                                           rw [this]; omega)
    have h3 : (0 : Int) < 256 ^ y.toNat := Int.pow_pos (by omega)
    have h5 := Int.emod_lt_of_pos v h3
    have h6 : (256 : Int) ^ y.toNat ≤ 2 ^ 32 := pow32 (by omega)
    rw [eb, ep]
    refine ⟨by omega, by omega, to_bool (hR w9 e9) ?_⟩
    have h4 : 0 ≤ v % 256 ^ y.toNat := Int.emod_nonneg _ (by omega)
    rw [wu64 h4 (by omega), wu64 v0 (by omega)]
    simp only [divZ]
    rw [Int.tmod_eq_emod_of_nonneg v0]
    simp
  · refine Get_spec ho3.sl hl (by omega) h.fit (fun _ => ⟨_, _, rfl, ?_⟩) fun hn => absurd hn he
    refine refGet_spec (h.sl.ext e3) hl (by omega) h.fit (fun _ => ⟨_, _, rfl, ?_⟩) fun hn => absurd hn he
    refine own_spec (h.sl.ext e3) hl (by omega) fun p6 c6 w6 hE6 ho6 => ⟨_, _, _, rfl, ?_⟩
    have e6 := e3.trans hE6
    refine Set_spec ho6.sl hl (by omega) v0 v1 (fun _ => ⟨_, _, _, _, rfl, ?_⟩) fun hn => absurd hn he
    refine refSet_spec (h.sl.ext e6) hl (by omega) h.fit v0 v1 (fun _ => ⟨_, _, _, _, rfl, brB_f (by simp) ?_⟩) fun hn => absurd hn he
    refine same_spec (xs := []) (ys := []) (Sl.nil 0 _ _) (Sl.nil 0 _ _) rfl rfl (by omega) fun w9 hE9 => ⟨_, rfl, brB_f (by simp) (brB_t (by simpa using he) ?_)⟩
    exact hR w9 (e6.trans hE9)
end Go.Proofs.Ytlmnooodinfifaa
