/- LZW: what is sure ahead of each law. -/
import Derived.Test.YtlbokiaolmflaaaLZ17
namespace Go.Proofs.Ytlbokiaolmflaaa
open Go Go.Vc Go.RowKit
set_option maxRecDepth 100000
set_option linter.unusedVariables false
set_option linter.unusedSimpArgs false

theorem mk_sl {D : Nat} {w w' : World} {N : Nat} {base : Option Addr} {vs : List Value} (h : Mk D w w') (hs : Sl N w base vs) : Sl N w' base vs := by
  intro j v hj
  obtain ⟨a, h1, h2, h3⟩ := hs j v hj
  exact ⟨a, h1, h2, by rw [h.cell]; exact h3⟩
theorem wide_tiff : Wide 256 1 1 9 := ⟨by omega, by omega, by decide⟩
theorem wide_gif {n : Nat} (h1 : 2 ≤ n) (h2 : n < 9) : Wide (2 ^ n) 0 1 (n + 1) := by
  have : ∀ n : Nat, n < 9 → 2 ≤ n → 2 ^ n + 2 + 1 + 0 ≤ 2 ^ (n + 1) := by decide
  exact ⟨by omega, by omega, this n h2 h1⟩
theorem tiff_back {bs : List Int} {most : Int} (hb : Bs bs) (hm : 0 ≤ most) : tiffR (tiffPackR bs) most = fin most bs := by
  unfold tiffR lzR tiffPackR
  rw [show max most 0 = most by omega]
  exact lz_pack (by omega) (by omega) wide_tiff (by omega) (fun x hx => by have := hb x hx; omega) hm
theorem fin_ok {most : Int} {l : List Int} (h : (l.length : Int) ≤ most) : fin most l = (l, 0) := by unfold fin; rw [if_neg (by omega)]
theorem wake1 : gifR [68, 1] 2 9 = ([0], 0) := by decide +kernel
theorem wake2 : runR [2, 97, 98, 99, 254, 100] 9 = ([97, 98, 99, 100, 100, 100], 0) := by decide +kernel
theorem wake3 : decide (bstrOf [97, 98, 99, 100, 100, 100] = { data := #[97, 98, 99, 100, 100, 100] }) = true := by decide +kernel
theorem wake4 : decide (bstrOf [97, 98, 97, 98] = { data := #[97, 98, 97, 98] }) = true := by decide +kernel
theorem bs_of {l : List Int} (h : l.all (fun n => decide (0 ≤ n ∧ n ≤ 255)) = true) : Bs l := fun n hn => by simpa using List.all_eq_true.1 h n hn
theorem wakes_spec {w : World} {R : Ending → World → Prop} (hR : ∀ w', Ext w w' → R (.returned (.bool true)) w') : Calls P F.law06_wakes #[] w R := by
  refine calls_law06_wakes _ _ ?_
  intro k1 w1 hn1
  have e1 := hn1.ext
  have hs1 : Sl w1.heap.size w1 (some ⟨k1, 0, none⟩) (bytes [68, 1]) := hn1.cs.sl (by exact List.prefix_refl _) hn1.size
  refine GifUnpack_spec hs1 rfl (by omega) (bs_of rfl) (by omega) (by omega) fun p1 k2 k3 w2 hg => ⟨_, _, _, _, rfl, fun k4 w3 hn3 => ?_⟩
  rw [wake1] at hg ⊢
  have e2 := e1.trans hg.ext
  have hs3 : Sl w3.heap.size w3 (some ⟨k4, 0, none⟩) (bytes [2, 97, 98, 99, 254, 100]) := hn3.cs.sl (by exact List.prefix_refl _) hn3.size
  refine Unpack_spec hs3 rfl (by omega) (by omega) (bs_of rfl) (by omega) fun p2 k5 k6 w4 hu => ⟨_, _, _, _, rfl, fun k7 w5 hn5 => ?_⟩
  rw [wake2] at hu ⊢
  have e4 := (e2.trans hn3.ext).trans hu.ext
  have hk7 := hn5.1
  have hk7s := hn5.size
  have he4 := e4.size
  have hs5 : Sl w5.heap.size w5 (some ⟨k7, 0, none⟩) (bytes [97, 98, 97, 98]) := hn5.cs.sl (by exact List.prefix_refl _) hn5.size
  refine ⟨_, _, by rw [hn5.1, hn5.2]; exact cells_alloc_new w4 _, fun w6 hmk => ?_⟩
  have hE5 := e4.trans hn5.ext
  have hE6 : Ext w w6 := hE5.step hmk.put.chg fun i hi => by have hi : i = k7 := hi; omega
  have hE46 : Ext w4 w6 := hn5.ext.step hmk.put.chg fun i hi => by have hi : i = k7 := hi; omega
  have hb : Bs [97, 98, 97, 98] := bs_of rfl
  have hpl := packL_len (up := true) (bs := [97, 98, 97, 98]) (by omega) wide_tiff (by omega) (fun x hx => by have := hb x hx; omega)
  refine TiffPack_spec (mk_sl hmk hs5) rfl (by omega) hb fun p3 k8 k9 w7 hp => ⟨_, _, _, rfl, ?_⟩
  have hk8 : k8 = (tiffPackR [97, 98, 97, 98]).length := by have := hp.len; rwa [bytes_length] at this
  have hpl' : (tiffPackR [97, 98, 97, 98]).length ≤ 3 * 4 + 6 := hpl
  refine refTiffUnpack_spec hp.sl hk8 (by omega) packL_bs (by omega) (by omega) fun p4 k10 k11 w8 hq => ⟨_, _, _, _, rfl, ?_⟩
  rw [tiff_back hb (by omega), fin_ok (by simp)] at hq ⊢
  have hE8 : Ext w w8 := (hE6.trans hp.ext).trans hq.ext
  have hk2 : k2 = 1 := hg.len
  have hk5 : k5 = 6 := hu.len
  have hk10 : k10 = 4 := hq.len
  subst hk2; subst hk5; subst hk10
  refine brB_t rfl ?_
  have hg8 := hg.sl.ext ((((hn3.ext.trans hu.ext).trans hE46).trans hp.ext).trans hq.ext)
  refine hg8.get (by omega) rfl (v := u8 0) rfl fun a1 ha1 => ⟨_, ha1, brB_t rfl ⟨[97, 98, 99, 100, 100, 100], rfl, (hu.sl.ext ((hE46.trans hp.ext).trans hq.ext)).cells, ?_⟩⟩
  rw [wake3]
  refine brB_t rfl ⟨[97, 98, 97, 98], rfl, hq.sl.cells, ?_⟩
  rw [wake4]
  exact hR w8 hE8
end Go.Proofs.Ytlbokiaolmflaaa
