/- The walks of InflateReads, InflateZlib, InflateOwn. -/
import Derived.Test.YthfnohbpdoklgaaIArgs
namespace Go.Proofs.Ythfnohbpdoklgaa
open Go Go.Vc Go.RowKit
set_option maxRecDepth 100000
set_option linter.unusedVariables false
set_option linter.unusedSimpArgs false
set_option maxHeartbeats 2000000
theorem wake1 : rawR [75, 4, 0] 9 = ([97], 3, 0) := by decide +kernel
theorem wake2 : rawR [7] 9 = ([], 0, 40) := by decide +kernel
theorem wake3 : zlibR [120, 156, 75, 4, 0, 0, 98, 0, 98] 1 = ([97], 0) := by decide +kernel
theorem bs_of {l : List Int} (h : (l.all fun x => decide (0 ≤ x ∧ x ≤ 255)) = true) : Bs l := fun x hx => by simpa using List.all_eq_true.1 h x hx
theorem wakes_spec {w : World} {R : Ending → World → Prop} (hR : ∀ w', Ext w w' → R (.returned (.bool true)) w') : Calls P F.law04_wakes #[] w R := by
  refine calls_law04_wakes _ _ ?_
  intro k1 w1 hn1
  have e1 := hn1.ext
  have hs1 : Sl w1.heap.size w1 (some ⟨k1, 0, none⟩) (bytes [75, 4, 0]) := hn1.cs.sl (by exact List.prefix_refl _) hn1.size
  refine Raw_spec hs1 rfl (by omega) (bs_of rfl) (by omega) (fun m h1 h2 => by omega) fun p1 k3 w2 hE2 hO2 => ⟨_, _, _, _, _, rfl, fun k4 w3 hn3 => ?_⟩
  rw [wake1] at hO2 ⊢
  have e2 := e1.trans hE2
  have hs3 : Sl w3.heap.size w3 (some ⟨k4, 0, none⟩) (bytes [7]) := hn3.cs.sl (by exact List.prefix_refl _) hn3.size
  refine Raw_spec hs3 rfl (by omega) (bs_of rfl) (by omega) (fun m h1 h2 => by omega) fun p2 k6 w4 hE4 hO4 => ⟨_, _, _, _, _, rfl, fun k7 w5 hn5 => ?_⟩
  rw [wake2] at hO4 ⊢
  have e4 := (e2.trans hn3.ext).trans hE4
  have hs5 : Sl w5.heap.size w5 (some ⟨k7, 0, none⟩) (bytes [120, 156, 75, 4, 0, 0, 98, 0, 98]) := hn5.cs.sl (by exact List.prefix_refl _) hn5.size
  refine Zlib_spec hs5 rfl (by simp) (by omega) (bs_of rfl) (by omega) (fun m h1 h2 => by omega) fun p3 k9 w6 hE6 hS6 => ⟨_, _, _, _, rfl, ?_⟩
  rw [wake3] at hS6 ⊢
  have e6 := (e4.trans hn5.ext).trans hE6
  refine brB_t rfl ⟨[97], rfl, ?_, brB_t (by decide) ⟨[97], rfl, hS6.cells, hR w6 e6⟩⟩
  exact (((hO2.sl.ext hn3.ext).ext hE4).ext hn5.ext |>.ext hE6).cells
theorem reads_walk {W : World} {b : Option Addr} {len cap : Nat} {xs : List Int} {most : Int} {R : Ending → World → Prop} (h : BytesOk W b len cap xs ∧ len ≤ 1048576) (w2 : (Lit.int .i64 most).wf = true)
    (hR : ∀ w', Ext W w' → R (.returned (.bool true)) w') : Calls P F.law04_InflateReads #[.slice b len cap, i64 most] W R := by
  obtain ⟨f, h20⟩ := h
  have hm := wf64 w2
  have hl := f.long
  have hok := rawR_ok (most := most) f.fit
  have hslow := hok.slow
  refine calls_law04_InflateReads _ _ _ _ _ _ ?_
  refine wakes_spec fun u1 hE1 => ⟨_, rfl, brB_f rfl ?_⟩
  refine own_spec (f.sl.ext hE1) f.long (by omega) fun p1 k2 u2 hE2 ho => ⟨_, _, _, rfl, ?_⟩
  refine Raw_spec ho.sl f.long (by omega) f.fit hm.2 (fun m h1 h2 => by omega) fun p2 k4 u3 hE3 hO3 => ⟨_, _, _, _, _, rfl, ?_⟩
  have hE3' := (hE1.trans hE2).trans hE3
  refine refRaw_spec (f.sl.ext hE3') f.long f.cap (by omega) f.fit hm.2 (fun m h1 h2 => by omega) fun p3 k5 u4 hE4 hO4 => ⟨_, _, _, _, _, rfl, ?_⟩
  refine same_spec (hO3.sl.ext hE4) hO4.sl rfl rfl (by omega) fun u5 hE5 => ⟨_, rfl, to_bool (hR u5 ((hE3'.trans hE4).trans hE5)) (by simp)⟩
theorem zlib_walk {W : World} {b : Option Addr} {len cap : Nat} {xs : List Int} {most : Int} {R : Ending → World → Prop} (h : BytesOk W b len cap xs ∧ len ≤ 1048576) (w2 : (Lit.int .i64 most).wf = true)
    (hR : ∀ w', Ext W w' → R (.returned (.bool true)) w') : Calls P F.law04_InflateZlib #[.slice b len cap, i64 most] W R := by
  obtain ⟨f, h20⟩ := h
  have hm := wf64 w2
  have hl := f.long
  have hok := rawR_ok (bs := xs.drop 2) (most := most) fun x hx => f.fit x (List.mem_of_mem_drop hx)
  have hslow := hok.slow
  rw [List.length_drop] at hslow
  have hz : (zlibR xs most).1.length ≤ (rawR (xs.drop 2) most).1.length := by
    unfold zlibR
    repeat' (split; · simp)
    exact Nat.le_refl _
  refine calls_law04_InflateZlib _ _ _ _ _ _ ?_
  refine wakes_spec fun u1 hE1 => ⟨_, rfl, brB_f rfl ?_⟩
  refine own_spec (f.sl.ext hE1) f.long (by omega) fun p1 k2 u2 hE2 ho => ⟨_, _, _, rfl, ?_⟩
  refine Zlib_spec ho.sl f.long ho.2.1 (by omega) f.fit hm.2 (fun m h1 h2 => by omega) fun p2 k4 u3 hE3 hS3 => ⟨_, _, _, _, rfl, ?_⟩
  have hE3' := (hE1.trans hE2).trans hE3
  refine refZlib_spec (f.sl.ext hE3') f.long f.cap (by omega) f.fit hm.2 (fun m h1 h2 => by omega) fun p3 k5 u4 hE4 hS4 => ⟨_, _, _, _, rfl, ?_⟩
  refine same_spec (hS3.ext hE4) hS4 rfl rfl (by omega) fun u5 hE5 => ⟨_, rfl, to_bool (hR u5 ((hE3'.trans hE4).trans hE5)) (by simp)⟩
end Go.Proofs.Ythfnohbpdoklgaa
