/- Quant: indices are an image again. -/
import Derived.Test.YtijplekhbpigiaaQL1
namespace Go.Proofs.Ytijplekhbpigiaa
open Go Go.Vc Go.RowKit Go.Qn
set_option maxRecDepth 100000
set_option linter.unusedVariables false
set_option linter.unusedSimpArgs false
set_option maxHeartbeats 4000000

theorem backR_len {W H : Int} {pal : List Co} {ix : List Int} : (backR W H pal ix).2.2.1.length ≤ 4 * 65536 := by
  unfold backR
  split
  · rename_i hg
    obtain ⟨_, _, _, _, g5⟩ := gfits_iff.1 hg
    split
    · simp
    · rename_i hl
      split
      · simp only [flat_length, List.length_map]; omega
      · simp
  · simp
theorem back_walk {w : World} {W H : Int} {p q : Option Addr} {pn pc qn qc : Nat} {l : List Co} {ix : List Int} {R : Ending → World → Prop} (hp : PtdOk w p pn pc l q qn qc ix) (hR : ∀ w', Ext w w' → R (.returned (.bool true)) w') :
    Calls P F.law14_QuantBack #[.agg #[i64 W, i64 H, .slice p pn pc, .slice q qn qc]] w R := by
  refine calls_law14_QuantBack _ _ _ _ _ _ _ _ _ _ ?_
  intro k1 hk1 w1 hL1
  have hE1 : Ext w w1 := hL1.ext (by simpa using hk1)
  have hs1 := hL1.size
  have ht1 := hL1.there k1 (by simp)
  have hsz := hp.pal.sz
  have hqn := hp.long
  have hqb : qn ≤ 2 ^ 47 := by have := hp.bts; have := reach47; omega
  refine wakes_spec fun w2 hE2 => ⟨_, rfl, hE2.keep _, brB_f rfl ?_⟩
  have hE12 := (hE1.trans hE2)
  have hs2 := hE2.size
  have hEd := hE12.drew
  have hds : w2.drew.heap.size = w2.heap.size := rfl
  refine ⟨fun vs u => ∃ (b : Option Addr) (bc : Nat) (d : Option Addr) (dc : Nat), vs = [i64 W, i64 H, .slice b pn bc, .slice d qn dc] ∧ Ext w u ∧ k1 < u.heap.size ∧ (∃ N M, Ow N M u b pn bc 4 (cos l) ∧ k1 < N ∧ M ≤ u.heap.size) ∧ ∃ N M, Ow N M u d qn dc 1 (bytes ix) ∧ k1 < N ∧ M ≤ u.heap.size, ⟨?_, fun k7 w7 hn7 => ?_⟩, fun n1 n2 p5 l5 c5 p6 l6 c6 w11 hI => ?_⟩
  · refine colours_spec (hp.pal.sl.ext hEd) hp.pal.long (by omega) fun p1 c1 w3 hE3 ho3 => ⟨_, _, _, rfl, hE3.keep _, hE3.keeps, fun k4 w4 hn4 => ?_⟩
    have hE3' := hEd.trans hE3
    have hE4 := hE3'.trans hn4.ext
    have hs3 := hE3.size
    have hs4 := hn4.ext.size
    refine ⟨bytes ix, by rw [bytes_length]; omega, bytes_oneAll _, (hp.sl.ext hE4).cells, (Ow.nil w4.heap.size w4.heap.size w4 _ 1).app (by simp [blocks]; omega) (Nat.le_refl _) (Nat.le_refl _) rfl (by rw [bytes_length]; omega) (by omega) (by omega) fun p2 c2 w5 ho5 hc5 w6 hL6 => ?_⟩
    have hE45 : Ext w4 w5 := hc5.ext fun i hi => hi.1
    have hs5 := hE45.size
    rw [Nat.zero_add] at ho5 ⊢
    rw [List.nil_append] at ho5
    have hE6 : Ext w w6 := (hE4.trans hE45).step hL6.chg (by simp; omega)
    have o3 := ((ho3.ext hn4.ext).ext hE45).chg hL6.chg (fun b h1 h2 hm => by simp at hm; omega)
    have hs6 := hL6.size
    exact ⟨p1, c1, p2, c2, rfl, hE6, hL6.there k1 (by simp), ⟨_, _, o3, by omega, by omega⟩, _, _, ho5.chg hL6.chg (fun b h1 h2 hm => by simp at hm; omega), by omega, by omega⟩
  · have hE7 := hEd.trans hn7.ext
    have hs7 := hn7.ext.size
    refine colours_spec (hp.pal.sl.ext hE7) hp.pal.long (by omega) fun p1 c1 w8 hE8 ho8 => ⟨_, _, _, rfl, hE8.keep _, hE8.keeps, ?_⟩
    have hE78 := hE7.trans hE8
    have hs8 := hE8.size
    refine ⟨bytes ix, by rw [bytes_length]; omega, bytes_oneAll _, (hp.sl.ext hE78).cells, (Ow.nil w8.heap.size w8.heap.size w8 _ 1).app (by simp [blocks]; omega) (Nat.le_refl _) (Nat.le_refl _) rfl (by rw [bytes_length]; omega) (by omega) (by omega) fun p2 c2 w9 ho9 hc9 w10 hL10 => ?_⟩
    have hE89 : Ext w8 w9 := hc9.ext fun i hi => hi.1
    have hs9 := hE89.size
    rw [Nat.zero_add] at ho9 ⊢
    rw [List.nil_append] at ho9
    have hE10 : Ext w w10 := (hE78.trans hE89).step hL10.chg (by simp; omega)
    have o8 := (ho8.ext hE89).chg hL10.chg (fun b h1 h2 hm => by simp at hm; omega)
    have hs10 := hL10.size
    exact ⟨p1, c1, p2, c2, rfl, hE10, hL10.there k1 (by simp), ⟨_, _, o8, by omega, by omega⟩, _, _, ho9.chg hL10.chg (fun b h1 h2 hm => by simp at hm; omega), by omega, by omega⟩
  obtain ⟨b, bc, d, dc, hv, hE11, ht11, ⟨N, M, oP, hN, hM⟩, N', M', oI, hN', hM'⟩ := hI
  simp only [List.cons.injEq, Value.int.injEq, Value.slice.injEq, true_and, and_true] at hv
  obtain ⟨rfl, rfl, ⟨rfl, rfl, rfl⟩, rfl, rfl, rfl⟩ := hv
  refine Back_spec oP.sl hp.pal.long oI.sl hp.long hp.fit fun p7 c7 w12 hf12 => ⟨_, _, _, _, _, _, rfl, hf12.ext.keep _, fun k18 hk18 w13 hL13 => ?_⟩
  have hE12' := hf12.ext
  have hs12 := hE12'.size
  have hs13 := hL13.size
  have hE13 : Ext w w13 := (hE11.trans hE12').step hL13.chg (by have := hE11.size; simp; omega)
  have t18 := hL13.there k18 (by simp)
  have oP13 := (oP.ext hE12').chg hL13.chg (fun b h1 h2 hm => by simp at hm; omega)
  have oI13 := (oI.ext hE12').chg hL13.chg (fun b h1 h2 hm => by simp at hm; omega)
  have o12 := hf12.ow.chg hL13.chg (fun b h1 h2 hm => by simp at hm; omega)
  refine rBack_spec oP13.sl hp.pal.long oI13.sl hp.long hp.fit fun p9 c9 w14 hf14 => ⟨_, _, _, _, _, _, rfl, hf14.ext.keep _, fun k21 hk21 w15 hL15 => ?_⟩
  have hE14 := hf14.ext
  have hs14 := hE14.size
  have hE15 : Ext w w15 := (hE13.trans hE14).step hL15.chg (by have := hE11.size; simp; omega)
  have a15 := (o12.ext hE14).chg hL15.chg (fun b h1 h2 hm => by simp at hm; omega)
  have b15 := hf14.ow.chg hL15.chg (fun b h1 h2 hm => by simp at hm; omega)
  have hlen := backR_len (W := n1) (H := n2) (pal := l) (ix := ix)
  refine refSame_spec (Img.of_ow a15) (Img.of_ow b15) (by omega) fun w16 hE16 => ⟨_, rfl, hE16.keep _, to_bool (hR w16 (hE15.trans hE16)) ?_⟩
  simp [same]
end Go.Proofs.Ytijplekhbpigiaa
