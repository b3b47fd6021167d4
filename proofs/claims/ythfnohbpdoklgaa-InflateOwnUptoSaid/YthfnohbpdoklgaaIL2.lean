/- The walk of InflateOwn. -/
import Derived.Test.YthfnohbpdoklgaaIL1
namespace Go.Proofs.Ythfnohbpdoklgaa
open Go Go.Vc Go.RowKit
set_option maxRecDepth 100000
set_option linter.unusedVariables false
set_option linter.unusedSimpArgs false
set_option maxHeartbeats 2000000
theorem bytes_set (xs : List Int) (i : Nat) (x : Int) : bytes (xs.set i x) = (bytes xs).set i (u8 x) := by simp [bytes]
/-- as grow; what was there stays there -/
theorem OwnS.grow' {S : Nat → Prop} {w w5 : World} {bs : List Nat} {l : List (Nat × Nat × List Value)} {base : Option Addr} {len cap n sz bytes : Nat} {elem : TypeId} {zero vs fs : List Value} {F : Option Addr → Nat → Nat → World → Prop}
    (h : OwnS S w base len cap sz vs) (hL : Locl bs w w5) (hb : ∀ b, b ∈ bs → w.heap.size ≤ b ∨ ¬ S b) (hS : ∀ i, w.heap.size ≤ i → S i) (hbl : ∀ b, b ∈ blocks l → b ∈ bs) (hz : zero.length = sz) (hn : fs.length = n * sz)
    (hby : (len + n) * bytes ≤ 2 ^ 47) (h62 : len + n < 2 ^ 62)
    (hF : ∀ base' cap' w6, OwnS (fun i => S i ∧ i ∉ bs) w6 base' (len + n) cap' sz (vs ++ fs) → Chg (fun i => S i ∨ i ∈ bs) w w6 → w5.heap.size ≤ w6.heap.size → F base' (len + n) cap' w6) :
    appVC w5 l base len cap n sz bytes elem zero fs F := by
  have h1 : OwnS (fun i => S i ∧ i ∉ bs) w base len cap sz vs := OwnS.mono h fun i hi hlt => ⟨hi, fun hm => (hb i hm).elim (fun g => by omega) fun g => g hi⟩
  have h2 := OwnS.chg h1 hL.chg fun b hb _ hm => hb.2 hm
  have hs := hL.size
  refine OwnS.app h2 (fun b hb hs => hs.2 (hbl b hb)) hz hn hby h62 fun base' cap' w6 ho hc => hF base' cap' w6 (ho.mono fun i hi hlt => ?_) ?_ hc.size
  · rcases hi with hi | hi
    · exact hi
    · exact ⟨hS i (by omega), fun hm => by have := hL.there i hm; omega⟩
  · exact (hL.chg.mono fun i hi _ => .inr hi).trans hc fun i hi _ => .inl hi.1
theorem own_walk {W : World} {b : Option Addr} {len cap : Nat} {xs : List Int} {most : Int} {R : Ending → World → Prop} (h : BytesOk W b len cap xs ∧ len ≤ 1048576) (w2 : (Lit.int .i64 most).wf = true)
    (hR : ∀ w', Ext W w' → R (.returned (.bool true)) w') : Calls P F.law04_InflateOwn #[.slice b len cap, i64 most] W R := by
  obtain ⟨f, h20⟩ := h
  have hm := wf64 w2
  have hl := f.long
  have hok := rawR_ok (most := most) f.fit
  have hslow := hok.slow
  refine calls_law04_InflateOwn _ _ _ _ _ _ ?_
  refine wakes_spec fun u1 hE1 => ⟨_, rfl, brB_f rfl ?_⟩
  refine own_spec (f.sl.ext hE1) f.long (by omega) fun p1 k2 u2 hE2 ho => ⟨_, _, _, rfl, ?_⟩
  intro k3 hk3 u3 hL3
  have s2 := hE2.size
  have ho1 : OwnS (fun i => u1.heap.size ≤ i) u2 p1 len k2 1 (bytes xs) := ho.ownS.mono fun i hi _ => hi.1
  have t3' := hL3.there k3 (by simp)
  refine OwnS.grow' ho1 hL3 (fun b hb => .inl (by simp at hb; omega)) (fun i hi => by omega) (by simp [blocks]) rfl rfl (by omega) (by omega) fun p2 k5 u4 hO4 hc4 hs34 => ?_
  have hE4 : Ext u1 u4 := hE2.step hc4 fun i hi => by simp at hi; omega
  have hA4 : OwnS (fun i => u1.heap.size ≤ i ∧ i < u4.heap.size ∧ i ≠ k3) u4 p2 (len + 1) k5 1 (bytes (xs ++ [77])) := by
    rw [bytes_append]
    exact OwnS.mono hO4 fun i hi hl => ⟨hi.1, hl, fun e => hi.2 (by simp [e])⟩
  have pre : ∀ {u : World}, OwnS (fun i => u1.heap.size ≤ i ∧ i < u4.heap.size ∧ i ≠ k3) u p2 (len + 1) k5 1 (bytes (xs ++ [77])) → Sl u.heap.size u p2 (bytes xs) := fun hA => hA.sl.pre (by rw [bytes_append]; exact List.prefix_append _ _)
  have hcp := hA4.2.1
  have hA5 : ∀ {u u' : World}, OwnS (fun i => u1.heap.size ≤ i ∧ i < u4.heap.size ∧ i ≠ k3) u p2 (len + 1) k5 1 (bytes (xs ++ [77])) → Ext u u' → OwnS (fun i => u1.heap.size ≤ i ∧ i < u4.heap.size ∧ i ≠ k3) u' p2 (len + 1) k5 1 (bytes (xs ++ [77])) := fun hA hE => OwnS.chg (T := fun _ => False) hA hE.chg fun _ _ _ h => h
  refine ⟨by omega, by omega, by omega, ?_⟩
  rw [show (0 : Int).toNat = 0 from rfl, slcBase0, Int.toNat_natCast, Nat.sub_zero, Nat.sub_zero]
  refine Raw_spec (pre hA4) hl (by omega) f.fit hm.2 (fun m h1 h2 => by omega) fun p4 k9 u5 hE5 hO5 => ⟨_, _, _, _, _, rfl, hE5.keep _, ?_⟩
  have hAa := hA5 hA4 hE5
  refine ⟨by omega, by omega, by omega, ?_⟩
  rw [Int.toNat_natCast, show (0 : Int).toNat = 0 from rfl, slcBase0, Nat.sub_zero, Nat.sub_zero]
  refine Raw_spec (pre hAa) hl (by omega) f.fit hm.2 (fun m h1 h2 => by omega) fun p6 k13 u6 hE6 hO6 => ⟨_, _, _, _, _, rfl, hE6.keep _, ?_⟩
  have hAb := hA5 hAa hE6
  refine ⟨by omega, by omega, by omega, ?_⟩
  rw [Int.toNat_natCast, show (0 : Int).toNat = 0 from rfl, slcBase0, Nat.sub_zero, Nat.sub_zero]
  refine Zlib_spec (pre hAb) hl (by omega) (by omega) f.fit hm.2 (fun m h1 h2 => by omega) fun p8 k17 u7 hE7 hS7 => ⟨_, _, _, _, rfl, hE7.keep _, ?_⟩
  have hAc := hA5 hAb hE7
  have s5 := hE5.size
  have s6 := hE6.size
  have s7 := hE7.size
  have hB7 : OwnS (fun i => u4.heap.size ≤ i ∧ i < u5.heap.size) u7 p4 (rawR xs most).1.length k9 1 (bytes (rawR xs most).1) := (hO5.ext hE6 |>.ext hE7).ownS
  have hC7 : OwnS (fun i => u5.heap.size ≤ i ∧ i < u6.heap.size) u7 p6 (rawR xs most).1.length k13 1 (bytes (rawR xs most).1) := (hO6.ext hE7).ownS
  have hE47 := (hE5.trans hE6).trans hE7
  generalize hr : rawR xs most = r at *
  -- what was given is written over
  refine ⟨fun vs u => ∃ (i : Nat) (ys : List Int), vs = [i64 (i : Nat)] ∧ i ≤ r.1.length ∧ ys.length = r.1.length ∧ Chg (fun i => u4.heap.size ≤ i ∧ i < u5.heap.size) u7 u ∧ OwnS (fun i => u4.heap.size ≤ i ∧ i < u5.heap.size) u p4 r.1.length k9 1 (bytes ys),
    fun vs _ => match vs with | [.int _ i] => (r.1.length - i).toNat | _ => 0, ⟨0, r.1, rfl, by omega, rfl, Chg.refl _ _, hB7⟩, fun n6 u8' hI => ?_⟩
  obtain ⟨i, ys, hv, hi, hyl, hc8, hB8⟩ := hI
  obtain rfl : n6 = (i : Nat) := by simpa using hv
  refine brB_i (fun hlt => ?_) fun hge => ?_
  · have hlt : i < r.1.length := by have := of_decide_eq_true hlt; omega
    obtain ⟨bb, e1, e2, e3⟩ := OwnS.base hB8 (by omega)
    subst e1
    obtain ⟨q1, q2, q3⟩ := OwnS.write hB8 hlt
    obtain ⟨a, g1, _, g3⟩ := OwnS.sl hB8 i _ (bytes_get (by omega))
    cases g1
    rw [loc_add, Nat.zero_add] at g3
    refine idx_i (by omega) (by omega) rfl ?_
    rw [loc_add, Nat.zero_add, Nat.mul_one, Int.toNat_natCast]
    refine ⟨_, g3, idx_i (by omega) (by omega) rfl ?_⟩
    rw [loc_add, Nat.zero_add, Nat.mul_one, Int.toNat_natCast, wrap_succ (by omega)]
    have e2' : u4.heap.size ≤ bb ∧ bb < u5.heap.size := e2
    refine ⟨q1, q2, by simp; omega, ⟨i + 1, ys.set i (IntKind.u8.wrap (ys.getD i 0 + 1)), rfl, hlt, by simp [hyl], hc8.trans (q3 _).2 fun j hj _ => by have hj : j = bb := hj; omega, by rw [bytes_set]; exact (q3 _).1⟩, by show ((r.1.length : Int) - ((i + 1 : Nat) : Int)).toNat < ((r.1.length : Int) - (i : Nat)).toNat; omega⟩
  have s8 := hc8.size
  refine ⟨fun vs u => ∃ (j : Nat) (q : Option Addr) (c : Nat) (zs : List Int), vs = [.slice q (r.1.length + j) c, i64 (j : Nat)] ∧ j ≤ 20 ∧ zs.length = r.1.length + j ∧ Chg (fun i => u4.heap.size ≤ i ∧ (i < u5.heap.size ∨ u7.heap.size ≤ i) ∨ i = k3) u7 u ∧ OwnS (fun i => u4.heap.size ≤ i ∧ (i < u5.heap.size ∨ u7.heap.size ≤ i)) u q (r.1.length + j) c 1 (bytes zs),
    fun vs _ => match vs with | [_, .int _ j] => (20 - j).toNat | _ => 0, ⟨0, p4, k9, ys, rfl, by omega, hyl, hc8.mono fun i hi _ => .inl ⟨hi.1, .inl hi.2⟩, OwnS.mono hB8 fun i hi _ => ⟨hi.1, .inl hi.2⟩⟩, fun p9 k18 k19 n8 u9 hI => ?_⟩
  obtain ⟨j, q, c, zs, hv, hj, hzl, hc9, hD9⟩ := hI
  simp only [List.cons.injEq, Value.slice.injEq, Value.int.injEq, true_and, and_true] at hv
  obtain ⟨⟨rfl, rfl, rfl⟩, rfl⟩ := hv
  have s9 := hc9.size
  refine brB_i (fun hlt => ?_) fun hge2 => ?_
  · have hlt : j < 20 := by have := of_decide_eq_true hlt; omega
    intro k20 hk20 u10 hL10
    have hkd : ∀ b, b ∈ [k20, k3] → b = k20 ∨ b = k3 := fun b hb => by simpa using hb
    refine OwnS.grow hD9 hL10 (fun b hb => ?_) (fun i hi => by omega) (by simp [blocks]) rfl rfl (by omega) (by omega) fun p5 c5 u11 hO11 hc11 => ?_
    · rcases hkd b hb with rfl | rfl
      · exact .inl hk20
      · exact .inr fun g => by omega
    rw [wrap_succ (by omega)]
    refine ⟨⟨j + 1, p5, c5, zs ++ [5], rfl, hlt, by simp; omega, hc9.trans hc11 fun i hi _ => ?_, by rw [bytes_append]; exact OwnS.mono hO11 fun i hi _ => hi.1⟩, by show ((20 : Int) - ((j + 1 : Nat) : Int)).toNat < ((20 : Int) - (j : Nat)).toNat; omega⟩
    rcases hi with hi | hi
    · exact .inl hi
    · rcases hkd i hi with rfl | rfl
      · exact .inl ⟨by omega, .inr (by omega)⟩
      · exact .inr rfl
  -- what was not handed out stays
  have hE9 : Ext W u9 := (hE1.trans (hE4.trans hE47)).step hc9 fun i hi => by have := hE1.size; have := hE4.size; omega
  have hA9 := OwnS.chg hAc hc9 fun i hi _ hx => by omega
  have hC9 := OwnS.chg hC7 hc9 fun i hi _ hx => by omega
  refine refRaw_spec (f.sl.ext hE9) f.long f.cap (by omega) f.fit hm.2 (fun m h1 h2 => by omega) fun p11 k24 u12 hE12 hO12 => ⟨_, _, _, _, _, rfl, hE12.keep _, ?_⟩
  rw [hr] at hO12 ⊢
  have hA12 := hA5 hA9 hE12
  have hC12 := hC9.sl.ext hE12
  have hx77 : (bytes (xs ++ [77]))[((len : Nat) : Int).toNat]? = some (u8 77) := by
    rw [Int.toNat_natCast, bytes_append, List.getElem?_append_right (by rw [bytes_length]; omega), bytes_length, hl, Nat.sub_self]; rfl
  refine hA12.sl.get (by omega) (by rw [bytes_length, List.length_append, hl]; rfl) hx77 fun a ha => ⟨_, ha, brB_t rfl ?_⟩
  refine ⟨by omega, by omega, by omega, ?_⟩
  rw [Int.toNat_natCast, show (0 : Int).toNat = 0 from rfl, slcBase0, Nat.sub_zero, Nat.sub_zero]
  refine same_spec (pre hA12) (f.sl.ext (hE9.trans hE12)) hl hl (by omega) fun u13 hE13 => ⟨_, rfl, hE13.keep _, brB_t (by simp) ?_⟩
  refine same_spec (hC12.ext hE13) (hO12.sl.ext hE13) rfl rfl (by omega) fun u14 hE14 => ⟨_, rfl, hE14.keep _, to_bool (hR u14 (((hE9.trans hE12).trans hE13).trans hE14)) (by simp)⟩
end Go.Proofs.Ythfnohbpdoklgaa
