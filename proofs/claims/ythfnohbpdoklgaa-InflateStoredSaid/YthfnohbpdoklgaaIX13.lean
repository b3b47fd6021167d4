/- Inflate: the document's side: a repetition. -/
import Derived.Test.YthfnohbpdoklgaaIX12
namespace Go.Proofs.Ythfnohbpdoklgaa
open Go Go.Vc Go.RowKit
set_option maxRecDepth 100000
set_option linter.unusedVariables false
set_option linter.unusedSimpArgs false
set_option maxHeartbeats 2000000
section
variable {w : World} {N : Nat} {T : Nat → Prop} {base : Option Addr} {len cap : Nat} {bs : List Int} {most : Int} {s : Sx} {p : Option Addr} {c : Nat} {R : Ending → World → Prop}
theorem refMatch_spec {vs : List Value} {D : Nat → Prop} {dists : List Nat} {v : Nat} (h : YAt w N T base len cap bs most s p c) (hnew : ∀ b, w.heap.size ≤ b → T b) (hT : TblAt w vs D dists) (hv : 256 < v) (hv2 : v ≤ 4096)
    (hok : ∀ s' p' c' w', matchM bs most dists v s = .ok s' → Chg T w w' → YAt w' N T base len cap bs most s' p' c' → R (.returned (stt base len cap (s'.1 : Nat) p' s'.2.length c' most 0)) w')
    (herr : ∀ e r p' n' c' w', e ≠ 0 → matchM bs most dists v s = .error e → Chg T w w' → R (.returned (stt base len cap r p' n' c' most e)) w') :
    Calls P F.ref04_match #[stt base len cap (s.1 : Nat) p s.2.length c most 0, i64 (v : Nat), .agg vs.toArray] w R := by
  refine calls_ref04_match _ _ _ _ _ _ _ _ _ _ _ _ _ _ ?_
  intro k1 hk1 w1 hL1 k2 w2 hn2 k3 hk3
  have hE1 : Ext w w1 := hL1.ext (by simp; omega)
  have s1 := hE1.size
  have t1 := hL1.there k1 (by simp)
  have e2 : k2 = w1.heap.size := hn2.1
  have s2 := hn2.size
  have s2' := hn2.ext.size
  have hE2 := hE1.trans hn2.ext
  have hroom := h.room
  have hlen := h.hlen
  have hpos := h.ok.pos
  have hNw := h.hN
  have hfew := h.ok.few
  have hslow := h.ok.slow
  have htop := h.top
  have hY0 := h.lim (T' := fun b => T b ∧ b < w.heap.size) (fun b hb => h.hT b hb.1) fun b hb hl => ⟨hb, hl⟩
  have hC2 : Cs w2 k2 vs := hn2.cs
  have nE : ∀ {u u' : World} {ls : List Nat}, Ext w u → Locl ls u u' → (∀ b, b ∈ ls → w.heap.size ≤ b) → Ext w u' := fun hE hL hb => hE.step hL.chg hb
  unfold matchM at hok herr
  refine brB_i (fun hbig w3 hL3 => ?_) fun hbig w4 hL4 => ?_
  · have hbig : 285 < v := by have := of_decide_eq_true hbig; omega
    rw [if_pos hbig] at herr
    exact herr 32 _ _ _ _ w3 (by omega) rfl (nE hE2 hL3 (by simp; omega)).chg
  have hbig : ¬ 285 < v := by have := of_decide_eq_false hbig; omega
  rw [if_neg hbig] at hok herr
  obtain ⟨q1, q2, q3⟩ := len_facts v (by omega) hv
  have hE4 : Ext w w4 := nE hE2 hL4 (by simp; omega)
  have t3 := hL4.there k3 (by simp)
  have s4 := hL4.size
  have hC4 := hC2.locl hL4 (by simp; omega)
  have ev : IntKind.i64.wrap (((v : Nat) : Int) - 257) = ((v - 257 : Nat) : Int) := by rw [w64 (by omega) (by omega)]; omega
  rw [ev]
  refine refBase_spec (size := 4) (from_ := 3) (by omega) (.inl ⟨rfl, rfl⟩) ⟨_, _, rfl, (Ext.refl _).keep _, ?_⟩
  refine ⟨fun vs u => vs = [i64 ((lenM v).1 : Nat), i64 ((lenM v).2 : Nat)] ∧ u = w4, ?_, fun n3 n4 w6 hI => ?_⟩
  · refine brB_i (fun h285 => ?_) fun h285 => ?_
    · have h285 : v = 285 := by have := eq_of_beq h285; omega
      subst h285
      exact ⟨rfl, rfl⟩
    · have h285 : v ≠ 285 := fun e => by subst e; simp at h285
      refine ⟨?_, rfl⟩
      unfold lenM; rw [if_neg h285]
  obtain ⟨hv', rfl⟩ := hI
  simp only [List.cons.injEq, Value.int.injEq, true_and, and_true] at hv'
  obtain ⟨rfl, rfl⟩ := hv'
  generalize hL : lenM v = L at *
  have hY4 := h.ext hE4
  refine refT_spec (m := L.2) hY4.src hY4.hlen hY4.fit hY4.room hY4.k (by omega) (fun x k2' w7 hTx hE7 => ?_) fun w7 hTx hE7 => ?_
  rotate_left
  · rw [hTx] at herr
    exact ⟨_, _, _, _, _, _, _, _, _, _, _, rfl, hE7.keep _, brB_t rfl fun w8 hL8 => herr 5 _ _ _ _ w8 (by omega) rfl (nE (hE4.trans hE7) hL8 (by simp; omega)).chg⟩
  simp only [hTx] at hok herr
  obtain ⟨a1, a2, a3, _⟩ := tkM_ok hTx
  have hE7' := hE4.trans hE7
  have s7 := hE7.size
  refine ⟨_, _, _, _, _, _, _, _, _, _, _, rfl, hE7.keep _, brB_f rfl fun w9 hL9 => ?_⟩
  have hE9 : Ext w w9 := nE hE7' hL9 (by simp; omega)
  have s9 := hL9.size
  have hC9 := (hC4.ext hE7).locl hL9 (by simp; omega)
  have hY9 := h.ext hE9
  have hT9 := hT.chg (Z := fun _ => False) hE9.chg fun _ _ _ h => h
  refine ⟨vs, hT.length, cs_at0 hC9, ?_⟩
  refine refN_spec hT9 hY9.src hY9.hlen hY9.fit hY9.room (by omega) (fun d k3' w10 hN hE10 => ?_) fun e r w10 he hN hE10 => ?_
  rotate_left
  · simp only [hN] at herr
    exact ⟨_, _, _, _, _, _, _, _, _, _, _, rfl, hE10.keep _, brB_t (by simpa using he) fun w8 hL8 => herr e _ _ _ _ w8 he rfl (nE (hE9.trans hE10) hL8 (by simp; omega)).chg⟩
  simp only [hN] at hok herr
  obtain ⟨m1, m2, m3, m4⟩ := nextM_ok hN
  have hdl := hT.lens.few
  have hE10' := hE9.trans hE10
  have s10 := hE10.size
  refine ⟨_, _, _, _, _, _, _, _, _, _, _, rfl, hE10.keep _, brB_f rfl ?_⟩
  refine brB_i (fun h29 w12 hL12 => ?_) fun h29 w13 hL13 => ?_
  · have h29 : 29 < d := by have := of_decide_eq_true h29; omega
    rw [if_pos h29] at herr
    exact herr 32 _ _ _ _ w12 (by omega) rfl (nE hE10' hL12 (by simp; omega)).chg
  have h29 : ¬ 29 < d := by have := of_decide_eq_false h29; omega
  rw [if_neg h29] at hok herr
  obtain ⟨r1, r2, r3⟩ := dist_facts d (by omega)
  have hE13 : Ext w w13 := nE hE10' hL13 (by simp; omega)
  have s13 := hL13.size
  refine refBase_spec (size := 2) (from_ := 1) (by omega) (.inr ⟨rfl, rfl⟩) ⟨_, _, rfl, (Ext.refl _).keep _, ?_⟩
  generalize hG : grpM d 2 1 = G at *
  have hY13 := h.ext hE13
  refine refT_spec (m := G.2) hY13.src hY13.hlen hY13.fit hY13.room (by omega) (by omega) (fun y k4' w15 hTy hE15 => ?_) fun w15 hTy hE15 => ?_
  rotate_left
  · simp only [hTy] at herr
    exact ⟨_, _, _, _, _, _, _, _, _, _, _, rfl, hE15.keep _, brB_t rfl fun w8 hL8 => herr 5 _ _ _ _ w8 (by omega) rfl (nE (hE13.trans hE15) hL8 (by simp; omega)).chg⟩
  simp only [hTy] at hok herr
  obtain ⟨b1, b2, b3, _⟩ := tkM_ok hTy
  have hE15' := hE13.trans hE15
  have s15 := hE15.size
  refine ⟨_, _, _, _, _, _, _, _, _, _, _, rfl, hE15.keep _, brB_f rfl ?_⟩
  rw [w64 (x := ((G.1 : Nat) : Int) + (y : Nat)) (by omega) (by omega), w64 (x := ((L.1 : Nat) : Int) + (x : Nat)) (by omega) (by omega), w64 (x := most - (s.2.length : Int)) (by omega) (by omega)]
  have ef : ((G.1 : Nat) : Int) + (y : Nat) = ((G.1 + y : Nat) : Int) := by omega
  have en : ((L.1 : Nat) : Int) + (x : Nat) = ((L.1 + x : Nat) : Int) := by omega
  rw [ef, en]
  have hf1 : 1 ≤ G.1 + y := by omega
  have hn258 : L.1 + x ≤ 258 := by omega
  generalize hfar : G.1 + y = far at *
  generalize hmany : L.1 + x = many at *
  refine brB_i (fun hfr w17 hL17 => ?_) fun hfr => ?_
  · have hfr := of_decide_eq_true hfr
    rw [if_pos (by omega)] at herr
    exact herr 42 _ _ _ _ w17 (by omega) rfl (nE hE15' hL17 (by simp; omega)).chg
  have hfr := of_decide_eq_false hfr
  rw [if_neg (by omega)] at hok herr
  refine brB_i (fun hms w18 hL18 => ?_) fun hms => ?_
  · rw [if_pos (of_decide_eq_true hms)] at herr
    exact herr 3 _ _ _ _ w18 (by omega) rfl (nE hE15' hL18 (by simp; omega)).chg
  have hms := of_decide_eq_false hms
  rw [if_neg hms] at hok herr
  -- the copying
  have hT1 : ∀ b, (T b ∧ b < w.heap.size ∨ w15.heap.size ≤ b) → T b := fun b hb => hb.elim (fun g => g.1) fun g => hnew b (by omega)
  have hTN : ∀ b, (T b ∧ b < w.heap.size ∨ w15.heap.size ≤ b) → N ≤ b := fun b hb => hb.elim (fun g => h.hT b g.1) fun g => by omega
  have hY15 := ((hY0.ext hE15').lim (T' := fun b => T b ∧ b < w.heap.size ∨ w15.heap.size ≤ b) hTN fun b hb _ => .inl hb).mv (k := k4') (by omega) (by omega)
  refine ⟨fun vs u => ∃ (i : Nat) (out : List Int) (p' : Option Addr) (c' : Nat), vs = [i64 (i : Nat), .slice base len cap, .bool false, i64 (k4' : Nat), .slice p' out.length c', i64 most, i64 0] ∧ i ≤ many ∧ out.length = s.2.length + i ∧
      copyM many far s.2 = copyM (many - i) far out ∧ Chg T w u ∧ w15.heap.size ≤ u.heap.size ∧ YAt u N (fun b => T b ∧ b < w.heap.size ∨ w15.heap.size ≤ b) base len cap bs most (k4', out) p' c',
    fun vs _ => match vs with | [.int _ i, _, _, _, _, _, _] => (many - i).toNat | _ => 0, fun w19 hL19 => ?_, fun n19 p7 k16 k17 c4 n20 p8 k18 k19 n21 n22 w20 hI => ?_⟩
  · exact ⟨0, s.2, p, c, rfl, by omega, rfl, rfl, (nE hE15' hL19 (by simp; omega)).chg, hL19.size, hY15.step hL19.chg fun b hb hl => by
      have : b = k3 ∨ b = k1 := by simpa using hb
      exact ⟨by omega, by omega⟩⟩
  obtain ⟨i, out, p', c', hv', hi, ho, hcp, hc20, s20, hY20⟩ := hI
  simp only [List.cons.injEq, Value.slice.injEq, Value.int.injEq, Value.bool.injEq, true_and, and_true] at hv'
  obtain ⟨rfl, ⟨rfl, rfl, rfl⟩, rfl, rfl, ⟨rfl, rfl, rfl⟩, rfl, rfl⟩ := hv'
  refine brB_i (fun hlt => ?_) fun hge w24 hL24 => ?_
  rotate_left
  · have hge := of_decide_eq_false hge
    have : i = many := by omega
    subst this
    rw [Nat.sub_self, copyM] at hcp
    rw [hcp] at hok
    refine hok (k4', out) _ _ w24 rfl (hc20.trans hL24.chg fun b hb _ => ?_) ((hY20.step hL24.chg fun b hb hl => ?_).lim h.hT fun b hb _ => hT1 b hb)
    · have : b = k3 ∨ b = k1 := by simpa using hb
      exact hnew b (by omega)
    · have : b = k3 ∨ b = k1 := by simpa using hb
      exact ⟨by omega, by omega⟩
  have hlt := of_decide_eq_true hlt
  have hfit := hY20.ok.fit
  have hsz : out.length ≤ 2 ^ 46 := by
    have h1 := hY20.ok.few
    have h2 := hY20.ok.slow
    have h3 := hY20.ok.pos
    simp only at h1 h2 h3
    exact h.hcap _ h1 (by omega)
  rw [w64 (x := (out.length : Int) - (far : Nat)) (by omega) (by omega)]
  have hf1 : 1 ≤ far := by omega
  have egd : (((out.length : Nat) : Int) - (far : Nat)).toNat = out.length - far := by omega
  refine hY20.out.sl.get (by omega) (bytes_length out) (by rw [egd]; exact bytes_get (show out.length - far < out.length by omega)) fun a ha => ⟨_, ha, fun k20 hk20 w21 hL21 => ?_⟩
  have hfb := copyM_fit.fit_getD' hfit (out.length - far)
  have hYd := hY20.ext (Ext.refl w20).drew
  have hkd : ∀ b, b ∈ [k20, k3, k1] → b = k20 ∨ b = k3 ∨ b = k1 := fun b hb => by simpa using hb
  have hk20' : w20.heap.size ≤ k20 := hk20
  refine hYd.grow (ys := [out.getD (out.length - far) 0]) (fun b hb => .inr (by have hb : w20.heap.size ≤ b := hb; omega)) hL21 (fun b hb => ?_) (by simp [blocks]) rfl ⟨hY20.ok.pos, by simp only [List.length_append, List.length_cons, List.length_nil]; omega, by simp only [List.length_append, List.length_cons, List.length_nil]; omega, fun x hx => ?_⟩ fun p' c' w22 hY22 hc22 w23 hL23 => ?_
  · rcases hkd b hb with rfl | rfl | rfl
    · exact .inl hk20
    · exact .inr ⟨by omega, by omega⟩
    · exact .inr ⟨by omega, by omega⟩
  · rcases List.mem_append.1 hx with hx | hx
    · exact hfit x hx
    · rw [List.mem_singleton.1 hx]; exact hfb
  · rw [wrap_succ (by omega)]
    have hTls : ∀ b, b ∈ [k20, k3, k1] → T b := fun b hb => by rcases hkd b hb with rfl | rfl | rfl <;> exact hnew _ (by omega)
    have hs22 : w20.heap.size ≤ w22.heap.size := hc22.size
    refine ⟨⟨i + 1, out ++ [out.getD (out.length - far) 0], p', c', rfl, by omega, by simp; omega, ?_, (hc20.drew.trans hc22 fun b hb _ => hb.elim (hT1 b) (hTls b)).trans hL23.chg fun b hb _ => hTls b hb, by have := hL23.size; omega, (hY22.step hL23.chg fun b hb hl => ⟨by rcases hkd b hb with rfl | rfl | rfl <;> omega, fun g => g.2 hb⟩).lim hTN fun b hb _ => hb.1⟩, by show ((many : Int) - ((i + 1 : Nat) : Int)).toNat < ((many : Int) - (i : Nat)).toNat; omega⟩
    rw [hcp, show many - i = (many - (i + 1)) + 1 by omega, copyM]
end
end Go.Proofs.Ythfnohbpdoklgaa
