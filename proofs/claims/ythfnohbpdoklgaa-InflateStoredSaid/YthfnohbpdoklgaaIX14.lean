/- Inflate: the document's side: symbols, till the end of a block. -/
import Derived.Test.YthfnohbpdoklgaaIX13
namespace Go.Proofs.Ythfnohbpdoklgaa
open Go Go.Vc Go.RowKit
set_option maxRecDepth 100000
set_option linter.unusedVariables false
set_option linter.unusedSimpArgs false
set_option maxHeartbeats 2000000
section
variable {w : World} {N : Nat} {T : Nat → Prop} {base : Option Addr} {len cap : Nat} {bs : List Int} {most : Int} {s : Sx} {p : Option Addr} {c : Nat} {R : Ending → World → Prop}
theorem refSymbols_spec {vs1 vs2 : List Value} {Dl Dd : Nat → Prop} {lits dists : List Nat} (h : YAt w N T base len cap bs most s p c) (hnew : ∀ b, w.heap.size ≤ b → T b)
    (hl : TblAt w vs1 Dl lits) (hd : TblAt w vs2 Dd dists) (hDl : ∀ b, Dl b → b < w.heap.size → ¬ T b) (hDd : ∀ b, Dd b → b < w.heap.size → ¬ T b)
    (hok : ∀ s' p' c' w', symM bs most lits dists s = .ok s' → Chg T w w' → YAt w' N T base len cap bs most s' p' c' → R (.returned (stt base len cap (s'.1 : Nat) p' s'.2.length c' most 0)) w')
    (herr : ∀ e r p' n' c' w', e ≠ 0 → symM bs most lits dists s = .error e → Chg T w w' → R (.returned (stt base len cap r p' n' c' most e)) w') :
    Calls P F.ref04_symbols #[stt base len cap (s.1 : Nat) p s.2.length c most 0, .agg vs1.toArray, .agg vs2.toArray] w R := by
  refine calls_ref04_symbols _ _ _ _ _ _ _ _ _ _ _ _ _ _ ?_
  intro k1 hk1 w1 hL1 k2 w2 hn2 k3 w3 hn3 k4 hk4
  have hE1 : Ext w w1 := hL1.ext (by simp; omega)
  have s1 := hE1.size
  have t1 := hL1.there k1 (by simp)
  have e2 : k2 = w1.heap.size := hn2.1
  have s2 := hn2.size
  have s2' := hn2.ext.size
  have e3 : k3 = w2.heap.size := hn3.1
  have s3 := hn3.size
  have s3' := hn3.ext.size
  have hE3 := (hE1.trans hn2.ext).trans hn3.ext
  have hC2 : Cs w3 k2 vs1 := (show Cs w2 k2 vs1 from hn2.cs).ext hn3.ext
  have hC3 : Cs w3 k3 vs2 := hn3.cs
  have hroom := h.room
  have hlen := h.hlen
  have hNw := h.hN
  have htop := h.top
  have hY0 := h.lim (T' := fun b => T b ∧ b < w.heap.size ∨ w3.heap.size ≤ b ∧ b ≠ k4) (fun b hb => hb.elim (fun g => h.hT b g.1) fun g => by omega) fun b hb hl => .inl ⟨hb, hl⟩
  have hT1 : ∀ b, (T b ∧ b < w.heap.size ∨ w3.heap.size ≤ b ∧ b ≠ k4) → T b := fun b hb => hb.elim (fun g => g.1) fun g => hnew b (by omega)
  have hTN : ∀ b, (T b ∧ b < w.heap.size ∨ w3.heap.size ≤ b ∧ b ≠ k4) → N ≤ b := fun b hb => h.hT b (hT1 b hb)
  have hl0 := hl.mono (E := fun b => Dl b ∧ b < w.heap.size) fun b hb hl => ⟨hb, hl⟩
  have hd0 := hd.mono (E := fun b => Dd b ∧ b < w.heap.size) fun b hb hl => ⟨hb, hl⟩
  have hls : ∀ {b}, b ∈ [k4, k1] → b = k4 ∨ b = k1 := fun hb => by simpa using hb
  -- what holds in each world of the loop
  let Z : World → Prop := fun u => Chg T w u ∧ w3.heap.size ≤ u.heap.size ∧ k4 < u.heap.size ∧ Cs u k2 vs1 ∧ Cs u k3 vs2 ∧ TblAt u vs1 (fun b => Dl b ∧ b < w.heap.size) lits ∧ TblAt u vs2 (fun b => Dd b ∧ b < w.heap.size) dists
  have zstep : ∀ {u u' : World} {S : Nat → Prop}, Z u → Chg S u u' → (∀ b, S b → T b) → (∀ b, S b → b < u.heap.size → b ≠ k2 ∧ b ≠ k3) → Z u' := fun {u u' S} hz hc hS hk => by
    obtain ⟨z1, z2, z3, z4, z5, z6, z7⟩ := hz
    have := hc.size
    have l2 := z4.lt
    have l3 := z5.lt
    exact ⟨z1.trans hc fun b hb _ => hS b hb, by omega, by omega, z4.chg hc fun hb => (hk _ hb l2).1 rfl, z5.chg hc fun hb => (hk _ hb l3).2 rfl, z6.chg hc fun b hb _ hs => hDl b hb.1 hb.2 (hS b hs), z7.chg hc fun b hb _ hs => hDd b hb.1 hb.2 (hS b hs)⟩
  have zext : ∀ {u u' : World}, Z u → Ext u u' → Z u' := fun hz hE => zstep (S := fun _ => False) hz hE.chg (fun _ h => h.elim) fun _ h => h.elim
  have zloc : ∀ {u u' : World}, Z u → Locl [k4, k1] u u' → Z u' := fun hz hL => zstep hz hL.chg (fun b hb => hnew b (by rcases hls hb with rfl | rfl <;> omega)) fun b hb _ => by rcases hls hb with rfl | rfl <;> omega
  have yloc : ∀ {u u' : World} {s p c}, YAt u N (fun b => T b ∧ b < w.heap.size ∨ w3.heap.size ≤ b ∧ b ≠ k4) base len cap bs most s p c → Locl [k4, k1] u u' → YAt u' N (fun b => T b ∧ b < w.heap.size ∨ w3.heap.size ≤ b ∧ b ≠ k4) base len cap bs most s p c := fun hy hL => hy.step hL.chg fun b hb _ => by
    rcases hls hb with rfl | rfl
    · exact ⟨by omega, by omega⟩
    · exact ⟨by omega, by omega⟩
  refine ⟨fun vs u => ∃ (k : Int) (p' : Option Addr) (n c' : Nat) (e : Int) (p3 : Option Addr) (k9 k10 : Nat) (c2 : Bool) (n4 : Int) (p4 : Option Addr) (k11 k12 : Nat) (n5 n6 : Int),
      vs = [.slice base len cap, .bool false, i64 k, .slice p' n c', i64 most, i64 e, .slice p3 k9 k10, .bool c2, i64 n4, .slice p4 k11 k12, i64 n5, i64 n6] ∧ Z u ∧
      (e ≠ 0 ∧ symM bs most lits dists s = .error e ∨ e = 0 ∧ ∃ (t : Sx) (f : Nat), k = (t.1 : Nat) ∧ n = t.2.length ∧ symM bs most lits dists s = symF bs most lits dists f t ∧ 8 * bs.length < t.1 + f ∧
        YAt u N (fun b => T b ∧ b < w.heap.size ∨ w3.heap.size ≤ b ∧ b ≠ k4) base len cap bs most t p' c'),
    fun vs _ => match vs with | [_, _, .int _ k, _, _, .int _ e, _, _, _, _, _, _] => if e = 0 then (8 * bs.length - k).toNat + 1 else 0 | _ => 0, fun w4 hL4 => ?_, fun p1 k5 k6 c1 n1 p2 k7 k8 n2 n3 p3 k9 k10 c2 n4 p4 k11 k12 n5 n6 w5 hI => ?_⟩
  · have t4 := hL4.there k4 (by simp)
    have hE4 : Ext w w4 := hE3.step hL4.chg (by simp; omega)
    exact ⟨_, _, _, _, _, _, _, _, _, _, _, _, _, _, _, rfl, ⟨hE4.chg, hL4.size, t4, hC2.locl hL4 (by simp; omega), hC3.locl hL4 (by simp; omega), hl0.chg (Z := fun _ => False) hE4.chg fun _ _ _ h => h, hd0.chg (Z := fun _ => False) hE4.chg fun _ _ _ h => h⟩,
      .inr ⟨rfl, s, 8 * bs.length + 1, rfl, rfl, rfl, by omega, hY0.ext hE4⟩⟩
  obtain ⟨k, p', n, c', e, q3, j9, j10, d2, m4, q4, j11, j12, m5, m6, hv, hZ, hI⟩ := hI
  have hv := hv.symm
  simp only [List.cons.injEq, Value.slice.injEq, Value.int.injEq, Value.bool.injEq, true_and, and_true] at hv
  obtain ⟨⟨rfl, rfl, rfl⟩, rfl, rfl, ⟨rfl, rfl, rfl⟩, rfl, rfl, ⟨rfl, rfl, rfl⟩, rfl, rfl, ⟨rfl, rfl, rfl⟩, rfl, rfl⟩ := hv
  rcases hI with ⟨he, hM⟩ | ⟨rfl, t, f0, rfl, rfl, hM, hf0, hY⟩
  · refine brB_f (by simpa using he) fun w16 hL16 => herr _ _ _ _ _ w16 he hM (zloc hZ hL16).1
  refine brB_t rfl ?_
  have hpos := hY.ok.pos
  obtain ⟨f, rfl⟩ : ∃ f, f0 = f + 1 := ⟨f0 - 1, by omega⟩
  rw [symF] at hM
  obtain ⟨z1, z2, z3, z4, z5, z6, z7⟩ := id hZ
  refine ⟨fun vs u => ∃ (k : Int) (p' : Option Addr) (n c' : Nat) (e : Int),
      vs = [.slice base len cap, .bool false, i64 k, .slice p' n c', i64 most, i64 e, .slice q3 j9 j10, .bool d2, i64 m4, .slice q4 j11 j12, i64 m5, i64 m6] ∧ Z u ∧
      (e ≠ 0 ∧ symM bs most lits dists s = .error e ∨ e = 0 ∧ ∃ (t' : Sx), k = (t'.1 : Nat) ∧ n = t'.2.length ∧ symM bs most lits dists s = symF bs most lits dists f t' ∧ t.1 < t'.1 ∧
        YAt u N (fun b => T b ∧ b < w.heap.size ∨ w3.heap.size ≤ b ∧ b ≠ k4) base len cap bs most t' p' c'), ⟨vs1, hl.length, cs_at0 z4, ?_⟩, fun p10 k24 k25 c5 n14 p11 k26 k27 n15 n16 p12 k28 k29 c6 n17 p13 k30 k31 n18 n19 w15 hI => ?_⟩
  rotate_left
  · obtain ⟨k, p', n, c', e, hv, hZ', hI⟩ := hI
    have hv := hv.symm
    simp only [List.cons.injEq, Value.slice.injEq, Value.int.injEq, Value.bool.injEq, true_and, and_true] at hv
    obtain ⟨⟨rfl, rfl, rfl⟩, rfl, rfl, ⟨rfl, rfl, rfl⟩, rfl, rfl, ⟨rfl, rfl, rfl⟩, rfl, rfl, ⟨rfl, rfl, rfl⟩, rfl, rfl⟩ := hv
    rcases hI with ⟨he, hM'⟩ | ⟨rfl, t', rfl, rfl, hM', hlt, hY'⟩
    · refine ⟨⟨_, _, _, _, _, _, _, _, _, _, _, _, _, _, _, rfl, hZ', .inl ⟨he, hM'⟩⟩, ?_⟩
      show (if e = 0 then _ else 0) < _
      rw [if_neg he]
      show 0 < (if (0 : Int) = 0 then _ else 0)
      rw [if_pos rfl]; omega
    · refine ⟨⟨_, _, _, _, _, _, _, _, _, _, _, _, _, _, _, rfl, hZ', .inr ⟨rfl, t', f, rfl, rfl, hM', by omega, hY'⟩⟩, ?_⟩
      have := hY'.ok.pos
      show ((8 : Int) * bs.length - (t'.1 : Nat)).toNat + 1 < ((8 : Int) * bs.length - (t.1 : Nat)).toNat + 1
      omega
  refine refN_spec z6 hY.src hY.hlen hY.fit hY.room hY.k (fun v k' w6 hN hE6 => ?_) fun e r w6 he hN hE6 => ?_
  rotate_left
  · rw [hN] at hM
    exact ⟨_, _, _, _, _, _, _, _, _, _, _, rfl, hE6.keep _, brB_t (by simp [he]) fun w7 hL7 => herr e _ _ _ _ w7 he hM (zloc (zext hZ hE6) hL7).1⟩
  rw [hN] at hM
  simp only at hM
  obtain ⟨n1, n2, n3, n4'⟩ := nextM_ok hN
  have hlf := hl.lens.few
  have hZ6 := zext hZ hE6
  have hY6 := (hY.ext hE6).mv (k := k') (by omega) n2
  have s6 := hE6.size
  refine ⟨_, _, _, _, _, _, _, _, _, _, _, rfl, hE6.keep _, ?_⟩
  refine brB_i (fun h256 w7 hL7 => ?_) fun h256 => ?_
  · have h256 : v = 256 := by
      have : (((v : Nat) : Int) == 256) = true := by simpa using h256
      have := eq_of_beq this; omega
    rw [if_pos h256] at hM
    exact hok _ _ _ w7 hM (zloc hZ6 hL7).1 ((yloc hY6 hL7).lim h.hT fun b hb _ => hT1 b hb)
  have h256 : v ≠ 256 := fun e => by subst e; simp at h256
  rw [if_neg h256] at hM
  have hslow := hY.ok.slow
  have hfew := hY.ok.few
  refine brB_i (fun hlit => ?_) fun hlit w12 hL12 => ?_
  · have hlit : v < 256 := by have := of_decide_eq_true hlit; omega
    rw [if_pos hlit] at hM
    refine brB_i (fun hfull w8 hL8 => ?_) fun hfull k17 hk17 w9 hL9 => ?_
    · have hfull := of_decide_eq_true hfull
      rw [if_pos (by omega)] at hM
      exact herr 3 _ _ _ _ w8 (by omega) hM (zloc hZ6 hL8).1
    have hfull := of_decide_eq_false hfull
    rw [if_neg (by omega)] at hM
    rw [wu8 (by omega) (by omega)]
    have hkd : ∀ b, b ∈ [k17, k4, k1] → b = k17 ∨ b = k4 ∨ b = k1 := fun b hb => by simpa using hb
    have z63 := hZ6.2.2.1
    refine hY6.grow (ys := [(v : Int)]) (fun b hb => .inr ⟨by omega, by omega⟩) hL9 (fun b hb => ?_) (by simp [blocks]) rfl ⟨n2, by simp only [List.length_append, List.length_cons, List.length_nil]; omega, by simp only [List.length_append, List.length_cons, List.length_nil]; omega, fun x hx => ?_⟩ fun p' c' w10 hY10 hc10 w11 hL11 => ?_
    · rcases hkd b hb with rfl | rfl | rfl
      · exact .inl hk17
      · exact .inr ⟨by omega, by omega⟩
      · exact .inr ⟨by omega, by omega⟩
    · rcases List.mem_append.1 hx with hx | hx
      · exact hY.ok.fit x hx
      · rw [List.mem_singleton.1 hx]; omega
    · have hTls : ∀ b, b ∈ [k17, k4, k1] → T b := fun b hb => by rcases hkd b hb with rfl | rfl | rfl <;> exact hnew _ (by omega)
      have hZ10 : Z w10 := zstep hZ6 hc10 (fun b hb => hb.elim (hT1 b) (hTls b)) fun b hb _ => by
        rcases hb with hb | hb
        · exact ⟨by omega, by omega⟩
        · rcases hkd b hb with rfl | rfl | rfl <;> exact ⟨by omega, by omega⟩
      refine ⟨_, p', _, c', 0, rfl, zstep hZ10 hL11.chg hTls fun b hb _ => by rcases hkd b hb with rfl | rfl | rfl <;> exact ⟨by omega, by omega⟩, .inr ⟨rfl, (k', t.2 ++ [(v : Int)]), rfl, rfl, hM, n1, ?_⟩⟩
      exact (hY10.step hL11.chg fun b hb hl => ⟨by rcases hkd b hb with rfl | rfl | rfl <;> omega, fun g => g.2 hb⟩).lim hTN fun b hb _ => hb.1
  have hlit : 256 < v := by have := of_decide_eq_false hlit; omega
  rw [if_neg (by omega)] at hM
  have hZ12 := zloc hZ6 hL12
  obtain ⟨y1, y2, y3, y4, y5, y6, y7⟩ := id hZ12
  have hYm := yloc hY6 hL12
  refine ⟨vs2, hd.length, cs_at0 y5, ?_⟩
  have hkeep : ∀ {u : World}, Chg (fun b => T b ∧ b < w.heap.size ∨ w3.heap.size ≤ b ∧ b ≠ k4) w12 u → Keep [k4, k1] w12 u := fun hc => hc.keep fun b hb => by rcases hls hb with rfl | rfl <;> omega
  refine refMatch_spec (s := (k', t.2)) (v := v) hYm (fun b hb => .inr ⟨by omega, by omega⟩) y7 hlit (by omega) (fun s' p' c' w13 hMM hc13 hY13 => ?_) fun e r p' n' c' w13 he hMM hc13 => ?_
  · rw [hMM] at hM
    simp only at hM
    refine ⟨_, _, _, _, _, _, _, _, _, _, rfl, hkeep hc13, fun w14 hL14 => ?_⟩
    have hZ13 := zstep hZ12 hc13 hT1 fun b hb _ => ⟨by omega, by omega⟩
    refine ⟨_, p', _, c', 0, rfl, zloc hZ13 hL14, .inr ⟨rfl, s', rfl, rfl, hM, ?_, yloc hY13 hL14⟩⟩
    have := (matchM_ok hMM hlit hYm.ok).2
    simp only at this; omega
  · rw [hMM] at hM
    simp only at hM
    refine ⟨_, _, _, _, _, _, _, _, _, _, rfl, hkeep hc13, fun w14 hL14 => ?_⟩
    have hZ13 := zstep hZ12 hc13 hT1 fun b hb _ => ⟨by omega, by omega⟩
    exact ⟨_, _, _, _, _, rfl, zloc hZ13 hL14, .inl ⟨he, hM⟩⟩
end
end Go.Proofs.Ythfnohbpdoklgaa
