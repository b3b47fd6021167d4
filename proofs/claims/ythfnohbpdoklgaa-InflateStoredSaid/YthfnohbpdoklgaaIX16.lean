/- Inflate: the document's side: the codes of a block. -/
import Derived.Test.YthfnohbpdoklgaaIX15
namespace Go.Proofs.Ythfnohbpdoklgaa
open Go Go.Vc Go.RowKit
set_option maxRecDepth 100000
set_option linter.unusedVariables false
set_option linter.unusedSimpArgs false
set_option maxHeartbeats 2000000
section
variable {N : Nat} {w : World} {base : Option Addr} {len cap k : Nat} {bs : List Int} {p : Option Addr} {n c : Nat} {most : Int} {R : Ending → World → Prop}
theorem refTables_spec (hs : Sl N w base (bytes bs)) (hl : len = bs.length) (hf : Bs bs) (hsz : len ≤ 2 ^ 47) (hk : k ≤ 8 * len)
    (hok : ∀ lits dists k' q lq cq r lr cr w', tabM bs k = .ok (lits, dists, k') → Ext w w' → (∀ (S : Nat → Prop) (w2 : World), Chg S w' w2 → (∀ b, S b → b < w.heap.size) → Sl w2.heap.size w2 q (ni lits) ∧ Sl w2.heap.size w2 r (ni dists)) → lits.length = lq → dists.length = lr → Lens lits → Lens dists → k ≤ k' → k' ≤ 8 * len →
      R (.returned (.tuple #[stt base len cap (k' : Nat) p n c most 0, .slice q lq cq, .slice r lr cr])) w')
    (herr : ∀ e r q1 l1 c1 q2 l2 c2 w', e ≠ 0 → tabM bs k = .error e → Ext w w' → R (.returned (.tuple #[stt base len cap r p n c most e, .slice q1 l1 c1, .slice q2 l2 c2])) w') :
    Calls P F.ref04_tables #[stt base len cap (k : Nat) p n c most 0] w R := by
  refine calls_ref04_tables _ _ _ _ _ _ _ _ _ _ _ _ ?_
  intro k1 hk1 k2 hk2 w1 hL1
  have hls : ∀ {b}, b ∈ [k2, k1] → b = k2 ∨ b = k1 := fun hb => by simpa using hb
  let Z : World → Prop := fun u => Ext w u ∧ k1 < u.heap.size ∧ k2 < u.heap.size
  have zext : ∀ {u u' : World}, Z u → Ext u u' → Z u' := fun hz hE => ⟨hz.1.trans hE, by have := hz.2.1; have := hE.size; omega, by have := hz.2.2; have := hE.size; omega⟩
  have zloc : ∀ {u u' : World}, Z u → Locl [k2, k1] u u' → Z u' := fun hz hL => ⟨hz.1.step hL.chg fun b hb => by rcases hls hb with rfl | rfl <;> omega, hL.there k1 (by simp), hL.there k2 (by simp)⟩
  have hZ1 : Z w1 := ⟨hL1.ext (by simp; omega), hL1.there k1 (by simp), hL1.there k2 (by simp)⟩
  have hTab : tabM bs k = tabM bs k := rfl
  conv at hTab => rhs; unfold tabM
  refine refT_spec (m := 5) (hs.ext hZ1.1) hl hf hsz hk (by omega) (fun hlit kA w2 hTA hE2 => ?_) fun w2 hTA hE2 => ?_
  rotate_left
  · rw [hTA] at hTab
    refine ⟨_, _, _, _, _, _, _, _, _, _, _, rfl, hE2.keep _, fun vs u => vs = [i64 0, .slice base len cap, .bool false, i64 (k : Nat), .slice p n c, i64 most, i64 5] ∧ Z u, brB_f rfl fun w6 hL6 => ⟨rfl, zloc (zext hZ1 hE2) hL6⟩, fun n9 p5 k11 k12 c3 n10 p6 k13 k14 n11 n12 w7 hI => ?_⟩
    obtain ⟨hv, hZ⟩ := hI
    have hv := hv.symm
    simp only [List.cons.injEq, Value.slice.injEq, Value.int.injEq, Value.bool.injEq, true_and, and_true] at hv
    obtain ⟨rfl, ⟨rfl, rfl, rfl⟩, rfl, rfl, ⟨rfl, rfl, rfl⟩, rfl, rfl⟩ := hv
    refine ⟨fun vs u => vs = [i64 0, .slice base len cap, .bool false, i64 (k : Nat), .slice p n c, i64 most, i64 5] ∧ Z u, brB_f rfl ⟨rfl, hZ⟩, fun n17 p9 k19 k20 c5 n18 p10 k21 k22 n19 n20 w10 hI => ?_⟩
    obtain ⟨hv, hZ⟩ := hI
    have hv := hv.symm
    simp only [List.cons.injEq, Value.slice.injEq, Value.int.injEq, Value.bool.injEq, true_and, and_true] at hv
    obtain ⟨rfl, ⟨rfl, rfl, rfl⟩, rfl, rfl, ⟨rfl, rfl, rfl⟩, rfl, rfl⟩ := hv
    exact brB_t rfl fun w11 hL11 => herr 5 _ _ _ _ _ _ _ w11 (by omega) hTab (zloc hZ hL11).1
  rw [hTA] at hTab
  simp only at hTab
  obtain ⟨a1, a2, a3, _⟩ := tkM_ok hTA
  have hZ2 := zext hZ1 hE2
  refine ⟨_, _, _, _, _, _, _, _, _, _, _, rfl, hE2.keep _, fun vs u => Z u ∧ ((∃ hd kB : Nat, tkM bs kA 5 = .ok (hd, kB) ∧ vs = [i64 (hd : Nat), .slice base len cap, .bool false, i64 (kB : Nat), .slice p n c, i64 most, i64 0]) ∨ tkM bs kA 5 = .error 5 ∧ ∃ kB : Nat, vs = [i64 0, .slice base len cap, .bool false, i64 (kB : Nat), .slice p n c, i64 most, i64 5]),
    brB_t rfl fun w3 hL3 => ?_, fun n9 p5 k11 k12 c3 n10 p6 k13 k14 n11 n12 w7 hI => ?_⟩
  · have hZ3 := zloc hZ2 hL3
    refine refT_spec (m := 5) (hs.ext hZ3.1) hl hf hsz (by omega) (by omega) (fun hd kB w4 hTB hE4 => ?_) fun w4 hTB hE4 => ?_
    · exact ⟨_, _, _, _, _, _, _, _, _, _, _, rfl, hE4.keep _, fun w5 hL5 => ⟨zloc (zext hZ3 hE4) hL5, .inl ⟨hd, kB, hTB, rfl⟩⟩⟩
    · exact ⟨_, _, _, _, _, _, _, _, _, _, _, rfl, hE4.keep _, fun w5 hL5 => ⟨zloc (zext hZ3 hE4) hL5, .inr ⟨hTB, kA, rfl⟩⟩⟩
  obtain ⟨hZ7, hI⟩ := hI
  rcases hI with ⟨hd, kB, hTB, hv⟩ | ⟨hTB, kB, hv⟩
  rotate_left
  · rw [hTB] at hTab
    have hv := hv.symm
    simp only [List.cons.injEq, Value.slice.injEq, Value.int.injEq, Value.bool.injEq, true_and, and_true] at hv
    obtain ⟨rfl, ⟨rfl, rfl, rfl⟩, rfl, rfl, ⟨rfl, rfl, rfl⟩, rfl, rfl⟩ := hv
    refine ⟨fun vs u => vs = [i64 0, .slice base len cap, .bool false, i64 (kB : Nat), .slice p n c, i64 most, i64 5] ∧ Z u, brB_f rfl ⟨rfl, hZ7⟩, fun n17 p9 k19 k20 c5 n18 p10 k21 k22 n19 n20 w10 hI => ?_⟩
    obtain ⟨hv, hZ⟩ := hI
    have hv := hv.symm
    simp only [List.cons.injEq, Value.slice.injEq, Value.int.injEq, Value.bool.injEq, true_and, and_true] at hv
    obtain ⟨rfl, ⟨rfl, rfl, rfl⟩, rfl, rfl, ⟨rfl, rfl, rfl⟩, rfl, rfl⟩ := hv
    exact brB_t rfl fun w11 hL11 => herr 5 _ _ _ _ _ _ _ w11 (by omega) hTab (zloc hZ hL11).1
  rw [hTB] at hTab
  simp only at hTab
  obtain ⟨b1, b2, b3, _⟩ := tkM_ok hTB
  have hv := hv.symm
  simp only [List.cons.injEq, Value.slice.injEq, Value.int.injEq, Value.bool.injEq, true_and, and_true] at hv
  obtain ⟨rfl, ⟨rfl, rfl, rfl⟩, rfl, rfl, ⟨rfl, rfl, rfl⟩, rfl, rfl⟩ := hv
  refine ⟨fun vs u => Z u ∧ ((∃ hc kC : Nat, tkM bs kB 4 = .ok (hc, kC) ∧ vs = [i64 (hc : Nat), .slice base len cap, .bool false, i64 (kC : Nat), .slice p n c, i64 most, i64 0]) ∨ tkM bs kB 4 = .error 5 ∧ ∃ kC : Nat, vs = [i64 0, .slice base len cap, .bool false, i64 (kC : Nat), .slice p n c, i64 most, i64 5]),
    brB_t rfl ?_, fun n17 p9 k19 k20 c5 n18 p10 k21 k22 n19 n20 w10 hI => ?_⟩
  · refine refT_spec (m := 4) (hs.ext hZ7.1) hl hf hsz (by omega) (by omega) (fun hd kB w4 hTB hE4 => ?_) fun w4 hTB hE4 => ?_
    · exact ⟨_, _, _, _, _, _, _, _, _, _, _, rfl, hE4.keep _, fun w5 hL5 => ⟨zloc (zext hZ7 hE4) hL5, .inl ⟨hd, kB, hTB, rfl⟩⟩⟩
    · exact ⟨_, _, _, _, _, _, _, _, _, _, _, rfl, hE4.keep _, fun w5 hL5 => ⟨zloc (zext hZ7 hE4) hL5, .inr ⟨hTB, kB, rfl⟩⟩⟩
  obtain ⟨hZ10, hI⟩ := hI
  rcases hI with ⟨hc, kC, hTC, hv⟩ | ⟨hTC, kC, hv⟩
  rotate_left
  · rw [hTC] at hTab
    have hv := hv.symm
    simp only [List.cons.injEq, Value.slice.injEq, Value.int.injEq, Value.bool.injEq, true_and, and_true] at hv
    obtain ⟨rfl, ⟨rfl, rfl, rfl⟩, rfl, rfl, ⟨rfl, rfl, rfl⟩, rfl, rfl⟩ := hv
    exact brB_t rfl fun w11 hL11 => herr 5 _ _ _ _ _ _ _ w11 (by omega) hTab (zloc hZ10 hL11).1
  rw [hTC] at hTab
  simp only at hTab
  obtain ⟨c1, c2, c3, _⟩ := tkM_ok hTC
  have hv := hv.symm
  simp only [List.cons.injEq, Value.slice.injEq, Value.int.injEq, Value.bool.injEq, true_and, and_true] at hv
  obtain ⟨rfl, ⟨rfl, rfl, rfl⟩, rfl, rfl, ⟨rfl, rfl, rfl⟩, rfl, rfl⟩ := hv
  refine brB_f rfl ?_
  refine brB_i (fun hbig w12 hL12 => ?_) fun hbig => ?_
  · have hbig : 29 < hlit ∨ 29 < hd := by simp only [Bool.or_eq_true, decide_eq_true_eq] at hbig; omega
    exact herr 41 _ _ _ _ _ _ _ w12 (by omega) (by rw [hTab, if_pos hbig]) (zloc hZ10 hL12).1
  have hbig : ¬ (29 < hlit ∨ 29 < hd) := fun g => by
    have : (decide (((hlit : Nat) : Int) > 29) || decide (((hd : Nat) : Int) > 29)) = true := by simp only [Bool.or_eq_true, decide_eq_true_eq]; omega
    rw [this] at hbig; cases hbig
  rw [if_neg hbig] at hTab
  intro kO w13 hn13
  refine ⟨by omega, by omega, by omega, by omega, fun kL w14 hn14 => ?_⟩
  have eO : kO = w10.heap.size := hn13.1
  have sO := hn13.size
  have eL : kL = w13.heap.size := hn14.1
  have sL := hn14.size
  have hCO : Cs w14 kO (ni ordL) := (show Cs w13 kO (ni ordL) from hn13.cs).ext hn14.ext
  have hCL : Cs w14 kL (ni (List.replicate 19 0)) := New.row hn14
  have hZ14 := zext (zext hZ10 hn13.ext) hn14.ext
  have s10 := hZ10.1.size
  have g10 := hZ10.2
  have en : IntKind.i64.wrap (((hc : Nat) : Int) + 4) = ((hc + 4 : Nat) : Int) := by rw [w64 (by omega) (by omega)]; omega
  rw [en]
  generalize hQ : lensF bs (hc + 4) 0 kC (List.replicate 19 0) = Q at hTab
  refine ⟨fun vs u => ∃ (i : Nat) (l : List Nat) (k : Nat) (p3 : Option Addr) (k9 k10 : Nat) (c2 : Bool) (n4 : Int) (p4 : Option Addr) (k11 k12 : Nat) (n5 n6 : Int),
      vs = [i64 (i : Nat), .slice base len cap, .bool false, i64 (k : Nat), .slice p n c, i64 most, i64 0, .slice p3 k9 k10, .bool c2, i64 n4, .slice p4 k11 k12, i64 n5, i64 n6] ∧ i ≤ hc + 4 ∧ Q = lensF bs (hc + 4 - i) i k l ∧ l.length = 19 ∧ (∀ x, x ∈ l → x ≤ 7) ∧
      kC ≤ k ∧ k ≤ 8 * len ∧ Z u ∧ w14.heap.size ≤ u.heap.size ∧ Cs u kO (ni ordL) ∧ Cs u kL (ni l),
    fun vs _ => match vs with | [.int _ i, _, _, _, _, _, _, _, _, _, _, _, _] => (hc + 4 - i : Int).toNat | _ => 0,
    ⟨0, List.replicate 19 0, kC, none, 0, 0, false, 0, none, 0, 0, 0, 0, rfl, by omega, hQ.symm, by simp, (fun x hx => by rw [List.mem_replicate] at hx; omega), Nat.le_refl _, by omega, hZ14, Nat.le_refl _, hCO, hCL⟩,
    fun n21 p11 k25 k26 c6 n22 p12 k27 k28 n23 n24 p13 k29 k30 c7 n25 p14 k31 k32 n26 n27 w15 hI => ?_⟩
  obtain ⟨i, l, k', q3, j9, j10, d2, m4, q4, j11, j12, m5, m6, hv, hi, hlens, hll, hl7, hk1', hk2', hZ15, s15, hCO15, hCL15⟩ := hI
  have hv := hv.symm
  simp only [List.cons.injEq, Value.slice.injEq, Value.int.injEq, Value.bool.injEq, true_and, and_true] at hv
  obtain ⟨rfl, ⟨rfl, rfl, rfl⟩, rfl, rfl, ⟨rfl, rfl, rfl⟩, rfl, rfl, ⟨rfl, rfl, rfl⟩, rfl, rfl, ⟨rfl, rfl, rfl⟩, rfl, rfl⟩ := hv
  refine brB_i (fun hlt => ?_) fun hge => ?_
  · have hlt : i < hc + 4 := by have := of_decide_eq_true hlt; omega
    rw [show hc + 4 - i = (hc + 4 - (i + 1)) + 1 by omega, lensF] at hlens
    refine refT_spec (m := 3) (hs.ext hZ15.1) hl hf hsz hk2' (by omega) (fun x k7 w16 hT7 hE16 => ?_) fun w16 hT7 hE16 => ?_
    rotate_left
    · rw [hT7] at hlens
      rw [hlens] at hTab
      exact ⟨_, _, _, _, _, _, _, _, _, _, _, rfl, hE16.keep _, brB_t rfl fun w17 hL17 => herr 5 _ _ _ _ _ _ _ w17 (by omega) hTab (zloc (zext hZ15 hE16) hL17).1⟩
    rw [hT7] at hlens
    simp only at hlens
    obtain ⟨d1, d2, d3, _⟩ := tkM_ok hT7
    refine ⟨_, _, _, _, _, _, _, _, _, _, _, rfl, hE16.keep _, brB_f rfl ?_⟩
    refine idx_i (by omega) (by omega) rfl ?_
    rw [loc_add, Nat.zero_add, Nat.mul_one, Int.toNat_natCast]
    intro w18 hL18
    have hZ18 := zloc (zext hZ15 hE16) hL18
    have hkO : kO ∉ [k2, k1] := fun hm => by rcases hls hm with g | g <;> omega
    have hkL : kL ∉ [k2, k1] := fun hm => by rcases hls hm with g | g <;> omega
    have hCO18 := (hCO15.ext hE16).locl hL18 hkO
    have hCL18 := (hCL15.ext hE16).locl hL18 hkL
    have s18 := hL18.size
    have s16 := hE16.size
    refine ⟨_, hCO18.cell (ni_get (by rw [show ordL.length = 19 from rfl]; omega)), ?_⟩
    have ho := ord_lt i (by omega)
    refine idx_i (by omega) (by omega) rfl ?_
    rw [loc_add, Nat.zero_add, Nat.mul_one, Int.toNat_natCast]
    have hset := Chg.setCells w18 ⟨kL, ordL.getD i 0, none⟩ [i64 (x : Nat)] 0
    have hssz : (setCells w18 ⟨kL, ordL.getD i 0, none⟩ [i64 (x : Nat)] 0).heap.size = w18.heap.size := (setCells_same _ _ _ _).size
    have t1 := hCL18.set1 (off := ordL.getD i 0) (v := i64 (x : Nat)) (by rw [ni_length]; omega)
    rw [ni_set] at t1
    rw [wrap_succ (by omega)]
    refine ⟨⟨_, hCL18.cell (ni_get (by omega))⟩, hCL18.frozen _, hkL, ⟨i + 1, l.set (ordL.getD i 0) x, k7, _, _, _, _, _, _, _, _, _, _, rfl, hlt, hlens, by simp [hll], fun y hy => ?_, by omega, by omega, ⟨hZ18.1.step hset fun j hj => by have hj : j = kL := hj; omega, by rw [hssz]; exact hZ18.2.1, by rw [hssz]; exact hZ18.2.2⟩, by rw [hssz]; omega, hCO18.chg hset (by show ¬ kO = kL; omega), t1⟩, by show ((hc : Int) + 4 - ((i + 1 : Nat) : Int)).toNat < ((hc : Int) + 4 - (i : Nat)).toNat; omega⟩
    rcases List.mem_or_eq_of_mem_set hy with hy | hy
    · exact hl7 y hy
    · omega
  have : i = hc + 4 := by have := of_decide_eq_false hge; omega
  subst this
  rw [Nat.sub_self, lensF] at hlens
  rw [hlens] at hTab
  simp only at hTab
  have hLl : Lens l := ⟨by omega, fun x hx => by have := hl7 x hx; omega⟩
  refine refMay_spec (hCL15.sl (off := 0) (by simp) hCL15.lt) hll hLl ⟨_, rfl, (Ext.refl _).keep _, ?_⟩
  refine brB_i (fun hm w20 hL20 => ?_) fun hm => ?_
  · have hm : mayM l false = false := by simpa using hm
    exact herr 41 _ _ _ _ _ _ _ w20 (by omega) (by rw [hTab, if_pos hm]) (zloc hZ15 hL20).1
  have hm : mayM l false = true := by simpa using hm
  rw [if_neg (by rw [hm]; exact Bool.noConfusion)] at hTab
  have hCd : Cs w15.drew kL (ni l) := hCL15
  have hZd : Z w15.drew := zext hZ15 (Ext.refl w15).drew
  refine Tabled_spec (hCd.sl (off := 0) (by simp) hCd.lt) hll hLl fun vs w21 hE21 hT21 => ⟨vs, hT21.length, rfl, hE21.keep _, hE21.keeps, ?_⟩
  have hZ21 := zext hZd hE21
  have eN : IntKind.i64.wrap (IntKind.i64.wrap (IntKind.i64.wrap (((hlit : Nat) : Int) + 257) + (hd : Nat)) + 1) = ((hlit + 257 + hd + 1 : Nat) : Int) := by
    rw [w64 (x := ((hlit : Nat) : Int) + 257) (by omega) (by omega), w64 (x := ((hlit : Nat) : Int) + 257 + _) (by omega) (by omega), w64 (by omega) (by omega)]; omega
  rw [eN]
  have hN316 : hlit + 257 + hd + 1 ≤ 316 := by omega
  generalize hN : hlit + 257 + hd + 1 = M at *
  refine refRow_spec hT21 hll (hs.ext hZ21.1) hl hf hsz hk2' (by omega) (fun row k9 q cq w22 hrow hE22 hO22 hrl hr15 hk9 hk9' => ?_) fun e r w22 he hrow hE22 => ?_
  rotate_left
  · rw [hrow] at hTab
    exact ⟨_, _, _, _, _, _, _, _, _, _, _, _, _, rfl, hE22.keep _, brB_t (by simpa using he) fun w23 hL23 => herr e _ _ _ _ _ _ _ w23 he hTab (zloc (zext hZ21 hE22) hL23).1⟩
  rw [hrow] at hTab
  simp only at hTab
  have hZ22 := zext hZ21 hE22
  refine ⟨_, _, _, _, _, _, _, _, _, _, _, _, _, rfl, hE22.keep _, brB_f rfl ?_⟩
  have e1 : IntKind.i64.wrap (((hlit : Nat) : Int) + 257) = ((hlit + 257 : Nat) : Int) := by rw [w64 (by omega) (by omega)]; omega
  rw [e1]
  have hcap := hO22.2.1
  obtain ⟨b, q1, q2, q3'⟩ := OwnS.base hO22 (by omega)
  refine ⟨by omega, by omega, by omega, ⟨by omega, by omega, by omega, ?_⟩⟩
  rw [show (0 : Int).toNat = 0 from rfl, slcBase0, Int.toNat_natCast, Int.toNat_natCast, Nat.sub_zero]
  subst q1
  refine idx_i (by omega) (by omega) rfl ?_
  rw [loc_add, Nat.zero_add, Nat.mul_one, show (256 : Int).toNat = 256 from rfl]
  intro w24 hL24
  have hZ24 := zloc hZ22 hL24
  have s21 := hZ21.2
  have hO24 := OwnS.chg hO22 hL24.chg fun b hb _ hm => by rcases hls hm with rfl | rfl <;> omega
  obtain ⟨a, g1, _, g3⟩ := OwnS.sl hO24 256 _ (ni_get (by omega))
  cases g1
  rw [loc_add, Nat.zero_add] at g3
  refine ⟨_, g3, ?_⟩
  refine brB_i (fun h0 w25 hL25 => ?_) fun h0 => ?_
  · have h0 : row.getD 256 0 = 0 := by have := eq_of_beq h0; omega
    exact herr 41 _ _ _ _ _ _ _ w25 (by omega) (by rw [hTab, if_pos (.inl h0)]) (zloc hZ24 hL25).1
  have h0 : ¬ row.getD 256 0 = 0 := fun e => by rw [e] at h0; cases h0
  have hSl9 := hO24.sl
  have hLrow : Lens row := ⟨by omega, fun x hx => by have := hr15 x hx; omega⟩
  have hL1' : Lens (row.take (hlit + 257)) := ⟨by rw [List.length_take]; omega, fun x hx => hLrow.low x (List.mem_of_mem_take hx)⟩
  have hL2' : Lens (row.drop (hlit + 257)) := ⟨by rw [List.length_drop]; omega, fun x hx => hLrow.low x (List.mem_of_mem_drop hx)⟩
  have y1 : Sl w24.heap.size w24 (some ⟨b, 0, none⟩) (ni (row.take (hlit + 257))) := hSl9.pre (by rw [ni, ni, List.map_take]; exact List.take_prefix _ _)
  have y2 : Sl w24.heap.size w24 (slcBase (some ⟨b, 0, none⟩) (hlit + 257) cq 1) (ni (row.drop (hlit + 257))) := hSl9.part (by rw [ni_length]; exact hcap) (by rw [ni, ni, List.map_drop]; exact List.prefix_refl _)
  have ylen1 : (row.take (hlit + 257)).length = hlit + 257 := by rw [List.length_take]; omega
  have ylen2 : (row.drop (hlit + 257)).length = row.length - (hlit + 257) := by rw [List.length_drop]
  refine refMay_spec y1 ylen1 hL1' ⟨_, rfl, (Ext.refl _).keep _, ?_⟩
  refine brB_i (fun hm1 w27 hL27 => ?_) fun hm1 => ?_
  · have hm1 : mayM (row.take (hlit + 257)) false = false := by simpa using hm1
    exact herr 41 _ _ _ _ _ _ _ w27 (by omega) (by rw [hTab, if_pos (.inr (.inl hm1))]) (zloc hZ24 hL27).1
  have hm1 : mayM (row.take (hlit + 257)) false = true := by simpa using hm1
  refine refMay_spec y2 ylen2 hL2' ⟨_, rfl, (Ext.refl _).keep _, ?_⟩
  refine brB_i (fun hm2 w29 hL29 => ?_) fun hm2 w30 hL30 => ?_
  · have hm2 : mayM (row.drop (hlit + 257)) true = false := by simpa using hm2
    exact herr 41 _ _ _ _ _ _ _ w29 (by omega) (by rw [hTab, if_pos (.inr (.inr hm2))]) (zloc hZ24 hL29).1
  have hm2 : mayM (row.drop (hlit + 257)) true = true := by simpa using hm2
  have hO30 := OwnS.chg hO24 hL30.chg fun b hb _ hm => by rcases hls hm with rfl | rfl <;> omega
  refine hok (row.take (hlit + 257)) (row.drop (hlit + 257)) k9 _ _ _ _ _ _ w30 ?_ (zloc hZ24 hL30).1 (fun S w2 hc hS => ?_) ylen1 ylen2 hL1' hL2' (by omega) (by omega)
  · rw [hTab, if_neg fun g => by
      rcases g with g | g | g
      · exact h0 g
      · rw [hm1] at g; cases g
      · rw [hm2] at g; cases g]
  · have hx := (OwnS.chg hO30 hc fun b hb _ hs => by have := hS b hs; have := hZ21.1.size; omega).sl
    exact ⟨hx.pre (by rw [ni, ni, List.map_take]; exact List.take_prefix _ _), hx.part (by rw [ni_length]; exact hcap) (by rw [ni, ni, List.map_drop]; exact List.prefix_refl _)⟩
end
end Go.Proofs.Ythfnohbpdoklgaa
