/- Inflate: the document's side: a stream. -/
import Derived.Test.YthfnohbpdoklgaaIX16
namespace Go.Proofs.Ythfnohbpdoklgaa
open Go Go.Vc Go.RowKit
set_option maxRecDepth 100000
set_option linter.unusedVariables false
set_option linter.unusedSimpArgs false
set_option maxHeartbeats 2000000
theorem refRaw_spec {N : Nat} {w : World} {base : Option Addr} {len cap : Nat} {bs : List Int} {most : Int} {R : Ending → World → Prop} (h : Sl N w base (bytes bs)) (hl : len = bs.length) (hfew : len ≤ cap) (hsz : len ≤ 2 ^ 47) (hf : Bs bs) (hm1 : most ≤ 9223372036854775807)
    (hcap : ∀ m : Nat, (m : Int) ≤ max most 0 → m ≤ 258 * (8 * bs.length) → m ≤ 2 ^ 46)
    (hR : ∀ p c w', Ext w w' → OwnS (fun b => w.heap.size ≤ b) w' p (rawR bs most).1.length c 1 (bytes (rawR bs most).1) → R (.returned (.tuple #[.slice p (rawR bs most).1.length c, i64 ((rawR bs most).2.1 : Nat), i64 (rawR bs most).2.2])) w') :
    Calls P F.ref04_Raw #[.slice base len cap, i64 most] w R := by
  refine calls_ref04_Raw _ _ _ _ _ _ ?_
  generalize hQ : rawF bs (max most 0) (8 * bs.length + 1) (0, []) = Q
  have hrE : ∀ e, Q = .error e → rawR bs most = ([], 0, e) := fun e h => by unfold rawR; rw [hQ, h]
  have hrO : ∀ s : Sx, Q = .ok s → rawR bs most = (s.2, (s.1 + 7) / 8, 0) := fun s h => by unfold rawR; rw [hQ, h]
  refine ⟨fun vs u => u = w ∧ vs = [i64 (max most 0)], brB_i (fun h0 => ⟨rfl, ?_⟩) fun h0 => ⟨rfl, ?_⟩, fun n1 w1 hI => ?_⟩
  · rw [show max most 0 = 0 by have := of_decide_eq_true h0; omega]
  · rw [show max most 0 = most by have := of_decide_eq_false h0; omega]
  obtain ⟨rfl, hv⟩ := hI
  obtain rfl : n1 = max most 0 := by simpa using hv
  have hmt : max most 0 ≤ 9223372036854775807 := by omega
  generalize hmost : max most 0 = mst at *
  intro k1 hk1
  let Z : World → Prop := fun u => Ext w1 u ∧ k1 < u.heap.size
  let T1 : Nat → Prop := fun b => w1.heap.size ≤ b ∧ b ≠ k1
  have zext : ∀ {u u' : World}, Z u → Ext u u' → Z u' := fun hz hE => ⟨hz.1.trans hE, by have := hz.2; have := hE.size; omega⟩
  have zchg : ∀ {u u' : World} {S : Nat → Prop}, Z u → Chg S u u' → (∀ b, S b → w1.heap.size ≤ b) → Z u' := fun hz hc hS => ⟨hz.1.step hc hS, by have := hz.2; have := hc.size; omega⟩
  have zloc : ∀ {u u' : World}, Z u → Locl [k1] u u' → Z u' := fun hz hL => zchg hz hL.chg fun b hb => by simp at hb; omega
  have keepT : ∀ {u u' : World} {S : Nat → Prop}, Chg S u u' → (∀ b, S b → b ≠ k1) → Keep [k1] u u' := fun hc hS => hc.keep fun b hb hs => by
    have : b = k1 := by simpa using hb
    exact hS b hs this
  have yloc : ∀ {u u' : World} {S : Nat → Prop} {s p c}, YAt u w1.heap.size S base len cap bs mst s p c → ¬ S k1 → Locl [k1] u u' → YAt u' w1.heap.size S base len cap bs mst s p c := fun hy hS hL => hy.step hL.chg fun b hb _ => by
    have : b = k1 := by simpa using hb
    subst this
    exact ⟨hk1, hS⟩
  have nT1 : ¬ T1 k1 := fun g => g.2 rfl
  have st : ∀ (k : Int) (p : Option Addr) (n c : Nat) (e : Int) {a1 a2 a3 : Option Addr} {b1 b2 b3 b4 : Nat} {d : Bool} {x1 x2 x3 : Int}, True := fun _ _ _ _ _ => trivial
  refine ⟨fun vs u => ∃ (k : Int) (p : Option Addr) (n c : Nat) (e : Int), vs = [.slice base len cap, .bool false, i64 k, .slice p n c, i64 mst, i64 e] ∧ Ext w1 u ∧
      (e ≠ 0 ∧ Q = .error e ∨ e = 0 ∧ ∃ s : Sx, Q = .ok s ∧ k = (s.1 : Nat) ∧ n = s.2.length ∧ s.1 ≤ 8 * bs.length ∧ OwnS (fun b => w1.heap.size ≤ b) u p n c 1 (bytes s.2)), ?_, fun p23 k46 k47 c10 n33 p24 k48 k49 n34 n35 w26 hI => ?_⟩
  rotate_left
  · obtain ⟨k, p, n, c, e, hv, hE, hI⟩ := hI
    have hv := hv.symm
    simp only [List.cons.injEq, Value.slice.injEq, Value.int.injEq, Value.bool.injEq, true_and, and_true] at hv
    obtain ⟨⟨rfl, rfl, rfl⟩, rfl, rfl, ⟨rfl, rfl, rfl⟩, rfl, rfl⟩ := hv
    rcases hI with ⟨he, hM⟩ | ⟨rfl, s, hM, rfl, rfl, hpos, hO⟩
    · have hr := hrE e hM
      have := hR none 0 w26.drew hE.drew (by rw [hr]; exact OwnS.nil _ _ _ _)
      rw [hr] at this
      exact brB_t (by simpa using he) this
    · have hr := hrO s hM
      refine brB_f rfl ?_
      have huse : divZ .quo .i64 (IntKind.i64.wrap (((s.1 : Nat) : Int) + 7)) 8 = (((s.1 + 7) / 8 : Nat) : Int) := by
        rw [w64 (x := ((s.1 : Nat) : Int) + 7) (by omega) (by omega)]
        have := quoN (a := s.1 + 7) (b := 8) (by omega) (by omega)
        rw [← this]; rfl
      rw [huse]
      have := hR p c w26.drew hE.drew (by rw [hr]; exact hO)
      rw [hr] at this
      exact this
  refine ⟨fun vs u => ∃ (last k : Int) (p : Option Addr) (n c : Nat) (e : Int), vs = [i64 last, .slice base len cap, .bool false, i64 k, .slice p n c, i64 mst, i64 e] ∧ Z u ∧
      (e ≠ 0 ∧ Q = .error e ∨ e = 0 ∧ ∃ s : Sx, k = (s.1 : Nat) ∧ n = s.2.length ∧ YAt u w1.heap.size T1 base len cap bs mst s p c ∧ (last ≠ 0 ∧ Q = .ok s ∨ last = 0 ∧ ∃ f, Q = rawF bs mst f s ∧ 8 * bs.length < s.1 + f)),
    fun vs _ => match vs with | [_, _, _, .int _ k, _, _, .int _ e] => if e = 0 then (8 * bs.length - k).toNat + 1 else 0 | _ => 0, fun w2 hL2 => ?_, fun n2 p1 k2 k3 c1 n3 p2 k4 k5 n4 n5 w3 hI => ?_⟩
  · have t2 := hL2.there k1 (by simp)
    have hE2 : Ext w1 w2 := hL2.ext (by simp; omega)
    exact ⟨0, 0, none, 0, 0, 0, rfl, ⟨hE2, t2⟩, .inr ⟨rfl, (0, []), rfl, rfl, ⟨(Sl.up h).ext hE2, hl, hfew, hsz, hf, hE2.size, fun b hb => hb.1, OwnS.nil _ _ _ _, ⟨by simp, by simp; omega, by simp, (fun x hx => by cases hx)⟩, hmt, hcap⟩, .inr ⟨rfl, 8 * bs.length + 1, hQ.symm, by simp⟩⟩⟩
  obtain ⟨last, k, p, n, c, e, hv, hZ3, hI⟩ := hI
  have hv := hv.symm
  simp only [List.cons.injEq, Value.slice.injEq, Value.int.injEq, Value.bool.injEq, true_and, and_true] at hv
  obtain ⟨rfl, ⟨rfl, rfl, rfl⟩, rfl, rfl, ⟨rfl, rfl, rfl⟩, rfl, rfl⟩ := hv
  rcases hI with ⟨he, hM⟩ | ⟨rfl, s, rfl, rfl, hY, hI⟩
  · exact brB_f (by simp [he]) ⟨_, _, _, _, _, rfl, hZ3.1, .inl ⟨he, hM⟩⟩
  rcases hI with ⟨hlast, hM⟩ | ⟨rfl, f0, hM, hf0⟩
  · exact brB_f (by simp [hlast]) ⟨_, _, _, _, _, rfl, hZ3.1, .inr ⟨rfl, s, hM, rfl, rfl, hY.ok.pos, OwnS.mono hY.out fun b hb _ => hb.1⟩⟩
  refine brB_t rfl ?_
  have hpos := hY.ok.pos
  obtain ⟨f, rfl⟩ : ∃ f, f0 = f + 1 := ⟨f0 - 1, by omega⟩
  rw [rawF] at hM
  refine refT_spec (m := 1) hY.src hY.hlen hY.fit hY.room hY.k (by omega) (fun lst kA w4 hTA hE4 => ?_) fun w4 hTA hE4 => ?_
  rotate_left
  · rw [hTA] at hM
    refine ⟨_, _, _, _, _, _, _, _, _, _, _, rfl, hE4.keep _, fun vs u => vs = [i64 0, .slice base len cap, .bool false, i64 (s.1 : Nat), .slice p s.2.length c, i64 mst, i64 5] ∧ Z u, brB_f rfl fun w8 hL8 => ⟨rfl, zloc (zext hZ3 hE4) hL8⟩, fun n14 p7 k14 k15 c4 n15 p8 k16 k17 n16 n17 w9 hI => ?_⟩
    obtain ⟨hv, hZ⟩ := hI
    have hv := hv.symm
    simp only [List.cons.injEq, Value.slice.injEq, Value.int.injEq, Value.bool.injEq, true_and, and_true] at hv
    obtain ⟨rfl, ⟨rfl, rfl, rfl⟩, rfl, rfl, ⟨rfl, rfl, rfl⟩, rfl, rfl⟩ := hv
    exact brB_t rfl ⟨_, _, _, _, _, rfl, hZ.1, .inl ⟨by omega, hM⟩⟩
  rw [hTA] at hM
  simp only at hM
  obtain ⟨a1, a2, a3, _⟩ := tkM_ok hTA
  have hZ4 := zext hZ3 hE4
  have hY4 := (hY.ext hE4).mv (k := kA) (by omega) a2
  refine ⟨_, _, _, _, _, _, _, _, _, _, _, rfl, hE4.keep _, fun vs u => Z u ∧ ((∃ kind kB : Nat, tkM bs kA 2 = .ok (kind, kB) ∧ YAt u w1.heap.size T1 base len cap bs mst (kB, s.2) p c ∧ vs = [i64 (kind : Nat), .slice base len cap, .bool false, i64 (kB : Nat), .slice p s.2.length c, i64 mst, i64 0]) ∨
      tkM bs kA 2 = .error 5 ∧ ∃ kB : Nat, vs = [i64 0, .slice base len cap, .bool false, i64 (kB : Nat), .slice p s.2.length c, i64 mst, i64 5]), brB_t rfl fun w5 hL5 => ?_, fun n14 p7 k14 k15 c4 n15 p8 k16 k17 n16 n17 w9 hI => ?_⟩
  · have hZ5 := zloc hZ4 hL5
    have hY5 := yloc hY4 nT1 hL5
    refine refT_spec (m := 2) hY5.src hY5.hlen hY5.fit hY5.room (by omega) (by omega) (fun kind kB w6 hTB hE6 => ?_) fun w6 hTB hE6 => ?_
    · obtain ⟨b1, b2, b3, _⟩ := tkM_ok hTB
      exact ⟨_, _, _, _, _, _, _, _, _, _, _, rfl, hE6.keep _, fun w7 hL7 => ⟨zloc (zext hZ5 hE6) hL7, .inl ⟨kind, kB, hTB, yloc ((hY5.ext hE6).mv (k := kB) (by simp only; omega) b2) nT1 hL7, rfl⟩⟩⟩
    · exact ⟨_, _, _, _, _, _, _, _, _, _, _, rfl, hE6.keep _, fun w7 hL7 => ⟨zloc (zext hZ5 hE6) hL7, .inr ⟨hTB, kA, rfl⟩⟩⟩
  obtain ⟨hZ9, hI⟩ := hI
  rcases hI with ⟨kind, kB, hTB, hY9, hv⟩ | ⟨hTB, kB, hv⟩
  rotate_left
  · rw [hTB] at hM
    have hv := hv.symm
    simp only [List.cons.injEq, Value.slice.injEq, Value.int.injEq, Value.bool.injEq, true_and, and_true] at hv
    obtain ⟨rfl, ⟨rfl, rfl, rfl⟩, rfl, rfl, ⟨rfl, rfl, rfl⟩, rfl, rfl⟩ := hv
    exact brB_t rfl ⟨_, _, _, _, _, rfl, hZ9.1, .inl ⟨by omega, hM⟩⟩
  rw [hTB] at hM
  simp only at hM
  obtain ⟨b1, b2, b3, _⟩ := tkM_ok hTB
  have hv := hv.symm
  simp only [List.cons.injEq, Value.slice.injEq, Value.int.injEq, Value.bool.injEq, true_and, and_true] at hv
  obtain ⟨rfl, ⟨rfl, rfl, rfl⟩, rfl, rfl, ⟨rfl, rfl, rfl⟩, rfl, rfl⟩ := hv
  refine brB_f rfl ?_
  have hk9 : k1 < w9.heap.size := hZ9.2
  have hs9 := hZ9.1.size
  refine ⟨fun vs u => ∃ (k : Int) (p : Option Addr) (n c : Nat) (e : Int), vs = [.slice base len cap, .bool false, i64 k, .slice p n c, i64 mst, i64 e] ∧ Z u ∧
      (e ≠ 0 ∧ blockM bs mst kind (kB, s.2) = .error e ∨ e = 0 ∧ ∃ s' : Sx, blockM bs mst kind (kB, s.2) = .ok s' ∧ k = (s'.1 : Nat) ∧ n = s'.2.length ∧ kB ≤ s'.1 ∧ YAt u w1.heap.size T1 base len cap bs mst s' p c), ?_, fun p21 k42 k43 c9 n30 p22 k44 k45 n31 n32 w25 hI => ?_⟩
  rotate_left
  · obtain ⟨k, p', n, c', e, hv, hZ25, hI⟩ := hI
    have hv := hv.symm
    simp only [List.cons.injEq, Value.slice.injEq, Value.int.injEq, Value.bool.injEq, true_and, and_true] at hv
    obtain ⟨⟨rfl, rfl, rfl⟩, rfl, rfl, ⟨rfl, rfl, rfl⟩, rfl, rfl⟩ := hv
    rcases hI with ⟨he, hB⟩ | ⟨rfl, s', hB, rfl, rfl, hk', hY'⟩
    · rw [hB] at hM
      simp only at hM
      refine ⟨⟨_, _, _, _, _, _, rfl, hZ25, .inl ⟨he, hM⟩⟩, ?_⟩
      show (if e = 0 then _ else 0) < (if (0 : Int) = 0 then _ else 0)
      rw [if_neg he, if_pos rfl]; omega
    · rw [hB] at hM
      simp only at hM
      refine ⟨⟨_, _, _, _, _, _, rfl, hZ25, .inr ⟨rfl, s', rfl, rfl, hY', ?_⟩⟩, ?_⟩
      · by_cases h1 : lst = 1
        · rw [if_pos h1] at hM
          exact .inl ⟨by omega, hM⟩
        · rw [if_neg h1] at hM
          exact .inr ⟨by omega, f, hM, by omega⟩
      · have := hY'.ok.pos
        show ((8 : Int) * bs.length - (s'.1 : Nat)).toNat + 1 < ((8 : Int) * bs.length - (s.1 : Nat)).toNat + 1
        omega
  have hnew9 : ∀ {u : World}, Z u → ∀ b, u.heap.size ≤ b → T1 b := fun hz b hb => ⟨by have := hz.1.size; omega, by have := hz.2; omega⟩
  have hY0 := hY9.lim (T' := fun b => T1 b ∧ b < w9.heap.size) (fun b hb => hb.1.1) fun b hb hl => ⟨hb, hl⟩
  -- symbols by tables in new blocks
  have syms : ∀ (u : World) (lits dists : List Nat) (vs1 vs2 : List Value) (k3' : Nat), w9.heap.size ≤ u.heap.size → Z u → YAt u w1.heap.size (fun b => T1 b ∧ b < w9.heap.size) base len cap bs mst (k3', s.2) p c →
      TblAt u vs1 (fun b => w9.heap.size ≤ b ∧ b < u.heap.size) lits → TblAt u vs2 (fun b => w9.heap.size ≤ b ∧ b < u.heap.size) dists → blockM bs mst kind (kB, s.2) = symM bs mst lits dists (k3', s.2) → kB ≤ k3' →
      Calls P F.ref04_symbols #[stt base len cap (k3' : Nat) p s.2.length c mst 0, .agg vs1.toArray, .agg vs2.toArray] u fun e7 w15 =>
        ∃ (p13 : Option Addr) (k26 k27 : Nat) (c6 : Bool) (n21 : Int) (p14 : Option Addr) (k28 k29 : Nat) (n22 n23 : Int), e7 = .returned (.agg #[.slice p13 k26 k27, .bool c6, i64 n21, .slice p14 k28 k29, i64 n22, i64 n23]) ∧ Keep [k1] u w15 ∧
          ∀ w16, Locl [k1] w15 w16 → ∃ (k : Int) (p : Option Addr) (n c : Nat) (e : Int), [Value.slice p13 k26 k27, .bool c6, i64 n21, .slice p14 k28 k29, i64 n22, i64 n23] = [.slice base len cap, .bool false, i64 k, .slice p n c, i64 mst, i64 e] ∧ Z w16 ∧
            (e ≠ 0 ∧ blockM bs mst kind (kB, s.2) = .error e ∨ e = 0 ∧ ∃ s' : Sx, blockM bs mst kind (kB, s.2) = .ok s' ∧ k = (s'.1 : Nat) ∧ n = s'.2.length ∧ kB ≤ s'.1 ∧ YAt w16 w1.heap.size T1 base len cap bs mst s' p c) := by
    intro u lits dists vs1 vs2 k3' hu hZu hYu hl1 hd1 hB hk3
    have hYu' := hYu.lim (T' := fun b => T1 b ∧ (b < w9.heap.size ∨ u.heap.size ≤ b)) (fun b hb => hb.1.1) fun b hb _ => ⟨hb.1, .inl hb.2⟩
    refine refSymbols_spec (s := (k3', s.2)) hYu' (fun b hb => ⟨hnew9 hZu b hb, .inr hb⟩) hl1 hd1 (fun b hb _ g => by have := g.2; omega) (fun b hb _ g => by have := g.2; omega) (fun s' p' c' w15 hMM hc15 hY15 => ?_) fun e r p' n' c' w15 he hMM hc15 => ?_
    · refine ⟨_, _, _, _, _, _, _, _, _, _, rfl, keepT hc15 fun b hb => hb.1.2, fun w16 hL16 => ⟨_, _, _, _, _, rfl, zloc (zchg hZu hc15 fun b hb => hb.1.1) hL16, .inr ⟨rfl, s', by rw [hB, hMM], rfl, rfl, ?_, (yloc hY15 (fun g => g.1.2 rfl) hL16).lim (fun b hb => hb.1) fun b hb _ => hb.1⟩⟩⟩
      have := (symF_ok hMM hYu.ok).2
      simp only at this
      omega
    · exact ⟨_, _, _, _, _, _, _, _, _, _, rfl, keepT hc15 fun b hb => hb.1.2, fun w16 hL16 => ⟨_, _, _, _, _, rfl, zloc (zchg hZu hc15 fun b hb => hb.1.1) hL16, .inl ⟨he, by rw [hB, hMM]⟩⟩⟩
  refine brB_i (fun h0 => ?_) fun h0 => ?_
  · have h0 : kind = 0 := by have := eq_of_beq h0; omega
    have hB : blockM bs mst kind (kB, s.2) = storedM bs mst (kB, s.2) := by unfold blockM; rw [if_pos h0]
    refine refStored_spec (s := (kB, s.2)) hY9 (hnew9 hZ9) (fun s' p' c' w10 hMM hc10 hY10 => ?_) fun e r p' n' c' w10 he hMM hc10 => ?_
    · refine ⟨_, _, _, _, _, _, _, _, _, _, rfl, keepT hc10 fun b hb => hb.2, fun w11 hL11 => ⟨_, _, _, _, _, rfl, zloc (zchg hZ9 hc10 fun b hb => hb.1) hL11, .inr ⟨rfl, s', by rw [hB, hMM], rfl, rfl, ?_, yloc hY10 nT1 hL11⟩⟩⟩
      have := (storedM_ok hf hMM hY9.ok).2
      simp only at this
      omega
    · exact ⟨_, _, _, _, _, _, _, _, _, _, rfl, keepT hc10 fun b hb => hb.2, fun w11 hL11 => ⟨_, _, _, _, _, rfl, zloc (zchg hZ9 hc10 fun b hb => hb.1) hL11, .inl ⟨he, by rw [hB, hMM]⟩⟩⟩
  have h0 : kind ≠ 0 := fun e => by rw [e] at h0; cases h0
  refine brB_i (fun h1 => ?_) fun h1 => ?_
  · have h1 : kind = 1 := by have := eq_of_beq h1; omega
    have hB : blockM bs mst kind (kB, s.2) = symM bs mst fixL fixD (kB, s.2) := by unfold blockM; rw [if_neg h0, if_pos h1]
    refine refFixed_spec fun pl cl pd cd w12 hE12 hOl hOd => ⟨_, _, _, _, _, _, rfl, hE12.keep _, ?_⟩
    have s12 := hE12.size
    have hl12 : Sl w12.drew.heap.size w12.drew pl (ni fixL) := hOl.sl
    have hd12 : Sl w12.drew.heap.size w12.drew pd (ni fixD) := hOd.sl
    refine Tabled_spec hl12 (by decide +kernel) lens_fixL fun vs1 w13 hE13 hT13 => ⟨vs1, hT13.length, rfl, hE13.keep _, hE13.keeps, ?_⟩
    refine Tabled_spec (hd12.ext hE13) (by decide +kernel) lens_fixD fun vs2 w14 hE14 hT14 => ⟨vs2, hT14.length, rfl, hE14.keep _, hE14.keeps, ?_⟩
    have s13 : w12.heap.size ≤ w13.heap.size := hE13.size
    have s14 := hE14.size
    have hE914 := (hE12.trans ((Ext.refl w12).drew.trans hE13)).trans hE14
    exact syms w14 fixL fixD vs1 vs2 kB (by omega) (zext hZ9 hE914) (hY0.ext hE914) ((hT13.chg (Z := fun _ => False) hE14.chg fun _ _ _ h => h).mono fun b hb hl => ⟨by have hb : w12.heap.size ≤ b := hb; omega, hl⟩) (hT14.mono fun b hb hl => ⟨by omega, hl⟩) hB (Nat.le_refl _)
  have h1 : kind ≠ 1 := fun e => by rw [e] at h1; cases h1
  refine brB_i (fun h2 => ?_) fun h2 w24 hL24 => ?_
  · have h2 : kind = 2 := by have := eq_of_beq h2; omega
    have hB : blockM bs mst kind (kB, s.2) = (match tabM bs kB with | .error e => .error e | .ok (lits, dists, k) => symM bs mst lits dists (k, s.2)) := by
      unfold blockM; rw [if_neg h0, if_neg h1, if_pos h2]
      simp only
      cases tabM bs kB with
      | error e => rfl
      | ok x => rfl
    refine refTables_spec hY9.src hY9.hlen hY9.fit hY9.room hY9.k (fun lits dists k' q lq cq r lr cr w17 hT hE17 hqr hlq hlr hLq hLr hk' hk8 => ?_) fun e r q1 l1 c1 q2 l2 c2 w17 he hT hE17 => ?_
    · rw [hT] at hB
      simp only at hB
      refine ⟨_, _, _, _, _, _, _, _, _, _, _, _, _, _, _, _, rfl, hE17.keep _, brB_t rfl fun w18 hL18 => ?_⟩
      have hZ18 := zloc (zext hZ9 hE17) hL18
      have hY18 := yloc ((hY0.ext hE17).mv (k := k') hk' (by omega)) (fun g => nT1 g.1) hL18
      have s17 := hE17.size
      have s18 := hL18.size
      obtain ⟨hq, hr⟩ := hqr _ w18 hL18.chg fun b hb => by simp at hb; omega
      refine Tabled_spec hq hlq hLq fun vs1 w19 hE19 hT19 => ⟨vs1, hT19.length, rfl, hE19.keep _, hE19.keeps, ?_⟩
      refine Tabled_spec (hr.ext hE19) hlr hLr fun vs2 w20 hE20 hT20 => ⟨vs2, hT20.length, rfl, hE20.keep _, hE20.keeps, ?_⟩
      have s19 := hE19.size
      have s20 := hE20.size
      have hE1920 := hE19.trans hE20
      exact syms w20 lits dists vs1 vs2 k' (by omega) (zext hZ18 hE1920) (hY18.ext hE1920) ((hT19.chg (Z := fun _ => False) hE20.chg fun _ _ _ h => h).mono fun b hb hl => ⟨by omega, hl⟩) (hT20.mono fun b hb hl => ⟨by omega, hl⟩) hB hk'
    · rw [hT] at hB
      simp only at hB
      exact ⟨_, _, _, _, _, _, _, _, _, _, _, _, _, _, _, _, rfl, hE17.keep _, brB_f (by simpa using he) fun w23 hL23 => ⟨_, _, _, _, _, rfl, zloc (zext hZ9 hE17) hL23, .inl ⟨he, hB⟩⟩⟩
  have h2 : kind ≠ 2 := fun e => by rw [e] at h2; cases h2
  exact ⟨_, _, _, _, _, rfl, zloc hZ9 hL24, .inl ⟨by omega, by unfold blockM; rw [if_neg h0, if_neg h1, if_neg h2]⟩⟩
end Go.Proofs.Ythfnohbpdoklgaa
