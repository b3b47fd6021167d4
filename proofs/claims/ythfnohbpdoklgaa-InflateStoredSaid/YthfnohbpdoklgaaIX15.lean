/- Inflate: the document's side: a row of lengths. -/
import Derived.Test.YthfnohbpdoklgaaIX14
namespace Go.Proofs.Ythfnohbpdoklgaa
open Go Go.Vc Go.RowKit
set_option maxRecDepth 100000
set_option linter.unusedVariables false
set_option linter.unusedSimpArgs false
set_option maxHeartbeats 2000000
section
variable {N : Nat} {w : World} {base : Option Addr} {len cap k : Nat} {bs : List Int} {p : Option Addr} {n c : Nat} {most : Int} {R : Ending → World → Prop}
theorem refRow_spec {vs : List Value} {D : Nat → Prop} {l : List Nat} {m : Nat} (hT : TblAt w vs D l) (hl19 : l.length = 19) (hs : Sl N w base (bytes bs)) (hl : len = bs.length) (hf : Bs bs) (hsz : len ≤ 2 ^ 47) (hk : k ≤ 8 * len) (hm : m ≤ 400)
    (hok : ∀ row k' q cq w', rowM bs l m k = .ok (row, k') → Ext w w' → OwnS (fun b => w.heap.size ≤ b) w' q row.length cq 1 (ni row) → row.length = m → (∀ x, x ∈ row → x ≤ 15) → k ≤ k' → k' ≤ 8 * len →
      R (.returned (.tuple #[stt base len cap (k' : Nat) p n c most 0, .slice q row.length cq])) w')
    (herr : ∀ e r w', e ≠ 0 → rowM bs l m k = .error e → Ext w w' → R (.returned (.tuple #[stt base len cap r p n c most e, .slice none 0 0])) w') :
    Calls P F.ref04_row #[stt base len cap (k : Nat) p n c most 0, .agg vs.toArray, i64 (m : Nat)] w R := by
  refine calls_ref04_row _ _ _ _ _ _ _ _ _ _ _ _ _ _ ?_
  intro k1 hk1 w1 hL1 k2 w2 hn2 k3 hk3
  have hE1 : Ext w w1 := hL1.ext (by simp; omega)
  have s1 := hE1.size
  have t1 := hL1.there k1 (by simp)
  have e2 : k2 = w1.heap.size := hn2.1
  have s2 := hn2.size
  have s2' := hn2.ext.size
  have hE2 := hE1.trans hn2.ext
  have hC2 : Cs w2 k2 vs := hn2.cs
  have hls : ∀ {b}, b ∈ [k3, k1] → b = k3 ∨ b = k1 := fun hb => by simpa using hb
  let Z : World → Prop := fun u => Ext w u ∧ w2.heap.size ≤ u.heap.size ∧ k3 < u.heap.size ∧ Cs u k2 vs
  let O : World → Option Addr → List Nat → Nat → Prop := fun u q row cq => OwnS (fun b => w2.heap.size ≤ b ∧ b ≠ k3) u q row.length cq 1 (ni row)
  have zext : ∀ {u u' : World}, Z u → Ext u u' → Z u' := fun hz hE => ⟨hz.1.trans hE, by have := hz.2.1; have := hE.size; omega, by have := hz.2.2.1; have := hE.size; omega, hz.2.2.2.ext hE⟩
  have zloc : ∀ {u u' : World}, Z u → Locl [k3, k1] u u' → Z u' := fun hz hL => ⟨hz.1.step hL.chg fun b hb => by rcases hls hb with rfl | rfl <;> omega, by have := hz.2.1; have := hL.size; omega, by have := hz.2.2.1; have := hL.size; omega, hz.2.2.2.locl hL (by simp; omega)⟩
  have oext : ∀ {u u' : World} {q row cq}, O u q row cq → Ext u u' → O u' q row cq := fun ho hE => OwnS.chg (T := fun _ => False) ho hE.chg fun _ _ _ h => h
  have oloc : ∀ {u u' : World} {q row cq}, O u q row cq → Locl [k3, k1] u u' → O u' q row cq := fun ho hL => OwnS.chg ho hL.chg fun b hb _ hm => by
    have := hls hm
    rcases this with rfl | rfl
    · exact hb.2 rfl
    · omega
  have tb : ∀ {u : World}, Z u → TblAt u vs D l := fun hz => hT.chg (Z := fun _ => False) hz.1.chg fun _ _ _ h => h
  refine ⟨fun vs' u => ∃ (q : Option Addr) (row : List Nat) (cq k' f : Nat) (p3 : Option Addr) (k9 k10 : Nat) (c2 : Bool) (n4 : Int) (p4 : Option Addr) (k11 k12 : Nat) (n5 n6 : Int),
      vs' = [.slice q row.length cq, .slice base len cap, .bool false, i64 (k' : Nat), .slice p n c, i64 most, i64 0, .slice p3 k9 k10, .bool c2, i64 n4, .slice p4 k11 k12, i64 n5, i64 n6] ∧ Z u ∧ O u q row cq ∧
      rowM bs l m k = rowF' bs l m f row k' ∧ m < row.length + f ∧ row.length ≤ m ∧ (∀ x, x ∈ row → x ≤ 15) ∧ k ≤ k' ∧ k' ≤ 8 * len,
    fun vs' _ => match vs' with | [.slice _ j _, _, _, _, _, _, _, _, _, _, _, _, _] => m - j | _ => 0, fun w3 hL3 => ?_, fun p1 k4 k5 p2 k6 k7 c1 n1 p3 k8 k9 n2 n3 p4 k10 k11 c2 n4 p5 k12 k13 n5 n6 w4 hI => ?_⟩
  · have t3 := hL3.there k3 (by simp)
    exact ⟨none, [], 0, k, m + 1, none, 0, 0, false, 0, none, 0, 0, 0, 0, rfl, ⟨hE2.step hL3.chg (by simp; omega), hL3.size, t3, hC2.locl hL3 (by simp; omega)⟩, OwnS.nil _ _ _ _, rfl, by simp, by simp, (fun x hx => by cases hx), Nat.le_refl _, hk⟩
  obtain ⟨q, row, cq, k', f0, q3, j9, j10, d2, m4, q4, j11, j12, m5, m6, hv, hZ, hO, hrow, hf0, hrm, hr15, hkk, hk8⟩ := hI
  have hv := hv.symm
  simp only [List.cons.injEq, Value.slice.injEq, Value.int.injEq, Value.bool.injEq, true_and, and_true] at hv
  obtain ⟨⟨rfl, rfl, rfl⟩, ⟨rfl, rfl, rfl⟩, rfl, rfl, ⟨rfl, rfl, rfl⟩, rfl, rfl, ⟨rfl, rfl, rfl⟩, rfl, rfl, ⟨rfl, rfl, rfl⟩, rfl, rfl⟩ := hv
  obtain ⟨f, rfl⟩ : ∃ f, f0 = f + 1 := ⟨f0 - 1, by omega⟩
  rw [rowF'] at hrow
  refine brB_i (fun hlt => ?_) fun hge w23 hL23 => ?_
  rotate_left
  · have hge : m ≤ row.length := by have := of_decide_eq_false hge; omega
    rw [if_pos hge] at hrow
    exact hok row k' q cq w23 hrow (zloc hZ hL23).1 (OwnS.mono (oloc hO hL23) fun b hb _ => by omega) (by omega) hr15 hkk hk8
  have hlt : row.length < m := by have := of_decide_eq_true hlt; omega
  rw [if_neg (by omega)] at hrow
  refine ⟨vs, hT.length, cs_at0 hZ.2.2.2, ?_⟩
  refine refN_spec (tb hZ) (hs.ext hZ.1) hl hf hsz hk8 (fun v k10' w5 hN hE5 => ?_) fun e r w5 he hN hE5 => ?_
  rotate_left
  · rw [hN] at hrow
    exact ⟨_, _, _, _, _, _, _, _, _, _, _, rfl, hE5.keep _, brB_t (by simpa using he) fun w6 hL6 => herr e _ w6 he hrow (zloc (zext hZ hE5) hL6).1⟩
  rw [hN] at hrow
  simp only at hrow
  obtain ⟨a1, a2, a3, a4⟩ := nextM_ok hN
  have hZ5 := zext hZ hE5
  have hO5 := oext hO hE5
  refine ⟨_, _, _, _, _, _, _, _, _, _, _, rfl, hE5.keep _, brB_f rfl ?_⟩
  refine ⟨fun vs' u => ∃ (x many k' : Nat), vs' = [i64 (x : Nat), i64 (many : Nat), .slice base len cap, .bool false, i64 (k' : Nat), .slice p n c, i64 most, i64 0, .slice q3 j9 j10, .bool d2, i64 m4, .slice q4 j11 j12, i64 m5, i64 m6] ∧
      rowS bs row v k10' = .ok (many, x, k') ∧ 1 ≤ many ∧ many ≤ 200 ∧ x ≤ 15 ∧ k10' ≤ k' ∧ k' ≤ 8 * len ∧ Z u ∧ O u q row cq, ?_, fun n18 n19 p10 k22 k23 c5 n20 p11 k24 k25 n21 n22 p12 k26 k27 c6 n23 p13 k28 k29 n24 n25 w18 hI => ?_⟩
  · refine brB_i (fun h16 => ?_) fun h16 w17 hL17 => ?_
    rotate_left
    · have h16 : v < 16 := by have := of_decide_eq_false h16; omega
      exact ⟨v, 1, k10', rfl, by unfold rowS; rw [if_pos h16], by omega, by omega, by omega, Nat.le_refl _, by omega, zloc hZ5 hL17, oloc hO5 hL17⟩
    have h16 : 16 ≤ v := by have := of_decide_eq_true h16; omega
    have hS : rowS bs row v k10' = if v = 16 ∧ row.length = 0 then .error 41 else match tkM bs k10' (if v = 17 then 3 else if v = 18 then 7 else 2) with
        | .error e => .error e
        | .ok (more, k1) => .ok ((if v = 18 then 11 else 3) + more, if v = 16 then row.getD (row.length - 1) 0 else 0, k1) := by
      rw [rowS, if_neg (by omega)]
      rfl
    refine ⟨fun vs' u => vs' = [i64 ((if v = 17 then 3 else 2 : Nat) : Nat)] ∧ Z u ∧ O u q row cq, ?_, fun n11 w9 hI => ?_⟩
    · refine brB_i (fun h w7 hL7 => ⟨?_, zloc hZ5 hL7, oloc hO5 hL7⟩) fun h w8 hL8 => ⟨?_, zloc hZ5 hL8, oloc hO5 hL8⟩
      · rw [if_pos (by have := eq_of_beq h; omega)]; rfl
      · rw [if_neg (fun e => by rw [e] at h; cases h)]; rfl
    obtain ⟨hv, hZ9, hO9⟩ := hI
    obtain rfl : n11 = _ := by simpa using hv
    refine ⟨fun vs' u => vs' = [i64 ((if v = 17 then 3 else if v = 18 then 7 else 2 : Nat) : Nat)] ∧ Z u ∧ O u q row cq, ?_, fun n12 w10 hI => ?_⟩
    · refine brB_i (fun h => ⟨?_, hZ9, hO9⟩) fun h => ⟨?_, hZ9, hO9⟩
      · have h : v = 18 := by have := eq_of_beq h; omega
        subst h; rfl
      · have h : v ≠ 18 := fun e => by rw [e] at h; cases h
        rw [if_neg (c := v = 18) h]
    obtain ⟨hv, hZ10, hO10⟩ := hI
    obtain rfl : n12 = _ := by simpa using hv
    refine brB_i (fun h w11 hL11 => ?_) fun h => ?_
    · simp only [Bool.and_eq_true, beq_iff_eq] at h
      have h : v = 16 ∧ row.length = 0 := by omega
      rw [if_pos h] at hS
      exact herr 41 _ w11 (by omega) (by rw [hrow, hS]) (zloc hZ10 hL11).1
    have h : ¬ (v = 16 ∧ row.length = 0) := fun e => by rw [e.1, e.2] at h; cases h
    rw [if_neg h] at hS
    refine refT_spec (m := if v = 17 then 3 else if v = 18 then 7 else 2) (hs.ext hZ10.1) hl hf hsz (by omega) (by split <;> (try split) <;> omega) (fun more k1' w12 hTm hE12 => ?_) fun w12 hTm hE12 => ?_
    rotate_left
    · rw [hTm] at hS
      exact ⟨_, _, _, _, _, _, _, _, _, _, _, rfl, hE12.keep _, brB_t rfl fun w13 hL13 => herr 5 _ w13 (by omega) (by rw [hrow, hS]) (zloc (zext hZ10 hE12) hL13).1⟩
    rw [hTm] at hS
    simp only at hS
    obtain ⟨b1, b2, b3, _⟩ := tkM_ok hTm
    have hp : 2 ^ (if v = 17 then 3 else if v = 18 then 7 else 2) ≤ 2 ^ 7 := Nat.pow_le_pow_right (by omega) (by split <;> (try split) <;> omega)
    have hZ12 := zext hZ10 hE12
    have hO12 := oext hO10 hE12
    refine ⟨_, _, _, _, _, _, _, _, _, _, _, rfl, hE12.keep _, brB_f rfl ?_⟩
    have hb18 : v = 18 → (((v : Nat) : Int) == 18) = true := fun e => by subst e; rfl
    have hb18' : v ≠ 18 → (((v : Nat) : Int) == 18) = false := fun e => by
      cases g : (((v : Nat) : Int) == 18) with
      | false => rfl
      | true => have := eq_of_beq g; omega
    have fin : ∀ (x : Nat) (u : World), (if v = 16 then row.getD (row.length - 1) 0 else 0) = x → x ≤ 15 → Z u → O u q row cq →
        (v = 18 → ∃ (x' many k' : Nat), [i64 (x : Nat), i64 (IntKind.i64.wrap (11 + ((more : Nat) : Int))), .slice base len cap, .bool false, i64 (k1' : Nat), .slice p n c, i64 most, i64 0, .slice q3 j9 j10, .bool d2, i64 m4, .slice q4 j11 j12, i64 m5, i64 m6] = [i64 (x' : Nat), i64 (many : Nat), .slice base len cap, .bool false, i64 (k' : Nat), .slice p n c, i64 most, i64 0, .slice q3 j9 j10, .bool d2, i64 m4, .slice q4 j11 j12, i64 m5, i64 m6] ∧
          rowS bs row v k10' = .ok (many, x', k') ∧ 1 ≤ many ∧ many ≤ 200 ∧ x' ≤ 15 ∧ k10' ≤ k' ∧ k' ≤ 8 * len ∧ Z u ∧ O u q row cq) ∧
        (v ≠ 18 → ∃ (x' many k' : Nat), [i64 (x : Nat), i64 (IntKind.i64.wrap (3 + ((more : Nat) : Int))), .slice base len cap, .bool false, i64 (k1' : Nat), .slice p n c, i64 most, i64 0, .slice q3 j9 j10, .bool d2, i64 m4, .slice q4 j11 j12, i64 m5, i64 m6] = [i64 (x' : Nat), i64 (many : Nat), .slice base len cap, .bool false, i64 (k' : Nat), .slice p n c, i64 most, i64 0, .slice q3 j9 j10, .bool d2, i64 m4, .slice q4 j11 j12, i64 m5, i64 m6] ∧
          rowS bs row v k10' = .ok (many, x', k') ∧ 1 ≤ many ∧ many ≤ 200 ∧ x' ≤ 15 ∧ k10' ≤ k' ∧ k' ≤ 8 * len ∧ Z u ∧ O u q row cq) := fun x u hx hx15 hz ho => by
      rw [hx] at hS
      refine ⟨fun e => ⟨x, 11 + more, k1', ?_, by rw [hS, if_pos e], by omega, by omega, hx15, by omega, by omega, hz, ho⟩, fun e => ⟨x, 3 + more, k1', ?_, by rw [hS, if_neg e], by omega, by omega, hx15, by omega, by omega, hz, ho⟩⟩
      · rw [w64 (by omega) (by omega), show (11 : Int) + (more : Nat) = ((11 + more : Nat) : Int) by omega]
      · rw [w64 (by omega) (by omega), show (3 : Int) + (more : Nat) = ((3 + more : Nat) : Int) by omega]
    refine brB_i (fun g => ?_) fun g => ?_
    · have g : v = 16 := by have := eq_of_beq g; omega
      have h0 : row.length ≠ 0 := fun e => h ⟨g, e⟩
      rw [w64 (x := ((row.length : Nat) : Int) - 1) (by omega) (by omega)]
      obtain ⟨b, e1, e2', e3⟩ := OwnS.base hO12 (by omega)
      subst e1
      refine idx_i (by omega) (by omega) rfl ?_
      rw [loc_add, Nat.zero_add, Nat.mul_one, show (((row.length : Nat) : Int) - 1).toNat = row.length - 1 by omega]
      intro w14 hL14
      have hO14 := oloc hO12 hL14
      obtain ⟨a, q1, _, q3'⟩ := OwnS.sl hO14 (row.length - 1) _ (ni_get (by omega))
      cases q1
      rw [loc_add, Nat.zero_add] at q3'
      have hx15 : row.getD (row.length - 1) 0 ≤ 15 := by
        rw [List.getD_eq_getElem?_getD, List.getElem?_eq_getElem (by omega)]
        exact hr15 _ (List.getElem_mem _)
      obtain ⟨f1, f2⟩ := fin _ w14 (if_pos g) hx15 (zloc hZ12 hL14) hO14
      exact ⟨_, q3', brB_f (hb18' (by omega)) (f2 (by omega))⟩
    · have g : v ≠ 16 := fun e => by subst e; simp at g
      refine brB_i (fun g8 w15 hL15 => ?_) fun g8 w16 hL16 => ?_
      · exact (fin 0 w15 (if_neg g) (by omega) (zloc hZ12 hL15) (oloc hO12 hL15)).1 (by have := eq_of_beq g8; omega)
      · exact (fin 0 w16 (if_neg g) (by omega) (zloc hZ12 hL16) (oloc hO12 hL16)).2 (fun e => by rw [hb18 e] at g8; cases g8)
  -- the row grows
  obtain ⟨x, many, k14, hv, hS, hm1, hm2, hx15, hk14, hk14', hZ18, hO18⟩ := hI
  have hv := hv.symm
  simp only [List.cons.injEq, Value.slice.injEq, Value.int.injEq, Value.bool.injEq, true_and, and_true] at hv
  obtain ⟨rfl, rfl, ⟨rfl, rfl, rfl⟩, rfl, rfl, ⟨rfl, rfl, rfl⟩, rfl, rfl, ⟨rfl, rfl, rfl⟩, rfl, rfl, ⟨rfl, rfl, rfl⟩, rfl, rfl⟩ := hv
  rw [hS] at hrow
  simp only at hrow
  rw [w64 (x := ((m : Nat) : Int) - (row.length : Nat)) (by omega) (by omega)]
  refine brB_i (fun hgt w19 hL19 => ?_) fun hle => ?_
  · have hgt : m - row.length < many := by have := of_decide_eq_true hgt; omega
    exact herr 41 _ w19 (by omega) (by rw [hrow, if_pos hgt]) (zloc hZ18 hL19).1
  have hle : ¬ m - row.length < many := by have := of_decide_eq_false hle; omega
  rw [if_neg hle] at hrow
  refine ⟨fun vs' u => ∃ (j : Nat) (q : Option Addr) (cq : Nat), vs' = [.slice q (row.length + j) cq, i64 (j : Nat)] ∧ j ≤ many ∧ Z u ∧ OwnS (fun b => w2.heap.size ≤ b ∧ b ≠ k3) u q (row.length + j) cq 1 (ni (row ++ List.replicate j x)),
    fun vs' _ => match vs' with | [_, .int _ j] => (many - j : Int).toNat | _ => 0, ⟨0, q, cq, rfl, by omega, hZ18, by simpa using hO18⟩, fun p14 k30 k31 n26 w20 hI => ?_⟩
  obtain ⟨j, q', cq', hv, hj, hZ20, hO20⟩ := hI
  have hv := hv.symm
  simp only [List.cons.injEq, Value.slice.injEq, Value.int.injEq, true_and, and_true] at hv
  obtain ⟨⟨rfl, rfl, rfl⟩, rfl⟩ := hv
  refine brB_i (fun hlt2 => ?_) fun hge2 => ?_
  · have hlt2 : j < many := by have := of_decide_eq_true hlt2; omega
    intro k32 hk32 w21 hL21
    have hkd : ∀ b, b ∈ [k32, k3, k1] → b = k32 ∨ b = k3 ∨ b = k1 := fun b hb => by simpa using hb
    obtain ⟨z1, z2, z3, z4⟩ := id hZ20
    refine OwnS.grow hO20 hL21 (fun b hb => ?_) (fun i hi => ⟨by omega, by omega⟩) (by simp [blocks]) rfl rfl (by omega) (by omega) fun p5 c5 w22 hO22 hc22 => ?_
    · rcases hkd b hb with rfl | rfl | rfl
      · exact .inl hk32
      · exact .inr fun g => g.2 rfl
      · exact .inr fun g => by omega
    have hz : ∀ i, ((w2.heap.size ≤ i ∧ i ≠ k3) ∨ i ∈ [k32, k3, k1]) → w.heap.size ≤ i ∧ i ≠ k2 := fun i hi => by
      rcases hi with hi | hi
      · exact ⟨by omega, by omega⟩
      · rcases hkd i hi with rfl | rfl | rfl <;> exact ⟨by omega, by omega⟩
    have hs22 := hc22.size
    rw [wrap_succ (by omega)]
    refine ⟨⟨j + 1, p5, c5, rfl, hlt2, ⟨z1.step hc22 fun i hi => (hz i hi).1, by omega, by omega, z4.chg hc22 fun hi => (hz _ hi).2 rfl⟩, ?_⟩, by show ((many : Int) - ((j + 1 : Nat) : Int)).toNat < ((many : Int) - (j : Nat)).toNat; omega⟩
    have e2 : ni (row ++ List.replicate (j + 1) x) = ni (row ++ List.replicate j x) ++ [i64 (x : Nat)] := by
      rw [List.replicate_succ', ← List.append_assoc, ni_append (row ++ _)]; rfl
    rw [e2]
    exact hO22.mono fun i hi _ => hi.1
  · have : j = many := by have := of_decide_eq_false hge2; omega
    subst this
    refine ⟨⟨q', row ++ List.replicate j x, cq', k14, f, _, _, _, _, _, _, _, _, _, _, by rw [List.length_append, List.length_replicate], hZ20, by show OwnS _ _ _ _ _ _ _; rw [List.length_append, List.length_replicate]; exact hO20, hrow, by simp; omega, by simp; omega, fun y hy => ?_, by omega, by omega⟩, by show m - (row.length + j) < m - row.length; omega⟩
    rcases List.mem_append.1 hy with hy | hy
    · exact hr15 y hy
    · rw [List.mem_replicate] at hy; omega
end
end Go.Proofs.Ythfnohbpdoklgaa
