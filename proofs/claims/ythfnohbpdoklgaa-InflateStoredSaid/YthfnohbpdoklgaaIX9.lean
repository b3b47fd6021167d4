/- Inflate: the codes of a block are read. -/
import Derived.Test.YthfnohbpdoklgaaIX8
namespace Go.Proofs.Ythfnohbpdoklgaa
open Go Go.Vc Go.RowKit
set_option maxRecDepth 100000
set_option linter.unusedVariables false
set_option linter.unusedSimpArgs false
set_option maxHeartbeats 4000000

theorem ni_set (l : List Nat) (i x : Nat) : (ni l).set i (i64 (x : Nat)) = ni (l.set i x) := by simp [ni, List.map_set]
theorem ord_lt : ∀ i, i < 19 → ordL.getD i 0 < 19 := by decide
theorem ni_replicate (n x : Nat) : ni (List.replicate n x) = List.replicate n (i64 (x : Nat)) := by simp [ni]
section
variable {w w' : World} {kx rb : Nat} {S T : Nat → Prop} {bs : List Int} {most : Int} {s : Sx} {R : Ending → World → Prop}
theorem dynamic_spec (h : XAt w kx rb S T bs most s) (hSb : ∀ b, S b → b < rb)
    (hok : ∀ lits dists k' kl kd w', tabM bs s.1 = .ok (lits, dists, k') → Chg (· = rb) w w' → RdAt w' (some ⟨rb, 0, none⟩) rb S bs (k' : Nat) false → s.1 ≤ k' → k' ≤ 8 * bs.length →
      DecAt w' kl (fun i => w.heap.size ≤ i) lits → DecAt w' kd (fun i => w.heap.size ≤ i) dists → R (.returned (.tuple #[.pointer (some ⟨kl, 0, none⟩), .pointer (some ⟨kd, 0, none⟩)])) w')
    (herr : ∀ e w', tabM bs s.1 = .error e → Chg (· = rb) w w' → R (.panicked (brk e)) w') : Calls P F.inflate_reader_dynamic #[.pointer (some ⟨kx, 0, none⟩)] w R := by
  refine calls_inflate_reader_dynamic _ _ _ ?_
  have hlt := h.lt
  have hX0 : XAt w kx rb S (fun b => T b ∧ b < w.heap.size) bs most s := h.limT (fun b hb => hb.1) (fun b hb hl => ⟨hb, hl⟩)
  have trb : ∀ {a b : World}, Chg (· = rb) w a → Chg (· = rb) a b → Chg (· = rb) w b := fun h k => h.trans k fun _ h _ => h
  have tnew : ∀ {a b : World} {Z : Nat → Prop}, Chg (· = rb) w a → Chg Z a b → (∀ i, Z i → w.heap.size ≤ i) → Chg (· = rb) w b := fun h k hz => h.trans k fun i hi hl => by have := hz i hi; omega
  have knew : ∀ {a b : World} {Z : Nat → Prop} {t : Sx}, XAt a kx rb S (fun b => T b ∧ b < w.heap.size) bs most t → Chg Z a b → (∀ i, Z i → w.heap.size ≤ i) → XAt b kx rb S (fun b => T b ∧ b < w.heap.size) bs most t := fun hX k hz =>
    hX.keep k fun i hi _ => by
      have := hz i hi
      exact ⟨by omega, by omega, fun hs => by have := hSb i hs; omega, fun ht => by have := ht.2; omega⟩
  unfold tabM at hok herr
  refine take_spec hX0 (n := 5) (by omega) (fun hl k1 w1 hT1 hc1 hX1 => .inl ⟨_, rfl, ?_⟩) fun e w1 hT1 hc1 => .inr ⟨_, rfl, herr e w1 (by rw [hT1]) hc1⟩
  rw [hT1] at hok herr
  simp only at hok herr
  obtain ⟨a1, a2, a3, _⟩ := tkM_ok hT1
  refine take_spec hX1 (n := 5) (by omega) (fun hd k2 w2 hT2 hc2 hX2 => .inl ⟨_, rfl, ?_⟩) fun e w2 hT2 hc2 => .inr ⟨_, rfl, herr e w2 (by simp only at hT2; rw [hT2]) (trb hc1 hc2)⟩
  simp only at hT2
  rw [hT2] at hok herr
  simp only at hok herr
  obtain ⟨b1, b2, b3, _⟩ := tkM_ok hT2
  have hc12 := trb hc1 hc2
  refine take_spec hX2 (n := 4) (by omega) (fun hc k3 w3 hT3 hc3 hX3 => .inl ⟨_, rfl, ?_⟩) fun e w3 hT3 hc3 => .inr ⟨_, rfl, herr e w3 (by simp only at hT3; rw [hT3]) (trb hc12 hc3)⟩
  simp only at hT3
  rw [hT3] at hok herr
  simp only at hok herr
  obtain ⟨c1, c2, c3, _⟩ := tkM_ok hT3
  have hc13 := trb hc12 hc3
  refine brB_i (fun hbig => ?_) fun hbig => ?_
  · have hbig : 29 < hl ∨ 29 < hd := by simp only [Bool.or_eq_true, decide_eq_true_eq] at hbig; omega
    exact ⟨⟨_, _, rfl⟩, herr 41 w3 (by rw [if_pos hbig]) hc13⟩
  have hbig : ¬ (29 < hl ∨ 29 < hd) := fun g => by
    have : (decide (((hl : Nat) : Int) > 29) || decide (((hd : Nat) : Int) > 29)) = true := by simp only [Bool.or_eq_true, decide_eq_true_eq]; omega
    rw [this] at hbig; cases hbig
  rw [if_neg hbig] at hok herr
  have hs3 := hc13.size
  intro kA w4 hn4
  have hkA : kA = w3.heap.size := hn4.1
  have hsA := hn4.size
  have hC4 : Cs w4 kA (ni (List.replicate 19 0)) := hn4.cs
  have cell : ∀ j, j < 19 → (∃ v, w4.cell? ⟨kA, j, none⟩ = some v) ∧ w4.frozen? ⟨kA, j, none⟩ = false := fun j hj => ⟨⟨_, hC4.cell (ni_get (by simpa using hj))⟩, hC4.frozen _⟩
  refine ⟨(cell 0 (by omega)).1, (cell 0 (by omega)).2, (cell 1 (by omega)).1, (cell 1 (by omega)).2, (cell 2 (by omega)).1, (cell 2 (by omega)).2, (cell 3 (by omega)).1, (cell 3 (by omega)).2, (cell 4 (by omega)).1, (cell 4 (by omega)).2,
    (cell 5 (by omega)).1, (cell 5 (by omega)).2, (cell 6 (by omega)).1, (cell 6 (by omega)).2, (cell 7 (by omega)).1, (cell 7 (by omega)).2, (cell 8 (by omega)).1, (cell 8 (by omega)).2, (cell 9 (by omega)).1, (cell 9 (by omega)).2,
    (cell 10 (by omega)).1, (cell 10 (by omega)).2, (cell 11 (by omega)).1, (cell 11 (by omega)).2, (cell 12 (by omega)).1, (cell 12 (by omega)).2, (cell 13 (by omega)).1, (cell 13 (by omega)).2, (cell 14 (by omega)).1, (cell 14 (by omega)).2,
    (cell 15 (by omega)).1, (cell 15 (by omega)).2, (cell 16 (by omega)).1, (cell 16 (by omega)).2, (cell 17 (by omega)).1, (cell 17 (by omega)).2, (cell 18 (by omega)).1, (cell 18 (by omega)).2, by omega, by omega, by omega, by omega, ?_⟩
  intro kB w5 hn5
  have hset4 := Chg.setCells w4 ⟨kA, 0, none⟩ (ni ordL) 0
  have hCA : Cs (setCells w4 ⟨kA, 0, none⟩ (ni ordL) 0) kA (ni ordL) := by
    have := hC4.set (off := 0) (us := ni ordL) (by rw [ni_length, ni_length]; decide)
    rwa [List.take_zero, List.nil_append, List.drop_eq_nil_of_le (by rw [ni_length, ni_length]; decide), List.append_nil] at this
  have hkB : kB = (setCells w4 ⟨kA, 0, none⟩ (ni ordL) 0).heap.size := hn5.1
  have hsz4 : (setCells w4 ⟨kA, 0, none⟩ (ni ordL) 0).heap.size = w4.heap.size := (setCells_same _ _ _ _).size
  have hc4 : Chg (· = rb) w w4 := tnew (Z := fun _ => False) hc13 hn4.ext.chg fun _ h => h.elim
  have hc4' := tnew hc4 hset4 fun i hi => by have hi : i = kA := hi; omega
  have hc5 : Chg (· = rb) w w5 := tnew (Z := fun _ => False) hc4' hn5.ext.chg fun _ h => h.elim
  have hX4 := knew (Z := fun _ => False) hX3 hn4.ext.chg fun _ h => h.elim
  have hX4' := knew hX4 hset4 fun i hi => by have hi : i = kA := hi; omega
  have hX5 := knew (Z := fun _ => False) hX4' hn5.ext.chg fun _ h => h.elim
  have hCA5 := hCA.ext hn5.ext
  have hCB5 : Cs w5 kB (ni (List.replicate 19 0)) := New.row hn5
  have hsB := hn5.size
  have hs4 := hn4.ext.size
  have en : IntKind.i64.wrap (((hc : Nat) : Int) + 4) = ((hc + 4 : Nat) : Int) := by rw [w64 (by omega) (by omega)]; omega
  rw [en]
  refine ⟨by omega, by omega, by omega, ?_⟩
  rw [show (0 : Int).toNat = 0 from rfl, slcBase0, Int.toNat_natCast, Nat.sub_zero]
  have hord : ordL.length = 19 := by decide
  generalize hQ : lensF bs (hc + 4) 0 k3 (List.replicate 19 0) = Q at hok herr
  refine ⟨fun vs u => ∃ (i : Nat) (l : List Nat) (k : Nat), vs = [i64 (i : Nat)] ∧ i ≤ hc + 4 ∧ Q = lensF bs (hc + 4 - i) i k l ∧ l.length = 19 ∧ (∀ x, x ∈ l → x ≤ 7) ∧
      XAt u kx rb S (fun b => T b ∧ b < w.heap.size) bs most (k, s.2) ∧ Chg (· = rb) w u ∧ k3 ≤ k ∧ Cs u kA (ni ordL) ∧ Cs u kB (ni l), fun vs _ => match vs with | [.int _ i] => (hc + 4 - i : Int).toNat | _ => 0,
    ⟨0, List.replicate 19 0, k3, rfl, by omega, hQ.symm, by simp, fun x hx => by rw [List.mem_replicate] at hx; omega, hX5, hc5, Nat.le_refl _, hCA5, hCB5⟩, fun n4 w6 hI => ?_⟩
  obtain ⟨i, l, k, hv, hi, hlens, hll, hl7, hX6, hc6, hk6, hCA6, hCB6⟩ := hI
  obtain rfl : n4 = (i : Nat) := by simpa using hv
  have hs6 := hc6.size
  refine brB_i (fun hlt => ?_) fun hge => ?_
  · have hlt : i < hc + 4 := by have := of_decide_eq_true hlt; omega
    refine idx_i (by omega) (by omega) rfl ?_
    rw [loc_add, Nat.zero_add, Nat.mul_one, Int.toNat_natCast]
    refine ⟨_, hCA6.cell (ni_get (by omega)), ?_⟩
    rw [show hc + 4 - i = (hc + 4 - (i + 1)) + 1 by omega, lensF] at hlens
    refine take_spec hX6 (n := 3) (by omega) (fun x k7 w7 hT7 hc7 hX7 => .inl ⟨_, rfl, ?_⟩) fun e w7 hT7 hc7 => .inr ⟨_, rfl, herr e w7 (by simp only at hT7; rw [hlens, hT7]) (trb hc6 hc7)⟩
    simp only at hT7
    rw [hT7] at hlens
    simp only at hlens
    obtain ⟨d1, d2, d3, _⟩ := tkM_ok hT7
    have ho := ord_lt i (by omega)
    refine idx_i (by omega) (by omega) rfl ?_
    rw [loc_add, Nat.zero_add, Nat.mul_one, Int.toNat_natCast]
    have hCA7 := hCA6.chg hc7 (by omega)
    have hCB7 := hCB6.chg hc7 (by omega)
    have hset := Chg.setCells w7 ⟨kB, ordL.getD i 0, none⟩ [i64 (x : Nat)] 0
    refine ⟨⟨_, hCB7.cell (ni_get (by omega))⟩, hCB7.frozen _, ?_⟩
    rw [wrap_succ (by omega)]
    have t1 := hCB7.set1 (off := ordL.getD i 0) (v := i64 (x : Nat)) (by rw [ni_length]; omega)
    rw [ni_set] at t1
    have hZ : ∀ j, j = kB → w.heap.size ≤ j := fun j hj => by omega
    refine ⟨⟨i + 1, l.set (ordL.getD i 0) x, k7, rfl, hlt, hlens, by simp [hll], fun y hy => ?_, knew hX7 hset hZ, tnew (trb hc6 hc7) hset hZ, by omega, hCA7.chg hset (by show ¬ kA = kB; omega), t1⟩, by show ((hc : Int) + 4 - ((i + 1 : Nat) : Int)).toNat < ((hc : Int) + 4 - (i : Nat)).toNat; omega⟩
    rcases List.mem_or_eq_of_mem_set hy with hy | hy
    · exact hl7 y hy
    · omega
  have : i = hc + 4 := by have := of_decide_eq_false hge; omega
  subst this
  rw [Nat.sub_self, lensF] at hlens
  rw [hlens] at hok herr
  simp only at hok herr
  have hLl : Lens l := ⟨by omega, fun x hx => by have := hl7 x hx; omega⟩
  refine code_spec (hCB6.sl (off := 0) (by simp) hCB6.lt) hll hLl (fun hm kc w8 hE8 hd8 => .inl ⟨_, rfl, ?_⟩) fun hm => .inr ⟨_, rfl, herr 41 w6 (by rw [if_pos hm]) hc6⟩
  rw [if_neg (by rw [hm]; exact Bool.noConfusion)] at hok herr
  have hc8 : Chg (· = rb) w w8 := tnew (Z := fun _ => False) hc6 hE8.chg fun _ h => h.elim
  have hX8 := knew (Z := fun _ => False) hX6 hE8.chg fun _ h => h.elim
  have hs8 := hc8.size
  have hd8' : DecAt w8 kc (fun b => w.heap.size ≤ b ∧ b < w8.heap.size) l := hd8.mono fun b hb hl => ⟨by omega, hl⟩
  have eN : IntKind.i64.wrap (IntKind.i64.wrap (IntKind.i64.wrap (((hl : Nat) : Int) + 257) + (hd : Nat)) + 1) = ((hl + 257 + hd + 1 : Nat) : Int) := by
    rw [w64 (x := ((hl : Nat) : Int) + 257) (by omega) (by omega), w64 (x := ((hl : Nat) : Int) + 257 + _) (by omega) (by omega), w64 (by omega) (by omega)]; omega
  rw [eN]
  generalize hN : hl + 257 + hd + 1 = N at *
  have hN316 : N ≤ 316 := by omega
  refine ⟨fun vs u => ∃ (row : List Nat) (k' f : Nat) (p : Option Addr) (cap : Nat), vs = [.slice p row.length cap] ∧ rowM bs l N k = rowF' bs l N f row k' ∧ N < row.length + f ∧ row.length ≤ N ∧ (∀ x, x ∈ row → x ≤ 15) ∧
      XAt u kx rb S (fun b => T b ∧ b < w.heap.size) bs most (k', s.2) ∧ Chg (· = rb) w u ∧ k ≤ k' ∧ w8.heap.size ≤ u.heap.size ∧ DecAt u kc (fun b => w.heap.size ≤ b ∧ b < w8.heap.size) l ∧ OwnS (fun b => w8.heap.size ≤ b) u p row.length cap 1 (ni row),
    fun vs _ => match vs with | [.slice _ n _] => N - n | _ => 0, ⟨[], k, N + 1, none, 0, rfl, rfl, by simp, by simp, fun x hx => (by cases hx), hX8, hc8, Nat.le_refl _, Nat.le_refl _, hd8', OwnS.nil _ _ _ _⟩, fun p3 k5 k6 w9 hI => ?_⟩
  obtain ⟨row, k9, f0, p9, cap9, hv, hrow, hf0, hrN, hr15, hX9, hc9, hk9, hs89, hd9, hO9⟩ := hI
  simp only [List.cons.injEq, Value.slice.injEq, and_true] at hv
  obtain ⟨rfl, rfl, rfl⟩ := hv
  have hs9 := hc9.size
  obtain ⟨f, rfl⟩ : ∃ f, f0 = f + 1 := ⟨f0 - 1, by omega⟩
  rw [rowF'] at hrow
  refine brB_i (fun hlt => ?_) fun hge => ?_
  rotate_left
  · -- the row is there
    have hge : N ≤ row.length := by have := of_decide_eq_false hge; omega
    rw [if_pos hge] at hrow
    rw [hrow] at hok herr
    simp only at hok herr
    have hrl : row.length = N := by omega
    refine hO9.sl.get (by omega) (ni_length _) (by rw [show (256 : Int).toNat = 256 from rfl]; exact ni_get (by omega)) fun a ha => ⟨_, ha, ?_⟩
    refine brB_i (fun h0 => ?_) fun h0 => ?_
    · have h0 : row.getD 256 0 = 0 := by have := eq_of_beq h0; omega
      exact ⟨⟨_, _, rfl⟩, herr 41 w9 (by rw [if_pos (.inl h0)]) hc9⟩
    have h0 : ¬ row.getD 256 0 = 0 := fun e => by rw [e] at h0; cases h0
    have e1 : IntKind.i64.wrap (((hl : Nat) : Int) + 257) = ((hl + 257 : Nat) : Int) := by rw [w64 (by omega) (by omega)]; omega
    rw [e1]
    have hcap := hO9.2.1
    refine ⟨by omega, by omega, by omega, by omega, by omega, by omega, ?_⟩
    rw [show (0 : Int).toNat = 0 from rfl, slcBase0, Int.toNat_natCast, Int.toNat_natCast, Nat.sub_zero]
    have hSl9 := hO9.sl
    have hLrow : Lens row := ⟨by omega, fun x hx => by have := hr15 x hx; omega⟩
    have hL1 : Lens (row.take (hl + 257)) := ⟨by rw [List.length_take]; omega, fun x hx => hLrow.low x (List.mem_of_mem_take hx)⟩
    have hL2 : Lens (row.drop (hl + 257)) := ⟨by rw [List.length_drop]; omega, fun x hx => hLrow.low x (List.mem_of_mem_drop hx)⟩
    have s1 : Sl w9.drew.heap.size w9.drew p3 (ni (row.take (hl + 257))) := hSl9.pre (by rw [ni, ni, List.map_take]; exact List.take_prefix _ _)
    have s2 : Sl w9.drew.heap.size w9.drew (slcBase p3 (hl + 257) k6 1) (ni (row.drop (hl + 257))) := hSl9.part (by rw [ni_length]; exact hcap) (by rw [ni, ni, List.map_drop]; exact List.prefix_refl _)
    refine code_spec s1 (by rw [List.length_take]; omega) hL1 (fun hm1 kl w18 hE18 hd18 => .inl ⟨_, rfl, ?_⟩) fun hm1 => .inr ⟨_, rfl, herr 41 _ (by rw [if_pos (.inr (.inl hm1))]) hc9.drew⟩
    have hc18 : Chg (· = rb) w w18 := tnew (Z := fun _ => False) hc9.drew hE18.chg fun _ h => h.elim
    refine code_spec (s2.ext hE18) (by rw [List.length_drop]) hL2 (fun hm2 kd w19 hE19 hd19 => .inl ⟨_, rfl, ?_⟩) fun hm2 => .inr ⟨_, rfl, herr 41 _ (by rw [if_pos (.inr (.inr hm2))]) hc18⟩
    have hc19 : Chg (· = rb) w w19 := tnew (Z := fun _ => False) hc18 hE19.chg fun _ h => h.elim
    have hs18 := hc18.size
    have hX19 := knew (Z := fun _ => False) hX9 ((Ext.refl w9).drew.trans (hE18.trans hE19)).chg fun _ h => h.elim
    refine hok (row.take (hl + 257)) (row.drop (hl + 257)) k9 kl kd w19 (if_neg fun g => by
      rcases g with g | g | g
      · exact h0 g
      · rw [hm1] at g; cases g
      · rw [hm2] at g; cases g) hc19 hX19.rd (by omega) hX19.ok.pos ?_ ?_
    · refine (hd18.chg (Z := fun _ => False) hE19.chg fun _ _ _ h => h).mono fun b hb _ => ?_
      have hb : w9.heap.size ≤ b := hb
      omega
    · exact hd19.mono fun b hb _ => by omega
  have hlt : row.length < N := by have := of_decide_eq_true hlt; omega
  rw [if_neg (by omega)] at hrow
  refine next_spec hX9 hd9 (fun b hb => by omega) (fun v k10 w10 hN10 hc10 hX10 => .inl ⟨_, rfl, ?_⟩) fun e w10 hN10 hc10 => .inr ⟨_, rfl, herr e w10 (by simp only at hN10; rw [hrow, hN10]) (trb hc9 hc10)⟩
  simp only at hN10
  rw [hN10] at hrow
  simp only at hrow
  obtain ⟨m1, m2, m3, m4⟩ := nextM_ok hN10
  have hc910 := trb hc9 hc10
  have hd10 := hd9.chg hc10 fun b hb _ e => by have e : b = rb := e; omega
  have hO10 := hO9.chg hc10 fun b hb _ e => by have e : b = rb := e; omega
  have hs910 := hc10.size
  refine ⟨fun vs u => ∃ (many x k' : Nat), vs = [i64 (x : Nat), i64 (many : Nat)] ∧ rowS bs row v k10 = .ok (many, x, k') ∧ 1 ≤ many ∧ many ≤ 200 ∧ x ≤ 15 ∧ k10 ≤ k' ∧ XAt u kx rb S (fun b => T b ∧ b < w.heap.size) bs most (k', s.2) ∧ Chg (· = rb) w u ∧ w8.heap.size ≤ u.heap.size ∧
      DecAt u kc (fun b => w.heap.size ≤ b ∧ b < w8.heap.size) l ∧ OwnS (fun b => w8.heap.size ≤ b) u p3 row.length k6 1 (ni row), ?_, fun n12 n13 w14 hI => ?_⟩
  · -- what the symbol says
    have after : ∀ {u u' : World}, Chg (· = rb) u u' → DecAt u kc (fun b => w.heap.size ≤ b ∧ b < w8.heap.size) l → OwnS (fun b => w8.heap.size ≤ b) u p3 row.length k6 1 (ni row) → DecAt u' kc (fun b => w.heap.size ≤ b ∧ b < w8.heap.size) l ∧ OwnS (fun b => w8.heap.size ≤ b) u' p3 row.length k6 1 (ni row) := fun hc hd hO =>
      ⟨hd.chg hc fun b hb _ e => by have e : b = rb := e; omega, hO.chg hc fun b hb _ e => by have e : b = rb := e; omega⟩
    refine brB_i (fun h16 => ?_) fun h16 => ?_
    · have h16 : v = 16 := by have := eq_of_beq h16; omega
      subst h16
      have hS0 : rowS bs row 16 k10 = if row.length = 0 then .error 41 else match tkM bs k10 2 with | .error e => .error e | .ok (more, k1) => .ok (3 + more, row.getD (row.length - 1) 0, k1) := by
        unfold rowS
        rw [if_neg (by omega)]
        by_cases e : row.length = 0
        · rw [if_pos ⟨rfl, e⟩, if_pos e]
        · rw [if_neg (fun g => e g.2), if_neg e]; rfl
      refine brB_i (fun h0 => ?_) fun h0 => ?_
      · have h0 : row.length = 0 := by have := eq_of_beq h0; omega
        rw [if_pos h0] at hS0
        exact ⟨⟨_, _, rfl⟩, herr 41 w10 (by rw [hrow, hS0]) hc910⟩
      have h0 : row.length ≠ 0 := fun e => by rw [e] at h0; cases h0
      rw [if_neg h0] at hS0
      rw [w64 (x := ((row.length : Nat) : Int) - 1) (by omega) (by omega)]
      obtain ⟨b, e1, e2, e3⟩ := hO10.base (by omega)
      subst e1
      refine idx_i (by omega) (by omega) rfl ?_
      rw [loc_add, Nat.zero_add, Nat.mul_one, show (((row.length : Nat) : Int) - 1).toNat = row.length - 1 by omega]
      have lastc : ∀ {u}, OwnS (fun b => w8.heap.size ≤ b) u (some ⟨b, 0, none⟩) row.length k6 1 (ni row) → u.cell? ⟨b, row.length - 1, none⟩ = some (i64 (row.getD (row.length - 1) 0 : Nat)) := fun hO => by
        obtain ⟨a, q1, _, q3⟩ := hO.sl (row.length - 1) _ (ni_get (by omega))
        cases q1
        rwa [loc_add, Nat.zero_add] at q3
      have hx15 : row.getD (row.length - 1) 0 ≤ 15 := by
        rw [List.getD_eq_getElem?_getD, List.getElem?_eq_getElem (by omega)]
        exact hr15 _ (List.getElem_mem _)
      have hX10' := hX10.ext (Ext.refl w10).drew
      have hO10' : OwnS (fun b => w8.heap.size ≤ b) w10.drew (some ⟨b, 0, none⟩) row.length k6 1 (ni row) := hO10
      have hd10' : DecAt w10.drew kc (fun b => w.heap.size ≤ b ∧ b < w8.heap.size) l := hd10.chg (Z := fun _ => False) (Ext.refl w10).drew.chg fun _ _ _ h => h
      have good : ∀ (more k1 : Nat) (u : World), tkM bs k10 2 = .ok (more, k1) → Chg (· = rb) w10.drew u → XAt u kx rb S (fun b => T b ∧ b < w.heap.size) bs most (k1, s.2) →
          ∃ (many x k' : Nat), [i64 (row.getD (row.length - 1) 0 : Nat), i64 (IntKind.i64.wrap (3 + ((more : Nat) : Int)))] = [i64 (x : Nat), i64 (many : Nat)] ∧ rowS bs row 16 k10 = .ok (many, x, k') ∧ 1 ≤ many ∧ many ≤ 200 ∧ x ≤ 15 ∧ k10 ≤ k' ∧ XAt u kx rb S (fun b => T b ∧ b < w.heap.size) bs most (k', s.2) ∧ Chg (· = rb) w u ∧ w8.heap.size ≤ u.heap.size ∧
            DecAt u kc (fun b => w.heap.size ≤ b ∧ b < w8.heap.size) l ∧ OwnS (fun b => w8.heap.size ≤ b) u (some ⟨b, 0, none⟩) row.length k6 1 (ni row) := fun more k1 u hT hc hX => by
        obtain ⟨t1, t2, t3, _⟩ := tkM_ok hT
        have hsz := hc.size
        have hsz' : w10.drew.heap.size = w10.heap.size := rfl
        refine ⟨3 + more, _, k1, ?_, by rw [hS0, hT], by omega, by omega, hx15, by omega, hX, trb hc910.drew hc, by omega, (after hc hd10' hO10').1, (after hc hd10' hO10').2⟩
        rw [w64 (by omega) (by omega)]
        have e : (3 : Int) + (more : Nat) = ((3 + more : Nat) : Int) := by omega
        rw [e]
      have bad : ∀ e u, tkM bs k10 2 = .error e → Chg (· = rb) w10.drew u → R (.panicked (brk e)) u := fun e u hT hc => herr e u (by rw [hrow, hS0, hT]) (trb hc910.drew hc)
      refine ⟨⟨_, lastc hO10', ?_⟩, ?_⟩
      · exact take_spec hX10' (n := 2) (by omega) (fun more k1 w11 hT hc hX => .inl ⟨_, rfl, good more k1 w11 hT hc hX⟩) fun e w11 hT hc => .inr ⟨_, rfl, bad e w11 hT hc⟩
      · exact take_spec hX10' (n := 2) (by omega) (fun more k1 w11 hT hc hX => .inl ⟨_, rfl, _, lastc (after hc hd10' hO10').2, good more k1 w11 hT hc hX⟩) fun e w11 hT hc => .inr ⟨_, rfl, bad e w11 hT hc⟩
    have h16 : v ≠ 16 := fun e => by subst e; simp at h16
    have other : ∀ (nb base : Nat), nb ≤ 7 → base ≤ 11 → 1 ≤ base → (rowS bs row v k10 = match tkM bs k10 nb with | .error e => .error e | .ok (more, k1) => .ok (base + more, 0, k1)) → ∀ (more k1 : Nat) (u : World), tkM bs k10 nb = .ok (more, k1) → Chg (· = rb) w10 u → XAt u kx rb S (fun b => T b ∧ b < w.heap.size) bs most (k1, s.2) →
        ∃ (many x k' : Nat), [i64 0, i64 (IntKind.i64.wrap (((base : Nat) : Int) + ((more : Nat) : Int)))] = [i64 (x : Nat), i64 (many : Nat)] ∧ rowS bs row v k10 = .ok (many, x, k') ∧ 1 ≤ many ∧ many ≤ 200 ∧ x ≤ 15 ∧ k10 ≤ k' ∧ XAt u kx rb S (fun b => T b ∧ b < w.heap.size) bs most (k', s.2) ∧ Chg (· = rb) w u ∧ w8.heap.size ≤ u.heap.size ∧
          DecAt u kc (fun b => w.heap.size ≤ b ∧ b < w8.heap.size) l ∧ OwnS (fun b => w8.heap.size ≤ b) u p3 row.length k6 1 (ni row) := fun nb base hnb hb hb1 hS more k1 u hT hc hX => by
      obtain ⟨t1, t2, t3, _⟩ := tkM_ok hT
      have hsz := hc.size
      have hp : 2 ^ nb ≤ 2 ^ 7 := Nat.pow_le_pow_right (by omega) hnb
      refine ⟨base + more, 0, k1, ?_, by rw [hS, hT], by omega, by omega, by omega, by omega, hX, trb hc910 hc, by omega, (after hc hd10 hO10).1, (after hc hd10 hO10).2⟩
      rw [w64 (by omega) (by omega)]
      have e : ((base : Nat) : Int) + (more : Nat) = ((base + more : Nat) : Int) := by omega
      rw [e]; rfl
    refine brB_i (fun h17 => ?_) fun h17 => ?_
    · have h17 : v = 17 := by have := eq_of_beq h17; omega
      subst h17
      have hS0 : rowS bs row 17 k10 = match tkM bs k10 3 with | .error e => .error e | .ok (more, k1) => .ok (3 + more, 0, k1) := rfl
      exact take_spec hX10 (n := 3) (by omega) (fun more k1 w11 hT hc hX => .inl ⟨_, rfl, other 3 3 (by omega) (by omega) (by omega) hS0 more k1 w11 hT hc hX⟩) fun e w11 hT hc => .inr ⟨_, rfl, herr e w11 (by simp only at hT; rw [hrow, hS0, hT]) (trb hc910 hc)⟩
    have h17 : v ≠ 17 := fun e => by subst e; simp at h17
    refine brB_i (fun h18 => ?_) fun h18 => ?_
    · have h18 : v = 18 := by have := eq_of_beq h18; omega
      subst h18
      have hS0 : rowS bs row 18 k10 = match tkM bs k10 7 with | .error e => .error e | .ok (more, k1) => .ok (11 + more, 0, k1) := rfl
      exact take_spec hX10 (n := 7) (by omega) (fun more k1 w11 hT hc hX => .inl ⟨_, rfl, other 7 11 (by omega) (by omega) (by omega) hS0 more k1 w11 hT hc hX⟩) fun e w11 hT hc => .inr ⟨_, rfl, herr e w11 (by simp only at hT; rw [hrow, hS0, hT]) (trb hc910 hc)⟩
    have h18 : v ≠ 18 := fun e => by subst e; simp at h18
    have hv16 : v < 16 := by omega
    exact ⟨1, v, k10, rfl, by unfold rowS; rw [if_pos hv16], by omega, by omega, by omega, Nat.le_refl _, hX10, hc910, by omega, hd10, hO10⟩
  -- the row grows
  obtain ⟨many, x, k14, hv, hS, hm1, hm2, hx15, hk14, hX14, hc14, hs14, hd14, hO14⟩ := hI
  simp only [List.cons.injEq, Value.int.injEq, true_and, and_true] at hv
  obtain ⟨rfl, rfl⟩ := hv
  rw [hS] at hrow
  simp only at hrow
  rw [w64 (x := ((N : Nat) : Int) - (row.length : Nat)) (by omega) (by omega)]
  refine brB_i (fun hgt => ?_) fun hle => ?_
  · have hgt : N - row.length < many := by have := of_decide_eq_true hgt; omega
    exact ⟨⟨_, _, rfl⟩, herr 41 w14 (by rw [hrow, if_pos hgt]) hc14⟩
  have hle : ¬ N - row.length < many := by have := of_decide_eq_false hle; omega
  rw [if_neg hle] at hrow
  refine ⟨fun vs u => ∃ (j : Nat) (p : Option Addr) (cap : Nat), vs = [.slice p (row.length + j) cap, i64 (j : Nat)] ∧ j ≤ many ∧ XAt u kx rb S (fun b => T b ∧ b < w.heap.size) bs most (k14, s.2) ∧ Chg (· = rb) w u ∧ w8.heap.size ≤ u.heap.size ∧
      DecAt u kc (fun b => w.heap.size ≤ b ∧ b < w8.heap.size) l ∧ OwnS (fun b => w8.heap.size ≤ b) u p (row.length + j) cap 1 (ni (row ++ List.replicate j x)), fun vs _ => match vs with | [_, .int _ j] => (many - j : Int).toNat | _ => 0,
    ⟨0, p3, k6, rfl, by omega, hX14, hc14, hs14, hd14, by simpa using hO14⟩, fun p4 k7 k8 n14 w15 hI => ?_⟩
  obtain ⟨j, p15, cap15, hv, hj, hX15, hc15, hs15, hd15, hO15⟩ := hI
  simp only [List.cons.injEq, Value.slice.injEq, Value.int.injEq, true_and, and_true] at hv
  obtain ⟨⟨rfl, rfl, rfl⟩, rfl⟩ := hv
  have hsz15 := hc15.size
  refine brB_i (fun hlt2 => ?_) fun hge2 => ?_
  · have hlt2 : j < many := by have := of_decide_eq_true hlt2; omega
    intro k9' hk9' w16 hL16
    refine OwnS.grow hO15 hL16 (by simp; omega) (fun i hi => by omega) (by simp [blocks]) rfl rfl (by omega) (by omega) fun p5 c5 w17 hO17 hc17 => ?_
    have hz : ∀ i, (w8.heap.size ≤ i ∨ i ∈ [k9']) → w8.heap.size ≤ i := fun i hi => by
      rcases hi with hi | hi
      · exact hi
      · simp at hi; omega
    have hz2 : ∀ i, (w8.heap.size ≤ i ∨ i ∈ [k9']) → w.heap.size ≤ i := fun i hi => by have := hz i hi; omega
    have hs17 := hc17.size
    rw [wrap_succ (by omega)]
    refine ⟨⟨j + 1, p5, c5, rfl, hlt2, knew hX15 hc17 hz2, tnew hc15 hc17 hz2, by omega, hd15.chg hc17 fun b hb _ hx => by have := hz b hx; omega, ?_⟩, by show ((many : Int) - ((j + 1 : Nat) : Int)).toNat < ((many : Int) - (j : Nat)).toNat; omega⟩
    have e2 : ni (row ++ List.replicate (j + 1) x) = ni (row ++ List.replicate j x) ++ [i64 (x : Nat)] := by
      rw [List.replicate_succ', ← List.append_assoc, ni_append (row ++ _)]; rfl
    rw [e2]
    exact hO17.mono fun i hi _ => hi.1
  · have : j = many := by have := of_decide_eq_false hge2; omega
    subst this
    refine ⟨⟨row ++ List.replicate j x, k14, f, p4, k8, by simp, hrow, by simp; omega, by simp; omega, fun y hy => ?_, hX15, hc15, by omega, hs15, hd15, by simpa using hO15⟩, by show N - (row.length + j) < N - row.length; omega⟩
    rcases List.mem_append.1 hy with hy | hy
    · exact hr15 y hy
    · rw [List.mem_replicate] at hy; omega
end
end Go.Proofs.Ythfnohbpdoklgaa
