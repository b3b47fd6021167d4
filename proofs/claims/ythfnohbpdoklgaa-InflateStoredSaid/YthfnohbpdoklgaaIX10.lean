/- Inflate: a stream is read. -/
import Derived.Test.YthfnohbpdoklgaaIX9
namespace Go.Proofs.Ythfnohbpdoklgaa
open Go Go.Vc Go.RowKit
set_option maxRecDepth 100000
set_option linter.unusedVariables false
set_option linter.unusedSimpArgs false
set_option maxHeartbeats 4000000

/-- what the closure that is put off does with a reading that was given up -/
theorem off_brk {k1 k2 k3 : Nat} {e : Int} {x y z : Value} {w : World} {R : Ending → World → Prop} (h12 : k1 ≠ k2) (h13 : k1 ≠ k3) (h23 : k2 ≠ k3) (h1 : Cs w k1 [x]) (h2 : Cs w k2 [y]) (h3 : Cs w k3 [z])
    (hR : ∀ w', Chg (fun i => i = k1 ∨ i = k2 ∨ i = k3 ∨ w.heap.size ≤ i) w w' → Cs w' k1 [.slice none 0 0] → Cs w' k2 [i64 0] → Cs w' k3 [i64 e] → R (.returned (.tuple #[])) w') :
    CallsOff P F.inflate_Raw_fn1 [.pointer (some ⟨k1, 0, none⟩), .pointer (some ⟨k2, 0, none⟩), .pointer (some ⟨k3, 0, none⟩)] (.iface 49 (.agg #[i64 e])) w R := by
  refine off_inflate_Raw_fn1 _ _ _ _ _ _ ?_
  refine ⟨rfl, brB_t rfl (.inl ⟨e, rfl, fun k hk w1 hL1 => ?_⟩)⟩
  have l1 := h1.lt
  have l2 := h2.lt
  have l3 := h3.lt
  have q1 := h1.locl hL1 (by simp; omega)
  have q2 := h2.locl hL1 (by simp; omega)
  have q3 := h3.locl hL1 (by simp; omega)
  have c1 := Chg.setCells w1 ⟨k1, 0, none⟩ [.slice none 0 0] 0
  have s1 : Cs _ k1 [.slice none 0 0] := q1.set1 (off := 0) (v := .slice none 0 0) (by simp)
  have s2 := q2.chg c1 (fun e => h12 (show k2 = k1 from e).symm)
  have s3 := q3.chg c1 (fun e => h13 (show k3 = k1 from e).symm)
  have c2 := Chg.setCells (setCells w1 ⟨k1, 0, none⟩ [.slice none 0 0] 0) ⟨k2, 0, none⟩ [i64 0] 0
  have t2 : Cs _ k2 [i64 0] := s2.set1 (off := 0) (v := i64 0) (by simp)
  have t1 := s1.chg c2 (fun e => h12 e)
  have t3 := s3.chg c2 (fun e => h23 (show k3 = k2 from e).symm)
  have c3 := Chg.setCells (setCells (setCells w1 ⟨k1, 0, none⟩ [.slice none 0 0] 0) ⟨k2, 0, none⟩ [i64 0] 0) ⟨k3, 0, none⟩ [i64 e] 0
  have u3 : Cs _ k3 [i64 e] := t3.set1 (off := 0) (v := i64 e) (by simp)
  have u1 := t1.chg c3 (fun e => h13 e)
  have u2 := t2.chg c3 (fun e => h23 e)
  refine ⟨⟨_, q1.cell (i := 0) rfl⟩, q1.frozen _, by simp; omega, ⟨_, s2.cell (i := 0) rfl⟩, s2.frozen _, by simp; omega, ⟨_, t3.cell (i := 0) rfl⟩, t3.frozen _, by simp; omega, ?_⟩
  refine hR _ ?_ u1 u2 u3
  have z1 : Chg (fun i => i = k1 ∨ i = k2 ∨ i = k3 ∨ w.heap.size ≤ i) w w1 := hL1.chg.mono fun i hi _ => by
    have : i = k := by simpa using hi
    omega
  exact ((z1.trans c1 fun i hi _ => .inl hi).trans c2 fun i hi _ => .inr (.inl hi)).trans c3 fun i hi _ => .inr (.inr (.inl hi))
theorem off_nil {fr1 fr2 fr3 : Addr} {w : World} {R : Ending → World → Prop} (hR : R (.returned (.tuple #[])) w) : CallsOff P F.inflate_Raw_fn1 [.pointer (some fr1), .pointer (some fr2), .pointer (some fr3)] .nilIface w R :=
  off_inflate_Raw_fn1 _ _ _ _ _ _ ⟨rfl, brB_f rfl hR⟩
theorem take_bits {bs : List Int} {k n : Nat} {v k' : Nat} (h : tkM bs k n = .ok (v, k')) : k' = k + n := (tkM_ok h).1
theorem Raw_spec {N : Nat} {w : World} {base : Option Addr} {len cap : Nat} {bs : List Int} {most : Int} {R : Ending → World → Prop} (h : Sl N w base (bytes bs)) (hl : len = bs.length) (hsz : len ≤ 2 ^ 47) (hf : Bs bs) (hm1 : most ≤ 9223372036854775807)
    (hcap : ∀ m : Nat, (m : Int) ≤ max most 0 → m ≤ 258 * (8 * bs.length) → m ≤ 2 ^ 46)
    (hR : ∀ p c w', Ext w w' → Ow w.heap.size w'.heap.size w' p (rawR bs most).1.length c 1 (bytes (rawR bs most).1) → R (.returned (.tuple #[.slice p (rawR bs most).1.length c, i64 ((rawR bs most).2.1 : Nat), i64 (rawR bs most).2.2])) w') :
    Calls P F.inflate_Raw #[.slice base len cap, i64 most] w R := by
  refine calls_inflate_Raw _ _ _ _ _ _ ?_
  generalize hQ : rawF bs (max most 0) (8 * bs.length + 1) (0, []) = Q
  have hrE : ∀ e, Q = .error e → rawR bs most = ([], 0, e) := fun e h => by unfold rawR; rw [hQ, h]
  have hrO : ∀ s : Sx, Q = .ok s → rawR bs most = (s.2, (s.1 + 7) / 8, 0) := fun s h => by unfold rawR; rw [hQ, h]
  intro k1 w1 hn1 k2 w2 hn2 k3 w3 hn3
  have e1 : k1 = w.heap.size := hn1.1
  have e2 : k2 = w1.heap.size := hn2.1
  have e3 : k3 = w2.heap.size := hn3.1
  have s1 := hn1.size
  have s2 := hn2.size
  have s3 := hn3.size
  have hE3 := (hn1.ext.trans hn2.ext).trans hn3.ext
  have C1 : Cs w3 k1 [.slice none 0 0] := ((show Cs w1 k1 [.slice none 0 0] from hn1.cs).ext hn2.ext).ext hn3.ext
  have C2 : Cs w3 k2 [i64 0] := (show Cs w2 k2 [i64 0] from hn2.cs).ext hn3.ext
  have C3 : Cs w3 k3 [i64 0] := hn3.cs
  refine NewReader_spec (h.ext hE3) hl hsz hf fun rb w4 hE4 hrb hr4 => ⟨_, rfl, fun kx w5 hn5 => ?_⟩
  have e5 : kx = w4.heap.size := hn5.1
  have s5 := hn5.size
  have hs4 := hE4.size
  have hs5 := hn5.ext.size
  obtain ⟨_, _, hrC, _⟩ := hr4.obj
  have hrlt := hrC.lt
  have hE35 := hE4.trans hn5.ext
  have hE5 := hE3.trans hE35
  generalize hS : (fun i => w3.heap.size ≤ i ∧ i < rb) = S at hr4
  have hSb : ∀ b, S b → b < rb := fun b hb => by rw [← hS] at hb; exact hb.2
  have hSl : ∀ b, S b → w3.heap.size ≤ b := fun b hb => by rw [← hS] at hb; exact hb.1
  have hX5 : XAt w5 kx rb S (fun i => w5.heap.size ≤ i) bs (max most 0) (0, []) :=
    ⟨⟨none, 0, hn5.cs, OwnS.nil _ _ _ _⟩, hr4.ext hn5.ext, by omega, fun hb => by have := hSb _ hb; omega, ⟨by omega, by omega, fun b hb => by have := hSb _ hb; omega⟩, by omega, ⟨by simp, by simp; omega, by simp, fun x hx => by cases hx⟩, hcap⟩
  have D1 := C1.ext hE35
  have D2 := C2.ext hE35
  have D3 := C3.ext hE35
  have hZ : ∀ i, XZ kx rb (fun i => w5.heap.size ≤ i) i → w3.heap.size ≤ i := fun i hi => by
    rcases hi with hi | hi | hi <;> omega
  have zk : ∀ {k}, k < w3.heap.size → ¬ XZ kx rb (fun i => w5.heap.size ≤ i) k := fun hk hi => by have := hZ _ hi; omega
  have hrbZ : ∀ {u u' : World}, Chg (· = rb) u u' → Chg (XZ kx rb (fun i => w5.heap.size ≤ i)) u u' := fun hc => hc.mono fun i hi _ => .inr (.inl hi)
  -- a reading that is given up
  have bad : ∀ (e : Int) (u : World), Q = .error e → Chg (XZ kx rb (fun i => w5.heap.size ≤ i)) w5 u →
      ∃ v : Value, brk e = [{ v := v, recovered := false }] ∧ CallsOff P F.inflate_Raw_fn1 [.pointer (some ⟨k1, 0, none⟩), .pointer (some ⟨k2, 0, none⟩), .pointer (some ⟨k3, 0, none⟩)] v u fun e' w10 => (∃ v2 : Value, e' = .returned v2) ∧
        ∃ (p2 : Option Addr) (k5 k6 : Nat), w10.cell? ⟨k1, 0, none⟩ = some (.slice p2 k5 k6) ∧ ∃ n3 : Int, w10.cell? ⟨k2, 0, none⟩ = some (i64 n3) ∧ ∃ n4 : Int, w10.cell? ⟨k3, 0, none⟩ = some (i64 n4) ∧ R (.returned (.tuple #[.slice p2 k5 k6, i64 n3, i64 n4])) w10 := fun e u hM hc => by
    refine ⟨_, rfl, off_brk (by omega) (by omega) (by omega) (D1.chg hc (zk (by omega))) (D2.chg hc (zk (by omega))) (D3.chg hc (zk (by omega))) fun w' hc' g1 g2 g3 => ⟨⟨_, rfl⟩, _, _, _, g1.cell (i := 0) rfl, _, g2.cell (i := 0) rfl, _, g3.cell (i := 0) rfl, ?_⟩⟩
    have hr : rawR bs most = ([], 0, e) := hrE e hM
    have hE : Ext w w' := (hE5.step hc fun i hi => by have := hZ i hi; have := hE3.size; omega).step hc' fun i hi => by
      have := hE5.size
      have := hc.size
      rcases hi with hi | hi | hi | hi <;> omega
    have := hR none 0 w' hE (by rw [hr]; exact Ow.nil _ _ _ _ _)
    rw [hr] at this
    exact this
  refine ⟨fun vs u => ∃ (s : Sx) (f : Nat) (c : Bool), vs = [.bool c] ∧ (c = false → Q = rawF bs (max most 0) f s ∧ 8 * bs.length < s.1 + f) ∧ (c = true → Q = .ok s) ∧
      XAt u kx rb S (fun i => w5.heap.size ≤ i) bs (max most 0) s ∧ Chg (XZ kx rb (fun i => w5.heap.size ≤ i)) w5 u, fun _ u => leftM bs rb u, ⟨(0, []), 8 * bs.length + 1, false, rfl, fun _ => ⟨hQ.symm, by omega⟩, (fun hx => by cases hx), hX5, Chg.refl _ _⟩, fun c1 w6 hI => ?_⟩
  obtain ⟨s, f0, c, hv, hgo, hend, hX6, hc6⟩ := hI
  obtain rfl : c1 = c := by simpa using hv
  have hs6 := hc6.size
  have hnew6 : ∀ b, w6.heap.size ≤ b → w5.heap.size ≤ b := fun b hb => by omega
  refine brB_i (fun hc => ?_) fun hc => ?_
  rotate_left
  · -- the stream is read
    have hc : c1 = true := by simpa using hc
    have hM := hend hc
    obtain ⟨p, cp, g1, g2⟩ := hX6.obj
    have g1' := g1.drew
    have hX6' := hX6.ext (Ext.refl w6).drew
    have hc6' := hc6.drew
    refine ⟨_, _, _, g1'.cell (i := 1) rfl, _, g1'.cell (i := 0) rfl, ?_⟩
    refine Place_spec hX6'.rd ⟨_, rfl, Keeps.refl _, ?_⟩
    have q1 := D1.chg hc6' (zk (by omega))
    have q2 := D2.chg hc6' (zk (by omega))
    have q3 := D3.chg hc6' (zk (by omega))
    have hpos := hX6.ok.pos
    have huse : divZ .quo .i64 (IntKind.i64.wrap (((s.1 : Nat) : Int) + 7)) 8 = (((s.1 + 7) / 8 : Nat) : Int) := by
      rw [w64 (x := ((s.1 : Nat) : Int) + 7) (by omega) (by omega)]
      have := quoN (a := s.1 + 7) (b := 8) (by omega) (by omega)
      rw [← this]; rfl
    rw [huse]
    have d1 := Chg.setCells w6.drew ⟨k1, 0, none⟩ [.slice p s.2.length cp] 0
    have r1 : Cs _ k1 [.slice p s.2.length cp] := q1.set1 (off := 0) (v := .slice p s.2.length cp) (by simp)
    have r2 := q2.chg d1 (fun e => by have e : k2 = k1 := e; omega)
    have r3 := q3.chg d1 (fun e => by have e : k3 = k1 := e; omega)
    have d2 := Chg.setCells (setCells w6.drew ⟨k1, 0, none⟩ [.slice p s.2.length cp] 0) ⟨k2, 0, none⟩ [i64 (((s.1 + 7) / 8 : Nat) : Int)] 0
    have t2 : Cs _ k2 [i64 (((s.1 + 7) / 8 : Nat) : Int)] := r2.set1 (off := 0) (v := i64 (((s.1 + 7) / 8 : Nat) : Int)) (by simp)
    have t1 := r1.chg d2 (fun e => by have e : k1 = k2 := e; omega)
    have t3 := r3.chg d2 (fun e => by have e : k3 = k2 := e; omega)
    have d3 := Chg.setCells (setCells (setCells w6.drew ⟨k1, 0, none⟩ [.slice p s.2.length cp] 0) ⟨k2, 0, none⟩ [i64 (((s.1 + 7) / 8 : Nat) : Int)] 0) ⟨k3, 0, none⟩ [i64 0] 0
    have u3 : Cs _ k3 [i64 0] := t3.set1 (off := 0) (v := i64 0) (by simp)
    have u1 := t1.chg d3 (fun e => by have e : k1 = k3 := e; omega)
    have u2 := t2.chg d3 (fun e => by have e : k2 = k3 := e; omega)
    refine ⟨⟨_, q1.cell (i := 0) rfl⟩, q1.frozen _, ⟨_, r2.cell (i := 0) rfl⟩, r2.frozen _, ⟨_, t3.cell (i := 0) rfl⟩, t3.frozen _, ?_⟩
    refine off_nil ⟨⟨_, rfl⟩, _, _, _, u1.cell (i := 0) rfl, _, u2.cell (i := 0) rfl, _, u3.cell (i := 0) rfl, ?_⟩
    have hr : rawR bs most = (s.2, (s.1 + 7) / 8, 0) := hrO s hM
    have hd : Chg (fun i => i = k1 ∨ i = k2 ∨ i = k3) w6.drew _ := ((d1.mono fun i hi _ => .inl hi).trans d2 fun i hi _ => .inr (.inl hi)).trans d3 fun i hi _ => .inr (.inr hi)
    have hE : Ext w _ := (hE5.step hc6' fun i hi => by have := hZ i hi; have := hE3.size; omega).step hd fun i hi => by rcases hi with hi | hi | hi <;> omega
    have hO := OwnS.chg (w := w6.drew) g2 hd fun b hb _ hi => by rcases hi with hi | hi | hi <;> omega
    have := hR p cp _ hE (by
      rw [hr]
      exact hO.own fun i hi hlt => ⟨by have := hE5.size; omega, hlt⟩)
    rw [hr] at this
    exact this
  have hc : c1 = false := by simpa using hc
  obtain ⟨hM, hf0⟩ := hgo hc
  have hpos := hX6.ok.pos
  obtain ⟨f, rfl⟩ : ∃ f, f0 = f + 1 := ⟨f0 - 1, by omega⟩
  rw [rawF] at hM
  have tz : ∀ {u u' : World}, Chg (XZ kx rb (fun i => w5.heap.size ≤ i)) w5 u → Chg (XZ kx rb (fun i => w5.heap.size ≤ i)) u u' → Chg (XZ kx rb (fun i => w5.heap.size ≤ i)) w5 u' := fun h k => h.trans k fun _ h _ => h
  refine take_spec hX6 (n := 1) (by omega) (fun last k1' w7 hT7 hc7 hX7 => .inl ⟨_, rfl, ?_⟩) fun e w7 hT7 hc7 => .inr ⟨_, rfl, bad e w7 (by rw [hM, hT7]) (tz hc6 (hrbZ hc7))⟩
  rw [hT7] at hM
  simp only at hM
  have hb7 := take_bits hT7
  have hc57 := tz hc6 (hrbZ hc7)
  refine take_spec hX7 (n := 2) (by omega) (fun kind k2' w8 hT8 hc8 hX8 => .inl ⟨_, rfl, ?_⟩) fun e w8 hT8 hc8 => .inr ⟨_, rfl, bad e w8 (by simp only at hT8; rw [hM, hT8]) (tz hc57 (hrbZ hc8))⟩
  simp only at hT8
  rw [hT8] at hM
  simp only at hM
  have hb8 := take_bits hT8
  have hc58 := tz hc57 (hrbZ hc8)
  have hs8 := hc58.size
  have hl1 := (tkM_ok hT7).2.2.1
  refine ⟨fun _ u => ∃ s' : Sx, blockM bs (max most 0) kind (k2', s.2) = .ok s' ∧ k2' ≤ s'.1 ∧ XAt u kx rb S (fun i => w5.heap.size ≤ i) bs (max most 0) s' ∧ Chg (XZ kx rb (fun i => w5.heap.size ≤ i)) w5 u, ?_, fun w19 hI => ?_⟩
  rotate_left
  · obtain ⟨s', hB, hk, hX, hc⟩ := hI
    rw [hB] at hM
    simp only at hM
    refine ⟨⟨s', f, _, rfl, fun h1 => ?_, fun h1 => ?_, hX, hc⟩, ?_⟩
    · have h1 : last ≠ 1 := fun e => by subst e; simp at h1
      rw [if_neg h1] at hM
      exact ⟨hM, by omega⟩
    · have h1 : last = 1 := by have := eq_of_beq h1; omega
      rw [if_pos h1] at hM
      exact hM
    · show leftM bs rb w19 < leftM bs rb w6
      rw [hX.left, hX6.left]
      have := hX.ok.pos
      omega
  have hblk : ∀ e, blockM bs (max most 0) kind (k2', s.2) = .error e → Q = .error e := fun e he => by rw [hM, he]
  have hk3 : kind < 4 := (tkM_ok hT8).2.2.1
  have hXz : ∀ {u u' : World} {T' : Nat → Prop}, (∀ b, T' b → w5.heap.size ≤ b) → Chg (XZ kx rb T') u u' → Chg (XZ kx rb (fun i => w5.heap.size ≤ i)) u u' := fun hT hc => hc.mono fun i hi _ => by
    rcases hi with hi | hi | hi
    · exact .inl hi
    · exact .inr (.inl hi)
    · exact .inr (.inr (hT i hi))
  -- symbols, by decoders in new blocks
  have syms : ∀ (u : World) (lits dists : List Nat) (kl kd : Nat) (k3' : Nat), w8.heap.size ≤ u.heap.size → Chg (XZ kx rb (fun i => w5.heap.size ≤ i)) w5 u → XAt u kx rb S (fun b => w5.heap.size ≤ b ∧ (b < w8.heap.size ∨ u.heap.size ≤ b)) bs (max most 0) (k3', s.2) →
      DecAt u kl (fun b => w8.heap.size ≤ b ∧ b < u.heap.size) lits → DecAt u kd (fun b => w8.heap.size ≤ b ∧ b < u.heap.size) dists → blockM bs (max most 0) kind (k2', s.2) = symM bs (max most 0) lits dists (k3', s.2) → k2' ≤ k3' →
      Calls P F.inflate_reader_symbols #[.pointer (some ⟨kx, 0, none⟩), .pointer (some ⟨kl, 0, none⟩), .pointer (some ⟨kd, 0, none⟩)] u fun e w12 =>
        ((e = .returned (.tuple #[]) ∧ ∃ s' : Sx, blockM bs (max most 0) kind (k2', s.2) = .ok s' ∧ k2' ≤ s'.1 ∧ XAt w12 kx rb S (fun i => w5.heap.size ≤ i) bs (max most 0) s' ∧ Chg (XZ kx rb (fun i => w5.heap.size ≤ i)) w5 w12) ∨
         ∃ l : List PanicEntry, e = .panicked l ∧ ∃ v : Value, l = [{ v := v, recovered := false }] ∧ CallsOff P F.inflate_Raw_fn1 [.pointer (some ⟨k1, 0, none⟩), .pointer (some ⟨k2, 0, none⟩), .pointer (some ⟨k3, 0, none⟩)] v w12 fun e' w10 => (∃ v2 : Value, e' = .returned v2) ∧
          ∃ (p2 : Option Addr) (k5 k6 : Nat), w10.cell? ⟨k1, 0, none⟩ = some (.slice p2 k5 k6) ∧ ∃ n3 : Int, w10.cell? ⟨k2, 0, none⟩ = some (i64 n3) ∧ ∃ n4 : Int, w10.cell? ⟨k3, 0, none⟩ = some (i64 n4) ∧ R (.returned (.tuple #[.slice p2 k5 k6, i64 n3, i64 n4])) w10) := by
    intro u lits dists kl kd k3' hsz hcu hXu hdl hdd hB hk
    have hlt8 := hX8.lt
    have dz : ∀ b, w8.heap.size ≤ b ∧ b < u.heap.size → b ≠ kx ∧ b ≠ rb ∧ ¬ (w5.heap.size ≤ b ∧ (b < w8.heap.size ∨ u.heap.size ≤ b)) := fun b hb => ⟨by omega, by omega, by omega⟩
    refine symbols_spec hXu (fun b hb => ⟨by omega, .inr hb⟩) hdl hdd dz dz (fun s' w12 hM' hc12 hX12 => .inl ⟨rfl, s', by rw [hB, hM'], ?_, hX12.wide (fun b hb => hb.1) hX8.nT, tz hcu (hXz (fun b hb => hb.1) hc12)⟩) fun e w12 hM' hc12 => .inr ⟨_, rfl, bad e w12 (hblk e (by rw [hB, hM'])) (tz hcu (hXz (fun b hb => hb.1) hc12))⟩
    have := (symF_ok hM' hXu.ok).2
    simp only at this
    omega
  refine brB_i (fun h0 => ?_) fun h0 => ?_
  · have h0 : kind = 0 := by have := eq_of_beq h0; omega
    have hB : blockM bs (max most 0) kind (k2', s.2) = storedM bs (max most 0) (k2', s.2) := by unfold blockM; rw [if_pos h0]
    refine stored_spec hX8 (fun b hb => by omega) hf (fun s' w9 hM9 hc9 hX9 => .inl ⟨rfl, s', by rw [hB, hM9], ?_, hX9, tz hc58 hc9⟩) fun e w9 hM9 hc9 => .inr ⟨_, rfl, bad e w9 (hblk e (by rw [hB, hM9])) (tz hc58 hc9)⟩
    have := (storedM_ok hf hM9 hX8.ok).2
    simp only at this
    omega
  have h0 : kind ≠ 0 := fun e => by rw [e] at h0; cases h0
  refine brB_i (fun h1 => ?_) fun h1 => ?_
  · have h1 : kind = 1 := by have := eq_of_beq h1; omega
    have hB : blockM bs (max most 0) kind (k2', s.2) = symM bs (max most 0) fixL fixD (k2', s.2) := by unfold blockM; rw [if_neg h0, if_pos h1]
    refine fixed_spec fun kl kd w11 hE11 hdl hdd => ⟨_, _, rfl, ?_⟩
    have hs11 := hE11.size
    refine syms w11 fixL fixD kl kd k2' hs11 (tz hc58 hE11.chg) ?_ (hdl.mono fun b hb hl => ⟨hb, hl⟩) (hdd.mono fun b hb hl => ⟨hb, hl⟩) hB (Nat.le_refl _)
    exact (hX8.limT (T' := fun b => w5.heap.size ≤ b ∧ (b < w8.heap.size ∨ w11.heap.size ≤ b)) (fun b hb => hb.1) fun b hb hl => ⟨hb, .inl hl⟩).ext hE11
  have h1 : kind ≠ 1 := fun e => by rw [e] at h1; cases h1
  refine brB_i (fun h2 => ?_) fun h2 => ?_
  · have h2 : kind = 2 := by have := eq_of_beq h2; omega
    have hB : blockM bs (max most 0) kind (k2', s.2) = (match tabM bs k2' with | .error e => .error e | .ok (lits, dists, k) => symM bs (max most 0) lits dists (k, s.2)) := by
      unfold blockM; rw [if_neg h0, if_neg h1, if_pos h2]
      simp only
      cases tabM bs k2' with
      | error e => rfl
      | ok x => rfl
    refine dynamic_spec hX8 hSb (fun lits dists k' kl kd w14 hT hc14 hr14 hk' hk8 hdl hdd => .inl ⟨_, _, rfl, ?_⟩) fun e w14 hT hc14 => .inr ⟨_, rfl, bad e w14 (hblk e (by simp only at hT; rw [hB, hT])) (tz hc58 (hrbZ hc14))⟩
    simp only at hT hk'
    have hs14 := hc14.size
    refine syms w14 lits dists kl kd k' hs14 (tz hc58 (hrbZ hc14)) ?_ (hdl.mono fun b hb hl => ⟨hb, hl⟩) (hdd.mono fun b hb hl => ⟨hb, hl⟩) (by rw [hB, hT]) hk'
    exact (hX8.limT (T' := fun b => w5.heap.size ≤ b ∧ (b < w8.heap.size ∨ w14.heap.size ≤ b)) (fun b hb => hb.1) fun b hb hl => ⟨hb, .inl hl⟩).rdTo hc14 hr14 hk' hk8
  have h2 : kind ≠ 2 := fun e => by rw [e] at h2; cases h2
  exact ⟨⟨_, _, rfl⟩, bad 40 w8 (hblk 40 (by unfold blockM; rw [if_neg h0, if_neg h1, if_neg h2])) hc58⟩
end Go.Proofs.Ythfnohbpdoklgaa
