/- Inflate: bits, symbols and stored bytes are taken, or given up. -/
import Derived.Test.YthfnohbpdoklgaaIM2
namespace Go.Proofs.Ythfnohbpdoklgaa
open Go Go.Vc Go.RowKit
set_option maxRecDepth 100000
set_option linter.unusedVariables false
set_option linter.unusedSimpArgs false
set_option maxHeartbeats 2000000

/-- what a reading gives up with -/
abbrev brk (e : Int) : List PanicEntry := [{ v := .iface 49 (.agg #[i64 e]), recovered := false }]
theorem must_spec {e : Int} {w : World} {R : Ending → World → Prop} (h0 : e = 0 → R (.returned (.tuple #[])) w) (h1 : e ≠ 0 → R (.panicked (brk e)) w) : Calls P F.inflate_must #[i64 e] w R := by
  refine calls_inflate_must _ _ _ ?_
  refine brB_i (fun h => ⟨⟨_, _, rfl⟩, h1 (by simpa using h)⟩) fun h => h0 (by simpa using h)
/-- a reader of streams at block kx, its bits at rb; what it wrote, in a block of T -/
structure XAt (w : World) (kx rb : Nat) (S T : Nat → Prop) (bs : List Int) (most : Int) (s : Sx) : Prop where
  obj : ∃ p cap, Cs w kx [.pointer (some ⟨rb, 0, none⟩), .slice p s.2.length cap, i64 most] ∧ OwnS T w p s.2.length cap 1 (bytes s.2)
  rd : RdAt w (some ⟨rb, 0, none⟩) rb S bs (s.1 : Nat) false
  kr : kx ≠ rb
  nS : ¬ S kx
  nT : ¬ T kx ∧ ¬ T rb ∧ ∀ b, S b → ¬ T b
  top : most ≤ 9223372036854775807
  ok : SxOk bs most s
  cap : ∀ m : Nat, (m : Int) ≤ most → m ≤ 258 * (8 * bs.length) → m ≤ 2 ^ 46
/-- what such a reader may turn -/
abbrev XZ (kx rb : Nat) (T : Nat → Prop) (i : Nat) : Prop := i = kx ∨ i = rb ∨ T i
section
variable {w w' : World} {kx rb : Nat} {S T : Nat → Prop} {bs : List Int} {most : Int} {s : Sx} {R : Ending → World → Prop}
theorem XAt.rdTo {k' : Nat} (h : XAt w kx rb S T bs most s) (hc : Chg (· = rb) w w') (hr : RdAt w' (some ⟨rb, 0, none⟩) rb S bs (k' : Nat) false) (hk : s.1 ≤ k') (hk' : k' ≤ 8 * bs.length) : XAt w' kx rb S T bs most (k', s.2) := by
  obtain ⟨p, cap, h1, h2⟩ := h.obj
  exact ⟨⟨p, cap, h1.chg hc h.kr, h2.chg hc fun b hb _ e => h.nT.2.1 (e ▸ hb)⟩, hr, h.kr, h.nS, h.nT, h.top, ⟨hk', h.ok.few, by have := h.ok.slow; simp only; omega, h.ok.fit⟩, h.cap⟩
theorem XAt.keep {Z : Nat → Prop} (h : XAt w kx rb S T bs most s) (hc : Chg Z w w') (hz : ∀ i, Z i → i < w.heap.size → i ≠ kx ∧ i ≠ rb ∧ ¬ S i ∧ ¬ T i) : XAt w' kx rb S T bs most s := by
  obtain ⟨p, cap, h1, h2⟩ := h.obj
  obtain ⟨_, _, h3, h4⟩ := h.rd.obj
  refine ⟨⟨p, cap, h1.chg hc fun hx => (hz _ hx h1.lt).1 rfl, h2.chg hc fun b hb hlt hx => (hz _ hx hlt).2.2.2 hb⟩, h.rd.chg hc (fun hx => (hz _ hx h3.lt).2.1 rfl) (fun b hb hlt hx => (hz _ hx hlt).2.2.1 hb), h.kr, h.nS, h.nT, h.top, h.ok, h.cap⟩
theorem XAt.ext (h : XAt w kx rb S T bs most s) (hc : Ext w w') : XAt w' kx rb S T bs most s := h.keep (Z := fun _ => False) hc.chg fun _ hx => hx.elim
theorem XAt.limT {T' : Nat → Prop} (h : XAt w kx rb S T bs most s) (h1 : ∀ b, T' b → T b) (h2 : ∀ b, T b → b < w.heap.size → T' b) : XAt w kx rb S T' bs most s := by
  obtain ⟨p, cap, g1, g2⟩ := h.obj
  exact ⟨⟨p, cap, g1, g2.mono h2⟩, h.rd, h.kr, h.nS, ⟨fun hx => h.nT.1 (h1 _ hx), fun hx => h.nT.2.1 (h1 _ hx), fun b hb hx => h.nT.2.2 b hb (h1 _ hx)⟩, h.top, h.ok, h.cap⟩
theorem XAt.wide {T' : Nat → Prop} (h : XAt w kx rb S T' bs most s) (h1 : ∀ b, T' b → T b) (hT : ¬ T kx ∧ ¬ T rb ∧ ∀ b, S b → ¬ T b) : XAt w kx rb S T bs most s := by
  obtain ⟨p, cap, g1, g2⟩ := h.obj
  exact ⟨⟨p, cap, g1, g2.mono fun b hb _ => h1 b hb⟩, h.rd, h.kr, h.nS, hT, h.top, h.ok, h.cap⟩
theorem XAt.lt (h : XAt w kx rb S T bs most s) : kx < w.heap.size ∧ rb < w.heap.size := by
  obtain ⟨p, cap, h1, h2⟩ := h.obj
  obtain ⟨_, _, h3, h4⟩ := h.rd.obj
  exact ⟨h1.lt, h3.lt⟩
theorem take_spec {n : Nat} (h : XAt w kx rb S T bs most s) (hn : n ≤ 32)
    (hok : ∀ v k' w', tkM bs s.1 n = .ok (v, k') → Chg (· = rb) w w' → XAt w' kx rb S T bs most (k', s.2) → R (.returned (i64 (v : Nat))) w')
    (herr : ∀ e w', tkM bs s.1 n = .error e → Chg (· = rb) w w' → R (.panicked (brk e)) w') : Calls P F.inflate_reader_take #[.pointer (some ⟨kx, 0, none⟩), i64 (n : Nat)] w R := by
  refine calls_inflate_reader_take _ _ _ _ ?_
  obtain ⟨p, cap, h1, h2⟩ := h.obj
  have hpos := h.ok.pos
  refine nn_i rfl ⟨_, h1.cell (i := 0) rfl, ?_⟩
  refine Take_spec h.rd (fun h => by omega) (fun _ _ hgt => ⟨_, _, rfl, must_spec (fun h => by omega) fun _ => .inr ⟨_, rfl, herr 5 _ (if_neg (by omega)) (Chg.refl _ w).drew⟩⟩) fun _ _ hle w' hc hr => ⟨_, _, rfl, must_spec (fun _ => .inl ⟨rfl, ?_⟩) fun h => absurd rfl h⟩
  have hM : tkM bs s.1 n = .ok ((takeV bs false s.1 n).toNat, s.1 + n) := if_pos (by omega)
  obtain ⟨a1, a2, a3, a4⟩ := tkM_ok hM
  have hr0 := takeV_range bs false s.1 n
  have e : takeV bs false s.1 n = (((takeV bs false s.1 n).toNat : Nat) : Int) := by omega
  have hb : (takeV bs false s.1 n).toNat < 2 ^ 32 := Nat.lt_of_lt_of_le a3 (Nat.pow_le_pow_right (by omega) hn)
  rw [show ((s.1 : Nat) : Int).toNat = s.1 from Int.toNat_natCast _, show ((n : Nat) : Int).toNat = n from Int.toNat_natCast _, e, w64 (by omega) (by omega)]
  exact hok _ _ w' hM hc (h.rdTo hc (by rw [show (((s.1 + n : Nat)) : Int) = ((s.1 : Nat) : Int) + (n : Nat) by omega]; exact hr) (by omega) a2)
theorem next_spec {kd : Nat} {D : Nat → Prop} {l : List Nat} (h : XAt w kx rb S T bs most s) (hd : DecAt w kd D l) (hD : ∀ b, D b → b ≠ rb)
    (hok : ∀ v k' w', nextM bs l s.1 = .ok (v, k') → Chg (· = rb) w w' → XAt w' kx rb S T bs most (k', s.2) → R (.returned (i64 (v : Nat))) w')
    (herr : ∀ e w', nextM bs l s.1 = .error e → Chg (· = rb) w w' → R (.panicked (brk e)) w') : Calls P F.inflate_reader_next #[.pointer (some ⟨kx, 0, none⟩), .pointer (some ⟨kd, 0, none⟩)] w R := by
  refine calls_inflate_reader_next _ _ _ _ ?_
  obtain ⟨p, cap, h1, h2⟩ := h.obj
  refine nn_i rfl ⟨_, h1.cell (i := 0) rfl, ?_⟩
  refine Next_spec hd h.rd hD (fun v k' w' hM hc hr => ⟨_, _, rfl, must_spec (fun _ => .inl ⟨rfl, ?_⟩) fun h => absurd rfl h⟩) fun e w' hM hc => ⟨_, _, rfl, must_spec (fun h0 => ?_) fun _ => .inr ⟨_, rfl, herr e w' hM hc⟩⟩
  · obtain ⟨a1, a2, a3, _⟩ := nextM_ok hM
    exact hok v k' w' hM hc (h.rdTo hc hr (by omega) a2)
  · subst h0
    exact absurd hM (next_ne bs l)
where next_ne (bs : List Int) (l : List Nat) {k : Nat} : nextM bs l k ≠ .error 0 := by
        have key : ∀ f n v x k, nextGo bs l (deepL l) (nxL l (deepL l)) f n v x k ≠ .error 0 := by
          intro f
          induction f with
          | zero => intro n v x k h; cases h
          | succ f ih =>
            intro n v x k h
            rw [nextGo] at h
            split at h
            · rename_i e he
              have := (tkM_err he).1
              cases h; omega
            · split at h
              · cases h
              · split at h
                · exact ih _ _ _ _ h
                · cases h
        exact key _ _ _ _ _
theorem room_spec {n : Nat} (h : XAt w kx rb S T bs most s) (hn : n ≤ 2 ^ 40) (hok : (n : Int) ≤ most - s.2.length → R (.returned (.tuple #[])) w.drew) (herr : (n : Int) > most - s.2.length → R (.panicked (brk 3)) w.drew) :
    Calls P F.inflate_reader_room #[.pointer (some ⟨kx, 0, none⟩), i64 (n : Nat)] w R := by
  refine calls_inflate_reader_room _ _ _ _ ?_
  obtain ⟨p, cap, h1, h2⟩ := h.obj
  have hfew := h.ok.few
  have htop := h.top
  refine nn_i rfl ⟨_, h1.drew.cell (i := 2) rfl, nn_i rfl ⟨_, _, _, h1.drew.cell (i := 1) rfl, ?_⟩⟩
  rw [w64 (by omega) (by omega)]
  refine brB_i (fun hgt => ⟨⟨_, _, rfl⟩, herr (of_decide_eq_true hgt)⟩) fun hle => hok (by have := of_decide_eq_false hle; omega)
theorem Locl.none_ (w : World) : Locl [] w w := ⟨rfl, rfl, rfl, Nat.le_refl _, fun _ _ _ => rfl, fun _ h => by cases h⟩
/-- bytes are written behind -/
theorem XAt.grow {w5 : World} {ls : List Nat} {l : List (Nat × Nat × List Value)} {ys : List Int} {p : Option Addr} {cap n : Nat} {F : Option Addr → Nat → Nat → World → Prop} (h : XAt w kx rb S T bs most s) (hnew : ∀ b, w.heap.size ≤ b → T b) (hC : Cs w kx [.pointer (some ⟨rb, 0, none⟩), .slice p s.2.length cap, i64 most]) (hO : OwnS T w p s.2.length cap 1 (bytes s.2))
    (hL : Locl ls w w5) (hb : ∀ b, b ∈ ls → w.heap.size ≤ b) (hbl : ∀ b, b ∈ blocks l → b ∈ ls) (hn : ys.length = n) (hy : Bs ys) (hs : SxOk bs most (s.1, s.2 ++ ys))
    (hF : ∀ p' c' w6, Chg (fun i => T i ∨ i ∈ ls) w w6 → (∃ v, w6.cell? ⟨kx, 1, none⟩ = some v) → w6.frozen? ⟨kx, 1, none⟩ = false → kx ∉ ls →
      Chg (XZ kx rb T) w (setCells w6 ⟨kx, 1, none⟩ [.slice p' (s.2.length + n) c'] 0) → XAt (setCells w6 ⟨kx, 1, none⟩ [.slice p' (s.2.length + n) c'] 0) kx rb S T bs most (s.1, s.2 ++ ys) → F p' (s.2.length + n) c' w6) :
    appVC w5 l p s.2.length cap n 1 1 5 [u8 0] (bytes ys) F := by
  subst hn
  have hbig : s.2.length + ys.length ≤ 2 ^ 46 := by
    have h1 := hs.few
    have h2 := hs.slow
    have h3 := hs.pos
    simp only [List.length_append] at h1 h2 h3
    exact h.cap _ (by push_cast at h1 ⊢; omega) (by omega)
  have hlt := h.lt
  have hkx : kx ∉ ls := fun hm => by have := hb kx hm; omega
  have hrb : rb ∉ ls := fun hm => by have := hb rb hm; omega
  refine OwnS.grow hO hL (fun b hm => .inl (hb b hm)) hnew hbl rfl (by rw [bytes_length, Nat.mul_one]) (by omega) (by omega) fun p' c' w6 hO6 hc6 => ?_
  have hC6 : Cs w6 kx _ := hC.chg hc6 fun hx => hx.elim h.nT.1 hkx
  have h6 := h.rd.chg hc6 (fun hx => hx.elim h.nT.2.1 hrb) (fun b hb' hlt' hx => hx.elim (h.nT.2.2 b hb') fun hm => by have := hb b hm; omega)
  have hset := Chg.setCells w6 ⟨kx, 1, none⟩ [.slice p' (s.2.length + ys.length) c'] 0
  have hall : Chg (XZ kx rb T) w (setCells w6 ⟨kx, 1, none⟩ [.slice p' (s.2.length + ys.length) c'] 0) := (hc6.mono fun i hi _ => hi.elim (fun g => .inr (.inr g)) fun hm => .inr (.inr (hnew i (hb i hm)))).trans hset fun i hi _ => .inl hi
  refine hF p' c' w6 hc6 ⟨_, hC6.cell (i := 1) rfl⟩ (hC6.frozen _) hkx hall ⟨⟨p', c', ?_, ?_⟩, h6.chg hset (fun hx => h.kr hx.symm) (fun b hb' _ hx => h.nS (by have hx : b = kx := hx; rwa [hx] at hb')), h.kr, h.nS, h.nT, h.top, hs, h.cap⟩
  · have := hC6.set1 (off := 1) (v := .slice p' (s.2.length + ys.length) c') (by simp)
    simpa using this
  · rw [bytes_append, List.length_append]
    exact OwnS.chg (OwnS.mono hO6 fun i hi _ => hi.1) hset fun b hb' _ hx => h.nT.1 (by have hx : b = kx := hx; rwa [hx] at hb')
theorem stored_spec (h : XAt w kx rb S T bs most s) (hnew : ∀ b, w.heap.size ≤ b → T b) (hf : Bs bs)
    (hok : ∀ s' w', storedM bs most s = .ok s' → Chg (XZ kx rb T) w w' → XAt w' kx rb S T bs most s' → R (.returned (.tuple #[])) w')
    (herr : ∀ e w', storedM bs most s = .error e → Chg (XZ kx rb T) w w' → R (.panicked (brk e)) w') : Calls P F.inflate_reader_stored #[.pointer (some ⟨kx, 0, none⟩)] w R := by
  refine calls_inflate_reader_stored _ _ _ ?_
  obtain ⟨p, cap, h1, h2⟩ := h.obj
  have hpos := h.ok.pos
  have hroom := h.rd.room
  have hrb : ∀ {u u' : World}, Chg (· = rb) u u' → Chg (XZ kx rb T) u u' := fun hc => hc.mono fun i hi _ => .inr (.inl hi)
  refine nn_i rfl ⟨_, h1.cell (i := 0) rfl, ?_⟩
  refine Align_spec h.rd fun w1 hc1 hr1 => ⟨rfl, ?_⟩
  have hX1 := h.rdTo (k' := 8 * ((s.1 + 7) / 8)) hc1 (by push_cast; exact hr1) (by omega) (by omega)
  have hM := fun (e : Except Int Sx) (h : storedM bs most s = e) => h
  unfold storedM at hok herr
  refine take_spec hX1 (n := 16) (by omega) (fun n k2 w2 hT1 hc2 hX2 => .inl ⟨_, rfl, ?_⟩) fun e w2 hT1 hc2 => .inr ⟨_, rfl, herr e w2 (by simp only at hT1; rw [hT1]) (hrb (hc1.trans hc2 fun _ h _ => h))⟩
  simp only at hT1
  rw [hT1] at hok herr
  simp only at hok herr
  have hc12 := hc1.trans hc2 fun _ h _ => h
  refine take_spec hX2 (n := 16) (by omega) (fun m k3 w3 hT2 hc3 hX3 => .inl ⟨_, rfl, ?_⟩) fun e w3 hT2 hc3 => .inr ⟨_, rfl, herr e w3 (by simp only at hT2; rw [hT2]) (hrb (hc12.trans hc3 fun _ h _ => h))⟩
  simp only at hT2
  rw [hT2] at hok herr
  simp only at hok herr
  have hc13 := hc12.trans hc3 fun _ h _ => h
  obtain ⟨a1, a2, a3, _⟩ := tkM_ok hT1
  obtain ⟨b1, b2, b3, _⟩ := tkM_ok hT2
  have hxor : IntKind.i64.wrap (bitsZ .xor .i64 ((n : Nat) : Int) 65535) = ((65535 - n : Nat) : Int) := xor16 a3
  rw [hxor]
  refine brB_i (fun hne => ?_) fun heq => ?_
  · have hne : m + n ≠ 65535 := fun e => by
      have : m = 65535 - n := by omega
      rw [this] at hne; simp at hne
    exact ⟨⟨_, _, rfl⟩, herr 40 w3 (by rw [if_pos hne]) (hrb hc13)⟩
  have heq : ¬ (m + n ≠ 65535) := fun e => by
    have h3 : (((m : Nat) : Int) != ((65535 - n : Nat) : Int)) = true := by simp only [bne_iff_ne, ne_eq]; omega
    rw [h3] at heq; cases heq
  rw [if_neg heq] at hok herr
  refine room_spec hX3 (n := n) (by omega) (fun hle => .inl ⟨rfl, ?_⟩) fun hgt => .inr ⟨_, rfl, herr 3 _ (by simp only at hgt; rw [if_pos hgt]) (hrb hc13.drew)⟩
  simp only at hle
  rw [if_neg (by omega)] at hok herr
  have hX4 := hX3.ext (Ext.refl w3).drew
  obtain ⟨p4, cap4, h41, h42⟩ := hX4.obj
  have h45 : OwnS T w3.drew p4 s.2.length cap4 1 (bytes s.2) := h42
  refine nn_i rfl ⟨_, h41.cell (i := 0) rfl, ?_⟩
  refine Bytes_spec hX4.rd (fun h => by omega) (fun _ hgt => ⟨_, _, _, _, rfl, must_spec (fun h => by omega) fun _ => .inr ⟨_, rfl, herr 5 _ (by simp only at hgt; rw [if_pos (by omega)]) (hrb hc13.drew.drew)⟩⟩) (fun _ hle2 p5 c5 w5 hc5 hr5 ho5 => ⟨_, _, _, _, rfl, must_spec (fun _ => .inl ⟨rfl, ?_⟩) fun h => absurd rfl h⟩) (by omega)
  simp only at hle2
  rw [if_neg (by omega)] at hok herr
  have hX5 := hX4.rdTo (k' := 8 * ((k3 + 7) / 8 + n)) hc5 (by push_cast; exact hr5) (by simp only; omega) (by omega)
  obtain ⟨p6, cap6, h61, h62⟩ := hX5.obj
  simp only [Int.toNat_natCast] at ho5 ⊢
  have e1 : (((k3 : Nat) : Int) + 7) / 8 = (((k3 + 7) / 8 : Nat) : Int) := by omega
  rw [e1, Int.toNat_natCast] at ho5
  have hpl : (part bs ((k3 + 7) / 8) n).length = n := part_length (by omega)
  refine nn_i rfl ⟨_, _, _, h61.cell (i := 1) rfl, bytes (part bs ((k3 + 7) / 8) n), by rw [bytes_length, hpl, Nat.mul_one], bytes_oneAll _, ho5.sl.cells, ?_⟩
  have hc15 := hc13.drew.trans hc5 fun _ h _ => h
  have hslow := h.ok.slow
  refine XAt.grow hX5 (fun b hb => hnew b (by have := hc15.size; omega)) h61 h62 (Locl.none_ w5) (fun b hb => by cases hb) (fun b hb => by cases hb) hpl (part_fit hf _ _) ⟨by simp only; omega, by simp only [List.length_append, hpl]; omega, by simp only [List.length_append, hpl]; omega, fun x hx => ?_⟩ fun p7 c7 w7 hc7 hcell hfro _ hc8 hX8 => nn_i rfl ⟨hcell, hfro, hok _ _ rfl ((hrb hc15).trans hc8 fun _ h _ => h) hX8⟩
  rcases List.mem_append.1 hx with hx | hx
  · exact h.ok.fit x hx
  · exact part_fit hf _ _ x hx
where xor16 {n : Nat} (hn : n < 2 ^ 16) : IntKind.i64.wrap (bitsZ .xor .i64 ((n : Nat) : Int) 65535) = ((65535 - n : Nat) : Int) := by
        have h1 : n ^^^ 65535 = 65535 - n := by
          apply Nat.eq_of_testBit_eq
          intro i
          rw [show 65535 - n = 2 ^ 16 - (n + 1) by omega, Nat.testBit_two_pow_sub_succ hn, Nat.testBit_xor, show 65535 = 2 ^ 16 - 1 by rfl, Nat.testBit_two_pow_sub_one]
          by_cases h : i < 16
          · simp [h]
          · have : n.testBit i = false := Nat.testBit_lt_two_pow (Nat.lt_of_lt_of_le hn (Nat.pow_le_pow_right (by omega) (by omega)))
            simp [h, this]
        have h2 : bitsZ .xor .i64 ((n : Nat) : Int) 65535 = ((n ^^^ 65535 : Nat) : Int) := by
          have e1 : (BitVec.ofInt 64 ((n : Nat) : Int)).toNat = n := by
            rw [BitVec.toNat_ofInt]; omega
          have e2 : (BitVec.ofInt 64 (65535 : Int)).toNat = 65535 := by decide
          show (((BitVec.ofInt 64 ((n : Nat) : Int)) ^^^ (BitVec.ofInt 64 (65535 : Int))).toNat : Int) = _
          rw [BitVec.toNat_xor, e1, e2]
        rw [h2, h1, w64 (by omega) (by omega)]
end
end Go.Proofs.Ythfnohbpdoklgaa
