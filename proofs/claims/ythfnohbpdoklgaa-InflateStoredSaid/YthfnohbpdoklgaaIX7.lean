/- Inflate: symbols are read, till the end of a block. -/
import Derived.Test.YthfnohbpdoklgaaIX6
namespace Go.Proofs.Ythfnohbpdoklgaa
open Go Go.Vc Go.RowKit
set_option maxRecDepth 100000
set_option linter.unusedVariables false
set_option linter.unusedSimpArgs false
set_option maxHeartbeats 2000000

theorem quoN {a b : Nat} (hb : 0 < b) (ha : a ≤ 2 ^ 60) : divZ .quo .i64 ((a : Nat) : Int) ((b : Nat) : Int) = ((a / b : Nat) : Int) := by
  have : a / b ≤ a := Nat.div_le_self _ _
  simp only [divZ]
  rw [Int.tdiv_eq_ediv_of_nonneg (by omega), ← Int.natCast_ediv]
  generalize a / b = x at *
  rw [w64 (by omega) (by omega)]
theorem remN' {a b : Nat} : divZ .rem .i64 ((a : Nat) : Int) ((b : Nat) : Int) = ((a % b : Nat) : Int) := by
  simp only [divZ]
  rw [Int.tmod_eq_emod_of_nonneg (by omega), ← Int.natCast_emod]
theorem groups_spec {k size from_ : Nat} {w : World} {R : Ending → World → Prop} (hk : k ≤ 29) (h1 : 1 ≤ size) (h2 : size ≤ 4) (hf : from_ ≤ 3) (hR : R (.returned (.tuple #[i64 ((grpM k size from_).1 : Nat), i64 ((grpM k size from_).2 : Nat)])) w) :
    Calls P F.inflate_groups #[i64 (k : Nat), i64 (size : Nat), i64 (from_ : Nat)] w R := by
  refine calls_inflate_groups _ _ _ _ _ ?_
  unfold grpM at hR
  unfold vc_inflate_groups
  refine brB_i (fun h => ?_) fun h => ?_
  · have h : k < 2 * size := by have := of_decide_eq_true h; rw [w64 (by omega) (by omega)] at this; omega
    rw [if_pos h] at hR
    rw [w64 (by omega) (by omega)]
    have e : ((from_ : Nat) : Int) + (k : Nat) = ((from_ + k : Nat) : Int) := by omega
    rw [e]
    exact hR
  · have h : ¬ k < 2 * size := by have := of_decide_eq_false h; rw [w64 (by omega) (by omega)] at this; omega
    rw [if_neg h] at hR
    have hd : 2 ≤ k / size := (Nat.le_div_iff_mul_le (by omega)).2 (by omega)
    have hd2 : k / size ≤ k := Nat.div_le_self _ _
    have hm : k % size < size := Nat.mod_lt _ (by omega)
    rw [quoN (by omega) (by omega), remN']
    generalize k / size = a at *
    generalize k % size = b at *
    have ea : IntKind.i64.wrap (((a : Nat) : Int) - 1) = ((a - 1 : Nat) : Int) := by rw [w64 (by omega) (by omega)]; omega
    have eb : IntKind.i64.wrap (((size : Nat) : Int) + (b : Nat)) = ((size + b : Nat) : Int) := by rw [w64 (by omega) (by omega)]; omega
    have hp : (size + b) * 2 ^ (a - 1) ≤ 8 * 2 ^ 28 := Nat.mul_le_mul (by omega) (Nat.pow_le_pow_right (by omega) (by omega))
    rw [ea, eb, shlN (by omega) (by omega)]
    generalize (size + b) * 2 ^ (a - 1) = c at *
    have ec : IntKind.i64.wrap (((from_ : Nat) : Int) + (c : Nat)) = ((from_ + c : Nat) : Int) := by rw [w64 (by omega) (by omega)]; omega
    rw [ec]
    exact ⟨by omega, by omega, by omega, hR⟩
/-- a function of places that are to be read yet -/
def leftM (bs : List Int) (rb : Nat) (u : World) : Nat := match u.cell? ⟨rb, 1, none⟩ with | some (.int _ k) => (8 * bs.length - k).toNat | _ => 0
section
variable {w w' : World} {kx rb : Nat} {S T : Nat → Prop} {bs : List Int} {most : Int} {s : Sx} {R : Ending → World → Prop}
theorem XAt.left (h : XAt w kx rb S T bs most s) : leftM bs rb w = 8 * bs.length - s.1 := by
  obtain ⟨_, _, h3, h4⟩ := h.rd.obj
  unfold leftM
  rw [h3.cell (i := 1) rfl]
  show ((8 : Int) * bs.length - (s.1 : Nat)).toNat = _
  omega
theorem symbols_spec {kl kd : Nat} {Dl Dd : Nat → Prop} {lits dists : List Nat} (h : XAt w kx rb S T bs most s) (hnew : ∀ b, w.heap.size ≤ b → T b) (hl : DecAt w kl Dl lits) (hd : DecAt w kd Dd dists) (hDl : ∀ b, Dl b → b ≠ kx ∧ b ≠ rb ∧ ¬ T b) (hDd : ∀ b, Dd b → b ≠ kx ∧ b ≠ rb ∧ ¬ T b)
    (hok : ∀ s' w', symM bs most lits dists s = .ok s' → Chg (XZ kx rb T) w w' → XAt w' kx rb S T bs most s' → R (.returned (.tuple #[])) w')
    (herr : ∀ e w', symM bs most lits dists s = .error e → Chg (XZ kx rb T) w w' → R (.panicked (brk e)) w') : Calls P F.inflate_reader_symbols #[.pointer (some ⟨kx, 0, none⟩), .pointer (some ⟨kl, 0, none⟩), .pointer (some ⟨kd, 0, none⟩)] w R := by
  refine calls_inflate_reader_symbols _ _ _ _ _ ?_
  have hz : ∀ {D : Nat → Prop}, (∀ b, D b → b ≠ kx ∧ b ≠ rb ∧ ¬ T b) → ∀ {u : World}, ∀ b, D b → b < u.heap.size → ¬ XZ kx rb T b := fun hD u b hb _ hx => by
    obtain ⟨g1, g2, g3⟩ := hD b hb
    rcases hx with hx | hx | hx
    · exact g1 hx
    · exact g2 hx
    · exact g3 hx
  have hrbZ : ∀ {u u' : World}, Chg (· = rb) u u' → Chg (XZ kx rb T) u u' := fun hc => hc.mono fun i hi _ => .inr (.inl hi)
  refine ⟨fun _ u => ∃ (t : Sx) (f : Nat), symM bs most lits dists s = symF bs most lits dists f t ∧ 8 * bs.length < t.1 + f ∧ Chg (XZ kx rb T) w u ∧ XAt u kx rb S T bs most t, fun _ u => leftM bs rb u,
    ⟨s, 8 * bs.length + 1, rfl, by omega, Chg.refl _ _, h⟩, fun w1 hI => ?_⟩
  obtain ⟨t, f0, hM, hf0, hc1, hX1⟩ := hI
  have hpos := hX1.ok.pos
  obtain ⟨f, rfl⟩ : ∃ f, f0 = f + 1 := ⟨f0 - 1, by omega⟩
  rw [symF] at hM
  have hl1 := hl.chg hc1 (hz hDl)
  have hd1 := hd.chg hc1 (hz hDd)
  refine ⟨fun _ u => ∃ t' : Sx, symM bs most lits dists s = symF bs most lits dists f t' ∧ t.1 < t'.1 ∧ Chg (XZ kx rb T) w u ∧ XAt u kx rb S T bs most t', ?_, fun w16 hI => ?_⟩
  rotate_left
  · obtain ⟨t', hM', hlt, hc, hX⟩ := hI
    refine ⟨⟨t', f, hM', by omega, hc, hX⟩, ?_⟩
    show leftM bs rb w16 < leftM bs rb w1
    rw [hX.left, hX1.left]
    have := hX.ok.pos
    omega
  refine next_spec hX1 hl1 (fun b hb => (hDl b hb).2.1) (fun v k1 w2 hN hc2 hX2 => .inl ⟨_, rfl, ?_⟩) fun e w2 hN hc2 => .inr ⟨_, rfl, herr e w2 (by rw [hM, hN]) (hc1.trans (hrbZ hc2) fun _ h _ => h)⟩
  rw [hN] at hM
  simp only at hM
  obtain ⟨n1, n2, n3, n4⟩ := nextM_ok hN
  have hlen := hl.lens.few
  have hc12 := hc1.trans (hrbZ hc2) fun _ h _ => h
  refine brB_i (fun h256 => ?_) fun h256 => ?_
  · have h256 : v = 256 := by have := eq_of_beq h256; omega
    rw [if_pos h256] at hM
    exact hok _ w2 hM hc12 hX2
  have h256 : v ≠ 256 := fun e => by subst e; simp at h256
  rw [if_neg h256] at hM
  refine brB_i (fun hlit => ?_) fun hlit => ?_
  · have hlit : v < 256 := by have := of_decide_eq_true hlit; omega
    rw [if_pos hlit] at hM
    refine room_spec hX2 (n := 1) (by omega) (fun hle => .inl ⟨rfl, ?_⟩) fun hgt => .inr ⟨_, rfl, herr 3 _ (by simp only at hgt; rw [hM, if_pos (by omega)]) hc12.drew⟩
    simp only at hle
    rw [if_neg (by omega)] at hM
    have hX3 := hX2.ext (Ext.refl w2).drew
    obtain ⟨p, cap, g1, g2⟩ := hX3.obj
    refine nn_i rfl ⟨_, _, _, g1.cell (i := 1) rfl, fun k3 hk3 w4 hL4 => ?_⟩
    rw [wu8 (by omega) (by omega)]
    have hslow := hX1.ok.slow
    refine XAt.grow (ys := [(v : Int)]) hX3 (fun b hb => hnew b (by have := hc12.drew.size; omega)) g1 g2 hL4 (by simpa using hk3) (by simp [blocks]) rfl (by intro x hx; rw [List.mem_singleton.1 hx]; omega) ⟨n2, by simp only [List.length_append, List.length_cons, List.length_nil]; omega, by simp only [List.length_append, List.length_cons, List.length_nil]; omega, fun x hx => ?_⟩
      fun p7 c7 w7 hc7 hcell hfro hnot hc8 hX8 => nn_i rfl ⟨hcell, hfro, hnot, (k1, t.2 ++ [(v : Int)]), hM, n1, hc12.drew.trans hc8 fun _ h _ => h, hX8⟩
    rcases List.mem_append.1 hx with hx | hx
    · exact hX1.ok.fit x hx
    · rw [List.mem_singleton.1 hx]; omega
  have hlit : 256 < v := by have := of_decide_eq_false hlit; omega
  rw [if_neg (by omega)] at hM
  unfold matchM at hM
  refine brB_i (fun hbig => ?_) fun hbig => ?_
  · have hbig : 285 < v := by have := of_decide_eq_true hbig; omega
    rw [if_pos hbig] at hM
    exact ⟨⟨_, _, rfl⟩, herr 32 w2 hM hc12⟩
  have hbig : ¬ 285 < v := by have := of_decide_eq_false hbig; omega
  rw [if_neg hbig] at hM
  obtain ⟨q1, q2, q3⟩ := len_facts v (by omega) hlit
  have ev : IntKind.i64.wrap (((v : Nat) : Int) - 257) = ((v - 257 : Nat) : Int) := by rw [w64 (by omega) (by omega)]; omega
  rw [ev]
  refine groups_spec (size := 4) (from_ := 3) (by omega) (by omega) (by omega) (by omega) ⟨_, _, rfl, ?_⟩
  refine ⟨fun vs u => vs = [i64 ((lenM v).1 : Nat), i64 ((lenM v).2 : Nat)] ∧ u = w2, ?_, fun n4 n5 w7 hI => ?_⟩
  · refine brB_i (fun h285 => ?_) fun h285 => ?_
    · have h285 : v = 285 := by have := eq_of_beq h285; omega
      subst h285
      exact ⟨rfl, rfl⟩
    · have h285 : v ≠ 285 := fun e => by subst e; simp at h285
      refine ⟨?_, rfl⟩
      unfold lenM; rw [if_neg h285]
  obtain ⟨hv, rfl⟩ := hI
  simp only [List.cons.injEq, Value.int.injEq, true_and, and_true] at hv
  obtain ⟨rfl, rfl⟩ := hv
  generalize hL : lenM v = L at *
  refine take_spec hX2 (n := L.2) (by omega) (fun x k2 w8 hT hc8 hX8 => .inl ⟨_, rfl, ?_⟩) fun e w8 hT hc8 => .inr ⟨_, rfl, herr e w8 (by simp only at hT; rw [hM]; simp only [hT]) (hc12.trans (hrbZ hc8) fun _ h _ => h)⟩
  simp only at hT
  simp only [hT] at hM
  obtain ⟨t1, t2, t3, _⟩ := tkM_ok hT
  have hc18 := hc12.trans (hrbZ hc8) fun _ h _ => h
  have hd8 := hd.chg hc18 (hz hDd)
  refine next_spec hX8 hd8 (fun b hb => (hDd b hb).2.1) (fun d k3 w9 hN2 hc9 hX9 => .inl ⟨_, rfl, ?_⟩) fun e w9 hN2 hc9 => .inr ⟨_, rfl, herr e w9 (by simp only at hN2; rw [hM]; simp only [hN2]) (hc18.trans (hrbZ hc9) fun _ h _ => h)⟩
  simp only at hN2
  simp only [hN2] at hM
  obtain ⟨m1, m2, m3, m4⟩ := nextM_ok hN2
  have hdl := hd.lens.few
  have hc19 := hc18.trans (hrbZ hc9) fun _ h _ => h
  refine brB_i (fun h29 => ?_) fun h29 => ?_
  · have h29 : 29 < d := by have := of_decide_eq_true h29; omega
    rw [if_pos h29] at hM
    exact ⟨⟨_, _, rfl⟩, herr 32 w9 hM hc19⟩
  have h29 : ¬ 29 < d := by have := of_decide_eq_false h29; omega
  rw [if_neg h29] at hM
  obtain ⟨r1, r2, r3⟩ := dist_facts d (by omega)
  refine groups_spec (size := 2) (from_ := 1) (by omega) (by omega) (by omega) (by omega) ⟨_, _, rfl, ?_⟩
  generalize hG : grpM d 2 1 = G at *
  refine take_spec hX9 (n := G.2) (by omega) (fun y k4 w11 hT2 hc11 hX11 => .inl ⟨_, rfl, ?_⟩) fun e w11 hT2 hc11 => .inr ⟨_, rfl, herr e w11 (by simp only at hT2; rw [hM]; simp only [hT2]) (hc19.trans (hrbZ hc11) fun _ h _ => h)⟩
  simp only at hT2
  simp only [hT2] at hM
  obtain ⟨u1, u2, u3, _⟩ := tkM_ok hT2
  have hc111 := hc19.trans (hrbZ hc11) fun _ h _ => h
  have hXl : 2 ^ L.2 ≤ 259 := by omega
  have hGl : 2 ^ G.2 ≤ 32769 := by omega
  obtain ⟨p, cap, g1, g2⟩ := hX11.obj
  have efar : IntKind.i64.wrap (((G.1 : Nat) : Int) + (y : Nat)) = ((G.1 + y : Nat) : Int) := by rw [w64 (by omega) (by omega)]; omega
  have elen : IntKind.i64.wrap (((L.1 : Nat) : Int) + (x : Nat)) = ((L.1 + x : Nat) : Int) := by rw [w64 (by omega) (by omega)]; omega
  rw [efar, elen]
  have hn258 : L.1 + x ≤ 258 := by omega
  generalize hn : L.1 + x = n at *
  generalize hfar : G.1 + y = far at *
  have hfar1 : 1 ≤ far := by omega
  refine nn_i rfl ⟨_, _, _, g1.cell (i := 1) rfl, ?_⟩
  refine brB_i (fun hf => ?_) fun hf => ?_
  · have hf : t.2.length < far := by have := of_decide_eq_true hf; simp only at this; omega
    rw [if_pos hf] at hM
    exact ⟨⟨_, _, rfl⟩, herr 42 w11 hM hc111⟩
  have hf : ¬ t.2.length < far := by have := of_decide_eq_false hf; simp only at this; omega
  rw [if_neg hf] at hM
  refine room_spec hX11 (n := n) (by omega) (fun hle => .inl ⟨rfl, ?_⟩) fun hgt => .inr ⟨_, rfl, herr 3 _ (by simp only at hgt; rw [hM, if_pos hgt]) hc111.drew⟩
  simp only at hle
  rw [if_neg (by omega)] at hM
  simp only at hM
  have hslow := hX1.ok.slow
  have hfewt := hX1.ok.few
  have htop := hX1.top
  have hcapt : t.2.length + n ≤ 2 ^ 46 := hX1.cap _ (by push_cast; omega) (by omega)
  refine ⟨fun vs u => ∃ (i : Nat) (out : List Int), vs = [i64 (i : Nat)] ∧ i ≤ n ∧ out.length = t.2.length + i ∧ copyM n far t.2 = copyM (n - i) far out ∧ Chg (XZ kx rb T) w u ∧ XAt u kx rb S T bs most (k4, out), fun vs _ => match vs with | [.int _ i] => (n - i).toNat | _ => 0,
    ⟨0, t.2, rfl, by omega, rfl, rfl, hc111.drew, hX11.ext (Ext.refl w11).drew⟩, fun n11 w13 hI => ?_⟩
  obtain ⟨i, out, hv, hi, hol, hcp, hc13, hX13⟩ := hI
  obtain rfl : n11 = (i : Nat) := by simpa using hv
  refine brB_i (fun hlt => ?_) fun hge => ?_
  rotate_left
  · have : i = n := by have := of_decide_eq_false hge; omega
    subst this
    rw [Nat.sub_self, copyM] at hcp
    rw [hcp] at hM
    exact ⟨(k4, out), hM, by simp only; omega, hc13, hX13⟩
  have hlt : i < n := by have := of_decide_eq_true hlt; omega
  have hX14 := hX13.ext (Ext.refl w13).drew
  obtain ⟨p4, cap4, a1, a2⟩ := hX14.obj
  have hfit := hX13.ok.fit
  refine nn_i rfl ⟨_, _, _, a1.cell (i := 1) rfl, nn_i rfl ⟨_, _, _, a1.cell (i := 1) rfl, nn_i rfl ⟨_, _, _, a1.cell (i := 1) rfl, ?_⟩⟩⟩
  simp only at hol ⊢
  rw [w64 (x := ((out.length : Nat) : Int) - (far : Nat)) (by omega) (by omega)]
  have a2' : OwnS T w13.drew p4 out.length cap4 1 (bytes out) := a2
  refine (a2'.sl).get (by omega) (bytes_length _) (bytes_get (by omega)) fun a7 ha7 => ⟨_, ha7, fun k14 hk14 w14 hL14 => ?_⟩
  have eidx : (((out.length : Nat) : Int) - (far : Nat)).toNat = out.length - far := by omega
  rw [eidx]
  have hfb := copyM_fit.fit_getD' hfit (out.length - far)
  refine XAt.grow (ys := [out.getD (out.length - far) 0]) hX14 (fun b hb => hnew b (by have := hc13.drew.size; omega)) a1 a2 hL14 (by simpa using hk14) (by simp [blocks]) rfl (by intro x hx; rw [List.mem_singleton.1 hx]; exact hfb) ⟨u2, by simp only [List.length_append, List.length_cons, List.length_nil]; omega, by simp only [List.length_append, List.length_cons, List.length_nil]; omega, fun x hx => ?_⟩
    fun p7 c7 w7 hc7 hcell hfro hnot hc8 hX8 => nn_i rfl ⟨hcell, hfro, hnot, ?_⟩
  · rcases List.mem_append.1 hx with hx | hx
    · exact hfit x hx
    · rw [List.mem_singleton.1 hx]; exact hfb
  · rw [wrap_succ (by omega)]
    refine ⟨⟨i + 1, out ++ [out.getD (out.length - far) 0], rfl, hlt, by simp; omega, ?_, hc13.drew.trans hc8 fun _ h _ => h, hX8⟩, by show ((n : Int) - ((i + 1 : Nat) : Int)).toNat < ((n : Int) - (i : Nat)).toNat; omega⟩
    rw [hcp, show n - i = (n - (i + 1)) + 1 by omega, copyM]
end
end Go.Proofs.Ythfnohbpdoklgaa
