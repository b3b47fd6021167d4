/- Readers: the rest, and the document's. -/
import Derived.Test.YthfnohbpdoklgaaIR2
namespace Go.Proofs.Ythfnohbpdoklgaa
open Go Go.Vc Go.RowKit
set_option maxRecDepth 100000
set_option linter.unusedVariables false
set_option linter.unusedSimpArgs false

theorem Place_spec {w : World} {q : Option Addr} {rb : Nat} {S : Nat → Prop} {bs : List Int} {k : Int} {up : Bool} {R : Ending → World → Prop} (h : RdAt w q rb S bs k up)
    (hR : R (.returned (i64 k)) w) : Calls P F.bits_Reader_Place #[.pointer q] w R := by
  refine calls_bits_Reader_Place _ _ _ ?_
  obtain rfl := h.ptr
  obtain ⟨base, cap, h3, h4⟩ := h.obj
  exact brB_f rfl (nn_i rfl ⟨_, h3.cell (i := 1) rfl, hR⟩)
theorem border_spec {w : World} {q : Option Addr} {rb : Nat} {S : Nat → Prop} {bs : List Int} {k : Int} {up : Bool} {R : Ending → World → Prop} (h : RdAt w q rb S bs k up)
    (hR : R (.returned (i64 ((k + 7) / 8))) w) : Calls P F.bits_Reader_border #[.pointer q] w R := by
  refine calls_bits_Reader_border _ _ _ ?_
  have hroom := h.room
  have hlo := h.lo
  have hhi := h.hi
  obtain rfl := h.ptr
  obtain ⟨base, cap, h3, h4⟩ := h.obj
  refine nn_i rfl ⟨_, h3.cell (i := 1) rfl, ?_⟩
  rw [w64 (x := k + 7) (by omega) (by omega)]
  simp only [divZ]
  rw [Int.tdiv_eq_ediv_of_nonneg (by omega), w64 (by omega) (by omega)]
  exact hR
theorem RdAt.put {w : World} {q : Option Addr} {rb : Nat} {S : Nat → Prop} {bs : List Int} {k m : Int} {up : Bool} (h : RdAt w q rb S bs k up) (h0 : 0 ≤ m) (h1 : m ≤ 8 * bs.length) :
    RdAt (setCells w ⟨rb, 1, none⟩ [i64 m] 0) q rb S bs m up ∧ Chg (· = rb) w (setCells w ⟨rb, 1, none⟩ [i64 m] 0) := by
  obtain ⟨base, cap, h3, h4⟩ := h.obj
  have hset := Chg.setCells w ⟨rb, 1, none⟩ [i64 m] 0
  exact ⟨⟨h.ptr, ⟨base, cap, h3.set1 (off := 1) (v := i64 m) (by simp), h4.chg hset (fun b hb _ e => h.ne (by have e : b = rb := e; rwa [e] at hb))⟩, h.ne, h.room, h.fit, h0, h1⟩, hset⟩
theorem Align_spec {w : World} {q : Option Addr} {rb : Nat} {S : Nat → Prop} {bs : List Int} {k : Int} {up : Bool} {R : Ending → World → Prop} (h : RdAt w q rb S bs k up)
    (hR : ∀ w', Chg (· = rb) w w' → RdAt w' q rb S bs (8 * ((k + 7) / 8)) up → R (.returned (.tuple #[])) w') : Calls P F.bits_Reader_Align #[.pointer q] w R := by
  refine calls_bits_Reader_Align _ _ _ ?_
  have hroom := h.room
  have hlo := h.lo
  have hhi := h.hi
  have hptr := h.ptr
  obtain ⟨base, cap, h3, h4⟩ := h.obj
  refine brB_t (by rw [hptr]; rfl) (border_spec h ⟨_, rfl, nn_i hptr ⟨⟨_, h3.cell (i := 1) rfl⟩, h3.frozen 1, ?_⟩⟩)
  rw [w64 (by omega) (by omega)]
  obtain ⟨p1, p2⟩ := h.put (m := 8 * ((k + 7) / 8)) (by omega) (by omega)
  exact hR _ p2 p1
theorem order_spec {up : Bool} {w : World} {R : Ending → World → Prop} (hR : R (.returned (placeF up)) w) : Calls P F.bits_order #[.bool up] w R := by
  refine calls_bits_order _ _ _ ?_
  cases up
  · exact brB_f rfl hR
  · exact brB_t rfl hR
theorem NewReader_spec {N : Nat} {w : World} {base : Option Addr} {len cap : Nat} {bs : List Int} {up : Bool} {R : Ending → World → Prop} (h : Sl N w base (bytes bs)) (hl : len = bs.length) (hsz : len ≤ 2 ^ 47) (hf : Bs bs)
    (hR : ∀ rb w', Ext w w' → w.heap.size ≤ rb → RdAt w' (some ⟨rb, 0, none⟩) rb (fun i => w.heap.size ≤ i ∧ i < rb) bs 0 up → R (.returned (.pointer (some ⟨rb, 0, none⟩))) w') :
    Calls P F.bits_NewReader #[.slice base len cap, .bool up] w R := by
  refine calls_bits_NewReader _ _ _ _ _ _ ?_
  refine clone_spec h hl hsz fun p c w1 hE1 ho => ⟨_, _, _, rfl, ?_⟩
  refine order_spec ⟨_, _, _, rfl, fun k3 w3 hn => ?_⟩
  have hs := hE1.size
  have hk : k3 = w1.heap.size := hn.1
  refine hR k3 w3 (hE1.trans hn.ext) (by omega) ⟨rfl, ⟨p, c, ?_, ?_⟩, fun hh => Nat.lt_irrefl _ hh.2, by omega, hf, Int.le_refl _, by omega⟩
  · rw [← hl]; exact hn.cs
  · rw [← hl]
    exact ((ho.ext hn.ext).ownS).mono fun i hi _ => ⟨hi.1, by omega⟩

/-! ## The document's readers -/
theorem refBit_spec {N : Nat} {w : World} {base : Option Addr} {len cap : Nat} {bs : List Int} {up : Bool} {i : Int} {R : Ending → World → Prop} (h : Sl N w base (bytes bs)) (hl : len = bs.length) (hf : Bs bs) (h0 : 0 ≤ i) (h1 : i < 8 * bs.length) (hsz : len ≤ 2 ^ 47)
    (hR : R (.returned (.int .u32 (bitAt bs up i.toNat))) w) : Calls P F.ref01_bit #[.slice base len cap, .bool up, i64 i] w R := by
  refine calls_ref01_bit _ _ _ _ _ _ _ ?_
  have hdiv : divZ .quo .i64 i 8 = i / 8 := by
    simp only [divZ]
    rw [Int.tdiv_eq_ediv_of_nonneg h0, w64 (by omega) (by omega)]
  have hrem : divZ .rem .i64 i 8 = i % 8 := by simp only [divZ]; exact Int.tmod_eq_emod_of_nonneg h0
  have hlt : (i / 8).toNat < bs.length := by omega
  have hb : 0 ≤ bs.getD (i / 8).toNat 0 ∧ bs.getD (i / 8).toNat 0 ≤ 255 := by
    rw [show bs.getD (i / 8).toNat 0 = bs[(i / 8).toNat] by simp [List.getD, hlt]]
    exact hf _ (List.getElem_mem hlt)
  have key : ∀ v p : Int, 0 ≤ v → v ≤ 255 → 0 ≤ p → p ≤ 7 → divZ .rem .u32 (shiftZ .shr .u32 (IntKind.u32.wrap v) p) 2 = (v / 2 ^ p.toNat) % 2 := by
    intro v p v0 v1 p0 p1
    have hq0 : 0 ≤ v / 2 ^ p.toNat := Int.ediv_nonneg v0 (Int.le_of_lt (Int.pow_pos (by omega)))
    rw [wrap_u (x := v) rfl v0 (by simp [IntKind.bits]; omega), shiftZ_shr v0 p0 (by simp [IntKind.bits]; omega)]
    simp only [divZ]
    exact Int.tmod_eq_emod_of_nonneg hq0
  unfold vc_ref01_bit
  rw [hdiv, hrem, w64 (x := 7 - i % 8) (by omega) (by omega), u64_nn (x := 7 - i % 8) (by omega) (by omega), u64_nn (x := i % 8) (by omega) (by omega)]
  have hba : bitAt bs up i.toNat = (bs.getD (i / 8).toNat 0 / 2 ^ (placeOf up i).toNat) % 2 := by
    unfold bitAt
    rw [show i.toNat / 8 = (i / 8).toNat by omega]
    congr 2
    congr 1
    unfold placeOf
    cases up <;> simp <;> omega
  refine brB_i (fun hu => ?_) (fun hu => ?_)
  · subst hu
    refine h.get (by omega) (by rw [bytes_length]; omega) (bytes_get hlt) fun a hc => ⟨_, hc, by omega, ?_⟩
    rw [key _ _ hb.1 hb.2 (by omega) (by omega)]
    rw [hba] at hR; exact hR
  · subst hu
    refine h.get (by omega) (by rw [bytes_length]; omega) (bytes_get hlt) fun a hc => ⟨_, hc, by omega, ?_⟩
    rw [key _ _ hb.1 hb.2 (by omega) (by omega)]
    rw [hba] at hR; exact hR
theorem refLeft_spec {w : World} {base : Option Addr} {len cap : Nat} {up : Bool} {k : Int} {R : Ending → World → Prop} (hsz : len ≤ 2 ^ 47) (h0 : 0 ≤ k) (h1 : k ≤ 8 * len)
    (hR : ∀ w', Ext w w' → R (.returned (i64 (8 * len - k))) w') : Calls P F.ref01_Left #[.agg #[.slice base len cap, .bool up, i64 k]] w R := by
  refine calls_ref01_Left _ _ _ _ _ _ _ ?_
  intro k1 hk1 w1 hL1
  rw [w64 (x := 8 * (len : Int)) (by omega) (by omega), w64 (by omega) (by omega)]
  exact hR w1 (hL1.ext (by simpa using hk1))
theorem refTake_spec {N : Nat} {w : World} {base : Option Addr} {len cap : Nat} {bs : List Int} {up : Bool} {k n : Int} {R : Ending → World → Prop} (h : Sl N w base (bytes bs)) (hl : len = bs.length) (hf : Bs bs) (hsz : len ≤ 2 ^ 47) (h0 : 0 ≤ k) (hk : k ≤ 8 * len)
    (h1 : n < 0 ∨ n > 32 → ∀ w', Ext w w' → R (.returned (.tuple #[.agg #[.slice base len cap, .bool up, i64 k], .int .u32 0, i64 2])) w')
    (h2 : 0 ≤ n → n ≤ 32 → n > 8 * bs.length - k → ∀ w', Ext w w' → R (.returned (.tuple #[.agg #[.slice base len cap, .bool up, i64 k], .int .u32 0, i64 5])) w')
    (h3 : 0 ≤ n → n ≤ 32 → n ≤ 8 * bs.length - k → ∀ w', Ext w w' → R (.returned (.tuple #[.agg #[.slice base len cap, .bool up, i64 (k + n)], .int .u32 (takeV bs up k.toNat n.toNat), i64 0])) w') :
    Calls P F.ref01_Take #[.agg #[.slice base len cap, .bool up, i64 k], i64 n] w R := by
  refine calls_ref01_Take _ _ _ _ _ _ _ _ ?_
  intro k1 hk1 k2 hk2
  refine brB_i (fun hb w1 hL => h1 (by simpa using hb) w1 (hL.ext (by simp; omega))) (fun hb w2 hL2 => ?_)
  have hb : 0 ≤ n ∧ n ≤ 32 := by simpa using hb
  have hE2 : Ext w w2 := hL2.ext (by simp; omega)
  refine refLeft_spec hsz h0 hk fun w3 hE3 => ⟨_, rfl, hE3.keep _, ?_⟩
  have hE3' := hE2.trans hE3
  rw [hl]
  refine brB_i (fun hgt w4 hL4 => h2 hb.1 hb.2 (by simpa using hgt) w4 (hE3'.step hL4.chg (by simp; omega)) |> fun x => by rwa [hl] at x) (fun hle => ?_)
  have hle : n ≤ 8 * bs.length - k := by simpa using hle
  refine ⟨fun l w' => match l with | [.int _ v, .int _ i] => 0 ≤ i ∧ i ≤ n ∧ v = takeV bs up k.toNat i.toNat ∧ Ext w w' | _ => False,
    fun l _ => match l with | [.int _ _, .int _ i] => (n - i).toNat | _ => 0, ⟨Int.le_refl _, hb.1, rfl, hE3'⟩, fun v i w5 hI => ?_⟩
  obtain ⟨i0, i1, hv, hE5⟩ := hI
  refine brB_i (fun hlt => ?_) (fun hge w8 hL8 => ?_)
  · have hlt : i < n := by simpa using hlt
    refine ⟨fun l w' => match l with | [.int _ v'] => v' = takeV bs up k.toNat (i.toNat + 1) ∧ Ext w w' | _ => False, ?_, fun v' w7 hI => ?_⟩
    · rw [w64 (x := k + i) (by omega) (by omega)]
      refine refBit_spec (h.ext hE5) rfl hf (by omega) (by omega) (by omega) ⟨_, rfl, (Ext.refl _).keep _, ?_⟩
      have hr := takeV_range bs up k.toNat i.toNat
      have hr1 := takeV_range bs up k.toNat (i.toNat + 1)
      have hki : (k + i).toNat = k.toNat + i.toNat := by omega
      have hpow : (2 : Int) ^ (i.toNat + 1) ≤ 2 ^ 32 := by
        have : (2 : Nat) ^ (i.toNat + 1) ≤ 2 ^ 32 := Nat.pow_le_pow_right (by omega) (by omega)
        exact_mod_cast this
      have hba := bitAt_range bs up (k.toNat + i.toNat)
      rw [hki]
      refine brB_i (fun hu => ⟨?_, hE5⟩) (fun hu => ⟨by rw [u64_nn i0 (by omega)]; exact i0, ?_, hE5⟩)
      · subst hu
        have e2 : 2 * v + bitAt bs true (k.toNat + i.toNat) = takeV bs true k.toNat (i.toNat + 1) := by rw [hv, takeV, if_pos rfl]
        rw [wrap_u (x := 2 * v) rfl (by omega) (by simp [IntKind.bits]; omega), e2]
        exact wrap_u rfl hr1.1 (by simp [IntKind.bits]; omega)
      · subst hu
        have e2 : v + bitAt bs false (k.toNat + i.toNat) * 2 ^ i.toNat = takeV bs false k.toNat (i.toNat + 1) := by rw [hv, takeV, if_neg (by simp)]
        have hpi : (0 : Int) < 2 ^ i.toNat := Int.pow_pos (by omega)
        have hb2 : 0 ≤ bitAt bs false (k.toNat + i.toNat) * 2 ^ i.toNat := Int.mul_nonneg hba.1 (by omega)
        rw [u64_nn i0 (by omega), shiftZ_shl i0 (by simp [IntKind.bits]; omega), wrap_u (x := bitAt bs false (k.toNat + i.toNat) * 2 ^ i.toNat) rfl hb2 (by simp [IntKind.bits]; omega), e2]
        exact wrap_u rfl hr1.1 (by simp [IntKind.bits]; omega)
    · obtain ⟨rfl, hE7⟩ := hI
      rw [w64 (x := i + 1) (by omega) (by omega)]
      refine ⟨⟨by omega, by omega, by rw [show (i + 1).toNat = i.toNat + 1 by omega], hE7⟩, ?_⟩
      show (n - (i + 1)).toNat < (n - i).toNat
      omega
  · have hge : i = n := by simp at hge; omega
    subst hge
    subst hv
    rw [w64 (x := k + i) (by omega) (by omega)]
    have := h3 hb.1 hb.2 hle w8 (hE5.step hL8.chg (by simp; omega))
    rwa [hl] at this
end Go.Proofs.Ythfnohbpdoklgaa
