/- A reader's Take. -/
import Derived.Test.YthfnohbpdoklgaaIR1
namespace Go.Proofs.Ythfnohbpdoklgaa
open Go Go.Vc Go.RowKit
set_option maxRecDepth 100000
set_option linter.unusedVariables false
set_option linter.unusedSimpArgs false

theorem placeOf_range (up : Bool) (i : Int) : 0 ≤ placeOf up i ∧ placeOf up i ≤ 7 := by unfold placeOf; split <;> omega
theorem bit_val {bs : List Int} (hf : Bs bs) {up : Bool} {i : Int} (h0 : 0 ≤ i) (h1 : i < 8 * bs.length) :
    IntKind.u32.wrap (bitsZ .and .u32 (IntKind.u32.wrap (shiftZ .shr .u8 (bs.getD (i / 8).toNat 0) (placeOf up i))) 1) = bitAt bs up i.toNat := by
  have hlt : (i / 8).toNat < bs.length := by omega
  have hb : 0 ≤ bs.getD (i / 8).toNat 0 ∧ bs.getD (i / 8).toNat 0 ≤ 255 := by
    rw [show bs.getD (i / 8).toNat 0 = bs[(i / 8).toNat] by simp [List.getD, hlt]]
    exact hf _ (List.getElem_mem hlt)
  have hp := placeOf_range up i
  generalize hv : bs.getD (i / 8).toNat 0 = v at hb
  have hpow : (0 : Int) < 2 ^ (placeOf up i).toNat := Int.pow_pos (by omega)
  have hq0 : 0 ≤ v / 2 ^ (placeOf up i).toNat := Int.ediv_nonneg hb.1 (Int.le_of_lt hpow)
  have hq1 : v / 2 ^ (placeOf up i).toNat ≤ 255 := Int.le_trans (Int.ediv_le_self _ hb.1) hb.2
  rw [shiftZ_shr hb.1 hp.1 (by simp [IntKind.bits]; omega), wrap_u (x := v / _) rfl hq0 (by simp [IntKind.bits]; omega), bitsZ_and1 hq0 (by simp [IntKind.bits]; omega), wrap_u rfl (by omega) (by simp [IntKind.bits]; omega)]
  unfold bitAt
  rw [show i.toNat / 8 = (i / 8).toNat by omega, hv]
  congr 2
  congr 1
  unfold placeOf
  cases up <;> simp <;> omega
theorem Take_spec {w : World} {q : Option Addr} {rb : Nat} {S : Nat → Prop} {bs : List Int} {k n : Int} {up : Bool} {R : Ending → World → Prop} (h : RdAt w q rb S bs k up)
    (h1 : n < 0 ∨ n > 32 → R (.returned (.tuple #[.int .u32 0, i64 2])) w)
    (h2 : 0 ≤ n → n ≤ 32 → n > 8 * bs.length - k → R (.returned (.tuple #[.int .u32 0, i64 5])) w.drew)
    (h3 : 0 ≤ n → n ≤ 32 → n ≤ 8 * bs.length - k → ∀ w', Chg (· = rb) w w' → RdAt w' q rb S bs (k + n) up → R (.returned (.tuple #[.int .u32 (takeV bs up k.toNat n.toNat), i64 0])) w') :
    Calls P F.bits_Reader_Take #[.pointer q, i64 n] w R := by
  refine calls_bits_Reader_Take _ _ _ _ ?_
  have hroom := h.room
  have hlo := h.lo
  have hptr := h.ptr
  unfold vc_bits_Reader_Take
  refine brB_f (by rw [hptr]; rfl) (brB_i (fun hb => h1 (by simpa using hb)) (fun hb => ?_))
  have hb : 0 ≤ n ∧ n ≤ 32 := by simpa using hb
  refine Left_spec h ⟨_, rfl, brB_i (fun hgt => h2 hb.1 hb.2 (by simpa using hgt)) (fun hle => ?_)⟩
  have hle : n ≤ 8 * bs.length - k := by simpa using hle
  refine ⟨fun l w' => match l with | [.int _ v, .int _ i] => 0 ≤ i ∧ i ≤ n ∧ v = takeV bs up k.toNat i.toNat ∧ Chg (· = rb) w w' ∧ RdAt w' q rb S bs (k + i) up | _ => False,
    fun l _ => match l with | [.int _ _, .int _ i] => (n - i).toNat | _ => 0, ⟨Int.le_refl _, hb.1, rfl, (Chg.refl _ w).drew, by rw [Int.add_zero]; exact h.ext (Ext.refl w).drew⟩, fun v i w2 hI => ?_⟩
  obtain ⟨i0, i1, hv, hc2, hr2⟩ := hI
  refine brB_i (fun hlt => ?_) (fun hge => ?_)
  · have hlt : i < n := by simpa using hlt
    obtain ⟨base, cap, h4, h5⟩ := hr2.obj
    have hdiv : divZ .quo .i64 (k + i) 8 = (k + i) / 8 := by
      simp only [divZ]
      rw [Int.tdiv_eq_ediv_of_nonneg (by omega), w64 (by omega) (by omega)]
    refine ⟨fun l w' => match l with | [.int _ v'] => v' = takeV bs up k.toNat (i.toNat + 1) ∧ Chg (· = rb) w w' ∧ RdAt w' q rb S bs (k + i + 1) up | _ => False, ?_, fun v' w4 hI => ?_⟩
    · refine nn_i hptr ⟨_, _, _, h4.drew.cell (i := 0) rfl, nn_i hptr ⟨_, h4.drew.cell (i := 1) rfl, ?_⟩⟩
      rw [hdiv]
      refine (h5.sl.drew).get (by omega) (bytes_length _) (bytes_get (by omega)) fun a3 hc3 => ⟨_, hc3, nn_i hptr ⟨_, _, _, h4.drew.cell (i := 3) rfl, nn_i hptr ⟨_, h4.drew.cell (i := 1) rfl, ?_⟩⟩⟩
      have hp := placeOf_range up (k + i)
      refine placeF_calls (by omega) (by omega) ⟨_, rfl, Keeps.refl _, hp.1, nn_i hptr ⟨_, h4.drew.cell (i := 1) rfl, nn_i hptr ⟨⟨_, h4.drew.cell (i := 1) rfl⟩, h4.drew.frozen 1, nn_i hptr ⟨up, ?_, ?_⟩⟩⟩⟩
      · exact (h4.drew.set1 (off := 1) (v := i64 (IntKind.i64.wrap (k + i + 1))) (by simp)).cell (i := 2) rfl
      · have hset := Chg.setCells w2.drew ⟨rb, 1, none⟩ [i64 (IntKind.i64.wrap (k + i + 1))] 0
        have hc2' : Chg (· = rb) w (setCells w2.drew ⟨rb, 1, none⟩ [i64 (IntKind.i64.wrap (k + i + 1))] 0) := hc2.drew.trans hset fun j hj _ => hj
        have hr' : RdAt (setCells w2.drew ⟨rb, 1, none⟩ [i64 (IntKind.i64.wrap (k + i + 1))] 0) q rb S bs (k + i + 1) up := by
          refine ⟨hptr, ⟨base, cap, ?_, OwnS.chg (w := w2.drew) h5 hset (fun b hb _ e => h.ne (by have e : b = rb := e; rwa [e] at hb))⟩, h.ne, h.room, h.fit, by omega, by omega⟩
          have := h4.drew.set1 (off := 1) (v := i64 (IntKind.i64.wrap (k + i + 1))) (by simp)
          rw [w64 (x := k + i + 1) (by omega) (by omega)] at this ⊢
          exact this
        have hbit := bit_val h.fit (up := up) (i := k + i) (by omega) (by omega)
        have hr := takeV_range bs up k.toNat i.toNat
        have hr1 := takeV_range bs up k.toNat (i.toNat + 1)
        have hba := bitAt_range bs up (k + i).toNat
        have hki : (k + i).toNat = k.toNat + i.toNat := by omega
        have hpow : (2 : Int) ^ (i.toNat + 1) ≤ 2 ^ 32 := by
          have : (2 : Nat) ^ (i.toNat + 1) ≤ 2 ^ 32 := Nat.pow_le_pow_right (by omega) (by omega)
          exact_mod_cast this
        rw [hbit]
        refine brB_i (fun hu => ⟨?_, hc2', hr'⟩) (fun hu => ⟨i0, ?_, hc2', hr'⟩)
        · subst hu
          rw [hki] at hba ⊢
          have e1 : IntKind.u32.wrap (v * 2 ^ (1 : Int).toNat) = 2 ^ 1 * v := by
            rw [show (1 : Int).toNat = 1 by rfl, Int.pow_succ] at *
            rw [wrap_u rfl (by omega) (by simp [IntKind.bits]; omega)]; omega
          have e2 : (2 : Int) ^ 1 * v + bitAt bs true (k.toNat + i.toNat) = takeV bs true k.toNat (i.toNat + 1) := by rw [hv, takeV, if_pos rfl]; omega
          rw [shiftZ_shl (by omega) (by simp [IntKind.bits]), e1, bitsZ_orAdd (by omega) (by rw [e2]; simp [IntKind.bits]; omega) hba.1 (by omega), e2]
          exact wrap_u rfl hr1.1 (by simp [IntKind.bits]; omega)
        · subst hu
          rw [hki] at hba ⊢
          have hpi : (0 : Int) < 2 ^ i.toNat := Int.pow_pos (by omega)
          have hb2 : 0 ≤ 2 ^ i.toNat * bitAt bs false (k.toNat + i.toNat) ∧ 2 ^ i.toNat * bitAt bs false (k.toNat + i.toNat) ≤ 2 ^ i.toNat := by
            rcases (by omega : bitAt bs false (k.toNat + i.toNat) = 0 ∨ bitAt bs false (k.toNat + i.toNat) = 1) with e | e <;> rw [e] <;> omega
          have e2 : 2 ^ i.toNat * bitAt bs false (k.toNat + i.toNat) + v = takeV bs false k.toNat (i.toNat + 1) := by
            rw [hv, takeV, if_neg (by simp), Int.mul_comm]; omega
          rw [Int.pow_succ] at hpow
          rw [shiftZ_shl i0 (by simp [IntKind.bits]; omega), Int.mul_comm, wrap_u (x := 2 ^ i.toNat * _) rfl hb2.1 (by simp [IntKind.bits]; omega)]
          rw [show bitsZ .or .u32 v (2 ^ i.toNat * bitAt bs false (k.toNat + i.toNat)) = bitsZ .or .u32 (2 ^ i.toNat * bitAt bs false (k.toNat + i.toNat)) v by simp [bitsZ, BitVec.or_comm]]
          rw [bitsZ_orAdd hba.1 (by rw [e2]; simp [IntKind.bits]; omega) (by omega) (by rw [hv]; exact hr.2), e2]
          exact wrap_u rfl hr1.1 (by simp [IntKind.bits]; omega)
    · obtain ⟨rfl, hc4, hr4⟩ := hI
      rw [w64 (x := i + 1) (by omega) (by omega)]
      refine ⟨⟨by omega, by omega, by rw [show (i + 1).toNat = i.toNat + 1 by omega], hc4, by rw [← Int.add_assoc]; exact hr4⟩, ?_⟩
      show (n - (i + 1)).toNat < (n - i).toNat
      omega
  · have hge : i = n := by simp at hge; omega
    subst hge
    subst hv
    exact h3 hb.1 hb.2 hle w2 hc2 hr2
end Go.Proofs.Ythfnohbpdoklgaa
