/- Writers. -/
import Derived.Test.YtlbokiaolmflaaaLB3
namespace Go.Proofs.Ytlbokiaolmflaaa
open Go Go.Vc Go.RowKit
set_option maxRecDepth 100000
set_option linter.unusedVariables false
set_option linter.unusedSimpArgs false

/-- the place of bit n in its byte -/
def plc (up : Bool) (n : Nat) : Nat := if up then 7 - n % 8 else n % 8
theorem plc_lt (up : Bool) (n : Nat) : plc up n < 8 := by unfold plc; split <;> omega
theorem plc_inj {up : Bool} {n m : Nat} (h : plc up n = plc up m) : n % 8 = m % 8 := by unfold plc at h; split at h <;> omega
/-- the bytes when one bit more is written, n bits being in -/
def addBit (up : Bool) (bs : List Int) (n : Nat) (x : Int) : List Int :=
  let cs := if n % 8 = 0 then bs ++ [0] else bs
  cs.set (n / 8) (cs.getD (n / 8) 0 + x * 2 ^ plc up n)
/-- what holds of a writer's bytes: beyond its bits they are nought -/
structure WOk (up : Bool) (bs : List Int) (n : Nat) : Prop where
  fit : Bs bs
  lo : n ≤ 8 * bs.length
  hi : 8 * bs.length < n + 8
  rest : ∀ j, n ≤ j → bitAt bs up j = 0
theorem bitAt_eq (bs : List Int) (up : Bool) (i : Nat) : bitAt bs up i = (bs.getD (i / 8) 0 / 2 ^ plc up i) % 2 := rfl
theorem byte_or : ∀ v < 256, ∀ p < 8, v / 2 ^ p % 2 = 0 → v ||| 2 ^ p = v + 2 ^ p := by decide +kernel
theorem byte_le : ∀ v < 256, ∀ p < 8, v / 2 ^ p % 2 = 0 → v + 2 ^ p < 256 := by decide +kernel
theorem byte_bit : ∀ v < 256, ∀ p < 8, ∀ q < 8, v / 2 ^ p % 2 = 0 → (v + 2 ^ p) / 2 ^ q % 2 = if q = p then 1 else v / 2 ^ q % 2 := by decide +kernel
theorem getD_fit {bs : List Int} (h : Bs bs) (i : Nat) : ∃ v : Nat, bs.getD i 0 = v ∧ v < 256 := by
  by_cases hi : i < bs.length
  · rw [show bs.getD i 0 = bs[i] by simp [List.getD, hi]]
    have := h _ (List.getElem_mem hi)
    exact ⟨bs[i].toNat, by omega, by omega⟩
  · exact ⟨0, by simp [List.getD, List.getElem?_eq_none (Nat.le_of_not_lt hi)], by omega⟩
theorem WOk.nil (up : Bool) : WOk up [] 0 := ⟨fun _ h => by simp at h, by simp, by simp, fun j _ => by simp [bitAt]⟩
/-- the bytes that the bit goes into -/
def grown (bs : List Int) (n : Nat) : List Int := if n % 8 = 0 then bs ++ [0] else bs
theorem addBit_eq (up : Bool) (bs : List Int) (n : Nat) (x : Int) : addBit up bs n x = (grown bs n).set (n / 8) ((grown bs n).getD (n / 8) 0 + x * 2 ^ plc up n) := rfl
theorem bitAt_grown (up : Bool) (bs : List Int) (n j : Nat) : bitAt (grown bs n) up j = bitAt bs up j := by
  unfold grown
  split
  · simp only [bitAt_eq]
    congr 2
    by_cases h : j / 8 < bs.length
    · simp [List.getD, List.getElem?_append_left h]
    · simp only [List.getD, List.getElem?_eq_none (Nat.le_of_not_lt h), List.getElem?_append_right (Nat.le_of_not_lt h)]
      cases j / 8 - bs.length <;> simp
  · rfl
theorem WOk.wide {up : Bool} {bs : List Int} {n : Nat} (h : WOk up bs n) : Bs (grown bs n) ∧ n / 8 < (grown bs n).length ∧ (grown bs n).length = (n + 8) / 8 := by
  have h1 := h.lo
  have h2 := h.hi
  unfold grown
  split
  · refine ⟨fun x hx => ?_, by simp; omega, by simp; omega⟩
    rcases List.mem_append.1 hx with hx | hx
    · exact h.fit x hx
    · simp at hx; omega
  · exact ⟨h.fit, by omega, by omega⟩
theorem WOk.add {up : Bool} {bs : List Int} {n : Nat} {x : Int} (h : WOk up bs n) (hx : x = 0 ∨ x = 1) :
    WOk up (addBit up bs n x) (n + 1) ∧ (∀ j, bitAt (addBit up bs n x) up j = if j = n then x else bitAt bs up j) ∧ (addBit up bs n x).length = (n + 8) / 8 ∧
    ∃ v : Nat, (grown bs n).getD (n / 8) 0 = v ∧ v < 256 ∧ v / 2 ^ plc up n % 2 = 0 := by
  obtain ⟨g1, g2, g3⟩ := h.wide
  obtain ⟨v, hv, hv2⟩ := getD_fit g1 (n / 8)
  have h0 : v / 2 ^ plc up n % 2 = 0 := by
    have := h.rest n (Nat.le_refl _)
    rw [← bitAt_grown up bs n n, bitAt_eq, hv] at this
    exact_mod_cast this
  have hp := plc_lt up n
  have hget : ∀ i, (addBit up bs n x).getD i 0 = if i = n / 8 then (v : Int) + x * 2 ^ plc up n else (grown bs n).getD i 0 := by
    intro i
    rw [addBit_eq, hv]
    by_cases hi : i = n / 8
    · subst hi; simp [List.getD, g2]
    · simp [List.getD, List.getElem?_set_ne (Ne.symm hi), hi]
  have hbit : ∀ j, bitAt (addBit up bs n x) up j = if j = n then x else bitAt bs up j := by
    intro j
    rw [← bitAt_grown up bs n j, bitAt_eq, bitAt_eq, hget]
    by_cases hj : j / 8 = n / 8
    · rw [if_pos hj, hj, hv]
      rcases hx with rfl | rfl
      · rw [Int.zero_mul, Int.add_zero]
        split
        · rename_i e; subst e; exact_mod_cast h0
        · rfl
      · have := byte_bit v hv2 _ hp _ (plc_lt up j) h0
        rw [Int.one_mul]
        by_cases e : j = n
        · subst e; simp at this ⊢; exact_mod_cast this
        · rw [if_neg (fun he => e (by have := plc_inj he; omega))] at this
          rw [if_neg e]; exact_mod_cast this
    · rw [if_neg hj, if_neg (fun e => hj (by rw [e]))]
  have hlen : (addBit up bs n x).length = (n + 8) / 8 := by rw [addBit_eq, List.length_set, g3]
  refine ⟨⟨fun y hy => ?_, by omega, by omega, fun j hj => ?_⟩, hbit, hlen, v, hv, hv2, h0⟩
  · obtain ⟨i, hi, rfl⟩ := List.getElem_of_mem hy
    have e : (addBit up bs n x).getD i 0 = (addBit up bs n x)[i] := by simp [List.getD, hi]
    rw [← e, hget]
    split
    · rcases hx with rfl | rfl
      · omega
      · have := byte_le v hv2 _ hp h0
        constructor
        · have : (0 : Int) < 2 ^ plc up n := Int.pow_pos (by omega)
          omega
        · have e : ((v + 2 ^ plc up n : Nat) : Int) < 256 := by exact_mod_cast this
          simp at e; omega
    · obtain ⟨u, hu, hu2⟩ := getD_fit g1 i
      omega
  · rw [hbit, if_neg (by omega)]; exact h.rest j (by omega)
theorem WOk.align {up : Bool} {bs : List Int} {n : Nat} (h : WOk up bs n) : WOk up bs (8 * bs.length) :=
  ⟨h.fit, Nat.le_refl _, by omega, fun j hj => h.rest j (by have := h.lo; omega)⟩
theorem addBit_zero {up : Bool} {bs : List Int} {n : Nat} (hn : n % 8 ≠ 0) : addBit up bs n 0 = bs := by
  unfold addBit
  simp only [hn, if_false, Int.zero_mul, Int.add_zero]
  refine List.ext_getElem (by simp) fun i h1 h2 => ?_
  by_cases e : n / 8 = i
  · subst e; simp [List.getD, h2]
  · simp [e]
/-- a writer at block wb, its bytes in a block of S -/
structure WrAt (w : World) (q : Option Addr) (wb : Nat) (S : Nat → Prop) (bs : List Int) (n : Nat) (up : Bool) : Prop where
  ptr : q = some ⟨wb, 0, none⟩
  obj : ∃ base cap, Cs w wb [.slice base bs.length cap, i64 n, .bool up, placeF up] ∧ OwB S w base bs.length cap 1 (bytes bs)
  ne : ¬ S wb
theorem WrAt.chg {w w' : World} {q : Option Addr} {wb : Nat} {S T : Nat → Prop} {bs : List Int} {n : Nat} {up : Bool} (h : WrAt w q wb S bs n up) (hc : Chg T w w') (h1 : ¬ T wb) (h2 : ∀ i, S i → ¬ T i) : WrAt w' q wb S bs n up := by
  obtain ⟨base, cap, h3, h4⟩ := h.obj
  exact ⟨h.ptr, ⟨base, cap, h3.chg hc h1, h4.chg hc h2⟩, h.ne⟩
theorem WrAt.ext {w w' : World} {q : Option Addr} {wb : Nat} {S : Nat → Prop} {bs : List Int} {n : Nat} {up : Bool} (h : WrAt w q wb S bs n up) (hc : Ext w w') : WrAt w' q wb S bs n up :=
  h.chg (T := fun _ => False) hc.chg id (fun _ _ => id)
theorem WrAt.lt {w : World} {q : Option Addr} {wb : Nat} {S : Nat → Prop} {bs : List Int} {n : Nat} {up : Bool} (h : WrAt w q wb S bs n up) : wb < w.heap.size := by
  obtain ⟨_, _, h, _⟩ := h.obj; exact h.lt
theorem NewWriter_spec {w : World} {up : Bool} {R : Ending → World → Prop}
    (hR : ∀ wb w', Ext w w' → w.heap.size ≤ wb → WrAt w' (some ⟨wb, 0, none⟩) wb (fun _ => False) [] 0 up → R (.returned (.pointer (some ⟨wb, 0, none⟩))) w') :
    Calls P F.bits_NewWriter #[.bool up] w R := by
  refine calls_bits_NewWriter _ _ _ ?_
  refine order_spec ⟨_, _, _, rfl, fun k1 w2 hn => ?_⟩
  refine hR k1 w2 hn.ext (by rw [hn.1]; exact Nat.le_refl _) ⟨rfl, ⟨none, 0, hn.cs, OwB.nil _ _ _⟩, id⟩
theorem WBytes_spec {w : World} {q : Option Addr} {wb : Nat} {S : Nat → Prop} {bs : List Int} {n : Nat} {up : Bool} {R : Ending → World → Prop} (h : WrAt w q wb S bs n up) (hsz : bs.length ≤ 2 ^ 47)
    (hR : ∀ p k w', Ext w w' → Ow w.heap.size w'.heap.size w' p bs.length k 1 (bytes bs) → R (.returned (.slice p bs.length k)) w') : Calls P F.bits_Writer_Bytes #[.pointer q] w R := by
  refine calls_bits_Writer_Bytes _ _ _ ?_
  obtain rfl := h.ptr
  obtain ⟨base, cap, h3, h4⟩ := h.obj
  refine brB_f rfl (nn_i rfl ⟨_, _, _, h3.cell (i := 0) rfl, ?_⟩)
  exact clone_spec h4.own.sl rfl hsz fun p k w' hE ho => ⟨_, _, _, rfl, hR p k w' hE ho⟩
theorem or_byte {v : Nat} {x : Int} {p : Nat} (hv : v < 256) (hp : p < 8) (h0 : v / 2 ^ p % 2 = 0) (hx : x = 0 ∨ x = 1) :
    IntKind.u8.wrap (bitsZ .or .u8 (v : Int) (shiftZ .shl .u8 x (p : Int))) = v + x * 2 ^ p := by
  have h2 : (2 : Int) ^ p < 256 := by
    have : (2 : Nat) ^ p < 2 ^ 8 := Nat.pow_lt_pow_right (by omega) hp
    exact_mod_cast this
  have h3 : (0 : Int) < 2 ^ p := Int.pow_pos (by omega)
  rw [shiftZ_shl (by omega) (by simp [IntKind.bits]; omega), Int.toNat_natCast]
  rcases hx with rfl | rfl
  · rw [Int.zero_mul, wrap_u (x := 0) rfl (by omega) (by decide), bitsZ_or (by omega) (by simp [IntKind.bits]; omega) (by omega) (by simp [IntKind.bits])]
    simp
    exact wrap_u rfl (by omega) (by simp [IntKind.bits]; omega)
  · rw [Int.one_mul, wrap_u (x := 2 ^ p) rfl (by omega) (by simp [IntKind.bits]; omega), bitsZ_or (by omega) (by simp [IntKind.bits]; omega) (by omega) (by simp [IntKind.bits]; omega)]
    have e : ((2 : Int) ^ p).toNat = 2 ^ p := by
      have : ((2 : Int) ^ p) = ((2 ^ p : Nat) : Int) := by simp
      rw [this, Int.toNat_natCast]
    have hle := byte_le v hv p hp h0
    rw [Int.toNat_natCast, e, byte_or v hv p hp h0]
    have : ((v + 2 ^ p : Nat) : Int) < 256 := by exact_mod_cast hle
    rw [wrap_u rfl (by omega) (by simp [IntKind.bits] at this ⊢; omega)]
    simp
/-- one bit more -/
theorem one_spec {w : World} {q : Option Addr} {wb : Nat} {S : Nat → Prop} {bs : List Int} {n : Nat} {up : Bool} {x : Int} {R : Ending → World → Prop} (h : WrAt w q wb S bs n up) (hok : WOk up bs n) (hx : x = 0 ∨ x = 1) (hsz : n ≤ 2 ^ 49)
    (hR : ∀ S' w', Gr S S' w w' → Chg (fun k => k = wb ∨ S k) w w' → WrAt w' q wb S' (addBit up bs n x) (n + 1) up → R (.returned (.tuple #[])) w') : Calls P F.bits_Writer_one #[.pointer q, .int .u8 x] w R := by
  refine calls_bits_Writer_one _ _ _ _ ?_
  have hptr := h.ptr
  have hlo := hok.lo
  have hhi := hok.hi
  have hlt := h.lt
  obtain ⟨base, cap, h3, h4⟩ := h.obj
  have hrem : divZ .rem .i64 (n : Int) 8 = ((n % 8 : Nat) : Int) := by simp only [divZ]; rw [Int.tmod_eq_emod_of_nonneg (by omega)]; simp
  have hquo : divZ .quo .i64 (n : Int) 8 = ((n / 8 : Nat) : Int) := by
    simp only [divZ]
    rw [Int.tdiv_eq_ediv_of_nonneg (by omega), w64 (by omega) (by omega)]; simp
  obtain ⟨gfit, glt, glen⟩ := hok.wide
  unfold vc_bits_Writer_one
  refine ⟨fun vs w' => ∃ S', Gr S S' w w' ∧ Chg (fun k => k = wb ∨ S k) w w' ∧ WrAt w' q wb S' (grown bs n) n up, ?_, fun w3 hI => ?_⟩
  · refine nn_i hptr ⟨_, h3.cell (i := 1) rfl, ?_⟩
    rw [hrem]
    refine brB_i (fun h0 => ?_) (fun h0 => ?_)
    · have h0 : n % 8 = 0 := by
        have : ((n % 8 : Nat) : Int) = 0 := by simpa using h0
        omega
      refine nn_i hptr ⟨_, _, _, h3.cell (i := 0) rfl, fun k3 hk3 w1 hL => ?_⟩
      have hE1 : Ext w w1 := hL.ext (by simp; omega)
      refine (h4.ext hE1).app (by simp [blocks]; exact fun hS => by have := h4.bd _ hS; omega) rfl rfl (by omega) (by omega) fun S' p' c' w2 hg ho hc => ?_
      have h3' := (h3.ext hE1).chg hc h.ne
      refine nn_i hptr ⟨⟨_, h3'.cell (i := 0) rfl⟩, h3'.frozen 0, by simp; omega, ?_⟩
      have hset := Chg.setCells w2 ⟨wb, 0, none⟩ [.slice p' (bs.length + 1) c'] 0
      have hg' := hg.pre hE1.size
      have hne : ¬ S' wb := fun hS => by
        rcases hg'.2 _ hS with hS | hS
        · exact h.ne hS
        · omega
      have e : grown bs n = bs ++ [0] := by simp [grown, h0]
      refine ⟨S', hg'.size hset.size, ((hE1.chg.trans hc fun i hi _ => .inr hi).trans hset fun i hi _ => .inl hi), hptr, ⟨p', c', ?_, ?_⟩, hne⟩
      · have := h3'.set1 (off := 0) (v := .slice p' (bs.length + 1) c') (by simp)
        rw [e]; simpa using this
      · rw [e, bytes_append, List.length_append]
        exact ho.chg hset fun i hi e => hne (by have e : i = wb := e; rwa [e] at hi)
    · have h0 : n % 8 ≠ 0 := by
        have : ((n % 8 : Nat) : Int) ≠ 0 := by simpa using h0
        omega
      have e : grown bs n = bs := by simp [grown, h0]
      exact ⟨S, Gr.refl _ _, Chg.refl _ _, by rw [e]; exact h⟩
  · obtain ⟨S', hg, hc, h'⟩ := hI
    obtain ⟨base', cap', h5, h6⟩ := h'.obj
    obtain ⟨hok', _, hlen', v, hv, hv2, hv0⟩ := hok.add hx
    have hp := plc_lt up n
    refine nn_i hptr ⟨_, _, _, h5.drew.cell (i := 0) rfl, nn_i hptr ⟨_, h5.drew.cell (i := 1) rfl, ?_⟩⟩
    rw [hquo]
    refine (h6.own.sl.drew).get (by omega) (bytes_length _) (bytes_get (by rw [Int.toNat_natCast]; exact glt)) fun a6 hc6 => ⟨_, hc6, nn_i hptr ⟨_, _, _, h5.drew.cell (i := 3) rfl, nn_i hptr ⟨_, h5.drew.cell (i := 1) rfl, ?_⟩⟩⟩
    refine placeF_calls (by omega) (by omega) ⟨_, rfl, Keeps.refl _, ?_⟩
    have hpl : placeOf up n = (plc up n : Int) := by unfold placeOf plc; split <;> omega
    obtain ⟨b, rfl, hSb, hblt⟩ := h6.own.base (by omega)
    rw [hpl]
    have hown : OwnS S' w3.drew (some ⟨b, 0, none⟩) (grown bs n).length cap' 1 (bytes (grown bs n)) := h6.own
    obtain ⟨hu, hf, hw⟩ := hown.write (i := n / 8) glt
    have hne : b ≠ wb := fun e => h'.ne (e ▸ hSb)
    refine ⟨by omega, idx_i (a := ⟨b, 0, none⟩) (by omega) (by omega) rfl ?_⟩
    have ea : (⟨b, 0, none⟩ : Addr).add ((↑(n / 8) : Int).toNat * 1) = ⟨b, n / 8, none⟩ := by rw [loc_add, Int.toNat_natCast]; simp
    rw [ea]
    refine ⟨hu, hf, ?_⟩
    rw [Int.toNat_natCast, hv, or_byte hv2 hp hv0 hx]
    obtain ⟨ho, hc7⟩ := hw (u8 (v + x * 2 ^ plc up n))
    have h7 := h5.drew.chg hc7 (fun e => hne e.symm)
    refine nn_i hptr ⟨_, h7.cell (i := 1) rfl, nn_i hptr ⟨⟨_, h7.cell (i := 1) rfl⟩, h7.frozen 1, ?_⟩⟩
    rw [w64 (x := (n : Int) + 1) (by omega) (by omega)]
    have hset := Chg.setCells (setCells w3.drew ⟨b, n / 8, none⟩ [u8 (v + x * 2 ^ plc up n)] 0) ⟨wb, 1, none⟩ [i64 ((n : Int) + 1)] 0
    have e1 : bytes (addBit up bs n x) = (bytes (grown bs n)).set (n / 8) (u8 (v + x * 2 ^ plc up n)) := by
      rw [addBit_eq, hv]; simp [bytes]
    have e2 : (addBit up bs n x).length = (grown bs n).length := by rw [hlen', glen]
    have hcc : Chg (fun k => k = wb ∨ S k) w (setCells (setCells w3.drew ⟨b, n / 8, none⟩ [u8 (v + x * 2 ^ plc up n)] 0) ⟨wb, 1, none⟩ [i64 ((n : Int) + 1)] 0) := by
      refine (hc.drew.trans hc7 fun i hi hlt => ?_).trans hset fun i hi _ => .inl hi
      have hi : i = b := hi
      subst hi
      rcases hg.2 _ hSb with h | h
      · exact .inr h
      · omega
    have hs3 : w3.heap.size ≤ (setCells (setCells w3.drew ⟨b, n / 8, none⟩ [u8 (v + x * 2 ^ plc up n)] 0) ⟨wb, 1, none⟩ [i64 ((n : Int) + 1)] 0).heap.size := Nat.le_trans (show w3.drew.heap.size ≤ _ from hc7.size) hset.size
    refine hR S' _ (hg.size hs3) hcc ⟨hptr, ⟨some ⟨b, 0, none⟩, cap', ?_, ?_⟩, h'.ne⟩
    · have := h7.set1 (off := 1) (v := i64 ((n : Int) + 1)) (by simp)
      rw [e2]
      exact this
    · rw [e1, e2]
      refine ⟨ho.chg hset fun i hi _ e => h'.ne (by have e : i = wb := e; rwa [e] at hi), fun i hi => Nat.lt_of_lt_of_le (h6.bd i hi) hs3⟩
end Go.Proofs.Ytlbokiaolmflaaa
