/- Inflate: decoders of lengths that may be; the fixed ones. -/
import Derived.Test.YthfnohbpdoklgaaIX7
namespace Go.Proofs.Ythfnohbpdoklgaa
open Go Go.Vc Go.RowKit
set_option maxRecDepth 100000
set_option linter.unusedVariables false
set_option linter.unusedSimpArgs false
set_option maxHeartbeats 2000000

theorem on_nz (l : List Nat) : ∀ i, onU l i ≤ nzU l i
  | 0 => Nat.le_refl _
  | i + 1 => by
    have := on_nz l i
    rw [onU, nzU]
    split <;> split <;> omega
theorem nz_le (l : List Nat) : ∀ i, nzU l i ≤ i
  | 0 => Nat.le_refl _
  | i + 1 => by
    have := nz_le l i
    rw [nzU]
    split <;> omega
theorem room_none {l : List Nat} : ∀ i, nzU l i = 0 → roomU l i = 65536
  | 0, _ => rfl
  | i + 1, h => by
    rw [nzU] at h
    split at h
    · rename_i e
      rw [roomU, if_neg (by omega), room_none i (by omega)]
    · omega
theorem room_one {l : List Nat} : ∀ i, nzU l i = 1 → onU l i = 1 → roomU l i = 32768
  | 0, h, _ => by cases h
  | i + 1, h, h2 => by
    rw [nzU] at h
    rw [onU] at h2
    have := on_nz l i
    split at h
    · rename_i e
      rw [roomU, if_neg (by omega), room_one i (by omega) (by rw [if_neg (by omega)] at h2; omega)]
    · rename_i e
      have e1 : l.getD i 0 = 1 := by
        split at h2
        · assumption
        · omega
      rw [roomU, if_pos (by omega), room_none i (by omega), e1]; rfl
theorem code_spec {N : Nat} {w : World} {p : Option Addr} {len cap : Nat} {l : List Nat} {b : Bool} {R : Ending → World → Prop} (h : Sl N w p (ni l)) (hl : l.length = len) (hk : Lens l)
    (hok : mayM l b = true → ∀ kd w', Ext w w' → DecAt w' kd (fun i => w.heap.size ≤ i) l → R (.returned (.pointer (some ⟨kd, 0, none⟩))) w')
    (herr : mayM l b = false → R (.panicked (brk 41)) w) : Calls P F.inflate_code #[.slice p len cap, .bool b] w R := by
  subst hl
  have hfew := hk.few
  refine calls_inflate_code _ _ _ _ _ _ ?_
  refine Room_spec h rfl hk ⟨_, _, rfl, ?_⟩
  refine ⟨fun vs u => u = w ∧ ∃ (i : Nat) (c : Bool), i ≤ l.length ∧ vs = [i64 (nzU l i : Nat), .bool c, i64 (i : Nat)] ∧ (nzU l i = 1 → c = decide (onU l i = 1)), fun vs _ => match vs with | [_, _, .int _ i] => (l.length - i).toNat | _ => 0, ⟨rfl, 0, false, by omega, rfl, fun h => by cases h⟩, fun n3 c1 n4 w2 hI => ?_⟩
  obtain ⟨rfl, i, c, hi, hv, hc⟩ := hI
  simp only [List.cons.injEq, Value.int.injEq, Value.bool.injEq, true_and, and_true] at hv
  obtain ⟨rfl, rfl, rfl⟩ := hv
  have hnz := nz_le l i
  refine brB_i (fun hlt => ?_) fun hge => ?_
  · have hlt : i < l.length := by have := of_decide_eq_true hlt; omega
    refine ⟨fun vs u => u = w2 ∧ ∃ c : Bool, vs = [i64 (nzU l (i + 1) : Nat), .bool c] ∧ (nzU l (i + 1) = 1 → c = decide (onU l (i + 1) = 1)), ?_, fun n6 c2 w3 hI => ?_⟩
    · refine h.get (by omega) (ni_length l) (by rw [Int.toNat_natCast]; exact ni_get hlt) fun a ha => ⟨_, ha, ?_⟩
      have hon := on_nz l i
      refine brB_i (fun h0 => ?_) fun h0 => ?_
      · have h0 : l.getD i 0 ≠ 0 := by have := of_decide_eq_true h0; omega
        refine ⟨rfl, (((l.getD i 0 : Nat) : Int) == 1), ?_, fun h1 => ?_⟩
        · rw [wrap_succ (by omega), nzU, if_neg h0]
        · rw [nzU, if_neg h0] at h1
          rw [onU, show onU l i = 0 by omega, Bool.eq_iff_iff]
          simp only [beq_iff_eq, decide_eq_true_eq]
          split <;> omega
      · have h0 : l.getD i 0 = 0 := by have := of_decide_eq_false h0; omega
        refine ⟨rfl, c1, by rw [nzU, if_pos h0]; rfl, fun h1 => ?_⟩
        rw [nzU, if_pos h0] at h1
        rw [hc h1, onU, if_neg (by omega)]; rfl
    · obtain ⟨rfl, c, hv, hc'⟩ := hI
      simp only [List.cons.injEq, Value.int.injEq, Value.bool.injEq, true_and, and_true] at hv
      obtain ⟨rfl, rfl⟩ := hv
      rw [wrap_succ (by omega)]
      exact ⟨⟨rfl, i + 1, _, hlt, rfl, hc'⟩, by show ((l.length : Int) - ((i + 1 : Nat) : Int)).toNat < ((l.length : Int) - (i : Nat)).toNat; omega⟩
  have : i = l.length := by have := of_decide_eq_false hge; omega
  subst this
  have new : mayM l b = true → 0 ≤ roomL l → ∀ w' : World, w' = w2 → Calls P F.prefix_New #[.slice p l.length cap] w' fun e w4 => ∃ p1 n7, e = .returned (.tuple #[.pointer p1, i64 n7]) ∧ R (.returned (.pointer p1)) w4 := fun hm hr w' e => by
    subst e
    exact New_spec h rfl hk hr fun kd w' hE hd => ⟨_, _, rfl, hok hm kd w' hE hd⟩
  have hmay : mayM l b = (decide (roomL l = 0) || (nzL l == 1 && onL l == 1) || (b && nzL l == 0)) := rfl
  have hnzL : nzU l l.length = nzL l := rfl
  have honL : onU l l.length = onL l := rfl
  rw [hnzL] at hc hnz ⊢
  rw [honL] at hc
  refine brB_i (fun hr => ?_) fun hr => ?_
  rotate_left
  · have hr : roomL l = 0 := by simpa using hr
    exact new (by rw [hmay, hr]; rfl) (by omega) w2 rfl
  have hr : ¬ roomL l = 0 := by simpa using hr
  rw [decide_eq_false hr, Bool.false_or] at hmay
  have zero : b = true → nzL l = 0 → Calls P F.prefix_New #[.slice p l.length cap] w2 fun e w4 => ∃ p1 n7, e = .returned (.tuple #[.pointer p1, i64 n7]) ∧ R (.returned (.pointer p1)) w4 := fun hb h0 => by
    refine new (by rw [hmay, hb, h0]; rfl) ?_ w2 rfl
    have := room_none l.length h0
    unfold roomL; omega
  refine brB_i (fun h1 => ?_) fun h1 => ?_
  · have h1 : nzL l = 1 := by have := eq_of_beq h1; omega
    have hc := hc h1
    refine brB_i (fun h2 => ?_) fun h2 => ?_
    · have h2 : ¬ onL l = 1 := by rw [hc] at h2; simpa using h2
      have hF : mayM l b = false := by rw [hmay, h1]; simp [h2]
      refine brB_i (fun hb => brB_t (by rw [h1]; rfl) ⟨⟨_, _, rfl⟩, herr hF⟩) fun hb => ⟨⟨_, _, rfl⟩, herr hF⟩
    · have h2 : onL l = 1 := by rw [hc] at h2; simpa using h2
      refine new (by rw [hmay, h1, h2]; rfl) ?_ w2 rfl
      have := room_one l.length h1 h2
      unfold roomL; omega
  · have h1 : ¬ nzL l = 1 := fun e => by rw [e] at h1; cases h1
    refine brB_i (fun hb => ?_) fun hb => ?_
    · refine brB_i (fun h0 => ?_) fun h0 => ?_
      · have h0 : ¬ nzL l = 0 := fun e => by rw [e] at h0; cases h0
        exact ⟨⟨_, _, rfl⟩, herr (by rw [hmay]; simp [h1, h0])⟩
      · have h0 : nzL l = 0 := by
          have : (((nzL l : Nat) : Int) == 0) = true := by simpa using h0
          have := eq_of_beq this; omega
        exact zero hb h0
    · exact ⟨⟨_, _, rfl⟩, herr (by rw [hmay, hb]; simp [h1])⟩
theorem lens_of {l : List Nat} (h1 : l.length ≤ 4096) (h2 : l.all (fun x => decide (x ≤ 16)) = true) : Lens l := ⟨h1, fun x hx => by simpa using List.all_eq_true.1 h2 x hx⟩
theorem lens_fixL : Lens fixL := lens_of (by decide +kernel) (by decide +kernel)
theorem lens_fixD : Lens fixD := lens_of (by decide +kernel) (by decide +kernel)
def fixV (i : Nat) : Nat := if i < 144 ∨ 279 < i then 8 else if i < 256 then 9 else 7
theorem fixL_row : ni fixL = rowF 288 fun i => i64 (fixV i : Nat) := by
  refine List.ext_getElem? fun i => ?_
  rcases Nat.lt_or_ge i 288 with h | h
  · have hl : fixL.length = 288 := by decide +kernel
    rw [ni_get (by omega), rowF_get h]
    have : ∀ i, i < 288 → fixL.getD i 0 = fixV i := by decide +kernel
    rw [this i h]
  · have hl : fixL.length = 288 := by decide +kernel
    rw [List.getElem?_eq_none (by rw [ni_length]; omega), List.getElem?_eq_none (by rw [rowF_length]; omega)]
theorem fixD_row : ni fixD = rowF 30 fun _ => i64 (5 : Nat) := rfl
theorem mkCells_one (v : Value) (n : Nat) : (mkCells [v] n).toList = rowF n fun _ => v := by
  simp [mkCells, rowF, Nat.mod_one, Array.toList_map, Array.toList_range]
theorem New.row {w w' : World} {b n : Nat} {v : Value} {e : TypeId} (h : New w (.cells (mkCells [v] n) e (0, 0)) b w') : Cs w' b (rowF n fun _ => v) := by
  have := h.cs
  rwa [mkCells_one] at this
theorem fixed_spec {w : World} {R : Ending → World → Prop}
    (hR : ∀ kl kd w', Ext w w' → DecAt w' kl (fun i => w.heap.size ≤ i) fixL → DecAt w' kd (fun i => w.heap.size ≤ i) fixD → R (.returned (.tuple #[.pointer (some ⟨kl, 0, none⟩), .pointer (some ⟨kd, 0, none⟩)])) w') :
    Calls P F.inflate_fixed #[] w R := by
  refine calls_inflate_fixed _ _ ?_
  refine ⟨fun vs u => ∃ a b : Nat, vs = [.slice (some ⟨a, 0, none⟩) 288 288, .slice (some ⟨b, 0, none⟩) 30 30] ∧ Ext w u ∧ w.heap.size ≤ a ∧ w.heap.size ≤ b ∧ a ≠ b ∧ Cs u a (rowF 288 fun _ => i64 0) ∧ Cs u b (rowF 30 fun _ => i64 0), ⟨⟨by omega, by omega, by omega, by omega, fun k1 w1 hn1 => ⟨by omega, by omega, by omega, by omega, fun k2 w2 hn2 => ?_⟩⟩, by omega, by omega, by omega, by omega, fun k3 w3 hn3 => ⟨by omega, by omega, by omega, by omega, fun k4 w4 hn4 => ?_⟩⟩, fun p1 k5 k6 p2 k7 k8 w5 hI => ?_⟩
  · have h1 := hn1.1
    have h2 := hn2.1
    have h3 := hn1.size
    have hE : Ext w w1 := (Ext.refl w).drew.trans hn1.ext
    exact ⟨k1, k2, rfl, hE.trans hn2.ext, by rw [h1]; exact Nat.le_refl _, by have := hE.size; omega, by omega, (New.row hn1).ext hn2.ext, New.row hn2⟩
  · have h1 := hn3.1
    have h2 := hn4.1
    have h3 := hn3.size
    have hE : Ext w w3 := (Ext.refl w).drew.trans hn3.ext
    exact ⟨k4, k3, rfl, hE.trans hn4.ext, by have := hE.size; omega, by rw [h1]; exact Nat.le_refl _, by omega, New.row hn4, (New.row hn3).ext hn4.ext⟩
  obtain ⟨a, b, hv, hE5, ha, hb, hab, hCa, hCb⟩ := hI
  simp only [List.cons.injEq, Value.slice.injEq, and_true] at hv
  obtain ⟨⟨rfl, rfl, rfl⟩, rfl, rfl, rfl⟩ := hv
  refine ⟨fun vs u => ∃ i : Nat, i ≤ 288 ∧ vs = [i64 (i : Nat)] ∧ Ext w u ∧ Cs u a (rowF 288 fun j => if j < i then i64 (fixV j : Nat) else i64 0) ∧ Cs u b (rowF 30 fun _ => i64 0), fun vs _ => match vs with | [.int _ i] => (288 - i).toNat | _ => 0, ⟨0, by omega, rfl, hE5, hCa, hCb⟩, fun n1 w6 hI => ?_⟩
  obtain ⟨i, hi, hv, hE6, hCa6, hCb6⟩ := hI
  obtain rfl : n1 = (i : Nat) := by simpa using hv
  refine brB_i (fun hlt => ?_) fun hge => ?_
  · have hlt : i < 288 := by have := of_decide_eq_true hlt; omega
    refine ⟨fun _ u => Ext w u ∧ Cs u a (rowF 288 fun j => if j < i + 1 then i64 (fixV j : Nat) else i64 0) ∧ Cs u b (rowF 30 fun _ => i64 0), ?_, fun w7 hI => ?_⟩
    rotate_left
    · rw [wrap_succ (by omega)]
      exact ⟨⟨i + 1, hlt, rfl, hI.1, hI.2.1, hI.2.2⟩, by show ((288 : Int) - ((i + 1 : Nat) : Int)).toNat < ((288 : Int) - (i : Nat)).toNat; omega⟩
    have key : ∀ v : Nat, fixV i = v → idx (some ⟨a, 0, none⟩) 288 ((i : Nat) : Int) 1 fun a1 => (∃ v1 : Value, w6.cell? a1 = some v1) ∧ w6.frozen? a1 = false ∧ (Ext w (setCells w6 a1 [i64 (v : Nat)] 0) ∧ Cs (setCells w6 a1 [i64 (v : Nat)] 0) a (rowF 288 fun j => if j < i + 1 then i64 (fixV j : Nat) else i64 0) ∧ Cs (setCells w6 a1 [i64 (v : Nat)] 0) b (rowF 30 fun _ => i64 0)) := fun v hv => by
      refine idx_i (by omega) (by omega) rfl ?_
      rw [loc_add, Nat.zero_add, Nat.mul_one, Int.toNat_natCast]
      have hset := Chg.setCells w6 ⟨a, i, none⟩ [i64 (v : Nat)] 0
      refine ⟨⟨_, hCa6.cell (rowF_get hlt)⟩, hCa6.frozen _, hE6.step hset (fun j hj => by have hj : j = a := hj; omega), ?_, hCb6.chg hset (fun e => hab (show b = a from e).symm)⟩
      have := hCa6.set1 (off := i) (v := i64 (v : Nat)) (by rw [rowF_length]; omega)
      rwa [rowF_set (H := fun j => if j < i + 1 then i64 (fixV j : Nat) else i64 0) (by simp [hv]) (fun j _ hj => by
        by_cases e : j < i
        · rw [if_pos (by omega), if_pos e]
        · rw [if_neg (by omega), if_neg e])] at this
    refine brB_i (fun h1 => ?_) fun h1 => ?_
    · exact key 8 (by unfold fixV; rw [if_pos (by simp only [Bool.or_eq_true, decide_eq_true_eq] at h1; omega)])
    · have h1 : ¬ (i < 144 ∨ 279 < i) := fun g => by
        have : (decide (((i : Nat) : Int) < 144) || decide (((i : Nat) : Int) > 279)) = true := by simp only [Bool.or_eq_true, decide_eq_true_eq]; omega
        rw [this] at h1; cases h1
      refine brB_i (fun h2 => ?_) fun h2 => ?_
      · exact key 9 (by unfold fixV; rw [if_neg h1, if_pos (by have := of_decide_eq_true h2; omega)])
      · exact key 7 (by unfold fixV; rw [if_neg h1, if_neg (by have := of_decide_eq_false h2; omega)])
  have : i = 288 := by have := of_decide_eq_false hge; omega
  subst this
  have hCa6 : Cs w6 a (ni fixL) := by
    rw [fixL_row]
    rwa [rowF_congr (H := fun i => i64 (fixV i : Nat)) fun j hj => by rw [if_pos hj]] at hCa6
  refine ⟨fun vs u => ∃ i : Nat, i ≤ 30 ∧ vs = [i64 (i : Nat)] ∧ Ext w u ∧ Cs u a (ni fixL) ∧ Cs u b (rowF 30 fun j => if j < i then i64 (5 : Nat) else i64 0), fun vs _ => match vs with | [.int _ i] => (30 - i).toNat | _ => 0, ⟨0, by omega, rfl, hE6, hCa6, hCb6⟩, fun n2 w8 hI => ?_⟩
  obtain ⟨i, hi, hv, hE8, hCa8, hCb8⟩ := hI
  obtain rfl : n2 = (i : Nat) := by simpa using hv
  refine brB_i (fun hlt => ?_) fun hge => ?_
  · have hlt : i < 30 := by have := of_decide_eq_true hlt; omega
    refine idx_i (by omega) (by omega) rfl ?_
    rw [loc_add, Nat.zero_add, Nat.mul_one, Int.toNat_natCast, wrap_succ (by omega)]
    have hset := Chg.setCells w8 ⟨b, i, none⟩ [i64 (5 : Nat)] 0
    refine ⟨⟨_, hCb8.cell (rowF_get hlt)⟩, hCb8.frozen _, ⟨i + 1, hlt, rfl, hE8.step hset (fun j hj => by have hj : j = b := hj; omega), hCa8.chg hset (fun e => hab e), ?_⟩, by show ((30 : Int) - ((i + 1 : Nat) : Int)).toNat < ((30 : Int) - (i : Nat)).toNat; omega⟩
    have := hCb8.set1 (off := i) (v := i64 (5 : Nat)) (by rw [rowF_length]; omega)
    rwa [rowF_set (H := fun j => if j < i + 1 then i64 (5 : Nat) else i64 0) (by simp) (fun j _ hj => by
      by_cases e : j < i
      · rw [if_pos (by omega), if_pos e]
      · rw [if_neg (by omega), if_neg e])] at this
  have : i = 30 := by have := of_decide_eq_false hge; omega
  subst this
  have hCb8 : Cs w8 b (ni fixD) := by
    rw [fixD_row]
    rwa [rowF_congr (H := fun _ => i64 (5 : Nat)) fun j hj => by rw [if_pos hj]] at hCb8
  have hs8 := hE8.size
  refine New_spec (hCa8.sl (off := 0) (by simp) hCa8.lt) (by decide +kernel) lens_fixL (by decide +kernel) fun kl w9 hE9 hd9 => ⟨_, _, rfl, ?_⟩
  refine New_spec ((hCb8.ext hE9).sl (off := 0) (by simp) (Nat.lt_of_lt_of_le hCb8.lt hE9.size)) (by decide +kernel) lens_fixD (by decide +kernel) fun kd w10 hE10 hd10 => ⟨_, _, rfl, ?_⟩
  have hs9 := hE9.size
  exact hR kl kd w10 ((hE8.trans hE9).trans hE10) ((hd9.chg (Z := fun _ => False) hE10.chg fun _ _ _ h => h).mono fun b hb _ => by omega) (hd10.mono fun b hb _ => by omega)
end Go.Proofs.Ythfnohbpdoklgaa
