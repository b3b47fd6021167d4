/- Quant: the stable sort of colours: what its functions do. -/
import Derived.Test.YtijplekhbpigiaaQR9
import Derived.Test.YtijplekhbpigiaaQS1
namespace Go.Proofs.Ytijplekhbpigiaa
open Go Go.Vc Go.RowKit Go.Qn
set_option maxRecDepth 100000
set_option linter.unusedVariables false
set_option linter.unusedSimpArgs false

/-! ## Colours in a block -/
theorem cos_cons (c : Co) (l : List Co) : cos (c :: l) = co c ++ cos l := by rw [show c :: l = [c] ++ l from rfl, cos_append, cos_one]
theorem cos_at {l : List Co} {i : Nat} {c : Co} (h : l[i]? = some c) : cos l = cos (l.take i) ++ co c ++ cos (l.drop (i + 1)) := by
  have hlt : i < l.length := by
    rcases Nat.lt_or_ge i l.length with h' | h'
    · exact h'
    · rw [List.getElem?_eq_none h'] at h; cases h
  have hc : l[i] = c := by rw [List.getElem?_eq_getElem hlt] at h; exact Option.some.inj h
  conv => lhs; rw [← List.take_append_drop i l, List.drop_eq_getElem_cons hlt, hc]
  rw [cos_append, cos_cons, List.append_assoc]
/-- n colours at the start of a block -/
def So (u : World) (b n : Nat) (D : Nat → Co) : Prop := ∃ rest, Cs u b (cos (seg D 0 n) ++ rest)
section
variable {u u' : World} {b n : Nat} {D : Nat → Co}
theorem So.chg {S : Nat → Prop} (h : So u b n D) (hc : Chg S u u') (hb : ¬ S b) : So u' b n D := by obtain ⟨r, h⟩ := h; exact ⟨r, h.chg hc hb⟩
theorem So.ext (h : So u b n D) (hE : Ext u u') : So u' b n D := by obtain ⟨r, h⟩ := h; exact ⟨r, h.ext hE⟩
theorem So.drew (h : So u b n D) : So u.drew b n D := h
theorem So.cell (h : So u b n D) {i j : Nat} (hi : i < n) {v : Value} (hv : (co (D i))[j]? = some v) : u.cell? ((⟨b, i * 4, none⟩ : Addr).add j) = some v := by
  obtain ⟨r, h⟩ := h
  rw [loc_add]
  refine h.cell ?_
  have hs : (seg D 0 n)[i]? = some (D i) := by rw [seg_get D (by omega), Nat.zero_add]
  have hj : j < 4 := by
    rcases Nat.lt_or_ge j 4 with h' | h'
    · exact h'
    · rw [List.getElem?_eq_none (by simpa [co] using h')] at hv; cases hv
  have hl : (cos ((seg D 0 n).take i)).length = i * 4 := by rw [cos_length, List.length_take, seg_len]; omega
  rw [cos_at hs, List.append_assoc, List.append_assoc, List.getElem?_append_right (by omega), hl, show i * 4 + j - i * 4 = j by omega, List.getElem?_append_left (by simpa [co] using hj)]
  exact hv
theorem So.can (h : So u b n D) {i : Nat} (hi : i < n) : CanSet u ⟨b, i * 4, none⟩ 4 := by
  obtain ⟨r, h⟩ := h
  exact h.canSet (by rw [List.length_append, cos_length, seg_len]; omega)
theorem So.ld (h : So u b n D) {i : Int} (h0 : 0 ≤ i) (h1 : i < n) {F : Addr → Prop}
    (hF : u.cell? ⟨b, i.toNat * 4, none⟩ = some (u16 (D i.toNat).1) → u.cell? ((⟨b, i.toNat * 4, none⟩ : Addr).add 1) = some (u16 (D i.toNat).2.1) → u.cell? ((⟨b, i.toNat * 4, none⟩ : Addr).add 2) = some (u16 (D i.toNat).2.2.1) → u.cell? ((⟨b, i.toNat * 4, none⟩ : Addr).add 3) = some (u16 (D i.toNat).2.2.2) → F ⟨b, i.toNat * 4, none⟩) : idx (some ⟨b, 0, none⟩) n i 4 F := by
  refine idx_i h0 (by omega) rfl ?_
  rw [loc_add, Nat.zero_add]
  have hi : i.toNat < n := by omega
  have e0 := h.cell hi (j := 0) rfl
  rw [add_zero'] at e0
  exact hF e0 (h.cell hi (j := 1) rfl) (h.cell hi (j := 2) rfl) (h.cell hi (j := 3) rfl)
theorem So.st (h : So u b n D) {i : Int} (h0 : 0 ≤ i) (h1 : i < n) {K : Addr → Prop} (hK : K ⟨b, i.toNat * 4, none⟩) :
    idx (some ⟨b, 0, none⟩) n i 4 fun a => (∃ v, u.cell? a = some v) ∧ (u.frozen? a = false) ∧ (∃ v, u.cell? (a.add 1) = some v) ∧ (u.frozen? (a.add 1) = false) ∧ (∃ v, u.cell? (a.add 2) = some v) ∧ (u.frozen? (a.add 2) = false) ∧ (∃ v, u.cell? (a.add 3) = some v) ∧ (u.frozen? (a.add 3) = false) ∧ K a := by
  refine idx_i h0 (by omega) rfl ?_
  rw [loc_add, Nat.zero_add]
  have hc := h.can (i := i.toNat) (by omega)
  have c0 := hc 0 (by omega)
  rw [add_zero'] at c0
  exact ⟨c0.1, c0.2, (hc 1 (by omega)).1, (hc 1 (by omega)).2, (hc 2 (by omega)).1, (hc 2 (by omega)).2, (hc 3 (by omega)).1, (hc 3 (by omega)).2, hK⟩
def upd (D : Nat → Co) (i : Nat) (c : Co) : Nat → Co := fun k => if k = i then c else D k
theorem So.put (h : So u b n D) {i : Nat} (hi : i < n) (c : Co) : So (setCells u ⟨b, i * 4, none⟩ (co c) 0) b n (upd D i c) := by
  obtain ⟨r, h⟩ := h
  refine ⟨r, ?_⟩
  have hs : (seg D 0 n)[i]? = some (D i) := by rw [seg_get D (by omega), Nat.zero_add]
  have hs' : (seg (upd D i c) 0 n)[i]? = some c := by rw [seg_get _ (by omega), Nat.zero_add]; simp [upd]
  have hl : (cos ((seg D 0 n).take i)).length = i * 4 := by rw [cos_length, List.length_take, seg_len]; omega
  have et : (seg (upd D i c) 0 n).take i = (seg D 0 n).take i := by
    rw [seg_split _ (Nat.zero_le i) (by omega : i ≤ n), seg_split D (Nat.zero_le i) (by omega : i ≤ n), List.take_left' (by rw [seg_len]; omega), List.take_left' (by rw [seg_len]; omega)]
    exact seg_congr fun k _ hk => by simp [upd, show k ≠ i by omega]
  have ed : (seg (upd D i c) 0 n).drop (i + 1) = (seg D 0 n).drop (i + 1) := by
    rw [seg_split _ (Nat.zero_le (i + 1)) (by omega : i + 1 ≤ n), seg_split D (Nat.zero_le (i + 1)) (by omega : i + 1 ≤ n), List.drop_left' (by rw [seg_len]; omega), List.drop_left' (by rw [seg_len]; omega)]
    exact seg_congr fun k hk _ => by simp [upd, show k ≠ i by omega]
  have hst := h.set (off := i * 4) (us := co c) (by rw [List.length_append, cos_length, seg_len]; simp [co]; omega)
  rw [cos_at hs', et, ed]
  rw [cos_at hs] at hst
  have l4 : (co (D i)).length = 4 := rfl
  have l4' : (co c).length = 4 := rfl
  rw [show cos ((seg D 0 n).take i) ++ co (D i) ++ cos ((seg D 0 n).drop (i + 1)) ++ r = cos ((seg D 0 n).take i) ++ (co (D i) ++ (cos ((seg D 0 n).drop (i + 1)) ++ r)) by simp [List.append_assoc]] at hst
  rw [List.take_left' hl, l4', ← List.drop_drop, List.drop_left' hl, List.drop_left' l4] at hst
  simpa [List.append_assoc] using hst
theorem So.two (h : So u b n D) {i j : Nat} (hi : i < n) (hj : j < n) : So (setCells (setCells u ⟨b, i * 4, none⟩ (co (D j)) 0) ⟨b, j * 4, none⟩ (co (D i)) 0) b n (swp D i j) ∧ Chg (· = b) u (setCells (setCells u ⟨b, i * 4, none⟩ (co (D j)) 0) ⟨b, j * 4, none⟩ (co (D i)) 0) := by
  refine ⟨?_, ?_⟩
  · have := (h.put hi (D j)).put hj (D i)
    have e : upd (upd D i (D j)) j (D i) = swp D i j := by
      funext k; simp only [upd, swp]
      repeat' split
      all_goals first | rfl | (exfalso; omega) | (congr 1; omega)
    rwa [e] at this
  · exact ((Chg.setCells u ⟨b, i * 4, none⟩ (co (D j)) 0 :)).trans (Chg.setCells _ ⟨b, j * 4, none⟩ (co (D i)) 0 :) fun i hi _ => hi
theorem So.fn (h : So u b n D) {E : Nat → Co} (hE : ∀ k, k < n → D k = E k) : So u b n E := by
  obtain ⟨r, h⟩ := h
  exact ⟨r, by rw [← seg_congr (D := D) (E := E) fun k _ hk => hE k hk]; exact h⟩
end
theorem swp_comm (D : Nat → Co) (i j : Nat) : swp D i j = swp D j i := by
  funext k; simp only [swp]
  repeat' split
  all_goals first | rfl | (exfalso; omega) | (congr 1; omega)
theorem chgb {b : Nat} {u v w : World} (h : Chg (· = b) u v) (k : Chg (· = b) v w) : Chg (· = b) u w := h.trans k fun i hi _ => hi
theorem chg_dr {b : Nat} {u v : World} (h : Chg (· = b) u v) : Chg (· = b) u v.drew := h.drew

/-! ## Changing and turning parts -/
theorem swapR_spec {va : Value} {w : World} {b n cap p q m : Nat} {D : Nat → Co} {R : Ending → World → Prop} (h : So w b n D) (hp : p + m ≤ q) (hq : q + m ≤ n) (hn : n ≤ 2 ^ 40)
    (hR : ∀ w', So w' b n (swr D p q m) → Chg (· = b) w w' → R (.returned (.tuple #[])) w') :
    Calls P F.slices_swapRangeCmpFunc_api_Color #[.slice (some ⟨b, 0, none⟩) n cap, i64 p, i64 q, i64 m, va] w R := by
  refine calls_slices_swapRangeCmpFunc_api_Color _ _ _ _ _ _ _ _ _ ?_
  unfold vc_slices_swapRangeCmpFunc_api_Color
  refine ⟨fun vs u => ∃ k : Nat, vs = [i64 k] ∧ k ≤ m ∧ So u b n (swr D p q k) ∧ Chg (· = b) w u, fun vs _ => match vs with | [.int _ k] => (m - k).toNat | _ => 0,
    ⟨0, rfl, Nat.zero_le _, by rw [swr_zero]; exact h, Chg.refl _ _⟩, fun k' w1 hI => ?_⟩
  obtain ⟨k, hv, hk, hS, hC⟩ := hI
  obtain rfl : k' = k := by simpa using hv
  refine brB_i (fun hlt => ?_) fun hge => ?_
  · have hlt : k < m := by simp at hlt; omega
    rw [w64 (x := (q : Int) + k) (by omega) (by omega), w64 (x := (p : Int) + k) (by omega) (by omega), w64 (x := (k : Int) + 1) (by omega) (by omega)]
    refine hS.drew.ld (by omega) (by omega) fun e1 e2 e3 e4 => ⟨_, _, _, _, e1, e2, e3, e4, ?_⟩
    refine hS.drew.ld (by omega) (by omega) fun e1 e2 e3 e4 => ⟨_, _, _, _, e1, e2, e3, e4, ?_⟩
    have ep : ((p : Int) + k).toNat = p + k := by omega
    have eq : ((q : Int) + k).toNat = q + k := by omega
    refine hS.drew.st (by omega) (by omega) ?_
    have h1 := hS.drew.put (i := p + k) (by omega) (swr D p q k (q + k))
    rw [ep, eq]
    refine h1.st (i := (q : Int) + k) (by omega) (by omega) ?_
    rw [eq]
    obtain ⟨h2, h3⟩ := hS.drew.two (i := p + k) (j := q + k) (by omega) (by omega)
    rw [swr_step D (by omega)] at h2
    exact ⟨⟨k + 1, by simp, by omega, h2, chgb (chg_dr hC) h3⟩, by show ((m : Int) - ((k : Int) + 1)).toNat < ((m : Int) - k).toNat; omega⟩
  · have hge : k = m := by simp at hge; omega
    subst hge
    exact hR w1 hS hC
theorem rotate_spec {va : Value} {w : World} {b n cap a m e : Nat} {D : Nat → Co} {R : Ending → World → Prop} (h : So w b n D) (ham : a < m) (hme : m < e) (he : e ≤ n) (hn : n ≤ 2 ^ 40)
    (hR : ∀ w', So w' b n (rot D a m e) → Chg (· = b) w w' → R (.returned (.tuple #[])) w') :
    Calls P F.slices_rotateCmpFunc_api_Color #[.slice (some ⟨b, 0, none⟩) n cap, i64 a, i64 m, i64 e, va] w R := by
  refine calls_slices_rotateCmpFunc_api_Color _ _ _ _ _ _ _ _ _ ?_
  unfold vc_slices_rotateCmpFunc_api_Color
  rw [w64 (x := (m : Int) - a) (by omega) (by omega), w64 (x := (e : Int) - m) (by omega) (by omega)]
  refine ⟨fun vs u => ∃ (i j : Nat) (E : Nat → Co), vs = [i64 i, i64 j] ∧ 0 < i ∧ 0 < j ∧ i ≤ m - a ∧ j ≤ e - m ∧ So u b n E ∧ Chg (· = b) w u ∧ rot E (m - i) m (m + j) = rot D a m e,
    fun vs _ => match vs with | [.int _ i, .int _ j] => (i + j).toNat | _ => 0,
    ⟨m - a, e - m, D, by simp; omega, by omega, by omega, Nat.le_refl _, Nat.le_refl _, h, Chg.refl _ _, by rw [show m - (m - a) = a by omega, show m + (e - m) = e by omega]⟩, fun i' j' w1 hI => ?_⟩
  obtain ⟨i, j, E, hv, hi, hj, hi2, hj2, hS, hC, hE⟩ := hI
  obtain ⟨rfl, rfl⟩ : i' = i ∧ j' = j := by simpa using hv
  rw [w64 (x := (m : Int) - i) (by omega) (by omega)]
  have e1 : (m : Int) - i = ((m - i : Nat) : Int) := by omega
  refine brB_i (fun hne => ?_) fun heq => ?_
  · have hne : i ≠ j := by simp at hne; omega
    refine ⟨fun vs u => ∃ (i' j' : Nat) (E : Nat → Co), vs = [i64 i', i64 j'] ∧ 0 < i' ∧ 0 < j' ∧ i' ≤ m - a ∧ j' ≤ e - m ∧ i' + j' < i + j ∧ So u b n E ∧ Chg (· = b) w u ∧ rot E (m - i') m (m + j') = rot D a m e, ?_, fun n3 n4 w4 hI => ?_⟩
    · refine brB_i (fun hgt => ?_) fun hle => ?_
      · have hgt : j < i := by simp at hgt; omega
        rw [e1]
        refine swapR_spec hS (by omega) (by omega) hn fun w' h1 h2 => ⟨rfl, i - j, j, _, ?_, by omega, hj, by omega, hj2, by omega, h1, chgb hC h2, ?_⟩
        · rw [w64 (x := (i : Int) - j) (by omega) (by omega)]; simp; omega
        · have := rot_left E (a := m - i) (m := m) (b := m + j) (by omega) (by omega) (by omega)
          rw [show m + j - m = j by omega, show m - i + j = m - (i - j) by omega] at this
          rw [this]; exact hE
      · have hle : i < j := by simp at hle; omega
        rw [w64 (x := (m : Int) + j) (by omega) (by omega), w64 (x := (m : Int) + j - i) (by omega) (by omega), e1, show (m : Int) + j - i = ((m + j - i : Nat) : Int) by omega]
        refine swapR_spec hS (by omega) (by omega) hn fun w' h1 h2 => ⟨rfl, i, j - i, _, ?_, hi, by omega, hi2, by omega, by omega, h1, chgb hC h2, ?_⟩
        · rw [w64 (x := (j : Int) - i) (by omega) (by omega)]; simp; omega
        · have := rot_right E (a := m - i) (m := m) (b := m + j) (by omega) (by omega) (by omega)
          rw [show m - (m - i) = i by omega] at this
          rw [show m + (j - i) = m + j - i by omega, this]; exact hE
    · obtain ⟨i2, j2, E2, hv2, h1, h2, h3, h4, h5, h6, h7, h8⟩ := hI
      obtain ⟨rfl, rfl⟩ : n3 = i2 ∧ n4 = j2 := by simpa using hv2
      exact ⟨⟨i2, j2, E2, rfl, h1, h2, h3, h4, h6, h7, h8⟩, by show ((i2 : Int) + j2).toNat < ((i : Int) + j).toNat; omega⟩
  · have heq : i = j := by simp at heq; omega
    subst heq
    rw [e1]
    refine swapR_spec hS (by omega) (by omega) hn fun w' h1 h2 => ⟨rfl, hR w' ?_ (chgb hC h2)⟩
    have := rot_even E (a := m - i) (m := m) (b := m + i) (by omega) (by omega) (by omega)
    rw [show m - (m - i) = i by omega] at this
    rw [← hE, ← this]; exact h1
end Go.Proofs.Ytijplekhbpigiaa
