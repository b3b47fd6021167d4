/- Quant: the stable sort of colours, all of it. -/
import Derived.Test.YtijplekhbpigiaaQS3
namespace Go.Proofs.Ytijplekhbpigiaa
open Go Go.Vc Go.RowKit Go.Qn
set_option maxRecDepth 100000
set_option linter.unusedVariables false
set_option linter.unusedSimpArgs false

theorem dvd_gap {d s a : Nat} (h1 : d ∣ s) (h2 : d ∣ a) (h : s < a) : s + d ≤ a := by
  have := Nat.le_of_dvd (by omega) (Nat.dvd_sub h2 h1)
  omega
/-- each block of z in order -/
def Bk (key : Co → Int) (E : Nat → Co) (z n : Nat) : Prop := ∀ s, z ∣ s → AscF key E s (min (s + z) n)
theorem stable_spec {va : Value} {key : Co → Int} {Q : World → Prop} {w : World} {b n cap : Nat} {D : Nat → Co} {R : Ending → World → Prop} (h : So w b n D) (hQ : Q w) (hC : Cmp va key b Q) (hn : n ≤ 2 ^ 40)
    (hR : ∀ w' E, So w' b n E → Chg (· = b) w w' → Rear key D E 0 n → AscF key E 0 n → R (.returned (.tuple #[])) w') :
    Calls P F.slices_stableCmpFunc_api_Color #[.slice (some ⟨b, 0, none⟩) n cap, i64 n, va] w R := by
  refine calls_slices_stableCmpFunc_api_Color _ _ _ _ _ _ _ ?_
  unfold vc_slices_stableCmpFunc_api_Color
  refine ⟨fun vs u => ∃ (a : Nat) (E : Nat → Co), vs = [i64 a, i64 (a + 20 : Nat)] ∧ a ≤ n ∧ 20 ∣ a ∧ So u b n E ∧ Chg (· = b) w u ∧ Rear key D E 0 n ∧ (∀ s, 20 ∣ s → s < a → AscF key E s (s + 20)),
    fun vs _ => match vs with | [.int _ a, _] => (n - a).toNat | _ => 0, ⟨0, D, rfl, Nat.zero_le _, Nat.dvd_zero _, h, Chg.refl _ _, Rear.refl _ _ _ _, fun s _ hs => by omega⟩, fun a' b' w1 hI => ?_⟩
  obtain ⟨a, E, hv, ha, hd, hS, hCh, hRe, hA⟩ := hI
  obtain ⟨rfl, rfl⟩ : a' = a ∧ b' = (a + 20 : Nat) := by simpa using hv
  refine brB_i (fun hle => ?_) fun hgt => ?_
  · have hle : a + 20 ≤ n := by simp at hle; omega
    refine insort_spec hS (hC.kp _ _ hQ hCh) hC (by omega) hle hn fun w' G h1 h2 h3 h4 => ⟨rfl, ⟨a + 20, G, ?_, hle, by omega, h1, chgb hCh h2, hRe.trans (h3.wide (Nat.zero_le _) hle (by omega)), fun s hs hlt => ?_⟩, ?_⟩
    · rw [w64 (x := ((a + 20 : Nat) : Int) + 20) (by omega) (by omega)]; simp
    · rcases Nat.lt_or_ge s a with hsa | hsa
      · have := dvd_gap hs hd hsa
        exact (hA s hs hsa).congr fun k _ hk => h3.out k (by omega)
      · rw [show s = a by omega]; exact h4
    · show ((n : Int) - ((a + 20 : Nat) : Int)).toNat < ((n : Int) - a).toNat; omega
  have hgt : n < a + 20 := by simp at hgt; omega
  refine insort_spec hS (hC.kp _ _ hQ hCh) hC ha (Nat.le_refl _) hn fun w3 G h1 h2 h3 h4 => ⟨rfl, ?_⟩
  have hB : Bk key G 20 n := by
    intro s hs
    rcases Nat.lt_or_ge s a with hsa | hsa
    · have := dvd_gap hs hd hsa
      rw [show min (s + 20) n = s + 20 by omega]
      exact (hA s hs hsa).congr fun k _ hk => h3.out k (by omega)
    · exact h4.sub hsa (by omega)
  refine ⟨fun vs u => ∃ (z : Nat) (E : Nat → Co), vs = [i64 z] ∧ 0 < z ∧ z ≤ 2 * n + 20 ∧ So u b n E ∧ Chg (· = b) w u ∧ Rear key D E 0 n ∧ Bk key E z n, fun vs _ => match vs with | [.int _ z] => (n - z).toNat | _ => 0,
    ⟨20, G, rfl, by omega, by omega, h1, chgb hCh h2, hRe.trans (h3.wide (Nat.zero_le _) (Nat.le_refl _) ha), hB⟩, fun z' w4 hI => ?_⟩
  clear hB h1 h2 h3 h4 hS hCh hRe hA
  obtain ⟨z, E, hv, hz0, hz1, hS, hCh, hRe, hB⟩ := hI
  obtain rfl : z' = z := by simpa using hv
  refine brB_i (fun hlt => ?_) fun hge => ?_
  · have hlt : z < n := by simp at hlt; omega
    rw [w64 (x := 2 * (z : Int)) (by omega) (by omega), w64 (x := (z : Int) * 2) (by omega) (by omega)]
    refine ⟨fun vs u => vs = [i64 (2 * z : Nat)] ∧ ∃ E : Nat → Co, So u b n E ∧ Chg (· = b) w u ∧ Rear key D E 0 n ∧ Bk key E (2 * z) n, ?_, fun z2 w8 hI => ?_⟩
    · refine ⟨fun vs u => ∃ (a : Nat) (E : Nat → Co), vs = [i64 a, i64 (a + 2 * z : Nat)] ∧ a ≤ n ∧ 2 * z ∣ a ∧ So u b n E ∧ Chg (· = b) w u ∧ Rear key D E 0 n ∧ (∀ s, 2 * z ∣ s → s < a → AscF key E s (s + 2 * z)) ∧ (∀ s, z ∣ s → a ≤ s → AscF key E s (min (s + z) n)),
        fun vs _ => match vs with | [.int _ a, _] => (n - a).toNat | _ => 0, ⟨0, E, by simp, Nat.zero_le _, Nat.dvd_zero _, hS, hCh, hRe, fun s _ hs => by omega, fun s hs _ => hB s hs⟩, fun a' b' w5 hI => ?_⟩
      obtain ⟨a, E5, hv, ha, hd, hS5, hCh5, hRe5, hA5, hB5⟩ := hI
      obtain ⟨rfl, rfl⟩ : a' = a ∧ b' = (a + 2 * z : Nat) := by simpa using hv
      have hza : z ∣ a := Nat.dvd_trans (Nat.dvd_mul_left z 2) hd
      have hza2 : z ∣ a + z := Nat.dvd_add hza (Nat.dvd_refl z)
      rw [w64 (x := (a : Int) + z) (by omega) (by omega)]
      have eaz : (a : Int) + z = ((a + z : Nat) : Int) := by omega
      have L := hB5 a hza (Nat.le_refl _)
      have Rr := hB5 (a + z) hza2 (by omega)
      refine brB_i (fun hle => ?_) fun hgt => ?_
      · have hle : a + 2 * z ≤ n := by simp at hle; omega
        rw [show min (a + z) n = a + z by omega] at L
        rw [show min (a + z + z) n = a + 2 * z by omega] at Rr
        rw [eaz]
        refine symMerge_spec hC hn _ (Nat.le_refl _) (by omega) (by omega) hle hS5 (hC.kp _ _ hQ hCh5) L Rr fun w' G h1 h2 h3 h4 => ⟨rfl, ⟨a + 2 * z, G, ?_, hle, Nat.dvd_add hd (Nat.dvd_refl _), h1, chgb hCh5 h2, hRe5.trans (h3.wide (Nat.zero_le _) hle (by omega)), fun s hs hlt => ?_, fun s hs hge => ?_⟩, ?_⟩
        · rw [w64 (x := ((a + 2 * z : Nat) : Int) + 2 * (z : Int)) (by omega) (by omega)]; simp
        · rcases Nat.lt_or_ge s a with hsa | hsa
          · have := dvd_gap hs hd hsa
            exact (hA5 s hs hsa).congr fun k _ hk => h3.out k (by omega)
          · have : s = a := by
              rcases Nat.eq_or_lt_of_le hsa with h | h
              · exact h.symm
              · have := dvd_gap hd hs h; omega
            rw [this]; exact h4
        · exact (hB5 s hs (by omega)).congr fun k hk _ => h3.out k (by omega)
        · show ((n : Int) - ((a + 2 * z : Nat) : Int)).toNat < ((n : Int) - a).toNat; omega
      · have hgt : n < a + 2 * z := by simp at hgt; omega
        have ez : (z : Int) * 2 = ((2 * z : Nat) : Int) := by omega
        refine brB_i (fun hlt' => ?_) fun hge' => ?_
        · have hlt' : a + z < n := by simp at hlt'; omega
          rw [show min (a + z) n = a + z by omega] at L
          rw [show min (a + z + z) n = n by omega] at Rr
          rw [eaz]
          refine symMerge_spec hC hn _ (Nat.le_refl _) (by omega) (by omega) (Nat.le_refl _) hS5 (hC.kp _ _ hQ hCh5) L Rr fun w' G h1 h2 h3 h4 => ⟨rfl, by rw [ez], G, h1, chgb hCh5 h2, hRe5.trans (h3.wide (Nat.zero_le _) (Nat.le_refl _) (by omega)), fun s hs => ?_⟩
          rcases Nat.lt_or_ge s a with hsa | hsa
          · have := dvd_gap hs hd hsa
            rw [show min (s + 2 * z) n = s + 2 * z by omega]
            exact (hA5 s hs hsa).congr fun k _ hk => h3.out k (by omega)
          · exact h4.sub hsa (by omega)
        · have hge' : n ≤ a + z := by simp at hge'; omega
          refine ⟨by rw [ez], E5, hS5, hCh5, hRe5, fun s hs => ?_⟩
          rcases Nat.lt_or_ge s a with hsa | hsa
          · have := dvd_gap hs hd hsa
            rw [show min (s + 2 * z) n = s + 2 * z by omega]
            exact hA5 s hs hsa
          · rw [show min (a + z) n = n by omega] at L
            exact L.sub hsa (by omega)
    · obtain ⟨hv, E8, h1, h2, h3, h4⟩ := hI
      obtain rfl : z2 = (2 * z : Nat) := by simpa using hv
      exact ⟨⟨2 * z, E8, rfl, by omega, by omega, h1, h2, h3, h4⟩, by show ((n : Int) - ((2 * z : Nat) : Int)).toNat < ((n : Int) - z).toNat; omega⟩
  · have hge : n ≤ z := by simp at hge; omega
    have := hB 0 (Nat.dvd_zero _)
    rw [show min (0 + z) n = n by omega] at this
    exact hR w4 E hS hCh hRe this
/-- colours of a list at the start of a block -/
def SoL (u : World) (b : Nat) (l : List Co) : Prop := ∃ rest, Cs u b (cos l ++ rest)
theorem seg_getD (l : List Co) : seg (fun i => l.getD i zeroC) 0 l.length = l := by
  refine List.ext_getElem (by simp [seg_len]) fun i h1 h2 => ?_
  simp [seg, List.getD, h2]
theorem SoL.so {u : World} {b : Nat} {l : List Co} (h : SoL u b l) : So u b l.length fun i => l.getD i zeroC := by
  obtain ⟨r, h⟩ := h; exact ⟨r, by rw [seg_getD]; exact h⟩
theorem Sort_spec {va : Value} {key : Co → Int} {Q : World → Prop} {w : World} {b cap : Nat} {l : List Co} {R : Ending → World → Prop} (h : SoL w b l) (hQ : Q w) (hC : Cmp va key b Q) (hn : l.length ≤ 2 ^ 40)
    (hR : ∀ w', SoL w' b (stab key l) → Chg (· = b) w w' → R (.returned (.tuple #[])) w') :
    Calls P F.slices_SortStableFunc_api_Color #[.slice (some ⟨b, 0, none⟩) l.length cap, va] w R := by
  refine calls_slices_SortStableFunc_api_Color _ _ _ _ _ _ ?_
  unfold vc_slices_SortStableFunc_api_Color
  refine stable_spec h.so hQ hC hn fun w' E h1 h2 h3 h4 => ⟨rfl, hR w' ?_ h2⟩
  obtain ⟨r, h1⟩ := h1
  have := stab_uniq (key := key) (l := l) (m := seg E 0 l.length) (by have := h3.same; rwa [seg_getD] at this) h4.asc
  exact ⟨r, by rw [← this]; exact h1⟩
end Go.Proofs.Ytijplekhbpigiaa
