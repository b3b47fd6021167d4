/- Quant: the stable sort of colours: short rows, merging, all of it. -/
import Derived.Test.YtijplekhbpigiaaQS2
namespace Go.Proofs.Ytijplekhbpigiaa
open Go Go.Vc Go.RowKit Go.Qn
set_option maxRecDepth 100000
set_option linter.unusedVariables false
set_option linter.unusedSimpArgs false

/-- a function that compares by a key, where Q holds, whatever becomes of block b -/
structure Cmp (va : Value) (key : Co → Int) (b : Nat) (Q : World → Prop) : Prop where
  go : ∀ (u : World) (x y : Co) (R : Ending → World → Prop), Q u → (∀ (n : Int) w', Ext u w' → (n < 0 ↔ key x < key y) → R (.returned (i64 n)) w') → callV P va [.agg (co x).toArray, .agg (co y).toArray] u R
  kp : ∀ u u', Q u → Chg (· = b) u u' → Q u'
theorem mid64 {x y : Int} (h0 : 0 ≤ x + y) (h1 : x + y < 2 ^ 60) : IntKind.i64.wrap (shiftZ BinOp.shr IntKind.u64 (IntKind.u64.wrap (IntKind.i64.wrap (x + y))) 1) = (x + y) / 2 := by
  rw [w64 (x := x + y) (by omega) (by omega), wu64 (by omega) (by omega), shiftZ_shr (by omega) (by omega) (by simp [IntKind.bits]), show (2 : Int) ^ (Int.toNat 1) = 2 from rfl, w64 (by omega) (by omega)]
theorem insort_spec {va : Value} {key : Co → Int} {Q : World → Prop} {w : World} {b n cap a e : Nat} {D : Nat → Co} {R : Ending → World → Prop} (h : So w b n D) (hQ : Q w) (hC : Cmp va key b Q) (hae : a ≤ e) (hen : e ≤ n) (hn : n ≤ 2 ^ 40)
    (hR : ∀ w' E, So w' b n E → Chg (· = b) w w' → Rear key D E a e → AscF key E a e → R (.returned (.tuple #[])) w') :
    Calls P F.slices_insertionSortCmpFunc_api_Color #[.slice (some ⟨b, 0, none⟩) n cap, i64 a, i64 e, va] w R := by
  refine calls_slices_insertionSortCmpFunc_api_Color _ _ _ _ _ _ _ _ ?_
  unfold vc_slices_insertionSortCmpFunc_api_Color
  rw [w64 (x := (a : Int) + 1) (by omega) (by omega)]
  refine ⟨fun vs u => ∃ (k : Nat) (E : Nat → Co), vs = [i64 k] ∧ a + 1 ≤ k ∧ (k ≤ e ∨ k = a + 1) ∧ So u b n E ∧ Chg (· = b) w u ∧ Rear key D E a e ∧ AscF key E a k, fun vs _ => match vs with | [.int _ k] => (e - k).toNat | _ => 0,
    ⟨a + 1, D, by simp, Nat.le_refl _, .inr rfl, h, Chg.refl _ _, Rear.refl _ _ _ _, AscF.short (Nat.le_refl _)⟩, fun k' w1 hI => ?_⟩
  obtain ⟨k, E, hv, hk0, hk1, hS, hCh, hRe, hA⟩ := hI
  obtain rfl : k' = k := by simpa using hv
  refine brB_i (fun hlt => ?_) fun hge => ?_
  · have hlt : k < e := by simp at hlt; omega
    refine ⟨fun vs u => vs = [] ∧ ∃ E : Nat → Co, So u b n E ∧ Chg (· = b) w u ∧ Rear key D E a e ∧ AscF key E a (k + 1), ?_, fun w4 hI => ?_⟩
    · refine ⟨fun vs u => ∃ (j : Nat) (E : Nat → Co), vs = [i64 j] ∧ a ≤ j ∧ j ≤ k ∧ So u b n E ∧ Chg (· = b) w u ∧ Rear key D E a e ∧ Ins key E a j k, fun vs _ => match vs with | [.int _ j] => j.toNat | _ => 0,
        ⟨k, E, rfl, by omega, Nat.le_refl _, hS, hCh, hRe, Ins.start hA⟩, fun j' w2 hI => ?_⟩
      obtain ⟨j, E2, hv2, hj0, hj1, hS2, hCh2, hRe2, hIn⟩ := hI
      obtain rfl : j' = j := by simpa using hv2
      refine brB_i (fun hgt => ?_) fun hle => ?_
      · have hgt : a < j := by simp at hgt; omega
        rw [w64 (x := (j : Int) - 1) (by omega) (by omega)]
        have ej : ((j : Int) - 1).toNat = j - 1 := by omega
        have ej' : (j : Int).toNat = j := by omega
        refine hS2.drew.ld (by omega) (by omega) fun e1 e2 e3 e4 => ⟨_, _, _, _, e1, e2, e3, e4, ?_⟩
        refine hS2.drew.ld (by omega) (by omega) fun e1 e2 e3 e4 => ⟨_, _, _, _, e1, e2, e3, e4, ?_⟩
        rw [ej, ej']
        refine hC.go _ (E2 j) (E2 (j - 1)) _ (hC.kp _ _ hQ (chg_dr hCh2)) fun c w3 hE3 hc => ⟨c, rfl, ?_⟩
        have hS3 := (hS2.drew.ext hE3).drew
        have hCh3 := chg_dr (chgb (chg_dr hCh2) hE3.chg)
        refine brB_i (fun hlt => ?_) fun hge => ?_
        · have hlt : key (E2 j) < key (E2 (j - 1)) := hc.1 (by simpa using hlt)
          refine hS3.ld (by omega) (by omega) fun e1 e2 e3 e4 => ⟨_, _, _, _, e1, e2, e3, e4, ?_⟩
          refine hS3.ld (by omega) (by omega) fun e1 e2 e3 e4 => ⟨_, _, _, _, e1, e2, e3, e4, ?_⟩
          rw [ej, ej']
          refine hS3.st (by omega) (by omega) ?_
          rw [ej']
          have h1 := hS3.put (i := j) (by omega) (E2 (j - 1))
          refine h1.st (i := (j : Int) - 1) (by omega) (by omega) ?_
          rw [ej]
          obtain ⟨h2, h3⟩ := hS3.two (i := j) (j := j - 1) (by omega) (by omega)
          obtain ⟨i, rfl⟩ : ∃ i, j = i + 1 := ⟨j - 1, by omega⟩
          simp only [Nat.add_sub_cancel] at *
          rw [swp_comm] at h2
          refine ⟨⟨i, _, by simp, by omega, by omega, h2, chgb hCh3 h3, hRe2.trans ((Rear.swp hlt).wide (by omega) (by omega) (by omega)), hIn.step (by omega) (by omega) hlt⟩, ?_⟩
          show (((i + 1 : Nat) : Int) - 1).toNat < ((i + 1 : Nat) : Int).toNat
          omega
        · have hge : key (E2 (j - 1)) ≤ key (E2 j) := by
            have : ¬ c < 0 := by simpa using hge
            have := mt hc.2 this
            omega
          exact ⟨rfl, E2, hS2.drew.ext hE3, chgb (chg_dr hCh2) hE3.chg, hRe2, hIn.done (.inr ⟨j - 1, by omega, hge⟩)⟩
      · have hle : j ≤ a := by simp at hle; omega
        exact ⟨rfl, E2, hS2.drew, chg_dr hCh2, hRe2, hIn.done (.inl hle)⟩
    · obtain ⟨_, E2, h1, h2, h3, h4⟩ := hI
      rw [w64 (x := (k : Int) + 1) (by omega) (by omega)]
      exact ⟨⟨k + 1, E2, by simp, by omega, .inl (by omega), h1, h2, h3, h4⟩, by show ((e : Int) - ((k : Int) + 1)).toNat < ((e : Int) - k).toNat; omega⟩
  · have hge : e ≤ k := by simp at hge; omega
    exact hR w1 E hS hCh hRe (hA.sub (Nat.le_refl _) hge)

theorem symMerge_spec {va : Value} {key : Co → Int} {Q : World → Prop} {b n cap : Nat} (hC : Cmp va key b Q) (hn : n ≤ 2 ^ 40) : ∀ (d : Nat) {w : World} {D : Nat → Co} {a m e : Nat} {R : Ending → World → Prop}, e - a ≤ d → a < m → m < e → e ≤ n →
    So w b n D → Q w → AscF key D a m → AscF key D m e →
    (∀ w' E, So w' b n E → Chg (· = b) w w' → Rear key D E a e → AscF key E a e → R (.returned (.tuple #[])) w') →
    Calls P F.slices_symMergeCmpFunc_api_Color #[.slice (some ⟨b, 0, none⟩) n cap, i64 a, i64 m, i64 e, va] w R := by
  intro d
  induction d with
  | zero => intro w D a m e R hd h1 h2; omega
  | succ d ih =>
  intro w D a m e R hd ham hme hen hS hQ hL hRt hR
  refine calls_slices_symMergeCmpFunc_api_Color _ _ _ _ _ _ _ _ _ ?_
  unfold vc_slices_symMergeCmpFunc_api_Color
  rw [w64 (x := (m : Int) - a) (by omega) (by omega)]
  refine brB_i (fun h1 => ?_) fun h1 => ?_
  · -- one on the left
    have h1 : m = a + 1 := by simp at h1; omega
    refine ⟨fun vs u => ∃ i j : Nat, vs = [i64 i, i64 j] ∧ m ≤ i ∧ i ≤ j ∧ j ≤ e ∧ So u b n D ∧ Chg (· = b) w u ∧ (i = m ∨ key (D (i - 1)) < key (D a)) ∧ (j = e ∨ key (D a) ≤ key (D j)),
      fun vs _ => match vs with | [.int _ i, .int _ j] => (j - i).toNat | _ => 0, ⟨m, e, rfl, Nat.le_refl _, by omega, Nat.le_refl _, hS, Chg.refl _ _, .inl rfl, .inl rfl⟩, fun i' j' w1 hI => ?_⟩
    obtain ⟨i, j, hv, hi, hij, hj, hS1, hC1, hlt, hle⟩ := hI
    obtain ⟨rfl, rfl⟩ : i' = i ∧ j' = j := by simpa using hv
    refine brB_i (fun hij' => ?_) fun hij' => ?_
    · have hij' : i < j := by simp at hij'; omega
      refine ⟨fun vs u => ∃ x y : Nat, vs = [i64 x, i64 y] ∧ m ≤ x ∧ x ≤ y ∧ y ≤ e ∧ So u b n D ∧ Chg (· = b) w u ∧ (x = m ∨ key (D (x - 1)) < key (D a)) ∧ (y = e ∨ key (D a) ≤ key (D y)) ∧ y - x < j - i, ?_, fun x' y' w3 hI => ?_⟩
      · rw [mid64 (by omega) (by omega)]
        have eh : (((i : Int) + j) / 2).toNat = (i + j) / 2 := by omega
        have ea : (a : Int).toNat = a := by omega
        refine hS1.drew.ld (by omega) (by omega) fun e1 e2 e3 e4 => ⟨_, _, _, _, e1, e2, e3, e4, ?_⟩
        refine hS1.drew.ld (by omega) (by omega) fun e1 e2 e3 e4 => ⟨_, _, _, _, e1, e2, e3, e4, ?_⟩
        rw [eh, ea]
        refine hC.go _ (D ((i + j) / 2)) (D a) _ (hC.kp _ _ hQ (chg_dr hC1)) fun c w2 hE2 hc => ⟨c, rfl, ?_⟩
        have hS2 := hS1.drew.ext hE2
        have hC2 := chgb (chg_dr hC1) hE2.chg
        refine brB_i (fun hlt' => ?_) fun hge' => ?_
        · have hlt' : key (D ((i + j) / 2)) < key (D a) := hc.1 (by simpa using hlt')
          rw [w64 (x := ((i : Int) + j) / 2 + 1) (by omega) (by omega)]
          exact ⟨(i + j) / 2 + 1, j, by simp, by omega, by omega, hj, hS2, hC2, .inr (by simpa using hlt'), hle, by omega⟩
        · have hge' : key (D a) ≤ key (D ((i + j) / 2)) := by
            have : ¬ c < 0 := by simpa using hge'
            have := mt hc.2 this
            omega
          exact ⟨i, (i + j) / 2, by simp, hi, by omega, by omega, hS2, hC2, hlt, .inr hge', by omega⟩
      · obtain ⟨x, y, hv, h2, h3, h4, h5, h6, h7, h8, h9⟩ := hI
        obtain ⟨rfl, rfl⟩ : x' = x ∧ y' = y := by simpa using hv
        exact ⟨⟨x, y, rfl, h2, h3, h4, h5, h6, h7, h8⟩, by show ((y : Int) - x).toNat < ((j : Int) - i).toNat; omega⟩
    · have hij' : i = j := by simp at hij'; omega
      subst hij'
      rw [w64 (x := (i : Int) - 1) (by omega) (by omega)]
      refine ⟨fun vs u => ∃ k : Nat, vs = [i64 k] ∧ a ≤ k ∧ k ≤ i - 1 ∧ So u b n (rot D a (a + 1) (k + 1)) ∧ Chg (· = b) w u, fun vs _ => match vs with | [.int _ k] => (i - k).toNat | _ => 0,
        ⟨a, rfl, Nat.le_refl _, by omega, by rw [rot_none D (.inr rfl)]; exact hS1, hC1⟩, fun k' w4 hI => ?_⟩
      obtain ⟨k, hv, hk0, hk1, hS4, hC4⟩ := hI
      obtain rfl : k' = k := by simpa using hv
      refine brB_i (fun hlt' => ?_) fun hge' => ?_
      · have hlt' : k < i - 1 := by simp at hlt'; omega
        rw [w64 (x := (k : Int) + 1) (by omega) (by omega)]
        have ek : ((k : Int) + 1).toNat = k + 1 := by omega
        have ek' : (k : Int).toNat = k := by omega
        refine hS4.drew.ld (by omega) (by omega) fun e1 e2 e3 e4 => ⟨_, _, _, _, e1, e2, e3, e4, ?_⟩
        refine hS4.drew.ld (by omega) (by omega) fun e1 e2 e3 e4 => ⟨_, _, _, _, e1, e2, e3, e4, ?_⟩
        rw [ek, ek']
        refine hS4.drew.st (by omega) (by omega) ?_
        rw [ek']
        have h2 := hS4.drew.put (i := k) (by omega) (rot D a (a + 1) (k + 1) (k + 1))
        refine h2.st (i := (k : Int) + 1) (by omega) (by omega) ?_
        rw [ek]
        obtain ⟨h3, h4⟩ := hS4.drew.two (i := k) (j := k + 1) (by omega) (by omega)
        rw [rot_up D hk0] at h3
        exact ⟨⟨k + 1, by simp, by omega, by omega, h3, chgb (chg_dr hC4) h4⟩, by show ((i : Int) - ((k : Int) + 1)).toNat < ((i : Int) - k).toNat; omega⟩
      · have hge' : k = i - 1 := by simp at hge'; omega
        subst h1
        rw [show k + 1 = i by omega] at hS4
        have hcut : Cut key D a a (a + 1) i e := ⟨Nat.le_refl _, by omega, hi, hj, by rcases hlt with h | h; exact .inr (.inl h.symm); exact .inr (.inr h), .inl rfl⟩
        obtain ⟨q1, q2⟩ := hcut.all hL hRt (by rcases hle with h | h; exact .inr (.inl h); exact .inr (.inr (by simpa using h))) (.inl rfl)
        exact hR w4 _ hS4 hC4 q1 q2
  rw [w64 (x := (e : Int) - m) (by omega) (by omega)]
  refine brB_i (fun h2 => ?_) fun h2 => ?_
  · -- one on the right
    have h2 : e = m + 1 := by simp at h2; omega
    refine ⟨fun vs u => ∃ i j : Nat, vs = [i64 i, i64 j] ∧ a ≤ i ∧ i ≤ j ∧ j ≤ m ∧ So u b n D ∧ Chg (· = b) w u ∧ (i = a ∨ key (D (i - 1)) ≤ key (D m)) ∧ (j = m ∨ key (D m) < key (D j)),
      fun vs _ => match vs with | [.int _ i, .int _ j] => (j - i).toNat | _ => 0, ⟨a, m, rfl, Nat.le_refl _, by omega, Nat.le_refl _, hS, Chg.refl _ _, .inl rfl, .inl rfl⟩, fun i' j' w1 hI => ?_⟩
    obtain ⟨i, j, hv, hi, hij, hj, hS1, hC1, hle, hlt⟩ := hI
    obtain ⟨rfl, rfl⟩ : i' = i ∧ j' = j := by simpa using hv
    refine brB_i (fun hij' => ?_) fun hij' => ?_
    · have hij' : i < j := by simp at hij'; omega
      refine ⟨fun vs u => ∃ x y : Nat, vs = [i64 x, i64 y] ∧ a ≤ x ∧ x ≤ y ∧ y ≤ m ∧ So u b n D ∧ Chg (· = b) w u ∧ (x = a ∨ key (D (x - 1)) ≤ key (D m)) ∧ (y = m ∨ key (D m) < key (D y)) ∧ y - x < j - i, ?_, fun x' y' w3 hI => ?_⟩
      · rw [mid64 (by omega) (by omega)]
        have eh : (((i : Int) + j) / 2).toNat = (i + j) / 2 := by omega
        have em : (m : Int).toNat = m := by omega
        refine hS1.drew.ld (by omega) (by omega) fun e1 e2 e3 e4 => ⟨_, _, _, _, e1, e2, e3, e4, ?_⟩
        refine hS1.drew.ld (by omega) (by omega) fun e1 e2 e3 e4 => ⟨_, _, _, _, e1, e2, e3, e4, ?_⟩
        rw [eh, em]
        refine hC.go _ (D m) (D ((i + j) / 2)) _ (hC.kp _ _ hQ (chg_dr hC1)) fun c w2 hE2 hc => ⟨c, rfl, ?_⟩
        have hS2 := hS1.drew.ext hE2
        have hC2 := chgb (chg_dr hC1) hE2.chg
        refine brB_i (fun hge' => ?_) fun hlt' => ?_
        · have hge' : key (D ((i + j) / 2)) ≤ key (D m) := by
            have : ¬ c < 0 := by simpa using hge'
            have := mt hc.2 this
            omega
          rw [w64 (x := ((i : Int) + j) / 2 + 1) (by omega) (by omega)]
          exact ⟨(i + j) / 2 + 1, j, by simp, by omega, by omega, hj, hS2, hC2, .inr (by simpa using hge'), hlt, by omega⟩
        · have hlt' : key (D m) < key (D ((i + j) / 2)) := hc.1 (by simpa using hlt')
          exact ⟨i, (i + j) / 2, by simp, hi, by omega, by omega, hS2, hC2, hle, .inr hlt', by omega⟩
      · obtain ⟨x, y, hv, h3, h4, h5, h6, h7, h8, h9, h10⟩ := hI
        obtain ⟨rfl, rfl⟩ : x' = x ∧ y' = y := by simpa using hv
        exact ⟨⟨x, y, rfl, h3, h4, h5, h6, h7, h8, h9⟩, by show ((y : Int) - x).toNat < ((j : Int) - i).toNat; omega⟩
    · have hij' : i = j := by simp at hij'; omega
      subst hij'
      refine ⟨fun vs u => ∃ k : Nat, vs = [i64 k] ∧ i ≤ k ∧ k ≤ m ∧ So u b n (rot D k m (m + 1)) ∧ Chg (· = b) w u, fun vs _ => match vs with | [.int _ k] => k.toNat | _ => 0,
        ⟨m, rfl, by omega, Nat.le_refl _, by rw [rot_none D (.inl rfl)]; exact hS1, hC1⟩, fun k' w8 hI => ?_⟩
      obtain ⟨k, hv, hk0, hk1, hS8, hC8⟩ := hI
      obtain rfl : k' = k := by simpa using hv
      refine brB_i (fun hgt' => ?_) fun hle' => ?_
      · have hgt' : i < k := by simp at hgt'; omega
        obtain ⟨k, rfl⟩ : ∃ j, k = j + 1 := ⟨k - 1, by omega⟩
        rw [w64 (x := ((k + 1 : Nat) : Int) - 1) (by omega) (by omega)]
        have ek : (((k + 1 : Nat) : Int) - 1).toNat = k := by omega
        have ek' : ((k + 1 : Nat) : Int).toNat = k + 1 := by omega
        refine hS8.drew.ld (by omega) (by omega) fun e1 e2 e3 e4 => ⟨_, _, _, _, e1, e2, e3, e4, ?_⟩
        refine hS8.drew.ld (by omega) (by omega) fun e1 e2 e3 e4 => ⟨_, _, _, _, e1, e2, e3, e4, ?_⟩
        rw [ek, ek']
        refine hS8.drew.st (by omega) (by omega) ?_
        rw [ek']
        have h3 := hS8.drew.put (i := k + 1) (by omega) (rot D (k + 1) m (m + 1) k)
        refine h3.st (i := ((k + 1 : Nat) : Int) - 1) (by omega) (by omega) ?_
        rw [ek]
        obtain ⟨h4, h5⟩ := hS8.drew.two (i := k + 1) (j := k) (by omega) (by omega)
        rw [rot_down D hk1] at h4
        exact ⟨⟨k, by simp, by omega, by omega, h4, chgb (chg_dr hC8) h5⟩, by show (((k + 1 : Nat) : Int) - 1).toNat < ((k + 1 : Nat) : Int).toNat; omega⟩
      · have hle' : k = i := by simp at hle'; omega
        subst hle'
        subst h2
        have hcut : Cut key D a k m (m + 1) (m + 1) := ⟨hi, hj, by omega, Nat.le_refl _, by rcases hlt with h | h; exact .inl h; exact .inr (.inr (by simpa using h)), .inr (.inl rfl)⟩
        obtain ⟨q1, q2⟩ := hcut.all hL hRt (.inr (.inl rfl)) (by rcases hle with h | h; exact .inl h; exact .inr (.inr h))
        exact hR w8 _ hS8 hC8 q1 q2
  -- both halves
  have h1 : m - a ≠ 1 := by simp at h1; omega
  have h2 : e - m ≠ 1 := by simp at h2; omega
  have hM : ((a : Int) + e) / 2 = (((a + e) / 2 : Nat) : Int) := by omega
  rw [mid64 (x := (a : Int)) (y := e) (by omega) (by omega), hM]
  generalize hMd : (a + e) / 2 = M
  have M0 : a < M := by omega
  have M1 : M < e := by omega
  rw [w64 (x := (M : Int) + m) (by omega) (by omega), w64 (x := (M : Int) + m - e) (by omega) (by omega), w64 (x := (M : Int) + m - 1) (by omega) (by omega)]
  refine ⟨fun vs u => ∃ s0 r0 : Nat, vs = [i64 s0, i64 r0] ∧ u = w ∧ a ≤ s0 ∧ s0 ≤ r0 ∧ (s0 = a ∨ s0 + e = M + m) ∧ M + m ≤ s0 + e ∧ (r0 = m ∨ (r0 = M ∧ M ≤ m)) ∧ r0 ≤ M, ?_, fun s0' r0' w9 hI => ?_⟩
  · refine brB_i (fun hgt => ?_) fun hle => ?_
    · have hgt : M < m := by simp at hgt; omega
      exact ⟨M + m - e, M, by simp; omega, rfl, by omega, by omega, .inr (by omega), by omega, .inr ⟨rfl, by omega⟩, Nat.le_refl _⟩
    · have hle : m ≤ M := by simp at hle; omega
      exact ⟨a, m, rfl, rfl, Nat.le_refl _, by omega, .inl rfl, by omega, .inl rfl, hle⟩
  obtain ⟨s0, r0, hv, rfl, hs1, hs2, hs3, hs4, hr1, hr2⟩ := hI
  obtain ⟨rfl, rfl⟩ : s0' = s0 ∧ r0' = r0 := by simpa using hv
  refine ⟨fun vs u => ∃ s r : Nat, vs = [i64 s, i64 r] ∧ s0 ≤ s ∧ s ≤ r ∧ r ≤ r0 ∧ So u b n D ∧ Chg (· = b) w9 u ∧ (s = s0 ∨ key (D (s - 1)) ≤ key (D (M + m - s))) ∧ (r = r0 ∨ key (D (M + m - 1 - r)) < key (D r)),
    fun vs _ => match vs with | [.int _ s, .int _ r] => (r - s).toNat | _ => 0, ⟨s0, r0, rfl, Nat.le_refl _, hs2, Nat.le_refl _, hS, Chg.refl _ _, .inl rfl, .inl rfl⟩, fun s' r' w10 hI => ?_⟩
  obtain ⟨s, r, hv, hs, hsr, hr, hS10, hC10, hle, hlt⟩ := hI
  obtain ⟨rfl, rfl⟩ : s' = s ∧ r' = r := by simpa using hv
  refine brB_i (fun hsr' => ?_) fun hsr' => ?_
  · have hsr' : s < r := by simp at hsr'; omega
    refine ⟨fun vs u => ∃ x y : Nat, vs = [i64 x, i64 y] ∧ s0 ≤ x ∧ x ≤ y ∧ y ≤ r0 ∧ So u b n D ∧ Chg (· = b) w9 u ∧ (x = s0 ∨ key (D (x - 1)) ≤ key (D (M + m - x))) ∧ (y = r0 ∨ key (D (M + m - 1 - y)) < key (D y)) ∧ y - x < r - s, ?_, fun x' y' w12 hI => ?_⟩
    · rw [mid64 (by omega) (by omega), w64 (x := (M : Int) + m - 1 - ((s : Int) + r) / 2) (by omega) (by omega)]
      have eh : (((s : Int) + r) / 2).toNat = (s + r) / 2 := by omega
      have em : ((M : Int) + m - 1 - ((s : Int) + r) / 2).toNat = M + m - 1 - (s + r) / 2 := by omega
      refine hS10.drew.ld (by omega) (by omega) fun e1 e2 e3 e4 => ⟨_, _, _, _, e1, e2, e3, e4, ?_⟩
      refine hS10.drew.ld (by omega) (by omega) fun e1 e2 e3 e4 => ⟨_, _, _, _, e1, e2, e3, e4, ?_⟩
      rw [eh, em]
      refine hC.go _ (D (M + m - 1 - (s + r) / 2)) (D ((s + r) / 2)) _ (hC.kp _ _ hQ (chg_dr hC10)) fun c w11 hE11 hc => ⟨c, rfl, ?_⟩
      have hS11 := hS10.drew.ext hE11
      have hC11 := chgb (chg_dr hC10) hE11.chg
      refine brB_i (fun hge' => ?_) fun hlt' => ?_
      · have hge' : key (D ((s + r) / 2)) ≤ key (D (M + m - 1 - (s + r) / 2)) := by
          have : ¬ c < 0 := by simpa using hge'
          have := mt hc.2 this
          omega
        rw [w64 (x := ((s : Int) + r) / 2 + 1) (by omega) (by omega)]
        exact ⟨(s + r) / 2 + 1, r, by simp, by omega, by omega, hr, hS11, hC11, .inr (by rw [show M + m - ((s + r) / 2 + 1) = M + m - 1 - (s + r) / 2 by omega]; simpa using hge'), hlt, by omega⟩
      · have hlt' : key (D (M + m - 1 - (s + r) / 2)) < key (D ((s + r) / 2)) := hc.1 (by simpa using hlt')
        exact ⟨s, (s + r) / 2, by simp, hs, by omega, by omega, hS11, hC11, hle, .inr hlt', by omega⟩
    · obtain ⟨x, y, hv, h3, h4, h5, h6, h7, h8, h9, h10⟩ := hI
      obtain ⟨rfl, rfl⟩ : x' = x ∧ y' = y := by simpa using hv
      exact ⟨⟨x, y, rfl, h3, h4, h5, h6, h7, h8, h9⟩, by show ((y : Int) - x).toNat < ((r : Int) - s).toNat; omega⟩
  have hsr' : s = r := by simp at hsr'; omega
  subst hsr'
  rw [w64 (x := (M : Int) + m - s) (by omega) (by omega)]
  obtain ⟨e', he'⟩ : ∃ e', M + m - s = e' := ⟨_, rfl⟩
  have he2 : (M : Int) + m - s = (e' : Int) := by omega
  rw [he2]
  have hcut : Cut key D a s m e' e := by
    refine ⟨by omega, by omega, by omega, by omega, ?_, ?_⟩
    · rcases hlt with h | h
      · rcases hr1 with h' | h'
        · exact .inl (by omega)
        · exact .inr (.inl (by omega))
      · exact .inr (.inr (by rw [show e' - 1 = M + m - 1 - s by omega]; exact h))
    · rcases hle with h | h
      · rcases hs3 with h' | h'
        · exact .inl (by omega)
        · exact .inr (.inl (by omega))
      · exact .inr (.inr (by rw [← he']; exact h))
  have esm : s + (e' - m) = M := by have := hcut.me; omega
  obtain ⟨l1, l2, l3, l4⟩ := hcut.lo hL hRt
  rw [esm] at l2 l3
  have c1 := hcut.as; have c2 := hcut.sm; have c3 := hcut.me; have c4 := hcut.eb
  refine ⟨fun vs u => vs = [] ∧ So u b n (rot D s m e') ∧ Chg (· = b) w9 u, ?_, fun w14 hI => ?_⟩
  · refine brB_i (fun hb => ?_) fun hb => ?_
    · have hb : s < m ∧ m < e' := by simp at hb; omega
      exact rotate_spec hS10 hb.1 hb.2 (by omega) hn fun w' h3 h4 => ⟨rfl, rfl, h3, chgb hC10 h4⟩
    · have hb : s = m ∨ m = e' := by simp at hb; omega
      refine ⟨rfl, ?_, hC10⟩
      rw [rot_none D (by omega)]; exact hS10
  obtain ⟨_, hS14, hC14⟩ := hI
  refine ⟨fun vs u => vs = [] ∧ ∃ E : Nat → Co, So u b n E ∧ Chg (· = b) w9 u ∧ Rear key (rot D s m e') E a M ∧ AscF key E a M, ?_, fun w16 hI => ?_⟩
  · refine brB_i (fun hb => ?_) fun hb => ?_
    · have hb : a < s ∧ s < M := by simp at hb; omega
      exact ih (by omega) hb.1 hb.2 (by omega) hS14 (hC.kp _ _ hQ hC14) l1 l2 fun w' E h3 h4 h5 h6 => ⟨rfl, rfl, E, h3, chgb hC14 h4, h5, h6⟩
    · have hb : s = a ∨ s = M := by simp at hb; omega
      refine ⟨rfl, _, hS14, hC14, Rear.refl _ _ _ _, ?_⟩
      rcases hb with hb | hb
      · rw [← hb]; exact l2
      · rw [← hb]; exact l1
  obtain ⟨_, E, hS16, hC16, hRe, hA⟩ := hI
  have l3' : AscF key E M e' := l3.congr fun k hk _ => hRe.out k (by omega)
  have l4' : AscF key E e' e := l4.congr fun k hk _ => hRe.out k (by omega)
  refine brB_i (fun hb => ?_) fun hb => ?_
  · have hb : M < e' ∧ e' < e := by simp at hb; omega
    refine ih (by omega) hb.1 hb.2 hen hS16 (hC.kp _ _ hQ hC16) l3' l4' fun w' G h3 h4 h5 h6 => ⟨rfl, ?_⟩
    have q := hcut.merge (E := E) (F := G) hL hRt (by rw [esm]; exact hRe) (by rw [esm]; exact hA) (by rw [esm]; exact h5) (by rw [esm]; exact h6)
    exact hR w' G h3 (chgb hC16 h4) q.1 q.2
  · have hb : e' = M ∨ e' = e := by simp at hb; omega
    have hA2 : AscF key E M e := by
      rcases hb with hb | hb
      · rw [← hb]; exact l4'
      · rw [← hb]; exact l3'
    have q := hcut.merge (E := E) (F := E) hL hRt (by rw [esm]; exact hRe) (by rw [esm]; exact hA) (by rw [esm]; exact Rear.refl _ _ _ _) (by rw [esm]; exact hA2)
    exact hR w16 E hS16 hC16 q.1 q.2
end Go.Proofs.Ytijplekhbpigiaa
